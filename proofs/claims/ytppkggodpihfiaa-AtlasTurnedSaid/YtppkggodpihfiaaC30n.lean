/- Chapter 30: what is behind the beginning: the walk. -/
import Derived.Test.YtppkggodpihfiaaC30m
import Derived.Test.YtppkggodpihfiaaLeftX
set_option linter.unusedVariables false
set_option linter.unusedSimpArgs false
set_option maxRecDepth 100000
set_option maxHeartbeats 4000000
namespace Go.Proofs.Ytppkggodpihfiaa
open Go Go.Den
theorem c66 {K : Nat → AV → AV → AV → Heap} {o N M : Nat} {p : List UInt8} {a : Atl} (h0 : Grw 146 K o N M p a) (hp : p.length ≤ 1000000) (w hh P G R : Nat) (ew : a.w = (w : Int)) (eh : a.h = (hh : Int)) (hw : w ≤ 65535) (hhh : hh ≤ 65535) (hP : P ≤ 16) (hG : G ≤ 1024) (hR : R ≤ 4096) (hsz : sizeP w hh P G R = p.length) :
    ∃ r, call env 66 [.ptr o 0, .str (mkS p), .ptr N 0, .agg [.int .i64 (P : Int), .int .i64 (G : Int), .int .i64 (R : Int)]] (K 30 .nils .nils .nils) = some r ∧ ∃ Z vg vp vs, r = (.tup [], K (30 + 20 * G + 6 * R + 4 * w * hh * P) vg vp vs ++ Z) ∧
      OwnZ M Z 107 8 Ent.cs vg (entsP p G) ∧ OwnZ M Z 113 2 Pr.cs vp (prsP p (30 + 20 * G) R) ∧ OwnZ M Z 9 1 StrC vs (pgsP p (30 + 20 * G + 6 * R) (4 * w * hh) P) := by
  unfold sizeP at hsz
  obtain ⟨one, hone⟩ : ∃ one, one = 4 * w * hh := ⟨_, rfl⟩
  rw [← hone] at hsz ⊢
  obtain ⟨K1, f1, h1, cb⟩ : ∃ K1 : Nat → AV → AV → AV → Heap, (∀ q x y z X, K q x y z ++ (.cells [.int .i64 (P : Int), .int .i64 (G : Int), .int .i64 (R : Int)] 122 true :: X) = K1 q x y z ++ X) ∧ Grw 146 K1 o N (M + 1) p a ∧
      ∀ q x y z, (K1 q x y z)[M]? = some (.cells [.int .i64 (P : Int), .int .i64 (G : Int), .int .i64 (R : Int)] 122 true) := by
    refine ⟨fun q x y z => K q x y z ++ [.cells [.int .i64 (P : Int), .int .i64 (G : Int), .int .i64 (R : Int)] 122 true], fun q x y z X => by simp, h0.app _, fun q x y z => ?_⟩
    rw [List.getElem?_append_right (by rw [h0.len]; exact Nat.le_refl _), h0.len, Nat.sub_self]; rfl
  have f0 := fun q x y z => f1 q x y z []
  simp only [List.append_nil] at f0
  have hlen := h0.len
  obtain ⟨M1, hM1⟩ : ∃ M1, M1 = M + 1 := ⟨_, rfl⟩
  rw [← hM1] at h1
  have hK := fam4 h1.len
  have cl := fun q x y z X n off => aload_row (n := n) (off := off) (getElem?_keep (Y := X) (cb q x y z))
  have cl0 := fun q x y z n off => cl q x y z [] n off
  simp only [List.append_nil] at cl0
  have bl := fun q x y z X => h1.load q x y z 1 8 X (by omega)
  have b2 := fun q x y z X => h1.load q x y z 1 9 X (by omega)
  have b3 := fun q x y z X => h1.load q x y z 1 10 X (by omega)
  have b4 := fun q x y z X => h1.load q x y z 1 6 X (by omega)
  have b5 := fun q x y z X => h1.load q x y z 1 7 X (by omega)
  simp only [Atl.cs, List.drop_succ_cons, List.drop_zero, List.take_succ_cons, List.take_zero, ew, eh] at bl b2 b3 b4 b5
  have sm := fun q q' x y z X Y => h1.same q q' x y z X Y
  have st1 := fun q x y z X n k sz => (h1.store q x y z X n k sz).1
  have st2 := fun q x y z X n k sz => (h1.store q x y z X n k sz).2.1
  have st3 := fun q x y z X n k sz => (h1.store q x y z X n k sz).2.2
  have eu : ∀ q, q + 2 ≤ p.length → ∀ x y z X, call env 89 [.ptr o 0] (K1 q x y z ++ X) = some (.int .i64 (n2 p q : Nat), K1 (q + 2) x y z ++ X) := fun q hq x y z X => r_u16 ((h1.rd x y z).app X) hp hq
  have ei : ∀ q, q + 4 ≤ p.length → ∀ x y z X, call env 92 [.ptr o 0] (K1 q x y z ++ X) = some (.int .i64 (sg32 (n4 p q)), K1 (q + 4) x y z ++ X) := fun q hq x y z X => r_i32 ((h1.rd x y z).app X) hp hq
  refine call_endsE (fn := s66) rfl rfl (by simp [s66]) fun W hW => ?_
  simp only [s66, R1, R2, R3, R4, R5, R6, R7, R8, AV.flat, fillIn_nil, fillIn_cons, splice, AV.cells, AV.one, eqsOf, idx, SO.calls, List.reduceReplicate, Nat.reduceBEq, Nat.reduceLT, Nat.reduceAdd, Nat.reduceMul, Nat.reduceSub, Nat.reduceLeDiff, Nat.reduceEqDiff, ↓reduceIte, Int.reduceLT, Int.reduceEq, Int.reduceBNe, Int.reduceBEq, aeq, Int.reduceLE, Int.reduceNeg, Int.reduceMul, Int.reduceAdd, Int.reduceSub, Int.reduceToNat, Int.reducePow, f0, hlen, cl0]
  refine ends_loop (fun k t H' => t.length = 118 ∧ (t.getD 0 .undef = .ptr o 0 ∧ t.getD 1 .undef = .str (mkS p) ∧ t.getD 2 .undef = .ptr N 0 ∧ t.getD 7 .undef = .ptr M 0 ∧ t.getD 14 .undef = .int .i64 (G : Int)) ∧ ∃ (i : Nat) (Z : Heap) (vg : AV), i ≤ G ∧ k = G - i ∧ t.getD 15 .undef = .int .i64 (i : Int) ∧
    K1 (30 + 20 * i) vg .nils .nils ++ Z = H' ∧ OwnZ M1 Z 107 8 Ent.cs vg (entsP p i)) G ?_ ?_
  · simp only [R1, R2, R3, R4, R5, R6, R7, R8, AV.flat, fillIn_nil, fillIn_cons, splice, AV.cells, AV.one, eqsOf, idx, SO.calls, List.reduceReplicate, Nat.reduceBEq, Nat.reduceLT, Nat.reduceAdd, Nat.reduceMul, Nat.reduceSub, Nat.reduceLeDiff, Nat.reduceEqDiff, ↓reduceIte, Int.reduceLT, Int.reduceEq, Int.reduceBNe, Int.reduceBEq, aeq, Int.reduceLE, Int.reduceNeg, Int.reduceMul, Int.reduceAdd, Int.reduceSub, Int.reduceToNat, Int.reducePow]
    exact ⟨0, [], .nils, by omega, by omega, rfl, by simp, .nils⟩
  · rintro k t _ ⟨g1, ⟨g2, g3, g4, g5, g6⟩, i, Z, vg, hi, rfl, g7, rfl, hO⟩
    rw [← tm_nil t]
    by_cases hc : i < G
    · have a1 : ((i : Int) < (G : Int)) = True := eq_true (by omega)
      have w1 : IntKind.i64.wrap ((i : Int) + 1) = ((i + 1 : Nat) : Int) := by rw [wrap_i64 (by omega) (by omega)]; rfl
      obtain ⟨Z', Rw, hZ, hpush, hO2⟩ := push_ent hO (by omega)
      have hpush := fun q x y z => hpush (K1 q x y z) (h1.len q x y z)
      have hnext : 30 + 20 * i + 20 = 30 + 20 * (i + 1) := by omega
      generalize hb : 30 + 20 * i = b at *
      have e1 := eu b (by omega)
      have e2 : ∀ x y z X, call env 92 [.ptr o 0] (K1 (b + 2) x y z ++ X) = some (.int .i64 (sg32 (n4 p (b + 2))), K1 (b + 6) x y z ++ X) := ei (b + 2) (by omega)
      have e3 : ∀ x y z X, call env 92 [.ptr o 0] (K1 (b + 6) x y z ++ X) = some (.int .i64 (sg32 (n4 p (b + 6))), K1 (b + 10) x y z ++ X) := ei (b + 6) (by omega)
      have e4 : ∀ x y z X, call env 89 [.ptr o 0] (K1 (b + 10) x y z ++ X) = some (.int .i64 (n2 p (b + 10) : Nat), K1 (b + 12) x y z ++ X) := eu (b + 10) (by omega)
      have e5 : ∀ x y z X, call env 89 [.ptr o 0] (K1 (b + 12) x y z ++ X) = some (.int .i64 (n2 p (b + 12) : Nat), K1 (b + 14) x y z ++ X) := eu (b + 12) (by omega)
      have e6 : ∀ x y z X, call env 89 [.ptr o 0] (K1 (b + 14) x y z ++ X) = some (.int .i64 (n2 p (b + 14) : Nat), K1 (b + 16) x y z ++ X) := eu (b + 14) (by omega)
      have e7 : ∀ x y z X, call env 89 [.ptr o 0] (K1 (b + 16) x y z ++ X) = some (.int .i64 (n2 p (b + 16) : Nat), K1 (b + 18) x y z ++ X) := eu (b + 16) (by omega)
      have e8 : ∀ x y z X, call env 89 [.ptr o 0] (K1 (b + 18) x y z ++ X) = some (.int .i64 (n2 p (b + 18) : Nat), K1 (b + 20) x y z ++ X) := eu (b + 18) (by omega)
      simp only [entAt, Ent.cs] at hpush hO2
      have q1 : (M1 + (Z.length + 1) ≤ M1 + (Z.length + 2)) = True := eq_true (by omega)
      have q2 : (M1 + (Z.length + 2) ≤ M1 + (Z'.length + 3)) = True := eq_true (by omega)
      simp only [R1, R2, R3, R4, R5, R6, R7, R8, AV.flat, fillIn_nil, fillIn_cons, splice, AV.cells, AV.one, eqsOf, idx, SO.calls, List.reduceReplicate, Nat.reduceBEq, Nat.reduceLT, Nat.reduceAdd, Nat.reduceMul, Nat.reduceSub, Nat.reduceLeDiff, Nat.reduceEqDiff, ↓reduceIte, Int.reduceLT, Int.reduceEq, Int.reduceBNe, Int.reduceBEq, aeq, Int.reduceLE, Int.reduceNeg, Int.reduceMul, Int.reduceAdd, Int.reduceSub, Int.reduceToNat, Int.reducePow, g1, g2, g3, g4, g5, g6, g7, a1, w1, hK, e1, e2, e3, e4, e5, e6, e7, e8, bl, sm, hpush, st1, shun_un, veil_un, q1, q2]
      exact ⟨_, by omega, i + 1, _, _, by omega, rfl, rfl, by rw [← hnext], hO2⟩
    · have a1 : ((i : Int) < (G : Int)) = False := eq_false (by omega)
      obtain rfl : i = G := by omega
      generalize hQ : 30 + 20 * i = Q at *
      simp only [R1, R2, R3, R4, R5, R6, R7, R8, AV.flat, fillIn_nil, fillIn_cons, splice, AV.cells, AV.one, eqsOf, idx, SO.calls, List.reduceReplicate, Nat.reduceBEq, Nat.reduceLT, Nat.reduceAdd, Nat.reduceMul, Nat.reduceSub, Nat.reduceLeDiff, Nat.reduceEqDiff, ↓reduceIte, Int.reduceLT, Int.reduceEq, Int.reduceBNe, Int.reduceBEq, aeq, Int.reduceLE, Int.reduceNeg, Int.reduceMul, Int.reduceAdd, Int.reduceSub, Int.reduceToNat, Int.reducePow, g1, g2, g3, g4, g5, g6, g7, a1, cl]
      refine ends_loop (fun k t H' => t.length = 118 ∧ (t.getD 0 .undef = .ptr o 0 ∧ t.getD 1 .undef = .str (mkS p) ∧ t.getD 2 .undef = .ptr N 0 ∧ t.getD 7 .undef = .ptr M 0 ∧ t.getD 60 .undef = .int .i64 (R : Int)) ∧ ∃ (j : Nat) (Z : Heap) (vp : AV), j ≤ R ∧ k = R - j ∧ t.getD 61 .undef = .int .i64 (j : Int) ∧
        K1 (Q + 6 * j) vg vp .nils ++ Z = H' ∧ OwnZ M1 Z 107 8 Ent.cs vg (entsP p i) ∧ OwnZ M1 Z 113 2 Pr.cs vp (prsP p Q j)) R ?_ ?_
      · simp only [R1, R2, R3, R4, R5, R6, R7, R8, AV.flat, fillIn_nil, fillIn_cons, splice, AV.cells, AV.one, eqsOf, idx, SO.calls, List.reduceReplicate, Nat.reduceBEq, Nat.reduceLT, Nat.reduceAdd, Nat.reduceMul, Nat.reduceSub, Nat.reduceLeDiff, Nat.reduceEqDiff, ↓reduceIte, Int.reduceLT, Int.reduceEq, Int.reduceBNe, Int.reduceBEq, aeq, Int.reduceLE, Int.reduceNeg, Int.reduceMul, Int.reduceAdd, Int.reduceSub, Int.reduceToNat, Int.reducePow, g1, g2, g3, g4, g5]
        exact ⟨0, Z, .nils, by omega, by omega, rfl, by simp, hO, .nils⟩
      · rintro k t _ ⟨g1, ⟨g2, g3, g4, g5, g6⟩, j, Z, vp, hj, rfl, g7, rfl, hO, hO1⟩
        rw [← tm_nil t]
        by_cases hc : j < R
        · have a1 : ((j : Int) < (R : Int)) = True := eq_true (by omega)
          have w1 : IntKind.i64.wrap ((j : Int) + 1) = ((j + 1 : Nat) : Int) := by rw [wrap_i64 (by omega) (by omega)]; rfl
          obtain ⟨Z', Rw, hZ, hpush, hO2, hO3⟩ := push_pr hO1 (by omega)
          have hO3 := hO3 (by decide) hO
          have hpush := fun q x y z => hpush (K1 q x y z) (h1.len q x y z)
          have hnext : Q + 6 * j + 6 = Q + 6 * (j + 1) := by omega
          generalize hb : Q + 6 * j = b at *
          have e1 := ei b (by omega)
          have e2 : ∀ x y z X, call env 89 [.ptr o 0] (K1 (b + 4) x y z ++ X) = some (.int .i64 (n2 p (b + 4) : Nat), K1 (b + 6) x y z ++ X) := eu (b + 4) (by omega)
          simp only [prAt, Pr.cs] at hpush hO2
          have q1 : (M1 + (Z.length + 1) ≤ M1 + (Z.length + 2)) = True := eq_true (by omega)
          have q2 : (M1 + (Z.length + 2) ≤ M1 + (Z'.length + 3)) = True := eq_true (by omega)
          simp only [R1, R2, R3, R4, R5, R6, R7, R8, AV.flat, fillIn_nil, fillIn_cons, splice, AV.cells, AV.one, eqsOf, idx, SO.calls, List.reduceReplicate, Nat.reduceBEq, Nat.reduceLT, Nat.reduceAdd, Nat.reduceMul, Nat.reduceSub, Nat.reduceLeDiff, Nat.reduceEqDiff, ↓reduceIte, Int.reduceLT, Int.reduceEq, Int.reduceBNe, Int.reduceBEq, aeq, Int.reduceLE, Int.reduceNeg, Int.reduceMul, Int.reduceAdd, Int.reduceSub, Int.reduceToNat, Int.reducePow, g1, g2, g3, g4, g5, g6, g7, a1, w1, hK, e1, e2, b2, sm, hpush, st2, shun_un, veil_un, q1, q2]
          exact ⟨_, by omega, j + 1, _, _, by omega, rfl, rfl, by rw [← hnext], hO3 _, hO2⟩
        · have a1 : ((j : Int) < (R : Int)) = False := eq_false (by omega)
          obtain rfl : j = R := by omega
          generalize hQ2 : Q + 6 * j = Q2 at *
          have m1 : w * hh ≤ 65535 * 65535 := Nat.mul_le_mul hw hhh
          have m2 : 4 * w * hh = 4 * (w * hh) := Nat.mul_assoc _ _ _
          have ho2 : 4 * (w : Int) * (hh : Int) = (one : Int) := by rw [hone]; push_cast; rfl
          have w4 : IntKind.i64.wrap (4 * (w : Int)) = 4 * (w : Int) := wrap_i64 (by omega) (by omega)
          have w5 : IntKind.i64.wrap (4 * (w : Int) * (hh : Int)) = (one : Int) := by rw [ho2]; exact wrap_i64 (by omega) (by omega)
          simp only [R1, R2, R3, R4, R5, R6, R7, R8, AV.flat, fillIn_nil, fillIn_cons, splice, AV.cells, AV.one, eqsOf, idx, SO.calls, List.reduceReplicate, Nat.reduceBEq, Nat.reduceLT, Nat.reduceAdd, Nat.reduceMul, Nat.reduceSub, Nat.reduceLeDiff, Nat.reduceEqDiff, ↓reduceIte, Int.reduceLT, Int.reduceEq, Int.reduceBNe, Int.reduceBEq, aeq, Int.reduceLE, Int.reduceNeg, Int.reduceMul, Int.reduceAdd, Int.reduceSub, Int.reduceToNat, Int.reducePow, g1, g2, g3, g4, g5, g6, g7, a1, cl, b4, b5, w4, w5, shun_un, veil_un]
          refine ends_loop (fun k t H' => t.length = 118 ∧ (t.getD 0 .undef = .ptr o 0 ∧ t.getD 1 .undef = .str (mkS p) ∧ t.getD 2 .undef = .ptr N 0 ∧ t.getD 10 .undef = .int .i64 (one : Int) ∧ t.getD 93 .undef = .int .i64 (P : Int)) ∧ ∃ (m : Nat) (Z : Heap) (vs : AV), m ≤ P ∧ k = P - m ∧ t.getD 94 .undef = .int .i64 (m : Int) ∧
            K1 (Q2 + one * m) vg vp vs ++ Z = H' ∧ OwnZ M1 Z 107 8 Ent.cs vg (entsP p i) ∧ OwnZ M1 Z 113 2 Pr.cs vp (prsP p Q j) ∧ OwnZ M1 Z 9 1 StrC vs (pgsP p Q2 one m)) P ?_ ?_
          · simp only [R1, R2, R3, R4, R5, R6, R7, R8, AV.flat, fillIn_nil, fillIn_cons, splice, AV.cells, AV.one, eqsOf, idx, SO.calls, List.reduceReplicate, Nat.reduceBEq, Nat.reduceLT, Nat.reduceAdd, Nat.reduceMul, Nat.reduceSub, Nat.reduceLeDiff, Nat.reduceEqDiff, ↓reduceIte, Int.reduceLT, Int.reduceEq, Int.reduceBNe, Int.reduceBEq, aeq, Int.reduceLE, Int.reduceNeg, Int.reduceMul, Int.reduceAdd, Int.reduceSub, Int.reduceToNat, Int.reducePow, g1, g2, g3, g4]
            exact ⟨0, Z, .nils, by omega, by omega, rfl, by simp, hO, hO1, .nils⟩
          · rintro k t _ ⟨g1, ⟨g2, g3, g4, g5, g6⟩, m, Z, vs, hm, rfl, g7, rfl, hO, hO1, hO2⟩
            rw [← tm_nil t]
            by_cases hc : m < P
            · have a1 : ((m : Int) < (P : Int)) = True := eq_true (by omega)
              have w1 : IntKind.i64.wrap ((m : Int) + 1) = ((m + 1 : Nat) : Int) := by rw [wrap_i64 (by omega) (by omega)]; rfl
              obtain ⟨Z', Rw, hZ, hpush, hP2, hP3⟩ := push_pg hO2 (by omega)
              have hG3 := hP3 (by decide) hO
              have hR3 := hP3 (by decide) hO1
              have hpush := fun q x y z => hpush (K1 q x y z) (h1.len q x y z)
              have hnext : Q2 + one * m + one = Q2 + one * (m + 1) := by rw [Nat.mul_succ]; omega
              have hroom : Q2 + one * m + one ≤ p.length := by
                rw [hnext]
                have : one * (m + 1) ≤ one * P := Nat.mul_le_mul_left _ (by omega)
                omega
              generalize hb : Q2 + one * m = b at *
              have e1 := fun x y z X => r_At ((h1.rd x y z).app X) b
              have e2 := fun H => c81 p (b : Int) (one : Int) H hp
              rw [cut_all hroom] at e2
              have e3 := fun x y z X => r_Skip ((h1.rd x y z).app X) hp hroom
              simp only [cutS, cutE, Option.isSome] at e2
              simp only [R1, R2, R3, R4, R5, R6, R7, R8, AV.flat, fillIn_nil, fillIn_cons, splice, AV.cells, AV.one, eqsOf, idx, SO.calls, List.reduceReplicate, Nat.reduceBEq, Nat.reduceLT, Nat.reduceAdd, Nat.reduceMul, Nat.reduceSub, Nat.reduceLeDiff, Nat.reduceEqDiff, ↓reduceIte, Int.reduceLT, Int.reduceEq, Int.reduceBNe, Int.reduceBEq, aeq, Int.reduceLE, Int.reduceNeg, Int.reduceMul, Int.reduceAdd, Int.reduceSub, Int.reduceToNat, Int.reducePow, g1, g2, g3, g4, g5, g6, g7, a1, w1, hK, e1, e2, e3, b3, sm, hpush, st3]
              exact ⟨_, by omega, m + 1, _, _, by omega, rfl, rfl, by rw [← hnext], hG3 _, hR3 _, hP2⟩
            · have a1 : ((m : Int) < (P : Int)) = False := eq_false (by omega)
              obtain rfl : m = P := by omega
              simp only [R1, R2, R3, R4, R5, R6, R7, R8, AV.flat, fillIn_nil, fillIn_cons, splice, AV.cells, AV.one, eqsOf, idx, SO.calls, List.reduceReplicate, Nat.reduceBEq, Nat.reduceLT, Nat.reduceAdd, Nat.reduceMul, Nat.reduceSub, Nat.reduceLeDiff, Nat.reduceEqDiff, ↓reduceIte, Int.reduceLT, Int.reduceEq, Int.reduceBNe, Int.reduceBEq, aeq, Int.reduceLE, Int.reduceNeg, Int.reduceMul, Int.reduceAdd, Int.reduceSub, Int.reduceToNat, Int.reducePow, g1, g2, g3, g4, g5, g6, g7, a1, leftE_normal, got_some]
              rw [← f1]
              rw [hM1] at hO hO1 hO2
              obtain ⟨Z2, t1, t2, t3, t4⟩ := tidy_grw h0 (q := 30) (q' := Q2 + one * m) (hO.down (K := [.cells [.int .i64 (m : Int), .int .i64 (i : Int), .int .i64 (j : Int)] 122 true])) (hO1.down (K := [.cells [.int .i64 (m : Int), .int .i64 (i : Int), .int .i64 (j : Int)] 122 true])) (hO2.down (K := [.cells [.int .i64 (m : Int), .int .i64 (i : Int), .int .i64 (j : Int)] 122 true]))
              simp only [List.cons_append, List.nil_append] at t1
              rw [t1]
              exact hW _ ⟨Z2, vg, vp, vs, rfl, t2, t3, t4⟩
end Go.Proofs.Ytppkggodpihfiaa
