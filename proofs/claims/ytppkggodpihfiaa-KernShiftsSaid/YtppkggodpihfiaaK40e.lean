/- Chapter 40: what the document says of glyphs that are moved. -/
import Derived.Test.YtppkggodpihfiaaK40d
set_option linter.unusedVariables false
set_option linter.unusedSimpArgs false
set_option maxRecDepth 100000
set_option maxHeartbeats 4000000
namespace Go.Proofs.Ytppkggodpihfiaa
open Go Go.Den
theorem c22 {H : Heap} {v w : AV} {l : List Kn} {p : List Pc} (hs : SlOf H 3 Kn.cs v l) (hp : SlOf H 3 Pc.cs w p) (hn : l.length ≤ 1000) (hm : p.length ≤ 60)
    (hb : ∀ k ∈ l, -1099511627776 ≤ k.b ∧ k.b ≤ 1099511627776) (hx : ∀ q ∈ p, -1099511627776 ≤ q.x ∧ q.x ≤ 1099511627776) :
    ∃ r, call env 22 [v, w] H = some r ∧ ∃ X, r.2 = H ++ X ∧ SlOf (H ++ X) 3 Pc.cs r.1 (shiftP l p) := by
  have l2 := hp.lenOf
  refine call_endsE (fn := s22) rfl rfl (by simp [s22]) fun W hW => ?_
  simp only [s22, R1, R2, R3, R4, R5, R6, R7, R8, AV.flat, fillIn_nil, fillIn_cons, splice, AV.cells, AV.one, eqsOf, idx, SO.calls, List.reduceReplicate, Nat.reduceBEq, Nat.reduceLT, Nat.reduceAdd, Nat.reduceMul, Nat.reduceSub, Nat.reduceLeDiff, Nat.reduceEqDiff, ↓reduceIte, Int.reduceLT, Int.reduceEq, Int.reduceBNe, Int.reduceBEq, aeq, Int.reduceLE, Int.reduceNeg, Int.reduceMul, Int.reduceAdd, Int.reduceSub, Int.reduceToNat, Int.reducePow]
  refine ends_loop (fun k t H' => t.length = 54 ∧ (t.getD 0 .undef = v ∧ t.getD 1 .undef = w) ∧
    ∃ (i : Nat) (X : Heap) (u : AV), i ≤ p.length ∧ k = p.length - i ∧ t.getD 7 .undef = .int .i64 (i : Int) ∧ t.getD 6 .undef = .int .i64 (mvP l p (i - 1)) ∧ t.getD 5 .undef = u ∧ H' = H ++ X ∧ Acc H (H ++ X) 43 3 Pc.cs u ((shiftP l p).take i)) p.length ?_ ?_
  · simp only [R1, R2, R3, R4, R5, R6, R7, R8, AV.flat, fillIn_nil, fillIn_cons, splice, AV.cells, AV.one, eqsOf, idx, SO.calls, List.reduceReplicate, Nat.reduceBEq, Nat.reduceLT, Nat.reduceAdd, Nat.reduceMul, Nat.reduceSub, Nat.reduceLeDiff, Nat.reduceEqDiff, ↓reduceIte, Int.reduceLT, Int.reduceEq, Int.reduceBNe, Int.reduceBEq, aeq, Int.reduceLE, Int.reduceNeg, Int.reduceMul, Int.reduceAdd, Int.reduceSub, Int.reduceToNat, Int.reducePow]
    exact ⟨0, [], .nils, by omega, by omega, rfl, rfl, rfl, by simp, by simpa using Acc.start⟩
  · rintro k t _ ⟨g1, ⟨g2, g3⟩, i, X, u, hi, rfl, g4, g5, g6, rfl, ha⟩
    rw [← tm_nil t]
    by_cases hc : i < p.length
    · have a2 : ((i : Int) < (p.length : Int)) = True := eq_true (by omega)
      have w1 : IntKind.i64.wrap ((i : Int) + 1) = ((i + 1 : Nat) : Int) := by rw [wrap_i64 (by omega) (by omega)]; rfl
      have bx := hx _ (List.getElem_mem hc)
      have bm := mvP_le (by decide) hb p i
      have wx : IntKind.i64.wrap (p[i].x + mvP l p i) = p[i].x + mvP l p i := wrap_i64 (by omega) (by omega)
      have hS : i < (shiftP l p).length := by rw [shiftP_len]; exact hc
      have hT : (shiftP l p).take (i + 1) = (shiftP l p).take i ++ [shOne l p i p[i]] := by rw [List.take_succ_eq_append_getElem hS, shiftP_at l p hc]
      have hlen : ((shiftP l p).take i).length = i := by rw [List.length_take]; omega
      obtain ⟨X', hX, b1, b2⟩ := push_one (B := []) (Z := [.cells (shOne l p i p[i]).cs 43 true]) (m := shOne l p i p[i]) (p := H.length + (X.length + 1)) pc_cel (by simpa using ha) (by omega) (by simp)
      have b2 := b2 [] rfl
      rw [← hT] at b1 b2
      rw [hlen] at b1 b2
      have hK := asK hX
      have E := hp.elem hc
      generalize hL : (shiftP l p).take (i + 1) = L' at *
      generalize L'.flatMap Pc.cs = c2 at *
      by_cases h0 : i = 0
      · subst h0
        have b0 : ((0 : Int) < 0) = False := eq_false (by omega)
        simp only [mvP, shOne] at wx b1 b2
        simp only [Int.natCast_zero, Nat.zero_mul, Nat.zero_add] at *
        generalize p[0] = q1 at *
        obtain ⟨x1, y1, z1⟩ := q1
        simp only [Pc.cs, List.cons_append, List.nil_append, List.append_nil, List.append_assoc] at E b1 b2 wx
        simp only [R1, R2, R3, R4, R5, R6, R7, R8, AV.flat, fillIn_nil, fillIn_cons, splice, AV.cells, AV.one, eqsOf, idx, SO.calls, List.reduceReplicate, Nat.reduceBEq, Nat.reduceLT, Nat.reduceAdd, Nat.reduceMul, Nat.reduceSub, Nat.reduceLeDiff, Nat.reduceEqDiff, ↓reduceIte, Int.reduceLT, Int.reduceEq, Int.reduceBNe, Int.reduceBEq, aeq, Int.reduceLE, Int.reduceNeg, Int.reduceMul, Int.reduceAdd, Int.reduceSub, Int.reduceToNat, Int.reducePow, g1, g2, g3, g4, g5, g6, l2, a2, w1, b0, E, wx, b1]
        exact ⟨_, by omega, 1, _, _, by omega, rfl, rfl, rfl, rfl, rfl, by rw [hL]; exact b2⟩
      · obtain ⟨j, rfl⟩ : ∃ j, i = j + 1 := ⟨i - 1, by omega⟩
        have hj : j < p.length := by omega
        have b0 : (((j + 1 : Nat) : Int) > 0) = True := eq_true (by omega)
        have wj : IntKind.i64.wrap (((j + 1 : Nat) : Int) - 1) = (j : Int) := by rw [wrap_i64 (by omega) (by omega)]; omega
        have F := hp.elem hj
        have hmv : mvP l p (j + 1) = if p[j].y = p[j + 1].y then mvP l p j + byP l p[j].g p[j + 1].g else 0 := by rw [mvP, getD_at hj, getD_at hc]
        have bj := mvP_le (by decide) hb p j
        have bb := byP_le (by decide) hb p[j].g p[j + 1].g
        have L := fun Y => c16 (hs.app Y) (by omega) p[j].g p[j + 1].g
        have wm : IntKind.i64.wrap (mvP l p j + byP l p[j].g p[j + 1].g) = mvP l p j + byP l p[j].g p[j + 1].g := wrap_i64 (by omega) (by omega)
        simp only [Nat.add_sub_cancel] at g5
        simp only [shOne] at b1 b2
        generalize hM1 : mvP l p (j + 1) = M1 at *
        generalize mvP l p j = M0 at *
        generalize p[j] = q0 at *
        generalize p[j + 1] = q1 at *
        obtain ⟨x0, y0, z0⟩ := q0
        obtain ⟨x1, y1, z1⟩ := q1
        simp only [Pc.cs, List.cons_append, List.nil_append, List.append_nil, List.append_assoc] at E F b1 b2 wx wm L hmv
        by_cases hy : z0 = z1
        · have c1 : (z0 == z1) = true := by rw [beq_iff_eq]; exact hy
          rw [if_pos hy] at hmv
          subst hmv
          simp only [R1, R2, R3, R4, R5, R6, R7, R8, AV.flat, fillIn_nil, fillIn_cons, splice, AV.cells, AV.one, eqsOf, idx, SO.calls, List.reduceReplicate, Nat.reduceBEq, Nat.reduceLT, Nat.reduceAdd, Nat.reduceMul, Nat.reduceSub, Nat.reduceLeDiff, Nat.reduceEqDiff, ↓reduceIte, Int.reduceLT, Int.reduceEq, Int.reduceBNe, Int.reduceBEq, aeq, Int.reduceLE, Int.reduceNeg, Int.reduceMul, Int.reduceAdd, Int.reduceSub, Int.reduceToNat, Int.reducePow, g1, g2, g3, g4, g5, g6, l2, a2, w1, b0, wj, E, F, c1, L, wm, wx, b1]
          exact ⟨_, by omega, j + 1 + 1, _, _, by omega, rfl, rfl, by rw [Nat.add_sub_cancel, hM1], rfl, rfl, by rw [hL]; exact b2⟩
        · have c1 : (z0 == z1) = false := by rw [beq_eq_false_iff_ne]; exact hy
          rw [if_neg hy] at hmv
          subst hmv
          simp only [R1, R2, R3, R4, R5, R6, R7, R8, AV.flat, fillIn_nil, fillIn_cons, splice, AV.cells, AV.one, eqsOf, idx, SO.calls, List.reduceReplicate, Nat.reduceBEq, Nat.reduceLT, Nat.reduceAdd, Nat.reduceMul, Nat.reduceSub, Nat.reduceLeDiff, Nat.reduceEqDiff, ↓reduceIte, Int.reduceLT, Int.reduceEq, Int.reduceBNe, Int.reduceBEq, aeq, Int.reduceLE, Int.reduceNeg, Int.reduceMul, Int.reduceAdd, Int.reduceSub, Int.reduceToNat, Int.reducePow, g1, g2, g3, g4, g5, g6, l2, a2, w1, b0, wj, E, F, c1, wx, b1]
          exact ⟨_, by omega, j + 1 + 1, _, _, by omega, rfl, rfl, by rw [Nat.add_sub_cancel, hM1], rfl, rfl, by rw [hL]; exact b2⟩
    · have a2 : ((i : Int) < (p.length : Int)) = False := eq_false (by omega)
      obtain rfl : i = p.length := by omega
      rw [← shiftP_len l p, List.take_length] at ha
      simp only [R1, R2, R3, R4, R5, R6, R7, R8, AV.flat, fillIn_nil, fillIn_cons, splice, AV.cells, AV.one, eqsOf, idx, SO.calls, List.reduceReplicate, Nat.reduceBEq, Nat.reduceLT, Nat.reduceAdd, Nat.reduceMul, Nat.reduceSub, Nat.reduceLeDiff, Nat.reduceEqDiff, ↓reduceIte, Int.reduceLT, Int.reduceEq, Int.reduceBNe, Int.reduceBEq, aeq, Int.reduceLE, Int.reduceNeg, Int.reduceMul, Int.reduceAdd, Int.reduceSub, Int.reduceToNat, Int.reducePow, g1, g2, g3, g4, g5, g6, l2, a2, leftE_ret, got_some]
      rw [ha.tidy fun a _ => pc_cel.flat a]
      exact hW _ ⟨_, rfl, newSl_of (fun a _ => pc_cel.size a) (by decide)⟩
end Go.Proofs.Ytppkggodpihfiaa
