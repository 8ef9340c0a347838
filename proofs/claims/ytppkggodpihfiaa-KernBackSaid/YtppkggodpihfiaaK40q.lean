/- Chapter 40: what is made is parsed again. -/
import Derived.Test.YtppkggodpihfiaaK40p
import Derived.Test.YtppkggodpihfiaaK40n
set_option linter.unusedVariables false
set_option linter.unusedSimpArgs false
set_option maxRecDepth 100000
set_option maxHeartbeats 4000000
namespace Go.Den
section
variable {cl : CL} {i : Nat} {m : List (Nat × Nat × Nat)} {t : List AV} {H : Heap} {d : Option Nat} {o : SO} {r : List SOp}
def guardA (b : Bool) (o : SO) (ap : List (Option (Nat × Bool) × SX)) (cl : CL) (i : Nat) (m : List (Nat × Nat × Nat)) (d : Option Nat) (r : List SOp) (t : List AV) (H : Heap) : Option (List AV × Heap) :=
  if b = true then thenAllA cl i m ap (sop cl t H o) d r t H else opsd cl (i + 1) m r (put t d .undef) H
theorem opsd_ga {g p l} : opsd cl i m (⟨d, o, some g, none, p :: l⟩ :: r) t H = guardA (wants t (some g)) o (p :: l) cl i m d r t H := _root_.id rfl
theorem guardA_t {ap} : guardA true o ap cl i m d r t H = thenAllA cl i m ap (sop cl t H o) d r t H := _root_.id rfl
theorem guardA_f {ap} : guardA false o ap cl i m d r t H = opsd cl (i + 1) m r (put t d .undef) H := _root_.id rfl
end
end Go.Den
namespace Go.Proofs.Ytppkggodpihfiaa
open Go Go.Den
theorem n2_shB {L : List Int} {j : Nat} (hj : j < L.length) : n2 (shB L) (2 * j) = u16N (L.getD j 0) := by
  have hl := shB_len L
  have h := (shB_segs L (shB L) (by omega)).1 (List.take_of_length_le (by omega)) j hj
  rw [← seg2 (by omega)] at h
  exact put_inj (n2_lt _ _) (u16N_lt _) h
theorem row3_at : ∀ (l : List Kn) (i : Nat), i < l.length → (l.flatMap row3).getD (3 * i) 0 = (l.getD i zk).l ∧ (l.flatMap row3).getD (3 * i + 1) 0 = (l.getD i zk).r ∧ (l.flatMap row3).getD (3 * i + 2) 0 = (l.getD i zk).b
  | [], i, h => absurd h (by simp)
  | a :: l, 0, _ => ⟨rfl, rfl, rfl⟩
  | a :: l, i + 1, h => by
    have ih := row3_at l i (by simpa using h)
    rw [List.flatMap_cons, show 3 * (i + 1) = 3 * i + 3 by omega]
    exact ih
theorem numsK_full (l : List Kn) : numsK l l.length = headL l.length ++ l.flatMap row3 := by unfold numsK; rw [List.take_length]
theorem u16_u {n : Int} (h : 0 ≤ n ∧ n ≤ 65535) : ((u16N n : Nat) : Int) = n := by unfold u16N; omega
theorem sg16_u {n : Int} (h : -32768 ≤ n ∧ n ≤ 32767) : sg16 (u16N n) = n := by unfold sg16 u16N; split <;> omega
theorem getD_app {L M : List Int} {j k : Nat} (h : L.length = k) : (L ++ M).getD (k + j) 0 = M.getD j 0 := by
  subst h
  rw [List.getD, List.getD, List.getElem?_append_right (by omega), Nat.add_sub_cancel_left]
theorem back_row {l : List Kn} (hm : mayK l 1024) {i : Nat} (hi : i < l.length) : rowK (shB (numsK l l.length)) i = l.getD i zk := by
  obtain ⟨⟨_, _, hlen⟩, hok⟩ := hm
  obtain ⟨⟨o1, o2⟩, ⟨o3, o4⟩, ⟨o5, o6⟩, _⟩ := hok i hi
  have h9 := headL_len l.length
  have hl3 := row3_len l
  have hL : (numsK l l.length).length = 9 + 3 * l.length := by rw [numsK_full, List.length_append, h9, hl3]
  obtain ⟨r1, r2, r3⟩ := row3_at l i hi
  unfold rowK
  rw [show 18 + 6 * i = 2 * (9 + 3 * i) by omega, show 20 + 6 * i = 2 * (9 + (3 * i + 1)) by omega, show 22 + 6 * i = 2 * (9 + (3 * i + 2)) by omega,
    n2_shB (by omega), n2_shB (by omega), n2_shB (by omega), numsK_full, getD_app h9, getD_app h9, getD_app h9, r1, r2, r3]
  generalize l.getD i zk = k at *
  obtain ⟨x, y, z⟩ := k
  simp only at o1 o2 o3 o4 o5 o6 ⊢
  rw [u16_u (by omega), u16_u (by omega), sg16_u (by omega)]
theorem back_all {l : List Kn} (hm : mayK l 1024) : parsK (makK l).1 1024 = (l, 0) ∧ (makK l).2 = 0 := by
  have hlen := hm.1.2.2
  unfold makK
  rw [if_pos hm]
  refine ⟨?_, rfl⟩
  show parsK (shB (numsK l l.length)) 1024 = (l, 0)
  have h9 := headL_len l.length
  have hl3 := row3_len l
  have hL : (numsK l l.length).length = 9 + 3 * l.length := by rw [numsK_full, List.length_append, h9, hl3]
  have hB : (shB (numsK l l.length)).length = 18 + 6 * l.length := by rw [shB_len, hL]; omega
  have hn : n2 (shB (numsK l l.length)) 10 = l.length := by
    rw [show 10 = 2 * 5 from rfl, n2_shB (by omega), numsK_full]
    rw [show (headL l.length ++ l.flatMap row3).getD 5 0 = (l.length : Int) from rfl]
    unfold u16N; omega
  have ht : (shB (numsK l l.length)).take 18 = shB (headL l.length) := by
    rw [numsK_full, shB_app, List.take_append_of_le_length (by rw [shB_len, h9]; exact Nat.le_refl _), List.take_of_length_le (by rw [shB_len, h9]; exact Nat.le_refl _)]
  have hr : rowsK (shB (numsK l l.length)) l.length = l := by
    refine List.ext_getElem (rowsK_len _ _) fun i h1 h2 => ?_
    have := back_row hm h2
    rw [getK h2] at this
    simpa [rowsK] using this
  unfold parsK
  rw [hn, if_neg (by decide), if_neg (by omega), if_neg (by omega), if_neg (fun h => h ht), if_neg (by omega), if_pos, hr]
  intro i hi
  have h1 := hm.2 i hi
  refine ⟨?_, ?_⟩
  · rw [back_row hm hi]; exact h1.2.1
  · rw [← rises_rows _ hi, hr]; exact h1.2.2.2
theorem c3 {v : AV} {l : List Kn} (hs : SlOf [] 3 Kn.cs v l) (hn : l.length ≤ 9223372036854775807) (n0 n1 n2 : Int) : ∃ H', call env 3 [v, .agg [.int .i64 n0, .int .i64 n1, .int .i64 n2]] [] = some (.bool true, H') := by
  suffices h : ∃ r, call env 3 [v, .agg [.int .i64 n0, .int .i64 n1, .int .i64 n2]] [] = some r ∧ r.1 = .bool true by
    obtain ⟨⟨a, b⟩, h1, rfl⟩ := h
    exact ⟨b, h1⟩
  refine call_endsE (fn := s3) rfl rfl (by simp [s3]) fun W hW => ?_
  have fin : ∀ X : Heap, W (tidy [] (.bool true) X) := fun X => hW _ (by rw [tidy_law])
  have l1 := hs.lenOf
  by_cases h1 : l.length ≤ 100
  · have c1 : ((l.length : Int) > 100) = False := eq_false (by omega)
    have hs := fun X => hs.app X
    have e1 := fun X => c11 (hs X) hn
    have e2 := fun X => c12 (hs X) hn
    have e3 := fun X => c13 (hs X) hn n0
    have e4 := fun X => c14 (hs X) hn n0
    have e5 := fun X => c15 (hs X) hn n1 n2
    have e6 := fun X => c16 (hs X) hn n1 n2
    have k2 : ((makK l).1 != (makK l).1) = false := by simp
    have k3 : ((makK l).2 != (makK l).2) = false := by simp
    have k4 : (decide (mayK l n0) == decide (mayK l n0)) = true := by simp
    have k5 : (byP l n1 n2 != byP l n1 n2) = false := by simp
    by_cases hm : mayK l 1024
    · obtain ⟨hb, hz⟩ := back_all hm
      have hlM : (makK l).1.length ≤ 1000000 := by
        unfold makK; rw [if_pos hm, shB_len]; have := numsK_len l l.length; omega
      obtain ⟨r1, e7, w, X, rfl, s1⟩ := c17 hlM 1024 [.cells [.int .i64 n0, .int .i64 n1, .int .i64 n2] 23 true]
      rw [hb] at e7 s1
      have e8 := c18 s1 (hs _) (by omega)
      rw [hz] at e1 e2 k3
      have k6 : ((0 : Int) == 0) = true := rfl
      generalize (makK l).1 = M at *
      generalize byP l n1 n2 = N at *
      generalize decide (mayK l n0) = D at *
      simp only [List.nil_append, List.cons_append] at e1 e2 e3 e4 e5 e6 e7 e8
      simp only [s3, R1, R2, R3, R4, R5, R6, R7, R8, AV.flat, fillIn_nil, fillIn_cons, splice, AV.cells, AV.one, eqsOf, idx, SO.calls, List.reduceReplicate, Nat.reduceBEq, Nat.reduceLT, Nat.reduceAdd, Nat.reduceMul, Nat.reduceSub, Nat.reduceLeDiff, Nat.reduceEqDiff, ↓reduceIte, Int.reduceLT, Int.reduceEq, Int.reduceBNe, Int.reduceBEq, aeq, Int.reduceLE, Int.reduceNeg, Int.reduceMul, Int.reduceAdd, Int.reduceSub, Int.reduceToNat, Int.reducePow, w10, l1, c1, e1, e2, e3, e4, e5, e6, e7, e8, k2, k3, k4, k5, opsd_ga, guardA_t, guardA_f, leftE_ret, got_some]
      first | exact fin [] | exact fin _
    · have hz : (makK l).2 = 1 := by unfold makK; rw [if_neg hm]
      rw [hz] at e1 e2 k3
      generalize (makK l).1 = M at *
      generalize byP l n1 n2 = N at *
      generalize decide (mayK l n0) = D at *
      simp only [List.nil_append, List.cons_append] at e1 e2 e3 e4 e5 e6
      simp only [s3, R1, R2, R3, R4, R5, R6, R7, R8, AV.flat, fillIn_nil, fillIn_cons, splice, AV.cells, AV.one, eqsOf, idx, SO.calls, List.reduceReplicate, Nat.reduceBEq, Nat.reduceLT, Nat.reduceAdd, Nat.reduceMul, Nat.reduceSub, Nat.reduceLeDiff, Nat.reduceEqDiff, ↓reduceIte, Int.reduceLT, Int.reduceEq, Int.reduceBNe, Int.reduceBEq, aeq, Int.reduceLE, Int.reduceNeg, Int.reduceMul, Int.reduceAdd, Int.reduceSub, Int.reduceToNat, Int.reducePow, w10, l1, c1, e1, e2, e3, e4, e5, e6, k2, k3, k4, k5, opsd_ga, guardA_t, guardA_f, leftE_ret, got_some]
      first | exact fin [] | exact fin _
  · have c1 : ((l.length : Int) > 100) = True := eq_true (by omega)
    simp only [s3, R1, R2, R3, R4, R5, R6, R7, R8, AV.flat, fillIn_nil, fillIn_cons, splice, AV.cells, AV.one, eqsOf, idx, SO.calls, List.reduceReplicate, Nat.reduceBEq, Nat.reduceLT, Nat.reduceAdd, Nat.reduceMul, Nat.reduceSub, Nat.reduceLeDiff, Nat.reduceEqDiff, ↓reduceIte, Int.reduceLT, Int.reduceEq, Int.reduceBNe, Int.reduceBEq, aeq, Int.reduceLE, Int.reduceNeg, Int.reduceMul, Int.reduceAdd, Int.reduceSub, Int.reduceToNat, Int.reducePow, w10, l1, c1, leftE_ret, got_some]
    first | exact fin [] | exact fin _
end Go.Proofs.Ytppkggodpihfiaa
