/- Chapter 02, the document's numbers: which is greater; sums and differences of digits. -/
import Derived.Test.YtdlolhkeckjipaaDoorN02a
set_option linter.unusedVariables false
set_option linter.unusedSimpArgs false
set_option maxRecDepth 100000
set_option maxHeartbeats 8000000
namespace Go.Proofs.YtdlolhkeckjipaaDoor
open Go Go.Den
def cmpN (a b : Nat) : Int := if a < b then -1 else if b < a then 1 else 0
theorem c57 {H : Heap} {v w : AV} {a b : Nat} (h1 : DOf H v (digs a)) (h2 : DOf H w (digs b)) (n1 : (digs a).length ≤ 100000) (n2 : (digs b).length ≤ 100000) (X : Heap) : call env 57 [v, w] (H ++ X) = some (.int .i64 (cmpN a b), H ++ X) := by
  have l1 := h1.of.lenOf
  have l2 := h2.of.lenOf
  refine call_ends (fn := s57) rfl rfl (by simp [s57]) ?_
  unfold cmpN
  by_cases c1 : (digs a).length = (digs b).length
  rotate_left
  · have a1 : (((digs a).length : Int) != ((digs b).length : Int)) = true := by rw [bne_iff_ne]; omega
    by_cases c2 : (digs a).length < (digs b).length
    · have a2 : (((digs a).length : Int) < ((digs b).length : Int)) = True := eq_true (by omega)
      rw [if_pos (digs_longer c2)]
      simp only [s57, R1, R2, R3, R4, R5, R6, R7, R8, AV.flat, fillIn_nil, fillIn_cons, splice, AV.cells, AV.one, eqsOf, idx, SO.calls, List.reduceReplicate, Nat.reduceBEq, Nat.reduceLT, Nat.reduceAdd, Nat.reduceMul, Nat.reduceSub, Nat.reduceLeDiff, Nat.reduceEqDiff, ↓reduceIte, Int.reduceLT, Int.reduceEq, Int.reduceBNe, Int.reduceBEq, aeq, Int.reduceLE, Int.reduceNeg, Int.reduceMul, Int.reduceAdd, Int.reduceSub, Int.reduceToNat, Int.reducePow, l1, l2, a1, a2]
      rw [tidy_int]
    · have a2 : (((digs a).length : Int) < ((digs b).length : Int)) = False := eq_false (by omega)
      have := digs_longer (show (digs b).length < (digs a).length by omega)
      rw [if_neg (by omega), if_pos this]
      simp only [s57, R1, R2, R3, R4, R5, R6, R7, R8, AV.flat, fillIn_nil, fillIn_cons, splice, AV.cells, AV.one, eqsOf, idx, SO.calls, List.reduceReplicate, Nat.reduceBEq, Nat.reduceLT, Nat.reduceAdd, Nat.reduceMul, Nat.reduceSub, Nat.reduceLeDiff, Nat.reduceEqDiff, ↓reduceIte, Int.reduceLT, Int.reduceEq, Int.reduceBNe, Int.reduceBEq, aeq, Int.reduceLE, Int.reduceNeg, Int.reduceMul, Int.reduceAdd, Int.reduceSub, Int.reduceToNat, Int.reducePow, l1, l2, a1, a2]
      rw [tidy_int]
  have a1 : (((digs a).length : Int) != ((digs b).length : Int)) = false := by rw [bne_eq_false_iff_eq]; omega
  obtain ⟨n, hn⟩ : ∃ n, n = (digs a).length := ⟨_, rfl⟩
  have w0 : IntKind.i64.wrap ((n : Int) - 1) = (n : Int) - 1 := wrap_i64 (by omega) (by omega)
  rw [← hn] at a1 l1
  simp only [s57, R1, R2, R3, R4, R5, R6, R7, R8, AV.flat, fillIn_nil, fillIn_cons, splice, AV.cells, AV.one, eqsOf, idx, SO.calls, List.reduceReplicate, Nat.reduceBEq, Nat.reduceLT, Nat.reduceAdd, Nat.reduceMul, Nat.reduceSub, Nat.reduceLeDiff, Nat.reduceEqDiff, ↓reduceIte, Int.reduceLT, Int.reduceEq, Int.reduceBNe, Int.reduceBEq, aeq, Int.reduceLE, Int.reduceNeg, Int.reduceMul, Int.reduceAdd, Int.reduceSub, Int.reduceToNat, Int.reducePow, l1, l2, a1, w0]
  refine ends_loop (fun k t H' => t.length = 41 ∧ H ++ X = H' ∧ t.getD 0 .undef = v ∧ t.getD 1 .undef = w ∧ k ≤ n ∧ t.getD 5 .undef = .int .i64 ((k : Int) - 1) ∧ (digs a).drop k = (digs b).drop k) n ?_ ?_
  · simp only [R1, R2, R3, R4, R5, R6, R7, R8, AV.flat, fillIn_nil, fillIn_cons, splice, AV.cells, AV.one, eqsOf, idx, SO.calls, List.reduceReplicate, Nat.reduceBEq, Nat.reduceLT, Nat.reduceAdd, Nat.reduceMul, Nat.reduceSub, Nat.reduceLeDiff, Nat.reduceEqDiff, ↓reduceIte, Int.reduceLT, Int.reduceEq, Int.reduceBNe, Int.reduceBEq, aeq, Int.reduceLE, Int.reduceNeg, Int.reduceMul, Int.reduceAdd, Int.reduceSub, Int.reduceToNat, Int.reducePow]
    rw [List.drop_of_length_le (by omega), List.drop_of_length_le (by omega)]
  rintro k t _ ⟨k1, rfl, k2, k3, hk, k4, he⟩
  rw [← tm_nil t]
  by_cases h0 : k = 0
  · have a2 : ((k : Int) - 1 ≥ 0) = False := eq_false (by omega)
    rw [h0, List.drop_zero, List.drop_zero] at he
    have := digs_inj he
    rw [if_neg (by omega), if_neg (by omega)]
    simp only [R1, R2, R3, R4, R5, R6, R7, R8, AV.flat, fillIn_nil, fillIn_cons, splice, AV.cells, AV.one, eqsOf, idx, SO.calls, List.reduceReplicate, Nat.reduceBEq, Nat.reduceLT, Nat.reduceAdd, Nat.reduceMul, Nat.reduceSub, Nat.reduceLeDiff, Nat.reduceEqDiff, ↓reduceIte, Int.reduceLT, Int.reduceEq, Int.reduceBNe, Int.reduceBEq, aeq, Int.reduceLE, Int.reduceNeg, Int.reduceMul, Int.reduceAdd, Int.reduceSub, Int.reduceToNat, Int.reducePow, k1, k2, k3, k4, a2]
    rw [tidy_int]
  obtain ⟨i, rfl⟩ : ∃ i, k = i + 1 := ⟨k - 1, by omega⟩
  have ei : ((i + 1 : Nat) : Int) - 1 = (i : Int) := by omega
  rw [ei] at k4
  have a2 : ((i : Int) ≥ 0) = True := eq_true (by omega)
  have w1 : IntKind.i64.wrap ((i : Int) - 1) = (i : Int) - 1 := wrap_i64 (by omega) (by omega)
  have g1 := w64_addr h1 (i := i) (by omega)
  have g2 := w64_load h1 (i := i) (by omega) X
  have g3 := w64_addr h2 (i := i) (by omega)
  have g4 := w64_load h2 (i := i) (by omega) X
  have q1 := fun h => less_at (dig_digs a) (dig_digs b) (i := i) (by omega) (by omega) he h
  have q2 := fun h => less_at (dig_digs b) (dig_digs a) (i := i) (by omega) (by omega) he.symm h
  have q3 : (digs a).getD i 0 = (digs b).getD i 0 → (digs a).drop i = (digs b).drop i := fun h => by
    rw [List.drop_eq_getElem_cons (show i < (digs a).length by omega), List.drop_eq_getElem_cons (show i < (digs b).length by omega), he]
    rw [List.getD, List.getD, List.getElem?_eq_getElem (by omega), List.getElem?_eq_getElem (by omega)] at h
    simp only [Option.getD_some] at h
    rw [h]
  rw [val_digs, val_digs] at q1 q2
  generalize (digs a).getD i 0 = x at *
  generalize (digs b).getD i 0 = y at *
  by_cases c2 : x < y
  · have a3 : ((x : Int) < (y : Int)) = True := eq_true (by omega)
    rw [if_pos (q1 c2)]
    simp only [R1, R2, R3, R4, R5, R6, R7, R8, AV.flat, fillIn_nil, fillIn_cons, splice, AV.cells, AV.one, eqsOf, idx, SO.calls, List.reduceReplicate, Nat.reduceBEq, Nat.reduceLT, Nat.reduceAdd, Nat.reduceMul, Nat.reduceSub, Nat.reduceLeDiff, Nat.reduceEqDiff, ↓reduceIte, Int.reduceLT, Int.reduceEq, Int.reduceBNe, Int.reduceBEq, aeq, Int.reduceLE, Int.reduceNeg, Int.reduceMul, Int.reduceAdd, Int.reduceSub, Int.reduceToNat, Int.reducePow, k1, k2, k3, k4, a2, a3, w1, g1, g2, g3, g4, veil_un, shun_un]
    rw [tidy_int]
  · have a3 : ((x : Int) < (y : Int)) = False := eq_false (by omega)
    by_cases c3 : y < x
    · have a4 : ((x : Int) > (y : Int)) = True := eq_true (by omega)
      have := q2 c3
      rw [if_neg (by omega), if_pos this]
      simp only [R1, R2, R3, R4, R5, R6, R7, R8, AV.flat, fillIn_nil, fillIn_cons, splice, AV.cells, AV.one, eqsOf, idx, SO.calls, List.reduceReplicate, Nat.reduceBEq, Nat.reduceLT, Nat.reduceAdd, Nat.reduceMul, Nat.reduceSub, Nat.reduceLeDiff, Nat.reduceEqDiff, ↓reduceIte, Int.reduceLT, Int.reduceEq, Int.reduceBNe, Int.reduceBEq, aeq, Int.reduceLE, Int.reduceNeg, Int.reduceMul, Int.reduceAdd, Int.reduceSub, Int.reduceToNat, Int.reducePow, k1, k2, k3, k4, a2, a3, a4, w1, g1, g2, g3, g4, veil_un, shun_un]
      rw [tidy_int]
    · have a4 : ((x : Int) > (y : Int)) = False := eq_false (by omega)
      simp only [R1, R2, R3, R4, R5, R6, R7, R8, AV.flat, fillIn_nil, fillIn_cons, splice, AV.cells, AV.one, eqsOf, idx, SO.calls, List.reduceReplicate, Nat.reduceBEq, Nat.reduceLT, Nat.reduceAdd, Nat.reduceMul, Nat.reduceSub, Nat.reduceLeDiff, Nat.reduceEqDiff, ↓reduceIte, Int.reduceLT, Int.reduceEq, Int.reduceBNe, Int.reduceBEq, aeq, Int.reduceLE, Int.reduceNeg, Int.reduceMul, Int.reduceAdd, Int.reduceSub, Int.reduceToNat, Int.reducePow, k1, k2, k3, k4, a2, a3, a4, w1, g1, g2, g3, g4, veil_un, shun_un]
      exact ⟨i, by omega, by omega, rfl, q3 (by omega)⟩
theorem acc_t {α : Type} {H X : Heap} {e : TypeId} {sz : Nat} {g : α → List AV} {v : AV} {l : List α} (h : Acc H (H ++ X) e sz g v l) (hg : Cel sz g) : TOf (H ++ X) e sz g v l := by
  refine ⟨own_sl hg (acc_own h), fun o off len s cap hv => ?_⟩
  obtain ⟨Y, _, hx⟩ := h.heap
  rcases acc_own h with ⟨h1, _⟩ | ⟨o', h1, h2⟩
  · rw [h1] at hv; cases hv
  · rw [h1] at hv
    injection hv with hv
    subst hv
    exact ⟨_, _, h2⟩
/-- One more element of one cell. -/
theorem push1 {α : Type} {H X : Heap} {e : TypeId} {g : α → List AV} {v : AV} {l : List α} (hg : Cel 1 g) (h : Acc H (H ++ X) e 1 g v l) (hl : l.length ≤ 1000000) (d : α) :
    ∃ v' Y, aapp (H ++ (X ++ [.cells (g d) e true])) e 1 v (.sl (H.length + X.length) 0 1 1 (some 1)) = some (v', H ++ Y) ∧ Acc H (H ++ Y) e 1 g v' (l ++ [d]) := by
  have hj := h.junk [.cells (g d) e true]
  have hlen := hg.size d
  obtain ⟨v', H2, h1, h2⟩ := hj.push (m := [d]) (x := .sl (H.length + X.length) 0 1 1 (some 1)) (by simp) (fun a _ => hg.size a) (fun a _ => hg.one a) rfl (by
    simp [newOf, acells, aload, arow, hlen, List.take_of_length_le, List.getElem?_append_right]) (by simp; omega)
  obtain ⟨Y, rfl⟩ := h2.above
  rw [List.append_assoc] at h1
  exact ⟨v', Y, h1, h2⟩
theorem c56 {H : Heap} {v w : AV} {l m : List Nat} (h1 : DOf H v l) (h2 : DOf H w m) (d1 : Dig l) (d2 : Dig m) (n1 : l.length ≤ 50000) (n2 : m.length ≤ 50000) :
    Comes (call env 56 [v, w] H) fun r H1 => ∃ X O, H1 = H ++ X ∧ DOf H1 r O ∧ Dig O ∧ val O = val l + val m ∧ O.length ≤ max l.length m.length + 1 := by
  have l1 := h1.of.lenOf
  have l2 := h2.of.lenOf
  refine comes_call (fn := s56) rfl rfl (by simp [s56]) ?_
  simp only [s56, R1, R2, R3, R4, R5, R6, R7, R8, AV.flat, fillIn_nil, fillIn_cons, splice, AV.cells, AV.one, eqsOf, idx, SO.calls, List.reduceReplicate, Nat.reduceBEq, Nat.reduceLT, Nat.reduceAdd, Nat.reduceMul, Nat.reduceSub, Nat.reduceLeDiff, Nat.reduceEqDiff, ↓reduceIte, Int.reduceLT, Int.reduceEq, Int.reduceBNe, Int.reduceBEq, aeq, Int.reduceLE, Int.reduceNeg, Int.reduceMul, Int.reduceAdd, Int.reduceSub, Int.reduceToNat, Int.reducePow, l1, l2]
  refine ends_loop (fun k t H' => t.length = 42 ∧ t.getD 0 .undef = v ∧ t.getD 1 .undef = w ∧ ∃ X r O i c, H ++ X = H' ∧ Acc H (H ++ X) 45 1 W64 r O ∧ Dig O ∧ O.length = i ∧ i ≤ max l.length m.length + 1 ∧ c ≤ 1 ∧ (i ≤ max l.length m.length ∨ c = 0) ∧ k = max l.length m.length + 1 - i ∧
    t.getD 5 .undef = r ∧ t.getD 6 .undef = .int .u64 ((c : Nat) : Int) ∧ t.getD 7 .undef = .int .i64 ((i : Nat) : Int) ∧ val O + 65536 ^ i * c = val (l.take i) + val (m.take i)) (max l.length m.length + 1) ?_ ?_
  · simp only [R1, R2, R3, R4, R5, R6, R7, R8, AV.flat, fillIn_nil, fillIn_cons, splice, AV.cells, AV.one, eqsOf, idx, SO.calls, List.reduceReplicate, Nat.reduceBEq, Nat.reduceLT, Nat.reduceAdd, Nat.reduceMul, Nat.reduceSub, Nat.reduceLeDiff, Nat.reduceEqDiff, ↓reduceIte, Int.reduceLT, Int.reduceEq, Int.reduceBNe, Int.reduceBEq, aeq, Int.reduceLE, Int.reduceNeg, Int.reduceMul, Int.reduceAdd, Int.reduceSub, Int.reduceToNat, Int.reducePow]
    exact ⟨[], .nils, [], 0, 0, by simp, by simpa using Acc.start, Dig.nil, rfl, by omega, by omega, by omega, by omega, rfl, rfl, by simp [val]⟩
  rintro k t _ ⟨k1, k2, k3, X, r, O, i, c, rfl, ha, hO, hOl, hi, hc, hic, hk, k4, k5, k6, hv⟩
  rw [← tm_nil t]
  by_cases hin : i < l.length ∨ i < m.length ∨ 0 < c
  · have a0 : (decide ((i : Int) < (l.length : Int)) || decide ((i : Int) < (m.length : Int)) || decide ((c : Int) > 0)) = true := by
      simp only [Bool.or_eq_true, decide_eq_true_eq]; omega
    have e1 := fun Y => c72 (h1.app Y) i
    have e2 := fun Y => c72 (h2.app Y) i
    have b1 := d1.at i
    have b2 := d2.at i
    have hs1 := val_suc l i
    have hs2 := val_suc m i
    have hst := plus_step (x := l.getD i 0 + m.getD i 0 + c) rfl hv (l.getD i 0) (m.getD i 0) rfl
    have z1 : ¬ i < l.length → l.getD i 0 = 0 := fun h => by simp [List.getD, h]
    have z2 : ¬ i < m.length → m.getD i 0 = 0 := fun h => by simp [List.getD, h]
    generalize l.getD i 0 = a at *
    generalize m.getD i 0 = b at *
    have w1 : IntKind.u64.wrap ((a : Int) + (b : Int)) = ((a + b : Nat) : Int) := by rw [wrap_u64_mod]; omega
    have w2 : IntKind.u64.wrap (((a + b : Nat) : Int) + (c : Int)) = ((a + b + c : Nat) : Int) := by rw [wrap_u64_mod]; omega
    have w3 : ((a + b + c : Nat) : Int).tmod 65536 = (((a + b + c) % 65536 : Nat) : Int) := by rw [Int.tmod_eq_emod_of_nonneg (by omega)]; omega
    have w4 : IntKind.u64.wrap (((a + b + c : Nat) : Int).tdiv 65536) = (((a + b + c) / 65536 : Nat) : Int) := by rw [Int.tdiv_eq_ediv_of_nonneg (by omega), wrap_u64_mod]; omega
    have w5 : IntKind.i64.wrap ((i : Int) + 1) = ((i + 1 : Nat) : Int) := by rw [wrap_i64 (by omega) (by omega)]; rfl
    obtain ⟨r', Y, p1, p2⟩ := push1 w64_cel ha (by omega) ((a + b + c) % 65536)
    simp only [W64] at p1
    have fin : ∃ j, j < k ∧ ∃ X r O i' c', H ++ X = H ++ Y ∧ Acc H (H ++ X) 45 1 W64 r O ∧ Dig O ∧ O.length = i' ∧ i' ≤ max l.length m.length + 1 ∧ c' ≤ 1 ∧ (i' ≤ max l.length m.length ∨ c' = 0) ∧ j = max l.length m.length + 1 - i' ∧
        r' = r ∧ AV.int .u64 (((a + b + c) / 65536 : Nat) : Int) = .int .u64 ((c' : Nat) : Int) ∧ AV.int .i64 ((i + 1 : Nat) : Int) = .int .i64 ((i' : Nat) : Int) ∧ val O + 65536 ^ i' * c' = val (l.take i') + val (m.take i') := by
      refine ⟨max l.length m.length + 1 - (i + 1), by omega, Y, r', O ++ [(a + b + c) % 65536], i + 1, (a + b + c) / 65536, rfl, p2, hO.app (Dig.one (by omega)), by simp [hOl], by omega, by omega, ?_, rfl, rfl, rfl, rfl, ?_⟩
      · omega
      · rw [val_snoc, hs1, hs2, hOl, ← hst, Nat.pow_succ]
    rcases (show (i < l.length) ∨ (¬ i < l.length ∧ i < m.length) ∨ (¬ i < l.length ∧ ¬ i < m.length ∧ 0 < c) by omega) with q | ⟨q, q'⟩ | ⟨q, q', q''⟩
    · have a1 : ((i : Int) < (l.length : Int)) = True := eq_true (by omega)
      simp only [R1, R2, R3, R4, R5, R6, R7, R8, AV.flat, fillIn_nil, fillIn_cons, splice, AV.cells, AV.one, eqsOf, idx, SO.calls, List.reduceReplicate, Nat.reduceBEq, Nat.reduceLT, Nat.reduceAdd, Nat.reduceMul, Nat.reduceSub, Nat.reduceLeDiff, Nat.reduceEqDiff, ↓reduceIte, Int.reduceLT, Int.reduceEq, Int.reduceBNe, Int.reduceBEq, aeq, Int.reduceLE, Int.reduceNeg, Int.reduceMul, Int.reduceAdd, Int.reduceSub, Int.reduceToNat, Int.reducePow, k1, k2, k3, k4, k5, k6, l1, l2, a1, e1, e2, w1, w2, w3, w4, w5, p1]
      exact fin
    · have a1 : ((i : Int) < (l.length : Int)) = False := eq_false (by omega)
      have a2 : ((i : Int) < (m.length : Int)) = True := eq_true (by omega)
      simp only [R1, R2, R3, R4, R5, R6, R7, R8, AV.flat, fillIn_nil, fillIn_cons, splice, AV.cells, AV.one, eqsOf, idx, SO.calls, List.reduceReplicate, Nat.reduceBEq, Nat.reduceLT, Nat.reduceAdd, Nat.reduceMul, Nat.reduceSub, Nat.reduceLeDiff, Nat.reduceEqDiff, ↓reduceIte, Int.reduceLT, Int.reduceEq, Int.reduceBNe, Int.reduceBEq, aeq, Int.reduceLE, Int.reduceNeg, Int.reduceMul, Int.reduceAdd, Int.reduceSub, Int.reduceToNat, Int.reducePow, k1, k2, k3, k4, k5, k6, l1, l2, a1, a2, e1, e2, w1, w2, w3, w4, w5, p1]
      exact fin
    · have a1 : ((i : Int) < (l.length : Int)) = False := eq_false (by omega)
      have a2 : ((i : Int) < (m.length : Int)) = False := eq_false (by omega)
      have a3 : ((c : Int) > 0) = True := eq_true (by omega)
      simp only [R1, R2, R3, R4, R5, R6, R7, R8, AV.flat, fillIn_nil, fillIn_cons, splice, AV.cells, AV.one, eqsOf, idx, SO.calls, List.reduceReplicate, Nat.reduceBEq, Nat.reduceLT, Nat.reduceAdd, Nat.reduceMul, Nat.reduceSub, Nat.reduceLeDiff, Nat.reduceEqDiff, ↓reduceIte, Int.reduceLT, Int.reduceEq, Int.reduceBNe, Int.reduceBEq, aeq, Int.reduceLE, Int.reduceNeg, Int.reduceMul, Int.reduceAdd, Int.reduceSub, Int.reduceToNat, Int.reducePow, k1, k2, k3, k4, k5, k6, l1, l2, a1, a2, a3, e1, e2, w1, w2, w3, w4, w5, p1]
      exact fin
  · have a1 : ((i : Int) < (l.length : Int)) = False := eq_false (by omega)
    have a2 : ((i : Int) < (m.length : Int)) = False := eq_false (by omega)
    have a3 : ((c : Int) > 0) = False := eq_false (by omega)
    have c0 : c = 0 := by omega
    rw [val_all (by omega), val_all (by omega), c0, Nat.mul_zero, Nat.add_zero] at hv
    obtain ⟨r', X', t1, t2⟩ := t_tidy Cx.here (acc_t ha w64_cel)
    simp only [R1, R2, R3, R4, R5, R6, R7, R8, AV.flat, fillIn_nil, fillIn_cons, splice, AV.cells, AV.one, eqsOf, idx, SO.calls, List.reduceReplicate, Nat.reduceBEq, Nat.reduceLT, Nat.reduceAdd, Nat.reduceMul, Nat.reduceSub, Nat.reduceLeDiff, Nat.reduceEqDiff, ↓reduceIte, Int.reduceLT, Int.reduceEq, Int.reduceBNe, Int.reduceBEq, aeq, Int.reduceLE, Int.reduceNeg, Int.reduceMul, Int.reduceAdd, Int.reduceSub, Int.reduceToNat, Int.reducePow, k1, k2, k3, k4, k5, k6, l1, l2, a1, a2, a3, leftE_ret, got_some, t1]
    exact ⟨X', O, rfl, t2, hO, hv, by omega⟩
end Go.Proofs.YtdlolhkeckjipaaDoor
