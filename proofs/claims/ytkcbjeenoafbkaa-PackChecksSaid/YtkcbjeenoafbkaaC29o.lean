/- Chapter 29: the reference's Check. -/
import Derived.Test.YtkcbjeenoafbkaaC29n
set_option linter.unusedVariables false
set_option linter.unusedSimpArgs false
set_option maxRecDepth 100000
set_option maxHeartbeats 4000000
namespace Go.Proofs.Ytkcbjeenoafbkaa
open Go Go.Den
theorem c40 {H : Heap} {v a : AV} {l : List Sz} {q : List Plc} (hs : SlOf H 2 Sz.cs v l) (ha : SlOf H 3 Plc.cs a q) (hn : l.length ≤ 10000) (hq : q.length ≤ 10000) (pw ph pad : Int) :
    call env 40 [v, .agg [.int .i64 pw, .int .i64 ph], .int .i64 pad, a] H = some (.bool (decide (chkP l pw ph pad q)), H) := by
  have l1 := hs.lenOf
  have l2 := ha.lenOf
  have e0 := c64 (hs.app [.cells [.int .i64 pw, .int .i64 ph] 61 true]) (by omega) pw ph pad
  refine call_ends (fn := s40) rfl rfl (by simp [s40]) ?_
  by_cases hA : askedP l pw ph pad
  rotate_left
  · rw [decide_eq_false hA] at e0
    rw [decide_eq_false (fun h : chkP l pw ph pad q => hA h.1.1)]
    simp only [s40, R1, R2, R3, R4, R5, R6, R7, R8, AV.flat, fillIn_nil, fillIn_cons, splice, AV.cells, AV.one, eqsOf, idx, SO.calls, List.reduceReplicate, Nat.reduceBEq, Nat.reduceLT, Nat.reduceAdd, Nat.reduceMul, Nat.reduceSub, Nat.reduceLeDiff, Nat.reduceEqDiff, ↓reduceIte, Int.reduceLT, Int.reduceEq, Int.reduceBNe, Int.reduceBEq, aeq, Int.reduceLE, Int.reduceNeg, Int.reduceMul, Int.reduceAdd, Int.reduceSub, Int.reduceToNat, Int.reducePow, e0]
    try rw [tidy_bool']
  rw [decide_eq_true hA] at e0
  by_cases hL : q.length = l.length
  rotate_left
  · have c0 : ((q.length : Int) != (l.length : Int)) = true := by rw [bne_iff_ne]; omega
    rw [decide_eq_false (fun h : chkP l pw ph pad q => hL h.1.2)]
    simp only [s40, R1, R2, R3, R4, R5, R6, R7, R8, AV.flat, fillIn_nil, fillIn_cons, splice, AV.cells, AV.one, eqsOf, idx, SO.calls, List.reduceReplicate, Nat.reduceBEq, Nat.reduceLT, Nat.reduceAdd, Nat.reduceMul, Nat.reduceSub, Nat.reduceLeDiff, Nat.reduceEqDiff, ↓reduceIte, Int.reduceLT, Int.reduceEq, Int.reduceBNe, Int.reduceBEq, aeq, Int.reduceLE, Int.reduceNeg, Int.reduceMul, Int.reduceAdd, Int.reduceSub, Int.reduceToNat, Int.reducePow, e0, l1, l2, c0]
    try rw [tidy_bool']
  have c0 : ((q.length : Int) != (l.length : Int)) = false := by rw [bne_eq_false_iff_eq]; omega
  have hp := hA.1
  have kv := fun (A B : Heap) (p : Nat) => (hs.kept A B p).1
  have ka := fun (A B : Heap) (p : Nat) => (ha.kept A B p).1
  simp only [s40, R1, R2, R3, R4, R5, R6, R7, R8, AV.flat, fillIn_nil, fillIn_cons, splice, AV.cells, AV.one, eqsOf, idx, SO.calls, List.reduceReplicate, Nat.reduceBEq, Nat.reduceLT, Nat.reduceAdd, Nat.reduceMul, Nat.reduceSub, Nat.reduceLeDiff, Nat.reduceEqDiff, ↓reduceIte, Int.reduceLT, Int.reduceEq, Int.reduceBNe, Int.reduceBEq, aeq, Int.reduceLE, Int.reduceNeg, Int.reduceMul, Int.reduceAdd, Int.reduceSub, Int.reduceToNat, Int.reducePow, e0, l1, l2, c0]
  refine ends_loop (fun k t H' => t.length = 145 ∧ (t.getD 0 .undef = v ∧ t.getD 2 .undef = .int .i64 pad ∧ t.getD 3 .undef = a ∧ t.getD 5 .undef = .ptr H.length 0) ∧
    ∃ (i : Nat) (X : Heap), i ≤ l.length ∧ k = l.length - i ∧ t.getD 9 .undef = .int .i64 (i : Int) ∧ H' = H ++ (.cells [.int .i64 pw, .int .i64 ph] 61 true :: X) ∧ ∀ k, k < i → okPiece l pw ph pad q k) l.length ?_ ?_
  · simp only [R1, R2, R3, R4, R5, R6, R7, R8, AV.flat, fillIn_nil, fillIn_cons, splice, AV.cells, AV.one, eqsOf, idx, SO.calls, List.reduceReplicate, Nat.reduceBEq, Nat.reduceLT, Nat.reduceAdd, Nat.reduceMul, Nat.reduceSub, Nat.reduceLeDiff, Nat.reduceEqDiff, ↓reduceIte, Int.reduceLT, Int.reduceEq, Int.reduceBNe, Int.reduceBEq, aeq, Int.reduceLE, Int.reduceNeg, Int.reduceMul, Int.reduceAdd, Int.reduceSub, Int.reduceToNat, Int.reducePow]
    exact ⟨0, [], by omega, by omega, rfl, rfl, fun k hk => by omega⟩
  · rintro k t _ ⟨g1, ⟨g2, g3, g4, g5⟩, i, X, hi, rfl, g6, rfl, hok⟩
    rw [← tm_nil t]
    by_cases hc : i < l.length
    · have a1 : ((i : Int) < (l.length : Int)) = True := eq_true (by omega)
      have w1 : IntKind.i64.wrap ((i : Int) + 1) = ((i + 1 : Nat) : Int) := by rw [wrap_i64 (by omega) (by omega)]; rfl
      have E := hs.elem hc
      have F := ha.elem (show i < q.length by omega)
      have hsz : l[i] = szAt l i := by unfold szAt; simp [List.getD, hc]
      have hpl : q[i]'(by omega) = plAt q i := by unfold plAt; simp [List.getD, show i < q.length by omega]
      have hr := hA.2 l[i] (List.getElem_mem hc)
      have hdef : okPiece l pw ph pad q i ↔ (szAt l i).w = 0 ∨ ((0 ≤ (plAt q i).pg ∧ (plAt q i).pg ≤ 15) ∧ (onP pw ph (pieceP (szAt l i) pad (plAt q i))) ∧
          ∀ k, k < i → (szAt l k).w ≠ 0 → (plAt q k).pg = (plAt q i).pg → ¬ Meet (pieceP (szAt l i) pad (plAt q i)) (pieceP (szAt l k) pad (plAt q k))) := Iff.rfl
      have hnok : ¬ okPiece l pw ph pad q i → decide (chkP l pw ph pad q) = false := fun h => decide_eq_false fun hh => h (hh.2 i hc)
      have hok1 : okPiece l pw ph pad q i → ∀ k, k < i + 1 → okPiece l pw ph pad q k := fun h k hk => by
        by_cases hki : k = i
        · subst hki; exact h
        · exact hok k (by omega)
      rw [hsz] at E hr
      rw [hpl] at F
      generalize szAt l i = s at *
      generalize plAt q i = pl at *
      have hcr : (pieceP s pad pl).cs = [.int .i64 pl.x, .int .i64 pl.y, .int .i64 (s.w + pad), .int .i64 (s.h + pad)] := rfl
      by_cases h0 : s.w = 0
      · have c1 : (s.w == 0) = true := by rw [beq_iff_eq]; exact h0
        simp only [Sz.cs] at E
        simp only [R1, R2, R3, R4, R5, R6, R7, R8, AV.flat, fillIn_nil, fillIn_cons, splice, AV.cells, AV.one, eqsOf, idx, SO.calls, List.reduceReplicate, Nat.reduceBEq, Nat.reduceLT, Nat.reduceAdd, Nat.reduceMul, Nat.reduceSub, Nat.reduceLeDiff, Nat.reduceEqDiff, ↓reduceIte, Int.reduceLT, Int.reduceEq, Int.reduceBNe, Int.reduceBEq, aeq, Int.reduceLE, Int.reduceNeg, Int.reduceMul, Int.reduceAdd, Int.reduceSub, Int.reduceToNat, Int.reducePow, g1, g2, g3, g4, g5, g6, l1, a1, w1, E, c1]
        exact ⟨_, by omega, i + 1, _, by omega, rfl, rfl, rfl, hok1 (hdef.2 (.inl h0))⟩
      have c1 : (s.w == 0) = false := by rw [beq_eq_false_iff_ne]; exact h0
      have hs2 : (1 ≤ s.w ∧ s.w ≤ 1024) ∧ 1 ≤ s.h ∧ s.h ≤ 1024 := hr.resolve_left fun h => h0 h.1
      have w2 := wrap_i64 (x := s.w + pad) (by omega) (by omega)
      have w3 := wrap_i64 (x := s.h + pad) (by omega) (by omega)
      have e1 := fun H => c74 (pieceP s pad pl) H
      have hle : (H.length + (X.length + 1 + 1) ≤ H.length + (X.length + 2 + 1)) = True := eq_true (by omega)
      by_cases hg1 : pl.pg < 0
      · rw [hnok (fun h => by rcases hdef.1 h with h | h; exact h0 h; omega)]
        simp only [Sz.cs, Plc.cs] at E F
        simp only [R1, R2, R3, R4, R5, R6, R7, R8, AV.flat, fillIn_nil, fillIn_cons, splice, AV.cells, AV.one, eqsOf, idx, SO.calls, List.reduceReplicate, Nat.reduceBEq, Nat.reduceLT, Nat.reduceAdd, Nat.reduceMul, Nat.reduceSub, Nat.reduceLeDiff, Nat.reduceEqDiff, ↓reduceIte, Int.reduceLT, Int.reduceEq, Int.reduceBNe, Int.reduceBEq, aeq, Int.reduceLE, Int.reduceNeg, Int.reduceMul, Int.reduceAdd, Int.reduceSub, Int.reduceToNat, Int.reducePow, g1, g2, g3, g4, g5, g6, l1, a1, w1, w2, w3, E, F, c1, kv, ka, hle, eq_true hg1]
        try rw [tidy_bool']
      by_cases hg2 : pl.pg > 15
      · rw [hnok (fun h => by rcases hdef.1 h with h | h; exact h0 h; omega)]
        simp only [Sz.cs, Plc.cs] at E F
        simp only [R1, R2, R3, R4, R5, R6, R7, R8, AV.flat, fillIn_nil, fillIn_cons, splice, AV.cells, AV.one, eqsOf, idx, SO.calls, List.reduceReplicate, Nat.reduceBEq, Nat.reduceLT, Nat.reduceAdd, Nat.reduceMul, Nat.reduceSub, Nat.reduceLeDiff, Nat.reduceEqDiff, ↓reduceIte, Int.reduceLT, Int.reduceEq, Int.reduceBNe, Int.reduceBEq, aeq, Int.reduceLE, Int.reduceNeg, Int.reduceMul, Int.reduceAdd, Int.reduceSub, Int.reduceToNat, Int.reducePow, g1, g2, g3, g4, g5, g6, l1, a1, w1, w2, w3, E, F, c1, kv, ka, hle, eq_false hg1, eq_true hg2]
        try rw [tidy_bool']
      by_cases hm : May (pieceP s pad pl)
      rotate_left
      · rw [hnok (fun h => by rcases hdef.1 h with h | h; exact h0 h; exact hm h.2.1.1)]
        rw [may_false hm, hcr] at e1
        simp only [Sz.cs, Plc.cs] at E F
        simp only [R1, R2, R3, R4, R5, R6, R7, R8, AV.flat, fillIn_nil, fillIn_cons, splice, AV.cells, AV.one, eqsOf, idx, SO.calls, List.reduceReplicate, Nat.reduceBEq, Nat.reduceLT, Nat.reduceAdd, Nat.reduceMul, Nat.reduceSub, Nat.reduceLeDiff, Nat.reduceEqDiff, ↓reduceIte, Int.reduceLT, Int.reduceEq, Int.reduceBNe, Int.reduceBEq, aeq, Int.reduceLE, Int.reduceNeg, Int.reduceMul, Int.reduceAdd, Int.reduceSub, Int.reduceToNat, Int.reducePow, g1, g2, g3, g4, g5, g6, l1, a1, w1, w2, w3, E, F, c1, kv, ka, hle, eq_false hg1, eq_false hg2, e1]
        try rw [tidy_bool']
      rw [may_true hm, hcr] at e1
      have hm' : 0 ≤ pl.x ∧ pl.x < 1024 ∧ 0 ≤ pl.y ∧ pl.y < 1024 ∧ 1 ≤ s.w + pad ∧ s.w + pad ≤ 1024 - pl.x ∧ 1 ≤ s.h + pad ∧ s.h + pad ≤ 1024 - pl.y := hm
      have w4 := wrap_i64 (x := pl.x + (s.w + pad)) (by omega) (by omega)
      have w5 := wrap_i64 (x := pl.y + (s.h + pad)) (by omega) (by omega)
      by_cases hx : pl.x + (s.w + pad) > pw
      · rw [hnok (fun h => by rcases hdef.1 h with h | h; exact h0 h; have := h.2.1.2.1; simp only [pieceP] at this; omega)]
        simp only [Sz.cs, Plc.cs] at E F
        simp only [R1, R2, R3, R4, R5, R6, R7, R8, AV.flat, fillIn_nil, fillIn_cons, splice, AV.cells, AV.one, eqsOf, idx, SO.calls, List.reduceReplicate, Nat.reduceBEq, Nat.reduceLT, Nat.reduceAdd, Nat.reduceMul, Nat.reduceSub, Nat.reduceLeDiff, Nat.reduceEqDiff, ↓reduceIte, Int.reduceLT, Int.reduceEq, Int.reduceBNe, Int.reduceBEq, aeq, Int.reduceLE, Int.reduceNeg, Int.reduceMul, Int.reduceAdd, Int.reduceSub, Int.reduceToNat, Int.reducePow, g1, g2, g3, g4, g5, g6, l1, a1, w1, w2, w3, w4, w5, E, F, c1, kv, ka, hle, eq_false hg1, eq_false hg2, e1, eq_true hx]
        try rw [tidy_bool']
      by_cases hy : pl.y + (s.h + pad) > ph
      · rw [hnok (fun h => by rcases hdef.1 h with h | h; exact h0 h; have := h.2.1.2.2; simp only [pieceP] at this; omega)]
        simp only [Sz.cs, Plc.cs] at E F
        simp only [R1, R2, R3, R4, R5, R6, R7, R8, AV.flat, fillIn_nil, fillIn_cons, splice, AV.cells, AV.one, eqsOf, idx, SO.calls, List.reduceReplicate, Nat.reduceBEq, Nat.reduceLT, Nat.reduceAdd, Nat.reduceMul, Nat.reduceSub, Nat.reduceLeDiff, Nat.reduceEqDiff, ↓reduceIte, Int.reduceLT, Int.reduceEq, Int.reduceBNe, Int.reduceBEq, aeq, Int.reduceLE, Int.reduceNeg, Int.reduceMul, Int.reduceAdd, Int.reduceSub, Int.reduceToNat, Int.reducePow, g1, g2, g3, g4, g5, g6, l1, a1, w1, w2, w3, w4, w5, E, F, c1, kv, ka, hle, eq_false hg1, eq_false hg2, e1, eq_false hx, eq_true hy]
        try rw [tidy_bool']
      have hon : onP pw ph (pieceP s pad pl) := ⟨hm, by simp only [pieceP]; omega, by simp only [pieceP]; omega⟩
      have hdef : okPiece l pw ph pad q i ↔ ∀ k, k < i → (szAt l k).w ≠ 0 → (plAt q k).pg = pl.pg → ¬ Meet (pieceP s pad pl) (pieceP (szAt l k) pad (plAt q k)) :=
        ⟨fun h => by rcases hdef.1 h with h | h; exact absurd h h0; exact h.2.2, fun h => hdef.2 (.inr ⟨by omega, hon, h⟩)⟩
      simp only [Sz.cs, Plc.cs] at E F
      simp only [R1, R2, R3, R4, R5, R6, R7, R8, AV.flat, fillIn_nil, fillIn_cons, splice, AV.cells, AV.one, eqsOf, idx, SO.calls, List.reduceReplicate, Nat.reduceBEq, Nat.reduceLT, Nat.reduceAdd, Nat.reduceMul, Nat.reduceSub, Nat.reduceLeDiff, Nat.reduceEqDiff, ↓reduceIte, Int.reduceLT, Int.reduceEq, Int.reduceBNe, Int.reduceBEq, aeq, Int.reduceLE, Int.reduceNeg, Int.reduceMul, Int.reduceAdd, Int.reduceSub, Int.reduceToNat, Int.reducePow, g1, g2, g3, g4, g5, g6, l1, a1, w1, w2, w3, w4, w5, E, F, c1, kv, ka, hle, eq_false hg1, eq_false hg2, e1, eq_false hx, eq_false hy]
      refine ends_loop (fun k2 u H2 => u.length = 145 ∧ (u.getD 0 .undef = v ∧ u.getD 2 .undef = .int .i64 pad ∧ u.getD 3 .undef = a ∧ u.getD 5 .undef = .ptr H.length 0 ∧ u.getD 9 .undef = .int .i64 (i : Int)) ∧
        (u.getD 10 .undef = .ptr (H.length + (X.length + 1)) 0 ∧ u.getD 11 .undef = .ptr (H.length + (X.length + 1 + 1)) 0) ∧
        ∃ (j : Nat) (Z : Heap), j ≤ i ∧ k2 = i - j ∧ u.getD 12 .undef = .int .i64 (j : Int) ∧
          H2 = H ++ (.cells [.int .i64 pw, .int .i64 ph] 61 true :: (X ++ (.cells [.int .i64 pl.pg, .int .i64 pl.x, .int .i64 pl.y] 76 true :: .cells [.int .i64 pl.x, .int .i64 pl.y, .int .i64 (s.w + pad), .int .i64 (s.h + pad)] 112 true :: Z))) ∧
          ∀ k, k < j → (szAt l k).w ≠ 0 → (plAt q k).pg = pl.pg → ¬ Meet (pieceP s pad pl) (pieceP (szAt l k) pad (plAt q k))) i ?_ ?_
      · simp only [R1, R2, R3, R4, R5, R6, R7, R8, AV.flat, fillIn_nil, fillIn_cons, splice, AV.cells, AV.one, eqsOf, idx, SO.calls, List.reduceReplicate, Nat.reduceBEq, Nat.reduceLT, Nat.reduceAdd, Nat.reduceMul, Nat.reduceSub, Nat.reduceLeDiff, Nat.reduceEqDiff, ↓reduceIte, Int.reduceLT, Int.reduceEq, Int.reduceBNe, Int.reduceBEq, aeq, Int.reduceLE, Int.reduceNeg, Int.reduceMul, Int.reduceAdd, Int.reduceSub, Int.reduceToNat, Int.reducePow, g1, g2, g3, g4, g5, g6]
        exact ⟨0, [], by omega, by omega, rfl, rfl, fun k hk => by omega⟩
      rintro k2 u _ ⟨k1, ⟨k2, k3, k4, k5, k6⟩, ⟨k7, k8⟩, j, Z, hj, rfl, k9, rfl, hjm⟩
      rw [← tm_nil u]
      by_cases hcj : j < i
      · have a2 : ((j : Int) < (i : Int)) = True := eq_true (by omega)
        have w6 : IntKind.i64.wrap ((j : Int) + 1) = ((j + 1 : Nat) : Int) := by rw [wrap_i64 (by omega) (by omega)]; rfl
        have G := hs.elem (show j < l.length by omega)
        have K := ha.elem (show j < q.length by omega)
        have hsz2 : l[j]'(by omega) = szAt l j := by unfold szAt; simp [List.getD, show j < l.length by omega]
        have hpl2 : q[j]'(by omega) = plAt q j := by unfold plAt; simp [List.getD, show j < q.length by omega]
        have hr2 := hA.2 (l[j]'(by omega)) (List.getElem_mem _)
        have hokj : (szAt l j).w = 0 ∨ ((0 ≤ (plAt q j).pg ∧ (plAt q j).pg ≤ 15) ∧ (onP pw ph (pieceP (szAt l j) pad (plAt q j))) ∧ _) := hok j hcj
        have hokj : (szAt l j).w = 0 ∨ May (pieceP (szAt l j) pad (plAt q j)) := hokj.imp id fun h => h.2.1.1
        have hmore : ((szAt l j).w ≠ 0 → (plAt q j).pg = pl.pg → ¬ Meet (pieceP s pad pl) (pieceP (szAt l j) pad (plAt q j))) → ∀ k, k < j + 1 → (szAt l k).w ≠ 0 → (plAt q k).pg = pl.pg → ¬ Meet (pieceP s pad pl) (pieceP (szAt l k) pad (plAt q k)) := fun h k hk => by
          by_cases hkj : k = j
          · subst hkj; exact h
          · exact hjm k (by omega)
        have hno : (szAt l j).w ≠ 0 → (plAt q j).pg = pl.pg → Meet (pieceP s pad pl) (pieceP (szAt l j) pad (plAt q j)) → ¬ okPiece l pw ph pad q i := fun h1 h2 h3 h => hdef.1 h j hcj h1 h2 h3
        rw [hsz2] at G hr2
        rw [hpl2] at K
        generalize szAt l j = s2 at *
        generalize plAt q j = p2 at *
        have hb : 0 ≤ s2.w ∧ s2.w ≤ 1024 ∧ 0 ≤ s2.h ∧ s2.h ≤ 1024 := by rcases hr2 with h | h <;> omega
        have hle2 : (H.length + (X.length + (Z.length + 1 + 1) + 1) ≤ H.length + (X.length + (Z.length + 1 + 1 + 1) + 1)) = True := eq_true (by omega)
        have w7 := wrap_i64 (x := s2.w + pad) (by omega) (by omega)
        have w8 := wrap_i64 (x := s2.h + pad) (by omega) (by omega)
        simp only [Sz.cs, Plc.cs] at G K
        by_cases hz : s2.w = 0
        · have c2 : (s2.w > 0) = False := eq_false (by omega)
          simp only [R1, R2, R3, R4, R5, R6, R7, R8, AV.flat, fillIn_nil, fillIn_cons, splice, AV.cells, AV.one, eqsOf, idx, SO.calls, List.reduceReplicate, Nat.reduceBEq, Nat.reduceLT, Nat.reduceAdd, Nat.reduceMul, Nat.reduceSub, Nat.reduceLeDiff, Nat.reduceEqDiff, ↓reduceIte, Int.reduceLT, Int.reduceEq, Int.reduceBNe, Int.reduceBEq, aeq, Int.reduceLE, Int.reduceNeg, Int.reduceMul, Int.reduceAdd, Int.reduceSub, Int.reduceToNat, Int.reducePow, k1, k2, k3, k4, k5, k6, k7, k8, k9, a2, w6, w7, w8, G, K, kv, ka, hle2, c2]
          exact ⟨_, by omega, j + 1, _, by omega, rfl, rfl, rfl, hmore (fun h => absurd hz h)⟩
        have c2 : (s2.w > 0) = True := eq_true (by omega)
        by_cases hpg : p2.pg = pl.pg
        rotate_left
        · have c3 : (p2.pg == pl.pg) = false := by rw [beq_eq_false_iff_ne]; exact hpg
          simp only [R1, R2, R3, R4, R5, R6, R7, R8, AV.flat, fillIn_nil, fillIn_cons, splice, AV.cells, AV.one, eqsOf, idx, SO.calls, List.reduceReplicate, Nat.reduceBEq, Nat.reduceLT, Nat.reduceAdd, Nat.reduceMul, Nat.reduceSub, Nat.reduceLeDiff, Nat.reduceEqDiff, ↓reduceIte, Int.reduceLT, Int.reduceEq, Int.reduceBNe, Int.reduceBEq, aeq, Int.reduceLE, Int.reduceNeg, Int.reduceMul, Int.reduceAdd, Int.reduceSub, Int.reduceToNat, Int.reducePow, k1, k2, k3, k4, k5, k6, k7, k8, k9, a2, w6, w7, w8, G, K, kv, ka, hle2, c2, c3]
          exact ⟨_, by omega, j + 1, _, by omega, rfl, rfl, rfl, hmore (fun _ h => absurd h hpg)⟩
        have c3 : (p2.pg == pl.pg) = true := by rw [beq_iff_eq]; exact hpg
        have e2 := fun H => c75 (pieceP s pad pl) (pieceP s2 pad p2) H hm (hokj.resolve_left hz)
        by_cases hmt : Meet (pieceP s pad pl) (pieceP s2 pad p2)
        · rw [hnok (hno hz hpg hmt)]
          rw [meet_true hmt] at e2
          simp only [Rect.cs, pieceP] at e2
          simp only [R1, R2, R3, R4, R5, R6, R7, R8, AV.flat, fillIn_nil, fillIn_cons, splice, AV.cells, AV.one, eqsOf, idx, SO.calls, List.reduceReplicate, Nat.reduceBEq, Nat.reduceLT, Nat.reduceAdd, Nat.reduceMul, Nat.reduceSub, Nat.reduceLeDiff, Nat.reduceEqDiff, ↓reduceIte, Int.reduceLT, Int.reduceEq, Int.reduceBNe, Int.reduceBEq, aeq, Int.reduceLE, Int.reduceNeg, Int.reduceMul, Int.reduceAdd, Int.reduceSub, Int.reduceToNat, Int.reducePow, k1, k2, k3, k4, k5, k6, k7, k8, k9, a2, w6, w7, w8, G, K, kv, ka, hle2, c2, c3, e2]
          try rw [tidy_bool']
        · have hmore := hmore (fun _ _ => hmt)
          rw [meet_false hmt] at e2
          simp only [Rect.cs, pieceP] at e2
          simp only [R1, R2, R3, R4, R5, R6, R7, R8, AV.flat, fillIn_nil, fillIn_cons, splice, AV.cells, AV.one, eqsOf, idx, SO.calls, List.reduceReplicate, Nat.reduceBEq, Nat.reduceLT, Nat.reduceAdd, Nat.reduceMul, Nat.reduceSub, Nat.reduceLeDiff, Nat.reduceEqDiff, ↓reduceIte, Int.reduceLT, Int.reduceEq, Int.reduceBNe, Int.reduceBEq, aeq, Int.reduceLE, Int.reduceNeg, Int.reduceMul, Int.reduceAdd, Int.reduceSub, Int.reduceToNat, Int.reducePow, k1, k2, k3, k4, k5, k6, k7, k8, k9, a2, w6, w7, w8, G, K, kv, ka, hle2, c2, c3, e2]
          exact ⟨_, by omega, j + 1, _, by omega, rfl, rfl, rfl, hmore⟩
      · have a2 : ((j : Int) < (i : Int)) = False := eq_false (by omega)
        obtain rfl : j = i := by omega
        simp only [R1, R2, R3, R4, R5, R6, R7, R8, AV.flat, fillIn_nil, fillIn_cons, splice, AV.cells, AV.one, eqsOf, idx, SO.calls, List.reduceReplicate, Nat.reduceBEq, Nat.reduceLT, Nat.reduceAdd, Nat.reduceMul, Nat.reduceSub, Nat.reduceLeDiff, Nat.reduceEqDiff, ↓reduceIte, Int.reduceLT, Int.reduceEq, Int.reduceBNe, Int.reduceBEq, aeq, Int.reduceLE, Int.reduceNeg, Int.reduceMul, Int.reduceAdd, Int.reduceSub, Int.reduceToNat, Int.reducePow, k1, k2, k3, k4, k5, k6, k7, k8, k9, a2, w1]
        exact ⟨_, by omega, j + 1, _, by omega, rfl, rfl, rfl, hok1 (hdef.2 hjm)⟩
    · have a1 : ((i : Int) < (l.length : Int)) = False := eq_false (by omega)
      obtain rfl : i = l.length := by omega
      rw [decide_eq_true (show chkP l pw ph pad q from ⟨⟨hA, hL⟩, hok⟩)]
      simp only [R1, R2, R3, R4, R5, R6, R7, R8, AV.flat, fillIn_nil, fillIn_cons, splice, AV.cells, AV.one, eqsOf, idx, SO.calls, List.reduceReplicate, Nat.reduceBEq, Nat.reduceLT, Nat.reduceAdd, Nat.reduceMul, Nat.reduceSub, Nat.reduceLeDiff, Nat.reduceEqDiff, ↓reduceIte, Int.reduceLT, Int.reduceEq, Int.reduceBNe, Int.reduceBEq, aeq, Int.reduceLE, Int.reduceNeg, Int.reduceMul, Int.reduceAdd, Int.reduceSub, Int.reduceToNat, Int.reducePow, g1, g2, g3, g4, g5, g6, l1, a1]
      try rw [tidy_bool']
end Go.Proofs.Ytkcbjeenoafbkaa
