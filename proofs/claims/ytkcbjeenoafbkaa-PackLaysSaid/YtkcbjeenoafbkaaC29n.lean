/- Chapter 29: pack.Check. -/
import Derived.Test.YtkcbjeenoafbkaaC29m
set_option linter.unusedVariables false
set_option linter.unusedSimpArgs false
set_option maxRecDepth 100000
set_option maxHeartbeats 4000000
namespace Go.Proofs.Ytkcbjeenoafbkaa
open Go Go.Den
/-- The pieces of a page, so far. -/
def tkP (l : List Sz) (pad : Int) (q : List Plc) : Nat → Int → List Rect
  | 0, _ => []
  | i + 1, g => if (szAt l i).w ≠ 0 ∧ (plAt q i).pg = g then tkP l pad q i g ++ [pieceP (szAt l i) pad (plAt q i)] else tkP l pad q i g
theorem tk_mem {l : List Sz} {pad : Int} {q : List Plc} {g : Int} {r : Rect} : ∀ {i : Nat}, r ∈ tkP l pad q i g ↔ ∃ k, k < i ∧ (szAt l k).w ≠ 0 ∧ (plAt q k).pg = g ∧ r = pieceP (szAt l k) pad (plAt q k)
  | 0 => ⟨fun h => (by cases h), fun ⟨k, h, _⟩ => (by omega)⟩
  | i + 1 => by
    rw [tkP]
    split
    · rename_i h
      rw [List.mem_append, tk_mem (i := i), List.mem_singleton]
      constructor
      · rintro (⟨k, h1, h2⟩ | h1)
        · exact ⟨k, by omega, h2⟩
        · exact ⟨i, by omega, h.1, h.2, h1⟩
      · rintro ⟨k, h1, h2, h3, h4⟩
        by_cases hk : k = i
        · subst hk; exact .inr h4
        · exact .inl ⟨k, by omega, h2, h3, h4⟩
    · rename_i h
      rw [tk_mem (i := i)]
      constructor
      · rintro ⟨k, h1, h2⟩
        exact ⟨k, by omega, h2⟩
      · rintro ⟨k, h1, h2, h3, h4⟩
        by_cases hk : k = i
        · subst hk; exact absurd ⟨h2, h3⟩ h
        · exact ⟨k, by omega, h2, h3, h4⟩
theorem tk_len {l : List Sz} {pad : Int} {q : List Plc} {g : Int} : ∀ {i : Nat}, (tkP l pad q i g).length ≤ i
  | 0 => Nat.le_refl _
  | i + 1 => by
    have := @tk_len l pad q g i
    rw [tkP]
    split
    · rw [List.length_append, List.length_singleton]; omega
    · omega
/-- Does it lie on its page? -/
def onP (pw ph : Int) (r : Rect) : Prop := May r ∧ r.x + r.w ≤ pw ∧ r.y + r.h ≤ ph
instance (pw ph : Int) (r : Rect) : Decidable (onP pw ph r) := by unfold onP; infer_instance
theorem on_has {pw ph : Int} (h : (1 ≤ pw ∧ pw ≤ 1024) ∧ 1 ≤ ph ∧ ph ≤ 1024) (r : Rect) : (may ⟨0, 0, pw, ph⟩ && may r && has ⟨0, 0, pw, ph⟩ r) = decide (onP pw ph r) := by
  rw [may_true (show May ⟨0, 0, pw, ph⟩ by unfold May; simp only; omega), Bool.true_and]
  unfold may has onP
  rw [← Bool.decide_and]
  refine decide_eq_decide.2 ?_
  unfold Has'
  simp only
  constructor
  · intro h; exact ⟨h.1, by have := h.2; omega, by have := h.2; omega⟩
  · intro h; refine ⟨h.1, ?_⟩; have h1 := h.1; unfold May at h1; have := h.2; omega
theorem ok_iff {l : List Sz} {pw ph pad : Int} {q : List Plc} {i : Nat} (hw : (szAt l i).w ≠ 0) : okPiece l pw ph pad q i ↔ (0 ≤ (plAt q i).pg ∧ (plAt q i).pg ≤ 15) ∧ onP pw ph (pieceP (szAt l i) pad (plAt q i)) ∧
    ∀ r ∈ tkP l pad q i (plAt q i).pg, ¬ Meet (pieceP (szAt l i) pad (plAt q i)) r := by
  unfold okPiece onP
  constructor
  · rintro (h | ⟨h1, h2, h3⟩)
    · exact absurd h hw
    · refine ⟨h1, h2, fun r hr => ?_⟩
      obtain ⟨k, k1, k2, k3, rfl⟩ := tk_mem.1 hr
      exact h3 k k1 k2 k3
  · rintro ⟨h1, h2, h3⟩
    exact .inr ⟨h1, h2, fun k k1 k2 k3 => h3 _ (tk_mem.2 ⟨k, k1, k2, k3, rfl⟩)⟩
theorem piece_may {l : List Sz} {pw ph pad : Int} {q : List Plc} {i : Nat} (h : ∀ k, k < i → okPiece l pw ph pad q k) {g : Int} : ∀ r ∈ tkP l pad q i g, May r := by
  intro r hr
  obtain ⟨k, k1, k2, k3, rfl⟩ := tk_mem.1 hr
  rcases h k k1 with h1 | ⟨_, h1, _⟩
  · exact absurd h1 k2
  · exact h1.1
instance (l : List Sz) (pw ph pad : Int) (q : List Plc) (i : Nat) : Decidable (okPiece l pw ph pad q i) := by unfold okPiece; infer_instance
instance (l : List Sz) (pw ph pad : Int) (q : List Plc) : Decidable (chkP l pw ph pad q) := by unfold chkP; infer_instance
theorem set_third {H Y : Heap} {a b m m' : AO} : (H ++ (a :: b :: m :: Y)).set (H.length + 2) m' = H ++ (a :: b :: m' :: Y) := by
  rw [List.set_append_right _ _ (by omega), Nat.add_sub_cancel_left]; rfl
theorem c37 {H : Heap} {v a : AV} {l : List Sz} {q : List Plc} (hs : SlOf H 2 Sz.cs v l) (ha : SlOf H 3 Plc.cs a q) (hn : l.length ≤ 10000) (hq : q.length ≤ 10000) (pw ph pad : Int) :
    call env 37 [v, .agg [.int .i64 pw, .int .i64 ph], .int .i64 pad, a] H = some (.bool (decide (chkP l pw ph pad q)), H) := by
  have l1 := hs.lenOf
  have l2 := ha.lenOf
  have e0 := c61 (hs.app [.cells [.int .i64 pw, .int .i64 ph] 61 true]) (by omega) pw ph pad
  refine call_ends (fn := s37) rfl rfl (by simp [s37]) ?_
  by_cases hA : askedP l pw ph pad
  rotate_left
  · rw [decide_eq_false hA] at e0
    rw [decide_eq_false (fun h : chkP l pw ph pad q => hA h.1.1)]
    simp only [s37, R1, R2, R3, R4, R5, R6, R7, R8, AV.flat, fillIn_nil, fillIn_cons, splice, AV.cells, AV.one, eqsOf, idx, SO.calls, List.reduceReplicate, Nat.reduceBEq, Nat.reduceLT, Nat.reduceAdd, Nat.reduceMul, Nat.reduceSub, Nat.reduceLeDiff, Nat.reduceEqDiff, ↓reduceIte, Int.reduceLT, Int.reduceEq, Int.reduceBNe, Int.reduceBEq, aeq, Int.reduceLE, Int.reduceNeg, Int.reduceMul, Int.reduceAdd, Int.reduceSub, Int.reduceToNat, Int.reducePow, e0]
    try rw [tidy_bool']
  rw [decide_eq_true hA] at e0
  by_cases hL : q.length = l.length
  rotate_left
  · have c0 : ((q.length : Int) != (l.length : Int)) = true := by rw [bne_iff_ne]; omega
    rw [decide_eq_false (fun h : chkP l pw ph pad q => hL h.1.2)]
    simp only [s37, R1, R2, R3, R4, R5, R6, R7, R8, AV.flat, fillIn_nil, fillIn_cons, splice, AV.cells, AV.one, eqsOf, idx, SO.calls, List.reduceReplicate, Nat.reduceBEq, Nat.reduceLT, Nat.reduceAdd, Nat.reduceMul, Nat.reduceSub, Nat.reduceLeDiff, Nat.reduceEqDiff, ↓reduceIte, Int.reduceLT, Int.reduceEq, Int.reduceBNe, Int.reduceBEq, aeq, Int.reduceLE, Int.reduceNeg, Int.reduceMul, Int.reduceAdd, Int.reduceSub, Int.reduceToNat, Int.reducePow, e0, l1, l2, c0]
    try rw [tidy_bool']
  have c0 : ((q.length : Int) != (l.length : Int)) = false := by rw [bne_eq_false_iff_eq]; omega
  have hp := hA.1
  simp only [s37, R1, R2, R3, R4, R5, R6, R7, R8, AV.flat, fillIn_nil, fillIn_cons, splice, AV.cells, AV.one, eqsOf, idx, SO.calls, List.reduceReplicate, Nat.reduceBEq, Nat.reduceLT, Nat.reduceAdd, Nat.reduceMul, Nat.reduceSub, Nat.reduceLeDiff, Nat.reduceEqDiff, ↓reduceIte, Int.reduceLT, Int.reduceEq, Int.reduceBNe, Int.reduceBEq, aeq, Int.reduceLE, Int.reduceNeg, Int.reduceMul, Int.reduceAdd, Int.reduceSub, Int.reduceToNat, Int.reducePow, e0, l1, l2, c0]
  refine ends_loop (fun k t H' => t.length = 97 ∧ (t.getD 2 .undef = .int .i64 pad ∧ t.getD 3 .undef = a ∧ t.getD 9 .undef = .ptr (H.length + 1) 0 ∧ t.getD 10 .undef = .mp (H.length + 2) ∧ t.getD 34 .undef = v ∧ t.getD 35 .undef = .int .i64 (l.length : Int)) ∧
    ∃ (i : Nat) (X : Heap) (ms : List TmE), i ≤ l.length ∧ k = l.length - i ∧ t.getD 36 .undef = .int .i64 (i : Int) ∧
      H' = H ++ (.cells [.int .i64 pw, .int .i64 ph] 61 true :: .cells [.int .i64 0, .int .i64 0, .int .i64 pw, .int .i64 ph] 112 true :: .mp (tmK ms) (tmV (H.length + 3) ms) :: X) ∧
      TM X ms ∧ (∀ g, lookT g ms = tkP l pad q i g) ∧ ∀ k, k < i → okPiece l pw ph pad q k) l.length ?_ ?_
  · simp only [R1, R2, R3, R4, R5, R6, R7, R8, AV.flat, fillIn_nil, fillIn_cons, splice, AV.cells, AV.one, eqsOf, idx, SO.calls, List.reduceReplicate, Nat.reduceBEq, Nat.reduceLT, Nat.reduceAdd, Nat.reduceMul, Nat.reduceSub, Nat.reduceLeDiff, Nat.reduceEqDiff, ↓reduceIte, Int.reduceLT, Int.reduceEq, Int.reduceBNe, Int.reduceBEq, aeq, Int.reduceLE, Int.reduceNeg, Int.reduceMul, Int.reduceAdd, Int.reduceSub, Int.reduceToNat, Int.reducePow]
    exact ⟨0, [], [], by omega, by omega, rfl, rfl, ⟨List.nodup_nil, fun m hm => by cases hm⟩, fun g => rfl, fun k hk => by omega⟩
  · rintro k t _ ⟨g1, ⟨g2, g3, g4, g5, g6, g7⟩, i, X, ms, hi, rfl, g8, rfl, hT, hlk, hok⟩
    rw [← tm_nil t]
    by_cases hc : i < l.length
    · have a1 : ((i : Int) < (l.length : Int)) = True := eq_true (by omega)
      have w1 : IntKind.i64.wrap ((i : Int) + 1) = ((i + 1 : Nat) : Int) := by rw [wrap_i64 (by omega) (by omega)]; rfl
      have E := hs.elem hc
      have F := ha.elem (show i < q.length by omega)
      have hsz : l[i] = szAt l i := by unfold szAt; simp [List.getD, hc]
      have hpl : q[i]'(by omega) = plAt q i := by unfold plAt; simp [List.getD, show i < q.length by omega]
      have hr := hA.2 l[i] (List.getElem_mem hc)
      have hof := @ok_iff l pw ph pad q i
      have htk : ∀ g, tkP l pad q (i + 1) g = if (szAt l i).w ≠ 0 ∧ (plAt q i).pg = g then tkP l pad q i g ++ [pieceP (szAt l i) pad (plAt q i)] else tkP l pad q i g := fun g => rfl
      have hnok : ¬ okPiece l pw ph pad q i → decide (chkP l pw ph pad q) = false := fun h => decide_eq_false fun hh => h (hh.2 i hc)
      have hok1 : okPiece l pw ph pad q i → ∀ k, k < i + 1 → okPiece l pw ph pad q k := fun h k hk => by
        by_cases hki : k = i
        · subst hki; exact h
        · exact hok k (by omega)
      have hsk : (szAt l i).w = 0 → okPiece l pw ph pad q i := fun h => .inl h
      rw [hsz] at E hr
      rw [hpl] at F
      generalize szAt l i = s at *
      generalize plAt q i = pl at *
      by_cases h0 : s.w = 0
      · have c1 : (s.w == 0) = true := by rw [beq_iff_eq]; exact h0
        simp only [Sz.cs] at E
        simp only [R1, R2, R3, R4, R5, R6, R7, R8, AV.flat, fillIn_nil, fillIn_cons, splice, AV.cells, AV.one, eqsOf, idx, SO.calls, List.reduceReplicate, Nat.reduceBEq, Nat.reduceLT, Nat.reduceAdd, Nat.reduceMul, Nat.reduceSub, Nat.reduceLeDiff, Nat.reduceEqDiff, ↓reduceIte, Int.reduceLT, Int.reduceEq, Int.reduceBNe, Int.reduceBEq, aeq, Int.reduceLE, Int.reduceNeg, Int.reduceMul, Int.reduceAdd, Int.reduceSub, Int.reduceToNat, Int.reducePow, g1, g2, g3, g4, g5, g6, g7, g8, a1, w1, E, c1]
        exact ⟨_, by omega, i + 1, _, ms, by omega, rfl, rfl, rfl, ⟨hT.1, fun m hm => ⟨(hT.2 m hm).1, getElem?_keep (hT.2 m hm).2⟩⟩, fun g => by rw [hlk, htk, if_neg (fun h => h.1 h0)], hok1 (hsk h0)⟩
      have c1 : (s.w == 0) = false := by rw [beq_eq_false_iff_ne]; exact h0
      have hof := hof h0
      have hs2 : (1 ≤ s.w ∧ s.w ≤ 1024) ∧ 1 ≤ s.h ∧ s.h ≤ 1024 := hr.resolve_left fun h => h0 h.1
      have e1 := fun H => c68 s pad pl H (by omega)
      have e2 := fun H => c69 pl.pg 0 15 H
      have e3 := fun H => c70 ⟨0, 0, pw, ph⟩ (pieceP s pad pl) H
      rw [on_has ⟨hp.1, hp.2.1⟩] at e3
      by_cases hg : 0 ≤ pl.pg ∧ pl.pg ≤ 15
      rotate_left
      · rw [hnok (fun h => hg (hof.1 h).1)]
        rw [decide_eq_false hg] at e2
        generalize pieceP s pad pl = r at *
        simp only [Sz.cs, Plc.cs, Rect.cs] at E F e1
        simp only [R1, R2, R3, R4, R5, R6, R7, R8, AV.flat, fillIn_nil, fillIn_cons, splice, AV.cells, AV.one, eqsOf, idx, SO.calls, List.reduceReplicate, Nat.reduceBEq, Nat.reduceLT, Nat.reduceAdd, Nat.reduceMul, Nat.reduceSub, Nat.reduceLeDiff, Nat.reduceEqDiff, ↓reduceIte, Int.reduceLT, Int.reduceEq, Int.reduceBNe, Int.reduceBEq, aeq, Int.reduceLE, Int.reduceNeg, Int.reduceMul, Int.reduceAdd, Int.reduceSub, Int.reduceToNat, Int.reducePow, g1, g2, g3, g4, g5, g6, g7, g8, a1, w1, E, F, c1, e1, e2]
        try rw [tidy_bool']
      rw [decide_eq_true hg] at e2
      by_cases ho : onP pw ph (pieceP s pad pl)
      rotate_left
      · rw [hnok (fun h => ho (hof.1 h).2.1)]
        rw [decide_eq_false ho] at e3
        generalize pieceP s pad pl = r at *
        simp only [Sz.cs, Plc.cs, Rect.cs] at E F e1 e3
        simp only [R1, R2, R3, R4, R5, R6, R7, R8, AV.flat, fillIn_nil, fillIn_cons, splice, AV.cells, AV.one, eqsOf, idx, SO.calls, List.reduceReplicate, Nat.reduceBEq, Nat.reduceLT, Nat.reduceAdd, Nat.reduceMul, Nat.reduceSub, Nat.reduceLeDiff, Nat.reduceEqDiff, ↓reduceIte, Int.reduceLT, Int.reduceEq, Int.reduceBNe, Int.reduceBEq, aeq, Int.reduceLE, Int.reduceNeg, Int.reduceMul, Int.reduceAdd, Int.reduceSub, Int.reduceToNat, Int.reducePow, g1, g2, g3, g4, g5, g6, g7, g8, a1, w1, E, F, c1, e1, e2, e3]
        try rw [tidy_bool']
      rw [decide_eq_true ho] at e3
      have e4 := fun o => c71 (pieceP s pad pl) o
      have hmay := may_true ho.1
      have hpm := fun r hr => may_true (piece_may hok (g := pl.pg) r hr)
      have hlen := @tk_len l pad q pl.pg i
      rw [← hlk] at hlen hpm
      have hof : okPiece l pw ph pad q i ↔ ∀ r ∈ lookT pl.pg ms, ¬ Meet (pieceP s pad pl) r := by rw [hlk]; exact ⟨fun h => (hof.1 h).2.2, fun h => hof.2 ⟨hg, ho, h⟩⟩
      have htk : ∀ g, tkP l pad q (i + 1) g = if pl.pg = g then tkP l pad q i g ++ [pieceP s pad pl] else tkP l pad q i g := fun g => by rw [htk]; simp [h0]
      generalize pieceP s pad pl = r at *
      rw [hmay] at e4
      simp only [Bool.true_and] at e4
      simp only [Sz.cs, Plc.cs, Rect.cs] at E F e1 e3
      have hTo := tm_own (P := H ++ [.cells [.int .i64 pw, .int .i64 ph] 61 true, .cells [.int .i64 0, .int .i64 0, .int .i64 pw, .int .i64 ph] 112 true, .mp (tmK ms) (tmV (H.length + 3) ms)]) hT pl.pg
      have S := own_sl rect_cel hTo
      simp only [List.append_assoc, List.cons_append, List.nil_append, List.length_append, List.length_cons, List.length_nil, Nat.zero_add, Nat.reduceAdd] at S
      have l3 := S.lenOf
      have lk : ∀ Z, lookupOf [] .nils false (.mp (H.length + 2)) (.int .i64 pl.pg) (H ++ (.cells [.int .i64 pw, .int .i64 ph] 61 true :: .cells [.int .i64 0, .int .i64 0, .int .i64 pw, .int .i64 ph] 112 true :: .mp (tmK ms) (tmV (H.length + 3) ms) :: Z)) =
          some (ptT (H.length + 3) pl.pg ms, H ++ (.cells [.int .i64 pw, .int .i64 ph] 61 true :: .cells [.int .i64 0, .int .i64 0, .int .i64 pw, .int .i64 ph] 112 true :: .mp (tmK ms) (tmV (H.length + 3) ms) :: Z)) := fun Z => tm_look (by
        rw [List.getElem?_append_right (by omega), Nat.add_sub_cancel_left]; rfl) pl.pg
      simp only [R1, R2, R3, R4, R5, R6, R7, R8, AV.flat, fillIn_nil, fillIn_cons, splice, AV.cells, AV.one, eqsOf, idx, SO.calls, List.reduceReplicate, Nat.reduceBEq, Nat.reduceLT, Nat.reduceAdd, Nat.reduceMul, Nat.reduceSub, Nat.reduceLeDiff, Nat.reduceEqDiff, ↓reduceIte, Int.reduceLT, Int.reduceEq, Int.reduceBNe, Int.reduceBEq, aeq, Int.reduceLE, Int.reduceNeg, Int.reduceMul, Int.reduceAdd, Int.reduceSub, Int.reduceToNat, Int.reducePow, g1, g2, g3, g4, g5, g6, g7, g8, a1, w1, E, F, c1, e1, e2, e3, lk, l3]
      have hLl : (lookT pl.pg ms).length ≤ 10000 := by omega
      refine ends_loop (fun k2 u H2 => u.length = 97 ∧ (u.getD 2 .undef = .int .i64 pad ∧ u.getD 3 .undef = a ∧ u.getD 9 .undef = .ptr (H.length + 1) 0 ∧ u.getD 10 .undef = .mp (H.length + 2) ∧ u.getD 34 .undef = v ∧ u.getD 35 .undef = .int .i64 (l.length : Int) ∧ u.getD 36 .undef = .int .i64 (i : Int)) ∧
        (u.getD 11 .undef = .int .i64 (i : Int) ∧ u.getD 13 .undef = .ptr (H.length + (X.length + 1 + 1 + 1 + 1)) 0 ∧ u.getD 70 .undef = ptT (H.length + 3) pl.pg ms ∧ u.getD 71 .undef = .int .i64 ((lookT pl.pg ms).length : Int)) ∧
        ∃ (j : Nat) (Z : Heap), j ≤ (lookT pl.pg ms).length ∧ k2 = (lookT pl.pg ms).length - j ∧ u.getD 72 .undef = .int .i64 (j : Int) ∧
          H2 = H ++ (.cells [.int .i64 pw, .int .i64 ph] 61 true :: .cells [.int .i64 0, .int .i64 0, .int .i64 pw, .int .i64 ph] 112 true :: .mp (tmK ms) (tmV (H.length + 3) ms) ::
            (X ++ (.cells [.int .i64 s.w, .int .i64 s.h] 61 true :: .cells [.int .i64 r.x, .int .i64 r.y, .int .i64 r.w, .int .i64 r.h] 112 true :: Z))) ∧
          ∀ o ∈ (lookT pl.pg ms).take j, ¬ Meet r o) (lookT pl.pg ms).length ?_ ?_
      · simp only [R1, R2, R3, R4, R5, R6, R7, R8, AV.flat, fillIn_nil, fillIn_cons, splice, AV.cells, AV.one, eqsOf, idx, SO.calls, List.reduceReplicate, Nat.reduceBEq, Nat.reduceLT, Nat.reduceAdd, Nat.reduceMul, Nat.reduceSub, Nat.reduceLeDiff, Nat.reduceEqDiff, ↓reduceIte, Int.reduceLT, Int.reduceEq, Int.reduceBNe, Int.reduceBEq, aeq, Int.reduceLE, Int.reduceNeg, Int.reduceMul, Int.reduceAdd, Int.reduceSub, Int.reduceToNat, Int.reducePow, g1, g2, g3, g4, g5, g6, g7, g8]
        exact ⟨0, [], by omega, by omega, rfl, rfl, fun o ho => by simp at ho⟩
      rintro k2 u _ ⟨k1, ⟨k2, k3, k4, k5, k6, k7, k8⟩, ⟨k9, k10, k11, k12⟩, j, Z, hj, rfl, k13, rfl, hjm⟩
      rw [← tm_nil u]
      by_cases hcj : j < (lookT pl.pg ms).length
      · have a2 : ((j : Int) < ((lookT pl.pg ms).length : Int)) = True := eq_true (by omega)
        have w2 : IntKind.i64.wrap ((j : Int) + 1) = ((j + 1 : Nat) : Int) := by rw [wrap_i64 (by omega) (by omega)]; rfl
        have G := S.elem hcj
        have hmem := List.getElem_mem hcj
        have hmo := hpm _ hmem
        have hmore := more_one (P := fun o => ¬ Meet r o) hcj hjm
        generalize (lookT pl.pg ms)[j] = o at *
        have e5 := fun H => e4 o H
        rw [hmo] at e5
        simp only [Bool.true_and] at e5
        simp only [Rect.cs, List.append_assoc, List.cons_append] at G e5
        by_cases hm : Meet r o
        · rw [hnok (fun h => hof.1 h o hmem hm)]
          rw [meet_true hm] at e5
          simp only [R1, R2, R3, R4, R5, R6, R7, R8, AV.flat, fillIn_nil, fillIn_cons, splice, AV.cells, AV.one, eqsOf, idx, SO.calls, List.reduceReplicate, Nat.reduceBEq, Nat.reduceLT, Nat.reduceAdd, Nat.reduceMul, Nat.reduceSub, Nat.reduceLeDiff, Nat.reduceEqDiff, ↓reduceIte, Int.reduceLT, Int.reduceEq, Int.reduceBNe, Int.reduceBEq, aeq, Int.reduceLE, Int.reduceNeg, Int.reduceMul, Int.reduceAdd, Int.reduceSub, Int.reduceToNat, Int.reducePow, k1, k2, k3, k4, k5, k6, k7, k8, k9, k10, k11, k12, k13, a2, w2, G, e5]
          try rw [tidy_bool']
        · rw [meet_false hm] at e5
          simp only [R1, R2, R3, R4, R5, R6, R7, R8, AV.flat, fillIn_nil, fillIn_cons, splice, AV.cells, AV.one, eqsOf, idx, SO.calls, List.reduceReplicate, Nat.reduceBEq, Nat.reduceLT, Nat.reduceAdd, Nat.reduceMul, Nat.reduceSub, Nat.reduceLeDiff, Nat.reduceEqDiff, ↓reduceIte, Int.reduceLT, Int.reduceEq, Int.reduceBNe, Int.reduceBEq, aeq, Int.reduceLE, Int.reduceNeg, Int.reduceMul, Int.reduceAdd, Int.reduceSub, Int.reduceToNat, Int.reducePow, k1, k2, k3, k4, k5, k6, k7, k8, k9, k10, k11, k12, k13, a2, w2, G, e5]
          exact ⟨_, by omega, j + 1, _, by omega, rfl, rfl, rfl, hmore hm⟩
      · have a2 : ((j : Int) < ((lookT pl.pg ms).length : Int)) = False := eq_false (by omega)
        obtain rfl : j = (lookT pl.pg ms).length := by omega
        rw [List.take_length] at hjm
        obtain ⟨X', ms', hX', hap, hmu, hT', hlk'⟩ := tm_push (P := H ++ [.cells [.int .i64 pw, .int .i64 ph] 61 true, .cells [.int .i64 0, .int .i64 0, .int .i64 pw, .int .i64 ph] 112 true, .mp (tmK ms) (tmV (H.length + 3) ms)])
          (Z := .cells [.int .i64 s.w, .int .i64 s.h] 61 true :: .cells [.int .i64 r.x, .int .i64 r.y, .int .i64 r.w, .int .i64 r.h] 112 true :: Z) hT pl.pg r (by omega) (p := H.length + (X.length + (Z.length + 1 + 1) + 1 + 1 + 1)) (by simp; omega)
        have hap := hap _ rfl
        simp only [List.append_assoc, List.cons_append, List.nil_append, List.length_append, List.length_cons, List.length_nil, Nat.zero_add, Nat.reduceAdd, Rect.cs] at hap hmu hT'
        have hkc := fun (A B : Heap) => (ha.kept A B (i * 3)).1
        have mu : ∀ Y, mapupOf [] (.mp (H.length + 2)) (.int .i64 pl.pg) (.sl (H.length + (X.length + (Z.length + 1 + 1) + 1 + 1 + 1) + 1) 0 ((lookT pl.pg ms).length + 1) 4 none) (H ++ (.cells [.int .i64 pw, .int .i64 ph] 61 true :: .cells [.int .i64 0, .int .i64 0, .int .i64 pw, .int .i64 ph] 112 true :: .mp (tmK ms) (tmV (H.length + 3) ms) :: Y)) =
            some (.undef, H ++ (.cells [.int .i64 pw, .int .i64 ph] 61 true :: .cells [.int .i64 0, .int .i64 0, .int .i64 pw, .int .i64 ph] 112 true :: .mp (tmK ms') (tmV (H.length + 3) ms') :: Y)) := fun Y => by
          rw [hmu _ _ (by rw [List.getElem?_append_right (by omega), Nat.add_sub_cancel_left]; rfl), set_third]
        have hle : (H.length + (X.length + (Z.length + 1 + 1 + 1) + 1 + 1 + 1) ≤ H.length + (X.length + (Z.length + 2 + 1 + 1) + 1 + 1 + 1)) = True := eq_true (by omega)
        simp only [R1, R2, R3, R4, R5, R6, R7, R8, AV.flat, fillIn_nil, fillIn_cons, splice, AV.cells, AV.one, eqsOf, idx, SO.calls, List.reduceReplicate, Nat.reduceBEq, Nat.reduceLT, Nat.reduceAdd, Nat.reduceMul, Nat.reduceSub, Nat.reduceLeDiff, Nat.reduceEqDiff, ↓reduceIte, Int.reduceLT, Int.reduceEq, Int.reduceBNe, Int.reduceBEq, aeq, Int.reduceLE, Int.reduceNeg, Int.reduceMul, Int.reduceAdd, Int.reduceSub, Int.reduceToNat, Int.reducePow, k1, k2, k3, k4, k5, k6, k7, k8, k9, k10, k11, k12, k13, a2, w1, F, lk, hap, hkc, hX', hle, mu]
        exact ⟨_, by omega, i + 1, _, ms', by omega, rfl, rfl, rfl, hT', fun g => by rw [hlk', htk, hlk, hlk]; by_cases hgg : pl.pg = g; (· rw [if_pos hgg, if_pos hgg.symm, hgg]); (· rw [if_neg hgg, if_neg (fun e => hgg e.symm)]), hok1 (hof.2 hjm)⟩
    · have a1 : ((i : Int) < (l.length : Int)) = False := eq_false (by omega)
      obtain rfl : i = l.length := by omega
      rw [decide_eq_true (show chkP l pw ph pad q from ⟨⟨hA, hL⟩, hok⟩)]
      simp only [R1, R2, R3, R4, R5, R6, R7, R8, AV.flat, fillIn_nil, fillIn_cons, splice, AV.cells, AV.one, eqsOf, idx, SO.calls, List.reduceReplicate, Nat.reduceBEq, Nat.reduceLT, Nat.reduceAdd, Nat.reduceMul, Nat.reduceSub, Nat.reduceLeDiff, Nat.reduceEqDiff, ↓reduceIte, Int.reduceLT, Int.reduceEq, Int.reduceBNe, Int.reduceBEq, aeq, Int.reduceLE, Int.reduceNeg, Int.reduceMul, Int.reduceAdd, Int.reduceSub, Int.reduceToNat, Int.reducePow, g1, g2, g3, g4, g5, g6, g7, g8, a1]
      try rw [tidy_bool']
end Go.Proofs.Ytkcbjeenoafbkaa
