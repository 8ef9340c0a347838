/- The box around edges. -/
import Derived.Test.YtkcbjeenoafbkaaC16c
set_option linter.unusedVariables false
set_option linter.unusedSimpArgs false
set_option maxRecDepth 100000
set_option maxHeartbeats 1000000
namespace Go.Proofs.Ytkcbjeenoafbkaa
open Go Go.Den
def pointsP (e : Edge) : List Pt := if e.quad = true then [e.a, e.b, e.c] else [e.a, e.c]
def lo2 (p q : Pt) : Pt := ⟨min p.x q.x, min p.y q.y⟩
def hi2 (p q : Pt) : Pt := ⟨max p.x q.x, max p.y q.y⟩
def loP (s : Pt) (l : List Edge) : Pt := l.foldl (fun s e => (pointsP e).foldl lo2 s) s
def hiP (s : Pt) (l : List Edge) : Pt := l.foldl (fun s e => (pointsP e).foldl hi2 s) s
def boxP : List Edge → Pt × Pt × Bool
  | [] => (⟨0, 0⟩, ⟨0, 0⟩, false)
  | e :: r => (loP e.a (e :: r), hiP e.a (e :: r), true)
theorem c46 (e : Edge) (H : Heap) : call env 46 [.agg e.cs] H = some (.sl H.length 0 (pointsP e).length 2 (some (pointsP e).length), H ++ [.cells ((pointsP e).flatMap Pt.cs) 35 true]) := by
  obtain ⟨n, q, ⟨ax, ay⟩, ⟨bx, by'⟩, ⟨cx, cy⟩⟩ := e
  cases q
  · have e1 := @tidy_sl1 H [.cells [.int .i64 n, .bool false, .int .i64 ax, .int .i64 ay, .int .i64 bx, .int .i64 by', .int .i64 cx, .int .i64 cy] 80 true, .cells [.int .i64 ax, .int .i64 ay, .int .i64 cx, .int .i64 cy] 35 true] 1 0 2 2 (some 2) _ 35 true rfl rfl (by simp) (by decide)
    simp only [R1, R2, R3, R4, R5, R6, R7, R8, AV.flat, fillIn_nil, fillIn_cons, splice, AV.cells, AV.one, eqsOf, idx, SO.calls, List.reduceReplicate, Nat.reduceBEq, Nat.reduceLT, Nat.reduceAdd, Nat.reduceMul, Nat.reduceSub, Nat.reduceLeDiff, Nat.reduceEqDiff, ↓reduceIte, Int.reduceLT, Int.reduceEq, Int.reduceBNe, Int.reduceBEq, aeq, Int.reduceLE, Int.reduceNeg, Int.reduceMul, Int.reduceAdd, Int.reduceSub, Int.reduceToNat, Int.reducePow] at e1
    simp only [Edge.cs, pointsP, Bool.false_eq_true, if_false, List.flatMap_cons, List.flatMap_nil, Pt.cs, R1, R2, R3, R4, R5, R6, R7, R8, AV.flat, fillIn_nil, fillIn_cons, splice, AV.cells, AV.one, eqsOf, idx, SO.calls, List.reduceReplicate, Nat.reduceBEq, Nat.reduceLT, Nat.reduceAdd, Nat.reduceMul, Nat.reduceSub, Nat.reduceLeDiff, Nat.reduceEqDiff, ↓reduceIte, Int.reduceLT, Int.reduceEq, Int.reduceBNe, Int.reduceBEq, aeq, Int.reduceLE, Int.reduceNeg, Int.reduceMul, Int.reduceAdd, Int.reduceSub, Int.reduceToNat, Int.reducePow]
    refine call_ends (fn := s46) rfl rfl (by simp [s46]) ?_
    simp only [s46, R1, R2, R3, R4, R5, R6, R7, R8, AV.flat, fillIn_nil, fillIn_cons, splice, AV.cells, AV.one, eqsOf, idx, SO.calls, List.reduceReplicate, Nat.reduceBEq, Nat.reduceLT, Nat.reduceAdd, Nat.reduceMul, Nat.reduceSub, Nat.reduceLeDiff, Nat.reduceEqDiff, ↓reduceIte, Int.reduceLT, Int.reduceEq, Int.reduceBNe, Int.reduceBEq, aeq, Int.reduceLE, Int.reduceNeg, Int.reduceMul, Int.reduceAdd, Int.reduceSub, Int.reduceToNat, Int.reducePow, e1]
  · have e1 := @tidy_sl1 H [.cells [.int .i64 n, .bool true, .int .i64 ax, .int .i64 ay, .int .i64 bx, .int .i64 by', .int .i64 cx, .int .i64 cy] 80 true, .cells [.int .i64 ax, .int .i64 ay, .int .i64 bx, .int .i64 by', .int .i64 cx, .int .i64 cy] 35 true] 1 0 3 2 (some 3) _ 35 true rfl rfl (by simp) (by decide)
    simp only [R1, R2, R3, R4, R5, R6, R7, R8, AV.flat, fillIn_nil, fillIn_cons, splice, AV.cells, AV.one, eqsOf, idx, SO.calls, List.reduceReplicate, Nat.reduceBEq, Nat.reduceLT, Nat.reduceAdd, Nat.reduceMul, Nat.reduceSub, Nat.reduceLeDiff, Nat.reduceEqDiff, ↓reduceIte, Int.reduceLT, Int.reduceEq, Int.reduceBNe, Int.reduceBEq, aeq, Int.reduceLE, Int.reduceNeg, Int.reduceMul, Int.reduceAdd, Int.reduceSub, Int.reduceToNat, Int.reducePow] at e1
    simp only [Edge.cs, pointsP, if_true, List.flatMap_cons, List.flatMap_nil, Pt.cs, R1, R2, R3, R4, R5, R6, R7, R8, AV.flat, fillIn_nil, fillIn_cons, splice, AV.cells, AV.one, eqsOf, idx, SO.calls, List.reduceReplicate, Nat.reduceBEq, Nat.reduceLT, Nat.reduceAdd, Nat.reduceMul, Nat.reduceSub, Nat.reduceLeDiff, Nat.reduceEqDiff, ↓reduceIte, Int.reduceLT, Int.reduceEq, Int.reduceBNe, Int.reduceBEq, aeq, Int.reduceLE, Int.reduceNeg, Int.reduceMul, Int.reduceAdd, Int.reduceSub, Int.reduceToNat, Int.reducePow]
    refine call_ends (fn := s46) rfl rfl (by simp [s46]) ?_
    simp only [s46, R1, R2, R3, R4, R5, R6, R7, R8, AV.flat, fillIn_nil, fillIn_cons, splice, AV.cells, AV.one, eqsOf, idx, SO.calls, List.reduceReplicate, Nat.reduceBEq, Nat.reduceLT, Nat.reduceAdd, Nat.reduceMul, Nat.reduceSub, Nat.reduceLeDiff, Nat.reduceEqDiff, ↓reduceIte, Int.reduceLT, Int.reduceEq, Int.reduceBNe, Int.reduceBEq, aeq, Int.reduceLE, Int.reduceNeg, Int.reduceMul, Int.reduceAdd, Int.reduceSub, Int.reduceToNat, Int.reducePow, e1]
theorem c47 (e : Edge) (H : Heap) : call env 47 [.agg e.cs] H = some (.sl H.length 0 (pointsP e).length 2 (some (pointsP e).length), H ++ [.cells ((pointsP e).flatMap Pt.cs) 35 true]) := by
  obtain ⟨n, q, ⟨ax, ay⟩, ⟨bx, by'⟩, ⟨cx, cy⟩⟩ := e
  cases q
  · have e1 := @tidy_sl1 H [.cells [.int .i64 n, .bool false, .int .i64 ax, .int .i64 ay, .int .i64 bx, .int .i64 by', .int .i64 cx, .int .i64 cy] 80 true, .cells [.int .i64 ax, .int .i64 ay, .int .i64 cx, .int .i64 cy] 35 true] 1 0 2 2 (some 2) _ 35 true rfl rfl (by simp) (by decide)
    simp only [R1, R2, R3, R4, R5, R6, R7, R8, AV.flat, fillIn_nil, fillIn_cons, splice, AV.cells, AV.one, eqsOf, idx, SO.calls, List.reduceReplicate, Nat.reduceBEq, Nat.reduceLT, Nat.reduceAdd, Nat.reduceMul, Nat.reduceSub, Nat.reduceLeDiff, Nat.reduceEqDiff, ↓reduceIte, Int.reduceLT, Int.reduceEq, Int.reduceBNe, Int.reduceBEq, aeq, Int.reduceLE, Int.reduceNeg, Int.reduceMul, Int.reduceAdd, Int.reduceSub, Int.reduceToNat, Int.reducePow] at e1
    simp only [Edge.cs, pointsP, Bool.false_eq_true, if_false, List.flatMap_cons, List.flatMap_nil, Pt.cs, R1, R2, R3, R4, R5, R6, R7, R8, AV.flat, fillIn_nil, fillIn_cons, splice, AV.cells, AV.one, eqsOf, idx, SO.calls, List.reduceReplicate, Nat.reduceBEq, Nat.reduceLT, Nat.reduceAdd, Nat.reduceMul, Nat.reduceSub, Nat.reduceLeDiff, Nat.reduceEqDiff, ↓reduceIte, Int.reduceLT, Int.reduceEq, Int.reduceBNe, Int.reduceBEq, aeq, Int.reduceLE, Int.reduceNeg, Int.reduceMul, Int.reduceAdd, Int.reduceSub, Int.reduceToNat, Int.reducePow]
    refine call_ends (fn := s47) rfl rfl (by simp [s47]) ?_
    simp only [s47, R1, R2, R3, R4, R5, R6, R7, R8, AV.flat, fillIn_nil, fillIn_cons, splice, AV.cells, AV.one, eqsOf, idx, SO.calls, List.reduceReplicate, Nat.reduceBEq, Nat.reduceLT, Nat.reduceAdd, Nat.reduceMul, Nat.reduceSub, Nat.reduceLeDiff, Nat.reduceEqDiff, ↓reduceIte, Int.reduceLT, Int.reduceEq, Int.reduceBNe, Int.reduceBEq, aeq, Int.reduceLE, Int.reduceNeg, Int.reduceMul, Int.reduceAdd, Int.reduceSub, Int.reduceToNat, Int.reducePow, e1]
  · have e1 := @tidy_sl1 H [.cells [.int .i64 n, .bool true, .int .i64 ax, .int .i64 ay, .int .i64 bx, .int .i64 by', .int .i64 cx, .int .i64 cy] 80 true, .cells [.int .i64 ax, .int .i64 ay, .int .i64 bx, .int .i64 by', .int .i64 cx, .int .i64 cy] 35 true] 1 0 3 2 (some 3) _ 35 true rfl rfl (by simp) (by decide)
    simp only [R1, R2, R3, R4, R5, R6, R7, R8, AV.flat, fillIn_nil, fillIn_cons, splice, AV.cells, AV.one, eqsOf, idx, SO.calls, List.reduceReplicate, Nat.reduceBEq, Nat.reduceLT, Nat.reduceAdd, Nat.reduceMul, Nat.reduceSub, Nat.reduceLeDiff, Nat.reduceEqDiff, ↓reduceIte, Int.reduceLT, Int.reduceEq, Int.reduceBNe, Int.reduceBEq, aeq, Int.reduceLE, Int.reduceNeg, Int.reduceMul, Int.reduceAdd, Int.reduceSub, Int.reduceToNat, Int.reducePow] at e1
    simp only [Edge.cs, pointsP, if_true, List.flatMap_cons, List.flatMap_nil, Pt.cs, R1, R2, R3, R4, R5, R6, R7, R8, AV.flat, fillIn_nil, fillIn_cons, splice, AV.cells, AV.one, eqsOf, idx, SO.calls, List.reduceReplicate, Nat.reduceBEq, Nat.reduceLT, Nat.reduceAdd, Nat.reduceMul, Nat.reduceSub, Nat.reduceLeDiff, Nat.reduceEqDiff, ↓reduceIte, Int.reduceLT, Int.reduceEq, Int.reduceBNe, Int.reduceBEq, aeq, Int.reduceLE, Int.reduceNeg, Int.reduceMul, Int.reduceAdd, Int.reduceSub, Int.reduceToNat, Int.reducePow]
    refine call_ends (fn := s47) rfl rfl (by simp [s47]) ?_
    simp only [s47, R1, R2, R3, R4, R5, R6, R7, R8, AV.flat, fillIn_nil, fillIn_cons, splice, AV.cells, AV.one, eqsOf, idx, SO.calls, List.reduceReplicate, Nat.reduceBEq, Nat.reduceLT, Nat.reduceAdd, Nat.reduceMul, Nat.reduceSub, Nat.reduceLeDiff, Nat.reduceEqDiff, ↓reduceIte, Int.reduceLT, Int.reduceEq, Int.reduceBNe, Int.reduceBEq, aeq, Int.reduceLE, Int.reduceNeg, Int.reduceMul, Int.reduceAdd, Int.reduceSub, Int.reduceToNat, Int.reducePow, e1]

theorem c20 {H : Heap} {v : AV} {l : List Edge} (hs : SlOf H 8 Edge.cs v l) (hn : l.length ≤ 1000000) :
    call env 20 [v] H = some (.tup [.agg (boxP l).1.cs, .agg (boxP l).2.1.cs, .bool (boxP l).2.2], H) := by
  have e1 := hs.lenOf
  by_cases h0 : l.length = 0
  · have hl : l = [] := List.length_eq_zero_iff.1 h0
    subst hl
    have a0 : (((0 : Nat) : Int) == 0) = true := rfl
    simp only [List.length_nil] at e1
    refine call_ends (fn := s20) rfl rfl (by simp [s20]) ?_
    simp only [s20, R1, R2, R3, R4, R5, R6, R7, R8, AV.flat, fillIn_nil, fillIn_cons, splice, AV.cells, AV.one, eqsOf, idx, SO.calls, List.reduceReplicate, Nat.reduceBEq, Nat.reduceLT, Nat.reduceAdd, Nat.reduceMul, Nat.reduceSub, Nat.reduceLeDiff, Nat.reduceEqDiff, ↓reduceIte, Int.reduceLT, Int.reduceEq, Int.reduceBNe, Int.reduceBEq, aeq, Int.reduceLE, Int.reduceNeg, Int.reduceMul, Int.reduceAdd, Int.reduceSub, Int.reduceToNat, Int.reducePow, e1, a0, tidy_still, AV.still, boxP, Pt.cs]
  · have hpos : 0 < l.length := by omega
    have a0 : ((l.length : Int) == 0) = false := by rw [beq_eq_false_iff_ne]; omega
    have Ez := hs.elemz hpos
    have kz := fun X Y p => (hs.kept X Y p).1
    have hbox : boxP l = (loP l[0].a l, hiP l[0].a l, true) := by
      cases l with
      | nil => simp at hpos
      | cons e r => rfl
    rw [hbox]
    obtain ⟨B, hBd⟩ : ∃ B : Int × Int × Int × Int → Heap, ∀ a b c d, B (a, b, c, d) = H ++ [.cells [.int .i64 0, .int .i64 0] 35 true, .cells [.int .i64 0, .int .i64 0] 35 true, .cells [.int .i64 a, .int .i64 b] 35 true, .cells [.int .i64 c, .int .i64 d] 35 true] := ⟨fun q => H ++ [.cells [.int .i64 0, .int .i64 0] 35 true, .cells [.int .i64 0, .int .i64 0] 35 true, .cells [.int .i64 q.1, .int .i64 q.2.1] 35 true, .cells [.int .i64 q.2.2.1, .int .i64 q.2.2.2] 35 true], fun a b c d => rfl⟩
    have hlen : ∀ q, (B q).length = H.length + 4 := fun ⟨a, b, c, d⟩ => by rw [hBd]; simp
    have hB := fam hlen
    have hsB : ∀ q, SlOf (B q) 8 Edge.cs v l := fun ⟨a, b, c, d⟩ => by rw [hBd]; exact hs.app _
    have fB : (∀ a b c d X, aload (B (a, b, c, d) ++ X) 1 (.ptr (H.length + 2) 0) = some [.int .i64 a]) ∧ (∀ a b c d X, aload (B (a, b, c, d) ++ X) 1 (.ptr (H.length + 2) 1) = some [.int .i64 b]) ∧
        (∀ a b c d X, aload (B (a, b, c, d) ++ X) 1 (.ptr (H.length + 3) 0) = some [.int .i64 c]) ∧ (∀ a b c d X, aload (B (a, b, c, d) ++ X) 1 (.ptr (H.length + 3) 1) = some [.int .i64 d]) ∧
        (∀ a b c d X n, astore (B (a, b, c, d) ++ X) (.ptr (H.length + 2) 0) [.int .i64 n] = some (B (n, b, c, d) ++ X)) ∧ (∀ a b c d X n, astore (B (a, b, c, d) ++ X) (.ptr (H.length + 2) 1) [.int .i64 n] = some (B (a, n, c, d) ++ X)) ∧
        (∀ a b c d X n, astore (B (a, b, c, d) ++ X) (.ptr (H.length + 3) 0) [.int .i64 n] = some (B (a, b, n, d) ++ X)) ∧ (∀ a b c d X n, astore (B (a, b, c, d) ++ X) (.ptr (H.length + 3) 1) [.int .i64 n] = some (B (a, b, c, n) ++ X)) ∧
        (∀ a b c d X n m, astore (B (a, b, c, d) ++ X) (.ptr (H.length + 2) 0) [.int .i64 n, .int .i64 m] = some (B (n, m, c, d) ++ X)) ∧ (∀ a b c d X n m, astore (B (a, b, c, d) ++ X) (.ptr (H.length + 3) 0) [.int .i64 n, .int .i64 m] = some (B (a, b, n, m) ++ X)) := by
      refine ⟨?_, ?_, ?_, ?_, ?_, ?_, ?_, ?_, ?_, ?_⟩ <;> intros <;> simp only [hBd, R1, R2, R3, R4, R5, R6, R7, R8, AV.flat, fillIn_nil, fillIn_cons, splice, AV.cells, AV.one, eqsOf, idx, SO.calls, List.reduceReplicate, Nat.reduceBEq, Nat.reduceLT, Nat.reduceAdd, Nat.reduceMul, Nat.reduceSub, Nat.reduceLeDiff, Nat.reduceEqDiff, ↓reduceIte, Int.reduceLT, Int.reduceEq, Int.reduceBNe, Int.reduceBEq, aeq, Int.reduceLE, Int.reduceNeg, Int.reduceMul, Int.reduceAdd, Int.reduceSub, Int.reduceToNat, Int.reducePow]
    have hstart : H ++ [.cells [.int .i64 0, .int .i64 0] 35 true, .cells [.int .i64 0, .int .i64 0] 35 true, .cells [.int .i64 l[0].a.x, .int .i64 l[0].a.y] 35 true, .cells [.int .i64 l[0].a.x, .int .i64 l[0].a.y] 35 true] = B (l[0].a.x, l[0].a.y, l[0].a.x, l[0].a.y) ++ [] := by rw [hBd, List.append_nil]
    simp only [Edge.cs] at Ez
    generalize l[0].a = s0 at *
    refine call_ends (fn := s20) rfl rfl (by simp [s20]) ?_
    simp only [s20, R1, R2, R3, R4, R5, R6, R7, R8, AV.flat, fillIn_nil, fillIn_cons, splice, AV.cells, AV.one, eqsOf, idx, SO.calls, List.reduceReplicate, Nat.reduceBEq, Nat.reduceLT, Nat.reduceAdd, Nat.reduceMul, Nat.reduceSub, Nat.reduceLeDiff, Nat.reduceEqDiff, ↓reduceIte, Int.reduceLT, Int.reduceEq, Int.reduceBNe, Int.reduceBEq, aeq, Int.reduceLE, Int.reduceNeg, Int.reduceMul, Int.reduceAdd, Int.reduceSub, Int.reduceToNat, Int.reducePow, e1, a0, Ez, kz]
    rw [hstart]
    refine ends_loop (fun k t H' => t.length = 65 ∧ t.getD 2 .undef = .ptr H.length 0 ∧ t.getD 3 .undef = .ptr (H.length + 1) 0 ∧ t.getD 5 .undef = .ptr (H.length + 2) 0 ∧ t.getD 6 .undef = .ptr (H.length + 3) 0 ∧ (t.getD 24 .undef = v ∧ t.getD 25 .undef = .int .i64 (l.length : Int)) ∧ ∃ i : Nat, i ≤ l.length ∧ k = l.length - i ∧ t.getD 26 .undef = .int .i64 (i : Int) ∧
      ∃ a b c d X, H' = B (a, b, c, d) ++ X ∧ (⟨a, b⟩ : Pt) = loP s0 (l.take i) ∧ (⟨c, d⟩ : Pt) = hiP s0 (l.take i)) l.length ?_ ?_
    · simp only [R1, R2, R3, R4, R5, R6, R7, R8, AV.flat, fillIn_nil, fillIn_cons, splice, AV.cells, AV.one, eqsOf, idx, SO.calls, List.reduceReplicate, Nat.reduceBEq, Nat.reduceLT, Nat.reduceAdd, Nat.reduceMul, Nat.reduceSub, Nat.reduceLeDiff, Nat.reduceEqDiff, ↓reduceIte, Int.reduceLT, Int.reduceEq, Int.reduceBNe, Int.reduceBEq, aeq, Int.reduceLE, Int.reduceNeg, Int.reduceMul, Int.reduceAdd, Int.reduceSub, Int.reduceToNat, Int.reducePow]
      exact ⟨0, by omega, by omega, rfl, _, _, _, _, [], (List.append_nil _).symm, rfl, rfl⟩
    · rintro k t _ ⟨g0, g1, g2, g3, g4, g5, i, hi, rfl, g6, a, b, c, d, X, rfl, q1, q2⟩
      rw [← tm_nil t]
      by_cases hc : i < l.length
      · have a1 : ((i : Int) < (l.length : Int)) = True := eq_true (by omega)
        have w2 : IntKind.i64.wrap ((i : Int) + 1) = ((i + 1 : Nat) : Int) := by rw [wrap_i64 (by omega) (by omega)]; rfl
        have Ea := (hs.elem hc).1
        have Eb := (hs.elem hc).2.1
        have Ei := fun q => ((hsB q).elem hc).2.2
        have t1 := List.take_succ_eq_append_getElem hc
        have q3 : loP s0 (l.take (i + 1)) = (pointsP l[i]).foldl lo2 ⟨a, b⟩ := by rw [q1, t1]; unfold loP; rw [List.foldl_append]; rfl
        have q4 : hiP s0 (l.take (i + 1)) = (pointsP l[i]).foldl hi2 ⟨c, d⟩ := by rw [q2, t1]; unfold hiP; rw [List.foldl_append]; rfl
        have pf := fun H => c46 l[i] H
        generalize l[i] = e at *
        obtain ⟨en, eq, ⟨ax, ay⟩, ⟨bx, by'⟩, ⟨cx, cy⟩⟩ := e
        have u1 := fun r t H Q => @ends_unroll (call env) t H Q (.seq (.reg [⟨some 34, .bin .lss (.t 33) (.t 32), none, none, []⟩]) r)
        cases eq
        · simp only [Edge.cs, pointsP, Bool.false_eq_true, if_false, List.flatMap_cons, List.flatMap_nil, Pt.cs, R1, R2, R3, R4, R5, R6, R7, R8, AV.flat, fillIn_nil, fillIn_cons, splice, AV.cells, AV.one, eqsOf, idx, SO.calls, List.reduceReplicate, Nat.reduceBEq, Nat.reduceLT, Nat.reduceAdd, Nat.reduceMul, Nat.reduceSub, Nat.reduceLeDiff, Nat.reduceEqDiff, ↓reduceIte, Int.reduceLT, Int.reduceEq, Int.reduceBNe, Int.reduceBEq, aeq, Int.reduceLE, Int.reduceNeg, Int.reduceMul, Int.reduceAdd, Int.reduceSub, Int.reduceToNat, Int.reducePow] at Ei pf q3 q4
          simp only [R1, R2, R3, R4, R5, R6, R7, R8, AV.flat, fillIn_nil, fillIn_cons, splice, AV.cells, AV.one, eqsOf, idx, SO.calls, List.reduceReplicate, Nat.reduceBEq, Nat.reduceLT, Nat.reduceAdd, Nat.reduceMul, Nat.reduceSub, Nat.reduceLeDiff, Nat.reduceEqDiff, ↓reduceIte, Int.reduceLT, Int.reduceEq, Int.reduceBNe, Int.reduceBEq, aeq, Int.reduceLE, Int.reduceNeg, Int.reduceMul, Int.reduceAdd, Int.reduceSub, Int.reduceToNat, Int.reducePow, g0, g1, g2, g3, g4, g5, e1, a1, w2, Ea, Eb, Ei, hB, fB, pf, u1, g6]
          refine ⟨_, by omega, i + 1, by omega, rfl, rfl, _, _, _, _, _, rfl, ?_, ?_⟩
          · rw [q3]; rfl
          · rw [q4]; rfl
        · simp only [Edge.cs, pointsP, if_true, List.flatMap_cons, List.flatMap_nil, Pt.cs, R1, R2, R3, R4, R5, R6, R7, R8, AV.flat, fillIn_nil, fillIn_cons, splice, AV.cells, AV.one, eqsOf, idx, SO.calls, List.reduceReplicate, Nat.reduceBEq, Nat.reduceLT, Nat.reduceAdd, Nat.reduceMul, Nat.reduceSub, Nat.reduceLeDiff, Nat.reduceEqDiff, ↓reduceIte, Int.reduceLT, Int.reduceEq, Int.reduceBNe, Int.reduceBEq, aeq, Int.reduceLE, Int.reduceNeg, Int.reduceMul, Int.reduceAdd, Int.reduceSub, Int.reduceToNat, Int.reducePow] at Ei pf q3 q4
          simp only [R1, R2, R3, R4, R5, R6, R7, R8, AV.flat, fillIn_nil, fillIn_cons, splice, AV.cells, AV.one, eqsOf, idx, SO.calls, List.reduceReplicate, Nat.reduceBEq, Nat.reduceLT, Nat.reduceAdd, Nat.reduceMul, Nat.reduceSub, Nat.reduceLeDiff, Nat.reduceEqDiff, ↓reduceIte, Int.reduceLT, Int.reduceEq, Int.reduceBNe, Int.reduceBEq, aeq, Int.reduceLE, Int.reduceNeg, Int.reduceMul, Int.reduceAdd, Int.reduceSub, Int.reduceToNat, Int.reducePow, g0, g1, g2, g3, g4, g5, e1, a1, w2, Ea, Eb, Ei, hB, fB, pf, u1, g6]
          refine ⟨_, by omega, i + 1, by omega, rfl, rfl, _, _, _, _, _, rfl, ?_, ?_⟩
          · rw [q3]; rfl
          · rw [q4]; rfl
      · have a1 : ((i : Int) < (l.length : Int)) = False := eq_false (by omega)
        have : i = l.length := by omega
        subst this
        rw [List.take_length] at q1 q2
        rw [← q1, ← q2]
        simp only [R1, R2, R3, R4, R5, R6, R7, R8, AV.flat, fillIn_nil, fillIn_cons, splice, AV.cells, AV.one, eqsOf, idx, SO.calls, List.reduceReplicate, Nat.reduceBEq, Nat.reduceLT, Nat.reduceAdd, Nat.reduceMul, Nat.reduceSub, Nat.reduceLeDiff, Nat.reduceEqDiff, ↓reduceIte, Int.reduceLT, Int.reduceEq, Int.reduceBNe, Int.reduceBEq, aeq, Int.reduceLE, Int.reduceNeg, Int.reduceMul, Int.reduceAdd, Int.reduceSub, Int.reduceToNat, Int.reducePow, g0, g1, g2, g3, g4, g5, g6, e1, a1, hBd, Pt.cs, tidy_still, AV.still]

theorem c21 {H : Heap} {v : AV} {l : List Edge} (hs : SlOf H 8 Edge.cs v l) (hn : l.length ≤ 1000000) :
    call env 21 [v] H = some (.tup [.agg (boxP l).1.cs, .agg (boxP l).2.1.cs, .bool (boxP l).2.2], H) := by
  have e1 := hs.lenOf
  by_cases h0 : l.length = 0
  · have hl : l = [] := List.length_eq_zero_iff.1 h0
    subst hl
    have a0 : (((0 : Nat) : Int) == 0) = true := rfl
    simp only [List.length_nil] at e1
    refine call_ends (fn := s21) rfl rfl (by simp [s21]) ?_
    simp only [s21, R1, R2, R3, R4, R5, R6, R7, R8, AV.flat, fillIn_nil, fillIn_cons, splice, AV.cells, AV.one, eqsOf, idx, SO.calls, List.reduceReplicate, Nat.reduceBEq, Nat.reduceLT, Nat.reduceAdd, Nat.reduceMul, Nat.reduceSub, Nat.reduceLeDiff, Nat.reduceEqDiff, ↓reduceIte, Int.reduceLT, Int.reduceEq, Int.reduceBNe, Int.reduceBEq, aeq, Int.reduceLE, Int.reduceNeg, Int.reduceMul, Int.reduceAdd, Int.reduceSub, Int.reduceToNat, Int.reducePow, e1, a0, tidy_still, AV.still, boxP, Pt.cs]
  · have hpos : 0 < l.length := by omega
    have a0 : ((l.length : Int) == 0) = false := by rw [beq_eq_false_iff_ne]; omega
    have Ez := hs.elemz hpos
    have kz := fun X Y p => (hs.kept X Y p).1
    have hbox : boxP l = (loP l[0].a l, hiP l[0].a l, true) := by
      cases l with
      | nil => simp at hpos
      | cons e r => rfl
    rw [hbox]
    obtain ⟨B, hBd⟩ : ∃ B : Int × Int × Int × Int → Heap, ∀ a b c d, B (a, b, c, d) = H ++ [.cells [.int .i64 0, .int .i64 0] 35 true, .cells [.int .i64 0, .int .i64 0] 35 true, .cells [.int .i64 a, .int .i64 b] 35 true, .cells [.int .i64 c, .int .i64 d] 35 true] := ⟨fun q => H ++ [.cells [.int .i64 0, .int .i64 0] 35 true, .cells [.int .i64 0, .int .i64 0] 35 true, .cells [.int .i64 q.1, .int .i64 q.2.1] 35 true, .cells [.int .i64 q.2.2.1, .int .i64 q.2.2.2] 35 true], fun a b c d => rfl⟩
    have hlen : ∀ q, (B q).length = H.length + 4 := fun ⟨a, b, c, d⟩ => by rw [hBd]; simp
    have hB := fam hlen
    have hsB : ∀ q, SlOf (B q) 8 Edge.cs v l := fun ⟨a, b, c, d⟩ => by rw [hBd]; exact hs.app _
    have fB : (∀ a b c d X, aload (B (a, b, c, d) ++ X) 1 (.ptr (H.length + 2) 0) = some [.int .i64 a]) ∧ (∀ a b c d X, aload (B (a, b, c, d) ++ X) 1 (.ptr (H.length + 2) 1) = some [.int .i64 b]) ∧
        (∀ a b c d X, aload (B (a, b, c, d) ++ X) 1 (.ptr (H.length + 3) 0) = some [.int .i64 c]) ∧ (∀ a b c d X, aload (B (a, b, c, d) ++ X) 1 (.ptr (H.length + 3) 1) = some [.int .i64 d]) ∧
        (∀ a b c d X n, astore (B (a, b, c, d) ++ X) (.ptr (H.length + 2) 0) [.int .i64 n] = some (B (n, b, c, d) ++ X)) ∧ (∀ a b c d X n, astore (B (a, b, c, d) ++ X) (.ptr (H.length + 2) 1) [.int .i64 n] = some (B (a, n, c, d) ++ X)) ∧
        (∀ a b c d X n, astore (B (a, b, c, d) ++ X) (.ptr (H.length + 3) 0) [.int .i64 n] = some (B (a, b, n, d) ++ X)) ∧ (∀ a b c d X n, astore (B (a, b, c, d) ++ X) (.ptr (H.length + 3) 1) [.int .i64 n] = some (B (a, b, c, n) ++ X)) ∧
        (∀ a b c d X n m, astore (B (a, b, c, d) ++ X) (.ptr (H.length + 2) 0) [.int .i64 n, .int .i64 m] = some (B (n, m, c, d) ++ X)) ∧ (∀ a b c d X n m, astore (B (a, b, c, d) ++ X) (.ptr (H.length + 3) 0) [.int .i64 n, .int .i64 m] = some (B (a, b, n, m) ++ X)) := by
      refine ⟨?_, ?_, ?_, ?_, ?_, ?_, ?_, ?_, ?_, ?_⟩ <;> intros <;> simp only [hBd, R1, R2, R3, R4, R5, R6, R7, R8, AV.flat, fillIn_nil, fillIn_cons, splice, AV.cells, AV.one, eqsOf, idx, SO.calls, List.reduceReplicate, Nat.reduceBEq, Nat.reduceLT, Nat.reduceAdd, Nat.reduceMul, Nat.reduceSub, Nat.reduceLeDiff, Nat.reduceEqDiff, ↓reduceIte, Int.reduceLT, Int.reduceEq, Int.reduceBNe, Int.reduceBEq, aeq, Int.reduceLE, Int.reduceNeg, Int.reduceMul, Int.reduceAdd, Int.reduceSub, Int.reduceToNat, Int.reducePow]
    have hstart : H ++ [.cells [.int .i64 0, .int .i64 0] 35 true, .cells [.int .i64 0, .int .i64 0] 35 true, .cells [.int .i64 l[0].a.x, .int .i64 l[0].a.y] 35 true, .cells [.int .i64 l[0].a.x, .int .i64 l[0].a.y] 35 true] = B (l[0].a.x, l[0].a.y, l[0].a.x, l[0].a.y) ++ [] := by rw [hBd, List.append_nil]
    simp only [Edge.cs] at Ez
    generalize l[0].a = s0 at *
    refine call_ends (fn := s21) rfl rfl (by simp [s21]) ?_
    simp only [s21, R1, R2, R3, R4, R5, R6, R7, R8, AV.flat, fillIn_nil, fillIn_cons, splice, AV.cells, AV.one, eqsOf, idx, SO.calls, List.reduceReplicate, Nat.reduceBEq, Nat.reduceLT, Nat.reduceAdd, Nat.reduceMul, Nat.reduceSub, Nat.reduceLeDiff, Nat.reduceEqDiff, ↓reduceIte, Int.reduceLT, Int.reduceEq, Int.reduceBNe, Int.reduceBEq, aeq, Int.reduceLE, Int.reduceNeg, Int.reduceMul, Int.reduceAdd, Int.reduceSub, Int.reduceToNat, Int.reducePow, e1, a0, Ez, kz]
    rw [hstart]
    refine ends_loop (fun k t H' => t.length = 76 ∧ t.getD 2 .undef = .ptr H.length 0 ∧ t.getD 3 .undef = .ptr (H.length + 1) 0 ∧ t.getD 5 .undef = .ptr (H.length + 2) 0 ∧ t.getD 6 .undef = .ptr (H.length + 3) 0 ∧ (t.getD 0 .undef = v) ∧ ∃ i : Nat, i ≤ l.length ∧ k = l.length - i ∧ t.getD 7 .undef = .int .i64 (i : Int) ∧
      ∃ a b c d X, H' = B (a, b, c, d) ++ X ∧ (⟨a, b⟩ : Pt) = loP s0 (l.take i) ∧ (⟨c, d⟩ : Pt) = hiP s0 (l.take i)) l.length ?_ ?_
    · simp only [R1, R2, R3, R4, R5, R6, R7, R8, AV.flat, fillIn_nil, fillIn_cons, splice, AV.cells, AV.one, eqsOf, idx, SO.calls, List.reduceReplicate, Nat.reduceBEq, Nat.reduceLT, Nat.reduceAdd, Nat.reduceMul, Nat.reduceSub, Nat.reduceLeDiff, Nat.reduceEqDiff, ↓reduceIte, Int.reduceLT, Int.reduceEq, Int.reduceBNe, Int.reduceBEq, aeq, Int.reduceLE, Int.reduceNeg, Int.reduceMul, Int.reduceAdd, Int.reduceSub, Int.reduceToNat, Int.reducePow]
      exact ⟨0, by omega, by omega, rfl, _, _, _, _, [], (List.append_nil _).symm, rfl, rfl⟩
    · rintro k t _ ⟨g0, g1, g2, g3, g4, g5, i, hi, rfl, g6, a, b, c, d, X, rfl, q1, q2⟩
      rw [← tm_nil t]
      by_cases hc : i < l.length
      · have a1 : ((i : Int) < (l.length : Int)) = True := eq_true (by omega)
        have w2 : IntKind.i64.wrap ((i : Int) + 1) = ((i + 1 : Nat) : Int) := by rw [wrap_i64 (by omega) (by omega)]; rfl
        have Ea := (hs.elem hc).1
        have Eb := (hs.elem hc).2.1
        have Ei := fun q => ((hsB q).elem hc).2.2
        have t1 := List.take_succ_eq_append_getElem hc
        have q3 : loP s0 (l.take (i + 1)) = (pointsP l[i]).foldl lo2 ⟨a, b⟩ := by rw [q1, t1]; unfold loP; rw [List.foldl_append]; rfl
        have q4 : hiP s0 (l.take (i + 1)) = (pointsP l[i]).foldl hi2 ⟨c, d⟩ := by rw [q2, t1]; unfold hiP; rw [List.foldl_append]; rfl
        have pf := fun H => c47 l[i] H
        generalize l[i] = e at *
        obtain ⟨en, eq, ⟨ax, ay⟩, ⟨bx, by'⟩, ⟨cx, cy⟩⟩ := e
        have u1 := fun r t H Q => @ends_unroll (call env) t H Q (.seq (.seq (.reg [⟨some 34, .mv (.t 9), none, none, []⟩, ⟨some 35, .mv (.t 8), none, none, []⟩, ⟨some 36, .len false (.t 35), none, none, []⟩, ⟨some 37, .bin .lss (.t 34) (.t 36), none, none, []⟩]) (.cond (.t 37) .skip (.exit 2))) r)
        cases eq
        · simp only [Edge.cs, pointsP, Bool.false_eq_true, if_false, List.flatMap_cons, List.flatMap_nil, Pt.cs, R1, R2, R3, R4, R5, R6, R7, R8, AV.flat, fillIn_nil, fillIn_cons, splice, AV.cells, AV.one, eqsOf, idx, SO.calls, List.reduceReplicate, Nat.reduceBEq, Nat.reduceLT, Nat.reduceAdd, Nat.reduceMul, Nat.reduceSub, Nat.reduceLeDiff, Nat.reduceEqDiff, ↓reduceIte, Int.reduceLT, Int.reduceEq, Int.reduceBNe, Int.reduceBEq, aeq, Int.reduceLE, Int.reduceNeg, Int.reduceMul, Int.reduceAdd, Int.reduceSub, Int.reduceToNat, Int.reducePow] at Ei pf q3 q4
          simp only [R1, R2, R3, R4, R5, R6, R7, R8, AV.flat, fillIn_nil, fillIn_cons, splice, AV.cells, AV.one, eqsOf, idx, SO.calls, List.reduceReplicate, Nat.reduceBEq, Nat.reduceLT, Nat.reduceAdd, Nat.reduceMul, Nat.reduceSub, Nat.reduceLeDiff, Nat.reduceEqDiff, ↓reduceIte, Int.reduceLT, Int.reduceEq, Int.reduceBNe, Int.reduceBEq, aeq, Int.reduceLE, Int.reduceNeg, Int.reduceMul, Int.reduceAdd, Int.reduceSub, Int.reduceToNat, Int.reducePow, g0, g1, g2, g3, g4, g5, e1, a1, w2, Ea, Eb, Ei, hB, fB, pf, u1, g6]
          refine ⟨_, by omega, i + 1, by omega, rfl, rfl, _, _, _, _, _, rfl, ?_, ?_⟩
          · rw [q3]; rfl
          · rw [q4]; rfl
        · simp only [Edge.cs, pointsP, if_true, List.flatMap_cons, List.flatMap_nil, Pt.cs, R1, R2, R3, R4, R5, R6, R7, R8, AV.flat, fillIn_nil, fillIn_cons, splice, AV.cells, AV.one, eqsOf, idx, SO.calls, List.reduceReplicate, Nat.reduceBEq, Nat.reduceLT, Nat.reduceAdd, Nat.reduceMul, Nat.reduceSub, Nat.reduceLeDiff, Nat.reduceEqDiff, ↓reduceIte, Int.reduceLT, Int.reduceEq, Int.reduceBNe, Int.reduceBEq, aeq, Int.reduceLE, Int.reduceNeg, Int.reduceMul, Int.reduceAdd, Int.reduceSub, Int.reduceToNat, Int.reducePow] at Ei pf q3 q4
          simp only [R1, R2, R3, R4, R5, R6, R7, R8, AV.flat, fillIn_nil, fillIn_cons, splice, AV.cells, AV.one, eqsOf, idx, SO.calls, List.reduceReplicate, Nat.reduceBEq, Nat.reduceLT, Nat.reduceAdd, Nat.reduceMul, Nat.reduceSub, Nat.reduceLeDiff, Nat.reduceEqDiff, ↓reduceIte, Int.reduceLT, Int.reduceEq, Int.reduceBNe, Int.reduceBEq, aeq, Int.reduceLE, Int.reduceNeg, Int.reduceMul, Int.reduceAdd, Int.reduceSub, Int.reduceToNat, Int.reducePow, g0, g1, g2, g3, g4, g5, e1, a1, w2, Ea, Eb, Ei, hB, fB, pf, u1, g6]
          refine ⟨_, by omega, i + 1, by omega, rfl, rfl, _, _, _, _, _, rfl, ?_, ?_⟩
          · rw [q3]; rfl
          · rw [q4]; rfl
      · have a1 : ((i : Int) < (l.length : Int)) = False := eq_false (by omega)
        have : i = l.length := by omega
        subst this
        rw [List.take_length] at q1 q2
        rw [← q1, ← q2]
        simp only [R1, R2, R3, R4, R5, R6, R7, R8, AV.flat, fillIn_nil, fillIn_cons, splice, AV.cells, AV.one, eqsOf, idx, SO.calls, List.reduceReplicate, Nat.reduceBEq, Nat.reduceLT, Nat.reduceAdd, Nat.reduceMul, Nat.reduceSub, Nat.reduceLeDiff, Nat.reduceEqDiff, ↓reduceIte, Int.reduceLT, Int.reduceEq, Int.reduceBNe, Int.reduceBEq, aeq, Int.reduceLE, Int.reduceNeg, Int.reduceMul, Int.reduceAdd, Int.reduceSub, Int.reduceToNat, Int.reducePow, g0, g1, g2, g3, g4, g5, g6, e1, a1, hBd, Pt.cs, tidy_still, AV.still]
end Go.Proofs.Ytkcbjeenoafbkaa
