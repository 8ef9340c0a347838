/- Chapter 16: EdgeTurned, in the machine. -/
import Derived.Test.YtkcbjeenoafbkaaC16o
set_option linter.unusedVariables false
set_option linter.unusedSimpArgs false
set_option maxRecDepth 100000
set_option maxHeartbeats 2000000
namespace Go.Proofs.Ytkcbjeenoafbkaa
open Go Go.Den
theorem off_rows {n r : Nat} (h : r < n) : (∀ i c, inRows (i, n, c) r = false) ∧ (∀ i a c, inRows (i, n + a, c) r = false) := by
  constructor
  · intro i c; unfold inRows; rw [decide_eq_false (show ¬ n ≤ r by omega), Bool.false_and]
  · intro i a c; unfold inRows; rw [decide_eq_false (show ¬ n + a ≤ r by omega), Bool.false_and]
theorem vs_of {v : AV} {c : List Point} (hs : SlOf [] 3 Point.cs v c) (h : c ≠ []) : ∃ cc, v = .vs cc c.length := by
  rcases hs.kind with ⟨o, off, cap, row, h1, h2, _⟩ | ⟨n, h1⟩ | ⟨_, h1⟩
  · simp [arow] at h2
  · subst h1
    have := hs.len
    simp only [alen, Option.some.injEq] at this
    subst this
    exact ⟨_, rfl⟩
  · exact absurd h1 h
theorem new_some {α : Type} {H : Heap} {e : TypeId} {sz : Nat} {g : α → List AV} {l : List α} (h : l ≠ []) : newSl H e sz g l = (.sl H.length 0 l.length sz none, [.cells (l.flatMap g) e true]) := if_neg h
theorem c5 {v : AV} {c : List Point} (hs : SlOf [] 3 Point.cs v c) (hl : c.length ≤ 9223372036854775807) (at' : Int) : call env 5 [v, .int .i64 at'] [] = some (.bool true, []) := by
  have e0 := fun H => w13 H
  have el := hs.lenOf
  by_cases h0 : c.length = 0
  · have b0 : ((c.length : Int) == 0) = true := by simp [h0]
    refine call_ends (fn := s5) rfl rfl (by simp [s5]) ?_
    simp only [s5, R1, R2, R3, R4, R5, R6, R7, R8, AV.flat, fillIn_nil, fillIn_cons, splice, AV.cells, AV.one, eqsOf, idx, SO.calls, List.reduceReplicate, Nat.reduceBEq, Nat.reduceLT, Nat.reduceAdd, Nat.reduceMul, Nat.reduceSub, Nat.reduceLeDiff, Nat.reduceEqDiff, ↓reduceIte, Int.reduceLT, Int.reduceEq, Int.reduceBNe, Int.reduceBEq, aeq, Int.reduceLE, Int.reduceNeg, Int.reduceMul, Int.reduceAdd, Int.reduceSub, Int.reduceToNat, Int.reducePow, e0, el, b0]
  have b0 : ((c.length : Int) == 0) = false := by simp [h0]
  have hne : c ≠ [] := fun h => h0 (by rw [h]; rfl)
  by_cases h60 : c.length ≤ 60
  case neg =>
    have b1 : ((c.length : Int) > 60) = True := eq_true (by omega)
    refine call_ends (fn := s5) rfl rfl (by simp [s5]) ?_
    simp only [s5, R1, R2, R3, R4, R5, R6, R7, R8, AV.flat, fillIn_nil, fillIn_cons, splice, AV.cells, AV.one, eqsOf, idx, SO.calls, List.reduceReplicate, Nat.reduceBEq, Nat.reduceLT, Nat.reduceAdd, Nat.reduceMul, Nat.reduceSub, Nat.reduceLeDiff, Nat.reduceEqDiff, ↓reduceIte, Int.reduceLT, Int.reduceEq, Int.reduceBNe, Int.reduceBEq, aeq, Int.reduceLE, Int.reduceNeg, Int.reduceMul, Int.reduceAdd, Int.reduceSub, Int.reduceToNat, Int.reducePow, e0, el, b0, b1]
  have b1 : ((c.length : Int) > 60) = False := eq_false (by omega)
  by_cases ha0 : at' < 0
  · refine call_ends (fn := s5) rfl rfl (by simp [s5]) ?_
    simp only [s5, R1, R2, R3, R4, R5, R6, R7, R8, AV.flat, fillIn_nil, fillIn_cons, splice, AV.cells, AV.one, eqsOf, idx, SO.calls, List.reduceReplicate, Nat.reduceBEq, Nat.reduceLT, Nat.reduceAdd, Nat.reduceMul, Nat.reduceSub, Nat.reduceLeDiff, Nat.reduceEqDiff, ↓reduceIte, Int.reduceLT, Int.reduceEq, Int.reduceBNe, Int.reduceBEq, aeq, Int.reduceLE, Int.reduceNeg, Int.reduceMul, Int.reduceAdd, Int.reduceSub, Int.reduceToNat, Int.reducePow, e0, el, b0, b1, eq_true ha0]
  by_cases ha1 : at' ≥ (c.length : Int)
  · refine call_ends (fn := s5) rfl rfl (by simp [s5]) ?_
    simp only [s5, R1, R2, R3, R4, R5, R6, R7, R8, AV.flat, fillIn_nil, fillIn_cons, splice, AV.cells, AV.one, eqsOf, idx, SO.calls, List.reduceReplicate, Nat.reduceBEq, Nat.reduceLT, Nat.reduceAdd, Nat.reduceMul, Nat.reduceSub, Nat.reduceLeDiff, Nat.reduceEqDiff, ↓reduceIte, Int.reduceLT, Int.reduceEq, Int.reduceBNe, Int.reduceBEq, aeq, Int.reduceLE, Int.reduceNeg, Int.reduceMul, Int.reduceAdd, Int.reduceSub, Int.reduceToNat, Int.reducePow, e0, el, b0, b1, eq_false ha0, eq_true ha1]
  obtain ⟨a, rfl⟩ : ∃ a : Nat, at' = a := ⟨at'.toNat, by omega⟩
  have ha : a < c.length := by omega
  have Ee := hs.elem ha
  simp only [List.nil_append, Point.cs] at Ee
  cases hon : c[a].on
  · rw [hon] at Ee
    refine call_ends (fn := s5) rfl rfl (by simp [s5]) ?_
    simp only [s5, R1, R2, R3, R4, R5, R6, R7, R8, AV.flat, fillIn_nil, fillIn_cons, splice, AV.cells, AV.one, eqsOf, idx, SO.calls, List.reduceReplicate, Nat.reduceBEq, Nat.reduceLT, Nat.reduceAdd, Nat.reduceMul, Nat.reduceSub, Nat.reduceLeDiff, Nat.reduceEqDiff, ↓reduceIte, Int.reduceLT, Int.reduceEq, Int.reduceBNe, Int.reduceBEq, aeq, Int.reduceLE, Int.reduceNeg, Int.reduceMul, Int.reduceAdd, Int.reduceSub, Int.reduceToNat, Int.reducePow, e0, el, b0, b1, eq_false ha0, eq_false ha1, Ee]
  rw [hon] at Ee
  have hpure := turn_pure ha hon
  obtain ⟨cc, rfl⟩ := vs_of hs hne
  have ls1 := one_ls (e := 38) hs
  have q0 := c24 ls1 (by simp) (fun d hd => by simp only [List.mem_singleton] at hd; subst hd; omega)
  by_cases hm : MayG [c]
  case neg =>
    rw [decide_eq_false hm] at q0
    simp only [List.nil_append, List.length_nil] at q0
    refine call_ends (fn := s5) rfl rfl (by simp [s5]) ?_
    simp only [s5, R1, R2, R3, R4, R5, R6, R7, R8, AV.flat, fillIn_nil, fillIn_cons, splice, AV.cells, AV.one, eqsOf, idx, SO.calls, List.reduceReplicate, Nat.reduceBEq, Nat.reduceLT, Nat.reduceAdd, Nat.reduceMul, Nat.reduceSub, Nat.reduceLeDiff, Nat.reduceEqDiff, ↓reduceIte, Int.reduceLT, Int.reduceEq, Int.reduceBNe, Int.reduceBEq, aeq, Int.reduceLE, Int.reduceNeg, Int.reduceMul, Int.reduceAdd, Int.reduceSub, Int.reduceToNat, Int.reducePow, e0, el, b0, b1, eq_false ha0, eq_false ha1, Ee, q0]
  rw [decide_eq_true hm] at q0
  have hm2 : MayG [rotN c a] := by
    obtain ⟨m1, m2, m3⟩ := hm
    obtain ⟨m4, m5⟩ := m3 c (by simp)
    refine ⟨by simp, by rw [one_sum, rot_len]; omega, fun d hd => ?_⟩
    simp only [List.mem_singleton] at hd
    subst hd
    refine ⟨fun h => ?_, fun p hp => ?_⟩
    · have := rot_len c a
      rw [h] at this
      simp only [List.length_nil] at this; omega
    · unfold rotN at hp
      rcases List.mem_append.1 hp with hp | hp
      · exact m5 p (List.mem_of_mem_drop hp)
      · exact m5 p (List.mem_of_mem_take hp)
  have hR : EdgesR 3 [c] = (contourP 3 0 c, 0) := by unfold EdgesR; rw [if_pos ⟨hm, by omega, by omega⟩, one_edges]
  have hR2 : EdgesR 3 [rotN c a] = (contourP 3 0 (rotN c a), 0) := by unfold EdgesR; rw [if_pos ⟨hm2, by omega, by omega⟩, one_edges]
  have hE1 : (contourP 3 0 c).length ≤ 120 := by have := contour_len 3 0 c; omega
  have hE2 : (contourP 3 0 (rotN c a)).length ≤ 120 := by have := contour_len 3 0 (rotN c a); rw [rot_len] at this; omega
  obtain ⟨r, hr⟩ : ∃ r : AO, r = .cells [.vs cc c.length] 38 true := ⟨_, rfl⟩
  have ls2 := one_ls (e := 38) (hs.app [r])
  rw [← hr] at ls2
  have q1 := c15 ls2 (by simp) (fun d hd => by simp only [List.mem_singleton] at hd; subst hd; omega) 3
  rw [hR] at q1
  obtain ⟨c1, c2, n1, n2, r1, r2⟩ := vs_parts hs (Nat.le_of_lt ha)
  have hda : c.drop a ≠ [] := fun h => by have := congrArg List.length h; rw [List.length_drop, List.length_nil] at this; omega
  have hsum : (c.drop a).length + (c.take a).length ≤ 1000000 := by rw [List.length_drop, List.length_take]; omega
  have hdl : (c.drop a).length = c.length - a := List.length_drop ..
  have sA := newSl_of (H := [r] ++ [r]) (e := 80) (l := contourP 3 0 c) (fun a _ => edge_cel.size a) edge_cel.pos
  have elA := sA.lenOf
  simp only [List.nil_append, List.length_nil, List.length_cons, List.cons_append] at q0 q1 sA
  have hKA : (newSl [r, r] 80 8 Edge.cs (contourP 3 0 c)).1 = .nils ∧ contourP 3 0 c = [] ∨ (newSl [r, r] 80 8 Edge.cs (contourP 3 0 c)).1 = .sl 2 0 (contourP 3 0 c).length 8 none ∧ contourP 3 0 c ≠ [] := by
    by_cases h : contourP 3 0 c = []
    · exact .inl ⟨by rw [h]; rfl, h⟩
    · exact .inr ⟨by rw [new_some h]; rfl, h⟩
  have hK2 : 2 ≤ (r :: r :: (newSl [r, r] 80 8 Edge.cs (contourP 3 0 c)).2).length ∧ (contourP 3 0 c ≠ [] → 3 ≤ (r :: r :: (newSl [r, r] 80 8 Edge.cs (contourP 3 0 c)).2).length) := by
    refine ⟨by simp, fun h => ?_⟩
    rw [new_some h]; simp
  simp only [List.cons_append, List.nil_append] at elA
  generalize hK : r :: r :: (newSl [r, r] 80 8 Edge.cs (contourP 3 0 c)).2 = K at *
  generalize (newSl [r, r] 80 8 Edge.cs (contourP 3 0 c)).1 = A at *
  obtain ⟨o, Y, ho1, ho2, p1, p2, hY, sp⟩ := two_app (H := K) (e := 40) point_cel (n1.app K) (n2.app K) hda hsum
  rw [show c.drop a ++ c.take a = rotN c a from rfl, rot_len] at p2 sp
  rw [show c.drop a ++ c.take a = rotN c a from rfl] at hY
  rw [hdl] at p1 p2
  have ls3 := one_ls (e := 38) sp
  have q2 := c15 ls3 (by simp) (fun d hd => by simp only [List.mem_singleton] at hd; subst hd; rw [rot_len]; omega) 3
  rw [hR2] at q2
  simp only at q2
  have sB := newSl_of (H := K ++ AO.cells [] 40 true :: Y ++ [AO.cells [AV.sl (K.length + o) 0 c.length 3 none] 38 true]) (e := 80) (l := contourP 3 0 (rotN c a)) (fun a _ => edge_cel.size a) edge_cel.pos
  have elB := sB.lenOf
  have hKB : (newSl (K ++ AO.cells [] 40 true :: Y ++ [AO.cells [AV.sl (K.length + o) 0 c.length 3 none] 38 true]) 80 8 Edge.cs (contourP 3 0 (rotN c a))).1 = .nils ∧ contourP 3 0 (rotN c a) = [] ∨
      (newSl (K ++ AO.cells [] 40 true :: Y ++ [AO.cells [AV.sl (K.length + o) 0 c.length 3 none] 38 true]) 80 8 Edge.cs (contourP 3 0 (rotN c a))).1 = .sl (K ++ AO.cells [] 40 true :: Y ++ [AO.cells [AV.sl (K.length + o) 0 c.length 3 none] 38 true]).length 0 (contourP 3 0 (rotN c a)).length 8 none ∧ contourP 3 0 (rotN c a) ≠ [] := by
    by_cases h : contourP 3 0 (rotN c a) = []
    · exact .inl ⟨by rw [h]; rfl, h⟩
    · exact .inr ⟨by rw [new_some h], h⟩
  have hKN : contourP 3 0 (rotN c a) ≠ [] → (newSl (K ++ AO.cells [] 40 true :: Y ++ [AO.cells [AV.sl (K.length + o) 0 c.length 3 none] 38 true]) 80 8 Edge.cs (contourP 3 0 (rotN c a))).2.length = 1 := fun h => by rw [new_some h]; rfl
  generalize (newSl (K ++ AO.cells [] 40 true :: Y ++ [AO.cells [AV.sl (K.length + o) 0 c.length 3 none] 38 true]) 80 8 Edge.cs (contourP 3 0 (rotN c a))).1 = B at *
  generalize (newSl (K ++ AO.cells [] 40 true :: Y ++ [AO.cells [AV.sl (K.length + o) 0 c.length 3 none] 38 true]) 80 8 Edge.cs (contourP 3 0 (rotN c a))).2 = NB at *
  generalize hE : contourP 3 0 c = E at *
  generalize hE2 : contourP 3 0 (rotN c a) = E2 at *
  clear hK ls1 ls2 ls3 sp hR hR2 hm hm2 n1 n2 hsum hon
  subst hr
  have bl : E.length = E2.length := by
    rcases hpure with ⟨h1, h2⟩ | ⟨k, h1, h2⟩
    · rw [h1, h2]
    · rw [← h2, rot_len]
  have b2 : ((E.length : Int) != (E2.length : Int)) = false := by simp [bl]
  simp only [Nat.zero_add] at q1
  generalize (c.drop a).flatMap Point.cs = row1 at *
  generalize (rotN c a).flatMap Point.cs = row2 at *
  have sA2 := sA.app (AO.cells [] 40 true :: Y ++ [AO.cells [AV.sl (K.length + o) 0 c.length 3 none] 38 true] ++ NB)
  have z3 : (K.length + 3 ≤ K.length + (NB.length + 1 + 1 + 1)) = True := eq_true (by omega)
  have z4 : (K.length + 4 ≤ K.length + (NB.length + 1 + 1 + 1 + 1)) = True := eq_true (by omega)
  rcases hpure with ⟨hE0, hE20⟩ | ⟨k0, hk0, hrot⟩
  · rcases hY with ⟨_, rfl, rfl⟩ | ⟨_, rfl, rfl⟩
    all_goals
      simp only [List.append_assoc, List.cons_append, List.nil_append, List.length_append, List.length_cons, List.length_nil] at q2
      subst hE0 hE20
      simp only [List.length_nil] at elA elB b2
      refine call_ends (fn := s5) rfl rfl (by simp [s5]) ?_
      simp only [s5, R1, R2, R3, R4, R5, R6, R7, R8, AV.flat, fillIn_nil, fillIn_cons, splice, AV.cells, AV.one, eqsOf, idx, SO.calls, List.reduceReplicate, Nat.reduceBEq, Nat.reduceLT, Nat.reduceAdd, Nat.reduceMul, Nat.reduceSub, Nat.reduceLeDiff, Nat.reduceEqDiff, ↓reduceIte, Int.reduceLT, Int.reduceEq, Int.reduceBNe, Int.reduceBEq, aeq, Int.reduceLE, Int.reduceNeg, Int.reduceMul, Int.reduceAdd, Int.reduceSub, Int.reduceToNat, Int.reducePow, e0, el, b0, b1, eq_false ha0, eq_false ha1, Ee, q0, q1, r1, r2, p1, p2, q2, shun_un, veil_un, elA, elB, b2, z3, z4, ends_unroll]
  · have hEne : E ≠ [] := fun h => by rw [h] at hk0; simp at hk0
    have hE2ne : E2 ≠ [] := fun h => by rw [h] at bl; exact hEne (List.length_eq_zero_iff.1 bl)
    have hA : A = .sl 2 0 E.length 8 none := by rcases hKA with ⟨_, h⟩ | ⟨h, _⟩; exact absurd h hEne; exact h
    have hNB := hKN hE2ne
    have hK3 := hK2.2 hEne
    obtain ⟨bo, hB, hbo⟩ : ∃ bo, B = .sl bo 0 E2.length 8 none ∧ bo = K.length + (1 + Y.length + 1) := by
      rcases hKB with ⟨_, h⟩ | ⟨h, _⟩
      · exact absurd h hE2ne
      · exact ⟨_, h, by simp; omega⟩
    subst hA hB
    have lenH : bo < (K ++ (AO.cells [] 40 true :: Y ++ [AO.cells [AV.sl (K.length + o) 0 c.length 3 none] 38 true] ++ NB)).length ∧ 2 < (K ++ (AO.cells [] 40 true :: Y ++ [AO.cells [AV.sl (K.length + o) 0 c.length 3 none] 38 true] ++ NB)).length := by
      constructor <;> simp <;> omega
    have sB2 : SlOf (K ++ (AO.cells [] 40 true :: Y ++ [AO.cells [AV.sl (K.length + o) 0 c.length 3 none] 38 true] ++ NB)) 8 Edge.cs (.sl bo 0 E2.length 8 none) E2 := by simpa using sB
    clear sA sB elA elB hKA hKB hKN hbo
    rcases hY with ⟨_, rfl, rfl⟩ | ⟨_, rfl, rfl⟩
    all_goals
      simp only [List.append_assoc, List.cons_append, List.nil_append, List.length_append, List.length_cons, List.length_nil] at q2 sA2 sB2 lenH
      refine call_ends (fn := s5) rfl rfl (by simp [s5]) ?_
      simp only [s5, R1, R2, R3, R4, R5, R6, R7, R8, AV.flat, fillIn_nil, fillIn_cons, splice, AV.cells, AV.one, eqsOf, idx, SO.calls, List.reduceReplicate, Nat.reduceBEq, Nat.reduceLT, Nat.reduceAdd, Nat.reduceMul, Nat.reduceSub, Nat.reduceLeDiff, Nat.reduceEqDiff, ↓reduceIte, Int.reduceLT, Int.reduceEq, Int.reduceBNe, Int.reduceBEq, aeq, Int.reduceLE, Int.reduceNeg, Int.reduceMul, Int.reduceAdd, Int.reduceSub, Int.reduceToNat, Int.reducePow, e0, el, b0, b1, eq_false ha0, eq_false ha1, Ee, q0, q1, r1, r2, p1, p2, q2, shun_un, veil_un, b2, z3, z4]
      refine ends_loop (fun k t H' => t.length = 89 ∧ t.getD 5 .undef = .sl 2 0 E.length 8 none ∧ t.getD 7 .undef = .sl bo 0 E2.length 8 none ∧ t.getD 70 .undef = .int .i64 (E.length : Int) ∧ SlOf H' 8 Edge.cs (.sl 2 0 E.length 8 none) E ∧ SlOf H' 8 Edge.cs (.sl bo 0 E2.length 8 none) E2 ∧ 2 < H'.length ∧ bo < H'.length ∧
        ∃ i : Nat, i ≤ E.length ∧ k = E.length - i ∧ t.getD 71 .undef = .int .i64 (i : Int) ∧ ∀ j, j < i → rotN E j ≠ E2) E.length ?_ ?_
      · simp only [R1, R2, R3, R4, R5, R6, R7, R8, AV.flat, fillIn_nil, fillIn_cons, splice, AV.cells, AV.one, eqsOf, idx, SO.calls, List.reduceReplicate, Nat.reduceBEq, Nat.reduceLT, Nat.reduceAdd, Nat.reduceMul, Nat.reduceSub, Nat.reduceLeDiff, Nat.reduceEqDiff, ↓reduceIte, Int.reduceLT, Int.reduceEq, Int.reduceBNe, Int.reduceBEq, aeq, Int.reduceLE, Int.reduceNeg, Int.reduceMul, Int.reduceAdd, Int.reduceSub, Int.reduceToNat, Int.reducePow]
        exact ⟨sA2, sB2, by omega, by omega, 0, by omega, by omega, rfl, fun j hj => by omega⟩
      · rintro k t Hc ⟨g1, g2, g3, g4, sA, sB, l1, l2, i, hi, rfl, g5, g6⟩
        rw [← tm_nil t]
        by_cases hci : i < E.length
        · have a1 : ((i : Int) < (E.length : Int)) = True := eq_true (by omega)
          have w1 : IntKind.i64.wrap ((i : Int) + 1) = ((i + 1 : Nat) : Int) := by rw [wrap_i64 (by omega) (by omega)]; rfl
          obtain ⟨n1, n2, t1, t2⟩ := sl_parts sA hi
          have hd : E.drop i ≠ [] := fun h => by have := congrArg List.length h; rw [List.length_drop, List.length_nil] at this; omega
          obtain ⟨u, Z, hu1, hu2, y1, y2, hZ, sq⟩ := two_app (H := Hc) (e := 80) edge_cel n1 n2 hd (by rw [List.length_drop, List.length_take]; omega)
          have hdl2 : (E.drop i).length = E.length - i := List.length_drop ..
          rw [show E.drop i ++ E.take i = rotN E i from rfl] at y2 sq
          rw [hdl2] at y1 y2
          have qs := c17 sq (sB.app (AO.cells [] 80 true :: Z)) (by rw [rot_len]; omega) (by omega)
          rw [rot_len] at y2 qs
          have o1 := off_rows l1
          have o2 := off_rows l2
          generalize (E.drop i).flatMap Edge.cs = rw1 at *
          generalize (E.drop i ++ E.take i).flatMap Edge.cs = rw2 at *
          by_cases heq : rotN E i = E2
          · rw [decide_eq_true heq] at qs
            rcases hZ with ⟨_, rfl, rfl⟩ | ⟨_, rfl, rfl⟩
            all_goals
              simp only [R1, R2, R3, R4, R5, R6, R7, R8, AV.flat, fillIn_nil, fillIn_cons, splice, AV.cells, AV.one, eqsOf, idx, SO.calls, List.reduceReplicate, Nat.reduceBEq, Nat.reduceLT, Nat.reduceAdd, Nat.reduceMul, Nat.reduceSub, Nat.reduceLeDiff, Nat.reduceEqDiff, ↓reduceIte, Int.reduceLT, Int.reduceEq, Int.reduceBNe, Int.reduceBEq, aeq, Int.reduceLE, Int.reduceNeg, Int.reduceMul, Int.reduceAdd, Int.reduceSub, Int.reduceToNat, Int.reducePow, g1, g2, g3, g4, g5, a1, w1, t1, t2, y1, y2, qs, o1, o2]
          · rw [decide_eq_false heq] at qs
            have hnext : ∀ j, j < i + 1 → rotN E j ≠ E2 := fun j hj => by
              rcases Nat.lt_or_ge j i with h | h
              · exact g6 j h
              · obtain rfl : j = i := by omega
                exact heq
            rcases hZ with ⟨_, rfl, rfl⟩ | ⟨_, rfl, rfl⟩
            all_goals
              simp only [R1, R2, R3, R4, R5, R6, R7, R8, AV.flat, fillIn_nil, fillIn_cons, splice, AV.cells, AV.one, eqsOf, idx, SO.calls, List.reduceReplicate, Nat.reduceBEq, Nat.reduceLT, Nat.reduceAdd, Nat.reduceMul, Nat.reduceSub, Nat.reduceLeDiff, Nat.reduceEqDiff, ↓reduceIte, Int.reduceLT, Int.reduceEq, Int.reduceBNe, Int.reduceBEq, aeq, Int.reduceLE, Int.reduceNeg, Int.reduceMul, Int.reduceAdd, Int.reduceSub, Int.reduceToNat, Int.reducePow, g1, g2, g3, g4, g5, a1, w1, t1, t2, y1, y2, qs, o1, o2]
              exact ⟨_, by omega, sA.app _, sB.app _, by omega, by omega, i + 1, by omega, rfl, rfl, hnext⟩
        · exact absurd hrot (g6 k0 (by omega))
end Go.Proofs.Ytkcbjeenoafbkaa
