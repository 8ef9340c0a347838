/- Chapter 16: contour. -/
import Derived.Test.YtkcbjeenoafbkaaC16h
import Derived.Test.YtkcbjeenoafbkaaC16e
set_option linter.unusedVariables false
set_option linter.unusedSimpArgs false
set_option maxRecDepth 100000
set_option maxHeartbeats 2000000
namespace Go.Proofs.Ytkcbjeenoafbkaa
open Go Go.Den
theorem one_new {α : Type} {g : α → List AV} {sz : Nat} (hg : Cel sz g) {e : TypeId} {K Y : Heap} {p : Nat} {m : α} (hp : p = K.length) : newOf (K ++ (.cells (g m) e true :: Y)) sz (.sl p 0 1 sz (some 1)) = some ([m].flatMap g) := by
  subst hp
  have h := hg.size m
  simp [newOf, acells, aload, arow, h, List.take_of_length_le]
/-- One more element, behind rows of its own. -/
theorem push_one {α : Type} {g : α → List AV} {sz : Nat} (hg : Cel sz g) {e : TypeId} {H B X Z : Heap} {w : AV} {L : List α} {m : α} {p : Nat} (h : Acc (H ++ B) (H ++ (B ++ X)) e sz g w L) (hl : L.length ≤ 1000000) (hp : p = H.length + (B.length + (X.length + Z.length))) :
    ∃ X', X'.length = X.length ∧ aapp (H ++ (B ++ (X ++ (Z ++ [.cells (g m) e true])))) e sz w (.sl p 0 1 sz (some 1)) = some (.sl (p + 1) 0 (L.length + 1) sz none, H ++ (B ++ (X' ++ (Z ++ [.cells (g m) e true, .cells ((L ++ [m]).flatMap g) e true])))) ∧
      ∀ B' : Heap, B'.length = B.length → Acc (H ++ B') (H ++ (B' ++ (X' ++ (Z ++ [.cells (g m) e true, .cells ((L ++ [m]).flatMap g) e true])))) e sz g (.sl (p + 1) 0 (L.length + 1) sz none) (L ++ [m]) := by
  obtain ⟨X', hX, hk⟩ := acc_kill h
  refine ⟨X', hX, ?_, fun B' hB => ?_⟩
  · have := own_app (H := H ++ (B ++ X)) (B := Z ++ [.cells (g m) e true]) (m := [m]) (x := .sl p 0 1 sz (some 1)) hg (acc_own h) (by simp) rfl (by
      have := @one_new _ g sz hg e (H ++ (B ++ X) ++ Z) [] p m (by simp [hp])
      simpa only [List.append_assoc] using this) (by simp; omega)
    rw [hk] at this
    have h2 : (H ++ (B ++ X)).length + (Z ++ [AO.cells (g m) e true]).length = p + 1 := by simp [hp]; omega
    rw [h2] at this
    simpa only [List.append_assoc, List.cons_append, List.nil_append, List.length_cons, List.length_nil, Nat.zero_add] using this
  · exact acc_at hg (o := X.length + Z.length + 1) (by
      rw [List.getElem?_append_right (by omega), hX, List.getElem?_append_right (by omega)]
      simp [show X.length + Z.length + 1 - X.length - Z.length = 1 by omega]) (by simp) (by simp) (by rw [hp, hB]; omega)
def boxE (n : Int) (b : Option Pt) : Edge := ⟨n, b.isSome, ⟨0, 0⟩, b.getD ⟨0, 0⟩, ⟨0, 0⟩⟩
theorem ring_ne {px : Int} {c : List Point} (h : c ≠ []) : ∃ m r, wayP px c = m :: r ∧ ringP (wayP px c) = m :: (r ++ [m]) := by
  obtain ⟨m, r, h1, _⟩ := way_fine (px := px) h
  exact ⟨m, r, h1, by rw [h1]; rfl⟩
theorem drop_suc {α : Type} {l : List α} {i : Nat} (h : i < l.length) : l.drop i = l[i] :: l.drop (i + 1) := List.drop_eq_getElem_cons h
theorem c42 {H : Heap} {v : AV} {c : List Point} (hs : SlOf H 3 Point.cs v c) (hc : c ≠ []) (hn : c.length ≤ 4096) (hf : ∀ p ∈ c, FarOk p) {px n : Int} (p1 : 1 ≤ px) (p2 : px ≤ 128) :
    call env 42 [v, .int .i64 px, .int .i64 n] H = some ((newSl H 80 8 Edge.cs (contourP px n c)).1, H ++ (newSl H 80 8 Edge.cs (contourP px n c)).2) := by
  have e1 := c77 hs hc hn hf p1 p2
  obtain ⟨m, r, hw, hr⟩ := ring_ne (px := px) hc
  have hcon : contourP px n c = runE n m.p none (r ++ [m]) := by unfold contourP; rw [hw]; rfl
  have hlen : (r ++ [m]).length ≤ 10000 := by
    have h1 := (go_len px (lastP' c) c).2
    have h2 := way_len (px := px) (c := c)
    rw [hw] at h2
    unfold W at h2
    simp only [List.length_append, List.length_cons, List.length_nil] at h2 ⊢; omega
  rw [hcon]
  rw [hr] at e1
  generalize hT : r ++ [m] = T at *
  have hrow : SlOf (H ++ [.cells ((m :: T).flatMap Node.cs) 125 true]) 3 Node.cs (.sl H.length 0 (m :: T).length 3 none) (m :: T) := SlOf.row (fun a _ => rfl) (by decide)
  obtain ⟨s1, r1, r2, _, r3⟩ := slof_sub hrow (i := 1) (j := (m :: T).length) (by simp) (by simp)
  have r3 := r3 rfl
  have h0 : ((m :: T).drop 1).take ((m :: T).length - 1) = T := by simp
  rw [h0] at r2
  have el := r2.lenOf
  have E0 := hrow.elemz0 (by simp)
  simp only [List.getElem_cons_zero, Node.cs] at E0
  generalize hrw : (m :: T).flatMap Node.cs = rw0 at *
  generalize (m :: T).length = rl at *
  refine call_ends (fn := s42) rfl rfl (by simp [s42]) ?_
  simp only [s42, R1, R2, R3, R4, R5, R6, R7, R8, AV.flat, fillIn_nil, fillIn_cons, splice, AV.cells, AV.one, eqsOf, idx, SO.calls, List.reduceReplicate, Nat.reduceBEq, Nat.reduceLT, Nat.reduceAdd, Nat.reduceMul, Nat.reduceSub, Nat.reduceLeDiff, Nat.reduceEqDiff, ↓reduceIte, Int.reduceLT, Int.reduceEq, Int.reduceBNe, Int.reduceBEq, aeq, Int.reduceLE, Int.reduceNeg, Int.reduceMul, Int.reduceAdd, Int.reduceSub, Int.reduceToNat, Int.reducePow, e1, E0, r3, el]
  have hrow1 := fun X => r2.app X
  refine ends_loop (fun k t H' => t.length = 54 ∧ (t.getD 2 .undef = .int .i64 n ∧ t.getD 9 .undef = .ptr (H.length + 1) 0 ∧ t.getD 10 .undef = .ptr (H.length + 2) 0 ∧ t.getD 23 .undef = s1 ∧ t.getD 24 .undef = .int .i64 (T.length : Int)) ∧ ∃ (i : Nat) (w : AV) (f : Pt) (b : Option Pt) (L : List Edge) (X : Heap), i ≤ T.length ∧ k = T.length - i ∧ t.getD 25 .undef = .int .i64 (i : Int) ∧ t.getD 7 .undef = w ∧
    L.length ≤ i ∧ runE n m.p none T = L ++ runE n f b (T.drop i) ∧
    H' = H ++ ([.cells rw0 125 true, .cells f.cs 35 true, .cells (boxE n b).cs 80 true] ++ X) ∧ Acc (H ++ [.cells rw0 125 true, .cells f.cs 35 true, .cells (boxE n b).cs 80 true]) (H ++ ([.cells rw0 125 true, .cells f.cs 35 true, .cells (boxE n b).cs 80 true] ++ X)) 80 8 Edge.cs w L) T.length ?_ ?_
  · simp only [R1, R2, R3, R4, R5, R6, R7, R8, AV.flat, fillIn_nil, fillIn_cons, splice, AV.cells, AV.one, eqsOf, idx, SO.calls, List.reduceReplicate, Nat.reduceBEq, Nat.reduceLT, Nat.reduceAdd, Nat.reduceMul, Nat.reduceSub, Nat.reduceLeDiff, Nat.reduceEqDiff, ↓reduceIte, Int.reduceLT, Int.reduceEq, Int.reduceBNe, Int.reduceBEq, aeq, Int.reduceLE, Int.reduceNeg, Int.reduceMul, Int.reduceAdd, Int.reduceSub, Int.reduceToNat, Int.reducePow]
    exact ⟨0, .nils, m.p, none, [], [], by omega, by omega, rfl, rfl, Nat.le_refl _, rfl, rfl, by simpa using Acc.start⟩
  · rintro k t _ ⟨g1, ⟨g2, g3, g4, g5, g6⟩, i, w, f, b, L, X, hi, rfl, g7, g8, hLi, hrun, rfl, ha⟩
    rw [← tm_nil t]
    by_cases hci : i < T.length
    · have a1 : ((i : Int) < (T.length : Int)) = True := eq_true (by omega)
      have w2 : IntKind.i64.wrap ((i : Int) + 1) = ((i + 1 : Nat) : Int) := by rw [wrap_i64 (by omega) (by omega)]; rfl
      have Ei := (hrow1 ([.cells f.cs 35 true, .cells (boxE n b).cs 80 true] ++ X)).elem0 hci
      rw [drop_suc hci] at hrun
      generalize T[i] = q at *
      obtain ⟨⟨qx, qy⟩, qo⟩ := q
      obtain ⟨fx, fy⟩ := f
      rw [runE] at hrun
      cases qo
      · simp only [Bool.false_eq_true, if_false] at hrun
        have hb' := acc_base (B' := [.cells rw0 125 true, .cells (Pt.mk fx fy).cs 35 true, .cells (boxE n (some ⟨qx, qy⟩)).cs 80 true]) ha rfl
        have hj := hb'.junk [.cells [.int .i64 qx, .int .i64 qy, .bool false] 125 true]
        cases b
        all_goals
          simp only [boxE, Option.isSome, Option.getD_none, Option.getD_some, Edge.cs, Pt.cs, Node.cs, List.cons_append, List.nil_append, List.append_assoc] at Ei hj ⊢
          simp only [R1, R2, R3, R4, R5, R6, R7, R8, AV.flat, fillIn_nil, fillIn_cons, splice, AV.cells, AV.one, eqsOf, idx, SO.calls, List.reduceReplicate, Nat.reduceBEq, Nat.reduceLT, Nat.reduceAdd, Nat.reduceMul, Nat.reduceSub, Nat.reduceLeDiff, Nat.reduceEqDiff, ↓reduceIte, Int.reduceLT, Int.reduceEq, Int.reduceBNe, Int.reduceBEq, aeq, Int.reduceLE, Int.reduceNeg, Int.reduceMul, Int.reduceAdd, Int.reduceSub, Int.reduceToNat, Int.reducePow, g1, g2, g3, g4, g5, g6, g7, g8, a1, w2, Ei, shun_un, veil_un]
          exact ⟨_, by omega, i + 1, _, ⟨fx, fy⟩, some ⟨qx, qy⟩, L, _, by omega, rfl, rfl, rfl, by omega, hrun, rfl, hj⟩
      · simp only [if_true] at hrun
        have hnone := fun H => c45 n b.isSome fx fy (b.getD ⟨0, 0⟩).x (b.getD ⟨0, 0⟩).y qx qy H
        have heq : (⟨n, b.isSome, ⟨fx, fy⟩, ⟨(b.getD ⟨0, 0⟩).x, (b.getD ⟨0, 0⟩).y⟩, ⟨qx, qy⟩⟩ : Edge) = edgeO n ⟨fx, fy⟩ b ⟨qx, qy⟩ := by cases b <;> rfl
        have hcs : (edgeO n ⟨fx, fy⟩ b ⟨qx, qy⟩).cs = [.int .i64 n, .bool b.isSome, .int .i64 fx, .int .i64 fy, .int .i64 (b.getD ⟨0, 0⟩).x, .int .i64 (b.getD ⟨0, 0⟩).y, .int .i64 qx, .int .i64 qy] := by cases b <;> rfl
        rw [heq] at hnone
        by_cases hsm : Same (edgeO n ⟨fx, fy⟩ b ⟨qx, qy⟩)
        · rw [decide_eq_true hsm] at hnone
          have hk : keepE (edgeO n ⟨fx, fy⟩ b ⟨qx, qy⟩) = [] := if_pos hsm
          rw [hk, List.nil_append] at hrun
          have hb' := acc_base (B' := [.cells rw0 125 true, .cells (Pt.mk qx qy).cs 35 true, .cells (boxE n none).cs 80 true]) ha rfl
          have hj := hb'.junk [.cells [.int .i64 qx, .int .i64 qy, .bool true] 125 true]
          simp only [boxE, Option.isSome_none, Option.getD_none, Edge.cs, Pt.cs, Node.cs, List.cons_append, List.nil_append, List.append_assoc] at Ei hj ⊢
          generalize b.isSome = bs at *
          generalize (b.getD ⟨0, 0⟩).x = bx at *
          generalize (b.getD ⟨0, 0⟩).y = by' at *
          simp only [R1, R2, R3, R4, R5, R6, R7, R8, AV.flat, fillIn_nil, fillIn_cons, splice, AV.cells, AV.one, eqsOf, idx, SO.calls, List.reduceReplicate, Nat.reduceBEq, Nat.reduceLT, Nat.reduceAdd, Nat.reduceMul, Nat.reduceSub, Nat.reduceLeDiff, Nat.reduceEqDiff, ↓reduceIte, Int.reduceLT, Int.reduceEq, Int.reduceBNe, Int.reduceBEq, aeq, Int.reduceLE, Int.reduceNeg, Int.reduceMul, Int.reduceAdd, Int.reduceSub, Int.reduceToNat, Int.reducePow, g1, g2, g3, g4, g5, g6, g7, g8, a1, w2, Ei, shun_un, veil_un, hnone]
          exact ⟨_, by omega, i + 1, _, ⟨qx, qy⟩, none, L, _, by omega, rfl, rfl, rfl, by omega, hrun, rfl, hj⟩
        · rw [decide_eq_false hsm] at hnone
          have hk : keepE (edgeO n ⟨fx, fy⟩ b ⟨qx, qy⟩) = [edgeO n ⟨fx, fy⟩ b ⟨qx, qy⟩] := if_neg hsm
          rw [hk, ← List.append_assoc] at hrun
          obtain ⟨X', hX, b1, b3⟩ := push_one (B := [.cells rw0 125 true, .cells (Pt.mk fx fy).cs 35 true, .cells (edgeO n ⟨fx, fy⟩ b ⟨qx, qy⟩).cs 80 true]) edge_cel (Z := [.cells [.int .i64 qx, .int .i64 qy, .bool true] 125 true]) (m := edgeO n ⟨fx, fy⟩ b ⟨qx, qy⟩) (p := H.length + (X.length + 4)) (acc_base ha rfl) (by omega) (by simp; omega)
          have hj := b3 [.cells rw0 125 true, .cells (Pt.mk qx qy).cs 35 true, .cells (boxE n none).cs 80 true] rfl
          have hK := asK hX
          have hLn : (L ++ [edgeO n ⟨fx, fy⟩ b ⟨qx, qy⟩]).length = L.length + 1 := by simp
          generalize hL2 : L ++ [edgeO n ⟨fx, fy⟩ b ⟨qx, qy⟩] = L2 at *
          generalize L2.flatMap Edge.cs = c2 at *
          rw [hcs] at b1 hj
          simp only [boxE, Option.isSome_none, Option.getD_none, Edge.cs, Pt.cs, Node.cs, List.cons_append, List.nil_append, List.append_assoc] at Ei b1 hj ⊢
          generalize b.isSome = bs at *
          generalize (b.getD ⟨0, 0⟩).x = bx at *
          generalize (b.getD ⟨0, 0⟩).y = by' at *
          simp only [R1, R2, R3, R4, R5, R6, R7, R8, AV.flat, fillIn_nil, fillIn_cons, splice, AV.cells, AV.one, eqsOf, idx, SO.calls, List.reduceReplicate, Nat.reduceBEq, Nat.reduceLT, Nat.reduceAdd, Nat.reduceMul, Nat.reduceSub, Nat.reduceLeDiff, Nat.reduceEqDiff, ↓reduceIte, Int.reduceLT, Int.reduceEq, Int.reduceBNe, Int.reduceBEq, aeq, Int.reduceLE, Int.reduceNeg, Int.reduceMul, Int.reduceAdd, Int.reduceSub, Int.reduceToNat, Int.reducePow, g1, g2, g3, g4, g5, g6, g7, g8, a1, w2, Ei, shun_un, veil_un, hnone, b1, hK]
          exact ⟨_, by omega, i + 1, _, ⟨qx, qy⟩, none, L2, _, by omega, rfl, rfl, rfl, by omega, hrun, rfl, hj⟩
    · have a1 : ((i : Int) < (T.length : Int)) = False := eq_false (by omega)
      obtain rfl : i = T.length := by omega
      rw [List.drop_length, runE, List.append_nil] at hrun
      rw [hrun]
      have ti := acc_tidy1 ha edge_cel
      simp only [List.cons_append, List.nil_append] at ti ⊢
      simp only [R1, R2, R3, R4, R5, R6, R7, R8, AV.flat, fillIn_nil, fillIn_cons, splice, AV.cells, AV.one, eqsOf, idx, SO.calls, List.reduceReplicate, Nat.reduceBEq, Nat.reduceLT, Nat.reduceAdd, Nat.reduceMul, Nat.reduceSub, Nat.reduceLeDiff, Nat.reduceEqDiff, ↓reduceIte, Int.reduceLT, Int.reduceEq, Int.reduceBNe, Int.reduceBEq, aeq, Int.reduceLE, Int.reduceNeg, Int.reduceMul, Int.reduceAdd, Int.reduceSub, Int.reduceToNat, Int.reducePow, g1, g2, g3, g4, g5, g6, g7, g8, a1, ti]
end Go.Proofs.Ytkcbjeenoafbkaa
