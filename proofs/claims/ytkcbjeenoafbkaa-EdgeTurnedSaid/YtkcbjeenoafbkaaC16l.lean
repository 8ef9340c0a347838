/- Chapter 16: the reference's contour. -/
import Derived.Test.YtkcbjeenoafbkaaC16k
set_option linter.unusedVariables false
set_option linter.unusedSimpArgs false
set_option maxRecDepth 100000
set_option maxHeartbeats 2000000
namespace Go.Proofs.Ytkcbjeenoafbkaa
open Go Go.Den
theorem c43 {H : Heap} {v : AV} {c : List Point} (hs : SlOf H 3 Point.cs v c) (hc : c ≠ []) (hn : c.length ≤ 4096) (hf : ∀ p ∈ c, FarOk p) {px n : Int} (p1 : 1 ≤ px) (p2 : px ≤ 128) :
    call env 43 [v, .int .i64 px, .int .i64 n] H = some ((newSl H 80 8 Edge.cs (contourP px n c)).1, H ++ (newSl H 80 8 Edge.cs (contourP px n c)).2) := by
  have e1 := c78 hs hc hn hf p1 p2
  obtain ⟨m, r, hw, _, hfine⟩ := way_fine (px := px) hc
  have hlen : (wayP px c).length ≤ 10000 := by
    have h1 := (go_len px (lastP' c) c).2
    have h2 := way_len (px := px) (c := c)
    unfold W at h2; omega
  have hcon : contourP px n c = runE n m.p none ((ringP (wayP px c)).drop 1) := by unfold contourP; rw [hw]; rfl
  have hfine : fineN ((ringP (wayP px c)).drop 1) := by rw [hw]; exact hfine
  have hR0 : ∃ h : 0 < (ringP (wayP px c)).length, (ringP (wayP px c))[0] = m := by rw [hw]; exact ⟨by simp [ringP], rfl⟩
  have hRl : (ringP (wayP px c)).length = (wayP px c).length + 1 := by rw [hw]; simp [ringP]
  have hro : wayP px c ++ [m] = ringP (wayP px c) := by rw [hw]; rfl
  rw [hcon]
  generalize hR : ringP (wayP px c) = R at *
  have hrow0 : SlOf (H ++ [.cells ((wayP px c).flatMap Node.cs) 129 true]) 3 Node.cs (.sl H.length 0 (wayP px c).length 3 none) (wayP px c) := SlOf.row (fun a _ => rfl) (by decide)
  have E0 := hrow0.elemz0 (by rw [hw]; simp)
  have hW0 : (wayP px c)[0]'(by rw [hw]; simp) = m := by simp [hw]
  rw [hW0] at E0
  have ap := own_app (H := H ++ [.cells ((wayP px c).flatMap Node.cs) 129 true]) (B := [.cells m.cs 129 true]) (v := .sl H.length 0 (wayP px c).length 3 none) (l := wayP px c) (m := [m]) (x := .sl (H.length + 1) 0 1 3 (some 1)) node_cel (own_last rfl rfl) (by simp) rfl (by
    have := @one_new _ Node.cs 3 node_cel 129 (H ++ [.cells ((wayP px c).flatMap Node.cs) 129 true]) [] (H.length + 1) m (by simp)
    exact this) (by simp; omega)
  rw [kill_last rfl, hro, show (wayP px c).length + [m].length = R.length from hRl.symm] at ap
  have hrow : ∀ X, SlOf (H ++ ([.dead, .cells m.cs 129 true, .cells (R.flatMap Node.cs) 129 true] ++ X)) 3 Node.cs (.sl (H.length + 2) 0 R.length 3 none) R := fun X => by
    have := SlOf.row (H := H ++ [.dead, .cells m.cs 129 true]) (l := R) (e := 129) (w := true) (sz := 3) (g := Node.cs) (cap := none) (fun a _ => rfl) (by decide)
    simpa using this.app X
  simp only [Node.cs] at E0
  clear hW0 hrow0 hw hro hcon
  generalize (wayP px c).flatMap Node.cs = row0 at *
  generalize R.flatMap Node.cs = row1 at *
  generalize (wayP px c).length = wl at *
  simp only [Node.cs, R1, R2, R3, R4, R5, R6, R7, R8, AV.flat, fillIn_nil, fillIn_cons, splice, AV.cells, AV.one, eqsOf, idx, SO.calls, List.reduceReplicate, Nat.reduceBEq, Nat.reduceLT, Nat.reduceAdd, Nat.reduceMul, Nat.reduceSub, Nat.reduceLeDiff, Nat.reduceEqDiff, ↓reduceIte, Int.reduceLT, Int.reduceEq, Int.reduceBNe, Int.reduceBEq, aeq, Int.reduceLE, Int.reduceNeg, Int.reduceMul, Int.reduceAdd, Int.reduceSub, Int.reduceToNat, Int.reducePow] at ap
  refine call_ends (fn := s43) rfl rfl (by simp [s43]) ?_
  simp only [s43, R1, R2, R3, R4, R5, R6, R7, R8, AV.flat, fillIn_nil, fillIn_cons, splice, AV.cells, AV.one, eqsOf, idx, SO.calls, List.reduceReplicate, Nat.reduceBEq, Nat.reduceLT, Nat.reduceAdd, Nat.reduceMul, Nat.reduceSub, Nat.reduceLeDiff, Nat.reduceEqDiff, ↓reduceIte, Int.reduceLT, Int.reduceEq, Int.reduceBNe, Int.reduceBEq, aeq, Int.reduceLE, Int.reduceNeg, Int.reduceMul, Int.reduceAdd, Int.reduceSub, Int.reduceToNat, Int.reducePow, e1, E0, ap]
  obtain ⟨rv, hrv⟩ : ∃ rv, rv = AV.sl (H.length + 2) 0 R.length 3 none := ⟨_, rfl⟩
  rw [← hrv] at hrow
  have el := (hrow []).lenOf
  refine ends_loop (fun k t H' => t.length = 72 ∧ (t.getD 2 .undef = .int .i64 n ∧ t.getD 7 .undef = rv) ∧ ∃ (i : Nat) (w : AV) (L : List Edge) (X : Heap) (hi : i < R.length), k = R.length - i ∧ t.getD 9 .undef = .int .i64 (i : Int) ∧ t.getD 8 .undef = w ∧
    L.length ≤ i ∧ runE n m.p none (R.drop 1) = L ++ runE n R[i].p none (R.drop (i + 1)) ∧ fineN (R.drop (i + 1)) ∧
    H' = H ++ ([.dead, .cells m.cs 129 true, .cells row1 129 true] ++ X) ∧ Acc (H ++ [.dead, .cells m.cs 129 true, .cells row1 129 true]) (H ++ ([.dead, .cells m.cs 129 true, .cells row1 129 true] ++ X)) 80 8 Edge.cs w L) R.length ?_ ?_
  · simp only [R1, R2, R3, R4, R5, R6, R7, R8, AV.flat, fillIn_nil, fillIn_cons, splice, AV.cells, AV.one, eqsOf, idx, SO.calls, List.reduceReplicate, Nat.reduceBEq, Nat.reduceLT, Nat.reduceAdd, Nat.reduceMul, Nat.reduceSub, Nat.reduceLeDiff, Nat.reduceEqDiff, ↓reduceIte, Int.reduceLT, Int.reduceEq, Int.reduceBNe, Int.reduceBEq, aeq, Int.reduceLE, Int.reduceNeg, Int.reduceMul, Int.reduceAdd, Int.reduceSub, Int.reduceToNat, Int.reducePow]
    refine ⟨hrv.symm, ?_⟩
    exact ⟨0, .nils, [], [], hR0.1, by omega, rfl, rfl, Nat.le_refl _, by rw [hR0.2]; rfl, hfine, rfl, by simpa using Acc.start⟩
  · rintro k t _ ⟨g1, ⟨g2, g3⟩, i, w, L, X, hi, rfl, g7, g8, hLi, hrun, hfi, rfl, ha⟩
    rw [← tm_nil t]
    have w0 : IntKind.i64.wrap ((R.length : Int) - 1) = ((R.length - 1 : Nat) : Int) := by rw [wrap_i64 (by omega) (by omega)]; omega
    have w1 : IntKind.i64.wrap ((i : Int) + 1) = ((i + 1 : Nat) : Int) := by rw [wrap_i64 (by omega) (by omega)]; rfl
    by_cases hci : i + 1 < R.length
    · have a1 : ((i : Int) < ((R.length - 1 : Nat) : Int)) = True := eq_true (by omega)
      have w2 : IntKind.i64.wrap ((i : Int) + 2) = ((i + 2 : Nat) : Int) := by rw [wrap_i64 (by omega) (by omega)]; rfl
      have Ei := (hrow X).elem hi
      have Ej := (hrow X).elem hci
      have Fi := (hrow X).elem0 hi
      rw [drop_suc hci] at hrun hfi
      have hdi : R.drop (i + 1 + 1) = R.drop (i + 2) := rfl
      generalize hfp : R[i] = q at *
      obtain ⟨⟨fx, fy⟩, fo⟩ := q
      generalize hmp : R[i + 1] = q at *
      obtain ⟨⟨qx, qy⟩, qo⟩ := q
      rw [runE] at hrun
      unfold fineN at hfi
      cases qo
      · simp only [Bool.false_eq_true, if_false] at hrun hfi
        have hck : i + 2 < R.length := by
          by_cases h : i + 2 < R.length
          · exact h
          · rw [List.drop_of_length_le (by omega)] at hfi; exact hfi.elim
        rw [hdi, drop_suc hck] at hrun hfi
        obtain ⟨hko, hfk⟩ := hfi
        have Ek := (hrow X).elem hck
        generalize hkp : R[i + 2] = q at *
        obtain ⟨⟨kx, ky⟩, ko⟩ := q
        simp only at hko
        subst hko
        rw [runE] at hrun
        simp only [if_true] at hrun
        have hsame := fun H => c79 n true fx fy qx qy kx ky H
        have heq : (⟨n, true, ⟨fx, fy⟩, ⟨qx, qy⟩, ⟨kx, ky⟩⟩ : Edge) = edgeO n ⟨fx, fy⟩ (some ⟨qx, qy⟩) ⟨kx, ky⟩ := rfl
        have hrk : R[i + 2].p = ⟨kx, ky⟩ := congrArg Node.p hkp
        rw [heq] at hsame
        by_cases hsm : Same (edgeO n ⟨fx, fy⟩ (some ⟨qx, qy⟩) ⟨kx, ky⟩)
        · rw [decide_eq_true hsm] at hsame
          have hk : keepE (edgeO n ⟨fx, fy⟩ (some ⟨qx, qy⟩) ⟨kx, ky⟩) = [] := if_pos hsm
          rw [hk, List.nil_append] at hrun
          have hj := ha.junk [.cells (edgeO n ⟨fx, fy⟩ (some ⟨qx, qy⟩) ⟨kx, ky⟩).cs 80 true]
          simp only [edgeO, edgeQ, Edge.cs, Node.cs, List.cons_append, List.nil_append, List.append_assoc] at Ei Ej Ek Fi hj ⊢
          simp only [R1, R2, R3, R4, R5, R6, R7, R8, AV.flat, fillIn_nil, fillIn_cons, splice, AV.cells, AV.one, eqsOf, idx, SO.calls, List.reduceReplicate, Nat.reduceBEq, Nat.reduceLT, Nat.reduceAdd, Nat.reduceMul, Nat.reduceSub, Nat.reduceLeDiff, Nat.reduceEqDiff, ↓reduceIte, Int.reduceLT, Int.reduceEq, Int.reduceBNe, Int.reduceBEq, aeq, Int.reduceLE, Int.reduceNeg, Int.reduceMul, Int.reduceAdd, Int.reduceSub, Int.reduceToNat, Int.reducePow, g1, g2, g3, g7, g8, w0, w1, w2, a1, el, Ei, Ej, Ek, Fi, hsame]
          exact ⟨_, by omega, i + 2, _, L, _, hck, rfl, rfl, rfl, by omega, by rw [hrk]; exact hrun, hfk, rfl, hj⟩
        · rw [decide_eq_false hsm] at hsame
          have hk : keepE (edgeO n ⟨fx, fy⟩ (some ⟨qx, qy⟩) ⟨kx, ky⟩) = [edgeO n ⟨fx, fy⟩ (some ⟨qx, qy⟩) ⟨kx, ky⟩] := if_neg hsm
          rw [hk, ← List.append_assoc] at hrun
          obtain ⟨X', hX, b1, b3⟩ := push_one edge_cel (Z := [.cells (edgeO n ⟨fx, fy⟩ (some ⟨qx, qy⟩) ⟨kx, ky⟩).cs 80 true]) (m := edgeO n ⟨fx, fy⟩ (some ⟨qx, qy⟩) ⟨kx, ky⟩) (p := H.length + (X.length + 4)) ha (by omega) (by simp; omega)
          have hj := b3 [.dead, .cells m.cs 129 true, .cells row1 129 true] rfl
          have hLn : (L ++ [edgeO n ⟨fx, fy⟩ (some ⟨qx, qy⟩) ⟨kx, ky⟩]).length = L.length + 1 := by simp
          generalize hL2 : L ++ [edgeO n ⟨fx, fy⟩ (some ⟨qx, qy⟩) ⟨kx, ky⟩] = L2 at *
          generalize L2.flatMap Edge.cs = c2 at *
          simp only [edgeO, edgeQ, Edge.cs, Node.cs, List.cons_append, List.nil_append, List.append_assoc] at Ei Ej Ek Fi b1 hj ⊢
          simp only [R1, R2, R3, R4, R5, R6, R7, R8, AV.flat, fillIn_nil, fillIn_cons, splice, AV.cells, AV.one, eqsOf, idx, SO.calls, List.reduceReplicate, Nat.reduceBEq, Nat.reduceLT, Nat.reduceAdd, Nat.reduceMul, Nat.reduceSub, Nat.reduceLeDiff, Nat.reduceEqDiff, ↓reduceIte, Int.reduceLT, Int.reduceEq, Int.reduceBNe, Int.reduceBEq, aeq, Int.reduceLE, Int.reduceNeg, Int.reduceMul, Int.reduceAdd, Int.reduceSub, Int.reduceToNat, Int.reducePow, g1, g2, g3, g7, g8, w0, w1, w2, a1, el, Ei, Ej, Ek, Fi, hsame, b1]
          exact ⟨_, by omega, i + 2, _, L2, _, hck, rfl, rfl, rfl, by omega, by rw [hrk]; exact hrun, hfk, rfl, hj⟩
      · simp only [if_true] at hrun hfi
        have hsame := fun H => c79 n false fx fy 0 0 qx qy H
        have heq : (⟨n, false, ⟨fx, fy⟩, ⟨0, 0⟩, ⟨qx, qy⟩⟩ : Edge) = edgeO n ⟨fx, fy⟩ none ⟨qx, qy⟩ := rfl
        have hrk : R[i + 1].p = ⟨qx, qy⟩ := congrArg Node.p hmp
        rw [heq] at hsame
        by_cases hsm : Same (edgeO n ⟨fx, fy⟩ none ⟨qx, qy⟩)
        · rw [decide_eq_true hsm] at hsame
          have hk : keepE (edgeO n ⟨fx, fy⟩ none ⟨qx, qy⟩) = [] := if_pos hsm
          rw [hk, List.nil_append] at hrun
          have hj := ha.junk [.cells (edgeO n ⟨fx, fy⟩ none ⟨qx, qy⟩).cs 80 true]
          simp only [edgeO, edgeL, Edge.cs, Node.cs, List.cons_append, List.nil_append, List.append_assoc] at Ei Ej Fi hj ⊢
          simp only [R1, R2, R3, R4, R5, R6, R7, R8, AV.flat, fillIn_nil, fillIn_cons, splice, AV.cells, AV.one, eqsOf, idx, SO.calls, List.reduceReplicate, Nat.reduceBEq, Nat.reduceLT, Nat.reduceAdd, Nat.reduceMul, Nat.reduceSub, Nat.reduceLeDiff, Nat.reduceEqDiff, ↓reduceIte, Int.reduceLT, Int.reduceEq, Int.reduceBNe, Int.reduceBEq, aeq, Int.reduceLE, Int.reduceNeg, Int.reduceMul, Int.reduceAdd, Int.reduceSub, Int.reduceToNat, Int.reducePow, g1, g2, g3, g7, g8, w0, w1, a1, el, Ei, Ej, Fi, hsame]
          exact ⟨_, by omega, i + 1, _, L, _, hci, rfl, rfl, rfl, by omega, by rw [hrk]; exact hrun, hfi, rfl, hj⟩
        · rw [decide_eq_false hsm] at hsame
          have hk : keepE (edgeO n ⟨fx, fy⟩ none ⟨qx, qy⟩) = [edgeO n ⟨fx, fy⟩ none ⟨qx, qy⟩] := if_neg hsm
          rw [hk, ← List.append_assoc] at hrun
          obtain ⟨X', hX, b1, b3⟩ := push_one edge_cel (Z := [.cells (edgeO n ⟨fx, fy⟩ none ⟨qx, qy⟩).cs 80 true]) (m := edgeO n ⟨fx, fy⟩ none ⟨qx, qy⟩) (p := H.length + (X.length + 4)) ha (by omega) (by simp; omega)
          have hj := b3 [.dead, .cells m.cs 129 true, .cells row1 129 true] rfl
          have hLn : (L ++ [edgeO n ⟨fx, fy⟩ none ⟨qx, qy⟩]).length = L.length + 1 := by simp
          generalize hL2 : L ++ [edgeO n ⟨fx, fy⟩ none ⟨qx, qy⟩] = L2 at *
          generalize L2.flatMap Edge.cs = c2 at *
          simp only [edgeO, edgeL, Edge.cs, Node.cs, List.cons_append, List.nil_append, List.append_assoc] at Ei Ej Fi b1 hj ⊢
          simp only [R1, R2, R3, R4, R5, R6, R7, R8, AV.flat, fillIn_nil, fillIn_cons, splice, AV.cells, AV.one, eqsOf, idx, SO.calls, List.reduceReplicate, Nat.reduceBEq, Nat.reduceLT, Nat.reduceAdd, Nat.reduceMul, Nat.reduceSub, Nat.reduceLeDiff, Nat.reduceEqDiff, ↓reduceIte, Int.reduceLT, Int.reduceEq, Int.reduceBNe, Int.reduceBEq, aeq, Int.reduceLE, Int.reduceNeg, Int.reduceMul, Int.reduceAdd, Int.reduceSub, Int.reduceToNat, Int.reducePow, g1, g2, g3, g7, g8, w0, w1, a1, el, Ei, Ej, Fi, hsame, b1]
          exact ⟨_, by omega, i + 1, _, L2, _, hci, rfl, rfl, rfl, by omega, by rw [hrk]; exact hrun, hfi, rfl, hj⟩
    · have a1 : ((i : Int) < ((R.length - 1 : Nat) : Int)) = False := eq_false (by omega)
      rw [List.drop_of_length_le (show R.length ≤ i + 1 by omega), runE, List.append_nil] at hrun
      rw [hrun]
      have ti := acc_tidy1 ha edge_cel
      simp only [Node.cs, List.cons_append, List.nil_append] at ti ⊢
      simp only [R1, R2, R3, R4, R5, R6, R7, R8, AV.flat, fillIn_nil, fillIn_cons, splice, AV.cells, AV.one, eqsOf, idx, SO.calls, List.reduceReplicate, Nat.reduceBEq, Nat.reduceLT, Nat.reduceAdd, Nat.reduceMul, Nat.reduceSub, Nat.reduceLeDiff, Nat.reduceEqDiff, ↓reduceIte, Int.reduceLT, Int.reduceEq, Int.reduceBNe, Int.reduceBEq, aeq, Int.reduceLE, Int.reduceNeg, Int.reduceMul, Int.reduceAdd, Int.reduceSub, Int.reduceToNat, Int.reducePow, g1, g2, g3, g7, g8, w0, a1, el, ti]
end Go.Proofs.Ytkcbjeenoafbkaa
