/- Chapter 16: slices.Grow, slices.Concat of nodes. -/
import Derived.Test.YtkcbjeenoafbkaaC16f
set_option linter.unusedVariables false
set_option linter.unusedSimpArgs false
set_option maxRecDepth 100000
set_option maxHeartbeats 1000000
namespace Go.Proofs.Ytkcbjeenoafbkaa
open Go Go.Den
def capOf (x : AV) (H : Heap) : Option (AV × Heap) := match x with | .nils => some (.int .i64 0, H) | .sl _ _ _ _ (some c) => some (.int .i64 c, H) | _ => none
def appnOf (e : TypeId) (z : List AV) (s x : AV) (H : Heap) : Option (AV × Heap) :=
  match s, x with
  | .nils, .int _ n => if n = 0 then some (.nils, H) else if 0 ≤ n ∧ roomy n.toNat = true then some (.sl H.length 0 n.toNat z.length none, H ++ [.cells ((List.replicate n.toNat z).flatten) e true]) else none
  | _, _ => none
theorem sop_cap {cl : CL} {t : List AV} {H : Heap} {x : SX} : sop cl t H (.cap x) = capOf (evx t x) H := _root_.id rfl
theorem sop_appn {cl : CL} {t : List AV} {H : Heap} {e : TypeId} {z : List AV} {s x : SX} : sop cl t H (.appn e z s x) = appnOf e z (evx t s) (evx t x) H := _root_.id rfl
theorem cap_nils {H : Heap} : capOf .nils H = some (.int .i64 0, H) := _root_.id rfl
theorem grow_nodes (n : Nat) (h0 : 0 < n) (hn : n ≤ 1000000) (H : Heap) : call env 122 [.nils, .int .i64 (n : Int)] H = some (.sl H.length 0 0 3 none, H ++ [.cells [] 125 true]) := by
  have a1 : ((n : Int) < 0) = False := eq_false (by omega)
  have a2 : ((n : Int) > 0) = True := eq_true (by omega)
  have w1 : IntKind.i64.wrap (n : Int) = n := wrap_i64 (by omega) (by omega)
  have h1 : (n : Int) ≠ 0 := by omega
  have hr : roomy n = true := by simp [roomy]; omega
  have e2 : ∀ H : Heap, appnOf 125 [.int .i64 0, .int .i64 0, .bool false] .nils (.int .i64 (n : Int)) H = some (.sl H.length 0 n 3 none, H ++ [.cells ((List.replicate n [AV.int .i64 0, .int .i64 0, .bool false]).flatten) 125 true]) := fun H => by
    simp [appnOf, hr]; omega
  have e3 : ∀ H, slcOf 3 .nils (some none) (some (some 0)) (some none) H = some (.nils, H) := fun H => rfl
  have e4 : ∀ (o : Nat) (H : Heap), slcOf 3 (.sl o 0 n 3 none) (some none) (some (some 0)) (some none) H = some (.sl o 0 0 3 none, H) := fun o H => by simp [slcOf, alen, acut]
  have ti : tidy H (.sl H.length 0 0 3 none) (H ++ [.cells (List.replicate n [AV.int .i64 0, .int .i64 0, .bool false]).flatten 125 true]) = (.sl H.length 0 0 3 none, H ++ [.cells [] 125 true]) := by
    have := tidy_sl1 (H := H) (X := [.cells (List.replicate n [AV.int .i64 0, .int .i64 0, .bool false]).flatten 125 true]) (k := 0) (off := 0) (len := 0) (sz := 3) (cap := none) (e := 125) (w := true) rfl (by
      rw [List.all_eq_true]; intro a ha
      obtain ⟨l, h1, h2⟩ := List.mem_flatten.1 ha
      rw [List.eq_of_mem_replicate h1] at h2
      simp only [List.mem_cons, List.not_mem_nil, or_false] at h2
      rcases h2 with rfl | rfl | rfl <;> rfl) (by omega) (by decide)
    simpa using this
  generalize (List.replicate n [AV.int .i64 0, .int .i64 0, .bool false]).flatten = row at *
  have w2 : IntKind.i64.wrap ((n : Int) - 0) = n := wrap_i64 (by omega) (by omega)
  refine call_ends (fn := s122) rfl rfl (by simp [s122]) ?_
  simp only [s122, R1, R2, R3, R4, R5, R6, R7, R8, AV.flat, fillIn_nil, fillIn_cons, splice, AV.cells, AV.one, eqsOf, idx, SO.calls, List.reduceReplicate, Nat.reduceBEq, Nat.reduceLT, Nat.reduceAdd, Nat.reduceMul, Nat.reduceSub, Nat.reduceLeDiff, Nat.reduceEqDiff, ↓reduceIte, Int.reduceLT, Int.reduceEq, Int.reduceBNe, Int.reduceBEq, aeq, Int.reduceLE, Int.reduceNeg, Int.reduceMul, Int.reduceAdd, Int.reduceSub, Int.reduceToNat, Int.reducePow, a1, a2, w1, w2, e2, e3, e4, ti, sop_cap, sop_appn, cap_nils]
theorem app_nop {H : Heap} {e : TypeId} {sz : Nat} {s x : AV} {c : List AV} (h : alen x = some 0) (hn : newOf H sz x = some c) (hs : s = .nils ∨ ∃ o off len sz' cap, s = .sl o off len sz' cap) : aapp H e sz s x = some (s, H) := by
  rcases hs with rfl | ⟨o, off, len, sz', cap, rfl⟩ <;> simp only [aapp, h, hn, if_true]
theorem app_first {H : Heap} {e : TypeId} {sz n : Nat} {x : AV} {c : List AV} (h : alen x = some n) (h0 : n ≠ 0) (hn : newOf (H ++ [.cells [] e true]) sz x = some c) (hl : c.length = n * sz) (h1 : c.all AV.one = true) (hr : roomy n = true) :
    aapp (H ++ [.cells [] e true]) e sz (.sl H.length 0 0 sz none) x = some (.sl (H.length + 1) 0 n sz none, H ++ [.dead, .cells c e true]) := by
  simp only [aapp, h, hn, if_neg h0, hl, h1, and_self, if_true]
  simp [hr]
theorem take_flat {α : Type} {ls : List (List α)} {i : Nat} (h : i < ls.length) : (ls.take (i + 1)).flatten = (ls.take i).flatten ++ ls[i] := by
  rw [List.take_succ_eq_append_getElem h, List.flatten_append]; simp
theorem flat_le {α : Type} (ls : List (List α)) (i : Nat) : (ls.take i).flatten.length ≤ ls.flatten.length := by
  have : ls.flatten.length = (ls.take i).flatten.length + (ls.drop i).flatten.length := by rw [← List.length_append, ← List.flatten_append, List.take_append_drop]
  omega
theorem concat_nodes {H : Heap} {v : AV} {ls : List (List Node)} (hs : LsOf H 3 Node.cs v ls) (h0 : 0 < ls.length) (h1 : ls[0] ≠ []) (hn : ls.length ≤ 100) (hsum : ls.flatten.length ≤ 1000000) :
    call env 102 [v] H = some ((newSl H 125 3 Node.cs ls.flatten).1, H ++ (newSl H 125 3 Node.cs ls.flatten).2) := by
  have e1 := hs.lenOf
  have hpos : 0 < ls.flatten.length := by
    have := flat_le ls 1
    rw [take_flat h0, List.length_append] at this
    have h2 : ls[0].length ≠ 0 := by simpa using h1
    omega
  have e2 := fun H => grow_nodes ls.flatten.length hpos hsum H
  refine call_ends (fn := s102) rfl rfl (by simp [s102]) ?_
  simp only [s102, R1, R2, R3, R4, R5, R6, R7, R8, AV.flat, fillIn_nil, fillIn_cons, splice, AV.cells, AV.one, eqsOf, idx, SO.calls, List.reduceReplicate, Nat.reduceBEq, Nat.reduceLT, Nat.reduceAdd, Nat.reduceMul, Nat.reduceSub, Nat.reduceLeDiff, Nat.reduceEqDiff, ↓reduceIte, Int.reduceLT, Int.reduceEq, Int.reduceBNe, Int.reduceBEq, aeq, Int.reduceLE, Int.reduceNeg, Int.reduceMul, Int.reduceAdd, Int.reduceSub, Int.reduceToNat, Int.reducePow, e1]
  refine ends_loop (fun k t H' => t.length = 36 ∧ H' = H ∧ t.getD 0 .undef = v ∧ t.getD 9 .undef = v ∧ t.getD 10 .undef = .int .i64 (ls.length : Int) ∧ ∃ i : Nat, i ≤ ls.length ∧ k = ls.length - i ∧ t.getD 11 .undef = .int .i64 (i : Int) ∧ t.getD 3 .undef = .int .i64 ((ls.take i).flatten.length : Int)) ls.length ?_ ?_
  · simp only [R1, R2, R3, R4, R5, R6, R7, R8, AV.flat, fillIn_nil, fillIn_cons, splice, AV.cells, AV.one, eqsOf, idx, SO.calls, List.reduceReplicate, Nat.reduceBEq, Nat.reduceLT, Nat.reduceAdd, Nat.reduceMul, Nat.reduceSub, Nat.reduceLeDiff, Nat.reduceEqDiff, ↓reduceIte, Int.reduceLT, Int.reduceEq, Int.reduceBNe, Int.reduceBEq, aeq, Int.reduceLE, Int.reduceNeg, Int.reduceMul, Int.reduceAdd, Int.reduceSub, Int.reduceToNat, Int.reducePow]
    exact ⟨0, by omega, by omega, rfl, rfl⟩
  · rintro k t H ⟨g1, rfl, g2, g3, g4, i, hi, rfl, g5, g6⟩
    rw [← tm_nil t]
    by_cases hc : i < ls.length
    · have a1 : ((i : Int) < (ls.length : Int)) = True := eq_true (by omega)
      have w1 : IntKind.i64.wrap ((i : Int) + 1) = ((i + 1 : Nat) : Int) := by rw [wrap_i64 (by omega) (by omega)]; rfl
      obtain ⟨E1, w, E2, hw⟩ := hs.at hc
      have E3 := E2 []
      rw [List.append_nil] at E3
      have e3 := hw.lenOf
      have hfl := flat_le ls (i + 1)
      have htf := take_flat hc
      have w2 : IntKind.i64.wrap (((ls.take i).flatten.length : Int) + (ls[i].length : Int)) = ((ls.take (i + 1)).flatten.length : Int) := by
        rw [htf] at hfl ⊢; rw [List.length_append] at hfl ⊢; rw [wrap_i64 (by omega) (by omega)]; rfl
      have a2 : (((ls.take (i + 1)).flatten.length : Int) < 0) = False := eq_false (by omega)
      simp only [R1, R2, R3, R4, R5, R6, R7, R8, AV.flat, fillIn_nil, fillIn_cons, splice, AV.cells, AV.one, eqsOf, idx, SO.calls, List.reduceReplicate, Nat.reduceBEq, Nat.reduceLT, Nat.reduceAdd, Nat.reduceMul, Nat.reduceSub, Nat.reduceLeDiff, Nat.reduceEqDiff, ↓reduceIte, Int.reduceLT, Int.reduceEq, Int.reduceBNe, Int.reduceBEq, aeq, Int.reduceLE, Int.reduceNeg, Int.reduceMul, Int.reduceAdd, Int.reduceSub, Int.reduceToNat, Int.reducePow, g1, g2, g3, g4, g5, g6, a1, E1, E3, e3, w1, w2, a2]
      exact ⟨_, by omega, i + 1, by omega, rfl, rfl, rfl⟩
    · have a1 : ((i : Int) < (ls.length : Int)) = False := eq_false (by omega)
      obtain rfl : i = ls.length := by omega
      rw [List.take_length] at g6
      simp only [R1, R2, R3, R4, R5, R6, R7, R8, AV.flat, fillIn_nil, fillIn_cons, splice, AV.cells, AV.one, eqsOf, idx, SO.calls, List.reduceReplicate, Nat.reduceBEq, Nat.reduceLT, Nat.reduceAdd, Nat.reduceMul, Nat.reduceSub, Nat.reduceLeDiff, Nat.reduceEqDiff, ↓reduceIte, Int.reduceLT, Int.reduceEq, Int.reduceBNe, Int.reduceBEq, aeq, Int.reduceLE, Int.reduceNeg, Int.reduceMul, Int.reduceAdd, Int.reduceSub, Int.reduceToNat, Int.reducePow, g1, g2, g3, g4, g5, g6, a1, e1, e2]
      refine ends_loop (fun k t H' => t.length = 36 ∧ t.getD 25 .undef = v ∧ t.getD 26 .undef = .int .i64 (ls.length : Int) ∧ ∃ (i : Nat) (w : AV), i ≤ ls.length ∧ k = ls.length - i ∧ t.getD 27 .undef = .int .i64 (i : Int) ∧ t.getD 6 .undef = w ∧
        (i = 0 ∧ w = .sl H.length 0 0 3 none ∧ H' = H ++ [.cells [] 125 true] ∨ 0 < i ∧ (ls.take i).flatten ≠ [] ∧ Acc H H' 125 3 Node.cs w (ls.take i).flatten)) ls.length ?_ ?_
      · simp only [R1, R2, R3, R4, R5, R6, R7, R8, AV.flat, fillIn_nil, fillIn_cons, splice, AV.cells, AV.one, eqsOf, idx, SO.calls, List.reduceReplicate, Nat.reduceBEq, Nat.reduceLT, Nat.reduceAdd, Nat.reduceMul, Nat.reduceSub, Nat.reduceLeDiff, Nat.reduceEqDiff, ↓reduceIte, Int.reduceLT, Int.reduceEq, Int.reduceBNe, Int.reduceBEq, aeq, Int.reduceLE, Int.reduceNeg, Int.reduceMul, Int.reduceAdd, Int.reduceSub, Int.reduceToNat, Int.reducePow, g1, g2]
        exact ⟨0, _, by omega, by omega, rfl, rfl, .inl (by first | exact ⟨rfl, rfl, rfl⟩ | exact ⟨rfl, rfl⟩)⟩
      · rintro k t H' ⟨g1, g2, g3, i, w0, hi, rfl, g4, g5, g6⟩
        rw [← tm_nil t]
        by_cases hc : i < ls.length
        · have a1 : ((i : Int) < (ls.length : Int)) = True := eq_true (by omega)
          have w1 : IntKind.i64.wrap ((i : Int) + 1) = ((i + 1 : Nat) : Int) := by rw [wrap_i64 (by omega) (by omega)]; rfl
          obtain ⟨E1, w, E2, hw⟩ := hs.at hc
          have hfl := flat_le ls (i + 1)
          have htf := take_flat hc
          rcases g6 with ⟨hi0, rfl, rfl⟩ | ⟨hi0, hne, ha⟩
          · have h1' : ls[i] ≠ [] := by simp only [hi0]; exact h1
            have hl0 : ls[i].length ≠ 0 := by simpa using h1'
            have ht0 : (ls.take i).flatten = [] := by rw [hi0]; rfl
            rw [ht0, List.nil_append] at htf
            have ap := app_first (e := 125) hw.len hl0 (slof_new hw _) (flat_len hw.size) (all_flatMap_one fun a _ => node_cel.one a) (by
              rw [htf] at hfl; simp only [roomy, decide_eq_true_eq]; omega)
            have E3 := E2 [.cells [] 125 true]
            simp only [R1, R2, R3, R4, R5, R6, R7, R8, AV.flat, fillIn_nil, fillIn_cons, splice, AV.cells, AV.one, eqsOf, idx, SO.calls, List.reduceReplicate, Nat.reduceBEq, Nat.reduceLT, Nat.reduceAdd, Nat.reduceMul, Nat.reduceSub, Nat.reduceLeDiff, Nat.reduceEqDiff, ↓reduceIte, Int.reduceLT, Int.reduceEq, Int.reduceBNe, Int.reduceBEq, aeq, Int.reduceLE, Int.reduceNeg, Int.reduceMul, Int.reduceAdd, Int.reduceSub, Int.reduceToNat, Int.reducePow, g1, g2, g3, g4, g5, a1, E1, E3, w1, ap]
            refine ⟨_, by omega, i + 1, _, by omega, rfl, rfl, rfl, .inr ⟨by omega, ?_, ?_⟩⟩
            · rw [htf]; exact h1'
            · rw [htf]
              have := acc_at (H := H) (B := []) (l := ls[i]) (e := 125) (Z := [.dead, .cells (ls[i].flatMap Node.cs) 125 true]) (o := 1) (n := ls[i].length) (p := H.length + 1) node_cel rfl h1' rfl (by simp)
              simpa using this
          · obtain ⟨X, rfl⟩ := ha.above
            have E3 := E2 X
            by_cases hz : ls[i] = []
            · have hsw : w0 = .nils ∨ ∃ o off len sz' cap, w0 = .sl o off len sz' cap := by
                obtain ⟨Y, _, hy⟩ := ha.heap
                rcases hy with ⟨_, h⟩ | ⟨_, o, h, _⟩
                · exact .inl h
                · exact .inr ⟨_, _, _, _, _, h⟩
              have hz0 : ls[i].length = 0 := by rw [hz]; rfl
              have ap := app_nop (e := 125) (s := w0) (x := w) (by rw [hw.len, hz0]) (slof_new hw X) hsw
              have htf' : (ls.take (i + 1)).flatten = (ls.take i).flatten := by rw [htf, hz, List.append_nil]
              simp only [R1, R2, R3, R4, R5, R6, R7, R8, AV.flat, fillIn_nil, fillIn_cons, splice, AV.cells, AV.one, eqsOf, idx, SO.calls, List.reduceReplicate, Nat.reduceBEq, Nat.reduceLT, Nat.reduceAdd, Nat.reduceMul, Nat.reduceSub, Nat.reduceLeDiff, Nat.reduceEqDiff, ↓reduceIte, Int.reduceLT, Int.reduceEq, Int.reduceBNe, Int.reduceBEq, aeq, Int.reduceLE, Int.reduceNeg, Int.reduceMul, Int.reduceAdd, Int.reduceSub, Int.reduceToNat, Int.reducePow, g1, g2, g3, g4, g5, a1, E1, E3, w1, ap]
              exact ⟨_, by omega, i + 1, _, by omega, rfl, rfl, rfl, .inr ⟨by omega, by rw [htf']; exact hne, by rw [htf']; exact ha⟩⟩
            · obtain ⟨v', H'', ap, ha'⟩ := ha.push (m := ls[i]) (x := w) hz (fun a _ => rfl) (fun a _ => rfl) hw.len (slof_new hw X) (by
                rw [htf, List.length_append] at hfl; omega)
              rw [← htf] at ha'
              simp only [R1, R2, R3, R4, R5, R6, R7, R8, AV.flat, fillIn_nil, fillIn_cons, splice, AV.cells, AV.one, eqsOf, idx, SO.calls, List.reduceReplicate, Nat.reduceBEq, Nat.reduceLT, Nat.reduceAdd, Nat.reduceMul, Nat.reduceSub, Nat.reduceLeDiff, Nat.reduceEqDiff, ↓reduceIte, Int.reduceLT, Int.reduceEq, Int.reduceBNe, Int.reduceBEq, aeq, Int.reduceLE, Int.reduceNeg, Int.reduceMul, Int.reduceAdd, Int.reduceSub, Int.reduceToNat, Int.reducePow, g1, g2, g3, g4, g5, a1, E1, E3, w1, ap]
              exact ⟨_, by omega, i + 1, _, by omega, rfl, rfl, rfl, .inr ⟨by omega, by rw [htf]; simp [hz], ha'⟩⟩
        · have a1 : ((i : Int) < (ls.length : Int)) = False := eq_false (by omega)
          obtain rfl : i = ls.length := by omega
          rw [List.take_length] at g6
          rcases g6 with ⟨h, _⟩ | ⟨_, _, ha⟩
          · omega
          · have ti := ha.tidy (fun a _ => rfl)
            simp only [R1, R2, R3, R4, R5, R6, R7, R8, AV.flat, fillIn_nil, fillIn_cons, splice, AV.cells, AV.one, eqsOf, idx, SO.calls, List.reduceReplicate, Nat.reduceBEq, Nat.reduceLT, Nat.reduceAdd, Nat.reduceMul, Nat.reduceSub, Nat.reduceLeDiff, Nat.reduceEqDiff, ↓reduceIte, Int.reduceLT, Int.reduceEq, Int.reduceBNe, Int.reduceBEq, aeq, Int.reduceLE, Int.reduceNeg, Int.reduceMul, Int.reduceAdd, Int.reduceSub, Int.reduceToNat, Int.reducePow, g1, g2, g3, g4, g5, a1, ti]
end Go.Proofs.Ytkcbjeenoafbkaa
