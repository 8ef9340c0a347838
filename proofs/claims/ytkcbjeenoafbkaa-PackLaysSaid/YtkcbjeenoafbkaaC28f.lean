/- slices.DeleteFunc, and those that may be. -/
import Derived.Test.YtkcbjeenoafbkaaC28e
set_option linter.unusedVariables false
set_option linter.unusedSimpArgs false
set_option maxRecDepth 100000
set_option maxHeartbeats 1000000
namespace Go.Proofs.Ytkcbjeenoafbkaa
open Go Go.Den
def PredAll (f : Nat) (cap : List AV) (q : Rect → Bool) : Prop := ∀ H (r : Rect), call env f (.agg r.cs :: cap) H = some (.bool (q r), H)
theorem slc_lo {H : Heap} {o off len sz l : Nat} {cap : Option Nat} (h : l ≤ len) : slcOf sz (.sl o off len sz cap) (some (some l)) (some none) (some none) H = some (.sl o (off + l * sz) (len - l) sz (cap.map (· - l)), H) := by
  simp only [slcOf, alen, Option.bind_some, acut, Option.getD_some, Option.getD_none]
  rw [if_pos ⟨trivial, h, Nat.le_refl _⟩]; rfl
theorem slc_hi {H : Heap} {o off len sz l : Nat} {cap : Option Nat} (h : l ≤ len) : slcOf sz (.sl o off len sz cap) (some none) (some (some l)) (some none) H = some (.sl o off l sz (cap.map (· - 0)), H) := by
  simp only [slcOf, alen, Option.bind_some, acut, Option.getD_some, Option.getD_none]
  rw [if_pos ⟨trivial, Nat.zero_le _, h⟩]; simp
def clearOf (z : List AV) (x : AV) (H : Heap) : Option (AV × Heap) :=
  match x with
  | .nils => some (.tup [], H)
  | .sl o off len _ _ => if len = 0 then some (.tup [], H) else (astore H (.ptr o off) ((List.replicate len z).flatten)).map fun H' => (.tup [], H')
  | _ => none
theorem sop_clear {cl : CL} {t : List AV} {H : Heap} {z x} : sop cl t H (.clear z x) = clearOf z (evx t x) H := _root_.id rfl
theorem clear_sl {z : List AV} {H : Heap} {o off len sz : Nat} {cap : Option Nat} (h : len ≠ 0) : clearOf z (.sl o off len sz cap) H = (astore H (.ptr o off) ((List.replicate len z).flatten)).map fun H' => (.tup [], H') := by
  simp only [clearOf, if_neg h]
theorem tidy_old {H X : Heap} {o off len sz : Nat} {cap : Option Nat} (h : o < H.length) : tidy H (.sl o off len sz cap) (H ++ X) = (.sl o off len sz cap, H) := by
  simp [tidy, keepOld_append, AV.carry, h]
theorem tidy_oldset {H X : Heap} {len sz off : Nat} {cap : Option Nat} {r r' : List AV} (hr : r'.all AV.flat = true) : tidy (H ++ [AO.cells r 112 true]) (.sl H.length off len sz cap) (H ++ AO.cells r' 112 true :: X) = (.sl H.length off len sz cap, H ++ [AO.cells r' 112 true]) := by
  have e : H ++ AO.cells r' 112 true :: X = (H ++ [AO.cells r 112 true]).set H.length (AO.cells r' 112 true) ++ X := by simp
  have hu : (AO.cells r' 112 true).under (H ++ [AO.cells r 112 true]).length = true := leadss_flat hr
  have hk := keepOld_set _ _ hu (H ++ [.cells r 112 true]) H.length X
  rw [e]
  simp only [tidy, hk, if_true]
  have hc : (AV.sl H.length off len sz cap).carry (H ++ [AO.cells r 112 true]).length ((H ++ [AO.cells r 112 true]).set H.length (.cells r' 112 true) ++ X) ([], []) = some (.sl H.length off len sz cap, ([], [])) := by
    simp [AV.carry]
  rw [hc]
  simp
  rw [take_app]; rfl
theorem rects_flat (l : List Rect) : (l.flatMap Rect.cs).all AV.flat = true := by
  simp only [List.all_flatMap, List.all_eq_true]
  intro r _ a ha
  simp [Rect.cs] at ha
  rcases ha with rfl | rfl | rfl | rfl <;> rfl
theorem find_none (q : Rect → Bool) (l : List Rect) (h : ¬ find q l < l.length) : l.filter (fun r => !q r) = l := by
  apply List.filter_eq_self.2
  intro r hr
  have := find_any q l
  rw [decide_eq_false h] at this
  have := this.symm
  rw [List.any_eq_false] at this
  simpa using this r hr
theorem find_take (q : Rect → Bool) : ∀ (l : List Rect), (l.take (find q l)).filter (fun r => !q r) = l.take (find q l)
  | [] => rfl
  | r :: l => by
    cases hq : q r
    · simp only [find, hq, Bool.false_eq_true, if_false, List.take_succ_cons, List.filter_cons, Bool.not_false, if_true, find_take q l]
    · simp [find, hq]
/-- How a row stands when j elements are looked at. -/
def kept (q : Rect → Bool) (l : List Rect) (j : Nat) : List Rect := (l.take j).filter fun r => !q r
def rowAt (q : Rect → Bool) (l : List Rect) (j : Nat) : List Rect := kept q l j ++ l.drop (kept q l j).length
theorem kept_le (q : Rect → Bool) (l : List Rect) (j : Nat) : (kept q l j).length ≤ j ∧ (kept q l j).length ≤ l.length := by
  have := List.length_filter_le (fun r => !q r) (l.take j)
  rw [List.length_take] at this
  unfold kept; omega
theorem rowAt_len (q : Rect → Bool) (l : List Rect) (j : Nat) : (rowAt q l j).length = l.length := by
  have := kept_le q l j
  simp only [rowAt, List.length_append, List.length_drop]; omega
theorem rowAt_at (q : Rect → Bool) (l : List Rect) (j : Nat) (h : j < l.length) : (rowAt q l j)[j]'(by rw [rowAt_len]; exact h) = l[j] := by
  have := kept_le q l j
  unfold rowAt
  rw [List.getElem_append_right (by omega), List.getElem_drop]
  congr 1; omega
theorem kept_succ (q : Rect → Bool) {l : List Rect} {j : Nat} (h : j < l.length) : kept q l (j + 1) = kept q l j ++ (if q l[j] then [] else [l[j]]) := by
  unfold kept
  rw [List.take_succ_eq_append_getElem h, List.filter_append]
  cases hq : q l[j] <;> simp [hq]
theorem rowAt_succ (q : Rect → Bool) {l : List Rect} {j : Nat} (h : j < l.length) (hq : q l[j] = false) :
    ((rowAt q l j).flatMap Rect.cs).take ((kept q l j).length * 4) ++ (l[j].cs ++ ((rowAt q l j).flatMap Rect.cs).drop ((kept q l j).length * 4 + 4)) = (rowAt q l (j + 1)).flatMap Rect.cs := by
  have hk := kept_le q l j
  have hkl := flat_len (rect_size (kept q l j))
  have hs := kept_succ q h
  rw [hq] at hs
  simp only [Bool.false_eq_true, if_false] at hs
  have hd : l.drop (kept q l j).length = l[(kept q l j).length]'(by omega) :: l.drop ((kept q l j).length + 1) := List.drop_eq_getElem_cons (by omega)
  have e1 : (rowAt q l (j + 1)).flatMap Rect.cs = (kept q l j).flatMap Rect.cs ++ (l[j].cs ++ (l.drop ((kept q l j).length + 1)).flatMap Rect.cs) := by
    unfold rowAt
    rw [hs]
    simp
  rw [e1]
  unfold rowAt
  rw [hd, List.flatMap_append, List.flatMap_cons, List.take_left' hkl]
  congr 2
  rw [← List.drop_drop, List.drop_left' hkl]
  exact List.drop_left' (l₁ := l[(kept q l j).length].cs) rfl
/-- slices.DeleteFunc. -/
theorem c126 {H : Heap} {l : List Rect} {f : Nat} {cp : List AV} {q : Rect → Bool} {cap : Option Nat} (hp : PredAll f cp q) (hn : l.length ≤ 100000000) :
    ∃ cap' row, call env 126 [.sl H.length 0 l.length 4 cap, .fn f cp] (H ++ [.cells (l.flatMap Rect.cs) 112 true]) = some (.sl H.length 0 (l.filter fun r => !q r).length 4 cap', H ++ [.cells row 112 true]) ∧
      row.take ((l.filter fun r => !q r).length * 4) = (l.filter fun r => !q r).flatMap Rect.cs ∧ (l.filter fun r => !q r).length * 4 ≤ row.length ∧ row.all AV.flat = true := by
  have hs := SlOf.row (H := H) (e := 112) (w := true) (cap := cap) (rect_size l) (by decide)
  have e1 := c129 hs (f := f) (cap := cp) (q := q) (fun X r _ => hp _ r) hn
  have hfl := flat_len (rect_size l)
  by_cases hlt : find q l < l.length
  · have hfi : findI q l = (find q l : Int) := by unfold findI; rw [if_pos hlt]
    have hne : ((find q l : Int) == -1) = false := by rw [beq_eq_false_iff_ne]; omega
    have hk0 : kept q l (find q l + 1) = l.take (find q l) := by
      rw [kept_succ q hlt, find_at q hlt]
      simp only [if_true, List.append_nil]
      exact find_take q l
    have hk0l : (kept q l (find q l + 1)).length = find q l := by rw [hk0, List.length_take]; omega
    have hr0 : rowAt q l (find q l + 1) = l := by unfold rowAt; rw [hk0l, hk0, List.take_append_drop]
    have hall : kept q l l.length = l.filter fun r => !q r := by unfold kept; rw [List.take_length]
    have hkl : (l.filter fun r => !q r).length < l.length := by
      rw [← hall]
      rw [hall]
      exact List.length_filter_lt_length_iff_exists.2 ⟨l[find q l], List.getElem_mem hlt, by simp [find_at q hlt]⟩
    have w1 := wrap_i64 (x := (find q l : Int) + 1) (by omega) (by omega)
    rw [hfi] at e1
    have hml := flat_len (rect_size (kept q l l.length))
    have hz : ((List.replicate (l.length - (kept q l l.length).length) [AV.int .i64 0, .int .i64 0, .int .i64 0, .int .i64 0]).flatten).length = (l.length - (kept q l l.length).length) * 4 := by simp
    have hz1 : ((List.replicate (l.length - (kept q l l.length).length) [AV.int .i64 0, .int .i64 0, .int .i64 0, .int .i64 0]).flatten).all AV.one = true := by
      simp only [List.all_flatten, List.all_replicate]; split <;> rfl
    have hz2 : ((List.replicate (l.length - (kept q l l.length).length) [AV.int .i64 0, .int .i64 0, .int .i64 0, .int .i64 0]).flatten).all AV.flat = true := by
      simp only [List.all_flatten, List.all_replicate]; split <;> rfl
    generalize hZ : (List.replicate (l.length - (kept q l l.length).length) [AV.int .i64 0, .int .i64 0, .int .i64 0, .int .i64 0]).flatten = Z at hz hz1 hz2
    have hrow : ((kept q l l.length).flatMap Rect.cs ++ Z).all AV.flat = true := by rw [List.all_append, rects_flat, hz2]; rfl
    rw [← hall] at hkl ⊢
    refine ⟨cap.map (· - 0), (kept q l l.length).flatMap Rect.cs ++ Z, call_ends (fn := s126) rfl rfl (by simp [s126]) ?_, List.take_left' hml, by rw [List.length_append]; omega, hrow⟩
    have ht := fun X => tidy_oldset (H := H) (X := X) (len := (kept q l l.length).length) (sz := 4) (off := 0) (cap := cap.map (· - 0)) (r := l.flatMap Rect.cs) hrow
    simp only [s126, R1, R2, R3, R4, R5, R6, R7, R8, AV.flat, fillIn_nil, fillIn_cons, splice, AV.cells, AV.one, eqsOf, idx, SO.calls, List.reduceReplicate, Nat.reduceBEq, Nat.reduceLT, Nat.reduceAdd, Nat.reduceMul, Nat.reduceSub, Nat.reduceLeDiff, Nat.reduceEqDiff, ↓reduceIte, Int.reduceLT, Int.reduceEq, Int.reduceBNe, Int.reduceBEq, aeq, Int.reduceLE, Int.reduceNeg, Int.reduceMul, Int.reduceAdd, Int.reduceSub, Int.reduceToNat, Int.reducePow, e1, hne, w1]
    refine ends_loop (fun k t H' => t.length = 42 ∧ t.getD 0 .undef = .sl H.length 0 l.length 4 cap ∧ t.getD 1 .undef = .fn f cp ∧ ∃ j : Nat, find q l + 1 ≤ j ∧ j ≤ l.length ∧ k = l.length - j ∧ t.getD 6 .undef = .int .i64 (j : Int) ∧ t.getD 5 .undef = .int .i64 ((kept q l j).length : Int) ∧
      ∃ X, H' = H ++ .cells ((rowAt q l j).flatMap Rect.cs) 112 true :: X) (l.length - (find q l + 1)) ?_ ?_
    · simp only [R1, R2, R3, R4, R5, R6, R7, R8, AV.flat, fillIn_nil, fillIn_cons, splice, AV.cells, AV.one, eqsOf, idx, SO.calls, List.reduceReplicate, Nat.reduceBEq, Nat.reduceLT, Nat.reduceAdd, Nat.reduceMul, Nat.reduceSub, Nat.reduceLeDiff, Nat.reduceEqDiff, ↓reduceIte, Int.reduceLT, Int.reduceEq, Int.reduceBNe, Int.reduceBEq, aeq, Int.reduceLE, Int.reduceNeg, Int.reduceMul, Int.reduceAdd, Int.reduceSub, Int.reduceToNat, Int.reducePow]
      exact ⟨find q l + 1, by omega, by omega, rfl, rfl, by rw [hk0l], [], by rw [hr0]⟩
    · rintro k t H' ⟨g1, g2, g3, j, hj1, hj2, rfl, g4, g5, X, rfl⟩
      rw [← tm_nil t]
      have hkj := kept_le q l j
      have hRl := flat_len (rect_size (rowAt q l j))
      rw [rowAt_len] at hRl
      by_cases hc : j < l.length
      · have b1 : ((j : Int) < (l.length : Int)) = True := eq_true (by omega)
        have b2 : (j * 4 + 4 ≤ l.length * 4) = True := eq_true (by omega)
        have b3 := wrap_i64 (x := (j : Int) + 1) (by omega) (by omega)
        have b4 := flat_at (rect_size (rowAt q l j)) (i := j) (by rw [rowAt_len]; exact hc)
        rw [rowAt_at q l j hc] at b4
        have b5 := fun H => hp H l[j]
        cases hq : q l[j]
        · have b6 := rowAt_succ q hc hq
          have b7 := kept_succ q hc
          rw [hq] at b5 b7
          simp only [Bool.false_eq_true, if_false] at b7
          have b8 : (((kept q l j).length : Int) < (l.length : Int)) = True := eq_true (by omega)
          have b9 : ((kept q l j).length * 4 + 4 ≤ l.length * 4) = True := eq_true (by omega)
          have b10 := wrap_i64 (x := ((kept q l j).length : Int) + 1) (by omega) (by omega)
          generalize (rowAt q l j).flatMap Rect.cs = R at hRl b4 b6
          generalize l[j] = r at b4 b5 b6 b7
          simp only [Rect.cs, R1, R2, R3, R4, R5, R6, R7, R8, AV.flat, fillIn_nil, fillIn_cons, splice, AV.cells, AV.one, eqsOf, idx, SO.calls, List.reduceReplicate, Nat.reduceBEq, Nat.reduceLT, Nat.reduceAdd, Nat.reduceMul, Nat.reduceSub, Nat.reduceLeDiff, Nat.reduceEqDiff, ↓reduceIte, Int.reduceLT, Int.reduceEq, Int.reduceBNe, Int.reduceBEq, aeq, Int.reduceLE, Int.reduceNeg, Int.reduceMul, Int.reduceAdd, Int.reduceSub, Int.reduceToNat, Int.reducePow] at b4 b5 b6
          simp only [Rect.cs, R1, R2, R3, R4, R5, R6, R7, R8, AV.flat, fillIn_nil, fillIn_cons, splice, AV.cells, AV.one, eqsOf, idx, SO.calls, List.reduceReplicate, Nat.reduceBEq, Nat.reduceLT, Nat.reduceAdd, Nat.reduceMul, Nat.reduceSub, Nat.reduceLeDiff, Nat.reduceEqDiff, ↓reduceIte, Int.reduceLT, Int.reduceEq, Int.reduceBNe, Int.reduceBEq, aeq, Int.reduceLE, Int.reduceNeg, Int.reduceMul, Int.reduceAdd, Int.reduceSub, Int.reduceToNat, Int.reducePow, sop_fcallv, g1, g2, g3, g4, g5, hRl, b1, b2, b3, b4, b5, b6, b8, b9, b10]
          exact ⟨_, by omega, j + 1, by omega, by omega, rfl, by simp, by rw [b7]; simp, _, rfl⟩
        · have b7 := kept_succ q hc
          rw [hq] at b5 b7
          simp only [if_true, List.append_nil] at b7
          have b6 : rowAt q l (j + 1) = rowAt q l j := by unfold rowAt; rw [b7]
          generalize l[j] = r at b4 b5
          simp only [Rect.cs, R1, R2, R3, R4, R5, R6, R7, R8, AV.flat, fillIn_nil, fillIn_cons, splice, AV.cells, AV.one, eqsOf, idx, SO.calls, List.reduceReplicate, Nat.reduceBEq, Nat.reduceLT, Nat.reduceAdd, Nat.reduceMul, Nat.reduceSub, Nat.reduceLeDiff, Nat.reduceEqDiff, ↓reduceIte, Int.reduceLT, Int.reduceEq, Int.reduceBNe, Int.reduceBEq, aeq, Int.reduceLE, Int.reduceNeg, Int.reduceMul, Int.reduceAdd, Int.reduceSub, Int.reduceToNat, Int.reducePow] at b4 b5
          simp only [Rect.cs, R1, R2, R3, R4, R5, R6, R7, R8, AV.flat, fillIn_nil, fillIn_cons, splice, AV.cells, AV.one, eqsOf, idx, SO.calls, List.reduceReplicate, Nat.reduceBEq, Nat.reduceLT, Nat.reduceAdd, Nat.reduceMul, Nat.reduceSub, Nat.reduceLeDiff, Nat.reduceEqDiff, ↓reduceIte, Int.reduceLT, Int.reduceEq, Int.reduceBNe, Int.reduceBEq, aeq, Int.reduceLE, Int.reduceNeg, Int.reduceMul, Int.reduceAdd, Int.reduceSub, Int.reduceToNat, Int.reducePow, sop_fcallv, g1, g2, g3, g4, g5, hRl, b1, b2, b3, b4, b5]
          exact ⟨_, by omega, j + 1, by omega, by omega, rfl, by simp, by rw [b7], _, by rw [b6]⟩
      · have : j = l.length := by omega
        subst this
        have b1 : ((l.length : Int) < (l.length : Int)) = False := eq_false (by omega)
        have c1 := fun H' => slc_lo (H := H') (o := H.length) (off := 0) (sz := 4) (cap := cap) (show (kept q l l.length).length ≤ l.length by omega)
        have c2 := fun H' => slc_hi (H := H') (o := H.length) (off := 0) (sz := 4) (cap := cap) (show (kept q l l.length).length ≤ l.length by omega)
        have c3 := fun (H' : Heap) (cap : Option Nat) => clear_sl (z := [AV.int .i64 0, .int .i64 0, .int .i64 0, .int .i64 0]) (H := H') (o := H.length) (off := 0 + (kept q l l.length).length * 4) (sz := 4) (cap := cap) (show l.length - (kept q l l.length).length ≠ 0 by omega)
        rw [hZ] at c3
        have c4 : ((kept q l l.length).length * 4 + (l.length - (kept q l l.length).length) * 4 ≤ l.length * 4) = True := eq_true (by omega)
        have c5 : ((rowAt q l l.length).flatMap Rect.cs).take ((kept q l l.length).length * 4) = (kept q l l.length).flatMap Rect.cs := by
          unfold rowAt
          rw [List.flatMap_append, List.take_left' hml]
        have c6 : ((rowAt q l l.length).flatMap Rect.cs).drop ((kept q l l.length).length * 4 + (l.length - (kept q l l.length).length) * 4) = [] := List.drop_of_length_le (by omega)
        generalize (rowAt q l l.length).flatMap Rect.cs = R at hRl c5 c6
        generalize (kept q l l.length).length = m at *
        simp only [Nat.zero_add] at c1 c2 c3
        simp only [R1, R2, R3, R4, R5, R6, R7, R8, AV.flat, fillIn_nil, fillIn_cons, splice, AV.cells, AV.one, eqsOf, idx, SO.calls, List.reduceReplicate, Nat.reduceBEq, Nat.reduceLT, Nat.reduceAdd, Nat.reduceMul, Nat.reduceSub, Nat.reduceLeDiff, Nat.reduceEqDiff, ↓reduceIte, Int.reduceLT, Int.reduceEq, Int.reduceBNe, Int.reduceBEq, aeq, Int.reduceLE, Int.reduceNeg, Int.reduceMul, Int.reduceAdd, Int.reduceSub, Int.reduceToNat, Int.reducePow, sop_clear, g1, g2, g3, g4, g5, hRl, b1, c1, c2, c3, c4, c5, c6, hz, hz1, ht]
  · have hfi : findI q l = -1 := by unfold findI; rw [if_neg hlt]
    rw [hfi] at e1
    have hf := find_none q l hlt
    rw [hf]
    refine ⟨cap, l.flatMap Rect.cs, call_ends (fn := s126) rfl rfl (by simp [s126]) ?_, List.take_of_length_le (by omega), by omega, rects_flat l⟩
    have ht : tidy (H ++ [AO.cells (l.flatMap Rect.cs) 112 true]) (.sl H.length 0 l.length 4 cap) (H ++ [AO.cells (l.flatMap Rect.cs) 112 true]) = (.sl H.length 0 l.length 4 cap, H ++ [AO.cells (l.flatMap Rect.cs) 112 true]) := by
      have := tidy_old (H := H ++ [AO.cells (l.flatMap Rect.cs) 112 true]) (X := []) (o := H.length) (off := 0) (len := l.length) (sz := 4) (cap := cap) (by simp)
      rwa [List.append_nil] at this
    simp only [s126, R1, R2, R3, R4, R5, R6, R7, R8, AV.flat, fillIn_nil, fillIn_cons, splice, AV.cells, AV.one, eqsOf, idx, SO.calls, List.reduceReplicate, Nat.reduceBEq, Nat.reduceLT, Nat.reduceAdd, Nat.reduceMul, Nat.reduceSub, Nat.reduceLeDiff, Nat.reduceEqDiff, ↓reduceIte, Int.reduceLT, Int.reduceEq, Int.reduceBNe, Int.reduceBEq, aeq, Int.reduceLE, Int.reduceNeg, Int.reduceMul, Int.reduceAdd, Int.reduceSub, Int.reduceToNat, Int.reducePow, e1, ht]
end Go.Proofs.Ytkcbjeenoafbkaa
