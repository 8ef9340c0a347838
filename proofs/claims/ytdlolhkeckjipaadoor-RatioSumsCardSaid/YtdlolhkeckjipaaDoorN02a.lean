/- Chapter 02, the document's numbers: a digit, without zeros at the end, one form. -/
import Derived.Test.YtdlolhkeckjipaaDoorTyX
import Derived.Test.YtdlolhkeckjipaaDoorPureDigB
set_option linter.unusedVariables false
set_option linter.unusedSimpArgs false
set_option maxRecDepth 100000
set_option maxHeartbeats 8000000
namespace Go.Proofs.YtdlolhkeckjipaaDoor
open Go Go.Den
/-- A digit's cell. -/
def W64 (d : Nat) : List AV := [.int .u64 (d : Int)]
theorem w64_cel : Cel 1 W64 := ⟨fun _ => rfl, fun _ => rfl, fun _ => rfl, by decide⟩
/-- Digits in a slice. -/
abbrev DOf (H : Heap) (v : AV) (l : List Nat) : Prop := TOf H 45 1 W64 v l
theorem t_cell {α : Type} {H : Heap} {e : TypeId} {sz : Nat} {g : α → List AV} {v : AV} {l : List α} (h : TOf H e sz g v l) : v.cells = [v] ∧ v.one = true ∧ v.still = v.still := by
  rcases h.of.kind with ⟨o, off, cap, row, rfl, _⟩ | ⟨n, rfl⟩ | ⟨rfl, _⟩ <;> exact ⟨rfl, rfl, rfl⟩
theorem w64_load {H : Heap} {v : AV} {l : List Nat} (h : DOf H v l) {i : Nat} (hi : i < l.length) (X : Heap) : aload (H ++ X) 1 (cellAt v i) = some [.int .u64 ((l.getD i 0 : Nat) : Int)] := by
  have := h.of.load hi X
  simp only [Nat.mul_one] at this
  rw [this]
  simp [W64, List.getD, hi]
theorem w64_addr {H : Heap} {v : AV} {l : List Nat} (h : DOf H v l) {i : Nat} (hi : i < l.length) (k : IntKind) (H' : Heap) : iaddrOf 1 v (.int k (i : Int)) H' = some (cellAt v i, H') := by
  have := h.of.addr hi k H'
  simpa only [Nat.mul_one] using this
theorem c72 {H : Heap} {v : AV} {l : List Nat} (h : DOf H v l) (i : Nat) : call env 72 [v, .int .i64 (i : Int)] H = some (.int .u64 ((l.getD i 0 : Nat) : Int), H) := by
  refine call_ends (fn := s72) rfl rfl (by simp [s72]) ?_
  have l1 := h.of.lenOf
  by_cases hi : i < l.length
  · have a1 : ((i : Int) < (l.length : Int)) = True := eq_true (by omega)
    have g1 := w64_addr h hi
    have g2 := w64_load h hi []
    rw [List.append_nil] at g2
    simp only [s72, R1, R2, R3, R4, R5, R6, R7, R8, AV.flat, fillIn_nil, fillIn_cons, splice, AV.cells, AV.one, eqsOf, idx, SO.calls, List.reduceReplicate, Nat.reduceBEq, Nat.reduceLT, Nat.reduceAdd, Nat.reduceMul, Nat.reduceSub, Nat.reduceLeDiff, Nat.reduceEqDiff, ↓reduceIte, Int.reduceLT, Int.reduceEq, Int.reduceBNe, Int.reduceBEq, aeq, Int.reduceLE, Int.reduceNeg, Int.reduceMul, Int.reduceAdd, Int.reduceSub, Int.reduceToNat, Int.reducePow, l1, a1, g1, g2]
    rw [tidy_int]
  · have a1 : ((i : Int) < (l.length : Int)) = False := eq_false (by omega)
    have e : l.getD i 0 = 0 := by simp [List.getD, hi]
    rw [e]
    simp only [s72, R1, R2, R3, R4, R5, R6, R7, R8, AV.flat, fillIn_nil, fillIn_cons, splice, AV.cells, AV.one, eqsOf, idx, SO.calls, List.reduceReplicate, Nat.reduceBEq, Nat.reduceLT, Nat.reduceAdd, Nat.reduceMul, Nat.reduceSub, Nat.reduceLeDiff, Nat.reduceEqDiff, ↓reduceIte, Int.reduceLT, Int.reduceEq, Int.reduceBNe, Int.reduceBEq, aeq, Int.reduceLE, Int.reduceNeg, Int.reduceMul, Int.reduceAdd, Int.reduceSub, Int.reduceToNat, Int.reducePow, l1, a1]
    rw [tidy_int]
/-- A slice that comes in goes out as a part of it. -/
theorem old_tidy {H : Heap} {f : AV → AV} (c : Cx f) {α : Type} {e : TypeId} {sz : Nat} {g : α → List AV} {v : AV} {l : List α} (h : TOf H e sz g v l) (X : Heap) : tidy H (f v) (H ++ X) = (f v, H) := by
  have hc : v.carry H.length (H ++ X) ([], []) = some (v, ([], [])) := by
    rcases h.of.kind with ⟨o, off, cap, row, rfl, h2, _⟩ | ⟨n, rfl⟩ | ⟨rfl, _⟩
    · have ho : o < H.length := by
        refine Decidable.byContradiction fun hn => ?_
        simp [arow, List.getElem?_eq_none (show H.length ≤ o by omega)] at h2
      simp [AV.carry, ho]
    · simp [AV.carry]
    · simp [AV.carry]
  simp [tidy, keepOld_append, cx_carry c, hc]
theorem trim_is {l : List Nat} (hd : Dig l) {n : Nat} (hn : n ≤ l.length) (hz : ∀ j, n ≤ j → j < l.length → l[j]? = some 0) (hl : n = 0 ∨ ∃ d, l[n - 1]? = some d ∧ d ≠ 0) : n = (digs (val l)).length := by
  rw [← trim_end hd hn hz hl, List.length_take]
  omega
theorem trim_some {l : List Nat} : ∀ {m : Nat}, m ≤ l.length → (∀ j, m ≤ j → j < l.length → l[j]? = some 0) → ∃ n, n ≤ l.length ∧ (∀ j, n ≤ j → j < l.length → l[j]? = some 0) ∧ (n = 0 ∨ ∃ d, l[n - 1]? = some d ∧ d ≠ 0)
  | 0, h, hz => ⟨0, h, hz, .inl rfl⟩
  | m + 1, h, hz => by
    by_cases h0 : l[m]? = some 0
    · refine trim_some (m := m) (by omega) fun j h1 h2 => ?_
      by_cases hj : j = m
      · subst hj; exact h0
      · exact hz j (by omega) h2
    · refine ⟨m + 1, h, hz, .inr ⟨l[m], by rw [Nat.add_sub_cancel, List.getElem?_eq_getElem], fun h1 => h0 ?_⟩⟩
      rw [List.getElem?_eq_getElem (by omega), h1]
theorem take_digs {l : List Nat} (hd : Dig l) : (digs (val l)).length ≤ l.length ∧ l.take (digs (val l)).length = digs (val l) := by
  obtain ⟨n, h1, h2, h3⟩ := trim_some (Nat.le_refl l.length) (fun j _ _ => by omega)
  have e := trim_is hd h1 h2 h3
  have := trim_end hd h1 h2 h3
  rw [← e]
  exact ⟨h1, this⟩
theorem c73 {H : Heap} {v : AV} {l : List Nat} (h : DOf H v l) (hd : Dig l) (hl : l.length ≤ 100000) : ∃ w, DOf H w (digs (val l)) ∧ ∀ X, call env 73 [v] (H ++ X) = some (w, H ++ X) := by
  obtain ⟨t1, t2⟩ := take_digs hd
  obtain ⟨w, q1, q2, q3, q4⟩ := h.sub (Nat.zero_le _) t1
  rw [List.drop_zero, Nat.sub_zero, t2] at q2
  refine ⟨w, q2, fun X => ?_⟩
  have q3 := q3 rfl
  refine call_ends (fn := s73) rfl rfl (by simp [s73]) ?_
  have l1 := h.of.lenOf
  have out : tidy (H ++ X) w (H ++ X) = (w, H ++ X) := by
    have := old_tidy Cx.here (q2.app X) []
    rwa [List.append_nil] at this
  simp only [s73, R1, R2, R3, R4, R5, R6, R7, R8, AV.flat, fillIn_nil, fillIn_cons, splice, AV.cells, AV.one, eqsOf, idx, SO.calls, List.reduceReplicate, Nat.reduceBEq, Nat.reduceLT, Nat.reduceAdd, Nat.reduceMul, Nat.reduceSub, Nat.reduceLeDiff, Nat.reduceEqDiff, ↓reduceIte, Int.reduceLT, Int.reduceEq, Int.reduceBNe, Int.reduceBEq, aeq, Int.reduceLE, Int.reduceNeg, Int.reduceMul, Int.reduceAdd, Int.reduceSub, Int.reduceToNat, Int.reducePow, l1]
  refine ends_loop (fun k t H' => t.length = 21 ∧ H ++ X = H' ∧ t.getD 0 .undef = v ∧ k ≤ l.length ∧ t.getD 3 .undef = .int .i64 (k : Int) ∧ ∀ j, k ≤ j → j < l.length → l[j]? = some 0) l.length ?_ ?_
  · simp only [R1, R2, R3, R4, R5, R6, R7, R8, AV.flat, fillIn_nil, fillIn_cons, splice, AV.cells, AV.one, eqsOf, idx, SO.calls, List.reduceReplicate, Nat.reduceBEq, Nat.reduceLT, Nat.reduceAdd, Nat.reduceMul, Nat.reduceSub, Nat.reduceLeDiff, Nat.reduceEqDiff, ↓reduceIte, Int.reduceLT, Int.reduceEq, Int.reduceBNe, Int.reduceBEq, aeq, Int.reduceLE, Int.reduceNeg, Int.reduceMul, Int.reduceAdd, Int.reduceSub, Int.reduceToNat, Int.reducePow]
    exact fun j h1 h2 => by omega
  rintro n t _ ⟨k1, rfl, k2, hn, k3, hz⟩
  rw [← tm_nil t]
  by_cases h0 : n = 0
  · have e := trim_is hd hn hz (.inl h0)
    rw [← e] at q3
    have a1 : ((n : Int) > 0) = False := eq_false (by omega)
    simp only [R1, R2, R3, R4, R5, R6, R7, R8, AV.flat, fillIn_nil, fillIn_cons, splice, AV.cells, AV.one, eqsOf, idx, SO.calls, List.reduceReplicate, Nat.reduceBEq, Nat.reduceLT, Nat.reduceAdd, Nat.reduceMul, Nat.reduceSub, Nat.reduceLeDiff, Nat.reduceEqDiff, ↓reduceIte, Int.reduceLT, Int.reduceEq, Int.reduceBNe, Int.reduceBEq, aeq, Int.reduceLE, Int.reduceNeg, Int.reduceMul, Int.reduceAdd, Int.reduceSub, Int.reduceToNat, Int.reducePow, k1, k2, k3, a1, q3]
    rw [out]
  · have a1 : ((n : Int) > 0) = True := eq_true (by omega)
    have w1 : IntKind.i64.wrap ((n : Int) - 1) = ((n - 1 : Nat) : Int) := by rw [wrap_i64 (by omega) (by omega)]; omega
    have g1 := w64_addr h (i := n - 1) (by omega)
    have g2 := w64_load h (i := n - 1) (by omega) X
    by_cases hc : l.getD (n - 1) 0 = 0
    · have a2 : (((l.getD (n - 1) 0 : Nat) : Int) == 0) = true := by rw [hc]; rfl
      have hz0 : l[n - 1]? = some 0 := by
        rw [List.getD, List.getElem?_eq_getElem (by omega)] at hc
        rw [List.getElem?_eq_getElem (by omega)]
        simpa using hc
      generalize l.getD (n - 1) 0 = z at *
      simp only [R1, R2, R3, R4, R5, R6, R7, R8, AV.flat, fillIn_nil, fillIn_cons, splice, AV.cells, AV.one, eqsOf, idx, SO.calls, List.reduceReplicate, Nat.reduceBEq, Nat.reduceLT, Nat.reduceAdd, Nat.reduceMul, Nat.reduceSub, Nat.reduceLeDiff, Nat.reduceEqDiff, ↓reduceIte, Int.reduceLT, Int.reduceEq, Int.reduceBNe, Int.reduceBEq, aeq, Int.reduceLE, Int.reduceNeg, Int.reduceMul, Int.reduceAdd, Int.reduceSub, Int.reduceToNat, Int.reducePow, k1, k2, k3, a1, a2, w1, g1, g2]
      refine ⟨n - 1, by omega, by omega, rfl, fun j h1 h2 => ?_⟩
      by_cases hj : j = n - 1
      · subst hj
        exact hz0
      · exact hz j (by omega) h2
    · have a2 : (((l.getD (n - 1) 0 : Nat) : Int) == 0) = false := by rw [beq_eq_false_iff_ne]; omega
      have e := trim_is hd hn hz (.inr ⟨l.getD (n - 1) 0, by rw [List.getD, List.getElem?_eq_getElem (by omega)]; rfl, hc⟩)
      rw [← e] at q3
      generalize l.getD (n - 1) 0 = z at *
      simp only [R1, R2, R3, R4, R5, R6, R7, R8, AV.flat, fillIn_nil, fillIn_cons, splice, AV.cells, AV.one, eqsOf, idx, SO.calls, List.reduceReplicate, Nat.reduceBEq, Nat.reduceLT, Nat.reduceAdd, Nat.reduceMul, Nat.reduceSub, Nat.reduceLeDiff, Nat.reduceEqDiff, ↓reduceIte, Int.reduceLT, Int.reduceEq, Int.reduceBNe, Int.reduceBEq, aeq, Int.reduceLE, Int.reduceNeg, Int.reduceMul, Int.reduceAdd, Int.reduceSub, Int.reduceToNat, Int.reducePow, k1, k2, k3, a1, a2, w1, g1, g2, q3]
      rw [out]
/-- In one form. -/
theorem c55 {H : Heap} {v : AV} {l : List Nat} (h : DOf H v l) (hd : Dig l) (hl : l.length ≤ 100000) (b : Bool) : ∃ w, DOf H w (digs (val l)) ∧ ∀ X, call env 55 [.bool b, v] (H ++ X) = some (.agg [.bool (b && decide (val l ≠ 0)), w], H ++ X) := by
  obtain ⟨w, h1, e1⟩ := c73 h hd hl
  refine ⟨w, h1, fun X => ?_⟩
  obtain ⟨z1, z2, _⟩ := t_cell h1
  simp only [AV.cells, AV.one] at z1 z2
  have l1 := h1.of.lenOf
  have a1 : (((digs (val l)).length : Int) > 0) = (val l ≠ 0) := by
    apply propext
    have := digs_nil (n := val l)
    constructor
    · intro h h0; have := this.2 h0; omega
    · intro h0
      have : ¬ (digs (val l)).length = 0 := fun h => h0 (this.1 h)
      omega
  refine call_ends (fn := s55) rfl rfl (by simp [s55]) ?_
  cases b
  · simp only [s55, R1, R2, R3, R4, R5, R6, R7, R8, AV.flat, fillIn_nil, fillIn_cons, splice, AV.cells, AV.one, eqsOf, idx, SO.calls, List.reduceReplicate, Nat.reduceBEq, Nat.reduceLT, Nat.reduceAdd, Nat.reduceMul, Nat.reduceSub, Nat.reduceLeDiff, Nat.reduceEqDiff, ↓reduceIte, Int.reduceLT, Int.reduceEq, Int.reduceBNe, Int.reduceBEq, aeq, Int.reduceLE, Int.reduceNeg, Int.reduceMul, Int.reduceAdd, Int.reduceSub, Int.reduceToNat, Int.reducePow, e1, z1, z2, l1]
    rw [← List.append_assoc]
    exact congrArg some (old_tidy (Cx.agg [.bool false] [] rfl rfl Cx.here) (h1.app X) _)
  · simp only [s55, R1, R2, R3, R4, R5, R6, R7, R8, AV.flat, fillIn_nil, fillIn_cons, splice, AV.cells, AV.one, eqsOf, idx, SO.calls, List.reduceReplicate, Nat.reduceBEq, Nat.reduceLT, Nat.reduceAdd, Nat.reduceMul, Nat.reduceSub, Nat.reduceLeDiff, Nat.reduceEqDiff, ↓reduceIte, Int.reduceLT, Int.reduceEq, Int.reduceBNe, Int.reduceBEq, aeq, Int.reduceLE, Int.reduceNeg, Int.reduceMul, Int.reduceAdd, Int.reduceSub, Int.reduceToNat, Int.reducePow, e1, z1, z2, l1, a1]
    rw [← List.append_assoc]
    exact congrArg some (old_tidy (Cx.agg [.bool _] [] rfl rfl Cx.here) (h1.app X) _)
end Go.Proofs.YtdlolhkeckjipaaDoor
