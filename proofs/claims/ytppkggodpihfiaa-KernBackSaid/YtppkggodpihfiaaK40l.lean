/- Chapter 40: what the document says of Parse. -/
import Derived.Test.YtppkggodpihfiaaK40k
set_option linter.unusedVariables false
set_option linter.unusedSimpArgs false
set_option maxRecDepth 100000
set_option maxHeartbeats 4000000
namespace Go.Proofs.Ytppkggodpihfiaa
open Go Go.Den
def seg (p : List UInt8) (a k : Nat) : List UInt8 := (p.drop a).take k
theorem seg_len {p : List UInt8} {a k : Nat} (h : a + k ≤ p.length) : (seg p a k).length = k := by unfold seg; rw [List.length_take, List.length_drop]; omega
theorem byte_of {n : Nat} {x : UInt8} (h : n % 256 = x.toNat) : UInt8.ofNat n = x := by apply UInt8.toNat.inj; simpa using h
theorem put_two (x y : UInt8) : putB (num [x, y]) 2 = [x, y] := by
  have hx := x.toNat_lt
  have hy := y.toNat_lt
  have e : num [x, y] = x.toNat * 256 + y.toNat := by simp only [num, List.foldl]; omega
  rw [e]
  simp only [putB, List.cons.injEq, and_true]
  exact ⟨byte_of (by omega), byte_of (by omega)⟩
theorem list_two {l : List UInt8} (h : l.length = 2) : ∃ x y, l = [x, y] := by
  match l, h with
  | [x, y], _ => exact ⟨x, y, rfl⟩
theorem seg2 {p : List UInt8} {a : Nat} (h : a + 2 ≤ p.length) : putB (n2 p a) 2 = seg p a 2 := by
  have hl := seg_len h
  unfold n2
  unfold seg at hl ⊢
  obtain ⟨x, y, e⟩ := list_two hl
  rw [e]; exact put_two x y
theorem num_put2 {x : Nat} (h : x < 65536) : num (putB x 2) = x := by
  simp [num, putB]; omega
theorem put_inj {x y : Nat} (hx : x < 65536) (hy : y < 65536) (h : putB x 2 = putB y 2) : x = y := by
  rw [← num_put2 hx, ← num_put2 hy, h]
theorem shB_segs : ∀ (L : List Int) (p : List UInt8), 2 * L.length ≤ p.length → (p.take (2 * L.length) = shB L ↔ ∀ j, j < L.length → seg p (2 * j) 2 = putB (u16N (L.getD j 0)) 2)
  | [], p, _ => by simp [shB]
  | a :: L, p, h => by
    simp only [List.length_cons] at h
    have ih := shB_segs L (p.drop 2) (by rw [List.length_drop]; omega)
    have e1 : p.take (2 * (a :: L).length) = seg p 0 2 ++ (p.drop 2).take (2 * L.length) := by
      unfold seg; rw [List.drop_zero, List.length_cons, show 2 * (L.length + 1) = 2 + 2 * L.length by omega, List.take_add]
    have e2 : shB (a :: L) = putB (u16N a) 2 ++ shB L := rfl
    rw [e1, e2]
    constructor
    · intro he
      obtain ⟨h1, h2⟩ := List.append_inj he (by rw [seg_len (by omega), putB_len])
      intro j hj
      cases j with
      | zero => exact h1
      | succ j =>
        have := ih.1 h2 j (by simp only [List.length_cons] at hj; omega)
        unfold seg at this ⊢
        rw [List.drop_drop] at this
        rw [show 2 * (j + 1) = 2 + 2 * j by omega]
        simpa using this
    · intro hj
      have h1 := hj 0 (by simp)
      have h2 := ih.2 fun j hj' => by
        have := hj (j + 1) (by simp only [List.length_cons]; omega)
        unfold seg at this ⊢
        rw [List.drop_drop]
        rw [show 2 * (j + 1) = 2 + 2 * j by omega] at this
        simpa using this
      rw [h2]
      exact congrArg (· ++ shB L) h1
theorem headL_len (n : Nat) : (headL n).length = 9 := by unfold headL; rw [List.length_append, threeP_len]; rfl
theorem threeP_in {n : Nat} (h : n ≤ 4096) : ∀ x ∈ threeP n, 0 ≤ x ∧ x < 65536 := by
  unfold threeP
  split
  · simp
  · rename_i h0
    have hl := log2_le h0
    have hu := Nat.lt_log2_self (n := n)
    have hb : n.log2 ≤ 16 := by
      have := (Nat.log2_lt (k := 16) h0).2 (by omega); omega
    intro x hx
    have hp : 2 ^ (n.log2 + 1) = 2 * 2 ^ n.log2 := by rw [Nat.pow_succ, Nat.mul_comm]
    rw [hp] at hu
    generalize 2 ^ n.log2 = q at *
    simp only [List.mem_cons, List.not_mem_nil, or_false] at hx
    rcases hx with rfl | rfl | rfl <;> omega
theorem headL_in {n : Nat} (h : n ≤ 4096) : ∀ x ∈ headL n, 0 ≤ x ∧ x < 65536 := by
  intro x hx
  unfold headL at hx
  rcases List.mem_append.1 hx with hx | hx
  · simp only [List.mem_cons, List.not_mem_nil, or_false] at hx
    rcases hx with rfl | rfl | rfl | rfl | rfl | rfl <;> omega
  · exact threeP_in h x hx
theorem head_iff {p : List UInt8} {n : Nat} (hp : 18 ≤ p.length) (h : n ≤ 4096) : p.take 18 = shB (headL n) ↔ ∀ j, j < 9 → ((n2 p (2 * j) : Nat) : Int) = (headL n).getD j 0 := by
  have e := shB_segs (headL n) p (by rw [headL_len]; omega)
  rw [headL_len] at e
  rw [show 18 = 2 * 9 from rfl, e]
  have hin : ∀ j, j < 9 → 0 ≤ (headL n).getD j 0 ∧ (headL n).getD j 0 < 65536 := fun j hj => by
    have hj' : j < (headL n).length := by rw [headL_len]; exact hj
    rw [List.getD, List.getElem?_eq_getElem hj']
    exact headL_in h _ (List.getElem_mem hj')
  constructor
  · intro hh j hj
    have h1 := hh j hj
    rw [← seg2 (by omega)] at h1
    have h2 := put_inj (n2_lt _ _) (u16N_lt _) h1
    have := hin j hj
    rw [h2]; unfold u16N; omega
  · intro hh j hj
    rw [← seg2 (by omega)]
    have h1 := hh j hj
    have := hin j hj
    congr 1
    unfold u16N; omega
theorem c49 {l : List UInt8} {a : Nat} (h : a + 2 ≤ l.length) (hn : l.length ≤ 1000000) (H : Heap) : call env 49 [.str (mkS l), .int .i64 (a : Int)] H = some (.int .i64 (n2 l a : Nat), H) := by
  have h1 := c84 l a H hn
  have hc : cut l (a : Int) 2 = some ((l.drop a).take 2) := cut_all (n := 2) h
  have hlt := n2_lt l a
  rw [hc] at h1
  simp only [cutS, cutE, Option.getD_some, Option.isSome_some, if_true] at h1
  have hm : ((num ((l.drop a).take 2) % 65536 : Nat) : Int) = (n2 l a : Nat) := by unfold n2 at *; omega
  rw [hm] at h1
  have w1 : IntKind.i64.wrap ((n2 l a : Nat) : Int) = (n2 l a : Nat) := wrap_i64 (by omega) (by omega)
  refine call_ends (fn := s49) rfl rfl (by simp [s49]) ?_
  simp only [s49, R1, R2, R3, R4, R5, R6, R7, R8, AV.flat, fillIn_nil, fillIn_cons, splice, AV.cells, AV.one, eqsOf, idx, SO.calls, List.reduceReplicate, Nat.reduceBEq, Nat.reduceLT, Nat.reduceAdd, Nat.reduceMul, Nat.reduceSub, Nat.reduceLeDiff, Nat.reduceEqDiff, ↓reduceIte, Int.reduceLT, Int.reduceEq, Int.reduceBNe, Int.reduceBEq, aeq, Int.reduceLE, Int.reduceNeg, Int.reduceMul, Int.reduceAdd, Int.reduceSub, Int.reduceToNat, Int.reducePow, h1, w1]
  try rw [tidy_int]
theorem c50 {p : List UInt8} {a : Nat} (h : a + 2 ≤ p.length) (hp : p.length ≤ 1000000) (H : Heap) : call env 50 [.str (mkS p), .int .i64 (a : Int)] H = some (.int .i64 (sg16 (n2 p a)), H) := by
  have e1 := q_I16 (rd1_ok 135 H p) hp h
  simp only [RD, rd1] at e1
  refine call_ends (fn := s50) rfl rfl (by simp [s50]) ?_
  simp only [s50, R1, R2, R3, R4, R5, R6, R7, R8, AV.flat, fillIn_nil, fillIn_cons, splice, AV.cells, AV.one, eqsOf, idx, SO.calls, List.reduceReplicate, Nat.reduceBEq, Nat.reduceLT, Nat.reduceAdd, Nat.reduceMul, Nat.reduceSub, Nat.reduceLeDiff, Nat.reduceEqDiff, ↓reduceIte, Int.reduceLT, Int.reduceEq, Int.reduceBNe, Int.reduceBEq, aeq, Int.reduceLE, Int.reduceNeg, Int.reduceMul, Int.reduceAdd, Int.reduceSub, Int.reduceToNat, Int.reducePow, e1]
  try rw [tidy_int']
end Go.Proofs.Ytppkggodpihfiaa
