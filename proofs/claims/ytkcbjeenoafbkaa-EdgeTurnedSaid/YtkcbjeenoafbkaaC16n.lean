/- Chapter 16: EdgeMakes, in the machine; contours that come in. -/
import Derived.Test.YtkcbjeenoafbkaaC16m
import Derived.Test.YtkcbjeenoafbkaaDen38
set_option linter.unusedVariables false
set_option linter.unusedSimpArgs false
set_option maxRecDepth 100000
set_option maxHeartbeats 2000000
namespace Go.Proofs.Ytkcbjeenoafbkaa
open Go Go.Den
theorem from_one {px : Int} (h1 : 1 ≤ px) (h2 : px ≤ 128) : ∀ (l : List (List Point)) (k : Nat), (∀ c ∈ l, MayC c) → ∀ e ∈ edgesFrom px k l, One e
  | [], k, h, e, he => by simp [edgesFrom] at he
  | c :: r, k, h, e, he => by
    rw [edgesFrom] at he
    have hc := h c (by simp)
    rcases List.mem_append.1 he with he | he
    · exact (contour_one h1 h2 hc.1 hc.2 e he).1
    · exact from_one h1 h2 r (k + 1) (fun c hc => h c (by simp [hc])) e he
theorem edges_may {px : Int} {l : List (List Point)} (hm : MayG l) (h1 : 1 ≤ px) (h2 : px ≤ 128) : mayP (edgesFrom px 0 l) = true ∧ closedP (edgesFrom px 0 l) = true := by
  have hcl : closedP (edgesFrom px 0 l) = true := edges_closed fun c hc => ⟨(hm.2.2 c hc).1, fun j e he => (contour_one h1 h2 (hm.2.2 c hc).1 (hm.2.2 c hc).2 e he).2⟩
  refine ⟨?_, hcl⟩
  unfold mayP
  have hl := from_len (px := px) l 0
  have hs := hm.2.1
  rw [hcl, decide_eq_true (by omega), Bool.true_and, Bool.true_and, List.all_eq_true]
  exact fun e he => decide_eq_true (from_one h1 h2 l 0 hm.2.2 e he)
theorem edgesR_len (px : Int) (l : List (List Point)) : (EdgesR px l).1.length ≤ 8192 := by
  unfold EdgesR
  split
  · rename_i h
    have hl := from_len (px := px) l 0
    have hs := h.1.2.1
    show (edgesFrom px 0 l).length ≤ 8192
    omega
  · simp
theorem c3 {v : AV} {l : List (List Point)} (hs : LsOf [] 3 Point.cs v l) (hl : l.length ≤ 9223372036854775807) (px : Int) : ∃ H', call env 3 [v, .int .i64 px] [] = some (.bool true, H') := by
  have e0 := fun H => w13 H
  have e1 := c14 hs hl
  refine ⟨[], ?_⟩
  by_cases hf : FewL l
  · rw [decide_eq_true hf] at e1
    have hd : ∀ c ∈ l, c.length ≤ 1000000 := fun c hc => by have := hf.1 c hc; omega
    have q1 := c15 hs (by have := hf.2; omega) hd px
    have q2 := c16 (hs.app (newSl [] 80 8 Edge.cs (EdgesR px l).1).2) (by have := hf.2; omega) hd px
    have n1 := newSl_of (H := []) (e := 80) (l := (EdgesR px l).1) (fun a _ => edge_cel.size a) edge_cel.pos
    have n2 := newSl_of (H := [] ++ (newSl [] 80 8 Edge.cs (EdgesR px l).1).2) (e := 80) (l := (EdgesR px l).1) (fun a _ => edge_cel.size a) edge_cel.pos
    have hle := edgesR_len px l
    have n3 := n1.app (newSl ([] ++ (newSl [] 80 8 Edge.cs (EdgesR px l).1).2) 80 8 Edge.cs (EdgesR px l).1).2
    have q3 := c17 n3 n2 (by omega) (by omega)
    have q4 := c18 n3 (by omega)
    have q5 := c19 n3 (by omega)
    rw [decide_eq_true rfl] at q3
    by_cases hz : MayG l ∧ 1 ≤ px ∧ px ≤ 128
    · have hR : EdgesR px l = (edgesFrom px 0 l, 0) := if_pos hz
      have hmay := edges_may hz.1 hz.2.1 hz.2.2
      rw [hR] at q1 q2 q3 q4 q5
      simp only [hmay.1, hmay.2] at q4 q5
      simp only at q1 q2 q3
      generalize (newSl [] 80 8 Edge.cs (edgesFrom px 0 l)).1 = a at *
      generalize (newSl [] 80 8 Edge.cs (edgesFrom px 0 l)).2 = X1 at *
      generalize (newSl ([] ++ X1) 80 8 Edge.cs (edgesFrom px 0 l)).1 = b at *
      generalize (newSl ([] ++ X1) 80 8 Edge.cs (edgesFrom px 0 l)).2 = X2 at *
      simp only [List.nil_append] at q1 q2 q3 q4 q5
      refine call_ends (fn := s3) rfl rfl (by simp [s3]) ?_
      simp only [s3, R1, R2, R3, R4, R5, R6, R7, R8, AV.flat, fillIn_nil, fillIn_cons, splice, AV.cells, AV.one, eqsOf, idx, SO.calls, List.reduceReplicate, Nat.reduceBEq, Nat.reduceLT, Nat.reduceAdd, Nat.reduceMul, Nat.reduceSub, Nat.reduceLeDiff, Nat.reduceEqDiff, ↓reduceIte, Int.reduceLT, Int.reduceEq, Int.reduceBNe, Int.reduceBEq, aeq, Int.reduceLE, Int.reduceNeg, Int.reduceMul, Int.reduceAdd, Int.reduceSub, Int.reduceToNat, Int.reducePow, e0, e1, q1, q2, q3, q4, q5, bne_self_eq_false]
    · have hR : EdgesR px l = ([], 1) := if_neg hz
      rw [hR] at q1 q2 q3
      simp only at q1 q2 q3
      generalize (newSl [] 80 8 Edge.cs []).1 = a at *
      generalize (newSl [] 80 8 Edge.cs []).2 = X1 at *
      generalize (newSl ([] ++ X1) 80 8 Edge.cs []).1 = b at *
      generalize (newSl ([] ++ X1) 80 8 Edge.cs []).2 = X2 at *
      simp only [List.nil_append] at q1 q2 q3
      refine call_ends (fn := s3) rfl rfl (by simp [s3]) ?_
      simp only [s3, R1, R2, R3, R4, R5, R6, R7, R8, AV.flat, fillIn_nil, fillIn_cons, splice, AV.cells, AV.one, eqsOf, idx, SO.calls, List.reduceReplicate, Nat.reduceBEq, Nat.reduceLT, Nat.reduceAdd, Nat.reduceMul, Nat.reduceSub, Nat.reduceLeDiff, Nat.reduceEqDiff, ↓reduceIte, Int.reduceLT, Int.reduceEq, Int.reduceBNe, Int.reduceBEq, aeq, Int.reduceLE, Int.reduceNeg, Int.reduceMul, Int.reduceAdd, Int.reduceSub, Int.reduceToNat, Int.reducePow, e0, e1, q1, q2, q3]
  · rw [decide_eq_false hf] at e1
    refine call_ends (fn := s3) rfl rfl (by simp [s3]) ?_
    simp only [s3, R1, R2, R3, R4, R5, R6, R7, R8, AV.flat, fillIn_nil, fillIn_cons, splice, AV.cells, AV.one, eqsOf, idx, SO.calls, List.reduceReplicate, Nat.reduceBEq, Nat.reduceLT, Nat.reduceAdd, Nat.reduceMul, Nat.reduceSub, Nat.reduceLeDiff, Nat.reduceEqDiff, ↓reduceIte, Int.reduceLT, Int.reduceEq, Int.reduceBNe, Int.reduceBEq, aeq, Int.reduceLE, Int.reduceNeg, Int.reduceMul, Int.reduceAdd, Int.reduceSub, Int.reduceToNat, Int.reducePow, e0, e1]
theorem point_in {x : List AV} (h : Has (.agg [.int .i64, .int .i64, .bool]) x) : ∃ p : Point, x = p.cs := by
  simp only [Has] at h
  obtain ⟨c1, r, rfl, h1, h⟩ := has_cons h
  obtain ⟨c2, r, rfl, h2, h⟩ := has_cons h
  obtain ⟨c3, r, rfl, h3, h⟩ := has_cons h
  obtain rfl := has_nil h
  obtain ⟨x1, rfl, _⟩ := has_int h1
  obtain ⟨x2, rfl, _⟩ := has_int h2
  obtain ⟨x3, rfl⟩ := has_bool h3
  exact ⟨⟨x1, x2, x3⟩, rfl⟩
theorem points_in {v : AV} (H : Heap) (h : Has (.slice (.agg [.int .i64, .int .i64, .bool])) [v]) : ∃ l : List Point, SlOf H 3 Point.cs v l ∧ l.length ≤ maxLen := by
  obtain ⟨l, h1, _, h2⟩ := slice_in (H := H) (g := Point.cs) (ok := fun _ => True) h (by decide) (fun x hx => by
    obtain ⟨p, rfl⟩ := point_in hx
    exact ⟨p, rfl, trivial⟩) (fun a => rfl)
  exact ⟨l, h1, h2⟩
theorem choose_ls {H : Heap} : ∀ vs : List AV, (∀ w ∈ vs, ∃ l : List Point, SlOf H 3 Point.cs w l ∧ l.length ≤ maxLen) → ∃ ls : List (List Point), vs.length = ls.length ∧ ∀ i (h1 : i < vs.length) (h2 : i < ls.length), SlOf H 3 Point.cs vs[i] ls[i]
  | [], _ => ⟨[], rfl, fun i h1 => by simp at h1⟩
  | w :: vs, h => by
    obtain ⟨l, h1, _⟩ := h w (by simp)
    obtain ⟨ls, h2, h3⟩ := choose_ls vs fun w hw => h w (by simp [hw])
    refine ⟨l :: ls, by simp [h2], fun i a b => ?_⟩
    cases i with
    | zero => exact h1
    | succ i => exact h3 i (by simpa using a) (by simpa using b)
theorem lists_in {v : AV} (H : Heap) (h : Has (.slice (.slice (.agg [.int .i64, .int .i64, .bool]))) [v]) : ∃ ls : List (List Point), LsOf H 3 Point.cs v ls ∧ ls.length ≤ maxLen := by
  obtain ⟨vs, h1, h2, h3⟩ := slice_in (H := H) (g := One1) (ok := fun w => ∃ l : List Point, SlOf H 3 Point.cs w l ∧ l.length ≤ maxLen) h (by decide) (fun x hx => by
    have hx' := hx
    simp only [Has] at hx
    rcases hx with rfl | ⟨ls, rfl, _⟩
    · exact ⟨_, rfl, points_in H hx'⟩
    · exact ⟨_, rfl, points_in H hx'⟩) (fun a => rfl)
  obtain ⟨ls, h4, h5⟩ := choose_ls vs h2
  exact ⟨ls, ⟨vs, h1, h4, h5⟩, by omega⟩
end Go.Proofs.Ytkcbjeenoafbkaa
