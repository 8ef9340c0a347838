/- Chapter 16: the reference's way. -/
import Derived.Test.YtkcbjeenoafbkaaC16j
set_option linter.unusedVariables false
set_option linter.unusedSimpArgs false
set_option maxRecDepth 100000
set_option maxHeartbeats 2000000
namespace Go.Proofs.Ytkcbjeenoafbkaa
open Go Go.Den
/-- The place of the point ahead, round the end. -/
def pr (n i : Nat) : Nat := (i + n - 1) % n
theorem pr_lt {n i : Nat} (h : i < n) : pr n i < n := Nat.mod_lt _ (by omega)
theorem pr_pv {c : List Point} {i : Nat} (h : i < c.length) : c[pr c.length i]'(pr_lt h) = pv c i := by
  cases i with
  | zero =>
    rw [pv_zero, last_at (by omega)]
    have : pr c.length 0 = c.length - 1 := by unfold pr; rw [Nat.zero_add, Nat.mod_eq_of_lt (by omega)]
    simp only [this]
  | succ i =>
    rw [pv_suc (by omega)]
    have : pr c.length (i + 1) = i := by
      unfold pr
      rw [show i + 1 + c.length - 1 = i + c.length by omega, Nat.add_mod_right, Nat.mod_eq_of_lt (by omega)]
    simp only [this]
theorem pr_int {n i : Nat} (h : i < n) (hn : n ≤ 1000000) : (((i + n - 1 : Nat) : Int)).tmod (n : Int) = (pr n i : Nat) := by
  unfold pr
  rw [Int.tmod_eq_emod_of_nonneg (by omega)]; omega
theorem at_sum {px : Int} : ∀ (last : Point) (c : List Point) (i : Nat), (∀ p ∈ c.take i, p.on = false) → i ≤ c.length → atN px last c = (atN px ((c.take i).getLastD last) (c.drop i)).map (· + (goW px last (c.take i)).length)
  | last, c, 0, _, _ => by simp [goW]
  | last, [], i + 1, _, h => by simp at h
  | last, p :: c, i + 1, h, hi => by
    have hp := h p (by simp)
    have h2 := at_sum (px := px) p c i (fun q hq => h q (by simp [hq])) (by simpa using hi)
    simp only [List.take_succ_cons, List.drop_succ_cons, atN, goW, List.length_append]
    rw [if_neg (by simp [hp]), h2, Option.map_map]
    have h3 : (p :: c.take i).getLastD last = (c.take i).getLastD p := by cases c.take i <;> simp [List.getLastD]
    rw [h3]
    congr 1
    funext k
    simp only [Function.comp]
    omega
theorem at_first {px : Int} {c : List Point} {i : Nat} (hi : i < c.length) (h : ∀ p ∈ c.take i, p.on = false) (hon : c[i].on = true) : atW px c = (goT px c i).length := by
  unfold atW goT
  rw [at_sum _ c i h (by omega), List.drop_eq_getElem_cons hi, atN, if_pos hon]; simp
theorem at_zero {px : Int} {c : List Point} (h : ∀ p ∈ c, p.on = false) : atW px c = 0 := by
  unfold atW
  have := at_sum (px := px) (lastP' c) c c.length (by rw [List.take_length]; exact h) (Nat.le_refl _)
  rw [List.drop_length, atN] at this
  rw [this]; rfl
theorem c104 {H : Heap} {v u : AV} {c : List Point} (hs : SlOf H 3 Point.cs v c) (hn : c.length ≤ 100000) {px : Int} : call env 104 [v, u] H = some (.int .i64 (atW px c : Nat), H) := by
  have e1 := hs.lenOf
  refine call_ends (fn := s104) rfl rfl (by simp [s104]) ?_
  simp only [s104, R1, R2, R3, R4, R5, R6, R7, R8, AV.flat, fillIn_nil, fillIn_cons, splice, AV.cells, AV.one, eqsOf, idx, SO.calls, List.reduceReplicate, Nat.reduceBEq, Nat.reduceLT, Nat.reduceAdd, Nat.reduceMul, Nat.reduceSub, Nat.reduceLeDiff, Nat.reduceEqDiff, ↓reduceIte, Int.reduceLT, Int.reduceEq, Int.reduceBNe, Int.reduceBEq, aeq, Int.reduceLE, Int.reduceNeg, Int.reduceMul, Int.reduceAdd, Int.reduceSub, Int.reduceToNat, Int.reducePow, e1]
  refine ends_loop (fun k t H' => t.length = 44 ∧ H = H' ∧ t.getD 0 .undef = v ∧ t.getD 6 .undef = .int .i64 (c.length : Int) ∧ ∃ i : Nat, i ≤ c.length ∧ k = c.length - i ∧ t.getD 7 .undef = .int .i64 (i : Int) ∧ t.getD 5 .undef = .int .i64 ((goT px c i).length : Int) ∧ ∀ p ∈ c.take i, p.on = false) c.length ?_ ?_
  · simp only [R1, R2, R3, R4, R5, R6, R7, R8, AV.flat, fillIn_nil, fillIn_cons, splice, AV.cells, AV.one, eqsOf, idx, SO.calls, List.reduceReplicate, Nat.reduceBEq, Nat.reduceLT, Nat.reduceAdd, Nat.reduceMul, Nat.reduceSub, Nat.reduceLeDiff, Nat.reduceEqDiff, ↓reduceIte, Int.reduceLT, Int.reduceEq, Int.reduceBNe, Int.reduceBEq, aeq, Int.reduceLE, Int.reduceNeg, Int.reduceMul, Int.reduceAdd, Int.reduceSub, Int.reduceToNat, Int.reducePow]
    exact ⟨0, by omega, by omega, rfl, rfl, by simp⟩
  · rintro k t _ ⟨g1, rfl, g2, g3, i, hi, rfl, g4, g5, g6⟩
    rw [← tm_nil t]
    by_cases hc : i < c.length
    · have a1 : ((i : Int) < (c.length : Int)) = True := eq_true (by omega)
      have w1 : IntKind.i64.wrap ((i : Int) + 1) = ((i + 1 : Nat) : Int) := by rw [wrap_i64 (by omega) (by omega)]; rfl
      have w2 : IntKind.i64.wrap ((i : Int) + (c.length : Int)) = ((i + c.length : Nat) : Int) := by rw [wrap_i64 (by omega) (by omega)]; rfl
      have w3 : IntKind.i64.wrap (((i + c.length : Nat) : Int) - 1) = ((i + c.length - 1 : Nat) : Int) := by rw [wrap_i64 (by omega) (by omega)]; omega
      have w4 := pr_int hc (by omega)
      have w5 : ((c.length : Int) = 0) = False := eq_false (by omega)
      have w6 : IntKind.i64.wrap ((pr c.length i : Nat) : Int) = (pr c.length i : Nat) := by have := pr_lt hc; rw [wrap_i64 (by omega) (by omega)]
      have E := hs.elem0 hc
      have F := hs.elem0 (pr_lt hc)
      rw [pr_pv hc] at F
      have hgs := goT_suc (px := px) hc
      have hgl := goT_len px c i
      have haf := at_first (px := px) hc g6
      have htk : ∀ p ∈ c.take (i + 1), p ∈ c.take i ∨ p = c[i] := fun p hp => by
        rw [List.take_succ_eq_append_getElem hc] at hp; exact (List.mem_append.1 hp).imp _root_.id List.mem_singleton.1
      generalize pv c i = q at *
      generalize c[i] = p at *
      obtain ⟨qx, qy, qo⟩ := q
      obtain ⟨x, y, po⟩ := p
      have v1 : IntKind.i64.wrap (((goT px c i).length : Int) + 1) = ((goT px c i).length + 1 : Nat) := by rw [wrap_i64 (by omega) (by omega)]; rfl
      have v2 : IntKind.i64.wrap ((((goT px c i).length + 1 : Nat) : Int) + 1) = ((goT px c i).length + 2 : Nat) := by rw [wrap_i64 (by omega) (by omega)]; rfl
      simp only [Point.cs] at E F
      cases po
      · have hall : ∀ p ∈ c.take (i + 1), p.on = false := fun p hp => by
          rcases htk p hp with h | rfl
          · exact g6 p h
          · rfl
        cases qo
        · have hl : (goT px c (i + 1)).length = (goT px c i).length + 2 := by rw [hgs]; simp [stepN]
          rw [← hl] at v2
          simp only [R1, R2, R3, R4, R5, R6, R7, R8, AV.flat, fillIn_nil, fillIn_cons, splice, AV.cells, AV.one, eqsOf, idx, SO.calls, List.reduceReplicate, Nat.reduceBEq, Nat.reduceLT, Nat.reduceAdd, Nat.reduceMul, Nat.reduceSub, Nat.reduceLeDiff, Nat.reduceEqDiff, ↓reduceIte, Int.reduceLT, Int.reduceEq, Int.reduceBNe, Int.reduceBEq, aeq, Int.reduceLE, Int.reduceNeg, Int.reduceMul, Int.reduceAdd, Int.reduceSub, Int.reduceToNat, Int.reducePow, g1, g2, g3, g4, g5, a1, w1, w2, w3, w4, w5, w6, E, F, v1, v2]
          exact ⟨_, by omega, i + 1, by omega, rfl, rfl, rfl, hall⟩
        · have hl : (goT px c (i + 1)).length = (goT px c i).length + 1 := by rw [hgs]; simp [stepN]
          rw [← hl] at v1
          simp only [R1, R2, R3, R4, R5, R6, R7, R8, AV.flat, fillIn_nil, fillIn_cons, splice, AV.cells, AV.one, eqsOf, idx, SO.calls, List.reduceReplicate, Nat.reduceBEq, Nat.reduceLT, Nat.reduceAdd, Nat.reduceMul, Nat.reduceSub, Nat.reduceLeDiff, Nat.reduceEqDiff, ↓reduceIte, Int.reduceLT, Int.reduceEq, Int.reduceBNe, Int.reduceBEq, aeq, Int.reduceLE, Int.reduceNeg, Int.reduceMul, Int.reduceAdd, Int.reduceSub, Int.reduceToNat, Int.reducePow, g1, g2, g3, g4, g5, a1, w1, w2, w3, w4, w5, w6, E, F, v1]
          exact ⟨_, by omega, i + 1, by omega, rfl, rfl, rfl, hall⟩
      · rw [haf rfl]
        simp only [R1, R2, R3, R4, R5, R6, R7, R8, AV.flat, fillIn_nil, fillIn_cons, splice, AV.cells, AV.one, eqsOf, idx, SO.calls, List.reduceReplicate, Nat.reduceBEq, Nat.reduceLT, Nat.reduceAdd, Nat.reduceMul, Nat.reduceSub, Nat.reduceLeDiff, Nat.reduceEqDiff, ↓reduceIte, Int.reduceLT, Int.reduceEq, Int.reduceBNe, Int.reduceBEq, aeq, Int.reduceLE, Int.reduceNeg, Int.reduceMul, Int.reduceAdd, Int.reduceSub, Int.reduceToNat, Int.reducePow, g1, g2, g3, g4, g5, a1, w1, w2, w3, w4, w5, w6, E, F, tidy_int]
    · have a1 : ((i : Int) < (c.length : Int)) = False := eq_false (by omega)
      obtain rfl : i = c.length := by omega
      rw [List.take_length] at g6
      rw [at_zero g6]
      simp only [R1, R2, R3, R4, R5, R6, R7, R8, AV.flat, fillIn_nil, fillIn_cons, splice, AV.cells, AV.one, eqsOf, idx, SO.calls, List.reduceReplicate, Nat.reduceBEq, Nat.reduceLT, Nat.reduceAdd, Nat.reduceMul, Nat.reduceSub, Nat.reduceLeDiff, Nat.reduceEqDiff, ↓reduceIte, Int.reduceLT, Int.reduceEq, Int.reduceBNe, Int.reduceBEq, aeq, Int.reduceLE, Int.reduceNeg, Int.reduceMul, Int.reduceAdd, Int.reduceSub, Int.reduceToNat, Int.reducePow, g1, g2, g3, g4, g5, a1, tidy_int, Int.cast_ofNat_Int]
theorem c103 {H : Heap} {w : AV} {L : List Node} (hs : SlOf H 3 Node.cs w L) {a : Nat} (ha : a < L.length) (hn : L.length ≤ 1000000) :
    call env 103 [w, .int .i64 (a : Int)] H = some (.sl H.length 0 (rotN L a).length 3 none, H ++ [.cells ((rotN L a).flatMap Node.cs) 129 true]) := by
  obtain ⟨s1, r1, r2, _, r3⟩ := slof_sub hs (i := a) (j := L.length) (by omega) (by omega)
  obtain ⟨s2, r4, r5, r6, _⟩ := slof_sub hs (i := 0) (j := a) (by omega) (by omega)
  have r3 := r3 rfl
  have r6 := r6 rfl
  have t1 : (L.drop a).take (L.length - a) = L.drop a := by rw [List.take_of_length_le (by rw [List.length_drop]; omega)]
  have t2 : (L.drop 0).take (a - 0) = L.take a := by simp
  rw [t1] at r2
  rw [t2] at r5
  have hlen : (rotN L a).length = L.length := by unfold rotN; rw [List.length_append, List.length_drop, List.length_take]; omega
  have hd : L.drop a ≠ [] := fun h => by have := congrArg List.length h; rw [List.length_drop] at this; simp at this; omega
  have hdl : (L.drop a).length = L.length - a := List.length_drop ..
  have p1 := @app_full _ (H ++ [.cells [] 129 true]) 129 3 Node.cs [] (L.drop a) H.length true s1 node_cel (by simp) hd r2.len (slof_new r2 _) (by simp; omega)
  simp only [List.nil_append, List.length_nil, Nat.zero_add] at p1
  have fl : ∀ l : List Node, (l.flatMap Node.cs).all AV.flat = true := fun l => by
    simp only [List.all_flatMap, List.all_eq_true]
    exact fun a _ => by simpa using node_cel.flat a
  have fn : ∀ l : List Node, (l.flatMap Node.cs).length = l.length * 3 := fun l => flat_len fun a _ => node_cel.size a
  by_cases h0 : a = 0
  · subst h0
    have hr : rotN L 0 = L := by unfold rotN; simp
    rw [hr]
    have p2 := app_nop (H := H ++ [.cells [] 129 true, .cells ((L.drop 0).flatMap Node.cs) 129 true]) (e := 129) (s := .sl (H.length + 1) 0 (L.drop 0).length 3 none) (x := s2) r5.len (slof_new r5 _) (.inr ⟨_, _, _, _, _, rfl⟩)
    have ti := @tidy_sl1 H [.cells [] 129 true, .cells (L.flatMap Node.cs) 129 true] 1 0 L.length 3 none (L.flatMap Node.cs) 129 true rfl (fl L) (by rw [fn]; omega) (by decide)
    rw [List.drop_zero, List.take_of_length_le (by rw [fn]; exact Nat.le_refl _)] at ti
    rw [List.drop_zero] at p1 p2
    simp only [R1, R2, R3, R4, R5, R6, R7, R8, AV.flat, fillIn_nil, fillIn_cons, splice, AV.cells, AV.one, eqsOf, idx, SO.calls, List.reduceReplicate, Nat.reduceBEq, Nat.reduceLT, Nat.reduceAdd, Nat.reduceMul, Nat.reduceSub, Nat.reduceLeDiff, Nat.reduceEqDiff, ↓reduceIte, Int.reduceLT, Int.reduceEq, Int.reduceBNe, Int.reduceBEq, aeq, Int.reduceLE, Int.reduceNeg, Int.reduceMul, Int.reduceAdd, Int.reduceSub, Int.reduceToNat, Int.reducePow] at p1 p2 ti
    generalize L.flatMap Node.cs = row at *
    refine call_ends (fn := s103) rfl rfl (by simp [s103]) ?_
    simp only [s103, R1, R2, R3, R4, R5, R6, R7, R8, AV.flat, fillIn_nil, fillIn_cons, splice, AV.cells, AV.one, eqsOf, idx, SO.calls, List.reduceReplicate, Nat.reduceBEq, Nat.reduceLT, Nat.reduceAdd, Nat.reduceMul, Nat.reduceSub, Nat.reduceLeDiff, Nat.reduceEqDiff, ↓reduceIte, Int.reduceLT, Int.reduceEq, Int.reduceBNe, Int.reduceBEq, aeq, Int.reduceLE, Int.reduceNeg, Int.reduceMul, Int.reduceAdd, Int.reduceSub, Int.reduceToNat, Int.reducePow, r3, r6, p1, p2, ti]
  · have hm : L.take a ≠ [] := fun h => by have := congrArg List.length h; rw [List.length_take, List.length_nil] at this; omega
    have p2 := own_app (H := (H ++ [.cells [] 129 true]) ++ [.cells ((L.drop a).flatMap Node.cs) 129 true]) (B := []) (v := .sl (H.length + 1) 0 (L.drop a).length 3 none) (l := L.drop a) (m := L.take a) (x := s2) node_cel (own_last (by simp) rfl) hm r5.len (by rw [List.append_nil, List.append_assoc]; exact slof_new r5 _) (by rw [List.length_drop, List.length_take]; omega)
    rw [kill_last (by simp)] at p2
    have hsum : (L.drop a).length + (L.take a).length = (rotN L a).length := by unfold rotN; rw [List.length_append]
    have hro : L.drop a ++ L.take a = rotN L a := rfl
    rw [hsum, hro] at p2
    have ti := @tidy_sl1 H [.cells [] 129 true, .dead, .cells ((rotN L a).flatMap Node.cs) 129 true] 2 0 (rotN L a).length 3 none ((rotN L a).flatMap Node.cs) 129 true rfl (fl _) (by rw [fn]; omega) (by decide)
    rw [List.drop_zero, List.take_of_length_le (by rw [fn]; exact Nat.le_refl _)] at ti
    simp only [R1, R2, R3, R4, R5, R6, R7, R8, AV.flat, fillIn_nil, fillIn_cons, splice, AV.cells, AV.one, eqsOf, idx, SO.calls, List.reduceReplicate, Nat.reduceBEq, Nat.reduceLT, Nat.reduceAdd, Nat.reduceMul, Nat.reduceSub, Nat.reduceLeDiff, Nat.reduceEqDiff, ↓reduceIte, Int.reduceLT, Int.reduceEq, Int.reduceBNe, Int.reduceBEq, aeq, Int.reduceLE, Int.reduceNeg, Int.reduceMul, Int.reduceAdd, Int.reduceSub, Int.reduceToNat, Int.reducePow] at p1 p2 ti
    generalize (rotN L a).flatMap Node.cs = row at *
    generalize (L.drop a).flatMap Node.cs = row1 at *
    generalize (rotN L a).length = rl at *
    refine call_ends (fn := s103) rfl rfl (by simp [s103]) ?_
    simp only [s103, R1, R2, R3, R4, R5, R6, R7, R8, AV.flat, fillIn_nil, fillIn_cons, splice, AV.cells, AV.one, eqsOf, idx, SO.calls, List.reduceReplicate, Nat.reduceBEq, Nat.reduceLT, Nat.reduceAdd, Nat.reduceMul, Nat.reduceSub, Nat.reduceLeDiff, Nat.reduceEqDiff, ↓reduceIte, Int.reduceLT, Int.reduceEq, Int.reduceBNe, Int.reduceBEq, aeq, Int.reduceLE, Int.reduceNeg, Int.reduceMul, Int.reduceAdd, Int.reduceSub, Int.reduceToNat, Int.reducePow, r3, r6, p1, p2, ti]
theorem c78 {H : Heap} {v : AV} {c : List Point} (hs : SlOf H 3 Point.cs v c) (hc : c ≠ []) (hn : c.length ≤ 4096) (hf : ∀ p ∈ c, FarOk p) {px : Int} (p1 : 1 ≤ px) (p2 : px ≤ 128) :
    call env 78 [v, .int .i64 px] H = some (.sl H.length 0 (wayP px c).length 3 none, H ++ [.cells ((wayP px c).flatMap Node.cs) 129 true]) := by
  have e1 := hs.lenOf
  have hpos : 0 < c.length := List.length_pos_iff.2 hc
  refine call_ends (fn := s78) rfl rfl (by simp [s78]) ?_
  simp only [s78, R1, R2, R3, R4, R5, R6, R7, R8, AV.flat, fillIn_nil, fillIn_cons, splice, AV.cells, AV.one, eqsOf, idx, SO.calls, List.reduceReplicate, Nat.reduceBEq, Nat.reduceLT, Nat.reduceAdd, Nat.reduceMul, Nat.reduceSub, Nat.reduceLeDiff, Nat.reduceEqDiff, ↓reduceIte, Int.reduceLT, Int.reduceEq, Int.reduceBNe, Int.reduceBEq, aeq, Int.reduceLE, Int.reduceNeg, Int.reduceMul, Int.reduceAdd, Int.reduceSub, Int.reduceToNat, Int.reducePow, e1]
  refine ends_loop (fun k t H' => t.length = 79 ∧ (t.getD 0 .undef = v ∧ t.getD 1 .undef = .int .i64 px ∧ t.getD 6 .undef = .int .i64 (c.length : Int)) ∧ ∃ (i : Nat) (w : AV) (X : Heap), i ≤ c.length ∧ k = c.length - i ∧ t.getD 7 .undef = .int .i64 (i : Int) ∧ t.getD 5 .undef = w ∧
    H' = H ++ X ∧ Acc (H ++ []) (H ++ ([] ++ X)) 129 3 Node.cs w (goT px c i)) c.length ?_ ?_
  · simp only [R1, R2, R3, R4, R5, R6, R7, R8, AV.flat, fillIn_nil, fillIn_cons, splice, AV.cells, AV.one, eqsOf, idx, SO.calls, List.reduceReplicate, Nat.reduceBEq, Nat.reduceLT, Nat.reduceAdd, Nat.reduceMul, Nat.reduceSub, Nat.reduceLeDiff, Nat.reduceEqDiff, ↓reduceIte, Int.reduceLT, Int.reduceEq, Int.reduceBNe, Int.reduceBEq, aeq, Int.reduceLE, Int.reduceNeg, Int.reduceMul, Int.reduceAdd, Int.reduceSub, Int.reduceToNat, Int.reducePow]
    exact ⟨0, .nils, [], by omega, by omega, rfl, rfl, (List.append_nil _).symm, by rw [show goT px c 0 = [] from rfl, List.append_nil]; exact Acc.start⟩
  · rintro k t _ ⟨g1, ⟨g2, g3, g4⟩, i, w, X, hi, rfl, g7, g8, rfl, ha⟩
    rw [← tm_nil t]
    by_cases hci : i < c.length
    · have a1 : ((i : Int) < (c.length : Int)) = True := eq_true (by omega)
      have w1 : IntKind.i64.wrap ((i : Int) + 1) = ((i + 1 : Nat) : Int) := by rw [wrap_i64 (by omega) (by omega)]; rfl
      have w2 : IntKind.i64.wrap ((i : Int) + (c.length : Int)) = ((i + c.length : Nat) : Int) := by rw [wrap_i64 (by omega) (by omega)]; rfl
      have w3 : IntKind.i64.wrap (((i + c.length : Nat) : Int) - 1) = ((i + c.length - 1 : Nat) : Int) := by rw [wrap_i64 (by omega) (by omega)]; omega
      have w4 := pr_int hci (by omega)
      have w5 : ((c.length : Int) = 0) = False := eq_false (by omega)
      have w6 : IntKind.i64.wrap ((pr c.length i : Nat) : Int) = (pr c.length i : Nat) := by have := pr_lt hci; rw [wrap_i64 (by omega) (by omega)]
      have Ei := hs.elem hci
      have F := hs.elem (pr_lt hci)
      rw [pr_pv hci] at F
      have hfp := hf _ (List.getElem_mem hci)
      have hfq := hf _ (pv_mem hpos i)
      have hgl := goT_len px c i
      have hgs := goT_suc (px := px) hci
      generalize hq : pv c i = q at *
      generalize hp : c[i] = p at *
      obtain ⟨qx, qy, qo⟩ := q
      obtain ⟨x, y, po⟩ := p
      obtain ⟨f1, f2, f3, f4⟩ := hfp
      obtain ⟨f5, f6, f7, f8⟩ := hfq
      simp only at f1 f2 f3 f4 f5 f6 f7 f8
      have m0 := mul_le (a := px) (b := x + qx) (A := 128) (B := 65534) (by omega) (by omega) (by omega) (by omega)
      have m1 := mul_le (a := px) (b := y + qy) (A := 128) (B := 65534) (by omega) (by omega) (by omega) (by omega)
      have m2 := mul_le (a := 2 * px) (b := x) (A := 256) (B := 32767) (by omega) (by omega) (by omega) (by omega)
      have m3 := mul_le (a := 2 * px) (b := y) (A := 256) (B := 32767) (by omega) (by omega) (by omega) (by omega)
      have v1 := wrap_i64 (x := x + qx) (by omega) (by omega)
      have v2 := wrap_i64 (x := y + qy) (by omega) (by omega)
      have v3 := wrap_i64 (x := px * (x + qx)) (by omega) (by omega)
      have v4 := wrap_i64 (x := px * (y + qy)) (by omega) (by omega)
      have v5 := wrap_i64 (x := 2 * px) (by omega) (by omega)
      have v6 := wrap_i64 (x := 2 * px * x) (by omega) (by omega)
      have v7 := wrap_i64 (x := 2 * px * y) (by omega) (by omega)
      generalize hL : goT px c i = L at *
      generalize hL' : goT px c (i + 1) = L' at *
      have hz : ∃ Z : Heap, Z = [.cells [.int .i64 x, .int .i64 y, .bool po] 40 true, .cells [.int .i64 qx, .int .i64 qy, .bool qo] 40 true] := ⟨_, rfl⟩
      obtain ⟨Z, hZ⟩ := hz
      by_cases hmid : po = false ∧ qo = false
      · obtain ⟨rfl, rfl⟩ := hmid
        obtain ⟨X', hX, b1, b2⟩ := push_one (Z := Z) (m := midP px ⟨x, y, false⟩ ⟨qx, qy, false⟩) (p := H.length + (X.length + 2)) node_cel ha (by omega) (by rw [hZ]; simp)
        have b2 := b2 [] rfl
        obtain ⟨X2, hX2, b3, b4⟩ := push_one (Z := []) (m := nodeP px ⟨x, y, false⟩) (p := H.length + (X.length + 4)) node_cel b2 (by simp; omega) (by rw [hZ]; simp; omega)
        have b4 := b4 [] rfl
        have hK := asK hX
        rw [show stepN px ⟨qx, qy, false⟩ ⟨x, y, false⟩ = [midP px ⟨x, y, false⟩ ⟨qx, qy, false⟩] ++ [nodeP px ⟨x, y, false⟩] from rfl, ← List.append_assoc] at hgs
        rw [← hgs] at b3 b4
        have hln : (L ++ [midP px ⟨x, y, false⟩ ⟨qx, qy, false⟩]).length = L.length + 1 := by simp
        rw [hln] at b3 b4
        generalize (L ++ [midP px ⟨x, y, false⟩ ⟨qx, qy, false⟩]).flatMap Node.cs = c1 at *
        generalize L'.flatMap Node.cs = c2 at *
        subst hZ
        simp only [Point.cs, Node.cs, midP, nodeP, List.cons_append, List.nil_append, List.append_nil, List.append_assoc] at Ei F b1 b3 b4 ⊢
        simp only [R1, R2, R3, R4, R5, R6, R7, R8, AV.flat, fillIn_nil, fillIn_cons, splice, AV.cells, AV.one, eqsOf, idx, SO.calls, List.reduceReplicate, Nat.reduceBEq, Nat.reduceLT, Nat.reduceAdd, Nat.reduceMul, Nat.reduceSub, Nat.reduceLeDiff, Nat.reduceEqDiff, ↓reduceIte, Int.reduceLT, Int.reduceEq, Int.reduceBNe, Int.reduceBEq, aeq, Int.reduceLE, Int.reduceNeg, Int.reduceMul, Int.reduceAdd, Int.reduceSub, Int.reduceToNat, Int.reducePow, g1, g2, g3, g4, g7, g8, a1, w1, w2, w3, w4, w5, w6, Ei, F, v1, v2, v3, v4, v5, v6, v7, b1, b3, hK]
        refine ⟨_, by omega, i + 1, _, _, by omega, rfl, rfl, rfl, rfl, ?_⟩
        rw [hL']
        exact b4
      · have hst : stepN px ⟨qx, qy, qo⟩ ⟨x, y, po⟩ = [nodeP px ⟨x, y, po⟩] := by unfold stepN; rw [if_neg hmid]; rfl
        obtain ⟨X', hX, b1, b2⟩ := push_one (Z := Z) (m := nodeP px ⟨x, y, po⟩) (p := H.length + (X.length + 2)) node_cel ha (by omega) (by rw [hZ]; simp)
        have b2 := b2 [] rfl
        rw [hst] at hgs
        rw [← hgs] at b1 b2
        generalize L'.flatMap Node.cs = c2 at *
        subst hZ
        simp only [Point.cs, Node.cs, midP, nodeP, List.cons_append, List.nil_append, List.append_nil, List.append_assoc] at Ei F b1 b2 ⊢
        cases po
        · have hqo : qo = true := by cases qo; exact absurd ⟨rfl, rfl⟩ hmid; rfl
          subst hqo
          simp only [R1, R2, R3, R4, R5, R6, R7, R8, AV.flat, fillIn_nil, fillIn_cons, splice, AV.cells, AV.one, eqsOf, idx, SO.calls, List.reduceReplicate, Nat.reduceBEq, Nat.reduceLT, Nat.reduceAdd, Nat.reduceMul, Nat.reduceSub, Nat.reduceLeDiff, Nat.reduceEqDiff, ↓reduceIte, Int.reduceLT, Int.reduceEq, Int.reduceBNe, Int.reduceBEq, aeq, Int.reduceLE, Int.reduceNeg, Int.reduceMul, Int.reduceAdd, Int.reduceSub, Int.reduceToNat, Int.reducePow, g1, g2, g3, g4, g7, g8, a1, w1, w2, w3, w4, w5, w6, Ei, F, v1, v2, v3, v4, v5, v6, v7, b1]
          refine ⟨_, by omega, i + 1, _, _, by omega, rfl, rfl, rfl, rfl, ?_⟩
          rw [hL']
          exact b2
        · simp only [R1, R2, R3, R4, R5, R6, R7, R8, AV.flat, fillIn_nil, fillIn_cons, splice, AV.cells, AV.one, eqsOf, idx, SO.calls, List.reduceReplicate, Nat.reduceBEq, Nat.reduceLT, Nat.reduceAdd, Nat.reduceMul, Nat.reduceSub, Nat.reduceLeDiff, Nat.reduceEqDiff, ↓reduceIte, Int.reduceLT, Int.reduceEq, Int.reduceBNe, Int.reduceBEq, aeq, Int.reduceLE, Int.reduceNeg, Int.reduceMul, Int.reduceAdd, Int.reduceSub, Int.reduceToNat, Int.reducePow, g1, g2, g3, g4, g7, g8, a1, w1, w2, w3, w4, w5, w6, Ei, F, v1, v2, v3, v4, v5, v6, v7, b1]
          refine ⟨_, by omega, i + 1, _, _, by omega, rfl, rfl, rfl, rfl, ?_⟩
          rw [hL']
          exact b2
    · have a1 : ((i : Int) < (c.length : Int)) = False := eq_false (by omega)
      obtain rfl : i = c.length := by omega
      rw [goT_all] at ha
      have hown := own_sl node_cel (acc_own ha)
      simp only [List.append_nil, List.nil_append] at hown
      obtain ⟨m, hm1, hm2⟩ := atW_on px hc
      have hlt := (List.getElem?_eq_some_iff.1 hm1).1
      have hWl := (go_len px (lastP' c) c).2
      have q1 := c104 (u := w) (px := px) (hs.app X) (by omega)
      have q2 := c103 hown hlt (by unfold W; omega)
      rw [show rotN (W px c) (atW px c) = wayP px c from rfl] at q2
      have fn : ((wayP px c).flatMap Node.cs).length = (wayP px c).length * 3 := flat_len fun a _ => node_cel.size a
      have ti := @tidy_sl1 H (X ++ [.cells ((wayP px c).flatMap Node.cs) 129 true]) X.length 0 (wayP px c).length 3 none ((wayP px c).flatMap Node.cs) 129 true (by simp) (by
        simp only [List.all_flatMap, List.all_eq_true]
        exact fun a _ => by simpa using node_cel.flat a) (by rw [fn]; omega) (by decide)
      rw [List.drop_zero, List.take_of_length_le (by rw [fn]; exact Nat.le_refl _)] at ti
      generalize (wayP px c).flatMap Node.cs = row at *
      generalize (wayP px c).length = rl at *
      simp only [R1, R2, R3, R4, R5, R6, R7, R8, AV.flat, fillIn_nil, fillIn_cons, splice, AV.cells, AV.one, eqsOf, idx, SO.calls, List.reduceReplicate, Nat.reduceBEq, Nat.reduceLT, Nat.reduceAdd, Nat.reduceMul, Nat.reduceSub, Nat.reduceLeDiff, Nat.reduceEqDiff, ↓reduceIte, Int.reduceLT, Int.reduceEq, Int.reduceBNe, Int.reduceBEq, aeq, Int.reduceLE, Int.reduceNeg, Int.reduceMul, Int.reduceAdd, Int.reduceSub, Int.reduceToNat, Int.reducePow] at q2 ti
      simp only [R1, R2, R3, R4, R5, R6, R7, R8, AV.flat, fillIn_nil, fillIn_cons, splice, AV.cells, AV.one, eqsOf, idx, SO.calls, List.reduceReplicate, Nat.reduceBEq, Nat.reduceLT, Nat.reduceAdd, Nat.reduceMul, Nat.reduceSub, Nat.reduceLeDiff, Nat.reduceEqDiff, ↓reduceIte, Int.reduceLT, Int.reduceEq, Int.reduceBNe, Int.reduceBEq, aeq, Int.reduceLE, Int.reduceNeg, Int.reduceMul, Int.reduceAdd, Int.reduceSub, Int.reduceToNat, Int.reducePow, g1, g2, g3, g4, g7, g8, a1, q1, q2, ti]
end Go.Proofs.Ytkcbjeenoafbkaa
