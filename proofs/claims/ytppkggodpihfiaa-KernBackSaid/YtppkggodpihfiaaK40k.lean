/- Chapter 40: Parse. -/
import Derived.Test.YtppkggodpihfiaaK40j
set_option linter.unusedVariables false
set_option linter.unusedSimpArgs false
set_option maxRecDepth 100000
set_option maxHeartbeats 4000000
namespace Go.Proofs.Ytppkggodpihfiaa
open Go Go.Den
theorem acc_sl {α : Type} {H H' : Heap} {e : TypeId} {sz : Nat} {g : α → List AV} {v : AV} {l : List α} (h : Acc H H' e sz g v l) (hp : 0 < sz) : SlOf H' sz g v l := by
  obtain ⟨X, rfl, hx⟩ := h.heap
  rcases hx with ⟨rfl, rfl⟩ | ⟨h0, o, rfl, h2⟩
  · exact SlOf.nils hp
  · have hf := flat_len h.size
    have hr : (H ++ X)[H.length + o]? = some (.cells (l.flatMap g) e true) := by rw [List.getElem?_append_right (by omega), Nat.add_sub_cancel_left]; exact h2
    refine ⟨rfl, h.size, hp, .inl ⟨_, 0, _, l.flatMap g, rfl, by simp [arow, hr], ?_, ?_⟩⟩
    · rw [List.drop_zero, List.take_of_length_le (by omega)]
    · omega
def rowK (p : List UInt8) (i : Nat) : Kn := ⟨(n2 p (18 + 6 * i) : Nat), (n2 p (20 + 6 * i) : Nat), sg16 (n2 p (22 + 6 * i))⟩
def rowsK (p : List UInt8) (n : Nat) : List Kn := (List.range n).map (rowK p)
theorem rowsK_len (p : List UInt8) (n : Nat) : (rowsK p n).length = n := by simp [rowsK]
theorem rowsK_succ (p : List UInt8) (n : Nat) : rowsK p (n + 1) = rowsK p n ++ [rowK p n] := by simp [rowsK, List.range_succ]
theorem rowsK_get (p : List UInt8) {n i : Nat} (h : i < n) : (rowsK p n).getD i zk = rowK p i := by rw [getK (by rw [rowsK_len]; exact h)]; simp [rowsK]
def risesR (p : List UInt8) (i : Nat) : Prop := i = 0 ∨ lessK (rowK p (i - 1)) (rowK p i)
instance (p : List UInt8) (i : Nat) : Decidable (risesR p i) := by unfold risesR; infer_instance
theorem rises_rows (p : List UInt8) {n i : Nat} (h : i < n) : risesP (rowsK p n) i ↔ risesR p i := by
  unfold risesP risesR; rw [rowsK_get p h, rowsK_get p (i := i - 1) (by omega)]
def okRow (p : List UInt8) (g : Int) (i : Nat) : Prop := ((rowK p i).l < g ∧ (rowK p i).r < g) ∧ risesR p i
open Classical in
noncomputable def parsK (p : List UInt8) (g : Int) : List Kn × Int :=
  if g < 1 ∨ g > 1024 then ([], 1)
  else if p.length < 18 then ([], 3)
  else if n2 p 10 > 4096 then ([], 6)
  else if p.take 18 ≠ shB (headL (n2 p 10)) then ([], 4)
  else if p.length < 18 + 6 * n2 p 10 then ([], 3)
  else if ∀ i, i < n2 p 10 → okRow p g i then (rowsK p (n2 p 10), 0) else ([], 4)
theorem c44 {l : List UInt8} {a : Nat} (h : a + 2 ≤ l.length) (hn : l.length ≤ 1000000) (H : Heap) : call env 44 [.str (mkS l), .int .i64 (a : Int)] H = some (.tup [.int .u16 (n2 l a : Nat), .int .i64 0], H) := by
  have h1 := c81 l a 2 H hn
  have hc : cut l (a : Int) 2 = some ((l.drop a).take 2) := cut_all (n := 2) h
  have h2 := c82 ((l.drop a).take 2) H (by rw [List.length_take]; omega)
  have h3 : IntKind.u16.wrap (n2 l a : Nat) = (n2 l a : Nat) := by have := n2_lt l a; rw [wrap_u16_mod]; omega
  rw [hc] at h1
  simp only [cutS, cutE, Option.getD_some, Option.isSome_some, if_true] at h1
  unfold n2 at h3 ⊢
  refine call_ends (fn := s44) rfl rfl (by simp [s44]) ?_
  simp only [s44, R1, R2, R3, R4, R5, R6, R7, R8, AV.flat, fillIn_nil, fillIn_cons, splice, AV.cells, AV.one, eqsOf, idx, SO.calls, List.reduceReplicate, Nat.reduceBEq, Nat.reduceLT, Nat.reduceAdd, Nat.reduceMul, Nat.reduceSub, Nat.reduceLeDiff, Nat.reduceEqDiff, ↓reduceIte, Int.reduceLT, Int.reduceEq, Int.reduceBNe, Int.reduceBEq, aeq, Int.reduceLE, Int.reduceNeg, Int.reduceMul, Int.reduceAdd, Int.reduceSub, Int.reduceToNat, Int.reducePow, h1, h2, h3]
  try rw [tidy_tup0 rfl]
def rd1 (e : TypeId) (H : Heap) (p : List UInt8) (a : Nat) : Heap := H ++ [.cells (RD p a false) e true]
theorem rd1_ok (e : TypeId) (H : Heap) (p : List UInt8) : RdrE e (rd1 e H p) H.length p (H.length + 1) := by
  refine ⟨fun a => ?_, fun a b => ?_, fun a => by simp [rd1]⟩
  · unfold rd1; rw [List.getElem?_append_right (by omega)]; simp
  · unfold rd1; rw [List.set_append_right _ _ (by omega)]; simp
theorem no_rows {P : AV × Heap → Prop} {H X : Heap} {l : List Kn} {c : Int} (hl : l = []) (h : ∀ v X, SlOf (H ++ X) 3 Kn.cs v l → P (.tup [v, .int .i64 c], H ++ X)) : P (tidy H (.tup [.nils, .int .i64 c]) (H ++ X)) := by
  rw [tidy_tup' (l := [.nils, .int .i64 c]) rfl]
  subst hl
  simpa using h .nils [] (SlOf.nils (by decide))
theorem no_rows0 {P : AV × Heap → Prop} {H : Heap} {l : List Kn} {c : Int} (hl : l = []) (h : ∀ v X, SlOf (H ++ X) 3 Kn.cs v l → P (.tup [v, .int .i64 c], H ++ X)) : P (.tup [.nils, .int .i64 c], H) := by
  subst hl
  simpa using h .nils [] (SlOf.nils (by decide))
theorem c17 {p : List UInt8} (hp : p.length ≤ 1000000) (g : Int) (H : Heap) :
    ∃ r, call env 17 [.str (mkS p), .int .i64 g] H = some r ∧ ∃ v X, r = (.tup [v, .int .i64 (parsK p g).2], H ++ X) ∧ SlOf (H ++ X) 3 Kn.cs v (parsK p g).1 := by
  refine call_endsE (fn := s17) rfl rfl (by simp [s17]) fun W hW => ?_
  have hW := fun v X h => hW _ ⟨v, X, rfl, h⟩
  unfold parsK at hW
  by_cases h1 : g < 1
  · rw [if_pos (Or.inl h1)] at hW
    simp only [s17, R1, R2, R3, R4, R5, R6, R7, R8, AV.flat, fillIn_nil, fillIn_cons, splice, AV.cells, AV.one, eqsOf, idx, SO.calls, List.reduceReplicate, Nat.reduceBEq, Nat.reduceLT, Nat.reduceAdd, Nat.reduceMul, Nat.reduceSub, Nat.reduceLeDiff, Nat.reduceEqDiff, ↓reduceIte, Int.reduceLT, Int.reduceEq, Int.reduceBNe, Int.reduceBEq, aeq, Int.reduceLE, Int.reduceNeg, Int.reduceMul, Int.reduceAdd, Int.reduceSub, Int.reduceToNat, Int.reducePow, eq_true h1, leftE_ret, got_some]
    exact no_rows0 rfl hW
  by_cases h2 : g > 1024
  · rw [if_pos (Or.inr h2)] at hW
    simp only [s17, R1, R2, R3, R4, R5, R6, R7, R8, AV.flat, fillIn_nil, fillIn_cons, splice, AV.cells, AV.one, eqsOf, idx, SO.calls, List.reduceReplicate, Nat.reduceBEq, Nat.reduceLT, Nat.reduceAdd, Nat.reduceMul, Nat.reduceSub, Nat.reduceLeDiff, Nat.reduceEqDiff, ↓reduceIte, Int.reduceLT, Int.reduceEq, Int.reduceBNe, Int.reduceBEq, aeq, Int.reduceLE, Int.reduceNeg, Int.reduceMul, Int.reduceAdd, Int.reduceSub, Int.reduceToNat, Int.reducePow, eq_false h1, eq_true h2, leftE_ret, got_some]
    exact no_rows0 rfl hW
  rw [if_neg (by omega)] at hW
  by_cases h3 : p.length < 18
  · have c3 : ((p.length : Int) < 18) = True := eq_true (by omega)
    rw [if_pos h3] at hW
    simp only [s17, R1, R2, R3, R4, R5, R6, R7, R8, AV.flat, fillIn_nil, fillIn_cons, splice, AV.cells, AV.one, eqsOf, idx, SO.calls, List.reduceReplicate, Nat.reduceBEq, Nat.reduceLT, Nat.reduceAdd, Nat.reduceMul, Nat.reduceSub, Nat.reduceLeDiff, Nat.reduceEqDiff, ↓reduceIte, Int.reduceLT, Int.reduceEq, Int.reduceBNe, Int.reduceBEq, aeq, Int.reduceLE, Int.reduceNeg, Int.reduceMul, Int.reduceAdd, Int.reduceSub, Int.reduceToNat, Int.reducePow, eq_false h1, eq_false h2, c3, leftE_ret, got_some]
    exact no_rows0 rfl hW
  rw [if_neg h3] at hW
  have c3 : ((p.length : Int) < 18) = False := eq_false (by omega)
  have e1 := fun H => c44 (l := p) (a := 10) (by omega) hp H
  have hn2 := n2_lt p 10
  have w1 : IntKind.i64.wrap ((n2 p 10 : Nat) : Int) = ((n2 p 10 : Nat) : Int) := wrap_i64 (by omega) (by omega)
  simp only [Int.cast_ofNat_Int] at e1
  by_cases h4 : n2 p 10 > 4096
  · have c4 : (((n2 p 10 : Nat) : Int) > 4096) = True := eq_true (by omega)
    rw [if_pos h4] at hW
    simp only [s17, R1, R2, R3, R4, R5, R6, R7, R8, AV.flat, fillIn_nil, fillIn_cons, splice, AV.cells, AV.one, eqsOf, idx, SO.calls, List.reduceReplicate, Nat.reduceBEq, Nat.reduceLT, Nat.reduceAdd, Nat.reduceMul, Nat.reduceSub, Nat.reduceLeDiff, Nat.reduceEqDiff, ↓reduceIte, Int.reduceLT, Int.reduceEq, Int.reduceBNe, Int.reduceBEq, aeq, Int.reduceLE, Int.reduceNeg, Int.reduceMul, Int.reduceAdd, Int.reduceSub, Int.reduceToNat, Int.reducePow, eq_false h1, eq_false h2, c3, e1, w1, c4, leftE_ret, got_some]
    exact no_rows0 rfl hW
  rw [if_neg h4] at hW
  have c4 : (((n2 p 10 : Nat) : Int) > 4096) = False := eq_false (by omega)
  have e2 := fun H => c35 (n := n2 p 10) (by omega) H
  have sl := fun H => slstr_hi (H := H) (l := p) (b := 18) (by omega)
  by_cases h5 : p.take 18 ≠ shB (headL (n2 p 10))
  · rw [if_pos h5] at hW
    have c5 : (p.take 18 != shB (headL (n2 p 10))) = true := by rw [bne_iff_ne]; exact h5
    generalize shB (headL (n2 p 10)) = A at *
    generalize n2 p 10 = n at *
    simp only [s17, R1, R2, R3, R4, R5, R6, R7, R8, AV.flat, fillIn_nil, fillIn_cons, splice, AV.cells, AV.one, eqsOf, idx, SO.calls, List.reduceReplicate, Nat.reduceBEq, Nat.reduceLT, Nat.reduceAdd, Nat.reduceMul, Nat.reduceSub, Nat.reduceLeDiff, Nat.reduceEqDiff, ↓reduceIte, Int.reduceLT, Int.reduceEq, Int.reduceBNe, Int.reduceBEq, aeq, Int.reduceLE, Int.reduceNeg, Int.reduceMul, Int.reduceAdd, Int.reduceSub, Int.reduceToNat, Int.reducePow, eq_false h1, eq_false h2, c3, e1, w1, c4, sl, e2, c5, leftE_ret, got_some]
    exact no_rows0 rfl hW
  rw [if_neg h5] at hW
  have h5 := Decidable.not_not.1 h5
  have c5 : (p.take 18 != shB (headL (n2 p 10))) = false := by rw [bne_eq_false_iff_eq]; exact h5
  generalize shB (headL (n2 p 10)) = A at *
  generalize n2 p 10 = n at *
  have w2 : IntKind.i64.wrap (6 * (n : Int)) = 6 * (n : Int) := wrap_i64 (by omega) (by omega)
  have w3 : IntKind.i64.wrap (18 + 6 * (n : Int)) = 18 + 6 * (n : Int) := wrap_i64 (by omega) (by omega)
  by_cases h6 : p.length < 18 + 6 * n
  · rw [if_pos h6] at hW
    have c6 : ((p.length : Int) < 18 + 6 * (n : Int)) = True := eq_true (by omega)
    simp only [s17, R1, R2, R3, R4, R5, R6, R7, R8, AV.flat, fillIn_nil, fillIn_cons, splice, AV.cells, AV.one, eqsOf, idx, SO.calls, List.reduceReplicate, Nat.reduceBEq, Nat.reduceLT, Nat.reduceAdd, Nat.reduceMul, Nat.reduceSub, Nat.reduceLeDiff, Nat.reduceEqDiff, ↓reduceIte, Int.reduceLT, Int.reduceEq, Int.reduceBNe, Int.reduceBEq, aeq, Int.reduceLE, Int.reduceNeg, Int.reduceMul, Int.reduceAdd, Int.reduceSub, Int.reduceToNat, Int.reducePow, eq_false h1, eq_false h2, c3, e1, w1, c4, sl, e2, c5, w2, w3, c6, leftE_ret, got_some]
    exact no_rows0 rfl hW
  rw [if_neg h6] at hW
  have c6 : ((p.length : Int) < 18 + 6 * (n : Int)) = False := eq_false (by omega)
  have e3 := fun H => c45 p H
  have e4 := r_Skip (rd1_ok 146 H p) hp (a := 0) (n := 18) (by omega)
  simp only [RD, rd1, Int.cast_ofNat_Int, Nat.zero_add] at e3 e4
  simp only [s17, R1, R2, R3, R4, R5, R6, R7, R8, AV.flat, fillIn_nil, fillIn_cons, splice, AV.cells, AV.one, eqsOf, idx, SO.calls, List.reduceReplicate, Nat.reduceBEq, Nat.reduceLT, Nat.reduceAdd, Nat.reduceMul, Nat.reduceSub, Nat.reduceLeDiff, Nat.reduceEqDiff, ↓reduceIte, Int.reduceLT, Int.reduceEq, Int.reduceBNe, Int.reduceBEq, aeq, Int.reduceLE, Int.reduceNeg, Int.reduceMul, Int.reduceAdd, Int.reduceSub, Int.reduceToNat, Int.reducePow, eq_false h1, eq_false h2, c3, e1, w1, c4, sl, e2, c5, w2, w3, c6, e3, e4]
  refine ends_loop (fun k t H' => t.length = 85 ∧ (t.getD 1 .undef = .int .i64 g ∧ t.getD 9 .undef = .ptr H.length 0 ∧ t.getD 51 .undef = .int .i64 (n : Int)) ∧
    ∃ (i : Nat) (X : Heap) (u : AV), i ≤ n ∧ k = n - i ∧ t.getD 52 .undef = .int .i64 (i : Int) ∧ t.getD 10 .undef = u ∧ H' = H ++ ([.cells (RD p (18 + 6 * i) false) 146 true] ++ X) ∧
    Acc (H ++ [.cells (RD p (18 + 6 * i) false) 146 true]) (H ++ ([.cells (RD p (18 + 6 * i) false) 146 true] ++ X)) 41 3 Kn.cs u (rowsK p i) ∧ ∀ j, j < i → okRow p g j) n ?_ ?_
  · simp only [R1, R2, R3, R4, R5, R6, R7, R8, AV.flat, fillIn_nil, fillIn_cons, splice, AV.cells, AV.one, eqsOf, idx, SO.calls, List.reduceReplicate, Nat.reduceBEq, Nat.reduceLT, Nat.reduceAdd, Nat.reduceMul, Nat.reduceSub, Nat.reduceLeDiff, Nat.reduceEqDiff, ↓reduceIte, Int.reduceLT, Int.reduceEq, Int.reduceBNe, Int.reduceBEq, aeq, Int.reduceLE, Int.reduceNeg, Int.reduceMul, Int.reduceAdd, Int.reduceSub, Int.reduceToNat, Int.reducePow]
    exact ⟨0, [], .nils, by omega, by omega, rfl, rfl, by simp [RD], by simpa [rowsK] using Acc.start, by simp⟩
  · rintro k t _ ⟨g1, ⟨g2, g3, g4⟩, i, X, u, hi, rfl, g5, g6, rfl, ha, hok⟩
    rw [← tm_nil t]
    by_cases hc : i < n
    · have a1 : ((i : Int) < (n : Int)) = True := eq_true (by omega)
      have w4 : IntKind.i64.wrap ((i : Int) + 1) = ((i + 1 : Nat) : Int) := by rw [wrap_i64 (by omega) (by omega)]; rfl
      have R := fun Y => (rd1_ok 146 H p).app Y
      have u1 := r_U16 (R X) hp (a := 18 + 6 * i) (by omega)
      have u2 := r_U16 (R X) hp (a := 20 + 6 * i) (by omega)
      have u3 := r_I16 (R (X ++ [.cells [.int .i64 (rowK p i).l, .int .i64 (rowK p i).r, .int .i64 0] 41 true])) hp (a := 22 + 6 * i) (by omega)
      rw [show 18 + 6 * i + 2 = 20 + 6 * i by omega] at u1
      rw [show 20 + 6 * i + 2 = 22 + 6 * i by omega] at u2
      rw [show 22 + 6 * i + 2 = 18 + 6 * (i + 1) by omega] at u3
      have x1 := n2_lt p (18 + 6 * i)
      have x2 := n2_lt p (20 + 6 * i)
      have x3 := sg16_in (n2 p (22 + 6 * i)) (n2_lt _ _)
      have v1 : IntKind.i64.wrap ((n2 p (18 + 6 * i) : Nat) : Int) = (n2 p (18 + 6 * i) : Nat) := wrap_i64 (by omega) (by omega)
      have v2 : IntKind.i64.wrap ((n2 p (20 + 6 * i) : Nat) : Int) = (n2 p (20 + 6 * i) : Nat) := wrap_i64 (by omega) (by omega)
      have v3 : IntKind.i64.wrap (sg16 (n2 p (22 + 6 * i))) = sg16 (n2 p (22 + 6 * i)) := wrap_i64 (by omega) (by omega)
      have hrow : rowK p i = ⟨(n2 p (18 + 6 * i) : Nat), (n2 p (20 + 6 * i) : Nat), sg16 (n2 p (22 + 6 * i))⟩ := rfl
      obtain ⟨X', hX, b1, b2⟩ := push_one (B := [.cells (RD p (18 + 6 * (i + 1)) false) 146 true]) kn_cel (Z := [.cells (rowK p i).cs 41 true]) (m := rowK p i) (p := H.length + (X.length + 2)) (acc_base ha rfl) (by rw [rowsK_len]; omega) (by simp; omega)
      have hj := b2 [.cells (RD p (18 + 6 * (i + 1)) false) 146 true] rfl
      have hX1 := asK hX
      rw [← rowsK_succ, rowsK_len] at b1 hj
      have hrs := c40 (acc_sl hj (by decide)) (i := i) (by rw [rowsK_len]; omega) (by rw [rowsK_len]; omega)
      have hdd : decide (risesP (rowsK p (i + 1)) i) = decide (risesR p i) := decide_eq_decide.2 (rises_rows p (Nat.lt_succ_self i))
      rw [hdd] at hrs
      have more : okRow p g i → ∀ j, j < i + 1 → okRow p g j := fun h j hj => by
        by_cases hji : j = i
        · subst hji; exact h
        · exact hok j (by omega)
      have bad : ¬ okRow p g i → ∀ v X, SlOf (H ++ X) 3 Kn.cs v [] → W (.tup [v, .int .i64 4], H ++ X) := fun h v X hs => by
        rw [if_neg (fun hh => h (hh i hc))] at hW; exact hW v X hs
      have hok2 : okRow p g i ↔ ((n2 p (18 + 6 * i) : Nat) < g ∧ (n2 p (20 + 6 * i) : Nat) < g) ∧ risesR p i := Iff.rfl
      rw [hrow] at u3 b1 hj hrs
      generalize hrk : rowsK p (i + 1) = L2 at *
      generalize L2.flatMap Kn.cs = c2 at *
      generalize ((n2 p (18 + 6 * i) : Nat) : Int) = y1 at *
      generalize ((n2 p (20 + 6 * i) : Nat) : Int) = y2 at *
      generalize sg16 (n2 p (22 + 6 * i)) = y3 at *
      simp only [rd1, RD, Kn.cs, Int.cast_ofNat_Int, List.cons_append, List.nil_append, List.append_assoc] at u1 u2 u3 b1 hj hrs ⊢
      by_cases d1 : max y1 y2 ≥ g
      · simp only [R1, R2, R3, R4, R5, R6, R7, R8, AV.flat, fillIn_nil, fillIn_cons, splice, AV.cells, AV.one, eqsOf, idx, SO.calls, List.reduceReplicate, Nat.reduceBEq, Nat.reduceLT, Nat.reduceAdd, Nat.reduceMul, Nat.reduceSub, Nat.reduceLeDiff, Nat.reduceEqDiff, ↓reduceIte, Int.reduceLT, Int.reduceEq, Int.reduceBNe, Int.reduceBEq, aeq, Int.reduceLE, Int.reduceNeg, Int.reduceMul, Int.reduceAdd, Int.reduceSub, Int.reduceToNat, Int.reducePow, g1, g2, g3, g4, g5, g6, a1, u1, u2, u3, v1, v2, v3, b1, hX1, eq_true d1, leftE_ret, got_some]
        exact no_rows rfl (bad fun h => by have := hok2.1 h; omega)
      by_cases d2 : risesR p i
      · rw [decide_eq_true d2] at hrs
        have hm := more (hok2.2 ⟨by omega, d2⟩)
        simp only [R1, R2, R3, R4, R5, R6, R7, R8, AV.flat, fillIn_nil, fillIn_cons, splice, AV.cells, AV.one, eqsOf, idx, SO.calls, List.reduceReplicate, Nat.reduceBEq, Nat.reduceLT, Nat.reduceAdd, Nat.reduceMul, Nat.reduceSub, Nat.reduceLeDiff, Nat.reduceEqDiff, ↓reduceIte, Int.reduceLT, Int.reduceEq, Int.reduceBNe, Int.reduceBEq, aeq, Int.reduceLE, Int.reduceNeg, Int.reduceMul, Int.reduceAdd, Int.reduceSub, Int.reduceToNat, Int.reducePow, g1, g2, g3, g4, g5, g6, a1, w4, u1, u2, u3, v1, v2, v3, b1, hX1, eq_false d1, hrs]
        exact ⟨_, by omega, i + 1, _, _, by omega, rfl, rfl, rfl, rfl, by rw [hrk]; exact hj, hm⟩
      · rw [decide_eq_false d2] at hrs
        simp only [R1, R2, R3, R4, R5, R6, R7, R8, AV.flat, fillIn_nil, fillIn_cons, splice, AV.cells, AV.one, eqsOf, idx, SO.calls, List.reduceReplicate, Nat.reduceBEq, Nat.reduceLT, Nat.reduceAdd, Nat.reduceMul, Nat.reduceSub, Nat.reduceLeDiff, Nat.reduceEqDiff, ↓reduceIte, Int.reduceLT, Int.reduceEq, Int.reduceBNe, Int.reduceBEq, aeq, Int.reduceLE, Int.reduceNeg, Int.reduceMul, Int.reduceAdd, Int.reduceSub, Int.reduceToNat, Int.reducePow, g1, g2, g3, g4, g5, g6, a1, w4, u1, u2, u3, v1, v2, v3, b1, hX1, eq_false d1, hrs, leftE_ret, got_some]
        exact no_rows rfl (bad fun h => d2 (hok2.1 h).2)
    · have a1 : ((i : Int) < (n : Int)) = False := eq_false (by omega)
      obtain rfl : i = n := by omega
      rw [if_pos hok] at hW
      have ti := (acc_wide ha).tidy2 (fun a _ => kn_cel.flat a) (r := [.int .i64 0]) rfl
      simp only [RD, List.cons_append, List.nil_append] at ti
      simp only [R1, R2, R3, R4, R5, R6, R7, R8, AV.flat, fillIn_nil, fillIn_cons, splice, AV.cells, AV.one, eqsOf, idx, SO.calls, List.reduceReplicate, Nat.reduceBEq, Nat.reduceLT, Nat.reduceAdd, Nat.reduceMul, Nat.reduceSub, Nat.reduceLeDiff, Nat.reduceEqDiff, ↓reduceIte, Int.reduceLT, Int.reduceEq, Int.reduceBNe, Int.reduceBEq, aeq, Int.reduceLE, Int.reduceNeg, Int.reduceMul, Int.reduceAdd, Int.reduceSub, Int.reduceToNat, Int.reducePow, g1, g2, g3, g4, g5, g6, a1, RD, List.cons_append, List.nil_append, leftE_ret, got_some]
      rw [ti]
      exact hW _ _ (newSl_of (fun a _ => kn_cel.size a) (by decide))
end Go.Proofs.Ytppkggodpihfiaa
