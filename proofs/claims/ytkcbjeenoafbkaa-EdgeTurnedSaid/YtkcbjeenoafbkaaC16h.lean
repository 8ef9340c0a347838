/- Chapter 16: way. -/
import Derived.Test.YtkcbjeenoafbkaaC16g
set_option linter.unusedVariables false
set_option linter.unusedSimpArgs false
set_option maxRecDepth 100000
set_option maxHeartbeats 2000000
namespace Go.Proofs.Ytkcbjeenoafbkaa
open Go Go.Den
theorem slof_cell {α : Type} {H : Heap} {sz : Nat} {g : α → List AV} {v : AV} {l : List α} (h : SlOf H sz g v l) : v.cells = [v] ∧ v.one = true := by
  rcases h.kind with ⟨o, off, cap, row, h1, _⟩ | ⟨n, h1⟩ | ⟨h1, _⟩ <;> subst h1 <;> exact ⟨rfl, rfl⟩
def pv (c : List Point) (i : Nat) : Point := (c.take i).getLastD (lastP' c)
theorem pv_suc {c : List Point} {i : Nat} (h : i < c.length) : pv c (i + 1) = c[i] := by
  unfold pv; rw [List.take_succ_eq_append_getElem h, List.getLastD_eq_getLast?, List.getLast?_concat]; rfl
theorem pv_zero (c : List Point) : pv c 0 = lastP' c := rfl
theorem last_at {c : List Point} (h : 0 < c.length) : lastP' c = c[c.length - 1] := by
  unfold lastP'
  have hne : c ≠ [] := fun h0 => by rw [h0] at h; simp at h
  rw [List.getLastD_eq_getLast?, List.getLast?_eq_some_getLast hne, Option.getD_some, List.getLast_eq_getElem]
theorem pv_mem {c : List Point} (h : 0 < c.length) (i : Nat) : pv c i ∈ c := by
  unfold pv
  cases hx : c.take i with
  | nil => exact last_mem (fun h0 => by rw [h0] at h; simp at h)
  | cons p r =>
    have : (p :: r).getLastD (lastP' c) ∈ c.take i := by
      rw [hx, List.getLastD_eq_getLast?, List.getLast?_eq_some_getLast (List.cons_ne_nil p r)]
      exact List.getLast_mem _
    exact List.mem_of_mem_take this
def goT (px : Int) (c : List Point) (i : Nat) : List Node := goW px (lastP' c) (c.take i)
theorem goT_suc {px : Int} {c : List Point} {i : Nat} (h : i < c.length) : goT px c (i + 1) = goT px c i ++ stepN px (pv c i) c[i] := by
  unfold goT
  rw [List.take_succ_eq_append_getElem h, go_app]
  simp [goW, pv]
theorem goT_all (px : Int) (c : List Point) : goT px c c.length = W px c := by unfold goT W; rw [List.take_length]
def fstT (px : Int) (c : List Point) (i : Nat) : Int := match atN px (lastP' c) (c.take i) with | none => -1 | some k => k
theorem at_app (px : Int) : ∀ (last : Point) (x : List Point) (p : Point), atN px last (x ++ [p]) = match atN px last x with | some k => some k | none => if p.on then some (goW px last x).length else none
  | last, [], p => by cases h : p.on <;> simp [atN, goW, h]
  | last, q :: x, p => by
    simp only [List.cons_append, atN, at_app px q x p]
    by_cases hq : q.on = true
    · simp [hq]
    · simp only [hq, if_false]
      cases h1 : atN px q x with
      | some k => rfl
      | none =>
        cases hp : p.on
        · rfl
        · simp [goW, Nat.add_comm]
theorem fst_suc {px : Int} {c : List Point} {i : Nat} (h : i < c.length) : fstT px c (i + 1) = if fstT px c i < 0 ∧ c[i].on = true then ((goT px c i).length : Int) else fstT px c i := by
  unfold fstT goT
  rw [List.take_succ_eq_append_getElem h, at_app]
  cases atN px (lastP' c) (c.take i) with
  | some k =>
    have : ¬ ((k : Int) < 0 ∧ c[i].on = true) := fun h => by omega
    simp only [if_neg this]
  | none => cases c[i].on <;> simp
theorem fst_all {px : Int} {c : List Point} : max (fstT px c c.length) 0 = (atW px c : Nat) := by
  unfold fstT atW
  rw [List.take_length]
  cases atN px (lastP' c) c <;> simp
  omega
theorem node_own {e : TypeId} {H X : Heap} {k : Nat} {m : Node} (h : X[k]? = some (.cells m.cs e true)) : newOf (H ++ X) 3 (.sl (H.length + k) 0 1 3 (some 1)) = some ([m].flatMap Node.cs) := by
  simp only [newOf, acells, aload_end]
  simp only [aload, arow, h]
  simp [Node.cs]
theorem goT_len (px : Int) (c : List Point) (i : Nat) : (goT px c i).length ≤ 2 * c.length := by
  have h1 := (go_len px (lastP' c) (c.take i)).2
  have h2 : (c.take i).length ≤ c.length := by rw [List.length_take]; omega
  unfold goT; omega
/-- A step of the way, in the machine's heap: none between. -/
theorem push1 {e : TypeId} {H X : Heap} {A P : AO} {w : AV} {L : List Node} {m : Node} (h : Acc (H ++ [A]) (H ++ ([A] ++ X)) e 3 Node.cs w L) (hl : L.length ≤ 1000000) :
    ∃ X', X'.length = X.length ∧ aapp (H ++ (A :: (X ++ [P, .cells m.cs e true]))) e 3 w (.sl (H.length + (X.length + 2)) 0 1 3 (some 1)) = some (.sl (H.length + (X.length + 3)) 0 (L.length + 1) 3 none, H ++ (A :: (X' ++ [P, .cells m.cs e true, .cells ((L ++ [m]).flatMap Node.cs) e true]))) ∧
      ∀ A' : AO, Acc (H ++ [A']) (H ++ ([A'] ++ (X' ++ [P, .cells m.cs e true, .cells ((L ++ [m]).flatMap Node.cs) e true]))) e 3 Node.cs (.sl (H.length + (X.length + 3)) 0 (L.length + 1) 3 none) (L ++ [m]) := by
  obtain ⟨X', hX, hk⟩ := acc_kill h
  refine ⟨X', hX, ?_, fun A' => ?_⟩
  · have := own_app (H := H ++ ([A] ++ X)) (B := [P, .cells m.cs e true]) (m := [m]) (x := .sl (H.length + (X.length + 2)) 0 1 3 (some 1)) node_cel (acc_own h) (by simp) rfl (by
      have := @node_own e (H ++ ([A] ++ X)) [P, .cells m.cs e true] 1 m rfl
      rwa [show (H ++ ([A] ++ X)).length + 1 = H.length + (X.length + 2) by simp; omega] at this) (by simp; omega)
    rw [hk] at this
    simp only [List.append_assoc, List.cons_append, List.nil_append, List.length_append, List.length_cons, List.length_nil] at this
    rw [this]
    simp only [Nat.zero_add, show H.length + (X.length + 1) + (1 + 1) = H.length + (X.length + 3) by omega]
  · exact acc_at node_cel (o := X.length + 2) (by rw [List.getElem?_append_right (by omega), hX]; simp) (by simp) (by simp) (by simp; omega)
/-- A step with a node between. -/
theorem push2 {e : TypeId} {H X : Heap} {A P : AO} {w : AV} {L : List Node} {m m2 : Node} (h : Acc (H ++ [A]) (H ++ ([A] ++ X)) e 3 Node.cs w L) (hl : L.length ≤ 1000000) :
    ∃ X', X'.length = X.length ∧ aapp (H ++ (A :: (X ++ [P, .cells m.cs e true]))) e 3 w (.sl (H.length + (X.length + 2)) 0 1 3 (some 1)) = some (.sl (H.length + (X.length + 3)) 0 (L.length + 1) 3 none, H ++ (A :: (X' ++ [P, .cells m.cs e true, .cells ((L ++ [m]).flatMap Node.cs) e true]))) ∧
      aapp (H ++ (A :: (X' ++ [P, .cells m.cs e true, .cells ((L ++ [m]).flatMap Node.cs) e true, .cells m2.cs e true]))) e 3 (.sl (H.length + (X.length + 3)) 0 (L.length + 1) 3 none) (.sl (H.length + (X.length + 4)) 0 1 3 (some 1)) = some (.sl (H.length + (X.length + 5)) 0 (L.length + 2) 3 none, H ++ (A :: (X' ++ [P, .cells m.cs e true, .dead, .cells m2.cs e true, .cells ((L ++ [m, m2]).flatMap Node.cs) e true]))) ∧
      ∀ A' : AO, Acc (H ++ [A']) (H ++ ([A'] ++ (X' ++ [P, .cells m.cs e true, .dead, .cells m2.cs e true, .cells ((L ++ [m, m2]).flatMap Node.cs) e true]))) e 3 Node.cs (.sl (H.length + (X.length + 5)) 0 (L.length + 2) 3 none) (L ++ [m, m2]) := by
  obtain ⟨X', hX, h1, h2⟩ := push1 (P := P) (m := m) h hl
  refine ⟨X', hX, h1, ?_, fun A' => ?_⟩
  · have := own_app (H := H ++ ([A] ++ (X' ++ [P, .cells m.cs e true])) ++ [.cells ((L ++ [m]).flatMap Node.cs) e true]) (B := [.cells m2.cs e true]) (m := [m2]) (l := L ++ [m]) (v := .sl (H.length + (X.length + 3)) 0 (L.length + 1) 3 none) (x := .sl (H.length + (X.length + 4)) 0 1 3 (some 1)) node_cel
      (own_last (by simp; omega) (by simp)) (by simp) rfl (by
      have := @node_own e (H ++ ([A] ++ (X' ++ [P, .cells m.cs e true, .cells ((L ++ [m]).flatMap Node.cs) e true]))) [.cells m2.cs e true] 0 m2 rfl
      rw [show (H ++ ([A] ++ (X' ++ [P, .cells m.cs e true, .cells ((L ++ [m]).flatMap Node.cs) e true]))).length + 0 = H.length + (X.length + 4) by simp; omega] at this
      simpa using this) (by simp; omega)
    rw [kill_last (by simp; omega)] at this
    simp only [List.append_assoc, List.cons_append, List.nil_append, List.length_append, List.length_cons, List.length_nil] at this
    rw [this]
    simp only [hX, Nat.zero_add, show H.length + (X.length + (1 + 1) + 1) + 1 + 1 = H.length + (X.length + 5) by omega, Nat.add_assoc, Nat.reduceAdd]
  · exact acc_at node_cel (o := X.length + 4) (by rw [List.getElem?_append_right (by omega), hX]; simp) (by simp) (by simp) (by simp; omega)
theorem c77 {H : Heap} {v : AV} {c : List Point} (hs : SlOf H 3 Point.cs v c) (hc : c ≠ []) (hn : c.length ≤ 4096) (hf : ∀ p ∈ c, FarOk p) {px : Int} (p1 : 1 ≤ px) (p2 : px ≤ 128) :
    call env 77 [v, .int .i64 px] H = some (.sl H.length 0 (ringP (wayP px c)).length 3 none, H ++ [.cells ((ringP (wayP px c)).flatMap Node.cs) 125 true]) := by
  have e1 := hs.lenOf
  have hpos : 0 < c.length := List.length_pos_iff.2 hc
  have w1 : IntKind.i64.wrap ((c.length : Int) - 1) = ((c.length - 1 : Nat) : Int) := by rw [wrap_i64 (by omega) (by omega)]; omega
  have hl : c.length - 1 < c.length := by omega
  have E0 := hs.elem0 hl
  have k0 := last_at hpos
  rw [← k0] at E0
  simp only [Point.cs] at E0
  refine call_ends (fn := s77) rfl rfl (by simp [s77]) ?_
  simp only [s77, R1, R2, R3, R4, R5, R6, R7, R8, AV.flat, fillIn_nil, fillIn_cons, splice, AV.cells, AV.one, eqsOf, idx, SO.calls, List.reduceReplicate, Nat.reduceBEq, Nat.reduceLT, Nat.reduceAdd, Nat.reduceMul, Nat.reduceSub, Nat.reduceLeDiff, Nat.reduceEqDiff, ↓reduceIte, Int.reduceLT, Int.reduceEq, Int.reduceBNe, Int.reduceBEq, aeq, Int.reduceLE, Int.reduceNeg, Int.reduceMul, Int.reduceAdd, Int.reduceSub, Int.reduceToNat, Int.reducePow, e1, w1, E0]
  refine ends_loop (fun k t H' => t.length = 91 ∧ (t.getD 0 .undef = v ∧ t.getD 1 .undef = .int .i64 px ∧ t.getD 6 .undef = .ptr H.length 0 ∧ t.getD 16 .undef = v ∧ t.getD 17 .undef = .int .i64 (c.length : Int)) ∧ ∃ (i : Nat) (w : AV) (X : Heap), i ≤ c.length ∧ k = c.length - i ∧ t.getD 18 .undef = .int .i64 (i : Int) ∧ t.getD 5 .undef = w ∧ t.getD 7 .undef = .int .i64 (fstT px c i) ∧
    H' = H ++ ([.cells (pv c i).cs 40 true] ++ X) ∧ Acc (H ++ [.cells (pv c i).cs 40 true]) (H ++ ([.cells (pv c i).cs 40 true] ++ X)) 125 3 Node.cs w (goT px c i)) c.length ?_ ?_
  · simp only [R1, R2, R3, R4, R5, R6, R7, R8, AV.flat, fillIn_nil, fillIn_cons, splice, AV.cells, AV.one, eqsOf, idx, SO.calls, List.reduceReplicate, Nat.reduceBEq, Nat.reduceLT, Nat.reduceAdd, Nat.reduceMul, Nat.reduceSub, Nat.reduceLeDiff, Nat.reduceEqDiff, ↓reduceIte, Int.reduceLT, Int.reduceEq, Int.reduceBNe, Int.reduceBEq, aeq, Int.reduceLE, Int.reduceNeg, Int.reduceMul, Int.reduceAdd, Int.reduceSub, Int.reduceToNat, Int.reducePow]
    exact ⟨0, .nils, [], by omega, by omega, rfl, rfl, rfl, rfl, by rw [show goT px c 0 = [] from rfl]; simpa using Acc.start⟩
  · rintro k t _ ⟨g1, ⟨g2, g3, g4, g5, g6⟩, i, w, X, hi, rfl, g7, g8, g9, rfl, ha⟩
    rw [← tm_nil t]
    by_cases hci : i < c.length
    · have a1 : ((i : Int) < (c.length : Int)) = True := eq_true (by omega)
      have w2 : IntKind.i64.wrap ((i : Int) + 1) = ((i + 1 : Nat) : Int) := by rw [wrap_i64 (by omega) (by omega)]; rfl
      have Ei := hs.elem hci
      have hfp := hf _ (List.getElem_mem hci)
      have hfq := hf _ (pv_mem hpos i)
      have hgl := goT_len px c i
      have hgs := goT_suc (px := px) hci
      have hfs := fst_suc (px := px) hci
      have hps := pv_suc hci
      have el := (own_sl node_cel (acc_own ha)).lenOf
      generalize hq : pv c i = q at *
      generalize hp : c[i] = p at *
      obtain ⟨qx, qy, qo⟩ := q
      obtain ⟨x, y, po⟩ := p
      obtain ⟨f1, f2, f3, f4⟩ := hfp
      obtain ⟨f5, f6, f7, f8⟩ := hfq
      simp only at f1 f2 f3 f4 f5 f6 f7 f8
      have m0 := mul_le (a := px) (b := x + qx) (A := 128) (B := 65534) (by omega) (by omega) (by omega) (by omega)
      have m1 := mul_le (a := px) (b := y + qy) (A := 128) (B := 65534) (by omega) (by omega) (by omega) (by omega)
      have m2 := mul_le (a := 2 * px) (b := x) (A := 256) (B := 32767) (by omega) (by omega) (by omega) (by omega)
      have m3 := mul_le (a := 2 * px) (b := y) (A := 256) (B := 32767) (by omega) (by omega) (by omega) (by omega)
      have v1 := wrap_i64 (x := x + qx) (by omega) (by omega)
      have v2 := wrap_i64 (x := y + qy) (by omega) (by omega)
      have v3 := wrap_i64 (x := px * (x + qx)) (by omega) (by omega)
      have v4 := wrap_i64 (x := px * (y + qy)) (by omega) (by omega)
      have v5 := wrap_i64 (x := 2 * px) (by omega) (by omega)
      have v6 := wrap_i64 (x := 2 * px * x) (by omega) (by omega)
      have v7 := wrap_i64 (x := 2 * px * y) (by omega) (by omega)
      generalize hL : goT px c i = L at *
      generalize hL' : goT px c (i + 1) = L' at *
      by_cases hmid : po = false ∧ qo = false
      · obtain ⟨rfl, rfl⟩ := hmid
        obtain ⟨X', hX, b1, b2, b3⟩ := push2 (P := .cells [.int .i64 x, .int .i64 y, .bool false] 40 true) (m := midP px ⟨x, y, false⟩ ⟨qx, qy, false⟩) (m2 := nodeP px ⟨x, y, false⟩) ha (by omega)
        have hK := asK hX
        rw [show stepN px ⟨qx, qy, false⟩ ⟨x, y, false⟩ = [midP px ⟨x, y, false⟩ ⟨qx, qy, false⟩, nodeP px ⟨x, y, false⟩] from rfl] at hgs
        rw [← hgs] at b2 b3
        simp only [Bool.false_eq_true, and_false, if_false] at hfs
        generalize (L ++ [midP px ⟨x, y, false⟩ ⟨qx, qy, false⟩]).flatMap Node.cs = c1 at *
        generalize L'.flatMap Node.cs = c2 at *
        simp only [Point.cs, Node.cs, midP, nodeP, List.cons_append, List.nil_append] at Ei b1 b2 b3 ⊢
        simp only [R1, R2, R3, R4, R5, R6, R7, R8, AV.flat, fillIn_nil, fillIn_cons, splice, AV.cells, AV.one, eqsOf, idx, SO.calls, List.reduceReplicate, Nat.reduceBEq, Nat.reduceLT, Nat.reduceAdd, Nat.reduceMul, Nat.reduceSub, Nat.reduceLeDiff, Nat.reduceEqDiff, ↓reduceIte, Int.reduceLT, Int.reduceEq, Int.reduceBNe, Int.reduceBEq, aeq, Int.reduceLE, Int.reduceNeg, Int.reduceMul, Int.reduceAdd, Int.reduceSub, Int.reduceToNat, Int.reducePow, g1, g2, g3, g4, g5, g6, g7, g8, g9, a1, w2, Ei, v1, v2, v3, v4, v5, v6, v7, b1, b2, hK]
        refine ⟨_, by omega, i + 1, _, _, by omega, rfl, rfl, rfl, by rw [hfs], by rw [hps], ?_⟩
        rw [hL']
        exact b3 _
      · have hst : stepN px ⟨qx, qy, qo⟩ ⟨x, y, po⟩ = [nodeP px ⟨x, y, po⟩] := by unfold stepN; rw [if_neg hmid]; rfl
        obtain ⟨X', hX, b1, b3⟩ := push1 (P := .cells [.int .i64 x, .int .i64 y, .bool po] 40 true) (m := nodeP px ⟨x, y, po⟩) ha (by omega)
        have hK := asK hX
        rw [hst] at hgs
        rw [← hgs] at b1 b3
        generalize L'.flatMap Node.cs = c2 at *
        simp only [Point.cs, Node.cs, midP, nodeP, List.cons_append, List.nil_append] at Ei b1 b3 ⊢
        cases po
        · have hqo : qo = true := by cases qo; exact absurd ⟨rfl, rfl⟩ hmid; rfl
          subst hqo
          simp only [Bool.false_eq_true, and_false, if_false] at hfs
          simp only [R1, R2, R3, R4, R5, R6, R7, R8, AV.flat, fillIn_nil, fillIn_cons, splice, AV.cells, AV.one, eqsOf, idx, SO.calls, List.reduceReplicate, Nat.reduceBEq, Nat.reduceLT, Nat.reduceAdd, Nat.reduceMul, Nat.reduceSub, Nat.reduceLeDiff, Nat.reduceEqDiff, ↓reduceIte, Int.reduceLT, Int.reduceEq, Int.reduceBNe, Int.reduceBEq, aeq, Int.reduceLE, Int.reduceNeg, Int.reduceMul, Int.reduceAdd, Int.reduceSub, Int.reduceToNat, Int.reducePow, g1, g2, g3, g4, g5, g6, g7, g8, g9, a1, w2, Ei, v1, v2, v3, v4, v5, v6, v7, b1, hK]
          refine ⟨_, by omega, i + 1, _, _, by omega, rfl, rfl, rfl, by rw [hfs], by rw [hps], ?_⟩
          rw [hL']
          exact b3 _
        · by_cases hneg : fstT px c i < 0
          · rw [if_pos ⟨hneg, rfl⟩] at hfs
            simp only [R1, R2, R3, R4, R5, R6, R7, R8, AV.flat, fillIn_nil, fillIn_cons, splice, AV.cells, AV.one, eqsOf, idx, SO.calls, List.reduceReplicate, Nat.reduceBEq, Nat.reduceLT, Nat.reduceAdd, Nat.reduceMul, Nat.reduceSub, Nat.reduceLeDiff, Nat.reduceEqDiff, ↓reduceIte, Int.reduceLT, Int.reduceEq, Int.reduceBNe, Int.reduceBEq, aeq, Int.reduceLE, Int.reduceNeg, Int.reduceMul, Int.reduceAdd, Int.reduceSub, Int.reduceToNat, Int.reducePow, g1, g2, g3, g4, g5, g6, g7, g8, g9, a1, w2, Ei, v1, v2, v3, v4, v5, v6, v7, b1, hK, el, eq_true hneg]
            refine ⟨_, by omega, i + 1, _, _, by omega, rfl, rfl, rfl, by rw [hfs], by rw [hps], ?_⟩
            rw [hL']
            exact b3 _
          · rw [if_neg (fun h => hneg h.1)] at hfs
            simp only [R1, R2, R3, R4, R5, R6, R7, R8, AV.flat, fillIn_nil, fillIn_cons, splice, AV.cells, AV.one, eqsOf, idx, SO.calls, List.reduceReplicate, Nat.reduceBEq, Nat.reduceLT, Nat.reduceAdd, Nat.reduceMul, Nat.reduceSub, Nat.reduceLeDiff, Nat.reduceEqDiff, ↓reduceIte, Int.reduceLT, Int.reduceEq, Int.reduceBNe, Int.reduceBEq, aeq, Int.reduceLE, Int.reduceNeg, Int.reduceMul, Int.reduceAdd, Int.reduceSub, Int.reduceToNat, Int.reducePow, g1, g2, g3, g4, g5, g6, g7, g8, g9, a1, w2, Ei, v1, v2, v3, v4, v5, v6, v7, b1, hK, el, eq_false hneg]
            refine ⟨_, by omega, i + 1, _, _, by omega, rfl, rfl, rfl, by rw [hfs], by rw [hps], ?_⟩
            rw [hL']
            exact b3 _
    · have a1 : ((i : Int) < (c.length : Int)) = False := eq_false (by omega)
      obtain rfl : i = c.length := by omega
      rw [goT_all] at ha
      have hmx := fst_all (px := px) (c := c)
      have hown := own_sl node_cel (acc_own ha)
      obtain ⟨m, hm1, hm2⟩ := atW_on px hc
      have hlt := (List.getElem?_eq_some_iff.1 hm1).1
      generalize hat : atW px c = at' at *
      obtain ⟨s1, r1, r2, _, r3⟩ := slof_sub hown (i := at') (j := (W px c).length) (by omega) (by omega)
      obtain ⟨s2, r4, r5, r6, _⟩ := slof_sub hown (i := 0) (j := at') (by omega) (by omega)
      obtain ⟨s3, r7, r8, _, _⟩ := slof_sub hown (i := at') (j := at' + 1) (by omega) (by omega)
      have r3 := r3 rfl
      have r6 := r6 rfl
      have hring : ringP (wayP px c) = [(W px c).drop at', (W px c).take at', [(W px c)[at']]].flatten := by
        obtain ⟨d, hd⟩ : ∃ d, (W px c).drop at' = (W px c)[at'] :: d := ⟨_, List.drop_eq_getElem_cons hlt⟩
        unfold ringP wayP rotN
        rw [hat, hd]; simp
      have t1 : (W px c).drop at' = ((W px c).drop at').take ((W px c).length - at') := by rw [List.take_of_length_le (by rw [List.length_drop]; omega)]
      have t2 : (W px c).take at' = ((W px c).drop 0).take (at' - 0) := by simp
      have t3 : [(W px c)[at']] = ((W px c).drop at').take (at' + 1 - at') := by
        rw [List.drop_eq_getElem_cons hlt, show at' + 1 - at' = 1 by omega]; rfl
      rw [← t1] at r2
      rw [← t2] at r5
      rw [← t3] at r8
      have hWlen := (go_len px (lastP' c) c).2
      have hls : LsOf ((H ++ ([.cells (pv c c.length).cs 40 true] ++ X)) ++ [.cells ([s1, s2, s3].flatMap One1) 122 true]) 3 Node.cs (.sl (H ++ ([AO.cells (pv c c.length).cs 40 true] ++ X)).length 0 [s1, s2, s3].length 1 (some 3)) [(W px c).drop at', (W px c).take at', [(W px c)[at']]] := by
        refine ⟨[s1, s2, s3], SlOf.row (fun a _ => rfl) (by decide), rfl, fun i h1 h2 => ?_⟩
        match i, h1, h2 with
        | 0, _, _ => exact r2.app _
        | 1, _, _ => exact r5.app _
        | 2, _, _ => exact r8.app _
      have hflen : [(W px c).drop at', (W px c).take at', [(W px c)[at']]].flatten.length = (W px c).length + 1 := by simp; omega
      have q1 := concat_nodes hls (by simp) (by simp; omega) (by simp) (by rw [hflen]; unfold W; omega)
      rw [← hring] at q1 hflen
      have hrne : ringP (wayP px c) ≠ [] := fun h => by rw [h] at hflen; simp at hflen
      have w3 : IntKind.i64.wrap ((at' : Int) + 1) = ((at' + 1 : Nat) : Int) := by unfold W at hlt; rw [wrap_i64 (by omega) (by omega)]; rfl
      simp only [newSl, if_neg hrne] at q1
      have ti := @tidy_sl1 H (([AO.cells (pv c c.length).cs 40 true] ++ X) ++ [AO.cells ([s1, s2, s3].flatMap One1) 122 true, AO.cells ((ringP (wayP px c)).flatMap Node.cs) 125 true]) (X.length + 2) 0 (ringP (wayP px c)).length 3 none ((ringP (wayP px c)).flatMap Node.cs) 125 true (by rw [List.getElem?_append_right (by simp)]; simp) (by
        simp only [List.all_flatMap, List.all_eq_true]
        exact fun a _ => by simpa using node_cel.flat a) (by rw [flat_len fun a _ => node_cel.size a]; omega) (by decide)
      rw [List.drop_zero, List.take_of_length_le (by rw [flat_len fun a _ => node_cel.size a]; exact Nat.le_refl _)] at ti
      generalize (ringP (wayP px c)).flatMap Node.cs = row at *
      generalize (ringP (wayP px c)).length = rl at *
      generalize fstT px c c.length = ff at *
      have z1 := slof_cell r2
      have z2 := slof_cell r5
      have z3 := slof_cell r8
      simp only [AV.cells, AV.one] at z1 z2 z3
      simp only [List.flatMap_cons, List.flatMap_nil, One1, Point.cs, R1, R2, R3, R4, R5, R6, R7, R8, AV.flat, fillIn_nil, fillIn_cons, splice, AV.cells, AV.one, eqsOf, idx, SO.calls, List.reduceReplicate, Nat.reduceBEq, Nat.reduceLT, Nat.reduceAdd, Nat.reduceMul, Nat.reduceSub, Nat.reduceLeDiff, Nat.reduceEqDiff, ↓reduceIte, Int.reduceLT, Int.reduceEq, Int.reduceBNe, Int.reduceBEq, aeq, Int.reduceLE, Int.reduceNeg, Int.reduceMul, Int.reduceAdd, Int.reduceSub, Int.reduceToNat, Int.reducePow] at q1 ti ⊢
      simp only [Nat.add_assoc, Nat.reduceAdd] at q1
      have z4 : (H.length + (X.length + 1) ≤ H.length + (X.length + 1 + 1)) = True := eq_true (by omega)
      have z5 : (H.length + (X.length + 1 + 1) ≤ H.length + (X.length + 2 + 1)) = True := eq_true (by omega)
      simp only [R1, R2, R3, R4, R5, R6, R7, R8, AV.flat, fillIn_nil, fillIn_cons, splice, AV.cells, AV.one, eqsOf, idx, SO.calls, List.reduceReplicate, Nat.reduceBEq, Nat.reduceLT, Nat.reduceAdd, Nat.reduceMul, Nat.reduceSub, Nat.reduceLeDiff, Nat.reduceEqDiff, ↓reduceIte, Int.reduceLT, Int.reduceEq, Int.reduceBNe, Int.reduceBEq, aeq, Int.reduceLE, Int.reduceNeg, Int.reduceMul, Int.reduceAdd, Int.reduceSub, Int.reduceToNat, Int.reducePow, g1, g2, g3, g4, g5, g6, g7, g8, g9, a1, hmx, r3, r6, r7, w3, shun_un, veil_un, z1, z2, z3, z4, z5, q1, ti]
end Go.Proofs.Ytkcbjeenoafbkaa
