/- Builders in rows of whatever whole type, whose buffers may be frozen: WriteString, String. -/
import Derived.Test.YtppkggodpihfiaaEnv
import Derived.Test.YtppkggodpihfiaaDen39
set_option linter.unusedVariables false
set_option linter.unusedSimpArgs false
set_option maxRecDepth 100000
set_option maxHeartbeats 1000000
namespace Go.Den
section
variable {cl : CL} {t : List AV} {H : Heap}
def sdataOf (x : AV) (H : Heap) : Option (AV × Heap) :=
  match x with
  | .nils => some (.nilp, H)
  | .sl o off len _ _ => if len = 0 then none else some (.ptr o off, H)
  | _ => none
def ustrOf (e : TypeId) (p n : AV) (H : Heap) : Option (AV × Heap) :=
  match p, n with
  | .nilp, .int .i64 m => if m = 0 then some (.str ⟨#[]⟩, H) else none
  | .ptr o off, .int .i64 m =>
    match H[o]? with
    | some (.cells l e' _) =>
      if e' = e ∧ 0 < m ∧ m ≤ 9223372036854775807 ∧ off + m.toNat ≤ l.length then (bytesOf ((l.drop off).take m.toNat)).map fun b => (.str ⟨b.toArray⟩, H.set o (.cells l e' false)) else none
    | _ => none
  | _, _ => none
theorem sop_sdata {x : SX} : sop cl t H (.sdata x) = sdataOf (evx t x) H := _root_.id rfl
theorem sop_ustr {e : TypeId} {p n : SX} : sop cl t H (.ustr e p n) = ustrOf e (evx t p) (evx t n) H := _root_.id rfl
theorem sdata_nils : sdataOf .nils H = some (.nilp, H) := _root_.id rfl
theorem sdata_sl {o off len sz : Nat} {c : Option Nat} (h : len ≠ 0) : sdataOf (.sl o off len sz c) H = some (.ptr o off, H) := if_neg h
theorem ustr_nil {e : TypeId} : ustrOf e .nilp (.int .i64 0) H = some (.str ⟨#[]⟩, H) := _root_.id rfl
theorem bytes_back : ∀ l : List UInt8, bytesOf (l.map fun b => AV.int .u8 (b.toNat : Int)) = some l
  | [] => rfl
  | b :: l => by simp [bytesOf, bytes_back l]
theorem ustr_row {e : TypeId} {o : Nat} {l : List UInt8} {w : Bool} (h : H[o]? = some (.cells (l.map fun b => AV.int .u8 (b.toNat : Int)) e w)) (h0 : l ≠ []) (hl : l.length ≤ 1000000) :
    ustrOf e (.ptr o 0) (.int .i64 (l.length : Int)) H = some (.str (mkS l), H.set o (.cells (l.map fun b => AV.int .u8 (b.toNat : Int)) e false)) := by
  have h1 : 0 < l.length := List.length_pos_iff.2 h0
  simp only [ustrOf, h]
  rw [if_pos ⟨trivial, by omega, by omega, by simp⟩, List.drop_zero, Int.toNat_natCast, List.take_of_length_le (by simp), bytes_back]
  rfl
end
end Go.Den
namespace Go.Proofs.Ytppkggodpihfiaa
open Go Go.Den
theorem app_none {H : Heap} {v : AV} (hv : v = .nils ∨ ∃ o off len sz c, v = .sl o off len sz c) : aapp H 5 1 v (.str (mkS [])) = some (v, H) := by
  rcases hv with rfl | ⟨o, off, len, sz, c, rfl⟩
  · rfl
  · rfl
theorem str_u8s (l : List UInt8) : strCells (mkS l) = u8s l := rfl
theorem alen_str (l : List UInt8) : alen (.str (mkS l)) = some l.length := by simp [alen, mkS, ByteArray.size]
/-- A builder's buffer that grows. -/
theorem app_nils {H : Heap} {s : List UInt8} (hs : s ≠ []) (hl : s.length ≤ 1000000) : aapp H 5 1 .nils (.str (mkS s)) = some (.sl H.length 0 s.length 1 none, H ++ [.cells (u8s s) 5 true]) := by
  have h0 : ¬ s.length = 0 := fun h => hs (List.length_eq_zero_iff.1 h)
  have hr : roomy s.length = true := by simp [roomy]; omega
  simp only [aapp, alen_str, newOf, if_true, str_u8s, if_neg h0, u8s_len, Nat.mul_one, u8s_one, and_self, hr]
theorem app_row {H : Heap} {o : Nat} {bs s : List UInt8} {w : Bool} (h : H[o]? = some (.cells (u8s bs) 5 w)) (hs : s ≠ []) (hl : bs.length + s.length ≤ 1000000) :
    aapp H 5 1 (.sl o 0 bs.length 1 none) (.str (mkS s)) = some (.sl H.length 0 (bs ++ s).length 1 none, H.set o .dead ++ [.cells (u8s (bs ++ s)) 5 w]) := by
  have h0 : ¬ s.length = 0 := fun h => hs (List.length_eq_zero_iff.1 h)
  have hr : roomy (bs.length + s.length) = true := by simp [roomy]; omega
  have hc : List.take bs.length (u8s bs) ++ u8s s = u8s (bs ++ s) := by rw [List.take_of_length_le (by rw [u8s_len]; omega)]; simp [u8s]
  have ha : appf = true := rfl
  cases w
  · simp only [aapp, alen_str, newOf, if_true, str_u8s, if_neg h0, u8s_len, Nat.mul_one, u8s_one, and_self, hr, h, Nat.zero_add, Nat.le_refl, List.drop_zero, hc, List.length_append, ha, Bool.false_eq_true, if_false]
  · simp only [aapp, alen_str, newOf, if_true, str_u8s, if_neg h0, u8s_len, Nat.mul_one, u8s_one, and_self, hr, h, Nat.zero_add, Nat.le_refl, List.drop_zero, hc, List.length_append]
theorem tidy_led {H H1 : Heap} {v : AV} (h : keepOld H.length H H1 = false) : tidy H v H1 = (v, H1) := by
  unfold tidy; rw [h]; rfl
theorem keep_no {n : Nat} : ∀ (H H1 : Heap) (i : Nat) (a b : AO), H[i]? = some a → H1[i]? = some b → a.same b = false → b.under n = false → keepOld n H H1 = false
  | [], _, i, a, b, h, _, _, _ => by simp at h
  | x :: H, [], i, a, b, _, h, _, _ => by simp at h
  | x :: H, y :: H1, 0, a, b, h, h1, h2, h3 => by
    simp only [List.getElem?_cons_zero, Option.some.injEq] at h h1
    subst h h1
    simp [keepOld, h2, h3]
  | x :: H, y :: H1, i + 1, a, b, h, h1, h2, h3 => by
    simp only [List.getElem?_cons_succ] at h h1
    simp [keepOld, keep_no H H1 i a b h h1 h2 h3]
theorem at0 {K Z : Heap} {x : AO} : (K ++ x :: Z)[K.length]? = some x := by
  rw [List.getElem?_append_right (Nat.le_refl _), Nat.sub_self]; rfl
theorem atk {K Z : Heap} {x : AO} {k : Nat} : (K ++ x :: Z)[K.length + (k + 1)]? = Z[k]? := by
  rw [List.getElem?_append_right (by omega), Nat.add_sub_cancel_left]; rfl
theorem setk {K Z : Heap} {x y : AO} {k : Nat} : (K ++ x :: Z).set (K.length + (k + 1)) y = K ++ x :: Z.set k y := by
  rw [List.set_append_right _ _ (by omega), Nat.add_sub_cancel_left]; rfl
/-- A builder behind K, first of the rows R, in a row of type e, that holds so many bytes. -/
def Bl (e : TypeId) (K R : Heap) (bs : List UInt8) : Prop :=
  whole e = true ∧ ∃ a b Z, R = .cells [a, b] e true :: Z ∧ (a = .nilp ∨ a = .ptr K.length 0) ∧
    ((b = .nils ∧ bs = []) ∨ ∃ k w, b = .sl (K.length + (k + 1)) 0 bs.length 1 none ∧ Z[k]? = some (.cells (u8s bs) 5 w) ∧ bs ≠ [])
theorem Bl.fresh {e : TypeId} (K : Heap) (he : whole e = true) : Bl e K [.cells [.nilp, .nils] e true] [] := ⟨he, _, _, [], rfl, .inl rfl, .inl ⟨rfl, rfl⟩⟩
theorem Bl.app {e : TypeId} {K R : Heap} {bs : List UInt8} (h : Bl e K R bs) (X : Heap) : Bl e K (R ++ X) bs := by
  obtain ⟨he, a, b, Z, rfl, ha, hb⟩ := h
  refine ⟨he, a, b, Z ++ X, rfl, ha, ?_⟩
  rcases hb with hb | ⟨k, w, h1, h2, h3⟩
  · exact .inl hb
  · exact .inr ⟨k, w, h1, getElem?_keep h2, h3⟩
/-- What isn't the builder's stays. -/
def Keep (e : TypeId) (R R' : Heap) : Prop := R.length ≤ R'.length ∧ ∀ (j : Nat) (l : List AV) (e' : TypeId) (w : Bool), e' ≠ 5 → e' ≠ e → R[j]? = some (.cells l e' w) → R'[j]? = some (.cells l e' w)
theorem Keep.refl {e : TypeId} {R : Heap} : Keep e R R := ⟨Nat.le_refl _, fun _ _ _ _ _ _ h => h⟩
theorem Keep.trans {e : TypeId} {R R1 R2 : Heap} (h : Keep e R R1) (k : Keep e R1 R2) : Keep e R R2 := ⟨Nat.le_trans h.1 k.1, fun j l e' w h1 h2 h3 => k.2 j l e' w h1 h2 (h.2 j l e' w h1 h2 h3)⟩
theorem Keep.more {e : TypeId} {R R1 : Heap} (X : Heap) (h : Keep e (R ++ X) R1) : Keep e R R1 := ⟨by have := h.1; rw [List.length_append] at this; omega, fun j l e' w h1 h2 h3 => h.2 j l e' w h1 h2 (getElem?_keep h3)⟩
/-- The buffer lies behind so many rows. -/
def Far (e : TypeId) (K : Heap) (n : Nat) (R : Heap) : Prop := ∃ c q m Z, n ≤ q ∧ R = .cells [c, .sl (K.length + q) 0 m 1 none] e true :: Z
theorem Far.le {e : TypeId} {K R : Heap} {n m : Nat} (h : Far e K m R) (hn : n ≤ m) : Far e K n R := by
  obtain ⟨c, q, k, Z, h1, h2⟩ := h
  exact ⟨c, q, k, Z, by omega, h2⟩
theorem far_tidy {e : TypeId} {K R R' : Heap} {bs : List UInt8} {v : AV} (h : Bl e K R bs) (hf : Far e K R.length R') : tidy (K ++ R) v (K ++ R') = (v, K ++ R') := by
  obtain ⟨he, a, b, Z, rfl, ha, hb⟩ := h
  obtain ⟨c, q, m, Z', hq, rfl⟩ := hf
  refine tidy_led (keep_no _ _ K.length _ _ at0 at0 ?_ ?_)
  · refine Bool.eq_false_iff.2 fun hh => ?_
    have := AO.same_eq hh
    injection this with h1
    injection h1 with _ h1
    injection h1 with h1
    rcases hb with ⟨rfl, _⟩ | ⟨k, w, rfl, hk, _⟩
    · cases h1
    · injection h1 with h1
      have := (List.getElem?_eq_some_iff.1 hk).1
      simp only [List.length_cons] at hq
      omega
  · have h1 : K.length + (Z.length + 1) ≤ K.length + q := by simp only [List.length_cons] at hq; omega
    have h2 : ¬ (K.length + q < K.length + (Z.length + 1)) := by omega
    simp only [AO.under, unders, leadss, AV.leads, List.length_append, List.length_cons, h2, decide_false, Bool.false_and, Bool.and_false]
theorem check {e : TypeId} {K Z : Heap} {a b : AV} (hw : whole e = true) (ha : a = .nilp ∨ a = .ptr K.length 0) : call env 77 [.ptr K.length 0] (K ++ .cells [a, b] e true :: Z) = some (.tup [], K ++ .cells [.ptr K.length 0, b] e true :: Z) := by
  rw [cCheck]
  have h : (K ++ .cells [a, b] e true :: Z)[K.length]? = some (.cells [a, b] e true) := at0
  have hs : (K ++ .cells [a, b] e true :: Z).set K.length (.cells [.ptr K.length 0, b] e true) = K ++ .cells [.ptr K.length 0, b] e true :: Z := by
    rw [List.set_append_right _ _ (by omega), Nat.sub_self]; rfl
  unfold bldCheck
  simp only [h, hw, if_true]
  rcases ha with rfl | rfl
  · simp only [hs]
  · simp only [if_true]
theorem c34 {e : TypeId} {K R : Heap} {bs : List UInt8} (h : Bl e K R bs) {s : List UInt8} (hs : s ≠ []) (hl : bs.length + s.length ≤ 1000000) :
    ∃ R', call env 34 [.ptr K.length 0, .str (mkS s)] (K ++ R) = some (.tup [.int .i64 (s.length : Int), .nili], K ++ R') ∧ Bl e K R' (bs ++ s) ∧ Keep e R R' ∧ Far e K R.length R' := by
  have hB := h
  obtain ⟨he, a, b, Z, rfl, ha, hb⟩ := h
  have e1 := check (Z := Z) (b := b) he ha
  rcases hb with ⟨rfl, rfl⟩ | ⟨k, w, rfl, hk, h0⟩
  · have e2 := app_nils (H := K ++ .cells [.ptr K.length 0, .nils] e true :: Z) hs (by simp at hl; omega)
    have hf : Far e K (AO.cells [a, .nils] e true :: Z).length (.cells [.ptr K.length 0, .sl (K.length + (Z.length + 1)) 0 s.length 1 none] e true :: (Z ++ [.cells (u8s s) 5 true])) := ⟨_, _, _, _, by simp, rfl⟩
    have e3 := far_tidy (v := .tup [.int .i64 (s.length : Int), .nili]) hB hf
    refine ⟨.cells [.ptr K.length 0, .sl (K.length + (Z.length + 1)) 0 s.length 1 none] e true :: (Z ++ [.cells (u8s s) 5 true]), ?_, ⟨he, _, _, _, rfl, .inr rfl, .inr ⟨Z.length, true, by simp, by simp, by simpa using hs⟩⟩, ⟨by simp, fun j l e' w h1 h2 h3 => ?_⟩, hf⟩
    · simp only [R1, R2, R3, R4, R5, R6, R7, R8, AV.flat, fillIn_nil, fillIn_cons, splice, AV.cells, AV.one, eqsOf, idx, SO.calls, List.reduceReplicate, Nat.reduceBEq, Nat.reduceLT, Nat.reduceAdd, Nat.reduceMul, Nat.reduceSub, Nat.reduceLeDiff, Nat.reduceEqDiff, ↓reduceIte, Int.reduceLT, Int.reduceEq, Int.reduceBNe, Int.reduceBEq, aeq, Int.reduceLE, Int.reduceNeg, Int.reduceMul, Int.reduceAdd, Int.reduceSub, Int.reduceToNat, Int.reducePow] at e2
      refine call_ends (fn := s34) rfl rfl (by simp [s34]) ?_
      simp only [s34, R1, R2, R3, R4, R5, R6, R7, R8, AV.flat, fillIn_nil, fillIn_cons, splice, AV.cells, AV.one, eqsOf, idx, SO.calls, List.reduceReplicate, Nat.reduceBEq, Nat.reduceLT, Nat.reduceAdd, Nat.reduceMul, Nat.reduceSub, Nat.reduceLeDiff, Nat.reduceEqDiff, ↓reduceIte, Int.reduceLT, Int.reduceEq, Int.reduceBNe, Int.reduceBEq, aeq, Int.reduceLE, Int.reduceNeg, Int.reduceMul, Int.reduceAdd, Int.reduceSub, Int.reduceToNat, Int.reducePow, e1, e2]
      rw [e3]
    · cases j with
      | zero => simp only [List.getElem?_cons_zero, Option.some.injEq, AO.cells.injEq] at h3; exact absurd h3.2.1.symm h2
      | succ j => simp only [List.getElem?_cons_succ] at h3 ⊢; exact getElem?_keep h3
  · have hlt : k < Z.length := (List.getElem?_eq_some_iff.1 hk).1
    have e2 := app_row (H := K ++ .cells [.ptr K.length 0, .sl (K.length + (k + 1)) 0 bs.length 1 none] e true :: Z) (o := K.length + (k + 1)) (by rw [atk]; exact hk) hs hl
    rw [setk] at e2
    have hf : Far e K (AO.cells [a, .sl (K.length + (k + 1)) 0 bs.length 1 none] e true :: Z).length (.cells [.ptr K.length 0, .sl (K.length + (Z.length + 1)) 0 (bs ++ s).length 1 none] e true :: (Z.set k .dead ++ [.cells (u8s (bs ++ s)) 5 w])) := ⟨_, _, _, _, by simp, rfl⟩
    have e3 := far_tidy (v := .tup [.int .i64 (s.length : Int), .nili]) hB hf
    refine ⟨.cells [.ptr K.length 0, .sl (K.length + (Z.length + 1)) 0 (bs ++ s).length 1 none] e true :: (Z.set k .dead ++ [.cells (u8s (bs ++ s)) 5 w]), ?_, ⟨he, _, _, _, rfl, .inr rfl, .inr ⟨Z.length, w, by simp, by simp, by simp [h0]⟩⟩, ⟨by simp, fun j l e' w' h1 h2 h3 => ?_⟩, hf⟩
    · generalize hr : u8s (bs ++ s) = row at e2 e3 ⊢
      generalize hZ : Z.set k .dead = Z2 at e2 e3 ⊢
      simp only [R1, R2, R3, R4, R5, R6, R7, R8, AV.flat, fillIn_nil, fillIn_cons, splice, AV.cells, AV.one, eqsOf, idx, SO.calls, List.reduceReplicate, Nat.reduceBEq, Nat.reduceLT, Nat.reduceAdd, Nat.reduceMul, Nat.reduceSub, Nat.reduceLeDiff, Nat.reduceEqDiff, ↓reduceIte, Int.reduceLT, Int.reduceEq, Int.reduceBNe, Int.reduceBEq, aeq, Int.reduceLE, Int.reduceNeg, Int.reduceMul, Int.reduceAdd, Int.reduceSub, Int.reduceToNat, Int.reducePow] at e2 e3
      refine call_ends (fn := s34) rfl rfl (by simp [s34]) ?_
      simp only [s34, R1, R2, R3, R4, R5, R6, R7, R8, AV.flat, fillIn_nil, fillIn_cons, splice, AV.cells, AV.one, eqsOf, idx, SO.calls, List.reduceReplicate, Nat.reduceBEq, Nat.reduceLT, Nat.reduceAdd, Nat.reduceMul, Nat.reduceSub, Nat.reduceLeDiff, Nat.reduceEqDiff, ↓reduceIte, Int.reduceLT, Int.reduceEq, Int.reduceBNe, Int.reduceBEq, aeq, Int.reduceLE, Int.reduceNeg, Int.reduceMul, Int.reduceAdd, Int.reduceSub, Int.reduceToNat, Int.reducePow, e1, e2]
      rw [e3]
    · cases j with
      | zero => simp only [List.getElem?_cons_zero, Option.some.injEq, AO.cells.injEq] at h3; exact absurd h3.2.1.symm h2
      | succ j =>
        simp only [List.getElem?_cons_succ] at h3 ⊢
        refine getElem?_keep ?_
        rw [List.getElem?_set]
        split
        · rename_i hkj
          subst hkj
          rw [hk] at h3
          injection h3 with h3
          injection h3 with _ h3
          exact absurd h3.symm h1
        · exact h3
theorem c37 {e : TypeId} {K R : Heap} {bs : List UInt8} (h : Bl e K R bs) (hl : bs.length ≤ 1000000) :
    ∃ R', call env 37 [.ptr K.length 0] (K ++ R) = some (.str (mkS bs), K ++ R') ∧ Bl e K R' bs ∧ Keep e R R' := by
  have hB := h
  obtain ⟨he, a, b, Z, rfl, ha, hb⟩ := h
  rcases hb with ⟨rfl, rfl⟩ | ⟨k, w, rfl, hk, h0⟩
  · refine ⟨.cells [a, .nils] e true :: Z, ?_, hB, .refl⟩
    refine call_ends (fn := s37) rfl rfl (by simp [s37]) ?_
    simp only [s37, R1, R2, R3, R4, R5, R6, R7, R8, AV.flat, fillIn_nil, fillIn_cons, splice, AV.cells, AV.one, eqsOf, idx, SO.calls, List.reduceReplicate, Nat.reduceBEq, Nat.reduceLT, Nat.reduceAdd, Nat.reduceMul, Nat.reduceSub, Nat.reduceLeDiff, Nat.reduceEqDiff, ↓reduceIte, Int.reduceLT, Int.reduceEq, Int.reduceBNe, Int.reduceBEq, aeq, Int.reduceLE, Int.reduceNeg, Int.reduceMul, Int.reduceAdd, Int.reduceSub, Int.reduceToNat, Int.reducePow, sop_sdata, sop_ustr, sdata_nils, ustr_nil]
    rw [tidy_flat0 rfl]
  · have hk' : (K ++ .cells [a, .sl (K.length + (k + 1)) 0 bs.length 1 none] e true :: Z)[K.length + (k + 1)]? = some (.cells (u8s bs) 5 w) := by rw [atk]; exact hk
    have e1 := ustr_row (e := 5) hk' h0 hl
    rw [setk] at e1
    have e3 := tidy_set (H := K ++ .cells [a, .sl (K.length + (k + 1)) 0 bs.length 1 none] e true :: Z) (o := K.length + (k + 1)) (v := .str (mkS bs)) (e := 5) (w := false) rfl (u8s_flat bs)
    rw [setk] at e3
    change ustrOf _ _ _ _ = some (_, K ++ _ :: Z.set k (.cells (u8s bs) 5 false)) at e1
    have hb0 : bs.length ≠ 0 := fun h => h0 (List.length_eq_zero_iff.1 h)
    have hlt : k < Z.length := (List.getElem?_eq_some_iff.1 hk).1
    refine ⟨.cells [a, .sl (K.length + (k + 1)) 0 bs.length 1 none] e true :: Z.set k (.cells (u8s bs) 5 false), ?_, ⟨he, _, _, _, rfl, ha, .inr ⟨k, false, rfl, by simp [hlt], h0⟩⟩, ⟨by simp, fun j l e' w' h1 h2 h3 => ?_⟩⟩
    · refine call_ends (fn := s37) rfl rfl (by simp [s37]) ?_
      have hlen : (Z.set k (.cells (u8s bs) 5 false)).length = Z.length := List.length_set
      generalize Z.set k (.cells (u8s bs) 5 false) = Z2 at e1 e3 hlen ⊢
      simp only [s37, R1, R2, R3, R4, R5, R6, R7, R8, AV.flat, fillIn_nil, fillIn_cons, splice, AV.cells, AV.one, eqsOf, idx, SO.calls, List.reduceReplicate, Nat.reduceBEq, Nat.reduceLT, Nat.reduceAdd, Nat.reduceMul, Nat.reduceSub, Nat.reduceLeDiff, Nat.reduceEqDiff, ↓reduceIte, Int.reduceLT, Int.reduceEq, Int.reduceBNe, Int.reduceBEq, aeq, Int.reduceLE, Int.reduceNeg, Int.reduceMul, Int.reduceAdd, Int.reduceSub, Int.reduceToNat, Int.reducePow, sop_sdata, sop_ustr, sdata_sl hb0, e1, hlen]
      rw [List.drop_eq_nil_of_le (Nat.le_of_eq hlen), List.append_nil, e3]
    · cases j with
      | zero => exact h3
      | succ j =>
        simp only [List.getElem?_cons_succ] at h3 ⊢
        rw [List.getElem?_set]
        split
        · rename_i hkj
          subst hkj
          rw [hk] at h3
          injection h3 with h3
          injection h3 with _ h3
          exact absurd h3.symm h1
        · exact h3
end Go.Proofs.Ytppkggodpihfiaa
