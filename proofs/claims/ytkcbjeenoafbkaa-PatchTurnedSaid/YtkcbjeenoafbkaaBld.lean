/- strings.Builder: WriteString, String. -/
import Derived.Test.YtkcbjeenoafbkaaEnv
import Derived.Test.YtkcbjeenoafbkaaDen39
set_option linter.unusedVariables false
set_option linter.unusedSimpArgs false
set_option maxRecDepth 100000
set_option maxHeartbeats 1000000
namespace Go.Den
section
variable {cl : CL} {t : List AV} {H : Heap}
def sdataOf (x : AV) (H : Heap) : Option (AV × Heap) :=
  match x with
  | .nils => some (.nilp, H)
  | .sl o off len _ _ => if len = 0 then none else some (.ptr o off, H)
  | _ => none
def ustrOf (e : TypeId) (p n : AV) (H : Heap) : Option (AV × Heap) :=
  match p, n with
  | .nilp, .int .i64 m => if m = 0 then some (.str ⟨#[]⟩, H) else none
  | .ptr o off, .int .i64 m =>
    match H[o]? with
    | some (.cells l e' _) =>
      if e' = e ∧ 0 < m ∧ m ≤ 9223372036854775807 ∧ off + m.toNat ≤ l.length then (bytesOf ((l.drop off).take m.toNat)).map fun b => (.str ⟨b.toArray⟩, H.set o (.cells l e' false)) else none
    | _ => none
  | _, _ => none
theorem sop_sdata {x : SX} : sop cl t H (.sdata x) = sdataOf (evx t x) H := _root_.id rfl
theorem sop_ustr {e : TypeId} {p n : SX} : sop cl t H (.ustr e p n) = ustrOf e (evx t p) (evx t n) H := _root_.id rfl
theorem sdata_nils : sdataOf .nils H = some (.nilp, H) := _root_.id rfl
theorem sdata_sl {o off len sz : Nat} {c : Option Nat} (h : len ≠ 0) : sdataOf (.sl o off len sz c) H = some (.ptr o off, H) := if_neg h
theorem ustr_nil {e : TypeId} : ustrOf e .nilp (.int .i64 0) H = some (.str ⟨#[]⟩, H) := _root_.id rfl
theorem bytes_back : ∀ l : List UInt8, bytesOf (l.map fun b => AV.int .u8 (b.toNat : Int)) = some l
  | [] => rfl
  | b :: l => by simp [bytesOf, bytes_back l]
theorem ustr_row {e : TypeId} {o : Nat} {l : List UInt8} {w : Bool} (h : H[o]? = some (.cells (l.map fun b => AV.int .u8 (b.toNat : Int)) e w)) (h0 : l ≠ []) (hl : l.length ≤ 1000000) :
    ustrOf e (.ptr o 0) (.int .i64 (l.length : Int)) H = some (.str (mkS l), H.set o (.cells (l.map fun b => AV.int .u8 (b.toNat : Int)) e false)) := by
  have h1 : 0 < l.length := List.length_pos_iff.2 h0
  simp only [ustrOf, h]
  rw [if_pos ⟨trivial, by omega, by omega, by simp⟩, List.drop_zero, Int.toNat_natCast, List.take_of_length_le (by simp), bytes_back]
  rfl
end
end Go.Den
namespace Go.Proofs.Ytkcbjeenoafbkaa
open Go Go.Den
/-- A builder behind K, in its rows R, that holds so many bytes. -/
def Bld (K R : Heap) (bs : List UInt8) : Prop :=
  ∃ a b Z, R = .cells [a, b] 145 true :: Z ∧ (a = .nilp ∨ a = .ptr K.length 0) ∧
    ((b = .nils ∧ bs = []) ∨ ∃ k, b = .sl (K.length + (k + 1)) 0 bs.length 1 none ∧ Z[k]? = some (.cells (u8s bs) 5 true) ∧ bs ≠ [])
theorem Bld.fresh (K : Heap) : Bld K [.cells [.nilp, .nils] 145 true] [] := ⟨_, _, [], rfl, .inl rfl, .inl ⟨rfl, rfl⟩⟩
theorem check {K Z : Heap} {a b : AV} (ha : a = .nilp ∨ a = .ptr K.length 0) : call env 113 [.ptr K.length 0] (K ++ .cells [a, b] 145 true :: Z) = some (.tup [], K ++ .cells [.ptr K.length 0, b] 145 true :: Z) := by
  rw [cCheck]
  have h : (K ++ .cells [a, b] 145 true :: Z)[K.length]? = some (.cells [a, b] 145 true) := by
    rw [List.getElem?_append_right (by omega), Nat.sub_self]; rfl
  have hs : (K ++ .cells [a, b] 145 true :: Z).set K.length (.cells [.ptr K.length 0, b] 145 true) = K ++ .cells [.ptr K.length 0, b] 145 true :: Z := by
    rw [List.set_append_right _ _ (by omega), Nat.sub_self]; rfl
  have hw : whole 145 = true := by decide
  unfold bldCheck
  simp only [h, hw, if_true]
  rcases ha with rfl | rfl
  · simp only [hs]
  · simp only [if_true]
theorem app_none {H : Heap} {v : AV} (hv : v = .nils ∨ ∃ o off len sz c, v = .sl o off len sz c) : aapp H 5 1 v (.str (mkS [])) = some (v, H) := by
  rcases hv with rfl | ⟨o, off, len, sz, c, rfl⟩
  · rfl
  · rfl
theorem str_u8s (l : List UInt8) : strCells (mkS l) = u8s l := rfl
theorem alen_str (l : List UInt8) : alen (.str (mkS l)) = some l.length := by simp [alen, mkS, ByteArray.size]
/-- A builder's buffer that grows. -/
theorem app_nils {H : Heap} {s : List UInt8} (hs : s ≠ []) (hl : s.length ≤ 1000000) : aapp H 5 1 .nils (.str (mkS s)) = some (.sl H.length 0 s.length 1 none, H ++ [.cells (u8s s) 5 true]) := by
  have h0 : ¬ s.length = 0 := fun h => hs (List.length_eq_zero_iff.1 h)
  have hr : roomy s.length = true := by simp [roomy]; omega
  simp only [aapp, alen_str, newOf, if_true, str_u8s, if_neg h0, u8s_len, Nat.mul_one, u8s_one, and_self, hr]
theorem app_row {H : Heap} {o : Nat} {bs s : List UInt8} (h : H[o]? = some (.cells (u8s bs) 5 true)) (hs : s ≠ []) (hl : bs.length + s.length ≤ 1000000) :
    aapp H 5 1 (.sl o 0 bs.length 1 none) (.str (mkS s)) = some (.sl H.length 0 (bs ++ s).length 1 none, H.set o .dead ++ [.cells (u8s (bs ++ s)) 5 true]) := by
  have h0 : ¬ s.length = 0 := fun h => hs (List.length_eq_zero_iff.1 h)
  have hr : roomy (bs.length + s.length) = true := by simp [roomy]; omega
  have hc : List.take bs.length (u8s bs) ++ u8s s = u8s (bs ++ s) := by rw [List.take_of_length_le (by rw [u8s_len]; omega)]; simp [u8s]
  simp only [aapp, alen_str, newOf, if_true, str_u8s, if_neg h0, u8s_len, Nat.mul_one, u8s_one, and_self, hr, h, Nat.zero_add, Nat.le_refl, List.drop_zero, hc, List.length_append]
theorem tidy_led {H H1 : Heap} {v : AV} (h : keepOld H.length H H1 = false) : tidy H v H1 = (v, H1) := by
  unfold tidy; rw [h]; rfl
/-- Behind WriteString: whatever was kept, K is. -/
theorem tidy_pre {K R R1 : Heap} {n : Int} : ∃ R2, tidy (K ++ R) (.tup [.int .i64 n, .nili]) (K ++ R1) = (.tup [.int .i64 n, .nili], K ++ R2) ∧ (R2 = R1 ∨ (keepOld (K ++ R).length (K ++ R) (K ++ R1) = true ∧ R2 = R1.take R.length)) := by
  unfold tidy
  split
  · rename_i hk
    have : (AV.tup [.int .i64 n, .nili]).carry (K ++ R).length (K ++ R1) ([], []) = some (.tup [.int .i64 n, .nili], ([], [])) := by
      simp [AV.carry, carries]
    rw [this]
    refine ⟨R1.take R.length, ?_, .inr ⟨hk, rfl⟩⟩
    simp [List.take_append, List.take_of_length_le]
  · exact ⟨R1, rfl, .inl rfl⟩
theorem keep_no {n : Nat} : ∀ (H H1 : Heap) (i : Nat) (a b : AO), H[i]? = some a → H1[i]? = some b → a.same b = false → b.under n = false → keepOld n H H1 = false
  | [], _, i, a, b, h, _, _, _ => by simp at h
  | x :: H, [], i, a, b, _, h, _, _ => by simp at h
  | x :: H, y :: H1, 0, a, b, h, h1, h2, h3 => by
    simp only [List.getElem?_cons_zero, Option.some.injEq] at h h1
    subst h h1
    simp [keepOld, h2, h3]
  | x :: H, y :: H1, i + 1, a, b, h, h1, h2, h3 => by
    simp only [List.getElem?_cons_succ] at h h1
    simp [keepOld, keep_no H H1 i a b h h1 h2 h3]
theorem at0 {K Z : Heap} {x : AO} : (K ++ x :: Z)[K.length]? = some x := by
  rw [List.getElem?_append_right (Nat.le_refl _), Nat.sub_self]; rfl
theorem atk {K Z : Heap} {x : AO} {k : Nat} : (K ++ x :: Z)[K.length + (k + 1)]? = Z[k]? := by
  rw [List.getElem?_append_right (by omega), Nat.add_sub_cancel_left]; rfl
theorem setk {K Z : Heap} {x y : AO} {k : Nat} : (K ++ x :: Z).set (K.length + (k + 1)) y = K ++ x :: Z.set k y := by
  rw [List.set_append_right _ _ (by omega), Nat.add_sub_cancel_left]; rfl
theorem write_tidy {K Z Z1 : Heap} {a b c : AV} {n : Int} {m : Nat} (hb : b = .nils ∨ ∃ k, k < Z.length ∧ b = .sl (K.length + (k + 1)) 0 m 1 none) {q : Nat} :
    tidy (K ++ .cells [a, b] 145 true :: Z) (.tup [.int .i64 n, .nili]) (K ++ .cells [c, .sl (K.length + (Z.length + 1)) 0 q 1 none] 145 true :: Z1) =
      (.tup [.int .i64 n, .nili], K ++ .cells [c, .sl (K.length + (Z.length + 1)) 0 q 1 none] 145 true :: Z1) := by
  refine tidy_led (keep_no _ _ K.length _ _ at0 at0 ?_ ?_)
  · refine Bool.eq_false_iff.2 fun hh => ?_
    have := AO.same_eq hh
    injection this with h1
    injection h1 with _ h1
    injection h1 with h1
    rcases hb with rfl | ⟨k, hk, rfl⟩
    · cases h1
    · injection h1 with h1
      omega
  · simp [AO.under, unders, leadss, AV.leads]
theorem write_same {K Z : Heap} {a b c : AV} {n : Int} :
    tidy (K ++ .cells [a, b] 145 true :: Z) (.tup [.int .i64 n, .nili]) (K ++ .cells [c, b] 145 true :: Z) = (.tup [.int .i64 n, .nili], K ++ .cells [c, b] 145 true :: Z) := by
  obtain ⟨R2, h1, h2⟩ := tidy_pre (K := K) (R := .cells [a, b] 145 true :: Z) (R1 := .cells [c, b] 145 true :: Z) (n := n)
  rw [h1]
  rcases h2 with rfl | ⟨_, rfl⟩
  · rfl
  · simp
theorem c89 {K R : Heap} {bs : List UInt8} (h : Bld K R bs) (s : List UInt8) (hl : bs.length + s.length ≤ 1000000) :
    ∃ R', call env 89 [.ptr K.length 0, .str (mkS s)] (K ++ R) = some (.tup [.int .i64 (s.length : Int), .nili], K ++ R') ∧ Bld K R' (bs ++ s) := by
  obtain ⟨a, b, Z, rfl, ha, hb⟩ := h
  have e1 := check (Z := Z) (b := b) ha
  by_cases hs : s = []
  · subst hs
    have e2 : aapp (K ++ .cells [.ptr K.length 0, b] 145 true :: Z) 5 1 b (.str (mkS [])) = some (b, K ++ .cells [.ptr K.length 0, b] 145 true :: Z) := by
      refine app_none ?_
      rcases hb with ⟨rfl, _⟩ | ⟨k, rfl, _⟩
      · exact .inl rfl
      · exact .inr ⟨_, _, _, _, _, rfl⟩
    have e3 := @write_same K Z a b (.ptr K.length 0) 0
    refine ⟨.cells [.ptr K.length 0, b] 145 true :: Z, ?_, .ptr K.length 0, b, Z, rfl, .inr rfl, by simpa using hb⟩
    rcases hb with ⟨rfl, _⟩ | ⟨k, rfl, _⟩
    · refine call_ends (fn := s89) rfl rfl (by simp [s89]) ?_
      simp only [s89, R1, R2, R3, R4, R5, R6, R7, R8, AV.flat, fillIn_nil, fillIn_cons, splice, AV.cells, AV.one, eqsOf, idx, SO.calls, List.reduceReplicate, Nat.reduceBEq, Nat.reduceLT, Nat.reduceAdd, Nat.reduceMul, Nat.reduceSub, Nat.reduceLeDiff, Nat.reduceEqDiff, ↓reduceIte, Int.reduceLT, Int.reduceEq, Int.reduceBNe, Int.reduceBEq, aeq, Int.reduceLE, Int.reduceNeg, Int.reduceMul, Int.reduceAdd, Int.reduceSub, Int.reduceToNat, Int.reducePow, e1, e2]
      rw [e3]
    · refine call_ends (fn := s89) rfl rfl (by simp [s89]) ?_
      simp only [s89, R1, R2, R3, R4, R5, R6, R7, R8, AV.flat, fillIn_nil, fillIn_cons, splice, AV.cells, AV.one, eqsOf, idx, SO.calls, List.reduceReplicate, Nat.reduceBEq, Nat.reduceLT, Nat.reduceAdd, Nat.reduceMul, Nat.reduceSub, Nat.reduceLeDiff, Nat.reduceEqDiff, ↓reduceIte, Int.reduceLT, Int.reduceEq, Int.reduceBNe, Int.reduceBEq, aeq, Int.reduceLE, Int.reduceNeg, Int.reduceMul, Int.reduceAdd, Int.reduceSub, Int.reduceToNat, Int.reducePow, e1, e2]
      rw [e3]
  · rcases hb with ⟨rfl, rfl⟩ | ⟨k, rfl, hk, h0⟩
    · have e2 := app_nils (H := K ++ .cells [.ptr K.length 0, .nils] 145 true :: Z) hs (by simp at hl; omega)
      have e3 := @write_tidy K Z (Z ++ [.cells (u8s s) 5 true]) a .nils (.ptr K.length 0) (s.length : Int) 0 (.inl rfl) s.length
      refine ⟨.cells [.ptr K.length 0, .sl (K.length + (Z.length + 1)) 0 s.length 1 none] 145 true :: (Z ++ [.cells (u8s s) 5 true]), ?_, _, _, _, rfl, .inr rfl, .inr ⟨Z.length, by simp, by simp, by simpa using hs⟩⟩
      simp only [R1, R2, R3, R4, R5, R6, R7, R8, AV.flat, fillIn_nil, fillIn_cons, splice, AV.cells, AV.one, eqsOf, idx, SO.calls, List.reduceReplicate, Nat.reduceBEq, Nat.reduceLT, Nat.reduceAdd, Nat.reduceMul, Nat.reduceSub, Nat.reduceLeDiff, Nat.reduceEqDiff, ↓reduceIte, Int.reduceLT, Int.reduceEq, Int.reduceBNe, Int.reduceBEq, aeq, Int.reduceLE, Int.reduceNeg, Int.reduceMul, Int.reduceAdd, Int.reduceSub, Int.reduceToNat, Int.reducePow] at e2
      refine call_ends (fn := s89) rfl rfl (by simp [s89]) ?_
      simp only [s89, R1, R2, R3, R4, R5, R6, R7, R8, AV.flat, fillIn_nil, fillIn_cons, splice, AV.cells, AV.one, eqsOf, idx, SO.calls, List.reduceReplicate, Nat.reduceBEq, Nat.reduceLT, Nat.reduceAdd, Nat.reduceMul, Nat.reduceSub, Nat.reduceLeDiff, Nat.reduceEqDiff, ↓reduceIte, Int.reduceLT, Int.reduceEq, Int.reduceBNe, Int.reduceBEq, aeq, Int.reduceLE, Int.reduceNeg, Int.reduceMul, Int.reduceAdd, Int.reduceSub, Int.reduceToNat, Int.reducePow, e1, e2]
      rw [e3]
    · have hlt : k < Z.length := (List.getElem?_eq_some_iff.1 hk).1
      have e2 := app_row (H := K ++ .cells [.ptr K.length 0, .sl (K.length + (k + 1)) 0 bs.length 1 none] 145 true :: Z) (o := K.length + (k + 1)) (by rw [atk]; exact hk) hs hl
      rw [setk] at e2
      have e3 := @write_tidy K Z (Z.set k .dead ++ [.cells (u8s (bs ++ s)) 5 true]) a (.sl (K.length + (k + 1)) 0 bs.length 1 none) (.ptr K.length 0) (s.length : Int) bs.length (.inr ⟨k, hlt, rfl⟩) (bs ++ s).length
      refine ⟨.cells [.ptr K.length 0, .sl (K.length + (Z.length + 1)) 0 (bs ++ s).length 1 none] 145 true :: (Z.set k .dead ++ [.cells (u8s (bs ++ s)) 5 true]), ?_, _, _, _, rfl, .inr rfl, .inr ⟨Z.length, by simp, by simp, by simp [h0]⟩⟩
      generalize hr : u8s (bs ++ s) = row at e2 e3 ⊢
      generalize hZ : Z.set k .dead = Z2 at e2 e3 ⊢
      simp only [R1, R2, R3, R4, R5, R6, R7, R8, AV.flat, fillIn_nil, fillIn_cons, splice, AV.cells, AV.one, eqsOf, idx, SO.calls, List.reduceReplicate, Nat.reduceBEq, Nat.reduceLT, Nat.reduceAdd, Nat.reduceMul, Nat.reduceSub, Nat.reduceLeDiff, Nat.reduceEqDiff, ↓reduceIte, Int.reduceLT, Int.reduceEq, Int.reduceBNe, Int.reduceBEq, aeq, Int.reduceLE, Int.reduceNeg, Int.reduceMul, Int.reduceAdd, Int.reduceSub, Int.reduceToNat, Int.reducePow] at e2 e3
      refine call_ends (fn := s89) rfl rfl (by simp [s89]) ?_
      simp only [s89, R1, R2, R3, R4, R5, R6, R7, R8, AV.flat, fillIn_nil, fillIn_cons, splice, AV.cells, AV.one, eqsOf, idx, SO.calls, List.reduceReplicate, Nat.reduceBEq, Nat.reduceLT, Nat.reduceAdd, Nat.reduceMul, Nat.reduceSub, Nat.reduceLeDiff, Nat.reduceEqDiff, ↓reduceIte, Int.reduceLT, Int.reduceEq, Int.reduceBNe, Int.reduceBEq, aeq, Int.reduceLE, Int.reduceNeg, Int.reduceMul, Int.reduceAdd, Int.reduceSub, Int.reduceToNat, Int.reducePow, e1, e2]
      rw [e3]
theorem c90 {K R : Heap} {bs : List UInt8} (h : Bld K R bs) (hl : bs.length ≤ 1000000) :
    ∃ R', call env 90 [.ptr K.length 0] (K ++ R) = some (.str (mkS bs), K ++ R') := by
  obtain ⟨a, b, Z, rfl, ha, hb⟩ := h
  rcases hb with ⟨rfl, rfl⟩ | ⟨k, rfl, hk, h0⟩
  · refine ⟨.cells [a, .nils] 145 true :: Z, ?_⟩
    refine call_ends (fn := s90) rfl rfl (by simp [s90]) ?_
    simp only [s90, R1, R2, R3, R4, R5, R6, R7, R8, AV.flat, fillIn_nil, fillIn_cons, splice, AV.cells, AV.one, eqsOf, idx, SO.calls, List.reduceReplicate, Nat.reduceBEq, Nat.reduceLT, Nat.reduceAdd, Nat.reduceMul, Nat.reduceSub, Nat.reduceLeDiff, Nat.reduceEqDiff, ↓reduceIte, Int.reduceLT, Int.reduceEq, Int.reduceBNe, Int.reduceBEq, aeq, Int.reduceLE, Int.reduceNeg, Int.reduceMul, Int.reduceAdd, Int.reduceSub, Int.reduceToNat, Int.reducePow, sop_sdata, sop_ustr, sdata_nils, ustr_nil]
    rw [tidy_flat0 rfl]
  · have hk' : (K ++ .cells [a, .sl (K.length + (k + 1)) 0 bs.length 1 none] 145 true :: Z)[K.length + (k + 1)]? = some (.cells (u8s bs) 5 true) := by rw [atk]; exact hk
    have e1 := ustr_row (e := 5) hk' h0 hl
    rw [setk] at e1
    have e3 := tidy_set (H := K ++ .cells [a, .sl (K.length + (k + 1)) 0 bs.length 1 none] 145 true :: Z) (o := K.length + (k + 1)) (v := .str (mkS bs)) (e := 5) (w := false) rfl (u8s_flat bs)
    rw [setk] at e3
    change ustrOf _ _ _ _ = some (_, K ++ _ :: Z.set k (.cells (u8s bs) 5 false)) at e1
    have hb0 : bs.length ≠ 0 := fun h => h0 (List.length_eq_zero_iff.1 h)
    refine ⟨.cells [a, .sl (K.length + (k + 1)) 0 bs.length 1 none] 145 true :: Z.set k (.cells (u8s bs) 5 false), ?_⟩
    refine call_ends (fn := s90) rfl rfl (by simp [s90]) ?_
    have hlen : (Z.set k (.cells (u8s bs) 5 false)).length = Z.length := List.length_set
    generalize Z.set k (.cells (u8s bs) 5 false) = Z2 at e1 e3 hlen ⊢
    simp only [s90, R1, R2, R3, R4, R5, R6, R7, R8, AV.flat, fillIn_nil, fillIn_cons, splice, AV.cells, AV.one, eqsOf, idx, SO.calls, List.reduceReplicate, Nat.reduceBEq, Nat.reduceLT, Nat.reduceAdd, Nat.reduceMul, Nat.reduceSub, Nat.reduceLeDiff, Nat.reduceEqDiff, ↓reduceIte, Int.reduceLT, Int.reduceEq, Int.reduceBNe, Int.reduceBEq, aeq, Int.reduceLE, Int.reduceNeg, Int.reduceMul, Int.reduceAdd, Int.reduceSub, Int.reduceToNat, Int.reducePow, sop_sdata, sop_ustr, sdata_sl hb0, e1, hlen]
    rw [List.drop_eq_nil_of_le (Nat.le_of_eq hlen), List.append_nil, e3]
end Go.Proofs.Ytkcbjeenoafbkaa
