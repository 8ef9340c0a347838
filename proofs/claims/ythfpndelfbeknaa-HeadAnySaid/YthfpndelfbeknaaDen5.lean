/- Each operation that the slim code takes: what the abstract machine says of it is what the model's run does. -/
import Derived.Test.YthfpndelfbeknaaDen4
import Derived.ChangeKeysEq
set_option linter.unusedVariables false
set_option linter.unusedSimpArgs false
namespace Go.Den
open Go.RowKit (Below)

structure AR (W : World) (ρ : Plan) (n : Nat) (t : List AV) (a : Act) : Prop where
  nod : a.defers = []
  tmps : VRs W ρ n t a.tmps.toList

section
variable {P : Program} {W : World} {ρ : Plan} {H : Heap} {w : World} {t : List AV} {a : Act} {n : Nat}

theorem absV1_ok {v : Value} {av : AV} (h : absV1 v = some av) : VR W ρ n av v ∧ av.one = true := by
  unfold absV1 at h
  split at h <;> (try (cases h; done)) <;> (injection h with h; subst h; simp [VR, AV.one])
theorem absV1s_ok : ∀ {l : List Value} {m : List AV}, l.mapM absV1 = some m → VRs W ρ n m l
  | [], m, h => by simp at h; subst h; simp [VRs]
  | v :: l, m, h => by
    simp only [List.mapM_cons, Option.bind_eq_bind, Option.bind_eq_some_iff, Option.pure_def, Option.some.injEq] at h
    obtain ⟨x, hx, r, hr, rfl⟩ := h
    simp only [VRs]
    exact ⟨v, l, rfl, (absV1_ok hx).1, absV1s_ok hr⟩
theorem absV_ok {v : Value} {av : AV} (h : absV v = some av) : VR W ρ n av v := by
  unfold absV at h
  split at h
  · rename_i cs
    simp only [Option.map_eq_some_iff] at h
    obtain ⟨m, hm, rfl⟩ := h
    simp only [VR]
    exact ⟨cs.toList, by simp, absV1s_ok hm⟩
  · exact (absV1_ok h).1
theorem evx_ok (ha : AR W ρ n t a) {o : Operand} {s : SX} (h : slimX o = some s) : VR W ρ n (evx t s) (a.eval o) := by
  cases o with
  | tmp k =>
    simp only [slimX, Option.some.injEq] at h
    subst h
    simp only [evx, Act.eval]
    by_cases hk : k < t.length
    · obtain ⟨x, h1, h2⟩ := VRs_get ha.tmps (List.getElem?_eq_getElem hk)
      have h3 : a.tmps.getD k undef = x := by
        rw [Array.getElem?_toList] at h1
        simp [Array.getD_eq_getD_getElem?, h1]
      rw [h3]
      simpa [List.getD, hk] using h2
    · have hk' : a.tmps.size ≤ k := by have h9 := VRs_length ha.tmps; rw [Array.length_toList (xs := a.tmps)] at h9; exact Nat.le_trans (Nat.le_of_eq h9.symm) (Nat.le_of_not_lt hk)
      simp [List.getD, List.getElem?_eq_none (Nat.le_of_not_lt hk), VR, Array.getD_eq_getD_getElem?, Array.getElem?_eq_none hk']
  | const v =>
    simp only [slimX, Option.map_eq_some_iff] at h
    obtain ⟨av, h1, rfl⟩ := h
    exact absV_ok h1
  | global g => simp [slimX] at h
  | func f =>
    simp only [slimX, Option.some.injEq] at h
    subst h
    simp only [evx, Act.eval, VR, VRs]
    exact ⟨[], rfl, rfl⟩
theorem evxs_ok (ha : AR W ρ n t a) : ∀ {os : List Operand} {ss : List SX}, os.mapM slimX = some ss → VRs W ρ n (ss.map (evx t)) (os.map a.eval)
  | [], ss, h => by simp at h; subst h; simp [VRs]
  | o :: os, ss, h => by
    simp only [List.mapM_cons, Option.bind_eq_bind, Option.bind_eq_some_iff, Option.pure_def, Option.some.injEq] at h
    obtain ⟨x, hx, r, hr, rfl⟩ := h
    simp only [List.map_cons, VRs]
    exact ⟨_, _, rfl, evx_ok ha hx, evxs_ok ha hr⟩

/-- The operation runs, to this value and this heap. -/
def Fine (P : Program) (W : World) (ρ : Plan) (H : Heap) (w : World) (o : Oper) (a : Act) (v : AV) (H' : Heap) : Prop :=
  ∃ x w' ρ', ((execOp a.eval o).run P w = .ok (.value x) w' ∨ ((execOp a.eval o).run P w = .ok .skip w' ∧ x = undef)) ∧ Stp W ρ H w ρ' H' w' ∧ VR W ρ' H'.length v x
theorem fine_pure {o : Oper} {v : AV} {x : Value} (hr : Rel W ρ H w) (h : (execOp a.eval o).run P w = .ok (.value x) w) (hv : VR W ρ H.length v x) : Fine P W ρ H w o a v H :=
  ⟨x, w, ρ, .inl h, .refl hr, hv⟩

theorem run_underlying' {t : TypeId} {d : TypeDesc} (h : P.underlying t = some d) : (underlying t).run P w = .ok d w := by simp [underlying, h]
theorem run_typeInfo {t : TypeId} {i : TypeInfo} (h : P.info? t = some i) : (typeInfo t).run P w = .ok i w := by simp [typeInfo, h]
theorem run_sizeOf' {t : TypeId} {k : Nat} (h : sizeT P t = some k) : (sizeOf t).run P w = .ok k w := by
  simp only [sizeT, Option.map_eq_some_iff] at h
  obtain ⟨i, hi, rfl⟩ := h
  simp [sizeOf, typeInfo, hi]
theorem run_zeroValue {t : TypeId} {z : AV} (h : zeroT P t = some z) : ∃ x, (zeroValue t).run P w = .ok x w ∧ VR W ρ n z x := by
  simp only [zeroT, Option.bind_eq_some_iff] at h
  obtain ⟨i, hi, x, hx, hz⟩ := h
  exact ⟨x, by simp [zeroValue, typeInfo, hi, hx], absV_ok hz⟩
/-- a value's cells. -/
theorem cells_ok {v : AV} {x : Value} (h : VR W ρ n v x) (hv : v.cells.all AV.one = true) : VRs W ρ n v.cells x.cells.toList := by
  cases v <;> simp only [VR] at h <;> simp only [AV.cells, List.all_cons, AV.one, List.all_nil, Bool.and_true, Bool.false_eq_true] at hv ⊢
  case agg cs =>
    obtain ⟨l, rfl, hl⟩ := h
    simpa [Value.cells] using hl
  all_goals
    refine (?_ : VRs W ρ n [_] _)
    first
      | (subst h; simp [Value.cells, VRs, VR]; done)
      | (obtain ⟨h1, rfl⟩ := h; simp [Value.cells, VRs, VR, h1]; done)
      | (obtain ⟨a, rfl, h1⟩ := h; simp only [Value.cells, VRs, VR]; exact ⟨_, _, rfl, ⟨a, rfl, h1⟩, rfl⟩)
      | (obtain ⟨h0, a, c, rfl, h1⟩ := h; simp only [Value.cells, VRs, VR]; exact ⟨_, _, rfl, ⟨h0, a, c, rfl, h1⟩, rfl⟩)
      | (obtain ⟨a, c, rfl, h1⟩ := h; simp only [Value.cells, VRs, VR]; exact ⟨_, _, rfl, ⟨a, c, rfl, h1⟩, rfl⟩)
end

section
variable {P : Program} {W : World} {ρ : Plan} {H : Heap} {w : World} {t : List AV} {a : Act}
theorem op_move {o : Oper} {s : SO} {x : Operand} (ho : o.op = .move x ∨ o.op = .assign x) (hs : slimOp P o.op = some s) (hr : Rel W ρ H w) (ha : AR W ρ H.length t a) {v : AV} {H' : Heap} (he : aop (evx t) H s = some (v, H')) : Fine P W ρ H w o a v H' := by
  rcases ho with ho | ho <;> rw [ho] at hs <;> simp only [slimOp, Option.map_eq_some_iff] at hs <;> obtain ⟨sx, hx, rfl⟩ := hs <;> simp only [aop, Option.some.injEq, Prod.mk.injEq] at he <;> obtain ⟨rfl, rfl⟩ := he <;>
    exact fine_pure hr (by simp [execOp, ho]) (evx_ok ha hx)
theorem op_pick {o : Oper} {s : SO} {c x y : Operand} (ho : o.op = .pick c x y) (hs : slimOp P o.op = some s) (hr : Rel W ρ H w) (ha : AR W ρ H.length t a) {v : AV} {H' : Heap} (he : aop (evx t) H s = some (v, H')) : Fine P W ρ H w o a v H' := by
  rw [ho] at hs
  simp only [slimOp, Option.map_eq_some_iff, Option.bind_eq_some_iff] at hs
  obtain ⟨sc, hc, sx, hx, sy, hy, rfl⟩ := hs
  have h1 := evx_ok ha hc
  simp only [aop] at he
  split at he <;> (try (cases he; done)) <;> rename_i hb <;> rw [hb] at h1 <;> simp only [VR] at h1 <;> simp only [Option.some.injEq, Prod.mk.injEq] at he <;> obtain ⟨rfl, rfl⟩ := he
  · exact fine_pure hr (by simp [execOp, ho, h1, asBool]) (evx_ok ha hx)
  · exact fine_pure hr (by simp [execOp, ho, h1, asBool]) (evx_ok ha hy)
theorem anew_ok {e : TypeId} {l : List AV} {xs : List Value} (hr : Rel W ρ H w) (hl : VRs W ρ H.length l xs) {v : AV} {H' : Heap} (he : anew H l e = some (v, H')) :
    Stp W ρ H w (ρ.ext H.length ⟨w.heap.size, 0, xs.length⟩) H' { w with heap := w.heap.push (.cells xs.toArray e) } ∧ VR W (ρ.ext H.length ⟨w.heap.size, 0, xs.length⟩) H'.length v (.pointer (some ⟨w.heap.size, 0, none⟩)) := by
  unfold anew at he
  split at he <;> simp at he
  rename_i h1
  obtain ⟨rfl, rfl⟩ := he
  refine ⟨?_, ?_⟩
  · refine stp_new hr (c := xs.toArray) (by simp [VRs_length hl]) (fun j v hj => ?_) true (fun _ => by simp [VRs_length hl])
    obtain ⟨x, h2, h3⟩ := VRs_get hl hj
    exact ⟨x, by simpa using h2, h3, by rw [List.all_eq_true] at h1; exact h1 v (List.mem_of_getElem? hj)⟩
  · simp [VR, Plan.ext_at]
theorem anew_cells {H : Heap} {l : List AV} {e : TypeId} {r : AV × Heap} (h : anew H l e = some r) : l.all AV.one = true := by
  unfold anew at h
  split at h
  · assumption
  · cases h
theorem op_box {o : Oper} {s : SO} (ho : (∃ e x, o.op = .box e x) ∨ (∃ e, o.op = .alloc e)) (hs : slimOp P o.op = some s) (hr : Rel W ρ H w) (ha : AR W ρ H.length t a) {v : AV} {H' : Heap} (he : aop (evx t) H s = some (v, H')) : Fine P W ρ H w o a v H' := by
  rcases ho with ⟨e, x, ho⟩ | ⟨e, ho⟩ <;> rw [ho] at hs
  · simp only [slimOp, Option.map_eq_some_iff] at hs
    obtain ⟨sx, hx, rfl⟩ := hs
    simp only [aop] at he
    have h1 := cells_ok (evx_ok ha hx) (anew_cells he)
    obtain ⟨h2, h3⟩ := anew_ok hr h1 he
    refine ⟨_, _, _, .inl ?_, h2, h3⟩
    simp [execOp, ho, Instr.box, newVar, newRow]
  · simp only [slimOp, Option.map_eq_some_iff] at hs
    obtain ⟨z, hz, rfl⟩ := hs
    simp only [aop, evx] at he
    obtain ⟨x, hx, hv⟩ := run_zeroValue (P := P) (W := W) (ρ := ρ) (n := H.length) (w := w) hz
    have h1 := cells_ok hv (anew_cells he)
    obtain ⟨h2, h3⟩ := anew_ok hr h1 he
    refine ⟨_, _, _, .inl ?_, h2, h3⟩
    simp [execOp, ho, Instr.alloc, hx, newVar, newRow]
theorem op_load {o : Oper} {s : SO} {ty : TypeId} {p : Operand} (ho : o.op = .load ty p) (hs : slimOp P o.op = some s) (hr : Rel W ρ H w) (ha : AR W ρ H.length t a) {v : AV} {H' : Heap} (he : aop (evx t) H s = some (v, H')) : Fine P W ρ H w o a v H' := by
  rw [ho] at hs
  simp only [slimOp, Option.map_eq_some_iff, Option.bind_eq_some_iff] at hs
  obtain ⟨sh, hsh, sp, hp, rfl⟩ := hs
  simp only [aop, Option.bind_eq_some_iff, Option.map_eq_some_iff] at he
  obtain ⟨l, hl, u, hu, he⟩ := he
  obtain ⟨rfl, rfl⟩ := Prod.mk.inj he
  obtain ⟨ad, xs, h1, h2, h3, h4, h5, h6, h7⟩ := aload_ok hr (evx_ok ha hp) hl
  unfold shapeT at hsh
  split at hsh <;> (try (cases hsh; done))
  · rename_i i fs hi hu'
    injection hsh with hsh
    subst hsh
    simp only [shape, Option.some.injEq] at hu
    subst hu
    refine fine_pure hr (x := .agg xs.toArray) ?_ (by simp only [VR]; exact ⟨xs, rfl, h2⟩)
    have hl := run_loadCells_xs (P := P) h4 h5
    simp only [Option.getD_some] at hl
    simp [execOp, ho, h1, Instr.loadAt, Instr.sureAddr, loadVar, isAgg, run_underlying' hu', sizeOf, typeInfo, hi, hl]
  · rename_i i k e hi hu'
    injection hsh with hsh
    subst hsh
    simp only [shape, Option.some.injEq] at hu
    subst hu
    refine fine_pure hr (x := .agg xs.toArray) ?_ (by simp only [VR]; exact ⟨xs, rfl, h2⟩)
    have hl := run_loadCells_xs (P := P) h4 h5
    simp only [Option.getD_some] at hl
    simp [execOp, ho, h1, Instr.loadAt, Instr.sureAddr, loadVar, isAgg, run_underlying' hu', sizeOf, typeInfo, hi, hl]
  · rename_i i d hns hna hi hu'
    split at hsh <;> simp at hsh
    subst hsh
    simp only [shape] at hu
    simp only [Option.getD_none] at h3 h4
    match l, h3, xs, h4 with
    | [v0], _, [x0], _ =>
      simp only [one?, Option.some.injEq] at hu
      subst hu
      simp only [VRs] at h2
      obtain ⟨y, r, he, h2, _⟩ := h2
      injection he with he
      subst he
      have hc := h5 0 x0 rfl
      simp only [Addr.add, if_true] at hc
      refine fine_pure hr (x := x0) ?_ h2
      have hagg : (isAgg ty).run P w = .ok false w := by
        unfold isAgg
        simp only [Sem.run_bind, run_underlying' hu', Result.andThen_ok]
        first
          | rfl
          | (split
             · exact absurd rfl (hns _)
             · exact absurd rfl (hna _ _)
             · rfl)
      simp [execOp, ho, h1, Instr.loadAt, Instr.sureAddr, loadVar, hagg, hc]
theorem op_store {o : Oper} {s : SO} {ty : TypeId} {p x : Operand} (ho : o.op = .store ty p x) (hs : slimOp P o.op = some s) (hr : Rel W ρ H w) (ha : AR W ρ H.length t a) {v : AV} {H' : Heap} (he : aop (evx t) H s = some (v, H')) : Fine P W ρ H w o a v H' := by
  rw [ho] at hs
  simp only [slimOp, Option.map_eq_some_iff, Option.bind_eq_some_iff] at hs
  obtain ⟨k, hk, sp, hp, sx, hx, rfl⟩ := hs
  simp only [aop] at he
  split at he <;> simp only [Option.map_eq_some_iff, reduceCtorEq] at he
  rename_i hlen
  obtain ⟨H1, h1, he⟩ := he
  obtain ⟨rfl, rfl⟩ := Prod.mk.inj he
  have hone : (evx t sx).cells.all AV.one = true := by
    unfold astore at h1
    split at h1 <;> (try (cases h1; done))
    split at h1 <;> (try (cases h1; done))
    split at h1 <;> (try (cases h1; done))
    rename_i hh
    exact hh.2
  have hc := cells_ok (evx_ok ha hx) hone
  obtain ⟨ad, w', h2, h3, h4⟩ := astore_ok (P := P) hr (evx_ok ha hp) hc h1
  refine ⟨undef, w', ρ, .inr ⟨?_, rfl⟩, h4, by simp only [VR]⟩
  have hsz : (a.eval x).cells.size = k := by
    have := VRs_length hc
    simp at this
    omega
  simp [execOp, ho, h2, Instr.storeAt, Instr.sureAddr, storeVar, run_sizeOf' hk, hsz, h3]
theorem op_nilck {o : Oper} {s : SO} {x : Operand} (ho : o.op = .nilCheck x) (hs : slimOp P o.op = some s) (hr : Rel W ρ H w) (ha : AR W ρ H.length t a) {v : AV} {H' : Heap} (he : aop (evx t) H s = some (v, H')) : Fine P W ρ H w o a v H' := by
  rw [ho] at hs
  simp only [slimOp, Option.map_eq_some_iff] at hs
  obtain ⟨sx, hx, rfl⟩ := hs
  have h0 := evx_ok ha hx
  simp only [aop] at he
  split at he <;> (try (cases he; done)) <;> rename_i hv <;> rw [hv] at h0 <;> simp only [Option.some.injEq, Prod.mk.injEq] at he <;> obtain ⟨rfl, rfl⟩ := he <;> refine fine_pure hr (x := a.eval x) ?_ h0 <;> simp only [VR] at h0
  · obtain ⟨_, h1⟩ := h0; simp [execOp, ho, h1]
  · obtain ⟨_, h1, _⟩ := h0; simp [execOp, ho, h1]
  · obtain ⟨_, h1, _⟩ := h0; simp [execOp, ho, h1]
end
end Go.Den
