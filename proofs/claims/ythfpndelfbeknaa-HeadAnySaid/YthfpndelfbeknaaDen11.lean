/- Slices that are made, grown, copied into, cleared. -/
import Derived.Test.YthfpndelfbeknaaDen10
set_option linter.unusedVariables false
set_option linter.unusedSimpArgs false
namespace Go.Den
open Go.RowKit (Below)
section
variable {P : Program} {W : World} {ρ : Plan} {H : Heap} {w : World} {t : List AV} {a : Act}

theorem VRs_all {n : Nat} {l : List AV} {xs : List Value} (h : VRs W ρ n l xs) (h1 : l.all AV.one = true) : ∀ (j : Nat) (v : AV), l[j]? = some v → ∃ x, xs[j]? = some x ∧ VR W ρ n v x ∧ v.one = true := by
  intro j v hj
  obtain ⟨x, h2, h3⟩ := VRs_get h hj
  rw [List.all_eq_true] at h1
  exact ⟨x, h2, h3, h1 v (List.mem_of_getElem? hj)⟩
theorem absV1s_one : ∀ {l : List Value} {m : List AV}, l.mapM absV1 = some m → m.all AV.one = true
  | [], m, h => by simp at h; subst h; rfl
  | v :: l, m, h => by
    simp only [List.mapM_cons, Option.bind_eq_bind, Option.bind_eq_some_iff, Option.pure_def, Option.some.injEq] at h
    obtain ⟨x, hx, r, hr, rfl⟩ := h
    simp only [List.all_cons, Bool.and_eq_true]
    exact ⟨(absV1_ok (W := default) (ρ := fun _ => ⟨0, 0, 0⟩) (n := 0) hx).2, absV1s_one hr⟩
theorem zeroT_one {e : TypeId} {z : AV} (hz : zeroT P e = some z) : z.cells.all AV.one = true := by
  simp only [zeroT, Option.bind_eq_some_iff] at hz
  obtain ⟨i', _, x, _, hz⟩ := hz
  unfold absV at hz
  split at hz
  · simp only [Option.map_eq_some_iff] at hz
    obtain ⟨m', hm', rfl⟩ := hz
    exact absV1s_one hm'
  · obtain ⟨_, h2⟩ := absV1_ok (W := default) (ρ := fun _ => ⟨0, 0, 0⟩) (n := 0) hz
    cases z <;> simp_all [AV.one, AV.cells]
theorem again_one {z : List AV} (h : z.all AV.one = true) (n : Nat) : ((List.replicate n z).flatten).all AV.one = true := by
  rw [List.all_eq_true] at h ⊢
  intro v hv
  simp only [List.mem_flatten, List.mem_replicate] at hv
  obtain ⟨l', ⟨_, rfl⟩, hv⟩ := hv
  exact h v hv
theorem fill_size {place : Nat → Option (Nat × Nat)} : ∀ {parts : List (Nat × Value)} {c c' : Array Value}, Instr.fill place c parts = some c' → c'.size = c.size
  | [], c, c', h => by simp [Instr.fill] at h; subst h; rfl
  | p :: parts, c, c', h => by
    simp only [Instr.fill] at h
    split at h <;> (try (cases h; done))
    rename_i off sz hp
    split at h <;> (try (cases h; done))
    have h0 := fill_size h
    rw [h0, fold_zip]
    obtain ⟨c2, h5, h6, _⟩ := put_all off p.2.cells.toList 0 c
    rw [h5]; exact h6
theorem op_bsl {o : Oper} {s : SO} {ty : TypeId} {len : Nat} {parts : Array (Nat × Operand)} (ho : o.op = .buildSlice ty len parts) (hs : slimOp P o.op = some s) (hr : Rel W ρ H w) (ha : AR W ρ H.length t a) {v : AV} {H' : Heap} (he : aop (evx t) H s = some (v, H')) : Fine P W ρ H w o a v H' := by
  rw [ho] at hs
  simp only [slimOp] at hs
  split at hs <;> (try (cases hs; done))
  rename_i e hu
  simp only [Option.bind_eq_some_iff] at hs
  obtain ⟨k, hk, z, hz, hs⟩ := hs
  split at hs <;> simp only [Option.map_eq_some_iff, reduceCtorEq] at hs
  rename_i hc
  obtain ⟨hc1, hc2, hc3⟩ := hc
  obtain ⟨ps, hps, rfl⟩ := hs
  obtain ⟨zv, hzr, hzc⟩ := zero_cells (P := P) (W := W) (ρ := ρ) (H := H) (w := w) hz
  have hzl := VRs_length hzc
  simp only [Array.length_toList] at hzl
  simp only [aop, Option.bind_eq_some_iff] at he
  obtain ⟨c, hc, he⟩ := he
  split at he <;> simp only [Option.some.injEq, Prod.mk.injEq, reduceCtorEq] at he
  rename_i hall
  obtain ⟨rfl, rfl⟩ := he
  have hrow := again_ok hzc (by omega) len
  obtain ⟨c', h1, h2⟩ := fill_ok ha hps hrow hc
  have hcl := VRs_length h2
  have hnew := stp_new hr (l := c) (c := c') (e := e) (by simp only [Array.length_toList] at hcl; omega) (fun j v hj => by
    obtain ⟨x, h3, h4, h5⟩ := VRs_all h2 hall j v hj
    exact ⟨x, by rwa [Array.getElem?_toList] at h3, h4, h5⟩) true (fun _ => by simpa using hcl)
  refine ⟨.slice (some ⟨w.heap.size, 0, none⟩) len len, _, _, .inl ?_, hnew, ?_⟩
  · have hparts : (parts.map fun (p : Nat × Operand) => (p.1, a.eval p.2)).toList = parts.toList.map fun p => (p.1, a.eval p.2) := by simp
    have hsz : ¬ len * k > 2 ^ 24 := by omega
    rw [hc2] at h1
    by_cases h0 : len * k = 0
    · have hlen : len = 0 := by
        rcases Nat.mul_eq_zero.1 h0 with h | h
        · exact h
        · exact absurd h hc3
      subst hlen
      simp only [Nat.zero_mul] at h1
      have : ((Array.range 0).map fun x => (#[] : Array Value)[x % (#[] : Array Value).size]!) = (Array.range 0).map fun x => zv.cells[x % zv.cells.size]! := by simp
      simp only [execOp, ho, Instr.buildSlice, Sem.run_bind, run_underlying' hu, Result.andThen_ok, run_sizeOf' hk, Nat.zero_mul, Sem.run_ite, hparts]
      rw [if_neg (by omega)]
      simp only [Result.andThen_ok, Sem.run_pure, if_true, this, h1, newRow, Sem.run_bind, run_newObj]
    · simp only [execOp, ho, Instr.buildSlice, Sem.run_bind, run_underlying' hu, Result.andThen_ok, run_sizeOf' hk, Sem.run_ite, hparts]
      rw [if_neg hsz, if_neg h0]
      simp only [Result.andThen_ok, Sem.run_pure, Sem.run_bind, hzr, h1, newRow, run_newObj]
  · have hcc : c'.size = len * k := by
      have h3 := VRs_length hrow
      have h4 : c'.size = ((Array.range (len * z.cells.length)).map (zv.cells[· % zv.cells.size]!)).size := by
        exact fill_size h1
      rw [h4]; simp [hc2]
    simp only [VR, List.length_append, List.length_cons, List.length_nil, Plan.ext_at]
    exact ⟨by omega, _, _, rfl, Nat.le_refl _, .inr rfl, by omega, fun q hq => by injection hq⟩
theorem wrap64_small {n : Int} (h0 : 0 ≤ n) (h1 : n ≤ 4294967296) : IntKind.i64.wrap n = n := by
  have h2 : n % (2 ^ IntKind.i64.bits : Int) = n := by
    have e : (2 ^ IntKind.i64.bits : Int) = 18446744073709551616 := by decide
    rw [e]; omega
  have e : (2 ^ (IntKind.i64.bits - 1) : Int) = 9223372036854775808 := by decide
  unfold IntKind.wrap
  simp only [h2, e]
  rw [if_neg (by simp; omega)]
theorem op_mksl {o : Oper} {s : SO} {ty : TypeId} {l c : Operand} (ho : o.op = .makeSlice ty l c) (hs : slimOp P o.op = some s) (hr : Rel W ρ H w) (ha : AR W ρ H.length t a) {v : AV} {H' : Heap} (he : aop (evx t) H s = some (v, H')) : Fine P W ρ H w o a v H' := by
  rw [ho] at hs
  simp only [slimOp] at hs
  split at hs <;> (try (cases hs; done))
  rename_i e hu
  simp only [Option.bind_eq_some_iff] at hs
  obtain ⟨i, hi, z, hz, hs⟩ := hs
  split at hs <;> simp only [Option.bind_eq_some_iff, Option.map_eq_some_iff, reduceCtorEq] at hs
  rename_i hc
  obtain ⟨hc1, hc2, hc3⟩ := hc
  obtain ⟨sl, hl, sc, hcc, rfl⟩ := hs
  obtain ⟨zv, hzr, hzc⟩ := zero_cells (P := P) (W := W) (ρ := ρ) (H := H) (w := w) hz
  have hzl := VRs_length hzc
  simp only [Array.length_toList] at hzl
  simp only [aop] at he
  split at he <;> (try (cases he; done))
  rename_i k1 n k2 m hn hm
  have h1 := evx_ok ha hl
  have h2 := evx_ok ha hcc
  rw [hn] at h1
  rw [hm] at h2
  simp only [VR] at h1 h2
  split at he <;> simp only [Option.some.injEq, Prod.mk.injEq, reduceCtorEq] at he
  rename_i hb
  obtain ⟨hb0, hb1, hb2⟩ := hb
  simp only [roomy, decide_eq_true_eq] at hb2
  obtain ⟨rfl, rfl⟩ := he
  have hrow := again_ok hzc (by omega) m.toNat
  have hall := again_one (zeroT_one hz) m.toNat
  have hnew := stp_new hr (l := (List.replicate m.toNat z.cells).flatten) (c := (Array.range (m.toNat * z.cells.length)).map (zv.cells[· % zv.cells.size]!)) (e := e) (by simp) (fun j v hj => by
    obtain ⟨x, h3, h4, h5⟩ := VRs_all hrow hall j v hj
    exact ⟨x, by rwa [Array.getElem?_toList] at h3, h4, h5⟩) true (fun _ => by simp)
  have hw1 := wrap64_small (n := n) hb0 (by omega)
  have hw2 := wrap64_small (n := m) (by omega) (by omega)
  have hbig : ¬ ((i.bytes : Int) * m > 2 ^ 48) := by
    have : (i.bytes : Int) * m ≤ 1024 * 4294967296 := Int.mul_le_mul (by omega) (by omega) (by omega) (by omega)
    omega
  refine ⟨.slice (some ⟨w.heap.size, 0, none⟩) n.toNat m.toNat, _, _, .inl ?_, hnew, ?_⟩
  · simp only [execOp, ho, Instr.makeSlice, Sem.run_bind, run_underlying' hu, Result.andThen_ok, h1, h2, asInt, asIntOf, Sem.run_pure, run_typeInfo hi, hw1, hw2, Sem.run_ite]
    have e1 : decide (m < 0) = false := by simp; omega
    have e2 : decide ((i.bytes : Int) * m > 2 ^ 48) = false := by simpa using hbig
    have e3 : decide (n < 0) = false := by simp; omega
    have e4 : decide (n > m) = false := by simp; omega
    simp only [e1, e2, e3, e4, Bool.or_false, Bool.false_eq_true, if_false, run_askRoom, Result.andThen_ok, Sem.run_pure, sizeOf, Sem.run_bind, run_typeInfo hi, newRow, run_newObj]
    by_cases h0 : m.toNat * i.size = 0
    · have hm0 : m.toNat = 0 := by
        rcases Nat.mul_eq_zero.1 h0 with h | h
        · exact h
        · exact absurd h hc3
      simp [hm0, show Array.range 0 = #[] from rfl]
    · rw [if_neg h0, hc2]
      simp only [hzr, Result.andThen_ok]
  · simp only [VR, List.length_append, List.length_cons, List.length_nil, Plan.ext_at]
    refine ⟨by omega, _, _, rfl, by omega, .inr rfl, ?_, fun q hq => by injection hq⟩
    simp
end
end Go.Den
