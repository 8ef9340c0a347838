/- Operations on slices, strings and structs. -/
import Derived.Test.YthfpndelfbeknaaDen6
set_option linter.unusedVariables false
set_option linter.unusedSimpArgs false
namespace Go.Den
open Go.RowKit (Below)
section
variable {P : Program} {W : World} {ρ : Plan} {H : Heap} {w : World} {t : List AV} {a : Act}

/-- A part of a value's cells, of a shape. -/
theorem part_ok {n : Nat} {ty : TypeId} {sh : Option Nat} (hsh : shapeT P ty = some sh) {l : List AV} {xs : List Value} (hv : VRs W ρ n l xs) {off : Nat} (hl : off + sh.getD 1 ≤ l.length) {u : AV} (hu : shape sh ((l.drop off).take (sh.getD 1)) = some u) :
    ∃ x, (part ty xs.toArray off).run P w = .ok x w ∧ VR W ρ n u x := by
  have h2 := VRs_take (VRs_drop hv off) (sh.getD 1)
  unfold shapeT at hsh
  split at hsh <;> (try (cases hsh; done))
  · rename_i i fs hi hu'
    injection hsh with hsh
    subst hsh
    simp only [shape, Option.some.injEq, Option.getD_some] at hu h2
    subst hu
    refine ⟨.agg ((xs.drop off).take i.size).toArray, ?_, by simp only [VR]; exact ⟨_, rfl, h2⟩⟩
    simp only [part, isAgg, Sem.run_bind, run_underlying' hu', Result.andThen_ok, Sem.run_pure, if_true, sizeOf, run_typeInfo hi]
    congr 2
    apply Array.ext'
    simp [List.take_drop, Nat.add_comm]
  · rename_i i k e hi hu'
    injection hsh with hsh
    subst hsh
    simp only [shape, Option.some.injEq, Option.getD_some] at hu h2
    subst hu
    refine ⟨.agg ((xs.drop off).take i.size).toArray, ?_, by simp only [VR]; exact ⟨_, rfl, h2⟩⟩
    simp only [part, isAgg, Sem.run_bind, run_underlying' hu', Result.andThen_ok, Sem.run_pure, if_true, sizeOf, run_typeInfo hi]
    congr 2
    apply Array.ext'
    simp [List.take_drop, Nat.add_comm]
  · rename_i i d hns hna hi hu'
    split at hsh <;> simp at hsh
    subst hsh
    simp only [shape, Option.getD_none] at hu h2 hl
    have hj : off < l.length := by omega
    have e1 : (l.drop off).take 1 = [l[off]] := by
      rw [List.drop_eq_getElem_cons hj]; rfl
    rw [e1] at hu
    simp only [one?, Option.some.injEq] at hu
    subst hu
    obtain ⟨x, h3, h4⟩ := VRs_get hv (List.getElem?_eq_getElem hj)
    refine ⟨x, ?_, h4⟩
    have hagg : (isAgg ty).run P w = .ok false w := by
      unfold isAgg
      simp only [Sem.run_bind, run_underlying' hu', Result.andThen_ok]
      first
        | rfl
        | (split
           · exact absurd rfl (hns _)
           · exact absurd rfl (hna _ _)
           · rfl)
    simp [part, hagg, h3]
theorem op_fld {o : Oper} {s : SO} {ty : TypeId} {x : Operand} {i : Nat} (ho : o.op = .field ty x i) (hs : slimOp P o.op = some s) (hr : Rel W ρ H w) (ha : AR W ρ H.length t a) {v : AV} {H' : Heap} (he : aop (evx t) H s = some (v, H')) : Fine P W ρ H w o a v H' := by
  rw [ho] at hs
  simp only [slimOp] at hs
  split at hs <;> (try (cases hs; done))
  rename_i fs hu
  simp only [Option.bind_eq_some_iff, Option.map_eq_some_iff] at hs
  obtain ⟨f, hf, sh, hsh, sx, hx, rfl⟩ := hs
  have h0 := evx_ok ha hx
  simp only [aop] at he
  split at he <;> (try (cases he; done))
  rename_i c hv
  rw [hv] at h0
  simp only [VR] at h0
  obtain ⟨l, h1, h2⟩ := h0
  split at he <;> (try (cases he; done))
  rename_i hle
  simp only [Option.map_eq_some_iff] at he
  obtain ⟨u, hu', he⟩ := he
  obtain ⟨rfl, rfl⟩ := Prod.mk.inj he
  obtain ⟨y, h3, h4⟩ := part_ok (P := P) (w := w) hsh h2 hle hu'
  exact fine_pure hr (x := y) (by simp [execOp, ho, h1, Instr.field, run_underlying' hu, hf, asAgg, h3]) h4
theorem op_iaddr {o : Oper} {s : SO} {ty : TypeId} {x i : Operand} (ho : o.op = .indexAddr ty x i) (hs : slimOp P o.op = some s) (hr : Rel W ρ H w) (ha : AR W ρ H.length t a) {v : AV} {H' : Heap} (he : aop (evx t) H s = some (v, H')) : Fine P W ρ H w o a v H' := by
  rw [ho] at hs
  simp only [slimOp, Option.bind_eq_some_iff] at hs
  obtain ⟨sx, hx, si, hi, hs⟩ := hs
  have h0 := evx_ok ha hx
  have h1 := evx_ok ha hi
  split at hs <;> (try (cases hs; done))
  · rename_i e hu
    simp only [Option.bind_eq_some_iff] at hs
    obtain ⟨k, hk, hs⟩ := hs
    split at hs <;> simp only [Option.some.injEq, reduceCtorEq] at hs
    subst hs
    simp only [aop, Option.bind_eq_some_iff] at he
    obtain ⟨j, hj, he⟩ := he
    obtain ⟨q, hq⟩ := aint_ok h1 hj
    split at he <;> (try (cases he; done)) <;> rename_i hv <;> rw [hv] at h0 <;> simp only [VR] at h0 <;> split at he <;> (try (cases he; done)) <;> rename_i hc <;> simp only [Option.some.injEq, Prod.mk.injEq] at he <;> obtain ⟨rfl, rfl⟩ := he
    · obtain ⟨h2, ad, c, h3, h4, h5, h6, h7⟩ := h0
      have hne : c ≠ 0 := by omega
      have had := h5.resolve_left hne
      subst had
      refine fine_pure hr (x := .pointer (some ((⟨_, _, none⟩ : Addr).add (j.toNat * k)))) (by simp [execOp, ho, h3, hq, Instr.indexAt, asIntOf, run_underlying' hu, hc.2.1, hc.2.2, run_sizeOf' hk]; rfl) ?_
      rw [add_mk]
      simp only [VR]
      exact ⟨h2, by rw [Nat.add_assoc]⟩
    · obtain ⟨ad, c, h3, h4, h5⟩ := h0
      refine fine_pure hr (x := .pointer (some (ad.add (j.toNat * k)))) (by simp [execOp, ho, h3, hq, Instr.indexAt, asIntOf, run_underlying' hu, hc.1, hc.2, run_sizeOf' hk]) ?_
      simp only [VR]
      exact ⟨_, rfl, CR_drop h5 _⟩
  · rename_i m e hu
    simp only [Option.bind_eq_some_iff] at hs
    obtain ⟨k, hk, hs⟩ := hs
    split at hs <;> simp only [Option.some.injEq, reduceCtorEq] at hs
    subst hs
    simp only [aop, Option.bind_eq_some_iff] at he
    obtain ⟨j, hj, he⟩ := he
    obtain ⟨q, hq⟩ := aint_ok h1 hj
    split at he <;> (try (cases he; done)) <;> rename_i hv <;> rw [hv] at h0 <;> simp only [VR] at h0 <;> split at he <;> (try (cases he; done)) <;> rename_i hc <;> simp only [Option.some.injEq, Prod.mk.injEq] at he <;> obtain ⟨rfl, rfl⟩ := he
    · obtain ⟨h2, h3⟩ := h0
      refine fine_pure hr (x := .pointer (some ((⟨_, _, none⟩ : Addr).add (j.toNat * k)))) (by simp [execOp, ho, h3, hq, Instr.indexAt, asIntOf, run_underlying' hu, Instr.sureAddr, hc.1, hc.2, run_sizeOf' hk]; rfl) ?_
      rw [add_mk]
      simp only [VR]
      exact ⟨h2, by rw [Nat.add_assoc]⟩
    · obtain ⟨ad, h3, h5⟩ := h0
      refine fine_pure hr (x := .pointer (some (ad.add (j.toNat * k)))) (by simp [execOp, ho, h3, hq, Instr.indexAt, asIntOf, run_underlying' hu, Instr.sureAddr, hc.1, hc.2, run_sizeOf' hk]) ?_
      simp only [VR]
      exact ⟨_, rfl, CR_drop h5 _⟩
theorem op_index {o : Oper} {s : SO} {ty : TypeId} {x i : Operand} (ho : o.op = .index ty x i) (hs : slimOp P o.op = some s) (hr : Rel W ρ H w) (ha : AR W ρ H.length t a) {v : AV} {H' : Heap} (he : aop (evx t) H s = some (v, H')) : Fine P W ρ H w o a v H' := by
  rw [ho] at hs
  simp only [slimOp, Option.bind_eq_some_iff] at hs
  obtain ⟨sx, hx, si, hi, hs⟩ := hs
  have h0 := evx_ok ha hx
  have h1 := evx_ok ha hi
  split at hs <;> (try (cases hs; done))
  · rename_i hu
    simp only [Option.some.injEq] at hs
    subst hs
    simp only [aop, Option.bind_eq_some_iff] at he
    obtain ⟨j, hj, he⟩ := he
    obtain ⟨q, hq⟩ := aint_ok h1 hj
    split at he <;> (try (cases he; done))
    rename_i b hv
    rw [hv] at h0
    simp only [VR] at h0
    split at he <;> (try (cases he; done))
    rename_i hj0
    simp only [Option.map_eq_some_iff] at he
    obtain ⟨c, hc, he⟩ := he
    obtain ⟨rfl, rfl⟩ := Prod.mk.inj he
    have hb : b[j.toNat]? = some c := by
      rw [Array.getElem?_toList] at hc
      obtain ⟨h2, h3⟩ := Array.getElem?_eq_some_iff.1 hc
      rw [getElem?_pos b j.toNat h2]
      exact congrArg some h3
    exact fine_pure hr (x := .int .u8 c.toNat) (by simp [execOp, ho, h0, hq, Instr.index, asIntOf, run_underlying' hu, hj0, hb]) (by simp [VR])
  · rename_i m e hu
    simp only [Option.bind_eq_some_iff, Option.map_eq_some_iff] at hs
    obtain ⟨k, hk, sh, hsh, rfl⟩ := hs
    simp only [aop, Option.bind_eq_some_iff] at he
    obtain ⟨j, hj, he⟩ := he
    obtain ⟨q, hq⟩ := aint_ok h1 hj
    split at he <;> (try (cases he; done))
    rename_i c hv
    rw [hv] at h0
    simp only [VR] at h0
    obtain ⟨l, h2, h3⟩ := h0
    split at he <;> (try (cases he; done))
    rename_i hc
    simp only [Option.map_eq_some_iff] at he
    obtain ⟨u, hu', he⟩ := he
    obtain ⟨rfl, rfl⟩ := Prod.mk.inj he
    obtain ⟨y, h4, h5⟩ := part_ok (P := P) (w := w) hsh h3 hc.2.2 hu'
    exact fine_pure hr (x := y) (by simp [execOp, ho, h2, hq, Instr.index, asIntOf, run_underlying' hu, hc.1, hc.2.1, run_sizeOf' hk, h4]) h5
end
end Go.Den
