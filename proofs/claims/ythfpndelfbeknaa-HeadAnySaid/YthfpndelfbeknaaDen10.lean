/- Structs, arrays and slices that are built; rows that are made, grown, copied, cleared. -/
import Derived.Test.YthfpndelfbeknaaDen9
set_option linter.unusedVariables false
set_option linter.unusedSimpArgs false
namespace Go.Den
open Go.RowKit (Below)
section
variable {P : Program} {W : World} {ρ : Plan} {H : Heap} {w : World} {t : List AV} {a : Act}

theorem put_all (off : Nat) : ∀ (vs : List Value) (k : Nat) (c : Array Value), ∃ c' : Array Value, (vs.zipIdx k).foldl (fun (cs : Array Value) (p : Value × Nat) => cs.setIfInBounds (off + p.2) p.1) c = c' ∧ c'.size = c.size ∧
    ∀ j, c'[j]? = if off + k ≤ j ∧ j < off + k + vs.length ∧ j < c.size then vs[j - (off + k)]? else c[j]?
  | [], k, c => ⟨c, rfl, rfl, fun j => by rw [if_neg (by simp; omega)]⟩
  | v :: vs, k, c => by
    obtain ⟨c', h1, h2, h3⟩ := put_all off vs (k + 1) (c.setIfInBounds (off + k) v)
    refine ⟨c', by simpa [List.zipIdx_cons] using h1, by simpa using h2, fun j => ?_⟩
    rw [h3 j]
    simp only [Array.size_setIfInBounds, List.length_cons]
    by_cases hj : off + (k + 1) ≤ j ∧ j < off + (k + 1) + vs.length ∧ j < c.size
    · rw [if_pos hj, if_pos (by omega), show j - (off + k) = (j - (off + (k + 1))) + 1 by omega, List.getElem?_cons_succ]
    · rw [if_neg hj]
      by_cases hjo : off + k = j
      · subst hjo
        by_cases hs : off + k < c.size
        · rw [if_pos (by omega)]; simp [Array.getElem?_setIfInBounds, hs]
        · rw [if_neg (by omega)]; simp [Array.getElem?_setIfInBounds, hs]
      · rw [if_neg (by omega), Array.getElem?_setIfInBounds_ne hjo]
theorem fold_zip (off : Nat) (vs c : Array Value) : vs.zipIdx.foldl (fun (cs : Array Value) (p : Value × Nat) => cs.setIfInBounds (off + p.2) p.1) c = (vs.toList.zipIdx 0).foldl (fun (cs : Array Value) (p : Value × Nat) => cs.setIfInBounds (off + p.2) p.1) c := by
  rw [← Array.foldl_toList]
  simp
theorem fill_ok {n : Nat} (ha : AR W ρ n t a) {place : Nat → Option (Nat × Nat)} : ∀ {parts : List (Nat × Operand)} {ps : List (Nat × Nat × SX)} (hp : slimParts place parts = some ps) {z z' : List AV} {c : Array Value} (hz : VRs W ρ n z c.toList) (hf : fillIn (evx t) z ps = some z'),
    ∃ c', Instr.fill place c (parts.map fun p => (p.1, a.eval p.2)) = some c' ∧ VRs W ρ n z' c'.toList
  | [], ps, hp, z, z', c, hz, hf => by
    simp [slimParts] at hp
    subst hp
    simp only [fillIn, Option.some.injEq] at hf
    subst hf
    exact ⟨c, rfl, hz⟩
  | p :: parts, ps, hp, z, z', c, hz, hf => by
    simp only [slimParts, List.mapM_cons, Option.bind_eq_bind, Option.bind_eq_some_iff, Option.pure_def, Option.some.injEq, Option.map_eq_some_iff] at hp
    obtain ⟨q, ⟨⟨off, k⟩, hpl, sx, hx, rfl⟩, ps', hps, rfl⟩ := hp
    simp only [fillIn] at hf
    split at hf <;> (try (cases hf; done))
    rename_i hc
    obtain ⟨hc1, hc2, hc3⟩ := hc
    have hv := cells_ok (evx_ok ha hx) hc3
    have hlen := VRs_length hv
    have hzl := VRs_length hz
    simp only [Array.length_toList] at hzl hlen
    obtain ⟨c', h1, h2, h3⟩ := put_all off (a.eval p.2).cells.toList 0 c
    have hz' : VRs W ρ n (splice z off (evx t sx).cells) c'.toList := by
      rw [VRs_iff]
      refine ⟨by have h0 := splice_length (l := z) (vs := (evx t sx).cells) (off := off) (by omega); simp only [Array.length_toList]; omega, fun j v x hj hxj => ?_⟩
      rw [splice_get (by omega)] at hj
      rw [Array.getElem?_toList, h3 j] at hxj
      split at hj
      · rename_i hr
        have hjz : j < c.size := by omega
        rw [if_pos (by simp only [Array.length_toList]; omega), Nat.add_zero] at hxj
        exact ((VRs_iff _ _).1 hv).2 _ v x hj hxj
      · rename_i hr
        rw [if_neg (by simp only [Array.length_toList]; omega)] at hxj
        exact ((VRs_iff _ _).1 hz).2 j v x hj (by rw [Array.getElem?_toList]; exact hxj)
    obtain ⟨c2, h4, h5⟩ := fill_ok ha (parts := parts) (ps := ps') (by simpa [slimParts] using hps) hz' hf
    refine ⟨c2, ?_, h5⟩
    simp only [List.map_cons, Instr.fill, hpl]
    rw [if_neg (by simp only [Bool.or_eq_true, decide_eq_true_eq]; omega)]
    have := fold_zip off (a.eval p.2).cells c
    rw [this, h1]
    exact h4
theorem mapM_places {fs : List Field} {pl : List (Nat × Nat)} (h : (fs.mapM fun f => (sizeT P f.type).map fun n => (f.offset, n)) = some pl) : (fs.mapM fun f => (do pure (f.offset, ← sizeOf f.type) : Sem (Nat × Nat))).run P w = .ok pl w := by
  induction fs generalizing pl with
  | nil => simp at h; subst h; simp
  | cons f fs ih =>
    simp only [List.mapM_cons, Option.bind_eq_bind, Option.bind_eq_some_iff, Option.pure_def, Option.some.injEq, Option.map_eq_some_iff] at h
    obtain ⟨q, ⟨n, hn, rfl⟩, pl', hpl, rfl⟩ := h
    simp only [List.mapM_cons, Sem.run_bind, run_sizeOf' hn, Result.andThen_ok, Sem.run_pure, ih hpl]
theorem zero_cells {ty : TypeId} {z : AV} (hz : zeroT P ty = some z) : ∃ x, (zeroValue ty).run P w = .ok x w ∧ VRs W ρ H.length z.cells x.cells.toList := by
  simp only [zeroT, Option.bind_eq_some_iff] at hz
  obtain ⟨i, hi, x, hx, hz⟩ := hz
  refine ⟨x, by simp [zeroValue, typeInfo, hi, hx], ?_⟩
  unfold absV at hz
  split at hz
  · rename_i cs
    simp only [Option.map_eq_some_iff] at hz
    obtain ⟨m, hm, rfl⟩ := hz
    simpa [AV.cells, Value.cells] using absV1s_ok hm
  · rename_i v hna
    obtain ⟨h1, h2⟩ := absV1_ok (W := W) (ρ := ρ) (n := H.length) hz
    refine cells_ok h1 ?_
    cases z <;> simp_all [AV.one, AV.cells]
theorem op_build {o : Oper} {s : SO} {ty : TypeId} {parts : Array (Nat × Operand)} (ho : o.op = .build ty parts) (hs : slimOp P o.op = some s) (hr : Rel W ρ H w) (ha : AR W ρ H.length t a) {v : AV} {H' : Heap} (he : aop (evx t) H s = some (v, H')) : Fine P W ρ H w o a v H' := by
  rw [ho] at hs
  simp only [slimOp, Option.bind_eq_some_iff] at hs
  obtain ⟨z, hz, hs⟩ := hs
  obtain ⟨zv, hzr, hzc⟩ := zero_cells (P := P) (W := W) (ρ := ρ) (H := H) (w := w) hz
  have hparts : (parts.map fun (p : Nat × Operand) => (p.1, a.eval p.2)).toList = parts.toList.map fun p => (p.1, a.eval p.2) := by simp
  split at hs <;> (try (cases hs; done))
  · rename_i fs hu
    simp only [Option.bind_eq_some_iff, Option.map_eq_some_iff] at hs
    obtain ⟨pl, hpl, ps, hps, rfl⟩ := hs
    simp only [aop, Option.map_eq_some_iff] at he
    obtain ⟨c, hc, he⟩ := he
    obtain ⟨rfl, rfl⟩ := Prod.mk.inj he
    obtain ⟨c', h1, h2⟩ := fill_ok ha hps hzc hc
    refine fine_pure hr (x := .agg c') ?_ (by simp only [VR]; exact ⟨c'.toList, by simp, h2⟩)
    have hm := mapM_places (P := P) (w := w) hpl
    have hfill : Instr.fill (fun x => pl.toArray[x]?) zv.cells (parts.toList.map fun p => (p.1, a.eval p.2)) = some c' := by simpa using h1
    have hm2 : (fs.mapM fun f => (do pure (f.offset, ← sizeOf f.type) : Sem (Nat × Nat))).run P w = .ok pl.toArray w := by
      rw [Array.mapM_eq_mapM_toList]
      simp only [Sem.run_map, hm, Result.andThen_ok]
    simp only [execOp, ho, Instr.build, Sem.run_bind, hzr, Result.andThen_ok, run_underlying' hu, hm2, hparts, hfill, Sem.run_pure]
  · rename_i m e hu
    simp only [Option.bind_eq_some_iff, Option.map_eq_some_iff] at hs
    obtain ⟨k, hk, ps, hps, rfl⟩ := hs
    simp only [aop, Option.map_eq_some_iff] at he
    obtain ⟨c, hc, he⟩ := he
    obtain ⟨rfl, rfl⟩ := Prod.mk.inj he
    obtain ⟨c', h1, h2⟩ := fill_ok ha hps hzc hc
    refine fine_pure hr (x := .agg c') ?_ (by simp only [VR]; exact ⟨c'.toList, by simp, h2⟩)
    simp only [execOp, ho, Instr.build, Sem.run_bind, hzr, Result.andThen_ok, run_underlying' hu, run_sizeOf' hk, hparts, h1, Sem.run_pure]
/-- Zeros again and again. -/
theorem again_get {z : List AV} (hz : z.length ≠ 0) : ∀ (n j : Nat), j < n * z.length → ((List.replicate n z).flatten)[j]? = z[j % z.length]?
  | 0, j, h => by simp at h
  | n + 1, j, h => by
    rw [List.replicate_succ, List.flatten_cons]
    by_cases hj : j < z.length
    · rw [List.getElem?_append_left hj, Nat.mod_eq_of_lt hj]
    · rw [List.getElem?_append_right (by omega), again_get hz n (j - z.length) (by rw [Nat.succ_mul] at h; omega)]
      congr 1
      conv => rhs; rw [show j = (j - z.length) + z.length by omega, Nat.add_mod_right]
theorem again_length {z : List AV} (n : Nat) : ((List.replicate n z).flatten).length = n * z.length := by simp
theorem again_ok {n : Nat} {z : List AV} {c : Array Value} (h : VRs W ρ n z c.toList) (hz : z.length ≠ 0) (k : Nat) : VRs W ρ n ((List.replicate k z).flatten) ((Array.range (k * z.length)).map (c[· % c.size]!)).toList := by
  have hl := VRs_length h
  simp only [Array.length_toList] at hl
  rw [VRs_iff]
  refine ⟨by rw [again_length]; simp, fun j v x hj hx => ?_⟩
  have hj' := (List.getElem?_eq_some_iff.1 hj).1
  rw [again_length] at hj'
  rw [again_get hz k j hj'] at hj
  rw [Array.getElem?_toList] at hx
  have hlt : j % c.size < c.size := Nat.mod_lt _ (by omega)
  simp [hj', getElem!_pos c (j % c.size) hlt] at hx
  subst hx
  rw [hl] at hj
  exact ((VRs_iff _ _).1 h).2 _ v _ hj (by rw [Array.getElem?_toList, Array.getElem?_eq_getElem hlt])
end
end Go.Den
