/- Cuts, conversions, lengths, least and greatest, strings gone over. -/
import Derived.Test.YthfpndelfbeknaaDen7
import Derived.Laws.BytesArg
import Derived.Lib.ConvBytes
import Derived.Laws.AppendOwn
set_option linter.unusedVariables false
set_option linter.unusedSimpArgs false
namespace Go.Den
open Go.RowKit (Below)
section
variable {P : Program} {W : World} {ρ : Plan} {H : Heap} {w : World} {t : List AV} {a : Act}

/-! ### Cuts -/
theorem abound_ok {n : Nat} (ha : AR W ρ n t a) {x : Option Operand} {s : Option SX} (hs : slimO x = some s) {r : Option Nat} (hr : abound (evx t) s = some r) :
    (x = none ∧ r = none) ∨ ∃ o k i, x = some o ∧ a.eval o = .int k i ∧ 0 ≤ i ∧ r = some i.toNat := by
  cases x with
  | none =>
    simp only [slimO, Option.some.injEq] at hs
    subst hs
    simp only [abound, Option.some.injEq] at hr
    exact .inl ⟨rfl, hr.symm⟩
  | some o =>
    simp only [slimO, Option.map_eq_some_iff] at hs
    obtain ⟨sx, hx, rfl⟩ := hs
    simp only [abound, Option.bind_eq_some_iff] at hr
    obtain ⟨i, hi, hr⟩ := hr
    split at hr <;> simp at hr
    rename_i h0
    obtain ⟨k, hk⟩ := aint_ok (evx_ok ha hx) hi
    exact .inr ⟨o, k, i, rfl, hk, h0, hr.symm⟩
theorem sliceBound_ok {x : Value} {k : IntKind} {i : Int} (hx : x = .int k i) {y : Nat} (h0 : 0 ≤ i) (h1 : i.toNat ≤ y) (code : BoundsCode) : (Instr.sliceBound x y code).run P w = .ok i.toNat w := by
  subst hx
  have : i ≤ (y : Int) := by omega
  simp [Instr.sliceBound, asIntOf, h0, this]
theorem sliceBounds_ok {n : Nat} (ha : AR W ρ n t a) {lo hi mx : Option Operand} {slo shi smx : Option SX} (h1 : slimO lo = some slo) (h2 : slimO hi = some shi) (h3 : slimO mx = some smx) {l h m : Option Nat}
    (hl : abound (evx t) slo = some l) (hh : abound (evx t) shi = some h) (hm : abound (evx t) smx = some m) (hmh : smx.isSome = true → shi.isSome = true) {isS : Bool} {len cap : Nat}
    (c1 : l.getD 0 ≤ h.getD len) (c2 : h ≠ none → h.getD len ≤ m.getD cap) (c3 : m.getD cap ≤ cap) :
    (Instr.sliceBounds isS len cap (lo.map a.eval) (hi.map a.eval) (mx.map a.eval)).run P w = .ok (l.getD 0, h.getD len, m.getD cap) w := by
  unfold Instr.sliceBounds
  rcases abound_ok ha h3 hm with ⟨rfl, rfl⟩ | ⟨om, km, im, rfl, em, m0, rfl⟩ <;> rcases abound_ok ha h2 hh with ⟨rfl, rfl⟩ | ⟨oh, kh, ih, rfl, eh, h0, rfl⟩ <;> rcases abound_ok ha h1 hl with ⟨rfl, rfl⟩ | ⟨ol, kl, il, rfl, el, l0, rfl⟩ <;> simp only [Option.getD_some, Option.getD_none] at c1 c2 c3 ⊢
  · simp
  · simp [sliceBound_ok (P := P) (w := w) el l0 c1]
  · have := c2 (by simp)
    simp [sliceBound_ok (P := P) (w := w) eh h0 this]
  · have := c2 (by simp)
    simp [sliceBound_ok (P := P) (w := w) eh h0 this, sliceBound_ok (P := P) (w := w) el l0 c1]
  · simp [slimO] at h2 h3
    obtain ⟨q, _, rfl⟩ := h3
    subst h2
    simp at hmh
  · simp [slimO] at h2 h3
    obtain ⟨q, _, rfl⟩ := h3
    subst h2
    simp at hmh
  · have := c2 (by simp)
    simp [sliceBound_ok (P := P) (w := w) em m0 c3, sliceBound_ok (P := P) (w := w) eh h0 this]
  · have := c2 (by simp)
    simp [sliceBound_ok (P := P) (w := w) em m0 c3, sliceBound_ok (P := P) (w := w) eh h0 this, sliceBound_ok (P := P) (w := w) el l0 c1]
theorem alen_ok {n : Nat} {v : AV} {x : Value} (h : VR W ρ n v x) {k : Nat} (hk : alen v = some k) : (∃ p c, x = .slice p k c) ∨ ∃ s, x = .string s ∧ k = s.size ∧ v = .str s := by
  unfold alen at hk
  split at hk <;> (try (cases hk; done)) <;> simp only [Option.some.injEq] at hk <;> subst hk <;> simp only [VR] at h
  · obtain ⟨_, ad, c, h1, _⟩ := h; exact .inl ⟨_, _, h1⟩
  · obtain ⟨ad, c, h1, _⟩ := h; exact .inl ⟨_, _, h1⟩
  · exact .inl ⟨_, _, h⟩
  · exact .inr ⟨_, h, rfl, rfl⟩
theorem op_slice {o : Oper} {s : SO} {ty : TypeId} {x : Operand} {lo hi mx : Option Operand} (ho : o.op = .slice ty x lo hi mx) (hs : slimOp P o.op = some s) (hr : Rel W ρ H w) (ha : AR W ρ H.length t a) {v : AV} {H' : Heap} (he : aop (evx t) H s = some (v, H')) : Fine P W ρ H w o a v H' := by
  rw [ho] at hs
  simp only [slimOp, Option.bind_eq_some_iff] at hs
  obtain ⟨sx, hx, slo, h1, shi, h2, smx, h3, hs⟩ := hs
  have h0 := evx_ok ha hx
  split at hs <;> (try (cases hs; done))
  · rename_i e hu
    simp only [Option.bind_eq_some_iff] at hs
    obtain ⟨z, hz, hs⟩ := hs
    split at hs <;> simp only [Option.some.injEq, reduceCtorEq] at hs
    rename_i hc
    subst hs
    simp only [aop, Option.bind_eq_some_iff, Option.map_eq_some_iff] at he
    obtain ⟨len, hlen, l, hl, h, hh, m, hm, u, hu', he⟩ := he
    obtain ⟨rfl, rfl⟩ := Prod.mk.inj he
    unfold acut at hu'
    split at hu' <;> (try (cases hu'; done)) <;> rename_i hv <;> rw [hv] at h0 hlen <;> simp only [VR] at h0 <;> simp only [alen, Option.some.injEq] at hlen
    · rename_i ob off len' sz cap
      subst hlen
      obtain ⟨g1, ad, c, g2, g3, g4, g5, g6⟩ := h0
      split at hu'
      · split at hu' <;> simp only [Option.some.injEq, reduceCtorEq] at hu'
        rename_i hk
        subst hu'
        obtain ⟨rfl, hk1, hk2⟩ := hk
        have hb := sliceBounds_ok (P := P) (w := w) ha h1 h2 h3 hl hh hm hc.2 (isS := true) (len := len') (cap := c) hk1 (fun _ => by simp; omega) (by simp)
        simp only [Option.getD_none] at hb
        refine fine_pure hr (x := .slice (if c = l.getD 0 then some ad else some (ad.add (l.getD 0 * sz))) (h.getD len' - l.getD 0) (c - l.getD 0)) (by simp [execOp, ho, g2, Instr.sliceAt, Instr.slice, run_underlying' hu, hb, run_sizeOf' hz]) ?_
        simp only [VR]
        refine ⟨g1, if c = l.getD 0 then ad else ad.add (l.getD 0 * sz), c - l.getD 0, by split <;> rfl, by omega, ?_, ?_, ?_⟩
        · by_cases hcl : c = l.getD 0
          · exact .inl (by omega)
          · rw [if_neg hcl]
            have : c ≠ 0 := by omega
            rw [g4.resolve_left this, add_mk, Nat.add_assoc]
            exact .inr rfl
        · have : l.getD 0 * sz + (c - l.getD 0) * sz = c * sz := by rw [← Nat.add_mul]; congr 1; omega
          omega
        · intro k hk
          cases cap with
          | none => simp at hk
          | some k' => simp at hk; have := g6 k' rfl; omega
      · rename_i m'
        split at hu' <;> simp only [Option.some.injEq, reduceCtorEq] at hu'
        rename_i hk
        subst hu'
        obtain ⟨rfl, hk1, hk2, hk3⟩ := hk
        have hb := sliceBounds_ok (P := P) (w := w) ha h1 h2 h3 hl hh hm hc.2 (isS := true) (len := len') (cap := c) hk1 (fun _ => by simpa using hk2) (by simp; omega)
        simp only [Option.getD_some] at hb
        refine fine_pure hr (x := .slice (if m' = l.getD 0 then some ad else some (ad.add (l.getD 0 * sz))) (h.getD len' - l.getD 0) (m' - l.getD 0)) (by simp [execOp, ho, g2, Instr.sliceAt, Instr.slice, run_underlying' hu, hb, run_sizeOf' hz]) ?_
        simp only [VR]
        refine ⟨g1, if m' = l.getD 0 then ad else ad.add (l.getD 0 * sz), m' - l.getD 0, by split <;> rfl, by omega, ?_, ?_, ?_⟩
        · by_cases hcl : m' = l.getD 0
          · exact .inl (by omega)
          · rw [if_neg hcl]
            have : c ≠ 0 := by omega
            rw [g4.resolve_left this, add_mk, Nat.add_assoc]
            exact .inr rfl
        · have h5 : l.getD 0 * sz + (m' - l.getD 0) * sz = m' * sz := by rw [← Nat.add_mul]; congr 1; omega
          have h6 : m' * sz ≤ c * sz := Nat.mul_le_mul_right _ (by omega)
          omega
        · intro k hk
          simp at hk
          exact hk
    · rename_i cs len'
      subst hlen
      obtain ⟨ad, c, g2, g3, g4⟩ := h0
      split at hu' <;> (try (cases hu'; done))
      split at hu' <;> simp only [Option.some.injEq, reduceCtorEq] at hu'
      rename_i hk
      subst hu'
      obtain ⟨hk1, hk2⟩ := hk
      have hb := sliceBounds_ok (P := P) (w := w) ha h1 h2 h3 hl hh hm hc.2 (isS := true) (len := len') (cap := c) hk1 (fun _ => by simp; omega) (by simp)
      simp only [Option.getD_none] at hb
      refine fine_pure hr (x := .slice (if c = l.getD 0 then some ad else some (ad.add (l.getD 0 * z))) (h.getD len' - l.getD 0) (c - l.getD 0)) (by simp [execOp, ho, g2, Instr.sliceAt, Instr.slice, run_underlying' hu, hb, run_sizeOf' hz]) ?_
      simp only [VR]
      refine ⟨if c = l.getD 0 then ad else ad.add (l.getD 0 * z), c - l.getD 0, by split <;> rfl, by omega, ?_⟩
      by_cases hcl : c = l.getD 0
      · rw [if_pos hcl]
        have : h.getD len' - l.getD 0 = 0 := by omega
        rw [this]
        simp [CR]
      · rw [if_neg hcl]
        exact CR_take (CR_drop g4 _) _
    · subst hlen
      split at hu' <;> simp only [Option.some.injEq, reduceCtorEq] at hu'
      rename_i hk
      subst hu'
      obtain ⟨hk1, hk2, rfl⟩ := hk
      have hb := sliceBounds_ok (P := P) (w := w) ha h1 h2 h3 hl hh hm hc.2 (isS := true) (len := 0) (cap := 0) (by omega) (fun _ => by simp; omega) (by simp)
      simp only [Option.getD_none] at hb
      exact fine_pure hr (x := .slice none 0 0) (by simp [execOp, ho, h0, Instr.sliceAt, Instr.slice, run_underlying' hu, hb, run_sizeOf' hz, hk1, hk2]) rfl
  · rename_i hu
    split at hs <;> simp only [Option.some.injEq, reduceCtorEq] at hs
    rename_i hmx
    subst hs
    simp only [aop] at he
    split at he <;> (try (cases he; done))
    rename_i b hv
    rw [hv] at h0
    simp only [VR] at h0
    simp only [Option.bind_eq_some_iff] at he
    obtain ⟨l, hl, h, hh, he⟩ := he
    split at he <;> simp only [Option.some.injEq, reduceCtorEq, Prod.mk.injEq] at he
    rename_i hk
    obtain ⟨rfl, rfl⟩ := he
    have hm0 : smx = none := by simpa using hmx
    have hm1 : mx = none := by
      cases mx with
      | none => rfl
      | some q => simp [slimO] at h3; obtain ⟨q', _, h4⟩ := h3; rw [hm0] at h4; simp at h4
    subst hm0 hm1
    have hb := sliceBounds_ok (P := P) (w := w) (mx := none) ha h1 h2 (by rfl) hl hh (m := none) (by rfl) (by simp) (isS := false) (len := b.size) (cap := b.size) hk.1 (fun _ => by simpa using hk.2) (by simp)
    simp only [Option.getD_none, Option.map_none] at hb
    exact fine_pure hr (x := .string (b.extract (l.getD 0) (h.getD b.size))) (by simp [execOp, ho, h0, Instr.sliceAt, Instr.slice, run_underlying' hu, hb]) rfl
  · rename_i m e hu
    simp only [Option.bind_eq_some_iff] at hs
    obtain ⟨z, hz0, hs⟩ := hs
    split at hs <;> simp only [Option.some.injEq, reduceCtorEq] at hs
    rename_i hc
    subst hs
    simp only [aop] at he
    split at he <;> (try (cases he; done))
    rename_i ob off hv
    rw [hv] at h0
    simp only [VR] at h0
    obtain ⟨g1, g2⟩ := h0
    simp only [Option.bind_eq_some_iff] at he
    obtain ⟨row, hrow, l, hl, h, hh, m', hm, he⟩ := he
    split at he <;> simp only [Option.some.injEq, reduceCtorEq, Prod.mk.injEq] at he
    rename_i hk
    obtain ⟨rfl, rfl⟩ := he
    have hb := sliceBounds_ok (P := P) (w := w) ha h1 h2 h3 hl hh hm hc.2 (isS := false) (len := m) (cap := m) hk.1 (fun _ => hk.2.1) hk.2.2.1
    have hz : (ρ ob).d + row.length ≤ (ρ ob).z := by
      unfold arow at hrow
      split at hrow <;> simp only [Option.some.injEq, reduceCtorEq] at hrow
      subst hrow
      rename_i hH
      obtain ⟨c, fr, _, _, hl, _⟩ := hr.obj ob _ hH
      exact hl
    refine fine_pure hr (x := .slice (some (if m'.getD m = l.getD 0 then ⟨(ρ ob).b, (ρ ob).d + off, none⟩ else (⟨(ρ ob).b, (ρ ob).d + off, none⟩ : Addr).add (l.getD 0 * z))) (h.getD m - l.getD 0) (m'.getD m - l.getD 0)) (by simp [execOp, ho, g2, Instr.sliceAt, run_underlying' hu, Instr.sureAddr, hb, run_sizeOf' hz0]) ?_
    simp only [VR]
    refine ⟨g1, _, _, rfl, by omega, ?_, ?_, ?_⟩
    · by_cases hcl : m'.getD m = l.getD 0
      · exact .inl (by omega)
      · rw [if_neg hcl, add_mk, Nat.add_assoc]
        exact .inr rfl
    · have h5 : l.getD 0 * z + (m'.getD m - l.getD 0) * z = m'.getD m * z := by rw [← Nat.add_mul]; congr 1; omega
      have h6 : m'.getD m * z ≤ m * z := Nat.mul_le_mul_right _ hk.2.2.1
      omega
    · intro k hk'
      simp at hk'
      exact hk'

/-! ### Conversions -/
theorem bytesOf_ok : ∀ {l : List AV} {xs : List Value} {n : Nat} {bs : List UInt8}, VRs W ρ n l xs → bytesOf l = some bs → ∃ ns : List Int, xs = ns.map (Value.int .u8) ∧ bs = ns.map fun n => UInt8.ofNat n.toNat
  | [], xs, n, bs, h, hb => by
    simp only [VRs] at h; subst h
    simp only [bytesOf, Option.some.injEq] at hb; subst hb
    exact ⟨[], rfl, rfl⟩
  | v :: l, xs, n, bs, h, hb => by
    simp only [VRs] at h
    obtain ⟨x, r, rfl, hx, hr⟩ := h
    unfold bytesOf at hb
    split at hb
    · rename_i heq; cases heq
    · rename_i z l' heq
      injection heq with h1 h2
      subst h1; subst h2
      simp only [Option.map_eq_some_iff] at hb
      obtain ⟨q, hq, rfl⟩ := hb
      simp only [VR] at hx
      subst hx
      obtain ⟨ns, rfl, rfl⟩ := bytesOf_ok hr hq
      exact ⟨z :: ns, rfl, rfl⟩
    · cases hb
/-- A slice's cells, told: where they are. -/
theorem acells_ok (hr : Rel W ρ H w) {v : AV} {x : Value} (hv : VR W ρ H.length v x) {l : List AV} (hl : acells H v = some l) :
    (x = .slice none 0 0 ∧ l = []) ∨ ∃ p len c xs, x = .slice (some p) len c ∧ alen v = some len ∧ len ≤ c ∧ VRs W ρ H.length l xs ∧ xs.length = l.length ∧ (∀ (j : Nat) (x : Value), xs[j]? = some x → w.cell? (p.add j) = some x) ∧ (∀ x ∈ xs, x.oneCell' = true) := by
  unfold acells at hl
  split at hl <;> (try (cases hl; done))
  · rename_i o off len sz cap
    simp only [VR] at hv
    obtain ⟨h1, ad, c, rfl, h3, h4, h5, h6⟩ := hv
    obtain ⟨a', xs, h7, h8, h9, h10, h11, h12, h13⟩ := aload_ok (p := .ptr o off) (x := .pointer (some ⟨(ρ o).b, (ρ o).d + off, none⟩)) hr (by simp only [VR]; exact ⟨h1, trivial⟩) hl
    injection h7 with h7
    injection h7 with h7
    refine .inr ⟨ad, len, c, xs, rfl, rfl, h3, h8, by omega, ?_, h12⟩
    rcases h4 with h4 | h4
    · have : len = 0 := by omega
      subst this
      intro j x hj
      have : xs = [] := List.eq_nil_of_length_eq_zero (by omega)
      subst this
      simp at hj
    · rw [h4, h7]; exact h11
  · simp only [Option.some.injEq] at hl
    subst hl
    simp only [VR] at hv
    obtain ⟨ad, c, rfl, h3, h4⟩ := hv
    rw [CR_iff] at h4
    obtain ⟨xs, h5, h6, h7, h8, _⟩ := cells_list (W := W) (ρ := ρ) (n := H.length) (w := w) (a := ad) (fun j v hj => by
      obtain ⟨x, h1, h2, h3⟩ := h4 j v hj
      rw [Nat.zero_add] at h1
      exact ⟨x, by rw [hr.below.cell (World.block_lt_of_cell? W _ h1)]; exact h1, VR_mono (fun i hi => absurd hi (Nat.not_lt_zero i)) (Nat.zero_le _) v x h2, h3⟩)
    exact .inr ⟨ad, _, c, xs, rfl, rfl, h3, h5, h6, h7, h8⟩
  · simp only [Option.some.injEq] at hl
    subst hl
    simp only [VR] at hv
    exact .inl ⟨hv, rfl⟩
theorem op_convert {o : Oper} {s : SO} {src dst : TypeId} {x : Operand} (ho : o.op = .convert src dst x) (hs : slimOp P o.op = some s) (hr : Rel W ρ H w) (ha : AR W ρ H.length t a) {v : AV} {H' : Heap} (he : aop (evx t) H s = some (v, H')) : Fine P W ρ H w o a v H' := by
  rw [ho] at hs
  simp only [slimOp, Option.bind_eq_some_iff] at hs
  obtain ⟨sx, hx, hs⟩ := hs
  have h0 := evx_ok ha hx
  split at hs <;> (try (cases hs; done))
  · rename_i ks k hu hu'
    simp only [Option.some.injEq] at hs
    subst hs
    simp only [aop, Option.map_eq_some_iff] at he
    obtain ⟨i, hi, he⟩ := he
    obtain ⟨rfl, rfl⟩ := Prod.mk.inj he
    obtain ⟨q, hq⟩ := aint_ok h0 hi
    exact fine_pure hr (x := .int k (k.wrap i)) (by simp [execOp, ho, hq, convert, run_underlying' hu, run_underlying' hu', Conv.intToInt]) rfl
  · rename_i e hu hu'
    split at hs <;> (try (cases hs; done))
    rename_i hue
    simp only [Option.some.injEq] at hs
    subst hs
    simp only [aop, Option.map_eq_some_iff, Option.bind_eq_some_iff] at he
    obtain ⟨l, hl, he⟩ := he
    split at he <;> simp only [Option.map_eq_some_iff, reduceCtorEq] at he
    rename_i hlen
    obtain ⟨bs, hb, he⟩ := he
    obtain ⟨rfl, rfl⟩ := Prod.mk.inj he
    rcases acells_ok hr h0 hl with ⟨h1, rfl⟩ | ⟨p, len, c, xs, h1, h2, h3, h4, h5, h6, h7⟩
    · simp only [bytesOf, Option.some.injEq] at hb
      subst hb
      refine fine_pure hr (x := .string ByteArray.empty) ?_ (by simp only [VR]; rfl)
      simp [execOp, ho, h1, run_convert_bytes_string w src dst e _ _ _ hu hue hu', Conv.bytesToString]
    · obtain ⟨ns, rfl, rfl⟩ := bytesOf_ok h4 hb
      rw [h2] at hlen
      injection hlen with hlen
      have hload := run_loadCells_xs (P := P) (h5.trans hlen.symm) h6
      refine fine_pure hr (x := .string ⟨(ns.map fun n => UInt8.ofNat n.toNat).toArray⟩) ?_ (by simp only [VR])
      have := run_bytesToString (P := P) w p len c ns hload
      rw [foldl_push_bytes] at this
      simp only [ByteArray.empty, ByteArray.emptyWithCapacity] at this
      simp [execOp, ho, h1, run_convert_bytes_string w src dst e _ _ _ hu hue hu', this]
      try rfl
  · rename_i e hu hu'
    split at hs <;> (try (cases hs; done))
    rename_i hue
    split at hs <;> simp only [Option.some.injEq, reduceCtorEq] at hs
    rename_i hwe
    subst hs
    simp only [aop] at he
    split at he <;> (try (cases he; done))
    rename_i b hv
    rw [hv] at h0
    simp only [VR] at h0
    simp only [Option.some.injEq, Prod.mk.injEq] at he
    obtain ⟨rfl, rfl⟩ := he
    have hrun := Lib.run_convert_string_bytes (P := P) w src dst e b hu hu' hue
    have hge := grownCap_ge w b.size 0 e
    have hcell : (Lib.bytesCells w e b).size = grownCap w b.size 0 e := by
      simp only [Lib.bytesCells, Array.size_append, Array.size_map, Array.size_replicate, ByteArray.size] at hge ⊢
      omega
    have hlen : (strCells b).length = b.size := by unfold strCells; rw [List.length_map, Array.length_toList]; rfl
    refine ⟨.slice (some ⟨w.heap.size, 0, none⟩) b.size (grownCap w b.size 0 e), Lib.bytesWorld w e b, ρ.ext H.length ⟨w.heap.size, 0, grownCap w b.size 0 e⟩, .inl (by simp [execOp, ho, h0, hrun]), stp_push hr Plan.ext_lt (by rw [Plan.ext_at]) ⟨Lib.bytesWorld_size w e b, ?_, ?_, ?_, Lib.bytesWorld_at_old w e b⟩ ?_, ?_⟩
    · rfl
    · rfl
    · rfl
    · rw [Plan.ext_at]
      refine ⟨Lib.bytesCells w e b, _, Lib.bytesWorld_at_new w e b, hcell, by simp only [hlen]; omega, fun j v hj => ?_, fun _ i hi => ?_, fun h => by rw [hwe] at h; cases h⟩
      · have hj' := (List.getElem?_eq_some_iff.1 hj).1
        rw [hlen] at hj'
        simp only [strCells, List.getElem?_map, Option.map_eq_some_iff] at hj
        obtain ⟨q, hq, rfl⟩ := hj
        refine ⟨.int .u8 q.toNat, ?_, by simp [VR], rfl⟩
        rw [Array.getElem?_toList] at hq
        have h1 : j < b.data.size := hj'
        simp only [Lib.bytesCells, Nat.zero_add]
        rw [Array.getElem?_append_left (by simpa using h1)]
        simp [hq]
      · simp only at hi ⊢; omega
    · simp only [VR, List.length_append, List.length_cons, List.length_nil]
      refine ⟨by omega, _, _, rfl, hge, ?_, ?_, fun k hk => by simp at hk⟩
      · rw [Plan.ext_at]; exact .inr rfl
      · rw [Plan.ext_at]; simp
end
end Go.Den
