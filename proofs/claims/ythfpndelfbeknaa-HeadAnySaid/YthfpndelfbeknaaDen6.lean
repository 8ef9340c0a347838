/- Operations that only reckon. -/
import Derived.Test.YthfpndelfbeknaaDen5
import Derived.Laws.Entries
set_option linter.unusedVariables false
set_option linter.unusedSimpArgs false
namespace Go.Den
open Go.RowKit (Below)
section
variable {P : Program} {W : World} {ρ : Plan} {H : Heap} {w : World} {t : List AV} {a : Act}

theorem aint_ok {n : Nat} {v : AV} {x : Value} (h : VR W ρ n v x) {i : Int} (hi : aint v = some i) : ∃ k, x = .int k i := by
  unfold aint at hi
  split at hi <;> simp at hi
  subst hi
  exact ⟨_, by simpa only [VR] using h⟩
theorem intBits_ok (op : BinOp) (hop : op = .and ∨ op = .or ∨ op = .xor ∨ op = .andNot) (k : IntKind) (x y : Int) : (Op.intBits op k x y).run P w = .ok (.int k (abits op k x y)) w := by
  rcases hop with rfl | rfl | rfl | rfl <;> rfl
theorem aint2_ok {op : BinOp} (hop : op ≠ .shl ∧ op ≠ .shr) {ty : TypeId} {k : IntKind} {x y : Int} {v : AV} (h : aint2 op k x y = some v) : ∃ z, (binOp op ty (.int k x) (.int k y)).run P w = .ok z w ∧ VR W ρ H.length v z := by
  cases op <;> simp only [aint2] at h <;> (try (cases h; done)) <;> (try (exact absurd rfl hop.1)) <;> (try (exact absurd rfl hop.2))
  case quo =>
    split at h <;> simp at h
    rename_i hy
    subst h
    exact ⟨_, by simp [binOp, Op.intDiv, hy], rfl⟩
  case rem =>
    split at h <;> simp at h
    rename_i hy
    subst h
    exact ⟨_, by simp [binOp, Op.intDiv, hy], rfl⟩
  all_goals
    injection h with h
    subst h
    refine ⟨_, ?_, rfl⟩
    first
      | (simp [binOp, Op.intArith]; done)
      | (simp [binOp, Op.intCmp]; done)
      | (simp only [binOp, ne_eq, not_true_eq_false, if_false]; exact intBits_ok _ (by simp) _ _ _)
theorem ashift_ok {op : BinOp} (hop : op = .shl ∨ op = .shr) {ty : TypeId} {k k' : IntKind} {x y : Int} {v : AV} (h : ashift op k x y = some v) : ∃ z, (binOp op ty (.int k x) (.int k' y)).run P w = .ok z w ∧ VR W ρ H.length v z := by
  unfold ashift at h
  split at h <;> (try (cases h; done))
  rename_i hy
  rcases hop with rfl | rfl <;> simp only [Option.some.injEq] at h <;> subst h <;> exact ⟨_, by simp [binOp, Op.shift, hy], rfl⟩
theorem astr2_ok {op : BinOp} {ty : TypeId} {x y : ByteArray} {v : AV} (h : astr2 op x y = some v) : ∃ z, (binOp op ty (.string x) (.string y)).run P w = .ok z w ∧ VR W ρ H.length v z := by
  cases op <;> simp only [astr2] at h <;> (try (cases h; done))
  case add =>
    split at h <;> simp at h
    rename_i hs
    subst h
    refine ⟨_, ?_, rfl⟩
    have : ¬ (((x.size + y.size : Nat) : Int) > IntKind.i64.max) := by
      have e : IntKind.i64.max = 9223372036854775807 := by decide
      rw [e]; omega
    simp only [binOp, Op.stringOp]
    rw [if_neg this]
    rfl
  all_goals
    injection h with h
    subst h
    refine ⟨_, ?_, rfl⟩
    simp [binOp, Op.stringOp]
theorem abin_ok {n : Nat} {op : BinOp} {ty : TypeId} {x y : AV} {u z : Value} (hx : VR W ρ n x u) (hy : VR W ρ n y z) {v : AV} (h : abin op x y = some v) :
    (∃ r, (binOp op ty u z).run P w = .ok r w ∧ VR W ρ H.length v r) ∧ ((∃ k i, u = .int k i) ∨ ∃ s, u = .string s) := by
  unfold abin at h
  split at h
  · rename_i k i k' j
    simp only [VR] at hx hy
    subst hx; subst hy
    refine ⟨?_, .inl ⟨_, _, rfl⟩⟩
    split at h
    · exact ashift_ok (.inl rfl) h
    · exact ashift_ok (.inr rfl) h
    · rename_i h1 h2
      split at h <;> (try (cases h; done))
      rename_i hk
      subst hk
      exact aint2_ok ⟨h1, h2⟩ h
  · simp only [VR] at hx hy
    subst hx; subst hy
    exact ⟨astr2_ok h, .inr ⟨_, rfl⟩⟩
  · cases h
theorem eqGuard_plain {op : BinOp} {ty : TypeId} {x y : Operand} {u z : Value} (h : (∃ k i, u = .int k i) ∨ (∃ s, u = .string s) ∨ (∃ b, u = .bool b) ∨ (∃ p, u = .pointer p) ∨ (∃ p n c, u = .slice p n c) ∨ u = .nilFunc ∨ (∃ f g c, u = .func f g c)) : eqGuard op ty x y u z = pure () := by
  rcases h with ⟨k, i, rfl⟩ | ⟨s, rfl⟩ | ⟨b, rfl⟩ | ⟨p, rfl⟩ | ⟨p, n, c, rfl⟩ | rfl | ⟨f, g, c, rfl⟩ <;> cases op <;> rfl
theorem op_bin {o : Oper} {op : BinOp} {ty ty' : TypeId} {x y : Operand} (ho : o.op = .binOp op ty x y ty') {sx sy : SX} (hx : slimX x = some sx) (hy : slimX y = some sy) (hr : Rel W ρ H w) (ha : AR W ρ H.length t a) {v : AV} {H' : Heap} (he : aop (evx t) H (.bin op sx sy) = some (v, H')) : Fine P W ρ H w o a v H' := by
  simp only [aop, Option.map_eq_some_iff] at he
  obtain ⟨u, hu, he⟩ := he
  obtain ⟨rfl, rfl⟩ := Prod.mk.inj he
  obtain ⟨⟨r, h1, h2⟩, h3⟩ := abin_ok (P := P) (H := H) (w := w) (ty := ty) (evx_ok ha hx) (evx_ok ha hy) hu
  refine fine_pure hr (x := r) ?_ h2
  have hg := eqGuard_plain (op := op) (ty := ty) (x := x) (y := y) (u := a.eval x) (z := a.eval y) (by rcases h3 with h3 | h3 <;> simp [h3])
  simp [execOp, ho, hg, h1]
theorem op_un {o : Oper} {op : UnOp} {s : SO} {ty : TypeId} {x : Operand} (ho : o.op = .unOp op ty x) (hs : slimOp P o.op = some s) (hr : Rel W ρ H w) (ha : AR W ρ H.length t a) {v : AV} {H' : Heap} (he : aop (evx t) H s = some (v, H')) : Fine P W ρ H w o a v H' := by
  rw [ho] at hs
  simp only [slimOp, Option.map_eq_some_iff] at hs
  obtain ⟨sx, hx, rfl⟩ := hs
  simp only [aop, Option.map_eq_some_iff] at he
  obtain ⟨u, hu, he⟩ := he
  obtain ⟨rfl, rfl⟩ := Prod.mk.inj he
  have h0 := evx_ok ha hx
  unfold aun at hu
  split at hu <;> rename_i hv <;> (try (cases hu; done)) <;> rw [hv] at h0 <;> simp only [VR] at h0
  · split at hu <;> (try (cases hu; done)) <;> injection hu with hu <;> subst hu
    · exact fine_pure hr (by simp only [execOp, ho, h0, Op.unary, Op.intArith]; rfl) rfl
    · exact fine_pure hr (by simp only [execOp, ho, h0, Op.unary]; simp [intBits_ok]) rfl
  · split at hu <;> (try (cases hu; done)) <;> injection hu with hu <;> subst hu
    exact fine_pure hr (by simp only [execOp, ho, h0, Op.unary]; rfl) rfl
theorem op_mkfn {o : Oper} {s : SO} {f : Fn} {first cap : Array Operand} (ho : o.op = .makeFunc f first cap) (hs : slimOp P o.op = some s) (hr : Rel W ρ H w) (ha : AR W ρ H.length t a) {v : AV} {H' : Heap} (he : aop (evx t) H s = some (v, H')) : Fine P W ρ H w o a v H' := by
  rw [ho] at hs
  simp only [slimOp, slimMk] at hs
  split at hs <;> (try (cases hs; done))
  rename_i f' hf
  simp only [Option.map_eq_some_iff] at hs
  obtain ⟨l, hl, rfl⟩ := hs
  have hf' : first = #[] := by simpa using hf
  subst hf'
  simp only [aop, Option.some.injEq, Prod.mk.injEq] at he
  obtain ⟨rfl, rfl⟩ := he
  refine fine_pure hr (x := .func (.func _) #[] ((cap.toList.map a.eval).toArray)) ?_ (by simp only [VR]; exact ⟨_, rfl, evxs_ok ha hl⟩)
  simp only [execOp, ho, Instr.makeFunc]
  have : Array.map a.eval cap = (List.map a.eval cap.toList).toArray := by apply Array.ext'; simp
  rw [this]
  simp
theorem op_extract {o : Oper} {s : SO} {x : Operand} {i : Nat} (ho : o.op = .extract x i) (hs : slimOp P o.op = some s) (hr : Rel W ρ H w) (ha : AR W ρ H.length t a) {v : AV} {H' : Heap} (he : aop (evx t) H s = some (v, H')) : Fine P W ρ H w o a v H' := by
  rw [ho] at hs
  simp only [slimOp, Option.map_eq_some_iff] at hs
  obtain ⟨sx, hx, rfl⟩ := hs
  have h0 := evx_ok ha hx
  simp only [aop] at he
  split at he <;> (try (cases he; done))
  rename_i vs hv
  rw [hv] at h0
  simp only [VR] at h0
  obtain ⟨l, h1, h2⟩ := h0
  simp only [Option.map_eq_some_iff] at he
  obtain ⟨u, hu, he⟩ := he
  obtain ⟨rfl, rfl⟩ := Prod.mk.inj he
  obtain ⟨y, h3, h4⟩ := VRs_get h2 hu
  exact fine_pure hr (x := y) (by simp [execOp, ho, h1, Instr.extract, h3]) h4
theorem op_faddr {o : Oper} {s : SO} {ty : TypeId} {x : Operand} {i : Nat} (ho : o.op = .fieldAddr ty x i) (hs : slimOp P o.op = some s) (hr : Rel W ρ H w) (ha : AR W ρ H.length t a) {v : AV} {H' : Heap} (he : aop (evx t) H s = some (v, H')) : Fine P W ρ H w o a v H' := by
  rw [ho] at hs
  simp only [slimOp] at hs
  split at hs <;> (try (cases hs; done))
  rename_i fs hu
  simp only [Option.bind_eq_some_iff] at hs
  obtain ⟨f, hf, k, hk, hs⟩ := hs
  split at hs <;> simp only [Option.map_eq_some_iff, reduceCtorEq] at hs
  rename_i hk0
  obtain ⟨sx, hx, rfl⟩ := hs
  have h0 := evx_ok ha hx
  have hplace : ∀ ad, (fieldPlace ad f).run P w = .ok (ad.add f.offset) w := fun ad => by simp [fieldPlace, run_sizeOf' hk, hk0]
  simp only [aop] at he
  split at he <;> (try (cases he; done)) <;> rename_i hv <;> rw [hv] at h0 <;> simp only [VR] at h0 <;> simp only [Option.some.injEq, Prod.mk.injEq] at he <;> obtain ⟨rfl, rfl⟩ := he
  · obtain ⟨h1, h2⟩ := h0
    refine fine_pure hr (x := .pointer (some ((⟨_, _, none⟩ : Addr).add f.offset))) (by simp [execOp, ho, h2, Instr.fieldAt, run_underlying' hu, hf, Instr.sureAddr, hplace]; rfl) ?_
    rw [add_mk]
    simp only [VR]
    exact ⟨h1, by rw [Nat.add_assoc]⟩
  · obtain ⟨ad, h1, h2⟩ := h0
    refine fine_pure hr (x := .pointer (some (ad.add f.offset))) (by simp [execOp, ho, h1, Instr.fieldAt, run_underlying' hu, hf, Instr.sureAddr, hplace]) ?_
    simp only [VR]
    exact ⟨_, rfl, CR_drop h2 _⟩
end
end Go.Den
