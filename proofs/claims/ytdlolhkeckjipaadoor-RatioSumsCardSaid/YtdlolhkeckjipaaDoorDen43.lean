/- The machine: texts 43 to 43. -/
import Derived.Test.YtdlolhkeckjipaaDoorDen38
import Derived.Shelf.Spec.BitsCarry
/- Sums and differences with a carry, told by the shelf's contracts. -/
set_option linter.unusedVariables false
set_option linter.unusedSimpArgs false
namespace Go.Den
/-- math/bits.Sub64, of numbers. -/
def sub64A (args : List AV) (H : Heap) : Option (AV × Heap) :=
  match args with
  | [.int .u64 x, .int .u64 y, .int .u64 b] => if 0 ≤ x ∧ 0 ≤ y ∧ 0 ≤ b ∧ b ≤ 1 then
      some (.tup [.int .u64 (((x.toNat + 18446744073709551616 - y.toNat - b.toNat) % 18446744073709551616 : Nat) : Int), .int .u64 ((if x.toNat < y.toNat + b.toNat then 1 else 0 : Nat) : Int)], H) else none
  | _ => none
/-- math/bits.Add64. -/
def add64A (args : List AV) (H : Heap) : Option (AV × Heap) :=
  match args with
  | [.int .u64 x, .int .u64 y, .int .u64 b] => if 0 ≤ x ∧ 0 ≤ y ∧ 0 ≤ b ∧ b ≤ 1 then
      some (.tup [.int .u64 (((x.toNat + y.toNat + b.toNat) % 18446744073709551616 : Nat) : Int), .int .u64 (((x.toNat + y.toNat + b.toNat) / 18446744073709551616 : Nat) : Int)], H) else none
  | _ => none
def SubOk (P : Program) (g : Nat) : Prop := ∀ (x y b : Nat), b ≤ 1 → ∀ w : World, (callFunc g #[.int .u64 x, .int .u64 y, .int .u64 b]).run P w =
  .ok (.value (.tuple #[.int .u64 (((x + 18446744073709551616 - y - b) % 18446744073709551616 : Nat) : Int), .int .u64 ((if x < y + b then 1 else 0 : Nat) : Int)])) w
def AddOk (P : Program) (g : Nat) : Prop := ∀ (x y b : Nat), b ≤ 1 → ∀ w : World, (callFunc g #[.int .u64 x, .int .u64 y, .int .u64 b]).run P w =
  .ok (.value (.tuple #[.int .u64 (((x + y + b) % 18446744073709551616 : Nat) : Int), .int .u64 (((x + y + b) / 18446744073709551616 : Nat) : Int)])) w
section
variable {P : Program} {W : World} {ρ : Plan} {H : Heap} {w : World}
theorem three_vals {n : Nat} {x y b : Int} {vs : List Value} (h : VRs W ρ n [.int .u64 x, .int .u64 y, .int .u64 b] vs) : vs = [.int .u64 x, .int .u64 y, .int .u64 b] := by
  simp only [VRs, VR] at h
  obtain ⟨_, _, rfl, rfl, _, _, rfl, rfl, _, _, rfl, rfl, rfl⟩ := h
  rfl
theorem sub64_ok {g : Nat} (hS : SubOk P g) {args : List AV} {v : AV} {H' : Heap} (h : sub64A args H = some (v, H')) {vs : List Value} (hr : Rel W ρ H w) (hv : VRs W ρ H.length args vs) :
    OpCalls P g vs.toArray w fun x w' => ∃ ρ', Stp W ρ H w ρ' H' w' ∧ VR W ρ' H'.length v x := by
  unfold sub64A at h
  split at h <;> (try (cases h; done))
  rename_i x y b
  split at h <;> (try (cases h; done))
  rename_i hb
  injection h with h
  injection h with h1 h2
  subst h1 h2
  obtain rfl := three_vals hv
  have hrun := hS x.toNat y.toNat b.toNat (by omega) w
  rw [Int.toNat_of_nonneg hb.1, Int.toNat_of_nonneg hb.2.1, Int.toNat_of_nonneg hb.2.2.1] at hrun
  refine .inl ⟨_, w, hrun, ρ, .refl hr, ?_⟩
  simp only [VR, VRs]
  exact ⟨_, rfl, _, _, rfl, rfl, _, _, rfl, rfl, rfl⟩
theorem add64_ok {g : Nat} (hS : AddOk P g) {args : List AV} {v : AV} {H' : Heap} (h : add64A args H = some (v, H')) {vs : List Value} (hr : Rel W ρ H w) (hv : VRs W ρ H.length args vs) :
    OpCalls P g vs.toArray w fun x w' => ∃ ρ', Stp W ρ H w ρ' H' w' ∧ VR W ρ' H'.length v x := by
  unfold add64A at h
  split at h <;> (try (cases h; done))
  rename_i x y b
  split at h <;> (try (cases h; done))
  rename_i hb
  injection h with h
  injection h with h1 h2
  subst h1 h2
  obtain rfl := three_vals hv
  have hrun := hS x.toNat y.toNat b.toNat (by omega) w
  rw [Int.toNat_of_nonneg hb.1, Int.toNat_of_nonneg hb.2.1, Int.toNat_of_nonneg hb.2.2.1] at hrun
  refine .inl ⟨_, w, hrun, ρ, .refl hr, ?_⟩
  simp only [VR, VRs]
  exact ⟨_, rfl, _, _, rfl, rfl, _, _, rfl, rfl, rfl⟩
end
/-- The machine in which these and some calls are told. -/
def toldC (e : Env) (l : List Nat) (ad sb : Option Nat) : Env := { E := e.E, isI := fun g => some g == ad || (some g == sb || l.contains g), I := fun g args H => if some g == ad then add64A args H else if some g == sb then sub64A args H else match args with | [] => some (.bool true, H) | _ => none }
theorem toldC_ok {P : Program} {ad sb : Option Nat} (ha : ∀ g, ad = some g → AddOk P g) (hb : ∀ g, sb = some g → SubOk P g) {e e1 : Env} {l : List Nat} (he : ∀ f s, e.E f = some s → ∃ fn, P.funcs[f]? = some fn ∧ slimF P fn = some s)
    (hs : ClOk P (call e1)) (h : ∀ f, l.contains f = true → call e1 f [] [] = some (.bool true, [])) : EnvOk P (toldC e l ad sb) := by
  refine ⟨fun f s _ hf => he f s hf, fun f args H v H' hI hc W ρ w vs hg hr hv => ?_⟩
  simp only [toldC] at hc hI
  by_cases h1 : (some f == ad) = true
  · rw [if_pos h1] at hc
    exact add64_ok (ha f (by simpa using (beq_iff_eq.1 h1).symm)) hc hr hv
  · rw [if_neg h1] at hc
    by_cases h2 : (some f == sb) = true
    · rw [if_pos h2] at hc
      exact sub64_ok (hb f (by simpa using (beq_iff_eq.1 h2).symm)) hc hr hv
    · rw [if_neg h2] at hc
      have hl : l.contains f = true := by
        rcases Bool.or_eq_true _ _ |>.mp hI with h3 | h3
        · exact absurd h3 h1
        · rcases Bool.or_eq_true _ _ |>.mp h3 with h4 | h4
          · exact absurd h4 h2
          · exact h4
      cases args with
      | nil =>
        have hc' : some (AV.bool true, H) = some (v, H') := hc
        injection hc' with hc'
        injection hc' with h1 h2
        subst h1 h2
        exact awake_ok hs (h f hl) W ρ w H vs hg hr hv
      | cons x xs => cases hc
theorem call_isC {e : Env} {f : Nat} {args : List AV} {H : Heap} (hI : e.isI f = true) : call e f args H = e.I f args H := opt_ext fun r =>
  ⟨fun h => by
    obtain ⟨n, hn⟩ := call_iff.1 h
    cases n with
    | zero => simp [callN] at hn
    | succ n => rw [callN, if_pos hI] at hn; exact hn, fun h => call_intr hI h⟩
end Go.Den
