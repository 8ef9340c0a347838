/- Code: what the abstract machine says of it. -/
import Derived.Test.YthfpndelfbeknaaDen15
import Derived.LoopN
set_option linter.unusedVariables false
set_option linter.unusedSimpArgs false
namespace Go.Den
open Go.RowKit (Below)

def exitOf : AX → Exit
  | .normal => .normal
  | .exit id => .exit id
  | .ret => .ret
/-- Regions that draw their order. -/
def RegdOk (P : Program) (cl : CL) : Prop :=
  ∀ (id : Nat) (os : Array Oper) (l : List SOp), slimReg P os true = some (.regd l) → ∀ (W : World) (ρ : Plan) (H : Heap) (w : World) (t : List AV) (a : Act), Rel W ρ H w → AR W ρ H.length t a →
    ∀ (t' : List AV) (H' : Heap), opsd cl 0 [] l t H = some (t', H') → ∀ Q : Exit → Act → World → Prop, (∀ a' w' ρ', Stp W ρ H w ρ' H' w' → AR W ρ' H'.length t' a' → Q .normal a' w') → (Code.region id os true).wp P Q a w
section
variable {P : Program} {W : World} {ρ : Plan} {H : Heap} {w : World} {t : List AV} {a : Act} {cl : CL}

theorem slimReg_true {os : Array Oper} {sc : SC} (h : slimReg P os true = some sc) : ∃ l, sc = .regd l := by
  simp only [slimReg, if_true, Option.bind_eq_some_iff] at h
  obtain ⟨l, _, h⟩ := h
  split at h <;> simp only [Option.some.injEq, reduceCtorEq] at h
  exact ⟨_, h.symm⟩
/-- What a stretch of code does, of the abstract machine. -/
def CodeOk (P : Program) (cl : CL) (k : Nat) : Prop :=
  ∀ (c : Code) (sc : SC), slimC P c = some sc → ∀ (W : World) (ρ : Plan) (H : Heap) (w : World) (t : List AV) (a : Act), Rel W ρ H w → AR W ρ H.length t a → ∀ s : St, codeW cl k sc t H = some s →
    ∀ Q : Exit → Act → World → Prop, (∀ a' w' ρ', Stp W ρ H w ρ' s.H w' → AR W ρ' s.H.length s.t a' → Q (exitOf s.x) a' w') → c.wp P Q a w
theorem loop_ok {c : Code} {sc : SC} (hc : slimC P c = some sc) {n : Nat} (ih : ∀ k, k ≤ n → CodeOk P cl k) : ∀ k, k ≤ n + 1 → ∀ (W : World) (ρ : Plan) (H : Heap) (w : World) (t : List AV) (a : Act), Rel W ρ H w → AR W ρ H.length t a → ∀ s : St, codeW cl k (.loop sc) t H = some s →
    ∀ Q : Exit → Act → World → Prop, (∀ a' w' ρ', Stp W ρ H w ρ' s.H w' → AR W ρ' s.H.length s.t a' → Q (exitOf s.x) a' w') → Code.rounds P c Q k a w
  | 0, _, W, ρ, H, w, t, a, hr, ha, s, he, Q, hq => by simp [codeW] at he
  | k + 1, hk, W, ρ, H, w, t, a, hr, ha, s, he, Q, hq => by
    simp only [codeW, Option.bind_eq_some_iff] at he
    obtain ⟨s1, h1, h2⟩ := he
    rw [rounds_succ]
    refine ih k (by omega) c sc hc W ρ H w t a hr ha s1 h1 _ fun a' w' ρ' hst ha' => ?_
    cases hx : s1.x with
    | normal =>
      rw [hx] at h2
      simp only [exitOf, Exit.then]
      exact loop_ok hc ih k (by omega) W ρ' s1.H w' s1.t a' hst.rel ha' s h2 Q fun a'' w'' ρ'' hst' ha'' => hq _ _ _ (hst.trans hst') ha''
    | exit id =>
      rw [hx] at h2
      simp only [Option.some.injEq] at h2
      subst h2
      have := hq _ _ _ hst ha'
      rw [hx] at this
      exact this
    | ret =>
      rw [hx] at h2
      simp only [Option.some.injEq] at h2
      subst h2
      have := hq _ _ _ hst ha'
      rw [hx] at this
      exact this
theorem code_ok (hcl : ClOk P cl) (hrd : RegdOk P cl) : ∀ k, CodeOk P cl k := by
  intro k
  induction k using Nat.strongRecOn with
  | _ k ih =>
    intro c sc hc W ρ H w t a hr ha s he Q hq
    match k, ih, he with
    | 0, _, he => simp [codeW] at he
    | k + 1, ih, he =>
      cases c <;> simp only [slimC, reduceCtorEq] at hc
      case skip =>
        injection hc with hc; subst hc
        simp only [codeW, Option.some.injEq] at he
        subst he
        exact wp_skip (hq _ _ _ (.refl hr) ha)
      case region id os draw =>
        cases draw
        · simp only [slimReg, Bool.false_eq_true, if_false, Option.bind_eq_some_iff, Option.some.injEq] at hc
          obtain ⟨l, hl, rfl⟩ := hc
          simp only [codeW, Option.map_eq_some_iff] at he
          obtain ⟨⟨t', H'⟩, h1, rfl⟩ := he
          exact wp_region_list (ops_ok hcl hl hr ha h1 fun a' w' ρ' hst ha' => hq _ _ _ hst ha')
        · obtain ⟨l, rfl⟩ := slimReg_true hc
          simp only [codeW, Option.map_eq_some_iff] at he
          obtain ⟨⟨t', H'⟩, h1, rfl⟩ := he
          exact hrd id os l hc W ρ H w t a hr ha t' H' h1 Q fun a' w' ρ' hst ha' => hq _ _ _ hst ha'
      case seq x y =>
        simp only [Option.bind_eq_some_iff, Option.map_eq_some_iff] at hc
        obtain ⟨sx, hx, sy, hy, rfl⟩ := hc
        simp only [codeW, Option.bind_eq_some_iff] at he
        obtain ⟨s1, h1, h2⟩ := he
        refine wp_seq (ih k (by omega) x sx hx W ρ H w t a hr ha s1 h1 _ fun a' w' ρ' hst ha' => ?_)
        cases hx1 : s1.x with
        | normal =>
          rw [hx1] at h2
          simp only [exitOf, Exit.then]
          exact ih k (by omega) y sy hy W ρ' s1.H w' s1.t a' hst.rel ha' s h2 Q fun a'' w'' ρ'' hst' ha'' => hq _ _ _ (hst.trans hst') ha''
        | exit id =>
          rw [hx1] at h2
          simp only [Option.some.injEq] at h2
          subst h2
          have := hq _ _ _ hst ha'
          rw [hx1] at this
          exact this
        | ret =>
          rw [hx1] at h2
          simp only [Option.some.injEq] at h2
          subst h2
          have := hq _ _ _ hst ha'
          rw [hx1] at this
          exact this
      case cond c x y =>
        simp only [Option.bind_eq_some_iff, Option.map_eq_some_iff] at hc
        obtain ⟨scc, hcc, sx, hx, sy, hy, rfl⟩ := hc
        simp only [codeW] at he
        have hcv := evx_ok ha hcc
        split at he <;> (try (cases he; done))
        · rename_i hb
          rw [hb] at hcv
          simp only [VR] at hcv
          exact wp_cond_true hcv (ih k (by omega) x sx hx W ρ H w t a hr ha s he Q hq)
        · rename_i hb
          rw [hb] at hcv
          simp only [VR] at hcv
          exact wp_cond_false hcv (ih k (by omega) y sy hy W ρ H w t a hr ha s he Q hq)
      case block id x =>
        simp only [Option.map_eq_some_iff] at hc
        obtain ⟨sx, hx, rfl⟩ := hc
        simp only [codeW, Option.map_eq_some_iff] at he
        obtain ⟨s1, h1, h2⟩ := he
        refine wp_block (ih k (by omega) x sx hx W ρ H w t a hr ha s1 h1 _ fun a' w' ρ' hst ha' => ?_)
        cases hx1 : s1.x with
        | normal =>
          rw [hx1] at h2
          subst h2
          have := hq _ _ _ hst ha'
          rw [hx1] at this
          exact this
        | ret =>
          rw [hx1] at h2
          subst h2
          have := hq _ _ _ hst ha'
          rw [hx1] at this
          exact this
        | exit j =>
          rw [hx1] at h2
          simp only at h2
          simp only [exitOf, Exit.inBlock]
          by_cases hj : j = id
          · rw [if_pos hj] at h2 ⊢
            subst h2
            exact hq _ _ _ hst ha'
          · rw [if_neg hj] at h2 ⊢
            subst h2
            have := hq _ _ _ hst ha'
            rw [hx1] at this
            exact this
      case loop x =>
        simp only [Option.map_eq_some_iff] at hc
        obtain ⟨sx, hx, rfl⟩ := hc
        exact wp_loop_rounds (k + 1) (loop_ok hx (n := k) (fun j hj => ih j (by omega)) (k + 1) (Nat.le_refl _) W ρ H w t a hr ha s he Q hq)
      case exit id =>
        injection hc with hc; subst hc
        simp only [codeW, Option.some.injEq] at he
        subst he
        exact wp_exit (hq _ _ _ (.refl hr) ha)
      case ret =>
        injection hc with hc; subst hc
        simp only [codeW, Option.some.injEq] at he
        subst he
        exact wp_ret (hq _ _ _ (.refl hr) ha)
end
end Go.Den
