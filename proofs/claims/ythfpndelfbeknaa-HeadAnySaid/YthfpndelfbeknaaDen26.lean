/- The machine without fuel. -/
import Derived.Test.YthfpndelfbeknaaDen25
set_option linter.unusedVariables false
set_option linter.unusedSimpArgs false
namespace Go.Den

/-- What a growing row of answers comes to. -/
noncomputable def lim {α : Type} (f : Nat → Option α) : Option α := open Classical in if h : ∃ k a, f k = some a then f h.choose else none
def Grows {α : Type} (f : Nat → Option α) : Prop := ∀ k a, f k = some a → f (k + 1) = some a
theorem Grows.le {α : Type} {f : Nat → Option α} (h : Grows f) {k : Nat} {a : α} (hk : f k = some a) : ∀ {m : Nat}, k ≤ m → f m = some a
  | 0, hm => by obtain rfl : k = 0 := by omega
                exact hk
  | m + 1, hm => by
    by_cases he : k = m + 1
    · subst he; exact hk
    · exact h m a (h.le hk (by omega))
theorem lim_iff {α : Type} {f : Nat → Option α} (h : Grows f) {a : α} : lim f = some a ↔ ∃ k, f k = some a := by
  unfold lim
  constructor
  · intro he
    split at he
    · rename_i hx; exact ⟨_, he⟩
    · cases he
  · rintro ⟨k, hk⟩
    have hx : ∃ k a, f k = some a := ⟨k, a, hk⟩
    rw [dif_pos hx]
    obtain ⟨b, hb⟩ := hx.choose_spec
    rcases Nat.le_total k hx.choose with h1 | h1
    · exact h.le hk h1
    · have := h.le hb h1
      rw [hb, ← this, hk]
theorem opt_ext {α : Type} {x y : Option α} (h : ∀ a, x = some a ↔ y = some a) : x = y := by
  cases x with
  | none => cases y with
    | none => rfl
    | some b => exact absurd ((h b).2 rfl) (by simp)
  | some a => exact ((h a).1 rfl).symm
/-- One machine says no less than another. -/
def Less (c d : CL) : Prop := ∀ f args H r, c f args H = some r → d f args H = some r
section
variable {c d : CL}
theorem sop_less (h : Less c d) {t : List AV} {H : Heap} {s : SO} {r : AV × Heap} (hs : sop c t H s = some r) : sop d t H s = some r := by
  cases s <;> try exact hs
  case call f xs => exact h _ _ _ _ hs
  case callv x xs =>
    simp only [sop] at hs ⊢
    split at hs <;> (try (cases hs; done))
    exact h _ _ _ _ hs
theorem ops_less (h : Less c d) : ∀ {l : List SOp} {t : List AV} {H : Heap} {r : List AV × Heap}, ops c l t H = some r → ops d l t H = some r
  | [], t, H, r, hs => hs
  | o :: l, t, H, r, hs => by
    simp only [ops] at hs ⊢
    by_cases hw : wants t o.guard = true
    · rw [if_pos hw] at hs ⊢
      simp only [Option.bind_eq_some_iff] at hs ⊢
      obtain ⟨q, h1, h2⟩ := hs
      exact ⟨q, sop_less h h1, ops_less h h2⟩
    · rw [if_neg hw] at hs ⊢
      exact ops_less h hs
theorem opsd_less (h : Less c d) : ∀ {l : List SOp} {i : Nat} {m : List (Nat × Nat × Nat)} {t : List AV} {H : Heap} {r : List AV × Heap}, opsd c i m l t H = some r → opsd d i m l t H = some r
  | [], i, m, t, H, r, hs => hs
  | o :: l, i, m, t, H, r, hs => by
    simp only [opsd] at hs ⊢
    by_cases hw : wants t o.guard = true
    · rw [if_pos hw] at hs ⊢
      cases hd : o.draw with
      | none =>
        simp only [hd, Option.bind_eq_some_iff] at hs ⊢
        obtain ⟨q, h1, h2⟩ := hs
        refine ⟨q, sop_less h h1, ?_⟩
        split at h2 <;> (try (cases h2; done))
        rename_i hc
        rw [if_pos hc]
        exact opsd_less h h2
      | some unk =>
        simp only [hd, Option.bind_eq_some_iff] at hs ⊢
        obtain ⟨q, h1, h2⟩ := hs
        refine ⟨q, sop_less h h1, ?_⟩
        split at h2 <;> (try (cases h2; done))
        rename_i hc
        rw [if_pos hc]
        exact opsd_less h h2
    · rw [if_neg hw] at hs ⊢
      exact opsd_less h hs
theorem codeW_less (h : Less c d) : ∀ {k : Nat} {x : SC} {t : List AV} {H : Heap} {s : St}, codeW c k x t H = some s → codeW d (k + 1) x t H = some s ∧ codeW d k x t H = some s
  | 0, x, t, H, s, hs => by simp [codeW] at hs
  | k + 1, x, t, H, s, hs => by
    cases x <;> simp only [codeW] at hs
    case skip => exact ⟨hs, hs⟩
    case exit id => exact ⟨hs, hs⟩
    case ret => exact ⟨hs, hs⟩
    case reg l =>
      simp only [Option.map_eq_some_iff] at hs
      obtain ⟨q, h1, h2⟩ := hs
      have h3 := ops_less h h1
      exact ⟨by simp only [codeW, h3, Option.map_some, h2], by simp only [codeW, h3, Option.map_some, h2]⟩
    case regd l =>
      simp only [Option.map_eq_some_iff] at hs
      obtain ⟨q, h1, h2⟩ := hs
      have h3 := opsd_less h h1
      exact ⟨by simp only [codeW, h3, Option.map_some, h2], by simp only [codeW, h3, Option.map_some, h2]⟩
    case seq a b =>
      simp only [Option.bind_eq_some_iff] at hs
      obtain ⟨s1, h1, h2⟩ := hs
      obtain ⟨h3, h4⟩ := codeW_less h h1
      constructor
      · rw [codeW, h3, Option.bind_some]
        split at h2
        · exact (codeW_less h h2).1
        · exact h2
      · rw [codeW, h4, Option.bind_some]
        split at h2
        · exact (codeW_less h h2).2
        · exact h2
    case cond e a b =>
      rw [codeW, codeW]
      split at hs <;> (try (cases hs; done)) <;> exact codeW_less h hs
    case block id a =>
      simp only [Option.map_eq_some_iff] at hs
      obtain ⟨s1, h1, h2⟩ := hs
      obtain ⟨h3, h4⟩ := codeW_less h h1
      exact ⟨by rw [codeW, h3, Option.map_some, h2], by rw [codeW, h4, Option.map_some, h2]⟩
    case loop a =>
      simp only [Option.bind_eq_some_iff] at hs
      obtain ⟨s1, h1, h2⟩ := hs
      obtain ⟨h3, h4⟩ := codeW_less h h1
      constructor
      · rw [codeW, h3, Option.bind_some]
        split at h2
        · exact (codeW_less h h2).1
        · exact h2
      · rw [codeW, h4, Option.bind_some]
        split at h2
        · exact (codeW_less h h2).2
        · exact h2
theorem Less.refl : Less c c := fun _ _ _ _ h => h
theorem codeW_grows {x : SC} {t : List AV} {H : Heap} : Grows fun k => codeW c k x t H := fun _ _ h => (codeW_less Less.refl h).1
theorem callN_grows {e : Env} : ∀ (n : Nat), Less (callN e n) (callN e (n + 1))
  | 0 => fun f args H r h => by simp [callN] at h
  | n + 1 => fun f args H r h => by
    have ih := callN_grows (e := e) n
    rw [callN] at h ⊢
    split
    · rename_i hI; rw [if_pos hI] at h; exact h
    · rename_i hI
      rw [if_neg hI] at h
      simp only [Option.bind_eq_some_iff] at h ⊢
      obtain ⟨fn, h1, s, h2, h3⟩ := h
      exact ⟨fn, h1, s, (codeW_less ih h2).1, h3⟩
theorem callN_le {e : Env} {n m : Nat} (h : n ≤ m) : Less (callN e n) (callN e m) := fun f args H r hr =>
  Grows.le (f := fun n => callN e n f args H) (fun k a hk => callN_grows k f args H a hk) hr h
end
noncomputable def code (cl : CL) (x : SC) (t : List AV) (H : Heap) : Option St := lim fun k => codeW cl k x t H
noncomputable def call (e : Env) : CL := fun f args H => lim fun n => callN e n f args H
theorem code_iff {cl : CL} {x : SC} {t : List AV} {H : Heap} {s : St} : code cl x t H = some s ↔ ∃ k, codeW cl k x t H = some s := lim_iff codeW_grows
theorem call_iff {e : Env} {f : Nat} {args : List AV} {H : Heap} {r : AV × Heap} : call e f args H = some r ↔ ∃ n, callN e n f args H = some r := lim_iff fun n a h => callN_grows n _ _ _ _ h
theorem lim_const {α : Type} {f : Nat → Option α} (hg : Grows f) {x : Option α} (h0 : f 0 = none) (h : ∀ k, f (k + 1) = x) : lim f = x := opt_ext fun a => by
  rw [lim_iff hg]
  constructor
  · rintro ⟨k, hk⟩
    cases k with
    | zero => rw [h0] at hk; cases hk
    | succ k => rw [← h k]; exact hk
  · intro hx
    exact ⟨1, by rw [h 0]; exact hx⟩
section
variable {cl : CL} {t : List AV} {H : Heap}
theorem code_skip : code cl .skip t H = some ⟨.normal, t, H⟩ := lim_const codeW_grows rfl fun _ => rfl
theorem code_reg {l : List SOp} : code cl (.reg l) t H = (ops cl l t H).map fun q => ⟨.normal, q.1, q.2⟩ := lim_const codeW_grows rfl fun _ => rfl
theorem code_regd {l : List SOp} : code cl (.regd l) t H = (opsd cl 0 [] l t H).map fun q => ⟨.normal, q.1, q.2⟩ := lim_const codeW_grows rfl fun _ => rfl
theorem code_exit {id : Nat} : code cl (.exit id) t H = some ⟨.exit id, t, H⟩ := lim_const codeW_grows rfl fun _ => rfl
theorem code_ret : code cl .ret t H = some ⟨.ret, t, H⟩ := lim_const codeW_grows rfl fun _ => rfl
/-- On, where code came to its end. -/
def andThen (s : St) (f : List AV → Heap → Option St) : Option St :=
  match s.x with
  | .normal => f s.t s.H
  | _ => some s
theorem andThen_normal {t : List AV} {H : Heap} {f : List AV → Heap → Option St} : andThen ⟨.normal, t, H⟩ f = f t H := _root_.id rfl
theorem andThen_exit {t : List AV} {H : Heap} {id : Nat} {f : List AV → Heap → Option St} : andThen ⟨.exit id, t, H⟩ f = some ⟨.exit id, t, H⟩ := _root_.id rfl
theorem andThen_ret {t : List AV} {H : Heap} {f : List AV → Heap → Option St} : andThen ⟨.ret, t, H⟩ f = some ⟨.ret, t, H⟩ := _root_.id rfl
theorem code_two {x a b : SC} (hx : ∀ k, codeW cl (k + 1) x t H = (codeW cl k a t H).bind fun s => match s.x with | .normal => codeW cl k b s.t s.H | _ => some s) : code cl x t H = (code cl a t H).bind fun s => andThen s (code cl b) := opt_ext fun r => by
  rw [code_iff]
  simp only [Option.bind_eq_some_iff]
  constructor
  · rintro ⟨k, hk⟩
    cases k with
    | zero => simp [codeW] at hk
    | succ k =>
      rw [hx] at hk
      simp only [Option.bind_eq_some_iff] at hk
      obtain ⟨s, h1, h2⟩ := hk
      refine ⟨s, code_iff.2 ⟨k, h1⟩, ?_⟩
      obtain ⟨sx, st, sH⟩ := s
      cases sx with
      | normal => exact code_iff.2 ⟨k, h2⟩
      | exit id => exact h2
      | ret => exact h2
  · rintro ⟨s, h1, h2⟩
    obtain ⟨k1, h1⟩ := code_iff.1 h1
    obtain ⟨sx, st, sH⟩ := s
    cases sx with
    | normal =>
      obtain ⟨k2, h2⟩ := code_iff.1 (show code cl b st sH = some r from h2)
      refine ⟨max k1 k2 + 1, ?_⟩
      have e1 := (codeW_grows (c := cl) (x := a) (t := t) (H := H)).le h1 (m := max k1 k2) (by omega)
      have e2 := (codeW_grows (c := cl) (x := b) (t := st) (H := sH)).le h2 (m := max k1 k2) (by omega)
      rw [hx, e1, Option.bind_some]
      exact e2
    | exit id =>
      refine ⟨k1 + 1, ?_⟩
      rw [hx, h1, Option.bind_some]
      exact h2
    | ret =>
      refine ⟨k1 + 1, ?_⟩
      rw [hx, h1, Option.bind_some]
      exact h2
theorem code_seq {a b : SC} : code cl (.seq a b) t H = (code cl a t H).bind fun s => andThen s (code cl b) := code_two fun _ => rfl
theorem code_loop {a : SC} : code cl (.loop a) t H = (code cl a t H).bind fun s => andThen s (code cl (.loop a)) := code_two fun _ => rfl
theorem code_cond {e : SX} {a b : SC} : code cl (.cond e a b) t H = match evx t e with | .bool true => code cl a t H | .bool false => code cl b t H | _ => none := opt_ext fun r => by
  rw [code_iff]
  constructor
  · rintro ⟨k, hk⟩
    cases k with
    | zero => simp [codeW] at hk
    | succ k =>
      simp only [codeW] at hk
      split at hk <;> (try (cases hk; done)) <;> rename_i he <;> simp only [he] <;> exact code_iff.2 ⟨k, hk⟩
  · intro h
    split at h <;> (try (cases h; done)) <;> rename_i he <;> obtain ⟨k, hk⟩ := code_iff.1 h <;> exact ⟨k + 1, by simp only [codeW, he]; exact hk⟩
def inBlock (id : Nat) (s : St) : St :=
  match s.x with
  | .exit j => if j = id then ⟨.normal, s.t, s.H⟩ else s
  | _ => s
theorem code_block {id : Nat} {a : SC} : code cl (.block id a) t H = (code cl a t H).map (inBlock id) := opt_ext fun r => by
  rw [code_iff]
  simp only [Option.map_eq_some_iff]
  constructor
  · rintro ⟨k, hk⟩
    cases k with
    | zero => simp [codeW] at hk
    | succ k =>
      simp only [codeW, Option.map_eq_some_iff] at hk
      obtain ⟨s, h1, h2⟩ := hk
      exact ⟨s, code_iff.2 ⟨k, h1⟩, h2⟩
  · rintro ⟨s, h1, h2⟩
    obtain ⟨k, hk⟩ := code_iff.1 h1
    exact ⟨k + 1, by simp only [codeW, hk, Option.map_some]; exact congrArg some h2⟩
end
/-! ### Calls -/
section
variable {e : Env}
theorem sop_call {t : List AV} {H : Heap} {s : SO} {r : AV × Heap} (hs : sop (call e) t H s = some r) : ∃ n, sop (callN e n) t H s = some r := by
  cases s <;> try exact ⟨0, hs⟩
  case call f xs => exact call_iff.1 hs
  case callv x xs =>
    simp only [sop] at hs ⊢
    split at hs <;> (try (cases hs; done))
    rename_i f cap hf
    obtain ⟨n, hn⟩ := call_iff.1 hs
    exact ⟨n, hn⟩
theorem ops_call : ∀ {l : List SOp} {t : List AV} {H : Heap} {r : List AV × Heap}, ops (call e) l t H = some r → ∃ n, ops (callN e n) l t H = some r
  | [], t, H, r, hs => ⟨0, hs⟩
  | o :: l, t, H, r, hs => by
    simp only [ops] at hs
    split at hs
    · rename_i hw
      simp only [Option.bind_eq_some_iff] at hs
      obtain ⟨q, h1, h2⟩ := hs
      obtain ⟨n, h3⟩ := sop_call h1
      obtain ⟨m, h4⟩ := ops_call h2
      refine ⟨max n m, ?_⟩
      simp only [ops, if_pos hw, Option.bind_eq_some_iff]
      exact ⟨q, sop_less (callN_le (by omega)) h3, ops_less (callN_le (by omega)) h4⟩
    · rename_i hw
      obtain ⟨n, hn⟩ := ops_call hs
      exact ⟨n, by simp only [ops, if_neg hw]; exact hn⟩
theorem opsd_call : ∀ {l : List SOp} {i : Nat} {m : List (Nat × Nat × Nat)} {t : List AV} {H : Heap} {r : List AV × Heap}, opsd (call e) i m l t H = some r → ∃ n, opsd (callN e n) i m l t H = some r
  | [], i, m, t, H, r, hs => ⟨0, hs⟩
  | o :: l, i, m, t, H, r, hs => by
    simp only [opsd] at hs
    split at hs
    · rename_i hw
      split at hs
      · rename_i hd
        simp only [Option.bind_eq_some_iff] at hs
        obtain ⟨q, h1, h2⟩ := hs
        split at h2 <;> (try (cases h2; done))
        rename_i hc
        obtain ⟨n, h3⟩ := sop_call h1
        obtain ⟨n', h4⟩ := opsd_call h2
        refine ⟨max n n', ?_⟩
        simp only [opsd, if_pos hw, hd, Option.bind_eq_some_iff]
        exact ⟨q, sop_less (callN_le (by omega)) h3, by rw [if_pos hc]; exact opsd_less (callN_le (by omega)) h4⟩
      · rename_i unk hd
        simp only [Option.bind_eq_some_iff] at hs
        obtain ⟨q, h1, h2⟩ := hs
        split at h2 <;> (try (cases h2; done))
        rename_i hc
        obtain ⟨n, h3⟩ := sop_call h1
        obtain ⟨n', h4⟩ := opsd_call h2
        refine ⟨max n n', ?_⟩
        simp only [opsd, if_pos hw, hd, Option.bind_eq_some_iff]
        exact ⟨q, sop_less (callN_le (by omega)) h3, by rw [if_pos hc]; exact opsd_less (callN_le (by omega)) h4⟩
    · rename_i hw
      obtain ⟨n, hn⟩ := opsd_call hs
      exact ⟨n, by simp only [opsd, if_neg hw]; exact hn⟩
theorem codeW_up {n m k k' : Nat} (hn : n ≤ m) (hk : k ≤ k') {x : SC} {t : List AV} {H : Heap} {s : St} (h : codeW (callN e n) k x t H = some s) : codeW (callN e m) k' x t H = some s :=
  Grows.le (f := fun k => codeW (callN e m) k x t H) codeW_grows (codeW_less (callN_le hn) h).2 hk
theorem codeW_call : ∀ {k : Nat} {x : SC} {t : List AV} {H : Heap} {s : St}, codeW (call e) k x t H = some s → ∃ n, codeW (callN e n) k x t H = some s
  | 0, x, t, H, s, hs => by simp [codeW] at hs
  | k + 1, x, t, H, s, hs => by
    cases x <;> simp only [codeW] at hs
    case skip => exact ⟨0, hs⟩
    case exit id => exact ⟨0, hs⟩
    case ret => exact ⟨0, hs⟩
    case reg l =>
      simp only [Option.map_eq_some_iff] at hs
      obtain ⟨q, h1, h2⟩ := hs
      obtain ⟨n, h3⟩ := ops_call h1
      exact ⟨n, by simp only [codeW, h3, Option.map_some, h2]⟩
    case regd l =>
      simp only [Option.map_eq_some_iff] at hs
      obtain ⟨q, h1, h2⟩ := hs
      obtain ⟨n, h3⟩ := opsd_call h1
      exact ⟨n, by simp only [codeW, h3, Option.map_some, h2]⟩
    case seq a b =>
      simp only [Option.bind_eq_some_iff] at hs
      obtain ⟨s1, h1, h2⟩ := hs
      obtain ⟨n, h3⟩ := codeW_call h1
      split at h2
      · rename_i hx
        obtain ⟨m, h4⟩ := codeW_call h2
        refine ⟨max n m, ?_⟩
        rw [codeW, codeW_up (m := max n m) (by omega) (Nat.le_refl _) h3, Option.bind_some]
        simp only [hx]
        exact codeW_up (by omega) (Nat.le_refl _) h4
      · rename_i hx
        refine ⟨n, ?_⟩
        rw [codeW, h3, Option.bind_some]
        split
        · rename_i hx'; exact absurd hx' hx
        · exact h2
    case cond c a b =>
      split at hs <;> (try (cases hs; done)) <;> rename_i hc <;> obtain ⟨n, hn⟩ := codeW_call hs <;> exact ⟨n, by simp only [codeW, hc]; exact hn⟩
    case block id a =>
      simp only [Option.map_eq_some_iff] at hs
      obtain ⟨s1, h1, h2⟩ := hs
      obtain ⟨n, h3⟩ := codeW_call h1
      exact ⟨n, by rw [codeW, h3, Option.map_some, h2]⟩
    case loop a =>
      simp only [Option.bind_eq_some_iff] at hs
      obtain ⟨s1, h1, h2⟩ := hs
      obtain ⟨n, h3⟩ := codeW_call h1
      split at h2
      · rename_i hx
        obtain ⟨m, h4⟩ := codeW_call h2
        refine ⟨max n m, ?_⟩
        rw [codeW, codeW_up (m := max n m) (by omega) (Nat.le_refl _) h3, Option.bind_some]
        simp only [hx]
        exact codeW_up (by omega) (Nat.le_refl _) h4
      · rename_i hx
        refine ⟨n, ?_⟩
        rw [codeW, h3, Option.bind_some]
        split
        · rename_i hx'; exact absurd hx' hx
        · exact h2
/-- A call, by the function's body. -/
theorem call_body {f : Nat} {args : List AV} {H : Heap} {r : AV × Heap} {fn : SFn} (hI : e.isI f = false) (hf : e.E f = some fn)
    (h : ((code (call e) fn.body (args ++ List.replicate (fn.ntmps - args.length) .undef) H).bind fun s => leave H fn.results s) = some r) : call e f args H = some r := by
  simp only [Option.bind_eq_some_iff] at h
  obtain ⟨s, h1, h2⟩ := h
  obtain ⟨k, h3⟩ := code_iff.1 h1
  obtain ⟨n, h4⟩ := codeW_call h3
  refine call_iff.2 ⟨max n k + 1, ?_⟩
  rw [callN, if_neg (by simp [hI])]
  simp only [hf, Option.bind_some, Option.bind_eq_some_iff]
  exact ⟨s, codeW_up (by omega) (by omega) h4, h2⟩
theorem call_intr {f : Nat} {args : List AV} {H : Heap} {r : AV × Heap} (hI : e.isI f = true) (h : e.I f args H = some r) : call e f args H = some r :=
  call_iff.2 ⟨1, by rw [callN, if_pos hI]; exact h⟩
theorem call_of {n f : Nat} {args : List AV} {H : Heap} {r : AV × Heap} (h : callN e n f args H = some r) : call e f args H = some r := call_iff.2 ⟨n, h⟩
/-- What the machine says of a call is so. -/
theorem call_sound {P : Program} (hm : P.follows .mixedOrders = true) (he : EnvOk P e) : ClOk P (call e) := by
  intro f args H v H' h
  obtain ⟨n, hn⟩ := call_iff.1 h
  exact call_ok hm he n f args H v H' hn
end
end Go.Den
