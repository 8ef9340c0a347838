/- To run the machine by simp: temporaries as a chain of what was written, the last first. -/
import Derived.Test.YthfpndelfbeknaaDen27
set_option linter.unusedVariables false
set_option linter.unusedSimpArgs false
namespace Go.Den
/-- Temporaries: what they were, and what was written since, the last first. -/
def tm (t : List AV) : List (Nat × AV) → List AV
  | [] => t
  | p :: l => (tm t l).set p.1 p.2
theorem tm_length (t : List AV) : ∀ l, (tm t l).length = t.length
  | [] => rfl
  | p :: l => by simp [tm, tm_length t l]
def look1 (t : List AV) (d : Nat) : List (Nat × AV) → AV
  | [] => t.getD d .undef
  | p :: l => if p.1 = d then p.2 else look1 t d l
theorem tm_get {t : List AV} {d : Nat} (hd : d < t.length) : ∀ l, (tm t l).getD d .undef = look1 t d l
  | [] => rfl
  | p :: l => by
    have ih := tm_get hd l
    have hl := tm_length t l
    simp only [tm, look1]
    by_cases h : p.1 = d
    · subst h; simp [List.getD, hl, hd]
    · rw [if_neg h, ← ih]; simp [List.getD, h]
theorem tm_put {t : List AV} {d : Nat} {v : AV} {l : List (Nat × AV)} : put (tm t l) (some d) v = tm t ((d, v) :: l) := _root_.id rfl
theorem evx_t {t : List AV} {d : Nat} {l : List (Nat × AV)} (hd : d < t.length) : evx (tm t l) (.t d) = look1 t d l := tm_get hd l
/-- so many that nothing was written to. -/
def blank (n : Nat) : List AV := List.replicate n .undef
theorem blank_length (n : Nat) : (blank n).length = n := by simp [blank]
theorem blank_get (n d : Nat) : (blank n).getD d .undef = .undef := by
  by_cases h : d < n <;> simp [blank, List.getD, h]
theorem evx_v {t : List AV} {a : AV} : evx t (.v a) = a := _root_.id rfl
theorem put_none {t : List AV} {v : AV} : put t none v = t := _root_.id rfl
def idx : Nat → List AV → List (Nat × AV)
  | _, [] => []
  | k, a :: l => (k, a) :: idx (k + 1) l
theorem tm_idx (n : Nat) : ∀ (l : List AV) (k : Nat), k + l.length ≤ n → tm (blank n) (idx k l) = List.replicate k .undef ++ l ++ List.replicate (n - k - l.length) .undef
  | [], k, h => by
    simp only [idx, tm, blank, List.length_nil, Nat.sub_zero, List.append_nil]
    rw [List.replicate_append_replicate]
    congr 1
    simp at h
    omega
  | a :: l, k, h => by
    simp only [List.length_cons] at h
    simp only [idx, tm]
    rw [tm_idx n l (k + 1) (by omega)]
    rw [List.replicate_succ']
    simp only [List.append_assoc, List.length_cons]
    rw [List.set_append_right k _ (by simp)]
    simp [Nat.sub_sub, Nat.add_comm, Nat.add_left_comm]
theorem tm_start {n : Nat} {args : List AV} (h : args.length ≤ n) : args ++ List.replicate (n - args.length) .undef = tm (blank n) (idx 0 args) := by
  rw [tm_idx n args 0 (by omega)]
  simp
theorem wants_none {t : List AV} : wants t none = true := _root_.id rfl
theorem wants_some {t : List AV} {j : Nat} {b : Bool} : wants t (some (j, b)) = match bool? (evx t (.t j)) with | some c => c == b | none => false := _root_.id rfl
theorem ops_cons {cl : CL} {o : SO} {d : Option Nat} {g : Option (Nat × Bool)} {r : List SOp} {t : List AV} {H : Heap} {dr : Option (List Nat)} {ap : List (Option (Nat × Bool) × SX)} : ops cl (⟨d, o, g, dr, ap⟩ :: r) t H = if wants t g then (sop cl t H o).bind fun q => ops cl r (put t d q.1) q.2 else ops cl r (put t d .undef) H := _root_.id rfl
theorem ops_nil {cl : CL} {t : List AV} {H : Heap} : ops cl [] t H = some (t, H) := _root_.id rfl
theorem opsd_nil {cl : CL} {i : Nat} {m : List (Nat × Nat × Nat)} {t : List AV} {H : Heap} : opsd cl i m [] t H = some (t, H) := _root_.id rfl
theorem opsd_some {cl : CL} {o : SO} {d : Option Nat} {g : Option (Nat × Bool)} {r : List SOp} {t : List AV} {H : Heap} {i : Nat} {m : List (Nat × Nat × Nat)} {u : List Nat} {ap : List (Option (Nat × Bool) × SX)} : opsd cl i m (⟨d, o, g, some u, ap⟩ :: r) t H =
    if wants t g then (sop cl t (veil u m H) o).bind fun q =>
      if (o.calls = true → sameH (q.2.take H.length) (veil u m H) = true) ∧ shun u m q.1 (q.2.drop H.length) = true then opsd cl (i + 1) (addMade m i H.length q.2.length) r (put t d q.1) (H ++ q.2.drop H.length) else none
    else opsd cl (i + 1) m r (put t d .undef) H := _root_.id rfl
theorem veil_nil {u : List Nat} {H : Heap} : veil u [] H = H := _root_.id rfl
theorem veil_cons {u : List Nat} {p : Nat × Nat × Nat} {m : List (Nat × Nat × Nat)} {H : Heap} : veil u (p :: m) H = veil u m (if u.contains p.1 then H.take p.2.1 ++ List.replicate p.2.2 .dead ++ H.drop (p.2.1 + p.2.2) else H) := _root_.id rfl
theorem addMade_same {m : List (Nat × Nat × Nat)} {i n : Nat} : addMade m i n n = m := by simp [addMade]
theorem leave_one {H : Heap} {k : Nat} {t : List AV} {H1 : Heap} : leave H [.tmp k] ⟨.ret, t, H1⟩ = some (tidy H (evx t (.t k)) H1) := _root_.id rfl
theorem tidy_int {H : Heap} {k : IntKind} {n : Int} : tidy H (.int k n) H = (.int k n, H) := tidy_flat0 rfl
theorem tidy_int' {H X : Heap} {k : IntKind} {n : Int} : tidy H (.int k n) (H ++ X) = (.int k n, H) := tidy_flat rfl
theorem tidy_bool {H : Heap} {b : Bool} : tidy H (.bool b) H = (.bool b, H) := tidy_flat0 rfl
theorem tidy_bool' {H X : Heap} {b : Bool} : tidy H (.bool b) (H ++ X) = (.bool b, H) := tidy_flat rfl
/-- Any temporaries are such a chain. -/
theorem tm_nil (t : List AV) : tm t [] = t := _root_.id rfl
/-- A row that was just made. -/
theorem arow_last {H : Heap} {l : List AV} {e : TypeId} {w : Bool} : arow (H ++ [.cells l e w]) H.length = some l := by simp [arow]
/-- To look into the first part alone (local congr). -/
theorem bind_left {α β : Type} {x y : Option α} {f : α → Option β} (h : x = y) : x.bind f = y.bind f := by rw [h]
end Go.Den
