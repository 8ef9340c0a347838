/- What comes in: an argument of a type, told as the machine's value. -/
import Derived.Test.YthfpndelfbeknaaDen31
import Derived.Deep.Slices
import Derived.Carry
set_option linter.unusedVariables false
set_option linter.unusedSimpArgs false
namespace Go.Den
/-- Types of arguments. -/
inductive Ty where
  | int (k : IntKind)
  | bool
  | str
  | slice (e : Ty)
  | agg (l : List Ty)
mutual
def Ty.size : Ty → Nat
  | .agg l => Ty.sizes l
  | _ => 1
def Ty.sizes : List Ty → Nat
  | [] => 0
  | t :: l => t.size + Ty.sizes l
end
mutual
/-- Cells of such a type. -/
def Has : Ty → List AV → Prop
  | .int k, c => ∃ n, c = [.int k n] ∧ (Lit.int k n).wf = true
  | .bool, c => ∃ b, c = [.bool b]
  | .str, c => ∃ s : ByteArray, c = [.str s] ∧ s.size ≤ maxLen
  | .slice e, c => c = [.nils] ∨ ∃ ls : List (List AV), c = [.vs ls.flatten ls.length] ∧ ls.length ≤ maxLen ∧ ∀ x ∈ ls, Has e x
  | .agg l, c => HasAll l c
def HasAll : List Ty → List AV → Prop
  | [], c => c = []
  | t :: l, c => ∃ a b, c = a ++ b ∧ Has t a ∧ HasAll l b
end
mutual
theorem Has.size : ∀ {t : Ty} {c : List AV}, Has t c → c.length = t.size
  | .int k, c, h => by obtain ⟨n, rfl, _⟩ := (show ∃ n, c = [.int k n] ∧ _ by simpa only [Has] using h); rfl
  | .bool, c, h => by obtain ⟨n, rfl⟩ := (show ∃ n, c = [.bool n] by simpa only [Has] using h); rfl
  | .str, c, h => by simp only [Has] at h; obtain ⟨n, rfl, _⟩ := h; rfl
  | .slice e, c, h => by simp only [Has] at h; rcases h with rfl | ⟨ls, rfl, _⟩ <;> rfl
  | .agg l, c, h => by simp only [Has] at h; simp only [Ty.size]; exact HasAll.size h
theorem HasAll.size : ∀ {l : List Ty} {c : List AV}, HasAll l c → c.length = Ty.sizes l
  | [], c, h => by simp only [HasAll] at h; subst h; rfl
  | t :: l, c, h => by
    simp only [HasAll] at h
    obtain ⟨a, b, rfl, h1, h2⟩ := h
    simp only [Ty.sizes, List.length_append, Has.size h1, HasAll.size h2]
end
/-- The program's type is such a one. -/
def fitsAll (fit : TypeId → Ty → Bool) (sz : TypeId → Nat) : Nat → List Field → List Ty → Bool
  | _, [], [] => true
  | o, f :: fs, t :: l => fit f.type t && decide (f.offset = o) && decide (sz f.type = t.size) && fitsAll fit sz (o + t.size) fs l
  | _, _, _ => false
def fits (P : Program) : Nat → TypeId → Ty → Bool
  | 0, _, _ => false
  | d + 1, t, ty =>
    match P.underlying t, ty with
    | some (.int k), .int k' => decide (k = k')
    | some .bool, .bool => true
    | some .string, .str => true
    | some (.slice e), .slice e' => fits P d e e' && decide (P.cellsOf e = e'.size)
    | some (.struct fs), .agg l => fitsAll (fits P d) P.cellsOf 0 fs.toList l && decide (P.cellsOf t = Ty.sizes l)
    | some (.array n e), .agg l => decide (l.length = n) && l.all (fun ty => fits P d e ty && decide (P.cellsOf e = ty.size)) && decide (P.cellsOf t = Ty.sizes l)
    | _, _ => false
/-- Cells that stand for these values. -/
def Stand (W : World) (ρ : Plan) (c : List AV) (vs : List Value) : Prop := VRs W ρ 0 c vs ∧ c.all AV.one = true
section
variable {H : Type} {enc : TypeId × Value → H} {P : Program} {w : World} {base : Nat} {spare : Nat → Bool} {held : Bool} {ρ : Plan}
theorem vrs_app {n : Nat} : ∀ {a b : List AV} {x y : List Value}, VRs w ρ n a x → VRs w ρ n b y → VRs w ρ n (a ++ b) (x ++ y)
  | [], b, x, y, h1, h2 => by simp only [VRs] at h1; subst h1; simpa using h2
  | v :: a, b, x, y, h1, h2 => by
    simp only [VRs] at h1
    obtain ⟨u, r, rfl, h3, h4⟩ := h1
    simp only [List.cons_append, VRs]
    exact ⟨u, r ++ y, rfl, h3, vrs_app h4 h2⟩
theorem Stand.append {a b : List AV} {x y : List Value} (h1 : Stand w ρ a x) (h2 : Stand w ρ b y) : Stand w ρ (a ++ b) (x ++ y) :=
  ⟨vrs_app h1.1 h2.1, by simp only [List.all_append, h1.2, h2.2, Bool.and_self]⟩
/-- A row's cells, from the values that lie there. -/
theorem CR_of {a : Addr} : ∀ {c : List AV} {vs : List Value} {i : Nat}, Stand w ρ c vs → (∀ j, j < vs.length → w.cell? (a.add (i + j)) = vs[j]?) → CR w ρ 0 a i c
  | [], vs, i, h, hc => by simp only [CR]
  | v :: c, vs, i, h, hc => by
    obtain ⟨h1, h2⟩ := h
    simp only [VRs] at h1
    obtain ⟨u, r, rfl, h3, h4⟩ := h1
    simp only [List.all_cons, Bool.and_eq_true] at h2
    simp only [CR]
    refine ⟨⟨u, by simpa using hc 0 (by simp), h3, h2.1⟩, CR_of ⟨h4, h2.2⟩ fun j hj => ?_⟩
    have := hc (j + 1) (by simpa using hj)
    rw [show i + 1 + j = i + (j + 1) by omega]
    simpa using this
theorem CR_append {a : Addr} : ∀ {c d : List AV} {i : Nat}, CR w ρ 0 a i c → CR w ρ 0 a (i + c.length) d → CR w ρ 0 a i (c ++ d)
  | [], d, i, h1, h2 => by simpa using h2
  | v :: c, d, i, h1, h2 => by
    simp only [CR] at h1
    simp only [List.cons_append, CR]
    exact ⟨h1.1, CR_append h1.2 (by rw [show i + 1 + c.length = i + (c.length + 1) by omega]; simpa using h2)⟩
theorem CR_at {a : Addr} : ∀ {c : List AV} {i : Nat}, CR w ρ 0 (a.add i) 0 c → CR w ρ 0 a i c := by
  intro c
  have gen : ∀ (c : List AV) (i j : Nat), CR w ρ 0 (a.add i) j c → CR w ρ 0 a (i + j) c := by
    intro c
    induction c with
    | nil => intro i j h; simp only [CR]
    | cons v c ih =>
      intro i j h
      simp only [CR, Deep.add_add] at h ⊢
      exact ⟨h.1, ih i (j + 1) h.2⟩
  intro i h
  simpa using gen c i 0 h
theorem rows_of {a : Addr} {sz : Nat} {p : List AV → Prop} : ∀ {n : Nat}, (∀ i, i < n → ∃ c : List AV, p c ∧ c.length = sz ∧ CR w ρ 0 (a.add (i * sz)) 0 c) → ∃ ls : List (List AV), ls.length = n ∧ (∀ x ∈ ls, p x ∧ x.length = sz) ∧ CR w ρ 0 a 0 ls.flatten
  | 0, _ => ⟨[], rfl, by simp, by simp [CR]⟩
  | n + 1, h => by
    obtain ⟨ls, h1, h2, h3⟩ := rows_of (n := n) fun i hi => h i (by omega)
    obtain ⟨c, h4, h5, h6⟩ := h n (by omega)
    refine ⟨ls ++ [c], by simp [h1], ?_, ?_⟩
    · intro x hx
      rcases List.mem_append.1 hx with hx | hx
      · exact h2 x hx
      · simp at hx; subst hx; exact ⟨h4, h5⟩
    · rw [List.flatten_append]
      refine CR_append h3 ?_
      have e : ls.flatten.length = n * sz := by
        have := flat_len (g := _root_.id) (l := ls) (sz := sz) fun x hx => (h2 x hx).2
        rw [List.flatMap_id] at this
        rw [this, h1]
      rw [e, Nat.zero_add]
      simpa using CR_at h6

theorem stand_int {k : IntKind} {n : Int} : Stand w ρ [.int k n] [.int k n] := ⟨by simp [VRs, VR], rfl⟩
theorem stand_bool {b : Bool} : Stand w ρ [.bool b] [.bool b] := ⟨by simp [VRs, VR], rfl⟩
theorem stand_str {b : ByteArray} : Stand w ρ [.str b] [.string b] := ⟨by simp [VRs, VR], rfl⟩
mutual
/-- What a reading of the arguments meets is such a value. -/
theorem dec : ∀ (ty : Ty) (d fuel : Nat) (t : TypeId) (cs : List Value) (x : DataW H × List MemPlace), DataW.trod enc P w base spare held fuel t cs = some x → fits P d t ty = true → ∃ c, Has ty c ∧ Stand w ρ c cs
  | ty, 0, fuel, t, cs, x, h, hf => by simp [fits] at hf
  | ty, d + 1, 0, t, cs, x, h, hf => by simp [DataW.trod] at h
  | .int k, d + 1, fuel + 1, t, cs, x, h, hf => by
    simp only [fits] at hf
    split at hf <;> (try (cases hf; done)) <;> rename_i e1 e2 <;> (try (cases e2; done))
    injection e2 with e2; subst e2
    simp only [decide_eq_true_eq] at hf
    subst hf
    simp only [DataW.trod, e1] at h
    split at h <;> (try (cases h; done)) <;> rename_i e3 <;> (try (cases e3; done))
    injection e3 with e3; injection e3 with e3; subst e3
    split at h <;> (try (cases h; done))
    rename_i e4
    obtain ⟨rfl, hw⟩ := e4
    refine ⟨_, ?_, stand_int⟩
    simp only [Has]; exact ⟨_, rfl, hw⟩
  | .bool, d + 1, fuel + 1, t, cs, x, h, hf => by
    simp only [fits] at hf
    split at hf <;> (try (cases hf; done)) <;> rename_i e1 e2 <;> (try (cases e2; done))
    simp only [DataW.trod, e1] at h
    split at h <;> (try (cases h; done)) <;> rename_i e3 <;> (try (cases e3; done))
    refine ⟨_, ?_, stand_bool⟩
    simp only [Has]; exact ⟨_, rfl⟩
  | .str, d + 1, fuel + 1, t, cs, x, h, hf => by
    simp only [fits] at hf
    split at hf <;> (try (cases hf; done)) <;> rename_i e1 e2 <;> (try (cases e2; done))
    simp only [DataW.trod, e1] at h
    split at h <;> (try (cases h; done)) <;> rename_i e3 <;> (try (cases e3; done))
    split at h <;> (try (cases h; done))
    rename_i e4
    refine ⟨_, ?_, stand_str⟩
    simp only [Has]; exact ⟨_, rfl, e4⟩
  | .slice e', d + 1, fuel + 1, t, cs, x, h, hf => by
    simp only [fits] at hf
    split at hf <;> (try (cases hf; done)) <;> rename_i e1 e2 <;> (try (cases e2; done))
    rename_i e _
    injection e2 with e2; subst e2
    simp only [Bool.and_eq_true, decide_eq_true_eq] at hf
    obtain ⟨hf, hs⟩ := hf
    rcases Deep.open_slice e1 h with ⟨rfl, _⟩ | ⟨a, len, cap, m, n, D, Pl, rfl, hb, hl, hm, hmm, rfl, hx⟩
    · refine ⟨[.nils], ?_, ⟨by simp [VRs, VR], rfl⟩⟩
      simp only [Has]; exact .inl trivial
    · have hle : len ≤ m := by rw [hmm]; split <;> omega
      obtain ⟨ls, h1, h2, h3⟩ := rows_of (w := w) (ρ := ρ) (a := a) (sz := e'.size) (p := Has e') (n := len) fun i hi => by
        obtain ⟨cs', h4, h5⟩ := hx i (by omega)
        obtain ⟨c, h6, h7⟩ := dec e' d _ e cs' _ h5 hf
        obtain ⟨_, h8, h9⟩ := World.cells?_some h4
        refine ⟨c, h6, h6.size, ?_⟩
        rw [← hs]
        exact CR_of h7 fun j hj => by rw [Nat.zero_add]; exact h9 j (by omega)
      refine ⟨[.vs ls.flatten ls.length], ?_, ⟨?_, rfl⟩⟩
      · simp only [Has]
        exact .inr ⟨ls, rfl, by omega, fun x hx => (h2 x hx).1⟩
      · simp only [VRs, VR]
        exact ⟨_, _, rfl, ⟨a, cap, by rw [h1], by omega, h3⟩, rfl⟩
  | .agg l, d + 1, fuel + 1, t, cs, x, h, hf => by
    simp only [fits] at hf
    split at hf <;> (try (cases hf; done)) <;> rename_i e1 e2 <;> (try (cases e2; done))
    · rename_i fs _
      injection e2 with e2; subst e2
      simp only [Bool.and_eq_true, decide_eq_true_eq] at hf
      obtain ⟨hf, hs⟩ := hf
      simp only [DataW.trod, e1] at h
      split at h <;> (try (cases h; done))
      rename_i hlen
      simp only [Option.map_eq_some_iff] at h
      obtain ⟨xs, hx, _⟩ := h
      have := decAll l d fuel fs.toList 0 cs xs hx hf (by rw [hlen, hs]; omega)
      simpa only [Has, List.drop_zero] using this
    · rename_i n e _
      injection e2 with e2; subst e2
      simp only [Bool.and_eq_true, decide_eq_true_eq] at hf
      obtain ⟨⟨hn, hf⟩, hs⟩ := hf
      simp only [DataW.trod, e1] at h
      split at h <;> (try (cases h; done))
      rename_i hlen
      simp only [Option.map_eq_some_iff] at h
      obtain ⟨xs, hx, _⟩ := h
      have := decArr l d fuel e (P.cellsOf e) 0 cs (fun i hi => by
        have hi' : i < n := by omega
        have := mapM_some_get hx i i (by simp [hi'])
        obtain ⟨y, hy⟩ : ∃ y, xs[i]? = some y := by
          have hl := mapM_some_length hx
          simp at hl
          exact ⟨xs[i]'(by omega), by rw [List.getElem?_eq_getElem (by omega)]⟩
        rw [hy] at this
        exact ⟨y, by simpa using this⟩) hf (by rw [hlen, hs]; omega)
      simpa only [Has, Nat.zero_mul, List.drop_zero] using this
theorem decAll : ∀ (l : List Ty) (d fuel : Nat) (fs : List Field) (o : Nat) (cs : List Value) (xs : List (DataW H × List MemPlace)),
    (fs.mapM fun f => DataW.trod enc P w base spare held fuel f.type ((cs.drop f.offset).take (P.cellsOf f.type))) = some xs → fitsAll (fits P d) P.cellsOf o fs l = true → cs.length = o + Ty.sizes l → ∃ c, HasAll l c ∧ Stand w ρ c (cs.drop o)
  | [], d, fuel, fs, o, cs, xs, h, hf, hl => by
    refine ⟨[], by simp only [HasAll], ?_, rfl⟩
    rw [List.drop_of_length_le (by simp only [Ty.sizes] at hl; omega)]
    simp only [VRs]
  | ty :: l, d, fuel, [], o, cs, xs, h, hf, hl => by simp [fitsAll] at hf
  | ty :: l, d, fuel, f :: fs, o, cs, xs, h, hf, hl => by
    simp only [fitsAll, Bool.and_eq_true, decide_eq_true_eq] at hf
    obtain ⟨⟨⟨h1, h2⟩, h3⟩, h4⟩ := hf
    simp only [List.mapM_cons, Option.bind_eq_bind, Option.bind_eq_some_iff] at h
    obtain ⟨y, hy, ys, hys, _⟩ := h
    obtain ⟨c, hc, hs⟩ := dec ty d fuel f.type _ y hy h1
    simp only [Ty.sizes] at hl
    obtain ⟨c', hc', hs'⟩ := decAll l d fuel fs (o + ty.size) cs ys hys h4 (by omega)
    refine ⟨c ++ c', by simp only [HasAll]; exact ⟨c, c', rfl, hc, hc'⟩, ?_⟩
    have := hs.append hs'
    rw [h2, h3, ← List.drop_drop, List.take_append_drop] at this
    exact this
theorem decArr : ∀ (l : List Ty) (d fuel : Nat) (e : TypeId) (sz o : Nat) (cs : List Value),
    (∀ i, i < l.length → ∃ y, DataW.trod enc P w base spare held fuel e ((cs.drop ((o + i) * sz)).take sz) = some y) → (l.all (fun ty => fits P d e ty && decide (sz = ty.size))) = true → cs.length = o * sz + Ty.sizes l → ∃ c, HasAll l c ∧ Stand w ρ c (cs.drop (o * sz))
  | [], d, fuel, e, sz, o, cs, h, hf, hl => by
    refine ⟨[], by simp only [HasAll], ?_, rfl⟩
    rw [List.drop_of_length_le (by simp only [Ty.sizes] at hl; omega)]
    simp only [VRs]
  | ty :: l, d, fuel, e, sz, o, cs, h, hf, hl => by
    simp only [List.all_cons, Bool.and_eq_true, decide_eq_true_eq] at hf
    obtain ⟨⟨h1, h2⟩, h4⟩ := hf
    obtain ⟨y, hy⟩ := h 0 (by simp)
    rw [Nat.add_zero] at hy
    obtain ⟨c, hc, hs⟩ := dec ty d fuel e _ y hy h1
    simp only [Ty.sizes] at hl
    obtain ⟨c', hc', hs'⟩ := decArr l d fuel e sz (o + 1) cs (fun i hi => by
      have := h (i + 1) (by simpa using hi)
      rwa [show o + (i + 1) = o + 1 + i by omega] at this) h4 (by rw [Nat.succ_mul]; omega)
    refine ⟨c ++ c', by simp only [HasAll]; exact ⟨c, c', rfl, hc, hc'⟩, ?_⟩
    have := hs.append hs'
    rw [Nat.succ_mul, ← List.drop_drop, List.take_append_drop] at this
    exact this
end
end
end Go.Den
