/- The machine: texts 32 to 40. -/
import Derived.Test.YtdlolhkeckjipaaDoorDen31
import Derived.Deep.Slices
import Derived.Carry
import Derived.WalkKit
import Derived.ProofKit
import Derived.OpenShut
import Derived.ChangeOld
import Derived.SizedLaws
import Derived.Handed
import Derived.LaidLaws
import Derived.Lib.LaidTab
/- What comes in: an argument of a type, told as the machine's value. -/
set_option linter.unusedVariables false
set_option linter.unusedSimpArgs false
namespace Go.Den
/-- Types of arguments. -/
inductive Ty where
  | int (k : IntKind)
  | bool
  | str
  | slice (e : Ty)
  | agg (l : List Ty)
mutual
def Ty.size : Ty → Nat
  | .agg l => Ty.sizes l
  | _ => 1
def Ty.sizes : List Ty → Nat
  | [] => 0
  | t :: l => t.size + Ty.sizes l
end
mutual
/-- Cells of such a type. -/
def Has : Ty → List AV → Prop
  | .int k, c => ∃ n, c = [.int k n] ∧ (Lit.int k n).wf = true
  | .bool, c => ∃ b, c = [.bool b]
  | .str, c => ∃ s : ByteArray, c = [.str s] ∧ s.size ≤ maxLen
  | .slice e, c => c = [.nils] ∨ ∃ ls : List (List AV), c = [.vs ls.flatten ls.length] ∧ ls.length ≤ maxLen ∧ ∀ x ∈ ls, Has e x
  | .agg l, c => HasAll l c
def HasAll : List Ty → List AV → Prop
  | [], c => c = []
  | t :: l, c => ∃ a b, c = a ++ b ∧ Has t a ∧ HasAll l b
end
mutual
theorem Has.size : ∀ {t : Ty} {c : List AV}, Has t c → c.length = t.size
  | .int k, c, h => by obtain ⟨n, rfl, _⟩ := (show ∃ n, c = [.int k n] ∧ _ by simpa only [Has] using h); rfl
  | .bool, c, h => by obtain ⟨n, rfl⟩ := (show ∃ n, c = [.bool n] by simpa only [Has] using h); rfl
  | .str, c, h => by simp only [Has] at h; obtain ⟨n, rfl, _⟩ := h; rfl
  | .slice e, c, h => by simp only [Has] at h; rcases h with rfl | ⟨ls, rfl, _⟩ <;> rfl
  | .agg l, c, h => by simp only [Has] at h; simp only [Ty.size]; exact HasAll.size h
theorem HasAll.size : ∀ {l : List Ty} {c : List AV}, HasAll l c → c.length = Ty.sizes l
  | [], c, h => by simp only [HasAll] at h; subst h; rfl
  | t :: l, c, h => by
    simp only [HasAll] at h
    obtain ⟨a, b, rfl, h1, h2⟩ := h
    simp only [Ty.sizes, List.length_append, Has.size h1, HasAll.size h2]
end
/-- The program's type is such a one. -/
def fitsAll (fit : TypeId → Ty → Bool) (sz : TypeId → Nat) : Nat → List Field → List Ty → Bool
  | _, [], [] => true
  | o, f :: fs, t :: l => fit f.type t && decide (f.offset = o) && decide (sz f.type = t.size) && fitsAll fit sz (o + t.size) fs l
  | _, _, _ => false
def fits (P : Program) : Nat → TypeId → Ty → Bool
  | 0, _, _ => false
  | d + 1, t, ty =>
    match P.underlying t, ty with
    | some (.int k), .int k' => decide (k = k')
    | some .bool, .bool => true
    | some .string, .str => true
    | some (.slice e), .slice e' => fits P d e e' && decide (P.cellsOf e = e'.size)
    | some (.struct fs), .agg l => fitsAll (fits P d) P.cellsOf 0 fs.toList l && decide (P.cellsOf t = Ty.sizes l)
    | some (.array n e), .agg l => decide (l.length = n) && l.all (fun ty => fits P d e ty && decide (P.cellsOf e = ty.size)) && decide (P.cellsOf t = Ty.sizes l)
    | _, _ => false
/-- Cells that stand for these values. -/
def Stand (W : World) (ρ : Plan) (c : List AV) (vs : List Value) : Prop := VRs W ρ 0 c vs ∧ c.all AV.one = true
section
variable {H : Type} {enc : TypeId × Value → H} {P : Program} {w : World} {base : Nat} {spare : Nat → Bool} {held : Bool} {ρ : Plan}
theorem vrs_app {n : Nat} : ∀ {a b : List AV} {x y : List Value}, VRs w ρ n a x → VRs w ρ n b y → VRs w ρ n (a ++ b) (x ++ y)
  | [], b, x, y, h1, h2 => by simp only [VRs] at h1; subst h1; simpa using h2
  | v :: a, b, x, y, h1, h2 => by
    simp only [VRs] at h1
    obtain ⟨u, r, rfl, h3, h4⟩ := h1
    simp only [List.cons_append, VRs]
    exact ⟨u, r ++ y, rfl, h3, vrs_app h4 h2⟩
theorem Stand.append {a b : List AV} {x y : List Value} (h1 : Stand w ρ a x) (h2 : Stand w ρ b y) : Stand w ρ (a ++ b) (x ++ y) :=
  ⟨vrs_app h1.1 h2.1, by simp only [List.all_append, h1.2, h2.2, Bool.and_self]⟩
/-- A row's cells, from the values that lie there. -/
theorem CR_of {a : Addr} : ∀ {c : List AV} {vs : List Value} {i : Nat}, Stand w ρ c vs → (∀ j, j < vs.length → w.cell? (a.add (i + j)) = vs[j]?) → CR w ρ 0 a i c
  | [], vs, i, h, hc => by simp only [CR]
  | v :: c, vs, i, h, hc => by
    obtain ⟨h1, h2⟩ := h
    simp only [VRs] at h1
    obtain ⟨u, r, rfl, h3, h4⟩ := h1
    simp only [List.all_cons, Bool.and_eq_true] at h2
    simp only [CR]
    refine ⟨⟨u, by simpa using hc 0 (by simp), h3, h2.1⟩, CR_of ⟨h4, h2.2⟩ fun j hj => ?_⟩
    have := hc (j + 1) (by simpa using hj)
    rw [show i + 1 + j = i + (j + 1) by omega]
    simpa using this
theorem CR_append {a : Addr} : ∀ {c d : List AV} {i : Nat}, CR w ρ 0 a i c → CR w ρ 0 a (i + c.length) d → CR w ρ 0 a i (c ++ d)
  | [], d, i, h1, h2 => by simpa using h2
  | v :: c, d, i, h1, h2 => by
    simp only [CR] at h1
    simp only [List.cons_append, CR]
    exact ⟨h1.1, CR_append h1.2 (by rw [show i + 1 + c.length = i + (c.length + 1) by omega]; simpa using h2)⟩
theorem CR_at {a : Addr} : ∀ {c : List AV} {i : Nat}, CR w ρ 0 (a.add i) 0 c → CR w ρ 0 a i c := by
  intro c
  have gen : ∀ (c : List AV) (i j : Nat), CR w ρ 0 (a.add i) j c → CR w ρ 0 a (i + j) c := by
    intro c
    induction c with
    | nil => intro i j h; simp only [CR]
    | cons v c ih =>
      intro i j h
      simp only [CR, Deep.add_add] at h ⊢
      exact ⟨h.1, ih i (j + 1) h.2⟩
  intro i h
  simpa using gen c i 0 h
theorem rows_of {a : Addr} {sz : Nat} {p : List AV → Prop} : ∀ {n : Nat}, (∀ i, i < n → ∃ c : List AV, p c ∧ c.length = sz ∧ CR w ρ 0 (a.add (i * sz)) 0 c) → ∃ ls : List (List AV), ls.length = n ∧ (∀ x ∈ ls, p x ∧ x.length = sz) ∧ CR w ρ 0 a 0 ls.flatten
  | 0, _ => ⟨[], rfl, by simp, by simp [CR]⟩
  | n + 1, h => by
    obtain ⟨ls, h1, h2, h3⟩ := rows_of (n := n) fun i hi => h i (by omega)
    obtain ⟨c, h4, h5, h6⟩ := h n (by omega)
    refine ⟨ls ++ [c], by simp [h1], ?_, ?_⟩
    · intro x hx
      rcases List.mem_append.1 hx with hx | hx
      · exact h2 x hx
      · simp at hx; subst hx; exact ⟨h4, h5⟩
    · rw [List.flatten_append]
      refine CR_append h3 ?_
      have e : ls.flatten.length = n * sz := by
        have := flat_len (g := _root_.id) (l := ls) (sz := sz) fun x hx => (h2 x hx).2
        rw [List.flatMap_id] at this
        rw [this, h1]
      rw [e, Nat.zero_add]
      simpa using CR_at h6

theorem stand_int {k : IntKind} {n : Int} : Stand w ρ [.int k n] [.int k n] := ⟨by simp [VRs, VR], rfl⟩
theorem stand_bool {b : Bool} : Stand w ρ [.bool b] [.bool b] := ⟨by simp [VRs, VR], rfl⟩
theorem stand_str {b : ByteArray} : Stand w ρ [.str b] [.string b] := ⟨by simp [VRs, VR], rfl⟩
mutual
/-- What a reading of the arguments meets is such a value. -/
theorem dec : ∀ (ty : Ty) (d fuel : Nat) (t : TypeId) (cs : List Value) (x : DataW H × List MemPlace), DataW.trod enc P w base spare held fuel t cs = some x → fits P d t ty = true → ∃ c, Has ty c ∧ Stand w ρ c cs
  | ty, 0, fuel, t, cs, x, h, hf => by simp [fits] at hf
  | ty, d + 1, 0, t, cs, x, h, hf => by simp [DataW.trod] at h
  | .int k, d + 1, fuel + 1, t, cs, x, h, hf => by
    simp only [fits] at hf
    split at hf <;> (try (cases hf; done)) <;> rename_i e1 e2 <;> (try (cases e2; done))
    injection e2 with e2; subst e2
    simp only [decide_eq_true_eq] at hf
    subst hf
    simp only [DataW.trod, e1] at h
    split at h <;> (try (cases h; done)) <;> rename_i e3 <;> (try (cases e3; done))
    injection e3 with e3; injection e3 with e3; subst e3
    split at h <;> (try (cases h; done))
    rename_i e4
    obtain ⟨rfl, hw⟩ := e4
    refine ⟨_, ?_, stand_int⟩
    simp only [Has]; exact ⟨_, rfl, hw⟩
  | .bool, d + 1, fuel + 1, t, cs, x, h, hf => by
    simp only [fits] at hf
    split at hf <;> (try (cases hf; done)) <;> rename_i e1 e2 <;> (try (cases e2; done))
    simp only [DataW.trod, e1] at h
    split at h <;> (try (cases h; done)) <;> rename_i e3 <;> (try (cases e3; done))
    refine ⟨_, ?_, stand_bool⟩
    simp only [Has]; exact ⟨_, rfl⟩
  | .str, d + 1, fuel + 1, t, cs, x, h, hf => by
    simp only [fits] at hf
    split at hf <;> (try (cases hf; done)) <;> rename_i e1 e2 <;> (try (cases e2; done))
    simp only [DataW.trod, e1] at h
    split at h <;> (try (cases h; done)) <;> rename_i e3 <;> (try (cases e3; done))
    split at h <;> (try (cases h; done))
    rename_i e4
    refine ⟨_, ?_, stand_str⟩
    simp only [Has]; exact ⟨_, rfl, e4⟩
  | .slice e', d + 1, fuel + 1, t, cs, x, h, hf => by
    simp only [fits] at hf
    split at hf <;> (try (cases hf; done)) <;> rename_i e1 e2 <;> (try (cases e2; done))
    rename_i e _
    injection e2 with e2; subst e2
    simp only [Bool.and_eq_true, decide_eq_true_eq] at hf
    obtain ⟨hf, hs⟩ := hf
    rcases Deep.open_slice e1 h with ⟨rfl, _⟩ | ⟨a, len, cap, m, n, D, Pl, rfl, hb, hl, hm, hmm, rfl, hx⟩
    · refine ⟨[.nils], ?_, ⟨by simp [VRs, VR], rfl⟩⟩
      simp only [Has]; exact .inl trivial
    · have hle : len ≤ m := by rw [hmm]; split <;> omega
      obtain ⟨ls, h1, h2, h3⟩ := rows_of (w := w) (ρ := ρ) (a := a) (sz := e'.size) (p := Has e') (n := len) fun i hi => by
        obtain ⟨cs', h4, h5⟩ := hx i (by omega)
        obtain ⟨c, h6, h7⟩ := dec e' d _ e cs' _ h5 hf
        obtain ⟨_, h8, h9⟩ := World.cells?_some h4
        refine ⟨c, h6, h6.size, ?_⟩
        rw [← hs]
        exact CR_of h7 fun j hj => by rw [Nat.zero_add]; exact h9 j (by omega)
      refine ⟨[.vs ls.flatten ls.length], ?_, ⟨?_, rfl⟩⟩
      · simp only [Has]
        exact .inr ⟨ls, rfl, by omega, fun x hx => (h2 x hx).1⟩
      · simp only [VRs, VR]
        exact ⟨_, _, rfl, ⟨a, cap, by rw [h1], by omega, h3⟩, rfl⟩
  | .agg l, d + 1, fuel + 1, t, cs, x, h, hf => by
    simp only [fits] at hf
    split at hf <;> (try (cases hf; done)) <;> rename_i e1 e2 <;> (try (cases e2; done))
    · rename_i fs _
      injection e2 with e2; subst e2
      simp only [Bool.and_eq_true, decide_eq_true_eq] at hf
      obtain ⟨hf, hs⟩ := hf
      simp only [DataW.trod, e1] at h
      split at h <;> (try (cases h; done))
      rename_i hlen
      simp only [Option.map_eq_some_iff] at h
      obtain ⟨xs, hx, _⟩ := h
      have := decAll l d fuel fs.toList 0 cs xs hx hf (by rw [hlen, hs]; omega)
      simpa only [Has, List.drop_zero] using this
    · rename_i n e _
      injection e2 with e2; subst e2
      simp only [Bool.and_eq_true, decide_eq_true_eq] at hf
      obtain ⟨⟨hn, hf⟩, hs⟩ := hf
      simp only [DataW.trod, e1] at h
      split at h <;> (try (cases h; done))
      rename_i hlen
      simp only [Option.map_eq_some_iff] at h
      obtain ⟨xs, hx, _⟩ := h
      have := decArr l d fuel e (P.cellsOf e) 0 cs (fun i hi => by
        have hi' : i < n := by omega
        have := mapM_some_get hx i i (by simp [hi'])
        obtain ⟨y, hy⟩ : ∃ y, xs[i]? = some y := by
          have hl := mapM_some_length hx
          simp at hl
          exact ⟨xs[i]'(by omega), by rw [List.getElem?_eq_getElem (by omega)]⟩
        rw [hy] at this
        exact ⟨y, by simpa using this⟩) hf (by rw [hlen, hs]; omega)
      simpa only [Has, Nat.zero_mul, List.drop_zero] using this
theorem decAll : ∀ (l : List Ty) (d fuel : Nat) (fs : List Field) (o : Nat) (cs : List Value) (xs : List (DataW H × List MemPlace)),
    (fs.mapM fun f => DataW.trod enc P w base spare held fuel f.type ((cs.drop f.offset).take (P.cellsOf f.type))) = some xs → fitsAll (fits P d) P.cellsOf o fs l = true → cs.length = o + Ty.sizes l → ∃ c, HasAll l c ∧ Stand w ρ c (cs.drop o)
  | [], d, fuel, fs, o, cs, xs, h, hf, hl => by
    refine ⟨[], by simp only [HasAll], ?_, rfl⟩
    rw [List.drop_of_length_le (by simp only [Ty.sizes] at hl; omega)]
    simp only [VRs]
  | ty :: l, d, fuel, [], o, cs, xs, h, hf, hl => by simp [fitsAll] at hf
  | ty :: l, d, fuel, f :: fs, o, cs, xs, h, hf, hl => by
    simp only [fitsAll, Bool.and_eq_true, decide_eq_true_eq] at hf
    obtain ⟨⟨⟨h1, h2⟩, h3⟩, h4⟩ := hf
    simp only [List.mapM_cons, Option.bind_eq_bind, Option.bind_eq_some_iff] at h
    obtain ⟨y, hy, ys, hys, _⟩ := h
    obtain ⟨c, hc, hs⟩ := dec ty d fuel f.type _ y hy h1
    simp only [Ty.sizes] at hl
    obtain ⟨c', hc', hs'⟩ := decAll l d fuel fs (o + ty.size) cs ys hys h4 (by omega)
    refine ⟨c ++ c', by simp only [HasAll]; exact ⟨c, c', rfl, hc, hc'⟩, ?_⟩
    have := hs.append hs'
    rw [h2, h3, ← List.drop_drop, List.take_append_drop] at this
    exact this
theorem decArr : ∀ (l : List Ty) (d fuel : Nat) (e : TypeId) (sz o : Nat) (cs : List Value),
    (∀ i, i < l.length → ∃ y, DataW.trod enc P w base spare held fuel e ((cs.drop ((o + i) * sz)).take sz) = some y) → (l.all (fun ty => fits P d e ty && decide (sz = ty.size))) = true → cs.length = o * sz + Ty.sizes l → ∃ c, HasAll l c ∧ Stand w ρ c (cs.drop (o * sz))
  | [], d, fuel, e, sz, o, cs, h, hf, hl => by
    refine ⟨[], by simp only [HasAll], ?_, rfl⟩
    rw [List.drop_of_length_le (by simp only [Ty.sizes] at hl; omega)]
    simp only [VRs]
  | ty :: l, d, fuel, e, sz, o, cs, h, hf, hl => by
    simp only [List.all_cons, Bool.and_eq_true, decide_eq_true_eq] at hf
    obtain ⟨⟨h1, h2⟩, h4⟩ := hf
    obtain ⟨y, hy⟩ := h 0 (by simp)
    rw [Nat.add_zero] at hy
    obtain ⟨c, hc, hs⟩ := dec ty d fuel e _ y hy h1
    simp only [Ty.sizes] at hl
    obtain ⟨c', hc', hs'⟩ := decArr l d fuel e sz (o + 1) cs (fun i hi => by
      have := h (i + 1) (by simpa using hi)
      rwa [show o + (i + 1) = o + 1 + i by omega] at this) h4 (by rw [Nat.succ_mul]; omega)
    refine ⟨c ++ c', by simp only [HasAll]; exact ⟨c, c', rfl, hc, hc'⟩, ?_⟩
    have := hs.append hs'
    rw [Nat.succ_mul, ← List.drop_drop, List.take_append_drop] at this
    exact this
end
end
end Go.Den

/- A law's row, from what the machine says of the law's function. -/
set_option linter.unusedVariables false
set_option linter.unusedSimpArgs false
namespace Go.Den
open Go.ChangeShapes Go.WideShapes Go.ChangeAt Go.RowKit
/-- An argument of such a type. -/
def ArgIs : Ty → AV → Prop
  | .agg l, a => ∃ c, a = .agg c ∧ HasAll l c
  | ty, a => Has ty [a]
def ArgsAre : List Ty → List AV → Prop
  | [], as => as = []
  | t :: l, as => ∃ a r, as = a :: r ∧ ArgIs t a ∧ ArgsAre l r
section
variable {H : Type} {enc : TypeId × Value → H} {P : Program} {w : World} {base : Nat} {spare : Nat → Bool} {held : Bool} {ρ : Plan}
theorem stand1 {a : AV} {v : Value} (h : Stand w ρ [a] [v]) : VR w ρ 0 a v := by
  obtain ⟨h, _⟩ := h
  simp only [VRs] at h
  obtain ⟨x, r, e, h1, rfl⟩ := h
  injection e with e1 e2
  subst e1
  exact h1
theorem dec_arg {r : Reach} {ty : Ty} {n : Nat} {t : TypeId} {v : Value} {d : DataW H} {ps : List MemPlace} (hval : Value.okWide P w r base t v) (h : DataW.Trod enc P w 0 spare held t v d ps) (hf : fits P n t ty = true) :
    ∃ a, ArgIs ty a ∧ VR w ρ 0 a v := by
  obtain ⟨fuel, h⟩ := h
  obtain ⟨c, hc, hs⟩ := dec (ρ := ρ) ty n fuel t _ _ h hf
  cases n with
  | zero => simp [fits] at hf
  | succ n =>
    simp only [fits] at hf
    split at hf <;> (try (cases hf; done)) <;> rename_i e1
    case h_5 fs l =>
      simp only [Value.okWide, e1] at hval
      obtain ⟨cs, rfl, _, _⟩ := hval
      refine ⟨.agg c, ⟨c, rfl, by simpa only [Has] using hc⟩, ?_⟩
      simp only [VR]
      exact ⟨cs.toList, rfl, hs.1⟩
    case h_6 m e l =>
      simp only [Value.okWide, e1] at hval
      obtain ⟨cs, rfl, _, _⟩ := hval
      refine ⟨.agg c, ⟨c, rfl, by simpa only [Has] using hc⟩, ?_⟩
      simp only [VR]
      exact ⟨cs.toList, rfl, hs.1⟩
    all_goals
      simp only [Value.okWide, e1, Cell.okWide] at hval
      have hv : v.cells.toList = [v] := by cases v <;> first | rfl | (simp [Cell.ok, e1] at hval)
      rw [hv] at hs
      have hl := hc.size
      simp only [Ty.size] at hl
      obtain ⟨a, rfl⟩ : ∃ a, c = [a] := by
        cases c with
        | nil => simp at hl
        | cons a c => cases c with
          | nil => exact ⟨a, rfl⟩
          | cons b c => simp at hl
      exact ⟨a, hc, stand1 hs⟩
theorem dec_args {r : Reach} {n : Nat} : ∀ {tys : List Ty} {ts : List TypeId} {vs : List Value} {ds : List (DataW H)} {ps : List MemPlace},
    (∀ (j : Nat) t v, ts[j]? = some t → vs[j]? = some v → Value.okWide P w r base t v) → DataW.TrodAll enc P w 0 spare held ts vs ds ps → (ts.length = tys.length) → (∀ (j : Nat) t ty, ts[j]? = some t → tys[j]? = some ty → fits P n t ty = true) → ∃ as, ArgsAre tys as ∧ VRs w ρ 0 as vs
  | [], ts, vs, ds, ps, hval, h, hl, hf => by
    have : ts = [] := List.length_eq_zero_iff.1 hl
    subst this
    obtain ⟨rfl, rfl, rfl⟩ := trodAll_nil h
    exact ⟨[], rfl, by simp only [VRs]⟩
  | ty :: tys, [], vs, ds, ps, hval, h, hl, hf => by simp at hl
  | ty :: tys, t :: ts, vs, ds, ps, hval, h, hl, hf => by
    obtain ⟨v, vs', d, ds', p, q, rfl, rfl, rfl, h1, h2⟩ := trodAll_cons h
    obtain ⟨a, ha, hr⟩ := dec_arg (ρ := ρ) (hval 0 t v rfl rfl) h1 (hf 0 t ty rfl rfl)
    obtain ⟨as, has, hrs⟩ := dec_args (tys := tys) (fun j t v h1 h2 => hval (j + 1) t v (by simpa using h1) (by simpa using h2)) h2 (by simpa using hl) (fun j t ty h1 h2 => hf (j + 1) t ty (by simpa using h1) (by simpa using h2))
    exact ⟨a :: as, ⟨a, as, rfl, ha, has⟩, by simp only [VRs]; exact ⟨v, vs', rfl, hr, hrs⟩⟩
theorem trodAll_below (hl : laidOutB P = true) {W W' : World} (hb : Below W.heap.size W W') : ∀ {ts : List TypeId} {vs : List Value} {ds : List (DataW H)} {ps : List MemPlace},
    ts.all (fun t => P.readableRec t && decide (t < P.types.size)) = true → DataW.TrodAll enc P W 0 (fun _ => true) true ts vs ds ps → (∀ x ∈ ps, x.block < W.heap.size) → DataW.TrodAll enc P W' 0 (fun b => decide (b < W.heap.size)) true ts vs ds ps
  | [], vs, ds, ps, hr, h, hlt => by
    obtain ⟨rfl, rfl, rfl⟩ := trodAll_nil h
    exact trodAll_mk0
  | t :: ts, vs, ds, ps, hr, h, hlt => by
    simp only [List.all_cons, Bool.and_eq_true, decide_eq_true_eq] at hr
    obtain ⟨v, vs', d, ds', p, q, rfl, rfl, rfl, h1, h2⟩ := trodAll_cons h
    exact trodAll_cons_mk (Below.trod hl hr.1.1 hr.1.2 h1 hb fun x hx => hlt x (List.mem_append_left _ hx)) (trodAll_below hl hb hr.2 h2 fun x hx => hlt x (List.mem_append_right _ hx))
end
theorem rel_start (W : World) (ρ : Plan) : Rel W ρ [] W := ⟨Below.refl _ _, fun i h => by obtain ⟨o, h, _⟩ := h; simp at h, fun i o h => by simp at h, fun i j h => by obtain ⟨o, h, _⟩ := h; simp at h⟩
/-- What the call does, whatever is asked of its world. -/
theorem law_core {C : Checked} {e : Env} {f : FuncId} {fn : Func} {sf : SFn} {s : ChangeSpec} {tb : TypeId} {H : Type} {enc : TypeId × Value → H} (tys : List Ty)
    (hfn : C.prog.funcs[f]? = some fn) (hvars : s.vars = []) (hspec : ∀ ds : List (DataW H), ds.length = tys.length → s.fn H ds = { results := [.lit (.bool true)], args := ds })
    (hfits : fn.params.toList.length = tys.length ∧ ∀ (j : Nat) t ty, fn.params.toList[j]? = some t → tys[j]? = some ty → fits C.prog 20 t ty = true)
    (hread : fn.params.toList.all (fun t => C.prog.readableRec t && decide (t < C.prog.types.size)) = true) (hlaid : laidOutB C.prog = true)
    (hres : fn.resultTypes = #[tb]) (hbool : C.prog.underlying tb = some .bool)
    (he : EnvOk C.prog e) (hI : e.isI f = false) (hE : e.E f = some sf) (hcl : ClOk C.prog (call e))
    (hm : ∀ as, ArgsAre tys as → ∃ H', call e f as [] = some (.bool true, H')) (W : World) (base : Nat) (args : Array Value) (ds gs : List (DataW H)) (before : List MemPlace)
    (hval : ∀ (j : Nat) t v, fn.params[j]? = some t → args[j]? = some v → Value.okWide C.prog W .any base t v) (hW : DataW.Whole enc C.prog fn.params.toList s.vars false W args.toList ds gs before) (hgl : GlobOk W) :
    Calls C.prog f args W fun e W' => ∃ v, e = .returned v ∧ s.post enc C.prog fn false true false false W args v W' := by
  have hW' := hW
  obtain ⟨p, q, hA, hV, rfl, hfz, hnd⟩ := hW
  rw [hvars] at hV
  obtain ⟨rfl, rfl⟩ := trodVars_none hV
  obtain ⟨as, has, hvs⟩ := dec_args (ρ := fun _ => ⟨0, 0, 0⟩) (n := 20) (fun j t v h1 h2 => hval j t v (by simpa using h1) (by simpa using h2)) hA hfits.1 hfits.2
  obtain ⟨H', hc⟩ := hm as has
  have hds : ds.length = tys.length := by
    rw [← hfits.1]
    have gen : ∀ {ts : List TypeId} {vs : List Value} {ds : List (DataW H)} {ps : List MemPlace}, DataW.TrodAll enc C.prog W 0 (fun _ => true) true ts vs ds ps → ds.length = ts.length := by
      intro ts
      induction ts with
      | nil => intro vs ds ps h; obtain ⟨rfl, rfl, rfl⟩ := trodAll_nil h; rfl
      | cons t ts ih => intro vs ds ps h; obtain ⟨v, vs', d, ds', p, q, rfl, rfl, rfl, h1, h2⟩ := trodAll_cons h; simp [ih h2]
    exact gen hA
  have hop := hcl f as [] (.bool true) H' hc W (fun _ => ⟨0, 0, 0⟩) W args.toList hgl (rel_start W _) hvs
  rw [Array.toArray_toList] at hop
  have hcalls : Calls C.prog f args W fun | .returned v, w' => (∃ ρ', Stp W (fun _ => ⟨0, 0, 0⟩) [] W ρ' H' w' ∧ VR W ρ' H'.length (.bool true) v) | _, _ => False := by
    obtain ⟨fn', hf', hfs⟩ := he.fns f sf hI hE
    simp only [slimF, Option.bind_eq_some_iff] at hfs
    obtain ⟨c, hcb, b, hb, rs, hrs, hfs⟩ := hfs
    split at hfs <;> simp only [Option.some.injEq, reduceCtorEq] at hfs
    rename_i hname
    have hcf : (callFunc f args).run C.prog W = .ok (.enter f args) W := by
      simp only [callFunc, Sem.run_bind, run_program, Result.andThen_ok, hf', hname, hcb]
      simp
    rcases hop with ⟨x, w', h1, h2⟩ | ⟨h1, h2⟩
    · rw [hcf] at h1
      injection h1 with h1
      cases h1
    · exact h2
  refine hcalls.mono fun ex W' hx => ?_
  cases ex with
  | returned v =>
    obtain ⟨ρ', hstp, hv⟩ := hx
    simp only [VR] at hv
    subst hv
    have bel := hstp.rel.below
    have hlt := DataW.TrodAll.lt hA
    refine ⟨_, rfl, ds, [], _, [], p, [], hW', ?_, ?_, ?_, bel.frame _, fun h => by cases h⟩
    · rw [List.append_nil, hspec ds hds, hres]
      exact trodAll_mk1 (shut_bool hbool _)
    · rw [List.append_nil, hspec ds hds]
      exact trodAll_below hlaid bel hread hA hlt
    · rw [List.append_nil, hspec ds hds, hvars]
      exact rfl
  | _ => exact hx.elim
theorem law_of {C : Checked} {e : Env} {os : Os} {f : FuncId} {fn : Func} {sf : SFn} {s : ChangeSpec} {conds : List PathCond} {tb : TypeId} {H : Type} {enc : TypeId × Value → H} (tys : List Ty)
    (own : ownKnob C.prog.godebug = none) (started : os.Started) (noInit : C.prog.inits.idxOf? f = none) (hfn : C.prog.funcs[f]? = some fn)
    (witness : ∃ (w : World) (tape : Tape) (i : Input), w.os = os ∧ (w.forCall tape i).Shaped C.prog ∧ i.vars = [] ∧ Input.okWide C.prog (w.forCall tape i) .any w.heap.size f i ∧
      s.pre6 enc C.prog fn conds false (w.forCall tape i).memory i.args ∧ ({} : Assume).holds C.prog (lone (Frame.enter C.prog f i.args .normal) [] (w.forCall tape i)))
    (hvars : s.vars = []) (hspec : ∀ ds : List (DataW H), ds.length = tys.length → s.fn H ds = { results := [.lit (.bool true)], args := ds })
    (hfits : fn.params.toList.length = tys.length ∧ ∀ (j : Nat) t ty, fn.params.toList[j]? = some t → tys[j]? = some ty → fits C.prog 20 t ty = true)
    (hread : fn.params.toList.all (fun t => C.prog.readableRec t && decide (t < C.prog.types.size)) = true) (hlaid : laidOutB C.prog = true)
    (hres : fn.resultTypes = #[tb]) (hbool : C.prog.underlying tb = some .bool)
    (he : EnvOk C.prog e) (hI : e.isI f = false) (hE : e.E f = some sf) (hcl : ClOk C.prog (call e))
    (hm : ∀ as, ArgsAre tys as → ∃ H', call e f as [] = some (.bool true, H')) (hgl : ∀ W : World, GlobOk W := by intro W p hp; exact absurd hp (by decide)) :
    ReturnsInHanded {} C os f .any (s.pre6 enc C.prog fn conds false) (s.post enc C.prog fn false true false false) := by
  refine returnsInHanded_of_change_sized own started noInit hfn witness ?_
  intro W base args ds gs before hval hW hcnd hsz _
  exact law_core tys hfn hvars hspec hfits hread hlaid hres hbool he hI hE hcl hm W base args ds gs before hval hW (hgl W)
/-- Where package-level variables are known to hold something. -/
theorem law_ofL {C : Checked} {e : Env} {os : Os} {f : FuncId} {fn : Func} {sf : SFn} {s : ChangeSpec} {conds : List PathCond} {tb : TypeId} {H : Type} {enc : TypeId × Value → H} (tys : List Ty) (laid : List (String × DataW Unit))
    (own : ownKnob C.prog.godebug = none) (started : os.Started) (noInit : C.prog.inits.idxOf? f = none) (hfn : C.prog.funcs[f]? = some fn)
    (witness : ∃ (w : World) (tape : Tape) (i : Input), w.os = os ∧ (w.forCall tape i).Shaped C.prog ∧ i.vars = [] ∧ Input.okWide C.prog (w.forCall tape i) .any w.heap.size f i ∧
      ((s.pre enc C.prog fn conds false (w.forCall tape i).memory i.args ∧ laidMet C.prog laid (w.forCall tape i).memory) ∧ sizedMet enc C.prog fn (OpenSpec.ofChange s) false (w.forCall tape i).memory i.args) ∧ ({} : Assume).holds C.prog (lone (Frame.enter C.prog f i.args .normal) [] (w.forCall tape i)))
    (hvars : s.vars = []) (hspec : ∀ ds : List (DataW H), ds.length = tys.length → s.fn H ds = { results := [.lit (.bool true)], args := ds })
    (hfits : fn.params.toList.length = tys.length ∧ ∀ (j : Nat) t ty, fn.params.toList[j]? = some t → tys[j]? = some ty → fits C.prog 20 t ty = true)
    (hread : fn.params.toList.all (fun t => C.prog.readableRec t && decide (t < C.prog.types.size)) = true) (hlaid : laidOutB C.prog = true)
    (hres : fn.resultTypes = #[tb]) (hbool : C.prog.underlying tb = some .bool)
    (he : EnvOk C.prog e) (hI : e.isI f = false) (hE : e.E f = some sf) (hcl : ClOk C.prog (call e))
    (hm : ∀ as, ArgsAre tys as → ∃ H', call e f as [] = some (.bool true, H')) (hgl : ∀ W : World, laidMet C.prog laid W → GlobOk W) :
    ReturnsInHanded {} C os f .any (fun w args => (s.pre enc C.prog fn conds false w args ∧ laidMet C.prog laid w) ∧ sizedMet enc C.prog fn (OpenSpec.ofChange s) false w args) (s.post enc C.prog fn false true false false) := by
  refine returnsInHanded_of_change_and (X := fun w _ => laidMet C.prog laid w) (fun _ _ _ hh h => h.of_heap hh) own started noInit hfn witness ?_
  intro W base args ds gs before hval hW hcnd hsz hL _
  exact law_core tys hfn hvars hspec hfits hread hlaid hres hbool he hI hE hcl hm W base args ds gs before hval hW (hgl W hL)
def fitsArgs (P : Program) : List TypeId → List Ty → Bool
  | [], [] => true
  | t :: ts, ty :: tys => fits P 20 t ty && fitsArgs P ts tys
  | _, _ => false
theorem fitsArgs_ok {P : Program} : ∀ {ts : List TypeId} {tys : List Ty}, fitsArgs P ts tys = true → ts.length = tys.length ∧ ∀ (j : Nat) t ty, ts[j]? = some t → tys[j]? = some ty → fits P 20 t ty = true
  | [], [], h => ⟨rfl, by simp⟩
  | [], ty :: tys, h => by simp [fitsArgs] at h
  | t :: ts, [], h => by simp [fitsArgs] at h
  | t :: ts, ty :: tys, h => by
    simp only [fitsArgs, Bool.and_eq_true] at h
    obtain ⟨h1, h2⟩ := fitsArgs_ok h.2
    refine ⟨by simp [h1], fun j t' ty' h3 h4 => ?_⟩
    cases j with
    | zero => simp at h3 h4; subst h3 h4; exact h.1
    | succ j => exact h2 j t' ty' (by simpa using h3) (by simpa using h4)
theorem list_of {α : Type} {p : List AV → Prop} {g : α → List AV} {ok : α → Prop} (hd : ∀ x, p x → ∃ a, x = g a ∧ ok a) : ∀ {ls : List (List AV)}, (∀ x ∈ ls, p x) → ∃ l : List α, ls = l.map g ∧ ∀ a ∈ l, ok a
  | [], _ => ⟨[], rfl, by simp⟩
  | x :: ls, h => by
    obtain ⟨a, rfl, ha⟩ := hd x (h x (List.mem_cons_self ..))
    obtain ⟨l, rfl, hl⟩ := list_of hd (ls := ls) fun y hy => h y (List.mem_cons_of_mem _ hy)
    exact ⟨a :: l, rfl, by intro b hb; rcases List.mem_cons.1 hb with rfl | hb; exact ha; exact hl b hb⟩
/-- A slice that comes in, by what its elements are. -/
theorem slice_in {α : Type} {e : Ty} {g : α → List AV} {ok : α → Prop} {v : AV} {H : Heap} (h : Has (.slice e) [v]) (hp : 0 < e.size) (hd : ∀ x, Has e x → ∃ a, x = g a ∧ ok a) (hs : ∀ a, (g a).length = e.size) :
    ∃ l : List α, SlOf H e.size g v l ∧ (∀ a ∈ l, ok a) ∧ l.length ≤ maxLen := by
  simp only [Has] at h
  rcases h with h | ⟨ls, h, hm, hx⟩
  · injection h with h; subst h
    exact ⟨[], SlOf.nils hp, by simp, by simp⟩
  · injection h with h; subst h
    obtain ⟨l, rfl, hl⟩ := list_of hd hx
    refine ⟨l, ⟨by simp [alen], fun a _ => hs a, hp, .inr (.inl ⟨l.length, by simp [List.flatMap_def]⟩)⟩, hl, by simpa using hm⟩
theorem has_int {k : IntKind} {c : List AV} (h : Has (.int k) c) : ∃ n, c = [.int k n] ∧ (Lit.int k n).wf = true := by simpa only [Has] using h
theorem has_bool {c : List AV} (h : Has .bool c) : ∃ n, c = [.bool n] := by simpa only [Has] using h
theorem has_str {c : List AV} (h : Has .str c) : ∃ s : ByteArray, c = [.str s] ∧ s.size ≤ maxLen := by simpa only [Has] using h
theorem has_nil {c : List AV} (h : HasAll [] c) : c = [] := by simpa only [HasAll] using h
theorem has_cons {t : Ty} {l : List Ty} {c : List AV} (h : HasAll (t :: l) c) : ∃ a b, c = a ++ b ∧ Has t a ∧ HasAll l b := by simpa only [HasAll] using h
theorem wf_u8 {n : Int} (h : (Lit.int .u8 n).wf = true) : 0 ≤ n ∧ n < 256 := by
  simp [Lit.wf, IntKind.min, IntKind.max, IntKind.signed, IntKind.bits] at h; omega
theorem wf_u16 {n : Int} (h : (Lit.int .u16 n).wf = true) : 0 ≤ n ∧ n < 65536 := by
  simp [Lit.wf, IntKind.min, IntKind.max, IntKind.signed, IntKind.bits] at h; omega
theorem wf_u32 {n : Int} (h : (Lit.int .u32 n).wf = true) : 0 ≤ n ∧ n < 4294967296 := by
  simp [Lit.wf, IntKind.min, IntKind.max, IntKind.signed, IntKind.bits] at h; omega
theorem wf_i16 {n : Int} (h : (Lit.int .i16 n).wf = true) : -32768 ≤ n ∧ n < 32768 := by
  simp [Lit.wf, IntKind.min, IntKind.max, IntKind.signed, IntKind.bits] at h; omega
theorem wf_i64 {n : Int} (h : (Lit.int .i64 n).wf = true) : -9223372036854775808 ≤ n ∧ n < 9223372036854775808 := by
  simp [Lit.wf, IntKind.min, IntKind.max, IntKind.signed, IntKind.bits] at h; omega
end Go.Den

/- Words as BitVec (printed by gen34.py). -/
set_option linter.unusedVariables false
set_option linter.unusedSimpArgs false
namespace Go.Den
theorem signed_i64 : IntKind.signed .i64 = true := _root_.id rfl
theorem signed_u8 : IntKind.signed .u8 = false := _root_.id rfl
theorem max_u8 : IntKind.max .u8 = 255 := by decide
theorem wrap_u8_mod (x : Int) : IntKind.u8.wrap x = x % 256 := by
  have e : (2 ^ IntKind.u8.bits : Int) = 256 := by decide
  unfold IntKind.wrap
  simp only [e, show IntKind.u8.signed = false from rfl]
  simp
section
variable (a b : BitVec 8)
theorem wrap8_nat : IntKind.u8.wrap (a.toNat : Int) = (a.toNat : Int) := by
  have := a.isLt
  rw [wrap_u8_mod]; omega
theorem ofInt8 : BitVec.ofInt 8 (a.toNat : Int) = a := by
  rw [BitVec.ofInt_natCast, BitVec.ofNat_toNat, BitVec.setWidth_eq]
theorem xor8 : abits .xor .u8 (a.toNat : Int) (b.toNat : Int) = ((a ^^^ b).toNat : Int) := by
  show IntKind.u8.wrap ((BitVec.ofInt 8 (a.toNat : Int) ^^^ BitVec.ofInt 8 (b.toNat : Int)).toNat : Int) = _
  rw [ofInt8, ofInt8, wrap8_nat]
theorem and8 : abits .and .u8 (a.toNat : Int) (b.toNat : Int) = ((a &&& b).toNat : Int) := by
  show IntKind.u8.wrap ((BitVec.ofInt 8 (a.toNat : Int) &&& BitVec.ofInt 8 (b.toNat : Int)).toNat : Int) = _
  rw [ofInt8, ofInt8, wrap8_nat]
theorem or8 : abits .or .u8 (a.toNat : Int) (b.toNat : Int) = ((a ||| b).toNat : Int) := by
  show IntKind.u8.wrap ((BitVec.ofInt 8 (a.toNat : Int) ||| BitVec.ofInt 8 (b.toNat : Int)).toNat : Int) = _
  rw [ofInt8, ofInt8, wrap8_nat]
theorem add8 : IntKind.u8.wrap ((a.toNat : Int) + (b.toNat : Int)) = ((a + b).toNat : Int) := by
  rw [wrap_u8_mod, BitVec.toNat_add]; omega
theorem sub8 : IntKind.u8.wrap ((a.toNat : Int) - (b.toNat : Int)) = ((a - b).toNat : Int) := by
  have := a.isLt
  have := b.isLt
  rw [wrap_u8_mod, BitVec.toNat_sub]; omega
theorem neg8 : IntKind.u8.wrap (0 - (a.toNat : Int)) = ((-a).toNat : Int) := by
  have := a.isLt
  rw [wrap_u8_mod, BitVec.toNat_neg]; omega
theorem com8 {H : Heap} : unOf .xor (.int .u8 (a.toNat : Int)) H = some (.int .u8 ((a ^^^ BitVec.allOnes 8).toNat : Int), H) := by
  simp only [unOf, aun, signed_u8, Bool.false_eq_true, if_false, Option.map_some, max_u8]
  have e : (255 : Int) = ((BitVec.allOnes 8).toNat : Int) := by decide
  rw [e, xor8, BitVec.xor_comm]
theorem shr8 (n : Nat) : (a.toNat : Int).fdiv (2 ^ n) = ((a >>> n).toNat : Int) := by
  rw [BitVec.toNat_ushiftRight, Nat.shiftRight_eq_div_pow]
  have e : ((2 : Int) ^ n) = ((2 ^ n : Nat) : Int) := by push_cast; rfl
  rw [e]
  exact (Int.fdiv_eq_ediv_of_nonneg _ (Int.natCast_nonneg _)).trans (by norm_cast)
end
theorem signed_u16 : IntKind.signed .u16 = false := _root_.id rfl
theorem max_u16 : IntKind.max .u16 = 65535 := by decide
theorem wrap_u16_mod (x : Int) : IntKind.u16.wrap x = x % 65536 := by
  have e : (2 ^ IntKind.u16.bits : Int) = 65536 := by decide
  unfold IntKind.wrap
  simp only [e, show IntKind.u16.signed = false from rfl]
  simp
section
variable (a b : BitVec 16)
theorem wrap16_nat : IntKind.u16.wrap (a.toNat : Int) = (a.toNat : Int) := by
  have := a.isLt
  rw [wrap_u16_mod]; omega
theorem ofInt16 : BitVec.ofInt 16 (a.toNat : Int) = a := by
  rw [BitVec.ofInt_natCast, BitVec.ofNat_toNat, BitVec.setWidth_eq]
theorem xor16 : abits .xor .u16 (a.toNat : Int) (b.toNat : Int) = ((a ^^^ b).toNat : Int) := by
  show IntKind.u16.wrap ((BitVec.ofInt 16 (a.toNat : Int) ^^^ BitVec.ofInt 16 (b.toNat : Int)).toNat : Int) = _
  rw [ofInt16, ofInt16, wrap16_nat]
theorem and16 : abits .and .u16 (a.toNat : Int) (b.toNat : Int) = ((a &&& b).toNat : Int) := by
  show IntKind.u16.wrap ((BitVec.ofInt 16 (a.toNat : Int) &&& BitVec.ofInt 16 (b.toNat : Int)).toNat : Int) = _
  rw [ofInt16, ofInt16, wrap16_nat]
theorem or16 : abits .or .u16 (a.toNat : Int) (b.toNat : Int) = ((a ||| b).toNat : Int) := by
  show IntKind.u16.wrap ((BitVec.ofInt 16 (a.toNat : Int) ||| BitVec.ofInt 16 (b.toNat : Int)).toNat : Int) = _
  rw [ofInt16, ofInt16, wrap16_nat]
theorem add16 : IntKind.u16.wrap ((a.toNat : Int) + (b.toNat : Int)) = ((a + b).toNat : Int) := by
  rw [wrap_u16_mod, BitVec.toNat_add]; omega
theorem sub16 : IntKind.u16.wrap ((a.toNat : Int) - (b.toNat : Int)) = ((a - b).toNat : Int) := by
  have := a.isLt
  have := b.isLt
  rw [wrap_u16_mod, BitVec.toNat_sub]; omega
theorem neg16 : IntKind.u16.wrap (0 - (a.toNat : Int)) = ((-a).toNat : Int) := by
  have := a.isLt
  rw [wrap_u16_mod, BitVec.toNat_neg]; omega
theorem com16 {H : Heap} : unOf .xor (.int .u16 (a.toNat : Int)) H = some (.int .u16 ((a ^^^ BitVec.allOnes 16).toNat : Int), H) := by
  simp only [unOf, aun, signed_u16, Bool.false_eq_true, if_false, Option.map_some, max_u16]
  have e : (65535 : Int) = ((BitVec.allOnes 16).toNat : Int) := by decide
  rw [e, xor16, BitVec.xor_comm]
theorem shr16 (n : Nat) : (a.toNat : Int).fdiv (2 ^ n) = ((a >>> n).toNat : Int) := by
  rw [BitVec.toNat_ushiftRight, Nat.shiftRight_eq_div_pow]
  have e : ((2 : Int) ^ n) = ((2 ^ n : Nat) : Int) := by push_cast; rfl
  rw [e]
  exact (Int.fdiv_eq_ediv_of_nonneg _ (Int.natCast_nonneg _)).trans (by norm_cast)
end
theorem signed_u32 : IntKind.signed .u32 = false := _root_.id rfl
theorem max_u32 : IntKind.max .u32 = 4294967295 := by decide
theorem wrap_u32_mod (x : Int) : IntKind.u32.wrap x = x % 4294967296 := by
  have e : (2 ^ IntKind.u32.bits : Int) = 4294967296 := by decide
  unfold IntKind.wrap
  simp only [e, show IntKind.u32.signed = false from rfl]
  simp
section
variable (a b : BitVec 32)
theorem wrap32_nat : IntKind.u32.wrap (a.toNat : Int) = (a.toNat : Int) := by
  have := a.isLt
  rw [wrap_u32_mod]; omega
theorem ofInt32 : BitVec.ofInt 32 (a.toNat : Int) = a := by
  rw [BitVec.ofInt_natCast, BitVec.ofNat_toNat, BitVec.setWidth_eq]
theorem xor32 : abits .xor .u32 (a.toNat : Int) (b.toNat : Int) = ((a ^^^ b).toNat : Int) := by
  show IntKind.u32.wrap ((BitVec.ofInt 32 (a.toNat : Int) ^^^ BitVec.ofInt 32 (b.toNat : Int)).toNat : Int) = _
  rw [ofInt32, ofInt32, wrap32_nat]
theorem and32 : abits .and .u32 (a.toNat : Int) (b.toNat : Int) = ((a &&& b).toNat : Int) := by
  show IntKind.u32.wrap ((BitVec.ofInt 32 (a.toNat : Int) &&& BitVec.ofInt 32 (b.toNat : Int)).toNat : Int) = _
  rw [ofInt32, ofInt32, wrap32_nat]
theorem or32 : abits .or .u32 (a.toNat : Int) (b.toNat : Int) = ((a ||| b).toNat : Int) := by
  show IntKind.u32.wrap ((BitVec.ofInt 32 (a.toNat : Int) ||| BitVec.ofInt 32 (b.toNat : Int)).toNat : Int) = _
  rw [ofInt32, ofInt32, wrap32_nat]
theorem add32 : IntKind.u32.wrap ((a.toNat : Int) + (b.toNat : Int)) = ((a + b).toNat : Int) := by
  rw [wrap_u32_mod, BitVec.toNat_add]; omega
theorem sub32 : IntKind.u32.wrap ((a.toNat : Int) - (b.toNat : Int)) = ((a - b).toNat : Int) := by
  have := a.isLt
  have := b.isLt
  rw [wrap_u32_mod, BitVec.toNat_sub]; omega
theorem neg32 : IntKind.u32.wrap (0 - (a.toNat : Int)) = ((-a).toNat : Int) := by
  have := a.isLt
  rw [wrap_u32_mod, BitVec.toNat_neg]; omega
theorem com32 {H : Heap} : unOf .xor (.int .u32 (a.toNat : Int)) H = some (.int .u32 ((a ^^^ BitVec.allOnes 32).toNat : Int), H) := by
  simp only [unOf, aun, signed_u32, Bool.false_eq_true, if_false, Option.map_some, max_u32]
  have e : (4294967295 : Int) = ((BitVec.allOnes 32).toNat : Int) := by decide
  rw [e, xor32, BitVec.xor_comm]
theorem shr32 (n : Nat) : (a.toNat : Int).fdiv (2 ^ n) = ((a >>> n).toNat : Int) := by
  rw [BitVec.toNat_ushiftRight, Nat.shiftRight_eq_div_pow]
  have e : ((2 : Int) ^ n) = ((2 ^ n : Nat) : Int) := by push_cast; rfl
  rw [e]
  exact (Int.fdiv_eq_ediv_of_nonneg _ (Int.natCast_nonneg _)).trans (by norm_cast)
end
theorem signed_u64 : IntKind.signed .u64 = false := _root_.id rfl
theorem max_u64 : IntKind.max .u64 = 18446744073709551615 := by decide
theorem wrap_u64_mod (x : Int) : IntKind.u64.wrap x = x % 18446744073709551616 := by
  have e : (2 ^ IntKind.u64.bits : Int) = 18446744073709551616 := by decide
  unfold IntKind.wrap
  simp only [e, show IntKind.u64.signed = false from rfl]
  simp
section
variable (a b : BitVec 64)
theorem wrap64_nat : IntKind.u64.wrap (a.toNat : Int) = (a.toNat : Int) := by
  have := a.isLt
  rw [wrap_u64_mod]; omega
theorem ofInt64 : BitVec.ofInt 64 (a.toNat : Int) = a := by
  rw [BitVec.ofInt_natCast, BitVec.ofNat_toNat, BitVec.setWidth_eq]
theorem xor64 : abits .xor .u64 (a.toNat : Int) (b.toNat : Int) = ((a ^^^ b).toNat : Int) := by
  show IntKind.u64.wrap ((BitVec.ofInt 64 (a.toNat : Int) ^^^ BitVec.ofInt 64 (b.toNat : Int)).toNat : Int) = _
  rw [ofInt64, ofInt64, wrap64_nat]
theorem and64 : abits .and .u64 (a.toNat : Int) (b.toNat : Int) = ((a &&& b).toNat : Int) := by
  show IntKind.u64.wrap ((BitVec.ofInt 64 (a.toNat : Int) &&& BitVec.ofInt 64 (b.toNat : Int)).toNat : Int) = _
  rw [ofInt64, ofInt64, wrap64_nat]
theorem or64 : abits .or .u64 (a.toNat : Int) (b.toNat : Int) = ((a ||| b).toNat : Int) := by
  show IntKind.u64.wrap ((BitVec.ofInt 64 (a.toNat : Int) ||| BitVec.ofInt 64 (b.toNat : Int)).toNat : Int) = _
  rw [ofInt64, ofInt64, wrap64_nat]
theorem add64 : IntKind.u64.wrap ((a.toNat : Int) + (b.toNat : Int)) = ((a + b).toNat : Int) := by
  rw [wrap_u64_mod, BitVec.toNat_add]; omega
theorem sub64 : IntKind.u64.wrap ((a.toNat : Int) - (b.toNat : Int)) = ((a - b).toNat : Int) := by
  have := a.isLt
  have := b.isLt
  rw [wrap_u64_mod, BitVec.toNat_sub]; omega
theorem neg64 : IntKind.u64.wrap (0 - (a.toNat : Int)) = ((-a).toNat : Int) := by
  have := a.isLt
  rw [wrap_u64_mod, BitVec.toNat_neg]; omega
theorem com64 {H : Heap} : unOf .xor (.int .u64 (a.toNat : Int)) H = some (.int .u64 ((a ^^^ BitVec.allOnes 64).toNat : Int), H) := by
  simp only [unOf, aun, signed_u64, Bool.false_eq_true, if_false, Option.map_some, max_u64]
  have e : (18446744073709551615 : Int) = ((BitVec.allOnes 64).toNat : Int) := by decide
  rw [e, xor64, BitVec.xor_comm]
theorem shr64 (n : Nat) : (a.toNat : Int).fdiv (2 ^ n) = ((a >>> n).toNat : Int) := by
  rw [BitVec.toNat_ushiftRight, Nat.shiftRight_eq_div_pow]
  have e : ((2 : Int) ^ n) = ((2 ^ n : Nat) : Int) := by push_cast; rfl
  rw [e]
  exact (Int.fdiv_eq_ediv_of_nonneg _ (Int.natCast_nonneg _)).trans (by norm_cast)
end
theorem tidy_bool0 {X : Heap} {b : Bool} : tidy [] (.bool b) X = (.bool b, []) := by
  have h := tidy_bool' (H := []) (X := X) (b := b)
  rwa [List.nil_append] at h
end Go.Den

/- Strings as lists of bytes. -/
set_option linter.unusedVariables false
set_option linter.unusedSimpArgs false
namespace Go.Den
def mkS (l : List UInt8) : ByteArray := ⟨l.toArray⟩
theorem mkS_data (l : List UInt8) : (mkS l).data.toList = l := rfl
theorem mkS_size (l : List UInt8) : (mkS l).size = l.length := by show l.toArray.size = _; simp
theorem mkS_self (s : ByteArray) : mkS s.data.toList = s := by cases s; simp [mkS]
theorem mkS_inj {l m : List UInt8} : mkS l = mkS m ↔ l = m := ⟨fun h => by have := congrArg (fun s : ByteArray => s.data.toList) h; simpa [mkS] using this, fun h => by rw [h]⟩
theorem mkS_toList (l : List UInt8) : (mkS l).toList = l := by rw [ByteArray.toList_eq]; rfl
theorem mkS_append (l m : List UInt8) : mkS l ++ mkS m = mkS (l ++ m) := by
  apply ByteArray.ext
  rw [ByteArray.data_append]
  simp [mkS]
theorem mkS_extract (l : List UInt8) (a b : Nat) : (mkS l).extract a b = mkS ((l.drop a).take (b - a)) := by
  apply ByteArray.ext
  rw [ByteArray.data_extract]
  apply Array.ext'
  simp [mkS, List.extract_eq_take_drop]
theorem str_lit (l : List UInt8) : AV.str ⟨l.toArray⟩ = AV.str (mkS l) := _root_.id rfl
section
variable {H : Heap}
theorem len_mkS {l : List UInt8} : lenOf true (.str (mkS l)) H = some (.int .i64 (l.length : Int), H) := by rw [len_str, mkS_size]
theorem ixs_mkS {l : List UInt8} {k : IntKind} {i : Nat} : ixsOf (.str (mkS l)) (.int k (i : Int)) H = (l[i]?).map fun b => (.int .u8 (b.toNat : Int), H) := by
  rw [ixs_str, if_pos (Int.natCast_nonneg i), Int.toNat_natCast, mkS_data]
theorem bin_adds {l m : List UInt8} (h : l.length + m.length ≤ 9223372036854775807) : binOf .add (.str (mkS l)) (.str (mkS m)) H = some (.str (mkS (l ++ m)), H) := by
  have h' : ((((mkS l).size + (mkS m).size : Nat) : Int) ≤ 9223372036854775807) := by rw [mkS_size, mkS_size]; omega
  show Option.map _ (if ((((mkS l).size + (mkS m).size : Nat) : Int) ≤ 9223372036854775807) then some (AV.str (mkS l ++ mkS m)) else none) = _
  rw [if_pos h', mkS_append]; rfl
theorem bin_eqs {l m : List UInt8} : binOf .eql (.str (mkS l)) (.str (mkS m)) H = some (.bool (l == m), H) := by
  show some (AV.bool ((mkS l).toList == (mkS m).toList), H) = _
  rw [mkS_toList, mkS_toList]
theorem bin_nes {l m : List UInt8} : binOf .neq (.str (mkS l)) (.str (mkS m)) H = some (.bool (l != m), H) := by
  show some (AV.bool (!((mkS l).toList == (mkS m).toList)), H) = _
  rw [mkS_toList, mkS_toList]; rfl
def slstrOf (x : AV) (lo hi : Option (Option Nat)) (H : Heap) : Option (AV × Heap) :=
  match x with
  | .str s => lo.bind fun l => hi.bind fun h => if l.getD 0 ≤ h.getD s.size ∧ h.getD s.size ≤ s.size then some (.str (s.extract (l.getD 0) (h.getD s.size)), H) else none
  | _ => none
theorem sop_slstr {cl : CL} {t : List AV} {x lo hi} : sop cl t H (.slstr x lo hi) = slstrOf (evx t x) (evb (evx t) lo) (evb (evx t) hi) H := by
  show aop (evx t) H (.slstr x lo hi) = _
  simp only [aop, slstrOf, abound_evb]
  cases evx t x <;> rfl
theorem bound_nat {k : IntKind} {i : Nat} : boundOf (.int k (i : Int)) = some (some i) := by simp [boundOf]
theorem bound_int {k : IntKind} {i : Int} : boundOf (.int k i) = if 0 ≤ i then some (some i.toNat) else none := _root_.id rfl
theorem slstr_both {l : List UInt8} {a b : Nat} (h : a ≤ b ∧ b ≤ l.length) : slstrOf (.str (mkS l)) (some (some a)) (some (some b)) H = some (.str (mkS ((l.drop a).take (b - a))), H) := by
  simp only [slstrOf, Option.bind_some, Option.getD_some, mkS_size]
  rw [if_pos h, mkS_extract]
theorem slstr_lo {l : List UInt8} {a : Nat} (h : a ≤ l.length) : slstrOf (.str (mkS l)) (some (some a)) (some none) H = some (.str (mkS (l.drop a)), H) := by
  simp only [slstrOf, Option.bind_some, Option.getD_some, Option.getD_none, mkS_size]
  rw [if_pos ⟨h, Nat.le_refl _⟩, mkS_extract, List.take_of_length_le (by simp)]
theorem slstr_hi {l : List UInt8} {b : Nat} (h : b ≤ l.length) : slstrOf (.str (mkS l)) (some none) (some (some b)) H = some (.str (mkS (l.take b)), H) := by
  simp only [slstrOf, Option.bind_some, Option.getD_some, Option.getD_none, mkS_size]
  rw [if_pos ⟨by omega, h⟩, mkS_extract]; simp
/-- cells of bytes. -/
def u8s (l : List UInt8) : List AV := l.map fun b => .int .u8 (b.toNat : Int)
theorem bytesOf_u8s : ∀ l : List UInt8, bytesOf (u8s l) = some l
  | [] => rfl
  | b :: l => by
    have := bytesOf_u8s l
    simp only [u8s] at this
    simp [u8s, bytesOf, this]
theorem strCells_mkS (l : List UInt8) : strCells (mkS l) = u8s l := rfl
theorem u8s_len (l : List UInt8) : (u8s l).length = l.length := by simp [u8s]
theorem u8s_one (l : List UInt8) : (u8s l).all AV.one = true := by simp [u8s, AV.one]
theorem u8s_flat (l : List UInt8) : (u8s l).all AV.flat = true := by simp [u8s, AV.flat]
theorem str_of {v : AV} {l : List UInt8} (h1 : acells H v = some (u8s l)) (h2 : alen v = some l.length) : strOf v H = some (.str (mkS l), H) := by
  simp only [strOf, h1, Option.bind_some, u8s_len, h2, if_true, bytesOf_u8s, Option.map_some]; rfl
end
/-! ### A row that was there is written -/
theorem keepOld_set (n : Nat) (row : AO) (hr : row.under n = true) : ∀ (H : Heap) (o : Nat) (X : Heap), keepOld n H (H.set o row ++ X) = true
  | [], o, X => by simp [keepOld]
  | a :: H, 0, X => by simp [keepOld, hr, keepOld_append]
  | a :: H, o + 1, X => by simp [keepOld, AO.same_refl, keepOld_set n row hr H o X]
theorem tidy_setX {H X : Heap} {o : Nat} {v : AV} {l : List AV} {e : TypeId} {w : Bool} (hv : v.flat = true) (hl : l.all AV.flat = true) : tidy H v (H.set o (.cells l e w) ++ X) = (v, H.set o (.cells l e w)) := by
  have hr : (AO.cells l e w).under H.length = true := leadss_flat hl
  simp [tidy, keepOld_set _ _ hr, carry_flat hv]
theorem tidy_set {H : Heap} {o : Nat} {v : AV} {l : List AV} {e : TypeId} {w : Bool} (hv : v.flat = true) (hl : l.all AV.flat = true) : tidy H v (H.set o (.cells l e w)) = (v, H.set o (.cells l e w)) := by
  have := tidy_setX (X := []) (H := H) (o := o) (e := e) (w := w) hv hl
  rwa [List.append_nil] at this
theorem tidy_setU {H : Heap} {o : Nat} {l : List AV} {e : TypeId} {w : Bool} (hl : l.all AV.flat = true) : tidy H (.tup []) (H.set o (.cells l e w)) = (.tup [], H.set o (.cells l e w)) := by
  have hr : (AO.cells l e w).under H.length = true := leadss_flat hl
  have := keepOld_set _ _ hr H o []
  rw [List.append_nil] at this
  simp [tidy, this, AV.carry, carries, List.take_of_length_le]
theorem aload_row {H : Heap} {o n off : Nat} {l : List AV} {e : TypeId} {w : Bool} (h : H[o]? = some (.cells l e w)) : aload H n (.ptr o off) = if off + n ≤ l.length then some ((l.drop off).take n) else none := by
  simp only [aload, arow, h]
theorem astore_row {H : Heap} {o off : Nat} {l c : List AV} {e : TypeId} (h : H[o]? = some (.cells l e true)) : astore H (.ptr o off) c = if off + c.length ≤ l.length ∧ c.all AV.one = true then some (H.set o (.cells (splice l off c) e true)) else none := by
  simp only [astore, h]
theorem set_same {H : Heap} {o : Nat} {x : AO} (h : H[o]? = some x) : H.set o x = H := by
  apply List.ext_getElem?
  intro i
  rw [List.getElem?_set]
  split
  · rename_i hi; subst hi
    split
    · rw [h]
    · rename_i hlt
      rw [List.getElem?_eq_none (by omega)] at h; cases h
  · rfl
theorem tidy_ptr0 {H X : Heap} {off : Nat} {l : List AV} {e : TypeId} {w : Bool} (hl : l.all AV.flat = true) : tidy H (.ptr H.length off) (H ++ .cells l e w :: X) = (.ptr H.length off, H ++ [.cells l e w]) := by
  have hu : unders H.length l = true := leadss_flat hl
  simp [tidy, keepOld_append, AV.carry, hu]
theorem lit_byte (n : Nat) (h : n < 256) : (AV.int .u8 (n : Int)) = AV.int .u8 (((UInt8.ofNat n).toNat : Nat) : Int) := by
  simp; omega
end Go.Den

/- In the middle of code; a slice that grows through calls. -/
set_option linter.unusedVariables false
set_option linter.unusedSimpArgs false
namespace Go.Den
section
variable {cl : CL} {t : List AV} {H : Heap} {Q : AX → List AV → Heap → Prop}
/-- Between two pieces of code. -/
def mid (M : List AV → Heap → Prop) (Q : AX → List AV → Heap → Prop) : AX → List AV → Heap → Prop
  | .normal, t, H => M t H
  | x, t, H => Q x t H
theorem mid_normal {M} : mid M Q .normal t H = M t H := _root_.id rfl
theorem mid_exit {M id} : mid M Q (.exit id) t H = Q (.exit id) t H := _root_.id rfl
theorem mid_ret {M} : mid M Q .ret t H = Q .ret t H := _root_.id rfl
theorem ends_mid {a b : SC} (M : List AV → Heap → Prop) (h1 : Ends cl a t H (mid M Q)) (h2 : ∀ t H, M t H → Ends cl b t H Q) : Ends cl (.seq a b) t H Q := by
  rw [ends_seq]
  refine h1.mono fun x t H h => ?_
  cases x with
  | normal => exact h2 t H h
  | exit id => exact h
  | ret => exact h
end
section
variable {α : Type} {H0 Hn H1 B : Heap} {e : TypeId} {sz : Nat} {g : α → List AV} {v v1 : AV} {l m : List α}
/-- A slice that came in, grown since heap Hn; B lies behind it. -/
structure Pushed (H0 Hn B : Heap) (e : TypeId) (sz : Nat) (g : α → List AV) (v : AV) (l : List α) (K X : Heap) (v1 : AV) (m : List α) : Prop where
  acc : Acc H0 Hn e sz g v l
  size : ∀ a ∈ m, (g a).length = sz
  ones : ∀ a ∈ m, (g a).all AV.one = true
  klen : K.length = Hn.length
  old : ∃ Y, K = H0 ++ Y
  kept : ∀ i : Nat, K[i]? = Hn[i]? ∨ (K[i]? = some .dead)
  case : (m = [] ∧ v1 = v ∧ K = Hn) ∨ (m ≠ [] ∧ ∃ o, v1 = .sl (Hn.length + B.length + o) 0 (l.length + m.length) sz none ∧ X[o]? = some (.cells ((l ++ m).flatMap g) e true))
theorem Pushed.start (h : Acc H0 Hn e sz g v l) : Pushed H0 Hn B e sz g v l Hn [] v [] :=
  ⟨h, by simp, by simp, rfl, h.above, fun i => .inl rfl, .inl ⟨rfl, rfl, rfl⟩⟩
theorem getElem?_keep {X Y : Heap} {o : Nat} {x : AO} (h : X[o]? = some x) : (X ++ Y)[o]? = some x := by
  have : o < X.length := (List.getElem?_eq_some_iff.1 h).1
  rw [List.getElem?_append_left this]; exact h
theorem Pushed.junk {K X : Heap} (h : Pushed H0 Hn B e sz g v l K X v1 m) (Y : Heap) : Pushed H0 Hn B e sz g v l K (X ++ Y) v1 m :=
  ⟨h.acc, h.size, h.ones, h.klen, h.old, h.kept, by
    rcases h.case with h1 | ⟨h1, o, h2, h3⟩
    · exact .inl h1
    · exact .inr ⟨h1, o, h2, getElem?_keep h3⟩⟩
theorem all_flatMap_one {m : List α} (h : ∀ a ∈ m, (g a).all AV.one = true) : (m.flatMap g).all AV.one = true := by
  simp only [List.all_flatMap, List.all_eq_true] at h ⊢
  exact h
theorem Pushed.push {K X : Heap} (h : Pushed H0 Hn B e sz g v l K X v1 m) {n : List α} {x : AV} (hn : n ≠ []) (hs : ∀ a ∈ n, (g a).length = sz) (ho : ∀ a ∈ n, (g a).all AV.one = true)
    (hl : alen x = some n.length) (hx : newOf (K ++ (B ++ X)) sz x = some (n.flatMap g)) (hr : l.length + (m.length + n.length) ≤ 4294967296) :
    ∃ v2 K2 X2, aapp (K ++ (B ++ X)) e sz v1 x = some (v2, K2 ++ (B ++ X2)) ∧ Pushed H0 Hn B e sz g v l K2 X2 v2 (m ++ n) := by
  have hn0 : n.length ≠ 0 := by simpa using hn
  have hnf := flat_len hs
  have hone := all_flatMap_one ho
  have hsz : ∀ a ∈ m ++ n, (g a).length = sz := by intro a ha; rcases List.mem_append.1 ha with ha | ha; exact h.size a ha; exact hs a ha
  have hon : ∀ a ∈ m ++ n, (g a).all AV.one = true := by intro a ha; rcases List.mem_append.1 ha with ha | ha; exact h.ones a ha; exact ho a ha
  have hne : m ++ n ≠ [] := by simp [hn]
  rcases h.case with ⟨h1, h2, h3⟩ | ⟨h0, o, h1, h2⟩
  · subst h1 h2 h3
    obtain ⟨Z, hZ, hv⟩ := h.acc.heap
    rcases hv with ⟨hv1, hv2⟩ | ⟨hv0, o, hv1, hv2⟩
    · subst hv1 hv2
      have hr' : roomy n.length = true := by simp [roomy] at hr ⊢; exact hr
      refine ⟨_, K, X ++ [.cells (n.flatMap g) e true], ?_, h.acc, hsz, hon, h.klen, h.old, h.kept, .inr ⟨hne, X.length, rfl, by simp⟩⟩
      simp only [aapp, hl, hx, if_neg hn0, hnf, hone, and_self, if_true, hr']
      simp [Nat.add_assoc]
    · subst hv1
      have hlf := flat_len h.acc.size
      have hrow : K[H0.length + o]? = some (.cells (l.flatMap g) e true) := by
        rw [hZ, List.getElem?_append_right (by omega), Nat.add_sub_cancel_left]; exact hv2
      have hlt : H0.length + o < K.length := (List.getElem?_eq_some_iff.1 hrow).1
      have hH : (K ++ (B ++ X))[H0.length + o]? = some (.cells (l.flatMap g) e true) := getElem?_keep hrow
      have hr' : roomy (l.length + n.length) = true := by simpa [roomy] using hr
      refine ⟨_, K.set (H0.length + o) .dead, X ++ [.cells ((l ++ n).flatMap g) e true], ?_, h.acc, hsz, hon, by simp, ?_, ?_, .inr ⟨hne, X.length, rfl, by simp⟩⟩
      · simp only [aapp, hl, hx, if_neg hn0, hnf, hone, and_self, if_true, hH, hr']
        simp [hlf, List.take_of_length_le, List.set_append_left _ _ hlt, h.klen, Nat.add_assoc]
      · obtain ⟨Y, hY⟩ := h.old
        refine ⟨Y.set o .dead, ?_⟩
        rw [hY, List.set_append_right _ _ (by omega), Nat.add_sub_cancel_left]
      · intro i
        rw [List.getElem?_set]
        split
        · rename_i hi; subst hi
          exact .inr rfl
        · exact h.kept i
  · subst h1
    have hlm := flat_len (g := g) (l := l ++ m) (sz := sz) (by intro a ha; rcases List.mem_append.1 ha with ha | ha; exact h.acc.size a ha; exact h.size a ha)
    have hlt : o < X.length := (List.getElem?_eq_some_iff.1 h2).1
    have hH : (K ++ (B ++ X))[Hn.length + B.length + o]? = some (.cells ((l ++ m).flatMap g) e true) := by
      rw [← h.klen, List.getElem?_append_right (by omega), Nat.add_assoc, Nat.add_sub_cancel_left, List.getElem?_append_right (by omega), Nat.add_sub_cancel_left]
      exact h2
    have hr' : roomy (l.length + m.length + n.length) = true := by simp [roomy]; omega
    have hcn : ((l ++ m).flatMap g).length = (l.length + m.length) * sz := by rw [hlm, List.length_append]
    refine ⟨_, K, X.set o .dead ++ [.cells ((l ++ (m ++ n)).flatMap g) e true], ?_, h.acc, hsz, hon, h.klen, h.old, h.kept, .inr ⟨hne, X.length, rfl, by simp⟩⟩
    have hset : (K ++ (B ++ X)).set (Hn.length + B.length + o) .dead = K ++ (B ++ X.set o .dead) := by
      rw [← h.klen, Nat.add_assoc, List.set_append_right _ _ (by omega), Nat.add_sub_cancel_left, List.set_append_right _ _ (by omega), Nat.add_sub_cancel_left]
    have ht : List.take ((l.length + m.length) * sz) ((l ++ m).flatMap g) = (l ++ m).flatMap g := List.take_of_length_le (by omega)
    have e3 : (l ++ (m ++ n)).flatMap g = (l ++ m).flatMap g ++ n.flatMap g := by simp
    simp only [aapp, hl, hx, if_neg hn0, hnf, hone, and_self, if_true, hH, hr', hset, hcn, e3, List.drop_zero, ht, Nat.zero_add, Nat.le_refl]
    simp only [List.length_append, h.klen, List.length_set, Nat.add_assoc, List.append_assoc]
theorem keepOld_kept (n : Nat) : ∀ (H K X : Heap), K.length = H.length → (∀ i : Nat, K[i]? = H[i]? ∨ K[i]? = some .dead) → keepOld n H (K ++ X) = true
  | [], K, X, hl, h => by simp [keepOld]
  | a :: H, [], X, hl, h => by simp at hl
  | a :: H, k :: K, X, hl, h => by
    have h0 := h 0
    simp only [List.getElem?_cons_zero, Option.some.injEq] at h0
    have ih := keepOld_kept n H K X (by simpa using hl) (fun i => by simpa using h (i + 1))
    rcases h0 with h0 | h0
    · subst h0; simp [keepOld, AO.same_refl, ih]
    · subst h0; simp [keepOld, AO.under, ih]
/-- Behind the call. -/
theorem Pushed.tidy {K X : Heap} (h : Pushed H0 Hn B e sz g v l K X v1 m) (hf : ∀ a ∈ l ++ m, (g a).all AV.flat = true) (hw : whole e = false := by decide) :
    ∃ v2 H2, tidy Hn v1 (K ++ (B ++ X)) = (v2, H2) ∧ Acc H0 H2 e sz g v2 (l ++ m) := by
  have hk := keepOld_kept Hn.length Hn K (B ++ X) h.klen h.kept
  have hsz : ∀ a ∈ l ++ m, (g a).length = sz := by intro a ha; rcases List.mem_append.1 ha with ha | ha; exact h.acc.size a ha; exact h.size a ha
  have hon : ∀ a ∈ l ++ m, (g a).all AV.one = true := by intro a ha; rcases List.mem_append.1 ha with ha | ha; exact h.acc.ones a ha; exact h.ones a ha
  rcases h.case with ⟨h1, h2, h3⟩ | ⟨h0, o, h1, h2⟩
  · subst h1 h2 h3
    obtain ⟨Z, hZ, hv⟩ := h.acc.heap
    refine ⟨v1, K, ?_, by rw [List.append_nil]; exact h.acc⟩
    rcases hv with ⟨hv1, hv2⟩ | ⟨hv0, o, hv1, hv2⟩
    · subst hv1 hv2
      simp [Den.tidy, hk, AV.carry]
    · subst hv1
      have hlt : H0.length + o < K.length := by
        have : o < Z.length := (List.getElem?_eq_some_iff.1 hv2).1
        rw [hZ, List.length_append]; omega
      simp [Den.tidy, hk, AV.carry, hlt]
  · subst h1
    obtain ⟨Y, hY⟩ := h.old
    have hH : (K ++ (B ++ X))[Hn.length + B.length + o]? = some (.cells ((l ++ m).flatMap g) e true) := by
      rw [← h.klen, List.getElem?_append_right (by omega), Nat.add_assoc, Nat.add_sub_cancel_left, List.getElem?_append_right (by omega), Nat.add_sub_cancel_left]
      exact h2
    have hfl : ((l ++ m).flatMap g).all AV.flat = true := by
      simp only [List.all_flatMap, List.all_eq_true] at hf ⊢
      exact hf
    have hlm := flat_len hsz
    rw [List.length_append] at hlm
    refine ⟨.sl Hn.length 0 (l.length + m.length) sz none, K ++ [.cells ((l ++ m).flatMap g) e true], ?_, hsz, hon, Y ++ [.cells ((l ++ m).flatMap g) e true], by rw [hY]; simp, .inr ⟨by simp [h0], Y.length, ?_, by simp⟩⟩
    · have hc : (AV.sl (Hn.length + B.length + o) 0 (l.length + m.length) sz none).carry Hn.length (K ++ (B ++ X)) ([], []) = some (.sl (Hn.length + 0) 0 (l.length + m.length) sz none, [Hn.length + B.length + o], [.cells ((l ++ m).flatMap g) e true]) := by
        simp only [AV.carry]
        rw [if_neg (by omega)]
        simp only [hH]
        have ht : List.take ((l.length + m.length) * sz) ((l ++ m).flatMap g) = (l ++ m).flatMap g := List.take_of_length_le (by omega)
        have hge : (l.length + m.length) * sz ≤ ((l ++ m).flatMap g).length := by omega
        simp only [List.drop_zero, ht, unders, leadss_flat hfl, Nat.zero_add, hge, hw, Bool.true_or, List.contains_nil, and_self, if_true, List.length_nil, List.nil_append]
      simp only [Den.tidy, hk, if_true, hc, Nat.add_zero]
      rw [List.take_append_of_le_length (by rw [h.klen]; exact Nat.le_refl _), List.take_of_length_le (by rw [h.klen]; exact Nat.le_refl _)]
    · rw [← h.klen, hY, List.length_append]
      simp
end
end Go.Den

/- A call that needs nothing of the heap: it may be told once and for all. -/
set_option linter.unusedVariables false
set_option linter.unusedSimpArgs false
namespace Go.Den
open Go.RowKit
theorem OR_frame {W : World} {ρ : Plan} {n : Nat} {o : AO} {s : Spot} {w w' : World} (h : OR W ρ n o s w) (hb : ∀ b, b < w.heap.size → w'.heap[b]? = w.heap[b]?) : OR W ρ n o s w' := by
  cases o with
  | cells l e rw =>
    have hlt := OR_lt h (by simp)
    obtain ⟨c, fr, h1, h2⟩ := h
    exact ⟨c, fr, by rw [hb _ hlt]; exact h1, h2⟩
  | raw l e =>
    have hlt := OR_lt h (by simp)
    obtain ⟨c, fr, h1, h2⟩ := h
    exact ⟨c, fr, by rw [hb _ hlt]; exact h1, h2⟩
  | mp ks vs =>
    have hlt := OR_lt h (by simp)
    obtain ⟨es, h1, h2⟩ := h
    exact ⟨es, by rw [hb _ hlt]; exact h1, h2⟩
  | iter t p =>
    have hlt := OR_lt h (by simp)
    exact ⟨by rw [hb _ hlt]; exact h.1, h.2⟩
  | dead => exact trivial
theorem awake_ok {P : Program} {cl : CL} {f : Nat} (hs : ClOk P cl) (h : cl f [] [] = some (.bool true, [])) (W : World) (ρ : Plan) (w : World) (H : Heap) (vs : List Value) (hg : GlobOk W) (hr : Rel W ρ H w) (hv : VRs W ρ H.length [] vs) :
    OpCalls P f vs.toArray w fun x w' => ∃ ρ', Stp W ρ H w ρ' H w' ∧ VR W ρ' H.length (.bool true) x := by
  simp only [VRs] at hv
  subst hv
  refine (hs f [] [] (.bool true) [] h w ρ w [] (hg.below hr.below) (rel_start w ρ) (by simp only [VRs])).mono fun x w' hx => ?_
  obtain ⟨ρ', hst, hx⟩ := hx
  have hb := hst.rel.below
  have hbl : ∀ b, b < w.heap.size → w'.heap[b]? = w.heap[b]? := hb.block
  refine ⟨ρ, ⟨fun i _ => rfl, Nat.le_refl _, hst.size, fun b hb' _ => hbl b hb', fun i hi => .inr ⟨i, hi, rfl⟩, ?_⟩, by simpa only [VR] using hx⟩
  exact ⟨hr.below.trans (hb.mono hr.below.size), hr.lo, fun i o ho => OR_frame (hr.obj i o ho) hbl, hr.inj⟩
/-- The machine in which some calls are told. -/
def told (e : Env) (l : List Nat) : Env := { E := e.E, isI := fun f => l.contains f, I := fun f args H => match args with | [] => some (.bool true, H) | _ => none }
theorem told_ok {P : Program} {e : Env} {l : List Nat} (he : ∀ f s, e.E f = some s → ∃ fn, P.funcs[f]? = some fn ∧ slimF P fn = some s) (hs : ClOk P (call e)) (h : ∀ f, l.contains f = true → call e f [] [] = some (.bool true, [])) : EnvOk P (told e l) := by
  refine ⟨fun f s _ hf => he f s hf, fun f args H v H' hI hc W ρ w vs hg hr hv => ?_⟩
  cases args with
  | nil =>
    have hc' : some (AV.bool true, H) = some (v, H') := hc
    injection hc' with hc'
    injection hc' with h1 h2
    subst h1 h2
    exact awake_ok hs (h f hI) W ρ w H vs hg hr hv
  | cons a as => cases hc
theorem call_told {e : Env} {l : List Nat} {f : Nat} {H : Heap} (h : l.contains f = true) : call (told e l) f [] H = some (.bool true, H) := call_intr h rfl
end Go.Den

/- Branches that are parted where the run stands still. -/
set_option linter.unusedVariables false
set_option linter.unusedSimpArgs false
namespace Go.Den
section
variable {cl : CL} {t : List AV} {H : Heap} {Q : AX → List AV → Heap → Prop}
theorem gets_guard {b : Bool} {o : SO} {d : Option Nat} {r : List SOp} : Gets (guardOps cl b o d r t H) Q = if b = true then Gets (thenOps cl (sop cl t H o) d r t) Q else Gets (ops cl r (put t d .undef) H) Q := by
  unfold guardOps; split <;> rfl
theorem gets_guardd {b : Bool} {o : SO} {dr : Option (List Nat)} {i : Nat} {m : List (Nat × Nat × Nat)} {d : Option Nat} {r : List SOp} : Gets (guardd b o dr cl i m d r t H) Q = if b = true then Gets (guardd true o dr cl i m d r t H) Q else Gets (opsd cl (i + 1) m r (put t d .undef) H) Q := by
  cases b <;> rfl
theorem wantsV_undef {b : Bool} : wantsV .undef b = false := _root_.id rfl
/-- One of two, by a value. -/
def EndsIf (cl : CL) (v : AV) (x y : SC) (t : List AV) (H : Heap) (Q : AX → List AV → Heap → Prop) : Prop := Cond v (Ends cl x t H Q) (Ends cl y t H Q)
theorem ends_cond' {e a b} : Ends cl (.cond e a b) t H Q = EndsIf cl (evx t e) a b t H Q := by rw [ends_cond]; rfl
theorem endsIf_true {a b} : EndsIf cl (.bool true) a b t H Q = Ends cl a t H Q := by simp [EndsIf, cond_bool]
theorem endsIf_false {a b} : EndsIf cl (.bool false) a b t H Q = Ends cl b t H Q := by simp [EndsIf, cond_bool]
theorem endsIf_any {c a b} : EndsIf cl (.bool c) a b t H Q = if c = true then Ends cl a t H Q else Ends cl b t H Q := by simp [EndsIf, cond_bool]
end
theorem ixa_n {H : Heap} {n len sz : Nat} {c : List AV} {k : IntKind} {i : Int} : ixaOf (some n) len sz (.agg c) (.int k i) H = if 0 ≤ i ∧ i < (len : Int) ∧ i.toNat * sz + n ≤ c.length then some (.agg ((c.drop (i.toNat * sz)).take n), H) else none := by
  simp only [ixaOf, Option.getD_some, Den.shape, Option.map_some]; rfl
theorem ixa_1 {H : Heap} {len sz : Nat} {c : List AV} {k : IntKind} {i : Int} : ixaOf none len sz (.agg c) (.int k i) H = if 0 ≤ i ∧ i < (len : Int) ∧ i.toNat * sz + 1 ≤ c.length then (one? ((c.drop (i.toNat * sz)).take 1)).map fun v => (v, H) else none := by
  simp only [ixaOf, Option.getD_none, Den.shape]; rfl
/-! ### Loops that are run round by round -/
section
variable {cl : CL} {t : List AV} {H : Heap} {Q : AX → List AV → Heap → Prop}
/-- A loop, where of the heap that it begins at only this is known. -/
theorem ends_loopH {a} (P : Heap → Prop) (I : Heap → Nat → List AV → Heap → Prop) (k : Nat) (hP : P H) (h : ∀ HB, P HB → I HB k t HB) (step : ∀ HB, P HB → ∀ k t H, I HB k t H → Ends cl a t H (again (I HB) k Q)) : Ends cl (.loop a) t H Q :=
  ends_loop (I H) k (h H hP) (step H hP)
def looped (cl : CL) (a : SC) (Q : AX → List AV → Heap → Prop) : AX → List AV → Heap → Prop
  | .normal, t, H => Ends cl (.loop a) t H Q
  | x, t, H => Q x t H
theorem looped_normal {a} : looped cl a Q .normal t H = Ends cl (.loop a) t H Q := _root_.id rfl
theorem looped_exit {a id} : looped cl a Q (.exit id) t H = Q (.exit id) t H := _root_.id rfl
theorem looped_ret {a} : looped cl a Q .ret t H = Q .ret t H := _root_.id rfl
theorem ends_unroll {a} : Ends cl (.loop a) t H Q = Ends cl a t H (looped cl a Q) := by
  apply propext
  simp only [Ends, code_loop, Option.bind_eq_some_iff]
  constructor
  · rintro ⟨s, ⟨⟨x, t1, H1⟩, h1, h2⟩, h3⟩
    refine ⟨_, h1, ?_⟩
    cases x with
    | normal => exact ⟨s, h2, h3⟩
    | exit id => injection h2 with h2; subst h2; exact h3
    | ret => injection h2 with h2; subst h2; exact h3
  · rintro ⟨⟨x, t1, H1⟩, h1, h2⟩
    cases x with
    | normal => obtain ⟨s, h3, h4⟩ := h2; exact ⟨s, ⟨_, h1, h3⟩, h4⟩
    | exit id => exact ⟨_, ⟨_, h1, rfl⟩, h2⟩
    | ret => exact ⟨_, ⟨_, h1, rfl⟩, h2⟩
end
/-! ### Results of several values -/
def resList (t : List AV) (H : Heap) (rs : List SRes) : Option (List AV) := rs.mapM (result1 t H)
def consRes : Option AV → Option (List AV) → Option (List AV)
  | some v, some l => some (v :: l)
  | _, _ => none
theorem res_many {t : List AV} {H : Heap} {a b : SRes} {r : List SRes} : resultOf t H (a :: b :: r) = (resList t H (a :: b :: r)).map .tup := _root_.id rfl
theorem resList_nil {t : List AV} {H : Heap} : resList t H [] = some [] := _root_.id rfl
theorem resList_cons {t : List AV} {H : Heap} {a : SRes} {r : List SRes} : resList t H (a :: r) = consRes (result1 t H a) (resList t H r) := by
  simp only [resList, List.mapM_cons]
  cases result1 t H a with
  | none => rfl
  | some v => cases h : List.mapM (result1 t H) r <;> simp [consRes]
theorem consRes_some {v : AV} {l : List AV} : consRes (some v) (some l) = some (v :: l) := _root_.id rfl
theorem result1_tmp {t : List AV} {H : Heap} {k : Nat} : result1 t H (.tmp k) = some (evx t (.t k)) := _root_.id rfl
theorem result1_cells {t : List AV} {H : Heap} {k n : Nat} : result1 t H (.cell k (some n)) = (aload H n (evx t (.t k))).map .agg := by simp only [result1, Option.getD_some, evx]; cases aload H n (t.getD k .undef) <;> rfl
theorem result1_cell {t : List AV} {H : Heap} {k : Nat} : result1 t H (.cell k none) = (aload H 1 (evx t (.t k))).bind one? := by simp only [result1, Option.getD_none, evx]; cases aload H 1 (t.getD k .undef) <;> rfl
/-! ### Rows made in a region that draws its order -/
theorem addMade_off {m : List (Nat × Nat × Nat)} {i L a b : Nat} (h : (a = b) = False) : addMade m i (L + a) (L + b) = m ++ [(i, L + a, b - a)] := by
  have : ¬ a = b := by rw [h]; exact not_false
  unfold addMade
  rw [if_neg (by omega), show L + b - (L + a) = b - a by omega]
theorem addMade_0 {m : List (Nat × Nat × Nat)} {i L b : Nat} (h : (b = 0) = False) : addMade m i L (L + b) = m ++ [(i, L, b)] := by
  have : ¬ b = 0 := by rw [h]; exact not_false
  unfold addMade
  rw [if_neg (by omega), show L + b - L = b by omega]
theorem shun_nil {u : List Nat} {v : AV} {n : Heap} : shun u [] v n = true := _root_.id rfl
theorem shun_cons {u : List Nat} {p : Nat × Nat × Nat} {m : List (Nat × Nat × Nat)} {v : AV} {n : Heap} : shun u (p :: m) v n = ((!u.contains p.1 || (v.leads (fun r => !inRows p r) && n.all fun o => o.leads fun r => !inRows p r)) && shun u m v n) := _root_.id rfl
theorem inRows_off {i L a c r : Nat} : inRows (i, L + a, c) (L + r) = (decide (a ≤ r) && decide (r < a + c)) := by
  unfold inRows; congr 1 <;> apply decide_eq_decide.2 <;> simp only [] <;> omega
theorem inRows_off0 {i L a c : Nat} : inRows (i, L + a, c) L = (decide (a ≤ 0) && decide (0 < a + c)) := by
  unfold inRows; congr 1 <;> apply decide_eq_decide.2 <;> simp only [] <;> omega
theorem inRows_at {i L c r : Nat} : inRows (i, L, c) (L + r) = decide (r < c) := by
  unfold inRows; simp
theorem inRows_at0 {i L c : Nat} : inRows (i, L, c) L = decide (0 < c) := by
  unfold inRows; simp
theorem veil_off {u : List Nat} {i a c : Nat} {m : List (Nat × Nat × Nat)} {H X : Heap} : veil u ((i, H.length + a, c) :: m) (H ++ X) = veil u m (H ++ if u.contains i = true then X.take a ++ (List.replicate c .dead ++ X.drop (a + c)) else X) := by
  rw [veil_cons]
  congr 1
  split
  · rw [take_app, Nat.add_assoc, drop_app]; simp
  · rfl
theorem veil_at {u : List Nat} {i c : Nat} {m : List (Nat × Nat × Nat)} {H X : Heap} : veil u ((i, H.length, c) :: m) (H ++ X) = veil u m (H ++ if u.contains i = true then List.replicate c .dead ++ X.drop c else X) := by
  have := veil_off (u := u) (i := i) (a := 0) (c := c) (m := m) (H := H) (X := X)
  simpa using this
theorem leads_ptr {p : Nat → Bool} {o a : Nat} : (AV.ptr o a).leads p = p o := _root_.id rfl
theorem leads_sl {p : Nat → Bool} {o a b c : Nat} {d : Option Nat} : (AV.sl o a b c d).leads p = p o := _root_.id rfl
theorem leads_int {p : Nat → Bool} {k : IntKind} {n : Int} : (AV.int k n).leads p = true := _root_.id rfl
theorem leads_bool {p : Nat → Bool} {b : Bool} : (AV.bool b).leads p = true := _root_.id rfl
theorem leads_str {p : Nat → Bool} {b : ByteArray} : (AV.str b).leads p = true := _root_.id rfl
theorem leads_nils {p : Nat → Bool} : AV.nils.leads p = true := _root_.id rfl
theorem leads_nili {p : Nat → Bool} : AV.nili.leads p = true := _root_.id rfl
theorem leads_nilp {p : Nat → Bool} : AV.nilp.leads p = true := _root_.id rfl
theorem leads_pv {p : Nat → Bool} {l : List AV} : (AV.pv l).leads p = true := _root_.id rfl
theorem leads_vs {p : Nat → Bool} {l : List AV} {n : Nat} : (AV.vs l n).leads p = true := _root_.id rfl
theorem leads_undef {p : Nat → Bool} : AV.undef.leads p = true := _root_.id rfl
theorem leads_agg {p : Nat → Bool} {l : List AV} : (AV.agg l).leads p = leadss p l := _root_.id rfl
theorem leads_tup {p : Nat → Bool} {l : List AV} : (AV.tup l).leads p = leadss p l := _root_.id rfl
theorem leadss_nil {p : Nat → Bool} : leadss p [] = true := _root_.id rfl
theorem leadss_cons {p : Nat → Bool} {a : AV} {l : List AV} : leadss p (a :: l) = (a.leads p && leadss p l) := _root_.id rfl
theorem leads_cells {p : Nat → Bool} {l : List AV} {e : TypeId} {w : Bool} : (AO.cells l e w).leads p = leadss p l := _root_.id rfl
theorem contains_nil {n : Nat} : ([] : List Nat).contains n = false := _root_.id rfl
theorem contains_cons {a n : Nat} {l : List Nat} : (a :: l).contains n = (n == a || l.contains n) := List.contains_cons
/-! ### One element of a slice -/
section
variable {α : Type} {H : Heap} {sz : Nat} {g : α → List AV} {v : AV} {l : List α}
theorem SlOf.elem (h : SlOf H sz g v l) {i : Nat} (hi : i < l.length) : (∀ k H', iaddrOf sz v (.int k (i : Int)) H' = some (cellAt v (i * sz), H')) ∧ (∀ q H', faddrOf q (cellAt v (i * sz)) H' = some (cellAt v (i * sz + q), H')) ∧
    (∀ q m X, q + m ≤ sz → aload (H ++ X) m (cellAt v (i * sz + q)) = some (((g l[i]).drop q).take m)) ∧ (∀ m X, m ≤ sz → aload (H ++ X) m (cellAt v (i * sz)) = some ((g l[i]).take m)) := by
  have hp := h.pos
  have hf := flat_fits (sz := sz) hi
  refine ⟨fun k H' => h.addr hi k H', fun q H' => h.field q _ (by omega) H', fun q m X hq => h.some' hi q m hq X, fun m X hm => ?_⟩
  have := h.some' hi 0 m (by omega) X
  simpa using this
theorem SlOf.elem0 (h : SlOf H sz g v l) {i : Nat} (hi : i < l.length) : (∀ k H', iaddrOf sz v (.int k (i : Int)) H' = some (cellAt v (i * sz), H')) ∧ (∀ q H', faddrOf q (cellAt v (i * sz)) H' = some (cellAt v (i * sz + q), H')) ∧
    (∀ q m, q + m ≤ sz → aload H m (cellAt v (i * sz + q)) = some (((g l[i]).drop q).take m)) ∧ (∀ m, m ≤ sz → aload H m (cellAt v (i * sz)) = some ((g l[i]).take m)) := by
  obtain ⟨h1, h2, h3, h4⟩ := h.elem hi
  refine ⟨h1, h2, fun q m hq => ?_, fun m hm => ?_⟩
  · have := h3 q m [] hq; rwa [List.append_nil] at this
  · have := h4 m [] hm; rwa [List.append_nil] at this
theorem SlOf.elemz (h : SlOf H sz g v l) (hi : 0 < l.length) : (∀ k H', iaddrOf sz v (.int k 0) H' = some (cellAt v 0, H')) ∧ (∀ q H', faddrOf q (cellAt v 0) H' = some (cellAt v q, H')) ∧
    (∀ q m X, q + m ≤ sz → aload (H ++ X) m (cellAt v q) = some (((g l[0]).drop q).take m)) := by
  obtain ⟨h1, h2, h3, h4⟩ := h.elem hi
  refine ⟨fun k H' => ?_, fun q H' => ?_, fun q m X hq => ?_⟩
  · have := h1 k H'; simpa using this
  · have := h2 q H'; simpa using this
  · have := h3 q m X hq; simpa using this
theorem SlOf.elemz0 (h : SlOf H sz g v l) (hi : 0 < l.length) : (∀ k H', iaddrOf sz v (.int k 0) H' = some (cellAt v 0, H')) ∧ (∀ q H', faddrOf q (cellAt v 0) H' = some (cellAt v q, H')) ∧
    (∀ q m, q + m ≤ sz → aload H m (cellAt v q) = some (((g l[0]).drop q).take m)) := by
  obtain ⟨h1, h2, h3⟩ := h.elemz hi
  refine ⟨h1, h2, fun q m hq => ?_⟩
  have := h3 q m [] hq; rwa [List.append_nil] at this
/-- A slice from an element on. -/
theorem SlOf.from (h : SlOf H sz g v l) {n : Nat} (hn : n ≤ l.length) : ∃ w, (∀ H', slcOf sz v (some (some n)) (some none) (some none) H' = some (w, H')) ∧ SlOf H sz g w (l.drop n) := by
  have hlen := h.len
  have hfl := flat_len h.size
  have hdf : ∀ n, (l.flatMap g).drop (n * sz) = (l.drop n).flatMap g := by
    intro n
    clear hn hlen hfl
    have hs := h.size
    clear h
    induction l generalizing n with
    | nil => simp
    | cons a l ih =>
      cases n with
      | zero => simp
      | succ n =>
        rw [List.flatMap_cons, Nat.succ_mul, Nat.add_comm, ← List.drop_drop, List.drop_left' (hs a (by simp)), List.drop_succ_cons]
        exact ih n fun b hb => hs b (by simp [hb])
  have hsz : ∀ a ∈ l.drop n, (g a).length = sz := fun a ha => h.size a (List.mem_of_mem_drop ha)
  have hms : n * sz + (l.length - n) * sz = l.length * sz := by rw [← Nat.add_mul]; congr 1; omega
  rcases h.kind with ⟨o, off, cap, row, h1, h2, h3, h4⟩ | ⟨m, h1⟩ | ⟨h1, h2⟩
  · subst h1
    refine ⟨.sl o (off + n * sz) (l.length - n) sz (cap.map (· - n)), fun H' => ?_, ⟨by simp [alen], hsz, h.pos, .inl ⟨o, off + n * sz, cap.map (· - n), row, by rw [List.length_drop], h2, ?_, ?_⟩⟩⟩
    · simp [slcOf, alen, acut, hn]
    · rw [← hdf, ← h3, List.length_drop, List.drop_take, List.drop_drop]
      congr 1
      omega
    · rw [List.length_drop]; omega
  · subst h1
    simp only [alen, Option.some.injEq] at hlen
    subst hlen
    refine ⟨.vs (((l.flatMap g).drop (n * sz)).take ((l.length - n) * sz)) (l.length - n), fun H' => ?_, ⟨by simp [alen], hsz, h.pos, .inr (.inl ⟨l.length - n, ?_⟩)⟩⟩
    · simp [slcOf, alen, acut, hn]
    · rw [hdf, List.take_of_length_le]
      rw [flat_len hsz, List.length_drop]; exact Nat.le_refl _
  · subst h1 h2
    have : n = 0 := by simpa using hn
    subst this
    exact ⟨.nils, fun H' => by simp [slcOf, alen, acut], by simpa using h⟩
end
/-- A value, or cells, that lead to no row. -/
def AV.still : AV → Bool
  | .agg l => l.all AV.flat
  | v => v.flat
theorem carry_still {n : Nat} {H1 : Heap} {m : Moved} {v : AV} (h : v.still = true) : v.carry n H1 m = some (v, m) := by
  cases v <;> first | exact carry_flat h | (simp only [AV.still] at h; simp only [AV.carry, carries_flat h, Option.map_some])
theorem carries_still {n : Nat} {H1 : Heap} {m : Moved} : ∀ {l : List AV}, l.all AV.still = true → carries n H1 m l = some (l, m)
  | [], _ => rfl
  | a :: l, h => by
    simp only [List.all_cons, Bool.and_eq_true] at h
    simp only [carries, carry_still h.1, Option.bind_some, carries_still h.2, Option.map_some]
theorem tidy_still {H X : Heap} {l : List AV} (h : l.all AV.still = true) : tidy H (.tup l) (H ++ X) = (.tup l, H) := by
  simp [tidy, keepOld_append, AV.carry, carries_still h]
theorem tidy_still0 {H : Heap} {l : List AV} (h : l.all AV.still = true) : tidy H (.tup l) H = (.tup l, H) := by
  simpa using tidy_still (X := []) h
/-! ### Slices that may be appended to -/
section
variable {α : Type} {H B X : Heap} {e : TypeId} {sz : Nat} {g : α → List AV} {v : AV} {l m : List α}
/-- Elements, each of so many plain cells. -/
structure Cel (sz : Nat) (g : α → List AV) : Prop where
  size : ∀ a, (g a).length = sz
  one : ∀ a, (g a).all AV.one = true
  flat : ∀ a, (g a).all AV.flat = true
  pos : 0 < sz
/-- A slice that nobody else holds. -/
def Own (H : Heap) (e : TypeId) (sz : Nat) (g : α → List AV) (v : AV) (l : List α) : Prop :=
  (v = .nils ∧ l = []) ∨ ∃ o, v = .sl o 0 l.length sz none ∧ H[o]? = some (.cells (l.flatMap g) e true)
def kill (v : AV) (H : Heap) : Heap := match v with | .sl o _ _ _ _ => H.set o .dead | _ => H
/-- What it comes to, with more elements. -/
def grow (e : TypeId) (sz : Nat) (g : α → List AV) (v : AV) (H : Heap) (l m : List α) : AV × Heap :=
  if m = [] then (v, H) else (.sl H.length 0 (l.length + m.length) sz none, kill v H ++ [.cells ((l ++ m).flatMap g) e true])
theorem kill_length {v : AV} {H : Heap} : (kill v H).length = H.length := by unfold kill; split <;> simp
theorem Own.nils : Own H e sz g .nils ([] : List α) := .inl ⟨rfl, rfl⟩
theorem Own.app (h : Own H e sz g v l) : Own (H ++ X) e sz g v l := by
  rcases h with h | ⟨o, h1, h2⟩
  · exact .inl h
  · exact .inr ⟨o, h1, getElem?_keep h2⟩
theorem Own.kill (h : Own H e sz g v l) : kill v (H ++ X) = kill v H ++ X := by
  rcases h with ⟨rfl, rfl⟩ | ⟨o, rfl, h2⟩
  · rfl
  · exact List.set_append_left _ _ (List.getElem?_eq_some_iff.1 h2).1
theorem kill_last {n o len s : Nat} {c : Option Nat} {K : Heap} {x : AO} (h : K.length = n) : Den.kill (.sl n o len s c) (K ++ [x]) = K ++ [.dead] := by
  subst h; simp [Den.kill]
theorem own_last {K : Heap} {n k : Nat} (h : K.length = n) (hk : k = l.length) : Own (K ++ [.cells (l.flatMap g) e true]) e sz g (.sl n 0 k sz none) l := by
  subst h hk; exact .inr ⟨K.length, rfl, by simp⟩
/-- To append to it. -/
theorem own_app (hg : Cel sz g) (h : Own H e sz g v l) {x : AV} (hm : m ≠ []) (hl : alen x = some m.length) (hn : newOf (H ++ B) sz x = some (m.flatMap g)) (hr : l.length + m.length ≤ 4294967296) :
    aapp (H ++ B) e sz v x = some (.sl (H.length + B.length) 0 (l.length + m.length) sz none, Den.kill v H ++ (B ++ [.cells ((l ++ m).flatMap g) e true])) := by
  have hm0 : m.length ≠ 0 := by simpa using hm
  have hmf : (m.flatMap g).length = m.length * sz := flat_len fun a _ => hg.size a
  have hlf : (l.flatMap g).length = l.length * sz := flat_len fun a _ => hg.size a
  have hone : (m.flatMap g).all AV.one = true := all_flatMap_one fun a _ => hg.one a
  rcases h with ⟨rfl, rfl⟩ | ⟨o, rfl, h2⟩
  · have hr' : roomy m.length = true := by simpa [roomy] using hr
    simp only [aapp, hl, hn, if_neg hm0, hmf, hone, and_self, if_true, hr']
    simp [Den.kill]
  · have hlt : o < H.length := (List.getElem?_eq_some_iff.1 h2).1
    have hH : (H ++ B)[o]? = some (.cells (l.flatMap g) e true) := getElem?_keep h2
    have hr' : roomy (l.length + m.length) = true := by simpa [roomy] using hr
    simp only [aapp, hl, hn, if_neg hm0, hmf, hone, and_self, if_true, hH, hr']
    simp [hlf, List.take_of_length_le, List.set_append_left _ _ hlt, Den.kill]
theorem keepOld_kill (n : Nat) : ∀ (H X : Heap) (v : AV), keepOld n H (Den.kill v H ++ X) = true
  | H, X, v => by
    unfold Den.kill
    split
    · exact keepOld_set n .dead rfl H _ X
    · exact keepOld_append n H X
/-- Behind the call. -/
theorem own_tidy (hg : Cel sz g) {k n : Nat} (hX : X[k]? = some (.cells ((l ++ m).flatMap g) e true)) (hn : n = l.length + m.length) (hm : m ≠ []) (hw : whole e = false := by decide) : tidy H (.sl (H.length + k) 0 n sz none) (Den.kill v H ++ X) = grow e sz g v H l m := by
  subst hn
  have hfl : ((l ++ m).flatMap g).all AV.flat = true := by
    simp only [List.all_flatMap, List.all_eq_true]
    exact fun a _ => by simpa using hg.flat a
  have hlm : ((l ++ m).flatMap g).length = (l.length + m.length) * sz := by rw [flat_len fun a _ => hg.size a, List.length_append]
  have hH : (Den.kill v H ++ X)[H.length + k]? = some (.cells ((l ++ m).flatMap g) e true) := by
    rw [List.getElem?_append_right (by rw [kill_length]; omega), kill_length, Nat.add_sub_cancel_left]; exact hX
  have hc : (AV.sl (H.length + k) 0 (l.length + m.length) sz none).carry H.length (Den.kill v H ++ X) ([], []) = some (.sl (H.length + 0) 0 (l.length + m.length) sz none, [H.length + k], [.cells ((l ++ m).flatMap g) e true]) := by
    simp only [AV.carry]
    rw [if_neg (by omega)]
    simp only [hH]
    have ht : List.take ((l.length + m.length) * sz) ((l ++ m).flatMap g) = (l ++ m).flatMap g := List.take_of_length_le (by omega)
    have hge : (l.length + m.length) * sz ≤ ((l ++ m).flatMap g).length := by omega
    simp only [List.drop_zero, ht, unders, leadss_flat hfl, Nat.zero_add, hge, hw, Bool.true_or, List.contains_nil, and_self, if_true, List.length_nil, List.nil_append]
  simp only [tidy, keepOld_kill, if_true, hc, Nat.add_zero, grow, if_neg hm]
  rw [List.take_append_of_le_length (by rw [kill_length]; exact Nat.le_refl _), List.take_of_length_le (by rw [kill_length]; exact Nat.le_refl _)]
theorem own_tidy0 (h : Own H e sz g v l) : tidy H v (H ++ X) = (v, H) := by
  rcases h with ⟨rfl, rfl⟩ | ⟨o, rfl, h2⟩
  · exact tidy_flat rfl
  · have hlt : o < H.length := (List.getElem?_eq_some_iff.1 h2).1
    simp [tidy, keepOld_append, AV.carry, hlt]
theorem own_sl (hg : Cel sz g) (h : Own H e sz g v l) : SlOf H sz g v l := by
  rcases h with ⟨rfl, rfl⟩ | ⟨o, rfl, h2⟩
  · exact SlOf.nils hg.pos
  · refine ⟨rfl, fun a _ => hg.size a, hg.pos, .inl ⟨o, 0, none, l.flatMap g, rfl, by simp [arow, h2], ?_, ?_⟩⟩
    · rw [List.drop_zero, List.take_of_length_le (by rw [flat_len fun a _ => hg.size a]; exact Nat.le_refl _)]
    · rw [flat_len fun a _ => hg.size a]; omega
end
theorem grow_some {α : Type} {e : TypeId} {sz : Nat} {g : α → List AV} {v : AV} {H : Heap} {l m : List α} (h : m ≠ []) : grow e sz g v H l m = (.sl H.length 0 (l.length + m.length) sz none, kill v H ++ [.cells ((l ++ m).flatMap g) e true]) := if_neg h
theorem kill_nils {H : Heap} : kill .nils H = H := _root_.id rfl
/-- A heap of the same length, in the place of another one. -/
theorem asK {H K : Heap} (h : K.length = H.length) :
    (∀ n o off X, aload (K ++ X) n (.ptr (H.length + o) off) = aload X n (.ptr o off)) ∧ (∀ n off X, aload (K ++ X) n (.ptr H.length off) = aload X n (.ptr 0 off)) ∧
    (∀ c o off X, astore (K ++ X) (.ptr (H.length + o) off) c = (astore X (.ptr o off) c).map (K ++ ·)) ∧ (∀ c off X, astore (K ++ X) (.ptr H.length off) c = (astore X (.ptr 0 off) c).map (K ++ ·)) ∧
    (∀ k X, (K ++ X).drop (H.length + k) = X.drop k) ∧ (∀ X, (K ++ X).drop H.length = X) ∧ (∀ k X, (K ++ X).take (H.length + k) = K ++ X.take k) ∧
    (∀ u i a c m X, veil u ((i, H.length + a, c) :: m) (K ++ X) = veil u m (K ++ if u.contains i = true then X.take a ++ (List.replicate c .dead ++ X.drop (a + c)) else X)) ∧
    (∀ o X Y, sameAt (H.length + o) (H ++ X) (K ++ Y) = sameAt o X Y) ∧ (∀ X Y, sameAt H.length (H ++ X) (K ++ Y) = sameAt 0 X Y) ∧
    (∀ o X Y, sameAt (H.length + o) (K ++ X) (K ++ Y) = sameAt o X Y) ∧ (∀ X Y, sameAt H.length (K ++ X) (K ++ Y) = sameAt 0 X Y) ∧ K.length = H.length := by
  refine ⟨fun n o off X => by rw [← h, aload_end], fun n off X => by rw [← h, aload_end0], fun c o off X => by rw [← h, astore_end], fun c off X => by rw [← h, astore_end0],
    fun k X => by rw [← h, drop_app], fun X => by rw [← h, drop_app0], fun k X => by rw [← h, take_app], fun u i a c m X => by rw [← h, veil_off],
    fun o X Y => sameAt_endK h, fun X Y => sameAt_endK0 h, fun o X Y => by rw [← h, sameAt_end], fun X Y => by rw [← h, sameAt_end0], h⟩
/-- Heaps of one length: what lies behind them. -/
theorem fam {α : Type} {B : α → Heap} {N : Nat} (h : ∀ a, (B a).length = N) :
    (∀ a n o off X, aload (B a ++ X) n (.ptr (N + o) off) = aload X n (.ptr o off)) ∧ (∀ a n off X, aload (B a ++ X) n (.ptr N off) = aload X n (.ptr 0 off)) ∧
    (∀ a c o off X, astore (B a ++ X) (.ptr (N + o) off) c = (astore X (.ptr o off) c).map (B a ++ ·)) ∧ (∀ a c off X, astore (B a ++ X) (.ptr N off) c = (astore X (.ptr 0 off) c).map (B a ++ ·)) ∧
    (∀ a k X, (B a ++ X).drop (N + k) = X.drop k) ∧ (∀ a X, (B a ++ X).drop N = X) ∧ (∀ a k X, (B a ++ X).take (N + k) = B a ++ X.take k) ∧
    (∀ a u i b c m X, veil u ((i, N + b, c) :: m) (B a ++ X) = veil u m (B a ++ if u.contains i = true then X.take b ++ (List.replicate c .dead ++ X.drop (b + c)) else X)) ∧
    (∀ a b o X Y, sameAt (N + o) (B a ++ X) (B b ++ Y) = sameAt o X Y) ∧ (∀ a b X Y, sameAt N (B a ++ X) (B b ++ Y) = sameAt 0 X Y) ∧ (∀ a, (B a).length = N) := by
  refine ⟨fun a n o off X => by rw [← h a, aload_end], fun a n off X => by rw [← h a, aload_end0], fun a c o off X => by rw [← h a, astore_end], fun a c off X => by rw [← h a, astore_end0],
    fun a k X => by rw [← h a, drop_app], fun a X => by rw [← h a, drop_app0], fun a k X => by rw [← h a, take_app], fun a u i b c m X => by rw [← h a, veil_off],
    fun a b o X Y => ?_, fun a b X Y => ?_, h⟩
  · rw [← h a]; exact sameAt_endK (by rw [h, h])
  · rw [← h a]; exact sameAt_endK0 (by rw [h, h])
/-- To append to a slice of which all room is taken. -/
theorem app_full {α : Type} {H : Heap} {e : TypeId} {sz : Nat} {g : α → List AV} {l m : List α} {o : Nat} {w : Bool} {x : AV} (hg : Cel sz g) (hrow : H[o]? = some (.cells (l.flatMap g) e w)) (hm : m ≠ []) (hl : alen x = some m.length) (hn : newOf H sz x = some (m.flatMap g)) (hr : l.length + m.length ≤ 4294967296) :
    aapp H e sz (.sl o 0 l.length sz (some l.length)) x = some (.sl H.length 0 (l.length + m.length) sz none, H ++ [.cells ((l ++ m).flatMap g) e true]) := by
  have hm0 : m.length ≠ 0 := by simpa using hm
  have hmf : (m.flatMap g).length = m.length * sz := flat_len fun a _ => hg.size a
  have hlf : (l.flatMap g).length = l.length * sz := flat_len fun a _ => hg.size a
  have hone : (m.flatMap g).all AV.one = true := all_flatMap_one fun a _ => hg.one a
  have hr' : roomy (l.length + m.length) = true := by simpa [roomy] using hr
  simp only [aapp, hl, hn, if_neg hm0, hmf, hone, and_self, if_true, hrow, hr']
  simp [hlf, List.take_of_length_le, show m.length > 0 by omega]
theorem carry_tup {n : Nat} {H1 : Heap} {m : Moved} {c : List AV} : (AV.tup c).carry n H1 m = (carries n H1 m c).map fun r => (.tup r.1, r.2) := by simp only [AV.carry]
theorem carries_cons {n : Nat} {H1 : Heap} {m : Moved} {a : AV} {l : List AV} : carries n H1 m (a :: l) = (a.carry n H1 m).bind fun r => (carries n H1 r.2 l).map fun q => (r.1 :: q.1, q.2) := by simp only [carries]
/-- A slice in new memory, first of what a call comes to. -/
theorem tidy_sl {H X : Heap} {k off len sz : Nat} {cap : Option Nat} {l : List AV} {e : TypeId} {w : Bool} {r : List AV} (hX : X[k]? = some (.cells l e w)) (hl : l.all AV.flat = true) (hlen : off + len * sz ≤ l.length) (hr : r.all AV.still = true) (hw : whole e = false ∧ w = true := by decide) :
    tidy H (.tup (.sl (H.length + k) off len sz cap :: r)) (H ++ X) = (.tup (.sl H.length 0 len sz cap :: r), H ++ [.cells ((l.drop off).take (len * sz)) e w]) := by
  have hH : (H ++ X)[H.length + k]? = some (.cells l e w) := by
    rw [List.getElem?_append_right (by omega), Nat.add_sub_cancel_left]; exact hX
  have hfl : ((l.drop off).take (len * sz)).all AV.flat = true := by
    simp only [List.all_eq_true] at hl ⊢
    exact fun a ha => hl a (List.mem_of_mem_drop (List.mem_of_mem_take ha))
  have hc : (AV.sl (H.length + k) off len sz cap).carry H.length (H ++ X) ([], []) = some (.sl (H.length + 0) 0 len sz cap, [H.length + k], [.cells ((l.drop off).take (len * sz)) e w]) := by
    simp only [AV.carry]
    rw [if_neg (by omega)]
    simp only [hH, unders, leadss_flat hfl, hlen, hw.1, hw.2, Bool.true_or, List.contains_nil, and_self, if_true, List.length_nil, List.nil_append]
  simp only [tidy, keepOld_append, if_true, carry_tup, carries_cons, hc, carries_still hr, Option.bind_some, Option.map_some, Nat.add_zero]
  rw [List.take_append_of_le_length (Nat.le_refl _), List.take_length]
theorem tidy_sl1 {H X : Heap} {k off len sz : Nat} {cap : Option Nat} {l : List AV} {e : TypeId} {w : Bool} (hX : X[k]? = some (.cells l e w)) (hl : l.all AV.flat = true) (hlen : off + len * sz ≤ l.length) (hw : whole e = false ∧ w = true := by decide) :
    tidy H (.sl (H.length + k) off len sz cap) (H ++ X) = (.sl H.length 0 len sz cap, H ++ [.cells ((l.drop off).take (len * sz)) e w]) := by
  have hH : (H ++ X)[H.length + k]? = some (.cells l e w) := by
    rw [List.getElem?_append_right (by omega), Nat.add_sub_cancel_left]; exact hX
  have hfl : ((l.drop off).take (len * sz)).all AV.flat = true := by
    simp only [List.all_eq_true] at hl ⊢
    exact fun a ha => hl a (List.mem_of_mem_drop (List.mem_of_mem_take ha))
  have hc : (AV.sl (H.length + k) off len sz cap).carry H.length (H ++ X) ([], []) = some (.sl (H.length + 0) 0 len sz cap, [H.length + k], [.cells ((l.drop off).take (len * sz)) e w]) := by
    simp only [AV.carry]
    rw [if_neg (by omega)]
    simp only [hH, unders, leadss_flat hfl, hlen, hw.1, hw.2, Bool.true_or, List.contains_nil, and_self, if_true, List.length_nil, List.nil_append]
  simp only [tidy, keepOld_append, if_true, hc, Nat.add_zero]
  rw [List.take_append_of_le_length (Nat.le_refl _), List.take_length]
theorem wrap_l0 : IntKind.i64.wrap 0 = 0 := wrap_i64 (by decide) (by decide)
theorem wrap_l1 : IntKind.i64.wrap 1 = 1 := wrap_i64 (by decide) (by decide)
theorem wrap_l2 : IntKind.i64.wrap 2 = 2 := wrap_i64 (by decide) (by decide)
theorem wrap_l3 : IntKind.i64.wrap 3 = 3 := wrap_i64 (by decide) (by decide)
theorem wrap_l4 : IntKind.i64.wrap 4 = 4 := wrap_i64 (by decide) (by decide)
theorem wrap_l5 : IntKind.i64.wrap 5 = 5 := wrap_i64 (by decide) (by decide)
theorem wrap_l6 : IntKind.i64.wrap 6 = 6 := wrap_i64 (by decide) (by decide)
theorem wrap_l7 : IntKind.i64.wrap 7 = 7 := wrap_i64 (by decide) (by decide)
theorem wrap_l8 : IntKind.i64.wrap 8 = 8 := wrap_i64 (by decide) (by decide)
theorem wrap_l9 : IntKind.i64.wrap 9 = 9 := wrap_i64 (by decide) (by decide)
theorem wrap_l10 : IntKind.i64.wrap 10 = 10 := wrap_i64 (by decide) (by decide)
/-- Behind a law's call: nothing was there before it. -/
theorem tidy_law {X : Heap} {b : Bool} : tidy [] (.bool b) X = (.bool b, []) := by
  have := @tidy_flat [] X (.bool b) rfl
  simpa using this
theorem tidy_agg' {H X : Heap} {l : List AV} (h : l.all AV.flat = true) : tidy H (.agg l) (H ++ X) = (.agg l, H) := tidy_agg h
theorem tidy_tup' {H X : Heap} {l : List AV} (h : l.all AV.flat = true) : tidy H (.tup l) (H ++ X) = (.tup l, H) := tidy_tup h
end Go.Den

/- The rewriting rules, laid together. -/
set_option linter.unusedVariables false
namespace Go.Den
open Go
theorem R1 : (type_of% @ends_seq) ∧ (type_of% @ends_reg) ∧ (type_of% @ends_regd) ∧ (type_of% @ends_skip) ∧ (type_of% @ends_exit) ∧ (type_of% @ends_ret) ∧ (type_of% @ends_cond') ∧ (type_of% @endsIf_true) ∧ (type_of% @endsIf_false) ∧ (type_of% @ends_block) ∧ (type_of% @onward_normal) ∧ (type_of% @onward_exit) ∧ (type_of% @onward_ret) ∧ (type_of% @blocked_normal) ∧ (type_of% @blocked_exit) ∧ (type_of% @blocked_ret) ∧ (type_of% @mid_normal) ∧ (type_of% @mid_exit) ∧ (type_of% @mid_ret) ∧ (type_of% @looped_normal) ∧ (type_of% @looped_exit) ∧ (type_of% @looped_ret) ∧ (type_of% @again_normal) ∧ (type_of% @again_exit) ∧ (type_of% @again_ret) ∧ (type_of% @gets_some) ∧ (type_of% @left_ret) ∧ (type_of% @left_normal) ∧ (type_of% @res_many) ∧ (type_of% @resList_nil) ∧ (type_of% @resList_cons) ∧ (type_of% @consRes_some) ∧ (type_of% @result1_tmp) ∧ (type_of% @result1_cells) ∧ (type_of% @result1_cell) ∧ (type_of% @res_cells) ∧ (type_of% @res_cell) ∧ (type_of% @res0) ∧ (type_of% @res1) ∧ (type_of% @res2) :=
  ⟨@ends_seq, @ends_reg, @ends_regd, @ends_skip, @ends_exit, @ends_ret, @ends_cond', @endsIf_true, @endsIf_false, @ends_block, @onward_normal, @onward_exit, @onward_ret, @blocked_normal, @blocked_exit, @blocked_ret, @mid_normal, @mid_exit, @mid_ret, @looped_normal, @looped_exit, @looped_ret, @again_normal, @again_exit, @again_ret, @gets_some, @left_ret, @left_normal, @res_many, @resList_nil, @resList_cons, @consRes_some, @result1_tmp, @result1_cells, @result1_cell, @res_cells, @res_cell, @res0, @res1, @res2⟩
theorem R2 : (type_of% @res3) ∧ (type_of% @ops_n) ∧ (type_of% @ops_g) ∧ (type_of% @guard_true) ∧ (type_of% @guard_false) ∧ (type_of% @then_some) ∧ (type_of% @ops_nil) ∧ (type_of% @opsd_n) ∧ (type_of% @opsd_a) ∧ (type_of% @thenAllA_some) ∧ (type_of% @apartAll_nil) ∧ (type_of% @apartAll_n) ∧ (type_of% @rowKept_same) ∧ (type_of% @rowKept_ptr) ∧ (type_of% @rowKept_pv) ∧ (type_of% @rowKept_all) ∧ (type_of% @sameAt_same) ∧ (type_of% @sameAt_end) ∧ (type_of% @sameAt_end0) ∧ (type_of% @sameAt_zero) ∧ (type_of% @sameAt_suc) ∧ (type_of% @opsd_u) ∧ (type_of% @opsd_g) ∧ (type_of% @guardd_all) ∧ (type_of% @guardd_some) ∧ (type_of% @guardd_false) ∧ (type_of% @thenAll_some) ∧ (type_of% @thenSome_some) ∧ (type_of% @opsd_nil) ∧ (type_of% @wants_none) ∧ (type_of% @wants_at) ∧ (type_of% @wantsV_undef) ∧ (type_of% @wantsV_true) ∧ (type_of% @wantsV_false) ∧ (type_of% @sop_fcall) ∧ (type_of% @sop_mv) ∧ (type_of% @sop_pick) ∧ (type_of% @sop_box) ∧ (type_of% @sop_build) ∧ (type_of% @sop_bsl) :=
  ⟨@res3, @ops_n, @ops_g, @guard_true, @guard_false, @then_some, @ops_nil, @opsd_n, @opsd_a, @thenAllA_some, @apartAll_nil, @apartAll_n, @rowKept_same, @rowKept_ptr, @rowKept_pv, @rowKept_all, @sameAt_same, @sameAt_end, @sameAt_end0, @sameAt_zero, @sameAt_suc, @opsd_u, @opsd_g, @guardd_all, @guardd_some, @guardd_false, @thenAll_some, @thenSome_some, @opsd_nil, @wants_none, @wants_at, @wantsV_undef, @wantsV_true, @wantsV_false, @sop_fcall, @sop_mv, @sop_pick, @sop_box, @sop_build, @sop_bsl⟩
theorem R3 : (type_of% @sop_load) ∧ (type_of% @sop_store) ∧ (type_of% @sop_nilck) ∧ (type_of% @sop_bin) ∧ (type_of% @sop_eqs) ∧ (type_of% @sop_un) ∧ (type_of% @sop_conv) ∧ (type_of% @sop_b2s) ∧ (type_of% @sop_s2b) ∧ (type_of% @sop_mkfn) ∧ (type_of% @sop_mksl) ∧ (type_of% @sop_slc) ∧ (type_of% @sop_faddr) ∧ (type_of% @sop_fld) ∧ (type_of% @sop_iaddr) ∧ (type_of% @sop_iarr) ∧ (type_of% @sop_ixs) ∧ (type_of% @sop_ixa) ∧ (type_of% @sop_extract) ∧ (type_of% @sop_app) ∧ (type_of% @sop_len) ∧ (type_of% @sop_copy) ∧ (type_of% @sop_mnmx) ∧ (type_of% @pick_true) ∧ (type_of% @pick_false) ∧ (type_of% @pick_or) ∧ (type_of% @pick_and) ∧ (type_of% @extract_0) ∧ (type_of% @extract_1) ∧ (type_of% @extract_2) ∧ (type_of% @extract_3) ∧ (type_of% @len_sl) ∧ (type_of% @len_vs) ∧ (type_of% @len_nils) ∧ (type_of% @len_str) ∧ (type_of% @conv_int) ∧ (type_of% @not_bool) ∧ (type_of% @neg_int) ∧ (type_of% @mnmx_int) ∧ (type_of% @nilck_ptr) :=
  ⟨@sop_load, @sop_store, @sop_nilck, @sop_bin, @sop_eqs, @sop_un, @sop_conv, @sop_b2s, @sop_s2b, @sop_mkfn, @sop_mksl, @sop_slc, @sop_faddr, @sop_fld, @sop_iaddr, @sop_iarr, @sop_ixs, @sop_ixa, @sop_extract, @sop_app, @sop_len, @sop_copy, @sop_mnmx, @pick_true, @pick_false, @pick_or, @pick_and, @extract_0, @extract_1, @extract_2, @extract_3, @len_sl, @len_vs, @len_nils, @len_str, @conv_int, @not_bool, @neg_int, @mnmx_int, @nilck_ptr⟩
theorem R4 : (type_of% @nilck_pv) ∧ (type_of% @faddr_ptr) ∧ (type_of% @faddr_pv) ∧ (type_of% @bin_add) ∧ (type_of% @bin_sub) ∧ (type_of% @bin_mul) ∧ (type_of% @bin_quo) ∧ (type_of% @bin_rem) ∧ (type_of% @bin_eql) ∧ (type_of% @bin_neq) ∧ (type_of% @bin_lss) ∧ (type_of% @bin_leq) ∧ (type_of% @bin_gtr) ∧ (type_of% @bin_geq) ∧ (type_of% @bin_and) ∧ (type_of% @bin_or) ∧ (type_of% @bin_xor) ∧ (type_of% @bin_andNot) ∧ (type_of% @sop_slstr) ∧ (type_of% @sop_mkmap) ∧ (type_of% @sop_lookup) ∧ (type_of% @sop_mapup) ∧ (type_of% @sop_mapent) ∧ (type_of% @sop_entst) ∧ (type_of% @sop_mlen) ∧ (type_of% @sop_s2r) ∧ (type_of% @mkmap_new) ∧ (type_of% @s2r_str) ∧ (type_of% @astore_zeroR) ∧ (type_of% @aload_zeroR) ∧ (type_of% @leads_mp) ∧ (type_of% @mkS_size) ∧ (type_of% @mkS_data) ∧ (type_of% @str_lit) ∧ (type_of% @bin_eqs) ∧ (type_of% @bin_nes) ∧ (type_of% @bound_nat) ∧ (type_of% @bound_int) ∧ (type_of% @strCells_mkS) ∧ (type_of% @u8s_len) :=
  ⟨@nilck_pv, @faddr_ptr, @faddr_pv, @bin_add, @bin_sub, @bin_mul, @bin_quo, @bin_rem, @bin_eql, @bin_neq, @bin_lss, @bin_leq, @bin_gtr, @bin_geq, @bin_and, @bin_or, @bin_xor, @bin_andNot, @sop_slstr, @sop_mkmap, @sop_lookup, @sop_mapup, @sop_mapent, @sop_entst, @sop_mlen, @sop_s2r, @mkmap_new, @s2r_str, @astore_zeroR, @aload_zeroR, @leads_mp, @mkS_size, @mkS_data, @str_lit, @bin_eqs, @bin_nes, @bound_nat, @bound_int, @strCells_mkS, @u8s_len⟩
theorem R5 : (type_of% @u8s_one) ∧ (type_of% @tidy_tup0) ∧ (type_of% @tidy_bool0) ∧ (type_of% @tidy_law) ∧ (type_of% @wrap_l0) ∧ (type_of% @wrap_l1) ∧ (type_of% @wrap_l2) ∧ (type_of% @wrap_l3) ∧ (type_of% @wrap_l4) ∧ (type_of% @wrap_l5) ∧ (type_of% @wrap_l6) ∧ (type_of% @wrap_l7) ∧ (type_of% @wrap_l8) ∧ (type_of% @wrap_l9) ∧ (type_of% @wrap_l10) ∧ (type_of% @ixs_str) ∧ (type_of% @iarr_ptr) ∧ (type_of% @iarr_pv) ∧ (type_of% @iaddr_sl) ∧ (type_of% @ixa_n) ∧ (type_of% @ixa_1) ∧ (type_of% @s2b_str) ∧ (type_of% @bin_shl_le) ∧ (type_of% @bin_shr_le) ∧ (type_of% @afold_max) ∧ (type_of% @afold_min) ∧ (type_of% @afold_nil) ∧ (type_of% @evb_none) ∧ (type_of% @evb_some) ∧ (type_of% @load_n) ∧ (type_of% @load_1) ∧ (type_of% @one_1) ∧ (type_of% @store_n) ∧ (type_of% @new_l) ∧ (type_of% @astore_end) ∧ (type_of% @astore_end0) ∧ (type_of% @astore_suc) ∧ (type_of% @astore_zero) ∧ (type_of% @aload_end) ∧ (type_of% @aload_end0) :=
  ⟨@u8s_one, @tidy_tup0, @tidy_bool0, @tidy_law, @wrap_l0, @wrap_l1, @wrap_l2, @wrap_l3, @wrap_l4, @wrap_l5, @wrap_l6, @wrap_l7, @wrap_l8, @wrap_l9, @wrap_l10, @ixs_str, @iarr_ptr, @iarr_pv, @iaddr_sl, @ixa_n, @ixa_1, @s2b_str, @bin_shl_le, @bin_shr_le, @afold_max, @afold_min, @afold_nil, @evb_none, @evb_some, @load_n, @load_1, @one_1, @store_n, @new_l, @astore_end, @astore_end0, @astore_suc, @astore_zero, @aload_end, @aload_end0⟩
theorem R6 : (type_of% @aload_suc) ∧ (type_of% @aload_zero) ∧ (type_of% @evx_v) ∧ (type_of% @evx_t) ∧ (type_of% @tm_put) ∧ (type_of% @put_none) ∧ (type_of% @tm_get) ∧ (type_of% @tm_length) ∧ (type_of% @blank_length) ∧ (type_of% @blank_get) ∧ (type_of% @look_hit) ∧ (type_of% @look_on) ∧ (type_of% @look_nil) ∧ (type_of% @drop_app) ∧ (type_of% @drop_app0) ∧ (type_of% @take_app) ∧ (type_of% @take_app0) ∧ (type_of% @veil_nil) ∧ (type_of% @shun_nil) ∧ (type_of% @shun_cons) ∧ (type_of% @inRows_off) ∧ (type_of% @inRows_off0) ∧ (type_of% @inRows_at) ∧ (type_of% @inRows_at0) ∧ (type_of% @veil_off) ∧ (type_of% @veil_at) ∧ (type_of% @leads_ptr) ∧ (type_of% @leads_sl) ∧ (type_of% @leads_int) ∧ (type_of% @leads_bool) ∧ (type_of% @leads_str) ∧ (type_of% @leads_nils) ∧ (type_of% @leads_nilp) ∧ (type_of% @leads_pv) ∧ (type_of% @leads_vs) ∧ (type_of% @leads_undef) ∧ (type_of% @leads_agg) ∧ (type_of% @leads_tup) ∧ (type_of% @leadss_nil) ∧ (type_of% @leadss_cons) :=
  ⟨@aload_suc, @aload_zero, @evx_v, @evx_t, @tm_put, @put_none, @tm_get, @tm_length, @blank_length, @blank_get, @look_hit, @look_on, @look_nil, @drop_app, @drop_app0, @take_app, @take_app0, @veil_nil, @shun_nil, @shun_cons, @inRows_off, @inRows_off0, @inRows_at, @inRows_at0, @veil_off, @veil_at, @leads_ptr, @leads_sl, @leads_int, @leads_bool, @leads_str, @leads_nils, @leads_nilp, @leads_pv, @leads_vs, @leads_undef, @leads_agg, @leads_tup, @leadss_nil, @leadss_cons⟩
theorem R7 : (type_of% @leads_cells) ∧ (type_of% @contains_nil) ∧ (type_of% @contains_cons) ∧ (type_of% @addMade_off) ∧ (type_of% @addMade_0) ∧ (type_of% @addMade_same) ∧ (type_of% @sameH_refl) ∧ (type_of% @List.map_cons.{0,0}) ∧ (type_of% @List.map_nil.{0,0}) ∧ (type_of% @List.all_cons.{0}) ∧ (type_of% @List.all_nil.{0}) ∧ (type_of% @List.length_cons.{0}) ∧ (type_of% @List.length_nil.{0}) ∧ (type_of% @List.length_append.{0}) ∧ (type_of% @List.append_assoc.{0}) ∧ (type_of% @List.cons_append.{0}) ∧ (type_of% @List.nil_append.{0}) ∧ (type_of% @List.append_nil.{0}) ∧ (type_of% @List.drop_succ_cons.{0}) ∧ (type_of% @List.drop_zero.{0}) ∧ (type_of% @List.drop_length.{0}) ∧ (type_of% @List.take_length.{0}) ∧ (type_of% @List.take_succ_cons.{0}) ∧ (type_of% @List.take_zero.{0}) ∧ (type_of% @List.drop_nil.{0}) ∧ (type_of% @List.take_nil.{0}) ∧ (type_of% @bind_on) ∧ (type_of% @map_on) ∧ (type_of% @Option.getD_some.{0}) ∧ (type_of% @Option.getD_none.{0}) ∧ (type_of% @Nat.add_zero) ∧ (type_of% @Nat.zero_add) ∧ (type_of% @Nat.le_refl) ∧ (type_of% @Nat.le_add_right) ∧ (type_of% @Bool.and_true) ∧ (type_of% @Bool.true_and) ∧ (type_of% @Bool.not_true) ∧ (type_of% @Bool.not_false) ∧ (type_of% @Bool.false_eq_true) ∧ (type_of% @true_and) :=
  ⟨@leads_cells, @contains_nil, @contains_cons, @addMade_off, @addMade_0, @addMade_same, @sameH_refl, @List.map_cons.{0,0}, @List.map_nil.{0,0}, @List.all_cons.{0}, @List.all_nil.{0}, @List.length_cons.{0}, @List.length_nil.{0}, @List.length_append.{0}, @List.append_assoc.{0}, @List.cons_append.{0}, @List.nil_append.{0}, @List.append_nil.{0}, @List.drop_succ_cons.{0}, @List.drop_zero.{0}, @List.drop_length.{0}, @List.take_length.{0}, @List.take_succ_cons.{0}, @List.take_zero.{0}, @List.drop_nil.{0}, @List.take_nil.{0}, @bind_on, @map_on, @Option.getD_some.{0}, @Option.getD_none.{0}, @Nat.add_zero, @Nat.zero_add, @Nat.le_refl, @Nat.le_add_right, @Bool.and_true, @Bool.true_and, @Bool.not_true, @Bool.not_false, @Bool.false_eq_true, @true_and⟩
theorem R8 : (type_of% @and_true) ∧ (type_of% @and_self) ∧ (type_of% @true_implies) ∧ (type_of% @false_implies) ∧ (type_of% @decide_eq_true_eq) ∧ (type_of% @decide_true) ∧ (type_of% @decide_false) ∧ (type_of% @Int.toNat_natCast) ∧ (type_of% @Int.natCast_nonneg) ∧ (type_of% @Int.cast_ofNat_Int) ∧ (type_of% @Int.one_mul) ∧ (type_of% @Nat.mul_one) ∧ (type_of% @Nat.mul_zero) ∧ (type_of% @Nat.zero_mul) ∧ (type_of% @bits_u8) ∧ (type_of% @bits_u16) ∧ (type_of% @bits_u32) ∧ (type_of% @bits_u64) ∧ (type_of% @bits_i64) ∧ (type_of% @Int.ofNat_eq_natCast) ∧ (type_of% @beq_self_eq_true.{0}) ∧ (type_of% @Bool.not_eq_true') ∧ (type_of% @Bool.true_or) ∧ (type_of% @Bool.or_false) ∧ (type_of% @Bool.false_or) ∧ (type_of% @Bool.or_true) ∧ (type_of% @Bool.false_and) ∧ (type_of% @Bool.and_false) :=
  ⟨@and_true, @and_self, @true_implies, @false_implies, @decide_eq_true_eq, @decide_true, @decide_false, @Int.toNat_natCast, @Int.natCast_nonneg, @Int.cast_ofNat_Int, @Int.one_mul, @Nat.mul_one, @Nat.mul_zero, @Nat.zero_mul, @bits_u8, @bits_u16, @bits_u32, @bits_u64, @bits_i64, @Int.ofNat_eq_natCast, @beq_self_eq_true.{0}, @Bool.not_eq_true', @Bool.true_or, @Bool.or_false, @Bool.false_or, @Bool.or_true, @Bool.false_and, @Bool.and_false⟩
end Go.Den
