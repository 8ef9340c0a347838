/- Chords of curves, in plain Lean. -/
import Init
set_option linter.unusedVariables false
namespace Go.Proofs.Ythfpndelfbeknaa
structure Pt where
  x : Int
  y : Int
  deriving DecidableEq
structure Edge where
  n : Int
  quad : Bool
  a : Pt
  b : Pt
  c : Pt
  deriving DecidableEq
def Pt.add (p q : Pt) : Pt := ⟨p.x + q.x, p.y + q.y⟩
def Pt.mul (k : Int) (p : Pt) : Pt := ⟨k * p.x, k * p.y⟩
def mid (e : Edge) : Pt := if e.quad then ⟨e.a.x + 2 * e.b.x + e.c.x, e.a.y + 2 * e.b.y + e.c.y⟩ else ⟨2 * e.a.x + 2 * e.c.x, 2 * e.a.y + 2 * e.c.y⟩
def h1 (e : Edge) : Edge := ⟨e.n, e.quad, e.a.mul 4, if e.quad then ⟨2 * (e.a.x + e.b.x), 2 * (e.a.y + e.b.y)⟩ else e.b, mid e⟩
def h2 (e : Edge) : Edge := ⟨e.n, e.quad, mid e, if e.quad then ⟨2 * (e.b.x + e.c.x), 2 * (e.b.y + e.c.y)⟩ else e.b, e.c.mul 4⟩
def rowP : Nat → Edge → List Pt
  | 0, e => [e.a]
  | k + 1, e => rowP k (h1 e) ++ rowP k (h2 e)
def chordsP (k : Nat) (e : Edge) : List Pt := rowP k e ++ [e.c.mul (4 ^ k)]
def bentX (e : Edge) : Int := if e.quad then e.a.x + e.c.x - 2 * e.b.x else 0
def bentY (e : Edge) : Int := if e.quad then e.a.y + e.c.y - 2 * e.b.y else 0
theorem rowP_len : ∀ (k : Nat) (e : Edge), (rowP k e).length = 2 ^ k
  | 0, e => rfl
  | k + 1, e => by simp only [rowP, List.length_append, rowP_len k, Nat.pow_succ]; omega
theorem chordsP_len (k : Nat) (e : Edge) : (chordsP k e).length = 2 ^ k + 1 := by simp [chordsP, rowP_len]
theorem bent_h1 (e : Edge) : bentX (h1 e) = bentX e ∧ bentY (h1 e) = bentY e := by
  unfold bentX bentY h1 mid Pt.mul
  cases e.quad <;> simp <;> constructor <;> omega
theorem bent_h2 (e : Edge) : bentX (h2 e) = bentX e ∧ bentY (h2 e) = bentY e := by
  unfold bentX bentY h2 mid Pt.mul
  cases e.quad <;> simp <;> constructor <;> omega
theorem row_first : ∀ (k : Nat) (e : Edge), (rowP k e)[0]? = some (e.a.mul (4 ^ k))
  | 0, e => by simp [rowP, Pt.mul]
  | k + 1, e => by
    have := row_first k (h1 e)
    simp only [rowP]
    rw [List.getElem?_append_left (by rw [rowP_len]; exact Nat.two_pow_pos k), this]
    simp only [h1, Pt.mul, Option.some.injEq, Pt.mk.injEq]
    constructor <;> (rw [Int.pow_succ]; rw [Int.mul_assoc])
theorem chords_split (k : Nat) (e : Edge) : chordsP (k + 1) e = rowP k (h1 e) ++ chordsP k (h2 e) := by
  simp only [chordsP, rowP, List.append_assoc]
  congr 3
  simp only [h2, Pt.mul, Pt.mk.injEq]
  constructor <;> (rw [Int.pow_succ]; rw [Int.mul_assoc])
/-- every other chord ends where those of a depth less do. -/
theorem every_other : ∀ (k : Nat) (e : Edge) (j : Nat) (p : Pt), (rowP k e)[j]? = some p → (rowP (k + 1) e)[2 * j]? = some (p.mul 4)
  | 0, e, j, p, h => by
    cases j with
    | zero => simp [rowP] at h; subst h; simp [rowP, h1]
    | succ j => simp [rowP] at h
  | k + 1, e, j, p, h => by
    have hr : rowP (k + 1 + 1) e = rowP (k + 1) (h1 e) ++ rowP (k + 1) (h2 e) := rfl
    rw [hr]
    have hr' : rowP (k + 1) e = rowP k (h1 e) ++ rowP k (h2 e) := rfl
    rw [hr'] at h
    have l1 := rowP_len k (h1 e)
    have l2 := rowP_len (k + 1) (h1 e)
    have hp : 2 ^ (k + 1) = 2 * 2 ^ k := by rw [Nat.pow_succ]; omega
    by_cases hj : j < 2 ^ k
    · rw [List.getElem?_append_left (by omega)] at h
      rw [List.getElem?_append_left (by omega)]
      exact every_other k (h1 e) j p h
    · rw [List.getElem?_append_right (by omega), l1] at h
      rw [List.getElem?_append_right (by omega), l2]
      have := every_other k (h2 e) (j - 2 ^ k) p h
      rw [show 2 * j - 2 ^ (k + 1) = 2 * (j - 2 ^ k) by omega]
      exact this
theorem chords_other (k : Nat) (e : Edge) (j : Nat) (p : Pt) (h : (chordsP k e)[j]? = some p) : (chordsP (k + 1) e)[2 * j]? = some (p.mul 4) := by
  unfold chordsP at h ⊢
  have l1 := rowP_len k e
  have l2 := rowP_len (k + 1) e
  have hp : 2 ^ (k + 1) = 2 * 2 ^ k := by rw [Nat.pow_succ]; omega
  by_cases hj : j < 2 ^ k
  · rw [List.getElem?_append_left (by omega)] at h ⊢
    exact every_other k e j p h
  · rw [List.getElem?_append_right (by omega), l1] at h
    have hj0 : j - 2 ^ k = 0 := by
      by_cases h0 : j - 2 ^ k = 0
      · exact h0
      · rw [List.getElem?_eq_none (by simp; omega)] at h; cases h
    rw [hj0] at h
    simp at h
    subst h
    rw [List.getElem?_append_right (by omega), l2, show 2 * j - 2 ^ (k + 1) = 0 by omega]
    simp only [List.getElem?_cons_zero, Pt.mul, Option.some.injEq, Pt.mk.injEq]
    constructor <;> (rw [Int.pow_succ, Int.mul_comm (4 ^ k) 4, Int.mul_assoc])
/-- the curve's middle, between two chords' ends: as far from the chord's middle as the curve is bent. -/
theorem near : ∀ (k : Nat) (e : Edge) (j : Nat) (p q m : Pt), e.quad = true → (chordsP k e)[j]? = some p → (chordsP k e)[j + 1]? = some q → (chordsP (k + 1) e)[2 * j + 1]? = some m →
    m.x - 2 * (p.x + q.x) = -bentX e ∧ m.y - 2 * (p.y + q.y) = -bentY e
  | 0, e, j, p, q, m, hq, h1', h2', h3' => by
    cases j with
    | zero =>
      simp [chordsP, rowP, Pt.mul] at h1' h2' h3'
      subst h1' h2' h3'
      simp only [h2, mid, hq, if_true, bentX, bentY]
      constructor <;> omega
    | succ j => simp [chordsP, rowP] at h2'
  | k + 1, e, j, p, q, m, hq, g1, g2, g3 => by
    have l1 := rowP_len k (h1 e)
    have l2 := rowP_len (k + 1) (h1 e)
    have hp : 2 ^ (k + 1) = 2 * 2 ^ k := by rw [Nat.pow_succ]; omega
    rw [chords_split] at g1 g2
    rw [chords_split] at g3
    by_cases hj : j < 2 ^ k
    · -- the first half
      rw [List.getElem?_append_left (by omega)] at g1
      rw [List.getElem?_append_left (by omega)] at g3
      have g1' : (chordsP k (h1 e))[j]? = some p := by unfold chordsP; rw [List.getElem?_append_left (by omega)]; exact g1
      have g3' : (chordsP (k + 1) (h1 e))[2 * j + 1]? = some m := by unfold chordsP; rw [List.getElem?_append_left (by omega)]; exact g3
      have g2' : (chordsP k (h1 e))[j + 1]? = some q := by
        by_cases hj1 : j + 1 < 2 ^ k
        · rw [List.getElem?_append_left (by omega)] at g2
          unfold chordsP; rw [List.getElem?_append_left (by omega)]; exact g2
        · have he : j + 1 = 2 ^ k := by omega
          rw [List.getElem?_append_right (by omega), l1, he, Nat.sub_self] at g2
          have hf := row_first k (h2 e)
          unfold chordsP at g2
          rw [List.getElem?_append_left (by rw [rowP_len]; exact Nat.two_pow_pos k), hf] at g2
          unfold chordsP
          rw [List.getElem?_append_right (by omega), l1, he, Nat.sub_self, show (h1 e).c = (h2 e).a from rfl]
          simpa using g2
      have := near k (h1 e) j p q m hq g1' g2' g3'
      rw [(bent_h1 e).1, (bent_h1 e).2] at this
      exact this
    · rw [List.getElem?_append_right (by omega), l1] at g1
      rw [List.getElem?_append_right (by omega), l1] at g2
      rw [List.getElem?_append_right (by omega), l2] at g3
      have := near k (h2 e) (j - 2 ^ k) p q m hq g1 (by rw [show j - 2 ^ k + 1 = j + 1 - 2 ^ k by omega]; exact g2) (by rw [show 2 * (j - 2 ^ k) + 1 = 2 * j + 1 - 2 ^ (k + 1) by omega]; exact g3)
      rw [(bent_h2 e).1, (bent_h2 e).2] at this
      exact this
end Go.Proofs.Ythfpndelfbeknaa
