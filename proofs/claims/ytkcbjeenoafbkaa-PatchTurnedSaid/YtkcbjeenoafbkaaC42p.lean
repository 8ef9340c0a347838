/- Chapter 42: patches, in plain law. -/
import Derived.Test.YtkcbjeenoafbkaaOctR
import Derived.Test.YtkcbjeenoafbkaaPureSum
set_option linter.unusedVariables false
set_option linter.unusedSimpArgs false
namespace Go.Proofs.Ytkcbjeenoafbkaa
open Go Go.Den
def n4 (s : List UInt8) (a : Nat) : Nat := num ((s.drop a).take 4)
theorem n4_lt (s : List UInt8) (a : Nat) : n4 s a < 4294967296 := num_lt _
structure Stp where
  old : Bool
  start : Nat
  n : Nat
  own : List UInt8
def kd (p : List UInt8) (a : Nat) : Nat := (p.getD a 0).toNat
def hdL (p : List UInt8) (a : Nat) : Nat := if kd p a = 0 then 9 else 5
def cnt (p : List UInt8) (a : Nat) : Nat := n4 p (a + hdL p a - 4)
def stepE (p : List UInt8) (a : Nat) : Int := if kd p a > 1 then 4 else if p.length - a < hdL p a then 3 else if cnt p a = 0 then 4 else if kd p a = 0 then 0 else if cnt p a > p.length - a - 5 then 3 else 0
def stepS (p : List UInt8) (a : Nat) : Stp := if kd p a = 0 then ⟨true, n4 p (a + 1), cnt p a, []⟩ else ⟨false, 0, cnt p a, (p.drop (a + 5)).take (cnt p a)⟩
def stepN (p : List UInt8) (a : Nat) : Nat := if kd p a = 0 then a + 9 else a + 5 + cnt p a
theorem stepN_gt (p : List UInt8) (a : Nat) : a + 5 ≤ stepN p a := by unfold stepN; split <;> omega
theorem stepN_le {p : List UInt8} {a : Nat} (h : stepE p a = 0) (ha : a < p.length) : stepN p a ≤ p.length := by
  unfold stepE hdL at h
  unfold stepN
  by_cases h0 : kd p a = 0
  · simp only [h0, if_true] at h ⊢
    by_cases h1 : p.length - a < 9
    · simp [h1] at h
    · omega
  · simp only [h0, if_false] at h ⊢
    by_cases h1 : kd p a > 1
    · simp [h1] at h
    · by_cases h2 : p.length - a < 5
      · simp [h1, h2] at h
      · by_cases h3 : cnt p a = 0
        · simp [h1, h2, h3] at h
        · by_cases h4 : cnt p a > p.length - a - 5
          · simp [h1, h2, h3, h4] at h
          · omega
/-- The steps from a place on, until the first that is wrong, and its error. -/
def stepsF (p : List UInt8) : Nat → Nat → List Stp × Int
  | 0, _ => ([], 0)
  | k + 1, a => if a < p.length then (if stepE p a ≠ 0 then ([], stepE p a) else (stepS p a :: (stepsF p k (stepN p a)).1, (stepsF p k (stepN p a)).2)) else ([], 0)
theorem stepsF_more {p : List UInt8} : ∀ (k j a : Nat), p.length - a ≤ k → p.length - a ≤ j → stepsF p k a = stepsF p j a
  | 0, 0, a, _, _ => rfl
  | 0, j + 1, a, h, _ => by rw [stepsF, stepsF, if_neg (by omega)]
  | k + 1, 0, a, _, h => by rw [stepsF, stepsF, if_neg (by omega)]
  | k + 1, j + 1, a, h1, h2 => by
    rw [stepsF, stepsF]
    have hg := stepN_gt p a
    by_cases ha : a < p.length
    · rw [stepsF_more k j (stepN p a) (by omega) (by omega)]
    · rw [if_neg ha, if_neg ha]
def stepsP (p : List UInt8) (a : Nat) : List Stp × Int := stepsF p p.length a
theorem steps_end {p : List UInt8} {a : Nat} (h : p.length ≤ a) : stepsP p a = ([], 0) := by
  unfold stepsP
  cases hp : p.length with
  | zero => rfl
  | succ k => rw [stepsF, if_neg (by omega)]
theorem steps_bad {p : List UInt8} {a : Nat} (h : a < p.length) (he : stepE p a ≠ 0) : stepsP p a = ([], stepE p a) := by
  unfold stepsP
  obtain ⟨k, hk⟩ : ∃ k, p.length = k + 1 := ⟨p.length - 1, by omega⟩
  rw [hk, stepsF, if_pos h, if_pos he]
theorem steps_ok {p : List UInt8} {a : Nat} (h : a < p.length) (he : stepE p a = 0) : stepsP p a = (stepS p a :: (stepsP p (stepN p a)).1, (stepsP p (stepN p a)).2) := by
  have hg := stepN_gt p a
  unfold stepsP
  obtain ⟨k, hk⟩ : ∃ k, p.length = k + 1 := ⟨p.length - 1, by omega⟩
  rw [stepsF_more p.length (k + 1) a (by omega) (by omega), stepsF, if_pos h, if_neg (by simp [he]), stepsF_more p.length k (stepN p a) (by omega) (by omega)]
def partP (old : List UInt8) (s : Stp) : Option (List UInt8) := if s.old then cut old s.start s.n else some s.own
/-- What steps make behind what there is, up to so many bytes. -/
def madeP (old : List UInt8) (most : Nat) : List UInt8 → List Stp → List UInt8 × Int
  | acc, [] => (acc, 0)
  | acc, s :: r => match partP old s with
    | none => ([], 3)
    | some b => if acc.length + b.length > most then ([], 6) else madeP old most (acc ++ b) r
def crcN (l : List UInt8) : Nat := (Crc.crc l ^^^ 4294967295#32).toNat
theorem crcN_lt (l : List UInt8) : crcN l < 4294967296 := (Crc.crc l ^^^ 4294967295#32).isLt
/-- From the steps on. -/
def restP (old p : List UInt8) (acc : List UInt8) (q : List Stp × Int) : List UInt8 × Int :=
  if (madeP old (n4 p 8) acc q.1).2 ≠ 0 then ([], (madeP old (n4 p 8) acc q.1).2) else if q.2 ≠ 0 then ([], q.2) else
    if n4 p 8 ≠ (madeP old (n4 p 8) acc q.1).1.length ∨ n4 p 12 ≠ crcN (madeP old (n4 p 8) acc q.1).1 then ([], 5) else ((madeP old (n4 p 8) acc q.1).1, 0)
def ApplyP (old p : List UInt8) : List UInt8 × Int :=
  if old.length > 65536 then ([], 6) else if p.length < 16 then ([], 3) else if n4 p 8 > 65536 then ([], 6) else
    if n4 p 0 ≠ old.length ∨ n4 p 4 ≠ crcN old then ([], 5) else restP old p [] (stepsP p 16)
def StepsN (p : List UInt8) : Int × Int := if p.length < 16 then (0, 3) else if n4 p 8 > 65536 then (0, 6) else if (stepsP p 16).2 ≠ 0 then (0, (stepsP p 16).2) else ((stepsP p 16).1.length, 0)
theorem rest_end {old p acc : List UInt8} : restP old p acc ([], 0) = if n4 p 8 ≠ acc.length ∨ n4 p 12 ≠ crcN acc then ([], 5) else (acc, 0) := by
  show (if (0 : Int) ≠ 0 then ([], 0) else if (0 : Int) ≠ 0 then ([], 0) else if n4 p 8 ≠ acc.length ∨ n4 p 12 ≠ crcN acc then ([], 5) else (acc, 0)) = _
  rw [if_neg (by simp), if_neg (by simp)]
theorem rest_bad {old p acc : List UInt8} {e : Int} (h : e ≠ 0) : restP old p acc ([], e) = ([], e) := by
  simp [restP, madeP, h]
theorem rest_part {old p acc : List UInt8} {s : Stp} {r : List Stp} {e : Int} (h : partP old s = none) : restP old p acc (s :: r, e) = ([], 3) := by
  simp [restP, madeP, h]
theorem rest_long {old p acc b : List UInt8} {s : Stp} {r : List Stp} {e : Int} (h : partP old s = some b) (hl : acc.length + b.length > n4 p 8) : restP old p acc (s :: r, e) = ([], 6) := by
  simp [restP, madeP, h, hl]
theorem rest_on {old p acc b : List UInt8} {s : Stp} {r : List Stp} {e : Int} (h : partP old s = some b) (hl : ¬ acc.length + b.length > n4 p 8) : restP old p acc (s :: r, e) = restP old p (acc ++ b) (r, e) := by
  simp only [restP, madeP, h]; rw [if_neg hl]
theorem made_len {old : List UInt8} {most : Nat} : ∀ {l : List Stp} {acc : List UInt8}, acc.length ≤ most → (madeP old most acc l).1.length ≤ most
  | [], acc, h => h
  | s :: r, acc, h => by
    rw [madeP]
    cases partP old s with
    | none => simp
    | some b =>
      simp only
      split
      · simp
      · exact made_len (by rw [List.length_append]; omega)
end Go.Proofs.Ytkcbjeenoafbkaa
