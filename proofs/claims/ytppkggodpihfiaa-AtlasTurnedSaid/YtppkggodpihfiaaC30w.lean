/- Chapter 30, in plain law: what is decoded is encoded to the same bytes. -/
import Derived.Test.YtppkggodpihfiaaC30u
set_option linter.unusedVariables false
set_option linter.unusedSimpArgs false
namespace Go.Proofs.Ytppkggodpihfiaa
open Go Go.Den
def seg (p : List UInt8) (a k : Nat) : List UInt8 := (p.drop a).take k
theorem seg_add (p : List UInt8) (a m k : Nat) : seg p a m ++ seg p (a + m) k = seg p a (m + k) := by
  unfold seg; rw [List.take_add, List.drop_drop]
theorem seg_len {p : List UInt8} {a k : Nat} (h : a + k ≤ p.length) : (seg p a k).length = k := by unfold seg; rw [List.length_take, List.length_drop]; omega
theorem byte_of {n : Nat} {x : UInt8} (h : n % 256 = x.toNat) : UInt8.ofNat n = x := by apply UInt8.toNat.inj; simpa using h
theorem put_two (x y : UInt8) : putB (num [x, y]) 2 = [x, y] := by
  have hx := x.toNat_lt
  have hy := y.toNat_lt
  have e : num [x, y] = x.toNat * 256 + y.toNat := by simp only [num, List.foldl]; omega
  rw [e]
  simp only [putB, List.cons.injEq, and_true]
  exact ⟨byte_of (by omega), byte_of (by omega)⟩
theorem put_four (x y z w : UInt8) : putB (num [x, y, z, w]) 4 = [x, y, z, w] := by
  have hx := x.toNat_lt
  have hy := y.toNat_lt
  have hz := z.toNat_lt
  have hw := w.toNat_lt
  have e : num [x, y, z, w] = ((x.toNat * 256 + y.toNat) * 256 + z.toNat) * 256 + w.toNat := by simp only [num, List.foldl]; omega
  rw [e]
  simp only [putB, List.cons.injEq, and_true]
  exact ⟨byte_of (by omega), byte_of (by omega), byte_of (by omega), byte_of (by omega)⟩
theorem list_two {l : List UInt8} (h : l.length = 2) : ∃ x y, l = [x, y] := by
  match l, h with
  | [x, y], _ => exact ⟨x, y, rfl⟩
theorem list_four {l : List UInt8} (h : l.length = 4) : ∃ x y z w, l = [x, y, z, w] := by
  match l, h with
  | [x, y, z, w], _ => exact ⟨x, y, z, w, rfl⟩
theorem seg2 {p : List UInt8} {a : Nat} (h : a + 2 ≤ p.length) : putB (n2 p a) 2 = seg p a 2 := by
  have hl := seg_len h
  unfold n2
  unfold seg at hl ⊢
  obtain ⟨x, y, e⟩ := list_two hl
  rw [e]; exact put_two x y
theorem seg4 {p : List UInt8} {a : Nat} (h : a + 4 ≤ p.length) : putB (n4 p a) 4 = seg p a 4 := by
  have hl := seg_len h
  unfold n4
  unfold seg at hl ⊢
  obtain ⟨x, y, z, w, e⟩ := list_four hl
  rw [e]; exact put_four x y z w
theorem u16N_nat {n : Nat} (h : n < 65536) : u16N (n : Int) = n := by unfold u16N; omega
theorem u16N_sg {n : Nat} (h : n < 65536) : u16N (sg16 n) = n := by unfold u16N sg16; split <;> omega
theorem u32N_nat {n : Nat} (h : n < 4294967296) : u32N (n : Int) = n := by unfold u32N; omega
theorem u32N_sg {n : Nat} (h : n < 4294967296) : u32N (sg32 n) = n := by unfold u32N sg32; split <;> omega
theorem shB_cons (n : Int) (l : List Int) : shB (n :: l) = putB (u16N n) 2 ++ shB l := rfl
theorem loB_cons (n : Int) (l : List Int) : loB (n :: l) = putB (u32N n) 4 ++ loB l := rfl
theorem shB_nil : shB [] = [] := rfl
theorem loB_nil : loB [] = [] := rfl
theorem sh2 {p : List UInt8} {a : Nat} (h : a + 2 ≤ p.length) : putB (u16N (n2 p a : Nat)) 2 = seg p a 2 := by rw [u16N_nat (n2_lt p a), seg2 h]
theorem sh2s {p : List UInt8} {a : Nat} (h : a + 2 ≤ p.length) : putB (u16N (sg16 (n2 p a))) 2 = seg p a 2 := by rw [u16N_sg (n2_lt p a), seg2 h]
theorem lo4 {p : List UInt8} {a : Nat} (h : a + 4 ≤ p.length) : putB (u32N (n4 p a : Nat)) 4 = seg p a 4 := by rw [u32N_nat (n4_lt p a), seg4 h]
theorem lo4s {p : List UInt8} {a : Nat} (h : a + 4 ≤ p.length) : putB (u32N (sg32 (n4 p a))) 4 = seg p a 4 := by rw [u32N_sg (n4_lt p a), seg4 h]
theorem entB_at {p : List UInt8} {b : Nat} (h : b + 20 ≤ p.length) : entB (entAt p b) = seg p b 20 := by
  unfold entB entAt
  simp only [shB_cons, loB_cons, shB_nil, loB_nil, List.append_nil, List.append_assoc]
  rw [sh2 (by omega), lo4s (by omega), lo4s (by omega), sh2 (by omega), sh2 (by omega), sh2 (by omega), sh2 (by omega), sh2 (by omega)]
  rw [seg_add p (b + 16) 2 2, seg_add p (b + 14) 2 4, seg_add p (b + 12) 2 6, seg_add p (b + 10) 2 8, seg_add p (b + 6) 4 10, seg_add p (b + 2) 4 14, seg_add p b 2 18]
theorem prB_at {p : List UInt8} {b : Nat} (h : b + 6 ≤ p.length) : prB (prAt p b) = seg p b 6 := by
  unfold prB prAt
  simp only [shB_cons, loB_cons, shB_nil, loB_nil, List.append_nil]
  rw [sh2 (by omega), lo4s (by omega), seg_add p b 4 2]
theorem segs {p : List UInt8} {b k : Nat} {f : Nat → List UInt8} : ∀ {n : Nat}, (∀ i, i < n → f i = seg p (b + k * i) k) → (List.range n).flatMap f = seg p b (k * n)
  | 0, _ => by simp [seg]
  | n + 1, h => by
    rw [List.range_succ, List.flatMap_append, segs (n := n) fun i hi => h i (by omega), List.flatMap_cons, List.flatMap_nil, List.append_nil, h n (by omega), seg_add, Nat.mul_succ]
theorem hdB_at {p : List UInt8} (hl : 34 ≤ p.length) (hm : p.take 6 = magicL) : hdB (fullA p) = seg p 0 30 := by
  unfold hdB fullA hdA
  simp only [pgsP_len, entsP_len, prsP_len, shB_cons, loB_cons, shB_nil, loB_nil, List.append_nil, List.append_assoc]
  rw [sh2 (by omega), sh2 (by omega), sh2 (by omega), sh2s (by omega), sh2s (by omega), sh2s (by omega), sh2 (by omega), sh2 (by omega), sh2 (by omega), sh2 (by omega), lo4 (by omega), ← hm]
  have h6 : p.take 6 = seg p 0 6 := by unfold seg; rw [List.drop_zero]
  rw [h6, seg_add p 24 2 4, seg_add p 22 2 6, seg_add p 20 2 8, seg_add p 18 2 10, seg_add p 16 2 12, seg_add p 14 2 14, seg_add p 12 2 16, seg_add p 10 2 18, seg_add p 8 2 20, seg_add p 6 2 22, seg_add p 0 6 24]
theorem enc_dec {p : List UInt8} (hm : p.take 6 = magicL) (hl : p.length = szP p) (hc : crcN (p.take (szP p - 4)) = n4 p (szP p - 4)) : encP (fullA p) = p := by
  have hge := szP_ge p
  have hsz : szP p = 34 + 20 * n2 p 24 + 6 * n4 p 26 + 4 * n2 p 18 * n2 p 20 * n2 p 22 := rfl
  have h0 : encP0 (fullA p) = p.take (szP p - 4) := by
    unfold encP0
    rw [hdB_at (by omega) hm]
    have e1 : (fullA p).gl.flatMap entB = seg p 30 (20 * n2 p 24) := by
      show ((List.range (n2 p 24)).map _).flatMap entB = _
      rw [List.flatMap_map]
      exact segs fun i hi => entB_at (by omega)
    have e2 : (fullA p).pr.flatMap prB = seg p (30 + 20 * n2 p 24) (6 * n4 p 26) := by
      show ((List.range (n4 p 26)).map _).flatMap prB = _
      rw [List.flatMap_map]
      exact segs fun i hi => prB_at (by omega)
    have e3 : (fullA p).pgs.flatten = seg p (30 + 20 * n2 p 24 + 6 * n4 p 26) (4 * n2 p 18 * n2 p 20 * n2 p 22) := by
      show ((List.range (n2 p 22)).map _).flatten = _
      rw [← List.flatMap_def]
      exact segs fun i hi => rfl
    rw [e1, e2, e3, seg_add, seg_add, seg_add p 0 30]
    unfold seg
    rw [List.drop_zero]
    congr 1
    omega
  unfold encP
  rw [h0, hc, seg4 (by omega)]
  have : p.take (szP p - 4) = seg p 0 (szP p - 4) := by unfold seg; rw [List.drop_zero]
  rw [this]
  have := seg_add p 0 (szP p - 4) 4
  rw [Nat.zero_add] at this
  rw [this]
  unfold seg
  rw [List.drop_zero, List.take_of_length_le (by omega)]
/-- The pages of what is decoded are parts of the bytes. -/
theorem pages_le {p : List UInt8} (hl : p.length = szP p) : (fullA p).pgs.flatten.length ≤ p.length := by
  have hsz : szP p = 34 + 20 * n2 p 24 + 6 * n4 p 26 + 4 * n2 p 18 * n2 p 20 * n2 p 22 := rfl
  have e3 : (fullA p).pgs.flatten = seg p (30 + 20 * n2 p 24 + 6 * n4 p 26) (4 * n2 p 18 * n2 p 20 * n2 p 22) := by
    show ((List.range (n2 p 22)).map _).flatten = _
    rw [← List.flatMap_def]
    exact segs fun i hi => rfl
  rw [e3, seg_len (by omega)]
  omega
end Go.Proofs.Ytppkggodpihfiaa
