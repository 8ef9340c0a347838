/- Chapter 34: pictures as lists of bytes. -/
import Derived.Test.YtbnnfmncipdlpaaDoorC34g
set_option linter.unusedVariables false
set_option linter.unusedSimpArgs false
set_option maxRecDepth 100000
set_option maxHeartbeats 8000000
namespace Go.Proofs.YtbnnfmncipdlpaaDoor
open Go Go.Den
/-- The greater one. -/
def mx (b : UInt8) (z : Int) : UInt8 := UInt8.ofNat (max b.toNat z.toNat)
theorem mx_nat (b : UInt8) {z : Int} (h : 0 ≤ z ∧ z ≤ 255) : max (b.toNat : Int) z = ((mx b z).toNat : Int) := by
  have := b.toNat_lt
  unfold mx
  rw [UInt8.toNat_ofNat', Nat.mod_eq_of_lt (by omega)]
  omega
theorem mx_zero (b : UInt8) : mx b 0 = b := by
  unfold mx
  rw [show max b.toNat (0 : Int).toNat = b.toNat by simp]
  simp
def drawn (l : List UInt8) (V : Nat → Bool) (px : Nat → Int) : List UInt8 := l.mapIdx fun k b => if V k = true then mx b (px k) else b
theorem drawn_len (l : List UInt8) (V : Nat → Bool) (px : Nat → Int) : (drawn l V px).length = l.length := by simp [drawn]
theorem drawn_get (l : List UInt8) (V : Nat → Bool) (px : Nat → Int) (k : Nat) : (drawn l V px)[k]? = l[k]?.map fun b => if V k = true then mx b (px k) else b := by simp [drawn]
theorem drawn_ext {l : List UInt8} {V V' : Nat → Bool} {px : Nat → Int} (h : ∀ k b, l[k]? = some b → (if V k = true then mx b (px k) else b) = (if V' k = true then mx b (px k) else b)) : drawn l V px = drawn l V' px := by
  apply List.ext_getElem?
  intro k
  rw [drawn_get, drawn_get]
  cases hb : l[k]? with
  | none => rfl
  | some b => simp only [Option.map_some]; rw [h k b hb]
theorem drawn_congr {l : List UInt8} {V V' : Nat → Bool} {px : Nat → Int} (h : ∀ k, k < l.length → V k = V' k) : drawn l V px = drawn l V' px :=
  drawn_ext fun k b hb => by rw [h k (List.getElem?_eq_some_iff.1 hb).1]
theorem drawn_all {l : List UInt8} {V : Nat → Bool} {px : Nat → Int} (h : ∀ k, k < l.length → V k = false → px k = 0) : drawn l V px = drawn l (fun _ => true) px :=
  drawn_ext fun k b hb => by
    have hk := (List.getElem?_eq_some_iff.1 hb).1
    cases hV : V k
    · rw [h k hk hV]; simp [mx_zero]
    · simp
theorem drawn_none {l : List UInt8} {px : Nat → Int} : drawn l (fun _ => false) px = l := by
  apply List.ext_getElem?
  intro k
  rw [drawn_get]
  cases l[k]? <;> simp
theorem drawn_set {l : List UInt8} {V : Nat → Bool} {px : Nat → Int} {k : Nat} {b : UInt8} (hb : l[k]? = some b) (hV : V k = false) : (drawn l V px).set k (mx b (px k)) = drawn l (fun q => V q || q == k) px := by
  have hk := (List.getElem?_eq_some_iff.1 hb).1
  apply List.ext_getElem?
  intro q
  rw [List.getElem?_set, drawn_len, drawn_get, drawn_get]
  by_cases h : k = q
  · subst h
    rw [if_pos rfl, if_pos hk, hb]
    simp
  · rw [if_neg h]
    have : (q == k) = false := by simp; omega
    simp [this]
/-- Which pixels have been seen. -/
def vis (w left right low jc ic : Nat) (k : Nat) : Bool := decide (left ≤ k % w ∧ k % w < right ∧ low ≤ k / w ∧ (k / w < jc ∨ (k / w = jc ∧ k % w < ic)))
theorem place_at {w j i : Nat} (h : i < w) : (j * w + i) % w = i ∧ (j * w + i) / w = j := by
  rw [Nat.mul_comm j w]
  exact ⟨by rw [Nat.mul_add_mod, Nat.mod_eq_of_lt h], by rw [Nat.mul_add_div (by omega), Nat.div_eq_of_lt h, Nat.add_zero]⟩
theorem vis_step {w left right low jc ic : Nat} (hi : ic < w) (h1 : left ≤ ic) (h2 : ic < right) (h3 : low ≤ jc) (q : Nat) : (vis w left right low jc ic q || q == jc * w + ic) = vis w left right low jc (ic + 1) q := by
  obtain ⟨p1, p2⟩ := place_at (j := jc) hi
  by_cases hq : q = jc * w + ic
  · subst hq
    have : vis w left right low jc (ic + 1) (jc * w + ic) = true := by unfold vis; rw [p1, p2]; exact decide_eq_true (by omega)
    rw [this]
    simp
  · have h0 : (q == jc * w + ic) = false := by rw [beq_eq_false_iff_ne]; exact hq
    rw [h0, Bool.or_false]
    unfold vis
    have hne : ¬ (q / w = jc ∧ q % w = ic) := fun h => hq (by
      have := Nat.div_add_mod q w
      rw [h.1, h.2, Nat.mul_comm] at this
      exact this.symm)
    exact decide_eq_decide.2 (by omega)
theorem vis_row {w left right low jc : Nat} (q : Nat) : vis w left right low jc right q = vis w left right low (jc + 1) left q := by
  unfold vis
  exact decide_eq_decide.2 (by omega)
theorem vis_none {w left right low : Nat} (q : Nat) : vis w left right low low left q = false := by
  unfold vis
  exact decide_eq_false (by omega)
/-- Heaps that differ in a picture alone. -/
structure PicF (B : List UInt8 → Heap) (N o : Nat) (a : Atl) (vg vp vs : AV) : Prop where
  len : ∀ l, (B l).length = N
  lt : o < N
  row : ∀ l, (B l)[o]? = some (.cells (u8s l) 5 true)
  set : ∀ l l', (B l).set o (.cells (u8s l') 5 true) = B l'
  atl : ∀ l, AtlOf (B l) a vg vp vs
section
variable {B : List UInt8 → Heap} {N o : Nat} {a : Atl} {vg vp vs : AV}
theorem PicF.get (F : PicF B N o a vg vp vs) (l : List UInt8) (X : Heap) : (B l ++ X)[o]? = some (.cells (u8s l) 5 true) := by
  rw [List.getElem?_append_left (by rw [F.len]; exact F.lt)]
  exact F.row l
theorem PicF.load (F : PicF B N o a vg vp vs) {l : List UInt8} {k : Nat} {b : UInt8} (h : l[k]? = some b) (X : Heap) : aload (B l ++ X) 1 (.ptr o k) = some [.int .u8 (b.toNat : Int)] := by
  have hk := (List.getElem?_eq_some_iff.1 h).1
  rw [aload_row (F.get l X), if_pos (by rw [u8s_len]; omega)]
  have e : (u8s l)[k]? = some (.int .u8 (b.toNat : Int)) := by simp [u8s, h]
  have hk2 : k < (u8s l).length := by rw [u8s_len]; exact hk
  rw [List.drop_eq_getElem_cons hk2]
  rw [List.getElem?_eq_getElem hk2] at e
  injection e with e
  rw [e]
  rfl
theorem PicF.store (F : PicF B N o a vg vp vs) {l : List UInt8} {k : Nat} (hk : k < l.length) (b : UInt8) (X : Heap) : astore (B l ++ X) (.ptr o k) [.int .u8 (b.toNat : Int)] = some (B (l.set k b) ++ X) := by
  rw [astore_row (F.get l X), if_pos ⟨by rw [u8s_len]; exact hk, rfl⟩]
  rw [List.set_append_left _ _ (by rw [F.len]; exact F.lt)]
  have : splice (u8s l) k [.int .u8 (b.toNat : Int)] = u8s (l.set k b) := by
    simp only [splice, u8s]
    rw [List.map_set, List.set_eq_take_append_cons_drop, if_pos (by simpa using hk)]
    simp
  rw [this, F.set l (l.set k b)]
theorem PicF.tidy (F : PicF B N o a vg vp vs) (l l' : List UInt8) (X : Heap) : tidy (B l) (.tup []) (B l' ++ X) = (.tup [], B l') := by
  have hr : (AO.cells (u8s l') 5 true).under (B l).length = true := leadss_flat (u8s_flat l')
  have := keepOld_set _ _ hr (B l) o X
  rw [F.set l l'] at this
  unfold Den.tidy
  rw [if_pos this]
  simp only [AV.carry, carries, Option.map_some]
  rw [F.len l, ← F.len l', List.take_left, List.append_nil]
end
end Go.Proofs.YtbnnfmncipdlpaaDoor
