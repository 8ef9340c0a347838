/- Strings as lists of bytes. -/
import Derived.Test.YthfpndelfbeknaaDen34
set_option linter.unusedVariables false
set_option linter.unusedSimpArgs false
namespace Go.Den
def mkS (l : List UInt8) : ByteArray := ⟨l.toArray⟩
theorem mkS_data (l : List UInt8) : (mkS l).data.toList = l := rfl
theorem mkS_size (l : List UInt8) : (mkS l).size = l.length := by show l.toArray.size = _; simp
theorem mkS_self (s : ByteArray) : mkS s.data.toList = s := by cases s; simp [mkS]
theorem mkS_inj {l m : List UInt8} : mkS l = mkS m ↔ l = m := ⟨fun h => by have := congrArg (fun s : ByteArray => s.data.toList) h; simpa [mkS] using this, fun h => by rw [h]⟩
theorem mkS_toList (l : List UInt8) : (mkS l).toList = l := by rw [ByteArray.toList_eq]; rfl
theorem mkS_append (l m : List UInt8) : mkS l ++ mkS m = mkS (l ++ m) := by
  apply ByteArray.ext
  rw [ByteArray.data_append]
  simp [mkS]
theorem mkS_extract (l : List UInt8) (a b : Nat) : (mkS l).extract a b = mkS ((l.drop a).take (b - a)) := by
  apply ByteArray.ext
  rw [ByteArray.data_extract]
  apply Array.ext'
  simp [mkS, List.extract_eq_take_drop]
theorem str_lit (l : List UInt8) : AV.str ⟨l.toArray⟩ = AV.str (mkS l) := _root_.id rfl
section
variable {H : Heap}
theorem len_mkS {l : List UInt8} : lenOf true (.str (mkS l)) H = some (.int .i64 (l.length : Int), H) := by rw [len_str, mkS_size]
theorem ixs_mkS {l : List UInt8} {k : IntKind} {i : Nat} : ixsOf (.str (mkS l)) (.int k (i : Int)) H = (l[i]?).map fun b => (.int .u8 (b.toNat : Int), H) := by
  rw [ixs_str, if_pos (Int.natCast_nonneg i), Int.toNat_natCast, mkS_data]
theorem bin_adds {l m : List UInt8} (h : l.length + m.length ≤ 9223372036854775807) : binOf .add (.str (mkS l)) (.str (mkS m)) H = some (.str (mkS (l ++ m)), H) := by
  have h' : ((((mkS l).size + (mkS m).size : Nat) : Int) ≤ 9223372036854775807) := by rw [mkS_size, mkS_size]; omega
  show Option.map _ (if ((((mkS l).size + (mkS m).size : Nat) : Int) ≤ 9223372036854775807) then some (AV.str (mkS l ++ mkS m)) else none) = _
  rw [if_pos h', mkS_append]; rfl
theorem bin_eqs {l m : List UInt8} : binOf .eql (.str (mkS l)) (.str (mkS m)) H = some (.bool (l == m), H) := by
  show some (AV.bool ((mkS l).toList == (mkS m).toList), H) = _
  rw [mkS_toList, mkS_toList]
theorem bin_nes {l m : List UInt8} : binOf .neq (.str (mkS l)) (.str (mkS m)) H = some (.bool (l != m), H) := by
  show some (AV.bool (!((mkS l).toList == (mkS m).toList)), H) = _
  rw [mkS_toList, mkS_toList]; rfl
def slstrOf (x : AV) (lo hi : Option (Option Nat)) (H : Heap) : Option (AV × Heap) :=
  match x with
  | .str s => lo.bind fun l => hi.bind fun h => if l.getD 0 ≤ h.getD s.size ∧ h.getD s.size ≤ s.size then some (.str (s.extract (l.getD 0) (h.getD s.size)), H) else none
  | _ => none
theorem sop_slstr {cl : CL} {t : List AV} {x lo hi} : sop cl t H (.slstr x lo hi) = slstrOf (evx t x) (evb (evx t) lo) (evb (evx t) hi) H := by
  show aop (evx t) H (.slstr x lo hi) = _
  simp only [aop, slstrOf, abound_evb]
  cases evx t x <;> rfl
theorem bound_nat {k : IntKind} {i : Nat} : boundOf (.int k (i : Int)) = some (some i) := by simp [boundOf]
theorem bound_int {k : IntKind} {i : Int} : boundOf (.int k i) = if 0 ≤ i then some (some i.toNat) else none := _root_.id rfl
theorem slstr_both {l : List UInt8} {a b : Nat} (h : a ≤ b ∧ b ≤ l.length) : slstrOf (.str (mkS l)) (some (some a)) (some (some b)) H = some (.str (mkS ((l.drop a).take (b - a))), H) := by
  simp only [slstrOf, Option.bind_some, Option.getD_some, mkS_size]
  rw [if_pos h, mkS_extract]
theorem slstr_lo {l : List UInt8} {a : Nat} (h : a ≤ l.length) : slstrOf (.str (mkS l)) (some (some a)) (some none) H = some (.str (mkS (l.drop a)), H) := by
  simp only [slstrOf, Option.bind_some, Option.getD_some, Option.getD_none, mkS_size]
  rw [if_pos ⟨h, Nat.le_refl _⟩, mkS_extract, List.take_of_length_le (by simp)]
theorem slstr_hi {l : List UInt8} {b : Nat} (h : b ≤ l.length) : slstrOf (.str (mkS l)) (some none) (some (some b)) H = some (.str (mkS (l.take b)), H) := by
  simp only [slstrOf, Option.bind_some, Option.getD_some, Option.getD_none, mkS_size]
  rw [if_pos ⟨by omega, h⟩, mkS_extract]; simp
/-- cells of bytes. -/
def u8s (l : List UInt8) : List AV := l.map fun b => .int .u8 (b.toNat : Int)
theorem bytesOf_u8s : ∀ l : List UInt8, bytesOf (u8s l) = some l
  | [] => rfl
  | b :: l => by
    have := bytesOf_u8s l
    simp only [u8s] at this
    simp [u8s, bytesOf, this]
theorem strCells_mkS (l : List UInt8) : strCells (mkS l) = u8s l := rfl
theorem u8s_len (l : List UInt8) : (u8s l).length = l.length := by simp [u8s]
theorem u8s_one (l : List UInt8) : (u8s l).all AV.one = true := by simp [u8s, AV.one]
theorem u8s_flat (l : List UInt8) : (u8s l).all AV.flat = true := by simp [u8s, AV.flat]
theorem str_of {v : AV} {l : List UInt8} (h1 : acells H v = some (u8s l)) (h2 : alen v = some l.length) : strOf v H = some (.str (mkS l), H) := by
  simp only [strOf, h1, Option.bind_some, u8s_len, h2, if_true, bytesOf_u8s, Option.map_some]; rfl
end
/-! ### A row that was there is written -/
theorem keepOld_set (n : Nat) (row : AO) (hr : row.under n = true) : ∀ (H : Heap) (o : Nat) (X : Heap), keepOld n H (H.set o row ++ X) = true
  | [], o, X => by simp [keepOld]
  | a :: H, 0, X => by simp [keepOld, hr, keepOld_append]
  | a :: H, o + 1, X => by simp [keepOld, AO.same_refl, keepOld_set n row hr H o X]
theorem tidy_setX {H X : Heap} {o : Nat} {v : AV} {l : List AV} {e : TypeId} {w : Bool} (hv : v.flat = true) (hl : l.all AV.flat = true) : tidy H v (H.set o (.cells l e w) ++ X) = (v, H.set o (.cells l e w)) := by
  have hr : (AO.cells l e w).under H.length = true := leadss_flat hl
  simp [tidy, keepOld_set _ _ hr, carry_flat hv]
theorem tidy_set {H : Heap} {o : Nat} {v : AV} {l : List AV} {e : TypeId} {w : Bool} (hv : v.flat = true) (hl : l.all AV.flat = true) : tidy H v (H.set o (.cells l e w)) = (v, H.set o (.cells l e w)) := by
  have := tidy_setX (X := []) (H := H) (o := o) (e := e) (w := w) hv hl
  rwa [List.append_nil] at this
theorem tidy_setU {H : Heap} {o : Nat} {l : List AV} {e : TypeId} {w : Bool} (hl : l.all AV.flat = true) : tidy H (.tup []) (H.set o (.cells l e w)) = (.tup [], H.set o (.cells l e w)) := by
  have hr : (AO.cells l e w).under H.length = true := leadss_flat hl
  have := keepOld_set _ _ hr H o []
  rw [List.append_nil] at this
  simp [tidy, this, AV.carry, carries, List.take_of_length_le]
theorem aload_row {H : Heap} {o n off : Nat} {l : List AV} {e : TypeId} {w : Bool} (h : H[o]? = some (.cells l e w)) : aload H n (.ptr o off) = if off + n ≤ l.length then some ((l.drop off).take n) else none := by
  simp only [aload, arow, h]
theorem astore_row {H : Heap} {o off : Nat} {l c : List AV} {e : TypeId} (h : H[o]? = some (.cells l e true)) : astore H (.ptr o off) c = if off + c.length ≤ l.length ∧ c.all AV.one = true then some (H.set o (.cells (splice l off c) e true)) else none := by
  simp only [astore, h]
theorem set_same {H : Heap} {o : Nat} {x : AO} (h : H[o]? = some x) : H.set o x = H := by
  apply List.ext_getElem?
  intro i
  rw [List.getElem?_set]
  split
  · rename_i hi; subst hi
    split
    · rw [h]
    · rename_i hlt
      rw [List.getElem?_eq_none (by omega)] at h; cases h
  · rfl
theorem tidy_ptr0 {H X : Heap} {off : Nat} {l : List AV} {e : TypeId} {w : Bool} (hl : l.all AV.flat = true) : tidy H (.ptr H.length off) (H ++ .cells l e w :: X) = (.ptr H.length off, H ++ [.cells l e w]) := by
  have hu : unders H.length l = true := leadss_flat hl
  simp [tidy, keepOld_append, AV.carry, hu]
theorem lit_byte (n : Nat) (h : n < 256) : (AV.int .u8 (n : Int)) = AV.int .u8 (((UInt8.ofNat n).toNat : Nat) : Int) := by
  simp; omega
end Go.Den
