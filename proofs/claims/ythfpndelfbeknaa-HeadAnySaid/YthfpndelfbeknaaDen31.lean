/- Rows at the heap's end. -/
import Derived.Test.YthfpndelfbeknaaDen30
set_option linter.unusedVariables false
set_option linter.unusedSimpArgs false
namespace Go.Den
theorem aload_end {H X : Heap} {n o off : Nat} : aload (H ++ X) n (.ptr (H.length + o) off) = aload X n (.ptr o off) := by
  simp [aload, arow, List.getElem?_append_right]
theorem aload_end0 {H X : Heap} {n off : Nat} : aload (H ++ X) n (.ptr H.length off) = aload X n (.ptr 0 off) := by
  simpa using aload_end (H := H) (o := 0)
theorem aload_suc {H : Heap} {x : AO} {n o off : Nat} : aload (x :: H) n (.ptr (o + 1) off) = aload H n (.ptr o off) := by
  simp [aload, arow]
theorem aload_zero {H : Heap} {l : List AV} {e : TypeId} {w : Bool} {n off : Nat} : aload (.cells l e w :: H) n (.ptr 0 off) = if off + n ≤ l.length then some ((l.drop off).take n) else none := by
  simp [aload, arow]
theorem astore_end {H X : Heap} {o off : Nat} {c : List AV} : astore (H ++ X) (.ptr (H.length + o) off) c = (astore X (.ptr o off) c).map (H ++ ·) := by
  simp only [astore, List.getElem?_append_right (Nat.le_add_right ..), Nat.add_sub_cancel_left]
  rcases hx : X[o]? with _ | x
  · rfl
  · rcases x with ⟨l, e, w⟩ | _ | _
    · cases w
      · rfl
      · simp only []
        split <;> simp [List.set_append_right]
    · rfl
    · rfl
theorem astore_end0 {H X : Heap} {off : Nat} {c : List AV} : astore (H ++ X) (.ptr H.length off) c = (astore X (.ptr 0 off) c).map (H ++ ·) := by
  simpa using astore_end (H := H) (o := 0)
theorem astore_suc {H : Heap} {x : AO} {o off : Nat} {c : List AV} : astore (x :: H) (.ptr (o + 1) off) c = (astore H (.ptr o off) c).map (x :: ·) := by
  simp only [astore, List.getElem?_cons_succ]
  rcases hx : H[o]? with _ | x
  · rfl
  · rcases x with ⟨l, e, w⟩ | _ | _
    · cases w
      · rfl
      · simp only []
        split <;> simp
    · rfl
    · rfl
theorem astore_zero {H : Heap} {l : List AV} {e : TypeId} {off : Nat} {c : List AV} : astore (.cells l e true :: H) (.ptr 0 off) c = if off + c.length ≤ l.length ∧ c.all AV.one = true then some (.cells (splice l off c) e true :: H) else none := by
  simp [astore]
theorem pick_true {H : Heap} {a b : AV} : pickOf H (.bool true) a b = some (a, H) := _root_.id rfl
theorem pick_false {H : Heap} {a b : AV} : pickOf H (.bool false) a b = some (b, H) := _root_.id rfl
def wantsV (v : AV) (b : Bool) : Bool := match bool? v with | some c => c == b | none => false
theorem wants_at {t : List AV} {j : Nat} {b : Bool} : wants t (some (j, b)) = wantsV (evx t (.t j)) b := _root_.id rfl
theorem wantsV_true {c : Bool} : wantsV (.bool c) true = c := by cases c <;> rfl
theorem wantsV_false {c : Bool} : wantsV (.bool c) false = !c := by cases c <;> rfl
theorem drop_app {α : Type} {H X : List α} {k : Nat} : (H ++ X).drop (H.length + k) = X.drop k := by
  rw [← List.drop_drop, List.drop_left]
theorem drop_app0 {α : Type} {H X : List α} : (H ++ X).drop H.length = X := List.drop_left
theorem take_app {α : Type} {H X : List α} {k : Nat} : (H ++ X).take (H.length + k) = H ++ X.take k := by
  rw [List.take_append, List.take_of_length_le (by omega)]; simp
theorem take_app0 {α : Type} {H X : List α} : (H ++ X).take H.length = H := List.take_left
section
variable {cl : CL} {t : List AV} {H : Heap}
theorem sop_mv {x} : sop cl t H (.mv x) = some (evx t x, H) := aop_mv
theorem sop_pick {c a b} : sop cl t H (.pick c a b) = pickOf H (evx t c) (evx t a) (evx t b) := aop_pick
theorem sop_box {e x} : sop cl t H (.box e x) = anew H (evx t x).cells e := aop_box
theorem sop_build {z ps} : sop cl t H (.build z ps) = (fillIn (evx t) z ps).map fun c => (.agg c, H) := aop_build
theorem sop_bsl {e z len sz ps} : sop cl t H (.bsl e z len sz ps) = (fillIn (evx t) z ps).bind fun c => if c.all AV.one then some (.sl H.length 0 len sz (some len), H ++ [.cells c e true]) else none := aop_bsl
theorem sop_load {n a} : sop cl t H (.load n a) = loadOf n (evx t a) H := aop_load
theorem sop_store {n a x} : sop cl t H (.store n a x) = storeOf n (evx t a) (evx t x) H := aop_store
theorem sop_nilck {x} : sop cl t H (.nilck x) = nilckOf (evx t x) H := aop_nilck
theorem sop_bin {op x y} : sop cl t H (.bin op x y) = binOf op (evx t x) (evx t y) H := aop_bin
theorem sop_eqs {k tags neg x y} : sop cl t H (.eqs k tags neg x y) = eqsOf k tags neg (evx t x) (evx t y) H := aop_eqs
theorem sop_un {op x} : sop cl t H (.un op x) = unOf op (evx t x) H := aop_un
theorem sop_conv {k x} : sop cl t H (.conv k x) = convOf k (evx t x) H := aop_conv
theorem sop_b2s {x} : sop cl t H (.b2s x) = strOf (evx t x) H := aop_b2s
theorem sop_s2b {e x} : sop cl t H (.s2b e x) = bytes2Of e (evx t x) H := aop_s2b
theorem sop_mkfn {f l} : sop cl t H (.mkfn f l) = some (.fn f (l.map (evx t)), H) := aop_mkfn
theorem sop_mksl {e z l c} : sop cl t H (.mksl e z l c) = mkslOf e z (evx t l) (evx t c) H := aop_mksl
theorem sop_slc {sz x lo hi mx} : sop cl t H (.slc sz x lo hi mx) = slcOf sz (evx t x) (evb (evx t) lo) (evb (evx t) hi) (evb (evx t) mx) H := aop_slc
theorem sop_faddr {off x} : sop cl t H (.faddr off x) = faddrOf off (evx t x) H := aop_faddr
theorem sop_fld {n off x} : sop cl t H (.fld n off x) = fldOf n off (evx t x) H := aop_fld
theorem sop_iaddr {sz x i} : sop cl t H (.iaddr sz x i) = iaddrOf sz (evx t x) (evx t i) H := aop_iaddr
theorem sop_iarr {n sz x i} : sop cl t H (.iarr n sz x i) = iarrOf n sz (evx t x) (evx t i) H := aop_iarr
theorem sop_ixs {x i} : sop cl t H (.ixs x i) = ixsOf (evx t x) (evx t i) H := aop_ixs
theorem sop_ixa {n len sz x i} : sop cl t H (.ixa n len sz x i) = ixaOf n len sz (evx t x) (evx t i) H := aop_ixa
theorem sop_extract {x i} : sop cl t H (.extract x i) = extractOf (evx t x) i H := aop_extract
theorem sop_app {e sz s x} : sop cl t H (.app e sz s x) = aapp H e sz (evx t s) (evx t x) := aop_app
theorem sop_len {b x} : sop cl t H (.len b x) = lenOf b (evx t x) H := aop_len
theorem sop_copy {sz d s} : sop cl t H (.copy sz d s) = copyOf sz (evx t d) (evx t s) H := aop_copy
theorem sop_mnmx {m l} : sop cl t H (.mnmx m l) = mnmxOf m (l.map (evx t)) H := aop_mnmx
theorem sop_fcall {f xs} : sop cl t H (.call f xs) = cl f (xs.map (evx t)) H := _root_.id rfl
theorem sop_fcallv {x xs} : sop cl t H (.callv x xs) = match evx t x with | .fn f cap => cl f (xs.map (evx t) ++ cap) H | _ => none := _root_.id rfl
end
theorem bind_on {α β : Type} {a : α} {f : α → Option β} : (some a).bind f = f a := _root_.id rfl
theorem map_on {α β : Type} {a : α} {f : α → β} : (some a).map f = some (f a) := _root_.id rfl
theorem res_cells {t : List AV} {H : Heap} {j n} : resultOf t H [.cell j (some n)] = (aload H n (evx t (.t j))).map .agg := by simp only [resultOf, result1, Option.getD_some, evx]; cases aload H n (t.getD j .undef) <;> rfl
theorem res_cell {t : List AV} {H : Heap} {j} : resultOf t H [.cell j none] = (aload H 1 (evx t (.t j))).bind one? := by simp only [resultOf, result1, Option.getD_none, evx]; cases aload H 1 (t.getD j .undef) <;> rfl
theorem bin_shl_le {H : Heap} {k k' : IntKind} {x y : Int} : binOf .shl (.int k x) (.int k' y) H = if y < 0 then none else if y.toNat ≤ k.bits then some (.int k (k.wrap (x * 2 ^ y.toNat)), H) else some (.int k (k.wrap (x * 2 ^ k.bits)), H) := by
  rw [bin_shl]
  by_cases h : y.toNat ≤ k.bits
  · rw [Nat.min_eq_left h, if_pos h]
  · rw [Nat.min_eq_right (by omega), if_neg h]
theorem bin_shr_le {H : Heap} {k k' : IntKind} {x y : Int} : binOf .shr (.int k x) (.int k' y) H = if y < 0 then none else if y.toNat ≤ k.bits then some (.int k (x.fdiv (2 ^ y.toNat)), H) else some (.int k (x.fdiv (2 ^ k.bits)), H) := by
  rw [bin_shr]
  by_cases h : y.toNat ≤ k.bits
  · rw [Nat.min_eq_left h, if_pos h]
  · rw [Nat.min_eq_right (by omega), if_neg h]
theorem ixs_str {H : Heap} {s : ByteArray} {k : IntKind} {i : Int} : ixsOf (.str s) (.int k i) H = if 0 ≤ i then (s.data.toList[i.toNat]?).map fun b => (.int .u8 (b.toNat : Int), H) else none := _root_.id rfl
theorem iarr_ptr {H : Heap} {n sz o off : Nat} {k : IntKind} {i : Int} : iarrOf n sz (.ptr o off) (.int k i) H = if 0 ≤ i ∧ i < (n : Int) then some (.ptr o (off + i.toNat * sz), H) else none := _root_.id rfl
theorem iarr_pv {H : Heap} {n sz : Nat} {c : List AV} {k : IntKind} {i : Int} : iarrOf n sz (.pv c) (.int k i) H = if 0 ≤ i ∧ i < (n : Int) then some (.pv (c.drop (i.toNat * sz)), H) else none := _root_.id rfl
theorem iaddr_sl {H : Heap} {o off len sz sz' : Nat} {cap : Option Nat} {k : IntKind} {i : Int} : iaddrOf sz (.sl o off len sz' cap) (.int k i) H = if sz' = sz ∧ 0 ≤ i ∧ i < (len : Int) then some (.ptr o (off + i.toNat * sz), H) else none := _root_.id rfl
theorem s2b_str {H : Heap} {e : TypeId} {s : ByteArray} : bytes2Of e (.str s) H = some (.sl H.length 0 s.size 1 none, H ++ [.cells (strCells s) e true]) := _root_.id rfl
/-! ### Operations in a row, so that simp never looks ahead -/
section
variable {cl : CL} {t : List AV} {H H1 : Heap} {d : Option Nat} {o : SO} {r : List SOp} {v : AV} {i : Nat} {m : List (Nat × Nat × Nat)}
def thenOps (cl : CL) (x : Option (AV × Heap)) (d : Option Nat) (r : List SOp) (t : List AV) : Option (List AV × Heap) := x.bind fun q => ops cl r (put t d q.1) q.2
def guardOps (cl : CL) (b : Bool) (o : SO) (d : Option Nat) (r : List SOp) (t : List AV) (H : Heap) : Option (List AV × Heap) := if b = true then thenOps cl (sop cl t H o) d r t else ops cl r (put t d .undef) H
theorem then_some : thenOps cl (some (v, H)) d r t = ops cl r (put t d v) H := _root_.id rfl
theorem ops_n {dr ap} : ops cl (⟨d, o, none, dr, ap⟩ :: r) t H = thenOps cl (sop cl t H o) d r t := _root_.id rfl
theorem ops_g {dr ap g} : ops cl (⟨d, o, some g, dr, ap⟩ :: r) t H = guardOps cl (wants t (some g)) o d r t H := _root_.id rfl
theorem guard_true : guardOps cl true o d r t H = thenOps cl (sop cl t H o) d r t := _root_.id rfl
theorem guard_false : guardOps cl false o d r t H = ops cl r (put t d .undef) H := _root_.id rfl
def thenAll (cl : CL) (i : Nat) (m : List (Nat × Nat × Nat)) (x : Option (AV × Heap)) (d : Option Nat) (r : List SOp) (t : List AV) (H : Heap) : Option (List AV × Heap) :=
  x.bind fun q => if H.length ≤ q.2.length then opsd cl (i + 1) (addMade m i H.length q.2.length) r (put t d q.1) q.2 else none
def thenSome (cl : CL) (i : Nat) (m : List (Nat × Nat × Nat)) (u : List Nat) (c : Bool) (x : Option (AV × Heap)) (d : Option Nat) (r : List SOp) (t : List AV) (H : Heap) : Option (List AV × Heap) :=
  x.bind fun q => if (c = true → sameH (q.2.take H.length) (veil u m H) = true) ∧ shun u m q.1 (q.2.drop H.length) = true then opsd cl (i + 1) (addMade m i H.length q.2.length) r (put t d q.1) (H ++ q.2.drop H.length) else none
def guardd (b : Bool) (o : SO) (dr : Option (List Nat)) (cl : CL) (i : Nat) (m : List (Nat × Nat × Nat)) (d : Option Nat) (r : List SOp) (t : List AV) (H : Heap) : Option (List AV × Heap) :=
  if b = true then (match dr with | none => thenAll cl i m (sop cl t H o) d r t H | some u => thenSome cl i m u o.calls (sop cl t (veil u m H) o) d r t H) else opsd cl (i + 1) m r (put t d .undef) H
theorem apartAll_nil {H H1 : Heap} : apartAll t H H1 [] = true := _root_.id rfl
theorem opsd_n : opsd cl i m (⟨d, o, none, none, []⟩ :: r) t H = thenAll cl i m (sop cl t H o) d r t H := by
  simp only [opsd, wants, if_true, apartAll_nil, and_true]; rfl
def thenAllA (cl : CL) (i : Nat) (m : List (Nat × Nat × Nat)) (ap : List (Option (Nat × Bool) × SX)) (x : Option (AV × Heap)) (d : Option Nat) (r : List SOp) (t : List AV) (H : Heap) : Option (List AV × Heap) :=
  x.bind fun q => if H.length ≤ q.2.length ∧ apartAll t H q.2 ap = true then opsd cl (i + 1) (addMade m i H.length q.2.length) r (put t d q.1) q.2 else none
theorem opsd_a {p l} : opsd cl i m (⟨d, o, none, none, p :: l⟩ :: r) t H = thenAllA cl i m (p :: l) (sop cl t H o) d r t H := _root_.id rfl
theorem thenAllA_some {l} : thenAllA cl i m l (some (v, H1)) d r t H = if H.length ≤ H1.length ∧ apartAll t H H1 l = true then opsd cl (i + 1) (addMade m i H.length H1.length) r (put t d v) H1 else none := _root_.id rfl
theorem apartAll_n {H H1 : Heap} {x l} : apartAll t H H1 ((none, x) :: l) = (rowKept (evx t x) H H1 && apartAll t H H1 l) := _root_.id rfl
theorem apartAll_g {H H1 : Heap} {g x l} : apartAll t H H1 ((some g, x) :: l) = ((!wants t (some g) || rowKept (evx t x) H H1) && apartAll t H H1 l) := _root_.id rfl
theorem opsd_u {u} : opsd cl i m (⟨d, o, none, some u, []⟩ :: r) t H = thenSome cl i m u o.calls (sop cl t (veil u m H) o) d r t H := _root_.id rfl
theorem opsd_g {g dr} : opsd cl i m (⟨d, o, some g, dr, []⟩ :: r) t H = guardd (wants t (some g)) o dr cl i m d r t H := by
  cases dr
  · simp only [opsd, apartAll_nil, and_true]; rfl
  · rfl
theorem guardd_all : guardd true o none cl i m d r t H = thenAll cl i m (sop cl t H o) d r t H := _root_.id rfl
theorem guardd_some {u} : guardd true o (some u) cl i m d r t H = thenSome cl i m u o.calls (sop cl t (veil u m H) o) d r t H := _root_.id rfl
theorem guardd_false {dr} : guardd false o dr cl i m d r t H = opsd cl (i + 1) m r (put t d .undef) H := _root_.id rfl
theorem thenAll_some : thenAll cl i m (some (v, H1)) d r t H = if H.length ≤ H1.length then opsd cl (i + 1) (addMade m i H.length H1.length) r (put t d v) H1 else none := _root_.id rfl
theorem thenSome_some {u c} : thenSome cl i m u c (some (v, H1)) d r t H = if (c = true → sameH (H1.take H.length) (veil u m H) = true) ∧ shun u m v (H1.drop H.length) = true then opsd cl (i + 1) (addMade m i H.length H1.length) r (put t d v) (H ++ H1.drop H.length) else none := _root_.id rfl
end
theorem same_refl_row : ∀ a : AO, a.same a = true := AO.same_refl
theorem sameAt_same {o : Nat} {H : Heap} : sameAt o H H = true := by
  unfold sameAt optSame; cases H[o]? <;> simp [AO.same_refl]
theorem rowKept_same {v : AV} {H : Heap} : rowKept v H H = true := by
  unfold rowKept; cases rowOf v <;> simp [sameAt_same]
theorem rowKept_ptr {o a : Nat} {H H1 : Heap} : rowKept (.ptr o a) H H1 = sameAt o H H1 := _root_.id rfl
theorem rowKept_pv {c : List AV} {H H1 : Heap} : rowKept (.pv c) H H1 = true := _root_.id rfl
theorem sameAt_end {o : Nat} {H X Y : Heap} : sameAt (H.length + o) (H ++ X) (H ++ Y) = sameAt o X Y := by
  simp [sameAt, List.getElem?_append_right]
theorem sameAt_end0 {H X Y : Heap} : sameAt H.length (H ++ X) (H ++ Y) = sameAt 0 X Y := by
  simpa using sameAt_end (o := 0)
theorem sameAt_endK {o : Nat} {H K X Y : Heap} (h : K.length = H.length) : sameAt (H.length + o) (H ++ X) (K ++ Y) = sameAt o X Y := by
  simp only [sameAt]
  rw [List.getElem?_append_right (by omega), List.getElem?_append_right (by omega), h, Nat.add_sub_cancel_left]
theorem sameAt_endK0 {H K X Y : Heap} (h : K.length = H.length) : sameAt H.length (H ++ X) (K ++ Y) = sameAt 0 X Y := by
  simpa using sameAt_endK (o := 0) h
theorem sameAt_zero {a : AO} {X Y : Heap} : sameAt 0 (a :: X) (a :: Y) = true := by
  simp [sameAt, optSame, AO.same_refl]
theorem sameAt_suc {a b : AO} {o : Nat} {X Y : Heap} : sameAt (o + 1) (a :: X) (b :: Y) = sameAt o X Y := by simp [sameAt]
theorem fillIn_nil {ev : SX → AV} {z : List AV} : fillIn ev z [] = some z := _root_.id rfl
theorem fillIn_cons {ev : SX → AV} {z : List AV} {off n x r} : fillIn ev z ((off, n, x) :: r) = if (ev x).cells.length = n ∧ off + n ≤ z.length ∧ (ev x).cells.all AV.one = true then fillIn ev (splice z off (ev x).cells) r else none := _root_.id rfl
theorem load_n {H : Heap} {n a} : loadOf (some n) a H = (aload H n a).map fun l => (.agg l, H) := by simp [loadOf, Den.shape]; cases aload H n a <;> rfl
theorem load_1 {H : Heap} {a} : loadOf none a H = (aload H 1 a).bind fun l => (one? l).map fun v => (v, H) := _root_.id rfl
theorem one_1 {v : AV} : one? [v] = some v := _root_.id rfl
theorem store_n {H : Heap} {n a x} : storeOf n a x H = if x.cells.length = n then (astore H a x.cells).map fun H' => (.undef, H') else none := _root_.id rfl
theorem new_l {H : Heap} {l e} : anew H l e = if l.all AV.one = true then some (.ptr H.length 0, H ++ [.cells l e true]) else none := by simp only [anew]
theorem look_hit {t : List AV} {d : Nat} {v : AV} {l : List (Nat × AV)} : look1 t d ((d, v) :: l) = v := by simp [look1]
theorem look_on {t : List AV} {d e : Nat} {v : AV} {l : List (Nat × AV)} (h : (e = d) = False) : look1 t d ((e, v) :: l) = look1 t d l := by simp [look1, h]
theorem look_nil {t : List AV} {d : Nat} : look1 t d [] = t.getD d .undef := _root_.id rfl
end Go.Den
