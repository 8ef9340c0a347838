/- What code comes to, said by a condition; the operations, each by its values. -/
import Derived.Test.YthfpndelfbeknaaDen28
set_option linter.unusedVariables false
set_option linter.unusedSimpArgs false
namespace Go.Den
/-! ### The operations -/
section
variable {ev : SX → AV} {H : Heap}
def pickOf (H : Heap) : AV → AV → AV → Option (AV × Heap)
  | .bool true, a, _ => some (a, H)
  | .bool false, _, b => some (b, H)
  | _, _, _ => none
def lenOf (str : Bool) (v : AV) (H : Heap) : Option (AV × Heap) :=
  match v with
  | .str s => if str then some (.int .i64 (s.size : Int), H) else none
  | v => if str then none else (alen v).map fun (n : Nat) => (.int .i64 (n : Int), H)
def iaddrOf (sz : Nat) (x i : AV) (H : Heap) : Option (AV × Heap) :=
  (aint i).bind fun i =>
    match x with
    | .sl o off len sz' _ => if sz' = sz ∧ 0 ≤ i ∧ i < (len : Int) then some (.ptr o (off + i.toNat * sz), H) else none
    | .vs c len => if 0 ≤ i ∧ i < (len : Int) then some (.pv (c.drop (i.toNat * sz)), H) else none
    | _ => none
def iarrOf (n sz : Nat) (x i : AV) (H : Heap) : Option (AV × Heap) :=
  (aint i).bind fun i =>
    match x with
    | .ptr o off => if 0 ≤ i ∧ i < (n : Int) then some (.ptr o (off + i.toNat * sz), H) else none
    | .pv c => if 0 ≤ i ∧ i < (n : Int) then some (.pv (c.drop (i.toNat * sz)), H) else none
    | _ => none
def faddrOf (off : Nat) (x : AV) (H : Heap) : Option (AV × Heap) :=
  match x with
  | .ptr o a => some (.ptr o (a + off), H)
  | .pv c => some (.pv (c.drop off), H)
  | _ => none
def slcOf (sz : Nat) (x : AV) (lo hi mx : Option (Option Nat)) (H : Heap) : Option (AV × Heap) :=
  (alen x).bind fun n => lo.bind fun l => hi.bind fun h => mx.bind fun m => (acut sz x (l.getD 0) (h.getD n) m).map fun v => (v, H)
def boundOf : AV → Option (Option Nat)
  | .int _ i => if 0 ≤ i then some (some i.toNat) else none
  | _ => none
def eqsOf (k : Nat) (tags : List Nat) (neg : Bool) (x y : AV) (H : Heap) : Option (AV × Heap) := (aeq tags k x y).map fun b => (.bool (if neg then !b else b), H)
def convOf (k : IntKind) (x : AV) (H : Heap) : Option (AV × Heap) := (aint x).map fun n => (.int k (k.wrap n), H)
def extractOf (x : AV) (i : Nat) (H : Heap) : Option (AV × Heap) := match x with | .tup vs => (vs[i]?).map fun v => (v, H) | _ => none
def mnmxOf (mx : Bool) (l : List AV) (H : Heap) : Option (AV × Heap) := match l with | .int k a :: l => (afoldInt mx k a l).map fun v => (v, H) | _ => none
def storeOf (n : Nat) (a x : AV) (H : Heap) : Option (AV × Heap) := if x.cells.length = n then (astore H a x.cells).map fun H' => (.undef, H') else none
def loadOf (n : Option Nat) (a : AV) (H : Heap) : Option (AV × Heap) := (aload H (n.getD 1) a).bind fun l => (Den.shape n l).map fun v => (v, H)
def binOf (op : BinOp) (x y : AV) (H : Heap) : Option (AV × Heap) := (abin op x y).map fun v => (v, H)
def ixaOf (m : Option Nat) (len sz : Nat) (x i : AV) (H : Heap) : Option (AV × Heap) :=
  (aint i).bind fun i => match x with
    | .agg c => if 0 ≤ i ∧ i < (len : Int) ∧ i.toNat * sz + m.getD 1 ≤ c.length then (Den.shape m ((c.drop (i.toNat * sz)).take (m.getD 1))).map fun v => (v, H) else none
    | _ => none
def fldOf (n : Option Nat) (off : Nat) (x : AV) (H : Heap) : Option (AV × Heap) := match x with | .agg c => if off + n.getD 1 ≤ c.length then (Den.shape n ((c.drop off).take (n.getD 1))).map fun v => (v, H) else none | _ => none
def ixsOf (x i : AV) (H : Heap) : Option (AV × Heap) :=
    (aint i).bind fun i =>
      match x with
      | .str s => if 0 ≤ i then (s.data.toList[i.toNat]?).map fun b => (.int .u8 b.toNat, H) else none
      | _ => none
def copyOf (sz : Nat) (d s : AV) (H : Heap) : Option (AV × Heap) :=
    match d with
    | .nils => (alen s).map fun (_ : Nat) => (.int .i64 0, H)
    | .sl o off len sz' _ =>
      match alen s, newOf H sz s with
      | some n, some c => if sz' = sz ∧ c.length = n * sz then (astore H (.ptr o off) (c.take (min n len * sz))).map fun H' => (.int .i64 (min n len : Nat), H') else none
      | _, _ => none
    | _ => none
def mkslOf (e : TypeId) (z : List AV) (l c : AV) (H : Heap) : Option (AV × Heap) :=
    match l, c with
    | .int _ n, .int _ m => if 0 ≤ n ∧ n ≤ m ∧ roomy m.toNat = true then some (.sl H.length 0 n.toNat z.length (some m.toNat), H ++ [.cells ((List.replicate m.toNat z).flatten) e true]) else none
    | _, _ => none
def strOf (x : AV) (H : Heap) : Option (AV × Heap) := (acells H x).bind fun l => if alen x = some l.length then (bytesOf l).map fun b => (.str ⟨b.toArray⟩, H) else none
def bytes2Of (e : TypeId) (x : AV) (H : Heap) : Option (AV × Heap) := match x with | .str s => some (.sl H.length 0 s.size 1 none, H ++ [.cells (strCells s) e true]) | _ => none
def unOf (op : UnOp) (x : AV) (H : Heap) : Option (AV × Heap) := (aun op x).map fun v => (v, H)
def nilckOf (x : AV) (H : Heap) : Option (AV × Heap) := match x with | .ptr o a => some (.ptr o a, H) | .pv c => some (.pv c, H) | .fn f c => some (.fn f c, H) | _ => none
theorem aop_mv {x} : aop ev H (.mv x) = some (ev x, H) := _root_.id rfl
theorem aop_pick {c a b} : aop ev H (.pick c a b) = pickOf H (ev c) (ev a) (ev b) := by
  simp only [aop, pickOf]; split <;> simp_all
theorem aop_box {e x} : aop ev H (.box e x) = anew H (ev x).cells e := _root_.id rfl
theorem aop_build {z ps} : aop ev H (.build z ps) = (fillIn ev z ps).map fun c => (.agg c, H) := _root_.id rfl
theorem aop_bsl {e z len sz ps} : aop ev H (.bsl e z len sz ps) = (fillIn ev z ps).bind fun c => if c.all AV.one then some (.sl H.length 0 len sz (some len), H ++ [.cells c e true]) else none := _root_.id rfl
theorem aop_load {n a} : aop ev H (.load n a) = loadOf n (ev a) H := _root_.id rfl
theorem aop_store {n a x} : aop ev H (.store n a x) = storeOf n (ev a) (ev x) H := _root_.id rfl
theorem aop_nilck {x} : aop ev H (.nilck x) = nilckOf (ev x) H := _root_.id rfl
theorem aop_bin {op x y} : aop ev H (.bin op x y) = binOf op (ev x) (ev y) H := _root_.id rfl
theorem aop_eqs {k tags neg x y} : aop ev H (.eqs k tags neg x y) = eqsOf k tags neg (ev x) (ev y) H := _root_.id rfl
theorem aop_un {op x} : aop ev H (.un op x) = unOf op (ev x) H := _root_.id rfl
theorem aop_conv {k x} : aop ev H (.conv k x) = convOf k (ev x) H := _root_.id rfl
theorem aop_b2s {x} : aop ev H (.b2s x) = strOf (ev x) H := _root_.id rfl
theorem aop_s2b {e x} : aop ev H (.s2b e x) = bytes2Of e (ev x) H := _root_.id rfl
theorem aop_mkfn {f l} : aop ev H (.mkfn f l) = some (.fn f (l.map ev), H) := _root_.id rfl
theorem aop_mksl {e z l c} : aop ev H (.mksl e z l c) = mkslOf e z (ev l) (ev c) H := _root_.id rfl
def evb (ev : SX → AV) : Option SX → Option (Option Nat)
  | none => some none
  | some x => boundOf (ev x)
theorem abound_evb {o : Option SX} : abound ev o = evb ev o := by
  cases o with
  | none => rfl
  | some x => simp only [abound, evb, boundOf]; cases ev x <;> simp [aint]
theorem aop_slc {sz x lo hi mx} : aop ev H (.slc sz x lo hi mx) = slcOf sz (ev x) (evb ev lo) (evb ev hi) (evb ev mx) H := by
  simp only [aop, slcOf, abound_evb]
theorem evb_none : evb ev none = some none := _root_.id rfl
theorem evb_some {x} : evb ev (some x) = boundOf (ev x) := _root_.id rfl
theorem aop_faddr {off x} : aop ev H (.faddr off x) = faddrOf off (ev x) H := _root_.id rfl
theorem aop_fld {n off x} : aop ev H (.fld n off x) = fldOf n off (ev x) H := _root_.id rfl
theorem aop_iaddr {sz x i} : aop ev H (.iaddr sz x i) = iaddrOf sz (ev x) (ev i) H := _root_.id rfl
theorem aop_iarr {n sz x i} : aop ev H (.iarr n sz x i) = iarrOf n sz (ev x) (ev i) H := _root_.id rfl
theorem aop_ixs {x i} : aop ev H (.ixs x i) = ixsOf (ev x) (ev i) H := _root_.id rfl
theorem aop_ixa {n len sz x i} : aop ev H (.ixa n len sz x i) = ixaOf n len sz (ev x) (ev i) H := _root_.id rfl
theorem aop_extract {x i} : aop ev H (.extract x i) = extractOf (ev x) i H := _root_.id rfl
theorem aop_app {e sz s x} : aop ev H (.app e sz s x) = aapp H e sz (ev s) (ev x) := _root_.id rfl
theorem aop_len {b x} : aop ev H (.len b x) = lenOf b (ev x) H := _root_.id rfl
theorem aop_copy {sz d s} : aop ev H (.copy sz d s) = copyOf sz (ev d) (ev s) H := _root_.id rfl
theorem aop_mnmx {m l} : aop ev H (.mnmx m l) = mnmxOf m (l.map ev) H := _root_.id rfl
end
theorem pick_bool {H : Heap} {b : Bool} {x y : AV} : pickOf H (.bool b) x y = some (if b = true then x else y, H) := by cases b <;> rfl
theorem pick_or {H : Heap} {a b : Bool} : pickOf H (.bool a) (.bool true) (.bool b) = some (.bool (a || b), H) := by cases a <;> rfl
theorem pick_and {H : Heap} {a b : Bool} : pickOf H (.bool a) (.bool b) (.bool false) = some (.bool (a && b), H) := by cases a <;> rfl
theorem extract_0 {H : Heap} {a : AV} {l : List AV} : extractOf (.tup (a :: l)) 0 H = some (a, H) := _root_.id rfl
theorem extract_1 {H : Heap} {a b : AV} {l : List AV} : extractOf (.tup (a :: b :: l)) 1 H = some (b, H) := _root_.id rfl
theorem extract_2 {H : Heap} {a b c : AV} {l : List AV} : extractOf (.tup (a :: b :: c :: l)) 2 H = some (c, H) := _root_.id rfl
theorem extract_3 {H : Heap} {a b c d : AV} {l : List AV} : extractOf (.tup (a :: b :: c :: d :: l)) 3 H = some (d, H) := _root_.id rfl
theorem len_sl {H : Heap} {o off len sz cap} : lenOf false (.sl o off len sz cap) H = some (.int .i64 len, H) := _root_.id rfl
theorem len_vs {H : Heap} {c len} : lenOf false (.vs c len) H = some (.int .i64 len, H) := _root_.id rfl
theorem len_nils {H : Heap} : lenOf false .nils H = some (.int .i64 0, H) := _root_.id rfl
theorem len_str {H : Heap} {s} : lenOf true (.str s) H = some (.int .i64 s.size, H) := _root_.id rfl
theorem conv_int {H : Heap} {k k' n} : convOf k (.int k' n) H = some (.int k (k.wrap n), H) := _root_.id rfl
theorem not_bool {H : Heap} {b} : unOf .not (.bool b) H = some (.bool !b, H) := _root_.id rfl
theorem neg_int {H : Heap} {k n} : unOf .neg (.int k n) H = some (.int k (k.wrap (0 - n)), H) := _root_.id rfl
theorem mnmx_int {H : Heap} {m k a l} : mnmxOf m (.int k a :: l) H = (afoldInt m k a l).map fun v => (v, H) := _root_.id rfl
theorem nilck_ptr {H : Heap} {o a} : nilckOf (.ptr o a) H = some (.ptr o a, H) := _root_.id rfl
theorem nilck_pv {H : Heap} {c} : nilckOf (.pv c) H = some (.pv c, H) := _root_.id rfl
theorem faddr_ptr {H : Heap} {off o a} : faddrOf off (.ptr o a) H = some (.ptr o (a + off), H) := _root_.id rfl
theorem faddr_pv {H : Heap} {off c} : faddrOf off (.pv c) H = some (.pv (c.drop off), H) := _root_.id rfl
/-! ### Arithmetic -/
section
variable {H : Heap} {k : IntKind} {x y : Int}
theorem bin_add : binOf .add (.int k x) (.int k y) H = some (.int k (k.wrap (x + y)), H) := by simp [binOf, abin, aint2]
theorem bin_sub : binOf .sub (.int k x) (.int k y) H = some (.int k (k.wrap (x - y)), H) := by simp [binOf, abin, aint2]
theorem bin_mul : binOf .mul (.int k x) (.int k y) H = some (.int k (k.wrap (x * y)), H) := by simp [binOf, abin, aint2]
theorem bin_quo : binOf .quo (.int k x) (.int k y) H = if y = 0 then none else some (.int k (k.wrap (x.tdiv y)), H) := by simp [binOf, abin, aint2]; split <;> rfl
theorem bin_rem : binOf .rem (.int k x) (.int k y) H = if y = 0 then none else some (.int k (x.tmod y), H) := by simp [binOf, abin, aint2]; split <;> rfl
theorem bin_eql : binOf .eql (.int k x) (.int k y) H = some (.bool (x == y), H) := by simp [binOf, abin, aint2]
theorem bin_neq : binOf .neq (.int k x) (.int k y) H = some (.bool (x != y), H) := by simp [binOf, abin, aint2]
theorem bin_lss : binOf .lss (.int k x) (.int k y) H = some (.bool (decide (x < y)), H) := by simp [binOf, abin, aint2]
theorem bin_leq : binOf .leq (.int k x) (.int k y) H = some (.bool (decide (x ≤ y)), H) := by simp [binOf, abin, aint2]
theorem bin_gtr : binOf .gtr (.int k x) (.int k y) H = some (.bool (decide (x > y)), H) := by simp [binOf, abin, aint2]
theorem bin_geq : binOf .geq (.int k x) (.int k y) H = some (.bool (decide (x ≥ y)), H) := by simp [binOf, abin, aint2]
theorem bin_and : binOf .and (.int k x) (.int k y) H = some (.int k (abits .and k x y), H) := by simp [binOf, abin, aint2]
theorem bin_or : binOf .or (.int k x) (.int k y) H = some (.int k (abits .or k x y), H) := by simp [binOf, abin, aint2]
theorem bin_xor : binOf .xor (.int k x) (.int k y) H = some (.int k (abits .xor k x y), H) := by simp [binOf, abin, aint2]
theorem bin_andNot : binOf .andNot (.int k x) (.int k y) H = some (.int k (abits .andNot k x y), H) := by simp [binOf, abin, aint2]
theorem bin_shl {k' : IntKind} : binOf .shl (.int k x) (.int k' y) H = if y < 0 then none else some (.int k (k.wrap (x * 2 ^ (min y.toNat k.bits))), H) := by
  simp [binOf, abin, ashift]; split <;> rfl
theorem bin_shr {k' : IntKind} : binOf .shr (.int k x) (.int k' y) H = if y < 0 then none else some (.int k (x.fdiv (2 ^ (min y.toNat k.bits))), H) := by
  simp [binOf, abin, ashift]; split <;> rfl
end
theorem wrap_u8 {x : Int} (h0 : 0 ≤ x) (h1 : x < 256) : IntKind.u8.wrap x = x := by
  have e : (2 ^ IntKind.u8.bits : Int) = 256 := by decide
  unfold IntKind.wrap
  simp only [e, show IntKind.u8.signed = false from rfl]
  simp
  omega
theorem wrap_u16 {x : Int} (h0 : 0 ≤ x) (h1 : x < 65536) : IntKind.u16.wrap x = x := by
  have e : (2 ^ IntKind.u16.bits : Int) = 65536 := by decide
  unfold IntKind.wrap
  simp only [e, show IntKind.u16.signed = false from rfl]
  simp
  omega
theorem wrap_u32 {x : Int} (h0 : 0 ≤ x) (h1 : x < 4294967296) : IntKind.u32.wrap x = x := by
  have e : (2 ^ IntKind.u32.bits : Int) = 4294967296 := by decide
  unfold IntKind.wrap
  simp only [e, show IntKind.u32.signed = false from rfl]
  simp
  omega
theorem wrap_i64 {x : Int} (h0 : -9223372036854775808 ≤ x) (h1 : x < 9223372036854775808) : IntKind.i64.wrap x = x := by
  have e : (2 ^ IntKind.i64.bits : Int) = 18446744073709551616 := by decide
  have e2 : (2 ^ (IntKind.i64.bits - 1) : Int) = 9223372036854775808 := by decide
  unfold IntKind.wrap
  simp only [e, e2, show IntKind.i64.signed = true from rfl]
  split <;> simp at * <;> omega
theorem bits_i64 : IntKind.bits .i64 = 64 := _root_.id rfl
theorem bits_u8 : IntKind.bits .u8 = 8 := _root_.id rfl
theorem bits_u16 : IntKind.bits .u16 = 16 := _root_.id rfl
theorem bits_u32 : IntKind.bits .u32 = 32 := _root_.id rfl
theorem bits_u64 : IntKind.bits .u64 = 64 := _root_.id rfl
theorem if_max {a b : Int} : (if a < b then b else a) = max a b := by split <;> omega
theorem if_min {a b : Int} : (if b < a then b else a) = min a b := by split <;> omega
theorem afold_max {k : IntKind} {a b : Int} {l : List AV} : afoldInt true k a (.int k b :: l) = afoldInt true k (max a b) l := by
  simp only [afoldInt, if_true, gt_iff_lt, if_max]
theorem afold_min {k : IntKind} {a b : Int} {l : List AV} : afoldInt false k a (.int k b :: l) = afoldInt false k (min a b) l := by
  simp only [afoldInt, Bool.false_eq_true, if_false, if_true, if_min]
theorem afold_nil {m : Bool} {k : IntKind} {a : Int} : afoldInt m k a [] = some (.int k a) := _root_.id rfl
/-! ### Ends -/
def Ends (cl : CL) (x : SC) (t : List AV) (H : Heap) (Q : AX → List AV → Heap → Prop) : Prop := ∃ s, code cl x t H = some s ∧ Q s.x s.t s.H
def Gets (o : Option (List AV × Heap)) (Q : AX → List AV → Heap → Prop) : Prop := ∃ q, o = some q ∧ Q .normal q.1 q.2
theorem gets_some {t : List AV} {H : Heap} {Q : AX → List AV → Heap → Prop} : Gets (some (t, H)) Q = Q .normal t H := by simp [Gets]
section
variable {cl : CL} {t : List AV} {H : Heap} {Q : AX → List AV → Heap → Prop}
theorem ends_skip : Ends cl .skip t H Q = Q .normal t H := by simp [Ends, code_skip]
theorem ends_exit {id} : Ends cl (.exit id) t H Q = Q (.exit id) t H := by simp [Ends, code_exit]
theorem ends_ret : Ends cl .ret t H Q = Q .ret t H := by simp [Ends, code_ret]
theorem ends_reg {l} : Ends cl (.reg l) t H Q = Gets (ops cl l t H) Q := by
  apply propext
  simp only [Ends, Gets, code_reg, Option.map_eq_some_iff]
  constructor
  · rintro ⟨s, ⟨q, h1, rfl⟩, h2⟩; exact ⟨q, h1, h2⟩
  · rintro ⟨q, h1, h2⟩; exact ⟨_, ⟨q, h1, rfl⟩, h2⟩
theorem ends_regd {l} : Ends cl (.regd l) t H Q = Gets (opsd cl 0 [] l t H) Q := by
  apply propext
  simp only [Ends, Gets, code_regd, Option.map_eq_some_iff]
  constructor
  · rintro ⟨s, ⟨q, h1, rfl⟩, h2⟩; exact ⟨q, h1, h2⟩
  · rintro ⟨q, h1, h2⟩; exact ⟨_, ⟨q, h1, rfl⟩, h2⟩
def onward (cl : CL) (b : SC) (Q : AX → List AV → Heap → Prop) : AX → List AV → Heap → Prop
  | .normal, t, H => Ends cl b t H Q
  | x, t, H => Q x t H
theorem onward_normal {b} : onward cl b Q .normal t H = Ends cl b t H Q := _root_.id rfl
theorem onward_exit {b id} : onward cl b Q (.exit id) t H = Q (.exit id) t H := _root_.id rfl
theorem onward_ret {b} : onward cl b Q .ret t H = Q .ret t H := _root_.id rfl
theorem ends_seq {a b} : Ends cl (.seq a b) t H Q = Ends cl a t H (onward cl b Q) := by
  apply propext
  simp only [Ends, code_seq, Option.bind_eq_some_iff]
  constructor
  · rintro ⟨s, ⟨⟨x, t1, H1⟩, h1, h2⟩, h3⟩
    refine ⟨_, h1, ?_⟩
    cases x with
    | normal => exact ⟨s, h2, h3⟩
    | exit id => injection h2 with h2; subst h2; exact h3
    | ret => injection h2 with h2; subst h2; exact h3
  · rintro ⟨⟨x, t1, H1⟩, h1, h2⟩
    cases x with
    | normal => obtain ⟨s, h3, h4⟩ := h2; exact ⟨s, ⟨_, h1, h3⟩, h4⟩
    | exit id => exact ⟨_, ⟨_, h1, rfl⟩, h2⟩
    | ret => exact ⟨_, ⟨_, h1, rfl⟩, h2⟩
def Cond (v : AV) (p q : Prop) : Prop :=
  match v with
  | .bool b => if b = true then p else q
  | _ => False
theorem cond_bool {b : Bool} {p q : Prop} : Cond (.bool b) p q = if b = true then p else q := _root_.id rfl
theorem ends_cond {e a b} : Ends cl (.cond e a b) t H Q = Cond (evx t e) (Ends cl a t H Q) (Ends cl b t H Q) := by
  apply propext
  simp only [Ends, code_cond, Cond]
  cases evx t e <;> simp
  rename_i b; cases b <;> simp
def blocked (id : Nat) (Q : AX → List AV → Heap → Prop) : AX → List AV → Heap → Prop
  | .exit j, t, H => if j = id then Q .normal t H else Q (.exit j) t H
  | x, t, H => Q x t H
theorem blocked_normal {id} : blocked id Q .normal t H = Q .normal t H := _root_.id rfl
theorem blocked_ret {id} : blocked id Q .ret t H = Q .ret t H := _root_.id rfl
theorem blocked_exit {id j} : blocked id Q (.exit j) t H = if j = id then Q .normal t H else Q (.exit j) t H := _root_.id rfl
theorem ends_block {id a} : Ends cl (.block id a) t H Q = Ends cl a t H (blocked id Q) := by
  apply propext
  simp only [Ends, code_block, Option.map_eq_some_iff]
  constructor
  · rintro ⟨s, ⟨⟨x, t1, H1⟩, h1, rfl⟩, h3⟩
    refine ⟨_, h1, ?_⟩
    cases x with
    | exit j =>
      simp only [inBlock] at h3
      simp only [blocked]
      split at h3
      · rename_i hj; rw [if_pos hj]; exact h3
      · rename_i hj; rw [if_neg hj]; exact h3
    | normal => exact h3
    | ret => exact h3
  · rintro ⟨⟨x, t1, H1⟩, h1, h2⟩
    refine ⟨_, ⟨_, h1, rfl⟩, ?_⟩
    cases x with
    | exit j =>
      simp only [blocked] at h2
      simp only [inBlock]
      split at h2
      · rename_i hj; rw [if_pos hj]; exact h2
      · rename_i hj; rw [if_neg hj]; exact h2
    | normal => exact h2
    | ret => exact h2
/-- Again, with less to do. -/
def again (I : Nat → List AV → Heap → Prop) (k : Nat) (Q : AX → List AV → Heap → Prop) : AX → List AV → Heap → Prop
  | .normal, t, H => ∃ j, j < k ∧ I j t H
  | x, t, H => Q x t H
theorem again_normal {I k} : again I k Q .normal t H = ∃ j, j < k ∧ I j t H := _root_.id rfl
theorem again_exit {I k id} : again I k Q (.exit id) t H = Q (.exit id) t H := _root_.id rfl
theorem again_ret {I k} : again I k Q .ret t H = Q .ret t H := _root_.id rfl
theorem ends_loop {a} (I : Nat → List AV → Heap → Prop) (k : Nat) (h : I k t H) (step : ∀ k t H, I k t H → Ends cl a t H (again I k Q)) : Ends cl (.loop a) t H Q := by
  induction k using Nat.strongRecOn generalizing t H with
  | ind k ih =>
    obtain ⟨⟨x, t1, H1⟩, h1, h2⟩ := step k t H h
    rw [Ends, code_loop]
    simp only [h1, Option.bind_some]
    cases x with
    | normal =>
      obtain ⟨j, hj, hI⟩ := h2
      exact ih j hj hI
    | exit id => exact ⟨_, rfl, h2⟩
    | ret => exact ⟨_, rfl, h2⟩
theorem Ends.mono {x} {P : AX → List AV → Heap → Prop} (h : Ends cl x t H P) (hp : ∀ x t H, P x t H → Q x t H) : Ends cl x t H Q := by
  obtain ⟨s, h1, h2⟩ := h; exact ⟨s, h1, hp _ _ _ h2⟩
end
/-- A call's end. -/
def Left (H : Heap) (rs : List SRes) (r : AV × Heap) : AX → List AV → Heap → Prop := fun x t H1 => leave H rs ⟨x, t, H1⟩ = some r
theorem left_ret {H H1 : Heap} {rs : List SRes} {r : AV × Heap} {t : List AV} : Left H rs r .ret t H1 = ((resultOf t H1 rs).map (fun v => tidy H v H1) = some r) := _root_.id rfl
theorem left_normal {H H1 : Heap} {rs : List SRes} {r : AV × Heap} {t : List AV} : Left H rs r .normal t H1 = ((resultOf t H1 rs).map (fun v => tidy H v H1) = some r) := _root_.id rfl
theorem call_ends {e : Env} {f : Nat} {args : List AV} {H : Heap} {r : AV × Heap} {fn : SFn} (hI : e.isI f = false) (hf : e.E f = some fn) (hl : args.length ≤ fn.ntmps)
    (h : Ends (call e) fn.body (tm (blank fn.ntmps) (idx 0 args)) H (Left H fn.results r)) : call e f args H = some r := by
  refine call_body hI hf ?_
  rw [tm_start hl]
  obtain ⟨⟨x, t, H1⟩, h1, h2⟩ := h
  rw [h1]
  exact h2
theorem res1 {t : List AV} {H : Heap} {k} : resultOf t H [.tmp k] = some (evx t (.t k)) := _root_.id rfl
theorem res2 {t : List AV} {H : Heap} {j k} : resultOf t H [.tmp j, .tmp k] = some (.tup [evx t (.t j), evx t (.t k)]) := _root_.id rfl
theorem res3 {t : List AV} {H : Heap} {j k l} : resultOf t H [.tmp j, .tmp k, .tmp l] = some (.tup [evx t (.t j), evx t (.t k), evx t (.t l)]) := _root_.id rfl
theorem res0 {t : List AV} {H : Heap} : resultOf t H [] = some (.tup []) := _root_.id rfl
end Go.Den
