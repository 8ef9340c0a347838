/- The machine: texts 1 to 2. -/
import GoSem.Core.World
import GoSem.Core.View
import GoSem.Op.String
import GoSem.Core.Utf8
import Derived.Orders
/- The abstract machine of these proofs: values, a heap of rows that are known by number, a slim form of the code, and what it comes to. -/
namespace Go.Den

/-- A value. ptr, sl: into a row of the heap; pv, vs: what came in, told by its cells, read alone. -/
inductive AV where
  | int (k : IntKind) (n : Int)
  | bool (b : Bool)
  | str (s : ByteArray)
  | ptr (o off : Nat)
  | pv (cells : List AV)
  | nilp
  | nili
  | sl (o off len sz : Nat) (cap : Option Nat)
  | vs (cells : List AV) (len : Nat)
  | nils
  | fn (f : Nat) (cap : List AV)
  | nilf
  | mp (o : Nat)
  | agg (cs : List AV)
  | tup (cs : List AV)
  | undef
  deriving Inhabited

mutual
def AV.same : AV → AV → Bool
  | .int k n, .int k' n' => decide (k = k') && decide (n = n')
  | .bool b, .bool b' => b == b'
  | .str s, .str s' => decide (s = s')
  | .ptr o a, .ptr o' a' => o == o' && a == a'
  | .pv c, .pv c' => sames c c'
  | .nilp, .nilp => true
  | .nili, .nili => true
  | .sl o a l z c, .sl o' a' l' z' c' => o == o' && a == a' && l == l' && z == z' && c == c'
  | .vs c n, .vs c' n' => n == n' && sames c c'
  | .nils, .nils => true
  | .fn f c, .fn f' c' => f == f' && sames c c'
  | .nilf, .nilf => true
  | .mp o, .mp o' => o == o'
  | .agg c, .agg c' => sames c c'
  | .tup c, .tup c' => sames c c'
  | .undef, .undef => true
  | _, _ => false
def sames : List AV → List AV → Bool
  | [], [] => true
  | a :: l, b :: m => a.same b && sames l m
  | _, _ => false
end

mutual
/-- Every row that it leads to is one of these. -/
def AV.leads (p : Nat → Bool) : AV → Bool
  | .ptr o _ => p o
  | .sl o _ _ _ _ => p o
  | .mp o => p o
  | .fn _ c => leadss p c
  | .agg c => leadss p c
  | .tup c => leadss p c
  | _ => true
def leadss (p : Nat → Bool) : List AV → Bool
  | [] => true
  | a :: l => a.leads p && leadss p l
end
def AV.under (n : Nat) (v : AV) : Bool := v.leads fun o => decide (o < n)
def unders (n : Nat) (l : List AV) : Bool := leadss (fun o => decide (o < n)) l

/-- A value of one cell. -/
def AV.one : AV → Bool
  | .agg _ => false
  | .tup _ => false
  | .undef => false
  | _ => true
def AV.cells : AV → List AV
  | .agg c => c
  | v => [v]

/-- A row of the heap: its cells as far as they are known, the type of its elements, may it be written; cells of which it isn't known what is frozen behind them; a map: its keys, what they stand for. -/
inductive AO where
  | cells (l : List AV) (e : TypeId) (rw : Bool)
  | raw (l : List AV) (e : TypeId)
  | mp (ks vs : List AV)
  | iter (s : ByteArray) (pos : Nat)
  | dead
  deriving Inhabited
def AO.same : AO → AO → Bool
  | .cells l e r, .cells l' e' r' => e == e' && r == r' && sames l l'
  | .raw l e, .raw l' e' => e == e' && sames l l'
  | .mp k v, .mp k' v' => sames k k' && sames v v'
  | .iter s p, .iter s' p' => decide (s = s') && p == p'
  | .dead, .dead => true
  | _, _ => false
def AO.under (n : Nat) : AO → Bool
  | .cells l _ _ => unders n l
  | .raw l _ => unders n l
  | .mp k v => unders n k && unders n v
  | _ => true
abbrev Heap := List AO

/-! ### The slim code -/
inductive SX where
  | t (n : Nat)
  | v (a : AV)
  deriving Inhabited
inductive SO where
  | mv (x : SX)
  | pick (c a b : SX)
  | box (e : TypeId) (x : SX)
  | build (z : List AV) (parts : List (Nat × Nat × SX))
  | bsl (e : TypeId) (z : List AV) (len sz : Nat) (parts : List (Nat × Nat × SX))
  | load (n : Option Nat) (a : SX)
  | store (n : Nat) (a x : SX)
  | nilck (x : SX)
  | bin (op : BinOp) (x y : SX)
  | eqs (k : Nat) (tags : List Nat) (neg : Bool) (x y : SX)
  | un (op : UnOp) (x : SX)
  | conv (k : IntKind) (x : SX)
  | b2s (x : SX)
  | s2b (e : TypeId) (x : SX)
  | s2r (e : TypeId) (x : SX)
  | mkfn (f : Nat) (cap : List SX)
  | mksl (e : TypeId) (z : List AV) (l c : SX)
  | slc (sz : Nat) (x : SX) (lo hi mx : Option SX)
  | slstr (x : SX) (lo hi : Option SX)
  | slarr (n sz : Nat) (x : SX) (lo hi mx : Option SX)
  | faddr (off : Nat) (x : SX)
  | fld (n : Option Nat) (off : Nat) (x : SX)
  | iaddr (sz : Nat) (x i : SX)
  | iarr (n sz : Nat) (x i : SX)
  | ixs (x i : SX)
  | ixa (n : Option Nat) (len sz : Nat) (x i : SX)
  | extract (x : SX) (i : Nat)
  | call (f : Nat) (xs : List SX)
  | callv (x : SX) (xs : List SX)
  | app (e : TypeId) (sz : Nat) (s x : SX)
  | len (str : Bool) (x : SX)
  | cap (x : SX)
  | sdata (x : SX)
  | ustr (e : TypeId) (p n : SX)
  | appn (e : TypeId) (z : List AV) (s x : SX)
  | copy (sz : Nat) (d s : SX)
  | clear (z : List AV) (x : SX)
  | mnmx (mx : Bool) (xs : List SX)
  | range (x : SX)
  | next (x : SX)
  | mkmap
  | lookup (tags : List Nat) (z : AV) (ok : Bool) (x i : SX)
  | mapup (tags : List Nat) (x k v : SX)
  | mapent (tags : List Nat) (z : AV) (x k : SX)
  | entst (x s v : SX)
  | mlen (x : SX)
  | bad
  deriving Inhabited
/-- draw: of an operation in a region that draws its order: none: it waits for all that touch memory; some l: those whose rows it doesn't know. -/
def SX.use : SX → List Nat
  | .t n => [n]
  | .v _ => []
def SX.useo : Option SX → List Nat
  | some x => x.use
  | none => []
def SX.usep : List (Nat × Nat × SX) → List Nat
  | [] => []
  | p :: l => p.2.2.use ++ SX.usep l
def SX.usel : List SX → List Nat
  | [] => []
  | x :: l => x.use ++ SX.usel l
/-- The temporaries that an operation looks at. -/
def SO.uses : SO → List Nat
  | .mv x => x.use
  | .pick c a b => c.use ++ a.use ++ b.use
  | .box _ x => x.use
  | .build _ ps => SX.usep ps
  | .bsl _ _ _ _ ps => SX.usep ps
  | .load _ a => a.use
  | .store _ a x => a.use ++ x.use
  | .nilck x => x.use
  | .bin _ x y => x.use ++ y.use
  | .eqs _ _ _ x y => x.use ++ y.use
  | .un _ x => x.use
  | .conv _ x => x.use
  | .b2s x => x.use
  | .s2b _ x => x.use
  | .s2r _ x => x.use
  | .mkfn _ l => SX.usel l
  | .mksl _ _ l c => l.use ++ c.use
  | .slc _ x lo hi mx => x.use ++ SX.useo lo ++ SX.useo hi ++ SX.useo mx
  | .slstr x lo hi => x.use ++ SX.useo lo ++ SX.useo hi
  | .slarr _ _ x lo hi mx => x.use ++ SX.useo lo ++ SX.useo hi ++ SX.useo mx
  | .faddr _ x => x.use
  | .fld _ _ x => x.use
  | .iaddr _ x i => x.use ++ i.use
  | .iarr _ _ x i => x.use ++ i.use
  | .ixs x i => x.use ++ i.use
  | .ixa _ _ _ x i => x.use ++ i.use
  | .extract x _ => x.use
  | .call _ xs => SX.usel xs
  | .callv x xs => x.use ++ SX.usel xs
  | .app _ _ s x => s.use ++ x.use
  | .len _ x => x.use
  | .cap x => x.use
  | .sdata x => x.use
  | .ustr _ p n => p.use ++ n.use
  | .appn _ _ s x => s.use ++ x.use
  | .copy _ d s => d.use ++ s.use
  | .clear _ x => x.use
  | .mnmx _ xs => SX.usel xs
  | .range x => x.use
  | .next x => x.use
  | .mkmap => []
  | .lookup _ _ _ x i => x.use ++ i.use
  | .mapup _ x k v => x.use ++ k.use ++ v.use
  | .mapent _ _ x k => x.use ++ k.use
  | .entst x s v => x.use ++ s.use ++ v.use
  | .mlen x => x.use
  | .bad => []
structure SOp where
  dst : Option Nat
  op : SO
  guard : Option (Nat × Bool)
  draw : Option (List Nat)
  apart : List (Option (Nat × Bool) × SX)
  deriving Inhabited
inductive SC where
  | skip
  | reg (ops : List SOp)
  | regd (ops : List SOp)
  | seq (a b : SC)
  | cond (c : SX) (a b : SC)
  | block (id : Nat) (a : SC)
  | loop (a : SC)
  | exit (id : Nat)
  | ret
  deriving Inhabited
inductive SRes where
  | tmp (t : Nat)
  | cell (t : Nat) (n : Option Nat)
  deriving Inhabited
structure SFn where
  ntmps : Nat
  results : List SRes
  body : SC
  deriving Inhabited

/-! ### What an operation comes to -/
def arow (H : Heap) (o : Nat) : Option (List AV) :=
  match H[o]? with
  | some (.cells l _ _) => some l
  | some (.raw l _) => some l
  | _ => none
/-- n cells from a place on. -/
def aload (H : Heap) (n : Nat) : AV → Option (List AV)
  | .ptr o off =>
    match arow H o with
    | some l => if off + n ≤ l.length then some ((l.drop off).take n) else none
    | none => none
  | .pv l => if n ≤ l.length then some (l.take n) else none
  | _ => none
def one? : List AV → Option AV
  | [v] => some v
  | _ => none
/-- a value of one cell, or of n. -/
def shape (n : Option Nat) (l : List AV) : Option AV :=
  match n with
  | some _ => some (.agg l)
  | none => one? l
def splice (l : List AV) (off : Nat) (vs : List AV) : List AV := l.take off ++ vs ++ l.drop (off + vs.length)
def astore (H : Heap) (a : AV) (vs : List AV) : Option Heap :=
  match a with
  | .ptr o off =>
    match H[o]? with
    | some (.cells l e true) => if off + vs.length ≤ l.length ∧ vs.all AV.one = true then some (H.set o (.cells (splice l off vs) e true)) else none
    | some (.raw l e) => if off + vs.length ≤ l.length ∧ vs.all AV.one = true then some (H.set o (.raw (splice l off vs) e)) else none
    | _ => none
  | _ => none
/-- A slice's cells. -/
def acells (H : Heap) : AV → Option (List AV)
  | .sl o off len sz _ => aload H (len * sz) (.ptr o off)
  | .vs l _ => some l
  | .nils => some []
  | _ => none
def alen : AV → Option Nat
  | .sl _ _ len _ _ => some len
  | .vs _ n => some n
  | .nils => some 0
  | .str s => some s.size
  | _ => none
def strCells (s : ByteArray) : List AV := s.data.toList.map fun b => .int .u8 b.toNat
def anew (H : Heap) (l : List AV) (e : TypeId) : Option (AV × Heap) :=
  if l.all AV.one then some (.ptr H.length 0, H ++ [.cells l e true]) else none
/-- parts laid over cells. -/
def fillIn (ev : SX → AV) (z : List AV) : List (Nat × Nat × SX) → Option (List AV)
  | [] => some z
  | (off, n, x) :: r =>
    let c := (ev x).cells
    if c.length = n ∧ off + n ≤ z.length ∧ c.all AV.one = true then fillIn ev (splice z off c) r else none
def aint : AV → Option Int
  | .int _ n => some n
  | _ => none
/-- a bound that may be left out. -/
def abound (ev : SX → AV) : Option SX → Option (Option Nat)
  | none => some none
  | some x => (aint (ev x)).bind fun i => if 0 ≤ i then some (some i.toNat) else none
def abits (op : BinOp) (k : IntKind) (x y : Int) : Int :=
  match op with
  | .and => k.wrap (BitVec.ofInt k.bits x &&& BitVec.ofInt k.bits y).toNat
  | .or => k.wrap (BitVec.ofInt k.bits x ||| BitVec.ofInt k.bits y).toNat
  | .xor => k.wrap (BitVec.ofInt k.bits x ^^^ BitVec.ofInt k.bits y).toNat
  | _ => k.wrap (BitVec.ofInt k.bits x &&& ~~~ (BitVec.ofInt k.bits y)).toNat
def ashift (op : BinOp) (k : IntKind) (x y : Int) : Option AV :=
  if y < 0 then none else
  match op with
  | .shl => some (.int k (k.wrap (x * 2 ^ (min y.toNat k.bits))))
  | .shr => some (.int k (x.fdiv (2 ^ (min y.toNat k.bits))))
  | _ => none
def aint2 (op : BinOp) (k : IntKind) (x y : Int) : Option AV :=
  match op with
  | .add => some (.int k (k.wrap (x + y)))
  | .sub => some (.int k (k.wrap (x - y)))
  | .mul => some (.int k (k.wrap (x * y)))
  | .quo => if y = 0 then none else some (.int k (k.wrap (x.tdiv y)))
  | .rem => if y = 0 then none else some (.int k (x.tmod y))
  | .and => some (.int k (abits .and k x y))
  | .or => some (.int k (abits .or k x y))
  | .xor => some (.int k (abits .xor k x y))
  | .andNot => some (.int k (abits .andNot k x y))
  | .eql => some (.bool (x == y))
  | .neq => some (.bool (x != y))
  | .lss => some (.bool (decide (x < y)))
  | .leq => some (.bool (decide (x ≤ y)))
  | .gtr => some (.bool (decide (x > y)))
  | .geq => some (.bool (decide (x ≥ y)))
  | _ => none
def astr2 (op : BinOp) (x y : ByteArray) : Option AV :=
  match op with
  | .add => if ((x.size + y.size : Nat) : Int) ≤ 9223372036854775807 then some (.str (x ++ y)) else none
  | .eql => some (.bool (x.toList == y.toList))
  | .neq => some (.bool !(x.toList == y.toList))
  | .lss => some (.bool (Op.bytesLess x.toList y.toList))
  | .leq => some (.bool (Op.bytesLess x.toList y.toList || x.toList == y.toList))
  | .gtr => some (.bool !(Op.bytesLess x.toList y.toList || x.toList == y.toList))
  | .geq => some (.bool !(Op.bytesLess x.toList y.toList))
  | _ => none
def abin (op : BinOp) : AV → AV → Option AV
  | .int k x, .int k' y =>
    match op with
    | .shl => ashift .shl k x y
    | .shr => ashift .shr k x y
    | op => if k = k' then aint2 op k x y else none
  | .str x, .str y => astr2 op x y
  | _, _ => none
/-- == of cells, by their tags: 0: bool, 1: int, 2: string. -/
def aeqs : List Nat → List AV → List AV → Option Bool
  | [], [], [] => some true
  | g :: ts, a :: l, b :: m =>
    match g, a, b with
    | 0, .bool x, .bool y => (aeqs ts l m).map ((x == y) && ·)
    | 1, .int k x, .int k' y => if k = k' then (aeqs ts l m).map ((x == y) && ·) else none
    | 2, .str x, .str y => (aeqs ts l m).map ((x == y) && ·)
    | _, _, _ => none
  | _, _, _ => none
/-- kinds: 0: bools, 1: pointers, 2: slices, 3: functions, else: structs, arrays. -/
def aeq (tags : List Nat) : Nat → AV → AV → Option Bool
  | 0, .bool x, .bool y => some (x == y)
  | 1, .nilp, .nilp => some true
  | 1, .nilp, .ptr _ _ => some false
  | 1, .ptr _ _, .nilp => some false
  | 1, .nilp, .pv _ => some false
  | 1, .pv _, .nilp => some false
  | 2, .nils, .nils => some true
  | 2, .nils, .sl _ _ _ _ _ => some false
  | 2, .sl _ _ _ _ _, .nils => some false
  | 2, .nils, .vs _ _ => some false
  | 2, .vs _ _, .nils => some false
  | 3, .nilf, .nilf => some true
  | 3, .nilf, .fn _ _ => some false
  | 3, .fn _ _, .nilf => some false
  | 4, .agg l, .agg m => aeqs tags l m
  | _, _, _ => none
def aun (op : UnOp) : AV → Option AV
  | .int k n =>
    match op with
    | .neg => some (.int k (k.wrap (0 - n)))
    | .xor => some (.int k (abits .xor k (if k.signed then -1 else k.max) n))
    | _ => none
  | .bool b =>
    match op with
    | .not => some (.bool !b)
    | _ => none
  | _ => none
def bytesOf : List AV → Option (List UInt8)
  | [] => some []
  | .int .u8 n :: l => (bytesOf l).map (UInt8.ofNat n.toNat :: ·)
  | _ => none
/-- A cut of a slice: from l up to h. -/
def acut (sz : Nat) (x : AV) (l h : Nat) (mx : Option Nat) : Option AV :=
  match x with
  | .sl o off len sz' cap =>
    match mx with
    | none => if sz' = sz ∧ l ≤ h ∧ h ≤ len then some (.sl o (off + l * sz) (h - l) sz (cap.map (· - l))) else none
    | some m => if sz' = sz ∧ l ≤ h ∧ h ≤ m ∧ m ≤ len then some (.sl o (off + l * sz) (h - l) sz (some (m - l))) else none
  | .vs c len =>
    match mx with
    | none => if l ≤ h ∧ h ≤ len then some (.vs ((c.drop (l * sz)).take ((h - l) * sz)) (h - l)) else none
    | some _ => none
  | .nils => if l = 0 ∧ h = 0 ∧ mx = none then some .nils else none
  | _ => none
def afoldInt (mx : Bool) (k : IntKind) : Int → List AV → Option AV
  | a, [] => some (.int k a)
  | a, .int k' b :: l => if k' = k then afoldInt mx k (if mx then (if b > a then b else a) else (if b < a then b else a)) l else none
  | _, _ => none
def atake (vs : List AV) (i : Nat) : Option AV := vs[i]?
/-- how many elements a slice may have that is appended to or made. -/
def roomy (n : Nat) : Bool := decide (n ≤ 4294967296)
def newOf (H : Heap) (sz : Nat) : AV → Option (List AV)
  | .str s => if sz = 1 then some (strCells s) else none
  | x => acells H x
/-- May a slice be appended to behind what is frozen of its row? (Then of each row it is known how far it is frozen: a seat's choice.) -/
def appf : Bool := false
/-- The package-level tables of integers that are known: their numbers, what they hold. -/
def globs : List (Nat × IntKind × List Int) := [(0, .u8, [0, 1, 56, 2, 57, 49, 28, 3, 61, 58, 42, 50, 38, 29, 17, 4, 62, 47, 59, 36, 45, 43, 51, 22, 53, 39, 33, 30, 24, 18, 12, 5, 63, 55, 48, 27, 60, 41, 37, 16, 46, 35, 44, 21, 52, 32, 23, 11, 54, 26, 40, 15, 34, 20, 31, 10, 25, 14, 19, 9, 13, 8, 7, 6]), (1, .u64, [1, 10, 100, 1000, 10000, 100000, 1000000, 10000000, 100000000, 1000000000, 10000000000, 100000000000, 1000000000000, 10000000000000, 100000000000000, 1000000000000000, 10000000000000000, 100000000000000000, 1000000000000000000, 10000000000000000000]), (4, .u8, [0, 1, 28, 2, 29, 14, 24, 3, 30, 22, 20, 15, 25, 17, 4, 8, 31, 27, 13, 23, 21, 19, 16, 7, 26, 12, 18, 6, 11, 5, 10, 9])]
def aapp (H : Heap) (e : TypeId) (sz : Nat) (s x : AV) : Option (AV × Heap) :=
  match alen x, newOf H sz x with
  | some n, some new =>
    if n = 0 then
      match s with
      | .sl _ _ _ _ _ => some (s, H)
      | .vs _ _ => some (s, H)
      | .nils => some (s, H)
      | _ => none
    else if new.length = n * sz ∧ new.all AV.one = true then
      match s with
      | .nils => if roomy n then some (.sl H.length 0 n sz none, H ++ [.cells new e true]) else none
      | .sl o off len sz' cap =>
        match H[o]? with
        | some (.cells l e' rw) =>
          if sz' = sz ∧ e' = e ∧ off + len * sz ≤ l.length ∧ roomy (len + n) = true then
            match cap with
            | some c =>
              if len + n > c then some (.sl H.length 0 (len + n) sz none, H ++ [.cells ((l.drop off).take (len * sz) ++ new) e true])
              else if rw then some (.sl H.length 0 (len + n) sz none, H.set o .dead ++ [.cells ((l.drop off).take (len * sz) ++ new) e true]) else none
            | none =>
              if rw then some (.sl H.length 0 (len + n) sz none, H.set o .dead ++ [.cells ((l.drop off).take (len * sz) ++ new) e true])
              else if appf = true ∧ off + len * sz = l.length then some (.sl H.length 0 (len + n) sz none, H.set o .dead ++ [.cells ((l.drop off).take (len * sz) ++ new) e false])
              else none
          else none
        | _ => none
      | _ => none
    else none
  | _, _ => none
def AV.isInt : AV → Bool
  | .int _ _ => true
  | _ => false
/-- == of keys: numbers, or structs of numbers. -/
def akey (tags : List Nat) : AV → AV → Option Bool
  | .int k a, .int k' b => if k = k' ∧ tags.length = 0 then some (a == b) else none
  | .agg l, .agg m => if l.length = tags.length ∧ m.length = tags.length ∧ tags.length ≠ 0 ∧ l.all AV.isInt = true then aeqs tags l m else none
  | _, _ => none
/-- Where a key is. -/
def afind (tags : List Nat) (k : AV) : List AV → Nat → Option (Option Nat)
  | [], _ => some none
  | a :: l, i => match akey tags k a with | some true => some (some i) | some false => afind tags k l (i + 1) | none => none
/-- a map's row. -/
def amap (H : Heap) : AV → Option (Nat × List AV × List AV)
  | .mp o => match H[o]? with | some (.mp ks vs) => some (o, ks, vs) | _ => none
  | _ => none
def aop (ev : SX → AV) (H : Heap) : SO → Option (AV × Heap)
  | .mv x => some (ev x, H)
  | .pick c a b => match ev c with | .bool true => some (ev a, H) | .bool false => some (ev b, H) | _ => none
  | .box e x => anew H (ev x).cells e
  | .build z parts => (fillIn ev z parts).map fun c => (.agg c, H)
  | .bsl e z len sz parts => (fillIn ev z parts).bind fun c => if c.all AV.one then some (.sl H.length 0 len sz (some len), H ++ [.cells c e true]) else none
  | .load n a => (aload H (n.getD 1) (ev a)).bind fun l => (shape n l).map fun v => (v, H)
  | .store n a x => if (ev x).cells.length = n then (astore H (ev a) (ev x).cells).map fun H' => (.undef, H') else none
  | .nilck x => match ev x with | .ptr o a => some (.ptr o a, H) | .pv c => some (.pv c, H) | .fn f c => some (.fn f c, H) | _ => none
  | .bin op x y => (abin op (ev x) (ev y)).map fun v => (v, H)
  | .eqs k tags neg x y => (aeq tags k (ev x) (ev y)).map fun b => (.bool (if neg then !b else b), H)
  | .un op x => (aun op (ev x)).map fun v => (v, H)
  | .conv k x => (aint (ev x)).map fun n => (.int k (k.wrap n), H)
  | .b2s x => (acells H (ev x)).bind fun l => if alen (ev x) = some l.length then (bytesOf l).map fun b => (.str ⟨b.toArray⟩, H) else none
  | .s2b e x => match ev x with | .str s => some (.sl H.length 0 s.size 1 none, H ++ [.cells (strCells s) e true]) | _ => none
  | .s2r e x => match ev x with | .str s => some (.sl H.length 0 s.size 1 none, H ++ [.raw (strCells s) e]) | _ => none
  | .mkfn f cap => some (.fn f (cap.map ev), H)
  | .mksl e z l c =>
    match ev l, ev c with
    | .int _ n, .int _ m => if 0 ≤ n ∧ n ≤ m ∧ roomy m.toNat = true then some (.sl H.length 0 n.toNat z.length (some m.toNat), H ++ [.cells ((List.replicate m.toNat z).flatten) e true]) else none
    | _, _ => none
  | .slc sz x lo hi mx =>
    (alen (ev x)).bind fun n => (abound ev lo).bind fun l => (abound ev hi).bind fun h => (abound ev mx).bind fun m =>
      (acut sz (ev x) (l.getD 0) (h.getD n) m).map fun v => (v, H)
  | .slstr x lo hi =>
    match ev x with
    | .str s => (abound ev lo).bind fun l => (abound ev hi).bind fun h =>
        if l.getD 0 ≤ h.getD s.size ∧ h.getD s.size ≤ s.size then some (.str (s.extract (l.getD 0) (h.getD s.size)), H) else none
    | _ => none
  | .slarr n sz x lo hi mx =>
    match ev x with
    | .ptr o off => (arow H o).bind fun row => (abound ev lo).bind fun l => (abound ev hi).bind fun h => (abound ev mx).bind fun m =>
        if l.getD 0 ≤ h.getD n ∧ h.getD n ≤ m.getD n ∧ m.getD n ≤ n ∧ off + n * sz ≤ row.length then some (.sl o (off + l.getD 0 * sz) (h.getD n - l.getD 0) sz (some (m.getD n - l.getD 0)), H) else none
    | _ => none
  | .faddr off x => match ev x with | .ptr o a => some (.ptr o (a + off), H) | .pv c => some (.pv (c.drop off), H) | _ => none
  | .fld n off x => match ev x with | .agg c => if off + n.getD 1 ≤ c.length then (shape n ((c.drop off).take (n.getD 1))).map fun v => (v, H) else none | _ => none
  | .iaddr sz x i =>
    (aint (ev i)).bind fun i =>
      match ev x with
      | .sl o off len sz' _ => if sz' = sz ∧ 0 ≤ i ∧ i < (len : Int) then some (.ptr o (off + i.toNat * sz), H) else none
      | .vs c len => if 0 ≤ i ∧ i < (len : Int) then some (.pv (c.drop (i.toNat * sz)), H) else none
      | _ => none
  | .iarr n sz x i =>
    (aint (ev i)).bind fun i =>
      match ev x with
      | .ptr o off => if 0 ≤ i ∧ i < (n : Int) then some (.ptr o (off + i.toNat * sz), H) else none
      | .pv c => if 0 ≤ i ∧ i < (n : Int) then some (.pv (c.drop (i.toNat * sz)), H) else none
      | _ => none
  | .ixs x i =>
    (aint (ev i)).bind fun i =>
      match ev x with
      | .str s => if 0 ≤ i then (s.data.toList[i.toNat]?).map fun b => (.int .u8 b.toNat, H) else none
      | _ => none
  | .ixa m len sz x i =>
    (aint (ev i)).bind fun i =>
      match ev x with
      | .agg c => if 0 ≤ i ∧ i < (len : Int) ∧ i.toNat * sz + m.getD 1 ≤ c.length then (shape m ((c.drop (i.toNat * sz)).take (m.getD 1))).map fun v => (v, H) else none
      | _ => none
  | .extract x i => match ev x with | .tup vs => (vs[i]?).map fun v => (v, H) | _ => none
  | .call _ _ => none
  | .callv _ _ => none
  | .bad => none
  | .app e sz s x => aapp H e sz (ev s) (ev x)
  | .len str x =>
    match ev x with
    | .str s => if str then some (.int .i64 (s.size : Int), H) else none
    | v => if str then none else (alen v).map fun (n : Nat) => (.int .i64 (n : Int), H)
  | .cap x =>
    match ev x with
    | .nils => some (.int .i64 0, H)
    | .sl _ _ _ _ (some c) => some (.int .i64 (c : Int), H)
    | _ => none
  | .sdata x =>
    match ev x with
    | .nils => some (.nilp, H)
    | .sl o off len _ _ => if len = 0 then none else some (.ptr o off, H)
    | _ => none
  | .ustr e p n =>
    match ev p, ev n with
    | .nilp, .int .i64 m => if m = 0 then some (.str ⟨#[]⟩, H) else none
    | .ptr o off, .int .i64 m =>
      match H[o]? with
      | some (.cells l e' _) =>
        if e' = e ∧ 0 < m ∧ m ≤ 9223372036854775807 ∧ off + m.toNat ≤ l.length then (bytesOf ((l.drop off).take m.toNat)).map fun b => (.str ⟨b.toArray⟩, H.set o (.cells l e' false)) else none
      | _ => none
    | _, _ => none
  | .appn e z s x =>
    match ev s, ev x with
    | .nils, .int _ n =>
      if n = 0 then some (.nils, H)
      else if 0 ≤ n ∧ roomy n.toNat = true then some (.sl H.length 0 n.toNat z.length none, H ++ [.cells ((List.replicate n.toNat z).flatten) e true])
      else none
    | _, _ => none
  | .copy sz d s =>
    match ev d with
    | .nils => (alen (ev s)).map fun (_ : Nat) => (.int .i64 0, H)
    | .sl o off len sz' _ =>
      match alen (ev s), newOf H sz (ev s) with
      | some n, some c => if sz' = sz ∧ c.length = n * sz then (astore H (.ptr o off) (c.take (min n len * sz))).map fun H' => (.int .i64 (min n len : Nat), H') else none
      | _, _ => none
    | _ => none
  | .clear z x =>
    match ev x with
    | .nils => some (.tup [], H)
    | .sl o off len _ _ => if len = 0 then some (.tup [], H) else (astore H (.ptr o off) ((List.replicate len z).flatten)).map fun H' => (.tup [], H')
    | _ => none
  | .mnmx mx xs => match xs.map ev with | .int k a :: l => (afoldInt mx k a l).map fun v => (v, H) | _ => none
  | .range x => match ev x with | .str s => some (.ptr H.length 0, H ++ [.iter s 0]) | _ => none
  | .mkmap => some (.mp H.length, H ++ [.mp [] []])
  | .lookup tags z ok x i =>
    (amap H (ev x)).bind fun m => if akey tags (ev i) (ev i) = some true then (afind tags (ev i) m.2.1 0).bind fun r =>
      some (match r with
        | some j => if ok then .tup [m.2.2.getD j .undef, .bool true] else m.2.2.getD j .undef
        | none => if ok then .tup [z, .bool false] else z, H) else none
  | .mapup tags x k v =>
    (amap H (ev x)).bind fun m => if akey tags (ev k) (ev k) = some true then (afind tags (ev k) m.2.1 0).bind fun r =>
      some (.undef, match r with
        | some j => H.set m.1 (.mp m.2.1 (m.2.2.set j (ev v)))
        | none => H.set m.1 (.mp (m.2.1 ++ [ev k]) (m.2.2 ++ [ev v]))) else none
  | .mapent tags z x k =>
    (amap H (ev x)).bind fun m => if akey tags (ev k) (ev k) = some true then (afind tags (ev k) m.2.1 0).bind fun r =>
      some (match r with
        | some j => (.tup [m.2.2.getD j .undef, .int .i64 j], H)
        | none => (.tup [z, .int .i64 m.2.1.length], H.set m.1 (.mp (m.2.1 ++ [ev k]) (m.2.2 ++ [z])))) else none
  | .entst x s v =>
    (amap H (ev x)).bind fun m => match ev s with
      | .int .i64 j => if 0 ≤ j ∧ j.toNat < m.2.2.length then some (.undef, H.set m.1 (.mp m.2.1 (m.2.2.set j.toNat (ev v)))) else none
      | _ => none
  | .mlen x => (amap H (ev x)).map fun m => (.int .i64 (m.2.1.length : Int), H)
  | .next x =>
    match ev x with
    | .ptr o 0 =>
      match H[o]? with
      | some (.iter s pos) =>
        if pos < s.size then some (.tup [.bool true, .int .i64 pos, .int .i32 (Utf8.decode s pos).1], H.set o (.iter s (pos + (Utf8.decode s pos).2)))
        else some (.tup [.bool false], H)
      | _ => none
    | _ => none

def evx (t : List AV) : SX → AV
  | .t n => t.getD n .undef
  | .v a => a
def put (t : List AV) (d : Option Nat) (v : AV) : List AV :=
  match d with
  | some d => t.set d v
  | none => t
def bool? : AV → Option Bool
  | .bool b => some b
  | _ => none
def wants (t : List AV) : Option (Nat × Bool) → Bool
  | none => true
  | some (j, b) => match bool? (t.getD j .undef) with | some c => c == b | none => false

/-- Behind a call: what isn't led to any more is forgotten; a result in new memory stands alone. -/
def keepOld (n : Nat) : Heap → Heap → Bool
  | [], _ => true
  | a :: H, b :: H1 => (a.same b || b.under n) && keepOld n H H1
  | _ :: _, [] => false
abbrev Moved := List Nat × List AO
/-- The types of whose rows it is known that they are blocks of their own: strings.Builder, structs that hold one alone. -/
def whole (e : TypeId) : Bool := [999999999].contains e
mutual
def AV.carry (n : Nat) (H1 : Heap) (m : Moved) : AV → Option (AV × Moved)
  | .ptr o off =>
    if o < n then some (.ptr o off, m) else
    match H1[o]? with
    | some (.cells l e rw) => if m.1.contains o = false ∧ unders n l = true then some (.ptr (n + m.2.length) off, (m.1 ++ [o], m.2 ++ [.cells l e rw])) else none
    | _ => none
  | .sl o off len sz cap =>
    if o < n then some (.sl o off len sz cap, m) else
    match H1[o]? with
    | some (.cells l e rw) =>
      if m.1.contains o = false ∧ unders n ((l.drop off).take (len * sz)) = true ∧ off + len * sz ≤ l.length ∧ whole e = false ∧ (rw || !appf || off + len * sz == l.length) = true then
        some (.sl (n + m.2.length) 0 len sz cap, (m.1 ++ [o], m.2 ++ [.cells ((l.drop off).take (len * sz)) e rw]))
      else none
    | _ => none
  | .mp o => if o < n then some (.mp o, m) else none
  | .fn f c => if unders n c then some (.fn f c, m) else none
  | .agg c => (carries n H1 m c).map fun r => (.agg r.1, r.2)
  | .tup c => (carries n H1 m c).map fun r => (.tup r.1, r.2)
  | v => some (v, m)
def carries (n : Nat) (H1 : Heap) (m : Moved) : List AV → Option (List AV × Moved)
  | [] => some ([], m)
  | a :: l => (a.carry n H1 m).bind fun r => (carries n H1 r.2 l).map fun q => (r.1 :: q.1, q.2)
end
def tidy (H : Heap) (v : AV) (H1 : Heap) : AV × Heap :=
  if keepOld H.length H H1 then
    match v.carry H.length H1 ([], []) with
    | some (v', m) => (v', H1.take H.length ++ m.2)
    | none => (v, H1)
  else (v, H1)

inductive AX where
  | normal
  | exit (id : Nat)
  | ret
  deriving Inhabited, DecidableEq
structure St where
  x : AX
  t : List AV
  H : Heap
  deriving Inhabited

def result1 (t : List AV) (H : Heap) : SRes → Option AV
  | .tmp n => some (t.getD n .undef)
  | .cell n k => (aload H (k.getD 1) (t.getD n .undef)).bind (shape k)
def resultOf (t : List AV) (H : Heap) (rs : List SRes) : Option AV :=
  match rs with
  | [r] => result1 t H r
  | rs => (rs.mapM (result1 t H)).map .tup
def AO.leads (p : Nat → Bool) : AO → Bool
  | .cells l _ _ => leadss p l
  | .raw l _ => leadss p l
  | .mp k v => leadss p k && leadss p v
  | _ => true
def inRows (p : Nat × Nat × Nat) (r : Nat) : Bool := decide (p.2.1 ≤ r) && decide (r < p.2.1 + p.2.2)
/-- no value here leads to the rows made by these operations. -/
def shun (unknown : List Nat) (made : List (Nat × Nat × Nat)) (v : AV) (new : Heap) : Bool :=
  made.all fun p => !unknown.contains p.1 || (v.leads (fun r => !inRows p r) && new.all fun o => o.leads fun r => !inRows p r)
/-- the rows made by some operations are not known here: of each: the operation, the first row, how many. -/
def veil (unknown : List Nat) : List (Nat × Nat × Nat) → Heap → Heap
  | [], H => H
  | p :: r, H => veil unknown r (if unknown.contains p.1 then H.take p.2.1 ++ List.replicate p.2.2 .dead ++ H.drop (p.2.1 + p.2.2) else H)
def sameH : Heap → Heap → Bool
  | [], [] => true
  | a :: l, b :: m => a.same b && sameH l m
  | _, _ => false

/-! ### What code comes to -/
abbrev CL := Nat → List AV → Heap → Option (AV × Heap)
def sop (cl : CL) (t : List AV) (H : Heap) : SO → Option (AV × Heap)
  | .call f xs => cl f (xs.map (evx t)) H
  | .callv x xs => match evx t x with | .fn f cap => cl f (xs.map (evx t) ++ cap) H | _ => none
  | o => aop (evx t) H o
def ops (cl : CL) : List SOp → List AV → Heap → Option (List AV × Heap)
  | [], t, H => some (t, H)
  | o :: r, t, H =>
    if wants t o.guard then (sop cl t H o.op).bind fun q => ops cl r (put t o.dst q.1) q.2
    else ops cl r (put t o.dst .undef) H
def SO.calls : SO → Bool
  | .call _ _ => true
  | .callv _ _ => true
  | _ => false
/-- The row that a value leads to at once. -/
def rowOf : AV → Option Nat
  | .ptr o _ => some o
  | .sl o _ _ _ _ => some o
  | _ => none
def optSame : Option AO → Option AO → Bool
  | some a, some b => a.same b
  | none, none => true
  | _, _ => false
/-- a row is as it was. -/
def sameAt (o : Nat) (H H1 : Heap) : Bool := optSame H[o]? H1[o]?
def rowKept (v : AV) (H H1 : Heap) : Bool :=
  match v with
  | .tup _ => sameH (H1.take H.length) H
  | v => match rowOf v with | some o => sameAt o H H1 | none => true
/-- an operation leaves the rows be that loads look at which no order binds to it. -/
def apartAll (t : List AV) (H H1 : Heap) (l : List (Option (Nat × Bool) × SX)) : Bool := l.all fun p => !wants t p.1 || rowKept (evx t p.2) H H1
def addMade (made : List (Nat × Nat × Nat)) (i n m : Nat) : List (Nat × Nat × Nat) := if m = n then made else made ++ [(i, n, m - n)]
def opsd (cl : CL) : Nat → List (Nat × Nat × Nat) → List SOp → List AV → Heap → Option (List AV × Heap)
  | _, _, [], t, H => some (t, H)
  | i, made, o :: r, t, H =>
    if wants t o.guard then
      match o.draw with
      | none => (sop cl t H o.op).bind fun q => if H.length ≤ q.2.length ∧ apartAll t H q.2 o.apart = true then opsd cl (i + 1) (addMade made i H.length q.2.length) r (put t o.dst q.1) q.2 else none
      | some unknown =>
        (sop cl t (veil unknown made H) o.op).bind fun q =>
          if (o.op.calls = true → sameH (q.2.take H.length) (veil unknown made H) = true) ∧ shun unknown made q.1 (q.2.drop H.length) = true then
            opsd cl (i + 1) (addMade made i H.length q.2.length) r (put t o.dst q.1) (H ++ q.2.drop H.length)
          else none
    else opsd cl (i + 1) made r (put t o.dst .undef) H
def codeW (cl : CL) : Nat → SC → List AV → Heap → Option St
  | 0, _, _, _ => none
  | k + 1, c, t, H =>
    match c with
    | .skip => some ⟨.normal, t, H⟩
    | .reg l => (ops cl l t H).map fun q => ⟨.normal, q.1, q.2⟩
    | .regd l => (opsd cl 0 [] l t H).map fun q => ⟨.normal, q.1, q.2⟩
    | .seq a b => (codeW cl k a t H).bind fun s => match s.x with | .normal => codeW cl k b s.t s.H | _ => some s
    | .cond c a b => match evx t c with | .bool true => codeW cl k a t H | .bool false => codeW cl k b t H | _ => none
    | .block id a => (codeW cl k a t H).map fun s => match s.x with | .exit j => if j = id then ⟨.normal, s.t, s.H⟩ else s | _ => s
    | .loop a => (codeW cl k a t H).bind fun s => match s.x with | .normal => codeW cl k (.loop a) s.t s.H | _ => some s
    | .exit id => some ⟨.exit id, t, H⟩
    | .ret => some ⟨.ret, t, H⟩
def leave (H : Heap) (rs : List SRes) (s : St) : Option (AV × Heap) :=
  match s.x with
  | .exit _ => none
  | _ => (resultOf s.t s.H rs).map fun v => tidy H v s.H
/-- E: the program's functions; I: those that are told otherwise. -/
structure Env where
  E : Nat → Option SFn
  I : CL
  isI : Nat → Bool
def callN (e : Env) : Nat → CL
  | 0, _, _, _ => none
  | n + 1, f, args, H =>
    if e.isI f then e.I f args H else
    (e.E f).bind fun fn => (codeW (callN e n) n fn.body (args ++ List.replicate (fn.ntmps - args.length) .undef) H).bind fun s => leave H fn.results s
end Go.Den

/- From the loaded code to the slim one: only what is understood is taken. -/
namespace Go.Den

def absV1 : Value → Option AV
  | .int k n => some (.int k n)
  | .bool b => some (.bool b)
  | .string s => some (.str s)
  | .pointer none => some .nilp
  | .nilIface => some .nili
  | .slice none 0 0 => some .nils
  | .nilFunc => some .nilf
  | _ => none
def absV : Value → Option AV
  | .agg cs => (cs.toList.mapM absV1).map .agg
  | v => absV1 v
def slimX : Operand → Option SX
  | .tmp t => some (.t t)
  | .const v => (absV v).map .v
  | .func f => some (.v (.fn f []))
  | .global g => (globs.find? fun p => p.1 == g).map fun p => .v (.pv (p.2.2.map fun n => .int p.2.1 n))
def slimO : Option Operand → Option (Option SX)
  | none => some none
  | some x => (slimX x).map some
def isAggT (P : Program) (t : TypeId) : Bool :=
  match P.underlying t with
  | some (.struct _) => true
  | some (.array _ _) => true
  | _ => false
/-- one cell, or so many. -/
def shapeT (P : Program) (t : TypeId) : Option (Option Nat) :=
  match P.info? t, P.underlying t with
  | some i, some (.struct _) => some (some i.size)
  | some i, some (.array _ _) => some (some i.size)
  | some i, some _ => if i.size = 1 then some none else none
  | _, _ => none
def sizeT (P : Program) (t : TypeId) : Option Nat := (P.info? t).map (·.size)
def zeroT (P : Program) (t : TypeId) : Option AV := (P.info? t).bind fun i => i.zero.bind absV
def tagsL (g : TypeId → Option (List Nat)) : Nat → List Field → Option (List Nat)
  | _, [] => some []
  | off, f :: fs => if f.name = "_" ∨ f.offset ≠ off then none else (g f.type).bind fun a => (tagsL g (off + a.length) fs).map (a ++ ·)
/-- what the cells of a type are that == compares at once: 0: bool, 1: int, 2: string. -/
def eqTags (P : Program) : Nat → TypeId → Option (List Nat)
  | 0, _ => none
  | d + 1, t =>
    (match P.underlying t with
    | some .bool => some [0]
    | some (.int _) => some [1]
    | some .string => some [2]
    | some (.struct fs) => if P.stoodInHeld t then none else tagsL (eqTags P d) 0 fs.toList
    | some (.array len e) => (eqTags P d e).map fun r => (List.replicate len r).flatten
    | _ => none : Option (List Nat)).bind fun r => if r.length = P.cellsOf t then some r else none
/-- the tags of a key's cells: a number, or a struct of numbers. -/
def keyTags (P : Program) (t : TypeId) : Option (List Nat) :=
  match P.underlying t with
  | some (.int _) => some []
  | some (.struct fs) => if fs.toList.all (fun f => match P.underlying f.type with | some (.int _) => true | _ => false) = true then (eqTags P 20 t).bind fun r => if r.length ≠ 0 then some r else none else none
  | _ => none
def slimParts (place : Nat → Option (Nat × Nat)) (l : List (Nat × Operand)) : Option (List (Nat × Nat × SX)) :=
  l.mapM fun p => (place p.1).bind fun q => (slimX p.2).map fun x => (q.1, q.2, x)
def slimCall (P : Program) (c : Call) : Option SO :=
  (c.args.toList.mapM slimX).bind fun xs =>
  match c.callee with
  | .value (.func f) => some (.call f xs)
  | .value (.tmp t) => some (.callv (.t t) xs)
  | .builtin b =>
    match b, c.argTypes.toList, xs with
    | .append, [t, u], [s, x] =>
      match P.underlying t, P.underlying u with
      | some (.slice e), some (.slice _) => (P.info? e).bind fun i => (zeroT P e).bind fun z => if i.bytes ≤ 1024 ∧ i.size ≠ 0 ∧ z.cells.length = i.size ∧ whole e = false then some (.app e i.size s x) else none
      | some (.slice e), some .string => (P.info? e).bind fun i => (zeroT P e).bind fun z => if i.bytes ≤ 1024 ∧ i.size ≠ 0 ∧ z.cells.length = i.size ∧ whole e = false then some (.app e i.size s x) else none
      | some (.slice e), some (.int _) => (P.info? e).bind fun i => (zeroT P e).bind fun z => if i.bytes ≤ 1024 ∧ i.size ≠ 0 ∧ z.cells.length = i.size ∧ whole e = false then some (.appn e z.cells s x) else none
      | _, _ => none
    | .cap, [t], [x] =>
      match P.underlying t with
      | some (.slice _) => some (.cap x)
      | _ => none
    | .unsafeSliceData, [t], [x] =>
      match P.underlying t with
      | some (.slice _) => some (.sdata x)
      | _ => none
    | .unsafeString, [t, _], [p, n] =>
      match P.underlying t with
      | some (.pointer e) => if P.cellsOf e = 1 then some (.ustr e p n) else none
      | _ => none
    | .len, [t], [x] =>
      match P.underlying t with
      | some (.slice _) => some (.len false x)
      | some (.map _ _) => some (.mlen x)
      | some .string => some (.len true x)
      | some (.array n _) => some (.mv (.v (.int .i64 n)))
      | _ => none
    | .copy, [t, _], [d, s] =>
      match P.underlying t with
      | some (.slice e) => (sizeT P e).bind fun n => if n ≠ 0 then some (.copy n d s) else none
      | _ => none
    | .clear, [t], [x] =>
      match P.underlying t with
      | some (.slice e) => (zeroT P e).bind fun z => if z.cells.length ≠ 0 then some (.clear z.cells x) else none
      | _ => none
    | .min, _, xs => some (.mnmx false xs)
    | .max, _, xs => some (.mnmx true xs)
    | _, _, _ => none
  | _ => none
def slimMk (f : Fn) (first cap : List Operand) : Option SO :=
  match f, first with
  | .func f, [] => (cap.mapM slimX).map fun l => .mkfn f l
  | _, _ => none
def slimOp (P : Program) : Op → Option SO
  | .move x => (slimX x).map .mv
  | .assign x => (slimX x).map .mv
  | .pick c a b => (slimX c).bind fun c => (slimX a).bind fun a => (slimX b).map fun b => .pick c a b
  | .alloc e => (zeroT P e).map fun z => .box e (.v z)
  | .box e x => (slimX x).map fun x => .box e x
  | .build t parts =>
    (zeroT P t).bind fun z =>
    match P.underlying t with
    | some (.struct fs) => (fs.toList.mapM fun f => (sizeT P f.type).map fun n => (f.offset, n)).bind fun pl => (slimParts (fun i => pl[i]?) parts.toList).map fun l => .build z.cells l
    | some (.array _ e) => (sizeT P e).bind fun n => (slimParts (fun i => some (i * n, n)) parts.toList).map fun l => .build z.cells l
    | _ => none
  | .buildSlice t len parts =>
    match P.underlying t with
    | some (.slice e) => (sizeT P e).bind fun n => (zeroT P e).bind fun z => if len * n ≤ 2 ^ 24 ∧ z.cells.length = n ∧ n ≠ 0 then (slimParts (fun i => some (i * n, n)) parts.toList).map fun l => .bsl e (List.replicate len z.cells).flatten len n l else none
    | _ => none
  | .load t a => (shapeT P t).bind fun s => (slimX a).map fun a => .load s a
  | .store t a x => (sizeT P t).bind fun n => (slimX a).bind fun a => (slimX x).map fun x => .store n a x
  | .nilCheck x => (slimX x).map .nilck
  | .binOp op t x y _ =>
    (slimX x).bind fun sx => (slimX y).bind fun sy =>
    match P.underlying t with
    | some (.int _) => some (.bin op sx sy)
    | some .string => some (.bin op sx sy)
    | some d =>
      if op = .eql ∨ op = .neq then
        match d with
        | .bool => some (.eqs 0 [] (op = .neq) sx sy)
        | .pointer _ => some (.eqs 1 [] (op = .neq) sx sy)
        | .slice _ => some (.eqs 2 [] (op = .neq) sx sy)
        | .func _ _ _ => some (.eqs 3 [] (op = .neq) sx sy)
        | _ => (eqTags P 20 t).bind fun tags => if isAggT P t = true ∧ P.eqGuardType P.depth t = false then some (.eqs 4 tags (op = .neq) sx sy) else none
      else none
    | none => none
  | .unOp op _ x => (slimX x).map fun x => .un op x
  | .convert s d x =>
    (slimX x).bind fun x =>
    match P.underlying s, P.underlying d with
    | some (.int _), some (.int k) => some (.conv k x)
    | some (.slice e), some .string => match P.underlying e with | some (.int .u8) => some (.b2s x) | _ => none
    | some .string, some (.slice e) => match P.underlying e with | some (.int .u8) => if whole e = false then some (if appf = true then .s2r e x else .s2b e x) else none | _ => none
    | _, _ => none
  | .makeFunc f first cap => slimMk f first.toList cap.toList
  | .makeSlice t l c =>
    match P.underlying t with
    | some (.slice e) => (P.info? e).bind fun i => (zeroT P e).bind fun z => if i.bytes ≤ 1024 ∧ z.cells.length = i.size ∧ i.size ≠ 0 then (slimX l).bind fun l => (slimX c).map fun c => .mksl e z.cells l c else none
    | _ => none
  | .slice t x lo hi mx =>
    (slimX x).bind fun x => (slimO lo).bind fun lo => (slimO hi).bind fun hi => (slimO mx).bind fun mx =>
    match P.underlying t with
    | some (.slice e) => (sizeT P e).bind fun n => if n ≠ 0 ∧ (mx.isSome = true → hi.isSome = true) then some (.slc n x lo hi mx) else none
    | some .string => if mx.isNone then some (.slstr x lo hi) else none
    | some (.array n e) => (sizeT P e).bind fun z => if z ≠ 0 ∧ (mx.isSome = true → hi.isSome = true) then some (.slarr n z x lo hi mx) else none
    | _ => none
  | .fieldAddr t x i =>
    match P.underlying t with
    | some (.struct fs) => (fs[i]?).bind fun f => (sizeT P f.type).bind fun n => if n ≠ 0 then (slimX x).map fun x => .faddr f.offset x else none
    | _ => none
  | .field t x i =>
    match P.underlying t with
    | some (.struct fs) => (fs[i]?).bind fun f => (shapeT P f.type).bind fun s => (slimX x).map fun x => .fld s f.offset x
    | _ => none
  | .indexAddr t x i =>
    (slimX x).bind fun x => (slimX i).bind fun i =>
    match P.underlying t with
    | some (.slice e) => (sizeT P e).bind fun n => if n ≠ 0 then some (.iaddr n x i) else none
    | some (.array m e) => (sizeT P e).bind fun n => if n ≠ 0 then some (.iarr m n x i) else none
    | _ => none
  | .index t x i =>
    (slimX x).bind fun x => (slimX i).bind fun i =>
    match P.underlying t with
    | some .string => some (.ixs x i)
    | some (.array m e) => (sizeT P e).bind fun n => (shapeT P e).map fun s => .ixa s m n x i
    | _ => none
  | .extract x i => (slimX x).map fun x => .extract x i
  | .call c => slimCall P c
  | .range t x => match P.underlying t with | some .string => (slimX x).map .range | _ => none
  | .next x b => if b then (slimX x).map .next else none
  | .makeMap t r => match P.underlying t, r with | some (.map _ _), none => some .mkmap | some (.map _ _), some (.const (.int _ _)) => some .mkmap | _, _ => none
  | .lookup t x i ok =>
    match P.underlying t with
    | some (.map k e) => (keyTags P k).bind fun tags => (zeroT P e).bind fun z => (slimX x).bind fun x => (slimX i).map fun i => .lookup tags z ok x i
    | _ => none
  | .mapUpdate t m k x =>
    match P.underlying t with
    | some (.map kt _) => (keyTags P kt).bind fun tags => (slimX m).bind fun m => (slimX k).bind fun k => (slimX x).map fun x => .mapup tags m k x
    | _ => none
  | .insert t m k x =>
    match P.underlying t with
    | some (.map kt _) => (keyTags P kt).bind fun tags => (slimX m).bind fun m => (slimX k).bind fun k => (slimX x).map fun x => .mapup tags m k x
    | _ => none
  | .mapEntry t m k =>
    match P.underlying t with
    | some (.map kt e) => (keyTags P kt).bind fun tags => (zeroT P e).bind fun z => (slimX m).bind fun m => (slimX k).map fun k => .mapent tags z m k
    | _ => none
  | .entryStore t m s x => (slimX m).bind fun m => (slimX s).bind fun s => (slimX x).map fun x => .entst m s x
  | _ => none

inductive Touch where
  | no | reads | makes | writes | calls
  deriving DecidableEq
def SO.touch : SO → Touch
  | .box _ _ => .makes
  | .bsl _ _ _ _ _ => .makes
  | .load _ _ => .reads
  | .store _ _ _ => .writes
  | .b2s _ => .reads
  | .slarr _ _ _ _ _ _ => .reads
  | .s2b _ _ => .makes
  | .s2r _ _ => .makes
  | .mkmap => .makes
  | .lookup _ _ _ _ _ => .reads
  | .mlen _ => .reads
  | .mapup _ _ _ _ => .writes
  | .mapent _ _ _ _ => .writes
  | .entst _ _ _ => .writes
  | .mksl _ _ _ _ => .makes
  | .appn _ _ _ _ => .makes
  | .call _ _ => .calls
  | .callv _ _ => .calls
  | .app _ _ _ _ => .writes
  | .ustr _ _ _ => .writes
  | .copy _ _ _ => .writes
  | .clear _ _ => .writes
  | .range _ => .makes
  | .next _ => .writes
  | _ => .no
def slimG (ops : Array Oper) : Option (Nat × Bool) → Option (Option (Nat × Bool))
  | none => some none
  | some (j, b) => ((ops[j]?).bind (·.dst)).map fun d => some (d, b)
/-- an operation: a call of a function, or one that calls none. -/
def slimOne (P : Program) : Op → Option SO
  | .call c => slimCall P c
  | op => (slimOp P op).bind fun s => if s.calls then none else some s
def slimOper (P : Program) (ops : Array Oper) (o : Oper) : Option SOp :=
  (slimG ops o.guard).map fun g => { dst := o.dst, op := (slimOne P o.op).getD .bad, guard := g, draw := none, apart := [] }
/-- which operations come ahead of each. -/
def ahead (ops : List Oper) : List (List Nat) :=
  ops.foldl (fun acc o => acc ++ [(o.after.toList.filter (Region.binds .any)).foldl (fun l e => l ++ (e.on :: acc.getD e.on []).filter (fun x => !l.contains x)) []]) []
def upTo (n : Nat) (p : Nat → Bool) : Bool := (List.range n).all p
def writesTo (d : Option Nat) (l : List Nat) : Bool :=
  match d with
  | some d => l.contains d
  | none => false
def isLoad : SO → Option SX
  | .load _ a => some a
  | _ => none
def isStore : SO → Bool
  | .store _ _ _ => true
  | _ => false
def guardUse : Option (Nat × Bool) → List Nat
  | none => []
  | some g => [g.1]
def touches (l : List SOp) (i : Nat) : Bool := ((l[i]?).map fun o => o.op.touch != .no).getD false
def loadsAt (l : List SOp) (i : Nat) : Bool := ((l[i]?).map fun o => (isLoad o.op).isSome).getD false
/-- a load, and something that touches memory: no order binds them. -/
def floaty (l : List SOp) (anc : List (List Nat)) (i : Nat) : Bool :=
  loadsAt l i && (List.range l.length).any fun j => touches l j && ((decide (j < i) && !(anc.getD i []).contains j) || (decide (i < j) && !(anc.getD j []).contains i))
/-- from which operation on each that touches memory waits for all of these ahead of it, but for loads. -/
def barrier (l : List SOp) (anc : List (List Nat)) : Nat :=
  let n := l.length
  let full (i : Nat) : Bool := !touches l i || floaty l anc i || upTo i fun j => !touches l j || (anc.getD i []).contains j || floaty l anc j
  ((List.range n).reverse.foldl (fun (a : Nat × Bool) i => if a.2 && full i then (i, true) else (a.1, false)) (n, true)).1
def isLate (l : List SOp) (anc : List (List Nat)) (b i : Nat) : Bool := touches l i && decide (b ≤ i) && !floaty l anc i
/-- what a load looks at, and its guard, stay as they are from j up to i. -/
def stays (l : List SOp) (i j : Nat) (q : SOp) (a : SX) : Bool :=
  upTo i fun k => decide (k < j) || (match l[k]? with | some r => !writesTo r.dst (a.use ++ guardUse q.guard) | none => true)
/-- from which value at operation k an address at m comes. -/
def baseOf (l : List SOp) (k : Nat) : Nat → SX → Option SX
  | 0, x => some x
  | m + 1, x =>
    if m < k then some x else
    match x with
    | .v a => some (.v a)
    | .t d =>
      match l[m]? with
      | some o => if o.dst = some d then (match o.op with | .faddr _ y => baseOf l k m y | .mv y => baseOf l k m y | .iarr _ _ y _ => baseOf l k m y | .iaddr _ y _ => baseOf l k m y | _ => none) else baseOf l k m (.t d)
      | none => none
def notSelect : Op → Bool
  | .select _ _ => false
  | _ => true
def makes (o : SOp) : Bool := !(decide (o.op.touch = .no) || decide (o.op.touch = .reads))
def look (os : Array Oper) (o : Oper) (s : SOp) : List Nat := o.looksAt os ++ s.op.uses
/-- each on its own. -/
def drawOne (l : List SOp) (anc : List (List Nat)) (b i : Nat) (o : Oper) (s : SOp) : Bool :=
  o.after.all (fun e => !Region.binds .any e || decide (e.on < i)) &&
  (anc.getD i []).all (fun j => o.after.any fun e => Region.binds .any e && (e.on == j || (anc.getD e.on []).contains j)) &&
  (!decide (s.op.touch = .writes) || isLate l anc b i) && notSelect o.op && (isLate l anc b i || decide (s.op.touch = .no) || (isLoad s.op).isSome || decide (i < b))
/-- k is late, a load, at j, isn't, and no order binds them: what k must leave be. -/
def passes (l : List SOp) (anc : List (List Nat)) (b k j : Nat) : Option (Option (Nat × Bool) × SX) :=
  if isLate l anc b k && !isLate l anc b j then
    match l[j]? with
    | some q =>
      match isLoad q.op with
      | some a => if j < k then (if stays l k j q a then some (q.guard, a) else some (none, .v (.tup []))) else some (none, (baseOf l k j a).getD (.v (.tup [])))
      | none => none
    | none => none
  else none
/-- one, and another ahead of it. -/
def drawTwo (os : Array Oper) (l : List SOp) (anc unks : List (List Nat)) (b i j : Nat) (o : Oper) (s : SOp) (p : Oper) (q : SOp) : Bool :=
  (anc.getD i []).contains j ||
    (!writesTo q.dst (look os o s) && !writesTo s.dst (look os p q) && !writesTo q.dst s.dst.toList && (!makes q || (unks.getD i []).contains j) &&
     (decide (q.op.touch = .no) || decide (s.op.touch = .no) || (!isLate l anc b i && !isLate l anc b j) || (passes l anc b i j).isSome || (passes l anc b j i).isSome))
def drawOk (os : Array Oper) (l : List SOp) (anc unks : List (List Nat)) (b : Nat) : Bool :=
  upTo l.length fun i =>
    match os[i]?, l[i]? with
    | some o, some s => drawOne l anc b i o s && upTo i fun j =>
      match os[j]?, l[j]? with
      | some p, some q => drawTwo os l anc unks b i j o s p q
      | _, _ => false
    | _, _ => false
/-- what it must leave be. -/
def passed (l : List SOp) (anc : List (List Nat)) (b i : Nat) : List (Option (Nat × Bool) × SX) :=
  (List.range l.length).filterMap fun j => if (decide (j < i) && !(anc.getD i []).contains j) || (decide (i < j) && !(anc.getD j []).contains i) then passes l anc b i j else none
def withDraw (l : List SOp) (anc unks : List (List Nat)) (b : Nat) (p : SOp × Nat) : SOp :=
  { p.1 with draw := if isLate l anc b p.2 then none else some (unks.getD p.2 []), apart := passed l anc b p.2 }
def slimReg (P : Program) (os : Array Oper) (draw : Bool) : Option SC :=
  (os.toList.mapM (slimOper P os)).bind fun l =>
  if draw then
    let anc := ahead os.toList
    let b := barrier l anc
    let unks := (List.range l.length).map fun i => (List.range i).filter fun j => !(anc.getD i []).contains j && ((l[j]?).map makes).getD false
    if drawOk os l anc unks b then some (.regd (l.zipIdx.map (withDraw l anc unks b))) else none
  else some (.reg l)
def slimC (P : Program) : Code → Option SC
  | .skip => some .skip
  | .region _ os draw => slimReg P os draw
  | .seq a b => (slimC P a).bind fun a => (slimC P b).map fun b => .seq a b
  | .cond c a b => (slimX c).bind fun c => (slimC P a).bind fun a => (slimC P b).map fun b => .cond c a b
  | .block id a => (slimC P a).map fun a => .block id a
  | .loop a => (slimC P a).map .loop
  | .exit id => some (.exit id)
  | .ret => some .ret
  | _ => none
def slimRes (P : Program) : ResultVar → Option SRes
  | .tmp t => some (.tmp t)
  | .cell a t => (shapeT P t).map fun s => .cell a s
def slimF (P : Program) (f : Func) : Option SFn :=
  f.body.bind fun c => (slimC P c).bind fun b => (f.results.toList.mapM (slimRes P)).bind fun r =>
    if f.name == "runtime.NumGoroutine" then none else some { ntmps := f.ntmps, results := r, body := b }
end Go.Den
