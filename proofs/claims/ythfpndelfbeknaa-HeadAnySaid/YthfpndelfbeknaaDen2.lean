/- From the loaded code to the slim one: only what is understood is taken. -/
import Derived.Test.YthfpndelfbeknaaDen1
import Derived.Orders
namespace Go.Den

def absV1 : Value → Option AV
  | .int k n => some (.int k n)
  | .bool b => some (.bool b)
  | .string s => some (.str s)
  | .pointer none => some .nilp
  | .nilIface => some .nili
  | .slice none 0 0 => some .nils
  | .nilFunc => some .nilf
  | _ => none
def absV : Value → Option AV
  | .agg cs => (cs.toList.mapM absV1).map .agg
  | v => absV1 v
def slimX : Operand → Option SX
  | .tmp t => some (.t t)
  | .const v => (absV v).map .v
  | .func f => some (.v (.fn f []))
  | _ => none
def slimO : Option Operand → Option (Option SX)
  | none => some none
  | some x => (slimX x).map some
def isAggT (P : Program) (t : TypeId) : Bool :=
  match P.underlying t with
  | some (.struct _) => true
  | some (.array _ _) => true
  | _ => false
/-- one cell, or so many. -/
def shapeT (P : Program) (t : TypeId) : Option (Option Nat) :=
  match P.info? t, P.underlying t with
  | some i, some (.struct _) => some (some i.size)
  | some i, some (.array _ _) => some (some i.size)
  | some i, some _ => if i.size = 1 then some none else none
  | _, _ => none
def sizeT (P : Program) (t : TypeId) : Option Nat := (P.info? t).map (·.size)
def zeroT (P : Program) (t : TypeId) : Option AV := (P.info? t).bind fun i => i.zero.bind absV
def tagsL (g : TypeId → Option (List Nat)) : Nat → List Field → Option (List Nat)
  | _, [] => some []
  | off, f :: fs => if f.name = "_" ∨ f.offset ≠ off then none else (g f.type).bind fun a => (tagsL g (off + a.length) fs).map (a ++ ·)
/-- what the cells of a type are that == compares at once: 0: bool, 1: int, 2: string. -/
def eqTags (P : Program) : Nat → TypeId → Option (List Nat)
  | 0, _ => none
  | d + 1, t =>
    (match P.underlying t with
    | some .bool => some [0]
    | some (.int _) => some [1]
    | some .string => some [2]
    | some (.struct fs) => if P.stoodInHeld t then none else tagsL (eqTags P d) 0 fs.toList
    | _ => none : Option (List Nat)).bind fun r => if r.length = P.cellsOf t then some r else none
def slimParts (place : Nat → Option (Nat × Nat)) (l : List (Nat × Operand)) : Option (List (Nat × Nat × SX)) :=
  l.mapM fun p => (place p.1).bind fun q => (slimX p.2).map fun x => (q.1, q.2, x)
def slimCall (P : Program) (c : Call) : Option SO :=
  (c.args.toList.mapM slimX).bind fun xs =>
  match c.callee with
  | .value (.func f) => some (.call f xs)
  | .value (.tmp t) => some (.callv (.t t) xs)
  | .builtin b =>
    match b, c.argTypes.toList, xs with
    | .append, [t, u], [s, x] =>
      match P.underlying t, P.underlying u with
      | some (.slice e), some (.slice _) => (P.info? e).bind fun i => (zeroT P e).bind fun z => if i.bytes ≤ 1024 ∧ i.size ≠ 0 ∧ z.cells.length = i.size ∧ whole e = false then some (.app e i.size s x) else none
      | some (.slice e), some .string => (P.info? e).bind fun i => (zeroT P e).bind fun z => if i.bytes ≤ 1024 ∧ i.size ≠ 0 ∧ z.cells.length = i.size ∧ whole e = false then some (.app e i.size s x) else none
      | some (.slice e), some (.int _) => (P.info? e).bind fun i => (zeroT P e).bind fun z => if i.bytes ≤ 1024 ∧ i.size ≠ 0 ∧ z.cells.length = i.size ∧ whole e = false then some (.appn e z.cells s x) else none
      | _, _ => none
    | .cap, [t], [x] =>
      match P.underlying t with
      | some (.slice _) => some (.cap x)
      | _ => none
    | .unsafeSliceData, [t], [x] =>
      match P.underlying t with
      | some (.slice _) => some (.sdata x)
      | _ => none
    | .unsafeString, [t, _], [p, n] =>
      match P.underlying t with
      | some (.pointer e) => if P.cellsOf e = 1 then some (.ustr e p n) else none
      | _ => none
    | .len, [t], [x] =>
      match P.underlying t with
      | some (.slice _) => some (.len false x)
      | some .string => some (.len true x)
      | some (.array n _) => some (.mv (.v (.int .i64 n)))
      | _ => none
    | .copy, [t, _], [d, s] =>
      match P.underlying t with
      | some (.slice e) => (sizeT P e).bind fun n => if n ≠ 0 then some (.copy n d s) else none
      | _ => none
    | .clear, [t], [x] =>
      match P.underlying t with
      | some (.slice e) => (zeroT P e).bind fun z => if z.cells.length ≠ 0 then some (.clear z.cells x) else none
      | _ => none
    | .min, _, xs => some (.mnmx false xs)
    | .max, _, xs => some (.mnmx true xs)
    | _, _, _ => none
  | _ => none
def slimMk (f : Fn) (first cap : List Operand) : Option SO :=
  match f, first with
  | .func f, [] => (cap.mapM slimX).map fun l => .mkfn f l
  | _, _ => none
def slimOp (P : Program) : Op → Option SO
  | .move x => (slimX x).map .mv
  | .assign x => (slimX x).map .mv
  | .pick c a b => (slimX c).bind fun c => (slimX a).bind fun a => (slimX b).map fun b => .pick c a b
  | .alloc e => (zeroT P e).map fun z => .box e (.v z)
  | .box e x => (slimX x).map fun x => .box e x
  | .build t parts =>
    (zeroT P t).bind fun z =>
    match P.underlying t with
    | some (.struct fs) => (fs.toList.mapM fun f => (sizeT P f.type).map fun n => (f.offset, n)).bind fun pl => (slimParts (fun i => pl[i]?) parts.toList).map fun l => .build z.cells l
    | some (.array _ e) => (sizeT P e).bind fun n => (slimParts (fun i => some (i * n, n)) parts.toList).map fun l => .build z.cells l
    | _ => none
  | .buildSlice t len parts =>
    match P.underlying t with
    | some (.slice e) => (sizeT P e).bind fun n => (zeroT P e).bind fun z => if len * n ≤ 2 ^ 24 ∧ z.cells.length = n ∧ n ≠ 0 then (slimParts (fun i => some (i * n, n)) parts.toList).map fun l => .bsl e (List.replicate len z.cells).flatten len n l else none
    | _ => none
  | .load t a => (shapeT P t).bind fun s => (slimX a).map fun a => .load s a
  | .store t a x => (sizeT P t).bind fun n => (slimX a).bind fun a => (slimX x).map fun x => .store n a x
  | .nilCheck x => (slimX x).map .nilck
  | .binOp op t x y _ =>
    (slimX x).bind fun sx => (slimX y).bind fun sy =>
    match P.underlying t with
    | some (.int _) => some (.bin op sx sy)
    | some .string => some (.bin op sx sy)
    | some d =>
      if op = .eql ∨ op = .neq then
        match d with
        | .bool => some (.eqs 0 [] (op = .neq) sx sy)
        | .pointer _ => some (.eqs 1 [] (op = .neq) sx sy)
        | .slice _ => some (.eqs 2 [] (op = .neq) sx sy)
        | .func _ _ _ => some (.eqs 3 [] (op = .neq) sx sy)
        | _ => (eqTags P 20 t).bind fun tags => if isAggT P t = true ∧ P.eqGuardType P.depth t = false then some (.eqs 4 tags (op = .neq) sx sy) else none
      else none
    | none => none
  | .unOp op _ x => (slimX x).map fun x => .un op x
  | .convert s d x =>
    (slimX x).bind fun x =>
    match P.underlying s, P.underlying d with
    | some (.int _), some (.int k) => some (.conv k x)
    | some (.slice e), some .string => match P.underlying e with | some (.int .u8) => some (.b2s x) | _ => none
    | some .string, some (.slice e) => match P.underlying e with | some (.int .u8) => if whole e = false then some (.s2b e x) else none | _ => none
    | _, _ => none
  | .makeFunc f first cap => slimMk f first.toList cap.toList
  | .makeSlice t l c =>
    match P.underlying t with
    | some (.slice e) => (P.info? e).bind fun i => (zeroT P e).bind fun z => if i.bytes ≤ 1024 ∧ z.cells.length = i.size ∧ i.size ≠ 0 then (slimX l).bind fun l => (slimX c).map fun c => .mksl e z.cells l c else none
    | _ => none
  | .slice t x lo hi mx =>
    (slimX x).bind fun x => (slimO lo).bind fun lo => (slimO hi).bind fun hi => (slimO mx).bind fun mx =>
    match P.underlying t with
    | some (.slice e) => (sizeT P e).bind fun n => if n ≠ 0 ∧ (mx.isSome = true → hi.isSome = true) then some (.slc n x lo hi mx) else none
    | some .string => if mx.isNone then some (.slstr x lo hi) else none
    | some (.array n e) => (sizeT P e).bind fun z => if z ≠ 0 ∧ (mx.isSome = true → hi.isSome = true) then some (.slarr n z x lo hi mx) else none
    | _ => none
  | .fieldAddr t x i =>
    match P.underlying t with
    | some (.struct fs) => (fs[i]?).bind fun f => (sizeT P f.type).bind fun n => if n ≠ 0 then (slimX x).map fun x => .faddr f.offset x else none
    | _ => none
  | .field t x i =>
    match P.underlying t with
    | some (.struct fs) => (fs[i]?).bind fun f => (shapeT P f.type).bind fun s => (slimX x).map fun x => .fld s f.offset x
    | _ => none
  | .indexAddr t x i =>
    (slimX x).bind fun x => (slimX i).bind fun i =>
    match P.underlying t with
    | some (.slice e) => (sizeT P e).bind fun n => if n ≠ 0 then some (.iaddr n x i) else none
    | some (.array m e) => (sizeT P e).bind fun n => if n ≠ 0 then some (.iarr m n x i) else none
    | _ => none
  | .index t x i =>
    (slimX x).bind fun x => (slimX i).bind fun i =>
    match P.underlying t with
    | some .string => some (.ixs x i)
    | some (.array m e) => (sizeT P e).bind fun n => (shapeT P e).map fun s => .ixa s m n x i
    | _ => none
  | .extract x i => (slimX x).map fun x => .extract x i
  | .call c => slimCall P c
  | .range t x => match P.underlying t with | some .string => (slimX x).map .range | _ => none
  | .next x b => if b then (slimX x).map .next else none
  | _ => none

inductive Touch where
  | no | reads | makes | writes | calls
  deriving DecidableEq
def SO.touch : SO → Touch
  | .box _ _ => .makes
  | .bsl _ _ _ _ _ => .makes
  | .load _ _ => .reads
  | .store _ _ _ => .writes
  | .b2s _ => .reads
  | .slarr _ _ _ _ _ _ => .reads
  | .s2b _ _ => .makes
  | .mksl _ _ _ _ => .makes
  | .appn _ _ _ _ => .makes
  | .call _ _ => .calls
  | .callv _ _ => .calls
  | .app _ _ _ _ => .writes
  | .ustr _ _ _ => .writes
  | .copy _ _ _ => .writes
  | .clear _ _ => .writes
  | .range _ => .makes
  | .next _ => .writes
  | _ => .no
def slimG (ops : Array Oper) : Option (Nat × Bool) → Option (Option (Nat × Bool))
  | none => some none
  | some (j, b) => ((ops[j]?).bind (·.dst)).map fun d => some (d, b)
/-- an operation: a call of a function, or one that calls none. -/
def slimOne (P : Program) : Op → Option SO
  | .call c => slimCall P c
  | op => (slimOp P op).bind fun s => if s.calls then none else some s
def slimOper (P : Program) (ops : Array Oper) (o : Oper) : Option SOp :=
  (slimG ops o.guard).map fun g => { dst := o.dst, op := (slimOne P o.op).getD .bad, guard := g, draw := none, apart := [] }
/-- which operations come ahead of each. -/
def ahead (ops : List Oper) : List (List Nat) :=
  ops.foldl (fun acc o => acc ++ [(o.after.toList.filter (Region.binds .any)).foldl (fun l e => l ++ (e.on :: acc.getD e.on []).filter (fun x => !l.contains x)) []]) []
def upTo (n : Nat) (p : Nat → Bool) : Bool := (List.range n).all p
def writesTo (d : Option Nat) (l : List Nat) : Bool :=
  match d with
  | some d => l.contains d
  | none => false
def isLoad : SO → Option SX
  | .load _ a => some a
  | _ => none
def isStore : SO → Bool
  | .store _ _ _ => true
  | _ => false
def guardUse : Option (Nat × Bool) → List Nat
  | none => []
  | some g => [g.1]
def touches (l : List SOp) (i : Nat) : Bool := ((l[i]?).map fun o => o.op.touch != .no).getD false
def loadsAt (l : List SOp) (i : Nat) : Bool := ((l[i]?).map fun o => (isLoad o.op).isSome).getD false
/-- a load, and something that touches memory: no order binds them. -/
def floaty (l : List SOp) (anc : List (List Nat)) (i : Nat) : Bool :=
  loadsAt l i && (List.range l.length).any fun j => touches l j && ((decide (j < i) && !(anc.getD i []).contains j) || (decide (i < j) && !(anc.getD j []).contains i))
/-- from which operation on each that touches memory waits for all of these ahead of it, but for loads. -/
def barrier (l : List SOp) (anc : List (List Nat)) : Nat :=
  let n := l.length
  let full (i : Nat) : Bool := !touches l i || floaty l anc i || upTo i fun j => !touches l j || (anc.getD i []).contains j || floaty l anc j
  ((List.range n).reverse.foldl (fun (a : Nat × Bool) i => if a.2 && full i then (i, true) else (a.1, false)) (n, true)).1
def isLate (l : List SOp) (anc : List (List Nat)) (b i : Nat) : Bool := touches l i && decide (b ≤ i) && !floaty l anc i
/-- what a load looks at, and its guard, stay as they are from j up to i. -/
def stays (l : List SOp) (i j : Nat) (q : SOp) (a : SX) : Bool :=
  upTo i fun k => decide (k < j) || (match l[k]? with | some r => !writesTo r.dst (a.use ++ guardUse q.guard) | none => true)
/-- from which value at operation k an address at m comes. -/
def baseOf (l : List SOp) (k : Nat) : Nat → SX → Option SX
  | 0, x => some x
  | m + 1, x =>
    if m < k then some x else
    match x with
    | .v a => some (.v a)
    | .t d =>
      match l[m]? with
      | some o => if o.dst = some d then (match o.op with | .faddr _ y => baseOf l k m y | .mv y => baseOf l k m y | _ => none) else baseOf l k m (.t d)
      | none => none
def notSelect : Op → Bool
  | .select _ _ => false
  | _ => true
def makes (o : SOp) : Bool := !(decide (o.op.touch = .no) || decide (o.op.touch = .reads))
def look (os : Array Oper) (o : Oper) (s : SOp) : List Nat := o.looksAt os ++ s.op.uses
/-- each on its own. -/
def drawOne (l : List SOp) (anc : List (List Nat)) (b i : Nat) (o : Oper) (s : SOp) : Bool :=
  o.after.all (fun e => !Region.binds .any e || decide (e.on < i)) &&
  (anc.getD i []).all (fun j => o.after.any fun e => Region.binds .any e && (e.on == j || (anc.getD e.on []).contains j)) &&
  (!decide (s.op.touch = .writes) || isLate l anc b i) && notSelect o.op && (isLate l anc b i || decide (s.op.touch = .no) || (isLoad s.op).isSome || decide (i < b))
/-- k is late, a load, at j, isn't, and no order binds them: what k must leave be. -/
def passes (l : List SOp) (anc : List (List Nat)) (b k j : Nat) : Option (Option (Nat × Bool) × SX) :=
  if isLate l anc b k && !isLate l anc b j then
    match l[j]? with
    | some q =>
      match isLoad q.op with
      | some a => if j < k then (if stays l k j q a then some (q.guard, a) else none) else (baseOf l k j a).map fun x => (none, x)
      | none => none
    | none => none
  else none
/-- one, and another ahead of it. -/
def drawTwo (os : Array Oper) (l : List SOp) (anc unks : List (List Nat)) (b i j : Nat) (o : Oper) (s : SOp) (p : Oper) (q : SOp) : Bool :=
  (anc.getD i []).contains j ||
    (!writesTo q.dst (look os o s) && !writesTo s.dst (look os p q) && !writesTo q.dst s.dst.toList && (!makes q || (unks.getD i []).contains j) &&
     (decide (q.op.touch = .no) || decide (s.op.touch = .no) || (!isLate l anc b i && !isLate l anc b j) || (passes l anc b i j).isSome || (passes l anc b j i).isSome))
def drawOk (os : Array Oper) (l : List SOp) (anc unks : List (List Nat)) (b : Nat) : Bool :=
  upTo l.length fun i =>
    match os[i]?, l[i]? with
    | some o, some s => drawOne l anc b i o s && upTo i fun j =>
      match os[j]?, l[j]? with
      | some p, some q => drawTwo os l anc unks b i j o s p q
      | _, _ => false
    | _, _ => false
/-- what it must leave be. -/
def passed (l : List SOp) (anc : List (List Nat)) (b i : Nat) : List (Option (Nat × Bool) × SX) :=
  (List.range l.length).filterMap fun j => if (decide (j < i) && !(anc.getD i []).contains j) || (decide (i < j) && !(anc.getD j []).contains i) then passes l anc b i j else none
def withDraw (l : List SOp) (anc unks : List (List Nat)) (b : Nat) (p : SOp × Nat) : SOp :=
  { p.1 with draw := if isLate l anc b p.2 then none else some (unks.getD p.2 []), apart := passed l anc b p.2 }
def slimReg (P : Program) (os : Array Oper) (draw : Bool) : Option SC :=
  (os.toList.mapM (slimOper P os)).bind fun l =>
  if draw then
    let anc := ahead os.toList
    let b := barrier l anc
    let unks := (List.range l.length).map fun i => (List.range i).filter fun j => !(anc.getD i []).contains j && ((l[j]?).map makes).getD false
    if drawOk os l anc unks b then some (.regd (l.zipIdx.map (withDraw l anc unks b))) else none
  else some (.reg l)
def slimC (P : Program) : Code → Option SC
  | .skip => some .skip
  | .region _ os draw => slimReg P os draw
  | .seq a b => (slimC P a).bind fun a => (slimC P b).map fun b => .seq a b
  | .cond c a b => (slimX c).bind fun c => (slimC P a).bind fun a => (slimC P b).map fun b => .cond c a b
  | .block id a => (slimC P a).map fun a => .block id a
  | .loop a => (slimC P a).map .loop
  | .exit id => some (.exit id)
  | .ret => some .ret
  | _ => none
def slimRes (P : Program) : ResultVar → Option SRes
  | .tmp t => some (.tmp t)
  | .cell a t => (shapeT P t).map fun s => .cell a s
def slimF (P : Program) (f : Func) : Option SFn :=
  f.body.bind fun c => (slimC P c).bind fun b => (f.results.toList.mapM (slimRes P)).bind fun r =>
    if f.name == "runtime.NumGoroutine" then none else some { ntmps := f.ntmps, results := r, body := b }
end Go.Den
