/-
  What the program's operations do to values without addresses; and that they do so. Nothing here names the program.
-/
import Derived.Test.YtnmgfobpcengkaaHDen
namespace Go.Proofs.Ytnmgfobpcengkaa
open Go.RowKit
set_option linter.unusedVariables false
set_option linter.unusedSimpArgs false

def isAggU : TypeDesc → Bool
  | .struct _ | .array _ _ => true
  | _ => false
/-- The shape of a type: a struct of so many cells, or one cell. -/
def shapeOf (P : Program) (t : TypeId) : Option (Option Nat) :=
  match P.underlying t, P.info? t with
  | some u, some i => some (if isAggU u then some i.size else none)
  | _, _ => none
/-- The part of a struct's cells that a value of a shape takes up. -/
def partS (s : Option Nat) (cs : List D) (off : Nat) : Option D :=
  match s with
  | some n => if off + n ≤ cs.length then some (.agg ((cs.drop off).take n)) else none
  | none => cs[off]?
def partD (P : Program) (t : TypeId) (cs : List D) (off : Nat) : Option D := (shapeOf P t).bind fun s => partS s cs off
def ptrOf : D → Option (List D)
  | .ptr cs => some cs
  | _ => none
def aggOf : D → Option (List D)
  | .agg cs => some cs
  | _ => none
def tupOf : D → Option (List D)
  | .tup cs => some cs
  | _ => none
def intOf64 (k : IntKind) : D → Option D
  | .v (.int _ n) => some (.v (.int k (k.wrap n)))
  | _ => none
def negD : D → Option D
  | .v (.int k n) => some (.v (.int k (k.wrap (0 - n))))
  | _ => none
def cellsD : D → Option (List D)
  | .agg cs => some cs
  | .v (.agg xs) => some (xs.toList.map .v)
  | .v (.tuple _) => none
  | .v x => some [.v x]
  | .sl sz els => some [.sl sz els]
  | .ptr cs => some [.ptr cs]
  | .hp i o => some [.hp i o]
  | .hs i n => some [.hs i n]
  | .ifc t d => some [.ifc t d]
  | .clo f a b => some [.clo f a b]
  | .mp i => some [.mp i]
  | .mv ks vs => some [.mv ks vs]
  | .yld i => some [.yld i]
  | .ht i o n => some [.ht i o n]
  | _ => none
def intD (op : BinOp) (k : IntKind) (a b : Int) : Option D :=
  match op with
  | .add => some (.v (.int k (k.wrap (a + b))))
  | .sub => some (.v (.int k (k.wrap (a - b))))
  | .mul => some (.v (.int k (k.wrap (a * b))))
  | .eql => some (.v (.bool (a == b)))
  | .neq => some (.v (.bool (a != b)))
  | .lss => some (.v (.bool (decide (a < b))))
  | .leq => some (.v (.bool (decide (a ≤ b))))
  | .gtr => some (.v (.bool (decide (a > b))))
  | .geq => some (.v (.bool (decide (a ≥ b))))
  | .quo => if b = 0 then none else some (.v (.int k (k.wrap (a.tdiv b))))
  | .rem => if b = 0 then none else some (.v (.int k (a.tmod b)))
  | .and => some (.v (.int k (k.wrap (BitVec.ofInt k.bits a &&& BitVec.ofInt k.bits b).toNat)))
  | .or => some (.v (.int k (k.wrap (BitVec.ofInt k.bits a ||| BitVec.ofInt k.bits b).toNat)))
  | .xor => some (.v (.int k (k.wrap (BitVec.ofInt k.bits a ^^^ BitVec.ofInt k.bits b).toNat)))
  | .andNot => some (.v (.int k (k.wrap (BitVec.ofInt k.bits a &&& ~~~ BitVec.ofInt k.bits b).toNat)))
  | _ => none
def shiftD (op : BinOp) (k : IntKind) (a b : Int) : Option D :=
  if b < 0 then none else
  match op with
  | .shl => some (.v (.int k (k.wrap (a * 2 ^ (min b.toNat k.bits)))))
  | .shr => some (.v (.int k (a.fdiv (2 ^ (min b.toNat k.bits)))))
  | _ => none
def strD (op : BinOp) (x y : ByteArray) : Option D :=
  match op with
  | .add => if x.size + y.size ≤ 9223372036854775807 then some (.v (.string (x ++ y))) else none
  | .eql => some (.v (.bool (x.toList == y.toList)))
  | .neq => some (.v (.bool (!(x.toList == y.toList))))
  | .lss => some (.v (.bool (Op.bytesLess x.toList y.toList)))
  | .leq => some (.v (.bool (Op.bytesLess x.toList y.toList || x.toList == y.toList)))
  | .gtr => some (.v (.bool (!(Op.bytesLess x.toList y.toList || x.toList == y.toList))))
  | .geq => some (.v (.bool (!Op.bytesLess x.toList y.toList)))
  | _ => none
/-- The ints of a struct's cells. -/
def intsOf : List D → Option (List Int)
  | [] => some []
  | .v (.int .i64 n) :: r => (intsOf r).map (n :: ·)
  | _ => none
/-- A struct of ints alone. -/
def intStruct (P : Program) (t : TypeId) : Bool :=
  match P.underlying t with
  | some (.struct fs) => !P.stoodInHeld t && !P.eqGuardType P.depth t && fs.toList.zipIdx.all fun (f, i) => f.name != "_" && f.offset == i && (match P.underlying f.type with | some (.int .i64) => true | _ => false)
  | _ => false
inductive Kd where
  | int
  | bool
  | str
  | sl
  | ints (n : Nat)
  | ifc
  | other
def kindOf (P : Program) (t : TypeId) : Kd :=
  match P.underlying t with
  | some (.int _) => .int
  | some .bool => .bool
  | some .string => .str
  | some (.slice _) => .sl
  | some (.interface _) => .ifc
  | some (.struct fs) => if intStruct P t then .ints fs.size else .other
  | _ => .other
def eqStructD (k : Kd) (x y : D) : Option Bool :=
  match k, x, y with
  | .ints n, .agg xs, .agg ys =>
    match intsOf xs, intsOf ys with
    | some a, some b => if a.length = n ∧ b.length = n then some (decide (a = b)) else none
    | _, _ => none
  | _, _, _ => none
def binK (k : Kd) (op : BinOp) (x y : D) : Option D :=
  match x, y with
  | .v (.int k a), .v (.int k' b) =>
    match op with
    | .shl => shiftD .shl k a b
    | .shr => shiftD .shr k a b
    | op => if k = k' then intD op k a b else none
  | .v (.bool a), .v (.bool b) =>
    match op, k with
    | .eql, .bool => some (.v (.bool (a == b)))
    | .neq, .bool => some (.v (.bool (!(a == b))))
    | _, _ => none
  | .v (.string a), .v (.string b) => strD op a b
  | .ifc _ _, .v .nilIface =>
    match op, k with
    | .eql, .ifc => some (.v (.bool false))
    | .neq, .ifc => some (.v (.bool true))
    | _, _ => none
  | x, y =>
    match op with
    | .eql => (eqStructD k x y).map fun b => .v (.bool b)
    | .neq => (eqStructD k x y).map fun b => .v (.bool !b)
    | _ => none
def isConst : Operand → Bool
  | .const _ => true
  | _ => false
/-- An interface value against the literal nil, where it is nil itself. -/
def binN (c : Bool) (k : Kd) (op : BinOp) (x y : D) : Option D :=
  match x, y with
  | .v .nilIface, .v .nilIface =>
    match c, op, k with
    | true, .eql, .ifc => some (.v (.bool true))
    | true, .neq, .ifc => some (.v (.bool false))
    | _, _, _ => none
  | x, y => binK k op x y
def boolD : D → Option Bool
  | .v (.bool b) => some b
  | _ => none
def natD : D → Option Nat
  | .v (.int _ n) => if 0 ≤ n then some n.toNat else none
  | _ => none
/-- A slice's elements; nil has none. -/
def elsD (sz : Nat) : D → Option (List (List D))
  | .sl s els => if s = sz ∨ els = [] then some els else none
  | .v (.slice none 0 0) => some []
  | _ => none
def elemSz (P : Program) (t : TypeId) : Option Nat :=
  match P.underlying t with
  | some (.slice e) => (P.info? e).map (·.size)
  | _ => none
def idxD (sz : Nat) (x i : D) : Option D :=
  match elsD sz x, natD i with
  | some els, some n => (els[n]?).map D.ptr
  | _, _ => none
def fldD (P : Program) (t : TypeId) (f : Nat) : Option (TypeId × Nat) :=
  match P.underlying t with
  | some (.struct fs) => (fs[f]?).map fun x => (x.type, x.offset)
  | _ => none
def lowD : Option D → Option Nat
  | none => some 0
  | some d => natD d
def highD (n : Nat) : Option D → Option Nat
  | none => some n
  | some d => natD d
def cutD (sz : Nat) (x : D) (lo hi : Option D) : Option D :=
  match elsD sz x with
  | none => none
  | some els =>
    match lowD lo, highD els.length hi with
    | some l, some h => if l ≤ h ∧ h ≤ els.length then some (.sl sz ((els.take h).drop l)) else none
    | _, _ => none
def fillD (place : Nat → Option (Nat × Nat)) (cells : List D) : List (Nat × D) → Option (List D)
  | [] => some cells
  | (i, d) :: rest =>
    match place i, cellsD d with
    | some (off, size), some cs => if cs.length ≠ size ∨ off + cs.length > cells.length then none else fillD place (cs.zipIdx.foldl (fun acc (c, j) => acc.set (off + j) c) cells) rest
    | _, _ => none
def zeroD (P : Program) (t : TypeId) : Option (List D) :=
  match P.info? t with
  | some i => i.zero.map fun z => z.cells.toList.map D.v
  | none => none
def buildR (ps : List (Nat × Nat)) (z : List D) (parts : List (Nat × D)) : Option D := (fillD (ps[·]?) z parts).map D.agg
def buildD (P : Program) (t : TypeId) (parts : List (Nat × D)) : Option D :=
  match P.underlying t, zeroD P t with
  | some (.struct fs), some z =>
    match fs.toList.mapM fun f => (P.info? f.type).map fun i => (f.offset, i.size) with
    | some ps => buildR ps z parts
    | none => none
  | _, _ => none
def chunks {α : Type} (sz : Nat) : Nat → List α → List (List α)
  | 0, _ => []
  | n + 1, l => l.take sz :: chunks sz n (l.drop sz)
def rowR (sz len : Nat) (z : List D) (parts : List (Nat × D)) : Option D :=
  if len = 0 then (if parts.isEmpty then some (.sl sz []) else none) else
  (fillD (fun k => some (k * sz, sz)) ((List.range (len * sz)).map fun k => z.getD (k % z.length) .undef) parts).map fun cs => .sl sz (chunks sz len cs)
def rowD (P : Program) (t : TypeId) (len : Nat) (parts : List (Nat × D)) : Option D :=
  match P.underlying t with
  | some (.slice e) =>
    match zeroD P e, P.info? e with
    | some z, some i => if i.size = 0 ∨ z.length ≠ i.size ∨ 1000 < len * i.size then none else rowR i.size len z parts
    | _, _ => none
  | _ => none
def lenK (k : Kd) (x : D) : Option D :=
  match k, x with
  | .sl, .sl _ els => some (.v (.int .i64 els.length))
  | .sl, .v (.slice _ n _) => some (.v (.int .i64 n))
  | .str, .v (.string s) => some (.v (.int .i64 s.size))
  | _, _ => none
def stepIntD (f : Int → Int → Int) : Option Int → D → Option Int
  | some a, .v (.int _ b) => some (f a b)
  | _, _ => none
def foldIntD (f : Int → Int → Int) : List D → Option D
  | .v (.int k a) :: r => (r.foldl (stepIntD f) (some a)).map fun a => .v (.int k a)
  | _ => none
def pickD (c a b : D) : Option D := (boolD c).map fun b' => if b' then a else b
def notD (x : D) : Option D := (boolD x).map fun b => .v (.bool !b)
def boxD (x : D) : Option D := (cellsD x).map D.ptr
def loadD (s : Option Nat) (x : D) : Option D := (ptrOf x).bind fun cs => partS s cs 0
def fieldD (s : Option Nat) (off : Nat) (x : D) : Option D := (aggOf x).bind fun cs => partS s cs off
def fieldAtD (off : Nat) (x : D) : Option D := (ptrOf x).map fun cs => .ptr (cs.drop off)
def extractD (x : D) (i : Nat) : Option D := (tupOf x).bind fun ds => ds[i]?
def maxD (l : List D) : Option D := foldIntD (fun x y => if y > x then y else x) l
def minD (l : List D) : Option D := foldIntD (fun x y => if y < x then y else x) l

/- What the call's own objects come into. -/
/-- A value that one cell holds. -/
def cellOk : D → Bool
  | .v (.agg _) | .v (.tuple _) => false
  | .undef | .agg _ | .tup _ => false
  | _ => true
def loadH (s : Option Nat) (H : Heap) (x : D) : Option D :=
  match x with
  | .hp id off =>
    match H[id]? with
    | some (.cells _ _ cs) => partS s (cs.drop off) 0
    | _ => none
  | x => loadD s x
def fieldAtH (off : Nat) (x : D) : Option D :=
  match x with
  | .hp id o => some (.hp id (o + off))
  | x => fieldAtD off x
def idxH (sz : Nat) (x i : D) : Option D :=
  match x with
  | .hs id n => (natD i).bind fun k => if k < n then some (.hp id (k * sz)) else none
  | .ht id off n => (natD i).bind fun k => if k < n then some (.hp id (off + k * sz)) else none
  | x => idxD sz x i
def lenH (k : Kd) (x : D) : Option D :=
  match k, x with
  | .sl, .hs _ n => some (.v (.int .i64 n))
  | .sl, .ht _ _ n => some (.v (.int .i64 n))
  | k, x => lenK k x
def cutH (sz : Nat) (x : D) (lo hi : Option D) : Option D :=
  match x with
  | .hs id n =>
    match lowD lo, highD n hi with
    | some l, some h => if l = 0 ∧ h ≤ n then some (.hs id h) else if l ≤ h ∧ h ≤ n then some (.ht id (l * sz) (h - l)) else none
    | _, _ => none
  | .ht id off n =>
    match lowD lo, highD n hi with
    | some l, some h => if l ≤ h ∧ h ≤ n then some (.ht id (off + l * sz) (h - l)) else none
    | _, _ => none
  | x => cutD sz x lo hi
def newH (t : TypeId) (sz : Nat) (cs : List D) (H : Heap) : Option (Nat × Heap) := if cs.all cellOk then some (H.length, H ++ [.cells t sz cs]) else none
def boxH (t : TypeId) (x : D) (H : Heap) : Option (D × Heap) := (cellsD x).bind fun cs => (newH t cs.length cs H).map fun r => (.hp r.1 0, r.2)
def allocH (t : TypeId) (z : List D) (H : Heap) : Option (D × Heap) := (newH t z.length z H).map fun r => (.hp r.1 0, r.2)
def rowH (e : TypeId) (sz len : Nat) (z : List D) (parts : List (Nat × D)) (H : Heap) : Option (D × Heap) :=
  (rowR sz len z parts).bind fun d => (elsD sz d).bind fun els => (newH e sz els.flatten H).map fun r => (.hs r.1 len, r.2)
def storeH (n : Nat) (x v : D) (H : Heap) : Option Heap :=
  match x, cellsD v with
  | .hp id off, some ds =>
    match H[id]? with
    | some (.cells t sz cs) => if ds.length = n ∧ off + ds.length ≤ cs.length ∧ ds.all cellOk then some (H.set id (.cells t sz (cs.take off ++ ds ++ cs.drop (off + ds.length)))) else none
    | _ => none
  | _, _ => none
def setH (n : Nat) (x v : D) (H : Heap) : Option (D × Heap) := (storeH n x v H).map fun H' => (.v undef, H')
/-- The cells of what is appended. -/
def srcH (sz : Nat) (H : Heap) (x : D) : Option (List D) :=
  match x with
  | .hs id n =>
    match H[id]? with
    | some (.cells _ s cs) => if s = sz ∧ n * sz ≤ cs.length then some (cs.take (n * sz)) else none
    | _ => none
  | .ht id off n =>
    match H[id]? with
    | some (.cells _ s cs) => if s = sz ∧ off + n * sz ≤ cs.length then some ((cs.drop off).take (n * sz)) else none
    | _ => none
  | x => (elsD sz x).map List.flatten
def appH (e : TypeId) (sz : Nat) (s : D) (new : List D) (H : Heap) : Option (D × Heap) :=
  if sz = 0 ∨ !new.all cellOk then none else
  match s with
  | .v (.slice none 0 0) => if new.length = 0 then some (s, H) else if new.length ≤ 4000000 then some (.hs H.length (new.length / sz), H ++ [.cells e sz new]) else none
  | .hs id n =>
    match H[id]? with
    | some (.cells t sz' cs) => if t = e ∧ sz' = sz ∧ cs.length = n * sz ∧ cs.length + new.length ≤ 4000000 then some (.hs H.length (n + new.length / sz), (H.set id .dead) ++ [.cells e sz (cs ++ new)]) else none
    | _ => none
  | _ => none
def appendH (e : TypeId) (sz : Nat) (s x : D) (H : Heap) : Option (D × Heap) := (srcH sz H x).bind fun new => appH e sz s new H
/-- A string's bytes, appended. -/
def bytesD (s : ByteArray) : List D := s.data.toList.map fun b => .v (.int .u8 b.toNat)
def appendS (e : TypeId) (sz : Nat) (s x : D) (H : Heap) : Option (D × Heap) :=
  match x with
  | .v (.string t) => if sz = 1 then appH e sz s (bytesD t) H else none
  | _ => none
def htOf : D → Option (Nat × Nat × Nat)
  | .hs id n => some (id, 0, n)
  | .ht id off n => some (id, off, n)
  | _ => none
/-- Elements are copied into a row of the call's own. -/
def copyH (sz : Nat) (dst src : D) (H : Heap) : Option (D × Heap) :=
  (htOf dst).bind fun x =>
  match H[x.1]? with
  | some (.cells t s cs) => (srcH sz H src).bind fun new =>
    if 0 < sz ∧ s = sz ∧ x.2.1 + x.2.2 * sz ≤ cs.length ∧ ((new.take (min (new.length / sz) x.2.2 * sz)).all cellOk) = true then
      some (.v (.int .i64 (min (new.length / sz) x.2.2 : Nat)), H.set x.1 (.cells t s (cs.take x.2.1 ++ new.take (min (new.length / sz) x.2.2 * sz) ++ cs.drop (x.2.1 + min (new.length / sz) x.2.2 * sz)))) else none
  | _ => none
/-- The elements of a row become zero. -/
def clearH (sz : Nat) (z : List D) (x : D) (H : Heap) : Option (D × Heap) :=
  (htOf x).bind fun x =>
  match H[x.1]? with
  | some (.cells t s cs) =>
    if s = sz ∧ z.length = sz ∧ x.2.1 + x.2.2 * sz ≤ cs.length ∧ z.all cellOk = true then
      some (.v undef, H.set x.1 (.cells t s (cs.take x.2.1 ++ (List.replicate x.2.2 z).flatten ++ cs.drop (x.2.1 + x.2.2 * sz)))) else none
  | _ => none
/-- A new row of zero elements. -/
def makeH (e : TypeId) (sz : Nat) (z : List D) (n m : D) (H : Heap) : Option (D × Heap) :=
  match n, m with
  | .v (.int _ a), .v (.int _ b) => if a = b ∧ 0 ≤ a ∧ a ≤ 4000000 ∧ z.length = sz then (newH e sz (List.replicate a.toNat z).flatten H).map fun r => (.hs r.1 a.toNat, r.2) else none
  | _, _ => none
def xorD : D → Option D
  | .v (.int k n) => intD .xor k (if k.signed then -1 else k.max) n
  | _ => none
/-- The zero value's cells, the type and the size of a slice type's elements. -/
def zeroEl (P : Program) (t : TypeId) : Option (TypeId × Nat × List D) :=
  match P.underlying t with
  | some (.slice e) => (P.info? e).bind fun i => match i.zero with | some z => if z.cells.size = i.size ∧ i.bytes ≤ 1000 then some (e, i.size, z.cells.toList.map D.v) else none | none => none
  | _ => none
/-- The type, size of a slice type's elements, if a row of them is not too wide. -/
def elemOfD (P : Program) (t : TypeId) : Option (TypeId × Nat) :=
  match P.underlying t with
  | some (.slice e) => (P.info? e).bind fun i => match i.zero with | some z => if z.cells.size = i.size ∧ i.bytes ≤ 1000 then some (e, i.size) else none | none => none
  | _ => none
def rowInfo (P : Program) (t : TypeId) (len : Nat) : Option (TypeId × Nat × List D) :=
  match P.underlying t with
  | some (.slice e) =>
    match zeroD P e, P.info? e with
    | some z, some i => if i.size = 0 ∨ z.length ≠ i.size ∨ 1000 < len * i.size then none else some (e, i.size, z)
    | _, _ => none
  | _ => none
def asIfc (t : TypeId) : D → Option D
  | .ifc u d => if u = t then some d else none
  | _ => none
/- Strings. -/
def strOf : D → Option ByteArray
  | .v (.string s) => some s
  | _ => none
def cutS (x : D) (lo hi : Option D) : Option D :=
  (strOf x).bind fun s =>
  match lowD lo, highD s.size hi with
  | some l, some h => if l ≤ h ∧ h ≤ s.size then some (.v (.string (s.extract l h))) else none
  | _, _ => none
def idxS (x i : D) : Option D :=
  (strOf x).bind fun s => (natD i).bind fun n => (s[n]?).map fun b => .v (.int .u8 b.toNat)
def byteOfD : D → Option UInt8
  | .v (.int .u8 n) => some (UInt8.ofNat n.toNat)
  | _ => none
/-- The string of a slice of bytes. -/
def bytesS (H : Heap) (x : D) : Option D := (srcH 1 H x).bind fun cs => (cs.mapM byteOfD).map fun bs => .v (.string ⟨bs.toArray⟩)
/- Maps by ints. -/
def mapOf (H : Heap) : D → Option (List Int × List D)
  | .mp id =>
    match H[id]? with
    | some (.map ks vs) => some (ks, vs)
    | _ => none
  | .mv ks vs => some (ks, vs)
  | .v (.map none) => some ([], [])
  | _ => none
def int64Of : D → Option Int
  | .v (.int .i64 n) => some n
  | _ => none
def zeroVD (P : Program) (t : TypeId) : Option D :=
  match P.info? t with
  | some i => i.zero.map fun z => match z with | .agg cs => .agg (cs.toList.map D.v) | z => .v z
  | none => none
def findM (ks : List Int) (vs : List D) (k : Int) : Option D :=
  match ks, vs with
  | a :: r, v :: s => if k = a then some v else findM r s k
  | _, _ => none
/-- The type of a map's elements, if its keys are ints. -/
def mapElem (P : Program) (t : TypeId) : Option TypeId :=
  match P.underlying t with
  | some (.map k e) => match P.underlying k with | some (.int _) => some e | _ => none
  | _ => none
def lookH (zero : D) (ok : Bool) (H : Heap) (m k : D) : Option D :=
  (mapOf H m).bind fun kv => (int64Of k).bind fun n =>
    match findM kv.1 kv.2 n with
    | some v => some (if ok then .tup [v, .v (.bool true)] else v)
    | none => some (if ok then .tup [zero, .v (.bool false)] else zero)
def putM (ks : List Int) (vs : List D) (k : Int) (v : D) : List Int × List D :=
  match ks, vs with
  | a :: r, u :: s => if k = a then (a :: r, v :: s) else let p := putM r s k v; (a :: p.1, u :: p.2)
  | _, _ => ([k], [v])
def updH (m k v : D) (H : Heap) : Option (D × Heap) :=
  match m, int64Of k with
  | .mp id, some n =>
    match H[id]? with
    | some (.map ks vs) => let p := putM ks vs n v; some (.v undef, H.set id (.map p.1 p.2))
    | _ => none
  | _, _ => none
def newM (H : Heap) : Option (D × Heap) := some (.mp H.length, H ++ [.map [] []])
/- Interface values. -/
def assertD (u : TypeId) (zero : D) (ok : Bool) (x : D) : Option D :=
  match x with
  | .ifc t d => if t = u then some (if ok then .tup [d, .v (.bool true)] else d) else if ok then some (.tup [zero, .v (.bool false)]) else none
  | .v .nilIface => if ok then some (.tup [zero, .v (.bool false)]) else none
  | _ => none
/-- A type that is no interface. -/
def isConc (P : Program) (t : TypeId) : Bool :=
  match P.underlying t with
  | some (.interface _) | none => false
  | _ => true
def isPtr : TypeDesc → Bool
  | .pointer _ => true
  | _ => false
/-- The method that a value of type t has by that name, if it is told of the value itself. -/
def methD (P : Program) (t : TypeId) (name : String) : Option FuncId :=
  match P.info? t, P.underlying t with
  | some i, some u =>
    match i.methods.find? (·.name == name) with
    | some m =>
      match m.path.toList, m.func with
      | [], some (f, b) => if b = isPtr u then some f else none
      | _, _ => none
    | none => none
  | _, _ => none
def same (H : Heap) (o : Option D) : Option (D × Heap) := o.map fun d => (d, H)

/-- What an operation yields, that is no call, and what becomes of the call's own objects. -/
def opH (P : Program) (op : Op) (ρ : Operand → D) (H : Heap) : Option (D × Heap) :=
  match op with
  | .move x | .assign x => some (ρ x, H)
  | .pick c a b => same H (pickD (ρ c) (ρ a) (ρ b))
  | .load t a => (shapeOf P t).bind fun s => same H (loadH s H (ρ a))
  | .box t x => boxH t (ρ x) H
  | .alloc t => (zeroD P t).bind fun z => allocH t z H
  | .store t a x => (P.info? t).bind fun i => setH i.size (ρ a) (ρ x) H
  | .field t x f => (fldD P t f).bind fun uo => (shapeOf P uo.1).bind fun s => same H (fieldD s uo.2 (ρ x))
  | .fieldAddr t x f => (fldD P t f).bind fun uo => (P.info? uo.1).bind fun i => if i.size = 0 then none else same H (fieldAtH uo.2 (ρ x))
  | .indexAddr t x i => (elemSz P t).bind fun sz => same H (idxH sz (ρ x) (ρ i))
  | .slice t x lo hi none =>
    match P.underlying t with
    | some .string => same H (cutS (ρ x) (lo.map ρ) (hi.map ρ))
    | _ => (elemSz P t).bind fun sz => same H (cutH sz (ρ x) (lo.map ρ) (hi.map ρ))
  | .build t ps => same H (buildD P t (ps.toList.map fun (i, x) => (i, ρ x)))
  | .buildSlice t n ps => (rowInfo P t n).bind fun r => rowH r.1 r.2.1 n r.2.2 (ps.toList.map fun (i, x) => (i, ρ x)) H
  | .binOp op t x y _ => same H (binN (isConst x || isConst y) (kindOf P t) op (ρ x) (ρ y))
  | .unOp .not _ x => same H (notD (ρ x))
  | .unOp .neg _ x => same H (negD (ρ x))
  | .unOp .xor _ x => same H (xorD (ρ x))
  | .makeSlice t n m => (zeroEl P t).bind fun z => makeH z.1 z.2.1 z.2.2 (ρ n) (ρ m) H
  | .convert s t x =>
    match P.underlying s, P.underlying t with
    | some (.int _), some (.int k) => same H (intOf64 k (ρ x))
    | some (.slice e), some .string =>
      match P.underlying e with
      | some (.int .u8) => same H (bytesS H (ρ x))
      | _ => none
    | some .string, some .string => same H ((strOf (ρ x)).map fun s => .v (.string s))
    | _, _ => none
  | .index t x i => match P.underlying t with | some .string => same H (idxS (ρ x) (ρ i)) | _ => none
  | .makeMap t none => match P.underlying t with | some (.map _ _) => newM H | _ => none
  | .mapUpdate t m k v | .insert t m k v => (mapElem P t).bind fun _ => updH (ρ m) (ρ k) (ρ v) H
  | .lookup t m k ok => (mapElem P t).bind fun e => (zeroVD P e).bind fun z => same H (lookH z ok H (ρ m) (ρ k))
  | .typeAssert x _ u ok => if isConc P u then (zeroVD P u).bind fun z => same H (assertD u z ok (ρ x)) else none
  | .extract t i => same H (extractD (ρ t) i)
  | .makeInterface t x => match P.underlying t with | some (.interface _) | none => none | _ => some (.ifc t (ρ x), H)
  | .makeFunc f a b => some (.clo f (a.toList.map ρ) (b.toList.map ρ), H)
  | .nilCheck x => match ρ x with | .hp i o => some (.hp i o, H) | .ptr cs => some (.ptr cs, H) | _ => none
  | .call { callee := .builtin .len, args, argTypes } =>
    match args.toList, argTypes.toList with
    | [x], t :: _ => same H (lenH (kindOf P t) (ρ x))
    | _, _ => none
  | .call { callee := .builtin .append, args, argTypes } =>
    match args.toList, argTypes.toList with
    | [s, x], [t, t'] => if t = t' then (elemOfD P t).bind fun es => appendH es.1 es.2 (ρ s) (ρ x) H else
      match P.underlying t' with
      | some .string => (elemOfD P t).bind fun es => appendS es.1 es.2 (ρ s) (ρ x) H
      | _ => none
    | _, _ => none
  | .call { callee := .builtin .copy, args, argTypes } =>
    match args.toList, argTypes.toList with
    | [s, x], t :: _ => (elemOfD P t).bind fun es => copyH es.2 (ρ s) (ρ x) H
    | _, _ => none
  | .call { callee := .builtin .clear, args, argTypes } =>
    match args.toList, argTypes.toList with
    | [x], t :: _ => (zeroEl P t).bind fun z => clearH z.2.1 z.2.2 (ρ x) H
    | _, _ => none
  | .call { callee := .builtin .max, args, .. } => same H (maxD (args.toList.map ρ))
  | .call { callee := .builtin .min, args, .. } => same H (minD (args.toList.map ρ))
  | _ => none
end Go.Proofs.Ytnmgfobpcengkaa
