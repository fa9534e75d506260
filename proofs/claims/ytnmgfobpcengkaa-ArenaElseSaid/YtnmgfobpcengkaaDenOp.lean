/-
  What the program's operations do to values without addresses; and that they do so. Nothing here names the program.
-/
import Derived.Test.YtnmgfobpcengkaaDen
namespace Go.Proofs.Ytnmgfobpcengkaa
open Go.RowKit
set_option linter.unusedVariables false
set_option linter.unusedSimpArgs false

def isAggU : TypeDesc → Bool
  | .struct _ | .array _ _ => true
  | _ => false
/-- The shape of a type: a struct of so many cells, or one cell. -/
def shapeOf (P : Program) (t : TypeId) : Option (Option Nat) :=
  match P.underlying t, P.info? t with
  | some u, some i => some (if isAggU u then some i.size else none)
  | _, _ => none
/-- The part of a struct's cells that a value of a shape takes up. -/
def partS (s : Option Nat) (cs : List D) (off : Nat) : Option D :=
  match s with
  | some n => if off + n ≤ cs.length then some (.agg ((cs.drop off).take n)) else none
  | none => cs[off]?
def partD (P : Program) (t : TypeId) (cs : List D) (off : Nat) : Option D := (shapeOf P t).bind fun s => partS s cs off
def ptrOf : D → Option (List D)
  | .ptr cs => some cs
  | _ => none
def aggOf : D → Option (List D)
  | .agg cs => some cs
  | _ => none
def tupOf : D → Option (List D)
  | .tup cs => some cs
  | _ => none
def intOf64 (k : IntKind) : D → Option D
  | .v (.int _ n) => some (.v (.int k (k.wrap n)))
  | _ => none
def negD : D → Option D
  | .v (.int k n) => some (.v (.int k (k.wrap (0 - n))))
  | _ => none
def cellsD : D → Option (List D)
  | .agg cs => some cs
  | .v (.agg xs) => some (xs.toList.map .v)
  | .v (.tuple _) => none
  | .v x => some [.v x]
  | .sl sz els => some [.sl sz els]
  | .ptr cs => some [.ptr cs]
  | _ => none
def intD (op : BinOp) (k : IntKind) (a b : Int) : Option D :=
  match op with
  | .add => some (.v (.int k (k.wrap (a + b))))
  | .sub => some (.v (.int k (k.wrap (a - b))))
  | .mul => some (.v (.int k (k.wrap (a * b))))
  | .eql => some (.v (.bool (a == b)))
  | .neq => some (.v (.bool (a != b)))
  | .lss => some (.v (.bool (decide (a < b))))
  | .leq => some (.v (.bool (decide (a ≤ b))))
  | .gtr => some (.v (.bool (decide (a > b))))
  | .geq => some (.v (.bool (decide (a ≥ b))))
  | _ => none
/-- The ints of a struct's cells. -/
def intsOf : List D → Option (List Int)
  | [] => some []
  | .v (.int .i64 n) :: r => (intsOf r).map (n :: ·)
  | _ => none
/-- A struct of ints alone. -/
def intStruct (P : Program) (t : TypeId) : Bool :=
  match P.underlying t with
  | some (.struct fs) => !P.stoodInHeld t && !P.eqGuardType P.depth t && fs.toList.zipIdx.all fun (f, i) => f.name != "_" && f.offset == i && (match P.underlying f.type with | some (.int .i64) => true | _ => false)
  | _ => false
inductive Kd where
  | int
  | bool
  | str
  | sl
  | ints (n : Nat)
  | other
def kindOf (P : Program) (t : TypeId) : Kd :=
  match P.underlying t with
  | some (.int _) => .int
  | some .bool => .bool
  | some .string => .str
  | some (.slice _) => .sl
  | some (.struct fs) => if intStruct P t then .ints fs.size else .other
  | _ => .other
def eqStructD (k : Kd) (x y : D) : Option Bool :=
  match k, x, y with
  | .ints n, .agg xs, .agg ys =>
    match intsOf xs, intsOf ys with
    | some a, some b => if a.length = n ∧ b.length = n then some (decide (a = b)) else none
    | _, _ => none
  | _, _, _ => none
def binK (k : Kd) (op : BinOp) (x y : D) : Option D :=
  match x, y with
  | .v (.int k a), .v (.int k' b) => if k = k' then intD op k a b else none
  | .v (.bool a), .v (.bool b) =>
    match op, k with
    | .eql, .bool => some (.v (.bool (a == b)))
    | .neq, .bool => some (.v (.bool (!(a == b))))
    | _, _ => none
  | x, y =>
    match op with
    | .eql => (eqStructD k x y).map fun b => .v (.bool b)
    | .neq => (eqStructD k x y).map fun b => .v (.bool !b)
    | _ => none
def boolD : D → Option Bool
  | .v (.bool b) => some b
  | _ => none
def natD : D → Option Nat
  | .v (.int _ n) => if 0 ≤ n then some n.toNat else none
  | _ => none
/-- A slice's elements; nil has none. -/
def elsD (sz : Nat) : D → Option (List (List D))
  | .sl s els => if s = sz ∨ els = [] then some els else none
  | .v (.slice none 0 0) => some []
  | _ => none
def elemSz (P : Program) (t : TypeId) : Option Nat :=
  match P.underlying t with
  | some (.slice e) => (P.info? e).map (·.size)
  | _ => none
def idxD (sz : Nat) (x i : D) : Option D :=
  match elsD sz x, natD i with
  | some els, some n => (els[n]?).map D.ptr
  | _, _ => none
def fldD (P : Program) (t : TypeId) (f : Nat) : Option (TypeId × Nat) :=
  match P.underlying t with
  | some (.struct fs) => (fs[f]?).map fun x => (x.type, x.offset)
  | _ => none
def lowD : Option D → Option Nat
  | none => some 0
  | some d => natD d
def highD (n : Nat) : Option D → Option Nat
  | none => some n
  | some d => natD d
def cutD (sz : Nat) (x : D) (lo hi : Option D) : Option D :=
  match elsD sz x with
  | none => none
  | some els =>
    match lowD lo, highD els.length hi with
    | some l, some h => if l ≤ h ∧ h ≤ els.length then some (.sl sz ((els.take h).drop l)) else none
    | _, _ => none
def fillD (place : Nat → Option (Nat × Nat)) (cells : List D) : List (Nat × D) → Option (List D)
  | [] => some cells
  | (i, d) :: rest =>
    match place i, cellsD d with
    | some (off, size), some cs => if cs.length ≠ size ∨ off + cs.length > cells.length then none else fillD place (cs.zipIdx.foldl (fun acc (c, j) => acc.set (off + j) c) cells) rest
    | _, _ => none
def zeroD (P : Program) (t : TypeId) : Option (List D) :=
  match P.info? t with
  | some i => i.zero.map fun z => z.cells.toList.map D.v
  | none => none
def buildR (ps : List (Nat × Nat)) (z : List D) (parts : List (Nat × D)) : Option D := (fillD (ps[·]?) z parts).map D.agg
def buildD (P : Program) (t : TypeId) (parts : List (Nat × D)) : Option D :=
  match P.underlying t, zeroD P t with
  | some (.struct fs), some z =>
    match fs.toList.mapM fun f => (P.info? f.type).map fun i => (f.offset, i.size) with
    | some ps => buildR ps z parts
    | none => none
  | _, _ => none
def chunks {α : Type} (sz : Nat) : Nat → List α → List (List α)
  | 0, _ => []
  | n + 1, l => l.take sz :: chunks sz n (l.drop sz)
def rowR (sz len : Nat) (z : List D) (parts : List (Nat × D)) : Option D :=
  if len = 0 then (if parts.isEmpty then some (.sl sz []) else none) else
  (fillD (fun k => some (k * sz, sz)) ((List.range (len * sz)).map fun k => z.getD (k % z.length) .undef) parts).map fun cs => .sl sz (chunks sz len cs)
def rowD (P : Program) (t : TypeId) (len : Nat) (parts : List (Nat × D)) : Option D :=
  match P.underlying t with
  | some (.slice e) =>
    match zeroD P e, P.info? e with
    | some z, some i => if i.size = 0 ∨ z.length ≠ i.size ∨ 1000 < len * i.size then none else rowR i.size len z parts
    | _, _ => none
  | _ => none
def lenK (k : Kd) (x : D) : Option D :=
  match k, x with
  | .sl, .sl _ els => some (.v (.int .i64 els.length))
  | .sl, .v (.slice _ n _) => some (.v (.int .i64 n))
  | .str, .v (.string s) => some (.v (.int .i64 s.size))
  | _, _ => none
def stepIntD (f : Int → Int → Int) : Option Int → D → Option Int
  | some a, .v (.int _ b) => some (f a b)
  | _, _ => none
def foldIntD (f : Int → Int → Int) : List D → Option D
  | .v (.int k a) :: r => (r.foldl (stepIntD f) (some a)).map fun a => .v (.int k a)
  | _ => none
def pickD (c a b : D) : Option D := (boolD c).map fun b' => if b' then a else b
def notD (x : D) : Option D := (boolD x).map fun b => .v (.bool !b)
def boxD (x : D) : Option D := (cellsD x).map D.ptr
def loadD (s : Option Nat) (x : D) : Option D := (ptrOf x).bind fun cs => partS s cs 0
def fieldD (s : Option Nat) (off : Nat) (x : D) : Option D := (aggOf x).bind fun cs => partS s cs off
def fieldAtD (off : Nat) (x : D) : Option D := (ptrOf x).map fun cs => .ptr (cs.drop off)
def extractD (x : D) (i : Nat) : Option D := (tupOf x).bind fun ds => ds[i]?
def maxD (l : List D) : Option D := foldIntD (fun x y => if y > x then y else x) l
def minD (l : List D) : Option D := foldIntD (fun x y => if y < x then y else x) l

/-- What an operation yields, that is no call. -/
def opD (P : Program) (op : Op) (ρ : Operand → D) : Option D :=
  match op with
  | .move x | .assign x => some (ρ x)
  | .pick c a b => pickD (ρ c) (ρ a) (ρ b)
  | .load t a => (shapeOf P t).bind fun s => loadD s (ρ a)
  | .box _ x => boxD (ρ x)
  | .field t x f => (fldD P t f).bind fun uo => (shapeOf P uo.1).bind fun s => fieldD s uo.2 (ρ x)
  | .fieldAddr t x f => (fldD P t f).bind fun uo => (P.info? uo.1).bind fun i => if i.size = 0 then none else fieldAtD uo.2 (ρ x)
  | .indexAddr t x i => (elemSz P t).bind fun sz => idxD sz (ρ x) (ρ i)
  | .slice t x lo hi none => (elemSz P t).bind fun sz => cutD sz (ρ x) (lo.map ρ) (hi.map ρ)
  | .build t ps => buildD P t (ps.toList.map fun (i, x) => (i, ρ x))
  | .buildSlice t n ps => rowD P t n (ps.toList.map fun (i, x) => (i, ρ x))
  | .binOp op t x y _ => binK (kindOf P t) op (ρ x) (ρ y)
  | .unOp .not _ x => notD (ρ x)
  | .unOp .neg _ x => negD (ρ x)
  | .convert s t x =>
    match P.underlying s, P.underlying t with
    | some (.int _), some (.int k) => intOf64 k (ρ x)
    | _, _ => none
  | .extract t i => extractD (ρ t) i
  | .call { callee := .builtin .len, args, argTypes } =>
    match args.toList, argTypes.toList with
    | [x], t :: _ => lenK (kindOf P t) (ρ x)
    | _, _ => none
  | .call { callee := .builtin .max, args, .. } => maxD (args.toList.map ρ)
  | .call { callee := .builtin .min, args, .. } => minD (args.toList.map ρ)
  | _ => none
end Go.Proofs.Ytnmgfobpcengkaa
