/-
  A deterministic machine over the model's code, with abstract values: its definitions. Conditions: none (definitions alone). How the abstract machine's values, frames and objects stand to the model's worlds; what is kept when the world goes on. Conditions: none. The abstract machine's operations that look at no object: each does what the model's operation does. Conditions: none. The abstract machine's operations that look at no object, second part: operators, fields, places, slices. Conditions: none. The abstract machine's operations that look at no object, third part: conversions, fields, places, texts and slices. Conditions: none. The abstract machine's operations that look at no object, fourth part: structs, arrays and slices that are written out; places in slices; parts of slices. Conditions: none. The abstract machine's operations that look at no object, fifth part: places in slices, parts of slices; all of them in one. Conditions: none. The abstract machine's operations that look at no object, all in one; those that read objects. Conditions: none.
-/
import Derived.Calls
import Derived.Orders
import Derived.Scope
import Derived.WalkKit
namespace Go.Proofs.YtgkalmmlgkaabaaGreat.Am

inductive AV where
  | undef
  | bool (b : Bool)
  | int (k : IntKind) (n : Int)
  | str (s : List UInt8)
  | nilp
  | ptr (r off g : Nat)
  | fptr (cs : List AV) (off : Nat)
  | nils
  | sl (r off n s g : Nat)
  | fsl (n s : Nat) (cs : List AV) (full solid : Bool)
  | nilm
  | map (r : Nat)
  | nilf
  | fn (f : Nat) (first caps : List AV)
  | niface
  | iface (t : Nat) (v : AV)
  | agg (cs : List AV)
  | tuple (vs : List AV)
  deriving Inhabited

namespace AV
/-- the value of one cell -/
def isCell : AV → Bool
  | .undef | .agg _ | .tuple _ => false
  | _ => true
/-- the cells of a value that is stored -/
def cells? : AV → Option (List AV)
  | .undef | .tuple _ => none
  | .agg cs => some cs
  | v => some [v]
/-- no object is named in it -/
def solid : AV → Bool
  | .bool _ | .int .. | .str _ | .nilp | .nils | .nilm | .nilf | .niface => true
  | .fsl _ _ _ _ s => s
  | _ => false
/-- no object is named in it, nor in its cells -/
def closed : AV → Bool
  | .agg cs => cs.all solid
  | v => v.solid
end AV

mutual
def AV.beq : AV → AV → Bool
  | .undef, .undef => true
  | .bool a, .bool b => a == b
  | .int k a, .int k' b => decide (k = k') && decide (a = b)
  | .str a, .str b => decide (a = b)
  | .nilp, .nilp => true
  | .ptr r o g, .ptr r' o' g' => Nat.beq r r' && Nat.beq o o' && Nat.beq g g'
  | .fptr cs o, .fptr cs' o' => AV.beqL cs cs' && Nat.beq o o'
  | .nils, .nils => true
  | .sl r o n s g, .sl r' o' n' s' g' => Nat.beq r r' && Nat.beq o o' && Nat.beq n n' && Nat.beq s s' && Nat.beq g g'
  | .fsl n s cs f so, .fsl n' s' cs' f' so' => Nat.beq n n' && Nat.beq s s' && AV.beqL cs cs' && f == f' && so == so'
  | .nilm, .nilm => true
  | .map r, .map r' => Nat.beq r r'
  | .nilf, .nilf => true
  | .fn f a b, .fn f' a' b' => Nat.beq f f' && AV.beqL a a' && AV.beqL b b'
  | .niface, .niface => true
  | .iface t v, .iface t' v' => Nat.beq t t' && AV.beq v v'
  | .agg cs, .agg cs' => AV.beqL cs cs'
  | .tuple cs, .tuple cs' => AV.beqL cs cs'
  | _, _ => false
def AV.beqL : List AV → List AV → Bool
  | [], [] => true
  | x :: xs, y :: ys => AV.beq x y && AV.beqL xs ys
  | _, _ => false
end

def ofS : Value → AV
  | .bool b => .bool b
  | .int k n => .int k n
  | .string s => .str s.data.toList
  | .pointer none => .nilp
  | .slice none 0 0 => .nils
  | .map none => .nilm
  | .nilFunc => .nilf
  | .nilIface => .niface
  | _ => .undef

def ofV : Value → AV
  | .agg cs => if cs.toList.all (fun x => (ofS x).isCell) then .agg (cs.toList.map ofS) else .undef
  | .tuple vs => if vs.size = 0 then .tuple [] else .undef
  | v => ofS v

inductive TK where
  | other
  | bool | int (k : IntKind) | string | ptr | iface | func
  | struct (fs : List (Nat × Nat × Bool))
  | array (len esz : Nat) (eagg : Bool)
  | slice (e : Nat)
  | map (k e : Nat)

/-- kinds of what is compared cell by cell -/
inductive SK where
  | int | str | bool

structure TI where
  size : Nat
  agg : Bool
  zero : List AV
  k : TK
  flat : Option (List SK)
  ms : List (String × Option Nat)

abbrev TE := Nat → Option TI

inductive Obj where
  | cells (c : List AV) (gen : Nat)
  | map (es : List (AV × AV × Nat)) (clock : Nat)
  | iter (s : List UInt8) (pos : Nat)
  deriving Inhabited

structure St where
  objs : List Obj
  floor : Nat

def lim : Nat := 2147483648

/-! ### operations that look at no object -/

def scalEq : AV → AV → Option Bool
  | .int k a, .int k' b => if k = k' then some (a == b) else none
  | .str a, .str b => some (a == b)
  | .bool a, .bool b => some (a == b)
  | _, _ => none

def scalEqK : SK → AV → AV → Option Bool
  | .int, .int k a, .int k' b => if k = k' then some (a == b) else none
  | .str, .str a, .str b => some (a == b)
  | .bool, .bool a, .bool b => some (a == b)
  | _, _, _ => none

def aggEq : List SK → List AV → List AV → Option Bool
  | [], [], [] => some true
  | k :: ks, x :: xs, y :: ys => match scalEqK k x y with
    | some true => aggEq ks xs ys
    | some false => some false
    | none => none
  | _, _, _ => none

def intOp (op : BinOp) (k : IntKind) (a b : Int) : Option AV :=
  match op with
  | .add => some (.int k (k.wrap (a + b)))
  | .sub => some (.int k (k.wrap (a - b)))
  | .mul => some (.int k (k.wrap (a * b)))
  | .quo => if b = 0 then none else some (.int k (k.wrap (a.tdiv b)))
  | .rem => if b = 0 then none else some (.int k (a.tmod b))
  | .and => some (.int k (k.wrap (BitVec.ofInt k.bits a &&& BitVec.ofInt k.bits b).toNat))
  | .or => some (.int k (k.wrap (BitVec.ofInt k.bits a ||| BitVec.ofInt k.bits b).toNat))
  | .xor => some (.int k (k.wrap (BitVec.ofInt k.bits a ^^^ BitVec.ofInt k.bits b).toNat))
  | .andNot => some (.int k (k.wrap (BitVec.ofInt k.bits a &&& ~~~(BitVec.ofInt k.bits b)).toNat))
  | .eql => some (.bool (a == b))
  | .neq => some (.bool (a != b))
  | .lss => some (.bool (decide (a < b)))
  | .leq => some (.bool (decide (a ≤ b)))
  | .gtr => some (.bool (decide (a > b)))
  | .geq => some (.bool (decide (a ≥ b)))
  | _ => none

def strOp (op : BinOp) (a b : List UInt8) : Option AV :=
  match op with
  | .add => if a.length + b.length ≤ lim then some (.str (a ++ b)) else none
  | .eql => some (.bool (a == b))
  | .neq => some (.bool (!(a == b)))
  | .lss => some (.bool (Op.bytesLess a b))
  | .leq => some (.bool (Op.bytesLess a b || a == b))
  | .gtr => some (.bool (!(Op.bytesLess a b || a == b)))
  | .geq => some (.bool (!Op.bytesLess a b))
  | _ => none

/-- what == answers at values that are neither numbers nor texts; c: one of the two is written out -/
def eqOp (k : TK) (flat : Option (List SK)) (c : Bool) : AV → AV → Option Bool
  | .bool a, .bool b => match k with | .bool => some (a == b) | _ => none
  | .nilp, .nilp => match k with | .ptr => some true | _ => none
  | .nilp, .ptr .. => match k with | .ptr => some false | _ => none
  | .ptr .., .nilp => match k with | .ptr => some false | _ => none
  | .nils, .nils => match k with | .slice _ => some true | _ => none
  | .nils, .sl .. => match k with | .slice _ => some false | _ => none
  | .sl .., .nils => match k with | .slice _ => some false | _ => none
  | .nils, .fsl .. => match k with | .slice _ => some false | _ => none
  | .fsl .., .nils => match k with | .slice _ => some false | _ => none
  | .nilf, .nilf => match k with | .func => some true | _ => none
  | .nilf, .fn .. => match k with | .func => some false | _ => none
  | .fn .., .nilf => match k with | .func => some false | _ => none
  | .niface, .niface => if c then (match k with | .iface => some true | _ => none) else none
  | .niface, .iface .. => match k with | .iface => some false | _ => none
  | .iface .., .niface => match k with | .iface => some false | _ => none
  | .agg xs, .agg ys => match flat with
    | some ks => aggEq ks xs ys
    | none => none
  | _, _ => none

def isConst : Operand → Bool
  | .const _ => true
  | _ => false

def binOp (T : TE) (op : BinOp) (xt : Nat) (c : Bool) (x y : AV) : Option AV :=
  match x, y with
  | .int k a, .int k' b =>
    match op with
    | .shl => if 0 ≤ b then some (.int k (k.wrap (a * 2 ^ (min b.toNat k.bits)))) else none
    | .shr => if 0 ≤ b then some (.int k (a.fdiv (2 ^ (min b.toNat k.bits)))) else none
    | op => if k = k' then intOp op k a b else none
  | .str a, .str b => strOp op a b
  | x, y =>
    match T xt with
    | none => none
    | some ti =>
      match op with
      | .eql => (eqOp ti.k ti.flat c x y).map .bool
      | .neq => (eqOp ti.k ti.flat c x y).map fun b => .bool (!b)
      | _ => none

def unOp (op : UnOp) (x : AV) : Option AV :=
  match op, x with
  | .neg, .int k n => some (.int k (k.wrap (0 - n)))
  | .not, .bool b => some (.bool (!b))
  | _, _ => none

def convert (T : TE) (dst : Nat) (x : AV) : Option AV :=
  match T dst with
  | none => none
  | some ti => match ti.k, x with
    | .int k, .int _ n => some (.int k (k.wrap n))
    | .string, .str s => some (.str s)
    | .string, .int _ n => some (.str (Utf8.encode n).data.toList)
    | _, _ => none

/-- a part of a row of cells as a value -/
def part (cs : List AV) (off size : Nat) (agg : Bool) : Option AV :=
  if off + size ≤ cs.length then
    (if agg then some (.agg ((cs.drop off).take size)) else if size = 1 then cs[off]? else none)
  else none

def setRange : List AV → Nat → List AV → List AV
  | cs, _, [] => cs
  | cs, i, v :: vs => setRange (cs.set i v) (i + 1) vs

def fill (place : Nat → Option (Nat × Nat)) : List AV → List (Nat × AV) → Option (List AV)
  | cs, [] => some cs
  | cs, (i, v) :: rest =>
    match place i, v.cells? with
    | some (off, size), some vs =>
      if vs.length = size ∧ off + size ≤ cs.length then fill place (setRange cs off vs) rest else none
    | _, _ => none

def build (T : TE) (t : Nat) (parts : List (Nat × AV)) : Option AV :=
  match T t with
  | none => none
  | some ti => match ti.k with
    | .struct fs => (fill (fun i => (fs[i]?).map fun f => (f.1, f.2.1)) ti.zero parts).map .agg
    | .array _ esz _ => (fill (fun i => some (i * esz, esz)) ti.zero parts).map .agg
    | _ => none

def buildSlice (T : TE) (t n : Nat) (parts : List (Nat × AV)) : Option AV :=
  match T t with
  | none => none
  | some ti => match ti.k with
    | .slice e => match T e with
      | none => none
      | some ei =>
        if n * ei.size ≤ 16777216 ∧ 0 < ei.size then
          match fill (fun i => some (i * ei.size, ei.size)) ((List.replicate n ei.zero).flatten) parts with
          | some cs => some (.fsl n ei.size cs true (cs.all AV.solid))
          | none => none
        else none
    | _ => none

def fieldAddr (T : TE) (t : Nat) (x : AV) (f : Nat) : Option AV :=
  match T t with
  | none => none
  | some ti => match ti.k with
    | .struct fs => match fs[f]? with
      | some (off, size, _) =>
        if 0 < size then
          (match x with
          | .ptr r o g => some (.ptr r (o + off) g)
          | .fptr cs o => some (.fptr cs (o + off))
          | _ => none)
        else none
      | none => none
    | _ => none

def field (T : TE) (t : Nat) (x : AV) (f : Nat) : Option AV :=
  match T t with
  | none => none
  | some ti => match ti.k with
    | .struct fs => match fs[f]?, x with
      | some (off, size, ag), .agg cs => part cs off size ag
      | _, _ => none
    | _ => none

def index (T : TE) (t : Nat) (x i : AV) : Option AV :=
  match T t, i with
  | some ti, .int _ n => match ti.k, x with
    | .string, .str s => if 0 ≤ n then (match s[n.toNat]? with | some b => some (.int .u8 b.toNat) | none => none) else none
    | .array len esz ag, .agg cs => if 0 ≤ n ∧ n < len then part cs (n.toNat * esz) esz ag else none
    | _, _ => none
  | _, _ => none

def indexAddr (T : TE) (t : Nat) (x i : AV) : Option AV :=
  match T t, i with
  | some ti, .int _ n => match ti.k with
    | .slice e => match T e with
      | none => none
      | some ei => match x with
        | .fsl m s cs _ _ => if s = ei.size ∧ 0 ≤ n ∧ n < m then some (.fptr ((cs.drop (n.toNat * s)).take s) 0) else none
        | .sl r off m s g => if s = ei.size ∧ 0 ≤ n ∧ n < m then some (.ptr r (off + n.toNat * s) g) else none
        | _ => none
    | .array len esz _ => match x with
      | .ptr r o g => if 0 ≤ n ∧ n < len then some (.ptr r (o + n.toNat * esz) g) else none
      | .fptr cs o => if 0 ≤ n ∧ n < len then some (.fptr cs (o + n.toNat * esz)) else none
      | _ => none
    | _ => none
  | _, _ => none

/-- the bounds of a slice expression over a length; a limit must not lie behind it -/
def bMax (n : Nat) : Option AV → Option (Option Nat)
  | none => some none
  | some (.int _ m) => if 0 ≤ m ∧ m ≤ n then some (some m.toNat) else none
  | some _ => none
def bHi (n : Nat) (m : Option Nat) : Option AV → Option Nat
  | none => match m with
    | none => some n
    | some _ => none
  | some (.int _ h) => if 0 ≤ h ∧ h ≤ ((m.getD n : Nat) : Int) then some h.toNat else none
  | some _ => none
def bLo (h : Nat) : Option AV → Option Nat
  | none => some 0
  | some (.int _ l) => if 0 ≤ l ∧ l ≤ h then some l.toNat else none
  | some _ => none
def bounds (n : Nat) (lo hi mx : Option AV) : Option (Nat × Nat × Option Nat) :=
  match bMax n mx with
  | none => none
  | some m => match bHi n m hi with
    | none => none
    | some h => match bLo h lo with
      | none => none
      | some l => some (l, h, m)

def fullAt (m : Option Nat) (full : Bool) (h n : Nat) : Bool :=
  match m with
  | some m => m == h
  | none => full && h == n

def slice (T : TE) (t : Nat) (x : AV) (lo hi mx : Option AV) : Option AV :=
  match T t with
  | none => none
  | some ti => match ti.k, x with
    | .string, .str s => match mx with
      | some _ => none
      | none => match bounds s.length lo hi none with
        | some (l, h, _) => some (.str ((s.take h).drop l))
        | none => none
    | .slice e, x => match T e with
      | none => none
      | some ei => match x with
        | .nils => match bounds 0 lo hi mx with
          | some _ => some .nils
          | none => none
        | .fsl n s cs full so => if s = ei.size then
            (match bounds n lo hi mx with
            | some (l, h, m) => some (.fsl (h - l) s ((cs.drop (l * s)).take ((h - l) * s)) (fullAt m full h n) so)
            | none => none) else none
        | .sl r off n s g => if s = ei.size ∧ mx.isNone then
            (match bounds n lo hi none with
            | some (l, h, _) => some (.sl r (off + l * s) (h - l) s g)
            | none => none) else none
        | _ => none
    | _, _ => none

def len (T : TE) (t : Nat) (x : AV) : Option AV :=
  match T t with
  | none => none
  | some ti => match ti.k, x with
    | .string, .str s => some (.int .i64 s.length)
    | .slice _, .nils => some (.int .i64 0)
    | .slice _, .fsl n _ _ _ _ => some (.int .i64 n)
    | .slice _, .sl _ _ n _ _ => some (.int .i64 n)
    | _, _ => none

def max2 : AV → AV → Option AV
  | .int k x, .int k' y => if k = k' then some (.int k (if y > x then y else x)) else none
  | _, _ => none
def min2 : AV → AV → Option AV
  | .int k x, .int k' y => if k = k' then some (.int k (if y < x then y else x)) else none
  | _, _ => none
def foldA (f : AV → AV → Option AV) : AV → List AV → Option AV
  | x, [] => some x
  | x, y :: l => match f x y with
    | some z => foldA f z l
    | none => none

def nilCheck : AV → Option AV
  | .ptr r o g => some (.ptr r o g)
  | .fptr cs o => some (.fptr cs o)
  | .fn f a b => some (.fn f a b)
  | .iface t v => some (.iface t v)
  | _ => none

def pureOp (T : TE) (ρ : Operand → AV) (op : Op) : Option AV :=
  match op with
  | .move x | .assign x => some (ρ x)
  | .pick c a b => match ρ c with
    | .bool c => some (if c then ρ a else ρ b)
    | _ => none
  | .nilCheck x => nilCheck (ρ x)
  | .binOp op xt x y _ => binOp T op xt (isConst x || isConst y) (ρ x) (ρ y)
  | .unOp op _ x => unOp op (ρ x)
  | .field t x f => field T t (ρ x) f
  | .fieldAddr t x f => fieldAddr T t (ρ x) f
  | .extract x i => match ρ x with
    | .tuple vs => vs[i]?
    | _ => none
  | .build t parts => build T t (parts.toList.map fun (i, x) => (i, ρ x))
  | .buildSlice t n parts => buildSlice T t n (parts.toList.map fun (i, x) => (i, ρ x))
  | .makeFunc (.func f) first caps => some (.fn f (first.toList.map ρ) (caps.toList.map ρ))
  | .makeInterface t x => match T t with
    | some ti => match ti.k, ρ x with
      | .iface, _ => none
      | _, .undef => none
      | _, v => some (.iface t v)
    | none => none
  | .index t x i => index T t (ρ x) (ρ i)
  | .indexAddr t x i => indexAddr T t (ρ x) (ρ i)
  | .slice t x lo hi mx => slice T t (ρ x) (lo.map ρ) (hi.map ρ) (mx.map ρ)
  | .call c => match c.callee with
    | .builtin .len => match c.argTypes[0]?, c.args[0]? with
      | some t, some x => len T t (ρ x)
      | _, _ => none
    | .builtin .max => match c.args.toList with
      | x :: l => foldA max2 (ρ x) (l.map ρ)
      | [] => none
    | .builtin .min => match c.args.toList with
      | x :: l => foldA min2 (ρ x) (l.map ρ)
      | [] => none
    | _ => none
  | _ => none

/-! ### operations that read objects -/

def cellsAt (objs : List Obj) (a : AV) (size : Nat) : Option (List AV) :=
  match a with
  | .ptr r off g => match objs[r]? with
    | some (.cells c gen) => if gen = g ∧ off + size ≤ c.length then some ((c.drop off).take size) else none
    | _ => none
  | .fptr cs off => if off + size ≤ cs.length then some ((cs.drop off).take size) else none
  | _ => none

def load (T : TE) (objs : List Obj) (t : Nat) (a : AV) : Option AV :=
  match T t with
  | none => none
  | some ti => match cellsAt objs a ti.size with
    | none => none
    | some cs => if ti.agg then some (.agg cs) else (if ti.size = 1 then cs[0]? else none)

/-- the elements of a slice -/
def view (objs : List Obj) (s : Nat) : AV → Option (Nat × List AV)
  | .nils => some (0, [])
  | .fsl n s' cs _ _ => if s' = s then some (n, cs) else none
  | .sl r off n s' g => match objs[r]? with
    | some (.cells c gen) => if gen = g ∧ s' = s then some (n, (c.drop off).take (n * s)) else none
    | _ => none
  | _ => none

def findE (k : AV) : List (AV × AV × Nat) → Option (Option AV)
  | [] => some none
  | (k', v, _) :: es => match scalEq k k' with
    | some true => some (some v)
    | some false => findE k es
    | none => none

def keyOk : AV → Bool
  | .int .. | .str _ => true
  | _ => false

/-- a key of a type: a number, or a text -/
def keyT (T : TE) (t : Nat) (k : AV) : Bool :=
  match T t with
  | none => false
  | some ti => match ti.k, k with
    | .int _, .int _ _ => true
    | .string, .str _ => true
    | _, _ => false

def orZero (ei : TI) : Option AV → Option AV
  | some v => some v
  | none => if ei.agg then some (.agg ei.zero) else ei.zero[0]?

def lookup (T : TE) (objs : List Obj) (t : Nat) (x k : AV) (ok : Bool) : Option AV :=
  match T t with
  | none => none
  | some ti => match ti.k with
    | .map kt e => match T e with
      | none => none
      | some ei => if keyT T kt k then
        (match (match x with
          | .nilm => some none
          | .map r => match objs[r]? with
            | some (.map es _) => findE k es
            | _ => none
          | _ => none) with
        | none => none
        | some r =>
          match orZero ei r with
          | none => none
          | some v => some (if ok then .tuple [v, .bool r.isSome] else v)) else none
    | _ => none

def bytesOf : List AV → Option (List UInt8)
  | [] => some []
  | .int .u8 n :: l => match bytesOf l with
    | some r => some (UInt8.ofNat n.toNat :: r)
    | none => none
  | _ => none

def runesOf : List AV → Option (List UInt8)
  | [] => some []
  | .int .i32 n :: l => match runesOf l with
    | some r => some ((Utf8.encode n).data.toList ++ r)
    | none => none
  | _ => none

/-- a row of bytes, or of runes, as a text -/
def texts (T : TE) (objs : List Obj) (e : Nat) (x : AV) : Option AV :=
  match T e with
  | none => none
  | some ei => match ei.k with
    | .int .u8 => match view objs 1 x with
      | some (_, cs) => (match bytesOf cs with
        | some r => some (.str r)
        | none => none)
      | none => none
    | .int .i32 => match view objs 1 x with
      | some (_, cs) => (match runesOf cs with
        | some r => some (.str r)
        | none => none)
      | none => none
    | _ => none

def convertR (T : TE) (objs : List Obj) (src dst : Nat) (x : AV) : Option AV :=
  match T src with
  | none => none
  | some si => match si.k with
    | .slice e => match T dst with
      | none => none
      | some di => match di.k with
        | .string => texts T objs e x
        | _ => none
    | _ => convert T dst x

/-- a part of a row: of an array of ours, too -/
def sliceR (T : TE) (objs : List Obj) (t : Nat) (x : AV) (lo hi mx : Option AV) : Option AV :=
  match T t with
  | none => none
  | some ti => match ti.k, x with
    | .array len esz _, .ptr r o g => match objs[r]? with
      | some (.cells c gen) => if gen = g ∧ o + len * esz ≤ c.length then
          (match bounds len lo hi mx with
          | some (l, h, _) => some (.sl r (o + l * esz) (h - l) esz g)
          | none => none) else none
      | _ => none
    | _, x => slice T t x lo hi mx

def readOp (T : TE) (ρ : Operand → AV) (objs : List Obj) (op : Op) : Option AV :=
  match op with
  | .convert src dst x => convertR T objs src dst (ρ x)
  | .load t a => load T objs t (ρ a)
  | .lookup t x i ok => lookup T objs t (ρ x) (ρ i) ok
  | .slice t x lo hi mx => sliceR T objs t (ρ x) (lo.map ρ) (hi.map ρ) (mx.map ρ)
  | _ => none

/-! ### operations that make an object, and do nothing else -/

def allocOp (T : TE) (ρ : Operand → AV) (op : Op) : Option (Obj × (Nat → AV)) :=
  match op with
  | .alloc t => match T t with
    | some ti => if 0 < ti.size then some (.cells ti.zero 0, fun r => .ptr r 0 0) else none
    | none => none
  | .box t x => match T t, (ρ x).cells? with
    | some ti, some cs => if cs.length = ti.size ∧ 0 < ti.size then some (.cells cs 0, fun r => .ptr r 0 0) else none
    | _, _ => none
  | .makeSlice t l c => match T t with
    | none => none
    | some ti => match ti.k, ρ l, ρ c with
      | .slice e, .int _ l, .int _ c => match T e with
        | none => none
        | some ei => if 0 ≤ l ∧ l ≤ c ∧ c ≤ lim ∧ 0 < ei.size then
            some (.cells (List.replicate l.toNat ei.zero).flatten 0, fun r => .sl r 0 l.toNat ei.size 0) else none
      | _, _, _ => none
  | .makeMap _ none => some (.map [] 0, fun r => .map r)
  | .range t x => match T t with
    | none => none
    | some ti => match ti.k, ρ x with
      | .string, .str s => some (.iter s 0, fun r => .ptr r 0 0)
      | _, _ => none
  | _ => none

/-! ### operations that change objects -/

def store (T : TE) (st : St) (t : Nat) (a v : AV) : Option St :=
  match T t, a, v.cells? with
  | some ti, .ptr r off g, some vs => match st.objs[r]? with
    | some (.cells c gen) =>
      if st.floor ≤ r ∧ gen = g ∧ vs.length = ti.size ∧ off + ti.size ≤ c.length then
        some { st with objs := st.objs.set r (.cells (setRange c off vs) gen) } else none
    | _ => none
  | _, _, _ => none

def append (T : TE) (st : St) (t : Nat) (d x : AV) : Option (AV × St) :=
  match T t with
  | none => none
  | some ti => match ti.k with
    | .slice e => match T e with
      | none => none
      | some ei => match view st.objs ei.size x with
        | none => none
        | some (n, new) =>
          if n = 0 then (match d with
            | .nils | .fsl .. | .sl .. => some (d, st)
            | _ => none)
          else match d with
            | .nils => if n ≤ lim then some (.sl st.objs.length 0 n ei.size 0, { st with objs := st.objs ++ [.cells new 0] }) else none
            | .fsl k s cs true _ => if s = ei.size ∧ k + n ≤ lim then
                some (.sl st.objs.length 0 (k + n) s 0, { st with objs := st.objs ++ [.cells (cs ++ new) 0] }) else none
            | .sl r off k s g => match st.objs[r]? with
              | some (.cells c gen) =>
                if st.floor ≤ r ∧ gen = g ∧ s = ei.size ∧ k + n ≤ lim then
                  some (.sl r 0 (k + n) s (g + 1), { st with objs := st.objs.set r (.cells ((c.drop off).take (k * s) ++ new) (g + 1)) }) else none
              | _ => none
            | _ => none
    | _ => none

def putE (k v : AV) (clock : Nat) : List (AV × AV × Nat) → Option (List (AV × AV × Nat) × Nat)
  | [] => some ([(k, v, clock)], clock + 1)
  | (k', v', b) :: es => match scalEq k k' with
    | some true => some ((k', v, b) :: es, clock)
    | some false => match putE k v clock es with
      | some (es', c') => some ((k', v', b) :: es', c')
      | none => none
    | none => none

def mapUpdate (T : TE) (st : St) (t : Nat) (m k v : AV) : Option St :=
  match T t with
  | none => none
  | some ti => match ti.k, m with
    | .map kt _, .map r => match st.objs[r]? with
      | some (.map es clock) =>
        if st.floor ≤ r ∧ keyT T kt k then (match putE k v clock es with
          | some (es', clock') => some { st with objs := st.objs.set r (.map es' clock') }
          | none => none) else none
      | _ => none
    | _, _ => none

def next (st : St) (it : AV) : Option (AV × St) :=
  match it with
  | .ptr r 0 0 => match st.objs[r]? with
    | some (.iter s pos) =>
      if st.floor ≤ r then
        (if pos < s.length then
          (let d := Utf8.decode ⟨s.toArray⟩ pos
          some (.tuple [.bool true, .int .i64 pos, .int .i32 d.1], { st with objs := st.objs.set r (.iter s (pos + d.2)) }))
        else some (.tuple [.bool false], st))
      else none
    | _ => none
  | _ => none

/-- the elements of a slice, or a text's bytes, as what is copied -/
def viewS (objs : List Obj) (ei : TI) (x : AV) : Option (Nat × List AV) :=
  match x with
  | .str s => match ei.k with
    | .int .u8 => if ei.size = 1 then some (s.length, s.map fun b => .int .u8 b.toNat) else none
    | _ => none
  | x => view objs ei.size x

def copy (T : TE) (st : St) (t : Nat) (d x : AV) : Option (AV × St) :=
  match T t with
  | none => none
  | some ti => match ti.k with
    | .slice e => match T e with
      | none => none
      | some ei => match viewS st.objs ei x with
        | none => none
        | some (n, new) => match d with
          | .nils => some (.int .i64 0, st)
          | .sl r off k s g => match st.objs[r]? with
            | some (.cells c gen) =>
              if st.floor ≤ r ∧ gen = g ∧ s = ei.size ∧ 0 < ei.size then
                some (.int .i64 (min n k : Nat), { st with objs := st.objs.set r (.cells (setRange c off (new.take (min n k * s))) gen) }) else none
            | _ => none
          | _ => none
    | _ => none

def clearS (T : TE) (st : St) (t : Nat) (x : AV) : Option St :=
  match T t with
  | none => none
  | some ti => match ti.k with
    | .slice e => match T e with
      | none => none
      | some ei => match x with
        | .nils => some st
        | .sl r off n s g => match st.objs[r]? with
          | some (.cells c gen) =>
            if st.floor ≤ r ∧ gen = g ∧ s = ei.size ∧ 0 < ei.size then
              some { st with objs := st.objs.set r (.cells (setRange c off (List.replicate n ei.zero).flatten) gen) } else none
          | _ => none
        | _ => none
    | _ => none

def dropE (k : AV) : List (AV × AV × Nat) → Option (List (AV × AV × Nat))
  | [] => some []
  | (k', v', b) :: es => match scalEq k k' with
    | some true => some es
    | some false => match dropE k es with
      | some es' => some ((k', v', b) :: es')
      | none => none
    | none => none

def delete (T : TE) (st : St) (t : Nat) (m k : AV) : Option St :=
  match T t with
  | none => none
  | some ti => match ti.k, m with
    | .map kt _, .map r => match st.objs[r]? with
      | some (.map es clock) =>
        if st.floor ≤ r ∧ keyT T kt k then (match dropE k es with
          | some es' => some { st with objs := st.objs.set r (.map es' clock) }
          | none => none) else none
      | _ => none
    | _, _ => none

/-- how many entries a map has -/
def mapLen (T : TE) (objs : List Obj) (t : Nat) (m : AV) : Option AV :=
  match T t with
  | none => none
  | some ti => match ti.k, m with
    | .map _ _, .nilm => some (.int .i64 0)
    | .map _ _, .map r => match objs[r]? with
      | some (.map es _) => some (.int .i64 es.length)
      | _ => none
    | _, _ => none

/-- what is done outside of regions that draw alone -/
def lateOp (T : TE) (ρ : Operand → AV) (objs : List Obj) (op : Op) : Option AV :=
  match op with
  | .call c => match c.callee with
    | .builtin .len => match c.argTypes[0]?, c.args[0]? with
      | some t, some x => mapLen T objs t (ρ x)
      | _, _ => none
    | _ => none
  | _ => none

def writeOp (T : TE) (ρ : Operand → AV) (st : St) (op : Op) : Option (AV × St) :=
  match op with
  | .store t a v => (store T st t (ρ a) (ρ v)).map fun st => (.undef, st)
  | .mapUpdate t m k v | .insert t m k v => (mapUpdate T st t (ρ m) (ρ k) (ρ v)).map fun st => (.undef, st)
  | .next it true => next st (ρ it)
  | .call c => match c.callee with
    | .builtin .append => match c.argTypes[0]?, c.argTypes[1]?, c.args[0]?, c.args[1]? with
      | some t, some u, some d, some x => match T u with
        | some ui => match ui.k with
          | .slice _ => append T st t (ρ d) (ρ x)
          | _ => none
        | none => none
      | _, _, _, _ => none
    | .builtin .copy => match c.argTypes[0]?, c.args[0]?, c.args[1]? with
      | some t, some d, some x => copy T st t (ρ d) (ρ x)
      | _, _, _ => none
    | .builtin .clear => match c.argTypes[0]?, c.args[0]? with
      | some t, some x => (clearS T st t (ρ x)).map fun st => (.tuple [], st)
      | _, _ => none
    | .builtin .delete => match c.argTypes[0]?, c.args[0]?, c.args[1]? with
      | some t, some m, some k => (delete T st t (ρ m) (ρ k)).map fun st => (.tuple [], st)
      | _, _, _ => none
    | _ => none
  | _ => none

/-! ### the code -/

structure FI where
  body : Code
  ntmps : Nat
  results : List ResultVar
  pure : Bool
  clr : Nat → List Nat
  ord : Nat → List Nat
  rc : Nat → List (Nat × List Nat)

abbrev PE := Nat → Option FI
abbrev Runs := Nat → List AV → St → Option (AV × St)

def eval (fr : List AV) : Operand → AV
  | .tmp t => fr.getD t .undef
  | .const v => ofV v
  | .global _ => .undef
  | .func f => .fn f [] []

def put (fr : List AV) (d : Option Tmp) (v : AV) : List AV :=
  match d with
  | some d => fr.set d v
  | none => fr

/-- what an operation has told; none: it can't be told -/
def yields (ops : Array Oper) (fr : List AV) (j : Nat) : Option (Option Bool) :=
  match (ops[j]?).bind (·.dst) with
  | some d => match fr.getD d .undef with
    | .bool b => some (some b)
    | .tuple [] => some none
    | _ => none
  | none => none

/-- whether an operation is wanted; none: it can't be told -/
def wanted (o : Oper) (ops : Array Oper) (fr : List AV) : Option Bool :=
  match o.guard with
  | none => some true
  | some (j, want) => match yields ops fr j with
    | some (some b) => some (b == want)
    | some none => some false
    | none => none

/-- a call; 'strict': it must be of a function that changes nothing -/
def callOp (E : PE) (run : Runs) (strict : Bool) (ρ : Operand → AV) (c : Call) (st : St) : Option (AV × St) :=
  match c.callee with
  | .value f => match ρ f with
    | .fn f first caps =>
      if strict && !((E f).any (·.pure)) then none else run f (first ++ c.args.toList.map ρ ++ caps) st
    | _ => none
  | _ => none

inductive Cls where | p | r | k | a | w
  deriving DecidableEq

/-- of which class an operation is, in a region that draws -/
def cls (E : PE) (op : Op) : Cls :=
  match op with
  | .load .. | .lookup .. | .convert .. | .slice .. => .r
  | .alloc _ | .box .. | .makeSlice .. | .makeMap .. | .range .. => .a
  | .store .. | .mapUpdate .. | .insert .. | .mapEntry .. | .entryStore .. | .next .. => .w
  | .call c => match c.callee with
    | .builtin .append | .builtin .copy | .builtin .clear | .builtin .delete => .w
    | .builtin _ => .p
    | .value (.func f) => if (E f).any (·.pure) then .k else .w
    | .value _ => .k
    | .invoke .. => .w
  | _ => .p

/-- a call by the method of a value's type -/
def invokeOp (T : TE) (run : Runs) (ρ : Operand → AV) (r : Operand) (m : String) (args : Array Operand) (st : St) : Option (AV × St) :=
  match ρ r with
  | .iface t v => match T t with
    | some ti => match ti.ms.find? (fun x => x.1 == m) with
      | some (_, some f) => run f (v :: args.toList.map ρ) st
      | _ => none
    | none => none
  | _ => none

def stepOp (T : TE) (E : PE) (run : Runs) (draw : Bool) (fr : List AV) (o : Oper) (st : St) : Option (AV × St) :=
  match cls E o.op with
  | .p => match pureOp T (eval fr) o.op with
    | some v => some (v, st)
    | none => if draw then none else (lateOp T (eval fr) st.objs o.op).map fun v => (v, st)
  | .r => (readOp T (eval fr) st.objs o.op).map fun v => (v, st)
  | .a => (allocOp T (eval fr) o.op).map fun x => (x.2 st.objs.length, { st with objs := st.objs ++ [x.1] })
  | .k => match o.op with
    | .call c => callOp E run draw (eval fr) c st
    | _ => none
  | .w => match o.op with
    | .call { callee := .value f, args, argTypes } => callOp E run false (eval fr) { callee := .value f, args, argTypes } st
    | .call { callee := .invoke r m, args, argTypes := _ } => invokeOp T run (eval fr) r m args st
    | op => writeOp T (eval fr) st op

def opAt (T : TE) (E : PE) (run : Runs) (draw : Bool) (ops : Array Oper) (i : Nat) (fr : List AV) (st : St) : Option (List AV × St) :=
  match ops[i]? with
  | none => none
  | some o => match wanted o ops fr with
    | none => none
    | some false => some (put fr o.dst (.tuple []), st)
    | some true => match stepOp T E run draw fr o st with
      | some (v, st) => some (put fr o.dst v, st)
      | none => none

def runOps (T : TE) (E : PE) (run : Runs) (draw : Bool) (ops : Array Oper) : List Nat → List AV → St → Option (List AV × St)
  | [], fr, st => some (fr, st)
  | i :: l, fr, st => match opAt T E run draw ops i fr st with
    | some (fr, st) => runOps T E run draw ops l fr st
    | none => none

/-- what was read would be read again -/
def reread (T : TE) (ops : Array Oper) (fr : List AV) (objs : List Obj) (u : Nat) : Bool :=
  match ops[u]? with
  | none => false
  | some o => match wanted o ops fr with
    | none => false
    | some false => true
    | some true => match readOp T (eval fr) objs o.op with
      | none => false
      | some v => match o.dst with
        | none => true
        | some d => AV.beq v (fr.getD d .undef)

def rcOf (rc : List (Nat × List Nat)) (i : Nat) : List Nat :=
  match rc with
  | [] => []
  | (j, l) :: rc => if j = i then l else rcOf rc i

/-- a row of operations in an order that may be another than the text's: what an operation that writes is not ordered with was read before, and would be read again -/
def runD (T : TE) (E : PE) (run : Runs) (ops : Array Oper) (rc : List (Nat × List Nat)) : List Nat → List AV → St → Option (List AV × St)
  | [], fr, st => some (fr, st)
  | i :: l, fr, st => match opAt T E run true ops i fr st with
    | some (fr, st) => if (rcOf rc i).all (reread T ops fr st.objs) then runD T E run ops rc l fr st else none
    | none => none

inductive Ex where
  | normal
  | exit (id : Nat)
  | goto (l : Nat)
  | ret
  deriving DecidableEq

abbrev Out := Option (Ex × List AV × St)

def clear (fr : List AV) : List Nat → List AV
  | [] => fr
  | d :: l => clear (fr.set d .undef) l

def loopN (body : List AV → St → Out) (cl : List Nat) : Nat → List AV → St → Out
  | 0, _, _ => none
  | n + 1, fr, st => match body (clear fr cl) st with
    | some (.normal, fr, st) => loopN body cl n fr st
    | o => o

/-- the slots of a region's allocations -/
def dstsA (E : PE) (ops : Array Oper) : List Nat := ops.toList.filterMap fun o => if cls E o.op = .a then o.dst else none

/-- in which order a region that draws is gone through -/
def ordOf (fi : FI) (id : Nat) (ops : Array Oper) : List Nat := match fi.ord id with
  | [] => List.range ops.size
  | l => l

def exec (T : TE) (E : PE) (run : Runs) (n : Nat) (fi : FI) : Code → Nat → List AV → St → Out
  | .skip, _, fr, st => some (.normal, fr, st)
  | .region id ops draw, _, fr, st =>
    if draw then
      match runD T E run ops (fi.rc id) (ordOf fi id ops) (clear fr (dstsA E ops)) st with
      | some (fr, st) => some (.normal, fr, st)
      | none => none
    else
      match runOps T E run false ops (List.range ops.size) fr st with
      | some (fr, st) => some (.normal, fr, st)
      | none => none
  | .seq a b, bid, fr, st => match exec T E run n fi a bid fr st with
    | some (.normal, fr, st) => exec T E run n fi b bid fr st
    | o => o
  | .cond c a b, bid, fr, st => match eval fr c with
    | .bool true => exec T E run n fi a bid fr st
    | .bool false => exec T E run n fi b bid fr st
    | _ => none
  | .block id a, _, fr, st => match exec T E run n fi a id fr st with
    | some (.exit id', fr, st) => if id' = id then some (.normal, fr, st) else some (.exit id', fr, st)
    | o => o
  | .loop a, bid, fr, st => loopN (exec T E run n fi a bid) (fi.clr bid) n fr st
  | .exit id, _, fr, st => some (.exit id, fr, st)
  | .scope a, bid, fr, st => match exec T E run n fi a bid fr st with
    | some (.goto _, _, _) => none
    | o => o
  | .label _, _, fr, st => some (.normal, fr, st)
  | .ret, _, fr, st => some (.ret, fr, st)
  | _, _, _, _ => none

def resultOf (T : TE) (fr : List AV) (objs : List Obj) : ResultVar → Option AV
  | .tmp t => some (fr.getD t .undef)
  | .cell a t => load T objs t (fr.getD a .undef)

def resultsOf (T : TE) (fr : List AV) (objs : List Obj) : List ResultVar → Option (List AV)
  | [] => some []
  | r :: rs => match resultOf T fr objs r, resultsOf T fr objs rs with
    | some v, some vs => some (v :: vs)
    | _, _ => none

def one : List AV → AV
  | [v] => v
  | vs => .tuple vs

/-- a value out of objects from n0 on: what it is made of is laid into it -/
def frz (objs : List Obj) (n0 : Nat) : Nat → AV → Option AV
  | 0, _ => none
  | d + 1, v => match v with
    | .sl r off n s g => if r < n0 then some (.sl r off n s g) else match objs[r]? with
      | some (.cells c gen) => if gen = g then
          (match ((c.drop off).take (n * s)).mapM (frz objs n0 d) with
          | some cs => some (.fsl n s cs false (cs.all AV.solid))
          | none => none) else none
      | _ => none
    | .fsl n s cs full so => if so then some (.fsl n s cs full so) else
        (match cs.mapM (frz objs n0 d) with
        | some cs => some (.fsl n s cs full (cs.all AV.solid))
        | none => none)
    | .ptr r off g => if r < n0 then some (.ptr r off g) else none
    | .map r => if r < n0 then some (.map r) else none
    | .agg cs => match cs.mapM (frz objs n0 d) with
      | some cs => some (.agg cs)
      | none => none
    | .tuple cs => match cs.mapM (frz objs n0 d) with
      | some cs => some (.tuple cs)
      | none => none
    | .iface t v => match frz objs n0 d v with
      | some v => some (.iface t v)
      | none => none
    | .fn f a b => match a.mapM (frz objs n0 d), b.mapM (frz objs n0 d) with
      | some a, some b => some (.fn f a b)
      | _, _ => none
    | .fptr .. => none
    | v => some v

/-- R: functions of which something else is known than their code -/
def run (T : TE) (E : PE) (R : Runs) : Nat → Nat → List AV → St → Option (AV × St)
  | 0, _, _, _ => none
  | n + 1, f, args, st =>
    match E f with
    | none => R f args st
    | some fi =>
      if fi.pure && args.all AV.closed then
        match exec T E (run T E R n) n fi fi.body 0 (args ++ List.replicate (fi.ntmps - args.length) .undef) ⟨[], 0⟩ with
        | some (e, fr, st1) =>
          if e = .ret ∨ e = .normal then
            match resultsOf T fr st1.objs fi.results with
            | some vs =>
              match frz st1.objs 0 12 (one vs) with
              | some v => some (v, st)
              | none => none
            | none => none
          else none
        | none => none
      else
      match exec T E (run T E R n) n fi fi.body 0 (args ++ List.replicate (fi.ntmps - args.length) .undef) (if fi.pure then { st with floor := st.objs.length } else st) with
      | some (e, fr, st1) =>
        if e = .ret ∨ e = .normal then
          match resultsOf T fr st1.objs fi.results with
          | some vs =>
            if fi.pure then
              match frz st1.objs st.objs.length 12 (one vs) with
              | some v => some (v, st)
              | none => none
            else some (one vs, st1)
          | none => none
        else none
      | none => none

end Go.Proofs.YtgkalmmlgkaabaaGreat.Am

namespace Go.Proofs.YtgkalmmlgkaabaaGreat.Am

structure GE where
  blk : Nat
  base : Nat
  cap : Nat
  len : Nat
  gen : Nat

abbrev Mem := Nat → Nat → Option Value

def sg (so : Bool) (G : List GE) : List GE := if so then [] else G

inductive RelV (M : Mem) : List GE → AV → Value → Prop where
  | undef {G v} : RelV M G .undef v
  | bool {G b} : RelV M G (.bool b) (.bool b)
  | int {G k n} : RelV M G (.int k n) (.int k n)
  | str {G s} : RelV M G (.str s) (.string ⟨s.toArray⟩)
  | nilp {G} : RelV M G .nilp (.pointer none)
  | ptr {G r off g e a} (h : G[r]? = some e) (hg : g ≤ e.gen) (hv : e.gen = g → a = ⟨e.blk, e.base + off, none⟩) : RelV M G (.ptr r off g) (.pointer (some a))
  | fptr {G cs off b base} {f : Nat → Value} (h1 : ∀ x ∈ cs, x.isCell = true) (h2 : ∀ i, i < cs.length → M b (base + i) = some (f i)) (h3 : ∀ (i : Nat) (x : AV), cs[i]? = some x → RelV M G x (f i)) :
      RelV M G (.fptr cs off) (.pointer (some ⟨b, base + off, none⟩))
  | nils {G} : RelV M G .nils (.slice none 0 0)
  | sl {G r off n s g e a cap} (h : G[r]? = some e) (hg : g ≤ e.gen) (hn : n ≤ cap)
      (hv : e.gen = g → off + n * s ≤ e.len ∧ off + cap * s ≤ e.cap ∧ (a = ⟨e.blk, e.base + off, none⟩ ∨ (cap = 0 ∧ a.spot = none))) : RelV M G (.sl r off n s g) (.slice (some a) n cap)
  | fsl {G n s cs full so b base cap} {f : Nat → Value} (hl : cs.length = n * s) (hn : n ≤ cap) (hf : full = true → cap = n)
      (h1 : ∀ x ∈ cs, x.isCell = true) (h2 : ∀ i, i < cs.length → M b (base + i) = some (f i)) (h3 : ∀ (i : Nat) (x : AV), cs[i]? = some x → RelV M (sg so G) x (f i)) :
      RelV M G (.fsl n s cs full so) (.slice (some ⟨b, base, none⟩) n cap)
  | fsl0 {G s full so a} : RelV M G (.fsl 0 s [] full so) (.slice (some a) 0 0)
  | nilm {G} : RelV M G .nilm (.map none)
  | map {G r e a} (h : G[r]? = some e) (hv : e.gen = 0 → a = e.blk) : RelV M G (.map r) (.map (some a))
  | nilf {G} : RelV M G .nilf .nilFunc
  | fn {G f a b} {xa xb : List Value} (la : a.length = xa.length) (lb : b.length = xb.length) (ha : ∀ (i : Nat) (x : AV) (y : Value), a[i]? = some x → xa[i]? = some y → RelV M G x y)
      (hb : ∀ (i : Nat) (x : AV) (y : Value), b[i]? = some x → xb[i]? = some y → RelV M G x y) : RelV M G (.fn f a b) (.func (.func f) ⟨xa⟩ ⟨xb⟩)
  | niface {G} : RelV M G .niface .nilIface
  | iface {G t v x} (h : RelV M G v x) : RelV M G (.iface t v) (.iface t x)
  | agg {G cs} {xs : List Value} (hl : cs.length = xs.length) (h1 : ∀ x ∈ cs, x.isCell = true) (h : ∀ (i : Nat) (x : AV) (y : Value), cs[i]? = some x → xs[i]? = some y → RelV M G x y) : RelV M G (.agg cs) (.agg ⟨xs⟩)
  | tuple {G vs} {xs : List Value} (hl : vs.length = xs.length) (h : ∀ (i : Nat) (x : AV) (y : Value), vs[i]? = some x → xs[i]? = some y → RelV M G x y) : RelV M G (.tuple vs) (.tuple ⟨xs⟩)

def MLe (M M' : Mem) : Prop := ∀ b o x, M b o = some x → M' b o = some x
theorem MLe.refl (M : Mem) : MLe M M := fun _ _ _ h => h
theorem MLe.trans {A B C : Mem} (h : MLe A B) (k : MLe B C) : MLe A C := fun b o x hx => k b o x (h b o x hx)

/-- the objects' places go on: the same, or with a later generation -/
def GLe (G G' : List GE) : Prop := ∀ (r : Nat) (e : GE), G[r]? = some e → ∃ e', G'[r]? = some e' ∧ (e' = e ∨ e.gen < e'.gen)
theorem GLe.refl (G : List GE) : GLe G G := fun _ e h => ⟨e, h, .inl rfl⟩
theorem GLe.trans {A B C : List GE} (h : GLe A B) (k : GLe B C) : GLe A C := fun r e he => by
  obtain ⟨e', h1, h2⟩ := h r e he
  obtain ⟨e'', k1, k2⟩ := k r e' h1
  refine ⟨e'', k1, ?_⟩
  rcases h2 with rfl | h2
  · exact k2
  · rcases k2 with rfl | k2
    · exact .inr h2
    · exact .inr (by omega)
theorem GLe.nil (G : List GE) : GLe [] G := fun r e h => by simp at h
theorem GLe.sg {G G' : List GE} (h : GLe G G') (so : Bool) : GLe (sg so G) (sg so G') := by
  cases so
  · exact h
  · exact GLe.refl _
theorem GLe.push (G : List GE) (e : List GE) : GLe G (G ++ e) := fun r x h => by
  refine ⟨x, ?_, .inl rfl⟩
  have hlt : r < G.length := by
    rcases Nat.lt_or_ge r G.length with h' | h'
    · exact h'
    · simp [List.getElem?_eq_none h'] at h
  rw [List.getElem?_append_left hlt]; exact h

theorem RelV.mono {M M' : Mem} {G : List GE} {v : AV} {x : Value} (h : RelV M G v x) (hM : MLe M M') : ∀ {G' : List GE}, GLe G G' → RelV M' G' v x := by
  induction h with
  | undef => intro G' _; exact .undef
  | bool => intro G' _; exact .bool
  | int => intro G' _; exact .int
  | str => intro G' _; exact .str
  | nilp => intro G' _; exact .nilp
  | ptr h hg hv =>
    intro G' hG
    obtain ⟨e', h1, h2⟩ := hG _ _ h
    rcases h2 with rfl | h2
    · exact .ptr h1 hg hv
    · exact .ptr h1 (by omega) (fun he => by omega)
  | fptr h1 h2 _ ih => intro G' hG; exact .fptr h1 (fun i hi => hM _ _ _ (h2 i hi)) (fun i x hx => ih i x hx hG)
  | nils => intro G' _; exact .nils
  | sl h hg hn hv =>
    intro G' hG
    obtain ⟨e', h1, h2⟩ := hG _ _ h
    rcases h2 with rfl | h2
    · exact .sl h1 hg hn hv
    · exact .sl h1 (by omega) hn (fun he => by omega)
  | fsl hl hn hf h1 h2 _ ih => intro G' hG; exact .fsl hl hn hf h1 (fun i hi => hM _ _ _ (h2 i hi)) (fun i x hx => ih i x hx (hG.sg _))
  | fsl0 => intro G' _; exact .fsl0
  | nilm => intro G' _; exact .nilm
  | map h hv =>
    intro G' hG
    obtain ⟨e', h1, h2⟩ := hG _ _ h
    rcases h2 with rfl | h2
    · exact .map h1 hv
    · exact .map h1 (fun he => by omega)
  | nilf => intro G' _; exact .nilf
  | fn la lb _ _ iha ihb => intro G' hG; exact .fn la lb (fun i x y hx hy => iha i x y hx hy hG) (fun i x y hx hy => ihb i x y hx hy hG)
  | niface => intro G' _; exact .niface
  | iface _ ih => intro G' hG; exact .iface (ih hG)
  | agg hl h1 _ ih => intro G' hG; exact .agg hl h1 (fun i x y hx hy => ih i x y hx hy hG)
  | tuple hl _ ih => intro G' hG; exact .tuple hl (fun i x y hx hy => ih i x y hx hy hG)

/-! ### what is written out in the code -/

theorem relS (M : Mem) (G : List GE) (v : Value) : RelV M G (ofS v) v := by
  unfold ofS
  split
  · exact .bool
  · exact .int
  · rename_i s
    have : Value.string s = .string ⟨s.data.toList.toArray⟩ := by simp
    rw [this]; exact .str
  · exact .nilp
  · exact .nils
  · exact .nilm
  · exact .nilf
  · exact .niface
  · exact .undef

theorem relOfV (M : Mem) (G : List GE) (v : Value) : RelV M G (ofV v) v := by
  unfold ofV
  split
  · rename_i cs
    split
    · rename_i h
      obtain ⟨xs⟩ := cs
      refine .agg (by simp) ?_ ?_
      · intro x hx
        obtain ⟨y, hy, rfl⟩ := List.mem_map.1 hx
        exact List.all_eq_true.1 h y hy
      · intro i x y hx hy
        simp only [List.getElem?_map] at hx
        rw [hy] at hx
        simp at hx
        subst hx
        exact relS _ _ _
    · exact .undef
  · rename_i vs
    split
    · rename_i h
      obtain ⟨xs⟩ := vs
      have : xs = [] := by simpa using h
      subst this
      exact .tuple rfl (by simp)
    · exact .undef
  · exact relS _ _ _

/-! ### frames -/

def RelF (M : Mem) (G : List GE) (fr : List AV) (tmps : Array Value) : Prop :=
  fr.length = tmps.size ∧ ∀ (i : Nat) (v : AV) (x : Value), fr[i]? = some v → tmps[i]? = some x → RelV M G v x

theorem RelF.mono {M M' : Mem} {G G' : List GE} {fr : List AV} {tmps : Array Value} (h : RelF M G fr tmps) (hM : MLe M M') (hG : GLe G G') : RelF M' G' fr tmps :=
  ⟨h.1, fun i v x hv hx => (h.2 i v x hv hx).mono hM hG⟩

theorem RelF.getD {M : Mem} {G : List GE} {fr : List AV} {tmps : Array Value} (h : RelF M G fr tmps) (t : Nat) : RelV M G (fr.getD t .undef) (tmps.getD t Go.undef) := by
  by_cases ht : t < fr.length
  · have ht' : t < tmps.size := h.1 ▸ ht
    have := h.2 t fr[t] tmps[t] (List.getElem?_eq_getElem ht) (Array.getElem?_eq_getElem ht')
    simpa [List.getD, ht, ht'] using this
  · have : fr.getD t .undef = .undef := by simp [List.getD, List.getElem?_eq_none (Nat.le_of_not_lt ht)]
    rw [this]; exact .undef

theorem RelF.eval {M : Mem} {G : List GE} {fr : List AV} {a : Act} (h : RelF M G fr a.tmps) (o : Operand) : RelV M G (eval fr o) (a.eval o) := by
  cases o with
  | tmp t => exact h.getD t
  | const v => exact relOfV _ _ _
  | global g => exact .undef
  | func f => exact .fn rfl rfl (by simp) (by simp)

theorem RelF.set {M : Mem} {G : List GE} {fr : List AV} {tmps : Array Value} (h : RelF M G fr tmps) (d : Nat) {v : AV} {x : Value} (hv : RelV M G v x) :
    RelF M G (fr.set d v) (tmps.setIfInBounds d x) := by
  refine ⟨by simp [h.1], fun i u y hu hy => ?_⟩
  by_cases hi : d = i
  · subst hi
    have hlt : d < fr.length := by
      rcases Nat.lt_or_ge d fr.length with h' | h'
      · exact h'
      · rw [List.getElem?_eq_none (by simpa using h')] at hu; cases hu
    have hlt' : d < tmps.size := h.1 ▸ hlt
    simp [hlt] at hu
    simp [hlt'] at hy
    subst hu; subst hy; exact hv
  · rw [List.getElem?_set_ne hi] at hu
    rw [Array.getElem?_setIfInBounds_ne hi] at hy
    exact h.2 i u y hu hy

theorem RelF.setU {M : Mem} {G : List GE} {fr : List AV} {tmps : Array Value} (h : RelF M G fr tmps) (d : Nat) : RelF M G (fr.set d .undef) tmps := by
  refine ⟨by simp [h.1], fun i u y hu hy => ?_⟩
  by_cases hi : d = i
  · subst hi
    have hlt : d < fr.length := by
      rcases Nat.lt_or_ge d fr.length with h' | h'
      · exact h'
      · rw [List.getElem?_eq_none (by simpa using h')] at hu; cases hu
    simp [hlt] at hu
    subst hu; exact .undef
  · rw [List.getElem?_set_ne hi] at hu
    exact h.2 i u y hu hy

theorem RelF.put {M : Mem} {G : List GE} {fr : List AV} {a : Act} (h : RelF M G fr a.tmps) (d : Option Tmp) {v : AV} {x : Value} (hv : RelV M G v x) :
    RelF M G (put fr d v) (a.put d x).tmps := by
  cases d with
  | none => exact h
  | some d => exact h.set d hv

theorem RelF.clear {M : Mem} {G : List GE} {tmps : Array Value} : ∀ (l : List Nat) {fr : List AV}, RelF M G fr tmps → RelF M G (clear fr l) tmps
  | [], _, h => h
  | d :: l, _, h => RelF.clear l (h.setU d)

/-! ### objects and the world -/

def ObjRel (M : Mem) (G : List GE) (w : World) (o : Obj) (e : GE) : Prop :=
  match o with
  | .cells c gen => e.gen = gen ∧ e.len = c.length ∧ e.len ≤ e.cap ∧ ∃ arr el, w.heap[e.blk]? = some (.cells arr el) ∧ e.base + e.cap ≤ arr.size ∧
      (∀ x ∈ c, x.isCell = true) ∧ ∀ (i : Nat) (x : AV), c[i]? = some x → ∃ y, arr[e.base + i]? = some y ∧ RelV M G x y
  | .map es clock => e.gen = 0 ∧ ∃ ens : Array MapEntry, w.heap[e.blk]? = some (.map ens clock) ∧ es.length = ens.size ∧
      ∀ (i : Nat) (k v : AV) (b : Nat) (n : MapEntry), es[i]? = some (k, v, b) → ens[i]? = some n → n.born = b ∧ keyOk k = true ∧ RelV M G k n.key ∧ RelV M G v n.val
  | .iter s pos => e.gen = 0 ∧ e.base = 0 ∧ w.heap[e.blk]? = some (.stringIter ⟨s.toArray⟩ pos)

structure Inv (M : Mem) (G : List GE) (objs : List Obj) (w : World) : Prop where
  len : objs.length = G.length
  obj : ∀ (r : Nat) (o : Obj) (e : GE), objs[r]? = some o → G[r]? = some e → ObjRel M G w o e
  mem : ∀ b o x, M b o = some x → w.cell? ⟨b, o, none⟩ = some x
  inj : ∀ (r s : Nat) (e e' : GE), G[r]? = some e → G[s]? = some e' → e.blk = e'.blk → r = s
  sep : ∀ (r : Nat) (e : GE) (o : Nat), G[r]? = some e → M e.blk o = none
  blt : ∀ (r : Nat) (e : GE), G[r]? = some e → e.blk < w.heap.size

/-- how a world goes on: fl: the first object that may be changed -/
structure Ext (fl : Nat) (M : Mem) (G : List GE) (w : World) (M' : Mem) (G' : List GE) (w' : World) : Prop where
  os : w'.os = w.os
  tape : w'.tape = w.tape
  output : w'.output = w.output
  size : w.heap.size ≤ w'.heap.size
  mle : MLe M M'
  keep : ∀ (r : Nat) (e : GE), G[r]? = some e → ∃ e', G'[r]? = some e' ∧ (e' = e ∨ (fl ≤ r ∧ e.gen < e'.gen))
  blk : ∀ (r : Nat) (e' : GE), G'[r]? = some e' → (∃ e, G[r]? = some e ∧ e'.blk = e.blk) ∨ w.heap.size ≤ e'.blk
  other : ∀ b, b < w.heap.size → (∀ (r : Nat) (e : GE), G[r]? = some e → fl ≤ r → e.blk ≠ b) → w'.heap[b]? = w.heap[b]?
  fresh : ∀ b o x, M' b o = some x → M b o = some x ∨ w.heap.size ≤ b

theorem Ext.gle {fl : Nat} {M M' : Mem} {G G' : List GE} {w w' : World} (h : Ext fl M G w M' G' w') : GLe G G' := fun r e he => by
  obtain ⟨e', h1, h2⟩ := h.keep r e he
  exact ⟨e', h1, h2.imp id (·.2)⟩

theorem Ext.refl (fl : Nat) (M : Mem) (G : List GE) (w : World) : Ext fl M G w M G w :=
  ⟨rfl, rfl, rfl, Nat.le_refl _, MLe.refl _, fun _ e h => ⟨e, h, .inl rfl⟩, fun _ e h => .inl ⟨e, h, rfl⟩, fun _ _ _ => rfl, fun _ _ _ h => .inl h⟩

theorem Ext.trans {fl : Nat} {M M1 M2 : Mem} {G G1 G2 : List GE} {w w1 w2 : World} (h : Ext fl M G w M1 G1 w1) (k : Ext fl M1 G1 w1 M2 G2 w2) : Ext fl M G w M2 G2 w2 where
  os := k.os.trans h.os
  tape := k.tape.trans h.tape
  output := k.output.trans h.output
  size := Nat.le_trans h.size k.size
  mle := h.mle.trans k.mle
  keep := fun r e he => by
    obtain ⟨e', h1, h2⟩ := h.keep r e he
    obtain ⟨e'', k1, k2⟩ := k.keep r e' h1
    refine ⟨e'', k1, ?_⟩
    rcases h2 with rfl | ⟨h2, h3⟩
    · exact k2
    · rcases k2 with rfl | ⟨_, k3⟩
      · exact .inr ⟨h2, h3⟩
      · exact .inr ⟨h2, by omega⟩
  blk := fun r e'' he => by
    rcases k.blk r e'' he with ⟨e', h1, h2⟩ | hk
    · rcases h.blk r e' h1 with ⟨e, h3, h4⟩ | h3
      · exact .inl ⟨e, h3, h2.trans h4⟩
      · exact .inr (h2 ▸ h3)
    · exact .inr (Nat.le_trans h.size hk)
  other := fun b hb hno => by
    rw [k.other b (Nat.lt_of_lt_of_le hb h.size) (fun r e' he hfl heq => ?_), h.other b hb hno]
    rcases h.blk r e' he with ⟨e, h1, h2⟩ | h1
    · exact hno r e h1 hfl (h2 ▸ heq)
    · omega
  fresh := fun b o x hx => by
    rcases k.fresh b o x hx with h1 | h1
    · exact h.fresh b o x h1
    · exact .inr (Nat.le_trans h.size h1)

theorem Ext.drew {fl : Nat} {M M' : Mem} {G G' : List GE} {w w' : World} (h : Ext fl M G w M' G' w') : Ext fl M G w M' G' w'.drew :=
  ⟨h.os, h.tape, h.output, h.size, h.mle, h.keep, h.blk, h.other, h.fresh⟩

theorem Inv.drew {M : Mem} {G : List GE} {objs : List Obj} {w : World} (h : Inv M G objs w) : Inv M G objs w.drew :=
  ⟨h.len, h.obj, h.mem, h.inj, h.sep, h.blt⟩

theorem lt_of_get {α : Type} {l : List α} {i : Nat} {x : α} (h : l[i]? = some x) : i < l.length := by
  rcases Nat.lt_or_ge i l.length with h' | h'
  · exact h'
  · simp [List.getElem?_eq_none h'] at h

theorem Inv.get {M : Mem} {G : List GE} {objs : List Obj} {w : World} (h : Inv M G objs w) {r : Nat} {o : Obj} (ho : objs[r]? = some o) : ∃ e, G[r]? = some e ∧ ObjRel M G w o e := by
  have hlt : r < G.length := h.len ▸ lt_of_get ho
  exact ⟨G[r], List.getElem?_eq_getElem hlt, h.obj r o _ ho (List.getElem?_eq_getElem hlt)⟩

theorem ObjRel.mono {M M' : Mem} {G G' : List GE} {w w' : World} {o : Obj} {e : GE} (h : ObjRel M G w o e) (hM : MLe M M') (hG : GLe G G') (hw : w'.heap[e.blk]? = w.heap[e.blk]?) : ObjRel M' G' w' o e := by
  cases o with
  | cells c gen =>
    obtain ⟨h1, h2, h3, arr, el, h4, h5, h6, h7⟩ := h
    refine ⟨h1, h2, h3, arr, el, hw ▸ h4, h5, h6, fun i x hx => ?_⟩
    obtain ⟨y, hy, hr⟩ := h7 i x hx
    exact ⟨y, hy, hr.mono hM hG⟩
  | map es clock =>
    obtain ⟨h1, ens, h2, h3, h4⟩ := h
    refine ⟨h1, ens, hw ▸ h2, h3, fun i k v b n hi hn => ?_⟩
    obtain ⟨a1, a2, a4, a5⟩ := h4 i k v b n hi hn
    exact ⟨a1, a2, a4.mono hM hG, a5.mono hM hG⟩
  | iter s pos =>
    obtain ⟨h1, h2, h3⟩ := h
    exact ⟨h1, h2, hw ▸ h3⟩

theorem push_old (w : World) (o : Go.Obj) {b : Nat} (h : b < w.heap.size) : (w.alloc o).heap[b]? = w.heap[b]? := by
  show (w.heap.push o)[b]? = w.heap[b]?
  rw [Array.getElem?_push, if_neg (Nat.ne_of_lt h)]

theorem cell_old {w w' : World} {b o : Nat} (h : w'.heap[b]? = w.heap[b]?) : w'.cell? ⟨b, o, none⟩ = w.cell? ⟨b, o, none⟩ := by
  simp [World.cell?, h]

theorem cell_lt {w : World} {b o : Nat} {x : Value} (h : w.cell? ⟨b, o, none⟩ = some x) : b < w.heap.size := block_lt_of_cell h

/-- a block more, of which nothing is said -/
theorem Inv.alloc {M : Mem} {G : List GE} {objs : List Obj} {w : World} (h : Inv M G objs w) (o : Go.Obj) : Inv M G objs (w.alloc o) where
  len := h.len
  obj := fun r x e hx he => (h.obj r x e hx he).mono (MLe.refl _) (GLe.refl _) (push_old w o (h.blt r e he))
  mem := fun b off x hx => by
    have := h.mem b off x hx
    rw [cell_old (push_old w o (cell_lt this))]; exact this
  inj := h.inj
  sep := h.sep
  blt := fun r e he => by have := h.blt r e he; simp; omega

theorem Ext.alloc (fl : Nat) (M : Mem) (G : List GE) (w : World) (o : Go.Obj) : Ext fl M G w M G (w.alloc o) :=
  ⟨rfl, rfl, rfl, by simp, MLe.refl _, fun _ e h => ⟨e, h, .inl rfl⟩, fun _ e h => .inl ⟨e, h, rfl⟩, fun b hb _ => push_old w o hb, fun _ _ _ h => .inl h⟩

/-- a block's cells become memory that never changes -/
def memB (M : Mem) (b : Nat) (arr : Array Value) : Mem := fun b' o => if b' = b then arr[o]? else M b' o

theorem Inv.memB {M : Mem} {G : List GE} {objs : List Obj} {w : World} (h : Inv M G objs w) {b : Nat} {arr : Array Value} {el : TypeId} {fz : Nat × Nat}
    (hb : w.heap[b]? = some (.cells arr el fz)) (hM : ∀ o, M b o = none) (hG : ∀ (r : Nat) (e : GE), G[r]? = some e → e.blk ≠ b) : MLe M (memB M b arr) ∧ Inv (memB M b arr) G objs w := by
  have hle : MLe M (Am.memB M b arr) := fun b' o x hx => by
    unfold Am.memB
    by_cases hbb : b' = b
    · subst hbb; rw [hM] at hx; cases hx
    · rw [if_neg hbb]; exact hx
  refine ⟨hle, ?_⟩
  exact {
    len := h.len
    obj := fun r x e hx he => (h.obj r x e hx he).mono hle (GLe.refl _) rfl
    mem := fun b' o x hx => by
      unfold Am.memB at hx
      by_cases hbb : b' = b
      · subst hbb; rw [if_pos rfl] at hx; simp [World.cell?, hb, hx]
      · rw [if_neg hbb] at hx; exact h.mem b' o x hx
    inj := h.inj
    sep := fun r e o he => by
      unfold Am.memB
      rw [if_neg (hG r e he)]; exact h.sep r e o he
    blt := h.blt }

end Go.Proofs.YtgkalmmlgkaabaaGreat.Am

namespace Go.Proofs.YtgkalmmlgkaabaaGreat.Am

def aggB : TypeDesc → Bool
  | .struct _ | .array _ _ => true
  | _ => false

def fieldOf (P : Program) (f : Field) : Option (Nat × Nat × Bool) :=
  match P.info? f.type, P.underlying f.type with
  | some i, some d => some (f.offset, i.size, aggB d)
  | _, _ => none

def kOf (P : Program) : TypeDesc → Option TK
  | .bool => some .bool
  | .int k => some (.int k)
  | .string => some .string
  | .pointer _ => some .ptr
  | .interface _ => some .iface
  | .func _ _ _ => some .func
  | .struct fs => (fs.toList.mapM (fieldOf P)).map .struct
  | .array n e => match P.info? e, P.underlying e with
    | some i, some d => some (.array n i.size (aggB d))
    | _, _ => none
  | .slice e => some (.slice e)
  | .map k e => some (.map k e)
  | _ => some .other

def scalK (P : Program) (t : TypeId) : Option SK :=
  match P.underlying t with
  | some (.int _) => some .int
  | some .string => some .str
  | some .bool => some .bool
  | _ => none

def flatFields (P : Program) : List Field → Nat → Option (List SK)
  | [], _ => some []
  | f :: fs, i => match f.name != "_" && f.offset == i, scalK P f.type, P.info? f.type, flatFields P fs (i + 1) with
    | true, some k, some _, some ks => some (k :: ks)
    | _, _, _, _ => none

def flatB (P : Program) (t : TypeId) : TypeDesc → Option (List SK)
  | .struct fs => if !P.stoodInHeld t && !P.eqGuardType P.depth t then flatFields P fs.toList 0 else none
  | _ => none

def isAggV : Value → Bool
  | .agg _ => true
  | _ => false

def isPtrD : TypeDesc → Bool
  | .pointer _ => true
  | _ => false

/-- the function that a method is: of one that stands in the type itself, with a receiver of that very type -/
def msOf (d : TypeDesc) (m : Method) : String × Option Nat :=
  (m.name, match m.path.toList, m.func with
    | [], some (f, pr) => if pr = isPtrD d then some f else none
    | _, _ => none)

def teOf (P : Program) (t : TypeId) : Option TI :=
  match P.info? t, P.underlying t with
  | some i, some d => match i.zero, kOf P d with
    | some z, some k =>
      if i.bytes ≤ 65536 ∧ z.cells.toList.all (fun x => (ofS x).isCell) = true ∧ z.cells.size = i.size ∧ isAggV z = aggB d then
        some { size := i.size, agg := aggB d, zero := z.cells.toList.map ofS, k := k, flat := flatB P t d, ms := i.methods.toList.map (msOf d) } else none
    | _, _ => none
  | _, _ => none

structure TIok (P : Program) (t : TypeId) (ti : TI) (i : TypeInfo) (d : TypeDesc) (z : Value) : Prop where
  info : P.info? t = some i
  und : P.underlying t = some d
  hz : i.zero = some z
  size : i.size = ti.size
  bytes : i.bytes ≤ 65536
  agg : aggB d = ti.agg
  zsize : z.cells.size = ti.size
  zero : ti.zero = z.cells.toList.map ofS
  zcell : ∀ x ∈ ti.zero, x.isCell = true
  zagg : isAggV z = ti.agg
  k : kOf P d = some ti.k
  flat : flatB P t d = ti.flat
  ms : ti.ms = i.methods.toList.map (msOf d)

theorem teOf_ok {P : Program} {t : TypeId} {ti : TI} (h : teOf P t = some ti) : ∃ i d z, TIok P t ti i d z := by
  unfold teOf at h
  split at h
  · rename_i i d hi hd
    split at h
    · rename_i z k hz hk
      split at h
      · rename_i hc
        obtain ⟨h1, h2, h3, h4⟩ := hc
        simp only [Option.some.injEq] at h
        subst h
        refine ⟨i, d, z, ⟨hi, hd, hz, rfl, h1, rfl, h3, rfl, ?_, h4, hk, rfl, rfl⟩⟩
        intro x hx
        obtain ⟨y, hy, rfl⟩ := List.mem_map.1 hx
        exact List.all_eq_true.1 h2 y hy
      · cases h
    · cases h
  · cases h

def TEok (P : Program) (T : TE) : Prop := ∀ t ti, T t = some ti → teOf P t = some ti

theorem TEok.get {P : Program} {T : TE} (h : TEok P T) {t : TypeId} {ti : TI} (ht : T t = some ti) : ∃ i d z, TIok P t ti i d z := teOf_ok (h t ti ht)

section
variable {P : Program} {t : TypeId} {ti : TI} {i : TypeInfo} {d : TypeDesc} {z : Value}

theorem TIok.run_typeInfo (h : TIok P t ti i d z) (w : World) : (typeInfo t).run P w = .ok i w := by simp [typeInfo, h.info]
theorem TIok.run_sizeOf (h : TIok P t ti i d z) (w : World) : (sizeOf t).run P w = .ok ti.size w := by simp [sizeOf, typeInfo, h.info, h.size]
theorem TIok.run_underlying (h : TIok P t ti i d z) (w : World) : (underlying t).run P w = .ok d w := Go.run_underlying h.und w
theorem TIok.run_zeroValue (h : TIok P t ti i d z) (w : World) : (zeroValue t).run P w = .ok z w := by simp [zeroValue, typeInfo, h.info, h.hz]
theorem TIok.run_isAgg (h : TIok P t ti i d z) (w : World) : (isAgg t).run P w = .ok ti.agg w := by
  have : (isAgg t).run P w = .ok (aggB d) w := by
    simp only [isAgg, Sem.run_bind, h.run_underlying, Result.andThen_ok]
    cases d <;> rfl
  rw [this, h.agg]

theorem TIok.zrel (h : TIok P t ti i d z) (M : Mem) (G : List GE) : ∀ (i : Nat) (x : AV) (y : Value), ti.zero[i]? = some x → z.cells.toList[i]? = some y → RelV M G x y := by
  intro i x y hx hy
  rw [h.zero, List.getElem?_map, hy] at hx
  simp at hx
  subst hx
  exact relS _ _ _

theorem TIok.zlen (h : TIok P t ti i d z) : ti.zero.length = ti.size := by rw [h.zero, List.length_map, Array.length_toList, h.zsize]

/-- the zero value of a type -/
theorem TIok.zval (h : TIok P t ti i d z) (M : Mem) (G : List GE) : (ti.agg = true → RelV M G (.agg ti.zero) z) ∧ (ti.agg = false → ∀ x, ti.zero[0]? = some x → RelV M G x z) := by
  constructor
  · intro ha
    have hz := h.zagg
    rw [ha] at hz
    cases z <;> simp [isAggV] at hz
    rename_i cs
    obtain ⟨xs⟩ := cs
    exact .agg (by rw [h.zlen, ← h.zsize]; rfl) h.zcell (fun i x y hx hy => h.zrel M G i x y hx hy)
  · intro ha x hx
    have hz := h.zagg
    rw [ha] at hz
    refine h.zrel M G 0 x z hx ?_
    cases z <;> simp [isAggV] at hz <;> rfl
end

/-! ### equality -/

theorem strRel {M : Mem} {G : List GE} {s : List UInt8} {x : Value} (h : RelV M G (.str s) x) : x = .string ⟨s.toArray⟩ := by cases h; rfl
theorem intRel {M : Mem} {G : List GE} {k : IntKind} {n : Int} {x : Value} (h : RelV M G (.int k n) x) : x = .int k n := by cases h; rfl
theorem boolRel {M : Mem} {G : List GE} {b : Bool} {x : Value} (h : RelV M G (.bool b) x) : x = .bool b := by cases h; rfl

theorem toList_mk (s : List UInt8) : (ByteArray.mk s.toArray).toList = s := by rw [ByteArray.toList_eq]

theorem run_part (P : Program) {t : TypeId} {ti : TI} {i : TypeInfo} {d : TypeDesc} {z : Value} (h : TIok P t ti i d z) (w : World) {M : Mem} {G : List GE} {cs : List AV} {xs : List Value} (off : Nat) {v : AV}
    (hr : RelV M G (.agg cs) (.agg ⟨xs⟩)) (hp : Am.part cs off ti.size ti.agg = some v) : ∃ x, (Go.part t ⟨xs⟩ off).run P w = .ok x w ∧ RelV M G v x := by
  cases hr with
  | agg hl h1 h2 =>
    unfold Am.part at hp
    split at hp
    · rename_i hle
      split at hp
      · rename_i ha
        simp only [Option.some.injEq] at hp
        subst hp
        refine ⟨.agg ⟨(xs.drop off).take ti.size⟩, ?_, ?_⟩
        · simp only [Go.part, Sem.run_bind, h.run_isAgg, ha, Result.andThen_ok, if_true, h.run_sizeOf, Sem.run_pure]
          congr 2
          apply Array.ext'
          simp [List.extract_eq_take_drop]
        · refine .agg (by simp; omega) (fun x hx => h1 x (List.mem_of_mem_drop (List.mem_of_mem_take hx))) ?_
          intro i x y hx hy
          have hi : i < ti.size := by have := lt_of_get hx; simp at this; omega
          rw [List.getElem?_take_of_lt hi, List.getElem?_drop] at hx hy
          exact h2 _ x y hx hy
      · rename_i ha
        split at hp
        · rename_i hs
          have hlt : off < xs.length := by omega
          refine ⟨xs[off], ?_, h2 off v _ hp (List.getElem?_eq_getElem hlt)⟩
          have ha' : ti.agg = false := by simpa using ha
          simp [Go.part, h.run_isAgg, ha', hlt]
        · cases hp
    · cases hp

theorem scalEq_run {P : Program} {M : Mem} {G : List GE} {k : SK} {x y : AV} {X Y : Value} {t : TypeId} (ht : scalK P t = some k) (hx : RelV M G x X) (hy : RelV M G y Y) {b : Bool} (h : scalEqK k x y = some b)
    (d : Nat) (w : World) : (Op.equalIn (d + 1) t X Y).run P w = .ok b w := by
  unfold scalK at ht
  unfold scalEqK at h
  split at h
  · have e1 := intRel hx
    have e2 := intRel hy
    subst e1; subst e2
    split at h
    · rename_i hk
      subst hk
      simp only [Option.some.injEq] at h
      subst h
      split at ht <;> try cases ht
      rename_i k hu
      simp [Op.equalIn, run_underlying hu]
    · cases h
  · have e1 := strRel hx
    have e2 := strRel hy
    subst e1; subst e2
    simp only [Option.some.injEq] at h
    subst h
    split at ht <;> try cases ht
    rename_i hu
    rw [run_equalIn_string w d t _ _ hu, toList_mk, toList_mk]
  · have e1 := boolRel hx
    have e2 := boolRel hy
    subst e1; subst e2
    simp only [Option.some.injEq] at h
    subst h
    split at ht <;> try cases ht
    rename_i hu
    simp [Op.equalIn, run_underlying hu]
  · cases h

/-- the parts of a row of single cells -/
theorem run_part1 {P : Program} {t : TypeId} {k : SK} (ht : scalK P t = some k) (xs : List Value) (off : Nat) (x : Value) (hx : xs[off]? = some x) (w : World) : (Go.part t ⟨xs⟩ off).run P w = .ok x w := by
  have hag : (isAgg t).run P w = .ok false w := by
    unfold scalK at ht
    split at ht <;> try cases ht
    all_goals (rename_i hu; simp [isAgg, run_underlying hu])
  have hx' : (Array.mk xs)[off]? = some x := by simpa using hx
  simp only [Go.part, Sem.run_bind, hag, Result.andThen_ok, Bool.false_eq_true, if_false, hx']
  rfl

theorem eqFields_run {P : Program} {M : Mem} {G : List GE} (d : Nat) {xs ys : List Value} {cx cy : List AV} (hx : ∀ (i : Nat) (x : AV) (y : Value), cx[i]? = some x → xs[i]? = some y → RelV M G x y)
    (hy : ∀ (i : Nat) (x : AV) (y : Value), cy[i]? = some x → ys[i]? = some y → RelV M G x y) (hlx : cx.length = xs.length) (hly : cy.length = ys.length) (w : World) :
    ∀ (fs : List Field) (i : Nat) (ks : List SK) (b : Bool), flatFields P fs i = some ks → aggEq ks (cx.drop i) (cy.drop i) = some b →
      (Op.eqFields (d + 1) ⟨xs⟩ ⟨ys⟩ fs).run P w = .ok b w
  | [], i, ks, b, hf, h => by
    simp only [flatFields, Option.some.injEq] at hf
    subst hf
    cases hcx : cx.drop i <;> cases hcy : cy.drop i <;> rw [hcx, hcy] at h <;> simp [aggEq] at h
    subst h
    simp [Op.eqFields]
  | f :: fs, i, ks, b, hf, h => by
    simp only [flatFields] at hf
    split at hf <;> try cases hf
    rename_i k i' ks' hn hk hi hfs
    cases hcx : cx.drop i with
    | nil => rw [hcx] at h; cases hcy : cy.drop i <;> rw [hcy] at h <;> simp [aggEq] at h
    | cons x cx' =>
      cases hcy : cy.drop i with
      | nil => rw [hcx, hcy] at h; simp [aggEq] at h
      | cons y cy' =>
        rw [hcx, hcy] at h
        simp only [Bool.and_eq_true, bne_iff_ne, ne_eq, beq_iff_eq] at hn
        obtain ⟨hn1, hn2⟩ := hn
        have gx : cx[i]? = some x := by have := congrArg (·[0]?) hcx; simpa using this
        have gy : cy[i]? = some y := by have := congrArg (·[0]?) hcy; simpa using this
        have lx : i < xs.length := hlx ▸ lt_of_get gx
        have ly : i < ys.length := hly ▸ lt_of_get gy
        have dx : cx.drop (i + 1) = cx' := by rw [← List.drop_drop, hcx]; rfl
        have dy : cy.drop (i + 1) = cy' := by rw [← List.drop_drop, hcy]; rfl
        have px := run_part1 hk xs i xs[i] (List.getElem?_eq_getElem lx) w
        have py := run_part1 hk ys i ys[i] (List.getElem?_eq_getElem ly) w
        simp only [aggEq] at h
        split at h <;> try cases h
        · rename_i hs
          have he := scalEq_run hk (hx i x _ gx (List.getElem?_eq_getElem lx)) (hy i y _ gy (List.getElem?_eq_getElem ly)) hs d w
          have ih := eqFields_run d hx hy hlx hly w fs (i + 1) ks' b hfs (by rw [dx, dy]; exact h)
          simp [Op.eqFields, hn1, hn2, px, py, he, ih]
        · rename_i hs
          have he := scalEq_run hk (hx i x _ gx (List.getElem?_eq_getElem lx)) (hy i y _ gy (List.getElem?_eq_getElem ly)) hs d w
          simp [Op.eqFields, hn1, hn2, px, py, he]

end Go.Proofs.YtgkalmmlgkaabaaGreat.Am

namespace Go.Proofs.YtgkalmmlgkaabaaGreat.Am

theorem kOf_bool {P : Program} {d : TypeDesc} (h : kOf P d = some .bool) : d = .bool := by
  cases d <;> simp [kOf] at h <;> first | rfl | (split at h <;> simp at h)
theorem kOf_int {P : Program} {d : TypeDesc} {k : IntKind} (h : kOf P d = some (.int k)) : d = .int k := by
  cases d <;> simp [kOf] at h <;> first | (subst h; rfl) | (split at h <;> simp at h)
theorem kOf_string {P : Program} {d : TypeDesc} (h : kOf P d = some .string) : d = .string := by
  cases d <;> simp [kOf] at h <;> first | rfl | (split at h <;> simp at h)
theorem kOf_ptr {P : Program} {d : TypeDesc} (h : kOf P d = some .ptr) : ∃ e, d = .pointer e := by
  cases d <;> simp [kOf] at h <;> first | exact ⟨_, rfl⟩ | (split at h <;> simp at h)
theorem kOf_iface {P : Program} {d : TypeDesc} (h : kOf P d = some .iface) : ∃ e, d = .interface e := by
  cases d <;> simp [kOf] at h <;> first | exact ⟨_, rfl⟩ | (split at h <;> simp at h)
theorem kOf_func {P : Program} {d : TypeDesc} (h : kOf P d = some .func) : ∃ a b c, d = .func a b c := by
  cases d <;> simp [kOf] at h <;> first | exact ⟨_, _, _, rfl⟩ | (split at h <;> simp at h)
theorem kOf_slice {P : Program} {d : TypeDesc} {e : Nat} (h : kOf P d = some (.slice e)) : d = .slice e := by
  cases d <;> simp [kOf] at h <;> first | (subst h; rfl) | (split at h <;> simp at h)
theorem kOf_map {P : Program} {d : TypeDesc} {k e : Nat} (h : kOf P d = some (.map k e)) : d = .map k e := by
  cases d <;> simp [kOf] at h <;> first | (obtain ⟨rfl, rfl⟩ := h; rfl) | (split at h <;> simp at h)
theorem kOf_struct {P : Program} {d : TypeDesc} {fs : List (Nat × Nat × Bool)} (h : kOf P d = some (.struct fs)) : ∃ f, d = .struct f ∧ f.toList.mapM (fieldOf P) = some fs := by
  cases d <;> simp [kOf] at h <;> first | exact ⟨_, rfl, by simpa using h⟩ | (split at h <;> simp at h)
theorem kOf_array {P : Program} {d : TypeDesc} {n s : Nat} {a : Bool} (h : kOf P d = some (.array n s a)) : ∃ e i d', d = .array n e ∧ P.info? e = some i ∧ P.underlying e = some d' ∧ i.size = s ∧ aggB d' = a := by
  cases d <;> simp [kOf] at h
  rename_i n' e
  split at h
  · rename_i i d' hi hd
    simp only [Option.some.injEq, TK.array.injEq] at h
    obtain ⟨rfl, rfl, rfl⟩ := h
    exact ⟨e, i, d', rfl, hi, hd, rfl, rfl⟩
  · cases h

set_option maxHeartbeats 4000000 in
theorem eqOp_run {P : Program} {T : TE} {M : Mem} {G : List GE} (hT : TEok P T) {t : TypeId} {ti : TI} (ht : T t = some ti) {ox oy : Operand} {x y : AV} {X Y : Value} (hx : RelV M G x X) (hy : RelV M G y Y)
    {b : Bool} (h : eqOp ti.k ti.flat (isConst ox || isConst oy) x y = some b) (op : BinOp) (w : World) (dd : Nat) :
    (eqGuard op t ox oy X Y).run P w = .ok () w ∧ (Op.equalIn (dd + 1 + 1) t X Y).run P w = .ok b w ∧ (∀ k n, X ≠ .int k n) ∧ (∀ k n, X ≠ .float k n) ∧ (∀ k n m, X ≠ .complex k n m) ∧ (∀ s, X ≠ .string s) := by
  obtain ⟨i, d, z, ok⟩ := hT.get ht
  unfold eqOp at h
  split at h
  case h_1 =>
    split at h <;> simp at h
    rename_i hk
    have e1 := boolRel hx
    have e2 := boolRel hy
    subst e1; subst e2; subst h
    have hu := ok.und
    have hk' := ok.k
    rw [hk] at hk'
    rw [kOf_bool hk'] at hu
    exact ⟨by simp [eqGuard_at_bool], by simp only [Op.equalIn, Sem.run_bind, run_underlying hu, Result.andThen_ok]; rfl, by simp, by simp, by simp, by simp⟩
  case h_2 =>
    split at h <;> simp at h
    rename_i hk
    cases hx; cases hy; subst h
    have hk' := ok.k
    rw [hk] at hk'
    obtain ⟨e, he⟩ := kOf_ptr hk'
    have hu := ok.und
    rw [he] at hu
    exact ⟨by simp [eqGuard_at_pointer], by simp only [Op.equalIn, Sem.run_bind, run_underlying hu, Result.andThen_ok]; rfl, by simp, by simp, by simp, by simp⟩
  case h_3 =>
    split at h <;> simp at h
    rename_i hk
    cases hx; cases hy; subst h
    have hk' := ok.k
    rw [hk] at hk'
    obtain ⟨e, he⟩ := kOf_ptr hk'
    have hu := ok.und
    rw [he] at hu
    exact ⟨by simp [eqGuard_at_pointer], by simp only [Op.equalIn, Sem.run_bind, run_underlying hu, Result.andThen_ok]; rfl, by simp, by simp, by simp, by simp⟩
  case h_4 =>
    split at h <;> simp at h
    rename_i hk
    cases hx; cases hy; subst h
    have hk' := ok.k
    rw [hk] at hk'
    obtain ⟨e, he⟩ := kOf_ptr hk'
    have hu := ok.und
    rw [he] at hu
    exact ⟨by simp [eqGuard_at_pointer], by simp only [Op.equalIn, Sem.run_bind, run_underlying hu, Result.andThen_ok]; rfl, by simp, by simp, by simp, by simp⟩
  case h_5 =>
    split at h <;> simp at h
    rename_i hk
    have hu := ok.und
    have hk' := ok.k
    rw [hk] at hk'
    rw [kOf_slice hk'] at hu
    cases hx <;> cases hy <;> subst h <;> exact ⟨by simp [eqGuard_at_slice], by simp only [Op.equalIn, Sem.run_bind, run_underlying hu, Result.andThen_ok]; rfl, by simp, by simp, by simp, by simp⟩
  case h_6 =>
    split at h <;> simp at h
    rename_i hk
    have hu := ok.und
    have hk' := ok.k
    rw [hk] at hk'
    rw [kOf_slice hk'] at hu
    cases hx <;> cases hy <;> subst h <;> exact ⟨by simp [eqGuard_at_slice], by simp only [Op.equalIn, Sem.run_bind, run_underlying hu, Result.andThen_ok]; rfl, by simp, by simp, by simp, by simp⟩
  case h_7 =>
    split at h <;> simp at h
    rename_i hk
    have hu := ok.und
    have hk' := ok.k
    rw [hk] at hk'
    rw [kOf_slice hk'] at hu
    cases hx <;> cases hy <;> subst h <;> exact ⟨by simp [eqGuard_at_slice], by simp only [Op.equalIn, Sem.run_bind, run_underlying hu, Result.andThen_ok]; rfl, by simp, by simp, by simp, by simp⟩
  case h_8 =>
    split at h <;> simp at h
    rename_i hk
    have hu := ok.und
    have hk' := ok.k
    rw [hk] at hk'
    rw [kOf_slice hk'] at hu
    cases hx <;> cases hy <;> subst h <;> exact ⟨by simp [eqGuard_at_slice], by simp only [Op.equalIn, Sem.run_bind, run_underlying hu, Result.andThen_ok]; rfl, by simp, by simp, by simp, by simp⟩
  case h_9 =>
    split at h <;> simp at h
    rename_i hk
    have hu := ok.und
    have hk' := ok.k
    rw [hk] at hk'
    rw [kOf_slice hk'] at hu
    cases hx <;> cases hy <;> subst h <;> exact ⟨by simp [eqGuard_at_slice], by simp only [Op.equalIn, Sem.run_bind, run_underlying hu, Result.andThen_ok]; rfl, by simp, by simp, by simp, by simp⟩
  case h_10 =>
    split at h <;> simp at h
    rename_i hk
    cases hx; cases hy; subst h
    have hk' := ok.k
    rw [hk] at hk'
    obtain ⟨e, f, g, he⟩ := kOf_func hk'
    have hu := ok.und
    rw [he] at hu
    exact ⟨by simp [eqGuard_at_nilFunc], by simp only [Op.equalIn, Sem.run_bind, run_underlying hu, Result.andThen_ok]; rfl, by simp, by simp, by simp, by simp⟩
  case h_11 =>
    split at h <;> simp at h
    rename_i hk
    cases hx; cases hy; subst h
    have hk' := ok.k
    rw [hk] at hk'
    obtain ⟨e, f, g, he⟩ := kOf_func hk'
    have hu := ok.und
    rw [he] at hu
    exact ⟨by simp [eqGuard_at_nilFunc], by simp only [Op.equalIn, Sem.run_bind, run_underlying hu, Result.andThen_ok]; rfl, by simp, by simp, by simp, by simp⟩
  case h_12 =>
    split at h <;> simp at h
    rename_i hk
    cases hx; cases hy; subst h
    have hk' := ok.k
    rw [hk] at hk'
    obtain ⟨e, f, g, he⟩ := kOf_func hk'
    have hu := ok.und
    rw [he] at hu
    exact ⟨by simp [eqGuard_at_func], by simp only [Op.equalIn, Sem.run_bind, run_underlying hu, Result.andThen_ok]; rfl, by simp, by simp, by simp, by simp⟩
  case h_13 =>
    split at h <;> try simp at h
    rename_i hc
    split at h <;> simp at h
    rename_i hk
    cases hx; cases hy; subst h
    have hk' := ok.k
    rw [hk] at hk'
    obtain ⟨e, he⟩ := kOf_iface hk'
    have hu := ok.und
    rw [he] at hu
    refine ⟨?_, by simp only [Op.equalIn, Sem.run_bind, run_underlying hu, Result.andThen_ok]; rfl, by simp, by simp, by simp, by simp⟩
    have : eqGuard op t ox oy .nilIface .nilIface = pure () := by
      cases ox <;> cases oy <;> simp [isConst] at hc <;> first | rw [eqGuard_nil_constR] | rw [eqGuard_nil_constL]
    rw [this]; rfl
  case h_14 =>
    split at h <;> simp at h
    rename_i hk
    cases hx; cases hy; subst h
    have hk' := ok.k
    rw [hk] at hk'
    obtain ⟨e, he⟩ := kOf_iface hk'
    have hu := ok.und
    rw [he] at hu
    exact ⟨by simp [eqGuard_nil_iface], by simp only [Op.equalIn, Sem.run_bind, run_underlying hu, Result.andThen_ok]; rfl, by simp, by simp, by simp, by simp⟩
  case h_15 =>
    split at h <;> simp at h
    rename_i hk
    cases hx; cases hy; subst h
    have hk' := ok.k
    rw [hk] at hk'
    obtain ⟨e, he⟩ := kOf_iface hk'
    have hu := ok.und
    rw [he] at hu
    exact ⟨by simp [eqGuard_at_iface], by simp only [Op.equalIn, Sem.run_bind, run_underlying hu, Result.andThen_ok]; rfl, by simp, by simp, by simp, by simp⟩
  case h_16 xs ys =>
    split at h <;> try cases h
    rename_i ks hf
    have hfl := ok.flat
    rw [hf] at hfl
    unfold flatB at hfl
    split at hfl <;> try cases hfl
    rename_i fs
    split at hfl <;> try cases hfl
    rename_i hc
    simp only [Bool.and_eq_true, Bool.not_eq_true'] at hc
    cases hx with
    | agg hlx h1x h2x =>
      cases hy with
      | agg hly h1y h2y =>
        have hu : P.underlying t = some (.struct (P.fieldsOf t)) := by rw [Program.fieldsOf, ok.und]
        have hfo : P.fieldsOf t = fs := by rw [Program.fieldsOf, ok.und]
        refine ⟨run_eqGuard_agg w op t ox oy _ _ hc.2, ?_, by simp, by simp, by simp, by simp⟩
        rw [run_equalIn_struct w (dd + 1) t _ _ hu hc.1, hfo]
        exact eqFields_run dd h2x h2y hlx hly w fs.toList 0 ks b hfl (by simpa using h)
  case h_17 => cases h

theorem binOp_run {P : Program} {T : TE} {M : Mem} {G : List GE} (hT : TEok P T) {t : TypeId} {ox oy : Operand} {x y : AV} {X Y : Value} (hx : RelV M G x X) (hy : RelV M G y Y)
    (op : BinOp) {v : AV} (h : binOp T op t (isConst ox || isConst oy) x y = some v) (w : World) :
    ∃ V, (do eqGuard op t ox oy X Y; Go.binOp op t X Y : Sem Value).run P w = .ok V w ∧ RelV M G v V := by
  unfold binOp at h
  split at h
  · rename_i k a k' b
    have e1 := intRel hx
    have e2 := intRel hy
    subst e1; subst e2
    simp only [eqGuard_at_int]
    split at h
    · split at h <;> simp at h
      rename_i hb
      subst h
      have hb' : ¬ b < 0 := by omega
      exact ⟨_, by simp [Go.binOp, Op.shift, hb'], .int⟩
    · split at h <;> simp at h
      rename_i hb
      subst h
      have hb' : ¬ b < 0 := by omega
      exact ⟨_, by simp [Go.binOp, Op.shift, hb'], .int⟩
    · rename_i n1 n2
      split at h <;> try cases h
      rename_i hk
      subst hk
      cases op
      case add => simp only [intOp, Option.some.injEq] at h; subst h; exact ⟨_, by simp only [Go.binOp, if_neg (not_not_intro rfl : ¬ k ≠ k), Op.intArith]; rfl, .int⟩
      case sub => simp only [intOp, Option.some.injEq] at h; subst h; exact ⟨_, by simp only [Go.binOp, if_neg (not_not_intro rfl : ¬ k ≠ k), Op.intArith]; rfl, .int⟩
      case mul => simp only [intOp, Option.some.injEq] at h; subst h; exact ⟨_, by simp only [Go.binOp, if_neg (not_not_intro rfl : ¬ k ≠ k), Op.intArith]; rfl, .int⟩
      case quo =>
        simp only [intOp] at h
        split at h
        · cases h
        · rename_i hb
          simp only [Option.some.injEq] at h; subst h
          exact ⟨_, by simp only [Go.binOp, if_neg (not_not_intro rfl : ¬ k ≠ k), Op.intDiv, if_neg hb]; rfl, .int⟩
      case rem =>
        simp only [intOp] at h
        split at h
        · cases h
        · rename_i hb
          simp only [Option.some.injEq] at h; subst h
          exact ⟨_, by simp only [Go.binOp, if_neg (not_not_intro rfl : ¬ k ≠ k), Op.intDiv, if_neg hb]; rfl, .int⟩
      case and => simp only [intOp, Option.some.injEq] at h; subst h; exact ⟨_, by simp only [Go.binOp, if_neg (not_not_intro rfl : ¬ k ≠ k), Op.intBits]; rfl, .int⟩
      case or => simp only [intOp, Option.some.injEq] at h; subst h; exact ⟨_, by simp only [Go.binOp, if_neg (not_not_intro rfl : ¬ k ≠ k), Op.intBits]; rfl, .int⟩
      case xor => simp only [intOp, Option.some.injEq] at h; subst h; exact ⟨_, by simp only [Go.binOp, if_neg (not_not_intro rfl : ¬ k ≠ k), Op.intBits]; rfl, .int⟩
      case andNot => simp only [intOp, Option.some.injEq] at h; subst h; exact ⟨_, by simp only [Go.binOp, if_neg (not_not_intro rfl : ¬ k ≠ k), Op.intBits]; rfl, .int⟩
      case eql => simp only [intOp, Option.some.injEq] at h; subst h; exact ⟨_, by simp only [Go.binOp, if_neg (not_not_intro rfl : ¬ k ≠ k), Op.intCmp]; rfl, .bool⟩
      case neq => simp only [intOp, Option.some.injEq] at h; subst h; exact ⟨_, by simp only [Go.binOp, if_neg (not_not_intro rfl : ¬ k ≠ k), Op.intCmp]; rfl, .bool⟩
      case lss => simp only [intOp, Option.some.injEq] at h; subst h; exact ⟨_, by simp only [Go.binOp, if_neg (not_not_intro rfl : ¬ k ≠ k), Op.intCmp]; rfl, .bool⟩
      case leq => simp only [intOp, Option.some.injEq] at h; subst h; exact ⟨_, by simp only [Go.binOp, if_neg (not_not_intro rfl : ¬ k ≠ k), Op.intCmp]; rfl, .bool⟩
      case gtr => simp only [intOp, Option.some.injEq] at h; subst h; exact ⟨_, by simp only [Go.binOp, if_neg (not_not_intro rfl : ¬ k ≠ k), Op.intCmp]; rfl, .bool⟩
      case geq => simp only [intOp, Option.some.injEq] at h; subst h; exact ⟨_, by simp only [Go.binOp, if_neg (not_not_intro rfl : ¬ k ≠ k), Op.intCmp]; rfl, .bool⟩
      all_goals (simp only [intOp] at h; cases h)
  · rename_i a b
    have e1 := strRel hx
    have e2 := strRel hy
    subst e1; subst e2
    simp only [eqGuard_at_string]
    cases op <;> simp only [strOp] at h
    case add =>
      split at h <;> simp at h
      rename_i hl
      subst h
      refine ⟨.string ⟨(a ++ b).toArray⟩, ?_, .str⟩
      have hsz : ¬ (((ByteArray.mk a.toArray).size + (ByteArray.mk b.toArray).size : Nat) : Int) > IntKind.i64.max := by
        have e1 : (ByteArray.mk a.toArray).size = a.length := by simp [ByteArray.size]
        have e2 : (ByteArray.mk b.toArray).size = b.length := by simp [ByteArray.size]
        rw [e1, e2, IntKind.max_i64]
        unfold lim at hl
        omega
      have happ : ByteArray.mk a.toArray ++ ByteArray.mk b.toArray = ByteArray.mk (a ++ b).toArray := by
        apply ByteArray.ext
        rw [ByteArray.data_append]
        simp
      simp only [Go.binOp, Op.stringOp, Sem.run_bind, Sem.run_pure, Result.andThen_ok, if_neg hsz, happ]
    case eql => simp only [Option.some.injEq] at h; subst h; exact ⟨_, by simp only [Go.binOp, Op.stringOp, toList_mk]; rfl, .bool⟩
    case neq => simp only [Option.some.injEq] at h; subst h; exact ⟨_, by simp only [Go.binOp, Op.stringOp, toList_mk]; rfl, .bool⟩
    case lss => simp only [Option.some.injEq] at h; subst h; exact ⟨_, by simp only [Go.binOp, Op.stringOp, toList_mk]; rfl, .bool⟩
    case leq => simp only [Option.some.injEq] at h; subst h; exact ⟨_, by simp only [Go.binOp, Op.stringOp, toList_mk]; rfl, .bool⟩
    case gtr => simp only [Option.some.injEq] at h; subst h; exact ⟨_, by simp only [Go.binOp, Op.stringOp, toList_mk]; rfl, .bool⟩
    case geq => simp only [Option.some.injEq] at h; subst h; exact ⟨_, by simp only [Go.binOp, Op.stringOp, toList_mk]; rfl, .bool⟩
    all_goals cases h
  · split at h <;> try cases h
    rename_i ti ht
    split at h <;> try cases h
    · simp only [Option.map_eq_some_iff] at h
      obtain ⟨b, hb, rfl⟩ := h
      obtain ⟨g1, g2, n1, n2, n3, n4⟩ := eqOp_run hT ht hx hy hb .eql w 9998
      refine ⟨.bool b, ?_, .bool⟩
      have hbo : Go.binOp .eql t X Y = (do pure (.bool (← Op.equal t X Y))) := by
        cases X <;> first | (exact absurd rfl (n1 _ _)) | (exact absurd rfl (n2 _ _)) | (exact absurd rfl (n3 _ _ _)) | (exact absurd rfl (n4 _)) | (cases Y <;> first | rfl | skip)
      rw [hbo]
      have g2' : (Op.equal t X Y).run P w = .ok b w := g2
      simp only [Sem.run_bind, g1, Result.andThen_ok, g2', Sem.run_pure]
    · simp only [Option.map_eq_some_iff] at h
      obtain ⟨b, hb, rfl⟩ := h
      obtain ⟨g1, g2, n1, n2, n3, n4⟩ := eqOp_run hT ht hx hy hb .neq w 9998
      refine ⟨.bool (!b), ?_, .bool⟩
      have hbo : Go.binOp .neq t X Y = (do pure (.bool (!(← Op.equal t X Y)))) := by
        cases X <;> first | (exact absurd rfl (n1 _ _)) | (exact absurd rfl (n2 _ _)) | (exact absurd rfl (n3 _ _ _)) | (exact absurd rfl (n4 _)) | (cases Y <;> first | rfl | skip)
      rw [hbo]
      have g2' : (Op.equal t X Y).run P w = .ok b w := g2
      simp only [Sem.run_bind, g1, Result.andThen_ok, g2', Sem.run_pure]

theorem unOp_run {P : Program} {M : Mem} {G : List GE} {x : AV} {X : Value} (hx : RelV M G x X) (op : UnOp) {v : AV} (h : unOp op x = some v) (w : World) :
    ∃ V, (Op.unary op X).run P w = .ok V w ∧ RelV M G v V := by
  unfold unOp at h
  split at h
  · simp only [Option.some.injEq] at h
    subst h; cases hx
    exact ⟨_, by simp only [Op.unary, Op.intArith]; rfl, .int⟩
  · simp only [Option.some.injEq] at h
    subst h; cases hx
    exact ⟨_, by simp only [Op.unary]; rfl, .bool⟩
  · cases h

end Go.Proofs.YtgkalmmlgkaabaaGreat.Am

namespace Go.Proofs.YtgkalmmlgkaabaaGreat.Am

section
variable {P : Program} {T : TE} {M : Mem} {G : List GE}

theorem convert_run (hT : TEok P T) {src dst : TypeId} {x v : AV} {X : Value} (hx : RelV M G x X) (hs : (P.underlying src).isSome = true) (h : convert T dst x = some v) (w : World) :
    ∃ V, (Go.convert src dst X).run P w = .ok V w ∧ RelV M G v V := by
  obtain ⟨ds, hds⟩ := Option.isSome_iff_exists.1 hs
  unfold convert at h
  split at h
  · cases h
  · rename_i ti ht
    obtain ⟨i, d, z, ok⟩ := hT.get ht
    have hu := ok.und
    have hk' := ok.k
    split at h
    · rename_i k k' n hk
      simp only [Option.some.injEq] at h; subst h
      rw [hk] at hk'
      rw [kOf_int hk'] at hu
      cases hx
      exact ⟨_, by simp [Go.convert, run_underlying hds, run_underlying hu, Conv.intToInt], .int⟩
    · rename_i s hk
      simp only [Option.some.injEq] at h; subst h
      rw [hk] at hk'
      rw [kOf_string hk'] at hu
      cases hx
      exact ⟨_, by simp [Go.convert, run_underlying hds, run_underlying hu], .str⟩
    · rename_i k' n hk
      simp only [Option.some.injEq] at h; subst h
      rw [hk] at hk'
      rw [kOf_string hk'] at hu
      cases hx
      refine ⟨_, by simp [Go.convert, run_underlying hds, run_underlying hu, Conv.intToString]; rfl, ?_⟩
      have : Value.string (Utf8.encode n) = .string ⟨(Utf8.encode n).data.toList.toArray⟩ := by simp
      rw [this]; exact .str
    · cases h

theorem mapM_get {α β : Type} (f : α → Option β) : ∀ (l : List α) (r : List β), l.mapM f = some r → ∀ (i : Nat) (y : β), r[i]? = some y → ∃ x, l[i]? = some x ∧ f x = some y
  | [], r, h, i, y, hy => by simp at h; subst h; simp at hy
  | x :: l, r, h, i, y, hy => by
    rw [List.mapM_cons] at h
    simp only [Option.bind_eq_bind, Option.bind_eq_some_iff, Option.pure_def, Option.some.injEq] at h
    obtain ⟨z, hz, zs, hzs, rfl⟩ := h
    cases i with
    | zero => simp at hy; subst hy; exact ⟨x, rfl, hz⟩
    | succ i => simp at hy; simpa using mapM_get f l zs hzs i y hy

theorem mapM_len {α β : Type} (f : α → Option β) : ∀ (l : List α) (r : List β), l.mapM f = some r → r.length = l.length
  | [], r, h => by simp at h; subst h; rfl
  | x :: l, r, h => by
    rw [List.mapM_cons] at h
    simp only [Option.bind_eq_bind, Option.bind_eq_some_iff, Option.pure_def, Option.some.injEq] at h
    obtain ⟨z, hz, zs, hzs, rfl⟩ := h
    simp [mapM_len f l zs hzs]

/-- a struct's field, by its number -/
theorem field_get {ti : TI} {t : TypeId} {i : TypeInfo} {d : TypeDesc} {z : Value} (ok : TIok P t ti i d z) {fs : List (Nat × Nat × Bool)} (hk : ti.k = .struct fs) {f off size : Nat} {ag : Bool} (hf : fs[f]? = some (off, size, ag)) :
    ∃ fl fi fd, d = .struct fl ∧ ∃ g, fl[f]? = some g ∧ g.offset = off ∧ P.info? g.type = some fi ∧ P.underlying g.type = some fd ∧ fi.size = size ∧ aggB fd = ag := by
  have hk' := ok.k
  rw [hk] at hk'
  obtain ⟨fl, rfl, hm⟩ := kOf_struct hk'
  obtain ⟨g, hg, hfo⟩ := mapM_get _ _ _ hm f _ hf
  unfold fieldOf at hfo
  split at hfo
  · rename_i i' d' hi hd
    simp only [Option.some.injEq, Prod.mk.injEq] at hfo
    obtain ⟨h1, h2, h3⟩ := hfo
    exact ⟨fl, i', d', rfl, g, by simpa using hg, h1, hi, hd, h2, h3⟩
  · cases hfo

theorem run_part' {t : TypeId} {i : TypeInfo} {d : TypeDesc} (hi : P.info? t = some i) (hd : P.underlying t = some d) {size : Nat} {ag : Bool} (hs : i.size = size) (ha : aggB d = ag) (w : World) {cs : List AV} {xs : List Value} (off : Nat) {v : AV}
    (hr : RelV M G (.agg cs) (.agg ⟨xs⟩)) (hp : Am.part cs off size ag = some v) : ∃ x, (Go.part t ⟨xs⟩ off).run P w = .ok x w ∧ RelV M G v x := by
  have hag : (isAgg t).run P w = .ok ag w := by
    rw [← ha]
    simp only [isAgg, Sem.run_bind, run_underlying hd, Result.andThen_ok]
    cases d <;> rfl
  have hsz : (sizeOf t).run P w = .ok size w := by simp [sizeOf, typeInfo, hi, hs]
  cases hr with
  | agg hl h1 h2 =>
    unfold Am.part at hp
    split at hp
    · rename_i hle
      split at hp
      · rename_i ha
        simp only [Option.some.injEq] at hp
        subst hp
        refine ⟨.agg ⟨(xs.drop off).take size⟩, ?_, ?_⟩
        · simp only [Go.part, Sem.run_bind, hag, ha, Result.andThen_ok, if_true, hsz, Sem.run_pure]
          congr 2
          apply Array.ext'
          simp [List.extract_eq_take_drop]
        · refine .agg (by simp; omega) (fun x hx => h1 x (List.mem_of_mem_drop (List.mem_of_mem_take hx))) ?_
          intro i x y hx hy
          have hi : i < size := by have := lt_of_get hx; simp at this; omega
          rw [List.getElem?_take_of_lt hi, List.getElem?_drop] at hx hy
          exact h2 _ x y hx hy
      · rename_i ha
        split at hp
        · rename_i hs
          have hlt : off < xs.length := by omega
          refine ⟨xs[off], ?_, h2 off v _ hp (List.getElem?_eq_getElem hlt)⟩
          have ha' : ag = false := by simpa using ha
          simp [Go.part, hag, ha', hlt]
        · cases hp
    · cases hp

theorem field_run (hT : TEok P T) {t : TypeId} {x v : AV} {X : Value} (hx : RelV M G x X) (f : Nat) (h : field T t x f = some v) (w : World) :
    ∃ V, (Instr.field t X f).run P w = .ok V w ∧ RelV M G v V := by
  unfold field at h
  split at h
  · cases h
  · rename_i ti ht
    obtain ⟨i, d, z, ok⟩ := hT.get ht
    split at h <;> try cases h
    rename_i fs hk
    split at h <;> try cases h
    rename_i off size ag cs hf
    obtain ⟨fl, fi, fd, rfl, g, hg, hgo, hfi, hfd, hfs, hfa⟩ := field_get ok hk hf
    cases hx with
    | agg hl h1 h2 =>
      obtain ⟨V, hV, hr⟩ := run_part' (M := M) (G := G) hfi hfd hfs hfa w off (.agg hl h1 h2) h
      refine ⟨V, ?_, hr⟩
      simp only [Instr.field, Sem.run_bind, ok.run_underlying, Result.andThen_ok, hg]
      rw [hgo]
      simpa [asAgg] using hV

theorem fieldAddr_run (hT : TEok P T) {t : TypeId} {x v : AV} {X : Value} (hx : RelV M G x X) (f : Nat) (h : fieldAddr T t x f = some v) (w : World) :
    ∃ V, (Instr.fieldAt t X f).run P w = .ok V w ∧ RelV M G v V := by
  unfold fieldAddr at h
  split at h
  · cases h
  · rename_i ti ht
    obtain ⟨i, d, z, ok⟩ := hT.get ht
    split at h <;> try cases h
    rename_i fs hk
    split at h <;> try cases h
    rename_i off size ag hf
    obtain ⟨fl, fi, fd, rfl, g, hg, hgo, hfi, hfd, hfs, hfa⟩ := field_get ok hk hf
    split at h <;> try cases h
    rename_i hpos
    have hrun : ∀ a : Addr, a.spot = none → (Instr.fieldAt t (.pointer (some a)) f).run P w = .ok (.pointer (some ⟨a.block, a.off + off, none⟩)) w := by
      intro a ha
      have hsz : (sizeOf g.type).run P w = .ok size w := by simp [sizeOf, typeInfo, hfi, hfs]
      have hne : ¬ size = 0 := by omega
      simp only [Instr.fieldAt, Sem.run_bind, ok.run_underlying, Result.andThen_ok, hg, Instr.sureAddr, Sem.run_pure, fieldPlace, hsz, hne, if_false, hgo]
      obtain ⟨b, o, s⟩ := a
      simp only at ha
      subst ha
      rw [Addr.add_lit]
    have hrun2 : ∀ a : Addr, ∃ a', (Instr.fieldAt t (.pointer (some a)) f).run P w = .ok (.pointer (some a')) w := by
      intro a
      have hsz : (sizeOf g.type).run P w = .ok size w := by simp [sizeOf, typeInfo, hfi, hfs]
      have hne : ¬ size = 0 := by omega
      exact ⟨a.add off, by simp only [Instr.fieldAt, Sem.run_bind, ok.run_underlying, Result.andThen_ok, hg, Instr.sureAddr, Sem.run_pure, fieldPlace, hsz, hne, if_false, hgo]⟩
    split at h <;> try cases h
    · cases hx with
      | ptr h1 h2 h3 =>
        rename_i e a
        obtain ⟨a', ha'⟩ := hrun2 a
        refine ⟨_, ha', .ptr h1 h2 (fun he => ?_)⟩
        have e1 := hrun a (by rw [h3 he])
        rw [ha'] at e1
        simp only [Result.ok.injEq, Value.pointer.injEq, Option.some.injEq] at e1
        rw [e1.1, h3 he, Nat.add_assoc]
    · cases hx with
      | fptr h1 h2 h3 =>
        rename_i b base f'
        refine ⟨_, hrun _ rfl, ?_⟩
        rw [Nat.add_assoc]
        exact .fptr h1 h2 h3

theorem nilCheck_rel {x v : AV} {X : Value} (hx : RelV M G x X) (h : nilCheck x = some v) : RelV M G v X ∧ ((∃ a, X = .pointer (some a)) ∨ (∃ f a b, X = .func (.func f) a b) ∨ ∃ t u, X = .iface t u) := by
  unfold nilCheck at h
  split at h <;> simp at h <;> subst h
  · exact ⟨hx, by cases hx; exact .inl ⟨_, rfl⟩⟩
  · exact ⟨hx, by cases hx; exact .inl ⟨_, rfl⟩⟩
  · exact ⟨hx, by cases hx; exact .inr (.inl ⟨_, _, _, rfl⟩)⟩
  · exact ⟨hx, by cases hx; exact .inr (.inr ⟨_, _, rfl⟩)⟩

theorem len_run (hT : TEok P T) {t : TypeId} {x v : AV} {X : Value} (hx : RelV M G x X) (ts : Array TypeId) (ty : TypeId) (h0 : ts[0]? = some t) (xs : Array Value) (hX : xs[0]? = some X) (h : len T t x = some v) (w : World) :
    ∃ V, (Builtin.len_ ts ty xs).run P w = .ok V w ∧ RelV M G v V := by
  unfold len at h
  split at h
  · cases h
  · rename_i ti ht
    obtain ⟨i, d, z, ok⟩ := hT.get ht
    have hu := ok.und
    have hk' := ok.k
    split at h <;> simp at h <;> subst h
    · rename_i hk
      rw [hk] at hk'
      rw [kOf_string hk'] at hu
      cases hx
      refine ⟨_, ?_, .int⟩
      simp only [Builtin.len_, h0, hX, Sem.run_bind, run_underlying hu, Result.andThen_ok]
      simp [goInt, ByteArray.size]
    · rename_i hk
      rw [hk] at hk'
      rw [kOf_slice hk'] at hu
      cases hx <;> exact ⟨_, by simp only [Builtin.len_, h0, hX, Sem.run_bind, run_underlying hu, Result.andThen_ok]; rfl, .int⟩
    · rename_i hk
      rw [hk] at hk'
      rw [kOf_slice hk'] at hu
      cases hx <;> exact ⟨_, by simp only [Builtin.len_, h0, hX, Sem.run_bind, run_underlying hu, Result.andThen_ok]; rfl, .int⟩
    · rename_i hk
      rw [hk] at hk'
      rw [kOf_slice hk'] at hu
      cases hx <;> exact ⟨_, by simp only [Builtin.len_, h0, hX, Sem.run_bind, run_underlying hu, Result.andThen_ok]; rfl, .int⟩

theorem max2_run {x y v : AV} {X Y : Value} (hx : RelV M G x X) (hy : RelV M G y Y) (h : max2 x y = some v) (w : World) : ∃ V, (Builtin.max2 X Y).run P w = .ok V w ∧ RelV M G v V := by
  unfold max2 at h
  split at h <;> try cases h
  split at h <;> simp at h
  subst h
  cases hx; cases hy
  exact ⟨_, by simp only [Builtin.max2]; rfl, .int⟩

theorem foldA_run {f : AV → AV → Option AV} {g : Value → Value → Sem Value} (hf : ∀ {x y v : AV} {X Y : Value}, RelV M G x X → RelV M G y Y → f x y = some v → ∀ w, ∃ V, (g X Y).run P w = .ok V w ∧ RelV M G v V) :
    ∀ (l : List AV) (L : List Value) (x : AV) (X : Value) (v : AV), l.length = L.length → (∀ (i : Nat) (x : AV) (y : Value), l[i]? = some x → L[i]? = some y → RelV M G x y) → RelV M G x X → foldA f x l = some v →
      ∀ w, ∃ V, (L.foldlM g X).run P w = .ok V w ∧ RelV M G v V
  | [], [], x, X, v, _, _, hx, h, w => by simp only [foldA, Option.some.injEq] at h; subst h; exact ⟨X, by simp, hx⟩
  | y :: l, Y :: L, x, X, v, hl, hr, hx, h, w => by
    simp only [foldA] at h
    split at h
    · rename_i z hz
      obtain ⟨Z, hZ, hrz⟩ := hf hx (hr 0 y Y rfl rfl) hz w
      obtain ⟨V, hV, hrv⟩ := foldA_run hf l L z Z v (by simpa using hl) (fun i x y hx hy => hr (i + 1) x y (by simpa using hx) (by simpa using hy)) hrz h w
      exact ⟨V, by simp only [List.foldlM_cons, Sem.run_bind, hZ, Result.andThen_ok, hV], hrv⟩
    · cases h
  | [], _ :: _, _, _, _, hl, _, _, _, _ => by simp at hl
  | _ :: _, [], _, _, _, hl, _, _, _, _ => by simp at hl

theorem min2_run {x y v : AV} {X Y : Value} (hx : RelV M G x X) (hy : RelV M G y Y) (h : min2 x y = some v) (w : World) : ∃ V, (Builtin.min2 X Y).run P w = .ok V w ∧ RelV M G v V := by
  unfold min2 at h
  split at h <;> try cases h
  split at h <;> simp at h
  subst h
  cases hx; cases hy
  exact ⟨_, by simp only [Builtin.min2]; rfl, .int⟩

theorem index_run (hT : TEok P T) {t : TypeId} {x y v : AV} {X Y : Value} (hx : RelV M G x X) (hy : RelV M G y Y) (h : index T t x y = some v) (w : World) :
    ∃ V, (Instr.index t X Y).run P w = .ok V w ∧ RelV M G v V := by
  unfold index at h
  split at h <;> try cases h
  rename_i ti k n ht
  obtain ⟨i, d, z, ok⟩ := hT.get ht
  have hu := ok.und
  have hk' := ok.k
  cases hy
  split at h <;> try cases h
  · rename_i s hk
    split at h <;> try cases h
    rename_i hn
    split at h <;> simp at h
    rename_i b hb
    subst h
    rw [hk] at hk'
    rw [kOf_string hk'] at hu
    cases hx
    refine ⟨.int .u8 b.toNat, ?_, .int⟩
    have hb' : (ByteArray.mk s.toArray)[n.toNat]? = some b := by
      have hlt := lt_of_get hb
      have hsz : n.toNat < (ByteArray.mk s.toArray).size := by simpa [ByteArray.size] using hlt
      rw [getElem?_pos (ByteArray.mk s.toArray) n.toNat hsz]
      rw [List.getElem?_eq_getElem hlt] at hb
      simp only [Option.some.injEq] at hb ⊢
      rw [← hb]
      rfl
    simp only [Instr.index, asIntOf, Sem.run_bind, Sem.run_pure, Result.andThen_ok, run_underlying hu, hn, if_true, hb']
  · rename_i len esz ag cs hk
    split at h <;> try cases h
    rename_i hn
    rw [hk] at hk'
    obtain ⟨e, ei, ed, rfl, hei, hed, hs, ha⟩ := kOf_array hk'
    cases hx with
    | agg hl h1 h2 =>
      obtain ⟨V, hV, hr⟩ := run_part' (M := M) (G := G) hei hed hs ha w (n.toNat * esz) (.agg hl h1 h2) h
      refine ⟨V, ?_, hr⟩
      have hsz : (sizeOf e).run P w = .ok esz w := by simp [sizeOf, typeInfo, hei, hs]
      simp only [Instr.index, asIntOf, Sem.run_bind, Sem.run_pure, Result.andThen_ok, run_underlying hu, hn, if_true, and_self, hsz, hV]

end
end Go.Proofs.YtgkalmmlgkaabaaGreat.Am

namespace Go.Proofs.YtgkalmmlgkaabaaGreat.Am

def RelL (M : Mem) (G : List GE) (cs : List AV) (xs : List Value) : Prop :=
  cs.length = xs.length ∧ (∀ x ∈ cs, x.isCell = true) ∧ ∀ (i : Nat) (x : AV) (y : Value), cs[i]? = some x → xs[i]? = some y → RelV M G x y

theorem RelL.mono {M M' : Mem} {G G' : List GE} {cs : List AV} {xs : List Value} (h : RelL M G cs xs) (hM : MLe M M') (hG : GLe G G') : RelL M' G' cs xs :=
  ⟨h.1, h.2.1, fun i x y hx hy => (h.2.2 i x y hx hy).mono hM hG⟩

theorem cells_rel {M : Mem} {G : List GE} {v : AV} {x : Value} {vs : List AV} (h : RelV M G v x) (hv : v.cells? = some vs) : RelL M G vs x.cells.toList := by
  have single : ∀ (v : AV) (x : Value), v.isCell = true → RelV M G v x → x.cells = #[x] → RelL M G [v] x.cells.toList := by
    intro v x hc hr hx
    rw [hx]
    refine ⟨rfl, by simpa using hc, ?_⟩
    intro i a b ha hb
    cases i with
    | zero => simp at ha hb; subst ha; subst hb; exact hr
    | succ i => simp at ha
  cases h with
  | undef => simp [AV.cells?] at hv
  | tuple => simp [AV.cells?] at hv
  | agg hl h1 h2 =>
    simp only [AV.cells?, Option.some.injEq] at hv
    subst hv
    exact ⟨hl, h1, h2⟩
  | bool => simp only [AV.cells?, Option.some.injEq] at hv; subst hv; exact single _ _ rfl .bool rfl
  | int => simp only [AV.cells?, Option.some.injEq] at hv; subst hv; exact single _ _ rfl .int rfl
  | str => simp only [AV.cells?, Option.some.injEq] at hv; subst hv; exact single _ _ rfl .str rfl
  | nilp => simp only [AV.cells?, Option.some.injEq] at hv; subst hv; exact single _ _ rfl .nilp rfl
  | ptr a b c => simp only [AV.cells?, Option.some.injEq] at hv; subst hv; exact single _ _ rfl (.ptr a b c) rfl
  | fptr a b c => simp only [AV.cells?, Option.some.injEq] at hv; subst hv; exact single _ _ rfl (.fptr a b c) rfl
  | nils => simp only [AV.cells?, Option.some.injEq] at hv; subst hv; exact single _ _ rfl .nils rfl
  | sl a b c d => simp only [AV.cells?, Option.some.injEq] at hv; subst hv; exact single _ _ rfl (.sl a b c d) rfl
  | fsl a b c d e f => simp only [AV.cells?, Option.some.injEq] at hv; subst hv; exact single _ _ rfl (.fsl a b c d e f) rfl
  | fsl0 => simp only [AV.cells?, Option.some.injEq] at hv; subst hv; exact single _ _ rfl .fsl0 rfl
  | nilm => simp only [AV.cells?, Option.some.injEq] at hv; subst hv; exact single _ _ rfl .nilm rfl
  | map a b => simp only [AV.cells?, Option.some.injEq] at hv; subst hv; exact single _ _ rfl (.map a b) rfl
  | nilf => simp only [AV.cells?, Option.some.injEq] at hv; subst hv; exact single _ _ rfl .nilf rfl
  | fn a b c d => simp only [AV.cells?, Option.some.injEq] at hv; subst hv; exact single _ _ rfl (.fn a b c d) rfl
  | niface => simp only [AV.cells?, Option.some.injEq] at hv; subst hv; exact single _ _ rfl .niface rfl
  | iface a => simp only [AV.cells?, Option.some.injEq] at hv; subst hv; exact single _ _ rfl (.iface a) rfl

theorem setRange_len : ∀ (vs cs : List AV) (off : Nat), (setRange cs off vs).length = cs.length
  | [], cs, off => rfl
  | v :: vs, cs, off => by simp [setRange, setRange_len vs]

theorem setRange_mem : ∀ (vs cs : List AV) (off : Nat) (x : AV), x ∈ setRange cs off vs → x ∈ cs ∨ x ∈ vs
  | [], cs, off, x, h => .inl h
  | v :: vs, cs, off, x, h => by
    rcases setRange_mem vs (cs.set off v) (off + 1) x h with h | h
    · rcases List.mem_or_eq_of_mem_set h with h | h
      · exact .inl h
      · exact .inr (by simp [h])
    · exact .inr (List.mem_cons_of_mem _ h)

/-- the same on the model's side -/
def setRV : List Value → Nat → List Value → List Value
  | cs, _, [] => cs
  | cs, i, v :: vs => setRV (cs.set i v) (i + 1) vs

theorem RelL.setRange {M : Mem} {G : List GE} : ∀ (vs : List AV) (ys : List Value) {cs : List AV} {xs : List Value} (off : Nat), RelL M G cs xs → RelL M G vs ys → RelL M G (Am.setRange cs off vs) (setRV xs off ys)
  | [], [], cs, xs, off, h, _ => h
  | v :: vs, y :: ys, cs, xs, off, h, k => by
    refine RelL.setRange vs ys (off + 1) ?_ ⟨by simpa using k.1, fun x hx => k.2.1 x (List.mem_cons_of_mem _ hx), fun i x y hx hy => k.2.2 (i + 1) x y (by simpa using hx) (by simpa using hy)⟩
    refine ⟨by simpa using h.1, ?_, ?_⟩
    · intro x hx
      rcases List.mem_or_eq_of_mem_set hx with hx | hx
      · exact h.2.1 x hx
      · subst hx; exact k.2.1 x (by simp)
    · intro i x z hx hz
      by_cases hi : off = i
      · subst hi
        have h1 : off < cs.length := by have := lt_of_get hx; simpa using this
        have h2 : off < xs.length := h.1 ▸ h1
        simp [h1] at hx
        simp [h2] at hz
        subst hx; subst hz
        exact k.2.2 0 _ _ rfl rfl
      · rw [List.getElem?_set_ne hi] at hx hz
        exact h.2.2 i x z hx hz
  | [], _ :: _, _, _, _, _, k => by have := k.1; simp at this
  | _ :: _, [], _, _, _, _, k => by have := k.1; simp at this

theorem foldl_setRV : ∀ (ys : List Value) (k off : Nat) (xs : Array Value), ((ys.zipIdx k).foldl (fun cs p => cs.setIfInBounds (off + p.2) p.1) xs) = ⟨setRV xs.toList (off + k) ys⟩
  | [], k, off, xs => rfl
  | y :: ys, k, off, xs => by
    simp only [List.zipIdx_cons, List.foldl_cons]
    rw [foldl_setRV ys (k + 1) off]
    simp only [setRV, Array.toList_setIfInBounds]
    rfl

theorem fill_rel {M : Mem} {G : List GE} (place : Nat → Option (Nat × Nat)) : ∀ (ps : List (Nat × AV)) (qs : List (Nat × Value)) {cs cs' : List AV} {xs : List Value},
    ps.length = qs.length → (∀ (i : Nat) (p : Nat × AV) (q : Nat × Value), ps[i]? = some p → qs[i]? = some q → p.1 = q.1 ∧ RelV M G p.2 q.2) → RelL M G cs xs → fill place cs ps = some cs' →
      ∃ xs', Instr.fill place ⟨xs⟩ qs = some ⟨xs'⟩ ∧ RelL M G cs' xs'
  | [], [], cs, cs', xs, _, _, h, hf => by
    simp only [fill, Option.some.injEq] at hf
    subst hf
    exact ⟨xs, rfl, h⟩
  | (i, v) :: ps, (j, y) :: qs, cs, cs', xs, hl, hr, h, hf => by
    obtain ⟨hij, hv⟩ := hr 0 (i, v) (j, y) rfl rfl
    simp only at hij hv
    subst hij
    simp only [fill] at hf
    split at hf <;> try cases hf
    rename_i off size vs hp hc
    split at hf <;> try cases hf
    rename_i hle
    have hcr := cells_rel hv hc
    have hsz : y.cells.size = size := by rw [← hle.1, hcr.1, Array.length_toList]
    have hno : (decide (y.cells.size ≠ size) || decide (off + y.cells.size > (Array.mk xs).size)) = false := by
      have : cs.length = xs.length := h.1
      simp [hsz]
      omega
    obtain ⟨xs', h1, h2⟩ := fill_rel place ps qs (by simpa using hl) (fun i p q hp hq => hr (i + 1) p q (by simpa using hp) (by simpa using hq)) (RelL.setRange vs y.cells.toList off h hcr) hf
    refine ⟨xs', ?_, h2⟩
    simp only [Instr.fill, hp, hno, Bool.false_eq_true, if_false]
    rw [← h1]
    congr 1
    rw [← Array.foldl_toList, Array.toList_zipIdx]
    have := foldl_setRV y.cells.toList 0 off ⟨xs⟩
    simpa using this
  | [], _ :: _, _, _, _, hl, _, _, _ => by simp at hl
  | _ :: _, [], _, _, _, hl, _, _, _ => by simp at hl

theorem foldl_size (off : Nat) : ∀ (l : List (Value × Nat)) (xs : Array Value), (l.foldl (fun cs p => cs.setIfInBounds (off + p.2) p.1) xs).size = xs.size
  | [], xs => rfl
  | p :: l, xs => by rw [List.foldl_cons, foldl_size off l]; simp

theorem fill_size (place : Nat → Option (Nat × Nat)) : ∀ (qs : List (Nat × Value)) (xs ys : Array Value), Instr.fill place xs qs = some ys → ys.size = xs.size
  | [], xs, ys, h => by simp only [Instr.fill, Option.some.injEq] at h; rw [h]
  | (i, v) :: qs, xs, ys, h => by
    simp only [Instr.fill] at h
    split at h
    · cases h
    · rename_i off size hp
      split at h
      · cases h
      · have := fill_size place qs _ ys h
        rw [this, ← Array.foldl_toList, foldl_size]

theorem parts_rel {M : Mem} {G : List GE} {ρ : Operand → AV} {σ : Operand → Value} (h : ∀ x, RelV M G (ρ x) (σ x)) (parts : Array (Nat × Operand)) :
    (parts.toList.map fun (i, x) => (i, ρ x)).length = (parts.map fun (i, x) => (i, σ x)).toList.length ∧
    ∀ (i : Nat) (p : Nat × AV) (q : Nat × Value), (parts.toList.map fun (i, x) => (i, ρ x))[i]? = some p → (parts.map fun (i, x) => (i, σ x)).toList[i]? = some q → p.1 = q.1 ∧ RelV M G p.2 q.2 := by
  refine ⟨by simp, ?_⟩
  intro i p q hp hq
  simp only [Array.toList_map, List.getElem?_map] at hp hq
  cases hg : parts.toList[i]? with
  | none => rw [hg] at hp; simp at hp
  | some a =>
    rw [hg] at hp hq
    simp at hp hq
    subst hp; subst hq
    exact ⟨rfl, h _⟩

section
variable {P : Program} {T : TE} {M : Mem} {G : List GE}

theorem TIok.zl {t : TypeId} {ti : TI} {i : TypeInfo} {d : TypeDesc} {z : Value} (ok : TIok P t ti i d z) : RelL M G ti.zero z.cells.toList :=
  ⟨by rw [ok.zlen, Array.length_toList, ok.zsize], ok.zcell, ok.zrel M G⟩

theorem mapM_run_fields {w : World} : ∀ (fl : List Field) (fs : List (Nat × Nat × Bool)), fl.mapM (fieldOf P) = some fs →
    (fl.mapM (m := Sem) fun f => do pure (f.offset, ← sizeOf f.type)).run P w = .ok (fs.map fun f => (f.1, f.2.1)) w
  | [], fs, h => by simp at h; subst h; simp
  | f :: fl, fs, h => by
    rw [List.mapM_cons] at h
    simp only [Option.bind_eq_bind, Option.bind_eq_some_iff, Option.pure_def, Option.some.injEq] at h
    obtain ⟨z, hz, zs, hzs, rfl⟩ := h
    unfold fieldOf at hz
    split at hz
    · rename_i i d hi hd
      simp only [Option.some.injEq] at hz
      subst hz
      have ih := mapM_run_fields (w := w) fl zs hzs
      have hsz : (sizeOf f.type).run P w = .ok i.size w := by simp [sizeOf, typeInfo, hi]
      rw [List.mapM_cons]
      simp only [Sem.run_bind, hsz, Result.andThen_ok, Sem.run_pure, ih, List.map_cons]
    · cases hz

theorem build_run (hT : TEok P T) {t : TypeId} {ρ : Operand → AV} {σ : Operand → Value} (hρ : ∀ x, RelV M G (ρ x) (σ x)) (parts : Array (Nat × Operand)) {v : AV}
    (h : build T t (parts.toList.map fun (i, x) => (i, ρ x)) = some v) (w : World) : ∃ V, (Instr.build t (parts.map fun (i, x) => (i, σ x))).run P w = .ok V w ∧ RelV M G v V := by
  obtain ⟨hpl, hpr⟩ := parts_rel hρ parts
  unfold build at h
  split at h
  · cases h
  · rename_i ti ht
    obtain ⟨i, d, z, ok⟩ := hT.get ht
    have hu := ok.und
    have hk' := ok.k
    split at h <;> try cases h
    · rename_i fs hk
      rw [hk] at hk'
      obtain ⟨fl, rfl, hm⟩ := kOf_struct hk'
      simp only [Option.map_eq_some_iff] at h
      obtain ⟨cs, hf, rfl⟩ := h
      obtain ⟨xs', h1, h2⟩ := fill_rel _ _ _ hpl hpr ok.zl hf
      refine ⟨.agg ⟨xs'⟩, ?_, .agg h2.1 h2.2.1 h2.2.2⟩
      have hmm := mapM_run_fields (w := w) fl.toList fs hm
      have hma : (fl.mapM (m := Sem) fun f => do pure (f.offset, ← sizeOf f.type)).run P w = .ok (fs.map fun f => (f.1, f.2.1)).toArray w := by
        rw [Array.mapM_eq_mapM_toList, Sem.run_map, hmm]
        rfl
      have hpl' : (fun x : Nat => (fs.map fun f => (f.1, f.2.1)).toArray[x]?) = (fun i : Nat => (fs[i]?).map fun f => (f.1, f.2.1)) := by
        funext x; simp
      simp only [Instr.build, Sem.run_bind, ok.run_zeroValue, Result.andThen_ok, run_underlying hu, hma, hpl']
      have hzz : (Array.mk z.cells.toList) = z.cells := rfl
      rw [hzz] at h1
      simp only [h1]
      rfl
    · rename_i len esz ag hk
      rw [hk] at hk'
      obtain ⟨e, ei, ed, rfl, hei, hed, hs, ha⟩ := kOf_array hk'
      simp only [Option.map_eq_some_iff] at h
      obtain ⟨cs, hf, rfl⟩ := h
      obtain ⟨xs', h1, h2⟩ := fill_rel _ _ _ hpl hpr ok.zl hf
      refine ⟨.agg ⟨xs'⟩, ?_, .agg h2.1 h2.2.1 h2.2.2⟩
      have hsz : (sizeOf e).run P w = .ok esz w := by simp [sizeOf, typeInfo, hei, hs]
      simp only [Instr.build, Sem.run_bind, ok.run_zeroValue, Result.andThen_ok, run_underlying hu, hsz]
      have hzz : (Array.mk z.cells.toList) = z.cells := rfl
      rw [hzz] at h1
      simp only [h1]
      rfl

end
end Go.Proofs.YtgkalmmlgkaabaaGreat.Am
namespace Go.Proofs.YtgkalmmlgkaabaaGreat.Am
theorem flat_len (zs : List AV) : ∀ n, ((List.replicate n zs).flatten).length = n * zs.length
  | 0 => by simp
  | n + 1 => by rw [List.replicate_succ, List.flatten_cons, List.length_append, flat_len zs n, Nat.succ_mul, Nat.add_comm]

theorem flat_get (zs : List AV) : ∀ n i, i < n * zs.length → ((List.replicate n zs).flatten)[i]? = zs[i % zs.length]?
  | 0, i, h => by simp at h
  | n + 1, i, h => by
    rw [List.replicate_succ, List.flatten_cons]
    rcases Nat.lt_or_ge i zs.length with h' | h'
    · rw [List.getElem?_append_left h', Nat.mod_eq_of_lt h']
    · rw [List.getElem?_append_right h', flat_get zs n (i - zs.length) (by rw [Nat.succ_mul] at h; omega), ← Nat.mod_eq_sub_mod h']

section
variable {P : Program} {T : TE} {M : Mem} {G : List GE}

theorem getBang {α : Type} [Inhabited α] (a : Array α) (i : Nat) (h : i < a.size) : a[i]! = a[i] := by simp [h]

theorem zeros_rel {t : TypeId} {ti : TI} {i : TypeInfo} {d : TypeDesc} {z : Value} (ok : TIok P t ti i d z) (hpos : 0 < ti.size) (n : Nat) :
    RelL M G ((List.replicate n ti.zero).flatten) ((Array.range (n * ti.size)).map (z.cells[· % z.cells.size]!)).toList := by
  have hl := ok.zlen
  refine ⟨by rw [flat_len, hl]; simp, ?_, ?_⟩
  · intro x hx
    obtain ⟨l, hl1, hl2⟩ := List.mem_flatten.1 hx
    rw [List.mem_replicate] at hl1
    rw [hl1.2] at hl2
    exact ok.zcell x hl2
  · intro k x y hx hy
    have hk : k < n * ti.zero.length := by have := lt_of_get hx; rwa [flat_len] at this
    rw [flat_get _ _ _ hk, hl] at hx
    rw [hl] at hk
    have hk2 : k % ti.size < ti.size := Nat.mod_lt _ hpos
    have hzs : z.cells.size = ti.size := ok.zsize
    have hy' : y = z.cells[k % ti.size]'(by rw [hzs]; exact hk2) := by
      rw [Array.toList_map, List.getElem?_map] at hy
      have : (Array.range (n * ti.size)).toList[k]? = some k := by simp [hk]
      rw [this] at hy
      simp only [Option.map_some, Option.some.injEq] at hy
      have e : k % z.cells.size = k % ti.size := by rw [hzs]
      rw [e] at hy
      rw [← hy, getBang]
    refine ok.zrel M G _ x y hx ?_
    rw [hy']
    simp [hzs, hk2]

theorem solid_rel {v : AV} {x : Value} (h : RelV M G v x) (hs : v.solid = true) : RelV M [] v x := by
  cases h with
  | undef => simp [AV.solid] at hs
  | bool => exact .bool
  | int => exact .int
  | str => exact .str
  | nilp => exact .nilp
  | ptr => simp [AV.solid] at hs
  | fptr => simp [AV.solid] at hs
  | nils => exact .nils
  | sl => simp [AV.solid] at hs
  | fsl hl hn hf h1 h2 h3 =>
    simp only [AV.solid] at hs
    subst hs
    exact .fsl hl hn hf h1 h2 h3
  | fsl0 => exact .fsl0
  | nilm => exact .nilm
  | map => simp [AV.solid] at hs
  | nilf => exact .nilf
  | fn => simp [AV.solid] at hs
  | niface => exact .niface
  | iface => simp [AV.solid] at hs
  | agg => simp [AV.solid] at hs
  | tuple => simp [AV.solid] at hs

theorem buildSlice_run (hT : TEok P T) {t n : Nat} {ρ : Operand → AV} {σ : Operand → Value} (hρ : ∀ x, RelV M G (ρ x) (σ x)) (parts : Array (Nat × Operand)) {v : AV} {objs : List Obj} {w : World} (hI : Inv M G objs w)
    (h : buildSlice T t n (parts.toList.map fun (i, x) => (i, ρ x)) = some v) (fl : Nat) :
    ∃ V w' M', (Instr.buildSlice t n (parts.map fun (i, x) => (i, σ x))).run P w = .ok V w' ∧ RelV M' G v V ∧ Inv M' G objs w' ∧ Ext fl M G w M' G w' := by
  obtain ⟨hpl, hpr⟩ := parts_rel hρ parts
  unfold buildSlice at h
  split at h
  · cases h
  · rename_i ti ht
    obtain ⟨i, d, z, ok⟩ := hT.get ht
    have hu := ok.und
    have hk' := ok.k
    split at h <;> try cases h
    rename_i e hk
    rw [hk] at hk'
    rw [kOf_slice hk'] at hu
    split at h
    · cases h
    · rename_i ei he
      obtain ⟨i2, d2, z2, ok2⟩ := hT.get he
      split at h <;> try cases h
      rename_i hc
      split at h <;> try cases h
      rename_i cs hf
      obtain ⟨xs', h1, h2⟩ := fill_rel _ _ _ hpl hpr (zeros_rel (M := M) (G := G) ok2 hc.2 n) hf
      have hrun : (Instr.buildSlice t n (parts.map fun (i, x) => (i, σ x))).run P w = .ok (.slice (some ⟨w.heap.size, 0, none⟩) n n) (w.alloc (.cells ⟨xs'⟩ e)) := by
        have hle : ¬ (n * ei.size > 2 ^ 24) := by have := hc.1; omega
        simp only [Instr.buildSlice, Sem.run_bind, run_underlying hu, Result.andThen_ok, ok2.run_sizeOf, Sem.run_ite, hle, if_false]
        by_cases hn : n * ei.size = 0
        · simp only [hn, if_true, Sem.run_pure, Result.andThen_ok]
          have : (Array.range (n * ei.size)).map (z2.cells[· % z2.cells.size]!) = #[] := by rw [hn]; simp
          have h1' := h1
          rw [show (Array.mk ((Array.range (n * ei.size)).map (z2.cells[· % z2.cells.size]!)).toList) = #[] from by rw [this]] at h1'
          have hr0 : Array.map (fun x => (#[] : Array Value)[x % (#[] : Array Value).size]!) (Array.range 0) = #[] := by simp
          simp only [hr0, h1', newRow, Sem.run_bind, run_newObj_alloc, Result.andThen_ok, Sem.run_pure]
        · simp only [hn, if_false, ok2.run_zeroValue, Result.andThen_ok, Sem.run_pure]
          have h1' : Instr.fill (fun i => some (i * ei.size, ei.size)) (Array.map (fun x => z2.cells[x % z2.cells.size]!) (Array.range (n * ei.size))) (parts.map fun (i, x) => (i, σ x)).toList = some ⟨xs'⟩ := h1
          simp only [h1', newRow, Sem.run_bind, run_newObj_alloc, Result.andThen_ok, Sem.run_pure]
      have hb : (w.alloc (.cells ⟨xs'⟩ e)).heap[w.heap.size]? = some (.cells ⟨xs'⟩ e) := by
        show (w.heap.push _)[w.heap.size]? = _
        simp
      have hM0 : ∀ o, M w.heap.size o = none := fun o => by
        cases hm : M w.heap.size o with
        | none => rfl
        | some x => have := cell_lt (hI.mem _ _ _ hm); omega
      have hG0 : ∀ (r : Nat) (e : GE), G[r]? = some e → e.blk ≠ w.heap.size := fun r e he => by have := hI.blt r e he; omega
      obtain ⟨hle, hI'⟩ := (hI.alloc (.cells ⟨xs'⟩ e)).memB hb hM0 hG0
      refine ⟨_, _, _, hrun, ?_, hI', ?_⟩
      · have hln : cs.length = n * ei.size := by
          have e1 := h2.1
          have e2 : xs'.length = n * ei.size := by
            have := fill_size _ _ _ _ h1
            simpa using this
          omega
        refine .fsl (f := fun k => xs'.getD k Go.undef) hln (Nat.le_refl _) (fun _ => rfl) h2.2.1 ?_ ?_
        · intro k hk
          have hk' : k < xs'.length := h2.1 ▸ hk
          simp [Am.memB, hk']
        · intro k x hx
          have hk' : k < xs'.length := h2.1 ▸ lt_of_get hx
          have hr := (h2.2.2 k x xs'[k] hx (List.getElem?_eq_getElem hk')).mono hle (GLe.refl G)
          have hgd : xs'.getD k Go.undef = xs'[k] := by simp [hk']
          rw [hgd]
          by_cases hs : cs.all AV.solid = true
          · rw [hs]
            exact solid_rel hr (List.all_eq_true.1 hs x (List.mem_of_getElem? hx))
          · have : cs.all AV.solid = false := by simpa using hs
            rw [this]
            exact hr
      · have hx := Ext.alloc fl M G w (.cells ⟨xs'⟩ e)
        exact { hx with
          mle := hle
          fresh := fun b o x hx => by
            unfold Am.memB at hx
            by_cases hbb : b = w.heap.size
            · exact .inr (by omega)
            · rw [if_neg hbb] at hx; exact .inl hx }

end
end Go.Proofs.YtgkalmmlgkaabaaGreat.Am

namespace Go.Proofs.YtgkalmmlgkaabaaGreat.Am

section
variable {P : Program} {T : TE} {M : Mem} {G : List GE}

theorem elem_eq {t e : TypeId} (hu : P.underlying t = some (.slice e)) : P.elem t = e := by simp [Program.elem, hu]

theorem run_indexAt_slice' {t e : TypeId} {s : Nat} (hu : P.underlying t = some (.slice e)) (w : World) (hs : (sizeOf e).run P w = .ok s w) (a : Addr) (len cap : Nat) (k : IntKind) (n : Int) (hn : 0 ≤ n ∧ n < len) :
    (Instr.indexAt t (.slice (some a) len cap) (.int k n)).run P w = .ok (.pointer (some (a.add (n.toNat * s)))) w := by
  rw [run_indexAt_slice w t a len cap k n (by rw [elem_eq hu]; exact hu), if_pos hn, elem_eq hu, hs]
  rfl

theorem indexAddr_run (hT : TEok P T) {t : TypeId} {x y v : AV} {X Y : Value} (hx : RelV M G x X) (hy : RelV M G y Y) (h : indexAddr T t x y = some v) (w : World) :
    ∃ V, (Instr.indexAt t X Y).run P w = .ok V w ∧ RelV M G v V := by
  unfold indexAddr at h
  split at h <;> try cases h
  rename_i ti k n ht
  obtain ⟨i, d, z, ok⟩ := hT.get ht
  have hu := ok.und
  have hk' := ok.k
  cases hy
  split at h <;> try cases h
  · rename_i e hk
    rw [hk] at hk'
    rw [kOf_slice hk'] at hu
    split at h <;> try cases h
    rename_i ei he
    obtain ⟨i2, d2, z2, ok2⟩ := hT.get he
    split at h <;> try cases h
    · rename_i m s cs full so
      split at h <;> try cases h
      rename_i hc
      obtain ⟨rfl, h0, h1⟩ := hc
      cases hx with
      | fsl0 => exfalso; omega
      | fsl hl hn hf c1 c2 c3 =>
        rename_i b base cap f
        refine ⟨_, run_indexAt_slice' hu w (ok2.run_sizeOf w) _ _ _ _ _ ⟨h0, h1⟩, ?_⟩
        rw [Addr.add_lit]
        have hlt : n.toNat < m := by omega
        have hle : n.toNat * ei.size + ei.size ≤ cs.length := by
          rw [hl]
          calc n.toNat * ei.size + ei.size = (n.toNat + 1) * ei.size := by rw [Nat.succ_mul]
            _ ≤ m * ei.size := Nat.mul_le_mul_right _ hlt
        refine .fptr (base := base + n.toNat * ei.size) (off := 0) (f := fun i => f (n.toNat * ei.size + i)) (fun x hx => c1 x (List.mem_of_mem_drop (List.mem_of_mem_take hx))) ?_ ?_
        · intro i hi
          have hi' : i < ei.size := by simp at hi; omega
          have := c2 (n.toNat * ei.size + i) (by omega)
          rw [← Nat.add_assoc] at this
          exact this
        · intro i x hx
          have hi' : i < ei.size := by have := lt_of_get hx; simp at this; omega
          rw [List.getElem?_take_of_lt hi', List.getElem?_drop] at hx
          have := c3 _ x hx
          cases so
          · exact this
          · exact this.mono (MLe.refl _) (GLe.nil _)
    · rename_i r off m s g
      split at h <;> try cases h
      rename_i hc
      obtain ⟨rfl, h0, h1⟩ := hc
      cases hx with
      | sl c1 c2 c3 c4 =>
        rename_i e' a cap
        refine ⟨_, run_indexAt_slice' hu w (ok2.run_sizeOf w) _ _ _ _ _ ⟨h0, h1⟩, .ptr c1 c2 (fun hg => ?_)⟩
        obtain ⟨_, _, h5⟩ := c4 hg
        rcases h5 with rfl | h5
        · rw [Addr.add_lit, Nat.add_assoc]
        · omega
  · rename_i len esz ag hk
    rw [hk] at hk'
    obtain ⟨e, ei, ed, rfl, hei, hed, hs, ha⟩ := kOf_array hk'
    have hal : P.arrayLen t = len := by simp [Program.arrayLen, hu]
    have hel : P.elem t = e := by simp [Program.elem, hu]
    have hsz : ∀ w, (sizeOf e).run P w = .ok esz w := fun w => by simp [sizeOf, typeInfo, hei, hs]
    have hrun : ∀ a : Addr, (0 ≤ n ∧ n < len) → (Instr.indexAt t (.pointer (some a)) (.int k n)).run P w = .ok (.pointer (some (a.add (n.toNat * esz)))) w := by
      intro a hn
      rw [run_indexAt_array w t a k n (by rw [hal, hel]; exact hu), hal, if_pos hn, hel, hsz]
      rfl
    split at h <;> try cases h
    · split at h <;> try cases h
      rename_i hc
      cases hx with
      | ptr c1 c2 c3 =>
        refine ⟨_, hrun _ hc, .ptr c1 c2 (fun hg => ?_)⟩
        rw [c3 hg, Addr.add_lit, Nat.add_assoc]
    · split at h <;> try cases h
      rename_i hc
      cases hx with
      | fptr c1 c2 c3 =>
        refine ⟨_, hrun _ hc, ?_⟩
        rw [Addr.add_lit, Nat.add_assoc]
        exact .fptr c1 c2 c3

/-- two options that agree, and are in relation -/
def RelO (M : Mem) (G : List GE) (x : Option AV) (X : Option Value) : Prop := (x = none ∧ X = none) ∨ ∃ v V, x = some v ∧ X = some V ∧ RelV M G v V

theorem bounds_run {n len cap : Nat} {lo hi mx : Option AV} {LO HI MX : Option Value} (hlo : RelO M G lo LO) (hhi : RelO M G hi HI) (hmx : RelO M G mx MX) {l h : Nat} {m : Option Nat} (hb : bounds n lo hi mx = some (l, h, m))
    (hn : n = len) (hc : n ≤ cap) (isSlice : Bool) (w : World) :
    (Instr.sliceBounds isSlice len cap LO HI MX).run P w = .ok (l, h, m.getD cap) w ∧ l ≤ h ∧ h ≤ m.getD n ∧ m.getD n ≤ n := by
  subst hn
  unfold bounds at hb
  split at hb
  · cases hb
  · rename_i m' hm
    split at hb
    · cases hb
    · rename_i h' hh
      split at hb
      · cases hb
      rename_i l' hl
      simp only [Option.some.injEq, Prod.mk.injEq] at hb
      obtain ⟨rfl, rfl, rfl⟩ := hb
      have hM : (m' = none ∧ MX = none) ∨ ∃ k M, MX = some (.int k M) ∧ 0 ≤ M ∧ M ≤ (n : Int) ∧ m' = some M.toNat := by
        rcases hmx with ⟨rfl, rfl⟩ | ⟨v, V, rfl, rfl, hr⟩
        · simp only [bMax, Option.some.injEq] at hm; exact .inl ⟨hm.symm, rfl⟩
        · right
          unfold bMax at hm
          cases v <;> simp only at hm <;> try cases hm
          cases hr
          split at hm <;> try cases hm
          rename_i hc
          exact ⟨_, _, rfl, hc.1, hc.2, rfl⟩
      have hH : (HI = none ∧ m' = none ∧ h' = n) ∨ ∃ k H, HI = some (.int k H) ∧ 0 ≤ H ∧ H ≤ ((m'.getD n : Nat) : Int) ∧ h' = H.toNat := by
        rcases hhi with ⟨rfl, rfl⟩ | ⟨v, V, rfl, rfl, hr⟩
        · unfold bHi at hh
          cases m' with
          | none => simp only [Option.some.injEq] at hh; exact .inl ⟨rfl, rfl, hh.symm⟩
          | some x => cases hh
        · right
          unfold bHi at hh
          cases v <;> simp only at hh <;> try cases hh
          cases hr
          split at hh <;> try cases hh
          rename_i hc
          exact ⟨_, _, rfl, hc.1, hc.2, rfl⟩
      have hL : (LO = none ∧ l' = 0) ∨ ∃ k L, LO = some (.int k L) ∧ 0 ≤ L ∧ L ≤ (h' : Int) ∧ l' = L.toNat := by
        rcases hlo with ⟨rfl, rfl⟩ | ⟨v, V, rfl, rfl, hr⟩
        · simp only [bLo, Option.some.injEq] at hl; exact .inl ⟨rfl, hl.symm⟩
        · right
          unfold bLo at hl
          cases v <;> simp only at hl <;> try cases hl
          cases hr
          split at hl <;> try cases hl
          rename_i hc
          exact ⟨_, _, rfl, hc.1, hc.2, rfl⟩
      clear hl hh hm hlo hhi hmx
      have key : (Instr.sliceBounds isSlice n cap LO HI MX).run P w = .ok (l', h', m'.getD cap) w := by
        rcases hM with ⟨rfl, rfl⟩ | ⟨k, M', rfl, hM1, hM2, rfl⟩
        · rcases hH with ⟨rfl, _, rfl⟩ | ⟨k2, H, rfl, hH1, hH2, rfl⟩
          · rcases hL with ⟨rfl, rfl⟩ | ⟨k3, L, rfl, hL1, hL2, rfl⟩
            · simp [Instr.sliceBounds]
            · simp [Instr.sliceBounds, run_sliceBound, hL1, hL2]
          · have hHc : H ≤ (cap : Int) := by simp at hH2; omega
            have eh : (H.toNat : Int) = H := Int.toNat_of_nonneg hH1
            rcases hL with ⟨rfl, rfl⟩ | ⟨k3, L, rfl, hL1, hL2, rfl⟩
            · cases isSlice <;> simp [Instr.sliceBounds, run_sliceBound, hH1, hHc]
            · rw [eh] at hL2
              cases isSlice <;> simp [Instr.sliceBounds, run_sliceBound, hH1, hHc, hL1, eh, hL2]
        · have hMc : M' ≤ (cap : Int) := by omega
          have em : (M'.toNat : Int) = M' := Int.toNat_of_nonneg hM1
          rcases hH with ⟨_, h5, _⟩ | ⟨k2, H, rfl, hH1, hH2, rfl⟩
          · cases h5
          · simp only [Option.getD_some, em] at hH2
            have eh : (H.toNat : Int) = H := Int.toNat_of_nonneg hH1
            rcases hL with ⟨rfl, rfl⟩ | ⟨k3, L, rfl, hL1, hL2, rfl⟩
            · cases isSlice <;> simp [Instr.sliceBounds, run_sliceBound, hM1, hMc, hH1, em, hH2]
            · rw [eh] at hL2
              cases isSlice <;> simp [Instr.sliceBounds, run_sliceBound, hM1, hMc, hH1, em, hH2, hL1, eh, hL2]
      refine ⟨key, ?_, ?_, ?_⟩
      · rcases hL with ⟨_, rfl⟩ | ⟨_, L, _, hL1, hL2, rfl⟩ <;> omega
      · rcases hH with ⟨_, rfl, rfl⟩ | ⟨_, H, _, hH1, hH2, rfl⟩
        · simp
        · omega
      · rcases hM with ⟨rfl, _⟩ | ⟨_, M', _, hM1, hM2, rfl⟩
        · simp
        · simp; omega

theorem slice_run (hT : TEok P T) {t : TypeId} {x v : AV} {X : Value} (hx : RelV M G x X) {lo hi mx : Option AV} {LO HI MX : Option Value} (hlo : RelO M G lo LO) (hhi : RelO M G hi HI) (hmx : RelO M G mx MX)
    (h : slice T t x lo hi mx = some v) (w : World) : ∃ V, (Instr.sliceAt t X LO HI MX).run P w = .ok V w ∧ RelV M G v V := by
  unfold slice at h
  split at h
  · cases h
  · rename_i ti ht
    obtain ⟨i, d, z, ok⟩ := hT.get ht
    have hu := ok.und
    have hk' := ok.k
    split at h <;> try cases h
    · rename_i s hk
      rw [hk] at hk'
      rw [kOf_string hk'] at hu
      split at h <;> try cases h
      split at h <;> try cases h
      rename_i l hh m hb
      cases hx
      have hmx' : MX = none := by rcases hmx with ⟨_, h⟩ | ⟨_, _, h, _⟩ <;> first | exact h | cases h
      subst hmx'
      have hsz : (ByteArray.mk s.toArray).size = s.length := by simp [ByteArray.size]
      obtain ⟨hr, hle1, hle2, hle3⟩ := bounds_run (P := P) (len := (ByteArray.mk s.toArray).size) (cap := (ByteArray.mk s.toArray).size) hlo hhi (.inl ⟨rfl, rfl⟩ : RelO M G none none) hb hsz.symm (by omega) false w
      refine ⟨_, ?_, .str⟩
      rw [run_sliceAt_string w t _ _ _ _ hu]
      simp only [Instr.slice, Sem.run_bind, run_underlying hu, Result.andThen_ok, Option.isSome_none, Bool.false_eq_true, if_false, hr]
      have hex : (ByteArray.mk s.toArray).extract l hh = ⟨((s.take hh).drop l).toArray⟩ := by
        apply ByteArray.ext
        rw [ByteArray.data_extract]
        apply Array.ext'
        simp [List.extract_eq_take_drop, List.drop_take]
      simp [hex]
    · rename_i e hk
      rw [hk] at hk'
      rw [kOf_slice hk'] at hu
      have hu' : P.underlying t = some (.slice (P.elem t)) := by rw [elem_eq hu]; exact hu
      split at h <;> try cases h
      rename_i ei he
      obtain ⟨i2, d2, z2, ok2⟩ := hT.get he
      rw [run_sliceAt_slice w t _ _ _ _ hu']
      split at h <;> try cases h
      · split at h <;> try cases h
        rename_i r hb
        obtain ⟨l, hh, m⟩ := r
        cases hx
        obtain ⟨hr, hle1, hle2, hle3⟩ := bounds_run (P := P) (len := 0) (cap := 0) hlo hhi hmx hb rfl (by omega) true w
        refine ⟨_, ?_, .nils⟩
        rw [run_slice_any w t none 0 0 hu' LO HI MX, hr]
        simp only [Result.andThen_ok, elem_eq hu, ok2.run_sizeOf]
        have e1 : m.getD 0 = 0 := by omega
        have e2 : hh = 0 := by omega
        have e3 : l = 0 := by omega
        rw [e1, e2, e3]
        rfl
      · rename_i n s cs full so
        split at h <;> try cases h
        rename_i hs
        subst hs
        split at h <;> try cases h
        rename_i l hh m hb
        cases hx with
        | fsl0 =>
          rename_i a
          obtain ⟨hr, hle1, hle2, hle3⟩ := bounds_run (P := P) (len := 0) (cap := 0) hlo hhi hmx hb rfl (Nat.le_refl 0) true w
          rw [run_slice_any w t _ 0 0 hu' LO HI MX, hr]
          simp only [Result.andThen_ok, elem_eq hu, ok2.run_sizeOf]
          refine ⟨_, rfl, ?_⟩
          have hmn : m.getD 0 = 0 := by omega
          have e1 : l = 0 := by omega
          have e2 : hh = 0 := by omega
          rw [e1, e2, hmn]
          unfold sliced
          simp only [if_true, Nat.sub_self, Nat.zero_mul, List.drop_nil, List.take_nil]
          exact .fsl0
        | fsl hl hn hf c1 c2 c3 =>
          rename_i b base cap f
          obtain ⟨hr, hle1, hle2, hle3⟩ := bounds_run (P := P) (len := n) (cap := cap) hlo hhi hmx hb rfl hn true w
          rw [run_slice_any w t _ n cap hu' LO HI MX, hr]
          simp only [Result.andThen_ok, elem_eq hu, ok2.run_sizeOf]
          refine ⟨_, rfl, ?_⟩
          have hmn : m.getD n ≤ m.getD cap := by cases m <;> simp; exact hn
          have hlen : ((cs.drop (l * ei.size)).take ((hh - l) * ei.size)).length = (hh - l) * ei.size := by
            rw [List.length_take, List.length_drop, hl, Nat.min_eq_left]
            rw [← Nat.sub_mul]
            exact Nat.mul_le_mul_right _ (by omega)
          have body : ∀ bb, ((hh - l) * ei.size = 0 ∨ bb = base + l * ei.size) → RelV M G (.fsl (hh - l) ei.size ((cs.drop (l * ei.size)).take ((hh - l) * ei.size)) (fullAt m full hh n) so)
              (.slice (some ⟨b, bb, none⟩) (hh - l) (m.getD cap - l)) := by
            intro bb hbb
            refine .fsl (f := fun i => f (l * ei.size + i)) hlen (by omega) ?_ (fun x hx => c1 x (List.mem_of_mem_drop (List.mem_of_mem_take hx))) ?_ ?_
            · intro hfull
              cases m with
              | some m => simp [fullAt] at hfull ⊢; omega
              | none =>
                simp [fullAt] at hfull ⊢
                have := hf hfull.1
                omega
            · intro i hi
              rw [hlen] at hi
              rcases hbb with hbb | hbb
              · omega
              · subst hbb
                have hle : (hh - l) * ei.size + l * ei.size ≤ n * ei.size := by
                  rw [← Nat.add_mul]
                  exact Nat.mul_le_mul_right _ (by omega)
                have := c2 (l * ei.size + i) (by omega)
                rw [← Nat.add_assoc] at this
                exact this
            · intro i x hx
              have hi : i < (hh - l) * ei.size := by have := lt_of_get hx; omega
              rw [List.getElem?_take_of_lt hi, List.getElem?_drop] at hx
              exact c3 _ x hx
          unfold sliced
          by_cases hml : m.getD cap = l
          · rw [if_pos hml]
            refine body base (.inl ?_)
            have : hh - l = 0 := by omega
            rw [this, Nat.zero_mul]
          · rw [if_neg hml]
            simp only [Option.map_some, Addr.add_lit]
            exact body _ (.inr rfl)
      · rename_i r off n s g
        split at h <;> try cases h
        rename_i hs
        obtain ⟨rfl, hnone⟩ := hs
        split at h <;> try cases h
        rename_i l hh m hb
        have hmx' : MX = none := by
          rcases hmx with ⟨_, h⟩ | ⟨_, _, rfl, _⟩
          · exact h
          · simp at hnone
        subst hmx'
        cases hx with
        | sl c1 c2 c3 c4 =>
          rename_i e' a cap
          obtain ⟨hr, hle1, hle2, hle3⟩ := bounds_run (P := P) (len := n) (cap := cap) hlo hhi (.inl ⟨rfl, rfl⟩ : RelO M G none none) hb rfl c3 true w
          have hm : m = none := by
            unfold bounds at hb
            simp only [bMax] at hb
            split at hb <;> try cases hb
            split at hb <;> try cases hb
            rfl
          subst hm
          rw [run_slice_any w t _ n cap hu' LO HI none, hr]
          simp only [Result.andThen_ok, elem_eq hu, ok2.run_sizeOf, Option.getD_none]
          refine ⟨_, rfl, ?_⟩
          simp only [Option.getD_none] at hle2
          unfold sliced
          have fin : ∀ a' : Addr, (e'.gen = g → a' = (⟨e'.blk, e'.base + (off + l * ei.size), none⟩ : Addr) ∨ (cap - l = 0 ∧ a'.spot = none)) → RelV M G (.sl r (off + l * ei.size) (hh - l) ei.size g) (.slice (some a') (hh - l) (cap - l)) := by
            intro a' ha'
            refine .sl c1 c2 (by omega) (fun hg => ?_)
            obtain ⟨h1, h2, h3⟩ := c4 hg
            refine ⟨?_, ?_, ha' hg⟩
            · have : l * ei.size + (hh - l) * ei.size ≤ n * ei.size := by
                rw [← Nat.add_mul]; exact Nat.mul_le_mul_right _ (by omega)
              omega
            · have : l * ei.size + (cap - l) * ei.size ≤ cap * ei.size := by
                rw [← Nat.add_mul]; exact Nat.mul_le_mul_right _ (by omega)
              omega
          by_cases hml : cap = l
          · rw [if_pos hml]
            exact fin a (fun hg => .inr ⟨by omega, by rcases (c4 hg).2.2 with rfl | h3 <;> first | rfl | exact h3.2⟩)
          · rw [if_neg hml]
            simp only [Option.map_some]
            refine fin _ (fun hg => ?_)
            obtain ⟨_, _, h3⟩ := c4 hg
            rcases h3 with rfl | h3
            · left; rw [Addr.add_lit, Nat.add_assoc]
            · right
              refine ⟨by omega, ?_⟩
              unfold Addr.add
              split
              · exact h3.2
              · rfl

end
end Go.Proofs.YtgkalmmlgkaabaaGreat.Am

namespace Go.Proofs.YtgkalmmlgkaabaaGreat.Am

section
variable {P : Program} {T : TE} {M : Mem} {G : List GE}

theorem relO_map {ρ : Operand → AV} {σ : Operand → Value} (hρ : ∀ x, RelV M G (ρ x) (σ x)) (x : Option Operand) : RelO M G (x.map ρ) (x.map σ) := by
  cases x with
  | none => exact .inl ⟨rfl, rfl⟩
  | some x => exact .inr ⟨_, _, rfl, rfl, hρ x⟩

theorem map_rel {ρ : Operand → AV} {σ : Operand → Value} (hρ : ∀ x, RelV M G (ρ x) (σ x)) (l : List Operand) :
    (l.map ρ).length = (l.map σ).length ∧ ∀ (i : Nat) (x : AV) (y : Value), (l.map ρ)[i]? = some x → (l.map σ)[i]? = some y → RelV M G x y := by
  refine ⟨by simp, ?_⟩
  intro i x y hx hy
  simp only [List.getElem?_map] at hx hy
  cases hg : l[i]? with
  | none => rw [hg] at hx; simp at hx
  | some a =>
    rw [hg] at hx hy
    simp at hx hy
    subst hx; subst hy
    exact hρ a

theorem arr_map (l : Array Operand) (σ : Operand → Value) : l.map σ = ⟨l.toList.map σ⟩ := by
  apply Array.ext'; simp

theorem pureOp_sim (hT : TEok P T) {ρ : Operand → AV} {σ : Operand → Value} (hρ : ∀ x, RelV M G (ρ x) (σ x)) {objs : List Obj} {w : World} (hI : Inv M G objs w) (o : Oper) {v : AV} (h : pureOp T ρ o.op = some v) (fl : Nat) :
    ∃ V w' M', (execOp σ o).run P w = .ok (.value V) w' ∧ RelV M' G v V ∧ Inv M' G objs w' ∧ Ext fl M G w M' G w' := by
  have still : ∀ {V : Value}, (execOp σ o).run P w = .ok (.value V) w → RelV M G v V → ∃ V w' M', (execOp σ o).run P w = .ok (.value V) w' ∧ RelV M' G v V ∧ Inv M' G objs w' ∧ Ext fl M G w M' G w' :=
    fun hr hv => ⟨_, w, M, hr, hv, hI, Ext.refl _ _ _ _⟩
  obtain ⟨dst, op, ty, pos, after, guard⟩ := o
  simp only at h
  unfold pureOp at h
  split at h
  · simp only [Option.some.injEq] at h; subst h; exact still rfl (hρ _)
  · simp only [Option.some.injEq] at h; subst h; exact still rfl (hρ _)
  · rename_i c a b
    split at h <;> try cases h
    rename_i cb hc
    have hcr := hρ c
    rw [hc] at hcr
    have hcv := boolRel hcr
    cases cb
    · refine still (V := σ b) ?_ (hρ b)
      simp [execOp, hcv, asBool]
    · refine still (V := σ a) ?_ (hρ a)
      simp [execOp, hcv, asBool]
  · rename_i x
    obtain ⟨hr, hX⟩ := nilCheck_rel (hρ x) h
    refine still (V := σ x) ?_ hr
    rcases hX with ⟨a, ha⟩ | ⟨f, a, b, ha⟩ | ⟨t, u, ha⟩ <;> simp [execOp, ha]
  · rename_i op t x y yt
    obtain ⟨V, hV, hr⟩ := binOp_run hT (hρ x) (hρ y) op h w
    refine still (V := V) ?_ hr
    simp only [execOp, Sem.run_bind] at hV ⊢
    rw [hV]; rfl
  · rename_i op t x
    obtain ⟨V, hV, hr⟩ := unOp_run (P := P) (hρ x) op h w
    refine still (V := V) ?_ hr
    simp only [execOp, Sem.run_bind, hV]; rfl
  · rename_i t x f
    obtain ⟨V, hV, hr⟩ := field_run hT (hρ x) f h w
    refine still (V := V) ?_ hr
    simp only [execOp, Sem.run_bind, hV]; rfl
  · rename_i t x f
    obtain ⟨V, hV, hr⟩ := fieldAddr_run hT (hρ x) f h w
    refine still (V := V) ?_ hr
    simp only [execOp, Sem.run_bind, hV]; rfl
  · rename_i x i
    split at h <;> try cases h
    rename_i vs hx
    have hxr := hρ x
    rw [hx] at hxr
    generalize hX : σ x = X at hxr
    cases hxr with
    | tuple hl h2 =>
      rename_i xs
      have hlt : i < xs.length := hl ▸ lt_of_get h
      refine still (V := xs[i]) ?_ (h2 i v _ h (List.getElem?_eq_getElem hlt))
      simp [execOp, hX, Instr.extract, hlt]
  · rename_i t parts
    obtain ⟨V, hV, hr⟩ := build_run hT hρ parts h w
    refine still (V := V) ?_ hr
    simp only [execOp, Sem.run_bind, hV]; rfl
  · rename_i t n parts
    obtain ⟨V, w', M', hV, hr, hI', hE⟩ := buildSlice_run hT hρ parts hI h fl
    refine ⟨V, w', M', ?_, hr, hI', hE⟩
    simp only [execOp, Sem.run_bind, hV]; rfl
  · rename_i f first caps
    simp only [Option.some.injEq] at h; subst h
    obtain ⟨l1, r1⟩ := map_rel hρ first.toList
    obtain ⟨l2, r2⟩ := map_rel hρ caps.toList
    refine still (V := .func (.func f) ⟨first.toList.map σ⟩ ⟨caps.toList.map σ⟩) ?_ (.fn l1 l2 r1 r2)
    simp only [execOp, Instr.makeFunc, Sem.run_bind, Sem.run_pure, Result.andThen_ok, arr_map]
  · rename_i t x
    split at h <;> try cases h
    rename_i ti ht
    obtain ⟨i, d, z, ok⟩ := hT.get ht
    have hcon : ti.k ≠ .iface → P.concrete t = true := by
      intro hne
      unfold Program.concrete
      rw [ok.und]
      have hk := ok.k
      cases d <;> simp only
      simp only [kOf, Option.some.injEq] at hk
      exact absurd hk.symm hne
    split at h
    · cases h
    · cases h
    · rename_i h1 h2
      simp only [Option.some.injEq] at h; subst h
      refine still (V := .iface t (σ x)) ?_ (.iface (hρ x))
      simp only [execOp, Sem.run_bind, run_makeInterface w t (σ x) (hcon (fun e => h1 e))]
      rfl
  · rename_i t x i
    obtain ⟨V, hV, hr⟩ := index_run hT (hρ x) (hρ i) h w
    refine still (V := V) ?_ hr
    simp only [execOp, Sem.run_bind, hV]; rfl
  · rename_i t x i
    obtain ⟨V, hV, hr⟩ := indexAddr_run hT (hρ x) (hρ i) h w
    refine still (V := V) ?_ hr
    simp only [execOp, Sem.run_bind, hV]; rfl
  · rename_i t x lo hi mx
    obtain ⟨V, hV, hr⟩ := slice_run hT (hρ x) (relO_map hρ lo) (relO_map hρ hi) (relO_map hρ mx) h w
    refine still (V := V) ?_ hr
    simp only [execOp, Sem.run_bind, hV]; rfl
  · rename_i c
    obtain ⟨callee, args, argTypes⟩ := c
    simp only at h
    split at h
    · split at h <;> try cases h
      rename_i hcal t x ht hx
      obtain ⟨V, hV, hr⟩ := len_run hT (hρ x) argTypes ty ht (args.map σ) (by simp [hx]) h w
      refine still (V := V) ?_ hr
      simp only [execOp, resolve, invoke, builtin, Sem.run_bind, Sem.run_pure, Result.andThen_ok, hV]
    · split at h <;> try cases h
      rename_i x l hl
      obtain ⟨l1, r1⟩ := map_rel hρ l
      obtain ⟨V, hV, hr⟩ := foldA_run (P := P) (M := M) (G := G) (f := max2) (g := Builtin.max2) (fun a b c w => max2_run a b c w) (l.map ρ) (l.map σ) (ρ x) (σ x) v l1 r1 (hρ x) h w
      refine still (V := V) ?_ hr
      have hm : (args.map σ).toList = σ x :: l.map σ := by simp [hl]
      simp only [execOp, resolve, invoke, builtin, Sem.run_bind, Sem.run_pure, Result.andThen_ok, Builtin.max_, hm, hV]
    · split at h <;> try cases h
      rename_i x l hl
      obtain ⟨l1, r1⟩ := map_rel hρ l
      obtain ⟨V, hV, hr⟩ := foldA_run (P := P) (M := M) (G := G) (f := min2) (g := Builtin.min2) (fun a b c w => min2_run a b c w) (l.map ρ) (l.map σ) (ρ x) (σ x) v l1 r1 (hρ x) h w
      refine still (V := V) ?_ hr
      have hm : (args.map σ).toList = σ x :: l.map σ := by simp [hl]
      simp only [execOp, resolve, invoke, builtin, Sem.run_bind, Sem.run_pure, Result.andThen_ok, Builtin.min_, hm, hV]
    · cases h
  · cases h

theorem cellsAt_run {objs : List Obj} {w : World} (hI : Inv M G objs w) {a : AV} {X : Value} (ha : RelV M G a X) {size : Nat} {cs : List AV} (h : cellsAt objs a size = some cs) :
    ∃ A ys, X = .pointer (some A) ∧ ys.length = size ∧ (∀ (j : Nat) (y : Value), ys[j]? = some y → w.cell? (A.add j) = some y) ∧ RelL M G cs ys := by
  unfold cellsAt at h
  split at h
  · rename_i r off g
    split at h <;> try cases h
    rename_i c gen ho
    split at h <;> try cases h
    rename_i hc
    obtain ⟨rfl, hle⟩ := hc
    obtain ⟨e, he, hrel⟩ := hI.get ho
    obtain ⟨e1, e2, e3, arr, el, e4, e5, e6, e7⟩ := hrel
    cases ha with
    | ptr h1 h2 h3 =>
      rw [h1] at he
      cases he
      have hA := h3 e1
      subst hA
      refine ⟨_, (arr.toList.drop (e.base + off)).take size, rfl, ?_, ?_, ?_, ?_, ?_⟩
      · simp; omega
      · intro j y hy
        have hj : j < size := by have := lt_of_get hy; simp at this; omega
        rw [List.getElem?_take_of_lt hj, List.getElem?_drop] at hy
        rw [Addr.add_lit]
        simp only [World.cell?, e4]
        simpa using hy
      · simp; omega
      · exact fun x hx => e6 x (List.mem_of_mem_drop (List.mem_of_mem_take hx))
      · intro i x y hx hy
        have hi : i < size := by have := lt_of_get hx; simp at this; omega
        rw [List.getElem?_take_of_lt hi, List.getElem?_drop] at hx hy
        obtain ⟨y', hy', hr⟩ := e7 _ x hx
        have : arr.toList[e.base + off + i]? = some y' := by rw [← Nat.add_assoc] at hy'; simpa using hy'
        rw [this] at hy
        cases hy
        exact hr
  · rename_i cs' off
    split at h <;> try cases h
    rename_i hle
    cases ha with
    | fptr h1 h2 h3 =>
      rename_i b base f
      refine ⟨_, (List.range size).map (fun j => f (off + j)), rfl, by simp, ?_, by simp; omega, fun x hx => h1 x (List.mem_of_mem_drop (List.mem_of_mem_take hx)), ?_⟩
      · intro j y hy
        have hj : j < size := by have := lt_of_get hy; simpa using this
        simp [hj] at hy
        subst hy
        rw [Addr.add_lit, Nat.add_assoc]
        exact hI.mem _ _ _ (h2 _ (by omega))
      · intro i x y hx hy
        have hi : i < size := by have := lt_of_get hx; simp at this; omega
        rw [List.getElem?_take_of_lt hi, List.getElem?_drop] at hx
        simp [hi] at hy
        subst hy
        exact h3 _ x hx
  · cases h

theorem load_run (hT : TEok P T) {objs : List Obj} {w : World} (hI : Inv M G objs w) {t : TypeId} {a v : AV} {X : Value} (ha : RelV M G a X) (h : load T objs t a = some v) :
    ∃ A V, X = .pointer (some A) ∧ (loadVar t A).run P w = .ok V w ∧ RelV M G v V := by
  unfold load at h
  split at h
  · cases h
  · rename_i ti ht
    obtain ⟨i, d, z, ok⟩ := hT.get ht
    split at h
    · cases h
    · rename_i cs hcs
      obtain ⟨A, ys, rfl, hl, hc, hr⟩ := cellsAt_run hI ha hcs
      split at h
      · rename_i hag
        simp only [Option.some.injEq] at h; subst h
        refine ⟨A, .agg ⟨ys⟩, rfl, ?_, .agg hr.1 hr.2.1 hr.2.2⟩
        have := run_loadCells_list (P := P) w A ys hc
        rw [hl] at this
        simp only [loadVar, Sem.run_bind, ok.run_isAgg, hag, Result.andThen_ok, if_true, ok.run_sizeOf, this, Sem.run_pure]
      · rename_i hag
        split at h <;> try cases h
        rename_i hs
        have hlt : 0 < ys.length := by omega
        refine ⟨A, ys[0], rfl, ?_, hr.2.2 0 v _ h (List.getElem?_eq_getElem hlt)⟩
        have h0 := hc 0 _ (List.getElem?_eq_getElem hlt)
        rw [Addr.add_zero'] at h0
        have hag' : ti.agg = false := by simpa using hag
        simp [loadVar, ok.run_isAgg, hag', h0]

end
end Go.Proofs.YtgkalmmlgkaabaaGreat.Am
