/- The value machine V: frozen data, values, objects, code, and its evaluator. Plain definitions; nothing is claimed here. -/
import GoSem.Core.Code
import GoSem.Core.View
set_option linter.unusedSimpArgs false
set_option linter.unusedVariables false
namespace Go.V

/-- The kind of a map's keys. -/
inductive KT where
  | int (k : IntKind)
  | str
  | bool
  deriving DecidableEq, Inhabited

inductive MKey where
  | int (n : Int)
  | str (s : ByteArray)
  | bool (b : Bool)
  deriving DecidableEq

/-- Frozen data. A slice's elements: one value each (a struct: 'agg' of its cells). -/
inductive PV where
  | int (k : IntKind) (n : Int)
  | bool (b : Bool)
  | str (s : ByteArray)
  | slice (sz : Nat) (xs : List PV)
  | agg (cs : List PV)
  | map (kt : KT) (ks : List MKey) (vs : List PV)
  | fn (f : FuncId)
  | nilp
  deriving Inhabited

def PV.cells : PV → List PV
  | .agg cs => cs
  | v => [v]

/-- No slice and no map inside: a struct of scalars, or a scalar. -/
def PV.flat0 : PV → Bool
  | .int _ _ | .bool _ | .str _ | .fn _ | .nilp => true
  | _ => false
def PV.flat : PV → Bool
  | .agg cs => cs.all PV.flat0
  | d => d.flat0

inductive Id where
  | slot (s j : Nat)
  | arg (i j : Nat)
  deriving DecidableEq

inductive VVal where
  | p (d : PV)
  | own (id : Id) (ver off len : Nat)
  | ptr (id : Id) (ver off : Nat)
  | vptr (cs : List PV) (off : Nat)
  | eptr (id : Id) (ver i off : Nat)
  | mref (id : Id) (ver : Nat)
  | fn (f : FuncId) (caps : List VVal)
  | agg (cs : List VVal)
  | tup (vs : List VVal)
  | fresh (sz : Nat) (xs : List PV)
  | boxed (cs : List VVal)
  | undef
  | dead
  deriving Inhabited

inductive Ob where
  | box (cs : List VVal)
  | arr (sz : Nat) (xs : List PV)
  | map (kt : KT) (ks : List MKey) (vs : List PV)
  | gone
  deriving Inhabited

abbrev VHeap := Id → Option (Nat × Ob)

def VHeap.upd (h : VHeap) (id : Id) (o : Nat × Ob) : VHeap := fun i => if i = id then some o else h i
def VHeap.upds (h : VHeap) : List (Id × Nat × Ob) → VHeap
  | [] => h
  | (id, o) :: us => (VHeap.upd h id o).upds us

/-- The version that a new object at this place gets. -/
def nv : Option (Nat × Ob) → Nat
  | none => 0
  | some (v, _) => v + 1

/-- A mark that keeps simp out of what it names. -/
structure Tok {α : Type} (a : α) : Type where

/-- Option's bind, under a name of its own (simp is to look at the first part alone). -/
def ob {α β : Type} (x : Option α) (f : α → Option β) (_u : Tok f := ⟨⟩) : Option β := match x with | some a => f a | none => none

/-- A condition that must hold. -/
def gd {α : Type} (c : Prop) [Decidable c] (x : Option α) (_u : Tok x := ⟨⟩) : Option α := if c then x else none
/-- A branch. -/
def br {α : Type} (b : Bool) (x y : α) (_u : Tok x := ⟨⟩) (_v : Tok y := ⟨⟩) : α := if b then x else y

inductive VArg where
  | v (s : Nat)
  | t (s : Nat)
  | c (d : PV)
  deriving Inhabited

/-- A cell of a zero value. -/
inductive ZC where
  | c (d : PV)
  | nil (sz : Nat)
  deriving Inhabited

/-- A cell of a struct literal: a zero cell, or cell j of an operand. -/
inductive BC where
  | z (z : ZC)
  | a (x : VArg) (j n : Nat)
  deriving Inhabited

inductive VOp where
  | move (x : VArg)
  | newArr (sz : Nat)
  | pick (c a b : VArg)
  | alloc (zero : List ZC)
  | box (n : Nat) (x : VArg)
  | build (cells : List BC)
  | buildSlice (sz : Nat) (parts : List VArg)
  | buildFz (sz : Nat) (parts : List VArg)
  | load (agg : Option Nat) (a : VArg)
  | store (n : Nat) (a x : VArg)
  | fieldAddr (off : Nat) (x : VArg)
  | field (off : Nat) (agg : Option Nat) (x : VArg)
  | indexAddr (sz : Nat) (x i : VArg)
  | indexStr (x i : VArg)
  | bin (op : BinOp) (x y : VArg)
  | eqAgg (neg : Bool) (kts : List KT) (x y : VArg)
  | not (x : VArg)
  | neg (x : VArg)
  | len (x : VArg)
  | lenStr (x : VArg)
  | eqB (neg : Bool) (x y : VArg)
  | append (sz bytes : Nat) (s x : VArg)
  | appendNil (sz bytes : Nat) (x : VArg)
  | slice (str : Bool) (sz : Nat) (lo hi mx : Option VArg) (x : VArg)
  | lookup (ok : Bool) (kt : KT) (zero : PV) (m k : VArg)
  | mapUpdate (kt : KT) (m k x : VArg)
  | makeMap (kt : KT)
  | mapLen (x : VArg)
  | extract (x : VArg) (i : Nat)
  | minmax (isMax : Bool) (xs : List VArg)
  | conv (k : IntKind) (x : VArg)
  | strBytes (x : VArg)
  | nilCheck (x : VArg)
  | makeFunc (f : FuncId) (caps : List VArg)
  | call (f : FuncId) (args : List VArg)
  | callv (x : VArg) (args : List VArg)
  | callW (f : FuncId) (args : List VArg)
  | callvW (x : VArg) (args : List VArg)
  | make (sz bytes : Nat) (zero : PV) (n : VArg)
  | copy (sz : Nat) (a x : VArg)
  deriving Inhabited

inductive VDst where
  | v (s : Nat)
  | t (s : Nat)
  | none
  deriving Inhabited, DecidableEq

structure VOper where
  dst : VDst
  op : VOp
  guard : Option (VArg × Bool) := .none
  deriving Inhabited

/-- 'fz': the slots whose arrays are frozen ahead of the region; 'fp': the pairs of operations whose footprints are held against one another. -/
structure VRegion where
  ops : List VOper
  fz : List Nat := []
  fp : List (Nat × Nat) := []
  deriving Inhabited

inductive VCode where
  | skip
  | region (r : VRegion)
  | seq (a b : VCode)
  | cond (c : VArg) (thn els : VCode)
  | block (id : Nat) (c : VCode)
  | loop (c : VCode)
  | exit (id : Nat)
  | ret
  | mv (a b : Id) (c : VCode)
  deriving Inhabited

inductive VRet where
  | tmp (x : VArg)
  | cell (x : VArg) (agg : Option Nat)
  deriving Inhabited

structure VFunc where
  vs : List Nat
  nparams : Nat
  body : VCode
  rets : List VRet
  deriving Inhabited

structure St where
  pe : Nat → VVal
  h : VHeap

inductive VExit where
  | normal
  | exit (id : Nat)
  | ret
  deriving DecidableEq

abbrev Sig := FuncId → List VVal → List Ob → Option (VVal × List Ob)

/-! ### values -/

def vcells : VVal → List VVal
  | .agg cs => cs
  | v => [v]

def ofCells (agg : Option Nat) (cs : List VVal) (off : Nat) : Option VVal :=
  match agg with
  | none => cs[off]?
  | some n => gd (off + n ≤ cs.length) (some (.agg ((cs.drop off).take n)))

/-- The cells behind a pointer, and the place among them. -/
def vrow (h : VHeap) : VVal → Option (List VVal × Nat)
  | .ptr id ver off => match h id with
    | some (v, .box cs) => gd (v = ver) (some (cs, off))
    | _ => none
  | .vptr cs off => some (cs.map .p, off)
  | .eptr id ver i off => match h id with
    | some (v, .arr _ xs) => gd (v = ver) (ob xs[i]? fun x => some (x.cells.map .p, off))
    | _ => none
  | _ => none

def vload (h : VHeap) (agg : Option Nat) (a : VVal) : Option VVal := ob (vrow h a) fun r => ofCells agg r.1 r.2

def unP : VVal → Option PV
  | .p d => some d
  | .fn f [] => some (.fn f)
  | _ => none

def mapO {α β : Type} (f : α → Option β) : List α → Option (List β)
  | [] => some []
  | x :: xs => ob (f x) fun y => ob (mapO f xs) fun ys => some (y :: ys)

/-- A value as frozen data. -/
def freezeP : VVal → Option PV
  | .agg cs => ob (mapO unP cs) fun ds => some (.agg ds)
  | v => unP v

/-- The elements that a slice value shows, with their size. -/
def velems (h : VHeap) : VVal → Option (Nat × List PV)
  | .p (.slice sz xs) => some (sz, xs)
  | .own id ver off len => match h id with
    | some (v, .arr sz xs) => gd (v = ver) (some (sz, (xs.drop off).take len))
    | _ => none
  | _ => none

def vlen : VVal → Option Nat
  | .p (.slice _ xs) => some xs.length
  | .own _ _ _ len => some len
  | _ => none
def vlenS : VVal → Option Nat
  | .p (.str s) => some s.size
  | _ => none

def splice {α : Type} (cs : List α) (off : Nat) (vs : List α) : List α := cs.take off ++ vs ++ cs.drop (off + vs.length)

/-- An element with some of its cells replaced. -/
def setCells (x : PV) (off : Nat) (ds : List PV) : PV :=
  match x with
  | .agg cs => .agg (splice cs off ds)
  | y => ds.headD y

/-- A value that lies in one cell. -/
def solid : VVal → Bool
  | .p _ | .own _ _ _ _ | .ptr _ _ _ | .vptr _ _ | .eptr _ _ _ _ | .mref _ _ | .fn _ _ => true
  | _ => false

def vstoreAt (h : VHeap) (n : Nat) (vs : List VVal) : VVal → Option (List (Id × Nat × Ob))
  | .ptr id ver off => match h id with
    | some (v, .box cs) => gd (v = ver) (gd (off + n ≤ cs.length) (some [(id, v, .box (splice cs off vs))]))
    | _ => none
  | .eptr id ver i off => match h id with
    | some (v, .arr sz xs) => gd (v = ver) (ob xs[i]? fun x0 => ob (mapO unP vs) fun ds => gd (off + n ≤ x0.cells.length) (some [(id, v, .arr sz (xs.set i (setCells x0 off ds)))]))
    | _ => none
  | _ => none
def vstore (h : VHeap) (n : Nat) (a x : VVal) : Option (List (Id × Nat × Ob)) :=
  gd ((vcells x).length = n) (gd ((vcells x).all solid = true) (vstoreAt h n (vcells x) a))

def vindexAt (h : VHeap) (sz i : Nat) : VVal → Option VVal
  | .p (.slice sz' xs) => gd (sz' = sz) (ob xs[i]? fun x => some (.vptr x.cells 0))
  | .own id ver off len => match h id with
    | some (v, .arr sz' _) => gd (v = ver) (gd (sz' = sz) (gd (i < len) (some (.eptr id ver (off + i) 0))))
    | _ => none
  | _ => none
def vindex (h : VHeap) (sz : Nat) (s : VVal) (n : Int) : Option VVal := gd (0 ≤ n) (vindexAt h sz n.toNat s)

def zcell (d : Nat) (h : VHeap) (j : Nat) : ZC → VVal × List (Id × Nat × Ob)
  | .c x => (.p x, [])
  | .nil sz => (.own (.slot d (j + 1)) (nv (h (.slot d (j + 1)))) 0 0, [(.slot d (j + 1), nv (h (.slot d (j + 1))), .arr sz [])])

def zcells (d : Nat) : VHeap → Nat → List ZC → List VVal × List (Id × Nat × Ob)
  | _, _, [] => ([], [])
  | h, j, z :: zs => ((zcell d h j z).1 :: (zcells d (h.upds (zcell d h j z).2) (j + 1) zs).1, (zcell d h j z).2 ++ (zcells d (h.upds (zcell d h j z).2) (j + 1) zs).2)

def bcells (look : VArg → Option VVal) (d : Nat) : VHeap → Nat → List BC → Option (List VVal × List (Id × Nat × Ob))
  | _, _, [] => some ([], [])
  | h, j, .z z :: bs => ob (bcells look d (h.upds (zcell d h j z).2) (j + 1) bs) fun rs => some ((zcell d h j z).1 :: rs.1, (zcell d h j z).2 ++ rs.2)
  | h, j, .a x i n :: bs => ob (look x) fun v => gd ((vcells v).length = n) <| ob (vcells v)[i]? fun c => gd (solid c = true) <| ob (bcells look d h (j + 1) bs) fun rs => some (c :: rs.1, rs.2)

/-! ### integers -/

def ibin (k : IntKind) (a b : Int) : BinOp → Option VVal
  | .add => some (.p (.int k (k.wrap (a + b))))
  | .sub => some (.p (.int k (k.wrap (a - b))))
  | .mul => some (.p (.int k (k.wrap (a * b))))
  | .quo => gd (b ≠ 0) (some (.p (.int k (k.wrap (a.tdiv b)))))
  | .rem => gd (b ≠ 0) (some (.p (.int k (a.tmod b))))
  | .and => some (.p (.int k (k.wrap (BitVec.ofInt k.bits a &&& BitVec.ofInt k.bits b).toNat)))
  | .or => some (.p (.int k (k.wrap (BitVec.ofInt k.bits a ||| BitVec.ofInt k.bits b).toNat)))
  | .xor => some (.p (.int k (k.wrap (BitVec.ofInt k.bits a ^^^ BitVec.ofInt k.bits b).toNat)))
  | .andNot => some (.p (.int k (k.wrap (BitVec.ofInt k.bits a &&& ~~~ BitVec.ofInt k.bits b).toNat)))
  | .eql => some (.p (.bool (a == b)))
  | .neq => some (.p (.bool (a != b)))
  | .lss => some (.p (.bool (decide (a < b))))
  | .leq => some (.p (.bool (decide (a ≤ b))))
  | .gtr => some (.p (.bool (decide (b < a))))
  | .geq => some (.p (.bool (decide (b ≤ a))))
  | _ => none
def sbin (a b : ByteArray) : BinOp → Option VVal
  | .eql => some (.p (.bool (decide (a = b))))
  | .neq => some (.p (.bool (!decide (a = b))))
  | .add => gd (a.size + b.size ≤ 9223372036854775807) (some (.p (.str (a ++ b))))
  | _ => none
def vbin (op : BinOp) : VVal → VVal → Option VVal
  | .p (.int k a), .p (.int k' b) => gd (k = k') (ibin k a b op)
  | .p (.str a), .p (.str b) => sbin a b op
  | _, _ => none

/-- Equality of scalars of one kind. -/
def eq0 : KT → PV → PV → Option Bool
  | .int k, .int k' a, .int k'' b => gd (k' = k) (gd (k'' = k) (some (a == b)))
  | .bool, .bool a, .bool b => some (a == b)
  | .str, .str a, .str b => some (decide (a = b))
  | _, _, _ => none

def eqAll : List KT → List PV → List PV → Option Bool
  | [], [], [] => some true
  | k :: ks, x :: xs, y :: ys => ob (eq0 k x y) fun b => ob (eqAll ks xs ys) fun c => some (b && c)
  | _, _, _ => none

def mm2 (isMax : Bool) : VVal → VVal → Option VVal
  | .p (.int k a), .p (.int k' b) => gd (k = k') (some (.p (.int k (if isMax then max a b else min a b))))
  | _, _ => none
def mmL (isMax : Bool) : VVal → List VVal → Option VVal
  | v, [] => some v
  | v, u :: us => ob (mm2 isMax v u) fun r => mmL isMax r us
def minmaxI (isMax : Bool) : List VVal → Option VVal
  | [] => none
  | v :: vs => mmL isMax v vs

def mkey : KT → VVal → Option MKey
  | .int k, .p (.int k' n) => gd (k = k') (some (.int n))
  | .str, .p (.str s) => some (.str s)
  | .bool, .p (.bool b) => some (.bool b)
  | _, _ => none

def mget : List MKey → List PV → MKey → Option PV
  | k :: ks, v :: vs, k' => if k' = k then some v else mget ks vs k'
  | _, _, _ => none

def mput : List MKey → List PV → MKey → PV → List MKey × List PV
  | k :: ks, v :: vs, k', v' => if k' = k then (k :: ks, v' :: vs) else
      let r := mput ks vs k' v'
      (k :: r.1, v :: r.2)
  | _, _, k', v' => ([k'], [v'])

/-- The entries that a map value shows. -/
def ventries (h : VHeap) : VVal → Option (KT × List MKey × List PV)
  | .p (.map kt ks vs) => some (kt, ks, vs)
  | .mref id ver => match h id with
    | some (v, .map kt ks vs) => gd (v = ver) (some (kt, ks, vs))
    | _ => none
  | _ => none

/-- Frozen data as a value of the machine. -/
def thaw : PV → VVal
  | .agg cs => .agg (cs.map .p)
  | d => .p d

def vlookup (ok : Bool) (zero : PV) (ks : List MKey) (vs : List PV) (k : MKey) : VVal :=
  let r := mget ks vs k
  let v := thaw (r.getD zero)
  if ok then .tup [v, .p (.bool r.isSome)] else v

def vappend (h : VHeap) (sz bytes : Nat) (s x : VVal) : Option (VVal × List (Id × Nat × Ob)) :=
  match s with
  | .own id ver 0 len => match h id with
    | some (v, .arr sz' xs) => gd (v = ver) <| gd (sz' = sz) <| gd (len ≤ xs.length) <|
        ob (velems h x) fun r => gd (r.1 = sz ∨ r.2 = []) <| gd ((len + r.2.length) * bytes ≤ 140737488355328) <| gd (len + r.2.length ≤ 9223372036854775807) <|
          some (.own id (v + 1) 0 (len + r.2.length), [(id, v + 1, .arr sz (xs.take len ++ r.2))])
    | _ => none
  | _ => none

def vappendNil (d : Nat) (h : VHeap) (sz bytes : Nat) (x : VVal) : Option (VVal × List (Id × Nat × Ob)) :=
  ob (velems h x) fun r => gd (r.1 = sz ∨ r.2 = []) <| gd (r.2.length * bytes ≤ 140737488355328) <| gd (r.2.length ≤ 9223372036854775807) <|
    some (.own (.slot d 0) (nv (h (.slot d 0))) 0 r.2.length, [(.slot d 0, nv (h (.slot d 0)), .arr sz r.2)])

def natOf : VVal → Option Nat
  | .p (.int _ n) => gd (0 ≤ n) (some n.toNat)
  | _ => none

def optNat (look : VArg → Option VVal) (d : Nat) : Option VArg → Option Nat
  | none => some d
  | some x => ob (look x) fun v => natOf v

/-- 's[lo:hi]'. -/
def vcut (h : VHeap) (sz l m : Nat) : VVal → Option (VVal × List (Id × Nat × Ob))
  | .p (.slice sz' xs) => gd (sz' = sz) (some (.p (.slice sz ((xs.drop l).take (m - l))), []))
  | .own id ver off _ => match h id with
    | some (v, .arr sz' _) => gd (v = ver) (gd (sz' = sz) (some (.own id ver (off + l) (m - l), [])))
    | _ => none
  | _ => none
/-- 's[l:l:l]': a new empty array. -/
def vcut0 (d : Nat) (h : VHeap) (sz : Nat) : Option (VVal × List (Id × Nat × Ob)) :=
  some (.own (.slot d 0) (nv (h (.slot d 0))) 0 0, [(.slot d 0, nv (h (.slot d 0)), .arr sz [])])
def vcut3 (d : Nat) (h : VHeap) (look : VArg → Option VVal) (sz l m : Nat) (s : VVal) : Option VArg → Option (VVal × List (Id × Nat × Ob))
  | none => vcut h sz l m s
  | some x => ob (look x) fun v => ob (natOf v) fun k => gd (l = m) (gd (k = m) (vcut0 d h sz))
def vcutS (l m : Nat) : VVal → Option (VVal × List (Id × Nat × Ob))
  | .p (.str b) => some (.p (.str (b.extract l m)), [])
  | _ => none
def vsliceS (look : VArg → Option VVal) (lo hi : Option VArg) (s : VVal) : Option (VVal × List (Id × Nat × Ob)) :=
  ob (vlenS s) fun n => ob (optNat look 0 lo) fun l => ob (optNat look n hi) fun m => gd (l ≤ m) (gd (m ≤ n) (vcutS l m s))
def vslice (d : Nat) (h : VHeap) (look : VArg → Option VVal) (sz : Nat) (lo hi mx : Option VArg) (s : VVal) : Option (VVal × List (Id × Nat × Ob)) :=
  ob (vlen s) fun n => ob (optNat look 0 lo) fun l => ob (optNat look n hi) fun m => gd (l ≤ m) (gd (m ≤ n) (vcut3 d h look sz l m s mx))

/-! ### calls -/

def alive (h : VHeap) (id : Id) (ver : Nat) : Bool :=
  match h id with
  | some (v, _) => decide (v = ver)
  | none => false

/-- Position of an object among the roots of a call. -/
def posOf (R : List Id) (id : Id) : Option Nat := match R with
  | [] => none
  | r :: rs => if r = id then some 0 else (posOf rs id).map (· + 1)

def ptrs0 : VVal → List Id
  | .ptr id _ _ => [id]
  | _ => []
def ptrs1 : VVal → List Id
  | .fn _ caps => caps.flatMap ptrs0
  | .agg cs => cs.flatMap ptrs0
  | v => ptrs0 v
def objPtrs (h : VHeap) (id : Id) : List Id :=
  match h id with
  | some (_, .box cs) => cs.flatMap ptrs1
  | _ => []

def addNew (R : List Id) : List Id → List Id
  | [] => R
  | i :: is => addNew (if R.contains i then R else R ++ [i]) is

/-- The boxes that the arguments lead to (three rounds). -/
def roots (h : VHeap) (args : List VVal) : List Id :=
  let r0 := addNew [] (args.flatMap ptrs1)
  if r0.isEmpty then [] else
  let r1 := addNew r0 (r0.flatMap (objPtrs h))
  let r2 := addNew r1 (r1.flatMap (objPtrs h))
  r2

/-- A value as a callee sees it. -/
def ext0 (R : List Id) (h : VHeap) : VVal → Option VVal
  | .p d => some (.p d)
  | .own id ver off len => ob (velems h (.own id ver off len)) fun r => some (.p (.slice r.1 r.2))
  | .mref id ver => ob (ventries h (.mref id ver)) fun r => some (.p (.map r.1 r.2.1 r.2.2))
  | .ptr id ver off => gd (alive h id ver = true) (ob (posOf R id) fun i => some (.ptr (.arg i 0) 0 off))
  | .vptr cs off => some (.vptr cs off)
  | .eptr id ver i off => match h id with
    | some (v, .arr _ xs) => gd (v = ver) (ob xs[i]? fun x => some (.vptr x.cells off))
    | _ => none
  | _ => none
def ext1 (R : List Id) (h : VHeap) : VVal → Option VVal
  | .fn f caps => ob (mapO (ext0 R h) caps) fun cs => some (.fn f cs)
  | .agg cs => ob (mapO (ext0 R h) cs) fun cs => some (.agg cs)
  | v => ext0 R h v

/-- Does a value lend what is not frozen? -/
def lends0 : VVal → Bool
  | .own _ _ _ _ | .mref _ _ | .eptr _ _ _ _ => true
  | _ => false
def lends : VVal → Bool
  | .agg cs | .fn _ cs => cs.any lends0
  | v => lends0 v

def noAlias0 : VVal → Bool
  | .p d => d.flat
  | .fresh _ xs => xs.all PV.flat
  | .ptr _ _ _ => true
  | _ => false
def noAlias1 : VVal → Bool
  | .agg cs => cs.all noAlias0
  | .boxed cs => cs.all noAlias0
  | v => noAlias0 v
def noAlias : VVal → Bool
  | .tup vs => vs.all noAlias1
  | v => noAlias1 v

def flatC : VVal → Bool
  | .p d => d.flat
  | .ptr _ _ _ => true
  | .fn _ cs => cs.all noAlias0
  | _ => false
/-- A box that holds nothing that was lent. -/
def flatBox : Ob → Bool
  | .box cs => cs.all flatC
  | _ => false

/-- What may lie in a box that is handed on: frozen data, pointers to boxes that are handed on, functions. -/
def extBox (R : List Id) (h : VHeap) (id : Id) : Option Ob :=
  match h id with
  | some (_, .box cs) => gd (cs.any lends = false) <| ob (mapO (ext1 R h) cs) fun cs => some (.box cs)
  | _ => none

/-- A value that came back, as the caller sees it. -/
def back0 (R : List Id) (h : VHeap) : VVal → Option VVal
  | .p d => some (.p d)
  | .ptr (.arg i 0) 0 off => ob R[i]? fun id => ob (h id) fun o => some (.ptr id o.1 off)
  | _ => none
def back1 (R : List Id) (h : VHeap) : VVal → Option VVal
  | .fn f caps => ob (mapO (back0 R h) caps) fun cs => some (.fn f cs)
  | v => back0 R h v

def backBoxes (R : List Id) (h : VHeap) : List Id → List Ob → Option (List (Id × Nat × Ob))
  | [], [] => some []
  | id :: ids, .box cs :: os => ob (mapO (back1 R h) cs) fun cs' => ob (h id) fun o => ob (backBoxes R h ids os) fun us => some ((id, o.1, .box cs') :: us)
  | _, _ => none

/-- A result's leaf, laid at slot d, place j. -/
def in0 (R : List Id) (h : VHeap) (d j : Nat) : VVal → Option (VVal × List (Id × Nat × Ob))
  | .fresh sz xs => some (.own (.slot d (j + 1)) (nv (h (.slot d (j + 1)))) 0 xs.length, [(.slot d (j + 1), nv (h (.slot d (j + 1))), .arr sz xs)])
  | v => ob (back0 R h v) fun v' => some (v', [])
def inL (R : List Id) (h : VHeap) (d : Nat) : Nat → List VVal → Option (List VVal × List (Id × Nat × Ob))
  | _, [] => some ([], [])
  | j, v :: vs => ob (in0 R h d j v) fun r => ob (inL R h d (j + 1) vs) fun rs => some (r.1 :: rs.1, r.2 ++ rs.2)
def in1 (R : List Id) (h : VHeap) (d j : Nat) : VVal → Option (VVal × List (Id × Nat × Ob))
  | .agg cs => ob (inL R h d j cs) fun r => some (.agg r.1, r.2)
  | .boxed cs => ob (inL R h d (j + 1) cs) fun r => some (.ptr (.slot d (j + 1)) (nv (h (.slot d (j + 1)))) 0, (.slot d (j + 1), nv (h (.slot d (j + 1))), .box r.1) :: r.2)
  | v => in0 R h d j v
def width : VVal → Nat
  | .agg cs => cs.length
  | .boxed cs => cs.length + 1
  | _ => 1
def inT (R : List Id) (h : VHeap) (d : Nat) : Nat → List VVal → Option (List VVal × List (Id × Nat × Ob))
  | _, [] => some ([], [])
  | j, v :: vs => ob (in1 R h d j v) fun r => ob (inT R h d (j + width v) vs) fun rs => some (r.1 :: rs.1, r.2 ++ rs.2)
def inRes (R : List Id) (h : VHeap) (d : Nat) : VVal → Option (VVal × List (Id × Nat × Ob))
  | .tup vs => ob (inT R h d 0 vs) fun r => some (.tup r.1, r.2)
  | v => in1 R h d 0 v

/-- A call whose boxes are named. -/
def vcallR (Γ : Sig) (h : VHeap) (d : Nat) (f : FuncId) (args : List VVal) (R : List Id) : Option (VVal × List (Id × Nat × Ob)) :=
  ob (mapO (ext1 R h) args) fun args' => ob (mapO (extBox R h) R) fun H => ob (Γ f args' H) fun r =>
    gd (args.any lends = false ∨ (noAlias r.1 = true ∧ r.2.all flatBox = true)) <|
    ob (backBoxes R h R r.2) fun us => ob (inRes R h d r.1) fun q => some (q.1, us ++ q.2)
def vcallOp (Γ : Sig) (h : VHeap) (d : Nat) (f : FuncId) (args : List VVal) : Option (VVal × List (Id × Nat × Ob)) := vcallR Γ h d f args (roots h args)

/-! ### calls that may write what they are handed -/

def ptrsW0 : VVal → List Id
  | .ptr id _ _ | .own id _ _ _ | .mref id _ | .eptr id _ _ _ => [id]
  | _ => []
def ptrsW1 : VVal → List Id
  | .fn _ caps => caps.flatMap ptrsW0
  | .agg cs => cs.flatMap ptrsW0
  | v => ptrsW0 v
def objPtrsW (h : VHeap) (id : Id) : List Id :=
  match h id with
  | some (_, .box cs) => cs.flatMap ptrsW1
  | _ => []

/-- The objects that the arguments lead to: boxes, arrays and maps (three rounds). -/
def rootsW (h : VHeap) (args : List VVal) : List Id :=
  let r0 := addNew [] (args.flatMap ptrsW1)
  if r0.isEmpty then [] else
  let r1 := addNew r0 (r0.flatMap (objPtrsW h))
  let r2 := addNew r1 (r1.flatMap (objPtrsW h))
  r2

/-- A value as a callee sees it that may write its objects. -/
def extW0 (R : List Id) (h : VHeap) : VVal → Option VVal
  | .p d => some (.p d)
  | .vptr cs off => some (.vptr cs off)
  | .ptr id ver off => gd (alive h id ver = true) (ob (posOf R id) fun i => some (.ptr (.arg i 0) 0 off))
  | .own id ver off len => gd (alive h id ver = true) (ob (posOf R id) fun i => some (.own (.arg i 0) 0 off len))
  | .mref id ver => gd (alive h id ver = true) (ob (posOf R id) fun i => some (.mref (.arg i 0) 0))
  | .eptr id ver j off => gd (alive h id ver = true) (ob (posOf R id) fun i => some (.eptr (.arg i 0) 0 j off))
  | _ => none
def extW1 (R : List Id) (h : VHeap) : VVal → Option VVal
  | .fn f caps => ob (mapO (extW0 R h) caps) fun cs => some (.fn f cs)
  | .agg cs => ob (mapO (extW0 R h) cs) fun cs => some (.agg cs)
  | v => extW0 R h v
def extObW (R : List Id) (h : VHeap) (id : Id) : Option Ob :=
  match h id with
  | some (_, .box cs) => ob (mapO (extW1 R h) cs) fun cs => some (.box cs)
  | some (_, .arr sz xs) => some (.arr sz xs)
  | some (_, .map kt ks vs) => some (.map kt ks vs)
  | _ => none

/-- A cell of a box that came back. -/
def backW0 (R : List Id) (h : VHeap) : VVal → Option VVal
  | .p d => some (.p d)
  | .ptr (.arg i 0) 0 off => ob R[i]? fun id => ob (h id) fun o => some (.ptr id o.1 off)
  | .own (.arg i 0) ver off len => ob R[i]? fun id => ob (h id) fun o => some (.own id (o.1 + ver) off len)
  | .mref (.arg i 0) 0 => ob R[i]? fun id => ob (h id) fun o => some (.mref id o.1)
  | _ => none
def backW1 (R : List Id) (h : VHeap) : VVal → Option VVal
  | .fn f caps => ob (mapO (backW0 R h) caps) fun cs => some (.fn f cs)
  | v => backW0 R h v
def inC (R : List Id) (h : VHeap) (d j : Nat) : VVal → Option (VVal × List (Id × Nat × Ob))
  | .fresh sz xs => some (.own (.slot d (j + 1)) (nv (h (.slot d (j + 1))) + 1) 0 xs.length, [(.slot d (j + 1), nv (h (.slot d (j + 1))) + 1, .arr sz xs)])
  | v => ob (backW1 R h v) fun v' => some (v', [])
def inCL (R : List Id) (h : VHeap) (d : Nat) : Nat → List VVal → Option (List VVal × List (Id × Nat × Ob))
  | _, [] => some ([], [])
  | j, v :: vs => ob (inC R h d j v) fun r => ob (inCL R h d (j + 1) vs) fun rs => some (r.1 :: rs.1, r.2 ++ rs.2)

/-- The objects behind the call: those that were handed on, and the arrays that came to lie in their boxes. -/
def backObs (R : List Id) (h : VHeap) (d : Nat) : Nat → List Id → List Ob → Option (List (Id × Nat × Ob) × List (Id × Nat × Ob))
  | _, [], [] => some ([], [])
  | j, id :: ids, o :: os => ob (h id) fun q => match q.2, o with
    | .box _, .box cs => ob (inCL R h d j cs) fun r => ob (backObs R h d (j + cs.length) ids os) fun us => some ((id, q.1, .box r.1) :: us.1, r.2 ++ us.2)
    | .arr _ _, .arr sz xs => ob (backObs R h d j ids os) fun us => some ((id, q.1, .arr sz xs) :: us.1, us.2)
    | .arr _ _, .box [.undef, .fresh sz xs] => ob (backObs R h d j ids os) fun us => some ((id, q.1 + 1, .arr sz xs) :: us.1, us.2)
    | .map _ _ _, .map kt ks vs => ob (backObs R h d j ids os) fun us => some ((id, q.1, .map kt ks vs) :: us.1, us.2)
    | _, _ => none
  | _, _, _ => none

def apartRes (R : List Id) (as qs : List (Id × Nat × Ob)) : Bool := qs.all fun x => !R.contains x.1 && as.all fun y => !decide (y.1 = x.1)
def vcallRW (Γ : Sig) (h : VHeap) (d : Nat) (f : FuncId) (args : List VVal) (R : List Id) : Option (VVal × List (Id × Nat × Ob)) :=
  ob (mapO (extW1 R h) args) fun args' => ob (mapO (extObW R h) R) fun H => ob (Γ f args' H) fun r =>
    ob (backObs R h d 1000 R r.2) fun us => ob (inRes R h d r.1) fun q => gd (apartRes R us.2 q.2 = true) (some (q.1, us.1 ++ (us.2 ++ q.2)))
def vcallW (Γ : Sig) (h : VHeap) (d : Nat) (f : FuncId) (args : List VVal) : Option (VVal × List (Id × Nat × Ob)) := vcallRW Γ h d f args (rootsW h args)

/-- 'copy(a, x)'. -/
def vcopy (h : VHeap) (sz : Nat) (a x : VVal) : Option (VVal × List (Id × Nat × Ob)) :=
  match a with
  | .own id ver off len => match h id with
    | some (v, .arr sz' xs) => gd (v = ver) <| gd (sz' = sz) <| ob (velems h x) fun r => gd (r.1 = sz ∨ r.2 = []) <|
        some (.p (.int .i64 (min len r.2.length : Nat)), [(id, v, .arr sz (splice xs off (r.2.take (min len r.2.length))))])
    | _ => none
  | _ => none

/-! ### operations -/

def evalOp (Γ : Sig) (look : VArg → Option VVal) (h : VHeap) (d : Nat) : VOp → Option (VVal × List (Id × Nat × Ob))
  | .move x => ob (look x) fun v => some (v, [])
  | .newArr sz => some (.own (.slot d 0) (nv (h (.slot d 0))) 0 0, [(.slot d 0, nv (h (.slot d 0)), .arr sz [])])
  | .pick c a b => ob (look c) fun v => match v with
    | .p (.bool t) => br t (ob (look a) fun v => some (v, [])) (ob (look b) fun v => some (v, []))
    | _ => none
  | .alloc zero => some (.ptr (.slot d 0) (nv (h.upds (zcells d h 0 zero).2 (.slot d 0))) 0, (zcells d h 0 zero).2 ++ [(.slot d 0, nv (h.upds (zcells d h 0 zero).2 (.slot d 0)), .box (zcells d h 0 zero).1)])
  | .box n x => ob (look x) fun v => gd ((vcells v).length = n) <| gd ((vcells v).all solid = true) (some (.ptr (.slot d 0) (nv (h (.slot d 0))) 0, [(.slot d 0, nv (h (.slot d 0)), .box (vcells v))]))
  | .build cells => ob (bcells look d h 0 cells) fun r => some (.agg r.1, r.2)
  | .buildSlice sz parts => ob (mapO (fun x => ob (look x) fun v => freezeP v) parts) fun xs =>
      gd (xs.all (fun x => decide (x.cells.length = sz)) = true) (some (.own (.slot d 0) (nv (h (.slot d 0))) 0 parts.length, [(.slot d 0, nv (h (.slot d 0)), .arr sz xs)]))
  | .buildFz sz parts => ob (mapO (fun x => ob (look x) fun v => freezeP v) parts) fun xs =>
      gd (xs.all (fun x => decide (x.cells.length = sz)) = true) (some (.p (.slice sz xs), []))
  | .load agg a => ob (look a) fun p => ob (vload h agg p) fun v => some (v, [])
  | .store n a x => ob (look a) fun p => ob (look x) fun v => ob (vstore h n p v) fun us => some (.undef, us)
  | .fieldAddr off x => ob (look x) fun v => match v with
    | .ptr id ver o => some (.ptr id ver (o + off), [])
    | .vptr cs o => some (.vptr cs (o + off), [])
    | .eptr id ver i o => some (.eptr id ver i (o + off), [])
    | _ => none
  | .field off agg x => ob (look x) fun v => match v with
    | .agg cs => ob (ofCells agg cs off) fun r => some (r, [])
    | _ => none
  | .indexAddr sz x i => ob (look x) fun s => ob (look i) fun n => match n with
    | .p (.int _ n) => ob (vindex h sz s n) fun r => some (r, [])
    | _ => none
  | .indexStr x i => ob (look x) fun s => ob (look i) fun n => match s, n with
    | .p (.str s), .p (.int _ n) => gd (0 ≤ n) (ob s[n.toNat]? fun b => some (.p (.int .u8 b.toNat), []))
    | _, _ => none
  | .bin op x y => ob (look x) fun a => ob (look y) fun b => ob (vbin op a b) fun r => some (r, [])
  | .eqAgg neg kts x y => ob (look x) fun a => ob (look y) fun b => match a, b with
    | .agg a, .agg b => ob (mapO unP a) fun xs => ob (mapO unP b) fun ys => ob (eqAll kts xs ys) fun r => some (.p (.bool (if neg then !r else r)), [])
    | _, _ => none
  | .not x => ob (look x) fun v => match v with
    | .p (.bool b) => some (.p (.bool (!b)), [])
    | _ => none
  | .neg x => ob (look x) fun v => match v with
    | .p (.int k n) => some (.p (.int k (k.wrap (0 - n))), [])
    | _ => none
  | .len x => ob (look x) fun v => ob (vlen v) fun n => some (.p (.int .i64 n), [])
  | .lenStr x => ob (look x) fun v => ob (vlenS v) fun n => some (.p (.int .i64 n), [])
  | .eqB neg x y => ob (look x) fun a => ob (look y) fun b => match a, b with
    | .p (.bool a), .p (.bool b) => some (.p (.bool (if neg then !(a == b) else a == b)), [])
    | _, _ => none
  | .append sz bytes s x => ob (look s) fun a => ob (look x) fun b => vappend h sz bytes a b
  | .appendNil sz bytes x => ob (look x) fun b => vappendNil d h sz bytes b
  | .slice str sz lo hi mx x => ob (look x) fun s => br str (vsliceS look lo hi s) (vslice d h look sz lo hi mx s)
  | .lookup ok kt zero m k => ob (look m) fun m => ob (look k) fun k => ob (ventries h m) fun es => gd (es.1 = kt ∨ es.2.1 = []) <| ob (mkey kt k) fun k => some (vlookup ok zero es.2.1 es.2.2 k, [])
  | .mapUpdate kt m k x => ob (look m) fun m => ob (look k) fun k => ob (look x) fun x => ob (mkey kt k) fun k => ob (freezeP x) fun x => match m with
    | .mref id ver => match h id with
      | some (v, .map kt' ks vs) => gd (v = ver) <| gd (kt' = kt) (some (.undef, [(id, v, .map kt (mput ks vs k x).1 (mput ks vs k x).2)]))
      | _ => none
    | _ => none
  | .makeMap kt => some (.mref (.slot d 0) (nv (h (.slot d 0))), [(.slot d 0, nv (h (.slot d 0)), .map kt [] [])])
  | .mapLen x => ob (look x) fun m => ob (ventries h m) fun es => some (.p (.int .i64 es.2.1.length), [])
  | .extract x i => ob (look x) fun v => match v with
    | .tup vs => ob vs[i]? fun v => some (v, [])
    | _ => none
  | .minmax isMax xs => ob (mapO look xs) fun vs => ob (minmaxI isMax vs) fun r => some (r, [])
  | .conv k x => ob (look x) fun v => match v with
    | .p (.int _ n) => some (.p (.int k (k.wrap n)), [])
    | _ => none
  | .strBytes x => ob (look x) fun v => match v with
    | .p (.str s) => some (.p (.slice 1 (s.data.toList.map fun b => .int .u8 b.toNat)), [])
    | _ => none
  | .nilCheck x => ob (look x) fun v => match v with
    | .ptr id ver off => some (.ptr id ver off, [])
    | .vptr cs off => some (.vptr cs off, [])
    | .eptr id ver i off => some (.eptr id ver i off, [])
    | .fn f caps => some (.fn f caps, [])
    | _ => none
  | .makeFunc f caps => ob (mapO look caps) fun cs => some (.fn f cs, [])
  | .call f args => ob (mapO look args) fun vs => vcallOp Γ h d f vs
  | .callv x args => ob (look x) fun g => ob (mapO look args) fun vs => match g with
    | .fn f caps => vcallOp Γ h d f (vs ++ caps)
    | .p (.fn f) => vcallOp Γ h d f vs
    | _ => none
  | .callW f args => ob (mapO look args) fun vs => vcallW Γ h d f vs
  | .callvW x args => ob (look x) fun g => ob (mapO look args) fun vs => match g with
    | .fn f caps => vcallW Γ h d f (vs ++ caps)
    | .p (.fn f) => vcallW Γ h d f vs
    | _ => none
  | .make sz bytes zero n => ob (look n) fun v => match v with
    | .p (.int _ m) => gd (0 ≤ m) <| gd ((bytes : Int) * m ≤ 281474976710656) <| gd (m ≤ 9223372036854775807) <|
        some (.own (.slot d 0) (nv (h (.slot d 0))) 0 m.toNat, [(.slot d 0, nv (h (.slot d 0)), .arr sz (List.replicate m.toNat zero))])
    | _ => none
  | .copy sz a x => ob (look a) fun a => ob (look x) fun x => vcopy h sz a x

end Go.V

