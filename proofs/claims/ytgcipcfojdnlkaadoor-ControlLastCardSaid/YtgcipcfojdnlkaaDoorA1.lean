/- Part 1 of the proof. -/
import GoSem.Core.Code
import GoSem.Core.View
set_option linter.unusedSectionVars false
set_option linter.unusedSimpArgs false
set_option linter.unusedVariables false
open List renaming forall_mem_cons → lfm
namespace Go.V
theorem cl1 {P : Prop} (h : P := by first | rfl | (simp; done) | (congr 2; omega) | (congr 1; omega) | (congr 3; omega) | (simp; omega) | (congr 2; simp; omega)) : P := h
theorem cl2 {P : Prop} (h : P := by first | rfl | omega | (congr 2; omega)) : P := h
inductive KT where
 | int (k : IntKind)
 | str
 | bool
 deriving DecidableEq,Inhabited
inductive MKey where
 | int (n : Int)
 | str (s : ByteArray)
 | bool (b : Bool)
 deriving DecidableEq
inductive PV where
 | int (k : IntKind) (n : Int)
 | bool (b : Bool)
 | str (s : ByteArray)
 | slice (sz : Nat) (xs : List PV)
 | agg (cs : List PV)
 | map (kt : KT) (ks : List MKey) (vs : List PV)
 | fn (f : FuncId)
 | nilp
 deriving Inhabited
def PV.cells : PV -> List PV
 | .agg cs=>cs
 | v=>[v]
def PV.flat0 : PV -> Bool
 | .int _ _ | .bool _ | .str _ | .fn _ | .nilp=>true
 | _=>false
def PV.flat : PV -> Bool
 | .agg cs=>cs.all PV.flat0
 | d=>d.flat0
inductive Id where
 | slot (s j : Nat)
 | arg (i j : Nat)
 deriving DecidableEq
inductive VVal where
 | p (d : PV)
 | own (id : Id) (ver off len : Nat)
 | ptr (id : Id) (ver off : Nat)
 | vptr (cs : List PV) (off : Nat)
 | eptr (id : Id) (ver i off : Nat)
 | mref (id : Id) (ver : Nat)
 | fn (f : FuncId) (caps : List VVal)
 | agg (cs : List VVal)
 | tup (vs : List VVal)
 | fresh (sz : Nat) (xs : List PV)
 | boxed (cs : List VVal)
 | undef
 | dead
 deriving Inhabited
inductive Ob where
 | box (cs : List VVal)
 | arr (sz : Nat) (xs : List PV)
 | map (kt : KT) (ks : List MKey) (vs : List PV)
 | gone
 deriving Inhabited
abbrev VHeap:=Id -> Option (Nat × Ob)
def VHeap.upd (h : VHeap) (id : Id) (o : Nat × Ob) : VHeap:=fun i=>if i = id then some o else h i
def VHeap.upds (h : VHeap) : List (Id × Nat × Ob) -> VHeap
 | []=>h
 | (id,o) :: us=>(VHeap.upd h id o).upds us
def nv : Option (Nat × Ob) -> Nat
 | none=>0
 | some (v,_)=>v + 1
structure Tok {α : Type} (a : α) : Type where
def ob {α β : Type} (x : Option α) (f : α -> Option β) (_u : Tok f:=⟨⟩) : Option β:=match x with | some a=>f a | none=>none
def gd {α : Type} (c : Prop) [Decidable c] (x : Option α) (_u : Tok x:=⟨⟩) : Option α:=if c then x else none
def br {α : Type} (b : Bool) (x y : α) (_u : Tok x:=⟨⟩) (_v : Tok y:=⟨⟩) : α:=if b then x else y
inductive VArg where
 | v (s : Nat)
 | t (s : Nat)
 | c (d : PV)
 deriving Inhabited
inductive ZC where
 | c (d : PV)
 | nil (sz : Nat)
 deriving Inhabited
inductive BC where
 | z (z : ZC)
 | a (x : VArg) (j n : Nat)
 deriving Inhabited
inductive VOp where
 | move (x : VArg)
 | newArr (sz : Nat)
 | pick (c a b : VArg)
 | alloc (zero : List ZC)
 | box (n : Nat) (x : VArg)
 | build (cells : List BC)
 | buildSlice (sz : Nat) (parts : List VArg)
 | buildFz (sz : Nat) (parts : List VArg)
 | load (agg : Option Nat) (a : VArg)
 | store (n : Nat) (a x : VArg)
 | fieldAddr (off : Nat) (x : VArg)
 | field (off : Nat) (agg : Option Nat) (x : VArg)
 | indexAddr (sz : Nat) (x i : VArg)
 | indexStr (x i : VArg)
 | bin (op : BinOp) (x y : VArg)
 | eqAgg (neg : Bool) (kts : List KT) (x y : VArg)
 | not (x : VArg)
 | neg (x : VArg)
 | len (x : VArg)
 | lenStr (x : VArg)
 | eqB (neg : Bool) (x y : VArg)
 | append (sz bytes : Nat) (s x : VArg)
 | appendNil (sz bytes : Nat) (x : VArg)
 | slice (str : Bool) (sz : Nat) (lo hi mx : Option VArg) (x : VArg)
 | lookup (ok : Bool) (kt : KT) (zero : PV) (m k : VArg)
 | mapUpdate (kt : KT) (m k x : VArg)
 | makeMap (kt : KT)
 | mapLen (x : VArg)
 | extract (x : VArg) (i : Nat)
 | minmax (isMax : Bool) (xs : List VArg)
 | conv (k : IntKind) (x : VArg)
 | strBytes (x : VArg)
 | nilCheck (x : VArg)
 | makeFunc (f : FuncId) (caps : List VArg)
 | call (f : FuncId) (args : List VArg)
 | callv (x : VArg) (args : List VArg)
 | callW (f : FuncId) (args : List VArg)
 | callvW (x : VArg) (args : List VArg)
 | callR (f : FuncId) (args : List VArg)
 | make (sz bytes : Nat) (zero : PV) (n : VArg)
 | copy (sz : Nat) (a x : VArg)
 | mapEntry (kt : KT) (zero : PV) (m k : VArg)
 | entryStore (m s x : VArg)
 | buildArr (sz : Nat) (parts : List VArg)
 | indexArr (n sz : Nat) (agg : Option Nat) (x i : VArg)
 deriving Inhabited
inductive VDst where
 | v (s : Nat)
 | t (s : Nat)
 | none
 deriving Inhabited,DecidableEq
structure VOper where
 dst : VDst
 op : VOp
 guard : Option (VArg × Bool):=.none
 deriving Inhabited
structure VRegion where
 ops : List VOper
 fz : List Nat:=[]
 fp : List (Nat × Nat):=[]
 deriving Inhabited
inductive VCode where
 | skip
 | region (r : VRegion)
 | seq (a b : VCode)
 | cond (c : VArg) (thn els : VCode)
 | block (id : Nat) (c : VCode)
 | loop (c : VCode)
 | exit (id : Nat)
 | ret
 | mv (a b : Id) (c : VCode)
 | scope (c : VCode)
 deriving Inhabited
abbrev oT (n : Nat) (o : VOp) : VOper:=⟨.t n,o,none⟩
abbrev oV (n : Nat) (o : VOp) : VOper:=⟨.v n,o,none⟩
abbrev oZ (o : VOp) : VOper:=⟨.none,o,none⟩
abbrev oG (n : Nat) (o : VOp) (g : Nat) (b : Bool) : VOper:=⟨.t n,o,some (.t g,b)⟩
abbrev oM (n x : Nat) : VOper:=⟨.t n,.move (.v x),none⟩
abbrev oN (n x : Nat) : VOper:=⟨.v n,.move (.t x),none⟩
abbrev oL (n x : Nat) : VOper:=⟨.t n,.load none (.t x),none⟩
abbrev rg (l : List VOper) : VCode:=.region ⟨l,[],[]⟩
abbrev cI (n : Int) : VArg:=.c (.int .i64 n)
abbrev cF : VArg:=.c (.bool false)
abbrev cT : VArg:=.c (.bool true)
abbrev oJ (n : Nat) (i : Int) : VOper:=⟨.v n,.move (.c (.int .i64 i)),none⟩
abbrev oP (n x : Nat) : VOper:=⟨.t n,.move (.t x),none⟩
abbrev oA (n s a b : Nat) : VOper:=⟨.t n,.indexAddr s (.t a) (.t b),none⟩
abbrev oQ (n k x : Nat) : VOper:=⟨.t n,.fieldAddr k (.t x),none⟩
abbrev oC (n : Nat) (f : FuncId) (l : List VArg) : VOper:=⟨.t n,.call f l,none⟩
abbrev oE (n x k : Nat) : VOper:=⟨.t n,.extract (.t x) k,none⟩
abbrev oI (n x : Nat) : VOper:=⟨.t n,.bin .add (.t x) (.c (.int .i64 1)),none⟩
abbrev oB (n x y : Nat) : VOper:=⟨.t n,.pick (.t x) (.t y) (.c (.bool false)),none⟩
abbrev oY (n x : Nat) : VOper:=⟨.t n,.len (.t x),none⟩
abbrev gM (n x g : Nat) (b : Bool) : VOper:=⟨.t n,.move (.v x),some (.t g,b)⟩
inductive VRet where
 | tmp (x : VArg)
 | cell (x : VArg) (agg : Option Nat)
 deriving Inhabited
structure VFunc where
 vs : List Nat
 nparams : Nat
 body : VCode
 rets : List VRet
 deriving Inhabited
structure St where
 pe : Nat -> VVal
 h : VHeap
inductive VExit where
 | normal
 | exit (id : Nat)
 | ret
 deriving DecidableEq
abbrev Sig:=FuncId -> List VVal -> List Ob -> Option (VVal × List Ob)
def vcells : VVal -> List VVal
 | .agg cs=>cs
 | v=>[v]
def ofCells (agg : Option Nat) (cs : List VVal) (off : Nat) : Option VVal :=
 match agg with
 | none=>cs[off]?
 | some n=>gd (off + n <= cs.length) (some (.agg ((cs.drop off).take n)))
def vrow (h : VHeap) : VVal -> Option (List VVal × Nat)
 | .ptr id ver off=>match h id with
  | some (v,.box cs)=>gd (v = ver) (some (cs,off))
  | _=>none
 | .vptr cs off=>some (cs.map .p,off)
 | .eptr id ver i off=>match h id with
  | some (v,.arr _ xs)=>gd (v = ver) (ob xs[i]? fun x=>some (x.cells.map .p,off))
  | _=>none
 | _=>none
def vload (h : VHeap) (agg : Option Nat) (a : VVal) : Option VVal:=ob (vrow h a) fun r=>ofCells agg r.1 r.2
def unP : VVal -> Option PV
 | .p d=>some d
 | .fn f []=>some (.fn f)
 | _=>none
def mapO {α β : Type} (f : α -> Option β) : List α -> Option (List β)
 | []=>some []
 | x :: xs=>ob (f x) fun y=>ob (mapO f xs) fun ys=>some (y :: ys)
def freezeP : VVal -> Option PV
 | .agg cs=>ob (mapO unP cs) fun ds=>some (.agg ds)
 | v=>unP v
def velems (h : VHeap) : VVal -> Option (Nat × List PV)
 | .p (.slice sz xs)=>some (sz,xs)
 | .own id ver off len=>match h id with
  | some (v,.arr sz xs)=>gd (v = ver) (some (sz,(xs.drop off).take len))
  | _=>none
 | _=>none
def vlen : VVal -> Option Nat
 | .p (.slice _ xs)=>some xs.length
 | .own _ _ _ len=>some len
 | _=>none
def vlenS : VVal -> Option Nat
 | .p (.str s)=>some s.size
 | _=>none
def splice {α : Type} (cs : List α) (off : Nat) (vs : List α) : List α:=cs.take off ++ vs ++ cs.drop (off + vs.length)
def setCells (x : PV) (off : Nat) (ds : List PV) : PV :=
 match x with
 | .agg cs=>.agg (splice cs off ds)
 | y=>ds.headD y
def solid : VVal -> Bool
 | .p _ | .own _ _ _ _ | .ptr _ _ _ | .vptr _ _ | .eptr _ _ _ _ | .mref _ _ | .fn _ _=>true
 | _=>false
def vstoreAt (h : VHeap) (n : Nat) (vs : List VVal) : VVal -> Option (List (Id × Nat × Ob))
 | .ptr id ver off=>match h id with
  | some (v,.box cs)=>gd (v = ver) (gd (off + n <= cs.length) (some [(id,v,.box (splice cs off vs))]))
  | _=>none
 | .eptr id ver i off=>match h id with
  | some (v,.arr sz xs)=>gd (v = ver) (ob xs[i]? fun x0=>ob (mapO unP vs) fun ds=>gd (off + n <= x0.cells.length) (some [(id,v,.arr sz (xs.set i (setCells x0 off ds)))]))
  | _=>none
 | _=>none
def vstore (h : VHeap) (n : Nat) (a x : VVal) : Option (List (Id × Nat × Ob)) :=
 gd ((vcells x).length = n) (gd ((vcells x).all solid = true) (vstoreAt h n (vcells x) a))
def vindexAt (h : VHeap) (sz i : Nat) : VVal -> Option VVal
 | .p (.slice sz' xs)=>gd (sz' = sz) (ob xs[i]? fun x=>some (.vptr x.cells 0))
 | .own id ver off len=>match h id with
  | some (v,.arr sz' _)=>gd (v = ver) (gd (sz' = sz) (gd (i < len) (some (.eptr id ver (off + i) 0))))
  | _=>none
 | _=>none
def vindex (h : VHeap) (sz : Nat) (s : VVal) (n : Int) : Option VVal:=gd (0 <= n) (vindexAt h sz n.toNat s)
def zcell (d : Nat) (h : VHeap) (j : Nat) : ZC -> VVal × List (Id × Nat × Ob)
 | .c x=>(.p x,[])
 | .nil sz=>(.own (.slot d (j + 1)) (nv (h (.slot d (j + 1)))) 0 0,[(.slot d (j + 1),nv (h (.slot d (j + 1))),.arr sz [])])
def zcells (d : Nat) : VHeap -> Nat -> List ZC -> List VVal × List (Id × Nat × Ob)
 | _,_,[]=>([],[])
 | h,j,z :: zs=>((zcell d h j z).1 :: (zcells d (h.upds (zcell d h j z).2) (j + 1) zs).1,(zcell d h j z).2 ++ (zcells d (h.upds (zcell d h j z).2) (j + 1) zs).2)
def bcells (look : VArg -> Option VVal) (d : Nat) : VHeap -> Nat -> List BC -> Option (List VVal × List (Id × Nat × Ob))
 | _,_,[]=>some ([],[])
 | h,j,.z z :: bs=>ob (bcells look d (h.upds (zcell d h j z).2) (j + 1) bs) fun rs=>some ((zcell d h j z).1 :: rs.1,(zcell d h j z).2 ++ rs.2)
 | h,j,.a x i n :: bs=>ob (look x) fun v=>gd ((vcells v).length = n) <| ob (vcells v)[i]? fun c=>gd (solid c = true) <| ob (bcells look d h (j + 1) bs) fun rs=>some (c :: rs.1,rs.2)
def andI (k : IntKind) (a b : Int) : Int:=k.wrap (BitVec.ofInt k.bits a &&& BitVec.ofInt k.bits b).toNat
def orI (k : IntKind) (a b : Int) : Int:=k.wrap (BitVec.ofInt k.bits a ||| BitVec.ofInt k.bits b).toNat
def xorI (k : IntKind) (a b : Int) : Int:=k.wrap (BitVec.ofInt k.bits a ^^^ BitVec.ofInt k.bits b).toNat
def antI (k : IntKind) (a b : Int) : Int:=k.wrap (BitVec.ofInt k.bits a &&& ~~~ BitVec.ofInt k.bits b).toNat
def shlI (k : IntKind) (a b : Int) : Int:=k.wrap (a * 2 ^ min b.toNat k.bits)
def shrI (k : IntKind) (a b : Int) : Int:=a.fdiv (2 ^ min b.toNat k.bits)
def ibin (k : IntKind) (a b : Int) : BinOp -> Option VVal
 | .add=>some (.p (.int k (k.wrap (a + b))))
 | .sub=>some (.p (.int k (k.wrap (a - b))))
 | .mul=>some (.p (.int k (k.wrap (a * b))))
 | .quo=>gd (b ≠ 0) (some (.p (.int k (k.wrap (a.tdiv b)))))
 | .rem=>gd (b ≠ 0) (some (.p (.int k (a.tmod b))))
 | .and=>some (.p (.int k (andI k a b)))
 | .or=>some (.p (.int k (orI k a b)))
 | .xor=>some (.p (.int k (xorI k a b)))
 | .andNot=>some (.p (.int k (antI k a b)))
 | .eql=>some (.p (.bool (a == b)))
 | .neq=>some (.p (.bool (a != b)))
 | .lss=>some (.p (.bool (decide (a < b))))
 | .leq=>some (.p (.bool (decide (a <= b))))
 | .gtr=>some (.p (.bool (decide (b < a))))
 | .geq=>some (.p (.bool (decide (b <= a))))
 | _=>none
def sbin (a b : ByteArray) : BinOp -> Option VVal
 | .eql=>some (.p (.bool (decide (a = b))))
 | .neq=>some (.p (.bool (!decide (a = b))))
 | .add=>gd (a.size + b.size <= 9223372036854775807) (some (.p (.str (a ++ b))))
 | _=>none
def isSh : BinOp -> Bool
 | .shl | .shr=>true
 | _=>false
def ishift (k : IntKind) (a b : Int) : BinOp -> Option VVal
 | .shl=>gd (0 <= b) (some (.p (.int k (shlI k a b))))
 | .shr=>gd (0 <= b) (some (.p (.int k (shrI k a b))))
 | _=>none
def vbin (op : BinOp) : VVal -> VVal -> Option VVal
 | .p (.int k a),.p (.int k' b)=>br (isSh op) (ishift k a b op) (gd (k = k') (ibin k a b op))
 | .p (.str a),.p (.str b)=>sbin a b op
 | _,_=>none
def eq0 : KT -> PV -> PV -> Option Bool
 | .int k,.int k' a,.int k'' b=>gd (k' = k) (gd (k'' = k) (some (a == b)))
 | .bool,.bool a,.bool b=>some (a == b)
 | .str,.str a,.str b=>some (decide (a = b))
 | _,_,_=>none
def eqAll : List KT -> List PV -> List PV -> Option Bool
 | [],[],[]=>some true
 | k :: ks,x :: xs,y :: ys=>ob (eq0 k x y) fun b=>ob (eqAll ks xs ys) fun c=>some (b && c)
 | _,_,_=>none
def mm2 (isMax : Bool) : VVal -> VVal -> Option VVal
 | .p (.int k a),.p (.int k' b)=>gd (k = k') (some (.p (.int k (if isMax then max a b else min a b))))
 | _,_=>none
def mmL (isMax : Bool) : VVal -> List VVal -> Option VVal
 | v,[]=>some v
 | v,u :: us=>ob (mm2 isMax v u) fun r=>mmL isMax r us
def minmaxI (isMax : Bool) : List VVal -> Option VVal
 | []=>none
 | v :: vs=>mmL isMax v vs
def mkey : KT -> VVal -> Option MKey
 | .int k,.p (.int k' n)=>gd (k = k') (some (.int n))
 | .str,.p (.str s)=>some (.str s)
 | .bool,.p (.bool b)=>some (.bool b)
 | _,_=>none
def mget : List MKey -> List PV -> MKey -> Option PV
 | k :: ks,v :: vs,k'=>if k' = k then some v else mget ks vs k'
 | _,_,_=>none
def mput : List MKey -> List PV -> MKey -> PV -> List MKey × List PV
 | k :: ks,v :: vs,k',v'=>if k' = k then (k :: ks,v' :: vs) else
   let r:=mput ks vs k' v'
   (k :: r.1,v :: r.2)
 | _,_,k',v'=>([k'],[v'])
def kpos : List MKey -> MKey -> Nat
 | k :: ks,k'=>if k' = k then 0 else kpos ks k' + 1
 | [],_=>0
def ventries (h : VHeap) : VVal -> Option (KT × List MKey × List PV)
 | .p (.map kt ks vs)=>some (kt,ks,vs)
 | .mref id ver=>match h id with
  | some (v,.map kt ks vs)=>gd (v = ver) (some (kt,ks,vs))
  | _=>none
 | _=>none
def thaw : PV -> VVal
 | .agg cs=>.agg (cs.map .p)
 | d=>.p d
def vlookup (ok : Bool) (zero : PV) (ks : List MKey) (vs : List PV) (k : MKey) : VVal :=
 let r:=mget ks vs k
 let v:=thaw (r.getD zero)
 if ok then .tup [v,.p (.bool r.isSome)] else v
def vappend (h : VHeap) (sz bytes : Nat) (s x : VVal) : Option (VVal × List (Id × Nat × Ob)) :=
 match s with
 | .own id ver 0 len=>match h id with
  | some (v,.arr sz' xs)=>gd (v = ver) <| gd (sz' = sz) <| gd (len <= xs.length) <|
    ob (velems h x) fun r=>gd (r.1 = sz \/ r.2 = []) <| gd ((len + r.2.length) * bytes <= 140737488355328) <| gd (len + r.2.length <= 9223372036854775807) <|
     some (.own id (v + 1) 0 (len + r.2.length),[(id,v + 1,.arr sz (xs.take len ++ r.2))])
  | _=>none
 | _=>none
def vappendNil (d : Nat) (h : VHeap) (sz bytes : Nat) (x : VVal) : Option (VVal × List (Id × Nat × Ob)) :=
 ob (velems h x) fun r=>gd (r.1 = sz \/ r.2 = []) <| gd (r.2.length * bytes <= 140737488355328) <| gd (r.2.length <= 9223372036854775807) <|
  some (.own (.slot d 0) (nv (h (.slot d 0))) 0 r.2.length,[(.slot d 0,nv (h (.slot d 0)),.arr sz r.2)])
def natOf : VVal -> Option Nat
 | .p (.int _ n)=>gd (0 <= n) (some n.toNat)
 | _=>none
def optNat (look : VArg -> Option VVal) (d : Nat) : Option VArg -> Option Nat
 | none=>some d
 | some x=>ob (look x) fun v=>natOf v
def vcut (h : VHeap) (sz l m : Nat) : VVal -> Option (VVal × List (Id × Nat × Ob))
 | .p (.slice sz' xs)=>gd (sz' = sz) (some (.p (.slice sz ((xs.drop l).take (m - l))),[]))
 | .own id ver off _=>match h id with
  | some (v,.arr sz' _)=>gd (v = ver) (gd (sz' = sz) (some (.own id ver (off + l) (m - l),[])))
  | _=>none
 | _=>none
def vcut0 (d : Nat) (h : VHeap) (sz : Nat) : Option (VVal × List (Id × Nat × Ob)) :=
 some (.own (.slot d 0) (nv (h (.slot d 0))) 0 0,[(.slot d 0,nv (h (.slot d 0)),.arr sz [])])
def vcut3 (d : Nat) (h : VHeap) (look : VArg -> Option VVal) (sz l m : Nat) (s : VVal) : Option VArg -> Option (VVal × List (Id × Nat × Ob))
 | none=>vcut h sz l m s
 | some x=>ob (look x) fun v=>ob (natOf v) fun k=>gd (l = m) (gd (k = m) (vcut0 d h sz))
def vcutS (l m : Nat) : VVal -> Option (VVal × List (Id × Nat × Ob))
 | .p (.str b)=>some (.p (.str (b.extract l m)),[])
 | _=>none
def vsliceS (look : VArg -> Option VVal) (lo hi : Option VArg) (s : VVal) : Option (VVal × List (Id × Nat × Ob)) :=
 ob (vlenS s) fun n=>ob (optNat look 0 lo) fun l=>ob (optNat look n hi) fun m=>gd (l <= m) (gd (m <= n) (vcutS l m s))
def vslice (d : Nat) (h : VHeap) (look : VArg -> Option VVal) (sz : Nat) (lo hi mx : Option VArg) (s : VVal) : Option (VVal × List (Id × Nat × Ob)) :=
 ob (vlen s) fun n=>ob (optNat look 0 lo) fun l=>ob (optNat look n hi) fun m=>gd (l <= m) (gd (m <= n) (vcut3 d h look sz l m s mx))
def alive (h : VHeap) (id : Id) (ver : Nat) : Bool :=
 match h id with
 | some (v,_)=>decide (v = ver)
 | none=>false
def posOf (R : List Id) (id : Id) : Option Nat:=match R with
 | []=>none
 | r :: rs=>if r = id then some 0 else (posOf rs id).map (· + 1)
def ptrs0 : VVal -> List Id
 | .ptr id _ _=>[id]
 | _=>[]
def ptrs1 : VVal -> List Id
 | .fn _ caps=>caps.flatMap ptrs0
 | .agg cs=>cs.flatMap ptrs0
 | v=>ptrs0 v
def objPtrs (h : VHeap) (id : Id) : List Id :=
 match h id with
 | some (_,.box cs)=>cs.flatMap ptrs1
 | _=>[]
def addNew (R : List Id) : List Id -> List Id
 | []=>R
 | i :: is=>addNew (if R.contains i then R else R ++ [i]) is
def roots (h : VHeap) (args : List VVal) : List Id :=
 let r0:=addNew [] (args.flatMap ptrs1)
 if r0.isEmpty then [] else
 let r1:=addNew r0 (r0.flatMap (objPtrs h))
 let r2:=addNew r1 (r1.flatMap (objPtrs h))
 r2
def ext0 (R : List Id) (h : VHeap) : VVal -> Option VVal
 | .p d=>some (.p d)
 | .own id ver off len=>ob (velems h (.own id ver off len)) fun r=>some (.p (.slice r.1 r.2))
 | .mref id ver=>ob (ventries h (.mref id ver)) fun r=>some (.p (.map r.1 r.2.1 r.2.2))
 | .ptr id ver off=>gd (alive h id ver = true) (ob (posOf R id) fun i=>some (.ptr (.arg i 0) 0 off))
 | .vptr cs off=>some (.vptr cs off)
 | .eptr id ver i off=>match h id with
  | some (v,.arr _ xs)=>gd (v = ver) (ob xs[i]? fun x=>some (.vptr x.cells off))
  | _=>none
 | _=>none
def ext1 (R : List Id) (h : VHeap) : VVal -> Option VVal
 | .fn f caps=>ob (mapO (ext0 R h) caps) fun cs=>some (.fn f cs)
 | .agg cs=>ob (mapO (ext0 R h) cs) fun cs=>some (.agg cs)
 | v=>ext0 R h v
def lends0 : VVal -> Bool
 | .own _ _ _ _ | .mref _ _ | .eptr _ _ _ _=>true
 | _=>false
def lends : VVal -> Bool
 | .agg cs | .fn _ cs=>cs.any lends0
 | v=>lends0 v
def noAlias0 : VVal -> Bool
 | .p d=>d.flat
 | .fresh _ xs=>xs.all PV.flat
 | .ptr _ _ _=>true
 | _=>false
def noAlias1 : VVal -> Bool
 | .agg cs=>cs.all noAlias0
 | .boxed cs=>cs.all noAlias0
 | v=>noAlias0 v
def noAlias : VVal -> Bool
 | .tup vs=>vs.all noAlias1
 | v=>noAlias1 v
def flatC : VVal -> Bool
 | .p d=>d.flat
 | .ptr _ _ _=>true
 | .fn _ cs=>cs.all noAlias0
 | _=>false
def flatBox : Ob -> Bool
 | .box cs=>cs.all flatC
 | _=>false
def extBox (R : List Id) (h : VHeap) (id : Id) : Option Ob :=
 match h id with
 | some (_,.box cs)=>gd (cs.any lends = false) <| ob (mapO (ext1 R h) cs) fun cs=>some (.box cs)
 | _=>none
def back0 (R : List Id) (h : VHeap) : VVal -> Option VVal
 | .p d=>some (.p d)
 | .ptr (.arg i 0) 0 off=>ob R[i]? fun id=>ob (h id) fun o=>some (.ptr id o.1 off)
 | _=>none
def back1 (R : List Id) (h : VHeap) : VVal -> Option VVal
 | .fn f caps=>ob (mapO (back0 R h) caps) fun cs=>some (.fn f cs)
 | v=>back0 R h v
def backBoxes (R : List Id) (h : VHeap) : List Id -> List Ob -> Option (List (Id × Nat × Ob))
 | [],[]=>some []
 | id :: ids,.box cs :: os=>ob (mapO (back1 R h) cs) fun cs'=>ob (h id) fun o=>ob (backBoxes R h ids os) fun us=>some ((id,o.1,.box cs') :: us)
 | _,_=>none
def in0 (R : List Id) (h : VHeap) (d j : Nat) : VVal -> Option (VVal × List (Id × Nat × Ob))
 | .fresh sz xs=>some (.own (.slot d (j + 1)) (nv (h (.slot d (j + 1)))) 0 xs.length,[(.slot d (j + 1),nv (h (.slot d (j + 1))),.arr sz xs)])
 | v=>ob (back0 R h v) fun v'=>some (v',[])
def inL (R : List Id) (h : VHeap) (d : Nat) : Nat -> List VVal -> Option (List VVal × List (Id × Nat × Ob))
 | _,[]=>some ([],[])
 | j,v :: vs=>ob (in0 R h d j v) fun r=>ob (inL R h d (j + 1) vs) fun rs=>some (r.1 :: rs.1,r.2 ++ rs.2)
def in1 (R : List Id) (h : VHeap) (d j : Nat) : VVal -> Option (VVal × List (Id × Nat × Ob))
 | .agg cs=>ob (inL R h d j cs) fun r=>some (.agg r.1,r.2)
 | .boxed cs=>ob (inL R h d (j + 1) cs) fun r=>some (.ptr (.slot d (j + 1)) (nv (h (.slot d (j + 1)))) 0,(.slot d (j + 1),nv (h (.slot d (j + 1))),.box r.1) :: r.2)
 | v=>in0 R h d j v
def width : VVal -> Nat
 | .agg cs=>cs.length
 | .boxed cs=>cs.length + 1
 | _=>1
def inT (R : List Id) (h : VHeap) (d : Nat) : Nat -> List VVal -> Option (List VVal × List (Id × Nat × Ob))
 | _,[]=>some ([],[])
 | j,v :: vs=>ob (in1 R h d j v) fun r=>ob (inT R h d (j + width v) vs) fun rs=>some (r.1 :: rs.1,r.2 ++ rs.2)
def inRes (R : List Id) (h : VHeap) (d : Nat) : VVal -> Option (VVal × List (Id × Nat × Ob))
 | .tup vs=>ob (inT R h d 0 vs) fun r=>some (.tup r.1,r.2)
 | v=>in1 R h d 0 v
def vcallR (Γ : Sig) (h : VHeap) (d : Nat) (f : FuncId) (args : List VVal) (R : List Id) : Option (VVal × List (Id × Nat × Ob)) :=
 ob (mapO (ext1 R h) args) fun args'=>ob (mapO (extBox R h) R) fun H=>ob (Γ f args' H) fun r =>
  gd (args.any lends = false \/ (noAlias r.1 = true /\ r.2.all flatBox = true)) <|
  ob (backBoxes R h R r.2) fun us=>ob (inRes R h d r.1) fun q=>some (q.1,us ++ q.2)
def vcallOp (Γ : Sig) (h : VHeap) (d : Nat) (f : FuncId) (args : List VVal) : Option (VVal × List (Id × Nat × Ob)):=vcallR Γ h d f args (roots h args)
def ptrsW0 : VVal -> List Id
 | .ptr id _ _ | .own id _ _ _ | .mref id _ | .eptr id _ _ _=>[id]
 | _=>[]
def ptrsW1 : VVal -> List Id
 | .fn _ caps=>caps.flatMap ptrsW0
 | .agg cs=>cs.flatMap ptrsW0
 | v=>ptrsW0 v
def objPtrsW (h : VHeap) (id : Id) : List Id :=
 match h id with
 | some (_,.box cs)=>cs.flatMap ptrsW1
 | _=>[]
def rootsW (h : VHeap) (args : List VVal) : List Id :=
 let r0:=addNew [] (args.flatMap ptrsW1)
 if r0.isEmpty then [] else
 let r1:=addNew r0 (r0.flatMap (objPtrsW h))
 let r2:=addNew r1 (r1.flatMap (objPtrsW h))
 r2
def extW0 (R : List Id) (h : VHeap) : VVal -> Option VVal
 | .p d=>some (.p d)
 | .vptr cs off=>some (.vptr cs off)
 | .ptr id ver off=>gd (alive h id ver = true) (ob (posOf R id) fun i=>some (.ptr (.arg i 0) 0 off))
 | .own id ver off len=>gd (alive h id ver = true) (ob (posOf R id) fun i=>some (.own (.arg i 0) 0 off len))
 | .mref id ver=>gd (alive h id ver = true) (ob (posOf R id) fun i=>some (.mref (.arg i 0) 0))
 | .eptr id ver j off=>gd (alive h id ver = true) (ob (posOf R id) fun i=>some (.eptr (.arg i 0) 0 j off))
 | _=>none
def extW1 (R : List Id) (h : VHeap) : VVal -> Option VVal
 | .fn f caps=>ob (mapO (extW0 R h) caps) fun cs=>some (.fn f cs)
 | .agg cs=>ob (mapO (extW0 R h) cs) fun cs=>some (.agg cs)
 | v=>extW0 R h v
def extObW (R : List Id) (h : VHeap) (id : Id) : Option Ob :=
 match h id with
 | some (_,.box cs)=>ob (mapO (extW1 R h) cs) fun cs=>some (.box cs)
 | some (_,.arr sz xs)=>some (.arr sz xs)
 | some (_,.map kt ks vs)=>some (.map kt ks vs)
 | _=>none
def backW0 (R : List Id) (h : VHeap) : VVal -> Option VVal
 | .p d=>some (.p d)
 | .ptr (.arg i 0) 0 off=>ob R[i]? fun id=>ob (h id) fun o=>some (.ptr id o.1 off)
 | .own (.arg i 0) ver off len=>ob R[i]? fun id=>ob (h id) fun o=>some (.own id (o.1 + ver) off len)
 | .mref (.arg i 0) 0=>ob R[i]? fun id=>ob (h id) fun o=>some (.mref id o.1)
 | _=>none
def backW1 (R : List Id) (h : VHeap) : VVal -> Option VVal
 | .fn f caps=>ob (mapO (backW0 R h) caps) fun cs=>some (.fn f cs)
 | v=>backW0 R h v
def inC (R : List Id) (h : VHeap) (d j : Nat) : VVal -> Option (VVal × List (Id × Nat × Ob))
 | .fresh sz xs=>some (.own (.slot d (j + 1)) (nv (h (.slot d (j + 1))) + 1) 0 xs.length,[(.slot d (j + 1),nv (h (.slot d (j + 1))) + 1,.arr sz xs)])
 | v=>ob (backW1 R h v) fun v'=>some (v',[])
def inCL (R : List Id) (h : VHeap) (d : Nat) : Nat -> List VVal -> Option (List VVal × List (Id × Nat × Ob))
 | _,[]=>some ([],[])
 | j,v :: vs=>ob (inC R h d j v) fun r=>ob (inCL R h d (j + 1) vs) fun rs=>some (r.1 :: rs.1,r.2 ++ rs.2)
def backObs (R : List Id) (h : VHeap) (d : Nat) : Nat -> List Id -> List Ob -> Option (List (Id × Nat × Ob) × List (Id × Nat × Ob))
 | _,[],[]=>some ([],[])
 | j,id :: ids,o :: os=>ob (h id) fun q=>match q.2,o with
  | .box _,.box cs=>ob (inCL R h d j cs) fun r=>ob (backObs R h d (j + cs.length) ids os) fun us=>some ((id,q.1,.box r.1) :: us.1,r.2 ++ us.2)
  | .arr _ _,.arr sz xs=>ob (backObs R h d j ids os) fun us=>some ((id,q.1,.arr sz xs) :: us.1,us.2)
  | .arr _ _,.box [.undef,.fresh sz xs]=>ob (backObs R h d j ids os) fun us=>some ((id,q.1 + 1,.arr sz xs) :: us.1,us.2)
  | .map _ _ _,.map kt ks vs=>ob (backObs R h d j ids os) fun us=>some ((id,q.1,.map kt ks vs) :: us.1,us.2)
  | _,_=>none
 | _,_,_=>none
def apartRes (R : List Id) (as_ qs : List (Id × Nat × Ob)) : Bool:=qs.all fun x=>!R.contains x.1 && as_.all fun y=>!decide (y.1 = x.1)
def vcallRW (Γ : Sig) (h : VHeap) (d : Nat) (f : FuncId) (args : List VVal) (R : List Id) : Option (VVal × List (Id × Nat × Ob)) :=
 ob (mapO (extW1 R h) args) fun args'=>ob (mapO (extObW R h) R) fun H=>ob (Γ f args' H) fun r =>
  ob (backObs R h d 1000 R r.2) fun us=>ob (inRes R h d r.1) fun q=>gd (apartRes R us.2 q.2 = true) (some (q.1,us.1 ++ (us.2 ++ q.2)))
def vcallW (Γ : Sig) (h : VHeap) (d : Nat) (f : FuncId) (args : List VVal) : Option (VVal × List (Id × Nat × Ob)):=vcallRW Γ h d f args (rootsW h args)
def vcopy (h : VHeap) (sz : Nat) (a x : VVal) : Option (VVal × List (Id × Nat × Ob)) :=
 match a with
 | .own id ver off len=>match h id with
  | some (v,.arr sz' xs)=>gd (v = ver) <| gd (sz' = sz) <| ob (velems h x) fun r=>gd (r.1 = sz \/ r.2 = []) <|
    some (.p (.int .i64 (min len r.2.length : Nat)),[(id,v,.arr sz (splice xs off (r.2.take (min len r.2.length))))])
  | _=>none
 | _=>none
open Classical in
noncomputable def stillC (h : VHeap) (us : List (Id × Nat × Ob)) : Bool:=decide (∀ x ∈ us,h x.1 = some x.2)
theorem stillC_nil {h : VHeap} : stillC h [] = true:=by simp [stillC]
theorem stillC_cons {h : VHeap} {i : Id} {n : Nat} {o : Ob} {us : List (Id × Nat × Ob)} : (stillC h ((i,n,o) :: us) = true) = (h i = some (n,o) /\ stillC h us = true):=by
 simp only [stillC,decide_eq_true_eq,lfm]
noncomputable def evalOp (Γ : Sig) (look : VArg -> Option VVal) (h : VHeap) (d : Nat) : VOp -> Option (VVal × List (Id × Nat × Ob))
 | .move x=>ob (look x) fun v=>some (v,[])
 | .newArr sz=>some (.own (.slot d 0) (nv (h (.slot d 0))) 0 0,[(.slot d 0,nv (h (.slot d 0)),.arr sz [])])
 | .pick c a b=>ob (look c) fun v=>match v with
  | .p (.bool t)=>br t (ob (look a) fun v=>some (v,[])) (ob (look b) fun v=>some (v,[]))
  | _=>none
 | .alloc zero=>some (.ptr (.slot d 0) (nv (h.upds (zcells d h 0 zero).2 (.slot d 0))) 0,(zcells d h 0 zero).2 ++ [(.slot d 0,nv (h.upds (zcells d h 0 zero).2 (.slot d 0)),.box (zcells d h 0 zero).1)])
 | .box n x=>ob (look x) fun v=>gd ((vcells v).length = n) <| gd ((vcells v).all solid = true) (some (.ptr (.slot d 0) (nv (h (.slot d 0))) 0,[(.slot d 0,nv (h (.slot d 0)),.box (vcells v))]))
 | .build cells=>ob (bcells look d h 0 cells) fun r=>some (.agg r.1,r.2)
 | .buildSlice sz parts=>ob (mapO (fun x=>ob (look x) fun v=>freezeP v) parts) fun xs =>
   gd (xs.all (fun x=>decide (x.cells.length = sz)) = true) (some (.own (.slot d 0) (nv (h (.slot d 0))) 0 parts.length,[(.slot d 0,nv (h (.slot d 0)),.arr sz xs)]))
 | .buildFz sz parts=>ob (mapO (fun x=>ob (look x) fun v=>freezeP v) parts) fun xs =>
   gd (xs.all (fun x=>decide (x.cells.length = sz)) = true) (some (.p (.slice sz xs),[]))
 | .load agg a=>ob (look a) fun p=>ob (vload h agg p) fun v=>some (v,[])
 | .store n a x=>ob (look a) fun p=>ob (look x) fun v=>ob (vstore h n p v) fun us=>some (.undef,us)
 | .fieldAddr off x=>ob (look x) fun v=>match v with
  | .ptr id ver o=>some (.ptr id ver (o + off),[])
  | .vptr cs o=>some (.vptr cs (o + off),[])
  | .eptr id ver i o=>some (.eptr id ver i (o + off),[])
  | _=>none
 | .field off agg x=>ob (look x) fun v=>match v with
  | .agg cs=>ob (ofCells agg cs off) fun r=>some (r,[])
  | _=>none
 | .indexAddr sz x i=>ob (look x) fun s=>ob (look i) fun n=>match n with
  | .p (.int _ n)=>ob (vindex h sz s n) fun r=>some (r,[])
  | _=>none
 | .indexStr x i=>ob (look x) fun s=>ob (look i) fun n=>match s,n with
  | .p (.str s),.p (.int _ n)=>gd (0 <= n) (ob s[n.toNat]? fun b=>some (.p (.int .u8 b.toNat),[]))
  | _,_=>none
 | .bin op x y=>ob (look x) fun a=>ob (look y) fun b=>ob (vbin op a b) fun r=>some (r,[])
 | .eqAgg neg kts x y=>ob (look x) fun a=>ob (look y) fun b=>match a,b with
  | .agg a,.agg b=>ob (mapO unP a) fun xs=>ob (mapO unP b) fun ys=>ob (eqAll kts xs ys) fun r=>some (.p (.bool (if neg then !r else r)),[])
  | _,_=>none
 | .not x=>ob (look x) fun v=>match v with
  | .p (.bool b)=>some (.p (.bool (!b)),[])
  | _=>none
 | .neg x=>ob (look x) fun v=>match v with
  | .p (.int k n)=>some (.p (.int k (k.wrap (0 - n))),[])
  | _=>none
 | .len x=>ob (look x) fun v=>ob (vlen v) fun n=>some (.p (.int .i64 n),[])
 | .lenStr x=>ob (look x) fun v=>ob (vlenS v) fun n=>some (.p (.int .i64 n),[])
 | .eqB neg x y=>ob (look x) fun a=>ob (look y) fun b=>match a,b with
  | .p (.bool a),.p (.bool b)=>some (.p (.bool (if neg then !(a == b) else a == b)),[])
  | _,_=>none
 | .append sz bytes s x=>ob (look s) fun a=>ob (look x) fun b=>vappend h sz bytes a b
 | .appendNil sz bytes x=>ob (look x) fun b=>vappendNil d h sz bytes b
 | .slice str sz lo hi mx x=>ob (look x) fun s=>br str (vsliceS look lo hi s) (vslice d h look sz lo hi mx s)
 | .lookup ok kt zero m k=>ob (look m) fun m=>ob (look k) fun k=>ob (ventries h m) fun es=>gd (es.1 = kt \/ es.2.1 = []) <| ob (mkey kt k) fun k=>some (vlookup ok zero es.2.1 es.2.2 k,[])
 | .mapUpdate kt m k x=>ob (look m) fun m=>ob (look k) fun k=>ob (look x) fun x=>ob (mkey kt k) fun k=>ob (freezeP x) fun x=>match m with
  | .mref id ver=>match h id with
   | some (v,.map kt' ks vs)=>gd (v = ver) <| gd (kt' = kt) (some (.undef,[(id,v,.map kt (mput ks vs k x).1 (mput ks vs k x).2)]))
   | _=>none
  | _=>none
 | .makeMap kt=>some (.mref (.slot d 0) (nv (h (.slot d 0))),[(.slot d 0,nv (h (.slot d 0)),.map kt [] [])])
 | .mapLen x=>ob (look x) fun m=>ob (ventries h m) fun es=>some (.p (.int .i64 es.2.1.length),[])
 | .extract x i=>ob (look x) fun v=>match v with
  | .tup vs=>ob vs[i]? fun v=>some (v,[])
  | _=>none
 | .minmax isMax xs=>ob (mapO look xs) fun vs=>ob (minmaxI isMax vs) fun r=>some (r,[])
 | .conv k x=>ob (look x) fun v=>match v with
  | .p (.int _ n)=>some (.p (.int k (k.wrap n)),[])
  | _=>none
 | .strBytes x=>ob (look x) fun v=>match v with
  | .p (.str s)=>some (.p (.slice 1 (s.data.toList.map fun b=>.int .u8 b.toNat)),[])
  | _=>none
 | .nilCheck x=>ob (look x) fun v=>match v with
  | .ptr id ver off=>some (.ptr id ver off,[])
  | .vptr cs off=>some (.vptr cs off,[])
  | .eptr id ver i off=>some (.eptr id ver i off,[])
  | .fn f caps=>some (.fn f caps,[])
  | _=>none
 | .makeFunc f caps=>ob (mapO look caps) fun cs=>some (.fn f cs,[])
 | .call f args=>ob (mapO look args) fun vs=>vcallOp Γ h d f vs
 | .callv x args=>ob (look x) fun g=>ob (mapO look args) fun vs=>match g with
  | .fn f caps=>vcallOp Γ h d f (vs ++ caps)
  | .p (.fn f)=>vcallOp Γ h d f vs
  | _=>none
 | .callW f args=>ob (mapO look args) fun vs=>vcallW Γ h d f vs
 | .callR f args=>ob (mapO look args) fun vs=>ob (vcallW Γ h d f vs) fun q=>gd (stillC h q.2 = true) (some (q.1,[]))
 | .callvW x args=>ob (look x) fun g=>ob (mapO look args) fun vs=>match g with
  | .fn f caps=>vcallW Γ h d f (vs ++ caps)
  | .p (.fn f)=>vcallW Γ h d f vs
  | _=>none
 | .make sz bytes zero n=>ob (look n) fun v=>match v with
  | .p (.int _ m)=>gd (0 <= m) <| gd ((bytes : Int) * m <= 281474976710656) <| gd (m <= 9223372036854775807) <|
    some (.own (.slot d 0) (nv (h (.slot d 0))) 0 m.toNat,[(.slot d 0,nv (h (.slot d 0)),.arr sz (List.replicate m.toNat zero))])
  | _=>none
 | .copy sz a x=>ob (look a) fun a=>ob (look x) fun x=>vcopy h sz a x
 | .mapEntry kt zero m k=>ob (look m) fun m=>ob (look k) fun k=>ob (mkey kt k) fun k=>match m with
  | .mref id ver=>match h id with
   | some (v,.map kt' ks vs)=>gd (v = ver) <| gd (kt' = kt) (some (.tup [thaw ((mget ks vs k).getD zero),.p (.int .i64 (kpos ks k))],[(id,v,.map kt (mput ks vs k ((mget ks vs k).getD zero)).1 (mput ks vs k ((mget ks vs k).getD zero)).2)]))
   | _=>none
  | _=>none
 | .entryStore m s x=>ob (look m) fun m=>ob (look s) fun s=>ob (look x) fun x=>ob (freezeP x) fun x=>match m,s with
  | .mref id ver,.p (.int .i64 n)=>match h id with
   | some (v,.map kt ks vs)=>gd (v = ver) <| gd (0 <= n) <| gd (n.toNat < vs.length) (some (.undef,[(id,v,.map kt ks (vs.set n.toNat x))]))
   | _=>none
  | _,_=>none
 | .buildArr sz parts=>ob (mapO (fun x=>ob (look x) fun v=>freezeP v) parts) fun xs=>gd (xs.all (fun x=>decide (x.cells.length = sz)) = true) (some (.agg ((xs.flatMap PV.cells).map .p),[]))
 | .indexArr n sz agg x i=>ob (look x) fun v=>ob (look i) fun i=>match v,i with
  | .agg cs,.p (.int _ k)=>gd (0 <= k) <| gd (k < n) <| ob (ofCells agg cs (k.toNat * sz)) fun r=>some (r,[])
  | _,_=>none
end Go.V
namespace Go.V
structure RS where
 pe : Nat -> VVal
 te : Nat -> Option VVal
 h : VHeap
def RS.look (r : RS) : VArg -> Option VVal
 | .v s=>some (r.pe s)
 | .t s=>r.te s
 | .c d=>some (thaw d)
def updV (e : Nat -> VVal) (s : Nat) (v : VVal) : Nat -> VVal:=fun t=>if t = s then v else e t
def updT (e : Nat -> Option VVal) (s : Nat) (v : VVal) : Nat -> Option VVal:=fun t=>if t = s then some v else e t
def RS.put (r : RS) : VDst -> VVal -> RS
 | .v s,v=>{ r with pe:=updV r.pe s v }
 | .t s,v=>{ r with te:=updT r.te s v }
 | .none,_=>r
def VDst.slot : VDst -> Nat
 | .v s | .t s=>s
 | .none=>0
noncomputable def stepO (Γ : Sig) (o : VOper) (r : RS) : Option RS :=
 match o.guard with
 | none=>ob (evalOp Γ r.look r.h o.dst.slot o.op) fun q=>some { r.put o.dst q.1 with h:=r.h.upds q.2 }
 | some (g,want)=>ob (r.look g) fun gv=>match gv with
  | .p (.bool b)=>br (b == want) (ob (evalOp Γ r.look r.h o.dst.slot o.op) fun q=>some { r.put o.dst q.1 with h:=r.h.upds q.2 })
   (some (r.put o.dst .undef))
  | .undef=>some (r.put o.dst .undef)
  | _=>none
def ids0 : VVal -> List Id
 | .own id _ _ _ | .ptr id _ _ | .eptr id _ _ _ | .mref id _=>[id]
 | _=>[]
def ids1 : VVal -> List Id
 | .fn _ cs | .agg cs=>cs.flatMap ids0
 | v=>ids0 v
def VOp.args : VOp -> List VArg
 | .move x | .box _ x | .load _ x | .fieldAddr _ x | .field _ _ x | .not x | .neg x | .len x | .lenStr x | .appendNil _ _ x | .mapLen x | .extract x _ | .conv _ x | .strBytes x | .nilCheck x | .make _ _ _ x=>[x]
 | .newArr _ | .alloc _ | .makeMap _=>[]
 | .pick c a b=>[c,a,b]
 | .build cs=>cs.filterMap fun | .a x _ _=>some x | .z _=>none
 | .buildSlice _ ps=>ps
 | .buildFz _ ps=>ps
 | .store _ a x | .indexAddr _ a x | .indexStr a x | .bin _ a x | .eqAgg _ _ a x | .eqB _ a x | .append _ _ a x | .lookup _ _ _ a x | .copy _ a x=>[a,x]
 | .slice _ _ lo hi mx x=>x :: (lo.toList ++ hi.toList ++ mx.toList)
 | .mapUpdate _ m k x=>[m,k,x]
 | .mapEntry _ _ m k=>[m,k]
 | .entryStore m s x=>[m,s,x]
 | .buildArr _ ps=>ps
 | .indexArr _ _ _ x i=>[x,i]
 | .minmax _ xs | .makeFunc _ xs | .call _ xs | .callW _ xs | .callR _ xs=>xs
 | .callv x xs | .callvW x xs=>x :: xs
def VOp.writes : VOp -> Bool
 | .store _ _ _ | .append _ _ _ _ | .mapUpdate _ _ _ _ | .call _ _ | .callv _ _ | .callW _ _ | .callvW _ _ | .copy _ _ _ | .mapEntry _ _ _ _ | .entryStore _ _ _=>true
 | _=>false
def VOp.isR : VOp -> Bool
 | .callR _ _=>true
 | _=>false
def callArgs : VOp -> List VVal -> List VVal
 | .callv _ _,.fn _ caps :: vs=>vs ++ caps
 | .callv _ _,_ :: vs=>vs
 | .callvW _ _,.fn _ caps :: vs=>vs ++ caps
 | .callvW _ _,_ :: vs=>vs
 | _,vs=>vs
def callRoots (h : VHeap) : VOp -> List VVal -> List Id
 | .callW _ _,vs | .callvW _ _,vs | .callR _ _,vs=>rootsW h vs
 | _,vs=>roots h vs
def touchF (look : VArg -> Option VVal) (h : VHeap) (o : VOper) : List Id :=
 let vs:=o.op.args.filterMap look
 vs.flatMap ids1 ++ (if o.op.writes || o.op.isR then (callArgs o.op vs).flatMap ids1 ++ callRoots h o.op (callArgs o.op vs) else [])
def touch (r : RS) (o : VOper) : List Id:=touchF r.look r.h o
def Id.at : Id -> Nat -> Bool
 | .slot s _,d=>s == d
 | _,_=>false
def apartFp (o o' : VOper) (t t' : List Id) : Bool :=
 (!o.op.writes || t.all fun i=>!t'.contains i) && (!o'.op.writes || t'.all fun i=>!t.contains i) &&
 t.all (fun i=>!i.at o'.dst.slot) && t'.all (fun i=>!i.at o.dst.slot) && o.dst.slot != o'.dst.slot
noncomputable def runOps (Γ : Sig) : List VOper -> RS -> Option RS
 | [],r=>some r
 | o :: os,r=>ob (stepO Γ o r) fun r'=>runOps Γ os r'
def checkFp (fp : List (Nat × Nat)) (i : Nat) (o : VOper) (t : List Id) : List (Nat × VOper × List Id) -> Bool
 | []=>true
 | (a,o',t') :: acc=>if fp.contains (a,i) = true then apartFp o' o t' t && checkFp fp i o t acc else checkFp fp i o t acc
def fpL (fp : List (Nat × Nat)) (i : Nat) : Bool:=fp.any fun p=>p.1 == i
def fpR (fp : List (Nat × Nat)) (i : Nat) : Bool:=fp.any fun p=>p.2 == i
def noteFp (fp : List (Nat × Nat)) (i : Nat) (o : VOper) (r : RS) (acc : List (Nat × VOper × List Id)) : List (Nat × VOper × List Id) :=
 if fpL fp i = true then (i,o,touch r o) :: acc else acc
noncomputable def runFp (Γ : Sig) (fp : List (Nat × Nat)) : Nat -> List VOper -> RS -> List (Nat × VOper × List Id) -> Option RS
 | _,[],r,_=>some r
 | i,o :: os,r,acc=>if fpR fp i = true then gd (checkFp fp i o (touch r o) acc = true) <| ob (stepO Γ o r) fun r'=>runFp Γ fp (i + 1) os r' (noteFp fp i o r acc)
   else ob (stepO Γ o r) fun r'=>runFp Γ fp (i + 1) os r' (noteFp fp i o r acc)
def fzId (fz : List Nat) : Id -> Bool
 | .slot s _=>fz.contains s
 | .arg _ _=>false
def fz0 (fz : List Nat) (h : VHeap) : VVal -> VVal
 | .own id ver off len=>if fzId fz id then
   match velems h (.own id ver off len) with
   | some r=>.p (.slice r.1 r.2)
   | none=>.dead
  else .own id ver off len
 | v=>v
def fz1 (fz : List Nat) (h : VHeap) : VVal -> VVal
 | .agg cs=>.agg (cs.map (fz0 fz h))
 | .tup vs=>.tup (vs.map (fz0 fz h))
 | v=>fz0 fz h v
def fzOb (fz : List Nat) (h : VHeap) (id : Id) : Option (Nat × Ob) :=
 match h id with
 | some (v,.arr sz xs)=>if fzId fz id then some (v + 1,.gone) else some (v,.arr sz xs)
 | some (v,.box cs)=>some (v,.box (cs.map (fz0 fz h)))
 | o=>o
def freeze (fz : List Nat) (s : St) : St:=if fz.isEmpty then s else { pe:=fun t=>fz1 fz s.h (s.pe t),h:=fzOb fz s.h }
noncomputable def execR (Γ : Sig) (r : VRegion) (s : St) : Option St :=
 ob (if r.fp.isEmpty then runOps Γ r.ops { pe:=(freeze r.fz s).pe,te:=fun _=>none,h:=(freeze r.fz s).h }
   else runFp Γ r.fp 0 r.ops { pe:=(freeze r.fz s).pe,te:=fun _=>none,h:=(freeze r.fz s).h } []) fun q=>some { pe:=q.pe,h:=q.h }
def mv0 (a b : Id) (va n : Nat) : VVal -> VVal
 | .own id ver off len=>if id = a /\ ver = va then .own b n off len else .own id ver off len
 | .eptr id ver i off=>if id = a /\ ver = va then .eptr b n i off else .eptr id ver i off
 | v=>v
def mv1 (a b : Id) (va n : Nat) : VVal -> VVal
 | .agg cs=>.agg (cs.map (mv0 a b va n))
 | .tup vs=>.tup (vs.map (mv0 a b va n))
 | v=>mv0 a b va n v
def mvOb (a b : Id) (va n sz : Nat) (xs : List PV) (h : VHeap) : VHeap:=fun id=>if id = b then some (n,.arr sz xs) else if id = a then some (va + 1,.gone) else
 match h id with
 | some (v,.box cs)=>some (v,.box (cs.map (mv0 a b va n)))
 | o=>o
def moved (a b : Id) (s : St) : St:=match s.h a with
 | some (va,.arr sz xs)=>{ pe:=fun t=>mv1 a b va (nv (s.h b)) (s.pe t),h:=mvOb a b va (nv (s.h b)) sz xs s.h }
 | _=>s
def iterN (b : St -> Option (VExit × St)) : Nat -> St -> Option (VExit × St)
 | 0,_=>none
 | n + 1,s=>ob (b s) fun r=>match r.1 with
  | .normal=>iterN b n r.2
  | _=>some r
open Classical in
noncomputable def iter (b : St -> Option (VExit × St)) (s : St) : Option (VExit × St) :=
 if h : ∃ n r,iterN b n s = some r then some (Classical.choose (Classical.choose_spec h)) else none
noncomputable def exec (Γ : Sig) : VCode -> St -> Option (VExit × St)
 | .skip,s=>some (.normal,s)
 | .region r,s=>ob (execR Γ r s) fun s'=>some (.normal,s')
 | .seq a b,s=>ob (exec Γ a s) fun r=>match r.1 with
  | .normal=>exec Γ b r.2
  | _=>some r
 | .cond c a b,s=>match c with
  | .v t=>match s.pe t with
   | .p (.bool c)=>br c (exec Γ a s) (exec Γ b s)
   | _=>none
  | _=>none
 | .block id c,s=>ob (exec Γ c s) fun r=>if r.1 = .exit id then some (.normal,r.2) else some r
 | .loop c,s=>iter (exec Γ c) s
 | .exit id,s=>some (.exit id,s)
 | .ret,s=>some (.ret,s)
 | .mv a b c,s=>exec Γ c (moved a b s)
 | .scope c,s=>exec Γ c s
def enterE (args : List VVal) : Nat -> VVal:=fun s=>args.getD s .undef
def enterH (H : List Ob) : VHeap:=fun id=>match id with
 | .arg i 0=>(H[i]?).map fun o=>(0,o)
 | _=>none
def fetch (s : St) : VRet -> Option VVal
 | .tmp (.v t)=>some (s.pe t)
 | .cell (.v t) agg=>vload s.h agg (s.pe t)
 | _=>none
def out0 (h : VHeap) : VVal -> Option VVal
 | .p d=>some (.p d)
 | .own (.slot s j) ver off len=>ob (velems h (.own (.slot s j) ver off len)) fun r=>gd (off = 0) (some (.fresh r.1 r.2))
 | .mref (.slot s j) ver=>ob (ventries h (.mref (.slot s j) ver)) fun r=>some (.p (.map r.1 r.2.1 r.2.2))
 | .ptr (.arg i 0) ver off=>gd (ver = 0) (some (.ptr (.arg i 0) 0 off))
 | .fn f []=>some (.p (.fn f))
 | _=>none
def out1 (h : VHeap) : VVal -> Option VVal
 | .agg cs=>ob (mapO (out0 h) cs) fun cs=>some (.agg cs)
 | .ptr (.slot s j) ver 0=>match h (.slot s j) with
  | some (v,.box cs)=>gd (v = ver) (ob (mapO (out0 h) cs) fun cs=>some (.boxed cs))
  | _=>none
 | v=>out0 h v
def nodupB : List Id -> Bool
 | []=>true
 | i :: is=>!is.contains i && nodupB is
def ownIds0 : VVal -> List Id
 | .own id _ _ _=>[id]
 | _=>[]
def ownIds1 (h : VHeap) : VVal -> List Id
 | .agg cs=>cs.flatMap ownIds0
 | .ptr id _ _=>match h id with
  | some (_,.box cs)=>id :: cs.flatMap ownIds0
  | _=>[id]
 | v=>ownIds0 v
def outsT (h : VHeap) : List VVal -> Option VVal
 | [v]=>out1 h v
 | vs=>ob (mapO (out1 h) vs) fun vs=>some (.tup vs)
def newIds0 : VVal -> List Id
 | .own (.slot s j) _ _ _=>[.slot s j]
 | _=>[]
def argOwns (h : VHeap) : Nat -> Nat -> List Id
 | _,0=>[]
 | i,n + 1=>(match h (.arg i 0) with
  | some (_,.box cs)=>cs.flatMap newIds0
  | _=>[]) ++ argOwns h (i + 1) n
def outs (h : VHeap) (n : Nat) (vs : List VVal) : Option VVal:=gd (nodupB (vs.flatMap (ownIds1 h) ++ argOwns h 0 n) = true) (outsT h vs)
def outArg1 (h : VHeap) : VVal -> Option VVal
 | .p d=>some (.p d)
 | .ptr (.arg i 0) ver off=>gd (ver = 0) (some (.ptr (.arg i 0) 0 off))
 | .own (.arg i 0) ver off len=>gd (alive h (.arg i 0) ver = true) (some (.own (.arg i 0) (if ver = 0 then 0 else 1) off len))
 | .own (.slot s j) ver off len=>ob (velems h (.own (.slot s j) ver off len)) fun r=>gd (off = 0) (some (.fresh r.1 r.2))
 | .mref (.arg i 0) ver=>gd (ver = 0) (some (.mref (.arg i 0) 0))
 | _=>none
def outArg (h : VHeap) : VVal -> Option VVal
 | .fn f caps=>ob (mapO (outArg1 h) caps) fun cs=>some (.fn f cs)
 | v=>outArg1 h v
def outBox (h : VHeap) (i : Nat) : Option Ob :=
 match h (.arg i 0) with
 | some (v,.box cs)=>gd (v = 0) (ob (mapO (outArg h) cs) fun cs=>some (.box cs))
 | some (v,.arr sz xs)=>some (if v = 0 then .arr sz xs else .box [.undef,.fresh sz xs])
 | some (v,.map kt ks vs)=>gd (v = 0) (some (.map kt ks vs))
 | _=>none
def outH (h : VHeap) : Nat -> Nat -> Option (List Ob)
 | _,0=>some []
 | i,n + 1=>ob (outBox h i) fun o=>ob (outH h (i + 1) n) fun os=>some (o :: os)
def leave (rets : List VRet) (n : Nat) (r : VExit × St) : Option (VVal × List Ob) :=
 match r.1 with
 | .exit _=>none
 | _=>ob (mapO (fetch r.2) rets) fun vs=>ob (outs r.2.h n vs) fun v=>ob (outH r.2.h 0 n) fun H'=>some (v,H')
noncomputable def callF (Γ : Sig) (vf : VFunc) (args : List VVal) (H : List Ob) : Option (VVal × List Ob) :=
 gd (args.length = vf.nparams) <|
  ob (exec Γ vf.body { pe:=enterE args,h:=enterH H }) fun r=>leave vf.rets H.length r
noncomputable def callN (prog : FuncId -> Option VFunc) (X : Sig) : Nat -> Sig
 | 0=>X
 | n + 1=>fun f args H=>match X f args H with
  | some r=>some r
  | none=>match prog f with
   | some vf=>callF (callN prog X n) vf args H
   | none=>none
open Classical in
noncomputable def vcall (prog : FuncId -> Option VFunc) (X : Sig) : Sig:=fun f args H =>
 if h : ∃ n r,callN prog X n f args H = some r then some (Classical.choose (Classical.choose_spec h)) else none
end Go.V
namespace Go.V
def vb3 : VCode:=.seq (rg [oV 2 (.move cF)]) (.seq (.seq (rg [oM 12 0,oC 13 5 [.t 12],oV 14 (.not (.t 13))]) (.cond (.v 14) (.seq (rg [oC 15 6 [],oN 2 15]) .ret) .skip)) (.seq (rg [oM 16 0,oC 17 7 [.t 16],oN 3 17]) (.seq (rg [oV 4 (.move (.c (.str ⟨#[]⟩)))]) (.seq (rg [oJ 5 0,oJ 6 0]) (.seq (.seq (rg [oM 18 3,oC 19 8 [.t 18,.c (.int .i64 8)],oN 7 19]) (.block 0 (.loop (.seq (.seq (rg [oM 20 7,oV 21 (.bin .gtr (.t 20) (cI 0))]) (.cond (.v 21) .skip (.exit 0))) (.seq (.block 1 (.seq (rg [oM 24 3,oC 25 8 [.t 24,.c (.int .i64 5)],oN 8 25]) (.seq (rg [oM 26 4,oT 27 (.buildSlice 1 [.c (.str ⟨#[32]⟩),.c (.str ⟨#[32,32]⟩),.c (.str ⟨#[32,32,32]⟩)]),oM 28 3,oC 29 8 [.t 28,.c (.int .i64 3)],oA 30 1 27 29,oL 31 30,oT 32 (.bin .add (.t 26) (.t 31)),oN 4 32]) (.seq (rg [oM 33 3,oV 34 (.call 9 [.t 33,.c (.int .i64 2)])]) (.cond (.v 34) (.seq (rg [oM 35 4,oM 36 8,oT 37 (.conv .u64 (.t 36)),oT 38 (.bin .shl (cI 1) (.t 37)),oC 39 10 [.t 38],oT 40 (.bin .add (.c (.str ⟨#[43]⟩)) (.t 39)),oT 41 (.bin .add (.t 35) (.t 40)),oN 4 41]) (rg [oM 42 5,oM 43 8,oT 44 (.conv .u64 (.t 43)),oT 45 (.bin .shl (cI 1) (.t 44)),oT 46 (.bin .or (.t 42) (.t 45)),oM 47 6,oM 48 8,oT 49 (.conv .u64 (.t 48)),oT 50 (.bin .shl (cI 1) (.t 49)),oT 51 (.bin .andNot (.t 47) (.t 50)),oN 5 46,oN 6 51])) (.seq (rg [oM 52 4,oM 53 8,oT 54 (.conv .u64 (.t 53)),oT 55 (.bin .shl (cI 1) (.t 54)),oC 56 10 [.t 55],oT 57 (.bin .add (.c (.str ⟨#[45]⟩)) (.t 56)),oT 58 (.bin .add (.t 52) (.t 57)),oN 4 58]) (rg [oM 59 5,oM 60 8,oT 61 (.conv .u64 (.t 60)),oT 62 (.bin .shl (cI 1) (.t 61)),oT 63 (.bin .andNot (.t 59) (.t 62)),oM 64 6,oM 65 8,oT 66 (.conv .u64 (.t 65)),oT 67 (.bin .shl (cI 1) (.t 66)),oT 68 (.bin .or (.t 64) (.t 67)),oN 5 63,oN 6 68]))))))) (rg [oM 22 7,oT 23 (.bin .sub (.t 22) (cI 1)),oN 7 23])))))) (.seq (rg [oM 70 4,oT 71 (.bin .add (.t 70) (.c (.str ⟨#[32]⟩))),oC 72 11 [.t 71],oP 69 72,oE 73 69 0,oE 74 69 1,oE 75 69 2,oN 9 73,oN 10 74,oN 11 75]) (.seq (rg [oM 76 11,oT 77 (.bin .eql (.t 76) (cI 0)),oP 78 77,gM 79 9 78 true,gM 80 5 78 true,oG 81 (.bin .eql (.t 79) (.t 80)) 78 true,oB 82 78 81,oP 83 82,gM 84 10 83 true,gM 85 6 83 true,oG 86 (.bin .eql (.t 84) (.t 85)) 83 true,oB 87 83 86,oP 88 87,oG 89 (.call 6 []) 88 true,oB 90 88 89,oN 2 90]) .ret)))))))
def vf3 : VFunc:={ vs:=[0,2,3,4,5,6,7,8,9,10,11,14,21,34],nparams:=1,rets:=[.tmp (.v 2)],body:=vb3 }
def vb4 : VCode:=.seq (rg [oV 2 (.move cF)]) (.seq (rg [oM 12 0,oT 13 (.bin .rem (.t 12) (.c (.int .u8 32))),oT 14 (.conv .i64 (.t 13)),oN 3 14]) (.seq (rg [oV 4 (.move (.c (.str ⟨#[]⟩)))]) (.seq (.seq (rg [oM 15 3,oV 16 (.call 12 [.t 15]),oV 17 (.len (.v 16)),oJ 18 0]) (.block 0 (.loop (.seq (rg [oV 19 (.bin .lss (.v 18) (.v 17))]) (.seq (.cond (.v 19) .skip (.exit 0)) (.seq (.block 1 (.seq (rg [oT 20 (.indexAddr 1 (.v 16) (.v 18)),oL 21 20,oN 6 21]) (rg [oM 22 4,oM 23 6,oT 24 (.bin .add (.c (.str ⟨#[32,43]⟩)) (.t 23)),oT 25 (.bin .add (.t 22) (.t 24)),oN 4 25]))) (rg [oT 26 (.bin .add (.v 18) (cI 1)),oN 18 26]))))))) (.seq (.seq (rg [oM 27 3,oT 28 (.bin .andNot (cI 31) (.t 27)),oV 29 (.call 12 [.t 28]),oV 30 (.len (.v 29)),oJ 31 0]) (.block 2 (.loop (.seq (rg [oV 32 (.bin .lss (.v 31) (.v 30))]) (.seq (.cond (.v 32) .skip (.exit 2)) (.seq (.block 3 (.seq (rg [oT 33 (.indexAddr 1 (.v 29) (.v 31)),oL 34 33,oN 8 34]) (rg [oM 35 4,oM 36 8,oT 37 (.bin .add (.c (.str ⟨#[32,45]⟩)) (.t 36)),oT 38 (.bin .add (.t 35) (.t 37)),oN 4 38]))) (rg [oT 39 (.bin .add (.v 31) (cI 1)),oN 31 39]))))))) (.seq (rg [oM 41 4,oC 42 11 [.t 41],oP 40 42,oE 43 40 0,oE 44 40 1,oE 45 40 2,oN 9 43,oN 10 44,oN 11 45]) (.seq (rg [oM 46 11,oT 47 (.bin .eql (.t 46) (cI 0)),oP 48 47,gM 49 9 48 true,gM 50 3 48 true,oG 51 (.bin .eql (.t 49) (.t 50)) 48 true,oB 52 48 51,oP 53 52,gM 54 10 53 true,gM 55 3 53 true,oG 56 (.bin .andNot (cI 31) (.t 55)) 53 true,oG 57 (.bin .eql (.t 54) (.t 56)) 53 true,oB 58 53 57,oP 59 58,oG 60 (.call 6 []) 59 true,oB 61 59 60,oN 2 61]) .ret))))))
def vf4 : VFunc:={ vs:=[0,2,3,4,6,8,9,10,11,16,17,18,19,29,30,31,32],nparams:=1,rets:=[.tmp (.v 2)],body:=vb4 }
def vb5 : VCode:=.seq (rg [oV 2 (.move cF)]) (.seq (rg [oM 3 0,oY 4 3,oT 5 (.bin .leq (.t 4) (cI 600)),oN 2 5]) .ret)
def vf5 : VFunc:={ vs:=[0,2],nparams:=1,rets:=[.tmp (.v 2)],body:=vb5 }
def vb6 : VCode:=.seq (rg [oV 0 (.move cF)]) (.seq (rg [oT 5 (.call 11 [.c (.str ⟨#[43,99,112,117,32,45,105,111]⟩)]),oP 4 5,oE 6 4 0,oE 7 4 1,oE 8 4 2,oN 1 6,oN 2 7,oN 3 8]) (.seq (rg [oM 9 3,oT 10 (.bin .eql (.t 9) (cI 0)),oP 11 10,gM 12 1 11 true,oG 13 (.bin .eql (.t 12) (cI 1)) 11 true,oB 14 11 13,oP 15 14,gM 16 2 15 true,oG 17 (.bin .eql (.t 16) (cI 4)) 15 true,oB 18 15 17,oP 19 18,oG 20 (.call 10 [.c (.int .i64 9)]) 19 true,oG 21 (.bin .eql (.t 20) (.c (.str ⟨#[99,112,117,32,112,105,100,115]⟩))) 19 true,oB 22 19 21,oN 0 22]) .ret))
def vf6 : VFunc:={ vs:=[0,1,2,3],nparams:=0,rets:=[.tmp (.v 0)],body:=vb6 }
def vb7 : VCode:=.seq (rg [oV 2 (.move (.c (.nilp)))]) (.seq (rg [oM 3 0,oT 4 (.build [.a (.t 3) 0 1,.z (.c (.int .i64 0))]),oT 5 (.box 2 (.t 4)),oN 2 5]) .ret)
def vf7 : VFunc:={ vs:=[0,2],nparams:=1,rets:=[.tmp (.v 2)],body:=vb7 }
end Go.V
namespace Go.V
def vb8 : VCode:=.seq (rg [oJ 4 0]) (.seq (.seq (rg [oM 6 0,oT 7 (.nilCheck (.t 6)),oQ 8 1 7,oL 9 8,oM 10 0,oT 11 (.nilCheck (.t 10)),oQ 12 0 11,oL 13 12,oY 14 13,oT 15 (.bin .geq (.t 9) (.t 14)),oP 16 15,gM 17 1 16 false,oG 18 (.bin .lss (.t 17) (cI 1)) 16 false,oV 19 (.pick (.t 16) cT (.t 18))]) (.cond (.v 19) (.seq (rg [oJ 4 0]) .ret) .skip)) (.seq (rg [oM 20 0,oT 21 (.nilCheck (.t 20)),oQ 22 1 21,oL 23 22,oI 24 23,oT 25 (.nilCheck (.t 20)),oQ 26 1 25,oZ (.store 1 (.t 26) (.t 24))]) (.seq (rg [oM 27 0,oT 28 (.nilCheck (.t 27)),oQ 29 0 28,oL 30 29,oM 31 0,oT 32 (.nilCheck (.t 31)),oQ 33 1 32,oL 34 33,oT 35 (.bin .sub (.t 34) (cI 1)),oA 36 1 30 35,oL 37 36,oM 38 1,oT 39 (.bin .rem (.t 37) (.t 38)),oN 5 39]) (.seq (.seq (rg [oM 40 5,oV 41 (.bin .lss (.t 40) (cI 0))]) (.cond (.v 41) (rg [oM 42 5,oM 43 1,oT 44 (.bin .add (.t 42) (.t 43)),oN 5 44]) .skip)) (.seq (rg [oM 45 5,oN 4 45]) .ret)))))
def vf8 : VFunc:={ vs:=[0,1,4,5,19,41],nparams:=2,rets:=[.tmp (.v 4)],body:=vb8 }
def vb9 : VCode:=.seq (rg [oV 4 (.move cF)]) (.seq (rg [oM 5 0,oM 6 1,oC 7 8 [.t 5,.t 6],oM 8 1,oT 9 (.bin .sub (.t 8) (cI 1)),oT 10 (.bin .eql (.t 7) (.t 9)),oN 4 10]) .ret)
def vf9 : VFunc:={ vs:=[0,1,4],nparams:=2,rets:=[.tmp (.v 4)],body:=vb9 }
def vb10 : VCode:=.seq (rg [oV 2 (.move (.c (.str ⟨#[]⟩)))]) (.seq (rg [oM 3 0,oC 4 12 [.t 3],oT 5 (.callW 13 [.t 4,.c (.str ⟨#[32]⟩)]),oN 2 5]) .ret)
def vf10 : VFunc:={ vs:=[0,2],nparams:=1,rets:=[.tmp (.v 2)],body:=vb10 }
def vb11 : VCode:=.seq (rg [oJ 2 0,oJ 3 0,oJ 4 0]) (.scope (.seq (rg [oJ 5 0,oJ 6 0]) (.seq .skip (.seq (.seq (rg [oM 11 0,oV 12 (.call 14 [.t 11,.c (.str ⟨#[32]⟩)]),oV 13 (.len (.v 12)),oJ 14 0]) (.block 0 (.loop (.seq (.region ⟨[oV 15 (.bin .lss (.v 14) (.v 13))],[20],[]⟩) (.seq (.cond (.v 15) .skip (.exit 0)) (.seq (.block 1 (.seq (rg [oT 16 (.indexAddr 1 (.v 12) (.v 14)),oL 17 16,oN 8 17]) (.seq (.seq (rg [oM 18 8,oV 19 (.bin .eql (.t 18) (.c (.str ⟨#[]⟩)))]) (.cond (.v 19) (.exit 1) .skip)) (.seq (.seq (rg [oV 20 (.call 15 [.c (.int .i64 31)]),oV 21 (.len (.v 20)),oJ 22 0]) (.block 2 (.loop (.seq (rg [oV 23 (.bin .lss (.v 22) (.v 21))]) (.seq (.cond (.v 23) .skip (.exit 2)) (.seq (.block 3 (.seq (rg [oT 24 (.indexAddr 1 (.v 20) (.v 22)),oL 25 24,oN 10 25]) (.seq (rg [oV 26 (.move (.v 8))]) (.block 4 (.seq (rg [oM 28 10,oC 29 16 [.t 28],oT 30 (.bin .add (.c (.str ⟨#[43]⟩)) (.t 29)),oT 31 (.bin .eql (.v 26) (.t 30)),oN 27 31]) (.cond (.v 27) (.seq (rg [oM 32 5,oM 33 10,oT 34 (.bin .or (.t 32) (.t 33)),oM 35 6,oM 36 10,oT 37 (.bin .andNot (.t 35) (.t 36)),oN 5 34,oN 6 37]) (.exit 1)) (.seq (rg [oM 39 10,oC 40 16 [.t 39],oT 41 (.bin .add (.c (.str ⟨#[45]⟩)) (.t 40)),oT 42 (.bin .eql (.v 26) (.t 41)),oN 38 42]) (.cond (.v 38) (.seq (rg [oM 43 5,oM 44 10,oT 45 (.bin .andNot (.t 43) (.t 44)),oM 46 6,oM 47 10,oT 48 (.bin .or (.t 46) (.t 47)),oN 5 45,oN 6 48]) (.exit 1)) .skip)))))))) (rg [oT 49 (.bin .add (.v 22) (cI 1)),oN 22 49]))))))) (.seq (rg [oJ 2 0,oJ 3 0,oJ 4 2]) .ret))))) (rg [oT 50 (.bin .add (.v 14) (cI 1)),oN 14 50]))))))) (.seq (rg [oM 51 5,oM 52 6,oN 2 51,oN 3 52,oJ 4 0]) .ret)))))
def vf11 : VFunc:={ vs:=[0,2,3,4,5,6,8,10,12,13,14,15,19,20,21,22,23,26,27,38],nparams:=1,rets:=[.tmp (.v 2),.tmp (.v 3),.tmp (.v 4)],body:=vb11 }
def vb12 : VCode:=.seq (rg [oV 2 (.newArr 1)]) (.seq (rg [oV 3 (.newArr 1)]) (.seq (.seq (rg [oM 6 0,oV 7 (.call 15 [.t 6]),oV 8 (.len (.v 7)),oJ 9 0]) (.block 0 (.loop (.seq (rg [oV 10 (.bin .lss (.v 9) (.v 8))]) (.seq (.cond (.v 10) .skip (.exit 0)) (.seq (.block 1 (.seq (rg [oT 11 (.indexAddr 1 (.v 7) (.v 9)),oL 12 11,oN 5 12]) (rg [oM 13 3,oM 14 5,oC 15 16 [.t 14],oT 16 (.buildSlice 1 [.t 15]),oT 17 (.append 1 16 (.t 13) (.t 16)),oN 3 17]))) (rg [oT 18 (.bin .add (.v 9) (cI 1)),oN 9 18]))))))) (.seq (rg [oM 19 3,oN 2 19]) .ret)))
def vf12 : VFunc:={ vs:=[0,2,3,5,7,8,9,10],nparams:=1,rets:=[.tmp (.v 2)],body:=vb12 }
def vb15 : VCode:=.seq (rg [oV 2 (.newArr 1)]) (.seq (rg [oV 3 (.newArr 1)]) (.seq (.seq (rg [oM 5 0,oT 6 (.bin .and (.t 5) (cI 31)),oT 7 (.conv .u64 (.t 6)),oN 4 7]) (.block 0 (.loop (.seq (.seq (rg [oM 8 4,oV 9 (.bin .neq (.t 8) (.c (.int .u64 0)))]) (.cond (.v 9) .skip (.exit 0))) (.seq (.block 1 (rg [oM 14 3,oM 15 4,oC 16 21 [.t 15],oT 17 (.bin .shl (cI 1) (.t 16)),oT 18 (.buildSlice 1 [.t 17]),oT 19 (.append 1 8 (.t 14) (.t 18)),oN 3 19])) (rg [oM 10 4,oM 11 4,oT 12 (.bin .sub (.t 11) (.c (.int .u64 1))),oT 13 (.bin .and (.t 10) (.t 12)),oN 4 13])))))) (.seq (rg [oM 20 3,oN 2 20]) .ret)))
def vf15 : VFunc:={ vs:=[0,2,3,4,9],nparams:=1,rets:=[.tmp (.v 2)],body:=vb15 }
def vb16 : VCode:=.seq (rg [oV 2 (.move (.c (.str ⟨#[]⟩)))]) (.seq (.seq (rg [oV 3 (.move (.v 0))]) (.block 0 (.seq (rg [oT 5 (.bin .eql (.v 3) (cI 1)),oN 4 5]) (.cond (.v 4) (.seq (rg [oV 2 (.move (.c (.str ⟨#[99,112,117]⟩)))]) .ret) (.seq (rg [oT 7 (.bin .eql (.v 3) (cI 2)),oN 6 7]) (.cond (.v 6) (.seq (rg [oV 2 (.move (.c (.str ⟨#[109,101,109,111,114,121]⟩)))]) .ret) (.seq (rg [oT 9 (.bin .eql (.v 3) (cI 4)),oN 8 9]) (.cond (.v 8) (.seq (rg [oV 2 (.move (.c (.str ⟨#[105,111]⟩)))]) .ret) (.seq (rg [oT 11 (.bin .eql (.v 3) (cI 8)),oN 10 11]) (.cond (.v 10) (.seq (rg [oV 2 (.move (.c (.str ⟨#[112,105,100,115]⟩)))]) .ret) .skip)))))))))) (.seq (rg [oV 2 (.move (.c (.str ⟨#[99,112,117,115,101,116]⟩)))]) .ret))
def vf16 : VFunc:={ vs:=[0,2,3,4,6,8,10],nparams:=1,rets:=[.tmp (.v 2)],body:=vb16 }
def prog : FuncId -> Option VFunc | 3=>some vf3 | 4=>some vf4 | 5=>some vf5 | 6=>some vf6 | 7=>some vf7 | 8=>some vf8 | 9=>some vf9 | 10=>some vf10 | 11=>some vf11 | 12=>some vf12 | 15=>some vf15 | 16=>some vf16 | _=>none
end Go.V
