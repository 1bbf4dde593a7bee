/- Part 1 of the proof. -/
import GoSem.Core.Code
import GoSem.Core.View
set_option linter.unusedSectionVars false
set_option linter.unusedSimpArgs false
set_option linter.unusedVariables false
open List renaming forall_mem_cons → lfm
namespace Go.V
theorem cl1 {P : Prop} (h : P := by first | rfl | (simp; done) | (congr 2; omega) | (congr 1; omega) | (congr 3; omega) | (simp; omega) | (congr 2; simp; omega)) : P := h
theorem cl2 {P : Prop} (h : P := by first | rfl | omega | (congr 2; omega)) : P := h
inductive KT where
 | int (k : IntKind)
 | str
 | bool
 deriving DecidableEq,Inhabited
inductive MKey where
 | int (n : Int)
 | str (s : ByteArray)
 | bool (b : Bool)
 deriving DecidableEq
inductive PV where
 | int (k : IntKind) (n : Int)
 | bool (b : Bool)
 | str (s : ByteArray)
 | slice (sz : Nat) (xs : List PV)
 | agg (cs : List PV)
 | map (kt : KT) (ks : List MKey) (vs : List PV)
 | fn (f : FuncId)
 | nilp
 deriving Inhabited
def PV.cells : PV -> List PV
 | .agg cs=>cs
 | v=>[v]
def PV.flat0 : PV -> Bool
 | .int _ _ | .bool _ | .str _ | .fn _ | .nilp=>true
 | _=>false
def PV.flat : PV -> Bool
 | .agg cs=>cs.all PV.flat0
 | d=>d.flat0
inductive Id where
 | slot (s j : Nat)
 | arg (i j : Nat)
 deriving DecidableEq
inductive VVal where
 | p (d : PV)
 | own (id : Id) (ver off len : Nat)
 | ptr (id : Id) (ver off : Nat)
 | vptr (cs : List PV) (off : Nat)
 | eptr (id : Id) (ver i off : Nat)
 | mref (id : Id) (ver : Nat)
 | fn (f : FuncId) (caps : List VVal)
 | agg (cs : List VVal)
 | tup (vs : List VVal)
 | fresh (sz : Nat) (xs : List PV)
 | boxed (cs : List VVal)
 | undef
 | dead
 deriving Inhabited
inductive Ob where
 | box (cs : List VVal)
 | arr (sz : Nat) (xs : List PV)
 | map (kt : KT) (ks : List MKey) (vs : List PV)
 | gone
 deriving Inhabited
abbrev VHeap:=Id -> Option (Nat × Ob)
def VHeap.upd (h : VHeap) (id : Id) (o : Nat × Ob) : VHeap:=fun i=>if i = id then some o else h i
def VHeap.upds (h : VHeap) : List (Id × Nat × Ob) -> VHeap
 | []=>h
 | (id,o) :: us=>(VHeap.upd h id o).upds us
def nv : Option (Nat × Ob) -> Nat
 | none=>0
 | some (v,_)=>v + 1
structure Tok {α : Type} (a : α) : Type where
def ob {α β : Type} (x : Option α) (f : α -> Option β) (_u : Tok f:=⟨⟩) : Option β:=match x with | some a=>f a | none=>none
def gd {α : Type} (c : Prop) [Decidable c] (x : Option α) (_u : Tok x:=⟨⟩) : Option α:=if c then x else none
def br {α : Type} (b : Bool) (x y : α) (_u : Tok x:=⟨⟩) (_v : Tok y:=⟨⟩) : α:=if b then x else y
inductive VArg where
 | v (s : Nat)
 | t (s : Nat)
 | c (d : PV)
 deriving Inhabited
inductive ZC where
 | c (d : PV)
 | nil (sz : Nat)
 deriving Inhabited
inductive BC where
 | z (z : ZC)
 | a (x : VArg) (j n : Nat)
 deriving Inhabited
inductive VOp where
 | move (x : VArg)
 | newArr (sz : Nat)
 | pick (c a b : VArg)
 | alloc (zero : List ZC)
 | box (n : Nat) (x : VArg)
 | build (cells : List BC)
 | buildSlice (sz : Nat) (parts : List VArg)
 | buildFz (sz : Nat) (parts : List VArg)
 | load (agg : Option Nat) (a : VArg)
 | store (n : Nat) (a x : VArg)
 | fieldAddr (off : Nat) (x : VArg)
 | field (off : Nat) (agg : Option Nat) (x : VArg)
 | indexAddr (sz : Nat) (x i : VArg)
 | indexStr (x i : VArg)
 | bin (op : BinOp) (x y : VArg)
 | eqAgg (neg : Bool) (kts : List KT) (x y : VArg)
 | not (x : VArg)
 | neg (x : VArg)
 | len (x : VArg)
 | lenStr (x : VArg)
 | eqB (neg : Bool) (x y : VArg)
 | append (sz bytes : Nat) (s x : VArg)
 | appendNil (sz bytes : Nat) (x : VArg)
 | slice (str : Bool) (sz : Nat) (lo hi mx : Option VArg) (x : VArg)
 | lookup (ok : Bool) (kt : KT) (zero : PV) (m k : VArg)
 | mapUpdate (kt : KT) (m k x : VArg)
 | makeMap (kt : KT)
 | mapLen (x : VArg)
 | extract (x : VArg) (i : Nat)
 | minmax (isMax : Bool) (xs : List VArg)
 | conv (k : IntKind) (x : VArg)
 | strBytes (x : VArg)
 | bytesStr (x : VArg)
 | nilCheck (x : VArg)
 | makeFunc (f : FuncId) (caps : List VArg)
 | call (f : FuncId) (args : List VArg)
 | callv (x : VArg) (args : List VArg)
 | callW (f : FuncId) (args : List VArg)
 | callvW (x : VArg) (args : List VArg)
 | callR (f : FuncId) (args : List VArg)
 | make (sz bytes : Nat) (zero : PV) (n : VArg)
 | copy (sz : Nat) (a x : VArg)
 | mapEntry (kt : KT) (zero : PV) (m k : VArg)
 | entryStore (m s x : VArg)
 | buildArr (sz : Nat) (parts : List VArg)
 | indexArr (n sz : Nat) (agg : Option Nat) (x i : VArg)
 deriving Inhabited
inductive VDst where
 | v (s : Nat)
 | t (s : Nat)
 | none
 deriving Inhabited,DecidableEq
structure VOper where
 dst : VDst
 op : VOp
 guard : Option (VArg × Bool):=.none
 deriving Inhabited
structure VRegion where
 ops : List VOper
 fz : List Nat:=[]
 fp : List (Nat × Nat):=[]
 deriving Inhabited
inductive VCode where
 | skip
 | region (r : VRegion)
 | seq (a b : VCode)
 | cond (c : VArg) (thn els : VCode)
 | block (id : Nat) (c : VCode)
 | loop (c : VCode)
 | exit (id : Nat)
 | ret
 | mv (a b : Id) (c : VCode)
 | scope (c : VCode)
 deriving Inhabited
abbrev oT (n : Nat) (o : VOp) : VOper:=⟨.t n,o,none⟩
abbrev oV (n : Nat) (o : VOp) : VOper:=⟨.v n,o,none⟩
abbrev oZ (o : VOp) : VOper:=⟨.none,o,none⟩
abbrev oG (n : Nat) (o : VOp) (g : Nat) (b : Bool) : VOper:=⟨.t n,o,some (.t g,b)⟩
abbrev oM (n x : Nat) : VOper:=⟨.t n,.move (.v x),none⟩
abbrev oN (n x : Nat) : VOper:=⟨.v n,.move (.t x),none⟩
abbrev oL (n x : Nat) : VOper:=⟨.t n,.load none (.t x),none⟩
abbrev oF (n k x : Nat) : VOper:=⟨.t n,.fieldAddr k (.v x),none⟩
abbrev oK (n k x : Nat) : VOper:=⟨.t n,.load (some k) (.v x),none⟩
abbrev rg (l : List VOper) : VCode:=.region ⟨l,[],[]⟩
abbrev cI (n : Int) : VArg:=.c (.int .i64 n)
abbrev cF : VArg:=.c (.bool false)
abbrev cT : VArg:=.c (.bool true)
abbrev oJ (n : Nat) (i : Int) : VOper:=⟨.v n,.move (.c (.int .i64 i)),none⟩
abbrev oP (n x : Nat) : VOper:=⟨.t n,.move (.t x),none⟩
abbrev oA (n s a b : Nat) : VOper:=⟨.t n,.indexAddr s (.t a) (.t b),none⟩
abbrev oQ (n k x : Nat) : VOper:=⟨.t n,.fieldAddr k (.t x),none⟩
abbrev oC (n : Nat) (f : FuncId) (l : List VArg) : VOper:=⟨.t n,.call f l,none⟩
abbrev oE (n x k : Nat) : VOper:=⟨.t n,.extract (.t x) k,none⟩
abbrev oS (s x y : Nat) : VOper:=⟨.none,.store s (.v x) (.t y),none⟩
abbrev oI (n x : Nat) : VOper:=⟨.t n,.bin .add (.t x) (.c (.int .i64 1)),none⟩
abbrev oO (n x y : Nat) : VOper:=⟨.t n,.pick (.t x) (.c (.bool true)) (.t y),none⟩
abbrev oB (n x y : Nat) : VOper:=⟨.t n,.pick (.t x) (.t y) (.c (.bool false)),none⟩
abbrev oR (n s x : Nat) : VOper:=⟨.t n,.load (some s) (.t x),none⟩
abbrev oY (n x : Nat) : VOper:=⟨.t n,.len (.t x),none⟩
abbrev oX (n s x : Nat) : VOper:=⟨.v n,.box s (.v x),none⟩
abbrev oU (n x y : Nat) : VOper:=⟨.v n,.bin .lss (.t x) (.t y),none⟩
abbrev gL (n x g : Nat) (b : Bool) : VOper:=⟨.t n,.load none (.t x),some (.t g,b)⟩
abbrev gF (n k x g : Nat) (b : Bool) : VOper:=⟨.t n,.fieldAddr k (.v x),some (.t g,b)⟩
abbrev gM (n x g : Nat) (b : Bool) : VOper:=⟨.t n,.move (.v x),some (.t g,b)⟩
inductive VRet where
 | tmp (x : VArg)
 | cell (x : VArg) (agg : Option Nat)
 deriving Inhabited
structure VFunc where
 vs : List Nat
 nparams : Nat
 body : VCode
 rets : List VRet
 deriving Inhabited
structure St where
 pe : Nat -> VVal
 h : VHeap
inductive VExit where
 | normal
 | exit (id : Nat)
 | ret
 deriving DecidableEq
abbrev Sig:=FuncId -> List VVal -> List Ob -> Option (VVal × List Ob)
def vcells : VVal -> List VVal
 | .agg cs=>cs
 | v=>[v]
def ofCells (agg : Option Nat) (cs : List VVal) (off : Nat) : Option VVal :=
 match agg with
 | none=>cs[off]?
 | some n=>gd (off + n <= cs.length) (some (.agg ((cs.drop off).take n)))
def vrow (h : VHeap) : VVal -> Option (List VVal × Nat)
 | .ptr id ver off=>match h id with
  | some (v,.box cs)=>gd (v = ver) (some (cs,off))
  | _=>none
 | .vptr cs off=>some (cs.map .p,off)
 | .eptr id ver i off=>match h id with
  | some (v,.arr _ xs)=>gd (v = ver) (ob xs[i]? fun x=>some (x.cells.map .p,off))
  | _=>none
 | _=>none
def vload (h : VHeap) (agg : Option Nat) (a : VVal) : Option VVal:=ob (vrow h a) fun r=>ofCells agg r.1 r.2
def unP : VVal -> Option PV
 | .p d=>some d
 | .fn f []=>some (.fn f)
 | _=>none
def mapO {α β : Type} (f : α -> Option β) : List α -> Option (List β)
 | []=>some []
 | x :: xs=>ob (f x) fun y=>ob (mapO f xs) fun ys=>some (y :: ys)
def freezeP : VVal -> Option PV
 | .agg cs=>ob (mapO unP cs) fun ds=>some (.agg ds)
 | v=>unP v
def velems (h : VHeap) : VVal -> Option (Nat × List PV)
 | .p (.slice sz xs)=>some (sz,xs)
 | .own id ver off len=>match h id with
  | some (v,.arr sz xs)=>gd (v = ver) (some (sz,(xs.drop off).take len))
  | _=>none
 | _=>none
def vlen : VVal -> Option Nat
 | .p (.slice _ xs)=>some xs.length
 | .own _ _ _ len=>some len
 | _=>none
def vlenS : VVal -> Option Nat
 | .p (.str s)=>some s.size
 | _=>none
def splice {α : Type} (cs : List α) (off : Nat) (vs : List α) : List α:=cs.take off ++ vs ++ cs.drop (off + vs.length)
def setCells (x : PV) (off : Nat) (ds : List PV) : PV :=
 match x with
 | .agg cs=>.agg (splice cs off ds)
 | y=>ds.headD y
def solid : VVal -> Bool
 | .p _ | .own _ _ _ _ | .ptr _ _ _ | .vptr _ _ | .eptr _ _ _ _ | .mref _ _ | .fn _ _=>true
 | _=>false
def vstoreAt (h : VHeap) (n : Nat) (vs : List VVal) : VVal -> Option (List (Id × Nat × Ob))
 | .ptr id ver off=>match h id with
  | some (v,.box cs)=>gd (v = ver) (gd (off + n <= cs.length) (some [(id,v,.box (splice cs off vs))]))
  | _=>none
 | .eptr id ver i off=>match h id with
  | some (v,.arr sz xs)=>gd (v = ver) (ob xs[i]? fun x0=>ob (mapO unP vs) fun ds=>gd (off + n <= x0.cells.length) (some [(id,v,.arr sz (xs.set i (setCells x0 off ds)))]))
  | _=>none
 | _=>none
def vstore (h : VHeap) (n : Nat) (a x : VVal) : Option (List (Id × Nat × Ob)) :=
 gd ((vcells x).length = n) (gd ((vcells x).all solid = true) (vstoreAt h n (vcells x) a))
def vindexAt (h : VHeap) (sz i : Nat) : VVal -> Option VVal
 | .p (.slice sz' xs)=>gd (sz' = sz) (ob xs[i]? fun x=>some (.vptr x.cells 0))
 | .own id ver off len=>match h id with
  | some (v,.arr sz' _)=>gd (v = ver) (gd (sz' = sz) (gd (i < len) (some (.eptr id ver (off + i) 0))))
  | _=>none
 | _=>none
def vindex (h : VHeap) (sz : Nat) (s : VVal) (n : Int) : Option VVal:=gd (0 <= n) (vindexAt h sz n.toNat s)
def zcell (d : Nat) (h : VHeap) (j : Nat) : ZC -> VVal × List (Id × Nat × Ob)
 | .c x=>(.p x,[])
 | .nil sz=>(.own (.slot d (j + 1)) (nv (h (.slot d (j + 1)))) 0 0,[(.slot d (j + 1),nv (h (.slot d (j + 1))),.arr sz [])])
def zcells (d : Nat) : VHeap -> Nat -> List ZC -> List VVal × List (Id × Nat × Ob)
 | _,_,[]=>([],[])
 | h,j,z :: zs=>((zcell d h j z).1 :: (zcells d (h.upds (zcell d h j z).2) (j + 1) zs).1,(zcell d h j z).2 ++ (zcells d (h.upds (zcell d h j z).2) (j + 1) zs).2)
def bcells (look : VArg -> Option VVal) (d : Nat) : VHeap -> Nat -> List BC -> Option (List VVal × List (Id × Nat × Ob))
 | _,_,[]=>some ([],[])
 | h,j,.z z :: bs=>ob (bcells look d (h.upds (zcell d h j z).2) (j + 1) bs) fun rs=>some ((zcell d h j z).1 :: rs.1,(zcell d h j z).2 ++ rs.2)
 | h,j,.a x i n :: bs=>ob (look x) fun v=>gd ((vcells v).length = n) <| ob (vcells v)[i]? fun c=>gd (solid c = true) <| ob (bcells look d h (j + 1) bs) fun rs=>some (c :: rs.1,rs.2)
def andI (k : IntKind) (a b : Int) : Int:=k.wrap (BitVec.ofInt k.bits a &&& BitVec.ofInt k.bits b).toNat
def orI (k : IntKind) (a b : Int) : Int:=k.wrap (BitVec.ofInt k.bits a ||| BitVec.ofInt k.bits b).toNat
def xorI (k : IntKind) (a b : Int) : Int:=k.wrap (BitVec.ofInt k.bits a ^^^ BitVec.ofInt k.bits b).toNat
def antI (k : IntKind) (a b : Int) : Int:=k.wrap (BitVec.ofInt k.bits a &&& ~~~ BitVec.ofInt k.bits b).toNat
def shlI (k : IntKind) (a b : Int) : Int:=k.wrap (a * 2 ^ min b.toNat k.bits)
def shrI (k : IntKind) (a b : Int) : Int:=a.fdiv (2 ^ min b.toNat k.bits)
def ibin (k : IntKind) (a b : Int) : BinOp -> Option VVal
 | .add=>some (.p (.int k (k.wrap (a + b))))
 | .sub=>some (.p (.int k (k.wrap (a - b))))
 | .mul=>some (.p (.int k (k.wrap (a * b))))
 | .quo=>gd (b ≠ 0) (some (.p (.int k (k.wrap (a.tdiv b)))))
 | .rem=>gd (b ≠ 0) (some (.p (.int k (a.tmod b))))
 | .and=>some (.p (.int k (andI k a b)))
 | .or=>some (.p (.int k (orI k a b)))
 | .xor=>some (.p (.int k (xorI k a b)))
 | .andNot=>some (.p (.int k (antI k a b)))
 | .eql=>some (.p (.bool (a == b)))
 | .neq=>some (.p (.bool (a != b)))
 | .lss=>some (.p (.bool (decide (a < b))))
 | .leq=>some (.p (.bool (decide (a <= b))))
 | .gtr=>some (.p (.bool (decide (b < a))))
 | .geq=>some (.p (.bool (decide (b <= a))))
 | _=>none
def sbin (a b : ByteArray) : BinOp -> Option VVal
 | .eql=>some (.p (.bool (decide (a = b))))
 | .neq=>some (.p (.bool (!decide (a = b))))
 | .add=>gd (a.size + b.size <= 9223372036854775807) (some (.p (.str (a ++ b))))
 | _=>none
def isSh : BinOp -> Bool
 | .shl | .shr=>true
 | _=>false
def ishift (k : IntKind) (a b : Int) : BinOp -> Option VVal
 | .shl=>gd (0 <= b) (some (.p (.int k (shlI k a b))))
 | .shr=>gd (0 <= b) (some (.p (.int k (shrI k a b))))
 | _=>none
def vbin (op : BinOp) : VVal -> VVal -> Option VVal
 | .p (.int k a),.p (.int k' b)=>br (isSh op) (ishift k a b op) (gd (k = k') (ibin k a b op))
 | .p (.str a),.p (.str b)=>sbin a b op
 | _,_=>none
def eq0 : KT -> PV -> PV -> Option Bool
 | .int k,.int k' a,.int k'' b=>gd (k' = k) (gd (k'' = k) (some (a == b)))
 | .bool,.bool a,.bool b=>some (a == b)
 | .str,.str a,.str b=>some (decide (a = b))
 | _,_,_=>none
def eqAll : List KT -> List PV -> List PV -> Option Bool
 | [],[],[]=>some true
 | k :: ks,x :: xs,y :: ys=>ob (eq0 k x y) fun b=>ob (eqAll ks xs ys) fun c=>some (b && c)
 | _,_,_=>none
def mm2 (isMax : Bool) : VVal -> VVal -> Option VVal
 | .p (.int k a),.p (.int k' b)=>gd (k = k') (some (.p (.int k (if isMax then max a b else min a b))))
 | _,_=>none
def mmL (isMax : Bool) : VVal -> List VVal -> Option VVal
 | v,[]=>some v
 | v,u :: us=>ob (mm2 isMax v u) fun r=>mmL isMax r us
def minmaxI (isMax : Bool) : List VVal -> Option VVal
 | []=>none
 | v :: vs=>mmL isMax v vs
def mkey : KT -> VVal -> Option MKey
 | .int k,.p (.int k' n)=>gd (k = k') (some (.int n))
 | .str,.p (.str s)=>some (.str s)
 | .bool,.p (.bool b)=>some (.bool b)
 | _,_=>none
def mget : List MKey -> List PV -> MKey -> Option PV
 | k :: ks,v :: vs,k'=>if k' = k then some v else mget ks vs k'
 | _,_,_=>none
def mput : List MKey -> List PV -> MKey -> PV -> List MKey × List PV
 | k :: ks,v :: vs,k',v'=>if k' = k then (k :: ks,v' :: vs) else
   let r:=mput ks vs k' v'
   (k :: r.1,v :: r.2)
 | _,_,k',v'=>([k'],[v'])
def kpos : List MKey -> MKey -> Nat
 | k :: ks,k'=>if k' = k then 0 else kpos ks k' + 1
 | [],_=>0
def ventries (h : VHeap) : VVal -> Option (KT × List MKey × List PV)
 | .p (.map kt ks vs)=>some (kt,ks,vs)
 | .mref id ver=>match h id with
  | some (v,.map kt ks vs)=>gd (v = ver) (some (kt,ks,vs))
  | _=>none
 | _=>none
def thaw : PV -> VVal
 | .agg cs=>.agg (cs.map .p)
 | d=>.p d
def vlookup (ok : Bool) (zero : PV) (ks : List MKey) (vs : List PV) (k : MKey) : VVal :=
 let r:=mget ks vs k
 let v:=thaw (r.getD zero)
 if ok then .tup [v,.p (.bool r.isSome)] else v
def vappend (h : VHeap) (sz bytes : Nat) (s x : VVal) : Option (VVal × List (Id × Nat × Ob)) :=
 match s with
 | .own id ver 0 len=>match h id with
  | some (v,.arr sz' xs)=>gd (v = ver) <| gd (sz' = sz) <| gd (len <= xs.length) <|
    ob (velems h x) fun r=>gd (r.1 = sz \/ r.2 = []) <| gd ((len + r.2.length) * bytes <= 140737488355328) <| gd (len + r.2.length <= 9223372036854775807) <|
     some (.own id (v + 1) 0 (len + r.2.length),[(id,v + 1,.arr sz (xs.take len ++ r.2))])
  | _=>none
 | _=>none
def vappendNil (d : Nat) (h : VHeap) (sz bytes : Nat) (x : VVal) : Option (VVal × List (Id × Nat × Ob)) :=
 ob (velems h x) fun r=>gd (r.1 = sz \/ r.2 = []) <| gd (r.2.length * bytes <= 140737488355328) <| gd (r.2.length <= 9223372036854775807) <|
  some (.own (.slot d 0) (nv (h (.slot d 0))) 0 r.2.length,[(.slot d 0,nv (h (.slot d 0)),.arr sz r.2)])
def natOf : VVal -> Option Nat
 | .p (.int _ n)=>gd (0 <= n) (some n.toNat)
 | _=>none
def optNat (look : VArg -> Option VVal) (d : Nat) : Option VArg -> Option Nat
 | none=>some d
 | some x=>ob (look x) fun v=>natOf v
def vcut (h : VHeap) (sz l m : Nat) : VVal -> Option (VVal × List (Id × Nat × Ob))
 | .p (.slice sz' xs)=>gd (sz' = sz) (some (.p (.slice sz ((xs.drop l).take (m - l))),[]))
 | .own id ver off _=>match h id with
  | some (v,.arr sz' _)=>gd (v = ver) (gd (sz' = sz) (some (.own id ver (off + l) (m - l),[])))
  | _=>none
 | _=>none
def vcut0 (d : Nat) (h : VHeap) (sz : Nat) : Option (VVal × List (Id × Nat × Ob)) :=
 some (.own (.slot d 0) (nv (h (.slot d 0))) 0 0,[(.slot d 0,nv (h (.slot d 0)),.arr sz [])])
def vcut3 (d : Nat) (h : VHeap) (look : VArg -> Option VVal) (sz l m : Nat) (s : VVal) : Option VArg -> Option (VVal × List (Id × Nat × Ob))
 | none=>vcut h sz l m s
 | some x=>ob (look x) fun v=>ob (natOf v) fun k=>gd (l = m) (gd (k = m) (vcut0 d h sz))
def vcutS (l m : Nat) : VVal -> Option (VVal × List (Id × Nat × Ob))
 | .p (.str b)=>some (.p (.str (b.extract l m)),[])
 | _=>none
def vsliceS (look : VArg -> Option VVal) (lo hi : Option VArg) (s : VVal) : Option (VVal × List (Id × Nat × Ob)) :=
 ob (vlenS s) fun n=>ob (optNat look 0 lo) fun l=>ob (optNat look n hi) fun m=>gd (l <= m) (gd (m <= n) (vcutS l m s))
def vslice (d : Nat) (h : VHeap) (look : VArg -> Option VVal) (sz : Nat) (lo hi mx : Option VArg) (s : VVal) : Option (VVal × List (Id × Nat × Ob)) :=
 ob (vlen s) fun n=>ob (optNat look 0 lo) fun l=>ob (optNat look n hi) fun m=>gd (l <= m) (gd (m <= n) (vcut3 d h look sz l m s mx))
def alive (h : VHeap) (id : Id) (ver : Nat) : Bool :=
 match h id with
 | some (v,_)=>decide (v = ver)
 | none=>false
def posOf (R : List Id) (id : Id) : Option Nat:=match R with
 | []=>none
 | r :: rs=>if r = id then some 0 else (posOf rs id).map (· + 1)
def ptrs0 : VVal -> List Id
 | .ptr id _ _=>[id]
 | _=>[]
def ptrs1 : VVal -> List Id
 | .fn _ caps=>caps.flatMap ptrs0
 | .agg cs=>cs.flatMap ptrs0
 | v=>ptrs0 v
def objPtrs (h : VHeap) (id : Id) : List Id :=
 match h id with
 | some (_,.box cs)=>cs.flatMap ptrs1
 | _=>[]
def addNew (R : List Id) : List Id -> List Id
 | []=>R
 | i :: is=>addNew (if R.contains i then R else R ++ [i]) is
def roots (h : VHeap) (args : List VVal) : List Id :=
 let r0:=addNew [] (args.flatMap ptrs1)
 if r0.isEmpty then [] else
 let r1:=addNew r0 (r0.flatMap (objPtrs h))
 let r2:=addNew r1 (r1.flatMap (objPtrs h))
 r2
def ext0 (R : List Id) (h : VHeap) : VVal -> Option VVal
 | .p d=>some (.p d)
 | .own id ver off len=>ob (velems h (.own id ver off len)) fun r=>some (.p (.slice r.1 r.2))
 | .mref id ver=>ob (ventries h (.mref id ver)) fun r=>some (.p (.map r.1 r.2.1 r.2.2))
 | .ptr id ver off=>gd (alive h id ver = true) (ob (posOf R id) fun i=>some (.ptr (.arg i 0) 0 off))
 | .vptr cs off=>some (.vptr cs off)
 | .eptr id ver i off=>match h id with
  | some (v,.arr _ xs)=>gd (v = ver) (ob xs[i]? fun x=>some (.vptr x.cells off))
  | _=>none
 | _=>none
def ext1 (R : List Id) (h : VHeap) : VVal -> Option VVal
 | .fn f caps=>ob (mapO (ext0 R h) caps) fun cs=>some (.fn f cs)
 | .agg cs=>ob (mapO (ext0 R h) cs) fun cs=>some (.agg cs)
 | v=>ext0 R h v
def lends0 : VVal -> Bool
 | .own _ _ _ _ | .mref _ _ | .eptr _ _ _ _=>true
 | _=>false
def lends : VVal -> Bool
 | .agg cs | .fn _ cs=>cs.any lends0
 | v=>lends0 v
def noAlias0 : VVal -> Bool
 | .p d=>d.flat
 | .fresh _ xs=>xs.all PV.flat
 | .ptr _ _ _=>true
 | _=>false
def noAlias1 : VVal -> Bool
 | .agg cs=>cs.all noAlias0
 | .boxed cs=>cs.all noAlias0
 | v=>noAlias0 v
def noAlias : VVal -> Bool
 | .tup vs=>vs.all noAlias1
 | v=>noAlias1 v
def flatC : VVal -> Bool
 | .p d=>d.flat
 | .ptr _ _ _=>true
 | .fn _ cs=>cs.all noAlias0
 | _=>false
def flatBox : Ob -> Bool
 | .box cs=>cs.all flatC
 | _=>false
def extBox (R : List Id) (h : VHeap) (id : Id) : Option Ob :=
 match h id with
 | some (_,.box cs)=>gd (cs.any lends = false) <| ob (mapO (ext1 R h) cs) fun cs=>some (.box cs)
 | _=>none
def back0 (R : List Id) (h : VHeap) : VVal -> Option VVal
 | .p d=>some (.p d)
 | .ptr (.arg i 0) 0 off=>ob R[i]? fun id=>ob (h id) fun o=>some (.ptr id o.1 off)
 | _=>none
def back1 (R : List Id) (h : VHeap) : VVal -> Option VVal
 | .fn f caps=>ob (mapO (back0 R h) caps) fun cs=>some (.fn f cs)
 | v=>back0 R h v
def backBoxes (R : List Id) (h : VHeap) : List Id -> List Ob -> Option (List (Id × Nat × Ob))
 | [],[]=>some []
 | id :: ids,.box cs :: os=>ob (mapO (back1 R h) cs) fun cs'=>ob (h id) fun o=>ob (backBoxes R h ids os) fun us=>some ((id,o.1,.box cs') :: us)
 | _,_=>none
def in0 (R : List Id) (h : VHeap) (d j : Nat) : VVal -> Option (VVal × List (Id × Nat × Ob))
 | .fresh sz xs=>some (.own (.slot d (j + 1)) (nv (h (.slot d (j + 1)))) 0 xs.length,[(.slot d (j + 1),nv (h (.slot d (j + 1))),.arr sz xs)])
 | v=>ob (back0 R h v) fun v'=>some (v',[])
def inL (R : List Id) (h : VHeap) (d : Nat) : Nat -> List VVal -> Option (List VVal × List (Id × Nat × Ob))
 | _,[]=>some ([],[])
 | j,v :: vs=>ob (in0 R h d j v) fun r=>ob (inL R h d (j + 1) vs) fun rs=>some (r.1 :: rs.1,r.2 ++ rs.2)
def in1 (R : List Id) (h : VHeap) (d j : Nat) : VVal -> Option (VVal × List (Id × Nat × Ob))
 | .agg cs=>ob (inL R h d j cs) fun r=>some (.agg r.1,r.2)
 | .boxed cs=>ob (inL R h d (j + 1) cs) fun r=>some (.ptr (.slot d (j + 1)) (nv (h (.slot d (j + 1)))) 0,(.slot d (j + 1),nv (h (.slot d (j + 1))),.box r.1) :: r.2)
 | v=>in0 R h d j v
def width : VVal -> Nat
 | .agg cs=>cs.length
 | .boxed cs=>cs.length + 1
 | _=>1
def inT (R : List Id) (h : VHeap) (d : Nat) : Nat -> List VVal -> Option (List VVal × List (Id × Nat × Ob))
 | _,[]=>some ([],[])
 | j,v :: vs=>ob (in1 R h d j v) fun r=>ob (inT R h d (j + width v) vs) fun rs=>some (r.1 :: rs.1,r.2 ++ rs.2)
def inRes (R : List Id) (h : VHeap) (d : Nat) : VVal -> Option (VVal × List (Id × Nat × Ob))
 | .tup vs=>ob (inT R h d 0 vs) fun r=>some (.tup r.1,r.2)
 | v=>in1 R h d 0 v
def inResW (R : List Id) (h : VHeap) (d : Nat) : VVal -> Option (VVal × List (Id × Nat × Ob))
 | .own (.arg i 0) 0 off len=>ob R[i]? fun id=>ob (h id) fun o=>some (.own id o.1 off len,[])
 | v=>inRes R h d v
def vcallR (Γ : Sig) (h : VHeap) (d : Nat) (f : FuncId) (args : List VVal) (R : List Id) : Option (VVal × List (Id × Nat × Ob)) :=
 ob (mapO (ext1 R h) args) fun args'=>ob (mapO (extBox R h) R) fun H=>ob (Γ f args' H) fun r =>
  gd (args.any lends = false \/ (noAlias r.1 = true /\ r.2.all flatBox = true)) <|
  ob (backBoxes R h R r.2) fun us=>ob (inRes R h d r.1) fun q=>some (q.1,us ++ q.2)
def vcallOp (Γ : Sig) (h : VHeap) (d : Nat) (f : FuncId) (args : List VVal) : Option (VVal × List (Id × Nat × Ob)):=vcallR Γ h d f args (roots h args)
def ptrsW0 : VVal -> List Id
 | .ptr id _ _ | .own id _ _ _ | .mref id _ | .eptr id _ _ _=>[id]
 | _=>[]
def ptrsW1 : VVal -> List Id
 | .fn _ caps=>caps.flatMap ptrsW0
 | .agg cs=>cs.flatMap ptrsW0
 | v=>ptrsW0 v
def objPtrsW (h : VHeap) (id : Id) : List Id :=
 match h id with
 | some (_,.box cs)=>cs.flatMap ptrsW1
 | _=>[]
def rootsW (h : VHeap) (args : List VVal) : List Id :=
 let r0:=addNew [] (args.flatMap ptrsW1)
 if r0.isEmpty then [] else
 let r1:=addNew r0 (r0.flatMap (objPtrsW h))
 let r2:=addNew r1 (r1.flatMap (objPtrsW h))
 r2
def extW0 (R : List Id) (h : VHeap) : VVal -> Option VVal
 | .p d=>some (.p d)
 | .vptr cs off=>some (.vptr cs off)
 | .ptr id ver off=>gd (alive h id ver = true) (ob (posOf R id) fun i=>some (.ptr (.arg i 0) 0 off))
 | .own id ver off len=>gd (alive h id ver = true) (ob (posOf R id) fun i=>some (.own (.arg i 0) 0 off len))
 | .mref id ver=>gd (alive h id ver = true) (ob (posOf R id) fun i=>some (.mref (.arg i 0) 0))
 | .eptr id ver j off=>gd (alive h id ver = true) (ob (posOf R id) fun i=>some (.eptr (.arg i 0) 0 j off))
 | _=>none
def extW1 (R : List Id) (h : VHeap) : VVal -> Option VVal
 | .fn f caps=>ob (mapO (extW0 R h) caps) fun cs=>some (.fn f cs)
 | .agg cs=>ob (mapO (extW0 R h) cs) fun cs=>some (.agg cs)
 | v=>extW0 R h v
def extObW (R : List Id) (h : VHeap) (id : Id) : Option Ob :=
 match h id with
 | some (_,.box cs)=>ob (mapO (extW1 R h) cs) fun cs=>some (.box cs)
 | some (_,.arr sz xs)=>some (.arr sz xs)
 | some (_,.map kt ks vs)=>some (.map kt ks vs)
 | _=>none
def backW0 (R : List Id) (h : VHeap) : VVal -> Option VVal
 | .p d=>some (.p d)
 | .ptr (.arg i 0) 0 off=>ob R[i]? fun id=>ob (h id) fun o=>some (.ptr id o.1 off)
 | .own (.arg i 0) ver off len=>ob R[i]? fun id=>ob (h id) fun o=>some (.own id (o.1 + ver) off len)
 | .mref (.arg i 0) 0=>ob R[i]? fun id=>ob (h id) fun o=>some (.mref id o.1)
 | _=>none
def backW1 (R : List Id) (h : VHeap) : VVal -> Option VVal
 | .fn f caps=>ob (mapO (backW0 R h) caps) fun cs=>some (.fn f cs)
 | v=>backW0 R h v
def inC (R : List Id) (h : VHeap) (d j : Nat) : VVal -> Option (VVal × List (Id × Nat × Ob))
 | .fresh sz xs=>some (.own (.slot d (j + 1)) (nv (h (.slot d (j + 1))) + 1) 0 xs.length,[(.slot d (j + 1),nv (h (.slot d (j + 1))) + 1,.arr sz xs)])
 | v=>ob (backW1 R h v) fun v'=>some (v',[])
def inCL (R : List Id) (h : VHeap) (d : Nat) : Nat -> List VVal -> Option (List VVal × List (Id × Nat × Ob))
 | _,[]=>some ([],[])
 | j,v :: vs=>ob (inC R h d j v) fun r=>ob (inCL R h d (j + 1) vs) fun rs=>some (r.1 :: rs.1,r.2 ++ rs.2)
def backObs (R : List Id) (h : VHeap) (d : Nat) : Nat -> List Id -> List Ob -> Option (List (Id × Nat × Ob) × List (Id × Nat × Ob))
 | _,[],[]=>some ([],[])
 | j,id :: ids,o :: os=>ob (h id) fun q=>match q.2,o with
  | .box _,.box cs=>ob (inCL R h d j cs) fun r=>ob (backObs R h d (j + cs.length) ids os) fun us=>some ((id,q.1,.box r.1) :: us.1,r.2 ++ us.2)
  | .arr _ _,.arr sz xs=>ob (backObs R h d j ids os) fun us=>some ((id,q.1,.arr sz xs) :: us.1,us.2)
  | .arr _ _,.box [.undef,.fresh sz xs]=>ob (backObs R h d j ids os) fun us=>some ((id,q.1 + 1,.arr sz xs) :: us.1,us.2)
  | .map _ _ _,.map kt ks vs=>ob (backObs R h d j ids os) fun us=>some ((id,q.1,.map kt ks vs) :: us.1,us.2)
  | _,_=>none
 | _,_,_=>none
def apartRes (R : List Id) (as_ qs : List (Id × Nat × Ob)) : Bool:=qs.all fun x=>!R.contains x.1 && as_.all fun y=>!decide (y.1 = x.1)
def vcallRW (Γ : Sig) (h : VHeap) (d : Nat) (f : FuncId) (args : List VVal) (R : List Id) : Option (VVal × List (Id × Nat × Ob)) :=
 ob (mapO (extW1 R h) args) fun args'=>ob (mapO (extObW R h) R) fun H=>ob (Γ f args' H) fun r =>
  ob (backObs R h d 1000 R r.2) fun us=>ob (inResW R h d r.1) fun q=>gd (apartRes R us.2 q.2 = true) (some (q.1,us.1 ++ (us.2 ++ q.2)))
def vcallW (Γ : Sig) (h : VHeap) (d : Nat) (f : FuncId) (args : List VVal) : Option (VVal × List (Id × Nat × Ob)):=vcallRW Γ h d f args (rootsW h args)
def vcopy (h : VHeap) (sz : Nat) (a x : VVal) : Option (VVal × List (Id × Nat × Ob)) :=
 match a with
 | .own id ver off len=>match h id with
  | some (v,.arr sz' xs)=>gd (v = ver) <| gd (sz' = sz) <| ob (velems h x) fun r=>gd (r.1 = sz \/ r.2 = []) <|
    some (.p (.int .i64 (min len r.2.length : Nat)),[(id,v,.arr sz (splice xs off (r.2.take (min len r.2.length))))])
  | _=>none
 | _=>none
def unU8 : PV -> Option Int
 | .int .u8 n=>some n
 | _=>none
def bytesI (ns : List Int) : ByteArray:=⟨(ns.map fun n=>UInt8.ofNat n.toNat).toArray⟩
open Classical in
noncomputable def stillC (h : VHeap) (us : List (Id × Nat × Ob)) : Bool:=decide (∀ x ∈ us,h x.1 = some x.2)
theorem stillC_nil {h : VHeap} : stillC h [] = true:=by simp [stillC]
theorem stillC_cons {h : VHeap} {i : Id} {n : Nat} {o : Ob} {us : List (Id × Nat × Ob)} : (stillC h ((i,n,o) :: us) = true) = (h i = some (n,o) /\ stillC h us = true):=by
 simp only [stillC,decide_eq_true_eq,lfm]
noncomputable def evalOp (Γ : Sig) (look : VArg -> Option VVal) (h : VHeap) (d : Nat) : VOp -> Option (VVal × List (Id × Nat × Ob))
 | .move x=>ob (look x) fun v=>some (v,[])
 | .newArr sz=>some (.own (.slot d 0) (nv (h (.slot d 0))) 0 0,[(.slot d 0,nv (h (.slot d 0)),.arr sz [])])
 | .pick c a b=>ob (look c) fun v=>match v with
  | .p (.bool t)=>br t (ob (look a) fun v=>some (v,[])) (ob (look b) fun v=>some (v,[]))
  | _=>none
 | .alloc zero=>some (.ptr (.slot d 0) (nv (h.upds (zcells d h 0 zero).2 (.slot d 0))) 0,(zcells d h 0 zero).2 ++ [(.slot d 0,nv (h.upds (zcells d h 0 zero).2 (.slot d 0)),.box (zcells d h 0 zero).1)])
 | .box n x=>ob (look x) fun v=>gd ((vcells v).length = n) <| gd ((vcells v).all solid = true) (some (.ptr (.slot d 0) (nv (h (.slot d 0))) 0,[(.slot d 0,nv (h (.slot d 0)),.box (vcells v))]))
 | .build cells=>ob (bcells look d h 0 cells) fun r=>some (.agg r.1,r.2)
 | .buildSlice sz parts=>ob (mapO (fun x=>ob (look x) fun v=>freezeP v) parts) fun xs =>
   gd (xs.all (fun x=>decide (x.cells.length = sz)) = true) (some (.own (.slot d 0) (nv (h (.slot d 0))) 0 parts.length,[(.slot d 0,nv (h (.slot d 0)),.arr sz xs)]))
 | .buildFz sz parts=>ob (mapO (fun x=>ob (look x) fun v=>freezeP v) parts) fun xs =>
   gd (xs.all (fun x=>decide (x.cells.length = sz)) = true) (some (.p (.slice sz xs),[]))
 | .load agg a=>ob (look a) fun p=>ob (vload h agg p) fun v=>some (v,[])
 | .store n a x=>ob (look a) fun p=>ob (look x) fun v=>ob (vstore h n p v) fun us=>some (.undef,us)
 | .fieldAddr off x=>ob (look x) fun v=>match v with
  | .ptr id ver o=>some (.ptr id ver (o + off),[])
  | .vptr cs o=>some (.vptr cs (o + off),[])
  | .eptr id ver i o=>some (.eptr id ver i (o + off),[])
  | _=>none
 | .field off agg x=>ob (look x) fun v=>match v with
  | .agg cs=>ob (ofCells agg cs off) fun r=>some (r,[])
  | _=>none
 | .indexAddr sz x i=>ob (look x) fun s=>ob (look i) fun n=>match n with
  | .p (.int _ n)=>ob (vindex h sz s n) fun r=>some (r,[])
  | _=>none
 | .indexStr x i=>ob (look x) fun s=>ob (look i) fun n=>match s,n with
  | .p (.str s),.p (.int _ n)=>gd (0 <= n) (ob s[n.toNat]? fun b=>some (.p (.int .u8 b.toNat),[]))
  | _,_=>none
 | .bin op x y=>ob (look x) fun a=>ob (look y) fun b=>ob (vbin op a b) fun r=>some (r,[])
 | .eqAgg neg kts x y=>ob (look x) fun a=>ob (look y) fun b=>match a,b with
  | .agg a,.agg b=>ob (mapO unP a) fun xs=>ob (mapO unP b) fun ys=>ob (eqAll kts xs ys) fun r=>some (.p (.bool (if neg then !r else r)),[])
  | _,_=>none
 | .not x=>ob (look x) fun v=>match v with
  | .p (.bool b)=>some (.p (.bool (!b)),[])
  | _=>none
 | .neg x=>ob (look x) fun v=>match v with
  | .p (.int k n)=>some (.p (.int k (k.wrap (0 - n))),[])
  | _=>none
 | .len x=>ob (look x) fun v=>ob (vlen v) fun n=>some (.p (.int .i64 n),[])
 | .lenStr x=>ob (look x) fun v=>ob (vlenS v) fun n=>some (.p (.int .i64 n),[])
 | .eqB neg x y=>ob (look x) fun a=>ob (look y) fun b=>match a,b with
  | .p (.bool a),.p (.bool b)=>some (.p (.bool (if neg then !(a == b) else a == b)),[])
  | _,_=>none
 | .append sz bytes s x=>ob (look s) fun a=>ob (look x) fun b=>vappend h sz bytes a b
 | .appendNil sz bytes x=>ob (look x) fun b=>vappendNil d h sz bytes b
 | .slice str sz lo hi mx x=>ob (look x) fun s=>br str (vsliceS look lo hi s) (vslice d h look sz lo hi mx s)
 | .lookup ok kt zero m k=>ob (look m) fun m=>ob (look k) fun k=>ob (ventries h m) fun es=>gd (es.1 = kt \/ es.2.1 = []) <| ob (mkey kt k) fun k=>some (vlookup ok zero es.2.1 es.2.2 k,[])
 | .mapUpdate kt m k x=>ob (look m) fun m=>ob (look k) fun k=>ob (look x) fun x=>ob (mkey kt k) fun k=>ob (freezeP x) fun x=>match m with
  | .mref id ver=>match h id with
   | some (v,.map kt' ks vs)=>gd (v = ver) <| gd (kt' = kt) (some (.undef,[(id,v,.map kt (mput ks vs k x).1 (mput ks vs k x).2)]))
   | _=>none
  | _=>none
 | .makeMap kt=>some (.mref (.slot d 0) (nv (h (.slot d 0))),[(.slot d 0,nv (h (.slot d 0)),.map kt [] [])])
 | .mapLen x=>ob (look x) fun m=>ob (ventries h m) fun es=>some (.p (.int .i64 es.2.1.length),[])
 | .extract x i=>ob (look x) fun v=>match v with
  | .tup vs=>ob vs[i]? fun v=>some (v,[])
  | _=>none
 | .minmax isMax xs=>ob (mapO look xs) fun vs=>ob (minmaxI isMax vs) fun r=>some (r,[])
 | .conv k x=>ob (look x) fun v=>match v with
  | .p (.int _ n)=>some (.p (.int k (k.wrap n)),[])
  | _=>none
 | .strBytes x=>ob (look x) fun v=>match v with
  | .p (.str s)=>some (.p (.slice 1 (s.data.toList.map fun b=>.int .u8 b.toNat)),[])
  | _=>none
 | .bytesStr x=>ob (look x) fun v=>ob (velems h v) fun r=>gd (r.1 = 1) <| ob (mapO unU8 r.2) fun ns=>some (.p (.str (bytesI ns)),[])
 | .nilCheck x=>ob (look x) fun v=>match v with
  | .ptr id ver off=>some (.ptr id ver off,[])
  | .vptr cs off=>some (.vptr cs off,[])
  | .eptr id ver i off=>some (.eptr id ver i off,[])
  | .fn f caps=>some (.fn f caps,[])
  | _=>none
 | .makeFunc f caps=>ob (mapO look caps) fun cs=>some (.fn f cs,[])
 | .call f args=>ob (mapO look args) fun vs=>vcallOp Γ h d f vs
 | .callv x args=>ob (look x) fun g=>ob (mapO look args) fun vs=>match g with
  | .fn f caps=>vcallOp Γ h d f (vs ++ caps)
  | .p (.fn f)=>vcallOp Γ h d f vs
  | _=>none
 | .callW f args=>ob (mapO look args) fun vs=>vcallW Γ h d f vs
 | .callR f args=>ob (mapO look args) fun vs=>ob (vcallW Γ h d f vs) fun q=>gd (stillC h q.2 = true) (some (q.1,[]))
 | .callvW x args=>ob (look x) fun g=>ob (mapO look args) fun vs=>match g with
  | .fn f caps=>vcallW Γ h d f (vs ++ caps)
  | .p (.fn f)=>vcallW Γ h d f vs
  | _=>none
 | .make sz bytes zero n=>ob (look n) fun v=>match v with
  | .p (.int _ m)=>gd (0 <= m) <| gd ((bytes : Int) * m <= 281474976710656) <| gd (m <= 9223372036854775807) <|
    some (.own (.slot d 0) (nv (h (.slot d 0))) 0 m.toNat,[(.slot d 0,nv (h (.slot d 0)),.arr sz (List.replicate m.toNat zero))])
  | _=>none
 | .copy sz a x=>ob (look a) fun a=>ob (look x) fun x=>vcopy h sz a x
 | .mapEntry kt zero m k=>ob (look m) fun m=>ob (look k) fun k=>ob (mkey kt k) fun k=>match m with
  | .mref id ver=>match h id with
   | some (v,.map kt' ks vs)=>gd (v = ver) <| gd (kt' = kt) (some (.tup [thaw ((mget ks vs k).getD zero),.p (.int .i64 (kpos ks k))],[(id,v,.map kt (mput ks vs k ((mget ks vs k).getD zero)).1 (mput ks vs k ((mget ks vs k).getD zero)).2)]))
   | _=>none
  | _=>none
 | .entryStore m s x=>ob (look m) fun m=>ob (look s) fun s=>ob (look x) fun x=>ob (freezeP x) fun x=>match m,s with
  | .mref id ver,.p (.int .i64 n)=>match h id with
   | some (v,.map kt ks vs)=>gd (v = ver) <| gd (0 <= n) <| gd (n.toNat < vs.length) (some (.undef,[(id,v,.map kt ks (vs.set n.toNat x))]))
   | _=>none
  | _,_=>none
 | .buildArr sz parts=>ob (mapO (fun x=>ob (look x) fun v=>freezeP v) parts) fun xs=>gd (xs.all (fun x=>decide (x.cells.length = sz)) = true) (some (.agg ((xs.flatMap PV.cells).map .p),[]))
 | .indexArr n sz agg x i=>ob (look x) fun v=>ob (look i) fun i=>match v,i with
  | .agg cs,.p (.int _ k)=>gd (0 <= k) <| gd (k < n) <| ob (ofCells agg cs (k.toNat * sz)) fun r=>some (r,[])
  | _,_=>none
end Go.V
namespace Go.V
structure RS where
 pe : Nat -> VVal
 te : Nat -> Option VVal
 h : VHeap
def RS.look (r : RS) : VArg -> Option VVal
 | .v s=>some (r.pe s)
 | .t s=>r.te s
 | .c d=>some (thaw d)
def updV (e : Nat -> VVal) (s : Nat) (v : VVal) : Nat -> VVal:=fun t=>if t = s then v else e t
def updT (e : Nat -> Option VVal) (s : Nat) (v : VVal) : Nat -> Option VVal:=fun t=>if t = s then some v else e t
def RS.put (r : RS) : VDst -> VVal -> RS
 | .v s,v=>{ r with pe:=updV r.pe s v }
 | .t s,v=>{ r with te:=updT r.te s v }
 | .none,_=>r
def VDst.slot : VDst -> Nat
 | .v s | .t s=>s
 | .none=>0
noncomputable def stepO (Γ : Sig) (o : VOper) (r : RS) : Option RS :=
 match o.guard with
 | none=>ob (evalOp Γ r.look r.h o.dst.slot o.op) fun q=>some { r.put o.dst q.1 with h:=r.h.upds q.2 }
 | some (g,want)=>ob (r.look g) fun gv=>match gv with
  | .p (.bool b)=>br (b == want) (ob (evalOp Γ r.look r.h o.dst.slot o.op) fun q=>some { r.put o.dst q.1 with h:=r.h.upds q.2 })
   (some (r.put o.dst .undef))
  | .undef=>some (r.put o.dst .undef)
  | _=>none
def ids0 : VVal -> List Id
 | .own id _ _ _ | .ptr id _ _ | .eptr id _ _ _ | .mref id _=>[id]
 | _=>[]
def ids1 : VVal -> List Id
 | .fn _ cs | .agg cs=>cs.flatMap ids0
 | v=>ids0 v
def VOp.args : VOp -> List VArg
 | .move x | .box _ x | .load _ x | .fieldAddr _ x | .field _ _ x | .not x | .neg x | .len x | .lenStr x | .appendNil _ _ x | .mapLen x | .extract x _ | .conv _ x | .strBytes x | .bytesStr x | .nilCheck x | .make _ _ _ x=>[x]
 | .newArr _ | .alloc _ | .makeMap _=>[]
 | .pick c a b=>[c,a,b]
 | .build cs=>cs.filterMap fun | .a x _ _=>some x | .z _=>none
 | .buildSlice _ ps=>ps
 | .buildFz _ ps=>ps
 | .store _ a x | .indexAddr _ a x | .indexStr a x | .bin _ a x | .eqAgg _ _ a x | .eqB _ a x | .append _ _ a x | .lookup _ _ _ a x | .copy _ a x=>[a,x]
 | .slice _ _ lo hi mx x=>x :: (lo.toList ++ hi.toList ++ mx.toList)
 | .mapUpdate _ m k x=>[m,k,x]
 | .mapEntry _ _ m k=>[m,k]
 | .entryStore m s x=>[m,s,x]
 | .buildArr _ ps=>ps
 | .indexArr _ _ _ x i=>[x,i]
 | .minmax _ xs | .makeFunc _ xs | .call _ xs | .callW _ xs | .callR _ xs=>xs
 | .callv x xs | .callvW x xs=>x :: xs
def VOp.writes : VOp -> Bool
 | .store _ _ _ | .append _ _ _ _ | .mapUpdate _ _ _ _ | .call _ _ | .callv _ _ | .callW _ _ | .callvW _ _ | .copy _ _ _ | .mapEntry _ _ _ _ | .entryStore _ _ _=>true
 | _=>false
def VOp.isR : VOp -> Bool
 | .callR _ _=>true
 | _=>false
def callArgs : VOp -> List VVal -> List VVal
 | .callv _ _,.fn _ caps :: vs=>vs ++ caps
 | .callv _ _,_ :: vs=>vs
 | .callvW _ _,.fn _ caps :: vs=>vs ++ caps
 | .callvW _ _,_ :: vs=>vs
 | _,vs=>vs
def callRoots (h : VHeap) : VOp -> List VVal -> List Id
 | .callW _ _,vs | .callvW _ _,vs | .callR _ _,vs=>rootsW h vs
 | _,vs=>roots h vs
def touchF (look : VArg -> Option VVal) (h : VHeap) (o : VOper) : List Id :=
 let vs:=o.op.args.filterMap look
 vs.flatMap ids1 ++ (if o.op.writes || o.op.isR then (callArgs o.op vs).flatMap ids1 ++ callRoots h o.op (callArgs o.op vs) else [])
def touch (r : RS) (o : VOper) : List Id:=touchF r.look r.h o
def Id.at : Id -> Nat -> Bool
 | .slot s _,d=>s == d
 | _,_=>false
def apartFp (o o' : VOper) (t t' : List Id) : Bool :=
 (!o.op.writes || t.all fun i=>!t'.contains i) && (!o'.op.writes || t'.all fun i=>!t.contains i) &&
 t.all (fun i=>!i.at o'.dst.slot) && t'.all (fun i=>!i.at o.dst.slot) && o.dst.slot != o'.dst.slot
noncomputable def runOps (Γ : Sig) : List VOper -> RS -> Option RS
 | [],r=>some r
 | o :: os,r=>ob (stepO Γ o r) fun r'=>runOps Γ os r'
def checkFp (fp : List (Nat × Nat)) (i : Nat) (o : VOper) (t : List Id) : List (Nat × VOper × List Id) -> Bool
 | []=>true
 | (a,o',t') :: acc=>if fp.contains (a,i) = true then apartFp o' o t' t && checkFp fp i o t acc else checkFp fp i o t acc
def fpL (fp : List (Nat × Nat)) (i : Nat) : Bool:=fp.any fun p=>p.1 == i
def fpR (fp : List (Nat × Nat)) (i : Nat) : Bool:=fp.any fun p=>p.2 == i
def noteFp (fp : List (Nat × Nat)) (i : Nat) (o : VOper) (r : RS) (acc : List (Nat × VOper × List Id)) : List (Nat × VOper × List Id) :=
 if fpL fp i = true then (i,o,touch r o) :: acc else acc
noncomputable def runFp (Γ : Sig) (fp : List (Nat × Nat)) : Nat -> List VOper -> RS -> List (Nat × VOper × List Id) -> Option RS
 | _,[],r,_=>some r
 | i,o :: os,r,acc=>if fpR fp i = true then gd (checkFp fp i o (touch r o) acc = true) <| ob (stepO Γ o r) fun r'=>runFp Γ fp (i + 1) os r' (noteFp fp i o r acc)
   else ob (stepO Γ o r) fun r'=>runFp Γ fp (i + 1) os r' (noteFp fp i o r acc)
def fzId (fz : List Nat) : Id -> Bool
 | .slot s _=>fz.contains s
 | .arg _ _=>false
def fz0 (fz : List Nat) (h : VHeap) : VVal -> VVal
 | .own id ver off len=>if fzId fz id then
   match velems h (.own id ver off len) with
   | some r=>.p (.slice r.1 r.2)
   | none=>.dead
  else .own id ver off len
 | v=>v
def fz1 (fz : List Nat) (h : VHeap) : VVal -> VVal
 | .agg cs=>.agg (cs.map (fz0 fz h))
 | .tup vs=>.tup (vs.map (fz0 fz h))
 | v=>fz0 fz h v
def fzOb (fz : List Nat) (h : VHeap) (id : Id) : Option (Nat × Ob) :=
 match h id with
 | some (v,.arr sz xs)=>if fzId fz id then some (v + 1,.gone) else some (v,.arr sz xs)
 | some (v,.box cs)=>some (v,.box (cs.map (fz0 fz h)))
 | o=>o
def freeze (fz : List Nat) (s : St) : St:=if fz.isEmpty then s else { pe:=fun t=>fz1 fz s.h (s.pe t),h:=fzOb fz s.h }
noncomputable def execR (Γ : Sig) (r : VRegion) (s : St) : Option St :=
 ob (if r.fp.isEmpty then runOps Γ r.ops { pe:=(freeze r.fz s).pe,te:=fun _=>none,h:=(freeze r.fz s).h }
   else runFp Γ r.fp 0 r.ops { pe:=(freeze r.fz s).pe,te:=fun _=>none,h:=(freeze r.fz s).h } []) fun q=>some { pe:=q.pe,h:=q.h }
def mv0 (a b : Id) (va n : Nat) : VVal -> VVal
 | .own id ver off len=>if id = a /\ ver = va then .own b n off len else .own id ver off len
 | .eptr id ver i off=>if id = a /\ ver = va then .eptr b n i off else .eptr id ver i off
 | v=>v
def mv1 (a b : Id) (va n : Nat) : VVal -> VVal
 | .agg cs=>.agg (cs.map (mv0 a b va n))
 | .tup vs=>.tup (vs.map (mv0 a b va n))
 | v=>mv0 a b va n v
def mvOb (a b : Id) (va n sz : Nat) (xs : List PV) (h : VHeap) : VHeap:=fun id=>if id = b then some (n,.arr sz xs) else if id = a then some (va + 1,.gone) else
 match h id with
 | some (v,.box cs)=>some (v,.box (cs.map (mv0 a b va n)))
 | o=>o
def moved (a b : Id) (s : St) : St:=match s.h a with
 | some (va,.arr sz xs)=>{ pe:=fun t=>mv1 a b va (nv (s.h b)) (s.pe t),h:=mvOb a b va (nv (s.h b)) sz xs s.h }
 | _=>s
def iterN (b : St -> Option (VExit × St)) : Nat -> St -> Option (VExit × St)
 | 0,_=>none
 | n + 1,s=>ob (b s) fun r=>match r.1 with
  | .normal=>iterN b n r.2
  | _=>some r
open Classical in
noncomputable def iter (b : St -> Option (VExit × St)) (s : St) : Option (VExit × St) :=
 if h : ∃ n r,iterN b n s = some r then some (Classical.choose (Classical.choose_spec h)) else none
noncomputable def exec (Γ : Sig) : VCode -> St -> Option (VExit × St)
 | .skip,s=>some (.normal,s)
 | .region r,s=>ob (execR Γ r s) fun s'=>some (.normal,s')
 | .seq a b,s=>ob (exec Γ a s) fun r=>match r.1 with
  | .normal=>exec Γ b r.2
  | _=>some r
 | .cond c a b,s=>match c with
  | .v t=>match s.pe t with
   | .p (.bool c)=>br c (exec Γ a s) (exec Γ b s)
   | _=>none
  | _=>none
 | .block id c,s=>ob (exec Γ c s) fun r=>if r.1 = .exit id then some (.normal,r.2) else some r
 | .loop c,s=>iter (exec Γ c) s
 | .exit id,s=>some (.exit id,s)
 | .ret,s=>some (.ret,s)
 | .mv a b c,s=>exec Γ c (moved a b s)
 | .scope c,s=>exec Γ c s
def enterE (args : List VVal) : Nat -> VVal:=fun s=>args.getD s .undef
def enterH (H : List Ob) : VHeap:=fun id=>match id with
 | .arg i 0=>(H[i]?).map fun o=>(0,o)
 | _=>none
def fetch (s : St) : VRet -> Option VVal
 | .tmp (.v t)=>some (s.pe t)
 | .cell (.v t) agg=>vload s.h agg (s.pe t)
 | _=>none
def out0 (h : VHeap) : VVal -> Option VVal
 | .p d=>some (.p d)
 | .own (.slot s j) ver off len=>ob (velems h (.own (.slot s j) ver off len)) fun r=>gd (off = 0) (some (.fresh r.1 r.2))
 | .mref (.slot s j) ver=>ob (ventries h (.mref (.slot s j) ver)) fun r=>some (.p (.map r.1 r.2.1 r.2.2))
 | .ptr (.arg i 0) ver off=>gd (ver = 0) (some (.ptr (.arg i 0) 0 off))
 | .fn f []=>some (.p (.fn f))
 | _=>none
def out1 (h : VHeap) : VVal -> Option VVal
 | .agg cs=>ob (mapO (out0 h) cs) fun cs=>some (.agg cs)
 | .ptr (.slot s j) ver 0=>match h (.slot s j) with
  | some (v,.box cs)=>gd (v = ver) (ob (mapO (out0 h) cs) fun cs=>some (.boxed cs))
  | _=>none
 | v=>out0 h v
def nodupB : List Id -> Bool
 | []=>true
 | i :: is=>!is.contains i && nodupB is
def ownIds0 : VVal -> List Id
 | .own id _ _ _=>[id]
 | _=>[]
def ownIds1 (h : VHeap) : VVal -> List Id
 | .agg cs=>cs.flatMap ownIds0
 | .ptr id _ _=>match h id with
  | some (_,.box cs)=>id :: cs.flatMap ownIds0
  | _=>[id]
 | v=>ownIds0 v
def outO (h : VHeap) : VVal -> Option VVal
 | .own (.arg i 0) ver off len=>gd (ver = 0) (gd (alive h (.arg i 0) 0 = true) (some (.own (.arg i 0) 0 off len)))
 | v=>out1 h v
def outsT (h : VHeap) : List VVal -> Option VVal
 | [v]=>outO h v
 | vs=>ob (mapO (out1 h) vs) fun vs=>some (.tup vs)
def newIds0 : VVal -> List Id
 | .own (.slot s j) _ _ _=>[.slot s j]
 | _=>[]
def argOwns (h : VHeap) : Nat -> Nat -> List Id
 | _,0=>[]
 | i,n + 1=>(match h (.arg i 0) with
  | some (_,.box cs)=>cs.flatMap newIds0
  | _=>[]) ++ argOwns h (i + 1) n
def outs (h : VHeap) (n : Nat) (vs : List VVal) : Option VVal:=gd (nodupB (vs.flatMap (ownIds1 h) ++ argOwns h 0 n) = true) (outsT h vs)
def outArg1 (h : VHeap) : VVal -> Option VVal
 | .p d=>some (.p d)
 | .ptr (.arg i 0) ver off=>gd (ver = 0) (some (.ptr (.arg i 0) 0 off))
 | .own (.arg i 0) ver off len=>gd (alive h (.arg i 0) ver = true) (some (.own (.arg i 0) (if ver = 0 then 0 else 1) off len))
 | .own (.slot s j) ver off len=>ob (velems h (.own (.slot s j) ver off len)) fun r=>gd (off = 0) (some (.fresh r.1 r.2))
 | .mref (.arg i 0) ver=>gd (ver = 0) (some (.mref (.arg i 0) 0))
 | _=>none
def outArg (h : VHeap) : VVal -> Option VVal
 | .fn f caps=>ob (mapO (outArg1 h) caps) fun cs=>some (.fn f cs)
 | v=>outArg1 h v
def outBox (h : VHeap) (i : Nat) : Option Ob :=
 match h (.arg i 0) with
 | some (v,.box cs)=>gd (v = 0) (ob (mapO (outArg h) cs) fun cs=>some (.box cs))
 | some (v,.arr sz xs)=>some (if v = 0 then .arr sz xs else .box [.undef,.fresh sz xs])
 | some (v,.map kt ks vs)=>gd (v = 0) (some (.map kt ks vs))
 | _=>none
def outH (h : VHeap) : Nat -> Nat -> Option (List Ob)
 | _,0=>some []
 | i,n + 1=>ob (outBox h i) fun o=>ob (outH h (i + 1) n) fun os=>some (o :: os)
def leave (rets : List VRet) (n : Nat) (r : VExit × St) : Option (VVal × List Ob) :=
 match r.1 with
 | .exit _=>none
 | _=>ob (mapO (fetch r.2) rets) fun vs=>ob (outs r.2.h n vs) fun v=>ob (outH r.2.h 0 n) fun H'=>some (v,H')
noncomputable def callF (Γ : Sig) (vf : VFunc) (args : List VVal) (H : List Ob) : Option (VVal × List Ob) :=
 gd (args.length = vf.nparams) <|
  ob (exec Γ vf.body { pe:=enterE args,h:=enterH H }) fun r=>leave vf.rets H.length r
noncomputable def callN (prog : FuncId -> Option VFunc) (X : Sig) : Nat -> Sig
 | 0=>X
 | n + 1=>fun f args H=>match X f args H with
  | some r=>some r
  | none=>match prog f with
   | some vf=>callF (callN prog X n) vf args H
   | none=>none
open Classical in
noncomputable def vcall (prog : FuncId -> Option VFunc) (X : Sig) : Sig:=fun f args H =>
 if h : ∃ n r,callN prog X n f args H = some r then some (Classical.choose (Classical.choose_spec h)) else none
end Go.V
namespace Go.V
def vb6 : VCode:=.seq (rg [oV 8 (.move cF)]) (.seq (.seq (rg [oM 21 0,oC 22 8 [.t 21],oV 23 (.not (.t 22))]) (.cond (.v 23) (.seq (rg [oC 24 9 [],oN 8 24]) .ret) .skip)) (.seq (rg [oM 25 0,oC 26 10 [.t 25],oN 9 26]) (.seq (rg [oM 27 9,oC 28 11 [.t 27,.c (.int .i64 6),.c (.int .i64 6)],oV 10 (.alloc [.nil 6,.c (.int .i64 0),.nil 4,.c (.int .i64 0)]),oS 4 10 28]) (.seq (.seq (.region ⟨[oK 29 4 10,oM 30 9,oK 31 4 10,oC 32 21 [.t 30,.t 31],oV 33 (.buildSlice 4 [.t 29,.t 32]),oV 34 (.len (.v 33)),oJ 35 0],[],[(0,3)]⟩) (.block 0 (.loop (.seq (.region ⟨[oV 36 (.bin .lss (.v 35) (.v 34))],[12,17,19,108,118],[]⟩) (.seq (.cond (.v 36) .skip (.exit 0)) (.seq (.block 1 (.seq (rg [oT 37 (.indexAddr 4 (.v 33) (.v 35)),oR 38 4 37,oV 12 (.alloc [.nil 6,.c (.int .i64 0),.nil 4,.c (.int .i64 0)]),oS 4 12 38]) (.seq (.region ⟨[oM 39 1,oM 40 9,oF 41 0 12,oR 42 2 41,oC 43 18 [.t 40,.t 42],oM 44 9,oF 45 0 12,oR 46 2 45,oC 47 18 [.t 44,.t 46],oV 48 (.buildSlice 1 [.t 39,.t 43,.t 47]),oV 49 (.len (.v 48)),oJ 50 0],[],[(4,7)]⟩) (.block 2 (.loop (.seq (.region ⟨[oV 51 (.bin .lss (.v 50) (.v 49))],[17,19,108,118],[]⟩) (.seq (.cond (.v 51) .skip (.exit 2)) (.seq (.block 3 (.seq (rg [oT 52 (.indexAddr 1 (.v 48) (.v 50)),oL 53 52,oN 14 53]) (.seq (.seq (.region ⟨[oK 54 4 12,oC 55 14 [.t 54],oK 56 4 12,oC 57 20 [.t 56],oT 58 (.eqB true (.t 55) (.t 57)),oP 59 58,gF 60 0 12 59 false,oG 61 (.load (some 2) (.t 60)) 59 false,gM 62 14 59 false,oG 63 (.call 22 [.t 61,.t 62]) 59 false,gF 64 0 12 59 false,oG 65 (.load (some 2) (.t 64)) 59 false,gM 66 14 59 false,oG 67 (.call 23 [.t 65,.t 66]) 59 false,oG 68 (.bin .neq (.t 63) (.t 67)) 59 false,oO 69 59 68,oP 70 69,gF 71 0 12 70 false,oG 72 (.load (some 2) (.t 71)) 70 false,gM 73 14 70 false,oG 74 (.call 12 [.t 72,.t 73]) 70 false,gF 75 0 12 70 false,oG 76 (.load (some 2) (.t 75)) 70 false,gM 77 14 70 false,oG 78 (.call 24 [.t 76,.t 77]) 70 false,oG 79 (.bin .neq (.t 74) (.t 78)) 70 false,oV 80 (.pick (.t 70) cT (.t 79))],[],[(1,2),(9,11),(20,22)]⟩) (.cond (.v 80) (.seq (rg [oV 8 (.move cF)]) .ret) .skip)) (.seq (rg [oM 81 2,oM 82 3,oT 83 (.buildArr 1 [.t 81,.t 82]),oM 84 9,oC 85 25 [.t 84],oT 86 (.buildArr 1 [.t 85,.c (.int .i64 0)]),oM 87 9,oC 88 25 [.t 87],oT 89 (.buildArr 1 [.c (.int .i64 0),.t 88]),oM 90 9,oC 91 15 [.t 90,.c (.int .i64 32)],oM 92 9,oC 93 15 [.t 92,.c (.int .i64 32)],oT 94 (.buildArr 1 [.t 91,.t 93]),oV 95 (.buildSlice 2 [.t 83,.t 86,.t 89,.t 94]),oV 96 (.len (.v 95)),oJ 97 0]) (.block 4 (.loop (.seq (.region ⟨[oV 98 (.bin .lss (.v 97) (.v 96))],[17,19,108,118],[]⟩) (.seq (.cond (.v 98) .skip (.exit 4)) (.seq (.block 5 (.seq (rg [oT 99 (.indexAddr 2 (.v 95) (.v 97)),oR 100 2 99,oV 16 (.alloc [.c (.int .i64 0),.c (.int .i64 0)]),oS 2 16 100]) (.seq (rg [oK 102 4 12,oM 103 14,oF 104 0 16,oL 105 104,oF 106 1 16,oL 107 106,oC 108 16 [.t 102,.t 103,.t 105,.t 107],oP 101 108,oE 109 101 0,oE 110 101 1,oV 17 (.alloc [.nil 6,.c (.int .i64 0),.nil 4,.c (.int .i64 0)]),oS 4 17 109,oN 18 110]) (.seq (rg [oK 112 4 12,oM 113 14,oF 114 0 16,oL 115 114,oF 116 1 16,oL 117 116,oC 118 26 [.t 112,.t 113,.t 115,.t 117],oP 111 118,oE 119 111 0,oE 120 111 1,oV 19 (.alloc [.nil 6,.c (.int .i64 0),.nil 4,.c (.int .i64 0)]),oS 4 19 119,oN 20 120]) (.seq (.region ⟨[oM 121 18,oM 122 20,oT 123 (.bin .neq (.t 121) (.t 122)),oP 124 123,oG 125 (.load (some 4) (.v 17)) 124 false,oG 126 (.load (some 4) (.v 19)) 124 false,oG 127 (.call 17 [.t 125,.t 126]) 124 false,oG 128 (.not (.t 127)) 124 false,oV 129 (.pick (.t 124) cT (.t 128))],[108,118],[]⟩) (.cond (.v 129) (.seq (rg [oV 8 (.move cF)]) .ret) .skip)))))) (rg [oT 130 (.bin .add (.v 97) (cI 1)),oN 97 130])))))))))) (rg [oT 131 (.bin .add (.v 50) (cI 1)),oN 50 131]))))))))) (rg [oT 132 (.bin .add (.v 35) (cI 1)),oN 35 132]))))))) (.seq (rg [oC 133 9 [],oN 8 133]) .ret)))))
def vf6 : VFunc:={ vs:=[0,1,2,3,8,9,10,12,14,16,17,18,19,20,23,33,34,35,36,48,49,50,51,80,95,96,97,98,129],nparams:=4,rets:=[.tmp (.v 8)],body:=vb6 }
def vb8 : VCode:=.seq (rg [oV 2 (.move cF)]) (.seq (rg [oM 3 0,oY 4 3,oT 5 (.bin .leq (.t 4) (cI 600)),oN 2 5]) .ret)
def vf8 : VFunc:={ vs:=[0,2],nparams:=1,rets:=[.tmp (.v 2)],body:=vb8 }
def vb9 : VCode:=.seq (rg [oV 0 (.move cF)]) (.seq (rg [oT 5 (.call 40 [.c (.str ⟨#[43,99,112,117,32,45,105,111]⟩)]),oP 4 5,oE 6 4 0,oE 7 4 1,oE 8 4 2,oN 1 6,oN 2 7,oN 3 8]) (.seq (rg [oM 9 3,oT 10 (.bin .eql (.t 9) (cI 0)),oP 11 10,gM 12 1 11 true,oG 13 (.bin .eql (.t 12) (cI 1)) 11 true,oB 14 11 13,oP 15 14,gM 16 2 15 true,oG 17 (.bin .eql (.t 16) (cI 4)) 15 true,oB 18 15 17,oP 19 18,oG 20 (.call 41 [.c (.int .i64 9)]) 19 true,oG 21 (.bin .eql (.t 20) (.c (.str ⟨#[99,112,117,32,112,105,100,115]⟩))) 19 true,oB 22 19 21,oN 0 22]) .ret))
def vf9 : VFunc:={ vs:=[0,1,2,3],nparams:=0,rets:=[.tmp (.v 0)],body:=vb9 }
def vb10 : VCode:=.seq (rg [oV 2 (.move (.c (.nilp)))]) (.seq (rg [oM 3 0,oT 4 (.build [.a (.t 3) 0 1,.z (.c (.int .i64 0))]),oT 5 (.box 2 (.t 4)),oN 2 5]) .ret)
def vf10 : VFunc:={ vs:=[0,2],nparams:=1,rets:=[.tmp (.v 2)],body:=vb10 }
def vb11 : VCode:=.seq (rg [oV 6 (.alloc [.nil 6,.c (.int .i64 0),.nil 4,.c (.int .i64 0)])]) (.seq (rg [oC 21 42 [],oV 7 (.alloc [.nil 6,.c (.int .i64 0),.nil 4,.c (.int .i64 0)]),oS 4 7 21]) (.seq (rg [oM 22 0,oM 23 1,oC 24 43 [.t 22,.t 23],oF 25 0 7,oZ (.store 2 (.t 25) (.t 24))]) (.seq (.seq (rg [oM 26 0,oM 27 1,oT 28 (.bin .add (.t 27) (cI 3)),oC 29 15 [.t 26,.t 28],oN 8 29]) (.block 0 (.loop (.seq (.seq (.region ⟨[oM 30 8,oV 31 (.bin .gtr (.t 30) (cI 0))],[21,36],[]⟩) (.cond (.v 31) .skip (.exit 0))) (.seq (.block 1 (rg [oM 34 0,oK 35 4 7,oC 36 44 [.t 34,.t 35],oS 4 7 36])) (rg [oM 32 8,oT 33 (.bin .sub (.t 32) (cI 1)),oN 8 33])))))) (.seq (.seq (rg [oM 37 0,oM 38 2,oI 39 38,oC 40 15 [.t 37,.t 39],oN 9 40]) (.block 2 (.loop (.seq (.seq (.region ⟨[oM 41 9,oV 42 (.bin .gtr (.t 41) (cI 0))],[11,14,17,19,58,72,90,103],[]⟩) (.cond (.v 42) .skip (.exit 2))) (.seq (.block 3 (.seq (rg [oM 45 0,oF 46 0 7,oR 47 2 46,oC 48 18 [.t 45,.t 47],oN 10 48]) (.seq (.seq (rg [oK 49 4 7,oM 50 10,oC 51 45 [.t 49,.t 50],oV 52 (.bin .neq (.t 51) (cI 0))]) (.cond (.v 52) (.exit 3) .skip)) (.seq (.seq (.region ⟨[oK 54 4 7,oM 55 10,oM 56 0,oC 57 15 [.t 56,.c (.int .i64 3)],oC 58 46 [.t 54,.t 55,.t 57],oP 53 58,oE 59 53 0,oE 60 53 1,oE 61 53 2,oV 11 (.alloc [.nil 6,.c (.int .i64 0),.nil 4,.c (.int .i64 0)]),oS 4 11 59,oP 12 60,oN 13 61],[],[(0,3),(0,9),(3,9),(4,9)]⟩) (.seq (rg [oM 62 13,oV 63 (.bin .eql (.t 62) (cI 0))]) (.cond (.v 63) (rg [oK 64 4 11,oS 4 7 64]) .skip))) (.seq (.seq (.region ⟨[oM 65 0,oV 66 (.call 47 [.t 65,.c (.int .i64 3)])],[58],[]⟩) (.cond (.v 66) (.seq (.region ⟨[oK 68 4 7,oM 69 0,oK 70 4 7,oC 71 49 [.t 69,.t 70],oC 72 48 [.t 68,.t 71],oP 67 72,oE 73 67 0,oE 74 67 1,oE 75 67 2,oV 14 (.alloc [.nil 6,.c (.int .i64 0),.nil 4,.c (.int .i64 0)]),oS 4 14 73,oP 15 74,oN 16 75],[],[(0,3),(0,9),(2,9),(3,9),(4,9)]⟩) (.seq (rg [oM 76 16,oV 77 (.bin .eql (.t 76) (cI 0))]) (.cond (.v 77) (rg [oK 78 4 14,oS 4 7 78]) .skip))) .skip)) (.seq (.seq (.region ⟨[oM 79 0,oV 80 (.call 47 [.t 79,.c (.int .i64 4)])],[72],[]⟩) (.cond (.v 80) (.seq (.region ⟨[oK 82 4 7,oM 83 0,oK 84 4 7,oC 85 49 [.t 83,.t 84],oM 86 0,oF 87 0 7,oR 88 2 87,oC 89 18 [.t 86,.t 88],oC 90 50 [.t 82,.t 85,.t 89],oP 81 90,oE 91 81 0,oE 92 81 1,oV 17 (.alloc [.nil 6,.c (.int .i64 0),.nil 4,.c (.int .i64 0)]),oS 4 17 91,oN 18 92],[],[(0,3),(3,6),(0,7),(0,12),(2,12),(3,12),(6,12),(7,12),(8,12)]⟩) (.seq (rg [oM 93 18,oV 94 (.bin .eql (.t 93) (cI 0))]) (.cond (.v 94) (rg [oK 95 4 17,oS 4 7 95]) .skip))) .skip)) (.seq (.region ⟨[oM 96 0,oV 97 (.call 47 [.t 96,.c (.int .i64 8)])],[90],[]⟩) (.cond (.v 97) (.seq (.region ⟨[oK 99 4 7,oM 100 0,oK 101 4 7,oC 102 49 [.t 100,.t 101],oC 103 51 [.t 99,.t 102],oP 98 103,oE 104 98 0,oE 105 98 1,oV 19 (.alloc [.nil 6,.c (.int .i64 0),.nil 4,.c (.int .i64 0)]),oS 4 19 104,oN 20 105],[],[(0,3),(0,8),(2,8),(3,8),(4,8)]⟩) (.seq (rg [oM 106 20,oV 107 (.bin .eql (.t 106) (cI 0))]) (.cond (.v 107) (rg [oK 108 4 19,oS 4 7 108]) .skip))) .skip)))))))) (rg [oM 43 9,oT 44 (.bin .sub (.t 43) (cI 1)),oN 9 44])))))) (.seq (rg [oK 109 4 7,oS 4 6 109]) .ret)))))
def vf11 : VFunc:={ vs:=[0,1,2,6,7,8,9,10,11,13,14,16,17,18,19,20,31,42,52,63,66,77,80,94,97,107],nparams:=3,rets:=[.cell (.v 6) (some 4)],body:=vb11 }
def vb12 : VCode:=.seq (rg [oX 2 2 0,oJ 4 0]) (.seq (.seq (rg [oM 5 1,oV 6 (.bin .eql (.t 5) (cI 1))]) (.cond (.v 6) (.seq (rg [oJ 4 0]) .ret) .skip)) (.seq (rg [oK 7 2 2,oM 8 1,oC 9 22 [.t 7,.t 8],oN 4 9]) .ret))
def vf12 : VFunc:={ vs:=[0,1,2,4,6],nparams:=2,rets:=[.tmp (.v 4)],body:=vb12 }
def vb13 : VCode:=.seq (rg [oX 2 4 0,oV 4 (.newArr 1)]) (.seq (.seq (rg [oK 7 4 2,oC 8 52 [.t 7],oV 9 (.not (.t 8))]) (.cond (.v 9) (.seq (rg [oV 4 (.newArr 1)]) .ret) .skip)) (.seq (rg [oV 5 (.newArr 1)]) (.seq (.seq (rg [oJ 6 0]) (.block 0 (.loop (.seq (.seq (rg [oM 10 6,oF 11 2 2,oL 12 11,oY 13 12,oU 14 10 13]) (.cond (.v 14) .skip (.exit 0))) (.seq (.block 1 (.seq (rg [oF 17 2 2,oL 18 17,oM 19 6,oA 20 4 18 19,oQ 21 2 20,oL 22 21,oM 23 1,oV 24 (.bin .eql (.t 22) (.t 23))]) (.cond (.v 24) (rg [oM 25 5,oF 26 2 2,oL 27 26,oM 28 6,oA 29 4 27 28,oQ 30 0 29,oL 31 30,oT 32 (.buildSlice 1 [.t 31]),oT 33 (.append 1 8 (.t 25) (.t 32)),oN 5 33]) .skip))) (rg [oM 15 6,oI 16 15,oN 6 16])))))) (.seq (rg [oM 34 5,oN 4 34]) .ret))))
def vf13 : VFunc:={ vs:=[0,1,2,4,5,6,9,14,24],nparams:=2,rets:=[.tmp (.v 4)],body:=vb13 }
def vb14 : VCode:=.seq (rg [oX 1 4 0,oV 2 (.move cF)]) (.seq (.seq (rg [oK 5 4 1,oC 6 53 [.t 5],oV 7 (.not (.t 6))]) (.cond (.v 7) (.seq (rg [oV 2 (.move cF)]) .ret) .skip)) (.seq (.seq (rg [oF 8 0 1,oQ 9 0 8,oV 10 (.load none (.t 9)),oV 11 (.len (.v 10)),oJ 12 0]) (.block 0 (.loop (.seq (.region ⟨[oV 13 (.bin .lss (.v 12) (.v 11))],[37],[]⟩) (.seq (.cond (.v 13) .skip (.exit 0)) (.seq (.block 1 (.seq (rg [oT 14 (.indexAddr 6 (.v 10) (.v 12)),oR 15 6 14,oV 4 (.alloc [.c (.int .i64 0),.c (.int .i64 0),.c (.str ⟨#[]⟩),.c (.int .i64 0),.c (.int .i64 0),.c (.int .i64 0)]),oS 6 4 15]) (.seq (.seq (.region ⟨[oF 16 3 4,oL 17 16,oF 18 0 1,oR 19 2 18,oK 20 6 4,oC 21 54 [.t 19,.t 20],oT 22 (.bin .andNot (.t 17) (.t 21)),oV 23 (.bin .neq (.t 22) (cI 0))],[],[(1,5)]⟩) (.cond (.v 23) (.seq (rg [oV 2 (.move cF)]) .ret) .skip)) (.seq (rg [oF 24 0 4,oL 25 24,oT 26 (.bin .neq (.t 25) (cI 1)),oP 27 26,gF 28 3 4 27 true,gL 29 28 27 true,oG 30 (.bin .and (.t 29) (cI 6)) 27 true,oG 31 (.bin .neq (.t 30) (cI 0)) 27 true,oB 32 27 31,oP 33 32,oG 34 (.load (some 4) (.v 1)) 33 true,gF 35 0 4 33 true,gL 36 35 33 true,oG 37 (.call 55 [.t 34,.t 36]) 33 true,oG 38 (.len (.t 37)) 33 true,oG 39 (.bin .gtr (.t 38) (cI 0)) 33 true,oV 40 (.pick (.t 33) (.t 39) cF)]) (.cond (.v 40) (.seq (rg [oV 2 (.move cF)]) .ret) .skip))))) (rg [oT 41 (.bin .add (.v 12) (cI 1)),oN 12 41]))))))) (.seq (rg [oV 2 (.move cT)]) .ret)))
def vf14 : VFunc:={ vs:=[0,1,2,4,7,10,11,12,13,23,40],nparams:=1,rets:=[.tmp (.v 2)],body:=vb14 }
def vb15 : VCode:=.seq (rg [oJ 4 0]) (.seq (.seq (rg [oM 6 0,oT 7 (.nilCheck (.t 6)),oQ 8 1 7,oL 9 8,oM 10 0,oT 11 (.nilCheck (.t 10)),oQ 12 0 11,oL 13 12,oY 14 13,oT 15 (.bin .geq (.t 9) (.t 14)),oP 16 15,gM 17 1 16 false,oG 18 (.bin .lss (.t 17) (cI 1)) 16 false,oV 19 (.pick (.t 16) cT (.t 18))]) (.cond (.v 19) (.seq (rg [oJ 4 0]) .ret) .skip)) (.seq (rg [oM 20 0,oT 21 (.nilCheck (.t 20)),oQ 22 1 21,oL 23 22,oI 24 23,oT 25 (.nilCheck (.t 20)),oQ 26 1 25,oZ (.store 1 (.t 26) (.t 24))]) (.seq (rg [oM 27 0,oT 28 (.nilCheck (.t 27)),oQ 29 0 28,oL 30 29,oM 31 0,oT 32 (.nilCheck (.t 31)),oQ 33 1 32,oL 34 33,oT 35 (.bin .sub (.t 34) (cI 1)),oA 36 1 30 35,oL 37 36,oM 38 1,oT 39 (.bin .rem (.t 37) (.t 38)),oN 5 39]) (.seq (.seq (rg [oM 40 5,oV 41 (.bin .lss (.t 40) (cI 0))]) (.cond (.v 41) (rg [oM 42 5,oM 43 1,oT 44 (.bin .add (.t 42) (.t 43)),oN 5 44]) .skip)) (.seq (rg [oM 45 5,oN 4 45]) .ret)))))
def vf15 : VFunc:={ vs:=[0,1,4,5,19,41],nparams:=2,rets:=[.tmp (.v 4)],body:=vb15 }
def vb16 : VCode:=.seq (rg [oX 4 4 0,oV 8 (.alloc [.nil 6,.c (.int .i64 0),.nil 4,.c (.int .i64 0)]),oJ 9 0]) (.seq (.seq (rg [oK 16 4 4,oC 17 14 [.t 16],oT 18 (.not (.t 17)),oP 19 18,gM 20 2 19 false,oG 21 (.call 56 [.t 20]) 19 false,oG 22 (.not (.t 21)) 19 false,oO 23 19 22,oP 24 23,gM 25 3 24 false,oG 26 (.call 56 [.t 25]) 24 false,oG 27 (.not (.t 26)) 24 false,oO 28 24 27,oP 29 28,gM 30 2 29 false,gM 31 3 29 false,oG 32 (.bin .and (.t 30) (.t 31)) 29 false,oG 33 (.bin .neq (.t 32) (cI 0)) 29 false,oV 34 (.pick (.t 29) cT (.t 33))]) (.cond (.v 34) (.seq (rg [oT 35 (.build [.z (.nil 6),.z (.c (.int .i64 0)),.z (.nil 4),.z (.c (.int .i64 0))]),oS 4 8 35,oJ 9 1]) .ret) .skip)) (.seq (rg [oF 36 0 4,oR 37 2 36,oM 38 1,oC 39 57 [.t 37,.t 38],oN 10 39]) (.seq (.seq (rg [oM 40 10,oV 41 (.bin .lss (.t 40) (cI 0))]) (.cond (.v 41) (.seq (rg [oT 42 (.build [.z (.nil 6),.z (.c (.int .i64 0)),.z (.nil 4),.z (.c (.int .i64 0))]),oS 4 8 42,oJ 9 4]) .ret) .skip)) (.seq (rg [oF 43 0 4,oQ 44 0 43,oL 45 44,oM 46 10,oA 47 6 45 46,oR 48 6 47,oV 11 (.alloc [.c (.int .i64 0),.c (.int .i64 0),.c (.str ⟨#[]⟩),.c (.int .i64 0),.c (.int .i64 0),.c (.int .i64 0)]),oS 6 11 48]) (.seq (.seq (rg [oM 49 2,oF 50 0 4,oR 51 2 50,oK 52 6 11,oC 53 54 [.t 51,.t 52],oT 54 (.bin .andNot (.t 49) (.t 53)),oV 55 (.bin .neq (.t 54) (cI 0))]) (.cond (.v 55) (.seq (rg [oT 56 (.build [.z (.nil 6),.z (.c (.int .i64 0)),.z (.nil 4),.z (.c (.int .i64 0))]),oS 4 8 56,oJ 9 9]) .ret) .skip)) (.seq (.seq (rg [oF 57 0 4,oQ 58 0 57,oV 59 (.load none (.t 58)),oV 60 (.len (.v 59)),oJ 61 0]) (.block 0 (.loop (.seq (.region ⟨[oV 62 (.bin .lss (.v 61) (.v 60))],[76],[]⟩) (.seq (.cond (.v 62) .skip (.exit 0)) (.seq (.block 1 (.seq (rg [oT 63 (.indexAddr 6 (.v 59) (.v 61)),oR 64 6 63,oV 13 (.alloc [.c (.int .i64 0),.c (.int .i64 0),.c (.str ⟨#[]⟩),.c (.int .i64 0),.c (.int .i64 0),.c (.int .i64 0)]),oS 6 13 64]) (.seq (rg [oF 65 1 13,oL 66 65,oM 67 1,oT 68 (.bin .eql (.t 66) (.t 67)),oP 69 68,gF 70 3 13 69 true,gL 71 70 69 true,gM 72 3 69 true,oG 73 (.bin .and (.t 71) (.t 72)) 69 true,oG 74 (.bin .neq (.t 73) (cI 0)) 69 true,oV 75 (.pick (.t 69) (.t 74) cF)]) (.cond (.v 75) (.seq (rg [oT 76 (.build [.z (.nil 6),.z (.c (.int .i64 0)),.z (.nil 4),.z (.c (.int .i64 0))]),oS 4 8 76,oJ 9 9]) .ret) .skip)))) (rg [oT 77 (.bin .add (.v 61) (cI 1)),oN 61 77]))))))) (.seq (rg [oF 78 3 11,oL 79 78,oM 80 3,oT 81 (.bin .andNot (.t 79) (.t 80)),oM 82 2,oT 83 (.bin .or (.t 81) (.t 82)),oN 14 83]) (.seq (.seq (rg [oM 84 14,oF 85 3 11,oL 86 85,oT 87 (.bin .andNot (.t 84) (.t 86)),oT 88 (.bin .and (.t 87) (cI 6)),oT 89 (.bin .neq (.t 88) (cI 0)),oP 90 89,gM 91 1 90 true,oG 92 (.bin .neq (.t 91) (cI 1)) 90 true,oB 93 90 92,oP 94 93,oG 95 (.load (some 4) (.v 4)) 94 true,gM 96 1 94 true,oG 97 (.call 55 [.t 95,.t 96]) 94 true,oG 98 (.len (.t 97)) 94 true,oG 99 (.bin .gtr (.t 98) (cI 0)) 94 true,oV 100 (.pick (.t 94) (.t 99) cF)]) (.cond (.v 100) (.seq (rg [oT 101 (.build [.z (.nil 6),.z (.c (.int .i64 0)),.z (.nil 4),.z (.c (.int .i64 0))]),oS 4 8 101,oJ 9 6]) .ret) .skip)) (.seq (rg [oK 102 4 4,oC 103 58 [.t 102],oV 15 (.alloc [.nil 6,.c (.int .i64 0),.nil 4,.c (.int .i64 0)]),oS 4 15 103]) (.seq (rg [oF 104 0 15,oQ 105 0 104,oL 106 105,oM 107 10,oM 108 14,oA 109 6 106 107,oQ 110 3 109,oZ (.store 1 (.t 110) (.t 108))]) (.seq (rg [oK 111 4 15,oS 4 8 111,oJ 9 0]) .ret)))))))))))
def vf16 : VFunc:={ vs:=[0,1,2,3,4,8,9,10,11,13,14,15,34,41,55,59,60,61,62,75,100],nparams:=4,rets:=[.cell (.v 8) (some 4),.tmp (.v 9)],body:=vb16 }
def vb17 : VCode:=.seq (rg [oX 2 4 0,oX 3 4 1,oV 4 (.move cF)]) (.seq (.seq (rg [oF 6 0 2,oR 7 2 6,oF 8 0 3,oR 9 2 8,oC 10 59 [.t 7,.t 9],oT 11 (.not (.t 10)),oP 12 11,gF 13 2 2 12 false,gL 14 13 12 false,oG 15 (.len (.t 14)) 12 false,gF 16 2 3 12 false,gL 17 16 12 false,oG 18 (.len (.t 17)) 12 false,oG 19 (.bin .neq (.t 15) (.t 18)) 12 false,oO 20 12 19,oP 21 20,gF 22 3 2 21 false,gL 23 22 21 false,gF 24 3 3 21 false,gL 25 24 21 false,oG 26 (.bin .neq (.t 23) (.t 25)) 21 false,oV 27 (.pick (.t 21) cT (.t 26))]) (.cond (.v 27) (.seq (rg [oV 4 (.move cF)]) .ret) .skip)) (.seq (.seq (rg [oJ 5 0]) (.block 0 (.loop (.seq (.seq (rg [oM 28 5,oF 29 2 2,oL 30 29,oY 31 30,oU 32 28 31]) (.cond (.v 32) .skip (.exit 0))) (.seq (.block 1 (.seq (rg [oF 35 2 2,oL 36 35,oM 37 5,oA 38 4 36 37,oR 39 4 38,oF 40 2 3,oL 41 40,oM 42 5,oA 43 4 41 42,oR 44 4 43,oV 45 (.eqAgg true [(.int .i64),(.int .i64),(.int .i64),(.int .i64)] (.t 39) (.t 44))]) (.cond (.v 45) (.seq (rg [oV 4 (.move cF)]) .ret) .skip))) (rg [oM 33 5,oI 34 33,oN 5 34])))))) (.seq (rg [oV 4 (.move cT)]) .ret)))
def vf17 : VFunc:={ vs:=[0,1,2,3,4,5,27,32,45],nparams:=2,rets:=[.tmp (.v 4)],body:=vb17 }
def vb18 : VCode:=.seq (rg [oX 3 2 1,oJ 4 0]) (.seq (.seq (rg [oM 5 0,oC 6 47 [.t 5,.c (.int .i64 15)],oP 7 6,gF 8 0 3 7 false,gL 9 8 7 false,oG 10 (.len (.t 9)) 7 false,oG 11 (.bin .eql (.t 10) (cI 0)) 7 false,oV 12 (.pick (.t 7) cT (.t 11))]) (.cond (.v 12) (.seq (rg [oM 13 0,oC 14 15 [.t 13,.c (.int .i64 9)],oT 15 (.bin .sub (.t 14) (cI 1)),oN 4 15]) .ret) .skip)) (.seq (.region ⟨[oF 16 0 3,oL 17 16,oM 18 0,oF 19 0 3,oL 20 19,oY 21 20,oC 22 15 [.t 18,.t 21],oA 23 6 17 22,oQ 24 0 23,oL 25 24,oN 4 25],[],[(1,6)]⟩) .ret))
def vf18 : VFunc:={ vs:=[0,1,3,4,12],nparams:=2,rets:=[.tmp (.v 4)],body:=vb18 }
def vb19 : VCode:=.seq (rg [oX 2 2 0,oV 4 (.alloc [.c (.int .i64 0),.c (.int .i64 0),.c (.str ⟨#[]⟩),.c (.int .i64 0),.c (.int .i64 0),.c (.int .i64 0)]),oV 5 (.move cF)]) (.seq (.seq (rg [oK 7 2 2,oC 8 60 [.t 7],oV 9 (.not (.t 8))]) (.cond (.v 9) (.seq (rg [oT 10 (.build [.z (.c (.int .i64 0)),.z (.c (.int .i64 0)),.z (.c (.str ⟨#[]⟩)),.z (.c (.int .i64 0)),.z (.c (.int .i64 0)),.z (.c (.int .i64 0))]),oS 6 4 10,oV 5 (.move cF)]) .ret) .skip)) (.seq (.seq (rg [oJ 6 0]) (.block 0 (.loop (.seq (.seq (rg [oM 11 6,oF 12 0 2,oL 13 12,oY 14 13,oU 15 11 14]) (.cond (.v 15) .skip (.exit 0))) (.seq (.block 1 (.seq (rg [oF 18 0 2,oL 19 18,oM 20 6,oA 21 6 19 20,oQ 22 0 21,oL 23 22,oM 24 1,oV 25 (.bin .eql (.t 23) (.t 24))]) (.cond (.v 25) (.seq (rg [oF 26 0 2,oL 27 26,oM 28 6,oA 29 6 27 28,oR 30 6 29,oS 6 4 30,oV 5 (.move cT)]) .ret) .skip))) (rg [oM 16 6,oI 17 16,oN 6 17])))))) (.seq (rg [oT 31 (.build [.z (.c (.int .i64 0)),.z (.c (.int .i64 0)),.z (.c (.str ⟨#[]⟩)),.z (.c (.int .i64 0)),.z (.c (.int .i64 0)),.z (.c (.int .i64 0))]),oS 6 4 31,oV 5 (.move cF)]) .ret)))
def vf19 : VFunc:={ vs:=[0,1,2,4,5,6,9,15,25],nparams:=2,rets:=[.cell (.v 4) (some 6),.tmp (.v 5)],body:=vb19 }
def vb20 : VCode:=.seq (rg [oX 1 4 0,oV 2 (.move cF)]) (.seq (.seq (rg [oK 5 4 1,oC 6 52 [.t 5],oV 7 (.not (.t 6))]) (.cond (.v 7) (.seq (rg [oV 2 (.move cF)]) .ret) .skip)) (.seq (.seq (rg [oJ 3 0]) (.block 0 (.loop (.seq (.seq (.region ⟨[oM 8 3,oF 9 0 1,oQ 10 0 9,oL 11 10,oY 12 11,oU 13 8 12],[45],[]⟩) (.cond (.v 13) .skip (.exit 0))) (.seq (.block 1 (.seq (rg [oF 16 0 1,oQ 17 0 16,oL 18 17,oM 19 3,oA 20 6 18 19,oR 21 6 20,oV 4 (.alloc [.c (.int .i64 0),.c (.int .i64 0),.c (.str ⟨#[]⟩),.c (.int .i64 0),.c (.int .i64 0),.c (.int .i64 0)]),oS 6 4 21]) (.seq (.region ⟨[oF 22 3 4,oL 23 22,oF 24 0 1,oR 25 2 24,oF 26 0 4,oL 27 26,oC 28 23 [.t 25,.t 27],oT 29 (.bin .andNot (.t 23) (.t 28)),oT 30 (.bin .neq (.t 29) (cI 0)),oP 31 30,gF 32 0 4 31 false,gL 33 32 31 false,oG 34 (.bin .neq (.t 33) (cI 1)) 31 false,oG 35 (.move (.t 34)) 31 false,gF 36 3 4 35 true,gL 37 36 35 true,oG 38 (.bin .and (.t 37) (cI 6)) 35 true,oG 39 (.bin .neq (.t 38) (cI 0)) 35 true,oG 40 (.pick (.t 35) (.t 39) cF) 31 false,oG 41 (.move (.t 40)) 31 false,oG 42 (.load (some 4) (.v 1)) 41 true,gF 43 0 4 41 true,gL 44 43 41 true,oG 45 (.call 13 [.t 42,.t 44]) 41 true,oG 46 (.len (.t 45)) 41 true,oG 47 (.bin .gtr (.t 46) (cI 0)) 41 true,oG 48 (.pick (.t 41) (.t 47) cF) 31 false,oV 49 (.pick (.t 31) cT (.t 48))],[],[(1,6)]⟩) (.cond (.v 49) (.seq (rg [oV 2 (.move cF)]) .ret) .skip)))) (rg [oM 14 3,oI 15 14,oN 3 15])))))) (.seq (rg [oV 2 (.move cT)]) .ret)))
def vf20 : VFunc:={ vs:=[0,1,2,3,4,7,13,49],nparams:=1,rets:=[.tmp (.v 2)],body:=vb20 }
def vb21 : VCode:=.seq (rg [oX 3 4 1,oV 4 (.alloc [.nil 6,.c (.int .i64 0),.nil 4,.c (.int .i64 0)])]) (.seq (rg [oK 8 4 3,oC 9 61 [.t 8],oV 5 (.alloc [.nil 6,.c (.int .i64 0),.nil 4,.c (.int .i64 0)]),oS 4 5 9]) (.seq (.region ⟨[oF 10 0 5,oQ 11 0 10,oL 12 11,oM 13 0,oF 14 0 5,oQ 15 0 14,oL 16 15,oY 17 16,oC 18 15 [.t 13,.t 17],oA 19 6 12 18,oN 6 19],[],[(2,8)]⟩) (.seq (.seq (rg [oM 20 0,oV 21 (.call 15 [.t 20,.c (.int .i64 12)])]) (.block 0 (.seq (rg [oT 23 (.bin .eql (.v 21) (cI 0)),oN 22 23]) (.cond (.v 22) (rg [oM 24 6,oM 25 0,oC 26 15 [.t 25,.c (.int .i64 9)],oT 27 (.nilCheck (.t 24)),oQ 28 0 27,oZ (.store 1 (.t 28) (.t 26))]) (.seq (rg [oT 30 (.bin .eql (.v 21) (cI 1)),oN 29 30]) (.cond (.v 29) (rg [oM 31 6,oM 32 0,oC 33 15 [.t 32,.c (.int .i64 9)],oT 34 (.nilCheck (.t 31)),oQ 35 1 34,oZ (.store 1 (.t 35) (.t 33))]) (.seq (rg [oT 37 (.bin .eql (.v 21) (cI 2)),oN 36 37]) (.cond (.v 36) (rg [oM 38 6,oM 39 0,oC 40 62 [.t 39],oT 41 (.nilCheck (.t 38)),oQ 42 2 41,oZ (.store 1 (.t 42) (.t 40))]) (.seq (rg [oT 44 (.bin .eql (.v 21) (cI 3)),oN 43 44]) (.cond (.v 43) (rg [oM 45 6,oM 46 0,oC 47 25 [.t 46],oT 48 (.nilCheck (.t 45)),oQ 49 3 48,oZ (.store 1 (.t 49) (.t 47))]) (.seq (rg [oT 51 (.bin .eql (.v 21) (cI 4)),oN 50 51]) (.cond (.v 50) (rg [oM 52 6,oM 53 0,oC 54 15 [.t 53,.c (.int .i64 4)],oT 55 (.bin .sub (.t 54) (cI 1)),oT 56 (.nilCheck (.t 52)),oQ 57 4 56,oZ (.store 1 (.t 57) (.t 55))]) (.seq (rg [oT 59 (.bin .eql (.v 21) (cI 5)),oN 58 59]) (.cond (.v 58) (rg [oM 60 6,oM 61 0,oC 62 63 [.t 61],oT 63 (.nilCheck (.t 60)),oQ 64 5 63,oZ (.store 1 (.t 64) (.t 62))]) (.seq (rg [oT 66 (.bin .eql (.v 21) (cI 6)),oN 65 66]) (.cond (.v 65) (rg [oM 67 0,oC 68 15 [.t 67,.c (.int .i64 9)],oF 69 0 5,oQ 70 1 69,oZ (.store 1 (.t 70) (.t 68))]) (.seq (rg [oT 72 (.bin .eql (.v 21) (cI 7)),oN 71 72]) (.cond (.v 71) (rg [oM 73 0,oC 74 15 [.t 73,.c (.int .i64 9)],oF 75 3 5,oZ (.store 1 (.t 75) (.t 74))]) (.seq (rg [oT 77 (.bin .eql (.v 21) (cI 8)),oN 76 77]) (.cond (.v 76) (.region ⟨[oF 78 0 5,oQ 79 0 78,oL 80 79,oM 81 6,oT 82 (.nilCheck (.t 81)),oR 83 6 82,oT 84 (.buildSlice 6 [.t 83]),oT 85 (.append 6 56 (.t 80) (.t 84)),oF 86 0 5,oQ 87 0 86,oZ (.store 1 (.t 87) (.t 85))],[],[(2,6)]⟩) .skip)))))))))))))))))))) (.seq (.seq (rg [oF 88 2 5,oL 89 88,oY 90 89,oV 91 (.bin .gtr (.t 90) (cI 0))]) (.cond (.v 91) (.seq (.region ⟨[oF 92 2 5,oL 93 92,oM 94 0,oF 95 2 5,oL 96 95,oY 97 96,oC 98 15 [.t 94,.t 97],oA 99 4 93 98,oN 7 99],[],[(1,6)]⟩) (.seq (rg [oM 100 0,oV 101 (.call 15 [.t 100,.c (.int .i64 8)])]) (.block 1 (.seq (rg [oT 103 (.bin .eql (.v 101) (cI 0)),oN 102 103]) (.cond (.v 102) (rg [oM 104 7,oM 105 0,oC 106 15 [.t 105,.c (.int .i64 9)],oT 107 (.nilCheck (.t 104)),oQ 108 0 107,oZ (.store 1 (.t 108) (.t 106))]) (.seq (rg [oT 110 (.bin .eql (.v 101) (cI 1)),oN 109 110]) (.cond (.v 109) (rg [oM 111 7,oM 112 0,oC 113 15 [.t 112,.c (.int .i64 9)],oT 114 (.nilCheck (.t 111)),oQ 115 1 114,oZ (.store 1 (.t 115) (.t 113))]) (.seq (rg [oT 117 (.bin .eql (.v 101) (cI 2)),oN 116 117]) (.cond (.v 116) (rg [oM 118 7,oM 119 0,oC 120 15 [.t 119,.c (.int .i64 9)],oT 121 (.nilCheck (.t 118)),oQ 122 2 121,oZ (.store 1 (.t 122) (.t 120))]) (.seq (rg [oT 124 (.bin .eql (.v 101) (cI 3)),oN 123 124]) (.cond (.v 123) (rg [oM 125 7,oM 126 0,oC 127 63 [.t 126],oT 128 (.nilCheck (.t 125)),oQ 129 3 128,oZ (.store 1 (.t 129) (.t 127))]) .skip))))))))))) .skip)) (.seq (.region ⟨[oK 130 4 5,oS 4 4 130],[9,85],[]⟩) .ret)))))
def vf21 : VFunc:={ vs:=[0,1,3,4,5,6,7,21,22,29,36,43,50,58,65,71,76,91,101,102,109,116,123],nparams:=2,rets:=[.cell (.v 4) (some 4)],body:=vb21 }
def vb22 : VCode:=.seq (rg [oX 2 2 0,oJ 4 0]) (.seq (rg [oK 8 2 2,oM 9 1,oC 10 64 [.t 8,.t 9],oP 7 10,oE 11 7 0,oE 12 7 1,oV 5 (.alloc [.c (.int .i64 0),.c (.int .i64 0),.c (.str ⟨#[]⟩),.c (.int .i64 0),.c (.int .i64 0),.c (.int .i64 0)]),oS 6 5 11,oN 6 12]) (.seq (.seq (rg [oM 13 6,oV 14 (.not (.t 13))]) (.cond (.v 14) (.seq (rg [oJ 4 0]) .ret) .skip)) (.seq (rg [oK 15 2 2,oK 16 6 5,oC 17 54 [.t 15,.t 16],oN 4 17]) .ret)))
def vf22 : VFunc:={ vs:=[0,1,2,4,5,6,14],nparams:=2,rets:=[.tmp (.v 4)],body:=vb22 }
def vb23 : VCode:=.seq (rg [oX 2 2 0,oJ 4 0]) (.seq (rg [oK 9 2 2,oM 10 1,oC 11 19 [.t 9,.t 10],oP 8 11,oE 12 8 0,oE 13 8 1,oV 5 (.alloc [.c (.int .i64 0),.c (.int .i64 0),.c (.str ⟨#[]⟩),.c (.int .i64 0),.c (.int .i64 0),.c (.int .i64 0)]),oS 6 5 12,oN 6 13]) (.seq (.seq (rg [oM 14 6,oV 15 (.not (.t 14))]) (.cond (.v 15) (.seq (rg [oJ 4 0]) .ret) .skip)) (.seq (rg [oJ 7 31]) (.seq (.seq (rg [oM 16 1,oV 17 (.bin .neq (.t 16) (cI 1))]) (.cond (.v 17) (rg [oK 18 2 2,oM 19 1,oC 20 24 [.t 18,.t 19],oN 7 20]) .skip)) (.seq (.seq (rg [oF 21 4 5,oL 22 21,oV 23 (.bin .eql (.t 22) (cI 1))]) (.cond (.v 23) (rg [oM 24 7,oT 25 (.bin .andNot (.t 24) (cI 6)),oN 7 25]) .skip)) (.seq (rg [oM 26 7,oN 4 26]) .ret))))))
def vf23 : VFunc:={ vs:=[0,1,2,4,5,6,7,15,17,23],nparams:=2,rets:=[.tmp (.v 4)],body:=vb23 }
def vb24 : VCode:=.seq (rg [oX 2 2 0,oJ 4 0]) (.seq (rg [oK 10 2 2,oM 11 1,oC 12 19 [.t 10,.t 11],oP 9 12,oE 13 9 0,oE 14 9 1,oV 5 (.alloc [.c (.int .i64 0),.c (.int .i64 0),.c (.str ⟨#[]⟩),.c (.int .i64 0),.c (.int .i64 0),.c (.int .i64 0)]),oS 6 5 13,oN 6 14]) (.seq (.seq (rg [oM 15 6,oT 16 (.not (.t 15)),oP 17 16,gM 18 1 17 false,oG 19 (.bin .eql (.t 18) (cI 1)) 17 false,oV 20 (.pick (.t 17) cT (.t 19))]) (.cond (.v 20) (.seq (rg [oJ 4 0]) .ret) .skip)) (.seq (rg [oK 22 2 2,oF 23 1 5,oL 24 23,oC 25 19 [.t 22,.t 24],oP 21 25,oE 26 21 0,oE 27 21 1,oV 7 (.alloc [.c (.int .i64 0),.c (.int .i64 0),.c (.str ⟨#[]⟩),.c (.int .i64 0),.c (.int .i64 0),.c (.int .i64 0)]),oS 6 7 26,oP 8 27]) (.seq (.seq (rg [oF 28 4 5,oL 29 28,oV 30 (.bin .eql (.t 29) (cI 1))]) (.cond (.v 30) (.seq (rg [oF 31 3 7,oL 32 31,oT 33 (.bin .andNot (.t 32) (cI 6)),oN 4 33]) .ret) .skip)) (.seq (rg [oF 34 3 7,oL 35 34,oN 4 35]) .ret)))))
def vf24 : VFunc:={ vs:=[0,1,2,4,5,6,7,20,30],nparams:=2,rets:=[.tmp (.v 4)],body:=vb24 }
def vb25 : VCode:=.seq (rg [oJ 2 0]) (.seq (rg [oT 3 (.buildSlice 1 [.c (.int .i64 1),.c (.int .i64 9),.c (.int .i64 31),.c (.int .i64 2),.c (.int .i64 25),.c (.int .i64 4),.c (.int .i64 0),.c (.int .i64 32),.c (.int .i64 (-1))]),oM 4 0,oC 5 15 [.t 4,.c (.int .i64 9)],oA 6 1 3 5,oL 7 6,oN 2 7]) .ret)
def vf25 : VFunc:={ vs:=[0,2],nparams:=1,rets:=[.tmp (.v 2)],body:=vb25 }
def vb26 : VCode:=.seq (rg [oX 4 4 0,oV 8 (.alloc [.nil 6,.c (.int .i64 0),.nil 4,.c (.int .i64 0)]),oJ 9 0]) (.seq (.seq (rg [oK 19 4 4,oC 20 20 [.t 19],oT 21 (.not (.t 20)),oP 22 21,gM 23 2 22 false,oG 24 (.call 65 [.t 23]) 22 false,oG 25 (.not (.t 24)) 22 false,oO 26 22 25,oP 27 26,gM 28 3 27 false,oG 29 (.call 65 [.t 28]) 27 false,oG 30 (.not (.t 29)) 27 false,oO 31 27 30,oP 32 31,gM 33 2 32 false,gM 34 3 32 false,oG 35 (.bin .and (.t 33) (.t 34)) 32 false,oG 36 (.bin .neq (.t 35) (cI 0)) 32 false,oV 37 (.pick (.t 32) cT (.t 36))]) (.cond (.v 37) (.seq (rg [oT 38 (.build [.z (.nil 6),.z (.c (.int .i64 0)),.z (.nil 4),.z (.c (.int .i64 0))]),oS 4 8 38,oJ 9 1]) .ret) .skip)) (.seq (rg [oF 40 0 4,oR 41 2 40,oM 42 1,oC 43 19 [.t 41,.t 42],oP 39 43,oE 44 39 0,oE 45 39 1,oV 10 (.alloc [.c (.int .i64 0),.c (.int .i64 0),.c (.str ⟨#[]⟩),.c (.int .i64 0),.c (.int .i64 0),.c (.int .i64 0)]),oS 6 10 44,oN 11 45]) (.seq (.seq (rg [oM 46 11,oV 47 (.not (.t 46))]) (.cond (.v 47) (.seq (rg [oT 48 (.build [.z (.nil 6),.z (.c (.int .i64 0)),.z (.nil 4),.z (.c (.int .i64 0))]),oS 4 8 48,oJ 9 4]) .ret) .skip)) (.seq (.seq (rg [oM 49 2,oF 50 0 4,oR 51 2 50,oM 52 1,oC 53 23 [.t 51,.t 52],oT 54 (.bin .andNot (.t 49) (.t 53)),oV 55 (.bin .neq (.t 54) (cI 0))]) (.cond (.v 55) (.seq (rg [oT 56 (.build [.z (.nil 6),.z (.c (.int .i64 0)),.z (.nil 4),.z (.c (.int .i64 0))]),oS 4 8 56,oJ 9 9]) .ret) .skip)) (.seq (rg [oF 57 0 4,oR 58 2 57,oM 59 1,oC 60 66 [.t 58,.t 59],oN 12 60]) (.seq (.seq (rg [oJ 13 0]) (.block 0 (.loop (.seq (.seq (.region ⟨[oM 61 13,oM 62 12,oY 63 62,oU 64 61 63],[82],[]⟩) (.cond (.v 64) .skip (.exit 0))) (.seq (.block 1 (.seq (.region ⟨[oF 68 0 4,oR 69 2 68,oM 70 12,oM 71 13,oA 72 1 70 71,oL 73 72,oC 74 19 [.t 69,.t 73],oP 67 74,oE 75 67 0,oE 76 67 1,oV 14 (.alloc [.c (.int .i64 0),.c (.int .i64 0),.c (.str ⟨#[]⟩),.c (.int .i64 0),.c (.int .i64 0),.c (.int .i64 0)]),oS 6 14 75,oP 15 76],[],[(1,10),(4,10),(5,10),(6,10)]⟩) (.seq (rg [oF 77 3 14,oL 78 77,oM 79 3,oT 80 (.bin .and (.t 78) (.t 79)),oV 81 (.bin .neq (.t 80) (cI 0))]) (.cond (.v 81) (.seq (rg [oT 82 (.build [.z (.nil 6),.z (.c (.int .i64 0)),.z (.nil 4),.z (.c (.int .i64 0))]),oS 4 8 82,oJ 9 9]) .ret) .skip)))) (rg [oM 65 13,oI 66 65,oN 13 66])))))) (.seq (rg [oF 83 3 10,oL 84 83,oN 16 84]) (.seq (rg [oM 85 16,oM 86 3,oT 87 (.bin .andNot (.t 85) (.t 86)),oM 88 2,oT 89 (.bin .or (.t 87) (.t 88)),oF 90 3 10,oZ (.store 1 (.t 90) (.t 89))]) (.seq (.seq (rg [oF 91 3 10,oL 92 91,oT 93 (.bin .and (.t 92) (cI 6)),oN 17 93]) (.seq (rg [oM 94 17,oM 95 16,oT 96 (.bin .andNot (.t 94) (.t 95)),oT 97 (.bin .neq (.t 96) (cI 0)),oP 98 97,gM 99 1 98 true,oG 100 (.bin .neq (.t 99) (cI 1)) 98 true,oB 101 98 100,oP 102 101,oG 103 (.load (some 4) (.v 4)) 102 true,gM 104 1 102 true,oG 105 (.call 13 [.t 103,.t 104]) 102 true,oG 106 (.len (.t 105)) 102 true,oG 107 (.bin .gtr (.t 106) (cI 0)) 102 true,oV 108 (.pick (.t 102) (.t 107) cF)]) (.cond (.v 108) (.seq (rg [oT 109 (.build [.z (.nil 6),.z (.c (.int .i64 0)),.z (.nil 4),.z (.c (.int .i64 0))]),oS 4 8 109,oJ 9 6]) .ret) .skip))) (.seq (rg [oK 110 4 4,oC 111 61 [.t 110],oV 18 (.alloc [.nil 6,.c (.int .i64 0),.nil 4,.c (.int .i64 0)]),oS 4 18 111]) (.seq (rg [oF 112 0 4,oR 113 2 112,oK 114 6 10,oC 115 67 [.t 113,.t 114],oF 116 0 18,oZ (.store 2 (.t 116) (.t 115))]) (.seq (rg [oK 117 4 18,oS 4 8 117,oJ 9 0]) .ret))))))))))))
def vf26 : VFunc:={ vs:=[0,1,2,3,4,8,9,10,11,12,13,14,16,17,18,37,47,55,64,81,108],nparams:=4,rets:=[.cell (.v 8) (some 4),.tmp (.v 9)],body:=vb26 }
def vb40 : VCode:=.seq (rg [oJ 2 0,oJ 3 0,oJ 4 0]) (.scope (.seq (rg [oJ 5 0,oJ 6 0]) (.seq .skip (.seq (.seq (rg [oM 11 0,oV 12 (.call 79 [.t 11,.c (.str ⟨#[32]⟩)]),oV 13 (.len (.v 12)),oJ 14 0]) (.block 0 (.loop (.seq (.region ⟨[oV 15 (.bin .lss (.v 14) (.v 13))],[20],[]⟩) (.seq (.cond (.v 15) .skip (.exit 0)) (.seq (.block 1 (.seq (rg [oT 16 (.indexAddr 1 (.v 12) (.v 14)),oL 17 16,oN 8 17]) (.seq (.seq (rg [oM 18 8,oV 19 (.bin .eql (.t 18) (.c (.str ⟨#[]⟩)))]) (.cond (.v 19) (.exit 1) .skip)) (.seq (.seq (rg [oV 20 (.call 80 [.c (.int .i64 31)]),oV 21 (.len (.v 20)),oJ 22 0]) (.block 2 (.loop (.seq (rg [oV 23 (.bin .lss (.v 22) (.v 21))]) (.seq (.cond (.v 23) .skip (.exit 2)) (.seq (.block 3 (.seq (rg [oT 24 (.indexAddr 1 (.v 20) (.v 22)),oL 25 24,oN 10 25]) (.seq (rg [oV 26 (.move (.v 8))]) (.block 4 (.seq (rg [oM 28 10,oC 29 81 [.t 28],oT 30 (.bin .add (.c (.str ⟨#[43]⟩)) (.t 29)),oT 31 (.bin .eql (.v 26) (.t 30)),oN 27 31]) (.cond (.v 27) (.seq (rg [oM 32 5,oM 33 10,oT 34 (.bin .or (.t 32) (.t 33)),oM 35 6,oM 36 10,oT 37 (.bin .andNot (.t 35) (.t 36)),oN 5 34,oN 6 37]) (.exit 1)) (.seq (rg [oM 39 10,oC 40 81 [.t 39],oT 41 (.bin .add (.c (.str ⟨#[45]⟩)) (.t 40)),oT 42 (.bin .eql (.v 26) (.t 41)),oN 38 42]) (.cond (.v 38) (.seq (rg [oM 43 5,oM 44 10,oT 45 (.bin .andNot (.t 43) (.t 44)),oM 46 6,oM 47 10,oT 48 (.bin .or (.t 46) (.t 47)),oN 5 45,oN 6 48]) (.exit 1)) .skip)))))))) (rg [oT 49 (.bin .add (.v 22) (cI 1)),oN 22 49]))))))) (.seq (rg [oJ 2 0,oJ 3 0,oJ 4 2]) .ret))))) (rg [oT 50 (.bin .add (.v 14) (cI 1)),oN 14 50]))))))) (.seq (rg [oM 51 5,oM 52 6,oN 2 51,oN 3 52,oJ 4 0]) .ret)))))
def vf40 : VFunc:={ vs:=[0,2,3,4,5,6,8,10,12,13,14,15,19,20,21,22,23,26,27,38],nparams:=1,rets:=[.tmp (.v 2),.tmp (.v 3),.tmp (.v 4)],body:=vb40 }
def vb41 : VCode:=.seq (rg [oV 2 (.move (.c (.str ⟨#[]⟩)))]) (.seq (rg [oM 3 0,oC 4 83 [.t 3],oT 5 (.callW 82 [.t 4,.c (.str ⟨#[32]⟩)]),oN 2 5]) .ret)
def vf41 : VFunc:={ vs:=[0,2],nparams:=1,rets:=[.tmp (.v 2)],body:=vb41 }
def vb42 : VCode:=.seq (rg [oV 0 (.alloc [.nil 6,.c (.int .i64 0),.nil 4,.c (.int .i64 0)])]) (.seq (rg [oC 1 84 [],oT 2 (.build [.a (.t 1) 0 2,.a (.t 1) 1 2,.z (.nil 4),.a (cI 1) 0 1]),oS 4 0 2]) .ret)
def vf42 : VFunc:={ vs:=[0],nparams:=0,rets:=[.cell (.v 0) (some 4)],body:=vb42 }
def vb43 : VCode:=.seq (rg [oV 4 (.alloc [.nil 6,.c (.int .i64 0)])]) (.seq (rg [oC 13 84 [],oV 5 (.alloc [.nil 6,.c (.int .i64 0)]),oS 2 5 13]) (.seq (.seq (rg [oM 14 0,oM 15 1,oI 16 15,oC 17 15 [.t 14,.t 16],oN 6 17]) (.block 0 (.loop (.seq (.seq (.region ⟨[oM 18 6,oV 19 (.bin .gtr (.t 18) (cI 0))],[8,11,13,37,58],[]⟩) (.cond (.v 19) .skip (.exit 0))) (.seq (.block 1 (.seq (.region ⟨[oF 22 0 5,oL 23 22,oM 24 0,oF 25 0 5,oL 26 25,oY 27 26,oC 28 15 [.t 24,.t 27],oA 29 6 23 28,oQ 30 0 29,oL 31 30,oN 7 31],[],[(1,6)]⟩) (.seq (.seq (.region ⟨[oK 33 2 5,oM 34 7,oM 35 0,oC 36 86 [.t 35],oC 37 85 [.t 33,.t 34,.t 36],oP 32 37,oE 38 32 0,oE 39 32 1,oE 40 32 2,oV 8 (.alloc [.nil 6,.c (.int .i64 0)]),oS 2 8 38,oP 9 39,oN 10 40],[],[(0,3),(0,9),(3,9),(4,9)]⟩) (.seq (rg [oM 41 10,oV 42 (.bin .eql (.t 41) (cI 0))]) (.cond (.v 42) (rg [oK 43 2 8,oS 2 5 43]) .skip))) (.seq (rg [oM 44 0,oV 45 (.call 47 [.t 44,.c (.int .i64 6)])]) (.cond (.v 45) (.seq (.region ⟨[oK 47 2 5,oF 48 0 5,oL 49 48,oM 50 0,oF 51 0 5,oL 52 51,oY 53 52,oC 54 15 [.t 50,.t 53],oA 55 6 49 54,oQ 56 0 55,oL 57 56,oC 58 87 [.t 47,.t 57],oP 46 58,oE 59 46 0,oE 60 46 1,oV 11 (.alloc [.nil 6,.c (.int .i64 0)]),oS 2 11 59,oN 12 60],[],[(0,7),(2,7),(0,15),(2,15),(5,15),(7,15),(8,15),(10,15),(11,15)]⟩) (.seq (rg [oM 61 12,oV 62 (.bin .eql (.t 61) (cI 0))]) (.cond (.v 62) (rg [oK 63 2 11,oS 2 5 63]) .skip))) .skip))))) (rg [oM 20 6,oT 21 (.bin .sub (.t 20) (cI 1)),oN 6 21])))))) (.seq (rg [oK 64 2 5,oS 2 4 64]) .ret)))
def vf43 : VFunc:={ vs:=[0,1,4,5,6,7,8,10,11,12,19,42,45,62],nparams:=2,rets:=[.cell (.v 4) (some 2)],body:=vb43 }
def vb44 : VCode:=.seq (rg [oX 3 4 1,oV 4 (.alloc [.nil 6,.c (.int .i64 0),.nil 4,.c (.int .i64 0)])]) (.seq (rg [oM 12 0,oF 13 0 3,oR 14 2 13,oC 15 18 [.t 12,.t 14],oN 5 15]) (.seq (.seq (rg [oM 16 0,oV 17 (.call 15 [.t 16,.c (.int .i64 5)])]) (.block 0 (.seq (.seq (rg [oT 19 (.bin .eql (.v 17) (cI 0)),oN 18 19]) (.cond (.v 18) .skip (rg [oT 20 (.bin .eql (.v 17) (cI 1)),oN 18 20]))) (.cond (.v 18) (.seq (.region ⟨[oK 22 4 3,oM 23 5,oM 24 0,oC 25 25 [.t 24],oC 26 88 [.t 22,.t 23,.t 25,.c (.int .i64 0)],oP 21 26,oE 27 21 0,oE 28 21 1,oV 6 (.alloc [.nil 6,.c (.int .i64 0),.nil 4,.c (.int .i64 0)]),oS 4 6 27,oN 7 28],[],[(0,3),(0,8),(3,8),(4,8)]⟩) (.seq (rg [oM 29 7,oV 30 (.bin .eql (.t 29) (cI 0))]) (.cond (.v 30) (.seq (rg [oK 31 4 6,oS 4 4 31]) .ret) .skip))) (.seq (rg [oT 33 (.bin .eql (.v 17) (cI 2)),oN 32 33]) (.cond (.v 32) (.seq (rg [oK 35 4 3,oM 36 5,oC 37 89 [.t 35,.t 36],oP 34 37,oE 38 34 0,oE 39 34 1,oV 8 (.alloc [.nil 6,.c (.int .i64 0),.nil 4,.c (.int .i64 0)]),oS 4 8 38,oN 9 39]) (.seq (rg [oM 40 9,oV 41 (.bin .eql (.t 40) (cI 0))]) (.cond (.v 41) (.seq (rg [oK 42 4 8,oS 4 4 42]) .ret) .skip))) (.seq (rg [oT 44 (.bin .eql (.v 17) (cI 3)),oN 43 44]) (.cond (.v 43) (.seq (rg [oF 46 0 3,oR 47 2 46,oM 48 5,oC 49 19 [.t 47,.t 48],oP 45 49,oE 50 45 0,oE 51 45 1,oV 10 (.alloc [.c (.int .i64 0),.c (.int .i64 0),.c (.str ⟨#[]⟩),.c (.int .i64 0),.c (.int .i64 0),.c (.int .i64 0)]),oS 6 10 50,oN 11 51]) (.seq (rg [oM 52 11,oP 53 52,gM 54 5 53 true,oG 55 (.bin .neq (.t 54) (cI 1)) 53 true,oV 56 (.pick (.t 53) (.t 55) cF)]) (.cond (.v 56) (.seq (rg [oM 57 0,oC 58 15 [.t 57,.c (.int .i64 3)],oF 59 5 10,oZ (.store 1 (.t 59) (.t 58))]) (rg [oF 60 0 3,oR 61 2 60,oK 62 6 10,oC 63 67 [.t 61,.t 62],oF 64 0 3,oZ (.store 2 (.t 64) (.t 63))])) .skip))) .skip)))))))) (.seq (rg [oK 65 4 3,oS 4 4 65]) .ret)))
def vf44 : VFunc:={ vs:=[0,1,3,4,5,6,7,8,9,10,11,17,18,30,32,41,43,56],nparams:=2,rets:=[.cell (.v 4) (some 4)],body:=vb44 }
def vb45 : VCode:=.seq (rg [oX 2 4 0,oJ 4 0]) (.seq (.seq (rg [oK 7 4 2,oC 8 90 [.t 7],oV 9 (.not (.t 8))]) (.cond (.v 9) (.seq (rg [oJ 4 1]) .ret) .skip)) (.seq (rg [oF 11 0 2,oR 12 2 11,oM 13 1,oC 14 19 [.t 12,.t 13],oP 10 14,oE 15 10 0,oE 16 10 1,oV 5 (.alloc [.c (.int .i64 0),.c (.int .i64 0),.c (.str ⟨#[]⟩),.c (.int .i64 0),.c (.int .i64 0),.c (.int .i64 0)]),oS 6 5 15,oN 6 16]) (.seq (.block 0 (.seq (rg [oM 18 6,oT 19 (.not (.t 18)),oN 17 19]) (.cond (.v 17) (.seq (rg [oJ 4 4]) .ret) (.seq (rg [oF 21 0 2,oR 22 2 21,oM 23 1,oC 24 91 [.t 22,.t 23],oT 25 (.bin .eql (.t 24) (cI 3)),oN 20 25]) (.cond (.v 20) (.seq (rg [oJ 4 10]) .ret) (.seq (rg [oM 27 1,oT 28 (.bin .neq (.t 27) (cI 1)),oP 29 28,gF 30 3 5 29 true,gL 31 30 29 true,oG 32 (.bin .and (.t 31) (cI 6)) 29 true,oG 33 (.bin .neq (.t 32) (cI 0)) 29 true,oB 34 29 33,oN 26 34]) (.cond (.v 26) (.seq (rg [oJ 4 6]) .ret) .skip))))))) (.seq (rg [oJ 4 0]) .ret))))
def vf45 : VFunc:={ vs:=[0,1,2,4,5,6,9,17,20,26],nparams:=2,rets:=[.tmp (.v 4)],body:=vb45 }
def vb46 : VCode:=.seq (rg [oX 3 4 0,oV 6 (.alloc [.nil 6,.c (.int .i64 0),.nil 4,.c (.int .i64 0)]),oJ 7 0,oJ 8 0]) (.seq (.seq (rg [oK 9 4 3,oC 10 52 [.t 9],oT 11 (.not (.t 10)),oP 12 11,gM 13 2 12 false,oG 14 (.bin .lss (.t 13) (cI 0)) 12 false,oO 15 12 14,oP 16 15,gM 17 2 16 false,oG 18 (.bin .gtr (.t 17) (cI 1048576)) 16 false,oV 19 (.pick (.t 16) cT (.t 18))]) (.cond (.v 19) (.seq (rg [oT 20 (.build [.z (.nil 6),.z (.c (.int .i64 0)),.z (.nil 4),.z (.c (.int .i64 0))]),oS 4 6 20,oJ 7 0,oJ 8 1]) .ret) .skip)) (.seq (.seq (rg [oF 21 0 3,oR 22 2 21,oM 23 1,oC 24 92 [.t 22,.t 23],oV 25 (.not (.t 24))]) (.cond (.v 25) (.seq (rg [oT 26 (.build [.z (.nil 6),.z (.c (.int .i64 0)),.z (.nil 4),.z (.c (.int .i64 0))]),oS 4 6 26,oJ 7 0,oJ 8 4]) .ret) .skip)) (.seq (rg [oK 27 4 3,oM 28 1,oM 29 2,oT 30 (.build [.z (.c (.int .i64 0)),.z (.c (.int .i64 0)),.a (.t 28) 0 1,.a (.t 29) 0 1]),oC 31 93 [.t 27,.t 30],oE 32 31 0,oE 33 31 1,oE 34 31 2,oS 4 6 32,oN 7 33,oN 8 34]) .ret)))
def vf46 : VFunc:={ vs:=[0,1,2,3,6,7,8,19,25],nparams:=3,rets:=[.cell (.v 6) (some 4),.tmp (.v 7),.tmp (.v 8)],body:=vb46 }
def vb47 : VCode:=.seq (rg [oV 4 (.move cF)]) (.seq (rg [oM 5 0,oM 6 1,oC 7 15 [.t 5,.t 6],oM 8 1,oT 9 (.bin .sub (.t 8) (cI 1)),oT 10 (.bin .eql (.t 7) (.t 9)),oN 4 10]) .ret)
def vf47 : VFunc:={ vs:=[0,1,4],nparams:=2,rets:=[.tmp (.v 4)],body:=vb47 }
def vb48 : VCode:=.seq (rg [oX 2 4 0,oV 4 (.alloc [.nil 6,.c (.int .i64 0),.nil 4,.c (.int .i64 0)]),oJ 5 0,oJ 6 0]) (.seq (.seq (rg [oK 9 4 2,oC 10 52 [.t 9],oV 11 (.not (.t 10))]) (.cond (.v 11) (.seq (rg [oT 12 (.build [.z (.nil 6),.z (.c (.int .i64 0)),.z (.nil 4),.z (.c (.int .i64 0))]),oS 4 4 12,oJ 5 0,oJ 6 1]) .ret) .skip)) (.seq (rg [oK 14 4 2,oM 15 1,oC 16 94 [.t 14,.t 15],oP 13 16,oE 17 13 0,oE 18 13 1,oV 7 (.alloc [.c (.int .i64 0),.c (.int .i64 0),.c (.int .i64 0),.c (.int .i64 0)]),oS 4 7 17,oN 8 18]) (.seq (.seq (rg [oM 19 8,oV 20 (.not (.t 19))]) (.cond (.v 20) (.seq (rg [oT 21 (.build [.z (.nil 6),.z (.c (.int .i64 0)),.z (.nil 4),.z (.c (.int .i64 0))]),oS 4 4 21,oJ 5 0,oJ 6 4]) .ret) .skip)) (.seq (rg [oK 22 4 2,oK 23 4 7,oC 24 93 [.t 22,.t 23],oE 25 24 0,oE 26 24 1,oE 27 24 2,oS 4 4 25,oN 5 26,oN 6 27]) .ret))))
def vf48 : VFunc:={ vs:=[0,1,2,4,5,6,7,8,11,20],nparams:=2,rets:=[.cell (.v 4) (some 4),.tmp (.v 5),.tmp (.v 6)],body:=vb48 }
def vb49 : VCode:=.seq (rg [oX 3 4 1,oJ 4 0]) (.seq (.seq (rg [oM 5 0,oC 6 47 [.t 5,.c (.int .i64 15)],oP 7 6,gF 8 2 3 7 false,gL 9 8 7 false,oG 10 (.len (.t 9)) 7 false,oG 11 (.bin .eql (.t 10) (cI 0)) 7 false,oV 12 (.pick (.t 7) cT (.t 11))]) (.cond (.v 12) (.seq (rg [oM 13 0,oC 14 15 [.t 13,.c (.int .i64 9)],oT 15 (.bin .sub (.t 14) (cI 1)),oN 4 15]) .ret) .skip)) (.seq (.region ⟨[oF 16 2 3,oL 17 16,oM 18 0,oF 19 2 3,oL 20 19,oY 21 20,oC 22 15 [.t 18,.t 21],oA 23 4 17 22,oQ 24 0 23,oL 25 24,oN 4 25],[],[(1,6)]⟩) .ret))
def vf49 : VFunc:={ vs:=[0,1,3,4,12],nparams:=2,rets:=[.tmp (.v 4)],body:=vb49 }
def vb50 : VCode:=.seq (rg [oX 3 4 0,oV 6 (.alloc [.nil 6,.c (.int .i64 0),.nil 4,.c (.int .i64 0)]),oJ 7 0]) (.seq (.seq (rg [oK 15 4 3,oC 16 90 [.t 15],oV 17 (.not (.t 16))]) (.cond (.v 17) (.seq (rg [oT 18 (.build [.z (.nil 6),.z (.c (.int .i64 0)),.z (.nil 4),.z (.c (.int .i64 0))]),oS 4 6 18,oJ 7 1]) .ret) .skip)) (.seq (rg [oK 20 4 3,oM 21 1,oC 22 94 [.t 20,.t 21],oP 19 22,oE 23 19 0,oE 24 19 1,oV 8 (.alloc [.c (.int .i64 0),.c (.int .i64 0),.c (.int .i64 0),.c (.int .i64 0)]),oS 4 8 23,oN 9 24]) (.seq (.seq (rg [oM 25 9,oT 26 (.not (.t 25)),oP 27 26,gF 28 0 3 27 false,oG 29 (.load (some 2) (.t 28)) 27 false,gM 30 2 27 false,oG 31 (.call 92 [.t 29,.t 30]) 27 false,oG 32 (.not (.t 31)) 27 false,oV 33 (.pick (.t 27) cT (.t 32))]) (.cond (.v 33) (.seq (rg [oT 34 (.build [.z (.nil 6),.z (.c (.int .i64 0)),.z (.nil 4),.z (.c (.int .i64 0))]),oS 4 6 34,oJ 7 4]) .ret) .skip)) (.seq (.seq (rg [oK 35 4 3,oM 36 2,oC 37 45 [.t 35,.t 36],oN 10 37]) (.seq (rg [oM 38 10,oV 39 (.bin .neq (.t 38) (cI 0))]) (.cond (.v 39) (.seq (rg [oT 40 (.build [.z (.nil 6),.z (.c (.int .i64 0)),.z (.nil 4),.z (.c (.int .i64 0))]),oM 41 10,oS 4 6 40,oN 7 41]) .ret) .skip))) (.seq (rg [oF 43 0 3,oR 44 2 43,oM 45 2,oC 46 95 [.t 44,.t 45],oP 42 46,oE 47 42 0,oE 48 42 1,oN 11 47,oP 12 48]) (.seq (.seq (rg [oF 50 0 3,oR 51 2 50,oF 52 2 8,oL 53 52,oC 54 95 [.t 51,.t 53],oP 49 54,oE 55 49 0,oE 56 49 1,oN 13 55,oP 14 56]) (.seq (rg [oM 57 11,oM 58 13,oV 59 (.bin .neq (.t 57) (.t 58))]) (.cond (.v 59) (.seq (rg [oT 60 (.build [.z (.nil 6),.z (.c (.int .i64 0)),.z (.nil 4),.z (.c (.int .i64 0))]),oS 4 6 60,oJ 7 9]) .ret) .skip))) (.seq (rg [oK 61 4 3,oM 62 1,oM 63 2,oC 64 96 [.t 61,.t 62,.t 63],oE 65 64 0,oE 66 64 1,oS 4 6 65,oN 7 66]) .ret)))))))
def vf50 : VFunc:={ vs:=[0,1,2,3,6,7,8,9,10,11,13,17,33,39,59],nparams:=3,rets:=[.cell (.v 6) (some 4),.tmp (.v 7)],body:=vb50 }
def vb51 : VCode:=.seq (rg [oX 2 4 0,oV 4 (.alloc [.nil 6,.c (.int .i64 0),.nil 4,.c (.int .i64 0)]),oJ 5 0]) (.seq (.seq (rg [oK 11 4 2,oC 12 52 [.t 11],oV 13 (.not (.t 12))]) (.cond (.v 13) (.seq (rg [oT 14 (.build [.z (.nil 6),.z (.c (.int .i64 0)),.z (.nil 4),.z (.c (.int .i64 0))]),oS 4 4 14,oJ 5 1]) .ret) .skip)) (.seq (.seq (rg [oK 16 4 2,oM 17 1,oC 18 94 [.t 16,.t 17],oP 15 18,oE 19 15 0,oE 20 15 1,oT 6 (.alloc [.c (.int .i64 0),.c (.int .i64 0),.c (.int .i64 0),.c (.int .i64 0)]),oZ (.store 4 (.t 6) (.t 19)),oN 7 20]) (.seq (rg [oM 21 7,oV 22 (.not (.t 21))]) (.cond (.v 22) (.seq (rg [oT 23 (.build [.z (.nil 6),.z (.c (.int .i64 0)),.z (.nil 4),.z (.c (.int .i64 0))]),oS 4 4 23,oJ 5 4]) .ret) .skip))) (.seq (.region ⟨[oF 24 0 2,oR 25 2 24,oC 26 97 [.t 25],oF 27 3 2,oL 28 27,oT 29 (.build [.a (.t 26) 0 2,.a (.t 26) 1 2,.z (.nil 4),.a (.t 28) 0 1]),oV 8 (.alloc [.nil 6,.c (.int .i64 0),.nil 4,.c (.int .i64 0)]),oS 4 8 29],[],[(2,4),(1,6),(2,6),(4,6),(5,6)]⟩) (.seq (.seq (rg [oJ 9 0]) (.block 0 (.loop (.seq (.seq (rg [oM 30 9,oF 31 2 2,oL 32 31,oY 33 32,oU 34 30 33]) (.cond (.v 34) .skip (.exit 0))) (.seq (.block 1 (.seq (rg [oF 37 2 2,oL 38 37,oM 39 9,oA 40 4 38 39,oR 41 4 40,oV 10 (.alloc [.c (.int .i64 0),.c (.int .i64 0),.c (.int .i64 0),.c (.int .i64 0)]),oS 4 10 41]) (.seq (rg [oF 42 0 10,oL 43 42,oM 44 1,oT 45 (.bin .neq (.t 43) (.t 44)),oP 46 45,gF 47 1 10 46 true,gL 48 47 46 true,gM 49 1 46 true,oG 50 (.bin .neq (.t 48) (.t 49)) 46 true,oV 51 (.pick (.t 46) (.t 50) cF)]) (.cond (.v 51) (rg [oF 52 2 8,oL 53 52,oK 54 4 10,oT 55 (.buildSlice 4 [.t 54]),oT 56 (.append 4 32 (.t 53) (.t 55)),oF 57 2 8,oZ (.store 1 (.t 57) (.t 56))]) .skip)))) (rg [oM 35 9,oI 36 35,oN 9 36])))))) (.seq (rg [oK 58 4 8,oS 4 4 58,oJ 5 0]) .ret)))))
def vf51 : VFunc:={ vs:=[0,1,2,4,5,7,8,9,10,13,22,34,51],nparams:=2,rets:=[.cell (.v 4) (some 4),.tmp (.v 5)],body:=vb51 }
def vb52 : VCode:=.seq (rg [oX 1 4 0,oV 2 (.move cF)]) (.seq (rg [oF 8 2 1,oL 9 8,oY 10 9,oN 3 10]) (.seq (.seq (rg [oF 11 0 1,oR 12 2 11,oC 13 60 [.t 12],oT 14 (.not (.t 13)),oP 15 14,gM 16 3 15 false,oG 17 (.bin .gtr (.t 16) (cI 128)) 15 false,oO 18 15 17,oP 19 18,gF 20 3 1 19 false,gL 21 20 19 false,oG 22 (.bin .lss (.t 21) (cI 1)) 19 false,oO 23 19 22,oP 24 23,gF 25 3 1 24 false,gL 26 25 24 false,oG 27 (.bin .gtr (.t 26) (cI 2147483648)) 24 false,oO 28 24 27,oP 29 28,gM 30 3 29 false,oG 31 (.bin .gtr (.t 30) (cI 0)) 29 false,oG 32 (.move (.t 31)) 29 false,gF 33 3 1 32 true,gL 34 33 32 true,gF 35 2 1 32 true,gL 36 35 32 true,gM 37 3 32 true,oG 38 (.bin .sub (.t 37) (cI 1)) 32 true,oG 39 (.indexAddr 4 (.t 36) (.t 38)) 32 true,oG 40 (.fieldAddr 0 (.t 39)) 32 true,gL 41 40 32 true,oG 42 (.bin .leq (.t 34) (.t 41)) 32 true,oG 43 (.pick (.t 32) (.t 42) cF) 29 false,oV 44 (.pick (.t 29) cT (.t 43))]) (.cond (.v 44) (.seq (rg [oV 2 (.move cF)]) .ret) .skip)) (.seq (.seq (rg [oJ 4 0]) (.block 0 (.loop (.seq (.seq (rg [oM 45 4,oM 46 3,oU 47 45 46]) (.cond (.v 47) .skip (.exit 0))) (.seq (.block 1 (.seq (rg [oF 50 2 1,oL 51 50,oM 52 4,oA 53 4 51 52,oR 54 4 53,oV 5 (.alloc [.c (.int .i64 0),.c (.int .i64 0),.c (.int .i64 0),.c (.int .i64 0)]),oS 4 5 54]) (.seq (rg [oF 56 2 1,oL 57 56,oF 58 1 5,oL 59 58,oC 60 98 [.t 57,.t 59],oP 55 60,oE 61 55 0,oE 62 55 1,oV 6 (.alloc [.c (.int .i64 0),.c (.int .i64 0),.c (.int .i64 0),.c (.int .i64 0)]),oS 4 6 61,oN 7 62]) (.seq (rg [oF 63 0 5,oL 64 63,oT 65 (.bin .lss (.t 64) (cI 1)),oP 66 65,gM 67 4 66 false,oG 68 (.bin .gtr (.t 67) (cI 0)) 66 false,oG 69 (.move (.t 68)) 66 false,gF 70 2 1 69 true,gL 71 70 69 true,gM 72 4 69 true,oG 73 (.bin .sub (.t 72) (cI 1)) 69 true,oG 74 (.indexAddr 4 (.t 71) (.t 73)) 69 true,oG 75 (.fieldAddr 0 (.t 74)) 69 true,gL 76 75 69 true,gF 77 0 5 69 true,gL 78 77 69 true,oG 79 (.bin .geq (.t 76) (.t 78)) 69 true,oG 80 (.pick (.t 69) (.t 79) cF) 66 false,oO 81 66 80,oP 82 81,gF 83 0 1 82 false,oG 84 (.load (some 2) (.t 83)) 82 false,gF 85 2 5 82 false,gL 86 85 82 false,oG 87 (.call 92 [.t 84,.t 86]) 82 false,oG 88 (.not (.t 87)) 82 false,oO 89 82 88,oP 90 89,gF 91 3 5 90 false,gL 92 91 90 false,oG 93 (.bin .lss (.t 92) (cI 0)) 90 false,oO 94 90 93,oP 95 94,gF 96 3 5 95 false,gL 97 96 95 false,oG 98 (.bin .gtr (.t 97) (cI 1048576)) 95 false,oO 99 95 98,oP 100 99,gM 101 7 100 false,oG 102 (.not (.t 101)) 100 false,oO 103 100 102,oP 104 103,gF 105 3 6 104 false,gL 106 105 104 false,gF 107 3 5 104 false,gL 108 107 104 false,oG 109 (.bin .neq (.t 106) (.t 108)) 104 false,oV 110 (.pick (.t 104) cT (.t 109))]) (.cond (.v 110) (.seq (rg [oV 2 (.move cF)]) .ret) .skip))))) (rg [oM 48 4,oI 49 48,oN 4 49])))))) (.seq (rg [oV 2 (.move cT)]) .ret))))
def vf52 : VFunc:={ vs:=[0,1,2,3,4,5,6,7,44,47,110],nparams:=1,rets:=[.tmp (.v 2)],body:=vb52 }
end Go.V
namespace Go.V
def vb53 : VCode:=.seq (rg [oX 1 4 0,oV 2 (.move cF)]) (.seq (.seq (rg [oF 6 2 1,oL 7 6,oY 8 7,oT 9 (.bin .gtr (.t 8) (cI 128)),oP 10 9,gF 11 3 1 10 false,gL 12 11 10 false,oG 13 (.bin .gtr (.t 12) (cI 2147483648)) 10 false,oO 14 10 13,oP 15 14,gF 16 0 1 15 false,oG 17 (.load (some 2) (.t 16)) 15 false,oG 18 (.call 99 [.t 17]) 15 false,oG 19 (.not (.t 18)) 15 false,oV 20 (.pick (.t 15) cT (.t 19))]) (.cond (.v 20) (.seq (rg [oV 2 (.move cF)]) .ret) .skip)) (.seq (rg [oJ 3 0]) (.seq (.seq (rg [oF 21 2 1,oV 22 (.load none (.t 21)),oV 23 (.len (.v 22)),oJ 24 0]) (.block 0 (.loop (.seq (rg [oV 25 (.bin .lss (.v 24) (.v 23))]) (.seq (.cond (.v 25) .skip (.exit 0)) (.seq (.block 1 (.seq (rg [oT 26 (.indexAddr 4 (.v 22) (.v 24)),oR 27 4 26,oV 5 (.alloc [.c (.int .i64 0),.c (.int .i64 0),.c (.int .i64 0),.c (.int .i64 0)]),oS 4 5 27]) (.seq (.seq (rg [oF 28 0 5,oL 29 28,oM 30 3,oT 31 (.bin .leq (.t 29) (.t 30)),oP 32 31,oG 33 (.load (some 4) (.v 1)) 32 false,oG 34 (.load (some 4) (.v 5)) 32 false,oG 35 (.call 100 [.t 33,.t 34]) 32 false,oG 36 (.not (.t 35)) 32 false,oV 37 (.pick (.t 32) cT (.t 36))]) (.cond (.v 37) (.seq (rg [oV 2 (.move cF)]) .ret) .skip)) (rg [oF 38 0 5,oL 39 38,oN 3 39])))) (rg [oT 40 (.bin .add (.v 24) (cI 1)),oN 24 40]))))))) (.seq (rg [oF 41 3 1,oL 42 41,oM 43 3,oT 44 (.bin .gtr (.t 42) (.t 43)),oN 2 44]) .ret))))
def vf53 : VFunc:={ vs:=[0,1,2,3,5,20,22,23,24,25,37],nparams:=1,rets:=[.tmp (.v 2)],body:=vb53 }
def vb54 : VCode:=.seq (rg [oX 2 2 0,oX 3 6 1,oJ 4 0]) (.seq (rg [oJ 5 31]) (.seq (.seq (rg [oF 8 0 3,oL 9 8,oV 10 (.bin .neq (.t 9) (cI 1))]) (.cond (.v 10) (.seq (rg [oK 12 2 2,oF 13 1 3,oL 14 13,oC 15 101 [.t 12,.t 14],oP 11 15,oE 16 11 0,oE 17 11 1,oV 6 (.alloc [.c (.int .i64 0),.c (.int .i64 0),.c (.str ⟨#[]⟩),.c (.int .i64 0),.c (.int .i64 0),.c (.int .i64 0)]),oS 6 6 16,oP 7 17]) (rg [oF 18 3 6,oL 19 18,oN 5 19])) .skip)) (.seq (.seq (rg [oF 20 4 3,oL 21 20,oV 22 (.bin .eql (.t 21) (cI 1))]) (.cond (.v 22) (rg [oM 23 5,oT 24 (.bin .andNot (.t 23) (cI 6)),oN 5 24]) .skip)) (.seq (rg [oM 25 5,oN 4 25]) .ret))))
def vf54 : VFunc:={ vs:=[0,1,2,3,4,5,6,10,22],nparams:=2,rets:=[.tmp (.v 4)],body:=vb54 }
def vb55 : VCode:=.seq (rg [oX 2 4 0,oX 3 1 1,oV 4 (.newArr 1)]) (.seq (rg [oK 5 4 2,oT 6 (.makeFunc 103 [.v 3]),oC 7 102 [.t 5,.t 6,.c (.fn 104)],oN 4 7]) .ret)
def vf55 : VFunc:={ vs:=[0,1,2,3,4],nparams:=2,rets:=[.tmp (.v 4)],body:=vb55 }
def vb56 : VCode:=.seq (rg [oV 2 (.move cF)]) (.seq (rg [oM 3 0,oT 4 (.bin .geq (.t 3) (cI 0)),oP 5 4,gM 6 0 5 true,oG 7 (.bin .andNot (.t 6) (cI 31)) 5 true,oG 8 (.bin .eql (.t 7) (cI 0)) 5 true,oB 9 5 8,oN 2 9]) .ret)
def vf56 : VFunc:={ vs:=[0,2],nparams:=1,rets:=[.tmp (.v 2)],body:=vb56 }
def vb57 : VCode:=.seq (rg [oX 2 2 0,oX 3 1 1,oJ 4 0]) (.seq (rg [oF 5 0 2,oL 6 5,oT 7 (.makeFunc 106 [.v 3]),oC 8 105 [.t 6,.t 7],oN 4 8]) .ret)
def vf57 : VFunc:={ vs:=[0,1,2,3,4],nparams:=2,rets:=[.tmp (.v 4)],body:=vb57 }
def vb58 : VCode:=.seq (rg [oX 1 4 0,oV 2 (.alloc [.nil 6,.c (.int .i64 0),.nil 4,.c (.int .i64 0)])]) (.seq (.region ⟨[oF 3 0 1,oQ 4 0 3,oL 5 4,oC 6 107 [.t 5],oF 7 0 1,oQ 8 1 7,oL 9 8,oT 10 (.build [.a (.t 6) 0 1,.a (.t 9) 0 1]),oF 11 2 1,oL 12 11,oC 13 108 [.t 12],oF 14 3 1,oL 15 14,oT 16 (.build [.a (.t 10) 0 2,.a (.t 10) 1 2,.a (.t 13) 0 1,.a (.t 15) 0 1]),oS 4 2 16],[],[(3,6),(3,9),(7,9),(6,10),(7,10),(3,12),(7,12),(10,12)]⟩) .ret)
def vf58 : VFunc:={ vs:=[0,1,2],nparams:=1,rets:=[.cell (.v 2) (some 4)],body:=vb58 }
def vb59 : VCode:=.seq (rg [oX 2 2 0,oX 3 2 1,oV 4 (.move cF)]) (.seq (.seq (rg [oF 6 0 2,oL 7 6,oY 8 7,oF 9 0 3,oL 10 9,oY 11 10,oT 12 (.bin .neq (.t 8) (.t 11)),oP 13 12,gF 14 1 2 13 false,gL 15 14 13 false,gF 16 1 3 13 false,gL 17 16 13 false,oG 18 (.bin .neq (.t 15) (.t 17)) 13 false,oV 19 (.pick (.t 13) cT (.t 18))]) (.cond (.v 19) (.seq (rg [oV 4 (.move cF)]) .ret) .skip)) (.seq (.seq (rg [oJ 5 0]) (.block 0 (.loop (.seq (.seq (rg [oM 20 5,oF 21 0 2,oL 22 21,oY 23 22,oU 24 20 23]) (.cond (.v 24) .skip (.exit 0))) (.seq (.block 1 (.seq (rg [oF 27 0 2,oL 28 27,oM 29 5,oA 30 6 28 29,oR 31 6 30,oF 32 0 3,oL 33 32,oM 34 5,oA 35 6 33 34,oR 36 6 35,oV 37 (.eqAgg true [(.int .i64),(.int .i64),.str,(.int .i64),(.int .i64),(.int .i64)] (.t 31) (.t 36))]) (.cond (.v 37) (.seq (rg [oV 4 (.move cF)]) .ret) .skip))) (rg [oM 25 5,oI 26 25,oN 5 26])))))) (.seq (rg [oV 4 (.move cT)]) .ret)))
def vf59 : VFunc:={ vs:=[0,1,2,3,4,5,19,24,37],nparams:=2,rets:=[.tmp (.v 4)],body:=vb59 }
def vb60 : VCode:=.seq (rg [oX 1 2 0,oV 2 (.move cF)]) (.seq (rg [oF 6 0 1,oL 7 6,oY 8 7,oN 3 8]) (.seq (.seq (rg [oM 9 3,oT 10 (.bin .lss (.t 9) (cI 1)),oP 11 10,gM 12 3 11 false,oG 13 (.bin .gtr (.t 12) (cI 64)) 11 false,oV 14 (.pick (.t 11) cT (.t 13))]) (.cond (.v 14) (.seq (rg [oV 2 (.move cF)]) .ret) .skip)) (.seq (.seq (rg [oJ 4 0]) (.block 0 (.loop (.seq (.seq (rg [oM 15 4,oM 16 3,oU 17 15 16]) (.cond (.v 17) .skip (.exit 0))) (.seq (.block 1 (.seq (rg [oK 20 2 1,oM 21 4,oC 22 109 [.t 20,.t 21],oV 23 (.not (.t 22))]) (.cond (.v 23) (.seq (rg [oV 2 (.move cF)]) .ret) .skip))) (rg [oM 18 4,oI 19 18,oN 4 19])))))) (.seq (.seq (rg [oJ 5 0]) (.block 2 (.loop (.seq (.seq (.region ⟨[oM 24 5,oM 25 3,oU 26 24 25],[36],[]⟩) (.cond (.v 26) .skip (.exit 2))) (.seq (.block 3 (.seq (rg [oK 29 2 1,oF 30 0 1,oL 31 30,oM 32 5,oA 33 6 31 32,oQ 34 0 33,oL 35 34,oC 36 110 [.t 29,.t 35],oY 37 36,oV 38 (.bin .gtr (.t 37) (cI 9))]) (.cond (.v 38) (.seq (rg [oV 2 (.move cF)]) .ret) .skip))) (rg [oM 27 5,oI 28 27,oN 5 28])))))) (.seq (rg [oF 39 1 1,oL 40 39,oF 41 0 1,oL 42 41,oM 43 3,oT 44 (.bin .sub (.t 43) (cI 1)),oA 45 6 42 44,oQ 46 0 45,oL 47 46,oT 48 (.bin .gtr (.t 40) (.t 47)),oP 49 48,gF 50 1 1 49 true,gL 51 50 49 true,oG 52 (.bin .leq (.t 51) (cI 2147483648)) 49 true,oB 53 49 52,oN 2 53]) .ret)))))
def vf60 : VFunc:={ vs:=[0,1,2,3,4,5,14,17,23,26,38],nparams:=1,rets:=[.tmp (.v 2)],body:=vb60 }
def vb61 : VCode:=.seq (rg [oX 1 4 0,oV 2 (.alloc [.nil 6,.c (.int .i64 0),.nil 4,.c (.int .i64 0)])]) (.seq (.region ⟨[oF 3 0 1,oR 4 2 3,oC 5 97 [.t 4],oF 6 2 1,oL 7 6,oT 8 (.appendNil 4 32 (.t 7)),oF 9 3 1,oL 10 9,oT 11 (.build [.a (.t 5) 0 2,.a (.t 5) 1 2,.a (.t 8) 0 1,.a (.t 10) 0 1]),oS 4 2 11],[],[(2,4),(2,7),(5,7)]⟩) .ret)
def vf61 : VFunc:={ vs:=[0,1,2],nparams:=1,rets:=[.cell (.v 2) (some 4)],body:=vb61 }
def vb62 : VCode:=.seq (rg [oV 2 (.move (.c (.str ⟨#[]⟩)))]) (.seq (rg [oT 3 (.buildSlice 1 [.c (.str ⟨#[97]⟩),.c (.str ⟨#[98]⟩),.c (.str ⟨#[99]⟩),.c (.str ⟨#[119,101,98]⟩),.c (.str ⟨#[100,98,45,49]⟩),.c (.str ⟨#[88,95,57]⟩),.c (.str ⟨#[]⟩),.c (.str ⟨#[45,97]⟩),.c (.str ⟨#[97,47,98]⟩),.c (.str ⟨#[195,169]⟩),.c (.str ⟨#[97,97,97,97,97,97,97,97,97,97,97,97,97,97,97,97,97,97,97,97,97,97,97,97,97,97,97,97,97,97,97,97]⟩),.c (.str ⟨#[97,97,97,97,97,97,97,97,97,97,97,97,97,97,97,97,97,97,97,97,97,97,97,97,97,97,97,97,97,97,97,97,97]⟩)]),oM 4 0,oC 5 15 [.t 4,.c (.int .i64 12)],oA 6 1 3 5,oL 7 6,oN 2 7]) .ret)
def vf62 : VFunc:={ vs:=[0,2],nparams:=1,rets:=[.tmp (.v 2)],body:=vb62 }
def vb63 : VCode:=.seq (rg [oJ 2 0]) (.seq (rg [oT 3 (.buildSlice 1 [.c (.int .i64 0),.c (.int .i64 1),.c (.int .i64 2),.c (.int .i64 1),.c (.int .i64 7),.c (.int .i64 (-1)),.c (.int .i64 1048576),.c (.int .i64 1048577)]),oM 4 0,oC 5 15 [.t 4,.c (.int .i64 8)],oA 6 1 3 5,oL 7 6,oN 2 7]) .ret)
def vf63 : VFunc:={ vs:=[0,2],nparams:=1,rets:=[.tmp (.v 2)],body:=vb63 }
def vb64 : VCode:=.seq (rg [oX 2 2 0,oV 4 (.alloc [.c (.int .i64 0),.c (.int .i64 0),.c (.str ⟨#[]⟩),.c (.int .i64 0),.c (.int .i64 0),.c (.int .i64 0)]),oV 5 (.move cF)]) (.seq (rg [oK 6 2 2,oC 7 111 [.t 6],oM 8 1,oC 9 101 [.t 7,.t 8],oE 10 9 0,oE 11 9 1,oS 6 4 10,oN 5 11]) .ret)
def vf64 : VFunc:={ vs:=[0,1,2,4,5],nparams:=2,rets:=[.cell (.v 4) (some 6),.tmp (.v 5)],body:=vb64 }
def vb65 : VCode:=.seq (rg [oV 2 (.move cF)]) (.seq (rg [oM 3 0,oT 4 (.bin .geq (.t 3) (cI 0)),oP 5 4,gM 6 0 5 true,oG 7 (.bin .leq (.t 6) (cI 31)) 5 true,oB 8 5 7,oN 2 8]) .ret)
def vf65 : VFunc:={ vs:=[0,2],nparams:=1,rets:=[.tmp (.v 2)],body:=vb65 }
def vb66 : VCode:=.seq (rg [oX 2 2 0,oV 4 (.newArr 1)]) (.seq (.seq (rg [oK 7 2 2,oM 8 1,oC 9 92 [.t 7,.t 8],oV 10 (.not (.t 9))]) (.cond (.v 10) (.seq (rg [oV 4 (.newArr 1)]) .ret) .skip)) (.seq (rg [oV 5 (.newArr 1)]) (.seq (.seq (rg [oJ 6 0]) (.block 0 (.loop (.seq (.seq (rg [oM 11 6,oF 12 0 2,oL 13 12,oY 14 13,oU 15 11 14]) (.cond (.v 15) .skip (.exit 0))) (.seq (.block 1 (.seq (rg [oF 18 0 2,oL 19 18,oM 20 6,oA 21 6 19 20,oQ 22 1 21,oL 23 22,oM 24 1,oV 25 (.bin .eql (.t 23) (.t 24))]) (.cond (.v 25) (rg [oM 26 5,oF 27 0 2,oL 28 27,oM 29 6,oA 30 6 28 29,oQ 31 0 30,oL 32 31,oT 33 (.buildSlice 1 [.t 32]),oT 34 (.append 1 8 (.t 26) (.t 33)),oN 5 34]) .skip))) (rg [oM 16 6,oI 17 16,oN 6 17])))))) (.seq (rg [oM 35 5,oN 4 35]) .ret))))
def vf66 : VFunc:={ vs:=[0,1,2,4,5,6,10,15,25],nparams:=2,rets:=[.tmp (.v 4)],body:=vb66 }
def vb67 : VCode:=.seq (rg [oX 2 2 0,oX 3 6 1,oV 4 (.alloc [.nil 6,.c (.int .i64 0)])]) (.seq (rg [oK 7 2 2,oC 8 97 [.t 7],oV 5 (.alloc [.nil 6,.c (.int .i64 0)]),oS 2 5 8]) (.seq (.seq (rg [oJ 6 0]) (.block 0 (.loop (.seq (.seq (rg [oM 9 6,oF 10 0 5,oL 11 10,oY 12 11,oU 13 9 12]) (.cond (.v 13) .skip (.exit 0))) (.seq (.block 1 (.seq (rg [oF 16 0 5,oL 17 16,oM 18 6,oA 19 6 17 18,oQ 20 0 19,oL 21 20,oF 22 0 3,oL 23 22,oV 24 (.bin .eql (.t 21) (.t 23))]) (.cond (.v 24) (rg [oF 25 0 5,oL 26 25,oM 27 6,oK 28 6 3,oA 29 6 26 27,oZ (.store 6 (.t 29) (.t 28))]) .skip))) (rg [oM 14 6,oI 15 14,oN 6 15])))))) (.seq (rg [oK 30 2 5,oS 2 4 30]) .ret)))
def vf67 : VFunc:={ vs:=[0,1,2,3,4,5,6,13,24],nparams:=2,rets:=[.cell (.v 4) (some 2)],body:=vb67 }
def vb80 : VCode:=.seq (rg [oV 2 (.newArr 1)]) (.seq (rg [oV 3 (.newArr 1)]) (.seq (.seq (rg [oM 5 0,oT 6 (.bin .and (.t 5) (cI 31)),oT 7 (.conv .u64 (.t 6)),oN 4 7]) (.block 0 (.loop (.seq (.seq (rg [oM 8 4,oV 9 (.bin .neq (.t 8) (.c (.int .u64 0)))]) (.cond (.v 9) .skip (.exit 0))) (.seq (.block 1 (rg [oM 14 3,oM 15 4,oC 16 127 [.t 15],oT 17 (.bin .shl (cI 1) (.t 16)),oT 18 (.buildSlice 1 [.t 17]),oT 19 (.append 1 8 (.t 14) (.t 18)),oN 3 19])) (rg [oM 10 4,oM 11 4,oT 12 (.bin .sub (.t 11) (.c (.int .u64 1))),oT 13 (.bin .and (.t 10) (.t 12)),oN 4 13])))))) (.seq (rg [oM 20 3,oN 2 20]) .ret)))
def vf80 : VFunc:={ vs:=[0,2,3,4,9],nparams:=1,rets:=[.tmp (.v 2)],body:=vb80 }
def vb81 : VCode:=.seq (rg [oV 2 (.move (.c (.str ⟨#[]⟩)))]) (.seq (.seq (rg [oV 3 (.move (.v 0))]) (.block 0 (.seq (rg [oT 5 (.bin .eql (.v 3) (cI 1)),oN 4 5]) (.cond (.v 4) (.seq (rg [oV 2 (.move (.c (.str ⟨#[99,112,117]⟩)))]) .ret) (.seq (rg [oT 7 (.bin .eql (.v 3) (cI 2)),oN 6 7]) (.cond (.v 6) (.seq (rg [oV 2 (.move (.c (.str ⟨#[109,101,109,111,114,121]⟩)))]) .ret) (.seq (rg [oT 9 (.bin .eql (.v 3) (cI 4)),oN 8 9]) (.cond (.v 8) (.seq (rg [oV 2 (.move (.c (.str ⟨#[105,111]⟩)))]) .ret) (.seq (rg [oT 11 (.bin .eql (.v 3) (cI 8)),oN 10 11]) (.cond (.v 10) (.seq (rg [oV 2 (.move (.c (.str ⟨#[112,105,100,115]⟩)))]) .ret) .skip)))))))))) (.seq (rg [oV 2 (.move (.c (.str ⟨#[99,112,117,115,101,116]⟩)))]) .ret))
def vf81 : VFunc:={ vs:=[0,2,3,4,6,8,10],nparams:=1,rets:=[.tmp (.v 2)],body:=vb81 }
def vb83 : VCode:=.seq (rg [oV 2 (.newArr 1)]) (.seq (rg [oV 3 (.newArr 1)]) (.seq (.seq (rg [oM 6 0,oV 7 (.call 80 [.t 6]),oV 8 (.len (.v 7)),oJ 9 0]) (.block 0 (.loop (.seq (rg [oV 10 (.bin .lss (.v 9) (.v 8))]) (.seq (.cond (.v 10) .skip (.exit 0)) (.seq (.block 1 (.seq (rg [oT 11 (.indexAddr 1 (.v 7) (.v 9)),oL 12 11,oN 5 12]) (rg [oM 13 3,oM 14 5,oC 15 81 [.t 14],oT 16 (.buildSlice 1 [.t 15]),oT 17 (.append 1 16 (.t 13) (.t 16)),oN 3 17]))) (rg [oT 18 (.bin .add (.v 9) (cI 1)),oN 9 18]))))))) (.seq (rg [oM 19 3,oN 2 19]) .ret)))
def vf83 : VFunc:={ vs:=[0,2,3,5,7,8,9,10],nparams:=1,rets:=[.tmp (.v 2)],body:=vb83 }
def vb84 : VCode:=.seq (rg [oV 0 (.alloc [.nil 6,.c (.int .i64 0)])]) (.seq (rg [oT 1 (.build [.a (cI 1) 0 1,.z (.c (.int .i64 0)),.z (.c (.str ⟨#[]⟩)),.z (.c (.int .i64 0)),.z (.c (.int .i64 0)),.z (.c (.int .i64 0))]),oT 2 (.buildSlice 6 [.t 1]),oT 3 (.build [.a (.t 2) 0 1,.a (cI 2) 0 1]),oS 2 0 3]) .ret)
def vf84 : VFunc:={ vs:=[0],nparams:=0,rets:=[.cell (.v 0) (some 2)],body:=vb84 }
def vb85 : VCode:=.seq (rg [oX 3 2 0,oV 6 (.alloc [.nil 6,.c (.int .i64 0)]),oJ 7 0,oJ 8 0]) (.seq (.seq (rg [oK 11 2 3,oC 12 60 [.t 11],oT 13 (.not (.t 12)),oP 14 13,gM 15 2 14 false,oG 16 (.call 131 [.t 15]) 14 false,oG 17 (.not (.t 16)) 14 false,oV 18 (.pick (.t 14) cT (.t 17))]) (.cond (.v 18) (.seq (rg [oT 19 (.build [.z (.nil 6),.z (.c (.int .i64 0))]),oS 2 6 19,oJ 7 0,oJ 8 1]) .ret) .skip)) (.seq (.seq (rg [oK 20 2 3,oM 21 1,oC 22 92 [.t 20,.t 21],oV 23 (.not (.t 22))]) (.cond (.v 23) (.seq (rg [oT 24 (.build [.z (.nil 6),.z (.c (.int .i64 0))]),oS 2 6 24,oJ 7 0,oJ 8 4]) .ret) .skip)) (.seq (.seq (rg [oJ 9 0]) (.block 0 (.loop (.seq (.seq (.region ⟨[oM 25 9,oF 26 0 3,oL 27 26,oY 28 27,oU 29 25 28],[50],[]⟩) (.cond (.v 29) .skip (.exit 0))) (.seq (.block 1 (.seq (rg [oF 32 0 3,oL 33 32,oM 34 9,oA 35 6 33 34,oQ 36 1 35,oL 37 36,oM 38 1,oT 39 (.bin .eql (.t 37) (.t 38)),oP 40 39,gF 41 0 3 40 true,gL 42 41 40 true,gM 43 9 40 true,oG 44 (.indexAddr 6 (.t 42) (.t 43)) 40 true,oG 45 (.fieldAddr 2 (.t 44)) 40 true,gL 46 45 40 true,gM 47 2 40 true,oG 48 (.bin .eql (.t 46) (.t 47)) 40 true,oV 49 (.pick (.t 40) (.t 48) cF)]) (.cond (.v 49) (.seq (rg [oT 50 (.build [.z (.nil 6),.z (.c (.int .i64 0))]),oS 2 6 50,oJ 7 0,oJ 8 5]) .ret) .skip))) (rg [oM 30 9,oI 31 30,oN 9 31])))))) (.seq (.seq (rg [oK 51 2 3,oM 52 1,oC 53 132 [.t 51,.t 52],oT 54 (.bin .geq (.t 53) (cI 8)),oP 55 54,gF 56 0 3 55 false,gL 57 56 55 false,oG 58 (.len (.t 57)) 55 false,oG 59 (.bin .geq (.t 58) (cI 64)) 55 false,oO 60 55 59,oP 61 60,gF 62 1 3 61 false,gL 63 62 61 false,oG 64 (.bin .gtr (.t 63) (cI 2147483647)) 61 false,oV 65 (.pick (.t 61) cT (.t 64))]) (.cond (.v 65) (.seq (rg [oT 66 (.build [.z (.nil 6),.z (.c (.int .i64 0))]),oS 2 6 66,oJ 7 0,oJ 8 7]) .ret) .skip)) (.seq (rg [oK 67 2 3,oC 68 97 [.t 67],oV 10 (.alloc [.nil 6,.c (.int .i64 0)]),oS 2 10 68]) (.seq (rg [oF 69 0 10,oL 70 69,oF 71 1 3,oL 72 71,oM 73 1,oM 74 2,oT 75 (.build [.a (.t 72) 0 1,.a (.t 73) 0 1,.a (.t 74) 0 1,.z (.c (.int .i64 0)),.z (.c (.int .i64 0)),.z (.c (.int .i64 0))]),oT 76 (.buildSlice 6 [.t 75]),oT 77 (.append 6 56 (.t 70) (.t 76)),oF 78 0 10,oZ (.store 1 (.t 78) (.t 77))]) (.seq (rg [oF 79 1 10,oL 80 79,oI 81 80,oF 82 1 10,oZ (.store 1 (.t 82) (.t 81))]) (.seq (.region ⟨[oK 83 2 10,oF 84 1 3,oL 85 84,oS 2 6 83,oN 7 85,oJ 8 0],[],[(2,3)]⟩) .ret))))))))
def vf85 : VFunc:={ vs:=[0,1,2,3,6,7,8,9,10,18,23,29,49,65],nparams:=3,rets:=[.cell (.v 6) (some 2),.tmp (.v 7),.tmp (.v 8)],body:=vb85 }
def vb86 : VCode:=.seq (rg [oV 2 (.move (.c (.str ⟨#[]⟩)))]) (.seq (rg [oT 3 (.buildSlice 1 [.c (.str ⟨#[97]⟩),.c (.str ⟨#[98]⟩),.c (.str ⟨#[99]⟩),.c (.str ⟨#[119,101,98]⟩),.c (.str ⟨#[100,98,45,49]⟩),.c (.str ⟨#[88,95,57]⟩)]),oM 4 0,oC 5 15 [.t 4,.c (.int .i64 6)],oA 6 1 3 5,oL 7 6,oN 2 7]) .ret)
def vf86 : VFunc:={ vs:=[0,2],nparams:=1,rets:=[.tmp (.v 2)],body:=vb86 }
def vb87 : VCode:=.seq (rg [oX 2 2 0,oV 4 (.alloc [.nil 6,.c (.int .i64 0)]),oJ 5 0]) (.seq (.block 0 (.seq (rg [oK 9 2 2,oC 10 60 [.t 9],oT 11 (.not (.t 10)),oN 8 11]) (.cond (.v 8) (.seq (rg [oT 12 (.build [.z (.nil 6),.z (.c (.int .i64 0))]),oS 2 4 12,oJ 5 1]) .ret) (.seq (rg [oK 14 2 2,oM 15 1,oC 16 92 [.t 14,.t 15],oT 17 (.not (.t 16)),oN 13 17]) (.cond (.v 13) (.seq (rg [oT 18 (.build [.z (.nil 6),.z (.c (.int .i64 0))]),oS 2 4 18,oJ 5 4]) .ret) (.seq (rg [oM 20 1,oT 21 (.bin .eql (.t 20) (cI 1)),oN 19 21]) (.cond (.v 19) (.seq (rg [oT 22 (.build [.z (.nil 6),.z (.c (.int .i64 0))]),oS 2 4 22,oJ 5 9]) .ret) (.seq (rg [oK 24 2 2,oM 25 1,oC 26 66 [.t 24,.t 25],oY 27 26,oT 28 (.bin .gtr (.t 27) (cI 0)),oN 23 28]) (.cond (.v 23) (.seq (rg [oT 29 (.build [.z (.nil 6),.z (.c (.int .i64 0))]),oS 2 4 29,oJ 5 6]) .ret) .skip))))))))) (.seq (rg [oF 30 1 2,oL 31 30,oT 32 (.build [.z (.nil 6),.a (.t 31) 0 1]),oV 6 (.alloc [.nil 6,.c (.int .i64 0)]),oS 2 6 32]) (.seq (.seq (rg [oJ 7 0]) (.block 1 (.loop (.seq (.seq (rg [oM 33 7,oF 34 0 2,oL 35 34,oY 36 35,oU 37 33 36]) (.cond (.v 37) .skip (.exit 1))) (.seq (.block 2 (.seq (rg [oF 40 0 2,oL 41 40,oM 42 7,oA 43 6 41 42,oQ 44 0 43,oL 45 44,oM 46 1,oV 47 (.bin .neq (.t 45) (.t 46))]) (.cond (.v 47) (.region ⟨[oF 48 0 6,oL 49 48,oF 50 0 2,oL 51 50,oM 52 7,oA 53 6 51 52,oR 54 6 53,oT 55 (.buildSlice 6 [.t 54]),oT 56 (.append 6 56 (.t 49) (.t 55)),oF 57 0 6,oZ (.store 1 (.t 57) (.t 56))],[],[(1,7)]⟩) .skip))) (rg [oM 38 7,oI 39 38,oN 7 39])))))) (.seq (rg [oK 58 2 6,oS 2 4 58,oJ 5 0]) .ret))))
def vf87 : VFunc:={ vs:=[0,1,2,4,5,6,7,8,13,19,23,37,47],nparams:=2,rets:=[.cell (.v 4) (some 2),.tmp (.v 5)],body:=vb87 }
def vb88 : VCode:=.seq (rg [oX 4 4 0,oV 8 (.alloc [.nil 6,.c (.int .i64 0),.nil 4,.c (.int .i64 0)]),oJ 9 0]) (.seq (.seq (rg [oK 12 4 4,oC 13 90 [.t 12],oV 14 (.not (.t 13))]) (.cond (.v 14) (.seq (rg [oT 15 (.build [.z (.nil 6),.z (.c (.int .i64 0)),.z (.nil 4),.z (.c (.int .i64 0))]),oS 4 8 15,oJ 9 1]) .ret) .skip)) (.seq (rg [oK 17 4 4,oM 18 1,oM 19 2,oM 20 3,oC 21 26 [.t 17,.t 18,.t 19,.t 20],oP 16 21,oE 22 16 0,oE 23 16 1,oV 10 (.alloc [.nil 6,.c (.int .i64 0),.nil 4,.c (.int .i64 0)]),oS 4 10 22,oN 11 23]) (.seq (.seq (rg [oM 24 11,oV 25 (.bin .neq (.t 24) (cI 0))]) (.cond (.v 25) (.seq (rg [oT 26 (.build [.z (.nil 6),.z (.c (.int .i64 0)),.z (.nil 4),.z (.c (.int .i64 0))]),oM 27 11,oS 4 8 26,oN 9 27]) .ret) .skip)) (.seq (.seq (rg [oK 28 4 10,oC 29 90 [.t 28],oV 30 (.not (.t 29))]) (.cond (.v 30) (.seq (rg [oT 31 (.build [.z (.nil 6),.z (.c (.int .i64 0)),.z (.nil 4),.z (.c (.int .i64 0))]),oS 4 8 31,oJ 9 10]) .ret) .skip)) (.seq (rg [oK 32 4 10,oS 4 8 32,oJ 9 0]) .ret)))))
def vf88 : VFunc:={ vs:=[0,1,2,3,4,8,9,10,11,14,25,30],nparams:=4,rets:=[.cell (.v 8) (some 4),.tmp (.v 9)],body:=vb88 }
def vb89 : VCode:=.seq (rg [oX 2 4 0,oV 4 (.alloc [.nil 6,.c (.int .i64 0),.nil 4,.c (.int .i64 0)]),oJ 5 0]) (.seq (.seq (rg [oK 11 4 2,oC 12 90 [.t 11],oV 13 (.not (.t 12))]) (.cond (.v 13) (.seq (rg [oT 14 (.build [.z (.nil 6),.z (.c (.int .i64 0)),.z (.nil 4),.z (.c (.int .i64 0))]),oS 4 4 14,oJ 5 1]) .ret) .skip)) (.seq (rg [oF 16 0 2,oR 17 2 16,oM 18 1,oC 19 19 [.t 17,.t 18],oP 15 19,oE 20 15 0,oE 21 15 1,oV 6 (.alloc [.c (.int .i64 0),.c (.int .i64 0),.c (.str ⟨#[]⟩),.c (.int .i64 0),.c (.int .i64 0),.c (.int .i64 0)]),oS 6 6 20,oN 7 21]) (.seq (.seq (rg [oM 22 7,oV 23 (.not (.t 22))]) (.cond (.v 23) (.seq (rg [oT 24 (.build [.z (.nil 6),.z (.c (.int .i64 0)),.z (.nil 4),.z (.c (.int .i64 0))]),oS 4 4 24,oJ 5 4]) .ret) .skip)) (.seq (.seq (rg [oM 25 1,oT 26 (.bin .eql (.t 25) (cI 1)),oP 27 26,gF 28 4 6 27 false,gL 29 28 27 false,oG 30 (.bin .eql (.t 29) (cI 1)) 27 false,oV 31 (.pick (.t 27) cT (.t 30))]) (.cond (.v 31) (.seq (rg [oT 32 (.build [.z (.nil 6),.z (.c (.int .i64 0)),.z (.nil 4),.z (.c (.int .i64 0))]),oS 4 4 32,oJ 5 9]) .ret) .skip)) (.seq (rg [oF 34 0 2,oR 35 2 34,oF 36 1 6,oL 37 36,oC 38 19 [.t 35,.t 37],oP 33 38,oE 39 33 0,oE 40 33 1,oV 8 (.alloc [.c (.int .i64 0),.c (.int .i64 0),.c (.str ⟨#[]⟩),.c (.int .i64 0),.c (.int .i64 0),.c (.int .i64 0)]),oS 6 8 39,oP 9 40]) (.seq (.seq (rg [oF 41 0 2,oR 42 2 41,oF 43 0 8,oL 44 43,oC 45 91 [.t 42,.t 44],oT 46 (.bin .eql (.t 45) (cI 3)),oP 47 46,gF 48 0 8 47 false,gL 49 48 47 false,oG 50 (.bin .neq (.t 49) (cI 1)) 47 false,oG 51 (.move (.t 50)) 47 false,gF 52 3 8 51 true,gL 53 52 51 true,oG 54 (.bin .and (.t 53) (cI 6)) 51 true,oG 55 (.bin .neq (.t 54) (cI 0)) 51 true,oG 56 (.pick (.t 51) (.t 55) cF) 47 false,oV 57 (.pick (.t 47) cT (.t 56))]) (.cond (.v 57) (.seq (rg [oT 58 (.build [.z (.nil 6),.z (.c (.int .i64 0)),.z (.nil 4),.z (.c (.int .i64 0))]),oS 4 4 58,oJ 5 10]) .ret) .skip)) (.seq (.seq (rg [oF 59 3 6,oL 60 59,oT 61 (.bin .and (.t 60) (cI 6)),oV 62 (.bin .neq (.t 61) (cI 0))]) (.cond (.v 62) (.seq (rg [oT 63 (.build [.z (.nil 6),.z (.c (.int .i64 0)),.z (.nil 4),.z (.c (.int .i64 0))]),oS 4 4 63,oJ 5 9]) .ret) .skip)) (.seq (rg [oF 64 4 6,oZ (.store 1 (.t 64) (cI 1))]) (.seq (rg [oK 65 4 2,oC 66 61 [.t 65],oV 10 (.alloc [.nil 6,.c (.int .i64 0),.nil 4,.c (.int .i64 0)]),oS 4 10 66]) (.seq (rg [oF 67 0 2,oR 68 2 67,oK 69 6 6,oC 70 67 [.t 68,.t 69],oF 71 0 10,oZ (.store 2 (.t 71) (.t 70))]) (.seq (.seq (rg [oK 72 4 2,oM 73 1,oC 74 13 [.t 72,.t 73],oY 75 74,oT 76 (.bin .gtr (.t 75) (cI 0)),oP 77 76,oG 78 (.load (some 4) (.v 10)) 77 false,oG 79 (.call 90 [.t 78]) 77 false,oG 80 (.not (.t 79)) 77 false,oV 81 (.pick (.t 77) cT (.t 80))]) (.cond (.v 81) (.seq (rg [oT 82 (.build [.z (.nil 6),.z (.c (.int .i64 0)),.z (.nil 4),.z (.c (.int .i64 0))]),oS 4 4 82,oJ 5 6]) .ret) .skip)) (.seq (rg [oK 83 4 10,oS 4 4 83,oJ 5 0]) .ret))))))))))))
def vf89 : VFunc:={ vs:=[0,1,2,4,5,6,7,8,10,13,23,31,57,62,81],nparams:=2,rets:=[.cell (.v 4) (some 4),.tmp (.v 5)],body:=vb89 }
def vb90 : VCode:=.seq (rg [oX 1 4 0,oV 2 (.move cF)]) (.seq (.seq (rg [oK 14 4 1,oC 15 20 [.t 14],oV 16 (.not (.t 15))]) (.cond (.v 16) (.seq (rg [oV 2 (.move cF)]) .ret) .skip)) (.seq (.seq (rg [oJ 3 0]) (.block 0 (.loop (.seq (.seq (rg [oM 17 3,oF 18 2 1,oL 19 18,oY 20 19,oU 21 17 20]) (.cond (.v 21) .skip (.exit 0))) (.seq (.block 1 (.seq (.region ⟨[oK 25 4 1,oF 26 2 1,oL 27 26,oM 28 3,oA 29 4 27 28,oQ 30 1 29,oL 31 30,oC 32 94 [.t 25,.t 31],oP 24 32,oE 33 24 0,oE 34 24 1,oV 4 (.alloc [.c (.int .i64 0),.c (.int .i64 0),.c (.int .i64 0),.c (.int .i64 0)]),oS 4 4 33,oP 5 34],[],[(0,11),(2,11),(4,11),(6,11),(7,11)]⟩) (.seq (rg [oF 36 0 1,oR 37 2 36,oF 38 2 1,oL 39 38,oM 40 3,oA 41 4 39 40,oQ 42 2 41,oL 43 42,oC 44 95 [.t 37,.t 43],oP 35 44,oE 45 35 0,oE 46 35 1,oN 6 45,oP 7 46]) (.seq (rg [oF 48 0 1,oR 49 2 48,oF 50 2 4,oL 51 50,oC 52 95 [.t 49,.t 51],oP 47 52,oE 53 47 0,oE 54 47 1,oN 8 53,oP 9 54]) (.seq (rg [oM 55 6,oM 56 8,oV 57 (.bin .neq (.t 55) (.t 56))]) (.cond (.v 57) (.seq (rg [oV 2 (.move cF)]) .ret) .skip)))))) (rg [oM 22 3,oI 23 22,oN 3 23])))))) (.seq (.seq (rg [oJ 10 0]) (.block 2 (.loop (.seq (.seq (.region ⟨[oM 58 10,oF 59 0 1,oQ 60 0 59,oL 61 60,oY 62 61,oU 63 58 62],[94],[]⟩) (.cond (.v 63) .skip (.exit 2))) (.seq (.block 3 (.seq (rg [oF 66 0 1,oQ 67 0 66,oL 68 67,oM 69 10,oA 70 6 68 69,oR 71 6 70,oV 11 (.alloc [.c (.int .i64 0),.c (.int .i64 0),.c (.str ⟨#[]⟩),.c (.int .i64 0),.c (.int .i64 0),.c (.int .i64 0)]),oS 6 11 71]) (.seq (rg [oF 73 0 1,oR 74 2 73,oF 75 1 11,oL 76 75,oC 77 19 [.t 74,.t 76],oP 72 77,oE 78 72 0,oE 79 72 1,oV 12 (.alloc [.c (.int .i64 0),.c (.int .i64 0),.c (.str ⟨#[]⟩),.c (.int .i64 0),.c (.int .i64 0),.c (.int .i64 0)]),oS 6 12 78,oP 13 79]) (.seq (.seq (rg [oF 80 0 1,oR 81 2 80,oF 82 0 11,oL 83 82,oC 84 91 [.t 81,.t 83],oT 85 (.bin .eql (.t 84) (cI 3)),oP 86 85,gF 87 3 11 86 true,gL 88 87 86 true,oG 89 (.bin .neq (.t 88) (cI 0)) 86 true,oG 90 (.move (.t 89)) 86 true,oG 91 (.load (some 4) (.v 1)) 90 false,gF 92 0 11 90 false,gL 93 92 90 false,oG 94 (.call 13 [.t 91,.t 93]) 90 false,oG 95 (.len (.t 94)) 90 false,oG 96 (.bin .gtr (.t 95) (cI 0)) 90 false,oG 97 (.pick (.t 90) cT (.t 96)) 86 true,oV 98 (.pick (.t 86) (.t 97) cF)]) (.cond (.v 98) (.seq (rg [oV 2 (.move cF)]) .ret) .skip)) (.seq (rg [oF 99 4 11,oL 100 99,oT 101 (.bin .eql (.t 100) (cI 1)),oP 102 101,gF 103 0 12 102 true,gL 104 103 102 true,oG 105 (.bin .neq (.t 104) (cI 1)) 102 true,oG 106 (.move (.t 105)) 102 true,gF 107 3 12 106 true,gL 108 107 106 true,oG 109 (.bin .and (.t 108) (cI 6)) 106 true,oG 110 (.bin .neq (.t 109) (cI 0)) 106 true,oG 111 (.pick (.t 106) (.t 110) cF) 102 true,oG 112 (.move (.t 111)) 102 true,gF 113 0 1 112 false,oG 114 (.load (some 2) (.t 113)) 112 false,gF 115 0 12 112 false,gL 116 115 112 false,oG 117 (.call 91 [.t 114,.t 116]) 112 false,oG 118 (.bin .eql (.t 117) (cI 3)) 112 false,oG 119 (.pick (.t 112) cT (.t 118)) 102 true,oV 120 (.pick (.t 102) (.t 119) cF)]) (.cond (.v 120) (.seq (rg [oV 2 (.move cF)]) .ret) .skip)))))) (rg [oM 64 10,oI 65 64,oN 10 65])))))) (.seq (rg [oV 2 (.move cT)]) .ret))))
def vf90 : VFunc:={ vs:=[0,1,2,3,4,6,8,10,11,12,16,21,57,63,98,120],nparams:=1,rets:=[.tmp (.v 2)],body:=vb90 }
def vb91 : VCode:=.seq (rg [oX 2 2 0,oJ 4 0]) (.seq (rg [oK 14 2 2,oM 15 1,oC 16 19 [.t 14,.t 15],oP 13 16,oE 17 13 0,oE 18 13 1,oV 5 (.alloc [.c (.int .i64 0),.c (.int .i64 0),.c (.str ⟨#[]⟩),.c (.int .i64 0),.c (.int .i64 0),.c (.int .i64 0)]),oS 6 5 17,oN 6 18]) (.seq (.seq (rg [oM 19 6,oV 20 (.not (.t 19))]) (.cond (.v 20) (.seq (rg [oJ 4 0]) .ret) .skip)) (.seq (.seq (rg [oF 21 4 5,oL 22 21,oV 23 (.bin .eql (.t 22) (cI 1))]) (.cond (.v 23) (.seq (rg [oJ 4 2]) .ret) .skip)) (.seq (.seq (rg [oK 25 2 2,oF 26 1 5,oL 27 26,oC 28 19 [.t 25,.t 27],oP 24 28,oE 29 24 0,oE 30 24 1,oV 7 (.alloc [.c (.int .i64 0),.c (.int .i64 0),.c (.str ⟨#[]⟩),.c (.int .i64 0),.c (.int .i64 0),.c (.int .i64 0)]),oS 6 7 29,oN 8 30]) (.seq (rg [oM 31 8,oP 32 31,gF 33 4 7 32 true,gL 34 33 32 true,oG 35 (.bin .eql (.t 34) (cI 1)) 32 true,oG 36 (.move (.t 35)) 32 true,oG 37 (.load (some 2) (.v 2)) 36 false,gF 38 0 7 36 false,gL 39 38 36 false,oG 40 (.call 91 [.t 37,.t 39]) 36 false,oG 41 (.bin .eql (.t 40) (cI 3)) 36 false,oG 42 (.pick (.t 36) cT (.t 41)) 32 true,oV 43 (.pick (.t 32) (.t 42) cF)]) (.cond (.v 43) (.seq (rg [oJ 4 3]) .ret) .skip))) (.seq (rg [oK 44 2 2,oM 45 1,oC 46 66 [.t 44,.t 45],oN 9 46]) (.seq (.seq (rg [oJ 10 0]) (.block 0 (.loop (.seq (.seq (rg [oM 47 10,oM 48 9,oY 49 48,oU 50 47 49]) (.cond (.v 50) .skip (.exit 0))) (.seq (.block 1 (.seq (.region ⟨[oK 54 2 2,oM 55 9,oM 56 10,oA 57 1 55 56,oL 58 57,oC 59 19 [.t 54,.t 58],oP 53 59,oE 60 53 0,oE 61 53 1,oV 11 (.alloc [.c (.int .i64 0),.c (.int .i64 0),.c (.str ⟨#[]⟩),.c (.int .i64 0),.c (.int .i64 0),.c (.int .i64 0)]),oS 6 11 60,oP 12 61],[],[(0,9),(3,9),(4,9),(5,9)]⟩) (.seq (rg [oF 62 4 11,oL 63 62,oV 64 (.bin .eql (.t 63) (cI 1))]) (.cond (.v 64) (.seq (rg [oJ 4 1]) .ret) .skip)))) (rg [oM 51 10,oI 52 51,oN 10 52])))))) (.seq (rg [oJ 4 0]) .ret)))))))
def vf91 : VFunc:={ vs:=[0,1,2,4,5,6,7,8,9,10,11,20,23,43,50,64],nparams:=2,rets:=[.tmp (.v 4)],body:=vb91 }
def vb92 : VCode:=.seq (rg [oX 2 2 0,oV 4 (.move cF)]) (.seq (rg [oK 8 2 2,oM 9 1,oC 10 19 [.t 8,.t 9],oP 7 10,oE 11 7 0,oE 12 7 1,oT 5 (.alloc [.c (.int .i64 0),.c (.int .i64 0),.c (.str ⟨#[]⟩),.c (.int .i64 0),.c (.int .i64 0),.c (.int .i64 0)]),oZ (.store 6 (.t 5) (.t 11)),oN 6 12]) (.seq (rg [oM 13 6,oN 4 13]) .ret))
def vf92 : VFunc:={ vs:=[0,1,2,4,6],nparams:=2,rets:=[.tmp (.v 4)],body:=vb92 }
def vb93 : VCode:=.seq (rg [oX 2 4 0,oX 3 4 1,oV 4 (.alloc [.nil 6,.c (.int .i64 0),.nil 4,.c (.int .i64 0)]),oJ 5 0,oJ 6 0]) (.seq (.seq (rg [oF 8 2 2,oL 9 8,oY 10 9,oT 11 (.bin .geq (.t 10) (cI 128)),oP 12 11,gF 13 3 2 12 false,gL 14 13 12 false,oG 15 (.bin .gtr (.t 14) (cI 2147483647)) 12 false,oV 16 (.pick (.t 12) cT (.t 15))]) (.cond (.v 16) (.seq (rg [oT 17 (.build [.z (.nil 6),.z (.c (.int .i64 0)),.z (.nil 4),.z (.c (.int .i64 0))]),oS 4 4 17,oJ 5 0,oJ 6 7]) .ret) .skip)) (.seq (rg [oK 18 4 2,oC 19 61 [.t 18],oV 7 (.alloc [.nil 6,.c (.int .i64 0),.nil 4,.c (.int .i64 0)]),oS 4 7 19]) (.seq (rg [oF 20 3 2,oL 21 20,oF 22 0 3,oZ (.store 1 (.t 22) (.t 21))]) (.seq (.seq (rg [oF 23 1 3,oL 24 23,oV 25 (.bin .eql (.t 24) (cI 0))]) (.cond (.v 25) (rg [oF 26 0 3,oL 27 26,oF 28 1 3,oZ (.store 1 (.t 28) (.t 27))]) .skip)) (.seq (rg [oF 29 2 7,oL 30 29,oK 31 4 3,oT 32 (.buildSlice 4 [.t 31]),oT 33 (.append 4 32 (.t 30) (.t 32)),oF 34 2 7,oZ (.store 1 (.t 34) (.t 33))]) (.seq (rg [oF 35 3 7,oL 36 35,oI 37 36,oF 38 3 7,oZ (.store 1 (.t 38) (.t 37))]) (.seq (.region ⟨[oK 39 4 7,oF 40 0 3,oL 41 40,oS 4 4 39,oN 5 41,oJ 6 0],[],[(2,3)]⟩) .ret)))))))
def vf93 : VFunc:={ vs:=[0,1,2,3,4,5,6,7,16,25],nparams:=2,rets:=[.cell (.v 4) (some 4),.tmp (.v 5),.tmp (.v 6)],body:=vb93 }
def vb94 : VCode:=.seq (rg [oX 2 4 0,oV 4 (.alloc [.c (.int .i64 0),.c (.int .i64 0),.c (.int .i64 0),.c (.int .i64 0)]),oV 5 (.move cF)]) (.seq (.seq (rg [oK 7 4 2,oC 8 52 [.t 7],oV 9 (.not (.t 8))]) (.cond (.v 9) (.seq (rg [oT 10 (.build [.z (.c (.int .i64 0)),.z (.c (.int .i64 0)),.z (.c (.int .i64 0)),.z (.c (.int .i64 0))]),oS 4 4 10,oV 5 (.move cF)]) .ret) .skip)) (.seq (.seq (rg [oJ 6 0]) (.block 0 (.loop (.seq (.seq (rg [oM 11 6,oF 12 2 2,oL 13 12,oY 14 13,oU 15 11 14]) (.cond (.v 15) .skip (.exit 0))) (.seq (.block 1 (.seq (rg [oF 18 2 2,oL 19 18,oM 20 6,oA 21 4 19 20,oQ 22 0 21,oL 23 22,oM 24 1,oV 25 (.bin .eql (.t 23) (.t 24))]) (.cond (.v 25) (.seq (rg [oF 26 2 2,oL 27 26,oM 28 6,oA 29 4 27 28,oR 30 4 29,oS 4 4 30,oV 5 (.move cT)]) .ret) .skip))) (rg [oM 16 6,oI 17 16,oN 6 17])))))) (.seq (rg [oT 31 (.build [.z (.c (.int .i64 0)),.z (.c (.int .i64 0)),.z (.c (.int .i64 0)),.z (.c (.int .i64 0))]),oS 4 4 31,oV 5 (.move cF)]) .ret)))
def vf94 : VFunc:={ vs:=[0,1,2,4,5,6,9,15,25],nparams:=2,rets:=[.cell (.v 4) (some 4),.tmp (.v 5)],body:=vb94 }
def vb95 : VCode:=.seq (rg [oX 2 2 0,oJ 4 0,oV 5 (.move cF)]) (.seq (rg [oK 10 2 2,oM 11 1,oC 12 133 [.t 10,.t 11],oN 6 12]) (.seq (.seq (rg [oJ 7 0]) (.block 0 (.loop (.seq (.seq (rg [oM 13 7,oM 14 6,oY 15 14,oU 16 13 15]) (.cond (.v 16) .skip (.exit 0))) (.seq (.block 1 (.seq (.region ⟨[oK 20 2 2,oM 21 6,oM 22 7,oA 23 1 21 22,oL 24 23,oC 25 19 [.t 20,.t 24],oP 19 25,oE 26 19 0,oE 27 19 1,oV 8 (.alloc [.c (.int .i64 0),.c (.int .i64 0),.c (.str ⟨#[]⟩),.c (.int .i64 0),.c (.int .i64 0),.c (.int .i64 0)]),oS 6 8 26,oP 9 27],[],[(0,9),(3,9),(4,9),(5,9)]⟩) (.seq (rg [oF 28 4 8,oL 29 28,oV 30 (.bin .neq (.t 29) (cI 1))]) (.cond (.v 30) (.seq (rg [oM 31 6,oM 32 7,oA 33 1 31 32,oL 34 33,oN 4 34,oV 5 (.move cT)]) .ret) .skip)))) (rg [oM 17 7,oI 18 17,oN 7 18])))))) (.seq (rg [oJ 4 0,oV 5 (.move cF)]) .ret)))
def vf95 : VFunc:={ vs:=[0,1,2,4,5,6,7,8,16,30],nparams:=2,rets:=[.tmp (.v 4),.tmp (.v 5)],body:=vb95 }
def vb96 : VCode:=.seq (rg [oX 3 4 0,oV 6 (.alloc [.nil 6,.c (.int .i64 0),.nil 4,.c (.int .i64 0)]),oJ 7 0]) (.seq (.seq (rg [oK 12 4 3,oC 13 52 [.t 12],oV 14 (.not (.t 13))]) (.cond (.v 14) (.seq (rg [oT 15 (.build [.z (.nil 6),.z (.c (.int .i64 0)),.z (.nil 4),.z (.c (.int .i64 0))]),oS 4 6 15,oJ 7 1]) .ret) .skip)) (.seq (.seq (rg [oK 17 4 3,oM 18 1,oC 19 94 [.t 17,.t 18],oP 16 19,oE 20 16 0,oE 21 16 1,oT 8 (.alloc [.c (.int .i64 0),.c (.int .i64 0),.c (.int .i64 0),.c (.int .i64 0)]),oZ (.store 4 (.t 8) (.t 20)),oN 9 21]) (.seq (rg [oM 22 9,oT 23 (.not (.t 22)),oP 24 23,gF 25 0 3 24 false,oG 26 (.load (some 2) (.t 25)) 24 false,gM 27 2 24 false,oG 28 (.call 92 [.t 26,.t 27]) 24 false,oG 29 (.not (.t 28)) 24 false,oV 30 (.pick (.t 24) cT (.t 29))]) (.cond (.v 30) (.seq (rg [oT 31 (.build [.z (.nil 6),.z (.c (.int .i64 0)),.z (.nil 4),.z (.c (.int .i64 0))]),oS 4 6 31,oJ 7 4]) .ret) .skip))) (.seq (rg [oK 32 4 3,oC 33 61 [.t 32],oV 10 (.alloc [.nil 6,.c (.int .i64 0),.nil 4,.c (.int .i64 0)]),oS 4 10 33]) (.seq (.seq (rg [oJ 11 0]) (.block 0 (.loop (.seq (.seq (rg [oM 34 11,oF 35 2 10,oL 36 35,oY 37 36,oU 38 34 37]) (.cond (.v 38) .skip (.exit 0))) (.seq (.block 1 (.seq (rg [oF 41 2 10,oL 42 41,oM 43 11,oA 44 4 42 43,oQ 45 0 44,oL 46 45,oM 47 1,oV 48 (.bin .eql (.t 46) (.t 47))]) (.cond (.v 48) (rg [oF 49 2 10,oL 50 49,oM 51 11,oM 52 2,oA 53 4 50 51,oQ 54 2 53,oZ (.store 1 (.t 54) (.t 52))]) .skip))) (rg [oM 39 11,oI 40 39,oN 11 40])))))) (.seq (rg [oK 55 4 10,oS 4 6 55,oJ 7 0]) .ret)))))
def vf96 : VFunc:={ vs:=[0,1,2,3,6,7,9,10,11,14,30,38,48],nparams:=3,rets:=[.cell (.v 6) (some 4),.tmp (.v 7)],body:=vb96 }
def vb97 : VCode:=.seq (rg [oX 1 2 0,oV 2 (.alloc [.nil 6,.c (.int .i64 0)])]) (.seq (.region ⟨[oF 3 0 1,oL 4 3,oT 5 (.appendNil 6 56 (.t 4)),oF 6 1 1,oL 7 6,oT 8 (.build [.a (.t 5) 0 1,.a (.t 7) 0 1]),oS 2 2 8],[],[(2,4)]⟩) .ret)
def vf97 : VFunc:={ vs:=[0,1,2],nparams:=1,rets:=[.cell (.v 2) (some 2)],body:=vb97 }
def vb98 : VCode:=.seq (rg [oV 4 (.alloc [.c (.int .i64 0),.c (.int .i64 0),.c (.int .i64 0),.c (.int .i64 0)]),oV 5 (.move cF)]) (.seq (.seq (rg [oJ 6 0]) (.block 0 (.loop (.seq (.seq (rg [oM 7 6,oM 8 0,oY 9 8,oU 10 7 9]) (.cond (.v 10) .skip (.exit 0))) (.seq (.block 1 (.seq (rg [oM 13 0,oM 14 6,oA 15 4 13 14,oQ 16 0 15,oL 17 16,oM 18 1,oV 19 (.bin .eql (.t 17) (.t 18))]) (.cond (.v 19) (.seq (.region ⟨[oM 20 0,oM 21 6,oA 22 4 20 21,oR 23 4 22,oM 24 0,oM 25 6,oA 26 4 24 25,oQ 27 1 26,oL 28 27,oM 29 1,oT 30 (.bin .eql (.t 28) (.t 29)),oS 4 4 23,oN 5 30],[],[(6,11),(8,11)]⟩) .ret) .skip))) (rg [oM 11 6,oI 12 11,oN 6 12])))))) (.seq (rg [oT 31 (.build [.z (.c (.int .i64 0)),.z (.c (.int .i64 0)),.z (.c (.int .i64 0)),.z (.c (.int .i64 0))]),oS 4 4 31,oV 5 (.move cF)]) .ret))
def vf98 : VFunc:={ vs:=[0,1,4,5,6,10,19],nparams:=2,rets:=[.cell (.v 4) (some 4),.tmp (.v 5)],body:=vb98 }
def vb99 : VCode:=.seq (rg [oX 1 2 0,oV 2 (.move cF)]) (.seq (.seq (rg [oF 6 0 1,oL 7 6,oY 8 7,oT 9 (.bin .lss (.t 8) (cI 1)),oP 10 9,gF 11 0 1 10 false,gL 12 11 10 false,oG 13 (.len (.t 12)) 10 false,oG 14 (.bin .gtr (.t 13) (cI 64)) 10 false,oO 15 10 14,oP 16 15,gF 17 0 1 16 false,gL 18 17 16 false,oG 19 (.indexAddr 6 (.t 18) (cI 0)) 16 false,oG 20 (.load (some 6) (.t 19)) 16 false,oG 21 (.call 134 [.t 20]) 16 false,oG 22 (.not (.t 21)) 16 false,oV 23 (.pick (.t 16) cT (.t 22))]) (.cond (.v 23) (.seq (rg [oV 2 (.move cF)]) .ret) .skip)) (.seq (rg [oT 24 (.makeMap (.int .i64)),oN 3 24]) (.seq (.seq (rg [oF 25 0 1,oV 26 (.load none (.t 25)),oV 27 (.len (.v 26)),oJ 28 0]) (.block 0 (.loop (.seq (rg [oV 29 (.bin .lss (.v 28) (.v 27))]) (.seq (.cond (.v 29) .skip (.exit 0)) (.seq (.block 1 (.seq (rg [oM 30 28,oT 31 (.indexAddr 6 (.v 26) (.v 28)),oR 32 6 31,oV 5 (.alloc [.c (.int .i64 0),.c (.int .i64 0),.c (.str ⟨#[]⟩),.c (.int .i64 0),.c (.int .i64 0),.c (.int .i64 0)]),oN 4 30,oS 6 5 32]) (.seq (.seq (.region ⟨[oF 33 3 5,oL 34 33,oT 35 (.bin .lss (.t 34) (cI 0)),oP 36 35,gF 37 3 5 36 false,gL 38 37 36 false,oG 39 (.bin .andNot (.t 38) (cI 31)) 36 false,oG 40 (.bin .neq (.t 39) (cI 0)) 36 false,oO 41 36 40,oP 42 41,gF 43 5 5 42 false,gL 44 43 42 false,oG 45 (.bin .lss (.t 44) (cI 0)) 42 false,oO 46 42 45,oP 47 46,gF 48 5 5 47 false,gL 49 48 47 false,oG 50 (.bin .gtr (.t 49) (cI 1048576)) 47 false,oO 51 47 50,oP 52 51,gM 53 4 52 false,oG 54 (.bin .gtr (.t 53) (cI 0)) 52 false,oG 55 (.move (.t 54)) 52 false,gF 56 0 1 55 true,gL 57 56 55 true,gM 58 4 55 true,oG 59 (.slice false 6 none (some (.t 58)) none (.t 57)) 55 true,oG 60 (.load (some 6) (.v 5)) 55 true,oG 61 (.call 135 [.t 59,.t 60]) 55 true,oG 62 (.not (.t 61)) 55 true,oG 63 (.pick (.t 55) (.t 62) cF) 52 false,oV 64 (.pick (.t 52) cT (.t 63))],[],[(26,27)]⟩) (.cond (.v 64) (.seq (rg [oV 2 (.move cF)]) .ret) .skip)) (.seq (.seq (rg [oM 65 4,oV 66 (.bin .gtr (.t 65) (cI 0))]) (.cond (.v 66) (rg [oM 67 3,oF 68 0 5,oL 69 68,oM 70 3,oF 71 1 5,oL 72 71,oT 73 (.lookup false (.int .i64) (.int .i64 0) (.t 70) (.t 72)),oI 74 73,oZ (.mapUpdate (.int .i64) (.t 67) (.t 69) (.t 74))]) .skip)) (.seq (rg [oM 75 3,oF 76 0 5,oL 77 76,oT 78 (.lookup false (.int .i64) (.int .i64 0) (.t 75) (.t 77)),oV 79 (.bin .gtr (.t 78) (cI 8))]) (.cond (.v 79) (.seq (rg [oV 2 (.move cF)]) .ret) .skip)))))) (rg [oT 80 (.bin .add (.v 28) (cI 1)),oN 28 80]))))))) (.seq (rg [oF 81 1 1,oL 82 81,oF 83 0 1,oL 84 83,oF 85 0 1,oL 86 85,oY 87 86,oT 88 (.bin .sub (.t 87) (cI 1)),oA 89 6 84 88,oQ 90 0 89,oL 91 90,oT 92 (.bin .gtr (.t 82) (.t 91)),oP 93 92,gF 94 1 1 93 true,gL 95 94 93 true,oG 96 (.bin .leq (.t 95) (cI 2147483648)) 93 true,oB 97 93 96,oN 2 97]) .ret))))
def vf99 : VFunc:={ vs:=[0,1,2,3,4,5,23,26,27,28,29,64,66,79],nparams:=1,rets:=[.tmp (.v 2)],body:=vb99 }
def vb100 : VCode:=.seq (rg [oX 2 4 0,oX 3 4 1,oV 4 (.move cF)]) (.seq (rg [oK 8 4 2,oF 9 1 3,oL 10 9,oC 11 136 [.t 8,.t 10],oP 7 11,oE 12 7 0,oE 13 7 1,oV 5 (.alloc [.c (.int .i64 0),.c (.int .i64 0),.c (.int .i64 0),.c (.int .i64 0)]),oS 4 5 12,oN 6 13]) (.seq (rg [oF 14 3 3,oL 15 14,oT 16 (.bin .geq (.t 15) (cI 0)),oP 17 16,gF 18 3 3 17 true,gL 19 18 17 true,oG 20 (.bin .leq (.t 19) (cI 1048576)) 17 true,oB 21 17 20,oP 22 21,gM 23 6 22 true,oB 24 22 23,oP 25 24,gF 26 1 5 25 true,gL 27 26 25 true,gF 28 0 5 25 true,gL 29 28 25 true,oG 30 (.bin .eql (.t 27) (.t 29)) 25 true,oB 31 25 30,oP 32 31,gF 33 3 5 32 true,gL 34 33 32 true,gF 35 3 3 32 true,gL 36 35 32 true,oG 37 (.bin .eql (.t 34) (.t 36)) 32 true,oB 38 32 37,oP 39 38,gF 40 0 2 39 true,oG 41 (.load (some 2) (.t 40)) 39 true,gF 42 2 3 39 true,gL 43 42 39 true,oG 44 (.call 57 [.t 41,.t 43]) 39 true,oG 45 (.bin .geq (.t 44) (cI 0)) 39 true,oB 46 39 45,oN 4 46]) .ret))
def vf100 : VFunc:={ vs:=[0,1,2,3,4,5,6],nparams:=2,rets:=[.tmp (.v 4)],body:=vb100 }
def vb101 : VCode:=.seq (rg [oX 2 2 0,oV 4 (.alloc [.c (.int .i64 0),.c (.int .i64 0),.c (.str ⟨#[]⟩),.c (.int .i64 0),.c (.int .i64 0),.c (.int .i64 0)]),oV 5 (.move cF)]) (.seq (rg [oK 7 2 2,oM 8 1,oC 9 57 [.t 7,.t 8],oN 6 9]) (.seq (.seq (rg [oM 10 6,oV 11 (.bin .lss (.t 10) (cI 0))]) (.cond (.v 11) (.seq (rg [oT 12 (.build [.z (.c (.int .i64 0)),.z (.c (.int .i64 0)),.z (.c (.str ⟨#[]⟩)),.z (.c (.int .i64 0)),.z (.c (.int .i64 0)),.z (.c (.int .i64 0))]),oS 6 4 12,oV 5 (.move cF)]) .ret) .skip)) (.seq (rg [oF 13 0 2,oL 14 13,oM 15 6,oA 16 6 14 15,oR 17 6 16,oS 6 4 17,oV 5 (.move cT)]) .ret)))
def vf101 : VFunc:={ vs:=[0,1,2,4,5,6,11],nparams:=2,rets:=[.cell (.v 4) (some 6),.tmp (.v 5)],body:=vb101 }
def vb102 : VCode:=.seq (rg [oX 3 4 0,oV 6 (.newArr 1)]) (.seq (rg [oV 7 (.newArr 1)]) (.seq (.seq (rg [oF 10 2 3,oV 11 (.load none (.t 10)),oV 12 (.len (.v 11)),oJ 13 0]) (.block 0 (.loop (.seq (rg [oV 14 (.bin .lss (.v 13) (.v 12))]) (.seq (.cond (.v 14) .skip (.exit 0)) (.seq (.block 1 (.seq (rg [oT 15 (.indexAddr 4 (.v 11) (.v 13)),oR 16 4 15,oV 9 (.alloc [.c (.int .i64 0),.c (.int .i64 0),.c (.int .i64 0),.c (.int .i64 0)]),oS 4 9 16]) (.seq (rg [oM 17 1,oK 18 4 9,oV 19 (.callv (.t 17) [.t 18])]) (.cond (.v 19) (rg [oM 20 7,oM 21 2,oK 22 4 9,oT 23 (.callv (.t 21) [.t 22]),oT 24 (.buildSlice 1 [.t 23]),oT 25 (.append 1 8 (.t 20) (.t 24)),oN 7 25]) .skip)))) (rg [oT 26 (.bin .add (.v 13) (cI 1)),oN 13 26]))))))) (.seq (rg [oM 27 7,oT 28 (.callW 119 [.t 27])]) (.seq (rg [oM 29 7,oT 30 (.callW 120 [.t 29]),oN 6 30]) .ret))))
def vf102 : VFunc:={ vs:=[0,1,2,3,6,7,9,11,12,13,14,19],nparams:=3,rets:=[.tmp (.v 6)],body:=vb102 }
def vb103 : VCode:=.seq (rg [oX 2 4 0,oV 3 (.move cF)]) (.seq (rg [oF 4 2 2,oL 5 4,oT 6 (.load none (.v 1)),oT 7 (.bin .eql (.t 5) (.t 6)),oN 3 7]) .ret)
def vf103 : VFunc:={ vs:=[0,1,2,3],nparams:=2,rets:=[.tmp (.v 3)],body:=vb103 }
def vb104 : VCode:=.seq (rg [oX 1 4 0,oJ 2 0]) (.seq (rg [oF 3 0 1,oL 4 3,oN 2 4]) .ret)
def vf104 : VFunc:={ vs:=[0,1,2],nparams:=1,rets:=[.tmp (.v 2)],body:=vb104 }
def vb105 : VCode:=.seq (rg [oJ 4 0]) (.seq (.seq (rg [oM 6 0,oV 7 (.len (.t 6)),oJ 8 0]) (.block 0 (.loop (.seq (rg [oV 9 (.bin .lss (.v 8) (.v 7))]) (.seq (.cond (.v 9) .skip (.exit 0)) (.seq (.block 1 (.seq (rg [oM 10 8,oN 5 10]) (.seq (rg [oM 11 1,oM 12 0,oM 13 5,oA 14 6 12 13,oR 15 6 14,oV 16 (.callv (.t 11) [.t 15])]) (.cond (.v 16) (.seq (rg [oM 17 5,oN 4 17]) .ret) .skip)))) (rg [oT 18 (.bin .add (.v 8) (cI 1)),oN 8 18]))))))) (.seq (rg [oJ 4 (-1)]) .ret))
def vf105 : VFunc:={ vs:=[0,1,4,5,7,8,9,16],nparams:=2,rets:=[.tmp (.v 4)],body:=vb105 }
def vb106 : VCode:=.seq (rg [oX 2 6 0,oV 3 (.move cF)]) (.seq (rg [oF 4 0 2,oL 5 4,oT 6 (.load none (.v 1)),oT 7 (.bin .eql (.t 5) (.t 6)),oN 3 7]) .ret)
def vf106 : VFunc:={ vs:=[0,1,2,3],nparams:=2,rets:=[.tmp (.v 3)],body:=vb106 }
def vb109 : VCode:=.seq (rg [oX 2 2 0,oV 4 (.move cF)]) (.seq (rg [oF 8 0 2,oL 9 8,oM 10 1,oA 11 6 9 10,oR 12 6 11,oV 5 (.alloc [.c (.int .i64 0),.c (.int .i64 0),.c (.str ⟨#[]⟩),.c (.int .i64 0),.c (.int .i64 0),.c (.int .i64 0)]),oS 6 5 12]) (.seq (.seq (rg [oF 13 4 5,oL 14 13,oT 15 (.bin .neq (.t 14) (cI 0)),oP 16 15,gF 17 4 5 16 true,gL 18 17 16 true,oG 19 (.bin .neq (.t 18) (cI 1)) 16 true,oB 20 16 19,oP 21 20,gF 22 3 5 21 false,gL 23 22 21 false,oG 24 (.bin .lss (.t 23) (cI 0)) 21 false,oO 25 21 24,oP 26 25,gF 27 3 5 26 false,gL 28 27 26 false,oG 29 (.bin .gtr (.t 28) (cI 31)) 26 false,oO 30 26 29,oP 31 30,gF 32 5 5 31 false,gL 33 32 31 false,oG 34 (.bin .lss (.t 33) (cI 0)) 31 false,oO 35 31 34,oP 36 35,gF 37 5 5 36 false,gL 38 37 36 false,oG 39 (.bin .gtr (.t 38) (cI 1048576)) 36 false,oV 40 (.pick (.t 36) cT (.t 39))]) (.cond (.v 40) (.seq (rg [oV 4 (.move cF)]) .ret) .skip)) (.seq (.seq (rg [oM 41 1,oV 42 (.bin .eql (.t 41) (cI 0))]) (.cond (.v 42) (.seq (rg [oF 43 0 5,oL 44 43,oT 45 (.bin .eql (.t 44) (cI 1)),oP 46 45,gF 47 1 5 46 true,gL 48 47 46 true,oG 49 (.bin .eql (.t 48) (cI 0)) 46 true,oB 50 46 49,oP 51 50,gF 52 2 5 51 true,gL 53 52 51 true,oG 54 (.bin .eql (.t 53) (.c (.str ⟨#[]⟩))) 51 true,oB 55 51 54,oP 56 55,gF 57 4 5 56 true,gL 58 57 56 true,oG 59 (.bin .eql (.t 58) (cI 0)) 56 true,oB 60 56 59,oN 4 60]) .ret) .skip)) (.seq (.seq (rg [oF 61 0 5,oL 62 61,oF 63 0 2,oL 64 63,oM 65 1,oT 66 (.bin .sub (.t 65) (cI 1)),oA 67 6 64 66,oQ 68 0 67,oL 69 68,oT 70 (.bin .leq (.t 62) (.t 69)),oP 71 70,gF 72 2 5 71 false,gL 73 72 71 false,oG 74 (.call 131 [.t 73]) 71 false,oG 75 (.not (.t 74)) 71 false,oV 76 (.pick (.t 71) cT (.t 75))]) (.cond (.v 76) (.seq (rg [oV 4 (.move cF)]) .ret) .skip)) (.seq (rg [oV 6 (.move cF)]) (.seq (.seq (rg [oJ 7 0]) (.block 0 (.loop (.seq (.seq (rg [oM 77 7,oM 78 1,oU 79 77 78]) (.cond (.v 79) .skip (.exit 0))) (.seq (.block 1 (.seq (rg [oM 82 6,oP 83 82,gF 84 0 2 83 false,gL 85 84 83 false,gM 86 7 83 false,oG 87 (.indexAddr 6 (.t 85) (.t 86)) 83 false,oG 88 (.fieldAddr 0 (.t 87)) 83 false,gL 89 88 83 false,gF 90 1 5 83 false,gL 91 90 83 false,oG 92 (.bin .eql (.t 89) (.t 91)) 83 false,oO 93 83 92,oN 6 93]) (.seq (rg [oF 94 0 2,oL 95 94,oM 96 7,oA 97 6 95 96,oQ 98 1 97,oL 99 98,oF 100 1 5,oL 101 100,oT 102 (.bin .eql (.t 99) (.t 101)),oP 103 102,gF 104 0 2 103 true,gL 105 104 103 true,gM 106 7 103 true,oG 107 (.indexAddr 6 (.t 105) (.t 106)) 103 true,oG 108 (.fieldAddr 2 (.t 107)) 103 true,gL 109 108 103 true,gF 110 2 5 103 true,gL 111 110 103 true,oG 112 (.bin .eql (.t 109) (.t 111)) 103 true,oV 113 (.pick (.t 103) (.t 112) cF)]) (.cond (.v 113) (.seq (rg [oV 4 (.move cF)]) .ret) .skip)))) (rg [oM 80 7,oI 81 80,oN 7 81])))))) (.seq (rg [oM 114 6,oN 4 114]) .ret)))))))
def vf109 : VFunc:={ vs:=[0,1,2,4,5,6,7,40,42,76,79,113],nparams:=2,rets:=[.tmp (.v 4)],body:=vb109 }
def vb110 : VCode:=.seq (rg [oX 2 2 0,oV 4 (.newArr 1)]) (.seq (rg [oV 5 (.newArr 1)]) (.seq (.seq (rg [oF 7 0 2,oL 8 7,oY 9 8,oT 10 (.bin .sub (.t 9) (cI 1)),oN 6 10]) (.block 0 (.loop (.seq (.seq (rg [oM 11 6,oV 12 (.bin .geq (.t 11) (cI 0))]) (.cond (.v 12) .skip (.exit 0))) (.seq (.block 1 (.seq (rg [oF 15 0 2,oL 16 15,oM 17 6,oA 18 6 16 17,oQ 19 0 18,oL 20 19,oM 21 1,oV 22 (.bin .eql (.t 20) (.t 21))]) (.cond (.v 22) (.seq (rg [oM 23 5,oM 24 1,oT 25 (.buildSlice 1 [.t 24]),oT 26 (.append 1 8 (.t 23) (.t 25)),oN 5 26]) (rg [oF 27 0 2,oL 28 27,oM 29 6,oA 30 6 28 29,oQ 31 1 30,oL 32 31,oN 1 32])) .skip))) (rg [oM 13 6,oT 14 (.bin .sub (.t 13) (cI 1)),oN 6 14])))))) (.seq (rg [oM 33 5,oN 4 33]) .ret)))
def vf110 : VFunc:={ vs:=[0,1,2,4,5,6,12,22],nparams:=2,rets:=[.tmp (.v 4)],body:=vb110 }
def vb111 : VCode:=.seq (rg [oX 1 2 0,oV 2 (.alloc [.nil 6,.c (.int .i64 0)])]) (.seq (.seq (rg [oK 3 2 1,oC 4 99 [.t 3],oV 5 (.not (.t 4))]) (.cond (.v 5) (.seq (rg [oT 6 (.build [.z (.nil 6),.z (.c (.int .i64 0))]),oS 2 2 6]) .ret) .skip)) (.seq (rg [oK 7 2 1,oS 2 2 7]) .ret))
def vf111 : VFunc:={ vs:=[0,1,2,5],nparams:=1,rets:=[.cell (.v 2) (some 2)],body:=vb111 }
def vb131 : VCode:=.seq (rg [oV 2 (.move cF)]) (.seq (.seq (rg [oM 5 0,oT 6 (.lenStr (.t 5)),oT 7 (.bin .eql (.t 6) (cI 0)),oP 8 7,gM 9 0 8 false,oG 10 (.lenStr (.t 9)) 8 false,oG 11 (.bin .gtr (.t 10) (cI 32)) 8 false,oO 12 8 11,oP 13 12,gM 14 0 13 false,oG 15 (.indexStr (.t 14) (cI 0)) 13 false,oG 16 (.bin .eql (.t 15) (.c (.int .u8 45))) 13 false,oV 17 (.pick (.t 13) cT (.t 16))]) (.cond (.v 17) (.seq (rg [oV 2 (.move cF)]) .ret) .skip)) (.seq (.seq (rg [oJ 3 0]) (.block 0 (.loop (.seq (.seq (rg [oM 18 3,oM 19 0,oT 20 (.lenStr (.t 19)),oU 21 18 20]) (.cond (.v 21) .skip (.exit 0))) (.seq (.block 1 (.seq (rg [oM 24 0,oM 25 3,oT 26 (.indexStr (.t 24) (.t 25)),oN 4 26]) (.seq (rg [oM 27 4,oT 28 (.bin .geq (.t 27) (.c (.int .u8 97))),oP 29 28,gM 30 4 29 true,oG 31 (.bin .leq (.t 30) (.c (.int .u8 122))) 29 true,oB 32 29 31,oP 33 32,gM 34 4 33 false,oG 35 (.bin .geq (.t 34) (.c (.int .u8 65))) 33 false,oG 36 (.move (.t 35)) 33 false,gM 37 4 36 true,oG 38 (.bin .leq (.t 37) (.c (.int .u8 90))) 36 true,oG 39 (.pick (.t 36) (.t 38) cF) 33 false,oO 40 33 39,oP 41 40,gM 42 4 41 false,oG 43 (.bin .geq (.t 42) (.c (.int .u8 48))) 41 false,oG 44 (.move (.t 43)) 41 false,gM 45 4 44 true,oG 46 (.bin .leq (.t 45) (.c (.int .u8 57))) 44 true,oG 47 (.pick (.t 44) (.t 46) cF) 41 false,oO 48 41 47,oP 49 48,gM 50 4 49 false,oG 51 (.bin .eql (.t 50) (.c (.int .u8 95))) 49 false,oO 52 49 51,oP 53 52,gM 54 4 53 false,oG 55 (.bin .eql (.t 54) (.c (.int .u8 45))) 53 false,oO 56 53 55,oV 57 (.not (.t 56))]) (.cond (.v 57) (.seq (rg [oV 2 (.move cF)]) .ret) .skip)))) (rg [oM 22 3,oI 23 22,oN 3 23])))))) (.seq (rg [oV 2 (.move cT)]) .ret)))
def vf131 : VFunc:={ vs:=[0,2,3,4,17,21,57],nparams:=1,rets:=[.tmp (.v 2)],body:=vb131 }
def vb132 : VCode:=.seq (rg [oX 2 2 0,oJ 4 0]) (.seq (rg [oK 5 2 2,oM 6 1,oC 7 133 [.t 5,.t 6],oY 8 7,oT 9 (.bin .sub (.t 8) (cI 1)),oN 4 9]) .ret)
def vf132 : VFunc:={ vs:=[0,1,2,4],nparams:=2,rets:=[.tmp (.v 4)],body:=vb132 }
def vb133 : VCode:=.seq (rg [oX 2 2 0,oV 4 (.newArr 1)]) (.seq (.seq (rg [oK 5 2 2,oM 6 1,oC 7 92 [.t 5,.t 6],oV 8 (.not (.t 7))]) (.cond (.v 8) (.seq (rg [oV 4 (.newArr 1)]) .ret) .skip)) (.seq (rg [oK 9 2 2,oM 10 1,oC 11 110 [.t 9,.t 10],oN 4 11]) .ret))
def vf133 : VFunc:={ vs:=[0,1,2,4,8],nparams:=2,rets:=[.tmp (.v 4)],body:=vb133 }
def vb134 : VCode:=.seq (rg [oX 1 6 0,oV 2 (.move cF)]) (.seq (rg [oF 3 0 1,oL 4 3,oT 5 (.bin .eql (.t 4) (cI 1)),oP 6 5,gF 7 1 1 6 true,gL 8 7 6 true,oG 9 (.bin .eql (.t 8) (cI 0)) 6 true,oB 10 6 9,oP 11 10,gF 12 2 1 11 true,gL 13 12 11 true,oG 14 (.bin .eql (.t 13) (.c (.str ⟨#[]⟩))) 11 true,oB 15 11 14,oP 16 15,gF 17 4 1 16 true,gL 18 17 16 true,oG 19 (.bin .eql (.t 18) (cI 0)) 16 true,oB 20 16 19,oN 2 20]) .ret)
def vf134 : VFunc:={ vs:=[0,1,2],nparams:=1,rets:=[.tmp (.v 2)],body:=vb134 }
def vb135 : VCode:=.seq (rg [oX 3 6 1,oV 4 (.move cF)]) (.seq (.seq (rg [oF 8 0 3,oL 9 8,oM 10 0,oM 11 0,oY 12 11,oT 13 (.bin .sub (.t 12) (cI 1)),oA 14 6 10 13,oQ 15 0 14,oL 16 15,oT 17 (.bin .leq (.t 9) (.t 16)),oP 18 17,gF 19 2 3 18 false,gL 20 19 18 false,oG 21 (.call 152 [.t 20]) 18 false,oG 22 (.not (.t 21)) 18 false,oO 23 18 22,oP 24 23,gF 25 4 3 24 false,gL 26 25 24 false,oG 27 (.bin .neq (.t 26) (cI 0)) 24 false,oG 28 (.move (.t 27)) 24 false,gF 29 4 3 28 true,gL 30 29 28 true,oG 31 (.bin .neq (.t 30) (cI 1)) 28 true,oG 32 (.pick (.t 28) (.t 31) cF) 24 false,oV 33 (.pick (.t 24) cT (.t 32))]) (.cond (.v 33) (.seq (rg [oV 4 (.move cF)]) .ret) .skip)) (.seq (rg [oV 5 (.move cF)]) (.seq (.seq (rg [oV 34 (.move (.v 0)),oV 35 (.len (.v 34)),oJ 36 0]) (.block 0 (.loop (.seq (rg [oV 37 (.bin .lss (.v 36) (.v 35))]) (.seq (.cond (.v 37) .skip (.exit 0)) (.seq (.block 1 (.seq (rg [oT 38 (.indexAddr 6 (.v 34) (.v 36)),oR 39 6 38,oV 7 (.alloc [.c (.int .i64 0),.c (.int .i64 0),.c (.str ⟨#[]⟩),.c (.int .i64 0),.c (.int .i64 0),.c (.int .i64 0)]),oS 6 7 39]) (.seq (rg [oM 40 5,oP 41 40,gF 42 0 7 41 false,gL 43 42 41 false,gF 44 1 3 41 false,gL 45 44 41 false,oG 46 (.bin .eql (.t 43) (.t 45)) 41 false,oO 47 41 46,oN 5 47]) (.seq (rg [oF 48 1 7,oL 49 48,oF 50 1 3,oL 51 50,oT 52 (.bin .eql (.t 49) (.t 51)),oP 53 52,gF 54 2 7 53 true,gL 55 54 53 true,gF 56 2 3 53 true,gL 57 56 53 true,oG 58 (.bin .eql (.t 55) (.t 57)) 53 true,oV 59 (.pick (.t 53) (.t 58) cF)]) (.cond (.v 59) (.seq (rg [oV 4 (.move cF)]) .ret) .skip))))) (rg [oT 60 (.bin .add (.v 36) (cI 1)),oN 36 60]))))))) (.seq (rg [oM 61 5,oN 4 61]) .ret))))
def vf135 : VFunc:={ vs:=[0,1,3,4,5,7,33,34,35,36,37,59],nparams:=2,rets:=[.tmp (.v 4)],body:=vb135 }
def vb136 : VCode:=.seq (rg [oX 2 4 0,oV 4 (.alloc [.c (.int .i64 0),.c (.int .i64 0),.c (.int .i64 0),.c (.int .i64 0)]),oV 5 (.move cF)]) (.seq (rg [oK 7 4 2,oM 8 1,oC 9 153 [.t 7,.t 8],oN 6 9]) (.seq (.seq (rg [oM 10 6,oV 11 (.bin .lss (.t 10) (cI 0))]) (.cond (.v 11) (.seq (rg [oT 12 (.build [.z (.c (.int .i64 0)),.z (.c (.int .i64 0)),.z (.c (.int .i64 0)),.z (.c (.int .i64 0))]),oS 4 4 12,oV 5 (.move cF)]) .ret) .skip)) (.seq (rg [oF 13 2 2,oL 14 13,oM 15 6,oA 16 4 14 15,oR 17 4 16,oS 4 4 17,oV 5 (.move cT)]) .ret)))
def vf136 : VFunc:={ vs:=[0,1,2,4,5,6,11],nparams:=2,rets:=[.cell (.v 4) (some 4),.tmp (.v 5)],body:=vb136 }
def vb152 : VCode:=.seq (rg [oV 2 (.move cF)]) (.seq (.seq (rg [oM 5 0,oV 6 (.strBytes (.t 5)),oV 7 (.len (.v 6)),oJ 8 0]) (.block 0 (.loop (.seq (rg [oV 9 (.bin .lss (.v 8) (.v 7))]) (.seq (.cond (.v 9) .skip (.exit 0)) (.seq (.block 1 (.seq (rg [oT 10 (.indexAddr 1 (.v 6) (.v 8)),oL 11 10,oN 4 11]) (.seq (rg [oM 12 4,oC 13 181 [.t 12],oV 14 (.not (.t 13))]) (.cond (.v 14) (.seq (rg [oV 2 (.move cF)]) .ret) .skip)))) (rg [oT 15 (.bin .add (.v 8) (cI 1)),oN 8 15]))))))) (.seq (rg [oM 16 0,oT 17 (.bin .neq (.t 16) (.c (.str ⟨#[]⟩))),oP 18 17,gM 19 0 18 true,oG 20 (.lenStr (.t 19)) 18 true,oG 21 (.bin .leq (.t 20) (cI 32)) 18 true,oB 22 18 21,oP 23 22,gM 24 0 23 true,oG 25 (.indexStr (.t 24) (cI 0)) 23 true,oG 26 (.bin .neq (.t 25) (.c (.int .u8 45))) 23 true,oB 27 23 26,oN 2 27]) .ret))
def vf152 : VFunc:={ vs:=[0,2,4,6,7,8,9,14],nparams:=1,rets:=[.tmp (.v 2)],body:=vb152 }
def vb153 : VCode:=.seq (rg [oX 2 4 0,oX 3 1 1,oJ 4 0]) (.seq (rg [oF 5 2 2,oL 6 5,oT 7 (.makeFunc 183 [.v 3]),oC 8 182 [.t 6,.t 7],oN 4 8]) .ret)
def vf153 : VFunc:={ vs:=[0,1,2,3,4],nparams:=2,rets:=[.tmp (.v 4)],body:=vb153 }
def vb181 : VCode:=.seq (rg [oV 2 (.move cF)]) (.seq (rg [oM 3 0,oT 4 (.bin .geq (.t 3) (.c (.int .u8 97))),oP 5 4,gM 6 0 5 true,oG 7 (.bin .leq (.t 6) (.c (.int .u8 122))) 5 true,oB 8 5 7,oP 9 8,gM 10 0 9 false,oG 11 (.bin .geq (.t 10) (.c (.int .u8 65))) 9 false,oG 12 (.move (.t 11)) 9 false,gM 13 0 12 true,oG 14 (.bin .leq (.t 13) (.c (.int .u8 90))) 12 true,oG 15 (.pick (.t 12) (.t 14) cF) 9 false,oO 16 9 15,oP 17 16,gM 18 0 17 false,oG 19 (.bin .geq (.t 18) (.c (.int .u8 48))) 17 false,oG 20 (.move (.t 19)) 17 false,gM 21 0 20 true,oG 22 (.bin .leq (.t 21) (.c (.int .u8 57))) 20 true,oG 23 (.pick (.t 20) (.t 22) cF) 17 false,oO 24 17 23,oP 25 24,gM 26 0 25 false,oG 27 (.bin .eql (.t 26) (.c (.int .u8 95))) 25 false,oO 28 25 27,oP 29 28,gM 30 0 29 false,oG 31 (.bin .eql (.t 30) (.c (.int .u8 45))) 29 false,oO 32 29 31,oN 2 32]) .ret)
def vf181 : VFunc:={ vs:=[0,2],nparams:=1,rets:=[.tmp (.v 2)],body:=vb181 }
def vb182 : VCode:=.seq (rg [oJ 4 0]) (.seq (.seq (rg [oM 6 0,oV 7 (.len (.t 6)),oJ 8 0]) (.block 0 (.loop (.seq (rg [oV 9 (.bin .lss (.v 8) (.v 7))]) (.seq (.cond (.v 9) .skip (.exit 0)) (.seq (.block 1 (.seq (rg [oM 10 8,oN 5 10]) (.seq (rg [oM 11 1,oM 12 0,oM 13 5,oA 14 4 12 13,oR 15 4 14,oV 16 (.callv (.t 11) [.t 15])]) (.cond (.v 16) (.seq (rg [oM 17 5,oN 4 17]) .ret) .skip)))) (rg [oT 18 (.bin .add (.v 8) (cI 1)),oN 8 18]))))))) (.seq (rg [oJ 4 (-1)]) .ret))
def vf182 : VFunc:={ vs:=[0,1,4,5,7,8,9,16],nparams:=2,rets:=[.tmp (.v 4)],body:=vb182 }
def vb183 : VCode:=.seq (rg [oX 2 4 0,oV 3 (.move cF)]) (.seq (rg [oF 4 0 2,oL 5 4,oT 6 (.load none (.v 1)),oT 7 (.bin .eql (.t 5) (.t 6)),oN 3 7]) .ret)
def vf183 : VFunc:={ vs:=[0,1,2,3],nparams:=2,rets:=[.tmp (.v 3)],body:=vb183 }
def prog : FuncId -> Option VFunc | 6=>some vf6 | 8=>some vf8 | 9=>some vf9 | 10=>some vf10 | 11=>some vf11 | 12=>some vf12 | 13=>some vf13 | 14=>some vf14 | 15=>some vf15 | 16=>some vf16 | 17=>some vf17 | 18=>some vf18 | 19=>some vf19 | 20=>some vf20 | 21=>some vf21 | 22=>some vf22 | 23=>some vf23 | 24=>some vf24 | 25=>some vf25 | 26=>some vf26 | 40=>some vf40 | 41=>some vf41 | 42=>some vf42 | 43=>some vf43 | 44=>some vf44 | 45=>some vf45 | 46=>some vf46 | 47=>some vf47 | 48=>some vf48 | 49=>some vf49 | 50=>some vf50 | 51=>some vf51 | 52=>some vf52 | 53=>some vf53 | 54=>some vf54 | 55=>some vf55 | 56=>some vf56 | 57=>some vf57 | 58=>some vf58 | 59=>some vf59 | 60=>some vf60 | 61=>some vf61 | 62=>some vf62 | 63=>some vf63 | 64=>some vf64 | 65=>some vf65 | 66=>some vf66 | 67=>some vf67 | 80=>some vf80 | 81=>some vf81 | 83=>some vf83 | 84=>some vf84 | 85=>some vf85 | 86=>some vf86 | 87=>some vf87 | 88=>some vf88 | 89=>some vf89 | 90=>some vf90 | 91=>some vf91 | 92=>some vf92 | 93=>some vf93 | 94=>some vf94 | 95=>some vf95 | 96=>some vf96 | 97=>some vf97 | 98=>some vf98 | 99=>some vf99 | 100=>some vf100 | 101=>some vf101 | 102=>some vf102 | 103=>some vf103 | 104=>some vf104 | 105=>some vf105 | 106=>some vf106 | 109=>some vf109 | 110=>some vf110 | 111=>some vf111 | 131=>some vf131 | 132=>some vf132 | 133=>some vf133 | 134=>some vf134 | 135=>some vf135 | 136=>some vf136 | 152=>some vf152 | 153=>some vf153 | 181=>some vf181 | 182=>some vf182 | 183=>some vf183 | _=>none
end Go.V
