/- Part 1 of the proof. -/
import GoSem.Core.Code
import GoSem.Core.View
set_option linter.unusedSectionVars false
set_option linter.unusedSimpArgs false
set_option linter.unusedVariables false
open List renaming forall_mem_cons → lfm
namespace Go.V
theorem cl1 {P : Prop} (h : P := by first | rfl | (simp; done) | (congr 2; omega) | (congr 1; omega) | (congr 3; omega) | (simp; omega) | (congr 2; simp; omega)) : P := h
theorem cl2 {P : Prop} (h : P := by first | rfl | omega | (congr 2; omega)) : P := h
inductive KT where
 | int (k : IntKind)
 | str
 | bool
 deriving DecidableEq,Inhabited
inductive MKey where
 | int (n : Int)
 | str (s : ByteArray)
 | bool (b : Bool)
 deriving DecidableEq
inductive PV where
 | int (k : IntKind) (n : Int)
 | bool (b : Bool)
 | str (s : ByteArray)
 | slice (sz : Nat) (xs : List PV)
 | agg (cs : List PV)
 | map (kt : KT) (ks : List MKey) (vs : List PV)
 | fn (f : FuncId)
 | nilp
 | nils
 | lit (sz : Nat) (xs : List PV)
 deriving Inhabited
def PV.cells : PV -> List PV
 | .agg cs=>cs
 | v=>[v]
def PV.flat0 : PV -> Bool
 | .int _ _ | .bool _ | .str _ | .fn _ | .nilp=>true
 | _=>false
def PV.flat : PV -> Bool
 | .agg cs=>cs.all PV.flat0
 | d=>d.flat0
inductive Id where
 | slot (s j : Nat)
 | arg (i j : Nat)
 deriving DecidableEq
inductive VVal where
 | p (d : PV)
 | own (id : Id) (ver off len : Nat)
 | ptr (id : Id) (ver off : Nat)
 | vptr (cs : List PV) (off : Nat)
 | eptr (id : Id) (ver i off : Nat)
 | mref (id : Id) (ver : Nat)
 | fn (f : FuncId) (caps : List VVal)
 | agg (cs : List VVal)
 | tup (vs : List VVal)
 | fresh (sz : Nat) (xs : List PV)
 | boxed (cs : List VVal)
 | undef
 | dead
 deriving Inhabited
inductive Ob where
 | box (cs : List VVal)
 | arr (sz : Nat) (xs : List PV)
 | map (kt : KT) (ks : List MKey) (vs : List PV)
 | gone
 deriving Inhabited
abbrev VHeap:=Id -> Option (Nat × Ob)
def VHeap.upd (h : VHeap) (id : Id) (o : Nat × Ob) : VHeap:=fun i=>if i = id then some o else h i
def VHeap.upds (h : VHeap) : List (Id × Nat × Ob) -> VHeap
 | []=>h
 | (id,o) :: us=>(VHeap.upd h id o).upds us
def nv : Option (Nat × Ob) -> Nat
 | none=>0
 | some (v,_)=>v + 1
structure Tok {α : Type} (a : α) : Type where
def ob {α β : Type} (x : Option α) (f : α -> Option β) (_u : Tok f:=⟨⟩) : Option β:=match x with | some a=>f a | none=>none
def gd {α : Type} (c : Prop) [Decidable c] (x : Option α) (_u : Tok x:=⟨⟩) : Option α:=if c then x else none
def br {α : Type} (b : Bool) (x y : α) (_u : Tok x:=⟨⟩) (_v : Tok y:=⟨⟩) : α:=if b then x else y
inductive VArg where
 | v (s : Nat)
 | t (s : Nat)
 | c (d : PV)
 deriving Inhabited
inductive ZC where
 | c (d : PV)
 | nil (sz : Nat)
 deriving Inhabited
inductive BC where
 | z (z : ZC)
 | a (x : VArg) (j n : Nat)
 deriving Inhabited
inductive VOp where
 | move (x : VArg)
 | newArr (sz : Nat)
 | pick (c a b : VArg)
 | alloc (zero : List ZC)
 | box (n : Nat) (x : VArg)
 | build (cells : List BC)
 | buildSlice (sz : Nat) (parts : List VArg)
 | buildFz (sz : Nat) (parts : List VArg)
 | load (agg : Option Nat) (a : VArg)
 | store (n : Nat) (a x : VArg)
 | fieldAddr (off : Nat) (x : VArg)
 | field (off : Nat) (agg : Option Nat) (x : VArg)
 | indexAddr (sz : Nat) (x i : VArg)
 | indexStr (x i : VArg)
 | bin (op : BinOp) (x y : VArg)
 | eqAgg (neg : Bool) (kts : List KT) (x y : VArg)
 | not (x : VArg)
 | neg (x : VArg)
 | len (x : VArg)
 | lenStr (x : VArg)
 | eqB (neg : Bool) (x y : VArg)
 | append (sz bytes : Nat) (s x : VArg)
 | appendNil (sz bytes : Nat) (x : VArg)
 | slice (str : Bool) (sz : Nat) (lo hi mx : Option VArg) (x : VArg)
 | lookup (ok : Bool) (kt : KT) (zero : PV) (m k : VArg)
 | mapUpdate (kt : KT) (m k x : VArg)
 | makeMap (kt : KT)
 | mapLen (x : VArg)
 | extract (x : VArg) (i : Nat)
 | minmax (isMax : Bool) (xs : List VArg)
 | conv (k : IntKind) (x : VArg)
 | strBytes (x : VArg)
 | bytesStr (x : VArg)
 | nilCheck (x : VArg)
 | makeFunc (f : FuncId) (caps : List VArg)
 | call (f : FuncId) (args : List VArg)
 | callv (x : VArg) (args : List VArg)
 | callW (f : FuncId) (args : List VArg)
 | callvW (x : VArg) (args : List VArg)
 | callR (f : FuncId) (args : List VArg)
 | make (sz bytes : Nat) (zero : PV) (n : VArg)
 | copy (sz : Nat) (a x : VArg)
 | mapEntry (kt : KT) (zero : PV) (m k : VArg)
 | entryStore (m s x : VArg)
 | buildArr (sz : Nat) (parts : List VArg)
 | indexArr (n sz : Nat) (agg : Option Nat) (x i : VArg)
 | clear (sz : Nat) (zero : PV) (a : VArg)
 | unlit (x : VArg)
 | buildLit (sz : Nat) (parts : List VArg)
 | appendLit (sz bytes : Nat) (s x : VArg)
 deriving Inhabited
inductive VDst where
 | v (s : Nat)
 | t (s : Nat)
 | none
 deriving Inhabited,DecidableEq
structure VOper where
 dst : VDst
 op : VOp
 guard : Option (VArg × Bool):=.none
 deriving Inhabited
structure VRegion where
 ops : List VOper
 fz : List Nat:=[]
 fp : List (Nat × Nat):=[]
 deriving Inhabited
inductive VCode where
 | skip
 | region (r : VRegion)
 | seq (a b : VCode)
 | cond (c : VArg) (thn els : VCode)
 | block (id : Nat) (c : VCode)
 | loop (c : VCode)
 | exit (id : Nat)
 | ret
 | mv (a b : Id) (c : VCode)
 | scope (c : VCode)
 | fail
 deriving Inhabited
abbrev oT (n : Nat) (o : VOp) : VOper:=⟨.t n,o,none⟩
abbrev oV (n : Nat) (o : VOp) : VOper:=⟨.v n,o,none⟩
abbrev oZ (o : VOp) : VOper:=⟨.none,o,none⟩
abbrev oG (n : Nat) (o : VOp) (g : Nat) (b : Bool) : VOper:=⟨.t n,o,some (.t g,b)⟩
abbrev oM (n x : Nat) : VOper:=⟨.t n,.move (.v x),none⟩
abbrev oN (n x : Nat) : VOper:=⟨.v n,.move (.t x),none⟩
abbrev oL (n x : Nat) : VOper:=⟨.t n,.load none (.t x),none⟩
abbrev oF (n k x : Nat) : VOper:=⟨.t n,.fieldAddr k (.v x),none⟩
abbrev oK (n k x : Nat) : VOper:=⟨.t n,.load (some k) (.v x),none⟩
abbrev rg (l : List VOper) : VCode:=.region ⟨l,[],[]⟩
abbrev cI (n : Int) : VArg:=.c (.int .i64 n)
abbrev cF : VArg:=.c (.bool false)
abbrev cT : VArg:=.c (.bool true)
abbrev oJ (n : Nat) (i : Int) : VOper:=⟨.v n,.move (.c (.int .i64 i)),none⟩
abbrev oP (n x : Nat) : VOper:=⟨.t n,.move (.t x),none⟩
abbrev oA (n s a b : Nat) : VOper:=⟨.t n,.indexAddr s (.t a) (.t b),none⟩
abbrev oQ (n k x : Nat) : VOper:=⟨.t n,.fieldAddr k (.t x),none⟩
abbrev oC (n : Nat) (f : FuncId) (l : List VArg) : VOper:=⟨.t n,.call f l,none⟩
abbrev oE (n x k : Nat) : VOper:=⟨.t n,.extract (.t x) k,none⟩
abbrev oS (s x y : Nat) : VOper:=⟨.none,.store s (.v x) (.t y),none⟩
abbrev oI (n x : Nat) : VOper:=⟨.t n,.bin .add (.t x) (.c (.int .i64 1)),none⟩
abbrev oO (n x y : Nat) : VOper:=⟨.t n,.pick (.t x) (.c (.bool true)) (.t y),none⟩
abbrev oB (n x y : Nat) : VOper:=⟨.t n,.pick (.t x) (.t y) (.c (.bool false)),none⟩
abbrev oR (n s x : Nat) : VOper:=⟨.t n,.load (some s) (.t x),none⟩
abbrev oY (n x : Nat) : VOper:=⟨.t n,.len (.t x),none⟩
abbrev oX (n s x : Nat) : VOper:=⟨.v n,.box s (.v x),none⟩
abbrev oU (n x y : Nat) : VOper:=⟨.v n,.bin .lss (.t x) (.t y),none⟩
abbrev gL (n x g : Nat) (b : Bool) : VOper:=⟨.t n,.load none (.t x),some (.t g,b)⟩
abbrev gF (n k x g : Nat) (b : Bool) : VOper:=⟨.t n,.fieldAddr k (.v x),some (.t g,b)⟩
abbrev gM (n x g : Nat) (b : Bool) : VOper:=⟨.t n,.move (.v x),some (.t g,b)⟩
inductive VRet where
 | tmp (x : VArg)
 | cell (x : VArg) (agg : Option Nat)
 deriving Inhabited
structure VFunc where
 vs : List Nat
 nparams : Nat
 body : VCode
 rets : List VRet
 deriving Inhabited
structure St where
 pe : Nat -> VVal
 h : VHeap
inductive VExit where
 | normal
 | exit (id : Nat)
 | ret
 deriving DecidableEq
abbrev Sig:=FuncId -> List VVal -> List Ob -> Option (VVal × List Ob)
def vcells : VVal -> List VVal
 | .agg cs=>cs
 | v=>[v]
def ofCells (agg : Option Nat) (cs : List VVal) (off : Nat) : Option VVal :=
 match agg with
 | none=>cs[off]?
 | some n=>gd (off + n <= cs.length) (some (.agg ((cs.drop off).take n)))
def vrow (h : VHeap) : VVal -> Option (List VVal × Nat)
 | .ptr id ver off=>match h id with
  | some (v,.box cs)=>gd (v = ver) (some (cs,off))
  | _=>none
 | .vptr cs off=>some (cs.map .p,off)
 | .eptr id ver i off=>match h id with
  | some (v,.arr _ xs)=>gd (v = ver) (ob xs[i]? fun x=>some (x.cells.map .p,off))
  | _=>none
 | _=>none
def vload (h : VHeap) (agg : Option Nat) (a : VVal) : Option VVal:=ob (vrow h a) fun r=>ofCells agg r.1 r.2
def unP : VVal -> Option PV
 | .p d=>some d
 | .fn f []=>some (.fn f)
 | _=>none
def mapO {α β : Type} (f : α -> Option β) : List α -> Option (List β)
 | []=>some []
 | x :: xs=>ob (f x) fun y=>ob (mapO f xs) fun ys=>some (y :: ys)
def freezeP : VVal -> Option PV
 | .agg cs=>ob (mapO unP cs) fun ds=>some (.agg ds)
 | v=>unP v
def velems (h : VHeap) : VVal -> Option (Nat × List PV)
 | .p (.slice sz xs)=>some (sz,xs)
 | .own id ver off len=>match h id with
  | some (v,.arr sz xs)=>gd (v = ver) (some (sz,(xs.drop off).take len))
  | _=>none
 | _=>none
def vlen : VVal -> Option Nat
 | .p (.slice _ xs)=>some xs.length
 | .own _ _ _ len=>some len
 | _=>none
def vlenS : VVal -> Option Nat
 | .p (.str s)=>some s.size
 | _=>none
def splice {α : Type} (cs : List α) (off : Nat) (vs : List α) : List α:=cs.take off ++ vs ++ cs.drop (off + vs.length)
def setCells (x : PV) (off : Nat) (ds : List PV) : PV :=
 match x with
 | .agg cs=>.agg (splice cs off ds)
 | y=>ds.headD y
def solid : VVal -> Bool
 | .p _ | .own _ _ _ _ | .ptr _ _ _ | .vptr _ _ | .eptr _ _ _ _ | .mref _ _ | .fn _ _=>true
 | _=>false
def vstoreAt (h : VHeap) (n : Nat) (vs : List VVal) : VVal -> Option (List (Id × Nat × Ob))
 | .ptr id ver off=>match h id with
  | some (v,.box cs)=>gd (v = ver) (gd (off + n <= cs.length) (some [(id,v,.box (splice cs off vs))]))
  | _=>none
 | .eptr id ver i off=>match h id with
  | some (v,.arr sz xs)=>gd (v = ver) (ob xs[i]? fun x0=>ob (mapO unP vs) fun ds=>gd (off + n <= x0.cells.length) (some [(id,v,.arr sz (xs.set i (setCells x0 off ds)))]))
  | _=>none
 | _=>none
def vstore (h : VHeap) (n : Nat) (a x : VVal) : Option (List (Id × Nat × Ob)) :=
 gd ((vcells x).length = n) (gd ((vcells x).all solid = true) (vstoreAt h n (vcells x) a))
def vindexAt (h : VHeap) (sz i : Nat) : VVal -> Option VVal
 | .p (.slice sz' xs)=>gd (sz' = sz) (ob xs[i]? fun x=>some (.vptr x.cells 0))
 | .own id ver off len=>match h id with
  | some (v,.arr sz' _)=>gd (v = ver) (gd (sz' = sz) (gd (i < len) (some (.eptr id ver (off + i) 0))))
  | _=>none
 | _=>none
def vindex (h : VHeap) (sz : Nat) (s : VVal) (n : Int) : Option VVal:=gd (0 <= n) (vindexAt h sz n.toNat s)
def zcell (d : Nat) (h : VHeap) (j : Nat) : ZC -> VVal × List (Id × Nat × Ob)
 | .c x=>(.p x,[])
 | .nil sz=>(.own (.slot d (j + 1)) (nv (h (.slot d (j + 1)))) 0 0,[(.slot d (j + 1),nv (h (.slot d (j + 1))),.arr sz [])])
def zcells (d : Nat) : VHeap -> Nat -> List ZC -> List VVal × List (Id × Nat × Ob)
 | _,_,[]=>([],[])
 | h,j,z :: zs=>((zcell d h j z).1 :: (zcells d (h.upds (zcell d h j z).2) (j + 1) zs).1,(zcell d h j z).2 ++ (zcells d (h.upds (zcell d h j z).2) (j + 1) zs).2)
def bcells (look : VArg -> Option VVal) (d : Nat) : VHeap -> Nat -> List BC -> Option (List VVal × List (Id × Nat × Ob))
 | _,_,[]=>some ([],[])
 | h,j,.z z :: bs=>ob (bcells look d (h.upds (zcell d h j z).2) (j + 1) bs) fun rs=>some ((zcell d h j z).1 :: rs.1,(zcell d h j z).2 ++ rs.2)
 | h,j,.a x i n :: bs=>ob (look x) fun v=>gd ((vcells v).length = n) <| ob (vcells v)[i]? fun c=>gd (solid c = true) <| ob (bcells look d h (j + 1) bs) fun rs=>some (c :: rs.1,rs.2)
def andI (k : IntKind) (a b : Int) : Int:=k.wrap (BitVec.ofInt k.bits a &&& BitVec.ofInt k.bits b).toNat
def orI (k : IntKind) (a b : Int) : Int:=k.wrap (BitVec.ofInt k.bits a ||| BitVec.ofInt k.bits b).toNat
def xorI (k : IntKind) (a b : Int) : Int:=k.wrap (BitVec.ofInt k.bits a ^^^ BitVec.ofInt k.bits b).toNat
def antI (k : IntKind) (a b : Int) : Int:=k.wrap (BitVec.ofInt k.bits a &&& ~~~ BitVec.ofInt k.bits b).toNat
def shlI (k : IntKind) (a b : Int) : Int:=k.wrap (a * 2 ^ min b.toNat k.bits)
def shrI (k : IntKind) (a b : Int) : Int:=a.fdiv (2 ^ min b.toNat k.bits)
def ibin (k : IntKind) (a b : Int) : BinOp -> Option VVal
 | .add=>some (.p (.int k (k.wrap (a + b))))
 | .sub=>some (.p (.int k (k.wrap (a - b))))
 | .mul=>some (.p (.int k (k.wrap (a * b))))
 | .quo=>gd (b ≠ 0) (some (.p (.int k (k.wrap (a.tdiv b)))))
 | .rem=>gd (b ≠ 0) (some (.p (.int k (a.tmod b))))
 | .and=>some (.p (.int k (andI k a b)))
 | .or=>some (.p (.int k (orI k a b)))
 | .xor=>some (.p (.int k (xorI k a b)))
 | .andNot=>some (.p (.int k (antI k a b)))
 | .eql=>some (.p (.bool (a == b)))
 | .neq=>some (.p (.bool (a != b)))
 | .lss=>some (.p (.bool (decide (a < b))))
 | .leq=>some (.p (.bool (decide (a <= b))))
 | .gtr=>some (.p (.bool (decide (b < a))))
 | .geq=>some (.p (.bool (decide (b <= a))))
 | _=>none
def sbin (a b : ByteArray) : BinOp -> Option VVal
 | .eql=>some (.p (.bool (decide (a = b))))
 | .neq=>some (.p (.bool (!decide (a = b))))
 | .add=>gd (a.size + b.size <= 9223372036854775807) (some (.p (.str (a ++ b))))
 | _=>none
def isSh : BinOp -> Bool
 | .shl | .shr=>true
 | _=>false
def ishift (k : IntKind) (a b : Int) : BinOp -> Option VVal
 | .shl=>gd (0 <= b) (some (.p (.int k (shlI k a b))))
 | .shr=>gd (0 <= b) (some (.p (.int k (shrI k a b))))
 | _=>none
def vbin (op : BinOp) : VVal -> VVal -> Option VVal
 | .p (.int k a),.p (.int k' b)=>br (isSh op) (ishift k a b op) (gd (k = k') (ibin k a b op))
 | .p (.str a),.p (.str b)=>sbin a b op
 | _,_=>none
def eq0 : KT -> PV -> PV -> Option Bool
 | .int k,.int k' a,.int k'' b=>gd (k' = k) (gd (k'' = k) (some (a == b)))
 | .bool,.bool a,.bool b=>some (a == b)
 | .str,.str a,.str b=>some (decide (a = b))
 | _,_,_=>none
def eqAll : List KT -> List PV -> List PV -> Option Bool
 | [],[],[]=>some true
 | k :: ks,x :: xs,y :: ys=>ob (eq0 k x y) fun b=>ob (eqAll ks xs ys) fun c=>some (b && c)
 | _,_,_=>none
def mm2 (isMax : Bool) : VVal -> VVal -> Option VVal
 | .p (.int k a),.p (.int k' b)=>gd (k = k') (some (.p (.int k (if isMax then max a b else min a b))))
 | _,_=>none
def mmL (isMax : Bool) : VVal -> List VVal -> Option VVal
 | v,[]=>some v
 | v,u :: us=>ob (mm2 isMax v u) fun r=>mmL isMax r us
def minmaxI (isMax : Bool) : List VVal -> Option VVal
 | []=>none
 | v :: vs=>mmL isMax v vs
def mkey : KT -> VVal -> Option MKey
 | .int k,.p (.int k' n)=>gd (k = k') (some (.int n))
 | .str,.p (.str s)=>some (.str s)
 | .bool,.p (.bool b)=>some (.bool b)
 | _,_=>none
def mget : List MKey -> List PV -> MKey -> Option PV
 | k :: ks,v :: vs,k'=>if k' = k then some v else mget ks vs k'
 | _,_,_=>none
def mput : List MKey -> List PV -> MKey -> PV -> List MKey × List PV
 | k :: ks,v :: vs,k',v'=>if k' = k then (k :: ks,v' :: vs) else
   let r:=mput ks vs k' v'
   (k :: r.1,v :: r.2)
 | _,_,k',v'=>([k'],[v'])
def kpos : List MKey -> MKey -> Nat
 | k :: ks,k'=>if k' = k then 0 else kpos ks k' + 1
 | [],_=>0
def ventries (h : VHeap) : VVal -> Option (KT × List MKey × List PV)
 | .p (.map kt ks vs)=>some (kt,ks,vs)
 | .mref id ver=>match h id with
  | some (v,.map kt ks vs)=>gd (v = ver) (some (kt,ks,vs))
  | _=>none
 | _=>none
def thaw : PV -> VVal
 | .agg cs=>.agg (cs.map .p)
 | d=>.p d
def vlookup (ok : Bool) (zero : PV) (ks : List MKey) (vs : List PV) (k : MKey) : VVal :=
 let r:=mget ks vs k
 let v:=thaw (r.getD zero)
 if ok then .tup [v,.p (.bool r.isSome)] else v
def vappend (h : VHeap) (sz bytes : Nat) (s x : VVal) : Option (VVal × List (Id × Nat × Ob)) :=
 match s with
 | .own id ver 0 len=>match h id with
  | some (v,.arr sz' xs)=>gd (v = ver) <| gd (sz' = sz) <| gd (len <= xs.length) <|
    ob (velems h x) fun r=>gd (r.1 = sz \/ r.2 = []) <| gd ((len + r.2.length) * bytes <= 140737488355328) <| gd (len + r.2.length <= 9223372036854775807) <|
     some (.own id (v + 1) 0 (len + r.2.length),[(id,v + 1,.arr sz (xs.take len ++ r.2))])
  | _=>none
 | _=>none
def vappendNil (d : Nat) (h : VHeap) (sz bytes : Nat) (x : VVal) : Option (VVal × List (Id × Nat × Ob)) :=
 ob (velems h x) fun r=>gd (r.1 = sz \/ r.2 = []) <| gd (r.2.length * bytes <= 140737488355328) <| gd (r.2.length <= 9223372036854775807) <|
  some (.own (.slot d 0) (nv (h (.slot d 0))) 0 r.2.length,[(.slot d 0,nv (h (.slot d 0)),.arr sz r.2)])
def vappendLit (d : Nat) (h : VHeap) (sz bytes : Nat) (s x : VVal) : Option (VVal × List (Id × Nat × Ob)) :=
 match s with
 | .p (.lit sz' xs)=>gd (sz' = sz) <| gd (0 < xs.length) <| ob (velems h x) fun r=>gd (r.1 = sz) <| gd (0 < r.2.length) <| gd ((xs.length + r.2.length) * bytes <= 140737488355328) <| gd (xs.length + r.2.length <= 9223372036854775807) <|
   some (.own (.slot d 0) (nv (h (.slot d 0))) 0 (xs.length + r.2.length),[(.slot d 0,nv (h (.slot d 0)),.arr sz (xs ++ r.2))])
 | _=>none
def natOf : VVal -> Option Nat
 | .p (.int _ n)=>gd (0 <= n) (some n.toNat)
 | _=>none
def optNat (look : VArg -> Option VVal) (d : Nat) : Option VArg -> Option Nat
 | none=>some d
 | some x=>ob (look x) fun v=>natOf v
def vcut (h : VHeap) (sz l m : Nat) : VVal -> Option (VVal × List (Id × Nat × Ob))
 | .p (.slice sz' xs)=>gd (sz' = sz) (some (.p (.slice sz ((xs.drop l).take (m - l))),[]))
 | .own id ver off _=>match h id with
  | some (v,.arr sz' _)=>gd (v = ver) (gd (sz' = sz) (some (.own id ver (off + l) (m - l),[])))
  | _=>none
 | _=>none
def vcut0 (d : Nat) (h : VHeap) (sz : Nat) : Option (VVal × List (Id × Nat × Ob)) :=
 some (.own (.slot d 0) (nv (h (.slot d 0))) 0 0,[(.slot d 0,nv (h (.slot d 0)),.arr sz [])])
def vcutM (d : Nat) (h : VHeap) (sz l m : Nat) : VVal -> Option (VVal × List (Id × Nat × Ob))
 | .own id ver off n=>vcut h sz l m (.own id ver off n)
 | _=>gd (l = m) (vcut0 d h sz)
def vcut3 (d : Nat) (h : VHeap) (look : VArg -> Option VVal) (sz l m : Nat) (s : VVal) : Option VArg -> Option (VVal × List (Id × Nat × Ob))
 | none=>vcut h sz l m s
 | some x=>ob (look x) fun v=>ob (natOf v) fun k=>gd (k = m) (vcutM d h sz l m s)
def vcutS (l m : Nat) : VVal -> Option (VVal × List (Id × Nat × Ob))
 | .p (.str b)=>some (.p (.str (b.extract l m)),[])
 | _=>none
def vsliceS (look : VArg -> Option VVal) (lo hi : Option VArg) (s : VVal) : Option (VVal × List (Id × Nat × Ob)) :=
 ob (vlenS s) fun n=>ob (optNat look 0 lo) fun l=>ob (optNat look n hi) fun m=>gd (l <= m) (gd (m <= n) (vcutS l m s))
def vslice (d : Nat) (h : VHeap) (look : VArg -> Option VVal) (sz : Nat) (lo hi mx : Option VArg) (s : VVal) : Option (VVal × List (Id × Nat × Ob)) :=
 ob (vlen s) fun n=>ob (optNat look 0 lo) fun l=>ob (optNat look n hi) fun m=>gd (l <= m) (gd (m <= n) (vcut3 d h look sz l m s mx))
def alive (h : VHeap) (id : Id) (ver : Nat) : Bool :=
 match h id with
 | some (v,_)=>decide (v = ver)
 | none=>false
def posOf (R : List Id) (id : Id) : Option Nat:=match R with
 | []=>none
 | r :: rs=>if r = id then some 0 else (posOf rs id).map (· + 1)
def ptrs0 : VVal -> List Id
 | .ptr id _ _=>[id]
 | _=>[]
def ptrs1 : VVal -> List Id
 | .fn _ caps=>caps.flatMap ptrs0
 | .agg cs=>cs.flatMap ptrs0
 | v=>ptrs0 v
def objPtrs (h : VHeap) (id : Id) : List Id :=
 match h id with
 | some (_,.box cs)=>cs.flatMap ptrs1
 | _=>[]
def addNew (R : List Id) : List Id -> List Id
 | []=>R
 | i :: is=>addNew (if R.contains i then R else R ++ [i]) is
def roots (h : VHeap) (args : List VVal) : List Id :=
 let r0:=addNew [] (args.flatMap ptrs1)
 if r0.isEmpty then [] else
 let r1:=addNew r0 (r0.flatMap (objPtrs h))
 let r2:=addNew r1 (r1.flatMap (objPtrs h))
 r2
def ext0 (R : List Id) (h : VHeap) : VVal -> Option VVal
 | .p d=>some (.p d)
 | .own id ver off len=>ob (velems h (.own id ver off len)) fun r=>some (.p (.slice r.1 r.2))
 | .mref id ver=>ob (ventries h (.mref id ver)) fun r=>some (.p (.map r.1 r.2.1 r.2.2))
 | .ptr id ver off=>gd (alive h id ver = true) (ob (posOf R id) fun i=>some (.ptr (.arg i 0) 0 off))
 | .vptr cs off=>some (.vptr cs off)
 | .eptr id ver i off=>match h id with
  | some (v,.arr _ xs)=>gd (v = ver) (ob xs[i]? fun x=>some (.vptr x.cells off))
  | _=>none
 | _=>none
def ext1 (R : List Id) (h : VHeap) : VVal -> Option VVal
 | .fn f caps=>ob (mapO (ext0 R h) caps) fun cs=>some (.fn f cs)
 | .agg cs=>ob (mapO (ext0 R h) cs) fun cs=>some (.agg cs)
 | v=>ext0 R h v
def lends0 : VVal -> Bool
 | .own _ _ _ _ | .mref _ _ | .eptr _ _ _ _=>true
 | _=>false
def lends : VVal -> Bool
 | .agg cs | .fn _ cs=>cs.any lends0
 | v=>lends0 v
def noAlias0 : VVal -> Bool
 | .p d=>d.flat
 | .fresh _ xs=>xs.all PV.flat
 | .ptr _ _ _=>true
 | _=>false
def noAlias1 : VVal -> Bool
 | .agg cs=>cs.all noAlias0
 | .boxed cs=>cs.all noAlias0
 | v=>noAlias0 v
def noAlias : VVal -> Bool
 | .tup vs=>vs.all noAlias1
 | v=>noAlias1 v
def flatC : VVal -> Bool
 | .p d=>d.flat
 | .ptr _ _ _=>true
 | .fn _ cs=>cs.all noAlias0
 | _=>false
def flatBox : Ob -> Bool
 | .box cs=>cs.all flatC
 | _=>false
def extBox (R : List Id) (h : VHeap) (id : Id) : Option Ob :=
 match h id with
 | some (_,.box cs)=>gd (cs.any lends = false) <| ob (mapO (ext1 R h) cs) fun cs=>some (.box cs)
 | _=>none
def back0 (R : List Id) (h : VHeap) : VVal -> Option VVal
 | .p d=>some (.p d)
 | .ptr (.arg i 0) 0 off=>ob R[i]? fun id=>ob (h id) fun o=>some (.ptr id o.1 off)
 | _=>none
def back1 (R : List Id) (h : VHeap) : VVal -> Option VVal
 | .fn f caps=>ob (mapO (back0 R h) caps) fun cs=>some (.fn f cs)
 | v=>back0 R h v
def backBoxes (R : List Id) (h : VHeap) : List Id -> List Ob -> Option (List (Id × Nat × Ob))
 | [],[]=>some []
 | id :: ids,.box cs :: os=>ob (mapO (back1 R h) cs) fun cs'=>ob (h id) fun o=>ob (backBoxes R h ids os) fun us=>some ((id,o.1,.box cs') :: us)
 | _,_=>none
def in0 (R : List Id) (h : VHeap) (d j : Nat) : VVal -> Option (VVal × List (Id × Nat × Ob))
 | .fresh sz xs=>some (.own (.slot d (j + 1)) (nv (h (.slot d (j + 1)))) 0 xs.length,[(.slot d (j + 1),nv (h (.slot d (j + 1))),.arr sz xs)])
 | v=>ob (back0 R h v) fun v'=>some (v',[])
def inL (R : List Id) (h : VHeap) (d : Nat) : Nat -> List VVal -> Option (List VVal × List (Id × Nat × Ob))
 | _,[]=>some ([],[])
 | j,v :: vs=>ob (in0 R h d j v) fun r=>ob (inL R h d (j + 1) vs) fun rs=>some (r.1 :: rs.1,r.2 ++ rs.2)
def in1 (R : List Id) (h : VHeap) (d j : Nat) : VVal -> Option (VVal × List (Id × Nat × Ob))
 | .agg cs=>ob (inL R h d j cs) fun r=>some (.agg r.1,r.2)
 | .boxed cs=>ob (inL R h d (j + 1) cs) fun r=>some (.ptr (.slot d (j + 1)) (nv (h (.slot d (j + 1)))) 0,(.slot d (j + 1),nv (h (.slot d (j + 1))),.box r.1) :: r.2)
 | v=>in0 R h d j v
def width : VVal -> Nat
 | .agg cs=>cs.length
 | .boxed cs=>cs.length + 1
 | _=>1
def inT (R : List Id) (h : VHeap) (d : Nat) : Nat -> List VVal -> Option (List VVal × List (Id × Nat × Ob))
 | _,[]=>some ([],[])
 | j,v :: vs=>ob (in1 R h d j v) fun r=>ob (inT R h d (j + width v) vs) fun rs=>some (r.1 :: rs.1,r.2 ++ rs.2)
def inRes (R : List Id) (h : VHeap) (d : Nat) : VVal -> Option (VVal × List (Id × Nat × Ob))
 | .tup vs=>ob (inT R h d 0 vs) fun r=>some (.tup r.1,r.2)
 | v=>in1 R h d 0 v
def inResW (R : List Id) (h : VHeap) (d : Nat) : VVal -> Option (VVal × List (Id × Nat × Ob))
 | .own (.arg i 0) 0 off len=>ob R[i]? fun id=>ob (h id) fun o=>some (.own id o.1 off len,[])
 | .own (.arg i 0) 1 off len=>ob R[i]? fun id=>ob (h id) fun o=>some (.own id (o.1 + 1) off len,[])
 | v=>inRes R h d v
def vcallR (Γ : Sig) (h : VHeap) (d : Nat) (f : FuncId) (args : List VVal) (R : List Id) : Option (VVal × List (Id × Nat × Ob)) :=
 ob (mapO (ext1 R h) args) fun args'=>ob (mapO (extBox R h) R) fun H=>ob (Γ f args' H) fun r =>
  gd (args.any lends = false \/ (noAlias r.1 = true /\ r.2.all flatBox = true)) <|
  ob (backBoxes R h R r.2) fun us=>ob (inRes R h d r.1) fun q=>some (q.1,us ++ q.2)
def vcallOp (Γ : Sig) (h : VHeap) (d : Nat) (f : FuncId) (args : List VVal) : Option (VVal × List (Id × Nat × Ob)):=vcallR Γ h d f args (roots h args)
def ptrsW0 : VVal -> List Id
 | .ptr id _ _ | .own id _ _ _ | .mref id _ | .eptr id _ _ _=>[id]
 | _=>[]
def ptrsW1 : VVal -> List Id
 | .fn _ caps=>caps.flatMap ptrsW0
 | .agg cs=>cs.flatMap ptrsW0
 | v=>ptrsW0 v
def objPtrsW (h : VHeap) (id : Id) : List Id :=
 match h id with
 | some (_,.box cs)=>cs.flatMap ptrsW1
 | _=>[]
def rootsW (h : VHeap) (args : List VVal) : List Id :=
 let r0:=addNew [] (args.flatMap ptrsW1)
 if r0.isEmpty then [] else
 let r1:=addNew r0 (r0.flatMap (objPtrsW h))
 let r2:=addNew r1 (r1.flatMap (objPtrsW h))
 r2
def extW0 (R : List Id) (h : VHeap) : VVal -> Option VVal
 | .p d=>some (.p d)
 | .vptr cs off=>some (.vptr cs off)
 | .ptr id ver off=>gd (alive h id ver = true) (ob (posOf R id) fun i=>some (.ptr (.arg i 0) 0 off))
 | .own id ver off len=>gd (alive h id ver = true) (ob (posOf R id) fun i=>some (.own (.arg i 0) 0 off len))
 | .mref id ver=>gd (alive h id ver = true) (ob (posOf R id) fun i=>some (.mref (.arg i 0) 0))
 | .eptr id ver j off=>gd (alive h id ver = true) (ob (posOf R id) fun i=>some (.eptr (.arg i 0) 0 j off))
 | _=>none
def extW1 (R : List Id) (h : VHeap) : VVal -> Option VVal
 | .fn f caps=>ob (mapO (extW0 R h) caps) fun cs=>some (.fn f cs)
 | .agg cs=>ob (mapO (extW0 R h) cs) fun cs=>some (.agg cs)
 | v=>extW0 R h v
def extObW (R : List Id) (h : VHeap) (id : Id) : Option Ob :=
 match h id with
 | some (_,.box cs)=>ob (mapO (extW1 R h) cs) fun cs=>some (.box cs)
 | some (_,.arr sz xs)=>some (.arr sz xs)
 | some (_,.map kt ks vs)=>some (.map kt ks vs)
 | _=>none
def backW0 (R : List Id) (h : VHeap) : VVal -> Option VVal
 | .p d=>some (.p d)
 | .ptr (.arg i 0) 0 off=>ob R[i]? fun id=>ob (h id) fun o=>some (.ptr id o.1 off)
 | .own (.arg i 0) ver off len=>ob R[i]? fun id=>ob (h id) fun o=>some (.own id (o.1 + ver) off len)
 | .mref (.arg i 0) 0=>ob R[i]? fun id=>ob (h id) fun o=>some (.mref id o.1)
 | _=>none
def backW1 (R : List Id) (h : VHeap) : VVal -> Option VVal
 | .fn f caps=>ob (mapO (backW0 R h) caps) fun cs=>some (.fn f cs)
 | v=>backW0 R h v
def inC (R : List Id) (h : VHeap) (d j : Nat) : VVal -> Option (VVal × List (Id × Nat × Ob))
 | .fresh sz xs=>some (.own (.slot d (j + 1)) (nv (h (.slot d (j + 1))) + 1) 0 xs.length,[(.slot d (j + 1),nv (h (.slot d (j + 1))) + 1,.arr sz xs)])
 | v=>ob (backW1 R h v) fun v'=>some (v',[])
def inCL (R : List Id) (h : VHeap) (d : Nat) : Nat -> List VVal -> Option (List VVal × List (Id × Nat × Ob))
 | _,[]=>some ([],[])
 | j,v :: vs=>ob (inC R h d j v) fun r=>ob (inCL R h d (j + 1) vs) fun rs=>some (r.1 :: rs.1,r.2 ++ rs.2)
def backObs (R : List Id) (h : VHeap) (d : Nat) : Nat -> List Id -> List Ob -> Option (List (Id × Nat × Ob) × List (Id × Nat × Ob))
 | _,[],[]=>some ([],[])
 | j,id :: ids,o :: os=>ob (h id) fun q=>match q.2,o with
  | .box _,.box cs=>ob (inCL R h d j cs) fun r=>ob (backObs R h d (j + cs.length) ids os) fun us=>some ((id,q.1,.box r.1) :: us.1,r.2 ++ us.2)
  | .arr _ _,.arr sz xs=>ob (backObs R h d j ids os) fun us=>some ((id,q.1,.arr sz xs) :: us.1,us.2)
  | .arr _ _,.box [.undef,.fresh sz xs]=>ob (backObs R h d j ids os) fun us=>some ((id,q.1 + 1,.arr sz xs) :: us.1,us.2)
  | .map _ _ _,.map kt ks vs=>ob (backObs R h d j ids os) fun us=>some ((id,q.1,.map kt ks vs) :: us.1,us.2)
  | _,_=>none
 | _,_,_=>none
def apartRes (R : List Id) (as_ qs : List (Id × Nat × Ob)) : Bool:=qs.all fun x=>!R.contains x.1 && as_.all fun y=>!decide (y.1 = x.1)
def vcallRW (Γ : Sig) (h : VHeap) (d : Nat) (f : FuncId) (args : List VVal) (R : List Id) : Option (VVal × List (Id × Nat × Ob)) :=
 ob (mapO (extW1 R h) args) fun args'=>ob (mapO (extObW R h) R) fun H=>ob (Γ f args' H) fun r =>
  ob (backObs R h d 1000 R r.2) fun us=>ob (inResW R h d r.1) fun q=>gd (apartRes R us.2 q.2 = true) (some (q.1,us.1 ++ (us.2 ++ q.2)))
def vcallW (Γ : Sig) (h : VHeap) (d : Nat) (f : FuncId) (args : List VVal) : Option (VVal × List (Id × Nat × Ob)):=vcallRW Γ h d f args (rootsW h args)
def vcopy (h : VHeap) (sz : Nat) (a x : VVal) : Option (VVal × List (Id × Nat × Ob)) :=
 match a with
 | .own id ver off len=>match h id with
  | some (v,.arr sz' xs)=>gd (v = ver) <| gd (sz' = sz) <| ob (velems h x) fun r=>gd (r.1 = sz \/ r.2 = []) <|
    some (.p (.int .i64 (min len r.2.length : Nat)),[(id,v,.arr sz (splice xs off (r.2.take (min len r.2.length))))])
  | _=>none
 | _=>none
def vclear (h : VHeap) (sz : Nat) (zero : PV) (a : VVal) : Option (VVal × List (Id × Nat × Ob)) :=
 match a with
 | .own id ver off len=>match h id with
  | some (v,.arr sz' xs)=>gd (v = ver) <| gd (sz' = sz) (some (.dead,[(id,v,.arr sz (splice xs off (List.replicate len zero)))]))
  | _=>none
 | _=>none
def unU8 : PV -> Option Int
 | .int .u8 n=>some n
 | _=>none
def bytesI (ns : List Int) : ByteArray:=⟨(ns.map fun n=>UInt8.ofNat n.toNat).toArray⟩
open Classical in
noncomputable def stillC (h : VHeap) (us : List (Id × Nat × Ob)) : Bool:=decide (∀ x ∈ us,h x.1 = some x.2)
theorem stillC_nil {h : VHeap} : stillC h [] = true:=by simp [stillC]
theorem stillC_cons {h : VHeap} {i : Id} {n : Nat} {o : Ob} {us : List (Id × Nat × Ob)} : (stillC h ((i,n,o) :: us) = true) = (h i = some (n,o) /\ stillC h us = true):=by
 simp only [stillC,decide_eq_true_eq,lfm]
noncomputable def evalOp (Γ : Sig) (look : VArg -> Option VVal) (h : VHeap) (d : Nat) : VOp -> Option (VVal × List (Id × Nat × Ob))
 | .move x=>ob (look x) fun v=>some (v,[])
 | .newArr sz=>some (.own (.slot d 0) (nv (h (.slot d 0))) 0 0,[(.slot d 0,nv (h (.slot d 0)),.arr sz [])])
 | .pick c a b=>ob (look c) fun v=>match v with
  | .p (.bool t)=>br t (ob (look a) fun v=>some (v,[])) (ob (look b) fun v=>some (v,[]))
  | _=>none
 | .alloc zero=>some (.ptr (.slot d 0) (nv (h.upds (zcells d h 0 zero).2 (.slot d 0))) 0,(zcells d h 0 zero).2 ++ [(.slot d 0,nv (h.upds (zcells d h 0 zero).2 (.slot d 0)),.box (zcells d h 0 zero).1)])
 | .box n x=>ob (look x) fun v=>gd ((vcells v).length = n) <| gd ((vcells v).all solid = true) (some (.ptr (.slot d 0) (nv (h (.slot d 0))) 0,[(.slot d 0,nv (h (.slot d 0)),.box (vcells v))]))
 | .build cells=>ob (bcells look d h 0 cells) fun r=>some (.agg r.1,r.2)
 | .buildSlice sz parts=>ob (mapO (fun x=>ob (look x) fun v=>freezeP v) parts) fun xs =>
   gd (xs.all (fun x=>decide (x.cells.length = sz)) = true) (some (.own (.slot d 0) (nv (h (.slot d 0))) 0 parts.length,[(.slot d 0,nv (h (.slot d 0)),.arr sz xs)]))
 | .buildFz sz parts=>ob (mapO (fun x=>ob (look x) fun v=>freezeP v) parts) fun xs =>
   gd (xs.all (fun x=>decide (x.cells.length = sz)) = true) (some (.p (.slice sz xs),[]))
 | .load agg a=>ob (look a) fun p=>ob (vload h agg p) fun v=>some (v,[])
 | .store n a x=>ob (look a) fun p=>ob (look x) fun v=>ob (vstore h n p v) fun us=>some (.undef,us)
 | .fieldAddr off x=>ob (look x) fun v=>match v with
  | .ptr id ver o=>some (.ptr id ver (o + off),[])
  | .vptr cs o=>some (.vptr cs (o + off),[])
  | .eptr id ver i o=>some (.eptr id ver i (o + off),[])
  | _=>none
 | .field off agg x=>ob (look x) fun v=>match v with
  | .agg cs=>ob (ofCells agg cs off) fun r=>some (r,[])
  | _=>none
 | .indexAddr sz x i=>ob (look x) fun s=>ob (look i) fun n=>match n with
  | .p (.int _ n)=>ob (vindex h sz s n) fun r=>some (r,[])
  | _=>none
 | .indexStr x i=>ob (look x) fun s=>ob (look i) fun n=>match s,n with
  | .p (.str s),.p (.int _ n)=>gd (0 <= n) (ob s[n.toNat]? fun b=>some (.p (.int .u8 b.toNat),[]))
  | _,_=>none
 | .bin op x y=>ob (look x) fun a=>ob (look y) fun b=>ob (vbin op a b) fun r=>some (r,[])
 | .eqAgg neg kts x y=>ob (look x) fun a=>ob (look y) fun b=>match a,b with
  | .agg a,.agg b=>ob (mapO unP a) fun xs=>ob (mapO unP b) fun ys=>ob (eqAll kts xs ys) fun r=>some (.p (.bool (if neg then !r else r)),[])
  | _,_=>none
 | .not x=>ob (look x) fun v=>match v with
  | .p (.bool b)=>some (.p (.bool (!b)),[])
  | _=>none
 | .neg x=>ob (look x) fun v=>match v with
  | .p (.int k n)=>some (.p (.int k (k.wrap (0 - n))),[])
  | _=>none
 | .len x=>ob (look x) fun v=>ob (vlen v) fun n=>some (.p (.int .i64 n),[])
 | .lenStr x=>ob (look x) fun v=>ob (vlenS v) fun n=>some (.p (.int .i64 n),[])
 | .eqB neg x y=>ob (look x) fun a=>ob (look y) fun b=>match a,b with
  | .p (.bool a),.p (.bool b)=>some (.p (.bool (if neg then !(a == b) else a == b)),[])
  | _,_=>none
 | .append sz bytes s x=>ob (look s) fun a=>ob (look x) fun b=>vappend h sz bytes a b
 | .appendNil sz bytes x=>ob (look x) fun b=>vappendNil d h sz bytes b
 | .slice str sz lo hi mx x=>ob (look x) fun s=>br str (vsliceS look lo hi s) (vslice d h look sz lo hi mx s)
 | .lookup ok kt zero m k=>ob (look m) fun m=>ob (look k) fun k=>ob (ventries h m) fun es=>gd (es.1 = kt \/ es.2.1 = []) <| ob (mkey kt k) fun k=>some (vlookup ok zero es.2.1 es.2.2 k,[])
 | .mapUpdate kt m k x=>ob (look m) fun m=>ob (look k) fun k=>ob (look x) fun x=>ob (mkey kt k) fun k=>ob (freezeP x) fun x=>match m with
  | .mref id ver=>match h id with
   | some (v,.map kt' ks vs)=>gd (v = ver) <| gd (kt' = kt) (some (.undef,[(id,v,.map kt (mput ks vs k x).1 (mput ks vs k x).2)]))
   | _=>none
  | _=>none
 | .makeMap kt=>some (.mref (.slot d 0) (nv (h (.slot d 0))),[(.slot d 0,nv (h (.slot d 0)),.map kt [] [])])
 | .mapLen x=>ob (look x) fun m=>ob (ventries h m) fun es=>some (.p (.int .i64 es.2.1.length),[])
 | .extract x i=>ob (look x) fun v=>match v with
  | .tup vs=>ob vs[i]? fun v=>some (v,[])
  | _=>none
 | .minmax isMax xs=>ob (mapO look xs) fun vs=>ob (minmaxI isMax vs) fun r=>some (r,[])
 | .conv k x=>ob (look x) fun v=>match v with
  | .p (.int _ n)=>some (.p (.int k (k.wrap n)),[])
  | _=>none
 | .strBytes x=>ob (look x) fun v=>match v with
  | .p (.str s)=>some (.p (.slice 1 (s.data.toList.map fun b=>.int .u8 b.toNat)),[])
  | _=>none
 | .bytesStr x=>ob (look x) fun v=>ob (velems h v) fun r=>gd (r.1 = 1) <| ob (mapO unU8 r.2) fun ns=>some (.p (.str (bytesI ns)),[])
 | .nilCheck x=>ob (look x) fun v=>match v with
  | .ptr id ver off=>some (.ptr id ver off,[])
  | .vptr cs off=>some (.vptr cs off,[])
  | .eptr id ver i off=>some (.eptr id ver i off,[])
  | .fn f caps=>some (.fn f caps,[])
  | _=>none
 | .makeFunc f caps=>ob (mapO look caps) fun cs=>some (.fn f cs,[])
 | .call f args=>ob (mapO look args) fun vs=>vcallOp Γ h d f vs
 | .callv x args=>ob (look x) fun g=>ob (mapO look args) fun vs=>match g with
  | .fn f caps=>vcallOp Γ h d f (vs ++ caps)
  | .p (.fn f)=>vcallOp Γ h d f vs
  | _=>none
 | .callW f args=>ob (mapO look args) fun vs=>vcallW Γ h d f vs
 | .callR f args=>ob (mapO look args) fun vs=>ob (vcallW Γ h d f vs) fun q=>gd (stillC h q.2 = true) (some (q.1,[]))
 | .callvW x args=>ob (look x) fun g=>ob (mapO look args) fun vs=>match g with
  | .fn f caps=>vcallW Γ h d f (vs ++ caps)
  | .p (.fn f)=>vcallW Γ h d f vs
  | _=>none
 | .make sz bytes zero n=>ob (look n) fun v=>match v with
  | .p (.int _ m)=>gd (0 <= m) <| gd ((bytes : Int) * m <= 281474976710656) <| gd (m <= 9223372036854775807) <|
    some (.own (.slot d 0) (nv (h (.slot d 0))) 0 m.toNat,[(.slot d 0,nv (h (.slot d 0)),.arr sz (List.replicate m.toNat zero))])
  | _=>none
 | .copy sz a x=>ob (look a) fun a=>ob (look x) fun x=>vcopy h sz a x
 | .clear sz zero a=>ob (look a) fun a=>vclear h sz zero a
 | .unlit x=>ob (look x) fun v=>match v with
  | .p (.lit sz xs)=>some (.p (.slice sz xs),[])
  | _=>none
 | .buildLit sz parts=>ob (mapO (fun x=>ob (look x) fun v=>freezeP v) parts) fun xs =>
   gd (xs.all (fun x=>decide (x.cells.length = sz)) = true) (some (.p (.lit sz xs),[]))
 | .appendLit sz bytes s x=>ob (look s) fun a=>ob (look x) fun b=>vappendLit d h sz bytes a b
 | .mapEntry kt zero m k=>ob (look m) fun m=>ob (look k) fun k=>ob (mkey kt k) fun k=>match m with
  | .mref id ver=>match h id with
   | some (v,.map kt' ks vs)=>gd (v = ver) <| gd (kt' = kt) (some (.tup [thaw ((mget ks vs k).getD zero),.p (.int .i64 (kpos ks k))],[(id,v,.map kt (mput ks vs k ((mget ks vs k).getD zero)).1 (mput ks vs k ((mget ks vs k).getD zero)).2)]))
   | _=>none
  | _=>none
 | .entryStore m s x=>ob (look m) fun m=>ob (look s) fun s=>ob (look x) fun x=>ob (freezeP x) fun x=>match m,s with
  | .mref id ver,.p (.int .i64 n)=>match h id with
   | some (v,.map kt ks vs)=>gd (v = ver) <| gd (0 <= n) <| gd (n.toNat < vs.length) (some (.undef,[(id,v,.map kt ks (vs.set n.toNat x))]))
   | _=>none
  | _,_=>none
 | .buildArr sz parts=>ob (mapO (fun x=>ob (look x) fun v=>freezeP v) parts) fun xs=>gd (xs.all (fun x=>decide (x.cells.length = sz)) = true) (some (.agg ((xs.flatMap PV.cells).map .p),[]))
 | .indexArr n sz agg x i=>ob (look x) fun v=>ob (look i) fun i=>match v,i with
  | .agg cs,.p (.int _ k)=>gd (0 <= k) <| gd (k < n) <| ob (ofCells agg cs (k.toNat * sz)) fun r=>some (r,[])
  | _,_=>none
end Go.V
namespace Go.V
structure RS where
 pe : Nat -> VVal
 te : Nat -> Option VVal
 h : VHeap
def RS.look (r : RS) : VArg -> Option VVal
 | .v s=>some (r.pe s)
 | .t s=>r.te s
 | .c d=>some (thaw d)
def updV (e : Nat -> VVal) (s : Nat) (v : VVal) : Nat -> VVal:=fun t=>if t = s then v else e t
def updT (e : Nat -> Option VVal) (s : Nat) (v : VVal) : Nat -> Option VVal:=fun t=>if t = s then some v else e t
def RS.put (r : RS) : VDst -> VVal -> RS
 | .v s,v=>{ r with pe:=updV r.pe s v }
 | .t s,v=>{ r with te:=updT r.te s v }
 | .none,_=>r
def VDst.slot : VDst -> Nat
 | .v s | .t s=>s
 | .none=>0
noncomputable def stepO (Γ : Sig) (o : VOper) (r : RS) : Option RS :=
 match o.guard with
 | none=>ob (evalOp Γ r.look r.h o.dst.slot o.op) fun q=>some { r.put o.dst q.1 with h:=r.h.upds q.2 }
 | some (g,want)=>ob (r.look g) fun gv=>match gv with
  | .p (.bool b)=>br (b == want) (ob (evalOp Γ r.look r.h o.dst.slot o.op) fun q=>some { r.put o.dst q.1 with h:=r.h.upds q.2 })
   (some (r.put o.dst .undef))
  | .undef=>some (r.put o.dst .undef)
  | _=>none
def ids0 : VVal -> List Id
 | .own id _ _ _ | .ptr id _ _ | .eptr id _ _ _ | .mref id _=>[id]
 | _=>[]
def ids1 : VVal -> List Id
 | .fn _ cs | .agg cs=>cs.flatMap ids0
 | v=>ids0 v
def VOp.args : VOp -> List VArg
 | .move x | .box _ x | .load _ x | .fieldAddr _ x | .field _ _ x | .not x | .neg x | .len x | .lenStr x | .appendNil _ _ x | .mapLen x | .extract x _ | .conv _ x | .strBytes x | .bytesStr x | .nilCheck x | .make _ _ _ x | .clear _ _ x | .unlit x=>[x]
 | .newArr _ | .alloc _ | .makeMap _=>[]
 | .pick c a b=>[c,a,b]
 | .build cs=>cs.filterMap fun | .a x _ _=>some x | .z _=>none
 | .buildSlice _ ps=>ps
 | .buildFz _ ps=>ps
 | .buildLit _ ps=>ps
 | .store _ a x | .indexAddr _ a x | .indexStr a x | .bin _ a x | .eqAgg _ _ a x | .eqB _ a x | .append _ _ a x | .lookup _ _ _ a x | .copy _ a x | .appendLit _ _ a x=>[a,x]
 | .slice _ _ lo hi mx x=>x :: (lo.toList ++ hi.toList ++ mx.toList)
 | .mapUpdate _ m k x=>[m,k,x]
 | .mapEntry _ _ m k=>[m,k]
 | .entryStore m s x=>[m,s,x]
 | .buildArr _ ps=>ps
 | .indexArr _ _ _ x i=>[x,i]
 | .minmax _ xs | .makeFunc _ xs | .call _ xs | .callW _ xs | .callR _ xs=>xs
 | .callv x xs | .callvW x xs=>x :: xs
def VOp.writes : VOp -> Bool
 | .store _ _ _ | .append _ _ _ _ | .mapUpdate _ _ _ _ | .call _ _ | .callv _ _ | .callW _ _ | .callvW _ _ | .copy _ _ _ | .mapEntry _ _ _ _ | .entryStore _ _ _ | .clear _ _ _=>true
 | _=>false
def VOp.isR : VOp -> Bool
 | .callR _ _=>true
 | _=>false
def callArgs : VOp -> List VVal -> List VVal
 | .callv _ _,.fn _ caps :: vs=>vs ++ caps
 | .callv _ _,_ :: vs=>vs
 | .callvW _ _,.fn _ caps :: vs=>vs ++ caps
 | .callvW _ _,_ :: vs=>vs
 | _,vs=>vs
def callRoots (h : VHeap) : VOp -> List VVal -> List Id
 | .callW _ _,vs | .callvW _ _,vs | .callR _ _,vs=>rootsW h vs
 | _,vs=>roots h vs
def touchF (look : VArg -> Option VVal) (h : VHeap) (o : VOper) : List Id :=
 let vs:=o.op.args.filterMap look
 vs.flatMap ids1 ++ (if o.op.writes || o.op.isR then (callArgs o.op vs).flatMap ids1 ++ callRoots h o.op (callArgs o.op vs) else [])
def touch (r : RS) (o : VOper) : List Id:=touchF r.look r.h o
def Id.at : Id -> Nat -> Bool
 | .slot s _,d=>s == d
 | _,_=>false
def headFp : List Id -> List Id
 | []=>[]
 | i :: _=>[i]
def VOp.wrFp : VOp -> List Id -> List Id
 | .append _ _ _ _,t=>headFp t
 | _,t=>t
def apartFp (o o' : VOper) (t t' : List Id) : Bool :=
 (!o.op.writes || (o.op.wrFp t).all fun i=>!t'.contains i) && (!o'.op.writes || (o'.op.wrFp t').all fun i=>!t.contains i) &&
 t.all (fun i=>!i.at o'.dst.slot) && t'.all (fun i=>!i.at o.dst.slot) && o.dst.slot != o'.dst.slot
noncomputable def runOps (Γ : Sig) : List VOper -> RS -> Option RS
 | [],r=>some r
 | o :: os,r=>ob (stepO Γ o r) fun r'=>runOps Γ os r'
def checkFp (fp : List (Nat × Nat)) (i : Nat) (o : VOper) (t : List Id) : List (Nat × VOper × List Id) -> Bool
 | []=>true
 | (a,o',t') :: acc=>if fp.contains (a,i) = true then apartFp o' o t' t && checkFp fp i o t acc else checkFp fp i o t acc
def fpL (fp : List (Nat × Nat)) (i : Nat) : Bool:=fp.any fun p=>p.1 == i
def fpR (fp : List (Nat × Nat)) (i : Nat) : Bool:=fp.any fun p=>p.2 == i
def noteFp (fp : List (Nat × Nat)) (i : Nat) (o : VOper) (r : RS) (acc : List (Nat × VOper × List Id)) : List (Nat × VOper × List Id) :=
 if fpL fp i = true then (i,o,touch r o) :: acc else acc
noncomputable def runFp (Γ : Sig) (fp : List (Nat × Nat)) : Nat -> List VOper -> RS -> List (Nat × VOper × List Id) -> Option RS
 | _,[],r,_=>some r
 | i,o :: os,r,acc=>if fpR fp i = true then gd (checkFp fp i o (touch r o) acc = true) <| ob (stepO Γ o r) fun r'=>runFp Γ fp (i + 1) os r' (noteFp fp i o r acc)
   else ob (stepO Γ o r) fun r'=>runFp Γ fp (i + 1) os r' (noteFp fp i o r acc)
def fzId (fz : List Nat) : Id -> Bool
 | .slot s _=>fz.contains s
 | .arg _ _=>false
def fz0 (fz : List Nat) (h : VHeap) : VVal -> VVal
 | .own id ver off len=>if fzId fz id then
   match velems h (.own id ver off len) with
   | some r=>.p (.slice r.1 r.2)
   | none=>.dead
  else .own id ver off len
 | v=>v
def fz1 (fz : List Nat) (h : VHeap) : VVal -> VVal
 | .agg cs=>.agg (cs.map (fz0 fz h))
 | .tup vs=>.tup (vs.map (fz0 fz h))
 | v=>fz0 fz h v
def fzOb (fz : List Nat) (h : VHeap) (id : Id) : Option (Nat × Ob) :=
 match h id with
 | some (v,.arr sz xs)=>if fzId fz id then some (v + 1,.gone) else some (v,.arr sz xs)
 | some (v,.box cs)=>some (v,.box (cs.map (fz0 fz h)))
 | o=>o
def freeze (fz : List Nat) (s : St) : St:=if fz.isEmpty then s else { pe:=fun t=>fz1 fz s.h (s.pe t),h:=fzOb fz s.h }
noncomputable def execR (Γ : Sig) (r : VRegion) (s : St) : Option St :=
 ob (if r.fp.isEmpty then runOps Γ r.ops { pe:=(freeze r.fz s).pe,te:=fun _=>none,h:=(freeze r.fz s).h }
   else runFp Γ r.fp 0 r.ops { pe:=(freeze r.fz s).pe,te:=fun _=>none,h:=(freeze r.fz s).h } []) fun q=>some { pe:=q.pe,h:=q.h }
def mv0 (a b : Id) (va n : Nat) : VVal -> VVal
 | .own id ver off len=>if id = a /\ ver = va then .own b n off len else .own id ver off len
 | .eptr id ver i off=>if id = a /\ ver = va then .eptr b n i off else .eptr id ver i off
 | v=>v
def mv1 (a b : Id) (va n : Nat) : VVal -> VVal
 | .agg cs=>.agg (cs.map (mv0 a b va n))
 | .tup vs=>.tup (vs.map (mv0 a b va n))
 | v=>mv0 a b va n v
def mvOb (a b : Id) (va n sz : Nat) (xs : List PV) (h : VHeap) : VHeap:=fun id=>if id = b then some (n,.arr sz xs) else if id = a then some (va + 1,.gone) else
 match h id with
 | some (v,.box cs)=>some (v,.box (cs.map (mv0 a b va n)))
 | o=>o
def moved (a b : Id) (s : St) : St:=match s.h a with
 | some (va,.arr sz xs)=>{ pe:=fun t=>mv1 a b va (nv (s.h b)) (s.pe t),h:=mvOb a b va (nv (s.h b)) sz xs s.h }
 | _=>s
def iterN (b : St -> Option (VExit × St)) : Nat -> St -> Option (VExit × St)
 | 0,_=>none
 | n + 1,s=>ob (b s) fun r=>match r.1 with
  | .normal=>iterN b n r.2
  | _=>some r
open Classical in
noncomputable def iter (b : St -> Option (VExit × St)) (s : St) : Option (VExit × St) :=
 if h : ∃ n r,iterN b n s = some r then some (Classical.choose (Classical.choose_spec h)) else none
noncomputable def exec (Γ : Sig) : VCode -> St -> Option (VExit × St)
 | .skip,s=>some (.normal,s)
 | .region r,s=>ob (execR Γ r s) fun s'=>some (.normal,s')
 | .seq a b,s=>ob (exec Γ a s) fun r=>match r.1 with
  | .normal=>exec Γ b r.2
  | _=>some r
 | .cond c a b,s=>match c with
  | .v t=>match s.pe t with
   | .p (.bool c)=>br c (exec Γ a s) (exec Γ b s)
   | _=>none
  | _=>none
 | .block id c,s=>ob (exec Γ c s) fun r=>if r.1 = .exit id then some (.normal,r.2) else some r
 | .loop c,s=>iter (exec Γ c) s
 | .exit id,s=>some (.exit id,s)
 | .ret,s=>some (.ret,s)
 | .mv a b c,s=>exec Γ c (moved a b s)
 | .scope c,s=>exec Γ c s
 | .fail,_=>none
def enterE (args : List VVal) : Nat -> VVal:=fun s=>args.getD s .undef
def enterH (H : List Ob) : VHeap:=fun id=>match id with
 | .arg i 0=>(H[i]?).map fun o=>(0,o)
 | _=>none
def fetch (s : St) : VRet -> Option VVal
 | .tmp (.v t)=>some (s.pe t)
 | .cell (.v t) agg=>vload s.h agg (s.pe t)
 | _=>none
def out0 (h : VHeap) : VVal -> Option VVal
 | .p d=>some (.p d)
 | .own (.slot s j) ver off len=>ob (velems h (.own (.slot s j) ver off len)) fun r=>gd (off = 0) (some (.fresh r.1 r.2))
 | .mref (.slot s j) ver=>ob (ventries h (.mref (.slot s j) ver)) fun r=>some (.p (.map r.1 r.2.1 r.2.2))
 | .ptr (.arg i 0) ver off=>gd (ver = 0) (some (.ptr (.arg i 0) 0 off))
 | .fn f []=>some (.p (.fn f))
 | _=>none
def out1 (h : VHeap) : VVal -> Option VVal
 | .agg cs=>ob (mapO (out0 h) cs) fun cs=>some (.agg cs)
 | .ptr (.slot s j) ver 0=>match h (.slot s j) with
  | some (v,.box cs)=>gd (v = ver) (ob (mapO (out0 h) cs) fun cs=>some (.boxed cs))
  | _=>none
 | v=>out0 h v
def nodupB : List Id -> Bool
 | []=>true
 | i :: is=>!is.contains i && nodupB is
def ownIds0 : VVal -> List Id
 | .own id _ _ _=>[id]
 | _=>[]
def ownIds1 (h : VHeap) : VVal -> List Id
 | .agg cs=>cs.flatMap ownIds0
 | .ptr id _ _=>match h id with
  | some (_,.box cs)=>id :: cs.flatMap ownIds0
  | _=>[id]
 | v=>ownIds0 v
def outO (h : VHeap) : VVal -> Option VVal
 | .own (.arg i 0) ver off len=>gd (alive h (.arg i 0) ver = true) (some (.own (.arg i 0) (if ver = 0 then 0 else 1) off len))
 | v=>out1 h v
def outsT (h : VHeap) : List VVal -> Option VVal
 | [v]=>outO h v
 | vs=>ob (mapO (out1 h) vs) fun vs=>some (.tup vs)
def newIds0 : VVal -> List Id
 | .own (.slot s j) _ _ _=>[.slot s j]
 | _=>[]
def argOwns (h : VHeap) : Nat -> Nat -> List Id
 | _,0=>[]
 | i,n + 1=>(match h (.arg i 0) with
  | some (_,.box cs)=>cs.flatMap newIds0
  | _=>[]) ++ argOwns h (i + 1) n
def outs (h : VHeap) (n : Nat) (vs : List VVal) : Option VVal:=gd (nodupB (vs.flatMap (ownIds1 h) ++ argOwns h 0 n) = true) (outsT h vs)
def outArg1 (h : VHeap) : VVal -> Option VVal
 | .p d=>some (.p d)
 | .ptr (.arg i 0) ver off=>gd (ver = 0) (some (.ptr (.arg i 0) 0 off))
 | .own (.arg i 0) ver off len=>gd (alive h (.arg i 0) ver = true) (some (.own (.arg i 0) (if ver = 0 then 0 else 1) off len))
 | .own (.slot s j) ver off len=>ob (velems h (.own (.slot s j) ver off len)) fun r=>gd (off = 0) (some (.fresh r.1 r.2))
 | .mref (.arg i 0) ver=>gd (ver = 0) (some (.mref (.arg i 0) 0))
 | _=>none
def outArg (h : VHeap) : VVal -> Option VVal
 | .fn f caps=>ob (mapO (outArg1 h) caps) fun cs=>some (.fn f cs)
 | v=>outArg1 h v
def outBox (h : VHeap) (i : Nat) : Option Ob :=
 match h (.arg i 0) with
 | some (v,.box cs)=>gd (v = 0) (ob (mapO (outArg h) cs) fun cs=>some (.box cs))
 | some (v,.arr sz xs)=>some (if v = 0 then .arr sz xs else .box [.undef,.fresh sz xs])
 | some (v,.map kt ks vs)=>gd (v = 0) (some (.map kt ks vs))
 | _=>none
def outH (h : VHeap) : Nat -> Nat -> Option (List Ob)
 | _,0=>some []
 | i,n + 1=>ob (outBox h i) fun o=>ob (outH h (i + 1) n) fun os=>some (o :: os)
def leave (rets : List VRet) (n : Nat) (r : VExit × St) : Option (VVal × List Ob) :=
 match r.1 with
 | .exit _=>none
 | _=>ob (mapO (fetch r.2) rets) fun vs=>ob (outs r.2.h n vs) fun v=>ob (outH r.2.h 0 n) fun H'=>some (v,H')
noncomputable def callF (Γ : Sig) (vf : VFunc) (args : List VVal) (H : List Ob) : Option (VVal × List Ob) :=
 gd (args.length = vf.nparams) <|
  ob (exec Γ vf.body { pe:=enterE args,h:=enterH H }) fun r=>leave vf.rets H.length r
noncomputable def callN (prog : FuncId -> Option VFunc) (X : Sig) : Nat -> Sig
 | 0=>X
 | n + 1=>fun f args H=>match X f args H with
  | some r=>some r
  | none=>match prog f with
   | some vf=>callF (callN prog X n) vf args H
   | none=>none
open Classical in
noncomputable def vcall (prog : FuncId -> Option VFunc) (X : Sig) : Sig:=fun f args H =>
 if h : ∃ n r,callN prog X n f args H = some r then some (Classical.choose (Classical.choose_spec h)) else none
end Go.V
namespace Go.V
def vb3 : VCode:=.seq (rg [oX 7 2 1,oX 8 2 2,oX 9 4 3,oV 12 (.move cF)]) (.seq (.seq (rg [oM 21 0,oC 22 5 [.t 21],oV 23 (.not (.t 22))]) (.cond (.v 23) (.seq (rg [oC 24 6 [],oN 12 24]) .ret) .skip)) (.seq (rg [oM 25 0,oC 26 7 [.t 25],oN 13 26]) (.seq (.seq (rg [oJ 14 0]) (.block 0 (.loop (.seq (.seq (.region ⟨[oM 27 14,oV 28 (.bin .lss (.t 27) (cI 3))],[15,16,32,35,38,41],[]⟩) (.cond (.v 28) .skip (.exit 0))) (.seq (.block 1 (.seq (rg [oM 31 13,oC 32 8 [.t 31,.c (.int .i64 6)],oV 15 (.alloc [.nil 6,.c (.int .i64 0)]),oS 2 15 32]) (.seq (.region ⟨[oM 33 13,oK 34 2 15,oC 35 9 [.t 33,.t 34],oM 36 13,oK 37 2 15,oC 38 10 [.t 36,.t 37],oM 39 13,oK 40 2 15,oC 41 11 [.t 39,.t 40],oV 16 (.alloc [.nil 4,.c (.int .i64 0)]),oS 2 16 35,oN 17 38,oN 18 41],[],[(2,4),(2,7),(5,7),(1,9),(2,9),(4,9),(5,9),(7,9),(8,9)]⟩) (.seq (rg [oM 42 13,oK 43 2 15,oC 44 12 [.t 42,.t 43],oM 45 13,oT 46 (.buildFz 1 [.c (.int .i64 0),.c (.int .i64 1),.c (.int .i64 (-1)),.c (.int .i64 16777216)]),oC 47 13 [.t 45,.t 46],oM 48 13,oT 49 (.buildFz 1 [.c (.int .i64 0),.c (.int .i64 7),.c (.int .i64 16777217)]),oC 50 13 [.t 48,.t 49],oM 51 13,oT 52 (.buildFz 1 [.c (.int .i64 0),.c (.int .i64 3),.c (.int .i64 300)]),oC 53 13 [.t 51,.t 52],oT 54 (.build [.a (.t 44) 0 1,.a (.t 47) 0 1,.a (.t 50) 0 1,.a (.t 53) 0 1]),oV 19 (.alloc [.c (.int .i64 0),.c (.int .i64 0),.c (.int .i64 0),.c (.int .i64 0)]),oS 4 19 54]) (.seq (.seq (rg [oM 55 14,oT 56 (.bin .eql (.t 55) (cI 2)),oP 57 56,gF 58 0 16 57 true,gL 59 58 57 true,oG 60 (.len (.t 59)) 57 true,oG 61 (.bin .gtr (.t 60) (cI 0)) 57 true,oV 62 (.pick (.t 57) (.t 61) cF)]) (.cond (.v 62) (.seq (.region ⟨[oF 63 0 16,oL 64 63,oM 65 13,oF 66 0 16,oL 67 66,oY 68 67,oC 69 14 [.t 65,.t 68],oA 70 4 64 69,oN 20 70],[],[(1,6)]⟩) (.region ⟨[oM 71 20,oM 72 20,oM 73 20,oM 74 13,oM 75 20,oT 76 (.nilCheck (.t 75)),oQ 77 0 76,oL 78 77,oT 79 (.buildFz 1 [.t 78,.c (.int .i64 1),.c (.int .i64 9)]),oC 80 13 [.t 74,.t 79],oM 81 13,oM 82 20,oT 83 (.nilCheck (.t 82)),oQ 84 1 83,oL 85 84,oT 86 (.buildFz 1 [.t 85,.c (.int .i64 (-1)),.c (.int .i64 0)]),oC 87 13 [.t 81,.t 86],oM 88 13,oM 89 20,oT 90 (.nilCheck (.t 89)),oQ 91 3 90,oL 92 91,oT 93 (.buildFz 1 [.t 92,.c (.int .i64 0),.c (.int .i64 (-1)),.c (.int .i64 6000)]),oC 94 13 [.t 88,.t 93],oT 95 (.nilCheck (.t 71)),oQ 96 0 95,oZ (.store 1 (.t 96) (.t 80)),oT 97 (.nilCheck (.t 72)),oQ 98 1 97,oZ (.store 1 (.t 98) (.t 87)),oT 99 (.nilCheck (.t 73)),oQ 100 3 99,oZ (.store 1 (.t 100) (.t 94))],[],[(9,14),(9,21),(16,21)]⟩)) .skip)) (.seq (.region ⟨[oK 101 2 15,oK 102 2 16,oM 103 17,oM 104 18,oK 105 4 19,oM 106 13,oK 107 2 15,oC 108 12 [.t 106,.t 107],oM 109 13,oT 110 (.buildFz 1 [.c (.int .i64 0),.c (.int .i64 1),.c (.int .i64 9),.c (.int .i64 40),.c (.int .i64 150),.c (.int .i64 1000),.c (.int .i64 (-1)),.c (.int .i64 16777217)]),oC 111 13 [.t 109,.t 110],oC 112 15 [.t 101,.t 102,.t 103,.t 104,.t 105,.t 108,.t 111],oT 113 (.not (.t 112)),oP 114 113,oG 115 (.load (some 2) (.v 15)) 114 false,oG 116 (.load (some 2) (.v 16)) 114 false,gM 117 17 114 false,gM 118 18 114 false,oG 119 (.load (some 4) (.v 9)) 114 false,gM 120 13 114 false,oG 121 (.load (some 2) (.v 15)) 114 false,oG 122 (.call 12 [.t 120,.t 121]) 114 false,gM 123 5 114 false,oG 124 (.call 15 [.t 115,.t 116,.t 117,.t 118,.t 119,.t 122,.t 123]) 114 false,oG 125 (.not (.t 124)) 114 false,oV 126 (.pick (.t 114) cT (.t 125))],[],[(0,7),(1,7),(4,7),(0,10),(1,10),(4,10),(14,21),(15,21),(18,21)]⟩) (.cond (.v 126) (.seq (rg [oV 12 (.move cF)]) .ret) .skip))))))) (rg [oM 29 14,oI 30 29,oN 14 30])))))) (.seq (rg [oF 127 0 7,oL 128 127,oY 129 128,oT 130 (.bin .gtr (.t 129) (cI 40)),oP 131 130,gF 132 0 8 131 false,gL 133 132 131 false,oG 134 (.len (.t 133)) 131 false,oG 135 (.bin .gtr (.t 134) (cI 40)) 131 false,oO 136 131 135,oP 137 136,oG 138 (.load (some 2) (.v 7)) 137 false,oG 139 (.load (some 2) (.v 8)) 137 false,oG 140 (.load (some 4) (.v 9)) 137 false,gM 141 4 137 false,gM 142 5 137 false,oG 143 (.call 15 [.t 138,.t 139,.c (.slice 3 []),.c (.slice 2 []),.t 140,.t 141,.t 142]) 137 false,oG 144 (.move (.t 143)) 137 false,oG 145 (.call 6 []) 144 true,oG 146 (.pick (.t 144) (.t 145) cF) 137 false,oO 147 137 146,oN 12 147]) .ret))))
def vf3 : VFunc:={ vs:=[0,1,2,3,4,5,7,8,9,12,13,14,15,16,17,18,19,20,23,28,62,126],nparams:=6,rets:=[.tmp (.v 12)],body:=vb3 }
def vb5 : VCode:=.seq (rg [oV 2 (.move cF)]) (.seq (rg [oM 3 0,oY 4 3,oT 5 (.bin .leq (.t 4) (cI 600)),oN 2 5]) .ret)
def vf5 : VFunc:={ vs:=[0,2],nparams:=1,rets:=[.tmp (.v 2)],body:=vb5 }
def vb6 : VCode:=.seq (rg [oV 0 (.move cF)]) (.seq (rg [oT 13 (.build [.a (cI 1) 0 1,.z (.c (.int .i64 0)),.z (.c (.str ⟨#[]⟩)),.z (.c (.int .i64 0)),.z (.c (.int .i64 0)),.z (.c (.int .i64 0))]),oT 14 (.build [.a (cI 2) 0 1,.a (cI 1) 0 1,.a (.c (.str ⟨#[97]⟩)) 0 1,.z (.c (.int .i64 0)),.z (.c (.int .i64 0)),.z (.c (.int .i64 0))]),oT 15 (.build [.a (cI 3) 0 1,.a (cI 1) 0 1,.a (.c (.str ⟨#[98]⟩)) 0 1,.z (.c (.int .i64 0)),.z (.c (.int .i64 0)),.z (.c (.int .i64 0))]),oT 16 (.buildSlice 6 [.t 13,.t 14,.t 15]),oT 17 (.build [.a (.t 16) 0 1,.a (cI 4) 0 1]),oV 1 (.alloc [.nil 6,.c (.int .i64 0)]),oS 2 1 17]) (.seq (rg [oT 18 (.build [.a (cI 2) 0 1,.a (cI 10) 0 1,.a (cI 10) 0 1,.z (.c (.int .i64 0))]),oT 19 (.build [.a (cI 3) 0 1,.z (.c (.int .i64 0)),.a (cI 20) 0 1,.z (.c (.int .i64 0))]),oT 20 (.buildSlice 4 [.t 18,.t 19]),oT 21 (.build [.a (.t 20) 0 1,.a (cI 100) 0 1]),oV 2 (.alloc [.nil 4,.c (.int .i64 0)]),oS 2 2 21]) (.seq (rg [oT 22 (.build [.a (cI 3) 0 1,.z (.c (.int .i64 0)),.a (cI 15) 0 1]),oT 23 (.buildSlice 3 [.t 22]),oN 3 23]) (.seq (rg [oK 25 2 1,oK 26 2 2,oM 27 3,oT 28 (.call 19 [.t 25,.t 26,.t 27,.c (.slice 2 []),.c (.int .i64 1),.c (.int .i64 12)]),oP 24 28,oE 29 24 0,oE 30 24 1,oE 31 24 2,oV 4 (.alloc [.nil 4,.c (.int .i64 0)]),oS 2 4 29,oN 5 30,oN 6 31]) (.seq (rg [oK 33 2 1,oK 34 2 2,oM 35 3,oT 36 (.call 19 [.t 33,.t 34,.t 35,.c (.slice 2 []),.c (.int .i64 1),.c (.int .i64 30)]),oP 32 36,oE 37 32 0,oE 38 32 1,oE 39 32 2,oT 7 (.alloc [.nil 4,.c (.int .i64 0)]),oZ (.store 2 (.t 7) (.t 37)),oN 8 38,oN 9 39]) (.seq (rg [oF 40 1 2,oZ (.store 1 (.t 40) (cI 0))]) (.seq (rg [oK 42 2 1,oK 43 2 2,oM 44 3,oT 45 (.call 19 [.t 42,.t 43,.t 44,.c (.slice 2 []),.c (.int .i64 1),.c (.int .i64 12)]),oP 41 45,oE 46 41 0,oE 47 41 1,oE 48 41 2,oT 10 (.alloc [.nil 4,.c (.int .i64 0)]),oZ (.store 2 (.t 10) (.t 46)),oN 11 47,oN 12 48]) (.seq (rg [oM 49 6,oT 50 (.bin .eql (.t 49) (cI 0)),oP 51 50,gM 52 9 51 true,oG 53 (.bin .eql (.t 52) (cI 0)) 51 true,oB 54 51 53,oP 55 54,gM 56 12 55 true,oG 57 (.bin .eql (.t 56) (cI 0)) 55 true,oB 58 55 57,oP 59 58,gF 60 0 4 59 true,gL 61 60 59 true,oG 62 (.build [.a (cI 2) 0 1,.z (.c (.int .i64 0)),.a (cI 8) 0 1,.a (cI 2) 0 1]) 59 true,oG 63 (.build [.a (cI 3) 0 1,.z (.c (.int .i64 0)),.a (cI 20) 0 1,.z (.c (.int .i64 0))]) 59 true,oG 64 (.buildFz 4 [.t 62,.t 63]) 59 true,oG 65 (.call 20 [.t 61,.t 64]) 59 true,oB 66 59 65,oP 67 66,gM 68 5 67 true,oG 69 (.build [.a (cI 2) 0 1,.a (cI 10) 0 1,.a (cI 2) 0 1,.z (.c (.int .i64 0))]) 67 true,oG 70 (.buildFz 4 [.t 69]) 67 true,oG 71 (.call 21 [.t 68,.t 70]) 67 true,oB 72 67 71,oP 73 72,gM 74 8 73 true,oG 75 (.build [.a (cI 2) 0 1,.a (cI 10) 0 1,.a (cI 10) 0 1,.z (.c (.int .i64 0))]) 73 true,oG 76 (.build [.a (cI 3) 0 1,.z (.c (.int .i64 0)),.a (cI 10) 0 1,.a (cI 5) 0 1]) 73 true,oG 77 (.buildFz 4 [.t 75,.t 76]) 73 true,oG 78 (.call 21 [.t 74,.t 77]) 73 true,oB 79 73 78,oP 80 79,gM 81 11 80 true,oG 82 (.build [.a (cI 2) 0 1,.a (cI 10) 0 1,.z (.c (.int .i64 0)),.z (.c (.int .i64 0))]) 80 true,oG 83 (.buildFz 4 [.t 82]) 80 true,oG 84 (.call 21 [.t 81,.t 83]) 80 true,oB 85 80 84,oN 0 85]) .ret))))))))
def vf6 : VFunc:={ vs:=[0,1,2,3,4,5,6,8,9,11,12],nparams:=0,rets:=[.tmp (.v 0)],body:=vb6 }
def vb7 : VCode:=.seq (rg [oV 2 (.move (.c (.nilp)))]) (.seq (rg [oM 3 0,oT 4 (.build [.a (.t 3) 0 1,.z (.c (.int .i64 0))]),oT 5 (.box 2 (.t 4)),oN 2 5]) .ret)
def vf7 : VFunc:={ vs:=[0,2],nparams:=1,rets:=[.tmp (.v 2)],body:=vb7 }
def vb8 : VCode:=.seq (rg [oV 4 (.alloc [.nil 6,.c (.int .i64 0)])]) (.seq (rg [oC 13 22 [],oV 5 (.alloc [.nil 6,.c (.int .i64 0)]),oS 2 5 13]) (.seq (.seq (rg [oM 14 0,oM 15 1,oI 16 15,oC 17 14 [.t 14,.t 16],oN 6 17]) (.block 0 (.loop (.seq (.seq (.region ⟨[oM 18 6,oV 19 (.bin .gtr (.t 18) (cI 0))],[8,11,13,37,58],[]⟩) (.cond (.v 19) .skip (.exit 0))) (.seq (.block 1 (.seq (.region ⟨[oF 22 0 5,oL 23 22,oM 24 0,oF 25 0 5,oL 26 25,oY 27 26,oC 28 14 [.t 24,.t 27],oA 29 6 23 28,oQ 30 0 29,oL 31 30,oN 7 31],[],[(1,6)]⟩) (.seq (.seq (.region ⟨[oK 33 2 5,oM 34 7,oM 35 0,oC 36 24 [.t 35],oC 37 23 [.t 33,.t 34,.t 36],oP 32 37,oE 38 32 0,oE 39 32 1,oE 40 32 2,oV 8 (.alloc [.nil 6,.c (.int .i64 0)]),oS 2 8 38,oP 9 39,oN 10 40],[],[(0,3),(0,9),(3,9),(4,9)]⟩) (.seq (rg [oM 41 10,oV 42 (.bin .eql (.t 41) (cI 0))]) (.cond (.v 42) (rg [oK 43 2 8,oS 2 5 43]) .skip))) (.seq (rg [oM 44 0,oV 45 (.call 25 [.t 44,.c (.int .i64 6)])]) (.cond (.v 45) (.seq (.region ⟨[oK 47 2 5,oF 48 0 5,oL 49 48,oM 50 0,oF 51 0 5,oL 52 51,oY 53 52,oC 54 14 [.t 50,.t 53],oA 55 6 49 54,oQ 56 0 55,oL 57 56,oC 58 26 [.t 47,.t 57],oP 46 58,oE 59 46 0,oE 60 46 1,oV 11 (.alloc [.nil 6,.c (.int .i64 0)]),oS 2 11 59,oN 12 60],[],[(0,7),(2,7),(0,15),(2,15),(5,15),(7,15),(8,15),(10,15),(11,15)]⟩) (.seq (rg [oM 61 12,oV 62 (.bin .eql (.t 61) (cI 0))]) (.cond (.v 62) (rg [oK 63 2 11,oS 2 5 63]) .skip))) .skip))))) (rg [oM 20 6,oT 21 (.bin .sub (.t 20) (cI 1)),oN 6 21])))))) (.seq (rg [oK 64 2 5,oS 2 4 64]) .ret)))
def vf8 : VFunc:={ vs:=[0,1,4,5,6,7,8,10,11,12,19,42,45,62],nparams:=2,rets:=[.cell (.v 4) (some 2)],body:=vb8 }
def vb9 : VCode:=.seq (rg [oX 3 2 1,oV 4 (.alloc [.nil 4,.c (.int .i64 0)])]) (.seq (rg [oM 10 0,oT 11 (.buildFz 1 [.c (.int .i64 0),.c (.int .i64 20),.c (.int .i64 200),.c (.int .i64 5000)]),oC 12 13 [.t 10,.t 11],oT 13 (.build [.z (.nil 4),.a (.t 12) 0 1]),oV 5 (.alloc [.nil 4,.c (.int .i64 0)]),oS 2 5 13]) (.seq (.seq (rg [oJ 6 0]) (.block 0 (.loop (.seq (.seq (rg [oM 14 6,oF 15 0 3,oL 16 15,oY 17 16,oU 18 14 17]) (.cond (.v 18) .skip (.exit 0))) (.seq (.block 1 (.seq (.region ⟨[oF 21 0 3,oL 22 21,oM 23 6,oA 24 6 22 23,oQ 25 0 24,oL 26 25,oM 27 0,oT 28 (.buildFz 1 [.c (.int .i64 0),.c (.int .i64 0),.c (.int .i64 4),.c (.int .i64 30),.c (.int .i64 100)]),oC 29 13 [.t 27,.t 28],oM 30 0,oT 31 (.buildFz 1 [.c (.int .i64 0),.c (.int .i64 5),.c (.int .i64 20),.c (.int .i64 80)]),oC 32 13 [.t 30,.t 31],oM 33 0,oT 34 (.buildFz 1 [.c (.int .i64 0),.c (.int .i64 0),.c (.int .i64 3),.c (.int .i64 15)]),oC 35 13 [.t 33,.t 34],oT 36 (.build [.a (.t 26) 0 1,.a (.t 29) 0 1,.a (.t 32) 0 1,.a (.t 35) 0 1]),oV 7 (.alloc [.c (.int .i64 0),.c (.int .i64 0),.c (.int .i64 0),.c (.int .i64 0)]),oS 4 7 36],[],[(1,8),(3,8),(5,8),(1,11),(3,11),(5,11),(1,14),(3,14),(5,14),(1,16),(3,16),(5,16),(8,16),(11,16),(14,16),(15,16)]⟩) (.seq (rg [oK 38 2 3,oK 39 2 5,oK 40 4 7,oC 41 27 [.t 38,.t 39,.t 40],oP 37 41,oE 42 37 0,oE 43 37 1,oV 8 (.alloc [.nil 4,.c (.int .i64 0)]),oS 2 8 42,oN 9 43]) (.seq (rg [oM 44 9,oV 45 (.bin .eql (.t 44) (cI 0))]) (.cond (.v 45) (.mv (.slot 41 1) (.slot 13 1) (rg [oK 46 2 8,oS 2 5 46])) .skip))))) (rg [oM 19 6,oI 20 19,oN 6 20])))))) (.seq (rg [oK 47 2 5,oS 2 4 47]) .ret)))
def vf9 : VFunc:={ vs:=[0,1,3,4,5,6,7,8,9,18,45],nparams:=2,rets:=[.cell (.v 4) (some 2)],body:=vb9 }
def vb10 : VCode:=.seq (rg [oX 3 2 1,oV 4 (.newArr 3)]) (.seq (rg [oV 5 (.newArr 3)]) (.seq (.seq (rg [oJ 6 0]) (.block 0 (.loop (.seq (.seq (rg [oM 7 6,oF 8 0 3,oL 9 8,oY 10 9,oU 11 7 10]) (.cond (.v 11) .skip (.exit 0))) (.seq (.block 1 (.seq (rg [oM 14 0,oC 15 14 [.t 14,.c (.int .i64 3)],oV 16 (.bin .gtr (.t 15) (cI 0))]) (.cond (.v 16) (.region ⟨[oM 17 5,oF 18 0 3,oL 19 18,oM 20 6,oA 21 6 19 20,oQ 22 0 21,oL 23 22,oM 24 0,oT 25 (.buildFz 1 [.c (.int .i64 0),.c (.int .i64 0),.c (.int .i64 3),.c (.int .i64 50),.c (.int .i64 100),.c (.int .i64 1000),.c (.int .i64 4611686018427387904)]),oC 26 13 [.t 24,.t 25],oM 27 0,oT 28 (.buildFz 1 [.c (.int .i64 0),.c (.int .i64 3),.c (.int .i64 30),.c (.int .i64 100),.c (.int .i64 150),.c (.int .i64 1099511627776),.c (.int .i64 4611686018427387904)]),oC 29 13 [.t 27,.t 28],oT 30 (.build [.a (.t 23) 0 1,.a (.t 26) 0 1,.a (.t 29) 0 1]),oT 31 (.buildSlice 3 [.t 30]),oT 32 (.append 3 24 (.t 17) (.t 31)),oN 5 32],[],[(2,9),(4,9),(6,9),(2,12),(4,12),(6,12)]⟩) .skip))) (rg [oM 12 6,oI 13 12,oN 6 13])))))) (.seq (rg [oM 33 5,oN 4 33]) .ret)))
def vf10 : VFunc:={ vs:=[0,1,3,4,5,6,11,16],nparams:=2,rets:=[.tmp (.v 4)],body:=vb10 }
def vb11 : VCode:=.seq (rg [oX 3 2 1,oV 4 (.newArr 2)]) (.seq (rg [oV 5 (.newArr 2)]) (.seq (.seq (rg [oJ 6 0]) (.block 0 (.loop (.seq (.seq (rg [oM 7 6,oF 8 0 3,oL 9 8,oY 10 9,oU 11 7 10]) (.cond (.v 11) .skip (.exit 0))) (.seq (.block 1 (.seq (rg [oM 14 0,oV 15 (.call 25 [.t 14,.c (.int .i64 2)])]) (.cond (.v 15) (.region ⟨[oM 16 5,oF 17 0 3,oL 18 17,oM 19 6,oA 20 6 18 19,oQ 21 0 20,oL 22 21,oM 23 0,oT 24 (.buildFz 1 [.c (.int .i64 0),.c (.int .i64 10),.c (.int .i64 60),.c (.int .i64 150),.c (.int .i64 1000),.c (.int .i64 1099511627776),.c (.int .i64 4611686018427387904)]),oC 25 13 [.t 23,.t 24],oT 26 (.build [.a (.t 22) 0 1,.a (.t 25) 0 1]),oT 27 (.buildSlice 2 [.t 26]),oT 28 (.append 2 16 (.t 16) (.t 27)),oN 5 28],[],[(2,9),(4,9),(6,9)]⟩) .skip))) (rg [oM 12 6,oI 13 12,oN 6 13])))))) (.seq (rg [oM 29 5,oN 4 29]) .ret)))
def vf11 : VFunc:={ vs:=[0,1,3,4,5,6,11,15],nparams:=2,rets:=[.tmp (.v 4)],body:=vb11 }
def vb12 : VCode:=.seq (rg [oX 3 2 1,oJ 4 0]) (.seq (.seq (rg [oM 5 0,oC 6 25 [.t 5,.c (.int .i64 15)],oP 7 6,gF 8 0 3 7 false,gL 9 8 7 false,oG 10 (.len (.t 9)) 7 false,oG 11 (.bin .eql (.t 10) (cI 0)) 7 false,oV 12 (.pick (.t 7) cT (.t 11))]) (.cond (.v 12) (.seq (rg [oM 13 0,oC 14 14 [.t 13,.c (.int .i64 9)],oT 15 (.bin .sub (.t 14) (cI 1)),oN 4 15]) .ret) .skip)) (.seq (.region ⟨[oF 16 0 3,oL 17 16,oM 18 0,oF 19 0 3,oL 20 19,oY 21 20,oC 22 14 [.t 18,.t 21],oA 23 6 17 22,oQ 24 0 23,oL 25 24,oN 4 25],[],[(1,6)]⟩) .ret))
def vf12 : VFunc:={ vs:=[0,1,3,4,12],nparams:=2,rets:=[.tmp (.v 4)],body:=vb12 }
def vb13 : VCode:=.seq (rg [oJ 4 0]) (.seq (rg [oM 5 1,oM 6 0,oM 7 1,oY 8 7,oC 9 14 [.t 6,.t 8],oA 10 1 5 9,oL 11 10,oN 4 11]) .ret)
def vf13 : VFunc:={ vs:=[0,1,4],nparams:=2,rets:=[.tmp (.v 4)],body:=vb13 }
def vb14 : VCode:=.seq (rg [oJ 4 0]) (.seq (.seq (rg [oM 6 0,oT 7 (.nilCheck (.t 6)),oQ 8 1 7,oL 9 8,oM 10 0,oT 11 (.nilCheck (.t 10)),oQ 12 0 11,oL 13 12,oY 14 13,oT 15 (.bin .geq (.t 9) (.t 14)),oP 16 15,gM 17 1 16 false,oG 18 (.bin .lss (.t 17) (cI 1)) 16 false,oV 19 (.pick (.t 16) cT (.t 18))]) (.cond (.v 19) (.seq (rg [oJ 4 0]) .ret) .skip)) (.seq (rg [oM 20 0,oT 21 (.nilCheck (.t 20)),oQ 22 1 21,oL 23 22,oI 24 23,oT 25 (.nilCheck (.t 20)),oQ 26 1 25,oZ (.store 1 (.t 26) (.t 24))]) (.seq (rg [oM 27 0,oT 28 (.nilCheck (.t 27)),oQ 29 0 28,oL 30 29,oM 31 0,oT 32 (.nilCheck (.t 31)),oQ 33 1 32,oL 34 33,oT 35 (.bin .sub (.t 34) (cI 1)),oA 36 1 30 35,oL 37 36,oM 38 1,oT 39 (.bin .rem (.t 37) (.t 38)),oN 5 39]) (.seq (.seq (rg [oM 40 5,oV 41 (.bin .lss (.t 40) (cI 0))]) (.cond (.v 41) (rg [oM 42 5,oM 43 1,oT 44 (.bin .add (.t 42) (.t 43)),oN 5 44]) .skip)) (.seq (rg [oM 45 5,oN 4 45]) .ret)))))
def vf14 : VFunc:={ vs:=[0,1,4,5,19,41],nparams:=2,rets:=[.tmp (.v 4)],body:=vb14 }
def vb15 : VCode:=.seq (rg [oX 7 2 0,oX 8 2 1,oX 11 4 4,oV 14 (.move cF)]) (.seq (rg [oK 26 2 7,oK 27 2 8,oK 28 4 11,oC 29 28 [.t 26,.t 27,.t 28],oP 25 29,oE 30 25 0,oE 31 25 1,oV 15 (.alloc [.nil 4,.c (.int .i64 0)]),oS 2 15 30,oN 16 31]) (.seq (rg [oK 33 2 7,oK 34 2 8,oK 35 4 11,oC 36 27 [.t 33,.t 34,.t 35],oP 32 36,oE 37 32 0,oE 38 32 1,oV 17 (.alloc [.nil 4,.c (.int .i64 0)]),oS 2 17 37,oN 18 38]) (.seq (rg [oK 40 2 7,oK 41 2 8,oM 42 5,oC 43 29 [.t 40,.t 41,.t 42],oP 39 43,oE 44 39 0,oE 45 39 1,oN 19 44,oN 20 45]) (.seq (rg [oK 47 2 7,oK 48 2 8,oM 49 5,oC 50 30 [.t 47,.t 48,.t 49],oP 46 50,oE 51 46 0,oE 52 46 1,oN 21 51,oN 22 52]) (.seq (.seq (.region ⟨[oK 53 2 7,oK 54 2 8,oC 55 31 [.t 53,.t 54],oK 56 2 7,oK 57 2 8,oC 58 32 [.t 56,.t 57],oT 59 (.eqB true (.t 55) (.t 58)),oP 60 59,oG 61 (.load (some 2) (.v 8)) 60 false,oG 62 (.call 34 [.t 61]) 60 false,oG 63 (.field 0 none (.t 62)) 60 false,oG 64 (.load (some 2) (.v 8)) 60 false,oG 65 (.call 35 [.t 64]) 60 false,oG 66 (.field 0 none (.t 65)) 60 false,oG 67 (.call 33 [.t 63,.t 66]) 60 false,oG 68 (.not (.t 67)) 60 false,oO 69 60 68,oP 70 69,oG 71 (.load (some 2) (.v 8)) 70 false,gM 72 5 70 false,oG 73 (.call 36 [.t 71,.t 72]) 70 false,oG 74 (.load (some 2) (.v 8)) 70 false,gM 75 5 70 false,oG 76 (.call 37 [.t 74,.t 75]) 70 false,oG 77 (.eqAgg true [(.int .i64),(.int .i64),(.int .i64),(.int .i64)] (.t 73) (.t 76)) 70 false,oO 78 70 77,oP 79 78,oG 80 (.load (some 2) (.v 15)) 79 false,oG 81 (.load (some 2) (.v 17)) 79 false,oG 82 (.call 38 [.t 80,.t 81]) 79 false,oG 83 (.not (.t 82)) 79 false,oO 84 79 83,oP 85 84,gM 86 16 85 false,gM 87 18 85 false,oG 88 (.bin .neq (.t 86) (.t 87)) 85 false,oO 89 85 88,oP 90 89,gM 91 19 90 false,gM 92 21 90 false,oG 93 (.bin .neq (.t 91) (.t 92)) 90 false,oO 94 90 93,oP 95 94,gM 96 20 95 false,gM 97 22 95 false,oG 98 (.bin .neq (.t 96) (.t 97)) 95 false,oV 99 (.pick (.t 95) cT (.t 98))],[],[(2,3),(2,4),(9,11),(20,21)]⟩) (.cond (.v 99) (.seq (rg [oV 14 (.move cF)]) .ret) .skip)) (.seq (rg [oK 101 2 7,oK 102 2 8,oM 103 3,oM 104 5,oC 105 39 [.t 101,.t 102,.t 103,.t 104],oP 100 105,oE 106 100 0,oE 107 100 1,oN 19 106,oN 20 107]) (.seq (rg [oK 109 2 7,oK 110 2 8,oM 111 3,oM 112 5,oC 113 40 [.t 109,.t 110,.t 111,.t 112],oP 108 113,oE 114 108 0,oE 115 108 1,oN 21 114,oN 22 115]) (.seq (.seq (rg [oM 116 19,oM 117 21,oT 118 (.bin .neq (.t 116) (.t 117)),oP 119 118,gM 120 20 119 false,gM 121 22 119 false,oG 122 (.bin .neq (.t 120) (.t 121)) 119 false,oV 123 (.pick (.t 119) cT (.t 122))]) (.cond (.v 123) (.seq (rg [oV 14 (.move cF)]) .ret) .skip)) (.seq (rg [oK 125 2 7,oK 126 2 8,oM 127 2,oM 128 3,oM 129 5,oM 130 6,oC 131 19 [.t 125,.t 126,.t 127,.t 128,.t 129,.t 130],oP 124 131,oE 132 124 0,oE 133 124 1,oE 134 124 2,oS 2 15 132,oN 23 133,oN 16 134]) (.seq (rg [oK 136 2 7,oK 137 2 8,oM 138 2,oM 139 3,oM 140 5,oM 141 6,oC 142 41 [.t 136,.t 137,.t 138,.t 139,.t 140,.t 141],oP 135 142,oE 143 135 0,oE 144 135 1,oE 145 135 2,oS 2 17 143,oN 24 144,oN 18 145]) (.seq (.seq (rg [oK 146 2 15,oK 147 2 17,oC 148 38 [.t 146,.t 147],oT 149 (.not (.t 148)),oP 150 149,gM 151 23 150 false,gM 152 24 150 false,oG 153 (.call 21 [.t 151,.t 152]) 150 false,oG 154 (.not (.t 153)) 150 false,oO 155 150 154,oP 156 155,gM 157 16 156 false,gM 158 18 156 false,oG 159 (.bin .neq (.t 157) (.t 158)) 156 false,oV 160 (.pick (.t 156) cT (.t 159))]) (.cond (.v 160) (.seq (rg [oV 14 (.move cF)]) .ret) .skip)) (.seq (rg [oK 162 2 7,oK 163 2 8,oM 164 5,oC 165 42 [.t 162,.t 163,.t 164],oP 161 165,oE 166 161 0,oE 167 161 1,oS 2 15 166,oN 16 167]) (.seq (rg [oK 169 2 7,oK 170 2 8,oM 171 5,oC 172 43 [.t 169,.t 170,.t 171],oP 168 172,oE 173 168 0,oE 174 168 1,oS 2 17 173,oN 18 174]) (.seq (rg [oK 175 2 15,oK 176 2 17,oC 177 38 [.t 175,.t 176],oP 178 177,gM 179 16 178 true,gM 180 18 178 true,oG 181 (.bin .eql (.t 179) (.t 180)) 178 true,oB 182 178 181,oN 14 182]) .ret))))))))))))))
def vf15 : VFunc:={ vs:=[0,1,2,3,4,5,6,7,8,11,14,15,16,17,18,19,20,21,22,23,24,99,123,160],nparams:=7,rets:=[.tmp (.v 14)],body:=vb15 }
def vb19 : VCode:=.seq (rg [oX 6 2 0,oX 7 2 1,oV 12 (.alloc [.nil 4,.c (.int .i64 0)]),oV 13 (.newArr 4),oJ 14 0]) (.seq (.seq (rg [oK 27 2 6,oK 28 2 7,oC 29 31 [.t 27,.t 28],oT 30 (.not (.t 29)),oP 31 30,oG 32 (.load (some 2) (.v 6)) 31 false,gM 33 2 31 false,oG 34 (.call 63 [.t 32,.t 33]) 31 false,oG 35 (.not (.t 34)) 31 false,oO 36 31 35,oP 37 36,oG 38 (.load (some 2) (.v 6)) 37 false,gM 39 3 37 false,oG 40 (.call 64 [.t 38,.t 39]) 37 false,oG 41 (.not (.t 40)) 37 false,oV 42 (.pick (.t 37) cT (.t 41))]) (.cond (.v 42) (.seq (rg [oT 43 (.build [.z (.nil 4),.z (.c (.int .i64 0))]),oS 2 12 43,oV 13 (.newArr 4),oJ 14 1]) .ret) .skip)) (.seq (.seq (rg [oK 44 2 6,oK 45 2 7,oM 46 4,oC 47 65 [.t 44,.t 45,.t 46],oN 15 47]) (.seq (rg [oM 48 15,oV 49 (.bin .neq (.t 48) (cI 0))]) (.cond (.v 49) (.seq (rg [oT 50 (.build [.z (.nil 4),.z (.c (.int .i64 0))]),oM 51 15,oS 2 12 50,oV 13 (.newArr 4),oN 14 51]) .ret) .skip))) (.seq (.seq (rg [oM 52 5,oC 53 66 [.t 52],oV 54 (.not (.t 53))]) (.cond (.v 54) (.seq (rg [oT 55 (.build [.z (.nil 4),.z (.c (.int .i64 0))]),oS 2 12 55,oV 13 (.newArr 4),oJ 14 3]) .ret) .skip)) (.seq (.region ⟨[oK 56 2 6,oF 57 0 7,oL 58 57,oT 59 (.appendNil 4 32 (.t 58)),oF 60 1 7,oL 61 60,oT 62 (.build [.a (.t 59) 0 1,.a (.t 61) 0 1]),oM 63 3,oT 64 (.makeMap (.int .i64)),oT 65 (.build [.a (.t 56) 0 2,.a (.t 56) 1 2,.a (.t 62) 0 2,.a (.t 62) 1 2,.a (.t 63) 0 1,.z (.nil 3),.a (.t 64) 0 1]),oT 66 (.box 7 (.t 65)),oN 16 66],[],[(0,3),(3,5),(0,6),(0,8),(2,8),(3,8),(5,8),(6,8)]⟩) (.seq (.region ⟨[oM 68 16,oK 69 2 6,oK 70 2 7,oC 71 34 [.t 70],oM 72 2,oM 73 4,oC 74 67 [.t 69,.t 71,.t 72,.t 73],oP 67 74,oE 75 67 0,oE 76 67 1,oT 77 (.nilCheck (.t 68)),oQ 78 5 77,oZ (.store 1 (.t 78) (.t 75))],[],[(1,3)]⟩) (.seq (.seq (rg [oT 79 (.build [.a (.c (.fn 68)) 0 1,.a (.c (.fn 69)) 0 1,.a cF 0 1,.a cF 0 1]),oT 80 (.build [.a (.c (.fn 70)) 0 1,.a (.c (.fn 69)) 0 1,.a cT 0 1,.a cF 0 1]),oT 81 (.build [.a (.c (.fn 68)) 0 1,.a (.c (.fn 71)) 0 1,.a cF 0 1,.a cT 0 1]),oT 82 (.build [.a (.c (.fn 70)) 0 1,.a (.c (.fn 71)) 0 1,.a cT 0 1,.a cT 0 1]),oV 83 (.buildArr 4 [.t 79,.t 80,.t 81,.t 82]),oJ 84 0]) (.block 0 (.loop (.seq (.region ⟨[oV 85 (.bin .lss (.v 84) (cI 4))],[18,91,94],[]⟩) (.seq (.cond (.v 85) .skip (.exit 0)) (.seq (.block 1 (.seq (rg [oT 86 (.indexArr 4 4 (some 4) (.v 83) (.v 84)),oV 18 (.alloc [.c (.nilp),.c (.nilp),.c (.bool false),.c (.bool false)]),oS 4 18 86]) (.seq (.region ⟨[oK 88 2 6,oM 89 16,oK 90 4 18,oT 91 (.callW 73 [.t 89,.t 90]),oM 92 4,oM 93 5,oC 94 72 [.t 88,.t 91,.t 92,.t 93],oP 87 94,oE 95 87 0,oE 96 87 1,oN 19 95,oP 20 96],[],[(0,3)]⟩) (.seq (rg [oV 97 (.move (.v 19)),oV 98 (.len (.v 97)),oJ 99 0]) (.block 2 (.loop (.seq (rg [oV 100 (.bin .lss (.v 99) (.v 98))]) (.seq (.cond (.v 100) .skip (.exit 2)) (.seq (.block 3 (.seq (rg [oT 101 (.indexAddr 2 (.v 97) (.v 99)),oR 102 2 101,oV 22 (.alloc [.c (.int .i64 0),.c (.int .i64 0)]),oS 2 22 102]) (.seq (rg [oM 103 16,oK 104 4 18,oF 105 0 22,oL 106 105,oF 107 1 22,oL 108 107,oT 109 (.callW 74 [.t 103,.t 104,.t 106,.t 108])]) (.mv (.slot 109 1003) (.slot 59 0) (rg [oM 110 5,oF 111 1 22,oL 112 111,oT 113 (.bin .sub (.t 110) (.t 112)),oN 5 113]))))) (rg [oT 114 (.bin .add (.v 99) (cI 1)),oN 99 114])))))))))) (rg [oT 115 (.bin .add (.v 84) (cI 1)),oN 84 115]))))))) (.seq (rg [oV 23 (.newArr 4)]) (.seq (.seq (rg [oM 116 16,oT 117 (.nilCheck (.t 116)),oQ 118 5 117,oV 119 (.load none (.t 118)),oV 120 (.len (.v 119)),oJ 121 0]) (.block 4 (.loop (.seq (rg [oV 122 (.bin .lss (.v 121) (.v 120))]) (.seq (.cond (.v 122) .skip (.exit 4)) (.seq (.block 5 (.seq (rg [oT 123 (.indexAddr 3 (.v 119) (.v 121)),oR 124 3 123,oV 25 (.alloc [.c (.int .i64 0),.c (.int .i64 0),.c (.int .i64 0)]),oS 3 25 124]) (.seq (.region ⟨[oM 125 16,oT 126 (.nilCheck (.t 125)),oQ 127 6 126,oL 128 127,oF 129 0 25,oL 130 129,oT 131 (.lookup false (.int .i64) (.agg [.int .i64 0,.int .i64 0,.int .i64 0,.int .i64 0]) (.t 128) (.t 130)),oV 26 (.alloc [.c (.int .i64 0),.c (.int .i64 0),.c (.int .i64 0),.c (.int .i64 0)]),oS 4 26 131],[],[(3,7),(5,7),(6,7)]⟩) (.seq (rg [oF 132 0 26,oL 133 132,oV 134 (.bin .neq (.t 133) (cI 0))]) (.cond (.v 134) (rg [oM 135 23,oK 136 4 26,oT 137 (.buildSlice 4 [.t 136]),oT 138 (.append 4 32 (.t 135) (.t 137)),oN 23 138]) .skip))))) (rg [oT 139 (.bin .add (.v 121) (cI 1)),oN 121 139]))))))) (.seq (rg [oM 140 16,oT 141 (.nilCheck (.t 140)),oQ 142 2 141,oR 143 2 142,oM 144 23,oS 2 12 143,oN 13 144,oJ 14 0]) .ret)))))))))
def vf19 : VFunc:={ vs:=[0,1,2,3,4,5,6,7,12,13,14,15,16,18,19,22,23,25,26,42,49,54,83,84,85,97,98,99,100,119,120,121,122,134],nparams:=6,rets:=[.cell (.v 12) (some 2),.tmp (.v 13),.tmp (.v 14)],body:=vb19 }
def vb20 : VCode:=.seq (rg [oV 4 (.move cF)]) (.seq (.seq (rg [oM 6 0,oY 7 6,oM 8 1,oY 9 8,oV 10 (.bin .neq (.t 7) (.t 9))]) (.cond (.v 10) (.seq (rg [oV 4 (.move cF)]) .ret) .skip)) (.seq (.seq (rg [oJ 5 0]) (.block 0 (.loop (.seq (.seq (rg [oM 11 5,oM 12 0,oY 13 12,oU 14 11 13]) (.cond (.v 14) .skip (.exit 0))) (.seq (.block 1 (.seq (rg [oM 17 0,oM 18 5,oA 19 4 17 18,oR 20 4 19,oM 21 1,oM 22 5,oA 23 4 21 22,oR 24 4 23,oV 25 (.eqAgg true [(.int .i64),(.int .i64),(.int .i64),(.int .i64)] (.t 20) (.t 24))]) (.cond (.v 25) (.seq (rg [oV 4 (.move cF)]) .ret) .skip))) (rg [oM 15 5,oI 16 15,oN 5 16])))))) (.seq (rg [oV 4 (.move cT)]) .ret)))
def vf20 : VFunc:={ vs:=[0,1,4,5,10,14,25],nparams:=2,rets:=[.tmp (.v 4)],body:=vb20 }
def vb21 : VCode:=.seq (rg [oV 4 (.move cF)]) (.seq (.seq (rg [oM 6 0,oY 7 6,oM 8 1,oY 9 8,oV 10 (.bin .neq (.t 7) (.t 9))]) (.cond (.v 10) (.seq (rg [oV 4 (.move cF)]) .ret) .skip)) (.seq (.seq (rg [oJ 5 0]) (.block 0 (.loop (.seq (.seq (rg [oM 11 5,oM 12 0,oY 13 12,oU 14 11 13]) (.cond (.v 14) .skip (.exit 0))) (.seq (.block 1 (.seq (rg [oM 17 0,oM 18 5,oA 19 4 17 18,oR 20 4 19,oM 21 1,oM 22 5,oA 23 4 21 22,oR 24 4 23,oV 25 (.eqAgg true [(.int .i64),(.int .i64),(.int .i64),(.int .i64)] (.t 20) (.t 24))]) (.cond (.v 25) (.seq (rg [oV 4 (.move cF)]) .ret) .skip))) (rg [oM 15 5,oI 16 15,oN 5 16])))))) (.seq (rg [oV 4 (.move cT)]) .ret)))
def vf21 : VFunc:={ vs:=[0,1,4,5,10,14,25],nparams:=2,rets:=[.tmp (.v 4)],body:=vb21 }
def vb22 : VCode:=.seq (rg [oV 0 (.alloc [.nil 6,.c (.int .i64 0)])]) (.seq (rg [oT 1 (.build [.a (cI 1) 0 1,.z (.c (.int .i64 0)),.z (.c (.str ⟨#[]⟩)),.z (.c (.int .i64 0)),.z (.c (.int .i64 0)),.z (.c (.int .i64 0))]),oT 2 (.buildSlice 6 [.t 1]),oT 3 (.build [.a (.t 2) 0 1,.a (cI 2) 0 1]),oS 2 0 3]) .ret)
def vf22 : VFunc:={ vs:=[0],nparams:=0,rets:=[.cell (.v 0) (some 2)],body:=vb22 }
def vb23 : VCode:=.seq (rg [oX 3 2 0,oV 6 (.alloc [.nil 6,.c (.int .i64 0)]),oJ 7 0,oJ 8 0]) (.seq (.seq (rg [oK 11 2 3,oC 12 75 [.t 11],oT 13 (.not (.t 12)),oP 14 13,gM 15 2 14 false,oG 16 (.call 76 [.t 15]) 14 false,oG 17 (.not (.t 16)) 14 false,oV 18 (.pick (.t 14) cT (.t 17))]) (.cond (.v 18) (.seq (rg [oT 19 (.build [.z (.nil 6),.z (.c (.int .i64 0))]),oS 2 6 19,oJ 7 0,oJ 8 1]) .ret) .skip)) (.seq (.seq (rg [oK 20 2 3,oM 21 1,oC 22 77 [.t 20,.t 21],oV 23 (.not (.t 22))]) (.cond (.v 23) (.seq (rg [oT 24 (.build [.z (.nil 6),.z (.c (.int .i64 0))]),oS 2 6 24,oJ 7 0,oJ 8 4]) .ret) .skip)) (.seq (.seq (rg [oJ 9 0]) (.block 0 (.loop (.seq (.seq (.region ⟨[oM 25 9,oF 26 0 3,oL 27 26,oY 28 27,oU 29 25 28],[50],[]⟩) (.cond (.v 29) .skip (.exit 0))) (.seq (.block 1 (.seq (rg [oF 32 0 3,oL 33 32,oM 34 9,oA 35 6 33 34,oQ 36 1 35,oL 37 36,oM 38 1,oT 39 (.bin .eql (.t 37) (.t 38)),oP 40 39,gF 41 0 3 40 true,gL 42 41 40 true,gM 43 9 40 true,oG 44 (.indexAddr 6 (.t 42) (.t 43)) 40 true,oG 45 (.fieldAddr 2 (.t 44)) 40 true,gL 46 45 40 true,gM 47 2 40 true,oG 48 (.bin .eql (.t 46) (.t 47)) 40 true,oV 49 (.pick (.t 40) (.t 48) cF)]) (.cond (.v 49) (.seq (rg [oT 50 (.build [.z (.nil 6),.z (.c (.int .i64 0))]),oS 2 6 50,oJ 7 0,oJ 8 5]) .ret) .skip))) (rg [oM 30 9,oI 31 30,oN 9 31])))))) (.seq (.seq (rg [oK 51 2 3,oM 52 1,oC 53 78 [.t 51,.t 52],oT 54 (.bin .geq (.t 53) (cI 8)),oP 55 54,gF 56 0 3 55 false,gL 57 56 55 false,oG 58 (.len (.t 57)) 55 false,oG 59 (.bin .geq (.t 58) (cI 64)) 55 false,oO 60 55 59,oP 61 60,gF 62 1 3 61 false,gL 63 62 61 false,oG 64 (.bin .gtr (.t 63) (cI 2147483647)) 61 false,oV 65 (.pick (.t 61) cT (.t 64))]) (.cond (.v 65) (.seq (rg [oT 66 (.build [.z (.nil 6),.z (.c (.int .i64 0))]),oS 2 6 66,oJ 7 0,oJ 8 7]) .ret) .skip)) (.seq (rg [oK 67 2 3,oC 68 79 [.t 67],oV 10 (.alloc [.nil 6,.c (.int .i64 0)]),oS 2 10 68]) (.seq (rg [oF 69 0 10,oL 70 69,oF 71 1 3,oL 72 71,oM 73 1,oM 74 2,oT 75 (.build [.a (.t 72) 0 1,.a (.t 73) 0 1,.a (.t 74) 0 1,.z (.c (.int .i64 0)),.z (.c (.int .i64 0)),.z (.c (.int .i64 0))]),oT 76 (.buildSlice 6 [.t 75]),oT 77 (.append 6 56 (.t 70) (.t 76)),oF 78 0 10,oZ (.store 1 (.t 78) (.t 77))]) (.seq (rg [oF 79 1 10,oL 80 79,oI 81 80,oF 82 1 10,oZ (.store 1 (.t 82) (.t 81))]) (.seq (.region ⟨[oK 83 2 10,oF 84 1 3,oL 85 84,oS 2 6 83,oN 7 85,oJ 8 0],[],[(2,3)]⟩) .ret))))))))
def vf23 : VFunc:={ vs:=[0,1,2,3,6,7,8,9,10,18,23,29,49,65],nparams:=3,rets:=[.cell (.v 6) (some 2),.tmp (.v 7),.tmp (.v 8)],body:=vb23 }
def vb24 : VCode:=.seq (rg [oV 2 (.move (.c (.str ⟨#[]⟩)))]) (.seq (rg [oT 3 (.buildSlice 1 [.c (.str ⟨#[97]⟩),.c (.str ⟨#[98]⟩),.c (.str ⟨#[99]⟩),.c (.str ⟨#[119,101,98]⟩),.c (.str ⟨#[100,98,45,49]⟩),.c (.str ⟨#[88,95,57]⟩)]),oM 4 0,oC 5 14 [.t 4,.c (.int .i64 6)],oA 6 1 3 5,oL 7 6,oN 2 7]) .ret)
def vf24 : VFunc:={ vs:=[0,2],nparams:=1,rets:=[.tmp (.v 2)],body:=vb24 }
def vb25 : VCode:=.seq (rg [oV 4 (.move cF)]) (.seq (rg [oM 5 0,oM 6 1,oC 7 14 [.t 5,.t 6],oM 8 1,oT 9 (.bin .sub (.t 8) (cI 1)),oT 10 (.bin .eql (.t 7) (.t 9)),oN 4 10]) .ret)
def vf25 : VFunc:={ vs:=[0,1,4],nparams:=2,rets:=[.tmp (.v 4)],body:=vb25 }
def vb26 : VCode:=.seq (rg [oX 2 2 0,oV 4 (.alloc [.nil 6,.c (.int .i64 0)]),oJ 5 0]) (.seq (.block 0 (.seq (rg [oK 9 2 2,oC 10 75 [.t 9],oT 11 (.not (.t 10)),oN 8 11]) (.cond (.v 8) (.seq (rg [oT 12 (.build [.z (.nil 6),.z (.c (.int .i64 0))]),oS 2 4 12,oJ 5 1]) .ret) (.seq (rg [oK 14 2 2,oM 15 1,oC 16 77 [.t 14,.t 15],oT 17 (.not (.t 16)),oN 13 17]) (.cond (.v 13) (.seq (rg [oT 18 (.build [.z (.nil 6),.z (.c (.int .i64 0))]),oS 2 4 18,oJ 5 4]) .ret) (.seq (rg [oM 20 1,oT 21 (.bin .eql (.t 20) (cI 1)),oN 19 21]) (.cond (.v 19) (.seq (rg [oT 22 (.build [.z (.nil 6),.z (.c (.int .i64 0))]),oS 2 4 22,oJ 5 9]) .ret) (.seq (rg [oK 24 2 2,oM 25 1,oC 26 80 [.t 24,.t 25],oY 27 26,oT 28 (.bin .gtr (.t 27) (cI 0)),oN 23 28]) (.cond (.v 23) (.seq (rg [oT 29 (.build [.z (.nil 6),.z (.c (.int .i64 0))]),oS 2 4 29,oJ 5 6]) .ret) .skip))))))))) (.seq (rg [oF 30 1 2,oL 31 30,oT 32 (.build [.z (.nil 6),.a (.t 31) 0 1]),oV 6 (.alloc [.nil 6,.c (.int .i64 0)]),oS 2 6 32]) (.seq (.seq (rg [oJ 7 0]) (.block 1 (.loop (.seq (.seq (rg [oM 33 7,oF 34 0 2,oL 35 34,oY 36 35,oU 37 33 36]) (.cond (.v 37) .skip (.exit 1))) (.seq (.block 2 (.seq (rg [oF 40 0 2,oL 41 40,oM 42 7,oA 43 6 41 42,oQ 44 0 43,oL 45 44,oM 46 1,oV 47 (.bin .neq (.t 45) (.t 46))]) (.cond (.v 47) (.region ⟨[oF 48 0 6,oL 49 48,oF 50 0 2,oL 51 50,oM 52 7,oA 53 6 51 52,oR 54 6 53,oT 55 (.buildSlice 6 [.t 54]),oT 56 (.append 6 56 (.t 49) (.t 55)),oF 57 0 6,oZ (.store 1 (.t 57) (.t 56))],[],[(1,7)]⟩) .skip))) (rg [oM 38 7,oI 39 38,oN 7 39])))))) (.seq (rg [oK 58 2 6,oS 2 4 58,oJ 5 0]) .ret))))
def vf26 : VFunc:={ vs:=[0,1,2,4,5,6,7,8,13,19,23,37,47],nparams:=2,rets:=[.cell (.v 4) (some 2),.tmp (.v 5)],body:=vb26 }
def vb27 : VCode:=.seq (rg [oX 3 2 0,oX 4 2 1,oX 5 4 2,oV 6 (.alloc [.nil 4,.c (.int .i64 0)]),oJ 7 0]) (.seq (.block 0 (.seq (rg [oK 10 2 3,oK 11 2 4,oC 12 32 [.t 10,.t 11],oT 13 (.not (.t 12)),oN 9 13]) (.cond (.v 9) (.seq (rg [oT 14 (.build [.z (.nil 4),.z (.c (.int .i64 0))]),oS 2 6 14,oJ 7 1]) .ret) (.seq (rg [oK 16 2 3,oF 17 0 5,oL 18 17,oC 19 77 [.t 16,.t 18],oT 20 (.not (.t 19)),oN 15 20]) (.cond (.v 15) (.seq (rg [oT 21 (.build [.z (.nil 4),.z (.c (.int .i64 0))]),oS 2 6 21,oJ 7 4]) .ret) (.seq (rg [oK 23 4 5,oC 24 81 [.t 23],oT 25 (.not (.t 24)),oN 22 25]) (.cond (.v 22) (.seq (rg [oT 26 (.build [.z (.nil 4),.z (.c (.int .i64 0))]),oS 2 6 26,oJ 7 3]) .ret) .skip))))))) (.seq (rg [oK 27 2 4,oK 28 4 5,oC 29 82 [.t 27,.t 28],oV 8 (.alloc [.nil 4,.c (.int .i64 0)]),oS 2 8 29]) (.seq (.seq (rg [oK 30 2 3,oK 31 2 8,oC 32 32 [.t 30,.t 31],oV 33 (.not (.t 32))]) (.cond (.v 33) (.seq (rg [oT 34 (.build [.z (.nil 4),.z (.c (.int .i64 0))]),oS 2 6 34,oJ 7 7]) .ret) .skip)) (.seq (rg [oK 35 2 8,oS 2 6 35,oJ 7 0]) .ret))))
def vf27 : VFunc:={ vs:=[0,1,2,3,4,5,6,7,8,9,15,22,33],nparams:=3,rets:=[.cell (.v 6) (some 2),.tmp (.v 7)],body:=vb27 }
def vb28 : VCode:=.seq (rg [oX 3 2 0,oX 4 2 1,oX 5 4 2,oV 6 (.alloc [.nil 4,.c (.int .i64 0)]),oJ 7 0]) (.seq (.seq (rg [oK 10 2 3,oK 11 2 4,oF 12 0 5,oL 13 12,oC 14 65 [.t 10,.t 11,.t 13],oN 8 14]) (.seq (rg [oM 15 8,oV 16 (.bin .neq (.t 15) (cI 0))]) (.cond (.v 16) (.seq (rg [oT 17 (.build [.z (.nil 4),.z (.c (.int .i64 0))]),oM 18 8,oS 2 6 17,oN 7 18]) .ret) .skip))) (.seq (.seq (rg [oF 19 1 5,oL 20 19,oC 21 66 [.t 20],oT 22 (.not (.t 21)),oP 23 22,gF 24 2 5 23 false,gL 25 24 23 false,oG 26 (.call 66 [.t 25]) 23 false,oG 27 (.not (.t 26)) 23 false,oO 28 23 27,oP 29 28,gF 30 3 5 29 false,gL 31 30 29 false,oG 32 (.call 66 [.t 31]) 29 false,oG 33 (.not (.t 32)) 29 false,oV 34 (.pick (.t 29) cT (.t 33))]) (.cond (.v 34) (.seq (rg [oT 35 (.build [.z (.nil 4),.z (.c (.int .i64 0))]),oS 2 6 35,oJ 7 3]) .ret) .skip)) (.seq (rg [oK 36 2 4,oK 37 4 5,oC 38 83 [.t 36,.t 37],oV 9 (.alloc [.nil 4,.c (.int .i64 0)]),oS 2 9 38]) (.seq (.seq (rg [oK 39 2 3,oK 40 2 9,oC 41 31 [.t 39,.t 40],oV 42 (.not (.t 41))]) (.cond (.v 42) (.seq (rg [oT 43 (.build [.z (.nil 4),.z (.c (.int .i64 0))]),oS 2 6 43,oJ 7 7]) .ret) .skip)) (.seq (rg [oK 44 2 9,oS 2 6 44,oJ 7 0]) .ret)))))
def vf28 : VFunc:={ vs:=[0,1,2,3,4,5,6,7,8,9,16,34,42],nparams:=3,rets:=[.cell (.v 6) (some 2),.tmp (.v 7)],body:=vb28 }
def vb29 : VCode:=.seq (rg [oX 3 2 0,oX 4 2 1,oJ 6 0,oJ 7 0]) (.seq (.seq (rg [oK 9 2 3,oK 10 2 4,oM 11 2,oC 12 65 [.t 9,.t 10,.t 11],oN 8 12]) (.seq (rg [oM 13 8,oV 14 (.bin .neq (.t 13) (cI 0))]) (.cond (.v 14) (.seq (rg [oM 15 8,oJ 6 0,oN 7 15]) .ret) .skip))) (.seq (rg [oK 16 2 3,oK 17 2 4,oM 18 2,oC 19 84 [.t 16,.t 17,.t 18],oN 6 19,oJ 7 0]) .ret))
def vf29 : VFunc:={ vs:=[0,1,2,3,4,6,7,8,14],nparams:=3,rets:=[.tmp (.v 6),.tmp (.v 7)],body:=vb29 }
def vb30 : VCode:=.seq (rg [oX 3 2 0,oX 4 2 1,oJ 6 0,oJ 7 0]) (.seq (.seq (rg [oK 8 2 3,oK 9 2 4,oC 10 32 [.t 8,.t 9],oV 11 (.not (.t 10))]) (.cond (.v 11) (.seq (rg [oJ 6 0,oJ 7 1]) .ret) .skip)) (.seq (.seq (rg [oK 12 2 3,oM 13 2,oC 14 77 [.t 12,.t 13],oV 15 (.not (.t 14))]) (.cond (.v 15) (.seq (rg [oJ 6 0,oJ 7 4]) .ret) .skip)) (.seq (rg [oK 16 2 3,oK 17 2 4,oM 18 2,oC 19 85 [.t 16,.t 17,.t 18],oN 6 19,oJ 7 0]) .ret)))
def vf30 : VFunc:={ vs:=[0,1,2,3,4,6,7,11,15],nparams:=3,rets:=[.tmp (.v 6),.tmp (.v 7)],body:=vb30 }
def vb31 : VCode:=.seq (rg [oX 2 2 0,oX 3 2 1,oV 4 (.move cF)]) (.seq (.seq (rg [oK 11 2 2,oC 12 86 [.t 11],oT 13 (.not (.t 12)),oP 14 13,gF 15 1 3 14 false,gL 16 15 14 false,oG 17 (.call 66 [.t 16]) 14 false,oG 18 (.not (.t 17)) 14 false,oV 19 (.pick (.t 14) cT (.t 18))]) (.cond (.v 19) (.seq (rg [oV 4 (.move cF)]) .ret) .skip)) (.seq (rg [oJ 5 0,oJ 6 0]) (.seq (.seq (rg [oF 20 0 3,oV 21 (.load none (.t 20)),oV 22 (.len (.v 21)),oJ 23 0]) (.block 0 (.loop (.seq (rg [oV 24 (.bin .lss (.v 23) (.v 22))]) (.seq (.cond (.v 24) .skip (.exit 0)) (.seq (.block 1 (.seq (rg [oM 25 23,oT 26 (.indexAddr 4 (.v 21) (.v 23)),oR 27 4 26,oV 8 (.alloc [.c (.int .i64 0),.c (.int .i64 0),.c (.int .i64 0),.c (.int .i64 0)]),oN 7 25,oS 4 8 27]) (.seq (.seq (rg [oK 29 2 2,oF 30 0 8,oL 31 30,oC 32 87 [.t 29,.t 31],oP 28 32,oE 33 28 0,oE 34 28 1,oT 9 (.alloc [.c (.int .i64 0),.c (.int .i64 0),.c (.str ⟨#[]⟩),.c (.int .i64 0),.c (.int .i64 0),.c (.int .i64 0)]),oZ (.store 6 (.t 9) (.t 33)),oN 10 34]) (.seq (rg [oM 35 10,oT 36 (.not (.t 35)),oP 37 36,gM 38 7 37 false,oG 39 (.bin .gtr (.t 38) (cI 0)) 37 false,oG 40 (.move (.t 39)) 37 false,gF 41 0 8 40 true,gL 42 41 40 true,gF 43 0 3 40 true,gL 44 43 40 true,gM 45 7 40 true,oG 46 (.bin .sub (.t 45) (cI 1)) 40 true,oG 47 (.indexAddr 4 (.t 44) (.t 46)) 40 true,oG 48 (.fieldAddr 0 (.t 47)) 40 true,gL 49 48 40 true,oG 50 (.bin .leq (.t 42) (.t 49)) 40 true,oG 51 (.pick (.t 40) (.t 50) cF) 37 false,oO 52 37 51,oP 53 52,gF 54 1 8 53 false,gL 55 54 53 false,oG 56 (.call 66 [.t 55]) 53 false,oG 57 (.not (.t 56)) 53 false,oO 58 53 57,oP 59 58,gF 60 2 8 59 false,gL 61 60 59 false,oG 62 (.call 66 [.t 61]) 59 false,oG 63 (.not (.t 62)) 59 false,oO 64 59 63,oP 65 64,gF 66 3 8 65 false,gL 67 66 65 false,oG 68 (.call 66 [.t 67]) 65 false,oG 69 (.not (.t 68)) 65 false,oO 70 65 69,oP 71 70,gF 72 1 8 71 false,gL 73 72 71 false,gF 74 2 8 71 false,gL 75 74 71 false,oG 76 (.bin .add (.t 73) (.t 75)) 71 false,gF 77 3 8 71 false,gL 78 77 71 false,oG 79 (.bin .add (.t 76) (.t 78)) 71 false,oG 80 (.bin .eql (.t 79) (cI 0)) 71 false,oV 81 (.pick (.t 71) cT (.t 80))]) (.cond (.v 81) (.seq (rg [oV 4 (.move cF)]) .ret) .skip))) (.seq (rg [oM 82 5,oF 83 1 8,oL 84 83,oF 85 2 8,oL 86 85,oT 87 (.bin .add (.t 84) (.t 86)),oT 88 (.bin .add (.t 82) (.t 87)),oN 5 88]) (.seq (rg [oM 89 6,oF 90 3 8,oL 91 90,oT 92 (.bin .add (.t 89) (.t 91)),oN 6 92]) (.seq (rg [oM 93 5,oT 94 (.bin .gtr (.t 93) (cI 16777216)),oP 95 94,gM 96 6 95 false,gF 97 1 3 95 false,gL 98 97 95 false,oG 99 (.bin .gtr (.t 96) (.t 98)) 95 false,oV 100 (.pick (.t 95) cT (.t 99))]) (.cond (.v 100) (.seq (rg [oV 4 (.move cF)]) .ret) .skip))))))) (rg [oT 101 (.bin .add (.v 23) (cI 1)),oN 23 101]))))))) (.seq (rg [oV 4 (.move cT)]) .ret))))
def vf31 : VFunc:={ vs:=[0,1,2,3,4,5,6,7,8,10,19,21,22,23,24,81,100],nparams:=2,rets:=[.tmp (.v 4)],body:=vb31 }
def vb32 : VCode:=.seq (rg [oX 2 2 0,oX 3 2 1,oV 4 (.move cF)]) (.seq (.seq (rg [oK 9 2 2,oC 10 75 [.t 9],oT 11 (.not (.t 10)),oP 12 11,gF 13 1 3 12 false,gL 14 13 12 false,oG 15 (.bin .lss (.t 14) (cI 0)) 12 false,oO 16 12 15,oP 17 16,gF 18 1 3 17 false,gL 19 18 17 false,oG 20 (.bin .gtr (.t 19) (cI 16777216)) 17 false,oV 21 (.pick (.t 17) cT (.t 20))]) (.cond (.v 21) (.seq (rg [oV 4 (.move cF)]) .ret) .skip)) (.seq (rg [oJ 5 0,oJ 6 0]) (.seq (.seq (rg [oJ 7 0]) (.block 0 (.loop (.seq (.seq (rg [oM 22 7,oF 23 0 3,oL 24 23,oY 25 24,oU 26 22 25]) (.cond (.v 26) .skip (.exit 0))) (.seq (.block 1 (.seq (rg [oF 29 0 3,oL 30 29,oM 31 7,oA 32 4 30 31,oR 33 4 32,oV 8 (.alloc [.c (.int .i64 0),.c (.int .i64 0),.c (.int .i64 0),.c (.int .i64 0)]),oS 4 8 33]) (.seq (.seq (rg [oK 34 2 2,oF 35 0 8,oL 36 35,oC 37 77 [.t 34,.t 36],oT 38 (.not (.t 37)),oP 39 38,gM 40 7 39 false,oG 41 (.bin .gtr (.t 40) (cI 0)) 39 false,oG 42 (.move (.t 41)) 39 false,gF 43 0 8 42 true,gL 44 43 42 true,gF 45 0 3 42 true,gL 46 45 42 true,gM 47 7 42 true,oG 48 (.bin .sub (.t 47) (cI 1)) 42 true,oG 49 (.indexAddr 4 (.t 46) (.t 48)) 42 true,oG 50 (.fieldAddr 0 (.t 49)) 42 true,gL 51 50 42 true,oG 52 (.bin .leq (.t 44) (.t 51)) 42 true,oG 53 (.pick (.t 42) (.t 52) cF) 39 false,oO 54 39 53,oP 55 54,oG 56 (.load (some 4) (.v 8)) 55 false,oG 57 (.call 81 [.t 56]) 55 false,oG 58 (.not (.t 57)) 55 false,oO 59 55 58,oP 60 59,gF 61 1 8 60 false,gL 62 61 60 false,gF 63 2 8 60 false,gL 64 63 60 false,oG 65 (.bin .add (.t 62) (.t 64)) 60 false,gF 66 3 8 60 false,gL 67 66 60 false,oG 68 (.bin .add (.t 65) (.t 67)) 60 false,oG 69 (.bin .eql (.t 68) (cI 0)) 60 false,oV 70 (.pick (.t 60) cT (.t 69))]) (.cond (.v 70) (.seq (rg [oV 4 (.move cF)]) .ret) .skip)) (rg [oM 71 5,oF 72 1 8,oL 73 72,oT 74 (.bin .add (.t 71) (.t 73)),oF 75 2 8,oL 76 75,oT 77 (.bin .add (.t 74) (.t 76)),oM 78 6,oF 79 3 8,oL 80 79,oT 81 (.bin .add (.t 78) (.t 80)),oN 5 77,oN 6 81])))) (rg [oM 27 7,oI 28 27,oN 7 28])))))) (.seq (rg [oM 82 5,oT 83 (.bin .leq (.t 82) (cI 16777216)),oP 84 83,gM 85 6 84 true,gF 86 1 3 84 true,gL 87 86 84 true,oG 88 (.bin .leq (.t 85) (.t 87)) 84 true,oB 89 84 88,oN 4 89]) .ret))))
def vf32 : VFunc:={ vs:=[0,1,2,3,4,5,6,7,8,21,26,70],nparams:=2,rets:=[.tmp (.v 4)],body:=vb32 }
def vb33 : VCode:=.seq (rg [oV 4 (.move cF)]) (.seq (.seq (rg [oM 6 0,oY 7 6,oM 8 1,oY 9 8,oV 10 (.bin .neq (.t 7) (.t 9))]) (.cond (.v 10) (.seq (rg [oV 4 (.move cF)]) .ret) .skip)) (.seq (.seq (rg [oJ 5 0]) (.block 0 (.loop (.seq (.seq (rg [oM 11 5,oM 12 0,oY 13 12,oU 14 11 13]) (.cond (.v 14) .skip (.exit 0))) (.seq (.block 1 (.seq (rg [oM 17 0,oM 18 5,oA 19 2 17 18,oR 20 2 19,oM 21 1,oM 22 5,oA 23 2 21 22,oR 24 2 23,oV 25 (.eqAgg true [(.int .i64),(.int .i64)] (.t 20) (.t 24))]) (.cond (.v 25) (.seq (rg [oV 4 (.move cF)]) .ret) .skip))) (rg [oM 15 5,oI 16 15,oN 5 16])))))) (.seq (rg [oV 4 (.move cT)]) .ret)))
def vf33 : VFunc:={ vs:=[0,1,4,5,10,14,25],nparams:=2,rets:=[.tmp (.v 4)],body:=vb33 }
def vb34 : VCode:=.seq (rg [oX 1 2 0,oV 2 (.alloc [.nil 2])]) (.seq (rg [oV 3 (.alloc [.nil 2])]) (.seq (.seq (rg [oF 7 0 1,oV 8 (.load none (.t 7)),oV 9 (.len (.v 8)),oJ 10 0]) (.block 0 (.loop (.seq (rg [oV 11 (.bin .lss (.v 10) (.v 9))]) (.seq (.cond (.v 11) .skip (.exit 0)) (.seq (.block 1 (.seq (rg [oT 12 (.indexAddr 4 (.v 8) (.v 10)),oR 13 4 12,oV 5 (.alloc [.c (.int .i64 0),.c (.int .i64 0),.c (.int .i64 0),.c (.int .i64 0)]),oS 4 5 13]) (.seq (rg [oF 14 1 5,oL 15 14,oF 16 2 5,oL 17 16,oT 18 (.bin .add (.t 15) (.t 17)),oN 6 18]) (.seq (rg [oM 19 6,oV 20 (.bin .neq (.t 19) (cI 0))]) (.cond (.v 20) (rg [oF 21 0 3,oL 22 21,oF 23 0 5,oL 24 23,oM 25 6,oT 26 (.build [.a (.t 24) 0 1,.a (.t 25) 0 1]),oT 27 (.buildSlice 2 [.t 26]),oT 28 (.append 2 16 (.t 22) (.t 27)),oF 29 0 3,oZ (.store 1 (.t 29) (.t 28))]) .skip))))) (rg [oT 30 (.bin .add (.v 10) (cI 1)),oN 10 30]))))))) (.seq (rg [oK 31 1 3,oS 1 2 31]) .ret)))
def vf34 : VFunc:={ vs:=[0,1,2,3,5,6,8,9,10,11,20],nparams:=1,rets:=[.cell (.v 2) (some 1)],body:=vb34 }
def vb35 : VCode:=.seq (rg [oX 1 2 0,oV 2 (.alloc [.nil 2])]) (.seq (rg [oV 3 (.newArr 2)]) (.seq (.seq (rg [oJ 4 0]) (.block 0 (.loop (.seq (.seq (rg [oM 6 4,oF 7 0 1,oL 8 7,oY 9 8,oU 10 6 9]) (.cond (.v 10) .skip (.exit 0))) (.seq (.block 1 (.seq (rg [oF 13 0 1,oL 14 13,oM 15 4,oA 16 4 14 15,oR 17 4 16,oV 5 (.alloc [.c (.int .i64 0),.c (.int .i64 0),.c (.int .i64 0),.c (.int .i64 0)]),oS 4 5 17]) (.seq (rg [oF 18 1 5,oL 19 18,oF 20 2 5,oL 21 20,oT 22 (.bin .add (.t 19) (.t 21)),oV 23 (.bin .neq (.t 22) (cI 0))]) (.cond (.v 23) (rg [oM 24 3,oF 25 0 5,oL 26 25,oF 27 1 5,oL 28 27,oF 29 2 5,oL 30 29,oT 31 (.bin .add (.t 28) (.t 30)),oT 32 (.build [.a (.t 26) 0 1,.a (.t 31) 0 1]),oT 33 (.buildSlice 2 [.t 32]),oT 34 (.append 2 16 (.t 24) (.t 33)),oN 3 34]) .skip)))) (rg [oM 11 4,oI 12 11,oN 4 12])))))) (.seq (rg [oM 35 3,oT 36 (.build [.a (.t 35) 0 1]),oS 1 2 36]) .ret)))
def vf35 : VFunc:={ vs:=[0,1,2,3,4,5,10,23],nparams:=1,rets:=[.cell (.v 2) (some 1)],body:=vb35 }
def vb36 : VCode:=.seq (rg [oX 2 2 0,oV 4 (.alloc [.c (.int .i64 0),.c (.int .i64 0),.c (.int .i64 0),.c (.int .i64 0)])]) (.seq (.seq (rg [oF 7 0 2,oV 8 (.load none (.t 7)),oV 9 (.len (.v 8)),oJ 10 0]) (.block 0 (.loop (.seq (rg [oV 11 (.bin .lss (.v 10) (.v 9))]) (.seq (.cond (.v 11) .skip (.exit 0)) (.seq (.block 1 (.seq (rg [oT 12 (.indexAddr 4 (.v 8) (.v 10)),oR 13 4 12,oV 6 (.alloc [.c (.int .i64 0),.c (.int .i64 0),.c (.int .i64 0),.c (.int .i64 0)]),oS 4 6 13]) (.seq (rg [oF 14 0 6,oL 15 14,oM 16 1,oV 17 (.bin .eql (.t 15) (.t 16))]) (.cond (.v 17) (.seq (rg [oK 18 4 6,oS 4 4 18]) .ret) .skip)))) (rg [oT 19 (.bin .add (.v 10) (cI 1)),oN 10 19]))))))) (.seq (rg [oM 20 1,oT 21 (.build [.a (.t 20) 0 1,.z (.c (.int .i64 0)),.z (.c (.int .i64 0)),.z (.c (.int .i64 0))]),oS 4 4 21]) .ret))
def vf36 : VFunc:={ vs:=[0,1,2,4,6,8,9,10,11,17],nparams:=2,rets:=[.cell (.v 4) (some 4)],body:=vb36 }
def vb37 : VCode:=.seq (rg [oX 2 2 0,oV 4 (.alloc [.c (.int .i64 0),.c (.int .i64 0),.c (.int .i64 0),.c (.int .i64 0)])]) (.seq (.seq (rg [oJ 5 0]) (.block 0 (.loop (.seq (.seq (rg [oM 6 5,oF 7 0 2,oL 8 7,oY 9 8,oU 10 6 9]) (.cond (.v 10) .skip (.exit 0))) (.seq (.block 1 (.seq (rg [oF 13 0 2,oL 14 13,oM 15 5,oA 16 4 14 15,oQ 17 0 16,oL 18 17,oM 19 1,oV 20 (.bin .eql (.t 18) (.t 19))]) (.cond (.v 20) (.seq (rg [oF 21 0 2,oL 22 21,oM 23 5,oA 24 4 22 23,oR 25 4 24,oS 4 4 25]) .ret) .skip))) (rg [oM 11 5,oI 12 11,oN 5 12])))))) (.seq (rg [oM 26 1,oT 27 (.build [.a (.t 26) 0 1,.z (.c (.int .i64 0)),.z (.c (.int .i64 0)),.z (.c (.int .i64 0))]),oS 4 4 27]) .ret))
def vf37 : VFunc:={ vs:=[0,1,2,4,5,10,20],nparams:=2,rets:=[.cell (.v 4) (some 4)],body:=vb37 }
def vb38 : VCode:=.seq (rg [oX 2 2 0,oX 3 2 1,oV 4 (.move cF)]) (.seq (rg [oF 5 1 2,oL 6 5,oF 7 1 3,oL 8 7,oT 9 (.bin .eql (.t 6) (.t 8)),oP 10 9,gF 11 0 2 10 true,gL 12 11 10 true,gF 13 0 3 10 true,gL 14 13 10 true,oG 15 (.call 20 [.t 12,.t 14]) 10 true,oB 16 10 15,oN 4 16]) .ret)
def vf38 : VFunc:={ vs:=[0,1,2,3,4],nparams:=2,rets:=[.tmp (.v 4)],body:=vb38 }
def vb39 : VCode:=.seq (rg [oX 4 2 0,oX 5 2 1,oJ 8 0,oJ 9 0]) (.seq (.seq (rg [oK 11 2 4,oK 12 2 5,oC 13 31 [.t 11,.t 12],oT 14 (.not (.t 13)),oP 15 14,oG 16 (.load (some 2) (.v 4)) 15 false,gM 17 2 15 false,oG 18 (.call 64 [.t 16,.t 17]) 15 false,oG 19 (.not (.t 18)) 15 false,oV 20 (.pick (.t 15) cT (.t 19))]) (.cond (.v 20) (.seq (rg [oJ 8 0,oJ 9 1]) .ret) .skip)) (.seq (.seq (rg [oK 21 2 4,oK 22 2 5,oM 23 3,oC 24 65 [.t 21,.t 22,.t 23],oN 10 24]) (.seq (rg [oM 25 10,oV 26 (.bin .neq (.t 25) (cI 0))]) (.cond (.v 26) (.seq (rg [oM 27 10,oJ 8 0,oN 9 27]) .ret) .skip))) (.seq (rg [oK 28 2 4,oK 29 2 5,oM 30 2,oM 31 3,oC 32 88 [.t 28,.t 29,.t 30,.t 31],oN 8 32,oJ 9 0]) .ret)))
def vf39 : VFunc:={ vs:=[0,1,2,3,4,5,8,9,10,20,26],nparams:=4,rets:=[.tmp (.v 8),.tmp (.v 9)],body:=vb39 }
def vb40 : VCode:=.seq (rg [oX 4 2 0,oX 5 2 1,oJ 8 0,oJ 9 0]) (.seq (.seq (rg [oK 10 2 4,oK 11 2 5,oC 12 32 [.t 10,.t 11],oT 13 (.not (.t 12)),oP 14 13,oG 15 (.load (some 2) (.v 4)) 14 false,gM 16 2 14 false,oG 17 (.call 89 [.t 15,.t 16]) 14 false,oG 18 (.not (.t 17)) 14 false,oV 19 (.pick (.t 14) cT (.t 18))]) (.cond (.v 19) (.seq (rg [oJ 8 0,oJ 9 1]) .ret) .skip)) (.seq (.seq (rg [oK 20 2 4,oM 21 3,oC 22 77 [.t 20,.t 21],oV 23 (.not (.t 22))]) (.cond (.v 23) (.seq (rg [oJ 8 0,oJ 9 4]) .ret) .skip)) (.seq (rg [oK 24 2 4,oK 25 2 5,oM 26 2,oM 27 3,oC 28 90 [.t 24,.t 25,.t 26,.t 27],oN 8 28,oJ 9 0]) .ret)))
def vf40 : VFunc:={ vs:=[0,1,2,3,4,5,8,9,19,23],nparams:=4,rets:=[.tmp (.v 8),.tmp (.v 9)],body:=vb40 }
def vb41 : VCode:=.seq (rg [oX 6 2 0,oX 7 2 1,oV 12 (.alloc [.nil 4,.c (.int .i64 0)]),oV 13 (.newArr 4),oJ 14 0]) (.seq (.block 0 (.seq (rg [oK 27 2 6,oK 28 2 7,oC 29 32 [.t 27,.t 28],oT 30 (.not (.t 29)),oP 31 30,oG 32 (.load (some 2) (.v 6)) 31 false,gM 33 2 31 false,oG 34 (.call 91 [.t 32,.t 33]) 31 false,oG 35 (.not (.t 34)) 31 false,oO 36 31 35,oP 37 36,oG 38 (.load (some 2) (.v 6)) 37 false,gM 39 3 37 false,oG 40 (.call 89 [.t 38,.t 39]) 37 false,oG 41 (.not (.t 40)) 37 false,oO 42 37 41,oN 26 42]) (.cond (.v 26) (.seq (rg [oT 43 (.build [.z (.nil 4),.z (.c (.int .i64 0))]),oS 2 12 43,oV 13 (.newArr 4),oJ 14 1]) .ret) (.seq (rg [oK 45 2 6,oM 46 4,oC 47 77 [.t 45,.t 46],oT 48 (.not (.t 47)),oN 44 48]) (.cond (.v 44) (.seq (rg [oT 49 (.build [.z (.nil 4),.z (.c (.int .i64 0))]),oS 2 12 49,oV 13 (.newArr 4),oJ 14 4]) .ret) (.seq (rg [oM 51 5,oT 52 (.bin .lss (.t 51) (cI 0)),oP 53 52,gM 54 5 53 false,oG 55 (.bin .gtr (.t 54) (cI 16777216)) 53 false,oO 56 53 55,oN 50 56]) (.cond (.v 50) (.seq (rg [oT 57 (.build [.z (.nil 4),.z (.c (.int .i64 0))]),oS 2 12 57,oV 13 (.newArr 4),oJ 14 3]) .ret) .skip))))))) (.seq (.region ⟨[oK 59 2 6,oK 60 2 7,oC 61 35 [.t 60],oM 62 2,oM 63 4,oC 64 92 [.t 59,.t 61,.t 62,.t 63],oP 58 64,oE 65 58 0,oE 66 58 1,oN 15 65,oP 16 66],[],[(0,2)]⟩) (.seq (rg [oV 17 (.newArr 4)]) (.seq (.seq (rg [oJ 18 0]) (.block 1 (.loop (.seq (.seq (.region ⟨[oM 67 18,oV 68 (.bin .lss (.t 67) (cI 4))],[83,86,139,142],[]⟩) (.cond (.v 68) .skip (.exit 1))) (.seq (.block 2 (.seq (rg [oM 71 18,oT 72 (.bin .rem (.t 71) (cI 2)),oT 73 (.bin .eql (.t 72) (cI 1)),oN 19 73]) (.seq (.region ⟨[oK 75 2 6,oK 76 2 6,oK 77 2 7,oM 78 15,oM 79 3,oM 80 18,oT 81 (.bin .lss (.t 80) (cI 2)),oM 82 19,oC 83 94 [.t 76,.t 77,.t 78,.t 79,.t 81,.t 82],oM 84 4,oM 85 5,oC 86 93 [.t 75,.t 83,.t 84,.t 85],oP 74 86,oE 87 74 0,oE 88 74 1,oN 20 87,oP 21 88],[],[(0,8)]⟩) (.seq (rg [oJ 22 0]) (.block 3 (.loop (.seq (.seq (.region ⟨[oM 89 22,oM 90 20,oY 91 90,oU 92 89 91],[139,142],[]⟩) (.cond (.v 92) .skip (.exit 3))) (.seq (.block 4 (.seq (.region ⟨[oM 95 20,oM 96 22,oA 97 2 95 96,oQ 98 1 97,oL 99 98,oK 100 2 7,oM 101 20,oM 102 22,oA 103 2 101 102,oQ 104 0 103,oL 105 104,oC 106 37 [.t 100,.t 105],oM 107 20,oM 108 22,oA 109 2 107 108,oQ 110 0 109,oL 111 110,oT 112 (.build [.a (.t 111) 0 1,.z (.c (.int .i64 0)),.z (.c (.int .i64 0)),.z (.c (.int .i64 0))]),oV 24 (.alloc [.c (.int .i64 0),.c (.int .i64 0),.c (.int .i64 0),.c (.int .i64 0)]),oV 25 (.alloc [.c (.int .i64 0),.c (.int .i64 0),.c (.int .i64 0),.c (.int .i64 0)]),oN 23 99,oS 4 24 106,oS 4 25 112],[],[(2,11),(4,11),(11,14),(11,16),(2,17),(4,17),(5,17),(8,17),(10,17),(11,17),(2,18),(4,18),(5,18),(8,18),(10,18),(11,18),(14,18),(16,18),(17,18),(2,19),(4,19),(5,19),(8,19),(10,19),(11,19),(14,19),(16,19),(17,19),(18,19),(14,21),(16,21),(17,21)]⟩) (.seq (.seq (rg [oV 113 (.move (.v 19))]) (.cond (.v 113) (rg [oF 114 2 24,oL 115 114,oM 116 23,oT 117 (.bin .sub (.t 115) (.t 116)),oF 118 3 24,oL 119 118,oM 120 23,oT 121 (.bin .add (.t 119) (.t 120)),oM 122 23,oF 123 2 24,oZ (.store 1 (.t 123) (.t 117)),oF 124 3 24,oZ (.store 1 (.t 124) (.t 121)),oF 125 2 25,oZ (.store 1 (.t 125) (.t 122))]) (rg [oF 126 1 24,oL 127 126,oM 128 23,oT 129 (.bin .sub (.t 127) (.t 128)),oM 130 23,oF 131 1 24,oZ (.store 1 (.t 131) (.t 129)),oF 132 1 25,oZ (.store 1 (.t 132) (.t 130))]))) (.seq (.seq (rg [oM 133 18,oV 134 (.bin .geq (.t 133) (cI 2))]) (.cond (.v 134) (rg [oM 135 23,oF 136 3 25,oZ (.store 1 (.t 136) (.t 135))]) .skip)) (.region ⟨[oK 137 2 7,oK 138 4 24,oC 139 82 [.t 137,.t 138],oM 140 17,oK 141 4 25,oT 142 (.callW 95 [.t 140,.t 141]),oM 143 5,oM 144 23,oT 145 (.bin .sub (.t 143) (.t 144)),oS 2 7 139,oN 17 142,oN 5 145],[],[(2,4)]⟩))))) (rg [oM 93 22,oI 94 93,oN 22 94]))))))))) (rg [oM 69 18,oI 70 69,oN 18 70])))))) (.seq (rg [oK 146 2 7,oT 147 (.build [.z (.c (.int .i64 0)),.z (.c (.int .i64 0)),.z (.c (.int .i64 0)),.z (.c (.int .i64 0))]),oC 148 82 [.t 146,.t 147],oM 149 17,oS 2 12 148,oN 13 149,oJ 14 0]) .ret)))))
def vf41 : VFunc:={ vs:=[0,1,2,3,4,5,6,7,12,13,14,15,17,18,19,20,22,23,24,25,26,44,50,68,92,113,134],nparams:=6,rets:=[.cell (.v 12) (some 2),.tmp (.v 13),.tmp (.v 14)],body:=vb41 }
def vb42 : VCode:=.seq (rg [oX 3 2 0,oX 4 2 1,oV 6 (.alloc [.nil 4,.c (.int .i64 0)]),oJ 7 0]) (.seq (.seq (rg [oK 13 2 3,oK 14 2 4,oM 15 2,oC 16 65 [.t 13,.t 14,.t 15],oN 8 16]) (.seq (rg [oM 17 8,oV 18 (.bin .neq (.t 17) (cI 0))]) (.cond (.v 18) (.seq (rg [oT 19 (.build [.z (.nil 4),.z (.c (.int .i64 0))]),oM 20 8,oS 2 6 19,oN 7 20]) .ret) .skip))) (.seq (.seq (rg [oM 21 2,oV 22 (.bin .eql (.t 21) (cI 1))]) (.cond (.v 22) (.seq (rg [oT 23 (.build [.z (.nil 4),.z (.c (.int .i64 0))]),oS 2 6 23,oJ 7 3]) .ret) .skip)) (.seq (.seq (rg [oK 24 2 3,oM 25 2,oC 26 96 [.t 24,.t 25],oY 27 26,oV 28 (.bin .gtr (.t 27) (cI 0))]) (.cond (.v 28) (.seq (rg [oT 29 (.build [.z (.nil 4),.z (.c (.int .i64 0))]),oS 2 6 29,oJ 7 6]) .ret) .skip)) (.seq (rg [oK 31 2 3,oM 32 2,oC 33 87 [.t 31,.t 32],oP 30 33,oE 34 30 0,oE 35 30 1,oV 9 (.alloc [.c (.int .i64 0),.c (.int .i64 0),.c (.str ⟨#[]⟩),.c (.int .i64 0),.c (.int .i64 0),.c (.int .i64 0)]),oS 6 9 34,oP 10 35]) (.seq (.region ⟨[oK 36 2 4,oM 37 2,oC 38 36 [.t 36,.t 37],oK 39 2 4,oF 40 1 9,oL 41 40,oC 42 36 [.t 39,.t 41],oV 11 (.alloc [.c (.int .i64 0),.c (.int .i64 0),.c (.int .i64 0),.c (.int .i64 0)]),oV 12 (.alloc [.c (.int .i64 0),.c (.int .i64 0),.c (.int .i64 0),.c (.int .i64 0)]),oS 4 11 38,oS 4 12 42],[],[(2,3),(2,5),(0,7),(2,7),(3,7),(5,7),(6,7),(0,8),(2,8),(3,8),(5,8),(6,8),(7,8)]⟩) (.seq (.region ⟨[oF 43 1 12,oL 44 43,oF 45 1 11,oL 46 45,oT 47 (.bin .add (.t 44) (.t 46)),oF 48 2 12,oL 49 48,oF 50 2 11,oL 51 50,oT 52 (.bin .add (.t 49) (.t 51)),oF 53 3 12,oL 54 53,oF 55 3 11,oL 56 55,oT 57 (.bin .add (.t 54) (.t 56)),oF 58 1 12,oZ (.store 1 (.t 58) (.t 47)),oF 59 2 12,oZ (.store 1 (.t 59) (.t 52)),oF 60 3 12,oZ (.store 1 (.t 60) (.t 57))],[],[(8,16),(13,16),(13,18)]⟩) (.seq (.region ⟨[oK 61 2 4,oM 62 2,oT 63 (.build [.a (.t 62) 0 1,.z (.c (.int .i64 0)),.z (.c (.int .i64 0)),.z (.c (.int .i64 0))]),oC 64 83 [.t 61,.t 63],oK 65 4 12,oC 66 83 [.t 64,.t 65],oS 2 6 66,oJ 7 0],[],[(0,2),(2,4),(3,4)]⟩) .ret)))))))
def vf42 : VFunc:={ vs:=[0,1,2,3,4,6,7,8,9,11,12,18,22,28],nparams:=3,rets:=[.cell (.v 6) (some 2),.tmp (.v 7)],body:=vb42 }
def vb43 : VCode:=.seq (rg [oX 3 2 0,oX 4 2 1,oV 6 (.alloc [.nil 4,.c (.int .i64 0)]),oJ 7 0]) (.seq (.seq (rg [oK 12 2 3,oK 13 2 4,oC 14 32 [.t 12,.t 13],oV 15 (.not (.t 14))]) (.cond (.v 15) (.seq (rg [oT 16 (.build [.z (.nil 4),.z (.c (.int .i64 0))]),oS 2 6 16,oJ 7 1]) .ret) .skip)) (.seq (rg [oK 18 2 3,oM 19 2,oC 20 97 [.t 18,.t 19],oP 17 20,oE 21 17 0,oE 22 17 1,oN 8 21,oN 9 22]) (.seq (.seq (rg [oM 23 9,oV 24 (.bin .neq (.t 23) (cI 0))]) (.cond (.v 24) (.seq (rg [oT 25 (.build [.z (.nil 4),.z (.c (.int .i64 0))]),oM 26 9,oS 2 6 25,oN 7 26]) .ret) .skip)) (.seq (.region ⟨[oK 27 2 4,oM 28 8,oC 29 37 [.t 27,.t 28],oK 30 2 4,oM 31 2,oC 32 37 [.t 30,.t 31],oV 10 (.alloc [.c (.int .i64 0),.c (.int .i64 0),.c (.int .i64 0),.c (.int .i64 0)]),oV 11 (.alloc [.c (.int .i64 0),.c (.int .i64 0),.c (.int .i64 0),.c (.int .i64 0)]),oS 4 10 29,oS 4 11 32],[],[(2,3),(0,6),(2,6),(3,6),(5,6),(0,7),(2,7),(3,7),(5,7),(6,7)]⟩) (.seq (.region ⟨[oF 33 1 10,oL 34 33,oF 35 1 11,oL 36 35,oT 37 (.bin .add (.t 34) (.t 36)),oF 38 2 10,oL 39 38,oF 40 2 11,oL 41 40,oT 42 (.bin .add (.t 39) (.t 41)),oF 43 3 10,oL 44 43,oF 45 3 11,oL 46 45,oT 47 (.bin .add (.t 44) (.t 46)),oF 48 1 10,oZ (.store 1 (.t 48) (.t 37)),oF 49 2 10,oZ (.store 1 (.t 49) (.t 42)),oF 50 3 10,oZ (.store 1 (.t 50) (.t 47))],[],[(8,16),(13,16),(13,18)]⟩) (.seq (.region ⟨[oK 51 2 4,oM 52 2,oT 53 (.build [.a (.t 52) 0 1,.z (.c (.int .i64 0)),.z (.c (.int .i64 0)),.z (.c (.int .i64 0))]),oC 54 82 [.t 51,.t 53],oK 55 4 10,oC 56 82 [.t 54,.t 55],oS 2 6 56,oJ 7 0],[],[(0,2),(2,4),(3,4)]⟩) .ret))))))
def vf43 : VFunc:={ vs:=[0,1,2,3,4,6,7,8,9,10,11,15,24],nparams:=3,rets:=[.cell (.v 6) (some 2),.tmp (.v 7)],body:=vb43 }
def vb63 : VCode:=.seq (rg [oX 2 2 0,oV 4 (.move cF)]) (.seq (.seq (rg [oK 9 2 2,oC 10 86 [.t 9],oV 11 (.not (.t 10))]) (.cond (.v 11) (.seq (rg [oV 4 (.move cF)]) .ret) .skip)) (.seq (.seq (rg [oV 12 (.move (.v 1)),oV 13 (.len (.v 12)),oJ 14 0]) (.block 0 (.loop (.seq (rg [oV 15 (.bin .lss (.v 14) (.v 13))]) (.seq (.cond (.v 15) .skip (.exit 0)) (.seq (.block 1 (.seq (rg [oM 16 14,oT 17 (.indexAddr 3 (.v 12) (.v 14)),oR 18 3 17,oV 6 (.alloc [.c (.int .i64 0),.c (.int .i64 0),.c (.int .i64 0)]),oN 5 16,oS 3 6 18]) (.seq (rg [oK 20 2 2,oF 21 0 6,oL 22 21,oC 23 87 [.t 20,.t 22],oP 19 23,oE 24 19 0,oE 25 19 1,oT 7 (.alloc [.c (.int .i64 0),.c (.int .i64 0),.c (.str ⟨#[]⟩),.c (.int .i64 0),.c (.int .i64 0),.c (.int .i64 0)]),oZ (.store 6 (.t 7) (.t 24)),oN 8 25]) (.seq (rg [oM 26 8,oT 27 (.not (.t 26)),oP 28 27,gM 29 5 28 false,oG 30 (.bin .gtr (.t 29) (cI 0)) 28 false,oG 31 (.move (.t 30)) 28 false,gF 32 0 6 31 true,gL 33 32 31 true,gM 34 1 31 true,gM 35 5 31 true,oG 36 (.bin .sub (.t 35) (cI 1)) 31 true,oG 37 (.indexAddr 3 (.t 34) (.t 36)) 31 true,oG 38 (.fieldAddr 0 (.t 37)) 31 true,gL 39 38 31 true,oG 40 (.bin .leq (.t 33) (.t 39)) 31 true,oG 41 (.pick (.t 31) (.t 40) cF) 28 false,oO 42 28 41,oP 43 42,gF 44 1 6 43 false,gL 45 44 43 false,oG 46 (.bin .lss (.t 45) (cI 0)) 43 false,oO 47 43 46,oP 48 47,gF 49 1 6 48 false,gL 50 49 48 false,oG 51 (.bin .gtr (.t 50) (cI 4611686018427387904)) 48 false,oO 52 48 51,oP 53 52,gF 54 2 6 53 false,gL 55 54 53 false,oG 56 (.bin .lss (.t 55) (cI 0)) 53 false,oO 57 53 56,oP 58 57,gF 59 2 6 58 false,gL 60 59 58 false,oG 61 (.bin .gtr (.t 60) (cI 4611686018427387904)) 58 false,oV 62 (.pick (.t 58) cT (.t 61))]) (.cond (.v 62) (.seq (rg [oV 4 (.move cF)]) .ret) .skip))))) (rg [oT 63 (.bin .add (.v 14) (cI 1)),oN 14 63]))))))) (.seq (rg [oV 4 (.move cT)]) .ret)))
def vf63 : VFunc:={ vs:=[0,1,2,4,5,6,8,11,12,13,14,15,62],nparams:=2,rets:=[.tmp (.v 4)],body:=vb63 }
def vb64 : VCode:=.seq (rg [oX 2 2 0,oV 4 (.move cF)]) (.seq (.seq (rg [oK 9 2 2,oC 10 86 [.t 9],oV 11 (.not (.t 10))]) (.cond (.v 11) (.seq (rg [oV 4 (.move cF)]) .ret) .skip)) (.seq (.seq (rg [oV 12 (.move (.v 1)),oV 13 (.len (.v 12)),oJ 14 0]) (.block 0 (.loop (.seq (rg [oV 15 (.bin .lss (.v 14) (.v 13))]) (.seq (.cond (.v 15) .skip (.exit 0)) (.seq (.block 1 (.seq (rg [oM 16 14,oT 17 (.indexAddr 2 (.v 12) (.v 14)),oR 18 2 17,oV 6 (.alloc [.c (.int .i64 0),.c (.int .i64 0)]),oN 5 16,oS 2 6 18]) (.seq (rg [oK 20 2 2,oF 21 0 6,oL 22 21,oC 23 87 [.t 20,.t 22],oP 19 23,oE 24 19 0,oE 25 19 1,oT 7 (.alloc [.c (.int .i64 0),.c (.int .i64 0),.c (.str ⟨#[]⟩),.c (.int .i64 0),.c (.int .i64 0),.c (.int .i64 0)]),oZ (.store 6 (.t 7) (.t 24)),oN 8 25]) (.seq (rg [oM 26 8,oT 27 (.not (.t 26)),oP 28 27,gM 29 5 28 false,oG 30 (.bin .gtr (.t 29) (cI 0)) 28 false,oG 31 (.move (.t 30)) 28 false,gF 32 0 6 31 true,gL 33 32 31 true,gM 34 1 31 true,gM 35 5 31 true,oG 36 (.bin .sub (.t 35) (cI 1)) 31 true,oG 37 (.indexAddr 2 (.t 34) (.t 36)) 31 true,oG 38 (.fieldAddr 0 (.t 37)) 31 true,gL 39 38 31 true,oG 40 (.bin .leq (.t 33) (.t 39)) 31 true,oG 41 (.pick (.t 31) (.t 40) cF) 28 false,oO 42 28 41,oP 43 42,gF 44 1 6 43 false,gL 45 44 43 false,oG 46 (.bin .lss (.t 45) (cI 0)) 43 false,oO 47 43 46,oP 48 47,gF 49 1 6 48 false,gL 50 49 48 false,oG 51 (.bin .gtr (.t 50) (cI 4611686018427387904)) 48 false,oV 52 (.pick (.t 48) cT (.t 51))]) (.cond (.v 52) (.seq (rg [oV 4 (.move cF)]) .ret) .skip))))) (rg [oT 53 (.bin .add (.v 14) (cI 1)),oN 14 53]))))))) (.seq (rg [oV 4 (.move cT)]) .ret)))
def vf64 : VFunc:={ vs:=[0,1,2,4,5,6,8,11,12,13,14,15,52],nparams:=2,rets:=[.tmp (.v 4)],body:=vb64 }
def vb65 : VCode:=.seq (rg [oX 3 2 0,oX 4 2 1,oJ 6 0]) (.seq (.seq (rg [oK 9 2 3,oK 10 2 4,oC 11 31 [.t 9,.t 10],oV 12 (.not (.t 11))]) (.cond (.v 12) (.seq (rg [oJ 6 1]) .ret) .skip)) (.seq (.seq (rg [oK 14 2 3,oM 15 2,oC 16 87 [.t 14,.t 15],oP 13 16,oE 17 13 0,oE 18 13 1,oT 7 (.alloc [.c (.int .i64 0),.c (.int .i64 0),.c (.str ⟨#[]⟩),.c (.int .i64 0),.c (.int .i64 0),.c (.int .i64 0)]),oZ (.store 6 (.t 7) (.t 17)),oN 8 18]) (.seq (rg [oM 19 8,oV 20 (.not (.t 19))]) (.cond (.v 20) (.seq (rg [oJ 6 4]) .ret) .skip))) (.seq (rg [oJ 6 0]) .ret)))
def vf65 : VFunc:={ vs:=[0,1,2,3,4,6,8,12,20],nparams:=3,rets:=[.tmp (.v 6)],body:=vb65 }
def vb66 : VCode:=.seq (rg [oV 2 (.move cF)]) (.seq (rg [oM 3 0,oT 4 (.bin .geq (.t 3) (cI 0)),oP 5 4,gM 6 0 5 true,oG 7 (.bin .leq (.t 6) (cI 16777216)) 5 true,oB 8 5 7,oN 2 8]) .ret)
def vf66 : VFunc:={ vs:=[0,2],nparams:=1,rets:=[.tmp (.v 2)],body:=vb66 }
def vb67 : VCode:=.seq (rg [oX 4 2 0,oX 5 1 1,oV 8 (.newArr 3),oJ 9 0]) (.seq (.seq (rg [oK 23 2 4,oK 24 1 5,oC 25 111 [.t 23,.t 24],oT 26 (.not (.t 25)),oP 27 26,oG 28 (.load (some 2) (.v 4)) 27 false,gM 29 2 27 false,oG 30 (.call 63 [.t 28,.t 29]) 27 false,oG 31 (.not (.t 30)) 27 false,oV 32 (.pick (.t 27) cT (.t 31))]) (.cond (.v 32) (.seq (rg [oV 8 (.newArr 3),oJ 9 1]) .ret) .skip)) (.seq (.seq (rg [oK 34 2 4,oM 35 3,oC 36 87 [.t 34,.t 35],oP 33 36,oE 37 33 0,oE 38 33 1,oT 10 (.alloc [.c (.int .i64 0),.c (.int .i64 0),.c (.str ⟨#[]⟩),.c (.int .i64 0),.c (.int .i64 0),.c (.int .i64 0)]),oZ (.store 6 (.t 10) (.t 37)),oN 11 38]) (.seq (rg [oM 39 11,oV 40 (.not (.t 39))]) (.cond (.v 40) (.seq (rg [oV 8 (.newArr 3),oJ 9 4]) .ret) .skip))) (.seq (rg [oT 41 (.makeMap (.int .i64)),oN 12 41]) (.seq (rg [oK 43 2 4,oK 44 1 5,oC 45 112 [.t 43,.t 44],oP 42 45,oE 46 42 0,oE 47 42 1,oN 13 46,oP 14 47]) (.seq (.seq (rg [oV 48 (.move (.v 13)),oV 49 (.len (.v 48)),oJ 50 0]) (.block 0 (.loop (.seq (rg [oV 51 (.bin .lss (.v 50) (.v 49))]) (.seq (.cond (.v 51) .skip (.exit 0)) (.seq (.block 1 (.seq (rg [oT 52 (.indexAddr 2 (.v 48) (.v 50)),oR 53 2 52,oV 16 (.alloc [.c (.int .i64 0),.c (.int .i64 0)]),oS 2 16 53]) (rg [oM 54 12,oF 55 0 16,oL 56 55,oF 57 1 16,oL 58 57,oZ (.mapUpdate (.int .i64) (.t 54) (.t 56) (.t 58))]))) (rg [oT 59 (.bin .add (.v 50) (cI 1)),oN 50 59]))))))) (.seq (.region ⟨[oK 60 2 4,oM 61 12,oM 62 2,oC 63 114 [.t 62,.c (.fn 115)],oM 64 3,oT 65 (.callW 113 [.t 60,.t 61,.t 63,.t 64]),oK 66 2 4,oM 67 12,oM 68 2,oC 69 114 [.t 68,.c (.fn 116)],oM 70 3,oT 71 (.callW 113 [.t 66,.t 67,.t 69,.t 70]),oN 17 65,oN 18 71],[],[(0,3),(3,6),(5,6),(6,9)]⟩) (.seq (rg [oK 72 2 4,oM 73 3,oC 74 117 [.t 72,.t 73],oN 19 74]) (.seq (rg [oM 75 19,oT 76 (.callW 118 [.t 75])]) (.seq (rg [oV 20 (.newArr 3)]) (.seq (.seq (rg [oV 77 (.move (.v 19)),oV 78 (.len (.v 77)),oJ 79 0]) (.block 2 (.loop (.seq (rg [oV 80 (.bin .lss (.v 79) (.v 78))]) (.seq (.cond (.v 80) .skip (.exit 2)) (.seq (.block 3 (.seq (rg [oT 81 (.indexAddr 1 (.v 77) (.v 79)),oL 82 81,oN 22 82]) (rg [oM 83 20,oM 84 22,oM 85 17,oM 86 22,oT 87 (.lookup false (.int .i64) (.int .i64 0) (.t 85) (.t 86)),oM 88 18,oM 89 22,oT 90 (.lookup false (.int .i64) (.int .i64 0) (.t 88) (.t 89)),oT 91 (.build [.a (.t 84) 0 1,.a (.t 87) 0 1,.a (.t 90) 0 1]),oT 92 (.buildSlice 3 [.t 91]),oT 93 (.append 3 24 (.t 83) (.t 92)),oN 20 93]))) (rg [oT 94 (.bin .add (.v 79) (cI 1)),oN 79 94]))))))) (.seq (rg [oM 95 20,oN 8 95,oJ 9 0]) .ret)))))))))))
def vf67 : VFunc:={ vs:=[0,1,2,3,4,5,8,9,11,12,13,16,17,18,19,20,22,32,40,48,49,50,51,77,78,79,80],nparams:=4,rets:=[.tmp (.v 8),.tmp (.v 9)],body:=vb67 }
def vb68 : VCode:=.seq (rg [oX 1 4 0,oJ 2 0]) (.seq (rg [oF 3 1 1,oL 4 3,oN 2 4]) .ret)
def vf68 : VFunc:={ vs:=[0,1,2],nparams:=1,rets:=[.tmp (.v 2)],body:=vb68 }
def vb69 : VCode:=.seq (rg [oX 1 3 0,oJ 2 0]) (.seq (rg [oF 3 1 1,oL 4 3,oF 5 2 1,oL 6 5,oT 7 (.minmax true [.t 4,.t 6]),oN 2 7]) .ret)
def vf69 : VFunc:={ vs:=[0,1,2],nparams:=1,rets:=[.tmp (.v 2)],body:=vb69 }
def vb70 : VCode:=.seq (rg [oX 1 4 0,oJ 2 0]) (.seq (rg [oF 3 2 1,oL 4 3,oN 2 4]) .ret)
def vf70 : VFunc:={ vs:=[0,1,2],nparams:=1,rets:=[.tmp (.v 2)],body:=vb70 }
def vb71 : VCode:=.seq (rg [oX 1 3 0,oJ 2 0]) (.seq (rg [oF 3 1 1,oL 4 3,oN 2 4]) .ret)
def vf71 : VFunc:={ vs:=[0,1,2],nparams:=1,rets:=[.tmp (.v 2)],body:=vb71 }
def vb72 : VCode:=.seq (rg [oX 4 2 0,oV 8 (.newArr 2),oJ 9 0]) (.seq (.seq (rg [oK 13 2 4,oM 14 1,oM 15 2,oC 16 119 [.t 13,.t 14,.t 15],oV 17 (.not (.t 16))]) (.cond (.v 17) (.seq (rg [oV 8 (.newArr 2),oJ 9 1]) .ret) .skip)) (.seq (.seq (rg [oM 18 3,oC 19 120 [.t 18],oV 20 (.not (.t 19))]) (.cond (.v 20) (.seq (rg [oV 8 (.newArr 2),oJ 9 3]) .ret) .skip)) (.seq (rg [oM 21 1,oC 22 121 [.t 21],oV 10 (.alloc [.c (.map (.int .i64) [] [])]),oS 1 10 22]) (.seq (rg [oV 11 (.alloc [.nil 2])]) (.seq (rg [oV 12 (.alloc [.c (.nilp)])]) (.seq (rg [oT 23 (.makeFunc 122 [.v 4,.v 10,.v 11,.v 12]),oS 1 12 23]) (.seq (.region ⟨[oT 24 (.load none (.v 12)),oM 25 2,oM 26 3,oK 27 2 4,oT 28 (.load none (.v 10)),oM 29 2,oC 30 123 [.t 27,.t 28,.t 29],oT 31 (.minmax false [.t 26,.t 30]),oT 32 (.callvW (.t 24) [.t 25,.t 31])],[],[(0,6)]⟩) (.seq (rg [oT 33 (.load none (.v 11)),oT 34 (.callW 125 [.t 33,.c (.fn 126)])]) (.seq (rg [oT 35 (.load none (.v 11)),oN 8 35,oJ 9 0]) .ret)))))))))
def vf72 : VFunc:={ vs:=[0,1,2,3,4,8,9,10,11,12,17,20],nparams:=4,rets:=[.tmp (.v 8),.tmp (.v 9)],body:=vb72 }
def vb73 : VCode:=.seq (rg [oX 3 4 1,oV 4 (.newArr 5)]) (.seq (rg [oT 14 (.makeMap (.int .i64)),oN 5 14]) (.seq (.region ⟨[oM 16 0,oT 17 (.nilCheck (.t 16)),oQ 18 0 17,oR 19 2 18,oM 20 0,oT 21 (.nilCheck (.t 20)),oQ 22 2 21,oR 23 2 22,oC 24 34 [.t 23],oC 25 112 [.t 19,.t 24],oP 15 25,oE 26 15 0,oE 27 15 1,oN 6 26,oP 7 27],[],[(3,8)]⟩) (.seq (.seq (rg [oV 28 (.move (.v 6)),oV 29 (.len (.v 28)),oJ 30 0]) (.block 0 (.loop (.seq (rg [oV 31 (.bin .lss (.v 30) (.v 29))]) (.seq (.cond (.v 31) .skip (.exit 0)) (.seq (.block 1 (.seq (rg [oT 32 (.indexAddr 2 (.v 28) (.v 30)),oR 33 2 32,oV 9 (.alloc [.c (.int .i64 0),.c (.int .i64 0)]),oS 2 9 33]) (rg [oM 34 5,oF 35 0 9,oL 36 35,oF 37 1 9,oL 38 37,oZ (.mapUpdate (.int .i64) (.t 34) (.t 36) (.t 38))]))) (rg [oT 39 (.bin .add (.v 30) (cI 1)),oN 30 39]))))))) (.seq (rg [oV 10 (.newArr 5)]) (.seq (.seq (rg [oM 40 0,oT 41 (.nilCheck (.t 40)),oQ 42 5 41,oV 43 (.load none (.t 42)),oV 44 (.len (.v 43)),oJ 45 0]) (.block 2 (.loop (.seq (rg [oV 46 (.bin .lss (.v 45) (.v 44))]) (.seq (.cond (.v 46) .skip (.exit 2)) (.seq (.block 3 (.seq (rg [oT 47 (.indexAddr 3 (.v 43) (.v 45)),oR 48 3 47,oV 12 (.alloc [.c (.int .i64 0),.c (.int .i64 0),.c (.int .i64 0)]),oS 3 12 48]) (.seq (.region ⟨[oF 49 0 12,oL 50 49,oM 51 5,oF 52 0 12,oL 53 52,oT 54 (.lookup false (.int .i64) (.int .i64 0) (.t 51) (.t 53)),oF 55 1 3,oL 56 55,oK 57 3 12,oT 58 (.callv (.t 56) [.t 57]),oF 59 0 3,oL 60 59,oM 61 0,oT 62 (.nilCheck (.t 61)),oQ 63 2 62,oR 64 2 63,oF 65 0 12,oL 66 65,oC 67 36 [.t 64,.t 66],oT 68 (.callv (.t 60) [.t 67]),oT 69 (.build [.a (.t 50) 0 1,.a (.t 54) 0 1,.a (.t 58) 0 1,.a (.t 68) 0 1,.a (cI 4611686018427387904) 0 1]),oV 13 (.alloc [.c (.int .i64 0),.c (.int .i64 0),.c (.int .i64 0),.c (.int .i64 0),.c (.int .i64 0)]),oS 5 13 69],[],[(1,9),(4,9),(5,9),(9,11),(9,15),(9,17),(1,18),(4,18),(5,18),(11,18),(1,19),(4,19),(5,19),(1,21),(4,21),(5,21),(7,21),(8,21),(9,21),(11,21),(15,21),(17,21),(18,21),(19,21),(20,21)]⟩) (.seq (.seq (rg [oF 70 2 3,oV 71 (.load none (.t 70))]) (.cond (.v 71) (rg [oM 72 0,oT 73 (.nilCheck (.t 72)),oQ 74 0 73,oR 75 2 74,oM 76 0,oT 77 (.nilCheck (.t 76)),oQ 78 2 77,oR 79 2 78,oM 80 0,oT 81 (.nilCheck (.t 80)),oQ 82 4 81,oL 83 82,oF 84 0 12,oL 85 84,oC 86 88 [.t 75,.t 79,.t 83,.t 85],oF 87 4 13,oZ (.store 1 (.t 87) (.t 86))]) .skip)) (rg [oM 88 10,oK 89 5 13,oT 90 (.buildSlice 5 [.t 89]),oT 91 (.append 5 40 (.t 88) (.t 90)),oN 10 91]))))) (rg [oT 92 (.bin .add (.v 45) (cI 1)),oN 45 92]))))))) (.seq (rg [oM 93 10,oN 4 93]) .ret))))))
def vf73 : VFunc:={ vs:=[0,1,3,4,5,6,9,10,12,13,28,29,30,31,43,44,45,46,71],nparams:=2,rets:=[.tmp (.v 4)],body:=vb73 }
def vb74 : VCode:=.seq (rg [oX 5 4 1]) (.seq (.region ⟨[oM 10 0,oT 11 (.nilCheck (.t 10)),oQ 12 2 11,oR 13 2 12,oM 14 2,oC 15 36 [.t 13,.t 14],oM 16 0,oT 17 (.nilCheck (.t 16)),oQ 18 6 17,oL 19 18,oM 20 2,oT 21 (.lookup false (.int .i64) (.agg [.int .i64 0,.int .i64 0,.int .i64 0,.int .i64 0]) (.t 19) (.t 20)),oV 8 (.alloc [.c (.int .i64 0),.c (.int .i64 0),.c (.int .i64 0),.c (.int .i64 0)]),oV 9 (.alloc [.c (.int .i64 0),.c (.int .i64 0),.c (.int .i64 0),.c (.int .i64 0)]),oS 4 8 15,oS 4 9 21],[],[(5,9),(5,11),(3,12),(5,12),(9,12),(11,12),(3,13),(5,13),(9,13),(11,13),(12,13),(9,14),(11,14)]⟩) (.seq (rg [oM 22 2,oF 23 0 9,oZ (.store 1 (.t 23) (.t 22))]) (.seq (.seq (rg [oF 24 2 5,oV 25 (.load none (.t 24))]) (.cond (.v 25) (.region ⟨[oF 26 2 8,oL 27 26,oM 28 3,oT 29 (.bin .sub (.t 27) (.t 28)),oF 30 3 8,oL 31 30,oM 32 3,oT 33 (.bin .add (.t 31) (.t 32)),oF 34 2 9,oL 35 34,oM 36 3,oT 37 (.bin .add (.t 35) (.t 36)),oF 38 2 8,oZ (.store 1 (.t 38) (.t 29)),oF 39 3 8,oZ (.store 1 (.t 39) (.t 33)),oF 40 2 9,oZ (.store 1 (.t 40) (.t 37))],[],[(9,13),(9,15)]⟩) (.region ⟨[oF 41 1 8,oL 42 41,oM 43 3,oT 44 (.bin .sub (.t 42) (.t 43)),oF 45 1 9,oL 46 45,oM 47 3,oT 48 (.bin .add (.t 46) (.t 47)),oF 49 1 8,oZ (.store 1 (.t 49) (.t 44)),oF 50 1 9,oZ (.store 1 (.t 50) (.t 48))],[],[(5,9)]⟩))) (.seq (.seq (rg [oF 51 3 5,oV 52 (.load none (.t 51))]) (.cond (.v 52) (rg [oF 53 3 9,oL 54 53,oM 55 3,oT 56 (.bin .add (.t 54) (.t 55)),oF 57 3 9,oZ (.store 1 (.t 57) (.t 56))]) .skip)) (.region ⟨[oM 58 0,oM 59 0,oT 60 (.nilCheck (.t 59)),oQ 61 6 60,oL 62 61,oM 63 2,oM 64 0,oT 65 (.nilCheck (.t 64)),oQ 66 2 65,oR 67 2 66,oK 68 4 8,oC 69 83 [.t 67,.t 68],oK 70 4 9,oT 71 (.nilCheck (.t 58)),oQ 72 2 71,oZ (.store 2 (.t 72) (.t 69)),oT 73 (.mapEntry (.int .i64) (.agg [.int .i64 0,.int .i64 0,.int .i64 0,.int .i64 0]) (.t 62) (.t 63)),oE 74 73 1,oZ (.entryStore (.t 62) (.t 74) (.t 70))],[],[(4,11),(11,12),(12,15),(12,16)]⟩)))))
def vf74 : VFunc:={ vs:=[0,1,2,3,5,8,9,25,52],nparams:=4,rets:=[],body:=vb74 }
def vb75 : VCode:=.seq (rg [oX 1 2 0,oV 2 (.move cF)]) (.seq (rg [oF 6 0 1,oL 7 6,oY 8 7,oN 3 8]) (.seq (.seq (rg [oM 9 3,oT 10 (.bin .lss (.t 9) (cI 1)),oP 11 10,gM 12 3 11 false,oG 13 (.bin .gtr (.t 12) (cI 64)) 11 false,oV 14 (.pick (.t 11) cT (.t 13))]) (.cond (.v 14) (.seq (rg [oV 2 (.move cF)]) .ret) .skip)) (.seq (.seq (rg [oJ 4 0]) (.block 0 (.loop (.seq (.seq (rg [oM 15 4,oM 16 3,oU 17 15 16]) (.cond (.v 17) .skip (.exit 0))) (.seq (.block 1 (.seq (rg [oK 20 2 1,oM 21 4,oC 22 127 [.t 20,.t 21],oV 23 (.not (.t 22))]) (.cond (.v 23) (.seq (rg [oV 2 (.move cF)]) .ret) .skip))) (rg [oM 18 4,oI 19 18,oN 4 19])))))) (.seq (.seq (rg [oJ 5 0]) (.block 2 (.loop (.seq (.seq (.region ⟨[oM 24 5,oM 25 3,oU 26 24 25],[36],[]⟩) (.cond (.v 26) .skip (.exit 2))) (.seq (.block 3 (.seq (rg [oK 29 2 1,oF 30 0 1,oL 31 30,oM 32 5,oA 33 6 31 32,oQ 34 0 33,oL 35 34,oC 36 128 [.t 29,.t 35],oY 37 36,oV 38 (.bin .gtr (.t 37) (cI 9))]) (.cond (.v 38) (.seq (rg [oV 2 (.move cF)]) .ret) .skip))) (rg [oM 27 5,oI 28 27,oN 5 28])))))) (.seq (rg [oF 39 1 1,oL 40 39,oF 41 0 1,oL 42 41,oM 43 3,oT 44 (.bin .sub (.t 43) (cI 1)),oA 45 6 42 44,oQ 46 0 45,oL 47 46,oT 48 (.bin .gtr (.t 40) (.t 47)),oP 49 48,gF 50 1 1 49 true,gL 51 50 49 true,oG 52 (.bin .leq (.t 51) (cI 2147483648)) 49 true,oB 53 49 52,oN 2 53]) .ret)))))
def vf75 : VFunc:={ vs:=[0,1,2,3,4,5,14,17,23,26,38],nparams:=1,rets:=[.tmp (.v 2)],body:=vb75 }
def vb76 : VCode:=.seq (rg [oV 2 (.move cF)]) (.seq (.seq (rg [oM 5 0,oT 6 (.lenStr (.t 5)),oT 7 (.bin .eql (.t 6) (cI 0)),oP 8 7,gM 9 0 8 false,oG 10 (.lenStr (.t 9)) 8 false,oG 11 (.bin .gtr (.t 10) (cI 32)) 8 false,oO 12 8 11,oP 13 12,gM 14 0 13 false,oG 15 (.indexStr (.t 14) (cI 0)) 13 false,oG 16 (.bin .eql (.t 15) (.c (.int .u8 45))) 13 false,oV 17 (.pick (.t 13) cT (.t 16))]) (.cond (.v 17) (.seq (rg [oV 2 (.move cF)]) .ret) .skip)) (.seq (.seq (rg [oJ 3 0]) (.block 0 (.loop (.seq (.seq (rg [oM 18 3,oM 19 0,oT 20 (.lenStr (.t 19)),oU 21 18 20]) (.cond (.v 21) .skip (.exit 0))) (.seq (.block 1 (.seq (rg [oM 24 0,oM 25 3,oT 26 (.indexStr (.t 24) (.t 25)),oN 4 26]) (.seq (rg [oM 27 4,oT 28 (.bin .geq (.t 27) (.c (.int .u8 97))),oP 29 28,gM 30 4 29 true,oG 31 (.bin .leq (.t 30) (.c (.int .u8 122))) 29 true,oB 32 29 31,oP 33 32,gM 34 4 33 false,oG 35 (.bin .geq (.t 34) (.c (.int .u8 65))) 33 false,oG 36 (.move (.t 35)) 33 false,gM 37 4 36 true,oG 38 (.bin .leq (.t 37) (.c (.int .u8 90))) 36 true,oG 39 (.pick (.t 36) (.t 38) cF) 33 false,oO 40 33 39,oP 41 40,gM 42 4 41 false,oG 43 (.bin .geq (.t 42) (.c (.int .u8 48))) 41 false,oG 44 (.move (.t 43)) 41 false,gM 45 4 44 true,oG 46 (.bin .leq (.t 45) (.c (.int .u8 57))) 44 true,oG 47 (.pick (.t 44) (.t 46) cF) 41 false,oO 48 41 47,oP 49 48,gM 50 4 49 false,oG 51 (.bin .eql (.t 50) (.c (.int .u8 95))) 49 false,oO 52 49 51,oP 53 52,gM 54 4 53 false,oG 55 (.bin .eql (.t 54) (.c (.int .u8 45))) 53 false,oO 56 53 55,oV 57 (.not (.t 56))]) (.cond (.v 57) (.seq (rg [oV 2 (.move cF)]) .ret) .skip)))) (rg [oM 22 3,oI 23 22,oN 3 23])))))) (.seq (rg [oV 2 (.move cT)]) .ret)))
def vf76 : VFunc:={ vs:=[0,2,3,4,17,21,57],nparams:=1,rets:=[.tmp (.v 2)],body:=vb76 }
def vb77 : VCode:=.seq (rg [oX 2 2 0,oV 4 (.move cF)]) (.seq (rg [oK 8 2 2,oM 9 1,oC 10 129 [.t 8,.t 9],oP 7 10,oE 11 7 0,oE 12 7 1,oT 5 (.alloc [.c (.int .i64 0),.c (.int .i64 0),.c (.str ⟨#[]⟩),.c (.int .i64 0),.c (.int .i64 0),.c (.int .i64 0)]),oZ (.store 6 (.t 5) (.t 11)),oN 6 12]) (.seq (rg [oM 13 6,oN 4 13]) .ret))
def vf77 : VFunc:={ vs:=[0,1,2,4,6],nparams:=2,rets:=[.tmp (.v 4)],body:=vb77 }
def vb78 : VCode:=.seq (rg [oX 2 2 0,oJ 4 0]) (.seq (rg [oK 5 2 2,oM 6 1,oC 7 102 [.t 5,.t 6],oY 8 7,oT 9 (.bin .sub (.t 8) (cI 1)),oN 4 9]) .ret)
def vf78 : VFunc:={ vs:=[0,1,2,4],nparams:=2,rets:=[.tmp (.v 4)],body:=vb78 }
def vb79 : VCode:=.seq (rg [oX 1 2 0,oV 2 (.alloc [.nil 6,.c (.int .i64 0)])]) (.seq (.region ⟨[oF 3 0 1,oL 4 3,oT 5 (.appendNil 6 56 (.t 4)),oF 6 1 1,oL 7 6,oT 8 (.build [.a (.t 5) 0 1,.a (.t 7) 0 1]),oS 2 2 8],[],[(2,4)]⟩) .ret)
def vf79 : VFunc:={ vs:=[0,1,2],nparams:=1,rets:=[.cell (.v 2) (some 2)],body:=vb79 }
def vb80 : VCode:=.seq (rg [oX 2 2 0,oV 4 (.newArr 1)]) (.seq (.seq (rg [oK 7 2 2,oM 8 1,oC 9 77 [.t 7,.t 8],oV 10 (.not (.t 9))]) (.cond (.v 10) (.seq (rg [oV 4 (.newArr 1)]) .ret) .skip)) (.seq (rg [oV 5 (.newArr 1)]) (.seq (.seq (rg [oJ 6 0]) (.block 0 (.loop (.seq (.seq (rg [oM 11 6,oF 12 0 2,oL 13 12,oY 14 13,oU 15 11 14]) (.cond (.v 15) .skip (.exit 0))) (.seq (.block 1 (.seq (rg [oF 18 0 2,oL 19 18,oM 20 6,oA 21 6 19 20,oQ 22 1 21,oL 23 22,oM 24 1,oV 25 (.bin .eql (.t 23) (.t 24))]) (.cond (.v 25) (rg [oM 26 5,oF 27 0 2,oL 28 27,oM 29 6,oA 30 6 28 29,oQ 31 0 30,oL 32 31,oT 33 (.buildSlice 1 [.t 32]),oT 34 (.append 1 8 (.t 26) (.t 33)),oN 5 34]) .skip))) (rg [oM 16 6,oI 17 16,oN 6 17])))))) (.seq (rg [oM 35 5,oN 4 35]) .ret))))
def vf80 : VFunc:={ vs:=[0,1,2,4,5,6,10,15,25],nparams:=2,rets:=[.tmp (.v 4)],body:=vb80 }
def vb81 : VCode:=.seq (rg [oX 1 4 0,oV 2 (.move cF)]) (.seq (rg [oF 3 1 1,oL 4 3,oT 5 (.bin .geq (.t 4) (cI 0)),oP 6 5,gF 7 1 1 6 true,gL 8 7 6 true,oG 9 (.bin .leq (.t 8) (cI 16777216)) 6 true,oB 10 6 9,oP 11 10,gF 12 2 1 11 true,gL 13 12 11 true,oG 14 (.bin .geq (.t 13) (cI 0)) 11 true,oB 15 11 14,oP 16 15,gF 17 2 1 16 true,gL 18 17 16 true,oG 19 (.bin .leq (.t 18) (cI 16777216)) 16 true,oB 20 16 19,oP 21 20,gF 22 3 1 21 true,gL 23 22 21 true,oG 24 (.bin .geq (.t 23) (cI 0)) 21 true,oB 25 21 24,oP 26 25,gF 27 3 1 26 true,gL 28 27 26 true,oG 29 (.bin .leq (.t 28) (cI 16777216)) 26 true,oB 30 26 29,oN 2 30]) .ret)
def vf81 : VFunc:={ vs:=[0,1,2],nparams:=1,rets:=[.tmp (.v 2)],body:=vb81 }
end Go.V
namespace Go.V
def vb82 : VCode:=.seq (rg [oX 2 2 0,oX 3 4 1,oV 4 (.alloc [.nil 4,.c (.int .i64 0)])]) (.seq (rg [oV 5 (.newArr 4)]) (.seq (rg [oF 9 1 3,oL 10 9,oT 11 (.bin .eql (.t 10) (cI 0)),oP 12 11,gF 13 2 3 12 true,gL 14 13 12 true,oG 15 (.bin .eql (.t 14) (cI 0)) 12 true,oB 16 12 15,oP 17 16,gF 18 3 3 17 true,gL 19 18 17 true,oG 20 (.bin .eql (.t 19) (cI 0)) 17 true,oB 21 17 20,oN 6 21]) (.seq (.seq (rg [oJ 7 0]) (.block 0 (.loop (.seq (.seq (rg [oM 22 7,oF 23 0 2,oL 24 23,oY 25 24,oU 26 22 25]) (.cond (.v 26) .skip (.exit 0))) (.seq (.block 1 (.seq (rg [oF 29 0 2,oL 30 29,oM 31 7,oA 32 4 30 31,oR 33 4 32,oV 8 (.alloc [.c (.int .i64 0),.c (.int .i64 0),.c (.int .i64 0),.c (.int .i64 0)]),oS 4 8 33]) (.seq (.seq (rg [oM 34 6,oT 35 (.not (.t 34)),oP 36 35,gF 37 0 8 36 true,gL 38 37 36 true,gF 39 0 3 36 true,gL 40 39 36 true,oG 41 (.bin .geq (.t 38) (.t 40)) 36 true,oV 42 (.pick (.t 36) (.t 41) cF)]) (.cond (.v 42) (rg [oM 43 5,oK 44 4 3,oT 45 (.buildSlice 4 [.t 44]),oT 46 (.append 4 32 (.t 43) (.t 45)),oN 5 46,oV 6 (.move cT)]) .skip)) (.seq (rg [oF 47 0 8,oL 48 47,oF 49 0 3,oL 50 49,oV 51 (.bin .neq (.t 48) (.t 50))]) (.cond (.v 51) (rg [oM 52 5,oK 53 4 8,oT 54 (.buildSlice 4 [.t 53]),oT 55 (.append 4 32 (.t 52) (.t 54)),oN 5 55]) .skip))))) (rg [oM 27 7,oI 28 27,oN 7 28])))))) (.seq (.seq (rg [oM 56 6,oV 57 (.not (.t 56))]) (.cond (.v 57) (rg [oM 58 5,oK 59 4 3,oT 60 (.buildSlice 4 [.t 59]),oT 61 (.append 4 32 (.t 58) (.t 60)),oN 5 61]) .skip)) (.seq (rg [oM 62 5,oF 63 1 2,oL 64 63,oT 65 (.build [.a (.t 62) 0 1,.a (.t 64) 0 1]),oS 2 4 65]) .ret)))))
def vf82 : VFunc:={ vs:=[0,1,2,3,4,5,6,7,8,26,42,51,57],nparams:=2,rets:=[.cell (.v 4) (some 2)],body:=vb82 }
def vb83 : VCode:=.seq (rg [oX 2 2 0,oX 3 4 1,oV 4 (.alloc [.nil 4,.c (.int .i64 0)])]) (.seq (rg [oF 9 1 2,oL 10 9,oT 11 (.build [.z (.nil 4),.a (.t 10) 0 1]),oV 5 (.alloc [.nil 4,.c (.int .i64 0)]),oS 2 5 11]) (.seq (rg [oF 12 1 3,oL 13 12,oT 14 (.bin .eql (.t 13) (cI 0)),oP 15 14,gF 16 2 3 15 true,gL 17 16 15 true,oG 18 (.bin .eql (.t 17) (cI 0)) 15 true,oB 19 15 18,oP 20 19,gF 21 3 3 20 true,gL 22 21 20 true,oG 23 (.bin .eql (.t 22) (cI 0)) 20 true,oB 24 20 23,oN 6 24]) (.seq (.seq (rg [oF 25 0 2,oV 26 (.load none (.t 25)),oV 27 (.len (.v 26)),oJ 28 0]) (.block 0 (.loop (.seq (rg [oV 29 (.bin .lss (.v 28) (.v 27))]) (.seq (.cond (.v 29) .skip (.exit 0)) (.seq (.block 1 (.seq (rg [oT 30 (.indexAddr 4 (.v 26) (.v 28)),oR 31 4 30,oV 8 (.alloc [.c (.int .i64 0),.c (.int .i64 0),.c (.int .i64 0),.c (.int .i64 0)]),oS 4 8 31]) (.seq (.seq (rg [oM 32 6,oT 33 (.not (.t 32)),oP 34 33,gF 35 0 8 34 true,gL 36 35 34 true,gF 37 0 3 34 true,gL 38 37 34 true,oG 39 (.bin .geq (.t 36) (.t 38)) 34 true,oV 40 (.pick (.t 34) (.t 39) cF)]) (.cond (.v 40) (.seq (rg [oF 41 0 5,oL 42 41,oK 43 4 3,oT 44 (.buildSlice 4 [.t 43]),oT 45 (.append 4 32 (.t 42) (.t 44)),oF 46 0 5,oZ (.store 1 (.t 46) (.t 45))]) (rg [oV 6 (.move cT)])) .skip)) (.seq (rg [oF 47 0 8,oL 48 47,oF 49 0 3,oL 50 49,oV 51 (.bin .neq (.t 48) (.t 50))]) (.cond (.v 51) (rg [oF 52 0 5,oL 53 52,oK 54 4 8,oT 55 (.buildSlice 4 [.t 54]),oT 56 (.append 4 32 (.t 53) (.t 55)),oF 57 0 5,oZ (.store 1 (.t 57) (.t 56))]) .skip))))) (rg [oT 58 (.bin .add (.v 28) (cI 1)),oN 28 58]))))))) (.seq (.seq (rg [oM 59 6,oV 60 (.not (.t 59))]) (.cond (.v 60) (rg [oF 61 0 5,oL 62 61,oK 63 4 3,oT 64 (.buildSlice 4 [.t 63]),oT 65 (.append 4 32 (.t 62) (.t 64)),oF 66 0 5,oZ (.store 1 (.t 66) (.t 65))]) .skip)) (.seq (rg [oK 67 2 5,oS 2 4 67]) .ret)))))
def vf83 : VFunc:={ vs:=[0,1,2,3,4,5,6,8,26,27,28,29,40,51,60],nparams:=2,rets:=[.cell (.v 4) (some 2)],body:=vb83 }
def vb84 : VCode:=.seq (rg [oX 3 2 0,oX 4 2 1,oJ 6 0]) (.seq (rg [oJ 7 0]) (.seq (.seq (rg [oK 10 2 3,oM 11 2,oV 12 (.call 117 [.t 10,.t 11]),oV 13 (.len (.v 12)),oJ 14 0]) (.block 0 (.loop (.seq (rg [oV 15 (.bin .lss (.v 14) (.v 13))]) (.seq (.cond (.v 15) .skip (.exit 0)) (.seq (.block 1 (.seq (rg [oT 16 (.indexAddr 1 (.v 12) (.v 14)),oL 17 16,oN 9 17]) (rg [oM 18 7,oK 19 2 4,oM 20 9,oC 21 36 [.t 19,.t 20],oT 22 (.field 3 none (.t 21)),oT 23 (.bin .add (.t 18) (.t 22)),oN 7 23]))) (rg [oT 24 (.bin .add (.v 14) (cI 1)),oN 14 24]))))))) (.seq (rg [oM 25 7,oN 6 25]) .ret)))
def vf84 : VFunc:={ vs:=[0,1,2,3,4,6,7,9,12,13,14,15],nparams:=3,rets:=[.tmp (.v 6)],body:=vb84 }
def vb85 : VCode:=.seq (rg [oX 3 2 0,oX 4 2 1,oJ 6 0]) (.seq (rg [oJ 7 0]) (.seq (rg [oK 10 2 3,oM 11 2,oC 12 130 [.t 10,.t 11],oN 8 12]) (.seq (.seq (rg [oJ 9 0]) (.block 0 (.loop (.seq (.seq (rg [oM 13 9,oM 14 8,oY 15 14,oU 16 13 15]) (.cond (.v 16) .skip (.exit 0))) (.seq (.block 1 (rg [oM 19 7,oK 20 2 4,oM 21 8,oM 22 9,oA 23 1 21 22,oL 24 23,oC 25 37 [.t 20,.t 24],oT 26 (.field 3 none (.t 25)),oT 27 (.bin .add (.t 19) (.t 26)),oN 7 27])) (rg [oM 17 9,oI 18 17,oN 9 18])))))) (.seq (rg [oM 28 7,oN 6 28]) .ret))))
def vf85 : VFunc:={ vs:=[0,1,2,3,4,6,7,8,9,16],nparams:=3,rets:=[.tmp (.v 6)],body:=vb85 }
def vb86 : VCode:=.seq (rg [oX 1 2 0,oV 2 (.move cF)]) (.seq (.seq (rg [oF 6 0 1,oL 7 6,oY 8 7,oT 9 (.bin .lss (.t 8) (cI 1)),oP 10 9,gF 11 0 1 10 false,gL 12 11 10 false,oG 13 (.len (.t 12)) 10 false,oG 14 (.bin .gtr (.t 13) (cI 64)) 10 false,oO 15 10 14,oP 16 15,gF 17 0 1 16 false,gL 18 17 16 false,oG 19 (.indexAddr 6 (.t 18) (cI 0)) 16 false,oG 20 (.load (some 6) (.t 19)) 16 false,oG 21 (.call 131 [.t 20]) 16 false,oG 22 (.not (.t 21)) 16 false,oV 23 (.pick (.t 16) cT (.t 22))]) (.cond (.v 23) (.seq (rg [oV 2 (.move cF)]) .ret) .skip)) (.seq (rg [oT 24 (.makeMap (.int .i64)),oN 3 24]) (.seq (.seq (rg [oF 25 0 1,oV 26 (.load none (.t 25)),oV 27 (.len (.v 26)),oJ 28 0]) (.block 0 (.loop (.seq (rg [oV 29 (.bin .lss (.v 28) (.v 27))]) (.seq (.cond (.v 29) .skip (.exit 0)) (.seq (.block 1 (.seq (rg [oM 30 28,oT 31 (.indexAddr 6 (.v 26) (.v 28)),oR 32 6 31,oV 5 (.alloc [.c (.int .i64 0),.c (.int .i64 0),.c (.str ⟨#[]⟩),.c (.int .i64 0),.c (.int .i64 0),.c (.int .i64 0)]),oN 4 30,oS 6 5 32]) (.seq (.seq (.region ⟨[oF 33 3 5,oL 34 33,oT 35 (.bin .lss (.t 34) (cI 0)),oP 36 35,gF 37 3 5 36 false,gL 38 37 36 false,oG 39 (.bin .andNot (.t 38) (cI 31)) 36 false,oG 40 (.bin .neq (.t 39) (cI 0)) 36 false,oO 41 36 40,oP 42 41,gF 43 5 5 42 false,gL 44 43 42 false,oG 45 (.bin .lss (.t 44) (cI 0)) 42 false,oO 46 42 45,oP 47 46,gF 48 5 5 47 false,gL 49 48 47 false,oG 50 (.bin .gtr (.t 49) (cI 1048576)) 47 false,oO 51 47 50,oP 52 51,gM 53 4 52 false,oG 54 (.bin .gtr (.t 53) (cI 0)) 52 false,oG 55 (.move (.t 54)) 52 false,gF 56 0 1 55 true,gL 57 56 55 true,gM 58 4 55 true,oG 59 (.slice false 6 none (some (.t 58)) none (.t 57)) 55 true,oG 60 (.load (some 6) (.v 5)) 55 true,oG 61 (.call 132 [.t 59,.t 60]) 55 true,oG 62 (.not (.t 61)) 55 true,oG 63 (.pick (.t 55) (.t 62) cF) 52 false,oV 64 (.pick (.t 52) cT (.t 63))],[],[(26,27)]⟩) (.cond (.v 64) (.seq (rg [oV 2 (.move cF)]) .ret) .skip)) (.seq (.seq (rg [oM 65 4,oV 66 (.bin .gtr (.t 65) (cI 0))]) (.cond (.v 66) (rg [oM 67 3,oF 68 0 5,oL 69 68,oM 70 3,oF 71 1 5,oL 72 71,oT 73 (.lookup false (.int .i64) (.int .i64 0) (.t 70) (.t 72)),oI 74 73,oZ (.mapUpdate (.int .i64) (.t 67) (.t 69) (.t 74))]) .skip)) (.seq (rg [oM 75 3,oF 76 0 5,oL 77 76,oT 78 (.lookup false (.int .i64) (.int .i64 0) (.t 75) (.t 77)),oV 79 (.bin .gtr (.t 78) (cI 8))]) (.cond (.v 79) (.seq (rg [oV 2 (.move cF)]) .ret) .skip)))))) (rg [oT 80 (.bin .add (.v 28) (cI 1)),oN 28 80]))))))) (.seq (rg [oF 81 1 1,oL 82 81,oF 83 0 1,oL 84 83,oF 85 0 1,oL 86 85,oY 87 86,oT 88 (.bin .sub (.t 87) (cI 1)),oA 89 6 84 88,oQ 90 0 89,oL 91 90,oT 92 (.bin .gtr (.t 82) (.t 91)),oP 93 92,gF 94 1 1 93 true,gL 95 94 93 true,oG 96 (.bin .leq (.t 95) (cI 2147483648)) 93 true,oB 97 93 96,oN 2 97]) .ret))))
def vf86 : VFunc:={ vs:=[0,1,2,3,4,5,23,26,27,28,29,64,66,79],nparams:=1,rets:=[.tmp (.v 2)],body:=vb86 }
def vb87 : VCode:=.seq (rg [oX 2 2 0,oV 4 (.alloc [.c (.int .i64 0),.c (.int .i64 0),.c (.str ⟨#[]⟩),.c (.int .i64 0),.c (.int .i64 0),.c (.int .i64 0)]),oV 5 (.move cF)]) (.seq (rg [oK 7 2 2,oM 8 1,oC 9 133 [.t 7,.t 8],oN 6 9]) (.seq (.seq (rg [oM 10 6,oV 11 (.bin .lss (.t 10) (cI 0))]) (.cond (.v 11) (.seq (rg [oT 12 (.build [.z (.c (.int .i64 0)),.z (.c (.int .i64 0)),.z (.c (.str ⟨#[]⟩)),.z (.c (.int .i64 0)),.z (.c (.int .i64 0)),.z (.c (.int .i64 0))]),oS 6 4 12,oV 5 (.move cF)]) .ret) .skip)) (.seq (rg [oF 13 0 2,oL 14 13,oM 15 6,oA 16 6 14 15,oR 17 6 16,oS 6 4 17,oV 5 (.move cT)]) .ret)))
def vf87 : VFunc:={ vs:=[0,1,2,4,5,6,11],nparams:=2,rets:=[.cell (.v 4) (some 6),.tmp (.v 5)],body:=vb87 }
def vb88 : VCode:=.seq (rg [oX 4 2 0,oX 5 2 1,oJ 8 0]) (.seq (.region ⟨[oF 14 1 5,oL 15 14,oK 16 2 4,oK 17 2 5,oC 18 84 [.t 16,.t 17,.c (.int .i64 1)],oT 19 (.bin .sub (.t 15) (.t 18)),oN 9 19],[],[(1,4)]⟩) (.seq (.seq (rg [oK 20 2 4,oM 21 3,oV 22 (.call 134 [.t 20,.t 21]),oV 23 (.len (.v 22)),oJ 24 0]) (.block 0 (.loop (.seq (rg [oV 25 (.bin .lss (.v 24) (.v 23))]) (.seq (.cond (.v 25) .skip (.exit 0)) (.seq (.block 1 (.seq (rg [oT 26 (.indexAddr 1 (.v 22) (.v 24)),oL 27 26,oN 11 27]) (.seq (rg [oV 28 (.move (.v 2)),oV 29 (.len (.v 28)),oJ 30 0]) (.block 2 (.loop (.seq (rg [oV 31 (.bin .lss (.v 30) (.v 29))]) (.seq (.cond (.v 31) .skip (.exit 2)) (.seq (.block 3 (.seq (rg [oT 32 (.indexAddr 2 (.v 28) (.v 30)),oR 33 2 32,oV 13 (.alloc [.c (.int .i64 0),.c (.int .i64 0)]),oS 2 13 33]) (.seq (rg [oF 34 0 13,oL 35 34,oM 36 11,oV 37 (.bin .eql (.t 35) (.t 36))]) (.cond (.v 37) (.region ⟨[oM 38 9,oF 39 1 13,oL 40 39,oK 41 2 4,oK 42 2 5,oM 43 11,oC 44 84 [.t 41,.t 42,.t 43],oT 45 (.bin .sub (.t 40) (.t 44)),oT 46 (.minmax false [.t 38,.t 45]),oN 9 46],[],[(2,6)]⟩) .skip)))) (rg [oT 47 (.bin .add (.v 30) (cI 1)),oN 30 47]))))))))) (rg [oT 48 (.bin .add (.v 24) (cI 1)),oN 24 48]))))))) (.seq (rg [oM 49 9,oT 50 (.minmax true [.c (.int .i64 0),.t 49]),oN 8 50]) .ret)))
def vf88 : VFunc:={ vs:=[0,1,2,3,4,5,8,9,11,13,22,23,24,25,28,29,30,31,37],nparams:=4,rets:=[.tmp (.v 8)],body:=vb88 }
def vb89 : VCode:=.seq (rg [oX 2 2 0,oV 4 (.move cF)]) (.seq (.seq (rg [oK 6 2 2,oC 7 75 [.t 6],oV 8 (.not (.t 7))]) (.cond (.v 8) (.seq (rg [oV 4 (.move cF)]) .ret) .skip)) (.seq (.seq (rg [oJ 5 0]) (.block 0 (.loop (.seq (.seq (rg [oM 9 5,oM 10 1,oY 11 10,oU 12 9 11]) (.cond (.v 12) .skip (.exit 0))) (.seq (.block 1 (.seq (rg [oK 15 2 2,oM 16 1,oM 17 5,oA 18 2 16 17,oQ 19 0 18,oL 20 19,oC 21 77 [.t 15,.t 20],oT 22 (.not (.t 21)),oP 23 22,gM 24 5 23 false,oG 25 (.bin .gtr (.t 24) (cI 0)) 23 false,oG 26 (.move (.t 25)) 23 false,gM 27 1 26 true,gM 28 5 26 true,oG 29 (.indexAddr 2 (.t 27) (.t 28)) 26 true,oG 30 (.fieldAddr 0 (.t 29)) 26 true,gL 31 30 26 true,gM 32 1 26 true,gM 33 5 26 true,oG 34 (.bin .sub (.t 33) (cI 1)) 26 true,oG 35 (.indexAddr 2 (.t 32) (.t 34)) 26 true,oG 36 (.fieldAddr 0 (.t 35)) 26 true,gL 37 36 26 true,oG 38 (.bin .leq (.t 31) (.t 37)) 26 true,oG 39 (.pick (.t 26) (.t 38) cF) 23 false,oO 40 23 39,oP 41 40,gM 42 1 41 false,gM 43 5 41 false,oG 44 (.indexAddr 2 (.t 42) (.t 43)) 41 false,oG 45 (.fieldAddr 1 (.t 44)) 41 false,gL 46 45 41 false,oG 47 (.bin .lss (.t 46) (cI 0)) 41 false,oO 48 41 47,oP 49 48,gM 50 1 49 false,gM 51 5 49 false,oG 52 (.indexAddr 2 (.t 50) (.t 51)) 49 false,oG 53 (.fieldAddr 1 (.t 52)) 49 false,gL 54 53 49 false,oG 55 (.bin .gtr (.t 54) (cI 4611686018427387904)) 49 false,oV 56 (.pick (.t 49) cT (.t 55))]) (.cond (.v 56) (.seq (rg [oV 4 (.move cF)]) .ret) .skip))) (rg [oM 13 5,oI 14 13,oN 5 14])))))) (.seq (rg [oV 4 (.move cT)]) .ret)))
def vf89 : VFunc:={ vs:=[0,1,2,4,5,8,12,56],nparams:=2,rets:=[.tmp (.v 4)],body:=vb89 }
def vb90 : VCode:=.seq (rg [oX 4 2 0,oX 5 2 1,oJ 8 0]) (.seq (.region ⟨[oF 12 1 5,oL 13 12,oK 14 2 4,oK 15 2 5,oC 16 85 [.t 14,.t 15,.c (.int .i64 1)],oT 17 (.bin .sub (.t 13) (.t 16)),oN 9 17],[],[(1,4)]⟩) (.seq (rg [oK 18 2 4,oM 19 3,oC 20 102 [.t 18,.t 19],oN 10 20]) (.seq (.seq (rg [oJ 11 0]) (.block 0 (.loop (.seq (.seq (rg [oM 21 11,oM 22 10,oY 23 22,oU 24 21 23]) (.cond (.v 24) .skip (.exit 0))) (.seq (.block 1 (.region ⟨[oM 27 9,oM 28 2,oM 29 10,oM 30 11,oA 31 1 29 30,oL 32 31,oC 33 135 [.t 28,.t 32],oK 34 2 4,oK 35 2 5,oM 36 10,oM 37 11,oA 38 1 36 37,oL 39 38,oC 40 85 [.t 34,.t 35,.t 39],oT 41 (.bin .sub (.t 33) (.t 40)),oT 42 (.minmax false [.t 27,.t 41]),oN 9 42],[],[(6,7),(6,8),(6,11),(6,12)]⟩)) (rg [oM 25 11,oI 26 25,oN 11 26])))))) (.seq (rg [oM 43 9,oT 44 (.minmax true [.c (.int .i64 0),.t 43]),oN 8 44]) .ret))))
def vf90 : VFunc:={ vs:=[0,1,2,3,4,5,8,9,10,11,24],nparams:=4,rets:=[.tmp (.v 8)],body:=vb90 }
def vb91 : VCode:=.seq (rg [oX 2 2 0,oV 4 (.move cF)]) (.seq (.seq (rg [oK 7 2 2,oC 8 75 [.t 7],oV 9 (.not (.t 8))]) (.cond (.v 9) (.seq (rg [oV 4 (.move cF)]) .ret) .skip)) (.seq (.seq (rg [oJ 5 0]) (.block 0 (.loop (.seq (.seq (rg [oM 10 5,oM 11 1,oY 12 11,oU 13 10 12]) (.cond (.v 13) .skip (.exit 0))) (.seq (.block 1 (.seq (rg [oM 16 1,oM 17 5,oA 18 3 16 17,oR 19 3 18,oV 6 (.alloc [.c (.int .i64 0),.c (.int .i64 0),.c (.int .i64 0)]),oS 3 6 19]) (.seq (rg [oK 20 2 2,oF 21 0 6,oL 22 21,oC 23 77 [.t 20,.t 22],oT 24 (.not (.t 23)),oP 25 24,gM 26 5 25 false,oG 27 (.bin .gtr (.t 26) (cI 0)) 25 false,oG 28 (.move (.t 27)) 25 false,gF 29 0 6 28 true,gL 30 29 28 true,gM 31 1 28 true,gM 32 5 28 true,oG 33 (.bin .sub (.t 32) (cI 1)) 28 true,oG 34 (.indexAddr 3 (.t 31) (.t 33)) 28 true,oG 35 (.fieldAddr 0 (.t 34)) 28 true,gL 36 35 28 true,oG 37 (.bin .leq (.t 30) (.t 36)) 28 true,oG 38 (.pick (.t 28) (.t 37) cF) 25 false,oO 39 25 38,oP 40 39,gF 41 1 6 40 false,gL 42 41 40 false,oG 43 (.bin .lss (.t 42) (cI 0)) 40 false,oO 44 40 43,oP 45 44,gF 46 1 6 45 false,gL 47 46 45 false,oG 48 (.bin .gtr (.t 47) (cI 4611686018427387904)) 45 false,oO 49 45 48,oP 50 49,gF 51 2 6 50 false,gL 52 51 50 false,oG 53 (.bin .lss (.t 52) (cI 0)) 50 false,oO 54 50 53,oP 55 54,gF 56 2 6 55 false,gL 57 56 55 false,oG 58 (.bin .gtr (.t 57) (cI 4611686018427387904)) 55 false,oV 59 (.pick (.t 55) cT (.t 58))]) (.cond (.v 59) (.seq (rg [oV 4 (.move cF)]) .ret) .skip)))) (rg [oM 14 5,oI 15 14,oN 5 15])))))) (.seq (rg [oV 4 (.move cT)]) .ret)))
def vf91 : VFunc:={ vs:=[0,1,2,4,5,6,9,13,59],nparams:=2,rets:=[.tmp (.v 4)],body:=vb91 }
def vb92 : VCode:=.seq (rg [oX 4 2 0,oX 5 1 1,oV 8 (.newArr 3),oJ 9 0]) (.seq (.seq (rg [oK 13 2 4,oK 14 1 5,oC 15 136 [.t 13,.t 14],oT 16 (.not (.t 15)),oP 17 16,oG 18 (.load (some 2) (.v 4)) 17 false,gM 19 2 17 false,oG 20 (.call 91 [.t 18,.t 19]) 17 false,oG 21 (.not (.t 20)) 17 false,oV 22 (.pick (.t 17) cT (.t 21))]) (.cond (.v 22) (.seq (rg [oV 8 (.newArr 3),oJ 9 1]) .ret) .skip)) (.seq (.seq (rg [oK 23 2 4,oM 24 3,oC 25 77 [.t 23,.t 24],oV 26 (.not (.t 25))]) (.cond (.v 26) (.seq (rg [oV 8 (.newArr 3),oJ 9 4]) .ret) .skip)) (.seq (rg [oV 10 (.newArr 3)]) (.seq (rg [oK 27 2 4,oM 28 3,oC 29 130 [.t 27,.t 28],oC 30 137 [.t 29],oN 11 30]) (.seq (.seq (rg [oJ 12 0]) (.block 0 (.loop (.seq (.seq (rg [oM 31 12,oM 32 11,oY 33 32,oU 34 31 33]) (.cond (.v 34) .skip (.exit 0))) (.seq (.block 1 (.region ⟨[oM 37 10,oM 38 11,oM 39 12,oA 40 1 38 39,oL 41 40,oK 42 2 4,oK 43 1 5,oM 44 2,oM 45 3,oM 46 11,oM 47 12,oA 48 1 46 47,oL 49 48,oC 50 138 [.t 42,.t 43,.t 44,.t 45,.t 49,.c (.bool false)],oK 51 2 4,oK 52 1 5,oM 53 2,oM 54 3,oM 55 11,oM 56 12,oA 57 1 55 56,oL 58 57,oC 59 138 [.t 51,.t 52,.t 53,.t 54,.t 58,.c (.bool true)],oT 60 (.build [.a (.t 41) 0 1,.a (.t 50) 0 1,.a (.t 59) 0 1]),oT 61 (.buildSlice 3 [.t 60]),oT 62 (.append 3 24 (.t 37) (.t 61)),oN 10 62],[],[(3,13),(4,13),(13,14),(13,15),(13,20),(13,21),(3,22),(4,22)]⟩)) (rg [oM 35 12,oI 36 35,oN 12 36])))))) (.seq (rg [oM 63 10,oN 8 63,oJ 9 0]) .ret))))))
def vf92 : VFunc:={ vs:=[0,1,2,3,4,5,8,9,10,11,12,22,26,34],nparams:=4,rets:=[.tmp (.v 8),.tmp (.v 9)],body:=vb92 }
def vb93 : VCode:=.seq (rg [oX 4 2 0,oV 8 (.newArr 2),oJ 9 0]) (.seq (.seq (rg [oK 14 2 4,oM 15 1,oM 16 2,oC 17 139 [.t 14,.t 15,.t 16],oV 18 (.not (.t 17))]) (.cond (.v 18) (.seq (rg [oV 8 (.newArr 2),oJ 9 1]) .ret) .skip)) (.seq (.seq (rg [oM 19 3,oT 20 (.bin .lss (.t 19) (cI 0)),oP 21 20,gM 22 3 21 false,oG 23 (.bin .gtr (.t 22) (cI 16777216)) 21 false,oV 24 (.pick (.t 21) cT (.t 23))]) (.cond (.v 24) (.seq (rg [oV 8 (.newArr 2),oJ 9 3]) .ret) .skip)) (.seq (rg [oT 25 (.makeMap (.int .i64)),oN 10 25]) (.seq (.region ⟨[oK 26 2 4,oM 27 1,oM 28 2,oM 29 3,oK 30 2 4,oM 31 1,oM 32 2,oC 33 141 [.t 30,.t 31,.t 32],oT 34 (.minmax false [.t 29,.t 33]),oM 35 10,oT 36 (.callW 140 [.t 26,.t 27,.t 28,.t 34,.t 35])],[],[(0,7)]⟩) (.seq (rg [oV 11 (.newArr 2)]) (.seq (.seq (rg [oJ 12 0]) (.block 0 (.loop (.seq (.seq (rg [oM 37 12,oM 38 1,oY 39 38,oU 40 37 39]) (.cond (.v 40) .skip (.exit 0))) (.seq (.block 1 (.seq (rg [oM 43 10,oM 44 1,oM 45 12,oA 46 5 44 45,oQ 47 0 46,oL 48 47,oT 49 (.lookup false (.int .i64) (.int .i64 0) (.t 43) (.t 48)),oN 13 49]) (.seq (rg [oM 50 13,oV 51 (.bin .gtr (.t 50) (cI 0))]) (.cond (.v 51) (rg [oM 52 11,oM 53 1,oM 54 12,oA 55 5 53 54,oQ 56 0 55,oL 57 56,oM 58 13,oT 59 (.build [.a (.t 57) 0 1,.a (.t 58) 0 1]),oT 60 (.buildSlice 2 [.t 59]),oT 61 (.append 2 16 (.t 52) (.t 60)),oN 11 61]) .skip)))) (rg [oM 41 12,oI 42 41,oN 12 42])))))) (.seq (rg [oM 62 11,oN 8 62,oJ 9 0]) .ret)))))))
def vf93 : VFunc:={ vs:=[0,1,2,3,4,8,9,10,11,12,13,18,24,40,51],nparams:=4,rets:=[.tmp (.v 8),.tmp (.v 9)],body:=vb93 }
def vb94 : VCode:=.seq (rg [oX 6 2 0,oX 7 2 1,oV 12 (.newArr 5)]) (.seq (rg [oV 13 (.newArr 5)]) (.seq (.seq (rg [oJ 14 0]) (.block 0 (.loop (.seq (.seq (rg [oM 16 14,oM 17 2,oY 18 17,oU 19 16 18]) (.cond (.v 19) .skip (.exit 0))) (.seq (.block 1 (.seq (.region ⟨[oM 22 2,oM 23 14,oA 24 3 22 23,oQ 25 0 24,oL 26 25,oK 27 2 6,oK 28 2 7,oM 29 2,oM 30 14,oA 31 3 29 30,oQ 32 0 31,oL 33 32,oC 34 103 [.t 27,.t 28,.t 33],oM 35 2,oM 36 14,oA 37 3 35 36,oQ 38 1 37,oL 39 38,oK 40 2 7,oM 41 2,oM 42 14,oA 43 3 41 42,oQ 44 0 43,oL 45 44,oC 46 37 [.t 40,.t 45],oT 47 (.field 1 none (.t 46)),oT 48 (.build [.a (.t 26) 0 1,.a (.t 34) 0 1,.a (.t 39) 0 1,.a (.t 47) 0 1,.a (cI 4611686018427387904) 0 1]),oV 15 (.alloc [.c (.int .i64 0),.c (.int .i64 0),.c (.int .i64 0),.c (.int .i64 0),.c (.int .i64 0)]),oS 5 15 48],[],[(2,12),(4,12),(12,15),(12,17),(12,18),(12,21),(12,23),(2,24),(4,24),(15,24),(17,24),(2,27),(4,27),(5,27),(6,27),(9,27),(11,27),(12,27),(15,27),(17,27),(18,27),(21,27),(23,27),(24,27),(26,27)]⟩) (.seq (.seq (rg [oV 49 (.move (.v 4))]) (.cond (.v 49) (rg [oM 50 2,oM 51 14,oA 52 3 50 51,oQ 53 1 52,oL 54 53,oM 55 2,oM 56 14,oA 57 3 55 56,oQ 58 2 57,oL 59 58,oT 60 (.minmax true [.t 54,.t 59]),oF 61 2 15,oZ (.store 1 (.t 61) (.t 60))]) .skip)) (.seq (.seq (rg [oV 62 (.move (.v 5))]) (.cond (.v 62) (.region ⟨[oK 63 2 7,oM 64 2,oM 65 14,oA 66 3 64 65,oQ 67 0 66,oL 68 67,oC 69 37 [.t 63,.t 68],oT 70 (.field 2 none (.t 69)),oK 71 2 6,oK 72 2 7,oM 73 3,oM 74 2,oM 75 14,oA 76 3 74 75,oQ 77 0 76,oL 78 77,oC 79 90 [.t 71,.t 72,.t 73,.t 78],oF 80 3 15,oZ (.store 1 (.t 80) (.t 70)),oF 81 4 15,oZ (.store 1 (.t 81) (.t 79))],[],[(6,8),(6,9),(6,13),(6,15)]⟩) .skip)) (rg [oM 82 13,oK 83 5 15,oT 84 (.buildSlice 5 [.t 83]),oT 85 (.append 5 40 (.t 82) (.t 84)),oN 13 85]))))) (rg [oM 20 14,oI 21 20,oN 14 21])))))) (.seq (rg [oM 86 13,oN 12 86]) .ret)))
def vf94 : VFunc:={ vs:=[0,1,2,3,4,5,6,7,12,13,14,15,19,49,62],nparams:=6,rets:=[.tmp (.v 12)],body:=vb94 }
def vb95 : VCode:=.seq (rg [oX 3 4 1,oV 4 (.newArr 4)]) (.seq (rg [oJ 5 0]) (.seq (.block 0 (.loop (.seq (.seq (rg [oM 6 5,oM 7 0,oY 8 7,oT 9 (.bin .lss (.t 6) (.t 8)),oP 10 9,gM 11 0 10 true,gM 12 5 10 true,oG 13 (.indexAddr 4 (.t 11) (.t 12)) 10 true,oG 14 (.fieldAddr 0 (.t 13)) 10 true,gL 15 14 10 true,gF 16 0 3 10 true,gL 17 16 10 true,oG 18 (.bin .lss (.t 15) (.t 17)) 10 true,oV 19 (.pick (.t 10) (.t 18) cF)]) (.cond (.v 19) .skip (.exit 0))) (.block 1 (rg [oM 20 5,oI 21 20,oN 5 21]))))) (.seq (.seq (rg [oM 22 5,oM 23 0,oY 24 23,oT 25 (.bin .lss (.t 22) (.t 24)),oP 26 25,gM 27 0 26 true,gM 28 5 26 true,oG 29 (.indexAddr 4 (.t 27) (.t 28)) 26 true,oG 30 (.fieldAddr 0 (.t 29)) 26 true,gL 31 30 26 true,gF 32 0 3 26 true,gL 33 32 26 true,oG 34 (.bin .eql (.t 31) (.t 33)) 26 true,oV 35 (.pick (.t 26) (.t 34) cF)]) (.cond (.v 35) (.seq (.region ⟨[oM 36 0,oM 37 5,oM 38 0,oM 39 5,oM 40 0,oM 41 5,oM 42 0,oM 43 5,oA 44 4 42 43,oQ 45 1 44,oL 46 45,oF 47 1 3,oL 48 47,oT 49 (.bin .add (.t 46) (.t 48)),oM 50 0,oM 51 5,oA 52 4 50 51,oQ 53 2 52,oL 54 53,oF 55 2 3,oL 56 55,oT 57 (.bin .add (.t 54) (.t 56)),oM 58 0,oM 59 5,oA 60 4 58 59,oQ 61 3 60,oL 62 61,oF 63 3 3,oL 64 63,oT 65 (.bin .add (.t 62) (.t 64)),oA 66 4 36 37,oQ 67 1 66,oZ (.store 1 (.t 67) (.t 49)),oA 68 4 38 39,oQ 69 2 68,oZ (.store 1 (.t 69) (.t 57)),oA 70 4 40 41,oQ 71 3 70,oZ (.store 1 (.t 71) (.t 65))],[],[(20,32),(28,32),(28,35)]⟩) (.seq (rg [oM 72 0,oN 4 72]) .ret)) .skip)) (.seq (.region ⟨[oM 73 0,oM 74 5,oM 75 5,oT 76 (.slice false 4 none (some (.t 74)) (some (.t 75)) (.t 73)),oK 77 4 3,oT 78 (.buildSlice 4 [.t 77]),oM 79 0,oM 80 5,oT 81 (.slice false 4 (some (.t 80)) none none (.t 79)),oT 82 (.append 4 32 (.t 78) (.t 81)),oT 83 (.append 4 32 (.t 76) (.t 82)),oN 4 83],[],[(3,4),(3,5),(3,8),(4,8),(5,8),(3,9)]⟩) .ret))))
def vf95 : VFunc:={ vs:=[0,1,3,4,5,19,35],nparams:=2,rets:=[.tmp (.v 4)],body:=vb95 }
def vb96 : VCode:=.seq (rg [oX 2 2 0,oV 4 (.newArr 1)]) (.seq (rg [oV 5 (.newArr 1)]) (.seq (.seq (rg [oF 8 0 2,oV 9 (.load none (.t 8)),oV 10 (.len (.v 9)),oJ 11 0]) (.block 0 (.loop (.seq (rg [oV 12 (.bin .lss (.v 11) (.v 10))]) (.seq (.cond (.v 12) .skip (.exit 0)) (.seq (.block 1 (.seq (rg [oT 13 (.indexAddr 6 (.v 9) (.v 11)),oR 14 6 13,oV 7 (.alloc [.c (.int .i64 0),.c (.int .i64 0),.c (.str ⟨#[]⟩),.c (.int .i64 0),.c (.int .i64 0),.c (.int .i64 0)]),oS 6 7 14]) (.seq (rg [oF 15 1 7,oL 16 15,oM 17 1,oV 18 (.bin .eql (.t 16) (.t 17))]) (.cond (.v 18) (rg [oM 19 5,oF 20 0 7,oL 21 20,oT 22 (.buildSlice 1 [.t 21]),oT 23 (.append 1 8 (.t 19) (.t 22)),oN 5 23]) .skip)))) (rg [oT 24 (.bin .add (.v 11) (cI 1)),oN 11 24]))))))) (.seq (rg [oM 25 5,oN 4 25]) .ret)))
def vf96 : VFunc:={ vs:=[0,1,2,4,5,7,9,10,11,12,18],nparams:=2,rets:=[.tmp (.v 4)],body:=vb96 }
def vb97 : VCode:=.seq (rg [oX 2 2 0,oJ 4 0,oJ 5 0]) (.seq (rg [oK 9 2 2,oM 10 1,oC 11 129 [.t 9,.t 10],oP 8 11,oE 12 8 0,oE 13 8 1,oV 6 (.alloc [.c (.int .i64 0),.c (.int .i64 0),.c (.str ⟨#[]⟩),.c (.int .i64 0),.c (.int .i64 0),.c (.int .i64 0)]),oS 6 6 12,oN 7 13]) (.seq (.block 0 (.seq (rg [oM 15 7,oT 16 (.not (.t 15)),oN 14 16]) (.cond (.v 14) (.seq (rg [oJ 4 0,oJ 5 4]) .ret) (.seq (rg [oM 18 1,oT 19 (.bin .eql (.t 18) (cI 1)),oN 17 19]) (.cond (.v 17) (.seq (rg [oJ 4 0,oJ 5 3]) .ret) (.seq (rg [oK 21 2 2,oM 22 1,oC 23 80 [.t 21,.t 22],oY 24 23,oT 25 (.bin .gtr (.t 24) (cI 0)),oN 20 25]) (.cond (.v 20) (.seq (rg [oJ 4 0,oJ 5 6]) .ret) .skip))))))) (.seq (rg [oF 26 1 6,oL 27 26,oN 4 27,oJ 5 0]) .ret)))
def vf97 : VFunc:={ vs:=[0,1,2,4,5,6,7,14,17,20],nparams:=2,rets:=[.tmp (.v 4),.tmp (.v 5)],body:=vb97 }
def vb102 : VCode:=.seq (rg [oX 2 2 0,oV 4 (.newArr 1)]) (.seq (.seq (rg [oK 5 2 2,oM 6 1,oC 7 77 [.t 5,.t 6],oV 8 (.not (.t 7))]) (.cond (.v 8) (.seq (rg [oV 4 (.newArr 1)]) .ret) .skip)) (.seq (rg [oK 9 2 2,oM 10 1,oC 11 128 [.t 9,.t 10],oN 4 11]) .ret))
def vf102 : VFunc:={ vs:=[0,1,2,4,8],nparams:=2,rets:=[.tmp (.v 4)],body:=vb102 }
def vb103 : VCode:=.seq (rg [oX 3 2 0,oX 4 2 1,oJ 6 0]) (.seq (.region ⟨[oK 7 2 3,oK 8 2 4,oC 9 35 [.t 8],oM 10 2,oC 11 144 [.t 7,.t 9,.t 10],oN 6 11],[],[(0,2)]⟩) .ret)
def vf103 : VFunc:={ vs:=[0,1,2,3,4,6],nparams:=3,rets:=[.tmp (.v 6)],body:=vb103 }
def vb111 : VCode:=.seq (rg [oX 2 2 0,oX 3 1 1,oV 4 (.move cF)]) (.seq (.seq (rg [oK 10 2 2,oC 11 86 [.t 10],oV 12 (.not (.t 11))]) (.cond (.v 12) (.seq (rg [oV 4 (.move cF)]) .ret) .skip)) (.seq (rg [oJ 5 0]) (.seq (.seq (rg [oF 13 0 3,oV 14 (.load none (.t 13)),oV 15 (.len (.v 14)),oJ 16 0]) (.block 0 (.loop (.seq (rg [oV 17 (.bin .lss (.v 16) (.v 15))]) (.seq (.cond (.v 17) .skip (.exit 0)) (.seq (.block 1 (.seq (rg [oM 18 16,oT 19 (.indexAddr 2 (.v 14) (.v 16)),oR 20 2 19,oV 7 (.alloc [.c (.int .i64 0),.c (.int .i64 0)]),oN 6 18,oS 2 7 20]) (.seq (.seq (rg [oK 22 2 2,oF 23 0 7,oL 24 23,oC 25 87 [.t 22,.t 24],oP 21 25,oE 26 21 0,oE 27 21 1,oT 8 (.alloc [.c (.int .i64 0),.c (.int .i64 0),.c (.str ⟨#[]⟩),.c (.int .i64 0),.c (.int .i64 0),.c (.int .i64 0)]),oZ (.store 6 (.t 8) (.t 26)),oN 9 27]) (.seq (rg [oM 28 9,oT 29 (.not (.t 28)),oP 30 29,gM 31 6 30 false,oG 32 (.bin .gtr (.t 31) (cI 0)) 30 false,oG 33 (.move (.t 32)) 30 false,gF 34 0 7 33 true,gL 35 34 33 true,gF 36 0 3 33 true,gL 37 36 33 true,gM 38 6 33 true,oG 39 (.bin .sub (.t 38) (cI 1)) 33 true,oG 40 (.indexAddr 2 (.t 37) (.t 39)) 33 true,oG 41 (.fieldAddr 0 (.t 40)) 33 true,gL 42 41 33 true,oG 43 (.bin .leq (.t 35) (.t 42)) 33 true,oG 44 (.pick (.t 33) (.t 43) cF) 30 false,oO 45 30 44,oP 46 45,gF 47 1 7 46 false,gL 48 47 46 false,oG 49 (.bin .lss (.t 48) (cI 1)) 46 false,oO 50 46 49,oP 51 50,gF 52 1 7 51 false,gL 53 52 51 false,gM 54 5 51 false,oG 55 (.bin .sub (cI 16777216) (.t 54)) 51 false,oG 56 (.bin .gtr (.t 53) (.t 55)) 51 false,oV 57 (.pick (.t 51) cT (.t 56))]) (.cond (.v 57) (.seq (rg [oV 4 (.move cF)]) .ret) .skip))) (rg [oM 58 5,oF 59 1 7,oL 60 59,oT 61 (.bin .add (.t 58) (.t 60)),oN 5 61])))) (rg [oT 62 (.bin .add (.v 16) (cI 1)),oN 16 62]))))))) (.seq (rg [oV 4 (.move cT)]) .ret))))
def vf111 : VFunc:={ vs:=[0,1,2,3,4,5,6,7,9,12,14,15,16,17,57],nparams:=2,rets:=[.tmp (.v 4)],body:=vb111 }
def vb112 : VCode:=.seq (rg [oX 2 2 0,oX 3 1 1,oV 4 (.newArr 2),oJ 5 0]) (.seq (.seq (rg [oK 10 2 2,oK 11 1 3,oC 12 111 [.t 10,.t 11],oV 13 (.not (.t 12))]) (.cond (.v 13) (.seq (rg [oV 4 (.newArr 2),oJ 5 1]) .ret) .skip)) (.seq (rg [oV 6 (.newArr 2)]) (.seq (rg [oK 14 2 2,oK 15 1 3,oC 16 147 [.t 14,.t 15],oN 7 16]) (.seq (.seq (rg [oF 17 0 2,oV 18 (.load none (.t 17)),oV 19 (.len (.v 18)),oJ 20 0]) (.block 0 (.loop (.seq (rg [oV 21 (.bin .lss (.v 20) (.v 19))]) (.seq (.cond (.v 21) .skip (.exit 0)) (.seq (.block 1 (.seq (rg [oT 22 (.indexAddr 6 (.v 18) (.v 20)),oR 23 6 22,oV 9 (.alloc [.c (.int .i64 0),.c (.int .i64 0),.c (.str ⟨#[]⟩),.c (.int .i64 0),.c (.int .i64 0),.c (.int .i64 0)]),oS 6 9 23]) (.seq (rg [oM 24 7,oF 25 0 9,oL 26 25,oT 27 (.lookup false (.int .i64) (.int .i64 0) (.t 24) (.t 26)),oV 28 (.bin .gtr (.t 27) (cI 0))]) (.cond (.v 28) (rg [oM 29 6,oF 30 0 9,oL 31 30,oM 32 7,oF 33 0 9,oL 34 33,oT 35 (.lookup false (.int .i64) (.int .i64 0) (.t 32) (.t 34)),oT 36 (.build [.a (.t 31) 0 1,.a (.t 35) 0 1]),oT 37 (.buildSlice 2 [.t 36]),oT 38 (.append 2 16 (.t 29) (.t 37)),oN 6 38]) .skip)))) (rg [oT 39 (.bin .add (.v 20) (cI 1)),oN 20 39]))))))) (.seq (rg [oM 40 6,oN 4 40,oJ 5 0]) .ret)))))
def vf112 : VFunc:={ vs:=[0,1,2,3,4,5,6,7,9,13,18,19,20,21,28],nparams:=2,rets:=[.tmp (.v 4),.tmp (.v 5)],body:=vb112 }
def vb113 : VCode:=.seq (rg [oX 4 2 0,oV 8 (.move (.c (.map .bool [] [])))]) (.seq (rg [oT 18 (.makeMap (.int .i64)),oN 9 18]) (.seq (.seq (rg [oK 19 2 4,oM 20 3,oV 21 (.call 117 [.t 19,.t 20]),oV 22 (.len (.v 21)),oJ 23 0]) (.block 0 (.loop (.seq (.region ⟨[oV 24 (.bin .lss (.v 23) (.v 22))],[29],[]⟩) (.seq (.cond (.v 24) .skip (.exit 0)) (.seq (.block 1 (.seq (rg [oT 25 (.indexAddr 1 (.v 21) (.v 23)),oL 26 25,oN 11 26]) (.seq (rg [oK 27 2 4,oM 28 11,oC 29 96 [.t 27,.t 28],oN 12 29]) (.seq (rg [oJ 13 0]) (.seq (.seq (rg [oV 30 (.move (.v 12)),oV 31 (.len (.v 30)),oJ 32 0]) (.block 2 (.loop (.seq (rg [oV 33 (.bin .lss (.v 32) (.v 31))]) (.seq (.cond (.v 33) .skip (.exit 2)) (.seq (.block 3 (.seq (rg [oT 34 (.indexAddr 1 (.v 30) (.v 32)),oL 35 34,oN 15 35]) (rg [oM 36 13,oM 37 1,oM 38 15,oT 39 (.lookup false (.int .i64) (.int .i64 0) (.t 37) (.t 38)),oM 40 2,oM 41 15,oT 42 (.lookup false (.int .i64) (.int .i64 0) (.t 40) (.t 41)),oT 43 (.minmax false [.t 39,.t 42]),oT 44 (.bin .add (.t 36) (.t 43)),oN 13 44]))) (rg [oT 45 (.bin .add (.v 32) (cI 1)),oN 32 45]))))))) (.seq (rg [oV 46 (.move (.v 12)),oV 47 (.len (.v 46)),oJ 48 0]) (.block 4 (.loop (.seq (rg [oV 49 (.bin .lss (.v 48) (.v 47))]) (.seq (.cond (.v 49) .skip (.exit 4)) (.seq (.block 5 (.seq (rg [oT 50 (.indexAddr 1 (.v 46) (.v 48)),oL 51 50,oN 17 51]) (.seq (rg [oM 52 9,oM 53 17,oM 54 1,oM 55 17,oT 56 (.lookup false (.int .i64) (.int .i64 0) (.t 54) (.t 55)),oM 57 2,oM 58 17,oT 59 (.lookup false (.int .i64) (.int .i64 0) (.t 57) (.t 58)),oT 60 (.minmax false [.t 56,.t 59]),oZ (.mapUpdate (.int .i64) (.t 52) (.t 53) (.t 60))]) (.seq (rg [oM 61 11,oM 62 3,oT 63 (.bin .neq (.t 61) (.t 62)),oP 64 63,gM 65 13 64 true,gM 66 9 64 true,gM 67 11 64 true,oG 68 (.lookup false (.int .i64) (.int .i64 0) (.t 66) (.t 67)) 64 true,oG 69 (.bin .gtr (.t 65) (.t 68)) 64 true,oV 70 (.pick (.t 64) (.t 69) cF)]) (.cond (.v 70) (rg [oM 71 9,oM 72 17,oM 73 9,oM 74 17,oT 75 (.lookup false (.int .i64) (.int .i64 0) (.t 73) (.t 74)),oM 76 9,oM 77 11,oT 78 (.lookup false (.int .i64) (.int .i64 0) (.t 76) (.t 77)),oT 79 (.bin .mul (.t 75) (.t 78)),oM 80 13,oT 81 (.bin .quo (.t 79) (.t 80)),oZ (.mapUpdate (.int .i64) (.t 71) (.t 72) (.t 81))]) .skip))))) (rg [oT 82 (.bin .add (.v 48) (cI 1)),oN 48 82])))))))))))) (rg [oT 83 (.bin .add (.v 23) (cI 1)),oN 23 83]))))))) (.seq (rg [oM 84 9,oN 8 84]) .ret)))
def vf113 : VFunc:={ vs:=[0,1,2,3,4,8,9,11,12,13,15,17,21,22,23,24,30,31,32,33,46,47,48,49,70],nparams:=4,rets:=[.tmp (.v 8)],body:=vb113 }
def vb114 : VCode:=.seq (rg [oV 4 (.move (.c (.map .bool [] [])))]) (.seq (rg [oT 8 (.makeMap (.int .i64)),oN 5 8]) (.seq (.seq (rg [oV 9 (.move (.v 0)),oV 10 (.len (.v 9)),oJ 11 0]) (.block 0 (.loop (.seq (rg [oV 12 (.bin .lss (.v 11) (.v 10))]) (.seq (.cond (.v 12) .skip (.exit 0)) (.seq (.block 1 (.seq (rg [oT 13 (.indexAddr 3 (.v 9) (.v 11)),oR 14 3 13,oV 7 (.alloc [.c (.int .i64 0),.c (.int .i64 0),.c (.int .i64 0)]),oS 3 7 14]) (.region ⟨[oM 15 5,oF 16 0 7,oL 17 16,oM 18 1,oK 19 3 7,oT 20 (.callv (.t 18) [.t 19]),oT 21 (.minmax false [.t 20,.c (.int .i64 16777216)]),oZ (.mapUpdate (.int .i64) (.t 15) (.t 17) (.t 21))],[],[(2,5)]⟩))) (rg [oT 22 (.bin .add (.v 11) (cI 1)),oN 11 22]))))))) (.seq (rg [oM 23 5,oN 4 23]) .ret)))
def vf114 : VFunc:={ vs:=[0,1,4,5,7,9,10,11,12],nparams:=2,rets:=[.tmp (.v 4)],body:=vb114 }
def vb115 : VCode:=.seq (rg [oX 1 3 0,oJ 2 0]) (.seq (rg [oF 3 1 1,oL 4 3,oN 2 4]) .ret)
def vf115 : VFunc:={ vs:=[0,1,2],nparams:=1,rets:=[.tmp (.v 2)],body:=vb115 }
def vb116 : VCode:=.seq (rg [oX 1 3 0,oJ 2 0]) (.seq (rg [oF 3 2 1,oL 4 3,oN 2 4]) .ret)
def vf116 : VFunc:={ vs:=[0,1,2],nparams:=1,rets:=[.tmp (.v 2)],body:=vb116 }
def vb117 : VCode:=.seq (rg [oX 2 2 0,oV 4 (.newArr 1)]) (.seq (.seq (rg [oK 7 2 2,oM 8 1,oC 9 133 [.t 7,.t 8],oV 10 (.bin .lss (.t 9) (cI 0))]) (.cond (.v 10) (.seq (rg [oV 4 (.newArr 1)]) .ret) .skip)) (.seq (rg [oV 5 (.newArr 1)]) (.seq (.seq (rg [oM 11 1,oT 12 (.buildSlice 1 [.t 11]),oN 6 12]) (.block 0 (.loop (.seq (.seq (.region ⟨[oM 13 6,oY 14 13,oT 15 (.bin .gtr (.t 14) (cI 0)),oP 16 15,gM 17 5 16 true,oG 18 (.len (.t 17)) 16 true,gF 19 0 2 16 true,gL 20 19 16 true,oG 21 (.len (.t 20)) 16 true,oG 22 (.bin .lss (.t 18) (.t 21)) 16 true,oV 23 (.pick (.t 16) (.t 22) cF)],[34],[]⟩) (.cond (.v 23) .skip (.exit 0))) (.block 1 (.seq (rg [oM 24 5,oM 25 6,oT 26 (.indexAddr 1 (.t 25) (cI 0)),oL 27 26,oT 28 (.buildSlice 1 [.t 27]),oT 29 (.append 1 8 (.t 24) (.t 28)),oN 5 29]) (.region ⟨[oK 30 2 2,oM 31 6,oT 32 (.indexAddr 1 (.t 31) (cI 0)),oL 33 32,oC 34 96 [.t 30,.t 33],oM 35 6,oT 36 (.slice false 1 (some (cI 1)) none none (.t 35)),oT 37 (.append 1 8 (.t 34) (.t 36)),oN 6 37],[],[(0,6),(2,6),(3,6),(4,6)]⟩))))))) (.seq (rg [oM 38 5,oN 4 38]) .ret))))
def vf117 : VFunc:={ vs:=[0,1,2,4,5,6,10,23],nparams:=2,rets:=[.tmp (.v 4)],body:=vb117 }
def vb119 : VCode:=.seq (rg [oX 3 2 0,oV 6 (.move cF)]) (.seq (.seq (rg [oK 10 2 3,oC 11 86 [.t 10],oV 12 (.not (.t 11))]) (.cond (.v 12) (.seq (rg [oV 6 (.move cF)]) .ret) .skip)) (.seq (rg [oK 13 2 3,oM 14 2,oC 15 117 [.t 13,.t 14],oN 7 15]) (.seq (rg [oM 16 7,oT 17 (.callW 118 [.t 16])]) (.seq (.seq (rg [oM 18 7,oY 19 18,oT 20 (.bin .eql (.t 19) (cI 0)),oP 21 20,gM 22 1 21 false,oG 23 (.len (.t 22)) 21 false,gM 24 7 21 false,oG 25 (.len (.t 24)) 21 false,oG 26 (.bin .neq (.t 23) (.t 25)) 21 false,oV 27 (.pick (.t 21) cT (.t 26))]) (.cond (.v 27) (.seq (rg [oV 6 (.move cF)]) .ret) .skip)) (.seq (.seq (rg [oV 28 (.move (.v 1)),oV 29 (.len (.v 28)),oJ 30 0]) (.block 0 (.loop (.seq (rg [oV 31 (.bin .lss (.v 30) (.v 29))]) (.seq (.cond (.v 31) .skip (.exit 0)) (.seq (.block 1 (.seq (rg [oM 32 30,oT 33 (.indexAddr 5 (.v 28) (.v 30)),oR 34 5 33,oV 9 (.alloc [.c (.int .i64 0),.c (.int .i64 0),.c (.int .i64 0),.c (.int .i64 0),.c (.int .i64 0)]),oN 8 32,oS 5 9 34]) (.seq (rg [oF 35 0 9,oL 36 35,oM 37 7,oM 38 8,oA 39 1 37 38,oL 40 39,oT 41 (.bin .neq (.t 36) (.t 40)),oP 42 41,gF 43 1 9 42 false,gL 44 43 42 false,oG 45 (.call 120 [.t 44]) 42 false,oG 46 (.not (.t 45)) 42 false,oO 47 42 46,oP 48 47,gF 49 2 9 48 false,gL 50 49 48 false,oG 51 (.call 120 [.t 50]) 48 false,oG 52 (.not (.t 51)) 48 false,oO 53 48 52,oP 54 53,gF 55 3 9 54 false,gL 56 55 54 false,oG 57 (.call 120 [.t 56]) 54 false,oG 58 (.not (.t 57)) 54 false,oO 59 54 58,oP 60 59,gF 61 4 9 60 false,gL 62 61 60 false,oG 63 (.bin .lss (.t 62) (cI 0)) 60 false,oO 64 60 63,oP 65 64,gF 66 4 9 65 false,gL 67 66 65 false,oG 68 (.bin .gtr (.t 67) (cI 4611686018427387904)) 65 false,oV 69 (.pick (.t 65) cT (.t 68))]) (.cond (.v 69) (.seq (rg [oV 6 (.move cF)]) .ret) .skip)))) (rg [oT 70 (.bin .add (.v 30) (cI 1)),oN 30 70]))))))) (.seq (rg [oV 6 (.move cT)]) .ret))))))
def vf119 : VFunc:={ vs:=[0,1,2,3,6,7,8,9,12,27,28,29,30,31,69],nparams:=3,rets:=[.tmp (.v 6)],body:=vb119 }
def vb120 : VCode:=.seq (rg [oV 2 (.move cF)]) (.seq (rg [oM 3 0,oT 4 (.bin .geq (.t 3) (cI 0)),oP 5 4,gM 6 0 5 true,oG 7 (.bin .leq (.t 6) (cI 16777216)) 5 true,oB 8 5 7,oN 2 8]) .ret)
def vf120 : VFunc:={ vs:=[0,2],nparams:=1,rets:=[.tmp (.v 2)],body:=vb120 }
def vb121 : VCode:=.seq (rg [oV 2 (.move (.c (.map .bool [] [])))]) (.seq (rg [oT 6 (.makeMap (.int .i64)),oN 3 6]) (.seq (.seq (rg [oV 7 (.move (.v 0)),oV 8 (.len (.v 7)),oJ 9 0]) (.block 0 (.loop (.seq (rg [oV 10 (.bin .lss (.v 9) (.v 8))]) (.seq (.cond (.v 10) .skip (.exit 0)) (.seq (.block 1 (.seq (rg [oT 11 (.indexAddr 5 (.v 7) (.v 9)),oR 12 5 11,oV 5 (.alloc [.c (.int .i64 0),.c (.int .i64 0),.c (.int .i64 0),.c (.int .i64 0),.c (.int .i64 0)]),oS 5 5 12]) (rg [oM 13 3,oF 14 0 5,oL 15 14,oK 16 5 5,oZ (.mapUpdate (.int .i64) (.t 13) (.t 15) (.t 16))]))) (rg [oT 17 (.bin .add (.v 9) (cI 1)),oN 9 17]))))))) (.seq (rg [oM 18 3,oN 2 18]) .ret)))
def vf121 : VFunc:={ vs:=[0,2,3,5,7,8,9,10],nparams:=1,rets:=[.tmp (.v 2)],body:=vb121 }
def vb122 : VCode:=.seq (rg [oK 15 2 2,oM 16 0,oC 17 96 [.t 15,.t 16],oN 8 17]) (.seq (rg [oT 18 (.load none (.v 3)),oM 19 0,oT 20 (.lookup false (.int .i64) (.agg [.int .i64 0,.int .i64 0,.int .i64 0,.int .i64 0,.int .i64 0]) (.t 18) (.t 19)),oT 21 (.field 3 none (.t 20)),oT 22 (.buildSlice 1 [.t 21]),oN 9 22]) (.seq (.seq (rg [oV 23 (.move (.v 8)),oV 24 (.len (.v 23)),oJ 25 0]) (.block 0 (.loop (.seq (rg [oV 26 (.bin .lss (.v 25) (.v 24))]) (.seq (.cond (.v 26) .skip (.exit 0)) (.seq (.block 1 (.seq (rg [oT 27 (.indexAddr 1 (.v 23) (.v 25)),oL 28 27,oN 11 28]) (rg [oM 29 9,oK 30 2 2,oT 31 (.load none (.v 3)),oM 32 11,oC 33 123 [.t 30,.t 31,.t 32],oT 34 (.buildSlice 1 [.t 33]),oT 35 (.append 1 8 (.t 29) (.t 34)),oN 9 35]))) (rg [oT 36 (.bin .add (.v 25) (cI 1)),oN 25 36]))))))) (.seq (rg [oM 37 1,oM 38 9,oC 39 124 [.t 37,.t 38],oN 12 39]) (.seq (.seq (rg [oM 40 12,oT 41 (.indexAddr 1 (.t 40) (cI 0)),oL 42 41,oV 43 (.bin .gtr (.t 42) (cI 0))]) (.cond (.v 43) (.region ⟨[oT 44 (.load none (.v 4)),oM 45 0,oM 46 12,oT 47 (.indexAddr 1 (.t 46) (cI 0)),oL 48 47,oT 49 (.build [.a (.t 45) 0 1,.a (.t 48) 0 1]),oT 50 (.buildSlice 2 [.t 49]),oT 51 (.append 2 16 (.t 44) (.t 50)),oS 1 4 51],[],[(0,5),(0,6)]⟩) .skip)) (.seq (rg [oV 52 (.move (.v 8)),oV 53 (.len (.v 52)),oJ 54 0]) (.block 2 (.loop (.seq (rg [oV 55 (.bin .lss (.v 54) (.v 53))]) (.seq (.cond (.v 55) .skip (.exit 2)) (.seq (.block 3 (.seq (rg [oM 56 54,oT 57 (.indexAddr 1 (.v 52) (.v 54)),oL 58 57,oN 13 56,oN 14 58]) (.seq (rg [oM 59 12,oM 60 13,oI 61 60,oA 62 1 59 61,oL 63 62,oV 64 (.bin .gtr (.t 63) (cI 0))]) (.cond (.v 64) (rg [oT 65 (.load none (.v 5)),oM 66 14,oM 67 12,oM 68 13,oI 69 68,oA 70 1 67 69,oL 71 70,oT 72 (.callvW (.t 65) [.t 66,.t 71])]) .skip)))) (rg [oT 73 (.bin .add (.v 54) (cI 1)),oN 54 73])))))))))))
def vf122 : VFunc:={ vs:=[0,1,2,3,4,5,8,9,11,12,13,14,23,24,25,26,43,52,53,54,55,64],nparams:=6,rets:=[],body:=vb122 }
def vb123 : VCode:=.seq (rg [oX 3 2 0,oJ 6 0]) (.seq (rg [oM 11 1,oM 12 2,oT 13 (.lookup false (.int .i64) (.agg [.int .i64 0,.int .i64 0,.int .i64 0,.int .i64 0,.int .i64 0]) (.t 11) (.t 12)),oV 7 (.alloc [.c (.int .i64 0),.c (.int .i64 0),.c (.int .i64 0),.c (.int .i64 0),.c (.int .i64 0)]),oS 5 7 13]) (.seq (rg [oF 14 3 7,oL 15 14,oN 8 15]) (.seq (.seq (rg [oK 16 2 3,oM 17 2,oV 18 (.call 96 [.t 16,.t 17]),oV 19 (.len (.v 18)),oJ 20 0]) (.block 0 (.loop (.seq (rg [oV 21 (.bin .lss (.v 20) (.v 19))]) (.seq (.cond (.v 21) .skip (.exit 0)) (.seq (.block 1 (.seq (rg [oT 22 (.indexAddr 1 (.v 18) (.v 20)),oL 23 22,oN 10 23]) (rg [oM 24 8,oK 25 2 3,oM 26 1,oM 27 10,oC 28 123 [.t 25,.t 26,.t 27],oT 29 (.bin .add (.t 24) (.t 28)),oN 8 29]))) (rg [oT 30 (.bin .add (.v 20) (cI 1)),oN 20 30]))))))) (.seq (rg [oF 31 1 7,oL 32 31,oF 33 2 7,oL 34 33,oT 35 (.bin .sub (.t 32) (.t 34)),oT 36 (.minmax true [.c (.int .i64 0),.t 35]),oF 37 4 7,oL 38 37,oM 39 8,oT 40 (.minmax false [.t 36,.t 38,.t 39]),oN 6 40]) .ret))))
def vf123 : VFunc:={ vs:=[0,1,2,3,6,7,8,10,18,19,20,21],nparams:=3,rets:=[.tmp (.v 6)],body:=vb123 }
def vb124 : VCode:=.seq (rg [oV 4 (.newArr 1)]) (.seq (rg [oJ 5 0]) (.seq (.seq (rg [oV 14 (.move (.v 1)),oV 15 (.len (.v 14)),oJ 16 0]) (.block 0 (.loop (.seq (rg [oV 17 (.bin .lss (.v 16) (.v 15))]) (.seq (.cond (.v 17) .skip (.exit 0)) (.seq (.block 1 (.seq (rg [oT 18 (.indexAddr 1 (.v 14) (.v 16)),oL 19 18,oN 7 19]) (rg [oM 20 5,oM 21 7,oT 22 (.bin .add (.t 20) (.t 21)),oN 5 22]))) (rg [oT 23 (.bin .add (.v 16) (cI 1)),oN 16 23]))))))) (.seq (rg [oM 24 1,oY 25 24,oT 26 (.make 1 8 (.int .i64 0) (.t 25)),oN 8 26]) (.seq (.seq (rg [oM 27 5,oV 28 (.bin .eql (.t 27) (cI 0))]) (.cond (.v 28) (.seq (rg [oM 29 8,oN 4 29]) .ret) .skip)) (.seq (rg [oM 30 0,oN 9 30]) (.seq (.seq (rg [oV 31 (.move (.v 1)),oV 32 (.len (.v 31)),oJ 33 0]) (.block 2 (.loop (.seq (rg [oV 34 (.bin .lss (.v 33) (.v 32))]) (.seq (.cond (.v 34) .skip (.exit 2)) (.seq (.block 3 (.seq (rg [oM 35 33,oT 36 (.indexAddr 1 (.v 31) (.v 33)),oL 37 36,oN 10 35,oN 11 37]) (.seq (rg [oM 38 8,oM 39 10,oM 40 0,oM 41 11,oT 42 (.bin .mul (.t 40) (.t 41)),oM 43 5,oT 44 (.bin .quo (.t 42) (.t 43)),oA 45 1 38 39,oZ (.store 1 (.t 45) (.t 44))]) (rg [oM 46 9,oM 47 8,oM 48 10,oA 49 1 47 48,oL 50 49,oT 51 (.bin .sub (.t 46) (.t 50)),oN 9 51])))) (rg [oT 52 (.bin .add (.v 33) (cI 1)),oN 33 52]))))))) (.seq (.seq (rg [oV 53 (.move (.v 1)),oV 54 (.len (.v 53)),oJ 55 0]) (.block 4 (.loop (.seq (rg [oV 56 (.bin .lss (.v 55) (.v 54))]) (.seq (.cond (.v 56) .skip (.exit 4)) (.seq (.block 5 (.seq (rg [oM 57 55,oT 58 (.indexAddr 1 (.v 53) (.v 55)),oL 59 58,oN 12 57,oN 13 59]) (.seq (rg [oM 60 9,oT 61 (.bin .gtr (.t 60) (cI 0)),oP 62 61,gM 63 8 62 true,gM 64 12 62 true,oG 65 (.indexAddr 1 (.t 63) (.t 64)) 62 true,gL 66 65 62 true,gM 67 13 62 true,oG 68 (.bin .lss (.t 66) (.t 67)) 62 true,oV 69 (.pick (.t 62) (.t 68) cF)]) (.cond (.v 69) (.seq (rg [oM 70 8,oM 71 12,oA 72 1 70 71,oL 73 72,oI 74 73,oA 75 1 70 71,oZ (.store 1 (.t 75) (.t 74))]) (rg [oM 76 9,oT 77 (.bin .sub (.t 76) (cI 1)),oN 9 77])) .skip)))) (rg [oT 78 (.bin .add (.v 55) (cI 1)),oN 55 78]))))))) (.seq (rg [oM 79 8,oN 4 79]) .ret))))))))
def vf124 : VFunc:={ vs:=[0,1,4,5,7,8,9,10,11,12,13,14,15,16,17,28,31,32,33,34,53,54,55,56,69],nparams:=2,rets:=[.tmp (.v 4)],body:=vb124 }
def vb126 : VCode:=.seq (rg [oX 2 2 0,oX 3 2 1,oJ 4 0]) (.seq (rg [oF 5 0 2,oL 6 5,oF 7 0 3,oL 8 7,oT 9 (.bin .sub (.t 6) (.t 8)),oN 4 9]) .ret)
def vf126 : VFunc:={ vs:=[0,1,2,3,4],nparams:=2,rets:=[.tmp (.v 4)],body:=vb126 }
def vb127 : VCode:=.seq (rg [oX 2 2 0,oV 4 (.move cF)]) (.seq (rg [oF 8 0 2,oL 9 8,oM 10 1,oA 11 6 9 10,oR 12 6 11,oV 5 (.alloc [.c (.int .i64 0),.c (.int .i64 0),.c (.str ⟨#[]⟩),.c (.int .i64 0),.c (.int .i64 0),.c (.int .i64 0)]),oS 6 5 12]) (.seq (.seq (rg [oF 13 4 5,oL 14 13,oT 15 (.bin .neq (.t 14) (cI 0)),oP 16 15,gF 17 4 5 16 true,gL 18 17 16 true,oG 19 (.bin .neq (.t 18) (cI 1)) 16 true,oB 20 16 19,oP 21 20,gF 22 3 5 21 false,gL 23 22 21 false,oG 24 (.bin .lss (.t 23) (cI 0)) 21 false,oO 25 21 24,oP 26 25,gF 27 3 5 26 false,gL 28 27 26 false,oG 29 (.bin .gtr (.t 28) (cI 31)) 26 false,oO 30 26 29,oP 31 30,gF 32 5 5 31 false,gL 33 32 31 false,oG 34 (.bin .lss (.t 33) (cI 0)) 31 false,oO 35 31 34,oP 36 35,gF 37 5 5 36 false,gL 38 37 36 false,oG 39 (.bin .gtr (.t 38) (cI 1048576)) 36 false,oV 40 (.pick (.t 36) cT (.t 39))]) (.cond (.v 40) (.seq (rg [oV 4 (.move cF)]) .ret) .skip)) (.seq (.seq (rg [oM 41 1,oV 42 (.bin .eql (.t 41) (cI 0))]) (.cond (.v 42) (.seq (rg [oF 43 0 5,oL 44 43,oT 45 (.bin .eql (.t 44) (cI 1)),oP 46 45,gF 47 1 5 46 true,gL 48 47 46 true,oG 49 (.bin .eql (.t 48) (cI 0)) 46 true,oB 50 46 49,oP 51 50,gF 52 2 5 51 true,gL 53 52 51 true,oG 54 (.bin .eql (.t 53) (.c (.str ⟨#[]⟩))) 51 true,oB 55 51 54,oP 56 55,gF 57 4 5 56 true,gL 58 57 56 true,oG 59 (.bin .eql (.t 58) (cI 0)) 56 true,oB 60 56 59,oN 4 60]) .ret) .skip)) (.seq (.seq (rg [oF 61 0 5,oL 62 61,oF 63 0 2,oL 64 63,oM 65 1,oT 66 (.bin .sub (.t 65) (cI 1)),oA 67 6 64 66,oQ 68 0 67,oL 69 68,oT 70 (.bin .leq (.t 62) (.t 69)),oP 71 70,gF 72 2 5 71 false,gL 73 72 71 false,oG 74 (.call 76 [.t 73]) 71 false,oG 75 (.not (.t 74)) 71 false,oV 76 (.pick (.t 71) cT (.t 75))]) (.cond (.v 76) (.seq (rg [oV 4 (.move cF)]) .ret) .skip)) (.seq (rg [oV 6 (.move cF)]) (.seq (.seq (rg [oJ 7 0]) (.block 0 (.loop (.seq (.seq (rg [oM 77 7,oM 78 1,oU 79 77 78]) (.cond (.v 79) .skip (.exit 0))) (.seq (.block 1 (.seq (rg [oM 82 6,oP 83 82,gF 84 0 2 83 false,gL 85 84 83 false,gM 86 7 83 false,oG 87 (.indexAddr 6 (.t 85) (.t 86)) 83 false,oG 88 (.fieldAddr 0 (.t 87)) 83 false,gL 89 88 83 false,gF 90 1 5 83 false,gL 91 90 83 false,oG 92 (.bin .eql (.t 89) (.t 91)) 83 false,oO 93 83 92,oN 6 93]) (.seq (rg [oF 94 0 2,oL 95 94,oM 96 7,oA 97 6 95 96,oQ 98 1 97,oL 99 98,oF 100 1 5,oL 101 100,oT 102 (.bin .eql (.t 99) (.t 101)),oP 103 102,gF 104 0 2 103 true,gL 105 104 103 true,gM 106 7 103 true,oG 107 (.indexAddr 6 (.t 105) (.t 106)) 103 true,oG 108 (.fieldAddr 2 (.t 107)) 103 true,gL 109 108 103 true,gF 110 2 5 103 true,gL 111 110 103 true,oG 112 (.bin .eql (.t 109) (.t 111)) 103 true,oV 113 (.pick (.t 103) (.t 112) cF)]) (.cond (.v 113) (.seq (rg [oV 4 (.move cF)]) .ret) .skip)))) (rg [oM 80 7,oI 81 80,oN 7 81])))))) (.seq (rg [oM 114 6,oN 4 114]) .ret)))))))
def vf127 : VFunc:={ vs:=[0,1,2,4,5,6,7,40,42,76,79,113],nparams:=2,rets:=[.tmp (.v 4)],body:=vb127 }
def vb128 : VCode:=.seq (rg [oX 2 2 0,oV 4 (.newArr 1)]) (.seq (rg [oV 5 (.newArr 1)]) (.seq (.seq (rg [oF 7 0 2,oL 8 7,oY 9 8,oT 10 (.bin .sub (.t 9) (cI 1)),oN 6 10]) (.block 0 (.loop (.seq (.seq (rg [oM 11 6,oV 12 (.bin .geq (.t 11) (cI 0))]) (.cond (.v 12) .skip (.exit 0))) (.seq (.block 1 (.seq (rg [oF 15 0 2,oL 16 15,oM 17 6,oA 18 6 16 17,oQ 19 0 18,oL 20 19,oM 21 1,oV 22 (.bin .eql (.t 20) (.t 21))]) (.cond (.v 22) (.seq (rg [oM 23 5,oM 24 1,oT 25 (.buildSlice 1 [.t 24]),oT 26 (.append 1 8 (.t 23) (.t 25)),oN 5 26]) (rg [oF 27 0 2,oL 28 27,oM 29 6,oA 30 6 28 29,oQ 31 1 30,oL 32 31,oN 1 32])) .skip))) (rg [oM 13 6,oT 14 (.bin .sub (.t 13) (cI 1)),oN 6 14])))))) (.seq (rg [oM 33 5,oN 4 33]) .ret)))
def vf128 : VFunc:={ vs:=[0,1,2,4,5,6,12,22],nparams:=2,rets:=[.tmp (.v 4)],body:=vb128 }
def vb129 : VCode:=.seq (rg [oX 2 2 0,oV 4 (.alloc [.c (.int .i64 0),.c (.int .i64 0),.c (.str ⟨#[]⟩),.c (.int .i64 0),.c (.int .i64 0),.c (.int .i64 0)]),oV 5 (.move cF)]) (.seq (.seq (rg [oK 7 2 2,oC 8 75 [.t 7],oV 9 (.not (.t 8))]) (.cond (.v 9) (.seq (rg [oT 10 (.build [.z (.c (.int .i64 0)),.z (.c (.int .i64 0)),.z (.c (.str ⟨#[]⟩)),.z (.c (.int .i64 0)),.z (.c (.int .i64 0)),.z (.c (.int .i64 0))]),oS 6 4 10,oV 5 (.move cF)]) .ret) .skip)) (.seq (.seq (rg [oJ 6 0]) (.block 0 (.loop (.seq (.seq (rg [oM 11 6,oF 12 0 2,oL 13 12,oY 14 13,oU 15 11 14]) (.cond (.v 15) .skip (.exit 0))) (.seq (.block 1 (.seq (rg [oF 18 0 2,oL 19 18,oM 20 6,oA 21 6 19 20,oQ 22 0 21,oL 23 22,oM 24 1,oV 25 (.bin .eql (.t 23) (.t 24))]) (.cond (.v 25) (.seq (rg [oF 26 0 2,oL 27 26,oM 28 6,oA 29 6 27 28,oR 30 6 29,oS 6 4 30,oV 5 (.move cT)]) .ret) .skip))) (rg [oM 16 6,oI 17 16,oN 6 17])))))) (.seq (rg [oT 31 (.build [.z (.c (.int .i64 0)),.z (.c (.int .i64 0)),.z (.c (.str ⟨#[]⟩)),.z (.c (.int .i64 0)),.z (.c (.int .i64 0)),.z (.c (.int .i64 0))]),oS 6 4 31,oV 5 (.move cF)]) .ret)))
def vf129 : VFunc:={ vs:=[0,1,2,4,5,6,9,15,25],nparams:=2,rets:=[.cell (.v 4) (some 6),.tmp (.v 5)],body:=vb129 }
def vb130 : VCode:=.seq (rg [oX 2 2 0,oV 4 (.newArr 1)]) (.seq (.seq (rg [oK 8 2 2,oM 9 1,oC 10 77 [.t 8,.t 9],oV 11 (.not (.t 10))]) (.cond (.v 11) (.seq (rg [oV 4 (.newArr 1)]) .ret) .skip)) (.seq (rg [oM 12 1,oT 13 (.buildSlice 1 [.t 12]),oN 5 13]) (.seq (rg [oK 14 2 2,oM 15 1,oC 16 80 [.t 14,.t 15],oN 6 16]) (.seq (.seq (rg [oJ 7 0]) (.block 0 (.loop (.seq (.seq (.region ⟨[oM 17 7,oM 18 6,oY 19 18,oU 20 17 19],[29],[]⟩) (.cond (.v 20) .skip (.exit 0))) (.seq (.block 1 (rg [oM 23 5,oK 24 2 2,oM 25 6,oM 26 7,oA 27 1 25 26,oL 28 27,oC 29 130 [.t 24,.t 28],oT 30 (.append 1 8 (.t 23) (.t 29)),oN 5 30])) (rg [oM 21 7,oI 22 21,oN 7 22])))))) (.seq (rg [oM 31 5,oN 4 31]) .ret)))))
def vf130 : VFunc:={ vs:=[0,1,2,4,5,6,7,11,20],nparams:=2,rets:=[.tmp (.v 4)],body:=vb130 }
def vb131 : VCode:=.seq (rg [oX 1 6 0,oV 2 (.move cF)]) (.seq (rg [oF 3 0 1,oL 4 3,oT 5 (.bin .eql (.t 4) (cI 1)),oP 6 5,gF 7 1 1 6 true,gL 8 7 6 true,oG 9 (.bin .eql (.t 8) (cI 0)) 6 true,oB 10 6 9,oP 11 10,gF 12 2 1 11 true,gL 13 12 11 true,oG 14 (.bin .eql (.t 13) (.c (.str ⟨#[]⟩))) 11 true,oB 15 11 14,oP 16 15,gF 17 4 1 16 true,gL 18 17 16 true,oG 19 (.bin .eql (.t 18) (cI 0)) 16 true,oB 20 16 19,oN 2 20]) .ret)
def vf131 : VFunc:={ vs:=[0,1,2],nparams:=1,rets:=[.tmp (.v 2)],body:=vb131 }
def vb132 : VCode:=.seq (rg [oX 3 6 1,oV 4 (.move cF)]) (.seq (.seq (rg [oF 8 0 3,oL 9 8,oM 10 0,oM 11 0,oY 12 11,oT 13 (.bin .sub (.t 12) (cI 1)),oA 14 6 10 13,oQ 15 0 14,oL 16 15,oT 17 (.bin .leq (.t 9) (.t 16)),oP 18 17,gF 19 2 3 18 false,gL 20 19 18 false,oG 21 (.call 151 [.t 20]) 18 false,oG 22 (.not (.t 21)) 18 false,oO 23 18 22,oP 24 23,gF 25 4 3 24 false,gL 26 25 24 false,oG 27 (.bin .neq (.t 26) (cI 0)) 24 false,oG 28 (.move (.t 27)) 24 false,gF 29 4 3 28 true,gL 30 29 28 true,oG 31 (.bin .neq (.t 30) (cI 1)) 28 true,oG 32 (.pick (.t 28) (.t 31) cF) 24 false,oV 33 (.pick (.t 24) cT (.t 32))]) (.cond (.v 33) (.seq (rg [oV 4 (.move cF)]) .ret) .skip)) (.seq (rg [oV 5 (.move cF)]) (.seq (.seq (rg [oV 34 (.move (.v 0)),oV 35 (.len (.v 34)),oJ 36 0]) (.block 0 (.loop (.seq (rg [oV 37 (.bin .lss (.v 36) (.v 35))]) (.seq (.cond (.v 37) .skip (.exit 0)) (.seq (.block 1 (.seq (rg [oT 38 (.indexAddr 6 (.v 34) (.v 36)),oR 39 6 38,oV 7 (.alloc [.c (.int .i64 0),.c (.int .i64 0),.c (.str ⟨#[]⟩),.c (.int .i64 0),.c (.int .i64 0),.c (.int .i64 0)]),oS 6 7 39]) (.seq (rg [oM 40 5,oP 41 40,gF 42 0 7 41 false,gL 43 42 41 false,gF 44 1 3 41 false,gL 45 44 41 false,oG 46 (.bin .eql (.t 43) (.t 45)) 41 false,oO 47 41 46,oN 5 47]) (.seq (rg [oF 48 1 7,oL 49 48,oF 50 1 3,oL 51 50,oT 52 (.bin .eql (.t 49) (.t 51)),oP 53 52,gF 54 2 7 53 true,gL 55 54 53 true,gF 56 2 3 53 true,gL 57 56 53 true,oG 58 (.bin .eql (.t 55) (.t 57)) 53 true,oV 59 (.pick (.t 53) (.t 58) cF)]) (.cond (.v 59) (.seq (rg [oV 4 (.move cF)]) .ret) .skip))))) (rg [oT 60 (.bin .add (.v 36) (cI 1)),oN 36 60]))))))) (.seq (rg [oM 61 5,oN 4 61]) .ret))))
def vf132 : VFunc:={ vs:=[0,1,3,4,5,7,33,34,35,36,37,59],nparams:=2,rets:=[.tmp (.v 4)],body:=vb132 }
def vb133 : VCode:=.seq (rg [oX 2 2 0,oX 3 1 1,oJ 4 0]) (.seq (rg [oF 5 0 2,oL 6 5,oT 7 (.makeFunc 153 [.v 3]),oC 8 152 [.t 6,.t 7],oN 4 8]) .ret)
def vf133 : VFunc:={ vs:=[0,1,2,3,4],nparams:=2,rets:=[.tmp (.v 4)],body:=vb133 }
def vb134 : VCode:=.seq (rg [oX 2 2 0,oV 4 (.newArr 1)]) (.seq (rg [oV 5 (.newArr 1)]) (.seq (.seq (rg [oF 8 0 2,oL 9 8,oV 10 (.len (.t 9)),oJ 11 0]) (.block 0 (.loop (.seq (rg [oV 12 (.bin .lss (.v 11) (.v 10))]) (.seq (.cond (.v 12) .skip (.exit 0)) (.seq (.block 1 (.seq (rg [oK 14 2 2,oM 15 1,oC 16 87 [.t 14,.t 15],oP 13 16,oE 17 13 0,oE 18 13 1,oV 6 (.alloc [.c (.int .i64 0),.c (.int .i64 0),.c (.str ⟨#[]⟩),.c (.int .i64 0),.c (.int .i64 0),.c (.int .i64 0)]),oS 6 6 17,oN 7 18]) (.seq (.seq (rg [oM 19 7,oV 20 (.not (.t 19))]) (.cond (.v 20) (.exit 0) .skip)) (.seq (rg [oM 21 5,oM 22 1,oT 23 (.buildSlice 1 [.t 22]),oT 24 (.append 1 8 (.t 21) (.t 23)),oN 5 24]) (rg [oF 25 1 6,oL 26 25,oN 1 26]))))) (rg [oT 27 (.bin .add (.v 11) (cI 1)),oN 11 27]))))))) (.seq (rg [oM 28 5,oN 4 28]) .ret)))
def vf134 : VFunc:={ vs:=[0,1,2,4,5,6,7,10,11,12,20],nparams:=2,rets:=[.tmp (.v 4)],body:=vb134 }
def vb135 : VCode:=.seq (rg [oJ 4 0]) (.seq (.seq (rg [oJ 5 0]) (.block 0 (.loop (.seq (.seq (rg [oM 6 5,oM 7 0,oY 8 7,oU 9 6 8]) (.cond (.v 9) .skip (.exit 0))) (.seq (.block 1 (.seq (rg [oM 12 0,oM 13 5,oA 14 2 12 13,oQ 15 0 14,oL 16 15,oM 17 1,oV 18 (.bin .eql (.t 16) (.t 17))]) (.cond (.v 18) (.seq (rg [oM 19 0,oM 20 5,oA 21 2 19 20,oQ 22 1 21,oL 23 22,oN 4 23]) .ret) .skip))) (rg [oM 10 5,oI 11 10,oN 5 11])))))) (.seq (rg [oJ 4 4611686018427387904]) .ret))
def vf135 : VFunc:={ vs:=[0,1,4,5,9,18],nparams:=2,rets:=[.tmp (.v 4)],body:=vb135 }
def vb136 : VCode:=.seq (rg [oX 2 2 0,oX 3 1 1,oV 4 (.move cF)]) (.seq (.seq (rg [oK 7 2 2,oC 8 75 [.t 7],oT 9 (.not (.t 8)),oP 10 9,oG 11 (.load (some 2) (.v 2)) 10 false,gF 12 0 3 10 false,gL 13 12 10 false,oG 14 (.call 154 [.t 11,.t 13,.c (.int .i64 1)]) 10 false,oG 15 (.not (.t 14)) 10 false,oV 16 (.pick (.t 10) cT (.t 15))]) (.cond (.v 16) (.seq (rg [oV 4 (.move cF)]) .ret) .skip)) (.seq (rg [oJ 5 0]) (.seq (.seq (rg [oJ 6 0]) (.block 0 (.loop (.seq (.seq (rg [oM 17 6,oF 18 0 3,oL 19 18,oY 20 19,oU 21 17 20]) (.cond (.v 21) .skip (.exit 0))) (.seq (.block 1 (rg [oM 24 5,oF 25 0 3,oL 26 25,oM 27 6,oA 28 2 26 27,oQ 29 1 28,oL 30 29,oT 31 (.bin .add (.t 24) (.t 30)),oN 5 31])) (rg [oM 22 6,oI 23 22,oN 6 23])))))) (.seq (rg [oM 32 5,oT 33 (.bin .leq (.t 32) (cI 16777216)),oN 4 33]) .ret))))
def vf136 : VFunc:={ vs:=[0,1,2,3,4,5,6,16,21],nparams:=2,rets:=[.tmp (.v 4)],body:=vb136 }
def vb137 : VCode:=.seq (rg [oV 2 (.newArr 1)]) (.seq (rg [oV 3 (.newArr 1)]) (.seq (.seq (rg [oJ 4 0]) (.block 0 (.loop (.seq (.seq (rg [oM 6 4,oM 7 0,oY 8 7,oU 9 6 8]) (.cond (.v 9) .skip (.exit 0))) (.seq (.block 1 (.seq (rg [oM 12 3,oY 13 12,oN 5 13]) (.seq (.block 2 (.loop (.seq (.seq (rg [oM 14 5,oT 15 (.bin .gtr (.t 14) (cI 0)),oP 16 15,gM 17 0 16 true,gM 18 4 16 true,oG 19 (.indexAddr 1 (.t 17) (.t 18)) 16 true,gL 20 19 16 true,gM 21 3 16 true,gM 22 5 16 true,oG 23 (.bin .sub (.t 22) (cI 1)) 16 true,oG 24 (.indexAddr 1 (.t 21) (.t 23)) 16 true,gL 25 24 16 true,oG 26 (.bin .lss (.t 20) (.t 25)) 16 true,oV 27 (.pick (.t 16) (.t 26) cF)]) (.cond (.v 27) .skip (.exit 2))) (.block 3 (rg [oM 28 5,oT 29 (.bin .sub (.t 28) (cI 1)),oN 5 29]))))) (.seq (.seq (rg [oM 30 5,oT 31 (.bin .gtr (.t 30) (cI 0)),oP 32 31,gM 33 3 32 true,gM 34 5 32 true,oG 35 (.bin .sub (.t 34) (cI 1)) 32 true,oG 36 (.indexAddr 1 (.t 33) (.t 35)) 32 true,gL 37 36 32 true,gM 38 0 32 true,gM 39 4 32 true,oG 40 (.indexAddr 1 (.t 38) (.t 39)) 32 true,gL 41 40 32 true,oG 42 (.bin .eql (.t 37) (.t 41)) 32 true,oV 43 (.pick (.t 32) (.t 42) cF)]) (.cond (.v 43) (.exit 1) .skip)) (.seq (rg [oM 44 3,oT 45 (.buildSlice 1 [.c (.int .i64 0)]),oT 46 (.append 1 8 (.t 44) (.t 45)),oN 3 46]) (.seq (.region ⟨[oM 47 3,oM 48 5,oI 49 48,oT 50 (.slice false 1 (some (.t 49)) none none (.t 47)),oM 51 3,oM 52 5,oT 53 (.slice false 1 (some (.t 52)) none none (.t 51)),oT 54 (.copy 1 (.t 50) (.t 53))],[],[(3,6)]⟩) (rg [oM 55 3,oM 56 5,oM 57 0,oM 58 4,oA 59 1 57 58,oL 60 59,oA 61 1 55 56,oZ (.store 1 (.t 61) (.t 60))]))))))) (rg [oM 10 4,oI 11 10,oN 4 11])))))) (.seq (rg [oM 62 3,oN 2 62]) .ret)))
def vf137 : VFunc:={ vs:=[0,2,3,4,5,9,27,43],nparams:=1,rets:=[.tmp (.v 2)],body:=vb137 }
def vb138 : VCode:=.seq (rg [oX 6 2 0,oX 7 1 1,oJ 12 0]) (.seq (.seq (rg [oM 20 4,oM 21 3,oV 22 (.bin .eql (.t 20) (.t 21))]) (.cond (.v 22) (.seq (rg [oJ 12 0]) .ret) .skip)) (.seq (rg [oK 24 2 6,oM 25 4,oC 26 129 [.t 24,.t 25],oP 23 26,oE 27 23 0,oE 28 23 1,oV 13 (.alloc [.c (.int .i64 0),.c (.int .i64 0),.c (.str ⟨#[]⟩),.c (.int .i64 0),.c (.int .i64 0),.c (.int .i64 0)]),oS 6 13 27,oP 14 28]) (.seq (rg [oK 29 2 6,oK 30 1 7,oM 31 2,oM 32 4,oM 33 5,oC 34 155 [.t 29,.t 30,.t 31,.t 32,.t 33],oN 15 34]) (.seq (.seq (rg [oF 35 1 13,oL 36 35,oM 37 3,oV 38 (.bin .eql (.t 36) (.t 37))]) (.cond (.v 38) (.seq (rg [oM 39 15,oN 12 39]) .ret) .skip)) (.seq (rg [oK 40 2 6,oK 41 1 7,oM 42 2,oM 43 3,oF 44 1 13,oL 45 44,oM 46 5,oC 47 138 [.t 40,.t 41,.t 42,.t 43,.t 45,.t 46],oN 16 47]) (.seq (rg [oJ 17 0]) (.seq (rg [oK 48 2 6,oF 49 1 13,oL 50 49,oC 51 80 [.t 48,.t 50],oN 18 51]) (.seq (.seq (rg [oJ 19 0]) (.block 0 (.loop (.seq (.seq (rg [oM 52 19,oM 53 18,oY 54 53,oU 55 52 54]) (.cond (.v 55) .skip (.exit 0))) (.seq (.block 1 (rg [oM 58 17,oK 59 2 6,oK 60 1 7,oM 61 2,oM 62 18,oM 63 19,oA 64 1 62 63,oL 65 64,oM 66 5,oC 67 155 [.t 59,.t 60,.t 61,.t 65,.t 66],oT 68 (.bin .add (.t 58) (.t 67)),oN 17 68])) (rg [oM 56 19,oI 57 56,oN 19 57])))))) (.seq (.seq (rg [oM 69 17,oM 70 16,oV 71 (.bin .leq (.t 69) (.t 70))]) (.cond (.v 71) (.seq (rg [oM 72 15,oN 12 72]) .ret) .skip)) (.seq (rg [oM 73 15,oM 74 16,oT 75 (.bin .mul (.t 73) (.t 74)),oM 76 17,oT 77 (.bin .quo (.t 75) (.t 76)),oN 12 77]) .ret))))))))))
def vf138 : VFunc:={ vs:=[0,1,2,3,4,5,6,7,12,13,15,16,17,18,19,22,38,55,71],nparams:=6,rets:=[.tmp (.v 12)],body:=vb138 }
def vb139 : VCode:=.seq (rg [oX 3 2 0,oV 6 (.move cF)]) (.seq (.seq (rg [oK 10 2 3,oC 11 75 [.t 10],oT 12 (.not (.t 11)),oP 13 12,oG 14 (.load (some 2) (.v 3)) 13 false,gM 15 2 13 false,oG 16 (.call 77 [.t 14,.t 15]) 13 false,oG 17 (.not (.t 16)) 13 false,oV 18 (.pick (.t 13) cT (.t 17))]) (.cond (.v 18) (.seq (rg [oV 6 (.move cF)]) .ret) .skip)) (.seq (rg [oK 19 2 3,oM 20 2,oC 21 130 [.t 19,.t 20],oC 22 137 [.t 21],oN 7 22]) (.seq (.seq (rg [oM 23 1,oY 24 23,oM 25 7,oY 26 25,oV 27 (.bin .neq (.t 24) (.t 26))]) (.cond (.v 27) (.seq (rg [oV 6 (.move cF)]) .ret) .skip)) (.seq (.seq (rg [oJ 8 0]) (.block 0 (.loop (.seq (.seq (rg [oM 28 8,oM 29 1,oY 30 29,oU 31 28 30]) (.cond (.v 31) .skip (.exit 0))) (.seq (.block 1 (.seq (rg [oM 34 1,oM 35 8,oA 36 5 34 35,oR 37 5 36,oV 9 (.alloc [.c (.int .i64 0),.c (.int .i64 0),.c (.int .i64 0),.c (.int .i64 0),.c (.int .i64 0)]),oS 5 9 37]) (.seq (rg [oF 38 0 9,oL 39 38,oM 40 7,oM 41 8,oA 42 1 40 41,oL 43 42,oT 44 (.bin .neq (.t 39) (.t 43)),oP 45 44,gF 46 1 9 45 false,gL 47 46 45 false,oG 48 (.bin .lss (.t 47) (cI 0)) 45 false,oO 49 45 48,oP 50 49,gF 51 1 9 50 false,gL 52 51 50 false,oG 53 (.bin .gtr (.t 52) (cI 16777216)) 50 false,oO 54 50 53,oP 55 54,gF 56 2 9 55 false,gL 57 56 55 false,oG 58 (.bin .lss (.t 57) (cI 0)) 55 false,oO 59 55 58,oP 60 59,gF 61 2 9 60 false,gL 62 61 60 false,oG 63 (.bin .gtr (.t 62) (cI 16777216)) 60 false,oO 64 60 63,oP 65 64,gF 66 3 9 65 false,gL 67 66 65 false,oG 68 (.bin .lss (.t 67) (cI 0)) 65 false,oO 69 65 68,oP 70 69,gF 71 3 9 70 false,gL 72 71 70 false,oG 73 (.bin .gtr (.t 72) (cI 16777216)) 70 false,oO 74 70 73,oP 75 74,gF 76 4 9 75 false,gL 77 76 75 false,oG 78 (.bin .lss (.t 77) (cI 0)) 75 false,oO 79 75 78,oP 80 79,gF 81 4 9 80 false,gL 82 81 80 false,oG 83 (.bin .gtr (.t 82) (cI 4611686018427387904)) 80 false,oV 84 (.pick (.t 80) cT (.t 83))]) (.cond (.v 84) (.seq (rg [oV 6 (.move cF)]) .ret) .skip)))) (rg [oM 32 8,oI 33 32,oN 8 33])))))) (.seq (rg [oV 6 (.move cT)]) .ret)))))
def vf139 : VFunc:={ vs:=[0,1,2,3,6,7,8,9,18,27,31,84],nparams:=3,rets:=[.tmp (.v 6)],body:=vb139 }
def vb140 : VCode:=.seq (rg [oX 5 2 0]) (.seq (rg [oK 15 2 5,oM 16 2,oC 17 80 [.t 15,.t 16],oN 10 17]) (.seq (rg [oM 18 1,oM 19 2,oC 20 156 [.t 18,.t 19],oT 21 (.field 3 none (.t 20)),oT 22 (.buildSlice 1 [.t 21]),oN 11 22]) (.seq (.seq (rg [oJ 12 0]) (.block 0 (.loop (.seq (.seq (rg [oM 23 12,oM 24 10,oY 25 24,oU 26 23 25]) (.cond (.v 26) .skip (.exit 0))) (.seq (.block 1 (rg [oM 29 11,oK 30 2 5,oM 31 1,oM 32 10,oM 33 12,oA 34 1 32 33,oL 35 34,oC 36 141 [.t 30,.t 31,.t 35],oT 37 (.buildSlice 1 [.t 36]),oT 38 (.append 1 8 (.t 29) (.t 37)),oN 11 38])) (rg [oM 27 12,oI 28 27,oN 12 28])))))) (.seq (rg [oM 39 3,oM 40 11,oC 41 157 [.t 39,.t 40],oN 13 41]) (.seq (rg [oM 42 4,oM 43 2,oT 44 (.lookup false (.int .i64) (.int .i64 0) (.t 42) (.t 43)),oM 45 13,oT 46 (.indexAddr 1 (.t 45) (cI 0)),oL 47 46,oT 48 (.bin .add (.t 44) (.t 47)),oZ (.mapUpdate (.int .i64) (.t 42) (.t 43) (.t 48))]) (.seq (rg [oJ 14 0]) (.block 2 (.loop (.seq (.seq (rg [oM 49 14,oM 50 10,oY 51 50,oU 52 49 51]) (.cond (.v 52) .skip (.exit 2))) (.seq (.block 3 (rg [oK 55 2 5,oM 56 1,oM 57 10,oM 58 14,oA 59 1 57 58,oL 60 59,oM 61 13,oM 62 14,oI 63 62,oA 64 1 61 63,oL 65 64,oM 66 4,oT 67 (.callW 140 [.t 55,.t 56,.t 60,.t 65,.t 66])])) (rg [oM 53 14,oI 54 53,oN 14 54])))))))))))
def vf140 : VFunc:={ vs:=[0,1,2,3,4,5,10,11,12,13,14,26,52],nparams:=5,rets:=[],body:=vb140 }
def vb141 : VCode:=.seq (rg [oX 3 2 0,oJ 6 0]) (.seq (rg [oM 11 1,oM 12 2,oC 13 156 [.t 11,.t 12],oV 7 (.alloc [.c (.int .i64 0),.c (.int .i64 0),.c (.int .i64 0),.c (.int .i64 0),.c (.int .i64 0)]),oS 5 7 13]) (.seq (rg [oF 14 3 7,oL 15 14,oN 8 15]) (.seq (rg [oK 16 2 3,oM 17 2,oC 18 80 [.t 16,.t 17],oN 9 18]) (.seq (.seq (rg [oJ 10 0]) (.block 0 (.loop (.seq (.seq (rg [oM 19 10,oM 20 9,oY 21 20,oU 22 19 21]) (.cond (.v 22) .skip (.exit 0))) (.seq (.block 1 (rg [oM 25 8,oK 26 2 3,oM 27 1,oM 28 9,oM 29 10,oA 30 1 28 29,oL 31 30,oC 32 141 [.t 26,.t 27,.t 31],oT 33 (.bin .add (.t 25) (.t 32)),oN 8 33])) (rg [oM 23 10,oI 24 23,oN 10 24])))))) (.seq (rg [oM 34 8,oF 35 4 7,oL 36 35,oF 37 1 7,oL 38 37,oF 39 2 7,oL 40 39,oT 41 (.bin .sub (.t 38) (.t 40)),oT 42 (.minmax true [.c (.int .i64 0),.t 41]),oT 43 (.minmax false [.t 34,.t 36,.t 42]),oN 6 43]) .ret)))))
def vf141 : VFunc:={ vs:=[0,1,2,3,6,7,8,9,10,22],nparams:=3,rets:=[.tmp (.v 6)],body:=vb141 }
def vb144 : VCode:=.seq (rg [oX 3 2 0,oX 4 1 1,oJ 6 0]) (.seq (rg [oJ 7 0]) (.seq (rg [oK 10 2 3,oM 11 2,oC 12 130 [.t 10,.t 11],oN 8 12]) (.seq (.seq (rg [oJ 9 0]) (.block 0 (.loop (.seq (.seq (rg [oM 13 9,oM 14 8,oY 15 14,oU 16 13 15]) (.cond (.v 16) .skip (.exit 0))) (.seq (.block 1 (rg [oM 19 7,oK 20 1 4,oM 21 8,oM 22 9,oA 23 1 21 22,oL 24 23,oC 25 158 [.t 20,.t 24],oT 26 (.bin .add (.t 19) (.t 25)),oN 7 26])) (rg [oM 17 9,oI 18 17,oN 9 18])))))) (.seq (rg [oM 27 7,oN 6 27]) .ret))))
def vf144 : VFunc:={ vs:=[0,1,2,3,4,6,7,8,9,16],nparams:=3,rets:=[.tmp (.v 6)],body:=vb144 }
def vb147 : VCode:=.seq (rg [oX 2 2 0,oX 3 1 1,oV 4 (.move (.c (.map .bool [] [])))]) (.seq (rg [oT 9 (.makeMap (.int .i64)),oN 5 9]) (.seq (.seq (rg [oF 10 0 3,oV 11 (.load none (.t 10)),oV 12 (.len (.v 11)),oJ 13 0]) (.block 0 (.loop (.seq (rg [oV 14 (.bin .lss (.v 13) (.v 12))]) (.seq (.cond (.v 14) .skip (.exit 0)) (.seq (.block 1 (.seq (rg [oT 15 (.indexAddr 2 (.v 11) (.v 13)),oR 16 2 15,oV 7 (.alloc [.c (.int .i64 0),.c (.int .i64 0)]),oS 2 7 16]) (rg [oM 17 5,oF 18 0 7,oL 19 18,oF 20 1 7,oL 21 20,oZ (.mapUpdate (.int .i64) (.t 17) (.t 19) (.t 21))]))) (rg [oT 22 (.bin .add (.v 13) (cI 1)),oN 13 22]))))))) (.seq (.seq (rg [oF 23 0 2,oL 24 23,oY 25 24,oT 26 (.bin .sub (.t 25) (cI 1)),oN 8 26]) (.block 2 (.loop (.seq (.seq (rg [oM 27 8,oV 28 (.bin .gtr (.t 27) (cI 0))]) (.cond (.v 28) .skip (.exit 2))) (.seq (.block 3 (rg [oM 31 5,oF 32 0 2,oL 33 32,oM 34 8,oA 35 6 33 34,oQ 36 1 35,oL 37 36,oT 38 (.lookup false (.int .i64) (.int .i64 0) (.t 31) (.t 37)),oM 39 5,oF 40 0 2,oL 41 40,oM 42 8,oA 43 6 41 42,oQ 44 0 43,oL 45 44,oT 46 (.lookup false (.int .i64) (.int .i64 0) (.t 39) (.t 45)),oT 47 (.bin .add (.t 38) (.t 46)),oZ (.mapUpdate (.int .i64) (.t 31) (.t 37) (.t 47))])) (rg [oM 29 8,oT 30 (.bin .sub (.t 29) (cI 1)),oN 8 30])))))) (.seq (rg [oM 48 5,oN 4 48]) .ret))))
def vf147 : VFunc:={ vs:=[0,1,2,3,4,5,7,8,11,12,13,14,28],nparams:=2,rets:=[.tmp (.v 4)],body:=vb147 }
def vb151 : VCode:=.seq (rg [oV 2 (.move cF)]) (.seq (.seq (rg [oM 5 0,oV 6 (.strBytes (.t 5)),oV 7 (.len (.v 6)),oJ 8 0]) (.block 0 (.loop (.seq (rg [oV 9 (.bin .lss (.v 8) (.v 7))]) (.seq (.cond (.v 9) .skip (.exit 0)) (.seq (.block 1 (.seq (rg [oT 10 (.indexAddr 1 (.v 6) (.v 8)),oL 11 10,oN 4 11]) (.seq (rg [oM 12 4,oC 13 179 [.t 12],oV 14 (.not (.t 13))]) (.cond (.v 14) (.seq (rg [oV 2 (.move cF)]) .ret) .skip)))) (rg [oT 15 (.bin .add (.v 8) (cI 1)),oN 8 15]))))))) (.seq (rg [oM 16 0,oT 17 (.bin .neq (.t 16) (.c (.str ⟨#[]⟩))),oP 18 17,gM 19 0 18 true,oG 20 (.lenStr (.t 19)) 18 true,oG 21 (.bin .leq (.t 20) (cI 32)) 18 true,oB 22 18 21,oP 23 22,gM 24 0 23 true,oG 25 (.indexStr (.t 24) (cI 0)) 23 true,oG 26 (.bin .neq (.t 25) (.c (.int .u8 45))) 23 true,oB 27 23 26,oN 2 27]) .ret))
def vf151 : VFunc:={ vs:=[0,2,4,6,7,8,9,14],nparams:=1,rets:=[.tmp (.v 2)],body:=vb151 }
def vb152 : VCode:=.seq (rg [oJ 4 0]) (.seq (.seq (rg [oM 6 0,oV 7 (.len (.t 6)),oJ 8 0]) (.block 0 (.loop (.seq (rg [oV 9 (.bin .lss (.v 8) (.v 7))]) (.seq (.cond (.v 9) .skip (.exit 0)) (.seq (.block 1 (.seq (rg [oM 10 8,oN 5 10]) (.seq (rg [oM 11 1,oM 12 0,oM 13 5,oA 14 6 12 13,oR 15 6 14,oV 16 (.callv (.t 11) [.t 15])]) (.cond (.v 16) (.seq (rg [oM 17 5,oN 4 17]) .ret) .skip)))) (rg [oT 18 (.bin .add (.v 8) (cI 1)),oN 8 18]))))))) (.seq (rg [oJ 4 (-1)]) .ret))
def vf152 : VFunc:={ vs:=[0,1,4,5,7,8,9,16],nparams:=2,rets:=[.tmp (.v 4)],body:=vb152 }
def vb153 : VCode:=.seq (rg [oX 2 6 0,oV 3 (.move cF)]) (.seq (rg [oF 4 0 2,oL 5 4,oT 6 (.load none (.v 1)),oT 7 (.bin .eql (.t 5) (.t 6)),oN 3 7]) .ret)
def vf153 : VFunc:={ vs:=[0,1,2,3],nparams:=2,rets:=[.tmp (.v 3)],body:=vb153 }
def vb154 : VCode:=.seq (rg [oX 3 2 0,oV 6 (.move cF)]) (.seq (.seq (rg [oJ 7 0]) (.block 0 (.loop (.seq (.seq (rg [oM 8 7,oM 9 1,oY 10 9,oU 11 8 10]) (.cond (.v 11) .skip (.exit 0))) (.seq (.block 1 (.seq (rg [oK 14 2 3,oM 15 1,oM 16 7,oA 17 2 15 16,oQ 18 0 17,oL 19 18,oC 20 77 [.t 14,.t 19],oT 21 (.not (.t 20)),oP 22 21,gM 23 7 22 false,oG 24 (.bin .gtr (.t 23) (cI 0)) 22 false,oG 25 (.move (.t 24)) 22 false,gM 26 1 25 true,gM 27 7 25 true,oG 28 (.indexAddr 2 (.t 26) (.t 27)) 25 true,oG 29 (.fieldAddr 0 (.t 28)) 25 true,gL 30 29 25 true,gM 31 1 25 true,gM 32 7 25 true,oG 33 (.bin .sub (.t 32) (cI 1)) 25 true,oG 34 (.indexAddr 2 (.t 31) (.t 33)) 25 true,oG 35 (.fieldAddr 0 (.t 34)) 25 true,gL 36 35 25 true,oG 37 (.bin .leq (.t 30) (.t 36)) 25 true,oG 38 (.pick (.t 25) (.t 37) cF) 22 false,oO 39 22 38,oP 40 39,gM 41 1 40 false,gM 42 7 40 false,oG 43 (.indexAddr 2 (.t 41) (.t 42)) 40 false,oG 44 (.fieldAddr 1 (.t 43)) 40 false,gL 45 44 40 false,gM 46 2 40 false,oG 47 (.bin .lss (.t 45) (.t 46)) 40 false,oO 48 40 47,oP 49 48,gM 50 1 49 false,gM 51 7 49 false,oG 52 (.indexAddr 2 (.t 50) (.t 51)) 49 false,oG 53 (.fieldAddr 1 (.t 52)) 49 false,gL 54 53 49 false,oG 55 (.bin .gtr (.t 54) (cI 16777216)) 49 false,oV 56 (.pick (.t 49) cT (.t 55))]) (.cond (.v 56) (.seq (rg [oV 6 (.move cF)]) .ret) .skip))) (rg [oM 12 7,oI 13 12,oN 7 13])))))) (.seq (rg [oV 6 (.move cT)]) .ret))
def vf154 : VFunc:={ vs:=[0,1,2,3,6,7,11,56],nparams:=3,rets:=[.tmp (.v 6)],body:=vb154 }
def vb155 : VCode:=.seq (rg [oX 5 2 0,oX 6 1 1,oJ 10 0]) (.seq (rg [oK 11 2 5,oK 12 1 6,oM 13 3,oC 14 144 [.t 11,.t 12,.t 13],oM 15 2,oM 16 3,oM 17 4,oC 18 180 [.t 15,.t 16,.t 17],oT 19 (.minmax false [.t 14,.t 18]),oN 10 19]) .ret)
def vf155 : VFunc:={ vs:=[0,1,2,3,4,5,6,10],nparams:=5,rets:=[.tmp (.v 10)],body:=vb155 }
def vb156 : VCode:=.seq (rg [oV 4 (.alloc [.c (.int .i64 0),.c (.int .i64 0),.c (.int .i64 0),.c (.int .i64 0),.c (.int .i64 0)])]) (.seq (.seq (rg [oJ 5 0]) (.block 0 (.loop (.seq (.seq (rg [oM 6 5,oM 7 0,oY 8 7,oU 9 6 8]) (.cond (.v 9) .skip (.exit 0))) (.seq (.block 1 (.seq (rg [oM 12 0,oM 13 5,oA 14 5 12 13,oQ 15 0 14,oL 16 15,oM 17 1,oV 18 (.bin .eql (.t 16) (.t 17))]) (.cond (.v 18) (.seq (rg [oM 19 0,oM 20 5,oA 21 5 19 20,oR 22 5 21,oS 5 4 22]) .ret) .skip))) (rg [oM 10 5,oI 11 10,oN 5 11])))))) (.seq (rg [oT 23 (.build [.z (.c (.int .i64 0)),.z (.c (.int .i64 0)),.z (.c (.int .i64 0)),.z (.c (.int .i64 0)),.z (.c (.int .i64 0))]),oS 5 4 23]) .ret))
def vf156 : VFunc:={ vs:=[0,1,4,5,9,18],nparams:=2,rets:=[.cell (.v 4) (some 5)],body:=vb156 }
def vb157 : VCode:=.seq (rg [oV 4 (.newArr 1)]) (.seq (rg [oJ 5 0]) (.seq (.seq (rg [oJ 6 0]) (.block 0 (.loop (.seq (.seq (rg [oM 11 6,oM 12 1,oY 13 12,oU 14 11 13]) (.cond (.v 14) .skip (.exit 0))) (.seq (.block 1 (rg [oM 17 5,oM 18 1,oM 19 6,oA 20 1 18 19,oL 21 20,oT 22 (.bin .add (.t 17) (.t 21)),oN 5 22])) (rg [oM 15 6,oI 16 15,oN 6 16])))))) (.seq (rg [oM 23 1,oY 24 23,oT 25 (.make 1 8 (.int .i64 0) (.t 24)),oN 7 25]) (.seq (rg [oM 26 0,oN 8 26]) (.seq (.seq (rg [oJ 9 0]) (.block 2 (.loop (.seq (.seq (rg [oM 27 5,oT 28 (.bin .gtr (.t 27) (cI 0)),oP 29 28,gM 30 9 29 true,gM 31 1 29 true,oG 32 (.len (.t 31)) 29 true,oG 33 (.bin .lss (.t 30) (.t 32)) 29 true,oV 34 (.pick (.t 29) (.t 33) cF)]) (.cond (.v 34) .skip (.exit 2))) (.seq (.block 3 (.seq (rg [oM 37 7,oM 38 9,oM 39 0,oM 40 1,oM 41 9,oA 42 1 40 41,oL 43 42,oT 44 (.bin .mul (.t 39) (.t 43)),oM 45 5,oT 46 (.bin .quo (.t 44) (.t 45)),oA 47 1 37 38,oZ (.store 1 (.t 47) (.t 46))]) (rg [oM 48 8,oM 49 7,oM 50 9,oA 51 1 49 50,oL 52 51,oT 53 (.bin .sub (.t 48) (.t 52)),oN 8 53]))) (rg [oM 35 9,oI 36 35,oN 9 36])))))) (.seq (.seq (rg [oJ 10 0]) (.block 4 (.loop (.seq (.seq (rg [oM 54 10,oM 55 1,oY 56 55,oT 57 (.bin .lss (.t 54) (.t 56)),oP 58 57,gM 59 8 58 true,oG 60 (.bin .gtr (.t 59) (cI 0)) 58 true,oV 61 (.pick (.t 58) (.t 60) cF)]) (.cond (.v 61) .skip (.exit 4))) (.seq (.block 5 (.seq (rg [oM 64 7,oM 65 10,oA 66 1 64 65,oL 67 66,oM 68 1,oM 69 10,oA 70 1 68 69,oL 71 70,oU 72 67 71]) (.cond (.v 72) (.seq (rg [oM 73 7,oM 74 10,oA 75 1 73 74,oL 76 75,oI 77 76,oA 78 1 73 74,oZ (.store 1 (.t 78) (.t 77))]) (rg [oM 79 8,oT 80 (.bin .sub (.t 79) (cI 1)),oN 8 80])) .skip))) (rg [oM 62 10,oI 63 62,oN 10 63])))))) (.seq (rg [oM 81 7,oN 4 81]) .ret)))))))
def vf157 : VFunc:={ vs:=[0,1,4,5,6,7,8,9,10,14,34,61,72],nparams:=2,rets:=[.tmp (.v 4)],body:=vb157 }
def vb158 : VCode:=.seq (rg [oX 2 1 0,oJ 4 0]) (.seq (.seq (rg [oJ 5 0]) (.block 0 (.loop (.seq (.seq (rg [oM 6 5,oF 7 0 2,oL 8 7,oY 9 8,oU 10 6 9]) (.cond (.v 10) .skip (.exit 0))) (.seq (.block 1 (.seq (rg [oF 13 0 2,oL 14 13,oM 15 5,oA 16 2 14 15,oQ 17 0 16,oL 18 17,oM 19 1,oV 20 (.bin .eql (.t 18) (.t 19))]) (.cond (.v 20) (.seq (rg [oF 21 0 2,oL 22 21,oM 23 5,oA 24 2 22 23,oQ 25 1 24,oL 26 25,oN 4 26]) .ret) .skip))) (rg [oM 11 5,oI 12 11,oN 5 12])))))) (.seq (rg [oJ 4 0]) .ret))
def vf158 : VFunc:={ vs:=[0,1,2,4,5,10,20],nparams:=2,rets:=[.tmp (.v 4)],body:=vb158 }
def vb179 : VCode:=.seq (rg [oV 2 (.move cF)]) (.seq (rg [oM 3 0,oT 4 (.bin .geq (.t 3) (.c (.int .u8 97))),oP 5 4,gM 6 0 5 true,oG 7 (.bin .leq (.t 6) (.c (.int .u8 122))) 5 true,oB 8 5 7,oP 9 8,gM 10 0 9 false,oG 11 (.bin .geq (.t 10) (.c (.int .u8 65))) 9 false,oG 12 (.move (.t 11)) 9 false,gM 13 0 12 true,oG 14 (.bin .leq (.t 13) (.c (.int .u8 90))) 12 true,oG 15 (.pick (.t 12) (.t 14) cF) 9 false,oO 16 9 15,oP 17 16,gM 18 0 17 false,oG 19 (.bin .geq (.t 18) (.c (.int .u8 48))) 17 false,oG 20 (.move (.t 19)) 17 false,gM 21 0 20 true,oG 22 (.bin .leq (.t 21) (.c (.int .u8 57))) 20 true,oG 23 (.pick (.t 20) (.t 22) cF) 17 false,oO 24 17 23,oP 25 24,gM 26 0 25 false,oG 27 (.bin .eql (.t 26) (.c (.int .u8 95))) 25 false,oO 28 25 27,oP 29 28,gM 30 0 29 false,oG 31 (.bin .eql (.t 30) (.c (.int .u8 45))) 29 false,oO 32 29 31,oN 2 32]) .ret)
def vf179 : VFunc:={ vs:=[0,2],nparams:=1,rets:=[.tmp (.v 2)],body:=vb179 }
def vb180 : VCode:=.seq (rg [oJ 6 0]) (.seq (.seq (rg [oJ 7 0]) (.block 0 (.loop (.seq (.seq (rg [oM 8 7,oM 9 0,oY 10 9,oU 11 8 10]) (.cond (.v 11) .skip (.exit 0))) (.seq (.block 1 (.seq (rg [oM 14 0,oM 15 7,oA 16 3 14 15,oQ 17 0 16,oL 18 17,oM 19 1,oV 20 (.bin .eql (.t 18) (.t 19))]) (.cond (.v 20) (.seq (.seq (rg [oV 21 (.move (.v 2))]) (.cond (.v 21) (.seq (rg [oM 22 0,oM 23 7,oA 24 3 22 23,oQ 25 2 24,oL 26 25,oT 27 (.minmax false [.t 26,.c (.int .i64 16777216)]),oN 6 27]) .ret) .skip)) (.seq (rg [oM 28 0,oM 29 7,oA 30 3 28 29,oQ 31 1 30,oL 32 31,oT 33 (.minmax false [.t 32,.c (.int .i64 16777216)]),oN 6 33]) .ret)) .skip))) (rg [oM 12 7,oI 13 12,oN 7 13])))))) (.seq (rg [oJ 6 0]) .ret))
def vf180 : VFunc:={ vs:=[0,1,2,6,7,11,20,21],nparams:=3,rets:=[.tmp (.v 6)],body:=vb180 }
def prog : FuncId -> Option VFunc | 3=>some vf3 | 5=>some vf5 | 6=>some vf6 | 7=>some vf7 | 8=>some vf8 | 9=>some vf9 | 10=>some vf10 | 11=>some vf11 | 12=>some vf12 | 13=>some vf13 | 14=>some vf14 | 15=>some vf15 | 19=>some vf19 | 20=>some vf20 | 21=>some vf21 | 22=>some vf22 | 23=>some vf23 | 24=>some vf24 | 25=>some vf25 | 26=>some vf26 | 27=>some vf27 | 28=>some vf28 | 29=>some vf29 | 30=>some vf30 | 31=>some vf31 | 32=>some vf32 | 33=>some vf33 | 34=>some vf34 | 35=>some vf35 | 36=>some vf36 | 37=>some vf37 | 38=>some vf38 | 39=>some vf39 | 40=>some vf40 | 41=>some vf41 | 42=>some vf42 | 43=>some vf43 | 63=>some vf63 | 64=>some vf64 | 65=>some vf65 | 66=>some vf66 | 67=>some vf67 | 68=>some vf68 | 69=>some vf69 | 70=>some vf70 | 71=>some vf71 | 72=>some vf72 | 73=>some vf73 | 74=>some vf74 | 75=>some vf75 | 76=>some vf76 | 77=>some vf77 | 78=>some vf78 | 79=>some vf79 | 80=>some vf80 | 81=>some vf81 | 82=>some vf82 | 83=>some vf83 | 84=>some vf84 | 85=>some vf85 | 86=>some vf86 | 87=>some vf87 | 88=>some vf88 | 89=>some vf89 | 90=>some vf90 | 91=>some vf91 | 92=>some vf92 | 93=>some vf93 | 94=>some vf94 | 95=>some vf95 | 96=>some vf96 | 97=>some vf97 | 102=>some vf102 | 103=>some vf103 | 111=>some vf111 | 112=>some vf112 | 113=>some vf113 | 114=>some vf114 | 115=>some vf115 | 116=>some vf116 | 117=>some vf117 | 119=>some vf119 | 120=>some vf120 | 121=>some vf121 | 122=>some vf122 | 123=>some vf123 | 124=>some vf124 | 126=>some vf126 | 127=>some vf127 | 128=>some vf128 | 129=>some vf129 | 130=>some vf130 | 131=>some vf131 | 132=>some vf132 | 133=>some vf133 | 134=>some vf134 | 135=>some vf135 | 136=>some vf136 | 137=>some vf137 | 138=>some vf138 | 139=>some vf139 | 140=>some vf140 | 141=>some vf141 | 144=>some vf144 | 147=>some vf147 | 151=>some vf151 | 152=>some vf152 | 153=>some vf153 | 154=>some vf154 | 155=>some vf155 | 156=>some vf156 | 157=>some vf157 | 158=>some vf158 | 179=>some vf179 | 180=>some vf180 | _=>none
end Go.V
