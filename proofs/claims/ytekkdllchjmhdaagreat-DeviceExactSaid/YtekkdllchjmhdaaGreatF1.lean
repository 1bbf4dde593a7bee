/- Part 1 of the proof. -/
import GoSem.Core.Code
import GoSem.Core.View
set_option linter.unusedSectionVars false
set_option linter.unusedSimpArgs false
set_option linter.unusedVariables false
set_option maxHeartbeats 32000000
open List renaming forall_mem_cons → lfm
namespace Go.V
theorem cl1 {P : Prop} (h : P := by first | rfl | (simp; done) | (congr 2; omega) | (congr 1; omega) | (congr 3; omega) | (simp; omega) | (congr 2; simp; omega)) : P := h
theorem cl2 {P : Prop} (h : P := by first | rfl | omega | (congr 2; omega)) : P := h
inductive KT where
 | int (k:IntKind)
 | str
 | bool
 deriving DecidableEq,Inhabited
inductive MKey where
 | int (n:Int)
 | str (s:ByteArray)
 | bool (b:Bool)
 deriving DecidableEq
inductive PV where
 | int (k:IntKind) (n:Int)
 | bool (b:Bool)
 | str (s:ByteArray)
 | slice (sz:Nat) (xs:List PV)
 | agg (cs:List PV)
 | map (kt:KT) (ks:List MKey) (vs:List PV)
 | fn (f:FuncId)
 | nilp
 | nils
 | lit (sz:Nat) (xs:List PV)
 | clo (f:FuncId) (caps:List PV)
 deriving Inhabited
def PV.cells:PV->List PV
 | .agg cs=>cs
 | v=>[v]
def PV.flat0:PV->Bool
 | .int _ _|.bool _|.str _|.fn _|.nilp=>true
 | _=>false
def PV.flat:PV->Bool
 | .agg cs=>cs.all PV.flat0
 | d=>d.flat0
inductive Id where
 | slot (s j:Nat)
 | arg (i j:Nat)
 deriving DecidableEq
inductive VVal where
 | p (d:PV)
 | own (id:Id) (ver off len:Nat)
 | ptr (id:Id) (ver off:Nat)
 | vptr (cs:List PV) (off:Nat)
 | eptr (id:Id) (ver i off:Nat)
 | mref (id:Id) (ver:Nat)
 | fn (f:FuncId) (caps:List VVal)
 | agg (cs:List VVal)
 | tup (vs:List VVal)
 | fresh (sz:Nat) (xs:List PV)
 | boxed (cs:List VVal)
 | plist (ps:List VVal)
 | pcell (p:VVal)
 | undef
 | dead
 deriving Inhabited
inductive Ob where
 | box (cs:List VVal)
 | arr (sz:Nat) (xs:List PV)
 | map (kt:KT) (ks:List MKey) (vs:List PV)
 | gone
 | iter (s:ByteArray) (pos:Nat)
 deriving Inhabited
abbrev VHeap:=Id->Option (Nat × Ob)
def VHeap.upd (h:VHeap) (id:Id) (o:Nat × Ob):VHeap:=fun i=>if i=id then some o else h i
def VHeap.upds (h:VHeap):List (Id × Nat × Ob)->VHeap
 | []=>h
 | (id,o)::us=>(VHeap.upd h id o).upds us
def nv:Option (Nat × Ob)->Nat
 | none=>0
 | some (v,_)=>v+1
structure Tok {α:Type} (a:α):Type where
def ob {α β:Type} (x:Option α) (f:α->Option β) (_u:Tok f:=⟨⟩):Option β:=match x with|some a=>f a|none=>none
def gd {α:Type} (c:Prop) [Decidable c] (x:Option α) (_u:Tok x:=⟨⟩):Option α:=if c then x else none
def br {α:Type} (b:Bool) (x y:α) (_u:Tok x:=⟨⟩) (_v:Tok y:=⟨⟩):α:=if b then x else y
inductive VArg where
 | v (s:Nat)
 | t (s:Nat)
 | c (d:PV)
 deriving Inhabited
inductive ZC where
 | c (d:PV)
 | nil (sz:Nat)
 deriving Inhabited
inductive BC where
 | z (z:ZC)
 | a (x:VArg) (j n:Nat)
 deriving Inhabited
inductive VOp where
 | move (x:VArg)
 | newArr (sz:Nat)
 | pick (c a b:VArg)
 | alloc (zero:List ZC)
 | box (n:Nat) (x:VArg)
 | build (cells:List BC)
 | buildSlice (sz:Nat) (parts:List VArg)
 | buildFz (sz:Nat) (parts:List VArg)
 | load (agg:Option Nat) (a:VArg)
 | store (n:Nat) (a x:VArg)
 | fieldAddr (off:Nat) (x:VArg)
 | field (off:Nat) (agg:Option Nat) (x:VArg)
 | indexAddr (sz:Nat) (x i:VArg)
 | indexStr (x i:VArg)
 | bin (op:BinOp) (x y:VArg)
 | eqAgg (neg:Bool) (kts:List KT) (x y:VArg)
 | not (x:VArg)
 | len (x:VArg)
 | lenStr (x:VArg)
 | eqB (neg:Bool) (x y:VArg)
 | append (sz bytes:Nat) (s x:VArg)
 | appendNil (sz bytes:Nat) (x:VArg)
 | slice (str:Bool) (sz:Nat) (lo hi mx:Option VArg) (x:VArg)
 | lookup (ok:Bool) (kt:KT) (zero:PV) (m k:VArg)
 | mapUpdate (kt:KT) (m k x:VArg)
 | makeMap (kt:KT)
 | extract (x:VArg) (i:Nat)
 | minmax (isMax:Bool) (xs:List VArg)
 | strBytes (x:VArg)
 | nilCheck (x:VArg)
 | makeFunc (f:FuncId) (caps:List VArg)
 | call (f:FuncId) (args:List VArg)
 | callv (x:VArg) (args:List VArg)
 | callW (f:FuncId) (args:List VArg)
 | callvW (x:VArg) (args:List VArg)
 | callR (f:FuncId) (args:List VArg)
 | buildArr (sz:Nat) (parts:List VArg)
 | indexArr (n sz:Nat) (agg:Option Nat) (x i:VArg)
 | clear (sz:Nat) (zero:PV) (a:VArg)
 | buildPtrs (parts:List VArg)
 | callA (f:FuncId) (args:List VArg)
 | storeNil (sz i k:Nat) (a:VArg)
 deriving Inhabited
inductive VDst where
 | v (s:Nat)
 | t (s:Nat)
 | none
 deriving Inhabited,DecidableEq
structure VOper where
 dst:VDst
 op:VOp
 guard:Option (VArg × Bool):=.none
 deriving Inhabited
structure VRegion where
 ops:List VOper
 fz:List Nat:=[]
 fp:List (Nat × Nat):=[]
 deriving Inhabited
inductive VCode where
 | skip
 | region (r:VRegion)
 | seq (a b:VCode)
 | cond (c:VArg) (thn els:VCode)
 | block (id:Nat) (c:VCode)
 | loop (c:VCode)
 | exit (id:Nat)
 | ret
 | mv (a b:Id) (c:VCode)
 | scope (c:VCode)
 | fail
 deriving Inhabited
abbrev oT (n:Nat) (o:VOp):VOper:=⟨.t n,o,none⟩
abbrev oV (n:Nat) (o:VOp):VOper:=⟨.v n,o,none⟩
abbrev oZ (o:VOp):VOper:=⟨.none,o,none⟩
abbrev oM (n x:Nat):VOper:=⟨.t n,.move (.v x),none⟩
abbrev oN (n x:Nat):VOper:=⟨.v n,.move (.t x),none⟩
abbrev oL (n x:Nat):VOper:=⟨.t n,.load none (.t x),none⟩
abbrev oF (n k x:Nat):VOper:=⟨.t n,.fieldAddr k (.v x),none⟩
abbrev oK (n k x:Nat):VOper:=⟨.t n,.load (some k) (.v x),none⟩
abbrev rg (l:List VOper):VCode:=.region ⟨l,[],[]⟩
abbrev cI (n:Int):VArg:=.c (.int .i64 n)
abbrev cF:VArg:=.c (.bool false)
abbrev cT:VArg:=.c (.bool true)
abbrev oJ (n:Nat) (i:Int):VOper:=⟨.v n,.move (.c (.int .i64 i)),none⟩
abbrev oP (n x:Nat):VOper:=⟨.t n,.move (.t x),none⟩
abbrev oA (n s a b:Nat):VOper:=⟨.t n,.indexAddr s (.t a) (.t b),none⟩
abbrev oQ (n k x:Nat):VOper:=⟨.t n,.fieldAddr k (.t x),none⟩
abbrev oC (n:Nat) (f:FuncId) (l:List Nat):VOper:=⟨.t n,.call f (l.map .t),none⟩
abbrev oE (n x k:Nat):VOper:=⟨.t n,.extract (.t x) k,none⟩
abbrev oS (s x y:Nat):VOper:=⟨.none,.store s (.v x) (.t y),none⟩
abbrev oI (n x:Nat):VOper:=⟨.t n,.bin .add (.t x) (.c (.int .i64 1)),none⟩
abbrev oO (n x y:Nat):VOper:=⟨.t n,.pick (.t x) (.c (.bool true)) (.t y),none⟩
abbrev oB (n x y:Nat):VOper:=⟨.t n,.pick (.t x) (.t y) (.c (.bool false)),none⟩
abbrev oR (n s x:Nat):VOper:=⟨.t n,.load (some s) (.t x),none⟩
abbrev oY (n x:Nat):VOper:=⟨.t n,.len (.t x),none⟩
abbrev oX (n s x:Nat):VOper:=⟨.v n,.box s (.v x),none⟩
abbrev oU (n x y:Nat):VOper:=⟨.v n,.bin .lss (.t x) (.t y),none⟩
abbrev bT (o:BinOp) (a b:Nat):VOp:=.bin o (.t a) (.t b)
abbrev bI (o:BinOp) (a:Nat) (k:Int):VOp:=.bin o (.t a) (.c (.int .i64 k))
abbrev nT (a:Nat):VOp:=.not (.t a)
abbrev lT (a:Nat):VOp:=.len (.t a)
abbrev kT (a:Nat):VOp:=.nilCheck (.t a)
abbrev cC (f:FuncId) (l:List Nat):VOp:=.call f (l.map .t)
abbrev cW (f:FuncId) (l:List Nat):VOp:=.callW f (l.map .t)
abbrev ldV (s x:Nat):VOp:=.load (some s) (.v x)
abbrev fT (n:Nat) (o:VOp) (g:Nat):VOper:=⟨.t n,o,some (.t g,false)⟩
abbrev tT (n:Nat) (o:VOp) (g:Nat):VOper:=⟨.t n,o,some (.t g,true)⟩
abbrev fM (n x g:Nat):VOper:=⟨.t n,.move (.v x),some (.t g,false)⟩
abbrev tM (n x g:Nat):VOper:=⟨.t n,.move (.v x),some (.t g,true)⟩
abbrev fL (n x g:Nat):VOper:=⟨.t n,.load none (.t x),some (.t g,false)⟩
abbrev tL (n x g:Nat):VOper:=⟨.t n,.load none (.t x),some (.t g,true)⟩
abbrev fF (n k x g:Nat):VOper:=⟨.t n,.fieldAddr k (.v x),some (.t g,false)⟩
abbrev tF (n k x g:Nat):VOper:=⟨.t n,.fieldAddr k (.v x),some (.t g,true)⟩
abbrev sT (s x y:Nat):VOper:=⟨.none,.store s (.t x) (.t y),none⟩
abbrev vO (n x y:Nat):VOper:=⟨.v n,.pick (.t x) (.c (.bool true)) (.t y),none⟩
abbrev vB (n x y:Nat):VOper:=⟨.v n,.pick (.t x) (.t y) (.c (.bool false)),none⟩
abbrev cZ:ZC:=.c (.int .i64 0)
abbrev zZ:BC:=.z (.c (.int .i64 0))
abbrev zN (n:Nat):BC:=.z (.nil n)
abbrev aT (x j n:Nat):BC:=.a (.t x) j n
abbrev rs (l:List VOper) (c:VCode):VCode:=.seq (.region ⟨l,[],[]⟩) c
abbrev cE (v b:Nat):VCode:=.cond (.v v) .skip (.exit b)
abbrev cS (v:Nat) (c:VCode):VCode:=.cond (.v v) c .skip
abbrev sq (a b:VCode):VCode:=.seq a b
inductive VRet where
 | tmp (x:VArg)
 | cell (x:VArg) (agg:Option Nat)
 deriving Inhabited
structure VFunc where
 vs:List Nat
 nparams:Nat
 body:VCode
 rets:List VRet
 deriving Inhabited
def iv:List Nat->List Nat->List Nat
 | s::n::r,l=>(List.range n).map (s+·)++iv r l
 | _,l=>l
abbrev mF (n:Nat) (r:List VRet) (vs:List Nat) (b:VCode):VFunc:=⟨vs,n,b,r⟩
structure St where
 pe:Nat->VVal
 h:VHeap
inductive VExit where
 | normal
 | exit (id:Nat)
 | ret
 deriving DecidableEq
abbrev Sig:=FuncId->List VVal->List Ob->Option (VVal × List Ob)
def AF:VVal->List VVal
 | .agg cs=>cs
 | v=>[v]
def CZ (agg:Option Nat) (cs:List VVal) (off:Nat):Option VVal :=
 match agg with
 | none=>cs[off]?
 | some n=>gd (off+n<=cs.length) (some (.agg ((cs.drop off).take n)))
def FA (h:VHeap):VVal->Option (List VVal × Nat)
 | .ptr id ver off=>match h id with
  | some (v,.box cs)=>gd (v=ver) (some (cs,off))
  | _=>none
 | .vptr cs off=>some (cs.map .p,off)
 | .pcell p=>some ([p],0)
 | .eptr id ver i off=>match h id with
  | some (v,.arr _ xs)=>gd (v=ver) (ob xs[i]? fun x=>some (x.cells.map .p,off))
  | _=>none
 | _=>none
def F9 (h:VHeap) (agg:Option Nat) (a:VVal):Option VVal:=ob (FA h a) fun r=>CZ agg r.1 r.2
def unP:VVal->Option PV
 | .p d=>some d
 | .fn f []=>some (.fn f)
 | _=>none
def Ad {α β:Type} (f:α->Option β):List α->Option (List β)
 | []=>some []
 | x::xs=>ob (f x) fun y=>ob (Ad f xs) fun ys=>some (y::ys)
def BF:VVal->Option PV
 | .agg cs=>ob (Ad unP cs) fun ds=>some (.agg ds)
 | v=>unP v
def A0 (h:VHeap):VVal->Option (Nat × List PV)
 | .p (.slice sz xs)=>some (sz,xs)
 | .own id ver off len=>match h id with
  | some (v,.arr sz xs)=>gd (v=ver) (some (sz,(xs.drop off).take len))
  | _=>none
 | _=>none
def D5:VVal->Option Nat
 | .p (.slice _ xs)=>some xs.length
 | .own _ _ _ len=>some len
 | .plist ps=>some ps.length
 | _=>none
def Ga:VVal->Option Nat
 | .p (.str s)=>some s.size
 | _=>none
def AB {α:Type} (cs:List α) (off:Nat) (vs:List α):List α:=cs.take off++vs++cs.drop (off+vs.length)
def setCells (x:PV) (off:Nat) (ds:List PV):PV :=
 match x with
 | .agg cs=>.agg (AB cs off ds)
 | y=>ds.headD y
def Et:VVal->Bool
 | .p _|.own _ _ _ _|.ptr _ _ _|.vptr _ _|.eptr _ _ _ _|.mref _ _|.fn _ _=>true
 | _=>false
def DR (h:VHeap) (n:Nat) (vs:List VVal):VVal->Option (List (Id × Nat × Ob))
 | .ptr id ver off=>match h id with
  | some (v,.box cs)=>gd (v=ver) (gd (off+n<=cs.length) (some [(id,v,.box (AB cs off vs))]))
  | _=>none
 | .eptr id ver i off=>match h id with
  | some (v,.arr sz xs)=>gd (v=ver) (ob xs[i]? fun x0=>ob (Ad unP vs) fun ds=>gd (off+n<=x0.cells.length) (some [(id,v,.arr sz (xs.set i (setCells x0 off ds)))]))
  | _=>none
 | _=>none
def DX (h:VHeap) (n:Nat) (a x:VVal):Option (List (Id × Nat × Ob)) :=
 gd ((AF x).length=n) (gd ((AF x).all Et=true) (DR h n (AF x) a))
def Hk:VVal->Bool
 | .ptr _ _ _|.vptr _ _|.eptr _ _ _ _=>true
 | _=>false
def Ef (h:VHeap) (sz i:Nat):VVal->Option VVal
 | .plist ps=>gd (sz=1) (ob ps[i]? fun p=>some (.pcell p))
 | .p (.slice sz' xs)=>gd (sz'=sz) (ob xs[i]? fun x=>some (.vptr x.cells 0))
 | .own id ver off len=>match h id with
  | some (v,.arr sz' _)=>gd (v=ver) (gd (sz'=sz) (gd (i<len) (some (.eptr id ver (off+i) 0))))
  | _=>none
 | _=>none
def Ib (h:VHeap) (sz:Nat) (s:VVal) (n:Int):Option VVal:=gd (0<=n) (Ef h sz n.toNat s)
def zcell (d:Nat) (h:VHeap) (j:Nat):ZC->VVal × List (Id × Nat × Ob)
 | .c x=>(.p x,[])
 | .nil sz=>(.own (.slot d (j+1)) (nv (h (.slot d (j+1)))) 0 0,[(.slot d (j+1),nv (h (.slot d (j+1))),.arr sz [])])
def zcells (d:Nat):VHeap->Nat->List ZC->List VVal × List (Id × Nat × Ob)
 | _,_,[]=>([],[])
 | h,j,z::zs=>((zcell d h j z).1::(zcells d (h.upds (zcell d h j z).2) (j+1) zs).1,(zcell d h j z).2++(zcells d (h.upds (zcell d h j z).2) (j+1) zs).2)
def BV (look:VArg->Option VVal) (d:Nat):VHeap->Nat->List BC->Option (List VVal × List (Id × Nat × Ob))
 | _,_,[]=>some ([],[])
 | h,j,.z z::bs=>ob (BV look d (h.upds (zcell d h j z).2) (j+1) bs) fun rs=>some ((zcell d h j z).1::rs.1,(zcell d h j z).2++rs.2)
 | h,j,.a x i n::bs=>ob (look x) fun v=>gd ((AF v).length=n) <| ob (AF v)[i]? fun c=>gd (Et c=true) <| ob (BV look d h (j+1) bs) fun rs=>some (c::rs.1,rs.2)
def T5 (k:IntKind) (a b:Int):Int:=k.wrap (BitVec.ofInt k.bits a &&& BitVec.ofInt k.bits b).toNat
def orI (k:IntKind) (a b:Int):Int:=k.wrap (BitVec.ofInt k.bits a ||| BitVec.ofInt k.bits b).toNat
def S0 (k:IntKind) (a b:Int):Int:=k.wrap (BitVec.ofInt k.bits a ^^^ BitVec.ofInt k.bits b).toNat
def ME (k:IntKind) (a b:Int):Int:=k.wrap (BitVec.ofInt k.bits a &&& ~~~ BitVec.ofInt k.bits b).toNat
def Mt (k:IntKind) (a b:Int):Int:=k.wrap (a*2 ^ min b.toNat k.bits)
def Ms (k:IntKind) (a b:Int):Int:=a.fdiv (2 ^ min b.toNat k.bits)
def J8 (k:IntKind) (a b:Int):BinOp->Option VVal
 | .add=>some (.p (.int k (k.wrap (a+b))))
 | .sub=>some (.p (.int k (k.wrap (a - b))))
 | .mul=>some (.p (.int k (k.wrap (a*b))))
 | .quo=>gd (b ≠ 0) (some (.p (.int k (k.wrap (a.tdiv b)))))
 | .rem=>gd (b ≠ 0) (some (.p (.int k (a.tmod b))))
 | .and=>some (.p (.int k (T5 k a b)))
 | .or=>some (.p (.int k (orI k a b)))
 | .xor=>some (.p (.int k (S0 k a b)))
 | .andNot=>some (.p (.int k (ME k a b)))
 | .eql=>some (.p (.bool (a == b)))
 | .neq=>some (.p (.bool (a != b)))
 | .lss=>some (.p (.bool (decide (a<b))))
 | .leq=>some (.p (.bool (decide (a<=b))))
 | .gtr=>some (.p (.bool (decide (b<a))))
 | .geq=>some (.p (.bool (decide (b<=a))))
 | _=>none
def J6 (a b:ByteArray):BinOp->Option VVal
 | .eql=>some (.p (.bool (decide (a=b))))
 | .neq=>some (.p (.bool (!decide (a=b))))
 | .add=>gd (a.size+b.size<=9223372036854775807) (some (.p (.str (a++b))))
 | _=>none
def MA:BinOp->Bool
 | .shl|.shr=>true
 | _=>false
def JC (k:IntKind) (a b:Int):BinOp->Option VVal
 | .shl=>gd (0<=b) (some (.p (.int k (Mt k a b))))
 | .shr=>gd (0<=b) (some (.p (.int k (Ms k a b))))
 | _=>none
def JX (op:BinOp):VVal->VVal->Option VVal
 | .p (.int k a),.p (.int k' b)=>br (MA op) (JC k a b op) (gd (k=k') (J8 k a b op))
 | .p (.str a),.p (.str b)=>J6 a b op
 | _,_=>none
def eq0:KT->PV->PV->Option Bool
 | .int k,.int k' a,.int k'' b=>gd (k'=k) (gd (k''=k) (some (a == b)))
 | .bool,.bool a,.bool b=>some (a == b)
 | .str,.str a,.str b=>some (decide (a=b))
 | _,_,_=>none
def Dt:List KT->List PV->List PV->Option Bool
 | [],[],[]=>some true
 | k::ks,x::xs,y::ys=>ob (eq0 k x y) fun b=>ob (Dt ks xs ys) fun c=>some (b && c)
 | _,_,_=>none
def mm2 (isMax:Bool):VVal->VVal->Option VVal
 | .p (.int k a),.p (.int k' b)=>gd (k=k') (some (.p (.int k (if isMax then max a b else min a b))))
 | _,_=>none
def mmL (isMax:Bool):VVal->List VVal->Option VVal
 | v,[]=>some v
 | v,u::us=>ob (mm2 isMax v u) fun r=>mmL isMax r us
def H5 (isMax:Bool):List VVal->Option VVal
 | []=>none
 | v::vs=>mmL isMax v vs
def EB:KT->VVal->Option MKey
 | .int k,.p (.int k' n)=>gd (k=k') (some (.int n))
 | .str,.p (.str s)=>some (.str s)
 | .bool,.p (.bool b)=>some (.bool b)
 | _,_=>none
def A2:List MKey->List PV->MKey->Option PV
 | k::ks,v::vs,k'=>if k'=k then some v else A2 ks vs k'
 | _,_,_=>none
def Au:List MKey->List PV->MKey->PV->List MKey × List PV
 | k::ks,v::vs,k',v'=>if k'=k then (k::ks,v'::vs) else
   let r:=Au ks vs k' v'
   (k::r.1,v::r.2)
 | _,_,k',v'=>([k'],[v'])
def CC (h:VHeap):VVal->Option (KT × List MKey × List PV)
 | .p (.map kt ks vs)=>some (kt,ks,vs)
 | .mref id ver=>match h id with
  | some (v,.map kt ks vs)=>gd (v=ver) (some (kt,ks,vs))
  | _=>none
 | _=>none
def CU:PV->VVal
 | .agg cs=>.agg (cs.map .p)
 | d=>.p d
def Ei (ok:Bool) (zero:PV) (ks:List MKey) (vs:List PV) (k:MKey):VVal :=
 let r:=A2 ks vs k
 let v:=CU (r.getD zero)
 if ok then .tup [v,.p (.bool r.isSome)] else v
def Ej (h:VHeap) (sz bytes:Nat) (s x:VVal):Option (VVal × List (Id × Nat × Ob)) :=
 match s with
 | .own id ver 0 len=>match h id with
  | some (v,.arr sz' xs)=>gd (v=ver) <| gd (sz'=sz) <| gd (len<=xs.length) <|
    ob (A0 h x) fun r=>gd (r.1=sz \/ r.2=[]) <| gd ((len+r.2.length)*bytes<=140737488355328) <| gd (len+r.2.length<=9223372036854775807) <|
     some (.own id (v+1) 0 (len+r.2.length),[(id,v+1,.arr sz (xs.take len++r.2))])
  | _=>none
 | _=>none
def Gy (d:Nat) (h:VHeap) (sz bytes:Nat) (x:VVal):Option (VVal × List (Id × Nat × Ob)) :=
 ob (A0 h x) fun r=>gd (r.1=sz \/ r.2=[]) <| gd (r.2.length*bytes<=140737488355328) <| gd (r.2.length<=9223372036854775807) <|
  some (.own (.slot d 0) (nv (h (.slot d 0))) 0 r.2.length,[(.slot d 0,nv (h (.slot d 0)),.arr sz r.2)])
def Ii:VVal->Option Nat
 | .p (.int _ n)=>gd (0<=n) (some n.toNat)
 | _=>none
def Cj (look:VArg->Option VVal) (d:Nat):Option VArg->Option Nat
 | none=>some d
 | some x=>ob (look x) fun v=>Ii v
def Du (h:VHeap) (sz l m:Nat):VVal->Option (VVal × List (Id × Nat × Ob))
 | .p (.slice sz' xs)=>gd (sz'=sz) (some (.p (.slice sz ((xs.drop l).take (m - l))),[]))
 | .own id ver off _=>match h id with
  | some (v,.arr sz' _)=>gd (v=ver) (gd (sz'=sz) (some (.own id ver (off+l) (m - l),[])))
  | _=>none
 | _=>none
def Hh (d:Nat) (h:VHeap) (sz:Nat):Option (VVal × List (Id × Nat × Ob)) :=
 some (.own (.slot d 0) (nv (h (.slot d 0))) 0 0,[(.slot d 0,nv (h (.slot d 0)),.arr sz [])])
def Fo (d:Nat) (h:VHeap) (sz l m:Nat):VVal->Option (VVal × List (Id × Nat × Ob))
 | .own id ver off n=>Du h sz l m (.own id ver off n)
 | _=>gd (l=m) (Hh d h sz)
def DJ (d:Nat) (h:VHeap) (look:VArg->Option VVal) (sz l m:Nat) (s:VVal):Option VArg->Option (VVal × List (Id × Nat × Ob))
 | none=>Du h sz l m s
 | some x=>ob (look x) fun v=>ob (Ii v) fun k=>gd (k=m) (Fo d h sz l m s)
def JI (l m:Nat):VVal->Option (VVal × List (Id × Nat × Ob))
 | .p (.str b)=>some (.p (.str (b.extract l m)),[])
 | _=>none
def Fh (look:VArg->Option VVal) (lo hi:Option VArg) (s:VVal):Option (VVal × List (Id × Nat × Ob)) :=
 ob (Ga s) fun n=>ob (Cj look 0 lo) fun l=>ob (Cj look n hi) fun m=>gd (l<=m) (gd (m<=n) (JI l m s))
def DY (d:Nat) (h:VHeap) (look:VArg->Option VVal) (sz:Nat) (lo hi mx:Option VArg) (s:VVal):Option (VVal × List (Id × Nat × Ob)) :=
 ob (D5 s) fun n=>ob (Cj look 0 lo) fun l=>ob (Cj look n hi) fun m=>gd (l<=m) (gd (m<=n) (DJ d h look sz l m s mx))
def Em (cs:List PV):List VVal:=cs.map fun c=>.vptr c.cells 0
def BG (h:VHeap) (id:Id) (ver:Nat):Bool :=
 match h id with
 | some (v,_)=>decide (v=ver)
 | none=>false
def BN (R:List Id) (id:Id):Option Nat:=match R with
 | []=>none
 | r::rs=>if r=id then some 0 else (BN rs id).map (·+1)
def JR:VVal->List Id
 | .ptr id _ _=>[id]
 | _=>[]
def Hi:VVal->List Id
 | .fn _ caps=>caps.flatMap JR
 | .agg cs=>cs.flatMap JR
 | v=>JR v
def FX (h:VHeap) (id:Id):List Id :=
 match h id with
 | some (_,.box cs)=>cs.flatMap Hi
 | _=>[]
def B9 (R:List Id):List Id->List Id
 | []=>R
 | i::is=>B9 (if R.contains i then R else R++[i]) is
def roots (h:VHeap) (args:List VVal):List Id :=
 let r0:=B9 [] (args.flatMap Hi)
 if r0.isEmpty then [] else
 let r1:=B9 r0 (r0.flatMap (FX h))
 let r2:=B9 r1 (r1.flatMap (FX h))
 r2
def Bj (R:List Id) (h:VHeap):VVal->Option VVal
 | .p d=>some (.p d)
 | .own id ver off len=>ob (A0 h (.own id ver off len)) fun r=>some (.p (.slice r.1 r.2))
 | .mref id ver=>ob (CC h (.mref id ver)) fun r=>some (.p (.map r.1 r.2.1 r.2.2))
 | .ptr id ver off=>gd (BG h id ver=true) (ob (BN R id) fun i=>some (.ptr (.arg i 0) 0 off))
 | .vptr cs off=>some (.vptr cs off)
 | .eptr id ver i off=>match h id with
  | some (v,.arr _ xs)=>gd (v=ver) (ob xs[i]? fun x=>some (.vptr x.cells off))
  | _=>none
 | _=>none
def B3 (R:List Id) (h:VHeap):VVal->Option VVal
 | .fn f caps=>ob (Ad (Bj R h) caps) fun cs=>some (.fn f cs)
 | .agg cs=>ob (Ad (Bj R h) cs) fun cs=>some (.agg cs)
 | v=>Bj R h v
def Hb:VVal->Bool
 | .own _ _ _ _|.mref _ _|.eptr _ _ _ _=>true
 | _=>false
def D3:VVal->Bool
 | .agg cs|.fn _ cs=>cs.any Hb
 | v=>Hb v
def Ci:VVal->Bool
 | .p d=>d.flat
 | .fresh _ xs=>xs.all PV.flat
 | .ptr _ _ _=>true
 | _=>false
def DB:VVal->Bool
 | .agg cs=>cs.all Ci
 | .boxed cs=>cs.all Ci
 | v=>Ci v
def Js:VVal->Bool
 | .tup vs=>vs.all DB
 | v=>DB v
def Fw:VVal->Bool
 | .p d=>d.flat
 | .ptr _ _ _=>true
 | .fn _ cs=>cs.all Ci
 | _=>false
def Jv:Ob->Bool
 | .box cs=>cs.all Fw
 | _=>false
def C0 (R:List Id) (h:VHeap) (id:Id):Option Ob :=
 match h id with
 | some (_,.box cs)=>gd (cs.any D3=false) <| ob (Ad (B3 R h) cs) fun cs=>some (.box cs)
 | _=>none
def CH (R:List Id) (h:VHeap):VVal->Option VVal
 | .p d=>some (.p d)
 | .ptr (.arg i 0) 0 off=>ob R[i]? fun id=>ob (h id) fun o=>some (.ptr id o.1 off)
 | .eptr (.arg i 0) 0 j off=>ob R[i]? fun id=>ob (h id) fun o=>some (.eptr id o.1 j off)
 | _=>none
def D4 (R:List Id) (h:VHeap):VVal->Option VVal
 | .fn f caps=>ob (Ad (CH R h) caps) fun cs=>some (.fn f cs)
 | v=>CH R h v
def Da (R:List Id) (h:VHeap):List Id->List Ob->Option (List (Id × Nat × Ob))
 | [],[]=>some []
 | id::ids,.box cs::os=>ob (Ad (D4 R h) cs) fun cs'=>ob (h id) fun o=>ob (Da R h ids os) fun us=>some ((id,o.1,.box cs')::us)
 | _,_=>none
def in0 (R:List Id) (h:VHeap) (d j:Nat):VVal->Option (VVal × List (Id × Nat × Ob))
 | .fresh sz xs=>some (.own (.slot d (j+1)) (nv (h (.slot d (j+1)))) 0 xs.length,[(.slot d (j+1),nv (h (.slot d (j+1))),.arr sz xs)])
 | v=>ob (CH R h v) fun v'=>some (v',[])
def inL (R:List Id) (h:VHeap) (d:Nat):Nat->List VVal->Option (List VVal × List (Id × Nat × Ob))
 | _,[]=>some ([],[])
 | j,v::vs=>ob (in0 R h d j v) fun r=>ob (inL R h d (j+1) vs) fun rs=>some (r.1::rs.1,r.2++rs.2)
def in1 (R:List Id) (h:VHeap) (d j:Nat):VVal->Option (VVal × List (Id × Nat × Ob))
 | .agg cs=>ob (inL R h d j cs) fun r=>some (.agg r.1,r.2)
 | .boxed cs=>ob (inL R h d (j+1) cs) fun r=>some (.ptr (.slot d (j+1)) (nv (h (.slot d (j+1)))) 0,(.slot d (j+1),nv (h (.slot d (j+1))),.box r.1)::r.2)
 | v=>in0 R h d j v
def Er:VVal->Nat
 | .agg cs=>cs.length
 | .boxed cs=>cs.length+1
 | _=>1
def inT (R:List Id) (h:VHeap) (d:Nat):Nat->List VVal->Option (List VVal × List (Id × Nat × Ob))
 | _,[]=>some ([],[])
 | j,v::vs=>ob (in1 R h d j v) fun r=>ob (inT R h d (j+Er v) vs) fun rs=>some (r.1::rs.1,r.2++rs.2)
def C4 (R:List Id) (h:VHeap) (d:Nat):VVal->Option (VVal × List (Id × Nat × Ob))
 | .tup vs=>ob (inT R h d 0 vs) fun r=>some (.tup r.1,r.2)
 | v=>in1 R h d 0 v
def Dw (R:List Id) (h:VHeap) (d j:Nat):VVal->Option (VVal × List (Id × Nat × Ob))
 | .own (.arg i 0) 0 off len=>ob R[i]? fun id=>ob (h id) fun o=>some (.own id o.1 off len,[])
 | .own (.arg i 0) 1 off len=>ob R[i]? fun id=>ob (h id) fun o=>some (.own id (o.1+1) off len,[])
 | v=>in0 R h d j v
def Cz (R:List Id) (h:VHeap) (d:Nat):Nat->List VVal->Option (List VVal × List (Id × Nat × Ob))
 | _,[]=>some ([],[])
 | j,v::vs=>ob (Dw R h d j v) fun r=>ob (Cz R h d (j+1) vs) fun rs=>some (r.1::rs.1,r.2++rs.2)
def Dq (R:List Id) (h:VHeap) (d:Nat):VVal->Option (VVal × List (Id × Nat × Ob))
 | .own (.arg i 0) 0 off len=>ob R[i]? fun id=>ob (h id) fun o=>some (.own id o.1 off len,[])
 | .own (.arg i 0) 1 off len=>ob R[i]? fun id=>ob (h id) fun o=>some (.own id (o.1+1) off len,[])
 | .agg cs=>ob (Cz R h d 0 cs) fun r=>some (.agg r.1,r.2)
 | v=>C4 R h d v
def Dg (Γ:Sig) (h:VHeap) (d:Nat) (f:FuncId) (args:List VVal) (R:List Id):Option (VVal × List (Id × Nat × Ob)) :=
 ob (Ad (B3 R h) args) fun args'=>ob (Ad (C0 R h) R) fun H=>ob (Γ f args' H) fun r =>
  gd (args.any D3=false \/ (Js r.1=true/\r.2.all Jv=true)) <|
  ob (Da R h R r.2) fun us=>ob (C4 R h d r.1) fun q=>some (q.1,us++q.2)
def CO (Γ:Sig) (h:VHeap) (d:Nat) (f:FuncId) (args:List VVal):Option (VVal × List (Id × Nat × Ob)):=Dg Γ h d f args (roots h args)
def JA:VVal->List Id
 | .ptr id _ _|.own id _ _ _|.mref id _|.eptr id _ _ _=>[id]
 | _=>[]
def G7:VVal->List Id
 | .fn _ caps=>caps.flatMap JA
 | .agg cs=>cs.flatMap JA
 | v=>JA v
def FP (h:VHeap) (id:Id):List Id :=
 match h id with
 | some (_,.box cs)=>cs.flatMap G7
 | _=>[]
def rootsW (h:VHeap) (args:List VVal):List Id :=
 let r0:=B9 [] (args.flatMap G7)
 if r0.isEmpty then [] else
 let r1:=B9 r0 (r0.flatMap (FP h))
 let r2:=B9 r1 (r1.flatMap (FP h))
 r2
def By (R:List Id) (h:VHeap):VVal->Option VVal
 | .p d=>some (.p d)
 | .vptr cs off=>some (.vptr cs off)
 | .ptr id ver off=>gd (BG h id ver=true) (ob (BN R id) fun i=>some (.ptr (.arg i 0) 0 off))
 | .own id ver off len=>gd (BG h id ver=true) (ob (BN R id) fun i=>some (.own (.arg i 0) 0 off len))
 | .mref id ver=>gd (BG h id ver=true) (ob (BN R id) fun i=>some (.mref (.arg i 0) 0))
 | .eptr id ver j off=>gd (BG h id ver=true) (ob (BN R id) fun i=>some (.eptr (.arg i 0) 0 j off))
 | _=>none
def Cw (R:List Id) (h:VHeap):VVal->Option VVal
 | .fn f caps=>ob (Ad (By R h) caps) fun cs=>some (.fn f cs)
 | .agg cs=>ob (Ad (By R h) cs) fun cs=>some (.agg cs)
 | v=>By R h v
def DG (R:List Id) (h:VHeap) (id:Id):Option Ob :=
 match h id with
 | some (_,.box cs)=>ob (Ad (Cw R h) cs) fun cs=>some (.box cs)
 | some (_,.arr sz xs)=>some (.arr sz xs)
 | some (_,.map kt ks vs)=>some (.map kt ks vs)
 | _=>none
def CG (R:List Id) (h:VHeap):VVal->Option VVal
 | .p d=>some (.p d)
 | .ptr (.arg i 0) 0 off=>ob R[i]? fun id=>ob (h id) fun o=>some (.ptr id o.1 off)
 | .own (.arg i 0) ver off len=>ob R[i]? fun id=>ob (h id) fun o=>some (.own id (o.1+ver) off len)
 | .mref (.arg i 0) 0=>ob R[i]? fun id=>ob (h id) fun o=>some (.mref id o.1)
 | .eptr (.arg i 0) 0 j off=>ob R[i]? fun id=>ob (h id) fun o=>some (.eptr id o.1 j off)
 | _=>none
def DH (R:List Id) (h:VHeap):VVal->Option VVal
 | .fn f caps=>ob (Ad (CG R h) caps) fun cs=>some (.fn f cs)
 | v=>CG R h v
def inC (R:List Id) (h:VHeap) (d j:Nat):VVal->Option (VVal × List (Id × Nat × Ob))
 | .fresh sz xs=>some (.own (.slot d (j+1)) (nv (h (.slot d (j+1)))+1) 0 xs.length,[(.slot d (j+1),nv (h (.slot d (j+1)))+1,.arr sz xs)])
 | v=>ob (DH R h v) fun v'=>some (v',[])
def Ce (R:List Id) (h:VHeap) (d:Nat):Nat->List VVal->Option (List VVal × List (Id × Nat × Ob))
 | _,[]=>some ([],[])
 | j,v::vs=>ob (inC R h d j v) fun r=>ob (Ce R h d (j+1) vs) fun rs=>some (r.1::rs.1,r.2++rs.2)
def BL (R:List Id) (h:VHeap) (d:Nat):Nat->List Id->List Ob->Option (List (Id × Nat × Ob) × List (Id × Nat × Ob))
 | _,[],[]=>some ([],[])
 | j,id::ids,o::os=>ob (h id) fun q=>match q.2,o with
  | .box _,.box cs=>ob (Ce R h d j cs) fun r=>ob (BL R h d (j+cs.length) ids os) fun us=>some ((id,q.1,.box r.1)::us.1,r.2++us.2)
  | .arr _ _,.arr sz xs=>ob (BL R h d j ids os) fun us=>some ((id,q.1,.arr sz xs)::us.1,us.2)
  | .arr _ _,.box [.undef,.fresh sz xs]=>ob (BL R h d j ids os) fun us=>some ((id,q.1+1,.arr sz xs)::us.1,us.2)
  | .map _ _ _,.map kt ks vs=>ob (BL R h d j ids os) fun us=>some ((id,q.1,.map kt ks vs)::us.1,us.2)
  | _,_=>none
 | _,_,_=>none
def LE (R:List Id) (as_ qs:List (Id × Nat × Ob)):Bool:=qs.all fun x=>!R.contains x.1 && as_.all fun y=>!decide (y.1=x.1)
def Dd (Γ:Sig) (h:VHeap) (d:Nat) (f:FuncId) (args:List VVal) (R:List Id):Option (VVal × List (Id × Nat × Ob)) :=
 ob (Ad (Cw R h) args) fun args'=>ob (Ad (DG R h) R) fun H=>ob (Γ f args' H) fun r =>
  ob (BL R h d 1000 R r.2) fun us=>ob (Dq R h d r.1) fun q=>gd (LE R us.2 q.2=true) (some (q.1,us.1++(us.2++q.2)))
def Bv (Γ:Sig) (h:VHeap) (d:Nat) (f:FuncId) (args:List VVal):Option (VVal × List (Id × Nat × Ob)):=Dd Γ h d f args (rootsW h args)
def G4 (h:VHeap) (sz:Nat) (zero:PV) (a:VVal):Option (VVal × List (Id × Nat × Ob)) :=
 match a with
 | .own id ver off len=>match h id with
  | some (v,.arr sz' xs)=>gd (v=ver) <| gd (sz'=sz) (some (.dead,[(id,v,.arr sz (AB xs off (List.replicate len zero)))]))
  | _=>none
 | _=>none
open Classical in
noncomputable def CE (h:VHeap) (us:List (Id × Nat × Ob)):Bool:=decide (∀ x∈us,h x.1=some x.2)
theorem WZ {h:VHeap}:CE h []=true:=by simp [CE]
theorem Kt {h:VHeap} {i:Id} {n:Nat} {o:Ob} {us:List (Id × Nat × Ob)}:(CE h ((i,n,o)::us)=true)=(h i=some (n,o)/\CE h us=true):=by
 simp only [CE,decide_eq_true_eq,lfm]
def Id.at:Id->Nat->Bool
 | .slot s _,d=>s == d
 | _,_=>false
def E1 (d:Nat):List (Id × Nat × Ob)->List (Id × Nat × Ob)
 | []=>[]
 | x::us=>if x.1.at d=true then x::E1 d us else E1 d us
def oldU (d:Nat):List (Id × Nat × Ob)->List (Id × Nat × Ob)
 | []=>[]
 | x::us=>if x.1.at d=true then oldU d us else x::oldU d us
noncomputable def Ai (Γ:Sig) (look:VArg->Option VVal) (h:VHeap) (d:Nat):VOp->Option (VVal × List (Id × Nat × Ob))
 | .move x=>ob (look x) fun v=>some (v,[])
 | .newArr sz=>some (.own (.slot d 0) (nv (h (.slot d 0))) 0 0,[(.slot d 0,nv (h (.slot d 0)),.arr sz [])])
 | .pick c a b=>ob (look c) fun v=>match v with
  | .p (.bool t)=>br t (ob (look a) fun v=>some (v,[])) (ob (look b) fun v=>some (v,[]))
  | _=>none
 | .alloc zero=>some (.ptr (.slot d 0) (nv (h.upds (zcells d h 0 zero).2 (.slot d 0))) 0,(zcells d h 0 zero).2++[(.slot d 0,nv (h.upds (zcells d h 0 zero).2 (.slot d 0)),.box (zcells d h 0 zero).1)])
 | .box n x=>ob (look x) fun v=>gd ((AF v).length=n) <| gd ((AF v).all Et=true) (some (.ptr (.slot d 0) (nv (h (.slot d 0))) 0,[(.slot d 0,nv (h (.slot d 0)),.box (AF v))]))
 | .build cells=>ob (BV look d h 0 cells) fun r=>some (.agg r.1,r.2)
 | .buildSlice sz parts=>ob (Ad (fun x=>ob (look x) fun v=>BF v) parts) fun xs =>
   gd (xs.all (fun x=>decide (x.cells.length=sz))=true) (some (.own (.slot d 0) (nv (h (.slot d 0))) 0 parts.length,[(.slot d 0,nv (h (.slot d 0)),.arr sz xs)]))
 | .buildFz sz parts=>ob (Ad (fun x=>ob (look x) fun v=>BF v) parts) fun xs =>
   gd (xs.all (fun x=>decide (x.cells.length=sz))=true) (some (.p (.slice sz xs),[]))
 | .load agg a=>ob (look a) fun p=>ob (F9 h agg p) fun v=>some (v,[])
 | .store n a x=>ob (look a) fun p=>ob (look x) fun v=>ob (DX h n p v) fun us=>some (.undef,us)
 | .fieldAddr off x=>ob (look x) fun v=>match v with
  | .ptr id ver o=>some (.ptr id ver (o+off),[])
  | .vptr cs o=>some (.vptr cs (o+off),[])
  | .eptr id ver i o=>some (.eptr id ver i (o+off),[])
  | _=>none
 | .field off agg x=>ob (look x) fun v=>match v with
  | .agg cs=>ob (CZ agg cs off) fun r=>some (r,[])
  | _=>none
 | .indexAddr sz x i=>ob (look x) fun s=>ob (look i) fun n=>match n with
  | .p (.int _ n)=>ob (Ib h sz s n) fun r=>some (r,[])
  | _=>none
 | .indexStr x i=>ob (look x) fun s=>ob (look i) fun n=>match s,n with
  | .p (.str s),.p (.int _ n)=>gd (0<=n) (ob s[n.toNat]? fun b=>some (.p (.int .u8 b.toNat),[]))
  | _,_=>none
 | .bin op x y=>ob (look x) fun a=>ob (look y) fun b=>ob (JX op a b) fun r=>some (r,[])
 | .eqAgg neg kts x y=>ob (look x) fun a=>ob (look y) fun b=>match a,b with
  | .agg a,.agg b=>ob (Ad unP a) fun xs=>ob (Ad unP b) fun ys=>ob (Dt kts xs ys) fun r=>some (.p (.bool (if neg then !r else r)),[])
  | _,_=>none
 | .not x=>ob (look x) fun v=>match v with
  | .p (.bool b)=>some (.p (.bool (!b)),[])
  | _=>none
 | .len x=>ob (look x) fun v=>ob (D5 v) fun n=>some (.p (.int .i64 n),[])
 | .lenStr x=>ob (look x) fun v=>ob (Ga v) fun n=>some (.p (.int .i64 n),[])
 | .eqB neg x y=>ob (look x) fun a=>ob (look y) fun b=>match a,b with
  | .p (.bool a),.p (.bool b)=>some (.p (.bool (if neg then !(a == b) else a == b)),[])
  | _,_=>none
 | .append sz bytes s x=>ob (look s) fun a=>ob (look x) fun b=>Ej h sz bytes a b
 | .appendNil sz bytes x=>ob (look x) fun b=>Gy d h sz bytes b
 | .slice str sz lo hi mx x=>ob (look x) fun s=>br str (Fh look lo hi s) (DY d h look sz lo hi mx s)
 | .lookup ok kt zero m k=>ob (look m) fun m=>ob (look k) fun k=>ob (CC h m) fun es=>gd (es.1=kt \/ es.2.1=[]) <| ob (EB kt k) fun k=>some (Ei ok zero es.2.1 es.2.2 k,[])
 | .mapUpdate kt m k x=>ob (look m) fun m=>ob (look k) fun k=>ob (look x) fun x=>ob (EB kt k) fun k=>ob (BF x) fun x=>match m with
  | .mref id ver=>match h id with
   | some (v,.map kt' ks vs)=>gd (v=ver) <| gd (kt'=kt) (some (.undef,[(id,v,.map kt (Au ks vs k x).1 (Au ks vs k x).2)]))
   | _=>none
  | _=>none
 | .makeMap kt=>some (.mref (.slot d 0) (nv (h (.slot d 0))),[(.slot d 0,nv (h (.slot d 0)),.map kt [] [])])
 | .extract x i=>ob (look x) fun v=>match v with
  | .tup vs=>ob vs[i]? fun v=>some (v,[])
  | _=>none
 | .minmax isMax xs=>ob (Ad look xs) fun vs=>ob (H5 isMax vs) fun r=>some (r,[])
 | .strBytes x=>ob (look x) fun v=>match v with
  | .p (.str s)=>some (.p (.slice 1 (s.data.toList.map fun b=>.int .u8 b.toNat)),[])
  | _=>none
 | .nilCheck x=>ob (look x) fun v=>match v with
  | .ptr id ver off=>some (.ptr id ver off,[])
  | .vptr cs off=>some (.vptr cs off,[])
  | .eptr id ver i off=>some (.eptr id ver i off,[])
  | .fn f caps=>some (.fn f caps,[])
  | _=>none
 | .makeFunc f caps=>ob (Ad look caps) fun cs=>some (.fn f cs,[])
 | .call f args=>ob (Ad look args) fun vs=>CO Γ h d f vs
 | .callv x args=>ob (look x) fun g=>ob (Ad look args) fun vs=>match g with
  | .fn f caps=>CO Γ h d f (vs++caps)
  | .p (.fn f)=>CO Γ h d f vs
  | .p (.clo f cs)=>CO Γ h d f (vs++Em cs)
  | _=>none
 | .callW f args=>ob (Ad look args) fun vs=>Bv Γ h d f vs
 | .callR f args=>ob (Ad look args) fun vs=>ob (Bv Γ h d f vs) fun q=>gd (CE h q.2=true) (some (q.1,[]))
 | .callvW x args=>ob (look x) fun g=>ob (Ad look args) fun vs=>match g with
  | .fn f caps=>Bv Γ h d f (vs++caps)
  | .p (.fn f)=>Bv Γ h d f vs
  | .p (.clo f cs)=>Bv Γ h d f (vs++Em cs)
  | _=>none
 | .clear sz zero a=>ob (look a) fun a=>G4 h sz zero a
 | .storeNil sz i k a=>ob (look a) fun p=>match h (.slot i k) with
  | some (v,.arr sz' [])=>gd (sz'=sz) <| ob (DX h 1 p (.own (.slot i k) v 0 0)) fun us=>some (.undef,us)
  | _=>none
 | .callA f args=>ob (Ad look args) fun vs=>ob (Bv Γ h d f vs) fun q=>gd (CE h (oldU d q.2)=true) (some (q.1,E1 d q.2))
 | .buildPtrs parts=>ob (Ad look parts) fun vs=>gd (vs.all Hk=true) (some (.plist vs,[]))
 | .buildArr sz parts=>ob (Ad (fun x=>ob (look x) fun v=>BF v) parts) fun xs=>gd (xs.all (fun x=>decide (x.cells.length=sz))=true) (some (.agg ((xs.flatMap PV.cells).map .p),[]))
 | .indexArr n sz agg x i=>ob (look x) fun v=>ob (look i) fun i=>match v,i with
  | .agg cs,.p (.int _ k)=>gd (0<=k) <| gd (k<n) <| ob (CZ agg cs (k.toNat*sz)) fun r=>some (r,[])
  | _,_=>none
end Go.V
namespace Go.V
structure RS where
 pe:Nat->VVal
 te:Nat->Option VVal
 h:VHeap
def RS.look (r:RS):VArg->Option VVal
 | .v s=>some (r.pe s)
 | .t s=>r.te s
 | .c d=>some (CU d)
def D6 (e:Nat->VVal) (s:Nat) (v:VVal):Nat->VVal:=fun t=>if t=s then v else e t
def E0 (e:Nat->Option VVal) (s:Nat) (v:VVal):Nat->Option VVal:=fun t=>if t=s then some v else e t
def RS.put (r:RS):VDst->VVal->RS
 | .v s,v=>{ r with pe:=D6 r.pe s v }
 | .t s,v=>{ r with te:=E0 r.te s v }
 | .none,_=>r
def VDst.slot:VDst->Nat
 | .v s|.t s=>s
 | .none=>0
noncomputable def BW (Γ:Sig) (o:VOper) (r:RS):Option RS :=
 match o.guard with
 | none=>ob (Ai Γ r.look r.h o.dst.slot o.op) fun q=>some { r.put o.dst q.1 with h:=r.h.upds q.2 }
 | some (g,want)=>ob (r.look g) fun gv=>match gv with
  | .p (.bool b)=>br (b == want) (ob (Ai Γ r.look r.h o.dst.slot o.op) fun q=>some { r.put o.dst q.1 with h:=r.h.upds q.2 })
   (some (r.put o.dst .undef))
  | .undef=>some (r.put o.dst .undef)
  | _=>none
def ids0:VVal->List Id
 | .own id _ _ _|.ptr id _ _|.eptr id _ _ _|.mref id _=>[id]
 | _=>[]
def ids1:VVal->List Id
 | .fn _ cs|.agg cs=>cs.flatMap ids0
 | v=>ids0 v
def VOp.args:VOp->List VArg
 | .move x|.box _ x|.load _ x|.fieldAddr _ x|.field _ _ x|.not x|.len x|.lenStr x|.appendNil _ _ x|.extract x _|.strBytes x|.nilCheck x|.clear _ _ x=>[x]
 | .newArr _|.alloc _|.makeMap _=>[]
 | .pick c a b=>[c,a,b]
 | .build cs=>cs.filterMap fun|.a x _ _=>some x|.z _=>none
 | .buildSlice _ ps=>ps
 | .buildFz _ ps=>ps
 | .buildPtrs ps=>ps
 | .store _ a x|.indexAddr _ a x|.indexStr a x|.bin _ a x|.eqAgg _ _ a x|.eqB _ a x|.append _ _ a x|.lookup _ _ _ a x=>[a,x]
 | .slice _ _ lo hi mx x=>x::(lo.toList++hi.toList++mx.toList)
 | .mapUpdate _ m k x=>[m,k,x]
 | .buildArr _ ps=>ps
 | .indexArr _ _ _ x i=>[x,i]
 | .storeNil _ _ _ a=>[a]
 | .minmax _ xs|.makeFunc _ xs|.call _ xs|.callW _ xs|.callR _ xs|.callA _ xs=>xs
 | .callv x xs|.callvW x xs=>x::xs
def VOp.writes:VOp->Bool
 | .storeNil _ _ _ _|.store _ _ _|.append _ _ _ _|.mapUpdate _ _ _ _|.call _ _|.callv _ _|.callW _ _|.callvW _ _|.clear _ _ _=>true
 | _=>false
def VOp.isR:VOp->Bool
 | .callR _ _|.callA _ _=>true
 | _=>false
def Bu:VOp->List VVal->List VVal
 | .callv _ _,.fn _ caps::vs=>vs++caps
 | .callv _ _,.p (.clo _ cs)::vs=>vs++Em cs
 | .callv _ _,_::vs=>vs
 | .callvW _ _,.fn _ caps::vs=>vs++caps
 | .callvW _ _,.p (.clo _ cs)::vs=>vs++Em cs
 | .callvW _ _,_::vs=>vs
 | _,vs=>vs
def callRoots (h:VHeap):VOp->List VVal->List Id
 | .callW _ _,vs|.callvW _ _,vs|.callR _ _,vs|.callA _ _,vs=>rootsW h vs
 | .storeNil _ i k _,vs=>.slot i k::roots h vs
 | _,vs=>roots h vs
def touchF (look:VArg->Option VVal) (h:VHeap) (o:VOper):List Id :=
 let vs:=o.op.args.filterMap look
 vs.flatMap ids1++(if o.op.writes || o.op.isR then (Bu o.op vs).flatMap ids1++callRoots h o.op (Bu o.op vs) else [])
def Bg (r:RS) (o:VOper):List Id:=touchF r.look r.h o
def headFp:List Id->List Id
 | []=>[]
 | i::_=>[i]
def VOp.wrFp:VOp->List Id->List Id
 | .append _ _ _ _,t=>headFp t
 | _,t=>t
def EV (o o':VOper) (t t':List Id):Bool :=
 (!o.op.writes || (o.op.wrFp t).all fun i=>!t'.contains i) && (!o'.op.writes || (o'.op.wrFp t').all fun i=>!t.contains i) &&
 t.all (fun i=>!i.at o'.dst.slot) && t'.all (fun i=>!i.at o.dst.slot) && o.dst.slot != o'.dst.slot
noncomputable def Dh (Γ:Sig):List VOper->RS->Option RS
 | [],r=>some r
 | o::os,r=>ob (BW Γ o r) fun r'=>Dh Γ os r'
def FZ (fp:List (Nat × Nat)) (i:Nat) (o:VOper) (t:List Id):List (Nat × VOper × List Id)->Bool
 | []=>true
 | (a,o',t')::acc=>if fp.contains (a,i)=true then EV o' o t' t && FZ fp i o t acc else FZ fp i o t acc
def fpL (fp:List (Nat × Nat)) (i:Nat):Bool:=fp.any fun p=>p.1 == i
def fpR (fp:List (Nat × Nat)) (i:Nat):Bool:=fp.any fun p=>p.2 == i
def Fk (fp:List (Nat × Nat)) (i:Nat) (o:VOper) (r:RS) (acc:List (Nat × VOper × List Id)):List (Nat × VOper × List Id) :=
 if fpL fp i=true then (i,o,Bg r o)::acc else acc
noncomputable def Cs (Γ:Sig) (fp:List (Nat × Nat)):Nat->List VOper->RS->List (Nat × VOper × List Id)->Option RS
 | _,[],r,_=>some r
 | i,o::os,r,acc=>if fpR fp i=true then gd (FZ fp i o (Bg r o) acc=true) <| ob (BW Γ o r) fun r'=>Cs Γ fp (i+1) os r' (Fk fp i o r acc)
   else ob (BW Γ o r) fun r'=>Cs Γ fp (i+1) os r' (Fk fp i o r acc)
def EE (fz:List Nat):Id->Bool
 | .slot s _=>fz.contains s
 | .arg _ _=>false
def fz0 (fz:List Nat) (h:VHeap):VVal->VVal
 | .own id ver off len=>if EE fz id then
   match A0 h (.own id ver off len) with
   | some r=>.p (.slice r.1 r.2)
   | none=>.dead
  else .own id ver off len
 | v=>v
def fz1 (fz:List Nat) (h:VHeap):VVal->VVal
 | .agg cs=>.agg (cs.map (fz0 fz h))
 | .tup vs=>.tup (vs.map (fz0 fz h))
 | v=>fz0 fz h v
def BS (fz:List Nat) (h:VHeap) (id:Id):Option (Nat × Ob) :=
 match h id with
 | some (v,.arr sz xs)=>if EE fz id then some (v+1,.gone) else some (v,.arr sz xs)
 | some (v,.box cs)=>some (v,.box (cs.map (fz0 fz h)))
 | o=>o
def Dr (fz:List Nat) (s:St):St:=if fz.isEmpty then s else { pe:=fun t=>fz1 fz s.h (s.pe t),h:=BS fz s.h }
noncomputable def Cc (Γ:Sig) (r:VRegion) (s:St):Option St :=
 ob (if r.fp.isEmpty then Dh Γ r.ops { pe:=(Dr r.fz s).pe,te:=fun _=>none,h:=(Dr r.fz s).h }
   else Cs Γ r.fp 0 r.ops { pe:=(Dr r.fz s).pe,te:=fun _=>none,h:=(Dr r.fz s).h } []) fun q=>some { pe:=q.pe,h:=q.h }
def mv0 (a b:Id) (va n:Nat):VVal->VVal
 | .own id ver off len=>if id=a/\ver=va then .own b n off len else .own id ver off len
 | .eptr id ver i off=>if id=a/\ver=va then .eptr b n i off else .eptr id ver i off
 | v=>v
def mv1 (a b:Id) (va n:Nat):VVal->VVal
 | .agg cs=>.agg (cs.map (mv0 a b va n))
 | .tup vs=>.tup (vs.map (mv0 a b va n))
 | v=>mv0 a b va n v
def Cd (a b:Id) (va n sz:Nat) (xs:List PV) (h:VHeap):VHeap:=fun id=>if id=b then some (n,.arr sz xs) else if id=a then some (va+1,.gone) else
 match h id with
 | some (v,.box cs)=>some (v,.box (cs.map (mv0 a b va n)))
 | o=>o
def Fv (a b:Id) (s:St):St:=match s.h a with
 | some (va,.arr sz xs)=>{ pe:=fun t=>mv1 a b va (nv (s.h b)) (s.pe t),h:=Cd a b va (nv (s.h b)) sz xs s.h }
 | _=>s
def A6 (b:St->Option (VExit × St)):Nat->St->Option (VExit × St)
 | 0,_=>none
 | n+1,s=>ob (b s) fun r=>match r.1 with
  | .normal=>A6 b n r.2
  | _=>some r
open Classical in
noncomputable def iter (b:St->Option (VExit × St)) (s:St):Option (VExit × St) :=
 if h:∃ n r,A6 b n s=some r then some (Classical.choose (Classical.choose_spec h)) else none
noncomputable def Ay (Γ:Sig):VCode->St->Option (VExit × St)
 | .skip,s=>some (.normal,s)
 | .region r,s=>ob (Cc Γ r s) fun s'=>some (.normal,s')
 | .seq a b,s=>ob (Ay Γ a s) fun r=>match r.1 with
  | .normal=>Ay Γ b r.2
  | _=>some r
 | .cond c a b,s=>match c with
  | .v t=>match s.pe t with
   | .p (.bool c)=>br c (Ay Γ a s) (Ay Γ b s)
   | _=>none
  | _=>none
 | .block id c,s=>ob (Ay Γ c s) fun r=>if r.1=.exit id then some (.normal,r.2) else some r
 | .loop c,s=>iter (Ay Γ c) s
 | .exit id,s=>some (.exit id,s)
 | .ret,s=>some (.ret,s)
 | .mv a b c,s=>Ay Γ c (Fv a b s)
 | .scope c,s=>Ay Γ c s
 | .fail,_=>none
def Hd (args:List VVal):Nat->VVal:=fun s=>args.getD s .undef
def As (H:List Ob):VHeap:=fun id=>match id with
 | .arg i 0=>(H[i]?).map fun o=>(0,o)
 | _=>none
def EZ (s:St):VRet->Option VVal
 | .tmp (.v t)=>some (s.pe t)
 | .cell (.v t) agg=>F9 s.h agg (s.pe t)
 | _=>none
def G8 (h:VHeap):VVal->Option PV
 | .ptr (.slot s j) ver 0=>match h (.slot s j) with
  | some (v,.box cs)=>gd (v=ver) (ob (Ad unP cs) fun ds=>some (.agg ds))
  | _=>none
 | _=>none
def Ar (h:VHeap):VVal->Option VVal
 | .p d=>some (.p d)
 | .own (.slot s j) ver off len=>ob (A0 h (.own (.slot s j) ver off len)) fun r=>gd (off=0) (some (.fresh r.1 r.2))
 | .mref (.slot s j) ver=>ob (CC h (.mref (.slot s j) ver)) fun r=>some (.p (.map r.1 r.2.1 r.2.2))
 | .ptr (.arg i 0) ver off=>gd (ver=0) (some (.ptr (.arg i 0) 0 off))
 | .eptr (.arg i 0) ver j off=>gd (ver=0) (some (.eptr (.arg i 0) 0 j off))
 | .fn f []=>some (.p (.fn f))
 | .fn f (c::cs)=>ob (Ad (G8 h) (c::cs)) fun ds=>some (.p (.clo f ds))
 | _=>none
def BB (h:VHeap):VVal->Option VVal
 | .agg cs=>ob (Ad (Ar h) cs) fun cs=>some (.agg cs)
 | .ptr (.slot s j) ver 0=>match h (.slot s j) with
  | some (v,.box cs)=>gd (v=ver) (ob (Ad (Ar h) cs) fun cs=>some (.boxed cs))
  | _=>none
 | v=>Ar h v
def DZ:List Id->Bool
 | []=>true
 | i::is=>!is.contains i && DZ is
def ET:VVal->List Id
 | .own id _ _ _=>[id]
 | _=>[]
def De (h:VHeap):VVal->List Id
 | .agg cs=>cs.flatMap ET
 | .ptr id _ _=>match h id with
  | some (_,.box cs)=>id::cs.flatMap ET
  | _=>[id]
 | v=>ET v
def capIds0:VVal->List Id
 | .fn _ cs=>cs.flatMap ids0
 | _=>[]
def capIds1 (h:VHeap):VVal->List Id
 | .agg cs=>cs.flatMap capIds0
 | .ptr id _ _=>match h id with
  | some (_,.box cs)=>cs.flatMap capIds0
  | _=>[]
 | v=>capIds0 v
def D2 (h:VHeap):VVal->Option VVal
 | .own (.arg i 0) ver off len=>gd (BG h (.arg i 0) ver=true) (some (.own (.arg i 0) (if ver=0 then 0 else 1) off len))
 | v=>Ar h v
def Ez (h:VHeap):VVal->Option VVal
 | .agg cs=>ob (Ad (D2 h) cs) fun cs=>some (.agg cs)
 | .own (.arg i 0) ver off len=>gd (BG h (.arg i 0) ver=true) (some (.own (.arg i 0) (if ver=0 then 0 else 1) off len))
 | v=>BB h v
def CS (h:VHeap):List VVal->Option VVal
 | [v]=>Ez h v
 | vs=>ob (Ad (BB h) vs) fun vs=>some (.tup vs)
def LO:VVal->List Id
 | .own (.slot s j) _ _ _=>[.slot s j]
 | _=>[]
def Df (h:VHeap):Nat->Nat->List Id
 | _,0=>[]
 | i,n+1=>(match h (.arg i 0) with
  | some (_,.box cs)=>cs.flatMap LO
  | _=>[])++Df h (i+1) n
def EP (h:VHeap) (n:Nat) (vs:List VVal):Bool:=(vs.flatMap (capIds1 h)).all fun i=>!(vs.flatMap (De h)++Df h 0 n).contains i
def Ck (h:VHeap) (n:Nat) (vs:List VVal):Option VVal:=gd (DZ (vs.flatMap (De h)++Df h 0 n)=true) (gd (EP h n vs=true) (CS h vs))
def AQ (h:VHeap):VVal->Option VVal
 | .p d=>some (.p d)
 | .ptr (.arg i 0) ver off=>gd (ver=0) (some (.ptr (.arg i 0) 0 off))
 | .own (.arg i 0) ver off len=>gd (BG h (.arg i 0) ver=true) (some (.own (.arg i 0) (if ver=0 then 0 else 1) off len))
 | .own (.slot s j) ver off len=>ob (A0 h (.own (.slot s j) ver off len)) fun r=>gd (off=0) (some (.fresh r.1 r.2))
 | .mref (.arg i 0) ver=>gd (ver=0) (some (.mref (.arg i 0) 0))
 | _=>none
def AU (h:VHeap):VVal->Option VVal
 | .fn f caps=>ob (Ad (AQ h) caps) fun cs=>some (.fn f cs)
 | v=>AQ h v
def Eo (h:VHeap) (i:Nat):Option Ob :=
 match h (.arg i 0) with
 | some (v,.box cs)=>gd (v=0) (ob (Ad (AU h) cs) fun cs=>some (.box cs))
 | some (v,.arr sz xs)=>some (if v=0 then .arr sz xs else .box [.undef,.fresh sz xs])
 | some (v,.map kt ks vs)=>gd (v=0) (some (.map kt ks vs))
 | _=>none
def Bf (h:VHeap):Nat->Nat->Option (List Ob)
 | _,0=>some []
 | i,n+1=>ob (Eo h i) fun o=>ob (Bf h (i+1) n) fun os=>some (o::os)
def JT (rets:List VRet) (n:Nat) (r:VExit × St):Option (VVal × List Ob) :=
 match r.1 with
 | .exit _=>none
 | _=>ob (Ad (EZ r.2) rets) fun vs=>ob (Ck r.2.h n vs) fun v=>ob (Bf r.2.h 0 n) fun H'=>some (v,H')
noncomputable def BX (Γ:Sig) (vf:VFunc) (args:List VVal) (H:List Ob):Option (VVal × List Ob) :=
 gd (args.length=vf.nparams) <|
  ob (Ay Γ vf.body { pe:=Hd args,h:=As H }) fun r=>JT vf.rets H.length r
noncomputable def CT (prog:FuncId->Option VFunc) (X:Sig):Nat->Sig
 | 0=>X
 | n+1=>fun f args H=>match X f args H with
  | some r=>some r
  | none=>match prog f with
   | some vf=>BX (CT prog X n) vf args H
   | none=>none
open Classical in
noncomputable def Es (prog:FuncId->Option VFunc) (X:Sig):Sig:=fun f args H =>
 if h:∃ n r,CT prog X n f args H=some r then some (Classical.choose (Classical.choose_spec h)) else none
end Go.V
namespace Go.V
def vb9:VCode:=rs [oX 7 2 1,oX 8 16 2,oX 9 7 3,oX 10 6 4,oV 12 (.move cF)] (sq (rs [oM 19 0,oC 20 10 [19],oV 21 (nT 20)] (cS 21 (rs [oC 22 11 [],oN 12 22] .ret))) (rs [oM 23 0,oC 24 12 [23],oN 13 24] (sq (rs [oJ 14 0] (.block 0 (.loop (sq (sq (.region ⟨[oM 25 14,oV 26 (bI .lss 25 3)],[15,16,30,33,38],[]⟩) (cE 26 0)) (sq (.block 1 (rs [oM 29 13,oT 30 (.call 13 [.t 29,.c (.int .i64 4)]),oV 15 (.alloc [.nil 6,cZ]),oS 2 15 30] (rs [oM 31 13,oK 32 2 15,oT 33 (.call 22 [.t 31,.t 32,.c (.int .i64 14)]),oV 16 (.alloc [cZ,cZ,cZ,cZ,cZ,cZ,cZ,cZ,cZ,cZ,.nil 2,.nil 21,.nil 3,.nil 2,.nil 6,.nil 7]),oS 16 16 33] (sq (rs [oM 34 14,oV 35 (bI .eql 34 2)] (cS 35 (rg [oM 36 13,oK 37 16 16,oC 38 30 [36,37],oS 16 16 38]))) (rs [oM 39 13,oT 40 (.call 35 [.t 39,.c (.int .i64 0)]),oV 17 (.alloc [cZ,cZ,cZ,cZ,cZ,cZ,cZ]),oS 7 17 40] (sq (.region ⟨[oM 41 13,oF 42 1 17,oL 43 42,oT 44 (.buildFz 1 [.t 43,.c (.int .i64 0),.c (.int .i64 10000)]),oC 45 38 [41,44],oM 46 13,oF 47 4 17,oL 48 47,oT 49 (.buildFz 1 [.t 48,.c (.int .i64 0),.c (.int .i64 1073741824),.c (.int .i64 1073741825)]),oC 50 38 [46,49],oF 51 1 17,sT 1 51 45,oF 52 4 17,sT 1 52 50],[],[(4,7)]⟩) (rs [oM 53 13,oK 54 2 15,oC 55 18 [53,54],oV 18 (.alloc [cZ,cZ,cZ,cZ,.c (.bool false),cZ]),oS 6 18 55] (sq (.region ⟨[oM 56 13,oF 57 1 18,oL 58 57,oT 59 (.buildFz 1 [.t 58,.c (.int .i64 9),.c (.int .i64 0)]),oC 60 38 [56,59],oM 61 13,oF 62 3 18,oL 63 62,oF 64 3 18,oL 65 64,oT 66 (.buildFz 1 [.t 63,.t 65,.c (.int .i64 0),.c (.int .i64 4097)]),oC 67 38 [61,66],oF 68 1 18,sT 1 68 60,oF 69 3 18,sT 1 69 67],[],[(4,7),(4,9)]⟩) (sq (.region ⟨[oK 70 2 15,oK 71 16 16,oK 72 7 17,oK 73 6 18,oM 74 13,oK 75 2 15,oC 76 40 [74,75],oC 77 39 [70,71,72,73,76],oT 78 (nT 77),oP 79 78,fT 80 (ldV 2 15) 79,fT 81 (ldV 16 16) 79,fT 82 (ldV 7 9) 79,fT 83 (ldV 6 10) 79,fM 84 5 79,fT 85 (cC 39 [80,81,82,83,84]) 79,fT 86 (nT 85) 79,vO 87 79 86],[],[(0,6),(1,6),(2,6),(3,6)]⟩) (cS 87 (rs [oV 12 (.move cF)] .ret))))))))))) (rg [oM 27 14,oI 28 27,oN 14 28])))))) (sq (rs [oF 88 0 7,oL 89 88,oY 90 89,oT 91 (bI .gtr 90 20),oP 92 91,fF 93 14 8 92,fL 94 93 92,fT 95 (lT 94) 92,fT 96 (bI .gtr 95 40) 92,oO 97 92 96,oP 98 97,fF 99 15 8 98,fL 100 99 98,fT 101 (lT 100) 98,fT 102 (bI .gtr 101 40) 98,oO 103 98 102,oP 104 103,fF 105 11 8 104,fL 106 105 104,fT 107 (lT 106) 104,fT 108 (bI .gtr 107 30) 104,oO 109 104 108,oP 110 109,fF 111 13 8 110,fL 112 111 110,fT 113 (lT 112) 110,fT 114 (bI .gtr 113 30) 110,oO 115 110 114,oP 116 115,fF 117 10 8 116,fL 118 117 116,fT 119 (lT 118) 116,fT 120 (bI .gtr 119 30) 116,oO 121 116 120,oP 122 121,fF 123 12 8 122,fL 124 123 122,fT 125 (lT 124) 122,fT 126 (bI .gtr 125 30) 122,vO 127 122 126] (cS 127 (rs [oC 128 11 [],oN 12 128] .ret))) (rs [oK 129 2 7,oK 130 16 8,oK 131 7 9,oK 132 6 10,oM 133 5,oC 134 39 [129,130,131,132,133],oP 135 134,tT 136 (cC 11 []) 135,oB 137 135 136,oN 12 137] .ret)))))
def vf9:=mF 6 [.tmp (.v 12)] (iv [0,6,7,4,12,7] [21,26,35,87,127]) vb9
def TY:VCode:=rs [oV 2 (.move cF)] (rs [oM 3 0,oY 4 3,oT 5 (bI .leq 4 600),oN 2 5] .ret)
def vf10:=mF 1 [.tmp (.v 2)] [0,2] TY
def TX:VCode:=rs [oV 0 (.move cF)] (rs [oC 11 33 [],oV 1 (.alloc [.nil 6,cZ]),oS 2 1 11] (rs [oT 13 (.build [zZ,.a (cI 10) 0 1,zZ,.a (cI 10) 0 1,zZ]),oT 14 (.build [aT 13 0 5,aT 13 1 5,aT 13 2 5,aT 13 3 5,aT 13 4 5,.a (cI 10) 0 1,zZ]),oC 15 28 [14],oP 12 15,oE 16 12 0,oE 17 12 1,oV 2 (.alloc [cZ,cZ,cZ,cZ,cZ,cZ,cZ,cZ,cZ,cZ,.nil 2,.nil 21,.nil 3,.nil 2,.nil 6,.nil 7]),oS 16 2 16,oN 3 17] (sq (.region ⟨[oK 19 2 1,oK 20 16 2,oT 21 (.build [zZ,.a (cI 2) 0 1,zZ,.a (cI 3) 0 1,.z (.c (.bool false)),zZ]),oC 22 17 [19,20,21],oP 18 22,oE 23 18 0,oE 24 18 1,oS 16 2 23,oN 4 24],[11,15],[]⟩) (sq (.region ⟨[oK 26 2 1,oK 27 16 2,oT 28 (.build [zZ,.a (cI 2) 0 1,.a (cI 3) 0 1,.a (cI 1) 0 1,.z (.c (.bool false)),zZ]),oC 29 17 [26,27,28],oP 25 29,oE 30 25 0,oE 31 25 1,oS 16 2 30,oN 5 31],[22],[]⟩) (rs [oV 6 (.newArr 7)] (sq (rs [oJ 7 0] (.block 0 (.loop (sq (sq (.region ⟨[oM 32 7,oV 33 (bI .lss 32 4)],[8,29,39],[]⟩) (cE 33 0)) (sq (.block 1 (rs [oK 37 2 1,oK 38 16 2,oC 39 19 [37,38],oP 36 39,oE 40 36 0,oE 41 36 1,oE 42 36 2,oV 8 (.alloc [cZ,cZ,cZ,cZ,cZ,cZ,cZ,cZ,cZ,cZ,.nil 2,.nil 21,.nil 3,.nil 2,.nil 6,.nil 7]),oS 16 8 40,oN 9 41,oN 10 42] (sq (rs [oM 43 10,oT 44 (bI .neq 43 0),oP 45 44,fM 46 7 45,fT 47 (bI .lss 46 2) 45,fT 48 (.move (.t 47)) 45,tM 49 9 48,tT 50 (lT 49) 48,tT 51 (bI .gtr 50 0) 48,fT 52 (.pick (.t 48) (.t 51) cF) 45,vO 53 45 52] (cS 53 (rs [oV 0 (.move cF)] .ret))) (sq (.region ⟨[oK 54 16 8,oM 55 6,oM 56 9,oT 57 (.append 7 56 (.t 55) (.t 56)),oS 16 2 54,oN 6 57],[],[(0,3)]⟩) (rs [oM 58 7,oT 59 (bI .eql 58 0),oP 60 59,tF 61 8 2 60,tL 62 61 60,tT 63 (bI .neq 62 30) 60,oB 64 60 63,oP 65 64,fM 66 7 65,fT 67 (bI .eql 66 2) 65,fT 68 (.move (.t 67)) 65,tF 69 14 2 68,tL 70 69 68,tT 71 (lT 70) 68,tT 72 (bI .neq 71 1) 68,fT 73 (.pick (.t 68) (.t 72) cF) 65,oO 74 65 73,oP 75 74,fM 76 7 75,fT 77 (bI .eql 76 3) 75,fT 78 (.move (.t 77)) 75,tF 79 14 2 78,tL 80 79 78,tT 81 (lT 80) 78,tT 82 (bI .neq 81 0) 78,fT 83 (.pick (.t 78) (.t 82) cF) 75,vO 84 75 83] (cS 84 (rs [oV 0 (.move cF)] .ret))))))) (rg [oM 34 7,oI 35 34,oN 7 35])))))) (rs [oM 85 3,oT 86 (bI .eql 85 0),oP 87 86,tM 88 4 87,tT 89 (bI .eql 88 0) 87,oB 90 87 89,oP 91 90,tM 92 5 91,tT 93 (bI .eql 92 0) 91,oB 94 91 93,oP 95 94,tM 96 6 95,tT 97 (lT 96) 95,tT 98 (bI .eql 97 1) 95,oB 99 95 98,oP 100 99,tM 101 6 100,tT 102 (.indexAddr 7 (.t 101) (cI 0)) 100,tT 103 (.fieldAddr 6 (.t 102)) 100,tL 104 103 100,tT 105 (bI .eql 104 3) 100,oB 106 100 105,oP 107 106,tT 108 (ldV 16 2) 107,tT 109 (.call 41 [.t 108,.c (.int .i64 0)]) 107,tT 110 (bI .eql 109 1) 107,oB 111 107 110,oN 0 111] .ret)))))))
def vf11:=mF 0 [.tmp (.v 0)] (iv [0,11] [33,53,84]) TX
def TW:VCode:=rs [oV 2 (.move (.c (.nilp)))] (rs [oM 3 0,oT 4 (.build [aT 3 0 1,zZ]),oT 5 (.box 2 (.t 4)),oN 2 5] .ret)
def vf12:=mF 1 [.tmp (.v 2)] [0,2] TW
def TV:VCode:=rs [oV 4 (.alloc [.nil 6,cZ])] (rs [oC 13 42 [],oV 5 (.alloc [.nil 6,cZ]),oS 2 5 13] (sq (rs [oM 14 0,oM 15 1,oI 16 15,oC 17 16 [14,16],oN 6 17] (.block 0 (.loop (sq (sq (.region ⟨[oM 18 6,oV 19 (bI .gtr 18 0)],[8,11,13,37,58],[]⟩) (cE 19 0)) (sq (.block 1 (sq (.region ⟨[oF 22 0 5,oL 23 22,oM 24 0,oF 25 0 5,oL 26 25,oY 27 26,oC 28 16 [24,27],oA 29 6 23 28,oQ 30 0 29,oL 31 30,oN 7 31],[],[(1,6)]⟩) (sq (sq (.region ⟨[oK 33 2 5,oM 34 7,oM 35 0,oC 36 44 [35],oC 37 43 [33,34,36],oP 32 37,oE 38 32 0,oE 39 32 1,oE 40 32 2,oV 8 (.alloc [.nil 6,cZ]),oS 2 8 38,oP 9 39,oN 10 40],[],[(0,3),(0,9),(3,9),(4,9)]⟩) (rs [oM 41 10,oV 42 (bI .eql 41 0)] (cS 42 (rg [oK 43 2 8,oS 2 5 43])))) (rs [oM 44 0,oV 45 (.call 45 [.t 44,.c (.int .i64 6)])] (cS 45 (sq (.region ⟨[oK 47 2 5,oF 48 0 5,oL 49 48,oM 50 0,oF 51 0 5,oL 52 51,oY 53 52,oC 54 16 [50,53],oA 55 6 49 54,oQ 56 0 55,oL 57 56,oC 58 46 [47,57],oP 46 58,oE 59 46 0,oE 60 46 1,oV 11 (.alloc [.nil 6,cZ]),oS 2 11 59,oN 12 60],[],[(0,7),(2,7),(0,15),(2,15),(5,15),(7,15),(8,15),(10,15),(11,15)]⟩) (rs [oM 61 12,oV 62 (bI .eql 61 0)] (.cond (.v 62) (rg [oK 63 2 11,oS 2 5 63]) .skip)))))))) (rg [oM 20 6,oT 21 (bI .sub 20 1),oN 6 21])))))) (rs [oK 64 2 5,oS 2 4 64] .ret)))
def vf13:=mF 2 [.cell (.v 4) (some 2)] (iv [4,5] [0,1,10,11,12,19,42,45,62]) TV
def TU:VCode:=rs [oX 1 7 0,oV 2 (.alloc [cZ,cZ,cZ,cZ,cZ,cZ,cZ,cZ,cZ,cZ,.nil 2,.nil 21,.nil 3,.nil 2,.nil 6,.nil 7]),oJ 3 0] (sq (rs [oK 4 7 1,oC 5 47 [4],oV 6 (nT 5)] (cS 6 (rs [oT 7 (.build [zZ,zZ,zZ,zZ,zZ,zZ,zZ,zZ,zZ,zZ,zN 2,zN 21,zN 3,zN 2,zN 6,zN 7]),oS 16 2 7,oJ 3 3] .ret))) (rs [oK 8 7 1,oT 9 (.build [aT 8 0 7,aT 8 1 7,aT 8 2 7,aT 8 3 7,aT 8 4 7,aT 8 5 7,aT 8 6 7,zZ,zZ,zZ,zN 2,zN 21,zN 3,zN 2,zN 6,zN 7]),oS 16 2 9,oJ 3 0] .ret))
def vf14:=mF 1 [.cell (.v 2) (some 16),.tmp (.v 3)] [0,1,2,3,6] TU
def TT:VCode:=rs [oV 2 (.alloc [cZ,cZ,cZ,cZ,cZ,cZ,cZ])] (rs [oM 3 0,oC 4 48 [3],oM 5 0,oT 6 (.buildFz 1 [.c (.int .i64 1),.c (.int .i64 10),.c (.int .i64 100),.c (.int .i64 1000)]),oC 7 38 [5,6],oM 8 0,oT 9 (.buildFz 1 [.c (.int .i64 0),.c (.int .i64 10),.c (.int .i64 1000)]),oC 10 38 [8,9],oT 11 (.build [aT 4 0 5,aT 4 1 5,aT 4 2 5,aT 4 3 5,aT 4 4 5,aT 7 0 1,aT 10 0 1]),oS 7 2 11] .ret)
def vf15:=mF 1 [.cell (.v 2) (some 7)] [0,2] TT
def TS:VCode:=rs [oJ 4 0] (sq (rs [oM 6 0,oT 7 (kT 6),oQ 8 1 7,oL 9 8,oM 10 0,oT 11 (kT 10),oQ 12 0 11,oL 13 12,oY 14 13,oT 15 (bT .geq 9 14),oP 16 15,fM 17 1 16,fT 18 (bI .lss 17 1) 16,vO 19 16 18] (cS 19 (rs [oJ 4 0] .ret))) (rs [oM 20 0,oT 21 (kT 20),oQ 22 1 21,oL 23 22,oI 24 23,oT 25 (kT 20),oQ 26 1 25,sT 1 26 24] (rs [oM 27 0,oT 28 (kT 27),oQ 29 0 28,oL 30 29,oM 31 0,oT 32 (kT 31),oQ 33 1 32,oL 34 33,oT 35 (bI .sub 34 1),oA 36 1 30 35,oL 37 36,oM 38 1,oT 39 (bT .rem 37 38),oN 5 39] (sq (rs [oM 40 5,oV 41 (bI .lss 40 0)] (cS 41 (rg [oM 42 5,oM 43 1,oT 44 (bT .add 42 43),oN 5 44]))) (rs [oM 45 5,oN 4 45] .ret)))))
def vf16:=mF 2 [.tmp (.v 4)] [0,1,4,5,19,41] TS
def J5:VCode:=rs [oX 3 2 0,oX 4 16 1,oX 5 6 2,oV 6 (.alloc [cZ,cZ,cZ,cZ,cZ,cZ,cZ,cZ,cZ,cZ,.nil 2,.nil 21,.nil 3,.nil 2,.nil 6,.nil 7]),oJ 7 0] (sq (rs [oK 10 2 3,oK 11 16 4,oK 12 6 5,oC 13 49 [10,11,12],oN 8 13] (rs [oM 14 8,oV 15 (bI .neq 14 0)] (cS 15 (rs [oT 16 (.build [zZ,zZ,zZ,zZ,zZ,zZ,zZ,zZ,zZ,zZ,zN 2,zN 21,zN 3,zN 2,zN 6,zN 7]),oM 17 8,oS 16 6 16,oN 7 17] .ret)))) (sq (rs [oF 18 14 4,oL 19 18,oY 20 19,oF 21 15 4,oL 22 21,oY 23 22,oT 24 (bT .add 20 23),oV 25 (bI .eql 24 256)] (cS 25 (rs [oT 26 (.build [zZ,zZ,zZ,zZ,zZ,zZ,zZ,zZ,zZ,zZ,zN 2,zN 21,zN 3,zN 2,zN 6,zN 7]),oS 16 6 26,oJ 7 7] .ret))) (rs [oF 27 7 4,oL 28 27,oF 29 5 5,sT 1 29 28] (rs [oK 30 2 3,oK 31 16 4,oC 32 50 [30,31],oN 9 32] (sq (.region ⟨[oM 33 9,oM 34 9,oT 35 (kT 34),oQ 36 0 35,oQ 37 14 36,oL 38 37,oK 39 6 5,oT 40 (.buildSlice 6 [.t 39]),oT 41 (.append 6 48 (.t 38) (.t 40)),oT 42 (kT 33),oQ 43 0 42,oQ 44 14 43,sT 1 44 41],[],[(5,7)]⟩) (rs [oM 45 9,oT 46 (kT 45),oQ 47 0 46,oR 48 16 47,oS 16 6 48,oJ 7 0] .ret))))))
def vf17:=mF 3 [.cell (.v 6) (some 16),.tmp (.v 7)] (iv [0,10] [15,25]) J5
def TR:VCode:=rs [oX 3 2 1,oV 4 (.alloc [cZ,cZ,cZ,cZ,.c (.bool false),cZ])] (sq (.region ⟨[oM 6 0,oT 7 (.call 16 [.t 6,.c (.int .i64 6)]),oF 8 0 3,oL 9 8,oM 10 0,oF 11 0 3,oL 12 11,oY 13 12,oC 14 16 [10,13],oA 15 6 9 14,oQ 16 0 15,oL 17 16,oM 18 0,oT 19 (.buildFz 1 [.c (.int .i64 0),.c (.int .i64 4),.c (.int .i64 8),.c (.int .i64 100),.c (.int .i64 104),.c (.int .i64 5000)]),oC 20 38 [18,19],oM 21 0,oT 22 (.buildFz 1 [.c (.int .i64 1),.c (.int .i64 4),.c (.int .i64 4),.c (.int .i64 30),.c (.int .i64 4096)]),oC 23 38 [21,22],oM 24 0,oT 25 (.call 45 [.t 24,.c (.int .i64 3)]),oM 26 0,oT 27 (.call 16 [.t 26,.c (.int .i64 4)]),oT 28 (.build [aT 7 0 1,aT 17 0 1,aT 20 0 1,aT 23 0 1,aT 25 0 1,aT 27 0 1]),oV 5 (.alloc [cZ,cZ,cZ,cZ,.c (.bool false),cZ]),oS 6 5 28],[],[(1,3),(1,6),(3,8),(3,14),(9,14),(11,14),(3,17),(9,17),(11,17),(3,19),(9,19),(11,19),(3,21),(9,21),(11,21),(1,23),(3,23),(6,23),(8,23),(9,23),(11,23),(14,23),(17,23),(19,23),(21,23),(22,23)]⟩) (rs [oK 29 6 5,oS 6 4 29] .ret))
def vf18:=mF 2 [.cell (.v 4) (some 6)] [0,1,3,4,5] TR
def J4:VCode:=rs [oX 2 2 0,oX 3 16 1,oV 4 (.alloc [cZ,cZ,cZ,cZ,cZ,cZ,cZ,cZ,cZ,cZ,.nil 2,.nil 21,.nil 3,.nil 2,.nil 6,.nil 7]),oV 5 (.newArr 7),oJ 6 0] (sq (rs [oK 12 2 2,oK 13 16 3,oC 14 51 [12,13],oV 15 (nT 14)] (cS 15 (rs [oT 16 (.build [zZ,zZ,zZ,zZ,zZ,zZ,zZ,zZ,zZ,zZ,zN 2,zN 21,zN 3,zN 2,zN 6,zN 7]),oS 16 4 16,oV 5 (.newArr 7),oJ 6 1] .ret))) (sq (rs [oF 17 7 3,oL 18 17,oV 19 (bI .eql 18 1048576)] (cS 19 (rs [oT 20 (.build [zZ,zZ,zZ,zZ,zZ,zZ,zZ,zZ,zZ,zZ,zN 2,zN 21,zN 3,zN 2,zN 6,zN 7]),oS 16 4 20,oV 5 (.newArr 7),oJ 6 3] .ret))) (rs [oK 21 2 2,oK 22 16 3,oC 23 50 [21,22],oN 7 23] (rs [oM 24 7,oT 25 (cW 52 [24]),oN 8 25] (sq (rs [oM 26 7,oT 27 (kT 26),oQ 28 0 27,oQ 29 7 28,oL 30 29,oM 31 7,oT 32 (kT 31),oQ 33 0 32,oQ 34 0 33,oQ 35 5 34,oL 36 35,oT 37 (bT .mul 30 36),oN 9 37] (.block 0 (.loop (sq (sq (.region ⟨[oM 38 7,oT 39 (kT 38),oQ 40 0 39,oQ 41 8 40,oL 42 41,oM 43 9,oU 44 42 43],[53,63],[]⟩) (cE 44 0)) (.block 1 (sq (.region ⟨[oK 46 2 2,oM 47 7,oT 48 (kT 47),oQ 49 0 48,oQ 50 13 49,oL 51 50,oM 52 7,oT 53 (.callA 54 [.t 52]),oM 54 9,oC 55 53 [46,51,53,54],oP 45 55,oE 56 45 0,oE 57 45 1,oN 10 56,oN 11 57],[],[(0,7),(5,7)]⟩) (rs [oM 58 11,oT 59 (nT 58),oP 60 59,fM 61 7 60,fM 62 10 60,fT 63 (cW 55 [61,62]) 60,fT 64 (nT 63) 60,vO 65 60 64] (cS 65 (.exit 0))))))))) (rs [oM 66 7,oT 67 (kT 66),oQ 68 0 67,oR 69 16 68,oM 70 8,oS 16 4 69,oN 5 70,oJ 6 0] .ret))))))
def vf19:=mF 2 [.cell (.v 4) (some 16),.tmp (.v 5),.tmp (.v 6)] (iv [0,12] [15,19,44,65]) J4
def Mr:VCode:=rs [oX 2 2 0,oX 3 16 1,oV 4 (.newArr 1),oJ 5 0] (sq (rs [oK 6 2 2,oK 7 16 3,oC 8 51 [6,7],oV 9 (nT 8)] (cS 9 (rs [oV 4 (.newArr 1),oJ 5 1] .ret))) (rs [oK 10 2 2,oK 11 16 3,oC 12 50 [10,11],oT 13 (.callA 54 [.t 12]),oN 4 13,oJ 5 0] .ret))
def vf20:=mF 2 [.tmp (.v 4),.tmp (.v 5)] (iv [0,6] [9]) Mr
def TQ:VCode:=rs [oX 4 2 0,oJ 8 0,oV 9 (.move cF)] (rs [oJ 10 0,oV 11 (.move cF)] (sq (rs [oJ 12 0] (.block 0 (.loop (sq (rs [oM 14 12,oM 15 2,oY 16 15,oU 17 14 16] (cE 17 0)) (sq (.block 1 (rs [oM 20 2,oM 21 12,oA 22 1 20 21,oL 23 22,oN 13 23] (rs [oK 24 2 4,oM 25 1,oM 26 13,oM 27 3,oC 28 56 [24,25,26,27],oP 29 28,tM 30 11 29,tT 31 (nT 30) 29,tT 32 (.move (.t 31)) 29,fM 33 1 32,fM 34 13 32,fT 35 (cC 57 [33,34]) 32,fM 36 1 32,fM 37 10 32,fT 38 (cC 57 [36,37]) 32,fT 39 (bT .lss 35 38) 32,tT 40 (.pick (.t 32) cT (.t 39)) 29,tT 41 (.move (.t 40)) 29,fM 42 1 41,fM 43 13 41,fT 44 (cC 57 [42,43]) 41,fM 45 1 41,fM 46 10 41,fT 47 (cC 57 [45,46]) 41,fT 48 (bT .eql 44 47) 41,fT 49 (.move (.t 48)) 41,tM 50 13 49,tM 51 10 49,tT 52 (bT .lss 50 51) 49,fT 53 (.pick (.t 49) (.t 52) cF) 41,tT 54 (.pick (.t 41) cT (.t 53)) 29,vB 55 29 54] (cS 55 (rg [oM 56 13,oN 10 56,oV 11 (.move cT)]))))) (rg [oM 18 12,oI 19 18,oN 12 19])))))) (rs [oM 57 10,oM 58 11,oN 8 57,oN 9 58] .ret)))
def vf21:=mF 4 [.tmp (.v 8),.tmp (.v 9)] (iv [0,5,8,6] [17,55]) TQ
def TP:VCode:=rs [oX 4 2 1,oV 6 (.alloc [cZ,cZ,cZ,cZ,cZ,cZ,cZ,cZ,cZ,cZ,.nil 2,.nil 21,.nil 3,.nil 2,.nil 6,.nil 7])] (rs [oM 13 0,oC 14 15 [13],oC 15 14 [14],oP 12 15,oE 16 12 0,oE 17 12 1,oV 7 (.alloc [cZ,cZ,cZ,cZ,cZ,cZ,cZ,cZ,cZ,cZ,.nil 2,.nil 21,.nil 3,.nil 2,.nil 6,.nil 7]),oS 16 7 16,oP 8 17] (sq (rs [oM 18 0,oM 19 2,oI 20 19,oC 21 16 [18,20],oN 9 21] (.block 0 (.loop (sq (sq (.region ⟨[oM 22 9,oV 23 (bI .gtr 22 0)],[10,15,32,46,58],[]⟩) (cE 23 0)) (sq (.block 1 (rs [oK 26 16 7,oV 10 (.alloc [cZ,cZ,cZ,cZ,cZ,cZ,cZ,cZ,cZ,cZ,.nil 2,.nil 21,.nil 3,.nil 2,.nil 6,.nil 7]),oS 16 10 26,oJ 11 0] (sq (rs [oM 27 0,oV 28 (.call 16 [.t 27,.c (.int .i64 5)])] (.block 2 (rs [oT 37 (.bin .eql (.v 28) (cI 0)),oN 36 37] (.cond (.v 36) (.region ⟨[oK 39 2 4,oK 40 16 7,oM 41 0,oK 42 2 4,oC 43 40 [41,42],oM 44 0,oT 45 (.call 35 [.t 44,.c (.int .i64 0)]),oC 46 58 [39,40,43,45],oP 38 46,oE 47 38 0,oE 48 38 1,oS 16 10 47,oN 11 48],[],[(0,4),(1,4),(0,6),(1,6)]⟩) (sq (rs [oT 50 (.bin .eql (.v 28) (cI 1)),oN 49 50] (.cond (.v 49) .skip (rg [oT 51 (.bin .eql (.v 28) (cI 2)),oN 49 51]))) (.cond (.v 49) (.region ⟨[oK 53 2 4,oK 54 16 7,oM 55 0,oK 56 2 4,oC 57 18 [55,56],oC 58 59 [53,54,57],oP 52 58,oE 59 52 0,oE 60 52 1,oS 16 10 59,oN 11 60],[],[(0,4),(1,4)]⟩) (rg [oK 30 2 4,oK 31 16 7,oC 32 60 [30,31],oP 29 32,oE 33 29 0,oE 34 29 1,oE 35 29 2,oS 16 10 33,oN 11 35]))))))) (rs [oM 61 11,oV 62 (bI .eql 61 0)] (cS 62 (rg [oK 63 16 10,oS 16 7 63])))))) (rg [oM 24 9,oT 25 (bI .sub 24 1),oN 9 25])))))) (rs [oK 64 16 7,oS 16 6 64] .ret)))
def vf22:=mF 3 [.cell (.v 6) (some 16)] [0,1,2,4,6,7,9,10,11,23,28,36,49,62] TP
def TO:VCode:=rs [oV 4 (.move cF)] (sq (rs [oM 6 0,oY 7 6,oM 8 1,oY 9 8,oV 10 (bT .neq 7 9)] (cS 10 (rs [oV 4 (.move cF)] .ret))) (sq (rs [oJ 5 0] (.block 0 (.loop (sq (rs [oM 11 5,oM 12 0,oY 13 12,oU 14 11 13] (cE 14 0)) (sq (.block 1 (rs [oM 17 0,oM 18 5,oA 19 6 17 18,oR 20 6 19,oM 21 1,oM 22 5,oA 23 6 21 22,oR 24 6 23,oV 25 (.eqAgg true [(.int .i64),(.int .i64),(.int .i64),(.int .i64),.bool,(.int .i64)] (.t 20) (.t 24))] (cS 25 (rs [oV 4 (.move cF)] .ret)))) (rg [oM 15 5,oI 16 15,oN 5 16])))))) (rs [oV 4 (.move cT)] .ret)))
def vf24:=mF 2 [.tmp (.v 4)] [0,1,4,5,10,14,25] TO
def TN:VCode:=rs [oV 4 (.alloc [cZ,cZ,cZ])] (sq (rs [oJ 5 0] (.block 0 (.loop (sq (rs [oM 6 5,oM 7 0,oY 8 7,oU 9 6 8] (cE 9 0)) (sq (.block 1 (rs [oM 12 0,oM 13 5,oA 14 3 12 13,oQ 15 0 14,oL 16 15,oM 17 1,oV 18 (bT .eql 16 17)] (cS 18 (rs [oM 19 0,oM 20 5,oA 21 3 19 20,oR 22 3 21,oS 3 4 22] .ret)))) (rg [oM 10 5,oI 11 10,oN 5 11])))))) (rs [oM 23 1,oT 24 (.build [aT 23 0 1,zZ,.a (cI 256) 0 1]),oS 3 4 24] .ret))
def vf27:=mF 2 [.cell (.v 4) (some 3)] [0,1,4,5,9,18] TN
def TM:VCode:=rs [oX 1 7 0,oV 2 (.alloc [cZ,cZ,cZ,cZ,cZ,cZ,cZ,cZ,cZ,cZ,.nil 2,.nil 21,.nil 3,.nil 2,.nil 6,.nil 7]),oJ 3 0] (sq (rs [oK 4 7 1,oC 5 63 [4],oV 6 (nT 5)] (cS 6 (rs [oT 7 (.build [zZ,zZ,zZ,zZ,zZ,zZ,zZ,zZ,zZ,zZ,zN 2,zN 21,zN 3,zN 2,zN 6,zN 7]),oS 16 2 7,oJ 3 3] .ret))) (rs [oK 8 7 1,oT 9 (.build [aT 8 0 7,aT 8 1 7,aT 8 2 7,aT 8 3 7,aT 8 4 7,aT 8 5 7,aT 8 6 7,zZ,zZ,zZ,zN 2,zN 21,zN 3,zN 2,zN 6,zN 7]),oS 16 2 9,oJ 3 0] .ret))
def vf28:=mF 1 [.cell (.v 2) (some 16),.tmp (.v 3)] [0,1,2,3,6] TM
def TL:VCode:=rs [oX 2 16 0,oX 3 16 1,oV 4 (.move cF)] (rs [oF 5 0 2,oR 6 7 5,oF 7 0 3,oR 8 7 7,oT 9 (.eqAgg false [(.int .i64),(.int .i64),(.int .i64),(.int .i64),(.int .i64),(.int .i64),(.int .i64)] (.t 6) (.t 8)),oP 10 9,tF 11 7 2 10,tL 12 11 10,tF 13 7 3 10,tL 14 13 10,tT 15 (bT .eql 12 14) 10,oB 16 10 15,oP 17 16,tF 18 8 2 17,tL 19 18 17,tF 20 8 3 17,tL 21 20 17,tT 22 (bT .eql 19 21) 17,oB 23 17 22,oP 24 23,tF 25 9 2 24,tL 26 25 24,tF 27 9 3 24,tL 28 27 24,tT 29 (bT .eql 26 28) 24,oB 30 24 29,oP 31 30,tF 32 10 2 31,tL 33 32 31,tF 34 10 3 31,tL 35 34 31,tT 36 (cC 64 [33,35]) 31,oB 37 31 36,oP 38 37,tF 39 11 2 38,tL 40 39 38,tF 41 11 3 38,tL 42 41 38,tT 43 (cC 65 [40,42]) 38,oB 44 38 43,oP 45 44,tF 46 12 2 45,tL 47 46 45,tF 48 12 3 45,tL 49 48 45,tT 50 (cC 66 [47,49]) 45,oB 51 45 50,oP 52 51,tF 53 13 2 52,tL 54 53 52,tF 55 13 3 52,tL 56 55 52,tT 57 (cC 67 [54,56]) 52,oB 58 52 57,oP 59 58,tF 60 14 2 59,tL 61 60 59,tF 62 14 3 59,tL 63 62 59,tT 64 (cC 24 [61,63]) 59,oB 65 59 64,oP 66 65,tF 67 15 2 66,tL 68 67 66,tF 69 15 3 66,tL 70 69 66,tT 71 (cC 68 [68,70]) 66,oB 72 66 71,oN 4 72] .ret)
def vf29:=mF 2 [.tmp (.v 4)] (iv [0,5] []) TL
def TK:VCode:=rs [oX 3 16 1,oV 4 (.alloc [cZ,cZ,cZ,cZ,cZ,cZ,cZ,cZ,cZ,cZ,.nil 2,.nil 21,.nil 3,.nil 2,.nil 6,.nil 7])] (rs [oK 5 16 3,oC 6 69 [5],oS 16 3 6] (sq (rs [oM 7 0,oV 8 (.call 16 [.t 7,.c (.int .i64 9)])] (.block 0 (rs [oT 10 (.bin .eql (.v 8) (cI 0)),oN 9 10] (.cond (.v 9) (rg [oM 11 0,oT 12 (.buildFz 1 [.c (.int .i64 (-1)),.c (.int .i64 0),.c (.int .i64 1048576),.c (.int .i64 1048577)]),oC 13 38 [11,12],oF 14 7 3,sT 1 14 13]) (rs [oT 16 (.bin .eql (.v 8) (cI 1)),oN 15 16] (.cond (.v 15) (rg [oM 17 0,oT 18 (.buildFz 1 [.c (.int .i64 (-1)),.c (.int .i64 0),.c (.int .i64 1125899906842624),.c (.int .i64 1125899906842625)]),oC 19 38 [17,18],oF 20 8 3,sT 1 20 19]) (rs [oT 22 (.bin .eql (.v 8) (cI 2)),oN 21 22] (.cond (.v 21) (rg [oM 23 0,oT 24 (.buildFz 1 [.c (.int .i64 (-1)),.c (.int .i64 16777216),.c (.int .i64 16777217)]),oC 25 38 [23,24],oF 26 9 3,sT 1 26 25]) (rs [oT 28 (.bin .eql (.v 8) (cI 3)),oN 27 28] (.cond (.v 27) (rg [oM 29 0,oT 30 (.buildFz 1 [.c (.int .i64 0),.c (.int .i64 1),.c (.int .i64 1000000),.c (.int .i64 1000001)]),oC 31 38 [29,30],oF 32 0 3,oQ 33 5 32,sT 1 33 31]) (rs [oT 35 (.bin .eql (.v 8) (cI 4)),oN 34 35] (.cond (.v 34) (.region ⟨[oF 36 10 3,oL 37 36,oM 38 0,oT 39 (.buildFz 1 [.c (.int .i64 1),.c (.int .i64 2),.c (.int .i64 9)]),oC 40 38 [38,39],oM 41 0,oT 42 (.buildFz 1 [.c (.int .i64 0),.c (.int .i64 1)]),oC 43 38 [41,42],oT 44 (.build [aT 40 0 1,aT 43 0 1]),oT 45 (.buildSlice 2 [.t 44]),oT 46 (.append 2 16 (.t 37) (.t 45)),oF 47 10 3,sT 1 47 46],[],[(1,4),(1,7),(1,8),(1,9)]⟩) (rs [oT 49 (.bin .eql (.v 8) (cI 5)),oN 48 49] (.cond (.v 48) (.region ⟨[oF 50 15 3,oL 51 50,oT 52 (.build [zZ,.a (cI 1) 0 1,zZ,.a (cI 1) 0 1,.z (.c (.bool false)),zZ]),oM 53 0,oT 54 (.buildFz 1 [.c (.int .i64 (-1)),.c (.int .i64 0),.c (.int .i64 1125899906842624),.c (.int .i64 1125899906842625)]),oC 55 38 [53,54],oT 56 (.build [aT 52 0 6,aT 52 1 6,aT 52 2 6,aT 52 3 6,aT 52 4 6,aT 52 5 6,aT 55 0 1]),oT 57 (.buildSlice 7 [.t 56]),oT 58 (.append 7 56 (.t 51) (.t 57)),oF 59 15 3,sT 1 59 58],[],[(1,2),(1,5),(2,5),(1,6),(1,7)]⟩) (rs [oT 61 (.bin .eql (.v 8) (cI 6)),oN 60 61] (.cond (.v 60) (.region ⟨[oF 62 14 3,oL 63 62,oM 64 0,oT 65 (.buildFz 1 [.c (.int .i64 1),.c (.int .i64 9)]),oC 66 38 [64,65],oM 67 0,oT 68 (.buildFz 1 [.c (.int .i64 0),.c (.int .i64 1)]),oC 69 38 [67,68],oT 70 (.build [zZ,aT 66 0 1,zZ,aT 69 0 1,.z (.c (.bool false)),zZ]),oT 71 (.buildSlice 6 [.t 70]),oT 72 (.append 6 48 (.t 63) (.t 71)),oF 73 14 3,sT 1 73 72],[],[(1,4),(1,7),(1,8),(1,9)]⟩) (rs [oT 75 (.bin .eql (.v 8) (cI 7)),oN 74 75] (cS 74 (.region ⟨[oF 76 11 3,oL 77 76,oM 78 0,oT 79 (.buildFz 1 [.c (.int .i64 1),.c (.int .i64 9)]),oC 80 38 [78,79],oT 81 (.build [aT 80 0 1,zZ,zZ,zZ,zZ,zZ,zZ,zZ,zZ,zZ,zZ,zZ,zZ,zZ,zZ,zZ,zZ,zZ,zZ,zZ,zZ]),oT 82 (.buildSlice 21 [.t 81]),oT 83 (.append 21 168 (.t 77) (.t 82)),oF 84 11 3,sT 1 84 83],[],[(1,4),(1,5),(1,6)]⟩))))))))))))))))))) (rs [oK 85 16 3,oS 16 4 85] .ret)))
def vf30:=mF 2 [.cell (.v 4) (some 16)] [0,1,3,4,8,9,15,21,27,34,48,60,74] TK
def TJ:VCode:=rs [oV 0 (.alloc [.nil 6,cZ])] (rs [oT 1 (.build [.a (cI 1) 0 1,zZ,.z (.c (.str ⟨#[]⟩)),zZ,zZ,zZ]),oT 2 (.build [.a (cI 2) 0 1,.a (cI 1) 0 1,.a (.c (.str ⟨#[97]⟩)) 0 1,zZ,zZ,zZ]),oT 3 (.buildSlice 6 [.t 1,.t 2]),oT 4 (.build [aT 3 0 1,.a (cI 3) 0 1]),oS 2 0 4] .ret)
def vf33:=mF 0 [.cell (.v 0) (some 2)] [0] TJ
def Il:VCode:=rs [oX 4 2 0,oX 5 16 1,oX 7 7 3,oV 8 (.alloc [cZ,cZ,cZ,cZ,cZ,cZ,cZ,cZ,cZ,cZ,.nil 2,.nil 21,.nil 3,.nil 2,.nil 6,.nil 7]),oJ 9 0] (sq (rs [oK 11 2 4,oK 12 16 5,oC 13 51 [11,12],oV 14 (nT 13)] (cS 14 (rs [oT 15 (.build [zZ,zZ,zZ,zZ,zZ,zZ,zZ,zZ,zZ,zZ,zN 2,zN 21,zN 3,zN 2,zN 6,zN 7]),oS 16 8 15,oJ 9 1] .ret))) (sq (rs [oK 16 2 4,oM 17 2,oC 18 73 [16,17],oV 19 (nT 18)] (cS 19 (rs [oT 20 (.build [zZ,zZ,zZ,zZ,zZ,zZ,zZ,zZ,zZ,zZ,zN 2,zN 21,zN 3,zN 2,zN 6,zN 7]),oS 16 8 20,oJ 9 4] .ret))) (rs [oF 21 0 7,oZ (.store 1 (.t 21) (cI 0))] (sq (rs [oK 22 7 7,oT 23 (.buildFz 7 [.t 22]),oC 24 85 [23],oV 25 (nT 24)] (cS 25 (rs [oT 26 (.build [zZ,zZ,zZ,zZ,zZ,zZ,zZ,zZ,zZ,zZ,zN 2,zN 21,zN 3,zN 2,zN 6,zN 7]),oS 16 8 26,oJ 9 3] .ret))) (rs [oK 27 2 4,oK 28 16 5,oC 29 50 [27,28],oN 10 29] (rs [oM 30 10,oM 31 2,oF 32 1 7,oL 33 32,oT 34 (cW 86 [30,31,33])] (rs [oM 35 10,oM 36 2,oK 37 7 7,oT 38 (cW 87 [35,36,37])] (rs [oM 39 10,oM 40 2,oF 41 6 7,oL 42 41,oT 43 (cW 88 [39,40,42])] (rs [oM 44 10,oT 45 (kT 44),oQ 46 0 45,oR 47 16 46,oS 16 8 47,oJ 9 0] .ret)))))))))
def vf34:=mF 4 [.cell (.v 8) (some 16),.tmp (.v 9)] (iv [0,6,7,4] [14,19,25]) Il
def TI:VCode:=rs [oV 4 (.alloc [cZ,cZ,cZ,cZ,cZ,cZ,cZ])] (rs [oM 5 1,oM 6 0,oC 7 89 [6],oM 8 0,oT 9 (.buildFz 1 [.c (.int .i64 4611686018427387904),.c (.int .i64 4611686018427387904),.c (.int .i64 1),.c (.int .i64 10),.c (.int .i64 5000)]),oC 10 38 [8,9],oM 11 0,oT 12 (.buildFz 1 [.c (.int .i64 4611686018427387904),.c (.int .i64 4611686018427387904),.c (.int .i64 4),.c (.int .i64 100)]),oC 13 38 [11,12],oM 14 0,oT 15 (.buildFz 1 [.c (.int .i64 4611686018427387904),.c (.int .i64 4611686018427387904),.c (.int .i64 1),.c (.int .i64 3),.c (.int .i64 50)]),oC 16 38 [14,15],oM 17 0,oT 18 (.buildFz 1 [.c (.int .i64 4611686018427387904),.c (.int .i64 2)]),oC 19 38 [17,18],oM 20 0,oT 21 (.buildFz 1 [.c (.int .i64 0),.c (.int .i64 0),.c (.int .i64 5),.c (.int .i64 20)]),oC 22 38 [20,21],oT 23 (.build [aT 5 0 1,aT 7 0 1,aT 10 0 1,aT 13 0 1,aT 16 0 1,aT 19 0 1,aT 22 0 1]),oS 7 4 23] .ret)
def vf35:=mF 2 [.cell (.v 4) (some 7)] [0,1,4] TI
def TH:VCode:=rs [oJ 4 0] (rs [oM 5 1,oM 6 0,oM 7 1,oY 8 7,oC 9 16 [6,8],oA 10 1 5 9,oL 11 10,oN 4 11] .ret)
def vf38:=mF 2 [.tmp (.v 4)] [0,1,4] TH
def J3:VCode:=rs [oX 5 2 0,oX 6 16 1,oX 7 7 2,oX 8 6 3,oV 10 (.move cF)] (rs [oK 24 2 5,oK 25 16 6,oM 26 4,oK 27 7 7,oC 28 34 [24,25,26,27],oP 23 28,oE 29 23 0,oE 30 23 1,oV 11 (.alloc [cZ,cZ,cZ,cZ,cZ,cZ,cZ,cZ,cZ,cZ,.nil 2,.nil 21,.nil 3,.nil 2,.nil 6,.nil 7]),oS 16 11 29,oN 12 30] (rs [oK 32 2 5,oK 33 16 6,oM 34 4,oK 35 7 7,oC 36 58 [32,33,34,35],oP 31 36,oE 37 31 0,oE 38 31 1,oV 13 (.alloc [cZ,cZ,cZ,cZ,cZ,cZ,cZ,cZ,cZ,cZ,.nil 2,.nil 21,.nil 3,.nil 2,.nil 6,.nil 7]),oS 16 13 37,oN 14 38] (sq (sq (.region ⟨[oK 39 2 5,oK 40 16 6,oC 41 51 [39,40],oK 42 2 5,oK 43 16 6,oC 44 84 [42,43],oT 45 (.eqB true (.t 41) (.t 44)),oP 46 45,fT 47 (ldV 16 11) 46,fT 48 (ldV 16 13) 46,fT 49 (cC 29 [47,48]) 46,fT 50 (nT 49) 46,oO 51 46 50,oP 52 51,fM 53 12 52,fM 54 14 52,fT 55 (bT .neq 53 54) 52,vO 56 52 55],[],[(2,3),(2,4)]⟩) (cS 56 (rs [oV 10 (.move cF)] .ret))) (rs [oK 58 2 5,oK 59 16 6,oK 60 6 8,oC 61 17 [58,59,60],oP 57 61,oE 62 57 0,oE 63 57 1,oS 16 11 62,oN 12 63] (rs [oK 65 2 5,oK 66 16 6,oK 67 6 8,oC 68 59 [65,66,67],oP 64 68,oE 69 64 0,oE 70 64 1,oS 16 13 69,oN 14 70] (rs [oK 72 2 5,oK 73 16 6,oK 74 6 8,oC 75 90 [72,73,74],oP 71 75,oE 76 71 0,oE 77 71 1,oN 15 76,oN 16 77] (rs [oK 79 2 5,oK 80 16 6,oK 81 6 8,oC 82 91 [79,80,81],oP 78 82,oE 83 78 0,oE 84 78 1,oN 17 83,oN 18 84] (sq (rs [oK 85 16 11,oK 86 16 13,oC 87 29 [85,86],oT 88 (nT 87),oP 89 88,fM 90 12 89,fM 91 14 89,fT 92 (bT .neq 90 91) 89,oO 93 89 92,oP 94 93,fM 95 15 94,fM 96 17 94,fT 97 (.eqB true (.t 95) (.t 96)) 94,oO 98 94 97,oP 99 98,fM 100 16 99,fM 101 18 99,fT 102 (bT .neq 100 101) 99,vO 103 99 102] (cS 103 (rs [oV 10 (.move cF)] .ret))) (rs [oK 105 2 5,oK 106 16 6,oC 107 20 [105,106],oP 104 107,oE 108 104 0,oE 109 104 1,oN 19 108,oN 12 109] (rs [oK 111 2 5,oK 112 16 6,oC 113 92 [111,112],oP 110 113,oE 114 110 0,oE 115 110 1,oN 20 114,oN 14 115] (rs [oK 117 2 5,oK 118 16 6,oC 119 19 [117,118],oP 116 119,oE 120 116 0,oE 121 116 1,oE 122 116 2,oS 16 11 120,oN 21 121,oN 16 122] (rs [oK 124 2 5,oK 125 16 6,oC 126 60 [124,125],oP 123 126,oE 127 123 0,oE 128 123 1,oE 129 123 2,oS 16 13 127,oN 22 128,oN 18 129] (sq (rs [oM 130 19,oM 131 20,oC 132 93 [130,131],oT 133 (nT 132),oP 134 133,fM 135 12 134,fM 136 14 134,fT 137 (bT .neq 135 136) 134,oO 138 134 137,oP 139 138,fT 140 (ldV 16 11) 139,fT 141 (ldV 16 13) 139,fT 142 (cC 29 [140,141]) 139,fT 143 (nT 142) 139,oO 144 139 143,oP 145 144,fM 146 21 145,fM 147 22 145,fT 148 (cC 68 [146,147]) 145,fT 149 (nT 148) 145,oO 150 145 149,oP 151 150,fM 152 16 151,fM 153 18 151,fT 154 (bT .neq 152 153) 151,vO 155 151 154] (cS 155 (rs [oV 10 (.move cF)] .ret))) (sq (rs [oF 156 14 6,oL 157 156,oY 158 157,oT 159 (bI .gtr 158 300),oP 160 159,fF 161 15 6 160,fL 162 161 160,fT 163 (lT 162) 160,fT 164 (bI .gtr 163 300) 160,vO 165 160 164] (cS 165 (rs [oV 10 (.move cT)] .ret))) (sq (.region ⟨[oK 166 16 6,oF 167 0 8,oL 168 167,oC 169 41 [166,168],oK 170 16 6,oF 171 0 8,oL 172 171,oC 173 94 [170,172],oT 174 (bT .eql 169 173),oP 175 174,tT 176 (ldV 16 6) 175,tF 177 0 8 175,tL 178 177 175,tT 179 (cC 95 [176,178]) 175,tT 180 (ldV 16 6) 175,tF 181 0 8 175,tL 182 181 175,tT 183 (cC 96 [180,182]) 175,tT 184 (cC 29 [179,183]) 175,oB 185 175 184,oN 10 185],[],[(3,4),(3,6),(13,14),(13,16)]⟩) .ret)))))))))))))))
def vf39:=mF 5 [.tmp (.v 10)] (iv [0,9,10,13] [56,103,155,165]) J3
def TG:VCode:=rs [oX 3 2 1,oJ 4 0] (sq (rs [oM 5 0,oT 6 (.call 45 [.t 5,.c (.int .i64 15)]),oP 7 6,fF 8 0 3 7,fL 9 8 7,fT 10 (lT 9) 7,fT 11 (bI .eql 10 0) 7,vO 12 7 11] (cS 12 (rs [oM 13 0,oT 14 (.call 16 [.t 13,.c (.int .i64 9)]),oT 15 (bI .sub 14 1),oN 4 15] .ret))) (sq (.region ⟨[oF 16 0 3,oL 17 16,oM 18 0,oF 19 0 3,oL 20 19,oY 21 20,oC 22 16 [18,21],oA 23 6 17 22,oQ 24 0 23,oL 25 24,oN 4 25],[],[(1,6)]⟩) .ret))
def vf40:=mF 2 [.tmp (.v 4)] [0,1,3,4,12] TG
def TF:VCode:=rs [oX 2 16 0,oJ 4 0] (rs [oJ 5 0] (sq (rs [oF 10 14 2,oV 11 (.load none (.t 10)),oV 12 (.len (.v 11)),oJ 13 0] (.block 0 (.loop (rs [oV 14 (.bin .lss (.v 13) (.v 12))] (sq (cE 14 0) (sq (.block 1 (rs [oT 15 (.indexAddr 6 (.v 11) (.v 13)),oR 16 6 15,oV 7 (.alloc [cZ,cZ,cZ,cZ,.c (.bool false),cZ]),oS 6 7 16] (rs [oF 17 0 7,oL 18 17,oM 19 1,oV 20 (bT .eql 18 19)] (cS 20 (rg [oM 21 5,oI 22 21,oN 5 22]))))) (rg [oT 23 (.bin .add (.v 13) (cI 1)),oN 13 23]))))))) (sq (rs [oF 24 15 2,oV 25 (.load none (.t 24)),oV 26 (.len (.v 25)),oJ 27 0] (.block 2 (.loop (rs [oV 28 (.bin .lss (.v 27) (.v 26))] (sq (cE 28 2) (sq (.block 3 (rs [oT 29 (.indexAddr 7 (.v 25) (.v 27)),oR 30 7 29,oV 9 (.alloc [cZ,cZ,cZ,cZ,.c (.bool false),cZ,cZ]),oS 7 9 30] (rs [oF 31 0 9,oQ 32 0 31,oL 33 32,oM 34 1,oV 35 (bT .eql 33 34)] (cS 35 (rg [oM 36 5,oI 37 36,oN 5 37]))))) (rg [oT 38 (.bin .add (.v 27) (cI 1)),oN 27 38]))))))) (rs [oM 39 5,oN 4 39] .ret))))
def vf41:=mF 2 [.tmp (.v 4)] (iv [11,4,25,4] [0,1,2,4,5,7,9,20,35]) TF
def TE:VCode:=rs [oV 0 (.alloc [.nil 6,cZ])] (rs [oT 1 (.build [.a (cI 1) 0 1,zZ,.z (.c (.str ⟨#[]⟩)),zZ,zZ,zZ]),oT 2 (.buildSlice 6 [.t 1]),oT 3 (.build [aT 2 0 1,.a (cI 2) 0 1]),oS 2 0 3] .ret)
def vf42:=mF 0 [.cell (.v 0) (some 2)] [0] TE
def TD:VCode:=rs [oX 3 2 0,oV 6 (.alloc [.nil 6,cZ]),oJ 7 0,oJ 8 0] (sq (rs [oK 11 2 3,oC 12 82 [11],oT 13 (nT 12),oP 14 13,fM 15 2 14,fT 16 (cC 97 [15]) 14,fT 17 (nT 16) 14,vO 18 14 17] (cS 18 (rs [oT 19 (.build [zN 6,zZ]),oS 2 6 19,oJ 7 0,oJ 8 1] .ret))) (sq (rs [oK 20 2 3,oM 21 1,oC 22 83 [20,21],oV 23 (nT 22)] (cS 23 (rs [oT 24 (.build [zN 6,zZ]),oS 2 6 24,oJ 7 0,oJ 8 4] .ret))) (sq (rs [oJ 9 0] (.block 0 (.loop (sq (sq (.region ⟨[oM 25 9,oF 26 0 3,oL 27 26,oY 28 27,oU 29 25 28],[50],[]⟩) (cE 29 0)) (sq (.block 1 (rs [oF 32 0 3,oL 33 32,oM 34 9,oA 35 6 33 34,oQ 36 1 35,oL 37 36,oM 38 1,oT 39 (bT .eql 37 38),oP 40 39,tF 41 0 3 40,tL 42 41 40,tM 43 9 40,tT 44 (.indexAddr 6 (.t 42) (.t 43)) 40,tT 45 (.fieldAddr 2 (.t 44)) 40,tL 46 45 40,tM 47 2 40,tT 48 (bT .eql 46 47) 40,vB 49 40 48] (cS 49 (rs [oT 50 (.build [zN 6,zZ]),oS 2 6 50,oJ 7 0,oJ 8 5] .ret)))) (rg [oM 30 9,oI 31 30,oN 9 31])))))) (sq (rs [oK 51 2 3,oM 52 1,oC 53 98 [51,52],oT 54 (bI .geq 53 8),oP 55 54,fF 56 0 3 55,fL 57 56 55,fT 58 (lT 57) 55,fT 59 (bI .geq 58 64) 55,oO 60 55 59,oP 61 60,fF 62 1 3 61,fL 63 62 61,fT 64 (bI .gtr 63 2147483647) 61,vO 65 61 64] (cS 65 (rs [oT 66 (.build [zN 6,zZ]),oS 2 6 66,oJ 7 0,oJ 8 7] .ret))) (rs [oK 67 2 3,oC 68 99 [67],oV 10 (.alloc [.nil 6,cZ]),oS 2 10 68] (rs [oF 69 0 10,oL 70 69,oF 71 1 3,oL 72 71,oM 73 1,oM 74 2,oT 75 (.build [aT 72 0 1,aT 73 0 1,aT 74 0 1,zZ,zZ,zZ]),oT 76 (.buildSlice 6 [.t 75]),oT 77 (.append 6 56 (.t 70) (.t 76)),oF 78 0 10,sT 1 78 77] (rs [oF 79 1 10,oL 80 79,oI 81 80,oF 82 1 10,sT 1 82 81] (sq (.region ⟨[oK 83 2 10,oF 84 1 3,oL 85 84,oS 2 6 83,oN 7 85,oJ 8 0],[],[(2,3)]⟩) .ret))))))))
def vf43:=mF 3 [.cell (.v 6) (some 2),.tmp (.v 7),.tmp (.v 8)] (iv [0,4,6,5] [18,23,29,49,65]) TD
def TC:VCode:=rs [oV 2 (.move (.c (.str ⟨#[]⟩)))] (rs [oT 3 (.buildSlice 1 [.c (.str ⟨#[97]⟩),.c (.str ⟨#[98]⟩),.c (.str ⟨#[99]⟩),.c (.str ⟨#[119,101,98]⟩),.c (.str ⟨#[100,98,45,49]⟩),.c (.str ⟨#[88,95,57]⟩)]),oM 4 0,oT 5 (.call 16 [.t 4,.c (.int .i64 6)]),oA 6 1 3 5,oL 7 6,oN 2 7] .ret)
def vf44:=mF 1 [.tmp (.v 2)] [0,2] TC
def TB:VCode:=rs [oV 4 (.move cF)] (rs [oM 5 0,oM 6 1,oC 7 16 [5,6],oM 8 1,oT 9 (bI .sub 8 1),oT 10 (bT .eql 7 9),oN 4 10] .ret)
def vf45:=mF 2 [.tmp (.v 4)] [0,1,4] TB
def TA:VCode:=rs [oX 2 2 0,oV 4 (.alloc [.nil 6,cZ]),oJ 5 0] (sq (.block 0 (rs [oK 9 2 2,oC 10 82 [9],oT 11 (nT 10),oN 8 11] (.cond (.v 8) (rs [oT 12 (.build [zN 6,zZ]),oS 2 4 12,oJ 5 1] .ret) (rs [oK 14 2 2,oM 15 1,oC 16 83 [14,15],oT 17 (nT 16),oN 13 17] (.cond (.v 13) (rs [oT 18 (.build [zN 6,zZ]),oS 2 4 18,oJ 5 4] .ret) (rs [oM 20 1,oT 21 (bI .eql 20 1),oN 19 21] (.cond (.v 19) (rs [oT 22 (.build [zN 6,zZ]),oS 2 4 22,oJ 5 9] .ret) (rs [oK 24 2 2,oM 25 1,oC 26 100 [24,25],oY 27 26,oT 28 (bI .gtr 27 0),oN 23 28] (cS 23 (rs [oT 29 (.build [zN 6,zZ]),oS 2 4 29,oJ 5 6] .ret)))))))))) (rs [oF 30 1 2,oL 31 30,oT 32 (.build [zN 6,aT 31 0 1]),oV 6 (.alloc [.nil 6,cZ]),oS 2 6 32] (sq (rs [oJ 7 0] (.block 1 (.loop (sq (rs [oM 33 7,oF 34 0 2,oL 35 34,oY 36 35,oU 37 33 36] (cE 37 1)) (sq (.block 2 (rs [oF 40 0 2,oL 41 40,oM 42 7,oA 43 6 41 42,oQ 44 0 43,oL 45 44,oM 46 1,oV 47 (bT .neq 45 46)] (cS 47 (.region ⟨[oF 48 0 6,oL 49 48,oF 50 0 2,oL 51 50,oM 52 7,oA 53 6 51 52,oR 54 6 53,oT 55 (.buildSlice 6 [.t 54]),oT 56 (.append 6 56 (.t 49) (.t 55)),oF 57 0 6,sT 1 57 56],[],[(1,7)]⟩)))) (rg [oM 38 7,oI 39 38,oN 7 39])))))) (rs [oK 58 2 6,oS 2 4 58,oJ 5 0] .ret))))
def vf46:=mF 2 [.cell (.v 4) (some 2),.tmp (.v 5)] (iv [4,5] [0,1,2,13,19,23,37,47]) TA
def Tz:VCode:=rs [oX 1 7 0,oV 2 (.move cF)] (rs [oF 3 0 1,oR 4 5 3,oC 5 101 [4],oP 6 5,tF 7 5 1 6,tL 8 7 6,tT 9 (bI .geq 8 1) 6,oB 10 6 9,oP 11 10,tF 12 5 1 11,tL 13 12 11,tT 14 (bI .leq 13 1000000) 11,oB 15 11 14,oP 16 15,tF 17 6 1 16,tL 18 17 16,tT 19 (bI .geq 18 0) 16,oB 20 16 19,oP 21 20,tF 22 6 1 21,tL 23 22 21,tT 24 (bI .leq 23 1073741824) 21,oB 25 21 24,oN 2 25] .ret)
def vf47:=mF 1 [.tmp (.v 2)] [0,1,2] Tz
def Ty:VCode:=rs [oV 2 (.alloc [cZ,cZ,cZ,cZ,cZ])] (rs [oM 3 0,oT 4 (.buildFz 1 [.c (.int .i64 0),.c (.int .i64 10),.c (.int .i64 100)]),oC 5 38 [3,4],oM 6 0,oT 7 (.buildFz 1 [.c (.int .i64 0),.c (.int .i64 1),.c (.int .i64 10),.c (.int .i64 1000000)]),oC 8 38 [6,7],oM 9 0,oT 10 (.buildFz 1 [.c (.int .i64 0),.c (.int .i64 20),.c (.int .i64 50)]),oC 11 38 [9,10],oM 12 0,oT 13 (.buildFz 1 [.c (.int .i64 0),.c (.int .i64 2),.c (.int .i64 15)]),oC 14 38 [12,13],oM 15 0,oT 16 (.buildFz 1 [.c (.int .i64 0),.c (.int .i64 5),.c (.int .i64 40)]),oC 17 38 [15,16],oT 18 (.build [aT 5 0 1,aT 8 0 1,aT 11 0 1,aT 14 0 1,aT 17 0 1]),oS 5 2 18] .ret)
def vf48:=mF 1 [.cell (.v 2) (some 5)] [0,2] Ty
def Tx:VCode:=rs [oX 3 2 0,oX 4 16 1,oX 5 6 2,oJ 6 0] (rs [oF 7 5 5,oZ (.store 1 (.t 7) (cI 0))] (sq (rs [oK 8 2 3,oK 9 16 4,oC 10 51 [8,9],oT 11 (nT 10),oP 12 11,fT 13 (ldV 6 5) 12,fT 14 (cC 102 [13]) 12,fT 15 (nT 14) 12,vO 16 12 15] (cS 16 (rs [oJ 6 1] .ret))) (sq (rs [oK 17 2 3,oF 18 1 5,oL 19 18,oC 20 73 [17,19],oV 21 (nT 20)] (cS 21 (rs [oJ 6 4] .ret))) (rs [oJ 6 0] .ret))))
def vf49:=mF 3 [.tmp (.v 6)] (iv [0,7] [16,21]) Tx
def Tw:VCode:=rs [oX 2 2 0,oX 3 16 1,oV 4 (.move (.c (.nilp)))] (sq (.region ⟨[oF 5 10 3,oL 6 5,oC 7 103 [6],oF 8 11 3,oL 9 8,oC 10 104 [9],oF 11 12 3,oL 12 11,oC 13 105 [12],oF 14 10 3,sT 1 14 7,oF 15 11 3,sT 1 15 10,oF 16 12 3,sT 1 16 13],[],[(2,4),(2,7),(5,7)]⟩) (sq (.region ⟨[oF 17 13 3,oL 18 17,oC 19 106 [18],oF 20 14 3,oL 21 20,oC 22 107 [21],oF 23 15 3,oL 24 23,oC 25 108 [24],oF 26 13 3,sT 1 26 19,oF 27 14 3,sT 1 27 22,oF 28 15 3,sT 1 28 25],[],[(2,4),(2,7),(5,7)]⟩) (sq (.region ⟨[oK 29 16 3,oK 30 2 2,oT 31 (.build [aT 29 0 16,aT 29 1 16,aT 29 2 16,aT 29 3 16,aT 29 4 16,aT 29 5 16,aT 29 6 16,aT 29 7 16,aT 29 8 16,aT 29 9 16,aT 29 10 16,aT 29 11 16,aT 29 12 16,aT 29 13 16,aT 29 14 16,aT 29 15 16,aT 30 0 2,aT 30 1 2]),oT 32 (.box 18 (.t 31)),oN 4 32],[19],[]⟩) .ret)))
def vf50:=mF 2 [.tmp (.v 4)] (iv [0,5] []) Tw
def Ex:VCode:=rs [oX 2 2 0,oX 3 16 1,oV 4 (.move cF)] (sq (rs [oK 11 2 2,oC 12 70 [11],oT 13 (nT 12),oP 14 13,fF 15 0 3 14,fT 16 (.load (some 7) (.t 15)) 14,fT 17 (cC 63 [16]) 14,fT 18 (nT 17) 14,oO 19 14 18,oP 20 19,fF 21 7 3 20,fL 22 21 20,fT 23 (.call 109 [.t 22,.c (.int .i64 0),.c (.int .i64 1048576)]) 20,fT 24 (nT 23) 20,oO 25 20 24,oP 26 25,fF 27 8 3 26,fL 28 27 26,fT 29 (.call 109 [.t 28,.c (.int .i64 0),.c (.int .i64 1125899906842624)]) 26,fT 30 (nT 29) 26,oO 31 26 30,oP 32 31,fF 33 9 3 32,fL 34 33 32,fT 35 (.call 109 [.t 34,.c (.int .i64 0),.c (.int .i64 16777216)]) 32,fT 36 (nT 35) 32,vO 37 32 36] (cS 37 (rs [oV 4 (.move cF)] .ret))) (sq (rs [oK 38 2 2,oF 39 10 3,oL 40 39,oC 41 110 [38,40],oT 42 (nT 41),oP 43 42,fT 44 (ldV 2 2) 43,fF 45 12 3 43,fL 46 45 43,fT 47 (cC 111 [44,46]) 43,fT 48 (nT 47) 43,oO 49 43 48,oP 50 49,fT 51 (ldV 2 2) 50,fF 52 13 3 50,fL 53 52 50,fT 54 (cC 112 [51,53]) 50,fT 55 (nT 54) 50,oO 56 50 55,oP 57 56,fF 58 14 3 57,fL 59 58 57,fT 60 (lT 59) 57,fF 61 15 3 57,fL 62 61 57,fT 63 (lT 62) 57,fT 64 (bT .add 60 63) 57,fT 65 (bI .gtr 64 256) 57,vO 66 57 65] (cS 66 (rs [oV 4 (.move cF)] .ret))) (sq (rs [oF 67 11 3,oV 68 (.load none (.t 67)),oV 69 (.len (.v 68)),oJ 70 0] (.block 0 (.loop (rs [oV 71 (.bin .lss (.v 70) (.v 69))] (sq (cE 71 0) (sq (.block 1 (rs [oM 72 70,oT 73 (.indexAddr 21 (.v 68) (.v 70)),oR 74 21 73,oV 6 (.alloc [cZ,cZ,cZ,cZ,cZ,cZ,cZ,cZ,cZ,cZ,cZ,cZ,cZ,cZ,cZ,cZ,cZ,cZ,cZ,cZ,cZ]),oN 5 72,oS 21 6 74] (rs [oK 75 2 2,oF 76 0 6,oL 77 76,oC 78 73 [75,77],oT 79 (nT 78),oP 80 79,fM 81 5 80,fT 82 (bI .gtr 81 0) 80,fT 83 (.move (.t 82)) 80,tF 84 0 6 83,tL 85 84 83,tF 86 11 3 83,tL 87 86 83,tM 88 5 83,tT 89 (bI .sub 88 1) 83,tT 90 (.indexAddr 21 (.t 87) (.t 89)) 83,tT 91 (.fieldAddr 0 (.t 90)) 83,tL 92 91 83,tT 93 (bT .leq 85 92) 83,fT 94 (.pick (.t 83) (.t 93) cF) 80,oO 95 80 94,oP 96 95,fF 97 1 6 96,fT 98 (.load (some 5) (.t 97)) 96,fF 99 7 3 96,fL 100 99 96,fT 101 (cC 113 [98,100]) 96,fT 102 (nT 101) 96,oO 103 96 102,oP 104 103,fF 105 6 6 104,fT 106 (.load (some 5) (.t 105)) 104,fF 107 7 3 104,fL 108 107 104,fT 109 (cC 113 [106,108]) 104,fT 110 (nT 109) 104,oO 111 104 110,oP 112 111,fF 113 11 6 112,fT 114 (.load (some 5) (.t 113)) 112,fF 115 7 3 112,fL 116 115 112,fT 117 (cC 113 [114,116]) 112,fT 118 (nT 117) 112,oO 119 112 118,oP 120 119,fF 121 16 6 120,fT 122 (.load (some 5) (.t 121)) 120,fF 123 7 3 120,fL 124 123 120,fT 125 (cC 113 [122,124]) 120,fT 126 (nT 125) 120,vO 127 120 126] (cS 127 (rs [oV 4 (.move cF)] .ret))))) (rg [oT 128 (.bin .add (.v 70) (cI 1)),oN 70 128]))))))) (sq (rs [oF 129 14 3,oV 130 (.load none (.t 129)),oV 131 (.len (.v 130)),oJ 132 0] (.block 2 (.loop (rs [oV 133 (.bin .lss (.v 132) (.v 131))] (sq (cE 133 2) (sq (.block 3 (rs [oT 134 (.indexAddr 6 (.v 130) (.v 132)),oR 135 6 134,oV 8 (.alloc [cZ,cZ,cZ,cZ,.c (.bool false),cZ]),oS 6 8 135] (rs [oK 136 2 2,oK 137 6 8,oC 138 114 [136,137],oV 139 (nT 138)] (cS 139 (rs [oV 4 (.move cF)] .ret))))) (rg [oT 140 (.bin .add (.v 132) (cI 1)),oN 132 140]))))))) (sq (rs [oF 141 15 3,oV 142 (.load none (.t 141)),oV 143 (.len (.v 142)),oJ 144 0] (.block 4 (.loop (rs [oV 145 (.bin .lss (.v 144) (.v 143))] (sq (cE 145 4) (sq (.block 5 (rs [oM 146 144,oT 147 (.indexAddr 7 (.v 142) (.v 144)),oR 148 7 147,oV 10 (.alloc [cZ,cZ,cZ,cZ,.c (.bool false),cZ,cZ]),oN 9 146,oS 7 10 148] (rs [oK 149 2 2,oF 150 0 10,oR 151 6 150,oC 152 114 [149,151],oT 153 (nT 152),oP 154 153,fF 155 6 10 154,fL 156 155 154,fT 157 (.call 109 [.t 156,.c (.int .i64 0),.c (.int .i64 1125899906842624)]) 154,fT 158 (nT 157) 154,oO 159 154 158,oP 160 159,fM 161 9 160,fT 162 (bI .gtr 161 0) 160,fT 163 (.move (.t 162)) 160,tF 164 6 10 163,tL 165 164 163,tF 166 15 3 163,tL 167 166 163,tM 168 9 163,tT 169 (bI .sub 168 1) 163,tT 170 (.indexAddr 7 (.t 167) (.t 169)) 163,tT 171 (.fieldAddr 6 (.t 170)) 163,tL 172 171 163,tT 173 (bT .lss 165 172) 163,fT 174 (.pick (.t 163) (.t 173) cF) 160,vO 175 160 174] (cS 175 (rs [oV 4 (.move cF)] .ret))))) (rg [oT 176 (.bin .add (.v 144) (cI 1)),oN 144 176]))))))) (rs [oV 4 (.move cT)] .ret))))))
def vf51:=mF 2 [.tmp (.v 4)] (iv [0,7,68,4,130,4,142,4] [8,9,10,37,66,127,139,175]) Ex
def Tv:VCode:=rs [oV 2 (.newArr 7)] (rs [oM 9 0,oT 10 (kT 9),oQ 11 0 10,oQ 12 7 11,oL 13 12,oI 14 13,oT 15 (kT 9),oQ 16 0 15,oQ 17 7 16,sT 1 17 14] (sq (rs [oM 18 0,oT 19 (kT 18),oQ 20 0 19,oQ 21 11 20,oL 22 21,oV 23 (lT 22),oJ 24 0] (.block 0 (.loop (rs [oV 25 (.bin .lss (.v 24) (.v 23))] (sq (cE 25 0) (sq (.block 1 (rs [oM 26 24,oN 3 26] (rs [oM 27 0,oT 28 (kT 27),oQ 29 0 28,oQ 30 11 29,oL 31 30,oM 32 3,oA 33 21 31 32,oN 4 33] (rs [oM 34 4,oT 35 (kT 34),oQ 36 1 35,oM 37 4,oT 38 (kT 37),oQ 39 6 38,oM 40 4,oT 41 (kT 40),oQ 42 11 41,oM 43 4,oT 44 (kT 43),oQ 45 16 44,oV 46 (.buildPtrs [.t 36,.t 39,.t 42,.t 45]),oV 47 (.len (.v 46)),oJ 48 0] (.block 2 (.loop (rs [oV 49 (.bin .lss (.v 48) (.v 47))] (sq (cE 49 2) (sq (.block 3 (rs [oT 50 (.indexAddr 1 (.v 46) (.v 48)),oL 51 50,oN 6 51] (rg [oM 53 6,oM 54 6,oT 55 (kT 54),oR 56 5 55,oM 57 0,oT 58 (kT 57),oQ 59 0 58,oQ 60 7 59,oL 61 60,oC 62 115 [56,61],oP 52 62,oE 63 52 0,oE 64 52 1,oT 65 (kT 53),sT 5 65 63]))) (rg [oT 66 (.bin .add (.v 48) (cI 1)),oN 48 66])))))))))) (rg [oT 67 (.bin .add (.v 24) (cI 1)),oN 24 67]))))))) (rs [oJ 7 0] (sq (.block 4 (.loop (sq (rs [oM 68 7,oM 69 0,oT 70 (kT 69),oQ 71 0 70,oQ 72 15 71,oL 73 72,oY 74 73,oT 75 (bT .lss 68 74),oP 76 75,tM 77 0 76,tT 78 (kT 77) 76,tT 79 (.fieldAddr 0 (.t 78)) 76,tT 80 (.fieldAddr 15 (.t 79)) 76,tL 81 80 76,tM 82 7 76,tT 83 (.indexAddr 7 (.t 81) (.t 82)) 76,tT 84 (.fieldAddr 6 (.t 83)) 76,tL 85 84 76,tM 86 0 76,tT 87 (kT 86) 76,tT 88 (.fieldAddr 0 (.t 87)) 76,tT 89 (.fieldAddr 7 (.t 88)) 76,tL 90 89 76,tT 91 (bT .leq 85 90) 76,vB 92 76 91] (cE 92 4)) (.block 5 (rg [oM 93 7,oI 94 93,oN 7 94]))))) (rs [oM 95 0,oT 96 (kT 95),oQ 97 0 96,oQ 98 15 97,oL 99 98,oM 100 7,oT 101 (.slice false 7 none (some (.t 100)) none (.t 99)),oC 102 108 [101],oN 8 102] (rs [oM 103 0,oM 104 0,oT 105 (kT 104),oQ 106 0 105,oQ 107 15 106,oL 108 107,oM 109 7,oT 110 (.callW 116 [.t 108,.c (.int .i64 0),.t 109]),oT 111 (kT 103),oQ 112 0 111,oQ 113 15 112,sT 1 113 110] (rs [oM 114 8,oN 2 114] .ret)))))))
def vf52:=mF 1 [.tmp (.v 2)] (iv [46,4] [0,2,3,4,6,7,8,23,24,25,92]) Tv
def Tu:VCode:=rs [oX 4 2 0,oJ 8 0,oV 9 (.move cF)] (rs [oJ 10 0] (sq (rs [oV 15 (.move (.v 2)),oV 16 (.len (.v 15)),oJ 17 0] (.block 0 (.loop (rs [oV 18 (.bin .lss (.v 17) (.v 16))] (sq (cE 18 0) (sq (.block 1 (rs [oT 19 (.indexAddr 1 (.v 15) (.v 17)),oL 20 19,oN 12 20] (sq (rs [oK 21 2 4,oM 22 1,oM 23 12,oM 24 3,oC 25 117 [21,22,23,24],oV 26 (nT 25)] (cS 26 (.exit 1))) (rs [oM 27 1,oM 28 12,oC 29 118 [27,28],oM 30 1,oM 31 10,oC 32 118 [30,31],oN 13 29,oN 14 32] (rs [oM 33 10,oT 34 (bI .eql 33 0),oP 35 34,fM 36 13 35,fM 37 14 35,fT 38 (bT .lss 36 37) 35,oO 39 35 38,oP 40 39,fM 41 13 40,fM 42 14 40,fT 43 (bT .eql 41 42) 40,fT 44 (.move (.t 43)) 40,tM 45 12 44,tM 46 10 44,tT 47 (bT .lss 45 46) 44,fT 48 (.pick (.t 44) (.t 47) cF) 40,vO 49 40 48] (cS 49 (rg [oM 50 12,oN 10 50]))))))) (rg [oT 51 (.bin .add (.v 17) (cI 1)),oN 17 51]))))))) (rs [oM 52 10,oM 53 10,oT 54 (bI .neq 53 0),oN 8 52,oN 9 54] .ret)))
def vf53:=mF 4 [.tmp (.v 8),.tmp (.v 9)] (iv [0,5,12,7] [8,9,10,26,49]) Tu
def Tt:VCode:=rs [oV 2 (.newArr 1)] (rs [oT 7 (.makeMap (.int .i64)),oN 3 7] (rs [oV 4 (.newArr 1)] (sq (rs [oM 8 0,oT 9 (kT 8),oQ 10 0 9,oQ 11 14 10,oV 12 (.load none (.t 11)),oV 13 (.len (.v 12)),oJ 14 0] (.block 0 (.loop (rs [oV 15 (.bin .lss (.v 14) (.v 13))] (sq (cE 15 0) (sq (.block 1 (rs [oT 16 (.indexAddr 6 (.v 12) (.v 14)),oR 17 6 16,oV 6 (.alloc [cZ,cZ,cZ,cZ,.c (.bool false),cZ]),oS 6 6 17] (sq (rs [oM 18 3,oF 19 1 6,oL 20 19,oT 21 (.lookup false (.int .i64) (.bool false) (.t 18) (.t 20)),oT 22 (nT 21),oP 23 22,tM 24 0 23,tT 25 (ldV 6 6) 23,tT 26 (.callR 119 [.t 24,.t 25]) 23,vB 27 23 26] (cS 27 (rg [oM 28 4,oF 29 1 6,oL 30 29,oT 31 (.buildSlice 1 [.t 30]),oT 32 (.append 1 8 (.t 28) (.t 31)),oN 4 32]))) (rg [oM 33 3,oF 34 1 6,oL 35 34,oZ (.mapUpdate (.int .i64) (.t 33) (.t 35) cT)])))) (rg [oT 36 (.bin .add (.v 14) (cI 1)),oN 14 36]))))))) (rs [oM 37 4,oT 38 (cW 120 [37])] (rs [oM 39 4,oN 2 39] .ret)))))
def vf54:=mF 1 [.tmp (.v 2)] (iv [12,4] [0,2,3,4,6,27]) Tt
def Mq:VCode:=rs [oX 3 1 1,oV 4 (.move cF)] (rs [oM 15 0,oT 16 (kT 15),oQ 17 0 16,oQ 18 14 17,oL 19 18,oT 20 (.makeFunc 122 [.v 3]),oC 21 121 [19,20],oN 5 21] (rs [oM 22 0,oT 23 (kT 22),oQ 24 0 23,oQ 25 14 24,oL 26 25,oM 27 5,oA 28 6 26 27,oR 29 6 28,oV 6 (.alloc [cZ,cZ,cZ,cZ,.c (.bool false),cZ]),oS 6 6 29] (rs [oM 31 0,oT 32 (kT 31),oQ 33 0 32,oQ 34 0 33,oQ 35 0 34,oR 36 5 35,oK 37 6 6,oM 38 0,oT 39 (kT 38),oQ 40 0 39,oQ 41 9 40,oL 42 41,oC 43 123 [36,37,42],oP 30 43,oE 44 30 0,oE 45 30 1,oN 7 44,oP 8 45] (rs [oM 46 7,oT 47 (.minmax true [.t 46,.c (.int .i64 1)]),oN 7 47] (sq (.region ⟨[oM 49 0,oT 50 (kT 49),oQ 51 16 50,oR 52 2 51,oM 53 0,oT 54 (kT 53),oQ 55 0 54,oQ 56 10 55,oL 57 56,oM 58 0,oT 59 (.callA 125 [.t 58]),oT 60 (.load none (.v 3)),oC 61 124 [52,57,59,60],oP 48 61,oE 62 48 0,oE 63 48 1,oN 9 62,oP 10 63],[],[(3,10),(8,10),(10,11)]⟩) (rs [oM 65 0,oT 66 (kT 65),oQ 67 16 66,oR 68 2 67,oM 69 0,oT 70 (kT 69),oQ 71 0 70,oQ 72 13 71,oL 73 72,oT 74 (.load none (.v 3)),oM 75 9,oM 76 7,oM 77 0,oT 78 (kT 77),oQ 79 0 78,oQ 80 7 79,oL 81 80,oM 82 0,oT 83 (kT 82),oQ 84 0 83,oQ 85 0 84,oQ 86 5 85,oL 87 86,oT 88 (bT .mul 81 87),oM 89 0,oT 90 (kT 89),oQ 91 0 90,oQ 92 0 91,oQ 93 6 92,oL 94 93,oC 95 126 [68,73,74,75,76,88,94],oP 64 95,oE 96 64 0,oE 97 64 1,oN 11 96,oN 12 97] (sq (rs [oM 98 12,oV 99 (bI .neq 98 0)] (cS 99 (rs [oV 4 (.move cF)] .ret))) (rs [oM 100 0,oM 101 11,oT 102 (kT 100),oQ 103 0 102,oQ 104 13 103,sT 1 104 101] (rs [oM 105 0,oK 106 6 6,oT 107 (cW 127 [105,106])] (rs [oM 108 0,oM 109 0,oT 110 (kT 109),oQ 111 0 110,oQ 112 14 111,oL 113 112,oM 114 5,oM 115 5,oI 116 115,oT 117 (cW 128 [113,114,116]),oT 118 (kT 108),oQ 119 0 118,oQ 120 14 119,sT 1 120 117] (rs [oM 121 0,oF 122 2 6,oL 123 122,oF 124 3 6,oL 125 124,oT 126 (bT .add 123 125),oT 127 (kT 121),oQ 128 0 127,oQ 129 9 128,sT 1 129 126] (rs [oM 130 0,oM 131 0,oT 132 (kT 131),oQ 133 0 132,oQ 134 8 133,oL 135 134,oM 136 0,oT 137 (kT 136),oQ 138 0 137,oQ 139 7 138,oL 140 139,oT 141 (bI .sub 140 1),oM 142 0,oT 143 (kT 142),oQ 144 0 143,oQ 145 0 144,oQ 146 5 145,oL 147 146,oT 148 (bT .mul 141 147),oT 149 (.minmax true [.t 135,.t 148]),oM 150 7,oT 151 (bT .add 149 150),oT 152 (kT 130),oQ 153 0 152,oQ 154 8 153,sT 1 154 151] (rs [oM 155 0,oT 156 (kT 155),oQ 157 0 156,oQ 158 7 157,oL 159 158,oI 160 159,oM 161 0,oT 162 (kT 161),oQ 163 0 162,oQ 164 8 163,oL 165 164,oM 166 0,oT 167 (kT 166),oQ 168 0 167,oQ 169 0 168,oQ 170 5 169,oL 171 170,oT 172 (bT .add 165 171),oT 173 (bI .sub 172 1),oM 174 0,oT 175 (kT 174),oQ 176 0 175,oQ 177 0 176,oQ 178 5 177,oL 179 178,oT 180 (bT .quo 173 179),oT 181 (.minmax true [.t 160,.t 180]),oN 13 181] (rs [oM 182 0,oT 183 (kT 182),oQ 184 0 183,oQ 185 15 184,oL 186 185,oY 187 186,oN 14 187] (sq (.block 0 (.loop (sq (rs [oM 188 14,oT 189 (bI .gtr 188 0),oP 190 189,tM 191 0 190,tT 192 (kT 191) 190,tT 193 (.fieldAddr 0 (.t 192)) 190,tT 194 (.fieldAddr 15 (.t 193)) 190,tL 195 194 190,tM 196 14 190,tT 197 (bI .sub 196 1) 190,tT 198 (.indexAddr 7 (.t 195) (.t 197)) 190,tT 199 (.fieldAddr 6 (.t 198)) 190,tL 200 199 190,tM 201 13 190,tT 202 (bT .gtr 200 201) 190,vB 203 190 202] (cE 203 0)) (.block 1 (rg [oM 204 14,oT 205 (bI .sub 204 1),oN 14 205]))))) (sq (.region ⟨[oM 206 0,oM 207 0,oT 208 (kT 207),oQ 209 0 208,oQ 210 15 209,oL 211 210,oM 212 14,oK 213 6 6,oM 214 13,oT 215 (.build [aT 213 0 6,aT 213 1 6,aT 213 2 6,aT 213 3 6,aT 213 4 6,aT 213 5 6,aT 214 0 1]),oT 216 (.buildSlice 7 [.t 215]),oT 217 (cW 129 [211,212,216]),oT 218 (kT 206),oQ 219 0 218,oQ 220 15 219,sT 1 220 217],[],[(5,9),(5,10)]⟩) (rs [oV 4 (.move cT)] .ret)))))))))))))))))
def vf55:=mF 2 [.tmp (.v 4)] (iv [3,5,11,4] [0,1,9,99,203]) Mq
def J2:VCode:=rs [oX 4 2 0,oV 8 (.move cF)] (rs [oK 9 2 4,oM 10 1,oC 11 130 [9,10],oP 12 11,tT 13 (ldV 2 4) 12,tM 14 2 12,tT 15 (cC 83 [13,14]) 12,oB 16 12 15,oP 17 16,tM 18 1 17,tM 19 2 17,tT 20 (cC 57 [18,19]) 17,tM 21 3 17,tT 22 (bT .leq 20 21) 17,oB 23 17 22,oN 8 23] .ret)
def vf56:=mF 4 [.tmp (.v 8)] (iv [0,5] [8]) J2
def Ts:VCode:=rs [oJ 4 0] (sq (rs [oJ 5 0] (.block 0 (.loop (sq (rs [oM 6 5,oM 7 0,oY 8 7,oU 9 6 8] (cE 9 0)) (sq (.block 1 (rs [oM 12 0,oM 13 5,oA 14 2 12 13,oQ 15 0 14,oL 16 15,oM 17 1,oV 18 (bT .eql 16 17)] (cS 18 (rs [oM 19 0,oM 20 5,oA 21 2 19 20,oQ 22 1 21,oL 23 22,oN 4 23] .ret)))) (rg [oM 10 5,oI 11 10,oN 5 11])))))) (rs [oJ 4 0] .ret))
def vf57:=mF 2 [.tmp (.v 4)] [0,1,4,5,9,18] Ts
def Ik:VCode:=rs [oX 4 2 0,oX 5 16 1,oX 7 7 3,oV 8 (.alloc [cZ,cZ,cZ,cZ,cZ,cZ,cZ,cZ,cZ,cZ,.nil 2,.nil 21,.nil 3,.nil 2,.nil 6,.nil 7]),oJ 9 0] (rs [oF 11 0 7,oZ (.store 1 (.t 11) (cI 0))] (sq (.block 0 (rs [oK 13 2 4,oK 14 16 5,oC 15 84 [13,14],oT 16 (nT 15),oN 12 16] (.cond (.v 12) (rs [oT 17 (.build [zZ,zZ,zZ,zZ,zZ,zZ,zZ,zZ,zZ,zZ,zN 2,zN 21,zN 3,zN 2,zN 6,zN 7]),oS 16 8 17,oJ 9 1] .ret) (rs [oK 19 2 4,oM 20 2,oC 21 83 [19,20],oT 22 (nT 21),oN 18 22] (.cond (.v 18) (rs [oT 23 (.build [zZ,zZ,zZ,zZ,zZ,zZ,zZ,zZ,zZ,zZ,zN 2,zN 21,zN 3,zN 2,zN 6,zN 7]),oS 16 8 23,oJ 9 4] .ret) (rs [oK 25 7 7,oT 26 (.buildFz 7 [.t 25]),oC 27 85 [26],oT 28 (nT 27),oN 24 28] (cS 24 (rs [oT 29 (.build [zZ,zZ,zZ,zZ,zZ,zZ,zZ,zZ,zZ,zZ,zN 2,zN 21,zN 3,zN 2,zN 6,zN 7]),oS 16 8 29,oJ 9 3] .ret)))))))) (rs [oK 30 16 5,oC 31 69 [30],oS 16 5 31] (rs [oF 32 10 5,oL 33 32,oM 34 2,oF 35 1 7,oL 36 35,oC 37 131 [33,34,36],oF 38 10 5,sT 1 38 37] (rs [oK 39 16 5,oM 40 2,oK 41 7 7,oC 42 132 [39,40,41],oF 43 11 5,sT 1 43 42] (rs [oF 44 12 5,oL 45 44,oM 46 2,oC 47 27 [45,46],oV 10 (.alloc [cZ,cZ,cZ]),oS 3 10 47] (rs [oF 48 6 7,oL 49 48,oF 50 1 10,sT 1 50 49] (rs [oF 51 12 5,oL 52 51,oK 53 3 10,oC 54 133 [52,53],oF 55 12 5,sT 1 55 54] (rs [oK 56 16 5,oS 16 8 56,oJ 9 0] .ret)))))))))
def vf58:=mF 4 [.cell (.v 8) (some 16),.tmp (.v 9)] (iv [0,6,7,4] [12,18,24]) Ik
def J1:VCode:=rs [oX 3 2 0,oX 4 16 1,oX 5 6 2,oV 6 (.alloc [cZ,cZ,cZ,cZ,cZ,cZ,cZ,cZ,cZ,cZ,.nil 2,.nil 21,.nil 3,.nil 2,.nil 6,.nil 7]),oJ 7 0] (sq (rs [oK 9 2 3,oK 10 16 4,oK 11 6 5,oC 12 134 [9,10,11],oN 8 12] (rs [oM 13 8,oV 14 (bI .neq 13 0)] (cS 14 (rs [oT 15 (.build [zZ,zZ,zZ,zZ,zZ,zZ,zZ,zZ,zZ,zZ,zN 2,zN 21,zN 3,zN 2,zN 6,zN 7]),oM 16 8,oS 16 6 15,oN 7 16] .ret)))) (sq (rs [oF 17 14 4,oL 18 17,oY 19 18,oF 20 15 4,oL 21 20,oY 22 21,oT 23 (bT .add 19 22),oV 24 (bI .geq 23 256)] (cS 24 (rs [oT 25 (.build [zZ,zZ,zZ,zZ,zZ,zZ,zZ,zZ,zZ,zZ,zN 2,zN 21,zN 3,zN 2,zN 6,zN 7]),oS 16 6 25,oJ 7 7] .ret))) (rs [oK 26 16 4,oC 27 69 [26],oS 16 4 27] (rs [oF 28 7 4,oL 29 28,oF 30 5 5,sT 1 30 29] (rs [oF 31 14 4,oL 32 31,oK 33 6 5,oT 34 (.buildSlice 6 [.t 33]),oT 35 (.append 6 48 (.t 32) (.t 34)),oF 36 14 4,sT 1 36 35] (rs [oK 37 16 4,oS 16 6 37,oJ 7 0] .ret))))))
def vf59:=mF 3 [.cell (.v 6) (some 16),.tmp (.v 7)] (iv [0,9] [14,24]) J1
def J0:VCode:=rs [oX 2 2 0,oX 3 16 1,oV 4 (.alloc [cZ,cZ,cZ,cZ,cZ,cZ,cZ,cZ,cZ,cZ,.nil 2,.nil 21,.nil 3,.nil 2,.nil 6,.nil 7]),oV 5 (.newArr 7),oJ 6 0] (sq (rs [oK 15 2 2,oK 16 16 3,oC 17 84 [15,16],oV 18 (nT 17)] (cS 18 (rs [oT 19 (.build [zZ,zZ,zZ,zZ,zZ,zZ,zZ,zZ,zZ,zZ,zN 2,zN 21,zN 3,zN 2,zN 6,zN 7]),oS 16 4 19,oV 5 (.newArr 7),oJ 6 1] .ret))) (sq (rs [oF 20 7 3,oL 21 20,oV 22 (bI .eql 21 1048576)] (cS 22 (rs [oT 23 (.build [zZ,zZ,zZ,zZ,zZ,zZ,zZ,zZ,zZ,zZ,zN 2,zN 21,zN 3,zN 2,zN 6,zN 7]),oS 16 4 23,oV 5 (.newArr 7),oJ 6 3] .ret))) (rs [oK 24 16 3,oC 25 69 [24],oS 16 3 25] (rs [oF 26 7 3,oL 27 26,oI 28 27,oF 29 7 3,sT 1 29 28] (sq (rs [oJ 7 0] (.block 0 (.loop (sq (sq (.region ⟨[oM 30 7,oF 31 11 3,oL 32 31,oY 33 32,oU 34 30 33],[42],[]⟩) (cE 34 0)) (sq (.block 1 (rs [oF 37 11 3,oL 38 37,oM 39 7,oA 40 21 38 39,oR 41 21 40,oC 42 135 [41],oN 8 42] (sq (rs [oJ 9 0] (.block 2 (.loop (sq (rs [oM 43 9,oV 44 (bI .lss 43 4)] (cE 44 2)) (sq (.block 3 (rg [oM 48 8,oM 49 9,oM 50 8,oM 51 9,oA 52 5 50 51,oR 53 5 52,oF 54 7 3,oL 55 54,oC 56 136 [53,55],oP 47 56,oE 57 47 0,oE 58 47 1,oA 59 5 48 49,sT 5 59 57])) (rg [oM 45 9,oI 46 45,oN 9 46])))))) (.region ⟨[oF 60 11 3,oL 61 60,oM 62 7,oF 63 11 3,oL 64 63,oM 65 7,oA 66 21 64 65,oQ 67 0 66,oL 68 67,oM 69 8,oC 70 137 [68,69],oA 71 21 61 62,sT 21 71 70],[],[(1,10)]⟩)))) (rg [oM 35 7,oI 36 35,oN 7 36])))))) (rs [oJ 10 0] (sq (.block 4 (.loop (sq (rs [oM 72 10,oF 73 15 3,oL 74 73,oY 75 74,oT 76 (bT .lss 72 75),oP 77 76,tF 78 15 3 77,tL 79 78 77,tM 80 10 77,tT 81 (.indexAddr 7 (.t 79) (.t 80)) 77,tT 82 (.fieldAddr 6 (.t 81)) 77,tL 83 82 77,tF 84 7 3 77,tL 85 84 77,tT 86 (bT .leq 83 85) 77,vB 87 77 86] (cE 87 4)) (.block 5 (rg [oM 88 10,oI 89 88,oN 10 89]))))) (rs [oF 90 15 3,oL 91 90,oM 92 10,oT 93 (.slice false 7 none (some (.t 92)) none (.t 91)),oT 94 (.appendNil 7 56 (.t 93)),oN 11 94] (rs [oF 95 15 3,oL 96 95,oM 97 10,oT 98 (.slice false 7 (some (.t 97)) none none (.t 96)),oT 99 (.appendNil 7 56 (.t 98)),oF 100 15 3,sT 1 100 99] (sq (.block 6 (.loop (sq (sq (.region ⟨[oF 101 8 3,oL 102 101,oF 103 7 3,oL 104 103,oF 105 0 3,oQ 106 5 105,oL 107 106,oT 108 (bT .mul 104 107),oU 109 102 108],[14,25,99,116,132],[]⟩) (cE 109 6)) (.block 7 (sq (.region ⟨[oK 111 2 2,oF 112 13 3,oL 113 112,oK 114 2 2,oK 115 16 3,oC 116 138 [114,115],oF 117 7 3,oL 118 117,oF 119 0 3,oQ 120 5 119,oL 121 120,oT 122 (bT .mul 118 121),oC 123 21 [111,113,116,122],oP 110 123,oE 124 110 0,oE 125 110 1,oN 12 124,oN 13 125],[],[(0,5),(2,5),(5,7),(5,10)]⟩) (sq (rs [oM 126 13,oV 127 (nT 126)] (cS 127 (.exit 6))) (rs [oK 129 2 2,oK 130 16 3,oM 131 12,oC 132 139 [129,130,131],oP 128 132,oE 133 128 0,oE 134 128 1,oV 14 (.alloc [cZ,cZ,cZ,cZ,cZ,cZ,cZ,cZ,cZ,cZ,.nil 2,.nil 21,.nil 3,.nil 2,.nil 6,.nil 7]),oS 16 14 133,oN 13 134] (sq (rs [oM 135 13,oV 136 (nT 135)] (cS 136 (.exit 6))) (rg [oK 137 16 14,oS 16 3 137]))))))))) (rs [oK 138 16 3,oM 139 11,oS 16 4 138,oN 5 139,oJ 6 0] .ret)))))))))))
def vf60:=mF 2 [.cell (.v 4) (some 16),.tmp (.v 5),.tmp (.v 6)] (iv [0,15] [18,22,34,44,87,109,127,136]) J0
def Tq:VCode:=rs [oV 4 (.move cF)] (sq (rs [oJ 5 0] (.block 0 (.loop (sq (rs [oM 6 5,oM 7 0,oY 8 7,oU 9 6 8] (cE 9 0)) (sq (.block 1 (rs [oM 12 0,oM 13 5,oA 14 1 12 13,oL 15 14,oM 16 1,oV 17 (bT .eql 15 16)] (cS 17 (rs [oV 4 (.move cT)] .ret)))) (rg [oM 10 5,oI 11 10,oN 5 11])))))) (rs [oV 4 (.move cF)] .ret))
def vf61:=mF 2 [.tmp (.v 4)] [0,1,4,5,9,17] Tq
def Tp:VCode:=rs [oX 2 2 0,oV 4 (.newArr 1)] (sq (rs [oK 5 2 2,oM 6 1,oC 7 83 [5,6],oV 8 (nT 7)] (cS 8 (rs [oV 4 (.newArr 1)] .ret))) (rs [oK 9 2 2,oM 10 1,oC 11 140 [9,10],oN 4 11] .ret))
def vf62:=mF 2 [.tmp (.v 4)] [0,1,2,4,8] Tp
def JZ:VCode:=rs [oX 1 7 0,oV 2 (.move cF)] (rs [oF 3 0 1,oR 4 5 3,oC 5 141 [4],oP 6 5,tF 7 5 1 6,tL 8 7 6,tT 9 (.call 109 [.t 8,.c (.int .i64 1),.c (.int .i64 1000000)]) 6,oB 10 6 9,oP 11 10,tF 12 6 1 11,tL 13 12 11,tT 14 (.call 109 [.t 13,.c (.int .i64 0),.c (.int .i64 1073741824)]) 11,oB 15 11 14,oN 2 15] .ret)
def vf63:=mF 1 [.tmp (.v 2)] [0,1,2] JZ
def To:VCode:=rs [oV 4 (.move cF)] (sq (rs [oM 6 0,oY 7 6,oM 8 1,oY 9 8,oV 10 (bT .neq 7 9)] (cS 10 (rs [oV 4 (.move cF)] .ret))) (sq (rs [oJ 5 0] (.block 0 (.loop (sq (rs [oM 11 5,oM 12 0,oY 13 12,oU 14 11 13] (cE 14 0)) (sq (.block 1 (rs [oM 17 0,oM 18 5,oA 19 2 17 18,oR 20 2 19,oM 21 1,oM 22 5,oA 23 2 21 22,oR 24 2 23,oV 25 (.eqAgg true [(.int .i64),(.int .i64)] (.t 20) (.t 24))] (cS 25 (rs [oV 4 (.move cF)] .ret)))) (rg [oM 15 5,oI 16 15,oN 5 16])))))) (rs [oV 4 (.move cT)] .ret)))
def vf64:=mF 2 [.tmp (.v 4)] [0,1,4,5,10,14,25] To
def Tn:VCode:=rs [oV 4 (.move cF)] (sq (rs [oM 6 0,oY 7 6,oM 8 1,oY 9 8,oV 10 (bT .neq 7 9)] (cS 10 (rs [oV 4 (.move cF)] .ret))) (sq (rs [oJ 5 0] (.block 0 (.loop (sq (rs [oM 11 5,oM 12 0,oY 13 12,oU 14 11 13] (cE 14 0)) (sq (.block 1 (rs [oM 17 0,oM 18 5,oA 19 21 17 18,oR 20 21 19,oM 21 1,oM 22 5,oA 23 21 21 22,oR 24 21 23,oV 25 (.eqAgg true [(.int .i64),(.int .i64),(.int .i64),(.int .i64),(.int .i64),(.int .i64),(.int .i64),(.int .i64),(.int .i64),(.int .i64),(.int .i64),(.int .i64),(.int .i64),(.int .i64),(.int .i64),(.int .i64),(.int .i64),(.int .i64),(.int .i64),(.int .i64),(.int .i64)] (.t 20) (.t 24))] (cS 25 (rs [oV 4 (.move cF)] .ret)))) (rg [oM 15 5,oI 16 15,oN 5 16])))))) (rs [oV 4 (.move cT)] .ret)))
def vf65:=mF 2 [.tmp (.v 4)] [0,1,4,5,10,14,25] Tn
def Tm:VCode:=rs [oV 4 (.move cF)] (sq (rs [oM 6 0,oY 7 6,oM 8 1,oY 9 8,oV 10 (bT .neq 7 9)] (cS 10 (rs [oV 4 (.move cF)] .ret))) (sq (rs [oJ 5 0] (.block 0 (.loop (sq (rs [oM 11 5,oM 12 0,oY 13 12,oU 14 11 13] (cE 14 0)) (sq (.block 1 (rs [oM 17 0,oM 18 5,oA 19 3 17 18,oR 20 3 19,oM 21 1,oM 22 5,oA 23 3 21 22,oR 24 3 23,oV 25 (.eqAgg true [(.int .i64),(.int .i64),(.int .i64)] (.t 20) (.t 24))] (cS 25 (rs [oV 4 (.move cF)] .ret)))) (rg [oM 15 5,oI 16 15,oN 5 16])))))) (rs [oV 4 (.move cT)] .ret)))
def vf66:=mF 2 [.tmp (.v 4)] [0,1,4,5,10,14,25] Tm
def Tl:VCode:=rs [oV 4 (.move cF)] (sq (rs [oM 6 0,oY 7 6,oM 8 1,oY 9 8,oV 10 (bT .neq 7 9)] (cS 10 (rs [oV 4 (.move cF)] .ret))) (sq (rs [oJ 5 0] (.block 0 (.loop (sq (rs [oM 11 5,oM 12 0,oY 13 12,oU 14 11 13] (cE 14 0)) (sq (.block 1 (rs [oM 17 0,oM 18 5,oA 19 2 17 18,oR 20 2 19,oM 21 1,oM 22 5,oA 23 2 21 22,oR 24 2 23,oV 25 (.eqAgg true [(.int .i64),(.int .i64)] (.t 20) (.t 24))] (cS 25 (rs [oV 4 (.move cF)] .ret)))) (rg [oM 15 5,oI 16 15,oN 5 16])))))) (rs [oV 4 (.move cT)] .ret)))
def vf67:=mF 2 [.tmp (.v 4)] [0,1,4,5,10,14,25] Tl
def Tk:VCode:=rs [oV 4 (.move cF)] (sq (rs [oM 6 0,oY 7 6,oM 8 1,oY 9 8,oV 10 (bT .neq 7 9)] (cS 10 (rs [oV 4 (.move cF)] .ret))) (sq (rs [oJ 5 0] (.block 0 (.loop (sq (rs [oM 11 5,oM 12 0,oY 13 12,oU 14 11 13] (cE 14 0)) (sq (.block 1 (rs [oM 17 0,oM 18 5,oA 19 7 17 18,oR 20 7 19,oM 21 1,oM 22 5,oA 23 7 21 22,oR 24 7 23,oV 25 (.eqAgg true [(.int .i64),(.int .i64),(.int .i64),(.int .i64),.bool,(.int .i64),(.int .i64)] (.t 20) (.t 24))] (cS 25 (rs [oV 4 (.move cF)] .ret)))) (rg [oM 15 5,oI 16 15,oN 5 16])))))) (rs [oV 4 (.move cT)] .ret)))
def vf68:=mF 2 [.tmp (.v 4)] [0,1,4,5,10,14,25] Tk
def Tj:VCode:=rs [oX 1 16 0,oV 2 (.alloc [cZ,cZ,cZ,cZ,cZ,cZ,cZ,cZ,cZ,cZ,.nil 2,.nil 21,.nil 3,.nil 2,.nil 6,.nil 7])] (rs [oF 3 10 1,oL 4 3,oT 5 (.appendNil 2 16 (.t 4)),oF 6 10 1,sT 1 6 5] (rs [oF 7 11 1,oL 8 7,oT 9 (.appendNil 21 168 (.t 8)),oF 10 11 1,sT 1 10 9] (rs [oF 11 12 1,oL 12 11,oT 13 (.appendNil 3 24 (.t 12)),oF 14 12 1,sT 1 14 13] (rs [oF 15 13 1,oL 16 15,oT 17 (.appendNil 2 16 (.t 16)),oF 18 13 1,sT 1 18 17] (rs [oF 19 14 1,oL 20 19,oT 21 (.appendNil 6 48 (.t 20)),oF 22 14 1,sT 1 22 21] (rs [oF 23 15 1,oL 24 23,oT 25 (.appendNil 7 56 (.t 24)),oF 26 15 1,sT 1 26 25] (rs [oK 27 16 1,oS 16 2 27] .ret)))))))
def vf69:=mF 1 [.cell (.v 2) (some 16)] [0,1,2] Tj
def Ti:VCode:=rs [oX 1 2 0,oV 2 (.move cF)] (sq (rs [oF 6 0 1,oL 7 6,oY 8 7,oT 9 (bI .lss 8 1),oP 10 9,fF 11 0 1 10,fL 12 11 10,fT 13 (lT 12) 10,fT 14 (bI .gtr 13 64) 10,oO 15 10 14,oP 16 15,fF 17 0 1 16,fL 18 17 16,fT 19 (.indexAddr 6 (.t 18) (cI 0)) 16,fT 20 (.load (some 6) (.t 19)) 16,fT 21 (cC 142 [20]) 16,fT 22 (nT 21) 16,vO 23 16 22] (cS 23 (rs [oV 2 (.move cF)] .ret))) (rs [oT 24 (.makeMap (.int .i64)),oN 3 24] (sq (rs [oF 25 0 1,oV 26 (.load none (.t 25)),oV 27 (.len (.v 26)),oJ 28 0] (.block 0 (.loop (rs [oV 29 (.bin .lss (.v 28) (.v 27))] (sq (cE 29 0) (sq (.block 1 (rs [oM 30 28,oT 31 (.indexAddr 6 (.v 26) (.v 28)),oR 32 6 31,oV 5 (.alloc [.c (.int .i64 0),.c (.int .i64 0),.c (.str ⟨#[]⟩),.c (.int .i64 0),.c (.int .i64 0),.c (.int .i64 0)]),oN 4 30,oS 6 5 32] (sq (sq (.region ⟨[oF 33 3 5,oL 34 33,oT 35 (bI .lss 34 0),oP 36 35,fF 37 3 5 36,fL 38 37 36,fT 39 (bI .andNot 38 31) 36,fT 40 (bI .neq 39 0) 36,oO 41 36 40,oP 42 41,fF 43 5 5 42,fL 44 43 42,fT 45 (bI .lss 44 0) 42,oO 46 42 45,oP 47 46,fF 48 5 5 47,fL 49 48 47,fT 50 (bI .gtr 49 1048576) 47,oO 51 47 50,oP 52 51,fM 53 4 52,fT 54 (bI .gtr 53 0) 52,fT 55 (.move (.t 54)) 52,tF 56 0 1 55,tL 57 56 55,tM 58 4 55,tT 59 (.slice false 6 none (some (.t 58)) none (.t 57)) 55,tT 60 (ldV 6 5) 55,tT 61 (cC 143 [59,60]) 55,tT 62 (nT 61) 55,fT 63 (.pick (.t 55) (.t 62) cF) 52,vO 64 52 63],[],[(26,27)]⟩) (cS 64 (rs [oV 2 (.move cF)] .ret))) (sq (rs [oM 65 4,oV 66 (bI .gtr 65 0)] (cS 66 (rg [oM 67 3,oF 68 0 5,oL 69 68,oM 70 3,oF 71 1 5,oL 72 71,oT 73 (.lookup false (.int .i64) (.int .i64 0) (.t 70) (.t 72)),oI 74 73,oZ (.mapUpdate (.int .i64) (.t 67) (.t 69) (.t 74))]))) (rs [oM 75 3,oF 76 0 5,oL 77 76,oT 78 (.lookup false (.int .i64) (.int .i64 0) (.t 75) (.t 77)),oV 79 (bI .gtr 78 8)] (cS 79 (rs [oV 2 (.move cF)] .ret))))))) (rg [oT 80 (.bin .add (.v 28) (cI 1)),oN 28 80]))))))) (rs [oF 81 1 1,oL 82 81,oF 83 0 1,oL 84 83,oF 85 0 1,oL 86 85,oY 87 86,oT 88 (bI .sub 87 1),oA 89 6 84 88,oQ 90 0 89,oL 91 90,oT 92 (bT .gtr 82 91),oP 93 92,tF 94 1 1 93,tL 95 94 93,tT 96 (bI .leq 95 2147483648) 93,oB 97 93 96,oN 2 97] .ret))))
def vf70:=mF 1 [.tmp (.v 2)] (iv [0,6,26,4] [23,64,66,79]) Ti
def Th:VCode:=rs [oV 4 (.newArr 2)] (rs [oM 8 0,oM 9 1,oT 10 (.callR 144 [.t 8,.t 9]),oN 5 10] (sq (rs [oM 11 5,oV 12 (bI .eql 11 (-1))] (cS 12 (rs [oM 13 0,oN 4 13] .ret))) (sq (rs [oM 14 5,oI 15 14,oN 6 15] (.block 0 (.loop (sq (rs [oM 16 6,oM 17 0,oY 18 17,oU 19 16 18] (cE 19 0)) (sq (.block 1 (rs [oM 22 0,oM 23 6,oA 24 2 22 23,oR 25 2 24,oV 7 (.alloc [cZ,cZ]),oS 2 7 25] (rs [oM 26 1,oK 27 2 7,oT 28 (.callv (.t 26) [.t 27]),oV 29 (nT 28)] (cS 29 (rs [oM 30 0,oM 31 5,oK 32 2 7,oA 33 2 30 31,sT 2 33 32] (rg [oM 34 5,oI 35 34,oN 5 35])))))) (rg [oM 20 6,oI 21 20,oN 6 21])))))) (rs [oM 36 0,oM 37 5,oT 38 (.slice false 2 (some (.t 37)) none none (.t 36)),oZ (.clear 2 (.agg [.int .i64 0,.int .i64 0]) (.t 38))] (rs [oM 39 0,oM 40 5,oT 41 (.slice false 2 none (some (.t 40)) none (.t 39)),oN 4 41] .ret)))))
def vf71:=mF 2 [.tmp (.v 4)] [0,1,4,5,6,7,12,19,29] Th
def Tg:VCode:=rs [oX 2 2 0,oV 4 (.move cF)] (rs [oK 8 2 2,oM 9 1,oC 10 145 [8,9],oP 7 10,oE 11 7 0,oE 12 7 1,oT 5 (.alloc [.c (.int .i64 0),.c (.int .i64 0),.c (.str ⟨#[]⟩),.c (.int .i64 0),.c (.int .i64 0),.c (.int .i64 0)]),sT 6 5 11,oN 6 12] (rs [oM 13 6,oN 4 13] .ret))
def vf73:=mF 2 [.tmp (.v 4)] [0,1,2,4,6] Tg
def Tf:VCode:=rs [oV 4 (.newArr 3)] (rs [oM 8 0,oM 9 1,oT 10 (.callR 147 [.t 8,.t 9]),oN 5 10] (sq (rs [oM 11 5,oV 12 (bI .eql 11 (-1))] (cS 12 (rs [oM 13 0,oN 4 13] .ret))) (sq (rs [oM 14 5,oI 15 14,oN 6 15] (.block 0 (.loop (sq (rs [oM 16 6,oM 17 0,oY 18 17,oU 19 16 18] (cE 19 0)) (sq (.block 1 (rs [oM 22 0,oM 23 6,oA 24 3 22 23,oR 25 3 24,oV 7 (.alloc [cZ,cZ,cZ]),oS 3 7 25] (rs [oM 26 1,oK 27 3 7,oT 28 (.callv (.t 26) [.t 27]),oV 29 (nT 28)] (cS 29 (rs [oM 30 0,oM 31 5,oK 32 3 7,oA 33 3 30 31,sT 3 33 32] (rg [oM 34 5,oI 35 34,oN 5 35])))))) (rg [oM 20 6,oI 21 20,oN 6 21])))))) (rs [oM 36 0,oM 37 5,oT 38 (.slice false 3 (some (.t 37)) none none (.t 36)),oZ (.clear 3 (.agg [.int .i64 0,.int .i64 0,.int .i64 0]) (.t 38))] (rs [oM 39 0,oM 40 5,oT 41 (.slice false 3 none (some (.t 40)) none (.t 39)),oN 4 41] .ret)))))
def vf76:=mF 2 [.tmp (.v 4)] [0,1,4,5,6,7,12,19,29] Tf
def Te:VCode:=rs [oV 4 (.newArr 6)] (rs [oM 8 0,oM 9 1,oT 10 (.callR 121 [.t 8,.t 9]),oN 5 10] (sq (rs [oM 11 5,oV 12 (bI .eql 11 (-1))] (cS 12 (rs [oM 13 0,oN 4 13] .ret))) (sq (rs [oM 14 5,oI 15 14,oN 6 15] (.block 0 (.loop (sq (rs [oM 16 6,oM 17 0,oY 18 17,oU 19 16 18] (cE 19 0)) (sq (.block 1 (rs [oM 22 0,oM 23 6,oA 24 6 22 23,oR 25 6 24,oV 7 (.alloc [cZ,cZ,cZ,cZ,.c (.bool false),cZ]),oS 6 7 25] (rs [oM 26 1,oK 27 6 7,oT 28 (.callv (.t 26) [.t 27]),oV 29 (nT 28)] (cS 29 (rs [oM 30 0,oM 31 5,oK 32 6 7,oA 33 6 30 31,sT 6 33 32] (rg [oM 34 5,oI 35 34,oN 5 35])))))) (rg [oM 20 6,oI 21 20,oN 6 21])))))) (rs [oM 36 0,oM 37 5,oT 38 (.slice false 6 (some (.t 37)) none none (.t 36)),oZ (.clear 6 (.agg [.int .i64 0,.int .i64 0,.int .i64 0,.int .i64 0,.bool false,.int .i64 0]) (.t 38))] (rs [oM 39 0,oM 40 5,oT 41 (.slice false 6 none (some (.t 40)) none (.t 39)),oN 4 41] .ret)))))
def vf80:=mF 2 [.tmp (.v 4)] [0,1,4,5,6,7,12,19,29] Te
def Td:VCode:=rs [oX 1 2 0,oV 2 (.move cF)] (rs [oF 6 0 1,oL 7 6,oY 8 7,oN 3 8] (sq (rs [oM 9 3,oT 10 (bI .lss 9 1),oP 11 10,fM 12 3 11,fT 13 (bI .gtr 12 64) 11,vO 14 11 13] (cS 14 (rs [oV 2 (.move cF)] .ret))) (sq (rs [oJ 4 0] (.block 0 (.loop (sq (rs [oM 15 4,oM 16 3,oU 17 15 16] (cE 17 0)) (sq (.block 1 (rs [oK 20 2 1,oM 21 4,oC 22 149 [20,21],oV 23 (nT 22)] (cS 23 (rs [oV 2 (.move cF)] .ret)))) (rg [oM 18 4,oI 19 18,oN 4 19])))))) (sq (rs [oJ 5 0] (.block 2 (.loop (sq (sq (.region ⟨[oM 24 5,oM 25 3,oU 26 24 25],[36],[]⟩) (cE 26 2)) (sq (.block 3 (rs [oK 29 2 1,oF 30 0 1,oL 31 30,oM 32 5,oA 33 6 31 32,oQ 34 0 33,oL 35 34,oC 36 140 [29,35],oY 37 36,oV 38 (bI .gtr 37 9)] (cS 38 (rs [oV 2 (.move cF)] .ret)))) (rg [oM 27 5,oI 28 27,oN 5 28])))))) (rs [oF 39 1 1,oL 40 39,oF 41 0 1,oL 42 41,oM 43 3,oT 44 (bI .sub 43 1),oA 45 6 42 44,oQ 46 0 45,oL 47 46,oT 48 (bT .gtr 40 47),oP 49 48,tF 50 1 1 49,tL 51 50 49,tT 52 (bI .leq 51 2147483648) 49,oB 53 49 52,oN 2 53] .ret)))))
def vf82:=mF 1 [.tmp (.v 2)] (iv [0,6] [14,17,23,26,38]) Td
def Tc:VCode:=rs [oX 2 2 0,oV 4 (.move cF)] (rs [oK 8 2 2,oM 9 1,oC 10 150 [8,9],oP 7 10,oE 11 7 0,oE 12 7 1,oT 5 (.alloc [.c (.int .i64 0),.c (.int .i64 0),.c (.str ⟨#[]⟩),.c (.int .i64 0),.c (.int .i64 0),.c (.int .i64 0)]),sT 6 5 11,oN 6 12] (rs [oM 13 6,oN 4 13] .ret))
def vf83:=mF 2 [.tmp (.v 4)] [0,1,2,4,6] Tc
def Ij:VCode:=rs [oX 2 2 0,oX 3 16 1,oV 4 (.move cF)] (sq (rs [oK 12 2 2,oC 13 82 [12],oT 14 (nT 13),oP 15 14,fF 16 0 3 15,fT 17 (.load (some 7) (.t 16)) 15,fT 18 (cC 47 [17]) 15,fT 19 (nT 18) 15,oO 20 15 19,oP 21 20,fF 22 7 3 21,fL 23 22 21,fT 24 (bI .lss 23 0) 21,oO 25 21 24,oP 26 25,fF 27 7 3 26,fL 28 27 26,fT 29 (bI .gtr 28 1048576) 26,oO 30 26 29,oP 31 30,fF 32 8 3 31,fL 33 32 31,fT 34 (bI .lss 33 0) 31,oO 35 31 34,oP 36 35,fF 37 8 3 36,fL 38 37 36,fT 39 (bI .gtr 38 1125899906842624) 36,oO 40 36 39,oP 41 40,fF 42 9 3 41,fL 43 42 41,fT 44 (bI .lss 43 0) 41,oO 45 41 44,oP 46 45,fF 47 9 3 46,fL 48 47 46,fT 49 (bI .gtr 48 16777216) 46,oO 50 46 49,oP 51 50,fT 52 (ldV 2 2) 51,fF 53 10 3 51,fL 54 53 51,fT 55 (cC 151 [52,54]) 51,fT 56 (nT 55) 51,oO 57 51 56,oP 58 57,fT 59 (ldV 2 2) 58,fF 60 12 3 58,fL 61 60 58,fT 62 (cC 152 [59,61]) 58,fT 63 (nT 62) 58,oO 64 58 63,oP 65 64,fT 66 (ldV 2 2) 65,fF 67 13 3 65,fL 68 67 65,fT 69 (cC 130 [66,68]) 65,fT 70 (nT 69) 65,oO 71 65 70,oP 72 71,fF 73 14 3 72,fL 74 73 72,fT 75 (lT 74) 72,fF 76 15 3 72,fL 77 76 72,fT 78 (lT 77) 72,fT 79 (bT .add 75 78) 72,fT 80 (bI .gtr 79 256) 72,vO 81 72 80] (cS 81 (rs [oV 4 (.move cF)] .ret))) (sq (rs [oJ 5 0] (.block 0 (.loop (sq (sq (.region ⟨[oM 82 5,oF 83 11 3,oL 84 83,oY 85 84,oU 86 82 85],[116],[]⟩) (cE 86 0)) (sq (.block 1 (rs [oF 89 11 3,oL 90 89,oM 91 5,oA 92 21 90 91,oR 93 21 92,oV 6 (.alloc [cZ,cZ,cZ,cZ,cZ,cZ,cZ,cZ,cZ,cZ,cZ,cZ,cZ,cZ,cZ,cZ,cZ,cZ,cZ,cZ,cZ]),oS 21 6 93] (sq (rs [oK 94 2 2,oF 95 0 6,oL 96 95,oC 97 83 [94,96],oT 98 (nT 97),oP 99 98,fM 100 5 99,fT 101 (bI .gtr 100 0) 99,fT 102 (.move (.t 101)) 99,tF 103 0 6 102,tL 104 103 102,tF 105 11 3 102,tL 106 105 102,tM 107 5 102,tT 108 (bI .sub 107 1) 102,tT 109 (.indexAddr 21 (.t 106) (.t 108)) 102,tT 110 (.fieldAddr 0 (.t 109)) 102,tL 111 110 102,tT 112 (bT .leq 104 111) 102,fT 113 (.pick (.t 102) (.t 112) cF) 99,vO 114 99 113] (cS 114 (rs [oV 4 (.move cF)] .ret))) (rs [oK 115 21 6,oC 116 135 [115],oN 7 116] (rs [oJ 8 0] (.block 2 (.loop (sq (rs [oM 117 8,oM 118 7,oY 119 118,oU 120 117 119] (cE 120 2)) (sq (.block 3 (rs [oM 123 7,oM 124 8,oA 125 5 123 124,oR 126 5 125,oC 127 153 [126],oT 128 (nT 127),oP 129 128,fM 130 7 129,fM 131 8 129,fT 132 (.indexAddr 5 (.t 130) (.t 131)) 129,fT 133 (.fieldAddr 1 (.t 132)) 129,fL 134 133 129,fT 135 (bI .neq 134 100) 129,oO 136 129 135,oP 137 136,fM 138 7 137,fM 139 8 137,fT 140 (.indexAddr 5 (.t 138) (.t 139)) 137,fT 141 (.fieldAddr 4 (.t 140)) 137,fL 142 141 137,fF 143 7 3 137,fL 144 143 137,fT 145 (bT .neq 142 144) 137,vO 146 137 145] (cS 146 (rs [oV 4 (.move cF)] .ret)))) (rg [oM 121 8,oI 122 121,oN 8 122])))))))))) (rg [oM 87 5,oI 88 87,oN 5 88])))))) (sq (rs [oJ 9 0] (.block 4 (.loop (sq (rs [oM 147 9,oF 148 14 3,oL 149 148,oY 150 149,oU 151 147 150] (cE 151 4)) (sq (.block 5 (rs [oK 154 2 2,oF 155 14 3,oL 156 155,oM 157 9,oA 158 6 156 157,oR 159 6 158,oC 160 154 [154,159],oV 161 (nT 160)] (cS 161 (rs [oV 4 (.move cF)] .ret)))) (rg [oM 152 9,oI 153 152,oN 9 153])))))) (sq (rs [oJ 10 0] (.block 6 (.loop (sq (rs [oM 162 10,oF 163 15 3,oL 164 163,oY 165 164,oU 166 162 165] (cE 166 6)) (sq (.block 7 (rs [oF 169 15 3,oL 170 169,oM 171 10,oA 172 7 170 171,oR 173 7 172,oV 11 (.alloc [cZ,cZ,cZ,cZ,.c (.bool false),cZ,cZ]),oS 7 11 173] (rs [oK 174 2 2,oF 175 0 11,oR 176 6 175,oC 177 154 [174,176],oT 178 (nT 177),oP 179 178,fF 180 6 11 179,fL 181 180 179,fT 182 (bI .lss 181 0) 179,oO 183 179 182,oP 184 183,fF 185 6 11 184,fL 186 185 184,fT 187 (bI .gtr 186 1125899906842624) 184,oO 188 184 187,oP 189 188,fM 190 10 189,fT 191 (bI .gtr 190 0) 189,fT 192 (.move (.t 191)) 189,tF 193 6 11 192,tL 194 193 192,tF 195 15 3 192,tL 196 195 192,tM 197 10 192,tT 198 (bI .sub 197 1) 192,tT 199 (.indexAddr 7 (.t 196) (.t 198)) 192,tT 200 (.fieldAddr 6 (.t 199)) 192,tL 201 200 192,tT 202 (bT .lss 194 201) 192,fT 203 (.pick (.t 192) (.t 202) cF) 189,vO 204 189 203] (cS 204 (rs [oV 4 (.move cF)] .ret))))) (rg [oM 167 10,oI 168 167,oN 10 168])))))) (rs [oV 4 (.move cT)] .ret)))))
def vf84:=mF 2 [.tmp (.v 4)] (iv [0,12] [81,86,114,120,146,151,161,166,204]) Ij
def Tb:VCode:=rs [oV 2 (.move cF)] (sq (rs [oJ 3 0] (.block 0 (.loop (sq (rs [oM 5 3,oM 6 0,oY 7 6,oU 8 5 7] (cE 8 0)) (sq (.block 1 (rs [oM 11 0,oM 12 3,oA 13 7 11 12,oR 14 7 13,oV 4 (.alloc [cZ,cZ,cZ,cZ,cZ,cZ,cZ]),oS 7 4 14] (rs [oF 15 0 4,oL 16 15,oT 17 (bI .lss 16 0),oP 18 17,fF 19 0 4 18,fL 20 19 18,fT 21 (bI .geq 20 8) 18,oO 22 18 21,oP 23 22,fM 24 3 23,fT 25 (bI .gtr 24 0) 23,fT 26 (.move (.t 25)) 23,tF 27 0 4 26,tL 28 27 26,tM 29 0 26,tM 30 3 26,tT 31 (bI .sub 30 1) 26,tT 32 (.indexAddr 7 (.t 29) (.t 31)) 26,tT 33 (.fieldAddr 0 (.t 32)) 26,tL 34 33 26,tT 35 (bT .leq 28 34) 26,fT 36 (.pick (.t 26) (.t 35) cF) 23,oO 37 23 36,oP 38 37,fF 39 1 4 38,fL 40 39 38,fT 41 (bI .lss 40 1) 38,oO 42 38 41,oP 43 42,fF 44 1 4 43,fL 45 44 43,fT 46 (bI .gtr 45 10000) 43,oO 47 43 46,oP 48 47,fF 49 2 4 48,fL 50 49 48,fT 51 (.call 155 [.t 50,.c (.int .i64 1),.c (.int .i64 1073741824)]) 48,fT 52 (nT 51) 48,oO 53 48 52,oP 54 53,fF 55 3 4 54,fL 56 55 54,fT 57 (.call 155 [.t 56,.c (.int .i64 1),.c (.int .i64 1073741824)]) 54,fT 58 (nT 57) 54,oO 59 54 58,oP 60 59,fF 61 4 4 60,fL 62 61 60,fT 63 (.call 155 [.t 62,.c (.int .i64 1),.c (.int .i64 1073741824)]) 60,fT 64 (nT 63) 60,oO 65 60 64,oP 66 65,fF 67 5 4 66,fL 68 67 66,fT 69 (.call 155 [.t 68,.c (.int .i64 1),.c (.int .i64 1073741824)]) 66,fT 70 (nT 69) 66,oO 71 66 70,oP 72 71,fF 73 6 4 72,fL 74 73 72,fT 75 (bI .lss 74 0) 72,oO 76 72 75,oP 77 76,fF 78 6 4 77,fL 79 78 77,fT 80 (bI .gtr 79 1048576) 77,vO 81 77 80] (cS 81 (rs [oV 2 (.move cF)] .ret))))) (rg [oM 9 3,oI 10 9,oN 3 10])))))) (rs [oM 82 0,oY 83 82,oT 84 (bI .leq 83 8),oN 2 84] .ret))
def vf85:=mF 1 [.tmp (.v 2)] [0,2,3,4,8,81] Tb
def Mp:VCode:=rs [oX 4 1 1] (rs [oM 6 0,oM 7 0,oT 8 (kT 7),oQ 9 0 8,oQ 10 10 9,oL 11 10,oT 12 (.makeFunc 156 [.v 4]),oT 13 (cW 71 [11,12]),oT 14 (kT 6),oQ 15 0 14,oQ 16 10 15,sT 1 16 13] (rs [oM 17 2,oV 18 (bI .neq 17 100)] (cS 18 (sq (.region ⟨[oM 19 0,oM 20 0,oT 21 (kT 20),oQ 22 0 21,oQ 23 10 22,oL 24 23,oT 25 (.load none (.v 4)),oM 26 2,oT 27 (.build [aT 25 0 1,aT 26 0 1]),oT 28 (.buildSlice 2 [.t 27]),oT 29 (.append 2 16 (.t 24) (.t 28)),oT 30 (kT 19),oQ 31 0 30,oQ 32 10 31,sT 1 32 29],[],[(5,8),(5,9)]⟩) (rg [oM 33 0,oT 34 (kT 33),oQ 35 0 34,oQ 36 10 35,oL 37 36,oT 38 (.callW 157 [.t 37,.c (.fn 158)])])))))
def vf86:=mF 3 [] [0,1,2,4,18] Mp
def FB:VCode:=rs [oX 5 7 2] (rs [oM 9 0,oM 10 1,oT 11 (.callR 159 [.t 9,.t 10]),oN 6 11] (rs [oV 7 (.alloc [cZ,cZ,cZ,cZ,cZ,cZ,cZ,cZ,cZ,cZ,cZ,cZ,cZ,cZ,cZ,cZ,cZ,cZ,cZ,cZ,cZ])] (sq (rs [oM 12 6,oV 13 (bI .geq 12 0)] (cS 13 (rs [oM 14 0,oT 15 (kT 14),oQ 16 0 15,oQ 17 11 16,oL 18 17,oM 19 6,oA 20 21 18 19,oR 21 21 20,oS 21 7 21] (rg [oM 22 0,oM 23 0,oT 24 (kT 23),oQ 25 0 24,oQ 26 11 25,oL 27 26,oM 28 6,oM 29 6,oI 30 29,oT 31 (cW 160 [27,28,30]),oT 32 (kT 22),oQ 33 0 32,oQ 34 11 33,sT 1 34 31])))) (sq (rs [oF 35 2 5,oL 36 35,oT 37 (bI .eql 36 4611686018427387904),oP 38 37,tF 39 3 5 38,tL 40 39 38,tT 41 (bI .eql 40 4611686018427387904) 38,oB 42 38 41,oP 43 42,tF 44 4 5 43,tL 45 44 43,tT 46 (bI .eql 45 4611686018427387904) 43,oB 47 43 46,oP 48 47,tF 49 5 5 48,tL 50 49 48,tT 51 (bI .eql 50 4611686018427387904) 48,vB 52 48 51] (.cond (.v 52) .ret .skip)) (rs [oM 53 1,oT 54 (.build [aT 53 0 1,zZ,zZ,zZ,zZ,zZ,zZ,zZ,zZ,zZ,zZ,zZ,zZ,zZ,zZ,zZ,zZ,zZ,zZ,zZ,zZ]),oV 8 (.alloc [cZ,cZ,cZ,cZ,cZ,cZ,cZ,cZ,cZ,cZ,cZ,cZ,cZ,cZ,cZ,cZ,cZ,cZ,cZ,cZ,cZ]),oS 21 8 54] (rs [oM 55 0,oF 56 1 7,oR 57 5 56,oM 58 6,oT 59 (bI .geq 58 0),oF 60 2 5,oL 61 60,oT 62 (.callR 161 [.t 55,.t 57,.t 59,.t 61,.c (.int .i64 4096)]),oM 63 0,oF 64 6 7,oR 65 5 64,oM 66 6,oT 67 (bI .geq 66 0),oF 68 3 5,oL 69 68,oT 70 (.callR 161 [.t 63,.t 65,.t 67,.t 69,.c (.int .i64 4096)]),oF 71 1 8,sT 5 71 62,oF 72 6 8,sT 5 72 70] (rs [oM 73 0,oF 74 11 7,oR 75 5 74,oM 76 6,oT 77 (bI .geq 76 0),oF 78 4 5,oL 79 78,oT 80 (.callR 161 [.t 73,.t 75,.t 77,.t 79,.c (.int .i64 0)]),oM 81 0,oF 82 16 7,oR 83 5 82,oM 84 6,oT 85 (bI .geq 84 0),oF 86 5 5,oL 87 86,oT 88 (.callR 161 [.t 81,.t 83,.t 85,.t 87,.c (.int .i64 0)]),oF 89 11 8,sT 5 89 80,oF 90 16 8,sT 5 90 88] (sq (.region ⟨[oM 91 0,oM 92 0,oT 93 (kT 92),oQ 94 0 93,oQ 95 11 94,oL 96 95,oK 97 21 8,oT 98 (.buildSlice 21 [.t 97]),oT 99 (.append 21 168 (.t 96) (.t 98)),oT 100 (kT 91),oQ 101 0 100,oQ 102 11 101,sT 1 102 99],[],[(5,7)]⟩) (rg [oM 103 0,oT 104 (kT 103),oQ 105 0 104,oQ 106 11 105,oL 107 106,oT 108 (.callW 162 [.t 107,.c (.fn 163)])])))))))))
def vf87:=mF 3 [] [0,1,2,5,6,7,8,13,52] FB
def JY:VCode:=rs [oX 4 1 1] (sq (.region ⟨[oM 7 0,oT 8 (kT 7),oQ 9 0 8,oQ 10 12 9,oL 11 10,oT 12 (.load none (.v 4)),oC 13 164 [11,12],oV 6 (.alloc [cZ,cZ,cZ]),oS 3 6 13],[],[(4,7),(5,7),(6,7)]⟩) (rs [oM 14 2,oF 15 1 6,sT 1 15 14] (rs [oM 16 0,oM 17 0,oT 18 (kT 17),oQ 19 0 18,oQ 20 12 19,oL 21 20,oT 22 (.makeFunc 165 [.v 4]),oT 23 (cW 76 [21,22]),oT 24 (kT 16),oQ 25 0 24,oQ 26 12 25,sT 1 26 23] (rs [oF 27 1 6,oL 28 27,oT 29 (bI .neq 28 0),oP 30 29,fF 31 2 6 30,fL 32 31 30,fT 33 (bI .neq 32 256) 30,vO 34 30 33] (cS 34 (sq (.region ⟨[oM 35 0,oM 36 0,oT 37 (kT 36),oQ 38 0 37,oQ 39 12 38,oL 40 39,oK 41 3 6,oT 42 (.buildSlice 3 [.t 41]),oT 43 (.append 3 24 (.t 40) (.t 42)),oT 44 (kT 35),oQ 45 0 44,oQ 46 12 45,sT 1 46 43],[],[(5,7)]⟩) (rg [oM 47 0,oT 48 (kT 47),oQ 49 0 48,oQ 50 12 49,oL 51 50,oT 52 (.callW 166 [.t 51,.c (.fn 167)])])))))))
def vf88:=mF 3 [] [0,1,2,4,6,34] JY
def Ta:VCode:=rs [oJ 2 0] (rs [oM 3 0,oT 4 (.call 16 [.t 3,.c (.int .i64 1000)]),oT 5 (.bin .add (cI 1) (.t 4)),oT 6 (.buildSlice 1 [.c (.int .i64 1),.c (.int .i64 100),.c (.int .i64 300),.c (.int .i64 10000),.c (.int .i64 50),.c (.int .i64 200),.c (.int .i64 7),.t 5]),oM 7 0,oT 8 (.call 16 [.t 7,.c (.int .i64 8)]),oA 9 1 6 8,oL 10 9,oN 2 10] .ret)
def vf89:=mF 1 [.tmp (.v 2)] [0,2] Ta
def S9:VCode:=rs [oX 3 2 0,oX 4 16 1,oX 5 6 2,oV 6 (.move cF),oJ 7 0] (sq (rs [oK 9 2 3,oK 10 16 4,oK 11 6 5,oC 12 49 [9,10,11],oN 8 12] (rs [oM 13 8,oV 14 (bI .neq 13 0)] (cS 14 (rs [oM 15 8,oV 6 (.move cF),oN 7 15] .ret)))) (sq (.region ⟨[oK 16 2 3,oK 17 16 4,oC 18 50 [16,17],oK 19 6 5,oT 20 (.callR 119 [.t 18,.t 19]),oN 6 20,oJ 7 0],[],[(2,3)]⟩) .ret))
def vf90:=mF 3 [.tmp (.v 6),.tmp (.v 7)] (iv [0,9] [14]) S9
def S8:VCode:=rs [oX 3 2 0,oX 4 16 1,oX 5 6 2,oV 6 (.move cF),oJ 7 0] (sq (rs [oK 9 2 3,oK 10 16 4,oK 11 6 5,oC 12 134 [9,10,11],oN 8 12] (rs [oM 13 8,oV 14 (bI .neq 13 0)] (cS 14 (rs [oM 15 8,oV 6 (.move cF),oN 7 15] .ret)))) (rs [oK 16 2 3,oK 17 16 4,oK 18 6 5,oC 19 168 [16,17,18],oN 6 19,oJ 7 0] .ret))
def vf91:=mF 3 [.tmp (.v 6),.tmp (.v 7)] (iv [0,9] [14]) S8
def Mo:VCode:=rs [oX 2 2 0,oX 3 16 1,oV 4 (.newArr 1),oJ 5 0] (sq (rs [oK 6 2 2,oK 7 16 3,oC 8 84 [6,7],oV 9 (nT 8)] (cS 9 (rs [oV 4 (.newArr 1),oJ 5 1] .ret))) (rs [oK 10 2 2,oK 11 16 3,oC 12 138 [10,11],oN 4 12,oJ 5 0] .ret))
def vf92:=mF 2 [.tmp (.v 4),.tmp (.v 5)] (iv [0,6] [9]) Mo
def S7:VCode:=rs [oV 4 (.move cF)] (sq (rs [oM 6 0,oY 7 6,oM 8 1,oY 9 8,oV 10 (bT .neq 7 9)] (cS 10 (rs [oV 4 (.move cF)] .ret))) (sq (rs [oJ 5 0] (.block 0 (.loop (sq (rs [oM 11 5,oM 12 0,oY 13 12,oU 14 11 13] (cE 14 0)) (sq (.block 1 (rs [oM 17 0,oM 18 5,oA 19 1 17 18,oL 20 19,oM 21 1,oM 22 5,oA 23 1 21 22,oL 24 23,oV 25 (bT .neq 20 24)] (cS 25 (rs [oV 4 (.move cF)] .ret)))) (rg [oM 15 5,oI 16 15,oN 5 16])))))) (rs [oV 4 (.move cT)] .ret)))
def vf93:=mF 2 [.tmp (.v 4)] [0,1,4,5,10,14,25] S7
def S6:VCode:=rs [oX 2 16 0,oJ 4 0] (rs [oJ 5 0] (sq (rs [oJ 6 0] (.block 0 (.loop (sq (rs [oM 8 6,oF 9 14 2,oL 10 9,oY 11 10,oU 12 8 11] (cE 12 0)) (sq (.block 1 (rs [oF 15 14 2,oL 16 15,oM 17 6,oA 18 6 16 17,oQ 19 0 18,oL 20 19,oM 21 1,oV 22 (bT .eql 20 21)] (cS 22 (rg [oM 23 5,oI 24 23,oN 5 24])))) (rg [oM 13 6,oI 14 13,oN 6 14])))))) (sq (rs [oJ 7 0] (.block 2 (.loop (sq (rs [oM 25 7,oF 26 15 2,oL 27 26,oY 28 27,oU 29 25 28] (cE 29 2)) (sq (.block 3 (rs [oF 32 15 2,oL 33 32,oM 34 7,oA 35 7 33 34,oQ 36 0 35,oQ 37 0 36,oL 38 37,oM 39 1,oV 40 (bT .eql 38 39)] (cS 40 (rg [oM 41 5,oI 42 41,oN 5 42])))) (rg [oM 30 7,oI 31 30,oN 7 31])))))) (rs [oM 43 5,oN 4 43] .ret))))
def vf94:=mF 2 [.tmp (.v 4)] [0,1,2,4,5,6,7,12,22,29,40] S6
def S5:VCode:=rs [oX 2 16 0,oX 3 1 1,oV 4 (.alloc [cZ,cZ,cZ,cZ,cZ,cZ,cZ,cZ,cZ,cZ,.nil 2,.nil 21,.nil 3,.nil 2,.nil 6,.nil 7])] (rs [oT 6 (.build [.z (.c (.slice 6 [])),zZ]),oK 7 16 2,oC 8 50 [6,7],oN 5 8] (rs [oM 9 5,oM 10 5,oT 11 (kT 10),oQ 12 0 11,oQ 13 14 12,oL 14 13,oT 15 (.makeFunc 169 [.v 3]),oT 16 (cW 80 [14,15]),oT 17 (kT 9),oQ 18 0 17,oQ 19 14 18,sT 1 19 16] (rs [oM 20 5,oT 21 (kT 20),oQ 22 0 21,oR 23 16 22,oS 16 4 23] .ret)))
def vf95:=mF 2 [.cell (.v 4) (some 16)] (iv [0,6] []) S5
def S4:VCode:=rs [oX 2 16 0,oV 4 (.alloc [cZ,cZ,cZ,cZ,cZ,cZ,cZ,cZ,cZ,cZ,.nil 2,.nil 21,.nil 3,.nil 2,.nil 6,.nil 7])] (rs [oK 7 16 2,oC 8 69 [7],oS 16 2 8] (rs [oV 5 (.newArr 6)] (sq (rs [oJ 6 0] (.block 0 (.loop (sq (rs [oM 9 6,oF 10 14 2,oL 11 10,oY 12 11,oU 13 9 12] (cE 13 0)) (sq (.block 1 (rs [oF 16 14 2,oL 17 16,oM 18 6,oA 19 6 17 18,oQ 20 0 19,oL 21 20,oM 22 1,oV 23 (bT .neq 21 22)] (cS 23 (rg [oM 24 5,oF 25 14 2,oL 26 25,oM 27 6,oA 28 6 26 27,oR 29 6 28,oT 30 (.buildSlice 6 [.t 29]),oT 31 (.append 6 48 (.t 24) (.t 30)),oN 5 31])))) (rg [oM 14 6,oI 15 14,oN 6 15])))))) (rs [oM 32 5,oF 33 14 2,sT 1 33 32] (rs [oK 34 16 2,oS 16 4 34] .ret)))))
def vf96:=mF 2 [.cell (.v 4) (some 16)] [0,1,2,4,5,6,13,23] S4
def S3:VCode:=rs [oV 2 (.move cF)] (sq (rs [oM 5 0,oT 6 (.lenStr (.t 5)),oT 7 (bI .eql 6 0),oP 8 7,fM 9 0 8,fT 10 (.lenStr (.t 9)) 8,fT 11 (bI .gtr 10 32) 8,oO 12 8 11,oP 13 12,fM 14 0 13,fT 15 (.indexStr (.t 14) (cI 0)) 13,fT 16 (.bin .eql (.t 15) (.c (.int .u8 45))) 13,vO 17 13 16] (cS 17 (rs [oV 2 (.move cF)] .ret))) (sq (rs [oJ 3 0] (.block 0 (.loop (sq (rs [oM 18 3,oM 19 0,oT 20 (.lenStr (.t 19)),oU 21 18 20] (cE 21 0)) (sq (.block 1 (rs [oM 24 0,oM 25 3,oT 26 (.indexStr (.t 24) (.t 25)),oN 4 26] (rs [oM 27 4,oT 28 (.bin .geq (.t 27) (.c (.int .u8 97))),oP 29 28,tM 30 4 29,tT 31 (.bin .leq (.t 30) (.c (.int .u8 122))) 29,oB 32 29 31,oP 33 32,fM 34 4 33,fT 35 (.bin .geq (.t 34) (.c (.int .u8 65))) 33,fT 36 (.move (.t 35)) 33,tM 37 4 36,tT 38 (.bin .leq (.t 37) (.c (.int .u8 90))) 36,fT 39 (.pick (.t 36) (.t 38) cF) 33,oO 40 33 39,oP 41 40,fM 42 4 41,fT 43 (.bin .geq (.t 42) (.c (.int .u8 48))) 41,fT 44 (.move (.t 43)) 41,tM 45 4 44,tT 46 (.bin .leq (.t 45) (.c (.int .u8 57))) 44,fT 47 (.pick (.t 44) (.t 46) cF) 41,oO 48 41 47,oP 49 48,fM 50 4 49,fT 51 (.bin .eql (.t 50) (.c (.int .u8 95))) 49,oO 52 49 51,oP 53 52,fM 54 4 53,fT 55 (.bin .eql (.t 54) (.c (.int .u8 45))) 53,oO 56 53 55,oV 57 (nT 56)] (cS 57 (rs [oV 2 (.move cF)] .ret))))) (rg [oM 22 3,oI 23 22,oN 3 23])))))) (rs [oV 2 (.move cT)] .ret)))
def vf97:=mF 1 [.tmp (.v 2)] [0,2,3,4,17,21,57] S3
def S2:VCode:=rs [oX 2 2 0,oJ 4 0] (rs [oK 5 2 2,oM 6 1,oC 7 62 [5,6],oY 8 7,oT 9 (bI .sub 8 1),oN 4 9] .ret)
def vf98:=mF 2 [.tmp (.v 4)] [0,1,2,4] S2
def S1:VCode:=rs [oX 1 2 0,oV 2 (.alloc [.nil 6,cZ])] (sq (.region ⟨[oF 3 0 1,oL 4 3,oT 5 (.appendNil 6 56 (.t 4)),oF 6 1 1,oL 7 6,oT 8 (.build [aT 5 0 1,aT 7 0 1]),oS 2 2 8],[],[(2,4)]⟩) .ret)
def vf99:=mF 1 [.cell (.v 2) (some 2)] [0,1,2] S1
def SQ:VCode:=rs [oX 2 2 0,oV 4 (.newArr 1)] (sq (rs [oK 7 2 2,oM 8 1,oC 9 83 [7,8],oV 10 (nT 9)] (cS 10 (rs [oV 4 (.newArr 1)] .ret))) (rs [oV 5 (.newArr 1)] (sq (rs [oJ 6 0] (.block 0 (.loop (sq (rs [oM 11 6,oF 12 0 2,oL 13 12,oY 14 13,oU 15 11 14] (cE 15 0)) (sq (.block 1 (rs [oF 18 0 2,oL 19 18,oM 20 6,oA 21 6 19 20,oQ 22 1 21,oL 23 22,oM 24 1,oV 25 (bT .eql 23 24)] (cS 25 (rg [oM 26 5,oF 27 0 2,oL 28 27,oM 29 6,oA 30 6 28 29,oQ 31 0 30,oL 32 31,oT 33 (.buildSlice 1 [.t 32]),oT 34 (.append 1 8 (.t 26) (.t 33)),oN 5 34])))) (rg [oM 16 6,oI 17 16,oN 6 17])))))) (rs [oM 35 5,oN 4 35] .ret))))
def vf100:=mF 2 [.tmp (.v 4)] [0,1,2,4,5,6,10,15,25] SQ
def SP:VCode:=rs [oX 1 5 0,oV 2 (.move cF)] (rs [oF 5 0 1,oL 6 5,oF 7 1 1,oL 8 7,oF 9 2 1,oL 10 9,oF 11 3 1,oL 12 11,oF 13 4 1,oL 14 13,oT 15 (.buildSlice 1 [.t 6,.t 8,.t 10,.t 12,.t 14]),oN 3 15] (sq (rs [oJ 4 0] (.block 0 (.loop (sq (rs [oM 16 4,oM 17 3,oY 18 17,oU 19 16 18] (cE 19 0)) (sq (.block 1 (rs [oM 22 3,oM 23 4,oA 24 1 22 23,oL 25 24,oT 26 (bI .lss 25 0),oP 27 26,fM 28 3 27,fM 29 4 27,fT 30 (.indexAddr 1 (.t 28) (.t 29)) 27,fL 31 30 27,fT 32 (bI .gtr 31 1000000) 27,vO 33 27 32] (cS 33 (rs [oV 2 (.move cF)] .ret)))) (rg [oM 20 4,oI 21 20,oN 4 21])))))) (rs [oV 2 (.move cT)] .ret)))
def vf101:=mF 1 [.tmp (.v 2)] (iv [0,5] [19,33]) SP
def Gb:VCode:=rs [oX 1 6 0,oV 2 (.move cF)] (rs [oF 3 0 1,oL 4 3,oT 5 (.call 170 [.t 4,.c (.int .i64 0),.c (.int .i64 2147483647)]),oP 6 5,tF 7 1 1 6,tL 8 7 6,tT 9 (.call 170 [.t 8,.c (.int .i64 1),.c (.int .i64 2147483647)]) 6,oB 10 6 9,oP 11 10,tF 12 2 1 11,tL 13 12 11,tT 14 (.call 170 [.t 13,.c (.int .i64 0),.c (.int .i64 16777216)]) 11,oB 15 11 14,oP 16 15,tF 17 3 1 16,tL 18 17 16,tT 19 (.call 170 [.t 18,.c (.int .i64 1),.c (.int .i64 4096)]) 16,oB 20 16 19,oP 21 20,tF 22 2 1 21,tL 23 22 21,tF 24 3 1 21,tL 25 24 21,tT 26 (bT .add 23 25) 21,tT 27 (bI .leq 26 16777216) 21,oB 28 21 27,oP 29 28,tF 30 5 1 29,tL 31 30 29,tT 32 (.call 170 [.t 31,.c (.int .i64 0),.c (.int .i64 1048576)]) 29,oB 33 29 32,oN 2 33] .ret)
def vf102:=mF 1 [.tmp (.v 2)] [0,1,2] Gb
def Mi:FuncId->Option VFunc|9=>some vf9|10=>some vf10|11=>some vf11|12=>some vf12|13=>some vf13|14=>some vf14|15=>some vf15|16=>some vf16|17=>some vf17|18=>some vf18|19=>some vf19|20=>some vf20|21=>some vf21|22=>some vf22|24=>some vf24|27=>some vf27|28=>some vf28|29=>some vf29|30=>some vf30|33=>some vf33|34=>some vf34|35=>some vf35|38=>some vf38|39=>some vf39|40=>some vf40|41=>some vf41|42=>some vf42|43=>some vf43|44=>some vf44|45=>some vf45|46=>some vf46|47=>some vf47|48=>some vf48|49=>some vf49|50=>some vf50|51=>some vf51|52=>some vf52|53=>some vf53|54=>some vf54|55=>some vf55|56=>some vf56|57=>some vf57|58=>some vf58|59=>some vf59|60=>some vf60|61=>some vf61|62=>some vf62|63=>some vf63|64=>some vf64|65=>some vf65|66=>some vf66|67=>some vf67|68=>some vf68|69=>some vf69|70=>some vf70|71=>some vf71|73=>some vf73|76=>some vf76|80=>some vf80|82=>some vf82|83=>some vf83|84=>some vf84|85=>some vf85|86=>some vf86|87=>some vf87|88=>some vf88|89=>some vf89|90=>some vf90|91=>some vf91|92=>some vf92|93=>some vf93|94=>some vf94|95=>some vf95|96=>some vf96|97=>some vf97|98=>some vf98|99=>some vf99|100=>some vf100|101=>some vf101|102=>some vf102|_=>none
end Go.V
namespace Go.V
def SO:VCode:=rs [oV 6 (.move cF)] (rs [oM 7 0,oM 8 1,oT 9 (bT .geq 7 8),oP 10 9,tM 11 0 10,tM 12 2 10,tT 13 (bT .leq 11 12) 10,oB 14 10 13,oN 6 14] .ret)
def vf109:=mF 3 [.tmp (.v 6)] [0,1,2,6] SO
def Mg:VCode:=rs [oX 2 2 0,oV 4 (.move cF)] (sq (rs [oK 7 2 2,oC 8 70 [7],oV 9 (nT 8)] (cS 9 (rs [oV 4 (.move cF)] .ret))) (sq (rs [oV 10 (.move (.v 1)),oV 11 (.len (.v 10)),oJ 12 0] (.block 0 (.loop (rs [oV 13 (.bin .lss (.v 12) (.v 11))] (sq (cE 13 0) (sq (.block 1 (rs [oM 14 12,oT 15 (.indexAddr 2 (.v 10) (.v 12)),oR 16 2 15,oV 6 (.alloc [cZ,cZ]),oN 5 14,oS 2 6 16] (rs [oK 17 2 2,oF 18 0 6,oL 19 18,oC 20 171 [17,19],oT 21 (nT 20),oP 22 21,fM 23 5 22,fT 24 (bI .gtr 23 0) 22,fT 25 (.move (.t 24)) 22,tF 26 0 6 25,tL 27 26 25,tM 28 1 25,tM 29 5 25,tT 30 (bI .sub 29 1) 25,tT 31 (.indexAddr 2 (.t 28) (.t 30)) 25,tT 32 (.fieldAddr 0 (.t 31)) 25,tL 33 32 25,tT 34 (bT .leq 27 33) 25,fT 35 (.pick (.t 25) (.t 34) cF) 22,oO 36 22 35,oP 37 36,fF 38 1 6 37,fL 39 38 37,fT 40 (.call 172 [.t 39,.c (.int .i64 1),.c (.int .i64 10000)]) 37,fT 41 (nT 40) 37,vO 42 37 41] (cS 42 (rs [oV 4 (.move cF)] .ret))))) (rg [oT 43 (.bin .add (.v 12) (cI 1)),oN 12 43]))))))) (rs [oV 4 (.move cT)] .ret)))
def vf110:=mF 2 [.tmp (.v 4)] (iv [9,5] [0,1,2,4,5,6,42]) Mg
def Mf:VCode:=rs [oX 2 2 0,oV 4 (.move cF)] (sq (rs [oK 9 2 2,oC 10 70 [9],oV 11 (nT 10)] (cS 11 (rs [oV 4 (.move cF)] .ret))) (sq (rs [oV 12 (.move (.v 1)),oV 13 (.len (.v 12)),oJ 14 0] (.block 0 (.loop (rs [oV 15 (.bin .lss (.v 14) (.v 13))] (sq (cE 15 0) (sq (.block 1 (rs [oM 16 14,oT 17 (.indexAddr 3 (.v 12) (.v 14)),oR 18 3 17,oV 6 (.alloc [cZ,cZ,cZ]),oN 5 16,oS 3 6 18] (rs [oK 20 2 2,oF 21 0 6,oL 22 21,oC 23 145 [20,22],oP 19 23,oE 24 19 0,oE 25 19 1,oT 7 (.alloc [.c (.int .i64 0),.c (.int .i64 0),.c (.str ⟨#[]⟩),.c (.int .i64 0),.c (.int .i64 0),.c (.int .i64 0)]),sT 6 7 24,oN 8 25] (rs [oM 26 8,oT 27 (nT 26),oP 28 27,fM 29 5 28,fT 30 (bI .gtr 29 0) 28,fT 31 (.move (.t 30)) 28,tF 32 0 6 31,tL 33 32 31,tM 34 1 31,tM 35 5 31,tT 36 (bI .sub 35 1) 31,tT 37 (.indexAddr 3 (.t 34) (.t 36)) 31,tT 38 (.fieldAddr 0 (.t 37)) 31,tL 39 38 31,tT 40 (bT .leq 33 39) 31,fT 41 (.pick (.t 31) (.t 40) cF) 28,oO 42 28 41,oP 43 42,fF 44 1 6 43,fL 45 44 43,fT 46 (.call 173 [.t 45,.c (.int .i64 0),.c (.int .i64 1048576)]) 43,fT 47 (nT 46) 43,oO 48 43 47,oP 49 48,fF 50 2 6 49,fL 51 50 49,fT 52 (.call 173 [.t 51,.c (.int .i64 1),.c (.int .i64 256)]) 49,fT 53 (nT 52) 49,vO 54 49 53] (cS 54 (rs [oV 4 (.move cF)] .ret)))))) (rg [oT 55 (.bin .add (.v 14) (cI 1)),oN 14 55]))))))) (rs [oV 4 (.move cT)] .ret)))
def vf111:=mF 2 [.tmp (.v 4)] (iv [11,5] [0,1,2,4,5,6,8,54]) Mf
def Me:VCode:=rs [oX 2 2 0,oV 4 (.move cF)] (sq (rs [oK 7 2 2,oC 8 70 [7],oV 9 (nT 8)] (cS 9 (rs [oV 4 (.move cF)] .ret))) (sq (rs [oV 10 (.move (.v 1)),oV 11 (.len (.v 10)),oJ 12 0] (.block 0 (.loop (rs [oV 13 (.bin .lss (.v 12) (.v 11))] (sq (cE 13 0) (sq (.block 1 (rs [oM 14 12,oT 15 (.indexAddr 2 (.v 10) (.v 12)),oR 16 2 15,oV 6 (.alloc [cZ,cZ]),oN 5 14,oS 2 6 16] (rs [oK 17 2 2,oF 18 0 6,oL 19 18,oC 20 171 [17,19],oT 21 (nT 20),oP 22 21,fM 23 5 22,fT 24 (bI .gtr 23 0) 22,fT 25 (.move (.t 24)) 22,tF 26 0 6 25,tL 27 26 25,tM 28 1 25,tM 29 5 25,tT 30 (bI .sub 29 1) 25,tT 31 (.indexAddr 2 (.t 28) (.t 30)) 25,tT 32 (.fieldAddr 0 (.t 31)) 25,tL 33 32 25,tT 34 (bT .leq 27 33) 25,fT 35 (.pick (.t 25) (.t 34) cF) 22,oO 36 22 35,oP 37 36,fF 38 1 6 37,fL 39 38 37,fT 40 (.call 172 [.t 39,.c (.int .i64 0),.c (.int .i64 1152921504606846976)]) 37,fT 41 (nT 40) 37,vO 42 37 41] (cS 42 (rs [oV 4 (.move cF)] .ret))))) (rg [oT 43 (.bin .add (.v 12) (cI 1)),oN 12 43]))))))) (rs [oV 4 (.move cT)] .ret)))
def vf112:=mF 2 [.tmp (.v 4)] (iv [9,5] [0,1,2,4,5,6,42]) Me
def JO:VCode:=rs [oX 2 5 0,oV 4 (.move cF)] (rs [oK 5 5 2,oC 6 174 [5],oP 7 6,tF 8 1 2 7,tL 9 8 7,tT 10 (bI .eql 9 100) 7,oB 11 7 10,oP 12 11,tF 13 4 2 12,tL 14 13 12,tM 15 1 12,tT 16 (bT .eql 14 15) 12,oB 17 12 16,oN 4 17] .ret)
def vf113:=mF 2 [.tmp (.v 4)] [0,1,2,4] JO
def Md:VCode:=rs [oX 2 2 0,oX 3 6 1,oV 4 (.move cF)] (rs [oK 5 6 3,oC 6 102 [5],oP 7 6,tT 8 (ldV 2 2) 7,tF 9 1 3 7,tL 10 9 7,tT 11 (cC 73 [8,10]) 7,oB 12 7 11,oN 4 12] .ret)
def vf114:=mF 2 [.tmp (.v 4)] (iv [0,5] []) Md
def SN:VCode:=rs [oX 2 5 0,oV 4 (.alloc [cZ,cZ,cZ,cZ,cZ]),oJ 5 0] (sq (.block 0 (rs [oK 7 5 2,oC 8 174 [7],oT 9 (nT 8),oN 6 9] (.cond (.v 6) (rs [oT 10 (.build [zZ,zZ,zZ,zZ,zZ]),oS 5 4 10,oJ 5 1] .ret) (rs [oM 12 1,oT 13 (.call 175 [.t 12,.c (.int .i64 0),.c (.int .i64 1048576)]),oT 14 (nT 13),oN 11 14] (.cond (.v 11) (rs [oT 15 (.build [zZ,zZ,zZ,zZ,zZ]),oS 5 4 15,oJ 5 3] .ret) (rs [oM 17 1,oF 18 4 2,oL 19 18,oT 20 (bT .lss 17 19),oN 16 20] (cS 16 (rs [oT 21 (.build [zZ,zZ,zZ,zZ,zZ]),oS 5 4 21,oJ 5 23] .ret)))))))) (sq (rs [oK 22 5 2,oC 23 176 [22],oV 24 (nT 23)] (cS 24 (rg [oF 25 3 2,oL 26 25,oF 27 0 2,oL 28 27,oM 29 1,oF 30 4 2,oL 31 30,oT 32 (bT .sub 29 31),oT 33 (bT .mul 28 32),oT 34 (bT .add 26 33),oF 35 2 2,oL 36 35,oF 37 1 2,oL 38 37,oT 39 (bT .mul 36 38),oT 40 (.minmax false [.t 34,.t 39]),oF 41 3 2,sT 1 41 40]))) (rs [oM 42 1,oF 43 4 2,sT 1 43 42] (rs [oK 44 5 2,oS 5 4 44,oJ 5 0] .ret))))
def vf115:=mF 2 [.cell (.v 4) (some 5),.tmp (.v 5)] [0,1,2,4,5,6,11,16,24] SN
def JN:VCode:=rs [oX 4 2 0,oV 8 (.move cF)] (rs [oK 9 2 4,oM 10 1,oC 11 112 [9,10],oP 12 11,tT 13 (ldV 2 4) 12,tM 14 2 12,tT 15 (cC 171 [13,14]) 12,oB 16 12 15,oP 17 16,tM 18 1 17,tM 19 2 17,tT 20 (cC 118 [18,19]) 17,tM 21 3 17,tT 22 (bT .leq 20 21) 17,oB 23 17 22,oN 8 23] .ret)
def vf117:=mF 4 [.tmp (.v 8)] (iv [0,5] [8]) JN
def SM:VCode:=rs [oJ 4 0] (sq (rs [oV 7 (.move (.v 0)),oV 8 (.len (.v 7)),oJ 9 0] (.block 0 (.loop (rs [oV 10 (.bin .lss (.v 9) (.v 8))] (sq (cE 10 0) (sq (.block 1 (rs [oT 11 (.indexAddr 2 (.v 7) (.v 9)),oR 12 2 11,oV 6 (.alloc [cZ,cZ]),oS 2 6 12] (rs [oF 13 0 6,oL 14 13,oM 15 1,oV 16 (bT .eql 14 15)] (cS 16 (rs [oF 17 1 6,oL 18 17,oN 4 18] .ret))))) (rg [oT 19 (.bin .add (.v 9) (cI 1)),oN 9 19]))))))) (rs [oJ 4 0] .ret))
def vf118:=mF 2 [.tmp (.v 4)] (iv [6,5] [0,1,4,16]) SM
def Mc:VCode:=rs [oX 3 6 1,oV 4 (.move cF)] (sq (sq (.region ⟨[oM 13 0,oT 14 (kT 13),oQ 15 16 14,oR 16 2 15,oM 17 0,oT 18 (kT 17),oQ 19 0 18,oQ 20 12 19,oL 21 20,oM 22 0,oT 23 (.callA 178 [.t 22]),oF 24 1 3,oL 25 24,oC 26 177 [16,21,23,25],oP 12 26,oE 27 12 0,oE 28 12 1,oN 5 27,oP 6 28],[],[(3,10),(8,10),(10,12)]⟩) (rs [oM 29 5,oV 30 (nT 29)] (cS 30 (rs [oV 4 (.move cF)] .ret)))) (sq (rs [oM 31 0,oT 32 (kT 31),oQ 33 16 32,oR 34 2 33,oF 35 1 3,oL 36 35,oV 37 (cC 179 [34,36]),oV 38 (.len (.v 37)),oJ 39 0] (.block 0 (.loop (rs [oV 40 (.bin .lss (.v 39) (.v 38))] (sq (cE 40 0) (sq (.block 1 (rs [oT 41 (.indexAddr 1 (.v 37) (.v 39)),oL 42 41,oN 8 42] (rs [oM 43 0,oM 44 8,oT 45 (.callR 159 [.t 43,.t 44]),oN 9 45] (rs [oM 46 9,oV 47 (bI .geq 46 0)] (cS 47 (rs [oM 49 0,oT 50 (kT 49),oQ 51 0 50,oQ 52 11 51,oL 53 52,oM 54 9,oA 55 21 53 54,oF 56 4 3,oL 57 56,oT 58 (cW 180 [55,57]),oP 48 58,oE 59 48 0,oE 60 48 1,oN 10 59,oN 11 60] (sq (.region ⟨[oM 61 10,oT 62 (kT 61),oR 63 5 62,oC 64 181 [63],oF 65 3 3,oL 66 65,oT 67 (bT .lss 64 66),oP 68 67,fM 69 11 68,fT 70 (kT 69) 68,fT 71 (.load (some 5) (.t 70)) 68,fT 72 (cC 181 [71]) 68,fT 73 (bI .lss 72 1) 68,vO 74 68 73],[],[(3,5)]⟩) (.cond (.v 74) (rs [oV 4 (.move cF)] .ret) .skip)))))))) (rg [oT 75 (.bin .add (.v 39) (cI 1)),oN 39 75]))))))) (rs [oV 4 (.move cT)] .ret)))
def vf119:=mF 2 [.tmp (.v 4)] (iv [8,4,37,4] [0,1,3,4,5,30,47,74]) Mc
def SL:VCode:=rs [oJ 4 0] (sq (rs [oM 6 0,oV 7 (lT 6),oJ 8 0] (.block 0 (.loop (rs [oV 9 (.bin .lss (.v 8) (.v 7))] (sq (cE 9 0) (sq (.block 1 (rs [oM 10 8,oN 5 10] (rs [oM 11 1,oM 12 0,oM 13 5,oA 14 6 12 13,oR 15 6 14,oV 16 (.callv (.t 11) [.t 15])] (cS 16 (rs [oM 17 5,oN 4 17] .ret))))) (rg [oT 18 (.bin .add (.v 8) (cI 1)),oN 8 18]))))))) (rs [oJ 4 (-1)] .ret))
def vf121:=mF 2 [.tmp (.v 4)] [0,1,4,5,7,8,9,16] SL
def SK:VCode:=rs [oX 2 6 0,oV 3 (.move cF)] (rs [oF 4 1 2,oL 5 4,oT 6 (.load none (.v 1)),oT 7 (bT .eql 5 6),oN 3 7] .ret)
def vf122:=mF 2 [.tmp (.v 3)] [0,1,2,3] SK
def SJ:VCode:=rs [oX 3 5 0,oX 4 6 1,oJ 6 0,oJ 7 0] (sq (rs [oK 9 5 3,oK 10 6 4,oT 11 (.buildFz 6 [.t 10]),oM 12 2,oC 13 184 [9,11,12],oN 8 13] (rs [oM 14 8,oV 15 (bI .neq 14 0)] (cS 15 (rs [oM 16 8,oJ 6 0,oN 7 16] .ret)))) (rs [oK 17 5 3,oK 18 6 4,oM 19 2,oC 20 185 [17,18,19],oN 6 20,oJ 7 0] .ret))
def vf123:=mF 3 [.tmp (.v 6),.tmp (.v 7)] (iv [0,5] [6,7,8,15]) SJ
def SI:VCode:=rs [oX 4 2 0,oJ 8 0,oJ 9 0] (sq (rs [oK 10 2 4,oM 11 1,oC 12 110 [10,11],oV 13 (nT 12)] (cS 13 (rs [oJ 8 0,oJ 9 1] .ret))) (sq (rs [oK 14 2 4,oM 15 3,oC 16 171 [14,15],oV 17 (nT 16)] (cS 17 (rs [oJ 8 0,oJ 9 4] .ret))) (sq (rs [oM 18 3,oV 19 (bI .eql 18 1)] (cS 19 (rs [oJ 8 1073741824,oJ 9 0] .ret))) (rs [oK 20 2 4,oM 21 1,oM 22 2,oC 23 186 [20,21,22],oM 24 3,oT 25 (.lookup false (.int .i64) (.int .i64 0) (.t 23) (.t 24)),oN 8 25,oJ 9 0] .ret))))
def vf124:=mF 4 [.tmp (.v 8),.tmp (.v 9)] (iv [0,5] [8,9,13,17,19]) SI
def SH:VCode:=rs [oV 2 (.newArr 1)] (rs [oV 3 (.newArr 1)] (sq (rs [oM 8 0,oT 9 (kT 8),oQ 10 0 9,oQ 11 14 10,oV 12 (.load none (.t 11)),oV 13 (.len (.v 12)),oJ 14 0] (.block 0 (.loop (rs [oV 15 (.bin .lss (.v 14) (.v 13))] (sq (cE 15 0) (sq (.block 1 (rs [oT 16 (.indexAddr 6 (.v 12) (.v 14)),oR 17 6 16,oV 5 (.alloc [cZ,cZ,cZ,cZ,.c (.bool false),cZ]),oS 6 5 17] (rg [oM 18 3,oF 19 1 5,oL 20 19,oT 21 (.buildSlice 1 [.t 20]),oT 22 (.append 1 8 (.t 18) (.t 21)),oN 3 22]))) (rg [oT 23 (.bin .add (.v 14) (cI 1)),oN 14 23]))))))) (sq (rs [oM 24 0,oT 25 (kT 24),oQ 26 0 25,oQ 27 15 26,oV 28 (.load none (.t 27)),oV 29 (.len (.v 28)),oJ 30 0] (.block 2 (.loop (rs [oV 31 (.bin .lss (.v 30) (.v 29))] (sq (cE 31 2) (sq (.block 3 (rs [oT 32 (.indexAddr 7 (.v 28) (.v 30)),oR 33 7 32,oV 7 (.alloc [cZ,cZ,cZ,cZ,.c (.bool false),cZ,cZ]),oS 7 7 33] (rg [oM 34 3,oF 35 0 7,oQ 36 1 35,oL 37 36,oT 38 (.buildSlice 1 [.t 37]),oT 39 (.append 1 8 (.t 34) (.t 38)),oN 3 39]))) (rg [oT 40 (.bin .add (.v 30) (cI 1)),oN 30 40]))))))) (rs [oM 41 3,oN 2 41] .ret))))
def vf125:=mF 1 [.tmp (.v 2)] (iv [12,4,28,4] [0,2,3,5,7]) SH
def JM:VCode:=rs [oX 7 2 0,oV 14 (.newArr 2),oJ 15 0] (sq (.block 0 (rs [oK 18 2 7,oM 19 1,oC 20 112 [18,19],oT 21 (nT 20),oN 17 21] (.cond (.v 17) (rs [oV 14 (.newArr 2),oJ 15 1] .ret) (rs [oK 23 2 7,oM 24 2,oC 25 171 [23,24],oT 26 (nT 25),oN 22 26] (.cond (.v 22) (rs [oV 14 (.newArr 2),oJ 15 4] .ret) (rs [oM 28 3,oT 29 (.call 172 [.t 28,.c (.int .i64 1),.c (.int .i64 1073741824)]),oT 30 (nT 29),oP 31 30,fM 32 4 31,fT 33 (.call 172 [.t 32,.c (.int .i64 1),.c (.int .i64 4294967296)]) 31,fT 34 (nT 33) 31,oO 35 31 34,oP 36 35,fM 37 5 36,fT 38 (.call 172 [.t 37,.c (.int .i64 0),.c (.int .i64 576460752303423488)]) 36,fT 39 (nT 38) 36,oO 40 36 39,oP 41 40,fM 42 6 41,fT 43 (.call 172 [.t 42,.c (.int .i64 0),.c (.int .i64 1073741824)]) 41,fT 44 (nT 43) 41,oO 45 41 44,oN 27 45] (.cond (.v 27) (rs [oV 14 (.newArr 2),oJ 15 3] .ret) (rs [oM 47 1,oM 48 2,oC 49 118 [47,48],oM 50 5,oT 51 (bT .gtr 49 50),oN 46 51] (cS 46 (rs [oV 14 (.newArr 2),oJ 15 11] .ret)))))))))) (rs [oM 52 1,oM 53 2,oC 54 118 [52,53],oM 55 5,oM 56 6,oT 57 (bT .sub 55 56),oT 58 (.minmax true [.t 54,.t 57,.c (.int .i64 0)]),oM 59 4,oT 60 (bI .mul 59 1073741824),oM 61 3,oT 62 (bT .add 60 61),oT 63 (bI .sub 62 1),oM 64 3,oT 65 (bT .quo 63 64),oT 66 (bT .add 58 65),oN 16 66] (sq (rs [oM 67 16,oV 68 (bI .gtr 67 1152921504606846976)] (cS 68 (rs [oV 14 (.newArr 2),oJ 15 7] .ret))) (rs [oM 69 1,oM 70 2,oM 71 16,oC 72 187 [69,70,71],oN 14 72,oJ 15 0] .ret))))
def vf126:=mF 7 [.tmp (.v 14),.tmp (.v 15)] (iv [0,8,14,4] [22,27,46,68]) JM
def SG:VCode:=rs [oX 3 6 1] (rs [oM 9 0,oT 10 (kT 9),oQ 11 16 10,oR 12 2 11,oF 13 1 3,oL 14 13,oV 15 (cC 179 [12,14]),oV 16 (.len (.v 15)),oJ 17 0] (.block 0 (.loop (rs [oV 18 (.bin .lss (.v 17) (.v 16))] (sq (cE 18 0) (sq (.block 1 (rs [oT 19 (.indexAddr 1 (.v 15) (.v 17)),oL 20 19,oN 5 20] (rs [oM 21 0,oM 22 5,oT 23 (.callR 159 [.t 21,.t 22]),oN 6 23] (rs [oM 24 6,oV 25 (bI .geq 24 0)] (cS 25 (rs [oM 27 0,oT 28 (kT 27),oQ 29 0 28,oQ 30 11 29,oL 31 30,oM 32 6,oA 33 21 31 32,oF 34 4 3,oL 35 34,oT 36 (cW 180 [33,35]),oP 26 36,oE 37 26 0,oE 38 26 1,oN 7 37,oN 8 38] (rs [oM 40 7,oM 41 7,oT 42 (kT 41),oR 43 5 42,oM 44 0,oT 45 (kT 44),oQ 46 0 45,oQ 47 7 46,oL 48 47,oF 49 3 3,oL 50 49,oC 51 188 [43,48,50],oP 39 51,oE 52 39 0,oE 53 39 1,oT 54 (kT 40),sT 5 54 52] (rg [oM 56 8,oM 57 8,oT 58 (kT 57),oR 59 5 58,oM 60 0,oT 61 (kT 60),oQ 62 0 61,oQ 63 7 62,oL 64 63,oT 65 (.call 188 [.t 59,.t 64,.c (.int .i64 1)]),oP 55 65,oE 66 55 0,oE 67 55 1,oT 68 (kT 56),sT 5 68 66])))))))) (rg [oT 69 (.bin .add (.v 17) (cI 1)),oN 17 69])))))))
def vf127:=mF 2 [] (iv [5,4,15,4] [0,1,3,25]) SG
def Mb:VCode:=rs [oX 2 2 0,oV 4 (.move cF)] (sq (rs [oK 6 2 2,oC 7 82 [6],oV 8 (nT 7)] (cS 8 (rs [oV 4 (.move cF)] .ret))) (sq (rs [oJ 5 0] (.block 0 (.loop (sq (rs [oM 9 5,oM 10 1,oY 11 10,oU 12 9 11] (cE 12 0)) (sq (.block 1 (rs [oK 15 2 2,oM 16 1,oM 17 5,oA 18 2 16 17,oQ 19 0 18,oL 20 19,oC 21 83 [15,20],oT 22 (nT 21),oP 23 22,fM 24 5 23,fT 25 (bI .gtr 24 0) 23,fT 26 (.move (.t 25)) 23,tM 27 1 26,tM 28 5 26,tT 29 (.indexAddr 2 (.t 27) (.t 28)) 26,tT 30 (.fieldAddr 0 (.t 29)) 26,tL 31 30 26,tM 32 1 26,tM 33 5 26,tT 34 (bI .sub 33 1) 26,tT 35 (.indexAddr 2 (.t 32) (.t 34)) 26,tT 36 (.fieldAddr 0 (.t 35)) 26,tL 37 36 26,tT 38 (bT .leq 31 37) 26,fT 39 (.pick (.t 26) (.t 38) cF) 23,oO 40 23 39,oP 41 40,fM 42 1 41,fM 43 5 41,fT 44 (.indexAddr 2 (.t 42) (.t 43)) 41,fT 45 (.fieldAddr 1 (.t 44)) 41,fL 46 45 41,fT 47 (bI .lss 46 0) 41,oO 48 41 47,oP 49 48,fM 50 1 49,fM 51 5 49,fT 52 (.indexAddr 2 (.t 50) (.t 51)) 49,fT 53 (.fieldAddr 1 (.t 52)) 49,fL 54 53 49,fT 55 (bI .gtr 54 1152921504606846976) 49,vO 56 49 55] (cS 56 (rs [oV 4 (.move cF)] .ret)))) (rg [oM 13 5,oI 14 13,oN 5 14])))))) (rs [oV 4 (.move cT)] .ret)))
def vf130:=mF 2 [.tmp (.v 4)] [0,1,2,4,5,8,12,56] Mb
def SF:VCode:=rs [oV 6 (.newArr 2)] (rs [oV 7 (.newArr 2)] (rs [oM 10 2,oT 11 (bI .eql 10 100),oN 8 11] (sq (rs [oJ 9 0] (.block 0 (.loop (sq (rs [oM 12 9,oM 13 0,oY 14 13,oU 15 12 14] (cE 15 0)) (sq (.block 1 (sq (rs [oM 18 8,oT 19 (nT 18),oP 20 19,tM 21 0 20,tM 22 9 20,tT 23 (.indexAddr 2 (.t 21) (.t 22)) 20,tT 24 (.fieldAddr 0 (.t 23)) 20,tL 25 24 20,tM 26 1 20,tT 27 (bT .geq 25 26) 20,vB 28 20 27] (cS 28 (rg [oM 29 7,oM 30 1,oM 31 2,oT 32 (.build [aT 30 0 1,aT 31 0 1]),oT 33 (.buildSlice 2 [.t 32]),oT 34 (.append 2 16 (.t 29) (.t 33)),oN 7 34,oV 8 (.move cT)]))) (rs [oM 35 0,oM 36 9,oA 37 2 35 36,oQ 38 0 37,oL 39 38,oM 40 1,oV 41 (bT .neq 39 40)] (cS 41 (rg [oM 42 7,oM 43 0,oM 44 9,oA 45 2 43 44,oR 46 2 45,oT 47 (.buildSlice 2 [.t 46]),oT 48 (.append 2 16 (.t 42) (.t 47)),oN 7 48]))))) (rg [oM 16 9,oI 17 16,oN 9 17])))))) (sq (rs [oM 49 8,oV 50 (nT 49)] (cS 50 (rg [oM 51 7,oM 52 1,oM 53 2,oT 54 (.build [aT 52 0 1,aT 53 0 1]),oT 55 (.buildSlice 2 [.t 54]),oT 56 (.append 2 16 (.t 51) (.t 55)),oN 7 56]))) (rs [oM 57 7,oN 6 57] .ret)))))
def vf131:=mF 3 [.tmp (.v 6)] [0,1,2,6,7,8,9,15,28,41,50] SF
def SE:VCode:=rs [oX 3 16 0,oX 5 7 2,oV 6 (.newArr 21)] (rs [oF 18 2 5,oL 19 18,oF 20 3 5,oL 21 20,oF 22 4 5,oL 23 22,oF 24 5 5,oL 25 24,oT 26 (.buildSlice 1 [.t 19,.t 21,.t 23,.t 25]),oN 7 26] (rs [oV 8 (.newArr 5)] (rs [oV 9 (.move cT)] (sq (rs [oJ 10 0] (.block 0 (.loop (sq (sq (.region ⟨[oM 27 10,oV 28 (bI .lss 27 4)],[66],[]⟩) (cE 28 0)) (sq (.block 1 (rs [oM 31 7,oM 32 10,oA 33 1 31 32,oL 34 33,oN 11 34] (sq (rs [oM 35 10,oV 36 (bI .lss 35 2)] (cS 36 (rg [oM 37 11,oT 38 (.minmax true [.t 37,.c (.int .i64 4096)]),oN 11 38]))) (sq (rs [oM 39 7,oM 40 10,oA 41 1 39 40,oL 42 41,oV 43 (bI .eql 42 4611686018427387904)] (cS 43 (rg [oJ 11 0]))) (sq (.region ⟨[oM 45 7,oM 46 10,oA 47 1 45 46,oL 48 47,oM 49 11,oF 50 7 3,oL 51 50,oT 52 (.call 191 [.t 48,.c (.int .i64 100),.t 49,.t 51]),oP 44 52,oE 53 44 0,oE 54 44 1,oV 12 (.alloc [cZ,cZ,cZ,cZ,cZ]),oS 5 12 53,oP 13 54],[],[(2,11),(3,11),(6,11),(7,11)]⟩) (sq (rs [oK 55 16 3,oM 56 1,oC 57 192 [55,56],oN 14 57] (rs [oM 58 14,oV 59 (bI .geq 58 0)] (cS 59 (.region ⟨[oF 61 11 3,oL 62 61,oM 63 14,oA 64 21 62 63,oR 65 21 64,oC 66 135 [65],oM 67 10,oA 68 5 66 67,oR 69 5 68,oM 70 7,oM 71 10,oA 72 1 70 71,oL 73 72,oM 74 11,oF 75 7 3,oL 76 75,oT 77 (.call 193 [.t 69,.t 73,.c (.int .i64 100),.t 74,.t 76]),oP 60 77,oE 78 60 0,oE 79 60 1,oS 5 12 78],[],[(5,11),(5,12),(5,15)]⟩)))) (rs [oM 80 8,oK 81 5 12,oT 82 (.buildSlice 5 [.t 81]),oT 83 (.append 5 40 (.t 80) (.t 82)),oN 8 83] (rg [oM 84 9,oP 85 84,tM 86 7 85,tM 87 10 85,tT 88 (.indexAddr 1 (.t 86) (.t 87)) 85,tL 89 88 85,tT 90 (bI .eql 89 4611686018427387904) 85,oB 91 85 90,oN 9 91])))))))) (rg [oM 29 10,oI 30 29,oN 10 30])))))) (rs [oV 15 (.newArr 21)] (rs [oM 92 9,oN 16 92] (sq (rs [oJ 17 0] (.block 2 (.loop (sq (rs [oM 93 17,oF 94 11 3,oL 95 94,oY 96 95,oU 97 93 96] (cE 97 2)) (sq (.block 3 (sq (rs [oM 100 16,oT 101 (nT 100),oP 102 101,tF 103 11 3 102,tL 104 103 102,tM 105 17 102,tT 106 (.indexAddr 21 (.t 104) (.t 105)) 102,tT 107 (.fieldAddr 0 (.t 106)) 102,tL 108 107 102,tM 109 1 102,tT 110 (bT .geq 108 109) 102,vB 111 102 110] (cS 111 (rg [oM 112 15,oM 113 1,oM 114 8,oC 115 137 [113,114],oT 116 (.buildSlice 21 [.t 115]),oT 117 (.append 21 168 (.t 112) (.t 116)),oN 15 117,oV 16 (.move cT)]))) (rs [oF 118 11 3,oL 119 118,oM 120 17,oA 121 21 119 120,oQ 122 0 121,oL 123 122,oM 124 1,oV 125 (bT .neq 123 124)] (cS 125 (rg [oM 126 15,oF 127 11 3,oL 128 127,oM 129 17,oA 130 21 128 129,oR 131 21 130,oT 132 (.buildSlice 21 [.t 131]),oT 133 (.append 21 168 (.t 126) (.t 132)),oN 15 133]))))) (rg [oM 98 17,oI 99 98,oN 17 99])))))) (sq (rs [oM 134 16,oV 135 (nT 134)] (cS 135 (rg [oM 136 15,oM 137 1,oM 138 8,oC 139 137 [137,138],oT 140 (.buildSlice 21 [.t 139]),oT 141 (.append 21 168 (.t 136) (.t 140)),oN 15 141]))) (rs [oM 142 15,oN 6 142] .ret)))))))))
def vf132:=mF 3 [.tmp (.v 6)] (iv [0,4,5,8,14,4] [28,36,43,59,97,111,125,135]) SE
def SD:VCode:=rs [oX 3 3 1,oV 4 (.newArr 3)] (rs [oV 5 (.newArr 3)] (rs [oF 8 1 3,oL 9 8,oT 10 (bI .eql 9 0),oP 11 10,tF 12 2 3 11,tL 13 12 11,tT 14 (bI .eql 13 256) 11,oB 15 11 14,oN 6 15] (sq (rs [oJ 7 0] (.block 0 (.loop (sq (rs [oM 16 7,oM 17 0,oY 18 17,oU 19 16 18] (cE 19 0)) (sq (.block 1 (sq (rs [oM 22 6,oT 23 (nT 22),oP 24 23,tM 25 0 24,tM 26 7 24,tT 27 (.indexAddr 3 (.t 25) (.t 26)) 24,tT 28 (.fieldAddr 0 (.t 27)) 24,tL 29 28 24,tF 30 0 3 24,tL 31 30 24,tT 32 (bT .geq 29 31) 24,vB 33 24 32] (cS 33 (rg [oM 34 5,oK 35 3 3,oT 36 (.buildSlice 3 [.t 35]),oT 37 (.append 3 24 (.t 34) (.t 36)),oN 5 37,oV 6 (.move cT)]))) (rs [oM 38 0,oM 39 7,oA 40 3 38 39,oQ 41 0 40,oL 42 41,oF 43 0 3,oL 44 43,oV 45 (bT .neq 42 44)] (cS 45 (rg [oM 46 5,oM 47 0,oM 48 7,oA 49 3 47 48,oR 50 3 49,oT 51 (.buildSlice 3 [.t 50]),oT 52 (.append 3 24 (.t 46) (.t 51)),oN 5 52]))))) (rg [oM 20 7,oI 21 20,oN 7 21])))))) (sq (rs [oM 53 6,oV 54 (nT 53)] (cS 54 (rg [oM 55 5,oK 56 3 3,oT 57 (.buildSlice 3 [.t 56]),oT 58 (.append 3 24 (.t 55) (.t 57)),oN 5 58]))) (rs [oM 59 5,oN 4 59] .ret)))))
def vf133:=mF 2 [.tmp (.v 4)] (iv [3,5] [0,1,19,33,45,54]) SD
def SC:VCode:=rs [oX 3 2 0,oX 4 16 1,oX 5 6 2,oJ 6 0] (rs [oF 7 5 5,oZ (.store 1 (.t 7) (cI 0))] (sq (rs [oK 8 2 3,oK 9 16 4,oC 10 84 [8,9],oT 11 (nT 10),oP 12 11,fT 13 (ldV 6 5) 12,fT 14 (cC 194 [13]) 12,fT 15 (nT 14) 12,vO 16 12 15] (cS 16 (rs [oJ 6 1] .ret))) (sq (rs [oK 17 2 3,oF 18 1 5,oL 19 18,oC 20 83 [17,19],oV 21 (nT 20)] (cS 21 (rs [oJ 6 4] .ret))) (rs [oJ 6 0] .ret))))
def vf134:=mF 3 [.tmp (.v 6)] (iv [0,7] [16,21]) SC
def SB:VCode:=rs [oX 1 21 0,oV 2 (.newArr 5)] (rs [oF 3 1 1,oR 4 5 3,oF 5 6 1,oR 6 5 5,oF 7 11 1,oR 8 5 7,oF 9 16 1,oR 10 5 9,oT 11 (.buildSlice 5 [.t 4,.t 6,.t 8,.t 10]),oN 2 11] .ret)
def vf135:=mF 1 [.tmp (.v 2)] [0,1,2] SB
def SA:VCode:=rs [oX 2 5 0,oV 4 (.alloc [cZ,cZ,cZ,cZ,cZ]),oJ 5 0] (sq (.block 0 (rs [oK 7 5 2,oC 8 153 [7],oT 9 (nT 8),oN 6 9] (.cond (.v 6) (rs [oT 10 (.build [zZ,zZ,zZ,zZ,zZ]),oS 5 4 10,oJ 5 1] .ret) (rs [oM 12 1,oT 13 (bI .lss 12 0),oP 14 13,fM 15 1 14,fT 16 (bI .gtr 15 1048576) 14,oO 17 14 16,oN 11 17] (.cond (.v 11) (rs [oT 18 (.build [zZ,zZ,zZ,zZ,zZ]),oS 5 4 18,oJ 5 3] .ret) (rs [oM 20 1,oF 21 4 2,oL 22 21,oT 23 (bT .lss 20 22),oN 19 23] (cS 19 (rs [oT 24 (.build [zZ,zZ,zZ,zZ,zZ]),oS 5 4 24,oJ 5 23] .ret)))))))) (sq (rs [oF 25 0 2,oL 26 25,oV 27 (bI .neq 26 4611686018427387904)] (cS 27 (rg [oF 28 2 2,oL 29 28,oF 30 1 2,oL 31 30,oT 32 (bT .mul 29 31),oF 33 3 2,oL 34 33,oF 35 0 2,oL 36 35,oM 37 1,oF 38 4 2,oL 39 38,oT 40 (bT .sub 37 39),oT 41 (bT .mul 36 40),oT 42 (bT .add 34 41),oT 43 (.minmax false [.t 32,.t 42]),oF 44 3 2,sT 1 44 43]))) (rs [oM 45 1,oF 46 4 2,sT 1 46 45] (rs [oK 47 5 2,oS 5 4 47,oJ 5 0] .ret))))
def vf136:=mF 2 [.cell (.v 4) (some 5),.tmp (.v 5)] [0,1,2,4,5,6,11,19,27] SA
def Sz:VCode:=rs [oV 4 (.alloc [cZ,cZ,cZ,cZ,cZ,cZ,cZ,cZ,cZ,cZ,cZ,cZ,cZ,cZ,cZ,cZ,cZ,cZ,cZ,cZ,cZ])] (rs [oM 5 0,oM 6 1,oT 7 (.indexAddr 5 (.t 6) (cI 0)),oR 8 5 7,oM 9 1,oT 10 (.indexAddr 5 (.t 9) (cI 1)),oR 11 5 10,oM 12 1,oT 13 (.indexAddr 5 (.t 12) (cI 2)),oR 14 5 13,oM 15 1,oT 16 (.indexAddr 5 (.t 15) (cI 3)),oR 17 5 16,oT 18 (.build [aT 5 0 1,aT 8 0 5,aT 8 1 5,aT 8 2 5,aT 8 3 5,aT 8 4 5,aT 11 0 5,aT 11 1 5,aT 11 2 5,aT 11 3 5,aT 11 4 5,aT 14 0 5,aT 14 1 5,aT 14 2 5,aT 14 3 5,aT 14 4 5,aT 17 0 5,aT 17 1 5,aT 17 2 5,aT 17 3 5,aT 17 4 5]),oS 21 4 18] .ret)
def vf137:=mF 2 [.cell (.v 4) (some 21)] [0,1,4] Sz
def Sy:VCode:=rs [oX 2 2 0,oX 3 16 1,oV 4 (.newArr 1)] (rs [oV 5 (.newArr 1)] (sq (rs [oJ 6 0] (.block 0 (.loop (sq (rs [oM 8 6,oF 9 0 2,oL 10 9,oY 11 10,oU 12 8 11] (cE 12 0)) (sq (.block 1 (rs [oK 15 16 3,oF 16 0 2,oL 17 16,oM 18 6,oA 19 6 17 18,oQ 20 0 19,oL 21 20,oC 22 195 [15,21],oN 7 22] (rs [oM 23 7,oT 24 (bI .geq 23 0),oP 25 24,tT 26 (ldV 2 2) 25,tT 27 (ldV 16 3) 25,tF 28 14 3 25,tL 29 28 25,tM 30 7 25,tT 31 (.indexAddr 6 (.t 29) (.t 30)) 25,tT 32 (.load (some 6) (.t 31)) 25,tT 33 (cC 168 [26,27,32]) 25,vB 34 25 33] (cS 34 (rg [oM 35 5,oF 36 0 2,oL 37 36,oM 38 6,oA 39 6 37 38,oQ 40 0 39,oL 41 40,oT 42 (.buildSlice 1 [.t 41]),oT 43 (.append 1 8 (.t 35) (.t 42)),oN 5 43]))))) (rg [oM 13 6,oI 14 13,oN 6 14])))))) (rs [oM 44 5,oN 4 44] .ret)))
def vf138:=mF 2 [.tmp (.v 4)] (iv [0,8] [12,34]) Sy
def Sx:VCode:=rs [oX 3 2 0,oX 4 16 1,oV 6 (.alloc [cZ,cZ,cZ,cZ,cZ,cZ,cZ,cZ,cZ,cZ,.nil 2,.nil 21,.nil 3,.nil 2,.nil 6,.nil 7]),oV 7 (.move cF)] (rs [oK 21 16 4,oM 22 2,oC 23 195 [21,22],oN 8 23] (rs [oF 24 14 4,oL 25 24,oM 26 8,oA 27 6 25 26,oR 28 6 27,oV 9 (.alloc [cZ,cZ,cZ,cZ,.c (.bool false),cZ]),oS 6 9 28] (rs [oF 30 0 4,oQ 31 0 30,oR 32 5 31,oK 33 6 9,oF 34 9 4,oL 35 34,oC 36 196 [32,33,35],oP 29 36,oE 37 29 0,oE 38 29 1,oN 10 37,oP 11 38] (rs [oM 39 10,oT 40 (.minmax true [.c (.int .i64 1),.t 39]),oN 10 40] (sq (.region ⟨[oK 42 2 3,oF 43 10 4,oL 44 43,oK 45 16 4,oC 46 198 [45],oM 47 2,oC 48 197 [42,44,46,47],oP 41 48,oE 49 41 0,oE 50 41 1,oN 12 49,oP 13 50],[],[(0,4),(2,4)]⟩) (rs [oK 52 2 3,oF 53 13 4,oL 54 53,oM 55 2,oM 56 12,oM 57 10,oF 58 7 4,oL 59 58,oF 60 0 4,oQ 61 5 60,oL 62 61,oT 63 (bT .mul 59 62),oF 64 0 4,oQ 65 6 64,oL 66 65,oC 67 199 [52,54,55,56,57,63,66],oP 51 67,oE 68 51 0,oE 69 51 1,oN 14 68,oN 15 69] (sq (rs [oM 70 15,oV 71 (bI .neq 70 0)] (cS 71 (rs [oK 72 16 4,oS 16 6 72,oV 7 (.move cF)] .ret))) (rs [oK 73 16 4,oC 74 69 [73],oS 16 4 74] (rs [oM 75 14,oF 76 13 4,sT 1 76 75] (rs [oK 77 2 3,oM 78 2,oC 79 62 [77,78],oN 16 79] (sq (rs [oJ 17 0] (.block 0 (.loop (sq (rs [oM 80 17,oM 81 16,oY 82 81,oU 83 80 82] (cE 83 0)) (sq (.block 1 (rs [oK 86 16 4,oM 87 16,oM 88 17,oA 89 1 87 88,oL 90 89,oC 91 192 [86,90],oN 18 91] (rs [oM 92 18,oV 93 (bI .geq 92 0)] (cS 93 (.region ⟨[oF 95 11 4,oL 96 95,oM 97 18,oF 98 11 4,oL 99 98,oM 100 18,oA 101 21 99 100,oR 102 21 101,oK 103 6 9,oF 104 7 4,oL 105 104,oC 106 200 [102,103,105],oP 94 106,oE 107 94 0,oE 108 94 1,oA 109 21 96 97,sT 21 109 107],[],[(1,11)]⟩))))) (rg [oM 84 17,oI 85 84,oN 17 85])))))) (sq (.region ⟨[oF 110 14 4,oL 111 110,oM 112 8,oM 113 8,oT 114 (.slice false 6 none (some (.t 112)) (some (.t 113)) (.t 111)),oF 115 14 4,oL 116 115,oM 117 8,oI 118 117,oT 119 (.slice false 6 (some (.t 118)) none none (.t 116)),oT 120 (.append 6 48 (.t 114) (.t 119)),oF 121 14 4,sT 1 121 120],[],[(4,6),(1,9),(4,9)]⟩) (rs [oF 122 2 9,oL 123 122,oF 124 3 9,oL 125 124,oT 126 (bT .add 123 125),oF 127 9 4,sT 1 127 126] (rs [oF 128 8 4,oL 129 128,oF 130 7 4,oL 131 130,oT 132 (bI .sub 131 1),oF 133 0 4,oQ 134 5 133,oL 135 134,oT 136 (bT .mul 132 135),oT 137 (.minmax true [.t 129,.t 136]),oM 138 10,oT 139 (bT .add 137 138),oF 140 8 4,sT 1 140 139] (sq (.region ⟨[oK 141 6 9,oF 142 7 4,oL 143 142,oI 144 143,oF 145 8 4,oL 146 145,oF 147 0 4,oQ 148 5 147,oL 149 148,oT 150 (bT .add 146 149),oT 151 (bI .sub 150 1),oF 152 0 4,oQ 153 5 152,oL 154 153,oT 155 (bT .quo 151 154),oT 156 (.minmax true [.t 144,.t 155]),oT 157 (.build [aT 141 0 6,aT 141 1 6,aT 141 2 6,aT 141 3 6,aT 141 4 6,aT 141 5 6,aT 156 0 1]),oV 19 (.alloc [cZ,cZ,cZ,cZ,.c (.bool false),cZ,cZ]),oS 7 19 157],[],[(0,17),(2,17),(5,17),(8,17),(13,17),(16,17)]⟩) (rs [oF 158 15 4,oL 159 158,oY 160 159,oN 20 160] (sq (.block 2 (.loop (sq (rs [oM 161 20,oT 162 (bI .gtr 161 0),oP 163 162,tF 164 15 4 163,tL 165 164 163,tM 166 20 163,tT 167 (bI .sub 166 1) 163,tT 168 (.indexAddr 7 (.t 165) (.t 167)) 163,tT 169 (.fieldAddr 6 (.t 168)) 163,tL 170 169 163,tF 171 6 19 163,tL 172 171 163,tT 173 (bT .gtr 170 172) 163,vB 174 163 173] (cE 174 2)) (.block 3 (rg [oM 175 20,oT 176 (bI .sub 175 1),oN 20 176]))))) (sq (.region ⟨[oF 177 15 4,oL 178 177,oM 179 20,oM 180 20,oT 181 (.slice false 7 none (some (.t 179)) (some (.t 180)) (.t 178)),oK 182 7 19,oT 183 (.buildSlice 7 [.t 182]),oF 184 15 4,oL 185 184,oM 186 20,oT 187 (.slice false 7 (some (.t 186)) none none (.t 185)),oT 188 (.append 7 56 (.t 183) (.t 187)),oT 189 (.append 7 56 (.t 181) (.t 188)),oF 190 15 4,sT 1 190 189],[],[(4,5),(1,6),(4,6),(4,8),(6,8),(1,10),(4,10),(5,10),(6,10),(1,11),(4,11)]⟩) (rs [oK 191 16 4,oS 16 6 191,oV 7 (.move cT)] .ret)))))))))))))))))))
def vf139:=mF 3 [.cell (.v 6) (some 16),.tmp (.v 7)] (iv [0,5,6,5,14,7] [12,71,83,93,174]) Sx
def Sw:VCode:=rs [oX 2 2 0,oV 4 (.newArr 1)] (rs [oV 5 (.newArr 1)] (sq (rs [oF 7 0 2,oL 8 7,oY 9 8,oT 10 (bI .sub 9 1),oN 6 10] (.block 0 (.loop (sq (rs [oM 11 6,oV 12 (bI .geq 11 0)] (cE 12 0)) (sq (.block 1 (rs [oF 15 0 2,oL 16 15,oM 17 6,oA 18 6 16 17,oQ 19 0 18,oL 20 19,oM 21 1,oV 22 (bT .eql 20 21)] (cS 22 (rs [oM 23 5,oM 24 1,oT 25 (.buildSlice 1 [.t 24]),oT 26 (.append 1 8 (.t 23) (.t 25)),oN 5 26] (rg [oF 27 0 2,oL 28 27,oM 29 6,oA 30 6 28 29,oQ 31 1 30,oL 32 31,oN 1 32]))))) (rg [oM 13 6,oT 14 (bI .sub 13 1),oN 6 14])))))) (rs [oM 33 5,oN 4 33] .ret)))
def vf140:=mF 2 [.tmp (.v 4)] [0,1,2,4,5,6,12,22] Sw
def Sv:VCode:=rs [oX 1 5 0,oV 2 (.move cF)] (sq (rs [oF 5 0 1,oL 6 5,oF 7 1 1,oL 8 7,oF 9 2 1,oL 10 9,oF 11 3 1,oL 12 11,oF 13 4 1,oL 14 13,oV 15 (.buildArr 1 [.t 6,.t 8,.t 10,.t 12,.t 14]),oJ 16 0] (.block 0 (.loop (rs [oV 17 (.bin .lss (.v 16) (cI 5))] (sq (cE 17 0) (sq (.block 1 (rs [oT 18 (.indexArr 5 1 none (.v 15) (.v 16)),oN 4 18] (rs [oM 19 4,oT 20 (.call 170 [.t 19,.c (.int .i64 0),.c (.int .i64 1000000)]),oV 21 (nT 20)] (cS 21 (rs [oV 2 (.move cF)] .ret))))) (rg [oT 22 (.bin .add (.v 16) (cI 1)),oN 16 22]))))))) (rs [oV 2 (.move cT)] .ret))
def vf141:=mF 1 [.tmp (.v 2)] [0,1,2,4,15,16,17,21] Sv
def Su:VCode:=rs [oX 1 6 0,oV 2 (.move cF)] (rs [oF 3 0 1,oL 4 3,oT 5 (bI .eql 4 1),oP 6 5,tF 7 1 1 6,tL 8 7 6,tT 9 (bI .eql 8 0) 6,oB 10 6 9,oP 11 10,tF 12 2 1 11,tL 13 12 11,tT 14 (.bin .eql (.t 13) (.c (.str ⟨#[]⟩))) 11,oB 15 11 14,oP 16 15,tF 17 4 1 16,tL 18 17 16,tT 19 (bI .eql 18 0) 16,oB 20 16 19,oN 2 20] .ret)
def vf142:=mF 1 [.tmp (.v 2)] [0,1,2] Su
def Ss:VCode:=rs [oX 3 6 1,oV 4 (.move cF)] (sq (rs [oF 8 0 3,oL 9 8,oM 10 0,oM 11 0,oY 12 11,oT 13 (bI .sub 12 1),oA 14 6 10 13,oQ 15 0 14,oL 16 15,oT 17 (bT .leq 9 16),oP 18 17,fF 19 2 3 18,fL 20 19 18,fT 21 (cC 201 [20]) 18,fT 22 (nT 21) 18,oO 23 18 22,oP 24 23,fF 25 4 3 24,fL 26 25 24,fT 27 (bI .neq 26 0) 24,fT 28 (.move (.t 27)) 24,tF 29 4 3 28,tL 30 29 28,tT 31 (bI .neq 30 1) 28,fT 32 (.pick (.t 28) (.t 31) cF) 24,vO 33 24 32] (cS 33 (rs [oV 4 (.move cF)] .ret))) (rs [oV 5 (.move cF)] (sq (rs [oV 34 (.move (.v 0)),oV 35 (.len (.v 34)),oJ 36 0] (.block 0 (.loop (rs [oV 37 (.bin .lss (.v 36) (.v 35))] (sq (cE 37 0) (sq (.block 1 (rs [oT 38 (.indexAddr 6 (.v 34) (.v 36)),oR 39 6 38,oV 7 (.alloc [.c (.int .i64 0),.c (.int .i64 0),.c (.str ⟨#[]⟩),.c (.int .i64 0),.c (.int .i64 0),.c (.int .i64 0)]),oS 6 7 39] (rs [oM 40 5,oP 41 40,fF 42 0 7 41,fL 43 42 41,fF 44 1 3 41,fL 45 44 41,fT 46 (bT .eql 43 45) 41,oO 47 41 46,oN 5 47] (rs [oF 48 1 7,oL 49 48,oF 50 1 3,oL 51 50,oT 52 (bT .eql 49 51),oP 53 52,tF 54 2 7 53,tL 55 54 53,tF 56 2 3 53,tL 57 56 53,tT 58 (bT .eql 55 57) 53,vB 59 53 58] (cS 59 (rs [oV 4 (.move cF)] .ret)))))) (rg [oT 60 (.bin .add (.v 36) (cI 1)),oN 36 60]))))))) (rs [oM 61 5,oN 4 61] .ret))))
def vf143:=mF 2 [.tmp (.v 4)] (iv [33,5] [0,1,3,4,5,7,59]) Ss
def Sr:VCode:=rs [oJ 4 0] (sq (rs [oM 6 0,oV 7 (lT 6),oJ 8 0] (.block 0 (.loop (rs [oV 9 (.bin .lss (.v 8) (.v 7))] (sq (cE 9 0) (sq (.block 1 (rs [oM 10 8,oN 5 10] (rs [oM 11 1,oM 12 0,oM 13 5,oA 14 2 12 13,oR 15 2 14,oV 16 (.callv (.t 11) [.t 15])] (cS 16 (rs [oM 17 5,oN 4 17] .ret))))) (rg [oT 18 (.bin .add (.v 8) (cI 1)),oN 8 18]))))))) (rs [oJ 4 (-1)] .ret))
def vf144:=mF 2 [.tmp (.v 4)] [0,1,4,5,7,8,9,16] Sr
def Sq:VCode:=rs [oX 2 2 0,oV 4 (.alloc [.c (.int .i64 0),.c (.int .i64 0),.c (.str ⟨#[]⟩),.c (.int .i64 0),.c (.int .i64 0),.c (.int .i64 0)]),oV 5 (.move cF)] (rs [oK 7 2 2,oM 8 1,oC 9 202 [7,8],oN 6 9] (sq (rs [oM 10 6,oV 11 (bI .lss 10 0)] (cS 11 (rs [oT 12 (.build [zZ,zZ,.z (.c (.str ⟨#[]⟩)),zZ,zZ,zZ]),oS 6 4 12,oV 5 (.move cF)] .ret))) (rs [oF 13 0 2,oL 14 13,oM 15 6,oA 16 6 14 15,oR 17 6 16,oS 6 4 17,oV 5 (.move cT)] .ret)))
def vf145:=mF 2 [.cell (.v 4) (some 6),.tmp (.v 5)] [0,1,2,4,5,6,11] Sq
def Sp:VCode:=rs [oJ 4 0] (sq (rs [oM 6 0,oV 7 (lT 6),oJ 8 0] (.block 0 (.loop (rs [oV 9 (.bin .lss (.v 8) (.v 7))] (sq (cE 9 0) (sq (.block 1 (rs [oM 10 8,oN 5 10] (rs [oM 11 1,oM 12 0,oM 13 5,oA 14 21 12 13,oR 15 21 14,oV 16 (.callv (.t 11) [.t 15])] (cS 16 (rs [oM 17 5,oN 4 17] .ret))))) (rg [oT 18 (.bin .add (.v 8) (cI 1)),oN 8 18]))))))) (rs [oJ 4 (-1)] .ret))
def vf146:=mF 2 [.tmp (.v 4)] [0,1,4,5,7,8,9,16] Sp
def So:VCode:=rs [oJ 4 0] (sq (rs [oM 6 0,oV 7 (lT 6),oJ 8 0] (.block 0 (.loop (rs [oV 9 (.bin .lss (.v 8) (.v 7))] (sq (cE 9 0) (sq (.block 1 (rs [oM 10 8,oN 5 10] (rs [oM 11 1,oM 12 0,oM 13 5,oA 14 3 12 13,oR 15 3 14,oV 16 (.callv (.t 11) [.t 15])] (cS 16 (rs [oM 17 5,oN 4 17] .ret))))) (rg [oT 18 (.bin .add (.v 8) (cI 1)),oN 8 18]))))))) (rs [oJ 4 (-1)] .ret))
def vf147:=mF 2 [.tmp (.v 4)] [0,1,4,5,7,8,9,16] So
def Sn:VCode:=rs [oX 2 2 0,oV 4 (.move cF)] (rs [oF 8 0 2,oL 9 8,oM 10 1,oA 11 6 9 10,oR 12 6 11,oV 5 (.alloc [.c (.int .i64 0),.c (.int .i64 0),.c (.str ⟨#[]⟩),.c (.int .i64 0),.c (.int .i64 0),.c (.int .i64 0)]),oS 6 5 12] (sq (rs [oF 13 4 5,oL 14 13,oT 15 (bI .neq 14 0),oP 16 15,tF 17 4 5 16,tL 18 17 16,tT 19 (bI .neq 18 1) 16,oB 20 16 19,oP 21 20,fF 22 3 5 21,fL 23 22 21,fT 24 (bI .lss 23 0) 21,oO 25 21 24,oP 26 25,fF 27 3 5 26,fL 28 27 26,fT 29 (bI .gtr 28 31) 26,oO 30 26 29,oP 31 30,fF 32 5 5 31,fL 33 32 31,fT 34 (bI .lss 33 0) 31,oO 35 31 34,oP 36 35,fF 37 5 5 36,fL 38 37 36,fT 39 (bI .gtr 38 1048576) 36,vO 40 36 39] (cS 40 (rs [oV 4 (.move cF)] .ret))) (sq (rs [oM 41 1,oV 42 (bI .eql 41 0)] (cS 42 (rs [oF 43 0 5,oL 44 43,oT 45 (bI .eql 44 1),oP 46 45,tF 47 1 5 46,tL 48 47 46,tT 49 (bI .eql 48 0) 46,oB 50 46 49,oP 51 50,tF 52 2 5 51,tL 53 52 51,tT 54 (.bin .eql (.t 53) (.c (.str ⟨#[]⟩))) 51,oB 55 51 54,oP 56 55,tF 57 4 5 56,tL 58 57 56,tT 59 (bI .eql 58 0) 56,oB 60 56 59,oN 4 60] .ret))) (sq (rs [oF 61 0 5,oL 62 61,oF 63 0 2,oL 64 63,oM 65 1,oT 66 (bI .sub 65 1),oA 67 6 64 66,oQ 68 0 67,oL 69 68,oT 70 (bT .leq 62 69),oP 71 70,fF 72 2 5 71,fL 73 72 71,fT 74 (cC 97 [73]) 71,fT 75 (nT 74) 71,vO 76 71 75] (cS 76 (rs [oV 4 (.move cF)] .ret))) (rs [oV 6 (.move cF)] (sq (rs [oJ 7 0] (.block 0 (.loop (sq (rs [oM 77 7,oM 78 1,oU 79 77 78] (cE 79 0)) (sq (.block 1 (rs [oM 82 6,oP 83 82,fF 84 0 2 83,fL 85 84 83,fM 86 7 83,fT 87 (.indexAddr 6 (.t 85) (.t 86)) 83,fT 88 (.fieldAddr 0 (.t 87)) 83,fL 89 88 83,fF 90 1 5 83,fL 91 90 83,fT 92 (bT .eql 89 91) 83,oO 93 83 92,oN 6 93] (rs [oF 94 0 2,oL 95 94,oM 96 7,oA 97 6 95 96,oQ 98 1 97,oL 99 98,oF 100 1 5,oL 101 100,oT 102 (bT .eql 99 101),oP 103 102,tF 104 0 2 103,tL 105 104 103,tM 106 7 103,tT 107 (.indexAddr 6 (.t 105) (.t 106)) 103,tT 108 (.fieldAddr 2 (.t 107)) 103,tL 109 108 103,tF 110 2 5 103,tL 111 110 103,tT 112 (bT .eql 109 111) 103,vB 113 103 112] (cS 113 (rs [oV 4 (.move cF)] .ret))))) (rg [oM 80 7,oI 81 80,oN 7 81])))))) (rs [oM 114 6,oN 4 114] .ret)))))))
def vf149:=mF 2 [.tmp (.v 4)] [0,1,2,4,5,6,7,40,42,76,79,113] Sn
def Sm:VCode:=rs [oX 2 2 0,oV 4 (.alloc [.c (.int .i64 0),.c (.int .i64 0),.c (.str ⟨#[]⟩),.c (.int .i64 0),.c (.int .i64 0),.c (.int .i64 0)]),oV 5 (.move cF)] (sq (rs [oK 7 2 2,oC 8 82 [7],oV 9 (nT 8)] (cS 9 (rs [oT 10 (.build [zZ,zZ,.z (.c (.str ⟨#[]⟩)),zZ,zZ,zZ]),oS 6 4 10,oV 5 (.move cF)] .ret))) (sq (rs [oJ 6 0] (.block 0 (.loop (sq (rs [oM 11 6,oF 12 0 2,oL 13 12,oY 14 13,oU 15 11 14] (cE 15 0)) (sq (.block 1 (rs [oF 18 0 2,oL 19 18,oM 20 6,oA 21 6 19 20,oQ 22 0 21,oL 23 22,oM 24 1,oV 25 (bT .eql 23 24)] (cS 25 (rs [oF 26 0 2,oL 27 26,oM 28 6,oA 29 6 27 28,oR 30 6 29,oS 6 4 30,oV 5 (.move cT)] .ret)))) (rg [oM 16 6,oI 17 16,oN 6 17])))))) (rs [oT 31 (.build [zZ,zZ,.z (.c (.str ⟨#[]⟩)),zZ,zZ,zZ]),oS 6 4 31,oV 5 (.move cF)] .ret)))
def vf150:=mF 2 [.cell (.v 4) (some 6),.tmp (.v 5)] [0,1,2,4,5,6,9,15,25] Sm
def Sl:VCode:=rs [oX 2 2 0,oV 4 (.move cF)] (sq (rs [oK 6 2 2,oC 7 82 [6],oV 8 (nT 7)] (cS 8 (rs [oV 4 (.move cF)] .ret))) (sq (rs [oJ 5 0] (.block 0 (.loop (sq (rs [oM 9 5,oM 10 1,oY 11 10,oU 12 9 11] (cE 12 0)) (sq (.block 1 (rs [oK 15 2 2,oM 16 1,oM 17 5,oA 18 2 16 17,oQ 19 0 18,oL 20 19,oC 21 83 [15,20],oT 22 (nT 21),oP 23 22,fM 24 5 23,fT 25 (bI .gtr 24 0) 23,fT 26 (.move (.t 25)) 23,tM 27 1 26,tM 28 5 26,tT 29 (.indexAddr 2 (.t 27) (.t 28)) 26,tT 30 (.fieldAddr 0 (.t 29)) 26,tL 31 30 26,tM 32 1 26,tM 33 5 26,tT 34 (bI .sub 33 1) 26,tT 35 (.indexAddr 2 (.t 32) (.t 34)) 26,tT 36 (.fieldAddr 0 (.t 35)) 26,tL 37 36 26,tT 38 (bT .leq 31 37) 26,fT 39 (.pick (.t 26) (.t 38) cF) 23,oO 40 23 39,oP 41 40,fM 42 1 41,fM 43 5 41,fT 44 (.indexAddr 2 (.t 42) (.t 43)) 41,fT 45 (.fieldAddr 1 (.t 44)) 41,fL 46 45 41,fT 47 (bI .lss 46 1) 41,oO 48 41 47,oP 49 48,fM 50 1 49,fM 51 5 49,fT 52 (.indexAddr 2 (.t 50) (.t 51)) 49,fT 53 (.fieldAddr 1 (.t 52)) 49,fL 54 53 49,fT 55 (bI .gtr 54 10000) 49,vO 56 49 55] (cS 56 (rs [oV 4 (.move cF)] .ret)))) (rg [oM 13 5,oI 14 13,oN 5 14])))))) (rs [oV 4 (.move cT)] .ret)))
def vf151:=mF 2 [.tmp (.v 4)] [0,1,2,4,5,8,12,56] Sl
def Sk:VCode:=rs [oX 2 2 0,oV 4 (.move cF)] (sq (rs [oK 7 2 2,oC 8 82 [7],oV 9 (nT 8)] (cS 9 (rs [oV 4 (.move cF)] .ret))) (sq (rs [oJ 5 0] (.block 0 (.loop (sq (rs [oM 10 5,oM 11 1,oY 12 11,oU 13 10 12] (cE 13 0)) (sq (.block 1 (rs [oM 16 1,oM 17 5,oA 18 3 16 17,oR 19 3 18,oV 6 (.alloc [cZ,cZ,cZ]),oS 3 6 19] (rs [oK 20 2 2,oF 21 0 6,oL 22 21,oC 23 83 [20,22],oT 24 (nT 23),oP 25 24,fM 26 5 25,fT 27 (bI .gtr 26 0) 25,fT 28 (.move (.t 27)) 25,tF 29 0 6 28,tL 30 29 28,tM 31 1 28,tM 32 5 28,tT 33 (bI .sub 32 1) 28,tT 34 (.indexAddr 3 (.t 31) (.t 33)) 28,tT 35 (.fieldAddr 0 (.t 34)) 28,tL 36 35 28,tT 37 (bT .leq 30 36) 28,fT 38 (.pick (.t 28) (.t 37) cF) 25,oO 39 25 38,oP 40 39,fF 41 1 6 40,fL 42 41 40,fT 43 (bI .lss 42 0) 40,oO 44 40 43,oP 45 44,fF 46 1 6 45,fL 47 46 45,fT 48 (bI .gtr 47 1048576) 45,oO 49 45 48,oP 50 49,fF 51 2 6 50,fL 52 51 50,fT 53 (bI .lss 52 1) 50,oO 54 50 53,oP 55 54,fF 56 2 6 55,fL 57 56 55,fT 58 (bI .gtr 57 256) 55,vO 59 55 58] (cS 59 (rs [oV 4 (.move cF)] .ret))))) (rg [oM 14 5,oI 15 14,oN 5 15])))))) (rs [oV 4 (.move cT)] .ret)))
def vf152:=mF 2 [.tmp (.v 4)] [0,1,2,4,5,6,9,13,59] Sk
def Sj:VCode:=rs [oX 1 5 0,oV 2 (.move cF)] (sq (rs [oF 3 1 1,oL 4 3,oT 5 (bI .lss 4 1),oP 6 5,fF 7 1 1 6,fL 8 7 6,fT 9 (bI .gtr 8 1048576) 6,oO 10 6 9,oP 11 10,fF 12 4 1 11,fL 13 12 11,fT 14 (bI .lss 13 0) 11,oO 15 11 14,oP 16 15,fF 17 4 1 16,fL 18 17 16,fT 19 (bI .gtr 18 1048576) 16,vO 20 16 19] (cS 20 (rs [oV 2 (.move cF)] .ret))) (sq (rs [oF 21 0 1,oL 22 21,oV 23 (bI .eql 22 4611686018427387904)] (cS 23 (rs [oF 24 2 1,oL 25 24,oT 26 (bI .eql 25 0),oP 27 26,tF 28 3 1 27,tL 29 28 27,tT 30 (bI .eql 29 0) 27,oB 31 27 30,oN 2 31] .ret))) (rs [oF 32 0 1,oL 33 32,oT 34 (bI .geq 33 0),oP 35 34,tF 36 0 1 35,tL 37 36 35,tT 38 (bI .leq 37 1073741824) 35,oB 39 35 38,oP 40 39,tF 41 2 1 40,tL 42 41 40,tT 43 (bI .geq 42 0) 40,oB 44 40 43,oP 45 44,tF 46 2 1 45,tL 47 46 45,tT 48 (bI .leq 47 1073741824) 45,oB 49 45 48,oP 50 49,tF 51 3 1 50,tL 52 51 50,tT 53 (bI .geq 52 0) 50,oB 54 50 53,oP 55 54,tF 56 3 1 55,tL 57 56 55,tF 58 2 1 55,tL 59 58 55,tF 60 1 1 55,tL 61 60 55,tT 62 (bT .mul 59 61) 55,tT 63 (bT .leq 57 62) 55,oB 64 55 63,oN 2 64] .ret)))
def vf153:=mF 1 [.tmp (.v 2)] [0,1,2,20,23] Sj
def JL:VCode:=rs [oX 2 2 0,oX 3 6 1,oV 4 (.move cF)] (rs [oK 5 6 3,oC 6 194 [5],oP 7 6,tT 8 (ldV 2 2) 7,tF 9 1 3 7,tL 10 9 7,tT 11 (cC 83 [8,10]) 7,oB 12 7 11,oN 4 12] .ret)
def vf154:=mF 2 [.tmp (.v 4)] (iv [0,5] []) JL
def Si:VCode:=rs [oV 6 (.move cF)] (rs [oM 7 0,oM 8 1,oT 9 (bT .geq 7 8),oP 10 9,tM 11 0 10,tM 12 2 10,tT 13 (bT .leq 11 12) 10,oB 14 10 13,oP 15 14,fM 16 0 15,fT 17 (bI .eql 16 4611686018427387904) 15,oO 18 15 17,oN 6 18] .ret)
def vf155:=mF 3 [.tmp (.v 6)] [0,1,2,6] Si
def Sh:VCode:=rs [oX 2 2 0,oV 3 (.move cF)] (rs [oF 4 0 2,oL 5 4,oT 6 (.load none (.v 1)),oT 7 (bT .eql 5 6),oN 3 7] .ret)
def vf156:=mF 2 [.tmp (.v 3)] [0,1,2,3] Sh
def zcL:VCode:=rs [oX 2 2 0,oX 3 2 1,oJ 4 0] (rs [oF 5 0 2,oL 6 5,oF 7 0 3,oL 8 7,oT 9 (bT .sub 6 8),oN 4 9] .ret)
def vf158:=mF 2 [.tmp (.v 4)] (iv [0,5] []) zcL
def Sf:VCode:=rs [oX 3 1 1,oJ 4 0] (rs [oM 5 0,oT 6 (kT 5),oQ 7 0 6,oQ 8 11 7,oL 9 8,oT 10 (.makeFunc 204 [.v 3]),oC 11 146 [9,10],oN 4 11] .ret)
def vf159:=mF 2 [.tmp (.v 4)] [0,1,3,4] Sf
def Se:VCode:=rs [oX 6 5 1,oV 10 (.alloc [cZ,cZ,cZ,cZ,cZ])] (rs [oM 13 3,oM 14 4,oT 15 (.minmax true [.t 13,.t 14]),oN 11 15] (sq (rs [oM 16 3,oV 17 (bI .eql 16 4611686018427387904)] (cS 17 (rg [oJ 11 0]))) (rs [oV 12 (.alloc [cZ,cZ,cZ,cZ,cZ])] (sq (rs [oV 18 (.move (.v 2))] (.cond (.v 18) (rg [oK 20 5 6,oM 21 3,oM 22 11,oM 23 0,oT 24 (kT 23),oQ 25 0 24,oQ 26 7 25,oL 27 26,oT 28 (.call 205 [.t 20,.t 21,.c (.int .i64 100),.t 22,.t 27]),oP 19 28,oE 29 19 0,oE 30 19 1,oS 5 12 29]) (rg [oM 32 3,oM 33 11,oM 34 0,oT 35 (kT 34),oQ 36 0 35,oQ 37 7 36,oL 38 37,oT 39 (.call 206 [.t 32,.c (.int .i64 100),.t 33,.t 38]),oP 31 39,oE 40 31 0,oE 41 31 1,oS 5 12 40]))) (rs [oK 42 5 12,oS 5 10 42] .ret)))))
def vf161:=mF 5 [.cell (.v 10) (some 5)] (iv [0,5] [6,10,11,12,17,18]) Se
def zcK:VCode:=rs [oX 2 21 0,oX 3 21 1,oJ 4 0] (rs [oF 5 0 2,oL 6 5,oF 7 0 3,oL 8 7,oT 9 (bT .sub 6 8),oN 4 9] .ret)
def vf163:=mF 2 [.tmp (.v 4)] (iv [0,5] []) zcK
def Sd:VCode:=rs [oV 4 (.alloc [cZ,cZ,cZ])] (sq (rs [oV 7 (.move (.v 0)),oV 8 (.len (.v 7)),oJ 9 0] (.block 0 (.loop (rs [oV 10 (.bin .lss (.v 9) (.v 8))] (sq (cE 10 0) (sq (.block 1 (rs [oT 11 (.indexAddr 3 (.v 7) (.v 9)),oR 12 3 11,oV 6 (.alloc [cZ,cZ,cZ]),oS 3 6 12] (rs [oF 13 0 6,oL 14 13,oM 15 1,oV 16 (bT .eql 14 15)] (cS 16 (rs [oK 17 3 6,oS 3 4 17] .ret))))) (rg [oT 18 (.bin .add (.v 9) (cI 1)),oN 9 18]))))))) (rs [oM 19 1,oC 20 208 [19],oS 3 4 20] .ret))
def vf164:=mF 2 [.cell (.v 4) (some 3)] (iv [6,5] [0,1,4,16]) Sd
def Sc:VCode:=rs [oX 2 3 0,oV 3 (.move cF)] (rs [oF 4 0 2,oL 5 4,oT 6 (.load none (.v 1)),oT 7 (bT .eql 5 6),oN 3 7] .ret)
def vf165:=mF 2 [.tmp (.v 3)] [0,1,2,3] Sc
def zcJ:VCode:=rs [oX 2 3 0,oX 3 3 1,oJ 4 0] (rs [oF 5 0 2,oL 6 5,oF 7 0 3,oL 8 7,oT 9 (bT .sub 6 8),oN 4 9] .ret)
def vf167:=mF 2 [.tmp (.v 4)] (iv [0,5] []) zcJ
def Sb:VCode:=rs [oX 3 2 0,oX 4 16 1,oX 5 6 2,oV 6 (.move cF)] (sq (.region ⟨[oK 15 2 3,oF 16 12 4,oL 17 16,oK 18 2 3,oK 19 16 4,oC 20 211 [18,19],oF 21 1 5,oL 22 21,oC 23 210 [15,17,20,22],oP 14 23,oE 24 14 0,oE 25 14 1,oN 7 24,oN 8 25],[],[(0,5),(2,5),(5,7)]⟩) (rs [oK 26 2 3,oF 27 1 5,oL 28 27,oC 29 62 [26,28],oN 9 29] (sq (rs [oJ 10 0] (.block 0 (.loop (sq (rs [oM 30 10,oM 31 9,oY 32 31,oU 33 30 32] (cE 33 0)) (sq (.block 1 (rs [oK 36 16 4,oM 37 9,oM 38 10,oA 39 1 37 38,oL 40 39,oC 41 192 [36,40],oN 11 41] (rs [oM 42 11,oV 43 (bI .geq 42 0)] (cS 43 (sq (.region ⟨[oF 45 11 4,oL 46 45,oM 47 11,oA 48 21 46 47,oR 49 21 48,oK 50 6 5,oF 51 7 4,oL 52 51,oC 53 200 [49,50,52],oP 44 53,oE 54 44 0,oE 55 44 1,oT 12 (.alloc [cZ,cZ,cZ,cZ,cZ,cZ,cZ,cZ,cZ,cZ,cZ,cZ,cZ,cZ,cZ,cZ,cZ,cZ,cZ,cZ,cZ]),sT 21 12 54,oN 13 55],[],[(1,12),(3,12),(4,12),(5,12),(7,12),(8,12)]⟩) (rg [oM 56 7,oP 57 56,tM 58 13 57,oB 59 57 58,oN 7 59])))))) (rg [oM 34 10,oI 35 34,oN 10 35])))))) (rs [oM 60 7,oP 61 60,tM 62 8 61,tT 63 (bI .eql 62 0) 61,oB 64 61 63,oN 6 64] .ret))))
def vf168:=mF 3 [.tmp (.v 6)] (iv [0,12] [13,33,43]) Sb
def Sa:VCode:=rs [oX 2 6 0,oV 3 (.move cF)] (rs [oF 4 0 2,oL 5 4,oT 6 (.load none (.v 1)),oT 7 (bT .eql 5 6),oN 3 7] .ret)
def vf169:=mF 2 [.tmp (.v 3)] [0,1,2,3] Sa
def R9:VCode:=rs [oV 6 (.move cF)] (rs [oM 7 0,oM 8 1,oT 9 (bT .geq 7 8),oP 10 9,tM 11 0 10,tM 12 2 10,tT 13 (bT .leq 11 12) 10,oB 14 10 13,oN 6 14] .ret)
def vf170:=mF 3 [.tmp (.v 6)] [0,1,2,6] R9
def R8:VCode:=rs [oX 2 2 0,oV 4 (.move cF)] (rs [oK 8 2 2,oM 9 1,oC 10 145 [8,9],oP 7 10,oE 11 7 0,oE 12 7 1,oT 5 (.alloc [.c (.int .i64 0),.c (.int .i64 0),.c (.str ⟨#[]⟩),.c (.int .i64 0),.c (.int .i64 0),.c (.int .i64 0)]),sT 6 5 11,oN 6 12] (rs [oM 13 6,oN 4 13] .ret))
def vf171:=mF 2 [.tmp (.v 4)] [0,1,2,4,6] R8
def R7:VCode:=rs [oV 6 (.move cF)] (rs [oM 7 0,oM 8 1,oT 9 (bT .geq 7 8),oP 10 9,tM 11 0 10,tM 12 2 10,tT 13 (bT .leq 11 12) 10,oB 14 10 13,oN 6 14] .ret)
def vf172:=mF 3 [.tmp (.v 6)] [0,1,2,6] R7
def R6:VCode:=rs [oV 6 (.move cF)] (rs [oM 7 0,oM 8 1,oT 9 (bT .geq 7 8),oP 10 9,tM 11 0 10,tM 12 2 10,tT 13 (bT .leq 11 12) 10,oB 14 10 13,oN 6 14] .ret)
def vf173:=mF 3 [.tmp (.v 6)] [0,1,2,6] R6
def Fp:VCode:=rs [oX 1 5 0,oV 2 (.move cF)] (sq (rs [oF 3 1 1,oL 4 3,oT 5 (.call 175 [.t 4,.c (.int .i64 1),.c (.int .i64 1048576)]),oT 6 (nT 5),oP 7 6,fF 8 4 1 7,fL 9 8 7,fT 10 (.call 175 [.t 9,.c (.int .i64 0),.c (.int .i64 1048576)]) 7,fT 11 (nT 10) 7,vO 12 7 11] (cS 12 (rs [oV 2 (.move cF)] .ret))) (sq (rs [oK 13 5 1,oV 14 (cC 176 [13])] (cS 14 (rs [oF 15 2 1,oL 16 15,oT 17 (bI .eql 16 0),oP 18 17,tF 19 3 1 18,tL 20 19 18,tT 21 (bI .eql 20 0) 18,oB 22 18 21,oN 2 22] .ret))) (rs [oF 23 0 1,oL 24 23,oT 25 (.call 175 [.t 24,.c (.int .i64 0),.c (.int .i64 1073741824)]),oP 26 25,tF 27 2 1 26,tL 28 27 26,tT 29 (.call 175 [.t 28,.c (.int .i64 0),.c (.int .i64 1073741824)]) 26,oB 30 26 29,oP 31 30,tF 32 3 1 31,tL 33 32 31,tF 34 2 1 31,tL 35 34 31,tF 36 1 1 31,tL 37 36 31,tT 38 (bT .mul 35 37) 31,tT 39 (.call 175 [.t 33,.c (.int .i64 0),.t 38]) 31,oB 40 31 39,oN 2 40] .ret)))
def vf174:=mF 1 [.tmp (.v 2)] [0,1,2,12,14] Fp
def R5:VCode:=rs [oV 6 (.move cF)] (rs [oM 7 0,oM 8 1,oT 9 (bT .geq 7 8),oP 10 9,tM 11 0 10,tM 12 2 10,tT 13 (bT .leq 11 12) 10,oB 14 10 13,oN 6 14] .ret)
def vf175:=mF 3 [.tmp (.v 6)] [0,1,2,6] R5
def R4:VCode:=rs [oX 1 5 0,oV 2 (.move cF)] (rs [oF 3 0 1,oL 4 3,oT 5 (bI .eql 4 4611686018427387904),oN 2 5] .ret)
def vf176:=mF 1 [.tmp (.v 2)] [0,1,2] R4
def R3:VCode:=rs [oX 4 2 0,oV 8 (.move cF),oJ 9 0] (sq (rs [oK 22 2 4,oM 23 1,oC 24 111 [22,23],oV 25 (nT 24)] (cS 25 (rs [oV 8 (.move cF),oJ 9 1] .ret))) (rs [oT 26 (.makeMap (.int .i64)),oN 10 26] (sq (rs [oV 27 (.move (.v 2)),oV 28 (.len (.v 27)),oJ 29 0] (.block 0 (.loop (rs [oV 30 (.bin .lss (.v 29) (.v 28))] (sq (cE 30 0) (sq (.block 1 (rs [oM 31 29,oT 32 (.indexAddr 2 (.v 27) (.v 29)),oR 33 2 32,oV 12 (.alloc [cZ,cZ]),oN 11 31,oS 2 12 33] (sq (rs [oK 35 2 4,oF 36 0 12,oL 37 36,oC 38 145 [35,37],oP 34 38,oE 39 34 0,oE 40 34 1,oT 13 (.alloc [.c (.int .i64 0),.c (.int .i64 0),.c (.str ⟨#[]⟩),.c (.int .i64 0),.c (.int .i64 0),.c (.int .i64 0)]),sT 6 13 39,oN 14 40] (rs [oM 41 14,oT 42 (nT 41),oP 43 42,fM 44 11 43,fT 45 (bI .gtr 44 0) 43,fT 46 (.move (.t 45)) 43,tF 47 0 12 46,tL 48 47 46,tM 49 2 46,tM 50 11 46,tT 51 (bI .sub 50 1) 46,tT 52 (.indexAddr 2 (.t 49) (.t 51)) 46,tT 53 (.fieldAddr 0 (.t 52)) 46,tL 54 53 46,tT 55 (bT .leq 48 54) 46,fT 56 (.pick (.t 46) (.t 55) cF) 43,oO 57 43 56,oP 58 57,fF 59 1 12 58,fL 60 59 58,fT 61 (.call 173 [.t 60,.c (.int .i64 0),.c (.int .i64 256)]) 58,fT 62 (nT 61) 58,vO 63 58 62] (cS 63 (rs [oV 8 (.move cF),oJ 9 1] .ret)))) (rg [oM 64 10,oF 65 0 12,oL 66 65,oF 67 1 12,oL 68 67,oZ (.mapUpdate (.int .i64) (.t 64) (.t 66) (.t 68))])))) (rg [oT 69 (.bin .add (.v 29) (cI 1)),oN 29 69]))))))) (sq (rs [oK 71 2 4,oM 72 3,oC 73 145 [71,72],oP 70 73,oE 74 70 0,oE 75 70 1,oT 15 (.alloc [.c (.int .i64 0),.c (.int .i64 0),.c (.str ⟨#[]⟩),.c (.int .i64 0),.c (.int .i64 0),.c (.int .i64 0)]),sT 6 15 74,oN 16 75] (rs [oM 76 16,oV 77 (nT 76)] (cS 77 (rs [oV 8 (.move cF),oJ 9 4] .ret)))) (sq (rs [oK 78 2 4,oM 79 3,oV 80 (cC 179 [78,79]),oV 81 (.len (.v 80)),oJ 82 0] (.block 2 (.loop (sq (.region ⟨[oV 83 (.bin .lss (.v 82) (.v 81))],[88],[]⟩) (sq (cE 83 2) (sq (.block 3 (rs [oT 84 (.indexAddr 1 (.v 80) (.v 82)),oL 85 84,oN 18 85] (rs [oJ 19 0] (sq (rs [oK 86 2 4,oM 87 18,oV 88 (cC 212 [86,87]),oV 89 (.len (.v 88)),oJ 90 0] (.block 4 (.loop (rs [oV 91 (.bin .lss (.v 90) (.v 89))] (sq (cE 91 4) (sq (.block 5 (rs [oT 92 (.indexAddr 1 (.v 88) (.v 90)),oL 93 92,oN 21 93] (rg [oM 94 19,oM 95 10,oM 96 21,oT 97 (.lookup false (.int .i64) (.int .i64 0) (.t 95) (.t 96)),oT 98 (bT .add 94 97),oN 19 98]))) (rg [oT 99 (.bin .add (.v 90) (cI 1)),oN 90 99]))))))) (rs [oM 100 19,oM 101 1,oM 102 18,oC 103 164 [101,102],oT 104 (.field 2 none (.t 103)),oV 105 (bT .geq 100 104)] (cS 105 (rs [oV 8 (.move cF),oJ 9 0] .ret))))))) (rg [oT 106 (.bin .add (.v 82) (cI 1)),oN 82 106]))))))) (rs [oV 8 (.move cT),oJ 9 0] .ret))))))
def vf177:=mF 4 [.tmp (.v 8),.tmp (.v 9)] (iv [0,5,8,5,27,4,80,4,88,4] [14,16,18,19,21,25,63,77,105]) R3
def R2:VCode:=rs [oV 2 (.newArr 2)] (rs [oT 9 (.makeMap (.int .i64)),oN 3 9] (sq (rs [oM 10 0,oT 11 (kT 10),oQ 12 0 11,oQ 13 15 12,oV 14 (.load none (.t 13)),oV 15 (.len (.v 14)),oJ 16 0] (.block 0 (.loop (rs [oV 17 (.bin .lss (.v 16) (.v 15))] (sq (cE 17 0) (sq (.block 1 (rs [oT 18 (.indexAddr 7 (.v 14) (.v 16)),oR 19 7 18,oV 5 (.alloc [cZ,cZ,cZ,cZ,.c (.bool false),cZ,cZ]),oS 7 5 19] (rg [oM 20 3,oF 21 0 5,oQ 22 1 21,oL 23 22,oT 24 (.lookup false (.int .i64) (.int .i64 0) (.t 20) (.t 23)),oI 25 24,oZ (.mapUpdate (.int .i64) (.t 20) (.t 23) (.t 25))]))) (rg [oT 26 (.bin .add (.v 16) (cI 1)),oN 16 26]))))))) (rs [oV 6 (.newArr 2)] (sq (rs [oM 27 0,oT 28 (kT 27),oQ 29 16 28,oQ 30 0 29,oV 31 (.load none (.t 30)),oV 32 (.len (.v 31)),oJ 33 0] (.block 2 (.loop (rs [oV 34 (.bin .lss (.v 33) (.v 32))] (sq (cE 34 2) (sq (.block 3 (rs [oT 35 (.indexAddr 6 (.v 31) (.v 33)),oR 36 6 35,oV 8 (.alloc [.c (.int .i64 0),.c (.int .i64 0),.c (.str ⟨#[]⟩),.c (.int .i64 0),.c (.int .i64 0),.c (.int .i64 0)]),oS 6 8 36] (rs [oM 37 3,oF 38 0 8,oL 39 38,oT 40 (.lookup false (.int .i64) (.int .i64 0) (.t 37) (.t 39)),oV 41 (bI .gtr 40 0)] (cS 41 (rg [oM 42 6,oF 43 0 8,oL 44 43,oM 45 3,oF 46 0 8,oL 47 46,oT 48 (.lookup false (.int .i64) (.int .i64 0) (.t 45) (.t 47)),oT 49 (.build [aT 44 0 1,aT 48 0 1]),oT 50 (.buildSlice 2 [.t 49]),oT 51 (.append 2 16 (.t 42) (.t 50)),oN 6 51]))))) (rg [oT 52 (.bin .add (.v 33) (cI 1)),oN 33 52]))))))) (rs [oM 53 6,oN 2 53] .ret)))))
def vf178:=mF 1 [.tmp (.v 2)] (iv [14,4,31,4] [0,2,3,5,6,8,41]) R2
def R1:VCode:=rs [oX 2 2 0,oV 4 (.newArr 1)] (rs [oV 5 (.newArr 1)] (sq (rs [oF 8 0 2,oL 9 8,oV 10 (lT 9),oJ 11 0] (.block 0 (.loop (rs [oV 12 (.bin .lss (.v 11) (.v 10))] (sq (cE 12 0) (sq (.block 1 (rs [oK 14 2 2,oM 15 1,oC 16 145 [14,15],oP 13 16,oE 17 13 0,oE 18 13 1,oV 6 (.alloc [.c (.int .i64 0),.c (.int .i64 0),.c (.str ⟨#[]⟩),.c (.int .i64 0),.c (.int .i64 0),.c (.int .i64 0)]),oS 6 6 17,oN 7 18] (sq (rs [oM 19 7,oV 20 (nT 19)] (cS 20 (.exit 0))) (rs [oM 21 5,oM 22 1,oT 23 (.buildSlice 1 [.t 22]),oT 24 (.append 1 8 (.t 21) (.t 23)),oN 5 24] (rg [oF 25 1 6,oL 26 25,oN 1 26]))))) (rg [oT 27 (.bin .add (.v 11) (cI 1)),oN 11 27]))))))) (rs [oM 28 5,oN 4 28] .ret)))
def vf179:=mF 2 [.tmp (.v 4)] [0,1,2,4,5,6,7,10,11,12,20] R1
def Ma:VCode:=rs [oV 4 (.move (.c (.nilp))),oV 5 (.move (.c (.nilp)))] (sq (rs [oV 6 (.move (.v 1))] (cS 6 (rs [oM 7 0,oT 8 (kT 7),oQ 9 6 8,oM 10 0,oT 11 (kT 10),oQ 12 16 11,oN 4 9,oN 5 12] .ret))) (rs [oM 13 0,oT 14 (kT 13),oQ 15 1 14,oM 16 0,oT 17 (kT 16),oQ 18 11 17,oN 4 15,oN 5 18] .ret))
def vf180:=mF 2 [.tmp (.v 4),.tmp (.v 5)] [0,1,4,5,6] Ma
def R0:VCode:=rs [oX 1 5 0,oJ 2 0] (sq (.block 0 (rs [oK 4 5 1,oC 5 174 [4],oT 6 (nT 5),oN 3 6] (.cond (.v 3) (rs [oJ 2 0] .ret) (rs [oK 8 5 1,oC 9 176 [8],oN 7 9] (cS 7 (rs [oJ 2 1073741824] .ret)))))) (rs [oF 10 3 1,oL 11 10,oF 12 1 1,oL 13 12,oT 14 (bT .quo 11 13),oN 2 14] .ret))
def vf181:=mF 1 [.tmp (.v 2)] [0,1,2,3,7] R0
def RZ:VCode:=rs [oX 3 5 0,oJ 6 0] (sq (rs [oK 7 5 3,oC 8 141 [7],oT 9 (nT 8),oP 10 9,fM 11 1 10,fT 12 (.call 224 [.t 11,.c (.fn 225)]) 10,vO 13 10 12] (cS 13 (rs [oJ 6 1] .ret))) (sq (rs [oM 14 2,oT 15 (.call 170 [.t 14,.c (.int .i64 0),.c (.int .i64 16777216)]),oV 16 (nT 15)] (cS 16 (rs [oJ 6 3] .ret))) (rs [oJ 6 0] .ret)))
def vf184:=mF 3 [.tmp (.v 6)] [0,1,2,3,6,13,16] RZ
def JK:VCode:=rs [oX 3 5 0,oX 4 6 1,oJ 6 0] (rs [oJ 7 0] (sq (rs [oF 9 4 4,oV 10 (.load none (.t 9))] (cS 10 (rg [oJ 7 1]))) (rs [oF 11 0 3,oL 12 11,oF 13 2 3,oL 14 13,oT 15 (.buildArr 1 [.t 12,.t 14]),oM 16 7,oT 17 (.indexArr 2 1 none (.t 15) (.t 16)),oF 18 1 3,oL 19 18,oF 20 3 3,oL 21 20,oT 22 (.buildArr 1 [.t 19,.t 21]),oM 23 7,oT 24 (.indexArr 2 1 none (.t 22) (.t 23)),oF 25 3 4,oL 26 25,oT 27 (bT .mul 24 26),oT 28 (bT .add 17 27),oN 8 28] (sq (rs [oF 29 2 4,oL 30 29,oM 31 2,oV 32 (bT .neq 30 31)] (cS 32 (rg [oM 33 8,oF 34 4 3,oL 35 34,oT 36 (bT .add 33 35),oN 8 36]))) (rs [oM 37 8,oN 6 37] .ret)))))
def vf185:=mF 3 [.tmp (.v 6)] (iv [0,5] [6,7,8,10,32]) JK
def RY:VCode:=rs [oX 3 2 0,oV 6 (.move (.c (.map .bool [] [])))] (rs [oT 10 (.makeMap (.int .i64)),oN 7 10] (sq (sq (.region ⟨[oK 11 2 3,oM 12 1,oK 13 2 3,oM 14 2,oC 15 227 [13,14],oV 16 (.call 226 [.t 11,.t 12,.t 15,.c (.int .i64 1),.c (.int .i64 1073741824)]),oV 17 (.len (.v 16)),oJ 18 0],[],[(0,4)]⟩) (.block 0 (.loop (rs [oV 19 (.bin .lss (.v 18) (.v 17))] (sq (cE 19 0) (sq (.block 1 (rs [oT 20 (.indexAddr 2 (.v 16) (.v 18)),oR 21 2 20,oV 9 (.alloc [cZ,cZ]),oS 2 9 21] (rg [oM 22 7,oF 23 0 9,oL 24 23,oF 25 1 9,oL 26 25,oZ (.mapUpdate (.int .i64) (.t 22) (.t 24) (.t 26))]))) (rg [oT 27 (.bin .add (.v 18) (cI 1)),oN 18 27]))))))) (rs [oM 28 7,oN 6 28] .ret)))
def vf186:=mF 3 [.tmp (.v 6)] (iv [0,4,16,4] [6,7,9]) RY
def RX:VCode:=rs [oV 6 (.newArr 2)] (rs [oV 7 (.newArr 2)] (rs [oV 8 (.move cF)] (sq (rs [oV 11 (.move (.v 0)),oV 12 (.len (.v 11)),oJ 13 0] (.block 0 (.loop (rs [oV 14 (.bin .lss (.v 13) (.v 12))] (sq (cE 14 0) (sq (.block 1 (rs [oT 15 (.indexAddr 2 (.v 11) (.v 13)),oR 16 2 15,oV 10 (.alloc [cZ,cZ]),oS 2 10 16] (sq (rs [oM 17 8,oT 18 (nT 17),oP 19 18,tF 20 0 10 19,tL 21 20 19,tM 22 1 19,tT 23 (bT .geq 21 22) 19,vB 24 19 23] (cS 24 (rs [oM 25 7,oM 26 1,oM 27 2,oT 28 (.build [aT 26 0 1,aT 27 0 1]),oT 29 (.buildSlice 2 [.t 28]),oT 30 (.append 2 16 (.t 25) (.t 29)),oN 7 30] (rg [oV 8 (.move cT)])))) (rs [oF 31 0 10,oL 32 31,oM 33 1,oV 34 (bT .neq 32 33)] (cS 34 (rg [oM 35 7,oK 36 2 10,oT 37 (.buildSlice 2 [.t 36]),oT 38 (.append 2 16 (.t 35) (.t 37)),oN 7 38])))))) (rg [oT 39 (.bin .add (.v 13) (cI 1)),oN 13 39]))))))) (sq (rs [oM 40 8,oV 41 (nT 40)] (cS 41 (rg [oM 42 7,oM 43 1,oM 44 2,oT 45 (.build [aT 43 0 1,aT 44 0 1]),oT 46 (.buildSlice 2 [.t 45]),oT 47 (.append 2 16 (.t 42) (.t 46)),oN 7 47]))) (rs [oM 48 7,oN 6 48] .ret)))))
def vf187:=mF 3 [.tmp (.v 6)] (iv [10,5] [0,1,2,6,7,8,24,34,41]) RX
def RW:VCode:=rs [oX 3 5 0,oV 6 (.alloc [cZ,cZ,cZ,cZ,cZ]),oJ 7 0] (rs [oK 10 5 3,oM 11 1,oC 12 115 [10,11],oP 9 12,oE 13 9 0,oE 14 9 1,oS 5 3 13,oN 8 14] (sq (.block 0 (rs [oM 16 8,oT 17 (bI .neq 16 0),oN 15 17] (.cond (.v 15) (rs [oT 18 (.build [zZ,zZ,zZ,zZ,zZ]),oM 19 8,oS 5 6 18,oN 7 19] .ret) (rs [oM 21 2,oT 22 (.call 175 [.t 21,.c (.int .i64 0),.c (.int .i64 1073741824)]),oT 23 (nT 22),oN 20 23] (.cond (.v 20) (rs [oT 24 (.build [zZ,zZ,zZ,zZ,zZ]),oS 5 6 24,oJ 7 3] .ret) (rs [oK 26 5 3,oC 27 181 [26],oM 28 2,oT 29 (bT .lss 27 28),oN 25 29] (cS 25 (rs [oK 30 5 3,oS 5 6 30,oJ 7 11] .ret)))))))) (sq (rs [oK 31 5 3,oC 32 176 [31],oV 33 (nT 32)] (cS 33 (rg [oF 34 3 3,oL 35 34,oM 36 2,oF 37 1 3,oL 38 37,oT 39 (bT .mul 36 38),oT 40 (bT .sub 35 39),oF 41 3 3,sT 1 41 40]))) (rs [oK 42 5 3,oS 5 6 42,oJ 7 0] .ret))))
def vf188:=mF 3 [.cell (.v 6) (some 5),.tmp (.v 7)] [0,1,2,3,6,7,8,15,20,25,33] RW
def L9:VCode:=rs [oV 8 (.alloc [cZ,cZ,cZ,cZ,cZ]),oJ 9 0] (sq (rs [oM 11 0,oV 12 (bI .eql 11 4611686018427387904)] (cS 12 (rg [oJ 2 0]))) (sq (rs [oM 13 1,oT 14 (bI .lss 13 1),oP 15 14,fM 16 1 15,fT 17 (bI .gtr 16 1048576) 15,oO 18 15 17,oP 19 18,fM 20 2 19,fT 21 (bI .lss 20 0) 19,oO 22 19 21,oP 23 22,fM 24 2 23,fT 25 (bI .gtr 24 1073741824) 23,vO 26 23 25] (cS 26 (rs [oT 27 (.build [zZ,zZ,zZ,zZ,zZ]),oS 5 8 27,oJ 9 3] .ret))) (rs [oM 28 0,oM 29 1,oM 30 2,oM 31 2,oM 32 1,oT 33 (bT .mul 31 32),oM 34 3,oT 35 (.build [aT 28 0 1,aT 29 0 1,aT 30 0 1,aT 33 0 1,aT 34 0 1]),oV 10 (.alloc [cZ,cZ,cZ,cZ,cZ]),oS 5 10 35] (sq (rs [oK 36 5 10,oC 37 153 [36],oV 38 (nT 37)] (cS 38 (rs [oT 39 (.build [zZ,zZ,zZ,zZ,zZ]),oS 5 8 39,oJ 9 3] .ret))) (rs [oK 40 5 10,oS 5 8 40,oJ 9 0] .ret)))))
def vf191:=mF 4 [.cell (.v 8) (some 5),.tmp (.v 9)] [0,1,2,3,8,9,10,12,26,38] L9
def RV:VCode:=rs [oX 2 16 0,oJ 4 0] (sq (rs [oJ 5 0] (.block 0 (.loop (sq (rs [oM 6 5,oF 7 11 2,oL 8 7,oY 9 8,oU 10 6 9] (cE 10 0)) (sq (.block 1 (rs [oF 13 11 2,oL 14 13,oM 15 5,oA 16 21 14 15,oQ 17 0 16,oL 18 17,oM 19 1,oV 20 (bT .eql 18 19)] (cS 20 (rs [oM 21 5,oN 4 21] .ret)))) (rg [oM 11 5,oI 12 11,oN 5 12])))))) (rs [oJ 4 (-1)] .ret))
def vf192:=mF 2 [.tmp (.v 4)] [0,1,2,4,5,10,20] RV
def L8:VCode:=rs [oX 5 5 0,oV 10 (.alloc [cZ,cZ,cZ,cZ,cZ]),oJ 11 0] (rs [oK 16 5 5,oM 17 4,oC 18 136 [16,17],oP 15 18,oE 19 15 0,oE 20 15 1,oS 5 5 19,oN 12 20] (sq (rs [oM 21 12,oV 22 (bI .neq 21 0)] (cS 22 (rs [oT 23 (.build [zZ,zZ,zZ,zZ,zZ]),oM 24 12,oS 5 10 23,oN 11 24] .ret))) (rs [oM 26 1,oM 27 2,oM 28 3,oM 29 4,oC 30 191 [26,27,28,29],oP 25 30,oE 31 25 0,oE 32 25 1,oV 13 (.alloc [cZ,cZ,cZ,cZ,cZ]),oS 5 13 31,oN 12 32] (sq (rs [oM 33 12,oV 34 (bI .neq 33 0)] (cS 34 (rs [oT 35 (.build [zZ,zZ,zZ,zZ,zZ]),oM 36 12,oS 5 10 35,oN 11 36] .ret))) (sq (rs [oM 37 1,oV 38 (bI .neq 37 4611686018427387904)] (.cond (.v 38) (rs [oJ 14 0] (sq (rs [oF 39 0 5,oL 40 39,oV 41 (bI .neq 40 4611686018427387904)] (cS 41 (rg [oK 42 5 5,oC 43 229 [42],oM 44 3,oT 45 (.minmax false [.t 43,.t 44]),oN 14 45]))) (rg [oM 46 14,oM 47 2,oT 48 (bT .mul 46 47),oF 49 3 13,sT 1 49 48]))) .skip)) (rs [oK 50 5 13,oS 5 10 50,oJ 11 0] .ret))))))
def vf193:=mF 5 [.cell (.v 10) (some 5),.tmp (.v 11)] (iv [0,6,10,5] [22,34,38,41]) L8
def RU:VCode:=rs [oX 1 6 0,oV 2 (.move cF)] (rs [oF 3 0 1,oL 4 3,oT 5 (bI .geq 4 0),oP 6 5,tF 7 0 1 6,tL 8 7 6,tT 9 (bI .leq 8 2147483647) 6,oB 10 6 9,oP 11 10,tF 12 1 1 11,tL 13 12 11,tT 14 (bI .geq 13 1) 11,oB 15 11 14,oP 16 15,tF 17 1 1 16,tL 18 17 16,tT 19 (bI .leq 18 2147483647) 16,oB 20 16 19,oP 21 20,tF 22 3 1 21,tL 23 22 21,tT 24 (bI .geq 23 1) 21,oB 25 21 24,oP 26 25,tF 27 3 1 26,tL 28 27 26,tT 29 (bI .leq 28 4096) 26,oB 30 26 29,oP 31 30,tF 32 2 1 31,tL 33 32 31,tT 34 (bI .geq 33 0) 31,oB 35 31 34,oP 36 35,tF 37 2 1 36,tL 38 37 36,tF 39 3 1 36,tL 40 39 36,tT 41 (.bin .sub (cI 16777216) (.t 40)) 36,tT 42 (bT .leq 38 41) 36,oB 43 36 42,oP 44 43,tF 45 5 1 44,tL 46 45 44,tT 47 (bI .geq 46 0) 44,oB 48 44 47,oP 49 48,tF 50 5 1 49,tL 51 50 49,tT 52 (bI .leq 51 1048576) 49,oB 53 49 52,oN 2 53] .ret)
def vf194:=mF 1 [.tmp (.v 2)] [0,1,2] RU
def RT:VCode:=rs [oX 2 16 0,oJ 4 0] (sq (rs [oJ 5 0] (.block 0 (.loop (sq (rs [oM 6 5,oF 7 14 2,oL 8 7,oY 9 8,oU 10 6 9] (cE 10 0)) (sq (.block 1 (rs [oF 13 14 2,oL 14 13,oM 15 5,oA 16 6 14 15,oQ 17 1 16,oL 18 17,oM 19 1,oV 20 (bT .eql 18 19)] (cS 20 (rs [oM 21 5,oN 4 21] .ret)))) (rg [oM 11 5,oI 12 11,oN 5 12])))))) (rs [oJ 4 (-1)] .ret))
def vf195:=mF 2 [.tmp (.v 4)] [0,1,2,4,5,10,20] RT
def RR:VCode:=rs [oX 3 5 0,oX 4 6 1,oJ 6 0,oJ 7 0] (rs [oK 12 5 3,oK 13 6 4,oT 14 (.buildFz 6 [.t 13]),oM 15 2,oC 16 230 [12,14,15],oP 11 16,oE 17 11 0,oE 18 11 1,oE 19 11 2,oN 8 17,oP 9 18,oN 10 19] (rs [oM 20 8,oM 21 10,oN 6 20,oN 7 21] .ret))
def vf196:=mF 3 [.tmp (.v 6),.tmp (.v 7)] (iv [0,5] [6,7,8,10]) RR
def RQ:VCode:=rs [oX 4 2 0,oJ 8 0,oJ 9 0] (sq (rs [oK 10 2 4,oM 11 1,oC 12 151 [10,11],oV 13 (nT 12)] (cS 13 (rs [oJ 8 0,oJ 9 1] .ret))) (sq (rs [oK 14 2 4,oM 15 3,oC 16 83 [14,15],oV 17 (nT 16)] (cS 17 (rs [oJ 8 0,oJ 9 4] .ret))) (rs [oK 18 2 4,oM 19 1,oM 20 2,oM 21 3,oC 22 231 [18,19,20,21],oN 8 22,oJ 9 0] .ret)))
def vf197:=mF 4 [.tmp (.v 8),.tmp (.v 9)] (iv [0,5] [8,9,13,17]) RQ
def RP:VCode:=rs [oX 1 16 0,oV 2 (.newArr 1)] (rs [oV 3 (.newArr 1)] (sq (rs [oJ 4 0] (.block 0 (.loop (sq (rs [oM 6 4,oF 7 14 1,oL 8 7,oY 9 8,oU 10 6 9] (cE 10 0)) (sq (.block 1 (rg [oM 13 3,oF 14 14 1,oL 15 14,oM 16 4,oA 17 6 15 16,oQ 18 1 17,oL 19 18,oT 20 (.buildSlice 1 [.t 19]),oT 21 (.append 1 8 (.t 13) (.t 20)),oN 3 21])) (rg [oM 11 4,oI 12 11,oN 4 12])))))) (sq (rs [oJ 5 0] (.block 2 (.loop (sq (rs [oM 22 5,oF 23 15 1,oL 24 23,oY 25 24,oU 26 22 25] (cE 26 2)) (sq (.block 3 (rg [oM 29 3,oF 30 15 1,oL 31 30,oM 32 5,oA 33 7 31 32,oQ 34 0 33,oQ 35 1 34,oL 36 35,oT 37 (.buildSlice 1 [.t 36]),oT 38 (.append 1 8 (.t 29) (.t 37)),oN 3 38])) (rg [oM 27 5,oI 28 27,oN 5 28])))))) (rs [oM 39 3,oN 2 39] .ret))))
def vf198:=mF 1 [.tmp (.v 2)] (iv [0,6] [10,26]) RP
def If:VCode:=rs [oX 7 2 0,oV 14 (.newArr 2),oJ 15 0] (sq (.block 0 (rs [oK 21 2 7,oM 22 1,oC 23 130 [21,22],oT 24 (nT 23),oN 20 24] (.cond (.v 20) (rs [oV 14 (.newArr 2),oJ 15 1] .ret) (rs [oK 26 2 7,oM 27 2,oC 28 83 [26,27],oT 29 (nT 28),oN 25 29] (.cond (.v 25) (rs [oV 14 (.newArr 2),oJ 15 4] .ret) (rs [oM 31 3,oT 32 (bI .lss 31 1),oP 33 32,fM 34 3 33,fT 35 (bI .gtr 34 1073741824) 33,oO 36 33 35,oP 37 36,fM 38 4 37,fT 39 (bI .lss 38 1) 37,oO 40 37 39,oP 41 40,fM 42 4 41,fT 43 (bI .gtr 42 4294967296) 41,oO 44 41 43,oP 45 44,fM 46 5 45,fT 47 (bI .lss 46 0) 45,oO 48 45 47,oP 49 48,fM 50 5 49,fT 51 (bI .gtr 50 576460752303423488) 49,oO 52 49 51,oP 53 52,fM 54 6 53,fT 55 (bI .lss 54 0) 53,oO 56 53 55,oP 57 56,fM 58 6 57,fT 59 (bI .gtr 58 1073741824) 57,oO 60 57 59,oN 30 60] (.cond (.v 30) (rs [oV 14 (.newArr 2),oJ 15 3] .ret) (rs [oK 62 2 7,oM 63 1,oM 64 2,oM 65 5,oC 66 56 [62,63,64,65],oT 67 (nT 66),oN 61 67] (cS 61 (rs [oV 14 (.newArr 2),oJ 15 11] .ret)))))))))) (rs [oM 68 1,oM 69 2,oC 70 57 [68,69],oM 71 5,oM 72 6,oT 73 (bT .sub 71 72),oT 74 (.minmax true [.t 70,.t 73,.c (.int .i64 0)]),oM 75 4,oT 76 (bI .mul 75 1073741824),oM 77 3,oT 78 (bT .add 76 77),oT 79 (bI .sub 78 1),oM 80 3,oT 81 (bT .quo 79 80),oT 82 (bT .add 74 81),oN 16 82] (sq (rs [oM 83 16,oV 84 (bI .gtr 83 1152921504606846976)] (cS 84 (rs [oV 14 (.newArr 2),oJ 15 7] .ret))) (rs [oV 17 (.newArr 2)] (rs [oV 18 (.move cF)] (sq (rs [oJ 19 0] (.block 1 (.loop (sq (rs [oM 85 19,oM 86 1,oY 87 86,oU 88 85 87] (cE 88 1)) (sq (.block 2 (sq (rs [oM 91 18,oT 92 (nT 91),oP 93 92,tM 94 1 93,tM 95 19 93,tT 96 (.indexAddr 2 (.t 94) (.t 95)) 93,tT 97 (.fieldAddr 0 (.t 96)) 93,tL 98 97 93,tM 99 2 93,tT 100 (bT .geq 98 99) 93,vB 101 93 100] (cS 101 (rg [oM 102 17,oM 103 2,oM 104 16,oT 105 (.build [aT 103 0 1,aT 104 0 1]),oT 106 (.buildSlice 2 [.t 105]),oT 107 (.append 2 16 (.t 102) (.t 106)),oN 17 107,oV 18 (.move cT)]))) (rs [oM 108 1,oM 109 19,oA 110 2 108 109,oQ 111 0 110,oL 112 111,oM 113 2,oV 114 (bT .neq 112 113)] (cS 114 (rg [oM 115 17,oM 116 1,oM 117 19,oA 118 2 116 117,oR 119 2 118,oT 120 (.buildSlice 2 [.t 119]),oT 121 (.append 2 16 (.t 115) (.t 120)),oN 17 121]))))) (rg [oM 89 19,oI 90 89,oN 19 90])))))) (sq (rs [oM 122 18,oV 123 (nT 122)] (cS 123 (rg [oM 124 17,oM 125 2,oM 126 16,oT 127 (.build [aT 125 0 1,aT 126 0 1]),oT 128 (.buildSlice 2 [.t 127]),oT 129 (.append 2 16 (.t 124) (.t 128)),oN 17 129]))) (rs [oM 130 17,oN 14 130,oJ 15 0] .ret))))))))
def vf199:=mF 7 [.tmp (.v 14),.tmp (.v 15)] (iv [0,8,14,7] [25,30,61,84,88,101,114,123]) If
def Ie:VCode:=rs [oX 3 21 0,oX 4 6 1,oV 6 (.alloc [cZ,cZ,cZ,cZ,cZ,cZ,cZ,cZ,cZ,cZ,cZ,cZ,cZ,cZ,cZ,cZ,cZ,cZ,cZ,cZ,cZ]),oV 7 (.move cF)] (rs [oK 14 21 3,oC 15 135 [14],oN 8 15] (rs [oJ 9 0] (sq (rs [oF 16 4 4,oV 17 (.load none (.t 16))] (cS 17 (rg [oJ 9 1]))) (sq (.region ⟨[oM 19 8,oM 20 9,oA 21 5 19 20,oR 22 5 21,oM 23 2,oF 24 3 4,oL 25 24,oC 26 232 [22,23,25],oP 18 26,oE 27 18 0,oE 28 18 1,oV 10 (.alloc [cZ,cZ,cZ,cZ,cZ]),oS 5 10 27,oN 11 28],[],[(2,11),(3,11),(6,11),(7,11)]⟩) (rs [oM 30 8,oM 31 9,oT 32 (bI .add 31 2),oA 33 5 30 32,oR 34 5 33,oM 35 2,oT 36 (.call 232 [.t 34,.t 35,.c (.int .i64 1)]),oP 29 36,oE 37 29 0,oE 38 29 1,oV 12 (.alloc [cZ,cZ,cZ,cZ,cZ]),oS 5 12 37,oN 13 38] (sq (.region ⟨[oM 39 8,oM 40 9,oM 41 8,oM 42 9,oT 43 (bI .add 42 2),oK 44 5 10,oK 45 5 12,oA 46 5 39 40,sT 5 46 44,oA 47 5 41 43,sT 5 47 45],[],[(6,8)]⟩) (rs [oF 48 0 3,oL 49 48,oM 50 8,oC 51 137 [49,50],oM 52 11,oT 53 (bI .eql 52 0),oP 54 53,tM 55 13 54,tT 56 (bI .eql 55 0) 54,oB 57 54 56,oS 21 6 51,oN 7 57] .ret)))))))
def vf200:=mF 3 [.cell (.v 6) (some 21),.tmp (.v 7)] (iv [0,5,6,8] [17]) Ie
def RO:VCode:=rs [oV 2 (.move cF)] (sq (rs [oM 5 0,oV 6 (.strBytes (.t 5)),oV 7 (.len (.v 6)),oJ 8 0] (.block 0 (.loop (rs [oV 9 (.bin .lss (.v 8) (.v 7))] (sq (cE 9 0) (sq (.block 1 (rs [oT 10 (.indexAddr 1 (.v 6) (.v 8)),oL 11 10,oN 4 11] (rs [oM 12 4,oC 13 233 [12],oV 14 (nT 13)] (cS 14 (rs [oV 2 (.move cF)] .ret))))) (rg [oT 15 (.bin .add (.v 8) (cI 1)),oN 8 15]))))))) (rs [oM 16 0,oT 17 (.bin .neq (.t 16) (.c (.str ⟨#[]⟩))),oP 18 17,tM 19 0 18,tT 20 (.lenStr (.t 19)) 18,tT 21 (bI .leq 20 32) 18,oB 22 18 21,oP 23 22,tM 24 0 23,tT 25 (.indexStr (.t 24) (cI 0)) 23,tT 26 (.bin .neq (.t 25) (.c (.int .u8 45))) 23,oB 27 23 26,oN 2 27] .ret))
def vf201:=mF 1 [.tmp (.v 2)] [0,2,4,6,7,8,9,14] RO
def RN:VCode:=rs [oX 2 2 0,oX 3 1 1,oJ 4 0] (rs [oF 5 0 2,oL 6 5,oT 7 (.makeFunc 235 [.v 3]),oC 8 234 [6,7],oN 4 8] .ret)
def vf202:=mF 2 [.tmp (.v 4)] (iv [0,5] []) RN
def RM:VCode:=rs [oX 2 21 0,oV 3 (.move cF)] (rs [oF 4 0 2,oL 5 4,oT 6 (.load none (.v 1)),oT 7 (bT .eql 5 6),oN 3 7] .ret)
def vf204:=mF 2 [.tmp (.v 3)] [0,1,2,3] RM
def RL:VCode:=rs [oX 5 5 0,oV 10 (.alloc [cZ,cZ,cZ,cZ,cZ]),oJ 11 0] (rs [oK 15 5 5,oM 16 4,oC 17 115 [15,16],oP 14 17,oE 18 14 0,oE 19 14 1,oS 5 5 18,oN 12 19] (sq (rs [oM 20 12,oV 21 (bI .neq 20 0)] (cS 21 (rs [oT 22 (.build [zZ,zZ,zZ,zZ,zZ]),oM 23 12,oS 5 10 22,oN 11 23] .ret))) (rs [oK 24 5 5,oC 25 181 [24],oN 13 25] (sq (rs [oK 26 5 5,oV 27 (cC 176 [26])] (cS 27 (rg [oJ 13 0]))) (rs [oM 28 1,oM 29 2,oM 30 3,oM 31 4,oM 32 13,oC 33 244 [28,29,30,31,32],oE 34 33 0,oE 35 33 1,oS 5 10 34,oN 11 35] .ret)))))
def vf205:=mF 5 [.cell (.v 10) (some 5),.tmp (.v 11)] (iv [0,6,10,4] [21,27]) RL
def RK:VCode:=rs [oV 8 (.alloc [cZ,cZ,cZ,cZ,cZ]),oJ 9 0] (rs [oM 10 0,oM 11 1,oM 12 2,oM 13 3,oT 14 (.call 244 [.t 10,.t 11,.t 12,.t 13,.c (.int .i64 1073741824)]),oE 15 14 0,oE 16 14 1,oS 5 8 15,oN 9 16] .ret)
def vf206:=mF 4 [.cell (.v 8) (some 5),.tmp (.v 9)] [0,1,2,3,8,9] RK
def RJ:VCode:=rs [oV 2 (.alloc [cZ,cZ,cZ])] (rs [oM 3 0,oT 4 (.build [aT 3 0 1,zZ,.a (cI 256) 0 1]),oS 3 2 4] .ret)
def vf208:=mF 1 [.cell (.v 2) (some 3)] [0,2] RJ
def RI:VCode:=rs [oX 4 2 0,oV 8 (.move cF),oJ 9 0] (sq (rs [oK 14 2 4,oM 15 1,oC 16 152 [14,15],oV 17 (nT 16)] (cS 17 (rs [oV 8 (.move cF),oJ 9 1] .ret))) (sq (rs [oJ 10 0] (.block 0 (.loop (sq (rs [oM 18 10,oM 19 2,oY 20 19,oU 21 18 20] (cE 21 0)) (sq (.block 1 (rs [oM 24 2,oM 25 10,oA 26 2 24 25,oR 27 2 26,oV 11 (.alloc [cZ,cZ]),oS 2 11 27] (rs [oK 28 2 4,oF 29 0 11,oL 30 29,oC 31 83 [28,30],oT 32 (nT 31),oP 33 32,fM 34 10 33,fT 35 (bI .gtr 34 0) 33,fT 36 (.move (.t 35)) 33,tF 37 0 11 36,tL 38 37 36,tM 39 2 36,tM 40 10 36,tT 41 (bI .sub 40 1) 36,tT 42 (.indexAddr 2 (.t 39) (.t 41)) 36,tT 43 (.fieldAddr 0 (.t 42)) 36,tL 44 43 36,tT 45 (bT .leq 38 44) 36,fT 46 (.pick (.t 36) (.t 45) cF) 33,oO 47 33 46,oP 48 47,fF 49 1 11 48,fL 50 49 48,fT 51 (bI .lss 50 0) 48,oO 52 48 51,oP 53 52,fF 54 1 11 53,fL 55 54 53,fT 56 (bI .gtr 55 256) 53,vO 57 53 56] (cS 57 (rs [oV 8 (.move cF),oJ 9 1] .ret))))) (rg [oM 22 10,oI 23 22,oN 10 23])))))) (sq (rs [oK 58 2 4,oM 59 3,oC 60 83 [58,59],oV 61 (nT 60)] (cS 61 (rs [oV 8 (.move cF),oJ 9 4] .ret))) (rs [oK 62 2 4,oM 63 3,oC 64 62 [62,63],oN 12 64] (sq (rs [oJ 13 0] (.block 2 (.loop (sq (rs [oM 65 13,oM 66 12,oY 67 66,oU 68 65 67] (cE 68 2)) (sq (.block 3 (sq (.region ⟨[oK 71 2 4,oM 72 2,oT 73 (.build [aT 72 0 1]),oM 74 12,oM 75 13,oA 76 1 74 75,oL 77 76,oC 78 261 [71,73,77],oM 79 1,oM 80 12,oM 81 13,oA 82 1 80 81,oL 83 82,oC 84 27 [79,83],oT 85 (.field 2 none (.t 84)),oV 86 (bT .geq 78 85)],[],[(0,2),(2,5),(2,6),(2,11),(7,11),(2,12),(7,12)]⟩) (cS 86 (rs [oV 8 (.move cF),oJ 9 0] .ret)))) (rg [oM 69 13,oI 70 69,oN 13 70])))))) (rs [oV 8 (.move cT),oJ 9 0] .ret))))))
def vf210:=mF 4 [.tmp (.v 8),.tmp (.v 9)] (iv [0,5,8,6] [17,21,57,61,68,86]) RI
def RH:VCode:=rs [oX 2 2 0,oX 3 16 1,oV 4 (.newArr 2)] (rs [oV 5 (.newArr 2)] (sq (rs [oJ 6 0] (.block 0 (.loop (sq (rs [oM 9 6,oF 10 0 2,oL 11 10,oY 12 11,oU 13 9 12] (cE 13 0)) (sq (.block 1 (rs [oJ 7 0] (sq (rs [oJ 8 0] (.block 2 (.loop (sq (rs [oM 16 8,oF 17 15 3,oL 18 17,oY 19 18,oU 20 16 19] (cE 20 2)) (sq (.block 3 (rs [oF 23 15 3,oL 24 23,oM 25 8,oA 26 7 24 25,oQ 27 0 26,oQ 28 1 27,oL 29 28,oF 30 0 2,oL 31 30,oM 32 6,oA 33 6 31 32,oQ 34 0 33,oL 35 34,oV 36 (bT .eql 29 35)] (cS 36 (rg [oM 37 7,oI 38 37,oN 7 38])))) (rg [oM 21 8,oI 22 21,oN 8 22])))))) (rs [oM 39 7,oV 40 (bI .gtr 39 0)] (cS 40 (rg [oM 41 5,oF 42 0 2,oL 43 42,oM 44 6,oA 45 6 43 44,oQ 46 0 45,oL 47 46,oM 48 7,oT 49 (.build [aT 47 0 1,aT 48 0 1]),oT 50 (.buildSlice 2 [.t 49]),oT 51 (.append 2 16 (.t 41) (.t 50)),oN 5 51])))))) (rg [oM 14 6,oI 15 14,oN 6 15])))))) (rs [oM 52 5,oN 4 52] .ret)))
def vf211:=mF 2 [.tmp (.v 4)] (iv [0,9] [13,20,36,40]) RH
def RG:VCode:=rs [oX 2 2 0,oV 4 (.newArr 1)] (sq (rs [oK 7 2 2,oM 8 1,oC 9 202 [7,8],oV 10 (bI .lss 9 0)] (cS 10 (rs [oV 4 (.newArr 1)] .ret))) (rs [oV 5 (.newArr 1)] (sq (rs [oM 11 1,oT 12 (.buildSlice 1 [.t 11]),oN 6 12] (.block 0 (.loop (sq (sq (.region ⟨[oM 13 6,oY 14 13,oT 15 (bI .gtr 14 0),oP 16 15,tM 17 5 16,tT 18 (lT 17) 16,tF 19 0 2 16,tL 20 19 16,tT 21 (lT 20) 16,tT 22 (bT .lss 18 21) 16,vB 23 16 22],[34],[]⟩) (cE 23 0)) (.block 1 (rs [oM 24 5,oM 25 6,oT 26 (.indexAddr 1 (.t 25) (cI 0)),oL 27 26,oT 28 (.buildSlice 1 [.t 27]),oT 29 (.append 1 8 (.t 24) (.t 28)),oN 5 29] (.region ⟨[oK 30 2 2,oM 31 6,oT 32 (.indexAddr 1 (.t 31) (cI 0)),oL 33 32,oC 34 262 [30,33],oM 35 6,oT 36 (.slice false 1 (some (cI 1)) none none (.t 35)),oT 37 (.append 1 8 (.t 34) (.t 36)),oN 6 37],[],[(0,6),(2,6),(3,6),(4,6)]⟩))))))) (rs [oM 38 5,oN 4 38] .ret))))
def vf212:=mF 2 [.tmp (.v 4)] [0,1,2,4,5,6,10,23] RG
def RF:VCode:=rs [oV 4 (.move cF)] (rs [oM 5 0,oM 6 1,oC 7 121 [5,6],oT 8 (bI .geq 7 0),oN 4 8] .ret)
def vf224:=mF 2 [.tmp (.v 4)] [0,1,4] RF
def RD:VCode:=rs [oX 1 6 0,oV 2 (.move cF)] (rs [oK 3 6 1,oC 4 102 [3],oT 5 (nT 4),oN 2 5] .ret)
def vf225:=mF 1 [.tmp (.v 2)] [0,1,2] RD
def L7:VCode:=rs [oX 5 2 0,oV 10 (.newArr 2)] (sq (rs [oM 17 2,oM 18 3,oT 19 (.lookup false (.int .i64) (.bool false) (.t 17) (.t 18)),oV 20 (nT 19)] (cS 20 (rs [oV 10 (.newArr 2)] .ret))) (rs [oM 21 3,oM 22 4,oT 23 (.build [aT 21 0 1,aT 22 0 1]),oT 24 (.buildSlice 2 [.t 23]),oN 11 24] (rs [oJ 12 0] (sq (rs [oK 25 2 5,oM 26 3,oV 27 (cC 262 [25,26]),oV 28 (.len (.v 27)),oJ 29 0] (.block 0 (.loop (rs [oV 30 (.bin .lss (.v 29) (.v 28))] (sq (cE 30 0) (sq (.block 1 (rs [oT 31 (.indexAddr 1 (.v 27) (.v 29)),oL 32 31,oN 14 32] (rs [oM 33 2,oM 34 14,oV 35 (.lookup false (.int .i64) (.bool false) (.t 33) (.t 34))] (cS 35 (rg [oM 36 12,oM 37 1,oM 38 14,oC 39 269 [37,38],oT 40 (bT .add 36 39),oN 12 40]))))) (rg [oT 41 (.bin .add (.v 29) (cI 1)),oN 29 41]))))))) (sq (rs [oK 42 2 5,oM 43 3,oV 44 (cC 262 [42,43]),oV 45 (.len (.v 44)),oJ 46 0] (.block 2 (.loop (sq (.region ⟨[oV 47 (.bin .lss (.v 46) (.v 45))],[66],[]⟩) (sq (cE 47 2) (sq (.block 3 (rs [oT 48 (.indexAddr 1 (.v 44) (.v 46)),oL 49 48,oN 16 49] (rs [oM 50 2,oM 51 16,oV 52 (.lookup false (.int .i64) (.bool false) (.t 50) (.t 51))] (cS 52 (.region ⟨[oM 53 11,oK 54 2 5,oM 55 1,oM 56 2,oM 57 16,oM 58 4,oM 59 1,oM 60 16,oC 61 269 [59,60],oT 62 (bT .mul 58 61),oM 63 12,oT 64 (bT .quo 62 63),oT 65 (.minmax true [.c (.int .i64 1),.t 64]),oC 66 226 [54,55,56,57,65],oT 67 (.append 2 16 (.t 53) (.t 66)),oN 11 67],[],[(1,8)]⟩))))) (rg [oT 68 (.bin .add (.v 46) (cI 1)),oN 46 68]))))))) (rs [oM 69 11,oN 10 69] .ret))))))
def vf226:=mF 5 [.tmp (.v 10)] (iv [0,6,27,4,44,4] [10,11,12,14,16,20,35,52]) L7
def RC:VCode:=rs [oX 2 2 0,oV 4 (.move (.c (.map .bool [] [])))] (rs [oT 10 (.makeMap (.int .i64)),oN 5 10] (sq (rs [oV 11 (.move (.v 1)),oV 12 (.len (.v 11)),oJ 13 0] (.block 0 (.loop (sq (.region ⟨[oV 14 (.bin .lss (.v 13) (.v 12))],[19],[]⟩) (sq (cE 14 0) (sq (.block 1 (rs [oT 15 (.indexAddr 1 (.v 11) (.v 13)),oL 16 15,oN 7 16] (rs [oK 17 2 2,oM 18 7,oV 19 (cC 179 [17,18]),oV 20 (.len (.v 19)),oJ 21 0] (.block 2 (.loop (rs [oV 22 (.bin .lss (.v 21) (.v 20))] (sq (cE 22 2) (sq (.block 3 (rs [oT 23 (.indexAddr 1 (.v 19) (.v 21)),oL 24 23,oN 9 24] (rg [oM 25 5,oM 26 9,oZ (.mapUpdate (.int .i64) (.t 25) (.t 26) cT)]))) (rg [oT 27 (.bin .add (.v 21) (cI 1)),oN 21 27]))))))))) (rg [oT 28 (.bin .add (.v 13) (cI 1)),oN 13 28]))))))) (rs [oM 29 5,oN 4 29] .ret)))
def vf227:=mF 2 [.tmp (.v 4)] (iv [11,4,19,4] [0,1,2,4,5,7,9]) RC
def RB:VCode:=rs [oX 1 5 0,oJ 2 0] (sq (.block 0 (rs [oK 4 5 1,oC 5 153 [4],oT 6 (nT 5),oN 3 6] (.cond (.v 3) (rs [oJ 2 0] .ret) (rs [oF 8 0 1,oL 9 8,oT 10 (bI .eql 9 4611686018427387904),oN 7 10] (cS 7 (rs [oJ 2 1073741824] .ret)))))) (rs [oF 11 3 1,oL 12 11,oF 13 1 1,oL 14 13,oT 15 (bT .quo 12 14),oN 2 15] .ret))
def vf229:=mF 1 [.tmp (.v 2)] [0,1,2,3,7] RB
def RA:VCode:=rs [oX 3 5 0,oJ 6 0,oJ 7 0,oJ 8 0] (sq (rs [oK 11 5 3,oC 12 101 [11],oT 13 (nT 12),oP 14 13,fM 15 1 14,fT 16 (cC 271 [15]) 14,fT 17 (nT 16) 14,vO 18 14 17] (cS 18 (rs [oJ 6 0,oJ 7 0,oJ 8 1] .ret))) (sq (rs [oM 19 2,oT 20 (bI .lss 19 0),oP 21 20,fM 22 2 21,fT 23 (bI .gtr 22 16777216) 21,vO 24 21 23] (cS 24 (rs [oJ 6 0,oJ 7 0,oJ 8 3] .ret))) (sq (rs [oM 25 1,oY 26 25,oV 27 (bI .gtr 26 256)] (cS 27 (rs [oJ 6 0,oJ 7 0,oJ 8 7] .ret))) (rs [oJ 9 0] (sq (rs [oJ 10 0] (.block 0 (.loop (sq (rs [oM 28 10,oM 29 1,oY 30 29,oU 31 28 30] (cE 31 0)) (sq (.block 1 (rs [oM 34 9,oK 35 5 3,oM 36 1,oM 37 10,oA 38 6 36 37,oR 39 6 38,oM 40 2,oC 41 272 [35,39,40],oT 42 (bT .add 34 41),oN 9 42] (rg [oM 43 1,oM 44 10,oA 45 6 43 44,oQ 46 2 45,oL 47 46,oM 48 1,oM 49 10,oA 50 6 48 49,oQ 51 3 50,oL 52 51,oT 53 (bT .add 47 52),oN 2 53]))) (rg [oM 32 10,oI 33 32,oN 10 33])))))) (rs [oM 54 9,oM 55 2,oN 6 54,oN 7 55,oJ 8 0] .ret))))))
def vf230:=mF 3 [.tmp (.v 6),.tmp (.v 7),.tmp (.v 8)] (iv [0,4,6,5] [18,24,27,31]) RA
def Rz:VCode:=rs [oX 4 2 0,oJ 8 0] (sq (rs [oM 14 3,oV 15 (bI .eql 14 1)] (cS 15 (rs [oJ 8 1073741824] .ret))) (sq (rs [oK 16 2 4,oM 17 2,oM 18 3,oC 19 273 [16,17,18],oV 20 (nT 19)] (cS 20 (rs [oJ 8 0] .ret))) (rs [oK 22 2 4,oM 23 3,oC 24 150 [22,23],oP 21 24,oE 25 21 0,oE 26 21 1,oV 9 (.alloc [.c (.int .i64 0),.c (.int .i64 0),.c (.str ⟨#[]⟩),.c (.int .i64 0),.c (.int .i64 0),.c (.int .i64 0)]),oS 6 9 25,oP 10 26] (rs [oJ 11 0] (rs [oK 27 2 4,oF 28 1 9,oL 29 28,oC 30 100 [27,29],oN 12 30] (sq (rs [oJ 13 0] (.block 0 (.loop (sq (rs [oM 31 13,oM 32 12,oY 33 32,oU 34 31 33] (cE 34 0)) (sq (.block 1 (rs [oK 37 2 4,oM 38 2,oM 39 12,oM 40 13,oA 41 1 39 40,oL 42 41,oV 43 (cC 273 [37,38,42])] (cS 43 (rg [oM 44 11,oM 45 1,oM 46 12,oM 47 13,oA 48 1 46 47,oL 49 48,oC 50 274 [45,49],oT 51 (bT .add 44 50),oN 11 51])))) (rg [oM 35 13,oI 36 35,oN 13 36])))))) (rs [oK 52 2 4,oM 53 1,oM 54 2,oF 55 1 9,oL 56 55,oC 57 231 [52,53,54,56],oM 58 1,oM 59 3,oC 60 274 [58,59],oT 61 (bT .mul 57 60),oM 62 11,oT 63 (bT .quo 61 62),oT 64 (.minmax true [.c (.int .i64 1),.t 63]),oN 8 64] .ret)))))))
def vf231:=mF 4 [.tmp (.v 8)] (iv [0,5] [8,9,11,12,13,15,20,34,43]) Rz
def Ry:VCode:=rs [oX 3 5 0,oV 6 (.alloc [cZ,cZ,cZ,cZ,cZ]),oJ 7 0] (rs [oK 10 5 3,oM 11 1,oC 12 136 [10,11],oP 9 12,oE 13 9 0,oE 14 9 1,oS 5 3 13,oN 8 14] (sq (.block 0 (rs [oM 16 8,oT 17 (bI .neq 16 0),oN 15 17] (.cond (.v 15) (rs [oT 18 (.build [zZ,zZ,zZ,zZ,zZ]),oM 19 8,oS 5 6 18,oN 7 19] .ret) (rs [oM 21 2,oT 22 (bI .lss 21 0),oP 23 22,fM 24 2 23,fT 25 (bI .gtr 24 1073741824) 23,oO 26 23 25,oN 20 26] (.cond (.v 20) (rs [oT 27 (.build [zZ,zZ,zZ,zZ,zZ]),oS 5 6 27,oJ 7 3] .ret) (rs [oF 29 0 3,oL 30 29,oT 31 (bI .eql 30 4611686018427387904),oN 28 31] (.cond (.v 28) (rs [oK 32 5 3,oS 5 6 32,oJ 7 0] .ret) (rs [oK 34 5 3,oC 35 229 [34],oM 36 2,oT 37 (bT .lss 35 36),oN 33 37] (cS 33 (rs [oK 38 5 3,oS 5 6 38,oJ 7 11] .ret)))))))))) (rs [oF 39 3 3,oL 40 39,oM 41 2,oF 42 1 3,oL 43 42,oT 44 (bT .mul 41 43),oT 45 (bT .sub 40 44),oF 46 3 3,sT 1 46 45] (rs [oK 47 5 3,oS 5 6 47,oJ 7 0] .ret))))
def vf232:=mF 3 [.cell (.v 6) (some 5),.tmp (.v 7)] [0,1,2,3,6,7,8,15,20,28,33] Ry
def Rx:VCode:=rs [oV 2 (.move cF)] (rs [oM 3 0,oT 4 (.bin .geq (.t 3) (.c (.int .u8 97))),oP 5 4,tM 6 0 5,tT 7 (.bin .leq (.t 6) (.c (.int .u8 122))) 5,oB 8 5 7,oP 9 8,fM 10 0 9,fT 11 (.bin .geq (.t 10) (.c (.int .u8 65))) 9,fT 12 (.move (.t 11)) 9,tM 13 0 12,tT 14 (.bin .leq (.t 13) (.c (.int .u8 90))) 12,fT 15 (.pick (.t 12) (.t 14) cF) 9,oO 16 9 15,oP 17 16,fM 18 0 17,fT 19 (.bin .geq (.t 18) (.c (.int .u8 48))) 17,fT 20 (.move (.t 19)) 17,tM 21 0 20,tT 22 (.bin .leq (.t 21) (.c (.int .u8 57))) 20,fT 23 (.pick (.t 20) (.t 22) cF) 17,oO 24 17 23,oP 25 24,fM 26 0 25,fT 27 (.bin .eql (.t 26) (.c (.int .u8 95))) 25,oO 28 25 27,oP 29 28,fM 30 0 29,fT 31 (.bin .eql (.t 30) (.c (.int .u8 45))) 29,oO 32 29 31,oN 2 32] .ret)
def vf233:=mF 1 [.tmp (.v 2)] [0,2] Rx
def Rw:VCode:=rs [oJ 4 0] (sq (rs [oM 6 0,oV 7 (lT 6),oJ 8 0] (.block 0 (.loop (rs [oV 9 (.bin .lss (.v 8) (.v 7))] (sq (cE 9 0) (sq (.block 1 (rs [oM 10 8,oN 5 10] (rs [oM 11 1,oM 12 0,oM 13 5,oA 14 6 12 13,oR 15 6 14,oV 16 (.callv (.t 11) [.t 15])] (cS 16 (rs [oM 17 5,oN 4 17] .ret))))) (rg [oT 18 (.bin .add (.v 8) (cI 1)),oN 8 18]))))))) (rs [oJ 4 (-1)] .ret))
def vf234:=mF 2 [.tmp (.v 4)] [0,1,4,5,7,8,9,16] Rw
def Rv:VCode:=rs [oX 2 6 0,oV 3 (.move cF)] (rs [oF 4 0 2,oL 5 4,oT 6 (.load none (.v 1)),oT 7 (bT .eql 5 6),oN 3 7] .ret)
def vf235:=mF 2 [.tmp (.v 3)] [0,1,2,3] Rv
def L6:VCode:=rs [oV 10 (.alloc [cZ,cZ,cZ,cZ,cZ]),oJ 11 0] (rs [oM 13 0,oM 14 1,oM 15 2,oM 16 3,oT 17 (.build [aT 13 0 1,aT 14 0 1,aT 15 0 1,zZ,aT 16 0 1]),oV 12 (.alloc [cZ,cZ,cZ,cZ,cZ]),oS 5 12 17] (sq (rs [oK 18 5 12,oV 19 (cC 176 [18])] (cS 19 (rg [oF 20 2 12,oZ (.store 1 (.t 20) (cI 0))]))) (sq (rs [oK 21 5 12,oC 22 174 [21],oV 23 (nT 22)] (cS 23 (rs [oT 24 (.build [zZ,zZ,zZ,zZ,zZ]),oS 5 10 24,oJ 11 3] .ret))) (rs [oM 25 4,oF 26 2 12,oL 27 26,oT 28 (.minmax false [.t 25,.t 27]),oM 29 1,oT 30 (bT .mul 28 29),oF 31 3 12,sT 1 31 30] (rs [oK 32 5 12,oS 5 10 32,oJ 11 0] .ret)))))
def vf244:=mF 5 [.cell (.v 10) (some 5),.tmp (.v 11)] (iv [0,5] [10,11,12,19,23]) L6
def Ru:VCode:=rs [oX 3 2 0,oX 4 1 1,oJ 6 0] (rs [oJ 7 0] (rs [oK 10 2 3,oM 11 2,oC 12 284 [10,11],oN 8 12] (sq (rs [oJ 9 0] (.block 0 (.loop (sq (rs [oM 13 9,oM 14 8,oY 15 14,oU 16 13 15] (cE 16 0)) (sq (.block 1 (rg [oM 19 7,oK 20 1 4,oM 21 8,oM 22 9,oA 23 1 21 22,oL 24 23,oC 25 285 [20,24],oT 26 (bT .add 19 25),oN 7 26])) (rg [oM 17 9,oI 18 17,oN 9 18])))))) (rs [oM 27 7,oN 6 27] .ret))))
def vf261:=mF 3 [.tmp (.v 6)] (iv [0,5,6,4] [16]) Ru
def Rt:VCode:=rs [oX 2 2 0,oV 4 (.newArr 1)] (rs [oV 5 (.newArr 1)] (sq (rs [oF 8 0 2,oV 9 (.load none (.t 8)),oV 10 (.len (.v 9)),oJ 11 0] (.block 0 (.loop (rs [oV 12 (.bin .lss (.v 11) (.v 10))] (sq (cE 12 0) (sq (.block 1 (rs [oT 13 (.indexAddr 6 (.v 9) (.v 11)),oR 14 6 13,oV 7 (.alloc [.c (.int .i64 0),.c (.int .i64 0),.c (.str ⟨#[]⟩),.c (.int .i64 0),.c (.int .i64 0),.c (.int .i64 0)]),oS 6 7 14] (rs [oF 15 1 7,oL 16 15,oM 17 1,oV 18 (bT .eql 16 17)] (cS 18 (rg [oM 19 5,oF 20 0 7,oL 21 20,oT 22 (.buildSlice 1 [.t 21]),oT 23 (.append 1 8 (.t 19) (.t 22)),oN 5 23]))))) (rg [oT 24 (.bin .add (.v 11) (cI 1)),oN 11 24]))))))) (rs [oM 25 5,oN 4 25] .ret)))
def vf262:=mF 2 [.tmp (.v 4)] (iv [9,4] [0,1,2,4,5,7,18]) Rt
def Rs:VCode:=rs [oJ 4 0] (sq (rs [oV 7 (.move (.v 0)),oV 8 (.len (.v 7)),oJ 9 0] (.block 0 (.loop (rs [oV 10 (.bin .lss (.v 9) (.v 8))] (sq (cE 10 0) (sq (.block 1 (rs [oT 11 (.indexAddr 2 (.v 7) (.v 9)),oR 12 2 11,oV 6 (.alloc [cZ,cZ]),oS 2 6 12] (rs [oF 13 0 6,oL 14 13,oM 15 1,oV 16 (bT .eql 14 15)] (cS 16 (rs [oF 17 1 6,oL 18 17,oN 4 18] .ret))))) (rg [oT 19 (.bin .add (.v 9) (cI 1)),oN 9 19]))))))) (rs [oJ 4 100] .ret))
def vf269:=mF 2 [.tmp (.v 4)] (iv [6,5] [0,1,4,16]) Rs
def Rr:VCode:=rs [oV 2 (.move cF)] (sq (rs [oJ 3 0] (.block 0 (.loop (sq (rs [oM 4 3,oM 5 0,oY 6 5,oU 7 4 6] (cE 7 0)) (sq (.block 1 (rs [oM 10 0,oM 11 3,oA 12 6 10 11,oR 13 6 12,oC 14 194 [13],oV 15 (nT 14)] (cS 15 (rs [oV 2 (.move cF)] .ret)))) (rg [oM 8 3,oI 9 8,oN 3 9])))))) (rs [oV 2 (.move cT)] .ret))
def vf271:=mF 1 [.tmp (.v 2)] [0,2,3,7,15] Rr
def JJ:VCode:=rs [oX 3 5 0,oX 4 6 1,oJ 6 0] (rs [oF 8 0 3,oL 9 8,oF 10 1 3,oL 11 10,oF 12 3 4,oL 13 12,oT 14 (bT .mul 11 13),oT 15 (bT .add 9 14),oN 7 15] (sq (rs [oF 16 4 4,oV 17 (.load none (.t 16))] (cS 17 (rg [oF 18 2 3,oL 19 18,oF 20 3 3,oL 21 20,oF 22 3 4,oL 23 22,oT 24 (bT .mul 21 23),oT 25 (bT .add 19 24),oN 7 25]))) (sq (rs [oF 26 2 4,oL 27 26,oM 28 2,oV 29 (bT .neq 27 28)] (cS 29 (rg [oM 30 7,oF 31 4 3,oL 32 31,oT 33 (bT .add 30 32),oN 7 33]))) (rs [oM 34 7,oN 6 34] .ret))))
def vf272:=mF 3 [.tmp (.v 6)] (iv [0,5] [6,7,17,29]) JJ
def Rp:VCode:=rs [oX 3 2 0,oV 6 (.move cF)] (sq (rs [oJ 7 0] (.block 0 (.loop (sq (sq (.region ⟨[oM 8 7,oM 9 1,oY 10 9,oU 11 8 10],[19],[]⟩) (cE 11 0)) (sq (.block 1 (rs [oK 14 2 3,oM 15 1,oM 16 7,oA 17 1 15 16,oL 18 17,oC 19 62 [14,18],oM 20 2,oV 21 (cC 61 [19,20])] (cS 21 (rs [oV 6 (.move cT)] .ret)))) (rg [oM 12 7,oI 13 12,oN 7 13])))))) (rs [oV 6 (.move cF)] .ret))
def vf273:=mF 3 [.tmp (.v 6)] [0,1,2,3,6,7,11,21] Rp
def Ro:VCode:=rs [oJ 4 0] (sq (rs [oJ 5 0] (.block 0 (.loop (sq (rs [oM 6 5,oM 7 0,oY 8 7,oU 9 6 8] (cE 9 0)) (sq (.block 1 (rs [oM 12 0,oM 13 5,oA 14 2 12 13,oQ 15 0 14,oL 16 15,oM 17 1,oV 18 (bT .eql 16 17)] (cS 18 (rs [oM 19 0,oM 20 5,oA 21 2 19 20,oQ 22 1 21,oL 23 22,oN 4 23] .ret)))) (rg [oM 10 5,oI 11 10,oN 5 11])))))) (rs [oJ 4 100] .ret))
def vf274:=mF 2 [.tmp (.v 4)] [0,1,4,5,9,18] Ro
def Rn:VCode:=rs [oX 2 2 0,oV 4 (.newArr 1)] (sq (rs [oK 8 2 2,oM 9 1,oC 10 83 [8,9],oV 11 (nT 10)] (cS 11 (rs [oV 4 (.newArr 1)] .ret))) (rs [oM 12 1,oT 13 (.buildSlice 1 [.t 12]),oN 5 13] (rs [oK 14 2 2,oM 15 1,oC 16 100 [14,15],oN 6 16] (sq (rs [oJ 7 0] (.block 0 (.loop (sq (sq (.region ⟨[oM 17 7,oM 18 6,oY 19 18,oU 20 17 19],[29],[]⟩) (cE 20 0)) (sq (.block 1 (rg [oM 23 5,oK 24 2 2,oM 25 6,oM 26 7,oA 27 1 25 26,oL 28 27,oC 29 284 [24,28],oT 30 (.append 1 8 (.t 23) (.t 29)),oN 5 30])) (rg [oM 21 7,oI 22 21,oN 7 22])))))) (rs [oM 31 5,oN 4 31] .ret)))))
def vf284:=mF 2 [.tmp (.v 4)] [0,1,2,4,5,6,7,11,20] Rn
def Rm:VCode:=rs [oX 2 1 0,oJ 4 0] (sq (rs [oJ 5 0] (.block 0 (.loop (sq (rs [oM 6 5,oF 7 0 2,oL 8 7,oY 9 8,oU 10 6 9] (cE 10 0)) (sq (.block 1 (rs [oF 13 0 2,oL 14 13,oM 15 5,oA 16 2 14 15,oQ 17 0 16,oL 18 17,oM 19 1,oV 20 (bT .eql 18 19)] (cS 20 (rs [oF 21 0 2,oL 22 21,oM 23 5,oA 24 2 22 23,oQ 25 1 24,oL 26 25,oN 4 26] .ret)))) (rg [oM 11 5,oI 12 11,oN 5 12])))))) (rs [oJ 4 0] .ret))
def vf285:=mF 2 [.tmp (.v 4)] [0,1,2,4,5,10,20] Rm
def prog:FuncId->Option VFunc|109=>some vf109|110=>some vf110|111=>some vf111|112=>some vf112|113=>some vf113|114=>some vf114|115=>some vf115|117=>some vf117|118=>some vf118|119=>some vf119|121=>some vf121|122=>some vf122|123=>some vf123|124=>some vf124|125=>some vf125|126=>some vf126|127=>some vf127|130=>some vf130|131=>some vf131|132=>some vf132|133=>some vf133|134=>some vf134|135=>some vf135|136=>some vf136|137=>some vf137|138=>some vf138|139=>some vf139|140=>some vf140|141=>some vf141|142=>some vf142|143=>some vf143|144=>some vf144|145=>some vf145|146=>some vf146|147=>some vf147|149=>some vf149|150=>some vf150|151=>some vf151|152=>some vf152|153=>some vf153|154=>some vf154|155=>some vf155|156=>some vf156|158=>some vf158|159=>some vf159|161=>some vf161|163=>some vf163|164=>some vf164|165=>some vf165|167=>some vf167|168=>some vf168|169=>some vf169|170=>some vf170|171=>some vf171|172=>some vf172|173=>some vf173|174=>some vf174|175=>some vf175|176=>some vf176|177=>some vf177|178=>some vf178|179=>some vf179|180=>some vf180|181=>some vf181|184=>some vf184|185=>some vf185|186=>some vf186|187=>some vf187|188=>some vf188|191=>some vf191|192=>some vf192|193=>some vf193|194=>some vf194|195=>some vf195|196=>some vf196|197=>some vf197|198=>some vf198|199=>some vf199|200=>some vf200|201=>some vf201|202=>some vf202|204=>some vf204|205=>some vf205|206=>some vf206|208=>some vf208|210=>some vf210|211=>some vf211|212=>some vf212|224=>some vf224|225=>some vf225|226=>some vf226|227=>some vf227|229=>some vf229|230=>some vf230|231=>some vf231|232=>some vf232|233=>some vf233|234=>some vf234|235=>some vf235|244=>some vf244|261=>some vf261|262=>some vf262|269=>some vf269|271=>some vf271|272=>some vf272|273=>some vf273|274=>some vf274|284=>some vf284|285=>some vf285|f=>Mi f
end Go.V
