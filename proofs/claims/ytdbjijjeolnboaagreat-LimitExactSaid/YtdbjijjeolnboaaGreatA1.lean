import GoSem.Core.Code
import GoSem.Core.View
set_option linter.unusedSectionVars false
set_option linter.unusedSimpArgs false
set_option linter.unusedVariables false
set_option maxHeartbeats 32000000
open List renaming forall_mem_cons → lfm
namespace Go.V
theorem cl1 {P : Prop} (h : P := by first | rfl | (simp; done) | (congr 2; omega) | (congr 1; omega) | (congr 3; omega) | (simp; omega) | (congr 2; simp; omega)) : P := h
theorem cl2 {P : Prop} (h : P := by first | rfl | omega | (congr 2; omega)) : P := h
inductive KT where
 | int (k : IntKind)
 | str
 | bool
 deriving DecidableEq,Inhabited
inductive MKey where
 | int (n : Int)
 | str (s : ByteArray)
 | bool (b : Bool)
 deriving DecidableEq
inductive PV where
 | int (k : IntKind) (n : Int)
 | bool (b : Bool)
 | str (s : ByteArray)
 | slice (sz : Nat) (xs : List PV)
 | agg (cs : List PV)
 | map (kt : KT) (ks : List MKey) (vs : List PV)
 | fn (f : FuncId)
 | nilp
 | nils
 | lit (sz : Nat) (xs : List PV)
 deriving Inhabited
def PV.cells : PV -> List PV
 | .agg cs=>cs
 | v=>[v]
def PV.flat0 : PV -> Bool
 | .int _ _ | .bool _ | .str _ | .fn _ | .nilp=>true
 | _=>false
def PV.flat : PV -> Bool
 | .agg cs=>cs.all PV.flat0
 | d=>d.flat0
inductive Id where
 | slot (s j : Nat)
 | arg (i j : Nat)
 deriving DecidableEq
inductive VVal where
 | p (d : PV)
 | own (id : Id) (ver off len : Nat)
 | ptr (id : Id) (ver off : Nat)
 | vptr (cs : List PV) (off : Nat)
 | eptr (id : Id) (ver i off : Nat)
 | mref (id : Id) (ver : Nat)
 | fn (f : FuncId) (caps : List VVal)
 | agg (cs : List VVal)
 | tup (vs : List VVal)
 | fresh (sz : Nat) (xs : List PV)
 | boxed (cs : List VVal)
 | undef
 | dead
 deriving Inhabited
inductive Ob where
 | box (cs : List VVal)
 | arr (sz : Nat) (xs : List PV)
 | map (kt : KT) (ks : List MKey) (vs : List PV)
 | gone
 deriving Inhabited
abbrev VHeap:=Id -> Option (Nat × Ob)
def VHeap.upd (h : VHeap) (id : Id) (o : Nat × Ob) : VHeap:=fun i=>if i = id then some o else h i
def VHeap.upds (h : VHeap) : List (Id × Nat × Ob) -> VHeap
 | []=>h
 | (id,o) :: us=>(VHeap.upd h id o).upds us
def nv : Option (Nat × Ob) -> Nat
 | none=>0
 | some (v,_)=>v + 1
structure Tok {α : Type} (a : α) : Type where
def ob {α β : Type} (x : Option α) (f : α -> Option β) (_u : Tok f:=⟨⟩) : Option β:=match x with | some a=>f a | none=>none
def gd {α : Type} (c : Prop) [Decidable c] (x : Option α) (_u : Tok x:=⟨⟩) : Option α:=if c then x else none
def br {α : Type} (b : Bool) (x y : α) (_u : Tok x:=⟨⟩) (_v : Tok y:=⟨⟩) : α:=if b then x else y
inductive VArg where
 | v (s : Nat)
 | t (s : Nat)
 | c (d : PV)
 deriving Inhabited
inductive ZC where
 | c (d : PV)
 | nil (sz : Nat)
 deriving Inhabited
inductive BC where
 | z (z : ZC)
 | a (x : VArg) (j n : Nat)
 deriving Inhabited
inductive VOp where
 | move (x : VArg)
 | newArr (sz : Nat)
 | pick (c a b : VArg)
 | alloc (zero : List ZC)
 | box (n : Nat) (x : VArg)
 | build (cells : List BC)
 | buildSlice (sz : Nat) (parts : List VArg)
 | buildFz (sz : Nat) (parts : List VArg)
 | load (agg : Option Nat) (a : VArg)
 | store (n : Nat) (a x : VArg)
 | fieldAddr (off : Nat) (x : VArg)
 | field (off : Nat) (agg : Option Nat) (x : VArg)
 | indexAddr (sz : Nat) (x i : VArg)
 | indexStr (x i : VArg)
 | bin (op : BinOp) (x y : VArg)
 | eqAgg (neg : Bool) (kts : List KT) (x y : VArg)
 | not (x : VArg)
 | len (x : VArg)
 | lenStr (x : VArg)
 | eqB (neg : Bool) (x y : VArg)
 | append (sz bytes : Nat) (s x : VArg)
 | appendNil (sz bytes : Nat) (x : VArg)
 | slice (str : Bool) (sz : Nat) (lo hi mx : Option VArg) (x : VArg)
 | lookup (ok : Bool) (kt : KT) (zero : PV) (m k : VArg)
 | mapUpdate (kt : KT) (m k x : VArg)
 | makeMap (kt : KT)
 | extract (x : VArg) (i : Nat)
 | minmax (isMax : Bool) (xs : List VArg)
 | strBytes (x : VArg)
 | nilCheck (x : VArg)
 | makeFunc (f : FuncId) (caps : List VArg)
 | call (f : FuncId) (args : List VArg)
 | callv (x : VArg) (args : List VArg)
 | callW (f : FuncId) (args : List VArg)
 | callvW (x : VArg) (args : List VArg)
 | callR (f : FuncId) (args : List VArg)
 | make (sz bytes : Nat) (zero : PV) (n : VArg)
 | copy (sz : Nat) (a x : VArg)
 | mapEntry (kt : KT) (zero : PV) (m k : VArg)
 | entryStore (m s x : VArg)
 | buildArr (sz : Nat) (parts : List VArg)
 | indexArr (n sz : Nat) (agg : Option Nat) (x i : VArg)
 deriving Inhabited
inductive VDst where
 | v (s : Nat)
 | t (s : Nat)
 | none
 deriving Inhabited,DecidableEq
structure VOper where
 dst : VDst
 op : VOp
 guard : Option (VArg × Bool):=.none
 deriving Inhabited
structure VRegion where
 ops : List VOper
 fz : List Nat:=[]
 fp : List (Nat × Nat):=[]
 deriving Inhabited
inductive VCode where
 | skip
 | region (r : VRegion)
 | seq (a b : VCode)
 | cond (c : VArg) (thn els : VCode)
 | block (id : Nat) (c : VCode)
 | loop (c : VCode)
 | exit (id : Nat)
 | ret
 | mv (a b : Id) (c : VCode)
 | scope (c : VCode)
 | fail
 deriving Inhabited
abbrev oT (n : Nat) (o : VOp) : VOper:=⟨.t n,o,none⟩
abbrev oV (n : Nat) (o : VOp) : VOper:=⟨.v n,o,none⟩
abbrev oZ (o : VOp) : VOper:=⟨.none,o,none⟩
abbrev oM (n x : Nat) : VOper:=⟨.t n,.move (.v x),none⟩
abbrev oN (n x : Nat) : VOper:=⟨.v n,.move (.t x),none⟩
abbrev oL (n x : Nat) : VOper:=⟨.t n,.load none (.t x),none⟩
abbrev oF (n k x : Nat) : VOper:=⟨.t n,.fieldAddr k (.v x),none⟩
abbrev oK (n k x : Nat) : VOper:=⟨.t n,.load (some k) (.v x),none⟩
abbrev rg (l : List VOper) : VCode:=.region ⟨l,[],[]⟩
abbrev cI (n : Int) : VArg:=.c (.int .i64 n)
abbrev cF : VArg:=.c (.bool false)
abbrev cT : VArg:=.c (.bool true)
abbrev oJ (n : Nat) (i : Int) : VOper:=⟨.v n,.move (.c (.int .i64 i)),none⟩
abbrev oP (n x : Nat) : VOper:=⟨.t n,.move (.t x),none⟩
abbrev oA (n s a b : Nat) : VOper:=⟨.t n,.indexAddr s (.t a) (.t b),none⟩
abbrev oQ (n k x : Nat) : VOper:=⟨.t n,.fieldAddr k (.t x),none⟩
abbrev oC (n : Nat) (f : FuncId) (l : List Nat) : VOper:=⟨.t n,.call f (l.map .t),none⟩
abbrev oE (n x k : Nat) : VOper:=⟨.t n,.extract (.t x) k,none⟩
abbrev oS (s x y : Nat) : VOper:=⟨.none,.store s (.v x) (.t y),none⟩
abbrev oI (n x : Nat) : VOper:=⟨.t n,.bin .add (.t x) (.c (.int .i64 1)),none⟩
abbrev oO (n x y : Nat) : VOper:=⟨.t n,.pick (.t x) (.c (.bool true)) (.t y),none⟩
abbrev oB (n x y : Nat) : VOper:=⟨.t n,.pick (.t x) (.t y) (.c (.bool false)),none⟩
abbrev oR (n s x : Nat) : VOper:=⟨.t n,.load (some s) (.t x),none⟩
abbrev oY (n x : Nat) : VOper:=⟨.t n,.len (.t x),none⟩
abbrev oX (n s x : Nat) : VOper:=⟨.v n,.box s (.v x),none⟩
abbrev oU (n x y : Nat) : VOper:=⟨.v n,.bin .lss (.t x) (.t y),none⟩
abbrev bT (o : BinOp) (a b : Nat) : VOp:=.bin o (.t a) (.t b)
abbrev bI (o : BinOp) (a : Nat) (k : Int) : VOp:=.bin o (.t a) (.c (.int .i64 k))
abbrev nT (a : Nat) : VOp:=.not (.t a)
abbrev lT (a : Nat) : VOp:=.len (.t a)
abbrev kT (a : Nat) : VOp:=.nilCheck (.t a)
abbrev cC (f : FuncId) (l : List Nat) : VOp:=.call f (l.map .t)
abbrev cW (f : FuncId) (l : List Nat) : VOp:=.callW f (l.map .t)
abbrev ldV (s x : Nat) : VOp:=.load (some s) (.v x)
abbrev fT (n : Nat) (o : VOp) (g : Nat) : VOper:=⟨.t n,o,some (.t g,false)⟩
abbrev tT (n : Nat) (o : VOp) (g : Nat) : VOper:=⟨.t n,o,some (.t g,true)⟩
abbrev fM (n x g : Nat) : VOper:=⟨.t n,.move (.v x),some (.t g,false)⟩
abbrev tM (n x g : Nat) : VOper:=⟨.t n,.move (.v x),some (.t g,true)⟩
abbrev fL (n x g : Nat) : VOper:=⟨.t n,.load none (.t x),some (.t g,false)⟩
abbrev tL (n x g : Nat) : VOper:=⟨.t n,.load none (.t x),some (.t g,true)⟩
abbrev fF (n k x g : Nat) : VOper:=⟨.t n,.fieldAddr k (.v x),some (.t g,false)⟩
abbrev tF (n k x g : Nat) : VOper:=⟨.t n,.fieldAddr k (.v x),some (.t g,true)⟩
abbrev sT (s x y : Nat) : VOper:=⟨.none,.store s (.t x) (.t y),none⟩
abbrev vO (n x y : Nat) : VOper:=⟨.v n,.pick (.t x) (.c (.bool true)) (.t y),none⟩
abbrev vB (n x y : Nat) : VOper:=⟨.v n,.pick (.t x) (.t y) (.c (.bool false)),none⟩
abbrev cZ : ZC:=.c (.int .i64 0)
abbrev zZ : BC:=.z (.c (.int .i64 0))
abbrev zN (n : Nat) : BC:=.z (.nil n)
abbrev aT (x j n : Nat) : BC:=.a (.t x) j n
abbrev rs (l : List VOper) (c : VCode) : VCode:=.seq (.region ⟨l,[],[]⟩) c
abbrev cE (v b : Nat) : VCode:=.cond (.v v) .skip (.exit b)
abbrev cS (v : Nat) (c : VCode) : VCode:=.cond (.v v) c .skip
abbrev sq (a b : VCode) : VCode:=.seq a b
inductive VRet where
 | tmp (x : VArg)
 | cell (x : VArg) (agg : Option Nat)
 deriving Inhabited
structure VFunc where
 vs : List Nat
 nparams : Nat
 body : VCode
 rets : List VRet
 deriving Inhabited
def iv : List Nat -> List Nat -> List Nat
 | s :: n :: r,l=>(List.range n).map (s + ·) ++ iv r l
 | _,l=>l
abbrev mF (n : Nat) (r : List VRet) (vs : List Nat) (b : VCode) : VFunc:=⟨vs,n,b,r⟩
structure St where
 pe : Nat -> VVal
 h : VHeap
inductive VExit where
 | normal
 | exit (id : Nat)
 | ret
 deriving DecidableEq
abbrev Sig:=FuncId -> List VVal -> List Ob -> Option (VVal × List Ob)
def AS : VVal -> List VVal
 | .agg cs=>cs
 | v=>[v]
def C2 (agg : Option Nat) (cs : List VVal) (off : Nat) : Option VVal :=
 match agg with
 | none=>cs[off]?
 | some n=>gd (off + n <= cs.length) (some (.agg ((cs.drop off).take n)))
def FW (h : VHeap) : VVal -> Option (List VVal × Nat)
 | .ptr id ver off=>match h id with
  | some (v,.box cs)=>gd (v = ver) (some (cs,off))
  | _=>none
 | .vptr cs off=>some (cs.map .p,off)
 | .eptr id ver i off=>match h id with
  | some (v,.arr _ xs)=>gd (v = ver) (ob xs[i]? fun x=>some (x.cells.map .p,off))
  | _=>none
 | _=>none
def GN (h : VHeap) (agg : Option Nat) (a : VVal) : Option VVal:=ob (FW h a) fun r=>C2 agg r.1 r.2
def unP : VVal -> Option PV
 | .p d=>some d
 | .fn f []=>some (.fn f)
 | _=>none
def Af {α β : Type} (f : α -> Option β) : List α -> Option (List β)
 | []=>some []
 | x :: xs=>ob (f x) fun y=>ob (Af f xs) fun ys=>some (y :: ys)
def Bn : VVal -> Option PV
 | .agg cs=>ob (Af unP cs) fun ds=>some (.agg ds)
 | v=>unP v
def Ba (h : VHeap) : VVal -> Option (Nat × List PV)
 | .p (.slice sz xs)=>some (sz,xs)
 | .own id ver off len=>match h id with
  | some (v,.arr sz xs)=>gd (v = ver) (some (sz,(xs.drop off).take len))
  | _=>none
 | _=>none
def Ee : VVal -> Option Nat
 | .p (.slice _ xs)=>some xs.length
 | .own _ _ _ len=>some len
 | _=>none
def GO : VVal -> Option Nat
 | .p (.str s)=>some s.size
 | _=>none
def Bh {α : Type} (cs : List α) (off : Nat) (vs : List α) : List α:=cs.take off ++ vs ++ cs.drop (off + vs.length)
def If (x : PV) (off : Nat) (ds : List PV) : PV :=
 match x with
 | .agg cs=>.agg (Bh cs off ds)
 | y=>ds.headD y
def EE : VVal -> Bool
 | .p _ | .own _ _ _ _ | .ptr _ _ _ | .vptr _ _ | .eptr _ _ _ _ | .mref _ _ | .fn _ _=>true
 | _=>false
def Ep (h : VHeap) (n : Nat) (vs : List VVal) : VVal -> Option (List (Id × Nat × Ob))
 | .ptr id ver off=>match h id with
  | some (v,.box cs)=>gd (v = ver) (gd (off + n <= cs.length) (some [(id,v,.box (Bh cs off vs))]))
  | _=>none
 | .eptr id ver i off=>match h id with
  | some (v,.arr sz xs)=>gd (v = ver) (ob xs[i]? fun x0=>ob (Af unP vs) fun ds=>gd (off + n <= x0.cells.length) (some [(id,v,.arr sz (xs.set i (If x0 off ds)))]))
  | _=>none
 | _=>none
def Iu (h : VHeap) (n : Nat) (a x : VVal) : Option (List (Id × Nat × Ob)) :=
 gd ((AS x).length = n) (gd ((AS x).all EE = true) (Ep h n (AS x) a))
def EX (h : VHeap) (sz i : Nat) : VVal -> Option VVal
 | .p (.slice sz' xs)=>gd (sz' = sz) (ob xs[i]? fun x=>some (.vptr x.cells 0))
 | .own id ver off len=>match h id with
  | some (v,.arr sz' _)=>gd (v = ver) (gd (sz' = sz) (gd (i < len) (some (.eptr id ver (off + i) 0))))
  | _=>none
 | _=>none
def Iv (h : VHeap) (sz : Nat) (s : VVal) (n : Int) : Option VVal:=gd (0 <= n) (EX h sz n.toNat s)
def zcell (d : Nat) (h : VHeap) (j : Nat) : ZC -> VVal × List (Id × Nat × Ob)
 | .c x=>(.p x,[])
 | .nil sz=>(.own (.slot d (j + 1)) (nv (h (.slot d (j + 1)))) 0 0,[(.slot d (j + 1),nv (h (.slot d (j + 1))),.arr sz [])])
def zcells (d : Nat) : VHeap -> Nat -> List ZC -> List VVal × List (Id × Nat × Ob)
 | _,_,[]=>([],[])
 | h,j,z :: zs=>((zcell d h j z).1 :: (zcells d (h.upds (zcell d h j z).2) (j + 1) zs).1,(zcell d h j z).2 ++ (zcells d (h.upds (zcell d h j z).2) (j + 1) zs).2)
def B2 (look : VArg -> Option VVal) (d : Nat) : VHeap -> Nat -> List BC -> Option (List VVal × List (Id × Nat × Ob))
 | _,_,[]=>some ([],[])
 | h,j,.z z :: bs=>ob (B2 look d (h.upds (zcell d h j z).2) (j + 1) bs) fun rs=>some ((zcell d h j z).1 :: rs.1,(zcell d h j z).2 ++ rs.2)
 | h,j,.a x i n :: bs=>ob (look x) fun v=>gd ((AS v).length = n) <| ob (AS v)[i]? fun c=>gd (EE c = true) <| ob (B2 look d h (j + 1) bs) fun rs=>some (c :: rs.1,rs.2)
def Ux (k : IntKind) (a b : Int) : Int:=k.wrap (BitVec.ofInt k.bits a &&& BitVec.ofInt k.bits b).toNat
def orI (k : IntKind) (a b : Int) : Int:=k.wrap (BitVec.ofInt k.bits a ||| BitVec.ofInt k.bits b).toNat
def TJ (k : IntKind) (a b : Int) : Int:=k.wrap (BitVec.ofInt k.bits a ^^^ BitVec.ofInt k.bits b).toNat
def NP (k : IntKind) (a b : Int) : Int:=k.wrap (BitVec.ofInt k.bits a &&& ~~~ BitVec.ofInt k.bits b).toNat
def Us (k : IntKind) (a b : Int) : Int:=k.wrap (a * 2 ^ min b.toNat k.bits)
def Uq (k : IntKind) (a b : Int) : Int:=a.fdiv (2 ^ min b.toNat k.bits)
def KK (k : IntKind) (a b : Int) : BinOp -> Option VVal
 | .add=>some (.p (.int k (k.wrap (a + b))))
 | .sub=>some (.p (.int k (k.wrap (a - b))))
 | .mul=>some (.p (.int k (k.wrap (a * b))))
 | .quo=>gd (b ≠ 0) (some (.p (.int k (k.wrap (a.tdiv b)))))
 | .rem=>gd (b ≠ 0) (some (.p (.int k (a.tmod b))))
 | .and=>some (.p (.int k (Ux k a b)))
 | .or=>some (.p (.int k (orI k a b)))
 | .xor=>some (.p (.int k (TJ k a b)))
 | .andNot=>some (.p (.int k (NP k a b)))
 | .eql=>some (.p (.bool (a == b)))
 | .neq=>some (.p (.bool (a != b)))
 | .lss=>some (.p (.bool (decide (a < b))))
 | .leq=>some (.p (.bool (decide (a <= b))))
 | .gtr=>some (.p (.bool (decide (b < a))))
 | .geq=>some (.p (.bool (decide (b <= a))))
 | _=>none
def KI (a b : ByteArray) : BinOp -> Option VVal
 | .eql=>some (.p (.bool (decide (a = b))))
 | .neq=>some (.p (.bool (!decide (a = b))))
 | .add=>gd (a.size + b.size <= 9223372036854775807) (some (.p (.str (a ++ b))))
 | _=>none
def NN : BinOp -> Bool
 | .shl | .shr=>true
 | _=>false
def Kh (k : IntKind) (a b : Int) : BinOp -> Option VVal
 | .shl=>gd (0 <= b) (some (.p (.int k (Us k a b))))
 | .shr=>gd (0 <= b) (some (.p (.int k (Uq k a b))))
 | _=>none
def Ky (op : BinOp) : VVal -> VVal -> Option VVal
 | .p (.int k a),.p (.int k' b)=>br (NN op) (Kh k a b op) (gd (k = k') (KK k a b op))
 | .p (.str a),.p (.str b)=>KI a b op
 | _,_=>none
def eq0 : KT -> PV -> PV -> Option Bool
 | .int k,.int k' a,.int k'' b=>gd (k' = k) (gd (k'' = k) (some (a == b)))
 | .bool,.bool a,.bool b=>some (a == b)
 | .str,.str a,.str b=>some (decide (a = b))
 | _,_,_=>none
def EJ : List KT -> List PV -> List PV -> Option Bool
 | [],[],[]=>some true
 | k :: ks,x :: xs,y :: ys=>ob (eq0 k x y) fun b=>ob (EJ ks xs ys) fun c=>some (b && c)
 | _,_,_=>none
def mm2 (isMax : Bool) : VVal -> VVal -> Option VVal
 | .p (.int k a),.p (.int k' b)=>gd (k = k') (some (.p (.int k (if isMax then max a b else min a b))))
 | _,_=>none
def mmL (isMax : Bool) : VVal -> List VVal -> Option VVal
 | v,[]=>some v
 | v,u :: us=>ob (mm2 isMax v u) fun r=>mmL isMax r us
def Ip (isMax : Bool) : List VVal -> Option VVal
 | []=>none
 | v :: vs=>mmL isMax v vs
def Do : KT -> VVal -> Option MKey
 | .int k,.p (.int k' n)=>gd (k = k') (some (.int n))
 | .str,.p (.str s)=>some (.str s)
 | .bool,.p (.bool b)=>some (.bool b)
 | _,_=>none
def AN : List MKey -> List PV -> MKey -> Option PV
 | k :: ks,v :: vs,k'=>if k' = k then some v else AN ks vs k'
 | _,_,_=>none
def At : List MKey -> List PV -> MKey -> PV -> List MKey × List PV
 | k :: ks,v :: vs,k',v'=>if k' = k then (k :: ks,v' :: vs) else
   let r:=At ks vs k' v'
   (k :: r.1,v :: r.2)
 | _,_,k',v'=>([k'],[v'])
def Da : List MKey -> MKey -> Nat
 | k :: ks,k'=>if k' = k then 0 else Da ks k' + 1
 | [],_=>0
def CE (h : VHeap) : VVal -> Option (KT × List MKey × List PV)
 | .p (.map kt ks vs)=>some (kt,ks,vs)
 | .mref id ver=>match h id with
  | some (v,.map kt ks vs)=>gd (v = ver) (some (kt,ks,vs))
  | _=>none
 | _=>none
def Ci : PV -> VVal
 | .agg cs=>.agg (cs.map .p)
 | d=>.p d
def Es (ok : Bool) (zero : PV) (ks : List MKey) (vs : List PV) (k : MKey) : VVal :=
 let r:=AN ks vs k
 let v:=Ci (r.getD zero)
 if ok then .tup [v,.p (.bool r.isSome)] else v
def Et (h : VHeap) (sz bytes : Nat) (s x : VVal) : Option (VVal × List (Id × Nat × Ob)) :=
 match s with
 | .own id ver 0 len=>match h id with
  | some (v,.arr sz' xs)=>gd (v = ver) <| gd (sz' = sz) <| gd (len <= xs.length) <|
    ob (Ba h x) fun r=>gd (r.1 = sz \/ r.2 = []) <| gd ((len + r.2.length) * bytes <= 140737488355328) <| gd (len + r.2.length <= 9223372036854775807) <|
     some (.own id (v + 1) 0 (len + r.2.length),[(id,v + 1,.arr sz (xs.take len ++ r.2))])
  | _=>none
 | _=>none
def Ha (d : Nat) (h : VHeap) (sz bytes : Nat) (x : VVal) : Option (VVal × List (Id × Nat × Ob)) :=
 ob (Ba h x) fun r=>gd (r.1 = sz \/ r.2 = []) <| gd (r.2.length * bytes <= 140737488355328) <| gd (r.2.length <= 9223372036854775807) <|
  some (.own (.slot d 0) (nv (h (.slot d 0))) 0 r.2.length,[(.slot d 0,nv (h (.slot d 0)),.arr sz r.2)])
def ID : VVal -> Option Nat
 | .p (.int _ n)=>gd (0 <= n) (some n.toNat)
 | _=>none
def Co (look : VArg -> Option VVal) (d : Nat) : Option VArg -> Option Nat
 | none=>some d
 | some x=>ob (look x) fun v=>ID v
def DF (h : VHeap) (sz l m : Nat) : VVal -> Option (VVal × List (Id × Nat × Ob))
 | .p (.slice sz' xs)=>gd (sz' = sz) (some (.p (.slice sz ((xs.drop l).take (m - l))),[]))
 | .own id ver off _=>match h id with
  | some (v,.arr sz' _)=>gd (v = ver) (gd (sz' = sz) (some (.own id ver (off + l) (m - l),[])))
  | _=>none
 | _=>none
def HB (d : Nat) (h : VHeap) (sz : Nat) : Option (VVal × List (Id × Nat × Ob)) :=
 some (.own (.slot d 0) (nv (h (.slot d 0))) 0 0,[(.slot d 0,nv (h (.slot d 0)),.arr sz [])])
def FK (d : Nat) (h : VHeap) (sz l m : Nat) : VVal -> Option (VVal × List (Id × Nat × Ob))
 | .own id ver off n=>DF h sz l m (.own id ver off n)
 | _=>gd (l = m) (HB d h sz)
def DW (d : Nat) (h : VHeap) (look : VArg -> Option VVal) (sz l m : Nat) (s : VVal) : Option VArg -> Option (VVal × List (Id × Nat × Ob))
 | none=>DF h sz l m s
 | some x=>ob (look x) fun v=>ob (ID v) fun k=>gd (k = m) (FK d h sz l m s)
def Kl (l m : Nat) : VVal -> Option (VVal × List (Id × Nat × Ob))
 | .p (.str b)=>some (.p (.str (b.extract l m)),[])
 | _=>none
def Fy (look : VArg -> Option VVal) (lo hi : Option VArg) (s : VVal) : Option (VVal × List (Id × Nat × Ob)) :=
 ob (GO s) fun n=>ob (Co look 0 lo) fun l=>ob (Co look n hi) fun m=>gd (l <= m) (gd (m <= n) (Kl l m s))
def D5 (d : Nat) (h : VHeap) (look : VArg -> Option VVal) (sz : Nat) (lo hi mx : Option VArg) (s : VVal) : Option (VVal × List (Id × Nat × Ob)) :=
 ob (Ee s) fun n=>ob (Co look 0 lo) fun l=>ob (Co look n hi) fun m=>gd (l <= m) (gd (m <= n) (DW d h look sz l m s mx))
def BX (h : VHeap) (id : Id) (ver : Nat) : Bool :=
 match h id with
 | some (v,_)=>decide (v = ver)
 | none=>false
def BV (R : List Id) (id : Id) : Option Nat:=match R with
 | []=>none
 | r :: rs=>if r = id then some 0 else (BV rs id).map (· + 1)
def Kt : VVal -> List Id
 | .ptr id _ _=>[id]
 | _=>[]
def HE : VVal -> List Id
 | .fn _ caps=>caps.flatMap Kt
 | .agg cs=>cs.flatMap Kt
 | v=>Kt v
def GB (h : VHeap) (id : Id) : List Id :=
 match h id with
 | some (_,.box cs)=>cs.flatMap HE
 | _=>[]
def Cg (R : List Id) : List Id -> List Id
 | []=>R
 | i :: is=>Cg (if R.contains i then R else R ++ [i]) is
def roots (h : VHeap) (args : List VVal) : List Id :=
 let r0:=Cg [] (args.flatMap HE)
 if r0.isEmpty then [] else
 let r1:=Cg r0 (r0.flatMap (GB h))
 let r2:=Cg r1 (r1.flatMap (GB h))
 r2
def BM (R : List Id) (h : VHeap) : VVal -> Option VVal
 | .p d=>some (.p d)
 | .own id ver off len=>ob (Ba h (.own id ver off len)) fun r=>some (.p (.slice r.1 r.2))
 | .mref id ver=>ob (CE h (.mref id ver)) fun r=>some (.p (.map r.1 r.2.1 r.2.2))
 | .ptr id ver off=>gd (BX h id ver = true) (ob (BV R id) fun i=>some (.ptr (.arg i 0) 0 off))
 | .vptr cs off=>some (.vptr cs off)
 | .eptr id ver i off=>match h id with
  | some (v,.arr _ xs)=>gd (v = ver) (ob xs[i]? fun x=>some (.vptr x.cells off))
  | _=>none
 | _=>none
def Cr (R : List Id) (h : VHeap) : VVal -> Option VVal
 | .fn f caps=>ob (Af (BM R h) caps) fun cs=>some (.fn f cs)
 | .agg cs=>ob (Af (BM R h) cs) fun cs=>some (.agg cs)
 | v=>BM R h v
def Hz : VVal -> Bool
 | .own _ _ _ _ | .mref _ _ | .eptr _ _ _ _=>true
 | _=>false
def Ec : VVal -> Bool
 | .agg cs | .fn _ cs=>cs.any Hz
 | v=>Hz v
def Cv : VVal -> Bool
 | .p d=>d.flat
 | .fresh _ xs=>xs.all PV.flat
 | .ptr _ _ _=>true
 | _=>false
def DP : VVal -> Bool
 | .agg cs=>cs.all Cv
 | .boxed cs=>cs.all Cv
 | v=>Cv v
def J5 : VVal -> Bool
 | .tup vs=>vs.all DP
 | v=>DP v
def FQ : VVal -> Bool
 | .p d=>d.flat
 | .ptr _ _ _=>true
 | .fn _ cs=>cs.all Cv
 | _=>false
def Kc : Ob -> Bool
 | .box cs=>cs.all FQ
 | _=>false
def C4 (R : List Id) (h : VHeap) (id : Id) : Option Ob :=
 match h id with
 | some (_,.box cs)=>gd (cs.any Ec = false) <| ob (Af (Cr R h) cs) fun cs=>some (.box cs)
 | _=>none
def CR (R : List Id) (h : VHeap) : VVal -> Option VVal
 | .p d=>some (.p d)
 | .ptr (.arg i 0) 0 off=>ob R[i]? fun id=>ob (h id) fun o=>some (.ptr id o.1 off)
 | _=>none
def Ed (R : List Id) (h : VHeap) : VVal -> Option VVal
 | .fn f caps=>ob (Af (CR R h) caps) fun cs=>some (.fn f cs)
 | v=>CR R h v
def Df (R : List Id) (h : VHeap) : List Id -> List Ob -> Option (List (Id × Nat × Ob))
 | [],[]=>some []
 | id :: ids,.box cs :: os=>ob (Af (Ed R h) cs) fun cs'=>ob (h id) fun o=>ob (Df R h ids os) fun us=>some ((id,o.1,.box cs') :: us)
 | _,_=>none
def in0 (R : List Id) (h : VHeap) (d j : Nat) : VVal -> Option (VVal × List (Id × Nat × Ob))
 | .fresh sz xs=>some (.own (.slot d (j + 1)) (nv (h (.slot d (j + 1)))) 0 xs.length,[(.slot d (j + 1),nv (h (.slot d (j + 1))),.arr sz xs)])
 | v=>ob (CR R h v) fun v'=>some (v',[])
def inL (R : List Id) (h : VHeap) (d : Nat) : Nat -> List VVal -> Option (List VVal × List (Id × Nat × Ob))
 | _,[]=>some ([],[])
 | j,v :: vs=>ob (in0 R h d j v) fun r=>ob (inL R h d (j + 1) vs) fun rs=>some (r.1 :: rs.1,r.2 ++ rs.2)
def in1 (R : List Id) (h : VHeap) (d j : Nat) : VVal -> Option (VVal × List (Id × Nat × Ob))
 | .agg cs=>ob (inL R h d j cs) fun r=>some (.agg r.1,r.2)
 | .boxed cs=>ob (inL R h d (j + 1) cs) fun r=>some (.ptr (.slot d (j + 1)) (nv (h (.slot d (j + 1)))) 0,(.slot d (j + 1),nv (h (.slot d (j + 1))),.box r.1) :: r.2)
 | v=>in0 R h d j v
def EC : VVal -> Nat
 | .agg cs=>cs.length
 | .boxed cs=>cs.length + 1
 | _=>1
def inT (R : List Id) (h : VHeap) (d : Nat) : Nat -> List VVal -> Option (List VVal × List (Id × Nat × Ob))
 | _,[]=>some ([],[])
 | j,v :: vs=>ob (in1 R h d j v) fun r=>ob (inT R h d (j + EC v) vs) fun rs=>some (r.1 :: rs.1,r.2 ++ rs.2)
def C9 (R : List Id) (h : VHeap) (d : Nat) : VVal -> Option (VVal × List (Id × Nat × Ob))
 | .tup vs=>ob (inT R h d 0 vs) fun r=>some (.tup r.1,r.2)
 | v=>in1 R h d 0 v
def DH (R : List Id) (h : VHeap) (d j : Nat) : VVal -> Option (VVal × List (Id × Nat × Ob))
 | .own (.arg i 0) 0 off len=>ob R[i]? fun id=>ob (h id) fun o=>some (.own id o.1 off len,[])
 | .own (.arg i 0) 1 off len=>ob R[i]? fun id=>ob (h id) fun o=>some (.own id (o.1 + 1) off len,[])
 | v=>in0 R h d j v
def CC (R : List Id) (h : VHeap) (d : Nat) : Nat -> List VVal -> Option (List VVal × List (Id × Nat × Ob))
 | _,[]=>some ([],[])
 | j,v :: vs=>ob (DH R h d j v) fun r=>ob (CC R h d (j + 1) vs) fun rs=>some (r.1 :: rs.1,r.2 ++ rs.2)
def DA (R : List Id) (h : VHeap) (d : Nat) : VVal -> Option (VVal × List (Id × Nat × Ob))
 | .own (.arg i 0) 0 off len=>ob R[i]? fun id=>ob (h id) fun o=>some (.own id o.1 off len,[])
 | .own (.arg i 0) 1 off len=>ob R[i]? fun id=>ob (h id) fun o=>some (.own id (o.1 + 1) off len,[])
 | .agg cs=>ob (CC R h d 0 cs) fun r=>some (.agg r.1,r.2)
 | v=>C9 R h d v
def Dj (Γ : Sig) (h : VHeap) (d : Nat) (f : FuncId) (args : List VVal) (R : List Id) : Option (VVal × List (Id × Nat × Ob)) :=
 ob (Af (Cr R h) args) fun args'=>ob (Af (C4 R h) R) fun H=>ob (Γ f args' H) fun r =>
  gd (args.any Ec = false \/ (J5 r.1 = true /\ r.2.all Kc = true)) <|
  ob (Df R h R r.2) fun us=>ob (C9 R h d r.1) fun q=>some (q.1,us ++ q.2)
def Di (Γ : Sig) (h : VHeap) (d : Nat) (f : FuncId) (args : List VVal) : Option (VVal × List (Id × Nat × Ob)):=Dj Γ h d f args (roots h args)
def Kg : VVal -> List Id
 | .ptr id _ _ | .own id _ _ _ | .mref id _ | .eptr id _ _ _=>[id]
 | _=>[]
def Hx : VVal -> List Id
 | .fn _ caps=>caps.flatMap Kg
 | .agg cs=>cs.flatMap Kg
 | v=>Kg v
def Gt (h : VHeap) (id : Id) : List Id :=
 match h id with
 | some (_,.box cs)=>cs.flatMap Hx
 | _=>[]
def rootsW (h : VHeap) (args : List VVal) : List Id :=
 let r0:=Cg [] (args.flatMap Hx)
 if r0.isEmpty then [] else
 let r1:=Cg r0 (r0.flatMap (Gt h))
 let r2:=Cg r1 (r1.flatMap (Gt h))
 r2
def B3 (R : List Id) (h : VHeap) : VVal -> Option VVal
 | .p d=>some (.p d)
 | .vptr cs off=>some (.vptr cs off)
 | .ptr id ver off=>gd (BX h id ver = true) (ob (BV R id) fun i=>some (.ptr (.arg i 0) 0 off))
 | .own id ver off len=>gd (BX h id ver = true) (ob (BV R id) fun i=>some (.own (.arg i 0) 0 off len))
 | .mref id ver=>gd (BX h id ver = true) (ob (BV R id) fun i=>some (.mref (.arg i 0) 0))
 | .eptr id ver j off=>gd (BX h id ver = true) (ob (BV R id) fun i=>some (.eptr (.arg i 0) 0 j off))
 | _=>none
def CO (R : List Id) (h : VHeap) : VVal -> Option VVal
 | .fn f caps=>ob (Af (B3 R h) caps) fun cs=>some (.fn f cs)
 | .agg cs=>ob (Af (B3 R h) cs) fun cs=>some (.agg cs)
 | v=>B3 R h v
def DU (R : List Id) (h : VHeap) (id : Id) : Option Ob :=
 match h id with
 | some (_,.box cs)=>ob (Af (CO R h) cs) fun cs=>some (.box cs)
 | some (_,.arr sz xs)=>some (.arr sz xs)
 | some (_,.map kt ks vs)=>some (.map kt ks vs)
 | _=>none
def CG (R : List Id) (h : VHeap) : VVal -> Option VVal
 | .p d=>some (.p d)
 | .ptr (.arg i 0) 0 off=>ob R[i]? fun id=>ob (h id) fun o=>some (.ptr id o.1 off)
 | .own (.arg i 0) ver off len=>ob R[i]? fun id=>ob (h id) fun o=>some (.own id (o.1 + ver) off len)
 | .mref (.arg i 0) 0=>ob R[i]? fun id=>ob (h id) fun o=>some (.mref id o.1)
 | _=>none
def DV (R : List Id) (h : VHeap) : VVal -> Option VVal
 | .fn f caps=>ob (Af (CG R h) caps) fun cs=>some (.fn f cs)
 | v=>CG R h v
def inC (R : List Id) (h : VHeap) (d j : Nat) : VVal -> Option (VVal × List (Id × Nat × Ob))
 | .fresh sz xs=>some (.own (.slot d (j + 1)) (nv (h (.slot d (j + 1))) + 1) 0 xs.length,[(.slot d (j + 1),nv (h (.slot d (j + 1))) + 1,.arr sz xs)])
 | v=>ob (DV R h v) fun v'=>some (v',[])
def Cj (R : List Id) (h : VHeap) (d : Nat) : Nat -> List VVal -> Option (List VVal × List (Id × Nat × Ob))
 | _,[]=>some ([],[])
 | j,v :: vs=>ob (inC R h d j v) fun r=>ob (Cj R h d (j + 1) vs) fun rs=>some (r.1 :: rs.1,r.2 ++ rs.2)
def BS (R : List Id) (h : VHeap) (d : Nat) : Nat -> List Id -> List Ob -> Option (List (Id × Nat × Ob) × List (Id × Nat × Ob))
 | _,[],[]=>some ([],[])
 | j,id :: ids,o :: os=>ob (h id) fun q=>match q.2,o with
  | .box _,.box cs=>ob (Cj R h d j cs) fun r=>ob (BS R h d (j + cs.length) ids os) fun us=>some ((id,q.1,.box r.1) :: us.1,r.2 ++ us.2)
  | .arr _ _,.arr sz xs=>ob (BS R h d j ids os) fun us=>some ((id,q.1,.arr sz xs) :: us.1,us.2)
  | .arr _ _,.box [.undef,.fresh sz xs]=>ob (BS R h d j ids os) fun us=>some ((id,q.1 + 1,.arr sz xs) :: us.1,us.2)
  | .map _ _ _,.map kt ks vs=>ob (BS R h d j ids os) fun us=>some ((id,q.1,.map kt ks vs) :: us.1,us.2)
  | _,_=>none
 | _,_,_=>none
def MO (R : List Id) (as_ qs : List (Id × Nat × Ob)) : Bool:=qs.all fun x=>!R.contains x.1 && as_.all fun y=>!decide (y.1 = x.1)
def Dh (Γ : Sig) (h : VHeap) (d : Nat) (f : FuncId) (args : List VVal) (R : List Id) : Option (VVal × List (Id × Nat × Ob)) :=
 ob (Af (CO R h) args) fun args'=>ob (Af (DU R h) R) fun H=>ob (Γ f args' H) fun r =>
  ob (BS R h d 1000 R r.2) fun us=>ob (DA R h d r.1) fun q=>gd (MO R us.2 q.2 = true) (some (q.1,us.1 ++ (us.2 ++ q.2)))
def Cn (Γ : Sig) (h : VHeap) (d : Nat) (f : FuncId) (args : List VVal) : Option (VVal × List (Id × Nat × Ob)):=Dh Γ h d f args (rootsW h args)
def HC (h : VHeap) (sz : Nat) (a x : VVal) : Option (VVal × List (Id × Nat × Ob)) :=
 match a with
 | .own id ver off len=>match h id with
  | some (v,.arr sz' xs)=>gd (v = ver) <| gd (sz' = sz) <| ob (Ba h x) fun r=>gd (r.1 = sz \/ r.2 = []) <|
    some (.p (.int .i64 (min len r.2.length : Nat)),[(id,v,.arr sz (Bh xs off (r.2.take (min len r.2.length))))])
  | _=>none
 | _=>none
open Classical in
noncomputable def D7 (h : VHeap) (us : List (Id × Nat × Ob)) : Bool:=decide (∀ x ∈ us,h x.1 = some x.2)
theorem Xm {h : VHeap} : D7 h [] = true:=by simp [D7]
theorem OM {h : VHeap} {i : Id} {n : Nat} {o : Ob} {us : List (Id × Nat × Ob)} : (D7 h ((i,n,o) :: us) = true) = (h i = some (n,o) /\ D7 h us = true):=by
 simp only [D7,decide_eq_true_eq,lfm]
noncomputable def Aj (Γ : Sig) (look : VArg -> Option VVal) (h : VHeap) (d : Nat) : VOp -> Option (VVal × List (Id × Nat × Ob))
 | .move x=>ob (look x) fun v=>some (v,[])
 | .newArr sz=>some (.own (.slot d 0) (nv (h (.slot d 0))) 0 0,[(.slot d 0,nv (h (.slot d 0)),.arr sz [])])
 | .pick c a b=>ob (look c) fun v=>match v with
  | .p (.bool t)=>br t (ob (look a) fun v=>some (v,[])) (ob (look b) fun v=>some (v,[]))
  | _=>none
 | .alloc zero=>some (.ptr (.slot d 0) (nv (h.upds (zcells d h 0 zero).2 (.slot d 0))) 0,(zcells d h 0 zero).2 ++ [(.slot d 0,nv (h.upds (zcells d h 0 zero).2 (.slot d 0)),.box (zcells d h 0 zero).1)])
 | .box n x=>ob (look x) fun v=>gd ((AS v).length = n) <| gd ((AS v).all EE = true) (some (.ptr (.slot d 0) (nv (h (.slot d 0))) 0,[(.slot d 0,nv (h (.slot d 0)),.box (AS v))]))
 | .build cells=>ob (B2 look d h 0 cells) fun r=>some (.agg r.1,r.2)
 | .buildSlice sz parts=>ob (Af (fun x=>ob (look x) fun v=>Bn v) parts) fun xs =>
   gd (xs.all (fun x=>decide (x.cells.length = sz)) = true) (some (.own (.slot d 0) (nv (h (.slot d 0))) 0 parts.length,[(.slot d 0,nv (h (.slot d 0)),.arr sz xs)]))
 | .buildFz sz parts=>ob (Af (fun x=>ob (look x) fun v=>Bn v) parts) fun xs =>
   gd (xs.all (fun x=>decide (x.cells.length = sz)) = true) (some (.p (.slice sz xs),[]))
 | .load agg a=>ob (look a) fun p=>ob (GN h agg p) fun v=>some (v,[])
 | .store n a x=>ob (look a) fun p=>ob (look x) fun v=>ob (Iu h n p v) fun us=>some (.undef,us)
 | .fieldAddr off x=>ob (look x) fun v=>match v with
  | .ptr id ver o=>some (.ptr id ver (o + off),[])
  | .vptr cs o=>some (.vptr cs (o + off),[])
  | .eptr id ver i o=>some (.eptr id ver i (o + off),[])
  | _=>none
 | .field off agg x=>ob (look x) fun v=>match v with
  | .agg cs=>ob (C2 agg cs off) fun r=>some (r,[])
  | _=>none
 | .indexAddr sz x i=>ob (look x) fun s=>ob (look i) fun n=>match n with
  | .p (.int _ n)=>ob (Iv h sz s n) fun r=>some (r,[])
  | _=>none
 | .indexStr x i=>ob (look x) fun s=>ob (look i) fun n=>match s,n with
  | .p (.str s),.p (.int _ n)=>gd (0 <= n) (ob s[n.toNat]? fun b=>some (.p (.int .u8 b.toNat),[]))
  | _,_=>none
 | .bin op x y=>ob (look x) fun a=>ob (look y) fun b=>ob (Ky op a b) fun r=>some (r,[])
 | .eqAgg neg kts x y=>ob (look x) fun a=>ob (look y) fun b=>match a,b with
  | .agg a,.agg b=>ob (Af unP a) fun xs=>ob (Af unP b) fun ys=>ob (EJ kts xs ys) fun r=>some (.p (.bool (if neg then !r else r)),[])
  | _,_=>none
 | .not x=>ob (look x) fun v=>match v with
  | .p (.bool b)=>some (.p (.bool (!b)),[])
  | _=>none
 | .len x=>ob (look x) fun v=>ob (Ee v) fun n=>some (.p (.int .i64 n),[])
 | .lenStr x=>ob (look x) fun v=>ob (GO v) fun n=>some (.p (.int .i64 n),[])
 | .eqB neg x y=>ob (look x) fun a=>ob (look y) fun b=>match a,b with
  | .p (.bool a),.p (.bool b)=>some (.p (.bool (if neg then !(a == b) else a == b)),[])
  | _,_=>none
 | .append sz bytes s x=>ob (look s) fun a=>ob (look x) fun b=>Et h sz bytes a b
 | .appendNil sz bytes x=>ob (look x) fun b=>Ha d h sz bytes b
 | .slice str sz lo hi mx x=>ob (look x) fun s=>br str (Fy look lo hi s) (D5 d h look sz lo hi mx s)
 | .lookup ok kt zero m k=>ob (look m) fun m=>ob (look k) fun k=>ob (CE h m) fun es=>gd (es.1 = kt \/ es.2.1 = []) <| ob (Do kt k) fun k=>some (Es ok zero es.2.1 es.2.2 k,[])
 | .mapUpdate kt m k x=>ob (look m) fun m=>ob (look k) fun k=>ob (look x) fun x=>ob (Do kt k) fun k=>ob (Bn x) fun x=>match m with
  | .mref id ver=>match h id with
   | some (v,.map kt' ks vs)=>gd (v = ver) <| gd (kt' = kt) (some (.undef,[(id,v,.map kt (At ks vs k x).1 (At ks vs k x).2)]))
   | _=>none
  | _=>none
 | .makeMap kt=>some (.mref (.slot d 0) (nv (h (.slot d 0))),[(.slot d 0,nv (h (.slot d 0)),.map kt [] [])])
 | .extract x i=>ob (look x) fun v=>match v with
  | .tup vs=>ob vs[i]? fun v=>some (v,[])
  | _=>none
 | .minmax isMax xs=>ob (Af look xs) fun vs=>ob (Ip isMax vs) fun r=>some (r,[])
 | .strBytes x=>ob (look x) fun v=>match v with
  | .p (.str s)=>some (.p (.slice 1 (s.data.toList.map fun b=>.int .u8 b.toNat)),[])
  | _=>none
 | .nilCheck x=>ob (look x) fun v=>match v with
  | .ptr id ver off=>some (.ptr id ver off,[])
  | .vptr cs off=>some (.vptr cs off,[])
  | .eptr id ver i off=>some (.eptr id ver i off,[])
  | .fn f caps=>some (.fn f caps,[])
  | _=>none
 | .makeFunc f caps=>ob (Af look caps) fun cs=>some (.fn f cs,[])
 | .call f args=>ob (Af look args) fun vs=>Di Γ h d f vs
 | .callv x args=>ob (look x) fun g=>ob (Af look args) fun vs=>match g with
  | .fn f caps=>Di Γ h d f (vs ++ caps)
  | .p (.fn f)=>Di Γ h d f vs
  | _=>none
 | .callW f args=>ob (Af look args) fun vs=>Cn Γ h d f vs
 | .callR f args=>ob (Af look args) fun vs=>ob (Cn Γ h d f vs) fun q=>gd (D7 h q.2 = true) (some (q.1,[]))
 | .callvW x args=>ob (look x) fun g=>ob (Af look args) fun vs=>match g with
  | .fn f caps=>Cn Γ h d f (vs ++ caps)
  | .p (.fn f)=>Cn Γ h d f vs
  | _=>none
 | .make sz bytes zero n=>ob (look n) fun v=>match v with
  | .p (.int _ m)=>gd (0 <= m) <| gd ((bytes : Int) * m <= 281474976710656) <| gd (m <= 9223372036854775807) <|
    some (.own (.slot d 0) (nv (h (.slot d 0))) 0 m.toNat,[(.slot d 0,nv (h (.slot d 0)),.arr sz (List.replicate m.toNat zero))])
  | _=>none
 | .copy sz a x=>ob (look a) fun a=>ob (look x) fun x=>HC h sz a x
 | .mapEntry kt zero m k=>ob (look m) fun m=>ob (look k) fun k=>ob (Do kt k) fun k=>match m with
  | .mref id ver=>match h id with
   | some (v,.map kt' ks vs)=>gd (v = ver) <| gd (kt' = kt) (some (.tup [Ci ((AN ks vs k).getD zero),.p (.int .i64 (Da ks k))],[(id,v,.map kt (At ks vs k ((AN ks vs k).getD zero)).1 (At ks vs k ((AN ks vs k).getD zero)).2)]))
   | _=>none
  | _=>none
 | .entryStore m s x=>ob (look m) fun m=>ob (look s) fun s=>ob (look x) fun x=>ob (Bn x) fun x=>match m,s with
  | .mref id ver,.p (.int .i64 n)=>match h id with
   | some (v,.map kt ks vs)=>gd (v = ver) <| gd (0 <= n) <| gd (n.toNat < vs.length) (some (.undef,[(id,v,.map kt ks (vs.set n.toNat x))]))
   | _=>none
  | _,_=>none
 | .buildArr sz parts=>ob (Af (fun x=>ob (look x) fun v=>Bn v) parts) fun xs=>gd (xs.all (fun x=>decide (x.cells.length = sz)) = true) (some (.agg ((xs.flatMap PV.cells).map .p),[]))
 | .indexArr n sz agg x i=>ob (look x) fun v=>ob (look i) fun i=>match v,i with
  | .agg cs,.p (.int _ k)=>gd (0 <= k) <| gd (k < n) <| ob (C2 agg cs (k.toNat * sz)) fun r=>some (r,[])
  | _,_=>none
end Go.V
namespace Go.V
structure RS where
 pe : Nat -> VVal
 te : Nat -> Option VVal
 h : VHeap
def RS.look (r : RS) : VArg -> Option VVal
 | .v s=>some (r.pe s)
 | .t s=>r.te s
 | .c d=>some (Ci d)
def Ef (e : Nat -> VVal) (s : Nat) (v : VVal) : Nat -> VVal:=fun t=>if t = s then v else e t
def Fb (e : Nat -> Option VVal) (s : Nat) (v : VVal) : Nat -> Option VVal:=fun t=>if t = s then some v else e t
def RS.put (r : RS) : VDst -> VVal -> RS
 | .v s,v=>{ r with pe:=Ef r.pe s v }
 | .t s,v=>{ r with te:=Fb r.te s v }
 | .none,_=>r
def VDst.slot : VDst -> Nat
 | .v s | .t s=>s
 | .none=>0
noncomputable def BU (Γ : Sig) (o : VOper) (r : RS) : Option RS :=
 match o.guard with
 | none=>ob (Aj Γ r.look r.h o.dst.slot o.op) fun q=>some { r.put o.dst q.1 with h:=r.h.upds q.2 }
 | some (g,want)=>ob (r.look g) fun gv=>match gv with
  | .p (.bool b)=>br (b == want) (ob (Aj Γ r.look r.h o.dst.slot o.op) fun q=>some { r.put o.dst q.1 with h:=r.h.upds q.2 })
   (some (r.put o.dst .undef))
  | .undef=>some (r.put o.dst .undef)
  | _=>none
def ids0 : VVal -> List Id
 | .own id _ _ _ | .ptr id _ _ | .eptr id _ _ _ | .mref id _=>[id]
 | _=>[]
def ids1 : VVal -> List Id
 | .fn _ cs | .agg cs=>cs.flatMap ids0
 | v=>ids0 v
def VOp.args : VOp -> List VArg
 | .move x | .box _ x | .load _ x | .fieldAddr _ x | .field _ _ x | .not x | .len x | .lenStr x | .appendNil _ _ x | .extract x _ | .strBytes x | .nilCheck x | .make _ _ _ x=>[x]
 | .newArr _ | .alloc _ | .makeMap _=>[]
 | .pick c a b=>[c,a,b]
 | .build cs=>cs.filterMap fun | .a x _ _=>some x | .z _=>none
 | .buildSlice _ ps=>ps
 | .buildFz _ ps=>ps
 | .store _ a x | .indexAddr _ a x | .indexStr a x | .bin _ a x | .eqAgg _ _ a x | .eqB _ a x | .append _ _ a x | .lookup _ _ _ a x | .copy _ a x=>[a,x]
 | .slice _ _ lo hi mx x=>x :: (lo.toList ++ hi.toList ++ mx.toList)
 | .mapUpdate _ m k x=>[m,k,x]
 | .mapEntry _ _ m k=>[m,k]
 | .entryStore m s x=>[m,s,x]
 | .buildArr _ ps=>ps
 | .indexArr _ _ _ x i=>[x,i]
 | .minmax _ xs | .makeFunc _ xs | .call _ xs | .callW _ xs | .callR _ xs=>xs
 | .callv x xs | .callvW x xs=>x :: xs
def VOp.writes : VOp -> Bool
 | .store _ _ _ | .append _ _ _ _ | .mapUpdate _ _ _ _ | .call _ _ | .callv _ _ | .callW _ _ | .callvW _ _ | .copy _ _ _ | .mapEntry _ _ _ _ | .entryStore _ _ _=>true
 | _=>false
def VOp.isR : VOp -> Bool
 | .callR _ _=>true
 | _=>false
def B6 : VOp -> List VVal -> List VVal
 | .callv _ _,.fn _ caps :: vs=>vs ++ caps
 | .callv _ _,_ :: vs=>vs
 | .callvW _ _,.fn _ caps :: vs=>vs ++ caps
 | .callvW _ _,_ :: vs=>vs
 | _,vs=>vs
def callRoots (h : VHeap) : VOp -> List VVal -> List Id
 | .callW _ _,vs | .callvW _ _,vs | .callR _ _,vs=>rootsW h vs
 | _,vs=>roots h vs
def touchF (look : VArg -> Option VVal) (h : VHeap) (o : VOper) : List Id :=
 let vs:=o.op.args.filterMap look
 vs.flatMap ids1 ++ (if o.op.writes || o.op.isR then (B6 o.op vs).flatMap ids1 ++ callRoots h o.op (B6 o.op vs) else [])
def Bl (r : RS) (o : VOper) : List Id:=touchF r.look r.h o
def Id.at : Id -> Nat -> Bool
 | .slot s _,d=>s == d
 | _,_=>false
def headFp : List Id -> List Id
 | []=>[]
 | i :: _=>[i]
def VOp.wrFp : VOp -> List Id -> List Id
 | .append _ _ _ _,t=>headFp t
 | _,t=>t
def E3 (o o' : VOper) (t t' : List Id) : Bool :=
 (!o.op.writes || (o.op.wrFp t).all fun i=>!t'.contains i) && (!o'.op.writes || (o'.op.wrFp t').all fun i=>!t.contains i) &&
 t.all (fun i=>!i.at o'.dst.slot) && t'.all (fun i=>!i.at o.dst.slot) && o.dst.slot != o'.dst.slot
noncomputable def BT (Γ : Sig) : List VOper -> RS -> Option RS
 | [],r=>some r
 | o :: os,r=>ob (BU Γ o r) fun r'=>BT Γ os r'
def FB (fp : List (Nat × Nat)) (i : Nat) (o : VOper) (t : List Id) : List (Nat × VOper × List Id) -> Bool
 | []=>true
 | (a,o',t') :: acc=>if fp.contains (a,i) = true then E3 o' o t' t && FB fp i o t acc else FB fp i o t acc
def fpL (fp : List (Nat × Nat)) (i : Nat) : Bool:=fp.any fun p=>p.1 == i
def fpR (fp : List (Nat × Nat)) (i : Nat) : Bool:=fp.any fun p=>p.2 == i
def FG (fp : List (Nat × Nat)) (i : Nat) (o : VOper) (r : RS) (acc : List (Nat × VOper × List Id)) : List (Nat × VOper × List Id) :=
 if fpL fp i = true then (i,o,Bl r o) :: acc else acc
noncomputable def BG (Γ : Sig) (fp : List (Nat × Nat)) : Nat -> List VOper -> RS -> List (Nat × VOper × List Id) -> Option RS
 | _,[],r,_=>some r
 | i,o :: os,r,acc=>if fpR fp i = true then gd (FB fp i o (Bl r o) acc = true) <| ob (BU Γ o r) fun r'=>BG Γ fp (i + 1) os r' (FG fp i o r acc)
   else ob (BU Γ o r) fun r'=>BG Γ fp (i + 1) os r' (FG fp i o r acc)
def EO (fz : List Nat) : Id -> Bool
 | .slot s _=>fz.contains s
 | .arg _ _=>false
def fz0 (fz : List Nat) (h : VHeap) : VVal -> VVal
 | .own id ver off len=>if EO fz id then
   match Ba h (.own id ver off len) with
   | some r=>.p (.slice r.1 r.2)
   | none=>.dead
  else .own id ver off len
 | v=>v
def fz1 (fz : List Nat) (h : VHeap) : VVal -> VVal
 | .agg cs=>.agg (cs.map (fz0 fz h))
 | .tup vs=>.tup (vs.map (fz0 fz h))
 | v=>fz0 fz h v
def Cq (fz : List Nat) (h : VHeap) (id : Id) : Option (Nat × Ob) :=
 match h id with
 | some (v,.arr sz xs)=>if EO fz id then some (v + 1,.gone) else some (v,.arr sz xs)
 | some (v,.box cs)=>some (v,.box (cs.map (fz0 fz h)))
 | o=>o
def Dl (fz : List Nat) (s : St) : St:=if fz.isEmpty then s else { pe:=fun t=>fz1 fz s.h (s.pe t),h:=Cq fz s.h }
noncomputable def B9 (Γ : Sig) (r : VRegion) (s : St) : Option St :=
 ob (if r.fp.isEmpty then BT Γ r.ops { pe:=(Dl r.fz s).pe,te:=fun _=>none,h:=(Dl r.fz s).h }
   else BG Γ r.fp 0 r.ops { pe:=(Dl r.fz s).pe,te:=fun _=>none,h:=(Dl r.fz s).h } []) fun q=>some { pe:=q.pe,h:=q.h }
def mv0 (a b : Id) (va n : Nat) : VVal -> VVal
 | .own id ver off len=>if id = a /\ ver = va then .own b n off len else .own id ver off len
 | .eptr id ver i off=>if id = a /\ ver = va then .eptr b n i off else .eptr id ver i off
 | v=>v
def mv1 (a b : Id) (va n : Nat) : VVal -> VVal
 | .agg cs=>.agg (cs.map (mv0 a b va n))
 | .tup vs=>.tup (vs.map (mv0 a b va n))
 | v=>mv0 a b va n v
def Cp (a b : Id) (va n sz : Nat) (xs : List PV) (h : VHeap) : VHeap:=fun id=>if id = b then some (n,.arr sz xs) else if id = a then some (va + 1,.gone) else
 match h id with
 | some (v,.box cs)=>some (v,.box (cs.map (mv0 a b va n)))
 | o=>o
def FP (a b : Id) (s : St) : St:=match s.h a with
 | some (va,.arr sz xs)=>{ pe:=fun t=>mv1 a b va (nv (s.h b)) (s.pe t),h:=Cp a b va (nv (s.h b)) sz xs s.h }
 | _=>s
def Bb (b : St -> Option (VExit × St)) : Nat -> St -> Option (VExit × St)
 | 0,_=>none
 | n + 1,s=>ob (b s) fun r=>match r.1 with
  | .normal=>Bb b n r.2
  | _=>some r
open Classical in
noncomputable def EN (b : St -> Option (VExit × St)) (s : St) : Option (VExit × St) :=
 if h : ∃ n r,Bb b n s = some r then some (Classical.choose (Classical.choose_spec h)) else none
noncomputable def AD (Γ : Sig) : VCode -> St -> Option (VExit × St)
 | .skip,s=>some (.normal,s)
 | .region r,s=>ob (B9 Γ r s) fun s'=>some (.normal,s')
 | .seq a b,s=>ob (AD Γ a s) fun r=>match r.1 with
  | .normal=>AD Γ b r.2
  | _=>some r
 | .cond c a b,s=>match c with
  | .v t=>match s.pe t with
   | .p (.bool c)=>br c (AD Γ a s) (AD Γ b s)
   | _=>none
  | _=>none
 | .block id c,s=>ob (AD Γ c s) fun r=>if r.1 = .exit id then some (.normal,r.2) else some r
 | .loop c,s=>EN (AD Γ c) s
 | .exit id,s=>some (.exit id,s)
 | .ret,s=>some (.ret,s)
 | .mv a b c,s=>AD Γ c (FP a b s)
 | .scope c,s=>AD Γ c s
 | .fail,_=>none
def GL (args : List VVal) : Nat -> VVal:=fun s=>args.getD s .undef
def AV (H : List Ob) : VHeap:=fun id=>match id with
 | .arg i 0=>(H[i]?).map fun o=>(0,o)
 | _=>none
def E8 (s : St) : VRet -> Option VVal
 | .tmp (.v t)=>some (s.pe t)
 | .cell (.v t) agg=>GN s.h agg (s.pe t)
 | _=>none
def AB (h : VHeap) : VVal -> Option VVal
 | .p d=>some (.p d)
 | .own (.slot s j) ver off len=>ob (Ba h (.own (.slot s j) ver off len)) fun r=>gd (off = 0) (some (.fresh r.1 r.2))
 | .mref (.slot s j) ver=>ob (CE h (.mref (.slot s j) ver)) fun r=>some (.p (.map r.1 r.2.1 r.2.2))
 | .ptr (.arg i 0) ver off=>gd (ver = 0) (some (.ptr (.arg i 0) 0 off))
 | .fn f []=>some (.p (.fn f))
 | _=>none
def BL (h : VHeap) : VVal -> Option VVal
 | .agg cs=>ob (Af (AB h) cs) fun cs=>some (.agg cs)
 | .ptr (.slot s j) ver 0=>match h (.slot s j) with
  | some (v,.box cs)=>gd (v = ver) (ob (Af (AB h) cs) fun cs=>some (.boxed cs))
  | _=>none
 | v=>AB h v
def FH : List Id -> Bool
 | []=>true
 | i :: is=>!is.contains i && FH is
def Hr : VVal -> List Id
 | .own id _ _ _=>[id]
 | _=>[]
def Fz (h : VHeap) : VVal -> List Id
 | .agg cs=>cs.flatMap Hr
 | .ptr id _ _=>match h id with
  | some (_,.box cs)=>id :: cs.flatMap Hr
  | _=>[id]
 | v=>Hr v
def Ea (h : VHeap) : VVal -> Option VVal
 | .own (.arg i 0) ver off len=>gd (BX h (.arg i 0) ver = true) (some (.own (.arg i 0) (if ver = 0 then 0 else 1) off len))
 | v=>AB h v
def GV (h : VHeap) : VVal -> Option VVal
 | .agg cs=>ob (Af (Ea h) cs) fun cs=>some (.agg cs)
 | .own (.arg i 0) ver off len=>gd (BX h (.arg i 0) ver = true) (some (.own (.arg i 0) (if ver = 0 then 0 else 1) off len))
 | v=>BL h v
def DB (h : VHeap) : List VVal -> Option VVal
 | [v]=>GV h v
 | vs=>ob (Af (BL h) vs) fun vs=>some (.tup vs)
def MU : VVal -> List Id
 | .own (.slot s j) _ _ _=>[.slot s j]
 | _=>[]
def FC (h : VHeap) : Nat -> Nat -> List Id
 | _,0=>[]
 | i,n + 1=>(match h (.arg i 0) with
  | some (_,.box cs)=>cs.flatMap MU
  | _=>[]) ++ FC h (i + 1) n
def Eh (h : VHeap) (n : Nat) (vs : List VVal) : Option VVal:=gd (FH (vs.flatMap (Fz h) ++ FC h 0 n) = true) (DB h vs)
def AU (h : VHeap) : VVal -> Option VVal
 | .p d=>some (.p d)
 | .ptr (.arg i 0) ver off=>gd (ver = 0) (some (.ptr (.arg i 0) 0 off))
 | .own (.arg i 0) ver off len=>gd (BX h (.arg i 0) ver = true) (some (.own (.arg i 0) (if ver = 0 then 0 else 1) off len))
 | .own (.slot s j) ver off len=>ob (Ba h (.own (.slot s j) ver off len)) fun r=>gd (off = 0) (some (.fresh r.1 r.2))
 | .mref (.arg i 0) ver=>gd (ver = 0) (some (.mref (.arg i 0) 0))
 | _=>none
def AY (h : VHeap) : VVal -> Option VVal
 | .fn f caps=>ob (Af (AU h) caps) fun cs=>some (.fn f cs)
 | v=>AU h v
def FE (h : VHeap) (i : Nat) : Option Ob :=
 match h (.arg i 0) with
 | some (v,.box cs)=>gd (v = 0) (ob (Af (AY h) cs) fun cs=>some (.box cs))
 | some (v,.arr sz xs)=>some (if v = 0 then .arr sz xs else .box [.undef,.fresh sz xs])
 | some (v,.map kt ks vs)=>gd (v = 0) (some (.map kt ks vs))
 | _=>none
def B5 (h : VHeap) : Nat -> Nat -> Option (List Ob)
 | _,0=>some []
 | i,n + 1=>ob (FE h i) fun o=>ob (B5 h (i + 1) n) fun os=>some (o :: os)
def IF (rets : List VRet) (n : Nat) (r : VExit × St) : Option (VVal × List Ob) :=
 match r.1 with
 | .exit _=>none
 | _=>ob (Af (E8 r.2) rets) fun vs=>ob (Eh r.2.h n vs) fun v=>ob (B5 r.2.h 0 n) fun H'=>some (v,H')
noncomputable def BW (Γ : Sig) (vf : VFunc) (args : List VVal) (H : List Ob) : Option (VVal × List Ob) :=
 gd (args.length = vf.nparams) <|
  ob (AD Γ vf.body { pe:=GL args,h:=AV H }) fun r=>IF vf.rets H.length r
noncomputable def CQ (prog : FuncId -> Option VFunc) (X : Sig) : Nat -> Sig
 | 0=>X
 | n + 1=>fun f args H=>match X f args H with
  | some r=>some r
  | none=>match prog f with
   | some vf=>BW (CQ prog X n) vf args H
   | none=>none
open Classical in
noncomputable def ED (prog : FuncId -> Option VFunc) (X : Sig) : Sig:=fun f args H =>
 if h : ∃ n r,CQ prog X n f args H = some r then some (Classical.choose (Classical.choose_spec h)) else none
end Go.V
namespace Go.V
def vb4 : VCode:=rs [oX 8 2 1,oX 9 2 2,oV 14 (.move cF)] (sq (rs [oM 21 0,oC 22 5 [21],oV 23 (nT 22)] (cS 23 (rs [oC 24 16 [],oN 14 24] .ret))) (rs [oM 25 0,oC 26 7 [25],oN 15 26] (sq (rs [oJ 16 0] (.block 0 (.loop (sq (sq (.region ⟨[oM 27 16,oV 28 (bI .lss 27 3)],[17,18,32,35,38],[]⟩) (cE 28 0)) (sq (.block 1 (rs [oM 31 15,oT 32 (.call 8 [.t 31,.c (.int .i64 6)]),oV 17 (.alloc [.nil 6,cZ]),oS 2 17 32] (sq (.region ⟨[oM 33 15,oK 34 2 17,oC 35 9 [33,34],oM 36 15,oK 37 2 17,oC 38 17 [36,37],oV 18 (.alloc [.nil 4,cZ]),oS 2 18 35,oN 19 38],[],[(2,4),(1,6),(2,6),(4,6),(5,6)]⟩) (sq (rs [oM 39 16,oT 40 (bI .eql 39 2),oP 41 40,tM 42 19 41,tT 43 (lT 42) 41,tT 44 (bI .gtr 43 0) 41,vB 45 41 44] (cS 45 (rs [oM 46 19,oM 47 15,oM 48 19,oY 49 48,oC 50 14 [47,49],oA 51 7 46 50,oN 20 51] (.region ⟨[oM 52 20,oM 53 20,oM 54 20,oM 55 15,oM 56 20,oT 57 (kT 56),oQ 58 0 57,oL 59 58,oT 60 (.buildFz 1 [.t 59,.c (.int .i64 1),.c (.int .i64 9)]),oC 61 13 [55,60],oM 62 15,oM 63 20,oT 64 (kT 63),oQ 65 1 64,oQ 66 3 65,oL 67 66,oT 68 (.buildFz 1 [.t 67,.c (.int .i64 (-1)),.c (.int .i64 1099511627777)]),oC 69 13 [62,68],oM 70 15,oM 71 20,oT 72 (kT 71),oQ 73 1 72,oQ 74 2 73,oL 75 74,oT 76 (.buildFz 1 [.t 75,.c (.int .i64 (-1)),.c (.int .i64 4611686018427387904)]),oC 77 13 [70,76],oT 78 (kT 52),oQ 79 0 78,sT 1 79 61,oT 80 (kT 53),oQ 81 1 80,oQ 82 3 81,sT 1 82 69,oT 83 (kT 54),oQ 84 1 83,oQ 85 2 84,sT 1 85 77],[],[(9,15),(9,23),(17,23)]⟩)))) (sq (.region ⟨[oK 86 2 17,oK 87 2 18,oM 88 19,oM 89 15,oK 90 2 17,oC 91 12 [89,90],oM 92 15,oT 93 (.buildFz 1 [.c (.int .i64 0),.c (.int .i64 1),.c (.int .i64 30),.c (.int .i64 (-1)),.c (.int .i64 16777216)]),oC 94 13 [92,93],oM 95 15,oT 96 (.buildFz 1 [.c (.int .i64 0),.c (.int .i64 3),.c (.int .i64 15),.c (.int .i64 100),.c (.int .i64 (-1)),.c (.int .i64 16777216),.c (.int .i64 16777217)]),oC 97 13 [95,96],oC 98 18 [86,87,88,91,94,97],oT 99 (nT 98),oP 100 99,fT 101 (ldV 2 17) 100,fT 102 (ldV 2 18) 100,fM 103 19 100,fM 104 15 100,fT 105 (ldV 2 17) 100,fT 106 (cC 12 [104,105]) 100,fM 107 5 100,fM 108 6 100,fT 109 (cC 18 [101,102,103,106,107,108]) 100,fT 110 (nT 109) 100,vO 111 100 110],[],[(0,5),(1,5),(0,8),(1,8),(0,11),(1,11),(15,20),(16,20)]⟩) (cS 111 (rs [oV 14 (.move cF)] .ret))))))) (rg [oM 29 16,oI 30 29,oN 16 30])))))) (rs [oF 112 0 8,oL 113 112,oY 114 113,oT 115 (bI .gtr 114 40),oP 116 115,fF 117 0 9 116,fL 118 117 116,fT 119 (lT 118) 116,fT 120 (bI .gtr 119 40) 116,oO 121 116 120,oP 122 121,fM 123 3 122,fT 124 (lT 123) 122,fT 125 (bI .gtr 124 40) 122,oO 126 122 125,oP 127 126,fT 128 (ldV 2 8) 127,fT 129 (ldV 2 9) 127,fM 130 3 127,fM 131 4 127,fM 132 5 127,fM 133 6 127,fT 134 (cC 18 [128,129,130,131,132,133]) 127,fT 135 (.move (.t 134)) 127,tT 136 (cC 16 []) 135,fT 137 (.pick (.t 135) (.t 136) cF) 127,oO 138 127 137,oN 14 138] .ret))))
def vf4:=mF 7 [.tmp (.v 14)] (iv [0,7,14,7] [8,9,23,28,45,111]) vb4
def vb5 : VCode:=rs [oV 2 (.move cF)] (rs [oM 3 0,oY 4 3,oT 5 (bI .leq 4 600),oN 2 5] .ret)
def vf5:=mF 1 [.tmp (.v 2)] [0,2] vb5
def vb7 : VCode:=rs [oV 2 (.move (.c (.nilp)))] (rs [oM 3 0,oT 4 (.build [aT 3 0 1,zZ]),oT 5 (.box 2 (.t 4)),oN 2 5] .ret)
def vf7:=mF 1 [.tmp (.v 2)] [0,2] vb7
def vb8 : VCode:=rs [oV 4 (.alloc [.nil 6,cZ])] (rs [oC 13 22 [],oV 5 (.alloc [.nil 6,cZ]),oS 2 5 13] (sq (rs [oM 14 0,oM 15 1,oI 16 15,oC 17 14 [14,16],oN 6 17] (.block 0 (.loop (sq (sq (.region ⟨[oM 18 6,oV 19 (bI .gtr 18 0)],[8,11,13,37,58],[]⟩) (cE 19 0)) (sq (.block 1 (sq (.region ⟨[oF 22 0 5,oL 23 22,oM 24 0,oF 25 0 5,oL 26 25,oY 27 26,oC 28 14 [24,27],oA 29 6 23 28,oQ 30 0 29,oL 31 30,oN 7 31],[],[(1,6)]⟩) (sq (sq (.region ⟨[oK 33 2 5,oM 34 7,oM 35 0,oC 36 24 [35],oC 37 23 [33,34,36],oP 32 37,oE 38 32 0,oE 39 32 1,oE 40 32 2,oV 8 (.alloc [.nil 6,cZ]),oS 2 8 38,oP 9 39,oN 10 40],[],[(0,3),(0,9),(3,9),(4,9)]⟩) (rs [oM 41 10,oV 42 (bI .eql 41 0)] (cS 42 (rg [oK 43 2 8,oS 2 5 43])))) (rs [oM 44 0,oV 45 (.call 25 [.t 44,.c (.int .i64 6)])] (cS 45 (sq (.region ⟨[oK 47 2 5,oF 48 0 5,oL 49 48,oM 50 0,oF 51 0 5,oL 52 51,oY 53 52,oC 54 14 [50,53],oA 55 6 49 54,oQ 56 0 55,oL 57 56,oC 58 26 [47,57],oP 46 58,oE 59 46 0,oE 60 46 1,oV 11 (.alloc [.nil 6,cZ]),oS 2 11 59,oN 12 60],[],[(0,7),(2,7),(0,15),(2,15),(5,15),(7,15),(8,15),(10,15),(11,15)]⟩) (rs [oM 61 12,oV 62 (bI .eql 61 0)] (.cond (.v 62) (rg [oK 63 2 11,oS 2 5 63]) .skip)))))))) (rg [oM 20 6,oT 21 (bI .sub 20 1),oN 6 21])))))) (rs [oK 64 2 5,oS 2 4 64] .ret)))
def vf8:=mF 2 [.cell (.v 4) (some 2)] (iv [4,5] [0,1,10,11,12,19,42,45,62]) vb8
def vb9 : VCode:=rs [oX 3 2 1,oV 4 (.alloc [.nil 4,cZ])] (rs [oM 10 0,oT 11 (.buildFz 1 [.c (.int .i64 0),.c (.int .i64 20),.c (.int .i64 200),.c (.int .i64 5000)]),oC 12 13 [10,11],oT 13 (.build [zN 4,aT 12 0 1]),oV 5 (.alloc [.nil 4,cZ]),oS 2 5 13] (sq (rs [oJ 6 0] (.block 0 (.loop (sq (rs [oM 14 6,oF 15 0 3,oL 16 15,oY 17 16,oU 18 14 17] (cE 18 0)) (sq (.block 1 (sq (.region ⟨[oF 21 0 3,oL 22 21,oM 23 6,oA 24 6 22 23,oQ 25 0 24,oL 26 25,oM 27 0,oT 28 (.buildFz 1 [.c (.int .i64 0),.c (.int .i64 0),.c (.int .i64 4),.c (.int .i64 30),.c (.int .i64 100)]),oC 29 13 [27,28],oM 30 0,oT 31 (.buildFz 1 [.c (.int .i64 0),.c (.int .i64 5),.c (.int .i64 20),.c (.int .i64 80)]),oC 32 13 [30,31],oM 33 0,oT 34 (.buildFz 1 [.c (.int .i64 0),.c (.int .i64 0),.c (.int .i64 3),.c (.int .i64 15)]),oC 35 13 [33,34],oT 36 (.build [aT 26 0 1,aT 29 0 1,aT 32 0 1,aT 35 0 1]),oV 7 (.alloc [cZ,cZ,cZ,cZ]),oS 4 7 36],[],[(1,8),(3,8),(5,8),(1,11),(3,11),(5,11),(1,14),(3,14),(5,14),(1,16),(3,16),(5,16),(8,16),(11,16),(14,16),(15,16)]⟩) (rs [oK 38 2 3,oK 39 2 5,oK 40 4 7,oC 41 27 [38,39,40],oP 37 41,oE 42 37 0,oE 43 37 1,oV 8 (.alloc [.nil 4,cZ]),oS 2 8 42,oN 9 43] (rs [oM 44 9,oV 45 (bI .eql 44 0)] (cS 45 (.mv (.slot 41 1) (.slot 13 1) (rg [oK 46 2 8,oS 2 5 46]))))))) (rg [oM 19 6,oI 20 19,oN 6 20])))))) (rs [oK 47 2 5,oS 2 4 47] .ret)))
def vf9:=mF 2 [.cell (.v 4) (some 2)] (iv [3,7] [0,1,18,45]) vb9
def KH : VCode:=rs [oX 3 2 1,oJ 4 0] (sq (rs [oM 5 0,oT 6 (.call 25 [.t 5,.c (.int .i64 15)]),oP 7 6,fF 8 0 3 7,fL 9 8 7,fT 10 (lT 9) 7,fT 11 (bI .eql 10 0) 7,vO 12 7 11] (cS 12 (rs [oM 13 0,oT 14 (.call 14 [.t 13,.c (.int .i64 9)]),oT 15 (bI .sub 14 1),oN 4 15] .ret))) (sq (.region ⟨[oF 16 0 3,oL 17 16,oM 18 0,oF 19 0 3,oL 20 19,oY 21 20,oC 22 14 [18,21],oA 23 6 17 22,oQ 24 0 23,oL 25 24,oN 4 25],[],[(1,6)]⟩) .ret))
def vf12:=mF 2 [.tmp (.v 4)] [0,1,3,4,12] KH
def Up : VCode:=rs [oJ 4 0] (rs [oM 5 1,oM 6 0,oM 7 1,oY 8 7,oC 9 14 [6,8],oA 10 1 5 9,oL 11 10,oN 4 11] .ret)
def vf13:=mF 2 [.tmp (.v 4)] [0,1,4] Up
def NG : VCode:=rs [oJ 4 0] (sq (rs [oM 6 0,oT 7 (kT 6),oQ 8 1 7,oL 9 8,oM 10 0,oT 11 (kT 10),oQ 12 0 11,oL 13 12,oY 14 13,oT 15 (bT .geq 9 14),oP 16 15,fM 17 1 16,fT 18 (bI .lss 17 1) 16,vO 19 16 18] (cS 19 (rs [oJ 4 0] .ret))) (rs [oM 20 0,oT 21 (kT 20),oQ 22 1 21,oL 23 22,oI 24 23,oT 25 (kT 20),oQ 26 1 25,sT 1 26 24] (rs [oM 27 0,oT 28 (kT 27),oQ 29 0 28,oL 30 29,oM 31 0,oT 32 (kT 31),oQ 33 1 32,oL 34 33,oT 35 (bI .sub 34 1),oA 36 1 30 35,oL 37 36,oM 38 1,oT 39 (bT .rem 37 38),oN 5 39] (sq (rs [oM 40 5,oV 41 (bI .lss 40 0)] (cS 41 (rg [oM 42 5,oM 43 1,oT 44 (bT .add 42 43),oN 5 44]))) (rs [oM 45 5,oN 4 45] .ret)))))
def vf14:=mF 2 [.tmp (.v 4)] [0,1,4,5,19,41] NG
def Uo : VCode:=rs [oV 0 (.move cF)] (rs [oT 11 (.build [.a (cI 1) 0 1,zZ,.z (.c (.str ⟨#[]⟩)),zZ,zZ,zZ]),oT 12 (.build [.a (cI 2) 0 1,.a (cI 1) 0 1,.a (.c (.str ⟨#[97]⟩)) 0 1,zZ,zZ,zZ]),oT 13 (.buildSlice 6 [.t 11,.t 12]),oT 14 (.build [aT 13 0 1,.a (cI 3) 0 1]),oV 1 (.alloc [.nil 6,cZ]),oS 2 1 14] (rs [oT 15 (.build [.a (cI 2) 0 1,.a (cI 15) 0 1,zZ,zZ]),oT 16 (.buildSlice 4 [.t 15]),oT 17 (.build [aT 16 0 1,zZ]),oV 2 (.alloc [.nil 4,cZ]),oS 2 2 17] (rs [oC 18 44 [],oV 3 (.alloc [cZ,cZ,cZ,cZ,cZ,.c (.bool false)]),oS 6 3 18] (rs [oF 19 3 3,oZ (.store 1 (.t 19) (cI 20))] (rs [oK 20 6 3,oT 21 (.build [.a (cI 2) 0 1,aT 20 0 6,aT 20 1 6,aT 20 2 6,aT 20 3 6,aT 20 4 6,aT 20 5 6]),oT 22 (.buildSlice 7 [.t 21]),oN 4 22] (rs [oK 24 2 1,oK 25 2 2,oM 26 4,oT 27 (.call 45 [.t 24,.t 25,.t 26,.c (.int .i64 2),.c (.int .i64 0),.c (.int .i64 10)]),oP 23 27,oE 28 23 0,oE 29 23 1,oV 5 (.alloc [.nil 4,cZ,.nil 4,.nil 1,.nil 1,cZ]),oS 6 5 28,oN 6 29] (rs [oK 31 2 1,oK 32 2 2,oM 33 4,oT 34 (.call 45 [.t 31,.t 32,.t 33,.c (.int .i64 2),.c (.int .i64 0),.c (.int .i64 30)]),oP 30 34,oE 35 30 0,oE 36 30 1,oV 7 (.alloc [.nil 4,cZ,.nil 4,.nil 1,.nil 1,cZ]),oS 6 7 35,oN 8 36] (rs [oM 37 4,oT 38 (.indexAddr 7 (.t 37) (cI 0)),oQ 39 1 38,oQ 40 2 39,oZ (.store 1 (.t 40) (cI 12))] (rs [oK 42 2 1,oK 43 2 2,oM 44 4,oT 45 (.call 45 [.t 42,.t 43,.t 44,.c (.int .i64 2),.c (.int .i64 0),.c (.int .i64 10)]),oP 41 45,oE 46 41 0,oE 47 41 1,oV 9 (.alloc [.nil 4,cZ,.nil 4,.nil 1,.nil 1,cZ]),oS 6 9 46,oN 10 47] (rs [oM 48 6,oT 49 (bI .eql 48 0),oP 50 49,tF 51 0 5 50,tT 52 (.fieldAddr 0 (.t 51)) 50,tL 53 52 50,tT 54 (.build [.a (cI 2) 0 1,.a (cI 10) 0 1,.a (cI 10) 0 1,zZ]) 50,tT 55 (.buildFz 4 [.t 54]) 50,tT 56 (cC 20 [53,55]) 50,oB 57 50 56,oP 58 57,tM 59 8 58,tT 60 (bI .eql 59 20) 58,oB 61 58 60,oP 62 61,tF 63 5 7 62,tL 64 63 62,tT 65 (bI .eql 64 2) 62,oB 66 62 65,oP 67 66,tF 68 0 7 67,tT 69 (.fieldAddr 0 (.t 68)) 67,tL 70 69 67,tT 71 (lT 70) 67,tT 72 (bI .eql 71 0) 67,oB 73 67 72,oP 74 73,tM 75 10 74,tT 76 (bI .eql 75 0) 74,oB 77 74 76,oP 78 77,tF 79 0 9 78,tT 80 (.fieldAddr 0 (.t 79)) 78,tL 81 80 78,tT 82 (.build [.a (cI 2) 0 1,.a (cI 2) 0 1,.a (cI 10) 0 1,zZ]) 78,tT 83 (.buildFz 4 [.t 82]) 78,tT 84 (cC 20 [81,83]) 78,oB 85 78 84,oP 86 85,tF 87 4 9 86,tL 88 87 86,tT 89 (lT 88) 86,tT 90 (bI .eql 89 0) 86,oB 91 86 90,oN 0 91] .ret))))))))))
def vf16:=mF 0 [.tmp (.v 0)] (iv [0,11] []) Uo
def Un : VCode:=rs [oX 3 2 1,oV 4 (.newArr 7)] (rs [oV 5 (.newArr 7)] (sq (rs [oJ 6 0] (.block 0 (.loop (sq (rs [oM 7 6,oF 8 0 3,oL 9 8,oY 10 9,oU 11 7 10] (cE 11 0)) (sq (.block 1 (rs [oM 14 0,oT 15 (.call 14 [.t 14,.c (.int .i64 3)]),oV 16 (bI .gtr 15 0)] (cS 16 (.region ⟨[oM 17 5,oF 18 0 3,oL 19 18,oM 20 6,oA 21 6 19 20,oQ 22 0 21,oL 23 22,oM 24 0,oC 25 46 [24],oT 26 (.build [aT 23 0 1,aT 25 0 6,aT 25 1 6,aT 25 2 6,aT 25 3 6,aT 25 4 6,aT 25 5 6]),oT 27 (.buildSlice 7 [.t 26]),oT 28 (.append 7 56 (.t 17) (.t 27)),oN 5 28],[],[(2,8),(4,8),(6,8)]⟩)))) (rg [oM 12 6,oI 13 12,oN 6 13])))))) (rs [oM 29 5,oN 4 29] .ret)))
def vf17:=mF 2 [.tmp (.v 4)] [0,1,3,4,5,6,11,16] Un
def Um : VCode:=rs [oX 6 2 0,oX 7 2 1,oV 12 (.move cF)] (rs [oK 30 2 6,oK 31 2 7,oM 32 2,oM 33 3,oM 34 4,oM 35 5,oC 36 45 [30,31,32,33,34,35],oP 29 36,oE 37 29 0,oE 38 29 1,oV 13 (.alloc [.nil 4,cZ,.nil 4,.nil 1,.nil 1,cZ]),oS 6 13 37,oN 14 38] (rs [oK 40 2 6,oK 41 2 7,oM 42 2,oM 43 3,oM 44 4,oM 45 5,oC 46 47 [40,41,42,43,44,45],oP 39 46,oE 47 39 0,oE 48 39 1,oV 15 (.alloc [.nil 4,cZ,.nil 4,.nil 1,.nil 1,cZ]),oS 6 15 47,oN 16 48] (rs [oK 50 2 6,oK 51 2 7,oM 52 2,oM 53 3,oM 54 5,oC 55 48 [50,51,52,53,54],oP 49 55,oE 56 49 0,oE 57 49 1,oV 17 (.alloc [.nil 4,cZ,.nil 4,.nil 1,.nil 1,cZ]),oS 6 17 56,oN 18 57] (rs [oK 59 2 6,oK 60 2 7,oM 61 2,oM 62 3,oM 63 5,oC 64 49 [59,60,61,62,63],oP 58 64,oE 65 58 0,oE 66 58 1,oV 19 (.alloc [.nil 4,cZ,.nil 4,.nil 1,.nil 1,cZ]),oS 6 19 65,oN 20 66] (rs [oK 68 2 6,oK 69 2 7,oM 70 2,oM 71 3,oC 72 50 [68,69,70,71],oP 67 72,oE 73 67 0,oE 74 67 1,oE 75 67 2,oE 76 67 3,oV 21 (.alloc [.nil 4,cZ]),oS 2 21 73,oN 22 74,oN 23 75,oN 24 76] (rs [oK 78 2 6,oK 79 2 7,oM 80 2,oM 81 3,oC 82 51 [78,79,80,81],oP 77 82,oE 83 77 0,oE 84 77 1,oE 85 77 2,oE 86 77 3,oV 25 (.alloc [.nil 4,cZ]),oS 2 25 83,oN 26 84,oN 27 85,oN 28 86] (sq (.region ⟨[oK 87 2 6,oM 88 2,oC 89 52 [87,88],oK 90 2 6,oM 91 2,oC 92 53 [90,91],oT 93 (.eqB false (.t 89) (.t 92)),oP 94 93,tM 95 2 94,tM 96 3 94,tT 97 (cC 54 [95,96]) 94,tM 98 2 94,tM 99 3 94,tT 100 (cC 55 [98,99]) 94,tT 101 (.eqAgg false [(.int .i64),(.int .i64),(.int .i64),(.int .i64),(.int .i64),.bool] (.t 97) (.t 100)) 94,oB 102 94 101,oP 103 102,tM 104 2 103,tT 105 (cC 57 [104]) 103,tM 106 2 103,tT 107 (cC 58 [106]) 103,tT 108 (cC 56 [105,107]) 103,oB 109 103 108,oP 110 109,tM 111 2 110,tT 112 (cC 60 [111]) 110,tM 113 2 110,tT 114 (cC 61 [113]) 110,tT 115 (cC 59 [112,114]) 110,oB 116 110 115,oP 117 116,tT 118 (ldV 6 13) 117,tT 119 (ldV 6 15) 117,tT 120 (cC 62 [118,119]) 117,oB 121 117 120,oP 122 121,tM 123 14 122,tM 124 16 122,tT 125 (bT .eql 123 124) 122,oB 126 122 125,oP 127 126,tT 128 (ldV 6 17) 127,tT 129 (ldV 6 19) 127,tT 130 (cC 62 [128,129]) 127,oB 131 127 130,oP 132 131,tM 133 18 132,tM 134 20 132,tT 135 (bT .eql 133 134) 132,oB 136 132 135,oP 137 136,tT 138 (ldV 2 21) 137,tT 139 (ldV 2 25) 137,tT 140 (cC 38 [138,139]) 137,oB 141 137 140,oP 142 141,tM 143 22 142,tM 144 26 142,tT 145 (cC 21 [143,144]) 142,oB 146 142 145,oP 147 146,tM 148 23 147,tM 149 27 147,tT 150 (bT .eql 148 149) 147,oB 151 147 150,oP 152 151,tM 153 24 152,tM 154 28 152,tT 155 (bT .eql 153 154) 152,oB 156 152 155,oN 12 156],[],[(2,3)]⟩) .ret)))))))
def vf18:=mF 6 [.tmp (.v 12)] (iv [0,8,12,17] []) Um
def GS : VCode:=rs [oX 6 2 0,oX 7 2 1,oV 12 (.alloc [.nil 4,cZ]),oV 13 (.newArr 4),oJ 14 0] (sq (rs [oK 27 2 6,oK 28 2 7,oC 29 31 [27,28],oT 30 (nT 29),oP 31 30,fT 32 (ldV 2 6) 31,fM 33 2 31,fT 34 (cC 63 [32,33]) 31,fT 35 (nT 34) 31,oO 36 31 35,oP 37 36,fT 38 (ldV 2 6) 37,fM 39 3 37,fT 40 (cC 64 [38,39]) 37,fT 41 (nT 40) 37,vO 42 37 41] (cS 42 (rs [oT 43 (.build [zN 4,zZ]),oS 2 12 43,oV 13 (.newArr 4),oJ 14 1] .ret))) (sq (rs [oK 44 2 6,oK 45 2 7,oM 46 4,oC 47 65 [44,45,46],oN 15 47] (rs [oM 48 15,oV 49 (bI .neq 48 0)] (cS 49 (rs [oT 50 (.build [zN 4,zZ]),oM 51 15,oS 2 12 50,oV 13 (.newArr 4),oN 14 51] .ret)))) (sq (rs [oM 52 5,oC 53 66 [52],oV 54 (nT 53)] (cS 54 (rs [oT 55 (.build [zN 4,zZ]),oS 2 12 55,oV 13 (.newArr 4),oJ 14 3] .ret))) (sq (.region ⟨[oK 56 2 6,oF 57 0 7,oL 58 57,oT 59 (.appendNil 4 32 (.t 58)),oF 60 1 7,oL 61 60,oT 62 (.build [aT 59 0 1,aT 61 0 1]),oM 63 3,oT 64 (.makeMap (.int .i64)),oT 65 (.build [aT 56 0 2,aT 56 1 2,aT 62 0 2,aT 62 1 2,aT 63 0 1,zN 3,aT 64 0 1]),oT 66 (.box 7 (.t 65)),oN 16 66],[],[(0,3),(3,5),(0,6),(0,8),(2,8),(3,8),(5,8),(6,8)]⟩) (sq (.region ⟨[oM 68 16,oK 69 2 6,oK 70 2 7,oC 71 34 [70],oM 72 2,oM 73 4,oC 74 67 [69,71,72,73],oP 67 74,oE 75 67 0,oE 76 67 1,oT 77 (kT 68),oQ 78 5 77,sT 1 78 75],[],[(1,3)]⟩) (sq (rs [oT 79 (.build [.a (.c (.fn 68)) 0 1,.a (.c (.fn 69)) 0 1,.a cF 0 1,.a cF 0 1]),oT 80 (.build [.a (.c (.fn 70)) 0 1,.a (.c (.fn 69)) 0 1,.a cT 0 1,.a cF 0 1]),oT 81 (.build [.a (.c (.fn 68)) 0 1,.a (.c (.fn 71)) 0 1,.a cF 0 1,.a cT 0 1]),oT 82 (.build [.a (.c (.fn 70)) 0 1,.a (.c (.fn 71)) 0 1,.a cT 0 1,.a cT 0 1]),oV 83 (.buildArr 4 [.t 79,.t 80,.t 81,.t 82]),oJ 84 0] (.block 0 (.loop (sq (.region ⟨[oV 85 (.bin .lss (.v 84) (cI 4))],[18,91,94],[]⟩) (sq (cE 85 0) (sq (.block 1 (rs [oT 86 (.indexArr 4 4 (some 4) (.v 83) (.v 84)),oV 18 (.alloc [.c (.nilp),.c (.nilp),.c (.bool false),.c (.bool false)]),oS 4 18 86] (sq (.region ⟨[oK 88 2 6,oM 89 16,oK 90 4 18,oT 91 (cW 73 [89,90]),oM 92 4,oM 93 5,oC 94 72 [88,91,92,93],oP 87 94,oE 95 87 0,oE 96 87 1,oN 19 95,oP 20 96],[],[(0,3)]⟩) (rs [oV 97 (.move (.v 19)),oV 98 (.len (.v 97)),oJ 99 0] (.block 2 (.loop (rs [oV 100 (.bin .lss (.v 99) (.v 98))] (sq (cE 100 2) (sq (.block 3 (rs [oT 101 (.indexAddr 2 (.v 97) (.v 99)),oR 102 2 101,oV 22 (.alloc [cZ,cZ]),oS 2 22 102] (rs [oM 103 16,oK 104 4 18,oF 105 0 22,oL 106 105,oF 107 1 22,oL 108 107,oT 109 (cW 74 [103,104,106,108])] (.mv (.slot 109 1003) (.slot 59 0) (rg [oM 110 5,oF 111 1 22,oL 112 111,oT 113 (bT .sub 110 112),oN 5 113]))))) (rg [oT 114 (.bin .add (.v 99) (cI 1)),oN 99 114])))))))))) (rg [oT 115 (.bin .add (.v 84) (cI 1)),oN 84 115]))))))) (rs [oV 23 (.newArr 4)] (sq (rs [oM 116 16,oT 117 (kT 116),oQ 118 5 117,oV 119 (.load none (.t 118)),oV 120 (.len (.v 119)),oJ 121 0] (.block 4 (.loop (rs [oV 122 (.bin .lss (.v 121) (.v 120))] (sq (cE 122 4) (sq (.block 5 (rs [oT 123 (.indexAddr 3 (.v 119) (.v 121)),oR 124 3 123,oV 25 (.alloc [cZ,cZ,cZ]),oS 3 25 124] (sq (.region ⟨[oM 125 16,oT 126 (kT 125),oQ 127 6 126,oL 128 127,oF 129 0 25,oL 130 129,oT 131 (.lookup false (.int .i64) (.agg [.int .i64 0,.int .i64 0,.int .i64 0,.int .i64 0]) (.t 128) (.t 130)),oV 26 (.alloc [cZ,cZ,cZ,cZ]),oS 4 26 131],[],[(3,7),(5,7),(6,7)]⟩) (rs [oF 132 0 26,oL 133 132,oV 134 (bI .neq 133 0)] (cS 134 (rg [oM 135 23,oK 136 4 26,oT 137 (.buildSlice 4 [.t 136]),oT 138 (.append 4 32 (.t 135) (.t 137)),oN 23 138])))))) (rg [oT 139 (.bin .add (.v 121) (cI 1)),oN 121 139]))))))) (rs [oM 140 16,oT 141 (kT 140),oQ 142 2 141,oR 143 2 142,oM 144 23,oS 2 12 143,oN 13 144,oJ 14 0] .ret)))))))))
def vf19:=mF 6 [.cell (.v 12) (some 2),.tmp (.v 13),.tmp (.v 14)] (iv [0,8,12,5,97,4,119,4] [18,19,22,23,25,26,42,49,54,83,84,85,134]) GS
def NF : VCode:=rs [oV 4 (.move cF)] (sq (rs [oM 6 0,oY 7 6,oM 8 1,oY 9 8,oV 10 (bT .neq 7 9)] (cS 10 (rs [oV 4 (.move cF)] .ret))) (sq (rs [oJ 5 0] (.block 0 (.loop (sq (rs [oM 11 5,oM 12 0,oY 13 12,oU 14 11 13] (cE 14 0)) (sq (.block 1 (rs [oM 17 0,oM 18 5,oA 19 4 17 18,oR 20 4 19,oM 21 1,oM 22 5,oA 23 4 21 22,oR 24 4 23,oV 25 (.eqAgg true [(.int .i64),(.int .i64),(.int .i64),(.int .i64)] (.t 20) (.t 24))] (cS 25 (rs [oV 4 (.move cF)] .ret)))) (rg [oM 15 5,oI 16 15,oN 5 16])))))) (rs [oV 4 (.move cT)] .ret)))
def vf20:=mF 2 [.tmp (.v 4)] [0,1,4,5,10,14,25] NF
def NE : VCode:=rs [oV 4 (.move cF)] (sq (rs [oM 6 0,oY 7 6,oM 8 1,oY 9 8,oV 10 (bT .neq 7 9)] (cS 10 (rs [oV 4 (.move cF)] .ret))) (sq (rs [oJ 5 0] (.block 0 (.loop (sq (rs [oM 11 5,oM 12 0,oY 13 12,oU 14 11 13] (cE 14 0)) (sq (.block 1 (rs [oM 17 0,oM 18 5,oA 19 4 17 18,oR 20 4 19,oM 21 1,oM 22 5,oA 23 4 21 22,oR 24 4 23,oV 25 (.eqAgg true [(.int .i64),(.int .i64),(.int .i64),(.int .i64)] (.t 20) (.t 24))] (cS 25 (rs [oV 4 (.move cF)] .ret)))) (rg [oM 15 5,oI 16 15,oN 5 16])))))) (rs [oV 4 (.move cT)] .ret)))
def vf21:=mF 2 [.tmp (.v 4)] [0,1,4,5,10,14,25] NE
def Ul : VCode:=rs [oV 0 (.alloc [.nil 6,cZ])] (rs [oT 1 (.build [.a (cI 1) 0 1,zZ,.z (.c (.str ⟨#[]⟩)),zZ,zZ,zZ]),oT 2 (.buildSlice 6 [.t 1]),oT 3 (.build [aT 2 0 1,.a (cI 2) 0 1]),oS 2 0 3] .ret)
def vf22:=mF 0 [.cell (.v 0) (some 2)] [0] Ul
def IL : VCode:=rs [oX 3 2 0,oV 6 (.alloc [.nil 6,cZ]),oJ 7 0,oJ 8 0] (sq (rs [oK 11 2 3,oC 12 75 [11],oT 13 (nT 12),oP 14 13,fM 15 2 14,fT 16 (cC 76 [15]) 14,fT 17 (nT 16) 14,vO 18 14 17] (cS 18 (rs [oT 19 (.build [zN 6,zZ]),oS 2 6 19,oJ 7 0,oJ 8 1] .ret))) (sq (rs [oK 20 2 3,oM 21 1,oC 22 77 [20,21],oV 23 (nT 22)] (cS 23 (rs [oT 24 (.build [zN 6,zZ]),oS 2 6 24,oJ 7 0,oJ 8 4] .ret))) (sq (rs [oJ 9 0] (.block 0 (.loop (sq (sq (.region ⟨[oM 25 9,oF 26 0 3,oL 27 26,oY 28 27,oU 29 25 28],[50],[]⟩) (cE 29 0)) (sq (.block 1 (rs [oF 32 0 3,oL 33 32,oM 34 9,oA 35 6 33 34,oQ 36 1 35,oL 37 36,oM 38 1,oT 39 (bT .eql 37 38),oP 40 39,tF 41 0 3 40,tL 42 41 40,tM 43 9 40,tT 44 (.indexAddr 6 (.t 42) (.t 43)) 40,tT 45 (.fieldAddr 2 (.t 44)) 40,tL 46 45 40,tM 47 2 40,tT 48 (bT .eql 46 47) 40,vB 49 40 48] (cS 49 (rs [oT 50 (.build [zN 6,zZ]),oS 2 6 50,oJ 7 0,oJ 8 5] .ret)))) (rg [oM 30 9,oI 31 30,oN 9 31])))))) (sq (rs [oK 51 2 3,oM 52 1,oC 53 78 [51,52],oT 54 (bI .geq 53 8),oP 55 54,fF 56 0 3 55,fL 57 56 55,fT 58 (lT 57) 55,fT 59 (bI .geq 58 64) 55,oO 60 55 59,oP 61 60,fF 62 1 3 61,fL 63 62 61,fT 64 (bI .gtr 63 2147483647) 61,vO 65 61 64] (cS 65 (rs [oT 66 (.build [zN 6,zZ]),oS 2 6 66,oJ 7 0,oJ 8 7] .ret))) (rs [oK 67 2 3,oC 68 79 [67],oV 10 (.alloc [.nil 6,cZ]),oS 2 10 68] (rs [oF 69 0 10,oL 70 69,oF 71 1 3,oL 72 71,oM 73 1,oM 74 2,oT 75 (.build [aT 72 0 1,aT 73 0 1,aT 74 0 1,zZ,zZ,zZ]),oT 76 (.buildSlice 6 [.t 75]),oT 77 (.append 6 56 (.t 70) (.t 76)),oF 78 0 10,sT 1 78 77] (rs [oF 79 1 10,oL 80 79,oI 81 80,oF 82 1 10,sT 1 82 81] (sq (.region ⟨[oK 83 2 10,oF 84 1 3,oL 85 84,oS 2 6 83,oN 7 85,oJ 8 0],[],[(2,3)]⟩) .ret))))))))
def vf23:=mF 3 [.cell (.v 6) (some 2),.tmp (.v 7),.tmp (.v 8)] (iv [0,4,6,5] [18,23,29,49,65]) IL
def Uk : VCode:=rs [oV 2 (.move (.c (.str ⟨#[]⟩)))] (rs [oT 3 (.buildSlice 1 [.c (.str ⟨#[97]⟩),.c (.str ⟨#[98]⟩),.c (.str ⟨#[99]⟩),.c (.str ⟨#[119,101,98]⟩),.c (.str ⟨#[100,98,45,49]⟩),.c (.str ⟨#[88,95,57]⟩)]),oM 4 0,oT 5 (.call 14 [.t 4,.c (.int .i64 6)]),oA 6 1 3 5,oL 7 6,oN 2 7] .ret)
def vf24:=mF 1 [.tmp (.v 2)] [0,2] Uk
def Uj : VCode:=rs [oV 4 (.move cF)] (rs [oM 5 0,oM 6 1,oC 7 14 [5,6],oM 8 1,oT 9 (bI .sub 8 1),oT 10 (bT .eql 7 9),oN 4 10] .ret)
def vf25:=mF 2 [.tmp (.v 4)] [0,1,4] Uj
def HM : VCode:=rs [oX 2 2 0,oV 4 (.alloc [.nil 6,cZ]),oJ 5 0] (sq (.block 0 (rs [oK 9 2 2,oC 10 75 [9],oT 11 (nT 10),oN 8 11] (.cond (.v 8) (rs [oT 12 (.build [zN 6,zZ]),oS 2 4 12,oJ 5 1] .ret) (rs [oK 14 2 2,oM 15 1,oC 16 77 [14,15],oT 17 (nT 16),oN 13 17] (.cond (.v 13) (rs [oT 18 (.build [zN 6,zZ]),oS 2 4 18,oJ 5 4] .ret) (rs [oM 20 1,oT 21 (bI .eql 20 1),oN 19 21] (.cond (.v 19) (rs [oT 22 (.build [zN 6,zZ]),oS 2 4 22,oJ 5 9] .ret) (rs [oK 24 2 2,oM 25 1,oC 26 80 [24,25],oY 27 26,oT 28 (bI .gtr 27 0),oN 23 28] (cS 23 (rs [oT 29 (.build [zN 6,zZ]),oS 2 4 29,oJ 5 6] .ret)))))))))) (rs [oF 30 1 2,oL 31 30,oT 32 (.build [zN 6,aT 31 0 1]),oV 6 (.alloc [.nil 6,cZ]),oS 2 6 32] (sq (rs [oJ 7 0] (.block 1 (.loop (sq (rs [oM 33 7,oF 34 0 2,oL 35 34,oY 36 35,oU 37 33 36] (cE 37 1)) (sq (.block 2 (rs [oF 40 0 2,oL 41 40,oM 42 7,oA 43 6 41 42,oQ 44 0 43,oL 45 44,oM 46 1,oV 47 (bT .neq 45 46)] (cS 47 (.region ⟨[oF 48 0 6,oL 49 48,oF 50 0 2,oL 51 50,oM 52 7,oA 53 6 51 52,oR 54 6 53,oT 55 (.buildSlice 6 [.t 54]),oT 56 (.append 6 56 (.t 49) (.t 55)),oF 57 0 6,sT 1 57 56],[],[(1,7)]⟩)))) (rg [oM 38 7,oI 39 38,oN 7 39])))))) (rs [oK 58 2 6,oS 2 4 58,oJ 5 0] .ret))))
def vf26:=mF 2 [.cell (.v 4) (some 2),.tmp (.v 5)] (iv [4,5] [0,1,2,13,19,23,37,47]) HM
def HL : VCode:=rs [oX 3 2 0,oX 4 2 1,oX 5 4 2,oV 6 (.alloc [.nil 4,cZ]),oJ 7 0] (sq (.block 0 (rs [oK 10 2 3,oK 11 2 4,oC 12 32 [10,11],oT 13 (nT 12),oN 9 13] (.cond (.v 9) (rs [oT 14 (.build [zN 4,zZ]),oS 2 6 14,oJ 7 1] .ret) (rs [oK 16 2 3,oF 17 0 5,oL 18 17,oC 19 77 [16,18],oT 20 (nT 19),oN 15 20] (.cond (.v 15) (rs [oT 21 (.build [zN 4,zZ]),oS 2 6 21,oJ 7 4] .ret) (rs [oK 23 4 5,oC 24 81 [23],oT 25 (nT 24),oN 22 25] (cS 22 (rs [oT 26 (.build [zN 4,zZ]),oS 2 6 26,oJ 7 3] .ret)))))))) (rs [oK 27 2 4,oK 28 4 5,oC 29 82 [27,28],oV 8 (.alloc [.nil 4,cZ]),oS 2 8 29] (sq (rs [oK 30 2 3,oK 31 2 8,oC 32 32 [30,31],oV 33 (nT 32)] (cS 33 (rs [oT 34 (.build [zN 4,zZ]),oS 2 6 34,oJ 7 7] .ret))) (rs [oK 35 2 8,oS 2 6 35,oJ 7 0] .ret))))
def vf27:=mF 3 [.cell (.v 6) (some 2),.tmp (.v 7)] (iv [0,10] [15,22,33]) HL
def Ui : VCode:=rs [oX 3 2 0,oX 4 2 1,oX 5 4 2,oV 6 (.alloc [.nil 4,cZ]),oJ 7 0] (sq (rs [oK 10 2 3,oK 11 2 4,oF 12 0 5,oL 13 12,oC 14 65 [10,11,13],oN 8 14] (rs [oM 15 8,oV 16 (bI .neq 15 0)] (cS 16 (rs [oT 17 (.build [zN 4,zZ]),oM 18 8,oS 2 6 17,oN 7 18] .ret)))) (sq (rs [oF 19 1 5,oL 20 19,oC 21 66 [20],oT 22 (nT 21),oP 23 22,fF 24 2 5 23,fL 25 24 23,fT 26 (cC 66 [25]) 23,fT 27 (nT 26) 23,oO 28 23 27,oP 29 28,fF 30 3 5 29,fL 31 30 29,fT 32 (cC 66 [31]) 29,fT 33 (nT 32) 29,vO 34 29 33] (cS 34 (rs [oT 35 (.build [zN 4,zZ]),oS 2 6 35,oJ 7 3] .ret))) (rs [oK 36 2 4,oK 37 4 5,oC 38 83 [36,37],oV 9 (.alloc [.nil 4,cZ]),oS 2 9 38] (sq (rs [oK 39 2 3,oK 40 2 9,oC 41 31 [39,40],oV 42 (nT 41)] (cS 42 (rs [oT 43 (.build [zN 4,zZ]),oS 2 6 43,oJ 7 7] .ret))) (rs [oK 44 2 9,oS 2 6 44,oJ 7 0] .ret)))))
def vf28:=mF 3 [.cell (.v 6) (some 2),.tmp (.v 7)] (iv [0,10] [16,34,42]) Ui
def KG : VCode:=rs [oX 2 2 0,oX 3 2 1,oV 4 (.move cF)] (sq (rs [oK 11 2 2,oC 12 86 [11],oT 13 (nT 12),oP 14 13,fF 15 1 3 14,fL 16 15 14,fT 17 (cC 66 [16]) 14,fT 18 (nT 17) 14,vO 19 14 18] (cS 19 (rs [oV 4 (.move cF)] .ret))) (rs [oJ 5 0,oJ 6 0] (sq (rs [oF 20 0 3,oV 21 (.load none (.t 20)),oV 22 (.len (.v 21)),oJ 23 0] (.block 0 (.loop (rs [oV 24 (.bin .lss (.v 23) (.v 22))] (sq (cE 24 0) (sq (.block 1 (rs [oM 25 23,oT 26 (.indexAddr 4 (.v 21) (.v 23)),oR 27 4 26,oV 8 (.alloc [cZ,cZ,cZ,cZ]),oN 7 25,oS 4 8 27] (sq (rs [oK 29 2 2,oF 30 0 8,oL 31 30,oC 32 87 [29,31],oP 28 32,oE 33 28 0,oE 34 28 1,oT 9 (.alloc [.c (.int .i64 0),.c (.int .i64 0),.c (.str ⟨#[]⟩),.c (.int .i64 0),.c (.int .i64 0),.c (.int .i64 0)]),sT 6 9 33,oN 10 34] (rs [oM 35 10,oT 36 (nT 35),oP 37 36,fM 38 7 37,fT 39 (bI .gtr 38 0) 37,fT 40 (.move (.t 39)) 37,tF 41 0 8 40,tL 42 41 40,tF 43 0 3 40,tL 44 43 40,tM 45 7 40,tT 46 (bI .sub 45 1) 40,tT 47 (.indexAddr 4 (.t 44) (.t 46)) 40,tT 48 (.fieldAddr 0 (.t 47)) 40,tL 49 48 40,tT 50 (bT .leq 42 49) 40,fT 51 (.pick (.t 40) (.t 50) cF) 37,oO 52 37 51,oP 53 52,fF 54 1 8 53,fL 55 54 53,fT 56 (cC 66 [55]) 53,fT 57 (nT 56) 53,oO 58 53 57,oP 59 58,fF 60 2 8 59,fL 61 60 59,fT 62 (cC 66 [61]) 59,fT 63 (nT 62) 59,oO 64 59 63,oP 65 64,fF 66 3 8 65,fL 67 66 65,fT 68 (cC 66 [67]) 65,fT 69 (nT 68) 65,oO 70 65 69,oP 71 70,fF 72 1 8 71,fL 73 72 71,fF 74 2 8 71,fL 75 74 71,fT 76 (bT .add 73 75) 71,fF 77 3 8 71,fL 78 77 71,fT 79 (bT .add 76 78) 71,fT 80 (bI .eql 79 0) 71,vO 81 71 80] (cS 81 (rs [oV 4 (.move cF)] .ret)))) (rs [oM 82 5,oF 83 1 8,oL 84 83,oF 85 2 8,oL 86 85,oT 87 (bT .add 84 86),oT 88 (bT .add 82 87),oN 5 88] (rs [oM 89 6,oF 90 3 8,oL 91 90,oT 92 (bT .add 89 91),oN 6 92] (rs [oM 93 5,oT 94 (bI .gtr 93 16777216),oP 95 94,fM 96 6 95,fF 97 1 3 95,fL 98 97 95,fT 99 (bT .gtr 96 98) 95,vO 100 95 99] (cS 100 (rs [oV 4 (.move cF)] .ret)))))))) (rg [oT 101 (.bin .add (.v 23) (cI 1)),oN 23 101]))))))) (rs [oV 4 (.move cT)] .ret))))
def vf31:=mF 2 [.tmp (.v 4)] (iv [0,9,21,4] [10,19,81,100]) KG
def IK : VCode:=rs [oX 2 2 0,oX 3 2 1,oV 4 (.move cF)] (sq (rs [oK 9 2 2,oC 10 75 [9],oT 11 (nT 10),oP 12 11,fF 13 1 3 12,fL 14 13 12,fT 15 (bI .lss 14 0) 12,oO 16 12 15,oP 17 16,fF 18 1 3 17,fL 19 18 17,fT 20 (bI .gtr 19 16777216) 17,vO 21 17 20] (cS 21 (rs [oV 4 (.move cF)] .ret))) (rs [oJ 5 0,oJ 6 0] (sq (rs [oJ 7 0] (.block 0 (.loop (sq (rs [oM 22 7,oF 23 0 3,oL 24 23,oY 25 24,oU 26 22 25] (cE 26 0)) (sq (.block 1 (rs [oF 29 0 3,oL 30 29,oM 31 7,oA 32 4 30 31,oR 33 4 32,oV 8 (.alloc [cZ,cZ,cZ,cZ]),oS 4 8 33] (sq (rs [oK 34 2 2,oF 35 0 8,oL 36 35,oC 37 77 [34,36],oT 38 (nT 37),oP 39 38,fM 40 7 39,fT 41 (bI .gtr 40 0) 39,fT 42 (.move (.t 41)) 39,tF 43 0 8 42,tL 44 43 42,tF 45 0 3 42,tL 46 45 42,tM 47 7 42,tT 48 (bI .sub 47 1) 42,tT 49 (.indexAddr 4 (.t 46) (.t 48)) 42,tT 50 (.fieldAddr 0 (.t 49)) 42,tL 51 50 42,tT 52 (bT .leq 44 51) 42,fT 53 (.pick (.t 42) (.t 52) cF) 39,oO 54 39 53,oP 55 54,fT 56 (ldV 4 8) 55,fT 57 (cC 81 [56]) 55,fT 58 (nT 57) 55,oO 59 55 58,oP 60 59,fF 61 1 8 60,fL 62 61 60,fF 63 2 8 60,fL 64 63 60,fT 65 (bT .add 62 64) 60,fF 66 3 8 60,fL 67 66 60,fT 68 (bT .add 65 67) 60,fT 69 (bI .eql 68 0) 60,vO 70 60 69] (cS 70 (rs [oV 4 (.move cF)] .ret))) (rg [oM 71 5,oF 72 1 8,oL 73 72,oT 74 (bT .add 71 73),oF 75 2 8,oL 76 75,oT 77 (bT .add 74 76),oM 78 6,oF 79 3 8,oL 80 79,oT 81 (bT .add 78 80),oN 5 77,oN 6 81])))) (rg [oM 27 7,oI 28 27,oN 7 28])))))) (rs [oM 82 5,oT 83 (bI .leq 82 16777216),oP 84 83,tM 85 6 84,tF 86 1 3 84,tL 87 86 84,tT 88 (bT .leq 85 87) 84,oB 89 84 88,oN 4 89] .ret))))
def vf32:=mF 2 [.tmp (.v 4)] (iv [0,9] [21,26,70]) IK
def Uh : VCode:=rs [oX 1 2 0,oV 2 (.alloc [.nil 2])] (rs [oV 3 (.alloc [.nil 2])] (sq (rs [oF 7 0 1,oV 8 (.load none (.t 7)),oV 9 (.len (.v 8)),oJ 10 0] (.block 0 (.loop (rs [oV 11 (.bin .lss (.v 10) (.v 9))] (sq (cE 11 0) (sq (.block 1 (rs [oT 12 (.indexAddr 4 (.v 8) (.v 10)),oR 13 4 12,oV 5 (.alloc [cZ,cZ,cZ,cZ]),oS 4 5 13] (rs [oF 14 1 5,oL 15 14,oF 16 2 5,oL 17 16,oT 18 (bT .add 15 17),oN 6 18] (rs [oM 19 6,oV 20 (bI .neq 19 0)] (cS 20 (rg [oF 21 0 3,oL 22 21,oF 23 0 5,oL 24 23,oM 25 6,oT 26 (.build [aT 24 0 1,aT 25 0 1]),oT 27 (.buildSlice 2 [.t 26]),oT 28 (.append 2 16 (.t 22) (.t 27)),oF 29 0 3,sT 1 29 28])))))) (rg [oT 30 (.bin .add (.v 10) (cI 1)),oN 10 30]))))))) (rs [oK 31 1 3,oS 1 2 31] .ret)))
def vf34:=mF 1 [.cell (.v 2) (some 1)] (iv [0,4,8,4] [5,6,20]) Uh
def Ug : VCode:=rs [oX 1 2 0,oV 2 (.alloc [.nil 2])] (rs [oV 3 (.newArr 2)] (sq (rs [oJ 4 0] (.block 0 (.loop (sq (rs [oM 6 4,oF 7 0 1,oL 8 7,oY 9 8,oU 10 6 9] (cE 10 0)) (sq (.block 1 (rs [oF 13 0 1,oL 14 13,oM 15 4,oA 16 4 14 15,oR 17 4 16,oV 5 (.alloc [cZ,cZ,cZ,cZ]),oS 4 5 17] (rs [oF 18 1 5,oL 19 18,oF 20 2 5,oL 21 20,oT 22 (bT .add 19 21),oV 23 (bI .neq 22 0)] (cS 23 (rg [oM 24 3,oF 25 0 5,oL 26 25,oF 27 1 5,oL 28 27,oF 29 2 5,oL 30 29,oT 31 (bT .add 28 30),oT 32 (.build [aT 26 0 1,aT 31 0 1]),oT 33 (.buildSlice 2 [.t 32]),oT 34 (.append 2 16 (.t 24) (.t 33)),oN 3 34]))))) (rg [oM 11 4,oI 12 11,oN 4 12])))))) (rs [oM 35 3,oT 36 (.build [aT 35 0 1]),oS 1 2 36] .ret)))
def vf35:=mF 1 [.cell (.v 2) (some 1)] (iv [0,6] [10,23]) Ug
def Uf : VCode:=rs [oX 2 2 0,oV 4 (.alloc [cZ,cZ,cZ,cZ])] (sq (rs [oF 7 0 2,oV 8 (.load none (.t 7)),oV 9 (.len (.v 8)),oJ 10 0] (.block 0 (.loop (rs [oV 11 (.bin .lss (.v 10) (.v 9))] (sq (cE 11 0) (sq (.block 1 (rs [oT 12 (.indexAddr 4 (.v 8) (.v 10)),oR 13 4 12,oV 6 (.alloc [cZ,cZ,cZ,cZ]),oS 4 6 13] (rs [oF 14 0 6,oL 15 14,oM 16 1,oV 17 (bT .eql 15 16)] (cS 17 (rs [oK 18 4 6,oS 4 4 18] .ret))))) (rg [oT 19 (.bin .add (.v 10) (cI 1)),oN 10 19]))))))) (rs [oM 20 1,oT 21 (.build [aT 20 0 1,zZ,zZ,zZ]),oS 4 4 21] .ret))
def vf36:=mF 2 [.cell (.v 4) (some 4)] (iv [8,4] [0,1,2,4,6,17]) Uf
def Ue : VCode:=rs [oX 2 2 0,oV 4 (.alloc [cZ,cZ,cZ,cZ])] (sq (rs [oJ 5 0] (.block 0 (.loop (sq (rs [oM 6 5,oF 7 0 2,oL 8 7,oY 9 8,oU 10 6 9] (cE 10 0)) (sq (.block 1 (rs [oF 13 0 2,oL 14 13,oM 15 5,oA 16 4 14 15,oQ 17 0 16,oL 18 17,oM 19 1,oV 20 (bT .eql 18 19)] (cS 20 (rs [oF 21 0 2,oL 22 21,oM 23 5,oA 24 4 22 23,oR 25 4 24,oS 4 4 25] .ret)))) (rg [oM 11 5,oI 12 11,oN 5 12])))))) (rs [oM 26 1,oT 27 (.build [aT 26 0 1,zZ,zZ,zZ]),oS 4 4 27] .ret))
def vf37:=mF 2 [.cell (.v 4) (some 4)] [0,1,2,4,5,10,20] Ue
def ND : VCode:=rs [oX 2 2 0,oX 3 2 1,oV 4 (.move cF)] (rs [oF 5 1 2,oL 6 5,oF 7 1 3,oL 8 7,oT 9 (bT .eql 6 8),oP 10 9,tF 11 0 2 10,tL 12 11 10,tF 13 0 3 10,tL 14 13 10,tT 15 (cC 20 [12,14]) 10,oB 16 10 15,oN 4 16] .ret)
def vf38:=mF 2 [.tmp (.v 4)] (iv [0,5] []) ND
def FZ : VCode:=rs [oX 6 2 0,oX 7 2 1,oV 12 (.alloc [.nil 4,cZ]),oV 13 (.newArr 4),oJ 14 0] (sq (.block 0 (rs [oK 27 2 6,oK 28 2 7,oC 29 32 [27,28],oT 30 (nT 29),oP 31 30,fT 32 (ldV 2 6) 31,fM 33 2 31,fT 34 (cC 91 [32,33]) 31,fT 35 (nT 34) 31,oO 36 31 35,oP 37 36,fT 38 (ldV 2 6) 37,fM 39 3 37,fT 40 (cC 89 [38,39]) 37,fT 41 (nT 40) 37,oO 42 37 41,oN 26 42] (.cond (.v 26) (rs [oT 43 (.build [zN 4,zZ]),oS 2 12 43,oV 13 (.newArr 4),oJ 14 1] .ret) (rs [oK 45 2 6,oM 46 4,oC 47 77 [45,46],oT 48 (nT 47),oN 44 48] (.cond (.v 44) (rs [oT 49 (.build [zN 4,zZ]),oS 2 12 49,oV 13 (.newArr 4),oJ 14 4] .ret) (rs [oM 51 5,oT 52 (bI .lss 51 0),oP 53 52,fM 54 5 53,fT 55 (bI .gtr 54 16777216) 53,oO 56 53 55,oN 50 56] (cS 50 (rs [oT 57 (.build [zN 4,zZ]),oS 2 12 57,oV 13 (.newArr 4),oJ 14 3] .ret)))))))) (sq (.region ⟨[oK 59 2 6,oK 60 2 7,oC 61 35 [60],oM 62 2,oM 63 4,oC 64 92 [59,61,62,63],oP 58 64,oE 65 58 0,oE 66 58 1,oN 15 65,oP 16 66],[],[(0,2)]⟩) (rs [oV 17 (.newArr 4)] (sq (rs [oJ 18 0] (.block 1 (.loop (sq (sq (.region ⟨[oM 67 18,oV 68 (bI .lss 67 4)],[83,86,139,142],[]⟩) (cE 68 1)) (sq (.block 2 (rs [oM 71 18,oT 72 (bI .rem 71 2),oT 73 (bI .eql 72 1),oN 19 73] (sq (.region ⟨[oK 75 2 6,oK 76 2 6,oK 77 2 7,oM 78 15,oM 79 3,oM 80 18,oT 81 (bI .lss 80 2),oM 82 19,oC 83 94 [76,77,78,79,81,82],oM 84 4,oM 85 5,oC 86 93 [75,83,84,85],oP 74 86,oE 87 74 0,oE 88 74 1,oN 20 87,oP 21 88],[],[(0,8)]⟩) (rs [oJ 22 0] (.block 3 (.loop (sq (sq (.region ⟨[oM 89 22,oM 90 20,oY 91 90,oU 92 89 91],[139,142],[]⟩) (cE 92 3)) (sq (.block 4 (sq (.region ⟨[oM 95 20,oM 96 22,oA 97 2 95 96,oQ 98 1 97,oL 99 98,oK 100 2 7,oM 101 20,oM 102 22,oA 103 2 101 102,oQ 104 0 103,oL 105 104,oC 106 37 [100,105],oM 107 20,oM 108 22,oA 109 2 107 108,oQ 110 0 109,oL 111 110,oT 112 (.build [aT 111 0 1,zZ,zZ,zZ]),oV 24 (.alloc [cZ,cZ,cZ,cZ]),oV 25 (.alloc [cZ,cZ,cZ,cZ]),oN 23 99,oS 4 24 106,oS 4 25 112],[],[(2,11),(4,11),(11,14),(11,16),(2,17),(4,17),(5,17),(8,17),(10,17),(11,17),(2,18),(4,18),(5,18),(8,18),(10,18),(11,18),(14,18),(16,18),(17,18),(2,19),(4,19),(5,19),(8,19),(10,19),(11,19),(14,19),(16,19),(17,19),(18,19),(14,21),(16,21),(17,21)]⟩) (sq (rs [oV 113 (.move (.v 19))] (.cond (.v 113) (rg [oF 114 2 24,oL 115 114,oM 116 23,oT 117 (bT .sub 115 116),oF 118 3 24,oL 119 118,oM 120 23,oT 121 (bT .add 119 120),oM 122 23,oF 123 2 24,sT 1 123 117,oF 124 3 24,sT 1 124 121,oF 125 2 25,sT 1 125 122]) (rg [oF 126 1 24,oL 127 126,oM 128 23,oT 129 (bT .sub 127 128),oM 130 23,oF 131 1 24,sT 1 131 129,oF 132 1 25,sT 1 132 130]))) (sq (rs [oM 133 18,oV 134 (bI .geq 133 2)] (cS 134 (rg [oM 135 23,oF 136 3 25,sT 1 136 135]))) (.region ⟨[oK 137 2 7,oK 138 4 24,oC 139 82 [137,138],oM 140 17,oK 141 4 25,oT 142 (cW 95 [140,141]),oM 143 5,oM 144 23,oT 145 (bT .sub 143 144),oS 2 7 139,oN 17 142,oN 5 145],[],[(2,4)]⟩))))) (rg [oM 93 22,oI 94 93,oN 22 94]))))))))) (rg [oM 69 18,oI 70 69,oN 18 70])))))) (rs [oK 146 2 7,oT 147 (.build [zZ,zZ,zZ,zZ]),oC 148 82 [146,147],oM 149 17,oS 2 12 148,oN 13 149,oJ 14 0] .ret)))))
def vf41:=mF 6 [.cell (.v 12) (some 2),.tmp (.v 13),.tmp (.v 14)] (iv [0,8,12,4,17,4,22,5] [44,50,68,92,113,134]) FZ
def IJ : VCode:=rs [oV 0 (.alloc [cZ,cZ,cZ,cZ,cZ,.c (.bool false)])] (rs [oT 1 (.build [zZ,zZ,.a (cI 4611686018427387904) 0 1,.a (cI 4611686018427387904) 0 1,.a (cI 4611686018427387904) 0 1,.z (.c (.bool false))]),oS 6 0 1] .ret)
def vf44:=mF 0 [.cell (.v 0) (some 6)] [0] IJ
def GR : VCode:=rs [oX 6 2 0,oX 7 2 1,oV 12 (.alloc [.nil 4,cZ,.nil 4,.nil 1,.nil 1,cZ]),oJ 13 0] (sq (rs [oK 17 2 6,oK 18 2 7,oM 19 2,oM 20 3,oC 21 98 [17,18,19,20],oN 14 21] (rs [oM 22 14,oV 23 (bI .neq 22 0)] (cS 23 (rs [oT 24 (.build [zN 4,zZ,zN 4,zN 1,zN 1,zZ]),oM 25 14,oS 6 12 24,oN 13 25] .ret)))) (sq (rs [oM 26 4,oT 27 (bI .lss 26 0),oP 28 27,fM 29 4 28,fT 30 (bI .gtr 29 16777216) 28,oO 31 28 30,oP 32 31,fM 33 5 32,fT 34 (bI .lss 33 0) 32,oO 35 32 34,oP 36 35,fM 37 5 36,fM 38 4 36,fT 39 (.bin .sub (cI 16777216) (.t 38)) 36,fT 40 (bT .gtr 37 39) 36,vO 41 36 40] (cS 41 (rs [oT 42 (.build [zN 4,zZ,zN 4,zN 1,zN 1,zZ]),oS 6 12 42,oJ 13 3] .ret))) (rs [oK 43 2 6,oK 44 2 7,oM 45 2,oC 46 99 [43,44,45],oN 15 46] (rs [oM 47 15,oM 48 3,oM 49 4,oM 50 5,oT 51 (cW 100 [47,48,49,50]),oN 16 51] (rs [oM 52 15,oT 53 (kT 52),oQ 54 3 53,oR 55 6 54,oM 56 16,oS 6 12 55,oN 13 56] .ret)))))
def vf45:=mF 6 [.cell (.v 12) (some 6),.tmp (.v 13)] (iv [0,8,12,5] [23,41]) GR
def Fa : VCode:=rs [oV 2 (.alloc [cZ,cZ,cZ,cZ,cZ,.c (.bool false)])] (rs [oC 4 44 [],oV 3 (.alloc [cZ,cZ,cZ,cZ,cZ,.c (.bool false)]),oS 6 3 4] (rs [oM 5 0,oT 6 (.buildFz 1 [.c (.int .i64 0),.c (.int .i64 0),.c (.int .i64 10),.c (.int .i64 60)]),oC 7 13 [5,6],oM 8 0,oT 9 (.buildFz 1 [.c (.int .i64 0),.c (.int .i64 0),.c (.int .i64 20),.c (.int .i64 100)]),oC 10 13 [8,9],oF 11 0 3,sT 1 11 7,oF 12 1 3,sT 1 12 10] (sq (rs [oM 13 0,oV 14 (.call 25 [.t 13,.c (.int .i64 2)])] (cS 14 (rg [oM 15 0,oT 16 (.buildFz 1 [.c (.int .i64 0),.c (.int .i64 15),.c (.int .i64 60),.c (.int .i64 150)]),oC 17 13 [15,16],oF 18 2 3,sT 1 18 17]))) (sq (rs [oM 19 0,oV 20 (.call 25 [.t 19,.c (.int .i64 2)])] (cS 20 (rg [oM 21 0,oT 22 (.buildFz 1 [.c (.int .i64 0),.c (.int .i64 8),.c (.int .i64 40),.c (.int .i64 90),.c (.int .i64 200)]),oC 23 13 [21,22],oF 24 3 3,sT 1 24 23]))) (sq (rs [oM 25 0,oV 26 (.call 25 [.t 25,.c (.int .i64 3)])] (cS 26 (rg [oM 27 0,oT 28 (.buildFz 1 [.c (.int .i64 0),.c (.int .i64 5),.c (.int .i64 30)]),oC 29 13 [27,28],oF 30 4 3,sT 1 30 29]))) (rs [oM 31 0,oT 32 (.call 25 [.t 31,.c (.int .i64 4)]),oF 33 5 3,sT 1 33 32] (rs [oK 34 6 3,oS 6 2 34] .ret)))))))
def vf46:=mF 1 [.cell (.v 2) (some 6)] [0,2,3,14,20,26] Fa
def FY : VCode:=rs [oX 6 2 0,oX 7 2 1,oV 12 (.alloc [.nil 4,cZ,.nil 4,.nil 1,.nil 1,cZ]),oJ 13 0] (sq (rs [oK 26 2 6,oK 27 2 7,oM 28 2,oM 29 3,oC 30 101 [26,27,28,29],oN 14 30] (rs [oM 31 14,oV 32 (bI .neq 31 0)] (cS 32 (rs [oT 33 (.build [zN 4,zZ,zN 4,zN 1,zN 1,zZ]),oM 34 14,oS 6 12 33,oN 13 34] .ret)))) (sq (rs [oM 35 4,oT 36 (bI .lss 35 0),oP 37 36,fM 38 4 37,fT 39 (bI .gtr 38 16777216) 37,oO 40 37 39,oP 41 40,fM 42 5 41,fT 43 (bI .lss 42 0) 41,oO 44 41 43,oP 45 44,fM 46 5 45,fT 47 (bI .gtr 46 16777216) 45,oO 48 45 47,oP 49 48,fM 50 4 49,fM 51 5 49,fT 52 (bT .add 50 51) 49,fT 53 (bI .gtr 52 16777216) 49,vO 54 49 53] (cS 54 (rs [oT 55 (.build [zN 4,zZ,zN 4,zN 1,zN 1,zZ]),oS 6 12 55,oJ 13 3] .ret))) (rs [oM 56 4,oM 57 5,oT 58 (bT .add 56 57),oN 15 58] (rs [oK 59 2 7,oT 60 (.build [zZ,zZ,zZ,zZ]),oC 61 82 [59,60],oT 62 (.build [aT 61 0 2,aT 61 1 2,zN 4,zN 1,zN 1,zZ]),oV 16 (.alloc [.nil 4,cZ,.nil 4,.nil 1,.nil 1,cZ]),oS 6 16 62] (rs [oK 63 2 6,oM 64 3,oC 65 102 [63,64],oN 17 65] (sq (rs [oJ 18 0] (.block 0 (.loop (sq (sq (.region ⟨[oM 66 18,oM 67 17,oY 68 67,oU 69 66 68],[61,100,132],[]⟩) (cE 69 0)) (sq (.block 1 (rs [oM 72 17,oM 73 18,oA 74 1 72 73,oL 75 74,oN 19 75] (rs [oK 76 2 6,oF 77 0 16,oR 78 2 77,oM 79 19,oC 80 103 [76,78,79],oM 81 15,oT 82 (bT .add 80 81),oM 83 2,oM 84 19,oC 85 104 [83,84],oT 86 (bT .sub 82 85),oN 20 86] (sq (rs [oM 87 20,oV 88 (bI .leq 87 0)] (cS 88 (.exit 1))) (rs [oF 89 3 16,oL 90 89,oM 91 19,oT 92 (.buildSlice 1 [.t 91]),oT 93 (.append 1 8 (.t 90) (.t 92)),oF 94 3 16,sT 1 94 93] (rs [oK 95 2 6,oK 96 6 16,oM 97 2,oM 98 19,oM 99 20,oT 100 (cW 105 [95,96,97,98,99]),oS 6 16 100] (rs [oK 101 2 6,oF 102 0 16,oR 103 2 102,oM 104 19,oC 105 103 [101,103,104],oM 106 15,oT 107 (bT .add 105 106),oM 108 2,oM 109 19,oC 110 104 [108,109],oV 111 (bT .gtr 107 110)] (cS 111 (rs [oM 112 19,oF 113 5 16,sT 1 113 112] (rs [oK 114 6 16,oS 6 12 114,oJ 13 20] .ret)))))))))) (rg [oM 70 18,oI 71 70,oN 18 71])))))) (rs [oF 115 0 16,oR 116 2 115,oM 117 3,oC 118 37 [116,117],oV 21 (.alloc [cZ,cZ,cZ,cZ]),oS 4 21 118] (rs [oF 119 1 21,oL 120 119,oM 121 4,oT 122 (bT .add 120 121),oF 123 2 21,oL 124 123,oM 125 5,oT 126 (bT .add 124 125),oF 127 1 21,sT 1 127 122,oF 128 2 21,sT 1 128 126] (rs [oF 129 0 16,oR 130 2 129,oK 131 4 21,oC 132 82 [130,131],oF 133 0 16,sT 2 133 132] (sq (rs [oJ 22 0] (.block 2 (.loop (sq (sq (.region ⟨[oM 134 22,oM 135 17,oY 136 135,oU 137 134 136],[61,132,162],[]⟩) (cE 137 2)) (sq (.block 3 (rs [oM 140 17,oM 141 22,oA 142 1 140 141,oL 143 142,oN 23 143] (rs [oM 144 2,oM 145 23,oC 146 55 [144,145],oT 147 (.field 2 none (.t 146)),oN 24 147] (rs [oK 148 2 6,oF 149 0 16,oR 150 2 149,oM 151 23,oC 152 103 [148,150,151],oM 153 24,oT 154 (bT .sub 152 153),oN 25 154] (rs [oM 155 25,oV 156 (bI .gtr 155 0)] (.cond (.v 156) (rs [oK 157 2 6,oK 158 6 16,oM 159 2,oM 160 23,oM 161 25,oT 162 (cW 105 [157,158,159,160,161]),oS 6 16 162] (rs [oK 163 2 6,oF 164 0 16,oR 165 2 164,oM 166 23,oC 167 103 [163,165,166],oM 168 24,oV 169 (bT .gtr 167 168)] (cS 169 (rg [oF 170 4 16,oL 171 170,oM 172 23,oT 173 (.buildSlice 1 [.t 172]),oT 174 (.append 1 8 (.t 171) (.t 173)),oF 175 4 16,sT 1 175 174])))) .skip)))))) (rg [oM 138 22,oI 139 138,oN 22 139])))))) (rs [oK 176 6 16,oS 6 12 176,oJ 13 0] .ret)))))))))))
def vf47:=mF 6 [.cell (.v 12) (some 6),.tmp (.v 13)] (iv [0,8,12,14] [32,54,69,88,111,137,156,169]) FY
def HK : VCode:=rs [oX 5 2 0,oX 6 2 1,oV 10 (.alloc [.nil 4,cZ,.nil 4,.nil 1,.nil 1,cZ]),oJ 11 0] (sq (rs [oK 16 2 5,oK 17 2 6,oM 18 2,oM 19 3,oC 20 98 [16,17,18,19],oN 12 20] (rs [oM 21 12,oV 22 (bI .neq 21 0)] (cS 22 (rs [oT 23 (.build [zN 4,zZ,zN 4,zN 1,zN 1,zZ]),oM 24 12,oS 6 10 23,oN 11 24] .ret)))) (sq (rs [oM 25 4,oT 26 (bI .lss 25 0),oP 27 26,fM 28 4 27,fT 29 (ldV 2 6) 27,fM 30 3 27,fT 31 (cC 36 [29,30]) 27,fT 32 (.field 3 none (.t 31)) 27,fT 33 (bT .gtr 28 32) 27,vO 34 27 33] (cS 34 (rs [oT 35 (.build [zN 4,zZ,zN 4,zN 1,zN 1,zZ]),oS 6 10 35,oJ 11 3] .ret))) (rs [oK 36 2 5,oK 37 2 6,oM 38 2,oC 39 99 [36,37,38],oN 13 39] (sq (rs [oM 40 13,oM 41 3,oM 42 4,oT 43 (.callW 100 [.t 40,.t 41,.c (.int .i64 0),.t 42]),oN 14 43] (rs [oM 44 14,oV 45 (bI .neq 44 0)] (cS 45 (rs [oM 46 13,oT 47 (kT 46),oQ 48 3 47,oR 49 6 48,oM 50 14,oS 6 10 49,oN 11 50] .ret)))) (rs [oM 51 13,oT 52 (kT 51),oQ 53 3 52,oQ 54 0 53,oR 55 2 54,oM 56 3,oC 57 36 [55,56],oV 15 (.alloc [cZ,cZ,cZ,cZ]),oS 4 15 57] (rs [oF 58 3 15,oL 59 58,oM 60 4,oT 61 (bT .sub 59 60),oF 62 3 15,sT 1 62 61] (rs [oM 64 13,oK 65 2 5,oM 66 13,oT 67 (kT 66),oQ 68 3 67,oQ 69 0 68,oR 70 2 69,oK 71 4 15,oC 72 28 [65,70,71],oP 63 72,oE 73 63 0,oE 74 63 1,oT 75 (kT 64),oQ 76 3 75,oQ 77 0 76,sT 2 77 73] (rs [oM 78 13,oT 79 (kT 78),oQ 80 3 79,oR 81 6 80,oS 6 10 81,oJ 11 0] .ret))))))))
def vf48:=mF 5 [.cell (.v 10) (some 6),.tmp (.v 11)] (iv [0,7,10,6] [22,34,45]) HK
def HJ : VCode:=rs [oX 5 2 0,oX 6 2 1,oV 10 (.alloc [.nil 4,cZ,.nil 4,.nil 1,.nil 1,cZ]),oJ 11 0] (sq (rs [oK 16 2 5,oK 17 2 6,oM 18 2,oM 19 3,oC 20 101 [16,17,18,19],oN 12 20] (rs [oM 21 12,oV 22 (bI .neq 21 0)] (cS 22 (rs [oT 23 (.build [zN 4,zZ,zN 4,zN 1,zN 1,zZ]),oM 24 12,oS 6 10 23,oN 11 24] .ret)))) (sq (rs [oM 25 4,oT 26 (bI .lss 25 0),oP 27 26,fM 28 4 27,fT 29 (ldV 2 6) 27,fM 30 3 27,fT 31 (cC 37 [29,30]) 27,fT 32 (.field 3 none (.t 31)) 27,fT 33 (bT .gtr 28 32) 27,vO 34 27 33] (cS 34 (rs [oT 35 (.build [zN 4,zZ,zN 4,zN 1,zN 1,zZ]),oS 6 10 35,oJ 11 3] .ret))) (rs [oK 37 2 5,oK 38 2 6,oM 39 2,oM 40 3,oM 41 4,oT 42 (.call 47 [.t 37,.t 38,.t 39,.t 40,.c (.int .i64 0),.t 41]),oP 36 42,oE 43 36 0,oE 44 36 1,oV 13 (.alloc [.nil 4,cZ,.nil 4,.nil 1,.nil 1,cZ]),oS 6 13 43,oN 14 44] (sq (rs [oM 45 14,oV 46 (bI .neq 45 0)] (cS 46 (rs [oK 47 6 13,oM 48 14,oS 6 10 47,oN 11 48] .ret))) (rs [oF 49 0 13,oR 50 2 49,oM 51 3,oC 52 37 [50,51],oV 15 (.alloc [cZ,cZ,cZ,cZ]),oS 4 15 52] (rs [oF 53 3 15,oL 54 53,oM 55 4,oT 56 (bT .sub 54 55),oF 57 3 15,sT 1 57 56] (rs [oF 58 0 13,oR 59 2 58,oK 60 4 15,oC 61 82 [59,60],oF 62 0 13,sT 2 62 61] (rs [oK 63 6 13,oS 6 10 63,oJ 11 0] .ret))))))))
def vf49:=mF 5 [.cell (.v 10) (some 6),.tmp (.v 11)] (iv [0,7,10,6] [22,34,46]) HJ
def KF : VCode:=rs [oX 4 2 0,oX 5 2 1,oV 8 (.alloc [.nil 4,cZ]),oV 9 (.newArr 4),oJ 10 0,oJ 11 0] (sq (rs [oK 15 2 4,oK 16 2 5,oM 17 2,oM 18 3,oC 19 98 [15,16,17,18],oN 12 19] (rs [oM 20 12,oV 21 (bI .neq 20 0)] (cS 21 (rs [oT 22 (.build [zN 4,zZ]),oM 23 12,oS 2 8 22,oV 9 (.newArr 4),oJ 10 0,oN 11 23] .ret)))) (rs [oK 24 2 4,oK 25 2 5,oM 26 2,oC 27 99 [24,25,26],oN 13 27] (sq (rs [oM 28 13,oM 29 3,oT 30 (.callR 106 [.t 28,.t 29]),oM 31 13,oM 32 3,oT 33 (.callR 107 [.t 31,.t 32]),oT 34 (bT .sub 30 33),oN 14 34] (rs [oM 35 14,oV 36 (bI .gtr 35 0)] (cS 36 (rg [oM 37 13,oM 38 3,oM 39 14,oT 40 (cW 108 [37,38,39])])))) (sq (.region ⟨[oM 41 13,oT 42 (kT 41),oQ 43 3 42,oQ 44 0 43,oR 45 2 44,oM 46 13,oT 47 (kT 46),oQ 48 3 47,oQ 49 2 48,oL 50 49,oM 51 13,oM 52 3,oT 53 (.callR 106 [.t 51,.t 52]),oM 54 13,oM 55 3,oT 56 (.callR 107 [.t 54,.t 55]),oT 57 (bT .sub 53 56),oT 58 (.minmax true [.c (.int .i64 0),.t 57]),oS 2 8 45,oN 9 50,oN 10 58,oJ 11 0],[],[(9,18)]⟩) .ret))))
def vf50:=mF 4 [.cell (.v 8) (some 2),.tmp (.v 9),.tmp (.v 10),.tmp (.v 11)] (iv [0,6,8,7] [21,36]) KF
def KE : VCode:=rs [oX 4 2 0,oX 5 2 1,oV 8 (.alloc [.nil 4,cZ]),oV 9 (.newArr 4),oJ 10 0,oJ 11 0] (sq (rs [oK 15 2 4,oK 16 2 5,oM 17 2,oM 18 3,oC 19 101 [15,16,17,18],oN 12 19] (rs [oM 20 12,oV 21 (bI .neq 20 0)] (cS 21 (rs [oT 22 (.build [zN 4,zZ]),oM 23 12,oS 2 8 22,oV 9 (.newArr 4),oJ 10 0,oN 11 23] .ret)))) (rs [oK 24 2 5,oT 25 (.build [zZ,zZ,zZ,zZ]),oC 26 82 [24,25],oT 27 (.build [aT 26 0 2,aT 26 1 2,zN 4,zN 1,zN 1,zZ]),oV 13 (.alloc [.nil 4,cZ,.nil 4,.nil 1,.nil 1,cZ]),oS 6 13 27] (sq (rs [oK 28 2 4,oK 29 2 5,oM 30 3,oC 31 103 [28,29,30],oM 32 2,oM 33 3,oC 34 104 [32,33],oT 35 (bT .sub 31 34),oN 14 35] (rs [oM 36 14,oV 37 (bI .gtr 36 0)] (cS 37 (rg [oK 38 2 4,oK 39 6 13,oM 40 2,oM 41 3,oM 42 14,oT 43 (cW 105 [38,39,40,41,42]),oS 6 13 43])))) (sq (.region ⟨[oF 44 0 13,oR 45 2 44,oF 46 2 13,oL 47 46,oK 48 2 4,oF 49 0 13,oR 50 2 49,oM 51 3,oC 52 103 [48,50,51],oM 53 2,oM 54 3,oC 55 104 [53,54],oT 56 (bT .sub 52 55),oT 57 (.minmax true [.c (.int .i64 0),.t 56]),oS 2 8 45,oN 9 47,oN 10 57,oJ 11 0],[],[(1,8),(3,8),(1,11),(3,11),(3,14)]⟩) .ret))))
def vf51:=mF 4 [.cell (.v 8) (some 2),.tmp (.v 9),.tmp (.v 10),.tmp (.v 11)] (iv [0,6,8,7] [21,37]) KE
def KD : VCode:=rs [oX 2 2 0,oV 4 (.move cF)] (sq (rs [oK 9 2 2,oC 10 86 [9],oV 11 (nT 10)] (cS 11 (rs [oV 4 (.move cF)] .ret))) (sq (rs [oV 12 (.move (.v 1)),oV 13 (.len (.v 12)),oJ 14 0] (.block 0 (.loop (rs [oV 15 (.bin .lss (.v 14) (.v 13))] (sq (cE 15 0) (sq (.block 1 (rs [oM 16 14,oT 17 (.indexAddr 7 (.v 12) (.v 14)),oR 18 7 17,oV 6 (.alloc [cZ,cZ,cZ,cZ,cZ,cZ,.c (.bool false)]),oN 5 16,oS 7 6 18] (rs [oK 20 2 2,oF 21 0 6,oL 22 21,oC 23 87 [20,22],oP 19 23,oE 24 19 0,oE 25 19 1,oT 7 (.alloc [.c (.int .i64 0),.c (.int .i64 0),.c (.str ⟨#[]⟩),.c (.int .i64 0),.c (.int .i64 0),.c (.int .i64 0)]),sT 6 7 24,oN 8 25] (rs [oM 26 8,oT 27 (nT 26),oP 28 27,fM 29 5 28,fT 30 (bI .gtr 29 0) 28,fT 31 (.move (.t 30)) 28,tF 32 0 6 31,tL 33 32 31,tM 34 1 31,tM 35 5 31,tT 36 (bI .sub 35 1) 31,tT 37 (.indexAddr 7 (.t 34) (.t 36)) 31,tT 38 (.fieldAddr 0 (.t 37)) 31,tL 39 38 31,tT 40 (bT .leq 33 39) 31,fT 41 (.pick (.t 31) (.t 40) cF) 28,oO 42 28 41,oP 43 42,fF 44 1 6 43,fT 45 (.load (some 6) (.t 44)) 43,fT 46 (cC 109 [45]) 43,fT 47 (nT 46) 43,vO 48 43 47] (cS 48 (rs [oV 4 (.move cF)] .ret)))))) (rg [oT 49 (.bin .add (.v 14) (cI 1)),oN 14 49]))))))) (rs [oV 4 (.move cT)] .ret)))
def vf52:=mF 2 [.tmp (.v 4)] (iv [11,5] [0,1,2,4,5,6,8,48]) KD
def NC : VCode:=rs [oX 2 2 0,oV 4 (.move cF)] (sq (rs [oK 6 2 2,oC 7 75 [6],oV 8 (nT 7)] (cS 8 (rs [oV 4 (.move cF)] .ret))) (sq (rs [oJ 5 0] (.block 0 (.loop (sq (rs [oM 9 5,oM 10 1,oY 11 10,oU 12 9 11] (cE 12 0)) (sq (.block 1 (rs [oK 15 2 2,oM 16 1,oM 17 5,oA 18 7 16 17,oQ 19 0 18,oL 20 19,oC 21 77 [15,20],oT 22 (nT 21),oP 23 22,fM 24 5 23,fT 25 (bI .gtr 24 0) 23,fT 26 (.move (.t 25)) 23,tM 27 1 26,tM 28 5 26,tT 29 (.indexAddr 7 (.t 27) (.t 28)) 26,tT 30 (.fieldAddr 0 (.t 29)) 26,tL 31 30 26,tM 32 1 26,tM 33 5 26,tT 34 (bI .sub 33 1) 26,tT 35 (.indexAddr 7 (.t 32) (.t 34)) 26,tT 36 (.fieldAddr 0 (.t 35)) 26,tL 37 36 26,tT 38 (bT .leq 31 37) 26,fT 39 (.pick (.t 26) (.t 38) cF) 23,oO 40 23 39,oP 41 40,fM 42 1 41,fM 43 5 41,fT 44 (.indexAddr 7 (.t 42) (.t 43)) 41,fT 45 (.fieldAddr 1 (.t 44)) 41,fT 46 (.load (some 6) (.t 45)) 41,fT 47 (cC 109 [46]) 41,fT 48 (nT 47) 41,vO 49 41 48] (cS 49 (rs [oV 4 (.move cF)] .ret)))) (rg [oM 13 5,oI 14 13,oN 5 14])))))) (rs [oV 4 (.move cT)] .ret)))
def vf53:=mF 2 [.tmp (.v 4)] [0,1,2,4,5,8,12,49] NC
def Ud : VCode:=rs [oV 4 (.alloc [cZ,cZ,cZ,cZ,cZ,.c (.bool false)])] (sq (rs [oV 7 (.move (.v 0)),oV 8 (.len (.v 7)),oJ 9 0] (.block 0 (.loop (rs [oV 10 (.bin .lss (.v 9) (.v 8))] (sq (cE 10 0) (sq (.block 1 (rs [oT 11 (.indexAddr 7 (.v 7) (.v 9)),oR 12 7 11,oV 6 (.alloc [cZ,cZ,cZ,cZ,cZ,cZ,.c (.bool false)]),oS 7 6 12] (rs [oF 13 0 6,oL 14 13,oM 15 1,oV 16 (bT .eql 14 15)] (cS 16 (rs [oF 17 1 6,oR 18 6 17,oS 6 4 18] .ret))))) (rg [oT 19 (.bin .add (.v 9) (cI 1)),oN 9 19]))))))) (rs [oC 20 44 [],oS 6 4 20] .ret))
def vf54:=mF 2 [.cell (.v 4) (some 6)] (iv [6,5] [0,1,4,16]) Ud
def Uc : VCode:=rs [oV 4 (.alloc [cZ,cZ,cZ,cZ,cZ,.c (.bool false)])] (sq (rs [oJ 5 0] (.block 0 (.loop (sq (rs [oM 6 5,oM 7 0,oY 8 7,oU 9 6 8] (cE 9 0)) (sq (.block 1 (rs [oM 12 0,oM 13 5,oA 14 7 12 13,oQ 15 0 14,oL 16 15,oM 17 1,oV 18 (bT .eql 16 17)] (cS 18 (rs [oM 19 0,oM 20 5,oA 21 7 19 20,oQ 22 1 21,oR 23 6 22,oS 6 4 23] .ret)))) (rg [oM 10 5,oI 11 10,oN 5 11])))))) (rs [oC 24 44 [],oS 6 4 24] .ret))
def vf55:=mF 2 [.cell (.v 4) (some 6)] [0,1,4,5,9,18] Uc
def Ub : VCode:=rs [oV 4 (.move cF)] (sq (rs [oM 6 0,oY 7 6,oM 8 1,oY 9 8,oV 10 (bT .neq 7 9)] (cS 10 (rs [oV 4 (.move cF)] .ret))) (sq (rs [oJ 5 0] (.block 0 (.loop (sq (rs [oM 11 5,oM 12 0,oY 13 12,oU 14 11 13] (cE 14 0)) (sq (.block 1 (rs [oM 17 0,oM 18 5,oA 19 3 17 18,oR 20 3 19,oM 21 1,oM 22 5,oA 23 3 21 22,oR 24 3 23,oV 25 (.eqAgg true [(.int .i64),(.int .i64),(.int .i64)] (.t 20) (.t 24))] (cS 25 (rs [oV 4 (.move cF)] .ret)))) (rg [oM 15 5,oI 16 15,oN 5 16])))))) (rs [oV 4 (.move cT)] .ret)))
def vf56:=mF 2 [.tmp (.v 4)] [0,1,4,5,10,14,25] Ub
def Ua : VCode:=rs [oV 2 (.newArr 3)] (rs [oV 3 (.newArr 3)] (sq (rs [oV 6 (.move (.v 0)),oV 7 (.len (.v 6)),oJ 8 0] (.block 0 (.loop (rs [oV 9 (.bin .lss (.v 8) (.v 7))] (sq (cE 9 0) (sq (.block 1 (rs [oT 10 (.indexAddr 7 (.v 6) (.v 8)),oR 11 7 10,oV 5 (.alloc [cZ,cZ,cZ,cZ,cZ,cZ,.c (.bool false)]),oS 7 5 11] (rs [oF 12 1 5,oQ 13 0 12,oL 14 13,oT 15 (bI .neq 14 0),oP 16 15,fF 17 1 5 16,fT 18 (.fieldAddr 1 (.t 17)) 16,fL 19 18 16,fT 20 (bI .neq 19 0) 16,vO 21 16 20] (cS 21 (rg [oM 22 3,oF 23 0 5,oL 24 23,oF 25 1 5,oQ 26 0 25,oL 27 26,oF 28 1 5,oQ 29 1 28,oL 30 29,oT 31 (.build [aT 24 0 1,aT 27 0 1,aT 30 0 1]),oT 32 (.buildSlice 3 [.t 31]),oT 33 (.append 3 24 (.t 22) (.t 32)),oN 3 33]))))) (rg [oT 34 (.bin .add (.v 8) (cI 1)),oN 8 34]))))))) (rs [oM 35 3,oN 2 35] .ret)))
def vf57:=mF 1 [.tmp (.v 2)] (iv [5,5] [0,2,3,21]) Ua
def T9 : VCode:=rs [oV 2 (.newArr 3)] (rs [oV 3 (.newArr 3)] (sq (rs [oJ 4 0] (.block 0 (.loop (sq (rs [oM 6 4,oM 7 0,oY 8 7,oU 9 6 8] (cE 9 0)) (sq (.block 1 (rs [oM 12 0,oM 13 4,oA 14 7 12 13,oQ 15 1 14,oR 16 6 15,oV 5 (.alloc [cZ,cZ,cZ,cZ,cZ,.c (.bool false)]),oS 6 5 16] (rs [oF 17 0 5,oL 18 17,oT 19 (bI .neq 18 0),oP 20 19,fF 21 1 5 20,fL 22 21 20,fT 23 (bI .neq 22 0) 20,vO 24 20 23] (cS 24 (rg [oM 25 3,oM 26 0,oM 27 4,oA 28 7 26 27,oQ 29 0 28,oL 30 29,oF 31 0 5,oL 32 31,oF 33 1 5,oL 34 33,oT 35 (.build [aT 30 0 1,aT 32 0 1,aT 34 0 1]),oT 36 (.buildSlice 3 [.t 35]),oT 37 (.append 3 24 (.t 25) (.t 36)),oN 3 37]))))) (rg [oM 10 4,oI 11 10,oN 4 11])))))) (rs [oM 38 3,oN 2 38] .ret)))
def vf58:=mF 1 [.tmp (.v 2)] [0,2,3,4,5,9,24] T9
def T8 : VCode:=rs [oV 4 (.move cF)] (sq (rs [oM 6 0,oY 7 6,oM 8 1,oY 9 8,oV 10 (bT .neq 7 9)] (cS 10 (rs [oV 4 (.move cF)] .ret))) (sq (rs [oJ 5 0] (.block 0 (.loop (sq (rs [oM 11 5,oM 12 0,oY 13 12,oU 14 11 13] (cE 14 0)) (sq (.block 1 (rs [oM 17 0,oM 18 5,oA 19 2 17 18,oR 20 2 19,oM 21 1,oM 22 5,oA 23 2 21 22,oR 24 2 23,oV 25 (.eqAgg true [(.int .i64),(.int .i64)] (.t 20) (.t 24))] (cS 25 (rs [oV 4 (.move cF)] .ret)))) (rg [oM 15 5,oI 16 15,oN 5 16])))))) (rs [oV 4 (.move cT)] .ret)))
def vf59:=mF 2 [.tmp (.v 4)] [0,1,4,5,10,14,25] T8
def T7 : VCode:=rs [oV 2 (.newArr 2)] (rs [oV 3 (.newArr 2)] (sq (rs [oV 6 (.move (.v 0)),oV 7 (.len (.v 6)),oJ 8 0] (.block 0 (.loop (rs [oV 9 (.bin .lss (.v 8) (.v 7))] (sq (cE 9 0) (sq (.block 1 (rs [oT 10 (.indexAddr 7 (.v 6) (.v 8)),oR 11 7 10,oV 5 (.alloc [cZ,cZ,cZ,cZ,cZ,cZ,.c (.bool false)]),oS 7 5 11] (rs [oF 12 1 5,oQ 13 4 12,oL 14 13,oV 15 (bI .neq 14 4611686018427387904)] (cS 15 (rg [oM 16 3,oF 17 0 5,oL 18 17,oF 19 1 5,oQ 20 4 19,oL 21 20,oT 22 (.build [aT 18 0 1,aT 21 0 1]),oT 23 (.buildSlice 2 [.t 22]),oT 24 (.append 2 16 (.t 16) (.t 23)),oN 3 24]))))) (rg [oT 25 (.bin .add (.v 8) (cI 1)),oN 8 25]))))))) (rs [oM 26 3,oN 2 26] .ret)))
def vf60:=mF 1 [.tmp (.v 2)] (iv [5,5] [0,2,3,15]) T7
def T6 : VCode:=rs [oV 2 (.newArr 2)] (rs [oV 3 (.newArr 2)] (sq (rs [oJ 4 0] (.block 0 (.loop (sq (rs [oM 5 4,oM 6 0,oY 7 6,oU 8 5 7] (cE 8 0)) (sq (.block 1 (rs [oM 11 0,oM 12 4,oA 13 7 11 12,oQ 14 1 13,oQ 15 4 14,oL 16 15,oV 17 (bI .neq 16 4611686018427387904)] (cS 17 (rg [oM 18 3,oM 19 0,oM 20 4,oA 21 7 19 20,oQ 22 0 21,oL 23 22,oM 24 0,oM 25 4,oA 26 7 24 25,oQ 27 1 26,oQ 28 4 27,oL 29 28,oT 30 (.build [aT 23 0 1,aT 29 0 1]),oT 31 (.buildSlice 2 [.t 30]),oT 32 (.append 2 16 (.t 18) (.t 31)),oN 3 32])))) (rg [oM 9 4,oI 10 9,oN 4 10])))))) (rs [oM 33 3,oN 2 33] .ret)))
def vf61:=mF 1 [.tmp (.v 2)] [0,2,3,4,8,17] T6
def T5 : VCode:=rs [oX 2 6 0,oX 3 6 1,oV 4 (.move cF)] (rs [oF 5 0 2,oR 6 2 5,oF 7 0 3,oR 8 2 7,oC 9 38 [6,8],oP 10 9,tF 11 2 2 10,tL 12 11 10,tF 13 2 3 10,tL 14 13 10,tT 15 (cC 21 [12,14]) 10,oB 16 10 15,oP 17 16,tF 18 3 2 17,tL 19 18 17,tF 20 3 3 17,tL 21 20 17,tT 22 (cC 110 [19,21]) 17,oB 23 17 22,oP 24 23,tF 25 4 2 24,tL 26 25 24,tF 27 4 3 24,tL 28 27 24,tT 29 (cC 110 [26,28]) 24,oB 30 24 29,oP 31 30,tF 32 5 2 31,tL 33 32 31,tF 34 5 3 31,tL 35 34 31,tT 36 (bT .eql 33 35) 31,oB 37 31 36,oN 4 37] .ret)
def vf62:=mF 2 [.tmp (.v 4)] (iv [0,5] []) T5
def NB : VCode:=rs [oX 2 2 0,oV 4 (.move cF)] (sq (rs [oK 9 2 2,oC 10 86 [9],oV 11 (nT 10)] (cS 11 (rs [oV 4 (.move cF)] .ret))) (sq (rs [oV 12 (.move (.v 1)),oV 13 (.len (.v 12)),oJ 14 0] (.block 0 (.loop (rs [oV 15 (.bin .lss (.v 14) (.v 13))] (sq (cE 15 0) (sq (.block 1 (rs [oM 16 14,oT 17 (.indexAddr 3 (.v 12) (.v 14)),oR 18 3 17,oV 6 (.alloc [cZ,cZ,cZ]),oN 5 16,oS 3 6 18] (rs [oK 20 2 2,oF 21 0 6,oL 22 21,oC 23 87 [20,22],oP 19 23,oE 24 19 0,oE 25 19 1,oT 7 (.alloc [.c (.int .i64 0),.c (.int .i64 0),.c (.str ⟨#[]⟩),.c (.int .i64 0),.c (.int .i64 0),.c (.int .i64 0)]),sT 6 7 24,oN 8 25] (rs [oM 26 8,oT 27 (nT 26),oP 28 27,fM 29 5 28,fT 30 (bI .gtr 29 0) 28,fT 31 (.move (.t 30)) 28,tF 32 0 6 31,tL 33 32 31,tM 34 1 31,tM 35 5 31,tT 36 (bI .sub 35 1) 31,tT 37 (.indexAddr 3 (.t 34) (.t 36)) 31,tT 38 (.fieldAddr 0 (.t 37)) 31,tL 39 38 31,tT 40 (bT .leq 33 39) 31,fT 41 (.pick (.t 31) (.t 40) cF) 28,oO 42 28 41,oP 43 42,fF 44 1 6 43,fL 45 44 43,fT 46 (bI .lss 45 0) 43,oO 47 43 46,oP 48 47,fF 49 1 6 48,fL 50 49 48,fT 51 (bI .gtr 50 4611686018427387904) 48,oO 52 48 51,oP 53 52,fF 54 2 6 53,fL 55 54 53,fT 56 (bI .lss 55 0) 53,oO 57 53 56,oP 58 57,fF 59 2 6 58,fL 60 59 58,fT 61 (bI .gtr 60 4611686018427387904) 58,vO 62 58 61] (cS 62 (rs [oV 4 (.move cF)] .ret)))))) (rg [oT 63 (.bin .add (.v 14) (cI 1)),oN 14 63]))))))) (rs [oV 4 (.move cT)] .ret)))
def vf63:=mF 2 [.tmp (.v 4)] (iv [11,5] [0,1,2,4,5,6,8,62]) NB
def NA : VCode:=rs [oX 2 2 0,oV 4 (.move cF)] (sq (rs [oK 9 2 2,oC 10 86 [9],oV 11 (nT 10)] (cS 11 (rs [oV 4 (.move cF)] .ret))) (sq (rs [oV 12 (.move (.v 1)),oV 13 (.len (.v 12)),oJ 14 0] (.block 0 (.loop (rs [oV 15 (.bin .lss (.v 14) (.v 13))] (sq (cE 15 0) (sq (.block 1 (rs [oM 16 14,oT 17 (.indexAddr 2 (.v 12) (.v 14)),oR 18 2 17,oV 6 (.alloc [cZ,cZ]),oN 5 16,oS 2 6 18] (rs [oK 20 2 2,oF 21 0 6,oL 22 21,oC 23 87 [20,22],oP 19 23,oE 24 19 0,oE 25 19 1,oT 7 (.alloc [.c (.int .i64 0),.c (.int .i64 0),.c (.str ⟨#[]⟩),.c (.int .i64 0),.c (.int .i64 0),.c (.int .i64 0)]),sT 6 7 24,oN 8 25] (rs [oM 26 8,oT 27 (nT 26),oP 28 27,fM 29 5 28,fT 30 (bI .gtr 29 0) 28,fT 31 (.move (.t 30)) 28,tF 32 0 6 31,tL 33 32 31,tM 34 1 31,tM 35 5 31,tT 36 (bI .sub 35 1) 31,tT 37 (.indexAddr 2 (.t 34) (.t 36)) 31,tT 38 (.fieldAddr 0 (.t 37)) 31,tL 39 38 31,tT 40 (bT .leq 33 39) 31,fT 41 (.pick (.t 31) (.t 40) cF) 28,oO 42 28 41,oP 43 42,fF 44 1 6 43,fL 45 44 43,fT 46 (bI .lss 45 0) 43,oO 47 43 46,oP 48 47,fF 49 1 6 48,fL 50 49 48,fT 51 (bI .gtr 50 4611686018427387904) 48,vO 52 48 51] (cS 52 (rs [oV 4 (.move cF)] .ret)))))) (rg [oT 53 (.bin .add (.v 14) (cI 1)),oN 14 53]))))))) (rs [oV 4 (.move cT)] .ret)))
def vf64:=mF 2 [.tmp (.v 4)] (iv [11,5] [0,1,2,4,5,6,8,52]) NA
def KC : VCode:=rs [oX 3 2 0,oX 4 2 1,oJ 6 0] (sq (rs [oK 9 2 3,oK 10 2 4,oC 11 31 [9,10],oV 12 (nT 11)] (cS 12 (rs [oJ 6 1] .ret))) (sq (rs [oK 14 2 3,oM 15 2,oC 16 87 [14,15],oP 13 16,oE 17 13 0,oE 18 13 1,oT 7 (.alloc [.c (.int .i64 0),.c (.int .i64 0),.c (.str ⟨#[]⟩),.c (.int .i64 0),.c (.int .i64 0),.c (.int .i64 0)]),sT 6 7 17,oN 8 18] (rs [oM 19 8,oV 20 (nT 19)] (cS 20 (rs [oJ 6 4] .ret)))) (rs [oJ 6 0] .ret)))
def vf65:=mF 3 [.tmp (.v 6)] (iv [0,5] [6,8,12,20]) KC
def KB : VCode:=rs [oV 2 (.move cF)] (rs [oM 3 0,oT 4 (bI .geq 3 0),oP 5 4,tM 6 0 5,tT 7 (bI .leq 6 16777216) 5,oB 8 5 7,oN 2 8] .ret)
def vf66:=mF 1 [.tmp (.v 2)] [0,2] KB
def T4 : VCode:=rs [oX 4 2 0,oX 5 1 1,oV 8 (.newArr 3),oJ 9 0] (sq (rs [oK 23 2 4,oK 24 1 5,oC 25 111 [23,24],oT 26 (nT 25),oP 27 26,fT 28 (ldV 2 4) 27,fM 29 2 27,fT 30 (cC 63 [28,29]) 27,fT 31 (nT 30) 27,vO 32 27 31] (cS 32 (rs [oV 8 (.newArr 3),oJ 9 1] .ret))) (sq (rs [oK 34 2 4,oM 35 3,oC 36 87 [34,35],oP 33 36,oE 37 33 0,oE 38 33 1,oT 10 (.alloc [.c (.int .i64 0),.c (.int .i64 0),.c (.str ⟨#[]⟩),.c (.int .i64 0),.c (.int .i64 0),.c (.int .i64 0)]),sT 6 10 37,oN 11 38] (rs [oM 39 11,oV 40 (nT 39)] (cS 40 (rs [oV 8 (.newArr 3),oJ 9 4] .ret)))) (rs [oT 41 (.makeMap (.int .i64)),oN 12 41] (rs [oK 43 2 4,oK 44 1 5,oC 45 112 [43,44],oP 42 45,oE 46 42 0,oE 47 42 1,oN 13 46,oP 14 47] (sq (rs [oV 48 (.move (.v 13)),oV 49 (.len (.v 48)),oJ 50 0] (.block 0 (.loop (rs [oV 51 (.bin .lss (.v 50) (.v 49))] (sq (cE 51 0) (sq (.block 1 (rs [oT 52 (.indexAddr 2 (.v 48) (.v 50)),oR 53 2 52,oV 16 (.alloc [cZ,cZ]),oS 2 16 53] (rg [oM 54 12,oF 55 0 16,oL 56 55,oF 57 1 16,oL 58 57,oZ (.mapUpdate (.int .i64) (.t 54) (.t 56) (.t 58))]))) (rg [oT 59 (.bin .add (.v 50) (cI 1)),oN 50 59]))))))) (sq (.region ⟨[oK 60 2 4,oM 61 12,oM 62 2,oT 63 (.call 114 [.t 62,.c (.fn 115)]),oM 64 3,oT 65 (cW 113 [60,61,63,64]),oK 66 2 4,oM 67 12,oM 68 2,oT 69 (.call 114 [.t 68,.c (.fn 116)]),oM 70 3,oT 71 (cW 113 [66,67,69,70]),oN 17 65,oN 18 71],[],[(0,3),(3,6),(5,6),(6,9)]⟩) (rs [oK 72 2 4,oM 73 3,oC 74 117 [72,73],oN 19 74] (rs [oM 75 19,oT 76 (cW 118 [75])] (rs [oV 20 (.newArr 3)] (sq (rs [oV 77 (.move (.v 19)),oV 78 (.len (.v 77)),oJ 79 0] (.block 2 (.loop (rs [oV 80 (.bin .lss (.v 79) (.v 78))] (sq (cE 80 2) (sq (.block 3 (rs [oT 81 (.indexAddr 1 (.v 77) (.v 79)),oL 82 81,oN 22 82] (rg [oM 83 20,oM 84 22,oM 85 17,oM 86 22,oT 87 (.lookup false (.int .i64) (.int .i64 0) (.t 85) (.t 86)),oM 88 18,oM 89 22,oT 90 (.lookup false (.int .i64) (.int .i64 0) (.t 88) (.t 89)),oT 91 (.build [aT 84 0 1,aT 87 0 1,aT 90 0 1]),oT 92 (.buildSlice 3 [.t 91]),oT 93 (.append 3 24 (.t 83) (.t 92)),oN 20 93]))) (rg [oT 94 (.bin .add (.v 79) (cI 1)),oN 79 94]))))))) (rs [oM 95 20,oN 8 95,oJ 9 0] .ret)))))))))))
def vf67:=mF 4 [.tmp (.v 8),.tmp (.v 9)] (iv [0,6,16,5,48,4,77,4] [8,9,11,12,13,22,32,40]) T4
def T3 : VCode:=rs [oX 1 4 0,oJ 2 0] (rs [oF 3 1 1,oL 4 3,oN 2 4] .ret)
def vf68:=mF 1 [.tmp (.v 2)] [0,1,2] T3
def T2 : VCode:=rs [oX 1 3 0,oJ 2 0] (rs [oF 3 1 1,oL 4 3,oF 5 2 1,oL 6 5,oT 7 (.minmax true [.t 4,.t 6]),oN 2 7] .ret)
def vf69:=mF 1 [.tmp (.v 2)] [0,1,2] T2
def T1 : VCode:=rs [oX 1 4 0,oJ 2 0] (rs [oF 3 2 1,oL 4 3,oN 2 4] .ret)
def vf70:=mF 1 [.tmp (.v 2)] [0,1,2] T1
def T0 : VCode:=rs [oX 1 3 0,oJ 2 0] (rs [oF 3 1 1,oL 4 3,oN 2 4] .ret)
def vf71:=mF 1 [.tmp (.v 2)] [0,1,2] T0
def II : VCode:=rs [oX 4 2 0,oV 8 (.newArr 2),oJ 9 0] (sq (rs [oK 13 2 4,oM 14 1,oM 15 2,oC 16 119 [13,14,15],oV 17 (nT 16)] (cS 17 (rs [oV 8 (.newArr 2),oJ 9 1] .ret))) (sq (rs [oM 18 3,oC 19 120 [18],oV 20 (nT 19)] (cS 20 (rs [oV 8 (.newArr 2),oJ 9 3] .ret))) (rs [oM 21 1,oC 22 121 [21],oV 10 (.alloc [.c (.map (.int .i64) [] [])]),oS 1 10 22] (rs [oV 11 (.alloc [.nil 2])] (rs [oV 12 (.alloc [.c (.nilp)])] (rs [oT 23 (.makeFunc 122 [.v 4,.v 10,.v 11,.v 12]),oS 1 12 23] (sq (.region ⟨[oT 24 (.load none (.v 12)),oM 25 2,oM 26 3,oK 27 2 4,oT 28 (.load none (.v 10)),oM 29 2,oC 30 123 [27,28,29],oT 31 (.minmax false [.t 26,.t 30]),oT 32 (.callvW (.t 24) [.t 25,.t 31])],[],[(0,6)]⟩) (rs [oT 33 (.load none (.v 11)),oT 34 (.callW 125 [.t 33,.c (.fn 126)])] (rs [oT 35 (.load none (.v 11)),oN 8 35,oJ 9 0] .ret)))))))))
def vf72:=mF 4 [.tmp (.v 8),.tmp (.v 9)] (iv [0,5,8,5] [17,20]) II
def TZ : VCode:=rs [oX 3 4 1,oV 4 (.newArr 5)] (rs [oT 14 (.makeMap (.int .i64)),oN 5 14] (sq (.region ⟨[oM 16 0,oT 17 (kT 16),oQ 18 0 17,oR 19 2 18,oM 20 0,oT 21 (kT 20),oQ 22 2 21,oR 23 2 22,oC 24 34 [23],oC 25 112 [19,24],oP 15 25,oE 26 15 0,oE 27 15 1,oN 6 26,oP 7 27],[],[(3,8)]⟩) (sq (rs [oV 28 (.move (.v 6)),oV 29 (.len (.v 28)),oJ 30 0] (.block 0 (.loop (rs [oV 31 (.bin .lss (.v 30) (.v 29))] (sq (cE 31 0) (sq (.block 1 (rs [oT 32 (.indexAddr 2 (.v 28) (.v 30)),oR 33 2 32,oV 9 (.alloc [cZ,cZ]),oS 2 9 33] (rg [oM 34 5,oF 35 0 9,oL 36 35,oF 37 1 9,oL 38 37,oZ (.mapUpdate (.int .i64) (.t 34) (.t 36) (.t 38))]))) (rg [oT 39 (.bin .add (.v 30) (cI 1)),oN 30 39]))))))) (rs [oV 10 (.newArr 5)] (sq (rs [oM 40 0,oT 41 (kT 40),oQ 42 5 41,oV 43 (.load none (.t 42)),oV 44 (.len (.v 43)),oJ 45 0] (.block 2 (.loop (rs [oV 46 (.bin .lss (.v 45) (.v 44))] (sq (cE 46 2) (sq (.block 3 (rs [oT 47 (.indexAddr 3 (.v 43) (.v 45)),oR 48 3 47,oV 12 (.alloc [cZ,cZ,cZ]),oS 3 12 48] (sq (.region ⟨[oF 49 0 12,oL 50 49,oM 51 5,oF 52 0 12,oL 53 52,oT 54 (.lookup false (.int .i64) (.int .i64 0) (.t 51) (.t 53)),oF 55 1 3,oL 56 55,oK 57 3 12,oT 58 (.callv (.t 56) [.t 57]),oF 59 0 3,oL 60 59,oM 61 0,oT 62 (kT 61),oQ 63 2 62,oR 64 2 63,oF 65 0 12,oL 66 65,oC 67 36 [64,66],oT 68 (.callv (.t 60) [.t 67]),oT 69 (.build [aT 50 0 1,aT 54 0 1,aT 58 0 1,aT 68 0 1,.a (cI 4611686018427387904) 0 1]),oV 13 (.alloc [cZ,cZ,cZ,cZ,cZ]),oS 5 13 69],[],[(1,9),(4,9),(5,9),(9,11),(9,15),(9,17),(1,18),(4,18),(5,18),(11,18),(1,19),(4,19),(5,19),(1,21),(4,21),(5,21),(7,21),(8,21),(9,21),(11,21),(15,21),(17,21),(18,21),(19,21),(20,21)]⟩) (sq (rs [oF 70 2 3,oV 71 (.load none (.t 70))] (cS 71 (rg [oM 72 0,oT 73 (kT 72),oQ 74 0 73,oR 75 2 74,oM 76 0,oT 77 (kT 76),oQ 78 2 77,oR 79 2 78,oM 80 0,oT 81 (kT 80),oQ 82 4 81,oL 83 82,oF 84 0 12,oL 85 84,oC 86 88 [75,79,83,85],oF 87 4 13,sT 1 87 86]))) (rg [oM 88 10,oK 89 5 13,oT 90 (.buildSlice 5 [.t 89]),oT 91 (.append 5 40 (.t 88) (.t 90)),oN 10 91]))))) (rg [oT 92 (.bin .add (.v 45) (cI 1)),oN 45 92]))))))) (rs [oM 93 10,oN 4 93] .ret))))))
def vf73:=mF 2 [.tmp (.v 4)] (iv [3,4,28,4,43,4] [0,1,9,10,12,13,71]) TZ
def TY : VCode:=rs [oX 5 4 1] (sq (.region ⟨[oM 10 0,oT 11 (kT 10),oQ 12 2 11,oR 13 2 12,oM 14 2,oC 15 36 [13,14],oM 16 0,oT 17 (kT 16),oQ 18 6 17,oL 19 18,oM 20 2,oT 21 (.lookup false (.int .i64) (.agg [.int .i64 0,.int .i64 0,.int .i64 0,.int .i64 0]) (.t 19) (.t 20)),oV 8 (.alloc [cZ,cZ,cZ,cZ]),oV 9 (.alloc [cZ,cZ,cZ,cZ]),oS 4 8 15,oS 4 9 21],[],[(5,9),(5,11),(3,12),(5,12),(9,12),(11,12),(3,13),(5,13),(9,13),(11,13),(12,13),(9,14),(11,14)]⟩) (rs [oM 22 2,oF 23 0 9,sT 1 23 22] (sq (rs [oF 24 2 5,oV 25 (.load none (.t 24))] (.cond (.v 25) (.region ⟨[oF 26 2 8,oL 27 26,oM 28 3,oT 29 (bT .sub 27 28),oF 30 3 8,oL 31 30,oM 32 3,oT 33 (bT .add 31 32),oF 34 2 9,oL 35 34,oM 36 3,oT 37 (bT .add 35 36),oF 38 2 8,sT 1 38 29,oF 39 3 8,sT 1 39 33,oF 40 2 9,sT 1 40 37],[],[(9,13),(9,15)]⟩) (.region ⟨[oF 41 1 8,oL 42 41,oM 43 3,oT 44 (bT .sub 42 43),oF 45 1 9,oL 46 45,oM 47 3,oT 48 (bT .add 46 47),oF 49 1 8,sT 1 49 44,oF 50 1 9,sT 1 50 48],[],[(5,9)]⟩))) (sq (rs [oF 51 3 5,oV 52 (.load none (.t 51))] (cS 52 (rg [oF 53 3 9,oL 54 53,oM 55 3,oT 56 (bT .add 54 55),oF 57 3 9,sT 1 57 56]))) (.region ⟨[oM 58 0,oM 59 0,oT 60 (kT 59),oQ 61 6 60,oL 62 61,oM 63 2,oM 64 0,oT 65 (kT 64),oQ 66 2 65,oR 67 2 66,oK 68 4 8,oC 69 83 [67,68],oK 70 4 9,oT 71 (kT 58),oQ 72 2 71,sT 2 72 69,oT 73 (.mapEntry (.int .i64) (.agg [.int .i64 0,.int .i64 0,.int .i64 0,.int .i64 0]) (.t 62) (.t 63)),oE 74 73 1,oZ (.entryStore (.t 62) (.t 74) (.t 70))],[],[(4,11),(11,12),(12,15),(12,16)]⟩)))))
def vf74:=mF 4 [] [0,1,2,3,5,8,9,25,52] TY
def KA : VCode:=rs [oX 1 2 0,oV 2 (.move cF)] (rs [oF 6 0 1,oL 7 6,oY 8 7,oN 3 8] (sq (rs [oM 9 3,oT 10 (bI .lss 9 1),oP 11 10,fM 12 3 11,fT 13 (bI .gtr 12 64) 11,vO 14 11 13] (cS 14 (rs [oV 2 (.move cF)] .ret))) (sq (rs [oJ 4 0] (.block 0 (.loop (sq (rs [oM 15 4,oM 16 3,oU 17 15 16] (cE 17 0)) (sq (.block 1 (rs [oK 20 2 1,oM 21 4,oC 22 127 [20,21],oV 23 (nT 22)] (cS 23 (rs [oV 2 (.move cF)] .ret)))) (rg [oM 18 4,oI 19 18,oN 4 19])))))) (sq (rs [oJ 5 0] (.block 2 (.loop (sq (sq (.region ⟨[oM 24 5,oM 25 3,oU 26 24 25],[36],[]⟩) (cE 26 2)) (sq (.block 3 (rs [oK 29 2 1,oF 30 0 1,oL 31 30,oM 32 5,oA 33 6 31 32,oQ 34 0 33,oL 35 34,oC 36 128 [29,35],oY 37 36,oV 38 (bI .gtr 37 9)] (cS 38 (rs [oV 2 (.move cF)] .ret)))) (rg [oM 27 5,oI 28 27,oN 5 28])))))) (rs [oF 39 1 1,oL 40 39,oF 41 0 1,oL 42 41,oM 43 3,oT 44 (bI .sub 43 1),oA 45 6 42 44,oQ 46 0 45,oL 47 46,oT 48 (bT .gtr 40 47),oP 49 48,tF 50 1 1 49,tL 51 50 49,tT 52 (bI .leq 51 2147483648) 49,oB 53 49 52,oN 2 53] .ret)))))
def vf75:=mF 1 [.tmp (.v 2)] (iv [0,6] [14,17,23,26,38]) KA
def Kz : VCode:=rs [oV 2 (.move cF)] (sq (rs [oM 5 0,oT 6 (.lenStr (.t 5)),oT 7 (bI .eql 6 0),oP 8 7,fM 9 0 8,fT 10 (.lenStr (.t 9)) 8,fT 11 (bI .gtr 10 32) 8,oO 12 8 11,oP 13 12,fM 14 0 13,fT 15 (.indexStr (.t 14) (cI 0)) 13,fT 16 (.bin .eql (.t 15) (.c (.int .u8 45))) 13,vO 17 13 16] (cS 17 (rs [oV 2 (.move cF)] .ret))) (sq (rs [oJ 3 0] (.block 0 (.loop (sq (rs [oM 18 3,oM 19 0,oT 20 (.lenStr (.t 19)),oU 21 18 20] (cE 21 0)) (sq (.block 1 (rs [oM 24 0,oM 25 3,oT 26 (.indexStr (.t 24) (.t 25)),oN 4 26] (rs [oM 27 4,oT 28 (.bin .geq (.t 27) (.c (.int .u8 97))),oP 29 28,tM 30 4 29,tT 31 (.bin .leq (.t 30) (.c (.int .u8 122))) 29,oB 32 29 31,oP 33 32,fM 34 4 33,fT 35 (.bin .geq (.t 34) (.c (.int .u8 65))) 33,fT 36 (.move (.t 35)) 33,tM 37 4 36,tT 38 (.bin .leq (.t 37) (.c (.int .u8 90))) 36,fT 39 (.pick (.t 36) (.t 38) cF) 33,oO 40 33 39,oP 41 40,fM 42 4 41,fT 43 (.bin .geq (.t 42) (.c (.int .u8 48))) 41,fT 44 (.move (.t 43)) 41,tM 45 4 44,tT 46 (.bin .leq (.t 45) (.c (.int .u8 57))) 44,fT 47 (.pick (.t 44) (.t 46) cF) 41,oO 48 41 47,oP 49 48,fM 50 4 49,fT 51 (.bin .eql (.t 50) (.c (.int .u8 95))) 49,oO 52 49 51,oP 53 52,fM 54 4 53,fT 55 (.bin .eql (.t 54) (.c (.int .u8 45))) 53,oO 56 53 55,oV 57 (nT 56)] (cS 57 (rs [oV 2 (.move cF)] .ret))))) (rg [oM 22 3,oI 23 22,oN 3 23])))))) (rs [oV 2 (.move cT)] .ret)))
def vf76:=mF 1 [.tmp (.v 2)] [0,2,3,4,17,21,57] Kz
end Go.V
namespace Go.V
def TX : VCode:=rs [oX 2 2 0,oV 4 (.move cF)] (rs [oK 8 2 2,oM 9 1,oC 10 129 [8,9],oP 7 10,oE 11 7 0,oE 12 7 1,oT 5 (.alloc [.c (.int .i64 0),.c (.int .i64 0),.c (.str ⟨#[]⟩),.c (.int .i64 0),.c (.int .i64 0),.c (.int .i64 0)]),sT 6 5 11,oN 6 12] (rs [oM 13 6,oN 4 13] .ret))
def vf77:=mF 2 [.tmp (.v 4)] [0,1,2,4,6] TX
def TW : VCode:=rs [oX 2 2 0,oJ 4 0] (rs [oK 5 2 2,oM 6 1,oC 7 102 [5,6],oY 8 7,oT 9 (bI .sub 8 1),oN 4 9] .ret)
def vf78:=mF 2 [.tmp (.v 4)] [0,1,2,4] TW
def TV : VCode:=rs [oX 1 2 0,oV 2 (.alloc [.nil 6,cZ])] (sq (.region ⟨[oF 3 0 1,oL 4 3,oT 5 (.appendNil 6 56 (.t 4)),oF 6 1 1,oL 7 6,oT 8 (.build [aT 5 0 1,aT 7 0 1]),oS 2 2 8],[],[(2,4)]⟩) .ret)
def vf79:=mF 1 [.cell (.v 2) (some 2)] [0,1,2] TV
def Nz : VCode:=rs [oX 2 2 0,oV 4 (.newArr 1)] (sq (rs [oK 7 2 2,oM 8 1,oC 9 77 [7,8],oV 10 (nT 9)] (cS 10 (rs [oV 4 (.newArr 1)] .ret))) (rs [oV 5 (.newArr 1)] (sq (rs [oJ 6 0] (.block 0 (.loop (sq (rs [oM 11 6,oF 12 0 2,oL 13 12,oY 14 13,oU 15 11 14] (cE 15 0)) (sq (.block 1 (rs [oF 18 0 2,oL 19 18,oM 20 6,oA 21 6 19 20,oQ 22 1 21,oL 23 22,oM 24 1,oV 25 (bT .eql 23 24)] (cS 25 (rg [oM 26 5,oF 27 0 2,oL 28 27,oM 29 6,oA 30 6 28 29,oQ 31 0 30,oL 32 31,oT 33 (.buildSlice 1 [.t 32]),oT 34 (.append 1 8 (.t 26) (.t 33)),oN 5 34])))) (rg [oM 16 6,oI 17 16,oN 6 17])))))) (rs [oM 35 5,oN 4 35] .ret))))
def vf80:=mF 2 [.tmp (.v 4)] [0,1,2,4,5,6,10,15,25] Nz
def FX : VCode:=rs [oX 1 4 0,oV 2 (.move cF)] (rs [oF 3 1 1,oL 4 3,oT 5 (bI .geq 4 0),oP 6 5,tF 7 1 1 6,tL 8 7 6,tT 9 (bI .leq 8 16777216) 6,oB 10 6 9,oP 11 10,tF 12 2 1 11,tL 13 12 11,tT 14 (bI .geq 13 0) 11,oB 15 11 14,oP 16 15,tF 17 2 1 16,tL 18 17 16,tT 19 (bI .leq 18 16777216) 16,oB 20 16 19,oP 21 20,tF 22 3 1 21,tL 23 22 21,tT 24 (bI .geq 23 0) 21,oB 25 21 24,oP 26 25,tF 27 3 1 26,tL 28 27 26,tT 29 (bI .leq 28 16777216) 26,oB 30 26 29,oN 2 30] .ret)
def vf81:=mF 1 [.tmp (.v 2)] [0,1,2] FX
def TU : VCode:=rs [oX 2 2 0,oX 3 4 1,oV 4 (.alloc [.nil 4,cZ])] (rs [oV 5 (.newArr 4)] (rs [oF 9 1 3,oL 10 9,oT 11 (bI .eql 10 0),oP 12 11,tF 13 2 3 12,tL 14 13 12,tT 15 (bI .eql 14 0) 12,oB 16 12 15,oP 17 16,tF 18 3 3 17,tL 19 18 17,tT 20 (bI .eql 19 0) 17,oB 21 17 20,oN 6 21] (sq (rs [oJ 7 0] (.block 0 (.loop (sq (rs [oM 22 7,oF 23 0 2,oL 24 23,oY 25 24,oU 26 22 25] (cE 26 0)) (sq (.block 1 (rs [oF 29 0 2,oL 30 29,oM 31 7,oA 32 4 30 31,oR 33 4 32,oV 8 (.alloc [cZ,cZ,cZ,cZ]),oS 4 8 33] (sq (rs [oM 34 6,oT 35 (nT 34),oP 36 35,tF 37 0 8 36,tL 38 37 36,tF 39 0 3 36,tL 40 39 36,tT 41 (bT .geq 38 40) 36,vB 42 36 41] (cS 42 (rg [oM 43 5,oK 44 4 3,oT 45 (.buildSlice 4 [.t 44]),oT 46 (.append 4 32 (.t 43) (.t 45)),oN 5 46,oV 6 (.move cT)]))) (rs [oF 47 0 8,oL 48 47,oF 49 0 3,oL 50 49,oV 51 (bT .neq 48 50)] (cS 51 (rg [oM 52 5,oK 53 4 8,oT 54 (.buildSlice 4 [.t 53]),oT 55 (.append 4 32 (.t 52) (.t 54)),oN 5 55])))))) (rg [oM 27 7,oI 28 27,oN 7 28])))))) (sq (rs [oM 56 6,oV 57 (nT 56)] (cS 57 (rg [oM 58 5,oK 59 4 3,oT 60 (.buildSlice 4 [.t 59]),oT 61 (.append 4 32 (.t 58) (.t 60)),oN 5 61]))) (rs [oM 62 5,oF 63 1 2,oL 64 63,oT 65 (.build [aT 62 0 1,aT 64 0 1]),oS 2 4 65] .ret)))))
def vf82:=mF 2 [.cell (.v 4) (some 2)] (iv [0,9] [26,42,51,57]) TU
def TT : VCode:=rs [oX 2 2 0,oX 3 4 1,oV 4 (.alloc [.nil 4,cZ])] (rs [oF 9 1 2,oL 10 9,oT 11 (.build [zN 4,aT 10 0 1]),oV 5 (.alloc [.nil 4,cZ]),oS 2 5 11] (rs [oF 12 1 3,oL 13 12,oT 14 (bI .eql 13 0),oP 15 14,tF 16 2 3 15,tL 17 16 15,tT 18 (bI .eql 17 0) 15,oB 19 15 18,oP 20 19,tF 21 3 3 20,tL 22 21 20,tT 23 (bI .eql 22 0) 20,oB 24 20 23,oN 6 24] (sq (rs [oF 25 0 2,oV 26 (.load none (.t 25)),oV 27 (.len (.v 26)),oJ 28 0] (.block 0 (.loop (rs [oV 29 (.bin .lss (.v 28) (.v 27))] (sq (cE 29 0) (sq (.block 1 (rs [oT 30 (.indexAddr 4 (.v 26) (.v 28)),oR 31 4 30,oV 8 (.alloc [cZ,cZ,cZ,cZ]),oS 4 8 31] (sq (rs [oM 32 6,oT 33 (nT 32),oP 34 33,tF 35 0 8 34,tL 36 35 34,tF 37 0 3 34,tL 38 37 34,tT 39 (bT .geq 36 38) 34,vB 40 34 39] (cS 40 (rs [oF 41 0 5,oL 42 41,oK 43 4 3,oT 44 (.buildSlice 4 [.t 43]),oT 45 (.append 4 32 (.t 42) (.t 44)),oF 46 0 5,sT 1 46 45] (rg [oV 6 (.move cT)])))) (rs [oF 47 0 8,oL 48 47,oF 49 0 3,oL 50 49,oV 51 (bT .neq 48 50)] (cS 51 (rg [oF 52 0 5,oL 53 52,oK 54 4 8,oT 55 (.buildSlice 4 [.t 54]),oT 56 (.append 4 32 (.t 53) (.t 55)),oF 57 0 5,sT 1 57 56])))))) (rg [oT 58 (.bin .add (.v 28) (cI 1)),oN 28 58]))))))) (sq (rs [oM 59 6,oV 60 (nT 59)] (cS 60 (rg [oF 61 0 5,oL 62 61,oK 63 4 3,oT 64 (.buildSlice 4 [.t 63]),oT 65 (.append 4 32 (.t 62) (.t 64)),oF 66 0 5,sT 1 66 65]))) (rs [oK 67 2 5,oS 2 4 67] .ret)))))
def vf83:=mF 2 [.cell (.v 4) (some 2)] (iv [0,7,26,4] [8,40,51,60]) TT
def TS : VCode:=rs [oX 3 2 0,oX 4 2 1,oJ 6 0] (rs [oJ 7 0] (sq (rs [oK 10 2 3,oM 11 2,oV 12 (cC 117 [10,11]),oV 13 (.len (.v 12)),oJ 14 0] (.block 0 (.loop (rs [oV 15 (.bin .lss (.v 14) (.v 13))] (sq (cE 15 0) (sq (.block 1 (rs [oT 16 (.indexAddr 1 (.v 12) (.v 14)),oL 17 16,oN 9 17] (rg [oM 18 7,oK 19 2 4,oM 20 9,oC 21 36 [19,20],oT 22 (.field 3 none (.t 21)),oT 23 (bT .add 18 22),oN 7 23]))) (rg [oT 24 (.bin .add (.v 14) (cI 1)),oN 14 24]))))))) (rs [oM 25 7,oN 6 25] .ret)))
def vf84:=mF 3 [.tmp (.v 6)] (iv [0,5,12,4] [6,7,9]) TS
def TR : VCode:=rs [oX 3 2 0,oX 4 2 1,oJ 6 0] (rs [oJ 7 0] (rs [oK 10 2 3,oM 11 2,oC 12 130 [10,11],oN 8 12] (sq (rs [oJ 9 0] (.block 0 (.loop (sq (rs [oM 13 9,oM 14 8,oY 15 14,oU 16 13 15] (cE 16 0)) (sq (.block 1 (rg [oM 19 7,oK 20 2 4,oM 21 8,oM 22 9,oA 23 1 21 22,oL 24 23,oC 25 37 [20,24],oT 26 (.field 3 none (.t 25)),oT 27 (bT .add 19 26),oN 7 27])) (rg [oM 17 9,oI 18 17,oN 9 18])))))) (rs [oM 28 7,oN 6 28] .ret))))
def vf85:=mF 3 [.tmp (.v 6)] (iv [0,5,6,4] [16]) TR
def IH : VCode:=rs [oX 1 2 0,oV 2 (.move cF)] (sq (rs [oF 6 0 1,oL 7 6,oY 8 7,oT 9 (bI .lss 8 1),oP 10 9,fF 11 0 1 10,fL 12 11 10,fT 13 (lT 12) 10,fT 14 (bI .gtr 13 64) 10,oO 15 10 14,oP 16 15,fF 17 0 1 16,fL 18 17 16,fT 19 (.indexAddr 6 (.t 18) (cI 0)) 16,fT 20 (.load (some 6) (.t 19)) 16,fT 21 (cC 131 [20]) 16,fT 22 (nT 21) 16,vO 23 16 22] (cS 23 (rs [oV 2 (.move cF)] .ret))) (rs [oT 24 (.makeMap (.int .i64)),oN 3 24] (sq (rs [oF 25 0 1,oV 26 (.load none (.t 25)),oV 27 (.len (.v 26)),oJ 28 0] (.block 0 (.loop (rs [oV 29 (.bin .lss (.v 28) (.v 27))] (sq (cE 29 0) (sq (.block 1 (rs [oM 30 28,oT 31 (.indexAddr 6 (.v 26) (.v 28)),oR 32 6 31,oV 5 (.alloc [.c (.int .i64 0),.c (.int .i64 0),.c (.str ⟨#[]⟩),.c (.int .i64 0),.c (.int .i64 0),.c (.int .i64 0)]),oN 4 30,oS 6 5 32] (sq (sq (.region ⟨[oF 33 3 5,oL 34 33,oT 35 (bI .lss 34 0),oP 36 35,fF 37 3 5 36,fL 38 37 36,fT 39 (bI .andNot 38 31) 36,fT 40 (bI .neq 39 0) 36,oO 41 36 40,oP 42 41,fF 43 5 5 42,fL 44 43 42,fT 45 (bI .lss 44 0) 42,oO 46 42 45,oP 47 46,fF 48 5 5 47,fL 49 48 47,fT 50 (bI .gtr 49 1048576) 47,oO 51 47 50,oP 52 51,fM 53 4 52,fT 54 (bI .gtr 53 0) 52,fT 55 (.move (.t 54)) 52,tF 56 0 1 55,tL 57 56 55,tM 58 4 55,tT 59 (.slice false 6 none (some (.t 58)) none (.t 57)) 55,tT 60 (ldV 6 5) 55,tT 61 (cC 132 [59,60]) 55,tT 62 (nT 61) 55,fT 63 (.pick (.t 55) (.t 62) cF) 52,vO 64 52 63],[],[(26,27)]⟩) (cS 64 (rs [oV 2 (.move cF)] .ret))) (sq (rs [oM 65 4,oV 66 (bI .gtr 65 0)] (cS 66 (rg [oM 67 3,oF 68 0 5,oL 69 68,oM 70 3,oF 71 1 5,oL 72 71,oT 73 (.lookup false (.int .i64) (.int .i64 0) (.t 70) (.t 72)),oI 74 73,oZ (.mapUpdate (.int .i64) (.t 67) (.t 69) (.t 74))]))) (rs [oM 75 3,oF 76 0 5,oL 77 76,oT 78 (.lookup false (.int .i64) (.int .i64 0) (.t 75) (.t 77)),oV 79 (bI .gtr 78 8)] (cS 79 (rs [oV 2 (.move cF)] .ret))))))) (rg [oT 80 (.bin .add (.v 28) (cI 1)),oN 28 80]))))))) (rs [oF 81 1 1,oL 82 81,oF 83 0 1,oL 84 83,oF 85 0 1,oL 86 85,oY 87 86,oT 88 (bI .sub 87 1),oA 89 6 84 88,oQ 90 0 89,oL 91 90,oT 92 (bT .gtr 82 91),oP 93 92,tF 94 1 1 93,tL 95 94 93,tT 96 (bI .leq 95 2147483648) 93,oB 97 93 96,oN 2 97] .ret))))
def vf86:=mF 1 [.tmp (.v 2)] (iv [0,6,26,4] [23,64,66,79]) IH
def Ny : VCode:=rs [oX 2 2 0,oV 4 (.alloc [.c (.int .i64 0),.c (.int .i64 0),.c (.str ⟨#[]⟩),.c (.int .i64 0),.c (.int .i64 0),.c (.int .i64 0)]),oV 5 (.move cF)] (rs [oK 7 2 2,oM 8 1,oC 9 133 [7,8],oN 6 9] (sq (rs [oM 10 6,oV 11 (bI .lss 10 0)] (cS 11 (rs [oT 12 (.build [zZ,zZ,.z (.c (.str ⟨#[]⟩)),zZ,zZ,zZ]),oS 6 4 12,oV 5 (.move cF)] .ret))) (rs [oF 13 0 2,oL 14 13,oM 15 6,oA 16 6 14 15,oR 17 6 16,oS 6 4 17,oV 5 (.move cT)] .ret)))
def vf87:=mF 2 [.cell (.v 4) (some 6),.tmp (.v 5)] [0,1,2,4,5,6,11] Ny
def TQ : VCode:=rs [oX 4 2 0,oX 5 2 1,oJ 8 0] (sq (.region ⟨[oF 14 1 5,oL 15 14,oK 16 2 4,oK 17 2 5,oT 18 (.call 84 [.t 16,.t 17,.c (.int .i64 1)]),oT 19 (bT .sub 15 18),oN 9 19],[],[(1,4)]⟩) (sq (rs [oK 20 2 4,oM 21 3,oV 22 (cC 134 [20,21]),oV 23 (.len (.v 22)),oJ 24 0] (.block 0 (.loop (rs [oV 25 (.bin .lss (.v 24) (.v 23))] (sq (cE 25 0) (sq (.block 1 (rs [oT 26 (.indexAddr 1 (.v 22) (.v 24)),oL 27 26,oN 11 27] (rs [oV 28 (.move (.v 2)),oV 29 (.len (.v 28)),oJ 30 0] (.block 2 (.loop (rs [oV 31 (.bin .lss (.v 30) (.v 29))] (sq (cE 31 2) (sq (.block 3 (rs [oT 32 (.indexAddr 2 (.v 28) (.v 30)),oR 33 2 32,oV 13 (.alloc [cZ,cZ]),oS 2 13 33] (rs [oF 34 0 13,oL 35 34,oM 36 11,oV 37 (bT .eql 35 36)] (cS 37 (.region ⟨[oM 38 9,oF 39 1 13,oL 40 39,oK 41 2 4,oK 42 2 5,oM 43 11,oC 44 84 [41,42,43],oT 45 (bT .sub 40 44),oT 46 (.minmax false [.t 38,.t 45]),oN 9 46],[],[(2,6)]⟩))))) (rg [oT 47 (.bin .add (.v 30) (cI 1)),oN 30 47]))))))))) (rg [oT 48 (.bin .add (.v 24) (cI 1)),oN 24 48]))))))) (rs [oM 49 9,oT 50 (.minmax true [.c (.int .i64 0),.t 49]),oN 8 50] .ret)))
def vf88:=mF 4 [.tmp (.v 8)] (iv [0,6,22,4,28,4] [8,9,11,13,37]) TQ
def Nx : VCode:=rs [oX 2 2 0,oV 4 (.move cF)] (sq (rs [oK 6 2 2,oC 7 75 [6],oV 8 (nT 7)] (cS 8 (rs [oV 4 (.move cF)] .ret))) (sq (rs [oJ 5 0] (.block 0 (.loop (sq (rs [oM 9 5,oM 10 1,oY 11 10,oU 12 9 11] (cE 12 0)) (sq (.block 1 (rs [oK 15 2 2,oM 16 1,oM 17 5,oA 18 2 16 17,oQ 19 0 18,oL 20 19,oC 21 77 [15,20],oT 22 (nT 21),oP 23 22,fM 24 5 23,fT 25 (bI .gtr 24 0) 23,fT 26 (.move (.t 25)) 23,tM 27 1 26,tM 28 5 26,tT 29 (.indexAddr 2 (.t 27) (.t 28)) 26,tT 30 (.fieldAddr 0 (.t 29)) 26,tL 31 30 26,tM 32 1 26,tM 33 5 26,tT 34 (bI .sub 33 1) 26,tT 35 (.indexAddr 2 (.t 32) (.t 34)) 26,tT 36 (.fieldAddr 0 (.t 35)) 26,tL 37 36 26,tT 38 (bT .leq 31 37) 26,fT 39 (.pick (.t 26) (.t 38) cF) 23,oO 40 23 39,oP 41 40,fM 42 1 41,fM 43 5 41,fT 44 (.indexAddr 2 (.t 42) (.t 43)) 41,fT 45 (.fieldAddr 1 (.t 44)) 41,fL 46 45 41,fT 47 (bI .lss 46 0) 41,oO 48 41 47,oP 49 48,fM 50 1 49,fM 51 5 49,fT 52 (.indexAddr 2 (.t 50) (.t 51)) 49,fT 53 (.fieldAddr 1 (.t 52)) 49,fL 54 53 49,fT 55 (bI .gtr 54 4611686018427387904) 49,vO 56 49 55] (cS 56 (rs [oV 4 (.move cF)] .ret)))) (rg [oM 13 5,oI 14 13,oN 5 14])))))) (rs [oV 4 (.move cT)] .ret)))
def vf89:=mF 2 [.tmp (.v 4)] [0,1,2,4,5,8,12,56] Nx
def TP : VCode:=rs [oX 4 2 0,oX 5 2 1,oJ 8 0] (sq (.region ⟨[oF 12 1 5,oL 13 12,oK 14 2 4,oK 15 2 5,oT 16 (.call 85 [.t 14,.t 15,.c (.int .i64 1)]),oT 17 (bT .sub 13 16),oN 9 17],[],[(1,4)]⟩) (rs [oK 18 2 4,oM 19 3,oC 20 102 [18,19],oN 10 20] (sq (rs [oJ 11 0] (.block 0 (.loop (sq (rs [oM 21 11,oM 22 10,oY 23 22,oU 24 21 23] (cE 24 0)) (sq (.block 1 (.region ⟨[oM 27 9,oM 28 2,oM 29 10,oM 30 11,oA 31 1 29 30,oL 32 31,oC 33 135 [28,32],oK 34 2 4,oK 35 2 5,oM 36 10,oM 37 11,oA 38 1 36 37,oL 39 38,oC 40 85 [34,35,39],oT 41 (bT .sub 33 40),oT 42 (.minmax false [.t 27,.t 41]),oN 9 42],[],[(6,7),(6,8),(6,11),(6,12)]⟩)) (rg [oM 25 11,oI 26 25,oN 11 26])))))) (rs [oM 43 9,oT 44 (.minmax true [.c (.int .i64 0),.t 43]),oN 8 44] .ret))))
def vf90:=mF 4 [.tmp (.v 8)] (iv [0,6,8,4] [24]) TP
def Nw : VCode:=rs [oX 2 2 0,oV 4 (.move cF)] (sq (rs [oK 7 2 2,oC 8 75 [7],oV 9 (nT 8)] (cS 9 (rs [oV 4 (.move cF)] .ret))) (sq (rs [oJ 5 0] (.block 0 (.loop (sq (rs [oM 10 5,oM 11 1,oY 12 11,oU 13 10 12] (cE 13 0)) (sq (.block 1 (rs [oM 16 1,oM 17 5,oA 18 3 16 17,oR 19 3 18,oV 6 (.alloc [cZ,cZ,cZ]),oS 3 6 19] (rs [oK 20 2 2,oF 21 0 6,oL 22 21,oC 23 77 [20,22],oT 24 (nT 23),oP 25 24,fM 26 5 25,fT 27 (bI .gtr 26 0) 25,fT 28 (.move (.t 27)) 25,tF 29 0 6 28,tL 30 29 28,tM 31 1 28,tM 32 5 28,tT 33 (bI .sub 32 1) 28,tT 34 (.indexAddr 3 (.t 31) (.t 33)) 28,tT 35 (.fieldAddr 0 (.t 34)) 28,tL 36 35 28,tT 37 (bT .leq 30 36) 28,fT 38 (.pick (.t 28) (.t 37) cF) 25,oO 39 25 38,oP 40 39,fF 41 1 6 40,fL 42 41 40,fT 43 (bI .lss 42 0) 40,oO 44 40 43,oP 45 44,fF 46 1 6 45,fL 47 46 45,fT 48 (bI .gtr 47 4611686018427387904) 45,oO 49 45 48,oP 50 49,fF 51 2 6 50,fL 52 51 50,fT 53 (bI .lss 52 0) 50,oO 54 50 53,oP 55 54,fF 56 2 6 55,fL 57 56 55,fT 58 (bI .gtr 57 4611686018427387904) 55,vO 59 55 58] (cS 59 (rs [oV 4 (.move cF)] .ret))))) (rg [oM 14 5,oI 15 14,oN 5 15])))))) (rs [oV 4 (.move cT)] .ret)))
def vf91:=mF 2 [.tmp (.v 4)] [0,1,2,4,5,6,9,13,59] Nw
def TO : VCode:=rs [oX 4 2 0,oX 5 1 1,oV 8 (.newArr 3),oJ 9 0] (sq (rs [oK 13 2 4,oK 14 1 5,oC 15 136 [13,14],oT 16 (nT 15),oP 17 16,fT 18 (ldV 2 4) 17,fM 19 2 17,fT 20 (cC 91 [18,19]) 17,fT 21 (nT 20) 17,vO 22 17 21] (cS 22 (rs [oV 8 (.newArr 3),oJ 9 1] .ret))) (sq (rs [oK 23 2 4,oM 24 3,oC 25 77 [23,24],oV 26 (nT 25)] (cS 26 (rs [oV 8 (.newArr 3),oJ 9 4] .ret))) (rs [oV 10 (.newArr 3)] (rs [oK 27 2 4,oM 28 3,oC 29 130 [27,28],oC 30 137 [29],oN 11 30] (sq (rs [oJ 12 0] (.block 0 (.loop (sq (rs [oM 31 12,oM 32 11,oY 33 32,oU 34 31 33] (cE 34 0)) (sq (.block 1 (.region ⟨[oM 37 10,oM 38 11,oM 39 12,oA 40 1 38 39,oL 41 40,oK 42 2 4,oK 43 1 5,oM 44 2,oM 45 3,oM 46 11,oM 47 12,oA 48 1 46 47,oL 49 48,oT 50 (.call 138 [.t 42,.t 43,.t 44,.t 45,.t 49,.c (.bool false)]),oK 51 2 4,oK 52 1 5,oM 53 2,oM 54 3,oM 55 11,oM 56 12,oA 57 1 55 56,oL 58 57,oT 59 (.call 138 [.t 51,.t 52,.t 53,.t 54,.t 58,.c (.bool true)]),oT 60 (.build [aT 41 0 1,aT 50 0 1,aT 59 0 1]),oT 61 (.buildSlice 3 [.t 60]),oT 62 (.append 3 24 (.t 37) (.t 61)),oN 10 62],[],[(3,13),(4,13),(13,14),(13,15),(13,20),(13,21),(3,22),(4,22)]⟩)) (rg [oM 35 12,oI 36 35,oN 12 36])))))) (rs [oM 63 10,oN 8 63,oJ 9 0] .ret))))))
def vf92:=mF 4 [.tmp (.v 8),.tmp (.v 9)] (iv [0,6,8,5] [22,26,34]) TO
def IG : VCode:=rs [oX 4 2 0,oV 8 (.newArr 2),oJ 9 0] (sq (rs [oK 14 2 4,oM 15 1,oM 16 2,oC 17 139 [14,15,16],oV 18 (nT 17)] (cS 18 (rs [oV 8 (.newArr 2),oJ 9 1] .ret))) (sq (rs [oM 19 3,oT 20 (bI .lss 19 0),oP 21 20,fM 22 3 21,fT 23 (bI .gtr 22 16777216) 21,vO 24 21 23] (cS 24 (rs [oV 8 (.newArr 2),oJ 9 3] .ret))) (rs [oT 25 (.makeMap (.int .i64)),oN 10 25] (sq (.region ⟨[oK 26 2 4,oM 27 1,oM 28 2,oM 29 3,oK 30 2 4,oM 31 1,oM 32 2,oC 33 141 [30,31,32],oT 34 (.minmax false [.t 29,.t 33]),oM 35 10,oT 36 (cW 140 [26,27,28,34,35])],[],[(0,7)]⟩) (rs [oV 11 (.newArr 2)] (sq (rs [oJ 12 0] (.block 0 (.loop (sq (rs [oM 37 12,oM 38 1,oY 39 38,oU 40 37 39] (cE 40 0)) (sq (.block 1 (rs [oM 43 10,oM 44 1,oM 45 12,oA 46 5 44 45,oQ 47 0 46,oL 48 47,oT 49 (.lookup false (.int .i64) (.int .i64 0) (.t 43) (.t 48)),oN 13 49] (rs [oM 50 13,oV 51 (bI .gtr 50 0)] (cS 51 (rg [oM 52 11,oM 53 1,oM 54 12,oA 55 5 53 54,oQ 56 0 55,oL 57 56,oM 58 13,oT 59 (.build [aT 57 0 1,aT 58 0 1]),oT 60 (.buildSlice 2 [.t 59]),oT 61 (.append 2 16 (.t 52) (.t 60)),oN 11 61]))))) (rg [oM 41 12,oI 42 41,oN 12 42])))))) (rs [oM 62 11,oN 8 62,oJ 9 0] .ret)))))))
def vf93:=mF 4 [.tmp (.v 8),.tmp (.v 9)] (iv [0,5,8,6] [18,24,40,51]) IG
def TN : VCode:=rs [oX 6 2 0,oX 7 2 1,oV 12 (.newArr 5)] (rs [oV 13 (.newArr 5)] (sq (rs [oJ 14 0] (.block 0 (.loop (sq (rs [oM 16 14,oM 17 2,oY 18 17,oU 19 16 18] (cE 19 0)) (sq (.block 1 (sq (.region ⟨[oM 22 2,oM 23 14,oA 24 3 22 23,oQ 25 0 24,oL 26 25,oK 27 2 6,oK 28 2 7,oM 29 2,oM 30 14,oA 31 3 29 30,oQ 32 0 31,oL 33 32,oC 34 103 [27,28,33],oM 35 2,oM 36 14,oA 37 3 35 36,oQ 38 1 37,oL 39 38,oK 40 2 7,oM 41 2,oM 42 14,oA 43 3 41 42,oQ 44 0 43,oL 45 44,oC 46 37 [40,45],oT 47 (.field 1 none (.t 46)),oT 48 (.build [aT 26 0 1,aT 34 0 1,aT 39 0 1,aT 47 0 1,.a (cI 4611686018427387904) 0 1]),oV 15 (.alloc [cZ,cZ,cZ,cZ,cZ]),oS 5 15 48],[],[(2,12),(4,12),(12,15),(12,17),(12,18),(12,21),(12,23),(2,24),(4,24),(15,24),(17,24),(2,27),(4,27),(5,27),(6,27),(9,27),(11,27),(12,27),(15,27),(17,27),(18,27),(21,27),(23,27),(24,27),(26,27)]⟩) (sq (rs [oV 49 (.move (.v 4))] (cS 49 (rg [oM 50 2,oM 51 14,oA 52 3 50 51,oQ 53 1 52,oL 54 53,oM 55 2,oM 56 14,oA 57 3 55 56,oQ 58 2 57,oL 59 58,oT 60 (.minmax true [.t 54,.t 59]),oF 61 2 15,sT 1 61 60]))) (sq (rs [oV 62 (.move (.v 5))] (cS 62 (.region ⟨[oK 63 2 7,oM 64 2,oM 65 14,oA 66 3 64 65,oQ 67 0 66,oL 68 67,oC 69 37 [63,68],oT 70 (.field 2 none (.t 69)),oK 71 2 6,oK 72 2 7,oM 73 3,oM 74 2,oM 75 14,oA 76 3 74 75,oQ 77 0 76,oL 78 77,oC 79 90 [71,72,73,78],oF 80 3 15,sT 1 80 70,oF 81 4 15,sT 1 81 79],[],[(6,8),(6,9),(6,13),(6,15)]⟩))) (rg [oM 82 13,oK 83 5 15,oT 84 (.buildSlice 5 [.t 83]),oT 85 (.append 5 40 (.t 82) (.t 84)),oN 13 85]))))) (rg [oM 20 14,oI 21 20,oN 14 21])))))) (rs [oM 86 13,oN 12 86] .ret)))
def vf94:=mF 6 [.tmp (.v 12)] (iv [0,8,12,4] [19,49,62]) TN
def TM : VCode:=rs [oX 3 4 1,oV 4 (.newArr 4)] (rs [oJ 5 0] (sq (.block 0 (.loop (sq (rs [oM 6 5,oM 7 0,oY 8 7,oT 9 (bT .lss 6 8),oP 10 9,tM 11 0 10,tM 12 5 10,tT 13 (.indexAddr 4 (.t 11) (.t 12)) 10,tT 14 (.fieldAddr 0 (.t 13)) 10,tL 15 14 10,tF 16 0 3 10,tL 17 16 10,tT 18 (bT .lss 15 17) 10,vB 19 10 18] (cE 19 0)) (.block 1 (rg [oM 20 5,oI 21 20,oN 5 21]))))) (sq (rs [oM 22 5,oM 23 0,oY 24 23,oT 25 (bT .lss 22 24),oP 26 25,tM 27 0 26,tM 28 5 26,tT 29 (.indexAddr 4 (.t 27) (.t 28)) 26,tT 30 (.fieldAddr 0 (.t 29)) 26,tL 31 30 26,tF 32 0 3 26,tL 33 32 26,tT 34 (bT .eql 31 33) 26,vB 35 26 34] (cS 35 (sq (.region ⟨[oM 36 0,oM 37 5,oM 38 0,oM 39 5,oM 40 0,oM 41 5,oM 42 0,oM 43 5,oA 44 4 42 43,oQ 45 1 44,oL 46 45,oF 47 1 3,oL 48 47,oT 49 (bT .add 46 48),oM 50 0,oM 51 5,oA 52 4 50 51,oQ 53 2 52,oL 54 53,oF 55 2 3,oL 56 55,oT 57 (bT .add 54 56),oM 58 0,oM 59 5,oA 60 4 58 59,oQ 61 3 60,oL 62 61,oF 63 3 3,oL 64 63,oT 65 (bT .add 62 64),oA 66 4 36 37,oQ 67 1 66,sT 1 67 49,oA 68 4 38 39,oQ 69 2 68,sT 1 69 57,oA 70 4 40 41,oQ 71 3 70,sT 1 71 65],[],[(20,32),(28,32),(28,35)]⟩) (rs [oM 72 0,oN 4 72] .ret)))) (sq (.region ⟨[oM 73 0,oM 74 5,oM 75 5,oT 76 (.slice false 4 none (some (.t 74)) (some (.t 75)) (.t 73)),oK 77 4 3,oT 78 (.buildSlice 4 [.t 77]),oM 79 0,oM 80 5,oT 81 (.slice false 4 (some (.t 80)) none none (.t 79)),oT 82 (.append 4 32 (.t 78) (.t 81)),oT 83 (.append 4 32 (.t 76) (.t 82)),oN 4 83],[],[(3,4),(3,5),(3,8),(4,8),(5,8),(3,9)]⟩) .ret))))
def vf95:=mF 2 [.tmp (.v 4)] [0,1,3,4,5,19,35] TM
def TL : VCode:=rs [oX 2 2 0,oV 4 (.newArr 1)] (rs [oV 5 (.newArr 1)] (sq (rs [oF 8 0 2,oV 9 (.load none (.t 8)),oV 10 (.len (.v 9)),oJ 11 0] (.block 0 (.loop (rs [oV 12 (.bin .lss (.v 11) (.v 10))] (sq (cE 12 0) (sq (.block 1 (rs [oT 13 (.indexAddr 6 (.v 9) (.v 11)),oR 14 6 13,oV 7 (.alloc [.c (.int .i64 0),.c (.int .i64 0),.c (.str ⟨#[]⟩),.c (.int .i64 0),.c (.int .i64 0),.c (.int .i64 0)]),oS 6 7 14] (rs [oF 15 1 7,oL 16 15,oM 17 1,oV 18 (bT .eql 16 17)] (cS 18 (rg [oM 19 5,oF 20 0 7,oL 21 20,oT 22 (.buildSlice 1 [.t 21]),oT 23 (.append 1 8 (.t 19) (.t 22)),oN 5 23]))))) (rg [oT 24 (.bin .add (.v 11) (cI 1)),oN 11 24]))))))) (rs [oM 25 5,oN 4 25] .ret)))
def vf96:=mF 2 [.tmp (.v 4)] (iv [9,4] [0,1,2,4,5,7,18]) TL
def HI : VCode:=rs [oX 4 2 0,oX 5 2 1,oJ 8 0] (sq (rs [oK 11 2 4,oK 12 2 5,oC 13 31 [11,12],oT 14 (nT 13),oP 15 14,fT 16 (ldV 2 4) 15,fM 17 2 15,fT 18 (cC 52 [16,17]) 15,fT 19 (nT 18) 15,vO 20 15 19] (cS 20 (rs [oJ 8 1] .ret))) (sq (rs [oK 22 2 4,oM 23 3,oC 24 87 [22,23],oP 21 24,oE 25 21 0,oE 26 21 1,oT 9 (.alloc [.c (.int .i64 0),.c (.int .i64 0),.c (.str ⟨#[]⟩),.c (.int .i64 0),.c (.int .i64 0),.c (.int .i64 0)]),sT 6 9 25,oN 10 26] (rs [oM 27 10,oV 28 (nT 27)] (cS 28 (rs [oJ 8 4] .ret)))) (rs [oJ 8 0] .ret)))
def vf98:=mF 4 [.tmp (.v 8)] (iv [0,6] [8,10,20,28]) HI
def TK : VCode:=rs [oX 3 2 0,oX 4 2 1,oV 6 (.move (.c (.nilp)))] (sq (.region ⟨[oK 7 2 3,oM 8 2,oF 9 0 4,oL 10 9,oT 11 (.appendNil 4 32 (.t 10)),oF 12 1 4,oL 13 12,oT 14 (.build [aT 11 0 1,aT 13 0 1]),oT 15 (.build [aT 14 0 2,aT 14 1 2,zN 4,zN 1,zN 1,zZ]),oT 16 (.build [aT 7 0 2,aT 7 1 2,aT 8 0 1,aT 15 0 6,aT 15 1 6,aT 15 2 6,aT 15 3 6,aT 15 4 6,aT 15 5 6]),oT 17 (.box 9 (.t 16)),oN 6 17],[],[(0,4),(4,6),(0,7),(0,8)]⟩) .ret)
def vf99:=mF 3 [.tmp (.v 6)] (iv [0,5] [6]) TK
def HD : VCode:=rs [oJ 8 0] (sq (rs [oM 11 0,oM 12 1,oM 13 2,oM 14 3,oT 15 (bT .add 13 14),oT 16 (cW 142 [11,12,15]),oN 9 16] (rs [oM 17 9,oV 18 (bI .neq 17 0)] (cS 18 (rs [oM 19 9,oN 8 19] .ret)))) (rs [oM 20 0,oT 21 (kT 20),oQ 22 3 21,oQ 23 0 22,oR 24 2 23,oM 25 1,oC 26 36 [24,25],oV 10 (.alloc [cZ,cZ,cZ,cZ]),oS 4 10 26] (rs [oF 27 1 10,oL 28 27,oM 29 2,oT 30 (bT .add 28 29),oF 31 2 10,oL 32 31,oM 33 3,oT 34 (bT .add 32 33),oF 35 1 10,sT 1 35 30,oF 36 2 10,sT 1 36 34] (rs [oM 38 0,oM 39 0,oT 40 (kT 39),oQ 41 0 40,oR 42 2 41,oM 43 0,oT 44 (kT 43),oQ 45 3 44,oQ 46 0 45,oR 47 2 46,oK 48 4 10,oC 49 28 [42,47,48],oP 37 49,oE 50 37 0,oE 51 37 1,oT 52 (kT 38),oQ 53 3 52,oQ 54 0 53,sT 2 54 50] (rs [oM 55 0,oM 56 1,oT 57 (cW 143 [55,56])] (rs [oJ 8 0] .ret))))))
def vf100:=mF 4 [.tmp (.v 8)] [0,1,2,3,8,9,10,18] HD
def IC : VCode:=rs [oX 4 2 0,oX 5 2 1,oJ 8 0] (sq (rs [oK 9 2 4,oK 10 2 5,oC 11 32 [9,10],oT 12 (nT 11),oP 13 12,fT 14 (ldV 2 4) 13,fM 15 2 13,fT 16 (cC 53 [14,15]) 13,fT 17 (nT 16) 13,vO 18 13 17] (cS 18 (rs [oJ 8 1] .ret))) (sq (rs [oK 19 2 4,oM 20 3,oC 21 77 [19,20],oV 22 (nT 21)] (cS 22 (rs [oJ 8 4] .ret))) (rs [oJ 8 0] .ret)))
def vf101:=mF 4 [.tmp (.v 8)] (iv [0,6] [8,18,22]) IC
def Np : VCode:=rs [oX 2 2 0,oV 4 (.newArr 1)] (sq (rs [oK 5 2 2,oM 6 1,oC 7 77 [5,6],oV 8 (nT 7)] (cS 8 (rs [oV 4 (.newArr 1)] .ret))) (rs [oK 9 2 2,oM 10 1,oC 11 128 [9,10],oN 4 11] .ret))
def vf102:=mF 2 [.tmp (.v 4)] [0,1,2,4,8] Np
def TC : VCode:=rs [oX 3 2 0,oX 4 2 1,oJ 6 0] (sq (.region ⟨[oK 7 2 3,oK 8 2 4,oC 9 35 [8],oM 10 2,oC 11 144 [7,9,10],oN 6 11],[],[(0,2)]⟩) .ret)
def vf103:=mF 3 [.tmp (.v 6)] (iv [0,5] [6]) TC
def No : VCode:=rs [oJ 4 0] (rs [oM 6 0,oM 7 1,oC 8 55 [6,7],oT 9 (.field 3 none (.t 8)),oN 5 9] (sq (rs [oM 10 1,oV 11 (bI .eql 10 1)] (cS 11 (rg [oM 12 5,oT 13 (.minmax false [.t 12,.c (.int .i64 16777216)]),oN 5 13]))) (rs [oM 14 5,oN 4 14] .ret)))
def vf104:=mF 2 [.tmp (.v 4)] [0,1,4,5,11] No
def Nn : VCode:=rs [oX 5 2 0,oX 6 6 1,oV 10 (.alloc [.nil 4,cZ,.nil 4,.nil 1,.nil 1,cZ])] (sq (.region ⟨[oK 15 2 5,oF 16 0 6,oR 17 2 16,oM 18 2,oC 19 58 [18],oM 20 2,oC 21 61 [20],oM 22 3,oM 23 4,oT 24 (.minmax false [.t 23,.c (.int .i64 16777216)]),oC 25 41 [15,17,19,21,22,24],oP 14 25,oE 26 14 0,oE 27 14 1,oE 28 14 2,oV 11 (.alloc [.nil 4,cZ]),oS 2 11 26,oN 12 27,oP 13 28],[],[(0,4),(2,4),(0,6),(2,6),(0,15),(2,15),(4,15),(6,15),(10,15)]⟩) (sq (.region ⟨[oK 29 2 11,oF 30 2 6,oL 31 30,oM 32 12,oT 33 (.append 4 32 (.t 31) (.t 32)),oF 34 0 6,sT 2 34 29,oF 35 2 6,sT 1 35 33],[],[(0,4)]⟩) (rs [oK 36 6 6,oS 6 10 36] .ret)))
def vf105:=mF 5 [.cell (.v 10) (some 6)] (iv [0,7] [10,11,12]) Nn
def TB : VCode:=rs [oJ 4 0] (sq (.region ⟨[oM 8 0,oT 9 (kT 8),oQ 10 0 9,oR 11 2 10,oM 12 0,oT 13 (kT 12),oQ 14 3 13,oQ 15 0 14,oR 16 2 15,oC 17 34 [16],oM 18 1,oC 19 145 [11,17,18],oP 7 19,oE 20 7 0,oE 21 7 1,oN 5 20,oP 6 21],[],[(3,9)]⟩) (rs [oM 22 5,oN 4 22] .ret))
def vf106:=mF 2 [.tmp (.v 4)] [0,1,4,5] TB
def Nm : VCode:=rs [oJ 4 0] (rs [oM 6 0,oT 7 (kT 6),oQ 8 2 7,oL 9 8,oM 10 1,oC 11 54 [9,10],oT 12 (.field 3 none (.t 11)),oN 5 12] (sq (rs [oM 13 1,oV 14 (bI .eql 13 1)] (cS 14 (rg [oM 15 5,oT 16 (.minmax false [.t 15,.c (.int .i64 16777216)]),oN 5 16]))) (rs [oM 17 5,oN 4 17] .ret)))
def vf107:=mF 2 [.tmp (.v 4)] [0,1,4,5,14] Nm
def TA : VCode:=sq (.region ⟨[oM 10 0,oT 11 (kT 10),oQ 12 0 11,oR 13 2 12,oM 14 0,oT 15 (kT 14),oQ 16 3 15,oQ 17 0 16,oR 18 2 17,oM 19 0,oT 20 (kT 19),oQ 21 2 20,oL 22 21,oC 23 57 [22],oM 24 0,oT 25 (kT 24),oQ 26 2 25,oL 27 26,oC 28 60 [27],oM 29 1,oM 30 2,oT 31 (.minmax false [.t 30,.c (.int .i64 16777216)]),oC 32 19 [13,18,23,28,29,31],oP 9 32,oE 33 9 0,oE 34 9 1,oE 35 9 2,oV 6 (.alloc [.nil 4,cZ]),oS 2 6 33,oN 7 34,oP 8 35],[],[(3,13),(8,13),(13,17),(3,18),(8,18),(3,27),(8,27),(12,27),(13,27),(17,27),(18,27),(22,27)]⟩) (rs [oM 36 0,oK 37 2 6,oT 38 (kT 36),oQ 39 3 38,oQ 40 0 39,sT 2 40 37] (rg [oM 41 0,oM 42 0,oT 43 (kT 42),oQ 44 3 43,oQ 45 2 44,oL 46 45,oM 47 7,oT 48 (.append 4 32 (.t 46) (.t 47)),oT 49 (kT 41),oQ 50 3 49,oQ 51 2 50,sT 1 51 48]))
def vf108:=mF 3 [] [0,1,2,6,7] TA
def GP : VCode:=rs [oX 1 6 0,oV 2 (.move cF)] (rs [oF 3 0 1,oL 4 3,oT 5 (.call 146 [.t 4,.c (.int .i64 0),.c (.int .i64 1099511627776)]),oP 6 5,tF 7 1 1 6,tL 8 7 6,tT 9 (.call 146 [.t 8,.c (.int .i64 0),.c (.int .i64 1099511627776)]) 6,oB 10 6 9,oP 11 10,tF 12 2 1 11,tL 13 12 11,tT 14 (.call 146 [.t 13,.c (.int .i64 0),.c (.int .i64 1099511627776)]) 11,oB 15 11 14,oP 16 15,tF 17 3 1 16,tL 18 17 16,tT 19 (.call 146 [.t 18,.c (.int .i64 0),.c (.int .i64 1099511627776)]) 16,oB 20 16 19,oP 21 20,tF 22 4 1 21,tL 23 22 21,tT 24 (.call 146 [.t 23,.c (.int .i64 0),.c (.int .i64 1099511627776)]) 21,oB 25 21 24,oN 2 25] .ret)
def vf109:=mF 1 [.tmp (.v 2)] [0,1,2] GP
def Tz : VCode:=rs [oV 4 (.move cF)] (sq (rs [oM 6 0,oY 7 6,oM 8 1,oY 9 8,oV 10 (bT .neq 7 9)] (cS 10 (rs [oV 4 (.move cF)] .ret))) (sq (rs [oJ 5 0] (.block 0 (.loop (sq (rs [oM 11 5,oM 12 0,oY 13 12,oU 14 11 13] (cE 14 0)) (sq (.block 1 (rs [oM 17 0,oM 18 5,oA 19 1 17 18,oL 20 19,oM 21 1,oM 22 5,oA 23 1 21 22,oL 24 23,oV 25 (bT .neq 20 24)] (cS 25 (rs [oV 4 (.move cF)] .ret)))) (rg [oM 15 5,oI 16 15,oN 5 16])))))) (rs [oV 4 (.move cT)] .ret)))
def vf110:=mF 2 [.tmp (.v 4)] [0,1,4,5,10,14,25] Tz
def Nl : VCode:=rs [oX 2 2 0,oX 3 1 1,oV 4 (.move cF)] (sq (rs [oK 10 2 2,oC 11 86 [10],oV 12 (nT 11)] (cS 12 (rs [oV 4 (.move cF)] .ret))) (rs [oJ 5 0] (sq (rs [oF 13 0 3,oV 14 (.load none (.t 13)),oV 15 (.len (.v 14)),oJ 16 0] (.block 0 (.loop (rs [oV 17 (.bin .lss (.v 16) (.v 15))] (sq (cE 17 0) (sq (.block 1 (rs [oM 18 16,oT 19 (.indexAddr 2 (.v 14) (.v 16)),oR 20 2 19,oV 7 (.alloc [cZ,cZ]),oN 6 18,oS 2 7 20] (sq (rs [oK 22 2 2,oF 23 0 7,oL 24 23,oC 25 87 [22,24],oP 21 25,oE 26 21 0,oE 27 21 1,oT 8 (.alloc [.c (.int .i64 0),.c (.int .i64 0),.c (.str ⟨#[]⟩),.c (.int .i64 0),.c (.int .i64 0),.c (.int .i64 0)]),sT 6 8 26,oN 9 27] (rs [oM 28 9,oT 29 (nT 28),oP 30 29,fM 31 6 30,fT 32 (bI .gtr 31 0) 30,fT 33 (.move (.t 32)) 30,tF 34 0 7 33,tL 35 34 33,tF 36 0 3 33,tL 37 36 33,tM 38 6 33,tT 39 (bI .sub 38 1) 33,tT 40 (.indexAddr 2 (.t 37) (.t 39)) 33,tT 41 (.fieldAddr 0 (.t 40)) 33,tL 42 41 33,tT 43 (bT .leq 35 42) 33,fT 44 (.pick (.t 33) (.t 43) cF) 30,oO 45 30 44,oP 46 45,fF 47 1 7 46,fL 48 47 46,fT 49 (bI .lss 48 1) 46,oO 50 46 49,oP 51 50,fF 52 1 7 51,fL 53 52 51,fM 54 5 51,fT 55 (.bin .sub (cI 16777216) (.t 54)) 51,fT 56 (bT .gtr 53 55) 51,vO 57 51 56] (cS 57 (rs [oV 4 (.move cF)] .ret)))) (rg [oM 58 5,oF 59 1 7,oL 60 59,oT 61 (bT .add 58 60),oN 5 61])))) (rg [oT 62 (.bin .add (.v 16) (cI 1)),oN 16 62]))))))) (rs [oV 4 (.move cT)] .ret))))
def vf111:=mF 2 [.tmp (.v 4)] (iv [0,8,14,4] [9,12,57]) Nl
def Nk : VCode:=rs [oX 2 2 0,oX 3 1 1,oV 4 (.newArr 2),oJ 5 0] (sq (rs [oK 10 2 2,oK 11 1 3,oC 12 111 [10,11],oV 13 (nT 12)] (cS 13 (rs [oV 4 (.newArr 2),oJ 5 1] .ret))) (rs [oV 6 (.newArr 2)] (rs [oK 14 2 2,oK 15 1 3,oC 16 147 [14,15],oN 7 16] (sq (rs [oF 17 0 2,oV 18 (.load none (.t 17)),oV 19 (.len (.v 18)),oJ 20 0] (.block 0 (.loop (rs [oV 21 (.bin .lss (.v 20) (.v 19))] (sq (cE 21 0) (sq (.block 1 (rs [oT 22 (.indexAddr 6 (.v 18) (.v 20)),oR 23 6 22,oV 9 (.alloc [.c (.int .i64 0),.c (.int .i64 0),.c (.str ⟨#[]⟩),.c (.int .i64 0),.c (.int .i64 0),.c (.int .i64 0)]),oS 6 9 23] (rs [oM 24 7,oF 25 0 9,oL 26 25,oT 27 (.lookup false (.int .i64) (.int .i64 0) (.t 24) (.t 26)),oV 28 (bI .gtr 27 0)] (cS 28 (rg [oM 29 6,oF 30 0 9,oL 31 30,oM 32 7,oF 33 0 9,oL 34 33,oT 35 (.lookup false (.int .i64) (.int .i64 0) (.t 32) (.t 34)),oT 36 (.build [aT 31 0 1,aT 35 0 1]),oT 37 (.buildSlice 2 [.t 36]),oT 38 (.append 2 16 (.t 29) (.t 37)),oN 6 38]))))) (rg [oT 39 (.bin .add (.v 20) (cI 1)),oN 20 39]))))))) (rs [oM 40 6,oN 4 40,oJ 5 0] .ret)))))
def vf112:=mF 2 [.tmp (.v 4),.tmp (.v 5)] (iv [0,8,18,4] [9,13,28]) Nk
def Ty : VCode:=rs [oX 4 2 0,oV 8 (.move (.c (.map .bool [] [])))] (rs [oT 18 (.makeMap (.int .i64)),oN 9 18] (sq (rs [oK 19 2 4,oM 20 3,oV 21 (cC 117 [19,20]),oV 22 (.len (.v 21)),oJ 23 0] (.block 0 (.loop (sq (.region ⟨[oV 24 (.bin .lss (.v 23) (.v 22))],[29],[]⟩) (sq (cE 24 0) (sq (.block 1 (rs [oT 25 (.indexAddr 1 (.v 21) (.v 23)),oL 26 25,oN 11 26] (rs [oK 27 2 4,oM 28 11,oC 29 96 [27,28],oN 12 29] (rs [oJ 13 0] (sq (rs [oV 30 (.move (.v 12)),oV 31 (.len (.v 30)),oJ 32 0] (.block 2 (.loop (rs [oV 33 (.bin .lss (.v 32) (.v 31))] (sq (cE 33 2) (sq (.block 3 (rs [oT 34 (.indexAddr 1 (.v 30) (.v 32)),oL 35 34,oN 15 35] (rg [oM 36 13,oM 37 1,oM 38 15,oT 39 (.lookup false (.int .i64) (.int .i64 0) (.t 37) (.t 38)),oM 40 2,oM 41 15,oT 42 (.lookup false (.int .i64) (.int .i64 0) (.t 40) (.t 41)),oT 43 (.minmax false [.t 39,.t 42]),oT 44 (bT .add 36 43),oN 13 44]))) (rg [oT 45 (.bin .add (.v 32) (cI 1)),oN 32 45]))))))) (rs [oV 46 (.move (.v 12)),oV 47 (.len (.v 46)),oJ 48 0] (.block 4 (.loop (rs [oV 49 (.bin .lss (.v 48) (.v 47))] (sq (cE 49 4) (sq (.block 5 (rs [oT 50 (.indexAddr 1 (.v 46) (.v 48)),oL 51 50,oN 17 51] (rs [oM 52 9,oM 53 17,oM 54 1,oM 55 17,oT 56 (.lookup false (.int .i64) (.int .i64 0) (.t 54) (.t 55)),oM 57 2,oM 58 17,oT 59 (.lookup false (.int .i64) (.int .i64 0) (.t 57) (.t 58)),oT 60 (.minmax false [.t 56,.t 59]),oZ (.mapUpdate (.int .i64) (.t 52) (.t 53) (.t 60))] (rs [oM 61 11,oM 62 3,oT 63 (bT .neq 61 62),oP 64 63,tM 65 13 64,tM 66 9 64,tM 67 11 64,tT 68 (.lookup false (.int .i64) (.int .i64 0) (.t 66) (.t 67)) 64,tT 69 (bT .gtr 65 68) 64,vB 70 64 69] (cS 70 (rg [oM 71 9,oM 72 17,oM 73 9,oM 74 17,oT 75 (.lookup false (.int .i64) (.int .i64 0) (.t 73) (.t 74)),oM 76 9,oM 77 11,oT 78 (.lookup false (.int .i64) (.int .i64 0) (.t 76) (.t 77)),oT 79 (bT .mul 75 78),oM 80 13,oT 81 (bT .quo 79 80),oZ (.mapUpdate (.int .i64) (.t 71) (.t 72) (.t 81))])))))) (rg [oT 82 (.bin .add (.v 48) (cI 1)),oN 48 82])))))))))))) (rg [oT 83 (.bin .add (.v 23) (cI 1)),oN 23 83]))))))) (rs [oM 84 9,oN 8 84] .ret)))
def vf113:=mF 4 [.tmp (.v 8)] (iv [0,5,21,4,30,4,46,4] [8,9,11,12,13,15,17,70]) Ty
def Nj : VCode:=rs [oV 4 (.move (.c (.map .bool [] [])))] (rs [oT 8 (.makeMap (.int .i64)),oN 5 8] (sq (rs [oV 9 (.move (.v 0)),oV 10 (.len (.v 9)),oJ 11 0] (.block 0 (.loop (rs [oV 12 (.bin .lss (.v 11) (.v 10))] (sq (cE 12 0) (sq (.block 1 (rs [oT 13 (.indexAddr 3 (.v 9) (.v 11)),oR 14 3 13,oV 7 (.alloc [cZ,cZ,cZ]),oS 3 7 14] (.region ⟨[oM 15 5,oF 16 0 7,oL 17 16,oM 18 1,oK 19 3 7,oT 20 (.callv (.t 18) [.t 19]),oT 21 (.minmax false [.t 20,.c (.int .i64 16777216)]),oZ (.mapUpdate (.int .i64) (.t 15) (.t 17) (.t 21))],[],[(2,5)]⟩))) (rg [oT 22 (.bin .add (.v 11) (cI 1)),oN 11 22]))))))) (rs [oM 23 5,oN 4 23] .ret)))
def vf114:=mF 2 [.tmp (.v 4)] (iv [9,4] [0,1,4,5,7]) Nj
def Tx : VCode:=rs [oX 1 3 0,oJ 2 0] (rs [oF 3 1 1,oL 4 3,oN 2 4] .ret)
def vf115:=mF 1 [.tmp (.v 2)] [0,1,2] Tx
def Tw : VCode:=rs [oX 1 3 0,oJ 2 0] (rs [oF 3 2 1,oL 4 3,oN 2 4] .ret)
def vf116:=mF 1 [.tmp (.v 2)] [0,1,2] Tw
def Ni : VCode:=rs [oX 2 2 0,oV 4 (.newArr 1)] (sq (rs [oK 7 2 2,oM 8 1,oC 9 133 [7,8],oV 10 (bI .lss 9 0)] (cS 10 (rs [oV 4 (.newArr 1)] .ret))) (rs [oV 5 (.newArr 1)] (sq (rs [oM 11 1,oT 12 (.buildSlice 1 [.t 11]),oN 6 12] (.block 0 (.loop (sq (sq (.region ⟨[oM 13 6,oY 14 13,oT 15 (bI .gtr 14 0),oP 16 15,tM 17 5 16,tT 18 (lT 17) 16,tF 19 0 2 16,tL 20 19 16,tT 21 (lT 20) 16,tT 22 (bT .lss 18 21) 16,vB 23 16 22],[34],[]⟩) (cE 23 0)) (.block 1 (rs [oM 24 5,oM 25 6,oT 26 (.indexAddr 1 (.t 25) (cI 0)),oL 27 26,oT 28 (.buildSlice 1 [.t 27]),oT 29 (.append 1 8 (.t 24) (.t 28)),oN 5 29] (.region ⟨[oK 30 2 2,oM 31 6,oT 32 (.indexAddr 1 (.t 31) (cI 0)),oL 33 32,oC 34 96 [30,33],oM 35 6,oT 36 (.slice false 1 (some (cI 1)) none none (.t 35)),oT 37 (.append 1 8 (.t 34) (.t 36)),oN 6 37],[],[(0,6),(2,6),(3,6),(4,6)]⟩))))))) (rs [oM 38 5,oN 4 38] .ret))))
def vf117:=mF 2 [.tmp (.v 4)] [0,1,2,4,5,6,10,23] Ni
def IB : VCode:=rs [oX 3 2 0,oV 6 (.move cF)] (sq (rs [oK 10 2 3,oC 11 86 [10],oV 12 (nT 11)] (cS 12 (rs [oV 6 (.move cF)] .ret))) (rs [oK 13 2 3,oM 14 2,oC 15 117 [13,14],oN 7 15] (rs [oM 16 7,oT 17 (cW 118 [16])] (sq (rs [oM 18 7,oY 19 18,oT 20 (bI .eql 19 0),oP 21 20,fM 22 1 21,fT 23 (lT 22) 21,fM 24 7 21,fT 25 (lT 24) 21,fT 26 (bT .neq 23 25) 21,vO 27 21 26] (cS 27 (rs [oV 6 (.move cF)] .ret))) (sq (rs [oV 28 (.move (.v 1)),oV 29 (.len (.v 28)),oJ 30 0] (.block 0 (.loop (rs [oV 31 (.bin .lss (.v 30) (.v 29))] (sq (cE 31 0) (sq (.block 1 (rs [oM 32 30,oT 33 (.indexAddr 5 (.v 28) (.v 30)),oR 34 5 33,oV 9 (.alloc [cZ,cZ,cZ,cZ,cZ]),oN 8 32,oS 5 9 34] (rs [oF 35 0 9,oL 36 35,oM 37 7,oM 38 8,oA 39 1 37 38,oL 40 39,oT 41 (bT .neq 36 40),oP 42 41,fF 43 1 9 42,fL 44 43 42,fT 45 (cC 120 [44]) 42,fT 46 (nT 45) 42,oO 47 42 46,oP 48 47,fF 49 2 9 48,fL 50 49 48,fT 51 (cC 120 [50]) 48,fT 52 (nT 51) 48,oO 53 48 52,oP 54 53,fF 55 3 9 54,fL 56 55 54,fT 57 (cC 120 [56]) 54,fT 58 (nT 57) 54,oO 59 54 58,oP 60 59,fF 61 4 9 60,fL 62 61 60,fT 63 (bI .lss 62 0) 60,oO 64 60 63,oP 65 64,fF 66 4 9 65,fL 67 66 65,fT 68 (bI .gtr 67 4611686018427387904) 65,vO 69 65 68] (cS 69 (rs [oV 6 (.move cF)] .ret))))) (rg [oT 70 (.bin .add (.v 30) (cI 1)),oN 30 70]))))))) (rs [oV 6 (.move cT)] .ret))))))
def vf119:=mF 3 [.tmp (.v 6)] (iv [0,4,6,4,27,5] [12,69]) IB
def Kq : VCode:=rs [oV 2 (.move cF)] (rs [oM 3 0,oT 4 (bI .geq 3 0),oP 5 4,tM 6 0 5,tT 7 (bI .leq 6 16777216) 5,oB 8 5 7,oN 2 8] .ret)
def vf120:=mF 1 [.tmp (.v 2)] [0,2] Kq
def Tv : VCode:=rs [oV 2 (.move (.c (.map .bool [] [])))] (rs [oT 6 (.makeMap (.int .i64)),oN 3 6] (sq (rs [oV 7 (.move (.v 0)),oV 8 (.len (.v 7)),oJ 9 0] (.block 0 (.loop (rs [oV 10 (.bin .lss (.v 9) (.v 8))] (sq (cE 10 0) (sq (.block 1 (rs [oT 11 (.indexAddr 5 (.v 7) (.v 9)),oR 12 5 11,oV 5 (.alloc [cZ,cZ,cZ,cZ,cZ]),oS 5 5 12] (rg [oM 13 3,oF 14 0 5,oL 15 14,oK 16 5 5,oZ (.mapUpdate (.int .i64) (.t 13) (.t 15) (.t 16))]))) (rg [oT 17 (.bin .add (.v 9) (cI 1)),oN 9 17]))))))) (rs [oM 18 3,oN 2 18] .ret)))
def vf121:=mF 1 [.tmp (.v 2)] (iv [7,4] [0,2,3,5]) Tv
def Tu : VCode:=rs [oK 15 2 2,oM 16 0,oC 17 96 [15,16],oN 8 17] (rs [oT 18 (.load none (.v 3)),oM 19 0,oT 20 (.lookup false (.int .i64) (.agg [.int .i64 0,.int .i64 0,.int .i64 0,.int .i64 0,.int .i64 0]) (.t 18) (.t 19)),oT 21 (.field 3 none (.t 20)),oT 22 (.buildSlice 1 [.t 21]),oN 9 22] (sq (rs [oV 23 (.move (.v 8)),oV 24 (.len (.v 23)),oJ 25 0] (.block 0 (.loop (rs [oV 26 (.bin .lss (.v 25) (.v 24))] (sq (cE 26 0) (sq (.block 1 (rs [oT 27 (.indexAddr 1 (.v 23) (.v 25)),oL 28 27,oN 11 28] (rg [oM 29 9,oK 30 2 2,oT 31 (.load none (.v 3)),oM 32 11,oC 33 123 [30,31,32],oT 34 (.buildSlice 1 [.t 33]),oT 35 (.append 1 8 (.t 29) (.t 34)),oN 9 35]))) (rg [oT 36 (.bin .add (.v 25) (cI 1)),oN 25 36]))))))) (rs [oM 37 1,oM 38 9,oC 39 124 [37,38],oN 12 39] (sq (rs [oM 40 12,oT 41 (.indexAddr 1 (.t 40) (cI 0)),oL 42 41,oV 43 (bI .gtr 42 0)] (cS 43 (.region ⟨[oT 44 (.load none (.v 4)),oM 45 0,oM 46 12,oT 47 (.indexAddr 1 (.t 46) (cI 0)),oL 48 47,oT 49 (.build [aT 45 0 1,aT 48 0 1]),oT 50 (.buildSlice 2 [.t 49]),oT 51 (.append 2 16 (.t 44) (.t 50)),oS 1 4 51],[],[(0,5),(0,6)]⟩))) (rs [oV 52 (.move (.v 8)),oV 53 (.len (.v 52)),oJ 54 0] (.block 2 (.loop (rs [oV 55 (.bin .lss (.v 54) (.v 53))] (sq (cE 55 2) (sq (.block 3 (rs [oM 56 54,oT 57 (.indexAddr 1 (.v 52) (.v 54)),oL 58 57,oN 13 56,oN 14 58] (rs [oM 59 12,oM 60 13,oI 61 60,oA 62 1 59 61,oL 63 62,oV 64 (bI .gtr 63 0)] (cS 64 (rg [oT 65 (.load none (.v 5)),oM 66 14,oM 67 12,oM 68 13,oI 69 68,oA 70 1 67 69,oL 71 70,oT 72 (.callvW (.t 65) [.t 66,.t 71])]))))) (rg [oT 73 (.bin .add (.v 54) (cI 1)),oN 54 73])))))))))))
def vf122:=mF 6 [] (iv [0,6,11,4,23,4,52,4] [8,9,43,64]) Tu
def Tt : VCode:=rs [oX 3 2 0,oJ 6 0] (rs [oM 11 1,oM 12 2,oT 13 (.lookup false (.int .i64) (.agg [.int .i64 0,.int .i64 0,.int .i64 0,.int .i64 0,.int .i64 0]) (.t 11) (.t 12)),oV 7 (.alloc [cZ,cZ,cZ,cZ,cZ]),oS 5 7 13] (rs [oF 14 3 7,oL 15 14,oN 8 15] (sq (rs [oK 16 2 3,oM 17 2,oV 18 (cC 96 [16,17]),oV 19 (.len (.v 18)),oJ 20 0] (.block 0 (.loop (rs [oV 21 (.bin .lss (.v 20) (.v 19))] (sq (cE 21 0) (sq (.block 1 (rs [oT 22 (.indexAddr 1 (.v 18) (.v 20)),oL 23 22,oN 10 23] (rg [oM 24 8,oK 25 2 3,oM 26 1,oM 27 10,oC 28 123 [25,26,27],oT 29 (bT .add 24 28),oN 8 29]))) (rg [oT 30 (.bin .add (.v 20) (cI 1)),oN 20 30]))))))) (rs [oF 31 1 7,oL 32 31,oF 33 2 7,oL 34 33,oT 35 (bT .sub 32 34),oT 36 (.minmax true [.c (.int .i64 0),.t 35]),oF 37 4 7,oL 38 37,oM 39 8,oT 40 (.minmax false [.t 36,.t 38,.t 39]),oN 6 40] .ret))))
def vf123:=mF 3 [.tmp (.v 6)] (iv [0,4,18,4] [6,7,8,10]) Tt
def Ts : VCode:=rs [oV 4 (.newArr 1)] (rs [oJ 5 0] (sq (rs [oV 14 (.move (.v 1)),oV 15 (.len (.v 14)),oJ 16 0] (.block 0 (.loop (rs [oV 17 (.bin .lss (.v 16) (.v 15))] (sq (cE 17 0) (sq (.block 1 (rs [oT 18 (.indexAddr 1 (.v 14) (.v 16)),oL 19 18,oN 7 19] (rg [oM 20 5,oM 21 7,oT 22 (bT .add 20 21),oN 5 22]))) (rg [oT 23 (.bin .add (.v 16) (cI 1)),oN 16 23]))))))) (rs [oM 24 1,oY 25 24,oT 26 (.make 1 8 (.int .i64 0) (.t 25)),oN 8 26] (sq (rs [oM 27 5,oV 28 (bI .eql 27 0)] (cS 28 (rs [oM 29 8,oN 4 29] .ret))) (rs [oM 30 0,oN 9 30] (sq (rs [oV 31 (.move (.v 1)),oV 32 (.len (.v 31)),oJ 33 0] (.block 2 (.loop (rs [oV 34 (.bin .lss (.v 33) (.v 32))] (sq (cE 34 2) (sq (.block 3 (rs [oM 35 33,oT 36 (.indexAddr 1 (.v 31) (.v 33)),oL 37 36,oN 10 35,oN 11 37] (rs [oM 38 8,oM 39 10,oM 40 0,oM 41 11,oT 42 (bT .mul 40 41),oM 43 5,oT 44 (bT .quo 42 43),oA 45 1 38 39,sT 1 45 44] (rg [oM 46 9,oM 47 8,oM 48 10,oA 49 1 47 48,oL 50 49,oT 51 (bT .sub 46 50),oN 9 51])))) (rg [oT 52 (.bin .add (.v 33) (cI 1)),oN 33 52]))))))) (sq (rs [oV 53 (.move (.v 1)),oV 54 (.len (.v 53)),oJ 55 0] (.block 4 (.loop (rs [oV 56 (.bin .lss (.v 55) (.v 54))] (sq (cE 56 4) (sq (.block 5 (rs [oM 57 55,oT 58 (.indexAddr 1 (.v 53) (.v 55)),oL 59 58,oN 12 57,oN 13 59] (rs [oM 60 9,oT 61 (bI .gtr 60 0),oP 62 61,tM 63 8 62,tM 64 12 62,tT 65 (.indexAddr 1 (.t 63) (.t 64)) 62,tL 66 65 62,tM 67 13 62,tT 68 (bT .lss 66 67) 62,vB 69 62 68] (cS 69 (rs [oM 70 8,oM 71 12,oA 72 1 70 71,oL 73 72,oI 74 73,oA 75 1 70 71,sT 1 75 74] (rg [oM 76 9,oT 77 (bI .sub 76 1),oN 9 77])))))) (rg [oT 78 (.bin .add (.v 55) (cI 1)),oN 55 78]))))))) (rs [oM 79 8,oN 4 79] .ret))))))))
def vf124:=mF 2 [.tmp (.v 4)] (iv [7,11,31,4,53,4] [0,1,4,5,28,69]) Ts
def zcG : VCode:=rs [oX 2 2 0,oX 3 2 1,oJ 4 0] (rs [oF 5 0 2,oL 6 5,oF 7 0 3,oL 8 7,oT 9 (bT .sub 6 8),oN 4 9] .ret)
def vf126:=mF 2 [.tmp (.v 4)] (iv [0,5] []) zcG
def Nh : VCode:=rs [oX 2 2 0,oV 4 (.move cF)] (rs [oF 8 0 2,oL 9 8,oM 10 1,oA 11 6 9 10,oR 12 6 11,oV 5 (.alloc [.c (.int .i64 0),.c (.int .i64 0),.c (.str ⟨#[]⟩),.c (.int .i64 0),.c (.int .i64 0),.c (.int .i64 0)]),oS 6 5 12] (sq (rs [oF 13 4 5,oL 14 13,oT 15 (bI .neq 14 0),oP 16 15,tF 17 4 5 16,tL 18 17 16,tT 19 (bI .neq 18 1) 16,oB 20 16 19,oP 21 20,fF 22 3 5 21,fL 23 22 21,fT 24 (bI .lss 23 0) 21,oO 25 21 24,oP 26 25,fF 27 3 5 26,fL 28 27 26,fT 29 (bI .gtr 28 31) 26,oO 30 26 29,oP 31 30,fF 32 5 5 31,fL 33 32 31,fT 34 (bI .lss 33 0) 31,oO 35 31 34,oP 36 35,fF 37 5 5 36,fL 38 37 36,fT 39 (bI .gtr 38 1048576) 36,vO 40 36 39] (cS 40 (rs [oV 4 (.move cF)] .ret))) (sq (rs [oM 41 1,oV 42 (bI .eql 41 0)] (cS 42 (rs [oF 43 0 5,oL 44 43,oT 45 (bI .eql 44 1),oP 46 45,tF 47 1 5 46,tL 48 47 46,tT 49 (bI .eql 48 0) 46,oB 50 46 49,oP 51 50,tF 52 2 5 51,tL 53 52 51,tT 54 (.bin .eql (.t 53) (.c (.str ⟨#[]⟩))) 51,oB 55 51 54,oP 56 55,tF 57 4 5 56,tL 58 57 56,tT 59 (bI .eql 58 0) 56,oB 60 56 59,oN 4 60] .ret))) (sq (rs [oF 61 0 5,oL 62 61,oF 63 0 2,oL 64 63,oM 65 1,oT 66 (bI .sub 65 1),oA 67 6 64 66,oQ 68 0 67,oL 69 68,oT 70 (bT .leq 62 69),oP 71 70,fF 72 2 5 71,fL 73 72 71,fT 74 (cC 76 [73]) 71,fT 75 (nT 74) 71,vO 76 71 75] (cS 76 (rs [oV 4 (.move cF)] .ret))) (rs [oV 6 (.move cF)] (sq (rs [oJ 7 0] (.block 0 (.loop (sq (rs [oM 77 7,oM 78 1,oU 79 77 78] (cE 79 0)) (sq (.block 1 (rs [oM 82 6,oP 83 82,fF 84 0 2 83,fL 85 84 83,fM 86 7 83,fT 87 (.indexAddr 6 (.t 85) (.t 86)) 83,fT 88 (.fieldAddr 0 (.t 87)) 83,fL 89 88 83,fF 90 1 5 83,fL 91 90 83,fT 92 (bT .eql 89 91) 83,oO 93 83 92,oN 6 93] (rs [oF 94 0 2,oL 95 94,oM 96 7,oA 97 6 95 96,oQ 98 1 97,oL 99 98,oF 100 1 5,oL 101 100,oT 102 (bT .eql 99 101),oP 103 102,tF 104 0 2 103,tL 105 104 103,tM 106 7 103,tT 107 (.indexAddr 6 (.t 105) (.t 106)) 103,tT 108 (.fieldAddr 2 (.t 107)) 103,tL 109 108 103,tF 110 2 5 103,tL 111 110 103,tT 112 (bT .eql 109 111) 103,vB 113 103 112] (cS 113 (rs [oV 4 (.move cF)] .ret))))) (rg [oM 80 7,oI 81 80,oN 7 81])))))) (rs [oM 114 6,oN 4 114] .ret)))))))
def vf127:=mF 2 [.tmp (.v 4)] [0,1,2,4,5,6,7,40,42,76,79,113] Nh
def Tq : VCode:=rs [oX 2 2 0,oV 4 (.newArr 1)] (rs [oV 5 (.newArr 1)] (sq (rs [oF 7 0 2,oL 8 7,oY 9 8,oT 10 (bI .sub 9 1),oN 6 10] (.block 0 (.loop (sq (rs [oM 11 6,oV 12 (bI .geq 11 0)] (cE 12 0)) (sq (.block 1 (rs [oF 15 0 2,oL 16 15,oM 17 6,oA 18 6 16 17,oQ 19 0 18,oL 20 19,oM 21 1,oV 22 (bT .eql 20 21)] (cS 22 (rs [oM 23 5,oM 24 1,oT 25 (.buildSlice 1 [.t 24]),oT 26 (.append 1 8 (.t 23) (.t 25)),oN 5 26] (rg [oF 27 0 2,oL 28 27,oM 29 6,oA 30 6 28 29,oQ 31 1 30,oL 32 31,oN 1 32]))))) (rg [oM 13 6,oT 14 (bI .sub 13 1),oN 6 14])))))) (rs [oM 33 5,oN 4 33] .ret)))
def vf128:=mF 2 [.tmp (.v 4)] [0,1,2,4,5,6,12,22] Tq
def Ng : VCode:=rs [oX 2 2 0,oV 4 (.alloc [.c (.int .i64 0),.c (.int .i64 0),.c (.str ⟨#[]⟩),.c (.int .i64 0),.c (.int .i64 0),.c (.int .i64 0)]),oV 5 (.move cF)] (sq (rs [oK 7 2 2,oC 8 75 [7],oV 9 (nT 8)] (cS 9 (rs [oT 10 (.build [zZ,zZ,.z (.c (.str ⟨#[]⟩)),zZ,zZ,zZ]),oS 6 4 10,oV 5 (.move cF)] .ret))) (sq (rs [oJ 6 0] (.block 0 (.loop (sq (rs [oM 11 6,oF 12 0 2,oL 13 12,oY 14 13,oU 15 11 14] (cE 15 0)) (sq (.block 1 (rs [oF 18 0 2,oL 19 18,oM 20 6,oA 21 6 19 20,oQ 22 0 21,oL 23 22,oM 24 1,oV 25 (bT .eql 23 24)] (cS 25 (rs [oF 26 0 2,oL 27 26,oM 28 6,oA 29 6 27 28,oR 30 6 29,oS 6 4 30,oV 5 (.move cT)] .ret)))) (rg [oM 16 6,oI 17 16,oN 6 17])))))) (rs [oT 31 (.build [zZ,zZ,.z (.c (.str ⟨#[]⟩)),zZ,zZ,zZ]),oS 6 4 31,oV 5 (.move cF)] .ret)))
def vf129:=mF 2 [.cell (.v 4) (some 6),.tmp (.v 5)] [0,1,2,4,5,6,9,15,25] Ng
def Nf : VCode:=rs [oX 2 2 0,oV 4 (.newArr 1)] (sq (rs [oK 8 2 2,oM 9 1,oC 10 77 [8,9],oV 11 (nT 10)] (cS 11 (rs [oV 4 (.newArr 1)] .ret))) (rs [oM 12 1,oT 13 (.buildSlice 1 [.t 12]),oN 5 13] (rs [oK 14 2 2,oM 15 1,oC 16 80 [14,15],oN 6 16] (sq (rs [oJ 7 0] (.block 0 (.loop (sq (sq (.region ⟨[oM 17 7,oM 18 6,oY 19 18,oU 20 17 19],[29],[]⟩) (cE 20 0)) (sq (.block 1 (rg [oM 23 5,oK 24 2 2,oM 25 6,oM 26 7,oA 27 1 25 26,oL 28 27,oC 29 130 [24,28],oT 30 (.append 1 8 (.t 23) (.t 29)),oN 5 30])) (rg [oM 21 7,oI 22 21,oN 7 22])))))) (rs [oM 31 5,oN 4 31] .ret)))))
def vf130:=mF 2 [.tmp (.v 4)] [0,1,2,4,5,6,7,11,20] Nf
def Tp : VCode:=rs [oX 1 6 0,oV 2 (.move cF)] (rs [oF 3 0 1,oL 4 3,oT 5 (bI .eql 4 1),oP 6 5,tF 7 1 1 6,tL 8 7 6,tT 9 (bI .eql 8 0) 6,oB 10 6 9,oP 11 10,tF 12 2 1 11,tL 13 12 11,tT 14 (.bin .eql (.t 13) (.c (.str ⟨#[]⟩))) 11,oB 15 11 14,oP 16 15,tF 17 4 1 16,tL 18 17 16,tT 19 (bI .eql 18 0) 16,oB 20 16 19,oN 2 20] .ret)
def vf131:=mF 1 [.tmp (.v 2)] [0,1,2] Tp
def To : VCode:=rs [oX 3 6 1,oV 4 (.move cF)] (sq (rs [oF 8 0 3,oL 9 8,oM 10 0,oM 11 0,oY 12 11,oT 13 (bI .sub 12 1),oA 14 6 10 13,oQ 15 0 14,oL 16 15,oT 17 (bT .leq 9 16),oP 18 17,fF 19 2 3 18,fL 20 19 18,fT 21 (cC 151 [20]) 18,fT 22 (nT 21) 18,oO 23 18 22,oP 24 23,fF 25 4 3 24,fL 26 25 24,fT 27 (bI .neq 26 0) 24,fT 28 (.move (.t 27)) 24,tF 29 4 3 28,tL 30 29 28,tT 31 (bI .neq 30 1) 28,fT 32 (.pick (.t 28) (.t 31) cF) 24,vO 33 24 32] (cS 33 (rs [oV 4 (.move cF)] .ret))) (rs [oV 5 (.move cF)] (sq (rs [oV 34 (.move (.v 0)),oV 35 (.len (.v 34)),oJ 36 0] (.block 0 (.loop (rs [oV 37 (.bin .lss (.v 36) (.v 35))] (sq (cE 37 0) (sq (.block 1 (rs [oT 38 (.indexAddr 6 (.v 34) (.v 36)),oR 39 6 38,oV 7 (.alloc [.c (.int .i64 0),.c (.int .i64 0),.c (.str ⟨#[]⟩),.c (.int .i64 0),.c (.int .i64 0),.c (.int .i64 0)]),oS 6 7 39] (rs [oM 40 5,oP 41 40,fF 42 0 7 41,fL 43 42 41,fF 44 1 3 41,fL 45 44 41,fT 46 (bT .eql 43 45) 41,oO 47 41 46,oN 5 47] (rs [oF 48 1 7,oL 49 48,oF 50 1 3,oL 51 50,oT 52 (bT .eql 49 51),oP 53 52,tF 54 2 7 53,tL 55 54 53,tF 56 2 3 53,tL 57 56 53,tT 58 (bT .eql 55 57) 53,vB 59 53 58] (cS 59 (rs [oV 4 (.move cF)] .ret)))))) (rg [oT 60 (.bin .add (.v 36) (cI 1)),oN 36 60]))))))) (rs [oM 61 5,oN 4 61] .ret))))
def vf132:=mF 2 [.tmp (.v 4)] (iv [33,5] [0,1,3,4,5,7,59]) To
def Tn : VCode:=rs [oX 2 2 0,oX 3 1 1,oJ 4 0] (rs [oF 5 0 2,oL 6 5,oT 7 (.makeFunc 153 [.v 3]),oC 8 152 [6,7],oN 4 8] .ret)
def vf133:=mF 2 [.tmp (.v 4)] (iv [0,5] []) Tn
def Tm : VCode:=rs [oX 2 2 0,oV 4 (.newArr 1)] (rs [oV 5 (.newArr 1)] (sq (rs [oF 8 0 2,oL 9 8,oV 10 (lT 9),oJ 11 0] (.block 0 (.loop (rs [oV 12 (.bin .lss (.v 11) (.v 10))] (sq (cE 12 0) (sq (.block 1 (rs [oK 14 2 2,oM 15 1,oC 16 87 [14,15],oP 13 16,oE 17 13 0,oE 18 13 1,oV 6 (.alloc [.c (.int .i64 0),.c (.int .i64 0),.c (.str ⟨#[]⟩),.c (.int .i64 0),.c (.int .i64 0),.c (.int .i64 0)]),oS 6 6 17,oN 7 18] (sq (rs [oM 19 7,oV 20 (nT 19)] (cS 20 (.exit 0))) (rs [oM 21 5,oM 22 1,oT 23 (.buildSlice 1 [.t 22]),oT 24 (.append 1 8 (.t 21) (.t 23)),oN 5 24] (rg [oF 25 1 6,oL 26 25,oN 1 26]))))) (rg [oT 27 (.bin .add (.v 11) (cI 1)),oN 11 27]))))))) (rs [oM 28 5,oN 4 28] .ret)))
def vf134:=mF 2 [.tmp (.v 4)] [0,1,2,4,5,6,7,10,11,12,20] Tm
def Tl : VCode:=rs [oJ 4 0] (sq (rs [oJ 5 0] (.block 0 (.loop (sq (rs [oM 6 5,oM 7 0,oY 8 7,oU 9 6 8] (cE 9 0)) (sq (.block 1 (rs [oM 12 0,oM 13 5,oA 14 2 12 13,oQ 15 0 14,oL 16 15,oM 17 1,oV 18 (bT .eql 16 17)] (cS 18 (rs [oM 19 0,oM 20 5,oA 21 2 19 20,oQ 22 1 21,oL 23 22,oN 4 23] .ret)))) (rg [oM 10 5,oI 11 10,oN 5 11])))))) (rs [oJ 4 4611686018427387904] .ret))
def vf135:=mF 2 [.tmp (.v 4)] [0,1,4,5,9,18] Tl
def Kp : VCode:=rs [oX 2 2 0,oX 3 1 1,oV 4 (.move cF)] (sq (rs [oK 7 2 2,oC 8 75 [7],oT 9 (nT 8),oP 10 9,fT 11 (ldV 2 2) 10,fF 12 0 3 10,fL 13 12 10,fT 14 (.call 154 [.t 11,.t 13,.c (.int .i64 1)]) 10,fT 15 (nT 14) 10,vO 16 10 15] (cS 16 (rs [oV 4 (.move cF)] .ret))) (rs [oJ 5 0] (sq (rs [oJ 6 0] (.block 0 (.loop (sq (rs [oM 17 6,oF 18 0 3,oL 19 18,oY 20 19,oU 21 17 20] (cE 21 0)) (sq (.block 1 (rg [oM 24 5,oF 25 0 3,oL 26 25,oM 27 6,oA 28 2 26 27,oQ 29 1 28,oL 30 29,oT 31 (bT .add 24 30),oN 5 31])) (rg [oM 22 6,oI 23 22,oN 6 23])))))) (rs [oM 32 5,oT 33 (bI .leq 32 16777216),oN 4 33] .ret))))
def vf136:=mF 2 [.tmp (.v 4)] (iv [0,7] [16,21]) Kp
def Tk : VCode:=rs [oV 2 (.newArr 1)] (rs [oV 3 (.newArr 1)] (sq (rs [oJ 4 0] (.block 0 (.loop (sq (rs [oM 6 4,oM 7 0,oY 8 7,oU 9 6 8] (cE 9 0)) (sq (.block 1 (rs [oM 12 3,oY 13 12,oN 5 13] (sq (.block 2 (.loop (sq (rs [oM 14 5,oT 15 (bI .gtr 14 0),oP 16 15,tM 17 0 16,tM 18 4 16,tT 19 (.indexAddr 1 (.t 17) (.t 18)) 16,tL 20 19 16,tM 21 3 16,tM 22 5 16,tT 23 (bI .sub 22 1) 16,tT 24 (.indexAddr 1 (.t 21) (.t 23)) 16,tL 25 24 16,tT 26 (bT .lss 20 25) 16,vB 27 16 26] (cE 27 2)) (.block 3 (rg [oM 28 5,oT 29 (bI .sub 28 1),oN 5 29]))))) (sq (rs [oM 30 5,oT 31 (bI .gtr 30 0),oP 32 31,tM 33 3 32,tM 34 5 32,tT 35 (bI .sub 34 1) 32,tT 36 (.indexAddr 1 (.t 33) (.t 35)) 32,tL 37 36 32,tM 38 0 32,tM 39 4 32,tT 40 (.indexAddr 1 (.t 38) (.t 39)) 32,tL 41 40 32,tT 42 (bT .eql 37 41) 32,vB 43 32 42] (cS 43 (.exit 1))) (rs [oM 44 3,oT 45 (.buildSlice 1 [.c (.int .i64 0)]),oT 46 (.append 1 8 (.t 44) (.t 45)),oN 3 46] (sq (.region ⟨[oM 47 3,oM 48 5,oI 49 48,oT 50 (.slice false 1 (some (.t 49)) none none (.t 47)),oM 51 3,oM 52 5,oT 53 (.slice false 1 (some (.t 52)) none none (.t 51)),oT 54 (.copy 1 (.t 50) (.t 53))],[],[(3,6)]⟩) (rg [oM 55 3,oM 56 5,oM 57 0,oM 58 4,oA 59 1 57 58,oL 60 59,oA 61 1 55 56,sT 1 61 60]))))))) (rg [oM 10 4,oI 11 10,oN 4 11])))))) (rs [oM 62 3,oN 2 62] .ret)))
def vf137:=mF 1 [.tmp (.v 2)] [0,2,3,4,5,9,27,43] Tk
def Ko : VCode:=rs [oX 6 2 0,oX 7 1 1,oJ 12 0] (sq (rs [oM 20 4,oM 21 3,oV 22 (bT .eql 20 21)] (cS 22 (rs [oJ 12 0] .ret))) (rs [oK 24 2 6,oM 25 4,oC 26 129 [24,25],oP 23 26,oE 27 23 0,oE 28 23 1,oV 13 (.alloc [.c (.int .i64 0),.c (.int .i64 0),.c (.str ⟨#[]⟩),.c (.int .i64 0),.c (.int .i64 0),.c (.int .i64 0)]),oS 6 13 27,oP 14 28] (rs [oK 29 2 6,oK 30 1 7,oM 31 2,oM 32 4,oM 33 5,oC 34 155 [29,30,31,32,33],oN 15 34] (sq (rs [oF 35 1 13,oL 36 35,oM 37 3,oV 38 (bT .eql 36 37)] (cS 38 (rs [oM 39 15,oN 12 39] .ret))) (rs [oK 40 2 6,oK 41 1 7,oM 42 2,oM 43 3,oF 44 1 13,oL 45 44,oM 46 5,oC 47 138 [40,41,42,43,45,46],oN 16 47] (rs [oJ 17 0] (rs [oK 48 2 6,oF 49 1 13,oL 50 49,oC 51 80 [48,50],oN 18 51] (sq (rs [oJ 19 0] (.block 0 (.loop (sq (rs [oM 52 19,oM 53 18,oY 54 53,oU 55 52 54] (cE 55 0)) (sq (.block 1 (rg [oM 58 17,oK 59 2 6,oK 60 1 7,oM 61 2,oM 62 18,oM 63 19,oA 64 1 62 63,oL 65 64,oM 66 5,oC 67 155 [59,60,61,65,66],oT 68 (bT .add 58 67),oN 17 68])) (rg [oM 56 19,oI 57 56,oN 19 57])))))) (sq (rs [oM 69 17,oM 70 16,oV 71 (bT .leq 69 70)] (cS 71 (rs [oM 72 15,oN 12 72] .ret))) (rs [oM 73 15,oM 74 16,oT 75 (bT .mul 73 74),oM 76 17,oT 77 (bT .quo 75 76),oN 12 77] .ret))))))))))
def vf138:=mF 6 [.tmp (.v 12)] (iv [0,8,15,5] [12,13,22,38,55,71]) Ko
def IA : VCode:=rs [oX 3 2 0,oV 6 (.move cF)] (sq (rs [oK 10 2 3,oC 11 75 [10],oT 12 (nT 11),oP 13 12,fT 14 (ldV 2 3) 13,fM 15 2 13,fT 16 (cC 77 [14,15]) 13,fT 17 (nT 16) 13,vO 18 13 17] (cS 18 (rs [oV 6 (.move cF)] .ret))) (rs [oK 19 2 3,oM 20 2,oC 21 130 [19,20],oC 22 137 [21],oN 7 22] (sq (rs [oM 23 1,oY 24 23,oM 25 7,oY 26 25,oV 27 (bT .neq 24 26)] (cS 27 (rs [oV 6 (.move cF)] .ret))) (sq (rs [oJ 8 0] (.block 0 (.loop (sq (rs [oM 28 8,oM 29 1,oY 30 29,oU 31 28 30] (cE 31 0)) (sq (.block 1 (rs [oM 34 1,oM 35 8,oA 36 5 34 35,oR 37 5 36,oV 9 (.alloc [cZ,cZ,cZ,cZ,cZ]),oS 5 9 37] (rs [oF 38 0 9,oL 39 38,oM 40 7,oM 41 8,oA 42 1 40 41,oL 43 42,oT 44 (bT .neq 39 43),oP 45 44,fF 46 1 9 45,fL 47 46 45,fT 48 (bI .lss 47 0) 45,oO 49 45 48,oP 50 49,fF 51 1 9 50,fL 52 51 50,fT 53 (bI .gtr 52 16777216) 50,oO 54 50 53,oP 55 54,fF 56 2 9 55,fL 57 56 55,fT 58 (bI .lss 57 0) 55,oO 59 55 58,oP 60 59,fF 61 2 9 60,fL 62 61 60,fT 63 (bI .gtr 62 16777216) 60,oO 64 60 63,oP 65 64,fF 66 3 9 65,fL 67 66 65,fT 68 (bI .lss 67 0) 65,oO 69 65 68,oP 70 69,fF 71 3 9 70,fL 72 71 70,fT 73 (bI .gtr 72 16777216) 70,oO 74 70 73,oP 75 74,fF 76 4 9 75,fL 77 76 75,fT 78 (bI .lss 77 0) 75,oO 79 75 78,oP 80 79,fF 81 4 9 80,fL 82 81 80,fT 83 (bI .gtr 82 4611686018427387904) 80,vO 84 80 83] (cS 84 (rs [oV 6 (.move cF)] .ret))))) (rg [oM 32 8,oI 33 32,oN 8 33])))))) (rs [oV 6 (.move cT)] .ret)))))
def vf139:=mF 3 [.tmp (.v 6)] (iv [0,4,6,4] [18,27,31,84]) IA
def Tj : VCode:=rs [oX 5 2 0] (rs [oK 15 2 5,oM 16 2,oC 17 80 [15,16],oN 10 17] (rs [oM 18 1,oM 19 2,oC 20 156 [18,19],oT 21 (.field 3 none (.t 20)),oT 22 (.buildSlice 1 [.t 21]),oN 11 22] (sq (rs [oJ 12 0] (.block 0 (.loop (sq (rs [oM 23 12,oM 24 10,oY 25 24,oU 26 23 25] (cE 26 0)) (sq (.block 1 (rg [oM 29 11,oK 30 2 5,oM 31 1,oM 32 10,oM 33 12,oA 34 1 32 33,oL 35 34,oC 36 141 [30,31,35],oT 37 (.buildSlice 1 [.t 36]),oT 38 (.append 1 8 (.t 29) (.t 37)),oN 11 38])) (rg [oM 27 12,oI 28 27,oN 12 28])))))) (rs [oM 39 3,oM 40 11,oC 41 157 [39,40],oN 13 41] (rs [oM 42 4,oM 43 2,oT 44 (.lookup false (.int .i64) (.int .i64 0) (.t 42) (.t 43)),oM 45 13,oT 46 (.indexAddr 1 (.t 45) (cI 0)),oL 47 46,oT 48 (bT .add 44 47),oZ (.mapUpdate (.int .i64) (.t 42) (.t 43) (.t 48))] (rs [oJ 14 0] (.block 2 (.loop (sq (rs [oM 49 14,oM 50 10,oY 51 50,oU 52 49 51] (cE 52 2)) (sq (.block 3 (rg [oK 55 2 5,oM 56 1,oM 57 10,oM 58 14,oA 59 1 57 58,oL 60 59,oM 61 13,oM 62 14,oI 63 62,oA 64 1 61 63,oL 65 64,oM 66 4,oT 67 (cW 140 [55,56,60,65,66])])) (rg [oM 53 14,oI 54 53,oN 14 54])))))))))))
def vf140:=mF 5 [] (iv [0,6,10,5] [26,52]) Tj
def Ti : VCode:=rs [oX 3 2 0,oJ 6 0] (rs [oM 11 1,oM 12 2,oC 13 156 [11,12],oV 7 (.alloc [cZ,cZ,cZ,cZ,cZ]),oS 5 7 13] (rs [oF 14 3 7,oL 15 14,oN 8 15] (rs [oK 16 2 3,oM 17 2,oC 18 80 [16,17],oN 9 18] (sq (rs [oJ 10 0] (.block 0 (.loop (sq (rs [oM 19 10,oM 20 9,oY 21 20,oU 22 19 21] (cE 22 0)) (sq (.block 1 (rg [oM 25 8,oK 26 2 3,oM 27 1,oM 28 9,oM 29 10,oA 30 1 28 29,oL 31 30,oC 32 141 [26,27,31],oT 33 (bT .add 25 32),oN 8 33])) (rg [oM 23 10,oI 24 23,oN 10 24])))))) (rs [oM 34 8,oF 35 4 7,oL 36 35,oF 37 1 7,oL 38 37,oF 39 2 7,oL 40 39,oT 41 (bT .sub 38 40),oT 42 (.minmax true [.c (.int .i64 0),.t 41]),oT 43 (.minmax false [.t 34,.t 36,.t 42]),oN 6 43] .ret)))))
def vf141:=mF 3 [.tmp (.v 6)] (iv [0,4,6,5] [22]) Ti
def Th : VCode:=rs [oJ 6 0] (sq (rs [oM 11 0,oT 12 (kT 11),oQ 13 0 12,oR 14 2 13,oM 15 1,oV 16 (cC 134 [14,15]),oV 17 (.len (.v 16)),oJ 18 0] (.block 0 (.loop (rs [oV 19 (.bin .lss (.v 18) (.v 17))] (sq (cE 19 0) (sq (.block 1 (rs [oT 20 (.indexAddr 1 (.v 16) (.v 18)),oL 21 20,oN 8 21] (rs [oM 22 0,oM 23 8,oT 24 (cW 107 [22,23]),oN 9 24] (rs [oM 25 0,oM 26 8,oT 27 (cW 106 [25,26]),oM 28 2,oT 29 (bT .add 27 28),oM 30 9,oT 31 (bT .sub 29 30),oN 10 31] (rs [oM 32 10,oV 33 (bI .gtr 32 0)] (.cond (.v 33) (rs [oM 34 0,oM 35 0,oT 36 (kT 35),oQ 37 3 36,oQ 38 3 37,oL 39 38,oM 40 8,oT 41 (.buildSlice 1 [.t 40]),oT 42 (.append 1 8 (.t 39) (.t 41)),oT 43 (kT 34),oQ 44 3 43,oQ 45 3 44,sT 1 45 42] (rs [oM 46 0,oM 47 8,oM 48 10,oT 49 (cW 108 [46,47,48])] (rs [oM 50 0,oM 51 8,oT 52 (cW 106 [50,51]),oM 53 2,oT 54 (bT .add 52 53),oM 55 9,oV 56 (bT .gtr 54 55)] (cS 56 (rs [oM 57 0,oM 58 8,oT 59 (kT 57),oQ 60 3 59,oQ 61 5 60,sT 1 61 58] (rs [oJ 6 20] .ret)))))) .skip)))))) (rg [oT 62 (.bin .add (.v 18) (cI 1)),oN 18 62]))))))) (rs [oJ 6 0] .ret))
def vf142:=mF 3 [.tmp (.v 6)] (iv [16,4] [0,1,2,6,8,9,10,33,56]) Th
def Tg : VCode:=rs [oM 8 0,oT 9 (kT 8),oQ 10 0 9,oR 11 2 10,oM 12 1,oV 13 (cC 134 [11,12]),oV 14 (.len (.v 13)),oJ 15 0] (.block 0 (.loop (rs [oV 16 (.bin .lss (.v 15) (.v 14))] (sq (cE 16 0) (sq (.block 1 (rs [oT 17 (.indexAddr 1 (.v 13) (.v 15)),oL 18 17,oN 5 18] (rs [oM 19 0,oT 20 (kT 19),oQ 21 2 20,oL 22 21,oM 23 5,oC 24 54 [22,23],oT 25 (.field 2 none (.t 24)),oN 6 25] (rs [oM 26 0,oM 27 5,oT 28 (cW 106 [26,27]),oM 29 6,oT 30 (bT .sub 28 29),oN 7 30] (rs [oM 31 7,oV 32 (bI .gtr 31 0)] (.cond (.v 32) (rs [oM 33 0,oM 34 5,oM 35 7,oT 36 (cW 108 [33,34,35])] (rs [oM 37 0,oM 38 5,oT 39 (cW 106 [37,38]),oM 40 6,oV 41 (bT .gtr 39 40)] (cS 41 (rg [oM 42 0,oM 43 0,oT 44 (kT 43),oQ 45 3 44,oQ 46 4 45,oL 47 46,oM 48 5,oT 49 (.buildSlice 1 [.t 48]),oT 50 (.append 1 8 (.t 47) (.t 49)),oT 51 (kT 42),oQ 52 3 51,oQ 53 4 52,sT 1 53 50])))) .skip)))))) (rg [oT 54 (.bin .add (.v 15) (cI 1)),oN 15 54]))))))
def vf143:=mF 2 [] (iv [13,4] [0,1,5,6,7,32,41]) Tg
def Tf : VCode:=rs [oX 3 2 0,oX 4 1 1,oJ 6 0] (rs [oJ 7 0] (rs [oK 10 2 3,oM 11 2,oC 12 130 [10,11],oN 8 12] (sq (rs [oJ 9 0] (.block 0 (.loop (sq (rs [oM 13 9,oM 14 8,oY 15 14,oU 16 13 15] (cE 16 0)) (sq (.block 1 (rg [oM 19 7,oK 20 1 4,oM 21 8,oM 22 9,oA 23 1 21 22,oL 24 23,oC 25 158 [20,24],oT 26 (bT .add 19 25),oN 7 26])) (rg [oM 17 9,oI 18 17,oN 9 18])))))) (rs [oM 27 7,oN 6 27] .ret))))
def vf144:=mF 3 [.tmp (.v 6)] (iv [0,5,6,4] [16]) Tf
def Nc : VCode:=rs [oX 3 2 0,oX 4 1 1,oJ 6 0,oJ 7 0] (sq (rs [oK 9 2 3,oK 10 1 4,oM 11 2,oC 12 159 [9,10,11],oN 8 12] (rs [oM 13 8,oV 14 (bI .neq 13 0)] (cS 14 (rs [oM 15 8,oJ 6 0,oN 7 15] .ret)))) (rs [oK 16 2 3,oK 17 1 4,oC 18 147 [16,17],oM 19 2,oT 20 (.lookup false (.int .i64) (.int .i64 0) (.t 18) (.t 19)),oN 6 20,oJ 7 0] .ret))
def vf145:=mF 3 [.tmp (.v 6),.tmp (.v 7)] (iv [0,5] [6,7,8,14]) Nc
def Kn : VCode:=rs [oV 6 (.move cF)] (rs [oM 7 0,oM 8 1,oT 9 (bT .geq 7 8),oP 10 9,tM 11 0 10,tM 12 2 10,tT 13 (bT .leq 11 12) 10,oB 14 10 13,oP 15 14,fM 16 0 15,fT 17 (bI .eql 16 4611686018427387904) 15,oO 18 15 17,oN 6 18] .ret)
def vf146:=mF 3 [.tmp (.v 6)] [0,1,2,6] Kn
def Te : VCode:=rs [oX 2 2 0,oX 3 1 1,oV 4 (.move (.c (.map .bool [] [])))] (rs [oT 9 (.makeMap (.int .i64)),oN 5 9] (sq (rs [oF 10 0 3,oV 11 (.load none (.t 10)),oV 12 (.len (.v 11)),oJ 13 0] (.block 0 (.loop (rs [oV 14 (.bin .lss (.v 13) (.v 12))] (sq (cE 14 0) (sq (.block 1 (rs [oT 15 (.indexAddr 2 (.v 11) (.v 13)),oR 16 2 15,oV 7 (.alloc [cZ,cZ]),oS 2 7 16] (rg [oM 17 5,oF 18 0 7,oL 19 18,oF 20 1 7,oL 21 20,oZ (.mapUpdate (.int .i64) (.t 17) (.t 19) (.t 21))]))) (rg [oT 22 (.bin .add (.v 13) (cI 1)),oN 13 22]))))))) (sq (rs [oF 23 0 2,oL 24 23,oY 25 24,oT 26 (bI .sub 25 1),oN 8 26] (.block 2 (.loop (sq (rs [oM 27 8,oV 28 (bI .gtr 27 0)] (cE 28 2)) (sq (.block 3 (rg [oM 31 5,oF 32 0 2,oL 33 32,oM 34 8,oA 35 6 33 34,oQ 36 1 35,oL 37 36,oT 38 (.lookup false (.int .i64) (.int .i64 0) (.t 31) (.t 37)),oM 39 5,oF 40 0 2,oL 41 40,oM 42 8,oA 43 6 41 42,oQ 44 0 43,oL 45 44,oT 46 (.lookup false (.int .i64) (.int .i64 0) (.t 39) (.t 45)),oT 47 (bT .add 38 46),oZ (.mapUpdate (.int .i64) (.t 31) (.t 37) (.t 47))])) (rg [oM 29 8,oT 30 (bI .sub 29 1),oN 8 30])))))) (rs [oM 48 5,oN 4 48] .ret))))
def vf147:=mF 2 [.tmp (.v 4)] (iv [0,6,11,4] [7,8,28]) Te
def Td : VCode:=rs [oV 2 (.move cF)] (sq (rs [oM 5 0,oV 6 (.strBytes (.t 5)),oV 7 (.len (.v 6)),oJ 8 0] (.block 0 (.loop (rs [oV 9 (.bin .lss (.v 8) (.v 7))] (sq (cE 9 0) (sq (.block 1 (rs [oT 10 (.indexAddr 1 (.v 6) (.v 8)),oL 11 10,oN 4 11] (rs [oM 12 4,oC 13 179 [12],oV 14 (nT 13)] (cS 14 (rs [oV 2 (.move cF)] .ret))))) (rg [oT 15 (.bin .add (.v 8) (cI 1)),oN 8 15]))))))) (rs [oM 16 0,oT 17 (.bin .neq (.t 16) (.c (.str ⟨#[]⟩))),oP 18 17,tM 19 0 18,tT 20 (.lenStr (.t 19)) 18,tT 21 (bI .leq 20 32) 18,oB 22 18 21,oP 23 22,tM 24 0 23,tT 25 (.indexStr (.t 24) (cI 0)) 23,tT 26 (.bin .neq (.t 25) (.c (.int .u8 45))) 23,oB 27 23 26,oN 2 27] .ret))
def vf151:=mF 1 [.tmp (.v 2)] [0,2,4,6,7,8,9,14] Td
def Tc : VCode:=rs [oJ 4 0] (sq (rs [oM 6 0,oV 7 (lT 6),oJ 8 0] (.block 0 (.loop (rs [oV 9 (.bin .lss (.v 8) (.v 7))] (sq (cE 9 0) (sq (.block 1 (rs [oM 10 8,oN 5 10] (rs [oM 11 1,oM 12 0,oM 13 5,oA 14 6 12 13,oR 15 6 14,oV 16 (.callv (.t 11) [.t 15])] (cS 16 (rs [oM 17 5,oN 4 17] .ret))))) (rg [oT 18 (.bin .add (.v 8) (cI 1)),oN 8 18]))))))) (rs [oJ 4 (-1)] .ret))
def vf152:=mF 2 [.tmp (.v 4)] [0,1,4,5,7,8,9,16] Tc
def Tb : VCode:=rs [oX 2 6 0,oV 3 (.move cF)] (rs [oF 4 0 2,oL 5 4,oT 6 (.load none (.v 1)),oT 7 (bT .eql 5 6),oN 3 7] .ret)
def vf153:=mF 2 [.tmp (.v 3)] [0,1,2,3] Tb
def Ta : VCode:=rs [oX 3 2 0,oV 6 (.move cF)] (sq (rs [oJ 7 0] (.block 0 (.loop (sq (rs [oM 8 7,oM 9 1,oY 10 9,oU 11 8 10] (cE 11 0)) (sq (.block 1 (rs [oK 14 2 3,oM 15 1,oM 16 7,oA 17 2 15 16,oQ 18 0 17,oL 19 18,oC 20 77 [14,19],oT 21 (nT 20),oP 22 21,fM 23 7 22,fT 24 (bI .gtr 23 0) 22,fT 25 (.move (.t 24)) 22,tM 26 1 25,tM 27 7 25,tT 28 (.indexAddr 2 (.t 26) (.t 27)) 25,tT 29 (.fieldAddr 0 (.t 28)) 25,tL 30 29 25,tM 31 1 25,tM 32 7 25,tT 33 (bI .sub 32 1) 25,tT 34 (.indexAddr 2 (.t 31) (.t 33)) 25,tT 35 (.fieldAddr 0 (.t 34)) 25,tL 36 35 25,tT 37 (bT .leq 30 36) 25,fT 38 (.pick (.t 25) (.t 37) cF) 22,oO 39 22 38,oP 40 39,fM 41 1 40,fM 42 7 40,fT 43 (.indexAddr 2 (.t 41) (.t 42)) 40,fT 44 (.fieldAddr 1 (.t 43)) 40,fL 45 44 40,fM 46 2 40,fT 47 (bT .lss 45 46) 40,oO 48 40 47,oP 49 48,fM 50 1 49,fM 51 7 49,fT 52 (.indexAddr 2 (.t 50) (.t 51)) 49,fT 53 (.fieldAddr 1 (.t 52)) 49,fL 54 53 49,fT 55 (bI .gtr 54 16777216) 49,vO 56 49 55] (cS 56 (rs [oV 6 (.move cF)] .ret)))) (rg [oM 12 7,oI 13 12,oN 7 13])))))) (rs [oV 6 (.move cT)] .ret))
def vf154:=mF 3 [.tmp (.v 6)] [0,1,2,3,6,7,11,56] Ta
def S9 : VCode:=rs [oX 5 2 0,oX 6 1 1,oJ 10 0] (rs [oK 11 2 5,oK 12 1 6,oM 13 3,oC 14 144 [11,12,13],oM 15 2,oM 16 3,oM 17 4,oC 18 180 [15,16,17],oT 19 (.minmax false [.t 14,.t 18]),oN 10 19] .ret)
def vf155:=mF 5 [.tmp (.v 10)] (iv [0,7] [10]) S9
def S8 : VCode:=rs [oV 4 (.alloc [cZ,cZ,cZ,cZ,cZ])] (sq (rs [oJ 5 0] (.block 0 (.loop (sq (rs [oM 6 5,oM 7 0,oY 8 7,oU 9 6 8] (cE 9 0)) (sq (.block 1 (rs [oM 12 0,oM 13 5,oA 14 5 12 13,oQ 15 0 14,oL 16 15,oM 17 1,oV 18 (bT .eql 16 17)] (cS 18 (rs [oM 19 0,oM 20 5,oA 21 5 19 20,oR 22 5 21,oS 5 4 22] .ret)))) (rg [oM 10 5,oI 11 10,oN 5 11])))))) (rs [oT 23 (.build [zZ,zZ,zZ,zZ,zZ]),oS 5 4 23] .ret))
def vf156:=mF 2 [.cell (.v 4) (some 5)] [0,1,4,5,9,18] S8
def S7 : VCode:=rs [oV 4 (.newArr 1)] (rs [oJ 5 0] (sq (rs [oJ 6 0] (.block 0 (.loop (sq (rs [oM 11 6,oM 12 1,oY 13 12,oU 14 11 13] (cE 14 0)) (sq (.block 1 (rg [oM 17 5,oM 18 1,oM 19 6,oA 20 1 18 19,oL 21 20,oT 22 (bT .add 17 21),oN 5 22])) (rg [oM 15 6,oI 16 15,oN 6 16])))))) (rs [oM 23 1,oY 24 23,oT 25 (.make 1 8 (.int .i64 0) (.t 24)),oN 7 25] (rs [oM 26 0,oN 8 26] (sq (rs [oJ 9 0] (.block 2 (.loop (sq (rs [oM 27 5,oT 28 (bI .gtr 27 0),oP 29 28,tM 30 9 29,tM 31 1 29,tT 32 (lT 31) 29,tT 33 (bT .lss 30 32) 29,vB 34 29 33] (cE 34 2)) (sq (.block 3 (rs [oM 37 7,oM 38 9,oM 39 0,oM 40 1,oM 41 9,oA 42 1 40 41,oL 43 42,oT 44 (bT .mul 39 43),oM 45 5,oT 46 (bT .quo 44 45),oA 47 1 37 38,sT 1 47 46] (rg [oM 48 8,oM 49 7,oM 50 9,oA 51 1 49 50,oL 52 51,oT 53 (bT .sub 48 52),oN 8 53]))) (rg [oM 35 9,oI 36 35,oN 9 36])))))) (sq (rs [oJ 10 0] (.block 4 (.loop (sq (rs [oM 54 10,oM 55 1,oY 56 55,oT 57 (bT .lss 54 56),oP 58 57,tM 59 8 58,tT 60 (bI .gtr 59 0) 58,vB 61 58 60] (cE 61 4)) (sq (.block 5 (rs [oM 64 7,oM 65 10,oA 66 1 64 65,oL 67 66,oM 68 1,oM 69 10,oA 70 1 68 69,oL 71 70,oU 72 67 71] (cS 72 (rs [oM 73 7,oM 74 10,oA 75 1 73 74,oL 76 75,oI 77 76,oA 78 1 73 74,sT 1 78 77] (rg [oM 79 8,oT 80 (bI .sub 79 1),oN 8 80]))))) (rg [oM 62 10,oI 63 62,oN 10 63])))))) (rs [oM 81 7,oN 4 81] .ret)))))))
def vf157:=mF 2 [.tmp (.v 4)] (iv [4,7] [0,1,14,34,61,72]) S7
def S6 : VCode:=rs [oX 2 1 0,oJ 4 0] (sq (rs [oJ 5 0] (.block 0 (.loop (sq (rs [oM 6 5,oF 7 0 2,oL 8 7,oY 9 8,oU 10 6 9] (cE 10 0)) (sq (.block 1 (rs [oF 13 0 2,oL 14 13,oM 15 5,oA 16 2 14 15,oQ 17 0 16,oL 18 17,oM 19 1,oV 20 (bT .eql 18 19)] (cS 20 (rs [oF 21 0 2,oL 22 21,oM 23 5,oA 24 2 22 23,oQ 25 1 24,oL 26 25,oN 4 26] .ret)))) (rg [oM 11 5,oI 12 11,oN 5 12])))))) (rs [oJ 4 0] .ret))
def vf158:=mF 2 [.tmp (.v 4)] [0,1,2,4,5,10,20] S6
def Km : VCode:=rs [oX 3 2 0,oX 4 1 1,oJ 6 0] (sq (rs [oK 9 2 3,oK 10 1 4,oC 11 111 [9,10],oV 12 (nT 11)] (cS 12 (rs [oJ 6 1] .ret))) (sq (rs [oK 14 2 3,oM 15 2,oC 16 87 [14,15],oP 13 16,oE 17 13 0,oE 18 13 1,oT 7 (.alloc [.c (.int .i64 0),.c (.int .i64 0),.c (.str ⟨#[]⟩),.c (.int .i64 0),.c (.int .i64 0),.c (.int .i64 0)]),sT 6 7 17,oN 8 18] (rs [oM 19 8,oV 20 (nT 19)] (cS 20 (rs [oJ 6 4] .ret)))) (rs [oJ 6 0] .ret)))
def vf159:=mF 3 [.tmp (.v 6)] (iv [0,5] [6,8,12,20]) Km
def S5 : VCode:=rs [oV 2 (.move cF)] (rs [oM 3 0,oT 4 (.bin .geq (.t 3) (.c (.int .u8 97))),oP 5 4,tM 6 0 5,tT 7 (.bin .leq (.t 6) (.c (.int .u8 122))) 5,oB 8 5 7,oP 9 8,fM 10 0 9,fT 11 (.bin .geq (.t 10) (.c (.int .u8 65))) 9,fT 12 (.move (.t 11)) 9,tM 13 0 12,tT 14 (.bin .leq (.t 13) (.c (.int .u8 90))) 12,fT 15 (.pick (.t 12) (.t 14) cF) 9,oO 16 9 15,oP 17 16,fM 18 0 17,fT 19 (.bin .geq (.t 18) (.c (.int .u8 48))) 17,fT 20 (.move (.t 19)) 17,tM 21 0 20,tT 22 (.bin .leq (.t 21) (.c (.int .u8 57))) 20,fT 23 (.pick (.t 20) (.t 22) cF) 17,oO 24 17 23,oP 25 24,fM 26 0 25,fT 27 (.bin .eql (.t 26) (.c (.int .u8 95))) 25,oO 28 25 27,oP 29 28,fM 30 0 29,fT 31 (.bin .eql (.t 30) (.c (.int .u8 45))) 29,oO 32 29 31,oN 2 32] .ret)
def vf179:=mF 1 [.tmp (.v 2)] [0,2] S5
def S4 : VCode:=rs [oJ 6 0] (sq (rs [oJ 7 0] (.block 0 (.loop (sq (rs [oM 8 7,oM 9 0,oY 10 9,oU 11 8 10] (cE 11 0)) (sq (.block 1 (rs [oM 14 0,oM 15 7,oA 16 3 14 15,oQ 17 0 16,oL 18 17,oM 19 1,oV 20 (bT .eql 18 19)] (.cond (.v 20) (sq (rs [oV 21 (.move (.v 2))] (cS 21 (rs [oM 22 0,oM 23 7,oA 24 3 22 23,oQ 25 2 24,oL 26 25,oT 27 (.minmax false [.t 26,.c (.int .i64 16777216)]),oN 6 27] .ret))) (rs [oM 28 0,oM 29 7,oA 30 3 28 29,oQ 31 1 30,oL 32 31,oT 33 (.minmax false [.t 32,.c (.int .i64 16777216)]),oN 6 33] .ret)) .skip))) (rg [oM 12 7,oI 13 12,oN 7 13])))))) (rs [oJ 6 0] .ret))
def vf180:=mF 3 [.tmp (.v 6)] [0,1,2,6,7,11,20,21] S4
def prog : FuncId -> Option VFunc | 4=>some vf4 | 5=>some vf5 | 7=>some vf7 | 8=>some vf8 | 9=>some vf9 | 12=>some vf12 | 13=>some vf13 | 14=>some vf14 | 16=>some vf16 | 17=>some vf17 | 18=>some vf18 | 19=>some vf19 | 20=>some vf20 | 21=>some vf21 | 22=>some vf22 | 23=>some vf23 | 24=>some vf24 | 25=>some vf25 | 26=>some vf26 | 27=>some vf27 | 28=>some vf28 | 31=>some vf31 | 32=>some vf32 | 34=>some vf34 | 35=>some vf35 | 36=>some vf36 | 37=>some vf37 | 38=>some vf38 | 41=>some vf41 | 44=>some vf44 | 45=>some vf45 | 46=>some vf46 | 47=>some vf47 | 48=>some vf48 | 49=>some vf49 | 50=>some vf50 | 51=>some vf51 | 52=>some vf52 | 53=>some vf53 | 54=>some vf54 | 55=>some vf55 | 56=>some vf56 | 57=>some vf57 | 58=>some vf58 | 59=>some vf59 | 60=>some vf60 | 61=>some vf61 | 62=>some vf62 | 63=>some vf63 | 64=>some vf64 | 65=>some vf65 | 66=>some vf66 | 67=>some vf67 | 68=>some vf68 | 69=>some vf69 | 70=>some vf70 | 71=>some vf71 | 72=>some vf72 | 73=>some vf73 | 74=>some vf74 | 75=>some vf75 | 76=>some vf76 | 77=>some vf77 | 78=>some vf78 | 79=>some vf79 | 80=>some vf80 | 81=>some vf81 | 82=>some vf82 | 83=>some vf83 | 84=>some vf84 | 85=>some vf85 | 86=>some vf86 | 87=>some vf87 | 88=>some vf88 | 89=>some vf89 | 90=>some vf90 | 91=>some vf91 | 92=>some vf92 | 93=>some vf93 | 94=>some vf94 | 95=>some vf95 | 96=>some vf96 | 98=>some vf98 | 99=>some vf99 | 100=>some vf100 | 101=>some vf101 | 102=>some vf102 | 103=>some vf103 | 104=>some vf104 | 105=>some vf105 | 106=>some vf106 | 107=>some vf107 | 108=>some vf108 | 109=>some vf109 | 110=>some vf110 | 111=>some vf111 | 112=>some vf112 | 113=>some vf113 | 114=>some vf114 | 115=>some vf115 | 116=>some vf116 | 117=>some vf117 | 119=>some vf119 | 120=>some vf120 | 121=>some vf121 | 122=>some vf122 | 123=>some vf123 | 124=>some vf124 | 126=>some vf126 | 127=>some vf127 | 128=>some vf128 | 129=>some vf129 | 130=>some vf130 | 131=>some vf131 | 132=>some vf132 | 133=>some vf133 | 134=>some vf134 | 135=>some vf135 | 136=>some vf136 | 137=>some vf137 | 138=>some vf138 | 139=>some vf139 | 140=>some vf140 | 141=>some vf141 | 142=>some vf142 | 143=>some vf143 | 144=>some vf144 | 145=>some vf145 | 146=>some vf146 | 147=>some vf147 | 151=>some vf151 | 152=>some vf152 | 153=>some vf153 | 154=>some vf154 | 155=>some vf155 | 156=>some vf156 | 157=>some vf157 | 158=>some vf158 | 159=>some vf159 | 179=>some vf179 | 180=>some vf180 | _=>none
end Go.V
