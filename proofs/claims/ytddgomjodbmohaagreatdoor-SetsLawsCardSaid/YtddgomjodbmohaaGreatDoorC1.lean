/- Part 1 of the proof. -/
import GoSem.Core.Code
import GoSem.Core.View
set_option linter.unusedSectionVars false
set_option linter.unusedSimpArgs false
set_option linter.unusedVariables false
open List renaming forall_mem_cons → lfm
namespace Go.V
theorem cl1 {P : Prop} (h : P := by first | rfl | (simp; done) | (congr 2; omega) | (congr 1; omega) | (congr 3; omega) | (simp; omega) | (congr 2; simp; omega)) : P := h
theorem cl2 {P : Prop} (h : P := by first | rfl | omega | (congr 2; omega)) : P := h
inductive KT where
 | int (k : IntKind)
 | str
 | bool
 deriving DecidableEq,Inhabited
inductive MKey where
 | int (n : Int)
 | str (s : ByteArray)
 | bool (b : Bool)
 deriving DecidableEq
inductive PV where
 | int (k : IntKind) (n : Int)
 | bool (b : Bool)
 | str (s : ByteArray)
 | slice (sz : Nat) (xs : List PV)
 | agg (cs : List PV)
 | map (kt : KT) (ks : List MKey) (vs : List PV)
 | fn (f : FuncId)
 | nilp
 | nils
 | lit (sz : Nat) (xs : List PV)
 deriving Inhabited
def PV.cells : PV -> List PV
 | .agg cs=>cs
 | v=>[v]
def PV.flat0 : PV -> Bool
 | .int _ _ | .bool _ | .str _ | .fn _ | .nilp=>true
 | _=>false
def PV.flat : PV -> Bool
 | .agg cs=>cs.all PV.flat0
 | d=>d.flat0
inductive Id where
 | slot (s j : Nat)
 | arg (i j : Nat)
 deriving DecidableEq
inductive VVal where
 | p (d : PV)
 | own (id : Id) (ver off len : Nat)
 | ptr (id : Id) (ver off : Nat)
 | vptr (cs : List PV) (off : Nat)
 | eptr (id : Id) (ver i off : Nat)
 | mref (id : Id) (ver : Nat)
 | fn (f : FuncId) (caps : List VVal)
 | agg (cs : List VVal)
 | tup (vs : List VVal)
 | fresh (sz : Nat) (xs : List PV)
 | boxed (cs : List VVal)
 | undef
 | dead
 deriving Inhabited
inductive Ob where
 | box (cs : List VVal)
 | arr (sz : Nat) (xs : List PV)
 | map (kt : KT) (ks : List MKey) (vs : List PV)
 | gone
 deriving Inhabited
abbrev VHeap:=Id -> Option (Nat × Ob)
def VHeap.upd (h : VHeap) (id : Id) (o : Nat × Ob) : VHeap:=fun i=>if i = id then some o else h i
def VHeap.upds (h : VHeap) : List (Id × Nat × Ob) -> VHeap
 | []=>h
 | (id,o) :: us=>(VHeap.upd h id o).upds us
def nv : Option (Nat × Ob) -> Nat
 | none=>0
 | some (v,_)=>v + 1
structure Tok {α : Type} (a : α) : Type where
def ob {α β : Type} (x : Option α) (f : α -> Option β) (_u : Tok f:=⟨⟩) : Option β:=match x with | some a=>f a | none=>none
def gd {α : Type} (c : Prop) [Decidable c] (x : Option α) (_u : Tok x:=⟨⟩) : Option α:=if c then x else none
def br {α : Type} (b : Bool) (x y : α) (_u : Tok x:=⟨⟩) (_v : Tok y:=⟨⟩) : α:=if b then x else y
inductive VArg where
 | v (s : Nat)
 | t (s : Nat)
 | c (d : PV)
 deriving Inhabited
inductive ZC where
 | c (d : PV)
 | nil (sz : Nat)
 deriving Inhabited
inductive BC where
 | z (z : ZC)
 | a (x : VArg) (j n : Nat)
 deriving Inhabited
inductive VOp where
 | move (x : VArg)
 | newArr (sz : Nat)
 | pick (c a b : VArg)
 | alloc (zero : List ZC)
 | box (n : Nat) (x : VArg)
 | build (cells : List BC)
 | buildSlice (sz : Nat) (parts : List VArg)
 | buildFz (sz : Nat) (parts : List VArg)
 | load (agg : Option Nat) (a : VArg)
 | store (n : Nat) (a x : VArg)
 | fieldAddr (off : Nat) (x : VArg)
 | field (off : Nat) (agg : Option Nat) (x : VArg)
 | indexAddr (sz : Nat) (x i : VArg)
 | indexStr (x i : VArg)
 | bin (op : BinOp) (x y : VArg)
 | eqAgg (neg : Bool) (kts : List KT) (x y : VArg)
 | not (x : VArg)
 | neg (x : VArg)
 | len (x : VArg)
 | lenStr (x : VArg)
 | eqB (neg : Bool) (x y : VArg)
 | append (sz bytes : Nat) (s x : VArg)
 | appendNil (sz bytes : Nat) (x : VArg)
 | slice (str : Bool) (sz : Nat) (lo hi mx : Option VArg) (x : VArg)
 | lookup (ok : Bool) (kt : KT) (zero : PV) (m k : VArg)
 | mapUpdate (kt : KT) (m k x : VArg)
 | makeMap (kt : KT)
 | mapLen (x : VArg)
 | extract (x : VArg) (i : Nat)
 | minmax (isMax : Bool) (xs : List VArg)
 | conv (k : IntKind) (x : VArg)
 | strBytes (x : VArg)
 | bytesStr (x : VArg)
 | nilCheck (x : VArg)
 | makeFunc (f : FuncId) (caps : List VArg)
 | call (f : FuncId) (args : List VArg)
 | callv (x : VArg) (args : List VArg)
 | callW (f : FuncId) (args : List VArg)
 | callvW (x : VArg) (args : List VArg)
 | callR (f : FuncId) (args : List VArg)
 | make (sz bytes : Nat) (zero : PV) (n : VArg)
 | copy (sz : Nat) (a x : VArg)
 | mapEntry (kt : KT) (zero : PV) (m k : VArg)
 | entryStore (m s x : VArg)
 | buildArr (sz : Nat) (parts : List VArg)
 | indexArr (n sz : Nat) (agg : Option Nat) (x i : VArg)
 | clear (sz : Nat) (zero : PV) (a : VArg)
 | unlit (x : VArg)
 | buildLit (sz : Nat) (parts : List VArg)
 | appendLit (sz bytes : Nat) (s x : VArg)
 deriving Inhabited
inductive VDst where
 | v (s : Nat)
 | t (s : Nat)
 | none
 deriving Inhabited,DecidableEq
structure VOper where
 dst : VDst
 op : VOp
 guard : Option (VArg × Bool):=.none
 deriving Inhabited
structure VRegion where
 ops : List VOper
 fz : List Nat:=[]
 fp : List (Nat × Nat):=[]
 deriving Inhabited
inductive VCode where
 | skip
 | region (r : VRegion)
 | seq (a b : VCode)
 | cond (c : VArg) (thn els : VCode)
 | block (id : Nat) (c : VCode)
 | loop (c : VCode)
 | exit (id : Nat)
 | ret
 | mv (a b : Id) (c : VCode)
 | scope (c : VCode)
 | fail
 deriving Inhabited
abbrev oT (n : Nat) (o : VOp) : VOper:=⟨.t n,o,none⟩
abbrev oV (n : Nat) (o : VOp) : VOper:=⟨.v n,o,none⟩
abbrev oZ (o : VOp) : VOper:=⟨.none,o,none⟩
abbrev oG (n : Nat) (o : VOp) (g : Nat) (b : Bool) : VOper:=⟨.t n,o,some (.t g,b)⟩
abbrev oM (n x : Nat) : VOper:=⟨.t n,.move (.v x),none⟩
abbrev oN (n x : Nat) : VOper:=⟨.v n,.move (.t x),none⟩
abbrev oL (n x : Nat) : VOper:=⟨.t n,.load none (.t x),none⟩
abbrev oF (n k x : Nat) : VOper:=⟨.t n,.fieldAddr k (.v x),none⟩
abbrev oK (n k x : Nat) : VOper:=⟨.t n,.load (some k) (.v x),none⟩
abbrev rg (l : List VOper) : VCode:=.region ⟨l,[],[]⟩
abbrev cI (n : Int) : VArg:=.c (.int .i64 n)
abbrev cF : VArg:=.c (.bool false)
abbrev cT : VArg:=.c (.bool true)
abbrev oJ (n : Nat) (i : Int) : VOper:=⟨.v n,.move (.c (.int .i64 i)),none⟩
abbrev oP (n x : Nat) : VOper:=⟨.t n,.move (.t x),none⟩
abbrev oA (n s a b : Nat) : VOper:=⟨.t n,.indexAddr s (.t a) (.t b),none⟩
abbrev oQ (n k x : Nat) : VOper:=⟨.t n,.fieldAddr k (.t x),none⟩
abbrev oC (n : Nat) (f : FuncId) (l : List VArg) : VOper:=⟨.t n,.call f l,none⟩
abbrev oE (n x k : Nat) : VOper:=⟨.t n,.extract (.t x) k,none⟩
abbrev oS (s x y : Nat) : VOper:=⟨.none,.store s (.v x) (.t y),none⟩
abbrev oI (n x : Nat) : VOper:=⟨.t n,.bin .add (.t x) (.c (.int .i64 1)),none⟩
abbrev oO (n x y : Nat) : VOper:=⟨.t n,.pick (.t x) (.c (.bool true)) (.t y),none⟩
abbrev oB (n x y : Nat) : VOper:=⟨.t n,.pick (.t x) (.t y) (.c (.bool false)),none⟩
abbrev oR (n s x : Nat) : VOper:=⟨.t n,.load (some s) (.t x),none⟩
abbrev oY (n x : Nat) : VOper:=⟨.t n,.len (.t x),none⟩
abbrev oX (n s x : Nat) : VOper:=⟨.v n,.box s (.v x),none⟩
abbrev oU (n x y : Nat) : VOper:=⟨.v n,.bin .lss (.t x) (.t y),none⟩
abbrev gL (n x g : Nat) (b : Bool) : VOper:=⟨.t n,.load none (.t x),some (.t g,b)⟩
abbrev gF (n k x g : Nat) (b : Bool) : VOper:=⟨.t n,.fieldAddr k (.v x),some (.t g,b)⟩
abbrev gM (n x g : Nat) (b : Bool) : VOper:=⟨.t n,.move (.v x),some (.t g,b)⟩
inductive VRet where
 | tmp (x : VArg)
 | cell (x : VArg) (agg : Option Nat)
 deriving Inhabited
structure VFunc where
 vs : List Nat
 nparams : Nat
 body : VCode
 rets : List VRet
 deriving Inhabited
structure St where
 pe : Nat -> VVal
 h : VHeap
inductive VExit where
 | normal
 | exit (id : Nat)
 | ret
 deriving DecidableEq
abbrev Sig:=FuncId -> List VVal -> List Ob -> Option (VVal × List Ob)
def vcells : VVal -> List VVal
 | .agg cs=>cs
 | v=>[v]
def ofCells (agg : Option Nat) (cs : List VVal) (off : Nat) : Option VVal :=
 match agg with
 | none=>cs[off]?
 | some n=>gd (off + n <= cs.length) (some (.agg ((cs.drop off).take n)))
def vrow (h : VHeap) : VVal -> Option (List VVal × Nat)
 | .ptr id ver off=>match h id with
  | some (v,.box cs)=>gd (v = ver) (some (cs,off))
  | _=>none
 | .vptr cs off=>some (cs.map .p,off)
 | .eptr id ver i off=>match h id with
  | some (v,.arr _ xs)=>gd (v = ver) (ob xs[i]? fun x=>some (x.cells.map .p,off))
  | _=>none
 | _=>none
def vload (h : VHeap) (agg : Option Nat) (a : VVal) : Option VVal:=ob (vrow h a) fun r=>ofCells agg r.1 r.2
def unP : VVal -> Option PV
 | .p d=>some d
 | .fn f []=>some (.fn f)
 | _=>none
def mapO {α β : Type} (f : α -> Option β) : List α -> Option (List β)
 | []=>some []
 | x :: xs=>ob (f x) fun y=>ob (mapO f xs) fun ys=>some (y :: ys)
def freezeP : VVal -> Option PV
 | .agg cs=>ob (mapO unP cs) fun ds=>some (.agg ds)
 | v=>unP v
def velems (h : VHeap) : VVal -> Option (Nat × List PV)
 | .p (.slice sz xs)=>some (sz,xs)
 | .own id ver off len=>match h id with
  | some (v,.arr sz xs)=>gd (v = ver) (some (sz,(xs.drop off).take len))
  | _=>none
 | _=>none
def vlen : VVal -> Option Nat
 | .p (.slice _ xs)=>some xs.length
 | .own _ _ _ len=>some len
 | _=>none
def vlenS : VVal -> Option Nat
 | .p (.str s)=>some s.size
 | _=>none
def splice {α : Type} (cs : List α) (off : Nat) (vs : List α) : List α:=cs.take off ++ vs ++ cs.drop (off + vs.length)
def setCells (x : PV) (off : Nat) (ds : List PV) : PV :=
 match x with
 | .agg cs=>.agg (splice cs off ds)
 | y=>ds.headD y
def solid : VVal -> Bool
 | .p _ | .own _ _ _ _ | .ptr _ _ _ | .vptr _ _ | .eptr _ _ _ _ | .mref _ _ | .fn _ _=>true
 | _=>false
def vstoreAt (h : VHeap) (n : Nat) (vs : List VVal) : VVal -> Option (List (Id × Nat × Ob))
 | .ptr id ver off=>match h id with
  | some (v,.box cs)=>gd (v = ver) (gd (off + n <= cs.length) (some [(id,v,.box (splice cs off vs))]))
  | _=>none
 | .eptr id ver i off=>match h id with
  | some (v,.arr sz xs)=>gd (v = ver) (ob xs[i]? fun x0=>ob (mapO unP vs) fun ds=>gd (off + n <= x0.cells.length) (some [(id,v,.arr sz (xs.set i (setCells x0 off ds)))]))
  | _=>none
 | _=>none
def vstore (h : VHeap) (n : Nat) (a x : VVal) : Option (List (Id × Nat × Ob)) :=
 gd ((vcells x).length = n) (gd ((vcells x).all solid = true) (vstoreAt h n (vcells x) a))
def vindexAt (h : VHeap) (sz i : Nat) : VVal -> Option VVal
 | .p (.slice sz' xs)=>gd (sz' = sz) (ob xs[i]? fun x=>some (.vptr x.cells 0))
 | .own id ver off len=>match h id with
  | some (v,.arr sz' _)=>gd (v = ver) (gd (sz' = sz) (gd (i < len) (some (.eptr id ver (off + i) 0))))
  | _=>none
 | _=>none
def vindex (h : VHeap) (sz : Nat) (s : VVal) (n : Int) : Option VVal:=gd (0 <= n) (vindexAt h sz n.toNat s)
def zcell (d : Nat) (h : VHeap) (j : Nat) : ZC -> VVal × List (Id × Nat × Ob)
 | .c x=>(.p x,[])
 | .nil sz=>(.own (.slot d (j + 1)) (nv (h (.slot d (j + 1)))) 0 0,[(.slot d (j + 1),nv (h (.slot d (j + 1))),.arr sz [])])
def zcells (d : Nat) : VHeap -> Nat -> List ZC -> List VVal × List (Id × Nat × Ob)
 | _,_,[]=>([],[])
 | h,j,z :: zs=>((zcell d h j z).1 :: (zcells d (h.upds (zcell d h j z).2) (j + 1) zs).1,(zcell d h j z).2 ++ (zcells d (h.upds (zcell d h j z).2) (j + 1) zs).2)
def bcells (look : VArg -> Option VVal) (d : Nat) : VHeap -> Nat -> List BC -> Option (List VVal × List (Id × Nat × Ob))
 | _,_,[]=>some ([],[])
 | h,j,.z z :: bs=>ob (bcells look d (h.upds (zcell d h j z).2) (j + 1) bs) fun rs=>some ((zcell d h j z).1 :: rs.1,(zcell d h j z).2 ++ rs.2)
 | h,j,.a x i n :: bs=>ob (look x) fun v=>gd ((vcells v).length = n) <| ob (vcells v)[i]? fun c=>gd (solid c = true) <| ob (bcells look d h (j + 1) bs) fun rs=>some (c :: rs.1,rs.2)
def andI (k : IntKind) (a b : Int) : Int:=k.wrap (BitVec.ofInt k.bits a &&& BitVec.ofInt k.bits b).toNat
def orI (k : IntKind) (a b : Int) : Int:=k.wrap (BitVec.ofInt k.bits a ||| BitVec.ofInt k.bits b).toNat
def xorI (k : IntKind) (a b : Int) : Int:=k.wrap (BitVec.ofInt k.bits a ^^^ BitVec.ofInt k.bits b).toNat
def antI (k : IntKind) (a b : Int) : Int:=k.wrap (BitVec.ofInt k.bits a &&& ~~~ BitVec.ofInt k.bits b).toNat
def shlI (k : IntKind) (a b : Int) : Int:=k.wrap (a * 2 ^ min b.toNat k.bits)
def shrI (k : IntKind) (a b : Int) : Int:=a.fdiv (2 ^ min b.toNat k.bits)
def ibin (k : IntKind) (a b : Int) : BinOp -> Option VVal
 | .add=>some (.p (.int k (k.wrap (a + b))))
 | .sub=>some (.p (.int k (k.wrap (a - b))))
 | .mul=>some (.p (.int k (k.wrap (a * b))))
 | .quo=>gd (b ≠ 0) (some (.p (.int k (k.wrap (a.tdiv b)))))
 | .rem=>gd (b ≠ 0) (some (.p (.int k (a.tmod b))))
 | .and=>some (.p (.int k (andI k a b)))
 | .or=>some (.p (.int k (orI k a b)))
 | .xor=>some (.p (.int k (xorI k a b)))
 | .andNot=>some (.p (.int k (antI k a b)))
 | .eql=>some (.p (.bool (a == b)))
 | .neq=>some (.p (.bool (a != b)))
 | .lss=>some (.p (.bool (decide (a < b))))
 | .leq=>some (.p (.bool (decide (a <= b))))
 | .gtr=>some (.p (.bool (decide (b < a))))
 | .geq=>some (.p (.bool (decide (b <= a))))
 | _=>none
def sbin (a b : ByteArray) : BinOp -> Option VVal
 | .eql=>some (.p (.bool (decide (a = b))))
 | .neq=>some (.p (.bool (!decide (a = b))))
 | .add=>gd (a.size + b.size <= 9223372036854775807) (some (.p (.str (a ++ b))))
 | _=>none
def isSh : BinOp -> Bool
 | .shl | .shr=>true
 | _=>false
def ishift (k : IntKind) (a b : Int) : BinOp -> Option VVal
 | .shl=>gd (0 <= b) (some (.p (.int k (shlI k a b))))
 | .shr=>gd (0 <= b) (some (.p (.int k (shrI k a b))))
 | _=>none
def vbin (op : BinOp) : VVal -> VVal -> Option VVal
 | .p (.int k a),.p (.int k' b)=>br (isSh op) (ishift k a b op) (gd (k = k') (ibin k a b op))
 | .p (.str a),.p (.str b)=>sbin a b op
 | _,_=>none
def eq0 : KT -> PV -> PV -> Option Bool
 | .int k,.int k' a,.int k'' b=>gd (k' = k) (gd (k'' = k) (some (a == b)))
 | .bool,.bool a,.bool b=>some (a == b)
 | .str,.str a,.str b=>some (decide (a = b))
 | _,_,_=>none
def eqAll : List KT -> List PV -> List PV -> Option Bool
 | [],[],[]=>some true
 | k :: ks,x :: xs,y :: ys=>ob (eq0 k x y) fun b=>ob (eqAll ks xs ys) fun c=>some (b && c)
 | _,_,_=>none
def mm2 (isMax : Bool) : VVal -> VVal -> Option VVal
 | .p (.int k a),.p (.int k' b)=>gd (k = k') (some (.p (.int k (if isMax then max a b else min a b))))
 | _,_=>none
def mmL (isMax : Bool) : VVal -> List VVal -> Option VVal
 | v,[]=>some v
 | v,u :: us=>ob (mm2 isMax v u) fun r=>mmL isMax r us
def minmaxI (isMax : Bool) : List VVal -> Option VVal
 | []=>none
 | v :: vs=>mmL isMax v vs
def mkey : KT -> VVal -> Option MKey
 | .int k,.p (.int k' n)=>gd (k = k') (some (.int n))
 | .str,.p (.str s)=>some (.str s)
 | .bool,.p (.bool b)=>some (.bool b)
 | _,_=>none
def mget : List MKey -> List PV -> MKey -> Option PV
 | k :: ks,v :: vs,k'=>if k' = k then some v else mget ks vs k'
 | _,_,_=>none
def mput : List MKey -> List PV -> MKey -> PV -> List MKey × List PV
 | k :: ks,v :: vs,k',v'=>if k' = k then (k :: ks,v' :: vs) else
   let r:=mput ks vs k' v'
   (k :: r.1,v :: r.2)
 | _,_,k',v'=>([k'],[v'])
def kpos : List MKey -> MKey -> Nat
 | k :: ks,k'=>if k' = k then 0 else kpos ks k' + 1
 | [],_=>0
def ventries (h : VHeap) : VVal -> Option (KT × List MKey × List PV)
 | .p (.map kt ks vs)=>some (kt,ks,vs)
 | .mref id ver=>match h id with
  | some (v,.map kt ks vs)=>gd (v = ver) (some (kt,ks,vs))
  | _=>none
 | _=>none
def thaw : PV -> VVal
 | .agg cs=>.agg (cs.map .p)
 | d=>.p d
def vlookup (ok : Bool) (zero : PV) (ks : List MKey) (vs : List PV) (k : MKey) : VVal :=
 let r:=mget ks vs k
 let v:=thaw (r.getD zero)
 if ok then .tup [v,.p (.bool r.isSome)] else v
def vappend (h : VHeap) (sz bytes : Nat) (s x : VVal) : Option (VVal × List (Id × Nat × Ob)) :=
 match s with
 | .own id ver 0 len=>match h id with
  | some (v,.arr sz' xs)=>gd (v = ver) <| gd (sz' = sz) <| gd (len <= xs.length) <|
    ob (velems h x) fun r=>gd (r.1 = sz \/ r.2 = []) <| gd ((len + r.2.length) * bytes <= 140737488355328) <| gd (len + r.2.length <= 9223372036854775807) <|
     some (.own id (v + 1) 0 (len + r.2.length),[(id,v + 1,.arr sz (xs.take len ++ r.2))])
  | _=>none
 | _=>none
def vappendNil (d : Nat) (h : VHeap) (sz bytes : Nat) (x : VVal) : Option (VVal × List (Id × Nat × Ob)) :=
 ob (velems h x) fun r=>gd (r.1 = sz \/ r.2 = []) <| gd (r.2.length * bytes <= 140737488355328) <| gd (r.2.length <= 9223372036854775807) <|
  some (.own (.slot d 0) (nv (h (.slot d 0))) 0 r.2.length,[(.slot d 0,nv (h (.slot d 0)),.arr sz r.2)])
def vappendLit (d : Nat) (h : VHeap) (sz bytes : Nat) (s x : VVal) : Option (VVal × List (Id × Nat × Ob)) :=
 match s with
 | .p (.lit sz' xs)=>gd (sz' = sz) <| gd (0 < xs.length) <| ob (velems h x) fun r=>gd (r.1 = sz) <| gd (0 < r.2.length) <| gd ((xs.length + r.2.length) * bytes <= 140737488355328) <| gd (xs.length + r.2.length <= 9223372036854775807) <|
   some (.own (.slot d 0) (nv (h (.slot d 0))) 0 (xs.length + r.2.length),[(.slot d 0,nv (h (.slot d 0)),.arr sz (xs ++ r.2))])
 | _=>none
def natOf : VVal -> Option Nat
 | .p (.int _ n)=>gd (0 <= n) (some n.toNat)
 | _=>none
def optNat (look : VArg -> Option VVal) (d : Nat) : Option VArg -> Option Nat
 | none=>some d
 | some x=>ob (look x) fun v=>natOf v
def vcut (h : VHeap) (sz l m : Nat) : VVal -> Option (VVal × List (Id × Nat × Ob))
 | .p (.slice sz' xs)=>gd (sz' = sz) (some (.p (.slice sz ((xs.drop l).take (m - l))),[]))
 | .own id ver off _=>match h id with
  | some (v,.arr sz' _)=>gd (v = ver) (gd (sz' = sz) (some (.own id ver (off + l) (m - l),[])))
  | _=>none
 | _=>none
def vcut0 (d : Nat) (h : VHeap) (sz : Nat) : Option (VVal × List (Id × Nat × Ob)) :=
 some (.own (.slot d 0) (nv (h (.slot d 0))) 0 0,[(.slot d 0,nv (h (.slot d 0)),.arr sz [])])
def vcut3 (d : Nat) (h : VHeap) (look : VArg -> Option VVal) (sz l m : Nat) (s : VVal) : Option VArg -> Option (VVal × List (Id × Nat × Ob))
 | none=>vcut h sz l m s
 | some x=>ob (look x) fun v=>ob (natOf v) fun k=>gd (l = m) (gd (k = m) (vcut0 d h sz))
def vcutS (l m : Nat) : VVal -> Option (VVal × List (Id × Nat × Ob))
 | .p (.str b)=>some (.p (.str (b.extract l m)),[])
 | _=>none
def vsliceS (look : VArg -> Option VVal) (lo hi : Option VArg) (s : VVal) : Option (VVal × List (Id × Nat × Ob)) :=
 ob (vlenS s) fun n=>ob (optNat look 0 lo) fun l=>ob (optNat look n hi) fun m=>gd (l <= m) (gd (m <= n) (vcutS l m s))
def vslice (d : Nat) (h : VHeap) (look : VArg -> Option VVal) (sz : Nat) (lo hi mx : Option VArg) (s : VVal) : Option (VVal × List (Id × Nat × Ob)) :=
 ob (vlen s) fun n=>ob (optNat look 0 lo) fun l=>ob (optNat look n hi) fun m=>gd (l <= m) (gd (m <= n) (vcut3 d h look sz l m s mx))
def alive (h : VHeap) (id : Id) (ver : Nat) : Bool :=
 match h id with
 | some (v,_)=>decide (v = ver)
 | none=>false
def posOf (R : List Id) (id : Id) : Option Nat:=match R with
 | []=>none
 | r :: rs=>if r = id then some 0 else (posOf rs id).map (· + 1)
def ptrs0 : VVal -> List Id
 | .ptr id _ _=>[id]
 | _=>[]
def ptrs1 : VVal -> List Id
 | .fn _ caps=>caps.flatMap ptrs0
 | .agg cs=>cs.flatMap ptrs0
 | v=>ptrs0 v
def objPtrs (h : VHeap) (id : Id) : List Id :=
 match h id with
 | some (_,.box cs)=>cs.flatMap ptrs1
 | _=>[]
def addNew (R : List Id) : List Id -> List Id
 | []=>R
 | i :: is=>addNew (if R.contains i then R else R ++ [i]) is
def roots (h : VHeap) (args : List VVal) : List Id :=
 let r0:=addNew [] (args.flatMap ptrs1)
 if r0.isEmpty then [] else
 let r1:=addNew r0 (r0.flatMap (objPtrs h))
 let r2:=addNew r1 (r1.flatMap (objPtrs h))
 r2
def ext0 (R : List Id) (h : VHeap) : VVal -> Option VVal
 | .p d=>some (.p d)
 | .own id ver off len=>ob (velems h (.own id ver off len)) fun r=>some (.p (.slice r.1 r.2))
 | .mref id ver=>ob (ventries h (.mref id ver)) fun r=>some (.p (.map r.1 r.2.1 r.2.2))
 | .ptr id ver off=>gd (alive h id ver = true) (ob (posOf R id) fun i=>some (.ptr (.arg i 0) 0 off))
 | .vptr cs off=>some (.vptr cs off)
 | .eptr id ver i off=>match h id with
  | some (v,.arr _ xs)=>gd (v = ver) (ob xs[i]? fun x=>some (.vptr x.cells off))
  | _=>none
 | _=>none
def ext1 (R : List Id) (h : VHeap) : VVal -> Option VVal
 | .fn f caps=>ob (mapO (ext0 R h) caps) fun cs=>some (.fn f cs)
 | .agg cs=>ob (mapO (ext0 R h) cs) fun cs=>some (.agg cs)
 | v=>ext0 R h v
def lends0 : VVal -> Bool
 | .own _ _ _ _ | .mref _ _ | .eptr _ _ _ _=>true
 | _=>false
def lends : VVal -> Bool
 | .agg cs | .fn _ cs=>cs.any lends0
 | v=>lends0 v
def noAlias0 : VVal -> Bool
 | .p d=>d.flat
 | .fresh _ xs=>xs.all PV.flat
 | .ptr _ _ _=>true
 | _=>false
def noAlias1 : VVal -> Bool
 | .agg cs=>cs.all noAlias0
 | .boxed cs=>cs.all noAlias0
 | v=>noAlias0 v
def noAlias : VVal -> Bool
 | .tup vs=>vs.all noAlias1
 | v=>noAlias1 v
def flatC : VVal -> Bool
 | .p d=>d.flat
 | .ptr _ _ _=>true
 | .fn _ cs=>cs.all noAlias0
 | _=>false
def flatBox : Ob -> Bool
 | .box cs=>cs.all flatC
 | _=>false
def extBox (R : List Id) (h : VHeap) (id : Id) : Option Ob :=
 match h id with
 | some (_,.box cs)=>gd (cs.any lends = false) <| ob (mapO (ext1 R h) cs) fun cs=>some (.box cs)
 | _=>none
def back0 (R : List Id) (h : VHeap) : VVal -> Option VVal
 | .p d=>some (.p d)
 | .ptr (.arg i 0) 0 off=>ob R[i]? fun id=>ob (h id) fun o=>some (.ptr id o.1 off)
 | _=>none
def back1 (R : List Id) (h : VHeap) : VVal -> Option VVal
 | .fn f caps=>ob (mapO (back0 R h) caps) fun cs=>some (.fn f cs)
 | v=>back0 R h v
def backBoxes (R : List Id) (h : VHeap) : List Id -> List Ob -> Option (List (Id × Nat × Ob))
 | [],[]=>some []
 | id :: ids,.box cs :: os=>ob (mapO (back1 R h) cs) fun cs'=>ob (h id) fun o=>ob (backBoxes R h ids os) fun us=>some ((id,o.1,.box cs') :: us)
 | _,_=>none
def in0 (R : List Id) (h : VHeap) (d j : Nat) : VVal -> Option (VVal × List (Id × Nat × Ob))
 | .fresh sz xs=>some (.own (.slot d (j + 1)) (nv (h (.slot d (j + 1)))) 0 xs.length,[(.slot d (j + 1),nv (h (.slot d (j + 1))),.arr sz xs)])
 | v=>ob (back0 R h v) fun v'=>some (v',[])
def inL (R : List Id) (h : VHeap) (d : Nat) : Nat -> List VVal -> Option (List VVal × List (Id × Nat × Ob))
 | _,[]=>some ([],[])
 | j,v :: vs=>ob (in0 R h d j v) fun r=>ob (inL R h d (j + 1) vs) fun rs=>some (r.1 :: rs.1,r.2 ++ rs.2)
def in1 (R : List Id) (h : VHeap) (d j : Nat) : VVal -> Option (VVal × List (Id × Nat × Ob))
 | .agg cs=>ob (inL R h d j cs) fun r=>some (.agg r.1,r.2)
 | .boxed cs=>ob (inL R h d (j + 1) cs) fun r=>some (.ptr (.slot d (j + 1)) (nv (h (.slot d (j + 1)))) 0,(.slot d (j + 1),nv (h (.slot d (j + 1))),.box r.1) :: r.2)
 | v=>in0 R h d j v
def width : VVal -> Nat
 | .agg cs=>cs.length
 | .boxed cs=>cs.length + 1
 | _=>1
def inT (R : List Id) (h : VHeap) (d : Nat) : Nat -> List VVal -> Option (List VVal × List (Id × Nat × Ob))
 | _,[]=>some ([],[])
 | j,v :: vs=>ob (in1 R h d j v) fun r=>ob (inT R h d (j + width v) vs) fun rs=>some (r.1 :: rs.1,r.2 ++ rs.2)
def inRes (R : List Id) (h : VHeap) (d : Nat) : VVal -> Option (VVal × List (Id × Nat × Ob))
 | .tup vs=>ob (inT R h d 0 vs) fun r=>some (.tup r.1,r.2)
 | v=>in1 R h d 0 v
def inResW (R : List Id) (h : VHeap) (d : Nat) : VVal -> Option (VVal × List (Id × Nat × Ob))
 | .own (.arg i 0) 0 off len=>ob R[i]? fun id=>ob (h id) fun o=>some (.own id o.1 off len,[])
 | v=>inRes R h d v
def vcallR (Γ : Sig) (h : VHeap) (d : Nat) (f : FuncId) (args : List VVal) (R : List Id) : Option (VVal × List (Id × Nat × Ob)) :=
 ob (mapO (ext1 R h) args) fun args'=>ob (mapO (extBox R h) R) fun H=>ob (Γ f args' H) fun r =>
  gd (args.any lends = false \/ (noAlias r.1 = true /\ r.2.all flatBox = true)) <|
  ob (backBoxes R h R r.2) fun us=>ob (inRes R h d r.1) fun q=>some (q.1,us ++ q.2)
def vcallOp (Γ : Sig) (h : VHeap) (d : Nat) (f : FuncId) (args : List VVal) : Option (VVal × List (Id × Nat × Ob)):=vcallR Γ h d f args (roots h args)
def ptrsW0 : VVal -> List Id
 | .ptr id _ _ | .own id _ _ _ | .mref id _ | .eptr id _ _ _=>[id]
 | _=>[]
def ptrsW1 : VVal -> List Id
 | .fn _ caps=>caps.flatMap ptrsW0
 | .agg cs=>cs.flatMap ptrsW0
 | v=>ptrsW0 v
def objPtrsW (h : VHeap) (id : Id) : List Id :=
 match h id with
 | some (_,.box cs)=>cs.flatMap ptrsW1
 | _=>[]
def rootsW (h : VHeap) (args : List VVal) : List Id :=
 let r0:=addNew [] (args.flatMap ptrsW1)
 if r0.isEmpty then [] else
 let r1:=addNew r0 (r0.flatMap (objPtrsW h))
 let r2:=addNew r1 (r1.flatMap (objPtrsW h))
 r2
def extW0 (R : List Id) (h : VHeap) : VVal -> Option VVal
 | .p d=>some (.p d)
 | .vptr cs off=>some (.vptr cs off)
 | .ptr id ver off=>gd (alive h id ver = true) (ob (posOf R id) fun i=>some (.ptr (.arg i 0) 0 off))
 | .own id ver off len=>gd (alive h id ver = true) (ob (posOf R id) fun i=>some (.own (.arg i 0) 0 off len))
 | .mref id ver=>gd (alive h id ver = true) (ob (posOf R id) fun i=>some (.mref (.arg i 0) 0))
 | .eptr id ver j off=>gd (alive h id ver = true) (ob (posOf R id) fun i=>some (.eptr (.arg i 0) 0 j off))
 | _=>none
def extW1 (R : List Id) (h : VHeap) : VVal -> Option VVal
 | .fn f caps=>ob (mapO (extW0 R h) caps) fun cs=>some (.fn f cs)
 | .agg cs=>ob (mapO (extW0 R h) cs) fun cs=>some (.agg cs)
 | v=>extW0 R h v
def extObW (R : List Id) (h : VHeap) (id : Id) : Option Ob :=
 match h id with
 | some (_,.box cs)=>ob (mapO (extW1 R h) cs) fun cs=>some (.box cs)
 | some (_,.arr sz xs)=>some (.arr sz xs)
 | some (_,.map kt ks vs)=>some (.map kt ks vs)
 | _=>none
def backW0 (R : List Id) (h : VHeap) : VVal -> Option VVal
 | .p d=>some (.p d)
 | .ptr (.arg i 0) 0 off=>ob R[i]? fun id=>ob (h id) fun o=>some (.ptr id o.1 off)
 | .own (.arg i 0) ver off len=>ob R[i]? fun id=>ob (h id) fun o=>some (.own id (o.1 + ver) off len)
 | .mref (.arg i 0) 0=>ob R[i]? fun id=>ob (h id) fun o=>some (.mref id o.1)
 | _=>none
def backW1 (R : List Id) (h : VHeap) : VVal -> Option VVal
 | .fn f caps=>ob (mapO (backW0 R h) caps) fun cs=>some (.fn f cs)
 | v=>backW0 R h v
def inC (R : List Id) (h : VHeap) (d j : Nat) : VVal -> Option (VVal × List (Id × Nat × Ob))
 | .fresh sz xs=>some (.own (.slot d (j + 1)) (nv (h (.slot d (j + 1))) + 1) 0 xs.length,[(.slot d (j + 1),nv (h (.slot d (j + 1))) + 1,.arr sz xs)])
 | v=>ob (backW1 R h v) fun v'=>some (v',[])
def inCL (R : List Id) (h : VHeap) (d : Nat) : Nat -> List VVal -> Option (List VVal × List (Id × Nat × Ob))
 | _,[]=>some ([],[])
 | j,v :: vs=>ob (inC R h d j v) fun r=>ob (inCL R h d (j + 1) vs) fun rs=>some (r.1 :: rs.1,r.2 ++ rs.2)
def backObs (R : List Id) (h : VHeap) (d : Nat) : Nat -> List Id -> List Ob -> Option (List (Id × Nat × Ob) × List (Id × Nat × Ob))
 | _,[],[]=>some ([],[])
 | j,id :: ids,o :: os=>ob (h id) fun q=>match q.2,o with
  | .box _,.box cs=>ob (inCL R h d j cs) fun r=>ob (backObs R h d (j + cs.length) ids os) fun us=>some ((id,q.1,.box r.1) :: us.1,r.2 ++ us.2)
  | .arr _ _,.arr sz xs=>ob (backObs R h d j ids os) fun us=>some ((id,q.1,.arr sz xs) :: us.1,us.2)
  | .arr _ _,.box [.undef,.fresh sz xs]=>ob (backObs R h d j ids os) fun us=>some ((id,q.1 + 1,.arr sz xs) :: us.1,us.2)
  | .map _ _ _,.map kt ks vs=>ob (backObs R h d j ids os) fun us=>some ((id,q.1,.map kt ks vs) :: us.1,us.2)
  | _,_=>none
 | _,_,_=>none
def apartRes (R : List Id) (as_ qs : List (Id × Nat × Ob)) : Bool:=qs.all fun x=>!R.contains x.1 && as_.all fun y=>!decide (y.1 = x.1)
def vcallRW (Γ : Sig) (h : VHeap) (d : Nat) (f : FuncId) (args : List VVal) (R : List Id) : Option (VVal × List (Id × Nat × Ob)) :=
 ob (mapO (extW1 R h) args) fun args'=>ob (mapO (extObW R h) R) fun H=>ob (Γ f args' H) fun r =>
  ob (backObs R h d 1000 R r.2) fun us=>ob (inResW R h d r.1) fun q=>gd (apartRes R us.2 q.2 = true) (some (q.1,us.1 ++ (us.2 ++ q.2)))
def vcallW (Γ : Sig) (h : VHeap) (d : Nat) (f : FuncId) (args : List VVal) : Option (VVal × List (Id × Nat × Ob)):=vcallRW Γ h d f args (rootsW h args)
def vcopy (h : VHeap) (sz : Nat) (a x : VVal) : Option (VVal × List (Id × Nat × Ob)) :=
 match a with
 | .own id ver off len=>match h id with
  | some (v,.arr sz' xs)=>gd (v = ver) <| gd (sz' = sz) <| ob (velems h x) fun r=>gd (r.1 = sz \/ r.2 = []) <|
    some (.p (.int .i64 (min len r.2.length : Nat)),[(id,v,.arr sz (splice xs off (r.2.take (min len r.2.length))))])
  | _=>none
 | _=>none
def vclear (h : VHeap) (sz : Nat) (zero : PV) (a : VVal) : Option (VVal × List (Id × Nat × Ob)) :=
 match a with
 | .own id ver off len=>match h id with
  | some (v,.arr sz' xs)=>gd (v = ver) <| gd (sz' = sz) (some (.dead,[(id,v,.arr sz (splice xs off (List.replicate len zero)))]))
  | _=>none
 | _=>none
def unU8 : PV -> Option Int
 | .int .u8 n=>some n
 | _=>none
def bytesI (ns : List Int) : ByteArray:=⟨(ns.map fun n=>UInt8.ofNat n.toNat).toArray⟩
open Classical in
noncomputable def stillC (h : VHeap) (us : List (Id × Nat × Ob)) : Bool:=decide (∀ x ∈ us,h x.1 = some x.2)
theorem stillC_nil {h : VHeap} : stillC h [] = true:=by simp [stillC]
theorem stillC_cons {h : VHeap} {i : Id} {n : Nat} {o : Ob} {us : List (Id × Nat × Ob)} : (stillC h ((i,n,o) :: us) = true) = (h i = some (n,o) /\ stillC h us = true):=by
 simp only [stillC,decide_eq_true_eq,lfm]
noncomputable def evalOp (Γ : Sig) (look : VArg -> Option VVal) (h : VHeap) (d : Nat) : VOp -> Option (VVal × List (Id × Nat × Ob))
 | .move x=>ob (look x) fun v=>some (v,[])
 | .newArr sz=>some (.own (.slot d 0) (nv (h (.slot d 0))) 0 0,[(.slot d 0,nv (h (.slot d 0)),.arr sz [])])
 | .pick c a b=>ob (look c) fun v=>match v with
  | .p (.bool t)=>br t (ob (look a) fun v=>some (v,[])) (ob (look b) fun v=>some (v,[]))
  | _=>none
 | .alloc zero=>some (.ptr (.slot d 0) (nv (h.upds (zcells d h 0 zero).2 (.slot d 0))) 0,(zcells d h 0 zero).2 ++ [(.slot d 0,nv (h.upds (zcells d h 0 zero).2 (.slot d 0)),.box (zcells d h 0 zero).1)])
 | .box n x=>ob (look x) fun v=>gd ((vcells v).length = n) <| gd ((vcells v).all solid = true) (some (.ptr (.slot d 0) (nv (h (.slot d 0))) 0,[(.slot d 0,nv (h (.slot d 0)),.box (vcells v))]))
 | .build cells=>ob (bcells look d h 0 cells) fun r=>some (.agg r.1,r.2)
 | .buildSlice sz parts=>ob (mapO (fun x=>ob (look x) fun v=>freezeP v) parts) fun xs =>
   gd (xs.all (fun x=>decide (x.cells.length = sz)) = true) (some (.own (.slot d 0) (nv (h (.slot d 0))) 0 parts.length,[(.slot d 0,nv (h (.slot d 0)),.arr sz xs)]))
 | .buildFz sz parts=>ob (mapO (fun x=>ob (look x) fun v=>freezeP v) parts) fun xs =>
   gd (xs.all (fun x=>decide (x.cells.length = sz)) = true) (some (.p (.slice sz xs),[]))
 | .load agg a=>ob (look a) fun p=>ob (vload h agg p) fun v=>some (v,[])
 | .store n a x=>ob (look a) fun p=>ob (look x) fun v=>ob (vstore h n p v) fun us=>some (.undef,us)
 | .fieldAddr off x=>ob (look x) fun v=>match v with
  | .ptr id ver o=>some (.ptr id ver (o + off),[])
  | .vptr cs o=>some (.vptr cs (o + off),[])
  | .eptr id ver i o=>some (.eptr id ver i (o + off),[])
  | _=>none
 | .field off agg x=>ob (look x) fun v=>match v with
  | .agg cs=>ob (ofCells agg cs off) fun r=>some (r,[])
  | _=>none
 | .indexAddr sz x i=>ob (look x) fun s=>ob (look i) fun n=>match n with
  | .p (.int _ n)=>ob (vindex h sz s n) fun r=>some (r,[])
  | _=>none
 | .indexStr x i=>ob (look x) fun s=>ob (look i) fun n=>match s,n with
  | .p (.str s),.p (.int _ n)=>gd (0 <= n) (ob s[n.toNat]? fun b=>some (.p (.int .u8 b.toNat),[]))
  | _,_=>none
 | .bin op x y=>ob (look x) fun a=>ob (look y) fun b=>ob (vbin op a b) fun r=>some (r,[])
 | .eqAgg neg kts x y=>ob (look x) fun a=>ob (look y) fun b=>match a,b with
  | .agg a,.agg b=>ob (mapO unP a) fun xs=>ob (mapO unP b) fun ys=>ob (eqAll kts xs ys) fun r=>some (.p (.bool (if neg then !r else r)),[])
  | _,_=>none
 | .not x=>ob (look x) fun v=>match v with
  | .p (.bool b)=>some (.p (.bool (!b)),[])
  | _=>none
 | .neg x=>ob (look x) fun v=>match v with
  | .p (.int k n)=>some (.p (.int k (k.wrap (0 - n))),[])
  | _=>none
 | .len x=>ob (look x) fun v=>ob (vlen v) fun n=>some (.p (.int .i64 n),[])
 | .lenStr x=>ob (look x) fun v=>ob (vlenS v) fun n=>some (.p (.int .i64 n),[])
 | .eqB neg x y=>ob (look x) fun a=>ob (look y) fun b=>match a,b with
  | .p (.bool a),.p (.bool b)=>some (.p (.bool (if neg then !(a == b) else a == b)),[])
  | _,_=>none
 | .append sz bytes s x=>ob (look s) fun a=>ob (look x) fun b=>vappend h sz bytes a b
 | .appendNil sz bytes x=>ob (look x) fun b=>vappendNil d h sz bytes b
 | .slice str sz lo hi mx x=>ob (look x) fun s=>br str (vsliceS look lo hi s) (vslice d h look sz lo hi mx s)
 | .lookup ok kt zero m k=>ob (look m) fun m=>ob (look k) fun k=>ob (ventries h m) fun es=>gd (es.1 = kt \/ es.2.1 = []) <| ob (mkey kt k) fun k=>some (vlookup ok zero es.2.1 es.2.2 k,[])
 | .mapUpdate kt m k x=>ob (look m) fun m=>ob (look k) fun k=>ob (look x) fun x=>ob (mkey kt k) fun k=>ob (freezeP x) fun x=>match m with
  | .mref id ver=>match h id with
   | some (v,.map kt' ks vs)=>gd (v = ver) <| gd (kt' = kt) (some (.undef,[(id,v,.map kt (mput ks vs k x).1 (mput ks vs k x).2)]))
   | _=>none
  | _=>none
 | .makeMap kt=>some (.mref (.slot d 0) (nv (h (.slot d 0))),[(.slot d 0,nv (h (.slot d 0)),.map kt [] [])])
 | .mapLen x=>ob (look x) fun m=>ob (ventries h m) fun es=>some (.p (.int .i64 es.2.1.length),[])
 | .extract x i=>ob (look x) fun v=>match v with
  | .tup vs=>ob vs[i]? fun v=>some (v,[])
  | _=>none
 | .minmax isMax xs=>ob (mapO look xs) fun vs=>ob (minmaxI isMax vs) fun r=>some (r,[])
 | .conv k x=>ob (look x) fun v=>match v with
  | .p (.int _ n)=>some (.p (.int k (k.wrap n)),[])
  | _=>none
 | .strBytes x=>ob (look x) fun v=>match v with
  | .p (.str s)=>some (.p (.slice 1 (s.data.toList.map fun b=>.int .u8 b.toNat)),[])
  | _=>none
 | .bytesStr x=>ob (look x) fun v=>ob (velems h v) fun r=>gd (r.1 = 1) <| ob (mapO unU8 r.2) fun ns=>some (.p (.str (bytesI ns)),[])
 | .nilCheck x=>ob (look x) fun v=>match v with
  | .ptr id ver off=>some (.ptr id ver off,[])
  | .vptr cs off=>some (.vptr cs off,[])
  | .eptr id ver i off=>some (.eptr id ver i off,[])
  | .fn f caps=>some (.fn f caps,[])
  | _=>none
 | .makeFunc f caps=>ob (mapO look caps) fun cs=>some (.fn f cs,[])
 | .call f args=>ob (mapO look args) fun vs=>vcallOp Γ h d f vs
 | .callv x args=>ob (look x) fun g=>ob (mapO look args) fun vs=>match g with
  | .fn f caps=>vcallOp Γ h d f (vs ++ caps)
  | .p (.fn f)=>vcallOp Γ h d f vs
  | _=>none
 | .callW f args=>ob (mapO look args) fun vs=>vcallW Γ h d f vs
 | .callR f args=>ob (mapO look args) fun vs=>ob (vcallW Γ h d f vs) fun q=>gd (stillC h q.2 = true) (some (q.1,[]))
 | .callvW x args=>ob (look x) fun g=>ob (mapO look args) fun vs=>match g with
  | .fn f caps=>vcallW Γ h d f (vs ++ caps)
  | .p (.fn f)=>vcallW Γ h d f vs
  | _=>none
 | .make sz bytes zero n=>ob (look n) fun v=>match v with
  | .p (.int _ m)=>gd (0 <= m) <| gd ((bytes : Int) * m <= 281474976710656) <| gd (m <= 9223372036854775807) <|
    some (.own (.slot d 0) (nv (h (.slot d 0))) 0 m.toNat,[(.slot d 0,nv (h (.slot d 0)),.arr sz (List.replicate m.toNat zero))])
  | _=>none
 | .copy sz a x=>ob (look a) fun a=>ob (look x) fun x=>vcopy h sz a x
 | .clear sz zero a=>ob (look a) fun a=>vclear h sz zero a
 | .unlit x=>ob (look x) fun v=>match v with
  | .p (.lit sz xs)=>some (.p (.slice sz xs),[])
  | _=>none
 | .buildLit sz parts=>ob (mapO (fun x=>ob (look x) fun v=>freezeP v) parts) fun xs =>
   gd (xs.all (fun x=>decide (x.cells.length = sz)) = true) (some (.p (.lit sz xs),[]))
 | .appendLit sz bytes s x=>ob (look s) fun a=>ob (look x) fun b=>vappendLit d h sz bytes a b
 | .mapEntry kt zero m k=>ob (look m) fun m=>ob (look k) fun k=>ob (mkey kt k) fun k=>match m with
  | .mref id ver=>match h id with
   | some (v,.map kt' ks vs)=>gd (v = ver) <| gd (kt' = kt) (some (.tup [thaw ((mget ks vs k).getD zero),.p (.int .i64 (kpos ks k))],[(id,v,.map kt (mput ks vs k ((mget ks vs k).getD zero)).1 (mput ks vs k ((mget ks vs k).getD zero)).2)]))
   | _=>none
  | _=>none
 | .entryStore m s x=>ob (look m) fun m=>ob (look s) fun s=>ob (look x) fun x=>ob (freezeP x) fun x=>match m,s with
  | .mref id ver,.p (.int .i64 n)=>match h id with
   | some (v,.map kt ks vs)=>gd (v = ver) <| gd (0 <= n) <| gd (n.toNat < vs.length) (some (.undef,[(id,v,.map kt ks (vs.set n.toNat x))]))
   | _=>none
  | _,_=>none
 | .buildArr sz parts=>ob (mapO (fun x=>ob (look x) fun v=>freezeP v) parts) fun xs=>gd (xs.all (fun x=>decide (x.cells.length = sz)) = true) (some (.agg ((xs.flatMap PV.cells).map .p),[]))
 | .indexArr n sz agg x i=>ob (look x) fun v=>ob (look i) fun i=>match v,i with
  | .agg cs,.p (.int _ k)=>gd (0 <= k) <| gd (k < n) <| ob (ofCells agg cs (k.toNat * sz)) fun r=>some (r,[])
  | _,_=>none
end Go.V
namespace Go.V
structure RS where
 pe : Nat -> VVal
 te : Nat -> Option VVal
 h : VHeap
def RS.look (r : RS) : VArg -> Option VVal
 | .v s=>some (r.pe s)
 | .t s=>r.te s
 | .c d=>some (thaw d)
def updV (e : Nat -> VVal) (s : Nat) (v : VVal) : Nat -> VVal:=fun t=>if t = s then v else e t
def updT (e : Nat -> Option VVal) (s : Nat) (v : VVal) : Nat -> Option VVal:=fun t=>if t = s then some v else e t
def RS.put (r : RS) : VDst -> VVal -> RS
 | .v s,v=>{ r with pe:=updV r.pe s v }
 | .t s,v=>{ r with te:=updT r.te s v }
 | .none,_=>r
def VDst.slot : VDst -> Nat
 | .v s | .t s=>s
 | .none=>0
noncomputable def stepO (Γ : Sig) (o : VOper) (r : RS) : Option RS :=
 match o.guard with
 | none=>ob (evalOp Γ r.look r.h o.dst.slot o.op) fun q=>some { r.put o.dst q.1 with h:=r.h.upds q.2 }
 | some (g,want)=>ob (r.look g) fun gv=>match gv with
  | .p (.bool b)=>br (b == want) (ob (evalOp Γ r.look r.h o.dst.slot o.op) fun q=>some { r.put o.dst q.1 with h:=r.h.upds q.2 })
   (some (r.put o.dst .undef))
  | .undef=>some (r.put o.dst .undef)
  | _=>none
def ids0 : VVal -> List Id
 | .own id _ _ _ | .ptr id _ _ | .eptr id _ _ _ | .mref id _=>[id]
 | _=>[]
def ids1 : VVal -> List Id
 | .fn _ cs | .agg cs=>cs.flatMap ids0
 | v=>ids0 v
def VOp.args : VOp -> List VArg
 | .move x | .box _ x | .load _ x | .fieldAddr _ x | .field _ _ x | .not x | .neg x | .len x | .lenStr x | .appendNil _ _ x | .mapLen x | .extract x _ | .conv _ x | .strBytes x | .bytesStr x | .nilCheck x | .make _ _ _ x | .clear _ _ x | .unlit x=>[x]
 | .newArr _ | .alloc _ | .makeMap _=>[]
 | .pick c a b=>[c,a,b]
 | .build cs=>cs.filterMap fun | .a x _ _=>some x | .z _=>none
 | .buildSlice _ ps=>ps
 | .buildFz _ ps=>ps
 | .buildLit _ ps=>ps
 | .store _ a x | .indexAddr _ a x | .indexStr a x | .bin _ a x | .eqAgg _ _ a x | .eqB _ a x | .append _ _ a x | .lookup _ _ _ a x | .copy _ a x | .appendLit _ _ a x=>[a,x]
 | .slice _ _ lo hi mx x=>x :: (lo.toList ++ hi.toList ++ mx.toList)
 | .mapUpdate _ m k x=>[m,k,x]
 | .mapEntry _ _ m k=>[m,k]
 | .entryStore m s x=>[m,s,x]
 | .buildArr _ ps=>ps
 | .indexArr _ _ _ x i=>[x,i]
 | .minmax _ xs | .makeFunc _ xs | .call _ xs | .callW _ xs | .callR _ xs=>xs
 | .callv x xs | .callvW x xs=>x :: xs
def VOp.writes : VOp -> Bool
 | .store _ _ _ | .append _ _ _ _ | .mapUpdate _ _ _ _ | .call _ _ | .callv _ _ | .callW _ _ | .callvW _ _ | .copy _ _ _ | .mapEntry _ _ _ _ | .entryStore _ _ _ | .clear _ _ _=>true
 | _=>false
def VOp.isR : VOp -> Bool
 | .callR _ _=>true
 | _=>false
def callArgs : VOp -> List VVal -> List VVal
 | .callv _ _,.fn _ caps :: vs=>vs ++ caps
 | .callv _ _,_ :: vs=>vs
 | .callvW _ _,.fn _ caps :: vs=>vs ++ caps
 | .callvW _ _,_ :: vs=>vs
 | _,vs=>vs
def callRoots (h : VHeap) : VOp -> List VVal -> List Id
 | .callW _ _,vs | .callvW _ _,vs | .callR _ _,vs=>rootsW h vs
 | _,vs=>roots h vs
def touchF (look : VArg -> Option VVal) (h : VHeap) (o : VOper) : List Id :=
 let vs:=o.op.args.filterMap look
 vs.flatMap ids1 ++ (if o.op.writes || o.op.isR then (callArgs o.op vs).flatMap ids1 ++ callRoots h o.op (callArgs o.op vs) else [])
def touch (r : RS) (o : VOper) : List Id:=touchF r.look r.h o
def Id.at : Id -> Nat -> Bool
 | .slot s _,d=>s == d
 | _,_=>false
def apartFp (o o' : VOper) (t t' : List Id) : Bool :=
 (!o.op.writes || t.all fun i=>!t'.contains i) && (!o'.op.writes || t'.all fun i=>!t.contains i) &&
 t.all (fun i=>!i.at o'.dst.slot) && t'.all (fun i=>!i.at o.dst.slot) && o.dst.slot != o'.dst.slot
noncomputable def runOps (Γ : Sig) : List VOper -> RS -> Option RS
 | [],r=>some r
 | o :: os,r=>ob (stepO Γ o r) fun r'=>runOps Γ os r'
def checkFp (fp : List (Nat × Nat)) (i : Nat) (o : VOper) (t : List Id) : List (Nat × VOper × List Id) -> Bool
 | []=>true
 | (a,o',t') :: acc=>if fp.contains (a,i) = true then apartFp o' o t' t && checkFp fp i o t acc else checkFp fp i o t acc
def fpL (fp : List (Nat × Nat)) (i : Nat) : Bool:=fp.any fun p=>p.1 == i
def fpR (fp : List (Nat × Nat)) (i : Nat) : Bool:=fp.any fun p=>p.2 == i
def noteFp (fp : List (Nat × Nat)) (i : Nat) (o : VOper) (r : RS) (acc : List (Nat × VOper × List Id)) : List (Nat × VOper × List Id) :=
 if fpL fp i = true then (i,o,touch r o) :: acc else acc
noncomputable def runFp (Γ : Sig) (fp : List (Nat × Nat)) : Nat -> List VOper -> RS -> List (Nat × VOper × List Id) -> Option RS
 | _,[],r,_=>some r
 | i,o :: os,r,acc=>if fpR fp i = true then gd (checkFp fp i o (touch r o) acc = true) <| ob (stepO Γ o r) fun r'=>runFp Γ fp (i + 1) os r' (noteFp fp i o r acc)
   else ob (stepO Γ o r) fun r'=>runFp Γ fp (i + 1) os r' (noteFp fp i o r acc)
def fzId (fz : List Nat) : Id -> Bool
 | .slot s _=>fz.contains s
 | .arg _ _=>false
def fz0 (fz : List Nat) (h : VHeap) : VVal -> VVal
 | .own id ver off len=>if fzId fz id then
   match velems h (.own id ver off len) with
   | some r=>.p (.slice r.1 r.2)
   | none=>.dead
  else .own id ver off len
 | v=>v
def fz1 (fz : List Nat) (h : VHeap) : VVal -> VVal
 | .agg cs=>.agg (cs.map (fz0 fz h))
 | .tup vs=>.tup (vs.map (fz0 fz h))
 | v=>fz0 fz h v
def fzOb (fz : List Nat) (h : VHeap) (id : Id) : Option (Nat × Ob) :=
 match h id with
 | some (v,.arr sz xs)=>if fzId fz id then some (v + 1,.gone) else some (v,.arr sz xs)
 | some (v,.box cs)=>some (v,.box (cs.map (fz0 fz h)))
 | o=>o
def freeze (fz : List Nat) (s : St) : St:=if fz.isEmpty then s else { pe:=fun t=>fz1 fz s.h (s.pe t),h:=fzOb fz s.h }
noncomputable def execR (Γ : Sig) (r : VRegion) (s : St) : Option St :=
 ob (if r.fp.isEmpty then runOps Γ r.ops { pe:=(freeze r.fz s).pe,te:=fun _=>none,h:=(freeze r.fz s).h }
   else runFp Γ r.fp 0 r.ops { pe:=(freeze r.fz s).pe,te:=fun _=>none,h:=(freeze r.fz s).h } []) fun q=>some { pe:=q.pe,h:=q.h }
def mv0 (a b : Id) (va n : Nat) : VVal -> VVal
 | .own id ver off len=>if id = a /\ ver = va then .own b n off len else .own id ver off len
 | .eptr id ver i off=>if id = a /\ ver = va then .eptr b n i off else .eptr id ver i off
 | v=>v
def mv1 (a b : Id) (va n : Nat) : VVal -> VVal
 | .agg cs=>.agg (cs.map (mv0 a b va n))
 | .tup vs=>.tup (vs.map (mv0 a b va n))
 | v=>mv0 a b va n v
def mvOb (a b : Id) (va n sz : Nat) (xs : List PV) (h : VHeap) : VHeap:=fun id=>if id = b then some (n,.arr sz xs) else if id = a then some (va + 1,.gone) else
 match h id with
 | some (v,.box cs)=>some (v,.box (cs.map (mv0 a b va n)))
 | o=>o
def moved (a b : Id) (s : St) : St:=match s.h a with
 | some (va,.arr sz xs)=>{ pe:=fun t=>mv1 a b va (nv (s.h b)) (s.pe t),h:=mvOb a b va (nv (s.h b)) sz xs s.h }
 | _=>s
def iterN (b : St -> Option (VExit × St)) : Nat -> St -> Option (VExit × St)
 | 0,_=>none
 | n + 1,s=>ob (b s) fun r=>match r.1 with
  | .normal=>iterN b n r.2
  | _=>some r
open Classical in
noncomputable def iter (b : St -> Option (VExit × St)) (s : St) : Option (VExit × St) :=
 if h : ∃ n r,iterN b n s = some r then some (Classical.choose (Classical.choose_spec h)) else none
noncomputable def exec (Γ : Sig) : VCode -> St -> Option (VExit × St)
 | .skip,s=>some (.normal,s)
 | .region r,s=>ob (execR Γ r s) fun s'=>some (.normal,s')
 | .seq a b,s=>ob (exec Γ a s) fun r=>match r.1 with
  | .normal=>exec Γ b r.2
  | _=>some r
 | .cond c a b,s=>match c with
  | .v t=>match s.pe t with
   | .p (.bool c)=>br c (exec Γ a s) (exec Γ b s)
   | _=>none
  | _=>none
 | .block id c,s=>ob (exec Γ c s) fun r=>if r.1 = .exit id then some (.normal,r.2) else some r
 | .loop c,s=>iter (exec Γ c) s
 | .exit id,s=>some (.exit id,s)
 | .ret,s=>some (.ret,s)
 | .mv a b c,s=>exec Γ c (moved a b s)
 | .scope c,s=>exec Γ c s
 | .fail,_=>none
def enterE (args : List VVal) : Nat -> VVal:=fun s=>args.getD s .undef
def enterH (H : List Ob) : VHeap:=fun id=>match id with
 | .arg i 0=>(H[i]?).map fun o=>(0,o)
 | _=>none
def fetch (s : St) : VRet -> Option VVal
 | .tmp (.v t)=>some (s.pe t)
 | .cell (.v t) agg=>vload s.h agg (s.pe t)
 | _=>none
def out0 (h : VHeap) : VVal -> Option VVal
 | .p d=>some (.p d)
 | .own (.slot s j) ver off len=>ob (velems h (.own (.slot s j) ver off len)) fun r=>gd (off = 0) (some (.fresh r.1 r.2))
 | .mref (.slot s j) ver=>ob (ventries h (.mref (.slot s j) ver)) fun r=>some (.p (.map r.1 r.2.1 r.2.2))
 | .ptr (.arg i 0) ver off=>gd (ver = 0) (some (.ptr (.arg i 0) 0 off))
 | .fn f []=>some (.p (.fn f))
 | _=>none
def out1 (h : VHeap) : VVal -> Option VVal
 | .agg cs=>ob (mapO (out0 h) cs) fun cs=>some (.agg cs)
 | .ptr (.slot s j) ver 0=>match h (.slot s j) with
  | some (v,.box cs)=>gd (v = ver) (ob (mapO (out0 h) cs) fun cs=>some (.boxed cs))
  | _=>none
 | v=>out0 h v
def nodupB : List Id -> Bool
 | []=>true
 | i :: is=>!is.contains i && nodupB is
def ownIds0 : VVal -> List Id
 | .own id _ _ _=>[id]
 | _=>[]
def ownIds1 (h : VHeap) : VVal -> List Id
 | .agg cs=>cs.flatMap ownIds0
 | .ptr id _ _=>match h id with
  | some (_,.box cs)=>id :: cs.flatMap ownIds0
  | _=>[id]
 | v=>ownIds0 v
def outO (h : VHeap) : VVal -> Option VVal
 | .own (.arg i 0) ver off len=>gd (ver = 0) (gd (alive h (.arg i 0) 0 = true) (some (.own (.arg i 0) 0 off len)))
 | v=>out1 h v
def outsT (h : VHeap) : List VVal -> Option VVal
 | [v]=>outO h v
 | vs=>ob (mapO (out1 h) vs) fun vs=>some (.tup vs)
def newIds0 : VVal -> List Id
 | .own (.slot s j) _ _ _=>[.slot s j]
 | _=>[]
def argOwns (h : VHeap) : Nat -> Nat -> List Id
 | _,0=>[]
 | i,n + 1=>(match h (.arg i 0) with
  | some (_,.box cs)=>cs.flatMap newIds0
  | _=>[]) ++ argOwns h (i + 1) n
def outs (h : VHeap) (n : Nat) (vs : List VVal) : Option VVal:=gd (nodupB (vs.flatMap (ownIds1 h) ++ argOwns h 0 n) = true) (outsT h vs)
def outArg1 (h : VHeap) : VVal -> Option VVal
 | .p d=>some (.p d)
 | .ptr (.arg i 0) ver off=>gd (ver = 0) (some (.ptr (.arg i 0) 0 off))
 | .own (.arg i 0) ver off len=>gd (alive h (.arg i 0) ver = true) (some (.own (.arg i 0) (if ver = 0 then 0 else 1) off len))
 | .own (.slot s j) ver off len=>ob (velems h (.own (.slot s j) ver off len)) fun r=>gd (off = 0) (some (.fresh r.1 r.2))
 | .mref (.arg i 0) ver=>gd (ver = 0) (some (.mref (.arg i 0) 0))
 | _=>none
def outArg (h : VHeap) : VVal -> Option VVal
 | .fn f caps=>ob (mapO (outArg1 h) caps) fun cs=>some (.fn f cs)
 | v=>outArg1 h v
def outBox (h : VHeap) (i : Nat) : Option Ob :=
 match h (.arg i 0) with
 | some (v,.box cs)=>gd (v = 0) (ob (mapO (outArg h) cs) fun cs=>some (.box cs))
 | some (v,.arr sz xs)=>some (if v = 0 then .arr sz xs else .box [.undef,.fresh sz xs])
 | some (v,.map kt ks vs)=>gd (v = 0) (some (.map kt ks vs))
 | _=>none
def outH (h : VHeap) : Nat -> Nat -> Option (List Ob)
 | _,0=>some []
 | i,n + 1=>ob (outBox h i) fun o=>ob (outH h (i + 1) n) fun os=>some (o :: os)
def leave (rets : List VRet) (n : Nat) (r : VExit × St) : Option (VVal × List Ob) :=
 match r.1 with
 | .exit _=>none
 | _=>ob (mapO (fetch r.2) rets) fun vs=>ob (outs r.2.h n vs) fun v=>ob (outH r.2.h 0 n) fun H'=>some (v,H')
noncomputable def callF (Γ : Sig) (vf : VFunc) (args : List VVal) (H : List Ob) : Option (VVal × List Ob) :=
 gd (args.length = vf.nparams) <|
  ob (exec Γ vf.body { pe:=enterE args,h:=enterH H }) fun r=>leave vf.rets H.length r
noncomputable def callN (prog : FuncId -> Option VFunc) (X : Sig) : Nat -> Sig
 | 0=>X
 | n + 1=>fun f args H=>match X f args H with
  | some r=>some r
  | none=>match prog f with
   | some vf=>callF (callN prog X n) vf args H
   | none=>none
open Classical in
noncomputable def vcall (prog : FuncId -> Option VFunc) (X : Sig) : Sig:=fun f args H =>
 if h : ∃ n r,callN prog X n f args H = some r then some (Classical.choose (Classical.choose_spec h)) else none
end Go.V
namespace Go.V
def vb7 : VCode:=.seq (rg [oV 6 (.move cF)]) (.seq (.seq (rg [oM 16 0,oY 17 16,oM 18 1,oY 19 18,oT 20 (.bin .add (.t 17) (.t 19)),oT 21 (.bin .gtr (.t 20) (cI 200)),oP 22 21,gM 23 2 22 false,oG 24 (.call 8 [.t 23]) 22 false,oG 25 (.not (.t 24)) 22 false,oV 26 (.pick (.t 22) cT (.t 25))]) (.cond (.v 26) (.seq (rg [oC 27 27 [],oN 6 27]) .ret) .skip)) (.seq (rg [oM 28 2,oC 29 10 [.t 28],oN 7 29]) (.seq (.seq (rg [oM 30 0,oM 31 1,oM 32 7,oC 33 28 [.t 32],oT 34 (.buildArr 1 [.t 30,.t 31,.t 33]),oM 35 7,oC 36 29 [.t 35,.c (.int .i64 9)],oM 37 7,oC 38 29 [.t 37,.c (.int .i64 9)],oM 39 7,oC 40 29 [.t 39,.c (.int .i64 9)],oT 41 (.buildArr 1 [.t 36,.t 38,.t 40]),oM 42 7,oC 43 28 [.t 42],oM 44 0,oM 45 7,oC 46 29 [.t 45,.c (.int .i64 5)],oT 47 (.buildArr 1 [.t 43,.t 44,.t 46]),oV 48 (.buildSlice 3 [.t 34,.t 41,.t 47]),oV 49 (.len (.v 48)),oJ 50 0]) (.block 0 (.loop (.seq (.region ⟨[oV 51 (.bin .lss (.v 50) (.v 49))],[9,62,65,68,72,79,87,102,104,111,112,116,117,125,126,130,131],[]⟩) (.seq (.cond (.v 51) .skip (.exit 0)) (.seq (.block 1 (.seq (rg [oT 52 (.indexAddr 3 (.v 48) (.v 50)),oR 53 3 52,oV 9 (.alloc [.nil 1,.nil 1,.nil 1]),oS 3 9 53]) (.seq (rg [oF 54 0 9,oL 55 54,oF 56 1 9,oL 57 56,oF 58 2 9,oL 59 58,oN 10 55,oN 11 57,oN 12 59]) (.seq (rg [oM 60 10,oM 61 11,oC 62 30 [.t 60,.t 61],oM 63 10,oM 64 11,oC 65 31 [.t 63,.t 64],oM 66 10,oM 67 11,oC 68 32 [.t 66,.t 67],oN 13 62,oN 14 65,oN 15 68]) (.seq (.seq (rg [oM 69 13,oM 70 10,oM 71 11,oC 72 34 [.t 70,.t 71],oC 73 33 [.t 69,.t 72],oT 74 (.not (.t 73)),oP 75 74,gM 76 14 75 false,gM 77 10 75 false,gM 78 11 75 false,oG 79 (.call 35 [.t 77,.t 78]) 75 false,oG 80 (.call 33 [.t 76,.t 79]) 75 false,oG 81 (.not (.t 80)) 75 false,oO 82 75 81,oP 83 82,gM 84 15 83 false,gM 85 10 83 false,gM 86 11 83 false,oG 87 (.call 36 [.t 85,.t 86]) 83 false,oG 88 (.call 33 [.t 84,.t 87]) 83 false,oG 89 (.not (.t 88)) 83 false,oO 90 83 89,oP 91 90,gM 92 10 91 false,gM 93 11 91 false,oG 94 (.call 37 [.t 92,.t 93]) 91 false,gM 95 10 91 false,gM 96 11 91 false,oG 97 (.call 38 [.t 95,.t 96]) 91 false,oG 98 (.eqB true (.t 94) (.t 97)) 91 false,oV 99 (.pick (.t 91) cT (.t 98))]) (.cond (.v 99) (.seq (rg [oV 6 (.move cF)]) .ret) .skip)) (.seq (rg [oM 100 14,oM 101 15,oC 102 30 [.t 100,.t 101],oM 103 10,oC 104 39 [.t 103],oC 105 33 [.t 102,.t 104],oT 106 (.not (.t 105)),oP 107 106,gM 108 10 107 false,gM 109 11 107 false,gM 110 12 107 false,oG 111 (.call 30 [.t 109,.t 110]) 107 false,oG 112 (.call 31 [.t 108,.t 111]) 107 false,gM 113 14 107 false,gM 114 10 107 false,gM 115 12 107 false,oG 116 (.call 31 [.t 114,.t 115]) 107 false,oG 117 (.call 30 [.t 113,.t 116]) 107 false,oG 118 (.call 33 [.t 112,.t 117]) 107 false,oG 119 (.not (.t 118)) 107 false,oO 120 107 119,oP 121 120,gM 122 10 121 false,gM 123 11 121 false,gM 124 12 121 false,oG 125 (.call 30 [.t 123,.t 124]) 121 false,oG 126 (.call 32 [.t 122,.t 125]) 121 false,gM 127 15 121 false,gM 128 10 121 false,gM 129 12 121 false,oG 130 (.call 32 [.t 128,.t 129]) 121 false,oG 131 (.call 31 [.t 127,.t 130]) 121 false,oG 132 (.call 33 [.t 126,.t 131]) 121 false,oG 133 (.not (.t 132)) 121 false,oO 134 121 133,oP 135 134,gM 136 10 135 false,gM 137 11 135 false,oG 138 (.call 37 [.t 136,.t 137]) 135 false,gM 139 15 135 false,oG 140 (.len (.t 139)) 135 false,oG 141 (.bin .eql (.t 140) (cI 0)) 135 false,oG 142 (.eqB true (.t 138) (.t 141)) 135 false,oV 143 (.pick (.t 135) cT (.t 142))]) (.cond (.v 143) (.seq (rg [oV 6 (.move cF)]) .ret) .skip))))))) (rg [oT 144 (.bin .add (.v 50) (cI 1)),oN 50 144]))))))) (.seq (rg [oC 145 27 [],oN 6 145]) .ret))))
def vf7 : VFunc:={ vs:=[0,1,2,6,7,9,10,11,12,13,14,15,26,48,49,50,51,99,143],nparams:=3,rets:=[.tmp (.v 6)],body:=vb7 }
def vb8 : VCode:=.seq (rg [oV 2 (.move cF)]) (.seq (rg [oM 3 0,oY 4 3,oT 5 (.bin .leq (.t 4) (cI 600)),oN 2 5]) .ret)
def vf8 : VFunc:={ vs:=[0,2],nparams:=1,rets:=[.tmp (.v 2)],body:=vb8 }
def vb10 : VCode:=.seq (rg [oV 2 (.move (.c (.nilp)))]) (.seq (rg [oM 3 0,oT 4 (.build [.a (.t 3) 0 1,.z (.c (.int .i64 0))]),oT 5 (.box 2 (.t 4)),oN 2 5]) .ret)
def vf10 : VFunc:={ vs:=[0,2],nparams:=1,rets:=[.tmp (.v 2)],body:=vb10 }
def vb15 : VCode:=.seq (rg [oJ 4 0]) (.seq (.seq (rg [oM 6 0,oT 7 (.nilCheck (.t 6)),oQ 8 1 7,oL 9 8,oM 10 0,oT 11 (.nilCheck (.t 10)),oQ 12 0 11,oL 13 12,oY 14 13,oT 15 (.bin .geq (.t 9) (.t 14)),oP 16 15,gM 17 1 16 false,oG 18 (.bin .lss (.t 17) (cI 1)) 16 false,oV 19 (.pick (.t 16) cT (.t 18))]) (.cond (.v 19) (.seq (rg [oJ 4 0]) .ret) .skip)) (.seq (rg [oM 20 0,oT 21 (.nilCheck (.t 20)),oQ 22 1 21,oL 23 22,oI 24 23,oT 25 (.nilCheck (.t 20)),oQ 26 1 25,oZ (.store 1 (.t 26) (.t 24))]) (.seq (rg [oM 27 0,oT 28 (.nilCheck (.t 27)),oQ 29 0 28,oL 30 29,oM 31 0,oT 32 (.nilCheck (.t 31)),oQ 33 1 32,oL 34 33,oT 35 (.bin .sub (.t 34) (cI 1)),oA 36 1 30 35,oL 37 36,oM 38 1,oT 39 (.bin .rem (.t 37) (.t 38)),oN 5 39]) (.seq (.seq (rg [oM 40 5,oV 41 (.bin .lss (.t 40) (cI 0))]) (.cond (.v 41) (rg [oM 42 5,oM 43 1,oT 44 (.bin .add (.t 42) (.t 43)),oN 5 44]) .skip)) (.seq (rg [oM 45 5,oN 4 45]) .ret)))))
def vf15 : VFunc:={ vs:=[0,1,4,5,19,41],nparams:=2,rets:=[.tmp (.v 4)],body:=vb15 }
def vb27 : VCode:=.seq (rg [oV 0 (.move cF)]) (.seq (rg [oT 6 (.call 68 [.c (.str ⟨#[48,45,50,44,55,44,49]⟩),.c (.int .i64 8)]),oP 5 6,oE 7 5 0,oE 8 5 1,oN 1 7,oN 2 8]) (.seq (rg [oM 10 1,oC 11 69 [.t 10],oP 9 11,oE 12 9 0,oE 13 9 1,oN 3 12,oN 4 13]) (.seq (rg [oM 14 2,oT 15 (.bin .eql (.t 14) (cI 0)),oP 16 15,gM 17 4 16 true,oG 18 (.bin .eql (.t 17) (cI 0)) 16 true,oB 19 16 18,oP 20 19,gM 21 3 20 true,oG 22 (.bin .eql (.t 21) (.c (.str ⟨#[48,45,50,44,55]⟩))) 20 true,oB 23 20 22,oP 24 23,gM 25 1 24 true,oG 26 (.len (.t 25)) 24 true,oG 27 (.bin .eql (.t 26) (cI 4)) 24 true,oB 28 24 27,oN 0 28]) .ret)))
def vf27 : VFunc:={ vs:=[0,1,2,3,4],nparams:=0,rets:=[.tmp (.v 0)],body:=vb27 }
def vb28 : VCode:=.seq (rg [oV 2 (.newArr 1)]) (.seq (rg [oV 3 (.newArr 1)]) (.seq (.seq (rg [oM 5 0,oC 6 15 [.t 5,.c (.int .i64 6)],oN 4 6]) (.block 0 (.loop (.seq (.seq (rg [oM 7 4,oV 8 (.bin .gtr (.t 7) (cI 0))]) (.cond (.v 8) .skip (.exit 0))) (.seq (.block 1 (rg [oM 11 3,oM 12 0,oC 13 15 [.t 12,.c (.int .i64 12)],oT 14 (.bin .sub (.t 13) (cI 2)),oT 15 (.buildSlice 1 [.t 14]),oT 16 (.append 1 8 (.t 11) (.t 15)),oN 3 16])) (rg [oM 9 4,oT 10 (.bin .sub (.t 9) (cI 1)),oN 4 10])))))) (.seq (.region ⟨[oM 17 3,oN 2 17],[3,16],[]⟩) .ret)))
def vf28 : VFunc:={ vs:=[0,2,3,4,8],nparams:=1,rets:=[.tmp (.v 2)],body:=vb28 }
def vb29 : VCode:=.seq (rg [oV 4 (.newArr 1)]) (.seq (rg [oV 5 (.newArr 1)]) (.seq (.seq (rg [oJ 6 0]) (.block 0 (.loop (.seq (.seq (rg [oM 7 6,oM 8 1,oU 9 7 8]) (.cond (.v 9) .skip (.exit 0))) (.seq (.block 1 (.seq (rg [oM 12 0,oV 13 (.call 47 [.t 12,.c (.int .i64 3)])]) (.cond (.v 13) (rg [oM 14 5,oM 15 6,oT 16 (.buildSlice 1 [.t 15]),oT 17 (.append 1 8 (.t 14) (.t 16)),oN 5 17]) .skip))) (rg [oM 10 6,oI 11 10,oN 6 11])))))) (.seq (.region ⟨[oM 18 5,oN 4 18],[5,17],[]⟩) .ret)))
def vf29 : VFunc:={ vs:=[0,1,4,5,6,9,13],nparams:=2,rets:=[.tmp (.v 4)],body:=vb29 }
def vb30 : VCode:=.seq (rg [oV 4 (.newArr 1)]) (.seq (rg [oM 5 0,oM 6 1,oT 7 (.buildFz 1 [.t 5,.t 6]),oC 8 71 [.t 7],oC 9 70 [.t 8],oN 4 9]) .ret)
def vf30 : VFunc:={ vs:=[0,1,4],nparams:=2,rets:=[.tmp (.v 4)],body:=vb30 }
def vb31 : VCode:=.seq (rg [oX 3 1 1,oV 4 (.newArr 1)]) (.seq (rg [oM 5 0,oT 6 (.makeFunc 73 [.v 3]),oC 7 72 [.t 5,.t 6],oN 4 7]) .ret)
def vf31 : VFunc:={ vs:=[0,1,3,4],nparams:=2,rets:=[.tmp (.v 4)],body:=vb31 }
def vb32 : VCode:=.seq (rg [oX 3 1 1,oV 4 (.newArr 1)]) (.seq (rg [oM 5 0,oT 6 (.makeFunc 75 [.v 3]),oC 7 72 [.t 5,.t 6],oN 4 7]) .ret)
def vf32 : VFunc:={ vs:=[0,1,3,4],nparams:=2,rets:=[.tmp (.v 4)],body:=vb32 }
def vb33 : VCode:=.seq (rg [oV 4 (.move cF)]) (.seq (.seq (rg [oM 6 0,oY 7 6,oM 8 1,oY 9 8,oV 10 (.bin .neq (.t 7) (.t 9))]) (.cond (.v 10) (.seq (rg [oV 4 (.move cF)]) .ret) .skip)) (.seq (.seq (rg [oJ 5 0]) (.block 0 (.loop (.seq (.seq (rg [oM 11 5,oM 12 0,oY 13 12,oU 14 11 13]) (.cond (.v 14) .skip (.exit 0))) (.seq (.block 1 (.seq (rg [oM 17 0,oM 18 5,oA 19 1 17 18,oL 20 19,oM 21 1,oM 22 5,oA 23 1 21 22,oL 24 23,oV 25 (.bin .neq (.t 20) (.t 24))]) (.cond (.v 25) (.seq (rg [oV 4 (.move cF)]) .ret) .skip))) (rg [oM 15 5,oI 16 15,oN 5 16])))))) (.seq (rg [oV 4 (.move cT)]) .ret)))
def vf33 : VFunc:={ vs:=[0,1,4,5,10,14,25],nparams:=2,rets:=[.tmp (.v 4)],body:=vb33 }
def vb34 : VCode:=.seq (rg [oV 4 (.newArr 1)]) (.seq (rg [oM 5 0,oT 6 (.appendNil 1 8 (.t 5)),oM 7 1,oT 8 (.append 1 8 (.t 6) (.t 7)),oC 9 39 [.t 8],oN 4 9]) .ret)
def vf34 : VFunc:={ vs:=[0,1,4],nparams:=2,rets:=[.tmp (.v 4)],body:=vb34 }
def vb35 : VCode:=.seq (rg [oV 4 (.newArr 1)]) (.seq (rg [oV 5 (.newArr 1)]) (.seq (.seq (rg [oJ 6 0]) (.block 0 (.loop (.seq (.seq (rg [oM 7 6,oM 8 0,oY 9 8,oU 10 7 9]) (.cond (.v 10) .skip (.exit 0))) (.seq (.block 1 (.seq (rg [oM 13 1,oM 14 0,oM 15 6,oA 16 1 14 15,oL 17 16,oV 18 (.call 76 [.t 13,.t 17])]) (.cond (.v 18) (rg [oM 19 5,oM 20 0,oM 21 6,oA 22 1 20 21,oL 23 22,oT 24 (.buildSlice 1 [.t 23]),oT 25 (.append 1 8 (.t 19) (.t 24)),oN 5 25]) .skip))) (rg [oM 11 6,oI 12 11,oN 6 12])))))) (.seq (rg [oM 26 5,oC 27 39 [.t 26],oN 4 27]) .ret)))
def vf35 : VFunc:={ vs:=[0,1,4,5,6,10,18],nparams:=2,rets:=[.tmp (.v 4)],body:=vb35 }
def vb36 : VCode:=.seq (rg [oV 4 (.newArr 1)]) (.seq (rg [oV 5 (.newArr 1)]) (.seq (.seq (rg [oJ 6 0]) (.block 0 (.loop (.seq (.seq (rg [oM 7 6,oM 8 0,oY 9 8,oU 10 7 9]) (.cond (.v 10) .skip (.exit 0))) (.seq (.block 1 (.seq (rg [oM 13 1,oM 14 0,oM 15 6,oA 16 1 14 15,oL 17 16,oC 18 76 [.t 13,.t 17],oV 19 (.not (.t 18))]) (.cond (.v 19) (rg [oM 20 5,oM 21 0,oM 22 6,oA 23 1 21 22,oL 24 23,oT 25 (.buildSlice 1 [.t 24]),oT 26 (.append 1 8 (.t 20) (.t 25)),oN 5 26]) .skip))) (rg [oM 11 6,oI 12 11,oN 6 12])))))) (.seq (rg [oM 27 5,oC 28 39 [.t 27],oN 4 28]) .ret)))
def vf36 : VFunc:={ vs:=[0,1,4,5,6,10,19],nparams:=2,rets:=[.tmp (.v 4)],body:=vb36 }
def vb37 : VCode:=.seq (rg [oX 3 1 1,oV 4 (.move cF)]) (.seq (rg [oM 5 0,oT 6 (.makeFunc 78 [.v 3]),oC 7 77 [.t 5,.t 6],oT 8 (.not (.t 7)),oN 4 8]) .ret)
def vf37 : VFunc:={ vs:=[0,1,3,4],nparams:=2,rets:=[.tmp (.v 4)],body:=vb37 }
def vb38 : VCode:=.seq (rg [oV 4 (.move cF)]) (.seq (rg [oM 5 0,oM 6 1,oC 7 36 [.t 5,.t 6],oY 8 7,oT 9 (.bin .eql (.t 8) (cI 0)),oN 4 9]) .ret)
def vf38 : VFunc:={ vs:=[0,1,4],nparams:=2,rets:=[.tmp (.v 4)],body:=vb38 }
def vb39 : VCode:=.seq (rg [oV 2 (.newArr 1)]) (.seq (rg [oV 3 (.newArr 1)]) (.seq (.seq (rg [oJ 4 0]) (.block 0 (.loop (.seq (.seq (rg [oM 6 4,oM 7 0,oY 8 7,oU 9 6 8]) (.cond (.v 9) .skip (.exit 0))) (.seq (.block 1 (.seq (rg [oM 12 3,oY 13 12,oN 5 13]) (.seq (.block 2 (.loop (.seq (.seq (rg [oM 14 5,oT 15 (.bin .gtr (.t 14) (cI 0)),oP 16 15,gM 17 0 16 true,gM 18 4 16 true,oG 19 (.indexAddr 1 (.t 17) (.t 18)) 16 true,gL 20 19 16 true,gM 21 3 16 true,gM 22 5 16 true,oG 23 (.bin .sub (.t 22) (cI 1)) 16 true,oG 24 (.indexAddr 1 (.t 21) (.t 23)) 16 true,gL 25 24 16 true,oG 26 (.bin .lss (.t 20) (.t 25)) 16 true,oV 27 (.pick (.t 16) (.t 26) cF)]) (.cond (.v 27) .skip (.exit 2))) (.block 3 (rg [oM 28 5,oT 29 (.bin .sub (.t 28) (cI 1)),oN 5 29]))))) (.seq (.seq (rg [oM 30 5,oT 31 (.bin .gtr (.t 30) (cI 0)),oP 32 31,gM 33 3 32 true,gM 34 5 32 true,oG 35 (.bin .sub (.t 34) (cI 1)) 32 true,oG 36 (.indexAddr 1 (.t 33) (.t 35)) 32 true,gL 37 36 32 true,gM 38 0 32 true,gM 39 4 32 true,oG 40 (.indexAddr 1 (.t 38) (.t 39)) 32 true,gL 41 40 32 true,oG 42 (.bin .eql (.t 37) (.t 41)) 32 true,oV 43 (.pick (.t 32) (.t 42) cF)]) (.cond (.v 43) (.exit 1) .skip)) (.seq (rg [oM 44 3,oT 45 (.buildSlice 1 [.c (.int .i64 0)]),oT 46 (.append 1 8 (.t 44) (.t 45)),oN 3 46]) (.seq (.region ⟨[oM 47 3,oM 48 5,oI 49 48,oT 50 (.slice false 1 (some (.t 49)) none none (.t 47)),oM 51 3,oM 52 5,oT 53 (.slice false 1 (some (.t 52)) none none (.t 51)),oT 54 (.copy 1 (.t 50) (.t 53))],[],[(3,6)]⟩) (rg [oM 55 3,oM 56 5,oM 57 0,oM 58 4,oA 59 1 57 58,oL 60 59,oA 61 1 55 56,oZ (.store 1 (.t 61) (.t 60))]))))))) (rg [oM 10 4,oI 11 10,oN 4 11])))))) (.seq (rg [oM 62 3,oN 2 62]) .ret)))
def vf39 : VFunc:={ vs:=[0,2,3,4,5,9,27,43],nparams:=1,rets:=[.tmp (.v 2)],body:=vb39 }
def vb47 : VCode:=.seq (rg [oV 4 (.move cF)]) (.seq (rg [oM 5 0,oM 6 1,oC 7 15 [.t 5,.t 6],oM 8 1,oT 9 (.bin .sub (.t 8) (cI 1)),oT 10 (.bin .eql (.t 7) (.t 9)),oN 4 10]) .ret)
def vf47 : VFunc:={ vs:=[0,1,4],nparams:=2,rets:=[.tmp (.v 4)],body:=vb47 }
def vb68 : VCode:=.seq (rg [oX 3 1 1,oV 4 (.newArr 1),oJ 5 0]) (.seq (.seq (rg [oM 15 0,oV 16 (.bin .eql (.t 15) (.c (.str ⟨#[]⟩)))]) (.cond (.v 16) (.seq (rg [oV 4 (.newArr 1),oJ 5 0]) .ret) .skip)) (.seq (rg [oV 6 (.newArr 2)]) (.seq (.seq (rg [oM 17 0,oV 18 (.call 79 [.t 17,.c (.str ⟨#[44]⟩)]),oV 19 (.len (.v 18)),oJ 20 0]) (.block 0 (.loop (.seq (.region ⟨[oV 21 (.bin .lss (.v 20) (.v 19))],[4],[]⟩) (.seq (.cond (.v 21) .skip (.exit 0)) (.seq (.block 1 (.seq (rg [oT 22 (.indexAddr 1 (.v 18) (.v 20)),oL 23 22,oN 8 23]) (.seq (rg [oM 25 8,oC 26 112 [.t 25],oP 24 26,oE 27 24 0,oE 28 24 1,oV 9 (.alloc [.c (.int .i64 0),.c (.int .i64 0)]),oS 2 9 27,oN 10 28]) (.seq (.seq (rg [oM 29 10,oV 30 (.not (.t 29))]) (.cond (.v 30) (.seq (rg [oV 4 (.newArr 1),oJ 5 2]) .ret) .skip)) (rg [oM 31 6,oK 32 2 9,oT 33 (.buildSlice 2 [.t 32]),oT 34 (.append 2 16 (.t 31) (.t 33)),oN 6 34]))))) (rg [oT 35 (.bin .add (.v 20) (cI 1)),oN 20 35]))))))) (.seq (.seq (rg [oM 36 6,oT 37 (.makeFunc 114 [.v 3]),oV 38 (.call 113 [.t 36,.t 37])]) (.cond (.v 38) (.seq (rg [oV 4 (.newArr 1),oJ 5 3]) .ret) .skip)) (.seq (rg [oM 39 6,oT 40 (.callW 115 [.t 39,.c (.fn 116)])]) (.seq (rg [oV 11 (.newArr 1)]) (.seq (rg [oJ 12 0]) (.seq (.seq (rg [oV 41 (.move (.v 6)),oV 42 (.len (.v 41)),oJ 43 0]) (.block 2 (.loop (.seq (rg [oV 44 (.bin .lss (.v 43) (.v 42))]) (.seq (.cond (.v 44) .skip (.exit 2)) (.seq (.block 3 (.seq (rg [oT 45 (.indexAddr 2 (.v 41) (.v 43)),oR 46 2 45,oV 14 (.alloc [.c (.int .i64 0),.c (.int .i64 0)]),oS 2 14 46]) (.seq (rg [oM 47 12,oF 48 0 14,oL 49 48,oT 50 (.minmax true [.t 47,.t 49]),oN 12 50]) (.block 4 (.loop (.seq (.seq (rg [oM 51 12,oF 52 1 14,oL 53 52,oV 54 (.bin .leq (.t 51) (.t 53))]) (.cond (.v 54) .skip (.exit 4))) (.seq (.block 5 (rg [oM 57 11,oM 58 12,oT 59 (.buildSlice 1 [.t 58]),oT 60 (.append 1 8 (.t 57) (.t 59)),oN 11 60])) (rg [oM 55 12,oI 56 55,oN 12 56])))))))) (rg [oT 61 (.bin .add (.v 43) (cI 1)),oN 43 61]))))))) (.seq (rg [oM 62 11,oN 4 62,oJ 5 0]) .ret)))))))))
def vf68 : VFunc:={ vs:=[0,1,3,4,5,6,8,9,10,11,12,14,16,18,19,20,21,30,38,41,42,43,44,54],nparams:=2,rets:=[.tmp (.v 4),.tmp (.v 5)],body:=vb68 }
end Go.V
namespace Go.V
def vb69 : VCode:=.seq (rg [oV 2 (.move (.c (.str ⟨#[]⟩))),oJ 3 0]) (.seq (rg [oV 4 (.newArr 1)]) (.seq (.seq (rg [oJ 5 0]) (.block 0 (.loop (.seq (.seq (rg [oM 8 5,oM 9 0,oY 10 9,oU 11 8 10]) (.cond (.v 11) .skip (.exit 0))) (.block 1 (.seq (.seq (rg [oM 12 0,oM 13 5,oA 14 1 12 13,oL 15 14,oT 16 (.bin .lss (.t 15) (cI 0)),oP 17 16,gM 18 5 17 false,oG 19 (.bin .gtr (.t 18) (cI 0)) 17 false,oG 20 (.move (.t 19)) 17 false,gM 21 0 20 true,gM 22 5 20 true,oG 23 (.indexAddr 1 (.t 21) (.t 22)) 20 true,gL 24 23 20 true,gM 25 0 20 true,gM 26 5 20 true,oG 27 (.bin .sub (.t 26) (cI 1)) 20 true,oG 28 (.indexAddr 1 (.t 25) (.t 27)) 20 true,gL 29 28 20 true,oG 30 (.bin .leq (.t 24) (.t 29)) 20 true,oG 31 (.pick (.t 20) (.t 30) cF) 17 false,oV 32 (.pick (.t 17) cT (.t 31))]) (.cond (.v 32) (.seq (rg [oV 2 (.move (.c (.str ⟨#[]⟩))),oJ 3 1]) .ret) .skip)) (.seq (rg [oM 33 5,oN 6 33]) (.seq (.block 2 (.loop (.seq (.seq (rg [oM 34 6,oI 35 34,oM 36 0,oY 37 36,oT 38 (.bin .lss (.t 35) (.t 37)),oP 39 38,gM 40 0 39 true,gM 41 6 39 true,oG 42 (.bin .add (.t 41) (cI 1)) 39 true,oG 43 (.indexAddr 1 (.t 40) (.t 42)) 39 true,gL 44 43 39 true,gM 45 0 39 true,gM 46 6 39 true,oG 47 (.indexAddr 1 (.t 45) (.t 46)) 39 true,gL 48 47 39 true,oG 49 (.bin .add (.t 48) (cI 1)) 39 true,oG 50 (.bin .eql (.t 44) (.t 49)) 39 true,oV 51 (.pick (.t 39) (.t 50) cF)]) (.cond (.v 51) .skip (.exit 2))) (.block 3 (rg [oM 52 6,oI 53 52,oN 6 53]))))) (.seq (rg [oM 54 0,oM 55 5,oA 56 1 54 55,oL 57 56,oC 58 117 [.t 57],oN 7 58]) (.seq (.seq (rg [oM 59 6,oM 60 5,oV 61 (.bin .gtr (.t 59) (.t 60))]) (.cond (.v 61) (rg [oM 62 7,oM 63 0,oM 64 6,oA 65 1 63 64,oL 66 65,oC 67 117 [.t 66],oT 68 (.bin .add (.c (.str ⟨#[45]⟩)) (.t 67)),oT 69 (.bin .add (.t 62) (.t 68)),oN 7 69]) .skip)) (.seq (rg [oM 70 4,oM 71 7,oT 72 (.buildSlice 1 [.t 71]),oT 73 (.append 1 16 (.t 70) (.t 72)),oN 4 73]) (rg [oM 74 6,oI 75 74,oN 5 75])))))))))))) (.seq (rg [oM 76 4,oT 77 (.callW 82 [.t 76,.c (.str ⟨#[44]⟩)]),oN 2 77,oJ 3 0]) .ret)))
def vf69 : VFunc:={ vs:=[0,2,3,4,5,6,7,11,32,51,61],nparams:=1,rets:=[.tmp (.v 2),.tmp (.v 3)],body:=vb69 }
def vb70 : VCode:=.seq (rg [oV 2 (.newArr 1)]) (.seq (rg [oM 4 0,oC 5 118 [.t 4],oN 3 5]) (.seq (rg [oM 6 3,oT 7 (.callW 119 [.t 6])]) (.seq (rg [oM 8 3,oT 9 (.callW 120 [.t 8]),oN 2 9]) .ret)))
def vf70 : VFunc:={ vs:=[0,2,3],nparams:=1,rets:=[.tmp (.v 2)],body:=vb70 }
def vb71 : VCode:=.seq (rg [oV 2 (.newArr 1)]) (.seq (rg [oJ 3 0]) (.seq (.seq (rg [oV 9 (.move (.v 0)),oV 10 (.len (.v 9)),oJ 11 0]) (.block 0 (.loop (.seq (rg [oV 12 (.bin .lss (.v 11) (.v 10))]) (.seq (.cond (.v 12) .skip (.exit 0)) (.seq (.block 1 (.seq (rg [oT 13 (.indexAddr 1 (.v 9) (.v 11)),oL 14 13,oN 5 14]) (.seq (rg [oM 15 3,oM 16 5,oY 17 16,oT 18 (.bin .add (.t 15) (.t 17)),oN 3 18]) (.seq (rg [oM 19 3,oV 20 (.bin .lss (.t 19) (cI 0))]) (.cond (.v 20) (.fail) .skip))))) (rg [oT 22 (.bin .add (.v 11) (cI 1)),oN 11 22]))))))) (.seq (rg [oM 23 3,oC 24 121 [.c (.nils),.t 23],oN 6 24]) (.seq (.seq (rg [oV 25 (.move (.v 0)),oV 26 (.len (.v 25)),oJ 27 0]) (.block 2 (.loop (.seq (rg [oV 28 (.bin .lss (.v 27) (.v 26))]) (.seq (.cond (.v 28) .skip (.exit 2)) (.seq (.block 3 (.seq (rg [oT 29 (.indexAddr 1 (.v 25) (.v 27)),oL 30 29,oN 8 30]) (rg [oM 31 6,oM 32 8,oT 33 (.append 1 8 (.t 31) (.t 32)),oN 6 33]))) (rg [oT 34 (.bin .add (.v 27) (cI 1)),oN 27 34]))))))) (.seq (rg [oM 35 6,oN 2 35]) .ret)))))
def vf71 : VFunc:={ vs:=[0,2,3,5,6,8,9,10,11,12,20,25,26,27,28],nparams:=1,rets:=[.tmp (.v 2)],body:=vb71 }
def vb72 : VCode:=.seq (rg [oX 3 1 1,oV 4 (.newArr 1)]) (.seq (rg [oM 5 0,oC 6 70 [.t 5],oT 7 (.makeFunc 123 [.v 3]),oT 8 (.callW 122 [.t 6,.t 7]),oN 4 8]) .ret)
def vf72 : VFunc:={ vs:=[0,1,3,4],nparams:=2,rets:=[.tmp (.v 4)],body:=vb72 }
def vb73 : VCode:=.seq (rg [oV 3 (.move cF)]) (.seq (rg [oT 4 (.load none (.v 1)),oM 5 0,oC 6 74 [.t 4,.t 5],oN 3 6]) .ret)
def vf73 : VFunc:={ vs:=[0,1,3],nparams:=2,rets:=[.tmp (.v 3)],body:=vb73 }
def vb74 : VCode:=.seq (rg [oV 4 (.move cF)]) (.seq (rg [oM 5 0,oM 6 1,oC 7 124 [.t 5,.t 6],oN 4 7]) .ret)
def vf74 : VFunc:={ vs:=[0,1,4],nparams:=2,rets:=[.tmp (.v 4)],body:=vb74 }
def vb75 : VCode:=.seq (rg [oV 3 (.move cF)]) (.seq (rg [oT 4 (.load none (.v 1)),oM 5 0,oC 6 74 [.t 4,.t 5],oT 7 (.not (.t 6)),oN 3 7]) .ret)
def vf75 : VFunc:={ vs:=[0,1,3],nparams:=2,rets:=[.tmp (.v 3)],body:=vb75 }
def vb76 : VCode:=.seq (rg [oV 4 (.move cF)]) (.seq (.seq (rg [oJ 5 0]) (.block 0 (.loop (.seq (.seq (rg [oM 6 5,oM 7 0,oY 8 7,oU 9 6 8]) (.cond (.v 9) .skip (.exit 0))) (.seq (.block 1 (.seq (rg [oM 12 0,oM 13 5,oA 14 1 12 13,oL 15 14,oM 16 1,oV 17 (.bin .eql (.t 15) (.t 16))]) (.cond (.v 17) (.seq (rg [oV 4 (.move cT)]) .ret) .skip))) (rg [oM 10 5,oI 11 10,oN 5 11])))))) (.seq (rg [oV 4 (.move cF)]) .ret))
def vf76 : VFunc:={ vs:=[0,1,4,5,9,17],nparams:=2,rets:=[.tmp (.v 4)],body:=vb76 }
def vb77 : VCode:=.seq (rg [oV 4 (.move cF)]) (.seq (rg [oM 5 0,oM 6 1,oC 7 125 [.t 5,.t 6],oT 8 (.bin .geq (.t 7) (cI 0)),oN 4 8]) .ret)
def vf77 : VFunc:={ vs:=[0,1,4],nparams:=2,rets:=[.tmp (.v 4)],body:=vb77 }
def vb78 : VCode:=.seq (rg [oV 3 (.move cF)]) (.seq (rg [oT 4 (.load none (.v 1)),oM 5 0,oC 6 74 [.t 4,.t 5],oT 7 (.not (.t 6)),oN 3 7]) .ret)
def vf78 : VFunc:={ vs:=[0,1,3],nparams:=2,rets:=[.tmp (.v 3)],body:=vb78 }
def vb112 : VCode:=.seq (rg [oV 2 (.alloc [.c (.int .i64 0),.c (.int .i64 0)]),oV 3 (.move cF)]) (.seq (rg [oM 9 0,oT 10 (.call 137 [.t 9,.c (.str ⟨#[45]⟩)]),oP 8 10,oE 11 8 0,oE 12 8 1,oE 13 8 2,oN 4 11,oN 5 12,oN 6 13]) (.seq (rg [oM 14 4,oC 15 138 [.t 14],oM 16 4,oC 17 138 [.t 16],oT 18 (.build [.a (.t 15) 0 1,.a (.t 17) 0 1]),oV 7 (.alloc [.c (.int .i64 0),.c (.int .i64 0)]),oS 2 7 18]) (.seq (.seq (rg [oV 19 (.move (.v 6))]) (.cond (.v 19) (rg [oM 20 5,oC 21 138 [.t 20],oF 22 1 7,oZ (.store 1 (.t 22) (.t 21))]) .skip)) (.seq (.region ⟨[oK 23 2 7,oF 24 0 7,oL 25 24,oT 26 (.bin .geq (.t 25) (cI 0)),oP 27 26,gF 28 1 7 27 true,gL 29 28 27 true,gF 30 0 7 27 true,gL 31 30 27 true,oG 32 (.bin .geq (.t 29) (.t 31)) 27 true,oB 33 27 32,oS 2 2 23,oN 3 33],[],[(6,11),(8,11)]⟩) .ret))))
def vf112 : VFunc:={ vs:=[0,2,3,4,5,6,7,19],nparams:=1,rets:=[.cell (.v 2) (some 2),.tmp (.v 3)],body:=vb112 }
def vb113 : VCode:=.seq (rg [oV 4 (.move cF)]) (.seq (rg [oM 5 0,oM 6 1,oC 7 139 [.t 5,.t 6],oT 8 (.bin .geq (.t 7) (cI 0)),oN 4 8]) .ret)
def vf113 : VFunc:={ vs:=[0,1,4],nparams:=2,rets:=[.tmp (.v 4)],body:=vb113 }
def vb114 : VCode:=.seq (rg [oX 2 2 0,oV 3 (.move cF)]) (.seq (rg [oF 4 1 2,oL 5 4,oT 6 (.load none (.v 1)),oT 7 (.minmax false [.t 6,.c (.int .i64 65536)]),oT 8 (.bin .geq (.t 5) (.t 7)),oN 3 8]) .ret)
def vf114 : VFunc:={ vs:=[0,1,2,3],nparams:=2,rets:=[.tmp (.v 3)],body:=vb114 }
def vb116 : VCode:=.seq (rg [oX 2 2 0,oX 3 2 1,oJ 4 0]) (.seq (rg [oF 5 0 2,oL 6 5,oF 7 0 3,oL 8 7,oT 9 (.bin .sub (.t 6) (.t 8)),oN 4 9]) .ret)
def vf116 : VFunc:={ vs:=[0,1,2,3,4],nparams:=2,rets:=[.tmp (.v 4)],body:=vb116 }
def vb122 : VCode:=.seq (rg [oV 4 (.newArr 1)]) (.seq (rg [oM 8 0,oM 9 1,oT 10 (.callR 125 [.t 8,.t 9]),oN 5 10]) (.seq (.seq (rg [oM 11 5,oV 12 (.bin .eql (.t 11) (cI (-1)))]) (.cond (.v 12) (.seq (rg [oM 13 0,oN 4 13]) .ret) .skip)) (.seq (.seq (rg [oM 14 5,oI 15 14,oN 6 15]) (.block 0 (.loop (.seq (.seq (rg [oM 16 6,oM 17 0,oY 18 17,oU 19 16 18]) (.cond (.v 19) .skip (.exit 0))) (.seq (.block 1 (.seq (rg [oM 22 0,oM 23 6,oA 24 1 22 23,oL 25 24,oN 7 25]) (.seq (rg [oM 26 1,oM 27 7,oT 28 (.callv (.t 26) [.t 27]),oV 29 (.not (.t 28))]) (.cond (.v 29) (.seq (rg [oM 30 0,oM 31 5,oM 32 7,oA 33 1 30 31,oZ (.store 1 (.t 33) (.t 32))]) (rg [oM 34 5,oI 35 34,oN 5 35])) .skip)))) (rg [oM 20 6,oI 21 20,oN 6 21])))))) (.seq (rg [oM 36 0,oM 37 5,oT 38 (.slice false 1 (some (.t 37)) none none (.t 36)),oZ (.clear 1 (.int .i64 0) (.t 38))]) (.seq (rg [oM 39 0,oM 40 5,oT 41 (.slice false 1 none (some (.t 40)) none (.t 39)),oN 4 41]) .ret)))))
def vf122 : VFunc:={ vs:=[0,1,4,5,6,7,12,19,29],nparams:=2,rets:=[.tmp (.v 4)],body:=vb122 }
def vb123 : VCode:=.seq (rg [oV 3 (.move cF)]) (.seq (rg [oT 4 (.load none (.v 1)),oM 5 0,oT 6 (.callv (.t 4) [.t 5]),oT 7 (.not (.t 6)),oN 3 7]) .ret)
def vf123 : VFunc:={ vs:=[0,1,3],nparams:=2,rets:=[.tmp (.v 3)],body:=vb123 }
def vb124 : VCode:=.seq (rg [oV 4 (.move cF)]) (.seq (rg [oM 5 0,oM 6 1,oC 7 144 [.t 5,.t 6],oT 8 (.bin .geq (.t 7) (cI 0)),oN 4 8]) .ret)
def vf124 : VFunc:={ vs:=[0,1,4],nparams:=2,rets:=[.tmp (.v 4)],body:=vb124 }
def vb125 : VCode:=.seq (rg [oJ 4 0]) (.seq (.seq (rg [oM 6 0,oV 7 (.len (.t 6)),oJ 8 0]) (.block 0 (.loop (.seq (rg [oV 9 (.bin .lss (.v 8) (.v 7))]) (.seq (.cond (.v 9) .skip (.exit 0)) (.seq (.block 1 (.seq (rg [oM 10 8,oN 5 10]) (.seq (rg [oM 11 1,oM 12 0,oM 13 5,oA 14 1 12 13,oL 15 14,oV 16 (.callv (.t 11) [.t 15])]) (.cond (.v 16) (.seq (rg [oM 17 5,oN 4 17]) .ret) .skip)))) (rg [oT 18 (.bin .add (.v 8) (cI 1)),oN 8 18]))))))) (.seq (rg [oJ 4 (-1)]) .ret))
def vf125 : VFunc:={ vs:=[0,1,4,5,7,8,9,16],nparams:=2,rets:=[.tmp (.v 4)],body:=vb125 }
def vb138 : VCode:=.seq (rg [oJ 2 0]) (.seq (rg [oJ 3 0]) (.seq (.seq (rg [oM 6 0,oV 7 (.strBytes (.t 6)),oV 8 (.len (.v 7)),oJ 9 0]) (.block 0 (.loop (.seq (rg [oV 10 (.bin .lss (.v 9) (.v 8))]) (.seq (.cond (.v 10) .skip (.exit 0)) (.seq (.block 1 (.seq (rg [oT 11 (.indexAddr 1 (.v 7) (.v 9)),oL 12 11,oN 5 12]) (.seq (.seq (rg [oM 13 5,oT 14 (.bin .lss (.t 13) (.c (.int .u8 48))),oP 15 14,gM 16 5 15 false,oG 17 (.bin .gtr (.t 16) (.c (.int .u8 57))) 15 false,oV 18 (.pick (.t 15) cT (.t 17))]) (.cond (.v 18) (.seq (rg [oJ 2 (-1)]) .ret) .skip)) (rg [oM 19 3,oT 20 (.bin .mul (cI 10) (.t 19)),oM 21 5,oT 22 (.bin .sub (.t 21) (.c (.int .u8 48))),oT 23 (.conv .i64 (.t 22)),oT 24 (.bin .add (.t 20) (.t 23)),oT 25 (.minmax false [.t 24,.c (.int .i64 1073741824)]),oN 3 25])))) (rg [oT 26 (.bin .add (.v 9) (cI 1)),oN 9 26]))))))) (.seq (.seq (rg [oM 27 0,oT 28 (.bin .eql (.t 27) (.c (.str ⟨#[]⟩))),oP 29 28,gM 30 0 29 false,oG 31 (.lenStr (.t 30)) 29 false,oG 32 (.bin .gtr (.t 31) (cI 9)) 29 false,oV 33 (.pick (.t 29) cT (.t 32))]) (.cond (.v 33) (.seq (rg [oJ 2 (-1)]) .ret) .skip)) (.seq (rg [oM 34 3,oN 2 34]) .ret))))
def vf138 : VFunc:={ vs:=[0,2,3,5,7,8,9,10,18,33],nparams:=1,rets:=[.tmp (.v 2)],body:=vb138 }
def vb139 : VCode:=.seq (rg [oJ 4 0]) (.seq (.seq (rg [oM 6 0,oV 7 (.len (.t 6)),oJ 8 0]) (.block 0 (.loop (.seq (rg [oV 9 (.bin .lss (.v 8) (.v 7))]) (.seq (.cond (.v 9) .skip (.exit 0)) (.seq (.block 1 (.seq (rg [oM 10 8,oN 5 10]) (.seq (rg [oM 11 1,oM 12 0,oM 13 5,oA 14 2 12 13,oR 15 2 14,oV 16 (.callv (.t 11) [.t 15])]) (.cond (.v 16) (.seq (rg [oM 17 5,oN 4 17]) .ret) .skip)))) (rg [oT 18 (.bin .add (.v 8) (cI 1)),oN 8 18]))))))) (.seq (rg [oJ 4 (-1)]) .ret))
def vf139 : VFunc:={ vs:=[0,1,4,5,7,8,9,16],nparams:=2,rets:=[.tmp (.v 4)],body:=vb139 }
def vb144 : VCode:=.seq (rg [oJ 4 0]) (.seq (.seq (rg [oM 6 0,oV 7 (.len (.t 6)),oJ 8 0]) (.block 0 (.loop (.seq (rg [oV 9 (.bin .lss (.v 8) (.v 7))]) (.seq (.cond (.v 9) .skip (.exit 0)) (.seq (.block 1 (.seq (rg [oM 10 8,oN 5 10]) (.seq (rg [oM 11 1,oM 12 0,oM 13 5,oA 14 1 12 13,oL 15 14,oV 16 (.bin .eql (.t 11) (.t 15))]) (.cond (.v 16) (.seq (rg [oM 17 5,oN 4 17]) .ret) .skip)))) (rg [oT 18 (.bin .add (.v 8) (cI 1)),oN 8 18]))))))) (.seq (rg [oJ 4 (-1)]) .ret))
def vf144 : VFunc:={ vs:=[0,1,4,5,7,8,9,16],nparams:=2,rets:=[.tmp (.v 4)],body:=vb144 }
def prog : FuncId -> Option VFunc | 7=>some vf7 | 8=>some vf8 | 10=>some vf10 | 15=>some vf15 | 27=>some vf27 | 28=>some vf28 | 29=>some vf29 | 30=>some vf30 | 31=>some vf31 | 32=>some vf32 | 33=>some vf33 | 34=>some vf34 | 35=>some vf35 | 36=>some vf36 | 37=>some vf37 | 38=>some vf38 | 39=>some vf39 | 47=>some vf47 | 68=>some vf68 | 69=>some vf69 | 70=>some vf70 | 71=>some vf71 | 72=>some vf72 | 73=>some vf73 | 74=>some vf74 | 75=>some vf75 | 76=>some vf76 | 77=>some vf77 | 78=>some vf78 | 112=>some vf112 | 113=>some vf113 | 114=>some vf114 | 116=>some vf116 | 122=>some vf122 | 123=>some vf123 | 124=>some vf124 | 125=>some vf125 | 138=>some vf138 | 139=>some vf139 | 144=>some vf144 | _=>none
end Go.V
