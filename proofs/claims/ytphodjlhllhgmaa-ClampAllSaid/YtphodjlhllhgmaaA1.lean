/- Part 1 of the proof. -/
import GoSem.Core.Code
import GoSem.Core.View
set_option linter.unusedSectionVars false
set_option linter.unusedSimpArgs false
set_option linter.unusedVariables false
open List renaming forall_mem_cons → lfm
namespace Go.V
theorem cl1 {P : Prop} (h : P := by first | rfl | (simp; done) | (congr 2; omega) | (congr 1; omega) | (congr 3; omega) | (simp; omega) | (congr 2; simp; omega)) : P := h
theorem cl2 {P : Prop} (h : P := by first | rfl | omega | (congr 2; omega)) : P := h
inductive KT where
 | int (k : IntKind)
 | str
 | bool
 deriving DecidableEq,Inhabited
inductive MKey where
 | int (n : Int)
 | str (s : ByteArray)
 | bool (b : Bool)
 deriving DecidableEq
inductive PV where
 | int (k : IntKind) (n : Int)
 | bool (b : Bool)
 | str (s : ByteArray)
 | slice (sz : Nat) (xs : List PV)
 | agg (cs : List PV)
 | map (kt : KT) (ks : List MKey) (vs : List PV)
 | fn (f : FuncId)
 | nilp
 | nils
 | lit (sz : Nat) (xs : List PV)
 deriving Inhabited
def PV.cells : PV -> List PV
 | .agg cs=>cs
 | v=>[v]
def PV.flat0 : PV -> Bool
 | .int _ _ | .bool _ | .str _ | .fn _ | .nilp=>true
 | _=>false
def PV.flat : PV -> Bool
 | .agg cs=>cs.all PV.flat0
 | d=>d.flat0
inductive Id where
 | slot (s j : Nat)
 | arg (i j : Nat)
 deriving DecidableEq
inductive VVal where
 | p (d : PV)
 | own (id : Id) (ver off len : Nat)
 | ptr (id : Id) (ver off : Nat)
 | vptr (cs : List PV) (off : Nat)
 | eptr (id : Id) (ver i off : Nat)
 | mref (id : Id) (ver : Nat)
 | fn (f : FuncId) (caps : List VVal)
 | agg (cs : List VVal)
 | tup (vs : List VVal)
 | fresh (sz : Nat) (xs : List PV)
 | boxed (cs : List VVal)
 | undef
 | dead
 deriving Inhabited
inductive Ob where
 | box (cs : List VVal)
 | arr (sz : Nat) (xs : List PV)
 | map (kt : KT) (ks : List MKey) (vs : List PV)
 | gone
 deriving Inhabited
abbrev VHeap:=Id -> Option (Nat × Ob)
def VHeap.upd (h : VHeap) (id : Id) (o : Nat × Ob) : VHeap:=fun i=>if i = id then some o else h i
def VHeap.upds (h : VHeap) : List (Id × Nat × Ob) -> VHeap
 | []=>h
 | (id,o) :: us=>(VHeap.upd h id o).upds us
def nv : Option (Nat × Ob) -> Nat
 | none=>0
 | some (v,_)=>v + 1
structure Tok {α : Type} (a : α) : Type where
def ob {α β : Type} (x : Option α) (f : α -> Option β) (_u : Tok f:=⟨⟩) : Option β:=match x with | some a=>f a | none=>none
def gd {α : Type} (c : Prop) [Decidable c] (x : Option α) (_u : Tok x:=⟨⟩) : Option α:=if c then x else none
def br {α : Type} (b : Bool) (x y : α) (_u : Tok x:=⟨⟩) (_v : Tok y:=⟨⟩) : α:=if b then x else y
inductive VArg where
 | v (s : Nat)
 | t (s : Nat)
 | c (d : PV)
 deriving Inhabited
inductive ZC where
 | c (d : PV)
 | nil (sz : Nat)
 deriving Inhabited
inductive BC where
 | z (z : ZC)
 | a (x : VArg) (j n : Nat)
 deriving Inhabited
inductive VOp where
 | move (x : VArg)
 | newArr (sz : Nat)
 | pick (c a b : VArg)
 | alloc (zero : List ZC)
 | box (n : Nat) (x : VArg)
 | build (cells : List BC)
 | buildSlice (sz : Nat) (parts : List VArg)
 | buildFz (sz : Nat) (parts : List VArg)
 | load (agg : Option Nat) (a : VArg)
 | store (n : Nat) (a x : VArg)
 | fieldAddr (off : Nat) (x : VArg)
 | field (off : Nat) (agg : Option Nat) (x : VArg)
 | indexAddr (sz : Nat) (x i : VArg)
 | indexStr (x i : VArg)
 | bin (op : BinOp) (x y : VArg)
 | eqAgg (neg : Bool) (kts : List KT) (x y : VArg)
 | not (x : VArg)
 | neg (x : VArg)
 | len (x : VArg)
 | lenStr (x : VArg)
 | eqB (neg : Bool) (x y : VArg)
 | append (sz bytes : Nat) (s x : VArg)
 | appendNil (sz bytes : Nat) (x : VArg)
 | slice (str : Bool) (sz : Nat) (lo hi mx : Option VArg) (x : VArg)
 | lookup (ok : Bool) (kt : KT) (zero : PV) (m k : VArg)
 | mapUpdate (kt : KT) (m k x : VArg)
 | makeMap (kt : KT)
 | mapLen (x : VArg)
 | extract (x : VArg) (i : Nat)
 | minmax (isMax : Bool) (xs : List VArg)
 | conv (k : IntKind) (x : VArg)
 | strBytes (x : VArg)
 | bytesStr (x : VArg)
 | nilCheck (x : VArg)
 | makeFunc (f : FuncId) (caps : List VArg)
 | call (f : FuncId) (args : List VArg)
 | callv (x : VArg) (args : List VArg)
 | callW (f : FuncId) (args : List VArg)
 | callvW (x : VArg) (args : List VArg)
 | callR (f : FuncId) (args : List VArg)
 | make (sz bytes : Nat) (zero : PV) (n : VArg)
 | copy (sz : Nat) (a x : VArg)
 | mapEntry (kt : KT) (zero : PV) (m k : VArg)
 | entryStore (m s x : VArg)
 | buildArr (sz : Nat) (parts : List VArg)
 | indexArr (n sz : Nat) (agg : Option Nat) (x i : VArg)
 | clear (sz : Nat) (zero : PV) (a : VArg)
 | unlit (x : VArg)
 | buildLit (sz : Nat) (parts : List VArg)
 | appendLit (sz bytes : Nat) (s x : VArg)
 deriving Inhabited
inductive VDst where
 | v (s : Nat)
 | t (s : Nat)
 | none
 deriving Inhabited,DecidableEq
structure VOper where
 dst : VDst
 op : VOp
 guard : Option (VArg × Bool):=.none
 deriving Inhabited
structure VRegion where
 ops : List VOper
 fz : List Nat:=[]
 fp : List (Nat × Nat):=[]
 deriving Inhabited
inductive VCode where
 | skip
 | region (r : VRegion)
 | seq (a b : VCode)
 | cond (c : VArg) (thn els : VCode)
 | block (id : Nat) (c : VCode)
 | loop (c : VCode)
 | exit (id : Nat)
 | ret
 | mv (a b : Id) (c : VCode)
 | scope (c : VCode)
 | fail
 deriving Inhabited
abbrev oT (n : Nat) (o : VOp) : VOper:=⟨.t n,o,none⟩
abbrev oV (n : Nat) (o : VOp) : VOper:=⟨.v n,o,none⟩
abbrev oZ (o : VOp) : VOper:=⟨.none,o,none⟩
abbrev oG (n : Nat) (o : VOp) (g : Nat) (b : Bool) : VOper:=⟨.t n,o,some (.t g,b)⟩
abbrev oM (n x : Nat) : VOper:=⟨.t n,.move (.v x),none⟩
abbrev oN (n x : Nat) : VOper:=⟨.v n,.move (.t x),none⟩
abbrev oL (n x : Nat) : VOper:=⟨.t n,.load none (.t x),none⟩
abbrev oF (n k x : Nat) : VOper:=⟨.t n,.fieldAddr k (.v x),none⟩
abbrev oK (n k x : Nat) : VOper:=⟨.t n,.load (some k) (.v x),none⟩
abbrev rg (l : List VOper) : VCode:=.region ⟨l,[],[]⟩
abbrev cI (n : Int) : VArg:=.c (.int .i64 n)
abbrev cF : VArg:=.c (.bool false)
abbrev cT : VArg:=.c (.bool true)
abbrev oJ (n : Nat) (i : Int) : VOper:=⟨.v n,.move (.c (.int .i64 i)),none⟩
abbrev oP (n x : Nat) : VOper:=⟨.t n,.move (.t x),none⟩
abbrev oA (n s a b : Nat) : VOper:=⟨.t n,.indexAddr s (.t a) (.t b),none⟩
abbrev oQ (n k x : Nat) : VOper:=⟨.t n,.fieldAddr k (.t x),none⟩
abbrev oC (n : Nat) (f : FuncId) (l : List VArg) : VOper:=⟨.t n,.call f l,none⟩
abbrev oE (n x k : Nat) : VOper:=⟨.t n,.extract (.t x) k,none⟩
abbrev oS (s x y : Nat) : VOper:=⟨.none,.store s (.v x) (.t y),none⟩
abbrev oI (n x : Nat) : VOper:=⟨.t n,.bin .add (.t x) (.c (.int .i64 1)),none⟩
abbrev oO (n x y : Nat) : VOper:=⟨.t n,.pick (.t x) (.c (.bool true)) (.t y),none⟩
abbrev oB (n x y : Nat) : VOper:=⟨.t n,.pick (.t x) (.t y) (.c (.bool false)),none⟩
abbrev oR (n s x : Nat) : VOper:=⟨.t n,.load (some s) (.t x),none⟩
abbrev oY (n x : Nat) : VOper:=⟨.t n,.len (.t x),none⟩
abbrev oX (n s x : Nat) : VOper:=⟨.v n,.box s (.v x),none⟩
abbrev oU (n x y : Nat) : VOper:=⟨.v n,.bin .lss (.t x) (.t y),none⟩
abbrev gL (n x g : Nat) (b : Bool) : VOper:=⟨.t n,.load none (.t x),some (.t g,b)⟩
abbrev gF (n k x g : Nat) (b : Bool) : VOper:=⟨.t n,.fieldAddr k (.v x),some (.t g,b)⟩
abbrev gM (n x g : Nat) (b : Bool) : VOper:=⟨.t n,.move (.v x),some (.t g,b)⟩
inductive VRet where
 | tmp (x : VArg)
 | cell (x : VArg) (agg : Option Nat)
 deriving Inhabited
structure VFunc where
 vs : List Nat
 nparams : Nat
 body : VCode
 rets : List VRet
 deriving Inhabited
structure St where
 pe : Nat -> VVal
 h : VHeap
inductive VExit where
 | normal
 | exit (id : Nat)
 | ret
 deriving DecidableEq
abbrev Sig:=FuncId -> List VVal -> List Ob -> Option (VVal × List Ob)
def vcells : VVal -> List VVal
 | .agg cs=>cs
 | v=>[v]
def ofCells (agg : Option Nat) (cs : List VVal) (off : Nat) : Option VVal :=
 match agg with
 | none=>cs[off]?
 | some n=>gd (off + n <= cs.length) (some (.agg ((cs.drop off).take n)))
def vrow (h : VHeap) : VVal -> Option (List VVal × Nat)
 | .ptr id ver off=>match h id with
  | some (v,.box cs)=>gd (v = ver) (some (cs,off))
  | _=>none
 | .vptr cs off=>some (cs.map .p,off)
 | .eptr id ver i off=>match h id with
  | some (v,.arr _ xs)=>gd (v = ver) (ob xs[i]? fun x=>some (x.cells.map .p,off))
  | _=>none
 | _=>none
def vload (h : VHeap) (agg : Option Nat) (a : VVal) : Option VVal:=ob (vrow h a) fun r=>ofCells agg r.1 r.2
def unP : VVal -> Option PV
 | .p d=>some d
 | .fn f []=>some (.fn f)
 | _=>none
def mapO {α β : Type} (f : α -> Option β) : List α -> Option (List β)
 | []=>some []
 | x :: xs=>ob (f x) fun y=>ob (mapO f xs) fun ys=>some (y :: ys)
def freezeP : VVal -> Option PV
 | .agg cs=>ob (mapO unP cs) fun ds=>some (.agg ds)
 | v=>unP v
def velems (h : VHeap) : VVal -> Option (Nat × List PV)
 | .p (.slice sz xs)=>some (sz,xs)
 | .own id ver off len=>match h id with
  | some (v,.arr sz xs)=>gd (v = ver) (some (sz,(xs.drop off).take len))
  | _=>none
 | _=>none
def vlen : VVal -> Option Nat
 | .p (.slice _ xs)=>some xs.length
 | .own _ _ _ len=>some len
 | _=>none
def vlenS : VVal -> Option Nat
 | .p (.str s)=>some s.size
 | _=>none
def splice {α : Type} (cs : List α) (off : Nat) (vs : List α) : List α:=cs.take off ++ vs ++ cs.drop (off + vs.length)
def setCells (x : PV) (off : Nat) (ds : List PV) : PV :=
 match x with
 | .agg cs=>.agg (splice cs off ds)
 | y=>ds.headD y
def solid : VVal -> Bool
 | .p _ | .own _ _ _ _ | .ptr _ _ _ | .vptr _ _ | .eptr _ _ _ _ | .mref _ _ | .fn _ _=>true
 | _=>false
def vstoreAt (h : VHeap) (n : Nat) (vs : List VVal) : VVal -> Option (List (Id × Nat × Ob))
 | .ptr id ver off=>match h id with
  | some (v,.box cs)=>gd (v = ver) (gd (off + n <= cs.length) (some [(id,v,.box (splice cs off vs))]))
  | _=>none
 | .eptr id ver i off=>match h id with
  | some (v,.arr sz xs)=>gd (v = ver) (ob xs[i]? fun x0=>ob (mapO unP vs) fun ds=>gd (off + n <= x0.cells.length) (some [(id,v,.arr sz (xs.set i (setCells x0 off ds)))]))
  | _=>none
 | _=>none
def vstore (h : VHeap) (n : Nat) (a x : VVal) : Option (List (Id × Nat × Ob)) :=
 gd ((vcells x).length = n) (gd ((vcells x).all solid = true) (vstoreAt h n (vcells x) a))
def vindexAt (h : VHeap) (sz i : Nat) : VVal -> Option VVal
 | .p (.slice sz' xs)=>gd (sz' = sz) (ob xs[i]? fun x=>some (.vptr x.cells 0))
 | .own id ver off len=>match h id with
  | some (v,.arr sz' _)=>gd (v = ver) (gd (sz' = sz) (gd (i < len) (some (.eptr id ver (off + i) 0))))
  | _=>none
 | _=>none
def vindex (h : VHeap) (sz : Nat) (s : VVal) (n : Int) : Option VVal:=gd (0 <= n) (vindexAt h sz n.toNat s)
def zcell (d : Nat) (h : VHeap) (j : Nat) : ZC -> VVal × List (Id × Nat × Ob)
 | .c x=>(.p x,[])
 | .nil sz=>(.own (.slot d (j + 1)) (nv (h (.slot d (j + 1)))) 0 0,[(.slot d (j + 1),nv (h (.slot d (j + 1))),.arr sz [])])
def zcells (d : Nat) : VHeap -> Nat -> List ZC -> List VVal × List (Id × Nat × Ob)
 | _,_,[]=>([],[])
 | h,j,z :: zs=>((zcell d h j z).1 :: (zcells d (h.upds (zcell d h j z).2) (j + 1) zs).1,(zcell d h j z).2 ++ (zcells d (h.upds (zcell d h j z).2) (j + 1) zs).2)
def bcells (look : VArg -> Option VVal) (d : Nat) : VHeap -> Nat -> List BC -> Option (List VVal × List (Id × Nat × Ob))
 | _,_,[]=>some ([],[])
 | h,j,.z z :: bs=>ob (bcells look d (h.upds (zcell d h j z).2) (j + 1) bs) fun rs=>some ((zcell d h j z).1 :: rs.1,(zcell d h j z).2 ++ rs.2)
 | h,j,.a x i n :: bs=>ob (look x) fun v=>gd ((vcells v).length = n) <| ob (vcells v)[i]? fun c=>gd (solid c = true) <| ob (bcells look d h (j + 1) bs) fun rs=>some (c :: rs.1,rs.2)
def andI (k : IntKind) (a b : Int) : Int:=k.wrap (BitVec.ofInt k.bits a &&& BitVec.ofInt k.bits b).toNat
def orI (k : IntKind) (a b : Int) : Int:=k.wrap (BitVec.ofInt k.bits a ||| BitVec.ofInt k.bits b).toNat
def xorI (k : IntKind) (a b : Int) : Int:=k.wrap (BitVec.ofInt k.bits a ^^^ BitVec.ofInt k.bits b).toNat
def antI (k : IntKind) (a b : Int) : Int:=k.wrap (BitVec.ofInt k.bits a &&& ~~~ BitVec.ofInt k.bits b).toNat
def shlI (k : IntKind) (a b : Int) : Int:=k.wrap (a * 2 ^ min b.toNat k.bits)
def shrI (k : IntKind) (a b : Int) : Int:=a.fdiv (2 ^ min b.toNat k.bits)
def ibin (k : IntKind) (a b : Int) : BinOp -> Option VVal
 | .add=>some (.p (.int k (k.wrap (a + b))))
 | .sub=>some (.p (.int k (k.wrap (a - b))))
 | .mul=>some (.p (.int k (k.wrap (a * b))))
 | .quo=>gd (b ≠ 0) (some (.p (.int k (k.wrap (a.tdiv b)))))
 | .rem=>gd (b ≠ 0) (some (.p (.int k (a.tmod b))))
 | .and=>some (.p (.int k (andI k a b)))
 | .or=>some (.p (.int k (orI k a b)))
 | .xor=>some (.p (.int k (xorI k a b)))
 | .andNot=>some (.p (.int k (antI k a b)))
 | .eql=>some (.p (.bool (a == b)))
 | .neq=>some (.p (.bool (a != b)))
 | .lss=>some (.p (.bool (decide (a < b))))
 | .leq=>some (.p (.bool (decide (a <= b))))
 | .gtr=>some (.p (.bool (decide (b < a))))
 | .geq=>some (.p (.bool (decide (b <= a))))
 | _=>none
def sbin (a b : ByteArray) : BinOp -> Option VVal
 | .eql=>some (.p (.bool (decide (a = b))))
 | .neq=>some (.p (.bool (!decide (a = b))))
 | .add=>gd (a.size + b.size <= 9223372036854775807) (some (.p (.str (a ++ b))))
 | _=>none
def isSh : BinOp -> Bool
 | .shl | .shr=>true
 | _=>false
def ishift (k : IntKind) (a b : Int) : BinOp -> Option VVal
 | .shl=>gd (0 <= b) (some (.p (.int k (shlI k a b))))
 | .shr=>gd (0 <= b) (some (.p (.int k (shrI k a b))))
 | _=>none
def vbin (op : BinOp) : VVal -> VVal -> Option VVal
 | .p (.int k a),.p (.int k' b)=>br (isSh op) (ishift k a b op) (gd (k = k') (ibin k a b op))
 | .p (.str a),.p (.str b)=>sbin a b op
 | _,_=>none
def eq0 : KT -> PV -> PV -> Option Bool
 | .int k,.int k' a,.int k'' b=>gd (k' = k) (gd (k'' = k) (some (a == b)))
 | .bool,.bool a,.bool b=>some (a == b)
 | .str,.str a,.str b=>some (decide (a = b))
 | _,_,_=>none
def eqAll : List KT -> List PV -> List PV -> Option Bool
 | [],[],[]=>some true
 | k :: ks,x :: xs,y :: ys=>ob (eq0 k x y) fun b=>ob (eqAll ks xs ys) fun c=>some (b && c)
 | _,_,_=>none
def mm2 (isMax : Bool) : VVal -> VVal -> Option VVal
 | .p (.int k a),.p (.int k' b)=>gd (k = k') (some (.p (.int k (if isMax then max a b else min a b))))
 | _,_=>none
def mmL (isMax : Bool) : VVal -> List VVal -> Option VVal
 | v,[]=>some v
 | v,u :: us=>ob (mm2 isMax v u) fun r=>mmL isMax r us
def minmaxI (isMax : Bool) : List VVal -> Option VVal
 | []=>none
 | v :: vs=>mmL isMax v vs
def mkey : KT -> VVal -> Option MKey
 | .int k,.p (.int k' n)=>gd (k = k') (some (.int n))
 | .str,.p (.str s)=>some (.str s)
 | .bool,.p (.bool b)=>some (.bool b)
 | _,_=>none
def mget : List MKey -> List PV -> MKey -> Option PV
 | k :: ks,v :: vs,k'=>if k' = k then some v else mget ks vs k'
 | _,_,_=>none
def mput : List MKey -> List PV -> MKey -> PV -> List MKey × List PV
 | k :: ks,v :: vs,k',v'=>if k' = k then (k :: ks,v' :: vs) else
   let r:=mput ks vs k' v'
   (k :: r.1,v :: r.2)
 | _,_,k',v'=>([k'],[v'])
def kpos : List MKey -> MKey -> Nat
 | k :: ks,k'=>if k' = k then 0 else kpos ks k' + 1
 | [],_=>0
def ventries (h : VHeap) : VVal -> Option (KT × List MKey × List PV)
 | .p (.map kt ks vs)=>some (kt,ks,vs)
 | .mref id ver=>match h id with
  | some (v,.map kt ks vs)=>gd (v = ver) (some (kt,ks,vs))
  | _=>none
 | _=>none
def thaw : PV -> VVal
 | .agg cs=>.agg (cs.map .p)
 | d=>.p d
def vlookup (ok : Bool) (zero : PV) (ks : List MKey) (vs : List PV) (k : MKey) : VVal :=
 let r:=mget ks vs k
 let v:=thaw (r.getD zero)
 if ok then .tup [v,.p (.bool r.isSome)] else v
def vappend (h : VHeap) (sz bytes : Nat) (s x : VVal) : Option (VVal × List (Id × Nat × Ob)) :=
 match s with
 | .own id ver 0 len=>match h id with
  | some (v,.arr sz' xs)=>gd (v = ver) <| gd (sz' = sz) <| gd (len <= xs.length) <|
    ob (velems h x) fun r=>gd (r.1 = sz \/ r.2 = []) <| gd ((len + r.2.length) * bytes <= 140737488355328) <| gd (len + r.2.length <= 9223372036854775807) <|
     some (.own id (v + 1) 0 (len + r.2.length),[(id,v + 1,.arr sz (xs.take len ++ r.2))])
  | _=>none
 | _=>none
def vappendNil (d : Nat) (h : VHeap) (sz bytes : Nat) (x : VVal) : Option (VVal × List (Id × Nat × Ob)) :=
 ob (velems h x) fun r=>gd (r.1 = sz \/ r.2 = []) <| gd (r.2.length * bytes <= 140737488355328) <| gd (r.2.length <= 9223372036854775807) <|
  some (.own (.slot d 0) (nv (h (.slot d 0))) 0 r.2.length,[(.slot d 0,nv (h (.slot d 0)),.arr sz r.2)])
def vappendLit (d : Nat) (h : VHeap) (sz bytes : Nat) (s x : VVal) : Option (VVal × List (Id × Nat × Ob)) :=
 match s with
 | .p (.lit sz' xs)=>gd (sz' = sz) <| gd (0 < xs.length) <| ob (velems h x) fun r=>gd (r.1 = sz) <| gd (0 < r.2.length) <| gd ((xs.length + r.2.length) * bytes <= 140737488355328) <| gd (xs.length + r.2.length <= 9223372036854775807) <|
   some (.own (.slot d 0) (nv (h (.slot d 0))) 0 (xs.length + r.2.length),[(.slot d 0,nv (h (.slot d 0)),.arr sz (xs ++ r.2))])
 | _=>none
def natOf : VVal -> Option Nat
 | .p (.int _ n)=>gd (0 <= n) (some n.toNat)
 | _=>none
def optNat (look : VArg -> Option VVal) (d : Nat) : Option VArg -> Option Nat
 | none=>some d
 | some x=>ob (look x) fun v=>natOf v
def vcut (h : VHeap) (sz l m : Nat) : VVal -> Option (VVal × List (Id × Nat × Ob))
 | .p (.slice sz' xs)=>gd (sz' = sz) (some (.p (.slice sz ((xs.drop l).take (m - l))),[]))
 | .own id ver off _=>match h id with
  | some (v,.arr sz' _)=>gd (v = ver) (gd (sz' = sz) (some (.own id ver (off + l) (m - l),[])))
  | _=>none
 | _=>none
def vcut0 (d : Nat) (h : VHeap) (sz : Nat) : Option (VVal × List (Id × Nat × Ob)) :=
 some (.own (.slot d 0) (nv (h (.slot d 0))) 0 0,[(.slot d 0,nv (h (.slot d 0)),.arr sz [])])
def vcut3 (d : Nat) (h : VHeap) (look : VArg -> Option VVal) (sz l m : Nat) (s : VVal) : Option VArg -> Option (VVal × List (Id × Nat × Ob))
 | none=>vcut h sz l m s
 | some x=>ob (look x) fun v=>ob (natOf v) fun k=>gd (l = m) (gd (k = m) (vcut0 d h sz))
def vcutS (l m : Nat) : VVal -> Option (VVal × List (Id × Nat × Ob))
 | .p (.str b)=>some (.p (.str (b.extract l m)),[])
 | _=>none
def vsliceS (look : VArg -> Option VVal) (lo hi : Option VArg) (s : VVal) : Option (VVal × List (Id × Nat × Ob)) :=
 ob (vlenS s) fun n=>ob (optNat look 0 lo) fun l=>ob (optNat look n hi) fun m=>gd (l <= m) (gd (m <= n) (vcutS l m s))
def vslice (d : Nat) (h : VHeap) (look : VArg -> Option VVal) (sz : Nat) (lo hi mx : Option VArg) (s : VVal) : Option (VVal × List (Id × Nat × Ob)) :=
 ob (vlen s) fun n=>ob (optNat look 0 lo) fun l=>ob (optNat look n hi) fun m=>gd (l <= m) (gd (m <= n) (vcut3 d h look sz l m s mx))
def alive (h : VHeap) (id : Id) (ver : Nat) : Bool :=
 match h id with
 | some (v,_)=>decide (v = ver)
 | none=>false
def posOf (R : List Id) (id : Id) : Option Nat:=match R with
 | []=>none
 | r :: rs=>if r = id then some 0 else (posOf rs id).map (· + 1)
def ptrs0 : VVal -> List Id
 | .ptr id _ _=>[id]
 | _=>[]
def ptrs1 : VVal -> List Id
 | .fn _ caps=>caps.flatMap ptrs0
 | .agg cs=>cs.flatMap ptrs0
 | v=>ptrs0 v
def objPtrs (h : VHeap) (id : Id) : List Id :=
 match h id with
 | some (_,.box cs)=>cs.flatMap ptrs1
 | _=>[]
def addNew (R : List Id) : List Id -> List Id
 | []=>R
 | i :: is=>addNew (if R.contains i then R else R ++ [i]) is
def roots (h : VHeap) (args : List VVal) : List Id :=
 let r0:=addNew [] (args.flatMap ptrs1)
 if r0.isEmpty then [] else
 let r1:=addNew r0 (r0.flatMap (objPtrs h))
 let r2:=addNew r1 (r1.flatMap (objPtrs h))
 r2
def ext0 (R : List Id) (h : VHeap) : VVal -> Option VVal
 | .p d=>some (.p d)
 | .own id ver off len=>ob (velems h (.own id ver off len)) fun r=>some (.p (.slice r.1 r.2))
 | .mref id ver=>ob (ventries h (.mref id ver)) fun r=>some (.p (.map r.1 r.2.1 r.2.2))
 | .ptr id ver off=>gd (alive h id ver = true) (ob (posOf R id) fun i=>some (.ptr (.arg i 0) 0 off))
 | .vptr cs off=>some (.vptr cs off)
 | .eptr id ver i off=>match h id with
  | some (v,.arr _ xs)=>gd (v = ver) (ob xs[i]? fun x=>some (.vptr x.cells off))
  | _=>none
 | _=>none
def ext1 (R : List Id) (h : VHeap) : VVal -> Option VVal
 | .fn f caps=>ob (mapO (ext0 R h) caps) fun cs=>some (.fn f cs)
 | .agg cs=>ob (mapO (ext0 R h) cs) fun cs=>some (.agg cs)
 | v=>ext0 R h v
def lends0 : VVal -> Bool
 | .own _ _ _ _ | .mref _ _ | .eptr _ _ _ _=>true
 | _=>false
def lends : VVal -> Bool
 | .agg cs | .fn _ cs=>cs.any lends0
 | v=>lends0 v
def noAlias0 : VVal -> Bool
 | .p d=>d.flat
 | .fresh _ xs=>xs.all PV.flat
 | .ptr _ _ _=>true
 | _=>false
def noAlias1 : VVal -> Bool
 | .agg cs=>cs.all noAlias0
 | .boxed cs=>cs.all noAlias0
 | v=>noAlias0 v
def noAlias : VVal -> Bool
 | .tup vs=>vs.all noAlias1
 | v=>noAlias1 v
def flatC : VVal -> Bool
 | .p d=>d.flat
 | .ptr _ _ _=>true
 | .fn _ cs=>cs.all noAlias0
 | _=>false
def flatBox : Ob -> Bool
 | .box cs=>cs.all flatC
 | _=>false
def extBox (R : List Id) (h : VHeap) (id : Id) : Option Ob :=
 match h id with
 | some (_,.box cs)=>gd (cs.any lends = false) <| ob (mapO (ext1 R h) cs) fun cs=>some (.box cs)
 | _=>none
def back0 (R : List Id) (h : VHeap) : VVal -> Option VVal
 | .p d=>some (.p d)
 | .ptr (.arg i 0) 0 off=>ob R[i]? fun id=>ob (h id) fun o=>some (.ptr id o.1 off)
 | _=>none
def back1 (R : List Id) (h : VHeap) : VVal -> Option VVal
 | .fn f caps=>ob (mapO (back0 R h) caps) fun cs=>some (.fn f cs)
 | v=>back0 R h v
def backBoxes (R : List Id) (h : VHeap) : List Id -> List Ob -> Option (List (Id × Nat × Ob))
 | [],[]=>some []
 | id :: ids,.box cs :: os=>ob (mapO (back1 R h) cs) fun cs'=>ob (h id) fun o=>ob (backBoxes R h ids os) fun us=>some ((id,o.1,.box cs') :: us)
 | _,_=>none
def in0 (R : List Id) (h : VHeap) (d j : Nat) : VVal -> Option (VVal × List (Id × Nat × Ob))
 | .fresh sz xs=>some (.own (.slot d (j + 1)) (nv (h (.slot d (j + 1)))) 0 xs.length,[(.slot d (j + 1),nv (h (.slot d (j + 1))),.arr sz xs)])
 | v=>ob (back0 R h v) fun v'=>some (v',[])
def inL (R : List Id) (h : VHeap) (d : Nat) : Nat -> List VVal -> Option (List VVal × List (Id × Nat × Ob))
 | _,[]=>some ([],[])
 | j,v :: vs=>ob (in0 R h d j v) fun r=>ob (inL R h d (j + 1) vs) fun rs=>some (r.1 :: rs.1,r.2 ++ rs.2)
def in1 (R : List Id) (h : VHeap) (d j : Nat) : VVal -> Option (VVal × List (Id × Nat × Ob))
 | .agg cs=>ob (inL R h d j cs) fun r=>some (.agg r.1,r.2)
 | .boxed cs=>ob (inL R h d (j + 1) cs) fun r=>some (.ptr (.slot d (j + 1)) (nv (h (.slot d (j + 1)))) 0,(.slot d (j + 1),nv (h (.slot d (j + 1))),.box r.1) :: r.2)
 | v=>in0 R h d j v
def width : VVal -> Nat
 | .agg cs=>cs.length
 | .boxed cs=>cs.length + 1
 | _=>1
def inT (R : List Id) (h : VHeap) (d : Nat) : Nat -> List VVal -> Option (List VVal × List (Id × Nat × Ob))
 | _,[]=>some ([],[])
 | j,v :: vs=>ob (in1 R h d j v) fun r=>ob (inT R h d (j + width v) vs) fun rs=>some (r.1 :: rs.1,r.2 ++ rs.2)
def inRes (R : List Id) (h : VHeap) (d : Nat) : VVal -> Option (VVal × List (Id × Nat × Ob))
 | .tup vs=>ob (inT R h d 0 vs) fun r=>some (.tup r.1,r.2)
 | v=>in1 R h d 0 v
def inResW (R : List Id) (h : VHeap) (d : Nat) : VVal -> Option (VVal × List (Id × Nat × Ob))
 | .own (.arg i 0) 0 off len=>ob R[i]? fun id=>ob (h id) fun o=>some (.own id o.1 off len,[])
 | v=>inRes R h d v
def vcallR (Γ : Sig) (h : VHeap) (d : Nat) (f : FuncId) (args : List VVal) (R : List Id) : Option (VVal × List (Id × Nat × Ob)) :=
 ob (mapO (ext1 R h) args) fun args'=>ob (mapO (extBox R h) R) fun H=>ob (Γ f args' H) fun r =>
  gd (args.any lends = false \/ (noAlias r.1 = true /\ r.2.all flatBox = true)) <|
  ob (backBoxes R h R r.2) fun us=>ob (inRes R h d r.1) fun q=>some (q.1,us ++ q.2)
def vcallOp (Γ : Sig) (h : VHeap) (d : Nat) (f : FuncId) (args : List VVal) : Option (VVal × List (Id × Nat × Ob)):=vcallR Γ h d f args (roots h args)
def ptrsW0 : VVal -> List Id
 | .ptr id _ _ | .own id _ _ _ | .mref id _ | .eptr id _ _ _=>[id]
 | _=>[]
def ptrsW1 : VVal -> List Id
 | .fn _ caps=>caps.flatMap ptrsW0
 | .agg cs=>cs.flatMap ptrsW0
 | v=>ptrsW0 v
def objPtrsW (h : VHeap) (id : Id) : List Id :=
 match h id with
 | some (_,.box cs)=>cs.flatMap ptrsW1
 | _=>[]
def rootsW (h : VHeap) (args : List VVal) : List Id :=
 let r0:=addNew [] (args.flatMap ptrsW1)
 if r0.isEmpty then [] else
 let r1:=addNew r0 (r0.flatMap (objPtrsW h))
 let r2:=addNew r1 (r1.flatMap (objPtrsW h))
 r2
def extW0 (R : List Id) (h : VHeap) : VVal -> Option VVal
 | .p d=>some (.p d)
 | .vptr cs off=>some (.vptr cs off)
 | .ptr id ver off=>gd (alive h id ver = true) (ob (posOf R id) fun i=>some (.ptr (.arg i 0) 0 off))
 | .own id ver off len=>gd (alive h id ver = true) (ob (posOf R id) fun i=>some (.own (.arg i 0) 0 off len))
 | .mref id ver=>gd (alive h id ver = true) (ob (posOf R id) fun i=>some (.mref (.arg i 0) 0))
 | .eptr id ver j off=>gd (alive h id ver = true) (ob (posOf R id) fun i=>some (.eptr (.arg i 0) 0 j off))
 | _=>none
def extW1 (R : List Id) (h : VHeap) : VVal -> Option VVal
 | .fn f caps=>ob (mapO (extW0 R h) caps) fun cs=>some (.fn f cs)
 | .agg cs=>ob (mapO (extW0 R h) cs) fun cs=>some (.agg cs)
 | v=>extW0 R h v
def extObW (R : List Id) (h : VHeap) (id : Id) : Option Ob :=
 match h id with
 | some (_,.box cs)=>ob (mapO (extW1 R h) cs) fun cs=>some (.box cs)
 | some (_,.arr sz xs)=>some (.arr sz xs)
 | some (_,.map kt ks vs)=>some (.map kt ks vs)
 | _=>none
def backW0 (R : List Id) (h : VHeap) : VVal -> Option VVal
 | .p d=>some (.p d)
 | .ptr (.arg i 0) 0 off=>ob R[i]? fun id=>ob (h id) fun o=>some (.ptr id o.1 off)
 | .own (.arg i 0) ver off len=>ob R[i]? fun id=>ob (h id) fun o=>some (.own id (o.1 + ver) off len)
 | .mref (.arg i 0) 0=>ob R[i]? fun id=>ob (h id) fun o=>some (.mref id o.1)
 | _=>none
def backW1 (R : List Id) (h : VHeap) : VVal -> Option VVal
 | .fn f caps=>ob (mapO (backW0 R h) caps) fun cs=>some (.fn f cs)
 | v=>backW0 R h v
def inC (R : List Id) (h : VHeap) (d j : Nat) : VVal -> Option (VVal × List (Id × Nat × Ob))
 | .fresh sz xs=>some (.own (.slot d (j + 1)) (nv (h (.slot d (j + 1))) + 1) 0 xs.length,[(.slot d (j + 1),nv (h (.slot d (j + 1))) + 1,.arr sz xs)])
 | v=>ob (backW1 R h v) fun v'=>some (v',[])
def inCL (R : List Id) (h : VHeap) (d : Nat) : Nat -> List VVal -> Option (List VVal × List (Id × Nat × Ob))
 | _,[]=>some ([],[])
 | j,v :: vs=>ob (inC R h d j v) fun r=>ob (inCL R h d (j + 1) vs) fun rs=>some (r.1 :: rs.1,r.2 ++ rs.2)
def backObs (R : List Id) (h : VHeap) (d : Nat) : Nat -> List Id -> List Ob -> Option (List (Id × Nat × Ob) × List (Id × Nat × Ob))
 | _,[],[]=>some ([],[])
 | j,id :: ids,o :: os=>ob (h id) fun q=>match q.2,o with
  | .box _,.box cs=>ob (inCL R h d j cs) fun r=>ob (backObs R h d (j + cs.length) ids os) fun us=>some ((id,q.1,.box r.1) :: us.1,r.2 ++ us.2)
  | .arr _ _,.arr sz xs=>ob (backObs R h d j ids os) fun us=>some ((id,q.1,.arr sz xs) :: us.1,us.2)
  | .arr _ _,.box [.undef,.fresh sz xs]=>ob (backObs R h d j ids os) fun us=>some ((id,q.1 + 1,.arr sz xs) :: us.1,us.2)
  | .map _ _ _,.map kt ks vs=>ob (backObs R h d j ids os) fun us=>some ((id,q.1,.map kt ks vs) :: us.1,us.2)
  | _,_=>none
 | _,_,_=>none
def apartRes (R : List Id) (as_ qs : List (Id × Nat × Ob)) : Bool:=qs.all fun x=>!R.contains x.1 && as_.all fun y=>!decide (y.1 = x.1)
def vcallRW (Γ : Sig) (h : VHeap) (d : Nat) (f : FuncId) (args : List VVal) (R : List Id) : Option (VVal × List (Id × Nat × Ob)) :=
 ob (mapO (extW1 R h) args) fun args'=>ob (mapO (extObW R h) R) fun H=>ob (Γ f args' H) fun r =>
  ob (backObs R h d 1000 R r.2) fun us=>ob (inResW R h d r.1) fun q=>gd (apartRes R us.2 q.2 = true) (some (q.1,us.1 ++ (us.2 ++ q.2)))
def vcallW (Γ : Sig) (h : VHeap) (d : Nat) (f : FuncId) (args : List VVal) : Option (VVal × List (Id × Nat × Ob)):=vcallRW Γ h d f args (rootsW h args)
def vcopy (h : VHeap) (sz : Nat) (a x : VVal) : Option (VVal × List (Id × Nat × Ob)) :=
 match a with
 | .own id ver off len=>match h id with
  | some (v,.arr sz' xs)=>gd (v = ver) <| gd (sz' = sz) <| ob (velems h x) fun r=>gd (r.1 = sz \/ r.2 = []) <|
    some (.p (.int .i64 (min len r.2.length : Nat)),[(id,v,.arr sz (splice xs off (r.2.take (min len r.2.length))))])
  | _=>none
 | _=>none
def vclear (h : VHeap) (sz : Nat) (zero : PV) (a : VVal) : Option (VVal × List (Id × Nat × Ob)) :=
 match a with
 | .own id ver off len=>match h id with
  | some (v,.arr sz' xs)=>gd (v = ver) <| gd (sz' = sz) (some (.dead,[(id,v,.arr sz (splice xs off (List.replicate len zero)))]))
  | _=>none
 | _=>none
def unU8 : PV -> Option Int
 | .int .u8 n=>some n
 | _=>none
def bytesI (ns : List Int) : ByteArray:=⟨(ns.map fun n=>UInt8.ofNat n.toNat).toArray⟩
open Classical in
noncomputable def stillC (h : VHeap) (us : List (Id × Nat × Ob)) : Bool:=decide (∀ x ∈ us,h x.1 = some x.2)
theorem stillC_nil {h : VHeap} : stillC h [] = true:=by simp [stillC]
theorem stillC_cons {h : VHeap} {i : Id} {n : Nat} {o : Ob} {us : List (Id × Nat × Ob)} : (stillC h ((i,n,o) :: us) = true) = (h i = some (n,o) /\ stillC h us = true):=by
 simp only [stillC,decide_eq_true_eq,lfm]
noncomputable def evalOp (Γ : Sig) (look : VArg -> Option VVal) (h : VHeap) (d : Nat) : VOp -> Option (VVal × List (Id × Nat × Ob))
 | .move x=>ob (look x) fun v=>some (v,[])
 | .newArr sz=>some (.own (.slot d 0) (nv (h (.slot d 0))) 0 0,[(.slot d 0,nv (h (.slot d 0)),.arr sz [])])
 | .pick c a b=>ob (look c) fun v=>match v with
  | .p (.bool t)=>br t (ob (look a) fun v=>some (v,[])) (ob (look b) fun v=>some (v,[]))
  | _=>none
 | .alloc zero=>some (.ptr (.slot d 0) (nv (h.upds (zcells d h 0 zero).2 (.slot d 0))) 0,(zcells d h 0 zero).2 ++ [(.slot d 0,nv (h.upds (zcells d h 0 zero).2 (.slot d 0)),.box (zcells d h 0 zero).1)])
 | .box n x=>ob (look x) fun v=>gd ((vcells v).length = n) <| gd ((vcells v).all solid = true) (some (.ptr (.slot d 0) (nv (h (.slot d 0))) 0,[(.slot d 0,nv (h (.slot d 0)),.box (vcells v))]))
 | .build cells=>ob (bcells look d h 0 cells) fun r=>some (.agg r.1,r.2)
 | .buildSlice sz parts=>ob (mapO (fun x=>ob (look x) fun v=>freezeP v) parts) fun xs =>
   gd (xs.all (fun x=>decide (x.cells.length = sz)) = true) (some (.own (.slot d 0) (nv (h (.slot d 0))) 0 parts.length,[(.slot d 0,nv (h (.slot d 0)),.arr sz xs)]))
 | .buildFz sz parts=>ob (mapO (fun x=>ob (look x) fun v=>freezeP v) parts) fun xs =>
   gd (xs.all (fun x=>decide (x.cells.length = sz)) = true) (some (.p (.slice sz xs),[]))
 | .load agg a=>ob (look a) fun p=>ob (vload h agg p) fun v=>some (v,[])
 | .store n a x=>ob (look a) fun p=>ob (look x) fun v=>ob (vstore h n p v) fun us=>some (.undef,us)
 | .fieldAddr off x=>ob (look x) fun v=>match v with
  | .ptr id ver o=>some (.ptr id ver (o + off),[])
  | .vptr cs o=>some (.vptr cs (o + off),[])
  | .eptr id ver i o=>some (.eptr id ver i (o + off),[])
  | _=>none
 | .field off agg x=>ob (look x) fun v=>match v with
  | .agg cs=>ob (ofCells agg cs off) fun r=>some (r,[])
  | _=>none
 | .indexAddr sz x i=>ob (look x) fun s=>ob (look i) fun n=>match n with
  | .p (.int _ n)=>ob (vindex h sz s n) fun r=>some (r,[])
  | _=>none
 | .indexStr x i=>ob (look x) fun s=>ob (look i) fun n=>match s,n with
  | .p (.str s),.p (.int _ n)=>gd (0 <= n) (ob s[n.toNat]? fun b=>some (.p (.int .u8 b.toNat),[]))
  | _,_=>none
 | .bin op x y=>ob (look x) fun a=>ob (look y) fun b=>ob (vbin op a b) fun r=>some (r,[])
 | .eqAgg neg kts x y=>ob (look x) fun a=>ob (look y) fun b=>match a,b with
  | .agg a,.agg b=>ob (mapO unP a) fun xs=>ob (mapO unP b) fun ys=>ob (eqAll kts xs ys) fun r=>some (.p (.bool (if neg then !r else r)),[])
  | _,_=>none
 | .not x=>ob (look x) fun v=>match v with
  | .p (.bool b)=>some (.p (.bool (!b)),[])
  | _=>none
 | .neg x=>ob (look x) fun v=>match v with
  | .p (.int k n)=>some (.p (.int k (k.wrap (0 - n))),[])
  | _=>none
 | .len x=>ob (look x) fun v=>ob (vlen v) fun n=>some (.p (.int .i64 n),[])
 | .lenStr x=>ob (look x) fun v=>ob (vlenS v) fun n=>some (.p (.int .i64 n),[])
 | .eqB neg x y=>ob (look x) fun a=>ob (look y) fun b=>match a,b with
  | .p (.bool a),.p (.bool b)=>some (.p (.bool (if neg then !(a == b) else a == b)),[])
  | _,_=>none
 | .append sz bytes s x=>ob (look s) fun a=>ob (look x) fun b=>vappend h sz bytes a b
 | .appendNil sz bytes x=>ob (look x) fun b=>vappendNil d h sz bytes b
 | .slice str sz lo hi mx x=>ob (look x) fun s=>br str (vsliceS look lo hi s) (vslice d h look sz lo hi mx s)
 | .lookup ok kt zero m k=>ob (look m) fun m=>ob (look k) fun k=>ob (ventries h m) fun es=>gd (es.1 = kt \/ es.2.1 = []) <| ob (mkey kt k) fun k=>some (vlookup ok zero es.2.1 es.2.2 k,[])
 | .mapUpdate kt m k x=>ob (look m) fun m=>ob (look k) fun k=>ob (look x) fun x=>ob (mkey kt k) fun k=>ob (freezeP x) fun x=>match m with
  | .mref id ver=>match h id with
   | some (v,.map kt' ks vs)=>gd (v = ver) <| gd (kt' = kt) (some (.undef,[(id,v,.map kt (mput ks vs k x).1 (mput ks vs k x).2)]))
   | _=>none
  | _=>none
 | .makeMap kt=>some (.mref (.slot d 0) (nv (h (.slot d 0))),[(.slot d 0,nv (h (.slot d 0)),.map kt [] [])])
 | .mapLen x=>ob (look x) fun m=>ob (ventries h m) fun es=>some (.p (.int .i64 es.2.1.length),[])
 | .extract x i=>ob (look x) fun v=>match v with
  | .tup vs=>ob vs[i]? fun v=>some (v,[])
  | _=>none
 | .minmax isMax xs=>ob (mapO look xs) fun vs=>ob (minmaxI isMax vs) fun r=>some (r,[])
 | .conv k x=>ob (look x) fun v=>match v with
  | .p (.int _ n)=>some (.p (.int k (k.wrap n)),[])
  | _=>none
 | .strBytes x=>ob (look x) fun v=>match v with
  | .p (.str s)=>some (.p (.slice 1 (s.data.toList.map fun b=>.int .u8 b.toNat)),[])
  | _=>none
 | .bytesStr x=>ob (look x) fun v=>ob (velems h v) fun r=>gd (r.1 = 1) <| ob (mapO unU8 r.2) fun ns=>some (.p (.str (bytesI ns)),[])
 | .nilCheck x=>ob (look x) fun v=>match v with
  | .ptr id ver off=>some (.ptr id ver off,[])
  | .vptr cs off=>some (.vptr cs off,[])
  | .eptr id ver i off=>some (.eptr id ver i off,[])
  | .fn f caps=>some (.fn f caps,[])
  | _=>none
 | .makeFunc f caps=>ob (mapO look caps) fun cs=>some (.fn f cs,[])
 | .call f args=>ob (mapO look args) fun vs=>vcallOp Γ h d f vs
 | .callv x args=>ob (look x) fun g=>ob (mapO look args) fun vs=>match g with
  | .fn f caps=>vcallOp Γ h d f (vs ++ caps)
  | .p (.fn f)=>vcallOp Γ h d f vs
  | _=>none
 | .callW f args=>ob (mapO look args) fun vs=>vcallW Γ h d f vs
 | .callR f args=>ob (mapO look args) fun vs=>ob (vcallW Γ h d f vs) fun q=>gd (stillC h q.2 = true) (some (q.1,[]))
 | .callvW x args=>ob (look x) fun g=>ob (mapO look args) fun vs=>match g with
  | .fn f caps=>vcallW Γ h d f (vs ++ caps)
  | .p (.fn f)=>vcallW Γ h d f vs
  | _=>none
 | .make sz bytes zero n=>ob (look n) fun v=>match v with
  | .p (.int _ m)=>gd (0 <= m) <| gd ((bytes : Int) * m <= 281474976710656) <| gd (m <= 9223372036854775807) <|
    some (.own (.slot d 0) (nv (h (.slot d 0))) 0 m.toNat,[(.slot d 0,nv (h (.slot d 0)),.arr sz (List.replicate m.toNat zero))])
  | _=>none
 | .copy sz a x=>ob (look a) fun a=>ob (look x) fun x=>vcopy h sz a x
 | .clear sz zero a=>ob (look a) fun a=>vclear h sz zero a
 | .unlit x=>ob (look x) fun v=>match v with
  | .p (.lit sz xs)=>some (.p (.slice sz xs),[])
  | _=>none
 | .buildLit sz parts=>ob (mapO (fun x=>ob (look x) fun v=>freezeP v) parts) fun xs =>
   gd (xs.all (fun x=>decide (x.cells.length = sz)) = true) (some (.p (.lit sz xs),[]))
 | .appendLit sz bytes s x=>ob (look s) fun a=>ob (look x) fun b=>vappendLit d h sz bytes a b
 | .mapEntry kt zero m k=>ob (look m) fun m=>ob (look k) fun k=>ob (mkey kt k) fun k=>match m with
  | .mref id ver=>match h id with
   | some (v,.map kt' ks vs)=>gd (v = ver) <| gd (kt' = kt) (some (.tup [thaw ((mget ks vs k).getD zero),.p (.int .i64 (kpos ks k))],[(id,v,.map kt (mput ks vs k ((mget ks vs k).getD zero)).1 (mput ks vs k ((mget ks vs k).getD zero)).2)]))
   | _=>none
  | _=>none
 | .entryStore m s x=>ob (look m) fun m=>ob (look s) fun s=>ob (look x) fun x=>ob (freezeP x) fun x=>match m,s with
  | .mref id ver,.p (.int .i64 n)=>match h id with
   | some (v,.map kt ks vs)=>gd (v = ver) <| gd (0 <= n) <| gd (n.toNat < vs.length) (some (.undef,[(id,v,.map kt ks (vs.set n.toNat x))]))
   | _=>none
  | _,_=>none
 | .buildArr sz parts=>ob (mapO (fun x=>ob (look x) fun v=>freezeP v) parts) fun xs=>gd (xs.all (fun x=>decide (x.cells.length = sz)) = true) (some (.agg ((xs.flatMap PV.cells).map .p),[]))
 | .indexArr n sz agg x i=>ob (look x) fun v=>ob (look i) fun i=>match v,i with
  | .agg cs,.p (.int _ k)=>gd (0 <= k) <| gd (k < n) <| ob (ofCells agg cs (k.toNat * sz)) fun r=>some (r,[])
  | _,_=>none
end Go.V
namespace Go.V
structure RS where
 pe : Nat -> VVal
 te : Nat -> Option VVal
 h : VHeap
def RS.look (r : RS) : VArg -> Option VVal
 | .v s=>some (r.pe s)
 | .t s=>r.te s
 | .c d=>some (thaw d)
def updV (e : Nat -> VVal) (s : Nat) (v : VVal) : Nat -> VVal:=fun t=>if t = s then v else e t
def updT (e : Nat -> Option VVal) (s : Nat) (v : VVal) : Nat -> Option VVal:=fun t=>if t = s then some v else e t
def RS.put (r : RS) : VDst -> VVal -> RS
 | .v s,v=>{ r with pe:=updV r.pe s v }
 | .t s,v=>{ r with te:=updT r.te s v }
 | .none,_=>r
def VDst.slot : VDst -> Nat
 | .v s | .t s=>s
 | .none=>0
noncomputable def stepO (Γ : Sig) (o : VOper) (r : RS) : Option RS :=
 match o.guard with
 | none=>ob (evalOp Γ r.look r.h o.dst.slot o.op) fun q=>some { r.put o.dst q.1 with h:=r.h.upds q.2 }
 | some (g,want)=>ob (r.look g) fun gv=>match gv with
  | .p (.bool b)=>br (b == want) (ob (evalOp Γ r.look r.h o.dst.slot o.op) fun q=>some { r.put o.dst q.1 with h:=r.h.upds q.2 })
   (some (r.put o.dst .undef))
  | .undef=>some (r.put o.dst .undef)
  | _=>none
def ids0 : VVal -> List Id
 | .own id _ _ _ | .ptr id _ _ | .eptr id _ _ _ | .mref id _=>[id]
 | _=>[]
def ids1 : VVal -> List Id
 | .fn _ cs | .agg cs=>cs.flatMap ids0
 | v=>ids0 v
def VOp.args : VOp -> List VArg
 | .move x | .box _ x | .load _ x | .fieldAddr _ x | .field _ _ x | .not x | .neg x | .len x | .lenStr x | .appendNil _ _ x | .mapLen x | .extract x _ | .conv _ x | .strBytes x | .bytesStr x | .nilCheck x | .make _ _ _ x | .clear _ _ x | .unlit x=>[x]
 | .newArr _ | .alloc _ | .makeMap _=>[]
 | .pick c a b=>[c,a,b]
 | .build cs=>cs.filterMap fun | .a x _ _=>some x | .z _=>none
 | .buildSlice _ ps=>ps
 | .buildFz _ ps=>ps
 | .buildLit _ ps=>ps
 | .store _ a x | .indexAddr _ a x | .indexStr a x | .bin _ a x | .eqAgg _ _ a x | .eqB _ a x | .append _ _ a x | .lookup _ _ _ a x | .copy _ a x | .appendLit _ _ a x=>[a,x]
 | .slice _ _ lo hi mx x=>x :: (lo.toList ++ hi.toList ++ mx.toList)
 | .mapUpdate _ m k x=>[m,k,x]
 | .mapEntry _ _ m k=>[m,k]
 | .entryStore m s x=>[m,s,x]
 | .buildArr _ ps=>ps
 | .indexArr _ _ _ x i=>[x,i]
 | .minmax _ xs | .makeFunc _ xs | .call _ xs | .callW _ xs | .callR _ xs=>xs
 | .callv x xs | .callvW x xs=>x :: xs
def VOp.writes : VOp -> Bool
 | .store _ _ _ | .append _ _ _ _ | .mapUpdate _ _ _ _ | .call _ _ | .callv _ _ | .callW _ _ | .callvW _ _ | .copy _ _ _ | .mapEntry _ _ _ _ | .entryStore _ _ _ | .clear _ _ _=>true
 | _=>false
def VOp.isR : VOp -> Bool
 | .callR _ _=>true
 | _=>false
def callArgs : VOp -> List VVal -> List VVal
 | .callv _ _,.fn _ caps :: vs=>vs ++ caps
 | .callv _ _,_ :: vs=>vs
 | .callvW _ _,.fn _ caps :: vs=>vs ++ caps
 | .callvW _ _,_ :: vs=>vs
 | _,vs=>vs
def callRoots (h : VHeap) : VOp -> List VVal -> List Id
 | .callW _ _,vs | .callvW _ _,vs | .callR _ _,vs=>rootsW h vs
 | _,vs=>roots h vs
def touchF (look : VArg -> Option VVal) (h : VHeap) (o : VOper) : List Id :=
 let vs:=o.op.args.filterMap look
 vs.flatMap ids1 ++ (if o.op.writes || o.op.isR then (callArgs o.op vs).flatMap ids1 ++ callRoots h o.op (callArgs o.op vs) else [])
def touch (r : RS) (o : VOper) : List Id:=touchF r.look r.h o
def Id.at : Id -> Nat -> Bool
 | .slot s _,d=>s == d
 | _,_=>false
def apartFp (o o' : VOper) (t t' : List Id) : Bool :=
 (!o.op.writes || t.all fun i=>!t'.contains i) && (!o'.op.writes || t'.all fun i=>!t.contains i) &&
 t.all (fun i=>!i.at o'.dst.slot) && t'.all (fun i=>!i.at o.dst.slot) && o.dst.slot != o'.dst.slot
noncomputable def runOps (Γ : Sig) : List VOper -> RS -> Option RS
 | [],r=>some r
 | o :: os,r=>ob (stepO Γ o r) fun r'=>runOps Γ os r'
def checkFp (fp : List (Nat × Nat)) (i : Nat) (o : VOper) (t : List Id) : List (Nat × VOper × List Id) -> Bool
 | []=>true
 | (a,o',t') :: acc=>if fp.contains (a,i) = true then apartFp o' o t' t && checkFp fp i o t acc else checkFp fp i o t acc
def fpL (fp : List (Nat × Nat)) (i : Nat) : Bool:=fp.any fun p=>p.1 == i
def fpR (fp : List (Nat × Nat)) (i : Nat) : Bool:=fp.any fun p=>p.2 == i
def noteFp (fp : List (Nat × Nat)) (i : Nat) (o : VOper) (r : RS) (acc : List (Nat × VOper × List Id)) : List (Nat × VOper × List Id) :=
 if fpL fp i = true then (i,o,touch r o) :: acc else acc
noncomputable def runFp (Γ : Sig) (fp : List (Nat × Nat)) : Nat -> List VOper -> RS -> List (Nat × VOper × List Id) -> Option RS
 | _,[],r,_=>some r
 | i,o :: os,r,acc=>if fpR fp i = true then gd (checkFp fp i o (touch r o) acc = true) <| ob (stepO Γ o r) fun r'=>runFp Γ fp (i + 1) os r' (noteFp fp i o r acc)
   else ob (stepO Γ o r) fun r'=>runFp Γ fp (i + 1) os r' (noteFp fp i o r acc)
def fzId (fz : List Nat) : Id -> Bool
 | .slot s _=>fz.contains s
 | .arg _ _=>false
def fz0 (fz : List Nat) (h : VHeap) : VVal -> VVal
 | .own id ver off len=>if fzId fz id then
   match velems h (.own id ver off len) with
   | some r=>.p (.slice r.1 r.2)
   | none=>.dead
  else .own id ver off len
 | v=>v
def fz1 (fz : List Nat) (h : VHeap) : VVal -> VVal
 | .agg cs=>.agg (cs.map (fz0 fz h))
 | .tup vs=>.tup (vs.map (fz0 fz h))
 | v=>fz0 fz h v
def fzOb (fz : List Nat) (h : VHeap) (id : Id) : Option (Nat × Ob) :=
 match h id with
 | some (v,.arr sz xs)=>if fzId fz id then some (v + 1,.gone) else some (v,.arr sz xs)
 | some (v,.box cs)=>some (v,.box (cs.map (fz0 fz h)))
 | o=>o
def freeze (fz : List Nat) (s : St) : St:=if fz.isEmpty then s else { pe:=fun t=>fz1 fz s.h (s.pe t),h:=fzOb fz s.h }
noncomputable def execR (Γ : Sig) (r : VRegion) (s : St) : Option St :=
 ob (if r.fp.isEmpty then runOps Γ r.ops { pe:=(freeze r.fz s).pe,te:=fun _=>none,h:=(freeze r.fz s).h }
   else runFp Γ r.fp 0 r.ops { pe:=(freeze r.fz s).pe,te:=fun _=>none,h:=(freeze r.fz s).h } []) fun q=>some { pe:=q.pe,h:=q.h }
def mv0 (a b : Id) (va n : Nat) : VVal -> VVal
 | .own id ver off len=>if id = a /\ ver = va then .own b n off len else .own id ver off len
 | .eptr id ver i off=>if id = a /\ ver = va then .eptr b n i off else .eptr id ver i off
 | v=>v
def mv1 (a b : Id) (va n : Nat) : VVal -> VVal
 | .agg cs=>.agg (cs.map (mv0 a b va n))
 | .tup vs=>.tup (vs.map (mv0 a b va n))
 | v=>mv0 a b va n v
def mvOb (a b : Id) (va n sz : Nat) (xs : List PV) (h : VHeap) : VHeap:=fun id=>if id = b then some (n,.arr sz xs) else if id = a then some (va + 1,.gone) else
 match h id with
 | some (v,.box cs)=>some (v,.box (cs.map (mv0 a b va n)))
 | o=>o
def moved (a b : Id) (s : St) : St:=match s.h a with
 | some (va,.arr sz xs)=>{ pe:=fun t=>mv1 a b va (nv (s.h b)) (s.pe t),h:=mvOb a b va (nv (s.h b)) sz xs s.h }
 | _=>s
def iterN (b : St -> Option (VExit × St)) : Nat -> St -> Option (VExit × St)
 | 0,_=>none
 | n + 1,s=>ob (b s) fun r=>match r.1 with
  | .normal=>iterN b n r.2
  | _=>some r
open Classical in
noncomputable def iter (b : St -> Option (VExit × St)) (s : St) : Option (VExit × St) :=
 if h : ∃ n r,iterN b n s = some r then some (Classical.choose (Classical.choose_spec h)) else none
noncomputable def exec (Γ : Sig) : VCode -> St -> Option (VExit × St)
 | .skip,s=>some (.normal,s)
 | .region r,s=>ob (execR Γ r s) fun s'=>some (.normal,s')
 | .seq a b,s=>ob (exec Γ a s) fun r=>match r.1 with
  | .normal=>exec Γ b r.2
  | _=>some r
 | .cond c a b,s=>match c with
  | .v t=>match s.pe t with
   | .p (.bool c)=>br c (exec Γ a s) (exec Γ b s)
   | _=>none
  | _=>none
 | .block id c,s=>ob (exec Γ c s) fun r=>if r.1 = .exit id then some (.normal,r.2) else some r
 | .loop c,s=>iter (exec Γ c) s
 | .exit id,s=>some (.exit id,s)
 | .ret,s=>some (.ret,s)
 | .mv a b c,s=>exec Γ c (moved a b s)
 | .scope c,s=>exec Γ c s
 | .fail,_=>none
def enterE (args : List VVal) : Nat -> VVal:=fun s=>args.getD s .undef
def enterH (H : List Ob) : VHeap:=fun id=>match id with
 | .arg i 0=>(H[i]?).map fun o=>(0,o)
 | _=>none
def fetch (s : St) : VRet -> Option VVal
 | .tmp (.v t)=>some (s.pe t)
 | .cell (.v t) agg=>vload s.h agg (s.pe t)
 | _=>none
def out0 (h : VHeap) : VVal -> Option VVal
 | .p d=>some (.p d)
 | .own (.slot s j) ver off len=>ob (velems h (.own (.slot s j) ver off len)) fun r=>gd (off = 0) (some (.fresh r.1 r.2))
 | .mref (.slot s j) ver=>ob (ventries h (.mref (.slot s j) ver)) fun r=>some (.p (.map r.1 r.2.1 r.2.2))
 | .ptr (.arg i 0) ver off=>gd (ver = 0) (some (.ptr (.arg i 0) 0 off))
 | .fn f []=>some (.p (.fn f))
 | _=>none
def out1 (h : VHeap) : VVal -> Option VVal
 | .agg cs=>ob (mapO (out0 h) cs) fun cs=>some (.agg cs)
 | .ptr (.slot s j) ver 0=>match h (.slot s j) with
  | some (v,.box cs)=>gd (v = ver) (ob (mapO (out0 h) cs) fun cs=>some (.boxed cs))
  | _=>none
 | v=>out0 h v
def nodupB : List Id -> Bool
 | []=>true
 | i :: is=>!is.contains i && nodupB is
def ownIds0 : VVal -> List Id
 | .own id _ _ _=>[id]
 | _=>[]
def ownIds1 (h : VHeap) : VVal -> List Id
 | .agg cs=>cs.flatMap ownIds0
 | .ptr id _ _=>match h id with
  | some (_,.box cs)=>id :: cs.flatMap ownIds0
  | _=>[id]
 | v=>ownIds0 v
def outO (h : VHeap) : VVal -> Option VVal
 | .own (.arg i 0) ver off len=>gd (ver = 0) (gd (alive h (.arg i 0) 0 = true) (some (.own (.arg i 0) 0 off len)))
 | v=>out1 h v
def outsT (h : VHeap) : List VVal -> Option VVal
 | [v]=>outO h v
 | vs=>ob (mapO (out1 h) vs) fun vs=>some (.tup vs)
def newIds0 : VVal -> List Id
 | .own (.slot s j) _ _ _=>[.slot s j]
 | _=>[]
def argOwns (h : VHeap) : Nat -> Nat -> List Id
 | _,0=>[]
 | i,n + 1=>(match h (.arg i 0) with
  | some (_,.box cs)=>cs.flatMap newIds0
  | _=>[]) ++ argOwns h (i + 1) n
def outs (h : VHeap) (n : Nat) (vs : List VVal) : Option VVal:=gd (nodupB (vs.flatMap (ownIds1 h) ++ argOwns h 0 n) = true) (outsT h vs)
def outArg1 (h : VHeap) : VVal -> Option VVal
 | .p d=>some (.p d)
 | .ptr (.arg i 0) ver off=>gd (ver = 0) (some (.ptr (.arg i 0) 0 off))
 | .own (.arg i 0) ver off len=>gd (alive h (.arg i 0) ver = true) (some (.own (.arg i 0) (if ver = 0 then 0 else 1) off len))
 | .own (.slot s j) ver off len=>ob (velems h (.own (.slot s j) ver off len)) fun r=>gd (off = 0) (some (.fresh r.1 r.2))
 | .mref (.arg i 0) ver=>gd (ver = 0) (some (.mref (.arg i 0) 0))
 | _=>none
def outArg (h : VHeap) : VVal -> Option VVal
 | .fn f caps=>ob (mapO (outArg1 h) caps) fun cs=>some (.fn f cs)
 | v=>outArg1 h v
def outBox (h : VHeap) (i : Nat) : Option Ob :=
 match h (.arg i 0) with
 | some (v,.box cs)=>gd (v = 0) (ob (mapO (outArg h) cs) fun cs=>some (.box cs))
 | some (v,.arr sz xs)=>some (if v = 0 then .arr sz xs else .box [.undef,.fresh sz xs])
 | some (v,.map kt ks vs)=>gd (v = 0) (some (.map kt ks vs))
 | _=>none
def outH (h : VHeap) : Nat -> Nat -> Option (List Ob)
 | _,0=>some []
 | i,n + 1=>ob (outBox h i) fun o=>ob (outH h (i + 1) n) fun os=>some (o :: os)
def leave (rets : List VRet) (n : Nat) (r : VExit × St) : Option (VVal × List Ob) :=
 match r.1 with
 | .exit _=>none
 | _=>ob (mapO (fetch r.2) rets) fun vs=>ob (outs r.2.h n vs) fun v=>ob (outH r.2.h 0 n) fun H'=>some (v,H')
noncomputable def callF (Γ : Sig) (vf : VFunc) (args : List VVal) (H : List Ob) : Option (VVal × List Ob) :=
 gd (args.length = vf.nparams) <|
  ob (exec Γ vf.body { pe:=enterE args,h:=enterH H }) fun r=>leave vf.rets H.length r
noncomputable def callN (prog : FuncId -> Option VFunc) (X : Sig) : Nat -> Sig
 | 0=>X
 | n + 1=>fun f args H=>match X f args H with
  | some r=>some r
  | none=>match prog f with
   | some vf=>callF (callN prog X n) vf args H
   | none=>none
open Classical in
noncomputable def vcall (prog : FuncId -> Option VFunc) (X : Sig) : Sig:=fun f args H =>
 if h : ∃ n r,callN prog X n f args H = some r then some (Classical.choose (Classical.choose_spec h)) else none
end Go.V
namespace Go.V
def vb3 : VCode:=.seq (rg [oV 10 (.move cF)]) (.seq (.seq (rg [oM 26 0,oC 27 4 [.t 26],oT 28 (.not (.t 27)),oP 29 28,gM 30 3 29 false,oG 31 (.len (.t 30)) 29 false,oG 32 (.bin .gtr (.t 31) (cI 50)) 29 false,oO 33 29 32,oP 34 33,gM 35 4 34 false,oG 36 (.len (.t 35)) 34 false,oG 37 (.bin .gtr (.t 36) (cI 50)) 34 false,oV 38 (.pick (.t 34) cT (.t 37))]) (.cond (.v 38) (.seq (rg [oC 39 5 [],oN 10 39]) .ret) .skip)) (.seq (rg [oM 40 0,oC 41 6 [.t 40],oN 11 41]) (.seq (rg [oM 42 11,oC 43 7 [.t 42,.c (.int .i64 7)],oV 12 (.alloc [.nil 6,.c (.int .i64 0)]),oS 2 12 43]) (.seq (rg [oM 44 11,oK 45 2 12,oC 46 8 [.t 44,.t 45],oN 13 46]) (.seq (rg [oM 47 13,oT 48 (.appendNil 3 24 (.t 47)),oN 14 48]) (.seq (rg [oM 49 14,oM 50 11,oM 51 14,oY 52 51,oC 53 9 [.t 50,.t 52],oA 54 3 49 53,oN 15 54]) (.seq (.seq (rg [oM 55 11,oV 56 (.call 9 [.t 55,.c (.int .i64 4)])]) (.block 0 (.seq (rg [oT 58 (.bin .eql (.v 56) (cI 0)),oN 57 58]) (.cond (.v 57) (rg [oM 59 15,oT 60 (.nilCheck (.t 59)),oQ 61 0 60,oL 62 61,oI 63 62,oT 64 (.nilCheck (.t 59)),oQ 65 0 64,oZ (.store 1 (.t 65) (.t 63))]) (.seq (rg [oT 67 (.bin .eql (.v 56) (cI 1)),oN 66 67]) (.cond (.v 66) (rg [oM 68 15,oT 69 (.buildSlice 1 [.c (.int .i64 (-1)),.c (.int .i64 10000),.c (.int .i64 10001)]),oM 70 11,oC 71 9 [.t 70,.c (.int .i64 3)],oA 72 1 69 71,oL 73 72,oT 74 (.nilCheck (.t 68)),oQ 75 1 74,oZ (.store 1 (.t 75) (.t 73))]) (.seq (rg [oT 77 (.bin .eql (.v 56) (cI 2)),oN 76 77]) (.cond (.v 76) (rg [oM 78 15,oT 79 (.buildSlice 1 [.c (.int .i64 (-1)),.c (.int .i64 10000),.c (.int .i64 10001)]),oM 80 11,oC 81 9 [.t 80,.c (.int .i64 3)],oA 82 1 79 81,oL 83 82,oT 84 (.nilCheck (.t 78)),oQ 85 2 84,oZ (.store 1 (.t 85) (.t 83))]) (.seq (rg [oT 87 (.bin .eql (.v 56) (cI 3)),oN 86 87]) (.cond (.v 86) (rg [oM 88 14,oT 89 (.slice false 3 (some (cI 1)) none none (.t 88)),oN 14 89]) .skip)))))))))) (.seq (.region ⟨[oM 90 11,oK 91 2 12,oC 92 10 [.t 90,.t 91],oM 93 11,oK 94 2 12,oC 95 10 [.t 93,.t 94],oM 96 11,oK 97 2 12,oC 98 10 [.t 96,.t 97],oT 99 (.buildLit 1 [.t 92,.t 95,.t 98]),oM 100 11,oC 101 9 [.t 100,.c (.int .i64 12000)],oM 102 11,oC 103 9 [.t 102,.c (.int .i64 12000)],oT 104 (.bin .sub (.t 103) (cI 1000)),oM 105 2,oT 106 (.buildSlice 1 [.t 101,.t 104,.t 105]),oN 16 99,oN 17 106],[],[(2,4),(2,7),(5,7)]⟩) (.seq (.seq (.region ⟨[oM 107 13,oM 108 14,oV 109 (.buildSlice 1 [.t 107,.t 108]),oV 110 (.len (.v 109)),oJ 111 0],[46,48],[]⟩) (.block 1 (.loop (.seq (.region ⟨[oV 112 (.bin .lss (.v 111) (.v 110))],[125,128],[]⟩) (.seq (.cond (.v 112) .skip (.exit 1)) (.seq (.block 2 (.seq (rg [oT 113 (.indexAddr 1 (.v 109) (.v 111)),oL 114 113,oN 19 114]) (.seq (.seq (.region ⟨[oK 115 2 12,oM 116 19,oC 117 11 [.t 115,.t 116],oK 118 2 12,oM 119 19,oC 120 12 [.t 118,.t 119],oT 121 (.eqB true (.t 117) (.t 120)),oP 122 121,oG 123 (.load (some 2) (.v 12)) 122 false,gM 124 19 122 false,oG 125 (.call 14 [.t 123,.t 124]) 122 false,oG 126 (.load (some 2) (.v 12)) 122 false,gM 127 19 122 false,oG 128 (.call 15 [.t 126,.t 127]) 122 false,oG 129 (.call 13 [.t 125,.t 128]) 122 false,oG 130 (.not (.t 129)) 122 false,oO 131 122 130,oP 132 131,oG 133 (.load (some 2) (.v 12)) 132 false,gM 134 19 132 false,gM 135 3 132 false,gM 136 4 132 false,oG 137 (.call 16 [.t 133,.t 134,.t 135,.t 136]) 132 false,oG 138 (.load (some 2) (.v 12)) 132 false,gM 139 19 132 false,gM 140 3 132 false,gM 141 4 132 false,oG 142 (.call 17 [.t 138,.t 139,.t 140,.t 141]) 132 false,oG 143 (.bin .neq (.t 137) (.t 142)) 132 false,oO 144 132 143,oP 145 144,oG 146 (.load (some 2) (.v 12)) 145 false,gM 147 19 145 false,oG 148 (.unlit (.v 16)) 145 false,gM 149 17 145 false,oG 150 (.call 16 [.t 146,.t 147,.t 148,.t 149]) 145 false,oG 151 (.load (some 2) (.v 12)) 145 false,gM 152 19 145 false,oG 153 (.unlit (.v 16)) 145 false,gM 154 17 145 false,oG 155 (.call 17 [.t 151,.t 152,.t 153,.t 154]) 145 false,oG 156 (.bin .neq (.t 150) (.t 155)) 145 false,oO 157 145 156,oP 158 157,oG 159 (.load (some 2) (.v 12)) 158 false,gM 160 19 158 false,oG 161 (.unlit (.v 16)) 158 false,oG 162 (.slice false 1 (some (cI 1)) none none (.t 161)) 158 false,gM 163 17 158 false,oG 164 (.call 16 [.t 159,.t 160,.t 162,.t 163]) 158 false,oG 165 (.bin .neq (.t 164) (cI 0)) 158 false,oV 166 (.pick (.t 158) cT (.t 165))],[],[(2,3),(10,11),(22,23),(35,36),(44,47)]⟩) (.cond (.v 166) (.seq (rg [oV 10 (.move cF)]) .ret) .skip)) (.seq (rg [oM 167 16,oM 168 1,oT 169 (.buildSlice 1 [.t 168]),oV 170 (.appendLit 1 8 (.t 167) (.t 169)),oV 171 (.len (.v 170)),oJ 172 0]) (.block 3 (.loop (.seq (rg [oV 173 (.bin .lss (.v 172) (.v 171))]) (.seq (.cond (.v 173) .skip (.exit 3)) (.seq (.block 4 (.seq (rg [oT 174 (.indexAddr 1 (.v 170) (.v 172)),oL 175 174,oN 21 175]) (.seq (rg [oK 177 2 12,oM 178 19,oM 179 21,oC 180 18 [.t 177,.t 178,.t 179],oP 176 180,oE 181 176 0,oE 182 176 1,oN 22 181,oN 23 182]) (.seq (rg [oK 184 2 12,oM 185 19,oM 186 21,oC 187 19 [.t 184,.t 185,.t 186],oP 183 187,oE 188 183 0,oE 189 183 1,oN 24 188,oN 25 189]) (.seq (.region ⟨[oM 190 22,oM 191 24,oT 192 (.bin .neq (.t 190) (.t 191)),oP 193 192,gM 194 23 193 false,gM 195 25 193 false,oG 196 (.bin .neq (.t 194) (.t 195)) 193 false,oO 197 193 196,oP 198 197,oG 199 (.load (some 2) (.v 12)) 198 false,gM 200 19 198 false,gM 201 21 198 false,gM 202 2 198 false,oG 203 (.call 20 [.t 199,.t 200,.t 201,.t 202]) 198 false,oG 204 (.load (some 2) (.v 12)) 198 false,gM 205 19 198 false,gM 206 21 198 false,gM 207 2 198 false,oG 208 (.call 21 [.t 204,.t 205,.t 206,.t 207]) 198 false,oG 209 (.bin .neq (.t 203) (.t 208)) 198 false,oO 210 198 209,oP 211 210,oG 212 (.load (some 2) (.v 12)) 211 false,gM 213 19 211 false,gM 214 21 211 false,gM 215 17 211 false,oG 216 (.indexAddr 1 (.t 215) (cI 0)) 211 false,gL 217 216 211 false,oG 218 (.call 20 [.t 212,.t 213,.t 214,.t 217]) 211 false,oG 219 (.load (some 2) (.v 12)) 211 false,gM 220 19 211 false,gM 221 21 211 false,gM 222 17 211 false,oG 223 (.indexAddr 1 (.t 222) (cI 0)) 211 false,gL 224 223 211 false,oG 225 (.call 21 [.t 219,.t 220,.t 221,.t 224]) 211 false,oG 226 (.bin .neq (.t 218) (.t 225)) 211 false,oV 227 (.pick (.t 211) cT (.t 226))],[],[(13,14),(28,29),(28,33),(28,34)]⟩) (.cond (.v 227) (.seq (rg [oV 10 (.move cF)]) .ret) .skip)))))) (rg [oT 228 (.bin .add (.v 172) (cI 1)),oN 172 228])))))))))) (rg [oT 229 (.bin .add (.v 111) (cI 1)),oN 111 229]))))))) (.seq (rg [oC 230 5 [],oN 10 230]) .ret))))))))))
def vf3 : VFunc:={ vs:=[0,1,2,3,4,10,11,12,13,14,15,16,17,19,21,22,23,24,25,38,56,57,66,76,86,109,110,111,112,166,170,171,172,173,227],nparams:=5,rets:=[.tmp (.v 10)],body:=vb3 }
def vb4 : VCode:=.seq (rg [oV 2 (.move cF)]) (.seq (rg [oM 3 0,oY 4 3,oT 5 (.bin .leq (.t 4) (cI 600)),oN 2 5]) .ret)
def vf4 : VFunc:={ vs:=[0,2],nparams:=1,rets:=[.tmp (.v 2)],body:=vb4 }
def vb5 : VCode:=.seq (rg [oV 0 (.move cF)]) (.seq (rg [oC 9 23 [],oT 10 (.call 22 [.t 9,.c (.int .i64 1),.c (.str ⟨#[97]⟩)]),oP 8 10,oE 11 8 0,oE 12 8 1,oE 13 8 2,oV 1 (.alloc [.nil 6,.c (.int .i64 0)]),oS 2 1 11,oN 2 12,oP 3 13]) (.seq (rg [oK 15 2 1,oM 16 2,oT 17 (.call 22 [.t 15,.t 16,.c (.str ⟨#[98]⟩)]),oP 14 17,oE 18 14 0,oE 19 14 1,oE 20 14 2,oS 2 1 18,oN 4 19,oP 5 20]) (.seq (rg [oK 22 2 1,oT 23 (.build [.a (cI 1) 0 1,.z (.c (.int .i64 0)),.a (cI 10000) 0 1]),oM 24 2,oT 25 (.build [.a (.t 24) 0 1,.z (.c (.int .i64 0)),.a (cI 5000) 0 1]),oM 26 4,oT 27 (.build [.a (.t 26) 0 1,.a (cI 8000) 0 1,.a (cI 10000) 0 1]),oT 28 (.buildFz 3 [.t 23,.t 25,.t 27]),oM 29 4,oC 30 18 [.t 22,.t 28,.t 29],oP 21 30,oE 31 21 0,oE 32 21 1,oN 6 31,oN 7 32]) (.seq (rg [oM 33 6,oT 34 (.bin .eql (.t 33) (cI 5000)),oP 35 34,gM 36 7 35 true,oG 37 (.bin .eql (.t 36) (cI 5000)) 35 true,oB 38 35 37,oN 0 38]) .ret))))
def vf5 : VFunc:={ vs:=[0,1,2,4,6,7],nparams:=0,rets:=[.tmp (.v 0)],body:=vb5 }
def vb6 : VCode:=.seq (rg [oV 2 (.move (.c (.nilp)))]) (.seq (rg [oM 3 0,oT 4 (.build [.a (.t 3) 0 1,.z (.c (.int .i64 0))]),oT 5 (.box 2 (.t 4)),oN 2 5]) .ret)
def vf6 : VFunc:={ vs:=[0,2],nparams:=1,rets:=[.tmp (.v 2)],body:=vb6 }
def vb7 : VCode:=.seq (rg [oV 4 (.alloc [.nil 6,.c (.int .i64 0)])]) (.seq (rg [oC 13 23 [],oV 5 (.alloc [.nil 6,.c (.int .i64 0)]),oS 2 5 13]) (.seq (.seq (rg [oM 14 0,oM 15 1,oI 16 15,oC 17 9 [.t 14,.t 16],oN 6 17]) (.block 0 (.loop (.seq (.seq (.region ⟨[oM 18 6,oV 19 (.bin .gtr (.t 18) (cI 0))],[8,11,13,37,58],[]⟩) (.cond (.v 19) .skip (.exit 0))) (.seq (.block 1 (.seq (.region ⟨[oF 22 0 5,oL 23 22,oM 24 0,oF 25 0 5,oL 26 25,oY 27 26,oC 28 9 [.t 24,.t 27],oA 29 6 23 28,oQ 30 0 29,oL 31 30,oN 7 31],[],[(1,6)]⟩) (.seq (.seq (.region ⟨[oK 33 2 5,oM 34 7,oM 35 0,oC 36 24 [.t 35],oC 37 22 [.t 33,.t 34,.t 36],oP 32 37,oE 38 32 0,oE 39 32 1,oE 40 32 2,oV 8 (.alloc [.nil 6,.c (.int .i64 0)]),oS 2 8 38,oP 9 39,oN 10 40],[],[(0,3),(0,9),(3,9),(4,9)]⟩) (.seq (rg [oM 41 10,oV 42 (.bin .eql (.t 41) (cI 0))]) (.cond (.v 42) (rg [oK 43 2 8,oS 2 5 43]) .skip))) (.seq (rg [oM 44 0,oV 45 (.call 25 [.t 44,.c (.int .i64 6)])]) (.cond (.v 45) (.seq (.region ⟨[oK 47 2 5,oF 48 0 5,oL 49 48,oM 50 0,oF 51 0 5,oL 52 51,oY 53 52,oC 54 9 [.t 50,.t 53],oA 55 6 49 54,oQ 56 0 55,oL 57 56,oC 58 26 [.t 47,.t 57],oP 46 58,oE 59 46 0,oE 60 46 1,oV 11 (.alloc [.nil 6,.c (.int .i64 0)]),oS 2 11 59,oN 12 60],[],[(0,7),(2,7),(0,15),(2,15),(5,15),(7,15),(8,15),(10,15),(11,15)]⟩) (.seq (rg [oM 61 12,oV 62 (.bin .eql (.t 61) (cI 0))]) (.cond (.v 62) (rg [oK 63 2 11,oS 2 5 63]) .skip))) .skip))))) (rg [oM 20 6,oT 21 (.bin .sub (.t 20) (cI 1)),oN 6 21])))))) (.seq (rg [oK 64 2 5,oS 2 4 64]) .ret)))
def vf7 : VFunc:={ vs:=[0,1,4,5,6,7,8,10,11,12,19,42,45,62],nparams:=2,rets:=[.cell (.v 4) (some 2)],body:=vb7 }
def vb8 : VCode:=.seq (rg [oX 3 2 1,oV 4 (.newArr 3)]) (.seq (rg [oV 5 (.newArr 3)]) (.seq (.seq (rg [oJ 6 0]) (.block 0 (.loop (.seq (.seq (rg [oM 7 6,oF 8 0 3,oL 9 8,oY 10 9,oU 11 7 10]) (.cond (.v 11) .skip (.exit 0))) (.seq (.block 1 (.region ⟨[oM 14 5,oF 15 0 3,oL 16 15,oM 17 6,oA 18 6 16 17,oQ 19 0 18,oL 20 19,oM 21 0,oC 22 9 [.t 21,.c (.int .i64 10001)],oM 23 0,oC 24 9 [.t 23,.c (.int .i64 10001)],oT 25 (.build [.a (.t 20) 0 1,.a (.t 22) 0 1,.a (.t 24) 0 1]),oT 26 (.buildSlice 3 [.t 25]),oT 27 (.append 3 24 (.t 14) (.t 26)),oN 5 27],[],[(2,8),(4,8),(6,8),(2,10),(4,10),(6,10)]⟩)) (rg [oM 12 6,oI 13 12,oN 6 13])))))) (.seq (rg [oM 28 5,oN 4 28]) .ret)))
def vf8 : VFunc:={ vs:=[0,1,3,4,5,6,11],nparams:=2,rets:=[.tmp (.v 4)],body:=vb8 }
def vb9 : VCode:=.seq (rg [oJ 4 0]) (.seq (.seq (rg [oM 6 0,oT 7 (.nilCheck (.t 6)),oQ 8 1 7,oL 9 8,oM 10 0,oT 11 (.nilCheck (.t 10)),oQ 12 0 11,oL 13 12,oY 14 13,oT 15 (.bin .geq (.t 9) (.t 14)),oP 16 15,gM 17 1 16 false,oG 18 (.bin .lss (.t 17) (cI 1)) 16 false,oV 19 (.pick (.t 16) cT (.t 18))]) (.cond (.v 19) (.seq (rg [oJ 4 0]) .ret) .skip)) (.seq (rg [oM 20 0,oT 21 (.nilCheck (.t 20)),oQ 22 1 21,oL 23 22,oI 24 23,oT 25 (.nilCheck (.t 20)),oQ 26 1 25,oZ (.store 1 (.t 26) (.t 24))]) (.seq (rg [oM 27 0,oT 28 (.nilCheck (.t 27)),oQ 29 0 28,oL 30 29,oM 31 0,oT 32 (.nilCheck (.t 31)),oQ 33 1 32,oL 34 33,oT 35 (.bin .sub (.t 34) (cI 1)),oA 36 1 30 35,oL 37 36,oM 38 1,oT 39 (.bin .rem (.t 37) (.t 38)),oN 5 39]) (.seq (.seq (rg [oM 40 5,oV 41 (.bin .lss (.t 40) (cI 0))]) (.cond (.v 41) (rg [oM 42 5,oM 43 1,oT 44 (.bin .add (.t 42) (.t 43)),oN 5 44]) .skip)) (.seq (rg [oM 45 5,oN 4 45]) .ret)))))
def vf9 : VFunc:={ vs:=[0,1,4,5,19,41],nparams:=2,rets:=[.tmp (.v 4)],body:=vb9 }
def vb10 : VCode:=.seq (rg [oX 3 2 1,oJ 4 0]) (.seq (.seq (rg [oM 5 0,oC 6 25 [.t 5,.c (.int .i64 15)],oP 7 6,gF 8 0 3 7 false,gL 9 8 7 false,oG 10 (.len (.t 9)) 7 false,oG 11 (.bin .eql (.t 10) (cI 0)) 7 false,oV 12 (.pick (.t 7) cT (.t 11))]) (.cond (.v 12) (.seq (rg [oM 13 0,oC 14 9 [.t 13,.c (.int .i64 9)],oT 15 (.bin .sub (.t 14) (cI 1)),oN 4 15]) .ret) .skip)) (.seq (.region ⟨[oF 16 0 3,oL 17 16,oM 18 0,oF 19 0 3,oL 20 19,oY 21 20,oC 22 9 [.t 18,.t 21],oA 23 6 17 22,oQ 24 0 23,oL 25 24,oN 4 25],[],[(1,6)]⟩) .ret))
def vf10 : VFunc:={ vs:=[0,1,3,4,12],nparams:=2,rets:=[.tmp (.v 4)],body:=vb10 }
def vb11 : VCode:=.seq (rg [oX 2 2 0,oV 4 (.move cF)]) (.seq (.seq (rg [oK 7 2 2,oC 8 27 [.t 7],oT 9 (.not (.t 8)),oP 10 9,gM 11 1 10 false,oG 12 (.len (.t 11)) 10 false,gF 13 0 2 10 false,gL 14 13 10 false,oG 15 (.len (.t 14)) 10 false,oG 16 (.bin .neq (.t 12) (.t 15)) 10 false,oV 17 (.pick (.t 10) cT (.t 16))]) (.cond (.v 17) (.seq (rg [oV 4 (.move cF)]) .ret) .skip)) (.seq (.seq (rg [oF 18 0 2,oV 19 (.load none (.t 18)),oV 20 (.len (.v 19)),oJ 21 0]) (.block 0 (.loop (.seq (rg [oV 22 (.bin .lss (.v 21) (.v 20))]) (.seq (.cond (.v 22) .skip (.exit 0)) (.seq (.block 1 (.seq (rg [oM 23 21,oT 24 (.indexAddr 6 (.v 19) (.v 21)),oR 25 6 24,oV 6 (.alloc [.c (.int .i64 0),.c (.int .i64 0),.c (.str ⟨#[]⟩),.c (.int .i64 0),.c (.int .i64 0),.c (.int .i64 0)]),oN 5 23,oS 6 6 25]) (.seq (rg [oM 26 1,oM 27 5,oA 28 3 26 27,oQ 29 0 28,oL 30 29,oF 31 0 6,oL 32 31,oT 33 (.bin .neq (.t 30) (.t 32)),oP 34 33,gM 35 1 34 false,gM 36 5 34 false,oG 37 (.indexAddr 3 (.t 35) (.t 36)) 34 false,oG 38 (.fieldAddr 1 (.t 37)) 34 false,gL 39 38 34 false,gM 40 1 34 false,gM 41 5 34 false,oG 42 (.indexAddr 3 (.t 40) (.t 41)) 34 false,oG 43 (.fieldAddr 2 (.t 42)) 34 false,gL 44 43 34 false,oG 45 (.minmax false [.t 39,.t 44]) 34 false,oG 46 (.bin .lss (.t 45) (cI 0)) 34 false,oO 47 34 46,oP 48 47,gM 49 1 48 false,gM 50 5 48 false,oG 51 (.indexAddr 3 (.t 49) (.t 50)) 48 false,oG 52 (.fieldAddr 1 (.t 51)) 48 false,gL 53 52 48 false,gM 54 1 48 false,gM 55 5 48 false,oG 56 (.indexAddr 3 (.t 54) (.t 55)) 48 false,oG 57 (.fieldAddr 2 (.t 56)) 48 false,gL 58 57 48 false,oG 59 (.minmax true [.t 53,.t 58]) 48 false,oG 60 (.bin .gtr (.t 59) (cI 10000)) 48 false,oV 61 (.pick (.t 48) cT (.t 60))]) (.cond (.v 61) (.seq (rg [oV 4 (.move cF)]) .ret) .skip)))) (rg [oT 62 (.bin .add (.v 21) (cI 1)),oN 21 62]))))))) (.seq (rg [oV 4 (.move cT)]) .ret)))
def vf11 : VFunc:={ vs:=[0,1,2,4,5,6,17,19,20,21,22,61],nparams:=2,rets:=[.tmp (.v 4)],body:=vb11 }
def vb12 : VCode:=.seq (rg [oX 2 2 0,oV 4 (.move cF)]) (.seq (.seq (rg [oK 7 2 2,oC 8 28 [.t 7],oT 9 (.not (.t 8)),oP 10 9,gM 11 1 10 false,oG 12 (.len (.t 11)) 10 false,gF 13 0 2 10 false,gL 14 13 10 false,oG 15 (.len (.t 14)) 10 false,oG 16 (.bin .neq (.t 12) (.t 15)) 10 false,oV 17 (.pick (.t 10) cT (.t 16))]) (.cond (.v 17) (.seq (rg [oV 4 (.move cF)]) .ret) .skip)) (.seq (.seq (rg [oJ 5 0]) (.block 0 (.loop (.seq (.seq (rg [oM 18 5,oM 19 1,oY 20 19,oU 21 18 20]) (.cond (.v 21) .skip (.exit 0))) (.seq (.block 1 (.seq (rg [oM 24 1,oM 25 5,oA 26 3 24 25,oR 27 3 26,oV 6 (.alloc [.c (.int .i64 0),.c (.int .i64 0),.c (.int .i64 0)]),oS 3 6 27]) (.seq (rg [oF 28 0 6,oL 29 28,oF 30 0 2,oL 31 30,oM 32 5,oA 33 6 31 32,oQ 34 0 33,oL 35 34,oT 36 (.bin .neq (.t 29) (.t 35)),oP 37 36,gF 38 1 6 37 false,gL 39 38 37 false,oG 40 (.bin .lss (.t 39) (cI 0)) 37 false,oO 41 37 40,oP 42 41,gF 43 1 6 42 false,gL 44 43 42 false,oG 45 (.bin .gtr (.t 44) (cI 10000)) 42 false,oO 46 42 45,oP 47 46,gF 48 2 6 47 false,gL 49 48 47 false,oG 50 (.bin .lss (.t 49) (cI 0)) 47 false,oO 51 47 50,oP 52 51,gF 53 2 6 52 false,gL 54 53 52 false,oG 55 (.bin .gtr (.t 54) (cI 10000)) 52 false,oV 56 (.pick (.t 52) cT (.t 55))]) (.cond (.v 56) (.seq (rg [oV 4 (.move cF)]) .ret) .skip)))) (rg [oM 22 5,oI 23 22,oN 5 23])))))) (.seq (rg [oV 4 (.move cT)]) .ret)))
def vf12 : VFunc:={ vs:=[0,1,2,4,5,6,17,21,56],nparams:=2,rets:=[.tmp (.v 4)],body:=vb12 }
def vb13 : VCode:=.seq (rg [oV 4 (.move cF)]) (.seq (.seq (rg [oM 6 0,oY 7 6,oM 8 1,oY 9 8,oV 10 (.bin .neq (.t 7) (.t 9))]) (.cond (.v 10) (.seq (rg [oV 4 (.move cF)]) .ret) .skip)) (.seq (.seq (rg [oJ 5 0]) (.block 0 (.loop (.seq (.seq (rg [oM 11 5,oM 12 0,oY 13 12,oU 14 11 13]) (.cond (.v 14) .skip (.exit 0))) (.seq (.block 1 (.seq (rg [oM 17 0,oM 18 5,oA 19 1 17 18,oL 20 19,oM 21 1,oM 22 5,oA 23 1 21 22,oL 24 23,oV 25 (.bin .neq (.t 20) (.t 24))]) (.cond (.v 25) (.seq (rg [oV 4 (.move cF)]) .ret) .skip))) (rg [oM 15 5,oI 16 15,oN 5 16])))))) (.seq (rg [oV 4 (.move cT)]) .ret)))
def vf13 : VFunc:={ vs:=[0,1,4,5,10,14,25],nparams:=2,rets:=[.tmp (.v 4)],body:=vb13 }
def vb14 : VCode:=.seq (rg [oX 2 2 0,oV 4 (.newArr 1)]) (.seq (.seq (rg [oK 9 2 2,oM 10 1,oC 11 11 [.t 9,.t 10],oV 12 (.not (.t 11))]) (.cond (.v 12) (.seq (rg [oV 4 (.newArr 1)]) .ret) .skip)) (.seq (rg [oV 5 (.newArr 1)]) (.seq (.seq (rg [oM 13 1,oV 14 (.len (.t 13)),oJ 15 0]) (.block 0 (.loop (.seq (rg [oV 16 (.bin .lss (.v 15) (.v 14))]) (.seq (.cond (.v 16) .skip (.exit 0)) (.seq (.block 1 (.seq (rg [oM 17 15,oN 6 17]) (.seq (rg [oK 19 2 2,oM 20 1,oM 21 1,oM 22 6,oA 23 3 21 22,oQ 24 0 23,oL 25 24,oC 26 29 [.t 19,.t 20,.t 25],oP 18 26,oE 27 18 0,oE 28 18 1,oN 7 27,oP 8 28]) (.seq (rg [oM 29 1,oM 30 6,oA 31 3 29 30,oQ 32 1 31,oL 33 32,oM 34 7,oV 35 (.bin .gtr (.t 33) (.t 34))]) (.cond (.v 35) (rg [oM 36 5,oM 37 1,oM 38 6,oA 39 3 37 38,oQ 40 0 39,oL 41 40,oT 42 (.buildSlice 1 [.t 41]),oT 43 (.append 1 8 (.t 36) (.t 42)),oN 5 43]) .skip))))) (rg [oT 44 (.bin .add (.v 15) (cI 1)),oN 15 44]))))))) (.seq (rg [oM 45 5,oN 4 45]) .ret))))
def vf14 : VFunc:={ vs:=[0,1,2,4,5,6,7,12,14,15,16,35],nparams:=2,rets:=[.tmp (.v 4)],body:=vb14 }
def vb15 : VCode:=.seq (rg [oX 2 2 0,oV 4 (.newArr 1)]) (.seq (rg [oV 5 (.newArr 1)]) (.seq (.seq (rg [oJ 6 0]) (.block 0 (.loop (.seq (.seq (rg [oM 9 6,oM 10 1,oY 11 10,oT 12 (.bin .lss (.t 9) (.t 11)),oP 13 12,oG 14 (.load (some 2) (.v 2)) 13 true,gM 15 1 13 true,oG 16 (.call 12 [.t 14,.t 15]) 13 true,oV 17 (.pick (.t 13) (.t 16) cF)]) (.cond (.v 17) .skip (.exit 0))) (.seq (.block 1 (.seq (rg [oK 21 2 2,oM 22 1,oM 23 1,oM 24 6,oA 25 3 23 24,oQ 26 0 25,oL 27 26,oC 28 19 [.t 21,.t 22,.t 27],oP 20 28,oE 29 20 0,oE 30 20 1,oN 7 29,oP 8 30]) (.seq (rg [oM 31 1,oM 32 6,oA 33 3 31 32,oQ 34 1 33,oL 35 34,oM 36 7,oV 37 (.bin .gtr (.t 35) (.t 36))]) (.cond (.v 37) (rg [oM 38 5,oM 39 1,oM 40 6,oA 41 3 39 40,oQ 42 0 41,oL 43 42,oT 44 (.buildSlice 1 [.t 43]),oT 45 (.append 1 8 (.t 38) (.t 44)),oN 5 45]) .skip)))) (rg [oM 18 6,oI 19 18,oN 6 19])))))) (.seq (rg [oM 46 5,oN 4 46]) .ret)))
def vf15 : VFunc:={ vs:=[0,1,2,4,5,6,7,17,37],nparams:=2,rets:=[.tmp (.v 4)],body:=vb15 }
def vb16 : VCode:=.seq (rg [oX 4 2 0,oJ 8 0]) (.seq (.seq (rg [oK 12 2 4,oM 13 1,oC 14 11 [.t 12,.t 13],oT 15 (.not (.t 14)),oP 16 15,gM 17 2 16 false,oG 18 (.len (.t 17)) 16 false,gM 19 3 16 false,oG 20 (.len (.t 19)) 16 false,oG 21 (.bin .neq (.t 18) (.t 20)) 16 false,oV 22 (.pick (.t 16) cT (.t 21))]) (.cond (.v 22) (.seq (rg [oJ 8 0]) .ret) .skip)) (.seq (rg [oJ 9 0]) (.seq (.seq (rg [oV 23 (.move (.v 2)),oV 24 (.len (.v 23)),oJ 25 0]) (.block 0 (.loop (.seq (rg [oV 26 (.bin .lss (.v 25) (.v 24))]) (.seq (.cond (.v 26) .skip (.exit 0)) (.seq (.block 1 (.seq (rg [oM 27 25,oT 28 (.indexAddr 1 (.v 23) (.v 25)),oL 29 28,oN 10 27,oN 11 29]) (.seq (rg [oK 30 2 4,oM 31 11,oC 32 30 [.t 30,.t 31],oV 33 (.bin .geq (.t 32) (cI 0))]) (.cond (.v 33) (rg [oM 34 9,oK 35 2 4,oM 36 1,oM 37 11,oM 38 3,oM 39 10,oA 40 1 38 39,oL 41 40,oC 42 31 [.t 35,.t 36,.t 37,.t 41],oT 43 (.minmax true [.t 34,.t 42]),oN 9 43]) .skip)))) (rg [oT 44 (.bin .add (.v 25) (cI 1)),oN 25 44]))))))) (.seq (rg [oM 45 9,oN 8 45]) .ret))))
def vf16 : VFunc:={ vs:=[0,1,2,3,4,8,9,10,11,22,23,24,25,26,33],nparams:=4,rets:=[.tmp (.v 8)],body:=vb16 }
def vb17 : VCode:=.seq (rg [oX 4 2 0,oJ 8 0]) (.seq (rg [oJ 9 0]) (.seq (.seq (rg [oJ 10 0]) (.block 0 (.loop (.seq (.seq (rg [oM 11 10,oM 12 2,oY 13 12,oT 14 (.bin .lss (.t 11) (.t 13)),oP 15 14,gM 16 2 15 true,oG 17 (.len (.t 16)) 15 true,gM 18 3 15 true,oG 19 (.len (.t 18)) 15 true,oG 20 (.bin .eql (.t 17) (.t 19)) 15 true,oV 21 (.pick (.t 15) (.t 20) cF)]) (.cond (.v 21) .skip (.exit 0))) (.seq (.block 1 (rg [oM 24 9,oK 25 2 4,oM 26 1,oM 27 2,oM 28 10,oA 29 1 27 28,oL 30 29,oM 31 3,oM 32 10,oA 33 1 31 32,oL 34 33,oC 35 21 [.t 25,.t 26,.t 30,.t 34],oT 36 (.minmax true [.t 24,.t 35]),oN 9 36])) (rg [oM 22 10,oI 23 22,oN 10 23])))))) (.seq (rg [oM 37 9,oN 8 37]) .ret)))
def vf17 : VFunc:={ vs:=[0,1,2,3,4,8,9,10,21],nparams:=4,rets:=[.tmp (.v 8)],body:=vb17 }
def vb18 : VCode:=.seq (rg [oX 3 2 0,oJ 6 0,oJ 7 0]) (.seq (.seq (rg [oK 8 2 3,oM 9 1,oC 10 11 [.t 8,.t 9],oT 11 (.not (.t 10)),oP 12 11,oG 13 (.load (some 2) (.v 3)) 12 false,gM 14 2 12 false,oG 15 (.call 30 [.t 13,.t 14]) 12 false,oG 16 (.bin .lss (.t 15) (cI 0)) 12 false,oV 17 (.pick (.t 12) cT (.t 16))]) (.cond (.v 17) (.seq (rg [oJ 6 0,oJ 7 0]) .ret) .skip)) (.seq (rg [oK 18 2 3,oM 19 1,oM 20 2,oC 21 29 [.t 18,.t 19,.t 20],oE 22 21 0,oE 23 21 1,oN 6 22,oN 7 23]) .ret))
def vf18 : VFunc:={ vs:=[0,1,2,3,6,7,17],nparams:=3,rets:=[.tmp (.v 6),.tmp (.v 7)],body:=vb18 }
def vb19 : VCode:=.seq (rg [oX 3 2 0,oJ 6 0,oJ 7 0]) (.seq (rg [oK 11 2 3,oM 12 2,oC 13 32 [.t 11,.t 12],oN 8 13]) (.seq (.seq (rg [oK 14 2 3,oM 15 1,oC 16 12 [.t 14,.t 15],oT 17 (.not (.t 16)),oP 18 17,gM 19 8 18 false,oG 20 (.len (.t 19)) 18 false,oG 21 (.bin .eql (.t 20) (cI 0)) 18 false,oV 22 (.pick (.t 18) cT (.t 21))]) (.cond (.v 22) (.seq (rg [oJ 6 0,oJ 7 0]) .ret) .skip)) (.seq (rg [oJ 9 10000]) (.seq (.seq (rg [oM 23 8,oY 24 23,oT 25 (.bin .sub (.t 24) (cI 1)),oN 10 25]) (.block 0 (.loop (.seq (.seq (rg [oM 26 10,oV 27 (.bin .geq (.t 26) (cI 0))]) (.cond (.v 27) .skip (.exit 0))) (.seq (.block 1 (rg [oM 30 9,oM 31 1,oM 32 8,oM 33 10,oA 34 1 32 33,oL 35 34,oC 36 33 [.t 31,.t 35],oT 37 (.field 2 none (.t 36)),oT 38 (.minmax false [.t 30,.t 37]),oN 9 38])) (rg [oM 28 10,oT 29 (.bin .sub (.t 28) (cI 1)),oN 10 29])))))) (.seq (rg [oM 39 1,oM 40 2,oC 41 33 [.t 39,.t 40],oT 42 (.field 1 none (.t 41)),oM 43 9,oT 44 (.minmax false [.t 42,.t 43]),oM 45 9,oN 6 44,oN 7 45]) .ret)))))
def vf19 : VFunc:={ vs:=[0,1,2,3,6,7,8,9,10,22,27],nparams:=3,rets:=[.tmp (.v 6),.tmp (.v 7)],body:=vb19 }
def vb20 : VCode:=.seq (rg [oX 4 2 0,oJ 8 0]) (.seq (.seq (rg [oK 9 2 4,oM 10 1,oC 11 11 [.t 9,.t 10],oT 12 (.not (.t 11)),oP 13 12,oG 14 (.load (some 2) (.v 4)) 13 false,gM 15 2 13 false,oG 16 (.call 30 [.t 14,.t 15]) 13 false,oG 17 (.bin .lss (.t 16) (cI 0)) 13 false,oV 18 (.pick (.t 13) cT (.t 17))]) (.cond (.v 18) (.seq (rg [oJ 8 0]) .ret) .skip)) (.seq (rg [oK 19 2 4,oM 20 1,oM 21 2,oM 22 3,oC 23 31 [.t 19,.t 20,.t 21,.t 22],oN 8 23]) .ret))
def vf20 : VFunc:={ vs:=[0,1,2,3,4,8,18],nparams:=4,rets:=[.tmp (.v 8)],body:=vb20 }
def vb21 : VCode:=.seq (rg [oX 4 2 0,oJ 8 0]) (.seq (.seq (rg [oK 11 2 4,oM 12 1,oC 13 12 [.t 11,.t 12],oT 14 (.not (.t 13)),oP 15 14,oG 16 (.load (some 2) (.v 4)) 15 false,gM 17 2 15 false,oG 18 (.call 34 [.t 16,.t 17]) 15 false,oG 19 (.not (.t 18)) 15 false,oV 20 (.pick (.t 15) cT (.t 19))]) (.cond (.v 20) (.seq (rg [oJ 8 0]) .ret) .skip)) (.seq (rg [oK 22 2 4,oM 23 1,oM 24 2,oC 25 19 [.t 22,.t 23,.t 24],oP 21 25,oE 26 21 0,oE 27 21 1,oN 9 26,oN 10 27]) (.seq (rg [oM 28 3,oT 29 (.minmax true [.t 28,.c (.int .i64 0)]),oT 30 (.minmax false [.t 29,.c (.int .i64 10000)]),oM 31 9,oT 32 (.minmax true [.t 30,.t 31]),oM 33 10,oT 34 (.minmax false [.t 32,.t 33]),oN 8 34]) .ret)))
def vf21 : VFunc:={ vs:=[0,1,2,3,4,8,9,10,20],nparams:=4,rets:=[.tmp (.v 8)],body:=vb21 }
def vb22 : VCode:=.seq (rg [oX 3 2 0,oV 6 (.alloc [.nil 6,.c (.int .i64 0)]),oJ 7 0,oJ 8 0]) (.seq (.seq (rg [oK 11 2 3,oC 12 28 [.t 11],oT 13 (.not (.t 12)),oP 14 13,gM 15 2 14 false,oG 16 (.call 35 [.t 15]) 14 false,oG 17 (.not (.t 16)) 14 false,oV 18 (.pick (.t 14) cT (.t 17))]) (.cond (.v 18) (.seq (rg [oT 19 (.build [.z (.nil 6),.z (.c (.int .i64 0))]),oS 2 6 19,oJ 7 0,oJ 8 1]) .ret) .skip)) (.seq (.seq (rg [oK 20 2 3,oM 21 1,oC 22 34 [.t 20,.t 21],oV 23 (.not (.t 22))]) (.cond (.v 23) (.seq (rg [oT 24 (.build [.z (.nil 6),.z (.c (.int .i64 0))]),oS 2 6 24,oJ 7 0,oJ 8 4]) .ret) .skip)) (.seq (.seq (rg [oJ 9 0]) (.block 0 (.loop (.seq (.seq (.region ⟨[oM 25 9,oF 26 0 3,oL 27 26,oY 28 27,oU 29 25 28],[50],[]⟩) (.cond (.v 29) .skip (.exit 0))) (.seq (.block 1 (.seq (rg [oF 32 0 3,oL 33 32,oM 34 9,oA 35 6 33 34,oQ 36 1 35,oL 37 36,oM 38 1,oT 39 (.bin .eql (.t 37) (.t 38)),oP 40 39,gF 41 0 3 40 true,gL 42 41 40 true,gM 43 9 40 true,oG 44 (.indexAddr 6 (.t 42) (.t 43)) 40 true,oG 45 (.fieldAddr 2 (.t 44)) 40 true,gL 46 45 40 true,gM 47 2 40 true,oG 48 (.bin .eql (.t 46) (.t 47)) 40 true,oV 49 (.pick (.t 40) (.t 48) cF)]) (.cond (.v 49) (.seq (rg [oT 50 (.build [.z (.nil 6),.z (.c (.int .i64 0))]),oS 2 6 50,oJ 7 0,oJ 8 5]) .ret) .skip))) (rg [oM 30 9,oI 31 30,oN 9 31])))))) (.seq (.seq (rg [oK 51 2 3,oM 52 1,oC 53 36 [.t 51,.t 52],oT 54 (.bin .geq (.t 53) (cI 8)),oP 55 54,gF 56 0 3 55 false,gL 57 56 55 false,oG 58 (.len (.t 57)) 55 false,oG 59 (.bin .geq (.t 58) (cI 64)) 55 false,oO 60 55 59,oP 61 60,gF 62 1 3 61 false,gL 63 62 61 false,oG 64 (.bin .gtr (.t 63) (cI 2147483647)) 61 false,oV 65 (.pick (.t 61) cT (.t 64))]) (.cond (.v 65) (.seq (rg [oT 66 (.build [.z (.nil 6),.z (.c (.int .i64 0))]),oS 2 6 66,oJ 7 0,oJ 8 7]) .ret) .skip)) (.seq (rg [oK 67 2 3,oC 68 37 [.t 67],oV 10 (.alloc [.nil 6,.c (.int .i64 0)]),oS 2 10 68]) (.seq (rg [oF 69 0 10,oL 70 69,oF 71 1 3,oL 72 71,oM 73 1,oM 74 2,oT 75 (.build [.a (.t 72) 0 1,.a (.t 73) 0 1,.a (.t 74) 0 1,.z (.c (.int .i64 0)),.z (.c (.int .i64 0)),.z (.c (.int .i64 0))]),oT 76 (.buildSlice 6 [.t 75]),oT 77 (.append 6 56 (.t 70) (.t 76)),oF 78 0 10,oZ (.store 1 (.t 78) (.t 77))]) (.seq (rg [oF 79 1 10,oL 80 79,oI 81 80,oF 82 1 10,oZ (.store 1 (.t 82) (.t 81))]) (.seq (.region ⟨[oK 83 2 10,oF 84 1 3,oL 85 84,oS 2 6 83,oN 7 85,oJ 8 0],[],[(2,3)]⟩) .ret))))))))
def vf22 : VFunc:={ vs:=[0,1,2,3,6,7,8,9,10,18,23,29,49,65],nparams:=3,rets:=[.cell (.v 6) (some 2),.tmp (.v 7),.tmp (.v 8)],body:=vb22 }
end Go.V
namespace Go.V
def vb23 : VCode:=.seq (rg [oV 0 (.alloc [.nil 6,.c (.int .i64 0)])]) (.seq (rg [oT 1 (.build [.a (cI 1) 0 1,.z (.c (.int .i64 0)),.z (.c (.str ⟨#[]⟩)),.z (.c (.int .i64 0)),.z (.c (.int .i64 0)),.z (.c (.int .i64 0))]),oT 2 (.buildSlice 6 [.t 1]),oT 3 (.build [.a (.t 2) 0 1,.a (cI 2) 0 1]),oS 2 0 3]) .ret)
def vf23 : VFunc:={ vs:=[0],nparams:=0,rets:=[.cell (.v 0) (some 2)],body:=vb23 }
def vb24 : VCode:=.seq (rg [oV 2 (.move (.c (.str ⟨#[]⟩)))]) (.seq (rg [oT 3 (.buildSlice 1 [.c (.str ⟨#[97]⟩),.c (.str ⟨#[98]⟩),.c (.str ⟨#[99]⟩),.c (.str ⟨#[119,101,98]⟩),.c (.str ⟨#[100,98,45,49]⟩),.c (.str ⟨#[88,95,57]⟩)]),oM 4 0,oC 5 9 [.t 4,.c (.int .i64 6)],oA 6 1 3 5,oL 7 6,oN 2 7]) .ret)
def vf24 : VFunc:={ vs:=[0,2],nparams:=1,rets:=[.tmp (.v 2)],body:=vb24 }
def vb25 : VCode:=.seq (rg [oV 4 (.move cF)]) (.seq (rg [oM 5 0,oM 6 1,oC 7 9 [.t 5,.t 6],oM 8 1,oT 9 (.bin .sub (.t 8) (cI 1)),oT 10 (.bin .eql (.t 7) (.t 9)),oN 4 10]) .ret)
def vf25 : VFunc:={ vs:=[0,1,4],nparams:=2,rets:=[.tmp (.v 4)],body:=vb25 }
def vb26 : VCode:=.seq (rg [oX 2 2 0,oV 4 (.alloc [.nil 6,.c (.int .i64 0)]),oJ 5 0]) (.seq (.block 0 (.seq (rg [oK 9 2 2,oC 10 28 [.t 9],oT 11 (.not (.t 10)),oN 8 11]) (.cond (.v 8) (.seq (rg [oT 12 (.build [.z (.nil 6),.z (.c (.int .i64 0))]),oS 2 4 12,oJ 5 1]) .ret) (.seq (rg [oK 14 2 2,oM 15 1,oC 16 34 [.t 14,.t 15],oT 17 (.not (.t 16)),oN 13 17]) (.cond (.v 13) (.seq (rg [oT 18 (.build [.z (.nil 6),.z (.c (.int .i64 0))]),oS 2 4 18,oJ 5 4]) .ret) (.seq (rg [oM 20 1,oT 21 (.bin .eql (.t 20) (cI 1)),oN 19 21]) (.cond (.v 19) (.seq (rg [oT 22 (.build [.z (.nil 6),.z (.c (.int .i64 0))]),oS 2 4 22,oJ 5 9]) .ret) (.seq (rg [oK 24 2 2,oM 25 1,oC 26 38 [.t 24,.t 25],oY 27 26,oT 28 (.bin .gtr (.t 27) (cI 0)),oN 23 28]) (.cond (.v 23) (.seq (rg [oT 29 (.build [.z (.nil 6),.z (.c (.int .i64 0))]),oS 2 4 29,oJ 5 6]) .ret) .skip))))))))) (.seq (rg [oF 30 1 2,oL 31 30,oT 32 (.build [.z (.nil 6),.a (.t 31) 0 1]),oV 6 (.alloc [.nil 6,.c (.int .i64 0)]),oS 2 6 32]) (.seq (.seq (rg [oJ 7 0]) (.block 1 (.loop (.seq (.seq (rg [oM 33 7,oF 34 0 2,oL 35 34,oY 36 35,oU 37 33 36]) (.cond (.v 37) .skip (.exit 1))) (.seq (.block 2 (.seq (rg [oF 40 0 2,oL 41 40,oM 42 7,oA 43 6 41 42,oQ 44 0 43,oL 45 44,oM 46 1,oV 47 (.bin .neq (.t 45) (.t 46))]) (.cond (.v 47) (.region ⟨[oF 48 0 6,oL 49 48,oF 50 0 2,oL 51 50,oM 52 7,oA 53 6 51 52,oR 54 6 53,oT 55 (.buildSlice 6 [.t 54]),oT 56 (.append 6 56 (.t 49) (.t 55)),oF 57 0 6,oZ (.store 1 (.t 57) (.t 56))],[],[(1,7)]⟩) .skip))) (rg [oM 38 7,oI 39 38,oN 7 39])))))) (.seq (rg [oK 58 2 6,oS 2 4 58,oJ 5 0]) .ret))))
def vf26 : VFunc:={ vs:=[0,1,2,4,5,6,7,8,13,19,23,37,47],nparams:=2,rets:=[.cell (.v 4) (some 2),.tmp (.v 5)],body:=vb26 }
def vb27 : VCode:=.seq (rg [oX 1 2 0,oV 2 (.move cF)]) (.seq (.seq (rg [oF 6 0 1,oL 7 6,oY 8 7,oT 9 (.bin .lss (.t 8) (cI 1)),oP 10 9,gF 11 0 1 10 false,gL 12 11 10 false,oG 13 (.len (.t 12)) 10 false,oG 14 (.bin .gtr (.t 13) (cI 64)) 10 false,oO 15 10 14,oP 16 15,gF 17 0 1 16 false,gL 18 17 16 false,oG 19 (.indexAddr 6 (.t 18) (cI 0)) 16 false,oG 20 (.load (some 6) (.t 19)) 16 false,oG 21 (.call 39 [.t 20]) 16 false,oG 22 (.not (.t 21)) 16 false,oV 23 (.pick (.t 16) cT (.t 22))]) (.cond (.v 23) (.seq (rg [oV 2 (.move cF)]) .ret) .skip)) (.seq (rg [oT 24 (.makeMap (.int .i64)),oN 3 24]) (.seq (.seq (rg [oF 25 0 1,oV 26 (.load none (.t 25)),oV 27 (.len (.v 26)),oJ 28 0]) (.block 0 (.loop (.seq (rg [oV 29 (.bin .lss (.v 28) (.v 27))]) (.seq (.cond (.v 29) .skip (.exit 0)) (.seq (.block 1 (.seq (rg [oM 30 28,oT 31 (.indexAddr 6 (.v 26) (.v 28)),oR 32 6 31,oV 5 (.alloc [.c (.int .i64 0),.c (.int .i64 0),.c (.str ⟨#[]⟩),.c (.int .i64 0),.c (.int .i64 0),.c (.int .i64 0)]),oN 4 30,oS 6 5 32]) (.seq (.seq (.region ⟨[oF 33 3 5,oL 34 33,oT 35 (.bin .lss (.t 34) (cI 0)),oP 36 35,gF 37 3 5 36 false,gL 38 37 36 false,oG 39 (.bin .andNot (.t 38) (cI 31)) 36 false,oG 40 (.bin .neq (.t 39) (cI 0)) 36 false,oO 41 36 40,oP 42 41,gF 43 5 5 42 false,gL 44 43 42 false,oG 45 (.bin .lss (.t 44) (cI 0)) 42 false,oO 46 42 45,oP 47 46,gF 48 5 5 47 false,gL 49 48 47 false,oG 50 (.bin .gtr (.t 49) (cI 1048576)) 47 false,oO 51 47 50,oP 52 51,gM 53 4 52 false,oG 54 (.bin .gtr (.t 53) (cI 0)) 52 false,oG 55 (.move (.t 54)) 52 false,gF 56 0 1 55 true,gL 57 56 55 true,gM 58 4 55 true,oG 59 (.slice false 6 none (some (.t 58)) none (.t 57)) 55 true,oG 60 (.load (some 6) (.v 5)) 55 true,oG 61 (.call 40 [.t 59,.t 60]) 55 true,oG 62 (.not (.t 61)) 55 true,oG 63 (.pick (.t 55) (.t 62) cF) 52 false,oV 64 (.pick (.t 52) cT (.t 63))],[],[(26,27)]⟩) (.cond (.v 64) (.seq (rg [oV 2 (.move cF)]) .ret) .skip)) (.seq (.seq (rg [oM 65 4,oV 66 (.bin .gtr (.t 65) (cI 0))]) (.cond (.v 66) (rg [oM 67 3,oF 68 0 5,oL 69 68,oM 70 3,oF 71 1 5,oL 72 71,oT 73 (.lookup false (.int .i64) (.int .i64 0) (.t 70) (.t 72)),oI 74 73,oZ (.mapUpdate (.int .i64) (.t 67) (.t 69) (.t 74))]) .skip)) (.seq (rg [oM 75 3,oF 76 0 5,oL 77 76,oT 78 (.lookup false (.int .i64) (.int .i64 0) (.t 75) (.t 77)),oV 79 (.bin .gtr (.t 78) (cI 8))]) (.cond (.v 79) (.seq (rg [oV 2 (.move cF)]) .ret) .skip)))))) (rg [oT 80 (.bin .add (.v 28) (cI 1)),oN 28 80]))))))) (.seq (rg [oF 81 1 1,oL 82 81,oF 83 0 1,oL 84 83,oF 85 0 1,oL 86 85,oY 87 86,oT 88 (.bin .sub (.t 87) (cI 1)),oA 89 6 84 88,oQ 90 0 89,oL 91 90,oT 92 (.bin .gtr (.t 82) (.t 91)),oP 93 92,gF 94 1 1 93 true,gL 95 94 93 true,oG 96 (.bin .leq (.t 95) (cI 2147483648)) 93 true,oB 97 93 96,oN 2 97]) .ret))))
def vf27 : VFunc:={ vs:=[0,1,2,3,4,5,23,26,27,28,29,64,66,79],nparams:=1,rets:=[.tmp (.v 2)],body:=vb27 }
def vb28 : VCode:=.seq (rg [oX 1 2 0,oV 2 (.move cF)]) (.seq (rg [oF 6 0 1,oL 7 6,oY 8 7,oN 3 8]) (.seq (.seq (rg [oM 9 3,oT 10 (.bin .lss (.t 9) (cI 1)),oP 11 10,gM 12 3 11 false,oG 13 (.bin .gtr (.t 12) (cI 64)) 11 false,oV 14 (.pick (.t 11) cT (.t 13))]) (.cond (.v 14) (.seq (rg [oV 2 (.move cF)]) .ret) .skip)) (.seq (.seq (rg [oJ 4 0]) (.block 0 (.loop (.seq (.seq (rg [oM 15 4,oM 16 3,oU 17 15 16]) (.cond (.v 17) .skip (.exit 0))) (.seq (.block 1 (.seq (rg [oK 20 2 1,oM 21 4,oC 22 41 [.t 20,.t 21],oV 23 (.not (.t 22))]) (.cond (.v 23) (.seq (rg [oV 2 (.move cF)]) .ret) .skip))) (rg [oM 18 4,oI 19 18,oN 4 19])))))) (.seq (.seq (rg [oJ 5 0]) (.block 2 (.loop (.seq (.seq (.region ⟨[oM 24 5,oM 25 3,oU 26 24 25],[36],[]⟩) (.cond (.v 26) .skip (.exit 2))) (.seq (.block 3 (.seq (rg [oK 29 2 1,oF 30 0 1,oL 31 30,oM 32 5,oA 33 6 31 32,oQ 34 0 33,oL 35 34,oC 36 42 [.t 29,.t 35],oY 37 36,oV 38 (.bin .gtr (.t 37) (cI 9))]) (.cond (.v 38) (.seq (rg [oV 2 (.move cF)]) .ret) .skip))) (rg [oM 27 5,oI 28 27,oN 5 28])))))) (.seq (rg [oF 39 1 1,oL 40 39,oF 41 0 1,oL 42 41,oM 43 3,oT 44 (.bin .sub (.t 43) (cI 1)),oA 45 6 42 44,oQ 46 0 45,oL 47 46,oT 48 (.bin .gtr (.t 40) (.t 47)),oP 49 48,gF 50 1 1 49 true,gL 51 50 49 true,oG 52 (.bin .leq (.t 51) (cI 2147483648)) 49 true,oB 53 49 52,oN 2 53]) .ret)))))
def vf28 : VFunc:={ vs:=[0,1,2,3,4,5,14,17,23,26,38],nparams:=1,rets:=[.tmp (.v 2)],body:=vb28 }
def vb29 : VCode:=.seq (rg [oX 3 2 0,oJ 6 0,oJ 7 0]) (.seq (rg [oJ 8 10000]) (.seq (.seq (rg [oK 11 2 3,oM 12 2,oV 13 (.call 43 [.t 11,.t 12]),oV 14 (.len (.v 13)),oJ 15 0]) (.block 0 (.loop (.seq (rg [oV 16 (.bin .lss (.v 15) (.v 14))]) (.seq (.cond (.v 16) .skip (.exit 0)) (.seq (.block 1 (.seq (rg [oT 17 (.indexAddr 1 (.v 13) (.v 15)),oL 18 17,oN 10 18]) (rg [oM 19 8,oM 20 1,oK 21 2 3,oM 22 10,oC 23 30 [.t 21,.t 22],oA 24 3 20 23,oQ 25 2 24,oL 26 25,oT 27 (.minmax false [.t 19,.t 26]),oN 8 27]))) (rg [oT 28 (.bin .add (.v 15) (cI 1)),oN 15 28]))))))) (.seq (rg [oM 29 1,oK 30 2 3,oM 31 2,oC 32 30 [.t 30,.t 31],oA 33 3 29 32,oQ 34 1 33,oL 35 34,oM 36 8,oT 37 (.minmax false [.t 35,.t 36]),oM 38 8,oN 6 37,oN 7 38]) .ret)))
def vf29 : VFunc:={ vs:=[0,1,2,3,6,7,8,10,13,14,15,16],nparams:=3,rets:=[.tmp (.v 6),.tmp (.v 7)],body:=vb29 }
def vb30 : VCode:=.seq (rg [oX 2 2 0,oX 3 1 1,oJ 4 0]) (.seq (rg [oF 5 0 2,oL 6 5,oT 7 (.makeFunc 45 [.v 3]),oC 8 44 [.t 6,.t 7],oN 4 8]) .ret)
def vf30 : VFunc:={ vs:=[0,1,2,3,4],nparams:=2,rets:=[.tmp (.v 4)],body:=vb30 }
def vb31 : VCode:=.seq (rg [oX 4 2 0,oJ 8 0]) (.seq (rg [oK 12 2 4,oM 13 1,oM 14 2,oC 15 29 [.t 12,.t 13,.t 14],oP 11 15,oE 16 11 0,oE 17 11 1,oN 9 16,oN 10 17]) (.seq (rg [oM 18 3,oT 19 (.minmax true [.t 18,.c (.int .i64 0)]),oT 20 (.minmax false [.t 19,.c (.int .i64 10000)]),oM 21 9,oT 22 (.minmax true [.t 20,.t 21]),oM 23 10,oT 24 (.minmax false [.t 22,.t 23]),oN 8 24]) .ret))
def vf31 : VFunc:={ vs:=[0,1,2,3,4,8,9,10],nparams:=4,rets:=[.tmp (.v 8)],body:=vb31 }
def vb32 : VCode:=.seq (rg [oX 2 2 0,oV 4 (.newArr 1)]) (.seq (.seq (rg [oK 5 2 2,oM 6 1,oC 7 34 [.t 5,.t 6],oV 8 (.not (.t 7))]) (.cond (.v 8) (.seq (rg [oV 4 (.newArr 1)]) .ret) .skip)) (.seq (rg [oK 9 2 2,oM 10 1,oC 11 42 [.t 9,.t 10],oN 4 11]) .ret))
def vf32 : VFunc:={ vs:=[0,1,2,4,8],nparams:=2,rets:=[.tmp (.v 4)],body:=vb32 }
def vb33 : VCode:=.seq (rg [oV 4 (.alloc [.c (.int .i64 0),.c (.int .i64 0),.c (.int .i64 0)])]) (.seq (.seq (rg [oJ 5 0]) (.block 0 (.loop (.seq (.seq (rg [oM 6 5,oM 7 0,oY 8 7,oU 9 6 8]) (.cond (.v 9) .skip (.exit 0))) (.seq (.block 1 (.seq (rg [oM 12 0,oM 13 5,oA 14 3 12 13,oQ 15 0 14,oL 16 15,oM 17 1,oV 18 (.bin .eql (.t 16) (.t 17))]) (.cond (.v 18) (.seq (rg [oM 19 0,oM 20 5,oA 21 3 19 20,oR 22 3 21,oS 3 4 22]) .ret) .skip))) (rg [oM 10 5,oI 11 10,oN 5 11])))))) (.seq (rg [oT 23 (.build [.z (.c (.int .i64 0)),.z (.c (.int .i64 0)),.z (.c (.int .i64 0))]),oS 3 4 23]) .ret))
def vf33 : VFunc:={ vs:=[0,1,4,5,9,18],nparams:=2,rets:=[.cell (.v 4) (some 3)],body:=vb33 }
def vb34 : VCode:=.seq (rg [oX 2 2 0,oV 4 (.move cF)]) (.seq (rg [oK 8 2 2,oM 9 1,oC 10 46 [.t 8,.t 9],oP 7 10,oE 11 7 0,oE 12 7 1,oT 5 (.alloc [.c (.int .i64 0),.c (.int .i64 0),.c (.str ⟨#[]⟩),.c (.int .i64 0),.c (.int .i64 0),.c (.int .i64 0)]),oZ (.store 6 (.t 5) (.t 11)),oN 6 12]) (.seq (rg [oM 13 6,oN 4 13]) .ret))
def vf34 : VFunc:={ vs:=[0,1,2,4,6],nparams:=2,rets:=[.tmp (.v 4)],body:=vb34 }
def vb35 : VCode:=.seq (rg [oV 2 (.move cF)]) (.seq (.seq (rg [oM 5 0,oT 6 (.lenStr (.t 5)),oT 7 (.bin .eql (.t 6) (cI 0)),oP 8 7,gM 9 0 8 false,oG 10 (.lenStr (.t 9)) 8 false,oG 11 (.bin .gtr (.t 10) (cI 32)) 8 false,oO 12 8 11,oP 13 12,gM 14 0 13 false,oG 15 (.indexStr (.t 14) (cI 0)) 13 false,oG 16 (.bin .eql (.t 15) (.c (.int .u8 45))) 13 false,oV 17 (.pick (.t 13) cT (.t 16))]) (.cond (.v 17) (.seq (rg [oV 2 (.move cF)]) .ret) .skip)) (.seq (.seq (rg [oJ 3 0]) (.block 0 (.loop (.seq (.seq (rg [oM 18 3,oM 19 0,oT 20 (.lenStr (.t 19)),oU 21 18 20]) (.cond (.v 21) .skip (.exit 0))) (.seq (.block 1 (.seq (rg [oM 24 0,oM 25 3,oT 26 (.indexStr (.t 24) (.t 25)),oN 4 26]) (.seq (rg [oM 27 4,oT 28 (.bin .geq (.t 27) (.c (.int .u8 97))),oP 29 28,gM 30 4 29 true,oG 31 (.bin .leq (.t 30) (.c (.int .u8 122))) 29 true,oB 32 29 31,oP 33 32,gM 34 4 33 false,oG 35 (.bin .geq (.t 34) (.c (.int .u8 65))) 33 false,oG 36 (.move (.t 35)) 33 false,gM 37 4 36 true,oG 38 (.bin .leq (.t 37) (.c (.int .u8 90))) 36 true,oG 39 (.pick (.t 36) (.t 38) cF) 33 false,oO 40 33 39,oP 41 40,gM 42 4 41 false,oG 43 (.bin .geq (.t 42) (.c (.int .u8 48))) 41 false,oG 44 (.move (.t 43)) 41 false,gM 45 4 44 true,oG 46 (.bin .leq (.t 45) (.c (.int .u8 57))) 44 true,oG 47 (.pick (.t 44) (.t 46) cF) 41 false,oO 48 41 47,oP 49 48,gM 50 4 49 false,oG 51 (.bin .eql (.t 50) (.c (.int .u8 95))) 49 false,oO 52 49 51,oP 53 52,gM 54 4 53 false,oG 55 (.bin .eql (.t 54) (.c (.int .u8 45))) 53 false,oO 56 53 55,oV 57 (.not (.t 56))]) (.cond (.v 57) (.seq (rg [oV 2 (.move cF)]) .ret) .skip)))) (rg [oM 22 3,oI 23 22,oN 3 23])))))) (.seq (rg [oV 2 (.move cT)]) .ret)))
def vf35 : VFunc:={ vs:=[0,2,3,4,17,21,57],nparams:=1,rets:=[.tmp (.v 2)],body:=vb35 }
def vb36 : VCode:=.seq (rg [oX 2 2 0,oJ 4 0]) (.seq (rg [oK 5 2 2,oM 6 1,oC 7 32 [.t 5,.t 6],oY 8 7,oT 9 (.bin .sub (.t 8) (cI 1)),oN 4 9]) .ret)
def vf36 : VFunc:={ vs:=[0,1,2,4],nparams:=2,rets:=[.tmp (.v 4)],body:=vb36 }
def vb37 : VCode:=.seq (rg [oX 1 2 0,oV 2 (.alloc [.nil 6,.c (.int .i64 0)])]) (.seq (.region ⟨[oF 3 0 1,oL 4 3,oT 5 (.appendNil 6 56 (.t 4)),oF 6 1 1,oL 7 6,oT 8 (.build [.a (.t 5) 0 1,.a (.t 7) 0 1]),oS 2 2 8],[],[(2,4)]⟩) .ret)
def vf37 : VFunc:={ vs:=[0,1,2],nparams:=1,rets:=[.cell (.v 2) (some 2)],body:=vb37 }
def vb38 : VCode:=.seq (rg [oX 2 2 0,oV 4 (.newArr 1)]) (.seq (.seq (rg [oK 7 2 2,oM 8 1,oC 9 34 [.t 7,.t 8],oV 10 (.not (.t 9))]) (.cond (.v 10) (.seq (rg [oV 4 (.newArr 1)]) .ret) .skip)) (.seq (rg [oV 5 (.newArr 1)]) (.seq (.seq (rg [oJ 6 0]) (.block 0 (.loop (.seq (.seq (rg [oM 11 6,oF 12 0 2,oL 13 12,oY 14 13,oU 15 11 14]) (.cond (.v 15) .skip (.exit 0))) (.seq (.block 1 (.seq (rg [oF 18 0 2,oL 19 18,oM 20 6,oA 21 6 19 20,oQ 22 1 21,oL 23 22,oM 24 1,oV 25 (.bin .eql (.t 23) (.t 24))]) (.cond (.v 25) (rg [oM 26 5,oF 27 0 2,oL 28 27,oM 29 6,oA 30 6 28 29,oQ 31 0 30,oL 32 31,oT 33 (.buildSlice 1 [.t 32]),oT 34 (.append 1 8 (.t 26) (.t 33)),oN 5 34]) .skip))) (rg [oM 16 6,oI 17 16,oN 6 17])))))) (.seq (rg [oM 35 5,oN 4 35]) .ret))))
def vf38 : VFunc:={ vs:=[0,1,2,4,5,6,10,15,25],nparams:=2,rets:=[.tmp (.v 4)],body:=vb38 }
def vb39 : VCode:=.seq (rg [oX 1 6 0,oV 2 (.move cF)]) (.seq (rg [oF 3 0 1,oL 4 3,oT 5 (.bin .eql (.t 4) (cI 1)),oP 6 5,gF 7 1 1 6 true,gL 8 7 6 true,oG 9 (.bin .eql (.t 8) (cI 0)) 6 true,oB 10 6 9,oP 11 10,gF 12 2 1 11 true,gL 13 12 11 true,oG 14 (.bin .eql (.t 13) (.c (.str ⟨#[]⟩))) 11 true,oB 15 11 14,oP 16 15,gF 17 4 1 16 true,gL 18 17 16 true,oG 19 (.bin .eql (.t 18) (cI 0)) 16 true,oB 20 16 19,oN 2 20]) .ret)
def vf39 : VFunc:={ vs:=[0,1,2],nparams:=1,rets:=[.tmp (.v 2)],body:=vb39 }
def vb40 : VCode:=.seq (rg [oX 3 6 1,oV 4 (.move cF)]) (.seq (.seq (rg [oF 8 0 3,oL 9 8,oM 10 0,oM 11 0,oY 12 11,oT 13 (.bin .sub (.t 12) (cI 1)),oA 14 6 10 13,oQ 15 0 14,oL 16 15,oT 17 (.bin .leq (.t 9) (.t 16)),oP 18 17,gF 19 2 3 18 false,gL 20 19 18 false,oG 21 (.call 47 [.t 20]) 18 false,oG 22 (.not (.t 21)) 18 false,oO 23 18 22,oP 24 23,gF 25 4 3 24 false,gL 26 25 24 false,oG 27 (.bin .neq (.t 26) (cI 0)) 24 false,oG 28 (.move (.t 27)) 24 false,gF 29 4 3 28 true,gL 30 29 28 true,oG 31 (.bin .neq (.t 30) (cI 1)) 28 true,oG 32 (.pick (.t 28) (.t 31) cF) 24 false,oV 33 (.pick (.t 24) cT (.t 32))]) (.cond (.v 33) (.seq (rg [oV 4 (.move cF)]) .ret) .skip)) (.seq (rg [oV 5 (.move cF)]) (.seq (.seq (rg [oV 34 (.move (.v 0)),oV 35 (.len (.v 34)),oJ 36 0]) (.block 0 (.loop (.seq (rg [oV 37 (.bin .lss (.v 36) (.v 35))]) (.seq (.cond (.v 37) .skip (.exit 0)) (.seq (.block 1 (.seq (rg [oT 38 (.indexAddr 6 (.v 34) (.v 36)),oR 39 6 38,oV 7 (.alloc [.c (.int .i64 0),.c (.int .i64 0),.c (.str ⟨#[]⟩),.c (.int .i64 0),.c (.int .i64 0),.c (.int .i64 0)]),oS 6 7 39]) (.seq (rg [oM 40 5,oP 41 40,gF 42 0 7 41 false,gL 43 42 41 false,gF 44 1 3 41 false,gL 45 44 41 false,oG 46 (.bin .eql (.t 43) (.t 45)) 41 false,oO 47 41 46,oN 5 47]) (.seq (rg [oF 48 1 7,oL 49 48,oF 50 1 3,oL 51 50,oT 52 (.bin .eql (.t 49) (.t 51)),oP 53 52,gF 54 2 7 53 true,gL 55 54 53 true,gF 56 2 3 53 true,gL 57 56 53 true,oG 58 (.bin .eql (.t 55) (.t 57)) 53 true,oV 59 (.pick (.t 53) (.t 58) cF)]) (.cond (.v 59) (.seq (rg [oV 4 (.move cF)]) .ret) .skip))))) (rg [oT 60 (.bin .add (.v 36) (cI 1)),oN 36 60]))))))) (.seq (rg [oM 61 5,oN 4 61]) .ret))))
def vf40 : VFunc:={ vs:=[0,1,3,4,5,7,33,34,35,36,37,59],nparams:=2,rets:=[.tmp (.v 4)],body:=vb40 }
def vb41 : VCode:=.seq (rg [oX 2 2 0,oV 4 (.move cF)]) (.seq (rg [oF 8 0 2,oL 9 8,oM 10 1,oA 11 6 9 10,oR 12 6 11,oV 5 (.alloc [.c (.int .i64 0),.c (.int .i64 0),.c (.str ⟨#[]⟩),.c (.int .i64 0),.c (.int .i64 0),.c (.int .i64 0)]),oS 6 5 12]) (.seq (.seq (rg [oF 13 4 5,oL 14 13,oT 15 (.bin .neq (.t 14) (cI 0)),oP 16 15,gF 17 4 5 16 true,gL 18 17 16 true,oG 19 (.bin .neq (.t 18) (cI 1)) 16 true,oB 20 16 19,oP 21 20,gF 22 3 5 21 false,gL 23 22 21 false,oG 24 (.bin .lss (.t 23) (cI 0)) 21 false,oO 25 21 24,oP 26 25,gF 27 3 5 26 false,gL 28 27 26 false,oG 29 (.bin .gtr (.t 28) (cI 31)) 26 false,oO 30 26 29,oP 31 30,gF 32 5 5 31 false,gL 33 32 31 false,oG 34 (.bin .lss (.t 33) (cI 0)) 31 false,oO 35 31 34,oP 36 35,gF 37 5 5 36 false,gL 38 37 36 false,oG 39 (.bin .gtr (.t 38) (cI 1048576)) 36 false,oV 40 (.pick (.t 36) cT (.t 39))]) (.cond (.v 40) (.seq (rg [oV 4 (.move cF)]) .ret) .skip)) (.seq (.seq (rg [oM 41 1,oV 42 (.bin .eql (.t 41) (cI 0))]) (.cond (.v 42) (.seq (rg [oF 43 0 5,oL 44 43,oT 45 (.bin .eql (.t 44) (cI 1)),oP 46 45,gF 47 1 5 46 true,gL 48 47 46 true,oG 49 (.bin .eql (.t 48) (cI 0)) 46 true,oB 50 46 49,oP 51 50,gF 52 2 5 51 true,gL 53 52 51 true,oG 54 (.bin .eql (.t 53) (.c (.str ⟨#[]⟩))) 51 true,oB 55 51 54,oP 56 55,gF 57 4 5 56 true,gL 58 57 56 true,oG 59 (.bin .eql (.t 58) (cI 0)) 56 true,oB 60 56 59,oN 4 60]) .ret) .skip)) (.seq (.seq (rg [oF 61 0 5,oL 62 61,oF 63 0 2,oL 64 63,oM 65 1,oT 66 (.bin .sub (.t 65) (cI 1)),oA 67 6 64 66,oQ 68 0 67,oL 69 68,oT 70 (.bin .leq (.t 62) (.t 69)),oP 71 70,gF 72 2 5 71 false,gL 73 72 71 false,oG 74 (.call 35 [.t 73]) 71 false,oG 75 (.not (.t 74)) 71 false,oV 76 (.pick (.t 71) cT (.t 75))]) (.cond (.v 76) (.seq (rg [oV 4 (.move cF)]) .ret) .skip)) (.seq (rg [oV 6 (.move cF)]) (.seq (.seq (rg [oJ 7 0]) (.block 0 (.loop (.seq (.seq (rg [oM 77 7,oM 78 1,oU 79 77 78]) (.cond (.v 79) .skip (.exit 0))) (.seq (.block 1 (.seq (rg [oM 82 6,oP 83 82,gF 84 0 2 83 false,gL 85 84 83 false,gM 86 7 83 false,oG 87 (.indexAddr 6 (.t 85) (.t 86)) 83 false,oG 88 (.fieldAddr 0 (.t 87)) 83 false,gL 89 88 83 false,gF 90 1 5 83 false,gL 91 90 83 false,oG 92 (.bin .eql (.t 89) (.t 91)) 83 false,oO 93 83 92,oN 6 93]) (.seq (rg [oF 94 0 2,oL 95 94,oM 96 7,oA 97 6 95 96,oQ 98 1 97,oL 99 98,oF 100 1 5,oL 101 100,oT 102 (.bin .eql (.t 99) (.t 101)),oP 103 102,gF 104 0 2 103 true,gL 105 104 103 true,gM 106 7 103 true,oG 107 (.indexAddr 6 (.t 105) (.t 106)) 103 true,oG 108 (.fieldAddr 2 (.t 107)) 103 true,gL 109 108 103 true,gF 110 2 5 103 true,gL 111 110 103 true,oG 112 (.bin .eql (.t 109) (.t 111)) 103 true,oV 113 (.pick (.t 103) (.t 112) cF)]) (.cond (.v 113) (.seq (rg [oV 4 (.move cF)]) .ret) .skip)))) (rg [oM 80 7,oI 81 80,oN 7 81])))))) (.seq (rg [oM 114 6,oN 4 114]) .ret)))))))
def vf41 : VFunc:={ vs:=[0,1,2,4,5,6,7,40,42,76,79,113],nparams:=2,rets:=[.tmp (.v 4)],body:=vb41 }
def vb42 : VCode:=.seq (rg [oX 2 2 0,oV 4 (.newArr 1)]) (.seq (rg [oV 5 (.newArr 1)]) (.seq (.seq (rg [oF 7 0 2,oL 8 7,oY 9 8,oT 10 (.bin .sub (.t 9) (cI 1)),oN 6 10]) (.block 0 (.loop (.seq (.seq (rg [oM 11 6,oV 12 (.bin .geq (.t 11) (cI 0))]) (.cond (.v 12) .skip (.exit 0))) (.seq (.block 1 (.seq (rg [oF 15 0 2,oL 16 15,oM 17 6,oA 18 6 16 17,oQ 19 0 18,oL 20 19,oM 21 1,oV 22 (.bin .eql (.t 20) (.t 21))]) (.cond (.v 22) (.seq (rg [oM 23 5,oM 24 1,oT 25 (.buildSlice 1 [.t 24]),oT 26 (.append 1 8 (.t 23) (.t 25)),oN 5 26]) (rg [oF 27 0 2,oL 28 27,oM 29 6,oA 30 6 28 29,oQ 31 1 30,oL 32 31,oN 1 32])) .skip))) (rg [oM 13 6,oT 14 (.bin .sub (.t 13) (cI 1)),oN 6 14])))))) (.seq (rg [oM 33 5,oN 4 33]) .ret)))
def vf42 : VFunc:={ vs:=[0,1,2,4,5,6,12,22],nparams:=2,rets:=[.tmp (.v 4)],body:=vb42 }
def vb43 : VCode:=.seq (rg [oX 2 2 0,oV 4 (.newArr 1)]) (.seq (rg [oV 5 (.newArr 1)]) (.seq (.seq (rg [oF 8 0 2,oL 9 8,oV 10 (.len (.t 9)),oJ 11 0]) (.block 0 (.loop (.seq (rg [oV 12 (.bin .lss (.v 11) (.v 10))]) (.seq (.cond (.v 12) .skip (.exit 0)) (.seq (.block 1 (.seq (rg [oK 14 2 2,oM 15 1,oC 16 48 [.t 14,.t 15],oP 13 16,oE 17 13 0,oE 18 13 1,oV 6 (.alloc [.c (.int .i64 0),.c (.int .i64 0),.c (.str ⟨#[]⟩),.c (.int .i64 0),.c (.int .i64 0),.c (.int .i64 0)]),oS 6 6 17,oN 7 18]) (.seq (.seq (rg [oM 19 7,oV 20 (.not (.t 19))]) (.cond (.v 20) (.exit 0) .skip)) (.seq (rg [oM 21 5,oM 22 1,oT 23 (.buildSlice 1 [.t 22]),oT 24 (.append 1 8 (.t 21) (.t 23)),oN 5 24]) (rg [oF 25 1 6,oL 26 25,oN 1 26]))))) (rg [oT 27 (.bin .add (.v 11) (cI 1)),oN 11 27]))))))) (.seq (rg [oM 28 5,oN 4 28]) .ret)))
def vf43 : VFunc:={ vs:=[0,1,2,4,5,6,7,10,11,12,20],nparams:=2,rets:=[.tmp (.v 4)],body:=vb43 }
def vb44 : VCode:=.seq (rg [oJ 4 0]) (.seq (.seq (rg [oM 6 0,oV 7 (.len (.t 6)),oJ 8 0]) (.block 0 (.loop (.seq (rg [oV 9 (.bin .lss (.v 8) (.v 7))]) (.seq (.cond (.v 9) .skip (.exit 0)) (.seq (.block 1 (.seq (rg [oM 10 8,oN 5 10]) (.seq (rg [oM 11 1,oM 12 0,oM 13 5,oA 14 6 12 13,oR 15 6 14,oV 16 (.callv (.t 11) [.t 15])]) (.cond (.v 16) (.seq (rg [oM 17 5,oN 4 17]) .ret) .skip)))) (rg [oT 18 (.bin .add (.v 8) (cI 1)),oN 8 18]))))))) (.seq (rg [oJ 4 (-1)]) .ret))
def vf44 : VFunc:={ vs:=[0,1,4,5,7,8,9,16],nparams:=2,rets:=[.tmp (.v 4)],body:=vb44 }
def vb45 : VCode:=.seq (rg [oX 2 6 0,oV 3 (.move cF)]) (.seq (rg [oF 4 0 2,oL 5 4,oT 6 (.load none (.v 1)),oT 7 (.bin .eql (.t 5) (.t 6)),oN 3 7]) .ret)
def vf45 : VFunc:={ vs:=[0,1,2,3],nparams:=2,rets:=[.tmp (.v 3)],body:=vb45 }
def vb46 : VCode:=.seq (rg [oX 2 2 0,oV 4 (.alloc [.c (.int .i64 0),.c (.int .i64 0),.c (.str ⟨#[]⟩),.c (.int .i64 0),.c (.int .i64 0),.c (.int .i64 0)]),oV 5 (.move cF)]) (.seq (.seq (rg [oK 7 2 2,oC 8 28 [.t 7],oV 9 (.not (.t 8))]) (.cond (.v 9) (.seq (rg [oT 10 (.build [.z (.c (.int .i64 0)),.z (.c (.int .i64 0)),.z (.c (.str ⟨#[]⟩)),.z (.c (.int .i64 0)),.z (.c (.int .i64 0)),.z (.c (.int .i64 0))]),oS 6 4 10,oV 5 (.move cF)]) .ret) .skip)) (.seq (.seq (rg [oJ 6 0]) (.block 0 (.loop (.seq (.seq (rg [oM 11 6,oF 12 0 2,oL 13 12,oY 14 13,oU 15 11 14]) (.cond (.v 15) .skip (.exit 0))) (.seq (.block 1 (.seq (rg [oF 18 0 2,oL 19 18,oM 20 6,oA 21 6 19 20,oQ 22 0 21,oL 23 22,oM 24 1,oV 25 (.bin .eql (.t 23) (.t 24))]) (.cond (.v 25) (.seq (rg [oF 26 0 2,oL 27 26,oM 28 6,oA 29 6 27 28,oR 30 6 29,oS 6 4 30,oV 5 (.move cT)]) .ret) .skip))) (rg [oM 16 6,oI 17 16,oN 6 17])))))) (.seq (rg [oT 31 (.build [.z (.c (.int .i64 0)),.z (.c (.int .i64 0)),.z (.c (.str ⟨#[]⟩)),.z (.c (.int .i64 0)),.z (.c (.int .i64 0)),.z (.c (.int .i64 0))]),oS 6 4 31,oV 5 (.move cF)]) .ret)))
def vf46 : VFunc:={ vs:=[0,1,2,4,5,6,9,15,25],nparams:=2,rets:=[.cell (.v 4) (some 6),.tmp (.v 5)],body:=vb46 }
def vb47 : VCode:=.seq (rg [oV 2 (.move cF)]) (.seq (.seq (rg [oM 5 0,oV 6 (.strBytes (.t 5)),oV 7 (.len (.v 6)),oJ 8 0]) (.block 0 (.loop (.seq (rg [oV 9 (.bin .lss (.v 8) (.v 7))]) (.seq (.cond (.v 9) .skip (.exit 0)) (.seq (.block 1 (.seq (rg [oT 10 (.indexAddr 1 (.v 6) (.v 8)),oL 11 10,oN 4 11]) (.seq (rg [oM 12 4,oC 13 49 [.t 12],oV 14 (.not (.t 13))]) (.cond (.v 14) (.seq (rg [oV 2 (.move cF)]) .ret) .skip)))) (rg [oT 15 (.bin .add (.v 8) (cI 1)),oN 8 15]))))))) (.seq (rg [oM 16 0,oT 17 (.bin .neq (.t 16) (.c (.str ⟨#[]⟩))),oP 18 17,gM 19 0 18 true,oG 20 (.lenStr (.t 19)) 18 true,oG 21 (.bin .leq (.t 20) (cI 32)) 18 true,oB 22 18 21,oP 23 22,gM 24 0 23 true,oG 25 (.indexStr (.t 24) (cI 0)) 23 true,oG 26 (.bin .neq (.t 25) (.c (.int .u8 45))) 23 true,oB 27 23 26,oN 2 27]) .ret))
def vf47 : VFunc:={ vs:=[0,2,4,6,7,8,9,14],nparams:=1,rets:=[.tmp (.v 2)],body:=vb47 }
def vb48 : VCode:=.seq (rg [oX 2 2 0,oV 4 (.alloc [.c (.int .i64 0),.c (.int .i64 0),.c (.str ⟨#[]⟩),.c (.int .i64 0),.c (.int .i64 0),.c (.int .i64 0)]),oV 5 (.move cF)]) (.seq (rg [oK 7 2 2,oM 8 1,oC 9 30 [.t 7,.t 8],oN 6 9]) (.seq (.seq (rg [oM 10 6,oV 11 (.bin .lss (.t 10) (cI 0))]) (.cond (.v 11) (.seq (rg [oT 12 (.build [.z (.c (.int .i64 0)),.z (.c (.int .i64 0)),.z (.c (.str ⟨#[]⟩)),.z (.c (.int .i64 0)),.z (.c (.int .i64 0)),.z (.c (.int .i64 0))]),oS 6 4 12,oV 5 (.move cF)]) .ret) .skip)) (.seq (rg [oF 13 0 2,oL 14 13,oM 15 6,oA 16 6 14 15,oR 17 6 16,oS 6 4 17,oV 5 (.move cT)]) .ret)))
def vf48 : VFunc:={ vs:=[0,1,2,4,5,6,11],nparams:=2,rets:=[.cell (.v 4) (some 6),.tmp (.v 5)],body:=vb48 }
def vb49 : VCode:=.seq (rg [oV 2 (.move cF)]) (.seq (rg [oM 3 0,oT 4 (.bin .geq (.t 3) (.c (.int .u8 97))),oP 5 4,gM 6 0 5 true,oG 7 (.bin .leq (.t 6) (.c (.int .u8 122))) 5 true,oB 8 5 7,oP 9 8,gM 10 0 9 false,oG 11 (.bin .geq (.t 10) (.c (.int .u8 65))) 9 false,oG 12 (.move (.t 11)) 9 false,gM 13 0 12 true,oG 14 (.bin .leq (.t 13) (.c (.int .u8 90))) 12 true,oG 15 (.pick (.t 12) (.t 14) cF) 9 false,oO 16 9 15,oP 17 16,gM 18 0 17 false,oG 19 (.bin .geq (.t 18) (.c (.int .u8 48))) 17 false,oG 20 (.move (.t 19)) 17 false,gM 21 0 20 true,oG 22 (.bin .leq (.t 21) (.c (.int .u8 57))) 20 true,oG 23 (.pick (.t 20) (.t 22) cF) 17 false,oO 24 17 23,oP 25 24,gM 26 0 25 false,oG 27 (.bin .eql (.t 26) (.c (.int .u8 95))) 25 false,oO 28 25 27,oP 29 28,gM 30 0 29 false,oG 31 (.bin .eql (.t 30) (.c (.int .u8 45))) 29 false,oO 32 29 31,oN 2 32]) .ret)
def vf49 : VFunc:={ vs:=[0,2],nparams:=1,rets:=[.tmp (.v 2)],body:=vb49 }
def prog : FuncId -> Option VFunc | 3=>some vf3 | 4=>some vf4 | 5=>some vf5 | 6=>some vf6 | 7=>some vf7 | 8=>some vf8 | 9=>some vf9 | 10=>some vf10 | 11=>some vf11 | 12=>some vf12 | 13=>some vf13 | 14=>some vf14 | 15=>some vf15 | 16=>some vf16 | 17=>some vf17 | 18=>some vf18 | 19=>some vf19 | 20=>some vf20 | 21=>some vf21 | 22=>some vf22 | 23=>some vf23 | 24=>some vf24 | 25=>some vf25 | 26=>some vf26 | 27=>some vf27 | 28=>some vf28 | 29=>some vf29 | 30=>some vf30 | 31=>some vf31 | 32=>some vf32 | 33=>some vf33 | 34=>some vf34 | 35=>some vf35 | 36=>some vf36 | 37=>some vf37 | 38=>some vf38 | 39=>some vf39 | 40=>some vf40 | 41=>some vf41 | 42=>some vf42 | 43=>some vf43 | 44=>some vf44 | 45=>some vf45 | 46=>some vf46 | 47=>some vf47 | 48=>some vf48 | 49=>some vf49 | _=>none
end Go.V
