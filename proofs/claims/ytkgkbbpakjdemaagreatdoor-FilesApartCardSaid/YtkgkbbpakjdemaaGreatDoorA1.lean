/- Part 1 of the proof. -/
import GoSem.Core.Code
import GoSem.Core.View
set_option linter.unusedSectionVars false
set_option linter.unusedSimpArgs false
set_option linter.unusedVariables false
open List renaming forall_mem_cons → lfm
namespace Go.V
theorem cl1 {P : Prop} (h : P := by first | rfl | (simp; done) | (congr 2; omega) | (congr 1; omega) | (congr 3; omega) | (simp; omega) | (congr 2; simp; omega)) : P := h
theorem cl2 {P : Prop} (h : P := by first | rfl | omega | (congr 2; omega)) : P := h
inductive KT where
 | int (k : IntKind)
 | str
 | bool
 deriving DecidableEq,Inhabited
inductive MKey where
 | int (n : Int)
 | str (s : ByteArray)
 | bool (b : Bool)
 deriving DecidableEq
inductive PV where
 | int (k : IntKind) (n : Int)
 | bool (b : Bool)
 | str (s : ByteArray)
 | slice (sz : Nat) (xs : List PV)
 | agg (cs : List PV)
 | map (kt : KT) (ks : List MKey) (vs : List PV)
 | fn (f : FuncId)
 | nilp
 | nils
 | lit (sz : Nat) (xs : List PV)
 | clo (f : FuncId) (caps : List PV)
 deriving Inhabited
def PV.cells : PV -> List PV
 | .agg cs=>cs
 | v=>[v]
def PV.flat0 : PV -> Bool
 | .int _ _ | .bool _ | .str _ | .fn _ | .nilp=>true
 | _=>false
def PV.flat : PV -> Bool
 | .agg cs=>cs.all PV.flat0
 | d=>d.flat0
inductive Id where
 | slot (s j : Nat)
 | arg (i j : Nat)
 deriving DecidableEq
inductive VVal where
 | p (d : PV)
 | own (id : Id) (ver off len : Nat)
 | ptr (id : Id) (ver off : Nat)
 | vptr (cs : List PV) (off : Nat)
 | eptr (id : Id) (ver i off : Nat)
 | mref (id : Id) (ver : Nat)
 | fn (f : FuncId) (caps : List VVal)
 | agg (cs : List VVal)
 | tup (vs : List VVal)
 | fresh (sz : Nat) (xs : List PV)
 | boxed (cs : List VVal)
 | undef
 | dead
 deriving Inhabited
inductive Ob where
 | box (cs : List VVal)
 | arr (sz : Nat) (xs : List PV)
 | map (kt : KT) (ks : List MKey) (vs : List PV)
 | gone
 | iter (s : ByteArray) (pos : Nat)
 deriving Inhabited
abbrev VHeap:=Id -> Option (Nat × Ob)
def VHeap.upd (h : VHeap) (id : Id) (o : Nat × Ob) : VHeap:=fun i=>if i = id then some o else h i
def VHeap.upds (h : VHeap) : List (Id × Nat × Ob) -> VHeap
 | []=>h
 | (id,o) :: us=>(VHeap.upd h id o).upds us
def nv : Option (Nat × Ob) -> Nat
 | none=>0
 | some (v,_)=>v + 1
structure Tok {α : Type} (a : α) : Type where
def ob {α β : Type} (x : Option α) (f : α -> Option β) (_u : Tok f:=⟨⟩) : Option β:=match x with | some a=>f a | none=>none
def gd {α : Type} (c : Prop) [Decidable c] (x : Option α) (_u : Tok x:=⟨⟩) : Option α:=if c then x else none
def br {α : Type} (b : Bool) (x y : α) (_u : Tok x:=⟨⟩) (_v : Tok y:=⟨⟩) : α:=if b then x else y
inductive VArg where
 | v (s : Nat)
 | t (s : Nat)
 | c (d : PV)
 deriving Inhabited
inductive ZC where
 | c (d : PV)
 | nil (sz : Nat)
 deriving Inhabited
inductive BC where
 | z (z : ZC)
 | a (x : VArg) (j n : Nat)
 deriving Inhabited
inductive VOp where
 | move (x : VArg)
 | newArr (sz : Nat)
 | pick (c a b : VArg)
 | alloc (zero : List ZC)
 | box (n : Nat) (x : VArg)
 | build (cells : List BC)
 | buildSlice (sz : Nat) (parts : List VArg)
 | buildFz (sz : Nat) (parts : List VArg)
 | load (agg : Option Nat) (a : VArg)
 | store (n : Nat) (a x : VArg)
 | fieldAddr (off : Nat) (x : VArg)
 | field (off : Nat) (agg : Option Nat) (x : VArg)
 | indexAddr (sz : Nat) (x i : VArg)
 | indexStr (x i : VArg)
 | bin (op : BinOp) (x y : VArg)
 | eqAgg (neg : Bool) (kts : List KT) (x y : VArg)
 | not (x : VArg)
 | neg (x : VArg)
 | len (x : VArg)
 | lenStr (x : VArg)
 | eqB (neg : Bool) (x y : VArg)
 | append (sz bytes : Nat) (s x : VArg)
 | appendNil (sz bytes : Nat) (x : VArg)
 | slice (str : Bool) (sz : Nat) (lo hi mx : Option VArg) (x : VArg)
 | lookup (ok : Bool) (kt : KT) (zero : PV) (m k : VArg)
 | mapUpdate (kt : KT) (m k x : VArg)
 | makeMap (kt : KT)
 | mapLen (x : VArg)
 | extract (x : VArg) (i : Nat)
 | minmax (isMax : Bool) (xs : List VArg)
 | conv (k : IntKind) (x : VArg)
 | strBytes (x : VArg)
 | bytesStr (x : VArg)
 | nilCheck (x : VArg)
 | makeFunc (f : FuncId) (caps : List VArg)
 | call (f : FuncId) (args : List VArg)
 | callv (x : VArg) (args : List VArg)
 | callW (f : FuncId) (args : List VArg)
 | callvW (x : VArg) (args : List VArg)
 | callR (f : FuncId) (args : List VArg)
 | make (sz bytes : Nat) (zero : PV) (n : VArg)
 | copy (sz : Nat) (a x : VArg)
 | mapEntry (kt : KT) (zero : PV) (m k : VArg)
 | entryStore (m s x : VArg)
 | buildArr (sz : Nat) (parts : List VArg)
 | indexArr (n sz : Nat) (agg : Option Nat) (x i : VArg)
 | clear (sz : Nat) (zero : PV) (a : VArg)
 | unlit (x : VArg)
 | buildLit (sz : Nat) (parts : List VArg)
 | appendLit (sz bytes : Nat) (s x : VArg)
 | range (x : VArg)
 | next (x : VArg)
 deriving Inhabited
inductive VDst where
 | v (s : Nat)
 | t (s : Nat)
 | none
 deriving Inhabited,DecidableEq
structure VOper where
 dst : VDst
 op : VOp
 guard : Option (VArg × Bool):=.none
 deriving Inhabited
structure VRegion where
 ops : List VOper
 fz : List Nat:=[]
 fp : List (Nat × Nat):=[]
 deriving Inhabited
inductive VCode where
 | skip
 | region (r : VRegion)
 | seq (a b : VCode)
 | cond (c : VArg) (thn els : VCode)
 | block (id : Nat) (c : VCode)
 | loop (c : VCode)
 | exit (id : Nat)
 | ret
 | mv (a b : Id) (c : VCode)
 | scope (c : VCode)
 | fail
 deriving Inhabited
abbrev oT (n : Nat) (o : VOp) : VOper:=⟨.t n,o,none⟩
abbrev oV (n : Nat) (o : VOp) : VOper:=⟨.v n,o,none⟩
abbrev oZ (o : VOp) : VOper:=⟨.none,o,none⟩
abbrev oG (n : Nat) (o : VOp) (g : Nat) (b : Bool) : VOper:=⟨.t n,o,some (.t g,b)⟩
abbrev oM (n x : Nat) : VOper:=⟨.t n,.move (.v x),none⟩
abbrev oN (n x : Nat) : VOper:=⟨.v n,.move (.t x),none⟩
abbrev oL (n x : Nat) : VOper:=⟨.t n,.load none (.t x),none⟩
abbrev oF (n k x : Nat) : VOper:=⟨.t n,.fieldAddr k (.v x),none⟩
abbrev oK (n k x : Nat) : VOper:=⟨.t n,.load (some k) (.v x),none⟩
abbrev rg (l : List VOper) : VCode:=.region ⟨l,[],[]⟩
abbrev cI (n : Int) : VArg:=.c (.int .i64 n)
abbrev cF : VArg:=.c (.bool false)
abbrev cT : VArg:=.c (.bool true)
abbrev oJ (n : Nat) (i : Int) : VOper:=⟨.v n,.move (.c (.int .i64 i)),none⟩
abbrev oP (n x : Nat) : VOper:=⟨.t n,.move (.t x),none⟩
abbrev oA (n s a b : Nat) : VOper:=⟨.t n,.indexAddr s (.t a) (.t b),none⟩
abbrev oQ (n k x : Nat) : VOper:=⟨.t n,.fieldAddr k (.t x),none⟩
abbrev oC (n : Nat) (f : FuncId) (l : List VArg) : VOper:=⟨.t n,.call f l,none⟩
abbrev oE (n x k : Nat) : VOper:=⟨.t n,.extract (.t x) k,none⟩
abbrev oS (s x y : Nat) : VOper:=⟨.none,.store s (.v x) (.t y),none⟩
abbrev oI (n x : Nat) : VOper:=⟨.t n,.bin .add (.t x) (.c (.int .i64 1)),none⟩
abbrev oO (n x y : Nat) : VOper:=⟨.t n,.pick (.t x) (.c (.bool true)) (.t y),none⟩
abbrev oB (n x y : Nat) : VOper:=⟨.t n,.pick (.t x) (.t y) (.c (.bool false)),none⟩
abbrev oR (n s x : Nat) : VOper:=⟨.t n,.load (some s) (.t x),none⟩
abbrev oY (n x : Nat) : VOper:=⟨.t n,.len (.t x),none⟩
abbrev oX (n s x : Nat) : VOper:=⟨.v n,.box s (.v x),none⟩
abbrev oU (n x y : Nat) : VOper:=⟨.v n,.bin .lss (.t x) (.t y),none⟩
abbrev gL (n x g : Nat) (b : Bool) : VOper:=⟨.t n,.load none (.t x),some (.t g,b)⟩
abbrev gF (n k x g : Nat) (b : Bool) : VOper:=⟨.t n,.fieldAddr k (.v x),some (.t g,b)⟩
abbrev gM (n x g : Nat) (b : Bool) : VOper:=⟨.t n,.move (.v x),some (.t g,b)⟩
inductive VRet where
 | tmp (x : VArg)
 | cell (x : VArg) (agg : Option Nat)
 deriving Inhabited
structure VFunc where
 vs : List Nat
 nparams : Nat
 body : VCode
 rets : List VRet
 deriving Inhabited
structure St where
 pe : Nat -> VVal
 h : VHeap
inductive VExit where
 | normal
 | exit (id : Nat)
 | ret
 deriving DecidableEq
abbrev Sig:=FuncId -> List VVal -> List Ob -> Option (VVal × List Ob)
def vcells : VVal -> List VVal
 | .agg cs=>cs
 | v=>[v]
def ofCells (agg : Option Nat) (cs : List VVal) (off : Nat) : Option VVal :=
 match agg with
 | none=>cs[off]?
 | some n=>gd (off + n <= cs.length) (some (.agg ((cs.drop off).take n)))
def vrow (h : VHeap) : VVal -> Option (List VVal × Nat)
 | .ptr id ver off=>match h id with
  | some (v,.box cs)=>gd (v = ver) (some (cs,off))
  | _=>none
 | .vptr cs off=>some (cs.map .p,off)
 | .eptr id ver i off=>match h id with
  | some (v,.arr _ xs)=>gd (v = ver) (ob xs[i]? fun x=>some (x.cells.map .p,off))
  | _=>none
 | _=>none
def vload (h : VHeap) (agg : Option Nat) (a : VVal) : Option VVal:=ob (vrow h a) fun r=>ofCells agg r.1 r.2
def unP : VVal -> Option PV
 | .p d=>some d
 | .fn f []=>some (.fn f)
 | _=>none
def mapO {α β : Type} (f : α -> Option β) : List α -> Option (List β)
 | []=>some []
 | x :: xs=>ob (f x) fun y=>ob (mapO f xs) fun ys=>some (y :: ys)
def freezeP : VVal -> Option PV
 | .agg cs=>ob (mapO unP cs) fun ds=>some (.agg ds)
 | v=>unP v
def velems (h : VHeap) : VVal -> Option (Nat × List PV)
 | .p (.slice sz xs)=>some (sz,xs)
 | .own id ver off len=>match h id with
  | some (v,.arr sz xs)=>gd (v = ver) (some (sz,(xs.drop off).take len))
  | _=>none
 | _=>none
def vlen : VVal -> Option Nat
 | .p (.slice _ xs)=>some xs.length
 | .own _ _ _ len=>some len
 | _=>none
def vlenS : VVal -> Option Nat
 | .p (.str s)=>some s.size
 | _=>none
def splice {α : Type} (cs : List α) (off : Nat) (vs : List α) : List α:=cs.take off ++ vs ++ cs.drop (off + vs.length)
def setCells (x : PV) (off : Nat) (ds : List PV) : PV :=
 match x with
 | .agg cs=>.agg (splice cs off ds)
 | y=>ds.headD y
def solid : VVal -> Bool
 | .p _ | .own _ _ _ _ | .ptr _ _ _ | .vptr _ _ | .eptr _ _ _ _ | .mref _ _ | .fn _ _=>true
 | _=>false
def vstoreAt (h : VHeap) (n : Nat) (vs : List VVal) : VVal -> Option (List (Id × Nat × Ob))
 | .ptr id ver off=>match h id with
  | some (v,.box cs)=>gd (v = ver) (gd (off + n <= cs.length) (some [(id,v,.box (splice cs off vs))]))
  | _=>none
 | .eptr id ver i off=>match h id with
  | some (v,.arr sz xs)=>gd (v = ver) (ob xs[i]? fun x0=>ob (mapO unP vs) fun ds=>gd (off + n <= x0.cells.length) (some [(id,v,.arr sz (xs.set i (setCells x0 off ds)))]))
  | _=>none
 | _=>none
def vstore (h : VHeap) (n : Nat) (a x : VVal) : Option (List (Id × Nat × Ob)) :=
 gd ((vcells x).length = n) (gd ((vcells x).all solid = true) (vstoreAt h n (vcells x) a))
def vindexAt (h : VHeap) (sz i : Nat) : VVal -> Option VVal
 | .p (.slice sz' xs)=>gd (sz' = sz) (ob xs[i]? fun x=>some (.vptr x.cells 0))
 | .own id ver off len=>match h id with
  | some (v,.arr sz' _)=>gd (v = ver) (gd (sz' = sz) (gd (i < len) (some (.eptr id ver (off + i) 0))))
  | _=>none
 | _=>none
def vindex (h : VHeap) (sz : Nat) (s : VVal) (n : Int) : Option VVal:=gd (0 <= n) (vindexAt h sz n.toNat s)
def zcell (d : Nat) (h : VHeap) (j : Nat) : ZC -> VVal × List (Id × Nat × Ob)
 | .c x=>(.p x,[])
 | .nil sz=>(.own (.slot d (j + 1)) (nv (h (.slot d (j + 1)))) 0 0,[(.slot d (j + 1),nv (h (.slot d (j + 1))),.arr sz [])])
def zcells (d : Nat) : VHeap -> Nat -> List ZC -> List VVal × List (Id × Nat × Ob)
 | _,_,[]=>([],[])
 | h,j,z :: zs=>((zcell d h j z).1 :: (zcells d (h.upds (zcell d h j z).2) (j + 1) zs).1,(zcell d h j z).2 ++ (zcells d (h.upds (zcell d h j z).2) (j + 1) zs).2)
def bcells (look : VArg -> Option VVal) (d : Nat) : VHeap -> Nat -> List BC -> Option (List VVal × List (Id × Nat × Ob))
 | _,_,[]=>some ([],[])
 | h,j,.z z :: bs=>ob (bcells look d (h.upds (zcell d h j z).2) (j + 1) bs) fun rs=>some ((zcell d h j z).1 :: rs.1,(zcell d h j z).2 ++ rs.2)
 | h,j,.a x i n :: bs=>ob (look x) fun v=>gd ((vcells v).length = n) <| ob (vcells v)[i]? fun c=>gd (solid c = true) <| ob (bcells look d h (j + 1) bs) fun rs=>some (c :: rs.1,rs.2)
def andI (k : IntKind) (a b : Int) : Int:=k.wrap (BitVec.ofInt k.bits a &&& BitVec.ofInt k.bits b).toNat
def orI (k : IntKind) (a b : Int) : Int:=k.wrap (BitVec.ofInt k.bits a ||| BitVec.ofInt k.bits b).toNat
def xorI (k : IntKind) (a b : Int) : Int:=k.wrap (BitVec.ofInt k.bits a ^^^ BitVec.ofInt k.bits b).toNat
def antI (k : IntKind) (a b : Int) : Int:=k.wrap (BitVec.ofInt k.bits a &&& ~~~ BitVec.ofInt k.bits b).toNat
def shlI (k : IntKind) (a b : Int) : Int:=k.wrap (a * 2 ^ min b.toNat k.bits)
def shrI (k : IntKind) (a b : Int) : Int:=a.fdiv (2 ^ min b.toNat k.bits)
def ibin (k : IntKind) (a b : Int) : BinOp -> Option VVal
 | .add=>some (.p (.int k (k.wrap (a + b))))
 | .sub=>some (.p (.int k (k.wrap (a - b))))
 | .mul=>some (.p (.int k (k.wrap (a * b))))
 | .quo=>gd (b ≠ 0) (some (.p (.int k (k.wrap (a.tdiv b)))))
 | .rem=>gd (b ≠ 0) (some (.p (.int k (a.tmod b))))
 | .and=>some (.p (.int k (andI k a b)))
 | .or=>some (.p (.int k (orI k a b)))
 | .xor=>some (.p (.int k (xorI k a b)))
 | .andNot=>some (.p (.int k (antI k a b)))
 | .eql=>some (.p (.bool (a == b)))
 | .neq=>some (.p (.bool (a != b)))
 | .lss=>some (.p (.bool (decide (a < b))))
 | .leq=>some (.p (.bool (decide (a <= b))))
 | .gtr=>some (.p (.bool (decide (b < a))))
 | .geq=>some (.p (.bool (decide (b <= a))))
 | _=>none
def sbin (a b : ByteArray) : BinOp -> Option VVal
 | .eql=>some (.p (.bool (decide (a = b))))
 | .neq=>some (.p (.bool (!decide (a = b))))
 | .add=>gd (a.size + b.size <= 9223372036854775807) (some (.p (.str (a ++ b))))
 | _=>none
def isSh : BinOp -> Bool
 | .shl | .shr=>true
 | _=>false
def ishift (k : IntKind) (a b : Int) : BinOp -> Option VVal
 | .shl=>gd (0 <= b) (some (.p (.int k (shlI k a b))))
 | .shr=>gd (0 <= b) (some (.p (.int k (shrI k a b))))
 | _=>none
def vbin (op : BinOp) : VVal -> VVal -> Option VVal
 | .p (.int k a),.p (.int k' b)=>br (isSh op) (ishift k a b op) (gd (k = k') (ibin k a b op))
 | .p (.str a),.p (.str b)=>sbin a b op
 | _,_=>none
def eq0 : KT -> PV -> PV -> Option Bool
 | .int k,.int k' a,.int k'' b=>gd (k' = k) (gd (k'' = k) (some (a == b)))
 | .bool,.bool a,.bool b=>some (a == b)
 | .str,.str a,.str b=>some (decide (a = b))
 | _,_,_=>none
def eqAll : List KT -> List PV -> List PV -> Option Bool
 | [],[],[]=>some true
 | k :: ks,x :: xs,y :: ys=>ob (eq0 k x y) fun b=>ob (eqAll ks xs ys) fun c=>some (b && c)
 | _,_,_=>none
def mm2 (isMax : Bool) : VVal -> VVal -> Option VVal
 | .p (.int k a),.p (.int k' b)=>gd (k = k') (some (.p (.int k (if isMax then max a b else min a b))))
 | _,_=>none
def mmL (isMax : Bool) : VVal -> List VVal -> Option VVal
 | v,[]=>some v
 | v,u :: us=>ob (mm2 isMax v u) fun r=>mmL isMax r us
def minmaxI (isMax : Bool) : List VVal -> Option VVal
 | []=>none
 | v :: vs=>mmL isMax v vs
def mkey : KT -> VVal -> Option MKey
 | .int k,.p (.int k' n)=>gd (k = k') (some (.int n))
 | .str,.p (.str s)=>some (.str s)
 | .bool,.p (.bool b)=>some (.bool b)
 | _,_=>none
def mget : List MKey -> List PV -> MKey -> Option PV
 | k :: ks,v :: vs,k'=>if k' = k then some v else mget ks vs k'
 | _,_,_=>none
def mput : List MKey -> List PV -> MKey -> PV -> List MKey × List PV
 | k :: ks,v :: vs,k',v'=>if k' = k then (k :: ks,v' :: vs) else
   let r:=mput ks vs k' v'
   (k :: r.1,v :: r.2)
 | _,_,k',v'=>([k'],[v'])
def kpos : List MKey -> MKey -> Nat
 | k :: ks,k'=>if k' = k then 0 else kpos ks k' + 1
 | [],_=>0
def ventries (h : VHeap) : VVal -> Option (KT × List MKey × List PV)
 | .p (.map kt ks vs)=>some (kt,ks,vs)
 | .mref id ver=>match h id with
  | some (v,.map kt ks vs)=>gd (v = ver) (some (kt,ks,vs))
  | _=>none
 | _=>none
def thaw : PV -> VVal
 | .agg cs=>.agg (cs.map .p)
 | d=>.p d
def vlookup (ok : Bool) (zero : PV) (ks : List MKey) (vs : List PV) (k : MKey) : VVal :=
 let r:=mget ks vs k
 let v:=thaw (r.getD zero)
 if ok then .tup [v,.p (.bool r.isSome)] else v
def vappend (h : VHeap) (sz bytes : Nat) (s x : VVal) : Option (VVal × List (Id × Nat × Ob)) :=
 match s with
 | .own id ver 0 len=>match h id with
  | some (v,.arr sz' xs)=>gd (v = ver) <| gd (sz' = sz) <| gd (len <= xs.length) <|
    ob (velems h x) fun r=>gd (r.1 = sz \/ r.2 = []) <| gd ((len + r.2.length) * bytes <= 140737488355328) <| gd (len + r.2.length <= 9223372036854775807) <|
     some (.own id (v + 1) 0 (len + r.2.length),[(id,v + 1,.arr sz (xs.take len ++ r.2))])
  | _=>none
 | _=>none
def vappendNil (d : Nat) (h : VHeap) (sz bytes : Nat) (x : VVal) : Option (VVal × List (Id × Nat × Ob)) :=
 ob (velems h x) fun r=>gd (r.1 = sz \/ r.2 = []) <| gd (r.2.length * bytes <= 140737488355328) <| gd (r.2.length <= 9223372036854775807) <|
  some (.own (.slot d 0) (nv (h (.slot d 0))) 0 r.2.length,[(.slot d 0,nv (h (.slot d 0)),.arr sz r.2)])
def vappendLit (d : Nat) (h : VHeap) (sz bytes : Nat) (s x : VVal) : Option (VVal × List (Id × Nat × Ob)) :=
 match s with
 | .p (.lit sz' xs)=>gd (sz' = sz) <| gd (0 < xs.length) <| ob (velems h x) fun r=>gd (r.1 = sz) <| gd (0 < r.2.length) <| gd ((xs.length + r.2.length) * bytes <= 140737488355328) <| gd (xs.length + r.2.length <= 9223372036854775807) <|
   some (.own (.slot d 0) (nv (h (.slot d 0))) 0 (xs.length + r.2.length),[(.slot d 0,nv (h (.slot d 0)),.arr sz (xs ++ r.2))])
 | _=>none
def natOf : VVal -> Option Nat
 | .p (.int _ n)=>gd (0 <= n) (some n.toNat)
 | _=>none
def optNat (look : VArg -> Option VVal) (d : Nat) : Option VArg -> Option Nat
 | none=>some d
 | some x=>ob (look x) fun v=>natOf v
def vcut (h : VHeap) (sz l m : Nat) : VVal -> Option (VVal × List (Id × Nat × Ob))
 | .p (.slice sz' xs)=>gd (sz' = sz) (some (.p (.slice sz ((xs.drop l).take (m - l))),[]))
 | .own id ver off _=>match h id with
  | some (v,.arr sz' _)=>gd (v = ver) (gd (sz' = sz) (some (.own id ver (off + l) (m - l),[])))
  | _=>none
 | _=>none
def vcut0 (d : Nat) (h : VHeap) (sz : Nat) : Option (VVal × List (Id × Nat × Ob)) :=
 some (.own (.slot d 0) (nv (h (.slot d 0))) 0 0,[(.slot d 0,nv (h (.slot d 0)),.arr sz [])])
def vcutM (d : Nat) (h : VHeap) (sz l m : Nat) : VVal -> Option (VVal × List (Id × Nat × Ob))
 | .own id ver off n=>vcut h sz l m (.own id ver off n)
 | _=>gd (l = m) (vcut0 d h sz)
def vcut3 (d : Nat) (h : VHeap) (look : VArg -> Option VVal) (sz l m : Nat) (s : VVal) : Option VArg -> Option (VVal × List (Id × Nat × Ob))
 | none=>vcut h sz l m s
 | some x=>ob (look x) fun v=>ob (natOf v) fun k=>gd (k = m) (vcutM d h sz l m s)
def vcutS (l m : Nat) : VVal -> Option (VVal × List (Id × Nat × Ob))
 | .p (.str b)=>some (.p (.str (b.extract l m)),[])
 | _=>none
def vsliceS (look : VArg -> Option VVal) (lo hi : Option VArg) (s : VVal) : Option (VVal × List (Id × Nat × Ob)) :=
 ob (vlenS s) fun n=>ob (optNat look 0 lo) fun l=>ob (optNat look n hi) fun m=>gd (l <= m) (gd (m <= n) (vcutS l m s))
def vslice (d : Nat) (h : VHeap) (look : VArg -> Option VVal) (sz : Nat) (lo hi mx : Option VArg) (s : VVal) : Option (VVal × List (Id × Nat × Ob)) :=
 ob (vlen s) fun n=>ob (optNat look 0 lo) fun l=>ob (optNat look n hi) fun m=>gd (l <= m) (gd (m <= n) (vcut3 d h look sz l m s mx))
def vnext (h : VHeap) : VVal -> Option (VVal × List (Id × Nat × Ob))
 | .ptr id ver 0=>match h id with
  | some (v,.iter s pos)=>gd (v = ver) (match s[pos]? with
   | some c=>gd (c.toNat < 128) (some (.tup [.p (.bool true),.p (.int .i64 pos),.p (.int .i32 c.toNat)],[(id,v,.iter s (pos + 1))]))
   | none=>some (.tup [.p (.bool false)],[]))
  | _=>none
 | _=>none
def cloArgs (cs : List PV) : List VVal:=cs.map fun c=>.vptr c.cells 0
def alive (h : VHeap) (id : Id) (ver : Nat) : Bool :=
 match h id with
 | some (v,_)=>decide (v = ver)
 | none=>false
def posOf (R : List Id) (id : Id) : Option Nat:=match R with
 | []=>none
 | r :: rs=>if r = id then some 0 else (posOf rs id).map (· + 1)
def ptrs0 : VVal -> List Id
 | .ptr id _ _=>[id]
 | _=>[]
def ptrs1 : VVal -> List Id
 | .fn _ caps=>caps.flatMap ptrs0
 | .agg cs=>cs.flatMap ptrs0
 | v=>ptrs0 v
def objPtrs (h : VHeap) (id : Id) : List Id :=
 match h id with
 | some (_,.box cs)=>cs.flatMap ptrs1
 | _=>[]
def addNew (R : List Id) : List Id -> List Id
 | []=>R
 | i :: is=>addNew (if R.contains i then R else R ++ [i]) is
def roots (h : VHeap) (args : List VVal) : List Id :=
 let r0:=addNew [] (args.flatMap ptrs1)
 if r0.isEmpty then [] else
 let r1:=addNew r0 (r0.flatMap (objPtrs h))
 let r2:=addNew r1 (r1.flatMap (objPtrs h))
 r2
def ext0 (R : List Id) (h : VHeap) : VVal -> Option VVal
 | .p d=>some (.p d)
 | .own id ver off len=>ob (velems h (.own id ver off len)) fun r=>some (.p (.slice r.1 r.2))
 | .mref id ver=>ob (ventries h (.mref id ver)) fun r=>some (.p (.map r.1 r.2.1 r.2.2))
 | .ptr id ver off=>gd (alive h id ver = true) (ob (posOf R id) fun i=>some (.ptr (.arg i 0) 0 off))
 | .vptr cs off=>some (.vptr cs off)
 | .eptr id ver i off=>match h id with
  | some (v,.arr _ xs)=>gd (v = ver) (ob xs[i]? fun x=>some (.vptr x.cells off))
  | _=>none
 | _=>none
def ext1 (R : List Id) (h : VHeap) : VVal -> Option VVal
 | .fn f caps=>ob (mapO (ext0 R h) caps) fun cs=>some (.fn f cs)
 | .agg cs=>ob (mapO (ext0 R h) cs) fun cs=>some (.agg cs)
 | v=>ext0 R h v
def lends0 : VVal -> Bool
 | .own _ _ _ _ | .mref _ _ | .eptr _ _ _ _=>true
 | _=>false
def lends : VVal -> Bool
 | .agg cs | .fn _ cs=>cs.any lends0
 | v=>lends0 v
def noAlias0 : VVal -> Bool
 | .p d=>d.flat
 | .fresh _ xs=>xs.all PV.flat
 | .ptr _ _ _=>true
 | _=>false
def noAlias1 : VVal -> Bool
 | .agg cs=>cs.all noAlias0
 | .boxed cs=>cs.all noAlias0
 | v=>noAlias0 v
def noAlias : VVal -> Bool
 | .tup vs=>vs.all noAlias1
 | v=>noAlias1 v
def flatC : VVal -> Bool
 | .p d=>d.flat
 | .ptr _ _ _=>true
 | .fn _ cs=>cs.all noAlias0
 | _=>false
def flatBox : Ob -> Bool
 | .box cs=>cs.all flatC
 | _=>false
def extBox (R : List Id) (h : VHeap) (id : Id) : Option Ob :=
 match h id with
 | some (_,.box cs)=>gd (cs.any lends = false) <| ob (mapO (ext1 R h) cs) fun cs=>some (.box cs)
 | _=>none
def back0 (R : List Id) (h : VHeap) : VVal -> Option VVal
 | .p d=>some (.p d)
 | .ptr (.arg i 0) 0 off=>ob R[i]? fun id=>ob (h id) fun o=>some (.ptr id o.1 off)
 | _=>none
def back1 (R : List Id) (h : VHeap) : VVal -> Option VVal
 | .fn f caps=>ob (mapO (back0 R h) caps) fun cs=>some (.fn f cs)
 | v=>back0 R h v
def backBoxes (R : List Id) (h : VHeap) : List Id -> List Ob -> Option (List (Id × Nat × Ob))
 | [],[]=>some []
 | id :: ids,.box cs :: os=>ob (mapO (back1 R h) cs) fun cs'=>ob (h id) fun o=>ob (backBoxes R h ids os) fun us=>some ((id,o.1,.box cs') :: us)
 | _,_=>none
def in0 (R : List Id) (h : VHeap) (d j : Nat) : VVal -> Option (VVal × List (Id × Nat × Ob))
 | .fresh sz xs=>some (.own (.slot d (j + 1)) (nv (h (.slot d (j + 1)))) 0 xs.length,[(.slot d (j + 1),nv (h (.slot d (j + 1))),.arr sz xs)])
 | v=>ob (back0 R h v) fun v'=>some (v',[])
def inL (R : List Id) (h : VHeap) (d : Nat) : Nat -> List VVal -> Option (List VVal × List (Id × Nat × Ob))
 | _,[]=>some ([],[])
 | j,v :: vs=>ob (in0 R h d j v) fun r=>ob (inL R h d (j + 1) vs) fun rs=>some (r.1 :: rs.1,r.2 ++ rs.2)
def in1 (R : List Id) (h : VHeap) (d j : Nat) : VVal -> Option (VVal × List (Id × Nat × Ob))
 | .agg cs=>ob (inL R h d j cs) fun r=>some (.agg r.1,r.2)
 | .boxed cs=>ob (inL R h d (j + 1) cs) fun r=>some (.ptr (.slot d (j + 1)) (nv (h (.slot d (j + 1)))) 0,(.slot d (j + 1),nv (h (.slot d (j + 1))),.box r.1) :: r.2)
 | v=>in0 R h d j v
def width : VVal -> Nat
 | .agg cs=>cs.length
 | .boxed cs=>cs.length + 1
 | _=>1
def inT (R : List Id) (h : VHeap) (d : Nat) : Nat -> List VVal -> Option (List VVal × List (Id × Nat × Ob))
 | _,[]=>some ([],[])
 | j,v :: vs=>ob (in1 R h d j v) fun r=>ob (inT R h d (j + width v) vs) fun rs=>some (r.1 :: rs.1,r.2 ++ rs.2)
def inRes (R : List Id) (h : VHeap) (d : Nat) : VVal -> Option (VVal × List (Id × Nat × Ob))
 | .tup vs=>ob (inT R h d 0 vs) fun r=>some (.tup r.1,r.2)
 | v=>in1 R h d 0 v
def inW0 (R : List Id) (h : VHeap) (d j : Nat) : VVal -> Option (VVal × List (Id × Nat × Ob))
 | .own (.arg i 0) 0 off len=>ob R[i]? fun id=>ob (h id) fun o=>some (.own id o.1 off len,[])
 | .own (.arg i 0) 1 off len=>ob R[i]? fun id=>ob (h id) fun o=>some (.own id (o.1 + 1) off len,[])
 | v=>in0 R h d j v
def inLW (R : List Id) (h : VHeap) (d : Nat) : Nat -> List VVal -> Option (List VVal × List (Id × Nat × Ob))
 | _,[]=>some ([],[])
 | j,v :: vs=>ob (inW0 R h d j v) fun r=>ob (inLW R h d (j + 1) vs) fun rs=>some (r.1 :: rs.1,r.2 ++ rs.2)
def inResW (R : List Id) (h : VHeap) (d : Nat) : VVal -> Option (VVal × List (Id × Nat × Ob))
 | .own (.arg i 0) 0 off len=>ob R[i]? fun id=>ob (h id) fun o=>some (.own id o.1 off len,[])
 | .own (.arg i 0) 1 off len=>ob R[i]? fun id=>ob (h id) fun o=>some (.own id (o.1 + 1) off len,[])
 | .agg cs=>ob (inLW R h d 0 cs) fun r=>some (.agg r.1,r.2)
 | v=>inRes R h d v
def vcallR (Γ : Sig) (h : VHeap) (d : Nat) (f : FuncId) (args : List VVal) (R : List Id) : Option (VVal × List (Id × Nat × Ob)) :=
 ob (mapO (ext1 R h) args) fun args'=>ob (mapO (extBox R h) R) fun H=>ob (Γ f args' H) fun r =>
  gd (args.any lends = false \/ (noAlias r.1 = true /\ r.2.all flatBox = true)) <|
  ob (backBoxes R h R r.2) fun us=>ob (inRes R h d r.1) fun q=>some (q.1,us ++ q.2)
def vcallOp (Γ : Sig) (h : VHeap) (d : Nat) (f : FuncId) (args : List VVal) : Option (VVal × List (Id × Nat × Ob)):=vcallR Γ h d f args (roots h args)
def ptrsW0 : VVal -> List Id
 | .ptr id _ _ | .own id _ _ _ | .mref id _ | .eptr id _ _ _=>[id]
 | _=>[]
def ptrsW1 : VVal -> List Id
 | .fn _ caps=>caps.flatMap ptrsW0
 | .agg cs=>cs.flatMap ptrsW0
 | v=>ptrsW0 v
def objPtrsW (h : VHeap) (id : Id) : List Id :=
 match h id with
 | some (_,.box cs)=>cs.flatMap ptrsW1
 | _=>[]
def rootsW (h : VHeap) (args : List VVal) : List Id :=
 let r0:=addNew [] (args.flatMap ptrsW1)
 if r0.isEmpty then [] else
 let r1:=addNew r0 (r0.flatMap (objPtrsW h))
 let r2:=addNew r1 (r1.flatMap (objPtrsW h))
 r2
def extW0 (R : List Id) (h : VHeap) : VVal -> Option VVal
 | .p d=>some (.p d)
 | .vptr cs off=>some (.vptr cs off)
 | .ptr id ver off=>gd (alive h id ver = true) (ob (posOf R id) fun i=>some (.ptr (.arg i 0) 0 off))
 | .own id ver off len=>gd (alive h id ver = true) (ob (posOf R id) fun i=>some (.own (.arg i 0) 0 off len))
 | .mref id ver=>gd (alive h id ver = true) (ob (posOf R id) fun i=>some (.mref (.arg i 0) 0))
 | .eptr id ver j off=>gd (alive h id ver = true) (ob (posOf R id) fun i=>some (.eptr (.arg i 0) 0 j off))
 | _=>none
def extW1 (R : List Id) (h : VHeap) : VVal -> Option VVal
 | .fn f caps=>ob (mapO (extW0 R h) caps) fun cs=>some (.fn f cs)
 | .agg cs=>ob (mapO (extW0 R h) cs) fun cs=>some (.agg cs)
 | v=>extW0 R h v
def extObW (R : List Id) (h : VHeap) (id : Id) : Option Ob :=
 match h id with
 | some (_,.box cs)=>ob (mapO (extW1 R h) cs) fun cs=>some (.box cs)
 | some (_,.arr sz xs)=>some (.arr sz xs)
 | some (_,.map kt ks vs)=>some (.map kt ks vs)
 | _=>none
def backW0 (R : List Id) (h : VHeap) : VVal -> Option VVal
 | .p d=>some (.p d)
 | .ptr (.arg i 0) 0 off=>ob R[i]? fun id=>ob (h id) fun o=>some (.ptr id o.1 off)
 | .own (.arg i 0) ver off len=>ob R[i]? fun id=>ob (h id) fun o=>some (.own id (o.1 + ver) off len)
 | .mref (.arg i 0) 0=>ob R[i]? fun id=>ob (h id) fun o=>some (.mref id o.1)
 | _=>none
def backW1 (R : List Id) (h : VHeap) : VVal -> Option VVal
 | .fn f caps=>ob (mapO (backW0 R h) caps) fun cs=>some (.fn f cs)
 | v=>backW0 R h v
def inC (R : List Id) (h : VHeap) (d j : Nat) : VVal -> Option (VVal × List (Id × Nat × Ob))
 | .fresh sz xs=>some (.own (.slot d (j + 1)) (nv (h (.slot d (j + 1))) + 1) 0 xs.length,[(.slot d (j + 1),nv (h (.slot d (j + 1))) + 1,.arr sz xs)])
 | v=>ob (backW1 R h v) fun v'=>some (v',[])
def inCL (R : List Id) (h : VHeap) (d : Nat) : Nat -> List VVal -> Option (List VVal × List (Id × Nat × Ob))
 | _,[]=>some ([],[])
 | j,v :: vs=>ob (inC R h d j v) fun r=>ob (inCL R h d (j + 1) vs) fun rs=>some (r.1 :: rs.1,r.2 ++ rs.2)
def backObs (R : List Id) (h : VHeap) (d : Nat) : Nat -> List Id -> List Ob -> Option (List (Id × Nat × Ob) × List (Id × Nat × Ob))
 | _,[],[]=>some ([],[])
 | j,id :: ids,o :: os=>ob (h id) fun q=>match q.2,o with
  | .box _,.box cs=>ob (inCL R h d j cs) fun r=>ob (backObs R h d (j + cs.length) ids os) fun us=>some ((id,q.1,.box r.1) :: us.1,r.2 ++ us.2)
  | .arr _ _,.arr sz xs=>ob (backObs R h d j ids os) fun us=>some ((id,q.1,.arr sz xs) :: us.1,us.2)
  | .arr _ _,.box [.undef,.fresh sz xs]=>ob (backObs R h d j ids os) fun us=>some ((id,q.1 + 1,.arr sz xs) :: us.1,us.2)
  | .map _ _ _,.map kt ks vs=>ob (backObs R h d j ids os) fun us=>some ((id,q.1,.map kt ks vs) :: us.1,us.2)
  | _,_=>none
 | _,_,_=>none
def apartRes (R : List Id) (as_ qs : List (Id × Nat × Ob)) : Bool:=qs.all fun x=>!R.contains x.1 && as_.all fun y=>!decide (y.1 = x.1)
def vcallRW (Γ : Sig) (h : VHeap) (d : Nat) (f : FuncId) (args : List VVal) (R : List Id) : Option (VVal × List (Id × Nat × Ob)) :=
 ob (mapO (extW1 R h) args) fun args'=>ob (mapO (extObW R h) R) fun H=>ob (Γ f args' H) fun r =>
  ob (backObs R h d 1000 R r.2) fun us=>ob (inResW R h d r.1) fun q=>gd (apartRes R us.2 q.2 = true) (some (q.1,us.1 ++ (us.2 ++ q.2)))
def vcallW (Γ : Sig) (h : VHeap) (d : Nat) (f : FuncId) (args : List VVal) : Option (VVal × List (Id × Nat × Ob)):=vcallRW Γ h d f args (rootsW h args)
def vcopy (h : VHeap) (sz : Nat) (a x : VVal) : Option (VVal × List (Id × Nat × Ob)) :=
 match a with
 | .own id ver off len=>match h id with
  | some (v,.arr sz' xs)=>gd (v = ver) <| gd (sz' = sz) <| ob (velems h x) fun r=>gd (r.1 = sz \/ r.2 = []) <|
    some (.p (.int .i64 (min len r.2.length : Nat)),[(id,v,.arr sz (splice xs off (r.2.take (min len r.2.length))))])
  | _=>none
 | _=>none
def vclear (h : VHeap) (sz : Nat) (zero : PV) (a : VVal) : Option (VVal × List (Id × Nat × Ob)) :=
 match a with
 | .own id ver off len=>match h id with
  | some (v,.arr sz' xs)=>gd (v = ver) <| gd (sz' = sz) (some (.dead,[(id,v,.arr sz (splice xs off (List.replicate len zero)))]))
  | _=>none
 | _=>none
def unU8 : PV -> Option Int
 | .int .u8 n=>some n
 | _=>none
def bytesI (ns : List Int) : ByteArray:=⟨(ns.map fun n=>UInt8.ofNat n.toNat).toArray⟩
open Classical in
noncomputable def stillC (h : VHeap) (us : List (Id × Nat × Ob)) : Bool:=decide (∀ x ∈ us,h x.1 = some x.2)
theorem stillC_nil {h : VHeap} : stillC h [] = true:=by simp [stillC]
theorem stillC_cons {h : VHeap} {i : Id} {n : Nat} {o : Ob} {us : List (Id × Nat × Ob)} : (stillC h ((i,n,o) :: us) = true) = (h i = some (n,o) /\ stillC h us = true):=by
 simp only [stillC,decide_eq_true_eq,lfm]
noncomputable def evalOp (Γ : Sig) (look : VArg -> Option VVal) (h : VHeap) (d : Nat) : VOp -> Option (VVal × List (Id × Nat × Ob))
 | .move x=>ob (look x) fun v=>some (v,[])
 | .newArr sz=>some (.own (.slot d 0) (nv (h (.slot d 0))) 0 0,[(.slot d 0,nv (h (.slot d 0)),.arr sz [])])
 | .pick c a b=>ob (look c) fun v=>match v with
  | .p (.bool t)=>br t (ob (look a) fun v=>some (v,[])) (ob (look b) fun v=>some (v,[]))
  | _=>none
 | .alloc zero=>some (.ptr (.slot d 0) (nv (h.upds (zcells d h 0 zero).2 (.slot d 0))) 0,(zcells d h 0 zero).2 ++ [(.slot d 0,nv (h.upds (zcells d h 0 zero).2 (.slot d 0)),.box (zcells d h 0 zero).1)])
 | .box n x=>ob (look x) fun v=>gd ((vcells v).length = n) <| gd ((vcells v).all solid = true) (some (.ptr (.slot d 0) (nv (h (.slot d 0))) 0,[(.slot d 0,nv (h (.slot d 0)),.box (vcells v))]))
 | .build cells=>ob (bcells look d h 0 cells) fun r=>some (.agg r.1,r.2)
 | .buildSlice sz parts=>ob (mapO (fun x=>ob (look x) fun v=>freezeP v) parts) fun xs =>
   gd (xs.all (fun x=>decide (x.cells.length = sz)) = true) (some (.own (.slot d 0) (nv (h (.slot d 0))) 0 parts.length,[(.slot d 0,nv (h (.slot d 0)),.arr sz xs)]))
 | .buildFz sz parts=>ob (mapO (fun x=>ob (look x) fun v=>freezeP v) parts) fun xs =>
   gd (xs.all (fun x=>decide (x.cells.length = sz)) = true) (some (.p (.slice sz xs),[]))
 | .load agg a=>ob (look a) fun p=>ob (vload h agg p) fun v=>some (v,[])
 | .store n a x=>ob (look a) fun p=>ob (look x) fun v=>ob (vstore h n p v) fun us=>some (.undef,us)
 | .fieldAddr off x=>ob (look x) fun v=>match v with
  | .ptr id ver o=>some (.ptr id ver (o + off),[])
  | .vptr cs o=>some (.vptr cs (o + off),[])
  | .eptr id ver i o=>some (.eptr id ver i (o + off),[])
  | _=>none
 | .field off agg x=>ob (look x) fun v=>match v with
  | .agg cs=>ob (ofCells agg cs off) fun r=>some (r,[])
  | _=>none
 | .indexAddr sz x i=>ob (look x) fun s=>ob (look i) fun n=>match n with
  | .p (.int _ n)=>ob (vindex h sz s n) fun r=>some (r,[])
  | _=>none
 | .indexStr x i=>ob (look x) fun s=>ob (look i) fun n=>match s,n with
  | .p (.str s),.p (.int _ n)=>gd (0 <= n) (ob s[n.toNat]? fun b=>some (.p (.int .u8 b.toNat),[]))
  | _,_=>none
 | .bin op x y=>ob (look x) fun a=>ob (look y) fun b=>ob (vbin op a b) fun r=>some (r,[])
 | .eqAgg neg kts x y=>ob (look x) fun a=>ob (look y) fun b=>match a,b with
  | .agg a,.agg b=>ob (mapO unP a) fun xs=>ob (mapO unP b) fun ys=>ob (eqAll kts xs ys) fun r=>some (.p (.bool (if neg then !r else r)),[])
  | _,_=>none
 | .not x=>ob (look x) fun v=>match v with
  | .p (.bool b)=>some (.p (.bool (!b)),[])
  | _=>none
 | .neg x=>ob (look x) fun v=>match v with
  | .p (.int k n)=>some (.p (.int k (k.wrap (0 - n))),[])
  | _=>none
 | .len x=>ob (look x) fun v=>ob (vlen v) fun n=>some (.p (.int .i64 n),[])
 | .lenStr x=>ob (look x) fun v=>ob (vlenS v) fun n=>some (.p (.int .i64 n),[])
 | .eqB neg x y=>ob (look x) fun a=>ob (look y) fun b=>match a,b with
  | .p (.bool a),.p (.bool b)=>some (.p (.bool (if neg then !(a == b) else a == b)),[])
  | _,_=>none
 | .append sz bytes s x=>ob (look s) fun a=>ob (look x) fun b=>vappend h sz bytes a b
 | .appendNil sz bytes x=>ob (look x) fun b=>vappendNil d h sz bytes b
 | .slice str sz lo hi mx x=>ob (look x) fun s=>br str (vsliceS look lo hi s) (vslice d h look sz lo hi mx s)
 | .lookup ok kt zero m k=>ob (look m) fun m=>ob (look k) fun k=>ob (ventries h m) fun es=>gd (es.1 = kt \/ es.2.1 = []) <| ob (mkey kt k) fun k=>some (vlookup ok zero es.2.1 es.2.2 k,[])
 | .mapUpdate kt m k x=>ob (look m) fun m=>ob (look k) fun k=>ob (look x) fun x=>ob (mkey kt k) fun k=>ob (freezeP x) fun x=>match m with
  | .mref id ver=>match h id with
   | some (v,.map kt' ks vs)=>gd (v = ver) <| gd (kt' = kt) (some (.undef,[(id,v,.map kt (mput ks vs k x).1 (mput ks vs k x).2)]))
   | _=>none
  | _=>none
 | .makeMap kt=>some (.mref (.slot d 0) (nv (h (.slot d 0))),[(.slot d 0,nv (h (.slot d 0)),.map kt [] [])])
 | .mapLen x=>ob (look x) fun m=>ob (ventries h m) fun es=>some (.p (.int .i64 es.2.1.length),[])
 | .extract x i=>ob (look x) fun v=>match v with
  | .tup vs=>ob vs[i]? fun v=>some (v,[])
  | _=>none
 | .minmax isMax xs=>ob (mapO look xs) fun vs=>ob (minmaxI isMax vs) fun r=>some (r,[])
 | .conv k x=>ob (look x) fun v=>match v with
  | .p (.int _ n)=>some (.p (.int k (k.wrap n)),[])
  | _=>none
 | .strBytes x=>ob (look x) fun v=>match v with
  | .p (.str s)=>some (.p (.slice 1 (s.data.toList.map fun b=>.int .u8 b.toNat)),[])
  | _=>none
 | .bytesStr x=>ob (look x) fun v=>ob (velems h v) fun r=>gd (r.1 = 1) <| ob (mapO unU8 r.2) fun ns=>some (.p (.str (bytesI ns)),[])
 | .nilCheck x=>ob (look x) fun v=>match v with
  | .ptr id ver off=>some (.ptr id ver off,[])
  | .vptr cs off=>some (.vptr cs off,[])
  | .eptr id ver i off=>some (.eptr id ver i off,[])
  | .fn f caps=>some (.fn f caps,[])
  | _=>none
 | .makeFunc f caps=>ob (mapO look caps) fun cs=>some (.fn f cs,[])
 | .call f args=>ob (mapO look args) fun vs=>vcallOp Γ h d f vs
 | .callv x args=>ob (look x) fun g=>ob (mapO look args) fun vs=>match g with
  | .fn f caps=>vcallOp Γ h d f (vs ++ caps)
  | .p (.fn f)=>vcallOp Γ h d f vs
  | .p (.clo f cs)=>vcallOp Γ h d f (vs ++ cloArgs cs)
  | _=>none
 | .callW f args=>ob (mapO look args) fun vs=>vcallW Γ h d f vs
 | .callR f args=>ob (mapO look args) fun vs=>ob (vcallW Γ h d f vs) fun q=>gd (stillC h q.2 = true) (some (q.1,[]))
 | .callvW x args=>ob (look x) fun g=>ob (mapO look args) fun vs=>match g with
  | .fn f caps=>vcallW Γ h d f (vs ++ caps)
  | .p (.fn f)=>vcallW Γ h d f vs
  | .p (.clo f cs)=>vcallW Γ h d f (vs ++ cloArgs cs)
  | _=>none
 | .make sz bytes zero n=>ob (look n) fun v=>match v with
  | .p (.int _ m)=>gd (0 <= m) <| gd ((bytes : Int) * m <= 281474976710656) <| gd (m <= 9223372036854775807) <|
    some (.own (.slot d 0) (nv (h (.slot d 0))) 0 m.toNat,[(.slot d 0,nv (h (.slot d 0)),.arr sz (List.replicate m.toNat zero))])
  | _=>none
 | .copy sz a x=>ob (look a) fun a=>ob (look x) fun x=>vcopy h sz a x
 | .clear sz zero a=>ob (look a) fun a=>vclear h sz zero a
 | .unlit x=>ob (look x) fun v=>match v with
  | .p (.lit sz xs)=>some (.p (.slice sz xs),[])
  | _=>none
 | .buildLit sz parts=>ob (mapO (fun x=>ob (look x) fun v=>freezeP v) parts) fun xs =>
   gd (xs.all (fun x=>decide (x.cells.length = sz)) = true) (some (.p (.lit sz xs),[]))
 | .appendLit sz bytes s x=>ob (look s) fun a=>ob (look x) fun b=>vappendLit d h sz bytes a b
 | .range x=>ob (look x) fun v=>match v with
  | .p (.str s)=>some (.ptr (.slot d 0) (nv (h (.slot d 0))) 0,[(.slot d 0,nv (h (.slot d 0)),.iter s 0)])
  | _=>none
 | .next x=>ob (look x) fun v=>vnext h v
 | .mapEntry kt zero m k=>ob (look m) fun m=>ob (look k) fun k=>ob (mkey kt k) fun k=>match m with
  | .mref id ver=>match h id with
   | some (v,.map kt' ks vs)=>gd (v = ver) <| gd (kt' = kt) (some (.tup [thaw ((mget ks vs k).getD zero),.p (.int .i64 (kpos ks k))],[(id,v,.map kt (mput ks vs k ((mget ks vs k).getD zero)).1 (mput ks vs k ((mget ks vs k).getD zero)).2)]))
   | _=>none
  | _=>none
 | .entryStore m s x=>ob (look m) fun m=>ob (look s) fun s=>ob (look x) fun x=>ob (freezeP x) fun x=>match m,s with
  | .mref id ver,.p (.int .i64 n)=>match h id with
   | some (v,.map kt ks vs)=>gd (v = ver) <| gd (0 <= n) <| gd (n.toNat < vs.length) (some (.undef,[(id,v,.map kt ks (vs.set n.toNat x))]))
   | _=>none
  | _,_=>none
 | .buildArr sz parts=>ob (mapO (fun x=>ob (look x) fun v=>freezeP v) parts) fun xs=>gd (xs.all (fun x=>decide (x.cells.length = sz)) = true) (some (.agg ((xs.flatMap PV.cells).map .p),[]))
 | .indexArr n sz agg x i=>ob (look x) fun v=>ob (look i) fun i=>match v,i with
  | .agg cs,.p (.int _ k)=>gd (0 <= k) <| gd (k < n) <| ob (ofCells agg cs (k.toNat * sz)) fun r=>some (r,[])
  | _,_=>none
end Go.V
namespace Go.V
structure RS where
 pe : Nat -> VVal
 te : Nat -> Option VVal
 h : VHeap
def RS.look (r : RS) : VArg -> Option VVal
 | .v s=>some (r.pe s)
 | .t s=>r.te s
 | .c d=>some (thaw d)
def updV (e : Nat -> VVal) (s : Nat) (v : VVal) : Nat -> VVal:=fun t=>if t = s then v else e t
def updT (e : Nat -> Option VVal) (s : Nat) (v : VVal) : Nat -> Option VVal:=fun t=>if t = s then some v else e t
def RS.put (r : RS) : VDst -> VVal -> RS
 | .v s,v=>{ r with pe:=updV r.pe s v }
 | .t s,v=>{ r with te:=updT r.te s v }
 | .none,_=>r
def VDst.slot : VDst -> Nat
 | .v s | .t s=>s
 | .none=>0
noncomputable def stepO (Γ : Sig) (o : VOper) (r : RS) : Option RS :=
 match o.guard with
 | none=>ob (evalOp Γ r.look r.h o.dst.slot o.op) fun q=>some { r.put o.dst q.1 with h:=r.h.upds q.2 }
 | some (g,want)=>ob (r.look g) fun gv=>match gv with
  | .p (.bool b)=>br (b == want) (ob (evalOp Γ r.look r.h o.dst.slot o.op) fun q=>some { r.put o.dst q.1 with h:=r.h.upds q.2 })
   (some (r.put o.dst .undef))
  | .undef=>some (r.put o.dst .undef)
  | _=>none
def ids0 : VVal -> List Id
 | .own id _ _ _ | .ptr id _ _ | .eptr id _ _ _ | .mref id _=>[id]
 | _=>[]
def ids1 : VVal -> List Id
 | .fn _ cs | .agg cs=>cs.flatMap ids0
 | v=>ids0 v
def VOp.args : VOp -> List VArg
 | .move x | .box _ x | .load _ x | .fieldAddr _ x | .field _ _ x | .not x | .neg x | .len x | .lenStr x | .appendNil _ _ x | .mapLen x | .extract x _ | .conv _ x | .strBytes x | .bytesStr x | .nilCheck x | .make _ _ _ x | .clear _ _ x | .unlit x | .range x | .next x=>[x]
 | .newArr _ | .alloc _ | .makeMap _=>[]
 | .pick c a b=>[c,a,b]
 | .build cs=>cs.filterMap fun | .a x _ _=>some x | .z _=>none
 | .buildSlice _ ps=>ps
 | .buildFz _ ps=>ps
 | .buildLit _ ps=>ps
 | .store _ a x | .indexAddr _ a x | .indexStr a x | .bin _ a x | .eqAgg _ _ a x | .eqB _ a x | .append _ _ a x | .lookup _ _ _ a x | .copy _ a x | .appendLit _ _ a x=>[a,x]
 | .slice _ _ lo hi mx x=>x :: (lo.toList ++ hi.toList ++ mx.toList)
 | .mapUpdate _ m k x=>[m,k,x]
 | .mapEntry _ _ m k=>[m,k]
 | .entryStore m s x=>[m,s,x]
 | .buildArr _ ps=>ps
 | .indexArr _ _ _ x i=>[x,i]
 | .minmax _ xs | .makeFunc _ xs | .call _ xs | .callW _ xs | .callR _ xs=>xs
 | .callv x xs | .callvW x xs=>x :: xs
def VOp.writes : VOp -> Bool
 | .store _ _ _ | .append _ _ _ _ | .mapUpdate _ _ _ _ | .call _ _ | .callv _ _ | .callW _ _ | .callvW _ _ | .copy _ _ _ | .mapEntry _ _ _ _ | .entryStore _ _ _ | .clear _ _ _ | .next _=>true
 | _=>false
def VOp.isR : VOp -> Bool
 | .callR _ _=>true
 | _=>false
def callArgs : VOp -> List VVal -> List VVal
 | .callv _ _,.fn _ caps :: vs=>vs ++ caps
 | .callv _ _,.p (.clo _ cs) :: vs=>vs ++ cloArgs cs
 | .callv _ _,_ :: vs=>vs
 | .callvW _ _,.fn _ caps :: vs=>vs ++ caps
 | .callvW _ _,.p (.clo _ cs) :: vs=>vs ++ cloArgs cs
 | .callvW _ _,_ :: vs=>vs
 | _,vs=>vs
def callRoots (h : VHeap) : VOp -> List VVal -> List Id
 | .callW _ _,vs | .callvW _ _,vs | .callR _ _,vs=>rootsW h vs
 | _,vs=>roots h vs
def touchF (look : VArg -> Option VVal) (h : VHeap) (o : VOper) : List Id :=
 let vs:=o.op.args.filterMap look
 vs.flatMap ids1 ++ (if o.op.writes || o.op.isR then (callArgs o.op vs).flatMap ids1 ++ callRoots h o.op (callArgs o.op vs) else [])
def touch (r : RS) (o : VOper) : List Id:=touchF r.look r.h o
def Id.at : Id -> Nat -> Bool
 | .slot s _,d=>s == d
 | _,_=>false
def headFp : List Id -> List Id
 | []=>[]
 | i :: _=>[i]
def VOp.wrFp : VOp -> List Id -> List Id
 | .append _ _ _ _,t=>headFp t
 | _,t=>t
def apartFp (o o' : VOper) (t t' : List Id) : Bool :=
 (!o.op.writes || (o.op.wrFp t).all fun i=>!t'.contains i) && (!o'.op.writes || (o'.op.wrFp t').all fun i=>!t.contains i) &&
 t.all (fun i=>!i.at o'.dst.slot) && t'.all (fun i=>!i.at o.dst.slot) && o.dst.slot != o'.dst.slot
noncomputable def runOps (Γ : Sig) : List VOper -> RS -> Option RS
 | [],r=>some r
 | o :: os,r=>ob (stepO Γ o r) fun r'=>runOps Γ os r'
def checkFp (fp : List (Nat × Nat)) (i : Nat) (o : VOper) (t : List Id) : List (Nat × VOper × List Id) -> Bool
 | []=>true
 | (a,o',t') :: acc=>if fp.contains (a,i) = true then apartFp o' o t' t && checkFp fp i o t acc else checkFp fp i o t acc
def fpL (fp : List (Nat × Nat)) (i : Nat) : Bool:=fp.any fun p=>p.1 == i
def fpR (fp : List (Nat × Nat)) (i : Nat) : Bool:=fp.any fun p=>p.2 == i
def noteFp (fp : List (Nat × Nat)) (i : Nat) (o : VOper) (r : RS) (acc : List (Nat × VOper × List Id)) : List (Nat × VOper × List Id) :=
 if fpL fp i = true then (i,o,touch r o) :: acc else acc
noncomputable def runFp (Γ : Sig) (fp : List (Nat × Nat)) : Nat -> List VOper -> RS -> List (Nat × VOper × List Id) -> Option RS
 | _,[],r,_=>some r
 | i,o :: os,r,acc=>if fpR fp i = true then gd (checkFp fp i o (touch r o) acc = true) <| ob (stepO Γ o r) fun r'=>runFp Γ fp (i + 1) os r' (noteFp fp i o r acc)
   else ob (stepO Γ o r) fun r'=>runFp Γ fp (i + 1) os r' (noteFp fp i o r acc)
def fzId (fz : List Nat) : Id -> Bool
 | .slot s _=>fz.contains s
 | .arg _ _=>false
def fz0 (fz : List Nat) (h : VHeap) : VVal -> VVal
 | .own id ver off len=>if fzId fz id then
   match velems h (.own id ver off len) with
   | some r=>.p (.slice r.1 r.2)
   | none=>.dead
  else .own id ver off len
 | v=>v
def fz1 (fz : List Nat) (h : VHeap) : VVal -> VVal
 | .agg cs=>.agg (cs.map (fz0 fz h))
 | .tup vs=>.tup (vs.map (fz0 fz h))
 | v=>fz0 fz h v
def fzOb (fz : List Nat) (h : VHeap) (id : Id) : Option (Nat × Ob) :=
 match h id with
 | some (v,.arr sz xs)=>if fzId fz id then some (v + 1,.gone) else some (v,.arr sz xs)
 | some (v,.box cs)=>some (v,.box (cs.map (fz0 fz h)))
 | o=>o
def freeze (fz : List Nat) (s : St) : St:=if fz.isEmpty then s else { pe:=fun t=>fz1 fz s.h (s.pe t),h:=fzOb fz s.h }
noncomputable def execR (Γ : Sig) (r : VRegion) (s : St) : Option St :=
 ob (if r.fp.isEmpty then runOps Γ r.ops { pe:=(freeze r.fz s).pe,te:=fun _=>none,h:=(freeze r.fz s).h }
   else runFp Γ r.fp 0 r.ops { pe:=(freeze r.fz s).pe,te:=fun _=>none,h:=(freeze r.fz s).h } []) fun q=>some { pe:=q.pe,h:=q.h }
def mv0 (a b : Id) (va n : Nat) : VVal -> VVal
 | .own id ver off len=>if id = a /\ ver = va then .own b n off len else .own id ver off len
 | .eptr id ver i off=>if id = a /\ ver = va then .eptr b n i off else .eptr id ver i off
 | v=>v
def mv1 (a b : Id) (va n : Nat) : VVal -> VVal
 | .agg cs=>.agg (cs.map (mv0 a b va n))
 | .tup vs=>.tup (vs.map (mv0 a b va n))
 | v=>mv0 a b va n v
def mvOb (a b : Id) (va n sz : Nat) (xs : List PV) (h : VHeap) : VHeap:=fun id=>if id = b then some (n,.arr sz xs) else if id = a then some (va + 1,.gone) else
 match h id with
 | some (v,.box cs)=>some (v,.box (cs.map (mv0 a b va n)))
 | o=>o
def moved (a b : Id) (s : St) : St:=match s.h a with
 | some (va,.arr sz xs)=>{ pe:=fun t=>mv1 a b va (nv (s.h b)) (s.pe t),h:=mvOb a b va (nv (s.h b)) sz xs s.h }
 | _=>s
def iterN (b : St -> Option (VExit × St)) : Nat -> St -> Option (VExit × St)
 | 0,_=>none
 | n + 1,s=>ob (b s) fun r=>match r.1 with
  | .normal=>iterN b n r.2
  | _=>some r
open Classical in
noncomputable def iter (b : St -> Option (VExit × St)) (s : St) : Option (VExit × St) :=
 if h : ∃ n r,iterN b n s = some r then some (Classical.choose (Classical.choose_spec h)) else none
noncomputable def exec (Γ : Sig) : VCode -> St -> Option (VExit × St)
 | .skip,s=>some (.normal,s)
 | .region r,s=>ob (execR Γ r s) fun s'=>some (.normal,s')
 | .seq a b,s=>ob (exec Γ a s) fun r=>match r.1 with
  | .normal=>exec Γ b r.2
  | _=>some r
 | .cond c a b,s=>match c with
  | .v t=>match s.pe t with
   | .p (.bool c)=>br c (exec Γ a s) (exec Γ b s)
   | _=>none
  | _=>none
 | .block id c,s=>ob (exec Γ c s) fun r=>if r.1 = .exit id then some (.normal,r.2) else some r
 | .loop c,s=>iter (exec Γ c) s
 | .exit id,s=>some (.exit id,s)
 | .ret,s=>some (.ret,s)
 | .mv a b c,s=>exec Γ c (moved a b s)
 | .scope c,s=>exec Γ c s
 | .fail,_=>none
def enterE (args : List VVal) : Nat -> VVal:=fun s=>args.getD s .undef
def enterH (H : List Ob) : VHeap:=fun id=>match id with
 | .arg i 0=>(H[i]?).map fun o=>(0,o)
 | _=>none
def fetch (s : St) : VRet -> Option VVal
 | .tmp (.v t)=>some (s.pe t)
 | .cell (.v t) agg=>vload s.h agg (s.pe t)
 | _=>none
def outCap (h : VHeap) : VVal -> Option PV
 | .ptr (.slot s j) ver 0=>match h (.slot s j) with
  | some (v,.box cs)=>gd (v = ver) (ob (mapO unP cs) fun ds=>some (.agg ds))
  | _=>none
 | _=>none
def out0 (h : VHeap) : VVal -> Option VVal
 | .p d=>some (.p d)
 | .own (.slot s j) ver off len=>ob (velems h (.own (.slot s j) ver off len)) fun r=>gd (off = 0) (some (.fresh r.1 r.2))
 | .mref (.slot s j) ver=>ob (ventries h (.mref (.slot s j) ver)) fun r=>some (.p (.map r.1 r.2.1 r.2.2))
 | .ptr (.arg i 0) ver off=>gd (ver = 0) (some (.ptr (.arg i 0) 0 off))
 | .fn f []=>some (.p (.fn f))
 | .fn f (c :: cs)=>ob (mapO (outCap h) (c :: cs)) fun ds=>some (.p (.clo f ds))
 | _=>none
def out1 (h : VHeap) : VVal -> Option VVal
 | .agg cs=>ob (mapO (out0 h) cs) fun cs=>some (.agg cs)
 | .ptr (.slot s j) ver 0=>match h (.slot s j) with
  | some (v,.box cs)=>gd (v = ver) (ob (mapO (out0 h) cs) fun cs=>some (.boxed cs))
  | _=>none
 | v=>out0 h v
def nodupB : List Id -> Bool
 | []=>true
 | i :: is=>!is.contains i && nodupB is
def ownIds0 : VVal -> List Id
 | .own id _ _ _=>[id]
 | _=>[]
def ownIds1 (h : VHeap) : VVal -> List Id
 | .agg cs=>cs.flatMap ownIds0
 | .ptr id _ _=>match h id with
  | some (_,.box cs)=>id :: cs.flatMap ownIds0
  | _=>[id]
 | v=>ownIds0 v
def capIds0 : VVal -> List Id
 | .fn _ cs=>cs.flatMap ids0
 | _=>[]
def capIds1 (h : VHeap) : VVal -> List Id
 | .agg cs=>cs.flatMap capIds0
 | .ptr id _ _=>match h id with
  | some (_,.box cs)=>cs.flatMap capIds0
  | _=>[]
 | v=>capIds0 v
def outW0 (h : VHeap) : VVal -> Option VVal
 | .own (.arg i 0) ver off len=>gd (alive h (.arg i 0) ver = true) (some (.own (.arg i 0) (if ver = 0 then 0 else 1) off len))
 | v=>out0 h v
def outO (h : VHeap) : VVal -> Option VVal
 | .agg cs=>ob (mapO (outW0 h) cs) fun cs=>some (.agg cs)
 | .own (.arg i 0) ver off len=>gd (alive h (.arg i 0) ver = true) (some (.own (.arg i 0) (if ver = 0 then 0 else 1) off len))
 | v=>out1 h v
def outsT (h : VHeap) : List VVal -> Option VVal
 | [v]=>outO h v
 | vs=>ob (mapO (out1 h) vs) fun vs=>some (.tup vs)
def newIds0 : VVal -> List Id
 | .own (.slot s j) _ _ _=>[.slot s j]
 | _=>[]
def argOwns (h : VHeap) : Nat -> Nat -> List Id
 | _,0=>[]
 | i,n + 1=>(match h (.arg i 0) with
  | some (_,.box cs)=>cs.flatMap newIds0
  | _=>[]) ++ argOwns h (i + 1) n
def capsApart (h : VHeap) (n : Nat) (vs : List VVal) : Bool:=(vs.flatMap (capIds1 h)).all fun i=>!(vs.flatMap (ownIds1 h) ++ argOwns h 0 n).contains i
def outs (h : VHeap) (n : Nat) (vs : List VVal) : Option VVal:=gd (nodupB (vs.flatMap (ownIds1 h) ++ argOwns h 0 n) = true) (gd (capsApart h n vs = true) (outsT h vs))
def outArg1 (h : VHeap) : VVal -> Option VVal
 | .p d=>some (.p d)
 | .ptr (.arg i 0) ver off=>gd (ver = 0) (some (.ptr (.arg i 0) 0 off))
 | .own (.arg i 0) ver off len=>gd (alive h (.arg i 0) ver = true) (some (.own (.arg i 0) (if ver = 0 then 0 else 1) off len))
 | .own (.slot s j) ver off len=>ob (velems h (.own (.slot s j) ver off len)) fun r=>gd (off = 0) (some (.fresh r.1 r.2))
 | .mref (.arg i 0) ver=>gd (ver = 0) (some (.mref (.arg i 0) 0))
 | _=>none
def outArg (h : VHeap) : VVal -> Option VVal
 | .fn f caps=>ob (mapO (outArg1 h) caps) fun cs=>some (.fn f cs)
 | v=>outArg1 h v
def outBox (h : VHeap) (i : Nat) : Option Ob :=
 match h (.arg i 0) with
 | some (v,.box cs)=>gd (v = 0) (ob (mapO (outArg h) cs) fun cs=>some (.box cs))
 | some (v,.arr sz xs)=>some (if v = 0 then .arr sz xs else .box [.undef,.fresh sz xs])
 | some (v,.map kt ks vs)=>gd (v = 0) (some (.map kt ks vs))
 | _=>none
def outH (h : VHeap) : Nat -> Nat -> Option (List Ob)
 | _,0=>some []
 | i,n + 1=>ob (outBox h i) fun o=>ob (outH h (i + 1) n) fun os=>some (o :: os)
def leave (rets : List VRet) (n : Nat) (r : VExit × St) : Option (VVal × List Ob) :=
 match r.1 with
 | .exit _=>none
 | _=>ob (mapO (fetch r.2) rets) fun vs=>ob (outs r.2.h n vs) fun v=>ob (outH r.2.h 0 n) fun H'=>some (v,H')
noncomputable def callF (Γ : Sig) (vf : VFunc) (args : List VVal) (H : List Ob) : Option (VVal × List Ob) :=
 gd (args.length = vf.nparams) <|
  ob (exec Γ vf.body { pe:=enterE args,h:=enterH H }) fun r=>leave vf.rets H.length r
noncomputable def callN (prog : FuncId -> Option VFunc) (X : Sig) : Nat -> Sig
 | 0=>X
 | n + 1=>fun f args H=>match X f args H with
  | some r=>some r
  | none=>match prog f with
   | some vf=>callF (callN prog X n) vf args H
   | none=>none
open Classical in
noncomputable def vcall (prog : FuncId -> Option VFunc) (X : Sig) : Sig:=fun f args H =>
 if h : ∃ n r,callN prog X n f args H = some r then some (Classical.choose (Classical.choose_spec h)) else none
end Go.V
namespace Go.V
def vb3 : VCode:=.seq (rg [oV 6 (.move cF)]) (.seq (.seq (rg [oM 17 0,oC 18 7 [.t 17],oV 19 (.not (.t 18))]) (.cond (.v 19) (.seq (rg [oC 20 8 [],oN 6 20]) .ret) .skip)) (.seq (rg [oM 21 0,oC 22 9 [.t 21],oC 23 10 [.t 22],oV 7 (.alloc [.c (.int .i64 0),.c (.int .i64 0),.c (.int .i64 0),.c (.int .i64 0),.c (.int .i64 0),.c (.int .i64 0),.c (.int .i64 0),.nil 1,.nil 1,.c (.int .i64 0),.c (.int .i64 0),.c (.int .i64 0),.c (.int .i64 0),.c (.int .i64 0),.c (.int .i64 0),.c (.bool false),.nil 7]),oS 17 7 23]) (.seq (rg [oM 24 1,oT 25 (.conv .i64 (.t 24)),oT 26 (.bin .add (cI 1) (.t 25)),oM 27 2,oT 28 (.conv .i64 (.t 27)),oT 29 (.bin .add (cI 1) (.t 28)),oN 8 26,oN 9 29]) (.seq (.region ⟨[oK 31 17 7,oM 32 8,oC 33 12 [.t 32],oT 34 (.bin .add (.t 33) (.c (.str ⟨#[32]⟩))),oM 35 9,oC 36 12 [.t 35],oT 37 (.bin .add (.t 34) (.t 36)),oT 38 (.call 11 [.t 31,.c (.str ⟨#[99,112,117,46,109,97,120]⟩),.t 37]),oP 30 38,oE 39 30 0,oE 40 30 1,oV 10 (.alloc [.c (.int .i64 0),.c (.int .i64 0),.c (.int .i64 0),.c (.int .i64 0),.c (.int .i64 0),.c (.int .i64 0),.c (.int .i64 0),.nil 1,.nil 1,.c (.int .i64 0),.c (.int .i64 0),.c (.int .i64 0),.c (.int .i64 0),.c (.int .i64 0),.c (.int .i64 0),.c (.bool false),.nil 7]),oS 17 10 39,oN 11 40],[],[(0,2),(0,5),(0,11),(2,11),(5,11),(7,11)]⟩) (.seq (.region ⟨[oK 42 17 7,oM 43 8,oC 44 12 [.t 43],oT 45 (.call 11 [.t 42,.c (.str ⟨#[99,112,117,46,109,97,120]⟩),.t 44]),oP 41 45,oE 46 41 0,oE 47 41 1,oV 12 (.alloc [.c (.int .i64 0),.c (.int .i64 0),.c (.int .i64 0),.c (.int .i64 0),.c (.int .i64 0),.c (.int .i64 0),.c (.int .i64 0),.nil 1,.nil 1,.c (.int .i64 0),.c (.int .i64 0),.c (.int .i64 0),.c (.int .i64 0),.c (.int .i64 0),.c (.int .i64 0),.c (.bool false),.nil 7]),oS 17 12 46,oN 13 47],[],[(0,2),(0,7),(2,7),(3,7)]⟩) (.seq (rg [oK 49 17 7,oT 50 (.call 11 [.t 49,.c (.str ⟨#[99,112,117,46,109,97,120]⟩),.c (.str ⟨#[109,97,120]⟩)]),oP 48 50,oE 51 48 0,oE 52 48 1,oV 14 (.alloc [.c (.int .i64 0),.c (.int .i64 0),.c (.int .i64 0),.c (.int .i64 0),.c (.int .i64 0),.c (.int .i64 0),.c (.int .i64 0),.nil 1,.nil 1,.c (.int .i64 0),.c (.int .i64 0),.c (.int .i64 0),.c (.int .i64 0),.c (.int .i64 0),.c (.int .i64 0),.c (.bool false),.nil 7]),oS 17 14 51,oN 15 52]) (.seq (.seq (rg [oM 53 11,oT 54 (.bin .neq (.t 53) (cI 0)),oP 55 54,gM 56 13 55 false,oG 57 (.bin .neq (.t 56) (cI 0)) 55 false,oO 58 55 57,oP 59 58,gM 60 15 59 false,oG 61 (.bin .neq (.t 60) (cI 0)) 59 false,oO 62 59 61,oP 63 62,gF 64 2 10 63 false,gL 65 64 63 false,gM 66 8 63 false,oG 67 (.bin .neq (.t 65) (.t 66)) 63 false,oO 68 63 67,oP 69 68,gF 70 3 10 69 false,gL 71 70 69 false,gM 72 9 69 false,oG 73 (.bin .neq (.t 71) (.t 72)) 69 false,oO 74 69 73,oP 75 74,gF 76 2 12 75 false,gL 77 76 75 false,gM 78 8 75 false,oG 79 (.bin .neq (.t 77) (.t 78)) 75 false,oO 80 75 79,oP 81 80,gF 82 3 12 81 false,gL 83 82 81 false,gF 84 3 7 81 false,gL 85 84 81 false,oG 86 (.bin .neq (.t 83) (.t 85)) 81 false,oO 87 81 86,oP 88 87,gF 89 2 14 88 false,gL 90 89 88 false,oG 91 (.bin .neq (.t 90) (cI 4611686018427387904)) 88 false,oO 92 88 91,oP 93 92,gF 94 4 14 93 false,gL 95 94 93 false,oG 96 (.bin .neq (.t 95) (cI 0)) 93 false,oV 97 (.pick (.t 93) cT (.t 96))]) (.cond (.v 97) (.seq (rg [oV 6 (.move cF)]) .ret) .skip)) (.seq (rg [oF 98 4 7,oL 99 98,oN 16 99]) (.seq (.seq (rg [oM 100 16,oM 101 8,oV 102 (.bin .gtr (.t 100) (.t 101))]) (.cond (.v 102) (rg [oJ 16 0]) .skip)) (.seq (rg [oF 103 4 10,oL 104 103,oM 105 16,oT 106 (.bin .eql (.t 104) (.t 105)),oP 107 106,gF 108 4 12 107 true,gL 109 108 107 true,gM 110 16 107 true,oG 111 (.bin .eql (.t 109) (.t 110)) 107 true,oB 112 107 111,oP 113 112,oG 114 (.load (some 17) (.v 10)) 113 true,oG 115 (.call 13 [.t 114]) 113 true,oB 116 113 115,oP 117 116,oG 118 (.load (some 17) (.v 12)) 117 true,oG 119 (.call 13 [.t 118]) 117 true,oB 120 117 119,oP 121 120,oG 122 (.load (some 17) (.v 14)) 121 true,oG 123 (.call 13 [.t 122]) 121 true,oB 124 121 123,oP 125 124,oG 126 (.call 8 []) 125 true,oB 127 125 126,oN 6 127]) .ret))))))))))
def vf3 : VFunc:={ vs:=[0,1,2,6,7,8,9,10,11,12,13,14,15,16,19,97,102],nparams:=3,rets:=[.tmp (.v 6)],body:=vb3 }
def vb4 : VCode:=.seq (rg [oV 2 (.move cF)]) (.seq (.seq (rg [oM 14 0,oC 15 7 [.t 14],oV 16 (.not (.t 15))]) (.cond (.v 16) (.seq (rg [oC 17 8 [],oN 2 17]) .ret) .skip)) (.seq (rg [oM 18 0,oC 19 9 [.t 18],oN 3 19]) (.seq (rg [oM 20 3,oC 21 10 [.t 20],oV 4 (.alloc [.c (.int .i64 0),.c (.int .i64 0),.c (.int .i64 0),.c (.int .i64 0),.c (.int .i64 0),.c (.int .i64 0),.c (.int .i64 0),.nil 1,.nil 1,.c (.int .i64 0),.c (.int .i64 0),.c (.int .i64 0),.c (.int .i64 0),.c (.int .i64 0),.c (.int .i64 0),.c (.bool false),.nil 7]),oS 17 4 21]) (.seq (rg [oM 22 3,oC 23 14 [.t 22],oN 5 23]) (.seq (.region ⟨[oK 25 17 4,oM 26 5,oM 27 3,oC 28 15 [.t 27],oC 29 11 [.t 25,.t 26,.t 28],oP 24 29,oE 30 24 0,oE 31 24 1,oV 6 (.alloc [.c (.int .i64 0),.c (.int .i64 0),.c (.int .i64 0),.c (.int .i64 0),.c (.int .i64 0),.c (.int .i64 0),.c (.int .i64 0),.nil 1,.nil 1,.c (.int .i64 0),.c (.int .i64 0),.c (.int .i64 0),.c (.int .i64 0),.c (.int .i64 0),.c (.int .i64 0),.c (.bool false),.nil 7]),oS 17 6 30,oN 7 31],[],[(0,3),(0,8),(3,8),(4,8)]⟩) (.seq (.seq (rg [oM 32 7,oV 33 (.bin .neq (.t 32) (cI 0))]) (.cond (.v 33) (.seq (rg [oC 34 8 [],oN 2 34]) .ret) .skip)) (.seq (.seq (rg [oV 35 (.call 16 [.c (.bool false),.c (.int .i64 31)]),oV 36 (.len (.v 35)),oJ 37 0]) (.block 0 (.loop (.seq (rg [oV 38 (.bin .lss (.v 37) (.v 36))]) (.seq (.cond (.v 38) .skip (.exit 0)) (.seq (.block 1 (.seq (rg [oT 39 (.indexAddr 1 (.v 35) (.v 37)),oL 40 39,oN 9 40]) (.seq (rg [oK 42 17 4,oM 43 9,oC 44 17 [.t 42,.t 43],oP 41 44,oE 45 41 0,oE 46 41 1,oN 10 45,oN 11 46]) (.seq (rg [oK 48 17 6,oM 49 9,oC 50 17 [.t 48,.t 49],oP 47 50,oE 51 47 0,oE 52 47 1,oN 12 51,oN 13 52]) (.seq (rg [oM 53 11,oT 54 (.bin .neq (.t 53) (cI 0)),oP 55 54,gM 56 13 55 false,oG 57 (.bin .neq (.t 56) (cI 0)) 55 false,oO 58 55 57,oP 59 58,gM 60 10 59 false,gM 61 12 59 false,oG 62 (.bin .neq (.t 60) (.t 61)) 59 false,oG 63 (.move (.t 62)) 59 false,gM 64 9 63 true,gM 65 5 63 true,oG 66 (.bin .neq (.t 64) (.t 65)) 63 true,oG 67 (.pick (.t 63) (.t 66) cF) 59 false,oG 68 (.move (.t 67)) 59 false,gM 69 5 68 true,oG 70 (.bin .eql (.t 69) (.c (.str ⟨#[99,112,117,46,109,97,120]⟩))) 68 true,oG 71 (.move (.t 70)) 68 true,gM 72 9 71 true,oG 73 (.bin .eql (.t 72) (.c (.str ⟨#[99,112,117,46,109,97,120,46,98,117,114,115,116]⟩))) 71 true,oG 74 (.pick (.t 71) (.t 73) cF) 68 true,oG 75 (.move (.t 74)) 68 true,gM 76 12 75 true,oG 77 (.bin .eql (.t 76) (.c (.str ⟨#[48,10]⟩))) 75 true,oG 78 (.pick (.t 75) (.t 77) cF) 68 true,oG 79 (.not (.t 78)) 68 true,oG 80 (.pick (.t 68) (.t 79) cF) 59 false,oV 81 (.pick (.t 59) cT (.t 80))]) (.cond (.v 81) (.seq (rg [oV 2 (.move cF)]) .ret) .skip)))))) (rg [oT 82 (.bin .add (.v 37) (cI 1)),oN 37 82]))))))) (.seq (rg [oK 83 17 6,oC 84 13 [.t 83],oP 85 84,oG 86 (.call 8 []) 85 true,oB 87 85 86,oN 2 87]) .ret))))))))
def vf4 : VFunc:={ vs:=[0,2,3,4,5,6,7,9,10,11,12,13,16,33,35,36,37,38,81],nparams:=1,rets:=[.tmp (.v 2)],body:=vb4 }
def vb5 : VCode:=.seq (rg [oV 4 (.move cF)]) (.seq (.seq (rg [oM 22 0,oC 23 7 [.t 22],oV 24 (.not (.t 23))]) (.cond (.v 24) (.seq (rg [oC 25 8 [],oN 4 25]) .ret) .skip)) (.seq (rg [oM 26 0,oC 27 9 [.t 26],oC 28 10 [.t 27],oV 5 (.alloc [.c (.int .i64 0),.c (.int .i64 0),.c (.int .i64 0),.c (.int .i64 0),.c (.int .i64 0),.c (.int .i64 0),.c (.int .i64 0),.nil 1,.nil 1,.c (.int .i64 0),.c (.int .i64 0),.c (.int .i64 0),.c (.int .i64 0),.c (.int .i64 0),.c (.int .i64 0),.c (.bool false),.nil 7]),oS 17 5 28]) (.seq (rg [oM 29 1,oT 30 (.conv .i64 (.t 29)),oT 31 (.bin .rem (.t 30) (cI 900)),oT 32 (.bin .add (cI 1) (.t 31)),oN 6 32]) (.seq (.seq (rg [oV 33 (.buildSlice 1 [.c (.str ⟨#[112,105,100,115,46,109,97,120]⟩),.c (.str ⟨#[99,112,117,46,119,101,105,103,104,116]⟩)]),oV 34 (.len (.v 33)),oJ 35 0]) (.block 0 (.loop (.seq (.region ⟨[oV 36 (.bin .lss (.v 35) (.v 34))],[10,12,45,54],[]⟩) (.seq (.cond (.v 36) .skip (.exit 0)) (.seq (.block 1 (.seq (rg [oT 37 (.indexAddr 1 (.v 33) (.v 35)),oL 38 37,oN 8 38]) (.seq (rg [oM 39 6,oC 40 12 [.t 39],oN 9 40]) (.seq (rg [oK 42 17 5,oM 43 8,oM 44 9,oC 45 11 [.t 42,.t 43,.t 44],oP 41 45,oE 46 41 0,oE 47 41 1,oV 10 (.alloc [.c (.int .i64 0),.c (.int .i64 0),.c (.int .i64 0),.c (.int .i64 0),.c (.int .i64 0),.c (.int .i64 0),.c (.int .i64 0),.nil 1,.nil 1,.c (.int .i64 0),.c (.int .i64 0),.c (.int .i64 0),.c (.int .i64 0),.c (.int .i64 0),.c (.int .i64 0),.c (.bool false),.nil 7]),oS 17 10 46,oN 11 47]) (.seq (rg [oK 49 17 5,oM 50 8,oM 51 9,oT 52 (.bin .add (.c (.str ⟨#[48]⟩)) (.t 51)),oT 53 (.bin .add (.t 52) (.c (.str ⟨#[10]⟩))),oC 54 11 [.t 49,.t 50,.t 53],oP 48 54,oE 55 48 0,oE 56 48 1,oV 12 (.alloc [.c (.int .i64 0),.c (.int .i64 0),.c (.int .i64 0),.c (.int .i64 0),.c (.int .i64 0),.c (.int .i64 0),.c (.int .i64 0),.nil 1,.nil 1,.c (.int .i64 0),.c (.int .i64 0),.c (.int .i64 0),.c (.int .i64 0),.c (.int .i64 0),.c (.int .i64 0),.c (.bool false),.nil 7]),oS 17 12 55,oN 13 56]) (.seq (rg [oK 58 17 10,oM 59 8,oC 60 17 [.t 58,.t 59],oP 57 60,oE 61 57 0,oE 62 57 1,oN 14 61,oN 15 62]) (.seq (rg [oM 63 11,oT 64 (.bin .neq (.t 63) (cI 0)),oP 65 64,gM 66 13 65 false,oG 67 (.bin .neq (.t 66) (cI 0)) 65 false,oO 68 65 67,oP 69 68,gM 70 15 69 false,oG 71 (.bin .neq (.t 70) (cI 0)) 69 false,oO 72 69 71,oP 73 72,oG 74 (.load (some 17) (.v 10)) 73 false,oG 75 (.load (some 17) (.v 12)) 73 false,oG 76 (.call 18 [.t 74,.t 75]) 73 false,oG 77 (.not (.t 76)) 73 false,oO 78 73 77,oP 79 78,gM 80 14 79 false,gM 81 9 79 false,oG 82 (.bin .add (.t 81) (.c (.str ⟨#[10]⟩))) 79 false,oG 83 (.bin .neq (.t 80) (.t 82)) 79 false,oV 84 (.pick (.t 79) cT (.t 83))]) (.cond (.v 84) (.seq (rg [oV 4 (.move cF)]) .ret) .skip)))))))) (rg [oT 85 (.bin .add (.v 35) (cI 1)),oN 35 85]))))))) (.seq (.region ⟨[oK 87 17 5,oM 88 6,oC 89 12 [.t 88],oT 90 (.bin .add (.t 89) (.c (.str ⟨#[75]⟩))),oT 91 (.call 11 [.t 87,.c (.str ⟨#[112,105,100,115,46,109,97,120]⟩),.t 90]),oP 86 91,oE 92 86 0,oE 93 86 1,oV 16 (.alloc [.c (.int .i64 0),.c (.int .i64 0),.c (.int .i64 0),.c (.int .i64 0),.c (.int .i64 0),.c (.int .i64 0),.c (.int .i64 0),.nil 1,.nil 1,.c (.int .i64 0),.c (.int .i64 0),.c (.int .i64 0),.c (.int .i64 0),.c (.int .i64 0),.c (.int .i64 0),.c (.bool false),.nil 7]),oS 17 16 92,oN 17 93],[],[(0,2),(0,8),(2,8),(4,8)]⟩) (.seq (rg [oK 95 17 5,oT 96 (.call 11 [.t 95,.c (.str ⟨#[99,112,117,115,101,116,46,99,112,117,115]⟩),.c (.str ⟨#[51,44,49,45,50,44,48]⟩)]),oP 94 96,oE 97 94 0,oE 98 94 1,oV 18 (.alloc [.c (.int .i64 0),.c (.int .i64 0),.c (.int .i64 0),.c (.int .i64 0),.c (.int .i64 0),.c (.int .i64 0),.c (.int .i64 0),.nil 1,.nil 1,.c (.int .i64 0),.c (.int .i64 0),.c (.int .i64 0),.c (.int .i64 0),.c (.int .i64 0),.c (.int .i64 0),.c (.bool false),.nil 7]),oS 17 18 97,oN 19 98]) (.seq (rg [oK 100 17 18,oT 101 (.call 17 [.t 100,.c (.str ⟨#[99,112,117,115,101,116,46,99,112,117,115]⟩)]),oP 99 101,oE 102 99 0,oE 103 99 1,oN 20 102,oN 21 103]) (.seq (rg [oM 104 17,oT 105 (.bin .eql (.t 104) (cI 0)),oP 106 105,gF 107 0 16 106 true,gL 108 107 106 true,gM 109 6 106 true,oG 110 (.bin .mul (cI 1024) (.t 109)) 106 true,oG 111 (.bin .eql (.t 108) (.t 110)) 106 true,oB 112 106 111,oP 113 112,gM 114 19 113 true,oG 115 (.bin .eql (.t 114) (cI 0)) 113 true,oB 116 113 115,oP 117 116,gM 118 21 117 true,oG 119 (.bin .eql (.t 118) (cI 0)) 117 true,oB 120 117 119,oP 121 120,gM 122 20 121 true,oG 123 (.bin .eql (.t 122) (.c (.str ⟨#[48,45,51,10]⟩))) 121 true,oB 124 121 123,oP 125 124,oG 126 (.call 8 []) 125 true,oB 127 125 126,oN 4 127]) .ret))))))))
def vf5 : VFunc:={ vs:=[0,1,4,5,6,8,9,10,11,12,13,14,15,16,17,18,19,20,21,24,33,34,35,36,84],nparams:=2,rets:=[.tmp (.v 4)],body:=vb5 }
def vb6 : VCode:=.seq (rg [oV 2 (.move cF)]) (.seq (.seq (rg [oM 12 0,oC 13 7 [.t 12],oV 14 (.not (.t 13))]) (.cond (.v 14) (.seq (rg [oC 15 8 [],oN 2 15]) .ret) .skip)) (.seq (rg [oM 16 0,oC 17 9 [.t 16],oC 18 10 [.t 17],oV 3 (.alloc [.c (.int .i64 0),.c (.int .i64 0),.c (.int .i64 0),.c (.int .i64 0),.c (.int .i64 0),.c (.int .i64 0),.c (.int .i64 0),.nil 1,.nil 1,.c (.int .i64 0),.c (.int .i64 0),.c (.int .i64 0),.c (.int .i64 0),.c (.int .i64 0),.c (.int .i64 0),.c (.bool false),.nil 7]),oS 17 3 18]) (.seq (.seq (rg [oV 19 (.call 19 [.c (.bool false),.c (.int .i64 31)]),oV 20 (.len (.v 19)),oJ 21 0]) (.block 0 (.loop (.seq (.region ⟨[oV 22 (.bin .lss (.v 21) (.v 20))],[8,10,35,43],[]⟩) (.seq (.cond (.v 22) .skip (.exit 0)) (.seq (.block 1 (.seq (rg [oT 23 (.indexAddr 1 (.v 19) (.v 21)),oL 24 23,oN 5 24]) (.seq (rg [oK 26 17 3,oM 27 5,oC 28 17 [.t 26,.t 27],oP 25 28,oE 29 25 0,oE 30 25 1,oN 6 29,oN 7 30]) (.seq (rg [oK 32 17 3,oM 33 5,oM 34 6,oC 35 11 [.t 32,.t 33,.t 34],oP 31 35,oE 36 31 0,oE 37 31 1,oV 8 (.alloc [.c (.int .i64 0),.c (.int .i64 0),.c (.int .i64 0),.c (.int .i64 0),.c (.int .i64 0),.c (.int .i64 0),.c (.int .i64 0),.nil 1,.nil 1,.c (.int .i64 0),.c (.int .i64 0),.c (.int .i64 0),.c (.int .i64 0),.c (.int .i64 0),.c (.int .i64 0),.c (.bool false),.nil 7]),oS 17 8 36,oN 9 37]) (.seq (.region ⟨[oK 39 17 3,oM 40 5,oM 41 6,oC 42 20 [.t 41],oC 43 11 [.t 39,.t 40,.t 42],oP 38 43,oE 44 38 0,oE 45 38 1,oV 10 (.alloc [.c (.int .i64 0),.c (.int .i64 0),.c (.int .i64 0),.c (.int .i64 0),.c (.int .i64 0),.c (.int .i64 0),.c (.int .i64 0),.nil 1,.nil 1,.c (.int .i64 0),.c (.int .i64 0),.c (.int .i64 0),.c (.int .i64 0),.c (.int .i64 0),.c (.int .i64 0),.c (.bool false),.nil 7]),oS 17 10 44,oN 11 45],[],[(0,3),(0,8),(3,8),(4,8)]⟩) (.seq (rg [oM 46 7,oT 47 (.bin .neq (.t 46) (cI 0)),oP 48 47,gM 49 9 48 false,oG 50 (.bin .neq (.t 49) (cI 0)) 48 false,oO 51 48 50,oP 52 51,gM 53 11 52 false,oG 54 (.bin .neq (.t 53) (cI 0)) 52 false,oO 55 52 54,oP 56 55,oG 57 (.load (some 17) (.v 8)) 56 false,oG 58 (.load (some 17) (.v 3)) 56 false,oG 59 (.call 18 [.t 57,.t 58]) 56 false,oG 60 (.not (.t 59)) 56 false,oO 61 56 60,oP 62 61,oG 63 (.load (some 17) (.v 10)) 62 false,oG 64 (.load (some 17) (.v 3)) 62 false,oG 65 (.call 18 [.t 63,.t 64]) 62 false,oG 66 (.not (.t 65)) 62 false,oV 67 (.pick (.t 62) cT (.t 66))]) (.cond (.v 67) (.seq (rg [oV 2 (.move cF)]) .ret) .skip))))))) (rg [oT 68 (.bin .add (.v 21) (cI 1)),oN 21 68]))))))) (.seq (rg [oC 69 19 [.c (.bool false),.c (.int .i64 31)],oY 70 69,oT 71 (.bin .eql (.t 70) (cI 9)),oP 72 71,oG 73 (.call 8 []) 72 true,oB 74 72 73,oN 2 74]) .ret))))
def vf6 : VFunc:={ vs:=[0,2,3,5,6,7,8,9,10,11,14,19,20,21,22,67],nparams:=1,rets:=[.tmp (.v 2)],body:=vb6 }
def vb7 : VCode:=.seq (rg [oV 2 (.move cF)]) (.seq (rg [oM 3 0,oY 4 3,oT 5 (.bin .leq (.t 4) (cI 600)),oN 2 5]) .ret)
def vf7 : VFunc:={ vs:=[0,2],nparams:=1,rets:=[.tmp (.v 2)],body:=vb7 }
def vb8 : VCode:=.seq (rg [oV 0 (.move cF)]) (.seq (rg [oC 6 21 [],oT 7 (.call 11 [.t 6,.c (.str ⟨#[99,112,117,46,109,97,120]⟩),.c (.str ⟨#[53,48,48,48,48]⟩)]),oP 5 7,oE 8 5 0,oE 9 5 1,oV 1 (.alloc [.c (.int .i64 0),.c (.int .i64 0),.c (.int .i64 0),.c (.int .i64 0),.c (.int .i64 0),.c (.int .i64 0),.c (.int .i64 0),.nil 1,.nil 1,.c (.int .i64 0),.c (.int .i64 0),.c (.int .i64 0),.c (.int .i64 0),.c (.int .i64 0),.c (.int .i64 0),.c (.bool false),.nil 7]),oS 17 1 8,oN 2 9]) (.seq (rg [oK 11 17 1,oT 12 (.call 17 [.t 11,.c (.str ⟨#[99,112,117,46,109,97,120]⟩)]),oP 10 12,oE 13 10 0,oE 14 10 1,oN 3 13,oN 4 14]) (.seq (rg [oM 15 2,oT 16 (.bin .eql (.t 15) (cI 0)),oP 17 16,gM 18 4 17 true,oG 19 (.bin .eql (.t 18) (cI 0)) 17 true,oB 20 17 19,oP 21 20,gM 22 3 21 true,oG 23 (.bin .eql (.t 22) (.c (.str ⟨#[53,48,48,48,48,32,49,48,48,48,48,48,10]⟩))) 21 true,oB 24 21 23,oP 25 24,gF 26 3 1 25 true,gL 27 26 25 true,oG 28 (.bin .eql (.t 27) (cI 100000)) 25 true,oB 29 25 28,oN 0 29]) .ret)))
def vf8 : VFunc:={ vs:=[0,1,2,3,4],nparams:=0,rets:=[.tmp (.v 0)],body:=vb8 }
def vb9 : VCode:=.seq (rg [oV 2 (.move (.c (.nilp)))]) (.seq (rg [oM 3 0,oT 4 (.build [.a (.t 3) 0 1,.z (.c (.int .i64 0))]),oT 5 (.box 2 (.t 4)),oN 2 5]) .ret)
def vf9 : VFunc:={ vs:=[0,2],nparams:=1,rets:=[.tmp (.v 2)],body:=vb9 }
def vb10 : VCode:=.seq (rg [oV 2 (.alloc [.c (.int .i64 0),.c (.int .i64 0),.c (.int .i64 0),.c (.int .i64 0),.c (.int .i64 0),.c (.int .i64 0),.c (.int .i64 0),.nil 1,.nil 1,.c (.int .i64 0),.c (.int .i64 0),.c (.int .i64 0),.c (.int .i64 0),.c (.int .i64 0),.c (.int .i64 0),.c (.bool false),.nil 7])]) (.seq (rg [oC 4 21 [],oV 3 (.alloc [.c (.int .i64 0),.c (.int .i64 0),.c (.int .i64 0),.c (.int .i64 0),.c (.int .i64 0),.c (.int .i64 0),.c (.int .i64 0),.nil 1,.nil 1,.c (.int .i64 0),.c (.int .i64 0),.c (.int .i64 0),.c (.int .i64 0),.c (.int .i64 0),.c (.int .i64 0),.c (.bool false),.nil 7]),oS 17 3 4]) (.seq (.seq (.region ⟨[oM 5 0,oV 6 (.call 22 [.t 5,.c (.int .i64 2)])],[4],[]⟩) (.cond (.v 6) (rg [oM 7 0,oC 8 23 [.t 7,.c (.int .i64 6)],oF 9 0 3,oZ (.store 1 (.t 9) (.t 8))]) .skip)) (.seq (rg [oM 10 0,oC 11 24 [.t 10],oF 12 1 3,oZ (.store 1 (.t 12) (.t 11))]) (.seq (.seq (rg [oM 13 0,oV 14 (.call 22 [.t 13,.c (.int .i64 2)])]) (.cond (.v 14) (.seq (rg [oM 15 0,oC 16 23 [.t 15,.c (.int .i64 9)],oT 17 (.bin .add (cI 1) (.t 16)),oF 18 2 3,oZ (.store 1 (.t 18) (.t 17))]) (rg [oM 19 0,oF 20 2 3,oL 21 20,oI 22 21,oC 23 23 [.t 19,.t 22],oF 24 4 3,oZ (.store 1 (.t 24) (.t 23))])) .skip)) (.seq (rg [oM 25 0,oC 26 23 [.t 25,.c (.int .i64 9)],oT 27 (.bin .add (cI 1) (.t 26)),oF 28 3 3,oZ (.store 1 (.t 28) (.t 27))]) (.seq (rg [oM 29 0,oC 30 23 [.t 29,.c (.int .i64 10001)],oM 31 0,oC 32 23 [.t 31,.c (.int .i64 10001)],oF 33 5 3,oZ (.store 1 (.t 33) (.t 30)),oF 34 6 3,oZ (.store 1 (.t 34) (.t 32))]) (.seq (.seq (rg [oM 35 0,oV 36 (.call 22 [.t 35,.c (.int .i64 2)])]) (.cond (.v 36) (rg [oM 37 0,oC 38 25 [.t 37,.c (.int .i64 6)],oF 39 7 3,oZ (.store 1 (.t 39) (.t 38))]) .skip)) (.seq (.seq (rg [oM 40 0,oV 41 (.call 22 [.t 40,.c (.int .i64 2)])]) (.cond (.v 41) (rg [oM 42 0,oC 43 25 [.t 42,.c (.int .i64 4)],oF 44 8 3,oZ (.store 1 (.t 44) (.t 43))]) .skip)) (.seq (.seq (rg [oM 45 0,oV 46 (.call 22 [.t 45,.c (.int .i64 3)])]) (.cond (.v 46) (rg [oF 47 9 3,oZ (.store 1 (.t 47) (cI 1))]) .skip)) (.seq (rg [oK 48 17 3,oS 17 2 48]) .ret))))))))))
def vf10 : VFunc:={ vs:=[0,2,3,6,14,36,41,46],nparams:=1,rets:=[.cell (.v 2) (some 17)],body:=vb10 }
def vb11 : VCode:=.seq (rg [oX 3 17 0,oV 6 (.alloc [.c (.int .i64 0),.c (.int .i64 0),.c (.int .i64 0),.c (.int .i64 0),.c (.int .i64 0),.c (.int .i64 0),.c (.int .i64 0),.nil 1,.nil 1,.c (.int .i64 0),.c (.int .i64 0),.c (.int .i64 0),.c (.int .i64 0),.c (.int .i64 0),.c (.int .i64 0),.c (.bool false),.nil 7]),oJ 7 0]) (.seq (rg [oM 13 1,oC 14 26 [.t 13],oP 12 14,oE 15 12 0,oE 16 12 1,oV 8 (.alloc [.c (.str ⟨#[]⟩),.c (.int .i64 0),.c (.nilp),.c (.nilp)]),oS 4 8 15,oN 9 16]) (.seq (.block 0 (.seq (rg [oM 18 9,oT 19 (.not (.t 18)),oN 17 19]) (.cond (.v 17) (.seq (rg [oT 20 (.build [.z (.c (.int .i64 0)),.z (.c (.int .i64 0)),.z (.c (.int .i64 0)),.z (.c (.int .i64 0)),.z (.c (.int .i64 0)),.z (.c (.int .i64 0)),.z (.c (.int .i64 0)),.z (.nil 1),.z (.nil 1),.z (.c (.int .i64 0)),.z (.c (.int .i64 0)),.z (.c (.int .i64 0)),.z (.c (.int .i64 0)),.z (.c (.int .i64 0)),.z (.c (.int .i64 0)),.z (.c (.bool false)),.z (.nil 7)]),oS 17 6 20,oJ 7 4]) .ret) (.seq (rg [oK 22 17 3,oC 23 27 [.t 22],oT 24 (.not (.t 23)),oN 21 24]) (.cond (.v 21) (.seq (rg [oT 25 (.build [.z (.c (.int .i64 0)),.z (.c (.int .i64 0)),.z (.c (.int .i64 0)),.z (.c (.int .i64 0)),.z (.c (.int .i64 0)),.z (.c (.int .i64 0)),.z (.c (.int .i64 0)),.z (.nil 1),.z (.nil 1),.z (.c (.int .i64 0)),.z (.c (.int .i64 0)),.z (.c (.int .i64 0)),.z (.c (.int .i64 0)),.z (.c (.int .i64 0)),.z (.c (.int .i64 0)),.z (.c (.bool false)),.z (.nil 7)]),oS 17 6 25,oJ 7 1]) .ret) (.seq (rg [oM 27 2,oT 28 (.lenStr (.t 27)),oT 29 (.bin .gtr (.t 28) (cI 4096)),oN 26 29]) (.cond (.v 26) (.seq (rg [oT 30 (.build [.z (.c (.int .i64 0)),.z (.c (.int .i64 0)),.z (.c (.int .i64 0)),.z (.c (.int .i64 0)),.z (.c (.int .i64 0)),.z (.c (.int .i64 0)),.z (.c (.int .i64 0)),.z (.nil 1),.z (.nil 1),.z (.c (.int .i64 0)),.z (.c (.int .i64 0)),.z (.c (.int .i64 0)),.z (.c (.int .i64 0)),.z (.c (.int .i64 0)),.z (.c (.int .i64 0)),.z (.c (.bool false)),.z (.nil 7)]),oS 17 6 30,oJ 7 7]) .ret) .skip))))))) (.seq (rg [oK 31 17 3,oC 32 28 [.t 31],oV 10 (.alloc [.c (.int .i64 0),.c (.int .i64 0),.c (.int .i64 0),.c (.int .i64 0),.c (.int .i64 0),.c (.int .i64 0),.c (.int .i64 0),.nil 1,.nil 1,.c (.int .i64 0),.c (.int .i64 0),.c (.int .i64 0),.c (.int .i64 0),.c (.int .i64 0),.c (.int .i64 0),.c (.bool false),.nil 7]),oS 17 10 32]) (.seq (.seq (.region ⟨[oF 33 3 8,oL 34 33,oM 35 2,oC 36 20 [.t 35],oT 37 (.callvW (.t 34) [.v 10,.t 36]),oN 11 37],[],[(1,3)]⟩) (.seq (rg [oM 38 11,oV 39 (.bin .neq (.t 38) (cI 0))]) (.cond (.v 39) (.seq (rg [oT 40 (.build [.z (.c (.int .i64 0)),.z (.c (.int .i64 0)),.z (.c (.int .i64 0)),.z (.c (.int .i64 0)),.z (.c (.int .i64 0)),.z (.c (.int .i64 0)),.z (.c (.int .i64 0)),.z (.nil 1),.z (.nil 1),.z (.c (.int .i64 0)),.z (.c (.int .i64 0)),.z (.c (.int .i64 0)),.z (.c (.int .i64 0)),.z (.c (.int .i64 0)),.z (.c (.int .i64 0)),.z (.c (.bool false)),.z (.nil 7)]),oM 41 11,oS 17 6 40,oN 7 41]) .ret) .skip))) (.seq (.seq (rg [oK 42 17 10,oC 43 27 [.t 42],oV 44 (.not (.t 43))]) (.cond (.v 44) (.seq (rg [oT 45 (.build [.z (.c (.int .i64 0)),.z (.c (.int .i64 0)),.z (.c (.int .i64 0)),.z (.c (.int .i64 0)),.z (.c (.int .i64 0)),.z (.c (.int .i64 0)),.z (.c (.int .i64 0)),.z (.nil 1),.z (.nil 1),.z (.c (.int .i64 0)),.z (.c (.int .i64 0)),.z (.c (.int .i64 0)),.z (.c (.int .i64 0)),.z (.c (.int .i64 0)),.z (.c (.int .i64 0)),.z (.c (.bool false)),.z (.nil 7)]),oS 17 6 45,oJ 7 3]) .ret) .skip)) (.seq (rg [oK 46 17 10,oS 17 6 46,oJ 7 0]) .ret))))))
def vf11 : VFunc:={ vs:=[0,1,2,3,6,7,8,9,10,11,17,21,26,39,44],nparams:=3,rets:=[.cell (.v 6) (some 17),.tmp (.v 7)],body:=vb11 }
def vb12 : VCode:=.seq (rg [oV 2 (.move (.c (.str ⟨#[]⟩)))]) (.seq (rg [oV 3 (.move (.c (.str ⟨#[]⟩)))]) (.seq (.block 0 (.loop (.seq (.seq (rg [oM 4 0,oT 5 (.bin .gtr (.t 4) (cI 0)),oP 6 5,gM 7 3 6 false,oG 8 (.bin .eql (.t 7) (.c (.str ⟨#[]⟩))) 6 false,oV 9 (.pick (.t 6) cT (.t 8))]) (.cond (.v 9) .skip (.exit 0))) (.block 1 (.seq (rg [oM 10 0,oT 11 (.bin .rem (.t 10) (cI 10)),oT 12 (.bin .add (cI 48) (.t 11)),oT 13 (.conv .u8 (.t 12)),oT 14 (.buildSlice 1 [.t 13]),oT 15 (.bytesStr (.t 14)),oM 16 3,oT 17 (.bin .add (.t 15) (.t 16)),oN 3 17]) (rg [oM 18 0,oT 19 (.bin .quo (.t 18) (cI 10)),oN 0 19])))))) (.seq (rg [oM 20 3,oN 2 20]) .ret)))
def vf12 : VFunc:={ vs:=[0,2,3,9],nparams:=1,rets:=[.tmp (.v 2)],body:=vb12 }
def vb13 : VCode:=.seq (rg [oX 1 17 0,oV 2 (.move cF)]) (.seq (rg [oF 4 2 1,oL 5 4,oN 3 5]) (.seq (.seq (rg [oF 6 2 1,oL 7 6,oV 8 (.bin .eql (.t 7) (cI 4611686018427387904))]) (.cond (.v 8) (rg [oJ 3 0]) .skip)) (.seq (rg [oF 9 0 1,oL 10 9,oT 11 (.bin .eql (.t 10) (cI 4611686018427387904)),oP 12 11,gF 13 0 1 12 false,gL 14 13 12 false,oG 15 (.call 29 [.t 14,.c (.int .i64 0),.c (.int .i64 1099511627776)]) 12 false,oO 16 12 15,oP 17 16,gF 18 1 1 17 true,gL 19 18 17 true,oG 20 (.call 29 [.t 19,.c (.int .i64 1),.c (.int .i64 10000)]) 17 true,oB 21 17 20,oP 22 21,gF 23 2 1 22 true,gL 24 23 22 true,oG 25 (.bin .eql (.t 24) (cI 4611686018427387904)) 22 true,oG 26 (.move (.t 25)) 22 true,gF 27 2 1 26 false,gL 28 27 26 false,oG 29 (.call 29 [.t 28,.c (.int .i64 1),.c (.int .i64 1000000)]) 26 false,oG 30 (.pick (.t 26) cT (.t 29)) 22 true,oB 31 22 30,oP 32 31,gF 33 3 1 32 true,gL 34 33 32 true,oG 35 (.call 29 [.t 34,.c (.int .i64 1),.c (.int .i64 1000000)]) 32 true,oB 36 32 35,oP 37 36,gF 38 4 1 37 true,gL 39 38 37 true,gM 40 3 37 true,oG 41 (.call 29 [.t 39,.c (.int .i64 0),.t 40]) 37 true,oB 42 37 41,oP 43 42,gF 44 5 1 43 true,gL 45 44 43 true,oG 46 (.call 29 [.t 45,.c (.int .i64 0),.c (.int .i64 10000)]) 43 true,oB 47 43 46,oP 48 47,gF 49 6 1 48 true,gL 50 49 48 true,oG 51 (.call 29 [.t 50,.c (.int .i64 0),.c (.int .i64 10000)]) 48 true,oB 52 48 51,oP 53 52,gF 54 7 1 53 true,gL 55 54 53 true,oG 56 (.call 30 [.t 55,.c (.int .i64 16)]) 53 true,oB 57 53 56,oP 58 57,gF 59 8 1 58 true,gL 60 59 58 true,oG 61 (.call 30 [.t 60,.c (.int .i64 8)]) 58 true,oB 62 58 61,oP 63 62,gF 64 9 1 63 true,gL 65 64 63 true,oG 66 (.call 29 [.t 65,.c (.int .i64 0),.c (.int .i64 1)]) 63 true,oB 67 63 66,oP 68 67,gF 69 10 1 68 true,oG 70 (.load (some 6) (.t 69)) 68 true,oG 71 (.call 31 [.t 70]) 68 true,oB 72 68 71,oP 73 72,gF 74 16 1 73 true,gL 75 74 73 true,oG 76 (.call 32 [.t 75]) 73 true,oB 77 73 76,oN 2 77]) .ret)))
def vf13 : VFunc:={ vs:=[0,1,2,3,8],nparams:=1,rets:=[.tmp (.v 2)],body:=vb13 }
def vb14 : VCode:=.seq (rg [oV 2 (.move (.c (.str ⟨#[]⟩)))]) (.seq (rg [oC 3 16 [.c (.bool false),.c (.int .i64 31)],oT 4 (.buildSlice 1 [.c (.str ⟨#[99,112,117,46,115,116,97,116]⟩),.c (.str ⟨#[]⟩),.c (.str ⟨#[109,101,109,111,114,121,46,109,97,120]⟩)]),oT 5 (.append 1 16 (.t 3) (.t 4)),oM 6 0,oC 7 23 [.t 6,.c (.int .i64 12)],oA 8 1 5 7,oL 9 8,oN 2 9]) .ret)
def vf14 : VFunc:={ vs:=[0,2],nparams:=1,rets:=[.tmp (.v 2)],body:=vb14 }
def vb15 : VCode:=.seq (rg [oV 2 (.move (.c (.str ⟨#[]⟩)))]) (.seq (rg [oM 4 0,oT 5 (.buildFz 1 [.c (.str ⟨#[109,97,120]⟩),.c (.str ⟨#[49]⟩),.c (.str ⟨#[53]⟩),.c (.str ⟨#[49,48]⟩),.c (.str ⟨#[49,48,48]⟩),.c (.str ⟨#[49,48,48,48,48]⟩),.c (.str ⟨#[49,48,48,48,49]⟩),.c (.str ⟨#[32]⟩),.c (.str ⟨#[48,45,51]⟩),.c (.str ⟨#[44]⟩),.c (.str ⟨#[55]⟩),.c (.str ⟨#[46]⟩),.c (.str ⟨#[53,46,50,53]⟩),.c (.str ⟨#[109,101,109,98,101,114]⟩),.c (.str ⟨#[114,111,111,116]⟩),.c (.str ⟨#[75]⟩),.c (.str ⟨#[10]⟩),.c (.str ⟨#[109,97,120,32,53,48]⟩),.c (.str ⟨#[51,32,57]⟩)]),oC 6 33 [.t 4,.t 5,.c (.int .i64 4)],oN 3 6]) (.seq (rg [oM 7 3,oT 8 (.buildSlice 1 [.c (.str ⟨#[]⟩),.c (.str ⟨#[10]⟩),.c (.str ⟨#[]⟩),.c (.str ⟨#[10,10]⟩)]),oM 9 0,oC 10 23 [.t 9,.c (.int .i64 4)],oA 11 1 8 10,oL 12 11,oT 13 (.bin .add (.t 7) (.t 12)),oN 2 13]) .ret))
def vf15 : VFunc:={ vs:=[0,2,3],nparams:=1,rets:=[.tmp (.v 2)],body:=vb15 }
def vb16 : VCode:=.seq (rg [oV 4 (.newArr 1)]) (.seq (rg [oV 5 (.newArr 1)]) (.seq (rg [oC 8 34 [],oN 6 8]) (.seq (.seq (rg [oJ 7 0]) (.block 0 (.loop (.seq (.seq (rg [oM 9 7,oM 10 6,oY 11 10,oT 12 (.bin .lss (.t 9) (.t 11)),oP 13 12,gM 14 0 13 true,oG 15 (.not (.t 14)) 13 true,oV 16 (.pick (.t 13) (.t 15) cF)]) (.cond (.v 16) .skip (.exit 0))) (.seq (.block 1 (.seq (rg [oM 19 1,oM 20 6,oM 21 7,oA 22 2 20 21,oQ 23 1 22,oL 24 23,oT 25 (.bin .and (.t 19) (.t 24)),oV 26 (.bin .neq (.t 25) (cI 0))]) (.cond (.v 26) (rg [oM 27 5,oM 28 6,oM 29 7,oA 30 2 28 29,oQ 31 0 30,oL 32 31,oT 33 (.buildSlice 1 [.t 32]),oT 34 (.append 1 16 (.t 27) (.t 33)),oN 5 34]) .skip))) (rg [oM 17 7,oI 18 17,oN 7 18])))))) (.seq (rg [oM 35 5,oN 4 35]) .ret))))
def vf16 : VFunc:={ vs:=[0,1,4,5,6,7,16,26],nparams:=2,rets:=[.tmp (.v 4)],body:=vb16 }
def vb17 : VCode:=.seq (rg [oX 2 17 0,oV 4 (.move (.c (.str ⟨#[]⟩))),oJ 5 0]) (.seq (rg [oM 11 1,oC 12 26 [.t 11],oP 10 12,oE 13 10 0,oE 14 10 1,oV 6 (.alloc [.c (.str ⟨#[]⟩),.c (.int .i64 0),.c (.nilp),.c (.nilp)]),oS 4 6 13,oN 7 14]) (.seq (.block 0 (.seq (rg [oM 16 7,oT 17 (.not (.t 16)),oN 15 17]) (.cond (.v 15) (.seq (rg [oV 4 (.move (.c (.str ⟨#[]⟩))),oJ 5 4]) .ret) (.seq (rg [oK 19 17 2,oC 20 27 [.t 19],oT 21 (.not (.t 20)),oN 18 21]) (.cond (.v 18) (.seq (rg [oV 4 (.move (.c (.str ⟨#[]⟩))),oJ 5 1]) .ret) .skip))))) (.seq (rg [oF 23 2 6,oL 24 23,oK 25 17 2,oT 26 (.callv (.t 24) [.t 25]),oP 22 26,oE 27 22 0,oE 28 22 1,oN 8 27,oN 9 28]) (.seq (.seq (rg [oM 29 9,oV 30 (.bin .neq (.t 29) (cI 0))]) (.cond (.v 30) (.seq (rg [oM 31 9,oV 4 (.move (.c (.str ⟨#[]⟩))),oN 5 31]) .ret) .skip)) (.seq (rg [oM 32 8,oT 33 (.bin .add (.t 32) (.c (.str ⟨#[10]⟩))),oN 4 33,oJ 5 0]) .ret)))))
def vf17 : VFunc:={ vs:=[0,1,2,4,5,6,7,8,9,15,18,30],nparams:=2,rets:=[.tmp (.v 4),.tmp (.v 5)],body:=vb17 }
def vb18 : VCode:=.seq (rg [oX 2 17 0,oX 3 17 1,oV 4 (.move cF)]) (.seq (rg [oF 5 0 2,oL 6 5,oF 7 0 3,oL 8 7,oT 9 (.bin .eql (.t 6) (.t 8)),oP 10 9,gF 11 1 2 10 true,gL 12 11 10 true,gF 13 1 3 10 true,gL 14 13 10 true,oG 15 (.bin .eql (.t 12) (.t 14)) 10 true,oB 16 10 15,oP 17 16,gF 18 2 2 17 true,gL 19 18 17 true,gF 20 2 3 17 true,gL 21 20 17 true,oG 22 (.bin .eql (.t 19) (.t 21)) 17 true,oB 23 17 22,oP 24 23,gF 25 3 2 24 true,gL 26 25 24 true,gF 27 3 3 24 true,gL 28 27 24 true,oG 29 (.bin .eql (.t 26) (.t 28)) 24 true,oB 30 24 29,oP 31 30,gF 32 4 2 31 true,gL 33 32 31 true,gF 34 4 3 31 true,gL 35 34 31 true,oG 36 (.bin .eql (.t 33) (.t 35)) 31 true,oB 37 31 36,oP 38 37,gF 39 5 2 38 true,gL 40 39 38 true,gF 41 5 3 38 true,gL 42 41 38 true,oG 43 (.bin .eql (.t 40) (.t 42)) 38 true,oB 44 38 43,oP 45 44,gF 46 6 2 45 true,gL 47 46 45 true,gF 48 6 3 45 true,gL 49 48 45 true,oG 50 (.bin .eql (.t 47) (.t 49)) 45 true,oB 51 45 50,oP 52 51,gF 53 7 2 52 true,gL 54 53 52 true,gF 55 7 3 52 true,gL 56 55 52 true,oG 57 (.call 35 [.t 54,.t 56]) 52 true,oB 58 52 57,oP 59 58,gF 60 8 2 59 true,gL 61 60 59 true,gF 62 8 3 59 true,gL 63 62 59 true,oG 64 (.call 35 [.t 61,.t 63]) 59 true,oB 65 59 64,oP 66 65,gF 67 9 2 66 true,gL 68 67 66 true,gF 69 9 3 66 true,gL 70 69 66 true,oG 71 (.bin .eql (.t 68) (.t 70)) 66 true,oB 72 66 71,oP 73 72,gF 74 10 2 73 true,oG 75 (.load (some 6) (.t 74)) 73 true,gF 76 10 3 73 true,oG 77 (.load (some 6) (.t 76)) 73 true,oG 78 (.call 36 [.t 75,.t 77]) 73 true,oB 79 73 78,oP 80 79,gF 81 16 2 80 true,gL 82 81 80 true,gF 83 16 3 80 true,gL 84 83 80 true,oG 85 (.call 37 [.t 82,.t 84]) 80 true,oB 86 80 85,oN 4 86]) .ret)
def vf18 : VFunc:={ vs:=[0,1,2,3,4],nparams:=2,rets:=[.tmp (.v 4)],body:=vb18 }
def vb19 : VCode:=.seq (rg [oV 4 (.newArr 1)]) (.seq (rg [oV 5 (.newArr 1)]) (.seq (.seq (rg [oV 8 (.call 38 []),oV 9 (.len (.v 8)),oJ 10 0]) (.block 0 (.loop (.seq (.region ⟨[oV 11 (.bin .lss (.v 10) (.v 9))],[7],[]⟩) (.seq (.cond (.v 11) .skip (.exit 0)) (.seq (.block 1 (.seq (rg [oT 12 (.indexAddr 4 (.v 8) (.v 10)),oR 13 4 12,oV 7 (.alloc [.c (.str ⟨#[]⟩),.c (.int .i64 0),.c (.nilp),.c (.nilp)]),oS 4 7 13]) (.seq (rg [oM 14 0,oT 15 (.not (.t 14)),oP 16 15,gF 17 1 7 16 true,gL 18 17 16 true,gM 19 1 16 true,oG 20 (.bin .and (.t 18) (.t 19)) 16 true,oG 21 (.bin .neq (.t 20) (cI 0)) 16 true,oV 22 (.pick (.t 16) (.t 21) cF)]) (.cond (.v 22) (rg [oM 23 5,oF 24 0 7,oL 25 24,oT 26 (.buildSlice 1 [.t 25]),oT 27 (.append 1 16 (.t 23) (.t 26)),oN 5 27]) .skip)))) (rg [oT 28 (.bin .add (.v 10) (cI 1)),oN 10 28]))))))) (.seq (rg [oM 29 5,oN 4 29]) .ret)))
def vf19 : VFunc:={ vs:=[0,1,4,5,7,8,9,10,11,22],nparams:=2,rets:=[.tmp (.v 4)],body:=vb19 }
def vb20 : VCode:=.seq (rg [oV 2 (.move (.c (.str ⟨#[]⟩)))]) (.seq (rg [oM 3 0,oT 4 (.call 39 [.t 3,.c (.str ⟨#[10]⟩)]),oN 2 4]) .ret)
def vf20 : VFunc:={ vs:=[0,2],nparams:=1,rets:=[.tmp (.v 2)],body:=vb20 }
def vb21 : VCode:=.seq (rg [oV 0 (.alloc [.c (.int .i64 0),.c (.int .i64 0),.c (.int .i64 0),.c (.int .i64 0),.c (.int .i64 0),.c (.int .i64 0),.c (.int .i64 0),.nil 1,.nil 1,.c (.int .i64 0),.c (.int .i64 0),.c (.int .i64 0),.c (.int .i64 0),.c (.int .i64 0),.c (.int .i64 0),.c (.bool false),.nil 7])]) (.seq (rg [oC 1 40 [],oC 2 41 [],oT 3 (.build [.a (cI 4611686018427387904) 0 1,.a (cI 100) 0 1,.a (cI 4611686018427387904) 0 1,.a (cI 100000) 0 1,.z (.c (.int .i64 0)),.z (.c (.int .i64 0)),.a (cI 10000) 0 1,.z (.nil 1),.z (.nil 1),.z (.c (.int .i64 0)),.a (.t 1) 0 6,.a (.t 1) 1 6,.a (.t 1) 2 6,.a (.t 1) 3 6,.a (.t 1) 4 6,.a (.t 1) 5 6,.a (.t 2) 0 1]),oS 17 0 3]) .ret)
def vf21 : VFunc:={ vs:=[0],nparams:=0,rets:=[.cell (.v 0) (some 17)],body:=vb21 }
def vb22 : VCode:=.seq (rg [oV 4 (.move cF)]) (.seq (rg [oM 5 0,oM 6 1,oC 7 23 [.t 5,.t 6],oM 8 1,oT 9 (.bin .sub (.t 8) (cI 1)),oT 10 (.bin .eql (.t 7) (.t 9)),oN 4 10]) .ret)
def vf22 : VFunc:={ vs:=[0,1,4],nparams:=2,rets:=[.tmp (.v 4)],body:=vb22 }
def vb23 : VCode:=.seq (rg [oJ 4 0]) (.seq (.seq (rg [oM 6 0,oT 7 (.nilCheck (.t 6)),oQ 8 1 7,oL 9 8,oM 10 0,oT 11 (.nilCheck (.t 10)),oQ 12 0 11,oL 13 12,oY 14 13,oT 15 (.bin .geq (.t 9) (.t 14)),oP 16 15,gM 17 1 16 false,oG 18 (.bin .lss (.t 17) (cI 1)) 16 false,oV 19 (.pick (.t 16) cT (.t 18))]) (.cond (.v 19) (.seq (rg [oJ 4 0]) .ret) .skip)) (.seq (rg [oM 20 0,oT 21 (.nilCheck (.t 20)),oQ 22 1 21,oL 23 22,oI 24 23,oT 25 (.nilCheck (.t 20)),oQ 26 1 25,oZ (.store 1 (.t 26) (.t 24))]) (.seq (rg [oM 27 0,oT 28 (.nilCheck (.t 27)),oQ 29 0 28,oL 30 29,oM 31 0,oT 32 (.nilCheck (.t 31)),oQ 33 1 32,oL 34 33,oT 35 (.bin .sub (.t 34) (cI 1)),oA 36 1 30 35,oL 37 36,oM 38 1,oT 39 (.bin .rem (.t 37) (.t 38)),oN 5 39]) (.seq (.seq (rg [oM 40 5,oV 41 (.bin .lss (.t 40) (cI 0))]) (.cond (.v 41) (rg [oM 42 5,oM 43 1,oT 44 (.bin .add (.t 42) (.t 43)),oN 5 44]) .skip)) (.seq (rg [oM 45 5,oN 4 45]) .ret)))))
def vf23 : VFunc:={ vs:=[0,1,4,5,19,41],nparams:=2,rets:=[.tmp (.v 4)],body:=vb23 }
def vb24 : VCode:=.seq (rg [oJ 2 0]) (.seq (rg [oM 3 0,oC 4 23 [.t 3,.c (.int .i64 1000)],oT 5 (.bin .add (cI 1) (.t 4)),oT 6 (.buildSlice 1 [.c (.int .i64 1),.c (.int .i64 100),.c (.int .i64 300),.c (.int .i64 10000),.c (.int .i64 50),.c (.int .i64 200),.c (.int .i64 7),.t 5]),oM 7 0,oC 8 23 [.t 7,.c (.int .i64 8)],oA 9 1 6 8,oL 10 9,oN 2 10]) .ret)
def vf24 : VFunc:={ vs:=[0,2],nparams:=1,rets:=[.tmp (.v 2)],body:=vb24 }
def vb25 : VCode:=.seq (rg [oV 4 (.newArr 1)]) (.seq (rg [oV 5 (.newArr 1)]) (.seq (.seq (rg [oJ 6 0]) (.block 0 (.loop (.seq (.seq (rg [oM 7 6,oM 8 1,oU 9 7 8]) (.cond (.v 9) .skip (.exit 0))) (.seq (.block 1 (.seq (rg [oM 12 0,oV 13 (.call 22 [.t 12,.c (.int .i64 3)])]) (.cond (.v 13) (rg [oM 14 5,oM 15 6,oT 16 (.buildSlice 1 [.t 15]),oT 17 (.append 1 8 (.t 14) (.t 16)),oN 5 17]) .skip))) (rg [oM 10 6,oI 11 10,oN 6 11])))))) (.seq (.region ⟨[oM 18 5,oN 4 18],[5,17],[]⟩) .ret)))
def vf25 : VFunc:={ vs:=[0,1,4,5,6,9,13],nparams:=2,rets:=[.tmp (.v 4)],body:=vb25 }
def vb26 : VCode:=.seq (rg [oV 2 (.alloc [.c (.str ⟨#[]⟩),.c (.int .i64 0),.c (.nilp),.c (.nilp)]),oV 3 (.move cF)]) (.seq (.seq (rg [oV 6 (.call 38 []),oV 7 (.len (.v 6)),oJ 8 0]) (.block 0 (.loop (.seq (.region ⟨[oV 9 (.bin .lss (.v 8) (.v 7))],[5],[]⟩) (.seq (.cond (.v 9) .skip (.exit 0)) (.seq (.block 1 (.seq (rg [oT 10 (.indexAddr 4 (.v 6) (.v 8)),oR 11 4 10,oV 5 (.alloc [.c (.str ⟨#[]⟩),.c (.int .i64 0),.c (.nilp),.c (.nilp)]),oS 4 5 11]) (.seq (rg [oF 12 0 5,oL 13 12,oM 14 0,oV 15 (.bin .eql (.t 13) (.t 14))]) (.cond (.v 15) (.seq (rg [oK 16 4 5,oS 4 2 16,oV 3 (.move cT)]) .ret) .skip)))) (rg [oT 17 (.bin .add (.v 8) (cI 1)),oN 8 17]))))))) (.seq (rg [oT 18 (.build [.z (.c (.str ⟨#[]⟩)),.z (.c (.int .i64 0)),.z (.c (.nilp)),.z (.c (.nilp))]),oS 4 2 18,oV 3 (.move cF)]) .ret))
def vf26 : VFunc:={ vs:=[0,2,3,5,6,7,8,9,15],nparams:=1,rets:=[.cell (.v 2) (some 4),.tmp (.v 3)],body:=vb26 }
def vb27 : VCode:=.seq (rg [oX 1 17 0,oV 2 (.move cF)]) (.seq (rg [oF 3 0 1,oL 4 3,oT 5 (.bin .eql (.t 4) (cI 4611686018427387904)),oP 6 5,gF 7 0 1 6 false,gL 8 7 6 false,oG 9 (.call 42 [.t 8,.c (.int .i64 0),.c (.int .i64 1099511627776)]) 6 false,oO 10 6 9,oP 11 10,gF 12 1 1 11 true,gL 13 12 11 true,oG 14 (.call 42 [.t 13,.c (.int .i64 1),.c (.int .i64 10000)]) 11 true,oB 15 11 14,oP 16 15,oG 17 (.load (some 17) (.v 1)) 16 true,oG 18 (.call 43 [.t 17]) 16 true,oB 19 16 18,oP 20 19,gF 21 5 1 20 true,gL 22 21 20 true,oG 23 (.call 42 [.t 22,.c (.int .i64 0),.c (.int .i64 10000)]) 20 true,oB 24 20 23,oP 25 24,gF 26 6 1 25 true,gL 27 26 25 true,oG 28 (.call 42 [.t 27,.c (.int .i64 0),.c (.int .i64 10000)]) 25 true,oB 29 25 28,oP 30 29,gF 31 7 1 30 true,gL 32 31 30 true,oG 33 (.call 44 [.t 32,.c (.int .i64 16)]) 30 true,oB 34 30 33,oP 35 34,gF 36 8 1 35 true,gL 37 36 35 true,oG 38 (.call 44 [.t 37,.c (.int .i64 8)]) 35 true,oB 39 35 38,oP 40 39,gF 41 9 1 40 true,gL 42 41 40 true,oG 43 (.call 42 [.t 42,.c (.int .i64 0),.c (.int .i64 1)]) 40 true,oB 44 40 43,oP 45 44,gF 46 10 1 45 true,oG 47 (.load (some 6) (.t 46)) 45 true,oG 48 (.call 31 [.t 47]) 45 true,oB 49 45 48,oP 50 49,gF 51 16 1 50 true,gL 52 51 50 true,oG 53 (.call 32 [.t 52]) 50 true,oB 54 50 53,oN 2 54]) .ret)
def vf27 : VFunc:={ vs:=[0,1,2],nparams:=1,rets:=[.tmp (.v 2)],body:=vb27 }
def vb28 : VCode:=.seq (rg [oX 1 17 0,oV 2 (.alloc [.c (.int .i64 0),.c (.int .i64 0),.c (.int .i64 0),.c (.int .i64 0),.c (.int .i64 0),.c (.int .i64 0),.c (.int .i64 0),.nil 1,.nil 1,.c (.int .i64 0),.c (.int .i64 0),.c (.int .i64 0),.c (.int .i64 0),.c (.int .i64 0),.c (.int .i64 0),.c (.bool false),.nil 7])]) (.seq (.region ⟨[oF 3 7 1,oL 4 3,oC 5 45 [.t 4],oF 6 8 1,oL 7 6,oC 8 45 [.t 7],oF 9 16 1,oL 10 9,oC 11 46 [.t 10],oF 12 7 1,oZ (.store 1 (.t 12) (.t 5)),oF 13 8 1,oZ (.store 1 (.t 13) (.t 8)),oF 14 16 1,oZ (.store 1 (.t 14) (.t 11))],[],[(2,4),(2,7),(5,7)]⟩) (.seq (rg [oK 15 17 1,oS 17 2 15]) .ret))
def vf28 : VFunc:={ vs:=[0,1,2],nparams:=1,rets:=[.cell (.v 2) (some 17)],body:=vb28 }
end Go.V
namespace Go.V
def vb29 : VCode:=.seq (rg [oV 6 (.move cF)]) (.seq (rg [oM 7 0,oM 8 1,oT 9 (.bin .geq (.t 7) (.t 8)),oP 10 9,gM 11 0 10 true,gM 12 2 10 true,oG 13 (.bin .leq (.t 11) (.t 12)) 10 true,oB 14 10 13,oN 6 14]) .ret)
def vf29 : VFunc:={ vs:=[0,1,2,6],nparams:=3,rets:=[.tmp (.v 6)],body:=vb29 }
def vb30 : VCode:=.seq (rg [oV 4 (.move cF)]) (.seq (.seq (rg [oJ 5 0]) (.block 0 (.loop (.seq (.seq (rg [oM 6 5,oM 7 0,oY 8 7,oU 9 6 8]) (.cond (.v 9) .skip (.exit 0))) (.seq (.block 1 (.seq (rg [oM 12 0,oM 13 5,oA 14 1 12 13,oL 15 14,oT 16 (.bin .lss (.t 15) (cI 0)),oP 17 16,gM 18 0 17 false,gM 19 5 17 false,oG 20 (.indexAddr 1 (.t 18) (.t 19)) 17 false,gL 21 20 17 false,gM 22 1 17 false,oG 23 (.bin .geq (.t 21) (.t 22)) 17 false,oO 24 17 23,oP 25 24,gM 26 5 25 false,oG 27 (.bin .gtr (.t 26) (cI 0)) 25 false,oG 28 (.move (.t 27)) 25 false,gM 29 0 28 true,gM 30 5 28 true,oG 31 (.bin .sub (.t 30) (cI 1)) 28 true,oG 32 (.indexAddr 1 (.t 29) (.t 31)) 28 true,gL 33 32 28 true,gM 34 0 28 true,gM 35 5 28 true,oG 36 (.indexAddr 1 (.t 34) (.t 35)) 28 true,gL 37 36 28 true,oG 38 (.bin .geq (.t 33) (.t 37)) 28 true,oG 39 (.pick (.t 28) (.t 38) cF) 25 false,oV 40 (.pick (.t 25) cT (.t 39))]) (.cond (.v 40) (.seq (rg [oV 4 (.move cF)]) .ret) .skip))) (rg [oM 10 5,oI 11 10,oN 5 11])))))) (.seq (rg [oV 4 (.move cT)]) .ret))
def vf30 : VFunc:={ vs:=[0,1,4,5,9,40],nparams:=2,rets:=[.tmp (.v 4)],body:=vb30 }
def vb31 : VCode:=.seq (rg [oX 1 6 0,oV 2 (.move cF)]) (.seq (rg [oF 3 0 1,oL 4 3,oC 5 47 [.t 4,.c (.int .i64 0),.c (.int .i64 1099511627776)],oP 6 5,gF 7 1 1 6 true,gL 8 7 6 true,oG 9 (.call 47 [.t 8,.c (.int .i64 0),.c (.int .i64 1099511627776)]) 6 true,oB 10 6 9,oP 11 10,gF 12 2 1 11 true,gL 13 12 11 true,oG 14 (.call 47 [.t 13,.c (.int .i64 0),.c (.int .i64 1099511627776)]) 11 true,oB 15 11 14,oP 16 15,gF 17 3 1 16 true,gL 18 17 16 true,oG 19 (.call 47 [.t 18,.c (.int .i64 0),.c (.int .i64 1099511627776)]) 16 true,oB 20 16 19,oP 21 20,gF 22 4 1 21 true,gL 23 22 21 true,oG 24 (.call 47 [.t 23,.c (.int .i64 0),.c (.int .i64 1099511627776)]) 21 true,oB 25 21 24,oN 2 25]) .ret)
def vf31 : VFunc:={ vs:=[0,1,2],nparams:=1,rets:=[.tmp (.v 2)],body:=vb31 }
def vb32 : VCode:=.seq (rg [oV 2 (.move cF)]) (.seq (.seq (rg [oJ 3 0]) (.block 0 (.loop (.seq (.seq (rg [oM 5 3,oM 6 0,oY 7 6,oU 8 5 7]) (.cond (.v 8) .skip (.exit 0))) (.seq (.block 1 (.seq (rg [oM 11 0,oM 12 3,oA 13 7 11 12,oR 14 7 13,oV 4 (.alloc [.c (.int .i64 0),.c (.int .i64 0),.c (.int .i64 0),.c (.int .i64 0),.c (.int .i64 0),.c (.int .i64 0),.c (.int .i64 0)]),oS 7 4 14]) (.seq (rg [oF 15 0 4,oL 16 15,oT 17 (.bin .lss (.t 16) (cI 0)),oP 18 17,gF 19 0 4 18 false,gL 20 19 18 false,oG 21 (.bin .geq (.t 20) (cI 8)) 18 false,oO 22 18 21,oP 23 22,gM 24 3 23 false,oG 25 (.bin .gtr (.t 24) (cI 0)) 23 false,oG 26 (.move (.t 25)) 23 false,gF 27 0 4 26 true,gL 28 27 26 true,gM 29 0 26 true,gM 30 3 26 true,oG 31 (.bin .sub (.t 30) (cI 1)) 26 true,oG 32 (.indexAddr 7 (.t 29) (.t 31)) 26 true,oG 33 (.fieldAddr 0 (.t 32)) 26 true,gL 34 33 26 true,oG 35 (.bin .leq (.t 28) (.t 34)) 26 true,oG 36 (.pick (.t 26) (.t 35) cF) 23 false,oO 37 23 36,oP 38 37,gF 39 1 4 38 false,gL 40 39 38 false,oG 41 (.bin .lss (.t 40) (cI 1)) 38 false,oO 42 38 41,oP 43 42,gF 44 1 4 43 false,gL 45 44 43 false,oG 46 (.bin .gtr (.t 45) (cI 10000)) 43 false,oO 47 43 46,oP 48 47,gF 49 2 4 48 false,gL 50 49 48 false,oG 51 (.call 47 [.t 50,.c (.int .i64 1),.c (.int .i64 1073741824)]) 48 false,oG 52 (.not (.t 51)) 48 false,oO 53 48 52,oP 54 53,gF 55 3 4 54 false,gL 56 55 54 false,oG 57 (.call 47 [.t 56,.c (.int .i64 1),.c (.int .i64 1073741824)]) 54 false,oG 58 (.not (.t 57)) 54 false,oO 59 54 58,oP 60 59,gF 61 4 4 60 false,gL 62 61 60 false,oG 63 (.call 47 [.t 62,.c (.int .i64 1),.c (.int .i64 1073741824)]) 60 false,oG 64 (.not (.t 63)) 60 false,oO 65 60 64,oP 66 65,gF 67 5 4 66 false,gL 68 67 66 false,oG 69 (.call 47 [.t 68,.c (.int .i64 1),.c (.int .i64 1073741824)]) 66 false,oG 70 (.not (.t 69)) 66 false,oO 71 66 70,oP 72 71,gF 73 6 4 72 false,gL 74 73 72 false,oG 75 (.bin .lss (.t 74) (cI 0)) 72 false,oO 76 72 75,oP 77 76,gF 78 6 4 77 false,gL 79 78 77 false,oG 80 (.bin .gtr (.t 79) (cI 1048576)) 77 false,oV 81 (.pick (.t 77) cT (.t 80))]) (.cond (.v 81) (.seq (rg [oV 2 (.move cF)]) .ret) .skip)))) (rg [oM 9 3,oI 10 9,oN 3 10])))))) (.seq (rg [oM 82 0,oY 83 82,oT 84 (.bin .leq (.t 83) (cI 8)),oN 2 84]) .ret))
def vf32 : VFunc:={ vs:=[0,2,3,4,8,81],nparams:=1,rets:=[.tmp (.v 2)],body:=vb32 }
def vb33 : VCode:=.seq (rg [oV 6 (.move (.c (.str ⟨#[]⟩)))]) (.seq (rg [oV 7 (.move (.c (.str ⟨#[]⟩)))]) (.seq (.seq (rg [oM 9 0,oM 10 2,oI 11 10,oC 12 23 [.t 9,.t 11],oN 8 12]) (.block 0 (.loop (.seq (.seq (rg [oM 13 8,oV 14 (.bin .gtr (.t 13) (cI 0))]) (.cond (.v 14) .skip (.exit 0))) (.seq (.block 1 (rg [oM 17 7,oM 18 1,oM 19 0,oM 20 1,oY 21 20,oC 22 23 [.t 19,.t 21],oA 23 1 18 22,oL 24 23,oT 25 (.bin .add (.t 17) (.t 24)),oN 7 25])) (rg [oM 15 8,oT 16 (.bin .sub (.t 15) (cI 1)),oN 8 16])))))) (.seq (rg [oM 26 7,oN 6 26]) .ret)))
def vf33 : VFunc:={ vs:=[0,1,2,6,7,8,14],nparams:=3,rets:=[.tmp (.v 6)],body:=vb33 }
def vb34 : VCode:=.seq (rg [oV 0 (.newArr 2)]) (.seq (rg [oT 1 (.build [.a (.c (.str ⟨#[112,105,100,115,46,109,97,120]⟩)) 0 1,.a (cI 8) 0 1]),oT 2 (.build [.a (.c (.str ⟨#[99,112,117,46,119,101,105,103,104,116]⟩)) 0 1,.a (cI 1) 0 1]),oT 3 (.build [.a (.c (.str ⟨#[99,112,117,46,109,97,120]⟩)) 0 1,.a (cI 1) 0 1]),oT 4 (.build [.a (.c (.str ⟨#[99,112,117,46,109,97,120,46,98,117,114,115,116]⟩)) 0 1,.a (cI 1) 0 1]),oT 5 (.build [.a (.c (.str ⟨#[99,112,117,46,117,99,108,97,109,112,46,109,105,110]⟩)) 0 1,.a (cI 1) 0 1]),oT 6 (.build [.a (.c (.str ⟨#[99,112,117,46,117,99,108,97,109,112,46,109,97,120]⟩)) 0 1,.a (cI 1) 0 1]),oT 7 (.build [.a (.c (.str ⟨#[99,112,117,115,101,116,46,99,112,117,115]⟩)) 0 1,.a (cI 16) 0 1]),oT 8 (.build [.a (.c (.str ⟨#[99,112,117,115,101,116,46,109,101,109,115]⟩)) 0 1,.a (cI 16) 0 1]),oT 9 (.build [.a (.c (.str ⟨#[99,112,117,115,101,116,46,99,112,117,115,46,112,97,114,116,105,116,105,111,110]⟩)) 0 1,.a (cI 16) 0 1]),oT 10 (.buildSlice 2 [.t 1,.t 2,.t 3,.t 4,.t 5,.t 6,.t 7,.t 8,.t 9]),oN 0 10]) .ret)
def vf34 : VFunc:={ vs:=[0],nparams:=0,rets:=[.tmp (.v 0)],body:=vb34 }
def vb35 : VCode:=.seq (rg [oV 4 (.move cF)]) (.seq (.seq (rg [oM 6 0,oY 7 6,oM 8 1,oY 9 8,oV 10 (.bin .neq (.t 7) (.t 9))]) (.cond (.v 10) (.seq (rg [oV 4 (.move cF)]) .ret) .skip)) (.seq (.seq (rg [oJ 5 0]) (.block 0 (.loop (.seq (.seq (rg [oM 11 5,oM 12 0,oY 13 12,oU 14 11 13]) (.cond (.v 14) .skip (.exit 0))) (.seq (.block 1 (.seq (rg [oM 17 0,oM 18 5,oA 19 1 17 18,oL 20 19,oM 21 1,oM 22 5,oA 23 1 21 22,oL 24 23,oV 25 (.bin .neq (.t 20) (.t 24))]) (.cond (.v 25) (.seq (rg [oV 4 (.move cF)]) .ret) .skip))) (rg [oM 15 5,oI 16 15,oN 5 16])))))) (.seq (rg [oV 4 (.move cT)]) .ret)))
def vf35 : VFunc:={ vs:=[0,1,4,5,10,14,25],nparams:=2,rets:=[.tmp (.v 4)],body:=vb35 }
def vb36 : VCode:=.seq (rg [oX 2 6 0,oX 3 6 1,oV 4 (.move cF)]) (.seq (rg [oK 5 6 2,oK 6 6 3,oT 7 (.eqAgg false [(.int .i64),(.int .i64),(.int .i64),(.int .i64),(.int .i64),.bool] (.t 5) (.t 6)),oN 4 7]) .ret)
def vf36 : VFunc:={ vs:=[0,1,2,3,4],nparams:=2,rets:=[.tmp (.v 4)],body:=vb36 }
def vb37 : VCode:=.seq (rg [oV 4 (.move cF)]) (.seq (.seq (rg [oM 6 0,oY 7 6,oM 8 1,oY 9 8,oV 10 (.bin .neq (.t 7) (.t 9))]) (.cond (.v 10) (.seq (rg [oV 4 (.move cF)]) .ret) .skip)) (.seq (.seq (rg [oJ 5 0]) (.block 0 (.loop (.seq (.seq (rg [oM 11 5,oM 12 0,oY 13 12,oU 14 11 13]) (.cond (.v 14) .skip (.exit 0))) (.seq (.block 1 (.seq (rg [oM 17 0,oM 18 5,oA 19 7 17 18,oR 20 7 19,oM 21 1,oM 22 5,oA 23 7 21 22,oR 24 7 23,oV 25 (.eqAgg true [(.int .i64),(.int .i64),(.int .i64),(.int .i64),(.int .i64),(.int .i64),(.int .i64)] (.t 20) (.t 24))]) (.cond (.v 25) (.seq (rg [oV 4 (.move cF)]) .ret) .skip))) (rg [oM 15 5,oI 16 15,oN 5 16])))))) (.seq (rg [oV 4 (.move cT)]) .ret)))
def vf37 : VFunc:={ vs:=[0,1,4,5,10,14,25],nparams:=2,rets:=[.tmp (.v 4)],body:=vb37 }
def vb38 : VCode:=.seq (rg [oV 0 (.newArr 4)]) (.seq (rg [oT 1 (.call 48 [.c (.str ⟨#[112,105,100,115,46,109,97,120]⟩),.c (.int .i64 8),.c (.bool true),.c (.fn 49)]),oT 2 (.call 48 [.c (.str ⟨#[99,112,117,46,119,101,105,103,104,116]⟩),.c (.int .i64 1),.c (.bool false),.c (.fn 50)]),oT 3 (.build [.a (.c (.str ⟨#[99,112,117,46,109,97,120]⟩)) 0 1,.a (cI 1) 0 1,.a (.c (.fn 51)) 0 1,.a (.c (.fn 52)) 0 1]),oT 4 (.call 48 [.c (.str ⟨#[99,112,117,46,109,97,120,46,98,117,114,115,116]⟩),.c (.int .i64 1),.c (.bool false),.c (.fn 53)]),oT 5 (.call 54 [.c (.str ⟨#[99,112,117,46,117,99,108,97,109,112,46,109,105,110]⟩),.c (.fn 55)]),oT 6 (.call 54 [.c (.str ⟨#[99,112,117,46,117,99,108,97,109,112,46,109,97,120]⟩),.c (.fn 56)]),oT 7 (.call 57 [.c (.str ⟨#[99,112,117,115,101,116,46,99,112,117,115]⟩),.c (.int .i64 16),.c (.fn 58)]),oT 8 (.call 57 [.c (.str ⟨#[99,112,117,115,101,116,46,109,101,109,115]⟩),.c (.int .i64 8),.c (.fn 59)]),oT 9 (.build [.a (.c (.str ⟨#[99,112,117,115,101,116,46,99,112,117,115,46,112,97,114,116,105,116,105,111,110]⟩)) 0 1,.a (cI 16) 0 1,.a (.c (.fn 60)) 0 1,.a (.c (.fn 61)) 0 1]),oT 10 (.buildSlice 4 [.t 1,.t 2,.t 3,.t 4,.t 5,.t 6,.t 7,.t 8,.t 9]),oN 0 10]) .ret)
def vf38 : VFunc:={ vs:=[0],nparams:=0,rets:=[.tmp (.v 0)],body:=vb38 }
def vb40 : VCode:=.seq (rg [oV 0 (.alloc [.c (.int .i64 0),.c (.int .i64 0),.c (.int .i64 0),.c (.int .i64 0),.c (.int .i64 0),.c (.bool false)])]) (.seq (rg [oT 1 (.build [.z (.c (.int .i64 0)),.z (.c (.int .i64 0)),.a (cI 4611686018427387904) 0 1,.a (cI 4611686018427387904) 0 1,.a (cI 4611686018427387904) 0 1,.z (.c (.bool false))]),oS 6 0 1]) .ret)
def vf40 : VFunc:={ vs:=[0],nparams:=0,rets:=[.cell (.v 0) (some 6)],body:=vb40 }
def vb41 : VCode:=.seq (rg [oV 0 (.newArr 7)]) (.seq (rg [oV 0 (.newArr 7)]) .ret)
def vf41 : VFunc:={ vs:=[0],nparams:=0,rets:=[.tmp (.v 0)],body:=vb41 }
def vb42 : VCode:=.seq (rg [oV 6 (.move cF)]) (.seq (rg [oM 7 0,oM 8 1,oT 9 (.bin .geq (.t 7) (.t 8)),oP 10 9,gM 11 0 10 true,gM 12 2 10 true,oG 13 (.bin .leq (.t 11) (.t 12)) 10 true,oB 14 10 13,oN 6 14]) .ret)
def vf42 : VFunc:={ vs:=[0,1,2,6],nparams:=3,rets:=[.tmp (.v 6)],body:=vb42 }
def vb43 : VCode:=.seq (rg [oX 1 17 0,oV 2 (.move cF)]) (.seq (.seq (rg [oF 3 2 1,oL 4 3,oV 5 (.bin .eql (.t 4) (cI 4611686018427387904))]) (.cond (.v 5) (.seq (rg [oF 6 3 1,oL 7 6,oC 8 42 [.t 7,.c (.int .i64 1),.c (.int .i64 1000000)],oP 9 8,gF 10 4 1 9 true,gL 11 10 9 true,oG 12 (.bin .eql (.t 11) (cI 0)) 9 true,oB 13 9 12,oN 2 13]) .ret) .skip)) (.seq (rg [oF 14 3 1,oL 15 14,oC 16 42 [.t 15,.c (.int .i64 1),.c (.int .i64 1000000)],oP 17 16,gF 18 2 1 17 true,gL 19 18 17 true,oG 20 (.call 42 [.t 19,.c (.int .i64 1),.c (.int .i64 1000000)]) 17 true,oB 21 17 20,oP 22 21,gF 23 4 1 22 true,gL 24 23 22 true,gF 25 2 1 22 true,gL 26 25 22 true,oG 27 (.call 42 [.t 24,.c (.int .i64 0),.t 26]) 22 true,oB 28 22 27,oN 2 28]) .ret))
def vf43 : VFunc:={ vs:=[0,1,2,5],nparams:=1,rets:=[.tmp (.v 2)],body:=vb43 }
def vb44 : VCode:=.seq (rg [oV 4 (.move cF)]) (.seq (.seq (rg [oV 7 (.move (.v 0)),oV 8 (.len (.v 7)),oJ 9 0]) (.block 0 (.loop (.seq (rg [oV 10 (.bin .lss (.v 9) (.v 8))]) (.seq (.cond (.v 10) .skip (.exit 0)) (.seq (.block 1 (.seq (rg [oM 11 9,oT 12 (.indexAddr 1 (.v 7) (.v 9)),oL 13 12,oN 5 11,oN 6 13]) (.seq (rg [oM 14 6,oT 15 (.bin .lss (.t 14) (cI 0)),oP 16 15,gM 17 6 16 false,gM 18 1 16 false,oG 19 (.bin .geq (.t 17) (.t 18)) 16 false,oO 20 16 19,oP 21 20,gM 22 5 21 false,oG 23 (.bin .gtr (.t 22) (cI 0)) 21 false,oG 24 (.move (.t 23)) 21 false,gM 25 6 24 true,gM 26 0 24 true,gM 27 5 24 true,oG 28 (.bin .sub (.t 27) (cI 1)) 24 true,oG 29 (.indexAddr 1 (.t 26) (.t 28)) 24 true,gL 30 29 24 true,oG 31 (.bin .leq (.t 25) (.t 30)) 24 true,oG 32 (.pick (.t 24) (.t 31) cF) 21 false,oV 33 (.pick (.t 21) cT (.t 32))]) (.cond (.v 33) (.seq (rg [oV 4 (.move cF)]) .ret) .skip)))) (rg [oT 34 (.bin .add (.v 9) (cI 1)),oN 9 34]))))))) (.seq (rg [oV 4 (.move cT)]) .ret))
def vf44 : VFunc:={ vs:=[0,1,4,5,6,7,8,9,10,33],nparams:=2,rets:=[.tmp (.v 4)],body:=vb44 }
def vb47 : VCode:=.seq (rg [oV 6 (.move cF)]) (.seq (rg [oM 7 0,oM 8 1,oT 9 (.bin .geq (.t 7) (.t 8)),oP 10 9,gM 11 0 10 true,gM 12 2 10 true,oG 13 (.bin .leq (.t 11) (.t 12)) 10 true,oB 14 10 13,oP 15 14,gM 16 0 15 false,oG 17 (.bin .eql (.t 16) (cI 4611686018427387904)) 15 false,oO 18 15 17,oN 6 18]) .ret)
def vf47 : VFunc:={ vs:=[0,1,2,6],nparams:=3,rets:=[.tmp (.v 6)],body:=vb47 }
def vb48 : VCode:=.seq (rg [oX 6 1 2,oX 7 1 3,oV 8 (.alloc [.c (.str ⟨#[]⟩),.c (.int .i64 0),.c (.nilp),.c (.nilp)])]) (.seq (rg [oM 9 0,oM 10 1,oT 11 (.makeFunc 63 [.v 7]),oT 12 (.makeFunc 65 [.v 6,.v 7]),oT 13 (.build [.a (.t 9) 0 1,.a (.t 10) 0 1,.a (.t 11) 0 1,.a (.t 12) 0 1]),oS 4 8 13]) .ret)
def vf48 : VFunc:={ vs:=[0,1,2,3,6,7,8],nparams:=4,rets:=[.cell (.v 8) (some 4)],body:=vb48 }
def vb49 : VCode:=.seq (rg [oV 2 (.move (.c (.nilp)))]) (.seq (rg [oM 3 0,oT 4 (.nilCheck (.t 3)),oQ 5 0 4,oN 2 5]) .ret)
def vf49 : VFunc:={ vs:=[0,2],nparams:=1,rets:=[.tmp (.v 2)],body:=vb49 }
def vb50 : VCode:=.seq (rg [oV 2 (.move (.c (.nilp)))]) (.seq (rg [oM 3 0,oT 4 (.nilCheck (.t 3)),oQ 5 1 4,oN 2 5]) .ret)
def vf50 : VFunc:={ vs:=[0,2],nparams:=1,rets:=[.tmp (.v 2)],body:=vb50 }
def vb51 : VCode:=.seq (rg [oX 1 17 0,oV 2 (.move (.c (.str ⟨#[]⟩))),oJ 3 0]) (.seq (rg [oF 8 2 1,oL 9 8,oC 10 64 [.t 9],oP 7 10,oE 11 7 0,oE 12 7 1,oN 4 11,oN 5 12]) (.seq (.seq (rg [oM 13 5,oV 14 (.bin .neq (.t 13) (cI 0))]) (.cond (.v 14) (.seq (rg [oM 15 5,oV 2 (.move (.c (.str ⟨#[]⟩))),oN 3 15]) .ret) .skip)) (.seq (rg [oF 17 3 1,oL 18 17,oC 19 64 [.t 18],oP 16 19,oE 20 16 0,oE 21 16 1,oN 6 20,oN 5 21]) (.seq (rg [oM 22 4,oT 23 (.bin .add (.t 22) (.c (.str ⟨#[32]⟩))),oM 24 6,oT 25 (.bin .add (.t 23) (.t 24)),oM 26 5,oN 2 25,oN 3 26]) .ret))))
def vf51 : VFunc:={ vs:=[0,1,2,3,4,5,6,14],nparams:=1,rets:=[.tmp (.v 2),.tmp (.v 3)],body:=vb51 }
def vb52 : VCode:=.seq (rg [oJ 4 0]) (.seq (rg [oM 10 1,oT 11 (.call 67 [.t 10,.c (.str ⟨#[32]⟩)]),oN 5 11]) (.seq (.seq (rg [oM 12 5,oY 13 12,oT 14 (.bin .gtr (.t 13) (cI 2)),oP 15 14,gM 16 5 15 false,oG 17 (.len (.t 16)) 15 false,oG 18 (.bin .eql (.t 17) (cI 2)) 15 false,oG 19 (.move (.t 18)) 15 false,gM 20 5 19 true,oG 21 (.indexAddr 1 (.t 20) (cI 0)) 19 true,gL 22 21 19 true,oG 23 (.bin .eql (.t 22) (.c (.str ⟨#[]⟩))) 19 true,oG 24 (.move (.t 23)) 19 true,gM 25 5 24 false,oG 26 (.indexAddr 1 (.t 25) (cI 1)) 24 false,gL 27 26 24 false,oG 28 (.bin .eql (.t 27) (.c (.str ⟨#[]⟩))) 24 false,oG 29 (.pick (.t 24) cT (.t 28)) 19 true,oG 30 (.pick (.t 19) (.t 29) cF) 15 false,oV 31 (.pick (.t 15) cT (.t 30))]) (.cond (.v 31) (.seq (rg [oJ 4 2]) .ret) .skip)) (.seq (rg [oM 33 5,oT 34 (.indexAddr 1 (.t 33) (cI 0)),oL 35 34,oC 36 66 [.t 35],oP 32 36,oE 37 32 0,oE 38 32 1,oN 6 37,oN 7 38]) (.seq (.seq (rg [oM 39 7,oV 40 (.bin .neq (.t 39) (cI 0))]) (.cond (.v 40) (.seq (rg [oM 41 7,oN 4 41]) .ret) .skip)) (.seq (.seq (rg [oM 42 5,oY 43 42,oV 44 (.bin .eql (.t 43) (cI 2))]) (.cond (.v 44) (.seq (rg [oM 46 5,oT 47 (.indexAddr 1 (.t 46) (cI 1)),oL 48 47,oC 49 66 [.t 48],oP 45 49,oE 50 45 0,oE 51 45 1,oN 8 50,oN 9 51]) (.seq (.block 0 (.seq (rg [oM 53 9,oT 54 (.bin .neq (.t 53) (cI 0)),oN 52 54]) (.cond (.v 52) (.seq (rg [oM 55 9,oN 4 55]) .ret) (.seq (rg [oM 57 8,oT 58 (.bin .eql (.t 57) (cI 4611686018427387904)),oN 56 58]) (.cond (.v 56) (.seq (rg [oJ 4 2]) .ret) .skip))))) (rg [oM 59 0,oM 60 8,oT 61 (.nilCheck (.t 59)),oQ 62 3 61,oZ (.store 1 (.t 62) (.t 60))]))) .skip)) (.seq (rg [oM 63 0,oM 64 6,oT 65 (.nilCheck (.t 63)),oQ 66 2 65,oZ (.store 1 (.t 66) (.t 64))]) (.seq (.seq (rg [oM 67 6,oT 68 (.bin .eql (.t 67) (cI 4611686018427387904)),oP 69 68,gM 70 0 69 false,oG 71 (.nilCheck (.t 70)) 69 false,oG 72 (.fieldAddr 4 (.t 71)) 69 false,gL 73 72 69 false,gM 74 6 69 false,oG 75 (.bin .gtr (.t 73) (.t 74)) 69 false,oV 76 (.pick (.t 69) cT (.t 75))]) (.cond (.v 76) (rg [oM 77 0,oT 78 (.nilCheck (.t 77)),oQ 79 4 78,oZ (.store 1 (.t 79) (cI 0))]) .skip)) (.seq (rg [oJ 4 0]) .ret))))))))
def vf52 : VFunc:={ vs:=[0,1,4,5,6,7,8,9,31,40,44,52,56,76],nparams:=2,rets:=[.tmp (.v 4)],body:=vb52 }
def vb53 : VCode:=.seq (rg [oV 2 (.move (.c (.nilp)))]) (.seq (rg [oM 3 0,oT 4 (.nilCheck (.t 3)),oQ 5 4 4,oN 2 5]) .ret)
def vf53 : VFunc:={ vs:=[0,2],nparams:=1,rets:=[.tmp (.v 2)],body:=vb53 }
def vb54 : VCode:=.seq (rg [oX 3 1 1,oV 4 (.alloc [.c (.str ⟨#[]⟩),.c (.int .i64 0),.c (.nilp),.c (.nilp)])]) (.seq (rg [oM 5 0,oT 6 (.makeFunc 68 [.v 3]),oT 7 (.makeFunc 70 [.v 3]),oT 8 (.build [.a (.t 5) 0 1,.a (cI 1) 0 1,.a (.t 6) 0 1,.a (.t 7) 0 1]),oS 4 4 8]) .ret)
def vf54 : VFunc:={ vs:=[0,1,3,4],nparams:=2,rets:=[.cell (.v 4) (some 4)],body:=vb54 }
def vb55 : VCode:=.seq (rg [oV 2 (.move (.c (.nilp)))]) (.seq (rg [oM 3 0,oT 4 (.nilCheck (.t 3)),oQ 5 5 4,oN 2 5]) .ret)
def vf55 : VFunc:={ vs:=[0,2],nparams:=1,rets:=[.tmp (.v 2)],body:=vb55 }
def vb56 : VCode:=.seq (rg [oV 2 (.move (.c (.nilp)))]) (.seq (rg [oM 3 0,oT 4 (.nilCheck (.t 3)),oQ 5 6 4,oN 2 5]) .ret)
def vf56 : VFunc:={ vs:=[0,2],nparams:=1,rets:=[.tmp (.v 2)],body:=vb56 }
def vb57 : VCode:=.seq (rg [oX 4 1 1,oX 5 1 2,oV 6 (.alloc [.c (.str ⟨#[]⟩),.c (.int .i64 0),.c (.nilp),.c (.nilp)])]) (.seq (rg [oM 7 0,oT 8 (.makeFunc 72 [.v 5]),oT 9 (.makeFunc 74 [.v 4,.v 5]),oT 10 (.build [.a (.t 7) 0 1,.a (cI 16) 0 1,.a (.t 8) 0 1,.a (.t 9) 0 1]),oS 4 6 10]) .ret)
def vf57 : VFunc:={ vs:=[0,1,2,4,5,6],nparams:=3,rets:=[.cell (.v 6) (some 4)],body:=vb57 }
def vb58 : VCode:=.seq (rg [oV 2 (.move (.c (.nilp)))]) (.seq (rg [oM 3 0,oT 4 (.nilCheck (.t 3)),oQ 5 7 4,oN 2 5]) .ret)
def vf58 : VFunc:={ vs:=[0,2],nparams:=1,rets:=[.tmp (.v 2)],body:=vb58 }
def vb59 : VCode:=.seq (rg [oV 2 (.move (.c (.nilp)))]) (.seq (rg [oM 3 0,oT 4 (.nilCheck (.t 3)),oQ 5 8 4,oN 2 5]) .ret)
def vf59 : VFunc:={ vs:=[0,2],nparams:=1,rets:=[.tmp (.v 2)],body:=vb59 }
def vb60 : VCode:=.seq (rg [oX 1 17 0,oV 2 (.move (.c (.str ⟨#[]⟩))),oJ 3 0]) (.seq (.seq (rg [oF 4 9 1,oL 5 4,oV 6 (.bin .eql (.t 5) (cI 1))]) (.cond (.v 6) (.seq (rg [oV 2 (.move (.c (.str ⟨#[114,111,111,116]⟩))),oJ 3 0]) .ret) .skip)) (.seq (rg [oV 2 (.move (.c (.str ⟨#[109,101,109,98,101,114]⟩))),oJ 3 0]) .ret))
def vf60 : VFunc:={ vs:=[0,1,2,3,6],nparams:=1,rets:=[.tmp (.v 2),.tmp (.v 3)],body:=vb60 }
def vb61 : VCode:=.seq (rg [oJ 4 0]) (.seq (.seq (rg [oV 5 (.move (.v 1))]) (.block 0 (.seq (rg [oT 7 (.bin .eql (.v 5) (.c (.str ⟨#[114,111,111,116]⟩))),oN 6 7]) (.cond (.v 6) (rg [oM 8 0,oT 9 (.nilCheck (.t 8)),oQ 10 9 9,oZ (.store 1 (.t 10) (cI 1))]) (.seq (rg [oT 12 (.bin .eql (.v 5) (.c (.str ⟨#[109,101,109,98,101,114]⟩))),oN 11 12]) (.cond (.v 11) (rg [oM 13 0,oT 14 (.nilCheck (.t 13)),oQ 15 9 14,oZ (.store 1 (.t 15) (cI 0))]) (.seq (rg [oJ 4 2]) .ret))))))) (.seq (rg [oJ 4 0]) .ret))
def vf61 : VFunc:={ vs:=[0,1,4,5,6,11],nparams:=2,rets:=[.tmp (.v 4)],body:=vb61 }
def vb63 : VCode:=.seq (rg [oX 2 17 0,oV 3 (.move (.c (.str ⟨#[]⟩))),oJ 4 0]) (.seq (rg [oT 5 (.load none (.v 1)),oT 6 (.callv (.t 5) [.v 2]),oT 7 (.nilCheck (.t 6)),oL 8 7,oC 9 64 [.t 8],oE 10 9 0,oE 11 9 1,oN 3 10,oN 4 11]) .ret)
def vf63 : VFunc:={ vs:=[0,1,2,3,4],nparams:=2,rets:=[.tmp (.v 3),.tmp (.v 4)],body:=vb63 }
def vb64 : VCode:=.seq (rg [oV 2 (.move (.c (.str ⟨#[]⟩))),oJ 3 0]) (.seq (.block 0 (.seq (rg [oM 5 0,oT 6 (.bin .eql (.t 5) (cI 4611686018427387904)),oN 4 6]) (.cond (.v 4) (.seq (rg [oV 2 (.move (.c (.str ⟨#[109,97,120]⟩))),oJ 3 0]) .ret) (.seq (rg [oM 8 0,oT 9 (.bin .lss (.t 8) (cI 0)),oP 10 9,gM 11 0 10 false,oG 12 (.bin .gtr (.t 11) (cI 1099511627776)) 10 false,oO 13 10 12,oN 7 13]) (.cond (.v 7) (.seq (rg [oV 2 (.move (.c (.str ⟨#[]⟩))),oJ 3 3]) .ret) .skip))))) (.seq (rg [oM 14 0,oC 15 77 [.t 14],oN 2 15,oJ 3 0]) .ret))
def vf64 : VFunc:={ vs:=[0,2,3,4,7],nparams:=1,rets:=[.tmp (.v 2),.tmp (.v 3)],body:=vb64 }
def vb65 : VCode:=.seq (rg [oJ 6 0]) (.seq (rg [oM 10 1,oC 11 66 [.t 10],oP 9 11,oE 12 9 0,oE 13 9 1,oN 7 12,oN 8 13]) (.seq (.block 0 (.seq (rg [oM 15 8,oT 16 (.bin .neq (.t 15) (cI 0)),oN 14 16]) (.cond (.v 14) (.seq (rg [oM 17 8,oN 6 17]) .ret) (.seq (rg [oM 19 7,oT 20 (.bin .eql (.t 19) (cI 4611686018427387904)),oP 21 20,oG 22 (.load none (.v 2)) 21 true,oG 23 (.not (.t 22)) 21 true,oB 24 21 23,oN 18 24]) (.cond (.v 18) (.seq (rg [oJ 6 2]) .ret) .skip))))) (.seq (rg [oT 25 (.load none (.v 3)),oM 26 0,oT 27 (.callvW (.t 25) [.t 26]),oM 28 7,oT 29 (.nilCheck (.t 27)),oZ (.store 1 (.t 29) (.t 28))]) (.seq (rg [oJ 6 0]) .ret))))
def vf65 : VFunc:={ vs:=[0,1,2,3,6,7,8,14,18],nparams:=4,rets:=[.tmp (.v 6)],body:=vb65 }
def vb66 : VCode:=.seq (rg [oJ 2 0,oJ 3 0]) (.seq (.seq (rg [oM 7 0,oV 8 (.bin .eql (.t 7) (.c (.str ⟨#[109,97,120]⟩)))]) (.cond (.v 8) (.seq (rg [oJ 2 4611686018427387904,oJ 3 0]) .ret) .skip)) (.seq (rg [oJ 4 0]) (.seq (.seq (rg [oM 9 0,oV 10 (.bin .neq (.t 9) (.c (.str ⟨#[]⟩)))]) (.cond (.v 10) (.seq (rg [oM 11 0,oM 12 0,oT 13 (.lenStr (.t 12)),oT 14 (.bin .sub (.t 13) (cI 1)),oT 15 (.indexStr (.t 11) (.t 14)),oT 16 (.call 78 [.c (.str ⟨#[75,77,71,84]⟩),.t 15]),oN 5 16]) (.seq (rg [oM 17 5,oV 18 (.bin .geq (.t 17) (cI 0))]) (.cond (.v 18) (rg [oM 19 0,oM 20 0,oT 21 (.lenStr (.t 20)),oT 22 (.bin .sub (.t 21) (cI 1)),oT 23 (.slice true 0 none (some (.t 22)) none (.t 19)),oM 24 5,oI 25 24,oT 26 (.bin .mul (cI 10) (.t 25)),oN 0 23,oN 4 26]) .skip))) .skip)) (.seq (.seq (rg [oM 27 0,oC 28 79 [.t 27],oV 29 (.not (.t 28))]) (.cond (.v 29) (.seq (rg [oJ 2 0,oJ 3 2]) .ret) .skip)) (.seq (rg [oM 30 0,oC 31 80 [.t 30,.c (.int .i64 1099511627777)],oN 6 31]) (.seq (.seq (rg [oM 32 6,oM 33 4,oT 34 (.bin .shr (cI 1099511627776) (.t 33)),oV 35 (.bin .gtr (.t 32) (.t 34))]) (.cond (.v 35) (.seq (rg [oJ 2 0,oJ 3 3]) .ret) .skip)) (.seq (rg [oM 36 6,oM 37 4,oT 38 (.bin .shl (.t 36) (.t 37)),oN 2 38,oJ 3 0]) .ret)))))))
def vf66 : VFunc:={ vs:=[0,2,3,4,5,6,8,10,18,29,35],nparams:=1,rets:=[.tmp (.v 2),.tmp (.v 3)],body:=vb66 }
def vb68 : VCode:=.seq (rg [oX 2 17 0,oV 3 (.move (.c (.str ⟨#[]⟩))),oJ 4 0]) (.seq (rg [oT 5 (.load none (.v 1)),oT 6 (.callv (.t 5) [.v 2]),oT 7 (.nilCheck (.t 6)),oL 8 7,oC 9 69 [.t 8],oE 10 9 0,oE 11 9 1,oN 3 10,oN 4 11]) .ret)
def vf68 : VFunc:={ vs:=[0,1,2,3,4],nparams:=2,rets:=[.tmp (.v 3),.tmp (.v 4)],body:=vb68 }
def vb69 : VCode:=.seq (rg [oV 2 (.move (.c (.str ⟨#[]⟩))),oJ 3 0]) (.seq (.block 0 (.seq (rg [oM 6 0,oT 7 (.bin .eql (.t 6) (cI 10000)),oN 5 7]) (.cond (.v 5) (.seq (rg [oV 2 (.move (.c (.str ⟨#[109,97,120]⟩))),oJ 3 0]) .ret) (.seq (rg [oM 9 0,oT 10 (.bin .lss (.t 9) (cI 0)),oP 11 10,gM 12 0 11 false,oG 13 (.bin .gtr (.t 12) (cI 10000)) 11 false,oO 14 11 13,oN 8 14]) (.cond (.v 8) (.seq (rg [oV 2 (.move (.c (.str ⟨#[]⟩))),oJ 3 3]) .ret) .skip))))) (.seq (rg [oM 15 0,oT 16 (.bin .rem (.t 15) (cI 100)),oT 17 (.bin .add (cI 100) (.t 16)),oC 18 77 [.t 17],oN 4 18]) (.seq (.region ⟨[oM 19 0,oT 20 (.bin .quo (.t 19) (cI 100)),oC 21 77 [.t 20],oT 22 (.bin .add (.t 21) (.c (.str ⟨#[46]⟩))),oM 23 4,oT 24 (.slice true 0 (some (cI 1)) none none (.t 23)),oT 25 (.bin .add (.t 22) (.t 24)),oN 2 25,oJ 3 0],[],[(2,5)]⟩) .ret)))
def vf69 : VFunc:={ vs:=[0,2,3,4,5,8],nparams:=1,rets:=[.tmp (.v 2),.tmp (.v 3)],body:=vb69 }
def vb70 : VCode:=.seq (rg [oJ 5 0]) (.seq (rg [oM 9 1,oC 10 71 [.t 9],oP 8 10,oE 11 8 0,oE 12 8 1,oN 6 11,oN 7 12]) (.seq (.seq (rg [oM 13 7,oV 14 (.bin .eql (.t 13) (cI 0))]) (.cond (.v 14) (rg [oT 15 (.load none (.v 2)),oM 16 0,oT 17 (.callvW (.t 15) [.t 16]),oM 18 6,oT 19 (.nilCheck (.t 17)),oZ (.store 1 (.t 19) (.t 18))]) .skip)) (.seq (rg [oM 20 7,oN 5 20]) .ret)))
def vf70 : VFunc:={ vs:=[0,1,2,5,6,7,14],nparams:=3,rets:=[.tmp (.v 5)],body:=vb70 }
def vb71 : VCode:=.seq (rg [oJ 2 0,oJ 3 0]) (.seq (.seq (rg [oM 8 0,oV 9 (.bin .eql (.t 8) (.c (.str ⟨#[109,97,120]⟩)))]) (.cond (.v 9) (.seq (rg [oJ 2 10000,oJ 3 0]) .ret) .skip)) (.seq (rg [oM 11 0,oT 12 (.call 82 [.t 11,.c (.str ⟨#[46]⟩)]),oP 10 12,oE 13 10 0,oE 14 10 1,oE 15 10 2,oN 4 13,oN 5 14,oN 6 15]) (.seq (.seq (rg [oM 16 4,oC 17 79 [.t 16],oT 18 (.not (.t 17)),oP 19 18,gM 20 6 19 false,oG 21 (.move (.t 20)) 19 false,gM 22 5 21 true,oG 23 (.call 79 [.t 22]) 21 true,oG 24 (.not (.t 23)) 21 true,oG 25 (.move (.t 24)) 21 true,gM 26 5 25 false,oG 27 (.lenStr (.t 26)) 25 false,oG 28 (.bin .gtr (.t 27) (cI 2)) 25 false,oG 29 (.pick (.t 25) cT (.t 28)) 21 true,oG 30 (.pick (.t 21) (.t 29) cF) 19 false,oV 31 (.pick (.t 19) cT (.t 30))]) (.cond (.v 31) (.seq (rg [oJ 2 0,oJ 3 2]) .ret) .skip)) (.seq (.region ⟨[oM 32 4,oC 33 80 [.t 32,.c (.int .i64 10000)],oT 34 (.bin .mul (.t 33) (cI 100)),oM 35 5,oT 36 (.bin .add (.t 35) (.c (.str ⟨#[48,48]⟩))),oT 37 (.slice true 0 none (some (cI 2)) none (.t 36)),oC 38 80 [.t 37,.c (.int .i64 10000)],oT 39 (.bin .add (.t 34) (.t 38)),oN 7 39],[],[(1,5)]⟩) (.seq (.seq (rg [oM 40 7,oV 41 (.bin .gtr (.t 40) (cI 10000))]) (.cond (.v 41) (.seq (rg [oJ 2 0,oJ 3 3]) .ret) .skip)) (.seq (rg [oM 42 7,oN 2 42,oJ 3 0]) .ret))))))
def vf71 : VFunc:={ vs:=[0,2,3,4,5,6,7,9,31,41],nparams:=1,rets:=[.tmp (.v 2),.tmp (.v 3)],body:=vb71 }
def vb72 : VCode:=.seq (rg [oX 2 17 0,oV 3 (.move (.c (.str ⟨#[]⟩))),oJ 4 0]) (.seq (rg [oT 5 (.load none (.v 1)),oT 6 (.callv (.t 5) [.v 2]),oT 7 (.nilCheck (.t 6)),oL 8 7,oC 9 73 [.t 8],oE 10 9 0,oE 11 9 1,oN 3 10,oN 4 11]) .ret)
def vf72 : VFunc:={ vs:=[0,1,2,3,4],nparams:=2,rets:=[.tmp (.v 3),.tmp (.v 4)],body:=vb72 }
def vb73 : VCode:=.seq (rg [oV 2 (.move (.c (.str ⟨#[]⟩))),oJ 3 0]) (.seq (rg [oV 4 (.newArr 1)]) (.seq (.seq (rg [oJ 5 0]) (.block 0 (.loop (.seq (.seq (rg [oM 8 5,oM 9 0,oY 10 9,oU 11 8 10]) (.cond (.v 11) .skip (.exit 0))) (.block 1 (.seq (.seq (rg [oM 12 0,oM 13 5,oA 14 1 12 13,oL 15 14,oT 16 (.bin .lss (.t 15) (cI 0)),oP 17 16,gM 18 5 17 false,oG 19 (.bin .gtr (.t 18) (cI 0)) 17 false,oG 20 (.move (.t 19)) 17 false,gM 21 0 20 true,gM 22 5 20 true,oG 23 (.indexAddr 1 (.t 21) (.t 22)) 20 true,gL 24 23 20 true,gM 25 0 20 true,gM 26 5 20 true,oG 27 (.bin .sub (.t 26) (cI 1)) 20 true,oG 28 (.indexAddr 1 (.t 25) (.t 27)) 20 true,gL 29 28 20 true,oG 30 (.bin .leq (.t 24) (.t 29)) 20 true,oG 31 (.pick (.t 20) (.t 30) cF) 17 false,oV 32 (.pick (.t 17) cT (.t 31))]) (.cond (.v 32) (.seq (rg [oV 2 (.move (.c (.str ⟨#[]⟩))),oJ 3 1]) .ret) .skip)) (.seq (rg [oM 33 5,oN 6 33]) (.seq (.block 2 (.loop (.seq (.seq (rg [oM 34 6,oI 35 34,oM 36 0,oY 37 36,oT 38 (.bin .lss (.t 35) (.t 37)),oP 39 38,gM 40 0 39 true,gM 41 6 39 true,oG 42 (.bin .add (.t 41) (cI 1)) 39 true,oG 43 (.indexAddr 1 (.t 40) (.t 42)) 39 true,gL 44 43 39 true,gM 45 0 39 true,gM 46 6 39 true,oG 47 (.indexAddr 1 (.t 45) (.t 46)) 39 true,gL 48 47 39 true,oG 49 (.bin .add (.t 48) (cI 1)) 39 true,oG 50 (.bin .eql (.t 44) (.t 49)) 39 true,oV 51 (.pick (.t 39) (.t 50) cF)]) (.cond (.v 51) .skip (.exit 2))) (.block 3 (rg [oM 52 6,oI 53 52,oN 6 53]))))) (.seq (rg [oM 54 0,oM 55 5,oA 56 1 54 55,oL 57 56,oC 58 77 [.t 57],oN 7 58]) (.seq (.seq (rg [oM 59 6,oM 60 5,oV 61 (.bin .gtr (.t 59) (.t 60))]) (.cond (.v 61) (rg [oM 62 7,oM 63 0,oM 64 6,oA 65 1 63 64,oL 66 65,oC 67 77 [.t 66],oT 68 (.bin .add (.c (.str ⟨#[45]⟩)) (.t 67)),oT 69 (.bin .add (.t 62) (.t 68)),oN 7 69]) .skip)) (.seq (rg [oM 70 4,oM 71 7,oT 72 (.buildSlice 1 [.t 71]),oT 73 (.append 1 16 (.t 70) (.t 72)),oN 4 73]) (rg [oM 74 6,oI 75 74,oN 5 75])))))))))))) (.seq (rg [oM 76 4,oT 77 (.callW 83 [.t 76,.c (.str ⟨#[44]⟩)]),oN 2 77,oJ 3 0]) .ret)))
def vf73 : VFunc:={ vs:=[0,2,3,4,5,6,7,11,32,51,61],nparams:=1,rets:=[.tmp (.v 2),.tmp (.v 3)],body:=vb73 }
def vb74 : VCode:=.seq (rg [oJ 6 0]) (.seq (rg [oM 10 1,oT 11 (.load none (.v 2)),oC 12 75 [.t 10,.t 11],oP 9 12,oE 13 9 0,oE 14 9 1,oN 7 13,oN 8 14]) (.seq (.seq (rg [oM 15 8,oV 16 (.bin .eql (.t 15) (cI 0))]) (.cond (.v 16) (rg [oT 17 (.load none (.v 3)),oM 18 0,oT 19 (.callvW (.t 17) [.t 18]),oM 20 7,oT 21 (.nilCheck (.t 19)),oZ (.store 1 (.t 21) (.t 20))]) .skip)) (.seq (rg [oM 22 8,oN 6 22]) .ret)))
def vf74 : VFunc:={ vs:=[0,1,2,3,6,7,8,16],nparams:=4,rets:=[.tmp (.v 6)],body:=vb74 }
def vb75 : VCode:=.seq (rg [oX 3 1 1,oV 4 (.newArr 1),oJ 5 0]) (.seq (.seq (rg [oM 15 0,oV 16 (.bin .eql (.t 15) (.c (.str ⟨#[]⟩)))]) (.cond (.v 16) (.seq (rg [oV 4 (.newArr 1),oJ 5 0]) .ret) .skip)) (.seq (rg [oV 6 (.newArr 2)]) (.seq (.seq (rg [oM 17 0,oV 18 (.call 67 [.t 17,.c (.str ⟨#[44]⟩)]),oV 19 (.len (.v 18)),oJ 20 0]) (.block 0 (.loop (.seq (.region ⟨[oV 21 (.bin .lss (.v 20) (.v 19))],[4],[]⟩) (.seq (.cond (.v 21) .skip (.exit 0)) (.seq (.block 1 (.seq (rg [oT 22 (.indexAddr 1 (.v 18) (.v 20)),oL 23 22,oN 8 23]) (.seq (rg [oM 25 8,oC 26 84 [.t 25],oP 24 26,oE 27 24 0,oE 28 24 1,oV 9 (.alloc [.c (.int .i64 0),.c (.int .i64 0)]),oS 2 9 27,oN 10 28]) (.seq (.seq (rg [oM 29 10,oV 30 (.not (.t 29))]) (.cond (.v 30) (.seq (rg [oV 4 (.newArr 1),oJ 5 2]) .ret) .skip)) (rg [oM 31 6,oK 32 2 9,oT 33 (.buildSlice 2 [.t 32]),oT 34 (.append 2 16 (.t 31) (.t 33)),oN 6 34]))))) (rg [oT 35 (.bin .add (.v 20) (cI 1)),oN 20 35]))))))) (.seq (.seq (rg [oM 36 6,oT 37 (.makeFunc 86 [.v 3]),oV 38 (.call 85 [.t 36,.t 37])]) (.cond (.v 38) (.seq (rg [oV 4 (.newArr 1),oJ 5 3]) .ret) .skip)) (.seq (rg [oM 39 6,oT 40 (.callW 87 [.t 39,.c (.fn 88)])]) (.seq (rg [oV 11 (.newArr 1)]) (.seq (rg [oJ 12 0]) (.seq (.seq (rg [oV 41 (.move (.v 6)),oV 42 (.len (.v 41)),oJ 43 0]) (.block 2 (.loop (.seq (rg [oV 44 (.bin .lss (.v 43) (.v 42))]) (.seq (.cond (.v 44) .skip (.exit 2)) (.seq (.block 3 (.seq (rg [oT 45 (.indexAddr 2 (.v 41) (.v 43)),oR 46 2 45,oV 14 (.alloc [.c (.int .i64 0),.c (.int .i64 0)]),oS 2 14 46]) (.seq (rg [oM 47 12,oF 48 0 14,oL 49 48,oT 50 (.minmax true [.t 47,.t 49]),oN 12 50]) (.block 4 (.loop (.seq (.seq (rg [oM 51 12,oF 52 1 14,oL 53 52,oV 54 (.bin .leq (.t 51) (.t 53))]) (.cond (.v 54) .skip (.exit 4))) (.seq (.block 5 (rg [oM 57 11,oM 58 12,oT 59 (.buildSlice 1 [.t 58]),oT 60 (.append 1 8 (.t 57) (.t 59)),oN 11 60])) (rg [oM 55 12,oI 56 55,oN 12 56])))))))) (rg [oT 61 (.bin .add (.v 43) (cI 1)),oN 43 61]))))))) (.seq (rg [oM 62 11,oN 4 62,oJ 5 0]) .ret)))))))))
def vf75 : VFunc:={ vs:=[0,1,3,4,5,6,8,9,10,11,12,14,16,18,19,20,21,30,38,41,42,43,44,54],nparams:=2,rets:=[.tmp (.v 4),.tmp (.v 5)],body:=vb75 }
def vb79 : VCode:=.seq (rg [oV 2 (.move cF)]) (.seq (.seq (rg [oM 5 0,oV 6 (.range (.t 5))]) (.block 0 (.loop (.seq (rg [oV 7 (.next (.v 6)),oV 8 (.extract (.v 7) 0)]) (.seq (.cond (.v 8) .skip (.exit 0)) (.block 1 (.seq (rg [oT 9 (.extract (.v 7) 2),oN 4 9]) (.seq (rg [oM 10 4,oT 11 (.bin .lss (.t 10) (.c (.int .i32 48))),oP 12 11,gM 13 4 12 false,oG 14 (.bin .gtr (.t 13) (.c (.int .i32 57))) 12 false,oV 15 (.pick (.t 12) cT (.t 14))]) (.cond (.v 15) (.seq (rg [oV 2 (.move cF)]) .ret) .skip))))))))) (.seq (rg [oM 16 0,oT 17 (.bin .neq (.t 16) (.c (.str ⟨#[]⟩))),oN 2 17]) .ret))
def vf79 : VFunc:={ vs:=[0,2,4,6,7,8,15],nparams:=1,rets:=[.tmp (.v 2)],body:=vb79 }
def vb80 : VCode:=.seq (rg [oJ 4 0]) (.seq (rg [oJ 5 0]) (.seq (.seq (rg [oM 8 0,oV 9 (.range (.t 8))]) (.block 0 (.loop (.seq (rg [oV 10 (.next (.v 9)),oV 11 (.extract (.v 10) 0)]) (.seq (.cond (.v 11) .skip (.exit 0)) (.block 1 (.seq (rg [oT 12 (.extract (.v 10) 2),oN 7 12]) (rg [oM 13 5,oT 14 (.bin .mul (cI 10) (.t 13)),oM 15 7,oT 16 (.bin .sub (.t 15) (.c (.int .i32 48))),oT 17 (.conv .i64 (.t 16)),oT 18 (.bin .add (.t 14) (.t 17)),oM 19 1,oT 20 (.minmax false [.t 18,.t 19]),oN 5 20])))))))) (.seq (rg [oM 21 5,oN 4 21]) .ret)))
def vf80 : VFunc:={ vs:=[0,1,4,5,7,9,10,11],nparams:=2,rets:=[.tmp (.v 4)],body:=vb80 }
def vb84 : VCode:=.seq (rg [oV 2 (.alloc [.c (.int .i64 0),.c (.int .i64 0)]),oV 3 (.move cF)]) (.seq (rg [oM 9 0,oT 10 (.call 82 [.t 9,.c (.str ⟨#[45]⟩)]),oP 8 10,oE 11 8 0,oE 12 8 1,oE 13 8 2,oN 4 11,oN 5 12,oN 6 13]) (.seq (rg [oM 14 4,oC 15 98 [.t 14],oM 16 4,oC 17 98 [.t 16],oT 18 (.build [.a (.t 15) 0 1,.a (.t 17) 0 1]),oV 7 (.alloc [.c (.int .i64 0),.c (.int .i64 0)]),oS 2 7 18]) (.seq (.seq (rg [oV 19 (.move (.v 6))]) (.cond (.v 19) (rg [oM 20 5,oC 21 98 [.t 20],oF 22 1 7,oZ (.store 1 (.t 22) (.t 21))]) .skip)) (.seq (.region ⟨[oK 23 2 7,oF 24 0 7,oL 25 24,oT 26 (.bin .geq (.t 25) (cI 0)),oP 27 26,gF 28 1 7 27 true,gL 29 28 27 true,gF 30 0 7 27 true,gL 31 30 27 true,oG 32 (.bin .geq (.t 29) (.t 31)) 27 true,oB 33 27 32,oS 2 2 23,oN 3 33],[],[(6,11),(8,11)]⟩) .ret))))
def vf84 : VFunc:={ vs:=[0,2,3,4,5,6,7,19],nparams:=1,rets:=[.cell (.v 2) (some 2),.tmp (.v 3)],body:=vb84 }
def vb85 : VCode:=.seq (rg [oV 4 (.move cF)]) (.seq (rg [oM 5 0,oM 6 1,oC 7 99 [.t 5,.t 6],oT 8 (.bin .geq (.t 7) (cI 0)),oN 4 8]) .ret)
def vf85 : VFunc:={ vs:=[0,1,4],nparams:=2,rets:=[.tmp (.v 4)],body:=vb85 }
def vb86 : VCode:=.seq (rg [oX 2 2 0,oV 3 (.move cF)]) (.seq (rg [oF 4 1 2,oL 5 4,oT 6 (.load none (.v 1)),oT 7 (.minmax false [.t 6,.c (.int .i64 65536)]),oT 8 (.bin .geq (.t 5) (.t 7)),oN 3 8]) .ret)
def vf86 : VFunc:={ vs:=[0,1,2,3],nparams:=2,rets:=[.tmp (.v 3)],body:=vb86 }
def vb88 : VCode:=.seq (rg [oX 2 2 0,oX 3 2 1,oJ 4 0]) (.seq (rg [oF 5 0 2,oL 6 5,oF 7 0 3,oL 8 7,oT 9 (.bin .sub (.t 6) (.t 8)),oN 4 9]) .ret)
def vf88 : VFunc:={ vs:=[0,1,2,3,4],nparams:=2,rets:=[.tmp (.v 4)],body:=vb88 }
def vb98 : VCode:=.seq (rg [oJ 2 0]) (.seq (rg [oJ 3 0]) (.seq (.seq (rg [oM 6 0,oV 7 (.strBytes (.t 6)),oV 8 (.len (.v 7)),oJ 9 0]) (.block 0 (.loop (.seq (rg [oV 10 (.bin .lss (.v 9) (.v 8))]) (.seq (.cond (.v 10) .skip (.exit 0)) (.seq (.block 1 (.seq (rg [oT 11 (.indexAddr 1 (.v 7) (.v 9)),oL 12 11,oN 5 12]) (.seq (.seq (rg [oM 13 5,oT 14 (.bin .lss (.t 13) (.c (.int .u8 48))),oP 15 14,gM 16 5 15 false,oG 17 (.bin .gtr (.t 16) (.c (.int .u8 57))) 15 false,oV 18 (.pick (.t 15) cT (.t 17))]) (.cond (.v 18) (.seq (rg [oJ 2 (-1)]) .ret) .skip)) (rg [oM 19 3,oT 20 (.bin .mul (cI 10) (.t 19)),oM 21 5,oT 22 (.bin .sub (.t 21) (.c (.int .u8 48))),oT 23 (.conv .i64 (.t 22)),oT 24 (.bin .add (.t 20) (.t 23)),oT 25 (.minmax false [.t 24,.c (.int .i64 1073741824)]),oN 3 25])))) (rg [oT 26 (.bin .add (.v 9) (cI 1)),oN 9 26]))))))) (.seq (.seq (rg [oM 27 0,oT 28 (.bin .eql (.t 27) (.c (.str ⟨#[]⟩))),oP 29 28,gM 30 0 29 false,oG 31 (.lenStr (.t 30)) 29 false,oG 32 (.bin .gtr (.t 31) (cI 9)) 29 false,oV 33 (.pick (.t 29) cT (.t 32))]) (.cond (.v 33) (.seq (rg [oJ 2 (-1)]) .ret) .skip)) (.seq (rg [oM 34 3,oN 2 34]) .ret))))
def vf98 : VFunc:={ vs:=[0,2,3,5,7,8,9,10,18,33],nparams:=1,rets:=[.tmp (.v 2)],body:=vb98 }
def vb99 : VCode:=.seq (rg [oJ 4 0]) (.seq (.seq (rg [oM 6 0,oV 7 (.len (.t 6)),oJ 8 0]) (.block 0 (.loop (.seq (rg [oV 9 (.bin .lss (.v 8) (.v 7))]) (.seq (.cond (.v 9) .skip (.exit 0)) (.seq (.block 1 (.seq (rg [oM 10 8,oN 5 10]) (.seq (rg [oM 11 1,oM 12 0,oM 13 5,oA 14 2 12 13,oR 15 2 14,oV 16 (.callv (.t 11) [.t 15])]) (.cond (.v 16) (.seq (rg [oM 17 5,oN 4 17]) .ret) .skip)))) (rg [oT 18 (.bin .add (.v 8) (cI 1)),oN 8 18]))))))) (.seq (rg [oJ 4 (-1)]) .ret))
def vf99 : VFunc:={ vs:=[0,1,4,5,7,8,9,16],nparams:=2,rets:=[.tmp (.v 4)],body:=vb99 }
def prog : FuncId -> Option VFunc | 3=>some vf3 | 4=>some vf4 | 5=>some vf5 | 6=>some vf6 | 7=>some vf7 | 8=>some vf8 | 9=>some vf9 | 10=>some vf10 | 11=>some vf11 | 12=>some vf12 | 13=>some vf13 | 14=>some vf14 | 15=>some vf15 | 16=>some vf16 | 17=>some vf17 | 18=>some vf18 | 19=>some vf19 | 20=>some vf20 | 21=>some vf21 | 22=>some vf22 | 23=>some vf23 | 24=>some vf24 | 25=>some vf25 | 26=>some vf26 | 27=>some vf27 | 28=>some vf28 | 29=>some vf29 | 30=>some vf30 | 31=>some vf31 | 32=>some vf32 | 33=>some vf33 | 34=>some vf34 | 35=>some vf35 | 36=>some vf36 | 37=>some vf37 | 38=>some vf38 | 40=>some vf40 | 41=>some vf41 | 42=>some vf42 | 43=>some vf43 | 44=>some vf44 | 47=>some vf47 | 48=>some vf48 | 49=>some vf49 | 50=>some vf50 | 51=>some vf51 | 52=>some vf52 | 53=>some vf53 | 54=>some vf54 | 55=>some vf55 | 56=>some vf56 | 57=>some vf57 | 58=>some vf58 | 59=>some vf59 | 60=>some vf60 | 61=>some vf61 | 63=>some vf63 | 64=>some vf64 | 65=>some vf65 | 66=>some vf66 | 68=>some vf68 | 69=>some vf69 | 70=>some vf70 | 71=>some vf71 | 72=>some vf72 | 73=>some vf73 | 74=>some vf74 | 75=>some vf75 | 79=>some vf79 | 80=>some vf80 | 84=>some vf84 | 85=>some vf85 | 86=>some vf86 | 88=>some vf88 | 98=>some vf98 | 99=>some vf99 | _=>none
end Go.V
