/- Part 1 of the proof. -/
import GoSem.Core.Code
import GoSem.Core.View
set_option linter.unusedSectionVars false
set_option linter.unusedSimpArgs false
set_option linter.unusedVariables false
open List renaming forall_mem_cons → lfm
namespace Go.V
theorem cl1 {P : Prop} (h : P := by first | rfl | (simp; done) | (congr 2; omega) | (congr 1; omega) | (congr 3; omega) | (simp; omega) | (congr 2; simp; omega)) : P := h
theorem cl2 {P : Prop} (h : P := by first | rfl | omega | (congr 2; omega)) : P := h
inductive KT where
 | int (k : IntKind)
 | str
 | bool
 deriving DecidableEq,Inhabited
inductive MKey where
 | int (n : Int)
 | str (s : ByteArray)
 | bool (b : Bool)
 deriving DecidableEq
inductive PV where
 | int (k : IntKind) (n : Int)
 | bool (b : Bool)
 | str (s : ByteArray)
 | slice (sz : Nat) (xs : List PV)
 | agg (cs : List PV)
 | map (kt : KT) (ks : List MKey) (vs : List PV)
 | fn (f : FuncId)
 | nilp
 | nils
 | lit (sz : Nat) (xs : List PV)
 | clo (f : FuncId) (caps : List PV)
 deriving Inhabited
def PV.cells : PV -> List PV
 | .agg cs=>cs
 | v=>[v]
def PV.flat0 : PV -> Bool
 | .int _ _ | .bool _ | .str _ | .fn _ | .nilp=>true
 | _=>false
def PV.flat : PV -> Bool
 | .agg cs=>cs.all PV.flat0
 | d=>d.flat0
inductive Id where
 | slot (s j : Nat)
 | arg (i j : Nat)
 deriving DecidableEq
inductive VVal where
 | p (d : PV)
 | own (id : Id) (ver off len : Nat)
 | ptr (id : Id) (ver off : Nat)
 | vptr (cs : List PV) (off : Nat)
 | eptr (id : Id) (ver i off : Nat)
 | mref (id : Id) (ver : Nat)
 | fn (f : FuncId) (caps : List VVal)
 | agg (cs : List VVal)
 | tup (vs : List VVal)
 | fresh (sz : Nat) (xs : List PV)
 | boxed (cs : List VVal)
 | plist (ps : List VVal)
 | pcell (p : VVal)
 | undef
 | dead
 deriving Inhabited
inductive Ob where
 | box (cs : List VVal)
 | arr (sz : Nat) (xs : List PV)
 | map (kt : KT) (ks : List MKey) (vs : List PV)
 | gone
 | iter (s : ByteArray) (pos : Nat)
 deriving Inhabited
abbrev VHeap:=Id -> Option (Nat × Ob)
def VHeap.upd (h : VHeap) (id : Id) (o : Nat × Ob) : VHeap:=fun i=>if i = id then some o else h i
def VHeap.upds (h : VHeap) : List (Id × Nat × Ob) -> VHeap
 | []=>h
 | (id,o) :: us=>(VHeap.upd h id o).upds us
def nv : Option (Nat × Ob) -> Nat
 | none=>0
 | some (v,_)=>v + 1
structure Tok {α : Type} (a : α) : Type where
def ob {α β : Type} (x : Option α) (f : α -> Option β) (_u : Tok f:=⟨⟩) : Option β:=match x with | some a=>f a | none=>none
def gd {α : Type} (c : Prop) [Decidable c] (x : Option α) (_u : Tok x:=⟨⟩) : Option α:=if c then x else none
def br {α : Type} (b : Bool) (x y : α) (_u : Tok x:=⟨⟩) (_v : Tok y:=⟨⟩) : α:=if b then x else y
inductive VArg where
 | v (s : Nat)
 | t (s : Nat)
 | c (d : PV)
 deriving Inhabited
inductive ZC where
 | c (d : PV)
 | nil (sz : Nat)
 deriving Inhabited
inductive BC where
 | z (z : ZC)
 | a (x : VArg) (j n : Nat)
 deriving Inhabited
inductive VOp where
 | move (x : VArg)
 | newArr (sz : Nat)
 | pick (c a b : VArg)
 | alloc (zero : List ZC)
 | box (n : Nat) (x : VArg)
 | build (cells : List BC)
 | buildSlice (sz : Nat) (parts : List VArg)
 | buildFz (sz : Nat) (parts : List VArg)
 | load (agg : Option Nat) (a : VArg)
 | store (n : Nat) (a x : VArg)
 | fieldAddr (off : Nat) (x : VArg)
 | field (off : Nat) (agg : Option Nat) (x : VArg)
 | indexAddr (sz : Nat) (x i : VArg)
 | indexStr (x i : VArg)
 | bin (op : BinOp) (x y : VArg)
 | eqAgg (neg : Bool) (kts : List KT) (x y : VArg)
 | not (x : VArg)
 | neg (x : VArg)
 | len (x : VArg)
 | lenStr (x : VArg)
 | eqB (neg : Bool) (x y : VArg)
 | append (sz bytes : Nat) (s x : VArg)
 | appendNil (sz bytes : Nat) (x : VArg)
 | slice (str : Bool) (sz : Nat) (lo hi mx : Option VArg) (x : VArg)
 | lookup (ok : Bool) (kt : KT) (zero : PV) (m k : VArg)
 | mapUpdate (kt : KT) (m k x : VArg)
 | makeMap (kt : KT)
 | mapLen (x : VArg)
 | extract (x : VArg) (i : Nat)
 | minmax (isMax : Bool) (xs : List VArg)
 | conv (k : IntKind) (x : VArg)
 | strBytes (x : VArg)
 | bytesStr (x : VArg)
 | nilCheck (x : VArg)
 | makeFunc (f : FuncId) (caps : List VArg)
 | call (f : FuncId) (args : List VArg)
 | callv (x : VArg) (args : List VArg)
 | callW (f : FuncId) (args : List VArg)
 | callvW (x : VArg) (args : List VArg)
 | callR (f : FuncId) (args : List VArg)
 | make (sz bytes : Nat) (zero : PV) (n : VArg)
 | copy (sz : Nat) (a x : VArg)
 | mapEntry (kt : KT) (zero : PV) (m k : VArg)
 | entryStore (m s x : VArg)
 | buildArr (sz : Nat) (parts : List VArg)
 | indexArr (n sz : Nat) (agg : Option Nat) (x i : VArg)
 | clear (sz : Nat) (zero : PV) (a : VArg)
 | unlit (x : VArg)
 | buildLit (sz : Nat) (parts : List VArg)
 | appendLit (sz bytes : Nat) (s x : VArg)
 | range (x : VArg)
 | next (x : VArg)
 | buildPtrs (parts : List VArg)
 | callA (f : FuncId) (args : List VArg)
 | arrAddr (n sz : Nat) (x i : VArg)
 deriving Inhabited
inductive VDst where
 | v (s : Nat)
 | t (s : Nat)
 | none
 deriving Inhabited,DecidableEq
structure VOper where
 dst : VDst
 op : VOp
 guard : Option (VArg × Bool):=.none
 deriving Inhabited
structure VRegion where
 ops : List VOper
 fz : List Nat:=[]
 fp : List (Nat × Nat):=[]
 deriving Inhabited
inductive VCode where
 | skip
 | region (r : VRegion)
 | seq (a b : VCode)
 | cond (c : VArg) (thn els : VCode)
 | block (id : Nat) (c : VCode)
 | loop (c : VCode)
 | exit (id : Nat)
 | ret
 | mv (a b : Id) (c : VCode)
 | scope (c : VCode)
 | fail
 deriving Inhabited
abbrev oT (n : Nat) (o : VOp) : VOper:=⟨.t n,o,none⟩
abbrev oV (n : Nat) (o : VOp) : VOper:=⟨.v n,o,none⟩
abbrev oZ (o : VOp) : VOper:=⟨.none,o,none⟩
abbrev oG (n : Nat) (o : VOp) (g : Nat) (b : Bool) : VOper:=⟨.t n,o,some (.t g,b)⟩
abbrev oM (n x : Nat) : VOper:=⟨.t n,.move (.v x),none⟩
abbrev oN (n x : Nat) : VOper:=⟨.v n,.move (.t x),none⟩
abbrev oL (n x : Nat) : VOper:=⟨.t n,.load none (.t x),none⟩
abbrev oF (n k x : Nat) : VOper:=⟨.t n,.fieldAddr k (.v x),none⟩
abbrev oK (n k x : Nat) : VOper:=⟨.t n,.load (some k) (.v x),none⟩
abbrev rg (l : List VOper) : VCode:=.region ⟨l,[],[]⟩
abbrev cI (n : Int) : VArg:=.c (.int .i64 n)
abbrev cF : VArg:=.c (.bool false)
abbrev cT : VArg:=.c (.bool true)
abbrev oJ (n : Nat) (i : Int) : VOper:=⟨.v n,.move (.c (.int .i64 i)),none⟩
abbrev oP (n x : Nat) : VOper:=⟨.t n,.move (.t x),none⟩
abbrev oA (n s a b : Nat) : VOper:=⟨.t n,.indexAddr s (.t a) (.t b),none⟩
abbrev oQ (n k x : Nat) : VOper:=⟨.t n,.fieldAddr k (.t x),none⟩
abbrev oC (n : Nat) (f : FuncId) (l : List VArg) : VOper:=⟨.t n,.call f l,none⟩
abbrev oE (n x k : Nat) : VOper:=⟨.t n,.extract (.t x) k,none⟩
abbrev oS (s x y : Nat) : VOper:=⟨.none,.store s (.v x) (.t y),none⟩
abbrev oI (n x : Nat) : VOper:=⟨.t n,.bin .add (.t x) (.c (.int .i64 1)),none⟩
abbrev oO (n x y : Nat) : VOper:=⟨.t n,.pick (.t x) (.c (.bool true)) (.t y),none⟩
abbrev oB (n x y : Nat) : VOper:=⟨.t n,.pick (.t x) (.t y) (.c (.bool false)),none⟩
abbrev oR (n s x : Nat) : VOper:=⟨.t n,.load (some s) (.t x),none⟩
abbrev oY (n x : Nat) : VOper:=⟨.t n,.len (.t x),none⟩
abbrev oX (n s x : Nat) : VOper:=⟨.v n,.box s (.v x),none⟩
abbrev oU (n x y : Nat) : VOper:=⟨.v n,.bin .lss (.t x) (.t y),none⟩
abbrev gL (n x g : Nat) (b : Bool) : VOper:=⟨.t n,.load none (.t x),some (.t g,b)⟩
abbrev gF (n k x g : Nat) (b : Bool) : VOper:=⟨.t n,.fieldAddr k (.v x),some (.t g,b)⟩
abbrev gM (n x g : Nat) (b : Bool) : VOper:=⟨.t n,.move (.v x),some (.t g,b)⟩
inductive VRet where
 | tmp (x : VArg)
 | cell (x : VArg) (agg : Option Nat)
 deriving Inhabited
structure VFunc where
 vs : List Nat
 nparams : Nat
 body : VCode
 rets : List VRet
 deriving Inhabited
structure St where
 pe : Nat -> VVal
 h : VHeap
inductive VExit where
 | normal
 | exit (id : Nat)
 | ret
 deriving DecidableEq
abbrev Sig:=FuncId -> List VVal -> List Ob -> Option (VVal × List Ob)
def vcells : VVal -> List VVal
 | .agg cs=>cs
 | v=>[v]
def ofCells (agg : Option Nat) (cs : List VVal) (off : Nat) : Option VVal :=
 match agg with
 | none=>cs[off]?
 | some n=>gd (off + n <= cs.length) (some (.agg ((cs.drop off).take n)))
def vrow (h : VHeap) : VVal -> Option (List VVal × Nat)
 | .ptr id ver off=>match h id with
  | some (v,.box cs)=>gd (v = ver) (some (cs,off))
  | _=>none
 | .vptr cs off=>some (cs.map .p,off)
 | .pcell p=>some ([p],0)
 | .eptr id ver i off=>match h id with
  | some (v,.arr _ xs)=>gd (v = ver) (ob xs[i]? fun x=>some (x.cells.map .p,off))
  | _=>none
 | _=>none
def vload (h : VHeap) (agg : Option Nat) (a : VVal) : Option VVal:=ob (vrow h a) fun r=>ofCells agg r.1 r.2
def unP : VVal -> Option PV
 | .p d=>some d
 | .fn f []=>some (.fn f)
 | _=>none
def mapO {α β : Type} (f : α -> Option β) : List α -> Option (List β)
 | []=>some []
 | x :: xs=>ob (f x) fun y=>ob (mapO f xs) fun ys=>some (y :: ys)
def freezeP : VVal -> Option PV
 | .agg cs=>ob (mapO unP cs) fun ds=>some (.agg ds)
 | v=>unP v
def velems (h : VHeap) : VVal -> Option (Nat × List PV)
 | .p (.slice sz xs)=>some (sz,xs)
 | .own id ver off len=>match h id with
  | some (v,.arr sz xs)=>gd (v = ver) (some (sz,(xs.drop off).take len))
  | _=>none
 | _=>none
def vlen : VVal -> Option Nat
 | .p (.slice _ xs)=>some xs.length
 | .own _ _ _ len=>some len
 | .plist ps=>some ps.length
 | _=>none
def vlenS : VVal -> Option Nat
 | .p (.str s)=>some s.size
 | _=>none
def splice {α : Type} (cs : List α) (off : Nat) (vs : List α) : List α:=cs.take off ++ vs ++ cs.drop (off + vs.length)
def setCells (x : PV) (off : Nat) (ds : List PV) : PV :=
 match x with
 | .agg cs=>.agg (splice cs off ds)
 | y=>ds.headD y
def solid : VVal -> Bool
 | .p _ | .own _ _ _ _ | .ptr _ _ _ | .vptr _ _ | .eptr _ _ _ _ | .mref _ _ | .fn _ _=>true
 | _=>false
def vstoreAt (h : VHeap) (n : Nat) (vs : List VVal) : VVal -> Option (List (Id × Nat × Ob))
 | .ptr id ver off=>match h id with
  | some (v,.box cs)=>gd (v = ver) (gd (off + n <= cs.length) (some [(id,v,.box (splice cs off vs))]))
  | _=>none
 | .eptr id ver i off=>match h id with
  | some (v,.arr sz xs)=>gd (v = ver) (ob xs[i]? fun x0=>ob (mapO unP vs) fun ds=>gd (off + n <= x0.cells.length) (some [(id,v,.arr sz (xs.set i (setCells x0 off ds)))]))
  | _=>none
 | _=>none
def vstore (h : VHeap) (n : Nat) (a x : VVal) : Option (List (Id × Nat × Ob)) :=
 gd ((vcells x).length = n) (gd ((vcells x).all solid = true) (vstoreAt h n (vcells x) a))
def isPtr : VVal -> Bool
 | .ptr _ _ _ | .vptr _ _ | .eptr _ _ _ _=>true
 | _=>false
def vindexAt (h : VHeap) (sz i : Nat) : VVal -> Option VVal
 | .plist ps=>gd (sz = 1) (ob ps[i]? fun p=>some (.pcell p))
 | .p (.slice sz' xs)=>gd (sz' = sz) (ob xs[i]? fun x=>some (.vptr x.cells 0))
 | .own id ver off len=>match h id with
  | some (v,.arr sz' _)=>gd (v = ver) (gd (sz' = sz) (gd (i < len) (some (.eptr id ver (off + i) 0))))
  | _=>none
 | _=>none
def vindex (h : VHeap) (sz : Nat) (s : VVal) (n : Int) : Option VVal:=gd (0 <= n) (vindexAt h sz n.toNat s)
def zcell (d : Nat) (h : VHeap) (j : Nat) : ZC -> VVal × List (Id × Nat × Ob)
 | .c x=>(.p x,[])
 | .nil sz=>(.own (.slot d (j + 1)) (nv (h (.slot d (j + 1)))) 0 0,[(.slot d (j + 1),nv (h (.slot d (j + 1))),.arr sz [])])
def zcells (d : Nat) : VHeap -> Nat -> List ZC -> List VVal × List (Id × Nat × Ob)
 | _,_,[]=>([],[])
 | h,j,z :: zs=>((zcell d h j z).1 :: (zcells d (h.upds (zcell d h j z).2) (j + 1) zs).1,(zcell d h j z).2 ++ (zcells d (h.upds (zcell d h j z).2) (j + 1) zs).2)
def bcells (look : VArg -> Option VVal) (d : Nat) : VHeap -> Nat -> List BC -> Option (List VVal × List (Id × Nat × Ob))
 | _,_,[]=>some ([],[])
 | h,j,.z z :: bs=>ob (bcells look d (h.upds (zcell d h j z).2) (j + 1) bs) fun rs=>some ((zcell d h j z).1 :: rs.1,(zcell d h j z).2 ++ rs.2)
 | h,j,.a x i n :: bs=>ob (look x) fun v=>gd ((vcells v).length = n) <| ob (vcells v)[i]? fun c=>gd (solid c = true) <| ob (bcells look d h (j + 1) bs) fun rs=>some (c :: rs.1,rs.2)
def andI (k : IntKind) (a b : Int) : Int:=k.wrap (BitVec.ofInt k.bits a &&& BitVec.ofInt k.bits b).toNat
def orI (k : IntKind) (a b : Int) : Int:=k.wrap (BitVec.ofInt k.bits a ||| BitVec.ofInt k.bits b).toNat
def xorI (k : IntKind) (a b : Int) : Int:=k.wrap (BitVec.ofInt k.bits a ^^^ BitVec.ofInt k.bits b).toNat
def antI (k : IntKind) (a b : Int) : Int:=k.wrap (BitVec.ofInt k.bits a &&& ~~~ BitVec.ofInt k.bits b).toNat
def shlI (k : IntKind) (a b : Int) : Int:=k.wrap (a * 2 ^ min b.toNat k.bits)
def shrI (k : IntKind) (a b : Int) : Int:=a.fdiv (2 ^ min b.toNat k.bits)
def ibin (k : IntKind) (a b : Int) : BinOp -> Option VVal
 | .add=>some (.p (.int k (k.wrap (a + b))))
 | .sub=>some (.p (.int k (k.wrap (a - b))))
 | .mul=>some (.p (.int k (k.wrap (a * b))))
 | .quo=>gd (b ≠ 0) (some (.p (.int k (k.wrap (a.tdiv b)))))
 | .rem=>gd (b ≠ 0) (some (.p (.int k (a.tmod b))))
 | .and=>some (.p (.int k (andI k a b)))
 | .or=>some (.p (.int k (orI k a b)))
 | .xor=>some (.p (.int k (xorI k a b)))
 | .andNot=>some (.p (.int k (antI k a b)))
 | .eql=>some (.p (.bool (a == b)))
 | .neq=>some (.p (.bool (a != b)))
 | .lss=>some (.p (.bool (decide (a < b))))
 | .leq=>some (.p (.bool (decide (a <= b))))
 | .gtr=>some (.p (.bool (decide (b < a))))
 | .geq=>some (.p (.bool (decide (b <= a))))
 | _=>none
def sbin (a b : ByteArray) : BinOp -> Option VVal
 | .eql=>some (.p (.bool (decide (a = b))))
 | .neq=>some (.p (.bool (!decide (a = b))))
 | .add=>gd (a.size + b.size <= 9223372036854775807) (some (.p (.str (a ++ b))))
 | _=>none
def isSh : BinOp -> Bool
 | .shl | .shr=>true
 | _=>false
def ishift (k : IntKind) (a b : Int) : BinOp -> Option VVal
 | .shl=>gd (0 <= b) (some (.p (.int k (shlI k a b))))
 | .shr=>gd (0 <= b) (some (.p (.int k (shrI k a b))))
 | _=>none
def vbin (op : BinOp) : VVal -> VVal -> Option VVal
 | .p (.int k a),.p (.int k' b)=>br (isSh op) (ishift k a b op) (gd (k = k') (ibin k a b op))
 | .p (.str a),.p (.str b)=>sbin a b op
 | _,_=>none
def eq0 : KT -> PV -> PV -> Option Bool
 | .int k,.int k' a,.int k'' b=>gd (k' = k) (gd (k'' = k) (some (a == b)))
 | .bool,.bool a,.bool b=>some (a == b)
 | .str,.str a,.str b=>some (decide (a = b))
 | _,_,_=>none
def eqAll : List KT -> List PV -> List PV -> Option Bool
 | [],[],[]=>some true
 | k :: ks,x :: xs,y :: ys=>ob (eq0 k x y) fun b=>ob (eqAll ks xs ys) fun c=>some (b && c)
 | _,_,_=>none
def mm2 (isMax : Bool) : VVal -> VVal -> Option VVal
 | .p (.int k a),.p (.int k' b)=>gd (k = k') (some (.p (.int k (if isMax then max a b else min a b))))
 | _,_=>none
def mmL (isMax : Bool) : VVal -> List VVal -> Option VVal
 | v,[]=>some v
 | v,u :: us=>ob (mm2 isMax v u) fun r=>mmL isMax r us
def minmaxI (isMax : Bool) : List VVal -> Option VVal
 | []=>none
 | v :: vs=>mmL isMax v vs
def mkey : KT -> VVal -> Option MKey
 | .int k,.p (.int k' n)=>gd (k = k') (some (.int n))
 | .str,.p (.str s)=>some (.str s)
 | .bool,.p (.bool b)=>some (.bool b)
 | _,_=>none
def mget : List MKey -> List PV -> MKey -> Option PV
 | k :: ks,v :: vs,k'=>if k' = k then some v else mget ks vs k'
 | _,_,_=>none
def mput : List MKey -> List PV -> MKey -> PV -> List MKey × List PV
 | k :: ks,v :: vs,k',v'=>if k' = k then (k :: ks,v' :: vs) else
   let r:=mput ks vs k' v'
   (k :: r.1,v :: r.2)
 | _,_,k',v'=>([k'],[v'])
def kpos : List MKey -> MKey -> Nat
 | k :: ks,k'=>if k' = k then 0 else kpos ks k' + 1
 | [],_=>0
def ventries (h : VHeap) : VVal -> Option (KT × List MKey × List PV)
 | .p (.map kt ks vs)=>some (kt,ks,vs)
 | .mref id ver=>match h id with
  | some (v,.map kt ks vs)=>gd (v = ver) (some (kt,ks,vs))
  | _=>none
 | _=>none
def thaw : PV -> VVal
 | .agg cs=>.agg (cs.map .p)
 | d=>.p d
def vlookup (ok : Bool) (zero : PV) (ks : List MKey) (vs : List PV) (k : MKey) : VVal :=
 let r:=mget ks vs k
 let v:=thaw (r.getD zero)
 if ok then .tup [v,.p (.bool r.isSome)] else v
def vappend (h : VHeap) (sz bytes : Nat) (s x : VVal) : Option (VVal × List (Id × Nat × Ob)) :=
 match s with
 | .own id ver 0 len=>match h id with
  | some (v,.arr sz' xs)=>gd (v = ver) <| gd (sz' = sz) <| gd (len <= xs.length) <|
    ob (velems h x) fun r=>gd (r.1 = sz \/ r.2 = []) <| gd ((len + r.2.length) * bytes <= 140737488355328) <| gd (len + r.2.length <= 9223372036854775807) <|
     some (.own id (v + 1) 0 (len + r.2.length),[(id,v + 1,.arr sz (xs.take len ++ r.2))])
  | _=>none
 | _=>none
def vappendNil (d : Nat) (h : VHeap) (sz bytes : Nat) (x : VVal) : Option (VVal × List (Id × Nat × Ob)) :=
 ob (velems h x) fun r=>gd (r.1 = sz \/ r.2 = []) <| gd (r.2.length * bytes <= 140737488355328) <| gd (r.2.length <= 9223372036854775807) <|
  some (.own (.slot d 0) (nv (h (.slot d 0))) 0 r.2.length,[(.slot d 0,nv (h (.slot d 0)),.arr sz r.2)])
def vappendLit (d : Nat) (h : VHeap) (sz bytes : Nat) (s x : VVal) : Option (VVal × List (Id × Nat × Ob)) :=
 match s with
 | .p (.lit sz' xs)=>gd (sz' = sz) <| gd (0 < xs.length) <| ob (velems h x) fun r=>gd (r.1 = sz) <| gd (0 < r.2.length) <| gd ((xs.length + r.2.length) * bytes <= 140737488355328) <| gd (xs.length + r.2.length <= 9223372036854775807) <|
   some (.own (.slot d 0) (nv (h (.slot d 0))) 0 (xs.length + r.2.length),[(.slot d 0,nv (h (.slot d 0)),.arr sz (xs ++ r.2))])
 | _=>none
def natOf : VVal -> Option Nat
 | .p (.int _ n)=>gd (0 <= n) (some n.toNat)
 | _=>none
def optNat (look : VArg -> Option VVal) (d : Nat) : Option VArg -> Option Nat
 | none=>some d
 | some x=>ob (look x) fun v=>natOf v
def vcut (h : VHeap) (sz l m : Nat) : VVal -> Option (VVal × List (Id × Nat × Ob))
 | .p (.slice sz' xs)=>gd (sz' = sz) (some (.p (.slice sz ((xs.drop l).take (m - l))),[]))
 | .own id ver off _=>match h id with
  | some (v,.arr sz' _)=>gd (v = ver) (gd (sz' = sz) (some (.own id ver (off + l) (m - l),[])))
  | _=>none
 | _=>none
def vcut0 (d : Nat) (h : VHeap) (sz : Nat) : Option (VVal × List (Id × Nat × Ob)) :=
 some (.own (.slot d 0) (nv (h (.slot d 0))) 0 0,[(.slot d 0,nv (h (.slot d 0)),.arr sz [])])
def vcutM (d : Nat) (h : VHeap) (sz l m : Nat) : VVal -> Option (VVal × List (Id × Nat × Ob))
 | .own id ver off n=>vcut h sz l m (.own id ver off n)
 | _=>gd (l = m) (vcut0 d h sz)
def vcut3 (d : Nat) (h : VHeap) (look : VArg -> Option VVal) (sz l m : Nat) (s : VVal) : Option VArg -> Option (VVal × List (Id × Nat × Ob))
 | none=>vcut h sz l m s
 | some x=>ob (look x) fun v=>ob (natOf v) fun k=>gd (k = m) (vcutM d h sz l m s)
def vcutS (l m : Nat) : VVal -> Option (VVal × List (Id × Nat × Ob))
 | .p (.str b)=>some (.p (.str (b.extract l m)),[])
 | _=>none
def vsliceS (look : VArg -> Option VVal) (lo hi : Option VArg) (s : VVal) : Option (VVal × List (Id × Nat × Ob)) :=
 ob (vlenS s) fun n=>ob (optNat look 0 lo) fun l=>ob (optNat look n hi) fun m=>gd (l <= m) (gd (m <= n) (vcutS l m s))
def vslice (d : Nat) (h : VHeap) (look : VArg -> Option VVal) (sz : Nat) (lo hi mx : Option VArg) (s : VVal) : Option (VVal × List (Id × Nat × Ob)) :=
 ob (vlen s) fun n=>ob (optNat look 0 lo) fun l=>ob (optNat look n hi) fun m=>gd (l <= m) (gd (m <= n) (vcut3 d h look sz l m s mx))
def vnext (h : VHeap) : VVal -> Option (VVal × List (Id × Nat × Ob))
 | .ptr id ver 0=>match h id with
  | some (v,.iter s pos)=>gd (v = ver) (match s[pos]? with
   | some c=>gd (c.toNat < 128) (some (.tup [.p (.bool true),.p (.int .i64 pos),.p (.int .i32 c.toNat)],[(id,v,.iter s (pos + 1))]))
   | none=>some (.tup [.p (.bool false)],[]))
  | _=>none
 | _=>none
def cloArgs (cs : List PV) : List VVal:=cs.map fun c=>.vptr c.cells 0
def alive (h : VHeap) (id : Id) (ver : Nat) : Bool :=
 match h id with
 | some (v,_)=>decide (v = ver)
 | none=>false
def posOf (R : List Id) (id : Id) : Option Nat:=match R with
 | []=>none
 | r :: rs=>if r = id then some 0 else (posOf rs id).map (· + 1)
def ptrs0 : VVal -> List Id
 | .ptr id _ _=>[id]
 | _=>[]
def ptrs1 : VVal -> List Id
 | .fn _ caps=>caps.flatMap ptrs0
 | .agg cs=>cs.flatMap ptrs0
 | v=>ptrs0 v
def objPtrs (h : VHeap) (id : Id) : List Id :=
 match h id with
 | some (_,.box cs)=>cs.flatMap ptrs1
 | _=>[]
def addNew (R : List Id) : List Id -> List Id
 | []=>R
 | i :: is=>addNew (if R.contains i then R else R ++ [i]) is
def roots (h : VHeap) (args : List VVal) : List Id :=
 let r0:=addNew [] (args.flatMap ptrs1)
 if r0.isEmpty then [] else
 let r1:=addNew r0 (r0.flatMap (objPtrs h))
 let r2:=addNew r1 (r1.flatMap (objPtrs h))
 r2
def ext0 (R : List Id) (h : VHeap) : VVal -> Option VVal
 | .p d=>some (.p d)
 | .own id ver off len=>ob (velems h (.own id ver off len)) fun r=>some (.p (.slice r.1 r.2))
 | .mref id ver=>ob (ventries h (.mref id ver)) fun r=>some (.p (.map r.1 r.2.1 r.2.2))
 | .ptr id ver off=>gd (alive h id ver = true) (ob (posOf R id) fun i=>some (.ptr (.arg i 0) 0 off))
 | .vptr cs off=>some (.vptr cs off)
 | .eptr id ver i off=>match h id with
  | some (v,.arr _ xs)=>gd (v = ver) (ob xs[i]? fun x=>some (.vptr x.cells off))
  | _=>none
 | _=>none
def ext1 (R : List Id) (h : VHeap) : VVal -> Option VVal
 | .fn f caps=>ob (mapO (ext0 R h) caps) fun cs=>some (.fn f cs)
 | .agg cs=>ob (mapO (ext0 R h) cs) fun cs=>some (.agg cs)
 | v=>ext0 R h v
def lends0 : VVal -> Bool
 | .own _ _ _ _ | .mref _ _ | .eptr _ _ _ _=>true
 | _=>false
def lends : VVal -> Bool
 | .agg cs | .fn _ cs=>cs.any lends0
 | v=>lends0 v
def noAlias0 : VVal -> Bool
 | .p d=>d.flat
 | .fresh _ xs=>xs.all PV.flat
 | .ptr _ _ _=>true
 | _=>false
def noAlias1 : VVal -> Bool
 | .agg cs=>cs.all noAlias0
 | .boxed cs=>cs.all noAlias0
 | v=>noAlias0 v
def noAlias : VVal -> Bool
 | .tup vs=>vs.all noAlias1
 | v=>noAlias1 v
def flatC : VVal -> Bool
 | .p d=>d.flat
 | .ptr _ _ _=>true
 | .fn _ cs=>cs.all noAlias0
 | _=>false
def flatBox : Ob -> Bool
 | .box cs=>cs.all flatC
 | _=>false
def extBox (R : List Id) (h : VHeap) (id : Id) : Option Ob :=
 match h id with
 | some (_,.box cs)=>gd (cs.any lends = false) <| ob (mapO (ext1 R h) cs) fun cs=>some (.box cs)
 | _=>none
def back0 (R : List Id) (h : VHeap) : VVal -> Option VVal
 | .p d=>some (.p d)
 | .ptr (.arg i 0) 0 off=>ob R[i]? fun id=>ob (h id) fun o=>some (.ptr id o.1 off)
 | .eptr (.arg i 0) 0 j off=>ob R[i]? fun id=>ob (h id) fun o=>some (.eptr id o.1 j off)
 | _=>none
def back1 (R : List Id) (h : VHeap) : VVal -> Option VVal
 | .fn f caps=>ob (mapO (back0 R h) caps) fun cs=>some (.fn f cs)
 | v=>back0 R h v
def backBoxes (R : List Id) (h : VHeap) : List Id -> List Ob -> Option (List (Id × Nat × Ob))
 | [],[]=>some []
 | id :: ids,.box cs :: os=>ob (mapO (back1 R h) cs) fun cs'=>ob (h id) fun o=>ob (backBoxes R h ids os) fun us=>some ((id,o.1,.box cs') :: us)
 | _,_=>none
def in0 (R : List Id) (h : VHeap) (d j : Nat) : VVal -> Option (VVal × List (Id × Nat × Ob))
 | .fresh sz xs=>some (.own (.slot d (j + 1)) (nv (h (.slot d (j + 1)))) 0 xs.length,[(.slot d (j + 1),nv (h (.slot d (j + 1))),.arr sz xs)])
 | v=>ob (back0 R h v) fun v'=>some (v',[])
def inL (R : List Id) (h : VHeap) (d : Nat) : Nat -> List VVal -> Option (List VVal × List (Id × Nat × Ob))
 | _,[]=>some ([],[])
 | j,v :: vs=>ob (in0 R h d j v) fun r=>ob (inL R h d (j + 1) vs) fun rs=>some (r.1 :: rs.1,r.2 ++ rs.2)
def in1 (R : List Id) (h : VHeap) (d j : Nat) : VVal -> Option (VVal × List (Id × Nat × Ob))
 | .agg cs=>ob (inL R h d j cs) fun r=>some (.agg r.1,r.2)
 | .boxed cs=>ob (inL R h d (j + 1) cs) fun r=>some (.ptr (.slot d (j + 1)) (nv (h (.slot d (j + 1)))) 0,(.slot d (j + 1),nv (h (.slot d (j + 1))),.box r.1) :: r.2)
 | v=>in0 R h d j v
def width : VVal -> Nat
 | .agg cs=>cs.length
 | .boxed cs=>cs.length + 1
 | _=>1
def inT (R : List Id) (h : VHeap) (d : Nat) : Nat -> List VVal -> Option (List VVal × List (Id × Nat × Ob))
 | _,[]=>some ([],[])
 | j,v :: vs=>ob (in1 R h d j v) fun r=>ob (inT R h d (j + width v) vs) fun rs=>some (r.1 :: rs.1,r.2 ++ rs.2)
def inRes (R : List Id) (h : VHeap) (d : Nat) : VVal -> Option (VVal × List (Id × Nat × Ob))
 | .tup vs=>ob (inT R h d 0 vs) fun r=>some (.tup r.1,r.2)
 | v=>in1 R h d 0 v
def inW0 (R : List Id) (h : VHeap) (d j : Nat) : VVal -> Option (VVal × List (Id × Nat × Ob))
 | .own (.arg i 0) 0 off len=>ob R[i]? fun id=>ob (h id) fun o=>some (.own id o.1 off len,[])
 | .own (.arg i 0) 1 off len=>ob R[i]? fun id=>ob (h id) fun o=>some (.own id (o.1 + 1) off len,[])
 | v=>in0 R h d j v
def inLW (R : List Id) (h : VHeap) (d : Nat) : Nat -> List VVal -> Option (List VVal × List (Id × Nat × Ob))
 | _,[]=>some ([],[])
 | j,v :: vs=>ob (inW0 R h d j v) fun r=>ob (inLW R h d (j + 1) vs) fun rs=>some (r.1 :: rs.1,r.2 ++ rs.2)
def inResW (R : List Id) (h : VHeap) (d : Nat) : VVal -> Option (VVal × List (Id × Nat × Ob))
 | .own (.arg i 0) 0 off len=>ob R[i]? fun id=>ob (h id) fun o=>some (.own id o.1 off len,[])
 | .own (.arg i 0) 1 off len=>ob R[i]? fun id=>ob (h id) fun o=>some (.own id (o.1 + 1) off len,[])
 | .agg cs=>ob (inLW R h d 0 cs) fun r=>some (.agg r.1,r.2)
 | v=>inRes R h d v
def vcallR (Γ : Sig) (h : VHeap) (d : Nat) (f : FuncId) (args : List VVal) (R : List Id) : Option (VVal × List (Id × Nat × Ob)) :=
 ob (mapO (ext1 R h) args) fun args'=>ob (mapO (extBox R h) R) fun H=>ob (Γ f args' H) fun r =>
  gd (args.any lends = false \/ (noAlias r.1 = true /\ r.2.all flatBox = true)) <|
  ob (backBoxes R h R r.2) fun us=>ob (inRes R h d r.1) fun q=>some (q.1,us ++ q.2)
def vcallOp (Γ : Sig) (h : VHeap) (d : Nat) (f : FuncId) (args : List VVal) : Option (VVal × List (Id × Nat × Ob)):=vcallR Γ h d f args (roots h args)
def ptrsW0 : VVal -> List Id
 | .ptr id _ _ | .own id _ _ _ | .mref id _ | .eptr id _ _ _=>[id]
 | _=>[]
def ptrsW1 : VVal -> List Id
 | .fn _ caps=>caps.flatMap ptrsW0
 | .agg cs=>cs.flatMap ptrsW0
 | v=>ptrsW0 v
def objPtrsW (h : VHeap) (id : Id) : List Id :=
 match h id with
 | some (_,.box cs)=>cs.flatMap ptrsW1
 | _=>[]
def rootsW (h : VHeap) (args : List VVal) : List Id :=
 let r0:=addNew [] (args.flatMap ptrsW1)
 if r0.isEmpty then [] else
 let r1:=addNew r0 (r0.flatMap (objPtrsW h))
 let r2:=addNew r1 (r1.flatMap (objPtrsW h))
 r2
def extW0 (R : List Id) (h : VHeap) : VVal -> Option VVal
 | .p d=>some (.p d)
 | .vptr cs off=>some (.vptr cs off)
 | .ptr id ver off=>gd (alive h id ver = true) (ob (posOf R id) fun i=>some (.ptr (.arg i 0) 0 off))
 | .own id ver off len=>gd (alive h id ver = true) (ob (posOf R id) fun i=>some (.own (.arg i 0) 0 off len))
 | .mref id ver=>gd (alive h id ver = true) (ob (posOf R id) fun i=>some (.mref (.arg i 0) 0))
 | .eptr id ver j off=>gd (alive h id ver = true) (ob (posOf R id) fun i=>some (.eptr (.arg i 0) 0 j off))
 | _=>none
def extW1 (R : List Id) (h : VHeap) : VVal -> Option VVal
 | .fn f caps=>ob (mapO (extW0 R h) caps) fun cs=>some (.fn f cs)
 | .agg cs=>ob (mapO (extW0 R h) cs) fun cs=>some (.agg cs)
 | v=>extW0 R h v
def extObW (R : List Id) (h : VHeap) (id : Id) : Option Ob :=
 match h id with
 | some (_,.box cs)=>ob (mapO (extW1 R h) cs) fun cs=>some (.box cs)
 | some (_,.arr sz xs)=>some (.arr sz xs)
 | some (_,.map kt ks vs)=>some (.map kt ks vs)
 | _=>none
def backW0 (R : List Id) (h : VHeap) : VVal -> Option VVal
 | .p d=>some (.p d)
 | .ptr (.arg i 0) 0 off=>ob R[i]? fun id=>ob (h id) fun o=>some (.ptr id o.1 off)
 | .own (.arg i 0) ver off len=>ob R[i]? fun id=>ob (h id) fun o=>some (.own id (o.1 + ver) off len)
 | .mref (.arg i 0) 0=>ob R[i]? fun id=>ob (h id) fun o=>some (.mref id o.1)
 | .eptr (.arg i 0) 0 j off=>ob R[i]? fun id=>ob (h id) fun o=>some (.eptr id o.1 j off)
 | _=>none
def backW1 (R : List Id) (h : VHeap) : VVal -> Option VVal
 | .fn f caps=>ob (mapO (backW0 R h) caps) fun cs=>some (.fn f cs)
 | v=>backW0 R h v
def inC (R : List Id) (h : VHeap) (d j : Nat) : VVal -> Option (VVal × List (Id × Nat × Ob))
 | .fresh sz xs=>some (.own (.slot d (j + 1)) (nv (h (.slot d (j + 1))) + 1) 0 xs.length,[(.slot d (j + 1),nv (h (.slot d (j + 1))) + 1,.arr sz xs)])
 | v=>ob (backW1 R h v) fun v'=>some (v',[])
def inCL (R : List Id) (h : VHeap) (d : Nat) : Nat -> List VVal -> Option (List VVal × List (Id × Nat × Ob))
 | _,[]=>some ([],[])
 | j,v :: vs=>ob (inC R h d j v) fun r=>ob (inCL R h d (j + 1) vs) fun rs=>some (r.1 :: rs.1,r.2 ++ rs.2)
def backObs (R : List Id) (h : VHeap) (d : Nat) : Nat -> List Id -> List Ob -> Option (List (Id × Nat × Ob) × List (Id × Nat × Ob))
 | _,[],[]=>some ([],[])
 | j,id :: ids,o :: os=>ob (h id) fun q=>match q.2,o with
  | .box _,.box cs=>ob (inCL R h d j cs) fun r=>ob (backObs R h d (j + cs.length) ids os) fun us=>some ((id,q.1,.box r.1) :: us.1,r.2 ++ us.2)
  | .arr _ _,.arr sz xs=>ob (backObs R h d j ids os) fun us=>some ((id,q.1,.arr sz xs) :: us.1,us.2)
  | .arr _ _,.box [.undef,.fresh sz xs]=>ob (backObs R h d j ids os) fun us=>some ((id,q.1 + 1,.arr sz xs) :: us.1,us.2)
  | .map _ _ _,.map kt ks vs=>ob (backObs R h d j ids os) fun us=>some ((id,q.1,.map kt ks vs) :: us.1,us.2)
  | _,_=>none
 | _,_,_=>none
def apartRes (R : List Id) (as_ qs : List (Id × Nat × Ob)) : Bool:=qs.all fun x=>!R.contains x.1 && as_.all fun y=>!decide (y.1 = x.1)
def vcallRW (Γ : Sig) (h : VHeap) (d : Nat) (f : FuncId) (args : List VVal) (R : List Id) : Option (VVal × List (Id × Nat × Ob)) :=
 ob (mapO (extW1 R h) args) fun args'=>ob (mapO (extObW R h) R) fun H=>ob (Γ f args' H) fun r =>
  ob (backObs R h d 1000 R r.2) fun us=>ob (inResW R h d r.1) fun q=>gd (apartRes R us.2 q.2 = true) (some (q.1,us.1 ++ (us.2 ++ q.2)))
def vcallW (Γ : Sig) (h : VHeap) (d : Nat) (f : FuncId) (args : List VVal) : Option (VVal × List (Id × Nat × Ob)):=vcallRW Γ h d f args (rootsW h args)
def vcopy (h : VHeap) (sz : Nat) (a x : VVal) : Option (VVal × List (Id × Nat × Ob)) :=
 match a with
 | .own id ver off len=>match h id with
  | some (v,.arr sz' xs)=>gd (v = ver) <| gd (sz' = sz) <| ob (velems h x) fun r=>gd (r.1 = sz \/ r.2 = []) <|
    some (.p (.int .i64 (min len r.2.length : Nat)),[(id,v,.arr sz (splice xs off (r.2.take (min len r.2.length))))])
  | _=>none
 | _=>none
def vclear (h : VHeap) (sz : Nat) (zero : PV) (a : VVal) : Option (VVal × List (Id × Nat × Ob)) :=
 match a with
 | .own id ver off len=>match h id with
  | some (v,.arr sz' xs)=>gd (v = ver) <| gd (sz' = sz) (some (.dead,[(id,v,.arr sz (splice xs off (List.replicate len zero)))]))
  | _=>none
 | _=>none
def unU8 : PV -> Option Int
 | .int .u8 n=>some n
 | _=>none
def bytesI (ns : List Int) : ByteArray:=⟨(ns.map fun n=>UInt8.ofNat n.toNat).toArray⟩
open Classical in
noncomputable def stillC (h : VHeap) (us : List (Id × Nat × Ob)) : Bool:=decide (∀ x ∈ us,h x.1 = some x.2)
theorem stillC_nil {h : VHeap} : stillC h [] = true:=by simp [stillC]
theorem stillC_cons {h : VHeap} {i : Id} {n : Nat} {o : Ob} {us : List (Id × Nat × Ob)} : (stillC h ((i,n,o) :: us) = true) = (h i = some (n,o) /\ stillC h us = true):=by
 simp only [stillC,decide_eq_true_eq,lfm]
def Id.at : Id -> Nat -> Bool
 | .slot s _,d=>s == d
 | _,_=>false
def newU (d : Nat) : List (Id × Nat × Ob) -> List (Id × Nat × Ob)
 | []=>[]
 | x :: us=>if x.1.at d = true then x :: newU d us else newU d us
def oldU (d : Nat) : List (Id × Nat × Ob) -> List (Id × Nat × Ob)
 | []=>[]
 | x :: us=>if x.1.at d = true then oldU d us else x :: oldU d us
noncomputable def evalOp (Γ : Sig) (look : VArg -> Option VVal) (h : VHeap) (d : Nat) : VOp -> Option (VVal × List (Id × Nat × Ob))
 | .move x=>ob (look x) fun v=>some (v,[])
 | .newArr sz=>some (.own (.slot d 0) (nv (h (.slot d 0))) 0 0,[(.slot d 0,nv (h (.slot d 0)),.arr sz [])])
 | .pick c a b=>ob (look c) fun v=>match v with
  | .p (.bool t)=>br t (ob (look a) fun v=>some (v,[])) (ob (look b) fun v=>some (v,[]))
  | _=>none
 | .alloc zero=>some (.ptr (.slot d 0) (nv (h.upds (zcells d h 0 zero).2 (.slot d 0))) 0,(zcells d h 0 zero).2 ++ [(.slot d 0,nv (h.upds (zcells d h 0 zero).2 (.slot d 0)),.box (zcells d h 0 zero).1)])
 | .box n x=>ob (look x) fun v=>gd ((vcells v).length = n) <| gd ((vcells v).all solid = true) (some (.ptr (.slot d 0) (nv (h (.slot d 0))) 0,[(.slot d 0,nv (h (.slot d 0)),.box (vcells v))]))
 | .build cells=>ob (bcells look d h 0 cells) fun r=>some (.agg r.1,r.2)
 | .buildSlice sz parts=>ob (mapO (fun x=>ob (look x) fun v=>freezeP v) parts) fun xs =>
   gd (xs.all (fun x=>decide (x.cells.length = sz)) = true) (some (.own (.slot d 0) (nv (h (.slot d 0))) 0 parts.length,[(.slot d 0,nv (h (.slot d 0)),.arr sz xs)]))
 | .buildFz sz parts=>ob (mapO (fun x=>ob (look x) fun v=>freezeP v) parts) fun xs =>
   gd (xs.all (fun x=>decide (x.cells.length = sz)) = true) (some (.p (.slice sz xs),[]))
 | .load agg a=>ob (look a) fun p=>ob (vload h agg p) fun v=>some (v,[])
 | .store n a x=>ob (look a) fun p=>ob (look x) fun v=>ob (vstore h n p v) fun us=>some (.undef,us)
 | .fieldAddr off x=>ob (look x) fun v=>match v with
  | .ptr id ver o=>some (.ptr id ver (o + off),[])
  | .vptr cs o=>some (.vptr cs (o + off),[])
  | .eptr id ver i o=>some (.eptr id ver i (o + off),[])
  | _=>none
 | .field off agg x=>ob (look x) fun v=>match v with
  | .agg cs=>ob (ofCells agg cs off) fun r=>some (r,[])
  | _=>none
 | .indexAddr sz x i=>ob (look x) fun s=>ob (look i) fun n=>match n with
  | .p (.int _ n)=>ob (vindex h sz s n) fun r=>some (r,[])
  | _=>none
 | .indexStr x i=>ob (look x) fun s=>ob (look i) fun n=>match s,n with
  | .p (.str s),.p (.int _ n)=>gd (0 <= n) (ob s[n.toNat]? fun b=>some (.p (.int .u8 b.toNat),[]))
  | _,_=>none
 | .bin op x y=>ob (look x) fun a=>ob (look y) fun b=>ob (vbin op a b) fun r=>some (r,[])
 | .eqAgg neg kts x y=>ob (look x) fun a=>ob (look y) fun b=>match a,b with
  | .agg a,.agg b=>ob (mapO unP a) fun xs=>ob (mapO unP b) fun ys=>ob (eqAll kts xs ys) fun r=>some (.p (.bool (if neg then !r else r)),[])
  | _,_=>none
 | .not x=>ob (look x) fun v=>match v with
  | .p (.bool b)=>some (.p (.bool (!b)),[])
  | _=>none
 | .neg x=>ob (look x) fun v=>match v with
  | .p (.int k n)=>some (.p (.int k (k.wrap (0 - n))),[])
  | _=>none
 | .len x=>ob (look x) fun v=>ob (vlen v) fun n=>some (.p (.int .i64 n),[])
 | .lenStr x=>ob (look x) fun v=>ob (vlenS v) fun n=>some (.p (.int .i64 n),[])
 | .eqB neg x y=>ob (look x) fun a=>ob (look y) fun b=>match a,b with
  | .p (.bool a),.p (.bool b)=>some (.p (.bool (if neg then !(a == b) else a == b)),[])
  | _,_=>none
 | .append sz bytes s x=>ob (look s) fun a=>ob (look x) fun b=>vappend h sz bytes a b
 | .appendNil sz bytes x=>ob (look x) fun b=>vappendNil d h sz bytes b
 | .slice str sz lo hi mx x=>ob (look x) fun s=>br str (vsliceS look lo hi s) (vslice d h look sz lo hi mx s)
 | .lookup ok kt zero m k=>ob (look m) fun m=>ob (look k) fun k=>ob (ventries h m) fun es=>gd (es.1 = kt \/ es.2.1 = []) <| ob (mkey kt k) fun k=>some (vlookup ok zero es.2.1 es.2.2 k,[])
 | .mapUpdate kt m k x=>ob (look m) fun m=>ob (look k) fun k=>ob (look x) fun x=>ob (mkey kt k) fun k=>ob (freezeP x) fun x=>match m with
  | .mref id ver=>match h id with
   | some (v,.map kt' ks vs)=>gd (v = ver) <| gd (kt' = kt) (some (.undef,[(id,v,.map kt (mput ks vs k x).1 (mput ks vs k x).2)]))
   | _=>none
  | _=>none
 | .makeMap kt=>some (.mref (.slot d 0) (nv (h (.slot d 0))),[(.slot d 0,nv (h (.slot d 0)),.map kt [] [])])
 | .mapLen x=>ob (look x) fun m=>ob (ventries h m) fun es=>some (.p (.int .i64 es.2.1.length),[])
 | .extract x i=>ob (look x) fun v=>match v with
  | .tup vs=>ob vs[i]? fun v=>some (v,[])
  | _=>none
 | .minmax isMax xs=>ob (mapO look xs) fun vs=>ob (minmaxI isMax vs) fun r=>some (r,[])
 | .conv k x=>ob (look x) fun v=>match v with
  | .p (.int _ n)=>some (.p (.int k (k.wrap n)),[])
  | _=>none
 | .strBytes x=>ob (look x) fun v=>match v with
  | .p (.str s)=>some (.p (.slice 1 (s.data.toList.map fun b=>.int .u8 b.toNat)),[])
  | _=>none
 | .bytesStr x=>ob (look x) fun v=>ob (velems h v) fun r=>gd (r.1 = 1) <| ob (mapO unU8 r.2) fun ns=>some (.p (.str (bytesI ns)),[])
 | .nilCheck x=>ob (look x) fun v=>match v with
  | .ptr id ver off=>some (.ptr id ver off,[])
  | .vptr cs off=>some (.vptr cs off,[])
  | .eptr id ver i off=>some (.eptr id ver i off,[])
  | .fn f caps=>some (.fn f caps,[])
  | _=>none
 | .makeFunc f caps=>ob (mapO look caps) fun cs=>some (.fn f cs,[])
 | .call f args=>ob (mapO look args) fun vs=>vcallOp Γ h d f vs
 | .callv x args=>ob (look x) fun g=>ob (mapO look args) fun vs=>match g with
  | .fn f caps=>vcallOp Γ h d f (vs ++ caps)
  | .p (.fn f)=>vcallOp Γ h d f vs
  | .p (.clo f cs)=>vcallOp Γ h d f (vs ++ cloArgs cs)
  | _=>none
 | .callW f args=>ob (mapO look args) fun vs=>vcallW Γ h d f vs
 | .callR f args=>ob (mapO look args) fun vs=>ob (vcallW Γ h d f vs) fun q=>gd (stillC h q.2 = true) (some (q.1,[]))
 | .callvW x args=>ob (look x) fun g=>ob (mapO look args) fun vs=>match g with
  | .fn f caps=>vcallW Γ h d f (vs ++ caps)
  | .p (.fn f)=>vcallW Γ h d f vs
  | .p (.clo f cs)=>vcallW Γ h d f (vs ++ cloArgs cs)
  | _=>none
 | .make sz bytes zero n=>ob (look n) fun v=>match v with
  | .p (.int _ m)=>gd (0 <= m) <| gd ((bytes : Int) * m <= 281474976710656) <| gd (m <= 9223372036854775807) <|
    some (.own (.slot d 0) (nv (h (.slot d 0))) 0 m.toNat,[(.slot d 0,nv (h (.slot d 0)),.arr sz (List.replicate m.toNat zero))])
  | _=>none
 | .copy sz a x=>ob (look a) fun a=>ob (look x) fun x=>vcopy h sz a x
 | .clear sz zero a=>ob (look a) fun a=>vclear h sz zero a
 | .unlit x=>ob (look x) fun v=>match v with
  | .p (.lit sz xs)=>some (.p (.slice sz xs),[])
  | _=>none
 | .buildLit sz parts=>ob (mapO (fun x=>ob (look x) fun v=>freezeP v) parts) fun xs =>
   gd (xs.all (fun x=>decide (x.cells.length = sz)) = true) (some (.p (.lit sz xs),[]))
 | .appendLit sz bytes s x=>ob (look s) fun a=>ob (look x) fun b=>vappendLit d h sz bytes a b
 | .range x=>ob (look x) fun v=>match v with
  | .p (.str s)=>some (.ptr (.slot d 0) (nv (h (.slot d 0))) 0,[(.slot d 0,nv (h (.slot d 0)),.iter s 0)])
  | _=>none
 | .next x=>ob (look x) fun v=>vnext h v
 | .arrAddr n sz x i=>ob (look x) fun v=>ob (look i) fun i=>match i with
  | .p (.int _ k)=>gd (0 <= k) <| gd (k < n) <| match v with
   | .ptr id ver o=>some (.ptr id ver (o + k.toNat * sz),[])
   | .vptr cs o=>some (.vptr cs (o + k.toNat * sz),[])
   | .eptr id ver j o=>some (.eptr id ver j (o + k.toNat * sz),[])
   | _=>none
  | _=>none
 | .callA f args=>ob (mapO look args) fun vs=>ob (vcallW Γ h d f vs) fun q=>gd (stillC h (oldU d q.2) = true) (some (q.1,newU d q.2))
 | .buildPtrs parts=>ob (mapO look parts) fun vs=>gd (vs.all isPtr = true) (some (.plist vs,[]))
 | .mapEntry kt zero m k=>ob (look m) fun m=>ob (look k) fun k=>ob (mkey kt k) fun k=>match m with
  | .mref id ver=>match h id with
   | some (v,.map kt' ks vs)=>gd (v = ver) <| gd (kt' = kt) (some (.tup [thaw ((mget ks vs k).getD zero),.p (.int .i64 (kpos ks k))],[(id,v,.map kt (mput ks vs k ((mget ks vs k).getD zero)).1 (mput ks vs k ((mget ks vs k).getD zero)).2)]))
   | _=>none
  | _=>none
 | .entryStore m s x=>ob (look m) fun m=>ob (look s) fun s=>ob (look x) fun x=>ob (freezeP x) fun x=>match m,s with
  | .mref id ver,.p (.int .i64 n)=>match h id with
   | some (v,.map kt ks vs)=>gd (v = ver) <| gd (0 <= n) <| gd (n.toNat < vs.length) (some (.undef,[(id,v,.map kt ks (vs.set n.toNat x))]))
   | _=>none
  | _,_=>none
 | .buildArr sz parts=>ob (mapO (fun x=>ob (look x) fun v=>freezeP v) parts) fun xs=>gd (xs.all (fun x=>decide (x.cells.length = sz)) = true) (some (.agg ((xs.flatMap PV.cells).map .p),[]))
 | .indexArr n sz agg x i=>ob (look x) fun v=>ob (look i) fun i=>match v,i with
  | .agg cs,.p (.int _ k)=>gd (0 <= k) <| gd (k < n) <| ob (ofCells agg cs (k.toNat * sz)) fun r=>some (r,[])
  | _,_=>none
end Go.V
namespace Go.V
structure RS where
 pe : Nat -> VVal
 te : Nat -> Option VVal
 h : VHeap
def RS.look (r : RS) : VArg -> Option VVal
 | .v s=>some (r.pe s)
 | .t s=>r.te s
 | .c d=>some (thaw d)
def updV (e : Nat -> VVal) (s : Nat) (v : VVal) : Nat -> VVal:=fun t=>if t = s then v else e t
def updT (e : Nat -> Option VVal) (s : Nat) (v : VVal) : Nat -> Option VVal:=fun t=>if t = s then some v else e t
def RS.put (r : RS) : VDst -> VVal -> RS
 | .v s,v=>{ r with pe:=updV r.pe s v }
 | .t s,v=>{ r with te:=updT r.te s v }
 | .none,_=>r
def VDst.slot : VDst -> Nat
 | .v s | .t s=>s
 | .none=>0
noncomputable def stepO (Γ : Sig) (o : VOper) (r : RS) : Option RS :=
 match o.guard with
 | none=>ob (evalOp Γ r.look r.h o.dst.slot o.op) fun q=>some { r.put o.dst q.1 with h:=r.h.upds q.2 }
 | some (g,want)=>ob (r.look g) fun gv=>match gv with
  | .p (.bool b)=>br (b == want) (ob (evalOp Γ r.look r.h o.dst.slot o.op) fun q=>some { r.put o.dst q.1 with h:=r.h.upds q.2 })
   (some (r.put o.dst .undef))
  | .undef=>some (r.put o.dst .undef)
  | _=>none
def ids0 : VVal -> List Id
 | .own id _ _ _ | .ptr id _ _ | .eptr id _ _ _ | .mref id _=>[id]
 | _=>[]
def ids1 : VVal -> List Id
 | .fn _ cs | .agg cs=>cs.flatMap ids0
 | v=>ids0 v
def VOp.args : VOp -> List VArg
 | .move x | .box _ x | .load _ x | .fieldAddr _ x | .field _ _ x | .not x | .neg x | .len x | .lenStr x | .appendNil _ _ x | .mapLen x | .extract x _ | .conv _ x | .strBytes x | .bytesStr x | .nilCheck x | .make _ _ _ x | .clear _ _ x | .unlit x | .range x | .next x=>[x]
 | .newArr _ | .alloc _ | .makeMap _=>[]
 | .pick c a b=>[c,a,b]
 | .build cs=>cs.filterMap fun | .a x _ _=>some x | .z _=>none
 | .buildSlice _ ps=>ps
 | .buildFz _ ps=>ps
 | .buildPtrs ps=>ps
 | .buildLit _ ps=>ps
 | .store _ a x | .indexAddr _ a x | .indexStr a x | .bin _ a x | .eqAgg _ _ a x | .eqB _ a x | .append _ _ a x | .lookup _ _ _ a x | .copy _ a x | .appendLit _ _ a x=>[a,x]
 | .slice _ _ lo hi mx x=>x :: (lo.toList ++ hi.toList ++ mx.toList)
 | .mapUpdate _ m k x=>[m,k,x]
 | .mapEntry _ _ m k=>[m,k]
 | .entryStore m s x=>[m,s,x]
 | .buildArr _ ps=>ps
 | .indexArr _ _ _ x i=>[x,i]
 | .arrAddr _ _ x i=>[x,i]
 | .minmax _ xs | .makeFunc _ xs | .call _ xs | .callW _ xs | .callR _ xs | .callA _ xs=>xs
 | .callv x xs | .callvW x xs=>x :: xs
def VOp.writes : VOp -> Bool
 | .store _ _ _ | .append _ _ _ _ | .mapUpdate _ _ _ _ | .call _ _ | .callv _ _ | .callW _ _ | .callvW _ _ | .copy _ _ _ | .mapEntry _ _ _ _ | .entryStore _ _ _ | .clear _ _ _ | .next _=>true
 | _=>false
def VOp.isR : VOp -> Bool
 | .callR _ _ | .callA _ _=>true
 | _=>false
def callArgs : VOp -> List VVal -> List VVal
 | .callv _ _,.fn _ caps :: vs=>vs ++ caps
 | .callv _ _,.p (.clo _ cs) :: vs=>vs ++ cloArgs cs
 | .callv _ _,_ :: vs=>vs
 | .callvW _ _,.fn _ caps :: vs=>vs ++ caps
 | .callvW _ _,.p (.clo _ cs) :: vs=>vs ++ cloArgs cs
 | .callvW _ _,_ :: vs=>vs
 | _,vs=>vs
def callRoots (h : VHeap) : VOp -> List VVal -> List Id
 | .callW _ _,vs | .callvW _ _,vs | .callR _ _,vs | .callA _ _,vs=>rootsW h vs
 | _,vs=>roots h vs
def touchF (look : VArg -> Option VVal) (h : VHeap) (o : VOper) : List Id :=
 let vs:=o.op.args.filterMap look
 vs.flatMap ids1 ++ (if o.op.writes || o.op.isR then (callArgs o.op vs).flatMap ids1 ++ callRoots h o.op (callArgs o.op vs) else [])
def touch (r : RS) (o : VOper) : List Id:=touchF r.look r.h o
def headFp : List Id -> List Id
 | []=>[]
 | i :: _=>[i]
def VOp.wrFp : VOp -> List Id -> List Id
 | .append _ _ _ _,t=>headFp t
 | _,t=>t
def apartFp (o o' : VOper) (t t' : List Id) : Bool :=
 (!o.op.writes || (o.op.wrFp t).all fun i=>!t'.contains i) && (!o'.op.writes || (o'.op.wrFp t').all fun i=>!t.contains i) &&
 t.all (fun i=>!i.at o'.dst.slot) && t'.all (fun i=>!i.at o.dst.slot) && o.dst.slot != o'.dst.slot
noncomputable def runOps (Γ : Sig) : List VOper -> RS -> Option RS
 | [],r=>some r
 | o :: os,r=>ob (stepO Γ o r) fun r'=>runOps Γ os r'
def checkFp (fp : List (Nat × Nat)) (i : Nat) (o : VOper) (t : List Id) : List (Nat × VOper × List Id) -> Bool
 | []=>true
 | (a,o',t') :: acc=>if fp.contains (a,i) = true then apartFp o' o t' t && checkFp fp i o t acc else checkFp fp i o t acc
def fpL (fp : List (Nat × Nat)) (i : Nat) : Bool:=fp.any fun p=>p.1 == i
def fpR (fp : List (Nat × Nat)) (i : Nat) : Bool:=fp.any fun p=>p.2 == i
def noteFp (fp : List (Nat × Nat)) (i : Nat) (o : VOper) (r : RS) (acc : List (Nat × VOper × List Id)) : List (Nat × VOper × List Id) :=
 if fpL fp i = true then (i,o,touch r o) :: acc else acc
noncomputable def runFp (Γ : Sig) (fp : List (Nat × Nat)) : Nat -> List VOper -> RS -> List (Nat × VOper × List Id) -> Option RS
 | _,[],r,_=>some r
 | i,o :: os,r,acc=>if fpR fp i = true then gd (checkFp fp i o (touch r o) acc = true) <| ob (stepO Γ o r) fun r'=>runFp Γ fp (i + 1) os r' (noteFp fp i o r acc)
   else ob (stepO Γ o r) fun r'=>runFp Γ fp (i + 1) os r' (noteFp fp i o r acc)
def fzId (fz : List Nat) : Id -> Bool
 | .slot s _=>fz.contains s
 | .arg _ _=>false
def fz0 (fz : List Nat) (h : VHeap) : VVal -> VVal
 | .own id ver off len=>if fzId fz id then
   match velems h (.own id ver off len) with
   | some r=>.p (.slice r.1 r.2)
   | none=>.dead
  else .own id ver off len
 | v=>v
def fz1 (fz : List Nat) (h : VHeap) : VVal -> VVal
 | .agg cs=>.agg (cs.map (fz0 fz h))
 | .tup vs=>.tup (vs.map (fz0 fz h))
 | v=>fz0 fz h v
def fzOb (fz : List Nat) (h : VHeap) (id : Id) : Option (Nat × Ob) :=
 match h id with
 | some (v,.arr sz xs)=>if fzId fz id then some (v + 1,.gone) else some (v,.arr sz xs)
 | some (v,.box cs)=>some (v,.box (cs.map (fz0 fz h)))
 | o=>o
def freeze (fz : List Nat) (s : St) : St:=if fz.isEmpty then s else { pe:=fun t=>fz1 fz s.h (s.pe t),h:=fzOb fz s.h }
noncomputable def execR (Γ : Sig) (r : VRegion) (s : St) : Option St :=
 ob (if r.fp.isEmpty then runOps Γ r.ops { pe:=(freeze r.fz s).pe,te:=fun _=>none,h:=(freeze r.fz s).h }
   else runFp Γ r.fp 0 r.ops { pe:=(freeze r.fz s).pe,te:=fun _=>none,h:=(freeze r.fz s).h } []) fun q=>some { pe:=q.pe,h:=q.h }
def mv0 (a b : Id) (va n : Nat) : VVal -> VVal
 | .own id ver off len=>if id = a /\ ver = va then .own b n off len else .own id ver off len
 | .eptr id ver i off=>if id = a /\ ver = va then .eptr b n i off else .eptr id ver i off
 | v=>v
def mv1 (a b : Id) (va n : Nat) : VVal -> VVal
 | .agg cs=>.agg (cs.map (mv0 a b va n))
 | .tup vs=>.tup (vs.map (mv0 a b va n))
 | v=>mv0 a b va n v
def mvOb (a b : Id) (va n sz : Nat) (xs : List PV) (h : VHeap) : VHeap:=fun id=>if id = b then some (n,.arr sz xs) else if id = a then some (va + 1,.gone) else
 match h id with
 | some (v,.box cs)=>some (v,.box (cs.map (mv0 a b va n)))
 | o=>o
def moved (a b : Id) (s : St) : St:=match s.h a with
 | some (va,.arr sz xs)=>{ pe:=fun t=>mv1 a b va (nv (s.h b)) (s.pe t),h:=mvOb a b va (nv (s.h b)) sz xs s.h }
 | _=>s
def iterN (b : St -> Option (VExit × St)) : Nat -> St -> Option (VExit × St)
 | 0,_=>none
 | n + 1,s=>ob (b s) fun r=>match r.1 with
  | .normal=>iterN b n r.2
  | _=>some r
open Classical in
noncomputable def iter (b : St -> Option (VExit × St)) (s : St) : Option (VExit × St) :=
 if h : ∃ n r,iterN b n s = some r then some (Classical.choose (Classical.choose_spec h)) else none
noncomputable def exec (Γ : Sig) : VCode -> St -> Option (VExit × St)
 | .skip,s=>some (.normal,s)
 | .region r,s=>ob (execR Γ r s) fun s'=>some (.normal,s')
 | .seq a b,s=>ob (exec Γ a s) fun r=>match r.1 with
  | .normal=>exec Γ b r.2
  | _=>some r
 | .cond c a b,s=>match c with
  | .v t=>match s.pe t with
   | .p (.bool c)=>br c (exec Γ a s) (exec Γ b s)
   | _=>none
  | _=>none
 | .block id c,s=>ob (exec Γ c s) fun r=>if r.1 = .exit id then some (.normal,r.2) else some r
 | .loop c,s=>iter (exec Γ c) s
 | .exit id,s=>some (.exit id,s)
 | .ret,s=>some (.ret,s)
 | .mv a b c,s=>exec Γ c (moved a b s)
 | .scope c,s=>exec Γ c s
 | .fail,_=>none
def enterE (args : List VVal) : Nat -> VVal:=fun s=>args.getD s .undef
def enterH (H : List Ob) : VHeap:=fun id=>match id with
 | .arg i 0=>(H[i]?).map fun o=>(0,o)
 | _=>none
def fetch (s : St) : VRet -> Option VVal
 | .tmp (.v t)=>some (s.pe t)
 | .cell (.v t) agg=>vload s.h agg (s.pe t)
 | _=>none
def outCap (h : VHeap) : VVal -> Option PV
 | .ptr (.slot s j) ver 0=>match h (.slot s j) with
  | some (v,.box cs)=>gd (v = ver) (ob (mapO unP cs) fun ds=>some (.agg ds))
  | _=>none
 | _=>none
def out0 (h : VHeap) : VVal -> Option VVal
 | .p d=>some (.p d)
 | .own (.slot s j) ver off len=>ob (velems h (.own (.slot s j) ver off len)) fun r=>gd (off = 0) (some (.fresh r.1 r.2))
 | .mref (.slot s j) ver=>ob (ventries h (.mref (.slot s j) ver)) fun r=>some (.p (.map r.1 r.2.1 r.2.2))
 | .ptr (.arg i 0) ver off=>gd (ver = 0) (some (.ptr (.arg i 0) 0 off))
 | .eptr (.arg i 0) ver j off=>gd (ver = 0) (some (.eptr (.arg i 0) 0 j off))
 | .fn f []=>some (.p (.fn f))
 | .fn f (c :: cs)=>ob (mapO (outCap h) (c :: cs)) fun ds=>some (.p (.clo f ds))
 | _=>none
def out1 (h : VHeap) : VVal -> Option VVal
 | .agg cs=>ob (mapO (out0 h) cs) fun cs=>some (.agg cs)
 | .ptr (.slot s j) ver 0=>match h (.slot s j) with
  | some (v,.box cs)=>gd (v = ver) (ob (mapO (out0 h) cs) fun cs=>some (.boxed cs))
  | _=>none
 | v=>out0 h v
def nodupB : List Id -> Bool
 | []=>true
 | i :: is=>!is.contains i && nodupB is
def ownIds0 : VVal -> List Id
 | .own id _ _ _=>[id]
 | _=>[]
def ownIds1 (h : VHeap) : VVal -> List Id
 | .agg cs=>cs.flatMap ownIds0
 | .ptr id _ _=>match h id with
  | some (_,.box cs)=>id :: cs.flatMap ownIds0
  | _=>[id]
 | v=>ownIds0 v
def capIds0 : VVal -> List Id
 | .fn _ cs=>cs.flatMap ids0
 | _=>[]
def capIds1 (h : VHeap) : VVal -> List Id
 | .agg cs=>cs.flatMap capIds0
 | .ptr id _ _=>match h id with
  | some (_,.box cs)=>cs.flatMap capIds0
  | _=>[]
 | v=>capIds0 v
def outW0 (h : VHeap) : VVal -> Option VVal
 | .own (.arg i 0) ver off len=>gd (alive h (.arg i 0) ver = true) (some (.own (.arg i 0) (if ver = 0 then 0 else 1) off len))
 | v=>out0 h v
def outO (h : VHeap) : VVal -> Option VVal
 | .agg cs=>ob (mapO (outW0 h) cs) fun cs=>some (.agg cs)
 | .own (.arg i 0) ver off len=>gd (alive h (.arg i 0) ver = true) (some (.own (.arg i 0) (if ver = 0 then 0 else 1) off len))
 | v=>out1 h v
def outsT (h : VHeap) : List VVal -> Option VVal
 | [v]=>outO h v
 | vs=>ob (mapO (out1 h) vs) fun vs=>some (.tup vs)
def newIds0 : VVal -> List Id
 | .own (.slot s j) _ _ _=>[.slot s j]
 | _=>[]
def argOwns (h : VHeap) : Nat -> Nat -> List Id
 | _,0=>[]
 | i,n + 1=>(match h (.arg i 0) with
  | some (_,.box cs)=>cs.flatMap newIds0
  | _=>[]) ++ argOwns h (i + 1) n
def capsApart (h : VHeap) (n : Nat) (vs : List VVal) : Bool:=(vs.flatMap (capIds1 h)).all fun i=>!(vs.flatMap (ownIds1 h) ++ argOwns h 0 n).contains i
def outs (h : VHeap) (n : Nat) (vs : List VVal) : Option VVal:=gd (nodupB (vs.flatMap (ownIds1 h) ++ argOwns h 0 n) = true) (gd (capsApart h n vs = true) (outsT h vs))
def outArg1 (h : VHeap) : VVal -> Option VVal
 | .p d=>some (.p d)
 | .ptr (.arg i 0) ver off=>gd (ver = 0) (some (.ptr (.arg i 0) 0 off))
 | .own (.arg i 0) ver off len=>gd (alive h (.arg i 0) ver = true) (some (.own (.arg i 0) (if ver = 0 then 0 else 1) off len))
 | .own (.slot s j) ver off len=>ob (velems h (.own (.slot s j) ver off len)) fun r=>gd (off = 0) (some (.fresh r.1 r.2))
 | .mref (.arg i 0) ver=>gd (ver = 0) (some (.mref (.arg i 0) 0))
 | _=>none
def outArg (h : VHeap) : VVal -> Option VVal
 | .fn f caps=>ob (mapO (outArg1 h) caps) fun cs=>some (.fn f cs)
 | v=>outArg1 h v
def outBox (h : VHeap) (i : Nat) : Option Ob :=
 match h (.arg i 0) with
 | some (v,.box cs)=>gd (v = 0) (ob (mapO (outArg h) cs) fun cs=>some (.box cs))
 | some (v,.arr sz xs)=>some (if v = 0 then .arr sz xs else .box [.undef,.fresh sz xs])
 | some (v,.map kt ks vs)=>gd (v = 0) (some (.map kt ks vs))
 | _=>none
def outH (h : VHeap) : Nat -> Nat -> Option (List Ob)
 | _,0=>some []
 | i,n + 1=>ob (outBox h i) fun o=>ob (outH h (i + 1) n) fun os=>some (o :: os)
def leave (rets : List VRet) (n : Nat) (r : VExit × St) : Option (VVal × List Ob) :=
 match r.1 with
 | .exit _=>none
 | _=>ob (mapO (fetch r.2) rets) fun vs=>ob (outs r.2.h n vs) fun v=>ob (outH r.2.h 0 n) fun H'=>some (v,H')
noncomputable def callF (Γ : Sig) (vf : VFunc) (args : List VVal) (H : List Ob) : Option (VVal × List Ob) :=
 gd (args.length = vf.nparams) <|
  ob (exec Γ vf.body { pe:=enterE args,h:=enterH H }) fun r=>leave vf.rets H.length r
noncomputable def callN (prog : FuncId -> Option VFunc) (X : Sig) : Nat -> Sig
 | 0=>X
 | n + 1=>fun f args H=>match X f args H with
  | some r=>some r
  | none=>match prog f with
   | some vf=>callF (callN prog X n) vf args H
   | none=>none
open Classical in
noncomputable def vcall (prog : FuncId -> Option VFunc) (X : Sig) : Sig:=fun f args H =>
 if h : ∃ n r,callN prog X n f args H = some r then some (Classical.choose (Classical.choose_spec h)) else none
end Go.V
namespace Go.V
def vb7 : VCode:=.seq (rg [oV 2 (.move cF)]) (.seq (rg [oC 17 33 [],oV 3 (.alloc [.nil 6,.c (.int .i64 0)]),oS 2 3 17]) (.seq (rg [oM 18 0,oT 19 (.buildFz 1 [.t 18]),oC 20 12 [.t 19],oC 21 16 [.t 20,.c (.int .i64 4096)],oT 22 (.bin .add (cI 1) (.t 21)),oN 0 22]) (.seq (rg [oT 24 (.build [.z (.c (.int .i64 0)),.z (.c (.int .i64 0)),.z (.c (.int .i64 0)),.z (.c (.int .i64 0)),.z (.c (.int .i64 0)),.a (cI 1000000) 0 1,.a (cI 1073741824) 0 1]),oC 25 28 [.t 24],oP 23 25,oE 26 23 0,oE 27 23 1,oV 4 (.alloc [.c (.int .i64 0),.c (.int .i64 0),.c (.int .i64 0),.c (.int .i64 0),.c (.int .i64 0),.c (.int .i64 0),.c (.int .i64 0),.c (.int .i64 0),.c (.int .i64 0),.c (.int .i64 0),.nil 2,.nil 21,.nil 3,.nil 2,.nil 6,.nil 7]),oS 16 4 26,oN 5 27]) (.seq (.region ⟨[oK 29 2 3,oK 30 16 4,oT 31 (.build [.z (.c (.int .i64 0)),.a (cI 100) 0 1,.a (cI 1) 0 1,.a (cI 4611686018427387904) 0 1,.a (cI 4611686018427387904) 0 1,.a (cI 4611686018427387904) 0 1,.z (.c (.int .i64 0))]),oC 32 34 [.t 29,.t 30,.c (.int .i64 2),.t 31],oP 28 32,oE 33 28 0,oE 34 28 1,oS 16 4 33,oN 6 34],[17,25],[]⟩) (.seq (.seq (rg [oJ 7 0]) (.block 0 (.loop (.seq (.seq (.region ⟨[oM 35 7,oV 36 (.bin .lss (.t 35) (cI 256))],[8,32,48],[]⟩) (.cond (.v 36) .skip (.exit 0))) (.seq (.block 1 (.seq (rg [oK 40 2 3,oK 41 16 4,oM 42 7,oT 43 (.bin .rem (.t 42) (cI 2)),oT 44 (.bin .add (cI 1) (.t 43)),oM 45 0,oM 46 7,oT 47 (.build [.z (.c (.int .i64 0)),.a (.t 44) 0 1,.a (.t 46) 0 1,.a (.t 45) 0 1,.z (.c (.bool false)),.z (.c (.int .i64 0))]),oC 48 17 [.t 40,.t 41,.t 47],oP 39 48,oE 49 39 0,oE 50 39 1,oV 8 (.alloc [.c (.int .i64 0),.c (.int .i64 0),.c (.int .i64 0),.c (.int .i64 0),.c (.int .i64 0),.c (.int .i64 0),.c (.int .i64 0),.c (.int .i64 0),.c (.int .i64 0),.c (.int .i64 0),.nil 2,.nil 21,.nil 3,.nil 2,.nil 6,.nil 7]),oS 16 8 49,oN 9 50]) (.seq (.seq (rg [oM 51 9,oV 52 (.bin .neq (.t 51) (cI 0))]) (.cond (.v 52) (.seq (rg [oV 2 (.move cF)]) .ret) .skip)) (rg [oK 53 16 8,oS 16 4 53])))) (rg [oM 37 7,oI 38 37,oN 7 38])))))) (.seq (rg [oK 55 2 3,oK 56 16 4,oT 57 (.build [.z (.c (.int .i64 0)),.a (cI 1) 0 1,.z (.c (.int .i64 0)),.a (cI 1) 0 1,.z (.c (.bool false)),.z (.c (.int .i64 0))]),oC 58 17 [.t 55,.t 56,.t 57],oP 54 58,oE 59 54 0,oE 60 54 1,oT 10 (.alloc [.c (.int .i64 0),.c (.int .i64 0),.c (.int .i64 0),.c (.int .i64 0),.c (.int .i64 0),.c (.int .i64 0),.c (.int .i64 0),.c (.int .i64 0),.c (.int .i64 0),.c (.int .i64 0),.nil 2,.nil 21,.nil 3,.nil 2,.nil 6,.nil 7]),oZ (.store 16 (.t 10) (.t 59)),oN 11 60]) (.seq (rg [oK 62 2 3,oK 63 16 4,oC 64 19 [.t 62,.t 63],oP 61 64,oE 65 61 0,oE 66 61 1,oE 67 61 2,oV 12 (.alloc [.c (.int .i64 0),.c (.int .i64 0),.c (.int .i64 0),.c (.int .i64 0),.c (.int .i64 0),.c (.int .i64 0),.c (.int .i64 0),.c (.int .i64 0),.c (.int .i64 0),.c (.int .i64 0),.nil 2,.nil 21,.nil 3,.nil 2,.nil 6,.nil 7]),oS 16 12 65,oP 13 66,oN 14 67]) (.seq (rg [oJ 15 0]) (.seq (.seq (rg [oJ 16 0]) (.block 2 (.loop (.seq (.seq (rg [oM 68 16,oF 69 15 12,oL 70 69,oY 71 70,oU 72 68 71]) (.cond (.v 72) .skip (.exit 2))) (.seq (.block 3 (.seq (rg [oF 75 15 12,oL 76 75,oM 77 16,oA 78 7 76 77,oQ 79 0 78,oQ 80 1 79,oL 81 80,oV 82 (.bin .eql (.t 81) (cI 2))]) (.cond (.v 82) (rg [oM 83 15,oI 84 83,oN 15 84]) .skip))) (rg [oM 73 16,oI 74 73,oN 16 74])))))) (.seq (rg [oM 85 5,oT 86 (.bin .eql (.t 85) (cI 0)),oP 87 86,gM 88 6 87 true,oG 89 (.bin .eql (.t 88) (cI 0)) 87 true,oB 90 87 89,oP 91 90,gM 92 11 91 true,oG 93 (.bin .eql (.t 92) (cI 7)) 91 true,oB 94 91 93,oP 95 94,gM 96 14 95 true,oG 97 (.bin .eql (.t 96) (cI 0)) 95 true,oB 98 95 97,oP 99 98,gM 100 15 99 true,gM 101 0 99 true,oG 102 (.bin .quo (cI 4096) (.t 101)) 99 true,oG 103 (.minmax false [.t 102,.c (.int .i64 128)]) 99 true,oG 104 (.bin .eql (.t 100) (.t 103)) 99 true,oB 105 99 104,oP 106 105,gF 107 14 12 106 true,gL 108 107 106 true,oG 109 (.len (.t 108)) 106 true,gF 110 15 12 106 true,gL 111 110 106 true,oG 112 (.len (.t 111)) 106 true,oG 113 (.bin .add (.t 109) (.t 112)) 106 true,oG 114 (.bin .eql (.t 113) (cI 256)) 106 true,oB 115 106 114,oP 116 115,oG 117 (.call 11 []) 116 true,oB 118 116 117,oN 2 118]) .ret))))))))))
def vf7 : VFunc:={ vs:=[0,2,3,4,5,6,7,8,9,11,12,14,15,16,36,52,72,82],nparams:=1,rets:=[.tmp (.v 2)],body:=vb7 }
def vb8 : VCode:=.seq (rg [oV 2 (.move cF)]) (.seq (.seq (rg [oM 24 0,oC 25 10 [.t 24],oV 26 (.not (.t 25))]) (.cond (.v 26) (.seq (rg [oC 27 11 [],oN 2 27]) .ret) .skip)) (.seq (rg [oM 28 0,oC 29 12 [.t 28],oN 3 29]) (.seq (rg [oM 30 3,oC 31 13 [.t 30,.c (.int .i64 4)],oV 4 (.alloc [.nil 6,.c (.int .i64 0)]),oS 2 4 31]) (.seq (rg [oM 33 3,oC 34 15 [.t 33],oC 35 14 [.t 34],oP 32 35,oE 36 32 0,oE 37 32 1,oV 5 (.alloc [.c (.int .i64 0),.c (.int .i64 0),.c (.int .i64 0),.c (.int .i64 0),.c (.int .i64 0),.c (.int .i64 0),.c (.int .i64 0),.c (.int .i64 0),.c (.int .i64 0),.c (.int .i64 0),.nil 2,.nil 21,.nil 3,.nil 2,.nil 6,.nil 7]),oS 16 5 36,oP 6 37]) (.seq (rg [oM 38 3,oC 39 35 [.t 38,.c (.int .i64 0)],oV 7 (.alloc [.c (.int .i64 0),.c (.int .i64 0),.c (.int .i64 0),.c (.int .i64 0),.c (.int .i64 0),.c (.int .i64 0),.c (.int .i64 0)]),oS 7 7 39]) (.seq (.region ⟨[oF 40 0 4,oL 41 40,oM 42 3,oF 43 0 4,oL 44 43,oY 45 44,oC 46 16 [.t 42,.t 45],oA 47 6 41 46,oQ 48 0 47,oL 49 48,oN 8 49],[],[(1,6)]⟩) (.seq (.region ⟨[oK 51 2 4,oK 52 16 5,oM 53 8,oK 54 7 7,oC 55 34 [.t 51,.t 52,.t 53,.t 54],oP 50 55,oE 56 50 0,oE 57 50 1,oS 16 5 56,oN 9 57],[35],[]⟩) (.seq (.seq (rg [oM 58 9,oV 59 (.bin .neq (.t 58) (cI 0))]) (.cond (.v 59) (.seq (rg [oV 2 (.move cF)]) .ret) .skip)) (.seq (rg [oV 10 (.alloc [.c (.int .i64 0),.c (.int .i64 0)]),oV 11 (.alloc [.c (.int .i64 0),.c (.int .i64 0)])]) (.seq (.seq (rg [oJ 12 1]) (.block 0 (.loop (.seq (.seq (.region ⟨[oM 60 12,oV 61 (.bin .leq (.t 60) (cI 40))],[14,16,55,76,85],[]⟩) (.cond (.v 61) .skip (.exit 0))) (.seq (.block 1 (.seq (.seq (rg [oM 64 3,oC 65 16 [.t 64,.c (.int .i64 3)],oN 13 65]) (.block 2 (.loop (.seq (.seq (.region ⟨[oM 66 13,oV 67 (.bin .gtr (.t 66) (cI 0))],[14,76],[]⟩) (.cond (.v 67) .skip (.exit 2))) (.seq (.block 3 (.seq (.region ⟨[oK 71 2 4,oK 72 16 5,oM 73 3,oK 74 2 4,oC 75 18 [.t 73,.t 74],oC 76 17 [.t 71,.t 72,.t 75],oP 70 76,oE 77 70 0,oE 78 70 1,oV 14 (.alloc [.c (.int .i64 0),.c (.int .i64 0),.c (.int .i64 0),.c (.int .i64 0),.c (.int .i64 0),.c (.int .i64 0),.c (.int .i64 0),.c (.int .i64 0),.c (.int .i64 0),.c (.int .i64 0),.nil 2,.nil 21,.nil 3,.nil 2,.nil 6,.nil 7]),oS 16 14 77,oN 15 78],[],[(0,4),(1,4),(0,9),(1,9),(3,9),(4,9),(5,9)]⟩) (.seq (.seq (rg [oM 79 15,oV 80 (.bin .neq (.t 79) (cI 0))]) (.cond (.v 80) (.seq (rg [oV 2 (.move cF)]) .ret) .skip)) (rg [oK 81 16 14,oS 16 5 81])))) (rg [oM 68 13,oT 69 (.bin .sub (.t 68) (cI 1)),oN 13 69])))))) (.seq (rg [oK 83 2 4,oK 84 16 5,oC 85 19 [.t 83,.t 84],oP 82 85,oE 86 82 0,oE 87 82 1,oE 88 82 2,oV 16 (.alloc [.c (.int .i64 0),.c (.int .i64 0),.c (.int .i64 0),.c (.int .i64 0),.c (.int .i64 0),.c (.int .i64 0),.c (.int .i64 0),.c (.int .i64 0),.c (.int .i64 0),.c (.int .i64 0),.nil 2,.nil 21,.nil 3,.nil 2,.nil 6,.nil 7]),oS 16 16 86,oP 17 87,oN 18 88]) (.seq (.seq (rg [oM 89 18,oV 90 (.bin .neq (.t 89) (cI 0))]) (.cond (.v 90) (.seq (rg [oV 2 (.move cF)]) .ret) .skip)) (.seq (.seq (rg [oJ 19 0]) (.block 4 (.loop (.seq (.seq (rg [oM 91 19,oV 92 (.bin .lss (.t 91) (cI 2))]) (.cond (.v 92) .skip (.exit 4))) (.seq (.block 5 (.seq (rg [oK 96 2 4,oK 97 16 5,oM 98 8,oM 99 19,oT 100 (.bin .eql (.t 99) (cI 1)),oC 101 36 [.t 96,.t 97,.t 98,.t 100],oP 95 101,oE 102 95 0,oE 103 95 1,oN 20 102,oN 21 103]) (.seq (rg [oK 105 2 4,oK 106 16 16,oM 107 8,oM 108 19,oT 109 (.bin .eql (.t 108) (cI 1)),oC 110 36 [.t 105,.t 106,.t 107,.t 109],oP 104 110,oE 111 104 0,oE 112 104 1,oN 22 111,oN 23 112]) (.region ⟨[oM 113 19,oM 114 19,oM 115 19,oT 116 (.arrAddr 2 1 (.v 10) (.t 115)),oL 117 116,oM 118 20,oT 119 (.bin .add (.t 117) (.t 118)),oM 120 22,oT 121 (.bin .sub (.t 119) (.t 120)),oM 122 19,oT 123 (.arrAddr 2 1 (.v 11) (.t 122)),oL 124 123,oM 125 21,oT 126 (.bin .add (.t 124) (.t 125)),oM 127 23,oT 128 (.bin .sub (.t 126) (.t 127)),oT 129 (.arrAddr 2 1 (.v 10) (.t 113)),oZ (.store 1 (.t 129) (.t 121)),oT 130 (.arrAddr 2 1 (.v 11) (.t 114)),oZ (.store 1 (.t 130) (.t 128))],[],[(11,17)]⟩)))) (rg [oM 93 19,oI 94 93,oN 19 94])))))) (.seq (rg [oK 131 16 16,oS 16 5 131]) (.seq (rg [oF 132 0 10,oL 133 132,oF 134 2 7,oL 135 134,oM 136 12,oC 137 37 [.t 133,.t 135,.c (.int .i64 4096),.t 136],oT 138 (.not (.t 137)),oP 139 138,gF 140 1 10 139 false,gL 141 140 139 false,gF 142 3 7 139 false,gL 143 142 139 false,gM 144 12 139 false,oG 145 (.call 37 [.t 141,.t 143,.c (.int .i64 4096),.t 144]) 139 false,oG 146 (.not (.t 145)) 139 false,oO 147 139 146,oP 148 147,gF 149 0 11 148 false,gL 150 149 148 false,gF 151 4 7 148 false,gL 152 151 148 false,gM 153 12 148 false,oG 154 (.call 37 [.t 150,.t 152,.c (.int .i64 1),.t 153]) 148 false,oG 155 (.not (.t 154)) 148 false,oO 156 148 155,oP 157 156,gF 158 1 11 157 false,gL 159 158 157 false,gF 160 5 7 157 false,gL 161 160 157 false,gM 162 12 157 false,oG 163 (.call 37 [.t 159,.t 161,.c (.int .i64 1),.t 162]) 157 false,oG 164 (.not (.t 163)) 157 false,oV 165 (.pick (.t 157) cT (.t 164))]) (.cond (.v 165) (.seq (rg [oV 2 (.move cF)]) .ret) .skip)))))))) (rg [oM 62 12,oI 63 62,oN 12 63])))))) (.seq (rg [oC 166 11 [],oN 2 166]) .ret)))))))))))
def vf8 : VFunc:={ vs:=[0,2,3,4,5,7,8,9,10,11,12,13,14,15,16,18,19,20,21,22,23,26,59,61,67,80,90,92,165],nparams:=1,rets:=[.tmp (.v 2)],body:=vb8 }
def vb10 : VCode:=.seq (rg [oV 2 (.move cF)]) (.seq (rg [oM 3 0,oY 4 3,oT 5 (.bin .leq (.t 4) (cI 600)),oN 2 5]) .ret)
def vf10 : VFunc:={ vs:=[0,2],nparams:=1,rets:=[.tmp (.v 2)],body:=vb10 }
def vb11 : VCode:=.seq (rg [oV 0 (.move cF)]) (.seq (rg [oC 11 33 [],oV 1 (.alloc [.nil 6,.c (.int .i64 0)]),oS 2 1 11]) (.seq (rg [oT 13 (.build [.z (.c (.int .i64 0)),.a (cI 10) 0 1,.z (.c (.int .i64 0)),.a (cI 10) 0 1,.z (.c (.int .i64 0))]),oT 14 (.build [.a (.t 13) 0 5,.a (.t 13) 1 5,.a (.t 13) 2 5,.a (.t 13) 3 5,.a (.t 13) 4 5,.a (cI 10) 0 1,.z (.c (.int .i64 0))]),oC 15 28 [.t 14],oP 12 15,oE 16 12 0,oE 17 12 1,oV 2 (.alloc [.c (.int .i64 0),.c (.int .i64 0),.c (.int .i64 0),.c (.int .i64 0),.c (.int .i64 0),.c (.int .i64 0),.c (.int .i64 0),.c (.int .i64 0),.c (.int .i64 0),.c (.int .i64 0),.nil 2,.nil 21,.nil 3,.nil 2,.nil 6,.nil 7]),oS 16 2 16,oN 3 17]) (.seq (.region ⟨[oK 19 2 1,oK 20 16 2,oT 21 (.build [.z (.c (.int .i64 0)),.a (cI 2) 0 1,.z (.c (.int .i64 0)),.a (cI 3) 0 1,.z (.c (.bool false)),.z (.c (.int .i64 0))]),oC 22 17 [.t 19,.t 20,.t 21],oP 18 22,oE 23 18 0,oE 24 18 1,oS 16 2 23,oN 4 24],[11,15],[]⟩) (.seq (.region ⟨[oK 26 2 1,oK 27 16 2,oT 28 (.build [.z (.c (.int .i64 0)),.a (cI 2) 0 1,.a (cI 3) 0 1,.a (cI 1) 0 1,.z (.c (.bool false)),.z (.c (.int .i64 0))]),oC 29 17 [.t 26,.t 27,.t 28],oP 25 29,oE 30 25 0,oE 31 25 1,oS 16 2 30,oN 5 31],[22],[]⟩) (.seq (rg [oV 6 (.newArr 7)]) (.seq (.seq (rg [oJ 7 0]) (.block 0 (.loop (.seq (.seq (.region ⟨[oM 32 7,oV 33 (.bin .lss (.t 32) (cI 4))],[8,29,39],[]⟩) (.cond (.v 33) .skip (.exit 0))) (.seq (.block 1 (.seq (rg [oK 37 2 1,oK 38 16 2,oC 39 19 [.t 37,.t 38],oP 36 39,oE 40 36 0,oE 41 36 1,oE 42 36 2,oV 8 (.alloc [.c (.int .i64 0),.c (.int .i64 0),.c (.int .i64 0),.c (.int .i64 0),.c (.int .i64 0),.c (.int .i64 0),.c (.int .i64 0),.c (.int .i64 0),.c (.int .i64 0),.c (.int .i64 0),.nil 2,.nil 21,.nil 3,.nil 2,.nil 6,.nil 7]),oS 16 8 40,oN 9 41,oN 10 42]) (.seq (.seq (rg [oM 43 10,oT 44 (.bin .neq (.t 43) (cI 0)),oP 45 44,gM 46 7 45 false,oG 47 (.bin .lss (.t 46) (cI 2)) 45 false,oG 48 (.move (.t 47)) 45 false,gM 49 9 48 true,oG 50 (.len (.t 49)) 48 true,oG 51 (.bin .gtr (.t 50) (cI 0)) 48 true,oG 52 (.pick (.t 48) (.t 51) cF) 45 false,oV 53 (.pick (.t 45) cT (.t 52))]) (.cond (.v 53) (.seq (rg [oV 0 (.move cF)]) .ret) .skip)) (.seq (.region ⟨[oK 54 16 8,oM 55 6,oM 56 9,oT 57 (.append 7 56 (.t 55) (.t 56)),oS 16 2 54,oN 6 57],[],[(0,3)]⟩) (.seq (rg [oM 58 7,oT 59 (.bin .eql (.t 58) (cI 0)),oP 60 59,gF 61 8 2 60 true,gL 62 61 60 true,oG 63 (.bin .neq (.t 62) (cI 30)) 60 true,oB 64 60 63,oP 65 64,gM 66 7 65 false,oG 67 (.bin .eql (.t 66) (cI 2)) 65 false,oG 68 (.move (.t 67)) 65 false,gF 69 14 2 68 true,gL 70 69 68 true,oG 71 (.len (.t 70)) 68 true,oG 72 (.bin .neq (.t 71) (cI 1)) 68 true,oG 73 (.pick (.t 68) (.t 72) cF) 65 false,oO 74 65 73,oP 75 74,gM 76 7 75 false,oG 77 (.bin .eql (.t 76) (cI 3)) 75 false,oG 78 (.move (.t 77)) 75 false,gF 79 14 2 78 true,gL 80 79 78 true,oG 81 (.len (.t 80)) 78 true,oG 82 (.bin .neq (.t 81) (cI 0)) 78 true,oG 83 (.pick (.t 78) (.t 82) cF) 75 false,oV 84 (.pick (.t 75) cT (.t 83))]) (.cond (.v 84) (.seq (rg [oV 0 (.move cF)]) .ret) .skip)))))) (rg [oM 34 7,oI 35 34,oN 7 35])))))) (.seq (rg [oM 85 3,oT 86 (.bin .eql (.t 85) (cI 0)),oP 87 86,gM 88 4 87 true,oG 89 (.bin .eql (.t 88) (cI 0)) 87 true,oB 90 87 89,oP 91 90,gM 92 5 91 true,oG 93 (.bin .eql (.t 92) (cI 0)) 91 true,oB 94 91 93,oP 95 94,gM 96 6 95 true,oG 97 (.len (.t 96)) 95 true,oG 98 (.bin .eql (.t 97) (cI 1)) 95 true,oB 99 95 98,oP 100 99,gM 101 6 100 true,oG 102 (.indexAddr 7 (.t 101) (cI 0)) 100 true,oG 103 (.fieldAddr 6 (.t 102)) 100 true,gL 104 103 100 true,oG 105 (.bin .eql (.t 104) (cI 3)) 100 true,oB 106 100 105,oP 107 106,oG 108 (.load (some 16) (.v 2)) 107 true,oG 109 (.call 41 [.t 108,.c (.int .i64 0)]) 107 true,oG 110 (.bin .eql (.t 109) (cI 1)) 107 true,oB 111 107 110,oN 0 111]) .ret)))))))
def vf11 : VFunc:={ vs:=[0,1,2,3,4,5,6,7,8,9,10,33,53,84],nparams:=0,rets:=[.tmp (.v 0)],body:=vb11 }
def vb12 : VCode:=.seq (rg [oV 2 (.move (.c (.nilp)))]) (.seq (rg [oM 3 0,oT 4 (.build [.a (.t 3) 0 1,.z (.c (.int .i64 0))]),oT 5 (.box 2 (.t 4)),oN 2 5]) .ret)
def vf12 : VFunc:={ vs:=[0,2],nparams:=1,rets:=[.tmp (.v 2)],body:=vb12 }
def vb13 : VCode:=.seq (rg [oV 4 (.alloc [.nil 6,.c (.int .i64 0)])]) (.seq (rg [oC 13 42 [],oV 5 (.alloc [.nil 6,.c (.int .i64 0)]),oS 2 5 13]) (.seq (.seq (rg [oM 14 0,oM 15 1,oI 16 15,oC 17 16 [.t 14,.t 16],oN 6 17]) (.block 0 (.loop (.seq (.seq (.region ⟨[oM 18 6,oV 19 (.bin .gtr (.t 18) (cI 0))],[8,11,13,37,58],[]⟩) (.cond (.v 19) .skip (.exit 0))) (.seq (.block 1 (.seq (.region ⟨[oF 22 0 5,oL 23 22,oM 24 0,oF 25 0 5,oL 26 25,oY 27 26,oC 28 16 [.t 24,.t 27],oA 29 6 23 28,oQ 30 0 29,oL 31 30,oN 7 31],[],[(1,6)]⟩) (.seq (.seq (.region ⟨[oK 33 2 5,oM 34 7,oM 35 0,oC 36 44 [.t 35],oC 37 43 [.t 33,.t 34,.t 36],oP 32 37,oE 38 32 0,oE 39 32 1,oE 40 32 2,oV 8 (.alloc [.nil 6,.c (.int .i64 0)]),oS 2 8 38,oP 9 39,oN 10 40],[],[(0,3),(0,9),(3,9),(4,9)]⟩) (.seq (rg [oM 41 10,oV 42 (.bin .eql (.t 41) (cI 0))]) (.cond (.v 42) (rg [oK 43 2 8,oS 2 5 43]) .skip))) (.seq (rg [oM 44 0,oV 45 (.call 45 [.t 44,.c (.int .i64 6)])]) (.cond (.v 45) (.seq (.region ⟨[oK 47 2 5,oF 48 0 5,oL 49 48,oM 50 0,oF 51 0 5,oL 52 51,oY 53 52,oC 54 16 [.t 50,.t 53],oA 55 6 49 54,oQ 56 0 55,oL 57 56,oC 58 46 [.t 47,.t 57],oP 46 58,oE 59 46 0,oE 60 46 1,oV 11 (.alloc [.nil 6,.c (.int .i64 0)]),oS 2 11 59,oN 12 60],[],[(0,7),(2,7),(0,15),(2,15),(5,15),(7,15),(8,15),(10,15),(11,15)]⟩) (.seq (rg [oM 61 12,oV 62 (.bin .eql (.t 61) (cI 0))]) (.cond (.v 62) (rg [oK 63 2 11,oS 2 5 63]) .skip))) .skip))))) (rg [oM 20 6,oT 21 (.bin .sub (.t 20) (cI 1)),oN 6 21])))))) (.seq (rg [oK 64 2 5,oS 2 4 64]) .ret)))
def vf13 : VFunc:={ vs:=[0,1,4,5,6,7,8,10,11,12,19,42,45,62],nparams:=2,rets:=[.cell (.v 4) (some 2)],body:=vb13 }
def vb14 : VCode:=.seq (rg [oX 1 7 0,oV 2 (.alloc [.c (.int .i64 0),.c (.int .i64 0),.c (.int .i64 0),.c (.int .i64 0),.c (.int .i64 0),.c (.int .i64 0),.c (.int .i64 0),.c (.int .i64 0),.c (.int .i64 0),.c (.int .i64 0),.nil 2,.nil 21,.nil 3,.nil 2,.nil 6,.nil 7]),oJ 3 0]) (.seq (.seq (rg [oK 4 7 1,oC 5 47 [.t 4],oV 6 (.not (.t 5))]) (.cond (.v 6) (.seq (rg [oT 7 (.build [.z (.c (.int .i64 0)),.z (.c (.int .i64 0)),.z (.c (.int .i64 0)),.z (.c (.int .i64 0)),.z (.c (.int .i64 0)),.z (.c (.int .i64 0)),.z (.c (.int .i64 0)),.z (.c (.int .i64 0)),.z (.c (.int .i64 0)),.z (.c (.int .i64 0)),.z (.nil 2),.z (.nil 21),.z (.nil 3),.z (.nil 2),.z (.nil 6),.z (.nil 7)]),oS 16 2 7,oJ 3 3]) .ret) .skip)) (.seq (rg [oK 8 7 1,oT 9 (.build [.a (.t 8) 0 7,.a (.t 8) 1 7,.a (.t 8) 2 7,.a (.t 8) 3 7,.a (.t 8) 4 7,.a (.t 8) 5 7,.a (.t 8) 6 7,.z (.c (.int .i64 0)),.z (.c (.int .i64 0)),.z (.c (.int .i64 0)),.z (.nil 2),.z (.nil 21),.z (.nil 3),.z (.nil 2),.z (.nil 6),.z (.nil 7)]),oS 16 2 9,oJ 3 0]) .ret))
def vf14 : VFunc:={ vs:=[0,1,2,3,6],nparams:=1,rets:=[.cell (.v 2) (some 16),.tmp (.v 3)],body:=vb14 }
def vb15 : VCode:=.seq (rg [oV 2 (.alloc [.c (.int .i64 0),.c (.int .i64 0),.c (.int .i64 0),.c (.int .i64 0),.c (.int .i64 0),.c (.int .i64 0),.c (.int .i64 0)])]) (.seq (rg [oM 3 0,oC 4 48 [.t 3],oM 5 0,oT 6 (.buildFz 1 [.c (.int .i64 1),.c (.int .i64 10),.c (.int .i64 100),.c (.int .i64 1000)]),oC 7 38 [.t 5,.t 6],oM 8 0,oT 9 (.buildFz 1 [.c (.int .i64 0),.c (.int .i64 10),.c (.int .i64 1000)]),oC 10 38 [.t 8,.t 9],oT 11 (.build [.a (.t 4) 0 5,.a (.t 4) 1 5,.a (.t 4) 2 5,.a (.t 4) 3 5,.a (.t 4) 4 5,.a (.t 7) 0 1,.a (.t 10) 0 1]),oS 7 2 11]) .ret)
def vf15 : VFunc:={ vs:=[0,2],nparams:=1,rets:=[.cell (.v 2) (some 7)],body:=vb15 }
def vb16 : VCode:=.seq (rg [oJ 4 0]) (.seq (.seq (rg [oM 6 0,oT 7 (.nilCheck (.t 6)),oQ 8 1 7,oL 9 8,oM 10 0,oT 11 (.nilCheck (.t 10)),oQ 12 0 11,oL 13 12,oY 14 13,oT 15 (.bin .geq (.t 9) (.t 14)),oP 16 15,gM 17 1 16 false,oG 18 (.bin .lss (.t 17) (cI 1)) 16 false,oV 19 (.pick (.t 16) cT (.t 18))]) (.cond (.v 19) (.seq (rg [oJ 4 0]) .ret) .skip)) (.seq (rg [oM 20 0,oT 21 (.nilCheck (.t 20)),oQ 22 1 21,oL 23 22,oI 24 23,oT 25 (.nilCheck (.t 20)),oQ 26 1 25,oZ (.store 1 (.t 26) (.t 24))]) (.seq (rg [oM 27 0,oT 28 (.nilCheck (.t 27)),oQ 29 0 28,oL 30 29,oM 31 0,oT 32 (.nilCheck (.t 31)),oQ 33 1 32,oL 34 33,oT 35 (.bin .sub (.t 34) (cI 1)),oA 36 1 30 35,oL 37 36,oM 38 1,oT 39 (.bin .rem (.t 37) (.t 38)),oN 5 39]) (.seq (.seq (rg [oM 40 5,oV 41 (.bin .lss (.t 40) (cI 0))]) (.cond (.v 41) (rg [oM 42 5,oM 43 1,oT 44 (.bin .add (.t 42) (.t 43)),oN 5 44]) .skip)) (.seq (rg [oM 45 5,oN 4 45]) .ret)))))
def vf16 : VFunc:={ vs:=[0,1,4,5,19,41],nparams:=2,rets:=[.tmp (.v 4)],body:=vb16 }
def vb17 : VCode:=.seq (rg [oX 3 2 0,oX 4 16 1,oX 5 6 2,oV 6 (.alloc [.c (.int .i64 0),.c (.int .i64 0),.c (.int .i64 0),.c (.int .i64 0),.c (.int .i64 0),.c (.int .i64 0),.c (.int .i64 0),.c (.int .i64 0),.c (.int .i64 0),.c (.int .i64 0),.nil 2,.nil 21,.nil 3,.nil 2,.nil 6,.nil 7]),oJ 7 0]) (.seq (.seq (rg [oK 10 2 3,oK 11 16 4,oK 12 6 5,oC 13 49 [.t 10,.t 11,.t 12],oN 8 13]) (.seq (rg [oM 14 8,oV 15 (.bin .neq (.t 14) (cI 0))]) (.cond (.v 15) (.seq (rg [oT 16 (.build [.z (.c (.int .i64 0)),.z (.c (.int .i64 0)),.z (.c (.int .i64 0)),.z (.c (.int .i64 0)),.z (.c (.int .i64 0)),.z (.c (.int .i64 0)),.z (.c (.int .i64 0)),.z (.c (.int .i64 0)),.z (.c (.int .i64 0)),.z (.c (.int .i64 0)),.z (.nil 2),.z (.nil 21),.z (.nil 3),.z (.nil 2),.z (.nil 6),.z (.nil 7)]),oM 17 8,oS 16 6 16,oN 7 17]) .ret) .skip))) (.seq (.seq (rg [oF 18 14 4,oL 19 18,oY 20 19,oF 21 15 4,oL 22 21,oY 23 22,oT 24 (.bin .add (.t 20) (.t 23)),oV 25 (.bin .eql (.t 24) (cI 256))]) (.cond (.v 25) (.seq (rg [oT 26 (.build [.z (.c (.int .i64 0)),.z (.c (.int .i64 0)),.z (.c (.int .i64 0)),.z (.c (.int .i64 0)),.z (.c (.int .i64 0)),.z (.c (.int .i64 0)),.z (.c (.int .i64 0)),.z (.c (.int .i64 0)),.z (.c (.int .i64 0)),.z (.c (.int .i64 0)),.z (.nil 2),.z (.nil 21),.z (.nil 3),.z (.nil 2),.z (.nil 6),.z (.nil 7)]),oS 16 6 26,oJ 7 7]) .ret) .skip)) (.seq (rg [oF 27 7 4,oL 28 27,oF 29 5 5,oZ (.store 1 (.t 29) (.t 28))]) (.seq (rg [oK 30 2 3,oK 31 16 4,oC 32 50 [.t 30,.t 31],oN 9 32]) (.seq (.region ⟨[oM 33 9,oM 34 9,oT 35 (.nilCheck (.t 34)),oQ 36 0 35,oQ 37 14 36,oL 38 37,oK 39 6 5,oT 40 (.buildSlice 6 [.t 39]),oT 41 (.append 6 48 (.t 38) (.t 40)),oT 42 (.nilCheck (.t 33)),oQ 43 0 42,oQ 44 14 43,oZ (.store 1 (.t 44) (.t 41))],[],[(5,7)]⟩) (.seq (rg [oM 45 9,oT 46 (.nilCheck (.t 45)),oQ 47 0 46,oR 48 16 47,oS 16 6 48,oJ 7 0]) .ret))))))
def vf17 : VFunc:={ vs:=[0,1,2,3,4,5,6,7,8,9,15,25],nparams:=3,rets:=[.cell (.v 6) (some 16),.tmp (.v 7)],body:=vb17 }
def vb18 : VCode:=.seq (rg [oX 3 2 1,oV 4 (.alloc [.c (.int .i64 0),.c (.int .i64 0),.c (.int .i64 0),.c (.int .i64 0),.c (.bool false),.c (.int .i64 0)])]) (.seq (.region ⟨[oM 6 0,oC 7 16 [.t 6,.c (.int .i64 6)],oF 8 0 3,oL 9 8,oM 10 0,oF 11 0 3,oL 12 11,oY 13 12,oC 14 16 [.t 10,.t 13],oA 15 6 9 14,oQ 16 0 15,oL 17 16,oM 18 0,oT 19 (.buildFz 1 [.c (.int .i64 0),.c (.int .i64 4),.c (.int .i64 8),.c (.int .i64 100),.c (.int .i64 104),.c (.int .i64 5000)]),oC 20 38 [.t 18,.t 19],oM 21 0,oT 22 (.buildFz 1 [.c (.int .i64 1),.c (.int .i64 4),.c (.int .i64 4),.c (.int .i64 30),.c (.int .i64 4096)]),oC 23 38 [.t 21,.t 22],oM 24 0,oC 25 45 [.t 24,.c (.int .i64 3)],oM 26 0,oC 27 16 [.t 26,.c (.int .i64 4)],oT 28 (.build [.a (.t 7) 0 1,.a (.t 17) 0 1,.a (.t 20) 0 1,.a (.t 23) 0 1,.a (.t 25) 0 1,.a (.t 27) 0 1]),oV 5 (.alloc [.c (.int .i64 0),.c (.int .i64 0),.c (.int .i64 0),.c (.int .i64 0),.c (.bool false),.c (.int .i64 0)]),oS 6 5 28],[],[(1,3),(1,6),(3,8),(3,14),(9,14),(11,14),(3,17),(9,17),(11,17),(3,19),(9,19),(11,19),(3,21),(9,21),(11,21),(1,23),(3,23),(6,23),(8,23),(9,23),(11,23),(14,23),(17,23),(19,23),(21,23),(22,23)]⟩) (.seq (rg [oK 29 6 5,oS 6 4 29]) .ret))
def vf18 : VFunc:={ vs:=[0,1,3,4,5],nparams:=2,rets:=[.cell (.v 4) (some 6)],body:=vb18 }
def vb19 : VCode:=.seq (rg [oX 2 2 0,oX 3 16 1,oV 4 (.alloc [.c (.int .i64 0),.c (.int .i64 0),.c (.int .i64 0),.c (.int .i64 0),.c (.int .i64 0),.c (.int .i64 0),.c (.int .i64 0),.c (.int .i64 0),.c (.int .i64 0),.c (.int .i64 0),.nil 2,.nil 21,.nil 3,.nil 2,.nil 6,.nil 7]),oV 5 (.newArr 7),oJ 6 0]) (.seq (.seq (rg [oK 12 2 2,oK 13 16 3,oC 14 51 [.t 12,.t 13],oV 15 (.not (.t 14))]) (.cond (.v 15) (.seq (rg [oT 16 (.build [.z (.c (.int .i64 0)),.z (.c (.int .i64 0)),.z (.c (.int .i64 0)),.z (.c (.int .i64 0)),.z (.c (.int .i64 0)),.z (.c (.int .i64 0)),.z (.c (.int .i64 0)),.z (.c (.int .i64 0)),.z (.c (.int .i64 0)),.z (.c (.int .i64 0)),.z (.nil 2),.z (.nil 21),.z (.nil 3),.z (.nil 2),.z (.nil 6),.z (.nil 7)]),oS 16 4 16,oV 5 (.newArr 7),oJ 6 1]) .ret) .skip)) (.seq (.seq (rg [oF 17 7 3,oL 18 17,oV 19 (.bin .eql (.t 18) (cI 1048576))]) (.cond (.v 19) (.seq (rg [oT 20 (.build [.z (.c (.int .i64 0)),.z (.c (.int .i64 0)),.z (.c (.int .i64 0)),.z (.c (.int .i64 0)),.z (.c (.int .i64 0)),.z (.c (.int .i64 0)),.z (.c (.int .i64 0)),.z (.c (.int .i64 0)),.z (.c (.int .i64 0)),.z (.c (.int .i64 0)),.z (.nil 2),.z (.nil 21),.z (.nil 3),.z (.nil 2),.z (.nil 6),.z (.nil 7)]),oS 16 4 20,oV 5 (.newArr 7),oJ 6 3]) .ret) .skip)) (.seq (rg [oK 21 2 2,oK 22 16 3,oC 23 50 [.t 21,.t 22],oN 7 23]) (.seq (rg [oM 24 7,oT 25 (.callW 52 [.t 24]),oN 8 25]) (.seq (.seq (rg [oM 26 7,oT 27 (.nilCheck (.t 26)),oQ 28 0 27,oQ 29 7 28,oL 30 29,oM 31 7,oT 32 (.nilCheck (.t 31)),oQ 33 0 32,oQ 34 0 33,oQ 35 5 34,oL 36 35,oT 37 (.bin .mul (.t 30) (.t 36)),oN 9 37]) (.block 0 (.loop (.seq (.seq (.region ⟨[oM 38 7,oT 39 (.nilCheck (.t 38)),oQ 40 0 39,oQ 41 8 40,oL 42 41,oM 43 9,oU 44 42 43],[53,63],[]⟩) (.cond (.v 44) .skip (.exit 0))) (.block 1 (.seq (.region ⟨[oK 46 2 2,oM 47 7,oT 48 (.nilCheck (.t 47)),oQ 49 0 48,oQ 50 13 49,oL 51 50,oM 52 7,oT 53 (.callA 54 [.t 52]),oM 54 9,oC 55 53 [.t 46,.t 51,.t 53,.t 54],oP 45 55,oE 56 45 0,oE 57 45 1,oN 10 56,oN 11 57],[],[(0,7),(5,7)]⟩) (.seq (rg [oM 58 11,oT 59 (.not (.t 58)),oP 60 59,gM 61 7 60 false,gM 62 10 60 false,oG 63 (.callW 55 [.t 61,.t 62]) 60 false,oG 64 (.not (.t 63)) 60 false,oV 65 (.pick (.t 60) cT (.t 64))]) (.cond (.v 65) (.exit 0) .skip)))))))) (.seq (rg [oM 66 7,oT 67 (.nilCheck (.t 66)),oQ 68 0 67,oR 69 16 68,oM 70 8,oS 16 4 69,oN 5 70,oJ 6 0]) .ret))))))
def vf19 : VFunc:={ vs:=[0,1,2,3,4,5,6,7,8,9,10,11,15,19,44,65],nparams:=2,rets:=[.cell (.v 4) (some 16),.tmp (.v 5),.tmp (.v 6)],body:=vb19 }
def vb28 : VCode:=.seq (rg [oX 1 7 0,oV 2 (.alloc [.c (.int .i64 0),.c (.int .i64 0),.c (.int .i64 0),.c (.int .i64 0),.c (.int .i64 0),.c (.int .i64 0),.c (.int .i64 0),.c (.int .i64 0),.c (.int .i64 0),.c (.int .i64 0),.nil 2,.nil 21,.nil 3,.nil 2,.nil 6,.nil 7]),oJ 3 0]) (.seq (.seq (rg [oK 4 7 1,oC 5 63 [.t 4],oV 6 (.not (.t 5))]) (.cond (.v 6) (.seq (rg [oT 7 (.build [.z (.c (.int .i64 0)),.z (.c (.int .i64 0)),.z (.c (.int .i64 0)),.z (.c (.int .i64 0)),.z (.c (.int .i64 0)),.z (.c (.int .i64 0)),.z (.c (.int .i64 0)),.z (.c (.int .i64 0)),.z (.c (.int .i64 0)),.z (.c (.int .i64 0)),.z (.nil 2),.z (.nil 21),.z (.nil 3),.z (.nil 2),.z (.nil 6),.z (.nil 7)]),oS 16 2 7,oJ 3 3]) .ret) .skip)) (.seq (rg [oK 8 7 1,oT 9 (.build [.a (.t 8) 0 7,.a (.t 8) 1 7,.a (.t 8) 2 7,.a (.t 8) 3 7,.a (.t 8) 4 7,.a (.t 8) 5 7,.a (.t 8) 6 7,.z (.c (.int .i64 0)),.z (.c (.int .i64 0)),.z (.c (.int .i64 0)),.z (.nil 2),.z (.nil 21),.z (.nil 3),.z (.nil 2),.z (.nil 6),.z (.nil 7)]),oS 16 2 9,oJ 3 0]) .ret))
def vf28 : VFunc:={ vs:=[0,1,2,3,6],nparams:=1,rets:=[.cell (.v 2) (some 16),.tmp (.v 3)],body:=vb28 }
def vb33 : VCode:=.seq (rg [oV 0 (.alloc [.nil 6,.c (.int .i64 0)])]) (.seq (rg [oT 1 (.build [.a (cI 1) 0 1,.z (.c (.int .i64 0)),.z (.c (.str ⟨#[]⟩)),.z (.c (.int .i64 0)),.z (.c (.int .i64 0)),.z (.c (.int .i64 0))]),oT 2 (.build [.a (cI 2) 0 1,.a (cI 1) 0 1,.a (.c (.str ⟨#[97]⟩)) 0 1,.z (.c (.int .i64 0)),.z (.c (.int .i64 0)),.z (.c (.int .i64 0))]),oT 3 (.buildSlice 6 [.t 1,.t 2]),oT 4 (.build [.a (.t 3) 0 1,.a (cI 3) 0 1]),oS 2 0 4]) .ret)
def vf33 : VFunc:={ vs:=[0],nparams:=0,rets:=[.cell (.v 0) (some 2)],body:=vb33 }
def vb34 : VCode:=.seq (rg [oX 4 2 0,oX 5 16 1,oX 7 7 3,oV 8 (.alloc [.c (.int .i64 0),.c (.int .i64 0),.c (.int .i64 0),.c (.int .i64 0),.c (.int .i64 0),.c (.int .i64 0),.c (.int .i64 0),.c (.int .i64 0),.c (.int .i64 0),.c (.int .i64 0),.nil 2,.nil 21,.nil 3,.nil 2,.nil 6,.nil 7]),oJ 9 0]) (.seq (.seq (rg [oK 11 2 4,oK 12 16 5,oC 13 51 [.t 11,.t 12],oV 14 (.not (.t 13))]) (.cond (.v 14) (.seq (rg [oT 15 (.build [.z (.c (.int .i64 0)),.z (.c (.int .i64 0)),.z (.c (.int .i64 0)),.z (.c (.int .i64 0)),.z (.c (.int .i64 0)),.z (.c (.int .i64 0)),.z (.c (.int .i64 0)),.z (.c (.int .i64 0)),.z (.c (.int .i64 0)),.z (.c (.int .i64 0)),.z (.nil 2),.z (.nil 21),.z (.nil 3),.z (.nil 2),.z (.nil 6),.z (.nil 7)]),oS 16 8 15,oJ 9 1]) .ret) .skip)) (.seq (.seq (rg [oK 16 2 4,oM 17 2,oC 18 73 [.t 16,.t 17],oV 19 (.not (.t 18))]) (.cond (.v 19) (.seq (rg [oT 20 (.build [.z (.c (.int .i64 0)),.z (.c (.int .i64 0)),.z (.c (.int .i64 0)),.z (.c (.int .i64 0)),.z (.c (.int .i64 0)),.z (.c (.int .i64 0)),.z (.c (.int .i64 0)),.z (.c (.int .i64 0)),.z (.c (.int .i64 0)),.z (.c (.int .i64 0)),.z (.nil 2),.z (.nil 21),.z (.nil 3),.z (.nil 2),.z (.nil 6),.z (.nil 7)]),oS 16 8 20,oJ 9 4]) .ret) .skip)) (.seq (rg [oF 21 0 7,oZ (.store 1 (.t 21) (cI 0))]) (.seq (.seq (rg [oK 22 7 7,oT 23 (.buildFz 7 [.t 22]),oC 24 85 [.t 23],oV 25 (.not (.t 24))]) (.cond (.v 25) (.seq (rg [oT 26 (.build [.z (.c (.int .i64 0)),.z (.c (.int .i64 0)),.z (.c (.int .i64 0)),.z (.c (.int .i64 0)),.z (.c (.int .i64 0)),.z (.c (.int .i64 0)),.z (.c (.int .i64 0)),.z (.c (.int .i64 0)),.z (.c (.int .i64 0)),.z (.c (.int .i64 0)),.z (.nil 2),.z (.nil 21),.z (.nil 3),.z (.nil 2),.z (.nil 6),.z (.nil 7)]),oS 16 8 26,oJ 9 3]) .ret) .skip)) (.seq (rg [oK 27 2 4,oK 28 16 5,oC 29 50 [.t 27,.t 28],oN 10 29]) (.seq (rg [oM 30 10,oM 31 2,oF 32 1 7,oL 33 32,oT 34 (.callW 86 [.t 30,.t 31,.t 33])]) (.seq (rg [oM 35 10,oM 36 2,oK 37 7 7,oT 38 (.callW 87 [.t 35,.t 36,.t 37])]) (.seq (rg [oM 39 10,oM 40 2,oF 41 6 7,oL 42 41,oT 43 (.callW 88 [.t 39,.t 40,.t 42])]) (.seq (rg [oM 44 10,oT 45 (.nilCheck (.t 44)),oQ 46 0 45,oR 47 16 46,oS 16 8 47,oJ 9 0]) .ret)))))))))
def vf34 : VFunc:={ vs:=[0,1,2,3,4,5,7,8,9,10,14,19,25],nparams:=4,rets:=[.cell (.v 8) (some 16),.tmp (.v 9)],body:=vb34 }
def vb35 : VCode:=.seq (rg [oV 4 (.alloc [.c (.int .i64 0),.c (.int .i64 0),.c (.int .i64 0),.c (.int .i64 0),.c (.int .i64 0),.c (.int .i64 0),.c (.int .i64 0)])]) (.seq (rg [oM 5 1,oM 6 0,oC 7 89 [.t 6],oM 8 0,oT 9 (.buildFz 1 [.c (.int .i64 4611686018427387904),.c (.int .i64 4611686018427387904),.c (.int .i64 1),.c (.int .i64 10),.c (.int .i64 5000)]),oC 10 38 [.t 8,.t 9],oM 11 0,oT 12 (.buildFz 1 [.c (.int .i64 4611686018427387904),.c (.int .i64 4611686018427387904),.c (.int .i64 4),.c (.int .i64 100)]),oC 13 38 [.t 11,.t 12],oM 14 0,oT 15 (.buildFz 1 [.c (.int .i64 4611686018427387904),.c (.int .i64 4611686018427387904),.c (.int .i64 1),.c (.int .i64 3),.c (.int .i64 50)]),oC 16 38 [.t 14,.t 15],oM 17 0,oT 18 (.buildFz 1 [.c (.int .i64 4611686018427387904),.c (.int .i64 2)]),oC 19 38 [.t 17,.t 18],oM 20 0,oT 21 (.buildFz 1 [.c (.int .i64 0),.c (.int .i64 0),.c (.int .i64 5),.c (.int .i64 20)]),oC 22 38 [.t 20,.t 21],oT 23 (.build [.a (.t 5) 0 1,.a (.t 7) 0 1,.a (.t 10) 0 1,.a (.t 13) 0 1,.a (.t 16) 0 1,.a (.t 19) 0 1,.a (.t 22) 0 1]),oS 7 4 23]) .ret)
def vf35 : VFunc:={ vs:=[0,1,4],nparams:=2,rets:=[.cell (.v 4) (some 7)],body:=vb35 }
def vb36 : VCode:=.seq (rg [oX 4 2 0,oX 5 16 1,oJ 8 0,oJ 9 0]) (.seq (rg [oJ 10 0,oJ 11 0]) (.seq (.seq (rg [oJ 12 0]) (.block 0 (.loop (.seq (.seq (.region ⟨[oM 14 12,oF 15 14 5,oL 16 15,oY 17 16,oU 18 14 17],[34],[]⟩) (.cond (.v 18) .skip (.exit 0))) (.seq (.block 1 (.seq (rg [oF 21 14 5,oL 22 21,oM 23 12,oA 24 6 22 23,oR 25 6 24,oV 13 (.alloc [.c (.int .i64 0),.c (.int .i64 0),.c (.int .i64 0),.c (.int .i64 0),.c (.bool false),.c (.int .i64 0)]),oS 6 13 25]) (.seq (rg [oF 26 4 13,oL 27 26,oM 28 3,oT 29 (.eqB false (.t 27) (.t 28)),oP 30 29,oG 31 (.load (some 2) (.v 4)) 30 true,gF 32 1 13 30 true,gL 33 32 30 true,oG 34 (.call 62 [.t 31,.t 33]) 30 true,gM 35 2 30 true,oG 36 (.call 61 [.t 34,.t 35]) 30 true,oV 37 (.pick (.t 30) (.t 36) cF)]) (.cond (.v 37) (rg [oM 38 10,oF 39 3 13,oL 40 39,oT 41 (.bin .add (.t 38) (.t 40)),oM 42 11,oI 43 42,oN 10 41,oN 11 43]) .skip)))) (rg [oM 19 12,oI 20 19,oN 12 20])))))) (.seq (rg [oM 44 10,oM 45 11,oN 8 44,oN 9 45]) .ret)))
def vf36 : VFunc:={ vs:=[0,1,2,3,4,5,8,9,10,11,12,13,18,37],nparams:=4,rets:=[.tmp (.v 8),.tmp (.v 9)],body:=vb36 }
def vb37 : VCode:=.seq (rg [oV 8 (.move cF)]) (.seq (rg [oM 9 1,oT 10 (.bin .eql (.t 9) (cI 4611686018427387904)),oP 11 10,gM 12 0 11 false,gM 13 1 11 false,gM 14 3 11 false,oG 15 (.bin .mul (.t 13) (.t 14)) 11 false,oG 16 (.bin .quo (.t 15) (cI 100)) 11 false,gM 17 1 11 false,gM 18 2 11 false,oG 19 (.minmax true [.t 17,.t 18]) 11 false,oG 20 (.bin .add (.t 16) (.t 19)) 11 false,oG 21 (.bin .leq (.t 12) (.t 20)) 11 false,oO 22 11 21,oN 8 22]) .ret)
def vf37 : VFunc:={ vs:=[0,1,2,3,8],nparams:=4,rets:=[.tmp (.v 8)],body:=vb37 }
def vb38 : VCode:=.seq (rg [oJ 4 0]) (.seq (rg [oM 5 1,oM 6 0,oM 7 1,oY 8 7,oC 9 16 [.t 6,.t 8],oA 10 1 5 9,oL 11 10,oN 4 11]) .ret)
def vf38 : VFunc:={ vs:=[0,1,4],nparams:=2,rets:=[.tmp (.v 4)],body:=vb38 }
def vb41 : VCode:=.seq (rg [oX 2 16 0,oJ 4 0]) (.seq (rg [oJ 5 0]) (.seq (.seq (rg [oF 10 14 2,oV 11 (.load none (.t 10)),oV 12 (.len (.v 11)),oJ 13 0]) (.block 0 (.loop (.seq (rg [oV 14 (.bin .lss (.v 13) (.v 12))]) (.seq (.cond (.v 14) .skip (.exit 0)) (.seq (.block 1 (.seq (rg [oT 15 (.indexAddr 6 (.v 11) (.v 13)),oR 16 6 15,oV 7 (.alloc [.c (.int .i64 0),.c (.int .i64 0),.c (.int .i64 0),.c (.int .i64 0),.c (.bool false),.c (.int .i64 0)]),oS 6 7 16]) (.seq (rg [oF 17 0 7,oL 18 17,oM 19 1,oV 20 (.bin .eql (.t 18) (.t 19))]) (.cond (.v 20) (rg [oM 21 5,oI 22 21,oN 5 22]) .skip)))) (rg [oT 23 (.bin .add (.v 13) (cI 1)),oN 13 23]))))))) (.seq (.seq (rg [oF 24 15 2,oV 25 (.load none (.t 24)),oV 26 (.len (.v 25)),oJ 27 0]) (.block 2 (.loop (.seq (rg [oV 28 (.bin .lss (.v 27) (.v 26))]) (.seq (.cond (.v 28) .skip (.exit 2)) (.seq (.block 3 (.seq (rg [oT 29 (.indexAddr 7 (.v 25) (.v 27)),oR 30 7 29,oV 9 (.alloc [.c (.int .i64 0),.c (.int .i64 0),.c (.int .i64 0),.c (.int .i64 0),.c (.bool false),.c (.int .i64 0),.c (.int .i64 0)]),oS 7 9 30]) (.seq (rg [oF 31 0 9,oQ 32 0 31,oL 33 32,oM 34 1,oV 35 (.bin .eql (.t 33) (.t 34))]) (.cond (.v 35) (rg [oM 36 5,oI 37 36,oN 5 37]) .skip)))) (rg [oT 38 (.bin .add (.v 27) (cI 1)),oN 27 38]))))))) (.seq (rg [oM 39 5,oN 4 39]) .ret))))
def vf41 : VFunc:={ vs:=[0,1,2,4,5,7,9,11,12,13,14,20,25,26,27,28,35],nparams:=2,rets:=[.tmp (.v 4)],body:=vb41 }
def vb42 : VCode:=.seq (rg [oV 0 (.alloc [.nil 6,.c (.int .i64 0)])]) (.seq (rg [oT 1 (.build [.a (cI 1) 0 1,.z (.c (.int .i64 0)),.z (.c (.str ⟨#[]⟩)),.z (.c (.int .i64 0)),.z (.c (.int .i64 0)),.z (.c (.int .i64 0))]),oT 2 (.buildSlice 6 [.t 1]),oT 3 (.build [.a (.t 2) 0 1,.a (cI 2) 0 1]),oS 2 0 3]) .ret)
def vf42 : VFunc:={ vs:=[0],nparams:=0,rets:=[.cell (.v 0) (some 2)],body:=vb42 }
def vb43 : VCode:=.seq (rg [oX 3 2 0,oV 6 (.alloc [.nil 6,.c (.int .i64 0)]),oJ 7 0,oJ 8 0]) (.seq (.seq (rg [oK 11 2 3,oC 12 82 [.t 11],oT 13 (.not (.t 12)),oP 14 13,gM 15 2 14 false,oG 16 (.call 97 [.t 15]) 14 false,oG 17 (.not (.t 16)) 14 false,oV 18 (.pick (.t 14) cT (.t 17))]) (.cond (.v 18) (.seq (rg [oT 19 (.build [.z (.nil 6),.z (.c (.int .i64 0))]),oS 2 6 19,oJ 7 0,oJ 8 1]) .ret) .skip)) (.seq (.seq (rg [oK 20 2 3,oM 21 1,oC 22 83 [.t 20,.t 21],oV 23 (.not (.t 22))]) (.cond (.v 23) (.seq (rg [oT 24 (.build [.z (.nil 6),.z (.c (.int .i64 0))]),oS 2 6 24,oJ 7 0,oJ 8 4]) .ret) .skip)) (.seq (.seq (rg [oJ 9 0]) (.block 0 (.loop (.seq (.seq (.region ⟨[oM 25 9,oF 26 0 3,oL 27 26,oY 28 27,oU 29 25 28],[50],[]⟩) (.cond (.v 29) .skip (.exit 0))) (.seq (.block 1 (.seq (rg [oF 32 0 3,oL 33 32,oM 34 9,oA 35 6 33 34,oQ 36 1 35,oL 37 36,oM 38 1,oT 39 (.bin .eql (.t 37) (.t 38)),oP 40 39,gF 41 0 3 40 true,gL 42 41 40 true,gM 43 9 40 true,oG 44 (.indexAddr 6 (.t 42) (.t 43)) 40 true,oG 45 (.fieldAddr 2 (.t 44)) 40 true,gL 46 45 40 true,gM 47 2 40 true,oG 48 (.bin .eql (.t 46) (.t 47)) 40 true,oV 49 (.pick (.t 40) (.t 48) cF)]) (.cond (.v 49) (.seq (rg [oT 50 (.build [.z (.nil 6),.z (.c (.int .i64 0))]),oS 2 6 50,oJ 7 0,oJ 8 5]) .ret) .skip))) (rg [oM 30 9,oI 31 30,oN 9 31])))))) (.seq (.seq (rg [oK 51 2 3,oM 52 1,oC 53 98 [.t 51,.t 52],oT 54 (.bin .geq (.t 53) (cI 8)),oP 55 54,gF 56 0 3 55 false,gL 57 56 55 false,oG 58 (.len (.t 57)) 55 false,oG 59 (.bin .geq (.t 58) (cI 64)) 55 false,oO 60 55 59,oP 61 60,gF 62 1 3 61 false,gL 63 62 61 false,oG 64 (.bin .gtr (.t 63) (cI 2147483647)) 61 false,oV 65 (.pick (.t 61) cT (.t 64))]) (.cond (.v 65) (.seq (rg [oT 66 (.build [.z (.nil 6),.z (.c (.int .i64 0))]),oS 2 6 66,oJ 7 0,oJ 8 7]) .ret) .skip)) (.seq (rg [oK 67 2 3,oC 68 99 [.t 67],oV 10 (.alloc [.nil 6,.c (.int .i64 0)]),oS 2 10 68]) (.seq (rg [oF 69 0 10,oL 70 69,oF 71 1 3,oL 72 71,oM 73 1,oM 74 2,oT 75 (.build [.a (.t 72) 0 1,.a (.t 73) 0 1,.a (.t 74) 0 1,.z (.c (.int .i64 0)),.z (.c (.int .i64 0)),.z (.c (.int .i64 0))]),oT 76 (.buildSlice 6 [.t 75]),oT 77 (.append 6 56 (.t 70) (.t 76)),oF 78 0 10,oZ (.store 1 (.t 78) (.t 77))]) (.seq (rg [oF 79 1 10,oL 80 79,oI 81 80,oF 82 1 10,oZ (.store 1 (.t 82) (.t 81))]) (.seq (.region ⟨[oK 83 2 10,oF 84 1 3,oL 85 84,oS 2 6 83,oN 7 85,oJ 8 0],[],[(2,3)]⟩) .ret))))))))
def vf43 : VFunc:={ vs:=[0,1,2,3,6,7,8,9,10,18,23,29,49,65],nparams:=3,rets:=[.cell (.v 6) (some 2),.tmp (.v 7),.tmp (.v 8)],body:=vb43 }
def vb44 : VCode:=.seq (rg [oV 2 (.move (.c (.str ⟨#[]⟩)))]) (.seq (rg [oT 3 (.buildSlice 1 [.c (.str ⟨#[97]⟩),.c (.str ⟨#[98]⟩),.c (.str ⟨#[99]⟩),.c (.str ⟨#[119,101,98]⟩),.c (.str ⟨#[100,98,45,49]⟩),.c (.str ⟨#[88,95,57]⟩)]),oM 4 0,oC 5 16 [.t 4,.c (.int .i64 6)],oA 6 1 3 5,oL 7 6,oN 2 7]) .ret)
def vf44 : VFunc:={ vs:=[0,2],nparams:=1,rets:=[.tmp (.v 2)],body:=vb44 }
def vb45 : VCode:=.seq (rg [oV 4 (.move cF)]) (.seq (rg [oM 5 0,oM 6 1,oC 7 16 [.t 5,.t 6],oM 8 1,oT 9 (.bin .sub (.t 8) (cI 1)),oT 10 (.bin .eql (.t 7) (.t 9)),oN 4 10]) .ret)
def vf45 : VFunc:={ vs:=[0,1,4],nparams:=2,rets:=[.tmp (.v 4)],body:=vb45 }
def vb46 : VCode:=.seq (rg [oX 2 2 0,oV 4 (.alloc [.nil 6,.c (.int .i64 0)]),oJ 5 0]) (.seq (.block 0 (.seq (rg [oK 9 2 2,oC 10 82 [.t 9],oT 11 (.not (.t 10)),oN 8 11]) (.cond (.v 8) (.seq (rg [oT 12 (.build [.z (.nil 6),.z (.c (.int .i64 0))]),oS 2 4 12,oJ 5 1]) .ret) (.seq (rg [oK 14 2 2,oM 15 1,oC 16 83 [.t 14,.t 15],oT 17 (.not (.t 16)),oN 13 17]) (.cond (.v 13) (.seq (rg [oT 18 (.build [.z (.nil 6),.z (.c (.int .i64 0))]),oS 2 4 18,oJ 5 4]) .ret) (.seq (rg [oM 20 1,oT 21 (.bin .eql (.t 20) (cI 1)),oN 19 21]) (.cond (.v 19) (.seq (rg [oT 22 (.build [.z (.nil 6),.z (.c (.int .i64 0))]),oS 2 4 22,oJ 5 9]) .ret) (.seq (rg [oK 24 2 2,oM 25 1,oC 26 100 [.t 24,.t 25],oY 27 26,oT 28 (.bin .gtr (.t 27) (cI 0)),oN 23 28]) (.cond (.v 23) (.seq (rg [oT 29 (.build [.z (.nil 6),.z (.c (.int .i64 0))]),oS 2 4 29,oJ 5 6]) .ret) .skip))))))))) (.seq (rg [oF 30 1 2,oL 31 30,oT 32 (.build [.z (.nil 6),.a (.t 31) 0 1]),oV 6 (.alloc [.nil 6,.c (.int .i64 0)]),oS 2 6 32]) (.seq (.seq (rg [oJ 7 0]) (.block 1 (.loop (.seq (.seq (rg [oM 33 7,oF 34 0 2,oL 35 34,oY 36 35,oU 37 33 36]) (.cond (.v 37) .skip (.exit 1))) (.seq (.block 2 (.seq (rg [oF 40 0 2,oL 41 40,oM 42 7,oA 43 6 41 42,oQ 44 0 43,oL 45 44,oM 46 1,oV 47 (.bin .neq (.t 45) (.t 46))]) (.cond (.v 47) (.region ⟨[oF 48 0 6,oL 49 48,oF 50 0 2,oL 51 50,oM 52 7,oA 53 6 51 52,oR 54 6 53,oT 55 (.buildSlice 6 [.t 54]),oT 56 (.append 6 56 (.t 49) (.t 55)),oF 57 0 6,oZ (.store 1 (.t 57) (.t 56))],[],[(1,7)]⟩) .skip))) (rg [oM 38 7,oI 39 38,oN 7 39])))))) (.seq (rg [oK 58 2 6,oS 2 4 58,oJ 5 0]) .ret))))
def vf46 : VFunc:={ vs:=[0,1,2,4,5,6,7,8,13,19,23,37,47],nparams:=2,rets:=[.cell (.v 4) (some 2),.tmp (.v 5)],body:=vb46 }
def vb47 : VCode:=.seq (rg [oX 1 7 0,oV 2 (.move cF)]) (.seq (rg [oF 3 0 1,oR 4 5 3,oC 5 101 [.t 4],oP 6 5,gF 7 5 1 6 true,gL 8 7 6 true,oG 9 (.bin .geq (.t 8) (cI 1)) 6 true,oB 10 6 9,oP 11 10,gF 12 5 1 11 true,gL 13 12 11 true,oG 14 (.bin .leq (.t 13) (cI 1000000)) 11 true,oB 15 11 14,oP 16 15,gF 17 6 1 16 true,gL 18 17 16 true,oG 19 (.bin .geq (.t 18) (cI 0)) 16 true,oB 20 16 19,oP 21 20,gF 22 6 1 21 true,gL 23 22 21 true,oG 24 (.bin .leq (.t 23) (cI 1073741824)) 21 true,oB 25 21 24,oN 2 25]) .ret)
def vf47 : VFunc:={ vs:=[0,1,2],nparams:=1,rets:=[.tmp (.v 2)],body:=vb47 }
def vb48 : VCode:=.seq (rg [oV 2 (.alloc [.c (.int .i64 0),.c (.int .i64 0),.c (.int .i64 0),.c (.int .i64 0),.c (.int .i64 0)])]) (.seq (rg [oM 3 0,oT 4 (.buildFz 1 [.c (.int .i64 0),.c (.int .i64 10),.c (.int .i64 100)]),oC 5 38 [.t 3,.t 4],oM 6 0,oT 7 (.buildFz 1 [.c (.int .i64 0),.c (.int .i64 1),.c (.int .i64 10),.c (.int .i64 1000000)]),oC 8 38 [.t 6,.t 7],oM 9 0,oT 10 (.buildFz 1 [.c (.int .i64 0),.c (.int .i64 20),.c (.int .i64 50)]),oC 11 38 [.t 9,.t 10],oM 12 0,oT 13 (.buildFz 1 [.c (.int .i64 0),.c (.int .i64 2),.c (.int .i64 15)]),oC 14 38 [.t 12,.t 13],oM 15 0,oT 16 (.buildFz 1 [.c (.int .i64 0),.c (.int .i64 5),.c (.int .i64 40)]),oC 17 38 [.t 15,.t 16],oT 18 (.build [.a (.t 5) 0 1,.a (.t 8) 0 1,.a (.t 11) 0 1,.a (.t 14) 0 1,.a (.t 17) 0 1]),oS 5 2 18]) .ret)
def vf48 : VFunc:={ vs:=[0,2],nparams:=1,rets:=[.cell (.v 2) (some 5)],body:=vb48 }
def vb49 : VCode:=.seq (rg [oX 3 2 0,oX 4 16 1,oX 5 6 2,oJ 6 0]) (.seq (rg [oF 7 5 5,oZ (.store 1 (.t 7) (cI 0))]) (.seq (.seq (rg [oK 8 2 3,oK 9 16 4,oC 10 51 [.t 8,.t 9],oT 11 (.not (.t 10)),oP 12 11,oG 13 (.load (some 6) (.v 5)) 12 false,oG 14 (.call 102 [.t 13]) 12 false,oG 15 (.not (.t 14)) 12 false,oV 16 (.pick (.t 12) cT (.t 15))]) (.cond (.v 16) (.seq (rg [oJ 6 1]) .ret) .skip)) (.seq (.seq (rg [oK 17 2 3,oF 18 1 5,oL 19 18,oC 20 73 [.t 17,.t 19],oV 21 (.not (.t 20))]) (.cond (.v 21) (.seq (rg [oJ 6 4]) .ret) .skip)) (.seq (rg [oJ 6 0]) .ret))))
def vf49 : VFunc:={ vs:=[0,1,2,3,4,5,6,16,21],nparams:=3,rets:=[.tmp (.v 6)],body:=vb49 }
def vb50 : VCode:=.seq (rg [oX 2 2 0,oX 3 16 1,oV 4 (.move (.c (.nilp)))]) (.seq (.region ⟨[oF 5 10 3,oL 6 5,oC 7 103 [.t 6],oF 8 11 3,oL 9 8,oC 10 104 [.t 9],oF 11 12 3,oL 12 11,oC 13 105 [.t 12],oF 14 10 3,oZ (.store 1 (.t 14) (.t 7)),oF 15 11 3,oZ (.store 1 (.t 15) (.t 10)),oF 16 12 3,oZ (.store 1 (.t 16) (.t 13))],[],[(2,4),(2,7),(5,7)]⟩) (.seq (.region ⟨[oF 17 13 3,oL 18 17,oC 19 106 [.t 18],oF 20 14 3,oL 21 20,oC 22 107 [.t 21],oF 23 15 3,oL 24 23,oC 25 108 [.t 24],oF 26 13 3,oZ (.store 1 (.t 26) (.t 19)),oF 27 14 3,oZ (.store 1 (.t 27) (.t 22)),oF 28 15 3,oZ (.store 1 (.t 28) (.t 25))],[],[(2,4),(2,7),(5,7)]⟩) (.seq (.region ⟨[oK 29 16 3,oK 30 2 2,oT 31 (.build [.a (.t 29) 0 16,.a (.t 29) 1 16,.a (.t 29) 2 16,.a (.t 29) 3 16,.a (.t 29) 4 16,.a (.t 29) 5 16,.a (.t 29) 6 16,.a (.t 29) 7 16,.a (.t 29) 8 16,.a (.t 29) 9 16,.a (.t 29) 10 16,.a (.t 29) 11 16,.a (.t 29) 12 16,.a (.t 29) 13 16,.a (.t 29) 14 16,.a (.t 29) 15 16,.a (.t 30) 0 2,.a (.t 30) 1 2]),oT 32 (.box 18 (.t 31)),oN 4 32],[19],[]⟩) .ret)))
def vf50 : VFunc:={ vs:=[0,1,2,3,4],nparams:=2,rets:=[.tmp (.v 4)],body:=vb50 }
def vb51 : VCode:=.seq (rg [oX 2 2 0,oX 3 16 1,oV 4 (.move cF)]) (.seq (.seq (rg [oK 11 2 2,oC 12 70 [.t 11],oT 13 (.not (.t 12)),oP 14 13,gF 15 0 3 14 false,oG 16 (.load (some 7) (.t 15)) 14 false,oG 17 (.call 63 [.t 16]) 14 false,oG 18 (.not (.t 17)) 14 false,oO 19 14 18,oP 20 19,gF 21 7 3 20 false,gL 22 21 20 false,oG 23 (.call 109 [.t 22,.c (.int .i64 0),.c (.int .i64 1048576)]) 20 false,oG 24 (.not (.t 23)) 20 false,oO 25 20 24,oP 26 25,gF 27 8 3 26 false,gL 28 27 26 false,oG 29 (.call 109 [.t 28,.c (.int .i64 0),.c (.int .i64 1125899906842624)]) 26 false,oG 30 (.not (.t 29)) 26 false,oO 31 26 30,oP 32 31,gF 33 9 3 32 false,gL 34 33 32 false,oG 35 (.call 109 [.t 34,.c (.int .i64 0),.c (.int .i64 16777216)]) 32 false,oG 36 (.not (.t 35)) 32 false,oV 37 (.pick (.t 32) cT (.t 36))]) (.cond (.v 37) (.seq (rg [oV 4 (.move cF)]) .ret) .skip)) (.seq (.seq (rg [oK 38 2 2,oF 39 10 3,oL 40 39,oC 41 110 [.t 38,.t 40],oT 42 (.not (.t 41)),oP 43 42,oG 44 (.load (some 2) (.v 2)) 43 false,gF 45 12 3 43 false,gL 46 45 43 false,oG 47 (.call 111 [.t 44,.t 46]) 43 false,oG 48 (.not (.t 47)) 43 false,oO 49 43 48,oP 50 49,oG 51 (.load (some 2) (.v 2)) 50 false,gF 52 13 3 50 false,gL 53 52 50 false,oG 54 (.call 112 [.t 51,.t 53]) 50 false,oG 55 (.not (.t 54)) 50 false,oO 56 50 55,oP 57 56,gF 58 14 3 57 false,gL 59 58 57 false,oG 60 (.len (.t 59)) 57 false,gF 61 15 3 57 false,gL 62 61 57 false,oG 63 (.len (.t 62)) 57 false,oG 64 (.bin .add (.t 60) (.t 63)) 57 false,oG 65 (.bin .gtr (.t 64) (cI 256)) 57 false,oV 66 (.pick (.t 57) cT (.t 65))]) (.cond (.v 66) (.seq (rg [oV 4 (.move cF)]) .ret) .skip)) (.seq (.seq (rg [oF 67 11 3,oV 68 (.load none (.t 67)),oV 69 (.len (.v 68)),oJ 70 0]) (.block 0 (.loop (.seq (rg [oV 71 (.bin .lss (.v 70) (.v 69))]) (.seq (.cond (.v 71) .skip (.exit 0)) (.seq (.block 1 (.seq (rg [oM 72 70,oT 73 (.indexAddr 21 (.v 68) (.v 70)),oR 74 21 73,oV 6 (.alloc [.c (.int .i64 0),.c (.int .i64 0),.c (.int .i64 0),.c (.int .i64 0),.c (.int .i64 0),.c (.int .i64 0),.c (.int .i64 0),.c (.int .i64 0),.c (.int .i64 0),.c (.int .i64 0),.c (.int .i64 0),.c (.int .i64 0),.c (.int .i64 0),.c (.int .i64 0),.c (.int .i64 0),.c (.int .i64 0),.c (.int .i64 0),.c (.int .i64 0),.c (.int .i64 0),.c (.int .i64 0),.c (.int .i64 0)]),oN 5 72,oS 21 6 74]) (.seq (rg [oK 75 2 2,oF 76 0 6,oL 77 76,oC 78 73 [.t 75,.t 77],oT 79 (.not (.t 78)),oP 80 79,gM 81 5 80 false,oG 82 (.bin .gtr (.t 81) (cI 0)) 80 false,oG 83 (.move (.t 82)) 80 false,gF 84 0 6 83 true,gL 85 84 83 true,gF 86 11 3 83 true,gL 87 86 83 true,gM 88 5 83 true,oG 89 (.bin .sub (.t 88) (cI 1)) 83 true,oG 90 (.indexAddr 21 (.t 87) (.t 89)) 83 true,oG 91 (.fieldAddr 0 (.t 90)) 83 true,gL 92 91 83 true,oG 93 (.bin .leq (.t 85) (.t 92)) 83 true,oG 94 (.pick (.t 83) (.t 93) cF) 80 false,oO 95 80 94,oP 96 95,gF 97 1 6 96 false,oG 98 (.load (some 5) (.t 97)) 96 false,gF 99 7 3 96 false,gL 100 99 96 false,oG 101 (.call 113 [.t 98,.t 100]) 96 false,oG 102 (.not (.t 101)) 96 false,oO 103 96 102,oP 104 103,gF 105 6 6 104 false,oG 106 (.load (some 5) (.t 105)) 104 false,gF 107 7 3 104 false,gL 108 107 104 false,oG 109 (.call 113 [.t 106,.t 108]) 104 false,oG 110 (.not (.t 109)) 104 false,oO 111 104 110,oP 112 111,gF 113 11 6 112 false,oG 114 (.load (some 5) (.t 113)) 112 false,gF 115 7 3 112 false,gL 116 115 112 false,oG 117 (.call 113 [.t 114,.t 116]) 112 false,oG 118 (.not (.t 117)) 112 false,oO 119 112 118,oP 120 119,gF 121 16 6 120 false,oG 122 (.load (some 5) (.t 121)) 120 false,gF 123 7 3 120 false,gL 124 123 120 false,oG 125 (.call 113 [.t 122,.t 124]) 120 false,oG 126 (.not (.t 125)) 120 false,oV 127 (.pick (.t 120) cT (.t 126))]) (.cond (.v 127) (.seq (rg [oV 4 (.move cF)]) .ret) .skip)))) (rg [oT 128 (.bin .add (.v 70) (cI 1)),oN 70 128]))))))) (.seq (.seq (rg [oF 129 14 3,oV 130 (.load none (.t 129)),oV 131 (.len (.v 130)),oJ 132 0]) (.block 2 (.loop (.seq (rg [oV 133 (.bin .lss (.v 132) (.v 131))]) (.seq (.cond (.v 133) .skip (.exit 2)) (.seq (.block 3 (.seq (rg [oT 134 (.indexAddr 6 (.v 130) (.v 132)),oR 135 6 134,oV 8 (.alloc [.c (.int .i64 0),.c (.int .i64 0),.c (.int .i64 0),.c (.int .i64 0),.c (.bool false),.c (.int .i64 0)]),oS 6 8 135]) (.seq (rg [oK 136 2 2,oK 137 6 8,oC 138 114 [.t 136,.t 137],oV 139 (.not (.t 138))]) (.cond (.v 139) (.seq (rg [oV 4 (.move cF)]) .ret) .skip)))) (rg [oT 140 (.bin .add (.v 132) (cI 1)),oN 132 140]))))))) (.seq (.seq (rg [oF 141 15 3,oV 142 (.load none (.t 141)),oV 143 (.len (.v 142)),oJ 144 0]) (.block 4 (.loop (.seq (rg [oV 145 (.bin .lss (.v 144) (.v 143))]) (.seq (.cond (.v 145) .skip (.exit 4)) (.seq (.block 5 (.seq (rg [oM 146 144,oT 147 (.indexAddr 7 (.v 142) (.v 144)),oR 148 7 147,oV 10 (.alloc [.c (.int .i64 0),.c (.int .i64 0),.c (.int .i64 0),.c (.int .i64 0),.c (.bool false),.c (.int .i64 0),.c (.int .i64 0)]),oN 9 146,oS 7 10 148]) (.seq (rg [oK 149 2 2,oF 150 0 10,oR 151 6 150,oC 152 114 [.t 149,.t 151],oT 153 (.not (.t 152)),oP 154 153,gF 155 6 10 154 false,gL 156 155 154 false,oG 157 (.call 109 [.t 156,.c (.int .i64 0),.c (.int .i64 1125899906842624)]) 154 false,oG 158 (.not (.t 157)) 154 false,oO 159 154 158,oP 160 159,gM 161 9 160 false,oG 162 (.bin .gtr (.t 161) (cI 0)) 160 false,oG 163 (.move (.t 162)) 160 false,gF 164 6 10 163 true,gL 165 164 163 true,gF 166 15 3 163 true,gL 167 166 163 true,gM 168 9 163 true,oG 169 (.bin .sub (.t 168) (cI 1)) 163 true,oG 170 (.indexAddr 7 (.t 167) (.t 169)) 163 true,oG 171 (.fieldAddr 6 (.t 170)) 163 true,gL 172 171 163 true,oG 173 (.bin .lss (.t 165) (.t 172)) 163 true,oG 174 (.pick (.t 163) (.t 173) cF) 160 false,oV 175 (.pick (.t 160) cT (.t 174))]) (.cond (.v 175) (.seq (rg [oV 4 (.move cF)]) .ret) .skip)))) (rg [oT 176 (.bin .add (.v 144) (cI 1)),oN 144 176]))))))) (.seq (rg [oV 4 (.move cT)]) .ret))))))
def vf51 : VFunc:={ vs:=[0,1,2,3,4,5,6,8,9,10,37,66,68,69,70,71,127,130,131,132,133,139,142,143,144,145,175],nparams:=2,rets:=[.tmp (.v 4)],body:=vb51 }
def vb52 : VCode:=.seq (rg [oV 2 (.newArr 7)]) (.seq (rg [oM 9 0,oT 10 (.nilCheck (.t 9)),oQ 11 0 10,oQ 12 7 11,oL 13 12,oI 14 13,oT 15 (.nilCheck (.t 9)),oQ 16 0 15,oQ 17 7 16,oZ (.store 1 (.t 17) (.t 14))]) (.seq (.seq (rg [oM 18 0,oT 19 (.nilCheck (.t 18)),oQ 20 0 19,oQ 21 11 20,oL 22 21,oV 23 (.len (.t 22)),oJ 24 0]) (.block 0 (.loop (.seq (rg [oV 25 (.bin .lss (.v 24) (.v 23))]) (.seq (.cond (.v 25) .skip (.exit 0)) (.seq (.block 1 (.seq (rg [oM 26 24,oN 3 26]) (.seq (rg [oM 27 0,oT 28 (.nilCheck (.t 27)),oQ 29 0 28,oQ 30 11 29,oL 31 30,oM 32 3,oA 33 21 31 32,oN 4 33]) (.seq (rg [oM 34 4,oT 35 (.nilCheck (.t 34)),oQ 36 1 35,oM 37 4,oT 38 (.nilCheck (.t 37)),oQ 39 6 38,oM 40 4,oT 41 (.nilCheck (.t 40)),oQ 42 11 41,oM 43 4,oT 44 (.nilCheck (.t 43)),oQ 45 16 44,oV 46 (.buildPtrs [.t 36,.t 39,.t 42,.t 45]),oV 47 (.len (.v 46)),oJ 48 0]) (.block 2 (.loop (.seq (rg [oV 49 (.bin .lss (.v 48) (.v 47))]) (.seq (.cond (.v 49) .skip (.exit 2)) (.seq (.block 3 (.seq (rg [oT 50 (.indexAddr 1 (.v 46) (.v 48)),oL 51 50,oN 6 51]) (rg [oM 53 6,oM 54 6,oT 55 (.nilCheck (.t 54)),oR 56 5 55,oM 57 0,oT 58 (.nilCheck (.t 57)),oQ 59 0 58,oQ 60 7 59,oL 61 60,oC 62 115 [.t 56,.t 61],oP 52 62,oE 63 52 0,oE 64 52 1,oT 65 (.nilCheck (.t 53)),oZ (.store 5 (.t 65) (.t 63))]))) (rg [oT 66 (.bin .add (.v 48) (cI 1)),oN 48 66])))))))))) (rg [oT 67 (.bin .add (.v 24) (cI 1)),oN 24 67]))))))) (.seq (rg [oJ 7 0]) (.seq (.block 4 (.loop (.seq (.seq (rg [oM 68 7,oM 69 0,oT 70 (.nilCheck (.t 69)),oQ 71 0 70,oQ 72 15 71,oL 73 72,oY 74 73,oT 75 (.bin .lss (.t 68) (.t 74)),oP 76 75,gM 77 0 76 true,oG 78 (.nilCheck (.t 77)) 76 true,oG 79 (.fieldAddr 0 (.t 78)) 76 true,oG 80 (.fieldAddr 15 (.t 79)) 76 true,gL 81 80 76 true,gM 82 7 76 true,oG 83 (.indexAddr 7 (.t 81) (.t 82)) 76 true,oG 84 (.fieldAddr 6 (.t 83)) 76 true,gL 85 84 76 true,gM 86 0 76 true,oG 87 (.nilCheck (.t 86)) 76 true,oG 88 (.fieldAddr 0 (.t 87)) 76 true,oG 89 (.fieldAddr 7 (.t 88)) 76 true,gL 90 89 76 true,oG 91 (.bin .leq (.t 85) (.t 90)) 76 true,oV 92 (.pick (.t 76) (.t 91) cF)]) (.cond (.v 92) .skip (.exit 4))) (.block 5 (rg [oM 93 7,oI 94 93,oN 7 94]))))) (.seq (rg [oM 95 0,oT 96 (.nilCheck (.t 95)),oQ 97 0 96,oQ 98 15 97,oL 99 98,oM 100 7,oT 101 (.slice false 7 none (some (.t 100)) none (.t 99)),oC 102 108 [.t 101],oN 8 102]) (.seq (rg [oM 103 0,oM 104 0,oT 105 (.nilCheck (.t 104)),oQ 106 0 105,oQ 107 15 106,oL 108 107,oM 109 7,oT 110 (.callW 116 [.t 108,.c (.int .i64 0),.t 109]),oT 111 (.nilCheck (.t 103)),oQ 112 0 111,oQ 113 15 112,oZ (.store 1 (.t 113) (.t 110))]) (.seq (rg [oM 114 8,oN 2 114]) .ret)))))))
def vf52 : VFunc:={ vs:=[0,2,3,4,6,7,8,23,24,25,46,47,48,49,92],nparams:=1,rets:=[.tmp (.v 2)],body:=vb52 }
def vb53 : VCode:=.seq (rg [oX 4 2 0,oJ 8 0,oV 9 (.move cF)]) (.seq (rg [oJ 10 0]) (.seq (.seq (rg [oV 15 (.move (.v 2)),oV 16 (.len (.v 15)),oJ 17 0]) (.block 0 (.loop (.seq (rg [oV 18 (.bin .lss (.v 17) (.v 16))]) (.seq (.cond (.v 18) .skip (.exit 0)) (.seq (.block 1 (.seq (rg [oT 19 (.indexAddr 1 (.v 15) (.v 17)),oL 20 19,oN 12 20]) (.seq (.seq (rg [oK 21 2 4,oM 22 1,oM 23 12,oM 24 3,oC 25 117 [.t 21,.t 22,.t 23,.t 24],oV 26 (.not (.t 25))]) (.cond (.v 26) (.exit 1) .skip)) (.seq (rg [oM 27 1,oM 28 12,oC 29 118 [.t 27,.t 28],oM 30 1,oM 31 10,oC 32 118 [.t 30,.t 31],oN 13 29,oN 14 32]) (.seq (rg [oM 33 10,oT 34 (.bin .eql (.t 33) (cI 0)),oP 35 34,gM 36 13 35 false,gM 37 14 35 false,oG 38 (.bin .lss (.t 36) (.t 37)) 35 false,oO 39 35 38,oP 40 39,gM 41 13 40 false,gM 42 14 40 false,oG 43 (.bin .eql (.t 41) (.t 42)) 40 false,oG 44 (.move (.t 43)) 40 false,gM 45 12 44 true,gM 46 10 44 true,oG 47 (.bin .lss (.t 45) (.t 46)) 44 true,oG 48 (.pick (.t 44) (.t 47) cF) 40 false,oV 49 (.pick (.t 40) cT (.t 48))]) (.cond (.v 49) (rg [oM 50 12,oN 10 50]) .skip)))))) (rg [oT 51 (.bin .add (.v 17) (cI 1)),oN 17 51]))))))) (.seq (rg [oM 52 10,oM 53 10,oT 54 (.bin .neq (.t 53) (cI 0)),oN 8 52,oN 9 54]) .ret)))
def vf53 : VFunc:={ vs:=[0,1,2,3,4,8,9,10,12,13,14,15,16,17,18,26,49],nparams:=4,rets:=[.tmp (.v 8),.tmp (.v 9)],body:=vb53 }
def vb54 : VCode:=.seq (rg [oV 2 (.newArr 1)]) (.seq (rg [oT 7 (.makeMap (.int .i64)),oN 3 7]) (.seq (rg [oV 4 (.newArr 1)]) (.seq (.seq (rg [oM 8 0,oT 9 (.nilCheck (.t 8)),oQ 10 0 9,oQ 11 14 10,oV 12 (.load none (.t 11)),oV 13 (.len (.v 12)),oJ 14 0]) (.block 0 (.loop (.seq (rg [oV 15 (.bin .lss (.v 14) (.v 13))]) (.seq (.cond (.v 15) .skip (.exit 0)) (.seq (.block 1 (.seq (rg [oT 16 (.indexAddr 6 (.v 12) (.v 14)),oR 17 6 16,oV 6 (.alloc [.c (.int .i64 0),.c (.int .i64 0),.c (.int .i64 0),.c (.int .i64 0),.c (.bool false),.c (.int .i64 0)]),oS 6 6 17]) (.seq (.seq (rg [oM 18 3,oF 19 1 6,oL 20 19,oT 21 (.lookup false (.int .i64) (.bool false) (.t 18) (.t 20)),oT 22 (.not (.t 21)),oP 23 22,gM 24 0 23 true,oG 25 (.load (some 6) (.v 6)) 23 true,oG 26 (.callR 119 [.t 24,.t 25]) 23 true,oV 27 (.pick (.t 23) (.t 26) cF)]) (.cond (.v 27) (rg [oM 28 4,oF 29 1 6,oL 30 29,oT 31 (.buildSlice 1 [.t 30]),oT 32 (.append 1 8 (.t 28) (.t 31)),oN 4 32]) .skip)) (rg [oM 33 3,oF 34 1 6,oL 35 34,oZ (.mapUpdate (.int .i64) (.t 33) (.t 35) cT)])))) (rg [oT 36 (.bin .add (.v 14) (cI 1)),oN 14 36]))))))) (.seq (rg [oM 37 4,oT 38 (.callW 120 [.t 37])]) (.seq (rg [oM 39 4,oN 2 39]) .ret)))))
def vf54 : VFunc:={ vs:=[0,2,3,4,6,12,13,14,15,27],nparams:=1,rets:=[.tmp (.v 2)],body:=vb54 }
def vb55 : VCode:=.seq (rg [oX 3 1 1,oV 4 (.move cF)]) (.seq (rg [oM 15 0,oT 16 (.nilCheck (.t 15)),oQ 17 0 16,oQ 18 14 17,oL 19 18,oT 20 (.makeFunc 122 [.v 3]),oC 21 121 [.t 19,.t 20],oN 5 21]) (.seq (rg [oM 22 0,oT 23 (.nilCheck (.t 22)),oQ 24 0 23,oQ 25 14 24,oL 26 25,oM 27 5,oA 28 6 26 27,oR 29 6 28,oV 6 (.alloc [.c (.int .i64 0),.c (.int .i64 0),.c (.int .i64 0),.c (.int .i64 0),.c (.bool false),.c (.int .i64 0)]),oS 6 6 29]) (.seq (rg [oM 31 0,oT 32 (.nilCheck (.t 31)),oQ 33 0 32,oQ 34 0 33,oQ 35 0 34,oR 36 5 35,oK 37 6 6,oM 38 0,oT 39 (.nilCheck (.t 38)),oQ 40 0 39,oQ 41 9 40,oL 42 41,oC 43 123 [.t 36,.t 37,.t 42],oP 30 43,oE 44 30 0,oE 45 30 1,oN 7 44,oP 8 45]) (.seq (rg [oM 46 7,oT 47 (.minmax true [.t 46,.c (.int .i64 1)]),oN 7 47]) (.seq (.region ⟨[oM 49 0,oT 50 (.nilCheck (.t 49)),oQ 51 16 50,oR 52 2 51,oM 53 0,oT 54 (.nilCheck (.t 53)),oQ 55 0 54,oQ 56 10 55,oL 57 56,oM 58 0,oT 59 (.callA 125 [.t 58]),oT 60 (.load none (.v 3)),oC 61 124 [.t 52,.t 57,.t 59,.t 60],oP 48 61,oE 62 48 0,oE 63 48 1,oN 9 62,oP 10 63],[],[(3,10),(8,10),(10,11)]⟩) (.seq (rg [oM 65 0,oT 66 (.nilCheck (.t 65)),oQ 67 16 66,oR 68 2 67,oM 69 0,oT 70 (.nilCheck (.t 69)),oQ 71 0 70,oQ 72 13 71,oL 73 72,oT 74 (.load none (.v 3)),oM 75 9,oM 76 7,oM 77 0,oT 78 (.nilCheck (.t 77)),oQ 79 0 78,oQ 80 7 79,oL 81 80,oM 82 0,oT 83 (.nilCheck (.t 82)),oQ 84 0 83,oQ 85 0 84,oQ 86 5 85,oL 87 86,oT 88 (.bin .mul (.t 81) (.t 87)),oM 89 0,oT 90 (.nilCheck (.t 89)),oQ 91 0 90,oQ 92 0 91,oQ 93 6 92,oL 94 93,oC 95 126 [.t 68,.t 73,.t 74,.t 75,.t 76,.t 88,.t 94],oP 64 95,oE 96 64 0,oE 97 64 1,oN 11 96,oN 12 97]) (.seq (.seq (rg [oM 98 12,oV 99 (.bin .neq (.t 98) (cI 0))]) (.cond (.v 99) (.seq (rg [oV 4 (.move cF)]) .ret) .skip)) (.seq (rg [oM 100 0,oM 101 11,oT 102 (.nilCheck (.t 100)),oQ 103 0 102,oQ 104 13 103,oZ (.store 1 (.t 104) (.t 101))]) (.seq (rg [oM 105 0,oK 106 6 6,oT 107 (.callW 127 [.t 105,.t 106])]) (.seq (rg [oM 108 0,oM 109 0,oT 110 (.nilCheck (.t 109)),oQ 111 0 110,oQ 112 14 111,oL 113 112,oM 114 5,oM 115 5,oI 116 115,oT 117 (.callW 128 [.t 113,.t 114,.t 116]),oT 118 (.nilCheck (.t 108)),oQ 119 0 118,oQ 120 14 119,oZ (.store 1 (.t 120) (.t 117))]) (.seq (rg [oM 121 0,oF 122 2 6,oL 123 122,oF 124 3 6,oL 125 124,oT 126 (.bin .add (.t 123) (.t 125)),oT 127 (.nilCheck (.t 121)),oQ 128 0 127,oQ 129 9 128,oZ (.store 1 (.t 129) (.t 126))]) (.seq (rg [oM 130 0,oM 131 0,oT 132 (.nilCheck (.t 131)),oQ 133 0 132,oQ 134 8 133,oL 135 134,oM 136 0,oT 137 (.nilCheck (.t 136)),oQ 138 0 137,oQ 139 7 138,oL 140 139,oT 141 (.bin .sub (.t 140) (cI 1)),oM 142 0,oT 143 (.nilCheck (.t 142)),oQ 144 0 143,oQ 145 0 144,oQ 146 5 145,oL 147 146,oT 148 (.bin .mul (.t 141) (.t 147)),oT 149 (.minmax true [.t 135,.t 148]),oM 150 7,oT 151 (.bin .add (.t 149) (.t 150)),oT 152 (.nilCheck (.t 130)),oQ 153 0 152,oQ 154 8 153,oZ (.store 1 (.t 154) (.t 151))]) (.seq (rg [oM 155 0,oT 156 (.nilCheck (.t 155)),oQ 157 0 156,oQ 158 7 157,oL 159 158,oI 160 159,oM 161 0,oT 162 (.nilCheck (.t 161)),oQ 163 0 162,oQ 164 8 163,oL 165 164,oM 166 0,oT 167 (.nilCheck (.t 166)),oQ 168 0 167,oQ 169 0 168,oQ 170 5 169,oL 171 170,oT 172 (.bin .add (.t 165) (.t 171)),oT 173 (.bin .sub (.t 172) (cI 1)),oM 174 0,oT 175 (.nilCheck (.t 174)),oQ 176 0 175,oQ 177 0 176,oQ 178 5 177,oL 179 178,oT 180 (.bin .quo (.t 173) (.t 179)),oT 181 (.minmax true [.t 160,.t 180]),oN 13 181]) (.seq (rg [oM 182 0,oT 183 (.nilCheck (.t 182)),oQ 184 0 183,oQ 185 15 184,oL 186 185,oY 187 186,oN 14 187]) (.seq (.block 0 (.loop (.seq (.seq (rg [oM 188 14,oT 189 (.bin .gtr (.t 188) (cI 0)),oP 190 189,gM 191 0 190 true,oG 192 (.nilCheck (.t 191)) 190 true,oG 193 (.fieldAddr 0 (.t 192)) 190 true,oG 194 (.fieldAddr 15 (.t 193)) 190 true,gL 195 194 190 true,gM 196 14 190 true,oG 197 (.bin .sub (.t 196) (cI 1)) 190 true,oG 198 (.indexAddr 7 (.t 195) (.t 197)) 190 true,oG 199 (.fieldAddr 6 (.t 198)) 190 true,gL 200 199 190 true,gM 201 13 190 true,oG 202 (.bin .gtr (.t 200) (.t 201)) 190 true,oV 203 (.pick (.t 190) (.t 202) cF)]) (.cond (.v 203) .skip (.exit 0))) (.block 1 (rg [oM 204 14,oT 205 (.bin .sub (.t 204) (cI 1)),oN 14 205]))))) (.seq (.region ⟨[oM 206 0,oM 207 0,oT 208 (.nilCheck (.t 207)),oQ 209 0 208,oQ 210 15 209,oL 211 210,oM 212 14,oK 213 6 6,oM 214 13,oT 215 (.build [.a (.t 213) 0 6,.a (.t 213) 1 6,.a (.t 213) 2 6,.a (.t 213) 3 6,.a (.t 213) 4 6,.a (.t 213) 5 6,.a (.t 214) 0 1]),oT 216 (.buildSlice 7 [.t 215]),oT 217 (.callW 129 [.t 211,.t 212,.t 216]),oT 218 (.nilCheck (.t 206)),oQ 219 0 218,oQ 220 15 219,oZ (.store 1 (.t 220) (.t 217))],[],[(5,9),(5,10)]⟩) (.seq (rg [oV 4 (.move cT)]) .ret)))))))))))))))))
def vf55 : VFunc:={ vs:=[0,1,3,4,5,6,7,9,11,12,13,14,99,203],nparams:=2,rets:=[.tmp (.v 4)],body:=vb55 }
def vb61 : VCode:=.seq (rg [oV 4 (.move cF)]) (.seq (.seq (rg [oJ 5 0]) (.block 0 (.loop (.seq (.seq (rg [oM 6 5,oM 7 0,oY 8 7,oU 9 6 8]) (.cond (.v 9) .skip (.exit 0))) (.seq (.block 1 (.seq (rg [oM 12 0,oM 13 5,oA 14 1 12 13,oL 15 14,oM 16 1,oV 17 (.bin .eql (.t 15) (.t 16))]) (.cond (.v 17) (.seq (rg [oV 4 (.move cT)]) .ret) .skip))) (rg [oM 10 5,oI 11 10,oN 5 11])))))) (.seq (rg [oV 4 (.move cF)]) .ret))
def vf61 : VFunc:={ vs:=[0,1,4,5,9,17],nparams:=2,rets:=[.tmp (.v 4)],body:=vb61 }
def vb62 : VCode:=.seq (rg [oX 2 2 0,oV 4 (.newArr 1)]) (.seq (.seq (rg [oK 5 2 2,oM 6 1,oC 7 83 [.t 5,.t 6],oV 8 (.not (.t 7))]) (.cond (.v 8) (.seq (rg [oV 4 (.newArr 1)]) .ret) .skip)) (.seq (rg [oK 9 2 2,oM 10 1,oC 11 140 [.t 9,.t 10],oN 4 11]) .ret))
def vf62 : VFunc:={ vs:=[0,1,2,4,8],nparams:=2,rets:=[.tmp (.v 4)],body:=vb62 }
def vb63 : VCode:=.seq (rg [oX 1 7 0,oV 2 (.move cF)]) (.seq (rg [oF 3 0 1,oR 4 5 3,oC 5 141 [.t 4],oP 6 5,gF 7 5 1 6 true,gL 8 7 6 true,oG 9 (.call 109 [.t 8,.c (.int .i64 1),.c (.int .i64 1000000)]) 6 true,oB 10 6 9,oP 11 10,gF 12 6 1 11 true,gL 13 12 11 true,oG 14 (.call 109 [.t 13,.c (.int .i64 0),.c (.int .i64 1073741824)]) 11 true,oB 15 11 14,oN 2 15]) .ret)
def vf63 : VFunc:={ vs:=[0,1,2],nparams:=1,rets:=[.tmp (.v 2)],body:=vb63 }
def vb70 : VCode:=.seq (rg [oX 1 2 0,oV 2 (.move cF)]) (.seq (.seq (rg [oF 6 0 1,oL 7 6,oY 8 7,oT 9 (.bin .lss (.t 8) (cI 1)),oP 10 9,gF 11 0 1 10 false,gL 12 11 10 false,oG 13 (.len (.t 12)) 10 false,oG 14 (.bin .gtr (.t 13) (cI 64)) 10 false,oO 15 10 14,oP 16 15,gF 17 0 1 16 false,gL 18 17 16 false,oG 19 (.indexAddr 6 (.t 18) (cI 0)) 16 false,oG 20 (.load (some 6) (.t 19)) 16 false,oG 21 (.call 142 [.t 20]) 16 false,oG 22 (.not (.t 21)) 16 false,oV 23 (.pick (.t 16) cT (.t 22))]) (.cond (.v 23) (.seq (rg [oV 2 (.move cF)]) .ret) .skip)) (.seq (rg [oT 24 (.makeMap (.int .i64)),oN 3 24]) (.seq (.seq (rg [oF 25 0 1,oV 26 (.load none (.t 25)),oV 27 (.len (.v 26)),oJ 28 0]) (.block 0 (.loop (.seq (rg [oV 29 (.bin .lss (.v 28) (.v 27))]) (.seq (.cond (.v 29) .skip (.exit 0)) (.seq (.block 1 (.seq (rg [oM 30 28,oT 31 (.indexAddr 6 (.v 26) (.v 28)),oR 32 6 31,oV 5 (.alloc [.c (.int .i64 0),.c (.int .i64 0),.c (.str ⟨#[]⟩),.c (.int .i64 0),.c (.int .i64 0),.c (.int .i64 0)]),oN 4 30,oS 6 5 32]) (.seq (.seq (.region ⟨[oF 33 3 5,oL 34 33,oT 35 (.bin .lss (.t 34) (cI 0)),oP 36 35,gF 37 3 5 36 false,gL 38 37 36 false,oG 39 (.bin .andNot (.t 38) (cI 31)) 36 false,oG 40 (.bin .neq (.t 39) (cI 0)) 36 false,oO 41 36 40,oP 42 41,gF 43 5 5 42 false,gL 44 43 42 false,oG 45 (.bin .lss (.t 44) (cI 0)) 42 false,oO 46 42 45,oP 47 46,gF 48 5 5 47 false,gL 49 48 47 false,oG 50 (.bin .gtr (.t 49) (cI 1048576)) 47 false,oO 51 47 50,oP 52 51,gM 53 4 52 false,oG 54 (.bin .gtr (.t 53) (cI 0)) 52 false,oG 55 (.move (.t 54)) 52 false,gF 56 0 1 55 true,gL 57 56 55 true,gM 58 4 55 true,oG 59 (.slice false 6 none (some (.t 58)) none (.t 57)) 55 true,oG 60 (.load (some 6) (.v 5)) 55 true,oG 61 (.call 143 [.t 59,.t 60]) 55 true,oG 62 (.not (.t 61)) 55 true,oG 63 (.pick (.t 55) (.t 62) cF) 52 false,oV 64 (.pick (.t 52) cT (.t 63))],[],[(26,27)]⟩) (.cond (.v 64) (.seq (rg [oV 2 (.move cF)]) .ret) .skip)) (.seq (.seq (rg [oM 65 4,oV 66 (.bin .gtr (.t 65) (cI 0))]) (.cond (.v 66) (rg [oM 67 3,oF 68 0 5,oL 69 68,oM 70 3,oF 71 1 5,oL 72 71,oT 73 (.lookup false (.int .i64) (.int .i64 0) (.t 70) (.t 72)),oI 74 73,oZ (.mapUpdate (.int .i64) (.t 67) (.t 69) (.t 74))]) .skip)) (.seq (rg [oM 75 3,oF 76 0 5,oL 77 76,oT 78 (.lookup false (.int .i64) (.int .i64 0) (.t 75) (.t 77)),oV 79 (.bin .gtr (.t 78) (cI 8))]) (.cond (.v 79) (.seq (rg [oV 2 (.move cF)]) .ret) .skip)))))) (rg [oT 80 (.bin .add (.v 28) (cI 1)),oN 28 80]))))))) (.seq (rg [oF 81 1 1,oL 82 81,oF 83 0 1,oL 84 83,oF 85 0 1,oL 86 85,oY 87 86,oT 88 (.bin .sub (.t 87) (cI 1)),oA 89 6 84 88,oQ 90 0 89,oL 91 90,oT 92 (.bin .gtr (.t 82) (.t 91)),oP 93 92,gF 94 1 1 93 true,gL 95 94 93 true,oG 96 (.bin .leq (.t 95) (cI 2147483648)) 93 true,oB 97 93 96,oN 2 97]) .ret))))
def vf70 : VFunc:={ vs:=[0,1,2,3,4,5,23,26,27,28,29,64,66,79],nparams:=1,rets:=[.tmp (.v 2)],body:=vb70 }
def vb71 : VCode:=.seq (rg [oV 4 (.newArr 2)]) (.seq (rg [oM 8 0,oM 9 1,oC 10 144 [.t 8,.t 9],oN 5 10]) (.seq (.seq (rg [oM 11 5,oV 12 (.bin .eql (.t 11) (cI (-1)))]) (.cond (.v 12) (.seq (rg [oM 13 0,oN 4 13]) .ret) .skip)) (.seq (.seq (rg [oM 14 5,oI 15 14,oN 6 15]) (.block 0 (.loop (.seq (.seq (rg [oM 16 6,oM 17 0,oY 18 17,oU 19 16 18]) (.cond (.v 19) .skip (.exit 0))) (.seq (.block 1 (.seq (rg [oM 22 0,oM 23 6,oA 24 2 22 23,oR 25 2 24,oV 7 (.alloc [.c (.int .i64 0),.c (.int .i64 0)]),oS 2 7 25]) (.seq (rg [oM 26 1,oK 27 2 7,oT 28 (.callv (.t 26) [.t 27]),oV 29 (.not (.t 28))]) (.cond (.v 29) (.seq (rg [oM 30 0,oM 31 5,oK 32 2 7,oA 33 2 30 31,oZ (.store 2 (.t 33) (.t 32))]) (rg [oM 34 5,oI 35 34,oN 5 35])) .skip)))) (rg [oM 20 6,oI 21 20,oN 6 21])))))) (.seq (rg [oM 36 0,oM 37 5,oT 38 (.slice false 2 (some (.t 37)) none none (.t 36)),oZ (.clear 2 (.agg [.int .i64 0,.int .i64 0]) (.t 38))]) (.seq (rg [oM 39 0,oM 40 5,oT 41 (.slice false 2 none (some (.t 40)) none (.t 39)),oN 4 41]) .ret)))))
def vf71 : VFunc:={ vs:=[0,1,4,5,6,7,12,19,29],nparams:=2,rets:=[.tmp (.v 4)],body:=vb71 }
def vb73 : VCode:=.seq (rg [oX 2 2 0,oV 4 (.move cF)]) (.seq (rg [oK 8 2 2,oM 9 1,oC 10 145 [.t 8,.t 9],oP 7 10,oE 11 7 0,oE 12 7 1,oT 5 (.alloc [.c (.int .i64 0),.c (.int .i64 0),.c (.str ⟨#[]⟩),.c (.int .i64 0),.c (.int .i64 0),.c (.int .i64 0)]),oZ (.store 6 (.t 5) (.t 11)),oN 6 12]) (.seq (rg [oM 13 6,oN 4 13]) .ret))
def vf73 : VFunc:={ vs:=[0,1,2,4,6],nparams:=2,rets:=[.tmp (.v 4)],body:=vb73 }
def vb76 : VCode:=.seq (rg [oV 4 (.newArr 3)]) (.seq (rg [oM 8 0,oM 9 1,oC 10 147 [.t 8,.t 9],oN 5 10]) (.seq (.seq (rg [oM 11 5,oV 12 (.bin .eql (.t 11) (cI (-1)))]) (.cond (.v 12) (.seq (rg [oM 13 0,oN 4 13]) .ret) .skip)) (.seq (.seq (rg [oM 14 5,oI 15 14,oN 6 15]) (.block 0 (.loop (.seq (.seq (rg [oM 16 6,oM 17 0,oY 18 17,oU 19 16 18]) (.cond (.v 19) .skip (.exit 0))) (.seq (.block 1 (.seq (rg [oM 22 0,oM 23 6,oA 24 3 22 23,oR 25 3 24,oV 7 (.alloc [.c (.int .i64 0),.c (.int .i64 0),.c (.int .i64 0)]),oS 3 7 25]) (.seq (rg [oM 26 1,oK 27 3 7,oT 28 (.callv (.t 26) [.t 27]),oV 29 (.not (.t 28))]) (.cond (.v 29) (.seq (rg [oM 30 0,oM 31 5,oK 32 3 7,oA 33 3 30 31,oZ (.store 3 (.t 33) (.t 32))]) (rg [oM 34 5,oI 35 34,oN 5 35])) .skip)))) (rg [oM 20 6,oI 21 20,oN 6 21])))))) (.seq (rg [oM 36 0,oM 37 5,oT 38 (.slice false 3 (some (.t 37)) none none (.t 36)),oZ (.clear 3 (.agg [.int .i64 0,.int .i64 0,.int .i64 0]) (.t 38))]) (.seq (rg [oM 39 0,oM 40 5,oT 41 (.slice false 3 none (some (.t 40)) none (.t 39)),oN 4 41]) .ret)))))
def vf76 : VFunc:={ vs:=[0,1,4,5,6,7,12,19,29],nparams:=2,rets:=[.tmp (.v 4)],body:=vb76 }
def vb82 : VCode:=.seq (rg [oX 1 2 0,oV 2 (.move cF)]) (.seq (rg [oF 6 0 1,oL 7 6,oY 8 7,oN 3 8]) (.seq (.seq (rg [oM 9 3,oT 10 (.bin .lss (.t 9) (cI 1)),oP 11 10,gM 12 3 11 false,oG 13 (.bin .gtr (.t 12) (cI 64)) 11 false,oV 14 (.pick (.t 11) cT (.t 13))]) (.cond (.v 14) (.seq (rg [oV 2 (.move cF)]) .ret) .skip)) (.seq (.seq (rg [oJ 4 0]) (.block 0 (.loop (.seq (.seq (rg [oM 15 4,oM 16 3,oU 17 15 16]) (.cond (.v 17) .skip (.exit 0))) (.seq (.block 1 (.seq (rg [oK 20 2 1,oM 21 4,oC 22 149 [.t 20,.t 21],oV 23 (.not (.t 22))]) (.cond (.v 23) (.seq (rg [oV 2 (.move cF)]) .ret) .skip))) (rg [oM 18 4,oI 19 18,oN 4 19])))))) (.seq (.seq (rg [oJ 5 0]) (.block 2 (.loop (.seq (.seq (.region ⟨[oM 24 5,oM 25 3,oU 26 24 25],[36],[]⟩) (.cond (.v 26) .skip (.exit 2))) (.seq (.block 3 (.seq (rg [oK 29 2 1,oF 30 0 1,oL 31 30,oM 32 5,oA 33 6 31 32,oQ 34 0 33,oL 35 34,oC 36 140 [.t 29,.t 35],oY 37 36,oV 38 (.bin .gtr (.t 37) (cI 9))]) (.cond (.v 38) (.seq (rg [oV 2 (.move cF)]) .ret) .skip))) (rg [oM 27 5,oI 28 27,oN 5 28])))))) (.seq (rg [oF 39 1 1,oL 40 39,oF 41 0 1,oL 42 41,oM 43 3,oT 44 (.bin .sub (.t 43) (cI 1)),oA 45 6 42 44,oQ 46 0 45,oL 47 46,oT 48 (.bin .gtr (.t 40) (.t 47)),oP 49 48,gF 50 1 1 49 true,gL 51 50 49 true,oG 52 (.bin .leq (.t 51) (cI 2147483648)) 49 true,oB 53 49 52,oN 2 53]) .ret)))))
def vf82 : VFunc:={ vs:=[0,1,2,3,4,5,14,17,23,26,38],nparams:=1,rets:=[.tmp (.v 2)],body:=vb82 }
def vb83 : VCode:=.seq (rg [oX 2 2 0,oV 4 (.move cF)]) (.seq (rg [oK 8 2 2,oM 9 1,oC 10 150 [.t 8,.t 9],oP 7 10,oE 11 7 0,oE 12 7 1,oT 5 (.alloc [.c (.int .i64 0),.c (.int .i64 0),.c (.str ⟨#[]⟩),.c (.int .i64 0),.c (.int .i64 0),.c (.int .i64 0)]),oZ (.store 6 (.t 5) (.t 11)),oN 6 12]) (.seq (rg [oM 13 6,oN 4 13]) .ret))
def vf83 : VFunc:={ vs:=[0,1,2,4,6],nparams:=2,rets:=[.tmp (.v 4)],body:=vb83 }
def vb85 : VCode:=.seq (rg [oV 2 (.move cF)]) (.seq (.seq (rg [oJ 3 0]) (.block 0 (.loop (.seq (.seq (rg [oM 5 3,oM 6 0,oY 7 6,oU 8 5 7]) (.cond (.v 8) .skip (.exit 0))) (.seq (.block 1 (.seq (rg [oM 11 0,oM 12 3,oA 13 7 11 12,oR 14 7 13,oV 4 (.alloc [.c (.int .i64 0),.c (.int .i64 0),.c (.int .i64 0),.c (.int .i64 0),.c (.int .i64 0),.c (.int .i64 0),.c (.int .i64 0)]),oS 7 4 14]) (.seq (rg [oF 15 0 4,oL 16 15,oT 17 (.bin .lss (.t 16) (cI 0)),oP 18 17,gF 19 0 4 18 false,gL 20 19 18 false,oG 21 (.bin .geq (.t 20) (cI 8)) 18 false,oO 22 18 21,oP 23 22,gM 24 3 23 false,oG 25 (.bin .gtr (.t 24) (cI 0)) 23 false,oG 26 (.move (.t 25)) 23 false,gF 27 0 4 26 true,gL 28 27 26 true,gM 29 0 26 true,gM 30 3 26 true,oG 31 (.bin .sub (.t 30) (cI 1)) 26 true,oG 32 (.indexAddr 7 (.t 29) (.t 31)) 26 true,oG 33 (.fieldAddr 0 (.t 32)) 26 true,gL 34 33 26 true,oG 35 (.bin .leq (.t 28) (.t 34)) 26 true,oG 36 (.pick (.t 26) (.t 35) cF) 23 false,oO 37 23 36,oP 38 37,gF 39 1 4 38 false,gL 40 39 38 false,oG 41 (.bin .lss (.t 40) (cI 1)) 38 false,oO 42 38 41,oP 43 42,gF 44 1 4 43 false,gL 45 44 43 false,oG 46 (.bin .gtr (.t 45) (cI 10000)) 43 false,oO 47 43 46,oP 48 47,gF 49 2 4 48 false,gL 50 49 48 false,oG 51 (.call 155 [.t 50,.c (.int .i64 1),.c (.int .i64 1073741824)]) 48 false,oG 52 (.not (.t 51)) 48 false,oO 53 48 52,oP 54 53,gF 55 3 4 54 false,gL 56 55 54 false,oG 57 (.call 155 [.t 56,.c (.int .i64 1),.c (.int .i64 1073741824)]) 54 false,oG 58 (.not (.t 57)) 54 false,oO 59 54 58,oP 60 59,gF 61 4 4 60 false,gL 62 61 60 false,oG 63 (.call 155 [.t 62,.c (.int .i64 1),.c (.int .i64 1073741824)]) 60 false,oG 64 (.not (.t 63)) 60 false,oO 65 60 64,oP 66 65,gF 67 5 4 66 false,gL 68 67 66 false,oG 69 (.call 155 [.t 68,.c (.int .i64 1),.c (.int .i64 1073741824)]) 66 false,oG 70 (.not (.t 69)) 66 false,oO 71 66 70,oP 72 71,gF 73 6 4 72 false,gL 74 73 72 false,oG 75 (.bin .lss (.t 74) (cI 0)) 72 false,oO 76 72 75,oP 77 76,gF 78 6 4 77 false,gL 79 78 77 false,oG 80 (.bin .gtr (.t 79) (cI 1048576)) 77 false,oV 81 (.pick (.t 77) cT (.t 80))]) (.cond (.v 81) (.seq (rg [oV 2 (.move cF)]) .ret) .skip)))) (rg [oM 9 3,oI 10 9,oN 3 10])))))) (.seq (rg [oM 82 0,oY 83 82,oT 84 (.bin .leq (.t 83) (cI 8)),oN 2 84]) .ret))
def vf85 : VFunc:={ vs:=[0,2,3,4,8,81],nparams:=1,rets:=[.tmp (.v 2)],body:=vb85 }
end Go.V
namespace Go.V
def vb86 : VCode:=.seq (rg [oX 4 1 1]) (.seq (rg [oM 6 0,oM 7 0,oT 8 (.nilCheck (.t 7)),oQ 9 0 8,oQ 10 10 9,oL 11 10,oT 12 (.makeFunc 156 [.v 4]),oT 13 (.callW 71 [.t 11,.t 12]),oT 14 (.nilCheck (.t 6)),oQ 15 0 14,oQ 16 10 15,oZ (.store 1 (.t 16) (.t 13))]) (.seq (rg [oM 17 2,oV 18 (.bin .neq (.t 17) (cI 100))]) (.cond (.v 18) (.seq (.region ⟨[oM 19 0,oM 20 0,oT 21 (.nilCheck (.t 20)),oQ 22 0 21,oQ 23 10 22,oL 24 23,oT 25 (.load none (.v 4)),oM 26 2,oT 27 (.build [.a (.t 25) 0 1,.a (.t 26) 0 1]),oT 28 (.buildSlice 2 [.t 27]),oT 29 (.append 2 16 (.t 24) (.t 28)),oT 30 (.nilCheck (.t 19)),oQ 31 0 30,oQ 32 10 31,oZ (.store 1 (.t 32) (.t 29))],[],[(5,8),(5,9)]⟩) (rg [oM 33 0,oT 34 (.nilCheck (.t 33)),oQ 35 0 34,oQ 36 10 35,oL 37 36,oT 38 (.callW 157 [.t 37,.c (.fn 158)])])) .skip)))
def vf86 : VFunc:={ vs:=[0,1,2,4,18],nparams:=3,rets:=[],body:=vb86 }
def vb87 : VCode:=.seq (rg [oX 5 7 2]) (.seq (rg [oM 9 0,oM 10 1,oT 11 (.callR 159 [.t 9,.t 10]),oN 6 11]) (.seq (rg [oV 7 (.alloc [.c (.int .i64 0),.c (.int .i64 0),.c (.int .i64 0),.c (.int .i64 0),.c (.int .i64 0),.c (.int .i64 0),.c (.int .i64 0),.c (.int .i64 0),.c (.int .i64 0),.c (.int .i64 0),.c (.int .i64 0),.c (.int .i64 0),.c (.int .i64 0),.c (.int .i64 0),.c (.int .i64 0),.c (.int .i64 0),.c (.int .i64 0),.c (.int .i64 0),.c (.int .i64 0),.c (.int .i64 0),.c (.int .i64 0)])]) (.seq (.seq (rg [oM 12 6,oV 13 (.bin .geq (.t 12) (cI 0))]) (.cond (.v 13) (.seq (rg [oM 14 0,oT 15 (.nilCheck (.t 14)),oQ 16 0 15,oQ 17 11 16,oL 18 17,oM 19 6,oA 20 21 18 19,oR 21 21 20,oS 21 7 21]) (rg [oM 22 0,oM 23 0,oT 24 (.nilCheck (.t 23)),oQ 25 0 24,oQ 26 11 25,oL 27 26,oM 28 6,oM 29 6,oI 30 29,oT 31 (.callW 160 [.t 27,.t 28,.t 30]),oT 32 (.nilCheck (.t 22)),oQ 33 0 32,oQ 34 11 33,oZ (.store 1 (.t 34) (.t 31))])) .skip)) (.seq (.seq (rg [oF 35 2 5,oL 36 35,oT 37 (.bin .eql (.t 36) (cI 4611686018427387904)),oP 38 37,gF 39 3 5 38 true,gL 40 39 38 true,oG 41 (.bin .eql (.t 40) (cI 4611686018427387904)) 38 true,oB 42 38 41,oP 43 42,gF 44 4 5 43 true,gL 45 44 43 true,oG 46 (.bin .eql (.t 45) (cI 4611686018427387904)) 43 true,oB 47 43 46,oP 48 47,gF 49 5 5 48 true,gL 50 49 48 true,oG 51 (.bin .eql (.t 50) (cI 4611686018427387904)) 48 true,oV 52 (.pick (.t 48) (.t 51) cF)]) (.cond (.v 52) .ret .skip)) (.seq (rg [oM 53 1,oT 54 (.build [.a (.t 53) 0 1,.z (.c (.int .i64 0)),.z (.c (.int .i64 0)),.z (.c (.int .i64 0)),.z (.c (.int .i64 0)),.z (.c (.int .i64 0)),.z (.c (.int .i64 0)),.z (.c (.int .i64 0)),.z (.c (.int .i64 0)),.z (.c (.int .i64 0)),.z (.c (.int .i64 0)),.z (.c (.int .i64 0)),.z (.c (.int .i64 0)),.z (.c (.int .i64 0)),.z (.c (.int .i64 0)),.z (.c (.int .i64 0)),.z (.c (.int .i64 0)),.z (.c (.int .i64 0)),.z (.c (.int .i64 0)),.z (.c (.int .i64 0)),.z (.c (.int .i64 0))]),oV 8 (.alloc [.c (.int .i64 0),.c (.int .i64 0),.c (.int .i64 0),.c (.int .i64 0),.c (.int .i64 0),.c (.int .i64 0),.c (.int .i64 0),.c (.int .i64 0),.c (.int .i64 0),.c (.int .i64 0),.c (.int .i64 0),.c (.int .i64 0),.c (.int .i64 0),.c (.int .i64 0),.c (.int .i64 0),.c (.int .i64 0),.c (.int .i64 0),.c (.int .i64 0),.c (.int .i64 0),.c (.int .i64 0),.c (.int .i64 0)]),oS 21 8 54]) (.seq (rg [oM 55 0,oF 56 1 7,oR 57 5 56,oM 58 6,oT 59 (.bin .geq (.t 58) (cI 0)),oF 60 2 5,oL 61 60,oT 62 (.callR 161 [.t 55,.t 57,.t 59,.t 61,.c (.int .i64 4096)]),oM 63 0,oF 64 6 7,oR 65 5 64,oM 66 6,oT 67 (.bin .geq (.t 66) (cI 0)),oF 68 3 5,oL 69 68,oT 70 (.callR 161 [.t 63,.t 65,.t 67,.t 69,.c (.int .i64 4096)]),oF 71 1 8,oZ (.store 5 (.t 71) (.t 62)),oF 72 6 8,oZ (.store 5 (.t 72) (.t 70))]) (.seq (rg [oM 73 0,oF 74 11 7,oR 75 5 74,oM 76 6,oT 77 (.bin .geq (.t 76) (cI 0)),oF 78 4 5,oL 79 78,oT 80 (.callR 161 [.t 73,.t 75,.t 77,.t 79,.c (.int .i64 0)]),oM 81 0,oF 82 16 7,oR 83 5 82,oM 84 6,oT 85 (.bin .geq (.t 84) (cI 0)),oF 86 5 5,oL 87 86,oT 88 (.callR 161 [.t 81,.t 83,.t 85,.t 87,.c (.int .i64 0)]),oF 89 11 8,oZ (.store 5 (.t 89) (.t 80)),oF 90 16 8,oZ (.store 5 (.t 90) (.t 88))]) (.seq (.region ⟨[oM 91 0,oM 92 0,oT 93 (.nilCheck (.t 92)),oQ 94 0 93,oQ 95 11 94,oL 96 95,oK 97 21 8,oT 98 (.buildSlice 21 [.t 97]),oT 99 (.append 21 168 (.t 96) (.t 98)),oT 100 (.nilCheck (.t 91)),oQ 101 0 100,oQ 102 11 101,oZ (.store 1 (.t 102) (.t 99))],[],[(5,7)]⟩) (rg [oM 103 0,oT 104 (.nilCheck (.t 103)),oQ 105 0 104,oQ 106 11 105,oL 107 106,oT 108 (.callW 162 [.t 107,.c (.fn 163)])])))))))))
def vf87 : VFunc:={ vs:=[0,1,2,5,6,7,8,13,52],nparams:=3,rets:=[],body:=vb87 }
def vb88 : VCode:=.seq (rg [oX 4 1 1]) (.seq (.region ⟨[oM 7 0,oT 8 (.nilCheck (.t 7)),oQ 9 0 8,oQ 10 12 9,oL 11 10,oT 12 (.load none (.v 4)),oC 13 164 [.t 11,.t 12],oV 6 (.alloc [.c (.int .i64 0),.c (.int .i64 0),.c (.int .i64 0)]),oS 3 6 13],[],[(4,7),(5,7),(6,7)]⟩) (.seq (rg [oM 14 2,oF 15 1 6,oZ (.store 1 (.t 15) (.t 14))]) (.seq (rg [oM 16 0,oM 17 0,oT 18 (.nilCheck (.t 17)),oQ 19 0 18,oQ 20 12 19,oL 21 20,oT 22 (.makeFunc 165 [.v 4]),oT 23 (.callW 76 [.t 21,.t 22]),oT 24 (.nilCheck (.t 16)),oQ 25 0 24,oQ 26 12 25,oZ (.store 1 (.t 26) (.t 23))]) (.seq (rg [oF 27 1 6,oL 28 27,oT 29 (.bin .neq (.t 28) (cI 0)),oP 30 29,gF 31 2 6 30 false,gL 32 31 30 false,oG 33 (.bin .neq (.t 32) (cI 256)) 30 false,oV 34 (.pick (.t 30) cT (.t 33))]) (.cond (.v 34) (.seq (.region ⟨[oM 35 0,oM 36 0,oT 37 (.nilCheck (.t 36)),oQ 38 0 37,oQ 39 12 38,oL 40 39,oK 41 3 6,oT 42 (.buildSlice 3 [.t 41]),oT 43 (.append 3 24 (.t 40) (.t 42)),oT 44 (.nilCheck (.t 35)),oQ 45 0 44,oQ 46 12 45,oZ (.store 1 (.t 46) (.t 43))],[],[(5,7)]⟩) (rg [oM 47 0,oT 48 (.nilCheck (.t 47)),oQ 49 0 48,oQ 50 12 49,oL 51 50,oT 52 (.callW 166 [.t 51,.c (.fn 167)])])) .skip)))))
def vf88 : VFunc:={ vs:=[0,1,2,4,6,34],nparams:=3,rets:=[],body:=vb88 }
def vb89 : VCode:=.seq (rg [oJ 2 0]) (.seq (rg [oM 3 0,oC 4 16 [.t 3,.c (.int .i64 1000)],oT 5 (.bin .add (cI 1) (.t 4)),oT 6 (.buildSlice 1 [.c (.int .i64 1),.c (.int .i64 100),.c (.int .i64 300),.c (.int .i64 10000),.c (.int .i64 50),.c (.int .i64 200),.c (.int .i64 7),.t 5]),oM 7 0,oC 8 16 [.t 7,.c (.int .i64 8)],oA 9 1 6 8,oL 10 9,oN 2 10]) .ret)
def vf89 : VFunc:={ vs:=[0,2],nparams:=1,rets:=[.tmp (.v 2)],body:=vb89 }
def vb97 : VCode:=.seq (rg [oV 2 (.move cF)]) (.seq (.seq (rg [oM 5 0,oT 6 (.lenStr (.t 5)),oT 7 (.bin .eql (.t 6) (cI 0)),oP 8 7,gM 9 0 8 false,oG 10 (.lenStr (.t 9)) 8 false,oG 11 (.bin .gtr (.t 10) (cI 32)) 8 false,oO 12 8 11,oP 13 12,gM 14 0 13 false,oG 15 (.indexStr (.t 14) (cI 0)) 13 false,oG 16 (.bin .eql (.t 15) (.c (.int .u8 45))) 13 false,oV 17 (.pick (.t 13) cT (.t 16))]) (.cond (.v 17) (.seq (rg [oV 2 (.move cF)]) .ret) .skip)) (.seq (.seq (rg [oJ 3 0]) (.block 0 (.loop (.seq (.seq (rg [oM 18 3,oM 19 0,oT 20 (.lenStr (.t 19)),oU 21 18 20]) (.cond (.v 21) .skip (.exit 0))) (.seq (.block 1 (.seq (rg [oM 24 0,oM 25 3,oT 26 (.indexStr (.t 24) (.t 25)),oN 4 26]) (.seq (rg [oM 27 4,oT 28 (.bin .geq (.t 27) (.c (.int .u8 97))),oP 29 28,gM 30 4 29 true,oG 31 (.bin .leq (.t 30) (.c (.int .u8 122))) 29 true,oB 32 29 31,oP 33 32,gM 34 4 33 false,oG 35 (.bin .geq (.t 34) (.c (.int .u8 65))) 33 false,oG 36 (.move (.t 35)) 33 false,gM 37 4 36 true,oG 38 (.bin .leq (.t 37) (.c (.int .u8 90))) 36 true,oG 39 (.pick (.t 36) (.t 38) cF) 33 false,oO 40 33 39,oP 41 40,gM 42 4 41 false,oG 43 (.bin .geq (.t 42) (.c (.int .u8 48))) 41 false,oG 44 (.move (.t 43)) 41 false,gM 45 4 44 true,oG 46 (.bin .leq (.t 45) (.c (.int .u8 57))) 44 true,oG 47 (.pick (.t 44) (.t 46) cF) 41 false,oO 48 41 47,oP 49 48,gM 50 4 49 false,oG 51 (.bin .eql (.t 50) (.c (.int .u8 95))) 49 false,oO 52 49 51,oP 53 52,gM 54 4 53 false,oG 55 (.bin .eql (.t 54) (.c (.int .u8 45))) 53 false,oO 56 53 55,oV 57 (.not (.t 56))]) (.cond (.v 57) (.seq (rg [oV 2 (.move cF)]) .ret) .skip)))) (rg [oM 22 3,oI 23 22,oN 3 23])))))) (.seq (rg [oV 2 (.move cT)]) .ret)))
def vf97 : VFunc:={ vs:=[0,2,3,4,17,21,57],nparams:=1,rets:=[.tmp (.v 2)],body:=vb97 }
def vb98 : VCode:=.seq (rg [oX 2 2 0,oJ 4 0]) (.seq (rg [oK 5 2 2,oM 6 1,oC 7 62 [.t 5,.t 6],oY 8 7,oT 9 (.bin .sub (.t 8) (cI 1)),oN 4 9]) .ret)
def vf98 : VFunc:={ vs:=[0,1,2,4],nparams:=2,rets:=[.tmp (.v 4)],body:=vb98 }
def vb99 : VCode:=.seq (rg [oX 1 2 0,oV 2 (.alloc [.nil 6,.c (.int .i64 0)])]) (.seq (.region ⟨[oF 3 0 1,oL 4 3,oT 5 (.appendNil 6 56 (.t 4)),oF 6 1 1,oL 7 6,oT 8 (.build [.a (.t 5) 0 1,.a (.t 7) 0 1]),oS 2 2 8],[],[(2,4)]⟩) .ret)
def vf99 : VFunc:={ vs:=[0,1,2],nparams:=1,rets:=[.cell (.v 2) (some 2)],body:=vb99 }
def vb100 : VCode:=.seq (rg [oX 2 2 0,oV 4 (.newArr 1)]) (.seq (.seq (rg [oK 7 2 2,oM 8 1,oC 9 83 [.t 7,.t 8],oV 10 (.not (.t 9))]) (.cond (.v 10) (.seq (rg [oV 4 (.newArr 1)]) .ret) .skip)) (.seq (rg [oV 5 (.newArr 1)]) (.seq (.seq (rg [oJ 6 0]) (.block 0 (.loop (.seq (.seq (rg [oM 11 6,oF 12 0 2,oL 13 12,oY 14 13,oU 15 11 14]) (.cond (.v 15) .skip (.exit 0))) (.seq (.block 1 (.seq (rg [oF 18 0 2,oL 19 18,oM 20 6,oA 21 6 19 20,oQ 22 1 21,oL 23 22,oM 24 1,oV 25 (.bin .eql (.t 23) (.t 24))]) (.cond (.v 25) (rg [oM 26 5,oF 27 0 2,oL 28 27,oM 29 6,oA 30 6 28 29,oQ 31 0 30,oL 32 31,oT 33 (.buildSlice 1 [.t 32]),oT 34 (.append 1 8 (.t 26) (.t 33)),oN 5 34]) .skip))) (rg [oM 16 6,oI 17 16,oN 6 17])))))) (.seq (rg [oM 35 5,oN 4 35]) .ret))))
def vf100 : VFunc:={ vs:=[0,1,2,4,5,6,10,15,25],nparams:=2,rets:=[.tmp (.v 4)],body:=vb100 }
def vb101 : VCode:=.seq (rg [oX 1 5 0,oV 2 (.move cF)]) (.seq (rg [oF 5 0 1,oL 6 5,oF 7 1 1,oL 8 7,oF 9 2 1,oL 10 9,oF 11 3 1,oL 12 11,oF 13 4 1,oL 14 13,oT 15 (.buildSlice 1 [.t 6,.t 8,.t 10,.t 12,.t 14]),oN 3 15]) (.seq (.seq (rg [oJ 4 0]) (.block 0 (.loop (.seq (.seq (rg [oM 16 4,oM 17 3,oY 18 17,oU 19 16 18]) (.cond (.v 19) .skip (.exit 0))) (.seq (.block 1 (.seq (rg [oM 22 3,oM 23 4,oA 24 1 22 23,oL 25 24,oT 26 (.bin .lss (.t 25) (cI 0)),oP 27 26,gM 28 3 27 false,gM 29 4 27 false,oG 30 (.indexAddr 1 (.t 28) (.t 29)) 27 false,gL 31 30 27 false,oG 32 (.bin .gtr (.t 31) (cI 1000000)) 27 false,oV 33 (.pick (.t 27) cT (.t 32))]) (.cond (.v 33) (.seq (rg [oV 2 (.move cF)]) .ret) .skip))) (rg [oM 20 4,oI 21 20,oN 4 21])))))) (.seq (rg [oV 2 (.move cT)]) .ret)))
def vf101 : VFunc:={ vs:=[0,1,2,3,4,19,33],nparams:=1,rets:=[.tmp (.v 2)],body:=vb101 }
def vb102 : VCode:=.seq (rg [oX 1 6 0,oV 2 (.move cF)]) (.seq (rg [oF 3 0 1,oL 4 3,oC 5 170 [.t 4,.c (.int .i64 0),.c (.int .i64 2147483647)],oP 6 5,gF 7 1 1 6 true,gL 8 7 6 true,oG 9 (.call 170 [.t 8,.c (.int .i64 1),.c (.int .i64 2147483647)]) 6 true,oB 10 6 9,oP 11 10,gF 12 2 1 11 true,gL 13 12 11 true,oG 14 (.call 170 [.t 13,.c (.int .i64 0),.c (.int .i64 16777216)]) 11 true,oB 15 11 14,oP 16 15,gF 17 3 1 16 true,gL 18 17 16 true,oG 19 (.call 170 [.t 18,.c (.int .i64 1),.c (.int .i64 4096)]) 16 true,oB 20 16 19,oP 21 20,gF 22 2 1 21 true,gL 23 22 21 true,gF 24 3 1 21 true,gL 25 24 21 true,oG 26 (.bin .add (.t 23) (.t 25)) 21 true,oG 27 (.bin .leq (.t 26) (cI 16777216)) 21 true,oB 28 21 27,oP 29 28,gF 30 5 1 29 true,gL 31 30 29 true,oG 32 (.call 170 [.t 31,.c (.int .i64 0),.c (.int .i64 1048576)]) 29 true,oB 33 29 32,oN 2 33]) .ret)
def vf102 : VFunc:={ vs:=[0,1,2],nparams:=1,rets:=[.tmp (.v 2)],body:=vb102 }
def vb109 : VCode:=.seq (rg [oV 6 (.move cF)]) (.seq (rg [oM 7 0,oM 8 1,oT 9 (.bin .geq (.t 7) (.t 8)),oP 10 9,gM 11 0 10 true,gM 12 2 10 true,oG 13 (.bin .leq (.t 11) (.t 12)) 10 true,oB 14 10 13,oN 6 14]) .ret)
def vf109 : VFunc:={ vs:=[0,1,2,6],nparams:=3,rets:=[.tmp (.v 6)],body:=vb109 }
def vb110 : VCode:=.seq (rg [oX 2 2 0,oV 4 (.move cF)]) (.seq (.seq (rg [oK 7 2 2,oC 8 70 [.t 7],oV 9 (.not (.t 8))]) (.cond (.v 9) (.seq (rg [oV 4 (.move cF)]) .ret) .skip)) (.seq (.seq (rg [oV 10 (.move (.v 1)),oV 11 (.len (.v 10)),oJ 12 0]) (.block 0 (.loop (.seq (rg [oV 13 (.bin .lss (.v 12) (.v 11))]) (.seq (.cond (.v 13) .skip (.exit 0)) (.seq (.block 1 (.seq (rg [oM 14 12,oT 15 (.indexAddr 2 (.v 10) (.v 12)),oR 16 2 15,oV 6 (.alloc [.c (.int .i64 0),.c (.int .i64 0)]),oN 5 14,oS 2 6 16]) (.seq (rg [oK 17 2 2,oF 18 0 6,oL 19 18,oC 20 171 [.t 17,.t 19],oT 21 (.not (.t 20)),oP 22 21,gM 23 5 22 false,oG 24 (.bin .gtr (.t 23) (cI 0)) 22 false,oG 25 (.move (.t 24)) 22 false,gF 26 0 6 25 true,gL 27 26 25 true,gM 28 1 25 true,gM 29 5 25 true,oG 30 (.bin .sub (.t 29) (cI 1)) 25 true,oG 31 (.indexAddr 2 (.t 28) (.t 30)) 25 true,oG 32 (.fieldAddr 0 (.t 31)) 25 true,gL 33 32 25 true,oG 34 (.bin .leq (.t 27) (.t 33)) 25 true,oG 35 (.pick (.t 25) (.t 34) cF) 22 false,oO 36 22 35,oP 37 36,gF 38 1 6 37 false,gL 39 38 37 false,oG 40 (.call 172 [.t 39,.c (.int .i64 1),.c (.int .i64 10000)]) 37 false,oG 41 (.not (.t 40)) 37 false,oV 42 (.pick (.t 37) cT (.t 41))]) (.cond (.v 42) (.seq (rg [oV 4 (.move cF)]) .ret) .skip)))) (rg [oT 43 (.bin .add (.v 12) (cI 1)),oN 12 43]))))))) (.seq (rg [oV 4 (.move cT)]) .ret)))
def vf110 : VFunc:={ vs:=[0,1,2,4,5,6,9,10,11,12,13,42],nparams:=2,rets:=[.tmp (.v 4)],body:=vb110 }
def vb111 : VCode:=.seq (rg [oX 2 2 0,oV 4 (.move cF)]) (.seq (.seq (rg [oK 9 2 2,oC 10 70 [.t 9],oV 11 (.not (.t 10))]) (.cond (.v 11) (.seq (rg [oV 4 (.move cF)]) .ret) .skip)) (.seq (.seq (rg [oV 12 (.move (.v 1)),oV 13 (.len (.v 12)),oJ 14 0]) (.block 0 (.loop (.seq (rg [oV 15 (.bin .lss (.v 14) (.v 13))]) (.seq (.cond (.v 15) .skip (.exit 0)) (.seq (.block 1 (.seq (rg [oM 16 14,oT 17 (.indexAddr 3 (.v 12) (.v 14)),oR 18 3 17,oV 6 (.alloc [.c (.int .i64 0),.c (.int .i64 0),.c (.int .i64 0)]),oN 5 16,oS 3 6 18]) (.seq (rg [oK 20 2 2,oF 21 0 6,oL 22 21,oC 23 145 [.t 20,.t 22],oP 19 23,oE 24 19 0,oE 25 19 1,oT 7 (.alloc [.c (.int .i64 0),.c (.int .i64 0),.c (.str ⟨#[]⟩),.c (.int .i64 0),.c (.int .i64 0),.c (.int .i64 0)]),oZ (.store 6 (.t 7) (.t 24)),oN 8 25]) (.seq (rg [oM 26 8,oT 27 (.not (.t 26)),oP 28 27,gM 29 5 28 false,oG 30 (.bin .gtr (.t 29) (cI 0)) 28 false,oG 31 (.move (.t 30)) 28 false,gF 32 0 6 31 true,gL 33 32 31 true,gM 34 1 31 true,gM 35 5 31 true,oG 36 (.bin .sub (.t 35) (cI 1)) 31 true,oG 37 (.indexAddr 3 (.t 34) (.t 36)) 31 true,oG 38 (.fieldAddr 0 (.t 37)) 31 true,gL 39 38 31 true,oG 40 (.bin .leq (.t 33) (.t 39)) 31 true,oG 41 (.pick (.t 31) (.t 40) cF) 28 false,oO 42 28 41,oP 43 42,gF 44 1 6 43 false,gL 45 44 43 false,oG 46 (.call 173 [.t 45,.c (.int .i64 0),.c (.int .i64 1048576)]) 43 false,oG 47 (.not (.t 46)) 43 false,oO 48 43 47,oP 49 48,gF 50 2 6 49 false,gL 51 50 49 false,oG 52 (.call 173 [.t 51,.c (.int .i64 1),.c (.int .i64 256)]) 49 false,oG 53 (.not (.t 52)) 49 false,oV 54 (.pick (.t 49) cT (.t 53))]) (.cond (.v 54) (.seq (rg [oV 4 (.move cF)]) .ret) .skip))))) (rg [oT 55 (.bin .add (.v 14) (cI 1)),oN 14 55]))))))) (.seq (rg [oV 4 (.move cT)]) .ret)))
def vf111 : VFunc:={ vs:=[0,1,2,4,5,6,8,11,12,13,14,15,54],nparams:=2,rets:=[.tmp (.v 4)],body:=vb111 }
def vb112 : VCode:=.seq (rg [oX 2 2 0,oV 4 (.move cF)]) (.seq (.seq (rg [oK 7 2 2,oC 8 70 [.t 7],oV 9 (.not (.t 8))]) (.cond (.v 9) (.seq (rg [oV 4 (.move cF)]) .ret) .skip)) (.seq (.seq (rg [oV 10 (.move (.v 1)),oV 11 (.len (.v 10)),oJ 12 0]) (.block 0 (.loop (.seq (rg [oV 13 (.bin .lss (.v 12) (.v 11))]) (.seq (.cond (.v 13) .skip (.exit 0)) (.seq (.block 1 (.seq (rg [oM 14 12,oT 15 (.indexAddr 2 (.v 10) (.v 12)),oR 16 2 15,oV 6 (.alloc [.c (.int .i64 0),.c (.int .i64 0)]),oN 5 14,oS 2 6 16]) (.seq (rg [oK 17 2 2,oF 18 0 6,oL 19 18,oC 20 171 [.t 17,.t 19],oT 21 (.not (.t 20)),oP 22 21,gM 23 5 22 false,oG 24 (.bin .gtr (.t 23) (cI 0)) 22 false,oG 25 (.move (.t 24)) 22 false,gF 26 0 6 25 true,gL 27 26 25 true,gM 28 1 25 true,gM 29 5 25 true,oG 30 (.bin .sub (.t 29) (cI 1)) 25 true,oG 31 (.indexAddr 2 (.t 28) (.t 30)) 25 true,oG 32 (.fieldAddr 0 (.t 31)) 25 true,gL 33 32 25 true,oG 34 (.bin .leq (.t 27) (.t 33)) 25 true,oG 35 (.pick (.t 25) (.t 34) cF) 22 false,oO 36 22 35,oP 37 36,gF 38 1 6 37 false,gL 39 38 37 false,oG 40 (.call 172 [.t 39,.c (.int .i64 0),.c (.int .i64 1152921504606846976)]) 37 false,oG 41 (.not (.t 40)) 37 false,oV 42 (.pick (.t 37) cT (.t 41))]) (.cond (.v 42) (.seq (rg [oV 4 (.move cF)]) .ret) .skip)))) (rg [oT 43 (.bin .add (.v 12) (cI 1)),oN 12 43]))))))) (.seq (rg [oV 4 (.move cT)]) .ret)))
def vf112 : VFunc:={ vs:=[0,1,2,4,5,6,9,10,11,12,13,42],nparams:=2,rets:=[.tmp (.v 4)],body:=vb112 }
def vb113 : VCode:=.seq (rg [oX 2 5 0,oV 4 (.move cF)]) (.seq (rg [oK 5 5 2,oC 6 174 [.t 5],oP 7 6,gF 8 1 2 7 true,gL 9 8 7 true,oG 10 (.bin .eql (.t 9) (cI 100)) 7 true,oB 11 7 10,oP 12 11,gF 13 4 2 12 true,gL 14 13 12 true,gM 15 1 12 true,oG 16 (.bin .eql (.t 14) (.t 15)) 12 true,oB 17 12 16,oN 4 17]) .ret)
def vf113 : VFunc:={ vs:=[0,1,2,4],nparams:=2,rets:=[.tmp (.v 4)],body:=vb113 }
def vb114 : VCode:=.seq (rg [oX 2 2 0,oX 3 6 1,oV 4 (.move cF)]) (.seq (rg [oK 5 6 3,oC 6 102 [.t 5],oP 7 6,oG 8 (.load (some 2) (.v 2)) 7 true,gF 9 1 3 7 true,gL 10 9 7 true,oG 11 (.call 73 [.t 8,.t 10]) 7 true,oB 12 7 11,oN 4 12]) .ret)
def vf114 : VFunc:={ vs:=[0,1,2,3,4],nparams:=2,rets:=[.tmp (.v 4)],body:=vb114 }
def vb115 : VCode:=.seq (rg [oX 2 5 0,oV 4 (.alloc [.c (.int .i64 0),.c (.int .i64 0),.c (.int .i64 0),.c (.int .i64 0),.c (.int .i64 0)]),oJ 5 0]) (.seq (.block 0 (.seq (rg [oK 7 5 2,oC 8 174 [.t 7],oT 9 (.not (.t 8)),oN 6 9]) (.cond (.v 6) (.seq (rg [oT 10 (.build [.z (.c (.int .i64 0)),.z (.c (.int .i64 0)),.z (.c (.int .i64 0)),.z (.c (.int .i64 0)),.z (.c (.int .i64 0))]),oS 5 4 10,oJ 5 1]) .ret) (.seq (rg [oM 12 1,oC 13 175 [.t 12,.c (.int .i64 0),.c (.int .i64 1048576)],oT 14 (.not (.t 13)),oN 11 14]) (.cond (.v 11) (.seq (rg [oT 15 (.build [.z (.c (.int .i64 0)),.z (.c (.int .i64 0)),.z (.c (.int .i64 0)),.z (.c (.int .i64 0)),.z (.c (.int .i64 0))]),oS 5 4 15,oJ 5 3]) .ret) (.seq (rg [oM 17 1,oF 18 4 2,oL 19 18,oT 20 (.bin .lss (.t 17) (.t 19)),oN 16 20]) (.cond (.v 16) (.seq (rg [oT 21 (.build [.z (.c (.int .i64 0)),.z (.c (.int .i64 0)),.z (.c (.int .i64 0)),.z (.c (.int .i64 0)),.z (.c (.int .i64 0))]),oS 5 4 21,oJ 5 23]) .ret) .skip))))))) (.seq (.seq (rg [oK 22 5 2,oC 23 176 [.t 22],oV 24 (.not (.t 23))]) (.cond (.v 24) (rg [oF 25 3 2,oL 26 25,oF 27 0 2,oL 28 27,oM 29 1,oF 30 4 2,oL 31 30,oT 32 (.bin .sub (.t 29) (.t 31)),oT 33 (.bin .mul (.t 28) (.t 32)),oT 34 (.bin .add (.t 26) (.t 33)),oF 35 2 2,oL 36 35,oF 37 1 2,oL 38 37,oT 39 (.bin .mul (.t 36) (.t 38)),oT 40 (.minmax false [.t 34,.t 39]),oF 41 3 2,oZ (.store 1 (.t 41) (.t 40))]) .skip)) (.seq (rg [oM 42 1,oF 43 4 2,oZ (.store 1 (.t 43) (.t 42))]) (.seq (rg [oK 44 5 2,oS 5 4 44,oJ 5 0]) .ret))))
def vf115 : VFunc:={ vs:=[0,1,2,4,5,6,11,16,24],nparams:=2,rets:=[.cell (.v 4) (some 5),.tmp (.v 5)],body:=vb115 }
def vb117 : VCode:=.seq (rg [oX 4 2 0,oV 8 (.move cF)]) (.seq (rg [oK 9 2 4,oM 10 1,oC 11 112 [.t 9,.t 10],oP 12 11,oG 13 (.load (some 2) (.v 4)) 12 true,gM 14 2 12 true,oG 15 (.call 171 [.t 13,.t 14]) 12 true,oB 16 12 15,oP 17 16,gM 18 1 17 true,gM 19 2 17 true,oG 20 (.call 118 [.t 18,.t 19]) 17 true,gM 21 3 17 true,oG 22 (.bin .leq (.t 20) (.t 21)) 17 true,oB 23 17 22,oN 8 23]) .ret)
def vf117 : VFunc:={ vs:=[0,1,2,3,4,8],nparams:=4,rets:=[.tmp (.v 8)],body:=vb117 }
def vb118 : VCode:=.seq (rg [oJ 4 0]) (.seq (.seq (rg [oV 7 (.move (.v 0)),oV 8 (.len (.v 7)),oJ 9 0]) (.block 0 (.loop (.seq (rg [oV 10 (.bin .lss (.v 9) (.v 8))]) (.seq (.cond (.v 10) .skip (.exit 0)) (.seq (.block 1 (.seq (rg [oT 11 (.indexAddr 2 (.v 7) (.v 9)),oR 12 2 11,oV 6 (.alloc [.c (.int .i64 0),.c (.int .i64 0)]),oS 2 6 12]) (.seq (rg [oF 13 0 6,oL 14 13,oM 15 1,oV 16 (.bin .eql (.t 14) (.t 15))]) (.cond (.v 16) (.seq (rg [oF 17 1 6,oL 18 17,oN 4 18]) .ret) .skip)))) (rg [oT 19 (.bin .add (.v 9) (cI 1)),oN 9 19]))))))) (.seq (rg [oJ 4 0]) .ret))
def vf118 : VFunc:={ vs:=[0,1,4,6,7,8,9,10,16],nparams:=2,rets:=[.tmp (.v 4)],body:=vb118 }
def vb119 : VCode:=.seq (rg [oX 3 6 1,oV 4 (.move cF)]) (.seq (.seq (.region ⟨[oM 13 0,oT 14 (.nilCheck (.t 13)),oQ 15 16 14,oR 16 2 15,oM 17 0,oT 18 (.nilCheck (.t 17)),oQ 19 0 18,oQ 20 12 19,oL 21 20,oM 22 0,oT 23 (.callA 178 [.t 22]),oF 24 1 3,oL 25 24,oC 26 177 [.t 16,.t 21,.t 23,.t 25],oP 12 26,oE 27 12 0,oE 28 12 1,oN 5 27,oP 6 28],[],[(3,10),(8,10),(10,12)]⟩) (.seq (rg [oM 29 5,oV 30 (.not (.t 29))]) (.cond (.v 30) (.seq (rg [oV 4 (.move cF)]) .ret) .skip))) (.seq (.seq (rg [oM 31 0,oT 32 (.nilCheck (.t 31)),oQ 33 16 32,oR 34 2 33,oF 35 1 3,oL 36 35,oV 37 (.call 179 [.t 34,.t 36]),oV 38 (.len (.v 37)),oJ 39 0]) (.block 0 (.loop (.seq (rg [oV 40 (.bin .lss (.v 39) (.v 38))]) (.seq (.cond (.v 40) .skip (.exit 0)) (.seq (.block 1 (.seq (rg [oT 41 (.indexAddr 1 (.v 37) (.v 39)),oL 42 41,oN 8 42]) (.seq (rg [oM 43 0,oM 44 8,oT 45 (.callR 159 [.t 43,.t 44]),oN 9 45]) (.seq (rg [oM 46 9,oV 47 (.bin .geq (.t 46) (cI 0))]) (.cond (.v 47) (.seq (rg [oM 49 0,oT 50 (.nilCheck (.t 49)),oQ 51 0 50,oQ 52 11 51,oL 53 52,oM 54 9,oA 55 21 53 54,oF 56 4 3,oL 57 56,oT 58 (.callW 180 [.t 55,.t 57]),oP 48 58,oE 59 48 0,oE 60 48 1,oN 10 59,oN 11 60]) (.seq (.region ⟨[oM 61 10,oT 62 (.nilCheck (.t 61)),oR 63 5 62,oC 64 181 [.t 63],oF 65 3 3,oL 66 65,oT 67 (.bin .lss (.t 64) (.t 66)),oP 68 67,gM 69 11 68 false,oG 70 (.nilCheck (.t 69)) 68 false,oG 71 (.load (some 5) (.t 70)) 68 false,oG 72 (.call 181 [.t 71]) 68 false,oG 73 (.bin .lss (.t 72) (cI 1)) 68 false,oV 74 (.pick (.t 68) cT (.t 73))],[],[(3,5)]⟩) (.cond (.v 74) (.seq (rg [oV 4 (.move cF)]) .ret) .skip))) .skip))))) (rg [oT 75 (.bin .add (.v 39) (cI 1)),oN 39 75]))))))) (.seq (rg [oV 4 (.move cT)]) .ret)))
def vf119 : VFunc:={ vs:=[0,1,3,4,5,8,9,10,11,30,37,38,39,40,47,74],nparams:=2,rets:=[.tmp (.v 4)],body:=vb119 }
def vb121 : VCode:=.seq (rg [oJ 4 0]) (.seq (.seq (rg [oM 6 0,oV 7 (.len (.t 6)),oJ 8 0]) (.block 0 (.loop (.seq (rg [oV 9 (.bin .lss (.v 8) (.v 7))]) (.seq (.cond (.v 9) .skip (.exit 0)) (.seq (.block 1 (.seq (rg [oM 10 8,oN 5 10]) (.seq (rg [oM 11 1,oM 12 0,oM 13 5,oA 14 6 12 13,oR 15 6 14,oV 16 (.callv (.t 11) [.t 15])]) (.cond (.v 16) (.seq (rg [oM 17 5,oN 4 17]) .ret) .skip)))) (rg [oT 18 (.bin .add (.v 8) (cI 1)),oN 8 18]))))))) (.seq (rg [oJ 4 (-1)]) .ret))
def vf121 : VFunc:={ vs:=[0,1,4,5,7,8,9,16],nparams:=2,rets:=[.tmp (.v 4)],body:=vb121 }
def vb122 : VCode:=.seq (rg [oX 2 6 0,oV 3 (.move cF)]) (.seq (rg [oF 4 1 2,oL 5 4,oT 6 (.load none (.v 1)),oT 7 (.bin .eql (.t 5) (.t 6)),oN 3 7]) .ret)
def vf122 : VFunc:={ vs:=[0,1,2,3],nparams:=2,rets:=[.tmp (.v 3)],body:=vb122 }
def vb123 : VCode:=.seq (rg [oX 3 5 0,oX 4 6 1,oJ 6 0,oJ 7 0]) (.seq (.seq (rg [oK 9 5 3,oK 10 6 4,oT 11 (.buildFz 6 [.t 10]),oM 12 2,oC 13 184 [.t 9,.t 11,.t 12],oN 8 13]) (.seq (rg [oM 14 8,oV 15 (.bin .neq (.t 14) (cI 0))]) (.cond (.v 15) (.seq (rg [oM 16 8,oJ 6 0,oN 7 16]) .ret) .skip))) (.seq (rg [oK 17 5 3,oK 18 6 4,oM 19 2,oC 20 185 [.t 17,.t 18,.t 19],oN 6 20,oJ 7 0]) .ret))
def vf123 : VFunc:={ vs:=[0,1,2,3,4,6,7,8,15],nparams:=3,rets:=[.tmp (.v 6),.tmp (.v 7)],body:=vb123 }
def vb124 : VCode:=.seq (rg [oX 4 2 0,oJ 8 0,oJ 9 0]) (.seq (.seq (rg [oK 10 2 4,oM 11 1,oC 12 110 [.t 10,.t 11],oV 13 (.not (.t 12))]) (.cond (.v 13) (.seq (rg [oJ 8 0,oJ 9 1]) .ret) .skip)) (.seq (.seq (rg [oK 14 2 4,oM 15 3,oC 16 171 [.t 14,.t 15],oV 17 (.not (.t 16))]) (.cond (.v 17) (.seq (rg [oJ 8 0,oJ 9 4]) .ret) .skip)) (.seq (.seq (rg [oM 18 3,oV 19 (.bin .eql (.t 18) (cI 1))]) (.cond (.v 19) (.seq (rg [oJ 8 1073741824,oJ 9 0]) .ret) .skip)) (.seq (rg [oK 20 2 4,oM 21 1,oM 22 2,oC 23 186 [.t 20,.t 21,.t 22],oM 24 3,oT 25 (.lookup false (.int .i64) (.int .i64 0) (.t 23) (.t 24)),oN 8 25,oJ 9 0]) .ret))))
def vf124 : VFunc:={ vs:=[0,1,2,3,4,8,9,13,17,19],nparams:=4,rets:=[.tmp (.v 8),.tmp (.v 9)],body:=vb124 }
def vb125 : VCode:=.seq (rg [oV 2 (.newArr 1)]) (.seq (rg [oV 3 (.newArr 1)]) (.seq (.seq (rg [oM 8 0,oT 9 (.nilCheck (.t 8)),oQ 10 0 9,oQ 11 14 10,oV 12 (.load none (.t 11)),oV 13 (.len (.v 12)),oJ 14 0]) (.block 0 (.loop (.seq (rg [oV 15 (.bin .lss (.v 14) (.v 13))]) (.seq (.cond (.v 15) .skip (.exit 0)) (.seq (.block 1 (.seq (rg [oT 16 (.indexAddr 6 (.v 12) (.v 14)),oR 17 6 16,oV 5 (.alloc [.c (.int .i64 0),.c (.int .i64 0),.c (.int .i64 0),.c (.int .i64 0),.c (.bool false),.c (.int .i64 0)]),oS 6 5 17]) (rg [oM 18 3,oF 19 1 5,oL 20 19,oT 21 (.buildSlice 1 [.t 20]),oT 22 (.append 1 8 (.t 18) (.t 21)),oN 3 22]))) (rg [oT 23 (.bin .add (.v 14) (cI 1)),oN 14 23]))))))) (.seq (.seq (rg [oM 24 0,oT 25 (.nilCheck (.t 24)),oQ 26 0 25,oQ 27 15 26,oV 28 (.load none (.t 27)),oV 29 (.len (.v 28)),oJ 30 0]) (.block 2 (.loop (.seq (rg [oV 31 (.bin .lss (.v 30) (.v 29))]) (.seq (.cond (.v 31) .skip (.exit 2)) (.seq (.block 3 (.seq (rg [oT 32 (.indexAddr 7 (.v 28) (.v 30)),oR 33 7 32,oV 7 (.alloc [.c (.int .i64 0),.c (.int .i64 0),.c (.int .i64 0),.c (.int .i64 0),.c (.bool false),.c (.int .i64 0),.c (.int .i64 0)]),oS 7 7 33]) (rg [oM 34 3,oF 35 0 7,oQ 36 1 35,oL 37 36,oT 38 (.buildSlice 1 [.t 37]),oT 39 (.append 1 8 (.t 34) (.t 38)),oN 3 39]))) (rg [oT 40 (.bin .add (.v 30) (cI 1)),oN 30 40]))))))) (.seq (rg [oM 41 3,oN 2 41]) .ret))))
def vf125 : VFunc:={ vs:=[0,2,3,5,7,12,13,14,15,28,29,30,31],nparams:=1,rets:=[.tmp (.v 2)],body:=vb125 }
def vb126 : VCode:=.seq (rg [oX 7 2 0,oV 14 (.newArr 2),oJ 15 0]) (.seq (.block 0 (.seq (rg [oK 18 2 7,oM 19 1,oC 20 112 [.t 18,.t 19],oT 21 (.not (.t 20)),oN 17 21]) (.cond (.v 17) (.seq (rg [oV 14 (.newArr 2),oJ 15 1]) .ret) (.seq (rg [oK 23 2 7,oM 24 2,oC 25 171 [.t 23,.t 24],oT 26 (.not (.t 25)),oN 22 26]) (.cond (.v 22) (.seq (rg [oV 14 (.newArr 2),oJ 15 4]) .ret) (.seq (rg [oM 28 3,oC 29 172 [.t 28,.c (.int .i64 1),.c (.int .i64 1073741824)],oT 30 (.not (.t 29)),oP 31 30,gM 32 4 31 false,oG 33 (.call 172 [.t 32,.c (.int .i64 1),.c (.int .i64 4294967296)]) 31 false,oG 34 (.not (.t 33)) 31 false,oO 35 31 34,oP 36 35,gM 37 5 36 false,oG 38 (.call 172 [.t 37,.c (.int .i64 0),.c (.int .i64 576460752303423488)]) 36 false,oG 39 (.not (.t 38)) 36 false,oO 40 36 39,oP 41 40,gM 42 6 41 false,oG 43 (.call 172 [.t 42,.c (.int .i64 0),.c (.int .i64 1073741824)]) 41 false,oG 44 (.not (.t 43)) 41 false,oO 45 41 44,oN 27 45]) (.cond (.v 27) (.seq (rg [oV 14 (.newArr 2),oJ 15 3]) .ret) (.seq (rg [oM 47 1,oM 48 2,oC 49 118 [.t 47,.t 48],oM 50 5,oT 51 (.bin .gtr (.t 49) (.t 50)),oN 46 51]) (.cond (.v 46) (.seq (rg [oV 14 (.newArr 2),oJ 15 11]) .ret) .skip))))))))) (.seq (rg [oM 52 1,oM 53 2,oC 54 118 [.t 52,.t 53],oM 55 5,oM 56 6,oT 57 (.bin .sub (.t 55) (.t 56)),oT 58 (.minmax true [.t 54,.t 57,.c (.int .i64 0)]),oM 59 4,oT 60 (.bin .mul (.t 59) (cI 1073741824)),oM 61 3,oT 62 (.bin .add (.t 60) (.t 61)),oT 63 (.bin .sub (.t 62) (cI 1)),oM 64 3,oT 65 (.bin .quo (.t 63) (.t 64)),oT 66 (.bin .add (.t 58) (.t 65)),oN 16 66]) (.seq (.seq (rg [oM 67 16,oV 68 (.bin .gtr (.t 67) (cI 1152921504606846976))]) (.cond (.v 68) (.seq (rg [oV 14 (.newArr 2),oJ 15 7]) .ret) .skip)) (.seq (rg [oM 69 1,oM 70 2,oM 71 16,oC 72 187 [.t 69,.t 70,.t 71],oN 14 72,oJ 15 0]) .ret))))
def vf126 : VFunc:={ vs:=[0,1,2,3,4,5,6,7,14,15,16,17,22,27,46,68],nparams:=7,rets:=[.tmp (.v 14),.tmp (.v 15)],body:=vb126 }
def vb127 : VCode:=.seq (rg [oX 3 6 1]) (.seq (rg [oM 9 0,oT 10 (.nilCheck (.t 9)),oQ 11 16 10,oR 12 2 11,oF 13 1 3,oL 14 13,oV 15 (.call 179 [.t 12,.t 14]),oV 16 (.len (.v 15)),oJ 17 0]) (.block 0 (.loop (.seq (rg [oV 18 (.bin .lss (.v 17) (.v 16))]) (.seq (.cond (.v 18) .skip (.exit 0)) (.seq (.block 1 (.seq (rg [oT 19 (.indexAddr 1 (.v 15) (.v 17)),oL 20 19,oN 5 20]) (.seq (rg [oM 21 0,oM 22 5,oT 23 (.callR 159 [.t 21,.t 22]),oN 6 23]) (.seq (rg [oM 24 6,oV 25 (.bin .geq (.t 24) (cI 0))]) (.cond (.v 25) (.seq (rg [oM 27 0,oT 28 (.nilCheck (.t 27)),oQ 29 0 28,oQ 30 11 29,oL 31 30,oM 32 6,oA 33 21 31 32,oF 34 4 3,oL 35 34,oT 36 (.callW 180 [.t 33,.t 35]),oP 26 36,oE 37 26 0,oE 38 26 1,oN 7 37,oN 8 38]) (.seq (rg [oM 40 7,oM 41 7,oT 42 (.nilCheck (.t 41)),oR 43 5 42,oM 44 0,oT 45 (.nilCheck (.t 44)),oQ 46 0 45,oQ 47 7 46,oL 48 47,oF 49 3 3,oL 50 49,oC 51 188 [.t 43,.t 48,.t 50],oP 39 51,oE 52 39 0,oE 53 39 1,oT 54 (.nilCheck (.t 40)),oZ (.store 5 (.t 54) (.t 52))]) (rg [oM 56 8,oM 57 8,oT 58 (.nilCheck (.t 57)),oR 59 5 58,oM 60 0,oT 61 (.nilCheck (.t 60)),oQ 62 0 61,oQ 63 7 62,oL 64 63,oC 65 188 [.t 59,.t 64,.c (.int .i64 1)],oP 55 65,oE 66 55 0,oE 67 55 1,oT 68 (.nilCheck (.t 56)),oZ (.store 5 (.t 68) (.t 66))]))) .skip))))) (rg [oT 69 (.bin .add (.v 17) (cI 1)),oN 17 69])))))))
def vf127 : VFunc:={ vs:=[0,1,3,5,6,7,8,15,16,17,18,25],nparams:=2,rets:=[],body:=vb127 }
def vb140 : VCode:=.seq (rg [oX 2 2 0,oV 4 (.newArr 1)]) (.seq (rg [oV 5 (.newArr 1)]) (.seq (.seq (rg [oF 7 0 2,oL 8 7,oY 9 8,oT 10 (.bin .sub (.t 9) (cI 1)),oN 6 10]) (.block 0 (.loop (.seq (.seq (rg [oM 11 6,oV 12 (.bin .geq (.t 11) (cI 0))]) (.cond (.v 12) .skip (.exit 0))) (.seq (.block 1 (.seq (rg [oF 15 0 2,oL 16 15,oM 17 6,oA 18 6 16 17,oQ 19 0 18,oL 20 19,oM 21 1,oV 22 (.bin .eql (.t 20) (.t 21))]) (.cond (.v 22) (.seq (rg [oM 23 5,oM 24 1,oT 25 (.buildSlice 1 [.t 24]),oT 26 (.append 1 8 (.t 23) (.t 25)),oN 5 26]) (rg [oF 27 0 2,oL 28 27,oM 29 6,oA 30 6 28 29,oQ 31 1 30,oL 32 31,oN 1 32])) .skip))) (rg [oM 13 6,oT 14 (.bin .sub (.t 13) (cI 1)),oN 6 14])))))) (.seq (rg [oM 33 5,oN 4 33]) .ret)))
def vf140 : VFunc:={ vs:=[0,1,2,4,5,6,12,22],nparams:=2,rets:=[.tmp (.v 4)],body:=vb140 }
def vb141 : VCode:=.seq (rg [oX 1 5 0,oV 2 (.move cF)]) (.seq (.seq (rg [oF 5 0 1,oL 6 5,oF 7 1 1,oL 8 7,oF 9 2 1,oL 10 9,oF 11 3 1,oL 12 11,oF 13 4 1,oL 14 13,oV 15 (.buildArr 1 [.t 6,.t 8,.t 10,.t 12,.t 14]),oJ 16 0]) (.block 0 (.loop (.seq (rg [oV 17 (.bin .lss (.v 16) (cI 5))]) (.seq (.cond (.v 17) .skip (.exit 0)) (.seq (.block 1 (.seq (rg [oT 18 (.indexArr 5 1 none (.v 15) (.v 16)),oN 4 18]) (.seq (rg [oM 19 4,oC 20 170 [.t 19,.c (.int .i64 0),.c (.int .i64 1000000)],oV 21 (.not (.t 20))]) (.cond (.v 21) (.seq (rg [oV 2 (.move cF)]) .ret) .skip)))) (rg [oT 22 (.bin .add (.v 16) (cI 1)),oN 16 22]))))))) (.seq (rg [oV 2 (.move cT)]) .ret))
def vf141 : VFunc:={ vs:=[0,1,2,4,15,16,17,21],nparams:=1,rets:=[.tmp (.v 2)],body:=vb141 }
def vb142 : VCode:=.seq (rg [oX 1 6 0,oV 2 (.move cF)]) (.seq (rg [oF 3 0 1,oL 4 3,oT 5 (.bin .eql (.t 4) (cI 1)),oP 6 5,gF 7 1 1 6 true,gL 8 7 6 true,oG 9 (.bin .eql (.t 8) (cI 0)) 6 true,oB 10 6 9,oP 11 10,gF 12 2 1 11 true,gL 13 12 11 true,oG 14 (.bin .eql (.t 13) (.c (.str ⟨#[]⟩))) 11 true,oB 15 11 14,oP 16 15,gF 17 4 1 16 true,gL 18 17 16 true,oG 19 (.bin .eql (.t 18) (cI 0)) 16 true,oB 20 16 19,oN 2 20]) .ret)
def vf142 : VFunc:={ vs:=[0,1,2],nparams:=1,rets:=[.tmp (.v 2)],body:=vb142 }
def vb143 : VCode:=.seq (rg [oX 3 6 1,oV 4 (.move cF)]) (.seq (.seq (rg [oF 8 0 3,oL 9 8,oM 10 0,oM 11 0,oY 12 11,oT 13 (.bin .sub (.t 12) (cI 1)),oA 14 6 10 13,oQ 15 0 14,oL 16 15,oT 17 (.bin .leq (.t 9) (.t 16)),oP 18 17,gF 19 2 3 18 false,gL 20 19 18 false,oG 21 (.call 201 [.t 20]) 18 false,oG 22 (.not (.t 21)) 18 false,oO 23 18 22,oP 24 23,gF 25 4 3 24 false,gL 26 25 24 false,oG 27 (.bin .neq (.t 26) (cI 0)) 24 false,oG 28 (.move (.t 27)) 24 false,gF 29 4 3 28 true,gL 30 29 28 true,oG 31 (.bin .neq (.t 30) (cI 1)) 28 true,oG 32 (.pick (.t 28) (.t 31) cF) 24 false,oV 33 (.pick (.t 24) cT (.t 32))]) (.cond (.v 33) (.seq (rg [oV 4 (.move cF)]) .ret) .skip)) (.seq (rg [oV 5 (.move cF)]) (.seq (.seq (rg [oV 34 (.move (.v 0)),oV 35 (.len (.v 34)),oJ 36 0]) (.block 0 (.loop (.seq (rg [oV 37 (.bin .lss (.v 36) (.v 35))]) (.seq (.cond (.v 37) .skip (.exit 0)) (.seq (.block 1 (.seq (rg [oT 38 (.indexAddr 6 (.v 34) (.v 36)),oR 39 6 38,oV 7 (.alloc [.c (.int .i64 0),.c (.int .i64 0),.c (.str ⟨#[]⟩),.c (.int .i64 0),.c (.int .i64 0),.c (.int .i64 0)]),oS 6 7 39]) (.seq (rg [oM 40 5,oP 41 40,gF 42 0 7 41 false,gL 43 42 41 false,gF 44 1 3 41 false,gL 45 44 41 false,oG 46 (.bin .eql (.t 43) (.t 45)) 41 false,oO 47 41 46,oN 5 47]) (.seq (rg [oF 48 1 7,oL 49 48,oF 50 1 3,oL 51 50,oT 52 (.bin .eql (.t 49) (.t 51)),oP 53 52,gF 54 2 7 53 true,gL 55 54 53 true,gF 56 2 3 53 true,gL 57 56 53 true,oG 58 (.bin .eql (.t 55) (.t 57)) 53 true,oV 59 (.pick (.t 53) (.t 58) cF)]) (.cond (.v 59) (.seq (rg [oV 4 (.move cF)]) .ret) .skip))))) (rg [oT 60 (.bin .add (.v 36) (cI 1)),oN 36 60]))))))) (.seq (rg [oM 61 5,oN 4 61]) .ret))))
def vf143 : VFunc:={ vs:=[0,1,3,4,5,7,33,34,35,36,37,59],nparams:=2,rets:=[.tmp (.v 4)],body:=vb143 }
def vb144 : VCode:=.seq (rg [oJ 4 0]) (.seq (.seq (rg [oM 6 0,oV 7 (.len (.t 6)),oJ 8 0]) (.block 0 (.loop (.seq (rg [oV 9 (.bin .lss (.v 8) (.v 7))]) (.seq (.cond (.v 9) .skip (.exit 0)) (.seq (.block 1 (.seq (rg [oM 10 8,oN 5 10]) (.seq (rg [oM 11 1,oM 12 0,oM 13 5,oA 14 2 12 13,oR 15 2 14,oV 16 (.callv (.t 11) [.t 15])]) (.cond (.v 16) (.seq (rg [oM 17 5,oN 4 17]) .ret) .skip)))) (rg [oT 18 (.bin .add (.v 8) (cI 1)),oN 8 18]))))))) (.seq (rg [oJ 4 (-1)]) .ret))
def vf144 : VFunc:={ vs:=[0,1,4,5,7,8,9,16],nparams:=2,rets:=[.tmp (.v 4)],body:=vb144 }
def vb145 : VCode:=.seq (rg [oX 2 2 0,oV 4 (.alloc [.c (.int .i64 0),.c (.int .i64 0),.c (.str ⟨#[]⟩),.c (.int .i64 0),.c (.int .i64 0),.c (.int .i64 0)]),oV 5 (.move cF)]) (.seq (rg [oK 7 2 2,oM 8 1,oC 9 202 [.t 7,.t 8],oN 6 9]) (.seq (.seq (rg [oM 10 6,oV 11 (.bin .lss (.t 10) (cI 0))]) (.cond (.v 11) (.seq (rg [oT 12 (.build [.z (.c (.int .i64 0)),.z (.c (.int .i64 0)),.z (.c (.str ⟨#[]⟩)),.z (.c (.int .i64 0)),.z (.c (.int .i64 0)),.z (.c (.int .i64 0))]),oS 6 4 12,oV 5 (.move cF)]) .ret) .skip)) (.seq (rg [oF 13 0 2,oL 14 13,oM 15 6,oA 16 6 14 15,oR 17 6 16,oS 6 4 17,oV 5 (.move cT)]) .ret)))
def vf145 : VFunc:={ vs:=[0,1,2,4,5,6,11],nparams:=2,rets:=[.cell (.v 4) (some 6),.tmp (.v 5)],body:=vb145 }
def vb146 : VCode:=.seq (rg [oJ 4 0]) (.seq (.seq (rg [oM 6 0,oV 7 (.len (.t 6)),oJ 8 0]) (.block 0 (.loop (.seq (rg [oV 9 (.bin .lss (.v 8) (.v 7))]) (.seq (.cond (.v 9) .skip (.exit 0)) (.seq (.block 1 (.seq (rg [oM 10 8,oN 5 10]) (.seq (rg [oM 11 1,oM 12 0,oM 13 5,oA 14 21 12 13,oR 15 21 14,oV 16 (.callv (.t 11) [.t 15])]) (.cond (.v 16) (.seq (rg [oM 17 5,oN 4 17]) .ret) .skip)))) (rg [oT 18 (.bin .add (.v 8) (cI 1)),oN 8 18]))))))) (.seq (rg [oJ 4 (-1)]) .ret))
def vf146 : VFunc:={ vs:=[0,1,4,5,7,8,9,16],nparams:=2,rets:=[.tmp (.v 4)],body:=vb146 }
def vb147 : VCode:=.seq (rg [oJ 4 0]) (.seq (.seq (rg [oM 6 0,oV 7 (.len (.t 6)),oJ 8 0]) (.block 0 (.loop (.seq (rg [oV 9 (.bin .lss (.v 8) (.v 7))]) (.seq (.cond (.v 9) .skip (.exit 0)) (.seq (.block 1 (.seq (rg [oM 10 8,oN 5 10]) (.seq (rg [oM 11 1,oM 12 0,oM 13 5,oA 14 3 12 13,oR 15 3 14,oV 16 (.callv (.t 11) [.t 15])]) (.cond (.v 16) (.seq (rg [oM 17 5,oN 4 17]) .ret) .skip)))) (rg [oT 18 (.bin .add (.v 8) (cI 1)),oN 8 18]))))))) (.seq (rg [oJ 4 (-1)]) .ret))
def vf147 : VFunc:={ vs:=[0,1,4,5,7,8,9,16],nparams:=2,rets:=[.tmp (.v 4)],body:=vb147 }
def vb149 : VCode:=.seq (rg [oX 2 2 0,oV 4 (.move cF)]) (.seq (rg [oF 8 0 2,oL 9 8,oM 10 1,oA 11 6 9 10,oR 12 6 11,oV 5 (.alloc [.c (.int .i64 0),.c (.int .i64 0),.c (.str ⟨#[]⟩),.c (.int .i64 0),.c (.int .i64 0),.c (.int .i64 0)]),oS 6 5 12]) (.seq (.seq (rg [oF 13 4 5,oL 14 13,oT 15 (.bin .neq (.t 14) (cI 0)),oP 16 15,gF 17 4 5 16 true,gL 18 17 16 true,oG 19 (.bin .neq (.t 18) (cI 1)) 16 true,oB 20 16 19,oP 21 20,gF 22 3 5 21 false,gL 23 22 21 false,oG 24 (.bin .lss (.t 23) (cI 0)) 21 false,oO 25 21 24,oP 26 25,gF 27 3 5 26 false,gL 28 27 26 false,oG 29 (.bin .gtr (.t 28) (cI 31)) 26 false,oO 30 26 29,oP 31 30,gF 32 5 5 31 false,gL 33 32 31 false,oG 34 (.bin .lss (.t 33) (cI 0)) 31 false,oO 35 31 34,oP 36 35,gF 37 5 5 36 false,gL 38 37 36 false,oG 39 (.bin .gtr (.t 38) (cI 1048576)) 36 false,oV 40 (.pick (.t 36) cT (.t 39))]) (.cond (.v 40) (.seq (rg [oV 4 (.move cF)]) .ret) .skip)) (.seq (.seq (rg [oM 41 1,oV 42 (.bin .eql (.t 41) (cI 0))]) (.cond (.v 42) (.seq (rg [oF 43 0 5,oL 44 43,oT 45 (.bin .eql (.t 44) (cI 1)),oP 46 45,gF 47 1 5 46 true,gL 48 47 46 true,oG 49 (.bin .eql (.t 48) (cI 0)) 46 true,oB 50 46 49,oP 51 50,gF 52 2 5 51 true,gL 53 52 51 true,oG 54 (.bin .eql (.t 53) (.c (.str ⟨#[]⟩))) 51 true,oB 55 51 54,oP 56 55,gF 57 4 5 56 true,gL 58 57 56 true,oG 59 (.bin .eql (.t 58) (cI 0)) 56 true,oB 60 56 59,oN 4 60]) .ret) .skip)) (.seq (.seq (rg [oF 61 0 5,oL 62 61,oF 63 0 2,oL 64 63,oM 65 1,oT 66 (.bin .sub (.t 65) (cI 1)),oA 67 6 64 66,oQ 68 0 67,oL 69 68,oT 70 (.bin .leq (.t 62) (.t 69)),oP 71 70,gF 72 2 5 71 false,gL 73 72 71 false,oG 74 (.call 97 [.t 73]) 71 false,oG 75 (.not (.t 74)) 71 false,oV 76 (.pick (.t 71) cT (.t 75))]) (.cond (.v 76) (.seq (rg [oV 4 (.move cF)]) .ret) .skip)) (.seq (rg [oV 6 (.move cF)]) (.seq (.seq (rg [oJ 7 0]) (.block 0 (.loop (.seq (.seq (rg [oM 77 7,oM 78 1,oU 79 77 78]) (.cond (.v 79) .skip (.exit 0))) (.seq (.block 1 (.seq (rg [oM 82 6,oP 83 82,gF 84 0 2 83 false,gL 85 84 83 false,gM 86 7 83 false,oG 87 (.indexAddr 6 (.t 85) (.t 86)) 83 false,oG 88 (.fieldAddr 0 (.t 87)) 83 false,gL 89 88 83 false,gF 90 1 5 83 false,gL 91 90 83 false,oG 92 (.bin .eql (.t 89) (.t 91)) 83 false,oO 93 83 92,oN 6 93]) (.seq (rg [oF 94 0 2,oL 95 94,oM 96 7,oA 97 6 95 96,oQ 98 1 97,oL 99 98,oF 100 1 5,oL 101 100,oT 102 (.bin .eql (.t 99) (.t 101)),oP 103 102,gF 104 0 2 103 true,gL 105 104 103 true,gM 106 7 103 true,oG 107 (.indexAddr 6 (.t 105) (.t 106)) 103 true,oG 108 (.fieldAddr 2 (.t 107)) 103 true,gL 109 108 103 true,gF 110 2 5 103 true,gL 111 110 103 true,oG 112 (.bin .eql (.t 109) (.t 111)) 103 true,oV 113 (.pick (.t 103) (.t 112) cF)]) (.cond (.v 113) (.seq (rg [oV 4 (.move cF)]) .ret) .skip)))) (rg [oM 80 7,oI 81 80,oN 7 81])))))) (.seq (rg [oM 114 6,oN 4 114]) .ret)))))))
def vf149 : VFunc:={ vs:=[0,1,2,4,5,6,7,40,42,76,79,113],nparams:=2,rets:=[.tmp (.v 4)],body:=vb149 }
def vb150 : VCode:=.seq (rg [oX 2 2 0,oV 4 (.alloc [.c (.int .i64 0),.c (.int .i64 0),.c (.str ⟨#[]⟩),.c (.int .i64 0),.c (.int .i64 0),.c (.int .i64 0)]),oV 5 (.move cF)]) (.seq (.seq (rg [oK 7 2 2,oC 8 82 [.t 7],oV 9 (.not (.t 8))]) (.cond (.v 9) (.seq (rg [oT 10 (.build [.z (.c (.int .i64 0)),.z (.c (.int .i64 0)),.z (.c (.str ⟨#[]⟩)),.z (.c (.int .i64 0)),.z (.c (.int .i64 0)),.z (.c (.int .i64 0))]),oS 6 4 10,oV 5 (.move cF)]) .ret) .skip)) (.seq (.seq (rg [oJ 6 0]) (.block 0 (.loop (.seq (.seq (rg [oM 11 6,oF 12 0 2,oL 13 12,oY 14 13,oU 15 11 14]) (.cond (.v 15) .skip (.exit 0))) (.seq (.block 1 (.seq (rg [oF 18 0 2,oL 19 18,oM 20 6,oA 21 6 19 20,oQ 22 0 21,oL 23 22,oM 24 1,oV 25 (.bin .eql (.t 23) (.t 24))]) (.cond (.v 25) (.seq (rg [oF 26 0 2,oL 27 26,oM 28 6,oA 29 6 27 28,oR 30 6 29,oS 6 4 30,oV 5 (.move cT)]) .ret) .skip))) (rg [oM 16 6,oI 17 16,oN 6 17])))))) (.seq (rg [oT 31 (.build [.z (.c (.int .i64 0)),.z (.c (.int .i64 0)),.z (.c (.str ⟨#[]⟩)),.z (.c (.int .i64 0)),.z (.c (.int .i64 0)),.z (.c (.int .i64 0))]),oS 6 4 31,oV 5 (.move cF)]) .ret)))
def vf150 : VFunc:={ vs:=[0,1,2,4,5,6,9,15,25],nparams:=2,rets:=[.cell (.v 4) (some 6),.tmp (.v 5)],body:=vb150 }
def vb155 : VCode:=.seq (rg [oV 6 (.move cF)]) (.seq (rg [oM 7 0,oM 8 1,oT 9 (.bin .geq (.t 7) (.t 8)),oP 10 9,gM 11 0 10 true,gM 12 2 10 true,oG 13 (.bin .leq (.t 11) (.t 12)) 10 true,oB 14 10 13,oP 15 14,gM 16 0 15 false,oG 17 (.bin .eql (.t 16) (cI 4611686018427387904)) 15 false,oO 18 15 17,oN 6 18]) .ret)
def vf155 : VFunc:={ vs:=[0,1,2,6],nparams:=3,rets:=[.tmp (.v 6)],body:=vb155 }
def vb156 : VCode:=.seq (rg [oX 2 2 0,oV 3 (.move cF)]) (.seq (rg [oF 4 0 2,oL 5 4,oT 6 (.load none (.v 1)),oT 7 (.bin .eql (.t 5) (.t 6)),oN 3 7]) .ret)
def vf156 : VFunc:={ vs:=[0,1,2,3],nparams:=2,rets:=[.tmp (.v 3)],body:=vb156 }
def vb158 : VCode:=.seq (rg [oX 2 2 0,oX 3 2 1,oJ 4 0]) (.seq (rg [oF 5 0 2,oL 6 5,oF 7 0 3,oL 8 7,oT 9 (.bin .sub (.t 6) (.t 8)),oN 4 9]) .ret)
def vf158 : VFunc:={ vs:=[0,1,2,3,4],nparams:=2,rets:=[.tmp (.v 4)],body:=vb158 }
def vb159 : VCode:=.seq (rg [oX 3 1 1,oJ 4 0]) (.seq (rg [oM 5 0,oT 6 (.nilCheck (.t 5)),oQ 7 0 6,oQ 8 11 7,oL 9 8,oT 10 (.makeFunc 204 [.v 3]),oC 11 146 [.t 9,.t 10],oN 4 11]) .ret)
def vf159 : VFunc:={ vs:=[0,1,3,4],nparams:=2,rets:=[.tmp (.v 4)],body:=vb159 }
def vb161 : VCode:=.seq (rg [oX 6 5 1,oV 10 (.alloc [.c (.int .i64 0),.c (.int .i64 0),.c (.int .i64 0),.c (.int .i64 0),.c (.int .i64 0)])]) (.seq (rg [oM 13 3,oM 14 4,oT 15 (.minmax true [.t 13,.t 14]),oN 11 15]) (.seq (.seq (rg [oM 16 3,oV 17 (.bin .eql (.t 16) (cI 4611686018427387904))]) (.cond (.v 17) (rg [oJ 11 0]) .skip)) (.seq (rg [oV 12 (.alloc [.c (.int .i64 0),.c (.int .i64 0),.c (.int .i64 0),.c (.int .i64 0),.c (.int .i64 0)])]) (.seq (.seq (rg [oV 18 (.move (.v 2))]) (.cond (.v 18) (rg [oK 20 5 6,oM 21 3,oM 22 11,oM 23 0,oT 24 (.nilCheck (.t 23)),oQ 25 0 24,oQ 26 7 25,oL 27 26,oC 28 205 [.t 20,.t 21,.c (.int .i64 100),.t 22,.t 27],oP 19 28,oE 29 19 0,oE 30 19 1,oS 5 12 29]) (rg [oM 32 3,oM 33 11,oM 34 0,oT 35 (.nilCheck (.t 34)),oQ 36 0 35,oQ 37 7 36,oL 38 37,oC 39 206 [.t 32,.c (.int .i64 100),.t 33,.t 38],oP 31 39,oE 40 31 0,oE 41 31 1,oS 5 12 40]))) (.seq (rg [oK 42 5 12,oS 5 10 42]) .ret)))))
def vf161 : VFunc:={ vs:=[0,1,2,3,4,6,10,11,12,17,18],nparams:=5,rets:=[.cell (.v 10) (some 5)],body:=vb161 }
def vb163 : VCode:=.seq (rg [oX 2 21 0,oX 3 21 1,oJ 4 0]) (.seq (rg [oF 5 0 2,oL 6 5,oF 7 0 3,oL 8 7,oT 9 (.bin .sub (.t 6) (.t 8)),oN 4 9]) .ret)
def vf163 : VFunc:={ vs:=[0,1,2,3,4],nparams:=2,rets:=[.tmp (.v 4)],body:=vb163 }
def vb164 : VCode:=.seq (rg [oV 4 (.alloc [.c (.int .i64 0),.c (.int .i64 0),.c (.int .i64 0)])]) (.seq (.seq (rg [oV 7 (.move (.v 0)),oV 8 (.len (.v 7)),oJ 9 0]) (.block 0 (.loop (.seq (rg [oV 10 (.bin .lss (.v 9) (.v 8))]) (.seq (.cond (.v 10) .skip (.exit 0)) (.seq (.block 1 (.seq (rg [oT 11 (.indexAddr 3 (.v 7) (.v 9)),oR 12 3 11,oV 6 (.alloc [.c (.int .i64 0),.c (.int .i64 0),.c (.int .i64 0)]),oS 3 6 12]) (.seq (rg [oF 13 0 6,oL 14 13,oM 15 1,oV 16 (.bin .eql (.t 14) (.t 15))]) (.cond (.v 16) (.seq (rg [oK 17 3 6,oS 3 4 17]) .ret) .skip)))) (rg [oT 18 (.bin .add (.v 9) (cI 1)),oN 9 18]))))))) (.seq (rg [oM 19 1,oC 20 208 [.t 19],oS 3 4 20]) .ret))
def vf164 : VFunc:={ vs:=[0,1,4,6,7,8,9,10,16],nparams:=2,rets:=[.cell (.v 4) (some 3)],body:=vb164 }
def vb165 : VCode:=.seq (rg [oX 2 3 0,oV 3 (.move cF)]) (.seq (rg [oF 4 0 2,oL 5 4,oT 6 (.load none (.v 1)),oT 7 (.bin .eql (.t 5) (.t 6)),oN 3 7]) .ret)
def vf165 : VFunc:={ vs:=[0,1,2,3],nparams:=2,rets:=[.tmp (.v 3)],body:=vb165 }
def vb167 : VCode:=.seq (rg [oX 2 3 0,oX 3 3 1,oJ 4 0]) (.seq (rg [oF 5 0 2,oL 6 5,oF 7 0 3,oL 8 7,oT 9 (.bin .sub (.t 6) (.t 8)),oN 4 9]) .ret)
def vf167 : VFunc:={ vs:=[0,1,2,3,4],nparams:=2,rets:=[.tmp (.v 4)],body:=vb167 }
def vb170 : VCode:=.seq (rg [oV 6 (.move cF)]) (.seq (rg [oM 7 0,oM 8 1,oT 9 (.bin .geq (.t 7) (.t 8)),oP 10 9,gM 11 0 10 true,gM 12 2 10 true,oG 13 (.bin .leq (.t 11) (.t 12)) 10 true,oB 14 10 13,oN 6 14]) .ret)
def vf170 : VFunc:={ vs:=[0,1,2,6],nparams:=3,rets:=[.tmp (.v 6)],body:=vb170 }
def vb171 : VCode:=.seq (rg [oX 2 2 0,oV 4 (.move cF)]) (.seq (rg [oK 8 2 2,oM 9 1,oC 10 145 [.t 8,.t 9],oP 7 10,oE 11 7 0,oE 12 7 1,oT 5 (.alloc [.c (.int .i64 0),.c (.int .i64 0),.c (.str ⟨#[]⟩),.c (.int .i64 0),.c (.int .i64 0),.c (.int .i64 0)]),oZ (.store 6 (.t 5) (.t 11)),oN 6 12]) (.seq (rg [oM 13 6,oN 4 13]) .ret))
def vf171 : VFunc:={ vs:=[0,1,2,4,6],nparams:=2,rets:=[.tmp (.v 4)],body:=vb171 }
def vb172 : VCode:=.seq (rg [oV 6 (.move cF)]) (.seq (rg [oM 7 0,oM 8 1,oT 9 (.bin .geq (.t 7) (.t 8)),oP 10 9,gM 11 0 10 true,gM 12 2 10 true,oG 13 (.bin .leq (.t 11) (.t 12)) 10 true,oB 14 10 13,oN 6 14]) .ret)
def vf172 : VFunc:={ vs:=[0,1,2,6],nparams:=3,rets:=[.tmp (.v 6)],body:=vb172 }
def vb173 : VCode:=.seq (rg [oV 6 (.move cF)]) (.seq (rg [oM 7 0,oM 8 1,oT 9 (.bin .geq (.t 7) (.t 8)),oP 10 9,gM 11 0 10 true,gM 12 2 10 true,oG 13 (.bin .leq (.t 11) (.t 12)) 10 true,oB 14 10 13,oN 6 14]) .ret)
def vf173 : VFunc:={ vs:=[0,1,2,6],nparams:=3,rets:=[.tmp (.v 6)],body:=vb173 }
def vb174 : VCode:=.seq (rg [oX 1 5 0,oV 2 (.move cF)]) (.seq (.seq (rg [oF 3 1 1,oL 4 3,oC 5 175 [.t 4,.c (.int .i64 1),.c (.int .i64 1048576)],oT 6 (.not (.t 5)),oP 7 6,gF 8 4 1 7 false,gL 9 8 7 false,oG 10 (.call 175 [.t 9,.c (.int .i64 0),.c (.int .i64 1048576)]) 7 false,oG 11 (.not (.t 10)) 7 false,oV 12 (.pick (.t 7) cT (.t 11))]) (.cond (.v 12) (.seq (rg [oV 2 (.move cF)]) .ret) .skip)) (.seq (.seq (rg [oK 13 5 1,oV 14 (.call 176 [.t 13])]) (.cond (.v 14) (.seq (rg [oF 15 2 1,oL 16 15,oT 17 (.bin .eql (.t 16) (cI 0)),oP 18 17,gF 19 3 1 18 true,gL 20 19 18 true,oG 21 (.bin .eql (.t 20) (cI 0)) 18 true,oB 22 18 21,oN 2 22]) .ret) .skip)) (.seq (rg [oF 23 0 1,oL 24 23,oC 25 175 [.t 24,.c (.int .i64 0),.c (.int .i64 1073741824)],oP 26 25,gF 27 2 1 26 true,gL 28 27 26 true,oG 29 (.call 175 [.t 28,.c (.int .i64 0),.c (.int .i64 1073741824)]) 26 true,oB 30 26 29,oP 31 30,gF 32 3 1 31 true,gL 33 32 31 true,gF 34 2 1 31 true,gL 35 34 31 true,gF 36 1 1 31 true,gL 37 36 31 true,oG 38 (.bin .mul (.t 35) (.t 37)) 31 true,oG 39 (.call 175 [.t 33,.c (.int .i64 0),.t 38]) 31 true,oB 40 31 39,oN 2 40]) .ret)))
def vf174 : VFunc:={ vs:=[0,1,2,12,14],nparams:=1,rets:=[.tmp (.v 2)],body:=vb174 }
def vb175 : VCode:=.seq (rg [oV 6 (.move cF)]) (.seq (rg [oM 7 0,oM 8 1,oT 9 (.bin .geq (.t 7) (.t 8)),oP 10 9,gM 11 0 10 true,gM 12 2 10 true,oG 13 (.bin .leq (.t 11) (.t 12)) 10 true,oB 14 10 13,oN 6 14]) .ret)
def vf175 : VFunc:={ vs:=[0,1,2,6],nparams:=3,rets:=[.tmp (.v 6)],body:=vb175 }
def vb176 : VCode:=.seq (rg [oX 1 5 0,oV 2 (.move cF)]) (.seq (rg [oF 3 0 1,oL 4 3,oT 5 (.bin .eql (.t 4) (cI 4611686018427387904)),oN 2 5]) .ret)
def vf176 : VFunc:={ vs:=[0,1,2],nparams:=1,rets:=[.tmp (.v 2)],body:=vb176 }
def vb177 : VCode:=.seq (rg [oX 4 2 0,oV 8 (.move cF),oJ 9 0]) (.seq (.seq (rg [oK 22 2 4,oM 23 1,oC 24 111 [.t 22,.t 23],oV 25 (.not (.t 24))]) (.cond (.v 25) (.seq (rg [oV 8 (.move cF),oJ 9 1]) .ret) .skip)) (.seq (rg [oT 26 (.makeMap (.int .i64)),oN 10 26]) (.seq (.seq (rg [oV 27 (.move (.v 2)),oV 28 (.len (.v 27)),oJ 29 0]) (.block 0 (.loop (.seq (rg [oV 30 (.bin .lss (.v 29) (.v 28))]) (.seq (.cond (.v 30) .skip (.exit 0)) (.seq (.block 1 (.seq (rg [oM 31 29,oT 32 (.indexAddr 2 (.v 27) (.v 29)),oR 33 2 32,oV 12 (.alloc [.c (.int .i64 0),.c (.int .i64 0)]),oN 11 31,oS 2 12 33]) (.seq (.seq (rg [oK 35 2 4,oF 36 0 12,oL 37 36,oC 38 145 [.t 35,.t 37],oP 34 38,oE 39 34 0,oE 40 34 1,oT 13 (.alloc [.c (.int .i64 0),.c (.int .i64 0),.c (.str ⟨#[]⟩),.c (.int .i64 0),.c (.int .i64 0),.c (.int .i64 0)]),oZ (.store 6 (.t 13) (.t 39)),oN 14 40]) (.seq (rg [oM 41 14,oT 42 (.not (.t 41)),oP 43 42,gM 44 11 43 false,oG 45 (.bin .gtr (.t 44) (cI 0)) 43 false,oG 46 (.move (.t 45)) 43 false,gF 47 0 12 46 true,gL 48 47 46 true,gM 49 2 46 true,gM 50 11 46 true,oG 51 (.bin .sub (.t 50) (cI 1)) 46 true,oG 52 (.indexAddr 2 (.t 49) (.t 51)) 46 true,oG 53 (.fieldAddr 0 (.t 52)) 46 true,gL 54 53 46 true,oG 55 (.bin .leq (.t 48) (.t 54)) 46 true,oG 56 (.pick (.t 46) (.t 55) cF) 43 false,oO 57 43 56,oP 58 57,gF 59 1 12 58 false,gL 60 59 58 false,oG 61 (.call 173 [.t 60,.c (.int .i64 0),.c (.int .i64 256)]) 58 false,oG 62 (.not (.t 61)) 58 false,oV 63 (.pick (.t 58) cT (.t 62))]) (.cond (.v 63) (.seq (rg [oV 8 (.move cF),oJ 9 1]) .ret) .skip))) (rg [oM 64 10,oF 65 0 12,oL 66 65,oF 67 1 12,oL 68 67,oZ (.mapUpdate (.int .i64) (.t 64) (.t 66) (.t 68))])))) (rg [oT 69 (.bin .add (.v 29) (cI 1)),oN 29 69]))))))) (.seq (.seq (rg [oK 71 2 4,oM 72 3,oC 73 145 [.t 71,.t 72],oP 70 73,oE 74 70 0,oE 75 70 1,oT 15 (.alloc [.c (.int .i64 0),.c (.int .i64 0),.c (.str ⟨#[]⟩),.c (.int .i64 0),.c (.int .i64 0),.c (.int .i64 0)]),oZ (.store 6 (.t 15) (.t 74)),oN 16 75]) (.seq (rg [oM 76 16,oV 77 (.not (.t 76))]) (.cond (.v 77) (.seq (rg [oV 8 (.move cF),oJ 9 4]) .ret) .skip))) (.seq (.seq (rg [oK 78 2 4,oM 79 3,oV 80 (.call 179 [.t 78,.t 79]),oV 81 (.len (.v 80)),oJ 82 0]) (.block 2 (.loop (.seq (.region ⟨[oV 83 (.bin .lss (.v 82) (.v 81))],[88],[]⟩) (.seq (.cond (.v 83) .skip (.exit 2)) (.seq (.block 3 (.seq (rg [oT 84 (.indexAddr 1 (.v 80) (.v 82)),oL 85 84,oN 18 85]) (.seq (rg [oJ 19 0]) (.seq (.seq (rg [oK 86 2 4,oM 87 18,oV 88 (.call 212 [.t 86,.t 87]),oV 89 (.len (.v 88)),oJ 90 0]) (.block 4 (.loop (.seq (rg [oV 91 (.bin .lss (.v 90) (.v 89))]) (.seq (.cond (.v 91) .skip (.exit 4)) (.seq (.block 5 (.seq (rg [oT 92 (.indexAddr 1 (.v 88) (.v 90)),oL 93 92,oN 21 93]) (rg [oM 94 19,oM 95 10,oM 96 21,oT 97 (.lookup false (.int .i64) (.int .i64 0) (.t 95) (.t 96)),oT 98 (.bin .add (.t 94) (.t 97)),oN 19 98]))) (rg [oT 99 (.bin .add (.v 90) (cI 1)),oN 90 99]))))))) (.seq (rg [oM 100 19,oM 101 1,oM 102 18,oC 103 164 [.t 101,.t 102],oT 104 (.field 2 none (.t 103)),oV 105 (.bin .geq (.t 100) (.t 104))]) (.cond (.v 105) (.seq (rg [oV 8 (.move cF),oJ 9 0]) .ret) .skip)))))) (rg [oT 106 (.bin .add (.v 82) (cI 1)),oN 82 106]))))))) (.seq (rg [oV 8 (.move cT),oJ 9 0]) .ret))))))
def vf177 : VFunc:={ vs:=[0,1,2,3,4,8,9,10,11,12,14,16,18,19,21,25,27,28,29,30,63,77,80,81,82,83,88,89,90,91,105],nparams:=4,rets:=[.tmp (.v 8),.tmp (.v 9)],body:=vb177 }
def vb178 : VCode:=.seq (rg [oV 2 (.newArr 2)]) (.seq (rg [oT 9 (.makeMap (.int .i64)),oN 3 9]) (.seq (.seq (rg [oM 10 0,oT 11 (.nilCheck (.t 10)),oQ 12 0 11,oQ 13 15 12,oV 14 (.load none (.t 13)),oV 15 (.len (.v 14)),oJ 16 0]) (.block 0 (.loop (.seq (rg [oV 17 (.bin .lss (.v 16) (.v 15))]) (.seq (.cond (.v 17) .skip (.exit 0)) (.seq (.block 1 (.seq (rg [oT 18 (.indexAddr 7 (.v 14) (.v 16)),oR 19 7 18,oV 5 (.alloc [.c (.int .i64 0),.c (.int .i64 0),.c (.int .i64 0),.c (.int .i64 0),.c (.bool false),.c (.int .i64 0),.c (.int .i64 0)]),oS 7 5 19]) (rg [oM 20 3,oF 21 0 5,oQ 22 1 21,oL 23 22,oT 24 (.lookup false (.int .i64) (.int .i64 0) (.t 20) (.t 23)),oI 25 24,oZ (.mapUpdate (.int .i64) (.t 20) (.t 23) (.t 25))]))) (rg [oT 26 (.bin .add (.v 16) (cI 1)),oN 16 26]))))))) (.seq (rg [oV 6 (.newArr 2)]) (.seq (.seq (rg [oM 27 0,oT 28 (.nilCheck (.t 27)),oQ 29 16 28,oQ 30 0 29,oV 31 (.load none (.t 30)),oV 32 (.len (.v 31)),oJ 33 0]) (.block 2 (.loop (.seq (rg [oV 34 (.bin .lss (.v 33) (.v 32))]) (.seq (.cond (.v 34) .skip (.exit 2)) (.seq (.block 3 (.seq (rg [oT 35 (.indexAddr 6 (.v 31) (.v 33)),oR 36 6 35,oV 8 (.alloc [.c (.int .i64 0),.c (.int .i64 0),.c (.str ⟨#[]⟩),.c (.int .i64 0),.c (.int .i64 0),.c (.int .i64 0)]),oS 6 8 36]) (.seq (rg [oM 37 3,oF 38 0 8,oL 39 38,oT 40 (.lookup false (.int .i64) (.int .i64 0) (.t 37) (.t 39)),oV 41 (.bin .gtr (.t 40) (cI 0))]) (.cond (.v 41) (rg [oM 42 6,oF 43 0 8,oL 44 43,oM 45 3,oF 46 0 8,oL 47 46,oT 48 (.lookup false (.int .i64) (.int .i64 0) (.t 45) (.t 47)),oT 49 (.build [.a (.t 44) 0 1,.a (.t 48) 0 1]),oT 50 (.buildSlice 2 [.t 49]),oT 51 (.append 2 16 (.t 42) (.t 50)),oN 6 51]) .skip)))) (rg [oT 52 (.bin .add (.v 33) (cI 1)),oN 33 52]))))))) (.seq (rg [oM 53 6,oN 2 53]) .ret)))))
def vf178 : VFunc:={ vs:=[0,2,3,5,6,8,14,15,16,17,31,32,33,34,41],nparams:=1,rets:=[.tmp (.v 2)],body:=vb178 }
def vb179 : VCode:=.seq (rg [oX 2 2 0,oV 4 (.newArr 1)]) (.seq (rg [oV 5 (.newArr 1)]) (.seq (.seq (rg [oF 8 0 2,oL 9 8,oV 10 (.len (.t 9)),oJ 11 0]) (.block 0 (.loop (.seq (rg [oV 12 (.bin .lss (.v 11) (.v 10))]) (.seq (.cond (.v 12) .skip (.exit 0)) (.seq (.block 1 (.seq (rg [oK 14 2 2,oM 15 1,oC 16 145 [.t 14,.t 15],oP 13 16,oE 17 13 0,oE 18 13 1,oV 6 (.alloc [.c (.int .i64 0),.c (.int .i64 0),.c (.str ⟨#[]⟩),.c (.int .i64 0),.c (.int .i64 0),.c (.int .i64 0)]),oS 6 6 17,oN 7 18]) (.seq (.seq (rg [oM 19 7,oV 20 (.not (.t 19))]) (.cond (.v 20) (.exit 0) .skip)) (.seq (rg [oM 21 5,oM 22 1,oT 23 (.buildSlice 1 [.t 22]),oT 24 (.append 1 8 (.t 21) (.t 23)),oN 5 24]) (rg [oF 25 1 6,oL 26 25,oN 1 26]))))) (rg [oT 27 (.bin .add (.v 11) (cI 1)),oN 11 27]))))))) (.seq (rg [oM 28 5,oN 4 28]) .ret)))
def vf179 : VFunc:={ vs:=[0,1,2,4,5,6,7,10,11,12,20],nparams:=2,rets:=[.tmp (.v 4)],body:=vb179 }
def vb180 : VCode:=.seq (rg [oV 4 (.move (.c (.nilp))),oV 5 (.move (.c (.nilp)))]) (.seq (.seq (rg [oV 6 (.move (.v 1))]) (.cond (.v 6) (.seq (rg [oM 7 0,oT 8 (.nilCheck (.t 7)),oQ 9 6 8,oM 10 0,oT 11 (.nilCheck (.t 10)),oQ 12 16 11,oN 4 9,oN 5 12]) .ret) .skip)) (.seq (rg [oM 13 0,oT 14 (.nilCheck (.t 13)),oQ 15 1 14,oM 16 0,oT 17 (.nilCheck (.t 16)),oQ 18 11 17,oN 4 15,oN 5 18]) .ret))
def vf180 : VFunc:={ vs:=[0,1,4,5,6],nparams:=2,rets:=[.tmp (.v 4),.tmp (.v 5)],body:=vb180 }
def vb181 : VCode:=.seq (rg [oX 1 5 0,oJ 2 0]) (.seq (.block 0 (.seq (rg [oK 4 5 1,oC 5 174 [.t 4],oT 6 (.not (.t 5)),oN 3 6]) (.cond (.v 3) (.seq (rg [oJ 2 0]) .ret) (.seq (rg [oK 8 5 1,oC 9 176 [.t 8],oN 7 9]) (.cond (.v 7) (.seq (rg [oJ 2 1073741824]) .ret) .skip))))) (.seq (rg [oF 10 3 1,oL 11 10,oF 12 1 1,oL 13 12,oT 14 (.bin .quo (.t 11) (.t 13)),oN 2 14]) .ret))
def vf181 : VFunc:={ vs:=[0,1,2,3,7],nparams:=1,rets:=[.tmp (.v 2)],body:=vb181 }
def vb184 : VCode:=.seq (rg [oX 3 5 0,oJ 6 0]) (.seq (.seq (rg [oK 7 5 3,oC 8 141 [.t 7],oT 9 (.not (.t 8)),oP 10 9,gM 11 1 10 false,oG 12 (.call 224 [.t 11,.c (.fn 225)]) 10 false,oV 13 (.pick (.t 10) cT (.t 12))]) (.cond (.v 13) (.seq (rg [oJ 6 1]) .ret) .skip)) (.seq (.seq (rg [oM 14 2,oC 15 170 [.t 14,.c (.int .i64 0),.c (.int .i64 16777216)],oV 16 (.not (.t 15))]) (.cond (.v 16) (.seq (rg [oJ 6 3]) .ret) .skip)) (.seq (rg [oJ 6 0]) .ret)))
def vf184 : VFunc:={ vs:=[0,1,2,3,6,13,16],nparams:=3,rets:=[.tmp (.v 6)],body:=vb184 }
def vb185 : VCode:=.seq (rg [oX 3 5 0,oX 4 6 1,oJ 6 0]) (.seq (rg [oJ 7 0]) (.seq (.seq (rg [oF 9 4 4,oV 10 (.load none (.t 9))]) (.cond (.v 10) (rg [oJ 7 1]) .skip)) (.seq (rg [oF 11 0 3,oL 12 11,oF 13 2 3,oL 14 13,oT 15 (.buildArr 1 [.t 12,.t 14]),oM 16 7,oT 17 (.indexArr 2 1 none (.t 15) (.t 16)),oF 18 1 3,oL 19 18,oF 20 3 3,oL 21 20,oT 22 (.buildArr 1 [.t 19,.t 21]),oM 23 7,oT 24 (.indexArr 2 1 none (.t 22) (.t 23)),oF 25 3 4,oL 26 25,oT 27 (.bin .mul (.t 24) (.t 26)),oT 28 (.bin .add (.t 17) (.t 27)),oN 8 28]) (.seq (.seq (rg [oF 29 2 4,oL 30 29,oM 31 2,oV 32 (.bin .neq (.t 30) (.t 31))]) (.cond (.v 32) (rg [oM 33 8,oF 34 4 3,oL 35 34,oT 36 (.bin .add (.t 33) (.t 35)),oN 8 36]) .skip)) (.seq (rg [oM 37 8,oN 6 37]) .ret)))))
def vf185 : VFunc:={ vs:=[0,1,2,3,4,6,7,8,10,32],nparams:=3,rets:=[.tmp (.v 6)],body:=vb185 }
def vb186 : VCode:=.seq (rg [oX 3 2 0,oV 6 (.move (.c (.map .bool [] [])))]) (.seq (rg [oT 10 (.makeMap (.int .i64)),oN 7 10]) (.seq (.seq (.region ⟨[oK 11 2 3,oM 12 1,oK 13 2 3,oM 14 2,oC 15 227 [.t 13,.t 14],oV 16 (.call 226 [.t 11,.t 12,.t 15,.c (.int .i64 1),.c (.int .i64 1073741824)]),oV 17 (.len (.v 16)),oJ 18 0],[],[(0,4)]⟩) (.block 0 (.loop (.seq (rg [oV 19 (.bin .lss (.v 18) (.v 17))]) (.seq (.cond (.v 19) .skip (.exit 0)) (.seq (.block 1 (.seq (rg [oT 20 (.indexAddr 2 (.v 16) (.v 18)),oR 21 2 20,oV 9 (.alloc [.c (.int .i64 0),.c (.int .i64 0)]),oS 2 9 21]) (rg [oM 22 7,oF 23 0 9,oL 24 23,oF 25 1 9,oL 26 25,oZ (.mapUpdate (.int .i64) (.t 22) (.t 24) (.t 26))]))) (rg [oT 27 (.bin .add (.v 18) (cI 1)),oN 18 27]))))))) (.seq (rg [oM 28 7,oN 6 28]) .ret)))
def vf186 : VFunc:={ vs:=[0,1,2,3,6,7,9,16,17,18,19],nparams:=3,rets:=[.tmp (.v 6)],body:=vb186 }
def vb187 : VCode:=.seq (rg [oV 6 (.newArr 2)]) (.seq (rg [oV 7 (.newArr 2)]) (.seq (rg [oV 8 (.move cF)]) (.seq (.seq (rg [oV 11 (.move (.v 0)),oV 12 (.len (.v 11)),oJ 13 0]) (.block 0 (.loop (.seq (rg [oV 14 (.bin .lss (.v 13) (.v 12))]) (.seq (.cond (.v 14) .skip (.exit 0)) (.seq (.block 1 (.seq (rg [oT 15 (.indexAddr 2 (.v 11) (.v 13)),oR 16 2 15,oV 10 (.alloc [.c (.int .i64 0),.c (.int .i64 0)]),oS 2 10 16]) (.seq (.seq (rg [oM 17 8,oT 18 (.not (.t 17)),oP 19 18,gF 20 0 10 19 true,gL 21 20 19 true,gM 22 1 19 true,oG 23 (.bin .geq (.t 21) (.t 22)) 19 true,oV 24 (.pick (.t 19) (.t 23) cF)]) (.cond (.v 24) (.seq (rg [oM 25 7,oM 26 1,oM 27 2,oT 28 (.build [.a (.t 26) 0 1,.a (.t 27) 0 1]),oT 29 (.buildSlice 2 [.t 28]),oT 30 (.append 2 16 (.t 25) (.t 29)),oN 7 30]) (rg [oV 8 (.move cT)])) .skip)) (.seq (rg [oF 31 0 10,oL 32 31,oM 33 1,oV 34 (.bin .neq (.t 32) (.t 33))]) (.cond (.v 34) (rg [oM 35 7,oK 36 2 10,oT 37 (.buildSlice 2 [.t 36]),oT 38 (.append 2 16 (.t 35) (.t 37)),oN 7 38]) .skip))))) (rg [oT 39 (.bin .add (.v 13) (cI 1)),oN 13 39]))))))) (.seq (.seq (rg [oM 40 8,oV 41 (.not (.t 40))]) (.cond (.v 41) (rg [oM 42 7,oM 43 1,oM 44 2,oT 45 (.build [.a (.t 43) 0 1,.a (.t 44) 0 1]),oT 46 (.buildSlice 2 [.t 45]),oT 47 (.append 2 16 (.t 42) (.t 46)),oN 7 47]) .skip)) (.seq (rg [oM 48 7,oN 6 48]) .ret)))))
def vf187 : VFunc:={ vs:=[0,1,2,6,7,8,10,11,12,13,14,24,34,41],nparams:=3,rets:=[.tmp (.v 6)],body:=vb187 }
def vb188 : VCode:=.seq (rg [oX 3 5 0,oV 6 (.alloc [.c (.int .i64 0),.c (.int .i64 0),.c (.int .i64 0),.c (.int .i64 0),.c (.int .i64 0)]),oJ 7 0]) (.seq (rg [oK 10 5 3,oM 11 1,oC 12 115 [.t 10,.t 11],oP 9 12,oE 13 9 0,oE 14 9 1,oS 5 3 13,oN 8 14]) (.seq (.block 0 (.seq (rg [oM 16 8,oT 17 (.bin .neq (.t 16) (cI 0)),oN 15 17]) (.cond (.v 15) (.seq (rg [oT 18 (.build [.z (.c (.int .i64 0)),.z (.c (.int .i64 0)),.z (.c (.int .i64 0)),.z (.c (.int .i64 0)),.z (.c (.int .i64 0))]),oM 19 8,oS 5 6 18,oN 7 19]) .ret) (.seq (rg [oM 21 2,oC 22 175 [.t 21,.c (.int .i64 0),.c (.int .i64 1073741824)],oT 23 (.not (.t 22)),oN 20 23]) (.cond (.v 20) (.seq (rg [oT 24 (.build [.z (.c (.int .i64 0)),.z (.c (.int .i64 0)),.z (.c (.int .i64 0)),.z (.c (.int .i64 0)),.z (.c (.int .i64 0))]),oS 5 6 24,oJ 7 3]) .ret) (.seq (rg [oK 26 5 3,oC 27 181 [.t 26],oM 28 2,oT 29 (.bin .lss (.t 27) (.t 28)),oN 25 29]) (.cond (.v 25) (.seq (rg [oK 30 5 3,oS 5 6 30,oJ 7 11]) .ret) .skip))))))) (.seq (.seq (rg [oK 31 5 3,oC 32 176 [.t 31],oV 33 (.not (.t 32))]) (.cond (.v 33) (rg [oF 34 3 3,oL 35 34,oM 36 2,oF 37 1 3,oL 38 37,oT 39 (.bin .mul (.t 36) (.t 38)),oT 40 (.bin .sub (.t 35) (.t 39)),oF 41 3 3,oZ (.store 1 (.t 41) (.t 40))]) .skip)) (.seq (rg [oK 42 5 3,oS 5 6 42,oJ 7 0]) .ret))))
def vf188 : VFunc:={ vs:=[0,1,2,3,6,7,8,15,20,25,33],nparams:=3,rets:=[.cell (.v 6) (some 5),.tmp (.v 7)],body:=vb188 }
def vb201 : VCode:=.seq (rg [oV 2 (.move cF)]) (.seq (.seq (rg [oM 5 0,oV 6 (.strBytes (.t 5)),oV 7 (.len (.v 6)),oJ 8 0]) (.block 0 (.loop (.seq (rg [oV 9 (.bin .lss (.v 8) (.v 7))]) (.seq (.cond (.v 9) .skip (.exit 0)) (.seq (.block 1 (.seq (rg [oT 10 (.indexAddr 1 (.v 6) (.v 8)),oL 11 10,oN 4 11]) (.seq (rg [oM 12 4,oC 13 233 [.t 12],oV 14 (.not (.t 13))]) (.cond (.v 14) (.seq (rg [oV 2 (.move cF)]) .ret) .skip)))) (rg [oT 15 (.bin .add (.v 8) (cI 1)),oN 8 15]))))))) (.seq (rg [oM 16 0,oT 17 (.bin .neq (.t 16) (.c (.str ⟨#[]⟩))),oP 18 17,gM 19 0 18 true,oG 20 (.lenStr (.t 19)) 18 true,oG 21 (.bin .leq (.t 20) (cI 32)) 18 true,oB 22 18 21,oP 23 22,gM 24 0 23 true,oG 25 (.indexStr (.t 24) (cI 0)) 23 true,oG 26 (.bin .neq (.t 25) (.c (.int .u8 45))) 23 true,oB 27 23 26,oN 2 27]) .ret))
def vf201 : VFunc:={ vs:=[0,2,4,6,7,8,9,14],nparams:=1,rets:=[.tmp (.v 2)],body:=vb201 }
def vb202 : VCode:=.seq (rg [oX 2 2 0,oX 3 1 1,oJ 4 0]) (.seq (rg [oF 5 0 2,oL 6 5,oT 7 (.makeFunc 235 [.v 3]),oC 8 234 [.t 6,.t 7],oN 4 8]) .ret)
def vf202 : VFunc:={ vs:=[0,1,2,3,4],nparams:=2,rets:=[.tmp (.v 4)],body:=vb202 }
def vb204 : VCode:=.seq (rg [oX 2 21 0,oV 3 (.move cF)]) (.seq (rg [oF 4 0 2,oL 5 4,oT 6 (.load none (.v 1)),oT 7 (.bin .eql (.t 5) (.t 6)),oN 3 7]) .ret)
def vf204 : VFunc:={ vs:=[0,1,2,3],nparams:=2,rets:=[.tmp (.v 3)],body:=vb204 }
def vb205 : VCode:=.seq (rg [oX 5 5 0,oV 10 (.alloc [.c (.int .i64 0),.c (.int .i64 0),.c (.int .i64 0),.c (.int .i64 0),.c (.int .i64 0)]),oJ 11 0]) (.seq (rg [oK 15 5 5,oM 16 4,oC 17 115 [.t 15,.t 16],oP 14 17,oE 18 14 0,oE 19 14 1,oS 5 5 18,oN 12 19]) (.seq (.seq (rg [oM 20 12,oV 21 (.bin .neq (.t 20) (cI 0))]) (.cond (.v 21) (.seq (rg [oT 22 (.build [.z (.c (.int .i64 0)),.z (.c (.int .i64 0)),.z (.c (.int .i64 0)),.z (.c (.int .i64 0)),.z (.c (.int .i64 0))]),oM 23 12,oS 5 10 22,oN 11 23]) .ret) .skip)) (.seq (rg [oK 24 5 5,oC 25 181 [.t 24],oN 13 25]) (.seq (.seq (rg [oK 26 5 5,oV 27 (.call 176 [.t 26])]) (.cond (.v 27) (rg [oJ 13 0]) .skip)) (.seq (rg [oM 28 1,oM 29 2,oM 30 3,oM 31 4,oM 32 13,oC 33 244 [.t 28,.t 29,.t 30,.t 31,.t 32],oE 34 33 0,oE 35 33 1,oS 5 10 34,oN 11 35]) .ret)))))
def vf205 : VFunc:={ vs:=[0,1,2,3,4,5,10,11,12,13,21,27],nparams:=5,rets:=[.cell (.v 10) (some 5),.tmp (.v 11)],body:=vb205 }
def vb206 : VCode:=.seq (rg [oV 8 (.alloc [.c (.int .i64 0),.c (.int .i64 0),.c (.int .i64 0),.c (.int .i64 0),.c (.int .i64 0)]),oJ 9 0]) (.seq (rg [oM 10 0,oM 11 1,oM 12 2,oM 13 3,oC 14 244 [.t 10,.t 11,.t 12,.t 13,.c (.int .i64 1073741824)],oE 15 14 0,oE 16 14 1,oS 5 8 15,oN 9 16]) .ret)
def vf206 : VFunc:={ vs:=[0,1,2,3,8,9],nparams:=4,rets:=[.cell (.v 8) (some 5),.tmp (.v 9)],body:=vb206 }
def vb208 : VCode:=.seq (rg [oV 2 (.alloc [.c (.int .i64 0),.c (.int .i64 0),.c (.int .i64 0)])]) (.seq (rg [oM 3 0,oT 4 (.build [.a (.t 3) 0 1,.z (.c (.int .i64 0)),.a (cI 256) 0 1]),oS 3 2 4]) .ret)
def vf208 : VFunc:={ vs:=[0,2],nparams:=1,rets:=[.cell (.v 2) (some 3)],body:=vb208 }
def vb212 : VCode:=.seq (rg [oX 2 2 0,oV 4 (.newArr 1)]) (.seq (.seq (rg [oK 7 2 2,oM 8 1,oC 9 202 [.t 7,.t 8],oV 10 (.bin .lss (.t 9) (cI 0))]) (.cond (.v 10) (.seq (rg [oV 4 (.newArr 1)]) .ret) .skip)) (.seq (rg [oV 5 (.newArr 1)]) (.seq (.seq (rg [oM 11 1,oT 12 (.buildSlice 1 [.t 11]),oN 6 12]) (.block 0 (.loop (.seq (.seq (.region ⟨[oM 13 6,oY 14 13,oT 15 (.bin .gtr (.t 14) (cI 0)),oP 16 15,gM 17 5 16 true,oG 18 (.len (.t 17)) 16 true,gF 19 0 2 16 true,gL 20 19 16 true,oG 21 (.len (.t 20)) 16 true,oG 22 (.bin .lss (.t 18) (.t 21)) 16 true,oV 23 (.pick (.t 16) (.t 22) cF)],[34],[]⟩) (.cond (.v 23) .skip (.exit 0))) (.block 1 (.seq (rg [oM 24 5,oM 25 6,oT 26 (.indexAddr 1 (.t 25) (cI 0)),oL 27 26,oT 28 (.buildSlice 1 [.t 27]),oT 29 (.append 1 8 (.t 24) (.t 28)),oN 5 29]) (.region ⟨[oK 30 2 2,oM 31 6,oT 32 (.indexAddr 1 (.t 31) (cI 0)),oL 33 32,oC 34 262 [.t 30,.t 33],oM 35 6,oT 36 (.slice false 1 (some (cI 1)) none none (.t 35)),oT 37 (.append 1 8 (.t 34) (.t 36)),oN 6 37],[],[(0,6),(2,6),(3,6),(4,6)]⟩))))))) (.seq (rg [oM 38 5,oN 4 38]) .ret))))
def vf212 : VFunc:={ vs:=[0,1,2,4,5,6,10,23],nparams:=2,rets:=[.tmp (.v 4)],body:=vb212 }
def vb224 : VCode:=.seq (rg [oV 4 (.move cF)]) (.seq (rg [oM 5 0,oM 6 1,oC 7 121 [.t 5,.t 6],oT 8 (.bin .geq (.t 7) (cI 0)),oN 4 8]) .ret)
def vf224 : VFunc:={ vs:=[0,1,4],nparams:=2,rets:=[.tmp (.v 4)],body:=vb224 }
def vb225 : VCode:=.seq (rg [oX 1 6 0,oV 2 (.move cF)]) (.seq (rg [oK 3 6 1,oC 4 102 [.t 3],oT 5 (.not (.t 4)),oN 2 5]) .ret)
def vf225 : VFunc:={ vs:=[0,1,2],nparams:=1,rets:=[.tmp (.v 2)],body:=vb225 }
def vb226 : VCode:=.seq (rg [oX 5 2 0,oV 10 (.newArr 2)]) (.seq (.seq (rg [oM 17 2,oM 18 3,oT 19 (.lookup false (.int .i64) (.bool false) (.t 17) (.t 18)),oV 20 (.not (.t 19))]) (.cond (.v 20) (.seq (rg [oV 10 (.newArr 2)]) .ret) .skip)) (.seq (rg [oM 21 3,oM 22 4,oT 23 (.build [.a (.t 21) 0 1,.a (.t 22) 0 1]),oT 24 (.buildSlice 2 [.t 23]),oN 11 24]) (.seq (rg [oJ 12 0]) (.seq (.seq (rg [oK 25 2 5,oM 26 3,oV 27 (.call 262 [.t 25,.t 26]),oV 28 (.len (.v 27)),oJ 29 0]) (.block 0 (.loop (.seq (rg [oV 30 (.bin .lss (.v 29) (.v 28))]) (.seq (.cond (.v 30) .skip (.exit 0)) (.seq (.block 1 (.seq (rg [oT 31 (.indexAddr 1 (.v 27) (.v 29)),oL 32 31,oN 14 32]) (.seq (rg [oM 33 2,oM 34 14,oV 35 (.lookup false (.int .i64) (.bool false) (.t 33) (.t 34))]) (.cond (.v 35) (rg [oM 36 12,oM 37 1,oM 38 14,oC 39 269 [.t 37,.t 38],oT 40 (.bin .add (.t 36) (.t 39)),oN 12 40]) .skip)))) (rg [oT 41 (.bin .add (.v 29) (cI 1)),oN 29 41]))))))) (.seq (.seq (rg [oK 42 2 5,oM 43 3,oV 44 (.call 262 [.t 42,.t 43]),oV 45 (.len (.v 44)),oJ 46 0]) (.block 2 (.loop (.seq (.region ⟨[oV 47 (.bin .lss (.v 46) (.v 45))],[66],[]⟩) (.seq (.cond (.v 47) .skip (.exit 2)) (.seq (.block 3 (.seq (rg [oT 48 (.indexAddr 1 (.v 44) (.v 46)),oL 49 48,oN 16 49]) (.seq (rg [oM 50 2,oM 51 16,oV 52 (.lookup false (.int .i64) (.bool false) (.t 50) (.t 51))]) (.cond (.v 52) (.region ⟨[oM 53 11,oK 54 2 5,oM 55 1,oM 56 2,oM 57 16,oM 58 4,oM 59 1,oM 60 16,oC 61 269 [.t 59,.t 60],oT 62 (.bin .mul (.t 58) (.t 61)),oM 63 12,oT 64 (.bin .quo (.t 62) (.t 63)),oT 65 (.minmax true [.c (.int .i64 1),.t 64]),oC 66 226 [.t 54,.t 55,.t 56,.t 57,.t 65],oT 67 (.append 2 16 (.t 53) (.t 66)),oN 11 67],[],[(1,8)]⟩) .skip)))) (rg [oT 68 (.bin .add (.v 46) (cI 1)),oN 46 68]))))))) (.seq (rg [oM 69 11,oN 10 69]) .ret))))))
def vf226 : VFunc:={ vs:=[0,1,2,3,4,5,10,11,12,14,16,20,27,28,29,30,35,44,45,46,47,52],nparams:=5,rets:=[.tmp (.v 10)],body:=vb226 }
def vb227 : VCode:=.seq (rg [oX 2 2 0,oV 4 (.move (.c (.map .bool [] [])))]) (.seq (rg [oT 10 (.makeMap (.int .i64)),oN 5 10]) (.seq (.seq (rg [oV 11 (.move (.v 1)),oV 12 (.len (.v 11)),oJ 13 0]) (.block 0 (.loop (.seq (.region ⟨[oV 14 (.bin .lss (.v 13) (.v 12))],[19],[]⟩) (.seq (.cond (.v 14) .skip (.exit 0)) (.seq (.block 1 (.seq (rg [oT 15 (.indexAddr 1 (.v 11) (.v 13)),oL 16 15,oN 7 16]) (.seq (rg [oK 17 2 2,oM 18 7,oV 19 (.call 179 [.t 17,.t 18]),oV 20 (.len (.v 19)),oJ 21 0]) (.block 2 (.loop (.seq (rg [oV 22 (.bin .lss (.v 21) (.v 20))]) (.seq (.cond (.v 22) .skip (.exit 2)) (.seq (.block 3 (.seq (rg [oT 23 (.indexAddr 1 (.v 19) (.v 21)),oL 24 23,oN 9 24]) (rg [oM 25 5,oM 26 9,oZ (.mapUpdate (.int .i64) (.t 25) (.t 26) cT)]))) (rg [oT 27 (.bin .add (.v 21) (cI 1)),oN 21 27]))))))))) (rg [oT 28 (.bin .add (.v 13) (cI 1)),oN 13 28]))))))) (.seq (rg [oM 29 5,oN 4 29]) .ret)))
def vf227 : VFunc:={ vs:=[0,1,2,4,5,7,9,11,12,13,14,19,20,21,22],nparams:=2,rets:=[.tmp (.v 4)],body:=vb227 }
def vb233 : VCode:=.seq (rg [oV 2 (.move cF)]) (.seq (rg [oM 3 0,oT 4 (.bin .geq (.t 3) (.c (.int .u8 97))),oP 5 4,gM 6 0 5 true,oG 7 (.bin .leq (.t 6) (.c (.int .u8 122))) 5 true,oB 8 5 7,oP 9 8,gM 10 0 9 false,oG 11 (.bin .geq (.t 10) (.c (.int .u8 65))) 9 false,oG 12 (.move (.t 11)) 9 false,gM 13 0 12 true,oG 14 (.bin .leq (.t 13) (.c (.int .u8 90))) 12 true,oG 15 (.pick (.t 12) (.t 14) cF) 9 false,oO 16 9 15,oP 17 16,gM 18 0 17 false,oG 19 (.bin .geq (.t 18) (.c (.int .u8 48))) 17 false,oG 20 (.move (.t 19)) 17 false,gM 21 0 20 true,oG 22 (.bin .leq (.t 21) (.c (.int .u8 57))) 20 true,oG 23 (.pick (.t 20) (.t 22) cF) 17 false,oO 24 17 23,oP 25 24,gM 26 0 25 false,oG 27 (.bin .eql (.t 26) (.c (.int .u8 95))) 25 false,oO 28 25 27,oP 29 28,gM 30 0 29 false,oG 31 (.bin .eql (.t 30) (.c (.int .u8 45))) 29 false,oO 32 29 31,oN 2 32]) .ret)
def vf233 : VFunc:={ vs:=[0,2],nparams:=1,rets:=[.tmp (.v 2)],body:=vb233 }
def vb234 : VCode:=.seq (rg [oJ 4 0]) (.seq (.seq (rg [oM 6 0,oV 7 (.len (.t 6)),oJ 8 0]) (.block 0 (.loop (.seq (rg [oV 9 (.bin .lss (.v 8) (.v 7))]) (.seq (.cond (.v 9) .skip (.exit 0)) (.seq (.block 1 (.seq (rg [oM 10 8,oN 5 10]) (.seq (rg [oM 11 1,oM 12 0,oM 13 5,oA 14 6 12 13,oR 15 6 14,oV 16 (.callv (.t 11) [.t 15])]) (.cond (.v 16) (.seq (rg [oM 17 5,oN 4 17]) .ret) .skip)))) (rg [oT 18 (.bin .add (.v 8) (cI 1)),oN 8 18]))))))) (.seq (rg [oJ 4 (-1)]) .ret))
def vf234 : VFunc:={ vs:=[0,1,4,5,7,8,9,16],nparams:=2,rets:=[.tmp (.v 4)],body:=vb234 }
def vb235 : VCode:=.seq (rg [oX 2 6 0,oV 3 (.move cF)]) (.seq (rg [oF 4 0 2,oL 5 4,oT 6 (.load none (.v 1)),oT 7 (.bin .eql (.t 5) (.t 6)),oN 3 7]) .ret)
def vf235 : VFunc:={ vs:=[0,1,2,3],nparams:=2,rets:=[.tmp (.v 3)],body:=vb235 }
def vb244 : VCode:=.seq (rg [oV 10 (.alloc [.c (.int .i64 0),.c (.int .i64 0),.c (.int .i64 0),.c (.int .i64 0),.c (.int .i64 0)]),oJ 11 0]) (.seq (rg [oM 13 0,oM 14 1,oM 15 2,oM 16 3,oT 17 (.build [.a (.t 13) 0 1,.a (.t 14) 0 1,.a (.t 15) 0 1,.z (.c (.int .i64 0)),.a (.t 16) 0 1]),oV 12 (.alloc [.c (.int .i64 0),.c (.int .i64 0),.c (.int .i64 0),.c (.int .i64 0),.c (.int .i64 0)]),oS 5 12 17]) (.seq (.seq (rg [oK 18 5 12,oV 19 (.call 176 [.t 18])]) (.cond (.v 19) (rg [oF 20 2 12,oZ (.store 1 (.t 20) (cI 0))]) .skip)) (.seq (.seq (rg [oK 21 5 12,oC 22 174 [.t 21],oV 23 (.not (.t 22))]) (.cond (.v 23) (.seq (rg [oT 24 (.build [.z (.c (.int .i64 0)),.z (.c (.int .i64 0)),.z (.c (.int .i64 0)),.z (.c (.int .i64 0)),.z (.c (.int .i64 0))]),oS 5 10 24,oJ 11 3]) .ret) .skip)) (.seq (rg [oM 25 4,oF 26 2 12,oL 27 26,oT 28 (.minmax false [.t 25,.t 27]),oM 29 1,oT 30 (.bin .mul (.t 28) (.t 29)),oF 31 3 12,oZ (.store 1 (.t 31) (.t 30))]) (.seq (rg [oK 32 5 12,oS 5 10 32,oJ 11 0]) .ret)))))
def vf244 : VFunc:={ vs:=[0,1,2,3,4,10,11,12,19,23],nparams:=5,rets:=[.cell (.v 10) (some 5),.tmp (.v 11)],body:=vb244 }
def vb262 : VCode:=.seq (rg [oX 2 2 0,oV 4 (.newArr 1)]) (.seq (rg [oV 5 (.newArr 1)]) (.seq (.seq (rg [oF 8 0 2,oV 9 (.load none (.t 8)),oV 10 (.len (.v 9)),oJ 11 0]) (.block 0 (.loop (.seq (rg [oV 12 (.bin .lss (.v 11) (.v 10))]) (.seq (.cond (.v 12) .skip (.exit 0)) (.seq (.block 1 (.seq (rg [oT 13 (.indexAddr 6 (.v 9) (.v 11)),oR 14 6 13,oV 7 (.alloc [.c (.int .i64 0),.c (.int .i64 0),.c (.str ⟨#[]⟩),.c (.int .i64 0),.c (.int .i64 0),.c (.int .i64 0)]),oS 6 7 14]) (.seq (rg [oF 15 1 7,oL 16 15,oM 17 1,oV 18 (.bin .eql (.t 16) (.t 17))]) (.cond (.v 18) (rg [oM 19 5,oF 20 0 7,oL 21 20,oT 22 (.buildSlice 1 [.t 21]),oT 23 (.append 1 8 (.t 19) (.t 22)),oN 5 23]) .skip)))) (rg [oT 24 (.bin .add (.v 11) (cI 1)),oN 11 24]))))))) (.seq (rg [oM 25 5,oN 4 25]) .ret)))
def vf262 : VFunc:={ vs:=[0,1,2,4,5,7,9,10,11,12,18],nparams:=2,rets:=[.tmp (.v 4)],body:=vb262 }
def vb269 : VCode:=.seq (rg [oJ 4 0]) (.seq (.seq (rg [oV 7 (.move (.v 0)),oV 8 (.len (.v 7)),oJ 9 0]) (.block 0 (.loop (.seq (rg [oV 10 (.bin .lss (.v 9) (.v 8))]) (.seq (.cond (.v 10) .skip (.exit 0)) (.seq (.block 1 (.seq (rg [oT 11 (.indexAddr 2 (.v 7) (.v 9)),oR 12 2 11,oV 6 (.alloc [.c (.int .i64 0),.c (.int .i64 0)]),oS 2 6 12]) (.seq (rg [oF 13 0 6,oL 14 13,oM 15 1,oV 16 (.bin .eql (.t 14) (.t 15))]) (.cond (.v 16) (.seq (rg [oF 17 1 6,oL 18 17,oN 4 18]) .ret) .skip)))) (rg [oT 19 (.bin .add (.v 9) (cI 1)),oN 9 19]))))))) (.seq (rg [oJ 4 100]) .ret))
def vf269 : VFunc:={ vs:=[0,1,4,6,7,8,9,10,16],nparams:=2,rets:=[.tmp (.v 4)],body:=vb269 }
def prog : FuncId -> Option VFunc | 7=>some vf7 | 8=>some vf8 | 10=>some vf10 | 11=>some vf11 | 12=>some vf12 | 13=>some vf13 | 14=>some vf14 | 15=>some vf15 | 16=>some vf16 | 17=>some vf17 | 18=>some vf18 | 19=>some vf19 | 28=>some vf28 | 33=>some vf33 | 34=>some vf34 | 35=>some vf35 | 36=>some vf36 | 37=>some vf37 | 38=>some vf38 | 41=>some vf41 | 42=>some vf42 | 43=>some vf43 | 44=>some vf44 | 45=>some vf45 | 46=>some vf46 | 47=>some vf47 | 48=>some vf48 | 49=>some vf49 | 50=>some vf50 | 51=>some vf51 | 52=>some vf52 | 53=>some vf53 | 54=>some vf54 | 55=>some vf55 | 61=>some vf61 | 62=>some vf62 | 63=>some vf63 | 70=>some vf70 | 71=>some vf71 | 73=>some vf73 | 76=>some vf76 | 82=>some vf82 | 83=>some vf83 | 85=>some vf85 | 86=>some vf86 | 87=>some vf87 | 88=>some vf88 | 89=>some vf89 | 97=>some vf97 | 98=>some vf98 | 99=>some vf99 | 100=>some vf100 | 101=>some vf101 | 102=>some vf102 | 109=>some vf109 | 110=>some vf110 | 111=>some vf111 | 112=>some vf112 | 113=>some vf113 | 114=>some vf114 | 115=>some vf115 | 117=>some vf117 | 118=>some vf118 | 119=>some vf119 | 121=>some vf121 | 122=>some vf122 | 123=>some vf123 | 124=>some vf124 | 125=>some vf125 | 126=>some vf126 | 127=>some vf127 | 140=>some vf140 | 141=>some vf141 | 142=>some vf142 | 143=>some vf143 | 144=>some vf144 | 145=>some vf145 | 146=>some vf146 | 147=>some vf147 | 149=>some vf149 | 150=>some vf150 | 155=>some vf155 | 156=>some vf156 | 158=>some vf158 | 159=>some vf159 | 161=>some vf161 | 163=>some vf163 | 164=>some vf164 | 165=>some vf165 | 167=>some vf167 | 170=>some vf170 | 171=>some vf171 | 172=>some vf172 | 173=>some vf173 | 174=>some vf174 | 175=>some vf175 | 176=>some vf176 | 177=>some vf177 | 178=>some vf178 | 179=>some vf179 | 180=>some vf180 | 181=>some vf181 | 184=>some vf184 | 185=>some vf185 | 186=>some vf186 | 187=>some vf187 | 188=>some vf188 | 201=>some vf201 | 202=>some vf202 | 204=>some vf204 | 205=>some vf205 | 206=>some vf206 | 208=>some vf208 | 212=>some vf212 | 224=>some vf224 | 225=>some vf225 | 226=>some vf226 | 227=>some vf227 | 233=>some vf233 | 234=>some vf234 | 235=>some vf235 | 244=>some vf244 | 262=>some vf262 | 269=>some vf269 | _=>none
end Go.V
