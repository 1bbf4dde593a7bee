/- Part 5 of the proof. -/
import Derived.Test.YtekkdllchjmhdaaGreatF1
import GoSem.Dispatch
import GoSem.Core.Region
set_option linter.unusedSectionVars false
set_option linter.unusedSimpArgs false
set_option linter.unusedVariables false
set_option maxHeartbeats 32000000
namespace Go.V
def EY (P:Program) (t:TypeId):Option Bool :=
 match P.underlying t with
 | some (.struct _)=>some true
 | some (.array _ _)=>some true
 | some _=>some false
 | none=>none
def Bi (P:Program) (t:TypeId) (n:Nat):Bool:=match P.info? t with
 | some i=>i.size == n
 | none=>false
def Di (P:Program) (t:TypeId):Option Nat->Bool
 | none=>EY P t == some false
 | some n=>EY P t == some true && Bi P t n
def LT (a b:ByteArray):Bool:=a.data.toList == b.data.toList
def FW:Value->PV->Bool
 | .int k n,.int k' n'=>k == k' && n == n'
 | .bool b,.bool b'=>b == b'
 | .string s,.str s'=>LT s s'
 | .slice none 0 0,.slice _ []=>true
 | .map none,.map _ [] []=>true
 | .pointer none,.nilp=>true
 | .nilFunc,.nilp=>true
 | .slice none 0 0,.nils=>true
 | _,_=>false
def Al (vs:List Nat):Operand->VArg->Bool
 | .tmp t,.v s=>t == s && vs.contains s
 | .tmp t,.t s=>t == s && !vs.contains s
 | .const v,.c d=>FW v d
 | .func f,.c (.fn g)=>f == g
 | _,_=>false
def A9 (vs:List Nat):List Operand->List VArg->Bool
 | [],[]=>true
 | x::xs,a::as_=>Al vs x a && A9 vs xs as_
 | _,_=>false
def C3 (vs:List Nat):Option Operand->Option VArg->Bool
 | none,none=>true
 | some x,some a=>Al vs x a
 | _,_=>false
def FC:Value->ZC->Bool
 | .slice none 0 0,.nil _=>true
 | v,.c d=>FW v d
 | _,_=>false
def F4:List Value->List ZC->Bool
 | [],[]=>true
 | v::vs,z::zs=>FC v z && F4 vs zs
 | _,_=>false
def GU (P:Program) (vs:List Nat) (fs:Array Field) (cells:List (Value ⊕ (Operand × Nat))):List (Nat × Operand)->Option (List (Value ⊕ (Operand × Nat)))
 | []=>some cells
 | (i,x)::ps=>match fs[i]? with
  | some f=>match P.info? f.type with
   | some inf=>if f.offset+inf.size<=cells.length then
     GU P vs fs (cells.take f.offset++(List.range inf.size).map (fun j=>Sum.inr (x,j))++cells.drop (f.offset+inf.size)) ps else none
   | none=>none
  | none=>none
def My (vs:List Nat):Value ⊕ (Operand × Nat)->BC->Bool
 | .inl v,.z z=>FC v z
 | .inr (.const v,0),.z z=>FC v z
 | .inr (x,j),.a a i _=>Al vs x a && j == i
 | _,_=>false
def Gg (vs:List Nat):List (Value ⊕ (Operand × Nat))->List BC->Bool
 | [],[]=>true
 | c::cs,b::bs=>My vs c b && Gg vs cs bs
 | _,_=>false
def Hv (P:Program) (vs:List Nat) (fs:Array Field) (bs:List BC):List (Nat × Operand)->Bool
 | []=>true
 | (i,x)::ps=>(match fs[i]? with
  | some f=>match x with
   | .const v=>Bi P f.type 1 && (match v with
    | .agg _=>false
    | .tuple _=>false
    | _=>true)
   | x=>bs.any fun
    | .a y _ n=>Al vs x y && Bi P f.type n
    | _=>false
  | none=>false) && Hv P vs fs bs ps
def bop (_:BinOp):Bool:=true
def CD (vs:List Nat):Nat->List (Nat × Operand)->List VArg->Bool
 | _,[],[]=>true
 | i,(j,x)::ps,a::as_=>i == j && Al vs x a && CD vs (i+1) ps as_
 | _,_,_=>false
def okZeroPV:Value->PV->Bool
 | .agg cs,.agg ds=>okL cs.toList ds
 | v,d=>FW v d
where
 okL:List Value->List PV->Bool
  | [],[]=>true
  | v::vs,d::ds=>FW v d && okL vs ds
  | _,_=>false
def C6 (P:Program) (t:TypeId):KT->Bool
 | .int k=>match P.underlying t with
  | some (.int k')=>k == k'
  | _=>false
 | .str=>match P.underlying t with
  | some .string=>true
  | _=>false
 | .bool=>match P.underlying t with
  | some .bool=>true
  | _=>false
def Ep (P:Program):Nat->Nat->List Field->List KT->Option (List KT)
 | 0,_,_,_=>none
 | _+1,_,[],ks=>some ks
 | n + 1, i, f :: fs, ks => gd (f.offset = i) <| gd ((f.name != "_") = true) <|
  match P.underlying f.type with
  | some (.struct gs)=>ob (Ep P n 0 gs.toList ks) fun k1=>gd ((!P.stoodInHeld f.type && Bi P f.type (ks.length - k1.length) && (EY P f.type == some true))=true) <| Ep P n (i+(ks.length - k1.length)) fs k1
  | _=>match ks with
   | k::ks=>gd (C6 P f.type k=true) <| Ep P n (i+1) fs ks
   | []=>none
def Mx (P:Program) (t:TypeId) (kts:List KT):Bool:=match P.underlying t with
 | some (.struct fs)=>!P.stoodInHeld t && !P.eqGuardType P.depth t && (Ep P 60 0 fs.toList kts == some [])
 | _=>false
def DV (P:Program) (f:FuncId):Bool:=match P.funcs[f]? with
 | some fn => fn.body.isSome && fn.name != "runtime.NumGoroutine"
 | none=>false
def okOp (P:Program) (vs:List Nat) (d:Bool) (o:Op) (ty:TypeId) (v:VOp):Bool :=
 match o,v with
 | .move x,.move a=>Al vs x a
 | .assign x,.move a=>Al vs x a
 | .move (.const (.slice none 0 0)),.newArr _=>d
 | .assign (.const (.slice none 0 0)),.newArr _=>d
 | .pick c x y,.pick c' x' y'=>Al vs c c' && Al vs x x' && Al vs y y'
 | .alloc t,.alloc zs=>d && (match P.info? t with
  | some i=>match i.zero with
   | some z=>F4 z.cells.toList zs
   | none=>false
  | none=>false)
 | .box _ x,.box _ a=>d && Al vs x a
 | .build t ps,.build bs=>d && (match P.underlying t,P.info? t with
  | some (.struct fs),some i=>match i.zero with
   | some z=>Hv P vs fs bs ps.toList && (fs.toList.mapM (fun f=>(P.info? f.type).map fun i=>(f.offset,i.size))).isSome && (match GU P vs fs (z.cells.toList.map Sum.inl) ps.toList with
    | some cs=>Gg vs cs bs
    | none=>false)
   | none=>false
  | _,_=>false)
 | .buildSlice t len ps,.buildSlice sz as_=>d && as_.length == len && decide (0<sz) && decide (len*sz<=16777216) && CD vs 0 ps.toList as_ && (match P.underlying t with
  | some (.slice e)=>(match P.info? e with
   | some i=>i.size == sz && (match i.zero with
    | some z=>z.cells.size == sz
    | none=>false)
   | none=>false)
  | _=>false)
 | .load t x,.load agg a=>Al vs x a && Di P t agg
 | .store t x y,.store n a b=>Al vs x a && Al vs y b && Bi P t n
 | .fieldAddr t x f,.fieldAddr off a=>Al vs x a && (match P.underlying t with
  | some (.struct fs)=>match fs[f]? with
   | some fl=>fl.offset == off && (match P.info? fl.type with
    | some i=>i.size != 0
    | none=>false)
   | none=>false
  | _=>false)
 | .field t x f,.field off agg a=>Al vs x a && (match P.underlying t with
  | some (.struct fs)=>match fs[f]? with
   | some fl=>fl.offset == off && Di P fl.type agg
   | none=>false
  | _=>false)
 | .indexAddr t x i,.indexAddr sz a b=>Al vs x a && Al vs i b && (match P.underlying t with
  | some (.slice e)=>Bi P e sz
  | _=>false)
 | .index t x i,.indexStr a b=>Al vs x a && Al vs i b && (match P.underlying t with
  | some .string=>true
  | _=>false)
 | .binOp op t x y _,.bin op' a b=>Al vs x a && Al vs y b && op == op' && bop op && (match P.underlying t with
  | some (.int _)|some .string=>true
  | _=>false)
 | .binOp op t x y _,.eqB neg a b=>Al vs x a && Al vs y b && ((op == .eql && !neg) || (op == .neq && neg)) && C6 P t .bool
 | .binOp op t x y _,.eqAgg neg kts a b=>Al vs x a && Al vs y b && ((op == .eql && !neg) || (op == .neq && neg)) && Mx P t kts
 | .unOp .not _ x,.not a=>Al vs x a
 | .call { callee:=.builtin .len,args:=xs,argTypes:=ts },.len a=>A9 vs xs.toList [a] && (match ts.toList with
  | [t]=>(match P.underlying t with
   | some (.slice _)=>true
   | _=>false)
  | _=>false)
 | .call { callee:=.builtin .len,args:=xs,argTypes:=ts },.lenStr a=>A9 vs xs.toList [a] && (match ts.toList with
  | [t]=>C6 P t .str
  | _=>false)
 | .call { callee:=.builtin .append,args:=xs,argTypes:=ts },.append sz bytes a b=>A9 vs xs.toList [a,b] && okApp ts sz bytes
 | .call { callee:=.builtin .append,args:=xs,argTypes:=ts },.appendNil sz bytes b=>d && (match xs.toList with
  | [.const (.slice none 0 0),y]=>Al vs y b
  | _=>false) && okApp ts sz bytes
 | .call { callee:=.builtin .max,args:=xs,.. },.minmax true as_=>A9 vs xs.toList as_
 | .call { callee:=.builtin .min,args:=xs,.. },.minmax false as_=>A9 vs xs.toList as_
 | .slice t x lo hi mx,.slice str sz lo' hi' mx' a=>Al vs x a && C3 vs lo lo' && C3 vs hi hi' && C3 vs mx mx' && (match P.underlying t with
  | some .string=>mx.isNone && str
  | some (.slice e)=>(mx.isNone || hi.isSome) && Bi P e sz && !str
  | _=>false)
 | .lookup t m k ok,.lookup ok' kt' zero a b=>Al vs m a && Al vs k b && ok == ok' && (match P.underlying t with
  | some (.map kt e)=>C6 P kt kt' && (match P.info? e with
   | some i=>match i.zero with
    | some z=>okZeroPV z zero
    | none=>false
   | none=>false)
  | _=>false)
 | .mapUpdate t m k x,.mapUpdate kt' a b c=>Al vs m a && Al vs k b && Al vs x c && (match P.underlying t with
  | some (.map kt _)=>C6 P kt kt'
  | _=>false)
 | .makeMap _ none,.makeMap _=>d
 | .extract x i,.extract a j=>Al vs x a && i == j
 | .convert s t x,.strBytes a=>d && Al vs x a && (match P.underlying s,P.underlying t with
  | some .string,some (.slice e)=>(match P.underlying e with
   | some (.int .u8)=>true
   | _=>false)
  | _,_=>false)
 | .nilCheck x,.nilCheck a=>Al vs x a
 | .makeFunc (.func f) first caps,.makeFunc g as_=>f == g && first.isEmpty && A9 vs caps.toList as_
 | .call { callee:=.value (.func f),args:=xs,.. },.call g as_=>d && f == g && A9 vs xs.toList as_ && DV P f
 | .call { callee:=.value x,args:=xs,.. },.callv a as_=>d && Al vs x a && A9 vs xs.toList as_
 | .buildSlice t len ps,.buildFz sz as_=>d && as_.length == len && decide (0<sz) && decide (len*sz<=16777216) && CD vs 0 ps.toList as_ && (match P.underlying t with
  | some (.slice e)=>(match P.info? e with
   | some i=>i.size == sz && (match i.zero with
    | some z=>z.cells.size == sz
    | none=>false)
   | none=>false)
  | _=>false)
 | .call { callee:=.value (.func f),args:=xs,.. },.callW g as_=>d && f == g && A9 vs xs.toList as_ && DV P f
 | .call { callee:=.value x,args:=xs,.. },.callvW a as_=>d && Al vs x a && A9 vs xs.toList as_
 | .build t ps,.buildArr sz as_=>d && decide (0<sz) && CD vs 0 ps.toList as_ && (match P.underlying t,P.info? t with
  | some (.array len e),some i=>Bi P e sz && as_.length == len && (match i.zero with
   | some z=>z.cells.size == len*sz
   | none=>false)
  | _,_=>false)
 | .index t x i,.indexArr n sz agg a b=>Al vs x a && Al vs i b && (match P.underlying t with
  | some (.array len e)=>len == n && Bi P e sz && Di P e agg
  | _=>false)
 | .call { callee:=.value (.func f),args:=xs,.. },.callR g as_=>d && f == g && A9 vs xs.toList as_ && DV P f
 | .call { callee:=.builtin .clear,args:=xs,argTypes:=ts },.clear sz zero a=>A9 vs xs.toList [a] && zero.cells.length == sz && (match ts.toList with
  | [t]=>(match P.underlying t with
   | some (.slice e)=>(match P.info? e with
    | some i=>i.size == sz && (match i.zero with
     | some z=>z.cells.size == sz && okZeroPV z zero
     | none=>false)
    | none=>false)
   | _=>false)
  | _=>false)
 | .indexAddr t x (.const (.int _ m)),.fieldAddr off a=>Al vs x a && (match P.underlying t with
  | some (.array len e)=>decide (0<=m) && decide (m<(len:Int)) && (match P.info? e with
   | some i=>off == m.toNat*i.size
   | none=>false)
  | _=>false)
 | .buildSlice t len ps,.buildPtrs as_=>d && as_.length == len && decide (len<=16777216) && CD vs 0 ps.toList as_ && (match P.underlying t with
  | some (.slice e)=>(match P.info? e with
   | some i=>i.size == 1 && (match i.zero with
    | some z=>z.cells.size == 1
    | none=>false)
   | none=>false)
  | _=>false)
 | .call { callee:=.value (.func f),args:=xs,.. },.callA g as_=>d && f == g && A9 vs xs.toList as_ && DV P f
 | .store t x (.const (.slice none 0 0)),.storeNil _ _ _ a=>Al vs x a && Bi P t 1
 | _,_=>ty == ty && false
where
 okApp (ts:Array TypeId) (sz bytes:Nat):Bool:=match ts.toList with
  | [t,t']=>t == t' && (match P.underlying t with
   | some (.slice e)=>(match P.info? e with
    | some i=>i.size == sz && i.bytes == bytes && decide (0<sz) && (match i.zero with
     | some z=>z.cells.size == sz
     | none=>false)
    | none=>false)
   | _=>false)
  | _=>false
def Mj (vs:List Nat) (n:Nat):Option Tmp->VDst->Bool
 | none,.none=>true
 | some t,.v s=>t == s && vs.contains s && decide (t<n)
 | some t,.t s=>t == s && !vs.contains s && decide (t<n)
 | _,_=>false
def QR (vs:List Nat) (ops:Array Oper):Option (Nat × Bool)->Option (VArg × Bool)->Bool
 | none,none=>true
 | some (j,w),some (g,w')=>w == w' && (match (ops[j]?).bind (·.dst) with
  | some t=>Al vs (.tmp t) g
  | none=>false)
 | _,_=>false
def Fj (P:Program) (vs:List Nat) (n:Nat) (ops:Array Oper) (o:Oper) (v:VOper):Bool :=
 Mj vs n o.dst v.dst && QR vs ops o.guard v.guard && okOp P vs o.dst.isSome o.op o.type v.op
def GW (P:Program) (vs:List Nat) (n:Nat) (ops:Array Oper):List Oper->List VOper->Bool
 | [],[]=>true
 | o::os,v::us=>Fj P vs n ops o v && GW P vs n ops os us
 | _,_=>false
def VOp.silent:VOp->Bool
 | .move _|.pick _ _ _|.fieldAddr _ _|.field _ _ _|.bin _ _ _|.eqAgg _ _ _ _|.not _|.len _|.lenStr _|.eqB _ _ _|.extract _ _|.minmax _ _|.nilCheck _|.makeFunc _ _|.indexStr _ _|.buildFz _ _|.buildPtrs _|.buildArr _ _|.indexArr _ _ _ _ _=>true
 | _=>false
def VOp.reader:VOp->Bool
 | .load _ _|.lookup _ _ _ _ _|.indexAddr _ _ _|.callR _ _=>true
 | _=>false
def VArg.slot?:VArg->List VDst
 | .v s=>[.v s]
 | .t s=>[.t s]
 | .c _=>[]
def VOper.reads (o:VOper):List VDst:=o.op.args.flatMap VArg.slot?++(match o.guard with
 | some (g,_)=>g.slot?
 | none=>[])
def IL (o o':VOper):Bool :=
 (o.dst == .none || (o.dst != o'.dst && !o'.reads.contains o.dst)) && (o'.dst == .none || !o.reads.contains o'.dst)
def Jr (bs:Array Nat) (fp:List (Nat × Nat)) (us:List VOper):Bool :=
 us.zipIdx.all fun (o',j)=>us.zipIdx.all fun (o,i)=>decide (j<=i) || (bs.getD j 0).testBit i ||
  (IL o o' && (o.op.silent || o'.op.silent || (o.op.reader && o'.op.reader) || fp.contains (i,j)))
def LN (ops:Array Oper):Bool:=ops.toList.zipIdx.all fun (o,j)=>o.after.all fun e=>!Region.binds .any e || decide (e.on<j)
def Lp (P:Program) (vs:List Nat) (n:Nat) (ops:Array Oper) (draw:Bool) (r:VRegion):Bool :=
 GW P vs n ops ops.toList r.ops && (!draw || (LN ops && Jr (Region.before ops) r.fp r.ops))
def Mh:Id->Bool
 | .slot _ _=>true
 | .arg _ _=>false
def Bq (P:Program) (vs:List Nat) (n:Nat):Code->VCode->Bool
 | c,.mv a b c'=>decide (a ≠ b) && Mh a && Mh b && Bq P vs n c c'
 | _,.fail=>true
 | .skip,.skip=>true
 | .region _ ops draw,.region r=>Lp P vs n ops draw r
 | .seq a b,.seq a' b'=>Bq P vs n a a' && Bq P vs n b b'
 | .cond c a b,.cond c' a' b'=>Al vs c c' && Bq P vs n a a' && Bq P vs n b b'
 | .block i c,.block i' c'=>i == i' && Bq P vs n c c'
 | .loop c,.loop c'=>Bq P vs n c c'
 | .exit i,.exit i'=>i == i'
 | .ret,.ret=>true
 | .scope c,.scope c'=>Bq P vs n c c'
 | .label _,.skip=>true
 | _,_=>false
def JS (P:Program) (vs:List Nat):ResultVar->VRet->Bool
 | .tmp t,.tmp (.v s)=>t == s && vs.contains s
 | .cell a t,.cell (.v s) agg=>a == s && vs.contains s && Di P t agg
 | _,_=>false
def G9 (P:Program) (vs:List Nat):List ResultVar->List VRet->Bool
 | [],[]=>true
 | r::rs,v::us=>JS P vs r v && G9 P vs rs us
 | _,_=>false
def Ha (P:Program) (f:FuncId) (vf:VFunc):Bool :=
 match P.funcs[f]? with
 | some fn=>match fn.body with
  | some c => fn.name != "runtime.NumGoroutine" && Bq P vf.vs fn.ntmps c vf.body && G9 P vf.vs fn.results.toList vf.rets && decide (vf.nparams ≤ fn.ntmps)
  | none=>false
 | none=>false
end Go.V
