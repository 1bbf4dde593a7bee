/- Part 5 of the proof. -/
import Derived.Test.YtekkdllchjmhdaaGreatC1
import GoSem.Dispatch
import GoSem.Core.Region
set_option linter.unusedSectionVars false
set_option linter.unusedSimpArgs false
set_option linter.unusedVariables false
namespace Go.V
def isAggB (P : Program) (t : TypeId) : Option Bool :=
 match P.underlying t with
 | some (.struct _)=>some true
 | some (.array _ _)=>some true
 | some _=>some false
 | none=>none
def szIs (P : Program) (t : TypeId) (n : Nat) : Bool:=match P.info? t with
 | some i=>i.size == n
 | none=>false
def aggIs (P : Program) (t : TypeId) : Option Nat -> Bool
 | none=>isAggB P t == some false
 | some n=>isAggB P t == some true && szIs P t n
def bytesEq (a b : ByteArray) : Bool:=a.data.toList == b.data.toList
def okConst : Value -> PV -> Bool
 | .int k n,.int k' n'=>k == k' && n == n'
 | .bool b,.bool b'=>b == b'
 | .string s,.str s'=>bytesEq s s'
 | .slice none 0 0,.slice _ []=>true
 | .map none,.map _ [] []=>true
 | .pointer none,.nilp=>true
 | .nilFunc,.nilp=>true
 | .slice none 0 0,.nils=>true
 | _,_=>false
def okArg (vs : List Nat) : Operand -> VArg -> Bool
 | .tmp t,.v s=>t == s && vs.contains s
 | .tmp t,.t s=>t == s && !vs.contains s
 | .const v,.c d=>okConst v d
 | .func f,.c (.fn g)=>f == g
 | _,_=>false
def okArgs (vs : List Nat) : List Operand -> List VArg -> Bool
 | [],[]=>true
 | x :: xs,a :: as_=>okArg vs x a && okArgs vs xs as_
 | _,_=>false
def okOpt (vs : List Nat) : Option Operand -> Option VArg -> Bool
 | none,none=>true
 | some x,some a=>okArg vs x a
 | _,_=>false
def okZ1 : Value -> ZC -> Bool
 | .slice none 0 0,.nil _=>true
 | v,.c d=>okConst v d
 | _,_=>false
def okZero : List Value -> List ZC -> Bool
 | [],[]=>true
 | v :: vs,z :: zs=>okZ1 v z && okZero vs zs
 | _,_=>false
def overlay (P : Program) (vs : List Nat) (fs : Array Field) (cells : List (Value ⊕ (Operand × Nat))) : List (Nat × Operand) -> Option (List (Value ⊕ (Operand × Nat)))
 | []=>some cells
 | (i,x) :: ps=>match fs[i]? with
  | some f=>match P.info? f.type with
   | some inf=>if f.offset + inf.size <= cells.length then
     overlay P vs fs (cells.take f.offset ++ (List.range inf.size).map (fun j=>Sum.inr (x,j)) ++ cells.drop (f.offset + inf.size)) ps else none
   | none=>none
  | none=>none
def okB1 (vs : List Nat) : Value ⊕ (Operand × Nat) -> BC -> Bool
 | .inl v,.z z=>okZ1 v z
 | .inr (.const v,0),.z z=>okZ1 v z
 | .inr (x,j),.a a i _=>okArg vs x a && j == i
 | _,_=>false
def okBC (vs : List Nat) : List (Value ⊕ (Operand × Nat)) -> List BC -> Bool
 | [],[]=>true
 | c :: cs,b :: bs=>okB1 vs c b && okBC vs cs bs
 | _,_=>false
def okPartSizes (P : Program) (vs : List Nat) (fs : Array Field) (bs : List BC) : List (Nat × Operand) -> Bool
 | []=>true
 | (i,x) :: ps=>(match fs[i]? with
  | some f=>match x with
   | .const v=>szIs P f.type 1 && (match v with
    | .agg _=>false
    | .tuple _=>false
    | _=>true)
   | x=>bs.any fun
    | .a y _ n=>okArg vs x y && szIs P f.type n
    | _=>false
  | none=>false) && okPartSizes P vs fs bs ps
def bop (_ : BinOp) : Bool:=true
def okParts (vs : List Nat) : Nat -> List (Nat × Operand) -> List VArg -> Bool
 | _,[],[]=>true
 | i,(j,x) :: ps,a :: as_=>i == j && okArg vs x a && okParts vs (i + 1) ps as_
 | _,_,_=>false
def okZeroPV : Value -> PV -> Bool
 | .agg cs,.agg ds=>okL cs.toList ds
 | v,d=>okConst v d
where
 okL : List Value -> List PV -> Bool
  | [],[]=>true
  | v :: vs,d :: ds=>okConst v d && okL vs ds
  | _,_=>false
def ktIs (P : Program) (t : TypeId) : KT -> Bool
 | .int k=>match P.underlying t with
  | some (.int k')=>k == k'
  | _=>false
 | .str=>match P.underlying t with
  | some .string=>true
  | _=>false
 | .bool=>match P.underlying t with
  | some .bool=>true
  | _=>false
def okFields (P : Program) : Nat -> List Field -> List KT -> Bool
 | _,[],[]=>true
 | i, f :: fs, k :: ks => ktIs P f.type k && f.offset == i && f.name != "_" && okFields P (i + 1) fs ks
 | _,_,_=>false
def okEq (P : Program) (t : TypeId) (kts : List KT) : Bool:=match P.underlying t with
 | some (.struct fs)=>!P.stoodInHeld t && !P.eqGuardType P.depth t && okFields P 0 fs.toList kts
 | _=>false
def hasBody (P : Program) (f : FuncId) : Bool:=match P.funcs[f]? with
 | some fn => fn.body.isSome && fn.name != "runtime.NumGoroutine"
 | none=>false
def okOp (P : Program) (vs : List Nat) (d : Bool) (o : Op) (ty : TypeId) (v : VOp) : Bool :=
 match o,v with
 | .move x,.move a=>okArg vs x a
 | .assign x,.move a=>okArg vs x a
 | .move (.const (.slice none 0 0)),.newArr _=>d
 | .assign (.const (.slice none 0 0)),.newArr _=>d
 | .pick c x y,.pick c' x' y'=>okArg vs c c' && okArg vs x x' && okArg vs y y'
 | .alloc t,.alloc zs=>d && (match P.info? t with
  | some i=>match i.zero with
   | some z=>okZero z.cells.toList zs
   | none=>false
  | none=>false)
 | .box _ x,.box _ a=>d && okArg vs x a
 | .build t ps,.build bs=>d && (match P.underlying t,P.info? t with
  | some (.struct fs),some i=>match i.zero with
   | some z=>okPartSizes P vs fs bs ps.toList && (fs.toList.mapM (fun f=>(P.info? f.type).map fun i=>(f.offset,i.size))).isSome && (match overlay P vs fs (z.cells.toList.map Sum.inl) ps.toList with
    | some cs=>okBC vs cs bs
    | none=>false)
   | none=>false
  | _,_=>false)
 | .buildSlice t len ps,.buildSlice sz as_=>d && as_.length == len && decide (0 < sz) && decide (len * sz <= 16777216) && okParts vs 0 ps.toList as_ && (match P.underlying t with
  | some (.slice e)=>(match P.info? e with
   | some i=>i.size == sz && (match i.zero with
    | some z=>z.cells.size == sz
    | none=>false)
   | none=>false)
  | _=>false)
 | .load t x,.load agg a=>okArg vs x a && aggIs P t agg
 | .store t x y,.store n a b=>okArg vs x a && okArg vs y b && szIs P t n
 | .fieldAddr t x f,.fieldAddr off a=>okArg vs x a && (match P.underlying t with
  | some (.struct fs)=>match fs[f]? with
   | some fl=>fl.offset == off && (match P.info? fl.type with
    | some i=>i.size != 0
    | none=>false)
   | none=>false
  | _=>false)
 | .field t x f,.field off agg a=>okArg vs x a && (match P.underlying t with
  | some (.struct fs)=>match fs[f]? with
   | some fl=>fl.offset == off && aggIs P fl.type agg
   | none=>false
  | _=>false)
 | .indexAddr t x i,.indexAddr sz a b=>okArg vs x a && okArg vs i b && (match P.underlying t with
  | some (.slice e)=>szIs P e sz
  | _=>false)
 | .index t x i,.indexStr a b=>okArg vs x a && okArg vs i b && (match P.underlying t with
  | some .string=>true
  | _=>false)
 | .binOp op t x y _,.bin op' a b=>okArg vs x a && okArg vs y b && op == op' && bop op && (match P.underlying t with
  | some (.int _) | some .string=>true
  | _=>false)
 | .binOp op t x y _,.eqB neg a b=>okArg vs x a && okArg vs y b && ((op == .eql && !neg) || (op == .neq && neg)) && ktIs P t .bool
 | .binOp op t x y _,.eqAgg neg kts a b=>okArg vs x a && okArg vs y b && ((op == .eql && !neg) || (op == .neq && neg)) && okEq P t kts
 | .unOp .not _ x,.not a=>okArg vs x a
 | .unOp .neg _ x,.neg a=>okArg vs x a
 | .call { callee:=.builtin .len,args:=xs,argTypes:=ts },.len a=>okArgs vs xs.toList [a] && (match ts.toList with
  | [t]=>(match P.underlying t with
   | some (.slice _)=>true
   | _=>false)
  | _=>false)
 | .call { callee:=.builtin .len,args:=xs,argTypes:=ts },.lenStr a=>okArgs vs xs.toList [a] && (match ts.toList with
  | [t]=>ktIs P t .str
  | _=>false)
 | .call { callee:=.builtin .len,args:=xs,argTypes:=ts },.mapLen a=>okArgs vs xs.toList [a] && (match ts.toList with
  | [t]=>(match P.underlying t with
   | some (.map _ _)=>true
   | _=>false)
  | _=>false)
 | .call { callee:=.builtin .append,args:=xs,argTypes:=ts },.append sz bytes a b=>okArgs vs xs.toList [a,b] && okApp ts sz bytes
 | .call { callee:=.builtin .append,args:=xs,argTypes:=ts },.appendNil sz bytes b=>d && (match xs.toList with
  | [.const (.slice none 0 0),y]=>okArg vs y b
  | _=>false) && okApp ts sz bytes
 | .call { callee:=.builtin .max,args:=xs,.. },.minmax true as_=>okArgs vs xs.toList as_
 | .call { callee:=.builtin .min,args:=xs,.. },.minmax false as_=>okArgs vs xs.toList as_
 | .slice t x lo hi mx,.slice str sz lo' hi' mx' a=>okArg vs x a && okOpt vs lo lo' && okOpt vs hi hi' && okOpt vs mx mx' && (match P.underlying t with
  | some .string=>mx.isNone && str
  | some (.slice e)=>(mx.isNone || hi.isSome) && szIs P e sz && !str
  | _=>false)
 | .lookup t m k ok,.lookup ok' kt' zero a b=>okArg vs m a && okArg vs k b && ok == ok' && (match P.underlying t with
  | some (.map kt e)=>ktIs P kt kt' && (match P.info? e with
   | some i=>match i.zero with
    | some z=>okZeroPV z zero
    | none=>false
   | none=>false)
  | _=>false)
 | .mapUpdate t m k x,.mapUpdate kt' a b c=>okArg vs m a && okArg vs k b && okArg vs x c && (match P.underlying t with
  | some (.map kt _)=>ktIs P kt kt'
  | _=>false)
 | .makeMap _ none,.makeMap _=>d
 | .extract x i,.extract a j=>okArg vs x a && i == j
 | .convert s t x,.conv k a=>okArg vs x a && (match P.underlying s,P.underlying t with
  | some (.int _),some (.int k')=>k == k'
  | _,_=>false)
 | .convert s t x,.strBytes a=>d && okArg vs x a && (match P.underlying s,P.underlying t with
  | some .string,some (.slice e)=>(match P.underlying e with
   | some (.int .u8)=>true
   | _=>false)
  | _,_=>false)
 | .nilCheck x,.nilCheck a=>okArg vs x a
 | .makeFunc (.func f) first caps,.makeFunc g as_=>f == g && first.isEmpty && okArgs vs caps.toList as_
 | .call { callee:=.value (.func f),args:=xs,.. },.call g as_=>d && f == g && okArgs vs xs.toList as_ && hasBody P f
 | .call { callee:=.value x,args:=xs,.. },.callv a as_=>d && okArg vs x a && okArgs vs xs.toList as_
 | .buildSlice t len ps,.buildFz sz as_=>d && as_.length == len && decide (0 < sz) && decide (len * sz <= 16777216) && okParts vs 0 ps.toList as_ && (match P.underlying t with
  | some (.slice e)=>(match P.info? e with
   | some i=>i.size == sz && (match i.zero with
    | some z=>z.cells.size == sz
    | none=>false)
   | none=>false)
  | _=>false)
 | .call { callee:=.value (.func f),args:=xs,.. },.callW g as_=>d && f == g && okArgs vs xs.toList as_ && hasBody P f
 | .call { callee:=.value x,args:=xs,.. },.callvW a as_=>d && okArg vs x a && okArgs vs xs.toList as_
 | .makeSlice t x y,.make sz bytes zero a=>d && okArg vs x a && okArg vs y a && (match P.underlying t with
  | some (.slice e)=>(match P.info? e with
   | some i=>i.size == sz && i.bytes == bytes && zero.cells.length == sz && (match i.zero with
    | some z=>z.cells.size == sz && okZeroPV z zero
    | none=>false)
   | none=>false)
  | _=>false)
 | .call { callee:=.builtin .copy,args:=xs,argTypes:=ts },.copy sz a b=>okArgs vs xs.toList [a,b] && (match ts.toList with
  | [t,_]=>(match P.underlying t with
   | some (.slice e)=>szIs P e sz
   | _=>false)
  | _=>false)
 | .mapEntry t m k,.mapEntry kt' zero a b=>d && okArg vs m a && okArg vs k b && (match P.underlying t with
  | some (.map kt e)=>ktIs P kt kt' && (match P.info? e with
   | some i=>match i.zero with
    | some z=>okZeroPV z zero
    | none=>false
   | none=>false)
  | _=>false)
 | .entryStore _ m s x,.entryStore a b c=>okArg vs m a && okArg vs s b && okArg vs x c
 | .build t ps,.buildArr sz as_=>d && decide (0 < sz) && okParts vs 0 ps.toList as_ && (match P.underlying t,P.info? t with
  | some (.array len e),some i=>szIs P e sz && as_.length == len && (match i.zero with
   | some z=>z.cells.size == len * sz
   | none=>false)
  | _,_=>false)
 | .index t x i,.indexArr n sz agg a b=>okArg vs x a && okArg vs i b && (match P.underlying t with
  | some (.array len e)=>len == n && szIs P e sz && aggIs P e agg
  | _=>false)
 | .call { callee:=.value (.func f),args:=xs,.. },.callR g as_=>d && f == g && okArgs vs xs.toList as_ && hasBody P f
 | .convert s t x,.bytesStr a=>okArg vs x a && (match P.underlying s,P.underlying t with
  | some (.slice e),some .string=>(match P.underlying e with
   | some (.int .u8)=>true
   | _=>false)
  | _,_=>false)
 | .call { callee:=.builtin .clear,args:=xs,argTypes:=ts },.clear sz zero a=>okArgs vs xs.toList [a] && zero.cells.length == sz && (match ts.toList with
  | [t]=>(match P.underlying t with
   | some (.slice e)=>(match P.info? e with
    | some i=>i.size == sz && (match i.zero with
     | some z=>z.cells.size == sz && okZeroPV z zero
     | none=>false)
    | none=>false)
   | _=>false)
  | _=>false)
 | .indexAddr t x (.const (.int _ m)),.fieldAddr off a=>okArg vs x a && (match P.underlying t with
  | some (.array len e)=>decide (0 <= m) && decide (m < (len : Int)) && (match P.info? e with
   | some i=>off == m.toNat * i.size
   | none=>false)
  | _=>false)
 | .move x,.unlit a=>okArg vs x a
 | .buildSlice t len ps,.buildLit sz as_=>d && as_.length == len && decide (0 < sz) && decide (len * sz <= 16777216) && okParts vs 0 ps.toList as_ && (match P.underlying t with
  | some (.slice e)=>(match P.info? e with
   | some i=>i.size == sz && (match i.zero with
    | some z=>z.cells.size == sz
    | none=>false)
   | none=>false)
  | _=>false)
 | .call { callee:=.builtin .append,args:=xs,argTypes:=ts },.appendLit sz bytes a b=>d && okArgs vs xs.toList [a,b] && okApp ts sz bytes
 | .range t x,.range a=>d && okArg vs x a && (match P.underlying t with
  | some .string=>true
  | _=>false)
 | .next x true,.next a=>okArg vs x a
 | .buildSlice t len ps,.buildPtrs as_=>d && as_.length == len && decide (len <= 16777216) && okParts vs 0 ps.toList as_ && (match P.underlying t with
  | some (.slice e)=>(match P.info? e with
   | some i=>i.size == 1 && (match i.zero with
    | some z=>z.cells.size == 1
    | none=>false)
   | none=>false)
  | _=>false)
 | .call { callee:=.value (.func f),args:=xs,.. },.callA g as_=>d && f == g && okArgs vs xs.toList as_ && hasBody P f
 | .indexAddr t x i,.arrAddr n sz a b=>okArg vs x a && okArg vs i b && (match P.underlying t with
  | some (.array len e)=>len == n && (match P.info? e with
   | some inf=>sz == inf.size
   | none=>false)
  | _=>false)
 | _,_=>ty == ty && false
where
 okApp (ts : Array TypeId) (sz bytes : Nat) : Bool:=match ts.toList with
  | [t,t']=>t == t' && (match P.underlying t with
   | some (.slice e)=>(match P.info? e with
    | some i=>i.size == sz && i.bytes == bytes && decide (0 < sz) && (match i.zero with
     | some z=>z.cells.size == sz
     | none=>false)
    | none=>false)
   | _=>false)
  | _=>false
def okDst (vs : List Nat) (n : Nat) : Option Tmp -> VDst -> Bool
 | none,.none=>true
 | some t,.v s=>t == s && vs.contains s && decide (t < n)
 | some t,.t s=>t == s && !vs.contains s && decide (t < n)
 | _,_=>false
def okGuard (vs : List Nat) (ops : Array Oper) : Option (Nat × Bool) -> Option (VArg × Bool) -> Bool
 | none,none=>true
 | some (j,w),some (g,w')=>w == w' && (match (ops[j]?).bind (·.dst) with
  | some t=>okArg vs (.tmp t) g
  | none=>false)
 | _,_=>false
def okOper (P : Program) (vs : List Nat) (n : Nat) (ops : Array Oper) (o : Oper) (v : VOper) : Bool :=
 okDst vs n o.dst v.dst && okGuard vs ops o.guard v.guard && okOp P vs o.dst.isSome o.op o.type v.op
def okOpers (P : Program) (vs : List Nat) (n : Nat) (ops : Array Oper) : List Oper -> List VOper -> Bool
 | [],[]=>true
 | o :: os,v :: us=>okOper P vs n ops o v && okOpers P vs n ops os us
 | _,_=>false
def VOp.silent : VOp -> Bool
 | .move _ | .pick _ _ _ | .fieldAddr _ _ | .field _ _ _ | .bin _ _ _ | .eqAgg _ _ _ _ | .not _ | .neg _ | .len _ | .lenStr _ | .eqB _ _ _ | .extract _ _ | .minmax _ _ | .conv _ _ | .nilCheck _ | .makeFunc _ _ | .indexStr _ _ | .buildFz _ _ | .buildPtrs _ | .buildArr _ _ | .indexArr _ _ _ _ _ | .arrAddr _ _ _ _ | .unlit _ | .buildLit _ _=>true
 | _=>false
def VOp.reader : VOp -> Bool
 | .load _ _ | .lookup _ _ _ _ _ | .mapLen _ | .indexAddr _ _ _ | .callR _ _=>true
 | _=>false
def VArg.slot? : VArg -> List VDst
 | .v s=>[.v s]
 | .t s=>[.t s]
 | .c _=>[]
def VOper.reads (o : VOper) : List VDst:=o.op.args.flatMap VArg.slot? ++ (match o.guard with
 | some (g,_)=>g.slot?
 | none=>[])
def slotsApart (o o' : VOper) : Bool :=
 (o.dst == .none || (o.dst != o'.dst && !o'.reads.contains o.dst)) && (o'.dst == .none || !o.reads.contains o'.dst)
def okPairs (bs : Array Nat) (fp : List (Nat × Nat)) (us : List VOper) : Bool :=
 us.zipIdx.all fun (o',j)=>us.zipIdx.all fun (o,i)=>decide (j <= i) || (bs.getD j 0).testBit i ||
  (slotsApart o o' && (o.op.silent || o'.op.silent || (o.op.reader && o'.op.reader) || fp.contains (i,j)))
def okEdges (ops : Array Oper) : Bool:=ops.toList.zipIdx.all fun (o,j)=>o.after.all fun e=>!Region.binds .any e || decide (e.on < j)
def okRegion (P : Program) (vs : List Nat) (n : Nat) (ops : Array Oper) (draw : Bool) (r : VRegion) : Bool :=
 okOpers P vs n ops ops.toList r.ops && (!draw || (okEdges ops && okPairs (Region.before ops) r.fp r.ops))
def slotB : Id -> Bool
 | .slot _ _=>true
 | .arg _ _=>false
def okCode (P : Program) (vs : List Nat) (n : Nat) : Code -> VCode -> Bool
 | c,.mv a b c'=>decide (a ≠ b) && slotB a && slotB b && okCode P vs n c c'
 | _,.fail=>true
 | .skip,.skip=>true
 | .region _ ops draw,.region r=>okRegion P vs n ops draw r
 | .seq a b,.seq a' b'=>okCode P vs n a a' && okCode P vs n b b'
 | .cond c a b,.cond c' a' b'=>okArg vs c c' && okCode P vs n a a' && okCode P vs n b b'
 | .block i c,.block i' c'=>i == i' && okCode P vs n c c'
 | .loop c,.loop c'=>okCode P vs n c c'
 | .exit i,.exit i'=>i == i'
 | .ret,.ret=>true
 | .scope c,.scope c'=>okCode P vs n c c'
 | .label _,.skip=>true
 | _,_=>false
def okRet (P : Program) (vs : List Nat) : ResultVar -> VRet -> Bool
 | .tmp t,.tmp (.v s)=>t == s && vs.contains s
 | .cell a t,.cell (.v s) agg=>a == s && vs.contains s && aggIs P t agg
 | _,_=>false
def okRets (P : Program) (vs : List Nat) : List ResultVar -> List VRet -> Bool
 | [],[]=>true
 | r :: rs,v :: us=>okRet P vs r v && okRets P vs rs us
 | _,_=>false
def okFunc (P : Program) (f : FuncId) (vf : VFunc) : Bool :=
 match P.funcs[f]? with
 | some fn=>match fn.body with
  | some c => fn.name != "runtime.NumGoroutine" && okCode P vf.vs fn.ntmps c vf.body && okRets P vf.vs fn.results.toList vf.rets && decide (vf.nparams ≤ fn.ntmps)
  | none=>false
 | none=>false
end Go.V
