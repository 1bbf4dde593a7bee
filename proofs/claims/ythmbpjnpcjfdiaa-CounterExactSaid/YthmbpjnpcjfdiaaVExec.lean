/- The value machine V: regions, code, calls. Plain definitions. -/
import Derived.Test.YthmbpjnpcjfdiaaVDef
set_option linter.unusedSimpArgs false
set_option linter.unusedVariables false
namespace Go.V

structure RS where
  pe : Nat → VVal
  te : Nat → Option VVal
  h : VHeap

def RS.look (r : RS) : VArg → Option VVal
  | .v s => some (r.pe s)
  | .t s => r.te s
  | .c d => some (thaw d)

def updV (e : Nat → VVal) (s : Nat) (v : VVal) : Nat → VVal := fun t => if t = s then v else e t
def updT (e : Nat → Option VVal) (s : Nat) (v : VVal) : Nat → Option VVal := fun t => if t = s then some v else e t

def RS.put (r : RS) : VDst → VVal → RS
  | .v s, v => { r with pe := updV r.pe s v }
  | .t s, v => { r with te := updT r.te s v }
  | .none, _ => r

def VDst.slot : VDst → Nat
  | .v s | .t s => s
  | .none => 0

/-- One operation. -/
def stepO (Γ : Sig) (o : VOper) (r : RS) : Option RS :=
  match o.guard with
  | none => ob (evalOp Γ r.look r.h o.dst.slot o.op) fun q => some { r.put o.dst q.1 with h := r.h.upds q.2 }
  | some (g, want) => ob (r.look g) fun gv => match gv with
    | .p (.bool b) => br (b == want) (ob (evalOp Γ r.look r.h o.dst.slot o.op) fun q => some { r.put o.dst q.1 with h := r.h.upds q.2 })
      (some (r.put o.dst .undef))
    | .undef => some (r.put o.dst .undef)
    | _ => none

/-! ### footprints -/

def ids0 : VVal → List Id
  | .own id _ _ _ | .ptr id _ _ | .eptr id _ _ _ | .mref id _ => [id]
  | _ => []
def ids1 : VVal → List Id
  | .fn _ cs | .agg cs => cs.flatMap ids0
  | v => ids0 v

def VOp.args : VOp → List VArg
  | .move x | .box _ x | .load _ x | .fieldAddr _ x | .field _ _ x | .not x | .neg x | .len x | .lenStr x | .appendNil _ _ x | .mapLen x | .extract x _ | .conv _ x | .strBytes x | .nilCheck x | .make _ _ _ x => [x]
  | .newArr _ | .alloc _ | .makeMap _ => []
  | .pick c a b => [c, a, b]
  | .build cs => cs.filterMap fun | .a x _ _ => some x | .z _ => none
  | .buildSlice _ ps => ps
  | .buildFz _ ps => ps
  | .store _ a x | .indexAddr _ a x | .indexStr a x | .bin _ a x | .eqAgg _ _ a x | .eqB _ a x | .append _ _ a x | .lookup _ _ _ a x | .copy _ a x => [a, x]
  | .slice _ _ lo hi mx x => x :: (lo.toList ++ hi.toList ++ mx.toList)
  | .mapUpdate _ m k x => [m, k, x]
  | .minmax _ xs | .makeFunc _ xs | .call _ xs | .callW _ xs => xs
  | .callv x xs | .callvW x xs => x :: xs

def VOp.writes : VOp → Bool
  | .store _ _ _ | .append _ _ _ _ | .mapUpdate _ _ _ _ | .call _ _ | .callv _ _ | .callW _ _ | .callvW _ _ | .copy _ _ _ => true
  | _ => false

/-- The values that a call is handed. -/
def callArgs : VOp → List VVal → List VVal
  | .callv _ _, .fn _ caps :: vs => vs ++ caps
  | .callv _ _, _ :: vs => vs
  | .callvW _ _, .fn _ caps :: vs => vs ++ caps
  | .callvW _ _, _ :: vs => vs
  | _, vs => vs
/-- The objects that a call is handed. -/
def callRoots (h : VHeap) : VOp → List VVal → List Id
  | .callW _ _, vs | .callvW _ _, vs => rootsW h vs
  | _, vs => roots h vs

/-- What an operation may look at, and may write: the objects that its operands name, and those that a call is handed. -/
def touchF (look : VArg → Option VVal) (h : VHeap) (o : VOper) : List Id :=
  let vs := o.op.args.filterMap look
  vs.flatMap ids1 ++ (if o.op.writes then (callArgs o.op vs).flatMap ids1 ++ callRoots h o.op (callArgs o.op vs) else [])
def touch (r : RS) (o : VOper) : List Id := touchF r.look r.h o

def Id.at : Id → Nat → Bool
  | .slot s _, d => s == d
  | _, _ => false

/-- Two operations that do not meet in memory. -/
def apartFp (o o' : VOper) (t t' : List Id) : Bool :=
  (!o.op.writes || t.all fun i => !t'.contains i) && (!o'.op.writes || t'.all fun i => !t.contains i) &&
  t.all (fun i => !i.at o'.dst.slot) && t'.all (fun i => !i.at o.dst.slot) && o.dst.slot != o'.dst.slot

def runOps (Γ : Sig) : List VOper → RS → Option RS
  | [], r => some r
  | o :: os, r => ob (stepO Γ o r) fun r' => runOps Γ os r'

/-- The footprints of the operations before, the latest first. -/
def checkFp (fp : List (Nat × Nat)) (i : Nat) (o : VOper) (t : List Id) : List (Nat × VOper × List Id) → Bool
  | [] => true
  | (a, o', t') :: acc => if fp.contains (a, i) = true then apartFp o' o t' t && checkFp fp i o t acc else checkFp fp i o t acc

def fpL (fp : List (Nat × Nat)) (i : Nat) : Bool := fp.any fun p => p.1 == i
def fpR (fp : List (Nat × Nat)) (i : Nat) : Bool := fp.any fun p => p.2 == i
def noteFp (fp : List (Nat × Nat)) (i : Nat) (o : VOper) (r : RS) (acc : List (Nat × VOper × List Id)) : List (Nat × VOper × List Id) :=
  if fpL fp i = true then (i, o, touch r o) :: acc else acc

def runFp (Γ : Sig) (fp : List (Nat × Nat)) : Nat → List VOper → RS → List (Nat × VOper × List Id) → Option RS
  | _, [], r, _ => some r
  | i, o :: os, r, acc => if fpR fp i = true then gd (checkFp fp i o (touch r o) acc = true) <| ob (stepO Γ o r) fun r' => runFp Γ fp (i + 1) os r' (noteFp fp i o r acc)
      else ob (stepO Γ o r) fun r' => runFp Γ fp (i + 1) os r' (noteFp fp i o r acc)

/-! ### freezing -/

def fzId (fz : List Nat) : Id → Bool
  | .slot s _ => fz.contains s
  | .arg _ _ => false

def fz0 (fz : List Nat) (h : VHeap) : VVal → VVal
  | .own id ver off len => if fzId fz id then
      match velems h (.own id ver off len) with
      | some r => .p (.slice r.1 r.2)
      | none => .dead
    else .own id ver off len
  | v => v
def fz1 (fz : List Nat) (h : VHeap) : VVal → VVal
  | .agg cs => .agg (cs.map (fz0 fz h))
  | .tup vs => .tup (vs.map (fz0 fz h))
  | v => fz0 fz h v
def fzOb (fz : List Nat) (h : VHeap) (id : Id) : Option (Nat × Ob) :=
  match h id with
  | some (v, .arr sz xs) => if fzId fz id then some (v + 1, .gone) else some (v, .arr sz xs)
  | some (v, .box cs) => some (v, .box (cs.map (fz0 fz h)))
  | o => o

def freeze (fz : List Nat) (s : St) : St := if fz.isEmpty then s else { pe := fun t => fz1 fz s.h (s.pe t), h := fzOb fz s.h }

def execR (Γ : Sig) (r : VRegion) (s : St) : Option St :=
  ob (if r.fp.isEmpty then runOps Γ r.ops { pe := (freeze r.fz s).pe, te := fun _ => none, h := (freeze r.fz s).h }
      else runFp Γ r.fp 0 r.ops { pe := (freeze r.fz s).pe, te := fun _ => none, h := (freeze r.fz s).h } []) fun q => some { pe := q.pe, h := q.h }

/-! ### an array at another place -/

def mv0 (a b : Id) (va n : Nat) : VVal → VVal
  | .own id ver off len => if id = a ∧ ver = va then .own b n off len else .own id ver off len
  | .eptr id ver i off => if id = a ∧ ver = va then .eptr b n i off else .eptr id ver i off
  | v => v
def mv1 (a b : Id) (va n : Nat) : VVal → VVal
  | .agg cs => .agg (cs.map (mv0 a b va n))
  | .tup vs => .tup (vs.map (mv0 a b va n))
  | v => mv0 a b va n v
def mvOb (a b : Id) (va n sz : Nat) (xs : List PV) (h : VHeap) : VHeap := fun id => if id = b then some (n, .arr sz xs) else if id = a then some (va + 1, .gone) else
  match h id with
  | some (v, .box cs) => some (v, .box (cs.map (mv0 a b va n)))
  | o => o
/-- The array at 'a' is from now on the array at 'b'. Nothing happens in the program. -/
def moved (a b : Id) (s : St) : St := match s.h a with
  | some (va, .arr sz xs) => { pe := fun t => mv1 a b va (nv (s.h b)) (s.pe t), h := mvOb a b va (nv (s.h b)) sz xs s.h }
  | _ => s

/-! ### loops and code -/

def iterN (b : St → Option (VExit × St)) : Nat → St → Option (VExit × St)
  | 0, _ => none
  | n + 1, s => ob (b s) fun r => match r.1 with
    | .normal => iterN b n r.2
    | _ => some r

open Classical in
noncomputable def iter (b : St → Option (VExit × St)) (s : St) : Option (VExit × St) :=
  if h : ∃ n r, iterN b n s = some r then some (Classical.choose (Classical.choose_spec h)) else none

noncomputable def exec (Γ : Sig) : VCode → St → Option (VExit × St)
  | .skip, s => some (.normal, s)
  | .region r, s => ob (execR Γ r s) fun s' => some (.normal, s')
  | .seq a b, s => ob (exec Γ a s) fun r => match r.1 with
    | .normal => exec Γ b r.2
    | _ => some r
  | .cond c a b, s => match c with
    | .v t => match s.pe t with
      | .p (.bool c) => br c (exec Γ a s) (exec Γ b s)
      | _ => none
    | _ => none
  | .block id c, s => ob (exec Γ c s) fun r => if r.1 = .exit id then some (.normal, r.2) else some r
  | .loop c, s => iter (exec Γ c) s
  | .exit id, s => some (.exit id, s)
  | .ret, s => some (.ret, s)
  | .mv a b c, s => exec Γ c (moved a b s)

/-! ### functions -/

def enterE (args : List VVal) : Nat → VVal := fun s => args.getD s .undef
def enterH (H : List Ob) : VHeap := fun id => match id with
  | .arg i 0 => (H[i]?).map fun o => (0, o)
  | _ => none

def fetch (s : St) : VRet → Option VVal
  | .tmp (.v t) => some (s.pe t)
  | .cell (.v t) agg => vload s.h agg (s.pe t)
  | _ => none

/-- A result's leaf as the caller sees it. -/
def out0 (h : VHeap) : VVal → Option VVal
  | .p d => some (.p d)
  | .own (.slot s j) ver off len => ob (velems h (.own (.slot s j) ver off len)) fun r => gd (off = 0) (some (.fresh r.1 r.2))
  | .mref (.slot s j) ver => ob (ventries h (.mref (.slot s j) ver)) fun r => some (.p (.map r.1 r.2.1 r.2.2))
  | .ptr (.arg i 0) ver off => gd (ver = 0) (some (.ptr (.arg i 0) 0 off))
  | .fn f [] => some (.p (.fn f))
  | _ => none
def out1 (h : VHeap) : VVal → Option VVal
  | .agg cs => ob (mapO (out0 h) cs) fun cs => some (.agg cs)
  | .ptr (.slot s j) ver 0 => match h (.slot s j) with
    | some (v, .box cs) => gd (v = ver) (ob (mapO (out0 h) cs) fun cs => some (.boxed cs))
    | _ => none
  | v => out0 h v
def outIds1 : VVal → List Id
  | .agg cs => cs.flatMap ids0
  | v => ids0 v

def nodupB : List Id → Bool
  | [] => true
  | i :: is => !is.contains i && nodupB is

/-- The arrays that the results hand over: each once. -/
def ownIds0 : VVal → List Id
  | .own id _ _ _ => [id]
  | _ => []
def ownIds1 (h : VHeap) : VVal → List Id
  | .agg cs => cs.flatMap ownIds0
  | .ptr id _ _ => match h id with
    | some (_, .box cs) => id :: cs.flatMap ownIds0
    | _ => [id]
  | v => ownIds0 v

def outsT (h : VHeap) : List VVal → Option VVal
  | [v] => out1 h v
  | vs => ob (mapO (out1 h) vs) fun vs => some (.tup vs)
/-- The arrays that lie in the caller's boxes and are new. -/
def newIds0 : VVal → List Id
  | .own (.slot s j) _ _ _ => [.slot s j]
  | _ => []
def argOwns (h : VHeap) : Nat → Nat → List Id
  | _, 0 => []
  | i, n + 1 => (match h (.arg i 0) with
    | some (_, .box cs) => cs.flatMap newIds0
    | _ => []) ++ argOwns h (i + 1) n
def outs (h : VHeap) (n : Nat) (vs : List VVal) : Option VVal := gd (nodupB (vs.flatMap (ownIds1 h) ++ argOwns h 0 n) = true) (outsT h vs)

/-- The objects of the caller, behind the call. -/
def outArg1 (h : VHeap) : VVal → Option VVal
  | .p d => some (.p d)
  | .ptr (.arg i 0) ver off => gd (ver = 0) (some (.ptr (.arg i 0) 0 off))
  | .own (.arg i 0) ver off len => gd (alive h (.arg i 0) ver = true) (some (.own (.arg i 0) (if ver = 0 then 0 else 1) off len))
  | .own (.slot s j) ver off len => ob (velems h (.own (.slot s j) ver off len)) fun r => gd (off = 0) (some (.fresh r.1 r.2))
  | .mref (.arg i 0) ver => gd (ver = 0) (some (.mref (.arg i 0) 0))
  | _ => none
def outArg (h : VHeap) : VVal → Option VVal
  | .fn f caps => ob (mapO (outArg1 h) caps) fun cs => some (.fn f cs)
  | v => outArg1 h v
def outBox (h : VHeap) (i : Nat) : Option Ob :=
  match h (.arg i 0) with
  | some (v, .box cs) => gd (v = 0) (ob (mapO (outArg h) cs) fun cs => some (.box cs))
  | some (v, .arr sz xs) => some (if v = 0 then .arr sz xs else .box [.undef, .fresh sz xs])
  | some (v, .map kt ks vs) => gd (v = 0) (some (.map kt ks vs))
  | _ => none

def outH (h : VHeap) : Nat → Nat → Option (List Ob)
  | _, 0 => some []
  | i, n + 1 => ob (outBox h i) fun o => ob (outH h (i + 1) n) fun os => some (o :: os)

/-- A function's end. -/
def leave (rets : List VRet) (n : Nat) (r : VExit × St) : Option (VVal × List Ob) :=
  match r.1 with
  | .exit _ => none
  | _ => ob (mapO (fetch r.2) rets) fun vs => ob (outs r.2.h n vs) fun v => ob (outH r.2.h 0 n) fun H' => some (v, H')

noncomputable def callF (Γ : Sig) (vf : VFunc) (args : List VVal) (H : List Ob) : Option (VVal × List Ob) :=
  gd (args.length = vf.nparams) <|
    ob (exec Γ vf.body { pe := enterE args, h := enterH H }) fun r => leave vf.rets H.length r

noncomputable def callN (prog : FuncId → Option VFunc) (X : Sig) : Nat → Sig
  | 0 => X
  | n + 1 => fun f args H => match X f args H with
    | some r => some r
    | none => match prog f with
      | some vf => callF (callN prog X n) vf args H
      | none => none

open Classical in
noncomputable def vcall (prog : FuncId → Option VFunc) (X : Sig) : Sig := fun f args H =>
  if h : ∃ n r, callN prog X n f args H = some r then some (Classical.choose (Classical.choose_spec h)) else none

end Go.V

