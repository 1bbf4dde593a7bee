/- Part 2 of the proof. -/
import Derived.Test.YtekkdllchjmhdaaGreatF1
import Derived.Attr
set_option linter.unusedSectionVars false
set_option linter.unusedSimpArgs false
set_option linter.unusedVariables false
set_option maxHeartbeats 32000000
open Nat renaming reduceAdd → rA, reduceSub → rS, reduceEqDiff → rE, reduceLeDiff → rL, le_refl → lrf
open List renaming getElem?_eq_getElem → lgg, getElem?_eq_some_iff → lgs, mem_of_getElem? → lmg, drop_eq_getElem_cons → ldg, mem_cons_of_mem → lmc, map_cons → lpc, drop_of_length_le → ldl, nil_append → lna, append_assoc → laa, append_nil → lan, mem_map → lmm, mem_cons_self → lms, map_append → lma, take_of_length_le → ltl, getElem?_of_mem → lgm, length_cons → llc, length_append → lla, flatMap_cons → lfc, mem_cons → lmk, map_nil → lpn, length_nil → lln, mem_append → lmp, length_map → llm, getElem_mem → lgk, length_take → llt, pairwise_cons → lpw, cons_append → lca, filter_cons → lfl
open Option renaming some.injEq → osi
open Bool renaming and_eq_true → bat, false_and → bfa, false_eq_true → bft, true_and → bta, not_false → bnf, and_self → bas, or_eq_true → bot, and_true → bau
open Prod renaming mk.injEq → pmi
namespace Go.V
def wp {α:Type} (x:Option α) (Q:α->Prop) (_u:Tok Q:=⟨⟩):Prop:=∃ a,x=some a/\Q a
section
variable {α β:Type}
theorem Ah (a:α) (f:α->Option β) (u:Tok f):ob (some a) f u=f a:=rfl
theorem At (f:α->Option β) (u:Tok f):ob none f u=none:=rfl
theorem Ic {c:Prop} [Decidable c] (x:Option α) (u:Tok x) (h:c):gd c x u=x:=by simp [gd,h]
theorem zbR (x:Option α) (i:Decidable True) (u:Tok x):@gd α True i x u=x:=by simp [gd]
theorem EU (x y:α) (u:Tok x) (v:Tok y):br true x y u v=x:=rfl
theorem ES (x y:α) (u:Tok x) (v:Tok y):br false x y u v=y:=rfl
theorem zaX (a:α) (Q:α->Prop) (u:Tok Q):wp (some a) Q u=Q a:=by simp [wp]
theorem zcI (x:Option α) (f:α->Option β) (Q:β->Prop) (u:Tok f) (v:Tok Q):wp (ob x f u) Q v=wp x fun a=>wp (f a) Q:=by
 cases x<;>simp [wp,ob]
theorem Rk {b:Bool} {x y:Option α} {Q:α->Prop} {u:Tok x} {v:Tok y} {t:Tok Q} (h1:b=true->wp x Q) (h2:b=false->wp y Q):wp (br b x y u v) Q t:=by
 cases b
 .exact h2 rfl
 .exact h1 rfl
theorem zaY {x:Option α} {Q Q':α->Prop} (h:wp x Q) (hq:∀ a,Q a->Q' a):wp x Q':=by
 obtain ⟨a,ha,q⟩:=h
 exact ⟨a,ha,hq a q⟩
theorem zaw {x:Option α} {a:α} (h:wp x (·=a)):x=some a:=by
 obtain ⟨b,hb,rfl⟩:=h
 exact hb
end
theorem OD {b:St->Option (VExit × St)}:∀ {n m:Nat} {s:St} {r:VExit × St},n<=m->A6 b n s=some r->A6 b m s=some r:=by
 intro n
 induction n with
 | zero=>intro m s r _ h;simp [A6] at h
 | succ n ih =>
  intro m s r hm h
  obtain ⟨m,rfl⟩:∃ k,m=k+1:=⟨m - 1,by omega⟩
  simp only [A6] at h ⊢
  cases hb:b s with
  | none=>simp [hb,ob] at h
  | some q =>
   obtain ⟨e,s'⟩:=q
   simp only [hb,ob] at h ⊢
   cases e with
   | normal=>exact ih (by omega) h
   | exit _=>exact h
   | ret=>exact h
theorem Ju {b:St->Option (VExit × St)} {n:Nat} {s:St} {r:VExit × St} (h:A6 b n s=some r):iter b s=some r:=by
 unfold iter
 have hex:∃ n r,A6 b n s=some r:=⟨n,r,h⟩
 rw [dif_pos hex]
 have h':=Classical.choose_spec (Classical.choose_spec hex)
 have h1:=OD (Nat.le_max_left n (Classical.choose hex)) h
 have h2:=OD (Nat.le_max_right n (Classical.choose hex)) h'
 rw [h1] at h2
 exact h2.symm
noncomputable def JQ (r:VExit × St) (k:St->Option (VExit × St)):Option (VExit × St):=match r.1 with
 | .normal=>k r.2
 | _=>some r
theorem Ht (s:St) (k:St->Option (VExit × St)):JQ (.normal,s) k=k s:=rfl
theorem N9 (i:Nat) (s:St) (k:St->Option (VExit × St)):JQ (.exit i,s) k=some (.exit i,s):=rfl
theorem OX (s:St) (k:St->Option (VExit × St)):JQ (.ret,s) k=some (.ret,s):=rfl
def inB (id:Nat) (r:VExit × St):Option (VExit × St):=if r.1=.exit id then some (.normal,r.2) else some r
theorem OH (id:Nat) (s:St):inB id (.normal,s)=some (.normal,s):=by simp [inB]
theorem Q0 (id:Nat) (s:St):inB id (.ret,s)=some (.ret,s):=by simp [inB]
theorem Qp (id i:Nat) (s:St):inB id (.exit i,s)=if i=id then some (.normal,s) else some (.exit i,s):=by simp [inB]
section
variable (Γ:Sig) (s:St)
theorem HI:Ay Γ .skip s=some (.normal,s):=by simp [Ay]
theorem Hz (r:VRegion):Ay Γ (.region r) s=ob (Cc Γ r s) fun s'=>some (.normal,s'):=by simp [Ay]
theorem FQ (a b:VCode):Ay Γ (.seq a b) s=ob (Ay Γ a s) fun r=>JQ r (Ay Γ b):=by
 simp only [Ay]
 rfl
theorem GJ (t:Nat) (a b:VCode):Ay Γ (.cond (.v t) a b) s=match s.pe t with
  | .p (.bool c)=>br c (Ay Γ a s) (Ay Γ b s)
  | _=>none:=by
 simp only [Ay]
 rfl
theorem HF (id:Nat) (c:VCode):Ay Γ (.block id c) s=ob (Ay Γ c s) (inB id):=by
 simp only [Ay]
 rfl
theorem HJ (c:VCode):Ay Γ (.loop c) s=iter (Ay Γ c) s:=by simp only [Ay]
theorem I8 (id:Nat):Ay Γ (.exit id) s=some (.exit id,s):=by simp only [Ay]
theorem Jn:Ay Γ .ret s=some (.ret,s):=by simp only [Ay]
theorem HE (c:VCode):Ay Γ (.scope c) s=Ay Γ c s:=by simp only [Ay]
theorem I7:Ay Γ .fail s=none:=by simp only [Ay]
theorem H7 (a b:Id) (c:VCode):Ay Γ (.mv a b c) s=Ay Γ c (Fv a b s):=by simp only [Ay]
end
theorem WA (Γ:Sig) (ops:List VOper) (s:St):Cc Γ ⟨ops,[],[]⟩ s=ob (Dh Γ ops { pe:=s.pe,te:=fun _=>none,h:=s.h }) fun q=>some { pe:=q.pe,h:=q.h }:=by
 simp [Cc,Dr]
theorem W3 (Γ:Sig) (r:RS):Dh Γ [] r=some r:=rfl
theorem IF (Γ:Sig) (o:VOper) (os:List VOper) (r:RS):Dh Γ (o::os) r=ob (BW Γ o r) fun r'=>Dh Γ os r':=rfl
section
variable (Γ:Sig) (d:VDst) (op:VOp) (pe:Nat->VVal) (te:Nat->Option VVal) (h:VHeap)
theorem za8 (s:Nat):BW Γ ⟨.v s,op,none⟩ ⟨pe,te,h⟩=ob (Ai Γ (RS.look ⟨pe,te,h⟩) h s op) fun q=>some ⟨D6 pe s q.1,te,h.upds q.2⟩:=rfl
theorem za9 (s:Nat):BW Γ ⟨.t s,op,none⟩ ⟨pe,te,h⟩=ob (Ai Γ (RS.look ⟨pe,te,h⟩) h s op) fun q=>some ⟨pe,E0 te s q.1,h.upds q.2⟩:=rfl
theorem zba:BW Γ ⟨.none,op,none⟩ ⟨pe,te,h⟩=ob (Ai Γ (RS.look ⟨pe,te,h⟩) h 0 op) fun q=>some ⟨pe,te,h.upds q.2⟩:=rfl
theorem Zl (s:Nat) (g:VArg) (want:Bool):BW Γ ⟨.v s,op,some (g,want)⟩ ⟨pe,te,h⟩=ob (RS.look ⟨pe,te,h⟩ g) fun gv=>match gv with
  | .p (.bool b)=>br (b == want) (ob (Ai Γ (RS.look ⟨pe,te,h⟩) h s op) fun q=>some ⟨D6 pe s q.1,te,h.upds q.2⟩) (some ⟨D6 pe s .undef,te,h⟩)
  | .undef=>some ⟨D6 pe s .undef,te,h⟩
  | _=>none:=rfl
theorem Zm (s:Nat) (g:VArg) (want:Bool):BW Γ ⟨.t s,op,some (g,want)⟩ ⟨pe,te,h⟩=ob (RS.look ⟨pe,te,h⟩ g) fun gv=>match gv with
  | .p (.bool b)=>br (b == want) (ob (Ai Γ (RS.look ⟨pe,te,h⟩) h s op) fun q=>some ⟨pe,E0 te s q.1,h.upds q.2⟩) (some ⟨pe,E0 te s .undef,h⟩)
  | .undef=>some ⟨pe,E0 te s .undef,h⟩
  | _=>none:=rfl
theorem zcp (s:Nat):RS.look ⟨pe,te,h⟩ (.v s)=some (pe s):=rfl
theorem zcq (s:Nat):RS.look ⟨pe,te,h⟩ (.t s)=te s:=rfl
theorem zcr (d:PV):RS.look ⟨pe,te,h⟩ (.c d)=some (CU d):=rfl
theorem za1 (s t:Nat) (v:VVal):D6 pe s v t=if t=s then v else pe t:=rfl
theorem za2 (s t:Nat) (v:VVal):E0 te s v t=if t=s then some v else te t:=rfl
theorem Zd:h.upds []=h:=rfl
theorem KV (id:Id) (o:Nat × Ob) (us:List (Id × Nat × Ob)):h.upds ((id,o)::us)=(h.upd id o).upds us:=rfl
theorem zce (id i:Id) (o:Nat × Ob):h.upd id o i=if i=id then some o else h i:=rfl
end
theorem En {n:Int} (h1:-9223372036854775808<=n) (h2:n<=9223372036854775807):IntKind.i64.wrap n=n:=by
 simp [IntKind.wrap,IntKind.bits,IntKind.signed]
 omega
section
variable (Γ:Sig) (look:VArg->Option VVal) (h:VHeap) (d:Nat)
theorem WC (x:VArg):Ai Γ look h d (.move x)=ob (look x) fun v=>some (v,[]):=rfl
theorem Vh (sz:Nat):Ai Γ look h d (.newArr sz)=some (.own (.slot d 0) (nv (h (.slot d 0))) 0 0,[(.slot d 0,nv (h (.slot d 0)),.arr sz [])]):=rfl
theorem WB (c:VArg) (a:VArg) (b:VArg):Ai Γ look h d (.pick c a b)=ob (look c) fun v=>match v with
  | .p (.bool t)=>br t (ob (look a) fun v=>some (v,[])) (ob (look b) fun v=>some (v,[]))
  | _=>none:=rfl
theorem V0 (zero:List ZC):Ai Γ look h d (.alloc zero)=some (.ptr (.slot d 0) (nv (h.upds (zcells d h 0 zero).2 (.slot d 0))) 0,(zcells d h 0 zero).2++[(.slot d 0,nv (h.upds (zcells d h 0 zero).2 (.slot d 0)),.box (zcells d h 0 zero).1)]):=rfl
theorem XD (n:Nat) (x:VArg):Ai Γ look h d (.box n x)=ob (look x) fun v=>gd ((AF v).length=n) <| gd ((AF v).all Et=true) (some (.ptr (.slot d 0) (nv (h (.slot d 0))) 0,[(.slot d 0,nv (h (.slot d 0)),.box (AF v))])):=rfl
theorem VZ (cells:List BC):Ai Γ look h d (.build cells)=ob (BV look d h 0 cells) fun r=>some (.agg r.1,r.2):=rfl
theorem T9 (sz:Nat) (parts:List VArg):Ai Γ look h d (.buildSlice sz parts)=ob (Ad (fun x=>ob (look x) fun v=>BF v) parts) fun xs =>
   gd (xs.all (fun x=>decide (x.cells.length=sz))=true) (some (.own (.slot d 0) (nv (h (.slot d 0))) 0 parts.length,[(.slot d 0,nv (h (.slot d 0)),.arr sz xs)])):=rfl
theorem Ud (parts:List VArg):Ai Γ look h d (.buildPtrs parts)=ob (Ad look parts) fun vs=>gd (vs.all Hk=true) (some (.plist vs,[])):=rfl
theorem UY (sz:Nat) (parts:List VArg):Ai Γ look h d (.buildFz sz parts)=ob (Ad (fun x=>ob (look x) fun v=>BF v) parts) fun xs =>
   gd (xs.all (fun x=>decide (x.cells.length=sz))=true) (some (.p (.slice sz xs),[])):=rfl
theorem WD (agg:Option Nat) (a:VArg):Ai Γ look h d (.load agg a)=ob (look a) fun p=>ob (F9 h agg p) fun v=>some (v,[]):=rfl
theorem VS (n:Nat) (a:VArg) (x:VArg):Ai Γ look h d (.store n a x)=ob (look a) fun p=>ob (look x) fun v=>ob (DX h n p v) fun us=>some (.undef,us):=rfl
theorem Uc (off:Nat) (x:VArg):Ai Γ look h d (.fieldAddr off x)=ob (look x) fun v=>match v with
  | .ptr id ver o=>some (.ptr id ver (o+off),[])
  | .vptr cs o=>some (.vptr cs (o+off),[])
  | .eptr id ver i o=>some (.eptr id ver i (o+off),[])
  | _=>none:=rfl
theorem VW (off:Nat) (agg:Option Nat) (x:VArg):Ai Γ look h d (.field off agg x)=ob (look x) fun v=>match v with
  | .agg cs=>ob (CZ agg cs off) fun r=>some (r,[])
  | _=>none:=rfl
theorem Ub (sz:Nat) (x:VArg) (i:VArg):Ai Γ look h d (.indexAddr sz x i)=ob (look x) fun s=>ob (look i) fun n=>match n with
  | .p (.int _ n)=>ob (Ib h sz s n) fun r=>some (r,[])
  | _=>none:=rfl
theorem Um (x:VArg) (i:VArg):Ai Γ look h d (.indexStr x i)=ob (look x) fun s=>ob (look i) fun n=>match s,n with
  | .p (.str s),.p (.int _ n)=>gd (0<=n) (ob s[n.toNat]? fun b=>some (.p (.int .u8 b.toNat),[]))
  | _,_=>none:=rfl
theorem XE (op:BinOp) (x:VArg) (y:VArg):Ai Γ look h d (.bin op x y)=ob (look x) fun a=>ob (look y) fun b=>ob (JX op a b) fun r=>some (r,[]):=rfl
theorem VX (neg:Bool) (kts:List KT) (x:VArg) (y:VArg):Ai Γ look h d (.eqAgg neg kts x y)=ob (look x) fun a=>ob (look y) fun b=>match a,b with
  | .agg a,.agg b=>ob (Ad unP a) fun xs=>ob (Ad unP b) fun ys=>ob (Dt kts xs ys) fun r=>some (.p (.bool (if neg then !r else r)),[])
  | _,_=>none:=rfl
theorem XA (x:VArg):Ai Γ look h d (.not x)=ob (look x) fun v=>match v with
  | .p (.bool b)=>some (.p (.bool (!b)),[])
  | _=>none:=rfl
theorem XB (x:VArg):Ai Γ look h d (.len x)=ob (look x) fun v=>ob (D5 v) fun n=>some (.p (.int .i64 n),[]):=rfl
theorem Vk (x:VArg):Ai Γ look h d (.lenStr x)=ob (look x) fun v=>ob (Ga v) fun n=>some (.p (.int .i64 n),[]):=rfl
theorem XC (neg:Bool) (x:VArg) (y:VArg):Ai Γ look h d (.eqB neg x y)=ob (look x) fun a=>ob (look y) fun b=>match a,b with
  | .p (.bool a),.p (.bool b)=>some (.p (.bool (if neg then !(a == b) else a == b)),[])
  | _,_=>none:=rfl
theorem Vl (sz:Nat) (bytes:Nat) (s:VArg) (x:VArg):Ai Γ look h d (.append sz bytes s x)=ob (look s) fun a=>ob (look x) fun b=>Ej h sz bytes a b:=rfl
theorem Ue (sz:Nat) (bytes:Nat) (x:VArg):Ai Γ look h d (.appendNil sz bytes x)=ob (look x) fun b=>Gy d h sz bytes b:=rfl
theorem VU (str:Bool) (sz:Nat) (lo:Option VArg) (hi:Option VArg) (mx:Option VArg) (x:VArg):Ai Γ look h d (.slice str sz lo hi mx x)=ob (look x) fun s=>br str (Fh look lo hi s) (DY d h look sz lo hi mx s):=rfl
theorem Vj (ok:Bool) (kt:KT) (zero:PV) (m:VArg) (k:VArg):Ai Γ look h d (.lookup ok kt zero m k)=ob (look m) fun m=>ob (look k) fun k=>ob (CC h m) fun es=>gd (es.1=kt \/ es.2.1=[]) <| ob (EB kt k) fun k=>some (Ei ok zero es.2.1 es.2.2 k,[]):=rfl
theorem Ua (kt:KT) (m:VArg) (k:VArg) (x:VArg):Ai Γ look h d (.mapUpdate kt m k x)=ob (look m) fun m=>ob (look k) fun k=>ob (look x) fun x=>ob (EB kt k) fun k=>ob (BF x) fun x=>match m with
  | .mref id ver=>match h id with
   | some (v,.map kt' ks vs)=>gd (v=ver) <| gd (kt'=kt) (some (.undef,[(id,v,.map kt (Au ks vs k x).1 (Au ks vs k x).2)]))
   | _=>none
  | _=>none:=rfl
theorem UW (kt:KT):Ai Γ look h d (.makeMap kt)=some (.mref (.slot d 0) (nv (h (.slot d 0))),[(.slot d 0,nv (h (.slot d 0)),.map kt [] [])]):=rfl
theorem UX (x:VArg) (i:Nat):Ai Γ look h d (.extract x i)=ob (look x) fun v=>match v with
  | .tup vs=>ob vs[i]? fun v=>some (v,[])
  | _=>none:=rfl
theorem Vi (isMax:Bool) (xs:List VArg):Ai Γ look h d (.minmax isMax xs)=ob (Ad look xs) fun vs=>ob (H5 isMax vs) fun r=>some (r,[]):=rfl
theorem Ui (x:VArg):Ai Γ look h d (.strBytes x)=ob (look x) fun v=>match v with
  | .p (.str s)=>some (.p (.slice 1 (s.data.toList.map fun b=>.int .u8 b.toNat)),[])
  | _=>none:=rfl
theorem Uk (x:VArg):Ai Γ look h d (.nilCheck x)=ob (look x) fun v=>match v with
  | .ptr id ver off=>some (.ptr id ver off,[])
  | .vptr cs off=>some (.vptr cs off,[])
  | .eptr id ver i off=>some (.eptr id ver i off,[])
  | .fn f caps=>some (.fn f caps,[])
  | _=>none:=rfl
theorem Ul (f:FuncId) (caps:List VArg):Ai Γ look h d (.makeFunc f caps)=ob (Ad look caps) fun cs=>some (.fn f cs,[]):=rfl
theorem II (f:FuncId) (args:List VArg):Ai Γ look h d (.call f args)=ob (Ad look args) fun vs=>CO Γ h d f vs:=rfl
theorem Gq (x:VArg) (args:List VArg):Ai Γ look h d (.callv x args)=ob (look x) fun g=>ob (Ad look args) fun vs=>match g with
  | .fn f caps=>CO Γ h d f (vs++caps)
  | .p (.fn f)=>CO Γ h d f vs
  | .p (.clo f cs)=>CO Γ h d f (vs++Em cs)
  | _=>none:=rfl
theorem Uj (sz i k:Nat) (a:VArg):Ai Γ look h d (.storeNil sz i k a)=ob (look a) fun p=>match h (.slot i k) with
  | some (v,.arr sz' [])=>gd (sz'=sz) <| ob (DX h 1 p (.own (.slot i k) v 0 0)) fun us=>some (.undef,us)
  | _=>none:=rfl
theorem IA (f:FuncId) (args:List VArg):Ai Γ look h d (.callA f args)=ob (Ad look args) fun vs=>ob (Bv Γ h d f vs) fun q=>gd (CE h (oldU d q.2)=true) (some (q.1,E1 d q.2)):=rfl
theorem Iz (f:FuncId) (args:List VArg):Ai Γ look h d (.callR f args)=ob (Ad look args) fun vs=>ob (Bv Γ h d f vs) fun q=>gd (CE h q.2=true) (some (q.1,[])):=rfl
theorem Iy (f:FuncId) (args:List VArg):Ai Γ look h d (.callW f args)=ob (Ad look args) fun vs=>Bv Γ h d f vs:=rfl
theorem Gm (x:VArg) (args:List VArg):Ai Γ look h d (.callvW x args)=ob (look x) fun g=>ob (Ad look args) fun vs=>match g with
  | .fn f caps=>Bv Γ h d f (vs++caps)
  | .p (.fn f)=>Bv Γ h d f vs
  | .p (.clo f cs)=>Bv Γ h d f (vs++Em cs)
  | _=>none:=rfl
theorem VY (sz:Nat) (zero:PV) (a:VArg):Ai Γ look h d (.clear sz zero a)=ob (look a) fun a=>G4 h sz zero a:=rfl
theorem Uo (sz:Nat) (parts:List VArg):Ai Γ look h d (.buildArr sz parts)=ob (Ad (fun x=>ob (look x) fun v=>BF v) parts) fun xs=>gd (xs.all (fun x=>decide (x.cells.length=sz))=true) (some (.agg ((xs.flatMap PV.cells).map .p),[])):=rfl
theorem Un (n sz:Nat) (agg:Option Nat) (x i:VArg):Ai Γ look h d (.indexArr n sz agg x i)=ob (look x) fun v=>ob (look i) fun i=>match v,i with
  | .agg cs,.p (.int _ k)=>gd (0<=k) <| gd (k<n) <| ob (CZ agg cs (k.toNat*sz)) fun r=>some (r,[])
  | _,_=>none:=rfl
end
attribute [go_sem] VY G4 I7
attribute [go_sem] Uj IA E1 oldU Iz WZ Kt Iy Gm Bv Dd Dq Dw Cz rootsW G7 JA FP Cw By DG BL Ce inC DH CG LE callRoots
attribute [go_sem] Uo Un WC Vh WB V0 XD VZ T9 Ud Hk UY WD VS Uc VW Ub Um XE VX XA XB Vk XC Vl Ue VU Vj Ua UW UX Vi Ui Uk Ul II Gq
attribute [go_sem] Ah At zbR EU ES zaX zcI Ht N9 OX OH Q0 Qp HI Hz FQ GJ HF HJ I8 Jn HE H7 Fv Cd WA W3 IF za8 za9 zba Zl Zm zcp zcq zcr za1 za2 Zd KV zce
attribute [go_sem] CU F9 FA CZ AF BF unP Ad A0 D5 Ga AB DX DR setCells Ib Ef zcell zcells BV JX J8 MA JC J6 eq0 Dt mm2 mmL H5 EB CC Ei Ej Gy Ii Cj DY Du Hh DJ Fo JI Fh nv PV.cells
attribute [go_sem] BX Hd As EZ Ar G8 BB Ez D2 DZ EP capIds1 capIds0 ET De Ck CS LO Df AQ AU Eo Bf Em
theorem Pm (rets:List VRet) (n:Nat) (s:St):JT rets n (.ret,s)=ob (Ad (EZ s) rets) fun vs=>ob (Ck s.h n vs) fun v=>ob (Bf s.h 0 n) fun H'=>some (v,H'):=rfl
theorem Ng (rets:List VRet) (n:Nat) (s:St):JT rets n (.normal,s)=ob (Ad (EZ s) rets) fun vs=>ob (Ck s.h n vs) fun v=>ob (Bf s.h 0 n) fun H'=>some (v,H'):=rfl
attribute [go_sem] Pm Ng
attribute [go_sem] oT oV oZ oM oN oL oF oK rg cI cF cT oJ oP oA oQ oC oE oS oI oO oB oR oY oX oU bT bI nT lT kT cC cW ldV fT tT fM tM fL tL fF tF sT vO vB cZ zZ zN aT rs cE cS sq mF
attribute [go_sem] if_true if_false List.getD_cons_zero List.getD_cons_succ List.getD_nil llc lln Id.slot.injEq Id.arg.injEq false_and and_false and_true true_and and_self or_true true_or or_false false_or Nat.add_zero Nat.zero_add List.getElem?_cons_zero List.getElem?_cons_succ List.getElem?_nil llm List.getElem?_map Option.map_some Option.map_none Int.toNat_natCast decide_true decide_false decide_eq_true_eq Bool.not_true bnf beq_self_eq_true List.all_cons List.all_nil bau bta List.drop_zero List.drop_succ_cons List.take_succ_cons List.take_zero List.drop_nil List.take_nil lna lan lca lpc lpn lfc List.flatMap_nil List.contains_nil List.isEmpty_nil List.isEmpty_cons List.filterMap_cons List.filterMap_nil lla llt lrf Nat.zero_le Nat.min_self eq_self Ic Int.natCast_nonneg Int.ofNat_lt Int.ofNat_le CO Dg roots B9 Hi JR FX B3 Bj C0 BG BN D3 Hb Js DB Ci Jv Fw PV.flat PV.flat0 Da D4 CH C4 in1 in0 inL inT Er List.any_cons List.any_nil Bool.or_false Bool.false_or Bool.or_true Bool.true_or bft beq_iff_eq
attribute [go_sem] En
theorem Aj {b:St->Option (VExit × St)} {Q:VExit × St->Prop} (n:Nat) (J:Nat->St->Prop) {s:St} (h0:J 0 s)
  (hstep:∀ i s,i<=n->J i s->wp (b s) fun r=>match r.1 with
   | .normal=>i<n/\J (i+1) r.2
   | _=>Q r):wp (iter b s) Q:=by
 have key:∀ k i s,i+k=n->J i s->∃ m r,A6 b m s=some r/\Q r:=by
  intro k
  induction k with
  | zero =>
   intro i s hk hJ
   obtain ⟨⟨e,s'⟩,hb,hq⟩:=hstep i s (by omega) hJ
   cases e with
   | normal=>have:=hq.1;omega
   | exit id=>exact ⟨1,(.exit id,s'),by simp [A6,hb,ob],hq⟩
   | ret=>exact ⟨1,(.ret,s'),by simp [A6,hb,ob],hq⟩
  | succ k ih =>
   intro i s hk hJ
   obtain ⟨⟨e,s'⟩,hb,hq⟩:=hstep i s (by omega) hJ
   cases e with
   | normal =>
    obtain ⟨m,r,hm,hr⟩:=ih (i+1) s' (by omega) hq.2
    exact ⟨m+1,r,by simp [A6,hb,ob,hm],hr⟩
   | exit id=>exact ⟨1,(.exit id,s'),by simp [A6,hb,ob],hq⟩
   | ret=>exact ⟨1,(.ret,s'),by simp [A6,hb,ob],hq⟩
 obtain ⟨m,r,hm,hr⟩:=key n 0 s (by omega) h0
 exact ⟨r,Ju hm,hr⟩
theorem zaZ {σ:Type} {b:St->Option (VExit × St)} {Q:VExit × St->Prop} (J:σ->St->Prop) (μ:σ->Nat) (x:σ) {s:St} (h0:J x s)
  (hstep:∀ x s,J x s->wp (b s) fun r=>match r.1 with
   | .normal=>∃ y,μ y<μ x/\J y r.2
   | _=>Q r):wp (iter b s) Q:=by
 have key:∀ k x s,μ x=k->J x s->∃ m r,A6 b m s=some r/\Q r:=by
  intro k
  induction k using Nat.strongRecOn with
  | _ k ih =>
   intro x s hk hJ
   obtain ⟨⟨e,s'⟩,hb,hq⟩:=hstep x s hJ
   cases e with
   | normal =>
    obtain ⟨y,hy,hJ'⟩:=hq
    obtain ⟨m,r,hm,hr⟩:=ih (μ y) (by omega) y s' rfl hJ'
    exact ⟨m+1,r,by simp [A6,hb,ob,hm],hr⟩
   | exit id=>exact ⟨1,(.exit id,s'),by simp [A6,hb,ob],hq⟩
   | ret=>exact ⟨1,(.ret,s'),by simp [A6,hb,ob],hq⟩
 obtain ⟨m,r,hm,hr⟩:=key _ x s rfl h0
 exact ⟨r,Ju hm,hr⟩
theorem AR {α:Type} {b:Bool} {x y:Option α} {Q:α->Prop} {u:Tok x} {v:Tok y} {t:Tok Q} (h1:b=true->wp x Q) (h2:b=false->wp y Q):wp (br b x y u v) Q t:=Rk h1 h2
theorem AJ {α:Type} {b:Bool} {x y:Option α} {Q:α->Prop} {u:Tok x} {v:Tok y} {t:Tok Q} (h1:b=false->wp x Q) (h2:b=true->wp y Q):wp (br (b == false) x y u v) Q t:=by
 cases b
 .exact h1 rfl
 .exact h2 rfl
theorem AI {α:Type} {b:Bool} {x y:Option α} {Q:α->Prop} {u:Tok x} {v:Tok y} {t:Tok Q} (h1:b=true->wp x Q) (h2:b=false->wp y Q):wp (br (b == true) x y u v) Q t:=by
 cases b
 .exact h2 rfl
 .exact h1 rfl
theorem AK {α:Type} {b:Bool} {x y:Option α} {Q:α->Prop} {u:Tok x} {v:Tok y} {t:Tok Q} (h1:b=false->wp x Q) (h2:b=true->wp y Q):wp (br (!b) x y u v) Q t:=by
 cases b
 .exact h1 rfl
 .exact h2 rfl
theorem zcy:(true == true)=true:=rfl
theorem zcz:(true == false)=false:=rfl
theorem zcA:(false == true)=false:=rfl
theorem zcB:(false == false)=true:=rfl
attribute [go_sem] zcy zcz zcA zcB
section
variable {α:Type} {p:Prop} [Decidable p] {x y:Option α} {Q:α->Prop} {u:Tok x} {v:Tok y} {t:Tok Q}
theorem Ae (h1:p->wp x Q) (h2:¬ p->wp y Q):wp (br (decide p) x y u v) Q t:=Rk (fun h=>h1 (of_decide_eq_true h)) (fun h=>h2 (of_decide_eq_false h))
theorem AN (h1:¬ p->wp x Q) (h2:p->wp y Q):wp (br (!decide p) x y u v) Q t:=AK (fun h=>h1 (of_decide_eq_false h)) (fun h=>h2 (of_decide_eq_true h))
theorem AP (h1:¬ p->wp x Q) (h2:p->wp y Q):wp (br (decide p == false) x y u v) Q t:=AJ (fun h=>h1 (of_decide_eq_false h)) (fun h=>h2 (of_decide_eq_true h))
theorem AO (h1:p->wp x Q) (h2:¬ p->wp y Q):wp (br (decide p == true) x y u v) Q t:=AI (fun h=>h1 (of_decide_eq_true h)) (fun h=>h2 (of_decide_eq_false h))
theorem AM (h1:p->wp x Q) (h2:¬ p->wp y Q):wp (br ((!decide p) == false) x y u v) Q t:=AJ (fun h=>h1 (by simpa using h)) (fun h=>h2 (by simpa using h))
theorem AL (h1:¬ p->wp x Q) (h2:p->wp y Q):wp (br ((!decide p) == true) x y u v) Q t:=AI (fun h=>h1 (by simpa using h)) (fun h=>h2 (by simpa using h))
end
theorem zbN (a b:Int):(a == b)=decide (a=b):=rfl
theorem zbM (a b:Int):(a != b)=!decide (a=b):=rfl
attribute [go_sem] zbN zbM
theorem zau (Γ:Sig) (ops:List VOper) (f:Nat) (fz:List Nat) (s:St):Cc Γ ⟨ops,f::fz,[]⟩ s=ob (Dh Γ ops { pe:=fun t=>fz1 (f::fz) s.h (s.pe t),te:=fun _=>none,h:=BS (f::fz) s.h }) fun q=>some { pe:=q.pe,h:=q.h }:=by
 simp [Cc,Dr]
theorem zav (Γ:Sig) (ops:List VOper) (p:Nat × Nat) (fp:List (Nat × Nat)) (s:St):Cc Γ ⟨ops,[],p::fp⟩ s=ob (Cs Γ (p::fp) 0 ops { pe:=s.pe,te:=fun _=>none,h:=s.h } []) fun q=>some { pe:=q.pe,h:=q.h }:=by
 simp [Cc,Dr]
theorem Xz (Γ:Sig) (ops:List VOper) (f:Nat) (fz:List Nat) (p:Nat × Nat) (fp:List (Nat × Nat)) (s:St):Cc Γ ⟨ops,f::fz,p::fp⟩ s=ob (Cs Γ (p::fp) 0 ops { pe:=fun t=>fz1 (f::fz) s.h (s.pe t),te:=fun _=>none,h:=BS (f::fz) s.h } []) fun q=>some { pe:=q.pe,h:=q.h }:=by
 simp [Cc,Dr]
theorem Vn (a b c d:Nat) (l:List (Nat × Nat)):((a,b)::l).contains (c,d)=((decide (c=a) && decide (d=b)) || l.contains (c,d)):=by
 rw [Bool.eq_iff_iff]
 simp
theorem WH (a c:Id) (l:List Id):(a::l).contains c=(decide (c=a) || l.contains c):=by
 rw [Bool.eq_iff_iff]
 simp
theorem V1 (a c:Nat) (l:List Nat):(a::l).contains c=(decide (c=a) || l.contains c):=by
 rw [Bool.eq_iff_iff]
 simp
theorem QV (a b:Nat):(a == b)=decide (a=b):=by rw [Bool.eq_iff_iff];simp
theorem zbz (a b:Nat):(a != b)=!decide (a=b):=by simp [bne,QV]
theorem Hg (s:ByteArray) (i:Nat):s[i]?=s.data.toList[i]?:=by
 by_cases h:i<s.size
 ·rw [getElem?_pos s i h,lgg (by simpa using h)]
  simp [ByteArray.getElem_eq_getElem_data]
 .rw [getElem?_neg s i h,List.getElem?_eq_none (by simpa using h)]
attribute [go_sem] zau zav Xz Vn WH V1 QV zbz BS EE fpL fpR Fk Cs FZ EV VOp.wrFp headFp Bg touchF Bu VOp.args VOp.writes VOp.isR ids0 ids1 Id.at VDst.slot Option.toList Bool.and_false bfa Bool.or_self bas
theorem zcT (fz:List Nat) (h:VHeap) (d:PV):fz0 fz h (.p d)=.p d:=rfl
theorem zcS (fz:List Nat) (h:VHeap) (d:PV):fz1 fz h (.p d)=.p d:=rfl
theorem zbX (fz:List Nat) (h:VHeap) (id:Id) (ver off:Nat):fz0 fz h (.ptr id ver off)=.ptr id ver off:=rfl
theorem zbU (fz:List Nat) (h:VHeap) (id:Id) (ver off:Nat):fz1 fz h (.ptr id ver off)=.ptr id ver off:=rfl
theorem zal (fz:List Nat) (h:VHeap) (cs:List PV) (off:Nat):fz0 fz h (.vptr cs off)=.vptr cs off:=rfl
theorem YJ (fz:List Nat) (h:VHeap) (ps:List VVal):fz0 fz h (.plist ps)=.plist ps:=rfl
theorem YG (fz:List Nat) (h:VHeap) (ps:List VVal):fz1 fz h (.plist ps)=.plist ps:=rfl
theorem YH (fz:List Nat) (h:VHeap) (p:VVal):fz1 fz h (.pcell p)=.pcell p:=rfl
attribute [go_sem] YJ YG YH
theorem zai (fz:List Nat) (h:VHeap) (cs:List PV) (off:Nat):fz1 fz h (.vptr cs off)=.vptr cs off:=rfl
theorem zan (fz:List Nat) (h:VHeap) (id:Id) (ver i off:Nat):fz0 fz h (.eptr id ver i off)=.eptr id ver i off:=rfl
theorem zak (fz:List Nat) (h:VHeap) (id:Id) (ver i off:Nat):fz1 fz h (.eptr id ver i off)=.eptr id ver i off:=rfl
theorem zam (fz:List Nat) (h:VHeap) (id:Id) (ver:Nat):fz0 fz h (.mref id ver)=.mref id ver:=rfl
theorem zaj (fz:List Nat) (h:VHeap) (id:Id) (ver:Nat):fz1 fz h (.mref id ver)=.mref id ver:=rfl
theorem zcw (fz:List Nat) (h:VHeap) (f:FuncId) (caps:List VVal):fz0 fz h (.fn f caps)=.fn f caps:=rfl
theorem zcv (fz:List Nat) (h:VHeap) (f:FuncId) (caps:List VVal):fz1 fz h (.fn f caps)=.fn f caps:=rfl
theorem YI (fz:List Nat) (h:VHeap)  : fz0 fz h (.undef)=.undef:=rfl
theorem YF (fz:List Nat) (h:VHeap)  : fz1 fz h (.undef)=.undef:=rfl
theorem zbZ (fz:List Nat) (h:VHeap) (cs:List VVal):fz0 fz h (.agg cs)=.agg cs:=rfl
theorem zbW (fz:List Nat) (h:VHeap) (cs:List VVal):fz1 fz h (.agg cs)=.agg (cs.map (fz0 fz h)):=rfl
theorem zbS (fz:List Nat) (h:VHeap) (cs:List VVal):fz1 fz h (.tup cs)=.tup (cs.map (fz0 fz h)):=rfl
theorem zbY (fz:List Nat) (h:VHeap) (id:Id) (ver off len:Nat):fz0 fz h (.own id ver off len)=if EE fz id=true then (match A0 h (.own id ver off len) with
  | some r=>.p (.slice r.1 r.2)
  | none=>.dead) else .own id ver off len:=rfl
theorem zbV (fz:List Nat) (h:VHeap) (id:Id) (ver off len:Nat):fz1 fz h (.own id ver off len)=if EE fz id=true then (match A0 h (.own id ver off len) with
  | some r=>.p (.slice r.1 r.2)
  | none=>.dead) else .own id ver off len:=rfl
attribute [go_sem] zcT zcS zbX zbU zal zai zan zak zam zaj zcw zcv YI YF zbZ zbW zbS zbY zbV
section
variable (a b:Id) (va n:Nat)
theorem zcN (d:PV):mv1 a b va n (.p d)=.p d:=rfl
theorem zbD (id:Id) (ver off:Nat):mv1 a b va n (.ptr id ver off)=.ptr id ver off:=rfl
theorem Yu (ps:List VVal):mv1 a b va n (.plist ps)=.plist ps:=rfl
theorem Yv (p:VVal):mv1 a b va n (.pcell p)=.pcell p:=rfl
attribute [go_sem] Yu Yv
theorem Z1 (cs:List PV) (off:Nat):mv1 a b va n (.vptr cs off)=.vptr cs off:=rfl
theorem Z2 (id:Id) (ver:Nat):mv1 a b va n (.mref id ver)=.mref id ver:=rfl
theorem zcm (f:FuncId) (caps:List VVal):mv1 a b va n (.fn f caps)=.fn f caps:=rfl
theorem Yt:mv1 a b va n .undef=.undef:=rfl
theorem zbF (cs:List VVal):mv1 a b va n (.agg cs)=.agg (cs.map (mv0 a b va n)):=rfl
theorem zbB (cs:List VVal):mv1 a b va n (.tup cs)=.tup (cs.map (mv0 a b va n)):=rfl
theorem zbE (id:Id) (ver off len:Nat):mv1 a b va n (.own id ver off len)=if id=a/\ver=va then .own b n off len else .own id ver off len:=rfl
theorem Z3 (id:Id) (ver i off:Nat):mv1 a b va n (.eptr id ver i off)=if id=a/\ver=va then .eptr b n i off else .eptr id ver i off:=rfl
theorem zcO (d:PV):mv0 a b va n (.p d)=.p d:=rfl
theorem zbG (id:Id) (ver off:Nat):mv0 a b va n (.ptr id ver off)=.ptr id ver off:=rfl
theorem Z4 (id:Id) (ver:Nat):mv0 a b va n (.mref id ver)=.mref id ver:=rfl
theorem zcn (f:FuncId) (caps:List VVal):mv0 a b va n (.fn f caps)=.fn f caps:=rfl
theorem zbH (id:Id) (ver off len:Nat):mv0 a b va n (.own id ver off len)=if id=a/\ver=va then .own b n off len else .own id ver off len:=rfl
end
attribute [go_sem] zcN zbD Z1 Z2 zcm Yt zbF zbB zbE Z3 zcO zbG Z4 zcn zbH
theorem cl0 {P : Prop} (h : P := by first | with_reducible rfl | (simp -implicitDefEqProofs (disch := omega) only [*, List.map_append, go_sem] <;> exact cl1) | exact cl2) : P := h
attribute [go_sem ↓] reduceIte
attribute [go_sem] rA rS rE rL reduceCtorEq
theorem lpI (F:Nat->St->Prop):∃ I:Nat->St->Prop,∀ k s,I k s ↔ F k s:=⟨F,fun _ _=>Iff.rfl⟩
theorem cl3 {P : Prop} (h : P := by first | rfl | omega | (simp; done) | (simp; omega)) : P := h
theorem ai {a b:Prop} (hb:b) (ha:a:=by omega):a/\b:=⟨ha,hb⟩
theorem cl4 {P : Prop} (h : P := by first | exact cl0 | (simp -implicitDefEqProofs (disch := omega) only [*, List.map_append, go_sem] <;> first | (simp [B2]; done) | (simp [B2]; omega))) : P := h
theorem cl5 {P : Prop} (h : P := by first | exact cl0 | (simp -implicitDefEqProofs (disch := omega) only [*, List.map_append, go_sem] <;> first | (simp [Am]; done) | (simp [Am]; omega))) : P := h
theorem cl6 {P : Prop} (h : P := by first | exact cl0 | (simp -implicitDefEqProofs (disch := omega) only [*, List.map_append, go_sem] <;> first | (simp [B2,List.map_set,Cp.pv]; done) | (simp [B2,List.map_set,Cp.pv]; omega))) : P := h
theorem cl7 {P : Prop} (h : P := by first | exact cl0 | (simp -implicitDefEqProofs (disch := omega) only [*, List.map_append, go_sem] <;> first | (simp [B2]; done) | (simp [B2]; omega)) | (simp -implicitDefEqProofs (disch := omega) only [*, List.map_append, go_sem] <;> (refine ⟨_, rfl, ?_⟩; first | rfl | (simp -implicitDefEqProofs (disch := omega) only [*, List.map_append, go_sem]; done) | (simp -implicitDefEqProofs (disch := omega) only [*, List.map_append, go_sem]; rfl)))) : P := h
theorem cl8 {P : Prop} (h : P := by first | exact cl0 | (simp -implicitDefEqProofs (disch := omega) only [*, List.map_append, go_sem] <;> first | (simp [B2,Cp.pv]; done) | (simp [B2,Cp.pv]; omega))) : P := h
theorem cl9 {P : Prop} (h : P := by first | exact cl0 | (simp -implicitDefEqProofs (disch := omega) only [*, List.map_append, go_sem] <;> first | (simp [B2,elC,elD,elQ,elW,esC,esD,esQ,esW]; done) | (simp [B2,elC,elD,elQ,elW,esC,esD,esQ,esW]; omega))) : P := h
theorem cl10 {P : Prop} (h : P := by first | exact cl0 | (simp -implicitDefEqProofs (disch := omega) only [*, List.map_append, go_sem] <;> first | (simp [B2,List.map_set,List.set_set,Cp.pv]; done) | (simp [B2,List.map_set,List.set_set,Cp.pv]; omega))) : P := h
theorem cl11 {P : Prop} (h : P := by first | exact cl0 | (simp -implicitDefEqProofs (disch := omega) only [*, List.map_append, go_sem] <;> first | (simp [B2, List.map_set, Cp.pv]; done) | (simp [B2, List.map_set, Cp.pv]; omega)) | (simp -implicitDefEqProofs (disch := omega) only [*, List.map_append, go_sem] <;> (refine ⟨_, rfl, ?_⟩; first | rfl | (simp -implicitDefEqProofs (disch := omega) only [*, List.map_append, go_sem]; done) | (simp -implicitDefEqProofs (disch := omega) only [*, List.map_append, go_sem]; rfl)))) : P := h
theorem w0 {P Q:Prop}(q:Q)(r:Q->P:=by intro q;simp -implicitDefEqProofs (disch:=omega) only [go_sem];exact q):P:=r q
theorem w1 {P Q A:Prop}(a:A)(q:Q)(r:A->Q->P:=by intro r q;simp -implicitDefEqProofs (disch:=omega) only [r,go_sem];exact q):P:=r a q
theorem w2 {P Q A B:Prop}(a:A)(b:B)(q:Q)(r:A/\B->Q->P:=by intro r q;simp -implicitDefEqProofs (disch:=omega) only [r,go_sem];exact q):P:=r ⟨a,b⟩ q
theorem w3 {P Q A B C:Prop}(a:A)(b:B)(c:C)(q:Q)(r:A/\B/\C->Q->P:=by intro r q;simp -implicitDefEqProofs (disch:=omega) only [r,go_sem];exact q):P:=r ⟨a,b,c⟩ q
theorem w4 {P Q A B C D:Prop}(a:A)(b:B)(c:C)(d:D)(q:Q)(r:A/\B/\C/\D->Q->P:=by intro r q;simp -implicitDefEqProofs (disch:=omega) only [r,go_sem];exact q):P:=r ⟨a,b,c,d⟩ q
theorem w5 {P Q A B C D E:Prop}(a:A)(b:B)(c:C)(d:D)(e:E)(q:Q)(r:A/\B/\C/\D/\E->Q->P:=by intro r q;simp -implicitDefEqProofs (disch:=omega) only [r,go_sem];exact q):P:=r ⟨a,b,c,d,e⟩ q
theorem w6 {P Q A B C D E F:Prop}(a:A)(b:B)(c:C)(d:D)(e:E)(f:F)(q:Q)(r:A/\B/\C/\D/\E/\F->Q->P:=by intro r q;simp -implicitDefEqProofs (disch:=omega) only [r,go_sem];exact q):P:=r ⟨a,b,c,d,e,f⟩ q
theorem w7 {P Q A B C D E F G:Prop}(a:A)(b:B)(c:C)(d:D)(e:E)(f:F)(g:G)(q:Q)(r:A/\B/\C/\D/\E/\F/\G->Q->P:=by intro r q;simp -implicitDefEqProofs (disch:=omega) only [r,go_sem];exact q):P:=r ⟨a,b,c,d,e,f,g⟩ q
theorem w8 {P Q A B C D E F G H:Prop}(a:A)(b:B)(c:C)(d:D)(e:E)(f:F)(g:G)(h:H)(q:Q)(r:A/\B/\C/\D/\E/\F/\G/\H->Q->P:=by intro r q;simp -implicitDefEqProofs (disch:=omega) only [r,go_sem];exact q):P:=r ⟨a,b,c,d,e,f,g,h⟩ q
theorem w9 {P Q A B C D E F G H I:Prop}(a:A)(b:B)(c:C)(d:D)(e:E)(f:F)(g:G)(h:H)(i:I)(q:Q)(r:A/\B/\C/\D/\E/\F/\G/\H/\I->Q->P:=by intro r q;simp -implicitDefEqProofs (disch:=omega) only [r,go_sem];exact q):P:=r ⟨a,b,c,d,e,f,g,h,i⟩ q
theorem w10 {P Q A B C D E F G H I J:Prop}(a:A)(b:B)(c:C)(d:D)(e:E)(f:F)(g:G)(h:H)(i:I)(j:J)(q:Q)(r:A/\B/\C/\D/\E/\F/\G/\H/\I/\J->Q->P:=by intro r q;simp -implicitDefEqProofs (disch:=omega) only [r,go_sem];exact q):P:=r ⟨a,b,c,d,e,f,g,h,i,j⟩ q
theorem w11 {P Q A B C D E F G H I J K:Prop}(a:A)(b:B)(c:C)(d:D)(e:E)(f:F)(g:G)(h:H)(i:I)(j:J)(k:K)(q:Q)(r:A/\B/\C/\D/\E/\F/\G/\H/\I/\J/\K->Q->P:=by intro r q;simp -implicitDefEqProofs (disch:=omega) only [r,go_sem];exact q):P:=r ⟨a,b,c,d,e,f,g,h,i,j,k⟩ q
theorem w12 {P Q A B C D E F G H I J K L:Prop}(a:A)(b:B)(c:C)(d:D)(e:E)(f:F)(g:G)(h:H)(i:I)(j:J)(k:K)(l:L)(q:Q)(r:A/\B/\C/\D/\E/\F/\G/\H/\I/\J/\K/\L->Q->P:=by intro r q;simp -implicitDefEqProofs (disch:=omega) only [r,go_sem];exact q):P:=r ⟨a,b,c,d,e,f,g,h,i,j,k,l⟩ q
theorem w13 {P Q A B C D E F G H I J K L M:Prop}(a:A)(b:B)(c:C)(d:D)(e:E)(f:F)(g:G)(h:H)(i:I)(j:J)(k:K)(l:L)(m:M)(q:Q)(r:A/\B/\C/\D/\E/\F/\G/\H/\I/\J/\K/\L/\M->Q->P:=by intro r q;simp -implicitDefEqProofs (disch:=omega) only [r,go_sem];exact q):P:=r ⟨a,b,c,d,e,f,g,h,i,j,k,l,m⟩ q
theorem y1 {P A:Prop}(a:A)(r:A->P:=by intro r;simp -implicitDefEqProofs (disch:=omega) only [r,go_sem];try rfl):P:=r a
theorem y2 {P A B:Prop}(a:A)(b:B)(r:A/\B->P:=by intro r;simp -implicitDefEqProofs (disch:=omega) only [r,go_sem];try rfl):P:=r ⟨a,b⟩
theorem y3 {P A B C:Prop}(a:A)(b:B)(c:C)(r:A/\B/\C->P:=by intro r;simp -implicitDefEqProofs (disch:=omega) only [r,go_sem];try rfl):P:=r ⟨a,b,c⟩
theorem y4 {P A B C D:Prop}(a:A)(b:B)(c:C)(d:D)(r:A/\B/\C/\D->P:=by intro r;simp -implicitDefEqProofs (disch:=omega) only [r,go_sem];try rfl):P:=r ⟨a,b,c,d⟩
theorem y5 {P A B C D E:Prop}(a:A)(b:B)(c:C)(d:D)(e:E)(r:A/\B/\C/\D/\E->P:=by intro r;simp -implicitDefEqProofs (disch:=omega) only [r,go_sem];try rfl):P:=r ⟨a,b,c,d,e⟩
theorem y6 {P A B C D E F:Prop}(a:A)(b:B)(c:C)(d:D)(e:E)(f:F)(r:A/\B/\C/\D/\E/\F->P:=by intro r;simp -implicitDefEqProofs (disch:=omega) only [r,go_sem];try rfl):P:=r ⟨a,b,c,d,e,f⟩
theorem y7 {P A B C D E F G:Prop}(a:A)(b:B)(c:C)(d:D)(e:E)(f:F)(g:G)(r:A/\B/\C/\D/\E/\F/\G->P:=by intro r;simp -implicitDefEqProofs (disch:=omega) only [r,go_sem];try rfl):P:=r ⟨a,b,c,d,e,f,g⟩
theorem y8 {P A B C D E F G H:Prop}(a:A)(b:B)(c:C)(d:D)(e:E)(f:F)(g:G)(h:H)(r:A/\B/\C/\D/\E/\F/\G/\H->P:=by intro r;simp -implicitDefEqProofs (disch:=omega) only [r,go_sem];try rfl):P:=r ⟨a,b,c,d,e,f,g,h⟩
theorem y9 {P A B C D E F G H I:Prop}(a:A)(b:B)(c:C)(d:D)(e:E)(f:F)(g:G)(h:H)(i:I)(r:A/\B/\C/\D/\E/\F/\G/\H/\I->P:=by intro r;simp -implicitDefEqProofs (disch:=omega) only [r,go_sem];try rfl):P:=r ⟨a,b,c,d,e,f,g,h,i⟩
theorem y10 {P A B C D E F G H I J:Prop}(a:A)(b:B)(c:C)(d:D)(e:E)(f:F)(g:G)(h:H)(i:I)(j:J)(r:A/\B/\C/\D/\E/\F/\G/\H/\I/\J->P:=by intro r;simp -implicitDefEqProofs (disch:=omega) only [r,go_sem];try rfl):P:=r ⟨a,b,c,d,e,f,g,h,i,j⟩
theorem z0 {P:Prop}(r:P:=by simp -implicitDefEqProofs (disch:=omega) only [go_sem]):P:=r
theorem z1 {P A:Prop}(a:A)(r:A->P:=by intro r;simp -implicitDefEqProofs (disch:=omega) only [r,go_sem]):P:=r a
theorem z2 {P A B:Prop}(a:A)(b:B)(r:A/\B->P:=by intro r;simp -implicitDefEqProofs (disch:=omega) only [r,go_sem]):P:=r ⟨a,b⟩
theorem z3 {P A B C:Prop}(a:A)(b:B)(c:C)(r:A/\B/\C->P:=by intro r;simp -implicitDefEqProofs (disch:=omega) only [r,go_sem]):P:=r ⟨a,b,c⟩
theorem z4 {P A B C D:Prop}(a:A)(b:B)(c:C)(d:D)(r:A/\B/\C/\D->P:=by intro r;simp -implicitDefEqProofs (disch:=omega) only [r,go_sem]):P:=r ⟨a,b,c,d⟩
theorem z5 {P A B C D E:Prop}(a:A)(b:B)(c:C)(d:D)(e:E)(r:A/\B/\C/\D/\E->P:=by intro r;simp -implicitDefEqProofs (disch:=omega) only [r,go_sem]):P:=r ⟨a,b,c,d,e⟩
theorem z6 {P A B C D E F:Prop}(a:A)(b:B)(c:C)(d:D)(e:E)(f:F)(r:A/\B/\C/\D/\E/\F->P:=by intro r;simp -implicitDefEqProofs (disch:=omega) only [r,go_sem]):P:=r ⟨a,b,c,d,e,f⟩
theorem z7 {P A B C D E F G:Prop}(a:A)(b:B)(c:C)(d:D)(e:E)(f:F)(g:G)(r:A/\B/\C/\D/\E/\F/\G->P:=by intro r;simp -implicitDefEqProofs (disch:=omega) only [r,go_sem]):P:=r ⟨a,b,c,d,e,f,g⟩
theorem z8 {P A B C D E F G H:Prop}(a:A)(b:B)(c:C)(d:D)(e:E)(f:F)(g:G)(h:H)(r:A/\B/\C/\D/\E/\F/\G/\H->P:=by intro r;simp -implicitDefEqProofs (disch:=omega) only [r,go_sem]):P:=r ⟨a,b,c,d,e,f,g,h⟩
theorem z9 {P A B C D E F G H I:Prop}(a:A)(b:B)(c:C)(d:D)(e:E)(f:F)(g:G)(h:H)(i:I)(r:A/\B/\C/\D/\E/\F/\G/\H/\I->P:=by intro r;simp -implicitDefEqProofs (disch:=omega) only [r,go_sem]):P:=r ⟨a,b,c,d,e,f,g,h,i⟩
theorem z10 {P A B C D E F G H I J:Prop}(a:A)(b:B)(c:C)(d:D)(e:E)(f:F)(g:G)(h:H)(i:I)(j:J)(r:A/\B/\C/\D/\E/\F/\G/\H/\I/\J->P:=by intro r;simp -implicitDefEqProofs (disch:=omega) only [r,go_sem]):P:=r ⟨a,b,c,d,e,f,g,h,i,j⟩
theorem z11 {P A B C D E F G H I J K:Prop}(a:A)(b:B)(c:C)(d:D)(e:E)(f:F)(g:G)(h:H)(i:I)(j:J)(k:K)(r:A/\B/\C/\D/\E/\F/\G/\H/\I/\J/\K->P:=by intro r;simp -implicitDefEqProofs (disch:=omega) only [r,go_sem]):P:=r ⟨a,b,c,d,e,f,g,h,i,j,k⟩
theorem z12 {P A B C D E F G H I J K L:Prop}(a:A)(b:B)(c:C)(d:D)(e:E)(f:F)(g:G)(h:H)(i:I)(j:J)(k:K)(l:L)(r:A/\B/\C/\D/\E/\F/\G/\H/\I/\J/\K/\L->P:=by intro r;simp -implicitDefEqProofs (disch:=omega) only [r,go_sem]):P:=r ⟨a,b,c,d,e,f,g,h,i,j,k,l⟩
theorem z13 {P A B C D E F G H I J K L M:Prop}(a:A)(b:B)(c:C)(d:D)(e:E)(f:F)(g:G)(h:H)(i:I)(j:J)(k:K)(l:L)(m:M)(r:A/\B/\C/\D/\E/\F/\G/\H/\I/\J/\K/\L/\M->P:=by intro r;simp -implicitDefEqProofs (disch:=omega) only [r,go_sem]):P:=r ⟨a,b,c,d,e,f,g,h,i,j,k,l,m⟩
def Le (Γ Γ':Sig):Prop:=∀ f args H r,Γ f args H=some r->Γ' f args H=some r
theorem Ax {α β:Type} {x:Option α} {f:α->Option β} {u:Tok f} {b:β} (h:ob x f u=some b):∃ a,x=some a/\f a=some b:=by
 cases x with
 | none=>cases h
 | some a=>exact ⟨a,rfl,h⟩
structure Chain (N:Nat->Sig) (Γ:Sig):Prop where
 mono:∀ n m,n<=m->Le (N n) (N m)
 lim:∀ f args H r,Γ f args H=some r->∃ n,N n f args H=some r
theorem IV {Γ Γ':Sig} (hl:Le Γ Γ') {h:VHeap} {d:Nat} {f:FuncId} {args:List VVal} {R:List Id} {q:VVal × List (Id × Nat × Ob)} (he:Dg Γ h d f args R=some q):Dg Γ' h d f args R=some q:=by
 unfold Dg at he ⊢
 obtain ⟨a',h1,he⟩:=Ax he
 obtain ⟨H,h2,he⟩:=Ax he
 obtain ⟨r,h3,he⟩:=Ax he
 rw [h1,Ah,h2,Ah,hl _ _ _ _ h3,Ah]
 exact he
theorem IC {N:Nat->Sig} {Γ:Sig} (hc:Chain N Γ) {h:VHeap} {d:Nat} {f:FuncId} {args:List VVal} {R:List Id} {q:VVal × List (Id × Nat × Ob)} (he:Dg Γ h d f args R=some q):∃ n,Dg (N n) h d f args R=some q:=by
 unfold Dg at he
 obtain ⟨a',h1,he⟩:=Ax he
 obtain ⟨H,h2,he⟩:=Ax he
 obtain ⟨r,h3,he⟩:=Ax he
 obtain ⟨n,hn⟩:=hc.lim _ _ _ _ h3
 refine ⟨n,?_⟩
 unfold Dg
 rw [h1,Ah,h2,Ah,hn,Ah]
 exact he
theorem Gx {Γ Γ':Sig} (hl:Le Γ Γ') {h:VHeap} {d:Nat} {f:FuncId} {args:List VVal} {R:List Id} {q:VVal × List (Id × Nat × Ob)} (he:Dd Γ h d f args R=some q):Dd Γ' h d f args R=some q:=by
 unfold Dd at he ⊢
 obtain ⟨a',h1,he⟩:=Ax he
 obtain ⟨H,h2,he⟩:=Ax he
 obtain ⟨r,h3,he⟩:=Ax he
 rw [h1,Ah,h2,Ah,hl _ _ _ _ h3,Ah]
 exact he
theorem Gp {N:Nat->Sig} {Γ:Sig} (hc:Chain N Γ) {h:VHeap} {d:Nat} {f:FuncId} {args:List VVal} {R:List Id} {q:VVal × List (Id × Nat × Ob)} (he:Dd Γ h d f args R=some q):∃ n,Dd (N n) h d f args R=some q:=by
 unfold Dd at he
 obtain ⟨a',h1,he⟩:=Ax he
 obtain ⟨H,h2,he⟩:=Ax he
 obtain ⟨r,h3,he⟩:=Ax he
 obtain ⟨n,hn⟩:=hc.lim _ _ _ _ h3
 refine ⟨n,?_⟩
 unfold Dd
 rw [h1,Ah,h2,Ah,hn,Ah]
 exact he
def VOp.isCall:VOp->Bool
 | .call _ _|.callv _ _|.callW _ _|.callvW _ _|.callR _ _|.callA _ _=>true
 | _=>false
theorem M0 {Γ Γ':Sig} {look:VArg->Option VVal} {h:VHeap} {d:Nat} {op:VOp} (ho:op.isCall=false):Ai Γ look h d op=Ai Γ' look h d op:=by
 cases op<;>first|rfl|(simp [VOp.isCall] at ho)
theorem PD {Γ Γ':Sig} (hl:Le Γ Γ') {look:VArg->Option VVal} {h:VHeap} {d:Nat} {op:VOp} {q:VVal × List (Id × Nat × Ob)} (he:Ai Γ look h d op=some q):Ai Γ' look h d op=some q:=by
 by_cases ho:op.isCall=false
 ·rw [<- M0 (Γ:=Γ) ho];exact he
 cases op<;>first|(simp [VOp.isCall] at ho;done)|skip
 ·rw [II] at he ⊢
  obtain ⟨vs,h1,he⟩:=Ax he
  rw [h1,Ah]
  exact IV hl he
 ·rw [Gq] at he ⊢
  obtain ⟨g,h0,he⟩:=Ax he
  obtain ⟨vs,h1,he⟩:=Ax he
  rw [h0,Ah,h1,Ah]
  split at he
  .exact IV hl he
  .exact IV hl he
  .exact IV hl he
  .cases he
 ·rw [Iy] at he ⊢
  obtain ⟨vs,h1,he⟩:=Ax he
  rw [h1,Ah]
  exact Gx hl he
 ·rw [Gm] at he ⊢
  obtain ⟨g,h0,he⟩:=Ax he
  obtain ⟨vs,h1,he⟩:=Ax he
  rw [h0,Ah,h1,Ah]
  split at he
  .exact Gx hl he
  .exact Gx hl he
  .exact Gx hl he
  .cases he
 ·rw [Iz] at he ⊢
  obtain ⟨vs,h1,he⟩:=Ax he
  obtain ⟨q1,h2,he⟩:=Ax he
  rw [h1,Ah,Bv,Gx hl h2,Ah]
  exact he
 ·rw [IA] at he ⊢
  obtain ⟨vs,h1,he⟩:=Ax he
  obtain ⟨q1,h2,he⟩:=Ax he
  rw [h1,Ah,Bv,Gx hl h2,Ah]
  exact he
theorem NR {N:Nat->Sig} {Γ:Sig} (hc:Chain N Γ) {look:VArg->Option VVal} {h:VHeap} {d:Nat} {op:VOp} {q:VVal × List (Id × Nat × Ob)} (he:Ai Γ look h d op=some q):∃ n,Ai (N n) look h d op=some q:=by
 by_cases ho:op.isCall=false
 ·exact ⟨0,by rw [<- M0 (Γ:=Γ) ho];exact he⟩
 cases op<;>first|(simp [VOp.isCall] at ho;done)|skip
 ·rw [II] at he
  obtain ⟨vs,h1,he⟩:=Ax he
  obtain ⟨n,hn⟩:=IC hc he
  refine ⟨n,?_⟩
  rw [II,h1,Ah]
  exact hn
 ·rw [Gq] at he
  obtain ⟨g,h0,he⟩:=Ax he
  obtain ⟨vs,h1,he⟩:=Ax he
  split at he
  ·obtain ⟨n,hn⟩:=IC hc he
   refine ⟨n,?_⟩
   rw [Gq,h0,Ah,h1,Ah]
   exact hn
  ·obtain ⟨n,hn⟩:=IC hc he
   refine ⟨n,?_⟩
   rw [Gq,h0,Ah,h1,Ah]
   exact hn
  ·obtain ⟨n,hn⟩:=IC hc he
   refine ⟨n,?_⟩
   rw [Gq,h0,Ah,h1,Ah]
   exact hn
  ·cases he
 ·rw [Iy] at he
  obtain ⟨vs,h1,he⟩:=Ax he
  obtain ⟨n,hn⟩:=Gp hc he
  refine ⟨n,?_⟩
  rw [Iy,h1,Ah]
  exact hn
 ·rw [Gm] at he
  obtain ⟨g,h0,he⟩:=Ax he
  obtain ⟨vs,h1,he⟩:=Ax he
  split at he
  ·obtain ⟨n,hn⟩:=Gp hc he
   refine ⟨n,?_⟩
   rw [Gm,h0,Ah,h1,Ah]
   exact hn
  ·obtain ⟨n,hn⟩:=Gp hc he
   refine ⟨n,?_⟩
   rw [Gm,h0,Ah,h1,Ah]
   exact hn
  ·obtain ⟨n,hn⟩:=Gp hc he
   refine ⟨n,?_⟩
   rw [Gm,h0,Ah,h1,Ah]
   exact hn
  .cases he
 ·rw [Iz] at he
  obtain ⟨vs,h1,he⟩:=Ax he
  obtain ⟨q1,h2,he⟩:=Ax he
  obtain ⟨n,hn⟩:=Gp hc h2
  refine ⟨n,?_⟩
  rw [Iz,h1,Ah,Bv,hn,Ah]
  exact he
 ·rw [IA] at he
  obtain ⟨vs,h1,he⟩:=Ax he
  obtain ⟨q1,h2,he⟩:=Ax he
  obtain ⟨n,hn⟩:=Gp hc h2
  refine ⟨n,?_⟩
  rw [IA,h1,Ah,Bv,hn,Ah]
  exact he
theorem GO {Γ Γ':Sig} (hl:Le Γ Γ') {o:VOper} {r r':RS} (h:BW Γ o r=some r'):BW Γ' o r=some r':=by
 unfold BW at h ⊢
 split
 ·rename_i hg
  rw [hg] at h
  obtain ⟨q,hq,h⟩:=Ax h
  rw [PD hl hq,Ah]
  exact h
 ·rename_i g want hg
  rw [hg] at h
  obtain ⟨gv,hgv,h⟩:=Ax h
  rw [hgv,Ah]
  split at h
  ·unfold br at h ⊢
   split
   ·rename_i hb
    rw [if_pos hb] at h
    obtain ⟨q,hq,h⟩:=Ax h
    rw [PD hl hq,Ah]
    exact h
   ·rename_i hb
    rw [if_neg hb] at h
    exact h
  .exact h
  .cases h
theorem KG {N:Nat->Sig} {Γ:Sig} (hc:Chain N Γ) {o:VOper} {r r':RS} (h:BW Γ o r=some r'):∃ n,BW (N n) o r=some r':=by
 unfold BW at h
 split at h
 ·rename_i hg
  obtain ⟨q,hq,h⟩:=Ax h
  obtain ⟨n,hn⟩:=NR hc hq
  refine ⟨n,?_⟩
  unfold BW
  rw [hg]
  simp only [hn,Ah]
  exact h
 ·rename_i g want hg
  obtain ⟨gv,hgv,h⟩:=Ax h
  split at h
  ·unfold br at h
   split at h
   ·rename_i hb
    obtain ⟨q,hq,h⟩:=Ax h
    obtain ⟨n,hn⟩:=NR hc hq
    refine ⟨n,?_⟩
    unfold BW
    rw [hg]
    simp only [hgv,Ah]
    rw [hb,EU,hn,Ah]
    exact h
   ·rename_i b hb
    refine ⟨0,?_⟩
    unfold BW
    rw [hg]
    simp only [hgv,Ah]
    have:(b == want)=false:=by simpa using hb
    rw [this,ES]
    exact h
  ·refine ⟨0,?_⟩
   unfold BW
   rw [hg]
   simp only [hgv,Ah]
   exact h
  .cases h
theorem KZ {Γ Γ':Sig} (hl:Le Γ Γ'):∀ {os:List VOper} {r r':RS},Dh Γ os r=some r'->Dh Γ' os r=some r'
 | [],_,_,h=>h
 | o::os,r,r',h=>by
  rw [IF] at h ⊢
  obtain ⟨r1,h1,h⟩:=Ax h
  rw [GO hl h1,Ah]
  exact KZ hl h
theorem NH {N:Nat->Sig} {Γ:Sig} (hc:Chain N Γ):∀ {os:List VOper} {r r':RS},Dh Γ os r=some r'->∃ n,Dh (N n) os r=some r'
 | [],_,_,h=>⟨0,h⟩
 | o::os,r,r',h=>by
  rw [IF] at h
  obtain ⟨r1,h1,h⟩:=Ax h
  obtain ⟨n,hn⟩:=KG hc h1
  obtain ⟨m,hm⟩:=NH hc h
  refine ⟨max n m,?_⟩
  rw [IF,GO (hc.mono n _ (Nat.le_max_left ..)) hn,Ah]
  exact KZ (hc.mono m _ (Nat.le_max_right ..)) hm
theorem JV {α:Type} {c:Prop} [Decidable c] {x:Option α} {u:Tok x} {b:α} (h:gd c x u=some b):c/\x=some b:=by
 unfold gd at h
 split at h
 .exact ⟨by assumption,h⟩
 .cases h
theorem HN {Γ Γ':Sig} (hl:Le Γ Γ') {fp:List (Nat × Nat)}:∀ {os:List VOper} {i:Nat} {r r':RS} {acc:List (Nat × VOper × List Id)},Cs Γ fp i os r acc=some r'->Cs Γ' fp i os r acc=some r'
 | [],_,_,_,_,h=>h
 | o::os,i,r,r',acc,h=>by
  simp only [Cs] at h ⊢
  split
  ·rename_i hf
   rw [if_pos hf] at h
   obtain ⟨hch,h⟩:=JV h
   obtain ⟨r1,h1,h⟩:=Ax h
   rw [Ic _ _ hch,GO hl h1,Ah]
   exact HN hl h
  ·rename_i hf
   rw [if_neg hf] at h
   obtain ⟨r1,h1,h⟩:=Ax h
   rw [GO hl h1,Ah]
   exact HN hl h
theorem KH {N:Nat->Sig} {Γ:Sig} (hc:Chain N Γ) {fp:List (Nat × Nat)}:∀ {os:List VOper} {i:Nat} {r r':RS} {acc:List (Nat × VOper × List Id)},Cs Γ fp i os r acc=some r'->∃ n,Cs (N n) fp i os r acc=some r'
 | [],_,_,_,_,h=>⟨0,h⟩
 | o::os,i,r,r',acc,h=>by
  simp only [Cs] at h
  split at h
  ·rename_i hf
   obtain ⟨hch,h⟩:=JV h
   obtain ⟨r1,h1,h⟩:=Ax h
   obtain ⟨n,hn⟩:=KG hc h1
   obtain ⟨m,hm⟩:=KH hc h
   refine ⟨max n m,?_⟩
   simp only [Cs]
   rw [if_pos hf,Ic _ _ hch,GO (hc.mono n _ (Nat.le_max_left ..)) hn,Ah]
   exact HN (hc.mono m _ (Nat.le_max_right ..)) hm
  ·rename_i hf
   obtain ⟨r1,h1,h⟩:=Ax h
   obtain ⟨n,hn⟩:=KG hc h1
   obtain ⟨m,hm⟩:=KH hc h
   refine ⟨max n m,?_⟩
   simp only [Cs]
   rw [if_neg hf,GO (hc.mono n _ (Nat.le_max_left ..)) hn,Ah]
   exact HN (hc.mono m _ (Nat.le_max_right ..)) hm
theorem zat {Γ Γ':Sig} (hl:Le Γ Γ') {vr:VRegion} {s s':St} (h:Cc Γ vr s=some s'):Cc Γ' vr s=some s':=by
 unfold Cc at h ⊢
 obtain ⟨q,hq,h⟩:=Ax h
 split at hq
 ·rename_i hf
  rw [if_pos hf,KZ hl hq,Ah]
  exact h
 ·rename_i hf
  rw [if_neg hf,HN hl hq,Ah]
  exact h
theorem Xy {N:Nat->Sig} {Γ:Sig} (hc:Chain N Γ) {vr:VRegion} {s s':St} (h:Cc Γ vr s=some s'):∃ n,Cc (N n) vr s=some s':=by
 unfold Cc at h
 obtain ⟨q,hq,h⟩:=Ax h
 split at hq
 ·rename_i hf
  obtain ⟨n,hn⟩:=NH hc hq
  refine ⟨n,?_⟩
  unfold Cc
  rw [if_pos hf,hn,Ah]
  exact h
 ·rename_i hf
  obtain ⟨n,hn⟩:=KH hc hq
  refine ⟨n,?_⟩
  unfold Cc
  rw [if_neg hf,hn,Ah]
  exact h
theorem QZ {b:St->Option (VExit × St)} {s:St} {r:VExit × St} (h:iter b s=some r):∃ n,A6 b n s=some r:=by
 unfold iter at h
 split at h
 ·rename_i hex
  have:=Classical.choose_spec (Classical.choose_spec hex)
  simp only [osi] at h
  rw [h] at this
  exact ⟨_,this⟩
 .cases h
theorem Ls {b b':St->Option (VExit × St)} (hb:∀ s r,b s=some r->b' s=some r):∀ {k:Nat} {s:St} {r:VExit × St},A6 b k s=some r->A6 b' k s=some r
 | 0,_,_,h=>h
 | k+1,s,r,h=>by
  simp only [A6] at h ⊢
  obtain ⟨r1,h1,h⟩:=Ax h
  rw [hb _ _ h1,Ah]
  obtain ⟨e1,s1⟩:=r1
  cases e1 with
  | normal=>exact Ls hb h
  | exit id=>exact h
  | ret=>exact h
theorem Dl {Γ Γ':Sig} (hl:Le Γ Γ'):∀ (c:VCode) (s:St) (r:VExit × St),Ay Γ c s=some r->Ay Γ' c s=some r
 | .skip,s,r,h=>by rw [HI] at h ⊢;exact h
 | .region vr,s,r,h=>by
  rw [Hz] at h ⊢
  obtain ⟨s1,h1,h⟩:=Ax h
  rw [zat hl h1,Ah]
  exact h
 | .seq x y,s,r,h=>by
  rw [FQ] at h ⊢
  obtain ⟨⟨e1,s1⟩,h1,h⟩:=Ax h
  rw [Dl hl x _ _ h1,Ah]
  cases e1 with
  | normal=>rw [Ht] at h ⊢;exact Dl hl y _ _ h
  | exit id=>exact h
  | ret=>exact h
 | .cond t x y,s,r,h=>by
  cases t with
  | v t =>
   rw [GJ] at h ⊢
   split at h
   ·rename_i b hb
    cases b with
    | true=>rw [EU] at h ⊢;exact Dl hl x _ _ h
    | false=>rw [ES] at h ⊢;exact Dl hl y _ _ h
   .cases h
  | t t=>simp [Ay] at h
  | c d=>simp [Ay] at h
 | .block id x,s,r,h=>by
  rw [HF] at h ⊢
  obtain ⟨r1,h1,h⟩:=Ax h
  rw [Dl hl x _ _ h1,Ah]
  exact h
 | .loop x,s,r,h=>by
  rw [HJ] at h ⊢
  obtain ⟨k,hk⟩:=QZ h
  exact Ju (Ls (fun s r=>Dl hl x s r) hk)
 | .exit id,s,r,h=>by rw [I8] at h ⊢;exact h
 | .ret,s,r,h=>by rw [Jn] at h ⊢;exact h
 | .mv a b x,s,r,h=>by rw [H7] at h ⊢;exact Dl hl x _ _ h
 | .scope x,s,r,h=>by rw [HE] at h ⊢;exact Dl hl x _ _ h
 | .fail,s,r,h=>by rw [I7] at h;cases h
theorem EN {N:Nat->Sig} {Γ:Sig} (hc:Chain N Γ):∀ (c:VCode) (s:St) (r:VExit × St),Ay Γ c s=some r->∃ n,Ay (N n) c s=some r
 | .skip,s,r,h=>⟨0,by rw [HI] at h ⊢;exact h⟩
 | .region vr,s,r,h=>by
  rw [Hz] at h
  obtain ⟨s1,h1,h⟩:=Ax h
  obtain ⟨n,hn⟩:=Xy hc h1
  refine ⟨n,?_⟩
  rw [Hz,hn,Ah]
  exact h
 | .seq x y,s,r,h=>by
  rw [FQ] at h
  obtain ⟨⟨e1,s1⟩,h1,h⟩:=Ax h
  obtain ⟨n,hn⟩:=EN hc x _ _ h1
  cases e1 with
  | normal =>
   rw [Ht] at h
   obtain ⟨m,hm⟩:=EN hc y _ _ h
   refine ⟨max n m,?_⟩
   rw [FQ,Dl (hc.mono n _ (Nat.le_max_left ..)) x _ _ hn,Ah,Ht]
   exact Dl (hc.mono m _ (Nat.le_max_right ..)) y _ _ hm
  | exit id=>exact ⟨n,by rw [FQ,hn,Ah];exact h⟩
  | ret=>exact ⟨n,by rw [FQ,hn,Ah];exact h⟩
 | .cond t x y,s,r,h=>by
  cases t with
  | v t =>
   rw [GJ] at h
   split at h
   ·rename_i b hb
    cases b with
    | true =>
     rw [EU] at h
     obtain ⟨n,hn⟩:=EN hc x _ _ h
     exact ⟨n,by rw [GJ,hb];simp only [EU];exact hn⟩
    | false =>
     rw [ES] at h
     obtain ⟨n,hn⟩:=EN hc y _ _ h
     exact ⟨n,by rw [GJ,hb];simp only [ES];exact hn⟩
   ·cases h
  | t t=>simp [Ay] at h
  | c d=>simp [Ay] at h
 | .block id x,s,r,h=>by
  rw [HF] at h
  obtain ⟨r1,h1,h⟩:=Ax h
  obtain ⟨n,hn⟩:=EN hc x _ _ h1
  exact ⟨n,by rw [HF,hn,Ah];exact h⟩
 | .loop x,s,r,h=>by
  rw [HJ] at h
  obtain ⟨k,hk⟩:=QZ h
  have key:∀ (k:Nat) (s:St),A6 (Ay Γ x) k s=some r->∃ n,A6 (Ay (N n) x) k s=some r:=by
   intro k
   induction k with
   | zero=>intro s h;simp [A6] at h
   | succ k ih =>
    intro s h
    simp only [A6] at h
    obtain ⟨⟨e1,s1⟩,h1,h⟩:=Ax h
    obtain ⟨n,hn⟩:=EN hc x _ _ h1
    cases e1 with
    | normal =>
     obtain ⟨m,hm⟩:=ih s1 h
     refine ⟨max n m,?_⟩
     simp only [A6]
     rw [Dl (hc.mono n _ (Nat.le_max_left ..)) x _ _ hn,Ah]
     exact Ls (fun s r=>Dl (hc.mono m _ (Nat.le_max_right ..)) x s r) hm
    | exit id=>exact ⟨n,by simp only [A6];rw [hn,Ah];exact h⟩
    | ret=>exact ⟨n,by simp only [A6];rw [hn,Ah];exact h⟩
  obtain ⟨n,hn⟩:=key k s hk
  exact ⟨n,by rw [HJ];exact Ju hn⟩
 | .exit id,s,r,h=>⟨0,by rw [I8] at h ⊢;exact h⟩
 | .ret,s,r,h=>⟨0,by rw [Jn] at h ⊢;exact h⟩
 | .mv a b x,s,r,h=>by
  rw [H7] at h
  obtain ⟨n,hn⟩:=EN hc x _ _ h
  exact ⟨n,by rw [H7];exact hn⟩
 | .scope x,s,r,h=>by
  rw [HE] at h
  obtain ⟨n,hn⟩:=EN hc x _ _ h
  exact ⟨n,by rw [HE];exact hn⟩
 | .fail,s,r,h=>by rw [I7] at h;cases h
theorem zaN {Γ Γ':Sig} (hl:Le Γ Γ') {vf:VFunc} {args:List VVal} {H:List Ob} {r:VVal × List Ob} (h:BX Γ vf args H=some r):BX Γ' vf args H=some r:=by
 unfold BX at h ⊢
 obtain ⟨hn,h⟩:=JV h
 obtain ⟨r1,h1,h⟩:=Ax h
 rw [Ic _ _ hn,Dl hl _ _ _ h1,Ah]
 exact h
theorem XJ {N:Nat->Sig} {Γ:Sig} (hc:Chain N Γ) {vf:VFunc} {args:List VVal} {H:List Ob} {r:VVal × List Ob} (h:BX Γ vf args H=some r):∃ n,BX (N n) vf args H=some r:=by
 unfold BX at h
 obtain ⟨hn,h⟩:=JV h
 obtain ⟨r1,h1,h⟩:=Ax h
 obtain ⟨n,h2⟩:=EN hc _ _ _ h1
 refine ⟨n,?_⟩
 unfold BX
 rw [Ic _ _ hn,h2,Ah]
 exact h
section
variable {prog:FuncId->Option VFunc} {X:Sig}
theorem Qz:∀ n,Le (CT prog X n) (CT prog X (n+1))
 | 0=>fun f args H r h=>by
  simp only [CT] at h ⊢
  rw [h]
 | n+1=>fun f args H r h=>by
  have h':(match X f args H with
   | some r=>some r
   | none=>match prog f with
    | some vf=>BX (CT prog X n) vf args H
    | none=>none)=some r:=h
  show (match X f args H with
   | some r=>some r
   | none=>match prog f with
    | some vf=>BX (CT prog X (n+1)) vf args H
    | none=>none)=some r
  cases hx:X f args H with
  | some r' =>
   rw [hx] at h'
   exact h'
  | none =>
   rw [hx] at h'
   cases hp:prog f with
   | none=>rw [hp] at h';cases h'
   | some vf =>
    rw [hp] at h'
    exact zaN (Qz n) h'
theorem KQ (n m:Nat) (h:n<=m):Le (CT prog X n) (CT prog X m):=by
 induction m with
 | zero =>
  have:n=0:=by omega
  subst this
  exact fun _ _ _ _ h=>h
 | succ m ih =>
  rcases Nat.lt_or_ge m n with h1|h1
  ·have:n=m+1:=by omega
   subst this
   exact fun _ _ _ _ h=>h
  .exact fun f args H r hr=>Qz m f args H r (ih h1 f args H r hr)
theorem PO {n:Nat} {f:FuncId} {args:List VVal} {H:List Ob} {r:VVal × List Ob} (h:CT prog X n f args H=some r):Es prog X f args H=some r:=by
 unfold Es
 have hex:∃ n r,CT prog X n f args H=some r:=⟨n,r,h⟩
 rw [dif_pos hex]
 have h1:=Classical.choose_spec (Classical.choose_spec hex)
 have h2:=KQ _ (max n (Classical.choose hex)) (Nat.le_max_right ..) _ _ _ _ h1
 have h3:=KQ _ (max n (Classical.choose hex)) (Nat.le_max_left ..) _ _ _ _ h
 rw [h3] at h2
 exact h2.symm
theorem V7:Chain (CT prog X) (Es prog X) where
 mono:=KQ
 lim:=fun f args H r h=>by
  unfold Es at h
  split at h
  ·rename_i hex
   have:=Classical.choose_spec (Classical.choose_spec hex)
   simp only [osi] at h
   rw [h] at this
   exact ⟨_,this⟩
  .cases h
theorem XX {f:FuncId} {vf:VFunc} (hx:∀ args H,X f args H=none) (hf:prog f=some vf) {args:List VVal} {H:List Ob} {r:VVal × List Ob} (h:BX (Es prog X) vf args H=some r):Es prog X f args H=some r:=by
 obtain ⟨n,hn⟩:=XJ V7 h
 refine PO (n:=n+1) ?_
 simp only [CT,hx,hf]
 exact hn
end
def unI:PV->Option Int
 | .int .i64 n=>some n
 | _=>none
theorem Ra {x:PV} {n:Int} (h:unI x=some n):x=.int .i64 n:=by
 unfold unI at h
 split at h
 .simp at h;rw [h]
 .cases h
noncomputable def XI (args:List VVal) (H:List Ob):Option (VVal × List Ob):=match args,H with
 | [.own (.arg 0 0) 0 0 n],[.arr 1 xs]=>gd (n=xs.length) <| gd (n<4611686018427387904) <| ob (Ad unI xs) fun zs=>some (.tup [],[.arr 1 ((zs.mergeSort fun x y=>decide (x<=y)).map (.int .i64))])
 | _,_=>none
def Ca (sz bytes:Nat) (args:List VVal) (H:List Ob):Option (VVal × List Ob):=match args,H with
 | [.p (.slice k xs)],[]=>gd (k=sz) <| gd (xs.length*bytes<=140737488355328) <| gd (xs.length<=9223372036854775807) <| some (.fresh sz xs,[])
 | _,_=>none
def D9 (sz:Nat) (args:List VVal) (H:List Ob):Option (VVal × List Ob):=match args,H with
 | [.own (.arg 0 0) 0 0 n,.p (.int .i64 i),.p (.int .i64 j)],[.arr k xs]=>gd (k=sz) <| gd (n=xs.length) <| gd (n<=9223372036854775807) <| gd (0<=i) <| gd (i<=j) <| gd (j<=(n:Int)) <|
   some (.own (.arg 0 0) 1 0 (n - (j.toNat - i.toNat)),[.box [.undef,.fresh sz (xs.take i.toNat++xs.drop j.toNat)]])
 | _,_=>none
def Ka (sz bytes:Nat) (args:List VVal) (H:List Ob):Option (VVal × List Ob):=match args,H with
 | [.own (.arg 0 0) 0 0 n,.p (.int .i64 i),.own (.arg 1 0) 0 0 1],[.arr k xs,.arr k' [x]]=>gd (k=sz) <| gd (k'=sz) <| gd (n=xs.length) <| gd ((n+1)*bytes<=140737488355328) <| gd (0<=i) <| gd (i<=(n:Int)) <|
   some (.own (.arg 0 0) 1 0 (n+1),[.box [.undef,.fresh sz (xs.take i.toNat++x::xs.drop i.toNat)],.arr sz [x]])
 | _,_=>none
def Ig:PV->Option (List Int)
 | .agg l=>Ad unI l
 | _=>none
abbrev Ct (l:List Int):PV:=.agg (l.map (PV.int .i64))
def hdR (l:List Int):Int:=l.headD 0
noncomputable def XK (K:Nat) (g:FuncId) (args:List VVal) (H:List Ob):Option (VVal × List Ob):=match args,H with
 | [.own (.arg 0 0) 0 0 n,.p (.fn g')],[.arr k xs]=>gd (g'=g) <| gd (k=K) <| gd (n=xs.length) <| gd (n<1000000) <| ob (Ad Ig xs) fun ps =>
   gd (∀ p∈ps,p.length=K/\0<=hdR p/\hdR p<4611686018427387904) <| gd ((ps.map hdR).Nodup) (some (.tup [],[.arr K ((ps.mergeSort fun x y=>decide (hdR x<=hdR y)).map Ct)]))
 | _,_=>none
theorem Qh:∀ l:List Int,Ad unI (l.map (PV.int .i64))=some l
 | []=>rfl
 | a::l=>by
  rw [lpc]
  simp only [Ad,unI,ob,Qh l]
theorem Qg:∀ l:List (List Int),Ad Ig (l.map Ct)=some l
 | []=>rfl
 | a::l=>by
  rw [lpc]
  simp only [Ad,Ig,Ct,Qh,ob,Qg l]
theorem Ml {K:Nat} {g:FuncId} {l:List (List Int)} (hn:l.length<1000000) (hl:∀ p∈l,p.length=K/\0<=hdR p/\hdR p<4611686018427387904) (hd:(l.map hdR).Nodup):XK K g [.own (.arg 0 0) 0 0 l.length,.p (.fn g)] [.arr K (l.map Ct)]=some (.tup [],[.arr K ((l.mergeSort fun x y=>decide (hdR x<=hdR y)).map Ct)]):=by
 simp only [XK,gd,ob,Qg,if_true,llm]
 rw [if_pos hn,if_pos hl,if_pos hd]
noncomputable def XS:Sig:=fun f args H=>if f=120 then XI args H else if f=103 then Ca 2 16 args H else if f=104 then Ca 21 168 args H else if f=105 then Ca 3 24 args H else if f=106 then Ca 2 16 args H else if f=107 then Ca 6 48 args H else if f=108 then Ca 7 56 args H else if f=128 then D9 6 args H else if f=116 then D9 7 args H else if f=129 then Ka 7 56 args H else if f=160 then D9 21 args H else if f=157 then XK 2 158 args H else if f=162 then XK 21 163 args H else if f=166 then XK 3 167 args H else none
noncomputable abbrev V:Sig:=Es prog XS
set_option maxRecDepth 8000
theorem zca {f:FuncId} {vf:VFunc} (hf:prog f=some vf) (args:List VVal) (H:List Ob):XS f args H=none:=by
 unfold XS
 have h0:¬ f=120:=fun e=>by
  subst e
  exact nomatch (show (none:Option VFunc)=some vf from hf)
 have h1:¬ f=103:=fun e=>by
  subst e
  exact nomatch (show (none:Option VFunc)=some vf from hf)
 have h2:¬ f=104:=fun e=>by
  subst e
  exact nomatch (show (none:Option VFunc)=some vf from hf)
 have h3:¬ f=105:=fun e=>by
  subst e
  exact nomatch (show (none:Option VFunc)=some vf from hf)
 have h4:¬ f=106:=fun e=>by
  subst e
  exact nomatch (show (none:Option VFunc)=some vf from hf)
 have h5:¬ f=107:=fun e=>by
  subst e
  exact nomatch (show (none:Option VFunc)=some vf from hf)
 have h6:¬ f=108:=fun e=>by
  subst e
  exact nomatch (show (none:Option VFunc)=some vf from hf)
 have h7:¬ f=128:=fun e=>by
  subst e
  exact nomatch (show (none:Option VFunc)=some vf from hf)
 have h8:¬ f=116:=fun e=>by
  subst e
  exact nomatch (show (none:Option VFunc)=some vf from hf)
 have h9:¬ f=129:=fun e=>by
  subst e
  exact nomatch (show (none:Option VFunc)=some vf from hf)
 have h10:¬ f=160:=fun e=>by
  subst e
  exact nomatch (show (none:Option VFunc)=some vf from hf)
 have h11:¬ f=157:=fun e=>by
  subst e
  exact nomatch (show (none:Option VFunc)=some vf from hf)
 have h12:¬ f=162:=fun e=>by
  subst e
  exact nomatch (show (none:Option VFunc)=some vf from hf)
 have h13:¬ f=166:=fun e=>by
  subst e
  exact nomatch (show (none:Option VFunc)=some vf from hf)
 rw [if_neg h0,if_neg h1,if_neg h2,if_neg h3,if_neg h4,if_neg h5,if_neg h6,if_neg h7,if_neg h8,if_neg h9,if_neg h10,if_neg h11,if_neg h12,if_neg h13]
theorem Hn {f:FuncId} {vf:VFunc} (hf:prog f=some vf) {args:List VVal} {H:List Ob} {r:VVal × List Ob} (h:BX V vf args H=some r):V f args H=some r:=XX (zca hf) hf h
theorem Ac {f:FuncId} {vf:VFunc} (hf:prog f=some vf) {args:List VVal} {H:List Ob} {r:VVal × List Ob} (h:wp (BX V vf args H) (·=r)):V f args H=some r:=Hn hf (zaw h)
theorem V_x {f:FuncId} {args:List VVal} {H:List Ob} {r:VVal × List Ob} (h:XS f args H=some r):V f args H=some r:=PO (n:=0) h
theorem zaD {xs:List PV} (hn:xs.length<1000000):V 103 [.p (.slice 2 xs)] []=some (.fresh 2 xs,[]):=V_x (by
 have e0:(103:Nat) ≠ 120:=by decide
 simp only [XS,if_neg e0,if_true,Ca,gd,true_and]
 rw [if_pos (by omega),if_pos (by omega)])
theorem zaG {xs:List PV} (hn:xs.length<1000000):V 104 [.p (.slice 21 xs)] []=some (.fresh 21 xs,[]):=V_x (by
 have e0:(104:Nat) ≠ 120:=by decide
 have e1:(104:Nat) ≠ 103:=by decide
 simp only [XS,if_neg e0,if_neg e1,if_true,Ca,gd,true_and]
 rw [if_pos (by omega),if_pos (by omega)])
theorem zaF {xs:List PV} (hn:xs.length<1000000):V 105 [.p (.slice 3 xs)] []=some (.fresh 3 xs,[]):=V_x (by
 have e0:(105:Nat) ≠ 120:=by decide
 have e1:(105:Nat) ≠ 103:=by decide
 have e2:(105:Nat) ≠ 104:=by decide
 simp only [XS,if_neg e0,if_neg e1,if_neg e2,if_true,Ca,gd,true_and]
 rw [if_pos (by omega),if_pos (by omega)])
theorem zaH {xs:List PV} (hn:xs.length<1000000):V 106 [.p (.slice 2 xs)] []=some (.fresh 2 xs,[]):=V_x (by
 have e0:(106:Nat) ≠ 120:=by decide
 have e1:(106:Nat) ≠ 103:=by decide
 have e2:(106:Nat) ≠ 104:=by decide
 have e3:(106:Nat) ≠ 105:=by decide
 simp only [XS,if_neg e0,if_neg e1,if_neg e2,if_neg e3,if_true,Ca,gd,true_and]
 rw [if_pos (by omega),if_pos (by omega)])
theorem zaE {xs:List PV} (hn:xs.length<1000000):V 107 [.p (.slice 6 xs)] []=some (.fresh 6 xs,[]):=V_x (by
 have e0:(107:Nat) ≠ 120:=by decide
 have e1:(107:Nat) ≠ 103:=by decide
 have e2:(107:Nat) ≠ 104:=by decide
 have e3:(107:Nat) ≠ 105:=by decide
 have e4:(107:Nat) ≠ 106:=by decide
 simp only [XS,if_neg e0,if_neg e1,if_neg e2,if_neg e3,if_neg e4,if_true,Ca,gd,true_and]
 rw [if_pos (by omega),if_pos (by omega)])
theorem Qy {xs:List PV} (hn:xs.length<1000000):V 108 [.p (.slice 7 xs)] []=some (.fresh 7 xs,[]):=V_x (by
 have e0:(108:Nat) ≠ 120:=by decide
 have e1:(108:Nat) ≠ 103:=by decide
 have e2:(108:Nat) ≠ 104:=by decide
 have e3:(108:Nat) ≠ 105:=by decide
 have e4:(108:Nat) ≠ 106:=by decide
 have e5:(108:Nat) ≠ 107:=by decide
 simp only [XS,if_neg e0,if_neg e1,if_neg e2,if_neg e3,if_neg e4,if_neg e5,if_true,Ca,gd,true_and]
 rw [if_pos (by omega),if_pos (by omega)])
theorem zcC {xs:List PV} {i j:Int} (hn:xs.length<1000000) (h0:0<=i) (h1:i<=j) (h2:j<=xs.length):V 128 [.own (.arg 0 0) 0 0 xs.length,.p (.int .i64 i),.p (.int .i64 j)] [.arr 6 xs]=some (.own (.arg 0 0) 1 0 (xs.length - (j.toNat - i.toNat)),[.box [.undef,.fresh 6 (xs.take i.toNat++xs.drop j.toNat)]]):=V_x (by
 have e0:(128:Nat) ≠ 120:=by decide
 have e1:(128:Nat) ≠ 103:=by decide
 have e2:(128:Nat) ≠ 104:=by decide
 have e3:(128:Nat) ≠ 105:=by decide
 have e4:(128:Nat) ≠ 106:=by decide
 have e5:(128:Nat) ≠ 107:=by decide
 have e6:(128:Nat) ≠ 108:=by decide
 simp only [XS,if_neg e0,if_neg e1,if_neg e2,if_neg e3,if_neg e4,if_neg e5,if_neg e6,if_true,D9,gd,true_and]
 rw [if_pos (by omega),if_pos h0,if_pos h1,if_pos h2])
theorem zcD {xs:List PV} {i j:Int} (hn:xs.length<1000000) (h0:0<=i) (h1:i<=j) (h2:j<=xs.length):V 116 [.own (.arg 0 0) 0 0 xs.length,.p (.int .i64 i),.p (.int .i64 j)] [.arr 7 xs]=some (.own (.arg 0 0) 1 0 (xs.length - (j.toNat - i.toNat)),[.box [.undef,.fresh 7 (xs.take i.toNat++xs.drop j.toNat)]]):=V_x (by
 have e0:(116:Nat) ≠ 120:=by decide
 have e1:(116:Nat) ≠ 103:=by decide
 have e2:(116:Nat) ≠ 104:=by decide
 have e3:(116:Nat) ≠ 105:=by decide
 have e4:(116:Nat) ≠ 106:=by decide
 have e5:(116:Nat) ≠ 107:=by decide
 have e6:(116:Nat) ≠ 108:=by decide
 have e7:(116:Nat) ≠ 128:=by decide
 simp only [XS,if_neg e0,if_neg e1,if_neg e2,if_neg e3,if_neg e4,if_neg e5,if_neg e6,if_neg e7,if_true,D9,gd,true_and]
 rw [if_pos (by omega),if_pos h0,if_pos h1,if_pos h2])
theorem zcE {xs:List PV} {i j:Int} (hn:xs.length<1000000) (h0:0<=i) (h1:i<=j) (h2:j<=xs.length):V 160 [.own (.arg 0 0) 0 0 xs.length,.p (.int .i64 i),.p (.int .i64 j)] [.arr 21 xs]=some (.own (.arg 0 0) 1 0 (xs.length - (j.toNat - i.toNat)),[.box [.undef,.fresh 21 (xs.take i.toNat++xs.drop j.toNat)]]):=V_x (by
 have e0:(160:Nat) ≠ 120:=by decide
 have e1:(160:Nat) ≠ 103:=by decide
 have e2:(160:Nat) ≠ 104:=by decide
 have e3:(160:Nat) ≠ 105:=by decide
 have e4:(160:Nat) ≠ 106:=by decide
 have e5:(160:Nat) ≠ 107:=by decide
 have e6:(160:Nat) ≠ 108:=by decide
 have e7:(160:Nat) ≠ 128:=by decide
 have e8:(160:Nat) ≠ 116:=by decide
 have e9:(160:Nat) ≠ 129:=by decide
 simp only [XS,if_neg e0,if_neg e1,if_neg e2,if_neg e3,if_neg e4,if_neg e5,if_neg e6,if_neg e7,if_neg e8,if_neg e9,if_true,D9,gd,true_and]
 rw [if_pos (by omega),if_pos h0,if_pos h1,if_pos h2])
theorem zbc {l:List (List Int)} (hn:l.length<1000000) (hl:∀ p∈l,p.length=2/\0<=hdR p/\hdR p<4611686018427387904) (hd:(l.map hdR).Nodup):V 157 [.own (.arg 0 0) 0 0 l.length,.p (.fn 158)] [.arr 2 (l.map Ct)]=some (.tup [],[.arr 2 ((l.mergeSort fun x y=>decide (hdR x<=hdR y)).map Ct)]):=V_x (by
 have e0:(157:Nat) ≠ 120:=by decide
 have e1:(157:Nat) ≠ 103:=by decide
 have e2:(157:Nat) ≠ 104:=by decide
 have e3:(157:Nat) ≠ 105:=by decide
 have e4:(157:Nat) ≠ 106:=by decide
 have e5:(157:Nat) ≠ 107:=by decide
 have e6:(157:Nat) ≠ 108:=by decide
 have e7:(157:Nat) ≠ 128:=by decide
 have e8:(157:Nat) ≠ 116:=by decide
 have e9:(157:Nat) ≠ 129:=by decide
 have e10:(157:Nat) ≠ 160:=by decide
 simp only [XS,if_neg e0,if_neg e1,if_neg e2,if_neg e3,if_neg e4,if_neg e5,if_neg e6,if_neg e7,if_neg e8,if_neg e9,if_neg e10,if_true]
 exact Ml hn hl hd)
theorem zbe {l:List (List Int)} (hn:l.length<1000000) (hl:∀ p∈l,p.length=21/\0<=hdR p/\hdR p<4611686018427387904) (hd:(l.map hdR).Nodup):V 162 [.own (.arg 0 0) 0 0 l.length,.p (.fn 163)] [.arr 21 (l.map Ct)]=some (.tup [],[.arr 21 ((l.mergeSort fun x y=>decide (hdR x<=hdR y)).map Ct)]):=V_x (by
 have e0:(162:Nat) ≠ 120:=by decide
 have e1:(162:Nat) ≠ 103:=by decide
 have e2:(162:Nat) ≠ 104:=by decide
 have e3:(162:Nat) ≠ 105:=by decide
 have e4:(162:Nat) ≠ 106:=by decide
 have e5:(162:Nat) ≠ 107:=by decide
 have e6:(162:Nat) ≠ 108:=by decide
 have e7:(162:Nat) ≠ 128:=by decide
 have e8:(162:Nat) ≠ 116:=by decide
 have e9:(162:Nat) ≠ 129:=by decide
 have e10:(162:Nat) ≠ 160:=by decide
 have e11:(162:Nat) ≠ 157:=by decide
 simp only [XS,if_neg e0,if_neg e1,if_neg e2,if_neg e3,if_neg e4,if_neg e5,if_neg e6,if_neg e7,if_neg e8,if_neg e9,if_neg e10,if_neg e11,if_true]
 exact Ml hn hl hd)
theorem zbd {l:List (List Int)} (hn:l.length<1000000) (hl:∀ p∈l,p.length=3/\0<=hdR p/\hdR p<4611686018427387904) (hd:(l.map hdR).Nodup):V 166 [.own (.arg 0 0) 0 0 l.length,.p (.fn 167)] [.arr 3 (l.map Ct)]=some (.tup [],[.arr 3 ((l.mergeSort fun x y=>decide (hdR x<=hdR y)).map Ct)]):=V_x (by
 have e0:(166:Nat) ≠ 120:=by decide
 have e1:(166:Nat) ≠ 103:=by decide
 have e2:(166:Nat) ≠ 104:=by decide
 have e3:(166:Nat) ≠ 105:=by decide
 have e4:(166:Nat) ≠ 106:=by decide
 have e5:(166:Nat) ≠ 107:=by decide
 have e6:(166:Nat) ≠ 108:=by decide
 have e7:(166:Nat) ≠ 128:=by decide
 have e8:(166:Nat) ≠ 116:=by decide
 have e9:(166:Nat) ≠ 129:=by decide
 have e10:(166:Nat) ≠ 160:=by decide
 have e11:(166:Nat) ≠ 157:=by decide
 have e12:(166:Nat) ≠ 162:=by decide
 simp only [XS,if_neg e0,if_neg e1,if_neg e2,if_neg e3,if_neg e4,if_neg e5,if_neg e6,if_neg e7,if_neg e8,if_neg e9,if_neg e10,if_neg e11,if_neg e12,if_true]
 exact Ml hn hl hd)
theorem zcu {xs:List PV} {x:PV} {i:Int} (hn:xs.length<1000000) (h0:0<=i) (h1:i<=xs.length):V 129 [.own (.arg 0 0) 0 0 xs.length,.p (.int .i64 i),.own (.arg 1 0) 0 0 1] [.arr 7 xs,.arr 7 [x]]=some (.own (.arg 0 0) 1 0 (xs.length+1),[.box [.undef,.fresh 7 (xs.take i.toNat++x::xs.drop i.toNat)],.arr 7 [x]]):=V_x (by
 have e0:(129:Nat) ≠ 120:=by decide
 have e1:(129:Nat) ≠ 103:=by decide
 have e2:(129:Nat) ≠ 104:=by decide
 have e3:(129:Nat) ≠ 105:=by decide
 have e4:(129:Nat) ≠ 106:=by decide
 have e5:(129:Nat) ≠ 107:=by decide
 have e6:(129:Nat) ≠ 108:=by decide
 have e7:(129:Nat) ≠ 128:=by decide
 have e8:(129:Nat) ≠ 116:=by decide
 simp only [XS,if_neg e0,if_neg e1,if_neg e2,if_neg e3,if_neg e4,if_neg e5,if_neg e6,if_neg e7,if_neg e8,if_true,Ka,gd,true_and]
 rw [if_pos (by omega),if_pos h0,if_pos h1])
attribute [go_sem] TY SQ SP SO TX Mg Mf Me SN SM Mc TW SL SK SJ SI SH JM SG TV Mb SF SE SD SC SB SA Sz Sy Sx TU Sw Sv Su Ss Sr Sq Sp So Sn TT Sm Sl Sk Sj JL Si Sh Sf TS Se Sd Sc Sb Sa R9 R7 R6 R5 R4 R3 R2 R1 TR R0 RZ JK RY RX RW J4 L9 RV L8 RU RT RR RQ RP If Mr RO RN RL RK RJ TQ RI RH RG TP RF RD RC RB RA Rz Ry Rx Rw Rv TO L6 Ru Rt Rs TN Rr JJ Rp Ro TM Rn Rm TK TJ TI TH TG TE TD TC TB TA Tz Ty Tx Tw Ex Tv Tu Tt Mq Ts Ik J1 J0 Tq Tp To Tn Tm Tl Tk Tj Ti Th Tf Te Td Tc Ij Tb Mp FB JY Ta vb9 S9 S8 Mo S7 S4 S3 S2 S1 vf10 vf100 vf101 vf109 vf11 vf110 vf111 vf112 vf115 vf118 vf119 vf12 vf121 vf122 vf123 vf124 vf125 vf126 vf127 vf13 vf130 vf131 vf132 vf133 vf134 vf135 vf136 vf137 vf138 vf139 vf14 vf140 vf141 vf142 vf143 vf144 vf145 vf146 vf147 vf149 vf15 vf150 vf151 vf152 vf153 vf154 vf155 vf156 vf159 vf16 vf161 vf164 vf165 vf168 vf169 vf170 vf172 vf173 vf175 vf176 vf177 vf178 vf179 vf18 vf181 vf184 vf185 vf186 vf187 vf188 vf19 vf191 vf192 vf193 vf194 vf195 vf196 vf197 vf198 vf199 vf20 vf201 vf202 vf205 vf206 vf208 vf21 vf210 vf211 vf212 vf22 vf224 vf225 vf227 vf229 vf230 vf231 vf232 vf233 vf234 vf235 vf24 vf244 vf261 vf262 vf269 vf27 vf271 vf272 vf273 vf274 vf28 vf284 vf285 vf30 vf33 vf35 vf38 vf40 vf42 vf43 vf44 vf45 vf46 vf47 vf48 vf49 vf50 vf51 vf52 vf53 vf54 vf55 vf57 vf58 vf59 vf60 vf61 vf62 vf64 vf65 vf66 vf67 vf68 vf69 vf70 vf71 vf76 vf80 vf82 vf83 vf84 vf85 vf86 vf87 vf88 vf89 vf9 vf90 vf91 vf92 vf93 vf96 vf97 vf98 vf99
structure Nd where
 id:Int
 parent:Int
 name:ByteArray
 control:Int
 kind:Int
 owner:Int
 deriving DecidableEq
def Nd.pv (n:Nd):PV:=.agg [.int .i64 n.id,.int .i64 n.parent,.str n.name,.int .i64 n.control,.int .i64 n.kind,.int .i64 n.owner]
def Nd.vv (n:Nd):VVal:=.agg [.p (.int .i64 n.id),.p (.int .i64 n.parent),.p (.str n.name),.p (.int .i64 n.control),.p (.int .i64 n.kind),.p (.int .i64 n.owner)]
abbrev An (ns:List Nd):PV:=.slice 6 (ns.map Nd.pv)
structure Tr where
 nodes:List Nd
 next:Int
abbrev Tr.vv (t:Tr):VVal:=.agg [.p (An t.nodes),.p (.int .i64 t.next)]
abbrev Tr.fv (t:Tr):VVal:=.agg [.fresh 6 (t.nodes.map Nd.pv),.p (.int .i64 t.next)]
abbrev AG (xs:List Int):PV:=.slice 1 (xs.map (.int .i64))
attribute [go_sem] Nd.pv Et
theorem Xl (ns:List Nd):(ns.map Nd.pv).all PV.flat=true:=by
 rw [List.all_eq_true]
 intro x hx
 obtain ⟨n,_,rfl⟩:=lmm.1 hx
 rfl
theorem YA (k:IntKind) (xs:List Int):(xs.map (PV.int k)).all PV.flat=true:=by
 rw [List.all_eq_true]
 intro x hx
 obtain ⟨n,_,rfl⟩:=lmm.1 hx
 rfl
attribute [go_sem] Xl YA
theorem zac (xs:List PV):V 10 [.p (.slice 1 xs)] []=some (.p (.bool (decide (xs.length<=600))),[]):=by
 refine Hn (vf:=vf10) rfl ?_
 refine w0 ?_
 simp only [show (600:Int)=((600:Nat):Int) from rfl,Int.ofNat_le]
abbrev AV (L:List Int) (a:Nat):Ob:=.box [.p (AG L),.p (.int .i64 a)]
theorem zbm (L:List Int):V 12 [.p (AG L)] []=some (.boxed [.p (AG L),.p (.int .i64 0)],[]):=by
 refine Hn (vf:=vf12) rfl ?_
 exact z0
def AA (L:List Int) (a:Nat) (n:Int):Int:=if 1<=n then (L.getD a 0) % n else 0
def Af (L:List Int) (a:Nat) (n:Int):Nat:=if a<L.length/\1<=n then a+1 else a
theorem PE {x n:Int} (h:1<=n):x % n=if x.tmod n<0 then x.tmod n+n else x.tmod n:=by
 have h3:=Int.emod_nonneg x (show n ≠ 0 by omega)
 have h4:=Int.emod_lt_of_pos x (show 0<n by omega)
 have h5:=Int.tmod_eq_emod (a:=x) (b:=n)
 rw [h5]
 split<;>split<;>omega
theorem CP (L:List Int) (a:Nat) (n:Int) (hL:L.length<4611686018427387904) (hn:n<4611686018427387904):V 16 [.ptr (.arg 0 0) 0 0,.p (.int .i64 n)] [AV L a]=some (.p (.int .i64 (AA L a n)),[AV L (Af L a n)]):=by
 refine Ac (vf:=vf16) rfl ?_
 by_cases ha:L.length<=a
 ·refine w1 ha ?_
  simp [AA,Af,List.getD_eq_getElem?_getD,List.getElem?_eq_none ha,Nat.not_lt.2 ha]
 ·have hx:L[a]?=some (L.getD a 0):=by
   rw [List.getD_eq_getElem?_getD,lgg (by omega)];rfl
  have ht:(((a:Int)+1 - 1).toNat)=a:=by omega
  refine w1 ha ?_
  repeat' ((first|refine AM ?_ ?_|refine AL ?_ ?_|refine AP ?_ ?_|refine AO ?_ ?_|refine AJ ?_ ?_|refine AI ?_ ?_|refine AN ?_ ?_|refine AK ?_ ?_|refine Ae ?_ ?_|refine AR ?_ ?_)<;>intro hb<;>simp -implicitDefEqProofs (disch:=omega) only [hb,hx,ht,go_sem])
  ·simp [AA,Af,show ¬ 1<=n by omega]
  ·have:=PE (x:=L.getD a 0) (n:=n) (by omega)
   rw [if_pos (by assumption)] at this
   have h1:=Int.tmod_lt_of_pos (L.getD a 0) (show 0<n by omega)
   have h2:=Int.emod_nonneg (L.getD a 0) (show n ≠ 0 by omega)
   rw [En (by omega) (by omega),<- this]
   simp only [AA,Af,show 1<=n by omega,show a<L.length by omega,and_self,if_true,AV,Int.natCast_add,Int.natCast_one]
  ·have:=PE (x:=L.getD a 0) (n:=n) (by omega)
   rw [if_neg (by assumption)] at this
   rw [<- this]
   simp only [AA,Af,show 1<=n by omega,show a<L.length by omega,and_self,if_true,AV,Int.natCast_add,Int.natCast_one]
theorem Cl (L:List Int) (a:Nat) (n:Int):0<=AA L a n:=by
 unfold AA
 split
 .exact Int.emod_nonneg _ (by omega)
 .omega
theorem Cm (L:List Int) (a:Nat) {n:Int} (h:1<=n):AA L a n<n:=by
 unfold AA
 rw [if_pos h]
 exact Int.emod_lt_of_pos _ (by omega)
theorem Bt {α:Type} {l:List α} {k:Nat} {x:α} (h:l[k]?=some x):l.take (k+1)=l.take k++[x]:=by
 rw [List.take_add_one,h]
 rfl
theorem Vf {α β:Type} (f:α->β) (l:List α):List.take l.length (l.map f)=l.map f:=by
 rw [ltl (by simp)]
theorem Ve {α β:Type} (f:α->β) (l:List α) (x:β):List.take (l.length+1) (l.map f++[x])=l.map f++[x]:=by
 rw [ltl (by simp)]
attribute [go_sem] Vf Ve
def upR:List Nd->Int->List Int
 | [],_=>[]
 | n::ns,id=>if n.id=id then id::upR ns n.parent else upR ns id
def up (ns:List Nd) (id:Int):List Int:=upR ns.reverse id
theorem KE:∀ (ns:List Nd) (id:Int),(upR ns id).length<=ns.length
 | [],_=>lrf _
 | n::ns,id=>by
  unfold upR
  split
  .have:=KE ns n.parent;simp;omega
  .have:=KE ns id;simp;omega
theorem SR (t:Tr) (id:Int) (hl:t.nodes.length<1000000):V 140 [t.vv,.p (.int .i64 id)] []=some (.fresh 1 ((up t.nodes id).map (.int .i64)),[]):=by
 refine Ac (vf:=vf140) rfl ?_
 refine w0 ?_
 refine Aj t.nodes.length (fun k s=>∃ (acc:List Int) (cur:Int) (v:Nat),up t.nodes id=acc++upR (t.nodes.reverse.drop k) cur/\acc.length<=k/\s.pe 1=.p (.int .i64 cur)/\s.pe 2=.ptr (.slot 2 0) 0 0/\s.pe 5=.own (.slot 5 0) v 0 acc.length/\s.pe 6=.p (.int .i64 ((t.nodes.length:Int) - 1 - k))/\s.h (.slot 2 0)=some (0,.box [.p (An t.nodes),.p (.int .i64 t.next)])/\s.h (.slot 5 0)=some (v,.arr 1 (acc.map (.int .i64)))) ?_ ?_
 ·exact ⟨[],id,0,by simp [up,Hd,D6,VHeap.upd,As,List.getD]⟩
 ·rintro k s hk ⟨acc,cur,v,hup,hlen,h1,h2,h5,h6,hh2,hh5⟩
  refine w6 h1 h2 h5 h6 hh2 hh5 ?_
  refine Ae (fun hge=>?_) (fun hlt=>?_)
  ·have hk':k<t.nodes.length:=by omega
   have hn:t.nodes[((t.nodes.length:Int) - 1 - k).toNat]?=some t.nodes[t.nodes.length - 1 - k]:=by
    rw [show ((t.nodes.length:Int) - 1 - k).toNat=t.nodes.length - 1 - k by omega]
    exact lgg (by omega)
   have hd:t.nodes.reverse.drop k=t.nodes[t.nodes.length - 1 - k]::t.nodes.reverse.drop (k+1):=by
    rw [ldg (by simpa using hk')]
    simp
   generalize t.nodes[t.nodes.length - 1 - k]=n at hn hd
   rw [hd] at hup
   refine w8 h1 h2 h5 h6 hh2 hh5 hn hge ?_
   repeat' ((first|refine AM ?_ ?_|refine AL ?_ ?_|refine AP ?_ ?_|refine AO ?_ ?_|refine AJ ?_ ?_|refine AI ?_ ?_|refine AN ?_ ?_|refine AK ?_ ?_|refine Ae ?_ ?_|refine AR ?_ ?_)<;>intro hb<;>simp -implicitDefEqProofs (disch:=omega) only [hb,h1,h2,h5,h6,hh2,hh5,hn,hge,go_sem])
   ·rw [upR,if_pos (by assumption)] at hup
    refine ⟨hk',acc++[cur],n.parent,v+1,by rw [hup];simp,by simp;omega,rfl,by simp,by congr 2;omega,by simp⟩
   ·rw [upR,if_neg (by assumption)] at hup
    exact ⟨hk',acc,cur,v,hup,by omega,rfl,rfl,by congr 2;omega,rfl⟩
  ·have hd:t.nodes.reverse.drop k=[]:=ldl (by simp;omega)
   rw [hd,upR,lan] at hup
   exact z7 h1 h2 h5 h6 hh2 hh5 hup
def Do (c:Int):Bool:=decide (97<=c/\c<=122) || decide (65<=c/\c<=90) || decide (48<=c/\c<=57) || decide (c=95) || decide (c=45)
def B8 (s:ByteArray):Bool:=decide (s.size ≠ 0) && decide (s.size<=32) && decide (s.data.toList[0]? ≠ some 45) && s.data.toList.all fun b=>Do b.toNat
theorem Ww {c:Int} (h:(97<=c/\c<=122) \/ (65<=c/\c<=90) \/ (48<=c/\c<=57) \/ c=95 \/ c=45):Do c=true:=by
 simp only [Do,bot,decide_eq_true_eq]
 omega
theorem VK {c:Int} (h:¬ ((97<=c/\c<=122) \/ (65<=c/\c<=90) \/ (48<=c/\c<=57) \/ c=95 \/ c=45)):Do c=false:=by
 rw [Bool.eq_false_iff]
 intro h1
 simp only [Do,bot,decide_eq_true_eq] at h1
 omega
theorem Qn (c:Int):V 233 [.p (.int .u8 c)] []=some (.p (.bool (Do c)),[]):=by
 refine Ac (vf:=vf233) rfl ?_
 refine w0 ?_
 repeat' ((first|refine AM ?_ ?_|refine AL ?_ ?_|refine AP ?_ ?_|refine AO ?_ ?_|refine AJ ?_ ?_|refine AI ?_ ?_|refine AN ?_ ?_|refine AK ?_ ?_|refine Ae ?_ ?_|refine AR ?_ ?_)<;>intro hb<;>simp -implicitDefEqProofs (disch:=omega) only [hb,go_sem])
 all_goals
  simp only [Do,pmi,VVal.p.injEq,PV.bool.injEq,and_true]
  rw [Bool.eq_iff_iff]
  simp only [bot,decide_eq_true_eq,true_iff,bft,false_iff]
  first|omega|simp
theorem OZ (s:ByteArray):s.size=s.data.toList.length:=rfl
theorem QD {α:Type} {p:α->Bool} {l:List α} {k:Nat} (h:(l.take k).all p=true) {x:α} (hx:l[k]?=some x) (hp:p x=true):(l.take (k+1)).all p=true:=by
 rw [List.take_add_one,hx]
 simp only [List.all_append,h,Option.toList,List.all_cons,List.all_nil,hp,bas]
theorem all_not {α:Type} {p:α->Bool} {l:List α} {k:Nat} {x:α} (hx:l[k]?=some x) (hp:p x=false):l.all p=false:=by
 rw [List.all_eq_false]
 exact ⟨x,lmg hx,by simp [hp]⟩
theorem Lh (x:UInt8):((x.toNat:Int)=45)=(x=45):=by
 rw [eq_iff_iff]
 constructor
 ·intro h
  have:x.toNat=(45:UInt8).toNat:=by simp;omega
  exact UInt8.toNat_inj.1 this
 ·rintro rfl
  rfl
theorem O0 (s:ByteArray):V 97 [.p (.str s)] []=some (.p (.bool (B8 s)),[]):=by
 refine Ac (vf:=vf97) rfl ?_
 have hs:=OZ s
 by_cases h0:(s.size:Int)=0
 ·refine w2 @Hg h0 ?_
  simp [B8,show s.size=0 by omega]
 ·by_cases h1:32<(s.size:Int)
  ·refine w3 @Hg h0 h1 ?_
   simp [B8,show ¬ s.size<=32 by omega]
  ·have hx:s.data.toList[0]?=some s.data.toList[0]:=lgg (by omega)
   generalize s.data.toList[0]=x at hx
   have hz:(0:Int).toNat=0:=rfl
   refine w5 @Hg h0 h1 hx hz ?_
   by_cases h45:x=45
   ·have h45':((x.toNat:Nat):Int)=45:=by rw [Lh];exact h45
    refine w1 h45' ?_
    simp [B8,hx,h45]
   ·have h45':¬ ((x.toNat:Nat):Int)=45:=by rw [Lh];exact h45
    refine w1 h45' ?_
    refine Aj s.size (fun k t=>(s.data.toList.take k).all (fun b=>Do b.toNat)=true/\t.pe 0=.p (.str s)/\t.pe 3=.p (.int .i64 k)) ?_ ?_
    ·simp [Hd,D6]
    ·rintro k t hk ⟨hall,h2,h3⟩
     refine w2 h2 h3 ?_
     refine Ae (fun hlt=>?_) (fun hge=>?_)
     ·have hy:s.data.toList[k]?=some s.data.toList[k]:=lgg (by omega)
      generalize s.data.toList[k]=y at hy
      refine w5 h2 h3 @Hg hy hlt ?_
      repeat' ((first|refine AM ?_ ?_|refine AL ?_ ?_|refine AP ?_ ?_|refine AO ?_ ?_|refine AJ ?_ ?_|refine AI ?_ ?_|refine AN ?_ ?_|refine AK ?_ ?_|refine Ae ?_ ?_|refine AR ?_ ?_)<;>intro hb<;>simp -implicitDefEqProofs (disch:=omega) only [hb,Hg,hy,h2,h3,go_sem])
      all_goals first
       | exact ⟨by omega,QD hall hy (Ww (by omega)),by simp only [Int.natCast_add,Int.natCast_one]⟩
       | (have:=all_not (p:=fun b:UInt8=>Do b.toNat) hy (VK (by omega));simp [B8,this])
     ·refine w3 h2 h3 hge ?_
      have hall':s.data.toList.all (fun b=>Do b.toNat)=true:=by rw [ltl (by omega)] at hall;exact hall
      simp only [B8,hall',hx,show s.size ≠ 0 by omega,show s.size<=32 by omega,ne_eq,not_false_eq_true,decide_true,bas,osi,h45]
theorem Yk (s:ByteArray) (hl:s.size<9223372036854775808):V 201 [.p (.str s)] []=some (.p (.bool (B8 s)),[]):=by
 refine Ac (vf:=vf201) rfl ?_
 have hs:=OZ s
 refine w0 ?_
 refine Aj s.size (fun k t=>(s.data.toList.take k).all (fun b=>Do b.toNat)=true/\t.pe 0=.p (.str s)/\t.pe 6=.p (.slice 1 (s.data.toList.map fun b=>.int .u8 b.toNat))/\t.pe 7=.p (.int .i64 s.size)/\t.pe 8=.p (.int .i64 k)) ?_ ?_
 ·exact ⟨by simp,rfl,rfl,rfl,rfl⟩
 ·rintro k t hk ⟨hall,h0,h6,h7,h8⟩
  refine w4 h0 h6 h7 h8 ?_
  refine Ae (fun hlt=>?_) (fun hge=>?_)
  ·have hy:s.data.toList[k]?=some s.data.toList[k]:=lgg (by omega)
   generalize s.data.toList[k]=y at hy
   refine w7 h0 h6 h7 h8 hy hlt @Qn ?_
   repeat' ((first|refine AM ?_ ?_|refine AL ?_ ?_|refine AP ?_ ?_|refine AO ?_ ?_|refine AJ ?_ ?_|refine AI ?_ ?_|refine AN ?_ ?_|refine AK ?_ ?_|refine Ae ?_ ?_|refine AR ?_ ?_)<;>intro hb<;>simp -implicitDefEqProofs (disch:=omega) only [hb,h0,h6,h7,h8,hy,Qn,go_sem])
   ·have:=all_not (p:=fun b:UInt8=>Do b.toNat) hy (by assumption)
    simp [B8,this]
   ·exact ⟨by omega,QD hall hy (by assumption),by simp only [Int.natCast_add,Int.natCast_one]⟩
  ·refine w5 h0 h6 h7 h8 hge ?_
   have hall':s.data.toList.all (fun b=>Do b.toNat)=true:=by rw [ltl (by omega)] at hall;exact hall
   have hz:(0:Int).toNat=0:=rfl
   by_cases he:s=⟨#[]⟩
   ·subst he
    refine w1 h0 ?_
    rfl
   ·have hne:s.size ≠ 0:=fun h=>he (by
     cases s with
     | mk d =>
      congr 1
      exact Array.eq_empty_of_size_eq_zero h)
    refine w2 he h0 ?_
    by_cases h1:(s.size:Int)<=32
    ·have hx:s.data.toList[0]?=some s.data.toList[0]:=lgg (by omega)
     generalize s.data.toList[0]=x at hx
     refine w6 h0 h1 hx hz @Hg @Lh ?_
     simp only [B8,hall',hx,hne,show s.size<=32 by omega,ne_eq,not_false_eq_true,decide_true,bta,bau,osi,decide_not]
    ·refine w2 h0 h1 ?_
     simp [B8,show ¬ s.size<=32 by omega]
def BU (pre:List Nd) (n:Nd):Bool :=
  decide (n.kind=0 \/ n.kind=1) && decide (0<=n.control/\n.control<=31/\0<=n.owner/\n.owner<=1048576) &&
  (match pre.getLast? with
   | none=>decide (n.id=1/\n.parent=0/\n.name=⟨#[]⟩/\n.kind=0)
   | some l=>decide (l.id<n.id) && B8 n.name && !(pre.any fun x=>decide (x.parent=n.parent/\x.name=n.name)) && pre.any fun x=>decide (x.id=n.parent))
theorem FU {α:Type} {p:α->Bool} {l:List α} {k:Nat} {x:α} (hx:l[k]?=some x):(l.take (k+1)).any p=((l.take k).any p || p x):=by
 rw [List.take_add_one,hx]
 simp only [List.any_append,Option.toList,List.any_cons,List.any_nil,Bool.or_false]
theorem WM {α:Type} {p:α->Bool} {l:List α} {k i:Nat} (h:k<=i) (hp:(l.take k).any p=true):(l.take i).any p=true:=by
 rw [List.any_eq_true] at hp ⊢
 obtain ⟨x,hx,h1⟩:=hp
 exact ⟨x,(List.take_sublist_take_left h).subset hx,h1⟩
theorem zbw (t : Tr) (i : Nat) (n : Nd) (hn : t.nodes[i]?=some n) (hl : t.nodes.length<1000000) : V 149 [t.vv,.p (.int .i64 i)] []=some (.p (.bool (BU (t.nodes.take i) n)),[]):=by
  refine Ac (vf := vf149) rfl ?_
  have hlt : i < t.nodes.length:=(lgs.1 hn).1
  by_cases hi : (i : Int)=0
  · have hi' : i=0:=by omega
    have hz : (0 : Int).toNat=0:=rfl
    rw [hi'] at hn
    refine w3 hi hz hn ?_
    repeat' ((first|refine AM ?_ ?_|refine AL ?_ ?_|refine AP ?_ ?_|refine AO ?_ ?_|refine AJ ?_ ?_|refine AI ?_ ?_|refine AN ?_ ?_|refine AK ?_ ?_|refine Ae ?_ ?_|refine AR ?_ ?_)<;>intro hb<;>simp -implicitDefEqProofs (disch:=omega) only [hb,go_sem])
    all_goals
      simp only [BU,hi',List.take_zero,List.getLast?_nil,pmi,VVal.p.injEq,PV.bool.injEq,and_true]
      rw [Bool.eq_iff_iff]
      simp only [bat,decide_eq_true_eq,true_iff,bft,false_iff]
      try simp only [*]
      first | omega | (simp;done) | (simp;omega)
  · obtain ⟨l, hlast⟩:∃ l, (t.nodes.take i).getLast?=some l:=by
      cases hq : (t.nodes.take i).getLast? with
      | none =>
        rw [List.getLast?_eq_none_iff] at hq
        have := congrArg List.length hq
        rw [List.length_take,lln] at this
        omega
      | some l => exact ⟨l,rfl⟩
    have hpre : t.nodes[((i : Int) - 1).toNat]?=some l:=by
      rw [List.getLast?_take,if_neg (by omega)] at hlast
      rw [show ((i:Int) - 1).toNat=i - 1 by omega]
      rw [List.getElem?_eq_getElem (by omega)] at hlast ⊢
      simpa using hlast
    refine w2 hn hi ?_
    repeat' ((first|refine AM ?_ ?_|refine AL ?_ ?_|refine AP ?_ ?_|refine AO ?_ ?_|refine AJ ?_ ?_|refine AI ?_ ?_|refine AN ?_ ?_|refine AK ?_ ?_|refine Ae ?_ ?_|refine AR ?_ ?_)<;>intro hb<;>simp -implicitDefEqProofs (disch:=omega) only [hb,hn,hi,hpre,O0,go_sem])
    all_goals first
      | (simp only [BU,hlast,pmi,VVal.p.injEq,PV.bool.injEq,and_true]
         rw [Bool.eq_iff_iff]
         simp only [bat,decide_eq_true_eq,bft,false_iff]
         try simp only [*]
         first | omega | (simp;done) | (simp;omega))
      | skip
    all_goals
      refine Aj i (fun k s=>(t.nodes.take k).any (fun x=>decide (x.parent=n.parent/\x.name=n.name))=false/\s.pe 1=.p (.int .i64 i)/\s.pe 2=.ptr (.slot 2 0) 0 0/\s.pe 5=.ptr (.slot 5 0) 0 0/\s.pe 6=.p (.bool ((t.nodes.take k).any fun x=>decide (x.id=n.parent)))/\s.pe 7=.p (.int .i64 k) /\
        s.h (.slot 2 0)=some (0,.box [.p (An t.nodes),.p (.int .i64 t.next)])/\s.h (.slot 5 0)=some (0,.box (n.pv.cells.map .p))) ?_ ?_
      · exact ⟨by simp,rfl,rfl,rfl,rfl,rfl,rfl,by simp -implicitDefEqProofs (disch:=omega) only [go_sem];simp only [*]⟩
      · rintro k s hk ⟨hno,h1,h2,h5,h6,h7,hh2,hh5⟩
        simp only [Nd.pv,PV.cells,lpc,lpn] at hh5
        refine w7 h1 h2 h5 h6 h7 hh2 hh5 ?_
        refine Ae (fun hki=>?_) (fun hge=>?_)
        · have hm:t.nodes[k]?=some t.nodes[k]:=lgg (by omega)
          generalize t.nodes[k]=m at hm
          refine w9 h1 h2 h5 h6 h7 hh2 hh5 hm hki ?_
          repeat' ((first|refine AM ?_ ?_|refine AL ?_ ?_|refine AP ?_ ?_|refine AO ?_ ?_|refine AJ ?_ ?_|refine AI ?_ ?_|refine AN ?_ ?_|refine AK ?_ ?_|refine Ae ?_ ?_|refine AR ?_ ?_)<;>intro hb<;>simp -implicitDefEqProofs (disch:=omega) only [hb,h1,h2,h5,h6,h7,hh2,hh5,hm,hki,go_sem])
          all_goals first
            | (have ha:((t.nodes.take i).any fun x=>decide (x.parent=n.parent/\x.name=n.name))=true:=by
                refine WM (k:=k+1) (by omega) ?_
                rw [FU hm]
                simp [*]
               simp only [BU,hlast,ha,Bool.not_true,Bool.and_false,bfa]
               done)
            | exact ⟨by rw [FU hm,hno];simp [*],by rw [FU hm];simp [*],by simp only [Int.natCast_add,Int.natCast_one]⟩
        · refine w8 h1 h2 h5 h6 h7 hh2 hh5 hge ?_
          have hki:k=i:=by omega
          subst hki
          simp only [BU,hlast,hno,pmi,VVal.p.injEq,PV.bool.injEq,and_true]
          rw [Bool.eq_iff_iff]
          simp only [bat,decide_eq_true_eq,bnf,and_true,true_and]
          exact ⟨fun h=>⟨⟨by omega,by omega,by omega,by omega,by omega⟩,⟨by omega,by assumption⟩,h⟩,fun h=>h.2.2⟩
def Bp:List Nd->List Nd->Bool
 | _,[]=>true
 | pre,n::ns=>BU pre n && Bp (pre++[n]) ns
theorem E4:∀ (ns pre:List Nd),Bp pre ns=true ↔ ∀ (i:Nat) (n:Nd),ns[i]?=some n->BU (pre++ns.take i) n=true
 | [],pre=>by simp [Bp]
 | n::ns,pre=>by
  simp only [Bp,bat]
  rw [E4 ns (pre++[n])]
  constructor
  ·rintro ⟨h1,h2⟩ i m hm
   cases i with
   | zero=>simp at hm;subst hm;simpa using h1
   | succ i=>simpa using h2 i m (by simpa using hm)
  ·intro h
   exact ⟨by simpa using h 0 n rfl,fun i m hm=>by simpa using h (i+1) m (by simpa using hm)⟩
def AX (t:Tr):Bool :=
  decide (1<=t.nodes.length/\t.nodes.length<=64) && Bp [] t.nodes && t.nodes.all (fun n=>decide ((up t.nodes n.id).length<=9)) &&
  (match t.nodes.getLast? with
   | none=>false
   | some l=>decide (l.id<t.next/\t.next<=2147483648))
theorem Fa (t:Tr) (hl:t.nodes.length<1000000):V 82 [t.vv] []=some (.p (.bool (AX t)),[]):=by
 refine Ac (vf:=vf82) rfl ?_
 by_cases h1:(t.nodes.length:Int)<1
 ·refine w1 h1 ?_
  simp [AX,show ¬ 1<=t.nodes.length by omega]
 ·by_cases h2:64<(t.nodes.length:Int)
  ·refine w2 h1 h2 ?_
   simp [AX,show ¬ t.nodes.length<=64 by omega]
  ·refine w2 h1 h2 ?_
   refine Aj t.nodes.length (fun k s=>(∀ (i:Nat) (n:Nd),i<k->t.nodes[i]?=some n->BU (t.nodes.take i) n=true)/\s.pe 1=.ptr (.slot 1 0) 0 0/\s.pe 3=.p (.int .i64 t.nodes.length)/\s.pe 4=.p (.int .i64 k)/\s.h (.slot 1 0)=some (0,.box [.p (An t.nodes),.p (.int .i64 t.next)])) ?_ ?_
   ·exact ⟨by omega,rfl,rfl,rfl,rfl⟩
   ·rintro k s hk ⟨hall,h3,h4,h5,hh⟩
    refine w4 h3 h4 h5 hh ?_
    refine Ae (fun hlt=>?_) (fun hge=>?_)
    ·have hm:t.nodes[k]?=some t.nodes[k]:=lgg hlt
     generalize t.nodes[k]=m at hm
     have hc:=zbw t k m hm hl
     refine w7 h3 h4 h5 hh hm hc hlt ?_
     repeat' ((first|refine AM ?_ ?_|refine AL ?_ ?_|refine AP ?_ ?_|refine AO ?_ ?_|refine AJ ?_ ?_|refine AI ?_ ?_|refine AN ?_ ?_|refine AK ?_ ?_|refine Ae ?_ ?_|refine AR ?_ ?_)<;>intro hb<;>simp -implicitDefEqProofs (disch:=omega) only [hb,h3,h4,h5,hh,hm,hc,go_sem])
     ·have hf:Bp [] t.nodes=false:=by
       rw [Bool.eq_false_iff]
       intro h0
       have:=(E4 _ _).1 h0 k m hm
       simp_all
      simp [AX,hf]
     ·refine ⟨hlt,fun i n hi hn=>?_,by simp only [Int.natCast_add,Int.natCast_one]⟩
      rcases Nat.lt_or_ge i k with h0|h0
      ·exact hall i n h0 hn
      ·have:i=k:=by omega
       subst this
       rw [hm] at hn
       simp at hn
       subst hn
       assumption
    ·have hok:Bp [] t.nodes=true:=(E4 _ _).2 fun i n hn=>by simpa using hall i n (by have:=(lgs.1 hn).1;omega) hn
     refine w5 h3 h4 h5 hh hge ?_
     refine Aj t.nodes.length (fun k s=>(∀ (i:Nat) (n:Nd),i<k->t.nodes[i]?=some n->(up t.nodes n.id).length<=9)/\s.pe 1=.ptr (.slot 1 0) 0 0/\s.pe 3=.p (.int .i64 t.nodes.length)/\s.pe 5=.p (.int .i64 k)/\s.h (.slot 1 0)=some (0,.box [.p (An t.nodes),.p (.int .i64 t.next)])) ?_ ?_
     ·refine w4 h3 h4 h5 hh ?_
      simp
     ·rintro k s hk ⟨hall2,h3,h4,h5,hh⟩
      refine w4 h3 h4 h5 hh ?_
      refine Ae (fun hlt=>?_) (fun hge=>?_)
      ·have hm:t.nodes[k]?=some t.nodes[k]:=lgg hlt
       generalize t.nodes[k]=m at hm
       have hc:=SR t m.id hl
       refine w7 h3 h4 h5 hh hm hc hlt ?_
       repeat' ((first|refine AM ?_ ?_|refine AL ?_ ?_|refine AP ?_ ?_|refine AO ?_ ?_|refine AJ ?_ ?_|refine AI ?_ ?_|refine AN ?_ ?_|refine AK ?_ ?_|refine Ae ?_ ?_|refine AR ?_ ?_)<;>intro hb<;>simp -implicitDefEqProofs (disch:=omega) only [hb,h3,h4,h5,hh,hm,hc,go_sem])
       ·rename_i hb
        have hf:t.nodes.all (fun n=>decide ((up t.nodes n.id).length<=9))=false:=by
         rw [List.all_eq_false]
         exact ⟨m,lmg hm,by simp;omega⟩
        simp [AX,hf]
       ·rename_i hb
        refine ⟨hlt,fun i n hi hn=>?_,by simp only [Int.natCast_add,Int.natCast_one]⟩
        rcases Nat.lt_or_ge i k with h0|h0
        ·exact hall2 i n h0 hn
        ·have:i=k:=by omega
         subst this
         rw [hm] at hn
         simp at hn
         subst hn
         omega
      ·have hk2:t.nodes.all (fun n=>decide ((up t.nodes n.id).length<=9))=true:=by
        rw [List.all_eq_true]
        intro n hn
        obtain ⟨i,hi⟩:=lgm hn
        have:=hall2 i n (by have:=(lgs.1 hi).1;omega) hi
        simpa using this
       have hla:t.nodes[((t.nodes.length:Int) - 1).toNat]?=some t.nodes[t.nodes.length - 1]:=by
        rw [show ((t.nodes.length:Int) - 1).toNat=t.nodes.length - 1 by omega]
        exact lgg (by omega)
       have hlast:t.nodes.getLast?=some t.nodes[t.nodes.length - 1]:=by
        rw [List.getLast?_eq_getElem?]
        exact lgg (by omega)
       generalize t.nodes[t.nodes.length - 1]=l at hla hlast
       refine w6 h3 h4 h5 hh hge hla ?_
       repeat' ((first|refine AM ?_ ?_|refine AL ?_ ?_|refine AP ?_ ?_|refine AO ?_ ?_|refine AJ ?_ ?_|refine AI ?_ ?_|refine AN ?_ ?_|refine AK ?_ ?_|refine Ae ?_ ?_|refine AR ?_ ?_)<;>intro hb<;>simp -implicitDefEqProofs (disch:=omega) only [hb,h3,h4,h5,hh,hla,go_sem])
       all_goals
        simp only [AX,hok,hk2,hlast,show (1<=t.nodes.length/\t.nodes.length<=64) by omega,pmi,VVal.p.injEq,PV.bool.injEq,and_true,decide_true,bta]
        rw [Bool.eq_iff_iff]
        simp only [decide_eq_true_eq,bft,false_iff]
        omega
def zeroNd:Nd:=⟨0,0,⟨#[]⟩,0,0,0⟩
def AS (ns:List Nd) (id:Int):Option Nd:=ns.find? fun n=>decide (n.id=id)
def Bb (t:Tr) (id:Int):Option Nd:=if AX t then AS t.nodes id else none
attribute [go_sem] Nd.vv
theorem Kj {p:Nd->Bool} {l:List Nd} {k:Nat} (h:∀ (i:Nat) (n:Nd),i<k->l[i]?=some n->p n=false) {m:Nd} (hm:l[k]?=some m) (hp:p m=true):l.find? p=some m:=by
 rw [List.find?_eq_some_iff_getElem]
 refine ⟨hp,k,(lgs.1 hm).1,(lgs.1 hm).2,fun j hj=>?_⟩
 have hl:j<l.length:=Nat.lt_trans hj (lgs.1 hm).1
 simpa using h j l[j] hj (lgg hl)
theorem YO {p:Nd->Bool} {l:List Nd} (h:∀ (i:Nat) (n:Nd),i<l.length->l[i]?=some n->p n=false):l.find? p=none:=by
 rw [List.find?_eq_none]
 intro x hx
 obtain ⟨i,hi⟩:=lgm hx
 simpa using h i x (lgs.1 hi).1 hi
theorem E3 {Q:Nat->Nd->Prop} {l:List Nd} {k:Nat} {m:Nd} (hm:l[k]?=some m) (h:∀ (i:Nat) (n:Nd),i<k->l[i]?=some n->Q i n) (hk:Q k m):∀ (i:Nat) (n:Nd),i<k+1->l[i]?=some n->Q i n:=fun i n hi hn=>by
 rcases Nat.lt_or_ge i k with h0|h0
 ·exact h i n h0 hn
 ·have:i=k:=by omega
  subst this
  rw [hm] at hn
  simp at hn
  subst hn
  exact hk
theorem P2 (t:Tr) (id:Int) (hl:t.nodes.length<1000000):V 150 [t.vv,.p (.int .i64 id)] []=some (.tup [((Bb t id).getD zeroNd).vv,.p (.bool (Bb t id).isSome)],[]):=by
 refine Ac (vf:=vf150) rfl ?_
 have hc:=Fa t hl
 cases hok:AX t with
 | false =>
  rw [hok] at hc
  refine w1 hc ?_
  simp [Bb,hok,zeroNd]
 | true =>
  rw [hok] at hc
  refine w1 hc ?_
  refine Aj t.nodes.length (fun k s=>(∀ (i:Nat) (n:Nd),i<k->t.nodes[i]?=some n->decide (n.id=id)=false)/\s.pe 1=.p (.int .i64 id)/\s.pe 2=.ptr (.slot 2 0) 0 0/\s.pe 4=.ptr (.slot 4 0) 0 0/\s.pe 6=.p (.int .i64 k)/\s.h (.slot 2 0)=some (0,.box [.p (An t.nodes),.p (.int .i64 t.next)])/\s.h (.slot 4 0)=some (0,.box (zeroNd.pv.cells.map .p))) ?_ ?_
  ·exact ⟨by omega,rfl,rfl,rfl,rfl,rfl,by simp -implicitDefEqProofs (disch:=omega) only [go_sem];rfl⟩
  ·rintro k s hk ⟨hall,h1,h2,h4,h6,hh2,hh4⟩
   simp only [Nd.pv,zeroNd,PV.cells,lpc,lpn] at hh4
   refine w6 h1 h2 h4 h6 hh2 hh4 ?_
   refine Ae (fun hlt=>?_) (fun hge=>?_)
   ·have hm:t.nodes[k]?=some t.nodes[k]:=lgg hlt
    generalize t.nodes[k]=m at hm
    refine w7 h1 h2 h4 h6 hh2 hh4 hm ?_
    repeat' ((first|refine AM ?_ ?_|refine AL ?_ ?_|refine AP ?_ ?_|refine AO ?_ ?_|refine AJ ?_ ?_|refine AI ?_ ?_|refine AN ?_ ?_|refine AK ?_ ?_|refine Ae ?_ ?_|refine AR ?_ ?_)<;>intro hb<;>simp -implicitDefEqProofs (disch:=omega) only [hb,h1,h2,h4,h6,hh2,hh4,hm,go_sem])
    ·have hf:Bb t id=some m:=by
      simp only [Bb,hok,if_true,AS]
      exact Kj hall hm (by simpa using hb)
     simp [hf,Nd.vv,hb]
    ·exact ⟨hlt,E3 hm hall (by simpa using ‹_›),by simp only [Int.natCast_add,Int.natCast_one],rfl⟩
   ·have hf:Bb t id=none:=by
     simp only [Bb,hok,if_true,AS]
     exact YO fun i n hi=>hall i n (by omega)
    refine w7 h1 h2 h4 h6 hh2 hh4 hge ?_
    simp [hf,zeroNd,Nd.vv]
theorem DU (t:Tr) (id:Int) (hl:t.nodes.length<1000000):V 83 [t.vv,.p (.int .i64 id)] []=some (.p (.bool (Bb t id).isSome),[]):=by
 refine Ac (vf:=vf83) rfl ?_
 have hc:=P2 t id hl
 exact z1 hc
def Dz (t:Tr) (id:Int):List Int:=if (Bb t id).isSome then up t.nodes id else []
theorem QM (t:Tr) (id:Int) (hl:t.nodes.length<1000000):V 62 [t.vv,.p (.int .i64 id)] []=some (.fresh 1 ((Dz t id).map (.int .i64)),[]):=by
 refine Ac (vf:=vf62) rfl ?_
 have hc:=DU t id hl
 have hu:=SR t id hl
 cases hf:(Bb t id).isSome with
 | false =>
  rw [hf] at hc
  refine w1 hc ?_
  simp [Dz,hf]
 | true =>
  rw [hf] at hc
  refine w2 hc hu ?_
  simp [Dz,hf]
theorem Ye (t:Tr) (id:Int) (hl:t.nodes.length<1000000):V 98 [t.vv,.p (.int .i64 id)] []=some (.p (.int .i64 ((Dz t id).length - 1)),[]):=by
 refine Ac (vf:=vf98) rfl ?_
 have hc:=QM t id hl
 have hlen:(Dz t id).length<1000000:=by
  unfold Dz
  split
  ·have:=KE t.nodes.reverse id
   simp only [List.length_reverse] at this
   unfold up
   omega
  .simp
 exact z1 hc
def ED (t:Tr) (id:Int):List Int:=if (Bb t id).isSome then (t.nodes.filter fun n=>decide (n.parent=id)).map (·.id) else []
theorem Hx {p:Nd->Bool} {l:List Nd} {k:Nat} {m:Nd} (hm:l[k]?=some m):(l.take (k+1)).filter p=if p m then (l.take k).filter p++[m] else (l.take k).filter p:=by
 rw [List.take_add_one,hm]
 simp only [List.filter_append,Option.toList,lfl,List.filter_nil]
 split<;>simp
theorem Lk (t:Tr) (id:Int) (hl:t.nodes.length<1000000):V 100 [t.vv,.p (.int .i64 id)] []=some (.fresh 1 ((ED t id).map (.int .i64)),[]):=by
 refine Ac (vf:=vf100) rfl ?_
 have hc:=DU t id hl
 cases hf:(Bb t id).isSome with
 | false =>
  rw [hf] at hc
  refine w1 hc ?_
  simp [ED,hf]
 | true =>
  rw [hf] at hc
  refine w1 hc ?_
  refine Aj t.nodes.length (fun k s=>∃ (acc:List Int) (v:Nat),acc=((t.nodes.take k).filter fun n=>decide (n.parent=id)).map (·.id)/\acc.length<=k/\s.pe 1=.p (.int .i64 id)/\s.pe 2=.ptr (.slot 2 0) 0 0/\s.pe 5=.own (.slot 5 0) v 0 acc.length/\s.pe 6=.p (.int .i64 k)/\s.h (.slot 2 0)=some (0,.box [.p (An t.nodes),.p (.int .i64 t.next)])/\s.h (.slot 5 0)=some (v,.arr 1 (acc.map (.int .i64)))) ?_ ?_
  ·exact ⟨[],0,rfl,by simp,rfl,rfl,rfl,rfl,rfl,rfl⟩
  ·rintro k s hk ⟨acc,v,hacc,hlen,h1,h2,h5,h6,hh2,hh5⟩
   refine w6 h1 h2 h5 h6 hh2 hh5 ?_
   refine Ae (fun hlt=>?_) (fun hge=>?_)
   ·have hm:t.nodes[k]?=some t.nodes[k]:=lgg hlt
    generalize t.nodes[k]=m at hm
    refine w7 h1 h2 h5 h6 hh2 hh5 hm ?_
    repeat' ((first|refine AM ?_ ?_|refine AL ?_ ?_|refine AP ?_ ?_|refine AO ?_ ?_|refine AJ ?_ ?_|refine AI ?_ ?_|refine AN ?_ ?_|refine AK ?_ ?_|refine Ae ?_ ?_|refine AR ?_ ?_)<;>intro hb<;>simp -implicitDefEqProofs (disch:=omega) only [hb,h1,h2,h5,h6,hh2,hh5,hm,go_sem])
    ·refine ⟨hlt,acc++[m.id],v+1,?_,by simp;omega,by simp,by simp,by simp⟩
     rw [Hx hm,hacc]
     simp [hb]
    ·refine ⟨hlt,acc,v,?_,by omega,by simp,by simp,by simp⟩
     rw [Hx hm,hacc]
     simp [hb]
   ·rw [ltl (by omega)] at hacc
    refine w7 h1 h2 h5 h6 hh2 hh5 hge ?_
    simp [ED,hf,hacc]
theorem ZG (t:Tr) (hl:t.nodes.length<1000000):V 99 [t.vv] []=some (t.fv,[]):=by
 refine Ac (vf:=vf99) rfl ?_
 exact z0
def newT:Tr:=⟨[⟨1,0,⟨#[]⟩,0,0,0⟩],2⟩
theorem zbn:V 42 [] []=some (newT.fv,[]):=by
 refine Ac (vf:=vf42) rfl ?_
 refine w0 ?_
 rfl
theorem LU (L:List Int) (a:Nat) (n:Int) (hL:L.length<4611686018427387904) (h1:1<=n) (hn:n<4611686018427387904):V 45 [.ptr (.arg 0 0) 0 0,.p (.int .i64 n)] [AV L a]=some (.p (.bool (decide (AA L a n=n - 1))),[AV L (Af L a n)]):=by
 refine Ac (vf:=vf45) rfl ?_
 have hc:=CP L a n hL hn
 exact z1 hc
def names6:List ByteArray:=[⟨#[97]⟩,⟨#[98]⟩,⟨#[99]⟩,⟨#[119,101,98]⟩,⟨#[100,98,45,49]⟩,⟨#[88,95,57]⟩]
def Fu (L:List Int) (a:Nat):ByteArray:=names6.getD (AA L a 6).toNat ⟨#[]⟩
theorem zbA (L:List Int) (a:Nat) (hL:L.length<4611686018427387904):V 44 [.ptr (.arg 0 0) 0 0] [AV L a]=some (.p (.str (Fu L a)),[AV L (Af L a 6)]):=by
 refine Ac (vf:=vf44) rfl ?_
 have hc:=CP L a 6 hL (by omega)
 have h0:=Cl L a 6
 have h1:=Cm L a (n:=6) (by omega)
 have hl:(AA L a 6).toNat<names6.length:=by simp [names6];omega
 have hg:([.str ⟨#[97]⟩,.str ⟨#[98]⟩,.str ⟨#[99]⟩,.str ⟨#[119,101,98]⟩,.str ⟨#[100,98,45,49]⟩,.str ⟨#[88,95,57]⟩]:List PV)[(AA L a 6).toNat]?=some (.str (Fu L a)):=by
  show (names6.map PV.str)[(AA L a 6).toNat]?=_
  rw [List.getElem?_map,Fu,List.getD_eq_getElem?_getD,lgg hl]
  rfl
 exact z3 hc h0 hg
theorem Kx:∀ (ns pre:List Nd),(∀ x∈pre,1<=x.id)->Bp pre ns=true->∀ n∈ns,1<=n.id
 | [],_,_,_,n,hn=>by cases hn
 | m::ns,pre,hp,h,n,hn=>by
  simp only [Bp,bat] at h
  have hm:1<=m.id:=by
   have h1:=h.1
   unfold BU at h1
   simp only [bat] at h1
   cases hl:pre.getLast? with
   | none =>
    rw [hl] at h1
    simp only [decide_eq_true_eq] at h1
    omega
   | some l =>
    rw [hl] at h1
    simp only [bat,decide_eq_true_eq] at h1
    have:=hp l (List.mem_of_getLast? hl)
    omega
  rcases lmk.1 hn with rfl|hn
  ·exact hm
  ·refine Kx ns (pre++[m]) (fun x hx=>?_) h.2 n hn
   rcases lmp.1 hx with hx|hx
   .exact hp x hx
   .simp at hx;subst hx;exact hm
theorem Zh {t:Tr} (h:AX t=true):1<t.next/\t.next<=2147483648/\1<=t.nodes.length/\t.nodes.length<=64:=by
 simp only [AX,bat,decide_eq_true_eq] at h
 obtain ⟨⟨⟨h1,h2⟩,_⟩,h3⟩:=h
 cases hl:t.nodes.getLast? with
 | none=>rw [hl] at h3;cases h3
 | some l =>
  rw [hl] at h3
  simp only [decide_eq_true_eq] at h3
  have:=Kx t.nodes [] (by simp) h2 l (List.mem_of_getLast? hl)
  omega
def B4 (t:Tr) (p:Int) (s:ByteArray):Tr × Int × Int :=
 if (AX t && B8 s)=false then (⟨[],0⟩,0,1)
 else if (Bb t p).isSome=false then (⟨[],0⟩,0,4)
 else if (t.nodes.any fun n=>decide (n.parent=p/\n.name=s))=true then (⟨[],0⟩,0,5)
 else if (8:Int)<=(Dz t p).length - 1 \/ 64<=t.nodes.length \/ 2147483647<t.next then (⟨[],0⟩,0,7)
 else (⟨t.nodes++[⟨t.next,p,s,0,0,0⟩],t.next+1⟩,t.next,0)
theorem zbp (t : Tr) (p : Int) (s : ByteArray) (hl : t.nodes.length<1000000) : V 43 [t.vv,.p (.int .i64 p),.p (.str s)] []=some (.tup [(B4 t p s).1.fv,.p (.int .i64 (B4 t p s).2.1),.p (.int .i64 (B4 t p s).2.2)],[]):=by
  refine Ac (vf := vf43) rfl ?_
  have hc := Fa t hl
  have hv := O0 s
  have hh := DU t p hl
  have hd := Ye t p hl
  have hcp := ZG t hl
  cases hok : AX t with
  | false =>
    rw [hok] at hc
    refine w1 hc ?_
    simp [B4, hok]
  | true =>
    rw [hok] at hc
    cases hvv : B8 s with
    | false =>
      rw [hvv] at hv
      refine w2 hc hv ?_
      simp [B4, hok, hvv]
    | true =>
      rw [hvv] at hv
      cases hf : (Bb t p).isSome with
      | false =>
        rw [hf] at hh
        refine w3 hc hv hh ?_
        simp [B4, hok, hvv, hf]
      | true =>
        rw [hf] at hh
        refine w3 hc hv hh ?_
        refine Aj t.nodes.length (fun k st=>(t.nodes.take k).any (fun n=>decide (n.parent=p/\n.name=s))=false/\st.pe 1=.p (.int .i64 p)/\st.pe 2=.p (.str s)/\st.pe 3=.ptr (.slot 3 0) 0 0/\st.pe 6=.ptr (.slot 6 0) 0 0/\st.pe 9=.p (.int .i64 k)/\st.h (.slot 3 0)=some (0,.box [.p (An t.nodes),.p (.int .i64 t.next)])/\st.h (.slot 6 0)=some (0,.box [.own (.slot 6 1) 0 0 0,.p (.int .i64 0)])/\st.h (.slot 6 1)=some (0,.arr 6 [])) ?_ ?_
        · exact ⟨by simp,rfl,rfl,rfl,rfl,rfl,rfl,rfl,rfl⟩
        · rintro k st hk ⟨hno,h1,h2,h3,h6,h9,hh3,hh6,hh61⟩
          refine w8 h1 h2 h3 h6 h9 hh3 hh6 hh61 ?_
          refine Ae (fun hlt=>?_) (fun hge=>?_)
          · have hm:t.nodes[k]?=some t.nodes[k]:=lgg hlt
            generalize t.nodes[k]=m at hm
            refine w9 h1 h2 h3 h6 h9 hh3 hh6 hh61 hm ?_
            repeat' ((first|refine AM ?_ ?_|refine AL ?_ ?_|refine AP ?_ ?_|refine AO ?_ ?_|refine AJ ?_ ?_|refine AI ?_ ?_|refine AN ?_ ?_|refine AK ?_ ?_|refine Ae ?_ ?_|refine AR ?_ ?_)<;>intro hb<;>simp -implicitDefEqProofs (disch:=omega) only [hb,h1,h2,h3,h6,h9,hh3,hh6,hh61,hm,go_sem])
            all_goals first
              | exact ⟨hlt,by rw [FU hm,hno];simp [*],by simp only [Int.natCast_add,Int.natCast_one]⟩
              | (have ha:(t.nodes.any fun n=>decide (n.parent=p/\n.name=s))=true:=by
                  rw [List.any_eq_true]
                  exact ⟨m,lmg hm,by simp [*]⟩
                 simp only [B4,hok,hvv,hf,ha,bas,Bool.true_eq_false,if_false,if_true,lpn]
                 rfl)
          · have ha:(t.nodes.any fun n=>decide (n.parent=p/\n.name=s))=false:=by
              rw [ltl (by omega)] at hno
              exact hno
            by_cases hb1:(8:Int)<=(Dz t p).length - 1
            · refine w11 h1 h2 h3 h6 h9 hh3 hh6 hh61 hge hd hb1 ?_
              simp only [B4,hok,hvv,hf,ha,hb1,true_or,bas,Bool.true_eq_false,bft,if_false,if_true,lpn]
              rfl
            · by_cases hb2:(64:Int)<=t.nodes.length
              · refine w12 h1 h2 h3 h6 h9 hh3 hh6 hh61 hge hd hb1 hb2 ?_
                simp only [B4,hok,hvv,hf,ha,hb1,show 64<=t.nodes.length by omega,true_or,or_true,bas,Bool.true_eq_false,bft,if_false,if_true,lpn]
                rfl
              · by_cases hb3:2147483647<t.next
                · refine w13 h1 h2 h3 h6 h9 hh3 hh6 hh61 hge hd hb1 hb2 hb3 ?_
                  simp only [B4,hok,hvv,hf,ha,hb1,hb3,true_or,or_true,bas,Bool.true_eq_false,bft,if_false,if_true,lpn]
                  rfl
                · have hnx:=Zh hok
                  simp -implicitDefEqProofs (disch:=omega) only [h1,h2,h3,h6,h9,hh3,hh6,hh61,hge,hd,hb1,hb2,hb3,hcp,go_sem]
                  simp only [B4,hok,hvv,hf,ha,hb1,hb3,show ¬ 64<=t.nodes.length by omega,or_self,bas,Bool.true_eq_false,bft,if_false,lma,lpc,lpn,Nd.pv,Tr.fv]
def B6 (t:Tr) (id:Int):Tr × Int :=
 if AX t=false then (⟨[],0⟩,1)
 else if (Bb t id).isSome=false then (⟨[],0⟩,4)
 else if id=1 then (⟨[],0⟩,9)
 else if ED t id ≠ [] then (⟨[],0⟩,6)
 else (⟨t.nodes.filter fun n=>!decide (n.id=id),t.next⟩,0)
theorem W4 (t:Tr) (id:Int) (hl:t.nodes.length<1000000):V 46 [t.vv,.p (.int .i64 id)] []=some (.tup [(B6 t id).1.fv,.p (.int .i64 (B6 t id).2)],[]):=by
 refine Ac (vf:=vf46) rfl ?_
 have hc:=Fa t hl
 have hh:=DU t id hl
 have hk:=Lk t id hl
 cases hok:AX t with
 | false =>
  rw [hok] at hc
  refine w1 hc ?_
  simp [B6,hok]
 | true =>
  rw [hok] at hc
  cases hf:(Bb t id).isSome with
  | false =>
   rw [hf] at hh
   refine w2 hc hh ?_
   simp [B6,hok,hf]
  | true =>
   rw [hf] at hh
   by_cases h1:id=1
   ·subst h1
    refine w2 hc hh ?_
    simp [B6,hok,hf]
   ·by_cases h2:(0:Int)<(ED t id).length
    ·have h3:ED t id ≠ []:=fun e=>by rw [e] at h2;simp at h2
     refine w5 hc hh hk h1 h2 ?_
     simp [B6,hok,hf,h1,h3]
    ·have h3:ED t id=[]:=List.length_eq_zero_iff.1 (by omega)
     refine w5 hc hh hk h1 h2 ?_
     refine Aj t.nodes.length (fun k s=>∃ (acc:List Nd) (v:Nat),acc=((t.nodes.take k).filter fun n=>!decide (n.id=id))/\acc.length<=k/\s.pe 1=.p (.int .i64 id)/\s.pe 2=.ptr (.slot 2 0) 0 0/\s.pe 4=.ptr (.slot 4 0) 0 0/\s.pe 6=.ptr (.slot 6 0) 0 0/\s.pe 7=.p (.int .i64 k)/\s.h (.slot 2 0)=some (0,.box [.p (An t.nodes),.p (.int .i64 t.next)])/\s.h (.slot 4 0)=some (0,.box [.own (.slot 4 1) 0 0 0,.p (.int .i64 0)]) /\
      s.h (.slot 6 0)=some (0,.box [.own (.slot 32 1) v 0 acc.length,.p (.int .i64 t.next)])/\s.h (.slot 32 1)=some (v,.arr 6 (acc.map Nd.pv))) ?_ ?_
     ·refine ⟨[],0,rfl,by simp,?_⟩
      refine w0 ?_
      rfl
     ·rintro k s hk' ⟨acc,v,hacc,hlen,p1,p2,p4,p6,p7,hh2,hh4,hh6,hh32⟩
      refine w9 p1 p2 p4 p6 p7 hh2 hh4 hh6 hh32 ?_
      refine Ae (fun hlt=>?_) (fun hge=>?_)
      ·have hm:t.nodes[k]?=some t.nodes[k]:=lgg hlt
       generalize t.nodes[k]=m at hm
       refine w10 p1 p2 p4 p6 p7 hh2 hh4 hh6 hh32 hm ?_
       repeat' ((first|refine AM ?_ ?_|refine AL ?_ ?_|refine AP ?_ ?_|refine AO ?_ ?_|refine AJ ?_ ?_|refine AI ?_ ?_|refine AN ?_ ?_|refine AK ?_ ?_|refine Ae ?_ ?_|refine AR ?_ ?_)<;>intro hb<;>simp -implicitDefEqProofs (disch:=omega) only [hb,p1,p2,p4,p6,p7,hh2,hh4,hh6,hh32,hm,go_sem])
       ·refine ⟨hlt,acc++[m],v+1,?_,by simp;omega,by simp,by simp,by simp [Nd.pv]⟩
        rw [Hx hm,hacc]
        simp [hb]
       ·refine ⟨hlt,acc,v,?_,by omega,by simp,by simp,by simp⟩
        rw [Hx hm,hacc]
        simp [hb]
      ·rw [ltl (by omega)] at hacc
       refine w10 p1 p2 p4 p6 p7 hh2 hh4 hh6 hh32 hge ?_
       simp [B6,hok,hf,h1,h3,hacc]
theorem MR:∀ (a pre b:List Nd),Bp pre (a++b)=(Bp pre a && Bp (pre++a) b)
 | [],pre,b=>by simp [Bp]
 | n::a,pre,b=>by
  simp only [lca,Bp]
  rw [MR a (pre++[n]) b]
  simp [Bool.and_assoc]
theorem IR {n:Nd} (h:BU [] n=true):n.id=1/\n.parent=0/\n.name=⟨#[]⟩/\n.kind=0:=by
 simp only [BU,List.getLast?_nil,bat,decide_eq_true_eq] at h
 exact h.2
theorem Gv {pre:List Nd} {l n:Nd} (hl:pre.getLast?=some l):BU pre n=true ↔ ((n.kind=0 \/ n.kind=1)/\0<=n.control/\n.control<=31/\0<=n.owner/\n.owner<=1048576)/\l.id<n.id/\B8 n.name=true/\(∀ x∈pre,¬ (x.parent=n.parent/\x.name=n.name))/\∃ x∈pre,x.id=n.parent:=by
 simp only [BU,hl,bat,decide_eq_true_eq,Bool.not_eq_true',List.any_eq_false,List.any_eq_true]
 constructor
 ·rintro ⟨⟨h1,h2⟩,⟨⟨h3,h4⟩,h5⟩,h6⟩
  exact ⟨⟨h1,h2⟩,h3,h4,h5,h6⟩
 ·rintro ⟨⟨h1,h2⟩,h3,h4,h5,h6⟩
  exact ⟨⟨h1,h2⟩,⟨⟨h3,h4⟩,h5⟩,h6⟩
theorem JD:∀ (ns pre:List Nd),Bp pre ns=true->(∀ (l:Nd),pre.getLast?=some l->∀ x∈pre,x.id<=l.id) ->
  (∀ x∈pre,∀ n∈ns,x.id<n.id)/\ns.Pairwise fun a b=>a.id<b.id
 | [],_,_,_=>⟨fun _ _ _ h=>(by cases h),List.Pairwise.nil⟩
 | m::ns,pre,h,hp=>by
  simp only [Bp,bat] at h
  have hm:∀ x∈pre,x.id<m.id:=fun x hx=>by
   cases hl:pre.getLast? with
   | none=>rw [List.getLast?_eq_none_iff] at hl;rw [hl] at hx;cases hx
   | some l =>
    have:=((Gv hl).1 h.1).2.1
    have:=hp l hl x hx
    omega
  obtain ⟨h1,h2⟩:=JD ns (pre++[m]) h.2 (fun l hl x hx=>by
   simp at hl
   subst hl
   rcases lmp.1 hx with hx|hx
   .exact Int.le_of_lt (hm x hx)
   .simp at hx;subst hx;exact Int.le_refl _)
  refine ⟨fun x hx n hn=>?_,lpw.2 ⟨fun n hn=>h1 m (by simp) n hn,h2⟩⟩
  rcases lmk.1 hn with rfl|hn
  .exact hm x hx
  .exact h1 x (by simp [hx]) n hn
structure TreeOk (t:Tr):Prop where
 len:1<=t.nodes.length/\t.nodes.length<=64
 nodes:Bp [] t.nodes=true
 depth:∀ n∈t.nodes,(up t.nodes n.id).length<=9
 next:∃ l,t.nodes.getLast?=some l/\l.id<t.next/\t.next<=2147483648
theorem Bo (t:Tr):AX t=true ↔ TreeOk t:=by
 simp only [AX,bat,decide_eq_true_eq,List.all_eq_true]
 constructor
 ·rintro ⟨⟨⟨h1,h2⟩,h3⟩,h4⟩
  cases hl:t.nodes.getLast? with
  | none=>rw [hl] at h4;cases h4
  | some l =>
   rw [hl] at h4
   simp only [decide_eq_true_eq] at h4
   exact ⟨h1,h2,h3,l,hl,h4⟩
 ·rintro ⟨h1,h2,h3,l,hl,h4⟩
  refine ⟨⟨⟨h1,h2⟩,h3⟩,?_⟩
  rw [hl]
  simpa using h4
theorem TreeOk.inc {t:Tr} (h:TreeOk t):t.nodes.Pairwise fun a b=>a.id<b.id:=(JD t.nodes [] h.nodes (fun _ h=>by simp at h)).2
theorem TreeOk.lt_next {t:Tr} (h:TreeOk t):∀ n∈t.nodes,n.id<t.next:=by
 obtain ⟨l,hl,h1,_⟩:=h.next
 intro n hn
 obtain ⟨i,hi⟩:=lgm hn
 have hlt:=(lgs.1 hi).1
 rw [List.getLast?_eq_getElem?] at hl
 have hlt2:=(lgs.1 hl).1
 have hinc:=List.pairwise_iff_getElem.1 h.inc
 rcases Nat.lt_or_ge i (t.nodes.length - 1) with h2|h2
 ·have:=hinc i (t.nodes.length - 1) hlt hlt2 h2
  rw [(lgs.1 hi).2,(lgs.1 hl).2] at this
  omega
 ·have:i=t.nodes.length - 1:=by omega
  rw [this,hl] at hi
  simp at hi
  rw [<- hi]
  exact h1
theorem TreeOk.root {t:Tr} (h:TreeOk t):∃ r ns,t.nodes=r::ns/\r.id=1/\r.parent=0:=by
 cases hn:t.nodes with
 | nil=>have:=h.len.1;rw [hn] at this;simp at this
 | cons r ns =>
  have:=h.nodes
  rw [hn] at this
  simp only [Bp,bat] at this
  have:=IR this.1
  exact ⟨r,ns,rfl,this.1,this.2.1⟩
theorem QU:TreeOk newT:=by
 refine ⟨by simp [newT],by decide,by decide,⟨1,0,⟨#[]⟩,0,0,0⟩,rfl,by decide,by decide⟩
theorem CY {ns:List Nd} {id:Int} (h:(AS ns id).isSome=true):∃ n∈ns,n.id=id:=by
 unfold AS at h
 rw [List.find?_isSome] at h
 obtain ⟨n,hn,h⟩:=h
 exact ⟨n,hn,by simpa using h⟩
theorem Q9 {t:Tr} {p:Int} {s:ByteArray} (h0:(B4 t p s).2.2=0):TreeOk t/\TreeOk (B4 t p s).1/\(B4 t p s).1=⟨t.nodes++[⟨t.next,p,s,0,0,0⟩],t.next+1⟩:=by
 unfold B4 at h0 ⊢
 split at h0<;>try (simp at h0;done)
 rename_i h1
 split at h0<;>try (simp at h0;done)
 rename_i h2
 split at h0<;>try (simp at h0;done)
 rename_i h3
 split at h0<;>try (simp at h0;done)
 rename_i h4
 rw [if_neg h1,if_neg h2,if_neg h3,if_neg h4]
 simp only [Bool.not_eq_false,bat] at h1
 simp only [Bool.not_eq_false] at h2
 have hok:=(Bo t).1 h1.1
 refine ⟨hok,?_,rfl⟩
 have hf:(AS t.nodes p).isSome=true:=by
  unfold Bb at h2
  rw [if_pos h1.1] at h2
  exact h2
 obtain ⟨l,hl,hl1,hl2⟩:=hok.next
 have hlt:=hok.lt_next
 have hup:∀ id,id ≠ t.next->up (t.nodes++[⟨t.next,p,s,0,0,0⟩]) id=up t.nodes id:=fun id hid=>by
  unfold up
  rw [List.reverse_append]
  simp only [List.reverse_cons,List.reverse_nil,lna,lca,upR]
  rw [if_neg (Ne.symm hid)]
 refine ⟨by simp;omega,?_,fun n hn=>?_,⟨⟨t.next,p,s,0,0,0⟩,by simp,by simp;omega,by simp;omega⟩⟩
 ·rw [MR,hok.nodes]
  simp only [lna,Bp,bau,bta]
  rw [Gv hl]
  refine ⟨by simp,hl1,h1.2,fun x hx hd=>?_,CY hf⟩
  apply h3
  rw [List.any_eq_true]
  exact ⟨x,hx,by simpa using hd⟩
 ·simp only [lmp,List.mem_singleton] at hn
  rcases hn with hn|rfl
  ·rw [hup n.id (by have:=hlt n hn;omega)]
   exact hok.depth n hn
  ·have ha:Dz t p=up t.nodes p:=by unfold Dz;rw [if_pos h2]
   rw [ha] at h4
   have:up (t.nodes++[⟨t.next,p,s,0,0,0⟩]) t.next=t.next::up t.nodes p:=by
    unfold up
    rw [List.reverse_append]
    simp only [List.reverse_cons,List.reverse_nil,lna,lca,upR,if_true]
   simp only
   rw [this]
   simp only [llc]
   omega
theorem IK {q:Int}:∀ (ns:List Nd) (id:Int),id ≠ q->(∀ n∈ns,n.parent ≠ q)->upR (ns.filter fun n=>!decide (n.id=q)) id=upR ns id
 | [],_,_,_=>rfl
 | n::ns,id,hid,hp=>by
  have hp':∀ m∈ns,m.parent ≠ q:=fun m hm=>hp m (lmc _ hm)
  by_cases hq:n.id=q
  ·have:n.id ≠ id:=fun e=>hid (e ▸ hq)
   rw [List.filter_cons_of_neg (by simp [hq]),upR,if_neg this,IK ns id hid hp']
  ·rw [List.filter_cons_of_pos (by simp [hq]),upR,upR]
   split
   .rw [IK ns n.parent (hp n (lms ..)) hp']
   .rw [IK ns id hid hp']
theorem Kh {q:Int} (hq1:q ≠ 1):∀ (ns pre:List Nd),Bp pre ns=true->(∀ n∈ns,n.parent ≠ q)->(∀ (l:Nd),pre.getLast?=some l->∀ x∈pre,x.id<=l.id)->(pre.filter (fun n=>!decide (n.id=q))=[]->pre=[]) ->
  Bp (pre.filter fun n=>!decide (n.id=q)) (ns.filter fun n=>!decide (n.id=q))=true
 | [],_,_,_,_,_=>by simp [Bp]
 | n :: ns,pre,h,hp,hlast,hne=>by
  simp only [Bp,bat] at h
  have hinc:=JD (n::ns) pre (by simp only [Bp,bat];exact h) hlast
  have hp':∀ m∈ns,m.parent ≠ q:=fun m hm=>hp m (lmc _ hm)
  have hlast':∀ (l:Nd),(pre++[n]).getLast?=some l->∀ x∈pre++[n],x.id<=l.id:=fun l hl x hx=>by
   simp at hl
   subst hl
   rcases lmp.1 hx with hx|hx
   ·exact Int.le_of_lt (hinc.1 x hx n (by simp))
   ·simp at hx;subst hx;exact Int.le_refl _
  by_cases hq:n.id=q
  ·have ih:=Kh hq1 ns (pre++[n]) h.2 hp' hlast' (fun e=>by
    rw [List.filter_append,List.filter_cons_of_neg (by simp [hq]),List.filter_nil,lan] at e
    have:=hne e
    subst this
    exact absurd ((IR h.1).1.symm.trans hq) (Ne.symm hq1))
   rw [List.filter_append,List.filter_cons_of_neg (by simp [hq]),List.filter_nil,lan] at ih
   rw [List.filter_cons_of_neg (by simp [hq])]
   exact ih
  ·have ih:=Kh hq1 ns (pre++[n]) h.2 hp' hlast' (fun e=>by
    rw [List.filter_append,List.filter_cons_of_pos (by simp [hq])] at e
    simp at e)
   rw [List.filter_append,List.filter_cons_of_pos (by simp [hq]),List.filter_nil] at ih
   rw [List.filter_cons_of_pos (by simp [hq])]
   simp only [Bp,bat]
   refine ⟨?_,ih⟩
   cases hl:pre.getLast? with
   | none =>
    rw [List.getLast?_eq_none_iff] at hl
    subst hl
    simpa using h.1
   | some l =>
    obtain ⟨b1,b2,b3,b4,x,hx,b5⟩:=(Gv hl).1 h.1
    have hin:x∈pre.filter fun n=>!decide (n.id=q):=by
     rw [List.mem_filter]
     exact ⟨hx,by simpa using (fun e=>hp n (by simp) (b5.symm.trans e))⟩
    cases hl2:(pre.filter fun n=>!decide (n.id=q)).getLast? with
    | none =>
     rw [List.getLast?_eq_none_iff] at hl2
     rw [hl2] at hin
     cases hin
    | some l2 =>
     have hl2m:=List.mem_of_getLast? hl2
     rw [List.mem_filter] at hl2m
     rw [Gv hl2]
     exact ⟨b1,hinc.1 l2 hl2m.1 n (by simp),b3,fun y hy=>b4 y (List.mem_filter.1 hy).1,x,hin,b5⟩
theorem W6 {t:Tr} {q:Int} (h0:(B6 t q).2=0):TreeOk t/\TreeOk (B6 t q).1/\(B6 t q).1=⟨t.nodes.filter fun n=>!decide (n.id=q),t.next⟩:=by
 unfold B6 at h0 ⊢
 split at h0<;>try (simp at h0;done)
 rename_i h1
 split at h0<;>try (simp at h0;done)
 rename_i h2
 split at h0<;>try (simp at h0;done)
 rename_i h3
 split at h0<;>try (simp at h0;done)
 rename_i h4
 rw [if_neg h1,if_neg h2,if_neg h3,if_neg h4]
 simp only [Bool.not_eq_false] at h1 h2
 have hok:=(Bo t).1 h1
 have hpar:∀ n∈t.nodes,n.parent ≠ q:=fun n hn e=>by
  apply h4
  unfold ED
  rw [if_pos h2]
  intro e2
  have:n∈t.nodes.filter fun n=>decide (n.parent=q):=by
   rw [List.mem_filter]
   exact ⟨hn,by simpa using e⟩
  have:=List.mem_map_of_mem (f:=(·.id)) this
  rw [e2] at this
  cases this
 refine ⟨hok,?_,rfl⟩
 obtain ⟨r,ns,hr,hr1,_⟩:=hok.root
 have hrin:r∈t.nodes.filter fun n=>!decide (n.id=q):=by
  rw [List.mem_filter,hr]
  exact ⟨by simp,by simp;intro e;exact h3 (e.symm.trans hr1)⟩
 have hnodes:=Kh h3 t.nodes [] hok.nodes hpar (fun _ h=>by simp at h) (fun _=>rfl)
 refine ⟨⟨?_,?_⟩,by simpa using hnodes,fun n hn=>?_,?_⟩
 ·exact List.length_pos_of_mem hrin
 ·exact Nat.le_trans (List.length_filter_le _ _) hok.len.2
 ·rw [List.mem_filter] at hn
  have hid:n.id ≠ q:=by simpa using hn.2
  have:up (t.nodes.filter fun n=>!decide (n.id=q)) n.id=up t.nodes n.id:=by
   unfold up
   rw [<- List.filter_reverse]
   exact IK _ _ hid fun m hm=>hpar m (by simpa using hm)
  simp only
  rw [this]
  exact hok.depth n hn.1
 ·cases hl:(t.nodes.filter fun n=>!decide (n.id=q)).getLast? with
  | none =>
   rw [List.getLast?_eq_none_iff] at hl
   rw [hl] at hrin
   cases hrin
  | some l =>
   have hm:=(List.mem_filter.1 (List.mem_of_getLast? hl)).1
   obtain ⟨_,_,_,h5⟩:=hok.next
   exact ⟨l,rfl,hok.lt_next l hm,h5⟩
def Fd (L:List Int) (a:Nat) (t:Tr):Tr × Nat :=
 let a1:=Af L a t.nodes.length
 let p:=((t.nodes[(AA L a t.nodes.length).toNat]?).map (·.id)).getD 0
 let r:=B4 t p (Fu L a1)
 let a2:=Af L a1 6
 let t1:=if r.2.2=0 then r.1 else t
 let a3:=Af L a2 6
 if AA L a2 6=5 then
  let q:=((t1.nodes[(AA L a3 t1.nodes.length).toNat]?).map (·.id)).getD 0
  let u:=B6 t1 q
  (if u.2=0 then u.1 else t1,Af L a3 t1.nodes.length)
 else (t1,a3)
def GN (L:List Int):Nat->Nat->Tr->Tr × Nat
 | 0,a,t=>(t,a)
 | k+1,a,t=>GN L k (Fd L a t).2 (Fd L a t).1
def Fz (L:List Int) (a:Nat) (n:Nat):Tr × Nat:=GN L (AA L a (n+1)).toNat (Af L a (n+1)) newT
theorem Nu (L:List Int) (a:Nat) {t:Tr} (h:TreeOk t):TreeOk (Fd L a t).1:=by
 have h1:∀ p s,TreeOk (if (B4 t p s).2.2=0 then (B4 t p s).1 else t):=fun p s=>by
  split
  ·exact (Q9 (by assumption)).2.1
  ·exact h
 unfold Fd
 simp only
 split
 ·have h2:∀ (u:Tr) (q:Int),TreeOk u->TreeOk (if (B6 u q).2=0 then (B6 u q).1 else u):=fun u q hu=>by
   split
   .exact (W6 (by assumption)).2.1
   .exact hu
  exact h2 _ _ (h1 _ _)
 .exact h1 _ _
theorem Nv (L:List Int):∀ (k a:Nat) {t:Tr},TreeOk t->TreeOk (GN L k a t).1
 | 0,_,_,h=>h
 | k+1,a,_,h=>Nv L k _ (Nu L a h)
theorem zaC (L:List Int) (a n:Nat):TreeOk (Fz L a n).1:=Nv L _ _ QU
theorem za5 (L:List Int) (a n:Nat) (hL:L.length<4611686018427387904) (hn:n<1000):V 13 [.ptr (.arg 0 0) 0 0,.p (.int .i64 n)] [AV L a]=some ((Fz L a n).1.vv,[AV L (Fz L a n).2]):=by
 refine Ac (vf:=vf13) rfl ?_
 have hnx:=CP L a ((n:Int)+1) hL (by omega)
 have hn0:=Cl L a ((n:Int)+1)
 have hn1:=Cm L a (n:=(n:Int)+1) (by omega)
 refine w2 @zbn hnx ?_
 refine zaZ (σ:=Nat × Nat × Tr) (fun x s=>TreeOk x.2.2/\x.1<1000/\GN L x.1 x.2.1 x.2.2=Fz L a n/\s.pe 0=.ptr (.arg 0 0) 0 0/\s.pe 4=.ptr (.slot 4 0) 0 0/\s.pe 5=.ptr (.slot 5 0) 0 0/\s.pe 6=.p (.int .i64 x.1)/\s.h (.arg 0 0)=some (0,AV L x.2.1)/\s.h (.slot 4 0)=some (0,.box [.own (.slot 4 1) 0 0 0,.p (.int .i64 0)]) /\
  ∃ X, s.h (.slot 5 0)=some (0, .box [X, .p (.int .i64 x.2.2.next)])/\fz0 [8, 11, 13, 37, 58] s.h X=.p (An x.2.2.nodes)) (fun x=>x.1) ((AA L a (n+1)).toNat, Af L a (n+1), newT) ?_ ?_
 ·refine ⟨QU,by omega,rfl,?_⟩
  simp -implicitDefEqProofs (disch:=omega) only [Int.toNat_of_nonneg hn0,go_sem]
  refine ⟨_,rfl,?_⟩
  exact z0
 ·rintro ⟨k,b,t⟩ s ⟨hok,hk,htl,h0,h4,h5,h6,hh0,hh4,X,hh5,hX⟩
  simp only at hok hk htl h6 hh0 hh5 hX
  refine w8 h0 h4 h5 h6 hh0 hh4 hh5 hX ?_
  refine Ae (fun hgt=>?_) (fun hle=>?_)
  ·obtain ⟨k',rfl⟩:∃ k',k=k'+1:=⟨k - 1,by omega⟩
   have hlen:=hok.len
   have c1:=CP L b t.nodes.length hL (by omega)
   have c2:=Cl L b t.nodes.length
   have c3:=Cm L b (n:=t.nodes.length) (by omega)
   have hm:t.nodes[(AA L b t.nodes.length).toNat]?=some t.nodes[(AA L b t.nodes.length).toNat]:=lgg (by omega)
   generalize t.nodes[(AA L b t.nodes.length).toNat]'(by omega)=m at hm
   have c4:=zbA L (Af L b t.nodes.length) hL
   have c5:=zbp t m.id (Fu L (Af L b t.nodes.length)) (by omega)
   have c6:V 45 [.ptr (.arg 0 0) 0 0,.p (.int .i64 6)] [AV L (Af L (Af L b t.nodes.length) 6)]=some (.p (.bool (decide (AA L (Af L (Af L b t.nodes.length) 6) 6=5))),[AV L (Af L (Af L (Af L b t.nodes.length) 6) 6)]):=LU L _ 6 hL (by omega) (by omega)
   have hst:GN L k' (Fd L b t).2 (Fd L b t).1=Fz L a n:=htl
   have hstok:=Nu L b hok
   obtain ⟨t1,ht1,h1ok⟩:∃ t1,t1=(if (B4 t m.id (Fu L (Af L b t.nodes.length))).2.2=0 then (B4 t m.id (Fu L (Af L b t.nodes.length))).1 else t)/\TreeOk t1:=⟨_,rfl,by
    split
    ·exact (Q9 (by assumption)).2.1
    ·exact hok⟩
   have hlen1:=h1ok.len
   have d1:=CP L (Af L (Af L (Af L b t.nodes.length) 6) 6) t1.nodes.length hL (by omega)
   have d2:=Cl L (Af L (Af L (Af L b t.nodes.length) 6) 6) t1.nodes.length
   have d3:=Cm L (Af L (Af L (Af L b t.nodes.length) 6) 6) (n:=t1.nodes.length) (by omega)
   have hq:t1.nodes[(AA L (Af L (Af L (Af L b t.nodes.length) 6) 6) t1.nodes.length).toNat]?=some t1.nodes[(AA L (Af L (Af L (Af L b t.nodes.length) 6) 6) t1.nodes.length).toNat]:=lgg (by omega)
   generalize t1.nodes[(AA L (Af L (Af L (Af L b t.nodes.length) 6) 6) t1.nodes.length).toNat]'(by omega)=q at hq
   have d4:=W4 t1 q.id (by omega)
   have hstep:Fd L b t=if AA L (Af L (Af L b t.nodes.length) 6) 6=5 then (if (B6 t1 q.id).2=0 then (B6 t1 q.id).1 else t1,Af L (Af L (Af L (Af L b t.nodes.length) 6) 6) t1.nodes.length) else (t1,Af L (Af L (Af L b t.nodes.length) 6) 6):=by
    simp only [Fd,hm,Option.map_some,Option.getD_some,<- ht1,hq]
   rw [hstep] at hst hstok
   by_cases he:(B4 t m.id (Fu L (Af L b t.nodes.length))).2.2=0
   ·rw [if_pos he] at ht1
    simp -implicitDefEqProofs (disch:=omega) only [h0,h4,h5,h6,hh0,hh4,hh5,hX,c1,c2,hm,c4,c5,c6,he,<- ht1,go_sem]
    refine Ae (fun h5b=>?_) (fun h5b=>?_)
    ·rw [if_pos h5b] at hst hstok
     by_cases hr:(B6 t1 q.id).2=0
     ·rw [if_pos hr] at hst hstok
      refine w13 h0 h4 h5 h6 hh0 hh4 hh5 hX d1 d2 hq d4 hr ?_
      refine ⟨(k',Af L (Af L (Af L (Af L b t.nodes.length) 6) 6) t1.nodes.length,(B6 t1 q.id).1),Nat.lt_succ_self _,hstok,by simp only;omega,hst,?_⟩
      refine w8 h0 h4 h5 h6 hh0 hh4 hh5 hX ?_
      refine ⟨by congr 2;omega,_,rfl,?_⟩
      exact z0
     ·rw [if_neg hr] at hst hstok
      refine w13 h0 h4 h5 h6 hh0 hh4 hh5 hX d1 d2 hq d4 hr ?_
      refine ⟨(k',Af L (Af L (Af L (Af L b t.nodes.length) 6) 6) t1.nodes.length,t1),Nat.lt_succ_self _,hstok,by simp only;omega,hst,?_⟩
      refine w8 h0 h4 h5 h6 hh0 hh4 hh5 hX ?_
      refine ⟨by congr 2;omega,_,rfl,?_⟩
      exact z0
    ·rw [if_neg h5b] at hst hstok
     refine w8 h0 h4 h5 h6 hh0 hh4 hh5 hX ?_
     refine ⟨(k',Af L (Af L (Af L b t.nodes.length) 6) 6,t1),Nat.lt_succ_self _,hstok,by simp only;omega,hst,?_⟩
     refine w8 h0 h4 h5 h6 hh0 hh4 hh5 hX ?_
     refine ⟨by congr 2;omega,_,rfl,?_⟩
     exact z0
   ·rw [if_neg he] at ht1
    subst ht1
    simp -implicitDefEqProofs (disch:=omega) only [h0,h4,h5,h6,hh0,hh4,hh5,hX,c1,c2,hm,c4,c5,c6,he,go_sem]
    refine Ae (fun h5b=>?_) (fun h5b=>?_)
    ·rw [if_pos h5b] at hst hstok
     by_cases hr:(B6 t1 q.id).2=0
     ·rw [if_pos hr] at hst hstok
      refine w13 h0 h4 h5 h6 hh0 hh4 hh5 hX d1 d2 hq d4 hr ?_
      refine ⟨(k',Af L (Af L (Af L (Af L b t1.nodes.length) 6) 6) t1.nodes.length,(B6 t1 q.id).1),Nat.lt_succ_self _,hstok,by simp only;omega,hst,?_⟩
      refine w8 h0 h4 h5 h6 hh0 hh4 hh5 hX ?_
      refine ⟨by congr 2;omega,_,rfl,?_⟩
      exact z0
     ·rw [if_neg hr] at hst hstok
      refine w13 h0 h4 h5 h6 hh0 hh4 hh5 hX d1 d2 hq d4 hr ?_
      refine ⟨(k',Af L (Af L (Af L (Af L b t1.nodes.length) 6) 6) t1.nodes.length,t1),Nat.lt_succ_self _,hstok,by simp only;omega,hst,?_⟩
      refine w8 h0 h4 h5 h6 hh0 hh4 hh5 hX ?_
      refine ⟨by congr 2;omega,_,rfl,?_⟩
      exact z0
    ·rw [if_neg h5b] at hst hstok
     refine w8 h0 h4 h5 h6 hh0 hh4 hh5 hX ?_
     refine ⟨(k',Af L (Af L (Af L b t1.nodes.length) 6) 6,t1),Nat.lt_succ_self _,hstok,by simp only;omega,hst,?_⟩
     refine w8 h0 h4 h5 h6 hh0 hh4 hh5 hX ?_
     refine ⟨by congr 2;omega,_,rfl,?_⟩
     exact z0
  ·have hk0:k=0:=by omega
   subst hk0
   simp only [GN] at htl
   refine w8 h0 h4 h5 h6 hh0 hh4 hh5 hX ?_
   rw [<- htl]
def Ew (ns:List Nd) (id:Int):Int:=match ns.findIdx? (fun n=>decide (n.id=id)) with
 | some i=>i
 | none=>-1
theorem zcF (n:Nd) (id:Int):V 235 [n.vv,.ptr (.arg 0 0) 0 0] [.box [.p (.int .i64 id)]]=some (.p (.bool (decide (n.id=id))),[.box [.p (.int .i64 id)]]):=by
 refine Ac (vf:=vf235) rfl ?_
 exact z0
theorem zah {ns:List Nd} {id:Int} {k:Nat} {m:Nd} (hm:ns[k]?=some m) (h:∀ (i:Nat) (n:Nd),i<k->ns[i]?=some n->¬ n.id=id) (he:m.id=id):Ew ns id=k:=by
 unfold Ew
 have:ns.findIdx? (fun n=>decide (n.id=id))=some k:=by
  rw [List.findIdx?_eq_some_iff_getElem]
  refine ⟨(lgs.1 hm).1,by rw [(lgs.1 hm).2];simpa using he,fun j hj=>?_⟩
  have hl:j<ns.length:=Nat.lt_trans hj (lgs.1 hm).1
  simpa using h j ns[j] hj (lgg hl)
 rw [this]
theorem Xs {ns:List Nd} {id:Int} (h:∀ n∈ns,¬ n.id=id):Ew ns id=-1:=by
 unfold Ew
 have:ns.findIdx? (fun n=>decide (n.id=id))=none:=by
  rw [List.findIdx?_eq_none_iff]
  intro x hx
  simpa using h x hx
 rw [this]
theorem VL (ns:List Nd) (id:Int) (hl:ns.length<1000000):V 234 [.p (An ns),.fn 235 [.ptr (.arg 0 0) 0 0]] [.box [.p (.int .i64 id)]]=some (.p (.int .i64 (Ew ns id)),[.box [.p (.int .i64 id)]]):=by
 refine Ac (vf:=vf234) rfl ?_
 refine w0 ?_
 refine Aj ns.length (fun k s=>(∀ (i:Nat) (n:Nd),i<k->ns[i]?=some n->¬ n.id=id)/\s.pe 0=.p (An ns)/\s.pe 1=.fn 235 [.ptr (.arg 0 0) 0 0]/\s.pe 7=.p (.int .i64 ns.length)/\s.pe 8=.p (.int .i64 k)/\s.h (.arg 0 0)=some (0,.box [.p (.int .i64 id)])) ?_ ?_
 ·exact ⟨by omega,rfl,rfl,rfl,rfl,rfl⟩
 ·rintro k s hk ⟨hall,h0,h1,h7,h8,hh⟩
  refine w5 h0 h1 h7 h8 hh ?_
  refine Ae (fun hlt=>?_) (fun hge=>?_)
  ·have hm:ns[k]?=some ns[k]:=lgg hlt
   generalize ns[k]=m at hm
   have hc:=zcF m id
   unfold Nd.vv at hc
   refine w7 h0 h1 h7 h8 hh hm hc ?_
   repeat' ((first|refine AM ?_ ?_|refine AL ?_ ?_|refine AP ?_ ?_|refine AO ?_ ?_|refine AJ ?_ ?_|refine AI ?_ ?_|refine AN ?_ ?_|refine AK ?_ ?_|refine Ae ?_ ?_|refine AR ?_ ?_)<;>intro hb<;>simp -implicitDefEqProofs (disch:=omega) only [hb,h0,h1,h7,h8,hh,go_sem])
   .rw [zah hm hall hb]
   .exact ⟨hlt,E3 hm hall hb,by simp only [Int.natCast_add,Int.natCast_one]⟩
  ·refine w6 h0 h1 h7 h8 hh hge ?_
   rw [Xs]
   intro n hn
   obtain ⟨i,hi⟩:=lgm hn
   exact hall i n (by have:=(lgs.1 hi).1;omega) hi
theorem SY (t:Tr) (id:Int) (hl:t.nodes.length<1000000):V 202 [t.vv,.p (.int .i64 id)] []=some (.p (.int .i64 (Ew t.nodes id)),[]):=by
 refine Ac (vf:=vf202) rfl ?_
 have hc:=VL t.nodes id hl
 exact z1 hc
theorem Jl (ns:List Nd) (id:Int):(Ew ns id<0/\AS ns id=none) \/ ∃ (k:Nat) (m:Nd),Ew ns id=k/\ns[k]?=some m/\AS ns id=some m/\m.id=id:=by
 unfold Ew AS
 cases h:ns.findIdx? (fun n=>decide (n.id=id)) with
 | none =>
  left
  rw [List.findIdx?_eq_none_iff] at h
  exact ⟨by show (-1:Int)<0;omega,List.find?_eq_none.2 fun x hx=>by simp [h x hx]⟩
 | some k =>
  right
  rw [List.findIdx?_eq_some_iff_getElem] at h
  obtain ⟨h1,h2,h3⟩:=h
  refine ⟨k,ns[k],rfl,lgg h1,Kj (k:=k) (fun i n hi hn=>?_) (lgg h1) h2,by simpa using h2⟩
  have:=h3 i hi
  rw [<- (lgs.1 hn).2]
  simpa using this
theorem GQ (t:Tr) (id:Int) (hl:t.nodes.length<1000000):V 145 [t.vv,.p (.int .i64 id)] []=some (.tup [((AS t.nodes id).getD zeroNd).vv,.p (.bool (AS t.nodes id).isSome)],[]):=by
 refine Ac (vf:=vf145) rfl ?_
 have hc:=SY t id hl
 rcases Jl t.nodes id with ⟨h1,h2⟩|⟨k,m,h1,h2,h3,h4⟩
 ·refine w2 hc h1 ?_
  simp [h2,zeroNd,Nd.vv]
 ·rw [h1] at hc
  have hk:¬ (k:Int)<0:=by omega
  refine w3 hc hk h2 ?_
  simp [h3,Nd.vv]
def ancF (ns:List Nd):Nat->Int->List Int
 | 0,_=>[]
 | k+1,id=>match AS ns id with
  | none=>[]
  | some n=>id::ancF ns k n.parent
theorem EH (ns:List Nd):∀ (k:Nat) (id:Int),(ancF ns k id).length<=k
 | 0,_=>lrf _
 | k+1,id=>by
  unfold ancF
  split
  ·simp
  ·have:=EH ns k
   simp
   exact this _
theorem Jx (t:Tr) (id:Int) (hl:t.nodes.length<1000000):V 179 [t.vv,.p (.int .i64 id)] []=some (.fresh 1 ((ancF t.nodes t.nodes.length id).map (.int .i64)),[]):=by
 refine Ac (vf:=vf179) rfl ?_
 refine w0 ?_
 refine Aj t.nodes.length (fun k s=>∃ (acc:List Int) (cur:Int) (v:Nat),ancF t.nodes t.nodes.length id=acc++ancF t.nodes (t.nodes.length - k) cur/\acc.length<=k/\s.pe 1=.p (.int .i64 cur)/\s.pe 2=.ptr (.slot 2 0) 0 0/\s.pe 5=.own (.slot 5 0) v 0 acc.length/\s.pe 10=.p (.int .i64 t.nodes.length)/\s.pe 11=.p (.int .i64 k)/\s.h (.slot 2 0)=some (0,.box [.p (An t.nodes),.p (.int .i64 t.next)])/\s.h (.slot 5 0)=some (v,.arr 1 (acc.map (.int .i64)))) ?_ ?_
 ·exact ⟨[],id,0,by simp,by simp,rfl,rfl,rfl,rfl,rfl,rfl,rfl⟩
 ·rintro k s hk ⟨acc,cur,v,hup,hlen,h1,h2,h5,h10,h11,hh2,hh5⟩
  refine w7 h1 h2 h5 h10 h11 hh2 hh5 ?_
  refine Ae (fun hlt=>?_) (fun hge=>?_)
  ·have hc:=GQ t cur hl
   obtain ⟨d,hd⟩:∃ d,t.nodes.length - k=d+1:=⟨t.nodes.length - k - 1,by omega⟩
   have hd':t.nodes.length - (k+1)=d:=by omega
   rw [hd,ancF] at hup
   cases hf:AS t.nodes cur with
   | none =>
    rw [hf] at hc hup
    simp only [Option.getD_none,Option.isSome_none,lan] at hc hup
    unfold Nd.vv zeroNd at hc
    refine w8 h1 h2 h5 h10 h11 hh2 hh5 hc ?_
    rw [hup]
   | some m =>
    rw [hf] at hc hup
    simp only [Option.getD_some,Option.isSome_some] at hc hup
    unfold Nd.vv at hc
    refine w8 h1 h2 h5 h10 h11 hh2 hh5 hc ?_
    exact ⟨hlt,acc++[cur],m.parent,v+1,by rw [hup,hd'];simp,by simp;omega,rfl,by simp,by simp only [Int.natCast_add,Int.natCast_one],by simp⟩
  ·have hz:t.nodes.length - k=0:=by omega
   rw [hz,ancF,lan] at hup
   refine w8 h1 h2 h5 h10 h11 hh2 hh5 hge ?_
   rw [hup]
theorem Zg (n:Nd):V 142 [n.vv] []=some (.p (.bool (decide (n.id=1/\n.parent=0/\n.name=⟨#[]⟩/\n.kind=0))),[]):=by
 refine Ac (vf:=vf142) rfl ?_
 refine w0 ?_
 repeat' ((first|refine AM ?_ ?_|refine AL ?_ ?_|refine AP ?_ ?_|refine AO ?_ ?_|refine AJ ?_ ?_|refine AI ?_ ?_|refine AN ?_ ?_|refine AK ?_ ?_|refine Ae ?_ ?_|refine AR ?_ ?_)<;>intro hb<;>simp -implicitDefEqProofs (disch:=omega) only [hb,go_sem])
 all_goals
  simp only [pmi,VVal.p.injEq,PV.bool.injEq,and_true]
  rw [Bool.eq_iff_iff]
  simp only [decide_eq_true_eq,bft,false_iff]
  simp [*]
def Fy (pre:List Nd) (l n:Nd):Bool:=decide (l.id<n.id) && B8 n.name && decide (n.kind=0 \/ n.kind=1) && !(pre.any fun x=>decide (x.parent=n.parent/\x.name=n.name)) && pre.any fun x=>decide (x.id=n.parent)
theorem Zj (pre:List Nd) (l n:Nd) (hl:pre.getLast?=some l) (hlen:pre.length<1000000) (hs:n.name.size<9223372036854775808):V 143 [.p (An pre),n.vv] []=some (.p (.bool (Fy pre l n)),[]):=by
  refine Ac (vf:=vf143) rfl ?_
  have hpre : pre[((pre.length : Int) - 1).toNat]?=some l:=by
    rw [List.getLast?_eq_getElem?] at hl
    rw [show ((pre.length:Int) - 1).toNat=pre.length - 1 by omega]
    exact hl
  have hpos : 0<pre.length:=by
    have := (List.getElem?_eq_some_iff.1 hpre).1
    omega
  have hp0 : 0<=(pre.length : Int) - 1:=by omega
  have hv := Yk n.name hs
  refine w2 hpre hp0 ?_
  repeat' ((first|refine AM ?_ ?_|refine AL ?_ ?_|refine AP ?_ ?_|refine AO ?_ ?_|refine AJ ?_ ?_|refine AI ?_ ?_|refine AN ?_ ?_|refine AK ?_ ?_|refine Ae ?_ ?_|refine AR ?_ ?_)<;>intro hb<;>simp -implicitDefEqProofs (disch:=omega) only [hb,hpre,hv,go_sem])
  all_goals first
    | (simp only [Fy,pmi,VVal.p.injEq,PV.bool.injEq,and_true]
       rw [Bool.eq_iff_iff]
       simp only [bat,decide_eq_true_eq,bft,false_iff]
       try simp only [*]
       first | omega | (simp;done) | (simp;omega))
    | (have hvf:B8 n.name=false:=by simpa using ‹(!B8 n.name)=true›
       simp only [Fy,hvf,Bool.and_false,bfa]
       done)
    | skip
  all_goals
    have hvt : B8 n.name=true:=by simpa using ‹(!B8 n.name)=false›
    refine Aj pre.length (fun k s=>((pre.take k).any (fun x=>decide (x.parent=n.parent/\x.name=n.name))=false)/\s.pe 3=.ptr (.slot 3 0) 0 0/\s.pe 5=.p (.bool ((pre.take k).any fun x=>decide (x.id=n.parent)))/\s.pe 34=.p (An pre)/\s.pe 35=.p (.int .i64 pre.length)/\s.pe 36=.p (.int .i64 k)/\s.h (.slot 3 0)=some (0,.box (n.pv.cells.map .p))) ?_ ?_
    · exact ⟨by simp,rfl,rfl,rfl,rfl,rfl,by simp -implicitDefEqProofs (disch:=omega) only [go_sem];simp only [*]⟩
    · rintro k s hk ⟨hno,h3,h5,h34,h35,h36,hh3⟩
      simp only [Nd.pv,PV.cells,lpc,lpn] at hh3
      refine w6 h3 h5 h34 h35 h36 hh3 ?_
      refine Ae (fun hki=>?_) (fun hge=>?_)
      · have hm:pre[k]?=some pre[k]:=lgg (by omega)
        generalize pre[k]=m at hm
        refine w8 h3 h5 h34 h35 h36 hh3 hm hki ?_
        repeat' ((first|refine AM ?_ ?_|refine AL ?_ ?_|refine AP ?_ ?_|refine AO ?_ ?_|refine AJ ?_ ?_|refine AI ?_ ?_|refine AN ?_ ?_|refine AK ?_ ?_|refine Ae ?_ ?_|refine AR ?_ ?_)<;>intro hb<;>simp -implicitDefEqProofs (disch:=omega) only [hb,h3,h5,h34,h35,h36,hh3,hm,hki,go_sem])
        all_goals first
          | (have ha:(pre.any fun x=>decide (x.parent=n.parent/\x.name=n.name))=true:=by
              rw [List.any_eq_true]
              exact ⟨m,lmg hm,by simp [*]⟩
             simp only [Fy,ha,Bool.not_true,Bool.and_false,bfa]
             done)
          | exact ⟨by rw [FU hm,hno];simp [*],by rw [FU hm];simp [*],by simp only [Int.natCast_add,Int.natCast_one]⟩
      · refine w7 h3 h5 h34 h35 h36 hh3 hge ?_
        have hki:k=pre.length:=by omega
        subst hki
        rw [List.take_length] at hno ⊢
        simp only [Fy,hno,pmi,VVal.p.injEq,PV.bool.injEq,and_true]
        rw [Bool.eq_iff_iff]
        simp only [bat,decide_eq_true_eq,bnf,and_true,true_and]
        exact ⟨fun h=>⟨⟨⟨by omega,hvt⟩,by omega⟩,h⟩,fun h=>h.2⟩
theorem Ni {pre:List Nd} {l n:Nd} (hl:pre.getLast?=some l):BU pre n=(decide (0<=n.control/\n.control<=31/\0<=n.owner/\n.owner<=1048576) && Fy pre l n):=by
 rw [Bool.eq_iff_iff]
 simp only [BU,hl,Fy,bat,decide_eq_true_eq]
 constructor
 ·rintro ⟨⟨h1,h2⟩,⟨⟨h3,h4⟩,h5⟩,h6⟩
  exact ⟨h2,⟨⟨⟨h3,h4⟩,h1⟩,h5⟩,h6⟩
 ·rintro ⟨h2,⟨⟨⟨h3,h4⟩,h1⟩,h5⟩,h6⟩
  exact ⟨⟨h1,h2⟩,⟨⟨h3,h4⟩,h5⟩,h6⟩
theorem zaP {a:Int} (h0:0<=a) (h1:a<9223372036854775808):(IntKind.i64.wrap ((BitVec.ofInt IntKind.i64.bits a &&& ~~~ BitVec.ofInt IntKind.i64.bits 31).toNat:Int)=0)=(a<=31):=by
 have e64:IntKind.i64.bits=64:=rfl
 rw [eq_iff_iff]
 generalize hx:BitVec.ofInt IntKind.i64.bits a=x
 generalize hy:(x &&& ~~~ BitVec.ofInt IntKind.i64.bits 31)=y
 have hxn:x.toNat=a.toNat:=by
  rw [<- hx,BitVec.toNat_ofInt]
  rw [e64]
  omega
 have hbit:∀ i,y.getLsbD i=(x.getLsbD i && decide (5<=i)):=fun i=>by
  rw [<- hy,BitVec.getLsbD_and,BitVec.getLsbD_not]
  have h31:(BitVec.ofInt IntKind.i64.bits 31).getLsbD i=decide (i<5):=by
   rw [show BitVec.ofInt IntKind.i64.bits 31=BitVec.ofNat IntKind.i64.bits 31 from rfl,BitVec.getLsbD_ofNat]
   rw [show (31:Nat)=2 ^ 5 - 1 from rfl,Nat.testBit_two_pow_sub_one,e64]
   rw [Bool.eq_iff_iff]
   simp
   omega
  rw [h31]
  by_cases hi:i<IntKind.i64.bits
  ·rw [Bool.eq_iff_iff]
   simp [hi]
  ·have:x.getLsbD i=false:=BitVec.getLsbD_of_ge x i (by omega)
   simp [this]
 have hyle:y.toNat<=x.toNat:=by
  rw [<- hy,BitVec.toNat_and]
  exact Nat.and_le_left
 have hw:IntKind.i64.wrap (y.toNat:Int)=y.toNat:=En (by omega) (by omega)
 rw [hw]
 constructor
 ·intro h
  have hy0:y=0#_:=BitVec.eq_of_toNat_eq (by simpa using h)
  have hlt:x.toNat<2 ^ 5:=Nat.lt_pow_two_of_testBit _ fun i hi=>by
   have:=hbit i
   rw [hy0] at this
   simp only [BitVec.getLsbD_zero,decide_eq_true hi,bau] at this
   exact this.symm
  omega
 ·intro h
  have hlt:x.toNat<2 ^ 5:=by omega
  have hy0:y=0#_:=BitVec.eq_of_getLsbD_eq fun i hi=>by
   rw [hbit i]
   by_cases h5:5<=i
   ·have:x.getLsbD i=false:=by
     rw [BitVec.getLsbD]
     exact Nat.testBit_lt_two_pow (Nat.lt_of_lt_of_le hlt (Nat.pow_le_pow_right (by omega) h5))
    simp [this]
   .simp [h5]
  rw [hy0]
  simp
theorem Rh {a:Int} (h0:0<=a) (h1:a<9223372036854775808):(ME .i64 a 31=0)=(a<=31):=zaP h0 h1
theorem MJ {id:Int}:∀ (a b:List Nd),(∀ x∈a,x.id ≠ id)->upR (a++b) id=upR b id
 | [],_,_=>rfl
 | x::a,b,h=>by
  rw [lca,upR,if_neg (h x (lms ..)),MJ a b fun y hy=>h y (lmc _ hy)]
theorem WW (pre:List Nd) (m:Nd):up (pre++[m]) m.id=m.id::up pre m.parent:=by
 unfold up
 rw [List.reverse_append]
 simp only [List.reverse_cons,List.reverse_nil,lna,lca,upR,if_true]
theorem WV (pre:List Nd) (m:Nd) {id:Int} (h:m.id ≠ id):up (pre++[m]) id=up pre id:=by
 unfold up
 rw [List.reverse_append]
 simp only [List.reverse_cons,List.reverse_nil,lna,lca,upR]
 rw [if_neg h]
theorem za3 {ns:List Nd} (hinc:ns.Pairwise fun a b=>a.id<b.id) {k:Nat} {n:Nd} (hn:n∈ns.take k):up ns n.id=up (ns.take k) n.id:=by
 unfold up
 conv=>lhs;rw [<- List.take_append_drop k ns,List.reverse_append]
 refine MJ _ _ fun x hx=>?_
 rw [List.mem_reverse] at hx
 rw [<- List.take_append_drop k ns,List.pairwise_append] at hinc
 have:=hinc.2.2 n hn x hx
 omega
theorem Ki:∀ (ks:List MKey) (vs:List PV) (k:MKey) (v:PV),A2 (Au ks vs k v).1 (Au ks vs k v).2 k=some v
 | [],vs,k,v=>by cases vs<;>simp [Au,A2]
 | x::ks,[],k,v=>by simp [Au,A2]
 | x::ks,y::vs,k,v=>by
  unfold Au
  split
  ·rename_i h
   simp [A2,h]
  ·rename_i h
   simp only [A2,if_neg h]
   exact Ki ks vs k v
theorem ML:∀ (ks:List MKey) (vs:List PV) (k k':MKey) (v:PV),ks.length=vs.length->k' ≠ k->A2 (Au ks vs k v).1 (Au ks vs k v).2 k'=A2 ks vs k'
 | [],[],k,k',v,_,h=>by simp [Au,A2,h]
 | [],_::_,k,k',v,hl,h=>by simp at hl
 | x::ks,[],k,k',v,hl,h=>by simp at hl
 | x::ks,y::vs,k,k',v,hl,h=>by
  unfold Au
  split
  ·rename_i e
   subst e
   simp [A2,h]
  ·simp only [A2]
   split
   .rfl
   .exact ML ks vs k k' v (by simpa using hl) h
theorem Qd:∀ (ks:List MKey) (vs:List PV) (k:MKey) (v:PV),ks.length=vs.length->(Au ks vs k v).1.length=(Au ks vs k v).2.length
 | [],[],_,_,_=>rfl
 | [],_::_,_,_,h=>by simp at h
 | _::_,[],_,_,h=>by simp at h
 | x::ks,y::vs,k,v,h=>by
  unfold Au
  split
  ·simpa using h
  ·simp only [llc]
   rw [Qd ks vs k v (by simpa using h)]
structure Nd.Fits (n:Nd):Prop where
 name:n.name.size<9223372036854775808
 control:n.control<9223372036854775808
def Tr.Fits (t:Tr):Prop:=∀ n∈t.nodes,n.Fits
theorem Kc {t:Tr} {k:Nat} {m:Nd} (hm:t.nodes[k]?=some m) (h:BU (t.nodes.take k) m=false):AX t=false:=by
 rw [Bool.eq_false_iff]
 intro h0
 have:=(E4 _ _).1 ((Bo t).1 h0).nodes k m hm
 rw [lna,h] at this
 cases this
theorem T6 {t:Tr} {k:Nat} {m:Nd} (hm:t.nodes[k]?=some m) (h:9<(up (t.nodes.take (k+1)) m.id).length):AX t=false:=by
 rw [Bool.eq_false_iff]
 intro h0
 have hok:=(Bo t).1 h0
 have hin:m∈t.nodes.take (k+1):=by
  have:(t.nodes.take (k+1))[k]?=some m:=by rw [List.getElem?_take,if_pos (by omega)];exact hm
  exact lmg this
 have:=hok.depth m (lmg hm)
 rw [za3 hok.inc hin] at this
 omega
theorem Xm {pre:List Nd} {n:Nd} (h:¬ (0<=n.control/\n.control<=31/\0<=n.owner/\n.owner<=1048576)):BU pre n=false:=by
 simp only [BU,decide_eq_false h,Bool.and_false,bfa]
theorem IW (t:Tr) (hf:t.Fits) (hl:t.nodes.length<1000000):V 70 [t.vv] []=some (.p (.bool (AX t)),[]):=by
 refine Ac (vf:=vf70) rfl ?_
 by_cases h1:(t.nodes.length:Int)<1
 ·refine w1 h1 ?_
  simp [AX,show ¬ 1<=t.nodes.length by omega]
 by_cases h2:64<(t.nodes.length:Int)
 ·refine w2 h1 h2 ?_
  simp [AX,show ¬ t.nodes.length<=64 by omega]
 have hz : (0 : Int).toNat=0:=rfl
 have hr0:t.nodes[0]?=some t.nodes[0]:=lgg (by omega)
 generalize t.nodes[0]=r at hr0
 have hroot:=Zg r
 by_cases hr:¬ (r.id=1/\r.parent=0/\r.name=⟨#[]⟩/\r.kind=0)
 ·rw [decide_eq_false hr] at hroot
  unfold Nd.vv at hroot
  refine w5 h1 h2 hz hr0 hroot ?_
  rw [Kc hr0]
  rw [Bool.eq_false_iff]
  intro h0
  exact hr (IR (by simpa using h0))
 have hr := Classical.not_not.1 hr
 rw [decide_eq_true hr] at hroot
 unfold Nd.vv at hroot
 refine w5 h1 h2 hz hr0 hroot ?_
 refine Aj t.nodes.length (fun k s=>∃ (ks:List MKey) (vs:List PV),ks.length=vs.length/\(k=0->ks=[]/\vs=[])/\(∀ (i:Nat) (n:Nd),i<k->t.nodes[i]?=some n->(A2 ks vs (.int n.id)).getD (.int .i64 0)=.int .i64 (((up (t.nodes.take k) n.id).length:Int) - 1)) /\
  (∀ (i : Nat) (n : Nd),i<k->t.nodes[i]?=some n->BU (t.nodes.take i) n=true)/\(∀ (i : Nat) (n : Nd),i<k->t.nodes[i]?=some n->(up (t.nodes.take k) n.id).length<=9)/\s.pe 1=.ptr (.slot 1 0) 0 0/\s.pe 3=.mref (.slot 24 0) 0/\s.pe 26=.p (An t.nodes)/\s.pe 27=.p (.int .i64 t.nodes.length)/\s.pe 28=.p (.int .i64 k) /\
  s.h (.slot 1 0)=some (0,.box [.p (An t.nodes),.p (.int .i64 t.next)])/\s.h (.slot 24 0)=some (0,.map (.int .i64) ks vs)) ?_ ?_
 ·refine ⟨[],[],rfl,fun _=>⟨rfl,rfl⟩,by omega,by omega,by omega,?_⟩
  refine w0 ?_
  rfl
 ·rintro k s hk ⟨ks,vs,hkl,hk0,hdep,hnok,hup,p1,p3,p26,p27,p28,hh1,hh24⟩
  refine w7 p1 p3 p26 p27 p28 hh1 hh24 ?_
  refine Ae (fun hlt=>?_) (fun hge=>?_)
  ·have hm:t.nodes[k]?=some t.nodes[k]:=lgg hlt
   generalize t.nodes[k]=m at hm
   have hfit:=hf m (lmg hm)
   have hctl:=hfit.control
   by_cases hbad:0<=m.control/\m.control<=31/\0<=m.owner/\m.owner<=1048576
   ·have c1:¬ m.control<0:=by omega
    have c2:m.control<=31:=by omega
    have c3:¬ m.owner<0:=by omega
    have c4:¬ 1048576<m.owner:=by omega
    have hbits:=Rh hbad.1 hctl
    by_cases hkp:0<(k:Int)
    ·obtain ⟨l,hlast⟩:∃ l,(t.nodes.take k).getLast?=some l:=by
      cases hq:(t.nodes.take k).getLast? with
      | none =>
       rw [List.getLast?_eq_none_iff] at hq
       have:=congrArg List.length hq
       rw [llt,lln] at this
       omega
      | some l=>exact ⟨l,rfl⟩
     have hfine:=Zj (t.nodes.take k) l m hlast (by simp;omega) hfit.name
     unfold Nd.vv An at hfine
     have hle:k<=t.nodes.length:=hk
     cases hfb:Fy (t.nodes.take k) l m with
     | false =>
      rw [hfb] at hfine
      simp -implicitDefEqProofs (disch:=omega) only [p1,p3,p26,p27,p28,hh1,hh24,hm,hbits,c1,c2,c3,c4,hkp,hle,Nat.sub_zero,<- List.map_take,hfine,go_sem]
      rw [Kc hm]
      rw [Ni hlast,hfb,Bool.and_false]
     | true =>
      rw [hfb] at hfine
      have hno:BU (t.nodes.take k) m=true:=by rw [Ni hlast,hfb,decide_eq_true hbad];rfl
      obtain ⟨b1,b2,b3,b4,pn,hpn,hpe⟩:=(Gv hlast).1 hno
      obtain ⟨pi,hpi⟩:=lgm hpn
      have hpik:pi<k:=by
       have:=(lgs.1 hpi).1
       simp at this
       omega
      rw [List.getElem?_take,if_pos hpik] at hpi
      have hd:=hdep pi pn hpik hpi
      rw [hpe] at hd
      have hul:=hup pi pn hpik hpi
      rw [hpe] at hul
      simp -implicitDefEqProofs (disch:=omega) only [p1,p3,p26,p27,p28,hh1,hh24,hm,hbits,c1,c2,c3,c4,hkp,hle,Nat.sub_zero,<- List.map_take,hfine,hd,Ki,Option.getD_some,go_sem]
      have htk:t.nodes.take (k+1)=t.nodes.take k++[m]:=Bt hm
      have hum:up (t.nodes.take (k+1)) m.id=m.id::up (t.nodes.take k) m.parent:=by rw [htk];exact WW _ _
      have hltm:∀ (i:Nat) (n:Nd),i<k->t.nodes[i]?=some n->n.id<m.id:=fun i n hi hn=>by
       have hno':Bp [] (t.nodes.take (k+1))=true:=(E4 _ _).2 fun j x hx=>by
        have hjl:=(lgs.1 hx).1
        simp at hjl
        rw [List.getElem?_take,if_pos (by omega)] at hx
        rw [lna,List.take_take,Nat.min_eq_left (by omega)]
        rcases Nat.lt_or_ge j k with h0|h0
        ·exact hnok j x h0 hx
        ·have:j=k:=by omega
         subst this
         rw [hm] at hx
         simp at hx
         subst hx
         exact hno
       have hinc:=(JD _ _ hno' (fun _ h=>by simp at h)).2
       rw [htk,List.pairwise_append] at hinc
       refine hinc.2.2 n ?_ m (by simp)
       have:(t.nodes.take k)[i]?=some n:=by rw [List.getElem?_take,if_pos hi];exact hn
       exact lmg this
      have hun:∀ (i:Nat) (n:Nd),i<k->t.nodes[i]?=some n->up (t.nodes.take (k+1)) n.id=up (t.nodes.take k) n.id:=fun i n hi hn=>by
       rw [htk]
       exact WV _ _ (by have:=hltm i n hi hn;omega)
      refine Ae (fun hdeep=>?_) (fun hshal=>?_)
      ·refine w7 p1 p3 p26 p27 p28 hh1 hh24 ?_
       rw [T6 hm]
       rw [hum,llc]
       omega
      ·refine w7 p1 p3 p26 p27 p28 hh1 hh24 ?_
       refine ⟨hlt,(Au ks vs (.int m.id) (.int .i64 (((up (t.nodes.take k) m.parent).length:Int) - 1+1))).1,(Au ks vs (.int m.id) (.int .i64 (((up (t.nodes.take k) m.parent).length:Int) - 1+1))).2,Qd _ _ _ _ hkl,fun h=>h.elim,E3 hm (fun i n hi hn=>?_) ?_,E3 hm hnok hno,E3 hm (fun i n hi hn=>?_) ?_,?_,rfl⟩
       ·rw [hun i n hi hn,ML _ _ _ _ _ hkl (by have:=hltm i n hi hn;simp;omega)]
        exact hdep i n hi hn
       ·rw [Ki,hum]
        simp
       ·rw [hun i n hi hn]
        exact hup i n hi hn
       ·rw [hum,llc]
        omega
       .simp only [Int.natCast_add,Int.natCast_one]
    ·have hk0':k=0:=by omega
     subst hk0'
     obtain ⟨rfl,rfl⟩:=hk0 rfl
     rw [hm] at hr0
     simp only [osi] at hr0
     subst hr0
     have hg:(A2 [] [] (.int m.id)).getD (.int .i64 0)=.int .i64 0:=rfl
     have h80:¬ (8:Int)<0:=by omega
     simp -implicitDefEqProofs (disch:=omega) only [p1,p3,p26,p27,p28,hh1,hh24,hm,hbits,c1,c2,c3,c4,hkp,hg,h80,go_sem]
     have htk:t.nodes.take (0+1)=[m]:=Bt hm
     have hum:up (t.nodes.take (0+1)) m.id=[m.id]:=by rw [htk];simp [up,upR]
     refine ⟨hlt,[],[],rfl,fun h=>h.elim,E3 hm (fun i n hi=>absurd hi (by omega)) ?_,E3 hm (fun i n hi=>absurd hi (by omega)) ?_,E3 hm (fun i n hi=>absurd hi (by omega)) ?_,rfl,rfl⟩
     ·rw [hum]
      rfl
     ·simp only [BU,List.take_zero,List.getLast?_nil,decide_eq_true hr,decide_eq_true hbad,bau,decide_eq_true_eq]
      exact .inl hr.2.2.2
     ·rw [hum]
      simp
   ·refine w8 p1 p3 p26 p27 p28 hh1 hh24 hm ?_
    repeat' ((first|refine AM ?_ ?_|refine AL ?_ ?_|refine AP ?_ ?_|refine AO ?_ ?_|refine AJ ?_ ?_|refine AI ?_ ?_|refine AN ?_ ?_|refine AK ?_ ?_|refine Ae ?_ ?_|refine AR ?_ ?_)<;>intro hb<;>simp -implicitDefEqProofs (disch:=omega) only [hb,p1,p3,p26,p27,p28,hh1,hh24,hm,Rh,go_sem])
    all_goals first
     | (exfalso;omega)
     | (rw [Kc hm (Xm hbad)])
  ·have hke:k=t.nodes.length:=by omega
   subst hke
   rw [List.take_length] at hup
   have hla:t.nodes[((t.nodes.length:Int) - 1).toNat]?=some t.nodes[t.nodes.length - 1]:=by
    rw [show ((t.nodes.length:Int) - 1).toNat=t.nodes.length - 1 by omega]
    exact lgg (by omega)
   have hlast:t.nodes.getLast?=some t.nodes[t.nodes.length - 1]:=by
    rw [List.getLast?_eq_getElem?]
    exact lgg (by omega)
   generalize t.nodes[t.nodes.length - 1]=l at hla hlast
   have hok:Bp [] t.nodes=true:=(E4 _ _).2 fun i n hn=>by simpa using hnok i n (lgs.1 hn).1 hn
   have hk2:t.nodes.all (fun n=>decide ((up t.nodes n.id).length<=9))=true:=by
    rw [List.all_eq_true]
    intro n hn
    obtain ⟨i,hi⟩:=lgm hn
    simpa using hup i n (lgs.1 hi).1 hi
   have hp0:0<=(t.nodes.length:Int) - 1:=by omega
   refine w10 p1 p3 p26 p27 p28 hh1 hh24 hge hla hp0 ?_
   repeat' ((first|refine AM ?_ ?_|refine AL ?_ ?_|refine AP ?_ ?_|refine AO ?_ ?_|refine AJ ?_ ?_|refine AI ?_ ?_|refine AN ?_ ?_|refine AK ?_ ?_|refine Ae ?_ ?_|refine AR ?_ ?_)<;>intro hb<;>simp -implicitDefEqProofs (disch:=omega) only [hb,p1,p3,p26,p27,p28,hh1,hh24,hla,go_sem])
   all_goals
    simp only [AX,hok,hk2,hlast,show (1<=t.nodes.length/\t.nodes.length<=64) by omega,pmi,VVal.p.injEq,PV.bool.injEq,and_true,decide_true,bta]
    rw [Bool.eq_iff_iff]
    simp only [decide_eq_true_eq,bft,false_iff]
    omega
theorem DA {ns:List Nd} (hinc:ns.Pairwise fun a b=>a.id<b.id) {i:Nat} {n:Nd} (hn:ns[i]?=some n):AS ns n.id=some n:=by
 unfold AS
 refine Kj (k:=i) (fun j m hj hm=>?_) hn (by simp)
 have hl:=(lgs.1 hn).1
 have:=List.pairwise_iff_getElem.1 hinc j i (by omega) hl hj
 rw [(lgs.1 hm).2,(lgs.1 hn).2] at this
 simp
 omega
theorem TreeOk.pos {t:Tr} (h:TreeOk t):∀ n∈t.nodes,1<=n.id:=Kx t.nodes [] (by simp) h.nodes
theorem TreeOk.find0 {t:Tr} (h:TreeOk t):AS t.nodes 0=none:=by
 unfold AS
 rw [List.find?_eq_none]
 intro n hn
 have:=h.pos n hn
 simp
 omega
theorem TreeOk.nodeAt {t:Tr} (h:TreeOk t) {i:Nat} {n:Nd} (hn:t.nodes[i]?=some n):(i=0/\n.id=1/\n.parent=0) \/ (0<i/\1<n.id/\∃ j p,j<i/\t.nodes[j]?=some p/\p.id=n.parent):=by
 have hok:=(E4 _ _).1 h.nodes i n hn
 rw [lna] at hok
 rcases Nat.eq_zero_or_pos i with rfl|hi
 ·left
  rw [List.take_zero] at hok
  have:=IR hok
  exact ⟨rfl,this.1,this.2.1⟩
 ·right
  have hlt:=(lgs.1 hn).1
  cases hl:(t.nodes.take i).getLast? with
  | none =>
   rw [List.getLast?_eq_none_iff] at hl
   have:=congrArg List.length hl
   rw [llt,lln] at this
   omega
  | some l =>
   obtain ⟨_,h2,_,_,p,hp,he⟩:=(Gv hl).1 hok
   have h1:=h.pos l (List.mem_of_mem_take (List.mem_of_getLast? hl))
   obtain ⟨j,hj⟩:=lgm hp
   have hjl:=(lgs.1 hj).1
   simp at hjl
   rw [List.getElem?_take,if_pos (by omega)] at hj
   exact ⟨hi,by omega,j,p,by omega,hj,he⟩
theorem Y4 {t:Tr} (h:TreeOk t):∀ (i:Nat) (n:Nd),t.nodes[i]?=some n->∀ k k',i<k->i<k'->ancF t.nodes k n.id=ancF t.nodes k' n.id:=by
 intro i
 induction i using Nat.strongRecOn with
 | _ i ih =>
  intro n hn k k' hk hk'
  obtain ⟨k,rfl⟩:∃ m,k=m+1:=⟨k - 1,by omega⟩
  obtain ⟨k',rfl⟩:∃ m,k'=m+1:=⟨k' - 1,by omega⟩
  have hf:=DA h.inc hn
  simp only [ancF,hf]
  congr 1
  rcases h.nodeAt hn with ⟨rfl,_,h0⟩|⟨hi,_,j,p,hj,hp,he⟩
  ·rw [h0]
   have hz:∀ m,ancF t.nodes m 0=[]:=fun m=>by
    cases m with
    | zero=>rfl
    | succ m=>simp only [ancF,h.find0]
   rw [hz,hz]
  ·rw [<- he]
   exact ih j hj p hp k k' (by omega) (by omega)
theorem PM {t:Tr} (h:TreeOk t) {i:Nat} {n:Nd} (hn:t.nodes[i]?=some n):ancF t.nodes t.nodes.length n.id=n.id::(if i=0 then [] else ancF t.nodes t.nodes.length n.parent):=by
 have hlt:=(lgs.1 hn).1
 obtain ⟨k,hk⟩:∃ m,t.nodes.length=m+1:=⟨t.nodes.length - 1,by omega⟩
 rw [hk]
 have hf:=DA h.inc hn
 conv=>lhs;simp only [ancF,hf]
 congr 1
 rcases h.nodeAt hn with ⟨rfl,_,h0⟩|⟨hi,_,j,p,hj,hp,he⟩
 ·rw [h0,if_pos rfl]
  cases k with
  | zero=>rfl
  | succ m=>simp only [ancF,h.find0]
 ·rw [if_neg (by omega),<- he]
  exact Y4 h j p hp _ _ (by omega) (by omega)
theorem TreeOk.fits {t:Tr} (h:TreeOk t):t.Fits:=by
 intro n hn
 obtain ⟨i,hi⟩:=lgm hn
 have hok:=(E4 _ _).1 h.nodes i n hi
 rw [lna] at hok
 unfold BU at hok
 simp only [bat,decide_eq_true_eq] at hok
 refine ⟨?_,by omega⟩
 have h2:=hok.2
 split at h2
 ·simp only [decide_eq_true_eq] at h2
  rw [h2.2.2.1]
  decide
 ·simp only [bat] at h2
  have hv:=h2.1.1.2
  simp only [B8,bat,decide_eq_true_eq] at hv
  omega
theorem TreeOk.idx {t:Tr} (h:TreeOk t) {i j:Nat} {n m:Nd} (hn:t.nodes[i]?=some n) (hm:t.nodes[j]?=some m) (he:n.id=m.id):i=j/\n=m:=by
 obtain ⟨hi,rfl⟩:=lgs.1 hn
 obtain ⟨hj,rfl⟩:=lgs.1 hm
 have hp:=List.pairwise_iff_getElem.1 h.inc
 rcases Nat.lt_trichotomy i j with hlt|rfl|hlt
 .have:=hp i j hi hj hlt;omega
 .exact ⟨rfl,rfl⟩
 .have:=hp j i hj hi hlt;omega
theorem DF {t:Tr} (h:TreeOk t) {i:Nat} {n:Nd} (hn:t.nodes[i]?=some n) (c:Int):c∈ancF t.nodes t.nodes.length n.id ↔ c=n.id \/ (i ≠ 0/\c∈ancF t.nodes t.nodes.length n.parent):=by
 rw [PM h hn]
 by_cases hi:i=0
 .simp [hi]
 .simp [hi]
theorem TreeOk.kid {t:Tr} (h:TreeOk t) {i j:Nat} {n m:Nd} (hn:t.nodes[i]?=some n) (hm:t.nodes[j]?=some m) (hp:m.parent=n.id):i<j:=by
 rcases h.nodeAt hm with ⟨_,_,h0⟩|⟨_,_,k,p,hk,hpk,hpe⟩
 .have:=h.pos n (lmg hn);omega
 .have:=(h.idx hpk hn (by omega)).1;omega
theorem JF {t:Tr} (h:TreeOk t):∀ (i:Nat) (n:Nd),t.nodes[i]?=some n->∀ c∈ancF t.nodes t.nodes.length n.id,∃ j m,j<=i/\t.nodes[j]?=some m/\m.id=c:=by
 intro i
 induction i using Nat.strongRecOn with
 | _ i ih =>
  intro n hn c hc
  rcases (DF h hn c).1 hc with rfl|⟨h0,hc⟩
  ·exact ⟨i,n,lrf _,hn,rfl⟩
  ·rcases h.nodeAt hn with ⟨h1,_⟩|⟨_,_,k,p,hk,hpk,hpe⟩
   ·contradiction
   ·rw [<- hpe] at hc
    obtain ⟨j,m,hj,hm,he⟩:=ih k hk p hpk c hc
    exact ⟨j,m,by omega,hm,he⟩
theorem Jp {t:Tr} (h:TreeOk t) {i:Nat} {n:Nd} (hn:t.nodes[i]?=some n):n.id∈ancF t.nodes t.nodes.length n.id:=(DF h hn _).2 (Or.inl rfl)
theorem OT {t:Tr} (h:TreeOk t) {k:Nat} {c:Nd} (hc:t.nodes[k]?=some c) (hk:k ≠ 0):∀ (i:Nat) (n:Nd),t.nodes[i]?=some n->c.id∈ancF t.nodes t.nodes.length n.id->c.parent∈ancF t.nodes t.nodes.length n.id:=by
 intro i
 induction i using Nat.strongRecOn with
 | _ i ih =>
  intro n hn hm
  rcases (DF h hn c.id).1 hm with he|⟨h0,hm⟩
  ·obtain ⟨rfl,rfl⟩:=h.idx hc hn he
   rcases h.nodeAt hn with ⟨h1,_⟩|⟨_,_,j,p,hj,hp,hpe⟩
   ·contradiction
   ·refine (DF h hn _).2 (Or.inr ⟨hk,?_⟩)
    rw [<- hpe]
    exact Jp h hp
  ·refine (DF h hn _).2 (Or.inr ⟨h0,?_⟩)
   rcases h.nodeAt hn with ⟨h1,_⟩|⟨_,_,j,p,hj,hp,hpe⟩
   ·contradiction
   ·rw [<- hpe] at hm ⊢
    exact ih j hj p hp hm
theorem PL {t:Tr} (h:TreeOk t) {c:Int}:∀ (i:Nat) (n:Nd),t.nodes[i]?=some n->c∈ancF t.nodes t.nodes.length n.id->c ≠ n.id->∃ (j:Nat) (m:Nd),t.nodes[j]?=some m/\m.parent=c/\m.id∈ancF t.nodes t.nodes.length n.id:=by
 intro i
 induction i using Nat.strongRecOn with
 | _ i ih =>
  intro n hn hm hne
  rcases (DF h hn c).1 hm with he|⟨h0,hm⟩
  ·contradiction
  ·rcases h.nodeAt hn with ⟨h1,_⟩|⟨_,_,j,p,hj,hp,hpe⟩
   ·contradiction
   ·by_cases hcp:c=n.parent
    ·exact ⟨i,n,hn,hcp.symm,Jp h hn⟩
    ·rw [<- hpe] at hm
     obtain ⟨k,m,hk,hmp,hma⟩:=ih j hj p hp hm (by omega)
     rw [hpe] at hma
     exact ⟨k,m,hk,hmp,(DF h hn _).2 (Or.inr ⟨h0,hma⟩)⟩
def kidsN (ns:List Nd) (id:Int):List Int:=(ns.filter fun n=>decide (n.parent=id)).map (·.id)
def AC (ns:List Nd):Nat->Int->List Int
 | 0,_=>[]
 | k+1,id=>id::(kidsN ns id).flatMap (AC ns k)
theorem CN {ns:List Nd} {id x:Int}:x∈kidsN ns id ↔ ∃ (j:Nat) (m:Nd),ns[j]?=some m/\m.parent=id/\m.id=x:=by
 simp only [kidsN,lmm,List.mem_filter,decide_eq_true_eq]
 constructor
 ·rintro ⟨m,⟨hm,hp⟩,he⟩
  obtain ⟨j,hj⟩:=lgm hm
  exact ⟨j,m,hj,hp,he⟩
 ·rintro ⟨j,m,hj,hp,he⟩
  exact ⟨m,⟨lmg hj,hp⟩,he⟩
theorem HS {t:Tr} (h:TreeOk t):∀ (k i:Nat) (n:Nd),t.nodes[i]?=some n->t.nodes.length<=i+k->∀ x,x∈AC t.nodes k n.id ↔ ∃ (j:Nat) (m:Nd),t.nodes[j]?=some m/\m.id=x/\n.id∈ancF t.nodes t.nodes.length m.id:=by
 intro k
 induction k with
 | zero=>intro i n hn hk;have:=(lgs.1 hn).1;omega
 | succ k ih =>
  intro i n hn hk x
  simp only [AC,lmk,List.mem_flatMap]
  constructor
  ·rintro (rfl|⟨c,hc,hx⟩)
   ·exact ⟨i,n,hn,rfl,Jp h hn⟩
   ·obtain ⟨j,m,hj,hp,rfl⟩:=CN.1 hc
    have hij:=h.kid hn hj hp
    obtain ⟨q,y,hq,hy,hm⟩:=(ih j m hj (by omega) x).1 hx
    refine ⟨q,y,hq,hy,?_⟩
    rw [<- hp]
    exact OT h hj (by omega) q y hq hm
  ·rintro ⟨j,m,hj,rfl,hm⟩
   by_cases he:n.id=m.id
   ·exact Or.inl he.symm
   ·obtain ⟨q,y,hq,hy,hm'⟩:=PL h j m hj hm he
    have hiq:=h.kid hn hq hy
    exact Or.inr ⟨y.id,CN.2 ⟨q,y,hq,hy,rfl⟩,(ih q y hq (by omega) _).2 ⟨j,m,hj,rfl,hm'⟩⟩
theorem Wt {t:Tr} (h:TreeOk t) (id:Int):(kidsN t.nodes id).Nodup:=by
 rw [kidsN,List.Nodup,List.pairwise_map]
 exact List.Pairwise.imp_of_mem (fun _ _ hab=>by omega) (h.inc.filter _)
theorem Oz {t:Tr} (h:TreeOk t):∀ (k i:Nat) (n:Nd),t.nodes[i]?=some n->t.nodes.length<=i+k->(AC t.nodes k n.id).Nodup:=by
 intro k
 induction k with
 | zero=>intro i n hn hk;have:=(lgs.1 hn).1;omega
 | succ k ih =>
  intro i n hn hk
  simp only [AC,List.nodup_cons]
  constructor
  ·intro hx
   obtain ⟨c,hc,hx⟩:=List.mem_flatMap.1 hx
   obtain ⟨j,m,hj,hp,rfl⟩:=CN.1 hc
   have hij:=h.kid hn hj hp
   obtain ⟨q,y,hq,hy,hm⟩:=(HS h k j m hj (by omega) n.id).1 hx
   obtain ⟨q',y',hle,hq',hy'⟩:=JF h q y hq m.id hm
   have h1:=(h.idx hq hn hy).1
   have h2:=(h.idx hq' hj hy').1
   omega
  ·rw [List.Nodup,List.pairwise_flatMap]
   constructor
   ·intro c hc
    obtain ⟨j,m,hj,hp,rfl⟩:=CN.1 hc
    have hij:=h.kid hn hj hp
    exact ih j m hj (by omega)
   ·have hnd:=Wt h n.id
    refine List.Pairwise.imp_of_mem ?_ hnd
    intro c1 c2 hc1 hc2 hne x hx1 y hy2 hxy
    subst hxy
    obtain ⟨j1,m1,hj1,hp1,rfl⟩:=CN.1 hc1
    obtain ⟨j2,m2,hj2,hp2,rfl⟩:=CN.1 hc2
    have hij1:=h.kid hn hj1 hp1
    have hij2:=h.kid hn hj2 hp2
    obtain ⟨q,z,hq,hz,hm1⟩:=(HS h k j1 m1 hj1 (by omega) x).1 hx1
    obtain ⟨q',z',hq',hz',hm2⟩:=(HS h k j2 m2 hj2 (by omega) x).1 hy2
    obtain ⟨rfl,rfl⟩:=h.idx hq hq' (by omega)
    exact hne (sib h hn hj1 hj2 hp1 hp2 q z hq hm1 hm2)
where
 sib {t:Tr} (h:TreeOk t) {i j1 j2:Nat} {n m1 m2:Nd} (hn:t.nodes[i]?=some n) (hj1:t.nodes[j1]?=some m1) (hj2:t.nodes[j2]?=some m2) (hp1:m1.parent=n.id) (hp2:m2.parent=n.id):∀ (q:Nat) (z:Nd),t.nodes[q]?=some z->m1.id∈ancF t.nodes t.nodes.length z.id->m2.id∈ancF t.nodes t.nodes.length z.id->m1.id=m2.id:=by
  intro q
  induction q using Nat.strongRecOn with
  | _ q ih =>
   intro z hz h1 h2
   have hij1:=h.kid hn hj1 hp1
   have hij2:=h.kid hn hj2 hp2
   rcases (DF h hz _).1 h1 with e1|⟨h0,h1'⟩
   ·rcases (DF h hz _).1 h2 with e2|⟨_,h2'⟩
    ·omega
    ·obtain ⟨rfl,rfl⟩:=h.idx hj1 hz e1
     rw [hp1] at h2'
     obtain ⟨j,m,hle,hj,he⟩:=JF h i n hn _ h2'
     have:=(h.idx hj hj2 he).1
     omega
   ·rcases (DF h hz _).1 h2 with e2|⟨_,h2'⟩
    ·obtain ⟨rfl,rfl⟩:=h.idx hj2 hz e2
     rw [hp2] at h1'
     obtain ⟨j,m,hle,hj,he⟩:=JF h i n hn _ h1'
     have:=(h.idx hj hj1 he).1
     omega
    ·rcases h.nodeAt hz with ⟨hh,_⟩|⟨_,_,j,p,hj,hp,hpe⟩
     ·contradiction
     ·rw [<- hpe] at h1' h2'
      exact ih j hj p hp h1' h2'
theorem Iq:∀ (l m:List Int),l.Nodup->(∀ x∈l,x∈m)->l.length<=m.length
 | [],_,_,_=>Nat.zero_le _
 | x::l,m,hn,hs=>by
  rw [List.nodup_cons] at hn
  have hx:x∈m:=hs x (lms ..)
  have:=Iq l (m.erase x) hn.2 fun y hy=>(List.mem_erase_of_ne (fun e=>hn.1 (by rw [<- e];exact hy))).2 (hs y (lmc _ hy))
  rw [List.length_erase_of_mem hx] at this
  have:=List.length_pos_of_mem hx
  simp only [llc]
  omega
theorem ID {t:Tr} (h:TreeOk t) {k i:Nat} {n:Nd} (hn:t.nodes[i]?=some n) (hk:t.nodes.length<=i+k):(AC t.nodes k n.id).length<=t.nodes.length:=by
 have:=Iq _ (t.nodes.map (·.id)) (Oz h k i n hn hk) fun x hx=>by
  obtain ⟨j,m,hj,rfl,_⟩:=(HS h k i n hn hk x).1 hx
  exact lmm.2 ⟨m,lmg hj,rfl⟩
 simpa using this
theorem Kd {α β:Type} {f g:α->List β}:∀ {l:List α},(∀ a∈l,f a=g a)->l.flatMap f=l.flatMap g
 | [],_=>rfl
 | a::l,h=>by
  rw [lfc,lfc,h a (lms ..),Kd fun b hb=>h b (lmc _ hb)]
theorem X0 {t:Tr} (h:TreeOk t):∀ (k k' i:Nat) (n:Nd),t.nodes[i]?=some n->t.nodes.length<=i+k->t.nodes.length<=i+k'->AC t.nodes k n.id=AC t.nodes k' n.id:=by
 intro k
 induction k with
 | zero=>intro k' i n hn hk;have:=(lgs.1 hn).1;omega
 | succ k ih =>
  intro k' i n hn hk hk'
  cases k' with
  | zero=>have:=(lgs.1 hn).1;omega
  | succ k' =>
   simp only [AC,List.cons.injEq,true_and]
   refine Kd fun c hc=>?_
   obtain ⟨j,m,hj,hp,rfl⟩:=CN.1 hc
   have hij:=h.kid hn hj hp
   exact ih k' j m hj (by omega) (by omega)
def BP (t:Tr) (id:Int):List Int:=if (Bb t id).isSome then AC t.nodes t.nodes.length id else []
theorem zbQ (xs:List Int) (x:Int) (hl:xs.length<1000000):V 61 [.p (AG xs),.p (.int .i64 x)] []=some (.p (.bool (decide (x∈xs))),[]):=by
 refine Ac (vf:=vf61) rfl ?_
 refine w0 ?_
 refine Aj xs.length (fun k s=>(∀ (i:Nat) (y:Int),i<k->xs[i]?=some y->¬ y=x)/\s.pe 0=.p (AG xs)/\s.pe 1=.p (.int .i64 x)/\s.pe 5=.p (.int .i64 k)) ?_ ?_
 ·exact ⟨fun i _ hi=>absurd hi (Nat.not_lt_zero i),rfl,rfl,rfl⟩
 ·rintro k s hk ⟨hno,h0,h1,h5⟩
  refine w3 h0 h1 h5 ?_
  refine Ae (fun hlt=>?_) (fun hge=>?_)
  ·have hm:xs[k]?=some xs[k]:=lgg hlt
   generalize xs[k]=y at hm
   by_cases hy:y=x
   ·have hin:decide (x∈xs)=true:=decide_eq_true (hy ▸ lmg hm)
    refine w5 h0 h1 h5 hm hy ?_
    rw [hin]
   ·refine w5 h0 h1 h5 hm hy ?_
    refine ⟨hlt,fun i z hi hz=>?_,rfl⟩
    rcases Nat.lt_succ_iff_lt_or_eq.1 hi with h|rfl
    .exact hno i z h hz
    .rw [hm] at hz;cases hz;exact hy
  ·have hin:decide (x∈xs)=false:=decide_eq_false fun h=>by
    obtain ⟨i,hi⟩:=lgm h
    exact hno i x (by have:=(lgs.1 hi).1;omega) hi rfl
   refine w4 h0 h1 h5 hge ?_
   rw [hin]
theorem OC {t:Tr} {id:Int} (h:(Bb t id).isSome=true):ED t id=kidsN t.nodes id:=by
 rw [ED,if_pos h];rfl
theorem Zz {t:Tr} (h:TreeOk t):∀ (k i:Nat) (n:Nd),t.nodes[i]?=some n->t.nodes.length<=i+k->V 284 [t.vv,.p (.int .i64 n.id)] []=some (.fresh 1 ((AC t.nodes k n.id).map (.int .i64)),[]):=by
 intro k
 induction k with
 | zero=>intro i n hn hk;have:=(lgs.1 hn).1;omega
 | succ k ih =>
  intro i n hn hk
  have hlen:=h.len
  have hft:(Bb t n.id).isSome=true:=by rw [Bb,if_pos ((Bo t).2 h),DA h.inc hn];rfl
  refine Ac (vf:=vf284) rfl ?_
  have hh:=DU t n.id (by omega)
  rw [hft] at hh
  have hkd:=Lk t n.id (by omega)
  rw [OC hft] at hkd
  have hsl:=ID h hn hk
  have hkl:(kidsN t.nodes n.id).length<=t.nodes.length:=by
   have:=List.length_filter_le (fun m:Nd=>decide (m.parent=n.id)) t.nodes
   simpa [kidsN] using this
  have hsf:AC t.nodes (k+1) n.id=n.id::(kidsN t.nodes n.id).flatMap (AC t.nodes k):=rfl
  have hkm:∀ c∈kidsN t.nodes n.id,V 284 [t.vv,.p (.int .i64 c)] []=some (.fresh 1 ((AC t.nodes k c).map (.int .i64)),[]):=by
   intro c hc
   obtain ⟨j,m,hj,hp,rfl⟩:=CN.1 hc
   have hij:=h.kid hn hj hp
   exact ih j m hj (by omega)
  rw [hsf] at hsl ⊢
  generalize kidsN t.nodes n.id=ks at hkd hkl hkm hsl
  refine w2 hh hkd ?_
  refine Aj ks.length (fun j s=>∃ (acc:List Int) (v:Nat),acc=n.id::(ks.take j).flatMap (AC t.nodes k)/\s.pe 2=.ptr (.slot 2 0) 0 0/\s.pe 5=.own (.slot 13 0) v 0 acc.length/\s.pe 6=.own (.slot 16 1) 0 0 ks.length/\s.pe 7=.p (.int .i64 j)/\s.h (.slot 2 0)=some (0,.box [.p (An t.nodes),.p (.int .i64 t.next)])/\s.h (.slot 13 0)=some (v,.arr 1 (acc.map (.int .i64)))/\s.h (.slot 16 1)=some (0,.arr 1 (ks.map (.int .i64)))) ?_ ?_
  ·exact ⟨[n.id],0,rfl,by simp -implicitDefEqProofs (disch:=omega) only [go_sem],by simp -implicitDefEqProofs (disch:=omega) only [go_sem],by simp -implicitDefEqProofs (disch:=omega) only [go_sem],rfl,by simp -implicitDefEqProofs (disch:=omega) only [go_sem],by simp -implicitDefEqProofs (disch:=omega) only [go_sem],by simp -implicitDefEqProofs (disch:=omega) only [go_sem]⟩
  ·rintro j s hj ⟨acc,v,hacc,h2,h5,h6,h7,hh2,hh13,hh16⟩
   have hal:acc.length+((ks.drop j).flatMap (AC t.nodes k)).length<=t.nodes.length:=by
    rw [hacc]
    have:ks.flatMap (AC t.nodes k)=(ks.take j).flatMap (AC t.nodes k)++(ks.drop j).flatMap (AC t.nodes k):=by
     rw [<- List.flatMap_append,List.take_append_drop]
    rw [this] at hsl
    simp only [llc,lla] at hsl ⊢
    omega
   refine w7 h2 h5 h6 h7 hh2 hh13 hh16 ?_
   refine Ae (fun hlt=>?_) (fun hge=>?_)
   ·have hm:ks[j]?=some ks[j]:=lgg hlt
    have hdr:ks.drop j=ks[j]::ks.drop (j+1):=ldg hlt
    generalize ks[j]=c at hm hdr
    have hc:=hkm c (lmg hm)
    rw [hdr,lfc,lla] at hal
    have htk:(ks.take (j+1)).flatMap (AC t.nodes k)=(ks.take j).flatMap (AC t.nodes k)++AC t.nodes k c:=by
     rw [Bt hm,List.flatMap_append]
     simp
    generalize AC t.nodes k c=sc at hc hal htk
    refine w10 h2 h5 h6 h7 hh2 hh13 hh16 hm hc hlt ?_
    refine ⟨acc++sc,v+1,by rw [htk,hacc];simp,by simp,rfl,?_⟩
    simp
   ·rw [ltl (by omega)] at hacc
    refine w8 h2 h5 h6 h7 hh2 hh13 hh16 hge ?_
    rw [hacc]
    rfl
theorem zbi {t:Tr} (id:Int) (hl:t.nodes.length<1000000):V 284 [t.vv,.p (.int .i64 id)] []=some (.fresh 1 ((BP t id).map (.int .i64)),[]):=by
 cases hft:(Bb t id).isSome with
 | false =>
  refine Ac (vf:=vf284) rfl ?_
  have hh:=DU t id (by omega)
  rw [hft] at hh
  refine w1 hh ?_
  simp [BP,hft]
 | true =>
  have hok:TreeOk t:=by
   rw [Bb] at hft
   split at hft
   .rename_i h;exact (Bo t).1 h
   .cases hft
  rw [Bb,if_pos ((Bo t).2 hok)] at hft
  obtain ⟨n,hn,rfl⟩:=CY hft
  obtain ⟨i,hi⟩:=lgm hn
  rw [Zz hok t.nodes.length i n hi (by omega),BP,Bb,if_pos ((Bo t).2 hok),if_pos hft]
structure Ch where
 group:Int
 own:Int
 deriving DecidableEq
def Ch.pv (c:Ch):PV:=.agg [.int .i64 c.group,.int .i64 c.own]
abbrev Ch.vv (c:Ch):VVal:=.agg [.p (.int .i64 c.group),.p (.int .i64 c.own)]
abbrev Ap (l:List Ch):PV:=.slice 2 (l.map Ch.pv)
attribute [go_sem] Ch.pv
theorem zaI (l:List Ch):(l.map Ch.pv).all PV.flat=true:=by
 rw [List.all_eq_true]
 intro x hx
 obtain ⟨n,_,rfl⟩:=lmm.1 hx
 rfl
attribute [go_sem] zaI
def Am:List Int->Int
 | []=>0
 | x::xs=>x+Am xs
theorem Gu:∀ (a b:List Int),Am (a++b)=Am a+Am b
 | [],b=>by simp [Am]
 | x::a,b=>by have:=Gu a b;simp only [lca,Am];omega
theorem Ny:∀ (a:List Int),(∀ x∈a,0<=x)->0<=Am a
 | [],_=>Int.le_refl _
 | x::a,h=>by
  have:=Ny a (fun y hy=>h y (lmc _ hy))
  have:=h x (lms ..)
  simp only [Am];omega
theorem Ke {α:Type} {f:α->Int} (a:List α) (h:∀ x∈a,0<=f x):0<=Am (a.map f):=Ny _ (fun x hx=>by
 obtain ⟨y,hy,rfl⟩:=lmm.1 hx
 exact h y hy)
theorem Kg {α:Type} {f:α->Int} {l:List α} {k:Nat} {x:α} (h:l[k]?=some x):Am ((l.take (k+1)).map f)=Am ((l.take k).map f)+f x:=by
 rw [List.take_add_one,h]
 simp [Gu,Am]
theorem Vy {α:Type} {f:α->Int} (l:List α) (k:Nat) (h:∀ x∈l,0<=f x):Am ((l.take k).map f)<=Am (l.map f):=by
 have h1:Am (l.map f)=Am ((l.take k).map f)+Am ((l.drop k).map f):=by
  rw [<- Gu,<- lma,List.take_append_drop]
 have h2:=Ke (l.drop k) (f:=f) (fun x hx=>h x (List.mem_of_mem_drop hx))
 omega
def Ak:List Ch->Int->Int
 | [],_=>0
 | c::l,id=>if c.group=id then c.own else Ak l id
def Cr (p:Option Int) (g:Int):Bool:=match p with|none=>true|some q=>decide (q<g)
structure ChOk (ns:List Nd) (l:List Ch):Prop where
 known:∀ c∈l,(AS ns c.group).isSome=true
 inc:l.Pairwise fun a b=>a.group<b.group
 pos:∀ c∈l,1<=c.own
 all:Am (l.map (·.own))<=16777216
theorem IG {l:List Ch} (h:∀ c∈l,1<=c.own) (id:Int):0<=Ak l id:=by
 induction l with
 | nil=>exact Int.le_refl _
 | cons c l ih =>
  unfold Ak
  split
  .have:=h c (lms ..);omega
  .exact ih (fun d hd=>h d (lmc _ hd))
theorem O9 {l:List Ch} {id:Int} (h:∀ c∈l,c.group ≠ id):Ak l id=0:=by
 induction l with
 | nil=>rfl
 | cons c l ih =>
  unfold Ak
  rw [if_neg (h c (lms ..))]
  exact ih (fun d hd=>h d (lmc _ hd))
theorem QG (f:Int->Int) (g v:Int):∀ (xs:List Int),xs.Nodup->Am (xs.map fun x=>if x=g then v else f x)=Am (xs.map f)+if g∈xs then v - f g else 0
 | [],_=>by simp [Am]
 | x::xs,h=>by
  obtain ⟨hx,hn⟩:=List.nodup_cons.1 h
  have ih:=QG f g v xs hn
  simp only [lpc,Am,ih,lmk]
  by_cases he:x=g
  ·subst he
   simp [hx]
   omega
  ·have he':¬ g=x:=fun hh=>he hh.symm
   simp only [he,he',if_false,false_or]
   omega
theorem K3 (c:Ch) (l:List Ch):Ak (c::l)=fun x=>if x=c.group then c.own else Ak l x:=by
 funext x
 simp only [Ak,eq_comm]
theorem Nx:∀ xs:List Int,Am (xs.map (Ak []))=0
 | []=>rfl
 | x::xs=>by
  show Ak [] x+Am (xs.map (Ak []))=0
  rw [Nx xs];rfl
theorem WX {l:List Ch} (h:∀ c∈l,1<=c.own) (xs:List Int) (hx:xs.Nodup):Am (xs.map (Ak l))<=Am (l.map (·.own)):=by
 induction l with
 | nil =>
  rw [Nx]
  exact Int.le_refl _
 | cons c l ih =>
  have h0:=h c (lms ..)
  have hl:=fun d hd=>h d (lmc c hd)
  have h1:=ih hl
  rw [K3,QG _ _ _ _ hx]
  have h3:=IG hl c.group
  simp only [lpc,Am]
  split<;>omega
def withGo (id v:Int):Bool->List Ch->List Ch
 | d,[]=>if d then [] else [⟨id,v⟩]
 | d,c::l=>(if !d && decide (id<=c.group) then [⟨id,v⟩] else [])++(if c.group=id then [] else [c])++withGo id v (d || decide (id<=c.group)) l
def Rl (l:List Ch) (id v:Int):List Ch:=withGo id v (decide (v=0)) l
theorem E6 (id v:Int):∀ (l:List Ch) (d:Bool),∀ c∈withGo id v d l,(d=false/\c=⟨id,v⟩) \/ (c∈l/\c.group ≠ id)
 | [],d,c,hc=>by
  cases d
  ·simp [withGo] at hc;exact Or.inl ⟨rfl,hc⟩
  ·simp [withGo] at hc
 | e::l,d,c,hc=>by
  unfold withGo at hc
  simp only [lmp] at hc
  rcases hc with (hc|hc)|hc
  ·split at hc
   ·rename_i h
    simp only [bat,Bool.not_eq_true'] at h
    exact Or.inl ⟨h.1,by simpa using hc⟩
   ·simp at hc
  ·split at hc
   ·simp at hc
   ·rename_i h
    simp at hc
    subst hc
    exact Or.inr ⟨lms ..,h⟩
  ·rcases E6 id v l _ c hc with ⟨h1,h2⟩|⟨h1,h2⟩
   ·simp only [Bool.or_eq_false_iff] at h1
    exact Or.inl ⟨h1.1,h2⟩
   .exact Or.inr ⟨lmc _ h1,h2⟩
theorem IJ (id v:Int):∀ (l:List Ch) (d:Bool),(l.Pairwise fun a b=>a.group<b.group)->(withGo id v d l).Pairwise fun a b=>a.group<b.group
 | [],d,_=>by cases d<;>simp [withGo]
 | e :: l,d,h=>by
  obtain ⟨h0,h1⟩:=lpw.1 h
  have ih:=fun d=>IJ id v l d h1
  have hm:=E6 id v l
  unfold withGo
  by_cases hge:id<=e.group
  ·have hT:(withGo id v true l).Pairwise fun a b=>a.group<b.group:=ih true
   have hbig:∀ c∈withGo id v true l,e.group<c.group:=fun c hc=>by
    rcases hm true c hc with ⟨hh,_⟩|⟨hh,_⟩
    ·simp at hh
    ·exact h0 c hh
   cases d
   ·by_cases he:e.group=id
    ·simp only [hge,decide_true,bnf,bas,if_true,he,Int.le_refl,decide_true,lan,Bool.or_true,List.singleton_append,lpw]
     exact ⟨fun c hc=>by have:=hbig c hc;show id<c.group;omega,hT⟩
    ·simp only [hge,decide_true,bnf,bas,if_true,he,if_false,Bool.or_true,List.singleton_append,lca,lna,lpw,lmk,forall_eq_or_imp]
     exact ⟨⟨by show id<e.group;omega,fun c hc=>by have:=hbig c hc;show id<c.group;omega⟩,hbig,hT⟩
   ·by_cases he:e.group=id
    ·simp only [he,Bool.not_true,bfa,bft,if_false,if_true,lan,lna,Bool.true_or]
     exact hT
    ·simp only [he,Bool.not_true,bfa,bft,if_false,lna,Bool.true_or,List.singleton_append,lpw]
     exact ⟨hbig,hT⟩
  ·have he:¬ e.group=id:=by omega
   simp only [hge,decide_false,Bool.and_false,bft,if_false,he,lna,Bool.or_false,List.singleton_append,lpw]
   refine ⟨fun c hc=>?_,ih d⟩
   rcases hm d c hc with ⟨_,hh⟩|⟨hh,_⟩
   ·subst hh
    show e.group<id
    omega
   .exact h0 c hh
theorem NX (id v:Int):∀ (l:List Ch) (d:Bool),(l.Pairwise fun a b=>a.group<b.group)->Am ((withGo id v d l).map (·.own))=Am (l.map (·.own)) - Ak l id+if d then 0 else v
 | [],d,_=>by cases d<;>simp [withGo,Am,Ak]
 | e::l,d,h=>by
  obtain ⟨h0,h1⟩:=lpw.1 h
  have ih:=fun d=>NX id v l d h1
  unfold withGo Ak
  by_cases he:e.group=id
  ·have hz:Ak l id=0:=O9 (fun c hc=>by have:=h0 c hc;omega)
   cases d<;>simp [he,Am,ih,hz]<;>omega
  ·by_cases hge:id<=e.group
   .cases d<;>simp [he,hge,Am,ih]<;>omega
   .cases d<;>simp [he,hge,Am,ih]<;>omega
theorem ChOk.with {ns:List Nd} {l:List Ch} (h:ChOk ns l) {id v:Int} (hid:(AS ns id).isSome=true) (hv:0<=v) (hs:Am (l.map (·.own)) - Ak l id+v<=16777216):ChOk ns (Rl l id v):=by
 refine ⟨fun c hc=>?_,IJ _ _ _ _ h.inc,fun c hc=>?_,?_⟩
 ·rcases E6 _ _ _ _ c hc with ⟨_,rfl⟩|⟨hh,_⟩
  ·exact hid
  ·exact h.known c hh
 ·rcases E6 _ _ _ _ c hc with ⟨hd,rfl⟩|⟨hh,_⟩
  ·simp at hd
   show 1<=v
   omega
  .exact h.pos c hh
 ·unfold Rl
  rw [NX _ _ _ _ h.inc]
  by_cases hz:v=0
  .simp [hz];omega
  .simp [hz];omega
def tot (t:Tr) (f:Int->Int) (id:Int):Int:=Am ((AC t.nodes t.nodes.length id).map f)
def part (t:Tr) (f:Int->Int) (i:Nat) (id:Int):Int:=f id+Am (((t.nodes.drop i).filter fun m=>decide (m.parent=id)).map fun m=>tot t f m.id)
theorem WY {t:Tr} (h:TreeOk t) {i:Nat} {n:Nd} (hn:t.nodes[i]?=some n):(AC t.nodes t.nodes.length n.id).Nodup:=Oz h _ _ _ hn (by omega)
theorem zcf {t:Tr} (h:TreeOk t) {l:List Ch} (hl:ChOk t.nodes l) {i:Nat} {n:Nd} (hn:t.nodes[i]?=some n):tot t (Ak l) n.id<=Am (l.map (·.own)):=WX hl.pos _ (WY h hn)
def Ao:List Ch->Int->Int
 | [],_=>100
 | c::l,id=>if c.group=id then c.own else Ao l id
def MG (l:List Ch):Prop:=∀ c∈l,1<=c.own/\c.own<=10000
theorem EI {l:List Ch} (h:MG l) (id:Int):1<=Ao l id/\Ao l id<=10000:=by
 induction l with
 | nil=>simp [Ao]
 | cons c l ih =>
  unfold Ao
  split
  .exact h c (lms ..)
  .exact ih fun d hd=>h d (lmc _ hd)
def onB (t:Tr) (active:List Int) (g:Int):Bool:=active.any fun a=>decide (g∈ancF t.nodes t.nodes.length a)
def DK (t:Tr) (w:Int->Int) (on:Int->Bool) (p:Int):Int:=Am (((kidsN t.nodes p).filter on).map w)
def F2 (t:Tr) (w:Int->Int) (on:Int->Bool):Nat->Int->Int
 | 0,_=>0
 | k+1,id=>if id=1 then 1073741824 else if on id=true then
   max 1 (F2 t w on k ((AS t.nodes id).getD zeroNd).parent*w id / DK t w on ((AS t.nodes id).getD zeroNd).parent) else 0
def shr (t:Tr) (w:Int->Int) (on:Int->Bool) (id:Int):Int:=F2 t w on t.nodes.length id
theorem Wb {t:Tr} (h:TreeOk t) (w:Int->Int) (on:Int->Bool):∀ (i:Nat) (n:Nd),t.nodes[i]?=some n->∀ k k',i<k->i<k'->F2 t w on k n.id=F2 t w on k' n.id:=by
 intro i
 induction i using Nat.strongRecOn with
 | _ i ih =>
  intro n hn k k' hk hk'
  obtain ⟨k,rfl⟩:∃ q,k=q+1:=⟨k - 1,by omega⟩
  obtain ⟨k',rfl⟩:∃ q,k'=q+1:=⟨k' - 1,by omega⟩
  simp only [F2,DA h.inc hn,Option.getD_some]
  rcases h.nodeAt hn with ⟨_,h1,_⟩|⟨_,_,j,p,hj,hp,hpe⟩
  .simp [h1]
  .rw [<- hpe,ih j hj p hp k k' (by omega) (by omega)]
theorem Jf (t:Tr) (h:TreeOk t) (w:Int->Int) (on:Int->Bool):shr t w on 1=1073741824:=by
 have:=h.len
 unfold shr
 obtain ⟨k,hk⟩:∃ q,t.nodes.length=q+1:=⟨t.nodes.length - 1,by omega⟩
 rw [hk]
 simp [F2]
theorem Je {t:Tr} (h:TreeOk t) (w:Int->Int) (on:Int->Bool) {i:Nat} {n:Nd} (hn:t.nodes[i]?=some n) (hi:i ≠ 0):shr t w on n.id=if on n.id=true then max 1 (shr t w on n.parent*w n.id / DK t w on n.parent) else 0:=by
 have hl:=(lgs.1 hn).1
 rcases h.nodeAt hn with ⟨h0,_⟩|⟨_,h1,j,p,hj,hp,hpe⟩
 ·omega
 ·have hf:=Wb h w on j p hp t.nodes.length (t.nodes.length - 1) (by omega) (by omega)
  rw [hpe] at hf
  unfold shr
  rw [hf]
  obtain ⟨k,hk⟩:∃ q,t.nodes.length=q+1:=⟨t.nodes.length - 1,by omega⟩
  rw [hk]
  simp only [F2,DA h.inc hn,Option.getD_some,Nat.add_sub_cancel,show ¬ n.id=1 by omega,if_false]
structure UpClosed (t:Tr) (on:Int->Bool):Prop where
 up:∀ (i:Nat) (n:Nd),t.nodes[i]?=some n->i ≠ 0->on n.id=true->on n.parent=true
theorem Rd {t:Tr} (h:TreeOk t) (active:List Int):UpClosed t (onB t active) where
 up := fun i n hn hi hon=>by
  simp only [onB,List.any_eq_true,decide_eq_true_eq] at hon ⊢
  obtain ⟨a,ha,hm⟩:=hon
  refine ⟨a,ha,?_⟩
  cases hf:AS t.nodes a with
  | none =>
   have:ancF t.nodes t.nodes.length a=[]:=by
    cases hl:t.nodes.length with
    | zero=>rfl
    | succ k=>unfold ancF;rw [hf]
   rw [this] at hm
   cases hm
  | some x =>
   obtain ⟨y,hy,hye⟩:=CY (ns:=t.nodes) (id:=a) (by rw [hf];rfl)
   obtain ⟨j,hj⟩:=lgm hy
   rw [<- hye] at hm ⊢
   exact OT h hn hi j y hj hm
theorem Uh {t:Tr} {on:Int->Bool} {p x:Int}:x∈(kidsN t.nodes p).filter on ↔ (∃ (j:Nat) (m:Nd),t.nodes[j]?=some m/\m.parent=p/\m.id=x)/\on x=true:=by
 rw [List.mem_filter,CN]
theorem Ks {f:Int->Int} {x:Int}:∀ (l:List Int),(∀ y∈l,0<=f y)->x∈l->f x<=Am (l.map f)
 | [],_,h=>by cases h
 | y::l,h,hx=>by
  have h0:=h y (lms ..)
  have h1:=Ke l (f:=f) fun z hz=>h z (lmc _ hz)
  simp only [lpc,Am]
  rcases lmk.1 hx with rfl|hx
  ·omega
  ·have:=Ks l (fun z hz=>h z (lmc _ hz)) hx
   omega
theorem QH {t:Tr} {w:Int->Int} (hw:∀ x,1<=w x) {on:Int->Bool} {i:Nat} {n:Nd} (hn:t.nodes[i]?=some n) (hon:on n.id=true):w n.id<=DK t w on n.parent :=
 Ks _ (fun y _=>by have:=hw y;omega) (Uh.2 ⟨⟨i,n,hn,rfl,rfl⟩,hon⟩)
theorem Nk {s w W:Int} (hs:0<=s) (hw:0<=w) (h:w<=W) (hW:0<W):s*w / W<=s:=by
 have h1:s*w<=s*W:=Int.mul_le_mul_of_nonneg_left h hs
 have h2:s*w / W<=s*W / W:=Int.ediv_le_ediv hW h1
 rwa [Int.mul_ediv_cancel _ (by omega)] at h2
theorem X6 {t:Tr} (h:TreeOk t) {w:Int->Int} (hw:∀ x,1<=w x) {on:Int->Bool} (hu:UpClosed t on):∀ (i:Nat) (n:Nd),t.nodes[i]?=some n->0<=shr t w on n.id/\shr t w on n.id<=1073741824/\(i=0 \/ on n.id=true->1<=shr t w on n.id):=by
 intro i
 induction i using Nat.strongRecOn with
 | _ i ih =>
  intro n hn
  by_cases hi:i=0
  ·rcases h.nodeAt hn with ⟨_,h1,_⟩|⟨h0,_⟩
   ·rw [h1,Jf t h];omega
   ·omega
  ·rw [Je h w on hn hi]
   rcases h.nodeAt hn with ⟨h0,_⟩|⟨_,h1,j,p,hj,hp,hpe⟩
   ·omega
   ·by_cases hon:on n.id=true
    ·rw [if_pos hon]
     have hpo:=hu.up i n hn hi hon
     obtain ⟨a1,a2,a3⟩:=ih j hj p hp
     rw [hpe] at a1 a2 a3
     have a4:=a3 (Or.inr hpo)
     have hW:=QH hw hn hon
     have hwn:=hw n.id
     have:=Nk (s:=shr t w on n.parent) (w:=w n.id) (W:=DK t w on n.parent) a1 (by omega) hW (by omega)
     omega
    ·rw [if_neg hon]
     exact ⟨by omega,by omega,fun hh=>by rcases hh with hh|hh<;>contradiction⟩
theorem zbJ {t:Tr} (h:TreeOk t) (w:Int->Int) (on:Int->Bool) {i:Nat} {n:Nd} (hn:t.nodes[i]?=some n) {x:Int} (hx:x∈kidsN t.nodes n.id):shr t w on x=if on x=true then max 1 (shr t w on n.id*w x / DK t w on n.id) else 0:=by
 obtain ⟨j,m,hm,hp,rfl⟩:=CN.1 hx
 have:=h.kid hn hm hp
 rw [Je h w on hm (by omega),hp]
abbrev MD (l:List Ch):VVal:=.agg [.p (Ap l)]
theorem zbk (l:List Ch) (id:Int) (hl:l.length<1000000):V 285 [MD l,.p (.int .i64 id)] []=some (.p (.int .i64 (Ak l id)),[]):=by
 refine Ac (vf:=vf285) rfl ?_
 refine w0 ?_
 refine Aj l.length (fun k s=>Ak l id=Ak (l.drop k) id/\s.pe 1=.p (.int .i64 id)/\s.pe 2=.ptr (.slot 2 0) 0 0/\s.pe 5=.p (.int .i64 k)/\s.h (.slot 2 0)=some (0,.box [.p (Ap l)])) ?_ ?_
 ·exact ⟨rfl,rfl,rfl,rfl,rfl⟩
 ·rintro k s hk ⟨ho,h1,h2,h5,hh2⟩
  refine w4 h1 h2 h5 hh2 ?_
  refine Ae (fun hlt=>?_) (fun hge=>?_)
  ·have hm:l[k]?=some l[k]:=lgg hlt
   have hd:l.drop k=l[k]::l.drop (k+1):=ldg hlt
   generalize l[k]=c at hm hd
   rw [hd,Ak] at ho
   by_cases he:c.group=id
   ·rw [if_pos he] at ho
    exact z8 h1 h2 h5 hh2 hlt hm he ho
   ·rw [if_neg he] at ho
    refine w7 h1 h2 h5 hh2 hlt hm he ?_
    exact ⟨ho,rfl⟩
  ·rw [ldl (by omega),Ak] at ho
   exact z6 h1 h2 h5 hh2 hge ho
def Rep (ks:List MKey) (vs:List PV) (f:Int->Int):Prop:=∀ id,(A2 ks vs (.int id)).getD (.int .i64 0)=.int .i64 (f id)
theorem GH (x k':MKey) (v':PV):∀ (ks:List MKey) (vs:List PV),A2 (Au ks vs k' v').1 (Au ks vs k' v').2 x=if x=k' then some v' else A2 ks vs x
 | [],[]=>by simp [Au,A2]
 | [],_::_=>by simp [Au,A2]
 | _::_,[]=>by simp [Au,A2]
 | k::ks,v::vs=>by
  have ih:=GH x k' v' ks vs
  by_cases h:k'=k
  ·subst h
   simp only [Au,if_true,A2]
   by_cases hx:x=k'<;>simp [hx]
  ·simp only [Au,h,if_false,A2,ih]
   by_cases hx:x=k
   ·have:¬ x=k':=fun hh=>h (hh ▸ hx)
    simp [hx,this]
    intro hh
    exact absurd hh.symm h
   .simp [hx]
theorem Rep.put {ks:List MKey} {vs:List PV} {f:Int->Int} (h:Rep ks vs f) (g v:Int):Rep (Au ks vs (.int g) (.int .i64 v)).1 (Au ks vs (.int g) (.int .i64 v)).2 (fun x=>if x=g then v else f x):=by
 intro id
 rw [GH]
 by_cases hg:id=g
 ·subst hg
  simp
 ·simp [hg]
  exact h id
theorem Pa (c:Ch) (x:Int):∀ (a:List Ch),(∀ d∈a,d.group ≠ c.group)->Ak (a++[c]) x=if x=c.group then c.own else Ak a x
 | [],_=>by simp only [lna,Ak,eq_comm]
 | d::a,h=>by
  have ih:=Pa c x a (fun e he=>h e (lmc _ he))
  have hd:=h d (lms ..)
  simp only [lca,Ak,ih]
  by_cases h1:d.group=x
  ·have h2:¬ x=c.group:=by omega
   simp [h1,h2]
  .simp [h1]
theorem zbl {t:Tr} (h:TreeOk t):∃ r,t.nodes[0]?=some r/\r.id=1:=by
 obtain ⟨r,ns,hr,h1,_⟩:=h.root
 exact ⟨r,by rw [hr];rfl,h1⟩
def Bz (kn:Int->Bool) (lo hi:Int):Option Int->List Ch->Bool
 | _,[]=>true
 | p,c::l=>kn c.group && Cr p c.group && decide (lo<=c.own/\c.own<=hi) && Bz kn lo hi (some c.group) l
def Eu (l:List Ch) (k:Nat):Option Int:=if k=0 then none else (l[k - 1]?).map (·.group)
structure AscOk (kn:Int->Bool) (lo hi:Int) (l:List Ch):Prop where
 known:∀ c∈l,kn c.group=true
 inc:l.Pairwise fun a b=>a.group<b.group
 range:∀ c∈l,lo<=c.own/\c.own<=hi
theorem OS (kn:Int->Bool) (lo hi:Int):∀ (l:List Ch) (p:Option Int),Bz kn lo hi p l=true ↔ (∀ c∈l,kn c.group=true)/\(l.Pairwise fun a b=>a.group<b.group)/\(∀ q,p=some q->∀ c∈l,q<c.group)/\∀ c∈l,lo<=c.own/\c.own<=hi
 | [],p=>by simp [Bz]
 | c::l,p=>by
  have hp:Cr p c.group=true ↔ ∀ q,p=some q->q<c.group:=by
   cases p<;>simp [Cr]
  simp only [Bz,bat,decide_eq_true_eq,hp,lmk,forall_eq_or_imp,lpw,OS kn lo hi l (some c.group)]
  constructor
  ·rintro ⟨⟨⟨h1,h2⟩,h3⟩,a1,a2,a3,a4⟩
   refine ⟨⟨h1,a1⟩,⟨a3 _ rfl,a2⟩,fun q hq=>⟨h2 q hq,fun d hd=>?_⟩,h3,a4⟩
   have:=h2 q hq
   have:=a3 _ rfl d hd
   omega
  ·rintro ⟨⟨h1,a1⟩,⟨a3,a2⟩,h2,h3,a4⟩
   refine ⟨⟨⟨h1,fun q hq=>(h2 q hq).1⟩,h3⟩,a1,a2,fun q hq=>?_,a4⟩
   cases hq
   exact a3
theorem EQ (kn:Int->Bool) (lo hi:Int) (l:List Ch):Bz kn lo hi none l=true ↔ AscOk kn lo hi l:=by
 rw [OS kn lo hi l none]
 constructor
 ·rintro ⟨a,b,_,d⟩
  exact ⟨a,b,d⟩
 ·rintro ⟨a,b,d⟩
  exact ⟨a,b,fun q hq=>by simp at hq,d⟩
def Hm (kn:Int->Bool) (lo hi:Int) (l:List Ch) (k:Nat) (c:Ch):Prop:=kn c.group=true/\(k=0 \/ ∃ e,l[k - 1]?=some e/\e.group<c.group)/\lo<=c.own/\c.own<=hi
theorem P8 {l:List Ch} {k:Nat} {c:Ch} (hm:l[k]?=some c):Cr (Eu l k) c.group=true ↔ (k=0 \/ ∃ e,l[k - 1]?=some e/\e.group<c.group):=by
 unfold Eu
 by_cases hk:k=0
 ·simp [hk,Cr]
 ·have hl:=(lgs.1 hm).1
  have he:l[k - 1]?=some l[k - 1]:=lgg (by omega)
  rw [if_neg hk,he]
  simp [Cr,hk]
theorem LC {kn:Int->Bool} {lo hi:Int} {l:List Ch} {k:Nat} {c:Ch} (hq:Bz kn lo hi none l=Bz kn lo hi (Eu l k) (l.drop k)) (hm:l[k]?=some c) (h:Hm kn lo hi l k c):Bz kn lo hi none l=Bz kn lo hi (Eu l (k+1)) (l.drop (k+1)):=by
 have hl:=(lgs.1 hm).1
 have hd:l.drop k=c::l.drop (k+1):=by
  rw [ldg hl]
  rw [lgg hl] at hm
  cases hm
  rfl
 obtain ⟨h1,h2,h3,h4⟩:=h
 rw [hq,hd,Bz,h1,(P8 hm).2 h2,decide_eq_true ⟨h3,h4⟩]
 simp [Eu,hm]
theorem LW {kn:Int->Bool} {lo hi:Int} {l:List Ch} {k:Nat} {c:Ch} (hq:Bz kn lo hi none l=Bz kn lo hi (Eu l k) (l.drop k)) (hm:l[k]?=some c) (h:¬ Hm kn lo hi l k c):Bz kn lo hi none l=false:=by
 have hl:=(lgs.1 hm).1
 have hd:l.drop k=c::l.drop (k+1):=by
  rw [ldg hl]
  rw [lgg hl] at hm
  cases hm
  rfl
 rw [Bool.eq_false_iff]
 intro ht
 apply h
 rw [hq,hd,Bz] at ht
 simp only [bat,decide_eq_true_eq] at ht
 exact ⟨ht.1.1.1,(P8 hm).1 ht.1.1.2,ht.1.2⟩
theorem LV {kn:Int->Bool} {lo hi:Int} {l:List Ch} {k:Nat} (hq:Bz kn lo hi none l=Bz kn lo hi (Eu l k) (l.drop k)) (hk:l.length<=k):Bz kn lo hi none l=true:=by
 rw [hq,ldl hk]
 simp [Bz]
theorem LM {l:List Ch} {k:Nat} {c:Ch} (hm:l[k]?=some c) (hk:(0:Int)<k):∃ e,l[k - 1]?=some e/\l[((k:Int) - 1).toNat]?=some e:=by
 have hl:=(lgs.1 hm).1
 have he:l[k - 1]?=some l[k - 1]:=lgg (by omega)
 exact ⟨_,he,by rw [show ((k:Int) - 1).toNat=k - 1 by omega];exact he⟩
theorem KR {kn:Int->Bool} {lo hi:Int} {l:List Ch} {k:Nat} {c:Ch} (hk:¬ (0:Int)<k):Hm kn lo hi l k c ↔ kn c.group=true/\lo<=c.own/\c.own<=hi:=by
 have:k=0:=by omega
 subst this
 simp [Hm]
theorem KS {kn:Int->Bool} {lo hi:Int} {l:List Ch} {k:Nat} {c e:Ch} (hk:(0:Int)<k) (he:l[k - 1]?=some e):Hm kn lo hi l k c ↔ kn c.group=true/\e.group<c.group/\lo<=c.own/\c.own<=hi:=by
 have:¬ k=0:=by omega
 simp [Hm,this,he]
theorem Lz (t:Tr) (id:Int) (hl:t.nodes.length<1000000):V 262 [t.vv,.p (.int .i64 id)] []=some (.fresh 1 ((kidsN t.nodes id).map (.int .i64)),[]):=by
 refine Ac (vf:=vf262) rfl ?_
 refine w0 ?_
 obtain ⟨I,hI⟩:=lpI fun k s=>∃ (acc:List Int) (w:Nat),acc=kidsN (t.nodes.take k) id/\acc.length<=k/\s.pe 1=.p (.int .i64 id)/\s.pe 5=.own (.slot 5 0) w 0 acc.length/\s.pe 9=.p (An t.nodes)/\s.pe 10=.p (.int .i64 t.nodes.length)/\s.pe 11=.p (.int .i64 k)/\s.h (.slot 5 0)=some (w,.arr 1 (acc.map (.int .i64)))
 refine Aj (t.nodes.length) I ?_ ?_
 ·refine (hI _ _).2 ⟨[],0,?_⟩
  and_intros
  ·exact cl3
  ·exact cl3
  all_goals exact cl0
 intro k s hk hIk
 obtain ⟨acc,w,hacc,hal,hH⟩:=(hI _ _).1 hIk
 clear hIk
 refine w1 hH ?_
 refine Ae (fun hlt=>?_) (fun hge=>?_)
 ·have hm:t.nodes[k]?=some t.nodes[k]:=lgg hlt
  generalize t.nodes[k]=m at hm
  have hst:=Hx (p:=fun n:Nd=>decide (n.parent=id)) hm
  by_cases hp:m.parent=id
  ·simp only [hp,decide_true,if_true] at hst
   simp -implicitDefEqProofs (disch:=omega) only [hH,hlt,hm,hp,go_sem]
   try refine ai ?_
   refine (hI _ _).2 ⟨acc++[m.id],w+1,?_⟩
   and_intros
   .exact by rw [kidsN,hst,lma,hacc];rfl
   .exact by simp;omega
   all_goals exact cl0
  ·simp only [hp,decide_false,bft,if_false] at hst
   simp -implicitDefEqProofs (disch:=omega) only [hH,hlt,hm,hp,go_sem]
   try refine ai ?_
   refine (hI _ _).2 ⟨acc,w,?_⟩
   and_intros
   .exact by rw [kidsN,hst,hacc];rfl
   .omega
   all_goals exact cl0
 ·rw [ltl (by omega)] at hacc
  exact z3 hH hge hacc
theorem M2:¬ ((0:Int)<((0:Nat):Int)):=by omega
def Ag (ns:List Nd) (g:Int):Bool:=(AS ns g).isSome
theorem zao {l:List Ch} (hinc:l.Pairwise fun a b=>a.group<b.group) {k:Nat} {c:Ch} (hm:l[k]?=some c):∀ d∈l.take k,d.group ≠ c.group:=by
 intro d hd
 obtain ⟨j,hj⟩:=lgm hd
 have hjk:j<k:=by
  have:=(lgs.1 hj).1
  simp at this
  omega
 rw [List.getElem?_take_of_lt hjk] at hj
 obtain ⟨hjl,he⟩:=lgs.1 hj
 obtain ⟨hkl,he2⟩:=lgs.1 hm
 have:=List.pairwise_iff_getElem.1 hinc j k hjl hkl hjk
 rw [he,he2] at this
 omega
def Rep2 (ks:List MKey) (vs:List PV) (f:Int->Option Int):Prop:=∀ id,A2 ks vs (.int id)=(f id).map (.int .i64)
theorem Rep2.put {ks:List MKey} {vs:List PV} {f:Int->Option Int} (h:Rep2 ks vs f) (g v:Int):Rep2 (Au ks vs (.int g) (.int .i64 v)).1 (Au ks vs (.int g) (.int .i64 v)).2 (fun x=>if x=g then some v else f x):=by
 intro id
 rw [GH]
 by_cases hg:id=g
 ·subst hg
  simp
 ·simp [hg]
  exact h id
def sharesF (t:Tr) (w:Int->Int) (on:Int->Bool):Nat->Int->Int->List Ch
 | 0,_,_=>[]
 | k+1,id,s=>if on id=true then ⟨id,s⟩::(kidsN t.nodes id).flatMap (fun c=>if on c=true then sharesF t w on k c (max 1 (s*w c / DK t w on id)) else []) else []
theorem NC {t:Tr} (h:TreeOk t) (w:Int->Int) (on:Int->Bool):∀ (k i:Nat) (n:Nd),t.nodes[i]?=some n->∀ x∈sharesF t w on k n.id (shr t w on n.id),on x.group=true/\x.own=shr t w on x.group
 | 0, _, _, _, x, hx=>by simp [sharesF] at hx
 | k + 1,i,n,hn,x,hx=>by
  unfold sharesF at hx
  split at hx
  ·rename_i hon
   rcases lmk.1 hx with rfl|hx
   ·exact ⟨hon,rfl⟩
   ·rw [List.mem_flatMap] at hx
    obtain ⟨c,hc,hx⟩:=hx
    split at hx
    ·rename_i hoc
     obtain ⟨j,m,hm,hp,rfl⟩:=CN.1 hc
     have hks:=zbJ h w on hn hc
     rw [if_pos hoc] at hks
     rw [<- hks] at hx
     exact NC h w on k j m hm x hx
    .cases hx
  .cases hx
theorem Rc {t:Tr} (h:TreeOk t) {on:Int->Bool} (hu:UpClosed t on):∀ (i:Nat) (n:Nd),t.nodes[i]?=some n->on n.id=true->∀ x∈ancF t.nodes t.nodes.length n.id,on x=true:=by
 intro i
 induction i using Nat.strongRecOn with
 | _ i ih =>
  intro n hn hon x hx
  rcases (DF h hn _).1 hx with rfl|⟨hi,hx⟩
  ·exact hon
  ·rcases h.nodeAt hn with ⟨h0,_⟩|⟨_,_,j,p,hj,hp,hpe⟩
   ·exact absurd h0 hi
   ·have:=hu.up i n hn hi hon
    rw [<- hpe] at this hx
    exact ih j hj p hp this x hx
theorem ND {t:Tr} (h:TreeOk t) (w:Int->Int) {on:Int->Bool} (hu:UpClosed t on):∀ (k i:Nat) (n:Nd) (s:Int),t.nodes[i]?=some n->t.nodes.length<=i+k->∀ (j:Nat) (m:Nd),t.nodes[j]?=some m->on m.id=true->n.id∈ancF t.nodes t.nodes.length m.id->∃ x∈sharesF t w on k n.id s,x.group=m.id
 | 0,i,n,s,hn,hk,_,_,_,_,_=>by
  have:=(lgs.1 hn).1
  omega
 | k+1,i,n,s,hn,hk,j,m,hm,hon,hin=>by
  unfold sharesF
  rw [if_pos (Rc h hu j m hm hon n.id hin)]
  by_cases he:n.id=m.id
  ·exact ⟨_,lms ..,he⟩
  ·obtain ⟨q,c,hc,hcp,hca⟩:=PL h j m hm hin he
   have hoc:=Rc h hu j m hm hon c.id hca
   have hlt:=h.kid hn hc hcp
   obtain ⟨x,hx,hxe⟩:=ND h w hu k q c (max 1 (s*w c.id / DK t w on n.id)) hc (by omega) j m hm hon hca
   refine ⟨x,lmc _ (List.mem_flatMap.2 ⟨c.id,CN.2 ⟨q,c,hc,hcp,rfl⟩,?_⟩),hxe⟩
   rw [if_pos hoc]
   exact hx
theorem ER {t:Tr} (h:AX t=true) (id:Int):Bb t id=AS t.nodes id:=by simp [Bb,h]
theorem VH {l:List Ch} (h:l.Pairwise fun a b=>a.group<b.group):(l.map (·.group)).Nodup:=by
 rw [List.Nodup,List.pairwise_map]
 exact h.imp fun hab=>by omega
theorem HG {ns:List Nd} {lo hi:Int} {l:List Ch} (h:AscOk (Ag ns) lo hi l):l.length<=ns.length:=by
 have:=Iq (l.map (·.group)) (ns.map (·.id)) (VH h.inc) (fun x hx=>by
  obtain ⟨c,hc,rfl⟩:=lmm.1 hx
  obtain ⟨n,hn,he⟩:=CY (h.known c hc)
  exact lmm.2 ⟨n,hn,he⟩)
 simpa using this
theorem Lj {t:Tr} (h:TreeOk t) (id:Int):(BP t id).length<=t.nodes.length:=by
 unfold BP
 split
 ·rename_i hs
  rw [ER ((Bo t).2 h)] at hs
  obtain ⟨n,hn,rfl⟩:=CY hs
  obtain ⟨i,hi⟩:=lgm hn
  exact ID h hi (by omega)
 .exact Nat.zero_le _
theorem zbh {t:Tr} (h:TreeOk t) {l:List Ch} (hl:ChOk t.nodes l) (hll:l.length<1000000) {i:Nat} {n:Nd} (hi:t.nodes[i]?=some n):V 261 [t.vv,MD l,.p (.int .i64 n.id)] []=some (.p (.int .i64 (tot t (Ak l) n.id)),[]):=by
 refine Ac (vf:=vf261) rfl ?_
 have hlen:=h.len
 have hs:=zbi (t:=t) n.id (by omega)
 have hsl:=Lj h n.id
 have hst:BP t n.id=AC t.nodes t.nodes.length n.id:=by
  rw [BP,ER ((Bo t).2 h),DA h.inc hi];rfl
 have htot:tot t (Ak l) n.id=Am ((BP t n.id).map (Ak l)):=by rw [hst];rfl
 have hle:=zcf h hl hi
 have hall:=hl.all
 rw [htot] at hle ⊢
 generalize BP t n.id=A at hs hsl hle
 refine w1 hs ?_
 obtain ⟨I,hI⟩:=lpI fun k s=>s.pe 4=.ptr (.slot 4 0) 0 0/\s.pe 7=.p (.int .i64 (Am ((A.take k).map (Ak l))))/\s.pe 8=.own (.slot 12 1) 0 0 A.length/\s.pe 9=.p (.int .i64 k)/\s.h (.slot 4 0)=some (0,Ob.box [.p (Ap l)])/\s.h (.slot 12 1)=some (0,Ob.arr 1 (List.map (.int .i64) A))
 refine Aj (A.length) I ?_ ?_
 ·refine (hI _ _).2 ?_
  and_intros<;>exact cl0
 intro k s hk hIk
 obtain ⟨h4,h7,hH⟩:=(hI _ _).1 hIk
 clear hIk
 refine w3 h4 h7 hH ?_
 refine Ae (fun hlt=>?_) (fun hge=>?_)
 ·have hm:A[k]?=some A[k]:=lgg hlt
  generalize A[k]=g at hm
  have hst:=Kg (f:=Ak l) hm
  have ho:=zbk l g hll
  have o0:=IG hl.pos g
  have p0:=Ke (A.take k) (f:=Ak l) fun x _=>IG hl.pos x
  have p1:=Vy A (k+1) (f:=Ak l) fun x _=>IG hl.pos x
  rw [hst] at p1
  generalize Am ((A.take k).map (Ak l))=S at h7 hst p0 p1
  generalize Ak l g=o at ho o0 hst p1
  simp -implicitDefEqProofs (disch:=omega) only [h4,h7,hH,hlt,hm,ho,go_sem]
  try refine ai ?_
  refine (hI _ _).2 ?_
  and_intros<;>exact cl0
 ·rw [ltl (by omega)] at h7
  exact z4 h4 h7 hH hge
def Ba (L:List Int) (a:Nat) (xs:List Int):Int:=xs.getD (AA L a xs.length).toNat 0
theorem Bl (L:List Int) (a:Nat) (xs:List Int) (hL:L.length<4611686018427387904) (h0:1<=xs.length) (h1:xs.length<1000000):V 38 [.ptr (.arg 0 0) 0 0,.p (AG xs)] [AV L a]=some (.p (.int .i64 (Ba L a xs)),[AV L (Af L a xs.length)]):=by
 refine Ac (vf:=vf38) rfl ?_
 have hn:=CP L a xs.length hL (by omega)
 have n0:=Cl L a xs.length
 have n1:=Cm L a (n:=xs.length) (by omega)
 unfold Ba
 generalize AA L a xs.length=x at hn n0 n1
 generalize Af L a xs.length=a' at hn
 have hm:xs[x.toNat]?=some (xs.getD x.toNat 0):=by
  rw [List.getD_eq_getElem?_getD,lgg (by omega)];rfl
 generalize xs.getD x.toNat 0=y at hm
 exact z2 hn hm
theorem C9 (L:List Int) (a:Nat) {xs:List Int} (h0:1<=xs.length):Ba L a xs∈xs:=by
 have n0:=Cl L a xs.length
 have n1:=Cm L a (n:=xs.length) (by omega)
 unfold Ba
 rw [List.getD_eq_getElem?_getD,lgg (by omega)]
 exact lgk _
theorem Hl (n lo hi:Int):V 172 [.p (.int .i64 n),.p (.int .i64 lo),.p (.int .i64 hi)] []=some (.p (.bool (decide (lo<=n/\n<=hi))),[]):=by
 refine Ac (vf:=vf172) rfl ?_
 by_cases h1:lo<=n
 ·by_cases h2:n<=hi
  ·rw [decide_eq_true ⟨h1,h2⟩]
   exact z2 h1 h2
  ·rw [decide_eq_false (fun h=>h2 h.2)]
   exact z2 h1 h2
 ·rw [decide_eq_false (fun h=>h1 h.1)]
  exact z1 h1
theorem HT (t:Tr) (id:Int) (hn:t.nodes.length<1000000):V 171 [t.vv,.p (.int .i64 id)] []=some (.p (.bool (Ag t.nodes id)),[]):=by
 refine Ac (vf:=vf171) rfl ?_
 have hfi:=GQ t id hn
 unfold Ag
 generalize (AS t.nodes id).getD zeroNd=nd at hfi
 generalize (AS t.nodes id).isSome=b at hfi
 simp -implicitDefEqProofs (disch:=omega) only [vf171,R8,hfi,Nd.vv,go_sem]
def EW (t:Tr) (l:List Ch):Bool:=AX t && Bz (Ag t.nodes) 1 10000 none l
def BM (t:Tr) (l:List Ch):Bool:=AX t && Bz (Ag t.nodes) 0 1152921504606846976 none l
theorem Pn (t:Tr) (l:List Ch) (hf:t.Fits) (hn:t.nodes.length<1000000) (hl:l.length<1000000):V 110 [t.vv,.p (Ap l)] []=some (.p (.bool (EW t l)),[]):=by
 refine Ac (vf:=vf110) rfl ?_
 have hc:=IW t hf hn
 unfold EW
 cases ht:AX t with
 | false =>
  rw [ht] at hc
  simp -implicitDefEqProofs (disch:=omega) only [vf110,Mg,hc,bfa,go_sem]
 | true =>
  rw [ht] at hc
  rw [bta]
  refine w1 hc ?_
  obtain ⟨I,hI⟩:=lpI fun k s=>Bz (Ag t.nodes) 1 10000 none l=Bz (Ag t.nodes) 1 10000 (Eu l k) (l.drop k)/\s.pe 1=.p (Ap l)/\s.pe 2=.ptr (.slot 2 0) 0 0/\s.pe 10=.p (Ap l)/\s.pe 11=.p (.int .i64 l.length)/\s.pe 12=.p (.int .i64 k)/\s.h (.slot 2 0)=some (0,.box [.p (An t.nodes),.p (.int .i64 t.next)])
  refine Aj (l.length) I ?_ ?_
  ·refine (hI _ _).2 ?_
   and_intros
   ·exact cl3
   all_goals exact cl0
  intro k s hk hIk
  obtain ⟨hq,h1,h2,hH⟩:=(hI _ _).1 hIk
  clear hIk
  refine w3 h1 h2 hH ?_
  refine Ae (fun hlt=>?_) (fun hge=>?_)
  ·have hm:l[k]?=some l[k]:=lgg hlt
   generalize l[k]=c at hm
   have hg:=LC hq hm
   have hb':=LW hq hm
   have hfi:=HT t c.group hn
   have hin:=Hl c.own 1 10000
   obtain ⟨kn,hkn⟩:∃ kn,Ag t.nodes c.group=kn:=⟨_,rfl⟩
   by_cases hk0:(0:Int)<k
   ·obtain ⟨e,he,he'⟩:=LM hm hk0
    have hk1:(0:Int)<=(k:Int) - 1:=by omega
    rw [KS hk0 he] at hg hb'
    rw [hkn] at hfi hg hb'
    refine w10 h1 h2 hH hlt hm hfi hin hk0 hk1 he' ?_
    repeat' ((first|refine AM ?_ ?_|refine AL ?_ ?_|refine AP ?_ ?_|refine AO ?_ ?_|refine AJ ?_ ?_|refine AI ?_ ?_|refine AN ?_ ?_|refine AK ?_ ?_|refine Ae ?_ ?_|refine AR ?_ ?_)<;>intro hb<;>simp -implicitDefEqProofs (disch:=omega) only [hb,h1,h2,hH,hlt,hm,hfi,hin,hk0,hk1,he',go_sem])
    all_goals first
     | (rw [hb' (by first|(rintro ⟨h1,h2,h3,h4⟩;omega)|simp_all)];done)
     | skip
    try refine ai ?_
    refine (hI _ _).2 ?_
    and_intros
    ·exact hg ⟨by first|assumption|(cases kn<;>simp_all),by omega,by omega,by omega⟩
    all_goals exact cl0
   ·rw [KR hk0] at hg hb'
    rw [hkn] at hfi hg hb'
    refine w8 h1 h2 hH hlt hm hfi hin hk0 ?_
    repeat' ((first|refine AM ?_ ?_|refine AL ?_ ?_|refine AP ?_ ?_|refine AO ?_ ?_|refine AJ ?_ ?_|refine AI ?_ ?_|refine AN ?_ ?_|refine AK ?_ ?_|refine Ae ?_ ?_|refine AR ?_ ?_)<;>intro hb<;>simp -implicitDefEqProofs (disch:=omega) only [hb,h1,h2,hH,hlt,hm,hfi,hin,hk0,go_sem])
    all_goals first
     | (rw [hb' (by first|(rintro ⟨h1,h2,h3⟩;omega)|simp_all)];done)
     | skip
    try refine ai ?_
    refine (hI _ _).2 ?_
    and_intros
    .exact hg ⟨by first|assumption|(cases kn<;>simp_all),by omega,by omega⟩
    all_goals exact cl0
  ·have hT:=LV hq (by omega)
   exact z5 h1 h2 hH hge hT
theorem K9 (t:Tr) (l:List Ch) (hf:t.Fits) (hn:t.nodes.length<1000000) (hl:l.length<1000000):V 112 [t.vv,.p (Ap l)] []=some (.p (.bool (BM t l)),[]):=by
 refine Ac (vf:=vf112) rfl ?_
 have hc:=IW t hf hn
 unfold BM
 cases ht:AX t with
 | false =>
  rw [ht] at hc
  simp -implicitDefEqProofs (disch:=omega) only [vf112,Me,hc,bfa,go_sem]
 | true =>
  rw [ht] at hc
  rw [bta]
  refine w1 hc ?_
  obtain ⟨I,hI⟩:=lpI fun k s=>Bz (Ag t.nodes) 0 1152921504606846976 none l=Bz (Ag t.nodes) 0 1152921504606846976 (Eu l k) (l.drop k)/\s.pe 1=.p (Ap l)/\s.pe 2=.ptr (.slot 2 0) 0 0/\s.pe 10=.p (Ap l)/\s.pe 11=.p (.int .i64 l.length)/\s.pe 12=.p (.int .i64 k)/\s.h (.slot 2 0)=some (0,.box [.p (An t.nodes),.p (.int .i64 t.next)])
  refine Aj (l.length) I ?_ ?_
  ·refine (hI _ _).2 ?_
   and_intros
   ·exact cl3
   all_goals exact cl0
  intro k s hk hIk
  obtain ⟨hq,h1,h2,hH⟩:=(hI _ _).1 hIk
  clear hIk
  refine w3 h1 h2 hH ?_
  refine Ae (fun hlt=>?_) (fun hge=>?_)
  ·have hm:l[k]?=some l[k]:=lgg hlt
   generalize l[k]=c at hm
   have hg:=LC hq hm
   have hb':=LW hq hm
   have hfi:=HT t c.group hn
   have hin:=Hl c.own 0 1152921504606846976
   obtain ⟨kn,hkn⟩:∃ kn,Ag t.nodes c.group=kn:=⟨_,rfl⟩
   by_cases hk0:(0:Int)<k
   ·obtain ⟨e,he,he'⟩:=LM hm hk0
    have hk1:(0:Int)<=(k:Int) - 1:=by omega
    rw [KS hk0 he] at hg hb'
    rw [hkn] at hfi hg hb'
    refine w10 h1 h2 hH hlt hm hfi hin hk0 hk1 he' ?_
    repeat' ((first|refine AM ?_ ?_|refine AL ?_ ?_|refine AP ?_ ?_|refine AO ?_ ?_|refine AJ ?_ ?_|refine AI ?_ ?_|refine AN ?_ ?_|refine AK ?_ ?_|refine Ae ?_ ?_|refine AR ?_ ?_)<;>intro hb<;>simp -implicitDefEqProofs (disch:=omega) only [hb,h1,h2,hH,hlt,hm,hfi,hin,hk0,hk1,he',go_sem])
    all_goals first
     | (rw [hb' (by first|(rintro ⟨h1,h2,h3,h4⟩;omega)|simp_all)];done)
     | skip
    try refine ai ?_
    refine (hI _ _).2 ?_
    and_intros
    ·exact hg ⟨by first|assumption|(cases kn<;>simp_all),by omega,by omega,by omega⟩
    all_goals exact cl0
   ·rw [KR hk0] at hg hb'
    rw [hkn] at hfi hg hb'
    refine w8 h1 h2 hH hlt hm hfi hin hk0 ?_
    repeat' ((first|refine AM ?_ ?_|refine AL ?_ ?_|refine AP ?_ ?_|refine AO ?_ ?_|refine AJ ?_ ?_|refine AI ?_ ?_|refine AN ?_ ?_|refine AK ?_ ?_|refine Ae ?_ ?_|refine AR ?_ ?_)<;>intro hb<;>simp -implicitDefEqProofs (disch:=omega) only [hb,h1,h2,hH,hlt,hm,hfi,hin,hk0,go_sem])
    all_goals first
     | (rw [hb' (by first|(rintro ⟨h1,h2,h3⟩;omega)|simp_all)];done)
     | skip
    try refine ai ?_
    refine (hI _ _).2 ?_
    and_intros
    .exact hg ⟨by first|assumption|(cases kn<;>simp_all),by omega,by omega⟩
    all_goals exact cl0
  ·have hT:=LV hq (by omega)
   exact z5 h1 h2 hH hge hT
theorem OV {l:List Ch} {k:Nat} {c:Ch} {id:Int} (hm:l[k]?=some c) (h:Ao l id=Ao (l.drop k) id):Ao l id=if c.group=id then c.own else Ao (l.drop (k+1)) id:=by
 have hl:=(lgs.1 hm).1
 rw [h,ldg hl]
 rw [lgg hl] at hm
 cases hm
 rfl
theorem Pb {l:List Ch} {k:Nat} {c:Ch} {id:Int} (hm:l[k]?=some c) (h:Ak l id=Ak (l.drop k) id):Ak l id=if c.group=id then c.own else Ak (l.drop (k+1)) id:=by
 have hl:=(lgs.1 hm).1
 rw [h,ldg hl]
 rw [lgg hl] at hm
 cases hm
 rfl
theorem Rj (l:List Ch) (id:Int) (hl:l.length<1000000):V 269 [.p (Ap l),.p (.int .i64 id)] []=some (.p (.int .i64 (Ao l id)),[]):=by
 refine Ac (vf:=vf269) rfl ?_
 refine w0 ?_
 obtain ⟨I,hI⟩:=lpI fun k s=>Ao l id=Ao (l.drop k) id/\s.pe 1=.p (.int .i64 id)/\s.pe 7=.p (Ap l)/\s.pe 8=.p (.int .i64 ↑l.length)/\s.pe 9=.p (.int .i64 k)
 refine Aj (l.length) I ?_ ?_
 ·refine (hI _ _).2 ?_
  and_intros
  ·exact cl3
  all_goals exact cl0
 intro k s hk hIk
 obtain ⟨hq,hH⟩:=(hI _ _).1 hIk
 clear hIk
 refine w1 hH ?_
 refine Ae (fun hlt=>?_) (fun hge=>?_)
 ·have hm:l[k]?=some l[k]:=lgg hlt
  generalize l[k]=c at hm
  have hst:=OV hm hq
  by_cases hp:c.group=id
  ·rw [if_pos hp] at hst
   exact z5 hH hlt hm hp hst
  ·rw [if_neg hp] at hst
   simp -implicitDefEqProofs (disch:=omega) only [hH,hlt,hm,hp,go_sem]
   try refine ai ?_
   refine (hI _ _).2 ?_
   and_intros
   .exact hst
   all_goals exact cl0
 ·rw [ldl (by omega)] at hq
  simp -implicitDefEqProofs (disch:=omega) only [hH,hge,hq,Ao,go_sem]
theorem Rb (l:List Ch) (id:Int) (hl:l.length<1000000):V 274 [.p (Ap l),.p (.int .i64 id)] []=some (.p (.int .i64 (Ao l id)),[]):=by
 refine Ac (vf:=vf274) rfl ?_
 refine w0 ?_
 obtain ⟨I,hI⟩:=lpI fun k s=>Ao l id=Ao (l.drop k) id/\s.pe 0=.p (Ap l)/\s.pe 1=.p (.int .i64 id)/\s.pe 5=.p (.int .i64 k)
 refine Aj (l.length) I ?_ ?_
 ·refine (hI _ _).2 ?_
  and_intros
  ·exact cl3
  all_goals exact cl0
 intro k s hk hIk
 obtain ⟨hq,hH⟩:=(hI _ _).1 hIk
 clear hIk
 refine w1 hH ?_
 refine Ae (fun hlt=>?_) (fun hge=>?_)
 ·have hm:l[k]?=some l[k]:=lgg hlt
  generalize l[k]=c at hm
  have hst:=OV hm hq
  by_cases hp:c.group=id
  ·rw [if_pos hp] at hst
   exact z5 hH hlt hm hp hst
  ·rw [if_neg hp] at hst
   simp -implicitDefEqProofs (disch:=omega) only [hH,hlt,hm,hp,go_sem]
   try refine ai ?_
   refine (hI _ _).2 ?_
   and_intros
   .exact hst
   all_goals exact cl0
 ·rw [ldl (by omega)] at hq
  simp -implicitDefEqProofs (disch:=omega) only [hH,hge,hq,Ao,go_sem]
theorem JE (l:List Ch) (id:Int) (hl:l.length<1000000):V 118 [.p (Ap l),.p (.int .i64 id)] []=some (.p (.int .i64 (Ak l id)),[]):=by
 refine Ac (vf:=vf118) rfl ?_
 refine w0 ?_
 obtain ⟨I,hI⟩:=lpI fun k s=>Ak l id=Ak (l.drop k) id/\s.pe 1=.p (.int .i64 id)/\s.pe 7=.p (Ap l)/\s.pe 8=.p (.int .i64 ↑l.length)/\s.pe 9=.p (.int .i64 k)
 refine Aj (l.length) I ?_ ?_
 ·refine (hI _ _).2 ?_
  and_intros
  ·exact cl3
  all_goals exact cl0
 intro k s hk hIk
 obtain ⟨hq,hH⟩:=(hI _ _).1 hIk
 clear hIk
 refine w1 hH ?_
 refine Ae (fun hlt=>?_) (fun hge=>?_)
 ·have hm:l[k]?=some l[k]:=lgg hlt
  generalize l[k]=c at hm
  have hst:=Pb hm hq
  by_cases hp:c.group=id
  ·rw [if_pos hp] at hst
   exact z5 hH hlt hm hp hst
  ·rw [if_neg hp] at hst
   simp -implicitDefEqProofs (disch:=omega) only [hH,hlt,hm,hp,go_sem]
   try refine ai ?_
   refine (hI _ _).2 ?_
   and_intros
   .exact hst
   all_goals exact cl0
 ·rw [ldl (by omega)] at hq
  simp -implicitDefEqProofs (disch:=omega) only [hH,hge,hq,Ak,go_sem]
def Gf (a:List Ch) (id v:Int):List Ch:=withGo id v false a
theorem zbL (l:List Ch) (id v:Int) (hl:l.length<1000000):V 187 [.p (Ap l),.p (.int .i64 id),.p (.int .i64 v)] []=some (.fresh 2 ((Gf l id v).map Ch.pv),[]):=by
 refine Ac (vf:=vf187) rfl ?_
 unfold Gf
 refine w0 ?_
 obtain ⟨I,hI⟩:=lpI fun k s=>∃ (acc:List Ch) (d:Bool) (w:Nat),withGo id v false l=acc++withGo id v d (l.drop k)/\acc.length<=2*k/\s.pe 1=.p (.int .i64 id)/\s.pe 2=.p (.int .i64 v)/\s.pe 7=.own (.slot 7 0) w 0 acc.length/\s.pe 8=.p (.bool d)/\s.pe 11=.p (Ap l)/\s.pe 12=.p (.int .i64 l.length)/\s.pe 13=.p (.int .i64 k)/\s.h (.slot 7 0)=some (w,Ob.arr 2 (acc.map Ch.pv))
 refine Aj (l.length) I ?_ ?_
 ·refine (hI _ _).2 ⟨[],false,0,?_⟩
  and_intros
  ·rfl
  ·exact cl3
  all_goals exact cl0
 intro k s hk hIk
 obtain ⟨acc,d,w,hw,hal,hH⟩:=(hI _ _).1 hIk
 clear hIk
 refine w1 hH ?_
 refine Ae (fun hlt=>?_) (fun hge=>?_)
 ·have hm:l[k]?=some l[k]:=lgg hlt
  have hd:l.drop k=l[k]::l.drop (k+1):=ldg hlt
  generalize l[k]=c at hm hd
  rw [hd,withGo] at hw
  cases d with
  | true =>
   by_cases he:c.group=id
   ·simp only [he,Bool.not_true,bfa,bft,if_false,if_true,lna,lan,Bool.true_or] at hw
    simp -implicitDefEqProofs (disch:=omega) only [hH,hlt,hm,he,go_sem]
    try refine ai ?_
    refine (hI _ _).2 ⟨acc,true,w,?_⟩
    and_intros
    ·exact hw
    ·omega
    all_goals exact cl0
   ·simp only [he,Bool.not_true,bfa,bft,if_false,lna,Bool.true_or,<- laa] at hw
    simp -implicitDefEqProofs (disch:=omega) only [hH,hlt,hm,he,go_sem]
    try refine ai ?_
    refine (hI _ _).2 ⟨acc++[c],true,w+1,?_⟩
    and_intros
    ·exact hw
    ·exact by simp;omega
    all_goals exact cl0
  | false =>
   by_cases hge:id<=c.group
   ·by_cases he:c.group=id
    ·simp only [he,Int.le_refl,decide_true,bnf,bas,if_true,lan,Bool.or_true,<- laa] at hw
     simp -implicitDefEqProofs (disch:=omega) only [hH,hlt,hm,hge,he,Int.le_refl,decide_true,go_sem]
     try refine ai ?_
     refine (hI _ _).2 ⟨acc++[⟨id,v⟩],true,w+1,?_⟩
     and_intros
     .exact hw
     .exact by simp;omega
     all_goals exact cl0
    ·simp only [he,hge,decide_true,bnf,bas,if_true,if_false,Bool.or_true,<- laa] at hw
     simp -implicitDefEqProofs (disch:=omega) only [hH,hlt,hm,hge,he,go_sem]
     try refine ai ?_
     refine (hI _ _).2 ⟨acc++[⟨id,v⟩]++[c],true,w+1+1,?_⟩
     and_intros
     .exact hw
     .exact by simp;omega
     all_goals exact cl0
   ·have he:¬ c.group=id:=by omega
    simp only [he,hge,decide_false,bnf,Bool.and_false,bft,if_false,lna,Bool.or_false,<- laa] at hw
    simp -implicitDefEqProofs (disch:=omega) only [hH,hlt,hm,hge,he,go_sem]
    try refine ai ?_
    refine (hI _ _).2 ⟨acc++[c],false,w+1,?_⟩
    and_intros
    .exact hw
    .exact by simp;omega
    all_goals exact cl0
 ·rw [ldl (by omega),withGo] at hw
  cases d with
  | true =>
   simp only [if_true,lan] at hw
   refine w2 hH hge ?_
   rw [hw]
  | false =>
   simp only [bft,if_false] at hw
   refine w2 hH hge ?_
   rw [hw]
   simp [Ch.pv]
def CI (t:Tr) (a:List Ch) (id now:Int):Bool:=BM t a && Ag t.nodes id && decide (Ak a id<=now)
theorem zco (t:Tr) (a:List Ch) (id now:Int) (hf:t.Fits) (hn:t.nodes.length<1000000) (hl:a.length<1000000):V 117 [t.vv,.p (Ap a),.p (.int .i64 id),.p (.int .i64 now)] []=some (.p (.bool (CI t a id now)),[]):=by
 refine Ac (vf:=vf117) rfl ?_
 have h1:=K9 t a hf hn hl
 have h2:=HT t id hn
 have h3:=JE a id hl
 unfold CI
 cases hc:BM t a with
 | false =>
  rw [hc] at h1
  simp -implicitDefEqProofs (disch:=omega) only [vf117,JN,h1,bfa,go_sem]
 | true =>
  rw [hc] at h1
  cases hk:Ag t.nodes id with
  | false =>
   rw [hk] at h2
   simp -implicitDefEqProofs (disch:=omega) only [vf117,JN,h1,h2,bfa,bta,go_sem]
  | true =>
   rw [hk] at h2
   simp -implicitDefEqProofs (disch:=omega) only [vf117,JN,h1,h2,h3,bta,go_sem]
def Hc (a:List Ch) (id share cost now margin:Int):Int:=max (max (Ak a id) (now - margin)) 0+(cost*1073741824+share - 1) / share
def Cb (t:Tr) (a:List Ch) (id share cost now margin:Int):List Ch × Int :=
  if BM t a=true then
    (if Ag t.nodes id=true then
      (if (1<=share/\share<=1073741824)/\(1<=cost/\cost<=4294967296)/\(0<=now/\now<=576460752303423488)/\(0<=margin/\margin<=1073741824) then
        (if now<Ak a id then ([],11) else if 1152921504606846976<Hc a id share cost now margin then ([],7) else (Gf a id (Hc a id share cost now margin),0))
       else ([],3))
     else ([],4))
  else ([],1)
theorem Qa {kn:Int->Bool} {lo hi:Int} {l:List Ch} (h:AscOk kn lo hi l) (h0:lo<=0) (h1:0<=hi) (id:Int):lo<=Ak l id/\Ak l id<=hi:=by
 have hr:=h.range
 clear h
 induction l with
 | nil=>simp [Ak,h0,h1]
 | cons c l ih =>
  unfold Ak
  split
  .exact hr c (lms ..)
  .exact ih fun d hd=>hr d (lmc _ hd)
theorem zae (t:Tr) (a:List Ch) (id share cost now margin:Int) (hf:t.Fits) (hn:t.nodes.length<1000000) (hl:a.length<1000000):V 126 [t.vv,.p (Ap a),.p (.int .i64 id),.p (.int .i64 share),.p (.int .i64 cost),.p (.int .i64 now),.p (.int .i64 margin)] []=some (.tup [.fresh 2 ((Cb t a id share cost now margin).1.map Ch.pv),.p (.int .i64 (Cb t a id share cost now margin).2)],[]):=by
 refine Ac (vf:=vf126) rfl ?_
 have h1 := K9 t a hf hn hl
 have h2 := HT t id hn
 have h3 := JE a id hl
 have i1 := Hl share 1 1073741824
 have i2 := Hl cost 1 4294967296
 have i3 := Hl now 0 576460752303423488
 have i4 := Hl margin 0 1073741824
 unfold Cb
 cases hc:BM t a with
 | false =>
  rw [hc] at h1
  exact y1 h1
 | true =>
  rw [hc] at h1
  have hA:AscOk (Ag t.nodes) 0 1152921504606846976 a:=(EQ _ _ _ _).1 (by
   unfold BM at hc
   simp only [bat] at hc
   exact hc.2)
  have hown:=Qa hA (by omega) (by omega) id
  rw [if_pos rfl]
  cases hk:Ag t.nodes id with
  | false =>
   rw [hk] at h2
   exact y2 h1 h2
  | true =>
   rw [hk] at h2
   rw [if_pos rfl]
   by_cases c1:1<=share/\share<=1073741824
   ·rw [decide_eq_true c1] at i1
    by_cases c2:1<=cost/\cost<=4294967296
    ·rw [decide_eq_true c2] at i2
     by_cases c3:0<=now/\now<=576460752303423488
     ·rw [decide_eq_true c3] at i3
      by_cases c4:0<=margin/\margin<=1073741824
      ·rw [decide_eq_true c4] at i4
       rw [if_pos ⟨c1,c2,c3,c4⟩]
       have hp:=zbL a id (Hc a id share cost now margin) hl
       have hnn:0<=cost*1073741824+share - 1:=by omega
       have hq:=Int.tdiv_eq_ediv_of_nonneg (b:=share) hnn
       have hq1:(cost*1073741824+share - 1) / share<=cost*1073741824+share - 1:=Int.ediv_le_self _ hnn
       have hq0:0<=(cost*1073741824+share - 1) / share:=Int.ediv_nonneg hnn (by omega)
       unfold Hc at hp ⊢
       generalize Ak a id=o at h3 hown hp
       generalize (cost*1073741824+share - 1) / share=z at hq hq0 hq1 hp
       by_cases c5:now<o
       ·rw [if_pos c5]
        exact y8 h1 h2 h3 i1 i2 i3 i4 c5
       ·rw [if_neg c5]
        have hw1:IntKind.i64.wrap (cost*1073741824)=cost*1073741824:=En (by omega) (by omega)
        have hne:share ≠ 0:=by omega
        generalize hm:max (max o (now - margin)) 0=M at hp
        have hM:0<=M/\M<=1152921504606846976:=by omega
        by_cases c6:1152921504606846976<M+z
        ·rw [if_pos c6]
         simp -implicitDefEqProofs (disch:=omega) only [vf126,JM,h1,h2,h3,i1,i2,i3,i4,c5,hw1,hne,hq,hm,c6,go_sem]
         try rfl
        ·rw [if_neg c6]
         generalize Gf a id (M+z)=PA at hp
         simp -implicitDefEqProofs (disch:=omega) only [vf126,JM,h1,h2,h3,i1,i2,i3,i4,c5,hw1,hne,hq,hm,c6,hp,go_sem]
         try rfl
      ·rw [decide_eq_false c4] at i4
       rw [if_neg (fun h=>c4 h.2.2.2)]
       exact y6 h1 h2 i1 i2 i3 i4
     ·rw [decide_eq_false c3] at i3
      rw [if_neg (fun h=>c3 h.2.2.1)]
      exact y5 h1 h2 i1 i2 i3
    ·rw [decide_eq_false c2] at i2
     rw [if_neg (fun h=>c2 h.2.1)]
     exact y4 h1 h2 i1 i2
   ·rw [decide_eq_false c1] at i1
    rw [if_neg (fun h=>c1 h.1)]
    exact y3 h1 h2 i1
def Rep3 (ks:List MKey) (vs:List PV) (on:Int->Bool):Prop:=∀ id,A2 ks vs (.int id)=if on id=true then some (.bool true) else none
theorem Rep3.put {ks:List MKey} {vs:List PV} {on:Int->Bool} (h:Rep3 ks vs on) (g:Int):Rep3 (Au ks vs (.int g) (.bool true)).1 (Au ks vs (.int g) (.bool true)).2 (fun x=>on x || decide (x=g)):=by
 intro id
 rw [GH]
 by_cases hg:id=g
 ·subst hg
  simp
 ·simp [hg]
  exact h id
theorem Rep3.congr {ks:List MKey} {vs:List PV} {on on':Int->Bool} (h:Rep3 ks vs on) (he:∀ x,on x=on' x):Rep3 ks vs on':=fun id=>by rw [<- he];exact h id
theorem zb7 (t:Tr) (active:List Int) (hn:t.nodes.length<1000000) (ha:active.length<1000000):∃ ks vs,V 227 [t.vv,.p (AG active)] []=some (.p (.map (.int .i64) ks vs),[])/\Rep3 ks vs (onB t active):=by
 suffices hw:wp (BX V vf227 [t.vv,.p (AG active)] []) (fun r=>∃ ks vs,r=(.p (.map (.int .i64) ks vs),[])/\Rep3 ks vs (onB t active)) by
  obtain ⟨r,hr,ks,vs,rfl,hrep⟩:=hw
  exact ⟨ks,vs,Hn (vf:=vf227) rfl hr,hrep⟩
 refine w0 ?_
 obtain ⟨I,hI⟩:=lpI fun k s=>∃ (ks:List MKey) (vs:List PV),Rep3 ks vs (onB t (active.take k))/\s.pe 2=.ptr (.slot 2 0) 0 0/\s.pe 5=.mref (.slot 10 0) 0/\s.pe 11=.p (AG active)/\s.pe 12=.p (.int .i64 ↑active.length)/\s.pe 13=.p (.int .i64 k)/\s.h (.slot 2 0)=some (0,Ob.box [.p (An t.nodes),.p (.int .i64 t.next)])/\s.h (.slot 10 0)=some (0,Ob.map (KT.int IntKind.i64) ks vs)
 refine Aj (active.length) I ?_ ?_
 ·refine (hI _ _).2 ⟨[],[],?_⟩
  and_intros
  ·exact fun id=>rfl
  all_goals exact cl5
 intro k s hk hIk
 obtain ⟨ks,vs,hrep,hH⟩:=(hI _ _).1 hIk
 clear hIk
 refine w1 hH ?_
 refine Ae (fun hlt=>?_) (fun hge=>?_)
 ·have hm:active[k]?=some active[k]:=lgg hlt
  generalize active[k]=g at hm
  have hst:∀ x,onB t (active.take (k+1)) x=(onB t (active.take k) x || decide (x∈ancF t.nodes t.nodes.length g)):=fun x=>by
   unfold onB
   rw [FU hm]
  have c1:=Jx t g hn
  have hal:=EH t.nodes t.nodes.length g
  generalize ancF t.nodes t.nodes.length g=A at c1 hst hal
  refine w4 hH hlt hm c1 ?_
  obtain ⟨J,hJ⟩:=lpI fun j s=>∃ (ks:List MKey) (vs:List PV) (v19_1:Nat),Rep3 ks vs (fun x=>onB t (active.take k) x || decide (x∈A.take j))/\s.pe 2=.ptr (.slot 2 0) 0 0/\s.pe 5=.mref (.slot 10 0) 0/\s.pe 11=.p (AG active)/\s.pe 12=.p (.int .i64 ↑active.length)/\s.pe 13=.p (.int .i64 ↑k)/\s.pe 19=.own (.slot 19 1) v19_1 0 A.length/\s.pe 20=.p (.int .i64 ↑A.length)/\s.pe 21=.p (.int .i64 j)/\s.h (.slot 2 0)=some (0,Ob.box [.p (An t.nodes),.p (.int .i64 t.next)])/\s.h (.slot 10 0)=some (0,Ob.map (KT.int IntKind.i64) ks vs)/\s.h (.slot 19 1)=some (v19_1,Ob.arr 1 (List.map (.int .i64) A))
  refine Aj (A.length) J ?_ ?_
  ·refine (hJ _ _).2 ⟨ks,vs,nv (BS [19] s.h (.slot 19 1)),?_⟩
   and_intros
   .exact hrep.congr fun x=>by simp
   all_goals exact cl5
  intro j s hj hJk
  obtain ⟨ks,vs,v19_1,hrepj,hH⟩:=(hJ _ _).1 hJk
  clear hJk
  refine w1 hH ?_
  refine Ae (fun hjl=>?_) (fun hjg=>?_)
  ·have hx:A[j]?=some A[j]:=lgg hjl
   have htk:A.take (j+1)=A.take j++[A[j]]:=by rw [List.take_add_one,hx];rfl
   generalize A[j]=x at hx htk
   have hnext:=hrepj.put x
   simp -implicitDefEqProofs (disch:=omega) only [hH,hjl,hx,go_sem]
   try refine ai ?_
   refine (hJ _ _).2 ⟨(Au ks vs (.int x) (.bool true)).1,(Au ks vs (.int x) (.bool true)).2,v19_1,?_⟩
   and_intros
   .exact hnext.congr fun y=>by rw [htk];simp [Bool.or_assoc]
   all_goals exact cl5
  ·rw [show A.take j=A from ltl (by omega)] at hrepj
   simp -implicitDefEqProofs (disch:=omega) only [hH,hjg,go_sem]
   try refine ai ?_
   refine (hI _ _).2 ⟨ks,vs,?_⟩
   and_intros
   .exact hrepj.congr fun y=>(hst y).symm
   all_goals exact cl5
 ·rw [ltl (by omega)] at hrep
  refine w2 hH hge ?_
  exact ⟨_,_,rfl,hrep⟩
theorem MI {α β γ:Type} {f:α->List β} {g:α->List γ}:∀ (l:List α),(∀ x∈l,(f x).length<=(g x).length)->(l.flatMap f).length<=(l.flatMap g).length
 | [],_=>lrf _
 | x::l,h=>by
  have h1:=h x (lms ..)
  have h2:=MI l fun y hy=>h y (lmc _ hy)
  simp only [lfc,lla]
  omega
theorem Vz (t:Tr) (w:Int->Int) (on:Int->Bool) (k:Nat) (id s:Int):sharesF t w on (k+1) id s=if on id=true then ⟨id,s⟩::(kidsN t.nodes id).flatMap (fun c=>if on c=true then sharesF t w on k c (max 1 (s*w c / DK t w on id)) else []) else []:=rfl
theorem Ku (t:Tr) (w:Int->Int) (on:Int->Bool):∀ (k:Nat) (id s:Int),(sharesF t w on k id s).length<=(AC t.nodes k id).length
 | 0,_,_=>lrf _
 | k+1,id,s=>by
  unfold sharesF AC
  split
  ·simp only [llc]
   have:=MI (f:=fun c=>if on c=true then sharesF t w on k c (max 1 (s*w c / DK t w on id)) else []) (g:=AC t.nodes k) (kidsN t.nodes id) fun x _=>by
    split
    .exact Ku t w on k x _
    .exact Nat.zero_le _
   omega
  .exact Nat.zero_le _
theorem Nj {p:Int->Bool} {l:List Int} {k:Nat} {m:Int} (hm:l[k]?=some m):(l.take (k+1)).filter p=if p m=true then (l.take k).filter p++[m] else (l.take k).filter p:=by
 rw [List.take_add_one,hm]
 simp only [Option.toList,List.filter_append,lfl,List.filter_nil]
 split<;>simp
theorem W0 {t:Tr} (h:TreeOk t) {l:List Ch} (hl:AscOk (Ag t.nodes) 1 10000 l) (hll:l.length<1000000) {ks:List MKey} {vs:List PV} {on:Int->Bool} (hrep:Rep3 ks vs on):∀ (f i:Nat) (n:Nd) (u0:Int),t.nodes[i]?=some n->t.nodes.length<=i+f->0<=u0->u0<=1073741824 ->
  V 226 [t.vv,.p (Ap l),.p (.map (.int .i64) ks vs),.p (.int .i64 n.id),.p (.int .i64 u0)] []=some (.fresh 2 ((sharesF t (Ao l) on f n.id u0).map Ch.pv),[]):=by
 intro f
 induction f with
 | zero =>
  intro i n u0 hn hf
  have := (lgs.1 hn).1
  omega
 | succ f ih =>
  intro i n u0 hn hf hs0 hs1
  refine Ac (vf:=vf226) rfl ?_
  have hlen:=h.len
  have hr:=hrep n.id
  have hw:MG l:=fun c hc=>hl.range c hc
  have hsub:=ID h hn (k:=f+1) (by omega)
  have hsl:=Ku t (Ao l) on (f+1) n.id u0
  rw [Vz] at hsl ⊢
  cases hon:on n.id with
  | false =>
   simp only [hon,bft,if_false] at hr
   simp -implicitDefEqProofs (disch:=omega) only [vf226,L7,hr,Option.getD_none,go_sem]
   try rfl
  | true =>
   simp only [hon,if_true] at hr hsl
   rw [if_pos rfl]
   have hkd:=Lz t n.id (by omega)
   have hkid:=fun x (hx:x∈kidsN t.nodes n.id)=>CN.1 hx
   have hkl:(kidsN t.nodes n.id).length<=t.nodes.length:=by
    rw [kidsN,llm]
    exact List.length_filter_le _ _
   have hW:DK t (Ao l) on n.id=Am (((kidsN t.nodes n.id).filter on).map (Ao l)):=rfl
   generalize DK t (Ao l) on n.id=W at hsl hW
   generalize kidsN t.nodes n.id=A at hkd hkid hkl hW hsl
   have hbound:∀ k,0<=Am (((A.take k).filter on).map (Ao l))/\Am (((A.take k).filter on).map (Ao l))<=k*10000:=by
    intro k
    induction k with
    | zero=>simp [Am]
    | succ k ihk =>
     rcases Nat.lt_or_ge k A.length with hlt|hge
     ·have hx:A[k]?=some A[k]:=lgg hlt
      rw [Nj hx]
      have:=EI hw A[k]
      split
      ·rw [lma,Gu]
       simp only [lpc,lpn,Am]
       omega
      ·omega
     ·rw [ltl (by omega)] at ihk ⊢
      omega
   simp -implicitDefEqProofs (disch:=omega) only [vf226,L7,hr,hkd,Option.getD_some,go_sem]
   obtain ⟨I,hI⟩:=lpI fun k s=>True/\s.pe 1=.p (Ap l)/\s.pe 2=.p (PV.map (KT.int IntKind.i64) ks vs)/\s.pe 3=.p (.int .i64 n.id)/\s.pe 4=.p (.int .i64 u0)/\s.pe 5=.ptr (.slot 5 0) 0 0/\s.pe 11=.own (.slot 24 0) 0 0 1/\s.pe 12=.p (.int .i64 (Am (((A.take k).filter on).map (Ao l))))/\s.pe 27=.own (.slot 27 1) 0 0 A.length/\s.pe 28=.p (.int .i64 ↑A.length)/\s.pe 29=.p (.int .i64 k)/\s.h (.slot 5 0)=some (0,Ob.box [.p (An t.nodes),.p (.int .i64 t.next)])/\s.h (.slot 24 0)=some (0,Ob.arr 2 [PV.agg [PV.int IntKind.i64 n.id,PV.int IntKind.i64 u0]])/\s.h (.slot 27 1)=some (0,Ob.arr 1 (List.map (.int .i64) A))
   refine Aj (A.length) I ?_ ?_
   ·refine (hI _ _).2 ?_
    and_intros
    ·exact trivial
    all_goals first|exact cl0|(simp -implicitDefEqProofs (disch:=omega) only [h2,h5,h11,h12,h13,hh2_0,hh10_0,lma,go_sem]<;>first|(simp [Am];done)|(simp [Am];omega))
   intro k s hk hIk
   obtain ⟨hdum,h1,h2,h3,h4,h5,h11,h12,hH⟩:=(hI _ _).1 hIk
   clear hIk
   have hb1:=hbound (k+1)
   have hb0:=hbound k
   refine w8 h1 h2 h3 h4 h5 h11 h12 hH ?_
   refine Ae (fun hlt=>?_) (fun hge=>?_)
   ·have hm:A[k]?=some A[k]:=lgg hlt
    generalize A[k]=c at hm
    have hst:=Nj (p:=on) hm
    have hrc:=hrep c
    have hwt:=Rj l c hll
    have hwr:=EI hw c
    cases hoc:on c with
    | false =>
     simp only [hoc,bft,if_false] at hst hrc
     simp -implicitDefEqProofs (disch:=omega) only [h1,h2,h3,h4,h5,h11,h12,hH,hlt,hm,hrc,Option.getD_none,go_sem]
     try refine ai ?_
     refine (hI _ _).2 ?_
     and_intros
     ·exact trivial
     all_goals first|exact cl0|(simp -implicitDefEqProofs (disch:=omega) only [h1,h2,h3,h4,h5,h11,h12,hH,hst,lma,go_sem]<;>first|(simp [Am];done)|(simp [Am];omega))
    | true =>
     simp only [hoc,if_true] at hst hrc
     rw [hst,lma,Gu] at hb1
     simp only [lpc,lpn,Am,Int.add_zero] at hb1
     have hsum:Am (((A.take (k+1)).filter on).map (Ao l))=Am (((A.take k).filter on).map (Ao l))+Ao l c:=by
      rw [hst,lma,Gu]
      simp [Am]
     generalize Am (((A.take k).filter on).map (Ao l))=S at h12 hb0 hb1 hsum
     generalize Ao l c=y at hwt hwr hb1 hsum
     simp -implicitDefEqProofs (disch:=omega) only [h1,h2,h3,h4,h5,h11,h12,hH,hlt,hm,hrc,hwt,Option.getD_some,go_sem]
     try refine ai ?_
     refine (hI _ _).2 ?_
     and_intros
     ·exact trivial
     all_goals first|exact cl0|(simp -implicitDefEqProofs (disch:=omega) only [h1,h2,h3,h4,h5,h11,h12,hH,hsum,lma,go_sem]<;>first|(simp [Am];done)|(simp [Am];omega))
   ·rw [ltl (by omega),<- hW] at h12
    rw [ltl (by omega),<- hW] at hb0
    obtain ⟨T,hT⟩:∃ T,T=(⟨n.id,u0⟩:Ch)::A.flatMap fun c=>if on c=true then sharesF t (Ao l) on f c (max 1 (u0*Ao l c / W)) else []:=⟨_,rfl⟩
    rw [<- hT] at hsl ⊢
    refine w10 h1 h2 h3 h4 h5 h11 h12 hH hge hkd ?_
    obtain ⟨J,hJ⟩:=lpI fun j s=>∃ (acc:List Ch) (w:Nat) (v44_1:Nat),(T=acc++(A.drop j).flatMap fun c=>if on c=true then sharesF t (Ao l) on f c (max 1 (u0*Ao l c / W)) else [])/\s.pe 1=.p (Ap l)/\s.pe 2=.p (PV.map (KT.int IntKind.i64) ks vs)/\s.pe 4=.p (.int .i64 u0)/\s.pe 5=.ptr (.slot 5 0) 0 0/\s.pe 11=.own (.slot 24 0) w 0 acc.length/\s.pe 12=.p (.int .i64 W)/\s.pe 44=.own (.slot 44 1) v44_1 0 A.length/\s.pe 45=.p (.int .i64 ↑A.length)/\s.pe 46=.p (.int .i64 j)/\s.h (.slot 5 0)=some (0,Ob.box [.p (An t.nodes),.p (.int .i64 t.next)])/\s.h (.slot 24 0)=some (w,Ob.arr 2 (acc.map Ch.pv))/\s.h (.slot 44 1)=some (v44_1,Ob.arr 1 (List.map (.int .i64) A))
    refine Aj (A.length) J ?_ ?_
    ·refine (hJ _ _).2 ⟨[⟨n.id,u0⟩],0,nv (s.h (.slot 44 1)),?_⟩
     and_intros
     ·exact hT
     all_goals first|exact cl0|(simp -implicitDefEqProofs (disch:=omega) only [h1,h2,h3,h4,h5,h11,h12,hH,lma,go_sem]<;>first|(simp [Am];done)|(simp [Am];omega))
    intro j s hj hJk
    obtain ⟨acc,w,v44_1,htj,h1,h2,h4,h5,h11,h12,hH⟩:=(hJ _ _).1 hJk
    clear hJk
    have hTl:=congrArg List.length htj
    rw [lla] at hTl
    refine w7 h1 h2 h4 h5 h11 h12 hH ?_
    refine Ae (fun hjl=>?_) (fun hjg=>?_)
    ·have hx:A[j]?=some A[j]:=lgg hjl
     have hd:A.drop j=A[j]::A.drop (j+1):=ldg hjl
     generalize A[j]=c at hx hd
     have hrc:=hrep c
     have hwt:=Rj l c hll
     have hwr:=EI hw c
     rw [hd,lfc] at htj
     cases hoc:on c with
     | false =>
      simp only [hoc,bft,if_false,lna] at htj hrc
      simp -implicitDefEqProofs (disch:=omega) only [h1,h2,h4,h5,h11,h12,hH,hjl,hx,hrc,Option.getD_none,go_sem]
      try refine ai ?_
      refine (hJ _ _).2 ⟨acc,w,v44_1,?_⟩
      and_intros
      ·exact htj
      all_goals first|exact cl0|(simp -implicitDefEqProofs (disch:=omega) only [h1,h2,h4,h5,h11,h12,hH,lma,go_sem]<;>first|(simp [Am];done)|(simp [Am];omega))
     | true =>
      simp only [hoc,if_true] at htj hrc
      obtain ⟨q,m,hm,hmp,rfl⟩:=hkid c (lmg hx)
      have hlt:=h.kid hn hm hmp
      have hWc:Ao l m.id<=W:=by
       rw [hW]
       exact Ks _ (fun y _=>by have:=EI hw y;omega) (List.mem_filter.2 ⟨lmg hx,hoc⟩)
      have hdv:=Nk (s:=u0) (w:=Ao l m.id) (W:=W) hs0 (by omega) hWc (by omega)
      have hd0:0<=u0*Ao l m.id / W:=Int.ediv_nonneg (Int.mul_nonneg hs0 (by omega)) (by omega)
      have hmul0:0<=u0*Ao l m.id:=Int.mul_nonneg hs0 (by omega)
      have hmul1:u0*Ao l m.id<=1073741824*10000:=Int.mul_le_mul hs1 hwr.2 (by omega) (by omega)
      have htd:=Int.tdiv_eq_ediv_of_nonneg (b:=W) hmul0
      have hrec:=ih q m (max 1 (u0*Ao l m.id / W)) hm (by omega) (by omega) (by omega)
      have hwm:IntKind.i64.wrap (u0*Ao l m.id)=u0*Ao l m.id:=En (by omega) (by omega)
      have hWne:W ≠ 0:=by omega
      rw [hd,lfc,hoc,if_pos rfl,lla] at hTl
      generalize sharesF t (Ao l) on f m.id (max 1 (u0*Ao l m.id / W))=R at hrec htj hTl
      generalize Ao l m.id=y at hwt hwm htd hrec hd0 hdv hmul0 hmul1
      have hwz:IntKind.i64.wrap (u0*y / W)=u0*y / W:=by
       generalize u0*y / W=z at hd0 hdv
       exact En (by omega) (by omega)
      simp -implicitDefEqProofs (disch:=omega) only [h1,h2,h4,h5,h11,h12,hH,hjl,hx,hrc,hwt,hwm,htd,hwz,hWne,hrec,Option.getD_some,go_sem]
      try refine ai ?_
      refine (hJ _ _).2 ⟨acc++R,w+1,v44_1,?_⟩
      and_intros
      .exact by rw [htj];simp
      all_goals first|exact cl0|(simp -implicitDefEqProofs (disch:=omega) only [h1,h2,h4,h5,h11,h12,hH,lma,go_sem]<;>first|(simp [Am];done)|(simp [Am];omega))
    ·rw [ldl (by omega)] at htj
     simp only [List.flatMap_nil,lan] at htj
     rw [htj]
     exact z8 h1 h2 h4 h5 h11 h12 hH hjg
theorem za4 {t:Tr} (h:TreeOk t):∀ (i:Nat) (n:Nd),t.nodes[i]?=some n->∀ m,i<m->m<=t.nodes.length->upR ((t.nodes.take m).reverse) n.id=ancF t.nodes t.nodes.length n.id:=by
 intro i
 induction i using Nat.strongRecOn with
 | _ i ih =>
  intro n hn m
  induction m with
  | zero=>intro hi;omega
  | succ m ihm =>
   intro hi hm
   have hx:t.nodes[m]?=some t.nodes[m]:=lgg (by omega)
   have htk:t.nodes.take (m+1)=t.nodes.take m++[t.nodes[m]]:=by rw [List.take_add_one,hx];rfl
   generalize t.nodes[m]=x at hx htk
   rw [htk,List.reverse_append]
   simp only [List.reverse_cons,List.reverse_nil,lna,lca,upR]
   by_cases he:x.id=n.id
   ·obtain ⟨rfl,rfl⟩:=h.idx hx hn he
    rw [if_pos rfl,PM h hn]
    congr 1
    rcases h.nodeAt hn with ⟨h0,_⟩|⟨h0,_,j,p,hj,hp,hpe⟩
    ·subst h0
     simp [upR]
    ·rw [if_neg (by omega),<- hpe]
     exact ih j hj p hp m hj (by omega)
   ·rw [if_neg he]
    have:i ≠ m:=by
     rintro rfl
     rw [hx] at hn
     cases hn
     exact he rfl
    exact ihm (by omega) (by omega)
theorem zaQ {t:Tr} (h:TreeOk t) {i:Nat} {n:Nd} (hn:t.nodes[i]?=some n):Dz t n.id=ancF t.nodes t.nodes.length n.id:=by
 rw [Dz,show Bb t n.id=AS t.nodes n.id by simp [Bb,(Bo t).2 h],DA h.inc hn]
 simp only [Option.isSome_some,if_true]
 unfold up
 have:=za4 h i n hn t.nodes.length (lgs.1 hn).1 (lrf _)
 rwa [List.take_length] at this
theorem ZD {t:Tr} (h:TreeOk t):∀ (j:Nat) (m:Nd),t.nodes[j]?=some m->(1:Int)∈ancF t.nodes t.nodes.length m.id:=by
 intro j
 induction j using Nat.strongRecOn with
 | _ j ih =>
  intro m hm
  rcases h.nodeAt hm with ⟨_,h1,_⟩|⟨_,_,i,p,hi,hp,hpe⟩
  .rw [<- h1];exact Jp h hm
  .exact (DF h hm _).2 (Or.inr ⟨by omega,by rw [<- hpe];exact ih i hi p hp⟩)
def Rep4 (ks:List MKey) (vs:List PV) (L:List Ch) (sh:Int->Int):Prop:=∀ id,A2 ks vs (.int id)=if (L.any fun x=>decide (x.group=id))=true then some (.int .i64 (sh id)) else none
theorem Rep4.put {ks:List MKey} {vs:List PV} {L:List Ch} {sh:Int->Int} (h:Rep4 ks vs L sh) {c:Ch} (hc:c.own=sh c.group):Rep4 (Au ks vs (.int c.group) (.int .i64 c.own)).1 (Au ks vs (.int c.group) (.int .i64 c.own)).2 (L++[c]) sh:=by
 intro id
 rw [GH]
 by_cases hg:id=c.group
 ·subst hg
  simp [hc]
 ·have hg':¬ c.group=id:=fun he=>hg he.symm
  simp only [hg',MKey.int.injEq,hg,if_false,List.any_append,List.any_cons,List.any_nil,decide_false,Bool.or_false]
  exact h id
theorem zcM {t:Tr} (h:TreeOk t) {l:List Ch} (hl:AscOk (Ag t.nodes) 1 10000 l) (hll:l.length<1000000) (active:List Int) (ha:active.length<1000000):∃ ks vs,V 186 [t.vv,.p (Ap l),.p (AG active)] []=some (.p (.map (.int .i64) ks vs),[]) /\
  ∀ (i:Nat) (n:Nd),t.nodes[i]?=some n->i ≠ 0->(A2 ks vs (.int n.id)).getD (.int .i64 0)=.int .i64 (shr t (Ao l) (onB t active) n.id):=by
 have hlen:=h.len
 obtain ⟨r,hr,hr1⟩:=zbl h
 have hu:=Rd h active
 obtain ⟨kb,vb,hb,hrep⟩:=zb7 t active (by omega) ha
 have hsh:=W0 h hl hll hrep t.nodes.length 0 r 1073741824 hr (by omega) (by omega) (by omega)
 have hroot:=Jf t h (Ao l) (onB t active)
 have hval:=NC h (Ao l) (onB t active) t.nodes.length 0 r hr
 have hall:=ND h (Ao l) hu t.nodes.length 0 r 1073741824 hr (by omega)
 have hsub:=ID h hr (k:=t.nodes.length) (by omega)
 have hsl:=Ku t (Ao l) (onB t active) t.nodes.length r.id 1073741824
 rw [hr1] at hsh hval hall hsl hsub
 rw [hroot] at hval
 generalize sharesF t (Ao l) (onB t active) t.nodes.length 1 1073741824=S at hsh hval hall hsl
 suffices hw:wp (BX V vf186 [t.vv,.p (Ap l),.p (AG active)] []) (fun r=>∃ ks vs,r=(.p (.map (.int .i64) ks vs),[])/\Rep4 ks vs S (shr t (Ao l) (onB t active))) by
  obtain ⟨q,hq,ks,vs,rfl,hrep4⟩:=hw
  refine ⟨ks,vs,Hn (vf:=vf186) rfl hq,fun i n hn hi=>?_⟩
  rw [hrep4 n.id]
  by_cases hon:onB t active n.id=true
  ·obtain ⟨x,hx,hxe⟩:=hall i n hn hon (ZD h i n hn)
   rw [if_pos (List.any_eq_true.2 ⟨x,hx,decide_eq_true hxe⟩)]
   rfl
  ·rw [if_neg]
   ·rw [Je h _ _ hn hi,if_neg hon]
    rfl
   ·intro hany
    obtain ⟨x,hx,hxe⟩:=List.any_eq_true.1 hany
    have:=(hval x hx).1
    rw [of_decide_eq_true hxe] at this
    exact hon this
 refine w2 hb hsh ?_
 obtain ⟨I,hI⟩:=lpI fun k s=>∃ (ks:List MKey) (vs:List PV),Rep4 ks vs (S.take k) (shr t (Ao l) (onB t active))/\s.pe 7=.mref (.slot 10 0) 0/\s.pe 16=.own (.slot 16 1) 0 0 S.length/\s.pe 17=.p (.int .i64 ↑S.length)/\s.pe 18=.p (.int .i64 k)/\s.h (.slot 10 0)=some (0,Ob.map (KT.int IntKind.i64) ks vs)/\s.h (.slot 16 1)=some (0,Ob.arr 2 (List.map Ch.pv S))
 refine Aj (S.length) I ?_ ?_
 ·refine (hI _ _).2 ⟨[],[],?_⟩
  and_intros
  .exact fun id=>rfl
  all_goals exact cl5
 intro k s hk hIk
 obtain ⟨ks,vs,hrep4,hH⟩:=(hI _ _).1 hIk
 clear hIk
 refine w1 hH ?_
 refine Ae (fun hlt=>?_) (fun hge=>?_)
 ·have hm:S[k]?=some S[k]:=lgg hlt
  have htk:S.take (k+1)=S.take k++[S[k]]:=by rw [List.take_add_one,hm];rfl
  generalize S[k]=c at hm htk
  have hnext:=hrep4.put (hval c (lmg hm)).2
  rw [<- htk] at hnext
  simp -implicitDefEqProofs (disch:=omega) only [hH,hlt,hm,go_sem]
  try refine ai ?_
  refine (hI _ _).2 ⟨(Au ks vs (.int c.group) (.int .i64 c.own)).1,(Au ks vs (.int c.group) (.int .i64 c.own)).2,?_⟩
  and_intros
  .exact hnext
  all_goals exact cl5
 ·rw [ltl (by omega)] at hrep4
  refine w2 hH hge ?_
  exact ⟨_,_,rfl,hrep4⟩
theorem Gz (t:Tr) (l:List Ch):EW t l=true ↔ TreeOk t/\AscOk (Ag t.nodes) 1 10000 l:=by
 unfold EW
 rw [bat,Bo,EQ]
theorem Zs {t:Tr} (h:TreeOk t) {l:List Ch} (hl:AscOk (Ag t.nodes) 1 10000 l) (active:List Int) (ha:active.length<1000000) {i:Nat} {n:Nd} (hn:t.nodes[i]?=some n):V 124 [t.vv,.p (Ap l),.p (AG active),.p (.int .i64 n.id)] []=some (.tup [.p (.int .i64 (shr t (Ao l) (onB t active) n.id)),.p (.int .i64 0)],[]):=by
 refine Ac (vf:=vf124) rfl ?_
 have hlen:=h.len
 have hll:=HG hl
 have h1:=Pn t l h.fits (by omega) (by omega)
 rw [(Gz t l).2 ⟨h,hl⟩] at h1
 have h2:=HT t n.id (by omega)
 rw [show Ag t.nodes n.id=true by rw [Ag,DA h.inc hn];rfl] at h2
 by_cases hr:n.id=1
 ·rw [hr] at h2 ⊢
  rw [Jf t h]
  exact z2 h1 h2
 ·obtain ⟨ks,vs,h3,hg⟩:=zcM h hl (by omega) active ha
  have hi:i ≠ 0:=by
   rintro rfl
   rcases h.nodeAt hn with ⟨_,h4,_⟩|⟨h4,_⟩
   .exact hr h4
   .omega
  have hgn:=hg i n hn hi
  generalize shr t (Ao l) (onB t active) n.id=v at hgn
  exact z5 h1 h2 hr h3 hgn
def DT (x:Int):List Int:=[1,100,300,10000,50,200,7,1+x]
def GS (L:List Int) (a:Nat):Int:=(DT (AA L a 1000)).getD (AA L (Af L a 1000) 8).toNat 0
theorem XV (L:List Int) (a:Nat) (hL:L.length<4611686018427387904):V 89 [.ptr (.arg 0 0) 0 0] [AV L a]=some (.p (.int .i64 (GS L a)),[AV L (Af L (Af L a 1000) 8)]):=by
 refine Ac (vf:=vf89) rfl ?_
 have h1:=CP L a 1000 hL (by omega)
 have a0:=Cl L a 1000
 have a1:=Cm L a (n:=1000) (by omega)
 have h2:=CP L (Af L a 1000) 8 hL (by omega)
 have b0:=Cl L (Af L a 1000) 8
 have b1:=Cm L (Af L a 1000) (n:=8) (by omega)
 unfold GS
 generalize AA L a 1000=x at h1 a0 a1
 generalize AA L (Af L a 1000) 8=y at h2 b0 b1
 generalize Af L (Af L a 1000) 8=a2 at h2
 generalize Af L a 1000=a1' at h1 h2
 have hm:(DT x)[y.toNat]?=some ((DT x).getD y.toNat 0):=by
  rw [List.getD_eq_getElem?_getD,lgg (by simp [DT];omega)];rfl
 generalize (DT x).getD y.toNat 0=z at hm
 have hm':([PV.int .i64 1,.int .i64 100,.int .i64 300,.int .i64 10000,.int .i64 50,.int .i64 200,.int .i64 7,.int .i64 (1+x)]:List PV)[y.toNat]?=some (.int .i64 z):=by
  have:((DT x).map (PV.int .i64))[y.toNat]?=some (.int .i64 z):=by rw [List.getElem?_map,hm];rfl
  exact this
 have hlt:y.toNat<8:=by omega
 exact z4 h1 h2 hm' hlt
theorem Vb (L:List Int) (a:Nat):1<=GS L a/\GS L a<=10000:=by
 have a0:=Cl L a 1000
 have a1:=Cm L a (n:=1000) (by omega)
 have b0:=Cl L (Af L a 1000) 8
 have b1:=Cm L (Af L a 1000) (n:=8) (by omega)
 unfold GS
 generalize AA L a 1000=x at a0 a1
 generalize AA L (Af L a 1000) 8=y at b0 b1
 have hmem:(DT x).getD y.toNat 0∈DT x:=by
  rw [List.getD_eq_getElem?_getD,lgg (by simp [DT];omega)]
  exact lgk _
 generalize (DT x).getD y.toNat 0=z at hmem
 simp [DT] at hmem
 omega
def F5 (L:List Int) (a:Nat) (ns:List Nd):Int × Nat :=
 if AA L a 15=14 \/ ns=[] then (AA L (Af L a 15) 9 - 1,Af L (Af L a 15) 9)
 else ((ns.getD (AA L (Af L a 15) ns.length).toNat zeroNd).id,Af L (Af L a 15) ns.length)
theorem Qr (L:List Int) (a:Nat) (t:Tr) (hL:L.length<4611686018427387904) (hl:t.nodes.length<1000000):V 40 [.ptr (.arg 0 0) 0 0,t.vv] [AV L a]=some (.p (.int .i64 (F5 L a t.nodes).1),[AV L (F5 L a t.nodes).2]):=by
 refine Ac (vf:=vf40) rfl ?_
 have hb:=LU L a 15 hL (by omega) (by omega)
 have h9:=CP L (Af L a 15) 9 hL (by omega)
 have hn:=CP L (Af L a 15) t.nodes.length hL (by omega)
 have r9:=Cl L (Af L a 15) 9
 have r9':=Cm L (Af L a 15) (n:=9) (by omega)
 by_cases h14:AA L a 15=14
 ·have h14':AA L a 15=15 - 1:=by omega
  refine w3 hb h14' h9 ?_
  simp [F5,h14]
 ·have h14':¬ AA L a 15=15 - 1:=by omega
  by_cases hz:t.nodes=[]
  ·have hz':(t.nodes.length:Int)=0:=by rw [hz];rfl
   refine w4 hb h14' h9 hz' ?_
   simp [F5,hz]
  ·have hp:1<=t.nodes.length:=List.length_pos_iff.2 hz
   have q0:=Cl L (Af L a 15) t.nodes.length
   have q1:=Cm L (Af L a 15) (n:=t.nodes.length) (by omega)
   have hm:t.nodes[(AA L (Af L a 15) t.nodes.length).toNat]?=some (t.nodes.getD (AA L (Af L a 15) t.nodes.length).toNat zeroNd):=by
    rw [List.getD_eq_getElem?_getD,lgg (by omega)];rfl
   have hz0:¬ ((t.nodes.length:Int)=0):=by omega
   refine w6 hb h14' h9 hn hz0 hm ?_
   simp [F5,h14,hz]
end Go.V
