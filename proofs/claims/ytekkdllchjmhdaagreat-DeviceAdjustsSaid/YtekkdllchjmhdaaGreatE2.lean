/- Part 2 of the proof. -/
import Derived.Test.YtekkdllchjmhdaaGreatE1
import Derived.Attr
set_option linter.unusedSectionVars false
set_option linter.unusedSimpArgs false
set_option linter.unusedVariables false
set_option maxHeartbeats 32000000
open Nat renaming reduceAdd → rA, reduceSub → rS, reduceEqDiff → rE, reduceLeDiff → rL, le_refl → lrf
open List renaming getElem?_eq_getElem → lgg, getElem?_eq_some_iff → lgs, mem_of_getElem? → lmg, drop_eq_getElem_cons → ldg, mem_cons_of_mem → lmc, map_cons → lpc, drop_of_length_le → ldl, nil_append → lna, append_assoc → laa, append_nil → lan, mem_map → lmm, mem_cons_self → lms, map_append → lma, take_of_length_le → ltl, getElem?_of_mem → lgm, length_cons → llc, length_append → lla, flatMap_cons → lfc, mem_cons → lmk, map_nil → lpn, length_nil → lln, mem_append → lmp, length_map → llm, getElem_mem → lgk, length_take → llt, pairwise_cons → lpw, cons_append → lca, filter_cons → lfl
open Option renaming some.injEq → osi
open Bool renaming and_eq_true → bat, false_and → bfa, false_eq_true → bft, true_and → bta, not_false → bnf, and_self → bas, or_eq_true → bot, and_true → bau
open Prod renaming mk.injEq → pmi
namespace Go.V
def wp {α:Type} (x:Option α) (Q:α->Prop) (_u:Tok Q:=⟨⟩):Prop:=∃ a,x=some a/\Q a
section
variable {α β:Type}
theorem Ai (a:α) (f:α->Option β) (u:Tok f):ob (some a) f u=f a:=rfl
theorem Au (f:α->Option β) (u:Tok f):ob none f u=none:=rfl
theorem HW {c:Prop} [Decidable c] (x:Option α) (u:Tok x) (h:c):gd c x u=x:=by simp [gd,h]
theorem zaF (x:Option α) (i:Decidable True) (u:Tok x):@gd α True i x u=x:=by simp [gd]
theorem EK (x y:α) (u:Tok x) (v:Tok y):br true x y u v=x:=rfl
theorem EI (x y:α) (u:Tok x) (v:Tok y):br false x y u v=y:=rfl
theorem ZL (a:α) (Q:α->Prop) (u:Tok Q):wp (some a) Q u=Q a:=by simp [wp]
theorem zbr (x:Option α) (f:α->Option β) (Q:β->Prop) (u:Tok f) (v:Tok Q):wp (ob x f u) Q v=wp x fun a=>wp (f a) Q:=by
 cases x<;>simp [wp,ob]
theorem Q1 {b:Bool} {x y:Option α} {Q:α->Prop} {u:Tok x} {v:Tok y} {t:Tok Q} (h1:b=true->wp x Q) (h2:b=false->wp y Q):wp (br b x y u v) Q t:=by
 cases b
 .exact h2 rfl
 .exact h1 rfl
theorem ZM {x:Option α} {Q Q':α->Prop} (h:wp x Q) (hq:∀ a,Q a->Q' a):wp x Q':=by
 obtain ⟨a,ha,q⟩:=h
 exact ⟨a,ha,hq a q⟩
theorem Zm {x:Option α} {a:α} (h:wp x (·=a)):x=some a:=by
 obtain ⟨b,hb,rfl⟩:=h
 exact hb
end
theorem Ow {b:St->Option (VExit × St)}:∀ {n m:Nat} {s:St} {r:VExit × St},n<=m->A4 b n s=some r->A4 b m s=some r:=by
 intro n
 induction n with
 | zero=>intro m s r _ h;simp [A4] at h
 | succ n ih =>
  intro m s r hm h
  obtain ⟨m,rfl⟩:∃ k,m=k+1:=⟨m - 1,by omega⟩
  simp only [A4] at h ⊢
  cases hb:b s with
  | none=>simp [hb,ob] at h
  | some q =>
   obtain ⟨e,s'⟩:=q
   simp only [hb,ob] at h ⊢
   cases e with
   | normal=>exact ih (by omega) h
   | exit _=>exact h
   | ret=>exact h
theorem Ja {b:St->Option (VExit × St)} {n:Nat} {s:St} {r:VExit × St} (h:A4 b n s=some r):iter b s=some r:=by
 unfold iter
 have hex:∃ n r,A4 b n s=some r:=⟨n,r,h⟩
 rw [dif_pos hex]
 have h':=Classical.choose_spec (Classical.choose_spec hex)
 have h1:=Ow (Nat.le_max_left n (Classical.choose hex)) h
 have h2:=Ow (Nat.le_max_right n (Classical.choose hex)) h'
 rw [h1] at h2
 exact h2.symm
noncomputable def JG (r:VExit × St) (k:St->Option (VExit × St)):Option (VExit × St):=match r.1 with
 | .normal=>k r.2
 | _=>some r
theorem Hd (s:St) (k:St->Option (VExit × St)):JG (.normal,s) k=k s:=rfl
theorem N9 (i:Nat) (s:St) (k:St->Option (VExit × St)):JG (.exit i,s) k=some (.exit i,s):=rfl
theorem OO (s:St) (k:St->Option (VExit × St)):JG (.ret,s) k=some (.ret,s):=rfl
def inB (id:Nat) (r:VExit × St):Option (VExit × St):=if r.1=.exit id then some (.normal,r.2) else some r
theorem OA (id:Nat) (s:St):inB id (.normal,s)=some (.normal,s):=by simp [inB]
theorem QI (id:Nat) (s:St):inB id (.ret,s)=some (.ret,s):=by simp [inB]
theorem P9 (id i:Nat) (s:St):inB id (.exit i,s)=if i=id then some (.normal,s) else some (.exit i,s):=by simp [inB]
section
variable (Γ:Sig) (s:St)
theorem Hr:Az Γ .skip s=some (.normal,s):=by simp [Az]
theorem Hk (r:VRegion):Az Γ (.region r) s=ob (B8 Γ r s) fun s'=>some (.normal,s'):=by simp [Az]
theorem FF (a b:VCode):Az Γ (.seq a b) s=ob (Az Γ a s) fun r=>JG r (Az Γ b):=by
 simp only [Az]
 rfl
theorem Gv (t:Nat) (a b:VCode):Az Γ (.cond (.v t) a b) s=match s.pe t with
  | .p (.bool c)=>br c (Az Γ a s) (Az Γ b s)
  | _=>none:=by
 simp only [Az]
 rfl
theorem Hn (id:Nat) (c:VCode):Az Γ (.block id c) s=ob (Az Γ c s) (inB id):=by
 simp only [Az]
 rfl
theorem Hs (c:VCode):Az Γ (.loop c) s=iter (Az Γ c) s:=by simp only [Az]
theorem IN (id:Nat):Az Γ (.exit id) s=some (.exit id,s):=by simp only [Az]
theorem I1:Az Γ .ret s=some (.ret,s):=by simp only [Az]
theorem Hm (c:VCode):Az Γ (.scope c) s=Az Γ c s:=by simp only [Az]
theorem IM:Az Γ .fail s=none:=by simp only [Az]
theorem HQ (a b:Id) (c:VCode):Az Γ (.mv a b c) s=Az Γ c (Fn a b s):=by simp only [Az]
end
theorem Vv (Γ:Sig) (ops:List VOper) (s:St):B8 Γ ⟨ops,[],[]⟩ s=ob (C9 Γ ops { pe:=s.pe,te:=fun _=>none,h:=s.h }) fun q=>some { pe:=q.pe,h:=q.h }:=by
 simp [B8,Dm]
theorem VX (Γ:Sig) (r:RS):C9 Γ [] r=some r:=rfl
theorem Ip (Γ:Sig) (o:VOper) (os:List VOper) (r:RS):C9 Γ (o::os) r=ob (BS Γ o r) fun r'=>C9 Γ os r':=rfl
section
variable (Γ:Sig) (d:VDst) (op:VOp) (pe:Nat->VVal) (te:Nat->Option VVal) (h:VHeap)
theorem ZV (s:Nat):BS Γ ⟨.v s,op,none⟩ ⟨pe,te,h⟩=ob (Al Γ (RS.look ⟨pe,te,h⟩) h s op) fun q=>some ⟨D3 pe s q.1,te,h.upds q.2⟩:=rfl
theorem ZW (s:Nat):BS Γ ⟨.t s,op,none⟩ ⟨pe,te,h⟩=ob (Al Γ (RS.look ⟨pe,te,h⟩) h s op) fun q=>some ⟨pe,ES te s q.1,h.upds q.2⟩:=rfl
theorem ZX:BS Γ ⟨.none,op,none⟩ ⟨pe,te,h⟩=ob (Al Γ (RS.look ⟨pe,te,h⟩) h 0 op) fun q=>some ⟨pe,te,h.upds q.2⟩:=rfl
theorem Yb (s:Nat) (g:VArg) (want:Bool):BS Γ ⟨.v s,op,some (g,want)⟩ ⟨pe,te,h⟩=ob (RS.look ⟨pe,te,h⟩ g) fun gv=>match gv with
  | .p (.bool b)=>br (b == want) (ob (Al Γ (RS.look ⟨pe,te,h⟩) h s op) fun q=>some ⟨D3 pe s q.1,te,h.upds q.2⟩) (some ⟨D3 pe s .undef,te,h⟩)
  | .undef=>some ⟨D3 pe s .undef,te,h⟩
  | _=>none:=rfl
theorem Yc (s:Nat) (g:VArg) (want:Bool):BS Γ ⟨.t s,op,some (g,want)⟩ ⟨pe,te,h⟩=ob (RS.look ⟨pe,te,h⟩ g) fun gv=>match gv with
  | .p (.bool b)=>br (b == want) (ob (Al Γ (RS.look ⟨pe,te,h⟩) h s op) fun q=>some ⟨pe,ES te s q.1,h.upds q.2⟩) (some ⟨pe,ES te s .undef,h⟩)
  | .undef=>some ⟨pe,ES te s .undef,h⟩
  | _=>none:=rfl
theorem zbb (s:Nat):RS.look ⟨pe,te,h⟩ (.v s)=some (pe s):=rfl
theorem zbc (s:Nat):RS.look ⟨pe,te,h⟩ (.t s)=te s:=rfl
theorem zbd (d:PV):RS.look ⟨pe,te,h⟩ (.c d)=some (CM d):=rfl
theorem ZP (s t:Nat) (v:VVal):D3 pe s v t=if t=s then v else pe t:=rfl
theorem ZQ (s t:Nat) (v:VVal):ES te s v t=if t=s then some v else te t:=rfl
theorem X2:h.upds []=h:=rfl
theorem KI (id:Id) (o:Nat × Ob) (us:List (Id × Nat × Ob)):h.upds ((id,o)::us)=(h.upd id o).upds us:=rfl
theorem za0 (id i:Id) (o:Nat × Ob):h.upd id o i=if i=id then some o else h i:=rfl
end
theorem FO {n:Int} (h1:-9223372036854775808<=n) (h2:n<=9223372036854775807):IntKind.i64.wrap n=n:=by
 simp [IntKind.wrap,IntKind.bits,IntKind.signed]
 omega
section
variable (Γ:Sig) (look:VArg->Option VVal) (h:VHeap) (d:Nat)
theorem Vx (x:VArg):Al Γ look h d (.move x)=ob (look x) fun v=>some (v,[]):=rfl
theorem Ue (sz:Nat):Al Γ look h d (.newArr sz)=some (.own (.slot d 0) (nv (h (.slot d 0))) 0 0,[(.slot d 0,nv (h (.slot d 0)),.arr sz [])]):=rfl
theorem Vw (c:VArg) (a:VArg) (b:VArg):Al Γ look h d (.pick c a b)=ob (look c) fun v=>match v with
  | .p (.bool t)=>br t (ob (look a) fun v=>some (v,[])) (ob (look b) fun v=>some (v,[]))
  | _=>none:=rfl
theorem UX (zero:List ZC):Al Γ look h d (.alloc zero)=some (.ptr (.slot d 0) (nv (h.upds (zcells d h 0 zero).2 (.slot d 0))) 0,(zcells d h 0 zero).2++[(.slot d 0,nv (h.upds (zcells d h 0 zero).2 (.slot d 0)),.box (zcells d h 0 zero).1)]):=rfl
theorem Wz (n:Nat) (x:VArg):Al Γ look h d (.box n x)=ob (look x) fun v=>gd ((AF v).length=n) <| gd ((AF v).all En=true) (some (.ptr (.slot d 0) (nv (h (.slot d 0))) 0,[(.slot d 0,nv (h (.slot d 0)),.box (AF v))])):=rfl
theorem UW (cells:List BC):Al Γ look h d (.build cells)=ob (BR look d h 0 cells) fun r=>some (.agg r.1,r.2):=rfl
theorem S5 (sz:Nat) (parts:List VArg):Al Γ look h d (.buildSlice sz parts)=ob (Ae (fun x=>ob (look x) fun v=>BA v) parts) fun xs =>
   gd (xs.all (fun x=>decide (x.cells.length=sz))=true) (some (.own (.slot d 0) (nv (h (.slot d 0))) 0 parts.length,[(.slot d 0,nv (h (.slot d 0)),.arr sz xs)])):=rfl
theorem Ty (parts:List VArg):Al Γ look h d (.buildPtrs parts)=ob (Ae look parts) fun vs=>gd (vs.all GZ=true) (some (.plist vs,[])):=rfl
theorem T6 (sz:Nat) (parts:List VArg):Al Γ look h d (.buildFz sz parts)=ob (Ae (fun x=>ob (look x) fun v=>BA v) parts) fun xs =>
   gd (xs.all (fun x=>decide (x.cells.length=sz))=true) (some (.p (.slice sz xs),[])):=rfl
theorem Vy (agg:Option Nat) (a:VArg):Al Γ look h d (.load agg a)=ob (look a) fun p=>ob (FV h agg p) fun v=>some (v,[]):=rfl
theorem UP (n:Nat) (a:VArg) (x:VArg):Al Γ look h d (.store n a x)=ob (look a) fun p=>ob (look x) fun v=>ob (DU h n p v) fun us=>some (.undef,us):=rfl
theorem Tx (off:Nat) (x:VArg):Al Γ look h d (.fieldAddr off x)=ob (look x) fun v=>match v with
  | .ptr id ver o=>some (.ptr id ver (o+off),[])
  | .vptr cs o=>some (.vptr cs (o+off),[])
  | .eptr id ver i o=>some (.eptr id ver i (o+off),[])
  | _=>none:=rfl
theorem UT (off:Nat) (agg:Option Nat) (x:VArg):Al Γ look h d (.field off agg x)=ob (look x) fun v=>match v with
  | .agg cs=>ob (CT agg cs off) fun r=>some (r,[])
  | _=>none:=rfl
theorem Tw (sz:Nat) (x:VArg) (i:VArg):Al Γ look h d (.indexAddr sz x i)=ob (look x) fun s=>ob (look i) fun n=>match n with
  | .p (.int _ n)=>ob (HT h sz s n) fun r=>some (r,[])
  | _=>none:=rfl
theorem TR (x:VArg) (i:VArg):Al Γ look h d (.indexStr x i)=ob (look x) fun s=>ob (look i) fun n=>match s,n with
  | .p (.str s),.p (.int _ n)=>gd (0<=n) (ob s[n.toNat]? fun b=>some (.p (.int .u8 b.toNat),[]))
  | _,_=>none:=rfl
theorem WA (op:BinOp) (x:VArg) (y:VArg):Al Γ look h d (.bin op x y)=ob (look x) fun a=>ob (look y) fun b=>ob (JN op a b) fun r=>some (r,[]):=rfl
theorem UU (neg:Bool) (kts:List KT) (x:VArg) (y:VArg):Al Γ look h d (.eqAgg neg kts x y)=ob (look x) fun a=>ob (look y) fun b=>match a,b with
  | .agg a,.agg b=>ob (Ae unP a) fun xs=>ob (Ae unP b) fun ys=>ob (Dq kts xs ys) fun r=>some (.p (.bool (if neg then !r else r)),[])
  | _,_=>none:=rfl
theorem Wx (x:VArg):Al Γ look h d (.not x)=ob (look x) fun v=>match v with
  | .p (.bool b)=>some (.p (.bool (!b)),[])
  | _=>none:=rfl
theorem Wy (x:VArg):Al Γ look h d (.len x)=ob (look x) fun v=>ob (D1 v) fun n=>some (.p (.int .i64 n),[]):=rfl
theorem Uh (x:VArg):Al Γ look h d (.lenStr x)=ob (look x) fun v=>ob (FW v) fun n=>some (.p (.int .i64 n),[]):=rfl
theorem Ui (sz:Nat) (bytes:Nat) (s:VArg) (x:VArg):Al Γ look h d (.append sz bytes s x)=ob (look s) fun a=>ob (look x) fun b=>Ee h sz bytes a b:=rfl
theorem Tz (sz:Nat) (bytes:Nat) (x:VArg):Al Γ look h d (.appendNil sz bytes x)=ob (look x) fun b=>Gk d h sz bytes b:=rfl
theorem UR (str:Bool) (sz:Nat) (lo:Option VArg) (hi:Option VArg) (mx:Option VArg) (x:VArg):Al Γ look h d (.slice str sz lo hi mx x)=ob (look x) fun s=>br str (E9 look lo hi s) (DV d h look sz lo hi mx s):=rfl
theorem Ug (ok:Bool) (kt:KT) (zero:PV) (m:VArg) (k:VArg):Al Γ look h d (.lookup ok kt zero m k)=ob (look m) fun m=>ob (look k) fun k=>ob (Cw h m) fun es=>gd (es.1=kt \/ es.2.1=[]) <| ob (Ev kt k) fun k=>some (Ed ok zero es.2.1 es.2.2 k,[]):=rfl
theorem Tv (kt:KT) (m:VArg) (k:VArg) (x:VArg):Al Γ look h d (.mapUpdate kt m k x)=ob (look m) fun m=>ob (look k) fun k=>ob (look x) fun x=>ob (Ev kt k) fun k=>ob (BA x) fun x=>match m with
  | .mref id ver=>match h id with
   | some (v,.map kt' ks vs)=>gd (v=ver) <| gd (kt'=kt) (some (.undef,[(id,v,.map kt (Av ks vs k x).1 (Av ks vs k x).2)]))
   | _=>none
  | _=>none:=rfl
theorem T4 (kt:KT):Al Γ look h d (.makeMap kt)=some (.mref (.slot d 0) (nv (h (.slot d 0))),[(.slot d 0,nv (h (.slot d 0)),.map kt [] [])]):=rfl
theorem T5 (x:VArg) (i:Nat):Al Γ look h d (.extract x i)=ob (look x) fun v=>match v with
  | .tup vs=>ob vs[i]? fun v=>some (v,[])
  | _=>none:=rfl
theorem Uf (isMax:Bool) (xs:List VArg):Al Γ look h d (.minmax isMax xs)=ob (Ae look xs) fun vs=>ob (HN isMax vs) fun r=>some (r,[]):=rfl
theorem TN (x:VArg):Al Γ look h d (.strBytes x)=ob (look x) fun v=>match v with
  | .p (.str s)=>some (.p (.slice 1 (s.data.toList.map fun b=>.int .u8 b.toNat)),[])
  | _=>none:=rfl
theorem TP (x:VArg):Al Γ look h d (.nilCheck x)=ob (look x) fun v=>match v with
  | .ptr id ver off=>some (.ptr id ver off,[])
  | .vptr cs off=>some (.vptr cs off,[])
  | .eptr id ver i off=>some (.eptr id ver i off,[])
  | .fn f caps=>some (.fn f caps,[])
  | _=>none:=rfl
theorem TQ (f:FuncId) (caps:List VArg):Al Γ look h d (.makeFunc f caps)=ob (Ae look caps) fun cs=>some (.fn f cs,[]):=rfl
theorem Is (f:FuncId) (args:List VArg):Al Γ look h d (.call f args)=ob (Ae look args) fun vs=>CJ Γ h d f vs:=rfl
theorem Ga (x:VArg) (args:List VArg):Al Γ look h d (.callv x args)=ob (look x) fun g=>ob (Ae look args) fun vs=>match g with
  | .fn f caps=>CJ Γ h d f (vs++caps)
  | .p (.fn f)=>CJ Γ h d f vs
  | .p (.clo f cs)=>CJ Γ h d f (vs++Eg cs)
  | _=>none:=rfl
theorem TO (sz i k:Nat) (a:VArg):Al Γ look h d (.storeNil sz i k a)=ob (look a) fun p=>match h (.slot i k) with
  | some (v,.arr sz' [])=>gd (sz'=sz) <| ob (DU h 1 p (.own (.slot i k) v 0 0)) fun us=>some (.undef,us)
  | _=>none:=rfl
theorem Ik (f:FuncId) (args:List VArg):Al Γ look h d (.callA f args)=ob (Ae look args) fun vs=>ob (Br Γ h d f vs) fun q=>gd (Cz h (oldU d q.2)=true) (some (q.1,EU d q.2)):=rfl
theorem Ij (f:FuncId) (args:List VArg):Al Γ look h d (.callR f args)=ob (Ae look args) fun vs=>ob (Br Γ h d f vs) fun q=>gd (Cz h q.2=true) (some (q.1,[])):=rfl
theorem Ii (f:FuncId) (args:List VArg):Al Γ look h d (.callW f args)=ob (Ae look args) fun vs=>Br Γ h d f vs:=rfl
theorem F7 (x:VArg) (args:List VArg):Al Γ look h d (.callvW x args)=ob (look x) fun g=>ob (Ae look args) fun vs=>match g with
  | .fn f caps=>Br Γ h d f (vs++caps)
  | .p (.fn f)=>Br Γ h d f vs
  | .p (.clo f cs)=>Br Γ h d f (vs++Eg cs)
  | _=>none:=rfl
theorem UV (sz:Nat) (zero:PV) (a:VArg):Al Γ look h d (.clear sz zero a)=ob (look a) fun a=>GI h sz zero a:=rfl
theorem TT (sz:Nat) (parts:List VArg):Al Γ look h d (.buildArr sz parts)=ob (Ae (fun x=>ob (look x) fun v=>BA v) parts) fun xs=>gd (xs.all (fun x=>decide (x.cells.length=sz))=true) (some (.agg ((xs.flatMap PV.cells).map .p),[])):=rfl
theorem TS (n sz:Nat) (agg:Option Nat) (x i:VArg):Al Γ look h d (.indexArr n sz agg x i)=ob (look x) fun v=>ob (look i) fun i=>match v,i with
  | .agg cs,.p (.int _ k)=>gd (0<=k) <| gd (k<n) <| ob (CT agg cs (k.toNat*sz)) fun r=>some (r,[])
  | _,_=>none:=rfl
end
attribute [go_sem] UV GI IM
attribute [go_sem] TO Ik EU oldU Ij VU Kg Ii F7 Br C6 Dl Ds Ct rootsW GM Jg FE Co Bt DB BH Cb inC DC CA Lt callRoots
attribute [go_sem] TT TS Vx Ue Vw UX Wz UW S5 Ty GZ T6 Vy UP Tx UT Tw TR WA UU Wx Wy Uh Ui Tz UR Ug Tv T4 T5 Uf TN TP TQ Is Ga
attribute [go_sem] Ai Au zaF EK EI ZL zbr Hd N9 OO OA QI P9 Hr Hk FF Gv Hn Hs IN I1 Hm HQ Fn Ca Vv VX Ip ZV ZW ZX Yb Yc zbb zbc zbd ZP ZQ X2 KI za0
attribute [go_sem] CM FV Fr CT AF BA unP Ae A0 D1 FW AE DU DM setCells HT Ea zcell zcells BR JN JW MG Ji JT eq0 Dq mm2 mmL HN Ev Cw Ed Ee Gk H3 Ce DV Dr GW DE Ff Jo E9 nv PV.cells
attribute [go_sem] BT GS At ER Ar GN Bx ET DY Ei E4 capIds1 capIds0 EJ C7 Cr CX LE Di AR AW EP Bf Eg
theorem Pe (rets:List VRet) (n:Nat) (s:St):JJ rets n (.ret,s)=ob (Ae (ER s) rets) fun vs=>ob (Cr s.h n vs) fun v=>ob (Bf s.h 0 n) fun H'=>some (v,H'):=rfl
theorem Nh (rets:List VRet) (n:Nat) (s:St):JJ rets n (.normal,s)=ob (Ae (ER s) rets) fun vs=>ob (Cr s.h n vs) fun v=>ob (Bf s.h 0 n) fun H'=>some (v,H'):=rfl
attribute [go_sem] Pe Nh
attribute [go_sem] oT oV oZ oM oN oL oF oK rg cI cF cT oJ oP oA oQ oC oE oS oI oO oB oR oY oX oU bT bI nT lT kT cC cW ldV fT tT fM tM fL tL fF tF sT vO vB cZ zZ zN aT rs cE cS sq mF
attribute [go_sem] if_true if_false List.getD_cons_zero List.getD_cons_succ List.getD_nil llc lln Id.slot.injEq Id.arg.injEq false_and and_false and_true true_and and_self or_true true_or or_false false_or Nat.add_zero Nat.zero_add List.getElem?_cons_zero List.getElem?_cons_succ List.getElem?_nil llm List.getElem?_map Option.map_some Option.map_none Int.toNat_natCast decide_true decide_false decide_eq_true_eq Bool.not_true bnf beq_self_eq_true List.all_cons List.all_nil bau bta List.drop_zero List.drop_succ_cons List.take_succ_cons List.take_zero List.drop_nil List.take_nil lna lan lca lpc lpn lfc List.flatMap_nil List.contains_nil List.isEmpty_nil List.isEmpty_cons List.filterMap_cons List.filterMap_nil lla llt lrf Nat.zero_le Nat.min_self eq_self HW Int.natCast_nonneg Int.ofNat_lt Int.ofNat_le CJ C8 roots B5 GX JH FK BZ Bg CU BD BJ DZ GP I8 Dx Cd Jc Fo PV.flat PV.flat0 C5 D0 CB CZ in1 in0 inL inT Ej List.any_cons List.any_nil Bool.or_false Bool.false_or Bool.or_true Bool.true_or bft beq_iff_eq
attribute [go_sem] FO
theorem Ak {b:St->Option (VExit × St)} {Q:VExit × St->Prop} (n:Nat) (J:Nat->St->Prop) {s:St} (h0:J 0 s)
  (hstep:∀ i s,i<=n->J i s->wp (b s) fun r=>match r.1 with
   | .normal=>i<n/\J (i+1) r.2
   | _=>Q r):wp (iter b s) Q:=by
 have key:∀ k i s,i+k=n->J i s->∃ m r,A4 b m s=some r/\Q r:=by
  intro k
  induction k with
  | zero =>
   intro i s hk hJ
   obtain ⟨⟨e,s'⟩,hb,hq⟩:=hstep i s (by omega) hJ
   cases e with
   | normal=>have:=hq.1;omega
   | exit id=>exact ⟨1,(.exit id,s'),by simp [A4,hb,ob],hq⟩
   | ret=>exact ⟨1,(.ret,s'),by simp [A4,hb,ob],hq⟩
  | succ k ih =>
   intro i s hk hJ
   obtain ⟨⟨e,s'⟩,hb,hq⟩:=hstep i s (by omega) hJ
   cases e with
   | normal =>
    obtain ⟨m,r,hm,hr⟩:=ih (i+1) s' (by omega) hq.2
    exact ⟨m+1,r,by simp [A4,hb,ob,hm],hr⟩
   | exit id=>exact ⟨1,(.exit id,s'),by simp [A4,hb,ob],hq⟩
   | ret=>exact ⟨1,(.ret,s'),by simp [A4,hb,ob],hq⟩
 obtain ⟨m,r,hm,hr⟩:=key n 0 s (by omega) h0
 exact ⟨r,Ja hm,hr⟩
theorem ZN {σ:Type} {b:St->Option (VExit × St)} {Q:VExit × St->Prop} (J:σ->St->Prop) (μ:σ->Nat) (x:σ) {s:St} (h0:J x s)
  (hstep:∀ x s,J x s->wp (b s) fun r=>match r.1 with
   | .normal=>∃ y,μ y<μ x/\J y r.2
   | _=>Q r):wp (iter b s) Q:=by
 have key:∀ k x s,μ x=k->J x s->∃ m r,A4 b m s=some r/\Q r:=by
  intro k
  induction k using Nat.strongRecOn with
  | _ k ih =>
   intro x s hk hJ
   obtain ⟨⟨e,s'⟩,hb,hq⟩:=hstep x s hJ
   cases e with
   | normal =>
    obtain ⟨y,hy,hJ'⟩:=hq
    obtain ⟨m,r,hm,hr⟩:=ih (μ y) (by omega) y s' rfl hJ'
    exact ⟨m+1,r,by simp [A4,hb,ob,hm],hr⟩
   | exit id=>exact ⟨1,(.exit id,s'),by simp [A4,hb,ob],hq⟩
   | ret=>exact ⟨1,(.ret,s'),by simp [A4,hb,ob],hq⟩
 obtain ⟨m,r,hm,hr⟩:=key _ x s rfl h0
 exact ⟨r,Ja hm,hr⟩
theorem AS {α:Type} {b:Bool} {x y:Option α} {Q:α->Prop} {u:Tok x} {v:Tok y} {t:Tok Q} (h1:b=true->wp x Q) (h2:b=false->wp y Q):wp (br b x y u v) Q t:=Q1 h1 h2
theorem AI {α:Type} {b:Bool} {x y:Option α} {Q:α->Prop} {u:Tok x} {v:Tok y} {t:Tok Q} (h1:b=false->wp x Q) (h2:b=true->wp y Q):wp (br (b == false) x y u v) Q t:=by
 cases b
 .exact h1 rfl
 .exact h2 rfl
theorem AH {α:Type} {b:Bool} {x y:Option α} {Q:α->Prop} {u:Tok x} {v:Tok y} {t:Tok Q} (h1:b=true->wp x Q) (h2:b=false->wp y Q):wp (br (b == true) x y u v) Q t:=by
 cases b
 .exact h2 rfl
 .exact h1 rfl
theorem AJ {α:Type} {b:Bool} {x y:Option α} {Q:α->Prop} {u:Tok x} {v:Tok y} {t:Tok Q} (h1:b=false->wp x Q) (h2:b=true->wp y Q):wp (br (!b) x y u v) Q t:=by
 cases b
 .exact h1 rfl
 .exact h2 rfl
theorem zbj:(true == true)=true:=rfl
theorem zbk:(true == false)=false:=rfl
theorem zbl:(false == true)=false:=rfl
theorem zbm:(false == false)=true:=rfl
attribute [go_sem] zbj zbk zbl zbm
section
variable {α:Type} {p:Prop} [Decidable p] {x y:Option α} {Q:α->Prop} {u:Tok x} {v:Tok y} {t:Tok Q}
theorem Af (h1:p->wp x Q) (h2:¬ p->wp y Q):wp (br (decide p) x y u v) Q t:=Q1 (fun h=>h1 (of_decide_eq_true h)) (fun h=>h2 (of_decide_eq_false h))
theorem AO (h1:¬ p->wp x Q) (h2:p->wp y Q):wp (br (!decide p) x y u v) Q t:=AJ (fun h=>h1 (of_decide_eq_false h)) (fun h=>h2 (of_decide_eq_true h))
theorem AQ (h1:¬ p->wp x Q) (h2:p->wp y Q):wp (br (decide p == false) x y u v) Q t:=AI (fun h=>h1 (of_decide_eq_false h)) (fun h=>h2 (of_decide_eq_true h))
theorem AP (h1:p->wp x Q) (h2:¬ p->wp y Q):wp (br (decide p == true) x y u v) Q t:=AH (fun h=>h1 (of_decide_eq_true h)) (fun h=>h2 (of_decide_eq_false h))
theorem AN (h1:p->wp x Q) (h2:¬ p->wp y Q):wp (br ((!decide p) == false) x y u v) Q t:=AI (fun h=>h1 (by simpa using h)) (fun h=>h2 (by simpa using h))
theorem AM (h1:¬ p->wp x Q) (h2:p->wp y Q):wp (br ((!decide p) == true) x y u v) Q t:=AH (fun h=>h1 (by simpa using h)) (fun h=>h2 (by simpa using h))
end
theorem zaB (a b:Int):(a == b)=decide (a=b):=rfl
theorem zaA (a b:Int):(a != b)=!decide (a=b):=rfl
attribute [go_sem] zaB zaA
theorem Zk (Γ:Sig) (ops:List VOper) (f:Nat) (fz:List Nat) (s:St):B8 Γ ⟨ops,f::fz,[]⟩ s=ob (C9 Γ ops { pe:=fun t=>fz1 (f::fz) s.h (s.pe t),te:=fun _=>none,h:=BO (f::fz) s.h }) fun q=>some { pe:=q.pe,h:=q.h }:=by
 simp [B8,Dm]
theorem Zl (Γ:Sig) (ops:List VOper) (p:Nat × Nat) (fp:List (Nat × Nat)) (s:St):B8 Γ ⟨ops,[],p::fp⟩ s=ob (Cl Γ (p::fp) 0 ops { pe:=s.pe,te:=fun _=>none,h:=s.h } []) fun q=>some { pe:=q.pe,h:=q.h }:=by
 simp [B8,Dm]
theorem Ww (Γ:Sig) (ops:List VOper) (f:Nat) (fz:List Nat) (p:Nat × Nat) (fp:List (Nat × Nat)) (s:St):B8 Γ ⟨ops,f::fz,p::fp⟩ s=ob (Cl Γ (p::fp) 0 ops { pe:=fun t=>fz1 (f::fz) s.h (s.pe t),te:=fun _=>none,h:=BO (f::fz) s.h } []) fun q=>some { pe:=q.pe,h:=q.h }:=by
 simp [B8,Dm]
theorem Uk (a b c d:Nat) (l:List (Nat × Nat)):((a,b)::l).contains (c,d)=((decide (c=a) && decide (d=b)) || l.contains (c,d)):=by
 rw [Bool.eq_iff_iff]
 simp
theorem VC (a c:Id) (l:List Id):(a::l).contains c=(decide (c=a) || l.contains c):=by
 rw [Bool.eq_iff_iff]
 simp
theorem UY (a c:Nat) (l:List Nat):(a::l).contains c=(decide (c=a) || l.contains c):=by
 rw [Bool.eq_iff_iff]
 simp
theorem QE (a b:Nat):(a == b)=decide (a=b):=by rw [Bool.eq_iff_iff];simp
theorem zam (a b:Nat):(a != b)=!decide (a=b):=by simp [bne,QE]
theorem GV (s:ByteArray) (i:Nat):s[i]?=s.data.toList[i]?:=by
 by_cases h:i<s.size
 ·rw [getElem?_pos s i h,lgg (by simpa using h)]
  simp [ByteArray.getElem_eq_getElem_data]
 .rw [getElem?_neg s i h,List.getElem?_eq_none (by simpa using h)]
attribute [go_sem] Zk Zl Ww Uk VC UY QE zam BO Ey fpL fpR Fc Cl FM EL VOp.wrFp headFp Bc touchF Bq VOp.args VOp.writes VOp.isR ids0 ids1 Id.at VDst.slot Option.toList Bool.and_false bfa Bool.or_self bas
theorem zbw (fz:List Nat) (h:VHeap) (d:PV):fz0 fz h (.p d)=.p d:=rfl
theorem zbv (fz:List Nat) (h:VHeap) (d:PV):fz1 fz h (.p d)=.p d:=rfl
theorem zaL (fz:List Nat) (h:VHeap) (id:Id) (ver off:Nat):fz0 fz h (.ptr id ver off)=.ptr id ver off:=rfl
theorem zaI (fz:List Nat) (h:VHeap) (id:Id) (ver off:Nat):fz1 fz h (.ptr id ver off)=.ptr id ver off:=rfl
theorem Zb (fz:List Nat) (h:VHeap) (cs:List PV) (off:Nat):fz0 fz h (.vptr cs off)=.vptr cs off:=rfl
theorem Xx (fz:List Nat) (h:VHeap) (ps:List VVal):fz0 fz h (.plist ps)=.plist ps:=rfl
theorem Xu (fz:List Nat) (h:VHeap) (ps:List VVal):fz1 fz h (.plist ps)=.plist ps:=rfl
theorem Xv (fz:List Nat) (h:VHeap) (p:VVal):fz1 fz h (.pcell p)=.pcell p:=rfl
attribute [go_sem] Xx Xu Xv
theorem Y8 (fz:List Nat) (h:VHeap) (cs:List PV) (off:Nat):fz1 fz h (.vptr cs off)=.vptr cs off:=rfl
theorem Zd (fz:List Nat) (h:VHeap) (id:Id) (ver i off:Nat):fz0 fz h (.eptr id ver i off)=.eptr id ver i off:=rfl
theorem Za (fz:List Nat) (h:VHeap) (id:Id) (ver i off:Nat):fz1 fz h (.eptr id ver i off)=.eptr id ver i off:=rfl
theorem Zc (fz:List Nat) (h:VHeap) (id:Id) (ver:Nat):fz0 fz h (.mref id ver)=.mref id ver:=rfl
theorem Y9 (fz:List Nat) (h:VHeap) (id:Id) (ver:Nat):fz1 fz h (.mref id ver)=.mref id ver:=rfl
theorem zbh (fz:List Nat) (h:VHeap) (f:FuncId) (caps:List VVal):fz0 fz h (.fn f caps)=.fn f caps:=rfl
theorem zbg (fz:List Nat) (h:VHeap) (f:FuncId) (caps:List VVal):fz1 fz h (.fn f caps)=.fn f caps:=rfl
theorem Xw (fz:List Nat) (h:VHeap)  : fz0 fz h (.undef)=.undef:=rfl
theorem Xt (fz:List Nat) (h:VHeap)  : fz1 fz h (.undef)=.undef:=rfl
theorem zaN (fz:List Nat) (h:VHeap) (cs:List VVal):fz0 fz h (.agg cs)=.agg cs:=rfl
theorem zaK (fz:List Nat) (h:VHeap) (cs:List VVal):fz1 fz h (.agg cs)=.agg (cs.map (fz0 fz h)):=rfl
theorem zaG (fz:List Nat) (h:VHeap) (cs:List VVal):fz1 fz h (.tup cs)=.tup (cs.map (fz0 fz h)):=rfl
theorem zaM (fz:List Nat) (h:VHeap) (id:Id) (ver off len:Nat):fz0 fz h (.own id ver off len)=if Ey fz id=true then (match A0 h (.own id ver off len) with
  | some r=>.p (.slice r.1 r.2)
  | none=>.dead) else .own id ver off len:=rfl
theorem zaJ (fz:List Nat) (h:VHeap) (id:Id) (ver off len:Nat):fz1 fz h (.own id ver off len)=if Ey fz id=true then (match A0 h (.own id ver off len) with
  | some r=>.p (.slice r.1 r.2)
  | none=>.dead) else .own id ver off len:=rfl
attribute [go_sem] zbw zbv zaL zaI Zb Y8 Zd Za Zc Y9 zbh zbg Xw Xt zaN zaK zaG zaM zaJ
section
variable (a b:Id) (va n:Nat)
theorem zbt (d:PV):mv1 a b va n (.p d)=.p d:=rfl
theorem zaq (id:Id) (ver off:Nat):mv1 a b va n (.ptr id ver off)=.ptr id ver off:=rfl
theorem Xj (ps:List VVal):mv1 a b va n (.plist ps)=.plist ps:=rfl
theorem Xk (p:VVal):mv1 a b va n (.pcell p)=.pcell p:=rfl
attribute [go_sem] Xj Xk
theorem YR (cs:List PV) (off:Nat):mv1 a b va n (.vptr cs off)=.vptr cs off:=rfl
theorem YS (id:Id) (ver:Nat):mv1 a b va n (.mref id ver)=.mref id ver:=rfl
theorem za8 (f:FuncId) (caps:List VVal):mv1 a b va n (.fn f caps)=.fn f caps:=rfl
theorem Xi:mv1 a b va n .undef=.undef:=rfl
theorem zas (cs:List VVal):mv1 a b va n (.agg cs)=.agg (cs.map (mv0 a b va n)):=rfl
theorem zao (cs:List VVal):mv1 a b va n (.tup cs)=.tup (cs.map (mv0 a b va n)):=rfl
theorem zar (id:Id) (ver off len:Nat):mv1 a b va n (.own id ver off len)=if id=a/\ver=va then .own b n off len else .own id ver off len:=rfl
theorem YT (id:Id) (ver i off:Nat):mv1 a b va n (.eptr id ver i off)=if id=a/\ver=va then .eptr b n i off else .eptr id ver i off:=rfl
theorem zbu (d:PV):mv0 a b va n (.p d)=.p d:=rfl
theorem zat (id:Id) (ver off:Nat):mv0 a b va n (.ptr id ver off)=.ptr id ver off:=rfl
theorem YU (id:Id) (ver:Nat):mv0 a b va n (.mref id ver)=.mref id ver:=rfl
theorem za9 (f:FuncId) (caps:List VVal):mv0 a b va n (.fn f caps)=.fn f caps:=rfl
theorem zau (id:Id) (ver off len:Nat):mv0 a b va n (.own id ver off len)=if id=a/\ver=va then .own b n off len else .own id ver off len:=rfl
end
attribute [go_sem] zbt zaq YR YS za8 Xi zas zao zar YT zbu zat YU za9 zau
theorem cl0 {P : Prop} (h : P := by first | with_reducible rfl | (simp -implicitDefEqProofs (disch := omega) only [*, List.map_append, go_sem] <;> exact cl1) | exact cl2) : P := h
attribute [go_sem ↓] reduceIte
attribute [go_sem] rA rS rE rL reduceCtorEq
theorem lpI (F:Nat->St->Prop):∃ I:Nat->St->Prop,∀ k s,I k s ↔ F k s:=⟨F,fun _ _=>Iff.rfl⟩
theorem cl3 {P : Prop} (h : P := by first | rfl | omega | (simp; done) | (simp; omega)) : P := h
theorem ai {a b:Prop} (hb:b) (ha:a:=by omega):a/\b:=⟨ha,hb⟩
def Le (Γ Γ':Sig):Prop:=∀ f args H r,Γ f args H=some r->Γ' f args H=some r
theorem Ax {α β:Type} {x:Option α} {f:α->Option β} {u:Tok f} {b:β} (h:ob x f u=some b):∃ a,x=some a/\f a=some b:=by
 cases x with
 | none=>cases h
 | some a=>exact ⟨a,rfl,h⟩
structure Chain (N:Nat->Sig) (Γ:Sig):Prop where
 mono:∀ n m,n<=m->Le (N n) (N m)
 lim:∀ f args H r,Γ f args H=some r->∃ n,N n f args H=some r
theorem ID {Γ Γ':Sig} (hl:Le Γ Γ') {h:VHeap} {d:Nat} {f:FuncId} {args:List VVal} {R:List Id} {q:VVal × List (Id × Nat × Ob)} (he:C8 Γ h d f args R=some q):C8 Γ' h d f args R=some q:=by
 unfold C8 at he ⊢
 obtain ⟨a',h1,he⟩:=Ax he
 obtain ⟨H,h2,he⟩:=Ax he
 obtain ⟨r,h3,he⟩:=Ax he
 rw [h1,Ai,h2,Ai,hl _ _ _ _ h3,Ai]
 exact he
theorem Im {N:Nat->Sig} {Γ:Sig} (hc:Chain N Γ) {h:VHeap} {d:Nat} {f:FuncId} {args:List VVal} {R:List Id} {q:VVal × List (Id × Nat × Ob)} (he:C8 Γ h d f args R=some q):∃ n,C8 (N n) h d f args R=some q:=by
 unfold C8 at he
 obtain ⟨a',h1,he⟩:=Ax he
 obtain ⟨H,h2,he⟩:=Ax he
 obtain ⟨r,h3,he⟩:=Ax he
 obtain ⟨n,hn⟩:=hc.lim _ _ _ _ h3
 refine ⟨n,?_⟩
 unfold C8
 rw [h1,Ai,h2,Ai,hn,Ai]
 exact he
theorem Gj {Γ Γ':Sig} (hl:Le Γ Γ') {h:VHeap} {d:Nat} {f:FuncId} {args:List VVal} {R:List Id} {q:VVal × List (Id × Nat × Ob)} (he:C6 Γ h d f args R=some q):C6 Γ' h d f args R=some q:=by
 unfold C6 at he ⊢
 obtain ⟨a',h1,he⟩:=Ax he
 obtain ⟨H,h2,he⟩:=Ax he
 obtain ⟨r,h3,he⟩:=Ax he
 rw [h1,Ai,h2,Ai,hl _ _ _ _ h3,Ai]
 exact he
theorem F9 {N:Nat->Sig} {Γ:Sig} (hc:Chain N Γ) {h:VHeap} {d:Nat} {f:FuncId} {args:List VVal} {R:List Id} {q:VVal × List (Id × Nat × Ob)} (he:C6 Γ h d f args R=some q):∃ n,C6 (N n) h d f args R=some q:=by
 unfold C6 at he
 obtain ⟨a',h1,he⟩:=Ax he
 obtain ⟨H,h2,he⟩:=Ax he
 obtain ⟨r,h3,he⟩:=Ax he
 obtain ⟨n,hn⟩:=hc.lim _ _ _ _ h3
 refine ⟨n,?_⟩
 unfold C6
 rw [h1,Ai,h2,Ai,hn,Ai]
 exact he
def VOp.isCall:VOp->Bool
 | .call _ _|.callv _ _|.callW _ _|.callvW _ _|.callR _ _|.callA _ _=>true
 | _=>false
theorem M1 {Γ Γ':Sig} {look:VArg->Option VVal} {h:VHeap} {d:Nat} {op:VOp} (ho:op.isCall=false):Al Γ look h d op=Al Γ' look h d op:=by
 cases op<;>first|rfl|(simp [VOp.isCall] at ho)
theorem Pv {Γ Γ':Sig} (hl:Le Γ Γ') {look:VArg->Option VVal} {h:VHeap} {d:Nat} {op:VOp} {q:VVal × List (Id × Nat × Ob)} (he:Al Γ look h d op=some q):Al Γ' look h d op=some q:=by
 by_cases ho:op.isCall=false
 ·rw [<- M1 (Γ:=Γ) ho];exact he
 cases op<;>first|(simp [VOp.isCall] at ho;done)|skip
 ·rw [Is] at he ⊢
  obtain ⟨vs,h1,he⟩:=Ax he
  rw [h1,Ai]
  exact ID hl he
 ·rw [Ga] at he ⊢
  obtain ⟨g,h0,he⟩:=Ax he
  obtain ⟨vs,h1,he⟩:=Ax he
  rw [h0,Ai,h1,Ai]
  split at he
  .exact ID hl he
  .exact ID hl he
  .exact ID hl he
  .cases he
 ·rw [Ii] at he ⊢
  obtain ⟨vs,h1,he⟩:=Ax he
  rw [h1,Ai]
  exact Gj hl he
 ·rw [F7] at he ⊢
  obtain ⟨g,h0,he⟩:=Ax he
  obtain ⟨vs,h1,he⟩:=Ax he
  rw [h0,Ai,h1,Ai]
  split at he
  .exact Gj hl he
  .exact Gj hl he
  .exact Gj hl he
  .cases he
 ·rw [Ij] at he ⊢
  obtain ⟨vs,h1,he⟩:=Ax he
  obtain ⟨q1,h2,he⟩:=Ax he
  rw [h1,Ai,Br,Gj hl h2,Ai]
  exact he
 ·rw [Ik] at he ⊢
  obtain ⟨vs,h1,he⟩:=Ax he
  obtain ⟨q1,h2,he⟩:=Ax he
  rw [h1,Ai,Br,Gj hl h2,Ai]
  exact he
theorem NR {N:Nat->Sig} {Γ:Sig} (hc:Chain N Γ) {look:VArg->Option VVal} {h:VHeap} {d:Nat} {op:VOp} {q:VVal × List (Id × Nat × Ob)} (he:Al Γ look h d op=some q):∃ n,Al (N n) look h d op=some q:=by
 by_cases ho:op.isCall=false
 ·exact ⟨0,by rw [<- M1 (Γ:=Γ) ho];exact he⟩
 cases op<;>first|(simp [VOp.isCall] at ho;done)|skip
 ·rw [Is] at he
  obtain ⟨vs,h1,he⟩:=Ax he
  obtain ⟨n,hn⟩:=Im hc he
  refine ⟨n,?_⟩
  rw [Is,h1,Ai]
  exact hn
 ·rw [Ga] at he
  obtain ⟨g,h0,he⟩:=Ax he
  obtain ⟨vs,h1,he⟩:=Ax he
  split at he
  ·obtain ⟨n,hn⟩:=Im hc he
   refine ⟨n,?_⟩
   rw [Ga,h0,Ai,h1,Ai]
   exact hn
  ·obtain ⟨n,hn⟩:=Im hc he
   refine ⟨n,?_⟩
   rw [Ga,h0,Ai,h1,Ai]
   exact hn
  ·obtain ⟨n,hn⟩:=Im hc he
   refine ⟨n,?_⟩
   rw [Ga,h0,Ai,h1,Ai]
   exact hn
  ·cases he
 ·rw [Ii] at he
  obtain ⟨vs,h1,he⟩:=Ax he
  obtain ⟨n,hn⟩:=F9 hc he
  refine ⟨n,?_⟩
  rw [Ii,h1,Ai]
  exact hn
 ·rw [F7] at he
  obtain ⟨g,h0,he⟩:=Ax he
  obtain ⟨vs,h1,he⟩:=Ax he
  split at he
  ·obtain ⟨n,hn⟩:=F9 hc he
   refine ⟨n,?_⟩
   rw [F7,h0,Ai,h1,Ai]
   exact hn
  ·obtain ⟨n,hn⟩:=F9 hc he
   refine ⟨n,?_⟩
   rw [F7,h0,Ai,h1,Ai]
   exact hn
  ·obtain ⟨n,hn⟩:=F9 hc he
   refine ⟨n,?_⟩
   rw [F7,h0,Ai,h1,Ai]
   exact hn
  .cases he
 ·rw [Ij] at he
  obtain ⟨vs,h1,he⟩:=Ax he
  obtain ⟨q1,h2,he⟩:=Ax he
  obtain ⟨n,hn⟩:=F9 hc h2
  refine ⟨n,?_⟩
  rw [Ij,h1,Ai,Br,hn,Ai]
  exact he
 ·rw [Ik] at he
  obtain ⟨vs,h1,he⟩:=Ax he
  obtain ⟨q1,h2,he⟩:=Ax he
  obtain ⟨n,hn⟩:=F9 hc h2
  refine ⟨n,?_⟩
  rw [Ik,h1,Ai,Br,hn,Ai]
  exact he
theorem Gy {Γ Γ':Sig} (hl:Le Γ Γ') {o:VOper} {r r':RS} (h:BS Γ o r=some r'):BS Γ' o r=some r':=by
 unfold BS at h ⊢
 split
 ·rename_i hg
  rw [hg] at h
  obtain ⟨q,hq,h⟩:=Ax h
  rw [Pv hl hq,Ai]
  exact h
 ·rename_i g want hg
  rw [hg] at h
  obtain ⟨gv,hgv,h⟩:=Ax h
  rw [hgv,Ai]
  split at h
  ·unfold br at h ⊢
   split
   ·rename_i hb
    rw [if_pos hb] at h
    obtain ⟨q,hq,h⟩:=Ax h
    rw [Pv hl hq,Ai]
    exact h
   ·rename_i hb
    rw [if_neg hb] at h
    exact h
  .exact h
  .cases h
theorem Kr {N:Nat->Sig} {Γ:Sig} (hc:Chain N Γ) {o:VOper} {r r':RS} (h:BS Γ o r=some r'):∃ n,BS (N n) o r=some r':=by
 unfold BS at h
 split at h
 ·rename_i hg
  obtain ⟨q,hq,h⟩:=Ax h
  obtain ⟨n,hn⟩:=NR hc hq
  refine ⟨n,?_⟩
  unfold BS
  rw [hg]
  simp only [hn,Ai]
  exact h
 ·rename_i g want hg
  obtain ⟨gv,hgv,h⟩:=Ax h
  split at h
  ·unfold br at h
   split at h
   ·rename_i hb
    obtain ⟨q,hq,h⟩:=Ax h
    obtain ⟨n,hn⟩:=NR hc hq
    refine ⟨n,?_⟩
    unfold BS
    rw [hg]
    simp only [hgv,Ai]
    rw [hb,EK,hn,Ai]
    exact h
   ·rename_i b hb
    refine ⟨0,?_⟩
    unfold BS
    rw [hg]
    simp only [hgv,Ai]
    have:(b == want)=false:=by simpa using hb
    rw [this,EI]
    exact h
  ·refine ⟨0,?_⟩
   unfold BS
   rw [hg]
   simp only [hgv,Ai]
   exact h
  .cases h
theorem KM {Γ Γ':Sig} (hl:Le Γ Γ'):∀ {os:List VOper} {r r':RS},C9 Γ os r=some r'->C9 Γ' os r=some r'
 | [],_,_,h=>h
 | o::os,r,r',h=>by
  rw [Ip] at h ⊢
  obtain ⟨r1,h1,h⟩:=Ax h
  rw [Gy hl h1,Ai]
  exact KM hl h
theorem NH {N:Nat->Sig} {Γ:Sig} (hc:Chain N Γ):∀ {os:List VOper} {r r':RS},C9 Γ os r=some r'->∃ n,C9 (N n) os r=some r'
 | [],_,_,h=>⟨0,h⟩
 | o::os,r,r',h=>by
  rw [Ip] at h
  obtain ⟨r1,h1,h⟩:=Ax h
  obtain ⟨n,hn⟩:=Kr hc h1
  obtain ⟨m,hm⟩:=NH hc h
  refine ⟨max n m,?_⟩
  rw [Ip,Gy (hc.mono n _ (Nat.le_max_left ..)) hn,Ai]
  exact KM (hc.mono m _ (Nat.le_max_right ..)) hm
theorem JL {α:Type} {c:Prop} [Decidable c] {x:Option α} {u:Tok x} {b:α} (h:gd c x u=some b):c/\x=some b:=by
 unfold gd at h
 split at h
 .exact ⟨by assumption,h⟩
 .cases h
theorem Hw {Γ Γ':Sig} (hl:Le Γ Γ') {fp:List (Nat × Nat)}:∀ {os:List VOper} {i:Nat} {r r':RS} {acc:List (Nat × VOper × List Id)},Cl Γ fp i os r acc=some r'->Cl Γ' fp i os r acc=some r'
 | [],_,_,_,_,h=>h
 | o::os,i,r,r',acc,h=>by
  simp only [Cl] at h ⊢
  split
  ·rename_i hf
   rw [if_pos hf] at h
   obtain ⟨hch,h⟩:=JL h
   obtain ⟨r1,h1,h⟩:=Ax h
   rw [HW _ _ hch,Gy hl h1,Ai]
   exact Hw hl h
  ·rename_i hf
   rw [if_neg hf] at h
   obtain ⟨r1,h1,h⟩:=Ax h
   rw [Gy hl h1,Ai]
   exact Hw hl h
theorem Ks {N:Nat->Sig} {Γ:Sig} (hc:Chain N Γ) {fp:List (Nat × Nat)}:∀ {os:List VOper} {i:Nat} {r r':RS} {acc:List (Nat × VOper × List Id)},Cl Γ fp i os r acc=some r'->∃ n,Cl (N n) fp i os r acc=some r'
 | [],_,_,_,_,h=>⟨0,h⟩
 | o::os,i,r,r',acc,h=>by
  simp only [Cl] at h
  split at h
  ·rename_i hf
   obtain ⟨hch,h⟩:=JL h
   obtain ⟨r1,h1,h⟩:=Ax h
   obtain ⟨n,hn⟩:=Kr hc h1
   obtain ⟨m,hm⟩:=Ks hc h
   refine ⟨max n m,?_⟩
   simp only [Cl]
   rw [if_pos hf,HW _ _ hch,Gy (hc.mono n _ (Nat.le_max_left ..)) hn,Ai]
   exact Hw (hc.mono m _ (Nat.le_max_right ..)) hm
  ·rename_i hf
   obtain ⟨r1,h1,h⟩:=Ax h
   obtain ⟨n,hn⟩:=Kr hc h1
   obtain ⟨m,hm⟩:=Ks hc h
   refine ⟨max n m,?_⟩
   simp only [Cl]
   rw [if_neg hf,Gy (hc.mono n _ (Nat.le_max_left ..)) hn,Ai]
   exact Hw (hc.mono m _ (Nat.le_max_right ..)) hm
theorem Zj {Γ Γ':Sig} (hl:Le Γ Γ') {vr:VRegion} {s s':St} (h:B8 Γ vr s=some s'):B8 Γ' vr s=some s':=by
 unfold B8 at h ⊢
 obtain ⟨q,hq,h⟩:=Ax h
 split at hq
 ·rename_i hf
  rw [if_pos hf,KM hl hq,Ai]
  exact h
 ·rename_i hf
  rw [if_neg hf,Hw hl hq,Ai]
  exact h
theorem Wv {N:Nat->Sig} {Γ:Sig} (hc:Chain N Γ) {vr:VRegion} {s s':St} (h:B8 Γ vr s=some s'):∃ n,B8 (N n) vr s=some s':=by
 unfold B8 at h
 obtain ⟨q,hq,h⟩:=Ax h
 split at hq
 ·rename_i hf
  obtain ⟨n,hn⟩:=NH hc hq
  refine ⟨n,?_⟩
  unfold B8
  rw [if_pos hf,hn,Ai]
  exact h
 ·rename_i hf
  obtain ⟨n,hn⟩:=Ks hc hq
  refine ⟨n,?_⟩
  unfold B8
  rw [if_neg hf,hn,Ai]
  exact h
theorem QH {b:St->Option (VExit × St)} {s:St} {r:VExit × St} (h:iter b s=some r):∃ n,A4 b n s=some r:=by
 unfold iter at h
 split at h
 ·rename_i hex
  have:=Classical.choose_spec (Classical.choose_spec hex)
  simp only [osi] at h
  rw [h] at this
  exact ⟨_,this⟩
 .cases h
theorem Li {b b':St->Option (VExit × St)} (hb:∀ s r,b s=some r->b' s=some r):∀ {k:Nat} {s:St} {r:VExit × St},A4 b k s=some r->A4 b' k s=some r
 | 0,_,_,h=>h
 | k+1,s,r,h=>by
  simp only [A4] at h ⊢
  obtain ⟨r1,h1,h⟩:=Ax h
  rw [hb _ _ h1,Ai]
  obtain ⟨e1,s1⟩:=r1
  cases e1 with
  | normal=>exact Li hb h
  | exit id=>exact h
  | ret=>exact h
theorem Dh {Γ Γ':Sig} (hl:Le Γ Γ'):∀ (c:VCode) (s:St) (r:VExit × St),Az Γ c s=some r->Az Γ' c s=some r
 | .skip,s,r,h=>by rw [Hr] at h ⊢;exact h
 | .region vr,s,r,h=>by
  rw [Hk] at h ⊢
  obtain ⟨s1,h1,h⟩:=Ax h
  rw [Zj hl h1,Ai]
  exact h
 | .seq x y,s,r,h=>by
  rw [FF] at h ⊢
  obtain ⟨⟨e1,s1⟩,h1,h⟩:=Ax h
  rw [Dh hl x _ _ h1,Ai]
  cases e1 with
  | normal=>rw [Hd] at h ⊢;exact Dh hl y _ _ h
  | exit id=>exact h
  | ret=>exact h
 | .cond t x y,s,r,h=>by
  cases t with
  | v t =>
   rw [Gv] at h ⊢
   split at h
   ·rename_i b hb
    cases b with
    | true=>rw [EK] at h ⊢;exact Dh hl x _ _ h
    | false=>rw [EI] at h ⊢;exact Dh hl y _ _ h
   .cases h
  | t t=>simp [Az] at h
  | c d=>simp [Az] at h
 | .block id x,s,r,h=>by
  rw [Hn] at h ⊢
  obtain ⟨r1,h1,h⟩:=Ax h
  rw [Dh hl x _ _ h1,Ai]
  exact h
 | .loop x,s,r,h=>by
  rw [Hs] at h ⊢
  obtain ⟨k,hk⟩:=QH h
  exact Ja (Li (fun s r=>Dh hl x s r) hk)
 | .exit id,s,r,h=>by rw [IN] at h ⊢;exact h
 | .ret,s,r,h=>by rw [I1] at h ⊢;exact h
 | .mv a b x,s,r,h=>by rw [HQ] at h ⊢;exact Dh hl x _ _ h
 | .scope x,s,r,h=>by rw [Hm] at h ⊢;exact Dh hl x _ _ h
 | .fail,s,r,h=>by rw [IM] at h;cases h
theorem EF {N:Nat->Sig} {Γ:Sig} (hc:Chain N Γ):∀ (c:VCode) (s:St) (r:VExit × St),Az Γ c s=some r->∃ n,Az (N n) c s=some r
 | .skip,s,r,h=>⟨0,by rw [Hr] at h ⊢;exact h⟩
 | .region vr,s,r,h=>by
  rw [Hk] at h
  obtain ⟨s1,h1,h⟩:=Ax h
  obtain ⟨n,hn⟩:=Wv hc h1
  refine ⟨n,?_⟩
  rw [Hk,hn,Ai]
  exact h
 | .seq x y,s,r,h=>by
  rw [FF] at h
  obtain ⟨⟨e1,s1⟩,h1,h⟩:=Ax h
  obtain ⟨n,hn⟩:=EF hc x _ _ h1
  cases e1 with
  | normal =>
   rw [Hd] at h
   obtain ⟨m,hm⟩:=EF hc y _ _ h
   refine ⟨max n m,?_⟩
   rw [FF,Dh (hc.mono n _ (Nat.le_max_left ..)) x _ _ hn,Ai,Hd]
   exact Dh (hc.mono m _ (Nat.le_max_right ..)) y _ _ hm
  | exit id=>exact ⟨n,by rw [FF,hn,Ai];exact h⟩
  | ret=>exact ⟨n,by rw [FF,hn,Ai];exact h⟩
 | .cond t x y,s,r,h=>by
  cases t with
  | v t =>
   rw [Gv] at h
   split at h
   ·rename_i b hb
    cases b with
    | true =>
     rw [EK] at h
     obtain ⟨n,hn⟩:=EF hc x _ _ h
     exact ⟨n,by rw [Gv,hb];simp only [EK];exact hn⟩
    | false =>
     rw [EI] at h
     obtain ⟨n,hn⟩:=EF hc y _ _ h
     exact ⟨n,by rw [Gv,hb];simp only [EI];exact hn⟩
   ·cases h
  | t t=>simp [Az] at h
  | c d=>simp [Az] at h
 | .block id x,s,r,h=>by
  rw [Hn] at h
  obtain ⟨r1,h1,h⟩:=Ax h
  obtain ⟨n,hn⟩:=EF hc x _ _ h1
  exact ⟨n,by rw [Hn,hn,Ai];exact h⟩
 | .loop x,s,r,h=>by
  rw [Hs] at h
  obtain ⟨k,hk⟩:=QH h
  have key:∀ (k:Nat) (s:St),A4 (Az Γ x) k s=some r->∃ n,A4 (Az (N n) x) k s=some r:=by
   intro k
   induction k with
   | zero=>intro s h;simp [A4] at h
   | succ k ih =>
    intro s h
    simp only [A4] at h
    obtain ⟨⟨e1,s1⟩,h1,h⟩:=Ax h
    obtain ⟨n,hn⟩:=EF hc x _ _ h1
    cases e1 with
    | normal =>
     obtain ⟨m,hm⟩:=ih s1 h
     refine ⟨max n m,?_⟩
     simp only [A4]
     rw [Dh (hc.mono n _ (Nat.le_max_left ..)) x _ _ hn,Ai]
     exact Li (fun s r=>Dh (hc.mono m _ (Nat.le_max_right ..)) x s r) hm
    | exit id=>exact ⟨n,by simp only [A4];rw [hn,Ai];exact h⟩
    | ret=>exact ⟨n,by simp only [A4];rw [hn,Ai];exact h⟩
  obtain ⟨n,hn⟩:=key k s hk
  exact ⟨n,by rw [Hs];exact Ja hn⟩
 | .exit id,s,r,h=>⟨0,by rw [IN] at h ⊢;exact h⟩
 | .ret,s,r,h=>⟨0,by rw [I1] at h ⊢;exact h⟩
 | .mv a b x,s,r,h=>by
  rw [HQ] at h
  obtain ⟨n,hn⟩:=EF hc x _ _ h
  exact ⟨n,by rw [HQ];exact hn⟩
 | .scope x,s,r,h=>by
  rw [Hm] at h
  obtain ⟨n,hn⟩:=EF hc x _ _ h
  exact ⟨n,by rw [Hm];exact hn⟩
 | .fail,s,r,h=>by rw [IM] at h;cases h
theorem ZB {Γ Γ':Sig} (hl:Le Γ Γ') {vf:VFunc} {args:List VVal} {H:List Ob} {r:VVal × List Ob} (h:BT Γ vf args H=some r):BT Γ' vf args H=some r:=by
 unfold BT at h ⊢
 obtain ⟨hn,h⟩:=JL h
 obtain ⟨r1,h1,h⟩:=Ax h
 rw [HW _ _ hn,Dh hl _ _ _ h1,Ai]
 exact h
theorem WD {N:Nat->Sig} {Γ:Sig} (hc:Chain N Γ) {vf:VFunc} {args:List VVal} {H:List Ob} {r:VVal × List Ob} (h:BT Γ vf args H=some r):∃ n,BT (N n) vf args H=some r:=by
 unfold BT at h
 obtain ⟨hn,h⟩:=JL h
 obtain ⟨r1,h1,h⟩:=Ax h
 obtain ⟨n,h2⟩:=EF hc _ _ _ h1
 refine ⟨n,?_⟩
 unfold BT
 rw [HW _ _ hn,h2,Ai]
 exact h
section
variable {prog:FuncId->Option VFunc} {X:Sig}
theorem Qk:∀ n,Le (CL prog X n) (CL prog X (n+1))
 | 0=>fun f args H r h=>by
  simp only [CL] at h ⊢
  rw [h]
 | n+1=>fun f args H r h=>by
  have h':(match X f args H with
   | some r=>some r
   | none=>match prog f with
    | some vf=>BT (CL prog X n) vf args H
    | none=>none)=some r:=h
  show (match X f args H with
   | some r=>some r
   | none=>match prog f with
    | some vf=>BT (CL prog X (n+1)) vf args H
    | none=>none)=some r
  cases hx:X f args H with
  | some r' =>
   rw [hx] at h'
   exact h'
  | none =>
   rw [hx] at h'
   cases hp:prog f with
   | none=>rw [hp] at h';cases h'
   | some vf =>
    rw [hp] at h'
    exact ZB (Qk n) h'
theorem KD (n m:Nat) (h:n<=m):Le (CL prog X n) (CL prog X m):=by
 induction m with
 | zero =>
  have:n=0:=by omega
  subst this
  exact fun _ _ _ _ h=>h
 | succ m ih =>
  rcases Nat.lt_or_ge m n with h1|h1
  ·have:n=m+1:=by omega
   subst this
   exact fun _ _ _ _ h=>h
  .exact fun f args H r hr=>Qk m f args H r (ih h1 f args H r hr)
theorem PE {n:Nat} {f:FuncId} {args:List VVal} {H:List Ob} {r:VVal × List Ob} (h:CL prog X n f args H=some r):Ek prog X f args H=some r:=by
 unfold Ek
 have hex:∃ n r,CL prog X n f args H=some r:=⟨n,r,h⟩
 rw [dif_pos hex]
 have h1:=Classical.choose_spec (Classical.choose_spec hex)
 have h2:=KD _ (max n (Classical.choose hex)) (Nat.le_max_right ..) _ _ _ _ h1
 have h3:=KD _ (max n (Classical.choose hex)) (Nat.le_max_left ..) _ _ _ _ h
 rw [h3] at h2
 exact h2.symm
theorem U3:Chain (CL prog X) (Ek prog X) where
 mono:=KD
 lim:=fun f args H r h=>by
  unfold Ek at h
  split at h
  ·rename_i hex
   have:=Classical.choose_spec (Classical.choose_spec hex)
   simp only [osi] at h
   rw [h] at this
   exact ⟨_,this⟩
  .cases h
theorem WO {f:FuncId} {vf:VFunc} (hx:∀ args H,X f args H=none) (hf:prog f=some vf) {args:List VVal} {H:List Ob} {r:VVal × List Ob} (h:BT (Ek prog X) vf args H=some r):Ek prog X f args H=some r:=by
 obtain ⟨n,hn⟩:=WD U3 h
 refine PE (n:=n+1) ?_
 simp only [CL,hx,hf]
 exact hn
end
def unI:PV->Option Int
 | .int .i64 n=>some n
 | _=>none
theorem za1 {x:PV} {n:Int} (h:unI x=some n):x=.int .i64 n:=by
 unfold unI at h
 split at h
 .simp at h;rw [h]
 .cases h
noncomputable def XI (args:List VVal) (H:List Ob):Option (VVal × List Ob):=match args,H with
 | [.own (.arg 0 0) 0 0 n],[.arr 1 xs]=>gd (n=xs.length) <| gd (n<4611686018427387904) <| ob (Ae unI xs) fun zs=>some (.tup [],[.arr 1 ((zs.mergeSort fun x y=>decide (x<=y)).map (.int .i64))])
 | _,_=>none
def B6 (sz bytes:Nat) (args:List VVal) (H:List Ob):Option (VVal × List Ob):=match args,H with
 | [.p (.slice k xs)],[]=>gd (k=sz) <| gd (xs.length*bytes<=140737488355328) <| gd (xs.length<=9223372036854775807) <| some (.fresh sz xs,[])
 | _,_=>none
def Fu (sz:Nat) (args:List VVal) (H:List Ob):Option (VVal × List Ob):=match args,H with
 | [.own (.arg 0 0) 0 0 n,.p (.int .i64 i),.p (.int .i64 j)],[.arr k xs]=>gd (k=sz) <| gd (n=xs.length) <| gd (n<=9223372036854775807) <| gd (0<=i) <| gd (i<=j) <| gd (j<=(n:Int)) <|
   some (.own (.arg 0 0) 1 0 (n - (j.toNat - i.toNat)),[.box [.undef,.fresh sz (xs.take i.toNat++xs.drop j.toNat)]])
 | _,_=>none
def JX (sz bytes:Nat) (args:List VVal) (H:List Ob):Option (VVal × List Ob):=match args,H with
 | [.own (.arg 0 0) 0 0 n,.p (.int .i64 i),.own (.arg 1 0) 0 0 1],[.arr k xs,.arr k' [x]]=>gd (k=sz) <| gd (k'=sz) <| gd (n=xs.length) <| gd ((n+1)*bytes<=140737488355328) <| gd (0<=i) <| gd (i<=(n:Int)) <|
   some (.own (.arg 0 0) 1 0 (n+1),[.box [.undef,.fresh sz (xs.take i.toNat++x::xs.drop i.toNat)],.arr sz [x]])
 | _,_=>none
noncomputable def XS:Sig:=fun f args H=>if f=120 then XI args H else if f=103 then B6 2 16 args H else if f=104 then B6 21 168 args H else if f=105 then B6 3 24 args H else if f=106 then B6 2 16 args H else if f=107 then B6 6 48 args H else if f=108 then B6 7 56 args H else if f=128 then Fu 6 args H else if f=116 then Fu 7 args H else if f=129 then JX 7 56 args H else none
noncomputable abbrev V:Sig:=Ek prog XS
set_option maxRecDepth 8000
theorem zaX {f:FuncId} {vf:VFunc} (hf:prog f=some vf) (args:List VVal) (H:List Ob):XS f args H=none:=by
 unfold XS
 have h0:¬ f=120:=fun e=>by
  subst e
  exact nomatch (show (none:Option VFunc)=some vf from hf)
 have h1:¬ f=103:=fun e=>by
  subst e
  exact nomatch (show (none:Option VFunc)=some vf from hf)
 have h2:¬ f=104:=fun e=>by
  subst e
  exact nomatch (show (none:Option VFunc)=some vf from hf)
 have h3:¬ f=105:=fun e=>by
  subst e
  exact nomatch (show (none:Option VFunc)=some vf from hf)
 have h4:¬ f=106:=fun e=>by
  subst e
  exact nomatch (show (none:Option VFunc)=some vf from hf)
 have h5:¬ f=107:=fun e=>by
  subst e
  exact nomatch (show (none:Option VFunc)=some vf from hf)
 have h6:¬ f=108:=fun e=>by
  subst e
  exact nomatch (show (none:Option VFunc)=some vf from hf)
 have h7:¬ f=128:=fun e=>by
  subst e
  exact nomatch (show (none:Option VFunc)=some vf from hf)
 have h8:¬ f=116:=fun e=>by
  subst e
  exact nomatch (show (none:Option VFunc)=some vf from hf)
 have h9:¬ f=129:=fun e=>by
  subst e
  exact nomatch (show (none:Option VFunc)=some vf from hf)
 rw [if_neg h0,if_neg h1,if_neg h2,if_neg h3,if_neg h4,if_neg h5,if_neg h6,if_neg h7,if_neg h8,if_neg h9]
theorem G5 {f:FuncId} {vf:VFunc} (hf:prog f=some vf) {args:List VVal} {H:List Ob} {r:VVal × List Ob} (h:BT V vf args H=some r):V f args H=some r:=WO (zaX hf) hf h
theorem Ad {f:FuncId} {vf:VFunc} (hf:prog f=some vf) {args:List VVal} {H:List Ob} {r:VVal × List Ob} (h:wp (BT V vf args H) (·=r)):V f args H=some r:=G5 hf (Zm h)
theorem V_x {f:FuncId} {args:List VVal} {H:List Ob} {r:VVal × List Ob} (h:XS f args H=some r):V f args H=some r:=PE (n:=0) h
theorem Zr {xs:List PV} (hn:xs.length<1000000):V 103 [.p (.slice 2 xs)] []=some (.fresh 2 xs,[]):=V_x (by
 have e0:(103:Nat) ≠ 120:=by decide
 simp only [XS,if_neg e0,if_true,B6,gd,true_and]
 rw [if_pos (by omega),if_pos (by omega)])
theorem Zu {xs:List PV} (hn:xs.length<1000000):V 104 [.p (.slice 21 xs)] []=some (.fresh 21 xs,[]):=V_x (by
 have e0:(104:Nat) ≠ 120:=by decide
 have e1:(104:Nat) ≠ 103:=by decide
 simp only [XS,if_neg e0,if_neg e1,if_true,B6,gd,true_and]
 rw [if_pos (by omega),if_pos (by omega)])
theorem Zt {xs:List PV} (hn:xs.length<1000000):V 105 [.p (.slice 3 xs)] []=some (.fresh 3 xs,[]):=V_x (by
 have e0:(105:Nat) ≠ 120:=by decide
 have e1:(105:Nat) ≠ 103:=by decide
 have e2:(105:Nat) ≠ 104:=by decide
 simp only [XS,if_neg e0,if_neg e1,if_neg e2,if_true,B6,gd,true_and]
 rw [if_pos (by omega),if_pos (by omega)])
theorem Zv {xs:List PV} (hn:xs.length<1000000):V 106 [.p (.slice 2 xs)] []=some (.fresh 2 xs,[]):=V_x (by
 have e0:(106:Nat) ≠ 120:=by decide
 have e1:(106:Nat) ≠ 103:=by decide
 have e2:(106:Nat) ≠ 104:=by decide
 have e3:(106:Nat) ≠ 105:=by decide
 simp only [XS,if_neg e0,if_neg e1,if_neg e2,if_neg e3,if_true,B6,gd,true_and]
 rw [if_pos (by omega),if_pos (by omega)])
theorem Zs {xs:List PV} (hn:xs.length<1000000):V 107 [.p (.slice 6 xs)] []=some (.fresh 6 xs,[]):=V_x (by
 have e0:(107:Nat) ≠ 120:=by decide
 have e1:(107:Nat) ≠ 103:=by decide
 have e2:(107:Nat) ≠ 104:=by decide
 have e3:(107:Nat) ≠ 105:=by decide
 have e4:(107:Nat) ≠ 106:=by decide
 simp only [XS,if_neg e0,if_neg e1,if_neg e2,if_neg e3,if_neg e4,if_true,B6,gd,true_and]
 rw [if_pos (by omega),if_pos (by omega)])
theorem Qj {xs:List PV} (hn:xs.length<1000000):V 108 [.p (.slice 7 xs)] []=some (.fresh 7 xs,[]):=V_x (by
 have e0:(108:Nat) ≠ 120:=by decide
 have e1:(108:Nat) ≠ 103:=by decide
 have e2:(108:Nat) ≠ 104:=by decide
 have e3:(108:Nat) ≠ 105:=by decide
 have e4:(108:Nat) ≠ 106:=by decide
 have e5:(108:Nat) ≠ 107:=by decide
 simp only [XS,if_neg e0,if_neg e1,if_neg e2,if_neg e3,if_neg e4,if_neg e5,if_true,B6,gd,true_and]
 rw [if_pos (by omega),if_pos (by omega)])
theorem zbn {xs:List PV} {i j:Int} (hn:xs.length<1000000) (h0:0<=i) (h1:i<=j) (h2:j<=xs.length):V 128 [.own (.arg 0 0) 0 0 xs.length,.p (.int .i64 i),.p (.int .i64 j)] [.arr 6 xs]=some (.own (.arg 0 0) 1 0 (xs.length - (j.toNat - i.toNat)),[.box [.undef,.fresh 6 (xs.take i.toNat++xs.drop j.toNat)]]):=V_x (by
 have e0:(128:Nat) ≠ 120:=by decide
 have e1:(128:Nat) ≠ 103:=by decide
 have e2:(128:Nat) ≠ 104:=by decide
 have e3:(128:Nat) ≠ 105:=by decide
 have e4:(128:Nat) ≠ 106:=by decide
 have e5:(128:Nat) ≠ 107:=by decide
 have e6:(128:Nat) ≠ 108:=by decide
 simp only [XS,if_neg e0,if_neg e1,if_neg e2,if_neg e3,if_neg e4,if_neg e5,if_neg e6,if_true,Fu,gd,true_and]
 rw [if_pos (by omega),if_pos h0,if_pos h1,if_pos h2])
theorem zbo {xs:List PV} {i j:Int} (hn:xs.length<1000000) (h0:0<=i) (h1:i<=j) (h2:j<=xs.length):V 116 [.own (.arg 0 0) 0 0 xs.length,.p (.int .i64 i),.p (.int .i64 j)] [.arr 7 xs]=some (.own (.arg 0 0) 1 0 (xs.length - (j.toNat - i.toNat)),[.box [.undef,.fresh 7 (xs.take i.toNat++xs.drop j.toNat)]]):=V_x (by
 have e0:(116:Nat) ≠ 120:=by decide
 have e1:(116:Nat) ≠ 103:=by decide
 have e2:(116:Nat) ≠ 104:=by decide
 have e3:(116:Nat) ≠ 105:=by decide
 have e4:(116:Nat) ≠ 106:=by decide
 have e5:(116:Nat) ≠ 107:=by decide
 have e6:(116:Nat) ≠ 108:=by decide
 have e7:(116:Nat) ≠ 128:=by decide
 simp only [XS,if_neg e0,if_neg e1,if_neg e2,if_neg e3,if_neg e4,if_neg e5,if_neg e6,if_neg e7,if_true,Fu,gd,true_and]
 rw [if_pos (by omega),if_pos h0,if_pos h1,if_pos h2])
theorem zbf {xs:List PV} {x:PV} {i:Int} (hn:xs.length<1000000) (h0:0<=i) (h1:i<=xs.length):V 129 [.own (.arg 0 0) 0 0 xs.length,.p (.int .i64 i),.own (.arg 1 0) 0 0 1] [.arr 7 xs,.arr 7 [x]]=some (.own (.arg 0 0) 1 0 (xs.length+1),[.box [.undef,.fresh 7 (xs.take i.toNat++x::xs.drop i.toNat)],.arr 7 [x]]):=V_x (by
 have e0:(129:Nat) ≠ 120:=by decide
 have e1:(129:Nat) ≠ 103:=by decide
 have e2:(129:Nat) ≠ 104:=by decide
 have e3:(129:Nat) ≠ 105:=by decide
 have e4:(129:Nat) ≠ 106:=by decide
 have e5:(129:Nat) ≠ 107:=by decide
 have e6:(129:Nat) ≠ 108:=by decide
 have e7:(129:Nat) ≠ 128:=by decide
 have e8:(129:Nat) ≠ 116:=by decide
 simp only [XS,if_neg e0,if_neg e1,if_neg e2,if_neg e3,if_neg e4,if_neg e5,if_neg e6,if_neg e7,if_neg e8,if_true,JX,gd,true_and]
 rw [if_pos (by omega),if_pos h0,if_pos h1])
structure Nd where
 id:Int
 parent:Int
 name:ByteArray
 control:Int
 kind:Int
 owner:Int
 deriving DecidableEq
def Nd.pv (n:Nd):PV:=.agg [.int .i64 n.id,.int .i64 n.parent,.str n.name,.int .i64 n.control,.int .i64 n.kind,.int .i64 n.owner]
def Nd.vv (n:Nd):VVal:=.agg [.p (.int .i64 n.id),.p (.int .i64 n.parent),.p (.str n.name),.p (.int .i64 n.control),.p (.int .i64 n.kind),.p (.int .i64 n.owner)]
abbrev Ao (ns:List Nd):PV:=.slice 6 (ns.map Nd.pv)
structure Tr where
 nodes:List Nd
 next:Int
abbrev Tr.vv (t:Tr):VVal:=.agg [.p (Ao t.nodes),.p (.int .i64 t.next)]
abbrev Tr.fv (t:Tr):VVal:=.agg [.fresh 6 (t.nodes.map Nd.pv),.p (.int .i64 t.next)]
abbrev AT (xs:List Int):PV:=.slice 1 (xs.map (.int .i64))
attribute [go_sem] Nd.pv En
theorem Wg (ns:List Nd):(ns.map Nd.pv).all PV.flat=true:=by
 rw [List.all_eq_true]
 intro x hx
 obtain ⟨n,_,rfl⟩:=lmm.1 hx
 rfl
theorem Xo (k:IntKind) (xs:List Int):(xs.map (PV.int k)).all PV.flat=true:=by
 rw [List.all_eq_true]
 intro x hx
 obtain ⟨n,_,rfl⟩:=lmm.1 hx
 rfl
attribute [go_sem] Wg Xo
theorem Y1 (xs:List PV):V 10 [.p (.slice 1 xs)] []=some (.p (.bool (decide (xs.length<=600))),[]):=by
 refine G5 (vf:=vf10) rfl ?_
 simp -implicitDefEqProofs (disch:=omega) only [vf10,SV,go_sem]
 simp only [show (600:Int)=((600:Nat):Int) from rfl,Int.ofNat_le]
abbrev AK (L:List Int) (a:Nat):Ob:=.box [.p (AT L),.p (.int .i64 a)]
theorem Z7 (L:List Int):V 12 [.p (AT L)] []=some (.boxed [.p (AT L),.p (.int .i64 0)],[]):=by
 refine G5 (vf:=vf12) rfl ?_
 simp -implicitDefEqProofs (disch:=omega) only [vf12,ST,go_sem]
def AB (L:List Int) (a:Nat) (n:Int):Int:=if 1<=n then (L.getD a 0) % n else 0
def Ah (L:List Int) (a:Nat) (n:Int):Nat:=if a<L.length/\1<=n then a+1 else a
theorem Pw {x n:Int} (h:1<=n):x % n=if x.tmod n<0 then x.tmod n+n else x.tmod n:=by
 have h3:=Int.emod_nonneg x (show n ≠ 0 by omega)
 have h4:=Int.emod_lt_of_pos x (show 0<n by omega)
 have h5:=Int.tmod_eq_emod (a:=x) (b:=n)
 rw [h5]
 split<;>split<;>omega
theorem CK (L:List Int) (a:Nat) (n:Int) (hL:L.length<4611686018427387904) (hn:n<4611686018427387904):V 16 [.ptr (.arg 0 0) 0 0,.p (.int .i64 n)] [AK L a]=some (.p (.int .i64 (AB L a n)),[AK L (Ah L a n)]):=by
 refine Ad (vf:=vf16) rfl ?_
 by_cases ha:L.length<=a
 ·simp -implicitDefEqProofs (disch:=omega) only [vf16,Mw,ha,go_sem]
  simp [AB,Ah,List.getD_eq_getElem?_getD,List.getElem?_eq_none ha,Nat.not_lt.2 ha]
 ·have hx:L[a]?=some (L.getD a 0):=by
   rw [List.getD_eq_getElem?_getD,lgg (by omega)];rfl
  have ht:(((a:Int)+1 - 1).toNat)=a:=by omega
  simp -implicitDefEqProofs (disch:=omega) only [vf16,Mw,ha,go_sem]
  repeat' ((first|refine AN ?_ ?_|refine AM ?_ ?_|refine AQ ?_ ?_|refine AP ?_ ?_|refine AI ?_ ?_|refine AH ?_ ?_|refine AO ?_ ?_|refine AJ ?_ ?_|refine Af ?_ ?_|refine AS ?_ ?_)<;>intro hb<;>simp -implicitDefEqProofs (disch:=omega) only [hb,hx,ht,go_sem])
  ·simp [AB,Ah,show ¬ 1<=n by omega]
  ·have:=Pw (x:=L.getD a 0) (n:=n) (by omega)
   rw [if_pos (by assumption)] at this
   have h1:=Int.tmod_lt_of_pos (L.getD a 0) (show 0<n by omega)
   have h2:=Int.emod_nonneg (L.getD a 0) (show n ≠ 0 by omega)
   rw [FO (by omega) (by omega),<- this]
   simp only [AB,Ah,show 1<=n by omega,show a<L.length by omega,and_self,if_true,AK,Int.natCast_add,Int.natCast_one]
  ·have:=Pw (x:=L.getD a 0) (n:=n) (by omega)
   rw [if_neg (by assumption)] at this
   rw [<- this]
   simp only [AB,Ah,show 1<=n by omega,show a<L.length by omega,and_self,if_true,AK,Int.natCast_add,Int.natCast_one]
theorem Cf (L:List Int) (a:Nat) (n:Int):0<=AB L a n:=by
 unfold AB
 split
 .exact Int.emod_nonneg _ (by omega)
 .omega
theorem Cg (L:List Int) (a:Nat) {n:Int} (h:1<=n):AB L a n<n:=by
 unfold AB
 rw [if_pos h]
 exact Int.emod_lt_of_pos _ (by omega)
theorem Bi {α:Type} {l:List α} {k:Nat} {x:α} (h:l[k]?=some x):l.take (k+1)=l.take k++[x]:=by
 rw [List.take_add_one,h]
 rfl
theorem Ub {α β:Type} (f:α->β) (l:List α):List.take l.length (l.map f)=l.map f:=by
 rw [ltl (by simp)]
theorem Ua {α β:Type} (f:α->β) (l:List α) (x:β):List.take (l.length+1) (l.map f++[x])=l.map f++[x]:=by
 rw [ltl (by simp)]
attribute [go_sem] Ub Ua
def upR:List Nd->Int->List Int
 | [],_=>[]
 | n::ns,id=>if n.id=id then id::upR ns n.parent else upR ns id
def up (ns:List Nd) (id:Int):List Int:=upR ns.reverse id
theorem Kq:∀ (ns:List Nd) (id:Int),(upR ns id).length<=ns.length
 | [],_=>lrf _
 | n::ns,id=>by
  unfold upR
  split
  .have:=Kq ns n.parent;simp;omega
  .have:=Kq ns id;simp;omega
theorem RX (t:Tr) (id:Int) (hl:t.nodes.length<1000000):V 140 [t.vv,.p (.int .i64 id)] []=some (.fresh 1 ((up t.nodes id).map (.int .i64)),[]):=by
 refine Ad (vf:=vf140) rfl ?_
 simp -implicitDefEqProofs (disch:=omega) only [vf140,RK,go_sem]
 refine Ak t.nodes.length (fun k s=>∃ (acc:List Int) (cur:Int) (v:Nat),up t.nodes id=acc++upR (t.nodes.reverse.drop k) cur/\acc.length<=k/\s.pe 1=.p (.int .i64 cur)/\s.pe 2=.ptr (.slot 2 0) 0 0/\s.pe 5=.own (.slot 5 0) v 0 acc.length/\s.pe 6=.p (.int .i64 ((t.nodes.length:Int) - 1 - k))/\s.h (.slot 2 0)=some (0,.box [.p (Ao t.nodes),.p (.int .i64 t.next)])/\s.h (.slot 5 0)=some (v,.arr 1 (acc.map (.int .i64)))) ?_ ?_
 ·exact ⟨[],id,0,by simp [up,GS,D3,VHeap.upd,At,List.getD]⟩
 ·rintro k s hk ⟨acc,cur,v,hup,hlen,h1,h2,h5,h6,hh2,hh5⟩
  simp -implicitDefEqProofs (disch:=omega) only [h1,h2,h5,h6,hh2,hh5,go_sem]
  refine Af (fun hge=>?_) (fun hlt=>?_)
  ·have hk':k<t.nodes.length:=by omega
   have hn:t.nodes[((t.nodes.length:Int) - 1 - k).toNat]?=some t.nodes[t.nodes.length - 1 - k]:=by
    rw [show ((t.nodes.length:Int) - 1 - k).toNat=t.nodes.length - 1 - k by omega]
    exact lgg (by omega)
   have hd:t.nodes.reverse.drop k=t.nodes[t.nodes.length - 1 - k]::t.nodes.reverse.drop (k+1):=by
    rw [ldg (by simpa using hk')]
    simp
   generalize t.nodes[t.nodes.length - 1 - k]=n at hn hd
   rw [hd] at hup
   simp -implicitDefEqProofs (disch:=omega) only [h1,h2,h5,h6,hh2,hh5,hn,hge,go_sem]
   repeat' ((first|refine AN ?_ ?_|refine AM ?_ ?_|refine AQ ?_ ?_|refine AP ?_ ?_|refine AI ?_ ?_|refine AH ?_ ?_|refine AO ?_ ?_|refine AJ ?_ ?_|refine Af ?_ ?_|refine AS ?_ ?_)<;>intro hb<;>simp -implicitDefEqProofs (disch:=omega) only [hb,h1,h2,h5,h6,hh2,hh5,hn,hge,go_sem])
   ·rw [upR,if_pos (by assumption)] at hup
    refine ⟨hk',acc++[cur],n.parent,v+1,by rw [hup];simp,by simp;omega,rfl,by simp,by congr 2;omega,by simp⟩
   ·rw [upR,if_neg (by assumption)] at hup
    exact ⟨hk',acc,cur,v,hup,by omega,rfl,rfl,by congr 2;omega,rfl⟩
  ·have hd:t.nodes.reverse.drop k=[]:=ldl (by simp;omega)
   rw [hd,upR,lan] at hup
   simp -implicitDefEqProofs (disch:=omega) only [h1,h2,h5,h6,hh2,hh5,hup,go_sem]
def Dk (c:Int):Bool:=decide (97<=c/\c<=122) || decide (65<=c/\c<=90) || decide (48<=c/\c<=57) || decide (c=95) || decide (c=45)
def B4 (s:ByteArray):Bool:=decide (s.size ≠ 0) && decide (s.size<=32) && decide (s.data.toList[0]? ≠ some 45) && s.data.toList.all fun b=>Dk b.toNat
theorem Vr {c:Int} (h:(97<=c/\c<=122) \/ (65<=c/\c<=90) \/ (48<=c/\c<=57) \/ c=95 \/ c=45):Dk c=true:=by
 simp only [Dk,bot,decide_eq_true_eq]
 omega
theorem UG {c:Int} (h:¬ ((97<=c/\c<=122) \/ (65<=c/\c<=90) \/ (48<=c/\c<=57) \/ c=95 \/ c=45)):Dk c=false:=by
 rw [Bool.eq_false_iff]
 intro h1
 simp only [Dk,bot,decide_eq_true_eq] at h1
 omega
theorem P7 (c:Int):V 233 [.p (.int .u8 c)] []=some (.p (.bool (Dk c)),[]):=by
 refine Ad (vf:=vf233) rfl ?_
 simp -implicitDefEqProofs (disch:=omega) only [vf233,Rc,go_sem]
 repeat' ((first|refine AN ?_ ?_|refine AM ?_ ?_|refine AQ ?_ ?_|refine AP ?_ ?_|refine AI ?_ ?_|refine AH ?_ ?_|refine AO ?_ ?_|refine AJ ?_ ?_|refine Af ?_ ?_|refine AS ?_ ?_)<;>intro hb<;>simp -implicitDefEqProofs (disch:=omega) only [hb,go_sem])
 all_goals
  simp only [Dk,pmi,VVal.p.injEq,PV.bool.injEq,and_true]
  rw [Bool.eq_iff_iff]
  simp only [bot,decide_eq_true_eq,true_iff,bft,false_iff]
  first|omega|simp
theorem OR (s:ByteArray):s.size=s.data.toList.length:=rfl
theorem Qo {α:Type} {p:α->Bool} {l:List α} {k:Nat} (h:(l.take k).all p=true) {x:α} (hx:l[k]?=some x) (hp:p x=true):(l.take (k+1)).all p=true:=by
 rw [List.take_add_one,hx]
 simp only [List.all_append,h,Option.toList,List.all_cons,List.all_nil,hp,bas]
theorem all_not {α:Type} {p:α->Bool} {l:List α} {k:Nat} {x:α} (hx:l[k]?=some x) (hp:p x=false):l.all p=false:=by
 rw [List.all_eq_false]
 exact ⟨x,lmg hx,by simp [hp]⟩
theorem K6 (x:UInt8):((x.toNat:Int)=45)=(x=45):=by
 rw [eq_iff_iff]
 constructor
 ·intro h
  have:x.toNat=(45:UInt8).toNat:=by simp;omega
  exact UInt8.toNat_inj.1 this
 ·rintro rfl
  rfl
theorem OT (s:ByteArray):V 97 [.p (.str s)] []=some (.p (.bool (B4 s)),[]):=by
 refine Ad (vf:=vf97) rfl ?_
 have hs:=OR s
 by_cases h0:(s.size:Int)=0
 ·simp -implicitDefEqProofs (disch:=omega) only [vf97,JO,GV,h0,go_sem]
  simp [B4,show s.size=0 by omega]
 ·by_cases h1:32<(s.size:Int)
  ·simp -implicitDefEqProofs (disch:=omega) only [vf97,JO,GV,h0,h1,go_sem]
   simp [B4,show ¬ s.size<=32 by omega]
  ·have hx:s.data.toList[0]?=some s.data.toList[0]:=lgg (by omega)
   generalize s.data.toList[0]=x at hx
   have hz:(0:Int).toNat=0:=rfl
   simp -implicitDefEqProofs (disch:=omega) only [vf97,JO,GV,h0,h1,hx,hz,go_sem]
   by_cases h45:x=45
   ·have h45':((x.toNat:Nat):Int)=45:=by rw [K6];exact h45
    simp -implicitDefEqProofs (disch:=omega) only [h45',go_sem]
    simp [B4,hx,h45]
   ·have h45':¬ ((x.toNat:Nat):Int)=45:=by rw [K6];exact h45
    simp -implicitDefEqProofs (disch:=omega) only [h45',go_sem]
    refine Ak s.size (fun k t=>(s.data.toList.take k).all (fun b=>Dk b.toNat)=true/\t.pe 0=.p (.str s)/\t.pe 3=.p (.int .i64 k)) ?_ ?_
    ·simp [GS,D3]
    ·rintro k t hk ⟨hall,h2,h3⟩
     simp -implicitDefEqProofs (disch:=omega) only [h2,h3,go_sem]
     refine Af (fun hlt=>?_) (fun hge=>?_)
     ·have hy:s.data.toList[k]?=some s.data.toList[k]:=lgg (by omega)
      generalize s.data.toList[k]=y at hy
      simp -implicitDefEqProofs (disch:=omega) only [h2,h3,GV,hy,hlt,go_sem]
      repeat' ((first|refine AN ?_ ?_|refine AM ?_ ?_|refine AQ ?_ ?_|refine AP ?_ ?_|refine AI ?_ ?_|refine AH ?_ ?_|refine AO ?_ ?_|refine AJ ?_ ?_|refine Af ?_ ?_|refine AS ?_ ?_)<;>intro hb<;>simp -implicitDefEqProofs (disch:=omega) only [hb,GV,hy,h2,h3,go_sem])
      all_goals first
       | exact ⟨by omega,Qo hall hy (Vr (by omega)),by simp only [Int.natCast_add,Int.natCast_one]⟩
       | (have:=all_not (p:=fun b:UInt8=>Dk b.toNat) hy (UG (by omega));simp [B4,this])
     ·simp -implicitDefEqProofs (disch:=omega) only [h2,h3,hge,go_sem]
      have hall':s.data.toList.all (fun b=>Dk b.toNat)=true:=by rw [ltl (by omega)] at hall;exact hall
      simp only [B4,hall',hx,show s.size ≠ 0 by omega,show s.size<=32 by omega,ne_eq,not_false_eq_true,decide_true,bas,osi,h45]
theorem W8 (s:ByteArray) (hl:s.size<9223372036854775808):V 201 [.p (.str s)] []=some (.p (.bool (B4 s)),[]):=by
 refine Ad (vf:=vf201) rfl ?_
 have hs:=OR s
 simp -implicitDefEqProofs (disch:=omega) only [vf201,Rm,go_sem]
 refine Ak s.size (fun k t=>(s.data.toList.take k).all (fun b=>Dk b.toNat)=true/\t.pe 0=.p (.str s)/\t.pe 6=.p (.slice 1 (s.data.toList.map fun b=>.int .u8 b.toNat))/\t.pe 7=.p (.int .i64 s.size)/\t.pe 8=.p (.int .i64 k)) ?_ ?_
 ·exact ⟨by simp,rfl,rfl,rfl,rfl⟩
 ·rintro k t hk ⟨hall,h0,h6,h7,h8⟩
  simp -implicitDefEqProofs (disch:=omega) only [h0,h6,h7,h8,go_sem]
  refine Af (fun hlt=>?_) (fun hge=>?_)
  ·have hy:s.data.toList[k]?=some s.data.toList[k]:=lgg (by omega)
   generalize s.data.toList[k]=y at hy
   simp -implicitDefEqProofs (disch:=omega) only [h0,h6,h7,h8,hy,hlt,P7,go_sem]
   repeat' ((first|refine AN ?_ ?_|refine AM ?_ ?_|refine AQ ?_ ?_|refine AP ?_ ?_|refine AI ?_ ?_|refine AH ?_ ?_|refine AO ?_ ?_|refine AJ ?_ ?_|refine Af ?_ ?_|refine AS ?_ ?_)<;>intro hb<;>simp -implicitDefEqProofs (disch:=omega) only [hb,h0,h6,h7,h8,hy,P7,go_sem])
   ·have:=all_not (p:=fun b:UInt8=>Dk b.toNat) hy (by assumption)
    simp [B4,this]
   ·exact ⟨by omega,Qo hall hy (by assumption),by simp only [Int.natCast_add,Int.natCast_one]⟩
  ·simp -implicitDefEqProofs (disch:=omega) only [h0,h6,h7,h8,hge,go_sem]
   have hall':s.data.toList.all (fun b=>Dk b.toNat)=true:=by rw [ltl (by omega)] at hall;exact hall
   have hz:(0:Int).toNat=0:=rfl
   by_cases he:s=⟨#[]⟩
   ·subst he
    simp -implicitDefEqProofs (disch:=omega) only [h0,go_sem]
    rfl
   ·have hne:s.size ≠ 0:=fun h=>he (by
     cases s with
     | mk d =>
      congr 1
      exact Array.eq_empty_of_size_eq_zero h)
    simp -implicitDefEqProofs (disch:=omega) only [he,h0,go_sem]
    by_cases h1:(s.size:Int)<=32
    ·have hx:s.data.toList[0]?=some s.data.toList[0]:=lgg (by omega)
     generalize s.data.toList[0]=x at hx
     simp -implicitDefEqProofs (disch:=omega) only [h0,h1,hx,hz,GV,K6,go_sem]
     simp only [B4,hall',hx,hne,show s.size<=32 by omega,ne_eq,not_false_eq_true,decide_true,bta,bau,osi,decide_not]
    ·simp -implicitDefEqProofs (disch:=omega) only [h0,h1,go_sem]
     simp [B4,show ¬ s.size<=32 by omega]
def BQ (pre:List Nd) (n:Nd):Bool :=
  decide (n.kind=0 \/ n.kind=1) && decide (0<=n.control/\n.control<=31/\0<=n.owner/\n.owner<=1048576) &&
  (match pre.getLast? with
   | none=>decide (n.id=1/\n.parent=0/\n.name=⟨#[]⟩/\n.kind=0)
   | some l=>decide (l.id<n.id) && B4 n.name && !(pre.any fun x=>decide (x.parent=n.parent/\x.name=n.name)) && pre.any fun x=>decide (x.id=n.parent))
theorem FH {α:Type} {p:α->Bool} {l:List α} {k:Nat} {x:α} (hx:l[k]?=some x):(l.take (k+1)).any p=((l.take k).any p || p x):=by
 rw [List.take_add_one,hx]
 simp only [List.any_append,Option.toList,List.any_cons,List.any_nil,Bool.or_false]
theorem VH {α:Type} {p:α->Bool} {l:List α} {k i:Nat} (h:k<=i) (hp:(l.take k).any p=true):(l.take i).any p=true:=by
 rw [List.any_eq_true] at hp ⊢
 obtain ⟨x,hx,h1⟩:=hp
 exact ⟨x,(List.take_sublist_take_left h).subset hx,h1⟩
theorem zai (t : Tr) (i : Nat) (n : Nd) (hn : t.nodes[i]?=some n) (hl : t.nodes.length<1000000) : V 149 [t.vv,.p (.int .i64 i)] []=some (.p (.bool (BQ (t.nodes.take i) n)),[]):=by
  refine Ad (vf := vf149) rfl ?_
  have hlt : i < t.nodes.length:=(lgs.1 hn).1
  by_cases hi : (i : Int)=0
  · have hi' : i=0:=by omega
    have hz : (0 : Int).toNat=0:=rfl
    rw [hi'] at hn
    simp -implicitDefEqProofs (disch:=omega) only [vf149,L4,hi,hz,hn,go_sem]
    repeat' ((first|refine AN ?_ ?_|refine AM ?_ ?_|refine AQ ?_ ?_|refine AP ?_ ?_|refine AI ?_ ?_|refine AH ?_ ?_|refine AO ?_ ?_|refine AJ ?_ ?_|refine Af ?_ ?_|refine AS ?_ ?_)<;>intro hb<;>simp -implicitDefEqProofs (disch:=omega) only [hb,go_sem])
    all_goals
      simp only [BQ,hi',List.take_zero,List.getLast?_nil,pmi,VVal.p.injEq,PV.bool.injEq,and_true]
      rw [Bool.eq_iff_iff]
      simp only [bat,decide_eq_true_eq,true_iff,bft,false_iff]
      try simp only [*]
      first | omega | (simp;done) | (simp;omega)
  · obtain ⟨l, hlast⟩:∃ l, (t.nodes.take i).getLast?=some l:=by
      cases hq : (t.nodes.take i).getLast? with
      | none =>
        rw [List.getLast?_eq_none_iff] at hq
        have := congrArg List.length hq
        rw [List.length_take,lln] at this
        omega
      | some l => exact ⟨l,rfl⟩
    have hpre : t.nodes[((i : Int) - 1).toNat]?=some l:=by
      rw [List.getLast?_take,if_neg (by omega)] at hlast
      rw [show ((i:Int) - 1).toNat=i - 1 by omega]
      rw [List.getElem?_eq_getElem (by omega)] at hlast ⊢
      simpa using hlast
    simp -implicitDefEqProofs (disch:=omega) only [vf149,L4,hn,hi,go_sem]
    repeat' ((first|refine AN ?_ ?_|refine AM ?_ ?_|refine AQ ?_ ?_|refine AP ?_ ?_|refine AI ?_ ?_|refine AH ?_ ?_|refine AO ?_ ?_|refine AJ ?_ ?_|refine Af ?_ ?_|refine AS ?_ ?_)<;>intro hb<;>simp -implicitDefEqProofs (disch:=omega) only [hb,hn,hi,hpre,OT,go_sem])
    all_goals first
      | (simp only [BQ,hlast,pmi,VVal.p.injEq,PV.bool.injEq,and_true]
         rw [Bool.eq_iff_iff]
         simp only [bat,decide_eq_true_eq,bft,false_iff]
         try simp only [*]
         first | omega | (simp;done) | (simp;omega))
      | skip
    all_goals
      refine Ak i (fun k s=>(t.nodes.take k).any (fun x=>decide (x.parent=n.parent/\x.name=n.name))=false/\s.pe 1=.p (.int .i64 i)/\s.pe 2=.ptr (.slot 2 0) 0 0/\s.pe 5=.ptr (.slot 5 0) 0 0/\s.pe 6=.p (.bool ((t.nodes.take k).any fun x=>decide (x.id=n.parent)))/\s.pe 7=.p (.int .i64 k) /\
        s.h (.slot 2 0)=some (0,.box [.p (Ao t.nodes),.p (.int .i64 t.next)])/\s.h (.slot 5 0)=some (0,.box (n.pv.cells.map .p))) ?_ ?_
      · exact ⟨by simp,rfl,rfl,rfl,rfl,rfl,rfl,by simp -implicitDefEqProofs (disch:=omega) only [go_sem];simp only [*]⟩
      · rintro k s hk ⟨hno,h1,h2,h5,h6,h7,hh2,hh5⟩
        simp only [Nd.pv,PV.cells,lpc,lpn] at hh5
        simp -implicitDefEqProofs (disch:=omega) only [h1,h2,h5,h6,h7,hh2,hh5,go_sem]
        refine Af (fun hki=>?_) (fun hge=>?_)
        · have hm:t.nodes[k]?=some t.nodes[k]:=lgg (by omega)
          generalize t.nodes[k]=m at hm
          simp -implicitDefEqProofs (disch:=omega) only [h1,h2,h5,h6,h7,hh2,hh5,hm,hki,go_sem]
          repeat' ((first|refine AN ?_ ?_|refine AM ?_ ?_|refine AQ ?_ ?_|refine AP ?_ ?_|refine AI ?_ ?_|refine AH ?_ ?_|refine AO ?_ ?_|refine AJ ?_ ?_|refine Af ?_ ?_|refine AS ?_ ?_)<;>intro hb<;>simp -implicitDefEqProofs (disch:=omega) only [hb,h1,h2,h5,h6,h7,hh2,hh5,hm,hki,go_sem])
          all_goals first
            | (have ha:((t.nodes.take i).any fun x=>decide (x.parent=n.parent/\x.name=n.name))=true:=by
                refine VH (k:=k+1) (by omega) ?_
                rw [FH hm]
                simp [*]
               simp only [BQ,hlast,ha,Bool.not_true,Bool.and_false,bfa]
               done)
            | exact ⟨by rw [FH hm,hno];simp [*],by rw [FH hm];simp [*],by simp only [Int.natCast_add,Int.natCast_one]⟩
        · simp -implicitDefEqProofs (disch:=omega) only [h1,h2,h5,h6,h7,hh2,hh5,hge,go_sem]
          have hki:k=i:=by omega
          subst hki
          simp only [BQ,hlast,hno,pmi,VVal.p.injEq,PV.bool.injEq,and_true]
          rw [Bool.eq_iff_iff]
          simp only [bat,decide_eq_true_eq,bnf,and_true,true_and]
          exact ⟨fun h=>⟨⟨by omega,by omega,by omega,by omega,by omega⟩,⟨by omega,by assumption⟩,h⟩,fun h=>h.2.2⟩
def Bn:List Nd->List Nd->Bool
 | _,[]=>true
 | pre,n::ns=>BQ pre n && Bn (pre++[n]) ns
theorem EY:∀ (ns pre:List Nd),Bn pre ns=true ↔ ∀ (i:Nat) (n:Nd),ns[i]?=some n->BQ (pre++ns.take i) n=true
 | [],pre=>by simp [Bn]
 | n::ns,pre=>by
  simp only [Bn,bat]
  rw [EY ns (pre++[n])]
  constructor
  ·rintro ⟨h1,h2⟩ i m hm
   cases i with
   | zero=>simp at hm;subst hm;simpa using h1
   | succ i=>simpa using h2 i m (by simpa using hm)
  ·intro h
   exact ⟨by simpa using h 0 n rfl,fun i m hm=>by simpa using h (i+1) m (by simpa using hm)⟩
def AY (t:Tr):Bool :=
  decide (1<=t.nodes.length/\t.nodes.length<=64) && Bn [] t.nodes && t.nodes.all (fun n=>decide ((up t.nodes n.id).length<=9)) &&
  (match t.nodes.getLast? with
   | none=>false
   | some l=>decide (l.id<t.next/\t.next<=2147483648))
theorem E2 (t:Tr) (hl:t.nodes.length<1000000):V 82 [t.vv] []=some (.p (.bool (AY t)),[]):=by
 refine Ad (vf:=vf82) rfl ?_
 by_cases h1:(t.nodes.length:Int)<1
 ·simp -implicitDefEqProofs (disch:=omega) only [vf82,JP,h1,go_sem]
  simp [AY,show ¬ 1<=t.nodes.length by omega]
 ·by_cases h2:64<(t.nodes.length:Int)
  ·simp -implicitDefEqProofs (disch:=omega) only [vf82,JP,h1,h2,go_sem]
   simp [AY,show ¬ t.nodes.length<=64 by omega]
  ·simp -implicitDefEqProofs (disch:=omega) only [vf82,JP,h1,h2,go_sem]
   refine Ak t.nodes.length (fun k s=>(∀ (i:Nat) (n:Nd),i<k->t.nodes[i]?=some n->BQ (t.nodes.take i) n=true)/\s.pe 1=.ptr (.slot 1 0) 0 0/\s.pe 3=.p (.int .i64 t.nodes.length)/\s.pe 4=.p (.int .i64 k)/\s.h (.slot 1 0)=some (0,.box [.p (Ao t.nodes),.p (.int .i64 t.next)])) ?_ ?_
   ·exact ⟨by omega,rfl,rfl,rfl,rfl⟩
   ·rintro k s hk ⟨hall,h3,h4,h5,hh⟩
    simp -implicitDefEqProofs (disch:=omega) only [h3,h4,h5,hh,go_sem]
    refine Af (fun hlt=>?_) (fun hge=>?_)
    ·have hm:t.nodes[k]?=some t.nodes[k]:=lgg hlt
     generalize t.nodes[k]=m at hm
     have hc:=zai t k m hm hl
     simp -implicitDefEqProofs (disch:=omega) only [h3,h4,h5,hh,hm,hc,hlt,go_sem]
     repeat' ((first|refine AN ?_ ?_|refine AM ?_ ?_|refine AQ ?_ ?_|refine AP ?_ ?_|refine AI ?_ ?_|refine AH ?_ ?_|refine AO ?_ ?_|refine AJ ?_ ?_|refine Af ?_ ?_|refine AS ?_ ?_)<;>intro hb<;>simp -implicitDefEqProofs (disch:=omega) only [hb,h3,h4,h5,hh,hm,hc,go_sem])
     ·have hf:Bn [] t.nodes=false:=by
       rw [Bool.eq_false_iff]
       intro h0
       have:=(EY _ _).1 h0 k m hm
       simp_all
      simp [AY,hf]
     ·refine ⟨hlt,fun i n hi hn=>?_,by simp only [Int.natCast_add,Int.natCast_one]⟩
      rcases Nat.lt_or_ge i k with h0|h0
      ·exact hall i n h0 hn
      ·have:i=k:=by omega
       subst this
       rw [hm] at hn
       simp at hn
       subst hn
       assumption
    ·have hok:Bn [] t.nodes=true:=(EY _ _).2 fun i n hn=>by simpa using hall i n (by have:=(lgs.1 hn).1;omega) hn
     simp -implicitDefEqProofs (disch:=omega) only [h3,h4,h5,hh,hge,go_sem]
     refine Ak t.nodes.length (fun k s=>(∀ (i:Nat) (n:Nd),i<k->t.nodes[i]?=some n->(up t.nodes n.id).length<=9)/\s.pe 1=.ptr (.slot 1 0) 0 0/\s.pe 3=.p (.int .i64 t.nodes.length)/\s.pe 5=.p (.int .i64 k)/\s.h (.slot 1 0)=some (0,.box [.p (Ao t.nodes),.p (.int .i64 t.next)])) ?_ ?_
     ·simp -implicitDefEqProofs (disch:=omega) only [h3,h4,h5,hh,go_sem]
      simp
     ·rintro k s hk ⟨hall2,h3,h4,h5,hh⟩
      simp -implicitDefEqProofs (disch:=omega) only [h3,h4,h5,hh,go_sem]
      refine Af (fun hlt=>?_) (fun hge=>?_)
      ·have hm:t.nodes[k]?=some t.nodes[k]:=lgg hlt
       generalize t.nodes[k]=m at hm
       have hc:=RX t m.id hl
       simp -implicitDefEqProofs (disch:=omega) only [h3,h4,h5,hh,hm,hc,hlt,go_sem]
       repeat' ((first|refine AN ?_ ?_|refine AM ?_ ?_|refine AQ ?_ ?_|refine AP ?_ ?_|refine AI ?_ ?_|refine AH ?_ ?_|refine AO ?_ ?_|refine AJ ?_ ?_|refine Af ?_ ?_|refine AS ?_ ?_)<;>intro hb<;>simp -implicitDefEqProofs (disch:=omega) only [hb,h3,h4,h5,hh,hm,hc,go_sem])
       ·rename_i hb
        have hf:t.nodes.all (fun n=>decide ((up t.nodes n.id).length<=9))=false:=by
         rw [List.all_eq_false]
         exact ⟨m,lmg hm,by simp;omega⟩
        simp [AY,hf]
       ·rename_i hb
        refine ⟨hlt,fun i n hi hn=>?_,by simp only [Int.natCast_add,Int.natCast_one]⟩
        rcases Nat.lt_or_ge i k with h0|h0
        ·exact hall2 i n h0 hn
        ·have:i=k:=by omega
         subst this
         rw [hm] at hn
         simp at hn
         subst hn
         omega
      ·have hk2:t.nodes.all (fun n=>decide ((up t.nodes n.id).length<=9))=true:=by
        rw [List.all_eq_true]
        intro n hn
        obtain ⟨i,hi⟩:=lgm hn
        have:=hall2 i n (by have:=(lgs.1 hi).1;omega) hi
        simpa using this
       have hla:t.nodes[((t.nodes.length:Int) - 1).toNat]?=some t.nodes[t.nodes.length - 1]:=by
        rw [show ((t.nodes.length:Int) - 1).toNat=t.nodes.length - 1 by omega]
        exact lgg (by omega)
       have hlast:t.nodes.getLast?=some t.nodes[t.nodes.length - 1]:=by
        rw [List.getLast?_eq_getElem?]
        exact lgg (by omega)
       generalize t.nodes[t.nodes.length - 1]=l at hla hlast
       simp -implicitDefEqProofs (disch:=omega) only [h3,h4,h5,hh,hge,hla,go_sem]
       repeat' ((first|refine AN ?_ ?_|refine AM ?_ ?_|refine AQ ?_ ?_|refine AP ?_ ?_|refine AI ?_ ?_|refine AH ?_ ?_|refine AO ?_ ?_|refine AJ ?_ ?_|refine Af ?_ ?_|refine AS ?_ ?_)<;>intro hb<;>simp -implicitDefEqProofs (disch:=omega) only [hb,h3,h4,h5,hh,hla,go_sem])
       all_goals
        simp only [AY,hok,hk2,hlast,show (1<=t.nodes.length/\t.nodes.length<=64) by omega,pmi,VVal.p.injEq,PV.bool.injEq,and_true,decide_true,bta]
        rw [Bool.eq_iff_iff]
        simp only [decide_eq_true_eq,bft,false_iff]
        omega
def zeroNd:Nd:=⟨0,0,⟨#[]⟩,0,0,0⟩
def AU (ns:List Nd) (id:Int):Option Nd:=ns.find? fun n=>decide (n.id=id)
def A8 (t:Tr) (id:Int):Option Nd:=if AY t then AU t.nodes id else none
attribute [go_sem] Nd.vv
theorem J6 {p:Nd->Bool} {l:List Nd} {k:Nat} (h:∀ (i:Nat) (n:Nd),i<k->l[i]?=some n->p n=false) {m:Nd} (hm:l[k]?=some m) (hp:p m=true):l.find? p=some m:=by
 rw [List.find?_eq_some_iff_getElem]
 refine ⟨hp,k,(lgs.1 hm).1,(lgs.1 hm).2,fun j hj=>?_⟩
 have hl:j<l.length:=Nat.lt_trans hj (lgs.1 hm).1
 simpa using h j l[j] hj (lgg hl)
theorem XC {p:Nd->Bool} {l:List Nd} (h:∀ (i:Nat) (n:Nd),i<l.length->l[i]?=some n->p n=false):l.find? p=none:=by
 rw [List.find?_eq_none]
 intro x hx
 obtain ⟨i,hi⟩:=lgm hx
 simpa using h i x (lgs.1 hi).1 hi
theorem EW {Q:Nat->Nd->Prop} {l:List Nd} {k:Nat} {m:Nd} (hm:l[k]?=some m) (h:∀ (i:Nat) (n:Nd),i<k->l[i]?=some n->Q i n) (hk:Q k m):∀ (i:Nat) (n:Nd),i<k+1->l[i]?=some n->Q i n:=fun i n hi hn=>by
 rcases Nat.lt_or_ge i k with h0|h0
 ·exact h i n h0 hn
 ·have:i=k:=by omega
  subst this
  rw [hm] at hn
  simp at hn
  subst hn
  exact hk
theorem PM (t:Tr) (id:Int) (hl:t.nodes.length<1000000):V 150 [t.vv,.p (.int .i64 id)] []=some (.tup [((A8 t id).getD zeroNd).vv,.p (.bool (A8 t id).isSome)],[]):=by
 refine Ad (vf:=vf150) rfl ?_
 have hc:=E2 t hl
 cases hok:AY t with
 | false =>
  rw [hok] at hc
  simp -implicitDefEqProofs (disch:=omega) only [vf150,L3,hc,go_sem]
  simp [A8,hok,zeroNd]
 | true =>
  rw [hok] at hc
  simp -implicitDefEqProofs (disch:=omega) only [vf150,L3,hc,go_sem]
  refine Ak t.nodes.length (fun k s=>(∀ (i:Nat) (n:Nd),i<k->t.nodes[i]?=some n->decide (n.id=id)=false)/\s.pe 1=.p (.int .i64 id)/\s.pe 2=.ptr (.slot 2 0) 0 0/\s.pe 4=.ptr (.slot 4 0) 0 0/\s.pe 6=.p (.int .i64 k)/\s.h (.slot 2 0)=some (0,.box [.p (Ao t.nodes),.p (.int .i64 t.next)])/\s.h (.slot 4 0)=some (0,.box (zeroNd.pv.cells.map .p))) ?_ ?_
  ·exact ⟨by omega,rfl,rfl,rfl,rfl,rfl,by simp -implicitDefEqProofs (disch:=omega) only [go_sem];rfl⟩
  ·rintro k s hk ⟨hall,h1,h2,h4,h6,hh2,hh4⟩
   simp only [Nd.pv,zeroNd,PV.cells,lpc,lpn] at hh4
   simp -implicitDefEqProofs (disch:=omega) only [h1,h2,h4,h6,hh2,hh4,go_sem]
   refine Af (fun hlt=>?_) (fun hge=>?_)
   ·have hm:t.nodes[k]?=some t.nodes[k]:=lgg hlt
    generalize t.nodes[k]=m at hm
    simp -implicitDefEqProofs (disch:=omega) only [h1,h2,h4,h6,hh2,hh4,hm,go_sem]
    repeat' ((first|refine AN ?_ ?_|refine AM ?_ ?_|refine AQ ?_ ?_|refine AP ?_ ?_|refine AI ?_ ?_|refine AH ?_ ?_|refine AO ?_ ?_|refine AJ ?_ ?_|refine Af ?_ ?_|refine AS ?_ ?_)<;>intro hb<;>simp -implicitDefEqProofs (disch:=omega) only [hb,h1,h2,h4,h6,hh2,hh4,hm,go_sem])
    ·have hf:A8 t id=some m:=by
      simp only [A8,hok,if_true,AU]
      exact J6 hall hm (by simpa using hb)
     simp [hf,Nd.vv,hb]
    ·exact ⟨hlt,EW hm hall (by simpa using ‹_›),by simp only [Int.natCast_add,Int.natCast_one],rfl⟩
   ·have hf:A8 t id=none:=by
     simp only [A8,hok,if_true,AU]
     exact XC fun i n hi=>hall i n (by omega)
    simp -implicitDefEqProofs (disch:=omega) only [h1,h2,h4,h6,hh2,hh4,hge,go_sem]
    simp [hf,zeroNd,Nd.vv]
theorem DR (t:Tr) (id:Int) (hl:t.nodes.length<1000000):V 83 [t.vv,.p (.int .i64 id)] []=some (.p (.bool (A8 t id).isSome),[]):=by
 refine Ad (vf:=vf83) rfl ?_
 have hc:=PM t id hl
 simp -implicitDefEqProofs (disch:=omega) only [vf83,Sb,hc,go_sem]
def Du (t:Tr) (id:Int):List Int:=if (A8 t id).isSome then up t.nodes id else []
theorem Qv (t:Tr) (id:Int) (hl:t.nodes.length<1000000):V 62 [t.vv,.p (.int .i64 id)] []=some (.fresh 1 ((Du t id).map (.int .i64)),[]):=by
 refine Ad (vf:=vf62) rfl ?_
 have hc:=DR t id hl
 have hu:=RX t id hl
 cases hf:(A8 t id).isSome with
 | false =>
  rw [hf] at hc
  simp -implicitDefEqProofs (disch:=omega) only [vf62,Ms,hc,go_sem]
  simp [Du,hf]
 | true =>
  rw [hf] at hc
  simp -implicitDefEqProofs (disch:=omega) only [vf62,Ms,hc,hu,go_sem]
  simp [Du,hf]
theorem W2 (t:Tr) (id:Int) (hl:t.nodes.length<1000000):V 98 [t.vv,.p (.int .i64 id)] []=some (.p (.int .i64 ((Du t id).length - 1)),[]):=by
 refine Ad (vf:=vf98) rfl ?_
 have hc:=Qv t id hl
 have hlen:(Du t id).length<1000000:=by
  unfold Du
  split
  ·have:=Kq t.nodes.reverse id
   simp only [List.length_reverse] at this
   unfold up
   omega
  .simp
 simp -implicitDefEqProofs (disch:=omega) only [vf98,R8,hc,go_sem]
def Ex (t:Tr) (id:Int):List Int:=if (A8 t id).isSome then (t.nodes.filter fun n=>decide (n.parent=id)).map (·.id) else []
theorem Hi {p:Nd->Bool} {l:List Nd} {k:Nat} {m:Nd} (hm:l[k]?=some m):(l.take (k+1)).filter p=if p m then (l.take k).filter p++[m] else (l.take k).filter p:=by
 rw [List.take_add_one,hm]
 simp only [List.filter_append,Option.toList,lfl,List.filter_nil]
 split<;>simp
theorem K9 (t:Tr) (id:Int) (hl:t.nodes.length<1000000):V 100 [t.vv,.p (.int .i64 id)] []=some (.fresh 1 ((Ex t id).map (.int .i64)),[]):=by
 refine Ad (vf:=vf100) rfl ?_
 have hc:=DR t id hl
 cases hf:(A8 t id).isSome with
 | false =>
  rw [hf] at hc
  simp -implicitDefEqProofs (disch:=omega) only [vf100,Mi,hc,go_sem]
  simp [Ex,hf]
 | true =>
  rw [hf] at hc
  simp -implicitDefEqProofs (disch:=omega) only [vf100,Mi,hc,go_sem]
  refine Ak t.nodes.length (fun k s=>∃ (acc:List Int) (v:Nat),acc=((t.nodes.take k).filter fun n=>decide (n.parent=id)).map (·.id)/\acc.length<=k/\s.pe 1=.p (.int .i64 id)/\s.pe 2=.ptr (.slot 2 0) 0 0/\s.pe 5=.own (.slot 5 0) v 0 acc.length/\s.pe 6=.p (.int .i64 k)/\s.h (.slot 2 0)=some (0,.box [.p (Ao t.nodes),.p (.int .i64 t.next)])/\s.h (.slot 5 0)=some (v,.arr 1 (acc.map (.int .i64)))) ?_ ?_
  ·exact ⟨[],0,rfl,by simp,rfl,rfl,rfl,rfl,rfl,rfl⟩
  ·rintro k s hk ⟨acc,v,hacc,hlen,h1,h2,h5,h6,hh2,hh5⟩
   simp -implicitDefEqProofs (disch:=omega) only [h1,h2,h5,h6,hh2,hh5,go_sem]
   refine Af (fun hlt=>?_) (fun hge=>?_)
   ·have hm:t.nodes[k]?=some t.nodes[k]:=lgg hlt
    generalize t.nodes[k]=m at hm
    simp -implicitDefEqProofs (disch:=omega) only [h1,h2,h5,h6,hh2,hh5,hm,go_sem]
    repeat' ((first|refine AN ?_ ?_|refine AM ?_ ?_|refine AQ ?_ ?_|refine AP ?_ ?_|refine AI ?_ ?_|refine AH ?_ ?_|refine AO ?_ ?_|refine AJ ?_ ?_|refine Af ?_ ?_|refine AS ?_ ?_)<;>intro hb<;>simp -implicitDefEqProofs (disch:=omega) only [hb,h1,h2,h5,h6,hh2,hh5,hm,go_sem])
    ·refine ⟨hlt,acc++[m.id],v+1,?_,by simp;omega,by simp,by simp,by simp⟩
     rw [Hi hm,hacc]
     simp [hb]
    ·refine ⟨hlt,acc,v,?_,by omega,by simp,by simp,by simp⟩
     rw [Hi hm,hacc]
     simp [hb]
   ·rw [ltl (by omega)] at hacc
    simp -implicitDefEqProofs (disch:=omega) only [h1,h2,h5,h6,hh2,hh5,hge,go_sem]
    simp [Ex,hf,hacc]
theorem Yx (t:Tr) (hl:t.nodes.length<1000000):V 99 [t.vv] []=some (t.fv,[]):=by
 refine Ad (vf:=vf99) rfl ?_
 simp -implicitDefEqProofs (disch:=omega) only [vf99,R7,go_sem]
def newT:Tr:=⟨[⟨1,0,⟨#[]⟩,0,0,0⟩],2⟩
theorem Z8:V 42 [] []=some (newT.fv,[]):=by
 refine Ad (vf:=vf42) rfl ?_
 simp -implicitDefEqProofs (disch:=omega) only [vf42,SC,go_sem]
 rfl
theorem LI (L:List Int) (a:Nat) (n:Int) (hL:L.length<4611686018427387904) (h1:1<=n) (hn:n<4611686018427387904):V 45 [.ptr (.arg 0 0) 0 0,.p (.int .i64 n)] [AK L a]=some (.p (.bool (decide (AB L a n=n - 1))),[AK L (Ah L a n)]):=by
 refine Ad (vf:=vf45) rfl ?_
 have hc:=CK L a n hL hn
 simp -implicitDefEqProofs (disch:=omega) only [vf45,SA,hc,go_sem]
def names6:List ByteArray:=[⟨#[97]⟩,⟨#[98]⟩,⟨#[99]⟩,⟨#[119,101,98]⟩,⟨#[100,98,45,49]⟩,⟨#[88,95,57]⟩]
def Fm (L:List Int) (a:Nat):ByteArray:=names6.getD (AB L a 6).toNat ⟨#[]⟩
theorem zan (L:List Int) (a:Nat) (hL:L.length<4611686018427387904):V 44 [.ptr (.arg 0 0) 0 0] [AK L a]=some (.p (.str (Fm L a)),[AK L (Ah L a 6)]):=by
 refine Ad (vf:=vf44) rfl ?_
 have hc:=CK L a 6 hL (by omega)
 have h0:=Cf L a 6
 have h1:=Cg L a (n:=6) (by omega)
 have hl:(AB L a 6).toNat<names6.length:=by simp [names6];omega
 have hg:([.str ⟨#[97]⟩,.str ⟨#[98]⟩,.str ⟨#[99]⟩,.str ⟨#[119,101,98]⟩,.str ⟨#[100,98,45,49]⟩,.str ⟨#[88,95,57]⟩]:List PV)[(AB L a 6).toNat]?=some (.str (Fm L a)):=by
  show (names6.map PV.str)[(AB L a 6).toNat]?=_
  rw [List.getElem?_map,Fm,List.getD_eq_getElem?_getD,lgg hl]
  rfl
 simp -implicitDefEqProofs (disch:=omega) only [vf44,SB,hc,h0,hg,go_sem]
theorem Kk:∀ (ns pre:List Nd),(∀ x∈pre,1<=x.id)->Bn pre ns=true->∀ n∈ns,1<=n.id
 | [],_,_,_,n,hn=>by cases hn
 | m::ns,pre,hp,h,n,hn=>by
  simp only [Bn,bat] at h
  have hm:1<=m.id:=by
   have h1:=h.1
   unfold BQ at h1
   simp only [bat] at h1
   cases hl:pre.getLast? with
   | none =>
    rw [hl] at h1
    simp only [decide_eq_true_eq] at h1
    omega
   | some l =>
    rw [hl] at h1
    simp only [bat,decide_eq_true_eq] at h1
    have:=hp l (List.mem_of_getLast? hl)
    omega
  rcases lmk.1 hn with rfl|hn
  ·exact hm
  ·refine Kk ns (pre++[m]) (fun x hx=>?_) h.2 n hn
   rcases lmp.1 hx with hx|hx
   .exact hp x hx
   .simp at hx;subst hx;exact hm
theorem X5 {t:Tr} (h:AY t=true):1<t.next/\t.next<=2147483648/\1<=t.nodes.length/\t.nodes.length<=64:=by
 simp only [AY,bat,decide_eq_true_eq] at h
 obtain ⟨⟨⟨h1,h2⟩,_⟩,h3⟩:=h
 cases hl:t.nodes.getLast? with
 | none=>rw [hl] at h3;cases h3
 | some l =>
  rw [hl] at h3
  simp only [decide_eq_true_eq] at h3
  have:=Kk t.nodes [] (by simp) h2 l (List.mem_of_getLast? hl)
  omega
def B1 (t:Tr) (p:Int) (s:ByteArray):Tr × Int × Int :=
 if (AY t && B4 s)=false then (⟨[],0⟩,0,1)
 else if (A8 t p).isSome=false then (⟨[],0⟩,0,4)
 else if (t.nodes.any fun n=>decide (n.parent=p/\n.name=s))=true then (⟨[],0⟩,0,5)
 else if (8:Int)<=(Du t p).length - 1 \/ 64<=t.nodes.length \/ 2147483647<t.next then (⟨[],0⟩,0,7)
 else (⟨t.nodes++[⟨t.next,p,s,0,0,0⟩],t.next+1⟩,t.next,0)
theorem zab (t : Tr) (p : Int) (s : ByteArray) (hl : t.nodes.length<1000000) : V 43 [t.vv,.p (.int .i64 p),.p (.str s)] []=some (.tup [(B1 t p s).1.fv,.p (.int .i64 (B1 t p s).2.1),.p (.int .i64 (B1 t p s).2.2)],[]):=by
  refine Ad (vf := vf43) rfl ?_
  have hc := E2 t hl
  have hv := OT s
  have hh := DR t p hl
  have hd := W2 t p hl
  have hcp := Yx t hl
  cases hok : AY t with
  | false =>
    rw [hok] at hc
    simp -implicitDefEqProofs (disch:=omega) only [vf43,H6,hc,go_sem]
    simp [B1, hok]
  | true =>
    rw [hok] at hc
    cases hvv : B4 s with
    | false =>
      rw [hvv] at hv
      simp -implicitDefEqProofs (disch:=omega) only [vf43,H6,hc,hv,go_sem]
      simp [B1, hok, hvv]
    | true =>
      rw [hvv] at hv
      cases hf : (A8 t p).isSome with
      | false =>
        rw [hf] at hh
        simp -implicitDefEqProofs (disch:=omega) only [vf43,H6,hc,hv,hh,go_sem]
        simp [B1, hok, hvv, hf]
      | true =>
        rw [hf] at hh
        simp -implicitDefEqProofs (disch:=omega) only [vf43,H6,hc,hv,hh,go_sem]
        refine Ak t.nodes.length (fun k st=>(t.nodes.take k).any (fun n=>decide (n.parent=p/\n.name=s))=false/\st.pe 1=.p (.int .i64 p)/\st.pe 2=.p (.str s)/\st.pe 3=.ptr (.slot 3 0) 0 0/\st.pe 6=.ptr (.slot 6 0) 0 0/\st.pe 9=.p (.int .i64 k)/\st.h (.slot 3 0)=some (0,.box [.p (Ao t.nodes),.p (.int .i64 t.next)])/\st.h (.slot 6 0)=some (0,.box [.own (.slot 6 1) 0 0 0,.p (.int .i64 0)])/\st.h (.slot 6 1)=some (0,.arr 6 [])) ?_ ?_
        · exact ⟨by simp,rfl,rfl,rfl,rfl,rfl,rfl,rfl,rfl⟩
        · rintro k st hk ⟨hno,h1,h2,h3,h6,h9,hh3,hh6,hh61⟩
          simp -implicitDefEqProofs (disch:=omega) only [h1,h2,h3,h6,h9,hh3,hh6,hh61,go_sem]
          refine Af (fun hlt=>?_) (fun hge=>?_)
          · have hm:t.nodes[k]?=some t.nodes[k]:=lgg hlt
            generalize t.nodes[k]=m at hm
            simp -implicitDefEqProofs (disch:=omega) only [h1,h2,h3,h6,h9,hh3,hh6,hh61,hm,go_sem]
            repeat' ((first|refine AN ?_ ?_|refine AM ?_ ?_|refine AQ ?_ ?_|refine AP ?_ ?_|refine AI ?_ ?_|refine AH ?_ ?_|refine AO ?_ ?_|refine AJ ?_ ?_|refine Af ?_ ?_|refine AS ?_ ?_)<;>intro hb<;>simp -implicitDefEqProofs (disch:=omega) only [hb,h1,h2,h3,h6,h9,hh3,hh6,hh61,hm,go_sem])
            all_goals first
              | exact ⟨hlt,by rw [FH hm,hno];simp [*],by simp only [Int.natCast_add,Int.natCast_one]⟩
              | (have ha:(t.nodes.any fun n=>decide (n.parent=p/\n.name=s))=true:=by
                  rw [List.any_eq_true]
                  exact ⟨m,lmg hm,by simp [*]⟩
                 simp only [B1,hok,hvv,hf,ha,bas,Bool.true_eq_false,if_false,if_true,lpn]
                 rfl)
          · have ha:(t.nodes.any fun n=>decide (n.parent=p/\n.name=s))=false:=by
              rw [ltl (by omega)] at hno
              exact hno
            by_cases hb1:(8:Int)<=(Du t p).length - 1
            · simp -implicitDefEqProofs (disch:=omega) only [h1,h2,h3,h6,h9,hh3,hh6,hh61,hge,hd,hb1,go_sem]
              simp only [B1,hok,hvv,hf,ha,hb1,true_or,bas,Bool.true_eq_false,bft,if_false,if_true,lpn]
              rfl
            · by_cases hb2:(64:Int)<=t.nodes.length
              · simp -implicitDefEqProofs (disch:=omega) only [h1,h2,h3,h6,h9,hh3,hh6,hh61,hge,hd,hb1,hb2,go_sem]
                simp only [B1,hok,hvv,hf,ha,hb1,show 64<=t.nodes.length by omega,true_or,or_true,bas,Bool.true_eq_false,bft,if_false,if_true,lpn]
                rfl
              · by_cases hb3:2147483647<t.next
                · simp -implicitDefEqProofs (disch:=omega) only [h1,h2,h3,h6,h9,hh3,hh6,hh61,hge,hd,hb1,hb2,hb3,go_sem]
                  simp only [B1,hok,hvv,hf,ha,hb1,hb3,true_or,or_true,bas,Bool.true_eq_false,bft,if_false,if_true,lpn]
                  rfl
                · have hnx:=X5 hok
                  simp -implicitDefEqProofs (disch:=omega) only [h1,h2,h3,h6,h9,hh3,hh6,hh61,hge,hd,hb1,hb2,hb3,hcp,go_sem]
                  simp only [B1,hok,hvv,hf,ha,hb1,hb3,show ¬ 64<=t.nodes.length by omega,or_self,bas,Bool.true_eq_false,bft,if_false,lma,lpc,lpn,Nd.pv,Tr.fv]
def B2 (t:Tr) (id:Int):Tr × Int :=
 if AY t=false then (⟨[],0⟩,1)
 else if (A8 t id).isSome=false then (⟨[],0⟩,4)
 else if id=1 then (⟨[],0⟩,9)
 else if Ex t id ≠ [] then (⟨[],0⟩,6)
 else (⟨t.nodes.filter fun n=>!decide (n.id=id),t.next⟩,0)
theorem VZ (t:Tr) (id:Int) (hl:t.nodes.length<1000000):V 46 [t.vv,.p (.int .i64 id)] []=some (.tup [(B2 t id).1.fv,.p (.int .i64 (B2 t id).2)],[]):=by
 refine Ad (vf:=vf46) rfl ?_
 have hc:=E2 t hl
 have hh:=DR t id hl
 have hk:=K9 t id hl
 cases hok:AY t with
 | false =>
  rw [hok] at hc
  simp -implicitDefEqProofs (disch:=omega) only [vf46,G7,hc,go_sem]
  simp [B2,hok]
 | true =>
  rw [hok] at hc
  cases hf:(A8 t id).isSome with
  | false =>
   rw [hf] at hh
   simp -implicitDefEqProofs (disch:=omega) only [vf46,G7,hc,hh,go_sem]
   simp [B2,hok,hf]
  | true =>
   rw [hf] at hh
   by_cases h1:id=1
   ·subst h1
    simp -implicitDefEqProofs (disch:=omega) only [vf46,G7,hc,hh,go_sem]
    simp [B2,hok,hf]
   ·by_cases h2:(0:Int)<(Ex t id).length
    ·have h3:Ex t id ≠ []:=fun e=>by rw [e] at h2;simp at h2
     simp -implicitDefEqProofs (disch:=omega) only [vf46,G7,hc,hh,hk,h1,h2,go_sem]
     simp [B2,hok,hf,h1,h3]
    ·have h3:Ex t id=[]:=List.length_eq_zero_iff.1 (by omega)
     simp -implicitDefEqProofs (disch:=omega) only [vf46,G7,hc,hh,hk,h1,h2,go_sem]
     refine Ak t.nodes.length (fun k s=>∃ (acc:List Nd) (v:Nat),acc=((t.nodes.take k).filter fun n=>!decide (n.id=id))/\acc.length<=k/\s.pe 1=.p (.int .i64 id)/\s.pe 2=.ptr (.slot 2 0) 0 0/\s.pe 4=.ptr (.slot 4 0) 0 0/\s.pe 6=.ptr (.slot 6 0) 0 0/\s.pe 7=.p (.int .i64 k)/\s.h (.slot 2 0)=some (0,.box [.p (Ao t.nodes),.p (.int .i64 t.next)])/\s.h (.slot 4 0)=some (0,.box [.own (.slot 4 1) 0 0 0,.p (.int .i64 0)]) /\
      s.h (.slot 6 0)=some (0,.box [.own (.slot 32 1) v 0 acc.length,.p (.int .i64 t.next)])/\s.h (.slot 32 1)=some (v,.arr 6 (acc.map Nd.pv))) ?_ ?_
     ·refine ⟨[],0,rfl,by simp,?_⟩
      simp -implicitDefEqProofs (disch:=omega) only [go_sem]
      rfl
     ·rintro k s hk' ⟨acc,v,hacc,hlen,p1,p2,p4,p6,p7,hh2,hh4,hh6,hh32⟩
      simp -implicitDefEqProofs (disch:=omega) only [p1,p2,p4,p6,p7,hh2,hh4,hh6,hh32,go_sem]
      refine Af (fun hlt=>?_) (fun hge=>?_)
      ·have hm:t.nodes[k]?=some t.nodes[k]:=lgg hlt
       generalize t.nodes[k]=m at hm
       simp -implicitDefEqProofs (disch:=omega) only [p1,p2,p4,p6,p7,hh2,hh4,hh6,hh32,hm,go_sem]
       repeat' ((first|refine AN ?_ ?_|refine AM ?_ ?_|refine AQ ?_ ?_|refine AP ?_ ?_|refine AI ?_ ?_|refine AH ?_ ?_|refine AO ?_ ?_|refine AJ ?_ ?_|refine Af ?_ ?_|refine AS ?_ ?_)<;>intro hb<;>simp -implicitDefEqProofs (disch:=omega) only [hb,p1,p2,p4,p6,p7,hh2,hh4,hh6,hh32,hm,go_sem])
       ·refine ⟨hlt,acc++[m],v+1,?_,by simp;omega,by simp,by simp,by simp [Nd.pv]⟩
        rw [Hi hm,hacc]
        simp [hb]
       ·refine ⟨hlt,acc,v,?_,by omega,by simp,by simp,by simp⟩
        rw [Hi hm,hacc]
        simp [hb]
      ·rw [ltl (by omega)] at hacc
       simp -implicitDefEqProofs (disch:=omega) only [p1,p2,p4,p6,p7,hh2,hh4,hh6,hh32,hge,go_sem]
       simp [B2,hok,hf,h1,h3,hacc]
theorem MU:∀ (a pre b:List Nd),Bn pre (a++b)=(Bn pre a && Bn (pre++a) b)
 | [],pre,b=>by simp [Bn]
 | n::a,pre,b=>by
  simp only [lca,Bn]
  rw [MU a (pre++[n]) b]
  simp [Bool.and_assoc]
theorem Iz {n:Nd} (h:BQ [] n=true):n.id=1/\n.parent=0/\n.name=⟨#[]⟩/\n.kind=0:=by
 simp only [BQ,List.getLast?_nil,bat,decide_eq_true_eq] at h
 exact h.2
theorem Gg {pre:List Nd} {l n:Nd} (hl:pre.getLast?=some l):BQ pre n=true ↔ ((n.kind=0 \/ n.kind=1)/\0<=n.control/\n.control<=31/\0<=n.owner/\n.owner<=1048576)/\l.id<n.id/\B4 n.name=true/\(∀ x∈pre,¬ (x.parent=n.parent/\x.name=n.name))/\∃ x∈pre,x.id=n.parent:=by
 simp only [BQ,hl,bat,decide_eq_true_eq,Bool.not_eq_true',List.any_eq_false,List.any_eq_true]
 constructor
 ·rintro ⟨⟨h1,h2⟩,⟨⟨h3,h4⟩,h5⟩,h6⟩
  exact ⟨⟨h1,h2⟩,h3,h4,h5,h6⟩
 ·rintro ⟨⟨h1,h2⟩,h3,h4,h5,h6⟩
  exact ⟨⟨h1,h2⟩,⟨⟨h3,h4⟩,h5⟩,h6⟩
theorem Jj:∀ (ns pre:List Nd),Bn pre ns=true->(∀ (l:Nd),pre.getLast?=some l->∀ x∈pre,x.id<=l.id) ->
  (∀ x∈pre,∀ n∈ns,x.id<n.id)/\ns.Pairwise fun a b=>a.id<b.id
 | [],_,_,_=>⟨fun _ _ _ h=>(by cases h),List.Pairwise.nil⟩
 | m::ns,pre,h,hp=>by
  simp only [Bn,bat] at h
  have hm:∀ x∈pre,x.id<m.id:=fun x hx=>by
   cases hl:pre.getLast? with
   | none=>rw [List.getLast?_eq_none_iff] at hl;rw [hl] at hx;cases hx
   | some l =>
    have:=((Gg hl).1 h.1).2.1
    have:=hp l hl x hx
    omega
  obtain ⟨h1,h2⟩:=Jj ns (pre++[m]) h.2 (fun l hl x hx=>by
   simp at hl
   subst hl
   rcases lmp.1 hx with hx|hx
   .exact Int.le_of_lt (hm x hx)
   .simp at hx;subst hx;exact Int.le_refl _)
  refine ⟨fun x hx n hn=>?_,lpw.2 ⟨fun n hn=>h1 m (by simp) n hn,h2⟩⟩
  rcases lmk.1 hn with rfl|hn
  .exact hm x hx
  .exact h1 x (by simp [hx]) n hn
structure TreeOk (t:Tr):Prop where
 len:1<=t.nodes.length/\t.nodes.length<=64
 nodes:Bn [] t.nodes=true
 depth:∀ n∈t.nodes,(up t.nodes n.id).length<=9
 next:∃ l,t.nodes.getLast?=some l/\l.id<t.next/\t.next<=2147483648
theorem Bh (t:Tr):AY t=true ↔ TreeOk t:=by
 simp only [AY,bat,decide_eq_true_eq,List.all_eq_true]
 constructor
 ·rintro ⟨⟨⟨h1,h2⟩,h3⟩,h4⟩
  cases hl:t.nodes.getLast? with
  | none=>rw [hl] at h4;cases h4
  | some l =>
   rw [hl] at h4
   simp only [decide_eq_true_eq] at h4
   exact ⟨h1,h2,h3,l,hl,h4⟩
 ·rintro ⟨h1,h2,h3,l,hl,h4⟩
  refine ⟨⟨⟨h1,h2⟩,h3⟩,?_⟩
  rw [hl]
  simpa using h4
theorem TreeOk.inc {t:Tr} (h:TreeOk t):t.nodes.Pairwise fun a b=>a.id<b.id:=(Jj t.nodes [] h.nodes (fun _ h=>by simp at h)).2
theorem TreeOk.lt_next {t:Tr} (h:TreeOk t):∀ n∈t.nodes,n.id<t.next:=by
 obtain ⟨l,hl,h1,_⟩:=h.next
 intro n hn
 obtain ⟨i,hi⟩:=lgm hn
 have hlt:=(lgs.1 hi).1
 rw [List.getLast?_eq_getElem?] at hl
 have hlt2:=(lgs.1 hl).1
 have hinc:=List.pairwise_iff_getElem.1 h.inc
 rcases Nat.lt_or_ge i (t.nodes.length - 1) with h2|h2
 ·have:=hinc i (t.nodes.length - 1) hlt hlt2 h2
  rw [(lgs.1 hi).2,(lgs.1 hl).2] at this
  omega
 ·have:i=t.nodes.length - 1:=by omega
  rw [this,hl] at hi
  simp at hi
  rw [<- hi]
  exact h1
theorem TreeOk.root {t:Tr} (h:TreeOk t):∃ r ns,t.nodes=r::ns/\r.id=1/\r.parent=0:=by
 cases hn:t.nodes with
 | nil=>have:=h.len.1;rw [hn] at this;simp at this
 | cons r ns =>
  have:=h.nodes
  rw [hn] at this
  simp only [Bn,bat] at this
  have:=Iz this.1
  exact ⟨r,ns,rfl,this.1,this.2.1⟩
theorem QD:TreeOk newT:=by
 refine ⟨by simp [newT],by decide,by decide,⟨1,0,⟨#[]⟩,0,0,0⟩,rfl,by decide,by decide⟩
theorem C2 {ns:List Nd} {id:Int} (h:(AU ns id).isSome=true):∃ n∈ns,n.id=id:=by
 unfold AU at h
 rw [List.find?_isSome] at h
 obtain ⟨n,hn,h⟩:=h
 exact ⟨n,hn,by simpa using h⟩
theorem QR {t:Tr} {p:Int} {s:ByteArray} (h0:(B1 t p s).2.2=0):TreeOk t/\TreeOk (B1 t p s).1/\(B1 t p s).1=⟨t.nodes++[⟨t.next,p,s,0,0,0⟩],t.next+1⟩:=by
 unfold B1 at h0 ⊢
 split at h0<;>try (simp at h0;done)
 rename_i h1
 split at h0<;>try (simp at h0;done)
 rename_i h2
 split at h0<;>try (simp at h0;done)
 rename_i h3
 split at h0<;>try (simp at h0;done)
 rename_i h4
 rw [if_neg h1,if_neg h2,if_neg h3,if_neg h4]
 simp only [Bool.not_eq_false,bat] at h1
 simp only [Bool.not_eq_false] at h2
 have hok:=(Bh t).1 h1.1
 refine ⟨hok,?_,rfl⟩
 have hf:(AU t.nodes p).isSome=true:=by
  unfold A8 at h2
  rw [if_pos h1.1] at h2
  exact h2
 obtain ⟨l,hl,hl1,hl2⟩:=hok.next
 have hlt:=hok.lt_next
 have hup:∀ id,id ≠ t.next->up (t.nodes++[⟨t.next,p,s,0,0,0⟩]) id=up t.nodes id:=fun id hid=>by
  unfold up
  rw [List.reverse_append]
  simp only [List.reverse_cons,List.reverse_nil,lna,lca,upR]
  rw [if_neg (Ne.symm hid)]
 refine ⟨by simp;omega,?_,fun n hn=>?_,⟨⟨t.next,p,s,0,0,0⟩,by simp,by simp;omega,by simp;omega⟩⟩
 ·rw [MU,hok.nodes]
  simp only [lna,Bn,bau,bta]
  rw [Gg hl]
  refine ⟨by simp,hl1,h1.2,fun x hx hd=>?_,C2 hf⟩
  apply h3
  rw [List.any_eq_true]
  exact ⟨x,hx,by simpa using hd⟩
 ·simp only [lmp,List.mem_singleton] at hn
  rcases hn with hn|rfl
  ·rw [hup n.id (by have:=hlt n hn;omega)]
   exact hok.depth n hn
  ·have ha:Du t p=up t.nodes p:=by unfold Du;rw [if_pos h2]
   rw [ha] at h4
   have:up (t.nodes++[⟨t.next,p,s,0,0,0⟩]) t.next=t.next::up t.nodes p:=by
    unfold up
    rw [List.reverse_append]
    simp only [List.reverse_cons,List.reverse_nil,lna,lca,upR,if_true]
   simp only
   rw [this]
   simp only [llc]
   omega
theorem Iu {q:Int}:∀ (ns:List Nd) (id:Int),id ≠ q->(∀ n∈ns,n.parent ≠ q)->upR (ns.filter fun n=>!decide (n.id=q)) id=upR ns id
 | [],_,_,_=>rfl
 | n::ns,id,hid,hp=>by
  have hp':∀ m∈ns,m.parent ≠ q:=fun m hm=>hp m (lmc _ hm)
  by_cases hq:n.id=q
  ·have:n.id ≠ id:=fun e=>hid (e ▸ hq)
   rw [List.filter_cons_of_neg (by simp [hq]),upR,if_neg this,Iu ns id hid hp']
  ·rw [List.filter_cons_of_pos (by simp [hq]),upR,upR]
   split
   .rw [Iu ns n.parent (hp n (lms ..)) hp']
   .rw [Iu ns id hid hp']
theorem J4 {q:Int} (hq1:q ≠ 1):∀ (ns pre:List Nd),Bn pre ns=true->(∀ n∈ns,n.parent ≠ q)->(∀ (l:Nd),pre.getLast?=some l->∀ x∈pre,x.id<=l.id)->(pre.filter (fun n=>!decide (n.id=q))=[]->pre=[]) ->
  Bn (pre.filter fun n=>!decide (n.id=q)) (ns.filter fun n=>!decide (n.id=q))=true
 | [],_,_,_,_,_=>by simp [Bn]
 | n :: ns,pre,h,hp,hlast,hne=>by
  simp only [Bn,bat] at h
  have hinc:=Jj (n::ns) pre (by simp only [Bn,bat];exact h) hlast
  have hp':∀ m∈ns,m.parent ≠ q:=fun m hm=>hp m (lmc _ hm)
  have hlast':∀ (l:Nd),(pre++[n]).getLast?=some l->∀ x∈pre++[n],x.id<=l.id:=fun l hl x hx=>by
   simp at hl
   subst hl
   rcases lmp.1 hx with hx|hx
   ·exact Int.le_of_lt (hinc.1 x hx n (by simp))
   ·simp at hx;subst hx;exact Int.le_refl _
  by_cases hq:n.id=q
  ·have ih:=J4 hq1 ns (pre++[n]) h.2 hp' hlast' (fun e=>by
    rw [List.filter_append,List.filter_cons_of_neg (by simp [hq]),List.filter_nil,lan] at e
    have:=hne e
    subst this
    exact absurd ((Iz h.1).1.symm.trans hq) (Ne.symm hq1))
   rw [List.filter_append,List.filter_cons_of_neg (by simp [hq]),List.filter_nil,lan] at ih
   rw [List.filter_cons_of_neg (by simp [hq])]
   exact ih
  ·have ih:=J4 hq1 ns (pre++[n]) h.2 hp' hlast' (fun e=>by
    rw [List.filter_append,List.filter_cons_of_pos (by simp [hq])] at e
    simp at e)
   rw [List.filter_append,List.filter_cons_of_pos (by simp [hq]),List.filter_nil] at ih
   rw [List.filter_cons_of_pos (by simp [hq])]
   simp only [Bn,bat]
   refine ⟨?_,ih⟩
   cases hl:pre.getLast? with
   | none =>
    rw [List.getLast?_eq_none_iff] at hl
    subst hl
    simpa using h.1
   | some l =>
    obtain ⟨b1,b2,b3,b4,x,hx,b5⟩:=(Gg hl).1 h.1
    have hin:x∈pre.filter fun n=>!decide (n.id=q):=by
     rw [List.mem_filter]
     exact ⟨hx,by simpa using (fun e=>hp n (by simp) (b5.symm.trans e))⟩
    cases hl2:(pre.filter fun n=>!decide (n.id=q)).getLast? with
    | none =>
     rw [List.getLast?_eq_none_iff] at hl2
     rw [hl2] at hin
     cases hin
    | some l2 =>
     have hl2m:=List.mem_of_getLast? hl2
     rw [List.mem_filter] at hl2m
     rw [Gg hl2]
     exact ⟨b1,hinc.1 l2 hl2m.1 n (by simp),b3,fun y hy=>b4 y (List.mem_filter.1 hy).1,x,hin,b5⟩
theorem V2 {t:Tr} {q:Int} (h0:(B2 t q).2=0):TreeOk t/\TreeOk (B2 t q).1/\(B2 t q).1=⟨t.nodes.filter fun n=>!decide (n.id=q),t.next⟩:=by
 unfold B2 at h0 ⊢
 split at h0<;>try (simp at h0;done)
 rename_i h1
 split at h0<;>try (simp at h0;done)
 rename_i h2
 split at h0<;>try (simp at h0;done)
 rename_i h3
 split at h0<;>try (simp at h0;done)
 rename_i h4
 rw [if_neg h1,if_neg h2,if_neg h3,if_neg h4]
 simp only [Bool.not_eq_false] at h1 h2
 have hok:=(Bh t).1 h1
 have hpar:∀ n∈t.nodes,n.parent ≠ q:=fun n hn e=>by
  apply h4
  unfold Ex
  rw [if_pos h2]
  intro e2
  have:n∈t.nodes.filter fun n=>decide (n.parent=q):=by
   rw [List.mem_filter]
   exact ⟨hn,by simpa using e⟩
  have:=List.mem_map_of_mem (f:=(·.id)) this
  rw [e2] at this
  cases this
 refine ⟨hok,?_,rfl⟩
 obtain ⟨r,ns,hr,hr1,_⟩:=hok.root
 have hrin:r∈t.nodes.filter fun n=>!decide (n.id=q):=by
  rw [List.mem_filter,hr]
  exact ⟨by simp,by simp;intro e;exact h3 (e.symm.trans hr1)⟩
 have hnodes:=J4 h3 t.nodes [] hok.nodes hpar (fun _ h=>by simp at h) (fun _=>rfl)
 refine ⟨⟨?_,?_⟩,by simpa using hnodes,fun n hn=>?_,?_⟩
 ·exact List.length_pos_of_mem hrin
 ·exact Nat.le_trans (List.length_filter_le _ _) hok.len.2
 ·rw [List.mem_filter] at hn
  have hid:n.id ≠ q:=by simpa using hn.2
  have:up (t.nodes.filter fun n=>!decide (n.id=q)) n.id=up t.nodes n.id:=by
   unfold up
   rw [<- List.filter_reverse]
   exact Iu _ _ hid fun m hm=>hpar m (by simpa using hm)
  simp only
  rw [this]
  exact hok.depth n hn.1
 ·cases hl:(t.nodes.filter fun n=>!decide (n.id=q)).getLast? with
  | none =>
   rw [List.getLast?_eq_none_iff] at hl
   rw [hl] at hrin
   cases hrin
  | some l =>
   have hm:=(List.mem_filter.1 (List.mem_of_getLast? hl)).1
   obtain ⟨_,_,_,h5⟩:=hok.next
   exact ⟨l,rfl,hok.lt_next l hm,h5⟩
def E5 (L:List Int) (a:Nat) (t:Tr):Tr × Nat :=
 let a1:=Ah L a t.nodes.length
 let p:=((t.nodes[(AB L a t.nodes.length).toNat]?).map (·.id)).getD 0
 let r:=B1 t p (Fm L a1)
 let a2:=Ah L a1 6
 let t1:=if r.2.2=0 then r.1 else t
 let a3:=Ah L a2 6
 if AB L a2 6=5 then
  let q:=((t1.nodes[(AB L a3 t1.nodes.length).toNat]?).map (·.id)).getD 0
  let u:=B2 t1 q
  (if u.2=0 then u.1 else t1,Ah L a3 t1.nodes.length)
 else (t1,a3)
def Gx (L:List Int):Nat->Nat->Tr->Tr × Nat
 | 0,a,t=>(t,a)
 | k+1,a,t=>Gx L k (E5 L a t).2 (E5 L a t).1
def Es (L:List Int) (a:Nat) (n:Nat):Tr × Nat:=Gx L (AB L a (n+1)).toNat (Ah L a (n+1)) newT
theorem Nu (L:List Int) (a:Nat) {t:Tr} (h:TreeOk t):TreeOk (E5 L a t).1:=by
 have h1:∀ p s,TreeOk (if (B1 t p s).2.2=0 then (B1 t p s).1 else t):=fun p s=>by
  split
  ·exact (QR (by assumption)).2.1
  ·exact h
 unfold E5
 simp only
 split
 ·have h2:∀ (u:Tr) (q:Int),TreeOk u->TreeOk (if (B2 u q).2=0 then (B2 u q).1 else u):=fun u q hu=>by
   split
   .exact (V2 (by assumption)).2.1
   .exact hu
  exact h2 _ _ (h1 _ _)
 .exact h1 _ _
theorem Nv (L:List Int):∀ (k a:Nat) {t:Tr},TreeOk t->TreeOk (Gx L k a t).1
 | 0,_,_,h=>h
 | k+1,a,_,h=>Nv L k _ (Nu L a h)
theorem Qi (L:List Int) (a n:Nat):TreeOk (Es L a n).1:=Nv L _ _ QD
theorem Qq (L:List Int) (a n:Nat) (hL:L.length<4611686018427387904) (hn:n<1000):V 13 [.ptr (.arg 0 0) 0 0,.p (.int .i64 n)] [AK L a]=some ((Es L a n).1.vv,[AK L (Es L a n).2]):=by
 refine Ad (vf:=vf13) rfl ?_
 have hnx:=CK L a ((n:Int)+1) hL (by omega)
 have hn0:=Cf L a ((n:Int)+1)
 have hn1:=Cg L a (n:=(n:Int)+1) (by omega)
 simp -implicitDefEqProofs (disch:=omega) only [vf13,SS,Z8,hnx,go_sem]
 refine ZN (σ:=Nat × Nat × Tr) (fun x s=>TreeOk x.2.2/\x.1<1000/\Gx L x.1 x.2.1 x.2.2=Es L a n/\s.pe 0=.ptr (.arg 0 0) 0 0/\s.pe 4=.ptr (.slot 4 0) 0 0/\s.pe 5=.ptr (.slot 5 0) 0 0/\s.pe 6=.p (.int .i64 x.1)/\s.h (.arg 0 0)=some (0,AK L x.2.1)/\s.h (.slot 4 0)=some (0,.box [.own (.slot 4 1) 0 0 0,.p (.int .i64 0)]) /\
  ∃ X, s.h (.slot 5 0)=some (0, .box [X, .p (.int .i64 x.2.2.next)])/\fz0 [8, 11, 13, 37, 58] s.h X=.p (Ao x.2.2.nodes)) (fun x=>x.1) ((AB L a (n+1)).toNat, Ah L a (n+1), newT) ?_ ?_
 ·refine ⟨QD,by omega,rfl,?_⟩
  simp -implicitDefEqProofs (disch:=omega) only [Int.toNat_of_nonneg hn0,go_sem]
  refine ⟨_,rfl,?_⟩
  simp -implicitDefEqProofs (disch:=omega) only [go_sem]
 ·rintro ⟨k,b,t⟩ s ⟨hok,hk,htl,h0,h4,h5,h6,hh0,hh4,X,hh5,hX⟩
  simp only at hok hk htl h6 hh0 hh5 hX
  simp -implicitDefEqProofs (disch:=omega) only [h0,h4,h5,h6,hh0,hh4,hh5,hX,go_sem]
  refine Af (fun hgt=>?_) (fun hle=>?_)
  ·obtain ⟨k',rfl⟩:∃ k',k=k'+1:=⟨k - 1,by omega⟩
   have hlen:=hok.len
   have c1:=CK L b t.nodes.length hL (by omega)
   have c2:=Cf L b t.nodes.length
   have c3:=Cg L b (n:=t.nodes.length) (by omega)
   have hm:t.nodes[(AB L b t.nodes.length).toNat]?=some t.nodes[(AB L b t.nodes.length).toNat]:=lgg (by omega)
   generalize t.nodes[(AB L b t.nodes.length).toNat]'(by omega)=m at hm
   have c4:=zan L (Ah L b t.nodes.length) hL
   have c5:=zab t m.id (Fm L (Ah L b t.nodes.length)) (by omega)
   have c6:V 45 [.ptr (.arg 0 0) 0 0,.p (.int .i64 6)] [AK L (Ah L (Ah L b t.nodes.length) 6)]=some (.p (.bool (decide (AB L (Ah L (Ah L b t.nodes.length) 6) 6=5))),[AK L (Ah L (Ah L (Ah L b t.nodes.length) 6) 6)]):=LI L _ 6 hL (by omega) (by omega)
   have hst:Gx L k' (E5 L b t).2 (E5 L b t).1=Es L a n:=htl
   have hstok:=Nu L b hok
   obtain ⟨t1,ht1,h1ok⟩:∃ t1,t1=(if (B1 t m.id (Fm L (Ah L b t.nodes.length))).2.2=0 then (B1 t m.id (Fm L (Ah L b t.nodes.length))).1 else t)/\TreeOk t1:=⟨_,rfl,by
    split
    ·exact (QR (by assumption)).2.1
    ·exact hok⟩
   have hlen1:=h1ok.len
   have d1:=CK L (Ah L (Ah L (Ah L b t.nodes.length) 6) 6) t1.nodes.length hL (by omega)
   have d2:=Cf L (Ah L (Ah L (Ah L b t.nodes.length) 6) 6) t1.nodes.length
   have d3:=Cg L (Ah L (Ah L (Ah L b t.nodes.length) 6) 6) (n:=t1.nodes.length) (by omega)
   have hq:t1.nodes[(AB L (Ah L (Ah L (Ah L b t.nodes.length) 6) 6) t1.nodes.length).toNat]?=some t1.nodes[(AB L (Ah L (Ah L (Ah L b t.nodes.length) 6) 6) t1.nodes.length).toNat]:=lgg (by omega)
   generalize t1.nodes[(AB L (Ah L (Ah L (Ah L b t.nodes.length) 6) 6) t1.nodes.length).toNat]'(by omega)=q at hq
   have d4:=VZ t1 q.id (by omega)
   have hstep:E5 L b t=if AB L (Ah L (Ah L b t.nodes.length) 6) 6=5 then (if (B2 t1 q.id).2=0 then (B2 t1 q.id).1 else t1,Ah L (Ah L (Ah L (Ah L b t.nodes.length) 6) 6) t1.nodes.length) else (t1,Ah L (Ah L (Ah L b t.nodes.length) 6) 6):=by
    simp only [E5,hm,Option.map_some,Option.getD_some,<- ht1,hq]
   rw [hstep] at hst hstok
   by_cases he:(B1 t m.id (Fm L (Ah L b t.nodes.length))).2.2=0
   ·rw [if_pos he] at ht1
    simp -implicitDefEqProofs (disch:=omega) only [h0,h4,h5,h6,hh0,hh4,hh5,hX,c1,c2,hm,c4,c5,c6,he,<- ht1,go_sem]
    refine Af (fun h5b=>?_) (fun h5b=>?_)
    ·rw [if_pos h5b] at hst hstok
     by_cases hr:(B2 t1 q.id).2=0
     ·rw [if_pos hr] at hst hstok
      simp -implicitDefEqProofs (disch:=omega) only [h0,h4,h5,h6,hh0,hh4,hh5,hX,d1,d2,hq,d4,hr,go_sem]
      refine ⟨(k',Ah L (Ah L (Ah L (Ah L b t.nodes.length) 6) 6) t1.nodes.length,(B2 t1 q.id).1),Nat.lt_succ_self _,hstok,by simp only;omega,hst,?_⟩
      simp -implicitDefEqProofs (disch:=omega) only [h0,h4,h5,h6,hh0,hh4,hh5,hX,go_sem]
      refine ⟨by congr 2;omega,_,rfl,?_⟩
      simp -implicitDefEqProofs (disch:=omega) only [go_sem]
     ·rw [if_neg hr] at hst hstok
      simp -implicitDefEqProofs (disch:=omega) only [h0,h4,h5,h6,hh0,hh4,hh5,hX,d1,d2,hq,d4,hr,go_sem]
      refine ⟨(k',Ah L (Ah L (Ah L (Ah L b t.nodes.length) 6) 6) t1.nodes.length,t1),Nat.lt_succ_self _,hstok,by simp only;omega,hst,?_⟩
      simp -implicitDefEqProofs (disch:=omega) only [h0,h4,h5,h6,hh0,hh4,hh5,hX,go_sem]
      refine ⟨by congr 2;omega,_,rfl,?_⟩
      simp -implicitDefEqProofs (disch:=omega) only [go_sem]
    ·rw [if_neg h5b] at hst hstok
     simp -implicitDefEqProofs (disch:=omega) only [h0,h4,h5,h6,hh0,hh4,hh5,hX,go_sem]
     refine ⟨(k',Ah L (Ah L (Ah L b t.nodes.length) 6) 6,t1),Nat.lt_succ_self _,hstok,by simp only;omega,hst,?_⟩
     simp -implicitDefEqProofs (disch:=omega) only [h0,h4,h5,h6,hh0,hh4,hh5,hX,go_sem]
     refine ⟨by congr 2;omega,_,rfl,?_⟩
     simp -implicitDefEqProofs (disch:=omega) only [go_sem]
   ·rw [if_neg he] at ht1
    subst ht1
    simp -implicitDefEqProofs (disch:=omega) only [h0,h4,h5,h6,hh0,hh4,hh5,hX,c1,c2,hm,c4,c5,c6,he,go_sem]
    refine Af (fun h5b=>?_) (fun h5b=>?_)
    ·rw [if_pos h5b] at hst hstok
     by_cases hr:(B2 t1 q.id).2=0
     ·rw [if_pos hr] at hst hstok
      simp -implicitDefEqProofs (disch:=omega) only [h0,h4,h5,h6,hh0,hh4,hh5,hX,d1,d2,hq,d4,hr,go_sem]
      refine ⟨(k',Ah L (Ah L (Ah L (Ah L b t1.nodes.length) 6) 6) t1.nodes.length,(B2 t1 q.id).1),Nat.lt_succ_self _,hstok,by simp only;omega,hst,?_⟩
      simp -implicitDefEqProofs (disch:=omega) only [h0,h4,h5,h6,hh0,hh4,hh5,hX,go_sem]
      refine ⟨by congr 2;omega,_,rfl,?_⟩
      simp -implicitDefEqProofs (disch:=omega) only [go_sem]
     ·rw [if_neg hr] at hst hstok
      simp -implicitDefEqProofs (disch:=omega) only [h0,h4,h5,h6,hh0,hh4,hh5,hX,d1,d2,hq,d4,hr,go_sem]
      refine ⟨(k',Ah L (Ah L (Ah L (Ah L b t1.nodes.length) 6) 6) t1.nodes.length,t1),Nat.lt_succ_self _,hstok,by simp only;omega,hst,?_⟩
      simp -implicitDefEqProofs (disch:=omega) only [h0,h4,h5,h6,hh0,hh4,hh5,hX,go_sem]
      refine ⟨by congr 2;omega,_,rfl,?_⟩
      simp -implicitDefEqProofs (disch:=omega) only [go_sem]
    ·rw [if_neg h5b] at hst hstok
     simp -implicitDefEqProofs (disch:=omega) only [h0,h4,h5,h6,hh0,hh4,hh5,hX,go_sem]
     refine ⟨(k',Ah L (Ah L (Ah L b t1.nodes.length) 6) 6,t1),Nat.lt_succ_self _,hstok,by simp only;omega,hst,?_⟩
     simp -implicitDefEqProofs (disch:=omega) only [h0,h4,h5,h6,hh0,hh4,hh5,hX,go_sem]
     refine ⟨by congr 2;omega,_,rfl,?_⟩
     simp -implicitDefEqProofs (disch:=omega) only [go_sem]
  ·have hk0:k=0:=by omega
   subst hk0
   simp only [Gx] at htl
   simp -implicitDefEqProofs (disch:=omega) only [h0,h4,h5,h6,hh0,hh4,hh5,hX,go_sem]
   rw [<- htl]
def Er (ns:List Nd) (id:Int):Int:=match ns.findIdx? (fun n=>decide (n.id=id)) with
 | some i=>i
 | none=>-1
theorem zbp (n:Nd) (id:Int):V 235 [n.vv,.ptr (.arg 0 0) 0 0] [.box [.p (.int .i64 id)]]=some (.p (.bool (decide (n.id=id))),[.box [.p (.int .i64 id)]]):=by
 refine Ad (vf:=vf235) rfl ?_
 simp -implicitDefEqProofs (disch:=omega) only [vf235,Ra,go_sem]
theorem Y6 {ns:List Nd} {id:Int} {k:Nat} {m:Nd} (hm:ns[k]?=some m) (h:∀ (i:Nat) (n:Nd),i<k->ns[i]?=some n->¬ n.id=id) (he:m.id=id):Er ns id=k:=by
 unfold Er
 have:ns.findIdx? (fun n=>decide (n.id=id))=some k:=by
  rw [List.findIdx?_eq_some_iff_getElem]
  refine ⟨(lgs.1 hm).1,by rw [(lgs.1 hm).2];simpa using he,fun j hj=>?_⟩
  have hl:j<ns.length:=Nat.lt_trans hj (lgs.1 hm).1
  simpa using h j ns[j] hj (lgg hl)
 rw [this]
theorem Wo {ns:List Nd} {id:Int} (h:∀ n∈ns,¬ n.id=id):Er ns id=-1:=by
 unfold Er
 have:ns.findIdx? (fun n=>decide (n.id=id))=none:=by
  rw [List.findIdx?_eq_none_iff]
  intro x hx
  simpa using h x hx
 rw [this]
theorem UH (ns:List Nd) (id:Int) (hl:ns.length<1000000):V 234 [.p (Ao ns),.fn 235 [.ptr (.arg 0 0) 0 0]] [.box [.p (.int .i64 id)]]=some (.p (.int .i64 (Er ns id)),[.box [.p (.int .i64 id)]]):=by
 refine Ad (vf:=vf234) rfl ?_
 simp -implicitDefEqProofs (disch:=omega) only [vf234,Rb,go_sem]
 refine Ak ns.length (fun k s=>(∀ (i:Nat) (n:Nd),i<k->ns[i]?=some n->¬ n.id=id)/\s.pe 0=.p (Ao ns)/\s.pe 1=.fn 235 [.ptr (.arg 0 0) 0 0]/\s.pe 7=.p (.int .i64 ns.length)/\s.pe 8=.p (.int .i64 k)/\s.h (.arg 0 0)=some (0,.box [.p (.int .i64 id)])) ?_ ?_
 ·exact ⟨by omega,rfl,rfl,rfl,rfl,rfl⟩
 ·rintro k s hk ⟨hall,h0,h1,h7,h8,hh⟩
  simp -implicitDefEqProofs (disch:=omega) only [h0,h1,h7,h8,hh,go_sem]
  refine Af (fun hlt=>?_) (fun hge=>?_)
  ·have hm:ns[k]?=some ns[k]:=lgg hlt
   generalize ns[k]=m at hm
   have hc:=zbp m id
   unfold Nd.vv at hc
   simp -implicitDefEqProofs (disch:=omega) only [h0,h1,h7,h8,hh,hm,hc,go_sem]
   repeat' ((first|refine AN ?_ ?_|refine AM ?_ ?_|refine AQ ?_ ?_|refine AP ?_ ?_|refine AI ?_ ?_|refine AH ?_ ?_|refine AO ?_ ?_|refine AJ ?_ ?_|refine Af ?_ ?_|refine AS ?_ ?_)<;>intro hb<;>simp -implicitDefEqProofs (disch:=omega) only [hb,h0,h1,h7,h8,hh,go_sem])
   .rw [Y6 hm hall hb]
   .exact ⟨hlt,EW hm hall hb,by simp only [Int.natCast_add,Int.natCast_one]⟩
  ·simp -implicitDefEqProofs (disch:=omega) only [h0,h1,h7,h8,hh,hge,go_sem]
   rw [Wo]
   intro n hn
   obtain ⟨i,hi⟩:=lgm hn
   exact hall i n (by have:=(lgs.1 hi).1;omega) hi
theorem R4 (t:Tr) (id:Int) (hl:t.nodes.length<1000000):V 202 [t.vv,.p (.int .i64 id)] []=some (.p (.int .i64 (Er t.nodes id)),[]):=by
 refine Ad (vf:=vf202) rfl ?_
 have hc:=UH t.nodes id hl
 simp -implicitDefEqProofs (disch:=omega) only [vf202,Rl,hc,go_sem]
theorem IZ (ns:List Nd) (id:Int):(Er ns id<0/\AU ns id=none) \/ ∃ (k:Nat) (m:Nd),Er ns id=k/\ns[k]?=some m/\AU ns id=some m/\m.id=id:=by
 unfold Er AU
 cases h:ns.findIdx? (fun n=>decide (n.id=id)) with
 | none =>
  left
  rw [List.findIdx?_eq_none_iff] at h
  exact ⟨by show (-1:Int)<0;omega,List.find?_eq_none.2 fun x hx=>by simp [h x hx]⟩
 | some k =>
  right
  rw [List.findIdx?_eq_some_iff_getElem] at h
  obtain ⟨h1,h2,h3⟩:=h
  refine ⟨k,ns[k],rfl,lgg h1,J6 (k:=k) (fun i n hi hn=>?_) (lgg h1) h2,by simpa using h2⟩
  have:=h3 i hi
  rw [<- (lgs.1 hn).2]
  simpa using this
theorem Gz (t:Tr) (id:Int) (hl:t.nodes.length<1000000):V 145 [t.vv,.p (.int .i64 id)] []=some (.tup [((AU t.nodes id).getD zeroNd).vv,.p (.bool (AU t.nodes id).isSome)],[]):=by
 refine Ad (vf:=vf145) rfl ?_
 have hc:=R4 t id hl
 rcases IZ t.nodes id with ⟨h1,h2⟩|⟨k,m,h1,h2,h3,h4⟩
 ·simp -implicitDefEqProofs (disch:=omega) only [vf145,L6,hc,h1,go_sem]
  simp [h2,zeroNd,Nd.vv]
 ·rw [h1] at hc
  have hk:¬ (k:Int)<0:=by omega
  simp -implicitDefEqProofs (disch:=omega) only [vf145,L6,hc,hk,h2,go_sem]
  simp [h3,Nd.vv]
def ancF (ns:List Nd):Nat->Int->List Int
 | 0,_=>[]
 | k+1,id=>match AU ns id with
  | none=>[]
  | some n=>id::ancF ns k n.parent
theorem EA (ns:List Nd):∀ (k:Nat) (id:Int),(ancF ns k id).length<=k
 | 0,_=>lrf _
 | k+1,id=>by
  unfold ancF
  split
  ·simp
  ·have:=EA ns k
   simp
   exact this _
theorem Jd (t:Tr) (id:Int) (hl:t.nodes.length<1000000):V 179 [t.vv,.p (.int .i64 id)] []=some (.fresh 1 ((ancF t.nodes t.nodes.length id).map (.int .i64)),[]):=by
 refine Ad (vf:=vf179) rfl ?_
 simp -implicitDefEqProofs (disch:=omega) only [vf179,Rw,go_sem]
 refine Ak t.nodes.length (fun k s=>∃ (acc:List Int) (cur:Int) (v:Nat),ancF t.nodes t.nodes.length id=acc++ancF t.nodes (t.nodes.length - k) cur/\acc.length<=k/\s.pe 1=.p (.int .i64 cur)/\s.pe 2=.ptr (.slot 2 0) 0 0/\s.pe 5=.own (.slot 5 0) v 0 acc.length/\s.pe 10=.p (.int .i64 t.nodes.length)/\s.pe 11=.p (.int .i64 k)/\s.h (.slot 2 0)=some (0,.box [.p (Ao t.nodes),.p (.int .i64 t.next)])/\s.h (.slot 5 0)=some (v,.arr 1 (acc.map (.int .i64)))) ?_ ?_
 ·exact ⟨[],id,0,by simp,by simp,rfl,rfl,rfl,rfl,rfl,rfl,rfl⟩
 ·rintro k s hk ⟨acc,cur,v,hup,hlen,h1,h2,h5,h10,h11,hh2,hh5⟩
  simp -implicitDefEqProofs (disch:=omega) only [h1,h2,h5,h10,h11,hh2,hh5,go_sem]
  refine Af (fun hlt=>?_) (fun hge=>?_)
  ·have hc:=Gz t cur hl
   obtain ⟨d,hd⟩:∃ d,t.nodes.length - k=d+1:=⟨t.nodes.length - k - 1,by omega⟩
   have hd':t.nodes.length - (k+1)=d:=by omega
   rw [hd,ancF] at hup
   cases hf:AU t.nodes cur with
   | none =>
    rw [hf] at hc hup
    simp only [Option.getD_none,Option.isSome_none,lan] at hc hup
    unfold Nd.vv zeroNd at hc
    simp -implicitDefEqProofs (disch:=omega) only [h1,h2,h5,h10,h11,hh2,hh5,hc,go_sem]
    rw [hup]
   | some m =>
    rw [hf] at hc hup
    simp only [Option.getD_some,Option.isSome_some] at hc hup
    unfold Nd.vv at hc
    simp -implicitDefEqProofs (disch:=omega) only [h1,h2,h5,h10,h11,hh2,hh5,hc,go_sem]
    exact ⟨hlt,acc++[cur],m.parent,v+1,by rw [hup,hd'];simp,by simp;omega,rfl,by simp,by simp only [Int.natCast_add,Int.natCast_one],by simp⟩
  ·have hz:t.nodes.length - k=0:=by omega
   rw [hz,ancF,lan] at hup
   simp -implicitDefEqProofs (disch:=omega) only [h1,h2,h5,h10,h11,hh2,hh5,hge,go_sem]
   rw [hup]
theorem X4 (n:Nd):V 142 [n.vv] []=some (.p (.bool (decide (n.id=1/\n.parent=0/\n.name=⟨#[]⟩/\n.kind=0))),[]):=by
 refine Ad (vf:=vf142) rfl ?_
 simp -implicitDefEqProofs (disch:=omega) only [vf142,RI,go_sem]
 repeat' ((first|refine AN ?_ ?_|refine AM ?_ ?_|refine AQ ?_ ?_|refine AP ?_ ?_|refine AI ?_ ?_|refine AH ?_ ?_|refine AO ?_ ?_|refine AJ ?_ ?_|refine Af ?_ ?_|refine AS ?_ ?_)<;>intro hb<;>simp -implicitDefEqProofs (disch:=omega) only [hb,go_sem])
 all_goals
  simp only [pmi,VVal.p.injEq,PV.bool.injEq,and_true]
  rw [Bool.eq_iff_iff]
  simp only [decide_eq_true_eq,bft,false_iff]
  simp [*]
def Fq (pre:List Nd) (l n:Nd):Bool:=decide (l.id<n.id) && B4 n.name && decide (n.kind=0 \/ n.kind=1) && !(pre.any fun x=>decide (x.parent=n.parent/\x.name=n.name)) && pre.any fun x=>decide (x.id=n.parent)
theorem X9 (pre:List Nd) (l n:Nd) (hl:pre.getLast?=some l) (hlen:pre.length<1000000) (hs:n.name.size<9223372036854775808):V 143 [.p (Ao pre),n.vv] []=some (.p (.bool (Fq pre l n)),[]):=by
  refine Ad (vf:=vf143) rfl ?_
  have hpre : pre[((pre.length : Int) - 1).toNat]?=some l:=by
    rw [List.getLast?_eq_getElem?] at hl
    rw [show ((pre.length:Int) - 1).toNat=pre.length - 1 by omega]
    exact hl
  have hpos : 0<pre.length:=by
    have := (List.getElem?_eq_some_iff.1 hpre).1
    omega
  have hp0 : 0<=(pre.length : Int) - 1:=by omega
  have hv := W8 n.name hs
  simp -implicitDefEqProofs (disch:=omega) only [vf143,RH,hpre,hp0,go_sem]
  repeat' ((first|refine AN ?_ ?_|refine AM ?_ ?_|refine AQ ?_ ?_|refine AP ?_ ?_|refine AI ?_ ?_|refine AH ?_ ?_|refine AO ?_ ?_|refine AJ ?_ ?_|refine Af ?_ ?_|refine AS ?_ ?_)<;>intro hb<;>simp -implicitDefEqProofs (disch:=omega) only [hb,hpre,hv,go_sem])
  all_goals first
    | (simp only [Fq,pmi,VVal.p.injEq,PV.bool.injEq,and_true]
       rw [Bool.eq_iff_iff]
       simp only [bat,decide_eq_true_eq,bft,false_iff]
       try simp only [*]
       first | omega | (simp;done) | (simp;omega))
    | (have hvf:B4 n.name=false:=by simpa using ‹(!B4 n.name)=true›
       simp only [Fq,hvf,Bool.and_false,bfa]
       done)
    | skip
  all_goals
    have hvt : B4 n.name=true:=by simpa using ‹(!B4 n.name)=false›
    refine Ak pre.length (fun k s=>((pre.take k).any (fun x=>decide (x.parent=n.parent/\x.name=n.name))=false)/\s.pe 3=.ptr (.slot 3 0) 0 0/\s.pe 5=.p (.bool ((pre.take k).any fun x=>decide (x.id=n.parent)))/\s.pe 34=.p (Ao pre)/\s.pe 35=.p (.int .i64 pre.length)/\s.pe 36=.p (.int .i64 k)/\s.h (.slot 3 0)=some (0,.box (n.pv.cells.map .p))) ?_ ?_
    · exact ⟨by simp,rfl,rfl,rfl,rfl,rfl,by simp -implicitDefEqProofs (disch:=omega) only [go_sem];simp only [*]⟩
    · rintro k s hk ⟨hno,h3,h5,h34,h35,h36,hh3⟩
      simp only [Nd.pv,PV.cells,lpc,lpn] at hh3
      simp -implicitDefEqProofs (disch:=omega) only [h3,h5,h34,h35,h36,hh3,go_sem]
      refine Af (fun hki=>?_) (fun hge=>?_)
      · have hm:pre[k]?=some pre[k]:=lgg (by omega)
        generalize pre[k]=m at hm
        simp -implicitDefEqProofs (disch:=omega) only [h3,h5,h34,h35,h36,hh3,hm,hki,go_sem]
        repeat' ((first|refine AN ?_ ?_|refine AM ?_ ?_|refine AQ ?_ ?_|refine AP ?_ ?_|refine AI ?_ ?_|refine AH ?_ ?_|refine AO ?_ ?_|refine AJ ?_ ?_|refine Af ?_ ?_|refine AS ?_ ?_)<;>intro hb<;>simp -implicitDefEqProofs (disch:=omega) only [hb,h3,h5,h34,h35,h36,hh3,hm,hki,go_sem])
        all_goals first
          | (have ha:(pre.any fun x=>decide (x.parent=n.parent/\x.name=n.name))=true:=by
              rw [List.any_eq_true]
              exact ⟨m,lmg hm,by simp [*]⟩
             simp only [Fq,ha,Bool.not_true,Bool.and_false,bfa]
             done)
          | exact ⟨by rw [FH hm,hno];simp [*],by rw [FH hm];simp [*],by simp only [Int.natCast_add,Int.natCast_one]⟩
      · simp -implicitDefEqProofs (disch:=omega) only [h3,h5,h34,h35,h36,hh3,hge,go_sem]
        have hki:k=pre.length:=by omega
        subst hki
        rw [List.take_length] at hno ⊢
        simp only [Fq,hno,pmi,VVal.p.injEq,PV.bool.injEq,and_true]
        rw [Bool.eq_iff_iff]
        simp only [bat,decide_eq_true_eq,bnf,and_true,true_and]
        exact ⟨fun h=>⟨⟨⟨by omega,hvt⟩,by omega⟩,h⟩,fun h=>h.2⟩
theorem Ni {pre:List Nd} {l n:Nd} (hl:pre.getLast?=some l):BQ pre n=(decide (0<=n.control/\n.control<=31/\0<=n.owner/\n.owner<=1048576) && Fq pre l n):=by
 rw [Bool.eq_iff_iff]
 simp only [BQ,hl,Fq,bat,decide_eq_true_eq]
 constructor
 ·rintro ⟨⟨h1,h2⟩,⟨⟨h3,h4⟩,h5⟩,h6⟩
  exact ⟨h2,⟨⟨⟨h3,h4⟩,h1⟩,h5⟩,h6⟩
 ·rintro ⟨h2,⟨⟨⟨h3,h4⟩,h1⟩,h5⟩,h6⟩
  exact ⟨⟨h1,h2⟩,⟨⟨h3,h4⟩,h5⟩,h6⟩
theorem ZE {a:Int} (h0:0<=a) (h1:a<9223372036854775808):(IntKind.i64.wrap ((BitVec.ofInt IntKind.i64.bits a &&& ~~~ BitVec.ofInt IntKind.i64.bits 31).toNat:Int)=0)=(a<=31):=by
 have e64:IntKind.i64.bits=64:=rfl
 rw [eq_iff_iff]
 generalize hx:BitVec.ofInt IntKind.i64.bits a=x
 generalize hy:(x &&& ~~~ BitVec.ofInt IntKind.i64.bits 31)=y
 have hxn:x.toNat=a.toNat:=by
  rw [<- hx,BitVec.toNat_ofInt]
  rw [e64]
  omega
 have hbit:∀ i,y.getLsbD i=(x.getLsbD i && decide (5<=i)):=fun i=>by
  rw [<- hy,BitVec.getLsbD_and,BitVec.getLsbD_not]
  have h31:(BitVec.ofInt IntKind.i64.bits 31).getLsbD i=decide (i<5):=by
   rw [show BitVec.ofInt IntKind.i64.bits 31=BitVec.ofNat IntKind.i64.bits 31 from rfl,BitVec.getLsbD_ofNat]
   rw [show (31:Nat)=2 ^ 5 - 1 from rfl,Nat.testBit_two_pow_sub_one,e64]
   rw [Bool.eq_iff_iff]
   simp
   omega
  rw [h31]
  by_cases hi:i<IntKind.i64.bits
  ·rw [Bool.eq_iff_iff]
   simp [hi]
  ·have:x.getLsbD i=false:=BitVec.getLsbD_of_ge x i (by omega)
   simp [this]
 have hyle:y.toNat<=x.toNat:=by
  rw [<- hy,BitVec.toNat_and]
  exact Nat.and_le_left
 have hw:IntKind.i64.wrap (y.toNat:Int)=y.toNat:=FO (by omega) (by omega)
 rw [hw]
 constructor
 ·intro h
  have hy0:y=0#_:=BitVec.eq_of_toNat_eq (by simpa using h)
  have hlt:x.toNat<2 ^ 5:=Nat.lt_pow_two_of_testBit _ fun i hi=>by
   have:=hbit i
   rw [hy0] at this
   simp only [BitVec.getLsbD_zero,decide_eq_true hi,bau] at this
   exact this.symm
  omega
 ·intro h
  have hlt:x.toNat<2 ^ 5:=by omega
  have hy0:y=0#_:=BitVec.eq_of_getLsbD_eq fun i hi=>by
   rw [hbit i]
   by_cases h5:5<=i
   ·have:x.getLsbD i=false:=by
     rw [BitVec.getLsbD]
     exact Nat.testBit_lt_two_pow (Nat.lt_of_lt_of_le hlt (Nat.pow_le_pow_right (by omega) h5))
    simp [this]
   .simp [h5]
  rw [hy0]
  simp
theorem QY {a:Int} (h0:0<=a) (h1:a<9223372036854775808):(MJ .i64 a 31=0)=(a<=31):=ZE h0 h1
theorem MN {id:Int}:∀ (a b:List Nd),(∀ x∈a,x.id ≠ id)->upR (a++b) id=upR b id
 | [],_,_=>rfl
 | x::a,b,h=>by
  rw [lca,upR,if_neg (h x (lms ..)),MN a b fun y hy=>h y (lmc _ hy)]
theorem VR (pre:List Nd) (m:Nd):up (pre++[m]) m.id=m.id::up pre m.parent:=by
 unfold up
 rw [List.reverse_append]
 simp only [List.reverse_cons,List.reverse_nil,lna,lca,upR,if_true]
theorem VQ (pre:List Nd) (m:Nd) {id:Int} (h:m.id ≠ id):up (pre++[m]) id=up pre id:=by
 unfold up
 rw [List.reverse_append]
 simp only [List.reverse_cons,List.reverse_nil,lna,lca,upR]
 rw [if_neg h]
theorem ZR {ns:List Nd} (hinc:ns.Pairwise fun a b=>a.id<b.id) {k:Nat} {n:Nd} (hn:n∈ns.take k):up ns n.id=up (ns.take k) n.id:=by
 unfold up
 conv=>lhs;rw [<- List.take_append_drop k ns,List.reverse_append]
 refine MN _ _ fun x hx=>?_
 rw [List.mem_reverse] at hx
 rw [<- List.take_append_drop k ns,List.pairwise_append] at hinc
 have:=hinc.2.2 n hn x hx
 omega
theorem J5:∀ (ks:List MKey) (vs:List PV) (k:MKey) (v:PV),A1 (Av ks vs k v).1 (Av ks vs k v).2 k=some v
 | [],vs,k,v=>by cases vs<;>simp [Av,A1]
 | x::ks,[],k,v=>by simp [Av,A1]
 | x::ks,y::vs,k,v=>by
  unfold Av
  split
  ·rename_i h
   simp [A1,h]
  ·rename_i h
   simp only [A1,if_neg h]
   exact J5 ks vs k v
theorem MP:∀ (ks:List MKey) (vs:List PV) (k k':MKey) (v:PV),ks.length=vs.length->k' ≠ k->A1 (Av ks vs k v).1 (Av ks vs k v).2 k'=A1 ks vs k'
 | [],[],k,k',v,_,h=>by simp [Av,A1,h]
 | [],_::_,k,k',v,hl,h=>by simp at hl
 | x::ks,[],k,k',v,hl,h=>by simp at hl
 | x::ks,y::vs,k,k',v,hl,h=>by
  unfold Av
  split
  ·rename_i e
   subst e
   simp [A1,h]
  ·simp only [A1]
   split
   .rfl
   .exact MP ks vs k k' v (by simpa using hl) h
theorem PY:∀ (ks:List MKey) (vs:List PV) (k:MKey) (v:PV),ks.length=vs.length->(Av ks vs k v).1.length=(Av ks vs k v).2.length
 | [],[],_,_,_=>rfl
 | [],_::_,_,_,h=>by simp at h
 | _::_,[],_,_,h=>by simp at h
 | x::ks,y::vs,k,v,h=>by
  unfold Av
  split
  ·simpa using h
  ·simp only [llc]
   rw [PY ks vs k v (by simpa using h)]
structure Nd.Fits (n:Nd):Prop where
 name:n.name.size<9223372036854775808
 control:n.control<9223372036854775808
def Tr.Fits (t:Tr):Prop:=∀ n∈t.nodes,n.Fits
theorem JZ {t:Tr} {k:Nat} {m:Nd} (hm:t.nodes[k]?=some m) (h:BQ (t.nodes.take k) m=false):AY t=false:=by
 rw [Bool.eq_false_iff]
 intro h0
 have:=(EY _ _).1 ((Bh t).1 h0).nodes k m hm
 rw [lna,h] at this
 cases this
theorem S1 {t:Tr} {k:Nat} {m:Nd} (hm:t.nodes[k]?=some m) (h:9<(up (t.nodes.take (k+1)) m.id).length):AY t=false:=by
 rw [Bool.eq_false_iff]
 intro h0
 have hok:=(Bh t).1 h0
 have hin:m∈t.nodes.take (k+1):=by
  have:(t.nodes.take (k+1))[k]?=some m:=by rw [List.getElem?_take,if_pos (by omega)];exact hm
  exact lmg this
 have:=hok.depth m (lmg hm)
 rw [ZR hok.inc hin] at this
 omega
theorem Wh {pre:List Nd} {n:Nd} (h:¬ (0<=n.control/\n.control<=31/\0<=n.owner/\n.owner<=1048576)):BQ pre n=false:=by
 simp only [BQ,decide_eq_false h,Bool.and_false,bfa]
theorem Ho (t:Tr) (hf:t.Fits) (hl:t.nodes.length<1000000):V 70 [t.vv] []=some (.p (.bool (AY t)),[]):=by
 refine Ad (vf:=vf70) rfl ?_
 by_cases h1:(t.nodes.length:Int)<1
 ·simp -implicitDefEqProofs (disch:=omega) only [vf70,H4,h1,go_sem]
  simp [AY,show ¬ 1<=t.nodes.length by omega]
 by_cases h2:64<(t.nodes.length:Int)
 ·simp -implicitDefEqProofs (disch:=omega) only [vf70,H4,h1,h2,go_sem]
  simp [AY,show ¬ t.nodes.length<=64 by omega]
 have hz : (0 : Int).toNat=0:=rfl
 have hr0:t.nodes[0]?=some t.nodes[0]:=lgg (by omega)
 generalize t.nodes[0]=r at hr0
 have hroot:=X4 r
 by_cases hr:¬ (r.id=1/\r.parent=0/\r.name=⟨#[]⟩/\r.kind=0)
 ·rw [decide_eq_false hr] at hroot
  unfold Nd.vv at hroot
  simp -implicitDefEqProofs (disch:=omega) only [vf70,H4,h1,h2,hz,hr0,hroot,go_sem]
  rw [JZ hr0]
  rw [Bool.eq_false_iff]
  intro h0
  exact hr (Iz (by simpa using h0))
 have hr := Classical.not_not.1 hr
 rw [decide_eq_true hr] at hroot
 unfold Nd.vv at hroot
 simp -implicitDefEqProofs (disch:=omega) only [vf70,H4,h1,h2,hz,hr0,hroot,go_sem]
 refine Ak t.nodes.length (fun k s=>∃ (ks:List MKey) (vs:List PV),ks.length=vs.length/\(k=0->ks=[]/\vs=[])/\(∀ (i:Nat) (n:Nd),i<k->t.nodes[i]?=some n->(A1 ks vs (.int n.id)).getD (.int .i64 0)=.int .i64 (((up (t.nodes.take k) n.id).length:Int) - 1)) /\
  (∀ (i : Nat) (n : Nd),i<k->t.nodes[i]?=some n->BQ (t.nodes.take i) n=true)/\(∀ (i : Nat) (n : Nd),i<k->t.nodes[i]?=some n->(up (t.nodes.take k) n.id).length<=9)/\s.pe 1=.ptr (.slot 1 0) 0 0/\s.pe 3=.mref (.slot 24 0) 0/\s.pe 26=.p (Ao t.nodes)/\s.pe 27=.p (.int .i64 t.nodes.length)/\s.pe 28=.p (.int .i64 k) /\
  s.h (.slot 1 0)=some (0,.box [.p (Ao t.nodes),.p (.int .i64 t.next)])/\s.h (.slot 24 0)=some (0,.map (.int .i64) ks vs)) ?_ ?_
 ·refine ⟨[],[],rfl,fun _=>⟨rfl,rfl⟩,by omega,by omega,by omega,?_⟩
  simp -implicitDefEqProofs (disch:=omega) only [go_sem]
  rfl
 ·rintro k s hk ⟨ks,vs,hkl,hk0,hdep,hnok,hup,p1,p3,p26,p27,p28,hh1,hh24⟩
  simp -implicitDefEqProofs (disch:=omega) only [p1,p3,p26,p27,p28,hh1,hh24,go_sem]
  refine Af (fun hlt=>?_) (fun hge=>?_)
  ·have hm:t.nodes[k]?=some t.nodes[k]:=lgg hlt
   generalize t.nodes[k]=m at hm
   have hfit:=hf m (lmg hm)
   have hctl:=hfit.control
   by_cases hbad:0<=m.control/\m.control<=31/\0<=m.owner/\m.owner<=1048576
   ·have c1:¬ m.control<0:=by omega
    have c2:m.control<=31:=by omega
    have c3:¬ m.owner<0:=by omega
    have c4:¬ 1048576<m.owner:=by omega
    have hbits:=QY hbad.1 hctl
    by_cases hkp:0<(k:Int)
    ·obtain ⟨l,hlast⟩:∃ l,(t.nodes.take k).getLast?=some l:=by
      cases hq:(t.nodes.take k).getLast? with
      | none =>
       rw [List.getLast?_eq_none_iff] at hq
       have:=congrArg List.length hq
       rw [llt,lln] at this
       omega
      | some l=>exact ⟨l,rfl⟩
     have hfine:=X9 (t.nodes.take k) l m hlast (by simp;omega) hfit.name
     unfold Nd.vv Ao at hfine
     have hle:k<=t.nodes.length:=hk
     cases hfb:Fq (t.nodes.take k) l m with
     | false =>
      rw [hfb] at hfine
      simp -implicitDefEqProofs (disch:=omega) only [p1,p3,p26,p27,p28,hh1,hh24,hm,hbits,c1,c2,c3,c4,hkp,hle,Nat.sub_zero,<- List.map_take,hfine,go_sem]
      rw [JZ hm]
      rw [Ni hlast,hfb,Bool.and_false]
     | true =>
      rw [hfb] at hfine
      have hno:BQ (t.nodes.take k) m=true:=by rw [Ni hlast,hfb,decide_eq_true hbad];rfl
      obtain ⟨b1,b2,b3,b4,pn,hpn,hpe⟩:=(Gg hlast).1 hno
      obtain ⟨pi,hpi⟩:=lgm hpn
      have hpik:pi<k:=by
       have:=(lgs.1 hpi).1
       simp at this
       omega
      rw [List.getElem?_take,if_pos hpik] at hpi
      have hd:=hdep pi pn hpik hpi
      rw [hpe] at hd
      have hul:=hup pi pn hpik hpi
      rw [hpe] at hul
      simp -implicitDefEqProofs (disch:=omega) only [p1,p3,p26,p27,p28,hh1,hh24,hm,hbits,c1,c2,c3,c4,hkp,hle,Nat.sub_zero,<- List.map_take,hfine,hd,J5,Option.getD_some,go_sem]
      have htk:t.nodes.take (k+1)=t.nodes.take k++[m]:=Bi hm
      have hum:up (t.nodes.take (k+1)) m.id=m.id::up (t.nodes.take k) m.parent:=by rw [htk];exact VR _ _
      have hltm:∀ (i:Nat) (n:Nd),i<k->t.nodes[i]?=some n->n.id<m.id:=fun i n hi hn=>by
       have hno':Bn [] (t.nodes.take (k+1))=true:=(EY _ _).2 fun j x hx=>by
        have hjl:=(lgs.1 hx).1
        simp at hjl
        rw [List.getElem?_take,if_pos (by omega)] at hx
        rw [lna,List.take_take,Nat.min_eq_left (by omega)]
        rcases Nat.lt_or_ge j k with h0|h0
        ·exact hnok j x h0 hx
        ·have:j=k:=by omega
         subst this
         rw [hm] at hx
         simp at hx
         subst hx
         exact hno
       have hinc:=(Jj _ _ hno' (fun _ h=>by simp at h)).2
       rw [htk,List.pairwise_append] at hinc
       refine hinc.2.2 n ?_ m (by simp)
       have:(t.nodes.take k)[i]?=some n:=by rw [List.getElem?_take,if_pos hi];exact hn
       exact lmg this
      have hun:∀ (i:Nat) (n:Nd),i<k->t.nodes[i]?=some n->up (t.nodes.take (k+1)) n.id=up (t.nodes.take k) n.id:=fun i n hi hn=>by
       rw [htk]
       exact VQ _ _ (by have:=hltm i n hi hn;omega)
      refine Af (fun hdeep=>?_) (fun hshal=>?_)
      ·simp -implicitDefEqProofs (disch:=omega) only [p1,p3,p26,p27,p28,hh1,hh24,go_sem]
       rw [S1 hm]
       rw [hum,llc]
       omega
      ·simp -implicitDefEqProofs (disch:=omega) only [p1,p3,p26,p27,p28,hh1,hh24,go_sem]
       refine ⟨hlt,(Av ks vs (.int m.id) (.int .i64 (((up (t.nodes.take k) m.parent).length:Int) - 1+1))).1,(Av ks vs (.int m.id) (.int .i64 (((up (t.nodes.take k) m.parent).length:Int) - 1+1))).2,PY _ _ _ _ hkl,fun h=>h.elim,EW hm (fun i n hi hn=>?_) ?_,EW hm hnok hno,EW hm (fun i n hi hn=>?_) ?_,?_,rfl⟩
       ·rw [hun i n hi hn,MP _ _ _ _ _ hkl (by have:=hltm i n hi hn;simp;omega)]
        exact hdep i n hi hn
       ·rw [J5,hum]
        simp
       ·rw [hun i n hi hn]
        exact hup i n hi hn
       ·rw [hum,llc]
        omega
       .simp only [Int.natCast_add,Int.natCast_one]
    ·have hk0':k=0:=by omega
     subst hk0'
     obtain ⟨rfl,rfl⟩:=hk0 rfl
     rw [hm] at hr0
     simp only [osi] at hr0
     subst hr0
     have hg:(A1 [] [] (.int m.id)).getD (.int .i64 0)=.int .i64 0:=rfl
     have h80:¬ (8:Int)<0:=by omega
     simp -implicitDefEqProofs (disch:=omega) only [p1,p3,p26,p27,p28,hh1,hh24,hm,hbits,c1,c2,c3,c4,hkp,hg,h80,go_sem]
     have htk:t.nodes.take (0+1)=[m]:=Bi hm
     have hum:up (t.nodes.take (0+1)) m.id=[m.id]:=by rw [htk];simp [up,upR]
     refine ⟨hlt,[],[],rfl,fun h=>h.elim,EW hm (fun i n hi=>absurd hi (by omega)) ?_,EW hm (fun i n hi=>absurd hi (by omega)) ?_,EW hm (fun i n hi=>absurd hi (by omega)) ?_,rfl,rfl⟩
     ·rw [hum]
      rfl
     ·simp only [BQ,List.take_zero,List.getLast?_nil,decide_eq_true hr,decide_eq_true hbad,bau,decide_eq_true_eq]
      exact .inl hr.2.2.2
     ·rw [hum]
      simp
   ·simp -implicitDefEqProofs (disch:=omega) only [p1,p3,p26,p27,p28,hh1,hh24,hm,go_sem]
    repeat' ((first|refine AN ?_ ?_|refine AM ?_ ?_|refine AQ ?_ ?_|refine AP ?_ ?_|refine AI ?_ ?_|refine AH ?_ ?_|refine AO ?_ ?_|refine AJ ?_ ?_|refine Af ?_ ?_|refine AS ?_ ?_)<;>intro hb<;>simp -implicitDefEqProofs (disch:=omega) only [hb,p1,p3,p26,p27,p28,hh1,hh24,hm,QY,go_sem])
    all_goals first
     | (exfalso;omega)
     | (rw [JZ hm (Wh hbad)])
  ·have hke:k=t.nodes.length:=by omega
   subst hke
   rw [List.take_length] at hup
   have hla:t.nodes[((t.nodes.length:Int) - 1).toNat]?=some t.nodes[t.nodes.length - 1]:=by
    rw [show ((t.nodes.length:Int) - 1).toNat=t.nodes.length - 1 by omega]
    exact lgg (by omega)
   have hlast:t.nodes.getLast?=some t.nodes[t.nodes.length - 1]:=by
    rw [List.getLast?_eq_getElem?]
    exact lgg (by omega)
   generalize t.nodes[t.nodes.length - 1]=l at hla hlast
   have hok:Bn [] t.nodes=true:=(EY _ _).2 fun i n hn=>by simpa using hnok i n (lgs.1 hn).1 hn
   have hk2:t.nodes.all (fun n=>decide ((up t.nodes n.id).length<=9))=true:=by
    rw [List.all_eq_true]
    intro n hn
    obtain ⟨i,hi⟩:=lgm hn
    simpa using hup i n (lgs.1 hi).1 hi
   have hp0:0<=(t.nodes.length:Int) - 1:=by omega
   simp -implicitDefEqProofs (disch:=omega) only [p1,p3,p26,p27,p28,hh1,hh24,hge,hla,hp0,go_sem]
   repeat' ((first|refine AN ?_ ?_|refine AM ?_ ?_|refine AQ ?_ ?_|refine AP ?_ ?_|refine AI ?_ ?_|refine AH ?_ ?_|refine AO ?_ ?_|refine AJ ?_ ?_|refine Af ?_ ?_|refine AS ?_ ?_)<;>intro hb<;>simp -implicitDefEqProofs (disch:=omega) only [hb,p1,p3,p26,p27,p28,hh1,hh24,hla,go_sem])
   all_goals
    simp only [AY,hok,hk2,hlast,show (1<=t.nodes.length/\t.nodes.length<=64) by omega,pmi,VVal.p.injEq,PV.bool.injEq,and_true,decide_true,bta]
    rw [Bool.eq_iff_iff]
    simp only [decide_eq_true_eq,bft,false_iff]
    omega
theorem Dw {ns:List Nd} (hinc:ns.Pairwise fun a b=>a.id<b.id) {i:Nat} {n:Nd} (hn:ns[i]?=some n):AU ns n.id=some n:=by
 unfold AU
 refine J6 (k:=i) (fun j m hj hm=>?_) hn (by simp)
 have hl:=(lgs.1 hn).1
 have:=List.pairwise_iff_getElem.1 hinc j i (by omega) hl hj
 rw [(lgs.1 hm).2,(lgs.1 hn).2] at this
 simp
 omega
theorem TreeOk.pos {t:Tr} (h:TreeOk t):∀ n∈t.nodes,1<=n.id:=Kk t.nodes [] (by simp) h.nodes
theorem TreeOk.find0 {t:Tr} (h:TreeOk t):AU t.nodes 0=none:=by
 unfold AU
 rw [List.find?_eq_none]
 intro n hn
 have:=h.pos n hn
 simp
 omega
theorem TreeOk.nodeAt {t:Tr} (h:TreeOk t) {i:Nat} {n:Nd} (hn:t.nodes[i]?=some n):(i=0/\n.id=1/\n.parent=0) \/ (0<i/\1<n.id/\∃ j p,j<i/\t.nodes[j]?=some p/\p.id=n.parent):=by
 have hok:=(EY _ _).1 h.nodes i n hn
 rw [lna] at hok
 rcases Nat.eq_zero_or_pos i with rfl|hi
 ·left
  rw [List.take_zero] at hok
  have:=Iz hok
  exact ⟨rfl,this.1,this.2.1⟩
 ·right
  have hlt:=(lgs.1 hn).1
  cases hl:(t.nodes.take i).getLast? with
  | none =>
   rw [List.getLast?_eq_none_iff] at hl
   have:=congrArg List.length hl
   rw [llt,lln] at this
   omega
  | some l =>
   obtain ⟨_,h2,_,_,p,hp,he⟩:=(Gg hl).1 hok
   have h1:=h.pos l (List.mem_of_mem_take (List.mem_of_getLast? hl))
   obtain ⟨j,hj⟩:=lgm hp
   have hjl:=(lgs.1 hj).1
   simp at hjl
   rw [List.getElem?_take,if_pos (by omega)] at hj
   exact ⟨hi,by omega,j,p,by omega,hj,he⟩
theorem XU {t:Tr} (h:TreeOk t):∀ (i:Nat) (n:Nd),t.nodes[i]?=some n->∀ k k',i<k->i<k'->ancF t.nodes k n.id=ancF t.nodes k' n.id:=by
 intro i
 induction i using Nat.strongRecOn with
 | _ i ih =>
  intro n hn k k' hk hk'
  obtain ⟨k,rfl⟩:∃ m,k=m+1:=⟨k - 1,by omega⟩
  obtain ⟨k',rfl⟩:∃ m,k'=m+1:=⟨k' - 1,by omega⟩
  have hf:=Dw h.inc hn
  simp only [ancF,hf]
  congr 1
  rcases h.nodeAt hn with ⟨rfl,_,h0⟩|⟨hi,_,j,p,hj,hp,he⟩
  ·rw [h0]
   have hz:∀ m,ancF t.nodes m 0=[]:=fun m=>by
    cases m with
    | zero=>rfl
    | succ m=>simp only [ancF,h.find0]
   rw [hz,hz]
  ·rw [<- he]
   exact ih j hj p hp k k' (by omega) (by omega)
theorem PC {t:Tr} (h:TreeOk t) {i:Nat} {n:Nd} (hn:t.nodes[i]?=some n):ancF t.nodes t.nodes.length n.id=n.id::(if i=0 then [] else ancF t.nodes t.nodes.length n.parent):=by
 have hlt:=(lgs.1 hn).1
 obtain ⟨k,hk⟩:∃ m,t.nodes.length=m+1:=⟨t.nodes.length - 1,by omega⟩
 rw [hk]
 have hf:=Dw h.inc hn
 conv=>lhs;simp only [ancF,hf]
 congr 1
 rcases h.nodeAt hn with ⟨rfl,_,h0⟩|⟨hi,_,j,p,hj,hp,he⟩
 ·rw [h0,if_pos rfl]
  cases k with
  | zero=>rfl
  | succ m=>simp only [ancF,h.find0]
 ·rw [if_neg (by omega),<- he]
  exact XU h j p hp _ _ (by omega) (by omega)
theorem TreeOk.fits {t:Tr} (h:TreeOk t):t.Fits:=by
 intro n hn
 obtain ⟨i,hi⟩:=lgm hn
 have hok:=(EY _ _).1 h.nodes i n hi
 rw [lna] at hok
 unfold BQ at hok
 simp only [bat,decide_eq_true_eq] at hok
 refine ⟨?_,by omega⟩
 have h2:=hok.2
 split at h2
 ·simp only [decide_eq_true_eq] at h2
  rw [h2.2.2.1]
  decide
 ·simp only [bat] at h2
  have hv:=h2.1.1.2
  simp only [B4,bat,decide_eq_true_eq] at hv
  omega
theorem TreeOk.idx {t:Tr} (h:TreeOk t) {i j:Nat} {n m:Nd} (hn:t.nodes[i]?=some n) (hm:t.nodes[j]?=some m) (he:n.id=m.id):i=j/\n=m:=by
 obtain ⟨hi,rfl⟩:=lgs.1 hn
 obtain ⟨hj,rfl⟩:=lgs.1 hm
 have hp:=List.pairwise_iff_getElem.1 h.inc
 rcases Nat.lt_trichotomy i j with hlt|rfl|hlt
 .have:=hp i j hi hj hlt;omega
 .exact ⟨rfl,rfl⟩
 .have:=hp j i hj hi hlt;omega
theorem DA {t:Tr} (h:TreeOk t) {i:Nat} {n:Nd} (hn:t.nodes[i]?=some n) (c:Int):c∈ancF t.nodes t.nodes.length n.id ↔ c=n.id \/ (i ≠ 0/\c∈ancF t.nodes t.nodes.length n.parent):=by
 rw [PC h hn]
 by_cases hi:i=0
 .simp [hi]
 .simp [hi]
theorem TreeOk.kid {t:Tr} (h:TreeOk t) {i j:Nat} {n m:Nd} (hn:t.nodes[i]?=some n) (hm:t.nodes[j]?=some m) (hp:m.parent=n.id):i<j:=by
 rcases h.nodeAt hm with ⟨_,_,h0⟩|⟨_,_,k,p,hk,hpk,hpe⟩
 .have:=h.pos n (lmg hn);omega
 .have:=(h.idx hpk hn (by omega)).1;omega
theorem Jl {t:Tr} (h:TreeOk t):∀ (i:Nat) (n:Nd),t.nodes[i]?=some n->∀ c∈ancF t.nodes t.nodes.length n.id,∃ j m,j<=i/\t.nodes[j]?=some m/\m.id=c:=by
 intro i
 induction i using Nat.strongRecOn with
 | _ i ih =>
  intro n hn c hc
  rcases (DA h hn c).1 hc with rfl|⟨h0,hc⟩
  ·exact ⟨i,n,lrf _,hn,rfl⟩
  ·rcases h.nodeAt hn with ⟨h1,_⟩|⟨_,_,k,p,hk,hpk,hpe⟩
   ·contradiction
   ·rw [<- hpe] at hc
    obtain ⟨j,m,hj,hm,he⟩:=ih k hk p hpk c hc
    exact ⟨j,m,by omega,hm,he⟩
theorem I4 {t:Tr} (h:TreeOk t) {i:Nat} {n:Nd} (hn:t.nodes[i]?=some n):n.id∈ancF t.nodes t.nodes.length n.id:=(DA h hn _).2 (Or.inl rfl)
theorem OJ {t:Tr} (h:TreeOk t) {k:Nat} {c:Nd} (hc:t.nodes[k]?=some c) (hk:k ≠ 0):∀ (i:Nat) (n:Nd),t.nodes[i]?=some n->c.id∈ancF t.nodes t.nodes.length n.id->c.parent∈ancF t.nodes t.nodes.length n.id:=by
 intro i
 induction i using Nat.strongRecOn with
 | _ i ih =>
  intro n hn hm
  rcases (DA h hn c.id).1 hm with he|⟨h0,hm⟩
  ·obtain ⟨rfl,rfl⟩:=h.idx hc hn he
   rcases h.nodeAt hn with ⟨h1,_⟩|⟨_,_,j,p,hj,hp,hpe⟩
   ·contradiction
   ·refine (DA h hn _).2 (Or.inr ⟨hk,?_⟩)
    rw [<- hpe]
    exact I4 h hp
  ·refine (DA h hn _).2 (Or.inr ⟨h0,?_⟩)
   rcases h.nodeAt hn with ⟨h1,_⟩|⟨_,_,j,p,hj,hp,hpe⟩
   ·contradiction
   ·rw [<- hpe] at hm ⊢
    exact ih j hj p hp hm
theorem PB {t:Tr} (h:TreeOk t) {c:Int}:∀ (i:Nat) (n:Nd),t.nodes[i]?=some n->c∈ancF t.nodes t.nodes.length n.id->c ≠ n.id->∃ (j:Nat) (m:Nd),t.nodes[j]?=some m/\m.parent=c/\m.id∈ancF t.nodes t.nodes.length n.id:=by
 intro i
 induction i using Nat.strongRecOn with
 | _ i ih =>
  intro n hn hm hne
  rcases (DA h hn c).1 hm with he|⟨h0,hm⟩
  ·contradiction
  ·rcases h.nodeAt hn with ⟨h1,_⟩|⟨_,_,j,p,hj,hp,hpe⟩
   ·contradiction
   ·by_cases hcp:c=n.parent
    ·exact ⟨i,n,hn,hcp.symm,I4 h hn⟩
    ·rw [<- hpe] at hm
     obtain ⟨k,m,hk,hmp,hma⟩:=ih j hj p hp hm (by omega)
     rw [hpe] at hma
     exact ⟨k,m,hk,hmp,(DA h hn _).2 (Or.inr ⟨h0,hma⟩)⟩
def kidsN (ns:List Nd) (id:Int):List Int:=(ns.filter fun n=>decide (n.parent=id)).map (·.id)
def AC (ns:List Nd):Nat->Int->List Int
 | 0,_=>[]
 | k+1,id=>id::(kidsN ns id).flatMap (AC ns k)
theorem CI {ns:List Nd} {id x:Int}:x∈kidsN ns id ↔ ∃ (j:Nat) (m:Nd),ns[j]?=some m/\m.parent=id/\m.id=x:=by
 simp only [kidsN,lmm,List.mem_filter,decide_eq_true_eq]
 constructor
 ·rintro ⟨m,⟨hm,hp⟩,he⟩
  obtain ⟨j,hj⟩:=lgm hm
  exact ⟨j,m,hj,hp,he⟩
 ·rintro ⟨j,m,hj,hp,he⟩
  exact ⟨m,⟨lmg hj,hp⟩,he⟩
theorem HC {t:Tr} (h:TreeOk t):∀ (k i:Nat) (n:Nd),t.nodes[i]?=some n->t.nodes.length<=i+k->∀ x,x∈AC t.nodes k n.id ↔ ∃ (j:Nat) (m:Nd),t.nodes[j]?=some m/\m.id=x/\n.id∈ancF t.nodes t.nodes.length m.id:=by
 intro k
 induction k with
 | zero=>intro i n hn hk;have:=(lgs.1 hn).1;omega
 | succ k ih =>
  intro i n hn hk x
  simp only [AC,lmk,List.mem_flatMap]
  constructor
  ·rintro (rfl|⟨c,hc,hx⟩)
   ·exact ⟨i,n,hn,rfl,I4 h hn⟩
   ·obtain ⟨j,m,hj,hp,rfl⟩:=CI.1 hc
    have hij:=h.kid hn hj hp
    obtain ⟨q,y,hq,hy,hm⟩:=(ih j m hj (by omega) x).1 hx
    refine ⟨q,y,hq,hy,?_⟩
    rw [<- hp]
    exact OJ h hj (by omega) q y hq hm
  ·rintro ⟨j,m,hj,rfl,hm⟩
   by_cases he:n.id=m.id
   ·exact Or.inl he.symm
   ·obtain ⟨q,y,hq,hy,hm'⟩:=PB h j m hj hm he
    have hiq:=h.kid hn hq hy
    exact Or.inr ⟨y.id,CI.2 ⟨q,y,hq,hy,rfl⟩,(ih q y hq (by omega) _).2 ⟨j,m,hj,rfl,hm'⟩⟩
theorem Vo {t:Tr} (h:TreeOk t) (id:Int):(kidsN t.nodes id).Nodup:=by
 rw [kidsN,List.Nodup,List.pairwise_map]
 exact List.Pairwise.imp_of_mem (fun _ _ hab=>by omega) (h.inc.filter _)
theorem Ot {t:Tr} (h:TreeOk t):∀ (k i:Nat) (n:Nd),t.nodes[i]?=some n->t.nodes.length<=i+k->(AC t.nodes k n.id).Nodup:=by
 intro k
 induction k with
 | zero=>intro i n hn hk;have:=(lgs.1 hn).1;omega
 | succ k ih =>
  intro i n hn hk
  simp only [AC,List.nodup_cons]
  constructor
  ·intro hx
   obtain ⟨c,hc,hx⟩:=List.mem_flatMap.1 hx
   obtain ⟨j,m,hj,hp,rfl⟩:=CI.1 hc
   have hij:=h.kid hn hj hp
   obtain ⟨q,y,hq,hy,hm⟩:=(HC h k j m hj (by omega) n.id).1 hx
   obtain ⟨q',y',hle,hq',hy'⟩:=Jl h q y hq m.id hm
   have h1:=(h.idx hq hn hy).1
   have h2:=(h.idx hq' hj hy').1
   omega
  ·rw [List.Nodup,List.pairwise_flatMap]
   constructor
   ·intro c hc
    obtain ⟨j,m,hj,hp,rfl⟩:=CI.1 hc
    have hij:=h.kid hn hj hp
    exact ih j m hj (by omega)
   ·have hnd:=Vo h n.id
    refine List.Pairwise.imp_of_mem ?_ hnd
    intro c1 c2 hc1 hc2 hne x hx1 y hy2 hxy
    subst hxy
    obtain ⟨j1,m1,hj1,hp1,rfl⟩:=CI.1 hc1
    obtain ⟨j2,m2,hj2,hp2,rfl⟩:=CI.1 hc2
    have hij1:=h.kid hn hj1 hp1
    have hij2:=h.kid hn hj2 hp2
    obtain ⟨q,z,hq,hz,hm1⟩:=(HC h k j1 m1 hj1 (by omega) x).1 hx1
    obtain ⟨q',z',hq',hz',hm2⟩:=(HC h k j2 m2 hj2 (by omega) x).1 hy2
    obtain ⟨rfl,rfl⟩:=h.idx hq hq' (by omega)
    exact hne (sib h hn hj1 hj2 hp1 hp2 q z hq hm1 hm2)
where
 sib {t:Tr} (h:TreeOk t) {i j1 j2:Nat} {n m1 m2:Nd} (hn:t.nodes[i]?=some n) (hj1:t.nodes[j1]?=some m1) (hj2:t.nodes[j2]?=some m2) (hp1:m1.parent=n.id) (hp2:m2.parent=n.id):∀ (q:Nat) (z:Nd),t.nodes[q]?=some z->m1.id∈ancF t.nodes t.nodes.length z.id->m2.id∈ancF t.nodes t.nodes.length z.id->m1.id=m2.id:=by
  intro q
  induction q using Nat.strongRecOn with
  | _ q ih =>
   intro z hz h1 h2
   have hij1:=h.kid hn hj1 hp1
   have hij2:=h.kid hn hj2 hp2
   rcases (DA h hz _).1 h1 with e1|⟨h0,h1'⟩
   ·rcases (DA h hz _).1 h2 with e2|⟨_,h2'⟩
    ·omega
    ·obtain ⟨rfl,rfl⟩:=h.idx hj1 hz e1
     rw [hp1] at h2'
     obtain ⟨j,m,hle,hj,he⟩:=Jl h i n hn _ h2'
     have:=(h.idx hj hj2 he).1
     omega
   ·rcases (DA h hz _).1 h2 with e2|⟨_,h2'⟩
    ·obtain ⟨rfl,rfl⟩:=h.idx hj2 hz e2
     rw [hp2] at h1'
     obtain ⟨j,m,hle,hj,he⟩:=Jl h i n hn _ h1'
     have:=(h.idx hj hj1 he).1
     omega
    ·rcases h.nodeAt hz with ⟨hh,_⟩|⟨_,_,j,p,hj,hp,hpe⟩
     ·contradiction
     ·rw [<- hpe] at h1' h2'
      exact ih j hj p hp h1' h2'
theorem H9:∀ (l m:List Int),l.Nodup->(∀ x∈l,x∈m)->l.length<=m.length
 | [],_,_,_=>Nat.zero_le _
 | x::l,m,hn,hs=>by
  rw [List.nodup_cons] at hn
  have hx:x∈m:=hs x (lms ..)
  have:=H9 l (m.erase x) hn.2 fun y hy=>(List.mem_erase_of_ne (fun e=>hn.1 (by rw [<- e];exact hy))).2 (hs y (lmc _ hy))
  rw [List.length_erase_of_mem hx] at this
  have:=List.length_pos_of_mem hx
  simp only [llc]
  omega
theorem In {t:Tr} (h:TreeOk t) {k i:Nat} {n:Nd} (hn:t.nodes[i]?=some n) (hk:t.nodes.length<=i+k):(AC t.nodes k n.id).length<=t.nodes.length:=by
 have:=H9 _ (t.nodes.map (·.id)) (Ot h k i n hn hk) fun x hx=>by
  obtain ⟨j,m,hj,rfl,_⟩:=(HC h k i n hn hk x).1 hx
  exact lmm.2 ⟨m,lmg hj,rfl⟩
 simpa using this
theorem J0 {α β:Type} {f g:α->List β}:∀ {l:List α},(∀ a∈l,f a=g a)->l.flatMap f=l.flatMap g
 | [],_=>rfl
 | a::l,h=>by
  rw [lfc,lfc,h a (lms ..),J0 fun b hb=>h b (lmc _ hb)]
theorem WR {t:Tr} (h:TreeOk t):∀ (k k' i:Nat) (n:Nd),t.nodes[i]?=some n->t.nodes.length<=i+k->t.nodes.length<=i+k'->AC t.nodes k n.id=AC t.nodes k' n.id:=by
 intro k
 induction k with
 | zero=>intro k' i n hn hk;have:=(lgs.1 hn).1;omega
 | succ k ih =>
  intro k' i n hn hk hk'
  cases k' with
  | zero=>have:=(lgs.1 hn).1;omega
  | succ k' =>
   simp only [AC,List.cons.injEq,true_and]
   refine J0 fun c hc=>?_
   obtain ⟨j,m,hj,hp,rfl⟩:=CI.1 hc
   have hij:=h.kid hn hj hp
   exact ih k' j m hj (by omega) (by omega)
def BM (t:Tr) (id:Int):List Int:=if (A8 t id).isSome then AC t.nodes t.nodes.length id else []
theorem zaE (xs:List Int) (x:Int) (hl:xs.length<1000000):V 61 [.p (AT xs),.p (.int .i64 x)] []=some (.p (.bool (decide (x∈xs))),[]):=by
 refine Ad (vf:=vf61) rfl ?_
 simp -implicitDefEqProofs (disch:=omega) only [vf61,Sp,go_sem]
 refine Ak xs.length (fun k s=>(∀ (i:Nat) (y:Int),i<k->xs[i]?=some y->¬ y=x)/\s.pe 0=.p (AT xs)/\s.pe 1=.p (.int .i64 x)/\s.pe 5=.p (.int .i64 k)) ?_ ?_
 ·exact ⟨fun i _ hi=>absurd hi (Nat.not_lt_zero i),rfl,rfl,rfl⟩
 ·rintro k s hk ⟨hno,h0,h1,h5⟩
  simp -implicitDefEqProofs (disch:=omega) only [h0,h1,h5,go_sem]
  refine Af (fun hlt=>?_) (fun hge=>?_)
  ·have hm:xs[k]?=some xs[k]:=lgg hlt
   generalize xs[k]=y at hm
   by_cases hy:y=x
   ·have hin:decide (x∈xs)=true:=decide_eq_true (hy ▸ lmg hm)
    simp -implicitDefEqProofs (disch:=omega) only [h0,h1,h5,hm,hy,go_sem]
    rw [hin]
   ·simp -implicitDefEqProofs (disch:=omega) only [h0,h1,h5,hm,hy,go_sem]
    refine ⟨hlt,fun i z hi hz=>?_,rfl⟩
    rcases Nat.lt_succ_iff_lt_or_eq.1 hi with h|rfl
    .exact hno i z h hz
    .rw [hm] at hz;cases hz;exact hy
  ·have hin:decide (x∈xs)=false:=decide_eq_false fun h=>by
    obtain ⟨i,hi⟩:=lgm h
    exact hno i x (by have:=(lgs.1 hi).1;omega) hi rfl
   simp -implicitDefEqProofs (disch:=omega) only [h0,h1,h5,hge,go_sem]
   rw [hin]
theorem Ov {t:Tr} {id:Int} (h:(A8 t id).isSome=true):Ex t id=kidsN t.nodes id:=by
 rw [Ex,if_pos h];rfl
theorem Yq {t:Tr} (h:TreeOk t):∀ (k i:Nat) (n:Nd),t.nodes[i]?=some n->t.nodes.length<=i+k->V 284 [t.vv,.p (.int .i64 n.id)] []=some (.fresh 1 ((AC t.nodes k n.id).map (.int .i64)),[]):=by
 intro k
 induction k with
 | zero=>intro i n hn hk;have:=(lgs.1 hn).1;omega
 | succ k ih =>
  intro i n hn hk
  have hlen:=h.len
  have hft:(A8 t n.id).isSome=true:=by rw [A8,if_pos ((Bh t).2 h),Dw h.inc hn];rfl
  refine Ad (vf:=vf284) rfl ?_
  have hh:=DR t n.id (by omega)
  rw [hft] at hh
  have hkd:=K9 t n.id (by omega)
  rw [Ov hft] at hkd
  have hsl:=In h hn hk
  have hkl:(kidsN t.nodes n.id).length<=t.nodes.length:=by
   have:=List.length_filter_le (fun m:Nd=>decide (m.parent=n.id)) t.nodes
   simpa [kidsN] using this
  have hsf:AC t.nodes (k+1) n.id=n.id::(kidsN t.nodes n.id).flatMap (AC t.nodes k):=rfl
  have hkm:∀ c∈kidsN t.nodes n.id,V 284 [t.vv,.p (.int .i64 c)] []=some (.fresh 1 ((AC t.nodes k c).map (.int .i64)),[]):=by
   intro c hc
   obtain ⟨j,m,hj,hp,rfl⟩:=CI.1 hc
   have hij:=h.kid hn hj hp
   exact ih j m hj (by omega)
  rw [hsf] at hsl ⊢
  generalize kidsN t.nodes n.id=ks at hkd hkl hkm hsl
  simp -implicitDefEqProofs (disch:=omega) only [vf284,LR,hh,hkd,go_sem]
  refine Ak ks.length (fun j s=>∃ (acc:List Int) (v:Nat),acc=n.id::(ks.take j).flatMap (AC t.nodes k)/\s.pe 2=.ptr (.slot 2 0) 0 0/\s.pe 5=.own (.slot 13 0) v 0 acc.length/\s.pe 6=.own (.slot 16 1) 0 0 ks.length/\s.pe 7=.p (.int .i64 j)/\s.h (.slot 2 0)=some (0,.box [.p (Ao t.nodes),.p (.int .i64 t.next)])/\s.h (.slot 13 0)=some (v,.arr 1 (acc.map (.int .i64)))/\s.h (.slot 16 1)=some (0,.arr 1 (ks.map (.int .i64)))) ?_ ?_
  ·exact ⟨[n.id],0,rfl,by simp -implicitDefEqProofs (disch:=omega) only [go_sem],by simp -implicitDefEqProofs (disch:=omega) only [go_sem],by simp -implicitDefEqProofs (disch:=omega) only [go_sem],rfl,by simp -implicitDefEqProofs (disch:=omega) only [go_sem],by simp -implicitDefEqProofs (disch:=omega) only [go_sem],by simp -implicitDefEqProofs (disch:=omega) only [go_sem]⟩
  ·rintro j s hj ⟨acc,v,hacc,h2,h5,h6,h7,hh2,hh13,hh16⟩
   have hal:acc.length+((ks.drop j).flatMap (AC t.nodes k)).length<=t.nodes.length:=by
    rw [hacc]
    have:ks.flatMap (AC t.nodes k)=(ks.take j).flatMap (AC t.nodes k)++(ks.drop j).flatMap (AC t.nodes k):=by
     rw [<- List.flatMap_append,List.take_append_drop]
    rw [this] at hsl
    simp only [llc,lla] at hsl ⊢
    omega
   simp -implicitDefEqProofs (disch:=omega) only [h2,h5,h6,h7,hh2,hh13,hh16,go_sem]
   refine Af (fun hlt=>?_) (fun hge=>?_)
   ·have hm:ks[j]?=some ks[j]:=lgg hlt
    have hdr:ks.drop j=ks[j]::ks.drop (j+1):=ldg hlt
    generalize ks[j]=c at hm hdr
    have hc:=hkm c (lmg hm)
    rw [hdr,lfc,lla] at hal
    have htk:(ks.take (j+1)).flatMap (AC t.nodes k)=(ks.take j).flatMap (AC t.nodes k)++AC t.nodes k c:=by
     rw [Bi hm,List.flatMap_append]
     simp
    generalize AC t.nodes k c=sc at hc hal htk
    simp -implicitDefEqProofs (disch:=omega) only [h2,h5,h6,h7,hh2,hh13,hh16,hm,hc,hlt,go_sem]
    refine ⟨acc++sc,v+1,by rw [htk,hacc];simp,by simp,rfl,?_⟩
    simp
   ·rw [ltl (by omega)] at hacc
    simp -implicitDefEqProofs (disch:=omega) only [h2,h5,h6,h7,hh2,hh13,hh16,hge,go_sem]
    rw [hacc]
    rfl
theorem Z2 {t:Tr} (id:Int) (hl:t.nodes.length<1000000):V 284 [t.vv,.p (.int .i64 id)] []=some (.fresh 1 ((BM t id).map (.int .i64)),[]):=by
 cases hft:(A8 t id).isSome with
 | false =>
  refine Ad (vf:=vf284) rfl ?_
  have hh:=DR t id (by omega)
  rw [hft] at hh
  simp -implicitDefEqProofs (disch:=omega) only [vf284,LR,hh,go_sem]
  simp [BM,hft]
 | true =>
  have hok:TreeOk t:=by
   rw [A8] at hft
   split at hft
   .rename_i h;exact (Bh t).1 h
   .cases hft
  rw [A8,if_pos ((Bh t).2 hok)] at hft
  obtain ⟨n,hn,rfl⟩:=C2 hft
  obtain ⟨i,hi⟩:=lgm hn
  rw [Yq hok t.nodes.length i n hi (by omega),BM,A8,if_pos ((Bh t).2 hok),if_pos hft]
structure Ch where
 group:Int
 own:Int
 deriving DecidableEq
def Ch.pv (c:Ch):PV:=.agg [.int .i64 c.group,.int .i64 c.own]
abbrev Ch.vv (c:Ch):VVal:=.agg [.p (.int .i64 c.group),.p (.int .i64 c.own)]
abbrev As (l:List Ch):PV:=.slice 2 (l.map Ch.pv)
attribute [go_sem] Ch.pv
theorem Zw (l:List Ch):(l.map Ch.pv).all PV.flat=true:=by
 rw [List.all_eq_true]
 intro x hx
 obtain ⟨n,_,rfl⟩:=lmm.1 hx
 rfl
attribute [go_sem] Zw
def Aj:List Int->Int
 | []=>0
 | x::xs=>x+Aj xs
theorem Gf:∀ (a b:List Int),Aj (a++b)=Aj a+Aj b
 | [],b=>by simp [Aj]
 | x::a,b=>by have:=Gf a b;simp only [lca,Aj];omega
theorem Ny:∀ (a:List Int),(∀ x∈a,0<=x)->0<=Aj a
 | [],_=>Int.le_refl _
 | x::a,h=>by
  have:=Ny a (fun y hy=>h y (lmc _ hy))
  have:=h x (lms ..)
  simp only [Aj];omega
theorem J1 {α:Type} {f:α->Int} (a:List α) (h:∀ x∈a,0<=f x):0<=Aj (a.map f):=Ny _ (fun x hx=>by
 obtain ⟨y,hy,rfl⟩:=lmm.1 hx
 exact h y hy)
theorem J3 {α:Type} {f:α->Int} {l:List α} {k:Nat} {x:α} (h:l[k]?=some x):Aj ((l.take (k+1)).map f)=Aj ((l.take k).map f)+f x:=by
 rw [List.take_add_one,h]
 simp [Gf,Aj]
theorem Uu {α:Type} {f:α->Int} (l:List α) (k:Nat) (h:∀ x∈l,0<=f x):Aj ((l.take k).map f)<=Aj (l.map f):=by
 have h1:Aj (l.map f)=Aj ((l.take k).map f)+Aj ((l.drop k).map f):=by
  rw [<- Gf,<- lma,List.take_append_drop]
 have h2:=J1 (l.drop k) (f:=f) (fun x hx=>h x (List.mem_of_mem_drop hx))
 omega
def Am:List Ch->Int->Int
 | [],_=>0
 | c::l,id=>if c.group=id then c.own else Am l id
def Ck (p:Option Int) (g:Int):Bool:=match p with|none=>true|some q=>decide (q<g)
structure ChOk (ns:List Nd) (l:List Ch):Prop where
 known:∀ c∈l,(AU ns c.group).isSome=true
 inc:l.Pairwise fun a b=>a.group<b.group
 pos:∀ c∈l,1<=c.own
 all:Aj (l.map (·.own))<=16777216
theorem Iq {l:List Ch} (h:∀ c∈l,1<=c.own) (id:Int):0<=Am l id:=by
 induction l with
 | nil=>exact Int.le_refl _
 | cons c l ih =>
  unfold Am
  split
  .have:=h c (lms ..);omega
  .exact ih (fun d hd=>h d (lmc _ hd))
theorem O0 {l:List Ch} {id:Int} (h:∀ c∈l,c.group ≠ id):Am l id=0:=by
 induction l with
 | nil=>rfl
 | cons c l ih =>
  unfold Am
  rw [if_neg (h c (lms ..))]
  exact ih (fun d hd=>h d (lmc _ hd))
theorem Qr (f:Int->Int) (g v:Int):∀ (xs:List Int),xs.Nodup->Aj (xs.map fun x=>if x=g then v else f x)=Aj (xs.map f)+if g∈xs then v - f g else 0
 | [],_=>by simp [Aj]
 | x::xs,h=>by
  obtain ⟨hx,hn⟩:=List.nodup_cons.1 h
  have ih:=Qr f g v xs hn
  simp only [lpc,Aj,ih,lmk]
  by_cases he:x=g
  ·subst he
   simp [hx]
   omega
  ·have he':¬ g=x:=fun hh=>he hh.symm
   simp only [he,he',if_false,false_or]
   omega
theorem KP (c:Ch) (l:List Ch):Am (c::l)=fun x=>if x=c.group then c.own else Am l x:=by
 funext x
 simp only [Am,eq_comm]
theorem Nx:∀ xs:List Int,Aj (xs.map (Am []))=0
 | []=>rfl
 | x::xs=>by
  show Am [] x+Aj (xs.map (Am []))=0
  rw [Nx xs];rfl
theorem VS {l:List Ch} (h:∀ c∈l,1<=c.own) (xs:List Int) (hx:xs.Nodup):Aj (xs.map (Am l))<=Aj (l.map (·.own)):=by
 induction l with
 | nil =>
  rw [Nx]
  exact Int.le_refl _
 | cons c l ih =>
  have h0:=h c (lms ..)
  have hl:=fun d hd=>h d (lmc c hd)
  have h1:=ih hl
  rw [KP,Qr _ _ _ _ hx]
  have h3:=Iq hl c.group
  simp only [lpc,Aj]
  split<;>omega
def withGo (id v:Int):Bool->List Ch->List Ch
 | d,[]=>if d then [] else [⟨id,v⟩]
 | d,c::l=>(if !d && decide (id<=c.group) then [⟨id,v⟩] else [])++(if c.group=id then [] else [c])++withGo id v (d || decide (id<=c.group)) l
def Q2 (l:List Ch) (id v:Int):List Ch:=withGo id v (decide (v=0)) l
theorem E0 (id v:Int):∀ (l:List Ch) (d:Bool),∀ c∈withGo id v d l,(d=false/\c=⟨id,v⟩) \/ (c∈l/\c.group ≠ id)
 | [],d,c,hc=>by
  cases d
  ·simp [withGo] at hc;exact Or.inl ⟨rfl,hc⟩
  ·simp [withGo] at hc
 | e::l,d,c,hc=>by
  unfold withGo at hc
  simp only [lmp] at hc
  rcases hc with (hc|hc)|hc
  ·split at hc
   ·rename_i h
    simp only [bat,Bool.not_eq_true'] at h
    exact Or.inl ⟨h.1,by simpa using hc⟩
   ·simp at hc
  ·split at hc
   ·simp at hc
   ·rename_i h
    simp at hc
    subst hc
    exact Or.inr ⟨lms ..,h⟩
  ·rcases E0 id v l _ c hc with ⟨h1,h2⟩|⟨h1,h2⟩
   ·simp only [Bool.or_eq_false_iff] at h1
    exact Or.inl ⟨h1.1,h2⟩
   .exact Or.inr ⟨lmc _ h1,h2⟩
theorem It (id v:Int):∀ (l:List Ch) (d:Bool),(l.Pairwise fun a b=>a.group<b.group)->(withGo id v d l).Pairwise fun a b=>a.group<b.group
 | [],d,_=>by cases d<;>simp [withGo]
 | e :: l,d,h=>by
  obtain ⟨h0,h1⟩:=lpw.1 h
  have ih:=fun d=>It id v l d h1
  have hm:=E0 id v l
  unfold withGo
  by_cases hge:id<=e.group
  ·have hT:(withGo id v true l).Pairwise fun a b=>a.group<b.group:=ih true
   have hbig:∀ c∈withGo id v true l,e.group<c.group:=fun c hc=>by
    rcases hm true c hc with ⟨hh,_⟩|⟨hh,_⟩
    ·simp at hh
    ·exact h0 c hh
   cases d
   ·by_cases he:e.group=id
    ·simp only [hge,decide_true,bnf,bas,if_true,he,Int.le_refl,decide_true,lan,Bool.or_true,List.singleton_append,lpw]
     exact ⟨fun c hc=>by have:=hbig c hc;show id<c.group;omega,hT⟩
    ·simp only [hge,decide_true,bnf,bas,if_true,he,if_false,Bool.or_true,List.singleton_append,lca,lna,lpw,lmk,forall_eq_or_imp]
     exact ⟨⟨by show id<e.group;omega,fun c hc=>by have:=hbig c hc;show id<c.group;omega⟩,hbig,hT⟩
   ·by_cases he:e.group=id
    ·simp only [he,Bool.not_true,bfa,bft,if_false,if_true,lan,lna,Bool.true_or]
     exact hT
    ·simp only [he,Bool.not_true,bfa,bft,if_false,lna,Bool.true_or,List.singleton_append,lpw]
     exact ⟨hbig,hT⟩
  ·have he:¬ e.group=id:=by omega
   simp only [hge,decide_false,Bool.and_false,bft,if_false,he,lna,Bool.or_false,List.singleton_append,lpw]
   refine ⟨fun c hc=>?_,ih d⟩
   rcases hm d c hc with ⟨_,hh⟩|⟨hh,_⟩
   ·subst hh
    show e.group<id
    omega
   .exact h0 c hh
theorem NX (id v:Int):∀ (l:List Ch) (d:Bool),(l.Pairwise fun a b=>a.group<b.group)->Aj ((withGo id v d l).map (·.own))=Aj (l.map (·.own)) - Am l id+if d then 0 else v
 | [],d,_=>by cases d<;>simp [withGo,Aj,Am]
 | e::l,d,h=>by
  obtain ⟨h0,h1⟩:=lpw.1 h
  have ih:=fun d=>NX id v l d h1
  unfold withGo Am
  by_cases he:e.group=id
  ·have hz:Am l id=0:=O0 (fun c hc=>by have:=h0 c hc;omega)
   cases d<;>simp [he,Aj,ih,hz]<;>omega
  ·by_cases hge:id<=e.group
   .cases d<;>simp [he,hge,Aj,ih]<;>omega
   .cases d<;>simp [he,hge,Aj,ih]<;>omega
theorem ChOk.with {ns:List Nd} {l:List Ch} (h:ChOk ns l) {id v:Int} (hid:(AU ns id).isSome=true) (hv:0<=v) (hs:Aj (l.map (·.own)) - Am l id+v<=16777216):ChOk ns (Q2 l id v):=by
 refine ⟨fun c hc=>?_,It _ _ _ _ h.inc,fun c hc=>?_,?_⟩
 ·rcases E0 _ _ _ _ c hc with ⟨_,rfl⟩|⟨hh,_⟩
  ·exact hid
  ·exact h.known c hh
 ·rcases E0 _ _ _ _ c hc with ⟨hd,rfl⟩|⟨hh,_⟩
  ·simp at hd
   show 1<=v
   omega
  .exact h.pos c hh
 ·unfold Q2
  rw [NX _ _ _ _ h.inc]
  by_cases hz:v=0
  .simp [hz];omega
  .simp [hz];omega
def tot (t:Tr) (f:Int->Int) (id:Int):Int:=Aj ((AC t.nodes t.nodes.length id).map f)
def part (t:Tr) (f:Int->Int) (i:Nat) (id:Int):Int:=f id+Aj (((t.nodes.drop i).filter fun m=>decide (m.parent=id)).map fun m=>tot t f m.id)
theorem VT {t:Tr} (h:TreeOk t) {i:Nat} {n:Nd} (hn:t.nodes[i]?=some n):(AC t.nodes t.nodes.length n.id).Nodup:=Ot h _ _ _ hn (by omega)
theorem za2 {t:Tr} (h:TreeOk t) {l:List Ch} (hl:ChOk t.nodes l) {i:Nat} {n:Nd} (hn:t.nodes[i]?=some n):tot t (Am l) n.id<=Aj (l.map (·.own)):=VS hl.pos _ (VT h hn)
def Ap:List Ch->Int->Int
 | [],_=>100
 | c::l,id=>if c.group=id then c.own else Ap l id
def MK (l:List Ch):Prop:=∀ c∈l,1<=c.own/\c.own<=10000
theorem EB {l:List Ch} (h:MK l) (id:Int):1<=Ap l id/\Ap l id<=10000:=by
 induction l with
 | nil=>simp [Ap]
 | cons c l ih =>
  unfold Ap
  split
  .exact h c (lms ..)
  .exact ih fun d hd=>h d (lmc _ hd)
def onB (t:Tr) (active:List Int) (g:Int):Bool:=active.any fun a=>decide (g∈ancF t.nodes t.nodes.length a)
def DF (t:Tr) (w:Int->Int) (on:Int->Bool) (p:Int):Int:=Aj (((kidsN t.nodes p).filter on).map w)
def FP (t:Tr) (w:Int->Int) (on:Int->Bool):Nat->Int->Int
 | 0,_=>0
 | k+1,id=>if id=1 then 1073741824 else if on id=true then
   max 1 (FP t w on k ((AU t.nodes id).getD zeroNd).parent*w id / DF t w on ((AU t.nodes id).getD zeroNd).parent) else 0
def shr (t:Tr) (w:Int->Int) (on:Int->Bool) (id:Int):Int:=FP t w on t.nodes.length id
theorem U7 {t:Tr} (h:TreeOk t) (w:Int->Int) (on:Int->Bool):∀ (i:Nat) (n:Nd),t.nodes[i]?=some n->∀ k k',i<k->i<k'->FP t w on k n.id=FP t w on k' n.id:=by
 intro i
 induction i using Nat.strongRecOn with
 | _ i ih =>
  intro n hn k k' hk hk'
  obtain ⟨k,rfl⟩:∃ q,k=q+1:=⟨k - 1,by omega⟩
  obtain ⟨k',rfl⟩:∃ q,k'=q+1:=⟨k' - 1,by omega⟩
  simp only [FP,Dw h.inc hn,Option.getD_some]
  rcases h.nodeAt hn with ⟨_,h1,_⟩|⟨_,_,j,p,hj,hp,hpe⟩
  .simp [h1]
  .rw [<- hpe,ih j hj p hp k k' (by omega) (by omega)]
theorem IT (t:Tr) (h:TreeOk t) (w:Int->Int) (on:Int->Bool):shr t w on 1=1073741824:=by
 have:=h.len
 unfold shr
 obtain ⟨k,hk⟩:∃ q,t.nodes.length=q+1:=⟨t.nodes.length - 1,by omega⟩
 rw [hk]
 simp [FP]
theorem IS {t:Tr} (h:TreeOk t) (w:Int->Int) (on:Int->Bool) {i:Nat} {n:Nd} (hn:t.nodes[i]?=some n) (hi:i ≠ 0):shr t w on n.id=if on n.id=true then max 1 (shr t w on n.parent*w n.id / DF t w on n.parent) else 0:=by
 have hl:=(lgs.1 hn).1
 rcases h.nodeAt hn with ⟨h0,_⟩|⟨_,h1,j,p,hj,hp,hpe⟩
 ·omega
 ·have hf:=U7 h w on j p hp t.nodes.length (t.nodes.length - 1) (by omega) (by omega)
  rw [hpe] at hf
  unfold shr
  rw [hf]
  obtain ⟨k,hk⟩:∃ q,t.nodes.length=q+1:=⟨t.nodes.length - 1,by omega⟩
  rw [hk]
  simp only [FP,Dw h.inc hn,Option.getD_some,Nat.add_sub_cancel,show ¬ n.id=1 by omega,if_false]
structure UpClosed (t:Tr) (on:Int->Bool):Prop where
 up:∀ (i:Nat) (n:Nd),t.nodes[i]?=some n->i ≠ 0->on n.id=true->on n.parent=true
theorem QU {t:Tr} (h:TreeOk t) (active:List Int):UpClosed t (onB t active) where
 up := fun i n hn hi hon=>by
  simp only [onB,List.any_eq_true,decide_eq_true_eq] at hon ⊢
  obtain ⟨a,ha,hm⟩:=hon
  refine ⟨a,ha,?_⟩
  cases hf:AU t.nodes a with
  | none =>
   have:ancF t.nodes t.nodes.length a=[]:=by
    cases hl:t.nodes.length with
    | zero=>rfl
    | succ k=>unfold ancF;rw [hf]
   rw [this] at hm
   cases hm
  | some x =>
   obtain ⟨y,hy,hye⟩:=C2 (ns:=t.nodes) (id:=a) (by rw [hf];rfl)
   obtain ⟨j,hj⟩:=lgm hy
   rw [<- hye] at hm ⊢
   exact OJ h hn hi j y hj hm
theorem TM {t:Tr} {on:Int->Bool} {p x:Int}:x∈(kidsN t.nodes p).filter on ↔ (∃ (j:Nat) (m:Nd),t.nodes[j]?=some m/\m.parent=p/\m.id=x)/\on x=true:=by
 rw [List.mem_filter,CI]
theorem Kf {f:Int->Int} {x:Int}:∀ (l:List Int),(∀ y∈l,0<=f y)->x∈l->f x<=Aj (l.map f)
 | [],_,h=>by cases h
 | y::l,h,hx=>by
  have h0:=h y (lms ..)
  have h1:=J1 l (f:=f) fun z hz=>h z (lmc _ hz)
  simp only [lpc,Aj]
  rcases lmk.1 hx with rfl|hx
  ·omega
  ·have:=Kf l (fun z hz=>h z (lmc _ hz)) hx
   omega
theorem Qs {t:Tr} {w:Int->Int} (hw:∀ x,1<=w x) {on:Int->Bool} {i:Nat} {n:Nd} (hn:t.nodes[i]?=some n) (hon:on n.id=true):w n.id<=DF t w on n.parent :=
 Kf _ (fun y _=>by have:=hw y;omega) (TM.2 ⟨⟨i,n,hn,rfl,rfl⟩,hon⟩)
theorem Nk {s w W:Int} (hs:0<=s) (hw:0<=w) (h:w<=W) (hW:0<W):s*w / W<=s:=by
 have h1:s*w<=s*W:=Int.mul_le_mul_of_nonneg_left h hs
 have h2:s*w / W<=s*W / W:=Int.ediv_le_ediv hW h1
 rwa [Int.mul_ediv_cancel _ (by omega)] at h2
theorem WT {t:Tr} (h:TreeOk t) {w:Int->Int} (hw:∀ x,1<=w x) {on:Int->Bool} (hu:UpClosed t on):∀ (i:Nat) (n:Nd),t.nodes[i]?=some n->0<=shr t w on n.id/\shr t w on n.id<=1073741824/\(i=0 \/ on n.id=true->1<=shr t w on n.id):=by
 intro i
 induction i using Nat.strongRecOn with
 | _ i ih =>
  intro n hn
  by_cases hi:i=0
  ·rcases h.nodeAt hn with ⟨_,h1,_⟩|⟨h0,_⟩
   ·rw [h1,IT t h];omega
   ·omega
  ·rw [IS h w on hn hi]
   rcases h.nodeAt hn with ⟨h0,_⟩|⟨_,h1,j,p,hj,hp,hpe⟩
   ·omega
   ·by_cases hon:on n.id=true
    ·rw [if_pos hon]
     have hpo:=hu.up i n hn hi hon
     obtain ⟨a1,a2,a3⟩:=ih j hj p hp
     rw [hpe] at a1 a2 a3
     have a4:=a3 (Or.inr hpo)
     have hW:=Qs hw hn hon
     have hwn:=hw n.id
     have:=Nk (s:=shr t w on n.parent) (w:=w n.id) (W:=DF t w on n.parent) a1 (by omega) hW (by omega)
     omega
    ·rw [if_neg hon]
     exact ⟨by omega,by omega,fun hh=>by rcases hh with hh|hh<;>contradiction⟩
theorem zax {t:Tr} (h:TreeOk t) (w:Int->Int) (on:Int->Bool) {i:Nat} {n:Nd} (hn:t.nodes[i]?=some n) {x:Int} (hx:x∈kidsN t.nodes n.id):shr t w on x=if on x=true then max 1 (shr t w on n.id*w x / DF t w on n.id) else 0:=by
 obtain ⟨j,m,hm,hp,rfl⟩:=CI.1 hx
 have:=h.kid hn hm hp
 rw [IS h w on hm (by omega),hp]
abbrev MI (l:List Ch):VVal:=.agg [.p (As l)]
theorem Z5 (l:List Ch) (id:Int) (hl:l.length<1000000):V 285 [MI l,.p (.int .i64 id)] []=some (.p (.int .i64 (Am l id)),[]):=by
 refine Ad (vf:=vf285) rfl ?_
 simp -implicitDefEqProofs (disch:=omega) only [vf285,Q3,go_sem]
 refine Ak l.length (fun k s=>Am l id=Am (l.drop k) id/\s.pe 1=.p (.int .i64 id)/\s.pe 2=.ptr (.slot 2 0) 0 0/\s.pe 5=.p (.int .i64 k)/\s.h (.slot 2 0)=some (0,.box [.p (As l)])) ?_ ?_
 ·exact ⟨rfl,rfl,rfl,rfl,rfl⟩
 ·rintro k s hk ⟨ho,h1,h2,h5,hh2⟩
  simp -implicitDefEqProofs (disch:=omega) only [h1,h2,h5,hh2,go_sem]
  refine Af (fun hlt=>?_) (fun hge=>?_)
  ·have hm:l[k]?=some l[k]:=lgg hlt
   have hd:l.drop k=l[k]::l.drop (k+1):=ldg hlt
   generalize l[k]=c at hm hd
   rw [hd,Am] at ho
   by_cases he:c.group=id
   ·rw [if_pos he] at ho
    simp -implicitDefEqProofs (disch:=omega) only [h1,h2,h5,hh2,hlt,hm,he,ho,go_sem]
   ·rw [if_neg he] at ho
    simp -implicitDefEqProofs (disch:=omega) only [h1,h2,h5,hh2,hlt,hm,he,go_sem]
    exact ⟨ho,rfl⟩
  ·rw [ldl (by omega),Am] at ho
   simp -implicitDefEqProofs (disch:=omega) only [h1,h2,h5,hh2,hge,ho,go_sem]
def Rep (ks:List MKey) (vs:List PV) (f:Int->Int):Prop:=∀ id,(A1 ks vs (.int id)).getD (.int .i64 0)=.int .i64 (f id)
theorem Gu (x k':MKey) (v':PV):∀ (ks:List MKey) (vs:List PV),A1 (Av ks vs k' v').1 (Av ks vs k' v').2 x=if x=k' then some v' else A1 ks vs x
 | [],[]=>by simp [Av,A1]
 | [],_::_=>by simp [Av,A1]
 | _::_,[]=>by simp [Av,A1]
 | k::ks,v::vs=>by
  have ih:=Gu x k' v' ks vs
  by_cases h:k'=k
  ·subst h
   simp only [Av,if_true,A1]
   by_cases hx:x=k'<;>simp [hx]
  ·simp only [Av,h,if_false,A1,ih]
   by_cases hx:x=k
   ·have:¬ x=k':=fun hh=>h (hh ▸ hx)
    simp [hx,this]
    intro hh
    exact absurd hh.symm h
   .simp [hx]
theorem Rep.put {ks:List MKey} {vs:List PV} {f:Int->Int} (h:Rep ks vs f) (g v:Int):Rep (Av ks vs (.int g) (.int .i64 v)).1 (Av ks vs (.int g) (.int .i64 v)).2 (fun x=>if x=g then v else f x):=by
 intro id
 rw [Gu]
 by_cases hg:id=g
 ·subst hg
  simp
 ·simp [hg]
  exact h id
theorem O1 (c:Ch) (x:Int):∀ (a:List Ch),(∀ d∈a,d.group ≠ c.group)->Am (a++[c]) x=if x=c.group then c.own else Am a x
 | [],_=>by simp only [lna,Am,eq_comm]
 | d::a,h=>by
  have ih:=O1 c x a (fun e he=>h e (lmc _ he))
  have hd:=h d (lms ..)
  simp only [lca,Am,ih]
  by_cases h1:d.group=x
  ·have h2:¬ x=c.group:=by omega
   simp [h1,h2]
  .simp [h1]
theorem Z6 {t:Tr} (h:TreeOk t):∃ r,t.nodes[0]?=some r/\r.id=1:=by
 obtain ⟨r,ns,hr,h1,_⟩:=h.root
 exact ⟨r,by rw [hr];rfl,h1⟩
def Bv (kn:Int->Bool) (lo hi:Int):Option Int->List Ch->Bool
 | _,[]=>true
 | p,c::l=>kn c.group && Ck p c.group && decide (lo<=c.own/\c.own<=hi) && Bv kn lo hi (some c.group) l
def Eo (l:List Ch) (k:Nat):Option Int:=if k=0 then none else (l[k - 1]?).map (·.group)
structure AscOk (kn:Int->Bool) (lo hi:Int) (l:List Ch):Prop where
 known:∀ c∈l,kn c.group=true
 inc:l.Pairwise fun a b=>a.group<b.group
 range:∀ c∈l,lo<=c.own/\c.own<=hi
theorem OI (kn:Int->Bool) (lo hi:Int):∀ (l:List Ch) (p:Option Int),Bv kn lo hi p l=true ↔ (∀ c∈l,kn c.group=true)/\(l.Pairwise fun a b=>a.group<b.group)/\(∀ q,p=some q->∀ c∈l,q<c.group)/\∀ c∈l,lo<=c.own/\c.own<=hi
 | [],p=>by simp [Bv]
 | c::l,p=>by
  have hp:Ck p c.group=true ↔ ∀ q,p=some q->q<c.group:=by
   cases p<;>simp [Ck]
  simp only [Bv,bat,decide_eq_true_eq,hp,lmk,forall_eq_or_imp,lpw,OI kn lo hi l (some c.group)]
  constructor
  ·rintro ⟨⟨⟨h1,h2⟩,h3⟩,a1,a2,a3,a4⟩
   refine ⟨⟨h1,a1⟩,⟨a3 _ rfl,a2⟩,fun q hq=>⟨h2 q hq,fun d hd=>?_⟩,h3,a4⟩
   have:=h2 q hq
   have:=a3 _ rfl d hd
   omega
  ·rintro ⟨⟨h1,a1⟩,⟨a3,a2⟩,h2,h3,a4⟩
   refine ⟨⟨⟨h1,fun q hq=>(h2 q hq).1⟩,h3⟩,a1,a2,fun q hq=>?_,a4⟩
   cases hq
   exact a3
theorem EG (kn:Int->Bool) (lo hi:Int) (l:List Ch):Bv kn lo hi none l=true ↔ AscOk kn lo hi l:=by
 rw [OI kn lo hi l none]
 constructor
 ·rintro ⟨a,b,_,d⟩
  exact ⟨a,b,d⟩
 ·rintro ⟨a,b,d⟩
  exact ⟨a,b,fun q hq=>by simp at hq,d⟩
def G4 (kn:Int->Bool) (lo hi:Int) (l:List Ch) (k:Nat) (c:Ch):Prop:=kn c.group=true/\(k=0 \/ ∃ e,l[k - 1]?=some e/\e.group<c.group)/\lo<=c.own/\c.own<=hi
theorem PS {l:List Ch} {k:Nat} {c:Ch} (hm:l[k]?=some c):Ck (Eo l k) c.group=true ↔ (k=0 \/ ∃ e,l[k - 1]?=some e/\e.group<c.group):=by
 unfold Eo
 by_cases hk:k=0
 ·simp [hk,Ck]
 ·have hl:=(lgs.1 hm).1
  have he:l[k - 1]?=some l[k - 1]:=lgg (by omega)
  rw [if_neg hk,he]
  simp [Ck,hk]
theorem Lr {kn:Int->Bool} {lo hi:Int} {l:List Ch} {k:Nat} {c:Ch} (hq:Bv kn lo hi none l=Bv kn lo hi (Eo l k) (l.drop k)) (hm:l[k]?=some c) (h:G4 kn lo hi l k c):Bv kn lo hi none l=Bv kn lo hi (Eo l (k+1)) (l.drop (k+1)):=by
 have hl:=(lgs.1 hm).1
 have hd:l.drop k=c::l.drop (k+1):=by
  rw [ldg hl]
  rw [lgg hl] at hm
  cases hm
  rfl
 obtain ⟨h1,h2,h3,h4⟩:=h
 rw [hq,hd,Bv,h1,(PS hm).2 h2,decide_eq_true ⟨h3,h4⟩]
 simp [Eo,hm]
theorem LL {kn:Int->Bool} {lo hi:Int} {l:List Ch} {k:Nat} {c:Ch} (hq:Bv kn lo hi none l=Bv kn lo hi (Eo l k) (l.drop k)) (hm:l[k]?=some c) (h:¬ G4 kn lo hi l k c):Bv kn lo hi none l=false:=by
 have hl:=(lgs.1 hm).1
 have hd:l.drop k=c::l.drop (k+1):=by
  rw [ldg hl]
  rw [lgg hl] at hm
  cases hm
  rfl
 rw [Bool.eq_false_iff]
 intro ht
 apply h
 rw [hq,hd,Bv] at ht
 simp only [bat,decide_eq_true_eq] at ht
 exact ⟨ht.1.1.1,(PS hm).1 ht.1.1.2,ht.1.2⟩
theorem LK {kn:Int->Bool} {lo hi:Int} {l:List Ch} {k:Nat} (hq:Bv kn lo hi none l=Bv kn lo hi (Eo l k) (l.drop k)) (hk:l.length<=k):Bv kn lo hi none l=true:=by
 rw [hq,ldl hk]
 simp [Bv]
theorem LB {l:List Ch} {k:Nat} {c:Ch} (hm:l[k]?=some c) (hk:(0:Int)<k):∃ e,l[k - 1]?=some e/\l[((k:Int) - 1).toNat]?=some e:=by
 have hl:=(lgs.1 hm).1
 have he:l[k - 1]?=some l[k - 1]:=lgg (by omega)
 exact ⟨_,he,by rw [show ((k:Int) - 1).toNat=k - 1 by omega];exact he⟩
theorem KE {kn:Int->Bool} {lo hi:Int} {l:List Ch} {k:Nat} {c:Ch} (hk:¬ (0:Int)<k):G4 kn lo hi l k c ↔ kn c.group=true/\lo<=c.own/\c.own<=hi:=by
 have:k=0:=by omega
 subst this
 simp [G4]
theorem KF {kn:Int->Bool} {lo hi:Int} {l:List Ch} {k:Nat} {c e:Ch} (hk:(0:Int)<k) (he:l[k - 1]?=some e):G4 kn lo hi l k c ↔ kn c.group=true/\e.group<c.group/\lo<=c.own/\c.own<=hi:=by
 have:¬ k=0:=by omega
 simp [G4,this,he]
theorem Lp (t:Tr) (id:Int) (hl:t.nodes.length<1000000):V 262 [t.vv,.p (.int .i64 id)] []=some (.fresh 1 ((kidsN t.nodes id).map (.int .i64)),[]):=by
 refine Ad (vf:=vf262) rfl ?_
 simp -implicitDefEqProofs (disch:=omega) only [vf262,Q8,go_sem]
 obtain ⟨I,hI⟩:=lpI fun k s=>∃ (acc:List Int) (w:Nat),acc=kidsN (t.nodes.take k) id/\acc.length<=k/\s.pe 1=.p (.int .i64 id)/\s.pe 5=.own (.slot 5 0) w 0 acc.length/\s.pe 9=.p (Ao t.nodes)/\s.pe 10=.p (.int .i64 t.nodes.length)/\s.pe 11=.p (.int .i64 k)/\s.h (.slot 5 0)=some (w,.arr 1 (acc.map (.int .i64)))
 refine Ak (t.nodes.length) I ?_ ?_
 ·refine (hI _ _).2 ⟨[],0,?_⟩
  and_intros
  ·exact cl3
  ·exact cl3
  all_goals exact cl0
 intro k s hk hIk
 obtain ⟨acc,w,hacc,hal,hH⟩:=(hI _ _).1 hIk
 clear hIk
 simp -implicitDefEqProofs (disch:=omega) only [hH,go_sem]
 refine Af (fun hlt=>?_) (fun hge=>?_)
 ·have hm:t.nodes[k]?=some t.nodes[k]:=lgg hlt
  generalize t.nodes[k]=m at hm
  have hst:=Hi (p:=fun n:Nd=>decide (n.parent=id)) hm
  by_cases hp:m.parent=id
  ·simp only [hp,decide_true,if_true] at hst
   simp -implicitDefEqProofs (disch:=omega) only [hH,hlt,hm,hp,go_sem]
   try refine ai ?_
   refine (hI _ _).2 ⟨acc++[m.id],w+1,?_⟩
   and_intros
   .exact by rw [kidsN,hst,lma,hacc];rfl
   .exact by simp;omega
   all_goals exact cl0
  ·simp only [hp,decide_false,bft,if_false] at hst
   simp -implicitDefEqProofs (disch:=omega) only [hH,hlt,hm,hp,go_sem]
   try refine ai ?_
   refine (hI _ _).2 ⟨acc,w,?_⟩
   and_intros
   .exact by rw [kidsN,hst,hacc];rfl
   .omega
   all_goals exact cl0
 ·rw [ltl (by omega)] at hacc
  simp -implicitDefEqProofs (disch:=omega) only [hH,hge,hacc,go_sem]
theorem M3:¬ ((0:Int)<((0:Nat):Int)):=by omega
def Ag (ns:List Nd) (g:Int):Bool:=(AU ns g).isSome
theorem Ze {l:List Ch} (hinc:l.Pairwise fun a b=>a.group<b.group) {k:Nat} {c:Ch} (hm:l[k]?=some c):∀ d∈l.take k,d.group ≠ c.group:=by
 intro d hd
 obtain ⟨j,hj⟩:=lgm hd
 have hjk:j<k:=by
  have:=(lgs.1 hj).1
  simp at this
  omega
 rw [List.getElem?_take_of_lt hjk] at hj
 obtain ⟨hjl,he⟩:=lgs.1 hj
 obtain ⟨hkl,he2⟩:=lgs.1 hm
 have:=List.pairwise_iff_getElem.1 hinc j k hjl hkl hjk
 rw [he,he2] at this
 omega
def Rep2 (ks:List MKey) (vs:List PV) (f:Int->Option Int):Prop:=∀ id,A1 ks vs (.int id)=(f id).map (.int .i64)
theorem Rep2.put {ks:List MKey} {vs:List PV} {f:Int->Option Int} (h:Rep2 ks vs f) (g v:Int):Rep2 (Av ks vs (.int g) (.int .i64 v)).1 (Av ks vs (.int g) (.int .i64 v)).2 (fun x=>if x=g then some v else f x):=by
 intro id
 rw [Gu]
 by_cases hg:id=g
 ·subst hg
  simp
 ·simp [hg]
  exact h id
def sharesF (t:Tr) (w:Int->Int) (on:Int->Bool):Nat->Int->Int->List Ch
 | 0,_,_=>[]
 | k+1,id,s=>if on id=true then ⟨id,s⟩::(kidsN t.nodes id).flatMap (fun c=>if on c=true then sharesF t w on k c (max 1 (s*w c / DF t w on id)) else []) else []
theorem NC {t:Tr} (h:TreeOk t) (w:Int->Int) (on:Int->Bool):∀ (k i:Nat) (n:Nd),t.nodes[i]?=some n->∀ x∈sharesF t w on k n.id (shr t w on n.id),on x.group=true/\x.own=shr t w on x.group
 | 0, _, _, _, x, hx=>by simp [sharesF] at hx
 | k + 1,i,n,hn,x,hx=>by
  unfold sharesF at hx
  split at hx
  ·rename_i hon
   rcases lmk.1 hx with rfl|hx
   ·exact ⟨hon,rfl⟩
   ·rw [List.mem_flatMap] at hx
    obtain ⟨c,hc,hx⟩:=hx
    split at hx
    ·rename_i hoc
     obtain ⟨j,m,hm,hp,rfl⟩:=CI.1 hc
     have hks:=zax h w on hn hc
     rw [if_pos hoc] at hks
     rw [<- hks] at hx
     exact NC h w on k j m hm x hx
    .cases hx
  .cases hx
theorem QT {t:Tr} (h:TreeOk t) {on:Int->Bool} (hu:UpClosed t on):∀ (i:Nat) (n:Nd),t.nodes[i]?=some n->on n.id=true->∀ x∈ancF t.nodes t.nodes.length n.id,on x=true:=by
 intro i
 induction i using Nat.strongRecOn with
 | _ i ih =>
  intro n hn hon x hx
  rcases (DA h hn _).1 hx with rfl|⟨hi,hx⟩
  ·exact hon
  ·rcases h.nodeAt hn with ⟨h0,_⟩|⟨_,_,j,p,hj,hp,hpe⟩
   ·exact absurd h0 hi
   ·have:=hu.up i n hn hi hon
    rw [<- hpe] at this hx
    exact ih j hj p hp this x hx
theorem ND {t:Tr} (h:TreeOk t) (w:Int->Int) {on:Int->Bool} (hu:UpClosed t on):∀ (k i:Nat) (n:Nd) (s:Int),t.nodes[i]?=some n->t.nodes.length<=i+k->∀ (j:Nat) (m:Nd),t.nodes[j]?=some m->on m.id=true->n.id∈ancF t.nodes t.nodes.length m.id->∃ x∈sharesF t w on k n.id s,x.group=m.id
 | 0,i,n,s,hn,hk,_,_,_,_,_=>by
  have:=(lgs.1 hn).1
  omega
 | k+1,i,n,s,hn,hk,j,m,hm,hon,hin=>by
  unfold sharesF
  rw [if_pos (QT h hu j m hm hon n.id hin)]
  by_cases he:n.id=m.id
  ·exact ⟨_,lms ..,he⟩
  ·obtain ⟨q,c,hc,hcp,hca⟩:=PB h j m hm hin he
   have hoc:=QT h hu j m hm hon c.id hca
   have hlt:=h.kid hn hc hcp
   obtain ⟨x,hx,hxe⟩:=ND h w hu k q c (max 1 (s*w c.id / DF t w on n.id)) hc (by omega) j m hm hon hca
   refine ⟨x,lmc _ (List.mem_flatMap.2 ⟨c.id,CI.2 ⟨q,c,hc,hcp,rfl⟩,?_⟩),hxe⟩
   rw [if_pos hoc]
   exact hx
theorem EH {t:Tr} (h:AY t=true) (id:Int):A8 t id=AU t.nodes id:=by simp [A8,h]
theorem UD {l:List Ch} (h:l.Pairwise fun a b=>a.group<b.group):(l.map (·.group)).Nodup:=by
 rw [List.Nodup,List.pairwise_map]
 exact h.imp fun hab=>by omega
theorem IC {ns:List Nd} {lo hi:Int} {l:List Ch} (h:AscOk (Ag ns) lo hi l):l.length<=ns.length:=by
 have:=H9 (l.map (·.group)) (ns.map (·.id)) (UD h.inc) (fun x hx=>by
  obtain ⟨c,hc,rfl⟩:=lmm.1 hx
  obtain ⟨n,hn,he⟩:=C2 (h.known c hc)
  exact lmm.2 ⟨n,hn,he⟩)
 simpa using this
theorem K8 {t:Tr} (h:TreeOk t) (id:Int):(BM t id).length<=t.nodes.length:=by
 unfold BM
 split
 ·rename_i hs
  rw [EH ((Bh t).2 h)] at hs
  obtain ⟨n,hn,rfl⟩:=C2 hs
  obtain ⟨i,hi⟩:=lgm hn
  exact In h hi (by omega)
 .exact Nat.zero_le _
theorem Z1 {t:Tr} (h:TreeOk t) {l:List Ch} (hl:ChOk t.nodes l) (hll:l.length<1000000) {i:Nat} {n:Nd} (hi:t.nodes[i]?=some n):V 261 [t.vv,MI l,.p (.int .i64 n.id)] []=some (.p (.int .i64 (tot t (Am l) n.id)),[]):=by
 refine Ad (vf:=vf261) rfl ?_
 have hlen:=h.len
 have hs:=Z2 (t:=t) n.id (by omega)
 have hsl:=K8 h n.id
 have hst:BM t n.id=AC t.nodes t.nodes.length n.id:=by
  rw [BM,EH ((Bh t).2 h),Dw h.inc hi];rfl
 have htot:tot t (Am l) n.id=Aj ((BM t n.id).map (Am l)):=by rw [hst];rfl
 have hle:=za2 h hl hi
 have hall:=hl.all
 rw [htot] at hle ⊢
 generalize BM t n.id=A at hs hsl hle
 simp -implicitDefEqProofs (disch:=omega) only [vf261,Q9,hs,go_sem]
 obtain ⟨I,hI⟩:=lpI fun k s=>s.pe 4=.ptr (.slot 4 0) 0 0/\s.pe 7=.p (.int .i64 (Aj ((A.take k).map (Am l))))/\s.pe 8=.own (.slot 12 1) 0 0 A.length/\s.pe 9=.p (.int .i64 k)/\s.h (.slot 4 0)=some (0,Ob.box [.p (As l)])/\s.h (.slot 12 1)=some (0,Ob.arr 1 (List.map (.int .i64) A))
 refine Ak (A.length) I ?_ ?_
 ·refine (hI _ _).2 ?_
  and_intros<;>exact cl0
 intro k s hk hIk
 obtain ⟨h4,h7,hH⟩:=(hI _ _).1 hIk
 clear hIk
 simp -implicitDefEqProofs (disch:=omega) only [h4,h7,hH,go_sem]
 refine Af (fun hlt=>?_) (fun hge=>?_)
 ·have hm:A[k]?=some A[k]:=lgg hlt
  generalize A[k]=g at hm
  have hst:=J3 (f:=Am l) hm
  have ho:=Z5 l g hll
  have o0:=Iq hl.pos g
  have p0:=J1 (A.take k) (f:=Am l) fun x _=>Iq hl.pos x
  have p1:=Uu A (k+1) (f:=Am l) fun x _=>Iq hl.pos x
  rw [hst] at p1
  generalize Aj ((A.take k).map (Am l))=S at h7 hst p0 p1
  generalize Am l g=o at ho o0 hst p1
  simp -implicitDefEqProofs (disch:=omega) only [h4,h7,hH,hlt,hm,ho,go_sem]
  try refine ai ?_
  refine (hI _ _).2 ?_
  and_intros<;>exact cl0
 ·rw [ltl (by omega)] at h7
  simp -implicitDefEqProofs (disch:=omega) only [h4,h7,hH,hge,go_sem]
def Bl (L:List Int) (a:Nat) (xs:List Int):Int:=xs.getD (AB L a xs.length).toNat 0
theorem BE (L:List Int) (a:Nat) (xs:List Int) (hL:L.length<4611686018427387904) (h0:1<=xs.length) (h1:xs.length<1000000):V 38 [.ptr (.arg 0 0) 0 0,.p (AT xs)] [AK L a]=some (.p (.int .i64 (Bl L a xs)),[AK L (Ah L a xs.length)]):=by
 refine Ad (vf:=vf38) rfl ?_
 have hn:=CK L a xs.length hL (by omega)
 have n0:=Cf L a xs.length
 have n1:=Cg L a (n:=xs.length) (by omega)
 unfold Bl
 generalize AB L a xs.length=x at hn n0 n1
 generalize Ah L a xs.length=a' at hn
 have hm:xs[x.toNat]?=some (xs.getD x.toNat 0):=by
  rw [List.getD_eq_getElem?_getD,lgg (by omega)];rfl
 generalize xs.getD x.toNat 0=y at hm
 simp -implicitDefEqProofs (disch:=omega) only [vf38,SE,hn,hm,go_sem]
theorem C4 (L:List Int) (a:Nat) {xs:List Int} (h0:1<=xs.length):Bl L a xs∈xs:=by
 have n0:=Cf L a xs.length
 have n1:=Cg L a (n:=xs.length) (by omega)
 unfold Bl
 rw [List.getD_eq_getElem?_getD,lgg (by omega)]
 exact lgk _
theorem G0 (n lo hi:Int):V 172 [.p (.int .i64 n),.p (.int .i64 lo),.p (.int .i64 hi)] []=some (.p (.bool (decide (lo<=n/\n<=hi))),[]):=by
 refine Ad (vf:=vf172) rfl ?_
 by_cases h1:lo<=n
 ·by_cases h2:n<=hi
  ·rw [decide_eq_true ⟨h1,h2⟩]
   simp -implicitDefEqProofs (disch:=omega) only [vf172,Jv,h1,h2,go_sem]
  ·rw [decide_eq_false (fun h=>h2 h.2)]
   simp -implicitDefEqProofs (disch:=omega) only [vf172,Jv,h1,h2,go_sem]
 ·rw [decide_eq_false (fun h=>h1 h.1)]
  simp -implicitDefEqProofs (disch:=omega) only [vf172,Jv,h1,go_sem]
theorem HD (t:Tr) (id:Int) (hn:t.nodes.length<1000000):V 171 [t.vv,.p (.int .i64 id)] []=some (.p (.bool (Ag t.nodes id)),[]):=by
 refine Ad (vf:=vf171) rfl ?_
 have hfi:=Gz t id hn
 unfold Ag
 generalize (AU t.nodes id).getD zeroNd=nd at hfi
 generalize (AU t.nodes id).isSome=b at hfi
 simp -implicitDefEqProofs (disch:=omega) only [vf171,RA,hfi,Nd.vv,go_sem]
def EM (t:Tr) (l:List Ch):Bool:=AY t && Bv (Ag t.nodes) 1 10000 none l
def BI (t:Tr) (l:List Ch):Bool:=AY t && Bv (Ag t.nodes) 0 1152921504606846976 none l
theorem Pf (t:Tr) (l:List Ch) (hf:t.Fits) (hn:t.nodes.length<1000000) (hl:l.length<1000000):V 110 [t.vv,.p (As l)] []=some (.p (.bool (EM t l)),[]):=by
 refine Ad (vf:=vf110) rfl ?_
 have hc:=Ho t hf hn
 unfold EM
 cases ht:AY t with
 | false =>
  rw [ht] at hc
  simp -implicitDefEqProofs (disch:=omega) only [vf110,Mh,hc,bfa,go_sem]
 | true =>
  rw [ht] at hc
  rw [bta]
  simp -implicitDefEqProofs (disch:=omega) only [vf110,Mh,hc,go_sem]
  obtain ⟨I,hI⟩:=lpI fun k s=>Bv (Ag t.nodes) 1 10000 none l=Bv (Ag t.nodes) 1 10000 (Eo l k) (l.drop k)/\s.pe 1=.p (As l)/\s.pe 2=.ptr (.slot 2 0) 0 0/\s.pe 10=.p (As l)/\s.pe 11=.p (.int .i64 l.length)/\s.pe 12=.p (.int .i64 k)/\s.h (.slot 2 0)=some (0,.box [.p (Ao t.nodes),.p (.int .i64 t.next)])
  refine Ak (l.length) I ?_ ?_
  ·refine (hI _ _).2 ?_
   and_intros
   ·exact cl3
   all_goals exact cl0
  intro k s hk hIk
  obtain ⟨hq,h1,h2,hH⟩:=(hI _ _).1 hIk
  clear hIk
  simp -implicitDefEqProofs (disch:=omega) only [h1,h2,hH,go_sem]
  refine Af (fun hlt=>?_) (fun hge=>?_)
  ·have hm:l[k]?=some l[k]:=lgg hlt
   generalize l[k]=c at hm
   have hg:=Lr hq hm
   have hb':=LL hq hm
   have hfi:=HD t c.group hn
   have hin:=G0 c.own 1 10000
   obtain ⟨kn,hkn⟩:∃ kn,Ag t.nodes c.group=kn:=⟨_,rfl⟩
   by_cases hk0:(0:Int)<k
   ·obtain ⟨e,he,he'⟩:=LB hm hk0
    have hk1:(0:Int)<=(k:Int) - 1:=by omega
    rw [KF hk0 he] at hg hb'
    rw [hkn] at hfi hg hb'
    simp -implicitDefEqProofs (disch:=omega) only [h1,h2,hH,hlt,hm,hfi,hin,hk0,hk1,he',go_sem]
    repeat' ((first|refine AN ?_ ?_|refine AM ?_ ?_|refine AQ ?_ ?_|refine AP ?_ ?_|refine AI ?_ ?_|refine AH ?_ ?_|refine AO ?_ ?_|refine AJ ?_ ?_|refine Af ?_ ?_|refine AS ?_ ?_)<;>intro hb<;>simp -implicitDefEqProofs (disch:=omega) only [hb,h1,h2,hH,hlt,hm,hfi,hin,hk0,hk1,he',go_sem])
    all_goals first
     | (rw [hb' (by first|(rintro ⟨h1,h2,h3,h4⟩;omega)|simp_all)];done)
     | skip
    try refine ai ?_
    refine (hI _ _).2 ?_
    and_intros
    ·exact hg ⟨by first|assumption|(cases kn<;>simp_all),by omega,by omega,by omega⟩
    all_goals exact cl0
   ·rw [KE hk0] at hg hb'
    rw [hkn] at hfi hg hb'
    simp -implicitDefEqProofs (disch:=omega) only [h1,h2,hH,hlt,hm,hfi,hin,hk0,go_sem]
    repeat' ((first|refine AN ?_ ?_|refine AM ?_ ?_|refine AQ ?_ ?_|refine AP ?_ ?_|refine AI ?_ ?_|refine AH ?_ ?_|refine AO ?_ ?_|refine AJ ?_ ?_|refine Af ?_ ?_|refine AS ?_ ?_)<;>intro hb<;>simp -implicitDefEqProofs (disch:=omega) only [hb,h1,h2,hH,hlt,hm,hfi,hin,hk0,go_sem])
    all_goals first
     | (rw [hb' (by first|(rintro ⟨h1,h2,h3⟩;omega)|simp_all)];done)
     | skip
    try refine ai ?_
    refine (hI _ _).2 ?_
    and_intros
    .exact hg ⟨by first|assumption|(cases kn<;>simp_all),by omega,by omega⟩
    all_goals exact cl0
  ·have hT:=LK hq (by omega)
   simp -implicitDefEqProofs (disch:=omega) only [h1,h2,hH,hge,hT,go_sem]
theorem KW (t:Tr) (l:List Ch) (hf:t.Fits) (hn:t.nodes.length<1000000) (hl:l.length<1000000):V 112 [t.vv,.p (As l)] []=some (.p (.bool (BI t l)),[]):=by
 refine Ad (vf:=vf112) rfl ?_
 have hc:=Ho t hf hn
 unfold BI
 cases ht:AY t with
 | false =>
  rw [ht] at hc
  simp -implicitDefEqProofs (disch:=omega) only [vf112,Mf,hc,bfa,go_sem]
 | true =>
  rw [ht] at hc
  rw [bta]
  simp -implicitDefEqProofs (disch:=omega) only [vf112,Mf,hc,go_sem]
  obtain ⟨I,hI⟩:=lpI fun k s=>Bv (Ag t.nodes) 0 1152921504606846976 none l=Bv (Ag t.nodes) 0 1152921504606846976 (Eo l k) (l.drop k)/\s.pe 1=.p (As l)/\s.pe 2=.ptr (.slot 2 0) 0 0/\s.pe 10=.p (As l)/\s.pe 11=.p (.int .i64 l.length)/\s.pe 12=.p (.int .i64 k)/\s.h (.slot 2 0)=some (0,.box [.p (Ao t.nodes),.p (.int .i64 t.next)])
  refine Ak (l.length) I ?_ ?_
  ·refine (hI _ _).2 ?_
   and_intros
   ·exact cl3
   all_goals exact cl0
  intro k s hk hIk
  obtain ⟨hq,h1,h2,hH⟩:=(hI _ _).1 hIk
  clear hIk
  simp -implicitDefEqProofs (disch:=omega) only [h1,h2,hH,go_sem]
  refine Af (fun hlt=>?_) (fun hge=>?_)
  ·have hm:l[k]?=some l[k]:=lgg hlt
   generalize l[k]=c at hm
   have hg:=Lr hq hm
   have hb':=LL hq hm
   have hfi:=HD t c.group hn
   have hin:=G0 c.own 0 1152921504606846976
   obtain ⟨kn,hkn⟩:∃ kn,Ag t.nodes c.group=kn:=⟨_,rfl⟩
   by_cases hk0:(0:Int)<k
   ·obtain ⟨e,he,he'⟩:=LB hm hk0
    have hk1:(0:Int)<=(k:Int) - 1:=by omega
    rw [KF hk0 he] at hg hb'
    rw [hkn] at hfi hg hb'
    simp -implicitDefEqProofs (disch:=omega) only [h1,h2,hH,hlt,hm,hfi,hin,hk0,hk1,he',go_sem]
    repeat' ((first|refine AN ?_ ?_|refine AM ?_ ?_|refine AQ ?_ ?_|refine AP ?_ ?_|refine AI ?_ ?_|refine AH ?_ ?_|refine AO ?_ ?_|refine AJ ?_ ?_|refine Af ?_ ?_|refine AS ?_ ?_)<;>intro hb<;>simp -implicitDefEqProofs (disch:=omega) only [hb,h1,h2,hH,hlt,hm,hfi,hin,hk0,hk1,he',go_sem])
    all_goals first
     | (rw [hb' (by first|(rintro ⟨h1,h2,h3,h4⟩;omega)|simp_all)];done)
     | skip
    try refine ai ?_
    refine (hI _ _).2 ?_
    and_intros
    ·exact hg ⟨by first|assumption|(cases kn<;>simp_all),by omega,by omega,by omega⟩
    all_goals exact cl0
   ·rw [KE hk0] at hg hb'
    rw [hkn] at hfi hg hb'
    simp -implicitDefEqProofs (disch:=omega) only [h1,h2,hH,hlt,hm,hfi,hin,hk0,go_sem]
    repeat' ((first|refine AN ?_ ?_|refine AM ?_ ?_|refine AQ ?_ ?_|refine AP ?_ ?_|refine AI ?_ ?_|refine AH ?_ ?_|refine AO ?_ ?_|refine AJ ?_ ?_|refine Af ?_ ?_|refine AS ?_ ?_)<;>intro hb<;>simp -implicitDefEqProofs (disch:=omega) only [hb,h1,h2,hH,hlt,hm,hfi,hin,hk0,go_sem])
    all_goals first
     | (rw [hb' (by first|(rintro ⟨h1,h2,h3⟩;omega)|simp_all)];done)
     | skip
    try refine ai ?_
    refine (hI _ _).2 ?_
    and_intros
    .exact hg ⟨by first|assumption|(cases kn<;>simp_all),by omega,by omega⟩
    all_goals exact cl0
  ·have hT:=LK hq (by omega)
   simp -implicitDefEqProofs (disch:=omega) only [h1,h2,hH,hge,hT,go_sem]
theorem OM {l:List Ch} {k:Nat} {c:Ch} {id:Int} (hm:l[k]?=some c) (h:Ap l id=Ap (l.drop k) id):Ap l id=if c.group=id then c.own else Ap (l.drop (k+1)) id:=by
 have hl:=(lgs.1 hm).1
 rw [h,ldg hl]
 rw [lgg hl] at hm
 cases hm
 rfl
theorem O2 {l:List Ch} {k:Nat} {c:Ch} {id:Int} (hm:l[k]?=some c) (h:Am l id=Am (l.drop k) id):Am l id=if c.group=id then c.own else Am (l.drop (k+1)) id:=by
 have hl:=(lgs.1 hm).1
 rw [h,ldg hl]
 rw [lgg hl] at hm
 cases hm
 rfl
theorem Q0 (l:List Ch) (id:Int) (hl:l.length<1000000):V 269 [.p (As l),.p (.int .i64 id)] []=some (.p (.int .i64 (Ap l id)),[]):=by
 refine Ad (vf:=vf269) rfl ?_
 simp -implicitDefEqProofs (disch:=omega) only [vf269,Q7,go_sem]
 obtain ⟨I,hI⟩:=lpI fun k s=>Ap l id=Ap (l.drop k) id/\s.pe 1=.p (.int .i64 id)/\s.pe 7=.p (As l)/\s.pe 8=.p (.int .i64 ↑l.length)/\s.pe 9=.p (.int .i64 k)
 refine Ak (l.length) I ?_ ?_
 ·refine (hI _ _).2 ?_
  and_intros
  ·exact cl3
  all_goals exact cl0
 intro k s hk hIk
 obtain ⟨hq,hH⟩:=(hI _ _).1 hIk
 clear hIk
 simp -implicitDefEqProofs (disch:=omega) only [hH,go_sem]
 refine Af (fun hlt=>?_) (fun hge=>?_)
 ·have hm:l[k]?=some l[k]:=lgg hlt
  generalize l[k]=c at hm
  have hst:=OM hm hq
  by_cases hp:c.group=id
  ·rw [if_pos hp] at hst
   simp -implicitDefEqProofs (disch:=omega) only [hH,hlt,hm,hp,hst,go_sem]
  ·rw [if_neg hp] at hst
   simp -implicitDefEqProofs (disch:=omega) only [hH,hlt,hm,hp,go_sem]
   try refine ai ?_
   refine (hI _ _).2 ?_
   and_intros
   .exact hst
   all_goals exact cl0
 ·rw [ldl (by omega)] at hq
  simp -implicitDefEqProofs (disch:=omega) only [hH,hge,hq,Ap,go_sem]
theorem QS (l:List Ch) (id:Int) (hl:l.length<1000000):V 274 [.p (As l),.p (.int .i64 id)] []=some (.p (.int .i64 (Ap l id)),[]):=by
 refine Ad (vf:=vf274) rfl ?_
 simp -implicitDefEqProofs (disch:=omega) only [vf274,Q4,go_sem]
 obtain ⟨I,hI⟩:=lpI fun k s=>Ap l id=Ap (l.drop k) id/\s.pe 0=.p (As l)/\s.pe 1=.p (.int .i64 id)/\s.pe 5=.p (.int .i64 k)
 refine Ak (l.length) I ?_ ?_
 ·refine (hI _ _).2 ?_
  and_intros
  ·exact cl3
  all_goals exact cl0
 intro k s hk hIk
 obtain ⟨hq,hH⟩:=(hI _ _).1 hIk
 clear hIk
 simp -implicitDefEqProofs (disch:=omega) only [hH,go_sem]
 refine Af (fun hlt=>?_) (fun hge=>?_)
 ·have hm:l[k]?=some l[k]:=lgg hlt
  generalize l[k]=c at hm
  have hst:=OM hm hq
  by_cases hp:c.group=id
  ·rw [if_pos hp] at hst
   simp -implicitDefEqProofs (disch:=omega) only [hH,hlt,hm,hp,hst,go_sem]
  ·rw [if_neg hp] at hst
   simp -implicitDefEqProofs (disch:=omega) only [hH,hlt,hm,hp,go_sem]
   try refine ai ?_
   refine (hI _ _).2 ?_
   and_intros
   .exact hst
   all_goals exact cl0
 ·rw [ldl (by omega)] at hq
  simp -implicitDefEqProofs (disch:=omega) only [hH,hge,hq,Ap,go_sem]
theorem Jk (l:List Ch) (id:Int) (hl:l.length<1000000):V 118 [.p (As l),.p (.int .i64 id)] []=some (.p (.int .i64 (Am l id)),[]):=by
 refine Ad (vf:=vf118) rfl ?_
 simp -implicitDefEqProofs (disch:=omega) only [vf118,RW,go_sem]
 obtain ⟨I,hI⟩:=lpI fun k s=>Am l id=Am (l.drop k) id/\s.pe 1=.p (.int .i64 id)/\s.pe 7=.p (As l)/\s.pe 8=.p (.int .i64 ↑l.length)/\s.pe 9=.p (.int .i64 k)
 refine Ak (l.length) I ?_ ?_
 ·refine (hI _ _).2 ?_
  and_intros
  ·exact cl3
  all_goals exact cl0
 intro k s hk hIk
 obtain ⟨hq,hH⟩:=(hI _ _).1 hIk
 clear hIk
 simp -implicitDefEqProofs (disch:=omega) only [hH,go_sem]
 refine Af (fun hlt=>?_) (fun hge=>?_)
 ·have hm:l[k]?=some l[k]:=lgg hlt
  generalize l[k]=c at hm
  have hst:=O2 hm hq
  by_cases hp:c.group=id
  ·rw [if_pos hp] at hst
   simp -implicitDefEqProofs (disch:=omega) only [hH,hlt,hm,hp,hst,go_sem]
  ·rw [if_neg hp] at hst
   simp -implicitDefEqProofs (disch:=omega) only [hH,hlt,hm,hp,go_sem]
   try refine ai ?_
   refine (hI _ _).2 ?_
   and_intros
   .exact hst
   all_goals exact cl0
 ·rw [ldl (by omega)] at hq
  simp -implicitDefEqProofs (disch:=omega) only [hH,hge,hq,Am,go_sem]
def F1 (a:List Ch) (id v:Int):List Ch:=withGo id v false a
theorem zaz (l:List Ch) (id v:Int) (hl:l.length<1000000):V 187 [.p (As l),.p (.int .i64 id),.p (.int .i64 v)] []=some (.fresh 2 ((F1 l id v).map Ch.pv),[]):=by
 refine Ad (vf:=vf187) rfl ?_
 unfold F1
 simp -implicitDefEqProofs (disch:=omega) only [vf187,Rt,go_sem]
 obtain ⟨I,hI⟩:=lpI fun k s=>∃ (acc:List Ch) (d:Bool) (w:Nat),withGo id v false l=acc++withGo id v d (l.drop k)/\acc.length<=2*k/\s.pe 1=.p (.int .i64 id)/\s.pe 2=.p (.int .i64 v)/\s.pe 7=.own (.slot 7 0) w 0 acc.length/\s.pe 8=.p (.bool d)/\s.pe 11=.p (As l)/\s.pe 12=.p (.int .i64 l.length)/\s.pe 13=.p (.int .i64 k)/\s.h (.slot 7 0)=some (w,Ob.arr 2 (acc.map Ch.pv))
 refine Ak (l.length) I ?_ ?_
 ·refine (hI _ _).2 ⟨[],false,0,?_⟩
  and_intros
  ·rfl
  ·exact cl3
  all_goals exact cl0
 intro k s hk hIk
 obtain ⟨acc,d,w,hw,hal,hH⟩:=(hI _ _).1 hIk
 clear hIk
 simp -implicitDefEqProofs (disch:=omega) only [hH,go_sem]
 refine Af (fun hlt=>?_) (fun hge=>?_)
 ·have hm:l[k]?=some l[k]:=lgg hlt
  have hd:l.drop k=l[k]::l.drop (k+1):=ldg hlt
  generalize l[k]=c at hm hd
  rw [hd,withGo] at hw
  cases d with
  | true =>
   by_cases he:c.group=id
   ·simp only [he,Bool.not_true,bfa,bft,if_false,if_true,lna,lan,Bool.true_or] at hw
    simp -implicitDefEqProofs (disch:=omega) only [hH,hlt,hm,he,go_sem]
    try refine ai ?_
    refine (hI _ _).2 ⟨acc,true,w,?_⟩
    and_intros
    ·exact hw
    ·omega
    all_goals exact cl0
   ·simp only [he,Bool.not_true,bfa,bft,if_false,lna,Bool.true_or,<- laa] at hw
    simp -implicitDefEqProofs (disch:=omega) only [hH,hlt,hm,he,go_sem]
    try refine ai ?_
    refine (hI _ _).2 ⟨acc++[c],true,w+1,?_⟩
    and_intros
    ·exact hw
    ·exact by simp;omega
    all_goals exact cl0
  | false =>
   by_cases hge:id<=c.group
   ·by_cases he:c.group=id
    ·simp only [he,Int.le_refl,decide_true,bnf,bas,if_true,lan,Bool.or_true,<- laa] at hw
     simp -implicitDefEqProofs (disch:=omega) only [hH,hlt,hm,hge,he,Int.le_refl,decide_true,go_sem]
     try refine ai ?_
     refine (hI _ _).2 ⟨acc++[⟨id,v⟩],true,w+1,?_⟩
     and_intros
     .exact hw
     .exact by simp;omega
     all_goals exact cl0
    ·simp only [he,hge,decide_true,bnf,bas,if_true,if_false,Bool.or_true,<- laa] at hw
     simp -implicitDefEqProofs (disch:=omega) only [hH,hlt,hm,hge,he,go_sem]
     try refine ai ?_
     refine (hI _ _).2 ⟨acc++[⟨id,v⟩]++[c],true,w+1+1,?_⟩
     and_intros
     .exact hw
     .exact by simp;omega
     all_goals exact cl0
   ·have he:¬ c.group=id:=by omega
    simp only [he,hge,decide_false,bnf,Bool.and_false,bft,if_false,lna,Bool.or_false,<- laa] at hw
    simp -implicitDefEqProofs (disch:=omega) only [hH,hlt,hm,hge,he,go_sem]
    try refine ai ?_
    refine (hI _ _).2 ⟨acc++[c],false,w+1,?_⟩
    and_intros
    .exact hw
    .exact by simp;omega
    all_goals exact cl0
 ·rw [ldl (by omega),withGo] at hw
  cases d with
  | true =>
   simp only [if_true,lan] at hw
   simp -implicitDefEqProofs (disch:=omega) only [hH,hge,go_sem]
   rw [hw]
  | false =>
   simp only [bft,if_false] at hw
   simp -implicitDefEqProofs (disch:=omega) only [hH,hge,go_sem]
   rw [hw]
   simp [Ch.pv]
def CC (t:Tr) (a:List Ch) (id now:Int):Bool:=BI t a && Ag t.nodes id && decide (Am a id<=now)
theorem zba (t:Tr) (a:List Ch) (id now:Int) (hf:t.Fits) (hn:t.nodes.length<1000000) (hl:a.length<1000000):V 117 [t.vv,.p (As a),.p (.int .i64 id),.p (.int .i64 now)] []=some (.p (.bool (CC t a id now)),[]):=by
 refine Ad (vf:=vf117) rfl ?_
 have h1:=KW t a hf hn hl
 have h2:=HD t id hn
 have h3:=Jk a id hl
 unfold CC
 cases hc:BI t a with
 | false =>
  rw [hc] at h1
  simp -implicitDefEqProofs (disch:=omega) only [vf117,JB,h1,bfa,go_sem]
 | true =>
  rw [hc] at h1
  cases hk:Ag t.nodes id with
  | false =>
   rw [hk] at h2
   simp -implicitDefEqProofs (disch:=omega) only [vf117,JB,h1,h2,bfa,bta,go_sem]
  | true =>
   rw [hk] at h2
   simp -implicitDefEqProofs (disch:=omega) only [vf117,JB,h1,h2,h3,bta,go_sem]
def GQ (a:List Ch) (id share cost now margin:Int):Int:=max (max (Am a id) (now - margin)) 0+(cost*1073741824+share - 1) / share
def B7 (t:Tr) (a:List Ch) (id share cost now margin:Int):List Ch × Int :=
  if BI t a=true then
    (if Ag t.nodes id=true then
      (if (1<=share/\share<=1073741824)/\(1<=cost/\cost<=4294967296)/\(0<=now/\now<=576460752303423488)/\(0<=margin/\margin<=1073741824) then
        (if now<Am a id then ([],11) else if 1152921504606846976<GQ a id share cost now margin then ([],7) else (F1 a id (GQ a id share cost now margin),0))
       else ([],3))
     else ([],4))
  else ([],1)
theorem PU {kn:Int->Bool} {lo hi:Int} {l:List Ch} (h:AscOk kn lo hi l) (h0:lo<=0) (h1:0<=hi) (id:Int):lo<=Am l id/\Am l id<=hi:=by
 have hr:=h.range
 clear h
 induction l with
 | nil=>simp [Am,h0,h1]
 | cons c l ih =>
  unfold Am
  split
  .exact hr c (lms ..)
  .exact ih fun d hd=>hr d (lmc _ hd)
theorem Y3 (t:Tr) (a:List Ch) (id share cost now margin:Int) (hf:t.Fits) (hn:t.nodes.length<1000000) (hl:a.length<1000000):V 126 [t.vv,.p (As a),.p (.int .i64 id),.p (.int .i64 share),.p (.int .i64 cost),.p (.int .i64 now),.p (.int .i64 margin)] []=some (.tup [.fresh 2 ((B7 t a id share cost now margin).1.map Ch.pv),.p (.int .i64 (B7 t a id share cost now margin).2)],[]):=by
 refine Ad (vf:=vf126) rfl ?_
 have h1 := KW t a hf hn hl
 have h2 := HD t id hn
 have h3 := Jk a id hl
 have i1 := G0 share 1 1073741824
 have i2 := G0 cost 1 4294967296
 have i3 := G0 now 0 576460752303423488
 have i4 := G0 margin 0 1073741824
 unfold B7
 cases hc:BI t a with
 | false =>
  rw [hc] at h1
  simp -implicitDefEqProofs (disch:=omega) only [vf126,Em,h1,go_sem]
  try rfl
 | true =>
  rw [hc] at h1
  have hA:AscOk (Ag t.nodes) 0 1152921504606846976 a:=(EG _ _ _ _).1 (by
   unfold BI at hc
   simp only [bat] at hc
   exact hc.2)
  have hown:=PU hA (by omega) (by omega) id
  rw [if_pos rfl]
  cases hk:Ag t.nodes id with
  | false =>
   rw [hk] at h2
   simp -implicitDefEqProofs (disch:=omega) only [vf126,Em,h1,h2,go_sem]
   try rfl
  | true =>
   rw [hk] at h2
   rw [if_pos rfl]
   by_cases c1:1<=share/\share<=1073741824
   ·rw [decide_eq_true c1] at i1
    by_cases c2:1<=cost/\cost<=4294967296
    ·rw [decide_eq_true c2] at i2
     by_cases c3:0<=now/\now<=576460752303423488
     ·rw [decide_eq_true c3] at i3
      by_cases c4:0<=margin/\margin<=1073741824
      ·rw [decide_eq_true c4] at i4
       rw [if_pos ⟨c1,c2,c3,c4⟩]
       have hp:=zaz a id (GQ a id share cost now margin) hl
       have hnn:0<=cost*1073741824+share - 1:=by omega
       have hq:=Int.tdiv_eq_ediv_of_nonneg (b:=share) hnn
       have hq1:(cost*1073741824+share - 1) / share<=cost*1073741824+share - 1:=Int.ediv_le_self _ hnn
       have hq0:0<=(cost*1073741824+share - 1) / share:=Int.ediv_nonneg hnn (by omega)
       unfold GQ at hp ⊢
       generalize Am a id=o at h3 hown hp
       generalize (cost*1073741824+share - 1) / share=z at hq hq0 hq1 hp
       by_cases c5:now<o
       ·rw [if_pos c5]
        simp -implicitDefEqProofs (disch:=omega) only [vf126,Em,h1,h2,h3,i1,i2,i3,i4,c5,go_sem]
        try rfl
       ·rw [if_neg c5]
        have hw1:IntKind.i64.wrap (cost*1073741824)=cost*1073741824:=FO (by omega) (by omega)
        have hne:share ≠ 0:=by omega
        generalize hm:max (max o (now - margin)) 0=M at hp
        have hM:0<=M/\M<=1152921504606846976:=by omega
        by_cases c6:1152921504606846976<M+z
        ·rw [if_pos c6]
         simp -implicitDefEqProofs (disch:=omega) only [vf126,Em,h1,h2,h3,i1,i2,i3,i4,c5,hw1,hne,hq,hm,c6,go_sem]
         try rfl
        ·rw [if_neg c6]
         generalize F1 a id (M+z)=PA at hp
         simp -implicitDefEqProofs (disch:=omega) only [vf126,Em,h1,h2,h3,i1,i2,i3,i4,c5,hw1,hne,hq,hm,c6,hp,go_sem]
         try rfl
      ·rw [decide_eq_false c4] at i4
       rw [if_neg (fun h=>c4 h.2.2.2)]
       simp -implicitDefEqProofs (disch:=omega) only [vf126,Em,h1,h2,i1,i2,i3,i4,go_sem]
       try rfl
     ·rw [decide_eq_false c3] at i3
      rw [if_neg (fun h=>c3 h.2.2.1)]
      simp -implicitDefEqProofs (disch:=omega) only [vf126,Em,h1,h2,i1,i2,i3,go_sem]
      try rfl
    ·rw [decide_eq_false c2] at i2
     rw [if_neg (fun h=>c2 h.2.1)]
     simp -implicitDefEqProofs (disch:=omega) only [vf126,Em,h1,h2,i1,i2,go_sem]
     try rfl
   ·rw [decide_eq_false c1] at i1
    rw [if_neg (fun h=>c1 h.1)]
    simp -implicitDefEqProofs (disch:=omega) only [vf126,Em,h1,h2,i1,go_sem]
    try rfl
def Rep3 (ks:List MKey) (vs:List PV) (on:Int->Bool):Prop:=∀ id,A1 ks vs (.int id)=if on id=true then some (.bool true) else none
theorem Rep3.put {ks:List MKey} {vs:List PV} {on:Int->Bool} (h:Rep3 ks vs on) (g:Int):Rep3 (Av ks vs (.int g) (.bool true)).1 (Av ks vs (.int g) (.bool true)).2 (fun x=>on x || decide (x=g)):=by
 intro id
 rw [Gu]
 by_cases hg:id=g
 ·subst hg
  simp
 ·simp [hg]
  exact h id
theorem Rep3.congr {ks:List MKey} {vs:List PV} {on on':Int->Bool} (h:Rep3 ks vs on) (he:∀ x,on x=on' x):Rep3 ks vs on':=fun id=>by rw [<- he];exact h id
theorem zaV (t:Tr) (active:List Int) (hn:t.nodes.length<1000000) (ha:active.length<1000000):∃ ks vs,V 227 [t.vv,.p (AT active)] []=some (.p (.map (.int .i64) ks vs),[])/\Rep3 ks vs (onB t active):=by
 suffices hw:wp (BT V vf227 [t.vv,.p (AT active)] []) (fun r=>∃ ks vs,r=(.p (.map (.int .i64) ks vs),[])/\Rep3 ks vs (onB t active)) by
  obtain ⟨r,hr,ks,vs,rfl,hrep⟩:=hw
  exact ⟨ks,vs,G5 (vf:=vf227) rfl hr,hrep⟩
 simp -implicitDefEqProofs (disch:=omega) only [vf227,Re,go_sem]
 obtain ⟨I,hI⟩:=lpI fun k s=>∃ (ks:List MKey) (vs:List PV),Rep3 ks vs (onB t (active.take k))/\s.pe 2=.ptr (.slot 2 0) 0 0/\s.pe 5=.mref (.slot 10 0) 0/\s.pe 11=.p (AT active)/\s.pe 12=.p (.int .i64 ↑active.length)/\s.pe 13=.p (.int .i64 k)/\s.h (.slot 2 0)=some (0,Ob.box [.p (Ao t.nodes),.p (.int .i64 t.next)])/\s.h (.slot 10 0)=some (0,Ob.map (KT.int IntKind.i64) ks vs)
 refine Ak (active.length) I ?_ ?_
 ·refine (hI _ _).2 ⟨[],[],?_⟩
  and_intros
  ·exact fun id=>rfl
  all_goals first|exact cl0|(simp -implicitDefEqProofs (disch:=omega) only [lma,go_sem]<;>first|(simp [Aj];done)|(simp [Aj];omega))
 intro k s hk hIk
 obtain ⟨ks,vs,hrep,hH⟩:=(hI _ _).1 hIk
 clear hIk
 simp -implicitDefEqProofs (disch:=omega) only [hH,go_sem]
 refine Af (fun hlt=>?_) (fun hge=>?_)
 ·have hm:active[k]?=some active[k]:=lgg hlt
  generalize active[k]=g at hm
  have hst:∀ x,onB t (active.take (k+1)) x=(onB t (active.take k) x || decide (x∈ancF t.nodes t.nodes.length g)):=fun x=>by
   unfold onB
   rw [FH hm]
  have c1:=Jd t g hn
  have hal:=EA t.nodes t.nodes.length g
  generalize ancF t.nodes t.nodes.length g=A at c1 hst hal
  simp -implicitDefEqProofs (disch:=omega) only [hH,hlt,hm,c1,go_sem]
  obtain ⟨J,hJ⟩:=lpI fun j s=>∃ (ks:List MKey) (vs:List PV) (v19_1:Nat),Rep3 ks vs (fun x=>onB t (active.take k) x || decide (x∈A.take j))/\s.pe 2=.ptr (.slot 2 0) 0 0/\s.pe 5=.mref (.slot 10 0) 0/\s.pe 11=.p (AT active)/\s.pe 12=.p (.int .i64 ↑active.length)/\s.pe 13=.p (.int .i64 ↑k)/\s.pe 19=.own (.slot 19 1) v19_1 0 A.length/\s.pe 20=.p (.int .i64 ↑A.length)/\s.pe 21=.p (.int .i64 j)/\s.h (.slot 2 0)=some (0,Ob.box [.p (Ao t.nodes),.p (.int .i64 t.next)])/\s.h (.slot 10 0)=some (0,Ob.map (KT.int IntKind.i64) ks vs)/\s.h (.slot 19 1)=some (v19_1,Ob.arr 1 (List.map (.int .i64) A))
  refine Ak (A.length) J ?_ ?_
  ·refine (hJ _ _).2 ⟨ks,vs,nv (BO [19] s.h (.slot 19 1)),?_⟩
   and_intros
   .exact hrep.congr fun x=>by simp
   all_goals first|exact cl0|(simp -implicitDefEqProofs (disch:=omega) only [hH,lma,go_sem]<;>first|(simp [Aj];done)|(simp [Aj];omega))
  intro j s hj hJk
  obtain ⟨ks,vs,v19_1,hrepj,hH⟩:=(hJ _ _).1 hJk
  clear hJk
  simp -implicitDefEqProofs (disch:=omega) only [hH,go_sem]
  refine Af (fun hjl=>?_) (fun hjg=>?_)
  ·have hx:A[j]?=some A[j]:=lgg hjl
   have htk:A.take (j+1)=A.take j++[A[j]]:=by rw [List.take_add_one,hx];rfl
   generalize A[j]=x at hx htk
   have hnext:=hrepj.put x
   simp -implicitDefEqProofs (disch:=omega) only [hH,hjl,hx,go_sem]
   try refine ai ?_
   refine (hJ _ _).2 ⟨(Av ks vs (.int x) (.bool true)).1,(Av ks vs (.int x) (.bool true)).2,v19_1,?_⟩
   and_intros
   .exact hnext.congr fun y=>by rw [htk];simp [Bool.or_assoc]
   all_goals first|exact cl0|(simp -implicitDefEqProofs (disch:=omega) only [hH,lma,go_sem]<;>first|(simp [Aj];done)|(simp [Aj];omega))
  ·rw [show A.take j=A from ltl (by omega)] at hrepj
   simp -implicitDefEqProofs (disch:=omega) only [hH,hjg,go_sem]
   try refine ai ?_
   refine (hI _ _).2 ⟨ks,vs,?_⟩
   and_intros
   .exact hrepj.congr fun y=>(hst y).symm
   all_goals first|exact cl0|(simp -implicitDefEqProofs (disch:=omega) only [hH,lma,go_sem]<;>first|(simp [Aj];done)|(simp [Aj];omega))
 ·rw [ltl (by omega)] at hrep
  simp -implicitDefEqProofs (disch:=omega) only [hH,hge,go_sem]
  exact ⟨_,_,rfl,hrep⟩
theorem ML {α β γ:Type} {f:α->List β} {g:α->List γ}:∀ (l:List α),(∀ x∈l,(f x).length<=(g x).length)->(l.flatMap f).length<=(l.flatMap g).length
 | [],_=>lrf _
 | x::l,h=>by
  have h1:=h x (lms ..)
  have h2:=ML l fun y hy=>h y (lmc _ hy)
  simp only [lfc,lla]
  omega
theorem Uv (t:Tr) (w:Int->Int) (on:Int->Bool) (k:Nat) (id s:Int):sharesF t w on (k+1) id s=if on id=true then ⟨id,s⟩::(kidsN t.nodes id).flatMap (fun c=>if on c=true then sharesF t w on k c (max 1 (s*w c / DF t w on id)) else []) else []:=rfl
theorem Kh (t:Tr) (w:Int->Int) (on:Int->Bool):∀ (k:Nat) (id s:Int),(sharesF t w on k id s).length<=(AC t.nodes k id).length
 | 0,_,_=>lrf _
 | k+1,id,s=>by
  unfold sharesF AC
  split
  ·simp only [llc]
   have:=ML (f:=fun c=>if on c=true then sharesF t w on k c (max 1 (s*w c / DF t w on id)) else []) (g:=AC t.nodes k) (kidsN t.nodes id) fun x _=>by
    split
    .exact Kh t w on k x _
    .exact Nat.zero_le _
   omega
  .exact Nat.zero_le _
theorem Nj {p:Int->Bool} {l:List Int} {k:Nat} {m:Int} (hm:l[k]?=some m):(l.take (k+1)).filter p=if p m=true then (l.take k).filter p++[m] else (l.take k).filter p:=by
 rw [List.take_add_one,hm]
 simp only [Option.toList,List.filter_append,lfl,List.filter_nil]
 split<;>simp
theorem VW {t:Tr} (h:TreeOk t) {l:List Ch} (hl:AscOk (Ag t.nodes) 1 10000 l) (hll:l.length<1000000) {ks:List MKey} {vs:List PV} {on:Int->Bool} (hrep:Rep3 ks vs on):∀ (f i:Nat) (n:Nd) (u0:Int),t.nodes[i]?=some n->t.nodes.length<=i+f->0<=u0->u0<=1073741824 ->
  V 226 [t.vv,.p (As l),.p (.map (.int .i64) ks vs),.p (.int .i64 n.id),.p (.int .i64 u0)] []=some (.fresh 2 ((sharesF t (Ap l) on f n.id u0).map Ch.pv),[]):=by
 intro f
 induction f with
 | zero =>
  intro i n u0 hn hf
  have := (lgs.1 hn).1
  omega
 | succ f ih =>
  intro i n u0 hn hf hs0 hs1
  refine Ad (vf:=vf226) rfl ?_
  have hlen:=h.len
  have hr:=hrep n.id
  have hw:MK l:=fun c hc=>hl.range c hc
  have hsub:=In h hn (k:=f+1) (by omega)
  have hsl:=Kh t (Ap l) on (f+1) n.id u0
  rw [Uv] at hsl ⊢
  cases hon:on n.id with
  | false =>
   simp only [hon,bft,if_false] at hr
   simp -implicitDefEqProofs (disch:=omega) only [vf226,LT,hr,Option.getD_none,go_sem]
   try rfl
  | true =>
   simp only [hon,if_true] at hr hsl
   rw [if_pos rfl]
   have hkd:=Lp t n.id (by omega)
   have hkid:=fun x (hx:x∈kidsN t.nodes n.id)=>CI.1 hx
   have hkl:(kidsN t.nodes n.id).length<=t.nodes.length:=by
    rw [kidsN,llm]
    exact List.length_filter_le _ _
   have hW:DF t (Ap l) on n.id=Aj (((kidsN t.nodes n.id).filter on).map (Ap l)):=rfl
   generalize DF t (Ap l) on n.id=W at hsl hW
   generalize kidsN t.nodes n.id=A at hkd hkid hkl hW hsl
   have hbound:∀ k,0<=Aj (((A.take k).filter on).map (Ap l))/\Aj (((A.take k).filter on).map (Ap l))<=k*10000:=by
    intro k
    induction k with
    | zero=>simp [Aj]
    | succ k ihk =>
     rcases Nat.lt_or_ge k A.length with hlt|hge
     ·have hx:A[k]?=some A[k]:=lgg hlt
      rw [Nj hx]
      have:=EB hw A[k]
      split
      ·rw [lma,Gf]
       simp only [lpc,lpn,Aj]
       omega
      ·omega
     ·rw [ltl (by omega)] at ihk ⊢
      omega
   simp -implicitDefEqProofs (disch:=omega) only [vf226,LT,hr,hkd,Option.getD_some,go_sem]
   obtain ⟨I,hI⟩:=lpI fun k s=>True/\s.pe 1=.p (As l)/\s.pe 2=.p (PV.map (KT.int IntKind.i64) ks vs)/\s.pe 3=.p (.int .i64 n.id)/\s.pe 4=.p (.int .i64 u0)/\s.pe 5=.ptr (.slot 5 0) 0 0/\s.pe 11=.own (.slot 24 0) 0 0 1/\s.pe 12=.p (.int .i64 (Aj (((A.take k).filter on).map (Ap l))))/\s.pe 27=.own (.slot 27 1) 0 0 A.length/\s.pe 28=.p (.int .i64 ↑A.length)/\s.pe 29=.p (.int .i64 k)/\s.h (.slot 5 0)=some (0,Ob.box [.p (Ao t.nodes),.p (.int .i64 t.next)])/\s.h (.slot 24 0)=some (0,Ob.arr 2 [PV.agg [PV.int IntKind.i64 n.id,PV.int IntKind.i64 u0]])/\s.h (.slot 27 1)=some (0,Ob.arr 1 (List.map (.int .i64) A))
   refine Ak (A.length) I ?_ ?_
   ·refine (hI _ _).2 ?_
    and_intros
    ·exact trivial
    all_goals first|exact cl0|(simp -implicitDefEqProofs (disch:=omega) only [h2,h5,h11,h12,h13,hh2_0,hh10_0,lma,go_sem]<;>first|(simp [Aj];done)|(simp [Aj];omega))
   intro k s hk hIk
   obtain ⟨hdum,h1,h2,h3,h4,h5,h11,h12,hH⟩:=(hI _ _).1 hIk
   clear hIk
   have hb1:=hbound (k+1)
   have hb0:=hbound k
   simp -implicitDefEqProofs (disch:=omega) only [h1,h2,h3,h4,h5,h11,h12,hH,go_sem]
   refine Af (fun hlt=>?_) (fun hge=>?_)
   ·have hm:A[k]?=some A[k]:=lgg hlt
    generalize A[k]=c at hm
    have hst:=Nj (p:=on) hm
    have hrc:=hrep c
    have hwt:=Q0 l c hll
    have hwr:=EB hw c
    cases hoc:on c with
    | false =>
     simp only [hoc,bft,if_false] at hst hrc
     simp -implicitDefEqProofs (disch:=omega) only [h1,h2,h3,h4,h5,h11,h12,hH,hlt,hm,hrc,Option.getD_none,go_sem]
     try refine ai ?_
     refine (hI _ _).2 ?_
     and_intros
     ·exact trivial
     all_goals first|exact cl0|(simp -implicitDefEqProofs (disch:=omega) only [h1,h2,h3,h4,h5,h11,h12,hH,hst,lma,go_sem]<;>first|(simp [Aj];done)|(simp [Aj];omega))
    | true =>
     simp only [hoc,if_true] at hst hrc
     rw [hst,lma,Gf] at hb1
     simp only [lpc,lpn,Aj,Int.add_zero] at hb1
     have hsum:Aj (((A.take (k+1)).filter on).map (Ap l))=Aj (((A.take k).filter on).map (Ap l))+Ap l c:=by
      rw [hst,lma,Gf]
      simp [Aj]
     generalize Aj (((A.take k).filter on).map (Ap l))=S at h12 hb0 hb1 hsum
     generalize Ap l c=y at hwt hwr hb1 hsum
     simp -implicitDefEqProofs (disch:=omega) only [h1,h2,h3,h4,h5,h11,h12,hH,hlt,hm,hrc,hwt,Option.getD_some,go_sem]
     try refine ai ?_
     refine (hI _ _).2 ?_
     and_intros
     ·exact trivial
     all_goals first|exact cl0|(simp -implicitDefEqProofs (disch:=omega) only [h1,h2,h3,h4,h5,h11,h12,hH,hsum,lma,go_sem]<;>first|(simp [Aj];done)|(simp [Aj];omega))
   ·rw [ltl (by omega),<- hW] at h12
    rw [ltl (by omega),<- hW] at hb0
    obtain ⟨T,hT⟩:∃ T,T=(⟨n.id,u0⟩:Ch)::A.flatMap fun c=>if on c=true then sharesF t (Ap l) on f c (max 1 (u0*Ap l c / W)) else []:=⟨_,rfl⟩
    rw [<- hT] at hsl ⊢
    simp -implicitDefEqProofs (disch:=omega) only [h1,h2,h3,h4,h5,h11,h12,hH,hge,hkd,go_sem]
    obtain ⟨J,hJ⟩:=lpI fun j s=>∃ (acc:List Ch) (w:Nat) (v44_1:Nat),(T=acc++(A.drop j).flatMap fun c=>if on c=true then sharesF t (Ap l) on f c (max 1 (u0*Ap l c / W)) else [])/\s.pe 1=.p (As l)/\s.pe 2=.p (PV.map (KT.int IntKind.i64) ks vs)/\s.pe 4=.p (.int .i64 u0)/\s.pe 5=.ptr (.slot 5 0) 0 0/\s.pe 11=.own (.slot 24 0) w 0 acc.length/\s.pe 12=.p (.int .i64 W)/\s.pe 44=.own (.slot 44 1) v44_1 0 A.length/\s.pe 45=.p (.int .i64 ↑A.length)/\s.pe 46=.p (.int .i64 j)/\s.h (.slot 5 0)=some (0,Ob.box [.p (Ao t.nodes),.p (.int .i64 t.next)])/\s.h (.slot 24 0)=some (w,Ob.arr 2 (acc.map Ch.pv))/\s.h (.slot 44 1)=some (v44_1,Ob.arr 1 (List.map (.int .i64) A))
    refine Ak (A.length) J ?_ ?_
    ·refine (hJ _ _).2 ⟨[⟨n.id,u0⟩],0,nv (s.h (.slot 44 1)),?_⟩
     and_intros
     ·exact hT
     all_goals first|exact cl0|(simp -implicitDefEqProofs (disch:=omega) only [h1,h2,h3,h4,h5,h11,h12,hH,lma,go_sem]<;>first|(simp [Aj];done)|(simp [Aj];omega))
    intro j s hj hJk
    obtain ⟨acc,w,v44_1,htj,h1,h2,h4,h5,h11,h12,hH⟩:=(hJ _ _).1 hJk
    clear hJk
    have hTl:=congrArg List.length htj
    rw [lla] at hTl
    simp -implicitDefEqProofs (disch:=omega) only [h1,h2,h4,h5,h11,h12,hH,go_sem]
    refine Af (fun hjl=>?_) (fun hjg=>?_)
    ·have hx:A[j]?=some A[j]:=lgg hjl
     have hd:A.drop j=A[j]::A.drop (j+1):=ldg hjl
     generalize A[j]=c at hx hd
     have hrc:=hrep c
     have hwt:=Q0 l c hll
     have hwr:=EB hw c
     rw [hd,lfc] at htj
     cases hoc:on c with
     | false =>
      simp only [hoc,bft,if_false,lna] at htj hrc
      simp -implicitDefEqProofs (disch:=omega) only [h1,h2,h4,h5,h11,h12,hH,hjl,hx,hrc,Option.getD_none,go_sem]
      try refine ai ?_
      refine (hJ _ _).2 ⟨acc,w,v44_1,?_⟩
      and_intros
      ·exact htj
      all_goals first|exact cl0|(simp -implicitDefEqProofs (disch:=omega) only [h1,h2,h4,h5,h11,h12,hH,lma,go_sem]<;>first|(simp [Aj];done)|(simp [Aj];omega))
     | true =>
      simp only [hoc,if_true] at htj hrc
      obtain ⟨q,m,hm,hmp,rfl⟩:=hkid c (lmg hx)
      have hlt:=h.kid hn hm hmp
      have hWc:Ap l m.id<=W:=by
       rw [hW]
       exact Kf _ (fun y _=>by have:=EB hw y;omega) (List.mem_filter.2 ⟨lmg hx,hoc⟩)
      have hdv:=Nk (s:=u0) (w:=Ap l m.id) (W:=W) hs0 (by omega) hWc (by omega)
      have hd0:0<=u0*Ap l m.id / W:=Int.ediv_nonneg (Int.mul_nonneg hs0 (by omega)) (by omega)
      have hmul0:0<=u0*Ap l m.id:=Int.mul_nonneg hs0 (by omega)
      have hmul1:u0*Ap l m.id<=1073741824*10000:=Int.mul_le_mul hs1 hwr.2 (by omega) (by omega)
      have htd:=Int.tdiv_eq_ediv_of_nonneg (b:=W) hmul0
      have hrec:=ih q m (max 1 (u0*Ap l m.id / W)) hm (by omega) (by omega) (by omega)
      have hwm:IntKind.i64.wrap (u0*Ap l m.id)=u0*Ap l m.id:=FO (by omega) (by omega)
      have hWne:W ≠ 0:=by omega
      rw [hd,lfc,hoc,if_pos rfl,lla] at hTl
      generalize sharesF t (Ap l) on f m.id (max 1 (u0*Ap l m.id / W))=R at hrec htj hTl
      generalize Ap l m.id=y at hwt hwm htd hrec hd0 hdv hmul0 hmul1
      have hwz:IntKind.i64.wrap (u0*y / W)=u0*y / W:=by
       generalize u0*y / W=z at hd0 hdv
       exact FO (by omega) (by omega)
      simp -implicitDefEqProofs (disch:=omega) only [h1,h2,h4,h5,h11,h12,hH,hjl,hx,hrc,hwt,hwm,htd,hwz,hWne,hrec,Option.getD_some,go_sem]
      try refine ai ?_
      refine (hJ _ _).2 ⟨acc++R,w+1,v44_1,?_⟩
      and_intros
      .exact by rw [htj];simp
      all_goals first|exact cl0|(simp -implicitDefEqProofs (disch:=omega) only [h1,h2,h4,h5,h11,h12,hH,lma,go_sem]<;>first|(simp [Aj];done)|(simp [Aj];omega))
    ·rw [ldl (by omega)] at htj
     simp only [List.flatMap_nil,lan] at htj
     rw [htj]
     simp -implicitDefEqProofs (disch:=omega) only [h1,h2,h4,h5,h11,h12,hH,hjg,go_sem]
theorem ZS {t:Tr} (h:TreeOk t):∀ (i:Nat) (n:Nd),t.nodes[i]?=some n->∀ m,i<m->m<=t.nodes.length->upR ((t.nodes.take m).reverse) n.id=ancF t.nodes t.nodes.length n.id:=by
 intro i
 induction i using Nat.strongRecOn with
 | _ i ih =>
  intro n hn m
  induction m with
  | zero=>intro hi;omega
  | succ m ihm =>
   intro hi hm
   have hx:t.nodes[m]?=some t.nodes[m]:=lgg (by omega)
   have htk:t.nodes.take (m+1)=t.nodes.take m++[t.nodes[m]]:=by rw [List.take_add_one,hx];rfl
   generalize t.nodes[m]=x at hx htk
   rw [htk,List.reverse_append]
   simp only [List.reverse_cons,List.reverse_nil,lna,lca,upR]
   by_cases he:x.id=n.id
   ·obtain ⟨rfl,rfl⟩:=h.idx hx hn he
    rw [if_pos rfl,PC h hn]
    congr 1
    rcases h.nodeAt hn with ⟨h0,_⟩|⟨h0,_,j,p,hj,hp,hpe⟩
    ·subst h0
     simp [upR]
    ·rw [if_neg (by omega),<- hpe]
     exact ih j hj p hp m hj (by omega)
   ·rw [if_neg he]
    have:i ≠ m:=by
     rintro rfl
     rw [hx] at hn
     cases hn
     exact he rfl
    exact ihm (by omega) (by omega)
theorem ZF {t:Tr} (h:TreeOk t) {i:Nat} {n:Nd} (hn:t.nodes[i]?=some n):Du t n.id=ancF t.nodes t.nodes.length n.id:=by
 rw [Du,show A8 t n.id=AU t.nodes n.id by simp [A8,(Bh t).2 h],Dw h.inc hn]
 simp only [Option.isSome_some,if_true]
 unfold up
 have:=ZS h i n hn t.nodes.length (lgs.1 hn).1 (lrf _)
 rwa [List.take_length] at this
theorem Yu {t:Tr} (h:TreeOk t):∀ (j:Nat) (m:Nd),t.nodes[j]?=some m->(1:Int)∈ancF t.nodes t.nodes.length m.id:=by
 intro j
 induction j using Nat.strongRecOn with
 | _ j ih =>
  intro m hm
  rcases h.nodeAt hm with ⟨_,h1,_⟩|⟨_,_,i,p,hi,hp,hpe⟩
  .rw [<- h1];exact I4 h hm
  .exact (DA h hm _).2 (Or.inr ⟨by omega,by rw [<- hpe];exact ih i hi p hp⟩)
def Rep4 (ks:List MKey) (vs:List PV) (L:List Ch) (sh:Int->Int):Prop:=∀ id,A1 ks vs (.int id)=if (L.any fun x=>decide (x.group=id))=true then some (.int .i64 (sh id)) else none
theorem Rep4.put {ks:List MKey} {vs:List PV} {L:List Ch} {sh:Int->Int} (h:Rep4 ks vs L sh) {c:Ch} (hc:c.own=sh c.group):Rep4 (Av ks vs (.int c.group) (.int .i64 c.own)).1 (Av ks vs (.int c.group) (.int .i64 c.own)).2 (L++[c]) sh:=by
 intro id
 rw [Gu]
 by_cases hg:id=c.group
 ·subst hg
  simp [hc]
 ·have hg':¬ c.group=id:=fun he=>hg he.symm
  simp only [hg',MKey.int.injEq,hg,if_false,List.any_append,List.any_cons,List.any_nil,decide_false,Bool.or_false]
  exact h id
theorem zbs {t:Tr} (h:TreeOk t) {l:List Ch} (hl:AscOk (Ag t.nodes) 1 10000 l) (hll:l.length<1000000) (active:List Int) (ha:active.length<1000000):∃ ks vs,V 186 [t.vv,.p (As l),.p (AT active)] []=some (.p (.map (.int .i64) ks vs),[]) /\
  ∀ (i:Nat) (n:Nd),t.nodes[i]?=some n->i ≠ 0->(A1 ks vs (.int n.id)).getD (.int .i64 0)=.int .i64 (shr t (Ap l) (onB t active) n.id):=by
 have hlen:=h.len
 obtain ⟨r,hr,hr1⟩:=Z6 h
 have hu:=QU h active
 obtain ⟨kb,vb,hb,hrep⟩:=zaV t active (by omega) ha
 have hsh:=VW h hl hll hrep t.nodes.length 0 r 1073741824 hr (by omega) (by omega) (by omega)
 have hroot:=IT t h (Ap l) (onB t active)
 have hval:=NC h (Ap l) (onB t active) t.nodes.length 0 r hr
 have hall:=ND h (Ap l) hu t.nodes.length 0 r 1073741824 hr (by omega)
 have hsub:=In h hr (k:=t.nodes.length) (by omega)
 have hsl:=Kh t (Ap l) (onB t active) t.nodes.length r.id 1073741824
 rw [hr1] at hsh hval hall hsl hsub
 rw [hroot] at hval
 generalize sharesF t (Ap l) (onB t active) t.nodes.length 1 1073741824=S at hsh hval hall hsl
 suffices hw:wp (BT V vf186 [t.vv,.p (As l),.p (AT active)] []) (fun r=>∃ ks vs,r=(.p (.map (.int .i64) ks vs),[])/\Rep4 ks vs S (shr t (Ap l) (onB t active))) by
  obtain ⟨q,hq,ks,vs,rfl,hrep4⟩:=hw
  refine ⟨ks,vs,G5 (vf:=vf186) rfl hq,fun i n hn hi=>?_⟩
  rw [hrep4 n.id]
  by_cases hon:onB t active n.id=true
  ·obtain ⟨x,hx,hxe⟩:=hall i n hn hon (Yu h i n hn)
   rw [if_pos (List.any_eq_true.2 ⟨x,hx,decide_eq_true hxe⟩)]
   rfl
  ·rw [if_neg]
   ·rw [IS h _ _ hn hi,if_neg hon]
    rfl
   ·intro hany
    obtain ⟨x,hx,hxe⟩:=List.any_eq_true.1 hany
    have:=(hval x hx).1
    rw [of_decide_eq_true hxe] at this
    exact hon this
 simp -implicitDefEqProofs (disch:=omega) only [vf186,Ru,hb,hsh,go_sem]
 obtain ⟨I,hI⟩:=lpI fun k s=>∃ (ks:List MKey) (vs:List PV),Rep4 ks vs (S.take k) (shr t (Ap l) (onB t active))/\s.pe 7=.mref (.slot 10 0) 0/\s.pe 16=.own (.slot 16 1) 0 0 S.length/\s.pe 17=.p (.int .i64 ↑S.length)/\s.pe 18=.p (.int .i64 k)/\s.h (.slot 10 0)=some (0,Ob.map (KT.int IntKind.i64) ks vs)/\s.h (.slot 16 1)=some (0,Ob.arr 2 (List.map Ch.pv S))
 refine Ak (S.length) I ?_ ?_
 ·refine (hI _ _).2 ⟨[],[],?_⟩
  and_intros
  .exact fun id=>rfl
  all_goals first|exact cl0|(simp -implicitDefEqProofs (disch:=omega) only [lma,go_sem]<;>first|(simp [Aj];done)|(simp [Aj];omega))
 intro k s hk hIk
 obtain ⟨ks,vs,hrep4,hH⟩:=(hI _ _).1 hIk
 clear hIk
 simp -implicitDefEqProofs (disch:=omega) only [hH,go_sem]
 refine Af (fun hlt=>?_) (fun hge=>?_)
 ·have hm:S[k]?=some S[k]:=lgg hlt
  have htk:S.take (k+1)=S.take k++[S[k]]:=by rw [List.take_add_one,hm];rfl
  generalize S[k]=c at hm htk
  have hnext:=hrep4.put (hval c (lmg hm)).2
  rw [<- htk] at hnext
  simp -implicitDefEqProofs (disch:=omega) only [hH,hlt,hm,go_sem]
  try refine ai ?_
  refine (hI _ _).2 ⟨(Av ks vs (.int c.group) (.int .i64 c.own)).1,(Av ks vs (.int c.group) (.int .i64 c.own)).2,?_⟩
  and_intros
  .exact hnext
  all_goals first|exact cl0|(simp -implicitDefEqProofs (disch:=omega) only [hH,lma,go_sem]<;>first|(simp [Aj];done)|(simp [Aj];omega))
 ·rw [ltl (by omega)] at hrep4
  simp -implicitDefEqProofs (disch:=omega) only [hH,hge,go_sem]
  exact ⟨_,_,rfl,hrep4⟩
theorem Gl (t:Tr) (l:List Ch):EM t l=true ↔ TreeOk t/\AscOk (Ag t.nodes) 1 10000 l:=by
 unfold EM
 rw [bat,Bh,EG]
theorem Yj {t:Tr} (h:TreeOk t) {l:List Ch} (hl:AscOk (Ag t.nodes) 1 10000 l) (active:List Int) (ha:active.length<1000000) {i:Nat} {n:Nd} (hn:t.nodes[i]?=some n):V 124 [t.vv,.p (As l),.p (AT active),.p (.int .i64 n.id)] []=some (.tup [.p (.int .i64 (shr t (Ap l) (onB t active) n.id)),.p (.int .i64 0)],[]):=by
 refine Ad (vf:=vf124) rfl ?_
 have hlen:=h.len
 have hll:=IC hl
 have h1:=Pf t l h.fits (by omega) (by omega)
 rw [(Gl t l).2 ⟨h,hl⟩] at h1
 have h2:=HD t n.id (by omega)
 rw [show Ag t.nodes n.id=true by rw [Ag,Dw h.inc hn];rfl] at h2
 by_cases hr:n.id=1
 ·rw [hr] at h2 ⊢
  rw [IT t h]
  simp -implicitDefEqProofs (disch:=omega) only [vf124,Mb,h1,h2,go_sem]
 ·obtain ⟨ks,vs,h3,hg⟩:=zbs h hl (by omega) active ha
  have hi:i ≠ 0:=by
   rintro rfl
   rcases h.nodeAt hn with ⟨_,h4,_⟩|⟨h4,_⟩
   .exact hr h4
   .omega
  have hgn:=hg i n hn hi
  generalize shr t (Ap l) (onB t active) n.id=v at hgn
  simp -implicitDefEqProofs (disch:=omega) only [vf124,Mb,h1,h2,hr,h3,hgn,go_sem]
def DO (x:Int):List Int:=[1,100,300,10000,50,200,7,1+x]
def GA (L:List Int) (a:Nat):Int:=(DO (AB L a 1000)).getD (AB L (Ah L a 1000) 8).toNat 0
theorem WM (L:List Int) (a:Nat) (hL:L.length<4611686018427387904):V 89 [.ptr (.arg 0 0) 0 0] [AK L a]=some (.p (.int .i64 (GA L a)),[AK L (Ah L (Ah L a 1000) 8)]):=by
 refine Ad (vf:=vf89) rfl ?_
 have h1:=CK L a 1000 hL (by omega)
 have a0:=Cf L a 1000
 have a1:=Cg L a (n:=1000) (by omega)
 have h2:=CK L (Ah L a 1000) 8 hL (by omega)
 have b0:=Cf L (Ah L a 1000) 8
 have b1:=Cg L (Ah L a 1000) (n:=8) (by omega)
 unfold GA
 generalize AB L a 1000=x at h1 a0 a1
 generalize AB L (Ah L a 1000) 8=y at h2 b0 b1
 generalize Ah L (Ah L a 1000) 8=a2 at h2
 generalize Ah L a 1000=a1' at h1 h2
 have hm:(DO x)[y.toNat]?=some ((DO x).getD y.toNat 0):=by
  rw [List.getD_eq_getElem?_getD,lgg (by simp [DO];omega)];rfl
 generalize (DO x).getD y.toNat 0=z at hm
 have hm':([PV.int .i64 1,.int .i64 100,.int .i64 300,.int .i64 10000,.int .i64 50,.int .i64 200,.int .i64 7,.int .i64 (1+x)]:List PV)[y.toNat]?=some (.int .i64 z):=by
  have:((DO x).map (PV.int .i64))[y.toNat]?=some (.int .i64 z):=by rw [List.getElem?_map,hm];rfl
  exact this
 have hlt:y.toNat<8:=by omega
 simp -implicitDefEqProofs (disch:=omega) only [vf89,R9,h1,h2,hm',hlt,go_sem]
theorem T7 (L:List Int) (a:Nat):1<=GA L a/\GA L a<=10000:=by
 have a0:=Cf L a 1000
 have a1:=Cg L a (n:=1000) (by omega)
 have b0:=Cf L (Ah L a 1000) 8
 have b1:=Cg L (Ah L a 1000) (n:=8) (by omega)
 unfold GA
 generalize AB L a 1000=x at a0 a1
 generalize AB L (Ah L a 1000) 8=y at b0 b1
 have hmem:(DO x).getD y.toNat 0∈DO x:=by
  rw [List.getD_eq_getElem?_getD,lgg (by simp [DO];omega)]
  exact lgk _
 generalize (DO x).getD y.toNat 0=z at hmem
 simp [DO] at hmem
 omega
def GR (L:List Int) (a:Nat) (ns:List Nd):Int × Nat :=
 if AB L a 15=14 \/ ns=[] then (AB L (Ah L a 15) 9 - 1,Ah L (Ah L a 15) 9)
 else ((ns.getD (AB L (Ah L a 15) ns.length).toNat zeroNd).id,Ah L (Ah L a 15) ns.length)
theorem Y7 (L:List Int) (a:Nat) (t:Tr) (hL:L.length<4611686018427387904) (hl:t.nodes.length<1000000):V 40 [.ptr (.arg 0 0) 0 0,t.vv] [AK L a]=some (.p (.int .i64 (GR L a t.nodes).1),[AK L (GR L a t.nodes).2]):=by
 refine Ad (vf:=vf40) rfl ?_
 have hb:=LI L a 15 hL (by omega) (by omega)
 have h9:=CK L (Ah L a 15) 9 hL (by omega)
 have hn:=CK L (Ah L a 15) t.nodes.length hL (by omega)
 have r9:=Cf L (Ah L a 15) 9
 have r9':=Cg L (Ah L a 15) (n:=9) (by omega)
 by_cases h14:AB L a 15=14
 ·have h14':AB L a 15=15 - 1:=by omega
  simp -implicitDefEqProofs (disch:=omega) only [vf40,JS,hb,h14',h9,go_sem]
  simp [GR,h14]
 ·have h14':¬ AB L a 15=15 - 1:=by omega
  by_cases hz:t.nodes=[]
  ·have hz':(t.nodes.length:Int)=0:=by rw [hz];rfl
   simp -implicitDefEqProofs (disch:=omega) only [vf40,JS,hb,h14',h9,hz',go_sem]
   simp [GR,hz]
  ·have hp:1<=t.nodes.length:=List.length_pos_iff.2 hz
   have q0:=Cf L (Ah L a 15) t.nodes.length
   have q1:=Cg L (Ah L a 15) (n:=t.nodes.length) (by omega)
   have hm:t.nodes[(AB L (Ah L a 15) t.nodes.length).toNat]?=some (t.nodes.getD (AB L (Ah L a 15) t.nodes.length).toNat zeroNd):=by
    rw [List.getD_eq_getElem?_getD,lgg (by omega)];rfl
   have hz0:¬ ((t.nodes.length:Int)=0):=by omega
   simp -implicitDefEqProofs (disch:=omega) only [vf40,JS,hb,h14',h9,hn,hz0,hm,go_sem]
   simp [GR,h14,hz]
theorem I6 (l:List Ch) (id:Int) (hl:l.length<1000000):V 57 [.p (As l),.p (.int .i64 id)] []=some (.p (.int .i64 (Am l id)),[]):=by
 refine Ad (vf:=vf57) rfl ?_
 simp -implicitDefEqProofs (disch:=omega) only [vf57,Ss,go_sem]
 obtain ⟨I,hI⟩:=lpI fun k s=>Am l id=Am (l.drop k) id/\s.pe 0=.p (As l)/\s.pe 1=.p (.int .i64 id)/\s.pe 5=.p (.int .i64 k)
 refine Ak (l.length) I ?_ ?_
 ·refine (hI _ _).2 ?_
  and_intros
  ·exact cl3
  all_goals exact cl0
 intro k s hk hIk
 obtain ⟨hq,hH⟩:=(hI _ _).1 hIk
 clear hIk
 simp -implicitDefEqProofs (disch:=omega) only [hH,go_sem]
 refine Af (fun hlt=>?_) (fun hge=>?_)
 ·have hm:l[k]?=some l[k]:=lgg hlt
  generalize l[k]=c at hm
  have hst:=O2 hm hq
  by_cases hp:c.group=id
  ·rw [if_pos hp] at hst
   simp -implicitDefEqProofs (disch:=omega) only [hH,hlt,hm,hp,hst,go_sem]
  ·rw [if_neg hp] at hst
   simp -implicitDefEqProofs (disch:=omega) only [hH,hlt,hm,hp,go_sem]
   try refine ai ?_
   refine (hI _ _).2 ?_
   and_intros
   .exact hst
   all_goals exact cl0
 ·rw [ldl (by omega)] at hq
  simp -implicitDefEqProofs (disch:=omega) only [hH,hge,hq,Am,go_sem]
theorem Iw (t:Tr) (l:List Ch) (hn:t.nodes.length<1000000) (hl:l.length<1000000):V 130 [t.vv,.p (As l)] []=some (.p (.bool (BI t l)),[]):=by
 refine Ad (vf:=vf130) rfl ?_
 have hc:=E2 t hn
 unfold BI
 cases ht:AY t with
 | false =>
  rw [ht] at hc
  simp -implicitDefEqProofs (disch:=omega) only [vf130,Ma,hc,bfa,go_sem]
 | true =>
  rw [ht] at hc
  rw [bta]
  simp -implicitDefEqProofs (disch:=omega) only [vf130,Ma,hc,go_sem]
  obtain ⟨I,hI⟩:=lpI fun k s=>Bv (Ag t.nodes) 0 1152921504606846976 none l=Bv (Ag t.nodes) 0 1152921504606846976 (Eo l k) (l.drop k)/\s.pe 1=.p (As l)/\s.pe 2=.ptr (.slot 2 0) 0 0/\s.pe 5=.p (.int .i64 k)/\s.h (.slot 2 0)=some (0,Ob.box [.p (Ao t.nodes),.p (.int .i64 t.next)])
  refine Ak (l.length) I ?_ ?_
  ·refine (hI _ _).2 ?_
   and_intros
   ·exact cl3
   all_goals exact cl0
  intro k s hk hIk
  obtain ⟨hq,h1,h2,hH⟩:=(hI _ _).1 hIk
  clear hIk
  simp -implicitDefEqProofs (disch:=omega) only [h1,h2,hH,go_sem]
  refine Af (fun hlt=>?_) (fun hge=>?_)
  ·have hm:l[k]?=some l[k]:=lgg hlt
   generalize l[k]=c at hm
   have hg:=Lr hq hm
   have hb':=LL hq hm
   have hfi:=DR t c.group hn
   rw [EH ht] at hfi
   have hkn:Ag t.nodes c.group=(AU t.nodes c.group).isSome:=rfl
   generalize (AU t.nodes c.group).isSome=kn at hfi hkn
   by_cases hk0:(0:Int)<k
   ·obtain ⟨e,he,he'⟩:=LB hm hk0
    have hk1:(0:Int)<=(k:Int) - 1:=by omega
    rw [KF hk0 he,hkn] at hg hb'
    simp -implicitDefEqProofs (disch:=omega) only [h1,h2,hH,hlt,hm,hfi,hk0,hk1,he',go_sem]
    repeat' ((first|refine AN ?_ ?_|refine AM ?_ ?_|refine AQ ?_ ?_|refine AP ?_ ?_|refine AI ?_ ?_|refine AH ?_ ?_|refine AO ?_ ?_|refine AJ ?_ ?_|refine Af ?_ ?_|refine AS ?_ ?_)<;>intro hb<;>simp -implicitDefEqProofs (disch:=omega) only [hb,h1,h2,hH,hlt,hm,hfi,hk0,hk1,he',go_sem])
    all_goals first
     | (rw [hb' (by first|(rintro ⟨h1,h2,h3,h4⟩;omega)|simp_all)];done)
     | skip
    try refine ai ?_
    refine (hI _ _).2 ?_
    and_intros
    ·exact hg ⟨by first|assumption|(cases kn<;>simp_all),by omega,by omega,by omega⟩
    all_goals exact cl0
   ·rw [KE hk0,hkn] at hg hb'
    simp -implicitDefEqProofs (disch:=omega) only [h1,h2,hH,hlt,hm,hfi,hk0,go_sem]
    repeat' ((first|refine AN ?_ ?_|refine AM ?_ ?_|refine AQ ?_ ?_|refine AP ?_ ?_|refine AI ?_ ?_|refine AH ?_ ?_|refine AO ?_ ?_|refine AJ ?_ ?_|refine Af ?_ ?_|refine AS ?_ ?_)<;>intro hb<;>simp -implicitDefEqProofs (disch:=omega) only [hb,h1,h2,hH,hlt,hm,hfi,hk0,go_sem])
    all_goals first
     | (rw [hb' (by first|(rintro ⟨h1,h2,h3⟩;omega)|simp_all)];done)
     | skip
    try refine ai ?_
    refine (hI _ _).2 ?_
    and_intros
    .exact hg ⟨by first|assumption|(cases kn<;>simp_all),by omega,by omega⟩
    all_goals exact cl0
  ·have hT:=LK hq (by omega)
   simp -implicitDefEqProofs (disch:=omega) only [h1,h2,hH,hge,hT,go_sem]
theorem Qt (t:Tr) (a:List Ch) (id now:Int) (hn:t.nodes.length<1000000) (hl:a.length<1000000):V 56 [t.vv,.p (As a),.p (.int .i64 id),.p (.int .i64 now)] []=some (.p (.bool (CC t a id now)),[]):=by
 refine Ad (vf:=vf56) rfl ?_
 have h1:=Iw t a hn hl
 have h2:=DR t id hn
 have h3:=I6 a id hl
 unfold CC
 cases hc:BI t a with
 | false =>
  rw [hc] at h1
  simp -implicitDefEqProofs (disch:=omega) only [vf56,JR,h1,bfa,go_sem]
 | true =>
  rw [hc] at h1
  have htr:AY t=true:=by
   unfold BI at hc
   simp only [bat] at hc
   exact hc.1
  rw [EH htr] at h2
  change V 83 _ _=some (.p (.bool (Ag t.nodes id)),[]) at h2
  cases hk:Ag t.nodes id with
  | false =>
   rw [hk] at h2
   simp -implicitDefEqProofs (disch:=omega) only [vf56,JR,h1,h2,bfa,bta,go_sem]
  | true =>
   rw [hk] at h2
   simp -implicitDefEqProofs (disch:=omega) only [vf56,JR,h1,h2,h3,bta,go_sem]
theorem WZ (t:Tr) (a:List Ch) (id share cost now margin:Int) (hn:t.nodes.length<1000000) (hl:a.length<1000000):V 199 [t.vv,.p (As a),.p (.int .i64 id),.p (.int .i64 share),.p (.int .i64 cost),.p (.int .i64 now),.p (.int .i64 margin)] []=some (.tup [.fresh 2 ((B7 t a id share cost now margin).1.map Ch.pv),.p (.int .i64 (B7 t a id share cost now margin).2)],[]):=by
 refine Ad (vf:=vf199) rfl ?_
 have h1 := Iw t a hn hl
 have h2 := DR t id hn
 have h3 := I6 a id hl
 have h4 := Qt t a id now hn hl
 unfold B7
 cases hc : BI t a with
 | false =>
  rw [hc] at h1
  simp -implicitDefEqProofs (disch:=omega) only [vf199,Db,h1,go_sem]
  try rfl
 | true =>
  rw [hc] at h1
  have hcc := hc
  unfold BI at hcc
  simp only [bat] at hcc
  have hA : AscOk (Ag t.nodes) 0 1152921504606846976 a:=(EG _ _ _ _).1 hcc.2
  have hown := PU hA (by omega) (by omega) id
  rw [EH hcc.1] at h2
  change V 83 _ _=some (.p (.bool (Ag t.nodes id)),[]) at h2
  rw [if_pos rfl]
  cases hk : Ag t.nodes id with
  | false =>
   rw [hk] at h2
   simp -implicitDefEqProofs (disch:=omega) only [vf199,Db,h1,h2,go_sem]
   try rfl
  | true =>
   rw [hk] at h2
   rw [if_pos rfl]
   rw [CC, hc, hk, bta, bta] at h4
   by_cases c1:1<=share/\share<=1073741824
   ·have c1a : ¬ share<1:=by omega
    have c1b : ¬ 1073741824<share:=by omega
    by_cases c2:1<=cost/\cost<=4294967296
    ·have c2a:¬ cost<1:=by omega
     have c2b:¬ 4294967296<cost:=by omega
     by_cases c3:0<=now/\now<=576460752303423488
     ·have c3a:¬ now<0:=by omega
      have c3b:¬ 576460752303423488<now:=by omega
      by_cases c4:0<=margin/\margin<=1073741824
      ·have c4a:¬ margin<0:=by omega
       have c4b:¬ 1073741824<margin:=by omega
       rw [if_pos ⟨c1,c2,c3,c4⟩]
       have hnn:0<=cost*1073741824+share - 1:=by omega
       have hq:=Int.tdiv_eq_ediv_of_nonneg (b:=share) hnn
       have hq1:(cost*1073741824+share - 1) / share<=cost*1073741824+share - 1:=Int.ediv_le_self _ hnn
       have hq0:0<=(cost*1073741824+share - 1) / share:=Int.ediv_nonneg hnn (by omega)
       unfold GQ
       generalize Am a id=o at h3 hown h4
       generalize (cost*1073741824+share - 1) / share=z at hq hq0 hq1
       by_cases c5:now<o
       ·rw [if_pos c5]
        rw [decide_eq_false (by omega)] at h4
        simp -implicitDefEqProofs (disch:=omega) only [vf199,Db,h1,h2,h3,h4,c1a,c1b,c2a,c2b,c3a,c3b,c4a,c4b,go_sem]
        try rfl
       ·rw [if_neg c5]
        rw [decide_eq_true (by omega)] at h4
        have hw1:IntKind.i64.wrap (cost*1073741824)=cost*1073741824:=FO (by omega) (by omega)
        have hne:share ≠ 0:=by omega
        generalize hm:max (max o (now - margin)) 0=M
        have hM:0<=M/\M<=1152921504606846976:=by omega
        by_cases c6:1152921504606846976<M+z
        ·rw [if_pos c6]
         simp -implicitDefEqProofs (disch:=omega) only [vf199,Db,h1,h2,h3,h4,c1a,c1b,c2a,c2b,c3a,c3b,c4a,c4b,hw1,hne,hq,hm,c6,go_sem]
         try rfl
        ·rw [if_neg c6]
         unfold F1
         simp -implicitDefEqProofs (disch:=omega) only [vf199,Db,h1,h2,h3,h4,c1a,c1b,c2a,c2b,c3a,c3b,c4a,c4b,hw1,hne,hq,hm,c6,go_sem]
         obtain ⟨I,hI⟩:=lpI fun k s=>∃ (acc:List Ch) (d:Bool) (w:Nat),withGo id (M+z) false a=acc++withGo id (M+z) d (a.drop k)/\acc.length<=2*k/\s.pe 1=.p (As a)/\s.pe 2=.p (.int .i64 id)/\s.pe 16=.p (.int .i64 (M+z))/\s.pe 17=.own (.slot 17 0) w 0 acc.length/\s.pe 18=.p (.bool d)/\s.pe 19=.p (.int .i64 k)/\s.h (.slot 17 0)=some (w,Ob.arr 2 (acc.map Ch.pv))
         refine Ak (a.length) I ?_ ?_
         ·refine (hI _ _).2 ⟨[],false,0,?_⟩
          and_intros
          ·rfl
          ·exact cl3
          all_goals exact cl0
         intro k s hk hIk
         obtain ⟨acc,d,w,hw,hal,h1,h2,hH⟩:=(hI _ _).1 hIk
         clear hIk
         simp -implicitDefEqProofs (disch:=omega) only [h1,h2,hH,go_sem]
         refine Af (fun hlt=>?_) (fun hge=>?_)
         ·have hm:a[k]?=some a[k]:=lgg hlt
          have hd:a.drop k=a[k]::a.drop (k+1):=ldg hlt
          generalize a[k]=c at hm hd
          rw [hd,withGo] at hw
          cases d with
          | true =>
           by_cases he:c.group=id
           ·simp only [he,Bool.not_true,bfa,bft,if_false,if_true,lna,lan,Bool.true_or] at hw
            simp -implicitDefEqProofs (disch:=omega) only [h1,h2,hH,hlt,hm,he,go_sem]
            try refine ai ?_
            refine (hI _ _).2 ⟨acc,true,w,?_⟩
            and_intros
            ·exact hw
            ·omega
            all_goals exact cl0
           ·simp only [he,Bool.not_true,bfa,bft,if_false,lna,Bool.true_or,<- laa] at hw
            simp -implicitDefEqProofs (disch:=omega) only [h1,h2,hH,hlt,hm,he,go_sem]
            try refine ai ?_
            refine (hI _ _).2 ⟨acc++[c],true,w+1,?_⟩
            and_intros
            ·exact hw
            ·exact by simp;omega
            all_goals exact cl0
          | false =>
           by_cases hge:id<=c.group
           ·by_cases he:c.group=id
            ·simp only [he,Int.le_refl,decide_true,bnf,bas,if_true,lan,Bool.or_true,<- laa] at hw
             simp -implicitDefEqProofs (disch:=omega) only [h1,h2,hH,hlt,hm,hge,he,Int.le_refl,decide_true,go_sem]
             try refine ai ?_
             refine (hI _ _).2 ⟨acc++[⟨id,M+z⟩],true,w+1,?_⟩
             and_intros
             .exact hw
             .exact by simp;omega
             all_goals exact cl0
            ·simp only [he,hge,decide_true,bnf,bas,if_true,if_false,Bool.or_true,<- laa] at hw
             simp -implicitDefEqProofs (disch:=omega) only [h1,h2,hH,hlt,hm,hge,he,go_sem]
             try refine ai ?_
             refine (hI _ _).2 ⟨acc++[⟨id,M+z⟩]++[c],true,w+1+1,?_⟩
             and_intros
             .exact hw
             .exact by simp;omega
             all_goals exact cl0
           ·have he:¬ c.group=id:=by omega
            simp only [he,hge,decide_false,bnf,Bool.and_false,bft,if_false,lna,Bool.or_false,<- laa] at hw
            simp -implicitDefEqProofs (disch:=omega) only [h1,h2,hH,hlt,hm,hge,he,go_sem]
            try refine ai ?_
            refine (hI _ _).2 ⟨acc++[c],false,w+1,?_⟩
            and_intros
            .exact hw
            .exact by simp;omega
            all_goals exact cl0
         ·rw [ldl (by omega),withGo] at hw
          cases d with
          | true =>
           simp only [if_true,lan] at hw
           simp -implicitDefEqProofs (disch:=omega) only [h1,h2,hH,hge,go_sem]
           rw [hw]
          | false =>
           simp only [bft,if_false] at hw
           simp -implicitDefEqProofs (disch:=omega) only [h1,h2,hH,hge,go_sem]
           rw [hw]
           simp [Ch.pv]
      ·rw [if_neg (fun h=>c4 h.2.2.2)]
       by_cases c4a:margin<0
       ·simp -implicitDefEqProofs (disch:=omega) only [vf199,Db,h1,h2,c1a,c1b,c2a,c2b,c3a,c3b,c4a,go_sem]
        try rfl
       ·have c4b:1073741824<margin:=by omega
        simp -implicitDefEqProofs (disch:=omega) only [vf199,Db,h1,h2,c1a,c1b,c2a,c2b,c3a,c3b,c4a,c4b,go_sem]
        try rfl
     ·rw [if_neg (fun h=>c3 h.2.2.1)]
      by_cases c3a:now<0
      ·simp -implicitDefEqProofs (disch:=omega) only [vf199,Db,h1,h2,c1a,c1b,c2a,c2b,c3a,go_sem]
       try rfl
      ·have c3b:576460752303423488<now:=by omega
       simp -implicitDefEqProofs (disch:=omega) only [vf199,Db,h1,h2,c1a,c1b,c2a,c2b,c3a,c3b,go_sem]
       try rfl
    ·rw [if_neg (fun h=>c2 h.2.1)]
     by_cases c2a:cost<1
     ·simp -implicitDefEqProofs (disch:=omega) only [vf199,Db,h1,h2,c1a,c1b,c2a,go_sem]
      try rfl
     ·have c2b:4294967296<cost:=by omega
      simp -implicitDefEqProofs (disch:=omega) only [vf199,Db,h1,h2,c1a,c1b,c2a,c2b,go_sem]
      try rfl
   ·rw [if_neg (fun h=>c1 h.1)]
    by_cases c1a:share<1
    ·simp -implicitDefEqProofs (disch:=omega) only [vf199,Db,h1,h2,c1a,go_sem]
     try rfl
    ·have c1b:1073741824<share:=by omega
     simp -implicitDefEqProofs (disch:=omega) only [vf199,Db,h1,h2,c1a,c1b,go_sem]
     try rfl
theorem YE {kn:Int->Bool} {hi:Int} {a:List Ch} (h:AscOk kn 0 hi a) {id v:Int} (hk:kn id=true) (h0:0<=v) (h1:v<=hi):AscOk kn 0 hi (F1 a id v):=by
 unfold F1
 refine ⟨fun c hc=>?_,It id v a false h.inc,fun c hc=>?_⟩
 ·rcases E0 id v a false c hc with ⟨_,rfl⟩|⟨hm,_⟩
  .exact hk
  .exact h.known c hm
 ·rcases E0 id v a false c hc with ⟨_,rfl⟩|⟨hm,_⟩
  .exact ⟨h0,h1⟩
  .exact h.range c hm
theorem OL {t:Tr} {a:List Ch} {id share cost now margin:Int} (h:(B7 t a id share cost now margin).2=0):AscOk (Ag t.nodes) 0 1152921504606846976 (B7 t a id share cost now margin).1:=by
 unfold B7 at h ⊢
 split at h
 ·rename_i hc
  rw [if_pos hc]
  unfold BI at hc
  simp only [bat] at hc
  have hA:=(EG _ _ _ _).1 hc.2
  split at h
  ·rename_i hk
   rw [if_pos hk]
   split at h
   ·rename_i hr
    rw [if_pos hr]
    split at h
    ·simp at h
    ·rename_i hn
     rw [if_neg hn]
     split at h
     ·simp at h
     ·rename_i hv
      rw [if_neg hv]
      refine YE hA hk ?_ (by omega)
      unfold GQ
      have:0<=(cost*1073741824+share - 1) / share:=Int.ediv_nonneg (by omega) (by omega)
      omega
   .simp at h
  .simp at h
 .simp at h
def NInv (t:Tr) (a:List Ch) (now:Int) (pre:List Int) (best:Int):Prop :=
 (best=0/\∀ x∈pre,CC t a x now=false) \/
 (best ≠ 0/\best∈pre/\CC t a best now=true/\∀ x∈pre,CC t a x now=true->Am a best<Am a x \/ (Am a best=Am a x/\best<=x))
theorem NInv.skip {t:Tr} {a:List Ch} {now:Int} {pre:List Int} {best x:Int} (h:NInv t a now pre best) (hx:CC t a x now=false):NInv t a now (pre++[x]) best:=by
 rcases h with ⟨h1,h2⟩|⟨h1,h2,h3,h4⟩
 ·refine Or.inl ⟨h1,fun y hy=>?_⟩
  rcases lmp.1 hy with hy|hy
  .exact h2 y hy
  .rw [List.mem_singleton] at hy;subst hy;exact hx
 ·refine Or.inr ⟨h1,List.mem_append_left _ h2,h3,fun y hy hm=>?_⟩
  rcases lmp.1 hy with hy|hy
  .exact h4 y hy hm
  .rw [List.mem_singleton] at hy;subst hy;rw [hx] at hm;cases hm
theorem NInv.take {t:Tr} {a:List Ch} {now:Int} {pre:List Int} {best x:Int} (h:NInv t a now pre best) (hx:CC t a x now=true) (h0:x ≠ 0) (hb:best=0 \/ Am a x<Am a best \/ (Am a x=Am a best/\x<best)):NInv t a now (pre++[x]) x:=by
 refine Or.inr ⟨h0,List.mem_append_right _ (List.mem_singleton.2 rfl),hx,fun y hy hm=>?_⟩
 rcases lmp.1 hy with hy|hy
 ·rcases h with ⟨h1,h2⟩|⟨h1,h2,h3,h4⟩
  ·rw [h2 y hy] at hm;cases hm
  ·have:=h4 y hy hm
   omega
 .rw [List.mem_singleton] at hy;subst hy;exact Or.inr ⟨rfl,Int.le_refl _⟩
theorem NInv.keep {t:Tr} {a:List Ch} {now:Int} {pre:List Int} {best x:Int} (h:NInv t a now pre best) (hb:¬ (best=0 \/ Am a x<Am a best \/ (Am a x=Am a best/\x<best))):NInv t a now (pre++[x]) best:=by
 rcases h with ⟨h1,h2⟩|⟨h1,h2,h3,h4⟩
 ·exact absurd (Or.inl h1) hb
 ·refine Or.inr ⟨h1,List.mem_append_left _ h2,h3,fun y hy hm=>?_⟩
  rcases lmp.1 hy with hy|hy
  .exact h4 y hy hm
  .rw [List.mem_singleton] at hy;subst hy;omega
theorem QG {t:Tr} {a:List Ch} {x now:Int} (h:CC t a x now=true):x ≠ 0:=by
 unfold CC BI at h
 simp only [bat] at h
 obtain ⟨n,hn,rfl⟩:=C2 h.1.2
 have:=((Bh t).1 h.1.1.1).pos n hn
 omega
structure Pt where
 group:Int
 usage:Int
 protect:Int
 own:Int
 room:Int
 deriving DecidableEq
def Pt.pv (c:Pt):PV:=.agg [.int .i64 c.group,.int .i64 c.usage,.int .i64 c.protect,.int .i64 c.own,.int .i64 c.room]
abbrev Pt.vv (c:Pt):VVal:=.agg [.p (.int .i64 c.group),.p (.int .i64 c.usage),.p (.int .i64 c.protect),.p (.int .i64 c.own),.p (.int .i64 c.room)]
attribute [go_sem] Pt.pv
theorem YF (l:List Pt):(l.map Pt.pv).all PV.flat=true:=by
 rw [List.all_eq_true]
 intro x hx
 obtain ⟨n,_,rfl⟩:=lmm.1 hx
 rfl
attribute [go_sem] YF
end Go.V
