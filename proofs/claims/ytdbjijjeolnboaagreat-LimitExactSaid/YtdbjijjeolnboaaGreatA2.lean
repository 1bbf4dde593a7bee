import Derived.Test.YtdbjijjeolnboaaGreatA1
import Derived.Attr
set_option linter.unusedSectionVars false
set_option linter.unusedSimpArgs false
set_option linter.unusedVariables false
set_option maxHeartbeats 32000000
open Nat renaming reduceAdd → rA, reduceSub → rS, reduceEqDiff → rE, reduceLeDiff → rL, le_refl → lrf
open List renaming getElem?_eq_getElem → lgg, getElem?_eq_some_iff → lgs, mem_of_getElem? → lmg, drop_eq_getElem_cons → ldg, mem_cons_of_mem → lmc, map_cons → lpc, drop_of_length_le → ldl, nil_append → lna, append_nil → lan, mem_map → lmm, mem_cons_self → lms, map_append → lma, take_of_length_le → ltl, getElem?_of_mem → lgm, length_cons → llc, length_append → lla, flatMap_cons → lfc, getElem?_append_right → lgr, mem_cons → lmk, map_nil → lpn, length_nil → lln, mem_append → lmp, length_map → llm, eq_nil_of_length_eq_zero → lez, getElem_mem → lgk, length_take → llt, pairwise_cons → lpw, cons_append → lca, filter_cons → lfl
open Option renaming some.injEq → osi
open Bool renaming and_eq_true → bat, false_and → bfa, false_eq_true → bft, true_and → bta, not_false → bnf, and_self → bas, or_eq_true → bot, and_true → bau
open Prod renaming mk.injEq → pmi
namespace Go.V
def wp {α : Type} (x : Option α) (Q : α -> Prop) (_u : Tok Q:=⟨⟩) : Prop:=∃ a,x = some a /\ Q a
section
variable {α β : Type}
theorem Ai (a : α) (f : α -> Option β) (u : Tok f) : ob (some a) f u = f a:=rfl
theorem Az (f : α -> Option β) (u : Tok f) : ob none f u = none:=rfl
theorem GJ {c : Prop} [Decidable c] (x : Option α) (u : Tok x) (h : c) : gd c x u = x:=by simp [gd,h]
theorem zbY (x : Option α) (i : Decidable True) (u : Tok x) : @gd α True i x u = x:=by simp [gd]
theorem E2 (x y : α) (u : Tok x) (v : Tok y) : br true x y u v = x:=rfl
theorem E0 (x y : α) (u : Tok x) (v : Tok y) : br false x y u v = y:=rfl
theorem Im (a : α) (Q : α -> Prop) (u : Tok Q) : wp (some a) Q u = Q a:=by simp [wp]
theorem EA (x : Option α) (f : α -> Option β) (Q : β -> Prop) (u : Tok f) (v : Tok Q) : wp (ob x f u) Q v = wp x fun a=>wp (f a) Q:=by
 cases x <;> simp [wp,ob]
theorem S2 {b : Bool} {x y : Option α} {Q : α -> Prop} {u : Tok x} {v : Tok y} {t : Tok Q} (h1 : b = true -> wp x Q) (h2 : b = false -> wp y Q) : wp (br b x y u v) Q t:=by
 cases b
 .exact h2 rfl
 .exact h1 rfl
theorem In {x : Option α} {Q Q' : α -> Prop} (h : wp x Q) (hq : ∀ a,Q a -> Q' a) : wp x Q':=by
 obtain ⟨a,ha,q⟩:=h
 exact ⟨a,ha,hq a q⟩
theorem zaS {x : Option α} {a : α} (h : wp x (· = a)) : x = some a:=by
 obtain ⟨b,hb,rfl⟩:=h
 exact hb
end
theorem PZ {b : St -> Option (VExit × St)} : ∀ {n m : Nat} {s : St} {r : VExit × St},n <= m -> Bb b n s = some r -> Bb b m s = some r:=by
 intro n
 induction n with
 | zero=>intro m s r _ h; simp [Bb] at h
 | succ n ih =>
  intro m s r hm h
  obtain ⟨m,rfl⟩ : ∃ k,m = k + 1:=⟨m - 1,by omega⟩
  simp only [Bb] at h ⊢
  cases hb : b s with
  | none=>simp [hb,ob] at h
  | some q =>
   obtain ⟨e,s'⟩:=q
   simp only [hb,ob] at h ⊢
   cases e with
   | normal=>exact ih (by omega) h
   | exit _=>exact h
   | ret=>exact h
theorem J9 {b : St -> Option (VExit × St)} {n : Nat} {s : St} {r : VExit × St} (h : Bb b n s = some r) : EN b s = some r:=by
 unfold EN
 have hex : ∃ n r,Bb b n s = some r:=⟨n,r,h⟩
 rw [dif_pos hex]
 have h':=Classical.choose_spec (Classical.choose_spec hex)
 have h1:=PZ (Nat.le_max_left n (Classical.choose hex)) h
 have h2:=PZ (Nat.le_max_right n (Classical.choose hex)) h'
 rw [h1] at h2
 exact h2.symm
noncomputable def Ks (r : VExit × St) (k : St -> Option (VExit × St)) : Option (VExit × St):=match r.1 with
 | .normal=>k r.2
 | _=>some r
theorem GZ (s : St) (k : St -> Option (VExit × St)) : Ks (.normal,s) k = k s:=rfl
theorem Pu (i : Nat) (s : St) (k : St -> Option (VExit × St)) : Ks (.exit i,s) k = some (.exit i,s):=rfl
theorem Qh (s : St) (k : St -> Option (VExit × St)) : Ks (.ret,s) k = some (.ret,s):=rfl
def inB (id : Nat) (r : VExit × St) : Option (VExit × St):=if r.1 = .exit id then some (.normal,r.2) else some r
theorem P3 (id : Nat) (s : St) : inB id (.normal,s) = some (.normal,s):=by simp [inB]
theorem SM (id : Nat) (s : St) : inB id (.ret,s) = some (.ret,s):=by simp [inB]
theorem RZ (id i : Nat) (s : St) : inB id (.exit i,s) = if i = id then some (.normal,s) else some (.exit i,s):=by simp [inB]
section
variable (Γ : Sig) (s : St)
theorem H9 : AD Γ .skip s = some (.normal,s):=by simp [AD]
theorem G9 (r : VRegion) : AD Γ (.region r) s = ob (B9 Γ r s) fun s'=>some (.normal,s'):=by simp [AD]
theorem EZ (a b : VCode) : AD Γ (.seq a b) s = ob (AD Γ a s) fun r=>Ks r (AD Γ b):=by
 simp only [AD]
 rfl
theorem Hh (t : Nat) (a b : VCode) : AD Γ (.cond (.v t) a b) s = match s.pe t with
  | .p (.bool c)=>br c (AD Γ a s) (AD Γ b s)
  | _=>none:=by
 simp only [AD]
 rfl
theorem H4 (id : Nat) (c : VCode) : AD Γ (.block id c) s = ob (AD Γ c s) (inB id):=by
 simp only [AD]
 rfl
theorem Ia (c : VCode) : AD Γ (.loop c) s = EN (AD Γ c) s:=by simp only [AD]
theorem JD (id : Nat) : AD Γ (.exit id) s = some (.exit id,s):=by simp only [AD]
theorem JW : AD Γ .ret s = some (.ret,s):=by simp only [AD]
theorem H3 (c : VCode) : AD Γ (.scope c) s = AD Γ c s:=by simp only [AD]
theorem JC : AD Γ .fail s = none:=by simp only [AD]
theorem Ir (a b : Id) (c : VCode) : AD Γ (.mv a b c) s = AD Γ c (FP a b s):=by simp only [AD]
end
theorem WZ (Γ : Sig) (ops : List VOper) (s : St) : B9 Γ ⟨ops,[],[]⟩ s = ob (BT Γ ops { pe:=s.pe,te:=fun _=>none,h:=s.h }) fun q=>some { pe:=q.pe,h:=q.h }:=by
 simp [B9,Dl]
theorem PG (Γ : Sig) (r : RS) : BT Γ [] r = some r:=rfl
theorem Gd (Γ : Sig) (o : VOper) (os : List VOper) (r : RS) : BT Γ (o :: os) r = ob (BU Γ o r) fun r'=>BT Γ os r':=rfl
section
variable (Γ : Sig) (d : VDst) (op : VOp) (pe : Nat -> VVal) (te : Nat -> Option VVal) (h : VHeap)
theorem zbi (s : Nat) : BU Γ ⟨.v s,op,none⟩ ⟨pe,te,h⟩ = ob (Aj Γ (RS.look ⟨pe,te,h⟩) h s op) fun q=>some ⟨Ef pe s q.1,te,h.upds q.2⟩:=rfl
theorem zbj (s : Nat) : BU Γ ⟨.t s,op,none⟩ ⟨pe,te,h⟩ = ob (Aj Γ (RS.look ⟨pe,te,h⟩) h s op) fun q=>some ⟨pe,Fb te s q.1,h.upds q.2⟩:=rfl
theorem zbk : BU Γ ⟨.none,op,none⟩ ⟨pe,te,h⟩ = ob (Aj Γ (RS.look ⟨pe,te,h⟩) h 0 op) fun q=>some ⟨pe,te,h.upds q.2⟩:=rfl
theorem ZH (s : Nat) (g : VArg) (want : Bool) : BU Γ ⟨.v s,op,some (g,want)⟩ ⟨pe,te,h⟩ = ob (RS.look ⟨pe,te,h⟩ g) fun gv=>match gv with
  | .p (.bool b)=>br (b == want) (ob (Aj Γ (RS.look ⟨pe,te,h⟩) h s op) fun q=>some ⟨Ef pe s q.1,te,h.upds q.2⟩) (some ⟨Ef pe s .undef,te,h⟩)
  | .undef=>some ⟨Ef pe s .undef,te,h⟩
  | _=>none:=rfl
theorem ZI (s : Nat) (g : VArg) (want : Bool) : BU Γ ⟨.t s,op,some (g,want)⟩ ⟨pe,te,h⟩ = ob (RS.look ⟨pe,te,h⟩ g) fun gv=>match gv with
  | .p (.bool b)=>br (b == want) (ob (Aj Γ (RS.look ⟨pe,te,h⟩) h s op) fun q=>some ⟨pe,Fb te s q.1,h.upds q.2⟩) (some ⟨pe,Fb te s .undef,h⟩)
  | .undef=>some ⟨pe,Fb te s .undef,h⟩
  | _=>none:=rfl
theorem zcr (s : Nat) : RS.look ⟨pe,te,h⟩ (.v s) = some (pe s):=rfl
theorem zcs (s : Nat) : RS.look ⟨pe,te,h⟩ (.t s) = te s:=rfl
theorem zct (d : PV) : RS.look ⟨pe,te,h⟩ (.c d) = some (Ci d):=rfl
theorem zbc (s t : Nat) (v : VVal) : Ef pe s v t = if t = s then v else pe t:=rfl
theorem zbd (s t : Nat) (v : VVal) : Fb te s v t = if t = s then some v else te t:=rfl
theorem Zs : h.upds [] = h:=rfl
theorem LJ (id : Id) (o : Nat × Ob) (us : List (Id × Nat × Ob)) : h.upds ((id,o) :: us) = (h.upd id o).upds us:=rfl
theorem SV (id i : Id) (o : Nat × Ob) : h.upd id o i = if i = id then some o else h i:=rfl
end
theorem It {n : Int} (h1 : -9223372036854775808 <= n) (h2 : n <= 9223372036854775807) : IntKind.i64.wrap n = n:=by
 simp [IntKind.wrap,IntKind.bits,IntKind.signed]
 omega
section
variable (Γ : Sig) (look : VArg -> Option VVal) (h : VHeap) (d : Nat)
theorem W2 (x : VArg) : Aj Γ look h d (.move x) = ob (look x) fun v=>some (v,[]):=rfl
theorem VN (sz : Nat) : Aj Γ look h d (.newArr sz) = some (.own (.slot d 0) (nv (h (.slot d 0))) 0 0,[(.slot d 0,nv (h (.slot d 0)),.arr sz [])]):=rfl
theorem W0 (c : VArg) (a : VArg) (b : VArg) : Aj Γ look h d (.pick c a b) = ob (look c) fun v=>match v with
  | .p (.bool t)=>br t (ob (look a) fun v=>some (v,[])) (ob (look b) fun v=>some (v,[]))
  | _=>none:=rfl
theorem Wr (zero : List ZC) : Aj Γ look h d (.alloc zero) = some (.ptr (.slot d 0) (nv (h.upds (zcells d h 0 zero).2 (.slot d 0))) 0,(zcells d h 0 zero).2 ++ [(.slot d 0,nv (h.upds (zcells d h 0 zero).2 (.slot d 0)),.box (zcells d h 0 zero).1)]):=rfl
theorem X6 (n : Nat) (x : VArg) : Aj Γ look h d (.box n x) = ob (look x) fun v=>gd ((AS v).length = n) <| gd ((AS v).all EE = true) (some (.ptr (.slot d 0) (nv (h (.slot d 0))) 0,[(.slot d 0,nv (h (.slot d 0)),.box (AS v))])):=rfl
theorem Wq (cells : List BC) : Aj Γ look h d (.build cells) = ob (B2 look d h 0 cells) fun r=>some (.agg r.1,r.2):=rfl
theorem UD (sz : Nat) (parts : List VArg) : Aj Γ look h d (.buildSlice sz parts) = ob (Af (fun x=>ob (look x) fun v=>Bn v) parts) fun xs =>
   gd (xs.all (fun x=>decide (x.cells.length = sz)) = true) (some (.own (.slot d 0) (nv (h (.slot d 0))) 0 parts.length,[(.slot d 0,nv (h (.slot d 0)),.arr sz xs)])):=rfl
theorem Vr (sz : Nat) (parts : List VArg) : Aj Γ look h d (.buildFz sz parts) = ob (Af (fun x=>ob (look x) fun v=>Bn v) parts) fun xs =>
   gd (xs.all (fun x=>decide (x.cells.length = sz)) = true) (some (.p (.slice sz xs),[])):=rfl
theorem W4 (agg : Option Nat) (a : VArg) : Aj Γ look h d (.load agg a) = ob (look a) fun p=>ob (GN h agg p) fun v=>some (v,[]):=rfl
theorem Wk (n : Nat) (a : VArg) (x : VArg) : Aj Γ look h d (.store n a x) = ob (look a) fun p=>ob (look x) fun v=>ob (Iu h n p v) fun us=>some (.undef,us):=rfl
theorem UH (off : Nat) (x : VArg) : Aj Γ look h d (.fieldAddr off x) = ob (look x) fun v=>match v with
  | .ptr id ver o=>some (.ptr id ver (o + off),[])
  | .vptr cs o=>some (.vptr cs (o + off),[])
  | .eptr id ver i o=>some (.eptr id ver i (o + off),[])
  | _=>none:=rfl
theorem Wo (off : Nat) (agg : Option Nat) (x : VArg) : Aj Γ look h d (.field off agg x) = ob (look x) fun v=>match v with
  | .agg cs=>ob (C2 agg cs off) fun r=>some (r,[])
  | _=>none:=rfl
theorem UG (sz : Nat) (x : VArg) (i : VArg) : Aj Γ look h d (.indexAddr sz x i) = ob (look x) fun s=>ob (look i) fun n=>match n with
  | .p (.int _ n)=>ob (Iv h sz s n) fun r=>some (r,[])
  | _=>none:=rfl
theorem UR (x : VArg) (i : VArg) : Aj Γ look h d (.indexStr x i) = ob (look x) fun s=>ob (look i) fun n=>match s,n with
  | .p (.str s),.p (.int _ n)=>gd (0 <= n) (ob s[n.toNat]? fun b=>some (.p (.int .u8 b.toNat),[]))
  | _,_=>none:=rfl
theorem X7 (op : BinOp) (x : VArg) (y : VArg) : Aj Γ look h d (.bin op x y) = ob (look x) fun a=>ob (look y) fun b=>ob (Ky op a b) fun r=>some (r,[]):=rfl
theorem Wp (neg : Bool) (kts : List KT) (x : VArg) (y : VArg) : Aj Γ look h d (.eqAgg neg kts x y) = ob (look x) fun a=>ob (look y) fun b=>match a,b with
  | .agg a,.agg b=>ob (Af unP a) fun xs=>ob (Af unP b) fun ys=>ob (EJ kts xs ys) fun r=>some (.p (.bool (if neg then !r else r)),[])
  | _,_=>none:=rfl
theorem X3 (x : VArg) : Aj Γ look h d (.not x) = ob (look x) fun v=>match v with
  | .p (.bool b)=>some (.p (.bool (!b)),[])
  | _=>none:=rfl
theorem X4 (x : VArg) : Aj Γ look h d (.len x) = ob (look x) fun v=>ob (Ee v) fun n=>some (.p (.int .i64 n),[]):=rfl
theorem VQ (x : VArg) : Aj Γ look h d (.lenStr x) = ob (look x) fun v=>ob (GO v) fun n=>some (.p (.int .i64 n),[]):=rfl
theorem X5 (neg : Bool) (x : VArg) (y : VArg) : Aj Γ look h d (.eqB neg x y) = ob (look x) fun a=>ob (look y) fun b=>match a,b with
  | .p (.bool a),.p (.bool b)=>some (.p (.bool (if neg then !(a == b) else a == b)),[])
  | _,_=>none:=rfl
theorem VR (sz : Nat) (bytes : Nat) (s : VArg) (x : VArg) : Aj Γ look h d (.append sz bytes s x) = ob (look s) fun a=>ob (look x) fun b=>Et h sz bytes a b:=rfl
theorem UI (sz : Nat) (bytes : Nat) (x : VArg) : Aj Γ look h d (.appendNil sz bytes x) = ob (look x) fun b=>Ha d h sz bytes b:=rfl
theorem Wm (str : Bool) (sz : Nat) (lo : Option VArg) (hi : Option VArg) (mx : Option VArg) (x : VArg) : Aj Γ look h d (.slice str sz lo hi mx x) = ob (look x) fun s=>br str (Fy look lo hi s) (D5 d h look sz lo hi mx s):=rfl
theorem VP (ok : Bool) (kt : KT) (zero : PV) (m : VArg) (k : VArg) : Aj Γ look h d (.lookup ok kt zero m k) = ob (look m) fun m=>ob (look k) fun k=>ob (CE h m) fun es=>gd (es.1 = kt \/ es.2.1 = []) <| ob (Do kt k) fun k=>some (Es ok zero es.2.1 es.2.2 k,[]):=rfl
theorem UF (kt : KT) (m : VArg) (k : VArg) (x : VArg) : Aj Γ look h d (.mapUpdate kt m k x) = ob (look m) fun m=>ob (look k) fun k=>ob (look x) fun x=>ob (Do kt k) fun k=>ob (Bn x) fun x=>match m with
  | .mref id ver=>match h id with
   | some (v,.map kt' ks vs)=>gd (v = ver) <| gd (kt' = kt) (some (.undef,[(id,v,.map kt (At ks vs k x).1 (At ks vs k x).2)]))
   | _=>none
  | _=>none:=rfl
theorem Vp (kt : KT) : Aj Γ look h d (.makeMap kt) = some (.mref (.slot d 0) (nv (h (.slot d 0))),[(.slot d 0,nv (h (.slot d 0)),.map kt [] [])]):=rfl
theorem Vq (x : VArg) (i : Nat) : Aj Γ look h d (.extract x i) = ob (look x) fun v=>match v with
  | .tup vs=>ob vs[i]? fun v=>some (v,[])
  | _=>none:=rfl
theorem VO (isMax : Bool) (xs : List VArg) : Aj Γ look h d (.minmax isMax xs) = ob (Af look xs) fun vs=>ob (Ip isMax vs) fun r=>some (r,[]):=rfl
theorem UN (x : VArg) : Aj Γ look h d (.strBytes x) = ob (look x) fun v=>match v with
  | .p (.str s)=>some (.p (.slice 1 (s.data.toList.map fun b=>.int .u8 b.toNat)),[])
  | _=>none:=rfl
theorem UO (x : VArg) : Aj Γ look h d (.nilCheck x) = ob (look x) fun v=>match v with
  | .ptr id ver off=>some (.ptr id ver off,[])
  | .vptr cs off=>some (.vptr cs off,[])
  | .eptr id ver i off=>some (.eptr id ver i off,[])
  | .fn f caps=>some (.fn f caps,[])
  | _=>none:=rfl
theorem UQ (f : FuncId) (caps : List VArg) : Aj Γ look h d (.makeFunc f caps) = ob (Af look caps) fun cs=>some (.fn f cs,[]):=rfl
theorem Jf (f : FuncId) (args : List VArg) : Aj Γ look h d (.call f args) = ob (Af look args) fun vs=>Di Γ h d f vs:=rfl
theorem HT (x : VArg) (args : List VArg) : Aj Γ look h d (.callv x args) = ob (look x) fun g=>ob (Af look args) fun vs=>match g with
  | .fn f caps=>Di Γ h d f (vs ++ caps)
  | .p (.fn f)=>Di Γ h d f vs
  | _=>none:=rfl
theorem I3 (f : FuncId) (args : List VArg) : Aj Γ look h d (.callR f args) = ob (Af look args) fun vs=>ob (Cn Γ h d f vs) fun q=>gd (D7 h q.2 = true) (some (q.1,[])):=rfl
theorem I2 (f : FuncId) (args : List VArg) : Aj Γ look h d (.callW f args) = ob (Af look args) fun vs=>Cn Γ h d f vs:=rfl
theorem HP (x : VArg) (args : List VArg) : Aj Γ look h d (.callvW x args) = ob (look x) fun g=>ob (Af look args) fun vs=>match g with
  | .fn f caps=>Cn Γ h d f (vs ++ caps)
  | .p (.fn f)=>Cn Γ h d f vs
  | _=>none:=rfl
theorem W3 (sz bytes : Nat) (zero : PV) (n : VArg) : Aj Γ look h d (.make sz bytes zero n) = ob (look n) fun v=>match v with
  | .p (.int _ m)=>gd (0 <= m) <| gd ((bytes : Int) * m <= 281474976710656) <| gd (m <= 9223372036854775807) <|
    some (.own (.slot d 0) (nv (h (.slot d 0))) 0 m.toNat,[(.slot d 0,nv (h (.slot d 0)),.arr sz (List.replicate m.toNat zero))])
  | _=>none:=rfl
theorem W6 (sz : Nat) (a x : VArg) : Aj Γ look h d (.copy sz a x) = ob (look a) fun a=>ob (look x) fun x=>HC h sz a x:=rfl
theorem UP (kt : KT) (zero : PV) (m k : VArg) : Aj Γ look h d (.mapEntry kt zero m k) = ob (look m) fun m=>ob (look k) fun k=>ob (Do kt k) fun k=>match m with
  | .mref id ver=>match h id with
   | some (v,.map kt' ks vs)=>gd (v = ver) <| gd (kt' = kt) (some (.tup [Ci ((AN ks vs k).getD zero),.p (.int .i64 (Da ks k))],[(id,v,.map kt (At ks vs k ((AN ks vs k).getD zero)).1 (At ks vs k ((AN ks vs k).getD zero)).2)]))
   | _=>none
  | _=>none:=rfl
theorem UC (m s x : VArg) : Aj Γ look h d (.entryStore m s x) = ob (look m) fun m=>ob (look s) fun s=>ob (look x) fun x=>ob (Bn x) fun x=>match m,s with
  | .mref id ver,.p (.int .i64 n)=>match h id with
   | some (v,.map kt ks vs)=>gd (v = ver) <| gd (0 <= n) <| gd (n.toNat < vs.length) (some (.undef,[(id,v,.map kt ks (vs.set n.toNat x))]))
   | _=>none
  | _,_=>none:=rfl
theorem UT (sz : Nat) (parts : List VArg) : Aj Γ look h d (.buildArr sz parts) = ob (Af (fun x=>ob (look x) fun v=>Bn v) parts) fun xs=>gd (xs.all (fun x=>decide (x.cells.length = sz)) = true) (some (.agg ((xs.flatMap PV.cells).map .p),[])):=rfl
theorem US (n sz : Nat) (agg : Option Nat) (x i : VArg) : Aj Γ look h d (.indexArr n sz agg x i) = ob (look x) fun v=>ob (look i) fun i=>match v,i with
  | .agg cs,.p (.int _ k)=>gd (0 <= k) <| gd (k < n) <| ob (C2 agg cs (k.toNat * sz)) fun r=>some (r,[])
  | _,_=>none:=rfl
end
attribute [go_sem] W3 W6 HC JC
attribute [go_sem] I3 Xm OM I2 HP Cn Dh DA DH CC rootsW Hx Kg Gt CO B3 DU BS Cj inC DV CG MO callRoots
attribute [go_sem] UP UC UT US W2 VN W0 Wr X6 Wq UD Vr W4 Wk UH Wo UG UR X7 Wp X3 X4 VQ X5 VR UI Wm VP UF Vp Vq VO UN UO UQ Jf HT
attribute [go_sem] Ai Az zbY E2 E0 Im EA GZ Pu Qh P3 SM RZ H9 G9 EZ Hh H4 Ia JD JW H3 Ir FP Cp WZ PG Gd zbi zbj zbk ZH ZI zcr zcs zct zbc zbd Zs LJ SV
attribute [go_sem] Ci GN FW C2 AS Bn unP Af Ba Ee GO Bh Iu Ep If Iv EX zcell zcells B2 Ky KK NN Kh KI eq0 EJ mm2 mmL Ip Do CE Es Et Ha ID Co D5 DF HB DW FK Kl Fy nv PV.cells
attribute [go_sem] BW GL AV E8 AB BL GV Ea FH Hr Fz Eh DB MU FC AU AY FE B5
theorem Q1 (rets : List VRet) (n : Nat) (s : St) : IF rets n (.ret,s) = ob (Af (E8 s) rets) fun vs=>ob (Eh s.h n vs) fun v=>ob (B5 s.h 0 n) fun H'=>some (v,H'):=rfl
theorem Ow (rets : List VRet) (n : Nat) (s : St) : IF rets n (.normal,s) = ob (Af (E8 s) rets) fun vs=>ob (Eh s.h n vs) fun v=>ob (B5 s.h 0 n) fun H'=>some (v,H'):=rfl
attribute [go_sem] Q1 Ow
attribute [go_sem] oT oV oZ oM oN oL oF oK rg cI cF cT oJ oP oA oQ oC oE oS oI oO oB oR oY oX oU bT bI nT lT kT cC cW ldV fT tT fM tM fL tL fF tF sT vO vB cZ zZ zN aT rs cE cS sq mF
attribute [go_sem] if_true if_false List.getD_cons_zero List.getD_cons_succ List.getD_nil llc lln Id.slot.injEq Id.arg.injEq false_and and_false and_true true_and and_self or_true true_or or_false false_or Nat.add_zero Nat.zero_add List.getElem?_cons_zero List.getElem?_cons_succ List.getElem?_nil llm List.getElem?_map Option.map_some Option.map_none Int.toNat_natCast decide_true decide_false decide_eq_true_eq Bool.not_true bnf beq_self_eq_true List.all_cons List.all_nil bau bta List.drop_zero List.drop_succ_cons List.take_succ_cons List.take_zero List.drop_nil List.take_nil lna lan lca lpc lpn lfc List.flatMap_nil List.contains_nil List.isEmpty_nil List.isEmpty_cons List.filterMap_cons List.filterMap_nil lla llt lrf Nat.zero_le Nat.min_self eq_self GJ Int.natCast_nonneg Int.ofNat_lt Int.ofNat_le Di Dj roots Cg HE Kt GB Cr BM C4 BX BV Ec Hz J5 DP Cv Kc FQ PV.flat PV.flat0 Df Ed CR C9 in1 in0 inL inT EC List.any_cons List.any_nil Bool.or_false Bool.false_or Bool.or_true Bool.true_or bft beq_iff_eq
attribute [go_sem] It
theorem Al {b : St -> Option (VExit × St)} {Q : VExit × St -> Prop} (n : Nat) (J : Nat -> St -> Prop) {s : St} (h0 : J 0 s)
  (hstep : ∀ i s,i <= n -> J i s -> wp (b s) fun r=>match r.1 with
   | .normal=>i < n /\ J (i + 1) r.2
   | _=>Q r) : wp (EN b s) Q:=by
 have key : ∀ k i s,i + k = n -> J i s -> ∃ m r,Bb b m s = some r /\ Q r:=by
  intro k
  induction k with
  | zero =>
   intro i s hk hJ
   obtain ⟨⟨e,s'⟩,hb,hq⟩:=hstep i s (by omega) hJ
   cases e with
   | normal=>have:=hq.1; omega
   | exit id=>exact ⟨1,(.exit id,s'),by simp [Bb,hb,ob],hq⟩
   | ret=>exact ⟨1,(.ret,s'),by simp [Bb,hb,ob],hq⟩
  | succ k ih =>
   intro i s hk hJ
   obtain ⟨⟨e,s'⟩,hb,hq⟩:=hstep i s (by omega) hJ
   cases e with
   | normal =>
    obtain ⟨m,r,hm,hr⟩:=ih (i + 1) s' (by omega) hq.2
    exact ⟨m + 1,r,by simp [Bb,hb,ob,hm],hr⟩
   | exit id=>exact ⟨1,(.exit id,s'),by simp [Bb,hb,ob],hq⟩
   | ret=>exact ⟨1,(.ret,s'),by simp [Bb,hb,ob],hq⟩
 obtain ⟨m,r,hm,hr⟩:=key n 0 s (by omega) h0
 exact ⟨r,J9 hm,hr⟩
theorem za8 {σ : Type} {b : St -> Option (VExit × St)} {Q : VExit × St -> Prop} (J : σ -> St -> Prop) (μ : σ -> Nat) (x : σ) {s : St} (h0 : J x s)
  (hstep : ∀ x s,J x s -> wp (b s) fun r=>match r.1 with
   | .normal=>∃ y,μ y < μ x /\ J y r.2
   | _=>Q r) : wp (EN b s) Q:=by
 have key : ∀ k x s,μ x = k -> J x s -> ∃ m r,Bb b m s = some r /\ Q r:=by
  intro k
  induction k using Nat.strongRecOn with
  | _ k ih =>
   intro x s hk hJ
   obtain ⟨⟨e,s'⟩,hb,hq⟩:=hstep x s hJ
   cases e with
   | normal =>
    obtain ⟨y,hy,hJ'⟩:=hq
    obtain ⟨m,r,hm,hr⟩:=ih (μ y) (by omega) y s' rfl hJ'
    exact ⟨m + 1,r,by simp [Bb,hb,ob,hm],hr⟩
   | exit id=>exact ⟨1,(.exit id,s'),by simp [Bb,hb,ob],hq⟩
   | ret=>exact ⟨1,(.ret,s'),by simp [Bb,hb,ob],hq⟩
 obtain ⟨m,r,hm,hr⟩:=key _ x s rfl h0
 exact ⟨r,J9 hm,hr⟩
theorem BD {α : Type} {b : Bool} {x y : Option α} {Q : α -> Prop} {u : Tok x} {v : Tok y} {t : Tok Q} (h1 : b = true -> wp x Q) (h2 : b = false -> wp y Q) : wp (br b x y u v) Q t:=S2 h1 h2
theorem Bq {α : Type} {b : Bool} {x y : Option α} {Q : α -> Prop} {u : Tok x} {v : Tok y} {t : Tok Q} (h1 : b = false -> wp x Q) (h2 : b = true -> wp y Q) : wp (br (b == false) x y u v) Q t:=by
 cases b
 .exact h1 rfl
 .exact h2 rfl
theorem Bp {α : Type} {b : Bool} {x y : Option α} {Q : α -> Prop} {u : Tok x} {v : Tok y} {t : Tok Q} (h1 : b = true -> wp x Q) (h2 : b = false -> wp y Q) : wp (br (b == true) x y u v) Q t:=by
 cases b
 .exact h2 rfl
 .exact h1 rfl
theorem Br {α : Type} {b : Bool} {x y : Option α} {Q : α -> Prop} {u : Tok x} {v : Tok y} {t : Tok Q} (h1 : b = false -> wp x Q) (h2 : b = true -> wp y Q) : wp (br (!b) x y u v) Q t:=by
 cases b
 .exact h1 rfl
 .exact h2 rfl
theorem zcz : (true == true) = true:=rfl
theorem zcA : (true == false) = false:=rfl
theorem zcB : (false == true) = false:=rfl
theorem zcC : (false == false) = true:=rfl
attribute [go_sem] zcz zcA zcB zcC
section
variable {α : Type} {p : Prop} [Decidable p] {x y : Option α} {Q : α -> Prop} {u : Tok x} {v : Tok y} {t : Tok Q}
theorem Ah (h1 : p -> wp x Q) (h2 : ¬ p -> wp y Q) : wp (br (decide p) x y u v) Q t:=S2 (fun h=>h1 (of_decide_eq_true h)) (fun h=>h2 (of_decide_eq_false h))
theorem Bx (h1 : ¬ p -> wp x Q) (h2 : p -> wp y Q) : wp (br (!decide p) x y u v) Q t:=Br (fun h=>h1 (of_decide_eq_false h)) (fun h=>h2 (of_decide_eq_true h))
theorem Bz (h1 : ¬ p -> wp x Q) (h2 : p -> wp y Q) : wp (br (decide p == false) x y u v) Q t:=Bq (fun h=>h1 (of_decide_eq_false h)) (fun h=>h2 (of_decide_eq_true h))
theorem By (h1 : p -> wp x Q) (h2 : ¬ p -> wp y Q) : wp (br (decide p == true) x y u v) Q t:=Bp (fun h=>h1 (of_decide_eq_true h)) (fun h=>h2 (of_decide_eq_false h))
theorem Bw (h1 : p -> wp x Q) (h2 : ¬ p -> wp y Q) : wp (br ((!decide p) == false) x y u v) Q t:=Bq (fun h=>h1 (by simpa using h)) (fun h=>h2 (by simpa using h))
theorem Bv (h1 : ¬ p -> wp x Q) (h2 : p -> wp y Q) : wp (br ((!decide p) == true) x y u v) Q t:=Bp (fun h=>h1 (by simpa using h)) (fun h=>h2 (by simpa using h))
end
theorem zbT (a b : Int) : (a == b) = decide (a = b):=rfl
theorem zbS (a b : Int) : (a != b) = !decide (a = b):=rfl
attribute [go_sem] zbT zbS
theorem zaQ (Γ : Sig) (ops : List VOper) (f : Nat) (fz : List Nat) (s : St) : B9 Γ ⟨ops,f :: fz,[]⟩ s = ob (BT Γ ops { pe:=fun t=>fz1 (f :: fz) s.h (s.pe t),te:=fun _=>none,h:=Cq (f :: fz) s.h }) fun q=>some { pe:=q.pe,h:=q.h }:=by
 simp [B9,Dl]
theorem zaR (Γ : Sig) (ops : List VOper) (p : Nat × Nat) (fp : List (Nat × Nat)) (s : St) : B9 Γ ⟨ops,[],p :: fp⟩ s = ob (BG Γ (p :: fp) 0 ops { pe:=s.pe,te:=fun _=>none,h:=s.h } []) fun q=>some { pe:=q.pe,h:=q.h }:=by
 simp [B9,Dl]
theorem X2 (Γ : Sig) (ops : List VOper) (f : Nat) (fz : List Nat) (p : Nat × Nat) (fp : List (Nat × Nat)) (s : St) : B9 Γ ⟨ops,f :: fz,p :: fp⟩ s = ob (BG Γ (p :: fp) 0 ops { pe:=fun t=>fz1 (f :: fz) s.h (s.pe t),te:=fun _=>none,h:=Cq (f :: fz) s.h } []) fun q=>some { pe:=q.pe,h:=q.h }:=by
 simp [B9,Dl]
theorem VT (a b c d : Nat) (l : List (Nat × Nat)) : ((a,b) :: l).contains (c,d) = ((decide (c = a) && decide (d = b)) || l.contains (c,d)):=by
 rw [Bool.eq_iff_iff]
 simp
theorem W7 (a c : Id) (l : List Id) : (a :: l).contains c = (decide (c = a) || l.contains c):=by
 rw [Bool.eq_iff_iff]
 simp
theorem Ws (a c : Nat) (l : List Nat) : (a :: l).contains c = (decide (c = a) || l.contains c):=by
 rw [Bool.eq_iff_iff]
 simp
theorem SB (a b : Nat) : (a == b) = decide (a = b):=by rw [Bool.eq_iff_iff]; simp
theorem zbD (a b : Nat) : (a != b) = !decide (a = b):=by simp [bne,SB]
theorem Na (s : ByteArray) (i : Nat) : s[i]? = s.data.toList[i]?:=by
 by_cases h : i < s.size
 ·rw [getElem?_pos s i h,lgg (by simpa using h)]
  simp [ByteArray.getElem_eq_getElem_data]
 .rw [getElem?_neg s i h,List.getElem?_eq_none (by simpa using h)]
attribute [go_sem] zaQ zaR X2 VT W7 Ws SB zbD Cq EO fpL fpR FG BG FB E3 VOp.wrFp headFp Bl touchF B6 VOp.args VOp.writes VOp.isR ids0 ids1 Id.at VDst.slot Option.toList Bool.and_false bfa Bool.or_self bas
theorem zcL (fz : List Nat) (h : VHeap) (d : PV) : fz0 fz h (.p d) = .p d:=rfl
theorem zcK (fz : List Nat) (h : VHeap) (d : PV) : fz1 fz h (.p d) = .p d:=rfl
theorem zb4 (fz : List Nat) (h : VHeap) (id : Id) (ver off : Nat) : fz0 fz h (.ptr id ver off) = .ptr id ver off:=rfl
theorem zb1 (fz : List Nat) (h : VHeap) (id : Id) (ver off : Nat) : fz1 fz h (.ptr id ver off) = .ptr id ver off:=rfl
theorem zaJ (fz : List Nat) (h : VHeap) (cs : List PV) (off : Nat) : fz0 fz h (.vptr cs off) = .vptr cs off:=rfl
theorem zaG (fz : List Nat) (h : VHeap) (cs : List PV) (off : Nat) : fz1 fz h (.vptr cs off) = .vptr cs off:=rfl
theorem zaL (fz : List Nat) (h : VHeap) (id : Id) (ver i off : Nat) : fz0 fz h (.eptr id ver i off) = .eptr id ver i off:=rfl
theorem zaI (fz : List Nat) (h : VHeap) (id : Id) (ver i off : Nat) : fz1 fz h (.eptr id ver i off) = .eptr id ver i off:=rfl
theorem zaK (fz : List Nat) (h : VHeap) (id : Id) (ver : Nat) : fz0 fz h (.mref id ver) = .mref id ver:=rfl
theorem zaH (fz : List Nat) (h : VHeap) (id : Id) (ver : Nat) : fz1 fz h (.mref id ver) = .mref id ver:=rfl
theorem zcw (fz : List Nat) (h : VHeap) (f : FuncId) (caps : List VVal) : fz0 fz h (.fn f caps) = .fn f caps:=rfl
theorem zcv (fz : List Nat) (h : VHeap) (f : FuncId) (caps : List VVal) : fz1 fz h (.fn f caps) = .fn f caps:=rfl
theorem Y5 (fz : List Nat) (h : VHeap)  : fz0 fz h (.undef) = .undef:=rfl
theorem Y4 (fz : List Nat) (h : VHeap)  : fz1 fz h (.undef) = .undef:=rfl
theorem zb6 (fz : List Nat) (h : VHeap) (cs : List VVal) : fz0 fz h (.agg cs) = .agg cs:=rfl
theorem zb3 (fz : List Nat) (h : VHeap) (cs : List VVal) : fz1 fz h (.agg cs) = .agg (cs.map (fz0 fz h)):=rfl
theorem zbZ (fz : List Nat) (h : VHeap) (cs : List VVal) : fz1 fz h (.tup cs) = .tup (cs.map (fz0 fz h)):=rfl
theorem zb5 (fz : List Nat) (h : VHeap) (id : Id) (ver off len : Nat) : fz0 fz h (.own id ver off len) = if EO fz id = true then (match Ba h (.own id ver off len) with
  | some r=>.p (.slice r.1 r.2)
  | none=>.dead) else .own id ver off len:=rfl
theorem zb2 (fz : List Nat) (h : VHeap) (id : Id) (ver off len : Nat) : fz1 fz h (.own id ver off len) = if EO fz id = true then (match Ba h (.own id ver off len) with
  | some r=>.p (.slice r.1 r.2)
  | none=>.dead) else .own id ver off len:=rfl
attribute [go_sem] zcL zcK zb4 zb1 zaJ zaG zaL zaI zaK zaH zcw zcv Y5 Y4 zb6 zb3 zbZ zb5 zb2
section
variable (a b : Id) (va n : Nat)
theorem zcI (d : PV) : mv1 a b va n (.p d) = .p d:=rfl
theorem zbH (id : Id) (ver off : Nat) : mv1 a b va n (.ptr id ver off) = .ptr id ver off:=rfl
theorem zag (cs : List PV) (off : Nat) : mv1 a b va n (.vptr cs off) = .vptr cs off:=rfl
theorem zah (id : Id) (ver : Nat) : mv1 a b va n (.mref id ver) = .mref id ver:=rfl
theorem zcp (f : FuncId) (caps : List VVal) : mv1 a b va n (.fn f caps) = .fn f caps:=rfl
theorem YN : mv1 a b va n .undef = .undef:=rfl
theorem zbJ (cs : List VVal) : mv1 a b va n (.agg cs) = .agg (cs.map (mv0 a b va n)):=rfl
theorem zbF (cs : List VVal) : mv1 a b va n (.tup cs) = .tup (cs.map (mv0 a b va n)):=rfl
theorem zbI (id : Id) (ver off len : Nat) : mv1 a b va n (.own id ver off len) = if id = a /\ ver = va then .own b n off len else .own id ver off len:=rfl
theorem zai (id : Id) (ver i off : Nat) : mv1 a b va n (.eptr id ver i off) = if id = a /\ ver = va then .eptr b n i off else .eptr id ver i off:=rfl
theorem zcJ (d : PV) : mv0 a b va n (.p d) = .p d:=rfl
theorem zbK (id : Id) (ver off : Nat) : mv0 a b va n (.ptr id ver off) = .ptr id ver off:=rfl
theorem zaj (id : Id) (ver : Nat) : mv0 a b va n (.mref id ver) = .mref id ver:=rfl
theorem zcq (f : FuncId) (caps : List VVal) : mv0 a b va n (.fn f caps) = .fn f caps:=rfl
theorem zbL (id : Id) (ver off len : Nat) : mv0 a b va n (.own id ver off len) = if id = a /\ ver = va then .own b n off len else .own id ver off len:=rfl
end
attribute [go_sem] zcI zbH zag zah zcp YN zbJ zbF zbI zai zcJ zbK zaj zcq zbL
theorem cl0 {P : Prop} (h : P := by first | with_reducible rfl | (simp -implicitDefEqProofs (disch := omega) only [*, List.map_append, go_sem] <;> exact cl1) | exact cl2) : P := h
attribute [go_sem ↓] reduceIte
attribute [go_sem] rA rS rE rL reduceCtorEq
theorem lpI (F : Nat -> St -> Prop) : ∃ I : Nat -> St -> Prop,∀ k s,I k s ↔ F k s:=⟨F,fun _ _=>Iff.rfl⟩
theorem cl3 {P : Prop} (h : P := by first | rfl | omega | (simp; done) | (simp; omega)) : P := h
theorem ai {a b : Prop} (hb : b) (ha : a:=by omega) : a /\ b:=⟨ha,hb⟩
def Le (Γ Γ' : Sig) : Prop:=∀ f args H r,Γ f args H = some r -> Γ' f args H = some r
theorem AH {α β : Type} {x : Option α} {f : α -> Option β} {u : Tok f} {b : β} (h : ob x f u = some b) : ∃ a,x = some a /\ f a = some b:=by
 cases x with
 | none=>cases h
 | some a=>exact ⟨a,rfl,h⟩
structure Chain (N : Nat -> Sig) (Γ : Sig) : Prop where
 mono : ∀ n m,n <= m -> Le (N n) (N m)
 lim : ∀ f args H r,Γ f args H = some r -> ∃ n,N n f args H = some r
theorem LI {Γ Γ' : Sig} (hl : Le Γ Γ') {h : VHeap} {d : Nat} {f : FuncId} {args : List VVal} {R : List Id} {q : VVal × List (Id × Nat × Ob)} (he : Dj Γ h d f args R = some q) : Dj Γ' h d f args R = some q:=by
 unfold Dj at he ⊢
 obtain ⟨a',h1,he⟩:=AH he
 obtain ⟨H,h2,he⟩:=AH he
 obtain ⟨r,h3,he⟩:=AH he
 rw [h1,Ai,h2,Ai,hl _ _ _ _ h3,Ai]
 exact he
theorem K7 {N : Nat -> Sig} {Γ : Sig} (hc : Chain N Γ) {h : VHeap} {d : Nat} {f : FuncId} {args : List VVal} {R : List Id} {q : VVal × List (Id × Nat × Ob)} (he : Dj Γ h d f args R = some q) : ∃ n,Dj (N n) h d f args R = some q:=by
 unfold Dj at he
 obtain ⟨a',h1,he⟩:=AH he
 obtain ⟨H,h2,he⟩:=AH he
 obtain ⟨r,h3,he⟩:=AH he
 obtain ⟨n,hn⟩:=hc.lim _ _ _ _ h3
 refine ⟨n,?_⟩
 unfold Dj
 rw [h1,Ai,h2,Ai,hn,Ai]
 exact he
theorem Ji {Γ Γ' : Sig} (hl : Le Γ Γ') {h : VHeap} {d : Nat} {f : FuncId} {args : List VVal} {R : List Id} {q : VVal × List (Id × Nat × Ob)} (he : Dh Γ h d f args R = some q) : Dh Γ' h d f args R = some q:=by
 unfold Dh at he ⊢
 obtain ⟨a',h1,he⟩:=AH he
 obtain ⟨H,h2,he⟩:=AH he
 obtain ⟨r,h3,he⟩:=AH he
 rw [h1,Ai,h2,Ai,hl _ _ _ _ h3,Ai]
 exact he
theorem IX {N : Nat -> Sig} {Γ : Sig} (hc : Chain N Γ) {h : VHeap} {d : Nat} {f : FuncId} {args : List VVal} {R : List Id} {q : VVal × List (Id × Nat × Ob)} (he : Dh Γ h d f args R = some q) : ∃ n,Dh (N n) h d f args R = some q:=by
 unfold Dh at he
 obtain ⟨a',h1,he⟩:=AH he
 obtain ⟨H,h2,he⟩:=AH he
 obtain ⟨r,h3,he⟩:=AH he
 obtain ⟨n,hn⟩:=hc.lim _ _ _ _ h3
 refine ⟨n,?_⟩
 unfold Dh
 rw [h1,Ai,h2,Ai,hn,Ai]
 exact he
def VOp.isCall : VOp -> Bool
 | .call _ _ | .callv _ _ | .callW _ _ | .callvW _ _ | .callR _ _=>true
 | _=>false
theorem N6 {Γ Γ' : Sig} {look : VArg -> Option VVal} {h : VHeap} {d : Nat} {op : VOp} (ho : op.isCall = false) : Aj Γ look h d op = Aj Γ' look h d op:=by
 cases op <;> first | rfl | (simp [VOp.isCall] at ho)
theorem Rh {Γ Γ' : Sig} (hl : Le Γ Γ') {look : VArg -> Option VVal} {h : VHeap} {d : Nat} {op : VOp} {q : VVal × List (Id × Nat × Ob)} (he : Aj Γ look h d op = some q) : Aj Γ' look h d op = some q:=by
 by_cases ho : op.isCall = false
 ·rw [<- N6 (Γ:=Γ) ho]; exact he
 cases op <;> first | (simp [VOp.isCall] at ho; done) | skip
 ·rw [Jf] at he ⊢
  obtain ⟨vs,h1,he⟩:=AH he
  rw [h1,Ai]
  exact LI hl he
 ·rw [HT] at he ⊢
  obtain ⟨g,h0,he⟩:=AH he
  obtain ⟨vs,h1,he⟩:=AH he
  rw [h0,Ai,h1,Ai]
  split at he
  .exact LI hl he
  .exact LI hl he
  .cases he
 ·rw [I2] at he ⊢
  obtain ⟨vs,h1,he⟩:=AH he
  rw [h1,Ai]
  exact Ji hl he
 ·rw [HP] at he ⊢
  obtain ⟨g,h0,he⟩:=AH he
  obtain ⟨vs,h1,he⟩:=AH he
  rw [h0,Ai,h1,Ai]
  split at he
  .exact Ji hl he
  .exact Ji hl he
  .cases he
 ·rw [I3] at he ⊢
  obtain ⟨vs,h1,he⟩:=AH he
  obtain ⟨q1,h2,he⟩:=AH he
  rw [h1,Ai,Cn,Ji hl h2,Ai]
  exact he
theorem O7 {N : Nat -> Sig} {Γ : Sig} (hc : Chain N Γ) {look : VArg -> Option VVal} {h : VHeap} {d : Nat} {op : VOp} {q : VVal × List (Id × Nat × Ob)} (he : Aj Γ look h d op = some q) : ∃ n,Aj (N n) look h d op = some q:=by
 by_cases ho : op.isCall = false
 ·exact ⟨0,by rw [<- N6 (Γ:=Γ) ho]; exact he⟩
 cases op <;> first | (simp [VOp.isCall] at ho; done) | skip
 ·rw [Jf] at he
  obtain ⟨vs,h1,he⟩:=AH he
  obtain ⟨n,hn⟩:=K7 hc he
  refine ⟨n,?_⟩
  rw [Jf,h1,Ai]
  exact hn
 ·rw [HT] at he
  obtain ⟨g,h0,he⟩:=AH he
  obtain ⟨vs,h1,he⟩:=AH he
  split at he
  ·obtain ⟨n,hn⟩:=K7 hc he
   refine ⟨n,?_⟩
   rw [HT,h0,Ai,h1,Ai]
   exact hn
  ·obtain ⟨n,hn⟩:=K7 hc he
   refine ⟨n,?_⟩
   rw [HT,h0,Ai,h1,Ai]
   exact hn
  ·cases he
 ·rw [I2] at he
  obtain ⟨vs,h1,he⟩:=AH he
  obtain ⟨n,hn⟩:=IX hc he
  refine ⟨n,?_⟩
  rw [I2,h1,Ai]
  exact hn
 ·rw [HP] at he
  obtain ⟨g,h0,he⟩:=AH he
  obtain ⟨vs,h1,he⟩:=AH he
  split at he
  ·obtain ⟨n,hn⟩:=IX hc he
   refine ⟨n,?_⟩
   rw [HP,h0,Ai,h1,Ai]
   exact hn
  ·obtain ⟨n,hn⟩:=IX hc he
   refine ⟨n,?_⟩
   rw [HP,h0,Ai,h1,Ai]
   exact hn
  .cases he
 ·rw [I3] at he
  obtain ⟨vs,h1,he⟩:=AH he
  obtain ⟨q1,h2,he⟩:=AH he
  obtain ⟨n,hn⟩:=IX hc h2
  refine ⟨n,?_⟩
  rw [I3,h1,Ai,Cn,hn,Ai]
  exact he
theorem Hj {Γ Γ' : Sig} (hl : Le Γ Γ') {o : VOper} {r r' : RS} (h : BU Γ o r = some r') : BU Γ' o r = some r':=by
 unfold BU at h ⊢
 split
 ·rename_i hg
  rw [hg] at h
  obtain ⟨q,hq,h⟩:=AH h
  rw [Rh hl hq,Ai]
  exact h
 ·rename_i g want hg
  rw [hg] at h
  obtain ⟨gv,hgv,h⟩:=AH h
  rw [hgv,Ai]
  split at h
  ·unfold br at h ⊢
   split
   ·rename_i hb
    rw [if_pos hb] at h
    obtain ⟨q,hq,h⟩:=AH h
    rw [Rh hl hq,Ai]
    exact h
   ·rename_i hb
    rw [if_neg hb] at h
    exact h
  .exact h
  .cases h
theorem Lv {N : Nat -> Sig} {Γ : Sig} (hc : Chain N Γ) {o : VOper} {r r' : RS} (h : BU Γ o r = some r') : ∃ n,BU (N n) o r = some r':=by
 unfold BU at h
 split at h
 ·rename_i hg
  obtain ⟨q,hq,h⟩:=AH h
  obtain ⟨n,hn⟩:=O7 hc hq
  refine ⟨n,?_⟩
  unfold BU
  rw [hg]
  simp only [hn,Ai]
  exact h
 ·rename_i g want hg
  obtain ⟨gv,hgv,h⟩:=AH h
  split at h
  ·unfold br at h
   split at h
   ·rename_i hb
    obtain ⟨q,hq,h⟩:=AH h
    obtain ⟨n,hn⟩:=O7 hc hq
    refine ⟨n,?_⟩
    unfold BU
    rw [hg]
    simp only [hgv,Ai]
    rw [hb,E2,hn,Ai]
    exact h
   ·rename_i b hb
    refine ⟨0,?_⟩
    unfold BU
    rw [hg]
    simp only [hgv,Ai]
    have : (b == want) = false:=by simpa using hb
    rw [this,E0]
    exact h
  ·refine ⟨0,?_⟩
   unfold BU
   rw [hg]
   simp only [hgv,Ai]
   exact h
  .cases h
theorem LO {Γ Γ' : Sig} (hl : Le Γ Γ') : ∀ {os : List VOper} {r r' : RS},BT Γ os r = some r' -> BT Γ' os r = some r'
 | [],_,_,h=>h
 | o :: os,r,r',h=>by
  rw [Gd] at h ⊢
  obtain ⟨r1,h1,h⟩:=AH h
  rw [Hj hl h1,Ai]
  exact LO hl h
theorem OV {N : Nat -> Sig} {Γ : Sig} (hc : Chain N Γ) : ∀ {os : List VOper} {r r' : RS},BT Γ os r = some r' -> ∃ n,BT (N n) os r = some r'
 | [],_,_,h=>⟨0,h⟩
 | o :: os,r,r',h=>by
  rw [Gd] at h
  obtain ⟨r1,h1,h⟩:=AH h
  obtain ⟨n,hn⟩:=Lv hc h1
  obtain ⟨m,hm⟩:=OV hc h
  refine ⟨max n m,?_⟩
  rw [Gd,Hj (hc.mono n _ (Nat.le_max_left ..)) hn,Ai]
  exact LO (hc.mono m _ (Nat.le_max_right ..)) hm
theorem Kv {α : Type} {c : Prop} [Decidable c] {x : Option α} {u : Tok x} {b : α} (h : gd c x u = some b) : c /\ x = some b:=by
 unfold gd at h
 split at h
 .exact ⟨by assumption,h⟩
 .cases h
theorem Ig {Γ Γ' : Sig} (hl : Le Γ Γ') {fp : List (Nat × Nat)} : ∀ {os : List VOper} {i : Nat} {r r' : RS} {acc : List (Nat × VOper × List Id)},BG Γ fp i os r acc = some r' -> BG Γ' fp i os r acc = some r'
 | [],_,_,_,_,h=>h
 | o :: os,i,r,r',acc,h=>by
  simp only [BG] at h ⊢
  split
  ·rename_i hf
   rw [if_pos hf] at h
   obtain ⟨hch,h⟩:=Kv h
   obtain ⟨r1,h1,h⟩:=AH h
   rw [GJ _ _ hch,Hj hl h1,Ai]
   exact Ig hl h
  ·rename_i hf
   rw [if_neg hf] at h
   obtain ⟨r1,h1,h⟩:=AH h
   rw [Hj hl h1,Ai]
   exact Ig hl h
theorem Lw {N : Nat -> Sig} {Γ : Sig} (hc : Chain N Γ) {fp : List (Nat × Nat)} : ∀ {os : List VOper} {i : Nat} {r r' : RS} {acc : List (Nat × VOper × List Id)},BG Γ fp i os r acc = some r' -> ∃ n,BG (N n) fp i os r acc = some r'
 | [],_,_,_,_,h=>⟨0,h⟩
 | o :: os,i,r,r',acc,h=>by
  simp only [BG] at h
  split at h
  ·rename_i hf
   obtain ⟨hch,h⟩:=Kv h
   obtain ⟨r1,h1,h⟩:=AH h
   obtain ⟨n,hn⟩:=Lv hc h1
   obtain ⟨m,hm⟩:=Lw hc h
   refine ⟨max n m,?_⟩
   simp only [BG]
   rw [if_pos hf,GJ _ _ hch,Hj (hc.mono n _ (Nat.le_max_left ..)) hn,Ai]
   exact Ig (hc.mono m _ (Nat.le_max_right ..)) hm
  ·rename_i hf
   obtain ⟨r1,h1,h⟩:=AH h
   obtain ⟨n,hn⟩:=Lv hc h1
   obtain ⟨m,hm⟩:=Lw hc h
   refine ⟨max n m,?_⟩
   simp only [BG]
   rw [if_neg hf,Hj (hc.mono n _ (Nat.le_max_left ..)) hn,Ai]
   exact Ig (hc.mono m _ (Nat.le_max_right ..)) hm
theorem zaP {Γ Γ' : Sig} (hl : Le Γ Γ') {vr : VRegion} {s s' : St} (h : B9 Γ vr s = some s') : B9 Γ' vr s = some s':=by
 unfold B9 at h ⊢
 obtain ⟨q,hq,h⟩:=AH h
 split at hq
 ·rename_i hf
  rw [if_pos hf,LO hl hq,Ai]
  exact h
 ·rename_i hf
  rw [if_neg hf,Ig hl hq,Ai]
  exact h
theorem X1 {N : Nat -> Sig} {Γ : Sig} (hc : Chain N Γ) {vr : VRegion} {s s' : St} (h : B9 Γ vr s = some s') : ∃ n,B9 (N n) vr s = some s':=by
 unfold B9 at h
 obtain ⟨q,hq,h⟩:=AH h
 split at hq
 ·rename_i hf
  obtain ⟨n,hn⟩:=OV hc hq
  refine ⟨n,?_⟩
  unfold B9
  rw [if_pos hf,hn,Ai]
  exact h
 ·rename_i hf
  obtain ⟨n,hn⟩:=Lw hc hq
  refine ⟨n,?_⟩
  unfold B9
  rw [if_neg hf,hn,Ai]
  exact h
theorem SG {b : St -> Option (VExit × St)} {s : St} {r : VExit × St} (h : EN b s = some r) : ∃ n,Bb b n s = some r:=by
 unfold EN at h
 split at h
 ·rename_i hex
  have:=Classical.choose_spec (Classical.choose_spec hex)
  simp only [osi] at h
  rw [h] at this
  exact ⟨_,this⟩
 .cases h
theorem MD {b b' : St -> Option (VExit × St)} (hb : ∀ s r,b s = some r -> b' s = some r) : ∀ {k : Nat} {s : St} {r : VExit × St},Bb b k s = some r -> Bb b' k s = some r
 | 0,_,_,h=>h
 | k + 1,s,r,h=>by
  simp only [Bb] at h ⊢
  obtain ⟨r1,h1,h⟩:=AH h
  rw [hb _ _ h1,Ai]
  obtain ⟨e1,s1⟩:=r1
  cases e1 with
  | normal=>exact MD hb h
  | exit id=>exact h
  | ret=>exact h
theorem Dv {Γ Γ' : Sig} (hl : Le Γ Γ') : ∀ (c : VCode) (s : St) (r : VExit × St),AD Γ c s = some r -> AD Γ' c s = some r
 | .skip,s,r,h=>by rw [H9] at h ⊢; exact h
 | .region vr,s,r,h=>by
  rw [G9] at h ⊢
  obtain ⟨s1,h1,h⟩:=AH h
  rw [zaP hl h1,Ai]
  exact h
 | .seq x y,s,r,h=>by
  rw [EZ] at h ⊢
  obtain ⟨⟨e1,s1⟩,h1,h⟩:=AH h
  rw [Dv hl x _ _ h1,Ai]
  cases e1 with
  | normal=>rw [GZ] at h ⊢; exact Dv hl y _ _ h
  | exit id=>exact h
  | ret=>exact h
 | .cond t x y,s,r,h=>by
  cases t with
  | v t =>
   rw [Hh] at h ⊢
   split at h
   ·rename_i b hb
    cases b with
    | true=>rw [E2] at h ⊢; exact Dv hl x _ _ h
    | false=>rw [E0] at h ⊢; exact Dv hl y _ _ h
   .cases h
  | t t=>simp [AD] at h
  | c d=>simp [AD] at h
 | .block id x,s,r,h=>by
  rw [H4] at h ⊢
  obtain ⟨r1,h1,h⟩:=AH h
  rw [Dv hl x _ _ h1,Ai]
  exact h
 | .loop x,s,r,h=>by
  rw [Ia] at h ⊢
  obtain ⟨k,hk⟩:=SG h
  exact J9 (MD (fun s r=>Dv hl x s r) hk)
 | .exit id,s,r,h=>by rw [JD] at h ⊢; exact h
 | .ret,s,r,h=>by rw [JW] at h ⊢; exact h
 | .mv a b x,s,r,h=>by rw [Ir] at h ⊢; exact Dv hl x _ _ h
 | .scope x,s,r,h=>by rw [H3] at h ⊢; exact Dv hl x _ _ h
 | .fail,s,r,h=>by rw [JC] at h; cases h
theorem EW {N : Nat -> Sig} {Γ : Sig} (hc : Chain N Γ) : ∀ (c : VCode) (s : St) (r : VExit × St),AD Γ c s = some r -> ∃ n,AD (N n) c s = some r
 | .skip,s,r,h=>⟨0,by rw [H9] at h ⊢; exact h⟩
 | .region vr,s,r,h=>by
  rw [G9] at h
  obtain ⟨s1,h1,h⟩:=AH h
  obtain ⟨n,hn⟩:=X1 hc h1
  refine ⟨n,?_⟩
  rw [G9,hn,Ai]
  exact h
 | .seq x y,s,r,h=>by
  rw [EZ] at h
  obtain ⟨⟨e1,s1⟩,h1,h⟩:=AH h
  obtain ⟨n,hn⟩:=EW hc x _ _ h1
  cases e1 with
  | normal =>
   rw [GZ] at h
   obtain ⟨m,hm⟩:=EW hc y _ _ h
   refine ⟨max n m,?_⟩
   rw [EZ,Dv (hc.mono n _ (Nat.le_max_left ..)) x _ _ hn,Ai,GZ]
   exact Dv (hc.mono m _ (Nat.le_max_right ..)) y _ _ hm
  | exit id=>exact ⟨n,by rw [EZ,hn,Ai]; exact h⟩
  | ret=>exact ⟨n,by rw [EZ,hn,Ai]; exact h⟩
 | .cond t x y,s,r,h=>by
  cases t with
  | v t =>
   rw [Hh] at h
   split at h
   ·rename_i b hb
    cases b with
    | true =>
     rw [E2] at h
     obtain ⟨n,hn⟩:=EW hc x _ _ h
     exact ⟨n,by rw [Hh,hb]; simp only [E2]; exact hn⟩
    | false =>
     rw [E0] at h
     obtain ⟨n,hn⟩:=EW hc y _ _ h
     exact ⟨n,by rw [Hh,hb]; simp only [E0]; exact hn⟩
   ·cases h
  | t t=>simp [AD] at h
  | c d=>simp [AD] at h
 | .block id x,s,r,h=>by
  rw [H4] at h
  obtain ⟨r1,h1,h⟩:=AH h
  obtain ⟨n,hn⟩:=EW hc x _ _ h1
  exact ⟨n,by rw [H4,hn,Ai]; exact h⟩
 | .loop x,s,r,h=>by
  rw [Ia] at h
  obtain ⟨k,hk⟩:=SG h
  have key : ∀ (k : Nat) (s : St),Bb (AD Γ x) k s = some r -> ∃ n,Bb (AD (N n) x) k s = some r:=by
   intro k
   induction k with
   | zero=>intro s h; simp [Bb] at h
   | succ k ih =>
    intro s h
    simp only [Bb] at h
    obtain ⟨⟨e1,s1⟩,h1,h⟩:=AH h
    obtain ⟨n,hn⟩:=EW hc x _ _ h1
    cases e1 with
    | normal =>
     obtain ⟨m,hm⟩:=ih s1 h
     refine ⟨max n m,?_⟩
     simp only [Bb]
     rw [Dv (hc.mono n _ (Nat.le_max_left ..)) x _ _ hn,Ai]
     exact MD (fun s r=>Dv (hc.mono m _ (Nat.le_max_right ..)) x s r) hm
    | exit id=>exact ⟨n,by simp only [Bb]; rw [hn,Ai]; exact h⟩
    | ret=>exact ⟨n,by simp only [Bb]; rw [hn,Ai]; exact h⟩
  obtain ⟨n,hn⟩:=key k s hk
  exact ⟨n,by rw [Ia]; exact J9 hn⟩
 | .exit id,s,r,h=>⟨0,by rw [JD] at h ⊢; exact h⟩
 | .ret,s,r,h=>⟨0,by rw [JW] at h ⊢; exact h⟩
 | .mv a b x,s,r,h=>by
  rw [Ir] at h
  obtain ⟨n,hn⟩:=EW hc x _ _ h
  exact ⟨n,by rw [Ir]; exact hn⟩
 | .scope x,s,r,h=>by
  rw [H3] at h
  obtain ⟨n,hn⟩:=EW hc x _ _ h
  exact ⟨n,by rw [H3]; exact hn⟩
 | .fail,s,r,h=>by rw [JC] at h; cases h
theorem za2 {Γ Γ' : Sig} (hl : Le Γ Γ') {vf : VFunc} {args : List VVal} {H : List Ob} {r : VVal × List Ob} (h : BW Γ vf args H = some r) : BW Γ' vf args H = some r:=by
 unfold BW at h ⊢
 obtain ⟨hn,h⟩:=Kv h
 obtain ⟨r1,h1,h⟩:=AH h
 rw [GJ _ _ hn,Dv hl _ _ _ h1,Ai]
 exact h
theorem Ya {N : Nat -> Sig} {Γ : Sig} (hc : Chain N Γ) {vf : VFunc} {args : List VVal} {H : List Ob} {r : VVal × List Ob} (h : BW Γ vf args H = some r) : ∃ n,BW (N n) vf args H = some r:=by
 unfold BW at h
 obtain ⟨hn,h⟩:=Kv h
 obtain ⟨r1,h1,h⟩:=AH h
 obtain ⟨n,h2⟩:=EW hc _ _ _ h1
 refine ⟨n,?_⟩
 unfold BW
 rw [GJ _ _ hn,h2,Ai]
 exact h
section
variable {prog : FuncId -> Option VFunc} {X : Sig}
theorem R8 : ∀ n,Le (CQ prog X n) (CQ prog X (n + 1))
 | 0=>fun f args H r h=>by
  simp only [CQ] at h ⊢
  rw [h]
 | n + 1=>fun f args H r h=>by
  have h' : (match X f args H with
   | some r=>some r
   | none=>match prog f with
    | some vf=>BW (CQ prog X n) vf args H
    | none=>none) = some r:=h
  show (match X f args H with
   | some r=>some r
   | none=>match prog f with
    | some vf=>BW (CQ prog X (n + 1)) vf args H
    | none=>none) = some r
  cases hx : X f args H with
  | some r' =>
   rw [hx] at h'
   exact h'
  | none =>
   rw [hx] at h'
   cases hp : prog f with
   | none=>rw [hp] at h'; cases h'
   | some vf =>
    rw [hp] at h'
    exact za2 (R8 n) h'
theorem LE (n m : Nat) (h : n <= m) : Le (CQ prog X n) (CQ prog X m):=by
 induction m with
 | zero =>
  have : n = 0:=by omega
  subst this
  exact fun _ _ _ _ h=>h
 | succ m ih =>
  rcases Nat.lt_or_ge m n with h1 | h1
  ·have : n = m + 1:=by omega
   subst this
   exact fun _ _ _ _ h=>h
  .exact fun f args H r hr=>R8 m f args H r (ih h1 f args H r hr)
theorem Rq {n : Nat} {f : FuncId} {args : List VVal} {H : List Ob} {r : VVal × List Ob} (h : CQ prog X n f args H = some r) : ED prog X f args H = some r:=by
 unfold ED
 have hex : ∃ n r,CQ prog X n f args H = some r:=⟨n,r,h⟩
 rw [dif_pos hex]
 have h1:=Classical.choose_spec (Classical.choose_spec hex)
 have h2:=LE _ (max n (Classical.choose hex)) (Nat.le_max_right ..) _ _ _ _ h1
 have h3:=LE _ (max n (Classical.choose hex)) (Nat.le_max_left ..) _ _ _ _ h
 rw [h3] at h2
 exact h2.symm
theorem Wv : Chain (CQ prog X) (ED prog X) where
 mono:=LE
 lim:=fun f args H r h=>by
  unfold ED at h
  split at h
  ·rename_i hex
   have:=Classical.choose_spec (Classical.choose_spec hex)
   simp only [osi] at h
   rw [h] at this
   exact ⟨_,this⟩
  .cases h
theorem Yg {f : FuncId} {vf : VFunc} (hx : ∀ args H,X f args H = none) (hf : prog f = some vf) {args : List VVal} {H : List Ob} {r : VVal × List Ob} (h : BW (ED prog X) vf args H = some r) : ED prog X f args H = some r:=by
 obtain ⟨n,hn⟩:=Ya Wv h
 refine Rq (n:=n + 1) ?_
 simp only [CQ,hx,hf]
 exact hn
end
def unI : PV -> Option Int
 | .int .i64 n=>some n
 | _=>none
theorem zch {x : PV} {n : Int} (h : unI x = some n) : x = .int .i64 n:=by
 unfold unI at h
 split at h
 .simp at h; rw [h]
 .cases h
noncomputable def XI (args : List VVal) (H : List Ob) : Option (VVal × List Ob):=match args,H with
 | [.own (.arg 0 0) 0 0 n],[.arr 1 xs]=>gd (n = xs.length) <| gd (n < 4611686018427387904) <| ob (Af unI xs) fun zs=>some (.tup [],[.arr 1 ((zs.mergeSort fun x y=>decide (x <= y)).map (.int .i64))])
 | _,_=>none
def Iw : PV -> Option (Int × Int)
 | .agg [.int .i64 a,.int .i64 b]=>some (a,b)
 | _=>none
abbrev GH (p : Int × Int) : PV:=.agg [.int .i64 p.1,.int .i64 p.2]
theorem Yj {x : PV} {p : Int × Int} (h : Iw x = some p) : x = GH p:=by
 unfold Iw at h
 split at h
 .simp at h; rw [<- h]
 .cases h
noncomputable def XP (g : FuncId) (args : List VVal) (H : List Ob) : Option (VVal × List Ob):=match args,H with
 | [.own (.arg 0 0) 0 0 n,.p (.fn g')],[.arr 2 xs]=>gd (g' = g) <| gd (n = xs.length) <| gd (n < 4611686018427387904) <| ob (Af Iw xs) fun ps =>
   gd (∀ p ∈ ps,0 <= p.1 /\ p.1 < 4611686018427387904) <| gd ((ps.map Prod.fst).Nodup) (some (.tup [],[.arr 2 ((ps.mergeSort fun x y=>decide (x.1 <= y.1)).map GH)]))
 | _,_=>none
noncomputable def XS : Sig:=fun f args H=>if f = 118 then XI args H else if f = 125 then XP 126 args H else none
noncomputable abbrev V : Sig:=ED prog XS
theorem zcf {f : FuncId} {vf : VFunc} (hf : prog f = some vf) (args : List VVal) (H : List Ob) : XS f args H = none:=by
 unfold XS
 by_cases h1 : f = 118
 ·subst h1
  exact absurd hf (by simp [prog])
 ·by_cases h2 : f = 125
  ·subst h2
   exact absurd hf (by simp [prog])
  .rw [if_neg h1,if_neg h2]
theorem E9 {f : FuncId} {vf : VFunc} (hf : prog f = some vf) {args : List VVal} {H : List Ob} {r : VVal × List Ob} (h : BW V vf args H = some r) : V f args H = some r:=Yg (zcf hf) hf h
theorem Ag {f : FuncId} {vf : VFunc} (hf : prog f = some vf) {args : List VVal} {H : List Ob} {r : VVal × List Ob} (h : wp (BW V vf args H) (· = r)) : V f args H = some r:=E9 hf (zaS h)
theorem V_x {f : FuncId} {args : List VVal} {H : List Ob} {r : VVal × List Ob} (h : XS f args H = some r) : V f args H = some r:=Rq (n:=0) h
structure Nd where
 id : Int
 parent : Int
 name : ByteArray
 control : Int
 kind : Int
 owner : Int
 deriving DecidableEq
def Nd.pv (n : Nd) : PV:=.agg [.int .i64 n.id,.int .i64 n.parent,.str n.name,.int .i64 n.control,.int .i64 n.kind,.int .i64 n.owner]
def Nd.vv (n : Nd) : VVal:=.agg [.p (.int .i64 n.id),.p (.int .i64 n.parent),.p (.str n.name),.p (.int .i64 n.control),.p (.int .i64 n.kind),.p (.int .i64 n.owner)]
abbrev Au (ns : List Nd) : PV:=.slice 6 (ns.map Nd.pv)
structure Tr where
 nodes : List Nd
 next : Int
abbrev Tr.vv (t : Tr) : VVal:=.agg [.p (Au t.nodes),.p (.int .i64 t.next)]
abbrev Tr.fv (t : Tr) : VVal:=.agg [.fresh 6 (t.nodes.map Nd.pv),.p (.int .i64 t.next)]
abbrev AT (xs : List Int) : PV:=.slice 1 (xs.map (.int .i64))
attribute [go_sem] Nd.pv EE
theorem XL (ns : List Nd) : (ns.map Nd.pv).all PV.flat = true:=by
 rw [List.all_eq_true]
 intro x hx
 obtain ⟨n,_,rfl⟩:=lmm.1 hx
 rfl
theorem YW (k : IntKind) (xs : List Int) : (xs.map (PV.int k)).all PV.flat = true:=by
 rw [List.all_eq_true]
 intro x hx
 obtain ⟨n,_,rfl⟩:=lmm.1 hx
 rfl
attribute [go_sem] XL YW
theorem zaw (xs : List PV) : V 5 [.p (.slice 1 xs)] [] = some (.p (.bool (decide (xs.length <= 600))),[]):=by
 refine E9 (vf:=vf5) rfl ?_
 simp -implicitDefEqProofs only [vf5,vb5,go_sem]
 simp only [show (600 : Int) = ((600 : Nat) : Int) from rfl,Int.ofNat_le]
abbrev A3 (L : List Int) (a : Nat) : Ob:=.box [.p (AT L),.p (.int .i64 a)]
theorem zbo (L : List Int) : V 7 [.p (AT L)] [] = some (.boxed [.p (AT L),.p (.int .i64 0)],[]):=by
 refine E9 (vf:=vf7) rfl ?_
 simp -implicitDefEqProofs only [vf7,vb7,go_sem]
def AC (L : List Int) (a : Nat) (n : Int) : Int:=if 1 <= n then (L.getD a 0) % n else 0
def Ae (L : List Int) (a : Nat) (n : Int) : Nat:=if a < L.length /\ 1 <= n then a + 1 else a
theorem Ri {x n : Int} (h : 1 <= n) : x % n = if x.tmod n < 0 then x.tmod n + n else x.tmod n:=by
 have h3:=Int.emod_nonneg x (show n ≠ 0 by omega)
 have h4:=Int.emod_lt_of_pos x (show 0 < n by omega)
 have h5:=Int.tmod_eq_emod (a:=x) (b:=n)
 rw [h5]
 split <;> split <;> omega
theorem Ev (L : List Int) (a : Nat) (n : Int) (hL : L.length < 4611686018427387904) (hn : n < 4611686018427387904) : V 14 [.ptr (.arg 0 0) 0 0,.p (.int .i64 n)] [A3 L a] = some (.p (.int .i64 (AC L a n)),[A3 L (Ae L a n)]):=by
 refine Ag (vf:=vf14) rfl ?_
 by_cases ha : L.length <= a
 ·simp -implicitDefEqProofs (disch:=omega) only [vf14,NG,ha,go_sem]
  simp [AC,Ae,List.getD_eq_getElem?_getD,Nat.not_lt.2 ha]
 ·have hx : L[a]? = some (L.getD a 0):=by
   rw [List.getD_eq_getElem?_getD,lgg (by omega)]; rfl
  have ht : (((a : Int) + 1 - 1).toNat) = a:=by omega
  simp -implicitDefEqProofs (disch:=omega) only [vf14,NG,ha,go_sem]
  repeat' ((first | refine Bw ?_ ?_ | refine Bv ?_ ?_ | refine Bz ?_ ?_ | refine By ?_ ?_ | refine Bq ?_ ?_ | refine Bp ?_ ?_ | refine Bx ?_ ?_ | refine Br ?_ ?_ | refine Ah ?_ ?_ | refine BD ?_ ?_) <;> intro hb <;> simp -implicitDefEqProofs (disch:=omega) only [hb,hx,ht,go_sem])
  ·simp [AC,Ae,show ¬ 1 <= n by omega]
  ·have:=Ri (x:=L.getD a 0) (n:=n) (by omega)
   rw [if_pos (by assumption)] at this
   have h1:=Int.tmod_lt_of_pos (L.getD a 0) (show 0 < n by omega)
   have h2:=Int.emod_nonneg (L.getD a 0) (show n ≠ 0 by omega)
   rw [It (by omega) (by omega),<- this]
   simp only [AC,Ae,show 1 <= n by omega,show a < L.length by omega,and_self,if_true,A3,Int.natCast_add,Int.natCast_one]
  ·have:=Ri (x:=L.getD a 0) (n:=n) (by omega)
   rw [if_neg (by assumption)] at this
   rw [<- this]
   simp only [AC,Ae,show 1 <= n by omega,show a < L.length by omega,and_self,if_true,A3,Int.natCast_add,Int.natCast_one]
theorem EQ (L : List Int) (a : Nat) (n : Int) : 0 <= AC L a n:=by
 unfold AC
 split
 .exact Int.emod_nonneg _ (by omega)
 .omega
theorem EY (L : List Int) (a : Nat) {n : Int} (h : 1 <= n) : AC L a n < n:=by
 unfold AC
 rw [if_pos h]
 exact Int.emod_lt_of_pos _ (by omega)
theorem Bf {α : Type} {l : List α} {k : Nat} {x : α} (h : l[k]? = some x) : l.take (k + 1) = l.take k ++ [x]:=by
 rw [List.take_add_one,h]
 rfl
theorem Vu {α β : Type} (f : α -> β) (l : List α) : List.take l.length (l.map f) = l.map f:=by
 rw [ltl (by simp)]
theorem Vt {α β : Type} (f : α -> β) (l : List α) (x : β) : List.take (l.length + 1) (l.map f ++ [x]) = l.map f ++ [x]:=by
 rw [ltl (by simp)]
attribute [go_sem] Vu Vt
def upR : List Nd -> Int -> List Int
 | [],_=>[]
 | n :: ns,id=>if n.id = id then id :: upR ns n.parent else upR ns id
def up (ns : List Nd) (id : Int) : List Int:=upR ns.reverse id
theorem Jk : ∀ (ns : List Nd) (id : Int),(upR ns id).length <= ns.length
 | [],_=>lrf _
 | n :: ns,id=>by
  unfold upR
  split
  .have:=Jk ns n.parent; simp; omega
  .have:=Jk ns id; simp; omega
theorem TD (t : Tr) (id : Int) (hl : t.nodes.length < 1000000) : V 128 [t.vv,.p (.int .i64 id)] [] = some (.fresh 1 ((up t.nodes id).map (.int .i64)),[]):=by
 refine Ag (vf:=vf128) rfl ?_
 simp -implicitDefEqProofs (disch:=omega) only [vf128,Tq,go_sem]
 refine Al t.nodes.length (fun k s=>∃ (acc : List Int) (cur : Int) (v : Nat),up t.nodes id = acc ++ upR (t.nodes.reverse.drop k) cur /\ acc.length <= k /\ s.pe 1 = .p (.int .i64 cur) /\ s.pe 2 = .ptr (.slot 2 0) 0 0 /\ s.pe 5 = .own (.slot 5 0) v 0 acc.length /\ s.pe 6 = .p (.int .i64 ((t.nodes.length : Int) - 1 - k)) /\ s.h (.slot 2 0) = some (0,.box [.p (Au t.nodes),.p (.int .i64 t.next)]) /\ s.h (.slot 5 0) = some (v,.arr 1 (acc.map (.int .i64)))) ?_ ?_
 ·exact ⟨[],id,0,by simp [up,GL,Ef,VHeap.upd,List.getD]⟩
 ·rintro k s hk ⟨acc,cur,v,hup,hlen,h1,h2,h5,h6,hh2,hh5⟩
  simp -implicitDefEqProofs (disch:=omega) only [h6,go_sem]
  refine Ah (fun hge=>?_) (fun hlt=>?_)
  ·have hk' : k < t.nodes.length:=by omega
   have hn : t.nodes[((t.nodes.length : Int) - 1 - k).toNat]? = some t.nodes[t.nodes.length - 1 - k]:=by
    rw [show ((t.nodes.length : Int) - 1 - k).toNat = t.nodes.length - 1 - k by omega]
    exact lgg (by omega)
   have hd : t.nodes.reverse.drop k = t.nodes[t.nodes.length - 1 - k] :: t.nodes.reverse.drop (k + 1):=by
    rw [ldg (by simpa using hk')]
    simp
   generalize t.nodes[t.nodes.length - 1 - k] = n at hn hd
   rw [hd] at hup
   simp -implicitDefEqProofs (disch:=omega) only [h1,h2,h6,hh2,hn,hge,go_sem]
   repeat' ((first | refine Bw ?_ ?_ | refine Bv ?_ ?_ | refine Bz ?_ ?_ | refine By ?_ ?_ | refine Bq ?_ ?_ | refine Bp ?_ ?_ | refine Bx ?_ ?_ | refine Br ?_ ?_ | refine Ah ?_ ?_ | refine BD ?_ ?_) <;> intro hb <;> simp -implicitDefEqProofs (disch:=omega) only [hb,h1,h2,h5,h6,hh2,hh5,hn,hge,go_sem])
   ·rw [upR,if_pos (by assumption)] at hup
    refine ⟨hk',acc ++ [cur],n.parent,v + 1,by rw [hup]; simp,by simp; omega,rfl,by simp,by congr 2; omega,by simp⟩
   ·rw [upR,if_neg (by assumption)] at hup
    exact ⟨hk',acc,cur,v,hup,by omega,rfl,rfl,by congr 2; omega,rfl⟩
  ·have hd : t.nodes.reverse.drop k = []:=ldl (by simp; omega)
   rw [hd,upR,lan] at hup
   simp -implicitDefEqProofs (disch:=omega) only [h5,hh5,hup,go_sem]
def Dz (c : Int) : Bool:=decide (97 <= c /\ c <= 122) || decide (65 <= c /\ c <= 90) || decide (48 <= c /\ c <= 57) || decide (c = 95) || decide (c = 45)
def Cf (s : ByteArray) : Bool:=decide (s.size ≠ 0) && decide (s.size <= 32) && decide (s.data.toList[0]? ≠ some 45) && s.data.toList.all fun b=>Dz b.toNat
theorem WV {c : Int} (h : (97 <= c /\ c <= 122) \/ (65 <= c /\ c <= 90) \/ (48 <= c /\ c <= 57) \/ c = 95 \/ c = 45) : Dz c = true:=by
 simp only [Dz,bot,decide_eq_true_eq]
 omega
theorem Wc {c : Int} (h : ¬ ((97 <= c /\ c <= 122) \/ (65 <= c /\ c <= 90) \/ (48 <= c /\ c <= 57) \/ c = 95 \/ c = 45)) : Dz c = false:=by
 rw [Bool.eq_false_iff]
 intro h1
 simp only [Dz,bot,decide_eq_true_eq] at h1
 omega
theorem zay (c : Int) : V 179 [.p (.int .u8 c)] [] = some (.p (.bool (Dz c)),[]):=by
 refine Ag (vf:=vf179) rfl ?_
 simp -implicitDefEqProofs only [vf179,S5,go_sem]
 repeat' ((first | refine Bw ?_ ?_ | refine Bv ?_ ?_ | refine Bz ?_ ?_ | refine By ?_ ?_ | refine Bq ?_ ?_ | refine Bp ?_ ?_ | refine Bx ?_ ?_ | refine Br ?_ ?_ | refine Ah ?_ ?_ | refine BD ?_ ?_) <;> intro hb <;> simp -implicitDefEqProofs only [hb,go_sem])
 all_goals
  simp only [Dz,pmi,VVal.p.injEq,PV.bool.injEq,and_true]
  rw [Bool.eq_iff_iff]
  simp only [bot,decide_eq_true_eq,true_iff]
  first | omega | simp
theorem Qq (s : ByteArray) : s.size = s.data.toList.length:=rfl
theorem Sc {α : Type} {p : α -> Bool} {l : List α} {k : Nat} (h : (l.take k).all p = true) {x : α} (hx : l[k]? = some x) (hp : p x = true) : (l.take (k + 1)).all p = true:=by
 rw [List.take_add_one,hx]
 simp only [List.all_append,h,Option.toList,List.all_cons,List.all_nil,hp,bas]
theorem all_not {α : Type} {p : α -> Bool} {l : List α} {k : Nat} {x : α} (hx : l[k]? = some x) (hp : p x = false) : l.all p = false:=by
 rw [List.all_eq_false]
 exact ⟨x,lmg hx,by simp [hp]⟩
theorem Ml (x : UInt8) : ((x.toNat : Int) = 45) = (x = 45):=by
 rw [eq_iff_iff]
 constructor
 ·intro h
  have : x.toNat = (45 : UInt8).toNat:=by simp; omega
  exact UInt8.toNat_inj.1 this
 ·rintro rfl
  rfl
theorem Qu (s : ByteArray) : V 76 [.p (.str s)] [] = some (.p (.bool (Cf s)),[]):=by
 refine Ag (vf:=vf76) rfl ?_
 have hs:=Qq s
 by_cases h0 : (s.size : Int) = 0
 ·simp -implicitDefEqProofs (disch:=omega) only [vf76,Kz,h0,go_sem]
  simp [Cf,show s.size = 0 by omega]
 ·by_cases h1 : 32 < (s.size : Int)
  ·simp -implicitDefEqProofs (disch:=omega) only [vf76,Kz,h0,h1,go_sem]
   simp [Cf,show ¬ s.size <= 32 by omega]
  ·have hx : s.data.toList[0]? = some s.data.toList[0]:=lgg (by omega)
   generalize s.data.toList[0] = x at hx
   have hz : (0 : Int).toNat = 0:=rfl
   simp -implicitDefEqProofs (disch:=omega) only [vf76,Kz,Na,h0,h1,hx,hz,go_sem]
   by_cases h45 : x = 45
   ·have h45' : ((x.toNat : Nat) : Int) = 45:=by rw [Ml]; exact h45
    simp -implicitDefEqProofs (disch:=omega) only [h45',go_sem]
    simp [Cf,hx,h45]
   ·have h45' : ¬ ((x.toNat : Nat) : Int) = 45:=by rw [Ml]; exact h45
    simp -implicitDefEqProofs (disch:=omega) only [h45',go_sem]
    refine Al s.size (fun k t=>(s.data.toList.take k).all (fun b=>Dz b.toNat) = true /\ t.pe 0 = .p (.str s) /\ t.pe 3 = .p (.int .i64 k)) ?_ ?_
    ·simp [GL,Ef]
    ·rintro k t hk ⟨hall,h2,h3⟩
     simp -implicitDefEqProofs (disch:=omega) only [h2,h3,go_sem]
     refine Ah (fun hlt=>?_) (fun hge=>?_)
     ·have hy : s.data.toList[k]? = some s.data.toList[k]:=lgg (by omega)
      generalize s.data.toList[k] = y at hy
      simp -implicitDefEqProofs (disch:=omega) only [h2,h3,Na,hy,hlt,go_sem]
      repeat' ((first | refine Bw ?_ ?_ | refine Bv ?_ ?_ | refine Bz ?_ ?_ | refine By ?_ ?_ | refine Bq ?_ ?_ | refine Bp ?_ ?_ | refine Bx ?_ ?_ | refine Br ?_ ?_ | refine Ah ?_ ?_ | refine BD ?_ ?_) <;> intro hb <;> simp -implicitDefEqProofs (disch:=omega) only [hb,h2,h3,go_sem])
      all_goals first
       | exact ⟨by omega,Sc hall hy (WV (by omega)),by simp only [Int.natCast_add,Int.natCast_one]⟩
       | (have:=all_not (p:=fun b : UInt8=>Dz b.toNat) hy (Wc (by omega)); simp [Cf,this])
     ·simp -implicitDefEqProofs (disch:=omega) only [hge,go_sem]
      have hall' : s.data.toList.all (fun b=>Dz b.toNat) = true:=by rw [ltl (by omega)] at hall; exact hall
      simp only [Cf,hall',hx,show s.size ≠ 0 by omega,show s.size <= 32 by omega,ne_eq,not_false_eq_true,decide_true,bas,osi,h45]
theorem YE (s : ByteArray) (hl : s.size < 9223372036854775808) : V 151 [.p (.str s)] [] = some (.p (.bool (Cf s)),[]):=by
 refine Ag (vf:=vf151) rfl ?_
 have hs:=Qq s
 simp -implicitDefEqProofs (disch:=omega) only [vf151,Td,go_sem]
 refine Al s.size (fun k t=>(s.data.toList.take k).all (fun b=>Dz b.toNat) = true /\ t.pe 0 = .p (.str s) /\ t.pe 6 = .p (.slice 1 (s.data.toList.map fun b=>.int .u8 b.toNat)) /\ t.pe 7 = .p (.int .i64 s.size) /\ t.pe 8 = .p (.int .i64 k)) ?_ ?_
 ·exact ⟨by simp,rfl,rfl,rfl,rfl⟩
 ·rintro k t hk ⟨hall,h0,h6,h7,h8⟩
  simp -implicitDefEqProofs (disch:=omega) only [h7,h8,go_sem]
  refine Ah (fun hlt=>?_) (fun hge=>?_)
  ·have hy : s.data.toList[k]? = some s.data.toList[k]:=lgg (by omega)
   generalize s.data.toList[k] = y at hy
   simp -implicitDefEqProofs (disch:=omega) only [h6,h8,hy,hlt,zay,go_sem]
   repeat' ((first | refine Bw ?_ ?_ | refine Bv ?_ ?_ | refine Bz ?_ ?_ | refine By ?_ ?_ | refine Bq ?_ ?_ | refine Bp ?_ ?_ | refine Bx ?_ ?_ | refine Br ?_ ?_ | refine Ah ?_ ?_ | refine BD ?_ ?_) <;> intro hb <;> simp -implicitDefEqProofs (disch:=omega) only [hb,h0,h6,h7,h8,go_sem])
   ·have:=all_not (p:=fun b : UInt8=>Dz b.toNat) hy (by assumption)
    simp [Cf,this]
   ·exact ⟨by omega,Sc hall hy (by assumption),by simp only [Int.natCast_add,Int.natCast_one]⟩
  ·simp -implicitDefEqProofs (disch:=omega) only [h0,hge,go_sem]
   have hall' : s.data.toList.all (fun b=>Dz b.toNat) = true:=by rw [ltl (by omega)] at hall; exact hall
   have hz : (0 : Int).toNat = 0:=rfl
   by_cases he : s = ⟨#[]⟩
   ·subst he
    simp -implicitDefEqProofs (disch:=omega) only [go_sem]
    rfl
   ·have hne : s.size ≠ 0:=fun h=>he (by
     cases s with
     | mk d =>
      congr 1
      exact Array.eq_empty_of_size_eq_zero h)
    simp -implicitDefEqProofs (disch:=omega) only [he,h0,go_sem]
    by_cases h1 : (s.size : Int) <= 32
    ·have hx : s.data.toList[0]? = some s.data.toList[0]:=lgg (by omega)
     generalize s.data.toList[0] = x at hx
     simp -implicitDefEqProofs (disch:=omega) only [h0,h1,hx,hz,Na,Ml,go_sem]
     simp only [Cf,hall',hx,hne,show s.size <= 32 by omega,ne_eq,not_false_eq_true,decide_true,bta,bau,osi,decide_not]
    ·simp -implicitDefEqProofs (disch:=omega) only [h1,go_sem]
     simp [Cf,show ¬ s.size <= 32 by omega]
def B0 (pre : List Nd) (n : Nd) : Bool :=
  decide (n.kind = 0 \/ n.kind = 1) && decide (0 <= n.control /\ n.control <= 31 /\ 0 <= n.owner /\ n.owner <= 1048576) &&
  (match pre.getLast? with
   | none=>decide (n.id = 1 /\ n.parent = 0 /\ n.name = ⟨#[]⟩ /\ n.kind = 0)
   | some l=>decide (l.id < n.id) && Cf n.name && !(pre.any fun x=>decide (x.parent = n.parent /\ x.name = n.name)) && pre.any fun x=>decide (x.id = n.parent))
theorem Hn {α : Type} {p : α -> Bool} {l : List α} {k : Nat} {x : α} (hx : l[k]? = some x) : (l.take (k + 1)).any p = ((l.take k).any p || p x):=by
 rw [List.take_add_one,hx]
 simp only [List.any_append,Option.toList,List.any_cons,List.any_nil,Bool.or_false]
theorem Xd {α : Type} {p : α -> Bool} {l : List α} {k i : Nat} (h : k <= i) (hp : (l.take k).any p = true) : (l.take i).any p = true:=by
 rw [List.any_eq_true] at hp ⊢
 obtain ⟨x,hx,h1⟩:=hp
 exact ⟨x,(List.take_sublist_take_left h).subset hx,h1⟩
theorem zbC (t : Tr) (i : Nat) (n : Nd) (hn : t.nodes[i]? = some n) (hl : t.nodes.length < 1000000) : V 127 [t.vv,.p (.int .i64 i)] [] = some (.p (.bool (B0 (t.nodes.take i) n)),[]):=by
  refine Ag (vf := vf127) rfl ?_
  have hlt : i < t.nodes.length:=(lgs.1 hn).1
  by_cases hi : (i : Int) = 0
  · have hi' : i = 0:=by omega
    have hz : (0 : Int).toNat = 0:=rfl
    rw [hi'] at hn
    simp -implicitDefEqProofs (disch:=omega) only [vf127,Nh,hi,hz,hn,go_sem]
    repeat' ((first | refine Bw ?_ ?_ | refine Bv ?_ ?_ | refine Bz ?_ ?_ | refine By ?_ ?_ | refine Bq ?_ ?_ | refine Bp ?_ ?_ | refine Bx ?_ ?_ | refine Br ?_ ?_ | refine Ah ?_ ?_ | refine BD ?_ ?_) <;> intro hb <;> simp -implicitDefEqProofs (disch:=omega) only [hb,go_sem])
    all_goals
      simp only [B0,hi',List.take_zero,List.getLast?_nil,pmi,VVal.p.injEq,PV.bool.injEq,and_true]
      rw [Bool.eq_iff_iff]
      simp only [bat,decide_eq_true_eq,true_iff,bft,false_iff]
      try simp only [*]
      first | omega | (simp; done) | (simp; omega)
  · obtain ⟨l, hlast⟩ : ∃ l, (t.nodes.take i).getLast? = some l:=by
      cases hq : (t.nodes.take i).getLast? with
      | none =>
        rw [List.getLast?_eq_none_iff] at hq
        have := congrArg List.length hq
        rw [List.length_take,lln] at this
        omega
      | some l => exact ⟨l,rfl⟩
    have hpre : t.nodes[((i : Int) - 1).toNat]? = some l:=by
      rw [List.getLast?_take,if_neg (by omega)] at hlast
      rw [show ((i : Int) - 1).toNat = i - 1 by omega]
      rw [List.getElem?_eq_getElem (by omega)] at hlast ⊢
      simpa using hlast
    simp -implicitDefEqProofs (disch:=omega) only [vf127,Nh,hn,go_sem]
    repeat' ((first | refine Bw ?_ ?_ | refine Bv ?_ ?_ | refine Bz ?_ ?_ | refine By ?_ ?_ | refine Bq ?_ ?_ | refine Bp ?_ ?_ | refine Bx ?_ ?_ | refine Br ?_ ?_ | refine Ah ?_ ?_ | refine BD ?_ ?_) <;> intro hb <;> simp -implicitDefEqProofs (disch:=omega) only [hb,hi,hpre,Qu,go_sem])
    all_goals first
      | (simp only [B0,hlast,pmi,VVal.p.injEq,PV.bool.injEq,and_true]
         rw [Bool.eq_iff_iff]
         simp only [bat,decide_eq_true_eq,bft,false_iff]
         try simp only [*]
         first | omega | (simp; done) | (simp; omega))
      | skip
    all_goals
      refine Al i (fun k s=>(t.nodes.take k).any (fun x=>decide (x.parent = n.parent /\ x.name = n.name)) = false /\ s.pe 1 = .p (.int .i64 i) /\ s.pe 2 = .ptr (.slot 2 0) 0 0 /\ s.pe 5 = .ptr (.slot 5 0) 0 0 /\ s.pe 6 = .p (.bool ((t.nodes.take k).any fun x=>decide (x.id = n.parent))) /\ s.pe 7 = .p (.int .i64 k) /\
        s.h (.slot 2 0) = some (0,.box [.p (Au t.nodes),.p (.int .i64 t.next)]) /\ s.h (.slot 5 0) = some (0,.box (n.pv.cells.map .p))) ?_ ?_
      · exact ⟨by simp,rfl,rfl,rfl,rfl,rfl,rfl,by simp -implicitDefEqProofs (disch:=omega) only [go_sem]; simp only [*]⟩
      · rintro k s hk ⟨hno,h1,h2,h5,h6,h7,hh2,hh5⟩
        simp only [Nd.pv,PV.cells,lpc,lpn] at hh5
        simp -implicitDefEqProofs (disch:=omega) only [h1,h7,go_sem]
        refine Ah (fun hki=>?_) (fun hge=>?_)
        · have hm : t.nodes[k]? = some t.nodes[k]:=lgg (by omega)
          generalize t.nodes[k] = m at hm
          simp -implicitDefEqProofs (disch:=omega) only [h6,hki,go_sem]
          repeat' ((first | refine Bw ?_ ?_ | refine Bv ?_ ?_ | refine Bz ?_ ?_ | refine By ?_ ?_ | refine Bq ?_ ?_ | refine Bp ?_ ?_ | refine Bx ?_ ?_ | refine Br ?_ ?_ | refine Ah ?_ ?_ | refine BD ?_ ?_) <;> intro hb <;> simp -implicitDefEqProofs (disch:=omega) only [hb,h1,h2,h5,h7,hh2,hh5,hm,hki,go_sem])
          all_goals first
            | (have ha : ((t.nodes.take i).any fun x=>decide (x.parent = n.parent /\ x.name = n.name)) = true:=by
                refine Xd (k:=k + 1) (by omega) ?_
                rw [Hn hm]
                simp [*]
               simp only [B0,hlast,ha,Bool.not_true,Bool.and_false,bfa]
               done)
            | exact ⟨by rw [Hn hm,hno]; simp [*],by rw [Hn hm]; simp [*],by simp only [Int.natCast_add,Int.natCast_one]⟩
        · simp -implicitDefEqProofs (disch:=omega) only [h6,hge,go_sem]
          have hki : k = i:=by omega
          subst hki
          simp only [B0,hlast,hno,pmi,VVal.p.injEq,PV.bool.injEq,and_true]
          rw [Bool.eq_iff_iff]
          simp only [bat,decide_eq_true_eq,bnf,and_true]
          exact ⟨fun h=>⟨⟨by omega,by omega,by omega,by omega,by omega⟩,⟨by omega,by assumption⟩,h⟩,fun h=>h.2.2⟩
def BA : List Nd -> List Nd -> Bool
 | _,[]=>true
 | pre,n :: ns=>B0 pre n && BA (pre ++ [n]) ns
theorem Fg : ∀ (ns pre : List Nd),BA pre ns = true ↔ ∀ (i : Nat) (n : Nd),ns[i]? = some n -> B0 (pre ++ ns.take i) n = true
 | [],pre=>by simp [BA]
 | n :: ns,pre=>by
  simp only [BA,bat]
  rw [Fg ns (pre ++ [n])]
  constructor
  ·rintro ⟨h1,h2⟩ i m hm
   cases i with
   | zero=>simp at hm; subst hm; simpa using h1
   | succ i=>simpa using h2 i m (by simpa using hm)
  ·intro h
   exact ⟨by simpa using h 0 n rfl,fun i m hm=>by simpa using h (i + 1) m (by simpa using hm)⟩
def AF (t : Tr) : Bool :=
  decide (1 <= t.nodes.length /\ t.nodes.length <= 64) && BA [] t.nodes && t.nodes.all (fun n=>decide ((up t.nodes n.id).length <= 9)) &&
  (match t.nodes.getLast? with
   | none=>false
   | some l=>decide (l.id < t.next /\ t.next <= 2147483648))
theorem EV (t : Tr) (hl : t.nodes.length < 1000000) : V 75 [t.vv] [] = some (.p (.bool (AF t)),[]):=by
 refine Ag (vf:=vf75) rfl ?_
 by_cases h1 : (t.nodes.length : Int) < 1
 ·simp -implicitDefEqProofs (disch:=omega) only [vf75,KA,h1,go_sem]
  simp [AF,show ¬ 1 <= t.nodes.length by omega]
 ·by_cases h2 : 64 < (t.nodes.length : Int)
  ·simp -implicitDefEqProofs (disch:=omega) only [vf75,KA,h1,h2,go_sem]
   simp [AF,show ¬ t.nodes.length <= 64 by omega]
  ·simp -implicitDefEqProofs (disch:=omega) only [vf75,KA,h1,h2,go_sem]
   refine Al t.nodes.length (fun k s=>(∀ (i : Nat) (n : Nd),i < k -> t.nodes[i]? = some n -> B0 (t.nodes.take i) n = true) /\ s.pe 1 = .ptr (.slot 1 0) 0 0 /\ s.pe 3 = .p (.int .i64 t.nodes.length) /\ s.pe 4 = .p (.int .i64 k) /\ s.h (.slot 1 0) = some (0,.box [.p (Au t.nodes),.p (.int .i64 t.next)])) ?_ ?_
   ·exact ⟨by omega,rfl,rfl,rfl,rfl⟩
   ·rintro k s hk ⟨hall,h3,h4,h5,hh⟩
    simp -implicitDefEqProofs (disch:=omega) only [h4,h5,go_sem]
    refine Ah (fun hlt=>?_) (fun hge=>?_)
    ·have hm : t.nodes[k]? = some t.nodes[k]:=lgg hlt
     generalize t.nodes[k] = m at hm
     have hc:=zbC t k m hm hl
     simp -implicitDefEqProofs (disch:=omega) only [h3,h5,hh,hc,hlt,go_sem]
     repeat' ((first | refine Bw ?_ ?_ | refine Bv ?_ ?_ | refine Bz ?_ ?_ | refine By ?_ ?_ | refine Bq ?_ ?_ | refine Bp ?_ ?_ | refine Bx ?_ ?_ | refine Br ?_ ?_ | refine Ah ?_ ?_ | refine BD ?_ ?_) <;> intro hb <;> simp -implicitDefEqProofs (disch:=omega) only [hb,h3,h4,h5,hh,go_sem])
     ·have hf : BA [] t.nodes = false:=by
       rw [Bool.eq_false_iff]
       intro h0
       have:=(Fg _ _).1 h0 k m hm
       simp_all
      simp [AF,hf]
     ·refine ⟨hlt,fun i n hi hn=>?_,by simp only [Int.natCast_add,Int.natCast_one]⟩
      rcases Nat.lt_or_ge i k with h0 | h0
      ·exact hall i n h0 hn
      ·have : i = k:=by omega
       subst this
       rw [hm] at hn
       simp at hn
       subst hn
       assumption
    ·have hok : BA [] t.nodes = true:=(Fg _ _).2 fun i n hn=>by simpa using hall i n (by have:=(lgs.1 hn).1; omega) hn
     simp -implicitDefEqProofs (disch:=omega) only [hge,go_sem]
     refine Al t.nodes.length (fun k s=>(∀ (i : Nat) (n : Nd),i < k -> t.nodes[i]? = some n -> (up t.nodes n.id).length <= 9) /\ s.pe 1 = .ptr (.slot 1 0) 0 0 /\ s.pe 3 = .p (.int .i64 t.nodes.length) /\ s.pe 5 = .p (.int .i64 k) /\ s.h (.slot 1 0) = some (0,.box [.p (Au t.nodes),.p (.int .i64 t.next)])) ?_ ?_
     ·simp -implicitDefEqProofs (disch:=omega) only [h3,h4,hh,go_sem]
      simp
     ·rintro k s hk ⟨hall2,h3,h4,h5,hh⟩
      simp -implicitDefEqProofs (disch:=omega) only [h4,h5,go_sem]
      refine Ah (fun hlt=>?_) (fun hge=>?_)
      ·have hm : t.nodes[k]? = some t.nodes[k]:=lgg hlt
       generalize t.nodes[k] = m at hm
       have hc:=TD t m.id hl
       simp -implicitDefEqProofs (disch:=omega) only [h3,h5,hh,hm,hc,hlt,go_sem]
       repeat' ((first | refine Bw ?_ ?_ | refine Bv ?_ ?_ | refine Bz ?_ ?_ | refine By ?_ ?_ | refine Bq ?_ ?_ | refine Bp ?_ ?_ | refine Bx ?_ ?_ | refine Br ?_ ?_ | refine Ah ?_ ?_ | refine BD ?_ ?_) <;> intro hb <;> simp -implicitDefEqProofs (disch:=omega) only [hb,h3,h4,h5,hh,go_sem])
       ·rename_i hb
        have hf : t.nodes.all (fun n=>decide ((up t.nodes n.id).length <= 9)) = false:=by
         rw [List.all_eq_false]
         exact ⟨m,lmg hm,by simp; omega⟩
        simp [AF,hf]
       ·rename_i hb
        refine ⟨hlt,fun i n hi hn=>?_,by simp only [Int.natCast_add,Int.natCast_one]⟩
        rcases Nat.lt_or_ge i k with h0 | h0
        ·exact hall2 i n h0 hn
        ·have : i = k:=by omega
         subst this
         rw [hm] at hn
         simp at hn
         subst hn
         omega
      ·have hk2 : t.nodes.all (fun n=>decide ((up t.nodes n.id).length <= 9)) = true:=by
        rw [List.all_eq_true]
        intro n hn
        obtain ⟨i,hi⟩:=lgm hn
        have:=hall2 i n (by have:=(lgs.1 hi).1; omega) hi
        simpa using this
       have hla : t.nodes[((t.nodes.length : Int) - 1).toNat]? = some t.nodes[t.nodes.length - 1]:=by
        rw [show ((t.nodes.length : Int) - 1).toNat = t.nodes.length - 1 by omega]
        exact lgg (by omega)
       have hlast : t.nodes.getLast? = some t.nodes[t.nodes.length - 1]:=by
        rw [List.getLast?_eq_getElem?]
        exact lgg (by omega)
       generalize t.nodes[t.nodes.length - 1] = l at hla hlast
       simp -implicitDefEqProofs (disch:=omega) only [h3,h4,hh,hge,hla,go_sem]
       repeat' ((first | refine Bw ?_ ?_ | refine Bv ?_ ?_ | refine Bz ?_ ?_ | refine By ?_ ?_ | refine Bq ?_ ?_ | refine Bp ?_ ?_ | refine Bx ?_ ?_ | refine Br ?_ ?_ | refine Ah ?_ ?_ | refine BD ?_ ?_) <;> intro hb <;> simp -implicitDefEqProofs (disch:=omega) only [hb,h3,hh,go_sem])
       all_goals
        simp only [AF,hok,hk2,hlast,show (1 <= t.nodes.length /\ t.nodes.length <= 64) by omega,pmi,VVal.p.injEq,PV.bool.injEq,and_true,decide_true,bta]
        rw [Bool.eq_iff_iff]
        simp only [decide_eq_true_eq,bft,false_iff]
        omega
def zeroNd : Nd:=⟨0,0,⟨#[]⟩,0,0,0⟩
def Ao (ns : List Nd) (id : Int) : Option Nd:=ns.find? fun n=>decide (n.id = id)
def A6 (t : Tr) (id : Int) : Option Nd:=if AF t then Ao t.nodes id else none
attribute [go_sem] Nd.vv
theorem KR {p : Nd -> Bool} {l : List Nd} {k : Nat} (h : ∀ (i : Nat) (n : Nd),i < k -> l[i]? = some n -> p n = false) {m : Nd} (hm : l[k]? = some m) (hp : p m = true) : l.find? p = some m:=by
 rw [List.find?_eq_some_iff_getElem]
 refine ⟨hp,k,(lgs.1 hm).1,(lgs.1 hm).2,fun j hj=>?_⟩
 have hl : j < l.length:=Nat.lt_trans hj (lgs.1 hm).1
 simpa using h j l[j] hj (lgg hl)
theorem Y7 {p : Nd -> Bool} {l : List Nd} (h : ∀ (i : Nat) (n : Nd),i < l.length -> l[i]? = some n -> p n = false) : l.find? p = none:=by
 rw [List.find?_eq_none]
 intro x hx
 obtain ⟨i,hi⟩:=lgm hx
 simpa using h i x (lgs.1 hi).1 hi
theorem Ff {Q : Nat -> Nd -> Prop} {l : List Nd} {k : Nat} {m : Nd} (hm : l[k]? = some m) (h : ∀ (i : Nat) (n : Nd),i < k -> l[i]? = some n -> Q i n) (hk : Q k m) : ∀ (i : Nat) (n : Nd),i < k + 1 -> l[i]? = some n -> Q i n:=fun i n hi hn=>by
 rcases Nat.lt_or_ge i k with h0 | h0
 ·exact h i n h0 hn
 ·have : i = k:=by omega
  subst this
  rw [hm] at hn
  simp at hn
  subst hn
  exact hk
theorem RJ (t : Tr) (id : Int) (hl : t.nodes.length < 1000000) : V 129 [t.vv,.p (.int .i64 id)] [] = some (.tup [((A6 t id).getD zeroNd).vv,.p (.bool (A6 t id).isSome)],[]):=by
 refine Ag (vf:=vf129) rfl ?_
 have hc:=EV t hl
 cases hok : AF t with
 | false =>
  rw [hok] at hc
  simp -implicitDefEqProofs (disch:=omega) only [vf129,Ng,hc,go_sem]
  simp [A6,hok,zeroNd]
 | true =>
  rw [hok] at hc
  simp -implicitDefEqProofs (disch:=omega) only [vf129,Ng,hc,go_sem]
  refine Al t.nodes.length (fun k s=>(∀ (i : Nat) (n : Nd),i < k -> t.nodes[i]? = some n -> decide (n.id = id) = false) /\ s.pe 1 = .p (.int .i64 id) /\ s.pe 2 = .ptr (.slot 2 0) 0 0 /\ s.pe 4 = .ptr (.slot 4 0) 0 0 /\ s.pe 6 = .p (.int .i64 k) /\ s.h (.slot 2 0) = some (0,.box [.p (Au t.nodes),.p (.int .i64 t.next)]) /\ s.h (.slot 4 0) = some (0,.box (zeroNd.pv.cells.map .p))) ?_ ?_
  ·exact ⟨by omega,rfl,rfl,rfl,rfl,rfl,by simp -implicitDefEqProofs (disch:=omega) only [go_sem]; rfl⟩
  ·rintro k s hk ⟨hall,h1,h2,h4,h6,hh2,hh4⟩
   simp only [Nd.pv,zeroNd,PV.cells,lpc,lpn] at hh4
   simp -implicitDefEqProofs (disch:=omega) only [h2,h6,hh2,go_sem]
   refine Ah (fun hlt=>?_) (fun hge=>?_)
   ·have hm : t.nodes[k]? = some t.nodes[k]:=lgg hlt
    generalize t.nodes[k] = m at hm
    simp -implicitDefEqProofs (disch:=omega) only [h1,h2,h6,hh2,hm,go_sem]
    repeat' ((first | refine Bw ?_ ?_ | refine Bv ?_ ?_ | refine Bz ?_ ?_ | refine By ?_ ?_ | refine Bq ?_ ?_ | refine Bp ?_ ?_ | refine Bx ?_ ?_ | refine Br ?_ ?_ | refine Ah ?_ ?_ | refine BD ?_ ?_) <;> intro hb <;> simp -implicitDefEqProofs (disch:=omega) only [hb,h1,h2,h4,h6,hh2,hh4,hm,go_sem])
    ·have hf : A6 t id = some m:=by
      simp only [A6,hok,if_true,Ao]
      exact KR hall hm (by simpa using hb)
     simp [hf,hb]
    ·exact ⟨hlt,Ff hm hall (by simpa using ‹_›),by simp only [Int.natCast_add,Int.natCast_one],rfl⟩
   ·have hf : A6 t id = none:=by
     simp only [A6,hok,if_true,Ao]
     exact Y7 fun i n hi=>hall i n (by omega)
    simp -implicitDefEqProofs (disch:=omega) only [h4,hh4,hge,go_sem]
    simp [hf,zeroNd]
theorem CJ (t : Tr) (id : Int) (hl : t.nodes.length < 1000000) : V 77 [t.vv,.p (.int .i64 id)] [] = some (.p (.bool (A6 t id).isSome),[]):=by
 refine Ag (vf:=vf77) rfl ?_
 have hc:=RJ t id hl
 simp -implicitDefEqProofs only [vf77,TX,hc,go_sem]
def ancR (t : Tr) (id : Int) : List Int:=if (A6 t id).isSome then up t.nodes id else []
theorem MR (t : Tr) (id : Int) (hl : t.nodes.length < 1000000) : V 102 [t.vv,.p (.int .i64 id)] [] = some (.fresh 1 ((ancR t id).map (.int .i64)),[]):=by
 refine Ag (vf:=vf102) rfl ?_
 have hc:=CJ t id hl
 have hu:=TD t id hl
 cases hf : (A6 t id).isSome with
 | false =>
  rw [hf] at hc
  simp -implicitDefEqProofs only [vf102,Np,hc,go_sem]
  simp [ancR,hf]
 | true =>
  rw [hf] at hc
  simp -implicitDefEqProofs only [vf102,Np,hc,hu,go_sem]
  simp [ancR,hf]
theorem YD (t : Tr) (id : Int) (hl : t.nodes.length < 1000000) : V 78 [t.vv,.p (.int .i64 id)] [] = some (.p (.int .i64 ((ancR t id).length - 1)),[]):=by
 refine Ag (vf:=vf78) rfl ?_
 have hc:=MR t id hl
 have hlen : (ancR t id).length < 1000000:=by
  unfold ancR
  split
  ·have:=Jk t.nodes.reverse id
   simp only [List.length_reverse] at this
   unfold up
   omega
  .simp
 simp -implicitDefEqProofs (disch:=omega) only [vf78,TW,hc,go_sem]
def kids (t : Tr) (id : Int) : List Int:=if (A6 t id).isSome then (t.nodes.filter fun n=>decide (n.parent = id)).map (·.id) else []
theorem H0 {p : Nd -> Bool} {l : List Nd} {k : Nat} {m : Nd} (hm : l[k]? = some m) : (l.take (k + 1)).filter p = if p m then (l.take k).filter p ++ [m] else (l.take k).filter p:=by
 rw [List.take_add_one,hm]
 simp only [List.filter_append,Option.toList,lfl,List.filter_nil]
 split <;> simp
theorem Ii (t : Tr) (id : Int) (hl : t.nodes.length < 1000000) : V 80 [t.vv,.p (.int .i64 id)] [] = some (.fresh 1 ((kids t id).map (.int .i64)),[]):=by
 refine Ag (vf:=vf80) rfl ?_
 have hc:=CJ t id hl
 cases hf : (A6 t id).isSome with
 | false =>
  rw [hf] at hc
  simp -implicitDefEqProofs (disch:=omega) only [vf80,Nz,hc,go_sem]
  simp [kids,hf]
 | true =>
  rw [hf] at hc
  simp -implicitDefEqProofs (disch:=omega) only [vf80,Nz,hc,go_sem]
  refine Al t.nodes.length (fun k s=>∃ (acc : List Int) (v : Nat),acc = ((t.nodes.take k).filter fun n=>decide (n.parent = id)).map (·.id) /\ acc.length <= k /\ s.pe 1 = .p (.int .i64 id) /\ s.pe 2 = .ptr (.slot 2 0) 0 0 /\ s.pe 5 = .own (.slot 5 0) v 0 acc.length /\ s.pe 6 = .p (.int .i64 k) /\ s.h (.slot 2 0) = some (0,.box [.p (Au t.nodes),.p (.int .i64 t.next)]) /\ s.h (.slot 5 0) = some (v,.arr 1 (acc.map (.int .i64)))) ?_ ?_
  ·exact ⟨[],0,rfl,by simp,rfl,rfl,rfl,rfl,rfl,rfl⟩
  ·rintro k s hk ⟨acc,v,hacc,hlen,h1,h2,h5,h6,hh2,hh5⟩
   simp -implicitDefEqProofs (disch:=omega) only [h2,h6,hh2,go_sem]
   refine Ah (fun hlt=>?_) (fun hge=>?_)
   ·have hm : t.nodes[k]? = some t.nodes[k]:=lgg hlt
    generalize t.nodes[k] = m at hm
    simp -implicitDefEqProofs (disch:=omega) only [h1,h2,h6,hh2,hm,go_sem]
    repeat' ((first | refine Bw ?_ ?_ | refine Bv ?_ ?_ | refine Bz ?_ ?_ | refine By ?_ ?_ | refine Bq ?_ ?_ | refine Bp ?_ ?_ | refine Bx ?_ ?_ | refine Br ?_ ?_ | refine Ah ?_ ?_ | refine BD ?_ ?_) <;> intro hb <;> simp -implicitDefEqProofs (disch:=omega) only [hb,h1,h2,h5,h6,hh2,hh5,hm,go_sem])
    ·refine ⟨hlt,acc ++ [m.id],v + 1,?_,by simp; omega,by simp,by simp,by simp⟩
     rw [H0 hm,hacc]
     simp [hb]
    ·refine ⟨hlt,acc,v,?_,by omega,by simp,by simp,by simp⟩
     rw [H0 hm,hacc]
     simp [hb]
   ·rw [ltl (by omega)] at hacc
    simp -implicitDefEqProofs (disch:=omega) only [h5,hh5,hge,go_sem]
    simp [kids,hf,hacc]
theorem ZY (t : Tr) (hl : t.nodes.length < 1000000) : V 79 [t.vv] [] = some (t.fv,[]):=by
 refine Ag (vf:=vf79) rfl ?_
 simp -implicitDefEqProofs (disch:=omega) only [vf79,TV,go_sem]
def newT : Tr:=⟨[⟨1,0,⟨#[]⟩,0,0,0⟩],2⟩
theorem zbp : V 22 [] [] = some (newT.fv,[]):=by
 refine Ag (vf:=vf22) rfl ?_
 simp -implicitDefEqProofs only [vf22,Ul,go_sem]
 rfl
theorem Hv (L : List Int) (a : Nat) (n : Int) (hL : L.length < 4611686018427387904) (h1 : 1 <= n) (hn : n < 4611686018427387904) : V 25 [.ptr (.arg 0 0) 0 0,.p (.int .i64 n)] [A3 L a] = some (.p (.bool (decide (AC L a n = n - 1))),[A3 L (Ae L a n)]):=by
 refine Ag (vf:=vf25) rfl ?_
 have hc:=Ev L a n hL hn
 simp -implicitDefEqProofs (disch:=omega) only [vf25,Uj,hc,go_sem]
def names6 : List ByteArray:=[⟨#[97]⟩,⟨#[98]⟩,⟨#[99]⟩,⟨#[119,101,98]⟩,⟨#[100,98,45,49]⟩,⟨#[88,95,57]⟩]
def FO (L : List Int) (a : Nat) : ByteArray:=names6.getD (AC L a 6).toNat ⟨#[]⟩
theorem zbE (L : List Int) (a : Nat) (hL : L.length < 4611686018427387904) : V 24 [.ptr (.arg 0 0) 0 0] [A3 L a] = some (.p (.str (FO L a)),[A3 L (Ae L a 6)]):=by
 refine Ag (vf:=vf24) rfl ?_
 have hc:=Ev L a 6 hL (by omega)
 have h0:=EQ L a 6
 have h1:=EY L a (n:=6) (by omega)
 have hl : (AC L a 6).toNat < names6.length:=by simp [names6]; omega
 have hg : ([.str ⟨#[97]⟩,.str ⟨#[98]⟩,.str ⟨#[99]⟩,.str ⟨#[119,101,98]⟩,.str ⟨#[100,98,45,49]⟩,.str ⟨#[88,95,57]⟩] : List PV)[(AC L a 6).toNat]? = some (.str (FO L a)):=by
  show (names6.map PV.str)[(AC L a 6).toNat]? = _
  rw [List.getElem?_map,FO,List.getD_eq_getElem?_getD,lgg hl]
  rfl
 simp -implicitDefEqProofs (disch:=omega) only [vf24,Uk,hc,h0,hg,go_sem]
theorem Lh : ∀ (ns pre : List Nd),(∀ x ∈ pre,1 <= x.id) -> BA pre ns = true -> ∀ n ∈ ns,1 <= n.id
 | [],_,_,_,n,hn=>by cases hn
 | m :: ns,pre,hp,h,n,hn=>by
  simp only [BA,bat] at h
  have hm : 1 <= m.id:=by
   have h1:=h.1
   unfold B0 at h1
   simp only [bat] at h1
   cases hl : pre.getLast? with
   | none =>
    rw [hl] at h1
    simp only [decide_eq_true_eq] at h1
    omega
   | some l =>
    rw [hl] at h1
    simp only [bat,decide_eq_true_eq] at h1
    have:=hp l (List.mem_of_getLast? hl)
    omega
  rcases lmk.1 hn with rfl | hn
  ·exact hm
  ·refine Lh ns (pre ++ [m]) (fun x hx=>?_) h.2 n hn
   rcases lmp.1 hx with hx | hx
   .exact hp x hx
   .simp at hx; subst hx; exact hm
theorem Zw {t : Tr} (h : AF t = true) : 1 < t.next /\ t.next <= 2147483648 /\ 1 <= t.nodes.length /\ t.nodes.length <= 64:=by
 simp only [AF,bat,decide_eq_true_eq] at h
 obtain ⟨⟨⟨h1,h2⟩,_⟩,h3⟩:=h
 cases hl : t.nodes.getLast? with
 | none=>rw [hl] at h3; cases h3
 | some l =>
  rw [hl] at h3
  simp only [decide_eq_true_eq] at h3
  have:=Lh t.nodes [] (by simp) h2 l (List.mem_of_getLast? hl)
  omega
def Cc (t : Tr) (p : Int) (s : ByteArray) : Tr × Int × Int :=
 if (AF t && Cf s) = false then (⟨[],0⟩,0,1)
 else if (A6 t p).isSome = false then (⟨[],0⟩,0,4)
 else if (t.nodes.any fun n=>decide (n.parent = p /\ n.name = s)) = true then (⟨[],0⟩,0,5)
 else if (8 : Int) <= (ancR t p).length - 1 \/ 64 <= t.nodes.length \/ 2147483647 < t.next then (⟨[],0⟩,0,7)
 else (⟨t.nodes ++ [⟨t.next,p,s,0,0,0⟩],t.next + 1⟩,t.next,0)
theorem zbq (t : Tr) (p : Int) (s : ByteArray) (hl : t.nodes.length < 1000000) : V 23 [t.vv,.p (.int .i64 p),.p (.str s)] [] = some (.tup [(Cc t p s).1.fv,.p (.int .i64 (Cc t p s).2.1),.p (.int .i64 (Cc t p s).2.2)],[]):=by
  refine Ag (vf := vf23) rfl ?_
  have hc := EV t hl
  have hv := Qu s
  have hh := CJ t p hl
  have hd := YD t p hl
  have hcp := ZY t hl
  cases hok : AF t with
  | false =>
    rw [hok] at hc
    simp -implicitDefEqProofs (disch:=omega) only [vf23,IL,hc,go_sem]
    simp [Cc, hok]
  | true =>
    rw [hok] at hc
    cases hvv : Cf s with
    | false =>
      rw [hvv] at hv
      simp -implicitDefEqProofs (disch:=omega) only [vf23,IL,hc,hv,go_sem]
      simp [Cc, hok, hvv]
    | true =>
      rw [hvv] at hv
      cases hf : (A6 t p).isSome with
      | false =>
        rw [hf] at hh
        simp -implicitDefEqProofs (disch:=omega) only [vf23,IL,hc,hv,hh,go_sem]
        simp [Cc, hok, hvv, hf]
      | true =>
        rw [hf] at hh
        simp -implicitDefEqProofs (disch:=omega) only [vf23,IL,hc,hv,hh,go_sem]
        refine Al t.nodes.length (fun k st=>(t.nodes.take k).any (fun n=>decide (n.parent = p /\ n.name = s)) = false /\ st.pe 1 = .p (.int .i64 p) /\ st.pe 2 = .p (.str s) /\ st.pe 3 = .ptr (.slot 3 0) 0 0 /\ st.pe 6 = .ptr (.slot 6 0) 0 0 /\ st.pe 9 = .p (.int .i64 k) /\ st.h (.slot 3 0) = some (0,.box [.p (Au t.nodes),.p (.int .i64 t.next)]) /\ st.h (.slot 6 0) = some (0,.box [.own (.slot 6 1) 0 0 0,.p (.int .i64 0)]) /\ st.h (.slot 6 1) = some (0,.arr 6 [])) ?_ ?_
        · exact ⟨by simp,rfl,rfl,rfl,rfl,rfl,rfl,rfl,rfl⟩
        · rintro k st hk ⟨hno,h1,h2,h3,h6,h9,hh3,hh6,hh61⟩
          simp -implicitDefEqProofs (disch:=omega) only [h3,h9,hh3,go_sem]
          refine Ah (fun hlt=>?_) (fun hge=>?_)
          · have hm : t.nodes[k]? = some t.nodes[k]:=lgg hlt
            generalize t.nodes[k] = m at hm
            simp -implicitDefEqProofs (disch:=omega) only [h1,h3,h9,hh3,hm,go_sem]
            repeat' ((first | refine Bw ?_ ?_ | refine Bv ?_ ?_ | refine Bz ?_ ?_ | refine By ?_ ?_ | refine Bq ?_ ?_ | refine Bp ?_ ?_ | refine Bx ?_ ?_ | refine Br ?_ ?_ | refine Ah ?_ ?_ | refine BD ?_ ?_) <;> intro hb <;> simp -implicitDefEqProofs (disch:=omega) only [hb,h1,h2,h3,h6,h9,hh3,hh6,hh61,hm,go_sem])
            all_goals first
              | exact ⟨hlt,by rw [Hn hm,hno]; simp [*],by simp only [Int.natCast_add,Int.natCast_one]⟩
              | (have ha : (t.nodes.any fun n=>decide (n.parent = p /\ n.name = s)) = true:=by
                  rw [List.any_eq_true]
                  exact ⟨m,lmg hm,by simp [*]⟩
                 simp only [Cc,hok,hvv,hf,ha,bas,Bool.true_eq_false,if_false,if_true]
                 rfl)
          · have ha : (t.nodes.any fun n=>decide (n.parent = p /\ n.name = s)) = false:=by
              rw [ltl (by omega)] at hno
              exact hno
            by_cases hb1 : (8 : Int) <= (ancR t p).length - 1
            · simp -implicitDefEqProofs (disch:=omega) only [h1,h3,h6,hh3,hh6,hge,hd,hb1,go_sem]
              simp only [Cc,hok,hvv,hf,ha,hb1,true_or,bas,Bool.true_eq_false,bft,if_false,if_true]
              rfl
            · by_cases hb2 : (64 : Int) <= t.nodes.length
              · simp -implicitDefEqProofs (disch:=omega) only [h1,h3,h6,hh3,hh6,hge,hd,hb1,hb2,go_sem]
                simp only [Cc,hok,hvv,hf,ha,hb1,show 64 <= t.nodes.length by omega,true_or,or_true,bas,Bool.true_eq_false,bft,if_false,if_true]
                rfl
              · by_cases hb3 : 2147483647 < t.next
                · simp -implicitDefEqProofs (disch:=omega) only [h1,h3,h6,hh3,hh6,hge,hd,hb1,hb2,hb3,go_sem]
                  simp only [Cc,hok,hvv,hf,ha,hb1,hb3,or_true,bas,Bool.true_eq_false,bft,if_false,if_true]
                  rfl
                · have hnx:=Zw hok
                  simp -implicitDefEqProofs (disch:=omega) only [h1,h2,h3,h6,hh3,hh6,hge,hd,hb1,hb2,hb3,hcp,go_sem]
                  simp only [Cc,hok,hvv,hf,ha,hb1,hb3,show ¬ 64 <= t.nodes.length by omega,or_self,bas,Bool.true_eq_false,bft,if_false,lma,lpc,lpn,Nd.pv,Tr.fv]
def Ce (t : Tr) (id : Int) : Tr × Int :=
 if AF t = false then (⟨[],0⟩,1)
 else if (A6 t id).isSome = false then (⟨[],0⟩,4)
 else if id = 1 then (⟨[],0⟩,9)
 else if kids t id ≠ [] then (⟨[],0⟩,6)
 else (⟨t.nodes.filter fun n=>!decide (n.id = id),t.next⟩,0)
theorem Xs (t : Tr) (id : Int) (hl : t.nodes.length < 1000000) : V 26 [t.vv,.p (.int .i64 id)] [] = some (.tup [(Ce t id).1.fv,.p (.int .i64 (Ce t id).2)],[]):=by
 refine Ag (vf:=vf26) rfl ?_
 have hc:=EV t hl
 have hh:=CJ t id hl
 have hk:=Ii t id hl
 cases hok : AF t with
 | false =>
  rw [hok] at hc
  simp -implicitDefEqProofs (disch:=omega) only [vf26,HM,hc,go_sem]
  simp [Ce,hok]
 | true =>
  rw [hok] at hc
  cases hf : (A6 t id).isSome with
  | false =>
   rw [hf] at hh
   simp -implicitDefEqProofs (disch:=omega) only [vf26,HM,hc,hh,go_sem]
   simp [Ce,hok,hf]
  | true =>
   rw [hf] at hh
   by_cases h1 : id = 1
   ·subst h1
    simp -implicitDefEqProofs (disch:=omega) only [vf26,HM,hc,hh,go_sem]
    simp [Ce,hok,hf]
   ·by_cases h2 : (0 : Int) < (kids t id).length
    ·have h3 : kids t id ≠ []:=fun e=>by rw [e] at h2; simp at h2
     simp -implicitDefEqProofs (disch:=omega) only [vf26,HM,hc,hh,hk,h1,h2,go_sem]
     simp [Ce,hok,hf,h1,h3]
    ·have h3 : kids t id = []:=List.length_eq_zero_iff.1 (by omega)
     simp -implicitDefEqProofs (disch:=omega) only [vf26,HM,hc,hh,hk,h1,h2,go_sem]
     refine Al t.nodes.length (fun k s=>∃ (acc : List Nd) (v : Nat),acc = ((t.nodes.take k).filter fun n=>!decide (n.id = id)) /\ acc.length <= k /\ s.pe 1 = .p (.int .i64 id) /\ s.pe 2 = .ptr (.slot 2 0) 0 0 /\ s.pe 4 = .ptr (.slot 4 0) 0 0 /\ s.pe 6 = .ptr (.slot 6 0) 0 0 /\ s.pe 7 = .p (.int .i64 k) /\ s.h (.slot 2 0) = some (0,.box [.p (Au t.nodes),.p (.int .i64 t.next)]) /\ s.h (.slot 4 0) = some (0,.box [.own (.slot 4 1) 0 0 0,.p (.int .i64 0)]) /\
      s.h (.slot 6 0) = some (0,.box [.own (.slot 32 1) v 0 acc.length,.p (.int .i64 t.next)]) /\ s.h (.slot 32 1) = some (v,.arr 6 (acc.map Nd.pv))) ?_ ?_
     ·refine ⟨[],0,rfl,by simp,?_⟩
      simp -implicitDefEqProofs (disch:=omega) only [go_sem]
      rfl
     ·rintro k s hk' ⟨acc,v,hacc,hlen,p1,p2,p4,p6,p7,hh2,hh4,hh6,hh32⟩
      simp -implicitDefEqProofs (disch:=omega) only [p2,p7,hh2,go_sem]
      refine Ah (fun hlt=>?_) (fun hge=>?_)
      ·have hm : t.nodes[k]? = some t.nodes[k]:=lgg hlt
       generalize t.nodes[k] = m at hm
       simp -implicitDefEqProofs (disch:=omega) only [p1,p2,p7,hh2,hm,go_sem]
       repeat' ((first | refine Bw ?_ ?_ | refine Bv ?_ ?_ | refine Bz ?_ ?_ | refine By ?_ ?_ | refine Bq ?_ ?_ | refine Bp ?_ ?_ | refine Bx ?_ ?_ | refine Br ?_ ?_ | refine Ah ?_ ?_ | refine BD ?_ ?_) <;> intro hb <;> simp -implicitDefEqProofs (disch:=omega) only [hb,p1,p2,p4,p6,p7,hh2,hh4,hh6,hh32,hm,go_sem])
       ·refine ⟨hlt,acc ++ [m],v + 1,?_,by simp; omega,by simp,by simp,by simp [Nd.pv]⟩
        rw [H0 hm,hacc]
        simp [hb]
       ·refine ⟨hlt,acc,v,?_,by omega,by simp,by simp,by simp⟩
        rw [H0 hm,hacc]
        simp [hb]
      ·rw [ltl (by omega)] at hacc
       simp -implicitDefEqProofs (disch:=omega) only [p4,p6,hh4,hh6,hh32,hge,go_sem]
       simp [Ce,hok,hf,h1,h3,hacc]
theorem NW : ∀ (a pre b : List Nd),BA pre (a ++ b) = (BA pre a && BA (pre ++ a) b)
 | [],pre,b=>by simp [BA]
 | n :: a,pre,b=>by
  simp only [lca,BA]
  rw [NW a (pre ++ [n]) b]
  simp [Bool.and_assoc]
theorem Jr {n : Nd} (h : B0 [] n = true) : n.id = 1 /\ n.parent = 0 /\ n.name = ⟨#[]⟩ /\ n.kind = 0:=by
 simp only [B0,List.getLast?_nil,bat,decide_eq_true_eq] at h
 exact h.2
theorem G7 {pre : List Nd} {l n : Nd} (hl : pre.getLast? = some l) : B0 pre n = true ↔ ((n.kind = 0 \/ n.kind = 1) /\ 0 <= n.control /\ n.control <= 31 /\ 0 <= n.owner /\ n.owner <= 1048576) /\ l.id < n.id /\ Cf n.name = true /\ (∀ x ∈ pre,¬ (x.parent = n.parent /\ x.name = n.name)) /\ ∃ x ∈ pre,x.id = n.parent:=by
 simp only [B0,hl,bat,decide_eq_true_eq,Bool.not_eq_true',List.any_eq_false,List.any_eq_true]
 constructor
 ·rintro ⟨⟨h1,h2⟩,⟨⟨h3,h4⟩,h5⟩,h6⟩
  exact ⟨⟨h1,h2⟩,h3,h4,h5,h6⟩
 ·rintro ⟨⟨h1,h2⟩,h3,h4,h5,h6⟩
  exact ⟨⟨h1,h2⟩,⟨⟨h3,h4⟩,h5⟩,h6⟩
theorem Ki : ∀ (ns pre : List Nd),BA pre ns = true -> (∀ (l : Nd),pre.getLast? = some l -> ∀ x ∈ pre,x.id <= l.id) ->
  (∀ x ∈ pre,∀ n ∈ ns,x.id < n.id) /\ ns.Pairwise fun a b=>a.id < b.id
 | [],_,_,_=>⟨fun _ _ _ h=>(by cases h),List.Pairwise.nil⟩
 | m :: ns,pre,h,hp=>by
  simp only [BA,bat] at h
  have hm : ∀ x ∈ pre,x.id < m.id:=fun x hx=>by
   cases hl : pre.getLast? with
   | none=>rw [List.getLast?_eq_none_iff] at hl; rw [hl] at hx; cases hx
   | some l =>
    have:=((G7 hl).1 h.1).2.1
    have:=hp l hl x hx
    omega
  obtain ⟨h1,h2⟩:=Ki ns (pre ++ [m]) h.2 (fun l hl x hx=>by
   simp at hl
   subst hl
   rcases lmp.1 hx with hx | hx
   .exact Int.le_of_lt (hm x hx)
   .simp at hx; subst hx; exact Int.le_refl _)
  refine ⟨fun x hx n hn=>?_,lpw.2 ⟨fun n hn=>h1 m (by simp) n hn,h2⟩⟩
  rcases lmk.1 hn with rfl | hn
  .exact hm x hx
  .exact h1 x (by simp [hx]) n hn
structure TreeOk (t : Tr) : Prop where
 len : 1 <= t.nodes.length /\ t.nodes.length <= 64
 nodes : BA [] t.nodes = true
 depth : ∀ n ∈ t.nodes,(up t.nodes n.id).length <= 9
 next : ∃ l,t.nodes.getLast? = some l /\ l.id < t.next /\ t.next <= 2147483648
theorem A5 (t : Tr) : AF t = true ↔ TreeOk t:=by
 simp only [AF,bat,decide_eq_true_eq,List.all_eq_true]
 constructor
 ·rintro ⟨⟨⟨h1,h2⟩,h3⟩,h4⟩
  cases hl : t.nodes.getLast? with
  | none=>rw [hl] at h4; cases h4
  | some l =>
   rw [hl] at h4
   simp only [decide_eq_true_eq] at h4
   exact ⟨h1,h2,h3,l,hl,h4⟩
 ·rintro ⟨h1,h2,h3,l,hl,h4⟩
  refine ⟨⟨⟨h1,h2⟩,h3⟩,?_⟩
  rw [hl]
  simpa using h4
theorem TreeOk.inc {t : Tr} (h : TreeOk t) : t.nodes.Pairwise fun a b=>a.id < b.id:=(Ki t.nodes [] h.nodes (fun _ h=>by simp at h)).2
theorem TreeOk.lt_next {t : Tr} (h : TreeOk t) : ∀ n ∈ t.nodes,n.id < t.next:=by
 obtain ⟨l,hl,h1,_⟩:=h.next
 intro n hn
 obtain ⟨i,hi⟩:=lgm hn
 have hlt:=(lgs.1 hi).1
 rw [List.getLast?_eq_getElem?] at hl
 have hlt2:=(lgs.1 hl).1
 have hinc:=List.pairwise_iff_getElem.1 h.inc
 rcases Nat.lt_or_ge i (t.nodes.length - 1) with h2 | h2
 ·have:=hinc i (t.nodes.length - 1) hlt hlt2 h2
  rw [(lgs.1 hi).2,(lgs.1 hl).2] at this
  omega
 ·have : i = t.nodes.length - 1:=by omega
  rw [this,hl] at hi
  simp at hi
  rw [<- hi]
  exact h1
theorem TreeOk.root {t : Tr} (h : TreeOk t) : ∃ r ns,t.nodes = r :: ns /\ r.id = 1 /\ r.parent = 0:=by
 cases hn : t.nodes with
 | nil=>have:=h.len.1; rw [hn] at this; simp at this
 | cons r ns =>
  have:=h.nodes
  rw [hn] at this
  simp only [BA,bat] at this
  have:=Jr this.1
  exact ⟨r,ns,rfl,this.1,this.2.1⟩
theorem Sz : TreeOk newT:=by
 refine ⟨by simp [newT],by decide,by decide,⟨1,0,⟨#[]⟩,0,0,0⟩,rfl,by decide,by decide⟩
theorem Cu {ns : List Nd} {id : Int} (h : (Ao ns id).isSome = true) : ∃ n ∈ ns,n.id = id:=by
 unfold Ao at h
 rw [List.find?_isSome] at h
 obtain ⟨n,hn,h⟩:=h
 exact ⟨n,hn,by simpa using h⟩
theorem ST {t : Tr} {p : Int} {s : ByteArray} (h0 : (Cc t p s).2.2 = 0) : TreeOk t /\ TreeOk (Cc t p s).1 /\ (Cc t p s).1 = ⟨t.nodes ++ [⟨t.next,p,s,0,0,0⟩],t.next + 1⟩:=by
 unfold Cc at h0 ⊢
 split at h0 <;> try (simp at h0; done)
 rename_i h1
 split at h0 <;> try (simp at h0; done)
 rename_i h2
 split at h0 <;> try (simp at h0; done)
 rename_i h3
 split at h0 <;> try (simp at h0; done)
 rename_i h4
 rw [if_neg h1,if_neg h2,if_neg h3,if_neg h4]
 simp only [Bool.not_eq_false,bat] at h1
 simp only [Bool.not_eq_false] at h2
 have hok:=(A5 t).1 h1.1
 refine ⟨hok,?_,rfl⟩
 have hf : (Ao t.nodes p).isSome = true:=by
  unfold A6 at h2
  rw [if_pos h1.1] at h2
  exact h2
 obtain ⟨l,hl,hl1,hl2⟩:=hok.next
 have hlt:=hok.lt_next
 have hup : ∀ id,id ≠ t.next -> up (t.nodes ++ [⟨t.next,p,s,0,0,0⟩]) id = up t.nodes id:=fun id hid=>by
  unfold up
  rw [List.reverse_append]
  simp only [List.reverse_cons,List.reverse_nil,lna,lca,upR]
  rw [if_neg (Ne.symm hid)]
 refine ⟨by simp; omega,?_,fun n hn=>?_,⟨⟨t.next,p,s,0,0,0⟩,by simp,by simp; omega,by simp; omega⟩⟩
 ·rw [NW,hok.nodes]
  simp only [lna,BA,bau,bta]
  rw [G7 hl]
  refine ⟨by simp,hl1,h1.2,fun x hx hd=>?_,Cu hf⟩
  apply h3
  rw [List.any_eq_true]
  exact ⟨x,hx,by simpa using hd⟩
 ·simp only [lmp,List.mem_singleton] at hn
  rcases hn with hn | rfl
  ·rw [hup n.id (by have:=hlt n hn; omega)]
   exact hok.depth n hn
  ·have ha : ancR t p = up t.nodes p:=by unfold ancR; rw [if_pos h2]
   rw [ha] at h4
   have : up (t.nodes ++ [⟨t.next,p,s,0,0,0⟩]) t.next = t.next :: up t.nodes p:=by
    unfold up
    rw [List.reverse_append]
    simp only [List.reverse_cons,List.reverse_nil,lna,lca,upR,if_true]
   simp only
   rw [this]
   simp only [llc]
   omega
theorem Jl {q : Int} : ∀ (ns : List Nd) (id : Int),id ≠ q -> (∀ n ∈ ns,n.parent ≠ q) -> upR (ns.filter fun n=>!decide (n.id = q)) id = upR ns id
 | [],_,_,_=>rfl
 | n :: ns,id,hid,hp=>by
  have hp' : ∀ m ∈ ns,m.parent ≠ q:=fun m hm=>hp m (lmc _ hm)
  by_cases hq : n.id = q
  ·have : n.id ≠ id:=fun e=>hid (e ▸ hq)
   rw [List.filter_cons_of_neg (by simp [hq]),upR,if_neg this,Jl ns id hid hp']
  ·rw [List.filter_cons_of_pos (by simp [hq]),upR,upR]
   split
   .rw [Jl ns n.parent (hp n (lms ..)) hp']
   .rw [Jl ns id hid hp']
theorem KP {q : Int} (hq1 : q ≠ 1) : ∀ (ns pre : List Nd),BA pre ns = true -> (∀ n ∈ ns,n.parent ≠ q) -> (∀ (l : Nd),pre.getLast? = some l -> ∀ x ∈ pre,x.id <= l.id) -> (pre.filter (fun n=>!decide (n.id = q)) = [] -> pre = []) ->
  BA (pre.filter fun n=>!decide (n.id = q)) (ns.filter fun n=>!decide (n.id = q)) = true
 | [],_,_,_,_,_=>by simp [BA]
 | n :: ns,pre,h,hp,hlast,hne=>by
  simp only [BA,bat] at h
  have hinc:=Ki (n :: ns) pre (by simp only [BA,bat]; exact h) hlast
  have hp' : ∀ m ∈ ns,m.parent ≠ q:=fun m hm=>hp m (lmc _ hm)
  have hlast' : ∀ (l : Nd),(pre ++ [n]).getLast? = some l -> ∀ x ∈ pre ++ [n],x.id <= l.id:=fun l hl x hx=>by
   simp at hl
   subst hl
   rcases lmp.1 hx with hx | hx
   ·exact Int.le_of_lt (hinc.1 x hx n (by simp))
   ·simp at hx; subst hx; exact Int.le_refl _
  by_cases hq : n.id = q
  ·have ih:=KP hq1 ns (pre ++ [n]) h.2 hp' hlast' (fun e=>by
    rw [List.filter_append,List.filter_cons_of_neg (by simp [hq]),List.filter_nil,lan] at e
    have:=hne e
    subst this
    exact absurd ((Jr h.1).1.symm.trans hq) (Ne.symm hq1))
   rw [List.filter_append,List.filter_cons_of_neg (by simp [hq]),List.filter_nil,lan] at ih
   rw [List.filter_cons_of_neg (by simp [hq])]
   exact ih
  ·have ih:=KP hq1 ns (pre ++ [n]) h.2 hp' hlast' (fun e=>by
    rw [List.filter_append,List.filter_cons_of_pos (by simp [hq])] at e
    simp at e)
   rw [List.filter_append,List.filter_cons_of_pos (by simp [hq]),List.filter_nil] at ih
   rw [List.filter_cons_of_pos (by simp [hq])]
   simp only [BA,bat]
   refine ⟨?_,ih⟩
   cases hl : pre.getLast? with
   | none =>
    rw [List.getLast?_eq_none_iff] at hl
    subst hl
    simpa using h.1
   | some l =>
    obtain ⟨b1,b2,b3,b4,x,hx,b5⟩:=(G7 hl).1 h.1
    have hin : x ∈ pre.filter fun n=>!decide (n.id = q):=by
     rw [List.mem_filter]
     exact ⟨hx,by simpa using (fun e=>hp n (by simp) (b5.symm.trans e))⟩
    cases hl2 : (pre.filter fun n=>!decide (n.id = q)).getLast? with
    | none =>
     rw [List.getLast?_eq_none_iff] at hl2
     rw [hl2] at hin
     cases hin
    | some l2 =>
     have hl2m:=List.mem_of_getLast? hl2
     rw [List.mem_filter] at hl2m
     rw [G7 hl2]
     exact ⟨b1,hinc.1 l2 hl2m.1 n (by simp),b3,fun y hy=>b4 y (List.mem_filter.1 hy).1,x,hin,b5⟩
theorem Xy {t : Tr} {q : Int} (h0 : (Ce t q).2 = 0) : TreeOk t /\ TreeOk (Ce t q).1 /\ (Ce t q).1 = ⟨t.nodes.filter fun n=>!decide (n.id = q),t.next⟩:=by
 unfold Ce at h0 ⊢
 split at h0 <;> try (simp at h0; done)
 rename_i h1
 split at h0 <;> try (simp at h0; done)
 rename_i h2
 split at h0 <;> try (simp at h0; done)
 rename_i h3
 split at h0 <;> try (simp at h0; done)
 rename_i h4
 rw [if_neg h1,if_neg h2,if_neg h3,if_neg h4]
 simp only [Bool.not_eq_false] at h1 h2
 have hok:=(A5 t).1 h1
 have hpar : ∀ n ∈ t.nodes,n.parent ≠ q:=fun n hn e=>by
  apply h4
  unfold kids
  rw [if_pos h2]
  intro e2
  have : n ∈ t.nodes.filter fun n=>decide (n.parent = q):=by
   rw [List.mem_filter]
   exact ⟨hn,by simpa using e⟩
  have:=List.mem_map_of_mem (f:=(·.id)) this
  rw [e2] at this
  cases this
 refine ⟨hok,?_,rfl⟩
 obtain ⟨r,ns,hr,hr1,_⟩:=hok.root
 have hrin : r ∈ t.nodes.filter fun n=>!decide (n.id = q):=by
  rw [List.mem_filter,hr]
  exact ⟨by simp,by simp; intro e; exact h3 (e.symm.trans hr1)⟩
 have hnodes:=KP h3 t.nodes [] hok.nodes hpar (fun _ h=>by simp at h) (fun _=>rfl)
 refine ⟨⟨?_,?_⟩,by simpa using hnodes,fun n hn=>?_,?_⟩
 ·exact List.length_pos_of_mem hrin
 ·exact Nat.le_trans (List.length_filter_le _ _) hok.len.2
 ·rw [List.mem_filter] at hn
  have hid : n.id ≠ q:=by simpa using hn.2
  have : up (t.nodes.filter fun n=>!decide (n.id = q)) n.id = up t.nodes n.id:=by
   unfold up
   rw [<- List.filter_reverse]
   exact Jl _ _ hid fun m hm=>hpar m (by simpa using hm)
  simp only
  rw [this]
  exact hok.depth n hn.1
 ·cases hl : (t.nodes.filter fun n=>!decide (n.id = q)).getLast? with
  | none =>
   rw [List.getLast?_eq_none_iff] at hl
   rw [hl] at hrin
   cases hrin
  | some l =>
   have hm:=(List.mem_filter.1 (List.mem_of_getLast? hl)).1
   obtain ⟨_,_,_,h5⟩:=hok.next
   exact ⟨l,rfl,hok.lt_next l hm,h5⟩
def Fu (L : List Int) (a : Nat) (t : Tr) : Tr × Nat :=
 let a1:=Ae L a t.nodes.length
 let p:=((t.nodes[(AC L a t.nodes.length).toNat]?).map (·.id)).getD 0
 let r:=Cc t p (FO L a1)
 let a2:=Ae L a1 6
 let t1:=if r.2.2 = 0 then r.1 else t
 let a3:=Ae L a2 6
 if AC L a2 6 = 5 then
  let q:=((t1.nodes[(AC L a3 t1.nodes.length).toNat]?).map (·.id)).getD 0
  let u:=Ce t1 q
  (if u.2 = 0 then u.1 else t1,Ae L a3 t1.nodes.length)
 else (t1,a3)
def Hi (L : List Int) : Nat -> Nat -> Tr -> Tr × Nat
 | 0,a,t=>(t,a)
 | k + 1,a,t=>Hi L k (Fu L a t).2 (Fu L a t).1
def FV (L : List Int) (a : Nat) (n : Nat) : Tr × Nat:=Hi L (AC L a (n + 1)).toNat (Ae L a (n + 1)) newT
theorem OG (L : List Int) (a : Nat) {t : Tr} (h : TreeOk t) : TreeOk (Fu L a t).1:=by
 have h1 : ∀ p s,TreeOk (if (Cc t p s).2.2 = 0 then (Cc t p s).1 else t):=fun p s=>by
  split
  ·exact (ST (by assumption)).2.1
  ·exact h
 unfold Fu
 simp only
 split
 ·have h2 : ∀ (u : Tr) (q : Int),TreeOk u -> TreeOk (if (Ce u q).2 = 0 then (Ce u q).1 else u):=fun u q hu=>by
   split
   .exact (Xy (by assumption)).2.1
   .exact hu
  exact h2 _ _ (h1 _ _)
 .exact h1 _ _
theorem OH (L : List Int) : ∀ (k a : Nat) {t : Tr},TreeOk t -> TreeOk (Hi L k a t).1
 | 0,_,_,h=>h
 | k + 1,a,_,h=>OH L k _ (OG L a h)
theorem zaW (L : List Int) (a n : Nat) : TreeOk (FV L a n).1:=OH L _ _ Sz
theorem zbg (L : List Int) (a n : Nat) (hL : L.length < 4611686018427387904) (hn : n < 1000) : V 8 [.ptr (.arg 0 0) 0 0,.p (.int .i64 n)] [A3 L a] = some ((FV L a n).1.vv,[A3 L (FV L a n).2]):=by
 refine Ag (vf:=vf8) rfl ?_
 have hnx:=Ev L a ((n : Int) + 1) hL (by omega)
 have hn0:=EQ L a ((n : Int) + 1)
 have hn1:=EY L a (n:=(n : Int) + 1) (by omega)
 simp -implicitDefEqProofs (disch:=omega) only [vf8,vb8,zbp,hnx,go_sem]
 refine za8 (σ:=Nat × Nat × Tr) (fun x s=>TreeOk x.2.2 /\ x.1 < 1000 /\ Hi L x.1 x.2.1 x.2.2 = FV L a n /\ s.pe 0 = .ptr (.arg 0 0) 0 0 /\ s.pe 4 = .ptr (.slot 4 0) 0 0 /\ s.pe 5 = .ptr (.slot 5 0) 0 0 /\ s.pe 6 = .p (.int .i64 x.1) /\ s.h (.arg 0 0) = some (0,A3 L x.2.1) /\ s.h (.slot 4 0) = some (0,.box [.own (.slot 4 1) 0 0 0,.p (.int .i64 0)]) /\
  ∃ X, s.h (.slot 5 0) = some (0, .box [X, .p (.int .i64 x.2.2.next)]) /\ fz0 [8, 11, 13, 37, 58] s.h X = .p (Au x.2.2.nodes)) (fun x=>x.1) ((AC L a (n + 1)).toNat, Ae L a (n + 1), newT) ?_ ?_
 ·refine ⟨Sz,by omega,rfl,?_⟩
  simp -implicitDefEqProofs (disch:=omega) only [Int.toNat_of_nonneg hn0,go_sem]
  refine ⟨_,rfl,?_⟩
  simp -implicitDefEqProofs (disch:=omega) only [go_sem]
 ·rintro ⟨k,b,t⟩ s ⟨hok,hk,htl,h0,h4,h5,h6,hh0,hh4,X,hh5,hX⟩
  simp only at hok hk htl h6 hh0 hh5 hX
  simp -implicitDefEqProofs (disch:=omega) only [h6,go_sem]
  refine Ah (fun hgt=>?_) (fun hle=>?_)
  ·obtain ⟨k',rfl⟩ : ∃ k',k = k' + 1:=⟨k - 1,by omega⟩
   have hlen:=hok.len
   have c1:=Ev L b t.nodes.length hL (by omega)
   have c2:=EQ L b t.nodes.length
   have c3:=EY L b (n:=t.nodes.length) (by omega)
   have hm : t.nodes[(AC L b t.nodes.length).toNat]? = some t.nodes[(AC L b t.nodes.length).toNat]:=lgg (by omega)
   generalize t.nodes[(AC L b t.nodes.length).toNat]'(by omega) = m at hm
   have c4:=zbE L (Ae L b t.nodes.length) hL
   have c5:=zbq t m.id (FO L (Ae L b t.nodes.length)) (by omega)
   have c6 : V 25 [.ptr (.arg 0 0) 0 0,.p (.int .i64 6)] [A3 L (Ae L (Ae L b t.nodes.length) 6)] = some (.p (.bool (decide (AC L (Ae L (Ae L b t.nodes.length) 6) 6 = 5))),[A3 L (Ae L (Ae L (Ae L b t.nodes.length) 6) 6)]):=Hv L _ 6 hL (by omega) (by omega)
   have hst : Hi L k' (Fu L b t).2 (Fu L b t).1 = FV L a n:=htl
   have hstok:=OG L b hok
   obtain ⟨t1,ht1,h1ok⟩ : ∃ t1,t1 = (if (Cc t m.id (FO L (Ae L b t.nodes.length))).2.2 = 0 then (Cc t m.id (FO L (Ae L b t.nodes.length))).1 else t) /\ TreeOk t1:=⟨_,rfl,by
    split
    ·exact (ST (by assumption)).2.1
    ·exact hok⟩
   have hlen1:=h1ok.len
   have d1:=Ev L (Ae L (Ae L (Ae L b t.nodes.length) 6) 6) t1.nodes.length hL (by omega)
   have d2:=EQ L (Ae L (Ae L (Ae L b t.nodes.length) 6) 6) t1.nodes.length
   have d3:=EY L (Ae L (Ae L (Ae L b t.nodes.length) 6) 6) (n:=t1.nodes.length) (by omega)
   have hq : t1.nodes[(AC L (Ae L (Ae L (Ae L b t.nodes.length) 6) 6) t1.nodes.length).toNat]? = some t1.nodes[(AC L (Ae L (Ae L (Ae L b t.nodes.length) 6) 6) t1.nodes.length).toNat]:=lgg (by omega)
   generalize t1.nodes[(AC L (Ae L (Ae L (Ae L b t.nodes.length) 6) 6) t1.nodes.length).toNat]'(by omega) = q at hq
   have d4:=Xs t1 q.id (by omega)
   have hstep : Fu L b t = if AC L (Ae L (Ae L b t.nodes.length) 6) 6 = 5 then (if (Ce t1 q.id).2 = 0 then (Ce t1 q.id).1 else t1,Ae L (Ae L (Ae L (Ae L b t.nodes.length) 6) 6) t1.nodes.length) else (t1,Ae L (Ae L (Ae L b t.nodes.length) 6) 6):=by
    simp only [Fu,hm,Option.map_some,Option.getD_some,<- ht1,hq]
   rw [hstep] at hst hstok
   by_cases he : (Cc t m.id (FO L (Ae L b t.nodes.length))).2.2 = 0
   ·rw [if_pos he] at ht1
    simp -implicitDefEqProofs (disch:=omega) only [h0,h5,hh0,hh5,hX,c1,c2,hm,c4,c5,c6,he,<- ht1,go_sem]
    refine Ah (fun h5b=>?_) (fun h5b=>?_)
    ·rw [if_pos h5b] at hst hstok
     by_cases hr : (Ce t1 q.id).2 = 0
     ·rw [if_pos hr] at hst hstok
      simp -implicitDefEqProofs (disch:=omega) only [h0,h4,h5,h6,hh4,d1,d2,hq,d4,hr,go_sem]
      refine ⟨(k',Ae L (Ae L (Ae L (Ae L b t.nodes.length) 6) 6) t1.nodes.length,(Ce t1 q.id).1),Nat.lt_succ_self _,hstok,by simp only; omega,hst,?_⟩
      simp -implicitDefEqProofs (disch:=omega) only [go_sem]
      refine ⟨by congr 2; omega,_,rfl,?_⟩
      simp -implicitDefEqProofs (disch:=omega) only [go_sem]
     ·rw [if_neg hr] at hst hstok
      simp -implicitDefEqProofs (disch:=omega) only [h0,h4,h5,h6,hh4,d1,d2,hq,d4,hr,go_sem]
      refine ⟨(k',Ae L (Ae L (Ae L (Ae L b t.nodes.length) 6) 6) t1.nodes.length,t1),Nat.lt_succ_self _,hstok,by simp only; omega,hst,?_⟩
      simp -implicitDefEqProofs (disch:=omega) only [go_sem]
      refine ⟨by congr 2; omega,_,rfl,?_⟩
      simp -implicitDefEqProofs (disch:=omega) only [go_sem]
    ·rw [if_neg h5b] at hst hstok
     simp -implicitDefEqProofs (disch:=omega) only [h0,h4,h5,h6,hh4,go_sem]
     refine ⟨(k',Ae L (Ae L (Ae L b t.nodes.length) 6) 6,t1),Nat.lt_succ_self _,hstok,by simp only; omega,hst,?_⟩
     simp -implicitDefEqProofs (disch:=omega) only [go_sem]
     refine ⟨by congr 2; omega,_,rfl,?_⟩
     simp -implicitDefEqProofs (disch:=omega) only [go_sem]
   ·rw [if_neg he] at ht1
    subst ht1
    simp -implicitDefEqProofs (disch:=omega) only [h0,h5,hh0,hh5,hX,c1,c2,hm,c4,c5,c6,he,go_sem]
    refine Ah (fun h5b=>?_) (fun h5b=>?_)
    ·rw [if_pos h5b] at hst hstok
     by_cases hr : (Ce t1 q.id).2 = 0
     ·rw [if_pos hr] at hst hstok
      simp -implicitDefEqProofs (disch:=omega) only [h0,h4,h5,h6,hh4,hh5,hX,d1,d2,hq,d4,hr,go_sem]
      refine ⟨(k',Ae L (Ae L (Ae L (Ae L b t1.nodes.length) 6) 6) t1.nodes.length,(Ce t1 q.id).1),Nat.lt_succ_self _,hstok,by simp only; omega,hst,?_⟩
      simp -implicitDefEqProofs (disch:=omega) only [go_sem]
      refine ⟨by congr 2; omega,_,rfl,?_⟩
      simp -implicitDefEqProofs (disch:=omega) only [go_sem]
     ·rw [if_neg hr] at hst hstok
      simp -implicitDefEqProofs (disch:=omega) only [h0,h4,h5,h6,hh4,hh5,hX,d1,d2,hq,d4,hr,go_sem]
      refine ⟨(k',Ae L (Ae L (Ae L (Ae L b t1.nodes.length) 6) 6) t1.nodes.length,t1),Nat.lt_succ_self _,hstok,by simp only; omega,hst,?_⟩
      simp -implicitDefEqProofs (disch:=omega) only [go_sem]
      refine ⟨by congr 2; omega,_,rfl,?_⟩
      simp -implicitDefEqProofs (disch:=omega) only [go_sem]
    ·rw [if_neg h5b] at hst hstok
     simp -implicitDefEqProofs (disch:=omega) only [h0,h4,h5,h6,hh4,hh5,hX,go_sem]
     refine ⟨(k',Ae L (Ae L (Ae L b t1.nodes.length) 6) 6,t1),Nat.lt_succ_self _,hstok,by simp only; omega,hst,?_⟩
     simp -implicitDefEqProofs (disch:=omega) only [go_sem]
     refine ⟨by congr 2; omega,_,rfl,?_⟩
     simp -implicitDefEqProofs (disch:=omega) only [go_sem]
  ·have hk0 : k = 0:=by omega
   subst hk0
   simp only [Hi] at htl
   simp -implicitDefEqProofs (disch:=omega) only [h4,h5,hh0,hh4,hh5,hX,go_sem]
   rw [<- htl]
def EH (ns : List Nd) (id : Int) : Int:=match ns.findIdx? (fun n=>decide (n.id = id)) with
 | some i=>i
 | none=>-1
theorem zcE (n : Nd) (id : Int) : V 153 [n.vv,.ptr (.arg 0 0) 0 0] [.box [.p (.int .i64 id)]] = some (.p (.bool (decide (n.id = id))),[.box [.p (.int .i64 id)]]):=by
 refine Ag (vf:=vf153) rfl ?_
 simp -implicitDefEqProofs only [vf153,Tb,go_sem]
theorem zaA {ns : List Nd} {id : Int} {k : Nat} {m : Nd} (hm : ns[k]? = some m) (h : ∀ (i : Nat) (n : Nd),i < k -> ns[i]? = some n -> ¬ n.id = id) (he : m.id = id) : EH ns id = k:=by
 unfold EH
 have : ns.findIdx? (fun n=>decide (n.id = id)) = some k:=by
  rw [List.findIdx?_eq_some_iff_getElem]
  refine ⟨(lgs.1 hm).1,by rw [(lgs.1 hm).2]; simpa using he,fun j hj=>?_⟩
  have hl : j < ns.length:=Nat.lt_trans hj (lgs.1 hm).1
  simpa using h j ns[j] hj (lgg hl)
 rw [this]
theorem XW {ns : List Nd} {id : Int} (h : ∀ n ∈ ns,¬ n.id = id) : EH ns id = -1:=by
 unfold EH
 have : ns.findIdx? (fun n=>decide (n.id = id)) = none:=by
  rw [List.findIdx?_eq_none_iff]
  intro x hx
  simpa using h x hx
 rw [this]
theorem Wd (ns : List Nd) (id : Int) (hl : ns.length < 1000000) : V 152 [.p (Au ns),.fn 153 [.ptr (.arg 0 0) 0 0]] [.box [.p (.int .i64 id)]] = some (.p (.int .i64 (EH ns id)),[.box [.p (.int .i64 id)]]):=by
 refine Ag (vf:=vf152) rfl ?_
 simp -implicitDefEqProofs (disch:=omega) only [vf152,Tc,go_sem]
 refine Al ns.length (fun k s=>(∀ (i : Nat) (n : Nd),i < k -> ns[i]? = some n -> ¬ n.id = id) /\ s.pe 0 = .p (Au ns) /\ s.pe 1 = .fn 153 [.ptr (.arg 0 0) 0 0] /\ s.pe 7 = .p (.int .i64 ns.length) /\ s.pe 8 = .p (.int .i64 k) /\ s.h (.arg 0 0) = some (0,.box [.p (.int .i64 id)])) ?_ ?_
 ·exact ⟨by omega,rfl,rfl,rfl,rfl,rfl⟩
 ·rintro k s hk ⟨hall,h0,h1,h7,h8,hh⟩
  simp -implicitDefEqProofs (disch:=omega) only [h7,h8,go_sem]
  refine Ah (fun hlt=>?_) (fun hge=>?_)
  ·have hm : ns[k]? = some ns[k]:=lgg hlt
   generalize ns[k] = m at hm
   have hc:=zcE m id
   unfold Nd.vv at hc
   simp -implicitDefEqProofs (disch:=omega) only [h0,h1,h8,hh,hm,hc,go_sem]
   repeat' ((first | refine Bw ?_ ?_ | refine Bv ?_ ?_ | refine Bz ?_ ?_ | refine By ?_ ?_ | refine Bq ?_ ?_ | refine Bp ?_ ?_ | refine Bx ?_ ?_ | refine Br ?_ ?_ | refine Ah ?_ ?_ | refine BD ?_ ?_) <;> intro hb <;> simp -implicitDefEqProofs (disch:=omega) only [hb,h0,h1,h7,h8,go_sem])
   .rw [zaA hm hall hb]
   .exact ⟨hlt,Ff hm hall hb,by simp only [Int.natCast_add,Int.natCast_one]⟩
  ·simp -implicitDefEqProofs (disch:=omega) only [hh,hge,go_sem]
   rw [XW]
   intro n hn
   obtain ⟨i,hi⟩:=lgm hn
   exact hall i n (by have:=(lgs.1 hi).1; omega) hi
theorem TI (t : Tr) (id : Int) (hl : t.nodes.length < 1000000) : V 133 [t.vv,.p (.int .i64 id)] [] = some (.p (.int .i64 (EH t.nodes id)),[]):=by
 refine Ag (vf:=vf133) rfl ?_
 have hc:=Wd t.nodes id hl
 simp -implicitDefEqProofs only [vf133,Tn,hc,go_sem]
theorem JS (ns : List Nd) (id : Int) : (EH ns id < 0 /\ Ao ns id = none) \/ ∃ (k : Nat) (m : Nd),EH ns id = k /\ ns[k]? = some m /\ Ao ns id = some m /\ m.id = id:=by
 unfold EH Ao
 cases h : ns.findIdx? (fun n=>decide (n.id = id)) with
 | none =>
  left
  rw [List.findIdx?_eq_none_iff] at h
  exact ⟨by show (-1 : Int) < 0; omega,List.find?_eq_none.2 fun x hx=>by simp [h x hx]⟩
 | some k =>
  right
  rw [List.findIdx?_eq_some_iff_getElem] at h
  obtain ⟨h1,h2,h3⟩:=h
  refine ⟨k,ns[k],rfl,lgg h1,KR (k:=k) (fun i n hi hn=>?_) (lgg h1) h2,by simpa using h2⟩
  have:=h3 i hi
  rw [<- (lgs.1 hn).2]
  simpa using this
theorem DR (t : Tr) (id : Int) (hl : t.nodes.length < 1000000) : V 87 [t.vv,.p (.int .i64 id)] [] = some (.tup [((Ao t.nodes id).getD zeroNd).vv,.p (.bool (Ao t.nodes id).isSome)],[]):=by
 refine Ag (vf:=vf87) rfl ?_
 have hc:=TI t id hl
 rcases JS t.nodes id with ⟨h1,h2⟩ | ⟨k,m,h1,h2,h3,h4⟩
 ·simp -implicitDefEqProofs only [vf87,Ny,hc,h1,go_sem]
  simp [h2,zeroNd]
 ·rw [h1] at hc
  have hk : ¬ (k : Int) < 0:=by omega
  simp -implicitDefEqProofs only [vf87,Ny,hc,hk,h2,go_sem]
  simp [h3]
def ancF (ns : List Nd) : Nat -> Int -> List Int
 | 0,_=>[]
 | k + 1,id=>match Ao ns id with
  | none=>[]
  | some n=>id :: ancF ns k n.parent
theorem Pd (ns : List Nd) : ∀ (k : Nat) (id : Int),(ancF ns k id).length <= k
 | 0,_=>lrf _
 | k + 1,id=>by
  unfold ancF
  split
  ·simp
  ·have:=Pd ns k
   simp
   exact this _
theorem M2 (t : Tr) (id : Int) (hl : t.nodes.length < 1000000) : V 134 [t.vv,.p (.int .i64 id)] [] = some (.fresh 1 ((ancF t.nodes t.nodes.length id).map (.int .i64)),[]):=by
 refine Ag (vf:=vf134) rfl ?_
 simp -implicitDefEqProofs (disch:=omega) only [vf134,Tm,go_sem]
 refine Al t.nodes.length (fun k s=>∃ (acc : List Int) (cur : Int) (v : Nat),ancF t.nodes t.nodes.length id = acc ++ ancF t.nodes (t.nodes.length - k) cur /\ acc.length <= k /\ s.pe 1 = .p (.int .i64 cur) /\ s.pe 2 = .ptr (.slot 2 0) 0 0 /\ s.pe 5 = .own (.slot 5 0) v 0 acc.length /\ s.pe 10 = .p (.int .i64 t.nodes.length) /\ s.pe 11 = .p (.int .i64 k) /\ s.h (.slot 2 0) = some (0,.box [.p (Au t.nodes),.p (.int .i64 t.next)]) /\ s.h (.slot 5 0) = some (v,.arr 1 (acc.map (.int .i64)))) ?_ ?_
 ·exact ⟨[],id,0,by simp,by simp,rfl,rfl,rfl,rfl,rfl,rfl,rfl⟩
 ·rintro k s hk ⟨acc,cur,v,hup,hlen,h1,h2,h5,h10,h11,hh2,hh5⟩
  simp -implicitDefEqProofs (disch:=omega) only [h10,h11,go_sem]
  refine Ah (fun hlt=>?_) (fun hge=>?_)
  ·have hc:=DR t cur hl
   obtain ⟨d,hd⟩ : ∃ d,t.nodes.length - k = d + 1:=⟨t.nodes.length - k - 1,by omega⟩
   have hd' : t.nodes.length - (k + 1) = d:=by omega
   rw [hd,ancF] at hup
   cases hf : Ao t.nodes cur with
   | none =>
    rw [hf] at hc hup
    simp only [Option.getD_none,Option.isSome_none,lan] at hc hup
    unfold Nd.vv zeroNd at hc
    simp -implicitDefEqProofs (disch:=omega) only [h1,h2,h5,hh2,hh5,hc,go_sem]
    rw [hup]
   | some m =>
    rw [hf] at hc hup
    simp only [Option.getD_some,Option.isSome_some] at hc hup
    unfold Nd.vv at hc
    simp -implicitDefEqProofs (disch:=omega) only [h1,h2,h5,h10,h11,hh2,hh5,hc,go_sem]
    exact ⟨hlt,acc ++ [cur],m.parent,v + 1,by rw [hup,hd']; simp,by simp; omega,rfl,by simp,by simp only [Int.natCast_add,Int.natCast_one],by simp⟩
  ·have hz : t.nodes.length - k = 0:=by omega
   rw [hz,ancF,lan] at hup
   simp -implicitDefEqProofs (disch:=omega) only [h5,hh5,hge,go_sem]
   rw [hup]
theorem Zv (n : Nd) : V 131 [n.vv] [] = some (.p (.bool (decide (n.id = 1 /\ n.parent = 0 /\ n.name = ⟨#[]⟩ /\ n.kind = 0))),[]):=by
 refine Ag (vf:=vf131) rfl ?_
 simp -implicitDefEqProofs only [vf131,Tp,go_sem]
 repeat' ((first | refine Bw ?_ ?_ | refine Bv ?_ ?_ | refine Bz ?_ ?_ | refine By ?_ ?_ | refine Bq ?_ ?_ | refine Bp ?_ ?_ | refine Bx ?_ ?_ | refine Br ?_ ?_ | refine Ah ?_ ?_ | refine BD ?_ ?_) <;> intro hb <;> simp -implicitDefEqProofs only [hb,go_sem])
 all_goals
  simp only [pmi,VVal.p.injEq,PV.bool.injEq,and_true]
  rw [Bool.eq_iff_iff]
  simp only [decide_eq_true_eq]
  simp [*]
def FU (pre : List Nd) (l n : Nd) : Bool:=decide (l.id < n.id) && Cf n.name && decide (n.kind = 0 \/ n.kind = 1) && !(pre.any fun x=>decide (x.parent = n.parent /\ x.name = n.name)) && pre.any fun x=>decide (x.id = n.parent)
theorem ZD (pre : List Nd) (l n : Nd) (hl : pre.getLast? = some l) (hlen : pre.length < 1000000) (hs : n.name.size < 9223372036854775808) : V 132 [.p (Au pre),n.vv] [] = some (.p (.bool (FU pre l n)),[]):=by
  refine Ag (vf:=vf132) rfl ?_
  have hpre : pre[((pre.length : Int) - 1).toNat]? = some l:=by
    rw [List.getLast?_eq_getElem?] at hl
    rw [show ((pre.length : Int) - 1).toNat = pre.length - 1 by omega]
    exact hl
  have hpos : 0 < pre.length:=by
    have := (List.getElem?_eq_some_iff.1 hpre).1
    omega
  have hp0 : 0 <= (pre.length : Int) - 1:=by omega
  have hv := YE n.name hs
  simp -implicitDefEqProofs (disch:=omega) only [vf132,To,hpre,hp0,go_sem]
  repeat' ((first | refine Bw ?_ ?_ | refine Bv ?_ ?_ | refine Bz ?_ ?_ | refine By ?_ ?_ | refine Bq ?_ ?_ | refine Bp ?_ ?_ | refine Bx ?_ ?_ | refine Br ?_ ?_ | refine Ah ?_ ?_ | refine BD ?_ ?_) <;> intro hb <;> simp -implicitDefEqProofs (disch:=omega) only [hb,hv,go_sem])
  all_goals first
    | (simp only [FU,pmi,VVal.p.injEq,PV.bool.injEq,and_true]
       rw [Bool.eq_iff_iff]
       simp only [bat,decide_eq_true_eq,bft,false_iff]
       try simp only [*]
       first | omega | (simp; done) | (simp; omega))
    | (have hvf : Cf n.name = false:=by simpa using ‹(!Cf n.name) = true›
       simp only [FU,hvf,Bool.and_false,bfa]
       done)
    | skip
  all_goals
    have hvt : Cf n.name = true:=by simpa using ‹(!Cf n.name) = false›
    refine Al pre.length (fun k s=>((pre.take k).any (fun x=>decide (x.parent = n.parent /\ x.name = n.name)) = false) /\ s.pe 3 = .ptr (.slot 3 0) 0 0 /\ s.pe 5 = .p (.bool ((pre.take k).any fun x=>decide (x.id = n.parent))) /\ s.pe 34 = .p (Au pre) /\ s.pe 35 = .p (.int .i64 pre.length) /\ s.pe 36 = .p (.int .i64 k) /\ s.h (.slot 3 0) = some (0,.box (n.pv.cells.map .p))) ?_ ?_
    · exact ⟨by simp,rfl,rfl,rfl,rfl,rfl,by simp -implicitDefEqProofs (disch:=omega) only [go_sem]; simp only [*]⟩
    · rintro k s hk ⟨hno,h3,h5,h34,h35,h36,hh3⟩
      simp only [Nd.pv,PV.cells,lpc,lpn] at hh3
      simp -implicitDefEqProofs (disch:=omega) only [h35,h36,go_sem]
      refine Ah (fun hki=>?_) (fun hge=>?_)
      · have hm : pre[k]? = some pre[k]:=lgg (by omega)
        generalize pre[k] = m at hm
        simp -implicitDefEqProofs (disch:=omega) only [h5,h34,h36,hm,hki,go_sem]
        repeat' ((first | refine Bw ?_ ?_ | refine Bv ?_ ?_ | refine Bz ?_ ?_ | refine By ?_ ?_ | refine Bq ?_ ?_ | refine Bp ?_ ?_ | refine Bx ?_ ?_ | refine Br ?_ ?_ | refine Ah ?_ ?_ | refine BD ?_ ?_) <;> intro hb <;> simp -implicitDefEqProofs (disch:=omega) only [hb,h3,h34,h35,h36,hh3,hki,go_sem])
        all_goals first
          | (have ha : (pre.any fun x=>decide (x.parent = n.parent /\ x.name = n.name)) = true:=by
              rw [List.any_eq_true]
              exact ⟨m,lmg hm,by simp [*]⟩
             simp only [FU,ha,Bool.not_true,Bool.and_false,bfa]
             done)
          | exact ⟨by rw [Hn hm,hno]; simp [*],by rw [Hn hm]; simp [*],by simp only [Int.natCast_add,Int.natCast_one]⟩
      · simp -implicitDefEqProofs (disch:=omega) only [h5,hge,go_sem]
        have hki : k = pre.length:=by omega
        subst hki
        rw [List.take_length] at hno ⊢
        simp only [FU,hno,pmi,VVal.p.injEq,PV.bool.injEq,and_true]
        rw [Bool.eq_iff_iff]
        simp only [bat,decide_eq_true_eq,bnf,and_true]
        exact ⟨fun h=>⟨⟨⟨by omega,hvt⟩,by omega⟩,h⟩,fun h=>h.2⟩
theorem Oy {pre : List Nd} {l n : Nd} (hl : pre.getLast? = some l) : B0 pre n = (decide (0 <= n.control /\ n.control <= 31 /\ 0 <= n.owner /\ n.owner <= 1048576) && FU pre l n):=by
 rw [Bool.eq_iff_iff]
 simp only [B0,hl,FU,bat,decide_eq_true_eq]
 constructor
 ·rintro ⟨⟨h1,h2⟩,⟨⟨h3,h4⟩,h5⟩,h6⟩
  exact ⟨h2,⟨⟨⟨h3,h4⟩,h1⟩,h5⟩,h6⟩
 ·rintro ⟨h2,⟨⟨⟨h3,h4⟩,h1⟩,h5⟩,h6⟩
  exact ⟨⟨h1,h2⟩,⟨⟨h3,h4⟩,h5⟩,h6⟩
theorem za5 {a : Int} (h0 : 0 <= a) (h1 : a < 9223372036854775808) : (IntKind.i64.wrap ((BitVec.ofInt IntKind.i64.bits a &&& ~~~ BitVec.ofInt IntKind.i64.bits 31).toNat : Int) = 0) = (a <= 31):=by
 have e64 : IntKind.i64.bits = 64:=rfl
 rw [eq_iff_iff]
 generalize hx : BitVec.ofInt IntKind.i64.bits a = x
 generalize hy : (x &&& ~~~ BitVec.ofInt IntKind.i64.bits 31) = y
 have hxn : x.toNat = a.toNat:=by
  rw [<- hx,BitVec.toNat_ofInt]
  rw [e64]
  omega
 have hbit : ∀ i,y.getLsbD i = (x.getLsbD i && decide (5 <= i)):=fun i=>by
  rw [<- hy,BitVec.getLsbD_and,BitVec.getLsbD_not]
  have h31 : (BitVec.ofInt IntKind.i64.bits 31).getLsbD i = decide (i < 5):=by
   rw [show BitVec.ofInt IntKind.i64.bits 31 = BitVec.ofNat IntKind.i64.bits 31 from rfl,BitVec.getLsbD_ofNat]
   rw [show (31 : Nat) = 2 ^ 5 - 1 from rfl,Nat.testBit_two_pow_sub_one,e64]
   rw [Bool.eq_iff_iff]
   simp
   omega
  rw [h31]
  by_cases hi : i < IntKind.i64.bits
  ·rw [Bool.eq_iff_iff]
   simp [hi]
  ·have : x.getLsbD i = false:=BitVec.getLsbD_of_ge x i (by omega)
   simp [this]
 have hyle : y.toNat <= x.toNat:=by
  rw [<- hy,BitVec.toNat_and]
  exact Nat.and_le_left
 have hw : IntKind.i64.wrap (y.toNat : Int) = y.toNat:=It (by omega) (by omega)
 rw [hw]
 constructor
 ·intro h
  have hy0 : y = 0#_:=BitVec.eq_of_toNat_eq (by simpa using h)
  have hlt : x.toNat < 2 ^ 5:=Nat.lt_pow_two_of_testBit _ fun i hi=>by
   have:=hbit i
   rw [hy0] at this
   simp only [BitVec.getLsbD_zero,decide_eq_true hi,bau] at this
   exact this.symm
  omega
 ·intro h
  have hlt : x.toNat < 2 ^ 5:=by omega
  have hy0 : y = 0#_:=BitVec.eq_of_getLsbD_eq fun i hi=>by
   rw [hbit i]
   by_cases h5 : 5 <= i
   ·have : x.getLsbD i = false:=by
     rw [BitVec.getLsbD]
     exact Nat.testBit_lt_two_pow (Nat.lt_of_lt_of_le hlt (Nat.pow_le_pow_right (by omega) h5))
    simp [this]
   .simp [h5]
  rw [hy0]
  simp
theorem SZ {a : Int} (h0 : 0 <= a) (h1 : a < 9223372036854775808) : (NP .i64 a 31 = 0) = (a <= 31):=za5 h0 h1
theorem NQ {id : Int} : ∀ (a b : List Nd),(∀ x ∈ a,x.id ≠ id) -> upR (a ++ b) id = upR b id
 | [],_,_=>rfl
 | x :: a,b,h=>by
  rw [lca,upR,if_neg (h x (lms ..)),NQ a b fun y hy=>h y (lmc _ hy)]
theorem Xh (pre : List Nd) (m : Nd) : up (pre ++ [m]) m.id = m.id :: up pre m.parent:=by
 unfold up
 rw [List.reverse_append]
 simp only [List.reverse_cons,List.reverse_nil,lna,lca,upR,if_true]
theorem Xg (pre : List Nd) (m : Nd) {id : Int} (h : m.id ≠ id) : up (pre ++ [m]) id = up pre id:=by
 unfold up
 rw [List.reverse_append]
 simp only [List.reverse_cons,List.reverse_nil,lna,lca,upR]
 rw [if_neg h]
theorem zbe {ns : List Nd} (hinc : ns.Pairwise fun a b=>a.id < b.id) {k : Nat} {n : Nd} (hn : n ∈ ns.take k) : up ns n.id = up (ns.take k) n.id:=by
 unfold up
 conv=>lhs; rw [<- List.take_append_drop k ns,List.reverse_append]
 refine NQ _ _ fun x hx=>?_
 rw [List.mem_reverse] at hx
 rw [<- List.take_append_drop k ns,List.pairwise_append] at hinc
 have:=hinc.2.2 n hn x hx
 omega
theorem KQ : ∀ (ks : List MKey) (vs : List PV) (k : MKey) (v : PV),AN (At ks vs k v).1 (At ks vs k v).2 k = some v
 | [],vs,k,v=>by cases vs <;> simp [At,AN]
 | x :: ks,[],k,v=>by simp [At,AN]
 | x :: ks,y :: vs,k,v=>by
  unfold At
  split
  ·rename_i h
   simp [AN,h]
  ·rename_i h
   simp only [AN,if_neg h]
   exact KQ ks vs k v
theorem NS : ∀ (ks : List MKey) (vs : List PV) (k k' : MKey) (v : PV),ks.length = vs.length -> k' ≠ k -> AN (At ks vs k v).1 (At ks vs k v).2 k' = AN ks vs k'
 | [],[],k,k',v,_,h=>by simp [At,AN,h]
 | [],_ :: _,k,k',v,hl,h=>by simp at hl
 | x :: ks,[],k,k',v,hl,h=>by simp at hl
 | x :: ks,y :: vs,k,k',v,hl,h=>by
  unfold At
  split
  ·rename_i e
   subst e
   simp [AN,h]
  ·simp only [AN]
   split
   .rfl
   .exact NS ks vs k k' v (by simpa using hl) h
theorem My : ∀ (ks : List MKey) (vs : List PV) (k : MKey) (v : PV),ks.length = vs.length -> (At ks vs k v).1.length = (At ks vs k v).2.length
 | [],[],_,_,_=>rfl
 | [],_ :: _,_,_,h=>by simp at h
 | _ :: _,[],_,_,h=>by simp at h
 | x :: ks,y :: vs,k,v,h=>by
  unfold At
  split
  ·simpa using h
  ·simp only [llc]
   rw [My ks vs k v (by simpa using h)]
structure Nd.Fits (n : Nd) : Prop where
 name : n.name.size < 9223372036854775808
 control : n.control < 9223372036854775808
def Tr.Fits (t : Tr) : Prop:=∀ n ∈ t.nodes,n.Fits
theorem KL {t : Tr} {k : Nat} {m : Nd} (hm : t.nodes[k]? = some m) (h : B0 (t.nodes.take k) m = false) : AF t = false:=by
 rw [Bool.eq_false_iff]
 intro h0
 have:=(Fg _ _).1 ((A5 t).1 h0).nodes k m hm
 rw [lna,h] at this
 cases this
theorem Uz {t : Tr} {k : Nat} {m : Nd} (hm : t.nodes[k]? = some m) (h : 9 < (up (t.nodes.take (k + 1)) m.id).length) : AF t = false:=by
 rw [Bool.eq_false_iff]
 intro h0
 have hok:=(A5 t).1 h0
 have hin : m ∈ t.nodes.take (k + 1):=by
  have : (t.nodes.take (k + 1))[k]? = some m:=by rw [List.getElem?_take,if_pos (by omega)]; exact hm
  exact lmg this
 have:=hok.depth m (lmg hm)
 rw [zbe hok.inc hin] at this
 omega
theorem XM {pre : List Nd} {n : Nd} (h : ¬ (0 <= n.control /\ n.control <= 31 /\ 0 <= n.owner /\ n.owner <= 1048576)) : B0 pre n = false:=by
 simp only [B0,decide_eq_false h,Bool.and_false,bfa]
theorem Gi (t : Tr) (hf : t.Fits) (hl : t.nodes.length < 1000000) : V 86 [t.vv] [] = some (.p (.bool (AF t)),[]):=by
 refine Ag (vf:=vf86) rfl ?_
 by_cases h1 : (t.nodes.length : Int) < 1
 ·simp -implicitDefEqProofs (disch:=omega) only [vf86,IH,h1,go_sem]
  simp [AF,show ¬ 1 <= t.nodes.length by omega]
 by_cases h2 : 64 < (t.nodes.length : Int)
 ·simp -implicitDefEqProofs (disch:=omega) only [vf86,IH,h1,h2,go_sem]
  simp [AF,show ¬ t.nodes.length <= 64 by omega]
 have hz : (0 : Int).toNat = 0:=rfl
 have hr0 : t.nodes[0]? = some t.nodes[0]:=lgg (by omega)
 generalize t.nodes[0] = r at hr0
 have hroot:=Zv r
 by_cases hr : ¬ (r.id = 1 /\ r.parent = 0 /\ r.name = ⟨#[]⟩ /\ r.kind = 0)
 ·rw [decide_eq_false hr] at hroot
  unfold Nd.vv at hroot
  simp -implicitDefEqProofs (disch:=omega) only [vf86,IH,h1,h2,hz,hr0,hroot,go_sem]
  rw [KL hr0]
  rw [Bool.eq_false_iff]
  intro h0
  exact hr (Jr (by simpa using h0))
 have hr := Classical.not_not.1 hr
 rw [decide_eq_true hr] at hroot
 unfold Nd.vv at hroot
 simp -implicitDefEqProofs (disch:=omega) only [vf86,IH,h1,h2,hz,hr0,hroot,go_sem]
 refine Al t.nodes.length (fun k s=>∃ (ks : List MKey) (vs : List PV),ks.length = vs.length /\ (k = 0 -> ks = [] /\ vs = []) /\ (∀ (i : Nat) (n : Nd),i < k -> t.nodes[i]? = some n -> (AN ks vs (.int n.id)).getD (.int .i64 0) = .int .i64 (((up (t.nodes.take k) n.id).length : Int) - 1)) /\
  (∀ (i : Nat) (n : Nd),i < k -> t.nodes[i]? = some n -> B0 (t.nodes.take i) n = true) /\ (∀ (i : Nat) (n : Nd),i < k -> t.nodes[i]? = some n -> (up (t.nodes.take k) n.id).length <= 9) /\ s.pe 1 = .ptr (.slot 1 0) 0 0 /\ s.pe 3 = .mref (.slot 24 0) 0 /\ s.pe 26 = .p (Au t.nodes) /\ s.pe 27 = .p (.int .i64 t.nodes.length) /\ s.pe 28 = .p (.int .i64 k) /\
  s.h (.slot 1 0) = some (0,.box [.p (Au t.nodes),.p (.int .i64 t.next)]) /\ s.h (.slot 24 0) = some (0,.map (.int .i64) ks vs)) ?_ ?_
 ·refine ⟨[],[],rfl,fun _=>⟨rfl,rfl⟩,by omega,by omega,by omega,?_⟩
  simp -implicitDefEqProofs (disch:=omega) only [go_sem]
  rfl
 ·rintro k s hk ⟨ks,vs,hkl,hk0,hdep,hnok,hup,p1,p3,p26,p27,p28,hh1,hh24⟩
  simp -implicitDefEqProofs (disch:=omega) only [p27,p28,go_sem]
  refine Ah (fun hlt=>?_) (fun hge=>?_)
  ·have hm : t.nodes[k]? = some t.nodes[k]:=lgg hlt
   generalize t.nodes[k] = m at hm
   have hfit:=hf m (lmg hm)
   have hctl:=hfit.control
   by_cases hbad : 0 <= m.control /\ m.control <= 31 /\ 0 <= m.owner /\ m.owner <= 1048576
   ·have c1 : ¬ m.control < 0:=by omega
    have c2 : m.control <= 31:=by omega
    have c3 : ¬ m.owner < 0:=by omega
    have c4 : ¬ 1048576 < m.owner:=by omega
    have hbits:=SZ hbad.1 hctl
    by_cases hkp : 0 < (k : Int)
    ·obtain ⟨l,hlast⟩ : ∃ l,(t.nodes.take k).getLast? = some l:=by
      cases hq : (t.nodes.take k).getLast? with
      | none =>
       rw [List.getLast?_eq_none_iff] at hq
       have:=congrArg List.length hq
       rw [llt,lln] at this
       omega
      | some l=>exact ⟨l,rfl⟩
     have hfine:=ZD (t.nodes.take k) l m hlast (by simp; omega) hfit.name
     unfold Nd.vv Au at hfine
     have hle : k <= t.nodes.length:=hk
     cases hfb : FU (t.nodes.take k) l m with
     | false =>
      rw [hfb] at hfine
      simp -implicitDefEqProofs (disch:=omega) only [p1,p26,p28,hh1,hm,hbits,c1,c2,c3,c4,hkp,hle,Nat.sub_zero,<- List.map_take,hfine,go_sem]
      rw [KL hm]
      rw [Oy hlast,hfb,Bool.and_false]
     | true =>
      rw [hfb] at hfine
      have hno : B0 (t.nodes.take k) m = true:=by rw [Oy hlast,hfb,decide_eq_true hbad]; rfl
      obtain ⟨b1,b2,b3,b4,pn,hpn,hpe⟩:=(G7 hlast).1 hno
      obtain ⟨pi,hpi⟩:=lgm hpn
      have hpik : pi < k:=by
       have:=(lgs.1 hpi).1
       simp at this
       omega
      rw [List.getElem?_take,if_pos hpik] at hpi
      have hd:=hdep pi pn hpik hpi
      rw [hpe] at hd
      have hul:=hup pi pn hpik hpi
      rw [hpe] at hul
      simp -implicitDefEqProofs (disch:=omega) only [p1,p3,p26,p28,hh1,hh24,hm,hbits,c1,c2,c3,c4,hkp,hle,Nat.sub_zero,<- List.map_take,hfine,hd,KQ,Option.getD_some,go_sem]
      have htk : t.nodes.take (k + 1) = t.nodes.take k ++ [m]:=Bf hm
      have hum : up (t.nodes.take (k + 1)) m.id = m.id :: up (t.nodes.take k) m.parent:=by rw [htk]; exact Xh _ _
      have hltm : ∀ (i : Nat) (n : Nd),i < k -> t.nodes[i]? = some n -> n.id < m.id:=fun i n hi hn=>by
       have hno' : BA [] (t.nodes.take (k + 1)) = true:=(Fg _ _).2 fun j x hx=>by
        have hjl:=(lgs.1 hx).1
        simp at hjl
        rw [List.getElem?_take,if_pos (by omega)] at hx
        rw [lna,List.take_take,Nat.min_eq_left (by omega)]
        rcases Nat.lt_or_ge j k with h0 | h0
        ·exact hnok j x h0 hx
        ·have : j = k:=by omega
         subst this
         rw [hm] at hx
         simp at hx
         subst hx
         exact hno
       have hinc:=(Ki _ _ hno' (fun _ h=>by simp at h)).2
       rw [htk,List.pairwise_append] at hinc
       refine hinc.2.2 n ?_ m (by simp)
       have : (t.nodes.take k)[i]? = some n:=by rw [List.getElem?_take,if_pos hi]; exact hn
       exact lmg this
      have hun : ∀ (i : Nat) (n : Nd),i < k -> t.nodes[i]? = some n -> up (t.nodes.take (k + 1)) n.id = up (t.nodes.take k) n.id:=fun i n hi hn=>by
       rw [htk]
       exact Xg _ _ (by have:=hltm i n hi hn; omega)
      refine Ah (fun hdeep=>?_) (fun hshal=>?_)
      ·simp -implicitDefEqProofs (disch:=omega) only [go_sem]
       rw [Uz hm]
       rw [hum,llc]
       omega
      ·simp -implicitDefEqProofs (disch:=omega) only [p1,p3,p26,p27,p28,hh1,go_sem]
       refine ⟨hlt,(At ks vs (.int m.id) (.int .i64 (((up (t.nodes.take k) m.parent).length : Int) - 1 + 1))).1,(At ks vs (.int m.id) (.int .i64 (((up (t.nodes.take k) m.parent).length : Int) - 1 + 1))).2,My _ _ _ _ hkl,fun h=>h.elim,Ff hm (fun i n hi hn=>?_) ?_,Ff hm hnok hno,Ff hm (fun i n hi hn=>?_) ?_,?_,rfl⟩
       ·rw [hun i n hi hn,NS _ _ _ _ _ hkl (by have:=hltm i n hi hn; simp; omega)]
        exact hdep i n hi hn
       ·rw [KQ,hum]
        simp
       ·rw [hun i n hi hn]
        exact hup i n hi hn
       ·rw [hum,llc]
        omega
       .simp only [Int.natCast_add,Int.natCast_one]
    ·have hk0' : k = 0:=by omega
     subst hk0'
     obtain ⟨rfl,rfl⟩:=hk0 rfl
     rw [hm] at hr0
     simp only [osi] at hr0
     subst hr0
     have hg : (AN [] [] (.int m.id)).getD (.int .i64 0) = .int .i64 0:=rfl
     have h80 : ¬ (8 : Int) < 0:=by omega
     simp -implicitDefEqProofs (disch:=omega) only [p1,p3,p26,p27,p28,hh1,hh24,hm,hbits,c1,c2,c3,c4,hkp,hg,h80,go_sem]
     have htk : t.nodes.take (0 + 1) = [m]:=Bf hm
     have hum : up (t.nodes.take (0 + 1)) m.id = [m.id]:=by rw [htk]; simp [up,upR]
     refine ⟨hlt,[],[],rfl,fun h=>h.elim,Ff hm (fun i n hi=>absurd hi (by omega)) ?_,Ff hm (fun i n hi=>absurd hi (by omega)) ?_,Ff hm (fun i n hi=>absurd hi (by omega)) ?_,rfl,rfl⟩
     ·rw [hum]
      rfl
     ·simp only [B0,List.take_zero,List.getLast?_nil,decide_eq_true hr,decide_eq_true hbad,bau,decide_eq_true_eq]
      exact .inl hr.2.2.2
     ·rw [hum]
      simp
   ·simp -implicitDefEqProofs (disch:=omega) only [p26,p28,hm,go_sem]
    repeat' ((first | refine Bw ?_ ?_ | refine Bv ?_ ?_ | refine Bz ?_ ?_ | refine By ?_ ?_ | refine Bq ?_ ?_ | refine Bp ?_ ?_ | refine Bx ?_ ?_ | refine Br ?_ ?_ | refine Ah ?_ ?_ | refine BD ?_ ?_) <;> intro hb <;> simp -implicitDefEqProofs (disch:=omega) only [hb,p1,p3,hh1,hh24,SZ,go_sem])
    all_goals first
     | (exfalso; omega)
     | (rw [KL hm (XM hbad)])
  ·have hke : k = t.nodes.length:=by omega
   subst hke
   rw [List.take_length] at hup
   have hla : t.nodes[((t.nodes.length : Int) - 1).toNat]? = some t.nodes[t.nodes.length - 1]:=by
    rw [show ((t.nodes.length : Int) - 1).toNat = t.nodes.length - 1 by omega]
    exact lgg (by omega)
   have hlast : t.nodes.getLast? = some t.nodes[t.nodes.length - 1]:=by
    rw [List.getLast?_eq_getElem?]
    exact lgg (by omega)
   generalize t.nodes[t.nodes.length - 1] = l at hla hlast
   have hok : BA [] t.nodes = true:=(Fg _ _).2 fun i n hn=>by simpa using hnok i n (lgs.1 hn).1 hn
   have hk2 : t.nodes.all (fun n=>decide ((up t.nodes n.id).length <= 9)) = true:=by
    rw [List.all_eq_true]
    intro n hn
    obtain ⟨i,hi⟩:=lgm hn
    simpa using hup i n (lgs.1 hi).1 hi
   have hp0 : 0 <= (t.nodes.length : Int) - 1:=by omega
   simp -implicitDefEqProofs (disch:=omega) only [p1,hh1,hge,hla,hp0,go_sem]
   repeat' ((first | refine Bw ?_ ?_ | refine Bv ?_ ?_ | refine Bz ?_ ?_ | refine By ?_ ?_ | refine Bq ?_ ?_ | refine Bp ?_ ?_ | refine Bx ?_ ?_ | refine Br ?_ ?_ | refine Ah ?_ ?_ | refine BD ?_ ?_) <;> intro hb <;> simp -implicitDefEqProofs (disch:=omega) only [hb,p1,hh1,go_sem])
   all_goals
    simp only [AF,hok,hk2,hlast,show (1 <= t.nodes.length /\ t.nodes.length <= 64) by omega,pmi,VVal.p.injEq,PV.bool.injEq,and_true,decide_true,bta]
    rw [Bool.eq_iff_iff]
    simp only [decide_eq_true_eq,bft,false_iff]
    omega
theorem BZ {ns : List Nd} (hinc : ns.Pairwise fun a b=>a.id < b.id) {i : Nat} {n : Nd} (hn : ns[i]? = some n) : Ao ns n.id = some n:=by
 unfold Ao
 refine KR (k:=i) (fun j m hj hm=>?_) hn (by simp)
 have hl:=(lgs.1 hn).1
 have:=List.pairwise_iff_getElem.1 hinc j i (by omega) hl hj
 rw [(lgs.1 hm).2,(lgs.1 hn).2] at this
 simp
 omega
theorem TreeOk.pos {t : Tr} (h : TreeOk t) : ∀ n ∈ t.nodes,1 <= n.id:=Lh t.nodes [] (by simp) h.nodes
theorem TreeOk.find0 {t : Tr} (h : TreeOk t) : Ao t.nodes 0 = none:=by
 unfold Ao
 rw [List.find?_eq_none]
 intro n hn
 have:=h.pos n hn
 simp
 omega
theorem TreeOk.nodeAt {t : Tr} (h : TreeOk t) {i : Nat} {n : Nd} (hn : t.nodes[i]? = some n) : (i = 0 /\ n.id = 1 /\ n.parent = 0) \/ (0 < i /\ 1 < n.id /\ ∃ j p,j < i /\ t.nodes[j]? = some p /\ p.id = n.parent):=by
 have hok:=(Fg _ _).1 h.nodes i n hn
 rw [lna] at hok
 rcases Nat.eq_zero_or_pos i with rfl | hi
 ·left
  rw [List.take_zero] at hok
  have:=Jr hok
  exact ⟨rfl,this.1,this.2.1⟩
 ·right
  have hlt:=(lgs.1 hn).1
  cases hl : (t.nodes.take i).getLast? with
  | none =>
   rw [List.getLast?_eq_none_iff] at hl
   have:=congrArg List.length hl
   rw [llt,lln] at this
   omega
  | some l =>
   obtain ⟨_,h2,_,_,p,hp,he⟩:=(G7 hl).1 hok
   have h1:=h.pos l (List.mem_of_mem_take (List.mem_of_getLast? hl))
   obtain ⟨j,hj⟩:=lgm hp
   have hjl:=(lgs.1 hj).1
   simp at hjl
   rw [List.getElem?_take,if_pos (by omega)] at hj
   exact ⟨hi,by omega,j,p,by omega,hj,he⟩
theorem Zl {t : Tr} (h : TreeOk t) : ∀ (i : Nat) (n : Nd),t.nodes[i]? = some n -> ∀ k k',i < k -> i < k' -> ancF t.nodes k n.id = ancF t.nodes k' n.id:=by
 intro i
 induction i using Nat.strongRecOn with
 | _ i ih =>
  intro n hn k k' hk hk'
  obtain ⟨k,rfl⟩ : ∃ m,k = m + 1:=⟨k - 1,by omega⟩
  obtain ⟨k',rfl⟩ : ∃ m,k' = m + 1:=⟨k' - 1,by omega⟩
  have hf:=BZ h.inc hn
  simp only [ancF,hf]
  congr 1
  rcases h.nodeAt hn with ⟨rfl,_,h0⟩ | ⟨hi,_,j,p,hj,hp,he⟩
  ·rw [h0]
   have hz : ∀ m,ancF t.nodes m 0 = []:=fun m=>by
    cases m with
    | zero=>rfl
    | succ m=>simp only [ancF,h.find0]
   rw [hz,hz]
  ·rw [<- he]
   exact ih j hj p hp k k' (by omega) (by omega)
theorem Ro {t : Tr} (h : TreeOk t) {i : Nat} {n : Nd} (hn : t.nodes[i]? = some n) : ancF t.nodes t.nodes.length n.id = n.id :: (if i = 0 then [] else ancF t.nodes t.nodes.length n.parent):=by
 have hlt:=(lgs.1 hn).1
 obtain ⟨k,hk⟩ : ∃ m,t.nodes.length = m + 1:=⟨t.nodes.length - 1,by omega⟩
 rw [hk]
 have hf:=BZ h.inc hn
 conv=>lhs; simp only [ancF,hf]
 congr 1
 rcases h.nodeAt hn with ⟨rfl,_,h0⟩ | ⟨hi,_,j,p,hj,hp,he⟩
 ·rw [h0,if_pos rfl]
  cases k with
  | zero=>rfl
  | succ m=>simp only [ancF,h.find0]
 ·rw [if_neg (by omega),<- he]
  exact Zl h j p hp _ _ (by omega) (by omega)
theorem TreeOk.fits {t : Tr} (h : TreeOk t) : t.Fits:=by
 intro n hn
 obtain ⟨i,hi⟩:=lgm hn
 have hok:=(Fg _ _).1 h.nodes i n hi
 rw [lna] at hok
 unfold B0 at hok
 simp only [bat,decide_eq_true_eq] at hok
 refine ⟨?_,by omega⟩
 have h2:=hok.2
 split at h2
 ·simp only [decide_eq_true_eq] at h2
  rw [h2.2.2.1]
  decide
 ·simp only [bat] at h2
  have hv:=h2.1.1.2
  simp only [Cf,bat,decide_eq_true_eq] at hv
  omega
theorem TreeOk.idx {t : Tr} (h : TreeOk t) {i j : Nat} {n m : Nd} (hn : t.nodes[i]? = some n) (hm : t.nodes[j]? = some m) (he : n.id = m.id) : i = j /\ n = m:=by
 obtain ⟨hi,rfl⟩:=lgs.1 hn
 obtain ⟨hj,rfl⟩:=lgs.1 hm
 have hp:=List.pairwise_iff_getElem.1 h.inc
 rcases Nat.lt_trichotomy i j with hlt | rfl | hlt
 .have:=hp i j hi hj hlt; omega
 .exact ⟨rfl,rfl⟩
 .have:=hp j i hj hi hlt; omega
theorem Cm {t : Tr} (h : TreeOk t) {i : Nat} {n : Nd} (hn : t.nodes[i]? = some n) (c : Int) : c ∈ ancF t.nodes t.nodes.length n.id ↔ c = n.id \/ (i ≠ 0 /\ c ∈ ancF t.nodes t.nodes.length n.parent):=by
 rw [Ro h hn]
 by_cases hi : i = 0
 .simp [hi]
 .simp [hi]
theorem TreeOk.kid {t : Tr} (h : TreeOk t) {i j : Nat} {n m : Nd} (hn : t.nodes[i]? = some n) (hm : t.nodes[j]? = some m) (hp : m.parent = n.id) : i < j:=by
 rcases h.nodeAt hm with ⟨_,_,h0⟩ | ⟨_,_,k,p,hk,hpk,hpe⟩
 .have:=h.pos n (lmg hn); omega
 .have:=(h.idx hpk hn (by omega)).1; omega
theorem Nb {t : Tr} (h : TreeOk t) : ∀ (i : Nat) (n : Nd),t.nodes[i]? = some n -> ∀ c ∈ ancF t.nodes t.nodes.length n.id,∃ j m,j <= i /\ t.nodes[j]? = some m /\ m.id = c:=by
 intro i
 induction i using Nat.strongRecOn with
 | _ i ih =>
  intro n hn c hc
  rcases (Cm h hn c).1 hc with rfl | ⟨h0,hc⟩
  ·exact ⟨i,n,lrf _,hn,rfl⟩
  ·rcases h.nodeAt hn with ⟨h1,_⟩ | ⟨_,_,k,p,hk,hpk,hpe⟩
   ·contradiction
   ·rw [<- hpe] at hc
    obtain ⟨j,m,hj,hm,he⟩:=ih k hk p hpk c hc
    exact ⟨j,m,by omega,hm,he⟩
theorem JX {t : Tr} (h : TreeOk t) {i : Nat} {n : Nd} (hn : t.nodes[i]? = some n) : n.id ∈ ancF t.nodes t.nodes.length n.id:=(Cm h hn _).2 (Or.inl rfl)
theorem Yd {t : Tr} (h : TreeOk t) {k : Nat} {c : Nd} (hc : t.nodes[k]? = some c) (hk : k ≠ 0) : ∀ (i : Nat) (n : Nd),t.nodes[i]? = some n -> c.id ∈ ancF t.nodes t.nodes.length n.id -> c.parent ∈ ancF t.nodes t.nodes.length n.id:=by
 intro i
 induction i using Nat.strongRecOn with
 | _ i ih =>
  intro n hn hm
  rcases (Cm h hn c.id).1 hm with he | ⟨h0,hm⟩
  ·obtain ⟨rfl,rfl⟩:=h.idx hc hn he
   rcases h.nodeAt hn with ⟨h1,_⟩ | ⟨_,_,j,p,hj,hp,hpe⟩
   ·contradiction
   ·refine (Cm h hn _).2 (Or.inr ⟨hk,?_⟩)
    rw [<- hpe]
    exact JX h hp
  ·refine (Cm h hn _).2 (Or.inr ⟨h0,?_⟩)
   rcases h.nodeAt hn with ⟨h1,_⟩ | ⟨_,_,j,p,hj,hp,hpe⟩
   ·contradiction
   ·rw [<- hpe] at hm ⊢
    exact ih j hj p hp hm
theorem Zk {t : Tr} (h : TreeOk t) {c : Int} : ∀ (i : Nat) (n : Nd),t.nodes[i]? = some n -> c ∈ ancF t.nodes t.nodes.length n.id -> c ≠ n.id -> ∃ (j : Nat) (m : Nd),t.nodes[j]? = some m /\ m.parent = c /\ m.id ∈ ancF t.nodes t.nodes.length n.id:=by
 intro i
 induction i using Nat.strongRecOn with
 | _ i ih =>
  intro n hn hm hne
  rcases (Cm h hn c).1 hm with he | ⟨h0,hm⟩
  ·contradiction
  ·rcases h.nodeAt hn with ⟨h1,_⟩ | ⟨_,_,j,p,hj,hp,hpe⟩
   ·contradiction
   ·by_cases hcp : c = n.parent
    ·exact ⟨i,n,hn,hcp.symm,JX h hn⟩
    ·rw [<- hpe] at hm
     obtain ⟨k,m,hk,hmp,hma⟩:=ih j hj p hp hm (by omega)
     rw [hpe] at hma
     exact ⟨k,m,hk,hmp,(Cm h hn _).2 (Or.inr ⟨h0,hma⟩)⟩
def kidsN (ns : List Nd) (id : Int) : List Int:=(ns.filter fun n=>decide (n.parent = id)).map (·.id)
def subF (ns : List Nd) : Nat -> Int -> List Int
 | 0,_=>[]
 | k + 1,id=>id :: (kidsN ns id).flatMap (subF ns k)
theorem BR {ns : List Nd} {id x : Int} : x ∈ kidsN ns id ↔ ∃ (j : Nat) (m : Nd),ns[j]? = some m /\ m.parent = id /\ m.id = x:=by
 simp only [kidsN,lmm,List.mem_filter,decide_eq_true_eq]
 constructor
 ·rintro ⟨m,⟨hm,hp⟩,he⟩
  obtain ⟨j,hj⟩:=lgm hm
  exact ⟨j,m,hj,hp,he⟩
 ·rintro ⟨j,m,hj,hp,he⟩
  exact ⟨m,⟨lmg hj,hp⟩,he⟩
theorem DQ {t : Tr} (h : TreeOk t) : ∀ (k i : Nat) (n : Nd),t.nodes[i]? = some n -> t.nodes.length <= i + k -> ∀ x,x ∈ subF t.nodes k n.id ↔ ∃ (j : Nat) (m : Nd),t.nodes[j]? = some m /\ m.id = x /\ n.id ∈ ancF t.nodes t.nodes.length m.id:=by
 intro k
 induction k with
 | zero=>intro i n hn hk; have:=(lgs.1 hn).1; omega
 | succ k ih =>
  intro i n hn hk x
  simp only [subF,lmk,List.mem_flatMap]
  constructor
  ·rintro (rfl | ⟨c,hc,hx⟩)
   ·exact ⟨i,n,hn,rfl,JX h hn⟩
   ·obtain ⟨j,m,hj,hp,rfl⟩:=BR.1 hc
    have hij:=h.kid hn hj hp
    obtain ⟨q,y,hq,hy,hm⟩:=(ih j m hj (by omega) x).1 hx
    refine ⟨q,y,hq,hy,?_⟩
    rw [<- hp]
    exact Yd h hj (by omega) q y hq hm
  ·rintro ⟨j,m,hj,rfl,hm⟩
   by_cases he : n.id = m.id
   ·exact Or.inl he.symm
   ·obtain ⟨q,y,hq,hy,hm'⟩:=Zk h j m hj hm he
    have hiq:=h.kid hn hq hy
    exact Or.inr ⟨y.id,BR.2 ⟨q,y,hq,hy,rfl⟩,(ih q y hq (by omega) _).2 ⟨j,m,hj,rfl,hm'⟩⟩
theorem WT {t : Tr} (h : TreeOk t) (id : Int) : (kidsN t.nodes id).Nodup:=by
 rw [kidsN,List.Nodup,List.pairwise_map]
 exact List.Pairwise.imp_of_mem (fun _ _ hab=>by omega) (h.inc.filter _)
theorem He {t : Tr} (h : TreeOk t) : ∀ (k i : Nat) (n : Nd),t.nodes[i]? = some n -> t.nodes.length <= i + k -> (subF t.nodes k n.id).Nodup:=by
 intro k
 induction k with
 | zero=>intro i n hn hk; have:=(lgs.1 hn).1; omega
 | succ k ih =>
  intro i n hn hk
  simp only [subF,List.nodup_cons]
  constructor
  ·intro hx
   obtain ⟨c,hc,hx⟩:=List.mem_flatMap.1 hx
   obtain ⟨j,m,hj,hp,rfl⟩:=BR.1 hc
   have hij:=h.kid hn hj hp
   obtain ⟨q,y,hq,hy,hm⟩:=(DQ h k j m hj (by omega) n.id).1 hx
   obtain ⟨q',y',hle,hq',hy'⟩:=Nb h q y hq m.id hm
   have h1:=(h.idx hq hn hy).1
   have h2:=(h.idx hq' hj hy').1
   omega
  ·rw [List.Nodup,List.pairwise_flatMap]
   constructor
   ·intro c hc
    obtain ⟨j,m,hj,hp,rfl⟩:=BR.1 hc
    have hij:=h.kid hn hj hp
    exact ih j m hj (by omega)
   ·have hnd:=WT h n.id
    refine List.Pairwise.imp_of_mem ?_ hnd
    intro c1 c2 hc1 hc2 hne x hx1 y hy2 hxy
    subst hxy
    obtain ⟨j1,m1,hj1,hp1,rfl⟩:=BR.1 hc1
    obtain ⟨j2,m2,hj2,hp2,rfl⟩:=BR.1 hc2
    have hij1:=h.kid hn hj1 hp1
    have hij2:=h.kid hn hj2 hp2
    obtain ⟨q,z,hq,hz,hm1⟩:=(DQ h k j1 m1 hj1 (by omega) x).1 hx1
    obtain ⟨q',z',hq',hz',hm2⟩:=(DQ h k j2 m2 hj2 (by omega) x).1 hy2
    obtain ⟨rfl,rfl⟩:=h.idx hq hq' (by omega)
    exact hne (sib h hn hj1 hj2 hp1 hp2 q z hq hm1 hm2)
where
 sib {t : Tr} (h : TreeOk t) {i j1 j2 : Nat} {n m1 m2 : Nd} (hn : t.nodes[i]? = some n) (hj1 : t.nodes[j1]? = some m1) (hj2 : t.nodes[j2]? = some m2) (hp1 : m1.parent = n.id) (hp2 : m2.parent = n.id) : ∀ (q : Nat) (z : Nd),t.nodes[q]? = some z -> m1.id ∈ ancF t.nodes t.nodes.length z.id -> m2.id ∈ ancF t.nodes t.nodes.length z.id -> m1.id = m2.id:=by
  intro q
  induction q using Nat.strongRecOn with
  | _ q ih =>
   intro z hz h1 h2
   have hij1:=h.kid hn hj1 hp1
   have hij2:=h.kid hn hj2 hp2
   rcases (Cm h hz _).1 h1 with e1 | ⟨h0,h1'⟩
   ·rcases (Cm h hz _).1 h2 with e2 | ⟨_,h2'⟩
    ·omega
    ·obtain ⟨rfl,rfl⟩:=h.idx hj1 hz e1
     rw [hp1] at h2'
     obtain ⟨j,m,hle,hj,he⟩:=Nb h i n hn _ h2'
     have:=(h.idx hj hj2 he).1
     omega
   ·rcases (Cm h hz _).1 h2 with e2 | ⟨_,h2'⟩
    ·obtain ⟨rfl,rfl⟩:=h.idx hj2 hz e2
     rw [hp2] at h1'
     obtain ⟨j,m,hle,hj,he⟩:=Nb h i n hn _ h1'
     have:=(h.idx hj hj1 he).1
     omega
    ·rcases h.nodeAt hz with ⟨hh,_⟩ | ⟨_,_,j,p,hj,hp,hpe⟩
     ·contradiction
     ·rw [<- hpe] at h1' h2'
      exact ih j hj p hp h1' h2'
theorem F4 : ∀ (l m : List Int),l.Nodup -> (∀ x ∈ l,x ∈ m) -> l.length <= m.length
 | [],_,_,_=>Nat.zero_le _
 | x :: l,m,hn,hs=>by
  rw [List.nodup_cons] at hn
  have hx : x ∈ m:=hs x (lms ..)
  have:=F4 l (m.erase x) hn.2 fun y hy=>(List.mem_erase_of_ne (fun e=>hn.1 (by rw [<- e]; exact hy))).2 (hs y (lmc _ hy))
  rw [List.length_erase_of_mem hx] at this
  have:=List.length_pos_of_mem hx
  simp only [llc]
  omega
theorem I7 {t : Tr} (h : TreeOk t) {k i : Nat} {n : Nd} (hn : t.nodes[i]? = some n) (hk : t.nodes.length <= i + k) : (subF t.nodes k n.id).length <= t.nodes.length:=by
 have:=F4 _ (t.nodes.map (·.id)) (He h k i n hn hk) fun x hx=>by
  obtain ⟨j,m,hj,rfl,_⟩:=(DQ h k i n hn hk x).1 hx
  exact lmm.2 ⟨m,lmg hj,rfl⟩
 simpa using this
theorem IR {α β : Type} {f g : α -> List β} : ∀ {l : List α},(∀ a ∈ l,f a = g a) -> l.flatMap f = l.flatMap g
 | [],_=>rfl
 | a :: l,h=>by
  rw [lfc,lfc,h a (lms ..),IR fun b hb=>h b (lmc _ hb)]
theorem LM {t : Tr} (h : TreeOk t) : ∀ (k k' i : Nat) (n : Nd),t.nodes[i]? = some n -> t.nodes.length <= i + k -> t.nodes.length <= i + k' -> subF t.nodes k n.id = subF t.nodes k' n.id:=by
 intro k
 induction k with
 | zero=>intro k' i n hn hk; have:=(lgs.1 hn).1; omega
 | succ k ih =>
  intro k' i n hn hk hk'
  cases k' with
  | zero=>have:=(lgs.1 hn).1; omega
  | succ k' =>
   simp only [subF,List.cons.injEq,true_and]
   refine IR fun c hc=>?_
   obtain ⟨j,m,hj,hp,rfl⟩:=BR.1 hc
   have hij:=h.kid hn hj hp
   exact ih k' j m hj (by omega) (by omega)
def subT (t : Tr) (id : Int) : List Int:=if (A6 t id).isSome then subF t.nodes t.nodes.length id else []
theorem PY {t : Tr} {id : Int} (h : (A6 t id).isSome = true) : kids t id = kidsN t.nodes id:=by
 rw [kids,if_pos h]; rfl
theorem ZT {t : Tr} (h : TreeOk t) : ∀ (k i : Nat) (n : Nd),t.nodes[i]? = some n -> t.nodes.length <= i + k -> V 130 [t.vv,.p (.int .i64 n.id)] [] = some (.fresh 1 ((subF t.nodes k n.id).map (.int .i64)),[]):=by
 intro k
 induction k with
 | zero=>intro i n hn hk; have:=(lgs.1 hn).1; omega
 | succ k ih =>
  intro i n hn hk
  have hlen:=h.len
  have hft : (A6 t n.id).isSome = true:=by rw [A6,if_pos ((A5 t).2 h),BZ h.inc hn]; rfl
  refine Ag (vf:=vf130) rfl ?_
  have hh:=CJ t n.id (by omega)
  rw [hft] at hh
  have hkd:=Ii t n.id (by omega)
  rw [PY hft] at hkd
  have hsl:=I7 h hn hk
  have hkl : (kidsN t.nodes n.id).length <= t.nodes.length:=by
   have:=List.length_filter_le (fun m : Nd=>decide (m.parent = n.id)) t.nodes
   simpa [kidsN] using this
  have hsf : subF t.nodes (k + 1) n.id = n.id :: (kidsN t.nodes n.id).flatMap (subF t.nodes k):=rfl
  have hkm : ∀ c ∈ kidsN t.nodes n.id,V 130 [t.vv,.p (.int .i64 c)] [] = some (.fresh 1 ((subF t.nodes k c).map (.int .i64)),[]):=by
   intro c hc
   obtain ⟨j,m,hj,hp,rfl⟩:=BR.1 hc
   have hij:=h.kid hn hj hp
   exact ih j m hj (by omega)
  rw [hsf] at hsl ⊢
  generalize kidsN t.nodes n.id = ks at hkd hkl hkm hsl
  simp -implicitDefEqProofs (disch:=omega) only [vf130,Nf,hh,hkd,go_sem]
  refine Al ks.length (fun j s=>∃ (acc : List Int) (v : Nat),acc = n.id :: (ks.take j).flatMap (subF t.nodes k) /\ s.pe 2 = .ptr (.slot 2 0) 0 0 /\ s.pe 5 = .own (.slot 13 0) v 0 acc.length /\ s.pe 6 = .own (.slot 16 1) 0 0 ks.length /\ s.pe 7 = .p (.int .i64 j) /\ s.h (.slot 2 0) = some (0,.box [.p (Au t.nodes),.p (.int .i64 t.next)]) /\ s.h (.slot 13 0) = some (v,.arr 1 (acc.map (.int .i64))) /\ s.h (.slot 16 1) = some (0,.arr 1 (ks.map (.int .i64)))) ?_ ?_
  ·exact ⟨[n.id],0,rfl,by simp -implicitDefEqProofs (disch:=omega) only [go_sem],by simp -implicitDefEqProofs (disch:=omega) only [go_sem],by simp -implicitDefEqProofs (disch:=omega) only [go_sem],rfl,by simp -implicitDefEqProofs (disch:=omega) only [go_sem],by simp -implicitDefEqProofs (disch:=omega) only [go_sem],by simp -implicitDefEqProofs (disch:=omega) only [go_sem]⟩
  ·rintro j s hj ⟨acc,v,hacc,h2,h5,h6,h7,hh2,hh13,hh16⟩
   have hal : acc.length + ((ks.drop j).flatMap (subF t.nodes k)).length <= t.nodes.length:=by
    rw [hacc]
    have : ks.flatMap (subF t.nodes k) = (ks.take j).flatMap (subF t.nodes k) ++ (ks.drop j).flatMap (subF t.nodes k):=by
     rw [<- List.flatMap_append,List.take_append_drop]
    rw [this] at hsl
    simp only [llc,lla] at hsl ⊢
    omega
   simp -implicitDefEqProofs (disch:=omega) only [h6,h7,go_sem]
   refine Ah (fun hlt=>?_) (fun hge=>?_)
   ·have hm : ks[j]? = some ks[j]:=lgg hlt
    have hdr : ks.drop j = ks[j] :: ks.drop (j + 1):=ldg hlt
    generalize ks[j] = c at hm hdr
    have hc:=hkm c (lmg hm)
    rw [hdr,lfc,lla] at hal
    have htk : (ks.take (j + 1)).flatMap (subF t.nodes k) = (ks.take j).flatMap (subF t.nodes k) ++ subF t.nodes k c:=by
     rw [Bf hm,List.flatMap_append]
     simp
    generalize subF t.nodes k c = sc at hc hal htk
    simp -implicitDefEqProofs (disch:=omega) only [h2,h5,h6,h7,hh2,hh13,hh16,hm,hc,hlt,go_sem]
    refine ⟨acc ++ sc,v + 1,by rw [htk,hacc]; simp,by simp,rfl,?_⟩
    simp
   ·rw [ltl (by omega)] at hacc
    simp -implicitDefEqProofs (disch:=omega) only [h5,hh13,hge,go_sem]
    rw [hacc]
    rfl
theorem J1 {t : Tr} (id : Int) (hl : t.nodes.length < 1000000) : V 130 [t.vv,.p (.int .i64 id)] [] = some (.fresh 1 ((subT t id).map (.int .i64)),[]):=by
 cases hft : (A6 t id).isSome with
 | false =>
  refine Ag (vf:=vf130) rfl ?_
  have hh:=CJ t id (by omega)
  rw [hft] at hh
  simp -implicitDefEqProofs only [vf130,Nf,hh,go_sem]
  simp [subT,hft]
 | true =>
  have hok : TreeOk t:=by
   rw [A6] at hft
   split at hft
   .rename_i h; exact (A5 t).1 h
   .cases hft
  rw [A6,if_pos ((A5 t).2 hok)] at hft
  obtain ⟨n,hn,rfl⟩:=Cu hft
  obtain ⟨i,hi⟩:=lgm hn
  rw [ZT hok t.nodes.length i n hi (by omega),subT,A6,if_pos ((A5 t).2 hok),if_pos hft]
structure Ch where
 group : Int
 own : Int
 deriving DecidableEq
def Ch.pv (c : Ch) : PV:=.agg [.int .i64 c.group,.int .i64 c.own]
abbrev Ch.vv (c : Ch) : VVal:=.agg [.p (.int .i64 c.group),.p (.int .i64 c.own)]
abbrev AP (l : List Ch) : PV:=.slice 2 (l.map Ch.pv)
attribute [go_sem] Ch.pv
theorem zaY (l : List Ch) : (l.map Ch.pv).all PV.flat = true:=by
 rw [List.all_eq_true]
 intro x hx
 obtain ⟨n,_,rfl⟩:=lmm.1 hx
 rfl
attribute [go_sem] zaY
def Ab : List Int -> Int
 | []=>0
 | x :: xs=>x + Ab xs
theorem Ds : ∀ (a b : List Int),Ab (a ++ b) = Ab a + Ab b
 | [],b=>by simp [Ab]
 | x :: a,b=>by have:=Ds a b; simp only [lca,Ab]; omega
theorem ER : ∀ (a : List Int),(∀ x ∈ a,0 <= x) -> 0 <= Ab a
 | [],_=>Int.le_refl _
 | x :: a,h=>by
  have:=ER a (fun y hy=>h y (lmc _ hy))
  have:=h x (lms ..)
  simp only [Ab]; omega
theorem Cs {α : Type} {f : α -> Int} (a : List α) (h : ∀ x ∈ a,0 <= f x) : 0 <= Ab (a.map f):=ER _ (fun x hx=>by
 obtain ⟨y,hy,rfl⟩:=lmm.1 hx
 exact h y hy)
theorem Oh {α : Type} (f : Int -> Int) (g : α -> List Int) : ∀ (a : List α),Ab ((a.flatMap g).map f) = Ab (a.map fun x=>Ab ((g x).map f))
 | []=>rfl
 | x :: a=>by
  have:=Oh f g a
  simp only [lfc,lma,Ds,lpc,Ab,this]
theorem GY {α : Type} {f : α -> Int} {l : List α} {k : Nat} {x : α} (h : l[k]? = some x) : Ab ((l.take (k + 1)).map f) = Ab ((l.take k).map f) + f x:=by
 rw [List.take_add_one,h]
 simp [Ds,Ab]
theorem Og {α : Type} {f : α -> Int} (l : List α) (k : Nat) (h : ∀ x ∈ l,0 <= f x) : Ab ((l.take k).map f) <= Ab (l.map f):=by
 have h1 : Ab (l.map f) = Ab ((l.take k).map f) + Ab ((l.drop k).map f):=by
  rw [<- Ds,<- lma,List.take_append_drop]
 have h2:=Cs (l.drop k) (f:=f) (fun x hx=>h x (List.mem_of_mem_drop hx))
 omega
theorem Ls {α : Type} {f g : α -> Int} {l : List α} (h : ∀ x ∈ l,f x = g x) : Ab (l.map f) = Ab (l.map g):=by
 rw [List.map_congr_left h]
def Aq : List Ch -> Int -> Int
 | [],_=>0
 | c :: l,id=>if c.group = id then c.own else Aq l id
def prevOk (p : Option Int) (g : Int) : Bool:=match p with | none=>true | some q=>decide (q < g)
def CX (ns : List Nd) : Option Int -> Int -> List Ch -> Bool
 | _,_,[]=>true
 | p,s,c :: l=>(Ao ns c.group).isSome && prevOk p c.group && decide (1 <= c.own) && decide (c.own <= 16777216 - s) && CX ns (some c.group) (s + c.own) l
theorem Zg (ns : List Nd) (p : Option Int) (s : Int) (c : Ch) (l : List Ch) : CX ns p s (c :: l) = ((Ao ns c.group).isSome && prevOk p c.group && decide (1 <= c.own) && decide (c.own <= 16777216 - s) && CX ns (some c.group) (s + c.own) l):=by simp only [CX]
theorem zaZ (ns : List Nd) (p : Option Int) (s : Int) : CX ns p s [] = true:=by simp only [CX]
structure ChOk (ns : List Nd) (l : List Ch) : Prop where
 known : ∀ c ∈ l,(Ao ns c.group).isSome = true
 inc : l.Pairwise fun a b=>a.group < b.group
 pos : ∀ c ∈ l,1 <= c.own
 all : Ab (l.map (·.own)) <= 16777216
theorem Mf (ns : List Nd) : ∀ (l : List Ch) (p : Option Int) (s : Int),s <= 16777216 -> (CX ns p s l = true ↔
  (∀ c ∈ l,(Ao ns c.group).isSome = true) /\ (l.Pairwise fun a b=>a.group < b.group) /\ (∀ q,p = some q -> ∀ c ∈ l,q < c.group) /\ (∀ c ∈ l,1 <= c.own) /\ s + Ab (l.map (·.own)) <= 16777216)
 | [],p,s,hs=>by simp [CX,Ab]; omega
 | c :: l,p,s,hs=>by
  have hp : prevOk p c.group = true ↔ ∀ q,p = some q -> q < c.group:=by
   cases p <;> simp [prevOk]
  simp only [CX,bat,decide_eq_true_eq,hp,lmk,forall_eq_or_imp,lpw,lpc,Ab]
  constructor
  ·rintro ⟨⟨⟨⟨h1,h2⟩,h3⟩,h4⟩,h5⟩
   obtain ⟨a1,a2,a3,a4,a5⟩:=(Mf ns l (some c.group) (s + c.own) (by omega)).1 h5
   refine ⟨⟨h1,a1⟩,⟨a3 _ rfl,a2⟩,fun q hq=>⟨h2 q hq,fun d hd=>?_⟩,⟨h3,a4⟩,by omega⟩
   have:=h2 q hq
   have:=a3 _ rfl d hd
   omega
  ·rintro ⟨⟨h1,a1⟩,⟨a3,a2⟩,h2,⟨h3,a4⟩,h5⟩
   have hn:=Cs l (f:=(·.own)) (fun x hx=>by have:=a4 x hx; omega)
   refine ⟨⟨⟨⟨h1,fun q hq=>(h2 q hq).1⟩,h3⟩,by omega⟩,(Mf ns l (some c.group) (s + c.own) (by omega)).2 ⟨a1,a2,fun q hq=>?_,a4,by omega⟩⟩
   cases hq
   exact a3
theorem za0 (ns : List Nd) (l : List Ch) : CX ns none 0 l = true ↔ ChOk ns l:=by
 rw [Mf ns l none 0 (by omega)]
 constructor
 ·rintro ⟨a,b,_,d,e⟩
  exact ⟨a,b,d,by omega⟩
 ·rintro ⟨a,b,d,e⟩
  exact ⟨a,b,fun q hq=>by simp at hq,d,by omega⟩
theorem ES {l : List Ch} (h : ∀ c ∈ l,1 <= c.own) (id : Int) : 0 <= Aq l id:=by
 induction l with
 | nil=>exact Int.le_refl _
 | cons c l ih =>
  unfold Aq
  split
  .have:=h c (lms ..); omega
  .exact ih (fun d hd=>h d (lmc _ hd))
theorem LU {l : List Ch} {id : Int} (h : ∀ c ∈ l,c.group ≠ id) : Aq l id = 0:=by
 induction l with
 | nil=>rfl
 | cons c l ih =>
  unfold Aq
  rw [if_neg (h c (lms ..))]
  exact ih (fun d hd=>h d (lmc _ hd))
theorem zbw {l : List Ch} (h : ∀ c ∈ l,1 <= c.own) (id : Int) : Aq l id <= Ab (l.map (·.own)):=by
 induction l with
 | nil=>exact Int.le_refl _
 | cons c l ih =>
  have h0:=h c (lms ..)
  have hl:=fun d hd=>h d (lmc c hd)
  have h1:=ih hl
  have h2:=Cs l (f:=(·.own)) (fun x hx=>by have:=hl x hx; omega)
  unfold Aq
  simp only [lpc,Ab]
  split <;> omega
theorem JZ (f : Int -> Int) (g v : Int) : ∀ (xs : List Int),xs.Nodup -> Ab (xs.map fun x=>if x = g then v else f x) = Ab (xs.map f) + if g ∈ xs then v - f g else 0
 | [],_=>by simp [Ab]
 | x :: xs,h=>by
  obtain ⟨hx,hn⟩:=List.nodup_cons.1 h
  have ih:=JZ f g v xs hn
  simp only [lpc,Ab,ih,lmk]
  by_cases he : x = g
  ·subst he
   simp [hx]
   omega
  ·have he' : ¬ g = x:=fun hh=>he hh.symm
   simp only [he,he',if_false,false_or]
   omega
theorem QK (c : Ch) (l : List Ch) : Aq (c :: l) = fun x=>if x = c.group then c.own else Aq l x:=by
 funext x
 simp only [Aq,eq_comm]
theorem K9 : ∀ xs : List Int,Ab (xs.map (Aq [])) = 0
 | []=>rfl
 | x :: xs=>by
  show Aq [] x + Ab (xs.map (Aq [])) = 0
  rw [K9 xs]; rfl
theorem Xk {l : List Ch} (h : ∀ c ∈ l,1 <= c.own) (xs : List Int) (hx : xs.Nodup) : Ab (xs.map (Aq l)) <= Ab (l.map (·.own)):=by
 induction l with
 | nil =>
  rw [K9]
  exact Int.le_refl _
 | cons c l ih =>
  have h0:=h c (lms ..)
  have hl:=fun d hd=>h d (lmc c hd)
  have h1:=ih hl
  rw [QK,JZ _ _ _ _ hx]
  have h3:=ES hl c.group
  simp only [lpc,Ab]
  split <;> omega
theorem Pw {l : List Ch} (hp : l.Pairwise fun a b=>a.group < b.group) (xs : List Int) (hx : xs.Nodup) (hm : ∀ c ∈ l,c.group ∈ xs) : Ab (xs.map (Aq l)) = Ab (l.map (·.own)):=by
 induction l with
 | nil =>
  rw [K9]
  rfl
 | cons c l ih =>
  obtain ⟨h0,h1⟩:=lpw.1 hp
  rw [QK,JZ _ _ _ _ hx,if_pos (hm c (lms ..)),ih h1 (fun d hd=>hm d (lmc _ hd)),LU (fun d hd=>by have:=h0 d hd; omega)]
  simp only [lpc,Ab]
  omega
def withGo (id v : Int) : Bool -> List Ch -> List Ch
 | d,[]=>if d then [] else [⟨id,v⟩]
 | d,c :: l=>(if !d && decide (id <= c.group) then [⟨id,v⟩] else []) ++ (if c.group = id then [] else [c]) ++ withGo id v (d || decide (id <= c.group)) l
def S3 (l : List Ch) (id v : Int) : List Ch:=withGo id v (decide (v = 0)) l
theorem Jh (id v : Int) : ∀ (l : List Ch) (d : Bool),∀ c ∈ withGo id v d l,(d = false /\ c = ⟨id,v⟩) \/ (c ∈ l /\ c.group ≠ id)
 | [],d,c,hc=>by
  cases d
  ·simp [withGo] at hc; exact Or.inl ⟨rfl,hc⟩
  ·simp [withGo] at hc
 | e :: l,d,c,hc=>by
  unfold withGo at hc
  simp only [lmp] at hc
  rcases hc with (hc | hc) | hc
  ·split at hc
   ·rename_i h
    simp only [bat,Bool.not_eq_true'] at h
    exact Or.inl ⟨h.1,by simpa using hc⟩
   ·simp at hc
  ·split at hc
   ·simp at hc
   ·rename_i h
    simp at hc
    subst hc
    exact Or.inr ⟨lms ..,h⟩
  ·rcases Jh id v l _ c hc with ⟨h1,h2⟩ | ⟨h1,h2⟩
   ·simp only [Bool.or_eq_false_iff] at h1
    exact Or.inl ⟨h1.1,h2⟩
   .exact Or.inr ⟨lmc _ h1,h2⟩
theorem Ph (id v : Int) : ∀ (l : List Ch) (d : Bool),(l.Pairwise fun a b=>a.group < b.group) -> (withGo id v d l).Pairwise fun a b=>a.group < b.group
 | [],d,_=>by cases d <;> simp [withGo]
 | e :: l,d,h=>by
  obtain ⟨h0,h1⟩:=lpw.1 h
  have ih:=fun d=>Ph id v l d h1
  have hm:=Jh id v l
  unfold withGo
  by_cases hge : id <= e.group
  ·have hT : (withGo id v true l).Pairwise fun a b=>a.group < b.group:=ih true
   have hbig : ∀ c ∈ withGo id v true l,e.group < c.group:=fun c hc=>by
    rcases hm true c hc with ⟨hh,_⟩ | ⟨hh,_⟩
    ·simp at hh
    ·exact h0 c hh
   cases d
   ·by_cases he : e.group = id
    ·simp only [decide_true,bnf,bas,if_true,he,Int.le_refl,decide_true,lan,Bool.or_true,List.singleton_append,lpw]
     exact ⟨fun c hc=>by have:=hbig c hc; show id < c.group; omega,hT⟩
    ·simp only [hge,decide_true,bnf,bas,if_true,he,if_false,Bool.or_true,lca,lna,lpw,lmk,forall_eq_or_imp]
     exact ⟨⟨by show id < e.group; omega,fun c hc=>by have:=hbig c hc; show id < c.group; omega⟩,hbig,hT⟩
   ·by_cases he : e.group = id
    ·simp only [he,Bool.not_true,bfa,bft,if_false,if_true,lan,lna,Bool.true_or]
     exact hT
    ·simp only [he,Bool.not_true,bfa,bft,if_false,lna,Bool.true_or,List.singleton_append,lpw]
     exact ⟨hbig,hT⟩
  ·have he : ¬ e.group = id:=by omega
   simp only [hge,decide_false,Bool.and_false,bft,if_false,he,lna,Bool.or_false,List.singleton_append,lpw]
   refine ⟨fun c hc=>?_,ih d⟩
   rcases hm d c hc with ⟨_,hh⟩ | ⟨hh,_⟩
   ·subst hh
    show e.group < id
    omega
   .exact h0 c hh
theorem Pg (id v : Int) : ∀ (l : List Ch) (d : Bool),(l.Pairwise fun a b=>a.group < b.group) -> Ab ((withGo id v d l).map (·.own)) = Ab (l.map (·.own)) - Aq l id + if d then 0 else v
 | [],d,_=>by cases d <;> simp [withGo,Ab,Aq]
 | e :: l,d,h=>by
  obtain ⟨h0,h1⟩:=lpw.1 h
  have ih:=fun d=>Pg id v l d h1
  unfold withGo Aq
  by_cases he : e.group = id
  ·have hz : Aq l id = 0:=LU (fun c hc=>by have:=h0 c hc; omega)
   cases d <;> simp [he,Ab,ih,hz] <;> omega
  ·by_cases hge : id <= e.group
   .cases d <;> simp [he,hge,Ab,ih] <;> omega
   .cases d <;> simp [he,hge,Ab,ih] <;> omega
theorem ChOk.with {ns : List Nd} {l : List Ch} (h : ChOk ns l) {id v : Int} (hid : (Ao ns id).isSome = true) (hv : 0 <= v) (hs : Ab (l.map (·.own)) - Aq l id + v <= 16777216) : ChOk ns (S3 l id v):=by
 refine ⟨fun c hc=>?_,Ph _ _ _ _ h.inc,fun c hc=>?_,?_⟩
 ·rcases Jh _ _ _ _ c hc with ⟨_,rfl⟩ | ⟨hh,_⟩
  ·exact hid
  ·exact h.known c hh
 ·rcases Jh _ _ _ _ c hc with ⟨hd,rfl⟩ | ⟨hh,_⟩
  ·simp at hd
   show 1 <= v
   omega
  .exact h.pos c hh
 ·unfold S3
  rw [Pg _ _ _ _ h.inc]
  by_cases hz : v = 0
  .simp [hz]; omega
  .simp [hz]; omega
def tot (t : Tr) (f : Int -> Int) (id : Int) : Int:=Ab ((subF t.nodes t.nodes.length id).map f)
theorem Zz {t : Tr} (h : TreeOk t) (f : Int -> Int) {i : Nat} {n : Nd} (hn : t.nodes[i]? = some n) : tot t f n.id = f n.id + Ab ((kidsN t.nodes n.id).map (tot t f)):=by
 have hi : i < t.nodes.length:=(lgs.1 hn).1
 obtain ⟨k,hk⟩ : ∃ k,t.nodes.length = k + 1:=⟨t.nodes.length - 1,by omega⟩
 unfold tot
 have hs : subF t.nodes t.nodes.length n.id = n.id :: (kidsN t.nodes n.id).flatMap (subF t.nodes k):=by rw [hk]; rfl
 rw [hs,lpc,Ab,Oh]
 congr 1
 apply Ls
 intro x hx
 obtain ⟨j,m,hm,hp,rfl⟩:=BR.1 hx
 have hij:=h.kid hn hm hp
 rw [LM h k t.nodes.length j m hm (by omega) (by omega)]
def part (t : Tr) (f : Int -> Int) (i : Nat) (id : Int) : Int:=f id + Ab (((t.nodes.drop i).filter fun m=>decide (m.parent = id)).map fun m=>tot t f m.id)
theorem Z8 (t : Tr) (f : Int -> Int) (id : Int) : part t f t.nodes.length id = f id:=by
 unfold part
 rw [ldl (lrf _)]
 simp [Ab]
theorem QG {t : Tr} (f : Int -> Int) {i : Nat} {n : Nd} (hn : t.nodes[i]? = some n) (id : Int) : part t f i id = part t f (i + 1) id + if id = n.parent then tot t f n.id else 0:=by
 obtain ⟨hi,he⟩:=lgs.1 hn
 unfold part
 rw [ldg hi,he]
 by_cases h : n.parent = id
 ·simp only [lfl,h,decide_true,if_true,lpc,Ab]
  omega
 ·have h' : ¬ id = n.parent:=fun hh=>h hh.symm
  simp only [lfl,h,h',decide_false,bft,if_false]
  omega
theorem Mr {t : Tr} (h : TreeOk t) (f : Int -> Int) {i k : Nat} {n : Nd} (hn : t.nodes[i]? = some n) (hk : k <= i + 1) : part t f k n.id = tot t f n.id:=by
 rw [Zz h f hn]
 unfold part kidsN
 rw [List.map_map]
 congr 1
 have : t.nodes.filter (fun m=>decide (m.parent = n.id)) = (t.nodes.drop k).filter (fun m=>decide (m.parent = n.id)):=by
  conv=>lhs; rw [<- List.take_append_drop k t.nodes,List.filter_append]
  have : (t.nodes.take k).filter (fun m=>decide (m.parent = n.id)) = []:=by
   rw [List.filter_eq_nil_iff]
   intro m hm
   obtain ⟨j,hj⟩:=lgm hm
   have hjk : j < k:=by
    have:=(lgs.1 hj).1
    simp at this
    omega
   rw [List.getElem?_take_of_lt hjk] at hj
   simp only [decide_eq_true_eq]
   intro hp
   have:=h.kid hn hj hp
   omega
  rw [this,lna]
 rw [this]
 rfl
theorem Hb (t : Tr) {f : Int -> Int} (hf : ∀ x,0 <= f x) (id : Int) : 0 <= tot t f id:=Cs _ (fun x _=>hf x)
theorem zbt {t : Tr} (h : TreeOk t) {f : Int -> Int} (hf : ∀ x,0 <= f x) {i : Nat} {n : Nd} (hn : t.nodes[i]? = some n) (k : Nat) : part t f k n.id <= tot t f n.id:=by
 rw [<- Mr h f hn (Nat.zero_le _)]
 unfold part
 rw [List.drop_zero]
 have h1 : t.nodes.filter (fun m=>decide (m.parent = n.id)) = (t.nodes.take k).filter (fun m=>decide (m.parent = n.id)) ++ (t.nodes.drop k).filter (fun m=>decide (m.parent = n.id)):=by
  rw [<- List.filter_append,List.take_append_drop]
 rw [h1,lma,Ds]
 have:=Cs ((t.nodes.take k).filter (fun m=>decide (m.parent = n.id))) (f:=fun m=>tot t f m.id) (fun m _=>Hb t hf _)
 omega
theorem WH (t : Tr) {f : Int -> Int} (hf : ∀ x,0 <= f x) (i : Nat) (id : Int) : 0 <= part t f i id:=by
 unfold part
 have h1:=hf id
 have:=Cs ((t.nodes.drop i).filter (fun m=>decide (m.parent = id))) (f:=fun m=>tot t f m.id) (fun m _=>Hb t hf _)
 omega
theorem Fi {t : Tr} (h : TreeOk t) {i : Nat} {n : Nd} (hn : t.nodes[i]? = some n) : (subF t.nodes t.nodes.length n.id).Nodup:=He h _ _ _ hn (by omega)
theorem MW {t : Tr} (h : TreeOk t) {i : Nat} {n : Nd} (hn : t.nodes[i]? = some n) (x : Int) : x ∈ subF t.nodes t.nodes.length n.id ↔ ∃ (j : Nat) (m : Nd),t.nodes[j]? = some m /\ m.id = x /\ n.id ∈ ancF t.nodes t.nodes.length m.id:=DQ h _ _ _ hn (by omega) x
theorem M6 {t : Tr} (h : TreeOk t) {l : List Ch} (hl : ChOk t.nodes l) {i : Nat} {n : Nd} (hn : t.nodes[i]? = some n) : tot t (Aq l) n.id <= Ab (l.map (·.own)):=Xk hl.pos _ (Fi h hn)
theorem zbh {t : Tr} (h : TreeOk t) (f : Int -> Int) {i j : Nat} {n m : Nd} (hn : t.nodes[i]? = some n) (hm : t.nodes[j]? = some m) (v : Int) : tot t (fun x=>if x = m.id then v else f x) n.id = tot t f n.id + if n.id ∈ ancF t.nodes t.nodes.length m.id then v - f m.id else 0:=by
 unfold tot
 rw [JZ _ _ _ _ (Fi h hn)]
 congr 1
 have : m.id ∈ subF t.nodes t.nodes.length n.id ↔ n.id ∈ ancF t.nodes t.nodes.length m.id:=by
  rw [MW h hn]
  constructor
  ·rintro ⟨k,p,hp,he,ha⟩
   rwa [he] at ha
  ·intro ha
   exact ⟨j,m,hm,rfl,ha⟩
 simp only [this]
structure Hg where
 group : Int
 file : Int
 anon : Int
 swap : Int
 deriving DecidableEq
def Hg.pv (h : Hg) : PV:=.agg [.int .i64 h.group,.int .i64 h.file,.int .i64 h.anon,.int .i64 h.swap]
abbrev Hg.vv (h : Hg) : VVal:=.agg [.p (.int .i64 h.group),.p (.int .i64 h.file),.p (.int .i64 h.anon),.p (.int .i64 h.swap)]
abbrev Bc (l : List Hg) : PV:=.slice 4 (l.map Hg.pv)
attribute [go_sem] Hg.pv
theorem zaC (l : List Hg) : (l.map Hg.pv).all PV.flat = true:=by
 rw [List.all_eq_true]
 intro x hx
 obtain ⟨n,_,rfl⟩:=lmm.1 hx
 rfl
attribute [go_sem] zaC
structure Stk where
 hs : List Hg
 size : Int
abbrev Stk.vv (s : Stk) : VVal:=.agg [.p (Bc s.hs),.p (.int .i64 s.size)]
abbrev Stk.fv (s : Stk) : VVal:=.agg [.fresh 4 (s.hs.map Hg.pv),.p (.int .i64 s.size)]
abbrev noH (id : Int) : Hg:=⟨id,0,0,0⟩
def Ac : List Hg -> Int -> Hg
 | [],id=>noH id
 | h :: l,id=>if h.group = id then h else Ac l id
theorem Dd : ∀ (l : List Hg) (id : Int),(Ac l id).group = id
 | [],_=>rfl
 | h :: l,id=>by
  unfold Ac
  split
  .assumption
  .exact Dd l id
theorem Y0 {l : List Hg} {id : Int} (h : ∀ x ∈ l,x.group ≠ id) : Ac l id = noH id:=by
 induction l with
 | nil=>rfl
 | cons x l ih =>
  unfold Ac
  rw [if_neg (h x (by simp))]
  exact ih fun y hy=>h y (by simp [hy])
theorem MG {l : List Hg} {id : Int} : Ac l id = noH id \/ Ac l id ∈ l:=by
 induction l with
 | nil=>exact Or.inl rfl
 | cons x l ih =>
  unfold Ac
  split
  ·exact Or.inr (by simp)
  ·rcases ih with h | h
   .exact Or.inl h
   .exact Or.inr (by simp [h])
def C5 (h : Hg) : Bool:=decide (h.file = 0) && decide (h.anon = 0) && decide (h.swap = 0)
theorem Qe {h : Hg} : C5 h = true ↔ h = noH h.group:=by
 obtain ⟨g,a,b,c⟩:=h
 simp only [C5,bat,decide_eq_true_eq,noH,Hg.mk.injEq,true_and,and_assoc]
def putGo (h : Hg) : Bool -> List Hg -> List Hg
 | d,[]=>if d then [] else [h]
 | d,x :: l=>(if !d && decide (h.group <= x.group) then [h] else []) ++ (if x.group = h.group then [] else [x]) ++ putGo h (d || decide (h.group <= x.group)) l
def putS (l : List Hg) (h : Hg) : List Hg:=putGo h (C5 h) l
theorem QB (h : Hg) (x : Int) : ∀ (l : List Hg) (d : Bool),Ac (putGo h d l) x = if x = h.group then (if d then noH x else h) else Ac l x
 | [], d=>by
  cases d
  ·by_cases hx : h.group = x
   ·simp [putGo,Ac,hx]
   ·have hx' : ¬ x = h.group:=fun e=>hx e.symm
    simp [putGo,Ac,hx,hx']
  ·by_cases hx : x = h.group <;> simp [putGo,Ac,hx]
 | c :: l,d=>by
  have ih:=QB h x l
  unfold putGo
  cases d
  ·by_cases h1 : h.group <= c.group
   ·by_cases h2 : c.group = h.group
    ·by_cases h3 : x = h.group
     ·simp [h2,h3,Ac]
     ·have h3' : ¬ h.group = x:=fun e=>h3 e.symm
      simp [h2,h3,h3',Ac,ih]
    ·by_cases h3 : x = h.group
     ·simp [h1,h2,h3,Ac]
     ·have h3' : ¬ h.group = x:=fun e=>h3 e.symm
      simp [h1,h2,h3,h3',Ac,ih]
   ·have h2 : ¬ c.group = h.group:=by omega
    by_cases h3 : x = h.group
    ·subst h3
     simp [h1,h2,Ac,ih]
    ·simp [h1,h2,h3,Ac,ih]
  ·by_cases h2 : c.group = h.group
   ·by_cases h3 : x = h.group
    ·subst h3
     simp [h2,ih]
    ·have h3' : ¬ h.group = x:=fun e=>h3 e.symm
     simp [h2,h3,h3',Ac,ih]
   ·by_cases h3 : x = h.group
    ·subst h3
     simp [h2,Ac,ih]
    .simp [h2,h3,Ac,ih]
theorem JK (l : List Hg) (h : Hg) (x : Int) : Ac (putS l h) x = if x = h.group then h else Ac l x:=by
 unfold putS
 rw [QB]
 by_cases hx : x = h.group
 ·rw [if_pos hx,if_pos hx]
  by_cases hz : C5 h = true
  ·rw [if_pos hz,hx]
   exact (Qe.1 hz).symm
  .rw [if_neg hz]
 .rw [if_neg hx,if_neg hx]
theorem LT (h : Hg) : ∀ (l : List Hg) (d : Bool),∀ c ∈ putGo h d l,(d = false /\ c = h) \/ (c ∈ l /\ c.group ≠ h.group)
 | [],d,c,hc=>by
  cases d
  ·simp [putGo] at hc; exact Or.inl ⟨rfl,hc⟩
  ·simp [putGo] at hc
 | e :: l,d,c,hc=>by
  unfold putGo at hc
  simp only [lmp] at hc
  rcases hc with (hc | hc) | hc
  ·split at hc
   ·rename_i h
    simp only [bat,Bool.not_eq_true'] at h
    exact Or.inl ⟨h.1,by simpa using hc⟩
   ·simp at hc
  ·split at hc
   ·simp at hc
   ·rename_i h
    simp at hc
    subst hc
    exact Or.inr ⟨lms ..,h⟩
  ·rcases LT h l _ c hc with ⟨h1,h2⟩ | ⟨h1,h2⟩
   ·simp only [Bool.or_eq_false_iff] at h1
    exact Or.inl ⟨h1.1,h2⟩
   .exact Or.inr ⟨lmc _ h1,h2⟩
theorem Z3 {l : List Hg} {h c : Hg} (hc : c ∈ putS l h) : (C5 h = false /\ c = h) \/ (c ∈ l /\ c.group ≠ h.group):=LT h l _ c hc
theorem QA (h : Hg) : ∀ (l : List Hg) (d : Bool),(l.Pairwise fun a b=>a.group < b.group) -> (putGo h d l).Pairwise fun a b=>a.group < b.group
 | [],d,_=>by cases d <;> simp [putGo]
 | e :: l,d,hi=>by
  obtain ⟨h0,h1⟩:=lpw.1 hi
  have ih:=fun d=>QA h l d h1
  have hm:=LT h l
  unfold putGo
  by_cases hge : h.group <= e.group
  ·have hT : (putGo h true l).Pairwise fun a b=>a.group < b.group:=ih true
   have hbig : ∀ c ∈ putGo h true l,e.group < c.group:=fun c hc=>by
    rcases hm true c hc with ⟨hh,_⟩ | ⟨hh,_⟩
    ·simp at hh
    ·exact h0 c hh
   cases d
   ·by_cases he : e.group = h.group
    ·simp only [decide_true,bnf,bas,if_true,he,Int.le_refl,decide_true,lan,Bool.or_true,List.singleton_append,lpw]
     exact ⟨fun c hc=>by have:=hbig c hc; omega,hT⟩
    ·simp only [hge,decide_true,bnf,bas,if_true,he,if_false,Bool.or_true,lca,lna,lpw,lmk,forall_eq_or_imp]
     exact ⟨⟨by omega,fun c hc=>by have:=hbig c hc; omega⟩,hbig,hT⟩
   ·by_cases he : e.group = h.group
    ·simp only [he,Bool.not_true,bfa,bft,if_false,if_true,lan,lna,Bool.true_or]
     exact hT
    ·simp only [he,Bool.not_true,bfa,bft,if_false,lna,Bool.true_or,List.singleton_append,lpw]
     exact ⟨hbig,hT⟩
  ·have he : ¬ e.group = h.group:=by omega
   simp only [hge,decide_false,Bool.and_false,bft,if_false,he,lna,Bool.or_false,List.singleton_append,lpw]
   refine ⟨fun c hc=>?_,ih d⟩
   rcases hm d c hc with ⟨_,hh⟩ | ⟨hh,_⟩
   ·subst hh
    omega
   .exact h0 c hh
theorem Qz {f : Hg -> Int} (hf : ∀ id,f (noH id) = 0) (h : Hg) : ∀ (l : List Hg) (d : Bool),(l.Pairwise fun a b=>a.group < b.group) -> Ab ((putGo h d l).map f) = Ab (l.map f) - f (Ac l h.group) + if d then 0 else f h
 | [],d,_=>by cases d <;> simp [putGo,Ab,Ac,hf]
 | e :: l,d,hi=>by
  obtain ⟨h0,h1⟩:=lpw.1 hi
  have ih:=fun d=>Qz hf h l d h1
  unfold putGo Ac
  by_cases he : e.group = h.group
  ·have hz : f (Ac l h.group) = 0:=by rw [Y0 (fun c hc=>by have:=h0 c hc; omega),hf]
   cases d <;> simp [he,Ab,ih,hz] <;> omega
  ·by_cases hge : h.group <= e.group
   .cases d <;> simp [he,hge,Ab,ih] <;> omega
   .cases d <;> simp [he,hge,Ab,ih] <;> omega
theorem JJ {f : Hg -> Int} (hf : ∀ id,f (noH id) = 0) {l : List Hg} (hi : l.Pairwise fun a b=>a.group < b.group) (h : Hg) : Ab ((putS l h).map f) = Ab (l.map f) - f (Ac l h.group) + f h:=by
 unfold putS
 rw [Qz hf h l _ hi]
 by_cases hz : C5 h = true
 ·have : f h = 0:=by rw [Qe.1 hz]; exact hf _
  simp [hz,this]
 .simp [hz]
theorem Oo (h : Hg) : ∀ (l : List Hg) (d : Bool),(putGo h d l).length <= l.length + (if d then 0 else 1)
 | [],d=>by cases d <;> simp [putGo]
 | c :: l,d=>by
  have ih:=Oo h l
  unfold putGo
  have h1:=ih true
  have h2:=ih false
  cases d <;> by_cases hge : h.group <= c.group <;> by_cases he : c.group = h.group <;> simp [hge,he] <;> simp at h1 h2 <;> omega
theorem WG (l : List Hg) (h : Hg) : (putS l h).length <= l.length + 1:=by
 have:=Oo h l (C5 h)
 unfold putS
 split at this <;> omega
def Ax (n : Int) : Prop:=0 <= n /\ n <= 16777216
structure HgOk (ns : List Nd) (size : Int) (l : List Hg) : Prop where
 known : ∀ h ∈ l,(Ao ns h.group).isSome = true
 inc : l.Pairwise fun a b=>a.group < b.group
 file : ∀ h ∈ l,Ax h.file
 anon : ∀ h ∈ l,Ax h.anon
 swap : ∀ h ∈ l,Ax h.swap
 some : ∀ h ∈ l,h.file + h.anon + h.swap ≠ 0
 mem : Ab (l.map fun h=>h.file + h.anon) <= 16777216
 out : Ab (l.map (·.swap)) <= size
def DI (ns : List Nd) (z : Int) : Option Int -> Int -> Int -> List Hg -> Bool
 | _,_,_,[]=>true
 | p,m,s,h :: l=>(Ao ns h.group).isSome && prevOk p h.group && (decide (0 <= h.file) && decide (h.file <= 16777216)) && (decide (0 <= h.anon) && decide (h.anon <= 16777216)) && (decide (0 <= h.swap) && decide (h.swap <= 16777216)) && decide (h.file + h.anon + h.swap ≠ 0) && decide (m + (h.file + h.anon) <= 16777216) && decide (s + h.swap <= z) && DI ns z (some h.group) (m + (h.file + h.anon)) (s + h.swap) l
theorem Q9 (ns : List Nd) (z : Int) (p : Option Int) (m s : Int) (h : Hg) (l : List Hg) : DI ns z p m s (h :: l) = ((Ao ns h.group).isSome && prevOk p h.group && (decide (0 <= h.file) && decide (h.file <= 16777216)) && (decide (0 <= h.anon) && decide (h.anon <= 16777216)) && (decide (0 <= h.swap) && decide (h.swap <= 16777216)) && decide (h.file + h.anon + h.swap ≠ 0) && decide (m + (h.file + h.anon) <= 16777216) && decide (s + h.swap <= z) && DI ns z (some h.group) (m + (h.file + h.anon)) (s + h.swap) l):=by simp only [DI]
theorem JB (ns : List Nd) (z : Int) : ∀ (l : List Hg) (p : Option Int) (m s : Int),m <= 16777216 -> s <= z -> (DI ns z p m s l = true ↔
  (∀ h ∈ l,(Ao ns h.group).isSome = true) /\ (l.Pairwise fun a b=>a.group < b.group) /\ (∀ q,p = some q -> ∀ h ∈ l,q < h.group) /\ (∀ h ∈ l,Ax h.file) /\ (∀ h ∈ l,Ax h.anon) /\ (∀ h ∈ l,Ax h.swap) /\ (∀ h ∈ l,h.file + h.anon + h.swap ≠ 0) /\ m + Ab (l.map fun h=>h.file + h.anon) <= 16777216 /\ s + Ab (l.map (·.swap)) <= z)
 | [],p,m,s,hm,hs=>by simp [DI,Ab]; omega
 | h :: l,p,m,s,hm,hs=>by
  have hp : prevOk p h.group = true ↔ ∀ q,p = some q -> q < h.group:=by
   cases p <;> simp [prevOk]
  simp only [DI,bat,decide_eq_true_eq,hp,lmk,forall_eq_or_imp,lpw,lpc,Ab]
  constructor
  ·rintro ⟨⟨⟨⟨⟨⟨⟨⟨h1,h2⟩,h3⟩,h4⟩,h5⟩,h6⟩,h7⟩,h8⟩,h9⟩
   obtain ⟨a1,a2,a3,a4,a5,a6,a7,a8,a9⟩:=(JB ns z l (some h.group) _ _ h7 h8).1 h9
   refine ⟨⟨h1,a1⟩,⟨a3 _ rfl,a2⟩,fun q hq=>⟨h2 q hq,fun d hd=>?_⟩,⟨h3,a4⟩,⟨h4,a5⟩,⟨h5,a6⟩,⟨h6,a7⟩,by omega,by omega⟩
   have:=h2 q hq
   have:=a3 _ rfl d hd
   omega
  ·rintro ⟨⟨h1,a1⟩,⟨a3,a2⟩,h2,⟨h3,a4⟩,⟨h4,a5⟩,⟨h5,a6⟩,⟨h6,a7⟩,a8,a9⟩
   have hn:=Cs l (f:=fun h : Hg=>h.file + h.anon) (fun x hx=>by have:=(a4 x hx).1; have:=(a5 x hx).1; omega)
   have hn2:=Cs l (f:=fun h : Hg=>h.swap) (fun x hx=>(a6 x hx).1)
   refine ⟨⟨⟨⟨⟨⟨⟨⟨h1,fun q hq=>(h2 q hq).1⟩,h3⟩,h4⟩,h5⟩,h6⟩,by omega⟩,by omega⟩,(JB ns z l (some h.group) _ _ (by omega) (by omega)).2 ⟨a1,a2,fun q hq=>?_,a4,a5,a6,a7,by omega,by omega⟩⟩
   cases hq
   exact a3
def BJ (t : Tr) (s : Stk) : Bool:=AF t && (decide (0 <= s.size) && decide (s.size <= 16777216)) && DI t.nodes s.size none 0 0 s.hs
structure StkOk (t : Tr) (s : Stk) : Prop where
 tree : TreeOk t
 z0 : 0 <= s.size
 z1 : s.size <= 16777216
 hs : HgOk t.nodes s.size s.hs
theorem Dc (t : Tr) (s : Stk) : BJ t s = true ↔ StkOk t s:=by
 simp only [BJ,bat,decide_eq_true_eq,A5]
 constructor
 ·rintro ⟨⟨h1,h2,h3⟩,h4⟩
  obtain ⟨a1,a2,_,a4,a5,a6,a7,a8,a9⟩:=(JB t.nodes s.size s.hs none 0 0 (by omega) h2).1 h4
  exact ⟨h1,h2,h3,⟨a1,a2,a4,a5,a6,a7,by omega,by omega⟩⟩
 ·rintro ⟨h1,h2,h3,h4⟩
  exact ⟨⟨h1,h2,h3⟩,(JB t.nodes s.size s.hs none 0 0 (by omega) h2).2 ⟨h4.known,h4.inc,fun q hq=>by simp at hq,h4.file,h4.anon,h4.swap,h4.some,by have:=h4.mem; omega,by have:=h4.out; omega⟩⟩
theorem HgOk.get {ns : List Nd} {z : Int} {l : List Hg} (h : HgOk ns z l) (id : Int) : Ax (Ac l id).file /\ Ax (Ac l id).anon /\ Ax (Ac l id).swap:=by
 rcases MG (l:=l) (id:=id) with he | he
 ·rw [he]
  simp [Ax]
 .exact ⟨h.file _ he,h.anon _ he,h.swap _ he⟩
theorem HgOk.put {ns : List Nd} {z : Int} {l : List Hg} (h : HgOk ns z l) {x : Hg} (hk : (Ao ns x.group).isSome = true) (h1 : Ax x.file) (h2 : Ax x.anon) (h3 : Ax x.swap) (hm : Ab (l.map fun h=>h.file + h.anon) - ((Ac l x.group).file + (Ac l x.group).anon) + (x.file + x.anon) <= 16777216) (hs : Ab (l.map (·.swap)) - (Ac l x.group).swap + x.swap <= z) : HgOk ns z (putS l x):=by
 have hmem:=fun c (hc : c ∈ putS l x)=>Z3 hc
 refine ⟨fun c hc=>?_,QA _ _ _ h.inc,fun c hc=>?_,fun c hc=>?_,fun c hc=>?_,fun c hc=>?_,?_,?_⟩
 ·rcases hmem c hc with ⟨_,rfl⟩ | ⟨hh,_⟩
  ·exact hk
  ·exact h.known c hh
 ·rcases hmem c hc with ⟨_,rfl⟩ | ⟨hh,_⟩
  ·exact h1
  ·exact h.file c hh
 ·rcases hmem c hc with ⟨_,rfl⟩ | ⟨hh,_⟩
  ·exact h2
  ·exact h.anon c hh
 ·rcases hmem c hc with ⟨_,rfl⟩ | ⟨hh,_⟩
  ·exact h3
  ·exact h.swap c hh
 ·rcases hmem c hc with ⟨hz,rfl⟩ | ⟨hh,_⟩
  ·intro h0
   have:=h1.1
   have:=h2.1
   have:=h3.1
   have : C5 c = true:=by simp only [C5,bat,decide_eq_true_eq]; omega
   rw [this] at hz
   cases hz
  .exact h.some c hh
 ·rw [JJ (f:=fun h=>h.file + h.anon) (fun _=>rfl) h.inc]
  exact hm
 ·rw [JJ (f:=fun h=>h.swap) (fun _=>rfl) h.inc]
  exact hs
def BY (x : Int) : List Int -> List Int
 | []=>[x]
 | y :: ys=>if x < y then x :: y :: ys else if x = y then y :: ys else y :: BY x ys
def CH (l : List Int) : List Int:=l.foldl (fun acc x=>BY x acc) []
theorem MA {x z : Int} : ∀ (l : List Int),z ∈ BY x l ↔ z = x \/ z ∈ l
 | []=>by simp [BY]
 | y :: ys=>by
  unfold BY
  split
  ·simp
  ·split
   ·rename_i h
    subst h
    simp
   ·simp only [lmk,MA ys]
    constructor
    ·rintro (h | h | h)
     .exact Or.inr (Or.inl h)
     .exact Or.inl h
     .exact Or.inr (Or.inr h)
    ·rintro (h | h | h)
     .exact Or.inr (Or.inl h)
     .exact Or.inl h
     .exact Or.inr (Or.inr h)
theorem RW {x : Int} : ∀ (l : List Int),(l.Pairwise fun a b=>a < b) -> (BY x l).Pairwise fun a b=>a < b
 | [],_=>by simp [BY]
 | y :: ys,h=>by
  obtain ⟨h1,h2⟩:=lpw.1 h
  unfold BY
  split
  ·rename_i hlt
   refine lpw.2 ⟨fun z hz=>?_,h⟩
   rcases lmk.1 hz with rfl | hz
   ·exact hlt
   ·have:=h1 z hz
    omega
  ·split
   ·exact h
   ·refine lpw.2 ⟨fun z hz=>?_,RW ys h2⟩
    rcases (MA ys).1 hz with rfl | hz
    .omega
    .exact h1 z hz
theorem O2 {x : Int} : ∀ (l : List Int),(BY x l).length <= l.length + 1
 | []=>by simp [BY]
 | y :: ys=>by
  have:=O2 (x:=x) ys
  unfold BY
  split
  .simp
  .split <;> simp <;> omega
theorem Xn (l : List Int) (x : Int) : CH (l ++ [x]) = BY x (CH l):=by simp [CH]
theorem OQ {z : Int} : ∀ (l acc : List Int),z ∈ l.foldl (fun acc x=>BY x acc) acc ↔ z ∈ l \/ z ∈ acc
 | [],acc=>by simp
 | x :: l,acc=>by
  rw [List.foldl_cons,OQ l,MA,lmk]
  constructor
  ·rintro (h | h | h)
   .exact Or.inl (Or.inr h)
   .exact Or.inl (Or.inl h)
   .exact Or.inr h
  ·rintro ((h | h) | h)
   .exact Or.inr (Or.inl h)
   .exact Or.inl h
   .exact Or.inr (Or.inr h)
theorem YQ {l : List Int} {z : Int} : z ∈ CH l ↔ z ∈ l:=by
 rw [CH,OQ]
 simp
theorem PB : ∀ (l acc : List Int),(acc.Pairwise fun a b=>a < b) -> (l.foldl (fun acc x=>BY x acc) acc).Pairwise fun a b=>a < b
 | [],_,h=>h
 | x :: l,acc,h=>PB l _ (RW acc h)
theorem Qp (l : List Int) : (CH l).Pairwise fun a b=>a < b:=PB l [] List.Pairwise.nil
theorem Qo : ∀ (l acc : List Int),(l.foldl (fun acc x=>BY x acc) acc).length <= l.length + acc.length
 | [],acc=>by simp
 | x :: l,acc=>by
  have h1:=Qo l (BY x acc)
  have h2:=O2 (x:=x) acc
  rw [List.foldl_cons,llc]
  omega
theorem Ok (l : List Int) : (CH l).length <= l.length:=by
 have:=Qo l []
 simpa [CH] using this
theorem MY {x : Int} : ∀ (out : List Int) (k : Nat),(out.Pairwise fun a b=>a < b) -> (∀ y ∈ out.take k,y < x) -> (∀ y ∈ out.drop k,x < y) -> BY x out = out.take k ++ x :: out.drop k
 | [],k,_,_,_=>by simp [BY]
 | y :: ys,0,h,_,h2=>by
  have:=h2 y (by simp)
  simp [BY,this]
 | y :: ys,k + 1,h,h1,h2=>by
  have hy:=h1 y (by simp)
  have ih:=MY ys k (lpw.1 h).2 (fun z hz=>h1 z (by simp [hz])) (fun z hz=>h2 z (by simpa using hz))
  unfold BY
  rw [if_neg (by omega),if_neg (by omega),ih]
  simp
theorem SL {x : Int} : ∀ (out : List Int),(out.Pairwise fun a b=>a < b) -> x ∈ out -> BY x out = out
 | [],_,h=>by simp at h
 | y :: ys,h,hx=>by
  obtain ⟨h1,h2⟩:=lpw.1 h
  unfold BY
  rcases lmk.1 hx with rfl | hx
  ·simp
  ·have:=h1 x hx
   rw [if_neg (by omega),if_neg (by omega),SL ys h2 hx]
theorem SI (out : List Int) (p : Nat) (hp : p <= out.length) : ∃ z,(List.take (↑p + 1 : Int).toNat (List.map (PV.int IntKind.i64) out ++ [PV.int IntKind.i64 0]) ++ List.take (min (out.length + 1 - (↑p + 1 : Int).toNat) (min (out.length + 1 - p) (List.drop p (List.map (PV.int IntKind.i64) out ++ [PV.int IntKind.i64 0])).length)) (List.take (out.length + 1 - p) (List.drop p (List.map (PV.int IntKind.i64) out ++ [PV.int IntKind.i64 0]))) ++ List.drop ((↑p + 1 : Int).toNat + min (min (out.length + 1 - (↑p + 1 : Int).toNat) (min (out.length + 1 - p) (List.drop p (List.map (PV.int IntKind.i64) out ++ [PV.int IntKind.i64 0])).length)) (min (out.length + 1 - p) (List.drop p (List.map (PV.int IntKind.i64) out ++ [PV.int IntKind.i64 0])).length)) (List.map (PV.int IntKind.i64) out ++ [PV.int IntKind.i64 0])) = List.map (PV.int IntKind.i64) (out.take p ++ z :: out.drop p):=by
 have e0 : List.map (PV.int IntKind.i64) out ++ [PV.int IntKind.i64 0] = List.map (PV.int IntKind.i64) (out ++ [0]):=by simp
 have e1 : (↑p + 1 : Int).toNat = p + 1:=by omega
 have e2 : (List.drop p (List.map (PV.int IntKind.i64) (out ++ [0]))).length = out.length + 1 - p:=by simp
 have e3 : min (out.length + 1 - (p + 1)) (min (out.length + 1 - p) (out.length + 1 - p)) = out.length - p:=by omega
 have e4 : min (out.length - p) (min (out.length + 1 - p) (out.length + 1 - p)) = out.length - p:=by omega
 rw [e0,e1,e2,e3]
 have e5 : min (out.length - p) (out.length + 1 - p) = out.length - p:=by omega
 have e6 : p + 1 + min (out.length - p) (min (out.length + 1 - p) (out.length + 1 - p)) = out.length + 1:=by omega
 refine ⟨(out ++ [0])[p]'(by simp; omega),?_⟩
 rw [e6,List.take_take,e5,ldl (i:=out.length + 1) (by simp),lan,<- List.map_take,<- List.map_drop,<- List.map_take,<- lma]
 congr 1
 rw [List.take_succ_eq_append_getElem (by simp; omega),List.take_append_of_le_length hp,List.drop_append_of_le_length hp,List.take_left' (by simp)]
 simp
theorem SK (out : List Int) (p : Nat) (z : Int) (hp : p <= out.length) : (List.map (PV.int IntKind.i64) (out.take p ++ z :: out.drop p))[p]? = some (PV.int .i64 z):=by
 rw [List.getElem?_map,lgr (by simp; omega)]
 simp [Nat.min_eq_left hp]
theorem SH (out : List Int) (p : Nat) (x z : Int) (hp : p <= out.length) : (List.map (PV.int IntKind.i64) (out.take p ++ z :: out.drop p)).set p (PV.int .i64 x) = List.map (PV.int IntKind.i64) (out.take p ++ x :: out.drop p):=by
 rw [lma,List.set_append_right _ _ (by simp; omega)]
 simp [Nat.min_eq_left hp]
theorem SJ (out : List Int) (p : Nat) (x : Int) (hp : p <= out.length) : (out.take p ++ x :: out.drop p).length = out.length + 1:=by
 simp
 omega
theorem PI (l : List Int) (hl : l.length < 1000000) : V 137 [.p (AT l)] [] = some (.fresh 1 ((CH l).map (.int .i64)),[]):=by
 refine Ag (vf:=vf137) rfl ?_
 simp -implicitDefEqProofs (disch:=omega) only [vf137,Tk,go_sem]
 obtain ⟨I,hI⟩:=lpI fun k s=>∃ (out : List Int) (ww : Nat),out = CH (l.take k) /\ s.pe 0 = .p (AT l) /\ s.pe 3 = .own (.slot 3 0) ww 0 out.length /\ s.pe 4 = .p (.int .i64 k) /\ s.h (.slot 3 0) = some (ww,Ob.arr 1 (out.map (.int .i64)))
 refine Al (l.length) I ?_ ?_
 ·refine (hI _ _).2 ⟨[],0,?_⟩
  and_intros
  ·exact cl3
  all_goals exact cl0
 intro k s hk hIk
 obtain ⟨out,ww,hout,h0,h3,h4,hh3_0⟩:=(hI _ _).1 hIk
 clear hIk
 have hinc : out.Pairwise fun a b=>a < b:=hout ▸ Qp _
 have holen : out.length <= k:=by
  have := Ok (l.take k)
  rw [List.length_take] at this
  rw [hout]
  omega
 simp -implicitDefEqProofs (disch:=omega) only [h0,h4,go_sem]
 refine Ah (fun hlt=>?_) (fun hge=>?_)
 ·have hm : l[k]? = some l[k]:=lgg hlt
  have htk:=Bf hm
  generalize l[k] = x at hm htk
  have hst : CH (l.take (k + 1)) = BY x out:=by rw [htk,Xn,hout]
  simp -implicitDefEqProofs (disch:=omega) only [h3,hlt,go_sem]
  obtain ⟨J,hJ⟩:=lpI fun j s=>(∀ y ∈ out.drop (out.length - j),x < y) /\ s.pe 0 = .p (AT l) /\ s.pe 3 = .own (.slot 3 0) ww 0 out.length /\ s.pe 4 = .p (.int .i64 ↑k) /\ s.pe 5 = .p (.int .i64 ((out.length - j : Nat) : Int)) /\ s.h (.slot 3 0) = some (ww,Ob.arr 1 (List.map (.int .i64) out))
  refine Al (out.length) J ?_ ?_
  ·refine (hJ _ _).2 ?_
   and_intros
   ·exact by simp
   all_goals exact cl0
  intro j s hj hJk
  obtain ⟨hgt,h0,h3,h4,h5,hh3_0⟩:=(hJ _ _).1 hJk
  clear hJk
  generalize hp : out.length - j = p at hgt h5
  by_cases hp0 : 0 < p
  ·have hy : out[p - 1]? = some out[p - 1]:=lgg (by omega)
   have hdr : out.drop (p - 1) = out[p - 1] :: out.drop p:=by
    rw [ldg (by omega),show p - 1 + 1 = p by omega]
   have htp : out.take p = out.take (p - 1) ++ [out[p - 1]]:=by
    have:=Bf hy
    rwa [show p - 1 + 1 = p by omega] at this
   generalize out[p - 1] = y at hy hdr htp
   have hy' : out[((p : Int) - 1).toNat]? = some y:=by rw [<- hy]; congr 1; omega
   have hp1 : (0 : Int) < p:=by omega
   have hp2 : (0 : Int) <= (p : Int) - 1:=by omega
   by_cases hxy : x < y
   ·simp -implicitDefEqProofs (disch:=omega) only [h0,h3,h4,h5,hh3_0,hm,hp1,hp2,hy',hxy,go_sem]
    have hj' : ∀ z ∈ out.drop (out.length - (j + 1)),x < z:=by
     intro z hz
     rw [show out.length - (j + 1) = p - 1 by omega,hdr] at hz
     rcases lmk.1 hz with rfl | hz
     ·exact hxy
     ·exact hgt z hz
    have e9 : ((out.length - (j + 1) : Nat) : Int) = (p : Int) - 1:=by omega
    have hjl : j < out.length:=by omega
    clear hp hout hst
    try refine ai ?_
    refine (hJ _ _).2 ?_
    and_intros
    ·exact hj'
    all_goals exact cl0
   ·by_cases he : y = x
    ·subst he
     have hyy : ¬ y < y:=by omega
     have hs' : out = CH (l.take (k + 1)):=by
      rw [hst,SL out hinc (lmg hy)]
     simp -implicitDefEqProofs (disch:=omega) only [h0,h3,h4,h5,hh3_0,hm,hp1,hp2,hy',hyy,go_sem]
     try refine ai ?_
     refine (hI _ _).2 ⟨out,ww,?_⟩
     and_intros
     ·exact hs'
     all_goals exact cl0
    ·have hlow : ∀ w ∈ out.take p,w < x:=by
      intro w hw
      rw [htp] at hw
      have:=hinc.sublist (List.take_sublist p out)
      rw [htp] at this
      rcases lmp.1 hw with h | h
      ·have:=(List.pairwise_append.1 this).2.2 w h y (by simp)
       omega
      ·have : w = y:=by simpa using h
       omega
     obtain ⟨z,hz⟩:=SI out p (by omega)
     obtain ⟨o',ho'⟩ : ∃ o',o' = out.take p ++ x :: out.drop p:=⟨_,rfl⟩
     have hlen : o'.length = out.length + 1:=by rw [ho']; exact SJ out p x (by omega)
     have hset : ∀ z,(List.map (PV.int IntKind.i64) (out.take p ++ z :: out.drop p)).set p (PV.int .i64 x) = List.map (PV.int IntKind.i64) o':=by
      intro z
      rw [ho']
      exact SH out p x z (by omega)
     have hs' : o' = CH (l.take (k + 1)):=by
      rw [ho',hst,MY out p hinc ?_ hgt]
      exact hlow
     simp -implicitDefEqProofs (disch:=omega) only [h0,h3,h4,h5,hh3_0,hm,hp1,hp2,hy',hxy,he,hz,SK,hset,List.headD_cons,go_sem]
     try refine ai ?_
     refine (hI _ _).2 ⟨o',ww + 1,?_⟩
     and_intros
     .exact hs'
     all_goals exact cl0
  ·have hp1 : ¬ (0 : Int) < p:=by omega
   obtain ⟨z,hz⟩:=SI out p (by omega)
   obtain ⟨o',ho'⟩ : ∃ o',o' = out.take p ++ x :: out.drop p:=⟨_,rfl⟩
   have hlen : o'.length = out.length + 1:=by rw [ho']; exact SJ out p x (by omega)
   have hset : ∀ z,(List.map (PV.int IntKind.i64) (out.take p ++ z :: out.drop p)).set p (PV.int .i64 x) = List.map (PV.int IntKind.i64) o':=by
    intro z
    rw [ho']
    exact SH out p x z (by omega)
   have hs' : o' = CH (l.take (k + 1)):=by
    rw [ho',hst,MY out p hinc ?_ hgt]
    intro w hw
    rw [show p = 0 by omega] at hw
    simp at hw
   simp -implicitDefEqProofs (disch:=omega) only [h0,h3,h4,h5,hh3_0,hm,hp1,hz,SK,hset,List.headD_cons,go_sem]
   try refine ai ?_
   refine (hI _ _).2 ⟨o',ww + 1,?_⟩
   and_intros
   .exact hs'
   all_goals exact cl0
 ·rw [ltl (by omega)] at hout
  simp -implicitDefEqProofs (disch:=omega) only [h3,hh3_0,hge,go_sem]
  rw [hout]
abbrev Dq (l : List Ch) : VVal:=.agg [.p (AP l)]
abbrev IQ (l : List Ch) : VVal:=.agg [.fresh 2 (l.map Ch.pv)]
theorem zbm (l : List Ch) (id : Int) (hl : l.length < 1000000) : V 158 [Dq l,.p (.int .i64 id)] [] = some (.p (.int .i64 (Aq l id)),[]):=by
 refine Ag (vf:=vf158) rfl ?_
 simp -implicitDefEqProofs (disch:=omega) only [vf158,S6,go_sem]
 refine Al l.length (fun k s=>Aq l id = Aq (l.drop k) id /\ s.pe 1 = .p (.int .i64 id) /\ s.pe 2 = .ptr (.slot 2 0) 0 0 /\ s.pe 5 = .p (.int .i64 k) /\ s.h (.slot 2 0) = some (0,.box [.p (AP l)])) ?_ ?_
 ·exact ⟨rfl,rfl,rfl,rfl,rfl⟩
 ·rintro k s hk ⟨ho,h1,h2,h5,hh2⟩
  simp -implicitDefEqProofs (disch:=omega) only [h2,h5,hh2,go_sem]
  refine Ah (fun hlt=>?_) (fun hge=>?_)
  ·have hm : l[k]? = some l[k]:=lgg hlt
   have hd : l.drop k = l[k] :: l.drop (k + 1):=ldg hlt
   generalize l[k] = c at hm hd
   rw [hd,Aq] at ho
   by_cases he : c.group = id
   ·rw [if_pos he] at ho
    simp -implicitDefEqProofs (disch:=omega) only [h1,h2,h5,hh2,hlt,hm,he,ho,go_sem]
   ·rw [if_neg he] at ho
    simp -implicitDefEqProofs (disch:=omega) only [h1,h2,h5,hh2,hlt,hm,he,go_sem]
    exact ⟨ho,rfl⟩
  ·rw [ldl (by omega),Aq] at ho
   simp -implicitDefEqProofs (disch:=omega) only [hge,ho,go_sem]
def Dx (t : Tr) (l : List Ch) : Bool:=AF t && CX t.nodes none 0 l
theorem L3 (t : Tr) (l : List Ch) (hf : t.Fits) (hn : t.nodes.length < 1000000) (hl : l.length < 1000000) : V 111 [t.vv,.agg [.p (AP l)]] [] = some (.p (.bool (Dx t l)),[]):=by
 refine Ag (vf:=vf111) rfl ?_
 have hc := Gi t hf hn
 unfold Dx
 cases ht : AF t with
 | false =>
  rw [ht] at hc
  simp -implicitDefEqProofs (disch:=omega) only [vf111,Nl,hc,bfa,go_sem]
 | true =>
  rw [ht] at hc
  simp -implicitDefEqProofs (disch:=omega) only [vf111,Nl,hc,go_sem]
  rw [Bool.true_and]
  refine Al l.length (fun k s=>∃ (p : Option Int) (q : Int),CX t.nodes none 0 l = CX t.nodes p q (l.drop k) /\ (k = 0 -> p = none) /\ (∀ j,k = j + 1 -> ∃ c,l[j]? = some c /\ p = some c.group) /\ 0 <= q /\ q <= 16777216 /\ s.pe 2 = .ptr (.slot 2 0) 0 0 /\ s.pe 3 = .ptr (.slot 3 0) 0 0 /\ s.pe 5 = .p (.int .i64 q) /\ s.pe 14 = .p (AP l) /\ s.pe 15 = .p (.int .i64 l.length) /\ s.pe 16 = .p (.int .i64 k) /\ s.h (.slot 2 0) = some (0,.box [.p (Au t.nodes),.p (.int .i64 t.next)]) /\ s.h (.slot 3 0) = some (0,.box [.p (AP l)])) ?_ ?_
  ·exact ⟨none,0,rfl,fun _=>rfl,fun j hj=>by omega,by omega,by omega,rfl,rfl,rfl,rfl,rfl,rfl,rfl,rfl⟩
  ·rintro k s hk ⟨p,q,hq,hp0,hp1,q0,q1,h2,h3,h5,h14,h15,h16,hh2,hh3⟩
   simp -implicitDefEqProofs (disch:=omega) only [h15,h16,go_sem]
   refine Ah (fun hlt=>?_) (fun hge=>?_)
   ·have hm : l[k]? = some l[k]:=lgg hlt
    have hd : l.drop k = l[k] :: l.drop (k + 1):=ldg hlt
    generalize l[k] = c at hm hd
    have hfi:=DR t c.group hn
    rw [hd,Zg] at hq
    cases hfs : (Ao t.nodes c.group).isSome with
    | false =>
     rw [hfs] at hfi
     simp only [hfs,bfa] at hq
     generalize (Ao t.nodes c.group).getD zeroNd = nd at hfi
     simp -implicitDefEqProofs (disch:=omega) only [h2,h14,h16,hh2,hlt,hm,hfi,Nd.vv,hq,go_sem]
    | true =>
     rw [hfs] at hfi
     generalize (Ao t.nodes c.group).getD zeroNd = nd at hfi
     have hfin : ∀ (hpc : prevOk p c.group = true) (ho1 : ¬ c.own < 1) (ho2 : ¬ 16777216 - q < c.own),CX t.nodes none 0 l = CX t.nodes (some c.group) (q + c.own) (l.drop (k + 1)):=by
      intro hpc ho1 ho2
      rw [hq,hfs,hpc,decide_eq_true (show 1 <= c.own by omega),decide_eq_true (show c.own <= 16777216 - q by omega)]
      rfl
     have hbad : ∀ (hb : prevOk p c.group = false \/ c.own < 1 \/ 16777216 - q < c.own),CX t.nodes none 0 l = false:=by
      rintro (hb | hb | hb)
      ·rw [hq,hb]; simp
      ·rw [hq,decide_eq_false (show ¬ 1 <= c.own by omega)]; simp
      ·rw [hq,decide_eq_false (show ¬ c.own <= 16777216 - q by omega)]; simp
     have hnx : ∀ j,k + 1 = j + 1 -> ∃ c',l[j]? = some c' /\ some c.group = some c'.group:=fun j hj=>⟨c,by rw [show j = k by omega]; exact hm,rfl⟩
     by_cases ho1 : c.own < 1
     ·have hb:=hbad (Or.inr (Or.inl ho1))
      by_cases hk0 : (0 : Int) < k
      ·obtain ⟨e,he,hpe⟩:=hp1 (k - 1) (by omega)
       have he' : l[((k : Int) - 1).toNat]? = some e:=by rw [show ((k : Int) - 1).toNat = k - 1 by omega]; exact he
       have hk1 : (0 : Int) <= (k : Int) - 1:=by omega
       by_cases hle : c.group <= e.group
       ·simp -implicitDefEqProofs (disch:=omega) only [h2,h3,h14,h16,hh2,hh3,hlt,hm,hfi,Nd.vv,hk0,hk1,he',hle,hb,go_sem]
       ·simp -implicitDefEqProofs (disch:=omega) only [h2,h3,h14,h16,hh2,hh3,hlt,hm,hfi,Nd.vv,hk0,hk1,he',hle,ho1,hb,go_sem]
      ·simp -implicitDefEqProofs (disch:=omega) only [h2,h14,h16,hh2,hlt,hm,hfi,Nd.vv,hk0,ho1,hb,go_sem]
     ·by_cases ho2 : 16777216 - q < c.own
      ·have hb:=hbad (Or.inr (Or.inr ho2))
       by_cases hk0 : (0 : Int) < k
       ·obtain ⟨e,he,hpe⟩:=hp1 (k - 1) (by omega)
        have he' : l[((k : Int) - 1).toNat]? = some e:=by rw [show ((k : Int) - 1).toNat = k - 1 by omega]; exact he
        have hk1 : (0 : Int) <= (k : Int) - 1:=by omega
        by_cases hle : c.group <= e.group
        ·simp -implicitDefEqProofs (disch:=omega) only [h2,h3,h14,h16,hh2,hh3,hlt,hm,hfi,Nd.vv,hk0,hk1,he',hle,hb,go_sem]
        ·simp -implicitDefEqProofs (disch:=omega) only [h2,h3,h5,h14,h16,hh2,hh3,hlt,hm,hfi,Nd.vv,hk0,hk1,he',hle,ho1,ho2,hb,go_sem]
       ·simp -implicitDefEqProofs (disch:=omega) only [h2,h5,h14,h16,hh2,hlt,hm,hfi,Nd.vv,hk0,ho1,ho2,hb,go_sem]
      ·by_cases hk0 : (0 : Int) < k
       ·obtain ⟨e,he,hpe⟩:=hp1 (k - 1) (by omega)
        have he' : l[((k : Int) - 1).toNat]? = some e:=by rw [show ((k : Int) - 1).toNat = k - 1 by omega]; exact he
        have hk1 : (0 : Int) <= (k : Int) - 1:=by omega
        subst hpe
        by_cases hle : c.group <= e.group
        ·have hb:=hbad (Or.inl (decide_eq_false (by omega)))
         simp -implicitDefEqProofs (disch:=omega) only [h2,h3,h14,h16,hh2,hh3,hlt,hm,hfi,Nd.vv,hk0,hk1,he',hle,hb,go_sem]
        ·have hg:=hfin (decide_eq_true (by omega)) ho1 ho2
         simp -implicitDefEqProofs (disch:=omega) only [h2,h3,h5,h14,h15,h16,hh2,hh3,hlt,hm,hfi,Nd.vv,hk0,hk1,he',hle,ho1,ho2,go_sem]
         exact ⟨some c.group,q + c.own,hg,by simp,fun j hj=>⟨c,hj ▸ hm,rfl⟩,by omega,by omega,rfl,rfl⟩
       ·have hpn:=hp0 (by omega)
        subst hpn
        have hg:=hfin rfl ho1 ho2
        simp -implicitDefEqProofs (disch:=omega) only [h2,h3,h5,h14,h15,h16,hh2,hh3,hlt,hm,hfi,Nd.vv,hk0,ho1,ho2,go_sem]
        exact ⟨some c.group,q + c.own,hg,by simp,fun j hj=>⟨c,hj ▸ hm,rfl⟩,by omega,by omega,rfl,rfl⟩
   ·rw [ldl (by omega),zaZ] at hq
    simp -implicitDefEqProofs (disch:=omega) only [hge,hq,go_sem]
def Rep (ks : List MKey) (vs : List PV) (f : Int -> Int) : Prop:=∀ id,(AN ks vs (.int id)).getD (.int .i64 0) = .int .i64 (f id)
theorem H7 (x k' : MKey) (v' : PV) : ∀ (ks : List MKey) (vs : List PV),AN (At ks vs k' v').1 (At ks vs k' v').2 x = if x = k' then some v' else AN ks vs x
 | [],[]=>by simp [At,AN]
 | [],_ :: _=>by simp [At,AN]
 | _ :: _,[]=>by simp [At,AN]
 | k :: ks,v :: vs=>by
  have ih:=H7 x k' v' ks vs
  by_cases h : k' = k
  ·subst h
   simp only [At,if_true,AN]
   by_cases hx : x = k' <;> simp [hx]
  ·simp only [At,h,if_false,AN,ih]
   by_cases hx : x = k
   ·have : ¬ x = k':=fun hh=>h (hh ▸ hx)
    simp [hx]
    intro hh
    exact absurd hh.symm h
   .simp [hx]
theorem Rep.put {ks : List MKey} {vs : List PV} {f : Int -> Int} (h : Rep ks vs f) (g v : Int) : Rep (At ks vs (.int g) (.int .i64 v)).1 (At ks vs (.int g) (.int .i64 v)).2 (fun x=>if x = g then v else f x):=by
 intro id
 rw [H7]
 by_cases hg : id = g
 ·subst hg
  simp
 ·simp [hg]
  exact h id
theorem QJ (c : Ch) (x : Int) : ∀ (a : List Ch),(∀ d ∈ a,d.group ≠ c.group) -> Aq (a ++ [c]) x = if x = c.group then c.own else Aq a x
 | [],_=>by simp only [lna,Aq,eq_comm]
 | d :: a,h=>by
  have ih:=QJ c x a (fun e he=>h e (lmc _ he))
  have hd:=h d (lms ..)
  simp only [lca,Aq,ih]
  by_cases h1 : d.group = x
  ·have h2 : ¬ x = c.group:=by omega
   simp [h1,h2]
  .simp [h1]
theorem Sj {t : Tr} (h : TreeOk t) {l : List Ch} (hl : ChOk t.nodes l) (hn : t.nodes.length < 1000000) (hll : l.length < 1000000) : ∃ ks vs,V 147 [t.vv,.agg [.p (AP l)]] [] = some (.p (.map (.int .i64) ks vs),[]) /\ ∀ (i : Nat) (n : Nd),t.nodes[i]? = some n -> (AN ks vs (.int n.id)).getD (.int .i64 0) = .int .i64 (tot t (Aq l) n.id):=by
 suffices hw : wp (BW V vf147 [t.vv,.agg [.p (AP l)]] []) (fun r=>∃ ks vs,r = (.p (.map (.int .i64) ks vs),[]) /\ Rep ks vs (part t (Aq l) 1)) by
  obtain ⟨r,hr,ks,vs,rfl,hrep⟩:=hw
  refine ⟨ks,vs,E9 (vf:=vf147) rfl hr,fun i n hi=>?_⟩
  rw [hrep n.id,Mr h _ hi (by omega)]
 obtain ⟨r0,ns0,hns,_,_⟩:=h.root
 have hpos : 1 <= t.nodes.length:=by rw [hns]; simp
 have hf0 : ∀ x,0 <= Aq l x:=ES hl.pos
 simp -implicitDefEqProofs (disch:=omega) only [vf147,Te,go_sem]
 refine Al l.length (fun k s=>∃ ks vs,Rep ks vs (Aq (l.take k)) /\ s.pe 2 = .ptr (.slot 2 0) 0 0 /\ s.pe 5 = .mref (.slot 9 0) 0 /\ s.pe 11 = .p (AP l) /\ s.pe 12 = .p (.int .i64 l.length) /\ s.pe 13 = .p (.int .i64 k) /\ s.h (.slot 2 0) = some (0,.box [.p (Au t.nodes),.p (.int .i64 t.next)]) /\ s.h (.slot 9 0) = some (0,.map (.int .i64) ks vs)) ?_ ?_
 ·exact ⟨[],[],fun id=>rfl,rfl,rfl,rfl,rfl,rfl,rfl,rfl⟩
 ·rintro k s hk ⟨ks,vs,hrep,h2,h5,h11,h12,h13,hh2,hh9⟩
  simp -implicitDefEqProofs (disch:=omega) only [h12,h13,go_sem]
  refine Ah (fun hlt=>?_) (fun hge=>?_)
  ·have hm : l[k]? = some l[k]:=lgg hlt
   have hfresh : ∀ d ∈ l.take k,d.group ≠ l[k].group:=by
    intro d hd
    obtain ⟨j,hj⟩:=lgm hd
    have hjk : j < k:=by
     have:=(lgs.1 hj).1
     simp at this
     omega
    rw [List.getElem?_take_of_lt hjk] at hj
    obtain ⟨hjl,he⟩:=lgs.1 hj
    have:=List.pairwise_iff_getElem.1 hl.inc j k hjl hlt hjk
    rw [he] at this
    omega
   have htk : l.take (k + 1) = l.take k ++ [l[k]]:=by rw [List.take_add_one,hm]; rfl
   generalize l[k] = c at hm hfresh htk
   have hnext:=hrep.put c.group c.own
   rw [show (fun x=>if x = c.group then c.own else Aq (l.take k) x) = Aq (l.take (k + 1)) from by
    funext x
    rw [htk,QJ c x _ hfresh]] at hnext
   simp -implicitDefEqProofs (disch:=omega) only [h2,h5,h11,h12,h13,hh2,hh9,hlt,hm,go_sem]
   exact ⟨_,_,hnext,rfl,rfl⟩
  ·rw [ltl (by omega)] at hrep
   simp -implicitDefEqProofs (disch:=omega) only [h2,hh2,hge,go_sem]
   refine Al (t.nodes.length - 1) (fun k s=>∃ ks vs,Rep ks vs (part t (Aq l) (t.nodes.length - k)) /\ s.pe 2 = .ptr (.slot 2 0) 0 0 /\ s.pe 5 = .mref (.slot 9 0) 0 /\ s.pe 8 = .p (.int .i64 ((t.nodes.length : Int) - 1 - k)) /\ s.h (.slot 2 0) = some (0,.box [.p (Au t.nodes),.p (.int .i64 t.next)]) /\ s.h (.slot 9 0) = some (0,.map (.int .i64) ks vs)) ?_ ?_
   ·refine ⟨ks,vs,?_,by simp -implicitDefEqProofs (disch:=omega) only [h2,go_sem],by simp -implicitDefEqProofs (disch:=omega) only [h5,go_sem],by simp -implicitDefEqProofs (disch:=omega) only [go_sem]; simp,by simp -implicitDefEqProofs (disch:=omega) only [hh2,go_sem],by simp -implicitDefEqProofs (disch:=omega) only [hh9,go_sem]⟩
    rw [Nat.sub_zero,show part t (Aq l) t.nodes.length = Aq l from funext (Z8 t _)]
    exact hrep
   ·rintro k s hk ⟨ks,vs,hrep,h2,h5,h8,hh2,hh9⟩
    simp -implicitDefEqProofs (disch:=omega) only [h8,go_sem]
    refine Ah (fun hlt=>?_) (fun hge=>?_)
    ·have hi : t.nodes.length - 1 - k < t.nodes.length:=by omega
     have hm : t.nodes[t.nodes.length - 1 - k]? = some t.nodes[t.nodes.length - 1 - k]:=lgg hi
     have hm' : t.nodes[((t.nodes.length : Int) - 1 - k).toNat]? = some t.nodes[t.nodes.length - 1 - k]:=by
      rw [show ((t.nodes.length : Int) - 1 - k).toNat = t.nodes.length - 1 - k by omega]
      exact hm
     generalize t.nodes[t.nodes.length - 1 - k] = n at hm hm'
     obtain ⟨_,hn1,j,p,hj,hp,hpe⟩:=(h.nodeAt hm).resolve_left (by omega)
     have e1:=hrep n.parent
     have e2:=hrep n.id
     rw [show t.nodes.length - k = (t.nodes.length - 1 - k) + 1 by omega] at e1 e2 hrep
     rw [Mr h _ hm (lrf _)] at e2
     have hst:=QG (Aq l) hm n.parent
     rw [if_pos rfl] at hst
     have b1:=zbt h hf0 hp (t.nodes.length - 1 - k)
     have b2:=M6 h hl hp
     have b3:=hl.all
     have b4:=WH t hf0 (t.nodes.length - 1 - k + 1) n.parent
     have b5:=Hb t hf0 n.id
     rw [hpe] at b1 b2
     have hnext:=hrep.put n.parent (part t (Aq l) (t.nodes.length - 1 - k + 1) n.parent + tot t (Aq l) n.id)
     rw [show (fun x=>if x = n.parent then part t (Aq l) (t.nodes.length - 1 - k + 1) n.parent + tot t (Aq l) n.id else part t (Aq l) (t.nodes.length - 1 - k + 1) x) = part t (Aq l) (t.nodes.length - (k + 1)) from by
      funext x
      rw [show t.nodes.length - (k + 1) = t.nodes.length - 1 - k by omega,QG (Aq l) hm x]
      by_cases hx : x = n.parent
      .simp [hx]
      .simp [hx]] at hnext
     generalize part t (Aq l) (t.nodes.length - 1 - k + 1) n.parent = A at e1 hst b4 hnext
     generalize tot t (Aq l) n.id = B at e2 hst b5 hnext
     have hwr : IntKind.i64.wrap (A + B) = A + B:=It (by omega) (by omega)
     simp -implicitDefEqProofs (disch:=omega) only [h2,h5,h8,hh2,hh9,hlt,hm',e1,e2,hwr,go_sem]
     exact ⟨by omega,_,_,hnext,by congr 2; omega,rfl⟩
    ·rw [show t.nodes.length - k = 1 by omega] at hrep
     simp -implicitDefEqProofs (disch:=omega) only [h5,hh9,hge,go_sem]
     exact ⟨_,_,rfl,hrep⟩
def E4 (t : Tr) (l : List Ch) (id : Int) : Int:=if Dx t l = true then (if (Ao t.nodes id).isSome = true then 0 else 4) else 1
theorem YV (t : Tr) (l : List Ch) (id : Int) (hf : t.Fits) (hn : t.nodes.length < 1000000) (hl : l.length < 1000000) : V 159 [t.vv,Dq l,.p (.int .i64 id)] [] = some (.p (.int .i64 (E4 t l id)),[]):=by
 refine Ag (vf:=vf159) rfl ?_
 have hv:=L3 t l hf hn hl
 have hfi:=DR t id hn
 unfold E4
 cases hvv : Dx t l with
 | false =>
  rw [hvv] at hv
  simp -implicitDefEqProofs only [vf159,Km,hv,go_sem]
  try rfl
 | true =>
  rw [hvv] at hv
  generalize (Ao t.nodes id).getD zeroNd = nd at hfi
  cases hfs : (Ao t.nodes id).isSome with
  | false =>
   rw [hfs] at hfi
   simp -implicitDefEqProofs only [vf159,Km,hv,hfi,Nd.vv,go_sem]
   try rfl
  | true =>
   rw [hfs] at hfi
   simp -implicitDefEqProofs only [vf159,Km,hv,hfi,Nd.vv,go_sem]
   try rfl
theorem Fh (t : Tr) (l : List Ch) : Dx t l = true ↔ TreeOk t /\ ChOk t.nodes l:=by
 unfold Dx
 rw [bat,A5,za0]
theorem O8 {t : Tr} {l : List Ch} {id : Int} : E4 t l id = 0 ↔ TreeOk t /\ ChOk t.nodes l /\ ∃ (i : Nat) (n : Nd),t.nodes[i]? = some n /\ n.id = id:=by
 unfold E4
 by_cases hv : Dx t l = true
 ·rw [if_pos hv]
  obtain ⟨h1,h2⟩:=(Fh t l).1 hv
  by_cases hs : (Ao t.nodes id).isSome = true
  ·rw [if_pos hs]
   obtain ⟨n,hn,he⟩:=Cu hs
   obtain ⟨i,hi⟩:=lgm hn
   exact ⟨fun _=>⟨h1,h2,i,n,hi,he⟩,fun _=>rfl⟩
  ·rw [if_neg hs]
   constructor
   ·intro h; omega
   ·rintro ⟨_,_,i,n,hi,rfl⟩
    rw [BZ h1.inc hi] at hs
    simp at hs
 ·rw [if_neg hv]
  constructor
  ·intro h; omega
  ·rintro ⟨h1,h2,_⟩
   exact absurd ((Fh t l).2 ⟨h1,h2⟩) hv
def NH (t : Tr) (l : List Ch) (id : Int) : Int:=if E4 t l id = 0 then tot t (Aq l) id else 0
theorem Zx (t : Tr) (l : List Ch) (id : Int) (hf : t.Fits) (hn : t.nodes.length < 1000000) (hl : l.length < 1000000) : V 145 [t.vv,Dq l,.p (.int .i64 id)] [] = some (.tup [.p (.int .i64 (NH t l id)),.p (.int .i64 (E4 t l id))],[]):=by
 refine Ag (vf:=vf145) rfl ?_
 have hc:=YV t l id hf hn hl
 unfold NH
 by_cases h0 : E4 t l id = 0
 ·obtain ⟨h1,h2,i,n,hi,rfl⟩:=O8.1 h0
  obtain ⟨ks,vs,hs,hg⟩:=Sj h1 h2 hn hl
  have hgi:=hg i n hi
  rw [h0] at hc
  rw [if_pos h0]
  generalize tot t (Aq l) n.id = T at hgi
  simp -implicitDefEqProofs only [vf145,Nc,hc,hs,hgi,go_sem]
  rw [h0]
 ·rw [if_neg h0]
  generalize E4 t l id = e at hc h0
  simp -implicitDefEqProofs only [vf145,Nc,hc,h0,go_sem]
theorem MQ {t : Tr} (h : TreeOk t) : ∃ r,t.nodes[0]? = some r /\ r.id = 1:=by
 obtain ⟨r,ns,hr,h1,_⟩:=h.root
 exact ⟨r,by rw [hr]; rfl,h1⟩
def Bu (kn : Int -> Bool) (lo hi : Int) : Option Int -> List Ch -> Bool
 | _,[]=>true
 | p,c :: l=>kn c.group && prevOk p c.group && decide (lo <= c.own /\ c.own <= hi) && Bu kn lo hi (some c.group) l
def EG (l : List Ch) (k : Nat) : Option Int:=if k = 0 then none else (l[k - 1]?).map (·.group)
structure AscOk (kn : Int -> Bool) (lo hi : Int) (l : List Ch) : Prop where
 known : ∀ c ∈ l,kn c.group = true
 inc : l.Pairwise fun a b=>a.group < b.group
 range : ∀ c ∈ l,lo <= c.own /\ c.own <= hi
theorem Qd (kn : Int -> Bool) (lo hi : Int) : ∀ (l : List Ch) (p : Option Int),Bu kn lo hi p l = true ↔ (∀ c ∈ l,kn c.group = true) /\ (l.Pairwise fun a b=>a.group < b.group) /\ (∀ q,p = some q -> ∀ c ∈ l,q < c.group) /\ ∀ c ∈ l,lo <= c.own /\ c.own <= hi
 | [],p=>by simp [Bu]
 | c :: l,p=>by
  have hp : prevOk p c.group = true ↔ ∀ q,p = some q -> q < c.group:=by
   cases p <;> simp [prevOk]
  simp only [Bu,bat,decide_eq_true_eq,hp,lmk,forall_eq_or_imp,lpw,Qd kn lo hi l (some c.group)]
  constructor
  ·rintro ⟨⟨⟨h1,h2⟩,h3⟩,a1,a2,a3,a4⟩
   refine ⟨⟨h1,a1⟩,⟨a3 _ rfl,a2⟩,fun q hq=>⟨h2 q hq,fun d hd=>?_⟩,h3,a4⟩
   have:=h2 q hq
   have:=a3 _ rfl d hd
   omega
  ·rintro ⟨⟨h1,a1⟩,⟨a3,a2⟩,h2,h3,a4⟩
   refine ⟨⟨⟨h1,fun q hq=>(h2 q hq).1⟩,h3⟩,a1,a2,fun q hq=>?_,a4⟩
   cases hq
   exact a3
theorem Mh (kn : Int -> Bool) (lo hi : Int) (l : List Ch) : Bu kn lo hi none l = true ↔ AscOk kn lo hi l:=by
 rw [Qd kn lo hi l none]
 constructor
 ·rintro ⟨a,b,_,d⟩
  exact ⟨a,b,d⟩
 ·rintro ⟨a,b,d⟩
  exact ⟨a,b,fun q hq=>by simp at hq,d⟩
def HG (kn : Int -> Bool) (lo hi : Int) (l : List Ch) (k : Nat) (c : Ch) : Prop:=kn c.group = true /\ (k = 0 \/ ∃ e,l[k - 1]? = some e /\ e.group < c.group) /\ lo <= c.own /\ c.own <= hi
theorem RM {l : List Ch} {k : Nat} {c : Ch} (hm : l[k]? = some c) : prevOk (EG l k) c.group = true ↔ (k = 0 \/ ∃ e,l[k - 1]? = some e /\ e.group < c.group):=by
 unfold EG
 by_cases hk : k = 0
 ·simp [hk,prevOk]
 ·have hl:=(lgs.1 hm).1
  have he : l[k - 1]? = some l[k - 1]:=lgg (by omega)
  rw [if_neg hk,he]
  simp [prevOk,hk]
theorem MN {kn : Int -> Bool} {lo hi : Int} {l : List Ch} {k : Nat} {c : Ch} (hq : Bu kn lo hi none l = Bu kn lo hi (EG l k) (l.drop k)) (hm : l[k]? = some c) (h : HG kn lo hi l k c) : Bu kn lo hi none l = Bu kn lo hi (EG l (k + 1)) (l.drop (k + 1)):=by
 have hl:=(lgs.1 hm).1
 have hd : l.drop k = c :: l.drop (k + 1):=by
  rw [ldg hl]
  rw [lgg hl] at hm
  cases hm
  rfl
 obtain ⟨h1,h2,h3,h4⟩:=h
 rw [hq,hd,Bu,h1,(RM hm).2 h2,decide_eq_true ⟨h3,h4⟩]
 simp [EG,hm]
theorem M5 {kn : Int -> Bool} {lo hi : Int} {l : List Ch} {k : Nat} {c : Ch} (hq : Bu kn lo hi none l = Bu kn lo hi (EG l k) (l.drop k)) (hm : l[k]? = some c) (h : ¬ HG kn lo hi l k c) : Bu kn lo hi none l = false:=by
 have hl:=(lgs.1 hm).1
 have hd : l.drop k = c :: l.drop (k + 1):=by
  rw [ldg hl]
  rw [lgg hl] at hm
  cases hm
  rfl
 rw [Bool.eq_false_iff]
 intro ht
 apply h
 rw [hq,hd,Bu] at ht
 simp only [bat,decide_eq_true_eq] at ht
 exact ⟨ht.1.1.1,(RM hm).1 ht.1.1.2,ht.1.2⟩
theorem M4 {kn : Int -> Bool} {lo hi : Int} {l : List Ch} {k : Nat} (hq : Bu kn lo hi none l = Bu kn lo hi (EG l k) (l.drop k)) (hk : l.length <= k) : Bu kn lo hi none l = true:=by
 rw [hq,ldl hk]
 simp [Bu]
theorem MS {l : List Ch} {k : Nat} {c : Ch} (hm : l[k]? = some c) (hk : (0 : Int) < k) : ∃ e,l[k - 1]? = some e /\ l[((k : Int) - 1).toNat]? = some e:=by
 have hl:=(lgs.1 hm).1
 have he : l[k - 1]? = some l[k - 1]:=lgg (by omega)
 exact ⟨_,he,by rw [show ((k : Int) - 1).toNat = k - 1 by omega]; exact he⟩
theorem LF {kn : Int -> Bool} {lo hi : Int} {l : List Ch} {k : Nat} {c : Ch} (hk : ¬ (0 : Int) < k) : HG kn lo hi l k c ↔ kn c.group = true /\ lo <= c.own /\ c.own <= hi:=by
 have : k = 0:=by omega
 subst this
 simp [HG]
theorem LG {kn : Int -> Bool} {lo hi : Int} {l : List Ch} {k : Nat} {c e : Ch} (hk : (0 : Int) < k) (he : l[k - 1]? = some e) : HG kn lo hi l k c ↔ kn c.group = true /\ e.group < c.group /\ lo <= c.own /\ c.own <= hi:=by
 have : ¬ k = 0:=by omega
 simp [HG,this,he]
theorem Ik (t : Tr) (id : Int) (hl : t.nodes.length < 1000000) : V 96 [t.vv,.p (.int .i64 id)] [] = some (.fresh 1 ((kidsN t.nodes id).map (.int .i64)),[]):=by
 refine Ag (vf:=vf96) rfl ?_
 simp -implicitDefEqProofs (disch:=omega) only [vf96,TL,go_sem]
 obtain ⟨I,hI⟩:=lpI fun k s=>∃ (acc : List Int) (w : Nat),acc = kidsN (t.nodes.take k) id /\ acc.length <= k /\ s.pe 1 = .p (.int .i64 id) /\ s.pe 5 = .own (.slot 5 0) w 0 acc.length /\ s.pe 9 = .p (Au t.nodes) /\ s.pe 10 = .p (.int .i64 t.nodes.length) /\ s.pe 11 = .p (.int .i64 k) /\ s.h (.slot 5 0) = some (w,.arr 1 (acc.map (.int .i64)))
 refine Al (t.nodes.length) I ?_ ?_
 ·refine (hI _ _).2 ⟨[],0,?_⟩
  and_intros
  ·exact cl3
  ·exact cl3
  all_goals exact cl0
 intro k s hk hIk
 obtain ⟨acc,w,hacc,hal,hH⟩:=(hI _ _).1 hIk
 clear hIk
 simp -implicitDefEqProofs (disch:=omega) only [hH,go_sem]
 refine Ah (fun hlt=>?_) (fun hge=>?_)
 ·have hm : t.nodes[k]? = some t.nodes[k]:=lgg hlt
  generalize t.nodes[k] = m at hm
  have hst:=H0 (p:=fun n : Nd=>decide (n.parent = id)) hm
  by_cases hp : m.parent = id
  ·simp only [hp,decide_true,if_true] at hst
   simp -implicitDefEqProofs (disch:=omega) only [hH,hlt,hm,hp,go_sem]
   try refine ai ?_
   refine (hI _ _).2 ⟨acc ++ [m.id],w + 1,?_⟩
   and_intros
   .exact by rw [kidsN,hst,lma,hacc]; rfl
   .exact by simp; omega
   all_goals exact cl0
  ·simp only [hp,decide_false,bft,if_false] at hst
   simp -implicitDefEqProofs (disch:=omega) only [hH,hlt,hm,hp,go_sem]
   try refine ai ?_
   refine (hI _ _).2 ⟨acc,w,?_⟩
   and_intros
   .exact by rw [kidsN,hst,hacc]; rfl
   .omega
   all_goals exact cl0
 ·rw [ltl (by omega)] at hacc
  simp -implicitDefEqProofs (disch:=omega) only [hH,hge,hacc,go_sem]
theorem N8 : ¬ ((0 : Int) < ((0 : Nat) : Int)):=by omega
def Cx (ns : List Nd) (g : Int) : Bool:=(Ao ns g).isSome
def Du (t : Tr) (l : List Ch) : Bool:=AF t && Bu (Cx t.nodes) 0 4611686018427387904 none l
theorem XT (t : Tr) (l : List Ch) (hf : t.Fits) (hn : t.nodes.length < 1000000) (hl : l.length < 1000000) : V 64 [t.vv,.p (AP l)] [] = some (.p (.bool (Du t l)),[]):=by
 refine Ag (vf:=vf64) rfl ?_
 have hc:=Gi t hf hn
 unfold Du
 cases ht : AF t with
 | false =>
  rw [ht] at hc
  simp -implicitDefEqProofs (disch:=omega) only [vf64,NA,hc,bfa,go_sem]
 | true =>
  rw [ht] at hc
  rw [bta]
  simp -implicitDefEqProofs (disch:=omega) only [vf64,NA,hc,go_sem]
  obtain ⟨I,hI⟩:=lpI fun k s=>Bu (Cx t.nodes) 0 4611686018427387904 none l = Bu (Cx t.nodes) 0 4611686018427387904 (EG l k) (l.drop k) /\ s.pe 1 = .p (AP l) /\ s.pe 2 = .ptr (.slot 2 0) 0 0 /\ s.pe 12 = .p (AP l) /\ s.pe 13 = .p (.int .i64 l.length) /\ s.pe 14 = .p (.int .i64 k) /\ s.h (.slot 2 0) = some (0,.box [.p (Au t.nodes),.p (.int .i64 t.next)])
  refine Al (l.length) I ?_ ?_
  ·refine (hI _ _).2 ?_
   and_intros
   ·exact cl3
   all_goals exact cl0
  intro k s hk hIk
  obtain ⟨hq,h1,h2,hH⟩:=(hI _ _).1 hIk
  clear hIk
  simp -implicitDefEqProofs (disch:=omega) only [hH,go_sem]
  refine Ah (fun hlt=>?_) (fun hge=>?_)
  ·have hm : l[k]? = some l[k]:=lgg hlt
   generalize l[k] = c at hm
   have hg:=MN hq hm
   have hb':=M5 hq hm
   have hfi:=DR t c.group hn
   have hkn : Cx t.nodes c.group = (Ao t.nodes c.group).isSome:=rfl
   generalize (Ao t.nodes c.group).getD zeroNd = nd at hfi
   generalize (Ao t.nodes c.group).isSome = kn at hfi hkn
   by_cases hk0 : (0 : Int) < k
   ·obtain ⟨e,he,he'⟩:=MS hm hk0
    have hk1 : (0 : Int) <= (k : Int) - 1:=by omega
    rw [LG hk0 he,hkn] at hg hb'
    simp -implicitDefEqProofs (disch:=omega) only [h2,hH,hlt,hm,hfi,Nd.vv,go_sem]
    repeat' ((first | refine Bw ?_ ?_ | refine Bv ?_ ?_ | refine Bz ?_ ?_ | refine By ?_ ?_ | refine Bq ?_ ?_ | refine Bp ?_ ?_ | refine Bx ?_ ?_ | refine Br ?_ ?_ | refine Ah ?_ ?_ | refine BD ?_ ?_) <;> intro hb <;> simp -implicitDefEqProofs (disch:=omega) only [hb,h1,hH,hlt,hk0,hk1,he',go_sem])
    all_goals first
     | (rw [hb' (by first | (rintro ⟨h1,h2,h3,h4⟩; omega) | simp_all)]; done)
     | skip
    try refine ai ?_
    refine (hI _ _).2 ?_
    and_intros
    ·exact hg ⟨by first | assumption | (cases kn <;> simp_all),by omega,by omega,by omega⟩
    all_goals exact cl0
   ·rw [LF hk0,hkn] at hg hb'
    simp -implicitDefEqProofs (disch:=omega) only [h2,hH,hlt,hm,hfi,Nd.vv,go_sem]
    repeat' ((first | refine Bw ?_ ?_ | refine Bv ?_ ?_ | refine Bz ?_ ?_ | refine By ?_ ?_ | refine Bq ?_ ?_ | refine Bp ?_ ?_ | refine Bx ?_ ?_ | refine Br ?_ ?_ | refine Ah ?_ ?_ | refine BD ?_ ?_) <;> intro hb <;> simp -implicitDefEqProofs (disch:=omega) only [hb,hH,hlt,hk0,go_sem])
    all_goals first
     | (rw [hb' (by first | (rintro ⟨h1,h2,h3⟩; omega) | simp_all)]; done)
     | skip
    try refine ai ?_
    refine (hI _ _).2 ?_
    and_intros
    .exact hg ⟨by first | assumption | (cases kn <;> simp_all),by omega,by omega⟩
    all_goals exact cl0
  ·have hT:=M4 hq (by omega)
   simp -implicitDefEqProofs (disch:=omega) only [hge,hT,go_sem]
def Be : List Ch -> Int -> Option Int
 | [],_=>none
 | c :: l,id=>if c.group = id then some c.own else Be l id
theorem LB (c : Ch) (x : Int) : ∀ (a : List Ch),(∀ d ∈ a,d.group ≠ c.group) -> Be (a ++ [c]) x = if x = c.group then some c.own else Be a x
 | [],_=>by simp only [lna,Be,eq_comm]
 | d :: a,h=>by
  have ih:=LB c x a (fun e he=>h e (lmc _ he))
  have hd:=h d (lms ..)
  simp only [lca,Be,ih]
  by_cases h1 : d.group = x
  ·have h2 : ¬ x = c.group:=by omega
   simp [h1,h2]
  .simp [h1]
theorem YR {l : List Ch} {x m : Int} (h : Be l x = some m) : ∃ c ∈ l,c.group = x /\ c.own = m:=by
 induction l with
 | nil=>cases h
 | cons c l ih =>
  unfold Be at h
  split at h
  ·rename_i hg
   cases h
   exact ⟨c,lms ..,hg,rfl⟩
  ·obtain ⟨d,hd,h1⟩:=ih h
   exact ⟨d,lmc _ hd,h1⟩
def Rep2 (ks : List MKey) (vs : List PV) (f : Int -> Option Int) : Prop:=∀ id,AN ks vs (.int id) = (f id).map (.int .i64)
theorem Rep2.put {ks : List MKey} {vs : List PV} {f : Int -> Option Int} (h : Rep2 ks vs f) (g v : Int) : Rep2 (At ks vs (.int g) (.int .i64 v)).1 (At ks vs (.int g) (.int .i64 v)).2 (fun x=>if x = g then some v else f x):=by
 intro id
 rw [H7]
 by_cases hg : id = g
 ·subst hg
  simp
 ·simp [hg]
  exact h id
theorem Cl {t : Tr} (h : AF t = true) (id : Int) : A6 t id = Ao t.nodes id:=by simp [A6,h]
theorem WF (t : Tr) (l : List Ch) (lo : Int) (ht : AF t = true) (hn : t.nodes.length < 1000000) (hl : l.length < 1000000) : V 154 [t.vv,.p (AP l),.p (.int .i64 lo)] [] = some (.p (.bool (Bu (Cx t.nodes) lo 16777216 none l)),[]):=by
 refine Ag (vf:=vf154) rfl ?_
 simp -implicitDefEqProofs (disch:=omega) only [vf154,Ta,go_sem]
 obtain ⟨I,hI⟩:=lpI fun k s=>Bu (Cx t.nodes) lo 16777216 none l = Bu (Cx t.nodes) lo 16777216 (EG l k) (l.drop k) /\ s.pe 1 = .p (AP l) /\ s.pe 2 = .p (.int .i64 lo) /\ s.pe 3 = .ptr (.slot 3 0) 0 0 /\ s.pe 7 = .p (.int .i64 k) /\ s.h (.slot 3 0) = some (0,Ob.box [.p (Au t.nodes),.p (.int .i64 t.next)])
 refine Al (l.length) I ?_ ?_
 ·refine (hI _ _).2 ?_
  and_intros
  ·exact cl3
  all_goals exact cl0
 intro k s hk hIk
 obtain ⟨hq,h1,h2,h3,hH⟩:=(hI _ _).1 hIk
 clear hIk
 simp -implicitDefEqProofs (disch:=omega) only [h1,hH,go_sem]
 refine Ah (fun hlt=>?_) (fun hge=>?_)
 ·have hm : l[k]? = some l[k]:=lgg hlt
  generalize l[k] = c at hm
  have hg:=MN hq hm
  have hb':=M5 hq hm
  have hfi:=CJ t c.group hn
  rw [Cl ht] at hfi
  have hkn : Cx t.nodes c.group = (Ao t.nodes c.group).isSome:=rfl
  generalize (Ao t.nodes c.group).isSome = kn at hfi hkn
  by_cases hk0 : (0 : Int) < k
  ·obtain ⟨e,he,he'⟩:=MS hm hk0
   have hk1 : (0 : Int) <= (k : Int) - 1:=by omega
   rw [LG hk0 he,hkn] at hg hb'
   simp -implicitDefEqProofs (disch:=omega) only [h1,h3,hH,hlt,hm,hfi,go_sem]
   repeat' ((first | refine Bw ?_ ?_ | refine Bv ?_ ?_ | refine Bz ?_ ?_ | refine By ?_ ?_ | refine Bq ?_ ?_ | refine Bp ?_ ?_ | refine Bx ?_ ?_ | refine Br ?_ ?_ | refine Ah ?_ ?_ | refine BD ?_ ?_) <;> intro hb <;> simp -implicitDefEqProofs (disch:=omega) only [hb,h1,h2,hH,hlt,hm,hk0,hk1,he',go_sem])
   all_goals first
    | (rw [hb' (by first | (rintro ⟨h1,h2,h3,h4⟩; omega) | simp_all)]; done)
    | skip
   try refine ai ?_
   refine (hI _ _).2 ?_
   and_intros
   ·exact hg ⟨by first | assumption | (cases kn <;> simp_all),by omega,by omega,by omega⟩
   all_goals exact cl0
  ·rw [LF hk0,hkn] at hg hb'
   simp -implicitDefEqProofs (disch:=omega) only [h1,h3,hH,hlt,hm,hfi,go_sem]
   repeat' ((first | refine Bw ?_ ?_ | refine Bv ?_ ?_ | refine Bz ?_ ?_ | refine By ?_ ?_ | refine Bq ?_ ?_ | refine Bp ?_ ?_ | refine Bx ?_ ?_ | refine Br ?_ ?_ | refine Ah ?_ ?_ | refine BD ?_ ?_) <;> intro hb <;> simp -implicitDefEqProofs (disch:=omega) only [hb,h1,h2,hH,hlt,hm,hk0,go_sem])
   all_goals first
    | (rw [hb' (by first | (rintro ⟨h1,h2,h3⟩; omega) | simp_all)]; done)
    | skip
   try refine ai ?_
   refine (hI _ _).2 ?_
   and_intros
   .exact hg ⟨by first | assumption | (cases kn <;> simp_all),by omega,by omega⟩
   all_goals exact cl0
 ·have hT:=M4 hq (by omega)
  simp -implicitDefEqProofs (disch:=omega) only [hge,hT,go_sem]
theorem Ot {l : List Ch} (h : l.Pairwise fun a b=>a.group < b.group) : (l.map (·.group)).Nodup:=by
 rw [List.Nodup,List.pairwise_map]
 exact h.imp fun hab=>by omega
theorem Yc {ns : List Nd} {lo hi : Int} {l : List Ch} (h : AscOk (Cx ns) lo hi l) : l.length <= ns.length:=by
 have:=F4 (l.map (·.group)) (ns.map (·.id)) (Ot h.inc) (fun x hx=>by
  obtain ⟨c,hc,rfl⟩:=lmm.1 hx
  obtain ⟨n,hn,he⟩:=Cu (h.known c hc)
  exact lmm.2 ⟨n,hn,he⟩)
 simpa using this
theorem Qi {hi : Int} : ∀ (l : List Ch),(∀ c ∈ l,0 <= c.own /\ c.own <= hi) -> 0 <= Ab (l.map (·.own)) /\ Ab (l.map (·.own)) <= l.length * hi
 | [],_=>by simp [Ab]
 | c :: l,h=>by
  have h0:=h c (lms ..)
  have h1:=Qi l fun d hd=>h d (lmc _ hd)
  simp only [lpc,Ab,llc,Int.natCast_add]
  have : ((l.length : Int) + (1 : Nat)) * hi = l.length * hi + hi:=by rw [Int.add_mul]; simp
  omega
theorem Xf (t : Tr) (l : List Ch) (ht : AF t = true) : Dx t l = (Bu (Cx t.nodes) 1 16777216 none l && decide (Ab (l.map (·.own)) <= 16777216)):=by
 rw [Bool.eq_iff_iff,bat,Mh,decide_eq_true_eq,Fh]
 constructor
 ·rintro ⟨_,h⟩
  refine ⟨⟨h.known,h.inc,fun c hc=>⟨h.pos c hc,?_⟩⟩,h.all⟩
  have:=zbw h.pos c.group
  have h3:=h.all
  have h4 : c.own <= Ab (l.map (·.own)):=by
   have:=sumI_mem_le' l h.pos c hc
   exact this
  omega
 ·rintro ⟨h,hs⟩
  exact ⟨(A5 t).1 ht,⟨h.known,h.inc,fun c hc=>(h.range c hc).1,hs⟩⟩
where
 sumI_mem_le' : ∀ (l : List Ch),(∀ c ∈ l,1 <= c.own) -> ∀ c ∈ l,c.own <= Ab (l.map (·.own))
 | [],_,_,h=>by cases h
 | d :: l,hp,c,h=>by
  have h0:=hp d (lms ..)
  have h1:=Cs l (f:=(·.own)) fun z hz=>by have:=hp z (lmc _ hz); omega
  simp only [lpc,Ab]
  rcases lmk.1 h with rfl | h
  ·omega
  ·have:=sumI_mem_le' l (fun z hz=>hp z (lmc _ hz)) c h
   omega
theorem Xq (t : Tr) (l : List Ch) (hn : t.nodes.length < 1000000) (hl : l.length < 1000000) : V 136 [t.vv,Dq l] [] = some (.p (.bool (Dx t l)),[]):=by
 refine Ag (vf:=vf136) rfl ?_
 have hc:=EV t hn
 cases ht : AF t with
 | false =>
  rw [ht] at hc
  have : Dx t l = false:=by simp [Dx,ht]
  simp -implicitDefEqProofs (disch:=omega) only [vf136,Kp,hc,this,go_sem]
 | true =>
  rw [ht] at hc
  have hch:=WF t l 1 ht hn hl
  rw [Xf t l ht]
  cases ha : Bu (Cx t.nodes) 1 16777216 none l with
  | false =>
   rw [ha] at hch
   simp -implicitDefEqProofs (disch:=omega) only [vf136,Kp,hc,hch,bfa,go_sem]
  | true =>
   rw [ha] at hch
   have hA:=(Mh _ _ _ _).1 ha
   have hlen:=Yc hA
   have h64:=((A5 t).1 ht).len
   have hpre : ∀ k,0 <= Ab ((l.take k).map (·.own)) /\ Ab ((l.take k).map (·.own)) <= 64 * 16777216:=fun k=>by
    have h1:=Qi (hi:=16777216) (l.take k) fun c hc=>by have:=hA.range c (List.mem_of_mem_take hc); omega
    have h2 : ((l.take k).length : Int) * 16777216 <= 64 * 16777216:=Int.mul_le_mul_of_nonneg_right (by simp; omega) (by omega)
    omega
   simp -implicitDefEqProofs (disch:=omega) only [vf136,Kp,hc,hch,go_sem]
   obtain ⟨I,hI⟩:=lpI fun k s=>s.pe 3 = .ptr (.slot 3 0) 0 0 /\ s.pe 5 = .p (.int .i64 (Ab ((l.take k).map (·.own)))) /\ s.pe 6 = .p (.int .i64 k) /\ s.h (.slot 3 0) = some (0,Ob.box [.p (AP l)])
   refine Al (l.length) I ?_ ?_
   ·refine (hI _ _).2 ?_
    and_intros<;>exact cl0
   intro k s hk hIk
   obtain ⟨h3,h5,hH⟩:=(hI _ _).1 hIk
   clear hIk
   simp -implicitDefEqProofs (disch:=omega) only [h3,hH,go_sem]
   refine Ah (fun hlt=>?_) (fun hge=>?_)
   ·have hm : l[k]? = some l[k]:=lgg hlt
    generalize l[k] = c at hm
    have hs:=GY (f:=(·.own)) hm
    have p1:=hpre (k + 1)
    have p0:=hpre k
    rw [hs] at p1
    generalize Ab ((l.take k).map (·.own)) = S at h5 hs p0 p1
    simp -implicitDefEqProofs (disch:=omega) only [h3,h5,hH,hlt,hm,go_sem]
    try refine ai ?_
    refine (hI _ _).2 ?_
    and_intros<;>exact cl0
   ·rw [ltl (by omega)] at h5
    simp -implicitDefEqProofs (disch:=omega) only [h5,hge,bta,go_sem]
theorem CZ {t : Tr} (h : TreeOk t) (id : Int) : (subT t id).length <= t.nodes.length:=by
 unfold subT
 split
 ·rename_i hs
  rw [Cl ((A5 t).2 h)] at hs
  obtain ⟨n,hn,rfl⟩:=Cu hs
  obtain ⟨i,hi⟩:=lgm hn
  exact I7 h hi (by omega)
 .exact Nat.zero_le _
theorem Sp {t : Tr} (h : TreeOk t) {l : List Ch} (hl : ChOk t.nodes l) (hll : l.length < 1000000) {i : Nat} {n : Nd} (hi : t.nodes[i]? = some n) : V 144 [t.vv,Dq l,.p (.int .i64 n.id)] [] = some (.p (.int .i64 (tot t (Aq l) n.id)),[]):=by
 refine Ag (vf:=vf144) rfl ?_
 have hlen:=h.len
 have hs:=J1 (t:=t) n.id (by omega)
 have hsl:=CZ h n.id
 have hst : subT t n.id = subF t.nodes t.nodes.length n.id:=by
  rw [subT,Cl ((A5 t).2 h),BZ h.inc hi]; rfl
 have htot : tot t (Aq l) n.id = Ab ((subT t n.id).map (Aq l)):=by rw [hst]; rfl
 have hle:=M6 h hl hi
 have hall:=hl.all
 rw [htot] at hle ⊢
 generalize subT t n.id = A at hs hsl hle
 simp -implicitDefEqProofs (disch:=omega) only [vf144,Tf,hs,go_sem]
 obtain ⟨I,hI⟩:=lpI fun k s=>s.pe 4 = .ptr (.slot 4 0) 0 0 /\ s.pe 7 = .p (.int .i64 (Ab ((A.take k).map (Aq l)))) /\ s.pe 8 = .own (.slot 12 1) 0 0 A.length /\ s.pe 9 = .p (.int .i64 k) /\ s.h (.slot 4 0) = some (0,Ob.box [.p (AP l)]) /\ s.h (.slot 12 1) = some (0,Ob.arr 1 (List.map (.int .i64) A))
 refine Al (A.length) I ?_ ?_
 ·refine (hI _ _).2 ?_
  and_intros<;>exact cl0
 intro k s hk hIk
 obtain ⟨h4,h7,hH⟩:=(hI _ _).1 hIk
 clear hIk
 simp -implicitDefEqProofs (disch:=omega) only [hH,go_sem]
 refine Ah (fun hlt=>?_) (fun hge=>?_)
 ·have hm : A[k]? = some A[k]:=lgg hlt
  generalize A[k] = g at hm
  have hst:=GY (f:=Aq l) hm
  have ho:=zbm l g hll
  have o0:=ES hl.pos g
  have p0:=Cs (A.take k) (f:=Aq l) fun x _=>ES hl.pos x
  have p1:=Og A (k + 1) (f:=Aq l) fun x _=>ES hl.pos x
  rw [hst] at p1
  generalize Ab ((A.take k).map (Aq l)) = S at h7 hst p0 p1
  generalize Aq l g = o at ho o0 hst p1
  simp -implicitDefEqProofs (disch:=omega) only [h4,h7,hH,hlt,hm,ho,go_sem]
  try refine ai ?_
  refine (hI _ _).2 ?_
  and_intros<;>exact cl0
 ·rw [ltl (by omega)] at h7
  simp -implicitDefEqProofs (disch:=omega) only [h7,hge,go_sem]
def Bs (L : List Int) (a : Nat) (xs : List Int) : Int:=xs.getD (AC L a xs.length).toNat 0
theorem Cw (L : List Int) (a : Nat) (xs : List Int) (hL : L.length < 4611686018427387904) (h0 : 1 <= xs.length) (h1 : xs.length < 1000000) : V 13 [.ptr (.arg 0 0) 0 0,.p (AT xs)] [A3 L a] = some (.p (.int .i64 (Bs L a xs)),[A3 L (Ae L a xs.length)]):=by
 refine Ag (vf:=vf13) rfl ?_
 have hn:=Ev L a xs.length hL (by omega)
 have n0:=EQ L a xs.length
 have n1:=EY L a (n:=xs.length) (by omega)
 unfold Bs
 generalize AC L a xs.length = x at hn n0 n1
 generalize Ae L a xs.length = a' at hn
 have hm : xs[x.toNat]? = some (xs.getD x.toNat 0):=by
  rw [List.getD_eq_getElem?_getD,lgg (by omega)]; rfl
 generalize xs.getD x.toNat 0 = y at hm
 simp -implicitDefEqProofs (disch:=omega) only [vf13,Up,hn,hm,go_sem]
theorem QF (L : List Int) (a : Nat) {xs : List Int} (h0 : 1 <= xs.length) : Bs L a xs ∈ xs:=by
 have n0:=EQ L a xs.length
 have n1:=EY L a (n:=xs.length) (by omega)
 unfold Bs
 rw [List.getD_eq_getElem?_getD,lgg (by omega)]
 exact lgk _
structure Pt where
 group : Int
 usage : Int
 protect : Int
 own : Int
 room : Int
 deriving DecidableEq
def Pt.pv (c : Pt) : PV:=.agg [.int .i64 c.group,.int .i64 c.usage,.int .i64 c.protect,.int .i64 c.own,.int .i64 c.room]
abbrev Pt.vv (c : Pt) : VVal:=.agg [.p (.int .i64 c.group),.p (.int .i64 c.usage),.p (.int .i64 c.protect),.p (.int .i64 c.own),.p (.int .i64 c.room)]
abbrev B4 (l : List Pt) : PV:=.slice 5 (l.map Pt.pv)
attribute [go_sem] Pt.pv
theorem Z4 (l : List Pt) : (l.map Pt.pv).all PV.flat = true:=by
 rw [List.all_eq_true]
 intro x hx
 obtain ⟨n,_,rfl⟩:=lmm.1 hx
 rfl
attribute [go_sem] Z4
def InN (ns : List Nd) (x : Int) : Prop:=∃ (i : Nat) (n : Nd),ns[i]? = some n /\ n.id = x
theorem H6 {t : Tr} (h : TreeOk t) {x : Int} (hx : InN t.nodes x) : subF t.nodes t.nodes.length x = x :: (kidsN t.nodes x).flatMap (subF t.nodes t.nodes.length):=by
 obtain ⟨i,n,hn,rfl⟩:=hx
 have hi:=(lgs.1 hn).1
 obtain ⟨N,hN⟩ : ∃ N,t.nodes.length = N + 1:=⟨t.nodes.length - 1,by omega⟩
 have e1 : subF t.nodes t.nodes.length n.id = subF t.nodes (N + 1) n.id:=by rw [hN]
 rw [e1,subF]
 congr 1
 refine IR fun y hy=>?_
 obtain ⟨j,m,hm,hp,rfl⟩:=BR.1 hy
 have:=h.kid hn hm hp
 exact LM h _ _ j m hm (by omega) (by omega)
theorem Rx {t : Tr} (h : TreeOk t) {x : Int} (hx : InN t.nodes x) : subF t.nodes t.nodes.length x ≠ []:=by
 rw [H6 h hx]
 simp
theorem MH {t : Tr} (h : TreeOk t) : ∀ (l : List Int),(∀ x ∈ l,InN t.nodes x) -> l.length <= (l.flatMap (subF t.nodes t.nodes.length)).length
 | [],_=>by simp
 | x :: l,hl=>by
  have h1:=MH h l (fun y hy=>hl y (by simp [hy]))
  have h2:=List.length_pos_iff.2 (Rx h (hl x (by simp)))
  rw [lfc,lla,llc]
  omega
theorem Fr (ns : List Nd) (x : Int) : (kidsN ns x).length <= ns.length:=by
 rw [kidsN,llm]
 exact List.length_filter_le _ _
theorem Kb {t : Tr} (id : Int) (h : TreeOk t) : V 117 [t.vv,.p (.int .i64 id)] [] = some (.fresh 1 ((subT t id).map (.int .i64)),[]):=by
 refine Ag (vf:=vf117) rfl ?_
 have hlen:=h.len
 have hat:=TI t id (by omega)
 by_cases hneg : EH t.nodes id < 0
 ·have hfn:=(JS t.nodes id)
  have hemp : subT t id = []:=by
   rcases hfn with ⟨_,h2⟩ | ⟨k,_,h2,_⟩
   ·simp [subT,A6,h2]
   ·omega
  simp -implicitDefEqProofs (disch:=omega) only [vf117,Ni,hat,hneg,hemp,go_sem]
 ·have hin : InN t.nodes id:=by
   obtain ⟨k,m,_,hkm,hfm,hme⟩:=(JS t.nodes id).resolve_left (fun h=>hneg h.1)
   exact ⟨k,m,hkm,hme⟩
  have hsub : subT t id = subF t.nodes t.nodes.length id:=by
   obtain ⟨k,m,_,hkm,hfm,hme⟩:=(JS t.nodes id).resolve_left (fun h=>hneg h.1)
   simp [subT,A6,(A5 t).2 h,hfm]
  have hsl:=CZ h id
  rw [hsub] at hsl
  rw [hsub]
  simp -implicitDefEqProofs (disch:=omega) only [vf117,Ni,hat,hneg,go_sem]
  obtain ⟨I,hI⟩:=lpI fun k s=>∃ (out : List Int) (nx : List Int) (ww : Nat) (d : Nat) (e : Nat),out.length = k /\ (∀ x ∈ nx,InN t.nodes x) /\ out ++ nx.flatMap (subF t.nodes t.nodes.length) = subF t.nodes t.nodes.length id /\ ((d = 12 /\ e = 0) \/ (d = 34 /\ e = 1)) /\ s.pe 2 = .ptr (.slot 2 0) 0 0 /\ s.pe 5 = .own (.slot 5 0) ww 0 out.length /\ (∃ v,s.pe 6 = .own (.slot d e) v 0 (nx.length) /\ s.h (.slot d e) = some (v,Ob.arr 1 (nx.map (.int .i64)))) /\ s.h (.slot 2 0) = some (0,Ob.box [.p (Au t.nodes),.p (.int .i64 t.next)]) /\ s.h (.slot 5 0) = some (ww,Ob.arr 1 (out.map (.int .i64)))
  refine Al (t.nodes.length) I ?_ ?_
  ·refine (hI _ _).2 ⟨[],[id],0,12,0,?_⟩
   and_intros
   ·rfl
   ·exact by simpa using hin
   ·exact by simp
   ·exact Or.inl ⟨rfl,rfl⟩
   all_goals first | exact cl0 | (simp -implicitDefEqProofs (disch:=omega) only [lma,go_sem] <;> (refine ⟨_,rfl,?_⟩; first | rfl | (simp -implicitDefEqProofs (disch:=omega) only [lma,go_sem]; done)))
  intro k s hk hIk
  obtain ⟨out,nx,ww,d,e,hol,hall,hall',hde,h2,h5,⟨v6,h6,hhd_e⟩,hH⟩:=(hI _ _).1 hIk
  clear hIk
  rcases hde with ⟨rfl,rfl⟩ | ⟨rfl,rfl⟩
  ·rcases nx with - | ⟨x,rest⟩
   ·rw [List.flatMap_nil,lan] at hall'
    simp -implicitDefEqProofs (disch:=omega) only [h5,h6,hH,N8,go_sem]
    rw [hall']
   have hpos : (0 : Int) < ((rest.length + 1 : Nat) : Int):=by omega
   by_cases hlt : out.length < t.nodes.length
   ·have hx:=hall x (by simp)
    have hkids:=Ik t x (by omega)
    have hkl:=Fr t.nodes x
    have hrl : rest.length <= 64:=by
     have h1:=congrArg List.length hall'
     have h2:=MH h (x :: rest) hall
     rw [lla] at h1
     rw [llc] at h2
     omega
    simp -implicitDefEqProofs (disch:=omega) only [h2,h5,h6,hhd_e,hH,hlt,hkids,hpos,Int.toNat_zero,List.getElem?_cons_zero,Int.toNat_one,List.drop_succ_cons,List.drop_zero,llm,Nat.add_sub_cancel,go_sem]
    have hnx : ∀ y ∈ kidsN t.nodes x ++ rest,InN t.nodes y:=by
     intro y hy
     rcases lmp.1 hy with hy | hy
     ·obtain ⟨j,m,hm,_,hme⟩:=BR.1 hy
      exact ⟨j,m,hm,hme⟩
     ·exact hall y (by simp [hy])
    have hnx' : (out ++ [x]) ++ (kidsN t.nodes x ++ rest).flatMap (subF t.nodes t.nodes.length) = subF t.nodes t.nodes.length id:=by
     rw [<- hall',lfc,H6 h hx,List.flatMap_append]
     simp
    try refine ai ?_
    refine (hI _ _).2 ⟨out ++ [x],kidsN t.nodes x ++ rest,ww + 1,34,1,?_⟩
    and_intros
    ·exact by simp [hol]
    ·exact hnx
    ·exact hnx'
    ·exact Or.inr ⟨rfl,rfl⟩
    all_goals first | exact cl0 | (simp -implicitDefEqProofs (disch:=omega) only [h2,h5,h6,hhd_e,hH,lma,go_sem] <;> (refine ⟨_,rfl,?_⟩; first | rfl | (simp -implicitDefEqProofs (disch:=omega) only [h2,h5,h6,hhd_e,hH,lma,go_sem]; done)))
   ·have hz : (x :: rest).flatMap (subF t.nodes t.nodes.length) = []:=by
     have h1:=congrArg List.length hall'
     rw [lla] at h1
     exact lez (by omega)
    rw [hz,lan] at hall'
    simp -implicitDefEqProofs (disch:=omega) only [h2,h5,h6,hH,hlt,hpos,go_sem]
    rw [hall']
  ·rcases nx with - | ⟨x,rest⟩
   ·rw [List.flatMap_nil,lan] at hall'
    simp -implicitDefEqProofs (disch:=omega) only [h5,h6,hhd_e,hH,N8,go_sem]
    rw [hall']
   have hpos : (0 : Int) < ((rest.length + 1 : Nat) : Int):=by omega
   by_cases hlt : out.length < t.nodes.length
   ·have hx:=hall x (by simp)
    have hkids:=Ik t x (by omega)
    have hkl:=Fr t.nodes x
    have hrl : rest.length <= 64:=by
     have h1:=congrArg List.length hall'
     have h2:=MH h (x :: rest) hall
     rw [lla] at h1
     rw [llc] at h2
     omega
    simp -implicitDefEqProofs (disch:=omega) only [h2,h5,h6,hhd_e,hH,hlt,hkids,hpos,Int.toNat_zero,List.getElem?_cons_zero,Int.toNat_one,List.drop_succ_cons,List.drop_zero,llm,Nat.add_sub_cancel,go_sem]
    have hnx : ∀ y ∈ kidsN t.nodes x ++ rest,InN t.nodes y:=by
     intro y hy
     rcases lmp.1 hy with hy | hy
     ·obtain ⟨j,m,hm,_,hme⟩:=BR.1 hy
      exact ⟨j,m,hm,hme⟩
     .exact hall y (by simp [hy])
    have hnx' : (out ++ [x]) ++ (kidsN t.nodes x ++ rest).flatMap (subF t.nodes t.nodes.length) = subF t.nodes t.nodes.length id:=by
     rw [<- hall',lfc,H6 h hx,List.flatMap_append]
     simp
    try refine ai ?_
    refine (hI _ _).2 ⟨out ++ [x],kidsN t.nodes x ++ rest,ww + 1,34,1,?_⟩
    and_intros
    ·exact by simp [hol]
    ·exact hnx
    ·exact hnx'
    ·exact Or.inr ⟨rfl,rfl⟩
    all_goals first | exact cl0 | (simp -implicitDefEqProofs (disch:=omega) only [h2,h5,h6,hhd_e,hH,lma,go_sem] <;> (refine ⟨_,rfl,?_⟩; first | rfl | (simp -implicitDefEqProofs (disch:=omega) only [h2,h5,h6,hhd_e,hH,lma,go_sem]; done)))
   ·have hz : (x :: rest).flatMap (subF t.nodes t.nodes.length) = []:=by
     have h1:=congrArg List.length hall'
     rw [lla] at h1
     exact lez (by omega)
    rw [hz,lan] at hall'
    simp -implicitDefEqProofs (disch:=omega) only [h2,h5,h6,hhd_e,hH,hlt,hpos,go_sem]
    rw [hall']
def Ap (n : Int) : Bool:=decide (0 <= n) && decide (n <= 16777216)
theorem JL (n : Int) : V 120 [.p (.int .i64 n)] [] = some (.p (.bool (Ap n)),[]):=by
 refine Ag (vf:=vf120) rfl ?_
 by_cases h0 : 0 <= n
 ·by_cases h1 : n <= 16777216
  .simp -implicitDefEqProofs only [vf120,Kq,h0,h1,Ap,decide_true,bas,go_sem]
  .simp -implicitDefEqProofs only [vf120,Kq,h0,h1,Ap,decide_true,decide_false,Bool.and_false,go_sem]
 .simp -implicitDefEqProofs only [vf120,Kq,h0,Ap,decide_false,bfa,go_sem]
def msort (l : List Int) : List Int:=l.mergeSort fun x y=>decide (x <= y)
theorem RT : ∀ (l : List Int),Af unI (l.map (.int .i64)) = some l
 | []=>rfl
 | x :: l=>by
  have:=RT l
  rw [lpc]
  show ob (some x) (fun y=>ob (Af unI (List.map (PV.int .i64) l)) fun ys=>some (y :: ys)) = _
  rw [this,Ai,Ai]
theorem Sm (l : List Int) (hl : l.length < 1000000) : V 118 [.own (.arg 0 0) 0 0 l.length] [.arr 1 (l.map (.int .i64))] = some (.tup [],[.arr 1 ((msort l).map (.int .i64))]):=by
 refine V_x ?_
 have h1 : l.length = (l.map (PV.int .i64)).length:=by simp
 have h2 : l.length < 4611686018427387904:=by omega
 simp only [XS,if_pos,XI,gd,if_pos h1,if_pos h2,RT,Ai,msort]
theorem F9 (l : List Int) : (msort l).length = l.length:=List.length_mergeSort l
def D8 (x : Pt) (g : Int) : Bool:=decide (x.group = g) && Ap x.usage && Ap x.protect && Ap x.own && (decide (0 <= x.room) && decide (x.room <= 4611686018427387904))
def A0 : List Pt -> List Int -> Bool
 | [],[]=>true
 | x :: l,g :: gs=>D8 x g && A0 l gs
 | _,_=>false
def CK (t : Tr) (l : List Pt) (root : Int) : Bool:=AF t && (!(subT t root).isEmpty && A0 l (msort (subT t root)))
theorem KO : ∀ (l : List Pt) (g : List Int),A0 l g = true -> l.length = g.length
 | [],[],_=>rfl
 | x :: l,y :: g,h=>by
  simp only [A0,bat] at h
  simp [KO l g h.2]
 | [],_ :: _,h=>by simp [A0] at h
 | _ :: _,[],h=>by simp [A0] at h
theorem V5 (t : Tr) (l : List Pt) (root : Int) (hf : t.Fits) (hn : t.nodes.length < 1000000) (hl : l.length < 1000000) : V 119 [t.vv,.p (B4 l),.p (.int .i64 root)] [] = some (.p (.bool (CK t l root)),[]):=by
 refine Ag (vf:=vf119) rfl ?_
 have htc := Gi t hf hn
 unfold CK
 by_cases ht : AF t = true
 ·have hT := (A5 t).1 ht
  have hsub := Kb root hT
  have hsl := CZ hT root
  have hlen := hT.len
  generalize subT t root = S at hsub hsl
  have hsort:=Sm S (by omega)
  have hml := F9 S
  rw [ht] at htc ⊢
  generalize hG : msort S = G at hsort hml
  rw [Bool.true_and]
  rcases S with - | ⟨s0,S'⟩
  ·simp only [lpn,lln] at hsub hsort hml
   have hGn : G = []:=lez hml
   subst hGn
   have hz : ((0 : Nat) : Int) = 0:=rfl
   simp -implicitDefEqProofs (disch:=omega) only [vf119,IB,htc,hsub,hsort,List.isEmpty_nil,Bool.not_true,bfa,hz,go_sem]
  ·have hne : (!(s0 :: S').isEmpty) = true:=rfl
   rw [hne, bta]
   generalize s0 :: S' = S at hsub hsl hsort hml hne
   have hnz : ¬ ((S.length : Nat) : Int) = 0:=by
    intro h
    have : S = []:=lez (by omega)
    subst this
    simp at hne
   by_cases hlg : l.length = S.length
   ·simp -implicitDefEqProofs (disch:=omega) only [vf119,IB,htc,hsub,hsort,hnz,hlg,go_sem]
    obtain ⟨I,hI⟩:=lpI fun k s=>A0 l G = A0 (l.drop k) (G.drop k) /\ s.pe 7 = .own (.slot 15 1) 0 0 S.length /\ s.pe 28 = .p (B4 l) /\ s.pe 29 = .p (.int .i64 ↑S.length) /\ s.pe 30 = .p (.int .i64 k) /\ s.h (.slot 15 1) = some (0,Ob.arr 1 (List.map (.int .i64) G))
    refine Al (S.length) I ?_ ?_
    ·refine (hI _ _).2 ?_
     and_intros
     ·rfl
     all_goals exact cl0
    intro k s hk hIk
    obtain ⟨hp,hH⟩:=(hI _ _).1 hIk
    clear hIk
    simp -implicitDefEqProofs (disch:=omega) only [hH,go_sem]
    refine Ah (fun hlt=>?_) (fun hge=>?_)
    ·have hlt' : k < l.length:=by omega
     have hm : l[k]? = some l[k]:=lgg hlt'
     have hg : G[k]? = some G[k]:=lgg (by omega)
     have hdr : l.drop k = l[k] :: l.drop (k + 1):=ldg hlt'
     have hdg : G.drop k = G[k] :: G.drop (k + 1):=ldg (by omega)
     generalize l[k] = x at hm hdr
     generalize G[k] = y at hg hdg
     rw [hdr,hdg,A0] at hp
     by_cases hc1 : x.group = y
     ·have hq1:=JL x.usage
      by_cases hc2 : Ap x.usage = true
      ·rw [hc2] at hq1
       have hq2:=JL x.protect
       by_cases hc3 : Ap x.protect = true
       ·rw [hc3] at hq2
        have hq3:=JL x.own
        by_cases hc4 : Ap x.own = true
        ·rw [hc4] at hq3
         by_cases hc5 : 0 <= x.room
         ·have hc5' : ¬ x.room < 0:=by omega
          by_cases hc6 : x.room <= 4611686018427387904
          ·have hc6' : ¬ 4611686018427387904 < x.room:=by omega
           have hp' : A0 l G = A0 (l.drop (k + 1)) (G.drop (k + 1)):=by
            rw [hp]
            simp [D8,hc1,hc2,hc3,hc4,hc5,hc6]
           simp -implicitDefEqProofs (disch:=omega) only [hH,hlt,hm,hg,hc1,hq1,hq2,hq3,Bool.not_true,hc5',hc6',go_sem]
           try refine ai ?_
           refine (hI _ _).2 ?_
           and_intros
           ·exact hp'
           all_goals exact cl0
          ·have hc6' : 4611686018427387904 < x.room:=by omega
           have hpf : A0 l G = false:=by
            rw [hp]
            simp [D8,hc6]
           simp -implicitDefEqProofs (disch:=omega) only [hH,hlt,hm,hg,hc1,hq1,hq2,hq3,hc5',hc6',Bool.not_true,go_sem]
           rw [hpf]
         ·have hc5' : x.room < 0:=by omega
          have hpf : A0 l G = false:=by
           rw [hp]
           simp [D8,hc5]
          simp -implicitDefEqProofs (disch:=omega) only [hH,hlt,hm,hg,hc1,hq1,hq2,hq3,hc5',Bool.not_true,go_sem]
          rw [hpf]
        ·have hc4' : Ap x.own = false:=by simpa using hc4
         rw [hc4'] at hq3
         have hpf : A0 l G = false:=by
          rw [hp]
          simp [D8,hc4']
         simp -implicitDefEqProofs (disch:=omega) only [hH,hlt,hm,hg,hc1,hq1,hq2,hq3,Bool.not_true,bnf,go_sem]
         rw [hpf]
       ·have hc3' : Ap x.protect = false:=by simpa using hc3
        rw [hc3'] at hq2
        have hpf : A0 l G = false:=by
         rw [hp]
         simp [D8,hc3']
        simp -implicitDefEqProofs (disch:=omega) only [hH,hlt,hm,hg,hc1,hq1,hq2,Bool.not_true,bnf,go_sem]
        rw [hpf]
      ·have hc2' : Ap x.usage = false:=by simpa using hc2
       rw [hc2'] at hq1
       have hpf : A0 l G = false:=by
        rw [hp]
        simp [D8,hc2']
       simp -implicitDefEqProofs (disch:=omega) only [hH,hlt,hm,hg,hc1,hq1,Bool.not_true,bnf,go_sem]
       rw [hpf]
     ·have hpf : A0 l G = false:=by
       rw [hp]
       simp [D8,hc1]
      simp -implicitDefEqProofs (disch:=omega) only [hH,hlt,hm,hg,hc1,bnf,go_sem]
      rw [hpf]
    ·rw [ldl (by omega),ldl (by omega)] at hp
     rw [hp,A0]
     simp -implicitDefEqProofs (disch:=omega) only [hge,go_sem]
   ·have hpf : A0 l G = false:=by
     cases h : A0 l G
     .rfl
     .exact absurd (KO _ _ h) (by omega)
    have hlg' : ¬ ((l.length : Nat) : Int) = ((S.length : Nat) : Int):=by omega
    simp -implicitDefEqProofs (disch:=omega) only [vf119,IB,htc,hsub,hsort,hnz,hlg',hpf,go_sem]
 ·have ht' : AF t = false:=by simpa using ht
  rw [ht'] at htc ⊢
  rw [bfa]
  simp -implicitDefEqProofs (disch:=omega) only [vf119,IB,htc,go_sem]
abbrev GQ (l : List Pt) : List MKey:=l.map fun x=>MKey.int x.group
abbrev Ej (l : List Pt) : PV:=.map (.int .i64) (GQ l) (l.map Pt.pv)
theorem JP (k : MKey) (v : PV) : ∀ (ks : List MKey) (vs : List PV),ks.length = vs.length -> k ∉ ks -> At ks vs k v = (ks ++ [k],vs ++ [v])
 | [],[],_,_=>rfl
 | a :: ks,b :: vs,hl,hk=>by
  have:=JP k v ks vs (by simpa using hl) (fun h=>hk (by simp [h]))
  have hne : ¬ k = a:=fun h=>hk (by simp [h])
  simp [At,hne,this]
 | [],_ :: _,h,_=>by simp at h
 | _ :: _,[],h,_=>by simp at h
theorem YO (l : List Pt) (hl : l.length < 1000000) (hnd : (l.map (·.group)).Nodup) : V 121 [.p (B4 l)] [] = some (.p (Ej l),[]):=by
 refine Ag (vf:=vf121) rfl ?_
 simp -implicitDefEqProofs (disch:=omega) only [vf121,Tv,go_sem]
 obtain ⟨I,hI⟩:=lpI fun k s=>s.pe 3 = .mref (.slot 6 0) 0 /\ s.pe 7 = .p (B4 l) /\ s.pe 8 = .p (.int .i64 ↑l.length) /\ s.pe 9 = .p (.int .i64 k) /\ s.h (.slot 6 0) = some (0,Ob.map (KT.int IntKind.i64) (GQ (l.take k)) ((l.take k).map Pt.pv))
 refine Al (l.length) I ?_ ?_
 ·refine (hI _ _).2 ⟨?_,?_,?_,?_,?_⟩
  all_goals exact cl0
 intro k s hk hIk
 obtain ⟨h3,h7,h8,h9,hh6_0⟩:=(hI _ _).1 hIk
 clear hIk
 simp -implicitDefEqProofs (disch:=omega) only [h8,h9,go_sem]
 refine Ah (fun hlt=>?_) (fun hge=>?_)
 ·have hm : l[k]? = some l[k]:=lgg hlt
  have htk:=Bf hm
  have hnew : MKey.int l[k].group ∉ GQ (l.take k):=by
   intro h
   obtain ⟨y,hy,he⟩:=lmm.1 h
   have he' : y.group = l[k].group:=by simpa using he
   obtain ⟨i,hi,rfl⟩:=List.mem_take_iff_getElem.1 hy
   have h1 : i < k:=by
    have:=(Nat.lt_min.1 hi).1
    exact this
   have hnd':=List.pairwise_iff_getElem.1 hnd i k (by simp; omega) (by simpa using hlt) h1
   simp only [List.getElem_map] at hnd'
   exact hnd' he'
  generalize l[k] = x at hm htk hnew
  have hput:=JP (MKey.int x.group) x.pv (GQ (l.take k)) ((l.take k).map Pt.pv) (by simp) hnew
  have e1 : GQ (l.take (k + 1)) = GQ (l.take k) ++ [MKey.int x.group]:=by rw [htk]; simp
  have e2 : (l.take (k + 1)).map Pt.pv = (l.take k).map Pt.pv ++ [x.pv]:=by rw [htk]; simp
  simp only [Pt.pv] at hput e2
  simp -implicitDefEqProofs (disch:=omega) only [h3,h7,h9,hh6_0,hlt,hm,hput,go_sem]
  try refine ai ?_
  refine (hI _ _).2 ⟨?_,?_,?_,?_,?_⟩
  all_goals exact cl0
 ·simp -implicitDefEqProofs (disch:=omega) only [h3,hh6_0,hge,go_sem]
  rw [ltl (by omega)]
def zeroPt : Pt:=⟨0,0,0,0,0⟩
def partOf (l : List Pt) (g : Int) : Pt:=(l.find? fun x=>decide (x.group = g)).getD zeroPt
structure PtOk (x : Pt) : Prop where
 u0 : 0 <= x.usage
 u1 : x.usage <= 16777216
 p0 : 0 <= x.protect
 p1 : x.protect <= 16777216
 o0 : 0 <= x.own
 o1 : x.own <= 16777216
 r0 : 0 <= x.room
 r1 : x.room <= 4611686018427387904
theorem Ye : PtOk zeroPt:=⟨by decide,by decide,by decide,by decide,by decide,by decide,by decide,by decide⟩
theorem Eo {l : List Pt} (h : ∀ x ∈ l,PtOk x) (g : Int) : PtOk (partOf l g):=by
 unfold partOf
 cases he : l.find? fun x=>decide (x.group = g) with
 | none=>exact Ye
 | some x=>exact h x (List.mem_of_find?_eq_some he)
theorem LA (g : Int) : ∀ (l : List Pt),AN (GQ l) (l.map Pt.pv) (.int g) = (l.find? fun x=>decide (x.group = g)).map Pt.pv
 | []=>rfl
 | x :: l=>by
  have:=LA g l
  by_cases he : x.group = g
  ·simp [AN,he]
  ·have he' : ¬ g = x.group:=fun h=>he h.symm
   simp only [lpc,AN,List.find?_cons,he,decide_false,MKey.int.injEq,he',if_false]
   exact this
theorem P7 (g : Int) (l : List Pt) : ((l.find? fun x=>decide (x.group = g)).map Pt.pv).getD (.agg [.int .i64 0,.int .i64 0,.int .i64 0,.int .i64 0,.int .i64 0]) = (partOf l g).pv:=by
 unfold partOf
 cases l.find? fun x=>decide (x.group = g) <;> rfl
def BP (ns : List Nd) (l : List Pt) : Nat -> Int -> Int
 | 0,_=>0
 | k + 1,g=>min (min (max 0 ((partOf l g).usage - (partOf l g).protect)) (partOf l g).room) ((partOf l g).own + Ab ((kidsN ns g).map (BP ns l k)))
theorem El {ns : List Nd} {l : List Pt} (h : ∀ x ∈ l,PtOk x) : ∀ (k : Nat) (g : Int),0 <= BP ns l k g /\ BP ns l k g <= 16777216
 | 0,_=>by simp [BP]
 | k + 1,g=>by
  have h1:=Eo h g
  have h2:=ER ((kidsN ns g).map (BP ns l k)) (by
   intro x hx
   obtain ⟨y,_,rfl⟩:=lmm.1 hx
   exact (El h k y).1)
  have:=h1.u0; have:=h1.u1; have:=h1.p0; have:=h1.o0; have:=h1.r0
  simp only [BP]
  omega
theorem zao {t : Tr} (h : TreeOk t) {l : List Pt} (hp : ∀ x ∈ l,PtOk x) : ∀ (k i : Nat) (n : Nd),t.nodes[i]? = some n -> t.nodes.length <= i + k -> V 123 [t.vv,.p (Ej l),.p (.int .i64 n.id)] [] = some (.p (.int .i64 (BP t.nodes l k n.id)),[]):=by
 intro k
 induction k with
 | zero=>intro i n hn hk; have:=(lgs.1 hn).1; omega
 | succ k ih =>
  intro i n hn hk
  have hlen:=h.len
  refine Ag (vf:=vf123) rfl ?_
  have hkd:=Ik t n.id (by omega)
  have hkl:=Fr t.nodes n.id
  have hkm : ∀ c ∈ kidsN t.nodes n.id,V 123 [t.vv,.p (Ej l),.p (.int .i64 c)] [] = some (.p (.int .i64 (BP t.nodes l k c)),[]):=by
   intro c hc
   obtain ⟨j,m,hj,hp,rfl⟩:=BR.1 hc
   have hij:=h.kid hn hj hp
   exact ih j m hj (by omega)
  rw [show BP t.nodes l (k + 1) n.id = min (min (max 0 ((partOf l n.id).usage - (partOf l n.id).protect)) (partOf l n.id).room) ((partOf l n.id).own + Ab ((kidsN t.nodes n.id).map (BP t.nodes l k))) from rfl]
  have hx:=Eo hp n.id
  have hu0:=hx.u0; have hu1:=hx.u1; have hp0:=hx.p0; have hp1:=hx.p1; have ho0:=hx.o0; have ho1:=hx.o1; have hr0:=hx.r0; have hr1:=hx.r1
  clear hx
  have hget:=LA n.id l
  have hgd:=P7 n.id l
  generalize partOf l n.id = x at hgd hu0 hu1 hp0 hp1 ho0 ho1 hr0 hr1
  generalize kidsN t.nodes n.id = ks at hkd hkl hkm
  simp -implicitDefEqProofs (disch:=omega) only [vf123,Tt,hkd,hget,hgd,go_sem]
  obtain ⟨J,hJ⟩:=lpI fun j s=>∃ (s0 : Int),s0 = x.own + Ab ((ks.take j).map (BP t.nodes l k)) /\ 0 <= s0 /\ s0 <= 16777216 * (j + 1) /\ s.pe 1 = .p (Ej l) /\ s.pe 3 = .ptr (.slot 3 0) 0 0 /\ s.pe 7 = .ptr (.slot 7 0) 0 0 /\ s.pe 8 = .p (.int .i64 s0) /\ s.pe 18 = .own (.slot 18 1) 0 0 ks.length /\ s.pe 19 = .p (.int .i64 ↑ks.length) /\ s.pe 20 = .p (.int .i64 j) /\ s.h (.slot 3 0) = some (0,Ob.box [.p (Au t.nodes),.p (.int .i64 t.next)]) /\ s.h (.slot 7 0) = some (0,Ob.box [.p (.int .i64 x.group),.p (.int .i64 x.usage),.p (.int .i64 x.protect),.p (.int .i64 x.own),.p (.int .i64 x.room)]) /\ s.h (.slot 18 1) = some (0,Ob.arr 1 (List.map (.int .i64) ks))
  refine Al (ks.length) J ?_ ?_
  ·refine (hJ _ _).2 ⟨x.own,?_⟩
   and_intros
   .exact by simp [Ab]
   .exact cl3
   .exact cl3
   all_goals exact cl0
  intro j s hj hJk
  obtain ⟨s0,hs0,hs1,hs2,hH⟩:=(hJ _ _).1 hJk
  clear hJk
  simp -implicitDefEqProofs (disch:=omega) only [hH,go_sem]
  refine Ah (fun hlt=>?_) (fun hge=>?_)
  ·have hm : ks[j]? = some ks[j]:=lgg hlt
   have htk:=GY (f:=BP t.nodes l k) hm
   generalize ks[j] = c at hm htk
   have hc:=hkm c (lmg hm)
   have hb:=El (ns:=t.nodes) hp k c
   generalize BP t.nodes l k c = v at hc hb htk
   have hb0:=hb.1
   have hb1:=hb.2
   simp -implicitDefEqProofs (disch:=omega) only [hH,hlt,hm,hc,go_sem]
   try refine ai ?_
   refine (hJ _ _).2 ⟨s0 + v,?_⟩
   and_intros
   .exact by rw [htk,hs0]; omega
   .omega
   .omega
   all_goals exact cl0
  ·rw [ltl (by omega)] at hs0
   simp -implicitDefEqProofs (disch:=omega) only [hH,hge,go_sem]
   rw [hs0]
end Go.V
