/- Part 2 of the proof. -/
import Derived.Test.YtkgkbbpakjdemaaGreatDoorA1
import Derived.Attr
set_option linter.unusedSectionVars false
set_option linter.unusedSimpArgs false
set_option linter.unusedVariables false
open Nat renaming reduceAdd → rA, reduceSub → rS, reduceEqDiff → rE, reduceLeDiff → rL, le_refl → lrf
open List renaming map_cons → lpc, nil_append → lna, append_nil → lan, map_append → lma, length_cons → llc, length_append → lla, flatMap_cons → lfc, map_nil → lpn, length_nil → lln, length_map → llm, length_take → llt, cons_append → lca
open Option renaming some.injEq → osi
open Bool renaming false_and → bfa, false_eq_true → bft, true_and → bta, not_false → bnf, and_self → bas, and_true → bau
namespace Go.V
def wp {α : Type} (x : Option α) (Q : α -> Prop) (_u : Tok Q:=⟨⟩) : Prop:=∃ a,x = some a /\ Q a
section
variable {α β : Type}
theorem ob_some (a : α) (f : α -> Option β) (u : Tok f) : ob (some a) f u = f a:=rfl
theorem ob_none (f : α -> Option β) (u : Tok f) : ob none f u = none:=rfl
theorem gd_pos {c : Prop} [Decidable c] (x : Option α) (u : Tok x) (h : c) : gd c x u = x:=by simp [gd,h]
theorem gd_true (x : Option α) (i : Decidable True) (u : Tok x) : @gd α True i x u = x:=by simp [gd]
theorem br_true (x y : α) (u : Tok x) (v : Tok y) : br true x y u v = x:=rfl
theorem br_false (x y : α) (u : Tok x) (v : Tok y) : br false x y u v = y:=rfl
theorem wp_some (a : α) (Q : α -> Prop) (u : Tok Q) : wp (some a) Q u = Q a:=by simp [wp]
theorem wp_ob (x : Option α) (f : α -> Option β) (Q : β -> Prop) (u : Tok f) (v : Tok Q) : wp (ob x f u) Q v = wp x fun a=>wp (f a) Q:=by
 cases x <;> simp [wp,ob]
theorem wp_br {b : Bool} {x y : Option α} {Q : α -> Prop} {u : Tok x} {v : Tok y} {t : Tok Q} (h1 : b = true -> wp x Q) (h2 : b = false -> wp y Q) : wp (br b x y u v) Q t:=by
 cases b
 .exact h2 rfl
 .exact h1 rfl
theorem wp_mono {x : Option α} {Q Q' : α -> Prop} (h : wp x Q) (hq : ∀ a,Q a -> Q' a) : wp x Q':=by
 obtain ⟨a,ha,q⟩:=h
 exact ⟨a,ha,hq a q⟩
theorem eq_of_wp {x : Option α} {a : α} (h : wp x (· = a)) : x = some a:=by
 obtain ⟨b,hb,rfl⟩:=h
 exact hb
end
theorem iterN_mono {b : St -> Option (VExit × St)} : ∀ {n m : Nat} {s : St} {r : VExit × St},n <= m -> iterN b n s = some r -> iterN b m s = some r:=by
 intro n
 induction n with
 | zero=>intro m s r _ h; simp [iterN] at h
 | succ n ih =>
  intro m s r hm h
  obtain ⟨m,rfl⟩ : ∃ k,m = k + 1:=⟨m - 1,by omega⟩
  simp only [iterN] at h ⊢
  cases hb : b s with
  | none=>simp [hb,ob] at h
  | some q =>
   obtain ⟨e,s'⟩:=q
   simp only [hb,ob] at h ⊢
   cases e with
   | normal=>exact ih (by omega) h
   | exit _=>exact h
   | ret=>exact h
theorem iter_of {b : St -> Option (VExit × St)} {n : Nat} {s : St} {r : VExit × St} (h : iterN b n s = some r) : iter b s = some r:=by
 unfold iter
 have hex : ∃ n r,iterN b n s = some r:=⟨n,r,h⟩
 rw [dif_pos hex]
 have h':=Classical.choose_spec (Classical.choose_spec hex)
 have h1:=iterN_mono (Nat.le_max_left n (Classical.choose hex)) h
 have h2:=iterN_mono (Nat.le_max_right n (Classical.choose hex)) h'
 rw [h1] at h2
 exact h2.symm
noncomputable def thenE (r : VExit × St) (k : St -> Option (VExit × St)) : Option (VExit × St):=match r.1 with
 | .normal=>k r.2
 | _=>some r
theorem thenE_normal (s : St) (k : St -> Option (VExit × St)) : thenE (.normal,s) k = k s:=rfl
theorem thenE_exit (i : Nat) (s : St) (k : St -> Option (VExit × St)) : thenE (.exit i,s) k = some (.exit i,s):=rfl
theorem thenE_ret (s : St) (k : St -> Option (VExit × St)) : thenE (.ret,s) k = some (.ret,s):=rfl
def inB (id : Nat) (r : VExit × St) : Option (VExit × St):=if r.1 = .exit id then some (.normal,r.2) else some r
theorem inB_normal (id : Nat) (s : St) : inB id (.normal,s) = some (.normal,s):=by simp [inB]
theorem inB_ret (id : Nat) (s : St) : inB id (.ret,s) = some (.ret,s):=by simp [inB]
theorem inB_exit (id i : Nat) (s : St) : inB id (.exit i,s) = if i = id then some (.normal,s) else some (.exit i,s):=by simp [inB]
section
variable (Γ : Sig) (s : St)
theorem exec_skip : exec Γ .skip s = some (.normal,s):=by simp [exec]
theorem exec_region (r : VRegion) : exec Γ (.region r) s = ob (execR Γ r s) fun s'=>some (.normal,s'):=by simp [exec]
theorem exec_seq (a b : VCode) : exec Γ (.seq a b) s = ob (exec Γ a s) fun r=>thenE r (exec Γ b):=by
 simp only [exec]
 rfl
theorem exec_cond (t : Nat) (a b : VCode) : exec Γ (.cond (.v t) a b) s = match s.pe t with
  | .p (.bool c)=>br c (exec Γ a s) (exec Γ b s)
  | _=>none:=by
 simp only [exec]
 rfl
theorem exec_block (id : Nat) (c : VCode) : exec Γ (.block id c) s = ob (exec Γ c s) (inB id):=by
 simp only [exec]
 rfl
theorem exec_loop (c : VCode) : exec Γ (.loop c) s = iter (exec Γ c) s:=by simp only [exec]
theorem exec_exit (id : Nat) : exec Γ (.exit id) s = some (.exit id,s):=by simp only [exec]
theorem exec_ret : exec Γ .ret s = some (.ret,s):=by simp only [exec]
theorem exec_scope (c : VCode) : exec Γ (.scope c) s = exec Γ c s:=by simp only [exec]
theorem exec_fail : exec Γ .fail s = none:=by simp only [exec]
theorem exec_mv (a b : Id) (c : VCode) : exec Γ (.mv a b c) s = exec Γ c (moved a b s):=by simp only [exec]
end
theorem execR_plain (Γ : Sig) (ops : List VOper) (s : St) : execR Γ ⟨ops,[],[]⟩ s = ob (runOps Γ ops { pe:=s.pe,te:=fun _=>none,h:=s.h }) fun q=>some { pe:=q.pe,h:=q.h }:=by
 simp [execR,freeze]
theorem runOps_nil (Γ : Sig) (r : RS) : runOps Γ [] r = some r:=rfl
theorem runOps_cons (Γ : Sig) (o : VOper) (os : List VOper) (r : RS) : runOps Γ (o :: os) r = ob (stepO Γ o r) fun r'=>runOps Γ os r':=rfl
section
variable (Γ : Sig) (d : VDst) (op : VOp) (pe : Nat -> VVal) (te : Nat -> Option VVal) (h : VHeap)
theorem stepO_v (s : Nat) : stepO Γ ⟨.v s,op,none⟩ ⟨pe,te,h⟩ = ob (evalOp Γ (RS.look ⟨pe,te,h⟩) h s op) fun q=>some ⟨updV pe s q.1,te,h.upds q.2⟩:=rfl
theorem stepO_t (s : Nat) : stepO Γ ⟨.t s,op,none⟩ ⟨pe,te,h⟩ = ob (evalOp Γ (RS.look ⟨pe,te,h⟩) h s op) fun q=>some ⟨pe,updT te s q.1,h.upds q.2⟩:=rfl
theorem stepO_n : stepO Γ ⟨.none,op,none⟩ ⟨pe,te,h⟩ = ob (evalOp Γ (RS.look ⟨pe,te,h⟩) h 0 op) fun q=>some ⟨pe,te,h.upds q.2⟩:=rfl
theorem stepO_gv (s : Nat) (g : VArg) (want : Bool) : stepO Γ ⟨.v s,op,some (g,want)⟩ ⟨pe,te,h⟩ = ob (RS.look ⟨pe,te,h⟩ g) fun gv=>match gv with
  | .p (.bool b)=>br (b == want) (ob (evalOp Γ (RS.look ⟨pe,te,h⟩) h s op) fun q=>some ⟨updV pe s q.1,te,h.upds q.2⟩) (some ⟨updV pe s .undef,te,h⟩)
  | .undef=>some ⟨updV pe s .undef,te,h⟩
  | _=>none:=rfl
theorem stepO_gt (s : Nat) (g : VArg) (want : Bool) : stepO Γ ⟨.t s,op,some (g,want)⟩ ⟨pe,te,h⟩ = ob (RS.look ⟨pe,te,h⟩ g) fun gv=>match gv with
  | .p (.bool b)=>br (b == want) (ob (evalOp Γ (RS.look ⟨pe,te,h⟩) h s op) fun q=>some ⟨pe,updT te s q.1,h.upds q.2⟩) (some ⟨pe,updT te s .undef,h⟩)
  | .undef=>some ⟨pe,updT te s .undef,h⟩
  | _=>none:=rfl
theorem look_v (s : Nat) : RS.look ⟨pe,te,h⟩ (.v s) = some (pe s):=rfl
theorem look_t (s : Nat) : RS.look ⟨pe,te,h⟩ (.t s) = te s:=rfl
theorem look_c (d : PV) : RS.look ⟨pe,te,h⟩ (.c d) = some (thaw d):=rfl
theorem updV_at (s t : Nat) (v : VVal) : updV pe s v t = if t = s then v else pe t:=rfl
theorem updT_at (s t : Nat) (v : VVal) : updT te s v t = if t = s then some v else te t:=rfl
theorem upds_nil : h.upds [] = h:=rfl
theorem upds_cons (id : Id) (o : Nat × Ob) (us : List (Id × Nat × Ob)) : h.upds ((id,o) :: us) = (h.upd id o).upds us:=rfl
theorem upd_at (id i : Id) (o : Nat × Ob) : h.upd id o i = if i = id then some o else h i:=rfl
end
theorem wrap64 {n : Int} (h1 : -9223372036854775808 <= n) (h2 : n <= 9223372036854775807) : IntKind.i64.wrap n = n:=by
 simp [IntKind.wrap,IntKind.bits,IntKind.signed]
 omega
section
variable (Γ : Sig) (look : VArg -> Option VVal) (h : VHeap) (d : Nat)
theorem evalOp_move (x : VArg) : evalOp Γ look h d (.move x) = ob (look x) fun v=>some (v,[]):=rfl
theorem evalOp_newArr (sz : Nat) : evalOp Γ look h d (.newArr sz) = some (.own (.slot d 0) (nv (h (.slot d 0))) 0 0,[(.slot d 0,nv (h (.slot d 0)),.arr sz [])]):=rfl
theorem evalOp_pick (c : VArg) (a : VArg) (b : VArg) : evalOp Γ look h d (.pick c a b) = ob (look c) fun v=>match v with
  | .p (.bool t)=>br t (ob (look a) fun v=>some (v,[])) (ob (look b) fun v=>some (v,[]))
  | _=>none:=rfl
theorem evalOp_alloc (zero : List ZC) : evalOp Γ look h d (.alloc zero) = some (.ptr (.slot d 0) (nv (h.upds (zcells d h 0 zero).2 (.slot d 0))) 0,(zcells d h 0 zero).2 ++ [(.slot d 0,nv (h.upds (zcells d h 0 zero).2 (.slot d 0)),.box (zcells d h 0 zero).1)]):=rfl
theorem evalOp_box (n : Nat) (x : VArg) : evalOp Γ look h d (.box n x) = ob (look x) fun v=>gd ((vcells v).length = n) <| gd ((vcells v).all solid = true) (some (.ptr (.slot d 0) (nv (h (.slot d 0))) 0,[(.slot d 0,nv (h (.slot d 0)),.box (vcells v))])):=rfl
theorem evalOp_build (cells : List BC) : evalOp Γ look h d (.build cells) = ob (bcells look d h 0 cells) fun r=>some (.agg r.1,r.2):=rfl
theorem evalOp_buildSlice (sz : Nat) (parts : List VArg) : evalOp Γ look h d (.buildSlice sz parts) = ob (mapO (fun x=>ob (look x) fun v=>freezeP v) parts) fun xs =>
   gd (xs.all (fun x=>decide (x.cells.length = sz)) = true) (some (.own (.slot d 0) (nv (h (.slot d 0))) 0 parts.length,[(.slot d 0,nv (h (.slot d 0)),.arr sz xs)])):=rfl
theorem evalOp_buildFz (sz : Nat) (parts : List VArg) : evalOp Γ look h d (.buildFz sz parts) = ob (mapO (fun x=>ob (look x) fun v=>freezeP v) parts) fun xs =>
   gd (xs.all (fun x=>decide (x.cells.length = sz)) = true) (some (.p (.slice sz xs),[])):=rfl
theorem evalOp_load (agg : Option Nat) (a : VArg) : evalOp Γ look h d (.load agg a) = ob (look a) fun p=>ob (vload h agg p) fun v=>some (v,[]):=rfl
theorem evalOp_store (n : Nat) (a : VArg) (x : VArg) : evalOp Γ look h d (.store n a x) = ob (look a) fun p=>ob (look x) fun v=>ob (vstore h n p v) fun us=>some (.undef,us):=rfl
theorem evalOp_fieldAddr (off : Nat) (x : VArg) : evalOp Γ look h d (.fieldAddr off x) = ob (look x) fun v=>match v with
  | .ptr id ver o=>some (.ptr id ver (o + off),[])
  | .vptr cs o=>some (.vptr cs (o + off),[])
  | .eptr id ver i o=>some (.eptr id ver i (o + off),[])
  | _=>none:=rfl
theorem evalOp_field (off : Nat) (agg : Option Nat) (x : VArg) : evalOp Γ look h d (.field off agg x) = ob (look x) fun v=>match v with
  | .agg cs=>ob (ofCells agg cs off) fun r=>some (r,[])
  | _=>none:=rfl
theorem evalOp_indexAddr (sz : Nat) (x : VArg) (i : VArg) : evalOp Γ look h d (.indexAddr sz x i) = ob (look x) fun s=>ob (look i) fun n=>match n with
  | .p (.int _ n)=>ob (vindex h sz s n) fun r=>some (r,[])
  | _=>none:=rfl
theorem evalOp_indexStr (x : VArg) (i : VArg) : evalOp Γ look h d (.indexStr x i) = ob (look x) fun s=>ob (look i) fun n=>match s,n with
  | .p (.str s),.p (.int _ n)=>gd (0 <= n) (ob s[n.toNat]? fun b=>some (.p (.int .u8 b.toNat),[]))
  | _,_=>none:=rfl
theorem evalOp_bin (op : BinOp) (x : VArg) (y : VArg) : evalOp Γ look h d (.bin op x y) = ob (look x) fun a=>ob (look y) fun b=>ob (vbin op a b) fun r=>some (r,[]):=rfl
theorem evalOp_eqAgg (neg : Bool) (kts : List KT) (x : VArg) (y : VArg) : evalOp Γ look h d (.eqAgg neg kts x y) = ob (look x) fun a=>ob (look y) fun b=>match a,b with
  | .agg a,.agg b=>ob (mapO unP a) fun xs=>ob (mapO unP b) fun ys=>ob (eqAll kts xs ys) fun r=>some (.p (.bool (if neg then !r else r)),[])
  | _,_=>none:=rfl
theorem evalOp_not (x : VArg) : evalOp Γ look h d (.not x) = ob (look x) fun v=>match v with
  | .p (.bool b)=>some (.p (.bool (!b)),[])
  | _=>none:=rfl
theorem evalOp_neg (x : VArg) : evalOp Γ look h d (.neg x) = ob (look x) fun v=>match v with
  | .p (.int k n)=>some (.p (.int k (k.wrap (0 - n))),[])
  | _=>none:=rfl
theorem evalOp_len (x : VArg) : evalOp Γ look h d (.len x) = ob (look x) fun v=>ob (vlen v) fun n=>some (.p (.int .i64 n),[]):=rfl
theorem evalOp_lenStr (x : VArg) : evalOp Γ look h d (.lenStr x) = ob (look x) fun v=>ob (vlenS v) fun n=>some (.p (.int .i64 n),[]):=rfl
theorem evalOp_eqB (neg : Bool) (x : VArg) (y : VArg) : evalOp Γ look h d (.eqB neg x y) = ob (look x) fun a=>ob (look y) fun b=>match a,b with
  | .p (.bool a),.p (.bool b)=>some (.p (.bool (if neg then !(a == b) else a == b)),[])
  | _,_=>none:=rfl
theorem evalOp_append (sz : Nat) (bytes : Nat) (s : VArg) (x : VArg) : evalOp Γ look h d (.append sz bytes s x) = ob (look s) fun a=>ob (look x) fun b=>vappend h sz bytes a b:=rfl
theorem evalOp_appendNil (sz : Nat) (bytes : Nat) (x : VArg) : evalOp Γ look h d (.appendNil sz bytes x) = ob (look x) fun b=>vappendNil d h sz bytes b:=rfl
theorem evalOp_slice (str : Bool) (sz : Nat) (lo : Option VArg) (hi : Option VArg) (mx : Option VArg) (x : VArg) : evalOp Γ look h d (.slice str sz lo hi mx x) = ob (look x) fun s=>br str (vsliceS look lo hi s) (vslice d h look sz lo hi mx s):=rfl
theorem evalOp_lookup (ok : Bool) (kt : KT) (zero : PV) (m : VArg) (k : VArg) : evalOp Γ look h d (.lookup ok kt zero m k) = ob (look m) fun m=>ob (look k) fun k=>ob (ventries h m) fun es=>gd (es.1 = kt \/ es.2.1 = []) <| ob (mkey kt k) fun k=>some (vlookup ok zero es.2.1 es.2.2 k,[]):=rfl
theorem evalOp_mapUpdate (kt : KT) (m : VArg) (k : VArg) (x : VArg) : evalOp Γ look h d (.mapUpdate kt m k x) = ob (look m) fun m=>ob (look k) fun k=>ob (look x) fun x=>ob (mkey kt k) fun k=>ob (freezeP x) fun x=>match m with
  | .mref id ver=>match h id with
   | some (v,.map kt' ks vs)=>gd (v = ver) <| gd (kt' = kt) (some (.undef,[(id,v,.map kt (mput ks vs k x).1 (mput ks vs k x).2)]))
   | _=>none
  | _=>none:=rfl
theorem evalOp_makeMap (kt : KT) : evalOp Γ look h d (.makeMap kt) = some (.mref (.slot d 0) (nv (h (.slot d 0))),[(.slot d 0,nv (h (.slot d 0)),.map kt [] [])]):=rfl
theorem evalOp_mapLen (x : VArg) : evalOp Γ look h d (.mapLen x) = ob (look x) fun m=>ob (ventries h m) fun es=>some (.p (.int .i64 es.2.1.length),[]):=rfl
theorem evalOp_extract (x : VArg) (i : Nat) : evalOp Γ look h d (.extract x i) = ob (look x) fun v=>match v with
  | .tup vs=>ob vs[i]? fun v=>some (v,[])
  | _=>none:=rfl
theorem evalOp_minmax (isMax : Bool) (xs : List VArg) : evalOp Γ look h d (.minmax isMax xs) = ob (mapO look xs) fun vs=>ob (minmaxI isMax vs) fun r=>some (r,[]):=rfl
theorem evalOp_conv (k : IntKind) (x : VArg) : evalOp Γ look h d (.conv k x) = ob (look x) fun v=>match v with
  | .p (.int _ n)=>some (.p (.int k (k.wrap n)),[])
  | _=>none:=rfl
theorem evalOp_strBytes (x : VArg) : evalOp Γ look h d (.strBytes x) = ob (look x) fun v=>match v with
  | .p (.str s)=>some (.p (.slice 1 (s.data.toList.map fun b=>.int .u8 b.toNat)),[])
  | _=>none:=rfl
theorem evalOp_bytesStr (x : VArg) : evalOp Γ look h d (.bytesStr x) = ob (look x) fun v=>ob (velems h v) fun r=>gd (r.1 = 1) <| ob (mapO unU8 r.2) fun ns=>some (.p (.str (bytesI ns)),[]):=rfl
theorem evalOp_nilCheck (x : VArg) : evalOp Γ look h d (.nilCheck x) = ob (look x) fun v=>match v with
  | .ptr id ver off=>some (.ptr id ver off,[])
  | .vptr cs off=>some (.vptr cs off,[])
  | .eptr id ver i off=>some (.eptr id ver i off,[])
  | .fn f caps=>some (.fn f caps,[])
  | _=>none:=rfl
theorem evalOp_makeFunc (f : FuncId) (caps : List VArg) : evalOp Γ look h d (.makeFunc f caps) = ob (mapO look caps) fun cs=>some (.fn f cs,[]):=rfl
theorem evalOp_call (f : FuncId) (args : List VArg) : evalOp Γ look h d (.call f args) = ob (mapO look args) fun vs=>vcallOp Γ h d f vs:=rfl
theorem evalOp_callv (x : VArg) (args : List VArg) : evalOp Γ look h d (.callv x args) = ob (look x) fun g=>ob (mapO look args) fun vs=>match g with
  | .fn f caps=>vcallOp Γ h d f (vs ++ caps)
  | .p (.fn f)=>vcallOp Γ h d f vs
  | .p (.clo f cs)=>vcallOp Γ h d f (vs ++ cloArgs cs)
  | _=>none:=rfl
theorem evalOp_callR (f : FuncId) (args : List VArg) : evalOp Γ look h d (.callR f args) = ob (mapO look args) fun vs=>ob (vcallW Γ h d f vs) fun q=>gd (stillC h q.2 = true) (some (q.1,[])):=rfl
theorem evalOp_callW (f : FuncId) (args : List VArg) : evalOp Γ look h d (.callW f args) = ob (mapO look args) fun vs=>vcallW Γ h d f vs:=rfl
theorem evalOp_callvW (x : VArg) (args : List VArg) : evalOp Γ look h d (.callvW x args) = ob (look x) fun g=>ob (mapO look args) fun vs=>match g with
  | .fn f caps=>vcallW Γ h d f (vs ++ caps)
  | .p (.fn f)=>vcallW Γ h d f vs
  | .p (.clo f cs)=>vcallW Γ h d f (vs ++ cloArgs cs)
  | _=>none:=rfl
theorem evalOp_make (sz bytes : Nat) (zero : PV) (n : VArg) : evalOp Γ look h d (.make sz bytes zero n) = ob (look n) fun v=>match v with
  | .p (.int _ m)=>gd (0 <= m) <| gd ((bytes : Int) * m <= 281474976710656) <| gd (m <= 9223372036854775807) <|
    some (.own (.slot d 0) (nv (h (.slot d 0))) 0 m.toNat,[(.slot d 0,nv (h (.slot d 0)),.arr sz (List.replicate m.toNat zero))])
  | _=>none:=rfl
theorem evalOp_unlit (x : VArg) : evalOp Γ look h d (.unlit x) = ob (look x) fun v=>match v with
  | .p (.lit sz xs)=>some (.p (.slice sz xs),[])
  | _=>none:=rfl
theorem evalOp_buildLit (sz : Nat) (parts : List VArg) : evalOp Γ look h d (.buildLit sz parts) = ob (mapO (fun x=>ob (look x) fun v=>freezeP v) parts) fun xs =>
  gd (xs.all (fun x=>decide (x.cells.length = sz)) = true) (some (.p (.lit sz xs),[])):=rfl
theorem evalOp_appendLit (sz bytes : Nat) (s x : VArg) : evalOp Γ look h d (.appendLit sz bytes s x) = ob (look s) fun a=>ob (look x) fun b=>vappendLit d h sz bytes a b:=rfl
theorem evalOp_range (x : VArg) : evalOp Γ look h d (.range x) = ob (look x) fun v=>match v with
  | .p (.str s)=>some (.ptr (.slot d 0) (nv (h (.slot d 0))) 0,[(.slot d 0,nv (h (.slot d 0)),.iter s 0)])
  | _=>none:=rfl
theorem evalOp_next (x : VArg) : evalOp Γ look h d (.next x) = ob (look x) fun v=>vnext h v:=rfl
theorem evalOp_clear (sz : Nat) (zero : PV) (a : VArg) : evalOp Γ look h d (.clear sz zero a) = ob (look a) fun a=>vclear h sz zero a:=rfl
theorem evalOp_copy (sz : Nat) (a x : VArg) : evalOp Γ look h d (.copy sz a x) = ob (look a) fun a=>ob (look x) fun x=>vcopy h sz a x:=rfl
theorem evalOp_mapEntry (kt : KT) (zero : PV) (m k : VArg) : evalOp Γ look h d (.mapEntry kt zero m k) = ob (look m) fun m=>ob (look k) fun k=>ob (mkey kt k) fun k=>match m with
  | .mref id ver=>match h id with
   | some (v,.map kt' ks vs)=>gd (v = ver) <| gd (kt' = kt) (some (.tup [thaw ((mget ks vs k).getD zero),.p (.int .i64 (kpos ks k))],[(id,v,.map kt (mput ks vs k ((mget ks vs k).getD zero)).1 (mput ks vs k ((mget ks vs k).getD zero)).2)]))
   | _=>none
  | _=>none:=rfl
theorem evalOp_entryStore (m s x : VArg) : evalOp Γ look h d (.entryStore m s x) = ob (look m) fun m=>ob (look s) fun s=>ob (look x) fun x=>ob (freezeP x) fun x=>match m,s with
  | .mref id ver,.p (.int .i64 n)=>match h id with
   | some (v,.map kt ks vs)=>gd (v = ver) <| gd (0 <= n) <| gd (n.toNat < vs.length) (some (.undef,[(id,v,.map kt ks (vs.set n.toNat x))]))
   | _=>none
  | _,_=>none:=rfl
theorem evalOp_buildArr (sz : Nat) (parts : List VArg) : evalOp Γ look h d (.buildArr sz parts) = ob (mapO (fun x=>ob (look x) fun v=>freezeP v) parts) fun xs=>gd (xs.all (fun x=>decide (x.cells.length = sz)) = true) (some (.agg ((xs.flatMap PV.cells).map .p),[])):=rfl
theorem evalOp_indexArr (n sz : Nat) (agg : Option Nat) (x i : VArg) : evalOp Γ look h d (.indexArr n sz agg x i) = ob (look x) fun v=>ob (look i) fun i=>match v,i with
  | .agg cs,.p (.int _ k)=>gd (0 <= k) <| gd (k < n) <| ob (ofCells agg cs (k.toNat * sz)) fun r=>some (r,[])
  | _,_=>none:=rfl
end
attribute [go_sem] evalOp_range evalOp_next vnext evalOp_make evalOp_copy vcopy evalOp_clear vclear exec_fail evalOp_unlit evalOp_buildLit evalOp_appendLit vappendLit
attribute [go_sem] evalOp_callR stillC_nil stillC_cons evalOp_callW evalOp_callvW vcallW vcallRW inResW inW0 inLW rootsW ptrsW1 ptrsW0 objPtrsW extW1 extW0 extObW backObs inCL inC backW1 backW0 apartRes callRoots
attribute [go_sem] evalOp_mapEntry evalOp_entryStore evalOp_buildArr evalOp_indexArr evalOp_move evalOp_newArr evalOp_pick evalOp_alloc evalOp_box evalOp_build evalOp_buildSlice evalOp_buildFz evalOp_load evalOp_store evalOp_fieldAddr evalOp_field evalOp_indexAddr evalOp_indexStr evalOp_bin evalOp_eqAgg evalOp_not evalOp_neg evalOp_len evalOp_lenStr evalOp_eqB evalOp_append evalOp_appendNil evalOp_slice evalOp_lookup evalOp_mapUpdate evalOp_makeMap evalOp_mapLen evalOp_extract evalOp_minmax evalOp_conv evalOp_strBytes evalOp_bytesStr unU8 evalOp_nilCheck evalOp_makeFunc evalOp_call evalOp_callv
attribute [go_sem] ob_some ob_none gd_true br_true br_false wp_some wp_ob thenE_normal thenE_exit thenE_ret inB_normal inB_ret inB_exit exec_skip exec_region exec_seq exec_cond exec_block exec_loop exec_exit exec_ret exec_scope exec_mv moved mvOb execR_plain runOps_nil runOps_cons stepO_v stepO_t stepO_n stepO_gv stepO_gt look_v look_t look_c updV_at updT_at upds_nil upds_cons upd_at
attribute [go_sem] thaw vload vrow ofCells vcells freezeP unP mapO velems vlen vlenS splice vstore vstoreAt setCells vindex vindexAt zcell zcells bcells vbin ibin isSh ishift sbin eq0 eqAll mm2 mmL minmaxI mkey ventries vlookup vappend vappendNil natOf optNat vslice vcut vcut0 vcut3 vcutM vcutS vsliceS nv PV.cells
attribute [go_sem] callF enterE enterH fetch out0 outCap out1 outO outW0 nodupB capsApart capIds1 capIds0 ownIds0 ownIds1 outs outsT newIds0 argOwns outArg1 outArg outBox outH cloArgs
theorem leave_ret (rets : List VRet) (n : Nat) (s : St) : leave rets n (.ret,s) = ob (mapO (fetch s) rets) fun vs=>ob (outs s.h n vs) fun v=>ob (outH s.h 0 n) fun H'=>some (v,H'):=rfl
theorem leave_normal (rets : List VRet) (n : Nat) (s : St) : leave rets n (.normal,s) = ob (mapO (fetch s) rets) fun vs=>ob (outs s.h n vs) fun v=>ob (outH s.h 0 n) fun H'=>some (v,H'):=rfl
attribute [go_sem] leave_ret leave_normal
attribute [go_sem] oT oV oZ oG oM oN oL oF oK rg cI cF cT oJ oP oA oQ oC oE oS oI oO oB oR oY oX oU gL gF gM
attribute [go_sem] if_true if_false List.getD_cons_zero List.getD_cons_succ List.getD_nil llc lln Id.slot.injEq Id.arg.injEq false_and and_false and_true true_and and_self or_true true_or or_false false_or Nat.add_zero Nat.zero_add List.getElem?_cons_zero List.getElem?_cons_succ List.getElem?_nil llm List.getElem?_map Option.map_some Option.map_none Int.toNat_natCast decide_true decide_false decide_eq_true_eq Bool.not_true bnf beq_self_eq_true List.all_cons List.all_nil bau bta List.drop_zero List.drop_succ_cons List.take_succ_cons List.take_zero List.drop_nil List.take_nil lna lan lca lpc lpn lfc List.flatMap_nil List.contains_nil List.isEmpty_nil List.isEmpty_cons List.filterMap_cons List.filterMap_nil lla llt lrf Nat.zero_le Nat.min_self eq_self gd_pos Int.natCast_nonneg Int.ofNat_lt Int.ofNat_le vcallOp vcallR roots addNew ptrs1 ptrs0 objPtrs ext1 ext0 extBox alive posOf lends lends0 noAlias noAlias1 noAlias0 flatBox flatC PV.flat PV.flat0 backBoxes back1 back0 inRes in1 in0 inL inT width List.any_cons List.any_nil Bool.or_false Bool.false_or Bool.or_true Bool.true_or bft beq_iff_eq
attribute [go_sem] wrap64
theorem wp_count {b : St -> Option (VExit × St)} {Q : VExit × St -> Prop} (n : Nat) (J : Nat -> St -> Prop) {s : St} (h0 : J 0 s)
  (hstep : ∀ i s,i <= n -> J i s -> wp (b s) fun r=>match r.1 with
   | .normal=>i < n /\ J (i + 1) r.2
   | _=>Q r) : wp (iter b s) Q:=by
 have key : ∀ k i s,i + k = n -> J i s -> ∃ m r,iterN b m s = some r /\ Q r:=by
  intro k
  induction k with
  | zero =>
   intro i s hk hJ
   obtain ⟨⟨e,s'⟩,hb,hq⟩:=hstep i s (by omega) hJ
   cases e with
   | normal=>have:=hq.1; omega
   | exit id=>exact ⟨1,(.exit id,s'),by simp [iterN,hb,ob],hq⟩
   | ret=>exact ⟨1,(.ret,s'),by simp [iterN,hb,ob],hq⟩
  | succ k ih =>
   intro i s hk hJ
   obtain ⟨⟨e,s'⟩,hb,hq⟩:=hstep i s (by omega) hJ
   cases e with
   | normal =>
    obtain ⟨m,r,hm,hr⟩:=ih (i + 1) s' (by omega) hq.2
    exact ⟨m + 1,r,by simp [iterN,hb,ob,hm],hr⟩
   | exit id=>exact ⟨1,(.exit id,s'),by simp [iterN,hb,ob],hq⟩
   | ret=>exact ⟨1,(.ret,s'),by simp [iterN,hb,ob],hq⟩
 obtain ⟨m,r,hm,hr⟩:=key n 0 s (by omega) h0
 exact ⟨r,iter_of hm,hr⟩
theorem wp_meas {σ : Type} {b : St -> Option (VExit × St)} {Q : VExit × St -> Prop} (J : σ -> St -> Prop) (μ : σ -> Nat) (x : σ) {s : St} (h0 : J x s)
  (hstep : ∀ x s,J x s -> wp (b s) fun r=>match r.1 with
   | .normal=>∃ y,μ y < μ x /\ J y r.2
   | _=>Q r) : wp (iter b s) Q:=by
 have key : ∀ k x s,μ x = k -> J x s -> ∃ m r,iterN b m s = some r /\ Q r:=by
  intro k
  induction k using Nat.strongRecOn with
  | _ k ih =>
   intro x s hk hJ
   obtain ⟨⟨e,s'⟩,hb,hq⟩:=hstep x s hJ
   cases e with
   | normal =>
    obtain ⟨y,hy,hJ'⟩:=hq
    obtain ⟨m,r,hm,hr⟩:=ih (μ y) (by omega) y s' rfl hJ'
    exact ⟨m + 1,r,by simp [iterN,hb,ob,hm],hr⟩
   | exit id=>exact ⟨1,(.exit id,s'),by simp [iterN,hb,ob],hq⟩
   | ret=>exact ⟨1,(.ret,s'),by simp [iterN,hb,ob],hq⟩
 obtain ⟨m,r,hm,hr⟩:=key _ x s rfl h0
 exact ⟨r,iter_of hm,hr⟩
theorem wp_if {α : Type} {b : Bool} {x y : Option α} {Q : α -> Prop} {u : Tok x} {v : Tok y} {t : Tok Q} (h1 : b = true -> wp x Q) (h2 : b = false -> wp y Q) : wp (br b x y u v) Q t:=wp_br h1 h2
theorem wp_gr {α : Type} {b : Bool} {x y : Option α} {Q : α -> Prop} {u : Tok x} {v : Tok y} {t : Tok Q} (h1 : b = false -> wp x Q) (h2 : b = true -> wp y Q) : wp (br (b == false) x y u v) Q t:=by
 cases b
 .exact h1 rfl
 .exact h2 rfl
theorem wp_gt {α : Type} {b : Bool} {x y : Option α} {Q : α -> Prop} {u : Tok x} {v : Tok y} {t : Tok Q} (h1 : b = true -> wp x Q) (h2 : b = false -> wp y Q) : wp (br (b == true) x y u v) Q t:=by
 cases b
 .exact h2 rfl
 .exact h1 rfl
theorem wp_nt {α : Type} {b : Bool} {x y : Option α} {Q : α -> Prop} {u : Tok x} {v : Tok y} {t : Tok Q} (h1 : b = false -> wp x Q) (h2 : b = true -> wp y Q) : wp (br (!b) x y u v) Q t:=by
 cases b
 .exact h1 rfl
 .exact h2 rfl
theorem eqb_tt : (true == true) = true:=rfl
theorem eqb_tf : (true == false) = false:=rfl
theorem eqb_ft : (false == true) = false:=rfl
theorem eqb_ff : (false == false) = true:=rfl
attribute [go_sem] eqb_tt eqb_tf eqb_ft eqb_ff
section
variable {α : Type} {p : Prop} [Decidable p] {x y : Option α} {Q : α -> Prop} {u : Tok x} {v : Tok y} {t : Tok Q}
theorem wp_if_d (h1 : p -> wp x Q) (h2 : ¬ p -> wp y Q) : wp (br (decide p) x y u v) Q t:=wp_br (fun h=>h1 (of_decide_eq_true h)) (fun h=>h2 (of_decide_eq_false h))
theorem wp_nt_d (h1 : ¬ p -> wp x Q) (h2 : p -> wp y Q) : wp (br (!decide p) x y u v) Q t:=wp_nt (fun h=>h1 (of_decide_eq_false h)) (fun h=>h2 (of_decide_eq_true h))
theorem wp_gr_d (h1 : ¬ p -> wp x Q) (h2 : p -> wp y Q) : wp (br (decide p == false) x y u v) Q t:=wp_gr (fun h=>h1 (of_decide_eq_false h)) (fun h=>h2 (of_decide_eq_true h))
theorem wp_gt_d (h1 : p -> wp x Q) (h2 : ¬ p -> wp y Q) : wp (br (decide p == true) x y u v) Q t:=wp_gt (fun h=>h1 (of_decide_eq_true h)) (fun h=>h2 (of_decide_eq_false h))
theorem wp_grn_d (h1 : p -> wp x Q) (h2 : ¬ p -> wp y Q) : wp (br ((!decide p) == false) x y u v) Q t:=wp_gr (fun h=>h1 (by simpa using h)) (fun h=>h2 (by simpa using h))
theorem wp_gtn_d (h1 : ¬ p -> wp x Q) (h2 : p -> wp y Q) : wp (br ((!decide p) == true) x y u v) Q t:=wp_gt (fun h=>h1 (by simpa using h)) (fun h=>h2 (by simpa using h))
end
theorem int_beq (a b : Int) : (a == b) = decide (a = b):=rfl
theorem int_bne (a b : Int) : (a != b) = !decide (a = b):=rfl
attribute [go_sem] int_beq int_bne
theorem execR_fz (Γ : Sig) (ops : List VOper) (f : Nat) (fz : List Nat) (s : St) : execR Γ ⟨ops,f :: fz,[]⟩ s = ob (runOps Γ ops { pe:=fun t=>fz1 (f :: fz) s.h (s.pe t),te:=fun _=>none,h:=fzOb (f :: fz) s.h }) fun q=>some { pe:=q.pe,h:=q.h }:=by
 simp [execR,freeze]
theorem execR_fp (Γ : Sig) (ops : List VOper) (p : Nat × Nat) (fp : List (Nat × Nat)) (s : St) : execR Γ ⟨ops,[],p :: fp⟩ s = ob (runFp Γ (p :: fp) 0 ops { pe:=s.pe,te:=fun _=>none,h:=s.h } []) fun q=>some { pe:=q.pe,h:=q.h }:=by
 simp [execR,freeze]
theorem execR_both (Γ : Sig) (ops : List VOper) (f : Nat) (fz : List Nat) (p : Nat × Nat) (fp : List (Nat × Nat)) (s : St) : execR Γ ⟨ops,f :: fz,p :: fp⟩ s = ob (runFp Γ (p :: fp) 0 ops { pe:=fun t=>fz1 (f :: fz) s.h (s.pe t),te:=fun _=>none,h:=fzOb (f :: fz) s.h } []) fun q=>some { pe:=q.pe,h:=q.h }:=by
 simp [execR,freeze]
theorem contains_pair (a b c d : Nat) (l : List (Nat × Nat)) : ((a,b) :: l).contains (c,d) = ((decide (c = a) && decide (d = b)) || l.contains (c,d)):=by
 rw [Bool.eq_iff_iff]
 simp
theorem contains_id (a c : Id) (l : List Id) : (a :: l).contains c = (decide (c = a) || l.contains c):=by
 rw [Bool.eq_iff_iff]
 simp
theorem contains_nat (a c : Nat) (l : List Nat) : (a :: l).contains c = (decide (c = a) || l.contains c):=by
 rw [Bool.eq_iff_iff]
 simp
theorem nat_beq (a b : Nat) : (a == b) = decide (a = b):=by rw [Bool.eq_iff_iff]; simp
theorem nat_bne (a b : Nat) : (a != b) = !decide (a = b):=by simp [bne,nat_beq]
attribute [go_sem] execR_fz execR_fp execR_both contains_pair contains_id contains_nat nat_beq nat_bne fzOb fzId fpL fpR noteFp runFp checkFp apartFp VOp.wrFp headFp touch touchF callArgs VOp.args VOp.writes VOp.isR ids0 ids1 Id.at VDst.slot Option.toList Bool.and_false bfa Bool.or_self bas
theorem fz0_p (fz : List Nat) (h : VHeap) (d : PV) : fz0 fz h (.p d) = .p d:=rfl
theorem fz1_p (fz : List Nat) (h : VHeap) (d : PV) : fz1 fz h (.p d) = .p d:=rfl
theorem fz0_ptr (fz : List Nat) (h : VHeap) (id : Id) (ver off : Nat) : fz0 fz h (.ptr id ver off) = .ptr id ver off:=rfl
theorem fz1_ptr (fz : List Nat) (h : VHeap) (id : Id) (ver off : Nat) : fz1 fz h (.ptr id ver off) = .ptr id ver off:=rfl
theorem fz0_vptr (fz : List Nat) (h : VHeap) (cs : List PV) (off : Nat) : fz0 fz h (.vptr cs off) = .vptr cs off:=rfl
theorem fz1_vptr (fz : List Nat) (h : VHeap) (cs : List PV) (off : Nat) : fz1 fz h (.vptr cs off) = .vptr cs off:=rfl
theorem fz0_eptr (fz : List Nat) (h : VHeap) (id : Id) (ver i off : Nat) : fz0 fz h (.eptr id ver i off) = .eptr id ver i off:=rfl
theorem fz1_eptr (fz : List Nat) (h : VHeap) (id : Id) (ver i off : Nat) : fz1 fz h (.eptr id ver i off) = .eptr id ver i off:=rfl
theorem fz0_mref (fz : List Nat) (h : VHeap) (id : Id) (ver : Nat) : fz0 fz h (.mref id ver) = .mref id ver:=rfl
theorem fz1_mref (fz : List Nat) (h : VHeap) (id : Id) (ver : Nat) : fz1 fz h (.mref id ver) = .mref id ver:=rfl
theorem fz0_fn (fz : List Nat) (h : VHeap) (f : FuncId) (caps : List VVal) : fz0 fz h (.fn f caps) = .fn f caps:=rfl
theorem fz1_fn (fz : List Nat) (h : VHeap) (f : FuncId) (caps : List VVal) : fz1 fz h (.fn f caps) = .fn f caps:=rfl
theorem fz0_undef (fz : List Nat) (h : VHeap)  : fz0 fz h (.undef) = .undef:=rfl
theorem fz1_undef (fz : List Nat) (h : VHeap)  : fz1 fz h (.undef) = .undef:=rfl
theorem fz0_agg (fz : List Nat) (h : VHeap) (cs : List VVal) : fz0 fz h (.agg cs) = .agg cs:=rfl
theorem fz1_agg (fz : List Nat) (h : VHeap) (cs : List VVal) : fz1 fz h (.agg cs) = .agg (cs.map (fz0 fz h)):=rfl
theorem fz1_tup (fz : List Nat) (h : VHeap) (cs : List VVal) : fz1 fz h (.tup cs) = .tup (cs.map (fz0 fz h)):=rfl
theorem fz0_own (fz : List Nat) (h : VHeap) (id : Id) (ver off len : Nat) : fz0 fz h (.own id ver off len) = if fzId fz id = true then (match velems h (.own id ver off len) with
  | some r=>.p (.slice r.1 r.2)
  | none=>.dead) else .own id ver off len:=rfl
theorem fz1_own (fz : List Nat) (h : VHeap) (id : Id) (ver off len : Nat) : fz1 fz h (.own id ver off len) = if fzId fz id = true then (match velems h (.own id ver off len) with
  | some r=>.p (.slice r.1 r.2)
  | none=>.dead) else .own id ver off len:=rfl
attribute [go_sem] fz0_p fz1_p fz0_ptr fz1_ptr fz0_vptr fz1_vptr fz0_eptr fz1_eptr fz0_mref fz1_mref fz0_fn fz1_fn fz0_undef fz1_undef fz0_agg fz1_agg fz1_tup fz0_own fz1_own
section
variable (a b : Id) (va n : Nat)
theorem mv1_p (d : PV) : mv1 a b va n (.p d) = .p d:=rfl
theorem mv1_ptr (id : Id) (ver off : Nat) : mv1 a b va n (.ptr id ver off) = .ptr id ver off:=rfl
theorem mv1_vptr (cs : List PV) (off : Nat) : mv1 a b va n (.vptr cs off) = .vptr cs off:=rfl
theorem mv1_mref (id : Id) (ver : Nat) : mv1 a b va n (.mref id ver) = .mref id ver:=rfl
theorem mv1_fn (f : FuncId) (caps : List VVal) : mv1 a b va n (.fn f caps) = .fn f caps:=rfl
theorem mv1_undef : mv1 a b va n .undef = .undef:=rfl
theorem mv1_agg (cs : List VVal) : mv1 a b va n (.agg cs) = .agg (cs.map (mv0 a b va n)):=rfl
theorem mv1_tup (cs : List VVal) : mv1 a b va n (.tup cs) = .tup (cs.map (mv0 a b va n)):=rfl
theorem mv1_own (id : Id) (ver off len : Nat) : mv1 a b va n (.own id ver off len) = if id = a /\ ver = va then .own b n off len else .own id ver off len:=rfl
theorem mv1_eptr (id : Id) (ver i off : Nat) : mv1 a b va n (.eptr id ver i off) = if id = a /\ ver = va then .eptr b n i off else .eptr id ver i off:=rfl
theorem mv0_p (d : PV) : mv0 a b va n (.p d) = .p d:=rfl
theorem mv0_ptr (id : Id) (ver off : Nat) : mv0 a b va n (.ptr id ver off) = .ptr id ver off:=rfl
theorem mv0_mref (id : Id) (ver : Nat) : mv0 a b va n (.mref id ver) = .mref id ver:=rfl
theorem mv0_fn (f : FuncId) (caps : List VVal) : mv0 a b va n (.fn f caps) = .fn f caps:=rfl
theorem mv0_own (id : Id) (ver off len : Nat) : mv0 a b va n (.own id ver off len) = if id = a /\ ver = va then .own b n off len else .own id ver off len:=rfl
end
attribute [go_sem] mv1_p mv1_ptr mv1_vptr mv1_mref mv1_fn mv1_undef mv1_agg mv1_tup mv1_own mv1_eptr mv0_p mv0_ptr mv0_mref mv0_fn mv0_own
theorem cl0 {P : Prop} (h : P := by first | with_reducible rfl | (simp -implicitDefEqProofs (disch := omega) only [*, List.map_append, go_sem, ↓reduceIte, Nat.reduceAdd, Nat.reduceSub, Nat.reduceEqDiff, Nat.reduceLeDiff, reduceCtorEq] <;> exact cl1) | exact cl2) : P := h
theorem cl3 {P : Prop} (h : P := by first | rfl | omega | (simp; done) | (simp; omega)) : P := h
def Le (Γ Γ' : Sig) : Prop:=∀ f args H r,Γ f args H = some r -> Γ' f args H = some r
theorem ob_ex {α β : Type} {x : Option α} {f : α -> Option β} {u : Tok f} {b : β} (h : ob x f u = some b) : ∃ a,x = some a /\ f a = some b:=by
 cases x with
 | none=>cases h
 | some a=>exact ⟨a,rfl,h⟩
structure Chain (N : Nat -> Sig) (Γ : Sig) : Prop where
 mono : ∀ n m,n <= m -> Le (N n) (N m)
 lim : ∀ f args H r,Γ f args H = some r -> ∃ n,N n f args H = some r
theorem vcallR_le {Γ Γ' : Sig} (hl : Le Γ Γ') {h : VHeap} {d : Nat} {f : FuncId} {args : List VVal} {R : List Id} {q : VVal × List (Id × Nat × Ob)} (he : vcallR Γ h d f args R = some q) : vcallR Γ' h d f args R = some q:=by
 unfold vcallR at he ⊢
 obtain ⟨a',h1,he⟩:=ob_ex he
 obtain ⟨H,h2,he⟩:=ob_ex he
 obtain ⟨r,h3,he⟩:=ob_ex he
 rw [h1,ob_some,h2,ob_some,hl _ _ _ _ h3,ob_some]
 exact he
theorem vcallR_cont {N : Nat -> Sig} {Γ : Sig} (hc : Chain N Γ) {h : VHeap} {d : Nat} {f : FuncId} {args : List VVal} {R : List Id} {q : VVal × List (Id × Nat × Ob)} (he : vcallR Γ h d f args R = some q) : ∃ n,vcallR (N n) h d f args R = some q:=by
 unfold vcallR at he
 obtain ⟨a',h1,he⟩:=ob_ex he
 obtain ⟨H,h2,he⟩:=ob_ex he
 obtain ⟨r,h3,he⟩:=ob_ex he
 obtain ⟨n,hn⟩:=hc.lim _ _ _ _ h3
 refine ⟨n,?_⟩
 unfold vcallR
 rw [h1,ob_some,h2,ob_some,hn,ob_some]
 exact he
theorem vcallRW_le {Γ Γ' : Sig} (hl : Le Γ Γ') {h : VHeap} {d : Nat} {f : FuncId} {args : List VVal} {R : List Id} {q : VVal × List (Id × Nat × Ob)} (he : vcallRW Γ h d f args R = some q) : vcallRW Γ' h d f args R = some q:=by
 unfold vcallRW at he ⊢
 obtain ⟨a',h1,he⟩:=ob_ex he
 obtain ⟨H,h2,he⟩:=ob_ex he
 obtain ⟨r,h3,he⟩:=ob_ex he
 rw [h1,ob_some,h2,ob_some,hl _ _ _ _ h3,ob_some]
 exact he
theorem vcallRW_cont {N : Nat -> Sig} {Γ : Sig} (hc : Chain N Γ) {h : VHeap} {d : Nat} {f : FuncId} {args : List VVal} {R : List Id} {q : VVal × List (Id × Nat × Ob)} (he : vcallRW Γ h d f args R = some q) : ∃ n,vcallRW (N n) h d f args R = some q:=by
 unfold vcallRW at he
 obtain ⟨a',h1,he⟩:=ob_ex he
 obtain ⟨H,h2,he⟩:=ob_ex he
 obtain ⟨r,h3,he⟩:=ob_ex he
 obtain ⟨n,hn⟩:=hc.lim _ _ _ _ h3
 refine ⟨n,?_⟩
 unfold vcallRW
 rw [h1,ob_some,h2,ob_some,hn,ob_some]
 exact he
def VOp.isCall : VOp -> Bool
 | .call _ _ | .callv _ _ | .callW _ _ | .callvW _ _ | .callR _ _=>true
 | _=>false
theorem evalOp_nocall {Γ Γ' : Sig} {look : VArg -> Option VVal} {h : VHeap} {d : Nat} {op : VOp} (ho : op.isCall = false) : evalOp Γ look h d op = evalOp Γ' look h d op:=by
 cases op <;> first | rfl | (simp [VOp.isCall] at ho)
theorem evalOp_le {Γ Γ' : Sig} (hl : Le Γ Γ') {look : VArg -> Option VVal} {h : VHeap} {d : Nat} {op : VOp} {q : VVal × List (Id × Nat × Ob)} (he : evalOp Γ look h d op = some q) : evalOp Γ' look h d op = some q:=by
 by_cases ho : op.isCall = false
 ·rw [<- evalOp_nocall (Γ:=Γ) ho]; exact he
 cases op <;> first | (simp [VOp.isCall] at ho; done) | skip
 ·rw [evalOp_call] at he ⊢
  obtain ⟨vs,h1,he⟩:=ob_ex he
  rw [h1,ob_some]
  exact vcallR_le hl he
 ·rw [evalOp_callv] at he ⊢
  obtain ⟨g,h0,he⟩:=ob_ex he
  obtain ⟨vs,h1,he⟩:=ob_ex he
  rw [h0,ob_some,h1,ob_some]
  split at he
  .exact vcallR_le hl he
  .exact vcallR_le hl he
  .exact vcallR_le hl he
  .cases he
 ·rw [evalOp_callW] at he ⊢
  obtain ⟨vs,h1,he⟩:=ob_ex he
  rw [h1,ob_some]
  exact vcallRW_le hl he
 ·rw [evalOp_callvW] at he ⊢
  obtain ⟨g,h0,he⟩:=ob_ex he
  obtain ⟨vs,h1,he⟩:=ob_ex he
  rw [h0,ob_some,h1,ob_some]
  split at he
  .exact vcallRW_le hl he
  .exact vcallRW_le hl he
  .exact vcallRW_le hl he
  .cases he
 ·rw [evalOp_callR] at he ⊢
  obtain ⟨vs,h1,he⟩:=ob_ex he
  obtain ⟨q1,h2,he⟩:=ob_ex he
  rw [h1,ob_some,vcallW,vcallRW_le hl h2,ob_some]
  exact he
theorem evalOp_cont {N : Nat -> Sig} {Γ : Sig} (hc : Chain N Γ) {look : VArg -> Option VVal} {h : VHeap} {d : Nat} {op : VOp} {q : VVal × List (Id × Nat × Ob)} (he : evalOp Γ look h d op = some q) : ∃ n,evalOp (N n) look h d op = some q:=by
 by_cases ho : op.isCall = false
 ·exact ⟨0,by rw [<- evalOp_nocall (Γ:=Γ) ho]; exact he⟩
 cases op <;> first | (simp [VOp.isCall] at ho; done) | skip
 ·rw [evalOp_call] at he
  obtain ⟨vs,h1,he⟩:=ob_ex he
  obtain ⟨n,hn⟩:=vcallR_cont hc he
  refine ⟨n,?_⟩
  rw [evalOp_call,h1,ob_some]
  exact hn
 ·rw [evalOp_callv] at he
  obtain ⟨g,h0,he⟩:=ob_ex he
  obtain ⟨vs,h1,he⟩:=ob_ex he
  split at he
  ·obtain ⟨n,hn⟩:=vcallR_cont hc he
   refine ⟨n,?_⟩
   rw [evalOp_callv,h0,ob_some,h1,ob_some]
   exact hn
  ·obtain ⟨n,hn⟩:=vcallR_cont hc he
   refine ⟨n,?_⟩
   rw [evalOp_callv,h0,ob_some,h1,ob_some]
   exact hn
  ·obtain ⟨n,hn⟩:=vcallR_cont hc he
   refine ⟨n,?_⟩
   rw [evalOp_callv,h0,ob_some,h1,ob_some]
   exact hn
  ·cases he
 ·rw [evalOp_callW] at he
  obtain ⟨vs,h1,he⟩:=ob_ex he
  obtain ⟨n,hn⟩:=vcallRW_cont hc he
  refine ⟨n,?_⟩
  rw [evalOp_callW,h1,ob_some]
  exact hn
 ·rw [evalOp_callvW] at he
  obtain ⟨g,h0,he⟩:=ob_ex he
  obtain ⟨vs,h1,he⟩:=ob_ex he
  split at he
  ·obtain ⟨n,hn⟩:=vcallRW_cont hc he
   refine ⟨n,?_⟩
   rw [evalOp_callvW,h0,ob_some,h1,ob_some]
   exact hn
  ·obtain ⟨n,hn⟩:=vcallRW_cont hc he
   refine ⟨n,?_⟩
   rw [evalOp_callvW,h0,ob_some,h1,ob_some]
   exact hn
  ·obtain ⟨n,hn⟩:=vcallRW_cont hc he
   refine ⟨n,?_⟩
   rw [evalOp_callvW,h0,ob_some,h1,ob_some]
   exact hn
  .cases he
 ·rw [evalOp_callR] at he
  obtain ⟨vs,h1,he⟩:=ob_ex he
  obtain ⟨q1,h2,he⟩:=ob_ex he
  obtain ⟨n,hn⟩:=vcallRW_cont hc h2
  refine ⟨n,?_⟩
  rw [evalOp_callR,h1,ob_some,vcallW,hn,ob_some]
  exact he
theorem stepO_le {Γ Γ' : Sig} (hl : Le Γ Γ') {o : VOper} {r r' : RS} (h : stepO Γ o r = some r') : stepO Γ' o r = some r':=by
 unfold stepO at h ⊢
 split
 ·rename_i hg
  rw [hg] at h
  obtain ⟨q,hq,h⟩:=ob_ex h
  rw [evalOp_le hl hq,ob_some]
  exact h
 ·rename_i g want hg
  rw [hg] at h
  obtain ⟨gv,hgv,h⟩:=ob_ex h
  rw [hgv,ob_some]
  split at h
  ·unfold br at h ⊢
   split
   ·rename_i hb
    rw [if_pos hb] at h
    obtain ⟨q,hq,h⟩:=ob_ex h
    rw [evalOp_le hl hq,ob_some]
    exact h
   ·rename_i hb
    rw [if_neg hb] at h
    exact h
  .exact h
  .cases h
theorem stepO_cont {N : Nat -> Sig} {Γ : Sig} (hc : Chain N Γ) {o : VOper} {r r' : RS} (h : stepO Γ o r = some r') : ∃ n,stepO (N n) o r = some r':=by
 unfold stepO at h
 split at h
 ·rename_i hg
  obtain ⟨q,hq,h⟩:=ob_ex h
  obtain ⟨n,hn⟩:=evalOp_cont hc hq
  refine ⟨n,?_⟩
  unfold stepO
  rw [hg]
  simp only [hn,ob_some]
  exact h
 ·rename_i g want hg
  obtain ⟨gv,hgv,h⟩:=ob_ex h
  split at h
  ·unfold br at h
   split at h
   ·rename_i hb
    obtain ⟨q,hq,h⟩:=ob_ex h
    obtain ⟨n,hn⟩:=evalOp_cont hc hq
    refine ⟨n,?_⟩
    unfold stepO
    rw [hg]
    simp only [hgv,ob_some]
    rw [hb,br_true,hn,ob_some]
    exact h
   ·rename_i b hb
    refine ⟨0,?_⟩
    unfold stepO
    rw [hg]
    simp only [hgv,ob_some]
    have : (b == want) = false:=by simpa using hb
    rw [this,br_false]
    exact h
  ·refine ⟨0,?_⟩
   unfold stepO
   rw [hg]
   simp only [hgv,ob_some]
   exact h
  .cases h
theorem runOps_le {Γ Γ' : Sig} (hl : Le Γ Γ') : ∀ {os : List VOper} {r r' : RS},runOps Γ os r = some r' -> runOps Γ' os r = some r'
 | [],_,_,h=>h
 | o :: os,r,r',h=>by
  rw [runOps_cons] at h ⊢
  obtain ⟨r1,h1,h⟩:=ob_ex h
  rw [stepO_le hl h1,ob_some]
  exact runOps_le hl h
theorem runOps_cont {N : Nat -> Sig} {Γ : Sig} (hc : Chain N Γ) : ∀ {os : List VOper} {r r' : RS},runOps Γ os r = some r' -> ∃ n,runOps (N n) os r = some r'
 | [],_,_,h=>⟨0,h⟩
 | o :: os,r,r',h=>by
  rw [runOps_cons] at h
  obtain ⟨r1,h1,h⟩:=ob_ex h
  obtain ⟨n,hn⟩:=stepO_cont hc h1
  obtain ⟨m,hm⟩:=runOps_cont hc h
  refine ⟨max n m,?_⟩
  rw [runOps_cons,stepO_le (hc.mono n _ (Nat.le_max_left ..)) hn,ob_some]
  exact runOps_le (hc.mono m _ (Nat.le_max_right ..)) hm
theorem gd_ex {α : Type} {c : Prop} [Decidable c] {x : Option α} {u : Tok x} {b : α} (h : gd c x u = some b) : c /\ x = some b:=by
 unfold gd at h
 split at h
 .exact ⟨by assumption,h⟩
 .cases h
theorem runFp_le {Γ Γ' : Sig} (hl : Le Γ Γ') {fp : List (Nat × Nat)} : ∀ {os : List VOper} {i : Nat} {r r' : RS} {acc : List (Nat × VOper × List Id)},runFp Γ fp i os r acc = some r' -> runFp Γ' fp i os r acc = some r'
 | [],_,_,_,_,h=>h
 | o :: os,i,r,r',acc,h=>by
  simp only [runFp] at h ⊢
  split
  ·rename_i hf
   rw [if_pos hf] at h
   obtain ⟨hch,h⟩:=gd_ex h
   obtain ⟨r1,h1,h⟩:=ob_ex h
   rw [gd_pos _ _ hch,stepO_le hl h1,ob_some]
   exact runFp_le hl h
  ·rename_i hf
   rw [if_neg hf] at h
   obtain ⟨r1,h1,h⟩:=ob_ex h
   rw [stepO_le hl h1,ob_some]
   exact runFp_le hl h
theorem runFp_cont {N : Nat -> Sig} {Γ : Sig} (hc : Chain N Γ) {fp : List (Nat × Nat)} : ∀ {os : List VOper} {i : Nat} {r r' : RS} {acc : List (Nat × VOper × List Id)},runFp Γ fp i os r acc = some r' -> ∃ n,runFp (N n) fp i os r acc = some r'
 | [],_,_,_,_,h=>⟨0,h⟩
 | o :: os,i,r,r',acc,h=>by
  simp only [runFp] at h
  split at h
  ·rename_i hf
   obtain ⟨hch,h⟩:=gd_ex h
   obtain ⟨r1,h1,h⟩:=ob_ex h
   obtain ⟨n,hn⟩:=stepO_cont hc h1
   obtain ⟨m,hm⟩:=runFp_cont hc h
   refine ⟨max n m,?_⟩
   simp only [runFp]
   rw [if_pos hf,gd_pos _ _ hch,stepO_le (hc.mono n _ (Nat.le_max_left ..)) hn,ob_some]
   exact runFp_le (hc.mono m _ (Nat.le_max_right ..)) hm
  ·rename_i hf
   obtain ⟨r1,h1,h⟩:=ob_ex h
   obtain ⟨n,hn⟩:=stepO_cont hc h1
   obtain ⟨m,hm⟩:=runFp_cont hc h
   refine ⟨max n m,?_⟩
   simp only [runFp]
   rw [if_neg hf,stepO_le (hc.mono n _ (Nat.le_max_left ..)) hn,ob_some]
   exact runFp_le (hc.mono m _ (Nat.le_max_right ..)) hm
theorem execR_le {Γ Γ' : Sig} (hl : Le Γ Γ') {vr : VRegion} {s s' : St} (h : execR Γ vr s = some s') : execR Γ' vr s = some s':=by
 unfold execR at h ⊢
 obtain ⟨q,hq,h⟩:=ob_ex h
 split at hq
 ·rename_i hf
  rw [if_pos hf,runOps_le hl hq,ob_some]
  exact h
 ·rename_i hf
  rw [if_neg hf,runFp_le hl hq,ob_some]
  exact h
theorem execR_cont {N : Nat -> Sig} {Γ : Sig} (hc : Chain N Γ) {vr : VRegion} {s s' : St} (h : execR Γ vr s = some s') : ∃ n,execR (N n) vr s = some s':=by
 unfold execR at h
 obtain ⟨q,hq,h⟩:=ob_ex h
 split at hq
 ·rename_i hf
  obtain ⟨n,hn⟩:=runOps_cont hc hq
  refine ⟨n,?_⟩
  unfold execR
  rw [if_pos hf,hn,ob_some]
  exact h
 ·rename_i hf
  obtain ⟨n,hn⟩:=runFp_cont hc hq
  refine ⟨n,?_⟩
  unfold execR
  rw [if_neg hf,hn,ob_some]
  exact h
theorem iter_ex {b : St -> Option (VExit × St)} {s : St} {r : VExit × St} (h : iter b s = some r) : ∃ n,iterN b n s = some r:=by
 unfold iter at h
 split at h
 ·rename_i hex
  have:=Classical.choose_spec (Classical.choose_spec hex)
  simp only [osi] at h
  rw [h] at this
  exact ⟨_,this⟩
 .cases h
theorem iterN_le {b b' : St -> Option (VExit × St)} (hb : ∀ s r,b s = some r -> b' s = some r) : ∀ {k : Nat} {s : St} {r : VExit × St},iterN b k s = some r -> iterN b' k s = some r
 | 0,_,_,h=>h
 | k + 1,s,r,h=>by
  simp only [iterN] at h ⊢
  obtain ⟨r1,h1,h⟩:=ob_ex h
  rw [hb _ _ h1,ob_some]
  obtain ⟨e1,s1⟩:=r1
  cases e1 with
  | normal=>exact iterN_le hb h
  | exit id=>exact h
  | ret=>exact h
theorem exec_le {Γ Γ' : Sig} (hl : Le Γ Γ') : ∀ (c : VCode) (s : St) (r : VExit × St),exec Γ c s = some r -> exec Γ' c s = some r
 | .skip,s,r,h=>by rw [exec_skip] at h ⊢; exact h
 | .region vr,s,r,h=>by
  rw [exec_region] at h ⊢
  obtain ⟨s1,h1,h⟩:=ob_ex h
  rw [execR_le hl h1,ob_some]
  exact h
 | .seq x y,s,r,h=>by
  rw [exec_seq] at h ⊢
  obtain ⟨⟨e1,s1⟩,h1,h⟩:=ob_ex h
  rw [exec_le hl x _ _ h1,ob_some]
  cases e1 with
  | normal=>rw [thenE_normal] at h ⊢; exact exec_le hl y _ _ h
  | exit id=>exact h
  | ret=>exact h
 | .cond t x y,s,r,h=>by
  cases t with
  | v t =>
   rw [exec_cond] at h ⊢
   split at h
   ·rename_i b hb
    cases b with
    | true=>rw [br_true] at h ⊢; exact exec_le hl x _ _ h
    | false=>rw [br_false] at h ⊢; exact exec_le hl y _ _ h
   .cases h
  | t t=>simp [exec] at h
  | c d=>simp [exec] at h
 | .block id x,s,r,h=>by
  rw [exec_block] at h ⊢
  obtain ⟨r1,h1,h⟩:=ob_ex h
  rw [exec_le hl x _ _ h1,ob_some]
  exact h
 | .loop x,s,r,h=>by
  rw [exec_loop] at h ⊢
  obtain ⟨k,hk⟩:=iter_ex h
  exact iter_of (iterN_le (fun s r=>exec_le hl x s r) hk)
 | .exit id,s,r,h=>by rw [exec_exit] at h ⊢; exact h
 | .ret,s,r,h=>by rw [exec_ret] at h ⊢; exact h
 | .mv a b x,s,r,h=>by rw [exec_mv] at h ⊢; exact exec_le hl x _ _ h
 | .scope x,s,r,h=>by rw [exec_scope] at h ⊢; exact exec_le hl x _ _ h
 | .fail,s,r,h=>by rw [exec_fail] at h; cases h
theorem exec_cont {N : Nat -> Sig} {Γ : Sig} (hc : Chain N Γ) : ∀ (c : VCode) (s : St) (r : VExit × St),exec Γ c s = some r -> ∃ n,exec (N n) c s = some r
 | .skip,s,r,h=>⟨0,by rw [exec_skip] at h ⊢; exact h⟩
 | .region vr,s,r,h=>by
  rw [exec_region] at h
  obtain ⟨s1,h1,h⟩:=ob_ex h
  obtain ⟨n,hn⟩:=execR_cont hc h1
  refine ⟨n,?_⟩
  rw [exec_region,hn,ob_some]
  exact h
 | .seq x y,s,r,h=>by
  rw [exec_seq] at h
  obtain ⟨⟨e1,s1⟩,h1,h⟩:=ob_ex h
  obtain ⟨n,hn⟩:=exec_cont hc x _ _ h1
  cases e1 with
  | normal =>
   rw [thenE_normal] at h
   obtain ⟨m,hm⟩:=exec_cont hc y _ _ h
   refine ⟨max n m,?_⟩
   rw [exec_seq,exec_le (hc.mono n _ (Nat.le_max_left ..)) x _ _ hn,ob_some,thenE_normal]
   exact exec_le (hc.mono m _ (Nat.le_max_right ..)) y _ _ hm
  | exit id=>exact ⟨n,by rw [exec_seq,hn,ob_some]; exact h⟩
  | ret=>exact ⟨n,by rw [exec_seq,hn,ob_some]; exact h⟩
 | .cond t x y,s,r,h=>by
  cases t with
  | v t =>
   rw [exec_cond] at h
   split at h
   ·rename_i b hb
    cases b with
    | true =>
     rw [br_true] at h
     obtain ⟨n,hn⟩:=exec_cont hc x _ _ h
     exact ⟨n,by rw [exec_cond,hb]; simp only [br_true]; exact hn⟩
    | false =>
     rw [br_false] at h
     obtain ⟨n,hn⟩:=exec_cont hc y _ _ h
     exact ⟨n,by rw [exec_cond,hb]; simp only [br_false]; exact hn⟩
   ·cases h
  | t t=>simp [exec] at h
  | c d=>simp [exec] at h
 | .block id x,s,r,h=>by
  rw [exec_block] at h
  obtain ⟨r1,h1,h⟩:=ob_ex h
  obtain ⟨n,hn⟩:=exec_cont hc x _ _ h1
  exact ⟨n,by rw [exec_block,hn,ob_some]; exact h⟩
 | .loop x,s,r,h=>by
  rw [exec_loop] at h
  obtain ⟨k,hk⟩:=iter_ex h
  have key : ∀ (k : Nat) (s : St),iterN (exec Γ x) k s = some r -> ∃ n,iterN (exec (N n) x) k s = some r:=by
   intro k
   induction k with
   | zero=>intro s h; simp [iterN] at h
   | succ k ih =>
    intro s h
    simp only [iterN] at h
    obtain ⟨⟨e1,s1⟩,h1,h⟩:=ob_ex h
    obtain ⟨n,hn⟩:=exec_cont hc x _ _ h1
    cases e1 with
    | normal =>
     obtain ⟨m,hm⟩:=ih s1 h
     refine ⟨max n m,?_⟩
     simp only [iterN]
     rw [exec_le (hc.mono n _ (Nat.le_max_left ..)) x _ _ hn,ob_some]
     exact iterN_le (fun s r=>exec_le (hc.mono m _ (Nat.le_max_right ..)) x s r) hm
    | exit id=>exact ⟨n,by simp only [iterN]; rw [hn,ob_some]; exact h⟩
    | ret=>exact ⟨n,by simp only [iterN]; rw [hn,ob_some]; exact h⟩
  obtain ⟨n,hn⟩:=key k s hk
  exact ⟨n,by rw [exec_loop]; exact iter_of hn⟩
 | .exit id,s,r,h=>⟨0,by rw [exec_exit] at h ⊢; exact h⟩
 | .ret,s,r,h=>⟨0,by rw [exec_ret] at h ⊢; exact h⟩
 | .mv a b x,s,r,h=>by
  rw [exec_mv] at h
  obtain ⟨n,hn⟩:=exec_cont hc x _ _ h
  exact ⟨n,by rw [exec_mv]; exact hn⟩
 | .scope x,s,r,h=>by
  rw [exec_scope] at h
  obtain ⟨n,hn⟩:=exec_cont hc x _ _ h
  exact ⟨n,by rw [exec_scope]; exact hn⟩
 | .fail,s,r,h=>by rw [exec_fail] at h; cases h
theorem callF_le {Γ Γ' : Sig} (hl : Le Γ Γ') {vf : VFunc} {args : List VVal} {H : List Ob} {r : VVal × List Ob} (h : callF Γ vf args H = some r) : callF Γ' vf args H = some r:=by
 unfold callF at h ⊢
 obtain ⟨hn,h⟩:=gd_ex h
 obtain ⟨r1,h1,h⟩:=ob_ex h
 rw [gd_pos _ _ hn,exec_le hl _ _ _ h1,ob_some]
 exact h
theorem callF_cont {N : Nat -> Sig} {Γ : Sig} (hc : Chain N Γ) {vf : VFunc} {args : List VVal} {H : List Ob} {r : VVal × List Ob} (h : callF Γ vf args H = some r) : ∃ n,callF (N n) vf args H = some r:=by
 unfold callF at h
 obtain ⟨hn,h⟩:=gd_ex h
 obtain ⟨r1,h1,h⟩:=ob_ex h
 obtain ⟨n,h2⟩:=exec_cont hc _ _ _ h1
 refine ⟨n,?_⟩
 unfold callF
 rw [gd_pos _ _ hn,h2,ob_some]
 exact h
section
variable {prog : FuncId -> Option VFunc} {X : Sig}
theorem callN_le : ∀ n,Le (callN prog X n) (callN prog X (n + 1))
 | 0=>fun f args H r h=>by
  simp only [callN] at h ⊢
  rw [h]
 | n + 1=>fun f args H r h=>by
  have h' : (match X f args H with
   | some r=>some r
   | none=>match prog f with
    | some vf=>callF (callN prog X n) vf args H
    | none=>none) = some r:=h
  show (match X f args H with
   | some r=>some r
   | none=>match prog f with
    | some vf=>callF (callN prog X (n + 1)) vf args H
    | none=>none) = some r
  cases hx : X f args H with
  | some r' =>
   rw [hx] at h'
   exact h'
  | none =>
   rw [hx] at h'
   cases hp : prog f with
   | none=>rw [hp] at h'; cases h'
   | some vf =>
    rw [hp] at h'
    exact callF_le (callN_le n) h'
theorem callN_mono (n m : Nat) (h : n <= m) : Le (callN prog X n) (callN prog X m):=by
 induction m with
 | zero =>
  have : n = 0:=by omega
  subst this
  exact fun _ _ _ _ h=>h
 | succ m ih =>
  rcases Nat.lt_or_ge m n with h1 | h1
  ·have : n = m + 1:=by omega
   subst this
   exact fun _ _ _ _ h=>h
  .exact fun f args H r hr=>callN_le m f args H r (ih h1 f args H r hr)
theorem vcall_of {n : Nat} {f : FuncId} {args : List VVal} {H : List Ob} {r : VVal × List Ob} (h : callN prog X n f args H = some r) : vcall prog X f args H = some r:=by
 unfold vcall
 have hex : ∃ n r,callN prog X n f args H = some r:=⟨n,r,h⟩
 rw [dif_pos hex]
 have h1:=Classical.choose_spec (Classical.choose_spec hex)
 have h2:=callN_mono _ (max n (Classical.choose hex)) (Nat.le_max_right ..) _ _ _ _ h1
 have h3:=callN_mono _ (max n (Classical.choose hex)) (Nat.le_max_left ..) _ _ _ _ h
 rw [h3] at h2
 exact h2.symm
theorem vcall_chain : Chain (callN prog X) (vcall prog X) where
 mono:=callN_mono
 lim:=fun f args H r h=>by
  unfold vcall at h
  split at h
  ·rename_i hex
   have:=Classical.choose_spec (Classical.choose_spec hex)
   simp only [osi] at h
   rw [h] at this
   exact ⟨_,this⟩
  .cases h
theorem vcall_fix {f : FuncId} {vf : VFunc} (hx : ∀ args H,X f args H = none) (hf : prog f = some vf) {args : List VVal} {H : List Ob} {r : VVal × List Ob} (h : callF (vcall prog X) vf args H = some r) : vcall prog X f args H = some r:=by
 obtain ⟨n,hn⟩:=callF_cont vcall_chain h
 refine vcall_of (n:=n + 1) ?_
 simp only [callN,hx,hf]
 exact hn
end
def XClone (sz bytes : Nat) (args : List VVal) (H : List Ob) : Option (VVal × List Ob):=match args,H with
 | [.p (.slice k xs)],[]=>gd (k = sz) <| gd (xs.length * bytes <= 140737488355328) <| gd (xs.length <= 9223372036854775807) <| some (.fresh sz xs,[])
 | _,_=>none
def unPair : PV -> Option (Int × Int)
 | .agg [.int .i64 a,.int .i64 b]=>some (a,b)
 | _=>none
abbrev pairPV (p : Int × Int) : PV:=.agg [.int .i64 p.1,.int .i64 p.2]
theorem unPair_eq {x : PV} {p : Int × Int} (h : unPair x = some p) : x = pairPV p:=by
 unfold unPair at h
 split at h
 .simp at h; rw [<- h]
 .cases h
end Go.V
