/- Part 2 of the proof. -/
import Derived.Test.YtekkdllchjmhdaaGreatC1
import Derived.Attr
set_option linter.unusedSectionVars false
set_option linter.unusedSimpArgs false
set_option linter.unusedVariables false
open Nat renaming reduceAdd → rA, reduceSub → rS, reduceEqDiff → rE, reduceLeDiff → rL, le_refl → lrf
open List renaming getElem?_eq_getElem → lgg, getElem?_eq_some_iff → lgs, mem_of_getElem? → lmg, drop_eq_getElem_cons → ldg, mem_cons_of_mem → lmc, map_cons → lpc, drop_of_length_le → ldl, nil_append → lna, append_assoc → laa, append_nil → lan, mem_map → lmm, mem_cons_self → lms, map_append → lma, take_of_length_le → ltl, getElem?_of_mem → lgm, length_cons → llc, length_append → lla, flatMap_cons → lfc, mem_cons → lmk, map_nil → lpn, length_nil → lln, mem_append → lmp, length_map → llm, getElem_mem → lgk, length_take → llt, pairwise_cons → lpw, cons_append → lca, filter_cons → lfl
open Option renaming some.injEq → osi
open Bool renaming and_eq_true → bat, false_and → bfa, false_eq_true → bft, true_and → bta, not_false → bnf, and_self → bas, or_eq_true → bot, and_true → bau
open Prod renaming mk.injEq → pmi
namespace Go.V
def wp {α : Type} (x : Option α) (Q : α -> Prop) (_u : Tok Q:=⟨⟩) : Prop:=∃ a,x = some a /\ Q a
section
variable {α β : Type}
theorem ob_some (a : α) (f : α -> Option β) (u : Tok f) : ob (some a) f u = f a:=rfl
theorem ob_none (f : α -> Option β) (u : Tok f) : ob none f u = none:=rfl
theorem gd_pos {c : Prop} [Decidable c] (x : Option α) (u : Tok x) (h : c) : gd c x u = x:=by simp [gd,h]
theorem gd_true (x : Option α) (i : Decidable True) (u : Tok x) : @gd α True i x u = x:=by simp [gd]
theorem br_true (x y : α) (u : Tok x) (v : Tok y) : br true x y u v = x:=rfl
theorem br_false (x y : α) (u : Tok x) (v : Tok y) : br false x y u v = y:=rfl
theorem wp_some (a : α) (Q : α -> Prop) (u : Tok Q) : wp (some a) Q u = Q a:=by simp [wp]
theorem wp_ob (x : Option α) (f : α -> Option β) (Q : β -> Prop) (u : Tok f) (v : Tok Q) : wp (ob x f u) Q v = wp x fun a=>wp (f a) Q:=by
 cases x <;> simp [wp,ob]
theorem wp_br {b : Bool} {x y : Option α} {Q : α -> Prop} {u : Tok x} {v : Tok y} {t : Tok Q} (h1 : b = true -> wp x Q) (h2 : b = false -> wp y Q) : wp (br b x y u v) Q t:=by
 cases b
 .exact h2 rfl
 .exact h1 rfl
theorem eq_of_wp {x : Option α} {a : α} (h : wp x (· = a)) : x = some a:=by
 obtain ⟨b,hb,rfl⟩:=h
 exact hb
end
theorem iterN_mono {b : St -> Option (VExit × St)} : ∀ {n m : Nat} {s : St} {r : VExit × St},n <= m -> iterN b n s = some r -> iterN b m s = some r:=by
 intro n
 induction n with
 | zero=>intro m s r _ h; simp [iterN] at h
 | succ n ih =>
  intro m s r hm h
  obtain ⟨m,rfl⟩ : ∃ k,m = k + 1:=⟨m - 1,by omega⟩
  simp only [iterN] at h ⊢
  cases hb : b s with
  | none=>simp [hb,ob] at h
  | some q =>
   obtain ⟨e,s'⟩:=q
   simp only [hb,ob] at h ⊢
   cases e with
   | normal=>exact ih (by omega) h
   | exit _=>exact h
   | ret=>exact h
theorem iter_of {b : St -> Option (VExit × St)} {n : Nat} {s : St} {r : VExit × St} (h : iterN b n s = some r) : iter b s = some r:=by
 unfold iter
 have hex : ∃ n r,iterN b n s = some r:=⟨n,r,h⟩
 rw [dif_pos hex]
 have h':=Classical.choose_spec (Classical.choose_spec hex)
 have h1:=iterN_mono (Nat.le_max_left n (Classical.choose hex)) h
 have h2:=iterN_mono (Nat.le_max_right n (Classical.choose hex)) h'
 rw [h1] at h2
 exact h2.symm
noncomputable def thenE (r : VExit × St) (k : St -> Option (VExit × St)) : Option (VExit × St):=match r.1 with
 | .normal=>k r.2
 | _=>some r
theorem thenE_normal (s : St) (k : St -> Option (VExit × St)) : thenE (.normal,s) k = k s:=rfl
theorem thenE_exit (i : Nat) (s : St) (k : St -> Option (VExit × St)) : thenE (.exit i,s) k = some (.exit i,s):=rfl
theorem thenE_ret (s : St) (k : St -> Option (VExit × St)) : thenE (.ret,s) k = some (.ret,s):=rfl
def inB (id : Nat) (r : VExit × St) : Option (VExit × St):=if r.1 = .exit id then some (.normal,r.2) else some r
theorem inB_normal (id : Nat) (s : St) : inB id (.normal,s) = some (.normal,s):=by simp [inB]
theorem inB_ret (id : Nat) (s : St) : inB id (.ret,s) = some (.ret,s):=by simp [inB]
theorem inB_exit (id i : Nat) (s : St) : inB id (.exit i,s) = if i = id then some (.normal,s) else some (.exit i,s):=by simp [inB]
section
variable (Γ : Sig) (s : St)
theorem exec_skip : exec Γ .skip s = some (.normal,s):=by simp [exec]
theorem exec_region (r : VRegion) : exec Γ (.region r) s = ob (execR Γ r s) fun s'=>some (.normal,s'):=by simp [exec]
theorem exec_seq (a b : VCode) : exec Γ (.seq a b) s = ob (exec Γ a s) fun r=>thenE r (exec Γ b):=by
 simp only [exec]
 rfl
theorem exec_cond (t : Nat) (a b : VCode) : exec Γ (.cond (.v t) a b) s = match s.pe t with
  | .p (.bool c)=>br c (exec Γ a s) (exec Γ b s)
  | _=>none:=by
 simp only [exec]
 rfl
theorem exec_block (id : Nat) (c : VCode) : exec Γ (.block id c) s = ob (exec Γ c s) (inB id):=by
 simp only [exec]
 rfl
theorem exec_loop (c : VCode) : exec Γ (.loop c) s = iter (exec Γ c) s:=by simp only [exec]
theorem exec_exit (id : Nat) : exec Γ (.exit id) s = some (.exit id,s):=by simp only [exec]
theorem exec_ret : exec Γ .ret s = some (.ret,s):=by simp only [exec]
theorem exec_scope (c : VCode) : exec Γ (.scope c) s = exec Γ c s:=by simp only [exec]
theorem exec_fail : exec Γ .fail s = none:=by simp only [exec]
theorem exec_mv (a b : Id) (c : VCode) : exec Γ (.mv a b c) s = exec Γ c (moved a b s):=by simp only [exec]
end
theorem execR_plain (Γ : Sig) (ops : List VOper) (s : St) : execR Γ ⟨ops,[],[]⟩ s = ob (runOps Γ ops { pe:=s.pe,te:=fun _=>none,h:=s.h }) fun q=>some { pe:=q.pe,h:=q.h }:=by
 simp [execR,freeze]
theorem runOps_nil (Γ : Sig) (r : RS) : runOps Γ [] r = some r:=rfl
theorem runOps_cons (Γ : Sig) (o : VOper) (os : List VOper) (r : RS) : runOps Γ (o :: os) r = ob (stepO Γ o r) fun r'=>runOps Γ os r':=rfl
section
variable (Γ : Sig) (d : VDst) (op : VOp) (pe : Nat -> VVal) (te : Nat -> Option VVal) (h : VHeap)
theorem stepO_v (s : Nat) : stepO Γ ⟨.v s,op,none⟩ ⟨pe,te,h⟩ = ob (evalOp Γ (RS.look ⟨pe,te,h⟩) h s op) fun q=>some ⟨updV pe s q.1,te,h.upds q.2⟩:=rfl
theorem stepO_t (s : Nat) : stepO Γ ⟨.t s,op,none⟩ ⟨pe,te,h⟩ = ob (evalOp Γ (RS.look ⟨pe,te,h⟩) h s op) fun q=>some ⟨pe,updT te s q.1,h.upds q.2⟩:=rfl
theorem stepO_n : stepO Γ ⟨.none,op,none⟩ ⟨pe,te,h⟩ = ob (evalOp Γ (RS.look ⟨pe,te,h⟩) h 0 op) fun q=>some ⟨pe,te,h.upds q.2⟩:=rfl
theorem stepO_gv (s : Nat) (g : VArg) (want : Bool) : stepO Γ ⟨.v s,op,some (g,want)⟩ ⟨pe,te,h⟩ = ob (RS.look ⟨pe,te,h⟩ g) fun gv=>match gv with
  | .p (.bool b)=>br (b == want) (ob (evalOp Γ (RS.look ⟨pe,te,h⟩) h s op) fun q=>some ⟨updV pe s q.1,te,h.upds q.2⟩) (some ⟨updV pe s .undef,te,h⟩)
  | .undef=>some ⟨updV pe s .undef,te,h⟩
  | _=>none:=rfl
theorem stepO_gt (s : Nat) (g : VArg) (want : Bool) : stepO Γ ⟨.t s,op,some (g,want)⟩ ⟨pe,te,h⟩ = ob (RS.look ⟨pe,te,h⟩ g) fun gv=>match gv with
  | .p (.bool b)=>br (b == want) (ob (evalOp Γ (RS.look ⟨pe,te,h⟩) h s op) fun q=>some ⟨pe,updT te s q.1,h.upds q.2⟩) (some ⟨pe,updT te s .undef,h⟩)
  | .undef=>some ⟨pe,updT te s .undef,h⟩
  | _=>none:=rfl
theorem look_v (s : Nat) : RS.look ⟨pe,te,h⟩ (.v s) = some (pe s):=rfl
theorem look_t (s : Nat) : RS.look ⟨pe,te,h⟩ (.t s) = te s:=rfl
theorem look_c (d : PV) : RS.look ⟨pe,te,h⟩ (.c d) = some (thaw d):=rfl
theorem updV_at (s t : Nat) (v : VVal) : updV pe s v t = if t = s then v else pe t:=rfl
theorem updT_at (s t : Nat) (v : VVal) : updT te s v t = if t = s then some v else te t:=rfl
theorem upds_nil : h.upds [] = h:=rfl
theorem upds_cons (id : Id) (o : Nat × Ob) (us : List (Id × Nat × Ob)) : h.upds ((id,o) :: us) = (h.upd id o).upds us:=rfl
theorem upd_at (id i : Id) (o : Nat × Ob) : h.upd id o i = if i = id then some o else h i:=rfl
end
theorem wrap64 {n : Int} (h1 : -9223372036854775808 <= n) (h2 : n <= 9223372036854775807) : IntKind.i64.wrap n = n:=by
 simp [IntKind.wrap,IntKind.bits,IntKind.signed]
 omega
section
variable (Γ : Sig) (look : VArg -> Option VVal) (h : VHeap) (d : Nat)
theorem evalOp_move (x : VArg) : evalOp Γ look h d (.move x) = ob (look x) fun v=>some (v,[]):=rfl
theorem evalOp_newArr (sz : Nat) : evalOp Γ look h d (.newArr sz) = some (.own (.slot d 0) (nv (h (.slot d 0))) 0 0,[(.slot d 0,nv (h (.slot d 0)),.arr sz [])]):=rfl
theorem evalOp_pick (c : VArg) (a : VArg) (b : VArg) : evalOp Γ look h d (.pick c a b) = ob (look c) fun v=>match v with
  | .p (.bool t)=>br t (ob (look a) fun v=>some (v,[])) (ob (look b) fun v=>some (v,[]))
  | _=>none:=rfl
theorem evalOp_alloc (zero : List ZC) : evalOp Γ look h d (.alloc zero) = some (.ptr (.slot d 0) (nv (h.upds (zcells d h 0 zero).2 (.slot d 0))) 0,(zcells d h 0 zero).2 ++ [(.slot d 0,nv (h.upds (zcells d h 0 zero).2 (.slot d 0)),.box (zcells d h 0 zero).1)]):=rfl
theorem evalOp_box (n : Nat) (x : VArg) : evalOp Γ look h d (.box n x) = ob (look x) fun v=>gd ((vcells v).length = n) <| gd ((vcells v).all solid = true) (some (.ptr (.slot d 0) (nv (h (.slot d 0))) 0,[(.slot d 0,nv (h (.slot d 0)),.box (vcells v))])):=rfl
theorem evalOp_build (cells : List BC) : evalOp Γ look h d (.build cells) = ob (bcells look d h 0 cells) fun r=>some (.agg r.1,r.2):=rfl
theorem evalOp_buildSlice (sz : Nat) (parts : List VArg) : evalOp Γ look h d (.buildSlice sz parts) = ob (mapO (fun x=>ob (look x) fun v=>freezeP v) parts) fun xs =>
   gd (xs.all (fun x=>decide (x.cells.length = sz)) = true) (some (.own (.slot d 0) (nv (h (.slot d 0))) 0 parts.length,[(.slot d 0,nv (h (.slot d 0)),.arr sz xs)])):=rfl
theorem evalOp_buildPtrs (parts : List VArg) : evalOp Γ look h d (.buildPtrs parts) = ob (mapO look parts) fun vs=>gd (vs.all isPtr = true) (some (.plist vs,[])):=rfl
theorem evalOp_buildFz (sz : Nat) (parts : List VArg) : evalOp Γ look h d (.buildFz sz parts) = ob (mapO (fun x=>ob (look x) fun v=>freezeP v) parts) fun xs =>
   gd (xs.all (fun x=>decide (x.cells.length = sz)) = true) (some (.p (.slice sz xs),[])):=rfl
theorem evalOp_load (agg : Option Nat) (a : VArg) : evalOp Γ look h d (.load agg a) = ob (look a) fun p=>ob (vload h agg p) fun v=>some (v,[]):=rfl
theorem evalOp_store (n : Nat) (a : VArg) (x : VArg) : evalOp Γ look h d (.store n a x) = ob (look a) fun p=>ob (look x) fun v=>ob (vstore h n p v) fun us=>some (.undef,us):=rfl
theorem evalOp_fieldAddr (off : Nat) (x : VArg) : evalOp Γ look h d (.fieldAddr off x) = ob (look x) fun v=>match v with
  | .ptr id ver o=>some (.ptr id ver (o + off),[])
  | .vptr cs o=>some (.vptr cs (o + off),[])
  | .eptr id ver i o=>some (.eptr id ver i (o + off),[])
  | _=>none:=rfl
theorem evalOp_field (off : Nat) (agg : Option Nat) (x : VArg) : evalOp Γ look h d (.field off agg x) = ob (look x) fun v=>match v with
  | .agg cs=>ob (ofCells agg cs off) fun r=>some (r,[])
  | _=>none:=rfl
theorem evalOp_indexAddr (sz : Nat) (x : VArg) (i : VArg) : evalOp Γ look h d (.indexAddr sz x i) = ob (look x) fun s=>ob (look i) fun n=>match n with
  | .p (.int _ n)=>ob (vindex h sz s n) fun r=>some (r,[])
  | _=>none:=rfl
theorem evalOp_indexStr (x : VArg) (i : VArg) : evalOp Γ look h d (.indexStr x i) = ob (look x) fun s=>ob (look i) fun n=>match s,n with
  | .p (.str s),.p (.int _ n)=>gd (0 <= n) (ob s[n.toNat]? fun b=>some (.p (.int .u8 b.toNat),[]))
  | _,_=>none:=rfl
theorem evalOp_bin (op : BinOp) (x : VArg) (y : VArg) : evalOp Γ look h d (.bin op x y) = ob (look x) fun a=>ob (look y) fun b=>ob (vbin op a b) fun r=>some (r,[]):=rfl
theorem evalOp_eqAgg (neg : Bool) (kts : List KT) (x : VArg) (y : VArg) : evalOp Γ look h d (.eqAgg neg kts x y) = ob (look x) fun a=>ob (look y) fun b=>match a,b with
  | .agg a,.agg b=>ob (mapO unP a) fun xs=>ob (mapO unP b) fun ys=>ob (eqAll kts xs ys) fun r=>some (.p (.bool (if neg then !r else r)),[])
  | _,_=>none:=rfl
theorem evalOp_not (x : VArg) : evalOp Γ look h d (.not x) = ob (look x) fun v=>match v with
  | .p (.bool b)=>some (.p (.bool (!b)),[])
  | _=>none:=rfl
theorem evalOp_neg (x : VArg) : evalOp Γ look h d (.neg x) = ob (look x) fun v=>match v with
  | .p (.int k n)=>some (.p (.int k (k.wrap (0 - n))),[])
  | _=>none:=rfl
theorem evalOp_len (x : VArg) : evalOp Γ look h d (.len x) = ob (look x) fun v=>ob (vlen v) fun n=>some (.p (.int .i64 n),[]):=rfl
theorem evalOp_lenStr (x : VArg) : evalOp Γ look h d (.lenStr x) = ob (look x) fun v=>ob (vlenS v) fun n=>some (.p (.int .i64 n),[]):=rfl
theorem evalOp_eqB (neg : Bool) (x : VArg) (y : VArg) : evalOp Γ look h d (.eqB neg x y) = ob (look x) fun a=>ob (look y) fun b=>match a,b with
  | .p (.bool a),.p (.bool b)=>some (.p (.bool (if neg then !(a == b) else a == b)),[])
  | _,_=>none:=rfl
theorem evalOp_append (sz : Nat) (bytes : Nat) (s : VArg) (x : VArg) : evalOp Γ look h d (.append sz bytes s x) = ob (look s) fun a=>ob (look x) fun b=>vappend h sz bytes a b:=rfl
theorem evalOp_appendNil (sz : Nat) (bytes : Nat) (x : VArg) : evalOp Γ look h d (.appendNil sz bytes x) = ob (look x) fun b=>vappendNil d h sz bytes b:=rfl
theorem evalOp_slice (str : Bool) (sz : Nat) (lo : Option VArg) (hi : Option VArg) (mx : Option VArg) (x : VArg) : evalOp Γ look h d (.slice str sz lo hi mx x) = ob (look x) fun s=>br str (vsliceS look lo hi s) (vslice d h look sz lo hi mx s):=rfl
theorem evalOp_lookup (ok : Bool) (kt : KT) (zero : PV) (m : VArg) (k : VArg) : evalOp Γ look h d (.lookup ok kt zero m k) = ob (look m) fun m=>ob (look k) fun k=>ob (ventries h m) fun es=>gd (es.1 = kt \/ es.2.1 = []) <| ob (mkey kt k) fun k=>some (vlookup ok zero es.2.1 es.2.2 k,[]):=rfl
theorem evalOp_mapUpdate (kt : KT) (m : VArg) (k : VArg) (x : VArg) : evalOp Γ look h d (.mapUpdate kt m k x) = ob (look m) fun m=>ob (look k) fun k=>ob (look x) fun x=>ob (mkey kt k) fun k=>ob (freezeP x) fun x=>match m with
  | .mref id ver=>match h id with
   | some (v,.map kt' ks vs)=>gd (v = ver) <| gd (kt' = kt) (some (.undef,[(id,v,.map kt (mput ks vs k x).1 (mput ks vs k x).2)]))
   | _=>none
  | _=>none:=rfl
theorem evalOp_makeMap (kt : KT) : evalOp Γ look h d (.makeMap kt) = some (.mref (.slot d 0) (nv (h (.slot d 0))),[(.slot d 0,nv (h (.slot d 0)),.map kt [] [])]):=rfl
theorem evalOp_mapLen (x : VArg) : evalOp Γ look h d (.mapLen x) = ob (look x) fun m=>ob (ventries h m) fun es=>some (.p (.int .i64 es.2.1.length),[]):=rfl
theorem evalOp_extract (x : VArg) (i : Nat) : evalOp Γ look h d (.extract x i) = ob (look x) fun v=>match v with
  | .tup vs=>ob vs[i]? fun v=>some (v,[])
  | _=>none:=rfl
theorem evalOp_minmax (isMax : Bool) (xs : List VArg) : evalOp Γ look h d (.minmax isMax xs) = ob (mapO look xs) fun vs=>ob (minmaxI isMax vs) fun r=>some (r,[]):=rfl
theorem evalOp_conv (k : IntKind) (x : VArg) : evalOp Γ look h d (.conv k x) = ob (look x) fun v=>match v with
  | .p (.int _ n)=>some (.p (.int k (k.wrap n)),[])
  | _=>none:=rfl
theorem evalOp_strBytes (x : VArg) : evalOp Γ look h d (.strBytes x) = ob (look x) fun v=>match v with
  | .p (.str s)=>some (.p (.slice 1 (s.data.toList.map fun b=>.int .u8 b.toNat)),[])
  | _=>none:=rfl
theorem evalOp_bytesStr (x : VArg) : evalOp Γ look h d (.bytesStr x) = ob (look x) fun v=>ob (velems h v) fun r=>gd (r.1 = 1) <| ob (mapO unU8 r.2) fun ns=>some (.p (.str (bytesI ns)),[]):=rfl
theorem evalOp_nilCheck (x : VArg) : evalOp Γ look h d (.nilCheck x) = ob (look x) fun v=>match v with
  | .ptr id ver off=>some (.ptr id ver off,[])
  | .vptr cs off=>some (.vptr cs off,[])
  | .eptr id ver i off=>some (.eptr id ver i off,[])
  | .fn f caps=>some (.fn f caps,[])
  | _=>none:=rfl
theorem evalOp_makeFunc (f : FuncId) (caps : List VArg) : evalOp Γ look h d (.makeFunc f caps) = ob (mapO look caps) fun cs=>some (.fn f cs,[]):=rfl
theorem evalOp_call (f : FuncId) (args : List VArg) : evalOp Γ look h d (.call f args) = ob (mapO look args) fun vs=>vcallOp Γ h d f vs:=rfl
theorem evalOp_callv (x : VArg) (args : List VArg) : evalOp Γ look h d (.callv x args) = ob (look x) fun g=>ob (mapO look args) fun vs=>match g with
  | .fn f caps=>vcallOp Γ h d f (vs ++ caps)
  | .p (.fn f)=>vcallOp Γ h d f vs
  | .p (.clo f cs)=>vcallOp Γ h d f (vs ++ cloArgs cs)
  | _=>none:=rfl
theorem evalOp_arrAddr (n sz : Nat) (x i : VArg) : evalOp Γ look h d (.arrAddr n sz x i) = ob (look x) fun v=>ob (look i) fun i=>match i with
  | .p (.int _ k)=>gd (0 <= k) <| gd (k < n) <| match v with
   | .ptr id ver o=>some (.ptr id ver (o + k.toNat * sz),[])
   | .vptr cs o=>some (.vptr cs (o + k.toNat * sz),[])
   | .eptr id ver j o=>some (.eptr id ver j (o + k.toNat * sz),[])
   | _=>none
  | _=>none:=rfl
theorem evalOp_callA (f : FuncId) (args : List VArg) : evalOp Γ look h d (.callA f args) = ob (mapO look args) fun vs=>ob (vcallW Γ h d f vs) fun q=>gd (stillC h (oldU d q.2) = true) (some (q.1,newU d q.2)):=rfl
theorem evalOp_callR (f : FuncId) (args : List VArg) : evalOp Γ look h d (.callR f args) = ob (mapO look args) fun vs=>ob (vcallW Γ h d f vs) fun q=>gd (stillC h q.2 = true) (some (q.1,[])):=rfl
theorem evalOp_callW (f : FuncId) (args : List VArg) : evalOp Γ look h d (.callW f args) = ob (mapO look args) fun vs=>vcallW Γ h d f vs:=rfl
theorem evalOp_callvW (x : VArg) (args : List VArg) : evalOp Γ look h d (.callvW x args) = ob (look x) fun g=>ob (mapO look args) fun vs=>match g with
  | .fn f caps=>vcallW Γ h d f (vs ++ caps)
  | .p (.fn f)=>vcallW Γ h d f vs
  | .p (.clo f cs)=>vcallW Γ h d f (vs ++ cloArgs cs)
  | _=>none:=rfl
theorem evalOp_make (sz bytes : Nat) (zero : PV) (n : VArg) : evalOp Γ look h d (.make sz bytes zero n) = ob (look n) fun v=>match v with
  | .p (.int _ m)=>gd (0 <= m) <| gd ((bytes : Int) * m <= 281474976710656) <| gd (m <= 9223372036854775807) <|
    some (.own (.slot d 0) (nv (h (.slot d 0))) 0 m.toNat,[(.slot d 0,nv (h (.slot d 0)),.arr sz (List.replicate m.toNat zero))])
  | _=>none:=rfl
theorem evalOp_unlit (x : VArg) : evalOp Γ look h d (.unlit x) = ob (look x) fun v=>match v with
  | .p (.lit sz xs)=>some (.p (.slice sz xs),[])
  | _=>none:=rfl
theorem evalOp_buildLit (sz : Nat) (parts : List VArg) : evalOp Γ look h d (.buildLit sz parts) = ob (mapO (fun x=>ob (look x) fun v=>freezeP v) parts) fun xs =>
  gd (xs.all (fun x=>decide (x.cells.length = sz)) = true) (some (.p (.lit sz xs),[])):=rfl
theorem evalOp_appendLit (sz bytes : Nat) (s x : VArg) : evalOp Γ look h d (.appendLit sz bytes s x) = ob (look s) fun a=>ob (look x) fun b=>vappendLit d h sz bytes a b:=rfl
theorem evalOp_range (x : VArg) : evalOp Γ look h d (.range x) = ob (look x) fun v=>match v with
  | .p (.str s)=>some (.ptr (.slot d 0) (nv (h (.slot d 0))) 0,[(.slot d 0,nv (h (.slot d 0)),.iter s 0)])
  | _=>none:=rfl
theorem evalOp_next (x : VArg) : evalOp Γ look h d (.next x) = ob (look x) fun v=>vnext h v:=rfl
theorem evalOp_clear (sz : Nat) (zero : PV) (a : VArg) : evalOp Γ look h d (.clear sz zero a) = ob (look a) fun a=>vclear h sz zero a:=rfl
theorem evalOp_copy (sz : Nat) (a x : VArg) : evalOp Γ look h d (.copy sz a x) = ob (look a) fun a=>ob (look x) fun x=>vcopy h sz a x:=rfl
theorem evalOp_mapEntry (kt : KT) (zero : PV) (m k : VArg) : evalOp Γ look h d (.mapEntry kt zero m k) = ob (look m) fun m=>ob (look k) fun k=>ob (mkey kt k) fun k=>match m with
  | .mref id ver=>match h id with
   | some (v,.map kt' ks vs)=>gd (v = ver) <| gd (kt' = kt) (some (.tup [thaw ((mget ks vs k).getD zero),.p (.int .i64 (kpos ks k))],[(id,v,.map kt (mput ks vs k ((mget ks vs k).getD zero)).1 (mput ks vs k ((mget ks vs k).getD zero)).2)]))
   | _=>none
  | _=>none:=rfl
theorem evalOp_entryStore (m s x : VArg) : evalOp Γ look h d (.entryStore m s x) = ob (look m) fun m=>ob (look s) fun s=>ob (look x) fun x=>ob (freezeP x) fun x=>match m,s with
  | .mref id ver,.p (.int .i64 n)=>match h id with
   | some (v,.map kt ks vs)=>gd (v = ver) <| gd (0 <= n) <| gd (n.toNat < vs.length) (some (.undef,[(id,v,.map kt ks (vs.set n.toNat x))]))
   | _=>none
  | _,_=>none:=rfl
theorem evalOp_buildArr (sz : Nat) (parts : List VArg) : evalOp Γ look h d (.buildArr sz parts) = ob (mapO (fun x=>ob (look x) fun v=>freezeP v) parts) fun xs=>gd (xs.all (fun x=>decide (x.cells.length = sz)) = true) (some (.agg ((xs.flatMap PV.cells).map .p),[])):=rfl
theorem evalOp_indexArr (n sz : Nat) (agg : Option Nat) (x i : VArg) : evalOp Γ look h d (.indexArr n sz agg x i) = ob (look x) fun v=>ob (look i) fun i=>match v,i with
  | .agg cs,.p (.int _ k)=>gd (0 <= k) <| gd (k < n) <| ob (ofCells agg cs (k.toNat * sz)) fun r=>some (r,[])
  | _,_=>none:=rfl
end
attribute [go_sem] evalOp_range evalOp_next vnext evalOp_make evalOp_copy vcopy evalOp_clear vclear exec_fail evalOp_unlit evalOp_buildLit evalOp_appendLit vappendLit
attribute [go_sem] evalOp_arrAddr evalOp_callA newU oldU evalOp_callR stillC_nil stillC_cons evalOp_callW evalOp_callvW vcallW vcallRW inResW inW0 inLW rootsW ptrsW1 ptrsW0 objPtrsW extW1 extW0 extObW backObs inCL inC backW1 backW0 apartRes callRoots
attribute [go_sem] evalOp_mapEntry evalOp_entryStore evalOp_buildArr evalOp_indexArr evalOp_move evalOp_newArr evalOp_pick evalOp_alloc evalOp_box evalOp_build evalOp_buildSlice evalOp_buildPtrs isPtr evalOp_buildFz evalOp_load evalOp_store evalOp_fieldAddr evalOp_field evalOp_indexAddr evalOp_indexStr evalOp_bin evalOp_eqAgg evalOp_not evalOp_neg evalOp_len evalOp_lenStr evalOp_eqB evalOp_append evalOp_appendNil evalOp_slice evalOp_lookup evalOp_mapUpdate evalOp_makeMap evalOp_mapLen evalOp_extract evalOp_minmax evalOp_conv evalOp_strBytes evalOp_bytesStr unU8 evalOp_nilCheck evalOp_makeFunc evalOp_call evalOp_callv
attribute [go_sem] ob_some ob_none gd_true br_true br_false wp_some wp_ob thenE_normal thenE_exit thenE_ret inB_normal inB_ret inB_exit exec_skip exec_region exec_seq exec_cond exec_block exec_loop exec_exit exec_ret exec_scope exec_mv moved mvOb execR_plain runOps_nil runOps_cons stepO_v stepO_t stepO_n stepO_gv stepO_gt look_v look_t look_c updV_at updT_at upds_nil upds_cons upd_at
attribute [go_sem] thaw vload vrow ofCells vcells freezeP unP mapO velems vlen vlenS splice vstore vstoreAt setCells vindex vindexAt zcell zcells bcells vbin ibin isSh ishift sbin eq0 eqAll mm2 mmL minmaxI mkey ventries vlookup vappend vappendNil natOf optNat vslice vcut vcut0 vcut3 vcutM vcutS vsliceS nv PV.cells
attribute [go_sem] callF enterE enterH fetch out0 outCap out1 outO outW0 nodupB capsApart capIds1 capIds0 ownIds0 ownIds1 outs outsT newIds0 argOwns outArg1 outArg outBox outH cloArgs
theorem leave_ret (rets : List VRet) (n : Nat) (s : St) : leave rets n (.ret,s) = ob (mapO (fetch s) rets) fun vs=>ob (outs s.h n vs) fun v=>ob (outH s.h 0 n) fun H'=>some (v,H'):=rfl
theorem leave_normal (rets : List VRet) (n : Nat) (s : St) : leave rets n (.normal,s) = ob (mapO (fetch s) rets) fun vs=>ob (outs s.h n vs) fun v=>ob (outH s.h 0 n) fun H'=>some (v,H'):=rfl
attribute [go_sem] leave_ret leave_normal
attribute [go_sem] oT oV oZ oG oM oN oL oF oK rg cI cF cT oJ oP oA oQ oC oE oS oI oO oB oR oY oX oU gL gF gM
attribute [go_sem] if_true if_false List.getD_cons_zero List.getD_cons_succ List.getD_nil llc lln Id.slot.injEq Id.arg.injEq false_and and_false and_true true_and and_self or_true true_or or_false false_or Nat.add_zero Nat.zero_add List.getElem?_cons_zero List.getElem?_cons_succ List.getElem?_nil llm List.getElem?_map Option.map_some Option.map_none Int.toNat_natCast decide_true decide_false decide_eq_true_eq Bool.not_true bnf beq_self_eq_true List.all_cons List.all_nil bau bta List.drop_zero List.drop_succ_cons List.take_succ_cons List.take_zero List.drop_nil List.take_nil lna lan lca lpc lpn lfc List.flatMap_nil List.contains_nil List.isEmpty_nil List.isEmpty_cons List.filterMap_cons List.filterMap_nil lla llt lrf Nat.zero_le Nat.min_self eq_self gd_pos Int.natCast_nonneg Int.ofNat_lt Int.ofNat_le vcallOp vcallR roots addNew ptrs1 ptrs0 objPtrs ext1 ext0 extBox alive posOf lends lends0 noAlias noAlias1 noAlias0 flatBox flatC PV.flat PV.flat0 backBoxes back1 back0 inRes in1 in0 inL inT width List.any_cons List.any_nil Bool.or_false Bool.false_or Bool.or_true Bool.true_or bft beq_iff_eq
attribute [go_sem] wrap64
theorem wp_count {b : St -> Option (VExit × St)} {Q : VExit × St -> Prop} (n : Nat) (J : Nat -> St -> Prop) {s : St} (h0 : J 0 s)
  (hstep : ∀ i s,i <= n -> J i s -> wp (b s) fun r=>match r.1 with
   | .normal=>i < n /\ J (i + 1) r.2
   | _=>Q r) : wp (iter b s) Q:=by
 have key : ∀ k i s,i + k = n -> J i s -> ∃ m r,iterN b m s = some r /\ Q r:=by
  intro k
  induction k with
  | zero =>
   intro i s hk hJ
   obtain ⟨⟨e,s'⟩,hb,hq⟩:=hstep i s (by omega) hJ
   cases e with
   | normal=>have:=hq.1; omega
   | exit id=>exact ⟨1,(.exit id,s'),by simp [iterN,hb,ob],hq⟩
   | ret=>exact ⟨1,(.ret,s'),by simp [iterN,hb,ob],hq⟩
  | succ k ih =>
   intro i s hk hJ
   obtain ⟨⟨e,s'⟩,hb,hq⟩:=hstep i s (by omega) hJ
   cases e with
   | normal =>
    obtain ⟨m,r,hm,hr⟩:=ih (i + 1) s' (by omega) hq.2
    exact ⟨m + 1,r,by simp [iterN,hb,ob,hm],hr⟩
   | exit id=>exact ⟨1,(.exit id,s'),by simp [iterN,hb,ob],hq⟩
   | ret=>exact ⟨1,(.ret,s'),by simp [iterN,hb,ob],hq⟩
 obtain ⟨m,r,hm,hr⟩:=key n 0 s (by omega) h0
 exact ⟨r,iter_of hm,hr⟩
theorem wp_meas {σ : Type} {b : St -> Option (VExit × St)} {Q : VExit × St -> Prop} (J : σ -> St -> Prop) (μ : σ -> Nat) (x : σ) {s : St} (h0 : J x s)
  (hstep : ∀ x s,J x s -> wp (b s) fun r=>match r.1 with
   | .normal=>∃ y,μ y < μ x /\ J y r.2
   | _=>Q r) : wp (iter b s) Q:=by
 have key : ∀ k x s,μ x = k -> J x s -> ∃ m r,iterN b m s = some r /\ Q r:=by
  intro k
  induction k using Nat.strongRecOn with
  | _ k ih =>
   intro x s hk hJ
   obtain ⟨⟨e,s'⟩,hb,hq⟩:=hstep x s hJ
   cases e with
   | normal =>
    obtain ⟨y,hy,hJ'⟩:=hq
    obtain ⟨m,r,hm,hr⟩:=ih (μ y) (by omega) y s' rfl hJ'
    exact ⟨m + 1,r,by simp [iterN,hb,ob,hm],hr⟩
   | exit id=>exact ⟨1,(.exit id,s'),by simp [iterN,hb,ob],hq⟩
   | ret=>exact ⟨1,(.ret,s'),by simp [iterN,hb,ob],hq⟩
 obtain ⟨m,r,hm,hr⟩:=key _ x s rfl h0
 exact ⟨r,iter_of hm,hr⟩
theorem wp_if {α : Type} {b : Bool} {x y : Option α} {Q : α -> Prop} {u : Tok x} {v : Tok y} {t : Tok Q} (h1 : b = true -> wp x Q) (h2 : b = false -> wp y Q) : wp (br b x y u v) Q t:=wp_br h1 h2
theorem wp_gr {α : Type} {b : Bool} {x y : Option α} {Q : α -> Prop} {u : Tok x} {v : Tok y} {t : Tok Q} (h1 : b = false -> wp x Q) (h2 : b = true -> wp y Q) : wp (br (b == false) x y u v) Q t:=by
 cases b
 .exact h1 rfl
 .exact h2 rfl
theorem wp_gt {α : Type} {b : Bool} {x y : Option α} {Q : α -> Prop} {u : Tok x} {v : Tok y} {t : Tok Q} (h1 : b = true -> wp x Q) (h2 : b = false -> wp y Q) : wp (br (b == true) x y u v) Q t:=by
 cases b
 .exact h2 rfl
 .exact h1 rfl
theorem wp_nt {α : Type} {b : Bool} {x y : Option α} {Q : α -> Prop} {u : Tok x} {v : Tok y} {t : Tok Q} (h1 : b = false -> wp x Q) (h2 : b = true -> wp y Q) : wp (br (!b) x y u v) Q t:=by
 cases b
 .exact h1 rfl
 .exact h2 rfl
theorem eqb_tt : (true == true) = true:=rfl
theorem eqb_tf : (true == false) = false:=rfl
theorem eqb_ft : (false == true) = false:=rfl
theorem eqb_ff : (false == false) = true:=rfl
attribute [go_sem] eqb_tt eqb_tf eqb_ft eqb_ff
section
variable {α : Type} {p : Prop} [Decidable p] {x y : Option α} {Q : α -> Prop} {u : Tok x} {v : Tok y} {t : Tok Q}
theorem wp_if_d (h1 : p -> wp x Q) (h2 : ¬ p -> wp y Q) : wp (br (decide p) x y u v) Q t:=wp_br (fun h=>h1 (of_decide_eq_true h)) (fun h=>h2 (of_decide_eq_false h))
theorem wp_nt_d (h1 : ¬ p -> wp x Q) (h2 : p -> wp y Q) : wp (br (!decide p) x y u v) Q t:=wp_nt (fun h=>h1 (of_decide_eq_false h)) (fun h=>h2 (of_decide_eq_true h))
theorem wp_gr_d (h1 : ¬ p -> wp x Q) (h2 : p -> wp y Q) : wp (br (decide p == false) x y u v) Q t:=wp_gr (fun h=>h1 (of_decide_eq_false h)) (fun h=>h2 (of_decide_eq_true h))
theorem wp_gt_d (h1 : p -> wp x Q) (h2 : ¬ p -> wp y Q) : wp (br (decide p == true) x y u v) Q t:=wp_gt (fun h=>h1 (of_decide_eq_true h)) (fun h=>h2 (of_decide_eq_false h))
theorem wp_grn_d (h1 : p -> wp x Q) (h2 : ¬ p -> wp y Q) : wp (br ((!decide p) == false) x y u v) Q t:=wp_gr (fun h=>h1 (by simpa using h)) (fun h=>h2 (by simpa using h))
theorem wp_gtn_d (h1 : ¬ p -> wp x Q) (h2 : p -> wp y Q) : wp (br ((!decide p) == true) x y u v) Q t:=wp_gt (fun h=>h1 (by simpa using h)) (fun h=>h2 (by simpa using h))
end
theorem int_beq (a b : Int) : (a == b) = decide (a = b):=rfl
theorem int_bne (a b : Int) : (a != b) = !decide (a = b):=rfl
attribute [go_sem] int_beq int_bne
theorem execR_fz (Γ : Sig) (ops : List VOper) (f : Nat) (fz : List Nat) (s : St) : execR Γ ⟨ops,f :: fz,[]⟩ s = ob (runOps Γ ops { pe:=fun t=>fz1 (f :: fz) s.h (s.pe t),te:=fun _=>none,h:=fzOb (f :: fz) s.h }) fun q=>some { pe:=q.pe,h:=q.h }:=by
 simp [execR,freeze]
theorem execR_fp (Γ : Sig) (ops : List VOper) (p : Nat × Nat) (fp : List (Nat × Nat)) (s : St) : execR Γ ⟨ops,[],p :: fp⟩ s = ob (runFp Γ (p :: fp) 0 ops { pe:=s.pe,te:=fun _=>none,h:=s.h } []) fun q=>some { pe:=q.pe,h:=q.h }:=by
 simp [execR,freeze]
theorem execR_both (Γ : Sig) (ops : List VOper) (f : Nat) (fz : List Nat) (p : Nat × Nat) (fp : List (Nat × Nat)) (s : St) : execR Γ ⟨ops,f :: fz,p :: fp⟩ s = ob (runFp Γ (p :: fp) 0 ops { pe:=fun t=>fz1 (f :: fz) s.h (s.pe t),te:=fun _=>none,h:=fzOb (f :: fz) s.h } []) fun q=>some { pe:=q.pe,h:=q.h }:=by
 simp [execR,freeze]
theorem contains_pair (a b c d : Nat) (l : List (Nat × Nat)) : ((a,b) :: l).contains (c,d) = ((decide (c = a) && decide (d = b)) || l.contains (c,d)):=by
 rw [Bool.eq_iff_iff]
 simp
theorem contains_id (a c : Id) (l : List Id) : (a :: l).contains c = (decide (c = a) || l.contains c):=by
 rw [Bool.eq_iff_iff]
 simp
theorem contains_nat (a c : Nat) (l : List Nat) : (a :: l).contains c = (decide (c = a) || l.contains c):=by
 rw [Bool.eq_iff_iff]
 simp
theorem nat_beq (a b : Nat) : (a == b) = decide (a = b):=by rw [Bool.eq_iff_iff]; simp
theorem nat_bne (a b : Nat) : (a != b) = !decide (a = b):=by simp [bne,nat_beq]
theorem ba_get (s : ByteArray) (i : Nat) : s[i]? = s.data.toList[i]?:=by
 by_cases h : i < s.size
 ·rw [getElem?_pos s i h,lgg (by simpa using h)]
  simp [ByteArray.getElem_eq_getElem_data]
 .rw [getElem?_neg s i h,List.getElem?_eq_none (by simpa using h)]
attribute [go_sem] execR_fz execR_fp execR_both contains_pair contains_id contains_nat nat_beq nat_bne fzOb fzId fpL fpR noteFp runFp checkFp apartFp VOp.wrFp headFp touch touchF callArgs VOp.args VOp.writes VOp.isR ids0 ids1 Id.at VDst.slot Option.toList Bool.and_false bfa Bool.or_self bas
theorem fz0_p (fz : List Nat) (h : VHeap) (d : PV) : fz0 fz h (.p d) = .p d:=rfl
theorem fz1_p (fz : List Nat) (h : VHeap) (d : PV) : fz1 fz h (.p d) = .p d:=rfl
theorem fz0_ptr (fz : List Nat) (h : VHeap) (id : Id) (ver off : Nat) : fz0 fz h (.ptr id ver off) = .ptr id ver off:=rfl
theorem fz1_ptr (fz : List Nat) (h : VHeap) (id : Id) (ver off : Nat) : fz1 fz h (.ptr id ver off) = .ptr id ver off:=rfl
theorem fz0_vptr (fz : List Nat) (h : VHeap) (cs : List PV) (off : Nat) : fz0 fz h (.vptr cs off) = .vptr cs off:=rfl
theorem fz0_plist (fz : List Nat) (h : VHeap) (ps : List VVal) : fz0 fz h (.plist ps) = .plist ps:=rfl
theorem fz1_plist (fz : List Nat) (h : VHeap) (ps : List VVal) : fz1 fz h (.plist ps) = .plist ps:=rfl
theorem fz1_pcell (fz : List Nat) (h : VHeap) (p : VVal) : fz1 fz h (.pcell p) = .pcell p:=rfl
attribute [go_sem] fz0_plist fz1_plist fz1_pcell
theorem fz1_vptr (fz : List Nat) (h : VHeap) (cs : List PV) (off : Nat) : fz1 fz h (.vptr cs off) = .vptr cs off:=rfl
theorem fz0_eptr (fz : List Nat) (h : VHeap) (id : Id) (ver i off : Nat) : fz0 fz h (.eptr id ver i off) = .eptr id ver i off:=rfl
theorem fz1_eptr (fz : List Nat) (h : VHeap) (id : Id) (ver i off : Nat) : fz1 fz h (.eptr id ver i off) = .eptr id ver i off:=rfl
theorem fz0_mref (fz : List Nat) (h : VHeap) (id : Id) (ver : Nat) : fz0 fz h (.mref id ver) = .mref id ver:=rfl
theorem fz1_mref (fz : List Nat) (h : VHeap) (id : Id) (ver : Nat) : fz1 fz h (.mref id ver) = .mref id ver:=rfl
theorem fz0_fn (fz : List Nat) (h : VHeap) (f : FuncId) (caps : List VVal) : fz0 fz h (.fn f caps) = .fn f caps:=rfl
theorem fz1_fn (fz : List Nat) (h : VHeap) (f : FuncId) (caps : List VVal) : fz1 fz h (.fn f caps) = .fn f caps:=rfl
theorem fz0_undef (fz : List Nat) (h : VHeap)  : fz0 fz h (.undef) = .undef:=rfl
theorem fz1_undef (fz : List Nat) (h : VHeap)  : fz1 fz h (.undef) = .undef:=rfl
theorem fz0_agg (fz : List Nat) (h : VHeap) (cs : List VVal) : fz0 fz h (.agg cs) = .agg cs:=rfl
theorem fz1_agg (fz : List Nat) (h : VHeap) (cs : List VVal) : fz1 fz h (.agg cs) = .agg (cs.map (fz0 fz h)):=rfl
theorem fz1_tup (fz : List Nat) (h : VHeap) (cs : List VVal) : fz1 fz h (.tup cs) = .tup (cs.map (fz0 fz h)):=rfl
theorem fz0_own (fz : List Nat) (h : VHeap) (id : Id) (ver off len : Nat) : fz0 fz h (.own id ver off len) = if fzId fz id = true then (match velems h (.own id ver off len) with
  | some r=>.p (.slice r.1 r.2)
  | none=>.dead) else .own id ver off len:=rfl
theorem fz1_own (fz : List Nat) (h : VHeap) (id : Id) (ver off len : Nat) : fz1 fz h (.own id ver off len) = if fzId fz id = true then (match velems h (.own id ver off len) with
  | some r=>.p (.slice r.1 r.2)
  | none=>.dead) else .own id ver off len:=rfl
attribute [go_sem] fz0_p fz1_p fz0_ptr fz1_ptr fz0_vptr fz1_vptr fz0_eptr fz1_eptr fz0_mref fz1_mref fz0_fn fz1_fn fz0_undef fz1_undef fz0_agg fz1_agg fz1_tup fz0_own fz1_own
section
variable (a b : Id) (va n : Nat)
theorem mv1_p (d : PV) : mv1 a b va n (.p d) = .p d:=rfl
theorem mv1_ptr (id : Id) (ver off : Nat) : mv1 a b va n (.ptr id ver off) = .ptr id ver off:=rfl
theorem mv1_plist (ps : List VVal) : mv1 a b va n (.plist ps) = .plist ps:=rfl
theorem mv1_pcell (p : VVal) : mv1 a b va n (.pcell p) = .pcell p:=rfl
attribute [go_sem] mv1_plist mv1_pcell
theorem mv1_vptr (cs : List PV) (off : Nat) : mv1 a b va n (.vptr cs off) = .vptr cs off:=rfl
theorem mv1_mref (id : Id) (ver : Nat) : mv1 a b va n (.mref id ver) = .mref id ver:=rfl
theorem mv1_fn (f : FuncId) (caps : List VVal) : mv1 a b va n (.fn f caps) = .fn f caps:=rfl
theorem mv1_undef : mv1 a b va n .undef = .undef:=rfl
theorem mv1_agg (cs : List VVal) : mv1 a b va n (.agg cs) = .agg (cs.map (mv0 a b va n)):=rfl
theorem mv1_tup (cs : List VVal) : mv1 a b va n (.tup cs) = .tup (cs.map (mv0 a b va n)):=rfl
theorem mv1_own (id : Id) (ver off len : Nat) : mv1 a b va n (.own id ver off len) = if id = a /\ ver = va then .own b n off len else .own id ver off len:=rfl
theorem mv1_eptr (id : Id) (ver i off : Nat) : mv1 a b va n (.eptr id ver i off) = if id = a /\ ver = va then .eptr b n i off else .eptr id ver i off:=rfl
theorem mv0_p (d : PV) : mv0 a b va n (.p d) = .p d:=rfl
theorem mv0_ptr (id : Id) (ver off : Nat) : mv0 a b va n (.ptr id ver off) = .ptr id ver off:=rfl
theorem mv0_mref (id : Id) (ver : Nat) : mv0 a b va n (.mref id ver) = .mref id ver:=rfl
theorem mv0_fn (f : FuncId) (caps : List VVal) : mv0 a b va n (.fn f caps) = .fn f caps:=rfl
theorem mv0_own (id : Id) (ver off len : Nat) : mv0 a b va n (.own id ver off len) = if id = a /\ ver = va then .own b n off len else .own id ver off len:=rfl
end
attribute [go_sem] mv1_p mv1_ptr mv1_vptr mv1_mref mv1_fn mv1_undef mv1_agg mv1_tup mv1_own mv1_eptr mv0_p mv0_ptr mv0_mref mv0_fn mv0_own
theorem cl0 {P : Prop} (h : P := by first | with_reducible rfl | (simp -implicitDefEqProofs (disch := omega) only [*, List.map_append, go_sem, ↓reduceIte, Nat.reduceAdd, Nat.reduceSub, Nat.reduceEqDiff, Nat.reduceLeDiff, reduceCtorEq] <;> exact cl1) | exact cl2) : P := h
theorem cl3 {P : Prop} (h : P := by first | rfl | omega | (simp; done) | (simp; omega)) : P := h
def Le (Γ Γ' : Sig) : Prop:=∀ f args H r,Γ f args H = some r -> Γ' f args H = some r
theorem ob_ex {α β : Type} {x : Option α} {f : α -> Option β} {u : Tok f} {b : β} (h : ob x f u = some b) : ∃ a,x = some a /\ f a = some b:=by
 cases x with
 | none=>cases h
 | some a=>exact ⟨a,rfl,h⟩
structure Chain (N : Nat -> Sig) (Γ : Sig) : Prop where
 mono : ∀ n m,n <= m -> Le (N n) (N m)
 lim : ∀ f args H r,Γ f args H = some r -> ∃ n,N n f args H = some r
theorem vcallR_le {Γ Γ' : Sig} (hl : Le Γ Γ') {h : VHeap} {d : Nat} {f : FuncId} {args : List VVal} {R : List Id} {q : VVal × List (Id × Nat × Ob)} (he : vcallR Γ h d f args R = some q) : vcallR Γ' h d f args R = some q:=by
 unfold vcallR at he ⊢
 obtain ⟨a',h1,he⟩:=ob_ex he
 obtain ⟨H,h2,he⟩:=ob_ex he
 obtain ⟨r,h3,he⟩:=ob_ex he
 rw [h1,ob_some,h2,ob_some,hl _ _ _ _ h3,ob_some]
 exact he
theorem vcallR_cont {N : Nat -> Sig} {Γ : Sig} (hc : Chain N Γ) {h : VHeap} {d : Nat} {f : FuncId} {args : List VVal} {R : List Id} {q : VVal × List (Id × Nat × Ob)} (he : vcallR Γ h d f args R = some q) : ∃ n,vcallR (N n) h d f args R = some q:=by
 unfold vcallR at he
 obtain ⟨a',h1,he⟩:=ob_ex he
 obtain ⟨H,h2,he⟩:=ob_ex he
 obtain ⟨r,h3,he⟩:=ob_ex he
 obtain ⟨n,hn⟩:=hc.lim _ _ _ _ h3
 refine ⟨n,?_⟩
 unfold vcallR
 rw [h1,ob_some,h2,ob_some,hn,ob_some]
 exact he
theorem vcallRW_le {Γ Γ' : Sig} (hl : Le Γ Γ') {h : VHeap} {d : Nat} {f : FuncId} {args : List VVal} {R : List Id} {q : VVal × List (Id × Nat × Ob)} (he : vcallRW Γ h d f args R = some q) : vcallRW Γ' h d f args R = some q:=by
 unfold vcallRW at he ⊢
 obtain ⟨a',h1,he⟩:=ob_ex he
 obtain ⟨H,h2,he⟩:=ob_ex he
 obtain ⟨r,h3,he⟩:=ob_ex he
 rw [h1,ob_some,h2,ob_some,hl _ _ _ _ h3,ob_some]
 exact he
theorem vcallRW_cont {N : Nat -> Sig} {Γ : Sig} (hc : Chain N Γ) {h : VHeap} {d : Nat} {f : FuncId} {args : List VVal} {R : List Id} {q : VVal × List (Id × Nat × Ob)} (he : vcallRW Γ h d f args R = some q) : ∃ n,vcallRW (N n) h d f args R = some q:=by
 unfold vcallRW at he
 obtain ⟨a',h1,he⟩:=ob_ex he
 obtain ⟨H,h2,he⟩:=ob_ex he
 obtain ⟨r,h3,he⟩:=ob_ex he
 obtain ⟨n,hn⟩:=hc.lim _ _ _ _ h3
 refine ⟨n,?_⟩
 unfold vcallRW
 rw [h1,ob_some,h2,ob_some,hn,ob_some]
 exact he
def VOp.isCall : VOp -> Bool
 | .call _ _ | .callv _ _ | .callW _ _ | .callvW _ _ | .callR _ _ | .callA _ _=>true
 | _=>false
theorem evalOp_nocall {Γ Γ' : Sig} {look : VArg -> Option VVal} {h : VHeap} {d : Nat} {op : VOp} (ho : op.isCall = false) : evalOp Γ look h d op = evalOp Γ' look h d op:=by
 cases op <;> first | rfl | (simp [VOp.isCall] at ho)
theorem evalOp_le {Γ Γ' : Sig} (hl : Le Γ Γ') {look : VArg -> Option VVal} {h : VHeap} {d : Nat} {op : VOp} {q : VVal × List (Id × Nat × Ob)} (he : evalOp Γ look h d op = some q) : evalOp Γ' look h d op = some q:=by
 by_cases ho : op.isCall = false
 ·rw [<- evalOp_nocall (Γ:=Γ) ho]; exact he
 cases op <;> first | (simp [VOp.isCall] at ho; done) | skip
 ·rw [evalOp_call] at he ⊢
  obtain ⟨vs,h1,he⟩:=ob_ex he
  rw [h1,ob_some]
  exact vcallR_le hl he
 ·rw [evalOp_callv] at he ⊢
  obtain ⟨g,h0,he⟩:=ob_ex he
  obtain ⟨vs,h1,he⟩:=ob_ex he
  rw [h0,ob_some,h1,ob_some]
  split at he
  .exact vcallR_le hl he
  .exact vcallR_le hl he
  .exact vcallR_le hl he
  .cases he
 ·rw [evalOp_callW] at he ⊢
  obtain ⟨vs,h1,he⟩:=ob_ex he
  rw [h1,ob_some]
  exact vcallRW_le hl he
 ·rw [evalOp_callvW] at he ⊢
  obtain ⟨g,h0,he⟩:=ob_ex he
  obtain ⟨vs,h1,he⟩:=ob_ex he
  rw [h0,ob_some,h1,ob_some]
  split at he
  .exact vcallRW_le hl he
  .exact vcallRW_le hl he
  .exact vcallRW_le hl he
  .cases he
 ·rw [evalOp_callR] at he ⊢
  obtain ⟨vs,h1,he⟩:=ob_ex he
  obtain ⟨q1,h2,he⟩:=ob_ex he
  rw [h1,ob_some,vcallW,vcallRW_le hl h2,ob_some]
  exact he
 ·rw [evalOp_callA] at he ⊢
  obtain ⟨vs,h1,he⟩:=ob_ex he
  obtain ⟨q1,h2,he⟩:=ob_ex he
  rw [h1,ob_some,vcallW,vcallRW_le hl h2,ob_some]
  exact he
theorem evalOp_cont {N : Nat -> Sig} {Γ : Sig} (hc : Chain N Γ) {look : VArg -> Option VVal} {h : VHeap} {d : Nat} {op : VOp} {q : VVal × List (Id × Nat × Ob)} (he : evalOp Γ look h d op = some q) : ∃ n,evalOp (N n) look h d op = some q:=by
 by_cases ho : op.isCall = false
 ·exact ⟨0,by rw [<- evalOp_nocall (Γ:=Γ) ho]; exact he⟩
 cases op <;> first | (simp [VOp.isCall] at ho; done) | skip
 ·rw [evalOp_call] at he
  obtain ⟨vs,h1,he⟩:=ob_ex he
  obtain ⟨n,hn⟩:=vcallR_cont hc he
  refine ⟨n,?_⟩
  rw [evalOp_call,h1,ob_some]
  exact hn
 ·rw [evalOp_callv] at he
  obtain ⟨g,h0,he⟩:=ob_ex he
  obtain ⟨vs,h1,he⟩:=ob_ex he
  split at he
  ·obtain ⟨n,hn⟩:=vcallR_cont hc he
   refine ⟨n,?_⟩
   rw [evalOp_callv,h0,ob_some,h1,ob_some]
   exact hn
  ·obtain ⟨n,hn⟩:=vcallR_cont hc he
   refine ⟨n,?_⟩
   rw [evalOp_callv,h0,ob_some,h1,ob_some]
   exact hn
  ·obtain ⟨n,hn⟩:=vcallR_cont hc he
   refine ⟨n,?_⟩
   rw [evalOp_callv,h0,ob_some,h1,ob_some]
   exact hn
  ·cases he
 ·rw [evalOp_callW] at he
  obtain ⟨vs,h1,he⟩:=ob_ex he
  obtain ⟨n,hn⟩:=vcallRW_cont hc he
  refine ⟨n,?_⟩
  rw [evalOp_callW,h1,ob_some]
  exact hn
 ·rw [evalOp_callvW] at he
  obtain ⟨g,h0,he⟩:=ob_ex he
  obtain ⟨vs,h1,he⟩:=ob_ex he
  split at he
  ·obtain ⟨n,hn⟩:=vcallRW_cont hc he
   refine ⟨n,?_⟩
   rw [evalOp_callvW,h0,ob_some,h1,ob_some]
   exact hn
  ·obtain ⟨n,hn⟩:=vcallRW_cont hc he
   refine ⟨n,?_⟩
   rw [evalOp_callvW,h0,ob_some,h1,ob_some]
   exact hn
  ·obtain ⟨n,hn⟩:=vcallRW_cont hc he
   refine ⟨n,?_⟩
   rw [evalOp_callvW,h0,ob_some,h1,ob_some]
   exact hn
  .cases he
 ·rw [evalOp_callR] at he
  obtain ⟨vs,h1,he⟩:=ob_ex he
  obtain ⟨q1,h2,he⟩:=ob_ex he
  obtain ⟨n,hn⟩:=vcallRW_cont hc h2
  refine ⟨n,?_⟩
  rw [evalOp_callR,h1,ob_some,vcallW,hn,ob_some]
  exact he
 ·rw [evalOp_callA] at he
  obtain ⟨vs,h1,he⟩:=ob_ex he
  obtain ⟨q1,h2,he⟩:=ob_ex he
  obtain ⟨n,hn⟩:=vcallRW_cont hc h2
  refine ⟨n,?_⟩
  rw [evalOp_callA,h1,ob_some,vcallW,hn,ob_some]
  exact he
theorem stepO_le {Γ Γ' : Sig} (hl : Le Γ Γ') {o : VOper} {r r' : RS} (h : stepO Γ o r = some r') : stepO Γ' o r = some r':=by
 unfold stepO at h ⊢
 split
 ·rename_i hg
  rw [hg] at h
  obtain ⟨q,hq,h⟩:=ob_ex h
  rw [evalOp_le hl hq,ob_some]
  exact h
 ·rename_i g want hg
  rw [hg] at h
  obtain ⟨gv,hgv,h⟩:=ob_ex h
  rw [hgv,ob_some]
  split at h
  ·unfold br at h ⊢
   split
   ·rename_i hb
    rw [if_pos hb] at h
    obtain ⟨q,hq,h⟩:=ob_ex h
    rw [evalOp_le hl hq,ob_some]
    exact h
   ·rename_i hb
    rw [if_neg hb] at h
    exact h
  .exact h
  .cases h
theorem stepO_cont {N : Nat -> Sig} {Γ : Sig} (hc : Chain N Γ) {o : VOper} {r r' : RS} (h : stepO Γ o r = some r') : ∃ n,stepO (N n) o r = some r':=by
 unfold stepO at h
 split at h
 ·rename_i hg
  obtain ⟨q,hq,h⟩:=ob_ex h
  obtain ⟨n,hn⟩:=evalOp_cont hc hq
  refine ⟨n,?_⟩
  unfold stepO
  rw [hg]
  simp only [hn,ob_some]
  exact h
 ·rename_i g want hg
  obtain ⟨gv,hgv,h⟩:=ob_ex h
  split at h
  ·unfold br at h
   split at h
   ·rename_i hb
    obtain ⟨q,hq,h⟩:=ob_ex h
    obtain ⟨n,hn⟩:=evalOp_cont hc hq
    refine ⟨n,?_⟩
    unfold stepO
    rw [hg]
    simp only [hgv,ob_some]
    rw [hb,br_true,hn,ob_some]
    exact h
   ·rename_i b hb
    refine ⟨0,?_⟩
    unfold stepO
    rw [hg]
    simp only [hgv,ob_some]
    have : (b == want) = false:=by simpa using hb
    rw [this,br_false]
    exact h
  ·refine ⟨0,?_⟩
   unfold stepO
   rw [hg]
   simp only [hgv,ob_some]
   exact h
  .cases h
theorem runOps_le {Γ Γ' : Sig} (hl : Le Γ Γ') : ∀ {os : List VOper} {r r' : RS},runOps Γ os r = some r' -> runOps Γ' os r = some r'
 | [],_,_,h=>h
 | o :: os,r,r',h=>by
  rw [runOps_cons] at h ⊢
  obtain ⟨r1,h1,h⟩:=ob_ex h
  rw [stepO_le hl h1,ob_some]
  exact runOps_le hl h
theorem runOps_cont {N : Nat -> Sig} {Γ : Sig} (hc : Chain N Γ) : ∀ {os : List VOper} {r r' : RS},runOps Γ os r = some r' -> ∃ n,runOps (N n) os r = some r'
 | [],_,_,h=>⟨0,h⟩
 | o :: os,r,r',h=>by
  rw [runOps_cons] at h
  obtain ⟨r1,h1,h⟩:=ob_ex h
  obtain ⟨n,hn⟩:=stepO_cont hc h1
  obtain ⟨m,hm⟩:=runOps_cont hc h
  refine ⟨max n m,?_⟩
  rw [runOps_cons,stepO_le (hc.mono n _ (Nat.le_max_left ..)) hn,ob_some]
  exact runOps_le (hc.mono m _ (Nat.le_max_right ..)) hm
theorem gd_ex {α : Type} {c : Prop} [Decidable c] {x : Option α} {u : Tok x} {b : α} (h : gd c x u = some b) : c /\ x = some b:=by
 unfold gd at h
 split at h
 .exact ⟨by assumption,h⟩
 .cases h
theorem runFp_le {Γ Γ' : Sig} (hl : Le Γ Γ') {fp : List (Nat × Nat)} : ∀ {os : List VOper} {i : Nat} {r r' : RS} {acc : List (Nat × VOper × List Id)},runFp Γ fp i os r acc = some r' -> runFp Γ' fp i os r acc = some r'
 | [],_,_,_,_,h=>h
 | o :: os,i,r,r',acc,h=>by
  simp only [runFp] at h ⊢
  split
  ·rename_i hf
   rw [if_pos hf] at h
   obtain ⟨hch,h⟩:=gd_ex h
   obtain ⟨r1,h1,h⟩:=ob_ex h
   rw [gd_pos _ _ hch,stepO_le hl h1,ob_some]
   exact runFp_le hl h
  ·rename_i hf
   rw [if_neg hf] at h
   obtain ⟨r1,h1,h⟩:=ob_ex h
   rw [stepO_le hl h1,ob_some]
   exact runFp_le hl h
theorem runFp_cont {N : Nat -> Sig} {Γ : Sig} (hc : Chain N Γ) {fp : List (Nat × Nat)} : ∀ {os : List VOper} {i : Nat} {r r' : RS} {acc : List (Nat × VOper × List Id)},runFp Γ fp i os r acc = some r' -> ∃ n,runFp (N n) fp i os r acc = some r'
 | [],_,_,_,_,h=>⟨0,h⟩
 | o :: os,i,r,r',acc,h=>by
  simp only [runFp] at h
  split at h
  ·rename_i hf
   obtain ⟨hch,h⟩:=gd_ex h
   obtain ⟨r1,h1,h⟩:=ob_ex h
   obtain ⟨n,hn⟩:=stepO_cont hc h1
   obtain ⟨m,hm⟩:=runFp_cont hc h
   refine ⟨max n m,?_⟩
   simp only [runFp]
   rw [if_pos hf,gd_pos _ _ hch,stepO_le (hc.mono n _ (Nat.le_max_left ..)) hn,ob_some]
   exact runFp_le (hc.mono m _ (Nat.le_max_right ..)) hm
  ·rename_i hf
   obtain ⟨r1,h1,h⟩:=ob_ex h
   obtain ⟨n,hn⟩:=stepO_cont hc h1
   obtain ⟨m,hm⟩:=runFp_cont hc h
   refine ⟨max n m,?_⟩
   simp only [runFp]
   rw [if_neg hf,stepO_le (hc.mono n _ (Nat.le_max_left ..)) hn,ob_some]
   exact runFp_le (hc.mono m _ (Nat.le_max_right ..)) hm
theorem execR_le {Γ Γ' : Sig} (hl : Le Γ Γ') {vr : VRegion} {s s' : St} (h : execR Γ vr s = some s') : execR Γ' vr s = some s':=by
 unfold execR at h ⊢
 obtain ⟨q,hq,h⟩:=ob_ex h
 split at hq
 ·rename_i hf
  rw [if_pos hf,runOps_le hl hq,ob_some]
  exact h
 ·rename_i hf
  rw [if_neg hf,runFp_le hl hq,ob_some]
  exact h
theorem execR_cont {N : Nat -> Sig} {Γ : Sig} (hc : Chain N Γ) {vr : VRegion} {s s' : St} (h : execR Γ vr s = some s') : ∃ n,execR (N n) vr s = some s':=by
 unfold execR at h
 obtain ⟨q,hq,h⟩:=ob_ex h
 split at hq
 ·rename_i hf
  obtain ⟨n,hn⟩:=runOps_cont hc hq
  refine ⟨n,?_⟩
  unfold execR
  rw [if_pos hf,hn,ob_some]
  exact h
 ·rename_i hf
  obtain ⟨n,hn⟩:=runFp_cont hc hq
  refine ⟨n,?_⟩
  unfold execR
  rw [if_neg hf,hn,ob_some]
  exact h
theorem iter_ex {b : St -> Option (VExit × St)} {s : St} {r : VExit × St} (h : iter b s = some r) : ∃ n,iterN b n s = some r:=by
 unfold iter at h
 split at h
 ·rename_i hex
  have:=Classical.choose_spec (Classical.choose_spec hex)
  simp only [osi] at h
  rw [h] at this
  exact ⟨_,this⟩
 .cases h
theorem iterN_le {b b' : St -> Option (VExit × St)} (hb : ∀ s r,b s = some r -> b' s = some r) : ∀ {k : Nat} {s : St} {r : VExit × St},iterN b k s = some r -> iterN b' k s = some r
 | 0,_,_,h=>h
 | k + 1,s,r,h=>by
  simp only [iterN] at h ⊢
  obtain ⟨r1,h1,h⟩:=ob_ex h
  rw [hb _ _ h1,ob_some]
  obtain ⟨e1,s1⟩:=r1
  cases e1 with
  | normal=>exact iterN_le hb h
  | exit id=>exact h
  | ret=>exact h
theorem exec_le {Γ Γ' : Sig} (hl : Le Γ Γ') : ∀ (c : VCode) (s : St) (r : VExit × St),exec Γ c s = some r -> exec Γ' c s = some r
 | .skip,s,r,h=>by rw [exec_skip] at h ⊢; exact h
 | .region vr,s,r,h=>by
  rw [exec_region] at h ⊢
  obtain ⟨s1,h1,h⟩:=ob_ex h
  rw [execR_le hl h1,ob_some]
  exact h
 | .seq x y,s,r,h=>by
  rw [exec_seq] at h ⊢
  obtain ⟨⟨e1,s1⟩,h1,h⟩:=ob_ex h
  rw [exec_le hl x _ _ h1,ob_some]
  cases e1 with
  | normal=>rw [thenE_normal] at h ⊢; exact exec_le hl y _ _ h
  | exit id=>exact h
  | ret=>exact h
 | .cond t x y,s,r,h=>by
  cases t with
  | v t =>
   rw [exec_cond] at h ⊢
   split at h
   ·rename_i b hb
    cases b with
    | true=>rw [br_true] at h ⊢; exact exec_le hl x _ _ h
    | false=>rw [br_false] at h ⊢; exact exec_le hl y _ _ h
   .cases h
  | t t=>simp [exec] at h
  | c d=>simp [exec] at h
 | .block id x,s,r,h=>by
  rw [exec_block] at h ⊢
  obtain ⟨r1,h1,h⟩:=ob_ex h
  rw [exec_le hl x _ _ h1,ob_some]
  exact h
 | .loop x,s,r,h=>by
  rw [exec_loop] at h ⊢
  obtain ⟨k,hk⟩:=iter_ex h
  exact iter_of (iterN_le (fun s r=>exec_le hl x s r) hk)
 | .exit id,s,r,h=>by rw [exec_exit] at h ⊢; exact h
 | .ret,s,r,h=>by rw [exec_ret] at h ⊢; exact h
 | .mv a b x,s,r,h=>by rw [exec_mv] at h ⊢; exact exec_le hl x _ _ h
 | .scope x,s,r,h=>by rw [exec_scope] at h ⊢; exact exec_le hl x _ _ h
 | .fail,s,r,h=>by rw [exec_fail] at h; cases h
theorem exec_cont {N : Nat -> Sig} {Γ : Sig} (hc : Chain N Γ) : ∀ (c : VCode) (s : St) (r : VExit × St),exec Γ c s = some r -> ∃ n,exec (N n) c s = some r
 | .skip,s,r,h=>⟨0,by rw [exec_skip] at h ⊢; exact h⟩
 | .region vr,s,r,h=>by
  rw [exec_region] at h
  obtain ⟨s1,h1,h⟩:=ob_ex h
  obtain ⟨n,hn⟩:=execR_cont hc h1
  refine ⟨n,?_⟩
  rw [exec_region,hn,ob_some]
  exact h
 | .seq x y,s,r,h=>by
  rw [exec_seq] at h
  obtain ⟨⟨e1,s1⟩,h1,h⟩:=ob_ex h
  obtain ⟨n,hn⟩:=exec_cont hc x _ _ h1
  cases e1 with
  | normal =>
   rw [thenE_normal] at h
   obtain ⟨m,hm⟩:=exec_cont hc y _ _ h
   refine ⟨max n m,?_⟩
   rw [exec_seq,exec_le (hc.mono n _ (Nat.le_max_left ..)) x _ _ hn,ob_some,thenE_normal]
   exact exec_le (hc.mono m _ (Nat.le_max_right ..)) y _ _ hm
  | exit id=>exact ⟨n,by rw [exec_seq,hn,ob_some]; exact h⟩
  | ret=>exact ⟨n,by rw [exec_seq,hn,ob_some]; exact h⟩
 | .cond t x y,s,r,h=>by
  cases t with
  | v t =>
   rw [exec_cond] at h
   split at h
   ·rename_i b hb
    cases b with
    | true =>
     rw [br_true] at h
     obtain ⟨n,hn⟩:=exec_cont hc x _ _ h
     exact ⟨n,by rw [exec_cond,hb]; simp only [br_true]; exact hn⟩
    | false =>
     rw [br_false] at h
     obtain ⟨n,hn⟩:=exec_cont hc y _ _ h
     exact ⟨n,by rw [exec_cond,hb]; simp only [br_false]; exact hn⟩
   ·cases h
  | t t=>simp [exec] at h
  | c d=>simp [exec] at h
 | .block id x,s,r,h=>by
  rw [exec_block] at h
  obtain ⟨r1,h1,h⟩:=ob_ex h
  obtain ⟨n,hn⟩:=exec_cont hc x _ _ h1
  exact ⟨n,by rw [exec_block,hn,ob_some]; exact h⟩
 | .loop x,s,r,h=>by
  rw [exec_loop] at h
  obtain ⟨k,hk⟩:=iter_ex h
  have key : ∀ (k : Nat) (s : St),iterN (exec Γ x) k s = some r -> ∃ n,iterN (exec (N n) x) k s = some r:=by
   intro k
   induction k with
   | zero=>intro s h; simp [iterN] at h
   | succ k ih =>
    intro s h
    simp only [iterN] at h
    obtain ⟨⟨e1,s1⟩,h1,h⟩:=ob_ex h
    obtain ⟨n,hn⟩:=exec_cont hc x _ _ h1
    cases e1 with
    | normal =>
     obtain ⟨m,hm⟩:=ih s1 h
     refine ⟨max n m,?_⟩
     simp only [iterN]
     rw [exec_le (hc.mono n _ (Nat.le_max_left ..)) x _ _ hn,ob_some]
     exact iterN_le (fun s r=>exec_le (hc.mono m _ (Nat.le_max_right ..)) x s r) hm
    | exit id=>exact ⟨n,by simp only [iterN]; rw [hn,ob_some]; exact h⟩
    | ret=>exact ⟨n,by simp only [iterN]; rw [hn,ob_some]; exact h⟩
  obtain ⟨n,hn⟩:=key k s hk
  exact ⟨n,by rw [exec_loop]; exact iter_of hn⟩
 | .exit id,s,r,h=>⟨0,by rw [exec_exit] at h ⊢; exact h⟩
 | .ret,s,r,h=>⟨0,by rw [exec_ret] at h ⊢; exact h⟩
 | .mv a b x,s,r,h=>by
  rw [exec_mv] at h
  obtain ⟨n,hn⟩:=exec_cont hc x _ _ h
  exact ⟨n,by rw [exec_mv]; exact hn⟩
 | .scope x,s,r,h=>by
  rw [exec_scope] at h
  obtain ⟨n,hn⟩:=exec_cont hc x _ _ h
  exact ⟨n,by rw [exec_scope]; exact hn⟩
 | .fail,s,r,h=>by rw [exec_fail] at h; cases h
theorem callF_le {Γ Γ' : Sig} (hl : Le Γ Γ') {vf : VFunc} {args : List VVal} {H : List Ob} {r : VVal × List Ob} (h : callF Γ vf args H = some r) : callF Γ' vf args H = some r:=by
 unfold callF at h ⊢
 obtain ⟨hn,h⟩:=gd_ex h
 obtain ⟨r1,h1,h⟩:=ob_ex h
 rw [gd_pos _ _ hn,exec_le hl _ _ _ h1,ob_some]
 exact h
theorem callF_cont {N : Nat -> Sig} {Γ : Sig} (hc : Chain N Γ) {vf : VFunc} {args : List VVal} {H : List Ob} {r : VVal × List Ob} (h : callF Γ vf args H = some r) : ∃ n,callF (N n) vf args H = some r:=by
 unfold callF at h
 obtain ⟨hn,h⟩:=gd_ex h
 obtain ⟨r1,h1,h⟩:=ob_ex h
 obtain ⟨n,h2⟩:=exec_cont hc _ _ _ h1
 refine ⟨n,?_⟩
 unfold callF
 rw [gd_pos _ _ hn,h2,ob_some]
 exact h
section
variable {prog : FuncId -> Option VFunc} {X : Sig}
theorem callN_le : ∀ n,Le (callN prog X n) (callN prog X (n + 1))
 | 0=>fun f args H r h=>by
  simp only [callN] at h ⊢
  rw [h]
 | n + 1=>fun f args H r h=>by
  have h' : (match X f args H with
   | some r=>some r
   | none=>match prog f with
    | some vf=>callF (callN prog X n) vf args H
    | none=>none) = some r:=h
  show (match X f args H with
   | some r=>some r
   | none=>match prog f with
    | some vf=>callF (callN prog X (n + 1)) vf args H
    | none=>none) = some r
  cases hx : X f args H with
  | some r' =>
   rw [hx] at h'
   exact h'
  | none =>
   rw [hx] at h'
   cases hp : prog f with
   | none=>rw [hp] at h'; cases h'
   | some vf =>
    rw [hp] at h'
    exact callF_le (callN_le n) h'
theorem callN_mono (n m : Nat) (h : n <= m) : Le (callN prog X n) (callN prog X m):=by
 induction m with
 | zero =>
  have : n = 0:=by omega
  subst this
  exact fun _ _ _ _ h=>h
 | succ m ih =>
  rcases Nat.lt_or_ge m n with h1 | h1
  ·have : n = m + 1:=by omega
   subst this
   exact fun _ _ _ _ h=>h
  .exact fun f args H r hr=>callN_le m f args H r (ih h1 f args H r hr)
theorem vcall_of {n : Nat} {f : FuncId} {args : List VVal} {H : List Ob} {r : VVal × List Ob} (h : callN prog X n f args H = some r) : vcall prog X f args H = some r:=by
 unfold vcall
 have hex : ∃ n r,callN prog X n f args H = some r:=⟨n,r,h⟩
 rw [dif_pos hex]
 have h1:=Classical.choose_spec (Classical.choose_spec hex)
 have h2:=callN_mono _ (max n (Classical.choose hex)) (Nat.le_max_right ..) _ _ _ _ h1
 have h3:=callN_mono _ (max n (Classical.choose hex)) (Nat.le_max_left ..) _ _ _ _ h
 rw [h3] at h2
 exact h2.symm
theorem vcall_chain : Chain (callN prog X) (vcall prog X) where
 mono:=callN_mono
 lim:=fun f args H r h=>by
  unfold vcall at h
  split at h
  ·rename_i hex
   have:=Classical.choose_spec (Classical.choose_spec hex)
   simp only [osi] at h
   rw [h] at this
   exact ⟨_,this⟩
  .cases h
theorem vcall_fix {f : FuncId} {vf : VFunc} (hx : ∀ args H,X f args H = none) (hf : prog f = some vf) {args : List VVal} {H : List Ob} {r : VVal × List Ob} (h : callF (vcall prog X) vf args H = some r) : vcall prog X f args H = some r:=by
 obtain ⟨n,hn⟩:=callF_cont vcall_chain h
 refine vcall_of (n:=n + 1) ?_
 simp only [callN,hx,hf]
 exact hn
end
def unI : PV -> Option Int
 | .int .i64 n=>some n
 | _=>none
theorem unI_eq {x : PV} {n : Int} (h : unI x = some n) : x = .int .i64 n:=by
 unfold unI at h
 split at h
 .simp at h; rw [h]
 .cases h
noncomputable def XI (args : List VVal) (H : List Ob) : Option (VVal × List Ob):=match args,H with
 | [.own (.arg 0 0) 0 0 n],[.arr 1 xs]=>gd (n = xs.length) <| gd (n < 4611686018427387904) <| ob (mapO unI xs) fun zs=>some (.tup [],[.arr 1 ((zs.mergeSort fun x y=>decide (x <= y)).map (.int .i64))])
 | _,_=>none
def XClone (sz bytes : Nat) (args : List VVal) (H : List Ob) : Option (VVal × List Ob):=match args,H with
 | [.p (.slice k xs)],[]=>gd (k = sz) <| gd (xs.length * bytes <= 140737488355328) <| gd (xs.length <= 9223372036854775807) <| some (.fresh sz xs,[])
 | _,_=>none
def XDel (sz : Nat) (args : List VVal) (H : List Ob) : Option (VVal × List Ob):=match args,H with
 | [.own (.arg 0 0) 0 0 n,.p (.int .i64 i),.p (.int .i64 j)],[.arr k xs]=>gd (k = sz) <| gd (n = xs.length) <| gd (n <= 9223372036854775807) <| gd (0 <= i) <| gd (i <= j) <| gd (j <= (n : Int)) <|
   some (.own (.arg 0 0) 1 0 (n - (j.toNat - i.toNat)),[.box [.undef,.fresh sz (xs.take i.toNat ++ xs.drop j.toNat)]])
 | _,_=>none
def XIns (sz bytes : Nat) (args : List VVal) (H : List Ob) : Option (VVal × List Ob):=match args,H with
 | [.own (.arg 0 0) 0 0 n,.p (.int .i64 i),.own (.arg 1 0) 0 0 1],[.arr k xs,.arr k' [x]]=>gd (k = sz) <| gd (k' = sz) <| gd (n = xs.length) <| gd ((n + 1) * bytes <= 140737488355328) <| gd (0 <= i) <| gd (i <= (n : Int)) <|
   some (.own (.arg 0 0) 1 0 (n + 1),[.box [.undef,.fresh sz (xs.take i.toNat ++ x :: xs.drop i.toNat)],.arr sz [x]])
 | _,_=>none
def XOne (sz : Nat) (args : List VVal) (H : List Ob) : Option (VVal × List Ob):=match args,H with
 | [.own (.arg 0 0) 0 0 1,.p (.fn _)],[.arr k [x]]=>gd (k = sz) (some (.tup [],[.arr sz [x]]))
 | _,_=>none
noncomputable def XS : Sig:=fun f args H=>if f = 120 then XI args H else if f = 103 then XClone 2 16 args H else if f = 104 then XClone 21 168 args H else if f = 105 then XClone 3 24 args H else if f = 106 then XClone 2 16 args H else if f = 107 then XClone 6 48 args H else if f = 108 then XClone 7 56 args H else if f = 128 then XDel 6 args H else if f = 116 then XDel 7 args H else if f = 129 then XIns 7 56 args H else if f = 160 then XDel 21 args H else if f = 157 then XOne 2 args H else if f = 162 then XOne 21 args H else if f = 166 then XOne 3 args H else none
noncomputable abbrev V : Sig:=vcall prog XS
set_option maxHeartbeats 20000000 in
theorem XS_none {f : FuncId} {vf : VFunc} (hf : prog f = some vf) (args : List VVal) (H : List Ob) : XS f args H = none:=by
 unfold XS
 have h0 : ¬ f = 120:=fun e=>by
  subst e
  exact absurd hf (by simp [prog])
 have h1 : ¬ f = 103:=fun e=>by
  subst e
  exact absurd hf (by simp [prog])
 have h2 : ¬ f = 104:=fun e=>by
  subst e
  exact absurd hf (by simp [prog])
 have h3 : ¬ f = 105:=fun e=>by
  subst e
  exact absurd hf (by simp [prog])
 have h4 : ¬ f = 106:=fun e=>by
  subst e
  exact absurd hf (by simp [prog])
 have h5 : ¬ f = 107:=fun e=>by
  subst e
  exact absurd hf (by simp [prog])
 have h6 : ¬ f = 108:=fun e=>by
  subst e
  exact absurd hf (by simp [prog])
 have h7 : ¬ f = 128:=fun e=>by
  subst e
  exact absurd hf (by simp [prog])
 have h8 : ¬ f = 116:=fun e=>by
  subst e
  exact absurd hf (by simp [prog])
 have h9 : ¬ f = 129:=fun e=>by
  subst e
  exact absurd hf (by simp [prog])
 have h10 : ¬ f = 160:=fun e=>by
  subst e
  exact absurd hf (by simp [prog])
 have h11 : ¬ f = 157:=fun e=>by
  subst e
  exact absurd hf (by simp [prog])
 have h12 : ¬ f = 162:=fun e=>by
  subst e
  exact absurd hf (by simp [prog])
 have h13 : ¬ f = 166:=fun e=>by
  subst e
  exact absurd hf (by simp [prog])
 rw [if_neg h0,if_neg h1,if_neg h2,if_neg h3,if_neg h4,if_neg h5,if_neg h6,if_neg h7,if_neg h8,if_neg h9,if_neg h10,if_neg h11,if_neg h12,if_neg h13]
theorem V_fix {f : FuncId} {vf : VFunc} (hf : prog f = some vf) {args : List VVal} {H : List Ob} {r : VVal × List Ob} (h : callF V vf args H = some r) : V f args H = some r:=vcall_fix (XS_none hf) hf h
theorem V_wp {f : FuncId} {vf : VFunc} (hf : prog f = some vf) {args : List VVal} {H : List Ob} {r : VVal × List Ob} (h : wp (callF V vf args H) (· = r)) : V f args H = some r:=V_fix hf (eq_of_wp h)
theorem V_x {f : FuncId} {args : List VVal} {H : List Ob} {r : VVal × List Ob} (h : XS f args H = some r) : V f args H = some r:=vcall_of (n:=0) h
theorem cloneW_x {xs : List PV} (hn : xs.length < 1000000) : V 103 [.p (.slice 2 xs)] [] = some (.fresh 2 xs,[]):=V_x (by
 have e0 : (103 : Nat) ≠ 120:=by decide
 simp only [XS,if_neg e0,if_true,XClone,gd,true_and]
 rw [if_pos (by omega),if_pos (by omega)])
theorem cloneC_x {xs : List PV} (hn : xs.length < 1000000) : V 104 [.p (.slice 21 xs)] [] = some (.fresh 21 xs,[]):=V_x (by
 have e0 : (104 : Nat) ≠ 120:=by decide
 have e1 : (104 : Nat) ≠ 103:=by decide
 simp only [XS,if_neg e0,if_neg e1,if_true,XClone,gd,true_and]
 rw [if_pos (by omega),if_pos (by omega)])
theorem cloneD_x {xs : List PV} (hn : xs.length < 1000000) : V 105 [.p (.slice 3 xs)] [] = some (.fresh 3 xs,[]):=V_x (by
 have e0 : (105 : Nat) ≠ 120:=by decide
 have e1 : (105 : Nat) ≠ 103:=by decide
 have e2 : (105 : Nat) ≠ 104:=by decide
 simp only [XS,if_neg e0,if_neg e1,if_neg e2,if_true,XClone,gd,true_and]
 rw [if_pos (by omega),if_pos (by omega)])
theorem cloneA_x {xs : List PV} (hn : xs.length < 1000000) : V 106 [.p (.slice 2 xs)] [] = some (.fresh 2 xs,[]):=V_x (by
 have e0 : (106 : Nat) ≠ 120:=by decide
 have e1 : (106 : Nat) ≠ 103:=by decide
 have e2 : (106 : Nat) ≠ 104:=by decide
 have e3 : (106 : Nat) ≠ 105:=by decide
 simp only [XS,if_neg e0,if_neg e1,if_neg e2,if_neg e3,if_true,XClone,gd,true_and]
 rw [if_pos (by omega),if_pos (by omega)])
theorem cloneQ_x {xs : List PV} (hn : xs.length < 1000000) : V 107 [.p (.slice 6 xs)] [] = some (.fresh 6 xs,[]):=V_x (by
 have e0 : (107 : Nat) ≠ 120:=by decide
 have e1 : (107 : Nat) ≠ 103:=by decide
 have e2 : (107 : Nat) ≠ 104:=by decide
 have e3 : (107 : Nat) ≠ 105:=by decide
 have e4 : (107 : Nat) ≠ 106:=by decide
 simp only [XS,if_neg e0,if_neg e1,if_neg e2,if_neg e3,if_neg e4,if_true,XClone,gd,true_and]
 rw [if_pos (by omega),if_pos (by omega)])
theorem cloneF_x {xs : List PV} (hn : xs.length < 1000000) : V 108 [.p (.slice 7 xs)] [] = some (.fresh 7 xs,[]):=V_x (by
 have e0 : (108 : Nat) ≠ 120:=by decide
 have e1 : (108 : Nat) ≠ 103:=by decide
 have e2 : (108 : Nat) ≠ 104:=by decide
 have e3 : (108 : Nat) ≠ 105:=by decide
 have e4 : (108 : Nat) ≠ 106:=by decide
 have e5 : (108 : Nat) ≠ 107:=by decide
 simp only [XS,if_neg e0,if_neg e1,if_neg e2,if_neg e3,if_neg e4,if_neg e5,if_true,XClone,gd,true_and]
 rw [if_pos (by omega),if_pos (by omega)])
theorem delQ_x {xs : List PV} {i j : Int} (hn : xs.length < 1000000) (h0 : 0 <= i) (h1 : i <= j) (h2 : j <= xs.length) : V 128 [.own (.arg 0 0) 0 0 xs.length,.p (.int .i64 i),.p (.int .i64 j)] [.arr 6 xs] = some (.own (.arg 0 0) 1 0 (xs.length - (j.toNat - i.toNat)),[.box [.undef,.fresh 6 (xs.take i.toNat ++ xs.drop j.toNat)]]):=V_x (by
 have e0 : (128 : Nat) ≠ 120:=by decide
 have e1 : (128 : Nat) ≠ 103:=by decide
 have e2 : (128 : Nat) ≠ 104:=by decide
 have e3 : (128 : Nat) ≠ 105:=by decide
 have e4 : (128 : Nat) ≠ 106:=by decide
 have e5 : (128 : Nat) ≠ 107:=by decide
 have e6 : (128 : Nat) ≠ 108:=by decide
 simp only [XS,if_neg e0,if_neg e1,if_neg e2,if_neg e3,if_neg e4,if_neg e5,if_neg e6,if_true,XDel,gd,true_and]
 rw [if_pos (by omega),if_pos h0,if_pos h1,if_pos h2])
theorem delF_x {xs : List PV} {i j : Int} (hn : xs.length < 1000000) (h0 : 0 <= i) (h1 : i <= j) (h2 : j <= xs.length) : V 116 [.own (.arg 0 0) 0 0 xs.length,.p (.int .i64 i),.p (.int .i64 j)] [.arr 7 xs] = some (.own (.arg 0 0) 1 0 (xs.length - (j.toNat - i.toNat)),[.box [.undef,.fresh 7 (xs.take i.toNat ++ xs.drop j.toNat)]]):=V_x (by
 have e0 : (116 : Nat) ≠ 120:=by decide
 have e1 : (116 : Nat) ≠ 103:=by decide
 have e2 : (116 : Nat) ≠ 104:=by decide
 have e3 : (116 : Nat) ≠ 105:=by decide
 have e4 : (116 : Nat) ≠ 106:=by decide
 have e5 : (116 : Nat) ≠ 107:=by decide
 have e6 : (116 : Nat) ≠ 108:=by decide
 have e7 : (116 : Nat) ≠ 128:=by decide
 simp only [XS,if_neg e0,if_neg e1,if_neg e2,if_neg e3,if_neg e4,if_neg e5,if_neg e6,if_neg e7,if_true,XDel,gd,true_and]
 rw [if_pos (by omega),if_pos h0,if_pos h1,if_pos h2])
theorem oneW_x {x : PV} {g : Nat} : V 157 [.own (.arg 0 0) 0 0 1,.p (.fn g)] [.arr 2 [x]] = some (.tup [],[.arr 2 [x]]):=V_x (by
 have e0 : (157 : Nat) ≠ 120:=by decide
 have e1 : (157 : Nat) ≠ 103:=by decide
 have e2 : (157 : Nat) ≠ 104:=by decide
 have e3 : (157 : Nat) ≠ 105:=by decide
 have e4 : (157 : Nat) ≠ 106:=by decide
 have e5 : (157 : Nat) ≠ 107:=by decide
 have e6 : (157 : Nat) ≠ 108:=by decide
 have e7 : (157 : Nat) ≠ 128:=by decide
 have e8 : (157 : Nat) ≠ 116:=by decide
 have e9 : (157 : Nat) ≠ 129:=by decide
 have e10 : (157 : Nat) ≠ 160:=by decide
 simp only [XS,if_neg e0,if_neg e1,if_neg e2,if_neg e3,if_neg e4,if_neg e5,if_neg e6,if_neg e7,if_neg e8,if_neg e9,if_neg e10,if_true,XOne,gd])
theorem oneC_x {x : PV} {g : Nat} : V 162 [.own (.arg 0 0) 0 0 1,.p (.fn g)] [.arr 21 [x]] = some (.tup [],[.arr 21 [x]]):=V_x (by
 have e0 : (162 : Nat) ≠ 120:=by decide
 have e1 : (162 : Nat) ≠ 103:=by decide
 have e2 : (162 : Nat) ≠ 104:=by decide
 have e3 : (162 : Nat) ≠ 105:=by decide
 have e4 : (162 : Nat) ≠ 106:=by decide
 have e5 : (162 : Nat) ≠ 107:=by decide
 have e6 : (162 : Nat) ≠ 108:=by decide
 have e7 : (162 : Nat) ≠ 128:=by decide
 have e8 : (162 : Nat) ≠ 116:=by decide
 have e9 : (162 : Nat) ≠ 129:=by decide
 have e10 : (162 : Nat) ≠ 160:=by decide
 have e11 : (162 : Nat) ≠ 157:=by decide
 simp only [XS,if_neg e0,if_neg e1,if_neg e2,if_neg e3,if_neg e4,if_neg e5,if_neg e6,if_neg e7,if_neg e8,if_neg e9,if_neg e10,if_neg e11,if_true,XOne,gd])
theorem oneD_x {x : PV} {g : Nat} : V 166 [.own (.arg 0 0) 0 0 1,.p (.fn g)] [.arr 3 [x]] = some (.tup [],[.arr 3 [x]]):=V_x (by
 have e0 : (166 : Nat) ≠ 120:=by decide
 have e1 : (166 : Nat) ≠ 103:=by decide
 have e2 : (166 : Nat) ≠ 104:=by decide
 have e3 : (166 : Nat) ≠ 105:=by decide
 have e4 : (166 : Nat) ≠ 106:=by decide
 have e5 : (166 : Nat) ≠ 107:=by decide
 have e6 : (166 : Nat) ≠ 108:=by decide
 have e7 : (166 : Nat) ≠ 128:=by decide
 have e8 : (166 : Nat) ≠ 116:=by decide
 have e9 : (166 : Nat) ≠ 129:=by decide
 have e10 : (166 : Nat) ≠ 160:=by decide
 have e11 : (166 : Nat) ≠ 157:=by decide
 have e12 : (166 : Nat) ≠ 162:=by decide
 simp only [XS,if_neg e0,if_neg e1,if_neg e2,if_neg e3,if_neg e4,if_neg e5,if_neg e6,if_neg e7,if_neg e8,if_neg e9,if_neg e10,if_neg e11,if_neg e12,if_true,XOne,gd])
theorem insF_x {xs : List PV} {x : PV} {i : Int} (hn : xs.length < 1000000) (h0 : 0 <= i) (h1 : i <= xs.length) : V 129 [.own (.arg 0 0) 0 0 xs.length,.p (.int .i64 i),.own (.arg 1 0) 0 0 1] [.arr 7 xs,.arr 7 [x]] = some (.own (.arg 0 0) 1 0 (xs.length + 1),[.box [.undef,.fresh 7 (xs.take i.toNat ++ x :: xs.drop i.toNat)],.arr 7 [x]]):=V_x (by
 have e0 : (129 : Nat) ≠ 120:=by decide
 have e1 : (129 : Nat) ≠ 103:=by decide
 have e2 : (129 : Nat) ≠ 104:=by decide
 have e3 : (129 : Nat) ≠ 105:=by decide
 have e4 : (129 : Nat) ≠ 106:=by decide
 have e5 : (129 : Nat) ≠ 107:=by decide
 have e6 : (129 : Nat) ≠ 108:=by decide
 have e7 : (129 : Nat) ≠ 128:=by decide
 have e8 : (129 : Nat) ≠ 116:=by decide
 simp only [XS,if_neg e0,if_neg e1,if_neg e2,if_neg e3,if_neg e4,if_neg e5,if_neg e6,if_neg e7,if_neg e8,if_true,XIns,gd,true_and]
 rw [if_pos (by omega),if_pos h0,if_pos h1])
structure Nd where
 id : Int
 parent : Int
 name : ByteArray
 control : Int
 kind : Int
 owner : Int
 deriving DecidableEq
def Nd.pv (n : Nd) : PV:=.agg [.int .i64 n.id,.int .i64 n.parent,.str n.name,.int .i64 n.control,.int .i64 n.kind,.int .i64 n.owner]
def Nd.vv (n : Nd) : VVal:=.agg [.p (.int .i64 n.id),.p (.int .i64 n.parent),.p (.str n.name),.p (.int .i64 n.control),.p (.int .i64 n.kind),.p (.int .i64 n.owner)]
abbrev nodesP (ns : List Nd) : PV:=.slice 6 (ns.map Nd.pv)
structure Tr where
 nodes : List Nd
 next : Int
abbrev Tr.vv (t : Tr) : VVal:=.agg [.p (nodesP t.nodes),.p (.int .i64 t.next)]
abbrev Tr.fv (t : Tr) : VVal:=.agg [.fresh 6 (t.nodes.map Nd.pv),.p (.int .i64 t.next)]
abbrev intsP (xs : List Int) : PV:=.slice 1 (xs.map (.int .i64))
attribute [go_sem] Nd.pv solid
theorem nodes_flat (ns : List Nd) : (ns.map Nd.pv).all PV.flat = true:=by
 rw [List.all_eq_true]
 intro x hx
 obtain ⟨n,_,rfl⟩:=lmm.1 hx
 rfl
theorem ints_flat (k : IntKind) (xs : List Int) : (xs.map (PV.int k)).all PV.flat = true:=by
 rw [List.all_eq_true]
 intro x hx
 obtain ⟨n,_,rfl⟩:=lmm.1 hx
 rfl
attribute [go_sem] nodes_flat ints_flat
theorem light_eq (xs : List PV) : V 10 [.p (.slice 1 xs)] [] = some (.p (.bool (decide (xs.length <= 600))),[]):=by
 refine V_fix (vf:=vf10) rfl ?_
 simp -implicitDefEqProofs (disch:=omega) only [vf10,vb10,go_sem,↓reduceIte,rA,rS,rE,rL,reduceCtorEq]
 simp only [show (600 : Int) = ((600 : Nat) : Int) from rfl,Int.ofNat_le]
abbrev diceB (L : List Int) (a : Nat) : Ob:=.box [.p (intsP L),.p (.int .i64 a)]
theorem roll_eq (L : List Int) : V 12 [.p (intsP L)] [] = some (.boxed [.p (intsP L),.p (.int .i64 0)],[]):=by
 refine V_fix (vf:=vf12) rfl ?_
 simp -implicitDefEqProofs (disch:=omega) only [vf12,vb12,go_sem,↓reduceIte,rA,rS,rE,rL,reduceCtorEq]
def nextV (L : List Int) (a : Nat) (n : Int) : Int:=if 1 <= n then (L.getD a 0) % n else 0
def nextA (L : List Int) (a : Nat) (n : Int) : Nat:=if a < L.length /\ 1 <= n then a + 1 else a
theorem emod_tmod {x n : Int} (h : 1 <= n) : x % n = if x.tmod n < 0 then x.tmod n + n else x.tmod n:=by
 have h3:=Int.emod_nonneg x (show n ≠ 0 by omega)
 have h4:=Int.emod_lt_of_pos x (show 0 < n by omega)
 have h5:=Int.tmod_eq_emod (a:=x) (b:=n)
 rw [h5]
 split <;> split <;> omega
theorem next_eq (L : List Int) (a : Nat) (n : Int) (hL : L.length < 4611686018427387904) (hn : n < 4611686018427387904) : V 16 [.ptr (.arg 0 0) 0 0,.p (.int .i64 n)] [diceB L a] = some (.p (.int .i64 (nextV L a n)),[diceB L (nextA L a n)]):=by
 refine V_wp (vf:=vf16) rfl ?_
 by_cases ha : L.length <= a
 ·simp -implicitDefEqProofs (disch:=omega) only [vf16,vb16,ha,go_sem,↓reduceIte,rA,rS,rE,rL,reduceCtorEq]
  simp [nextV,nextA,List.getD_eq_getElem?_getD,List.getElem?_eq_none ha,Nat.not_lt.2 ha]
 ·have hx : L[a]? = some (L.getD a 0):=by
   rw [List.getD_eq_getElem?_getD,lgg (by omega)]; rfl
  have ht : (((a : Int) + 1 - 1).toNat) = a:=by omega
  simp -implicitDefEqProofs (disch:=omega) only [vf16,vb16,ha,go_sem,↓reduceIte,rA,rS,rE,rL,reduceCtorEq]
  repeat' ((first | refine wp_grn_d (fun hb=>?_) (fun hb=>?_) | refine wp_gtn_d (fun hb=>?_) (fun hb=>?_) | refine wp_gr_d (fun hb=>?_) (fun hb=>?_) | refine wp_gt_d (fun hb=>?_) (fun hb=>?_) | refine wp_gr (fun hb=>?_) (fun hb=>?_) | refine wp_gt (fun hb=>?_) (fun hb=>?_) | refine wp_nt_d (fun hb=>?_) (fun hb=>?_) | refine wp_nt (fun hb=>?_) (fun hb=>?_) | refine wp_if_d (fun hb=>?_) (fun hb=>?_) | refine wp_if (fun hb=>?_) (fun hb=>?_)) <;> simp -implicitDefEqProofs (disch:=omega) only [hb,hx,ht,go_sem,↓reduceIte,rA,rS,rE,rL,reduceCtorEq])
  ·simp [nextV,nextA,show ¬ 1 <= n by omega]
  ·have:=emod_tmod (x:=L.getD a 0) (n:=n) (by omega)
   rw [if_pos (by assumption)] at this
   have h1:=Int.tmod_lt_of_pos (L.getD a 0) (show 0 < n by omega)
   have h2:=Int.emod_nonneg (L.getD a 0) (show n ≠ 0 by omega)
   rw [wrap64 (by omega) (by omega),<- this]
   simp only [nextV,nextA,show 1 <= n by omega,show a < L.length by omega,and_self,if_true,diceB,Int.natCast_add,Int.natCast_one]
  ·have:=emod_tmod (x:=L.getD a 0) (n:=n) (by omega)
   rw [if_neg (by assumption)] at this
   rw [<- this]
   simp only [nextV,nextA,show 1 <= n by omega,show a < L.length by omega,and_self,if_true,diceB,Int.natCast_add,Int.natCast_one]
theorem nextV_nonneg (L : List Int) (a : Nat) (n : Int) : 0 <= nextV L a n:=by
 unfold nextV
 split
 .exact Int.emod_nonneg _ (by omega)
 .omega
theorem nextV_lt (L : List Int) (a : Nat) {n : Int} (h : 1 <= n) : nextV L a n < n:=by
 unfold nextV
 rw [if_pos h]
 exact Int.emod_lt_of_pos _ (by omega)
theorem take_snoc {α : Type} {l : List α} {k : Nat} {x : α} (h : l[k]? = some x) : l.take (k + 1) = l.take k ++ [x]:=by
 rw [List.take_add_one,h]
 rfl
theorem take_map_self {α β : Type} (f : α -> β) (l : List α) : List.take l.length (l.map f) = l.map f:=by
 rw [ltl (by simp)]
theorem take_map_snoc {α β : Type} (f : α -> β) (l : List α) (x : β) : List.take (l.length + 1) (l.map f ++ [x]) = l.map f ++ [x]:=by
 rw [ltl (by simp)]
attribute [go_sem] take_map_self take_map_snoc
def upR : List Nd -> Int -> List Int
 | [],_=>[]
 | n :: ns,id=>if n.id = id then id :: upR ns n.parent else upR ns id
def up (ns : List Nd) (id : Int) : List Int:=upR ns.reverse id
theorem upR_length : ∀ (ns : List Nd) (id : Int),(upR ns id).length <= ns.length
 | [],_=>lrf _
 | n :: ns,id=>by
  unfold upR
  split
  .have:=upR_length ns n.parent; simp; omega
  .have:=upR_length ns id; simp; omega
theorem up_eq (t : Tr) (id : Int) (hl : t.nodes.length < 1000000) : V 140 [t.vv,.p (.int .i64 id)] [] = some (.fresh 1 ((up t.nodes id).map (.int .i64)),[]):=by
 refine V_wp (vf:=vf140) rfl ?_
 simp -implicitDefEqProofs (disch:=omega) only [vf140,vb140,go_sem,↓reduceIte,rA,rS,rE,rL,reduceCtorEq]
 refine wp_count t.nodes.length (fun k s=>∃ (acc : List Int) (cur : Int) (v : Nat),up t.nodes id = acc ++ upR (t.nodes.reverse.drop k) cur /\ acc.length <= k /\ s.pe 1 = .p (.int .i64 cur) /\ s.pe 2 = .ptr (.slot 2 0) 0 0 /\ s.pe 5 = .own (.slot 5 0) v 0 acc.length /\ s.pe 6 = .p (.int .i64 ((t.nodes.length : Int) - 1 - k)) /\ s.h (.slot 2 0) = some (0,.box [.p (nodesP t.nodes),.p (.int .i64 t.next)]) /\ s.h (.slot 5 0) = some (v,.arr 1 (acc.map (.int .i64)))) ?_ ?_
 ·exact ⟨[],id,0,by simp [up,enterE,updV,VHeap.upd,enterH,List.getD]⟩
 ·rintro k s hk ⟨acc,cur,v,hup,hlen,h1,h2,h5,h6,hh2,hh5⟩
  simp -implicitDefEqProofs (disch:=omega) only [h1,h2,h5,h6,hh2,hh5,go_sem,↓reduceIte,rA,rS,rE,rL,reduceCtorEq]
  refine wp_if_d (fun hge=>?_) (fun hlt=>?_)
  ·have hk' : k < t.nodes.length:=by omega
   have hn : t.nodes[((t.nodes.length : Int) - 1 - k).toNat]? = some t.nodes[t.nodes.length - 1 - k]:=by
    rw [show ((t.nodes.length : Int) - 1 - k).toNat = t.nodes.length - 1 - k by omega]
    exact lgg (by omega)
   have hd : t.nodes.reverse.drop k = t.nodes[t.nodes.length - 1 - k] :: t.nodes.reverse.drop (k + 1):=by
    rw [ldg (by simpa using hk')]
    simp
   generalize t.nodes[t.nodes.length - 1 - k] = n at hn hd
   rw [hd] at hup
   simp -implicitDefEqProofs (disch:=omega) only [h1,h2,h5,h6,hh2,hh5,hn,hge,go_sem,↓reduceIte,rA,rS,rE,rL,reduceCtorEq]
   repeat' ((first | refine wp_grn_d (fun hb=>?_) (fun hb=>?_) | refine wp_gtn_d (fun hb=>?_) (fun hb=>?_) | refine wp_gr_d (fun hb=>?_) (fun hb=>?_) | refine wp_gt_d (fun hb=>?_) (fun hb=>?_) | refine wp_gr (fun hb=>?_) (fun hb=>?_) | refine wp_gt (fun hb=>?_) (fun hb=>?_) | refine wp_nt_d (fun hb=>?_) (fun hb=>?_) | refine wp_nt (fun hb=>?_) (fun hb=>?_) | refine wp_if_d (fun hb=>?_) (fun hb=>?_) | refine wp_if (fun hb=>?_) (fun hb=>?_)) <;> simp -implicitDefEqProofs (disch:=omega) only [hb,h1,h2,h5,h6,hh2,hh5,hn,hge,go_sem,↓reduceIte,rA,rS,rE,rL,reduceCtorEq])
   ·rw [upR,if_pos (by assumption)] at hup
    refine ⟨hk',acc ++ [cur],n.parent,v + 1,by rw [hup]; simp,by simp; omega,rfl,by simp,by congr 2; omega,by simp⟩
   ·rw [upR,if_neg (by assumption)] at hup
    exact ⟨hk',acc,cur,v,hup,by omega,rfl,rfl,by congr 2; omega,rfl⟩
  ·have hd : t.nodes.reverse.drop k = []:=ldl (by simp; omega)
   rw [hd,upR,lan] at hup
   simp -implicitDefEqProofs (disch:=omega) only [h1,h2,h5,h6,hh2,hh5,hup,go_sem,↓reduceIte,rA,rS,rE,rL,reduceCtorEq]
def innerB (c : Int) : Bool:=decide (97 <= c /\ c <= 122) || decide (65 <= c /\ c <= 90) || decide (48 <= c /\ c <= 57) || decide (c = 95) || decide (c = 45)
def validN (s : ByteArray) : Bool:=decide (s.size ≠ 0) && decide (s.size <= 32) && decide (s.data.toList[0]? ≠ some 45) && s.data.toList.all fun b=>innerB b.toNat
theorem innerB_true {c : Int} (h : (97 <= c /\ c <= 122) \/ (65 <= c /\ c <= 90) \/ (48 <= c /\ c <= 57) \/ c = 95 \/ c = 45) : innerB c = true:=by
 simp only [innerB,bot,decide_eq_true_eq]
 omega
theorem innerB_false {c : Int} (h : ¬ ((97 <= c /\ c <= 122) \/ (65 <= c /\ c <= 90) \/ (48 <= c /\ c <= 57) \/ c = 95 \/ c = 45)) : innerB c = false:=by
 rw [Bool.eq_false_iff]
 intro h1
 simp only [innerB,bot,decide_eq_true_eq] at h1
 omega
theorem inner_eq (c : Int) : V 233 [.p (.int .u8 c)] [] = some (.p (.bool (innerB c)),[]):=by
 refine V_wp (vf:=vf233) rfl ?_
 simp -implicitDefEqProofs (disch:=omega) only [vf233,vb233,go_sem,↓reduceIte,rA,rS,rE,rL,reduceCtorEq]
 repeat' ((first | refine wp_grn_d (fun hb=>?_) (fun hb=>?_) | refine wp_gtn_d (fun hb=>?_) (fun hb=>?_) | refine wp_gr_d (fun hb=>?_) (fun hb=>?_) | refine wp_gt_d (fun hb=>?_) (fun hb=>?_) | refine wp_gr (fun hb=>?_) (fun hb=>?_) | refine wp_gt (fun hb=>?_) (fun hb=>?_) | refine wp_nt_d (fun hb=>?_) (fun hb=>?_) | refine wp_nt (fun hb=>?_) (fun hb=>?_) | refine wp_if_d (fun hb=>?_) (fun hb=>?_) | refine wp_if (fun hb=>?_) (fun hb=>?_)) <;> simp -implicitDefEqProofs (disch:=omega) only [hb,go_sem,↓reduceIte,rA,rS,rE,rL,reduceCtorEq])
 all_goals
  simp only [innerB,pmi,VVal.p.injEq,PV.bool.injEq,and_true]
  rw [Bool.eq_iff_iff]
  simp only [bot,decide_eq_true_eq,true_iff,bft,false_iff]
  first | omega | simp
theorem size_list (s : ByteArray) : s.size = s.data.toList.length:=rfl
theorem all_take {α : Type} {p : α -> Bool} {l : List α} {k : Nat} (h : (l.take k).all p = true) {x : α} (hx : l[k]? = some x) (hp : p x = true) : (l.take (k + 1)).all p = true:=by
 rw [List.take_add_one,hx]
 simp only [List.all_append,h,Option.toList,List.all_cons,List.all_nil,hp,bas]
theorem all_not {α : Type} {p : α -> Bool} {l : List α} {k : Nat} {x : α} (hx : l[k]? = some x) (hp : p x = false) : l.all p = false:=by
 rw [List.all_eq_false]
 exact ⟨x,lmg hx,by simp [hp]⟩
theorem toNat_45 (x : UInt8) : ((x.toNat : Int) = 45) = (x = 45):=by
 rw [eq_iff_iff]
 constructor
 ·intro h
  have : x.toNat = (45 : UInt8).toNat:=by simp; omega
  exact UInt8.toNat_inj.1 this
 ·rintro rfl
  rfl
theorem rvalid_eq (s : ByteArray) : V 97 [.p (.str s)] [] = some (.p (.bool (validN s)),[]):=by
 refine V_wp (vf:=vf97) rfl ?_
 have hs:=size_list s
 by_cases h0 : (s.size : Int) = 0
 ·simp -implicitDefEqProofs (disch:=omega) only [vf97,vb97,ba_get,h0,go_sem,↓reduceIte,rA,rS,rE,rL,reduceCtorEq]
  simp [validN,show s.size = 0 by omega]
 ·by_cases h1 : 32 < (s.size : Int)
  ·simp -implicitDefEqProofs (disch:=omega) only [vf97,vb97,ba_get,h0,h1,go_sem,↓reduceIte,rA,rS,rE,rL,reduceCtorEq]
   simp [validN,show ¬ s.size <= 32 by omega]
  ·have hx : s.data.toList[0]? = some s.data.toList[0]:=lgg (by omega)
   generalize s.data.toList[0] = x at hx
   have hz : (0 : Int).toNat = 0:=rfl
   simp -implicitDefEqProofs (disch:=omega) only [vf97,vb97,ba_get,h0,h1,hx,hz,go_sem,↓reduceIte,rA,rS,rE,rL,reduceCtorEq]
   by_cases h45 : x = 45
   ·have h45' : ((x.toNat : Nat) : Int) = 45:=by rw [toNat_45]; exact h45
    simp -implicitDefEqProofs (disch:=omega) only [h45',go_sem,↓reduceIte,rA,rS,rE,rL,reduceCtorEq]
    simp [validN,hx,h45]
   ·have h45' : ¬ ((x.toNat : Nat) : Int) = 45:=by rw [toNat_45]; exact h45
    simp -implicitDefEqProofs (disch:=omega) only [h45',go_sem,↓reduceIte,rA,rS,rE,rL,reduceCtorEq]
    refine wp_count s.size (fun k t=>(s.data.toList.take k).all (fun b=>innerB b.toNat) = true /\ t.pe 0 = .p (.str s) /\ t.pe 3 = .p (.int .i64 k)) ?_ ?_
    ·simp [enterE,updV]
    ·rintro k t hk ⟨hall,h2,h3⟩
     simp -implicitDefEqProofs (disch:=omega) only [h2,h3,go_sem,↓reduceIte,rA,rS,rE,rL,reduceCtorEq]
     refine wp_if_d (fun hlt=>?_) (fun hge=>?_)
     ·have hy : s.data.toList[k]? = some s.data.toList[k]:=lgg (by omega)
      generalize s.data.toList[k] = y at hy
      simp -implicitDefEqProofs (disch:=omega) only [h2,h3,ba_get,hy,hlt,go_sem,↓reduceIte,rA,rS,rE,rL,reduceCtorEq]
      repeat' ((first | refine wp_grn_d (fun hb=>?_) (fun hb=>?_) | refine wp_gtn_d (fun hb=>?_) (fun hb=>?_) | refine wp_gr_d (fun hb=>?_) (fun hb=>?_) | refine wp_gt_d (fun hb=>?_) (fun hb=>?_) | refine wp_gr (fun hb=>?_) (fun hb=>?_) | refine wp_gt (fun hb=>?_) (fun hb=>?_) | refine wp_nt_d (fun hb=>?_) (fun hb=>?_) | refine wp_nt (fun hb=>?_) (fun hb=>?_) | refine wp_if_d (fun hb=>?_) (fun hb=>?_) | refine wp_if (fun hb=>?_) (fun hb=>?_)) <;> simp -implicitDefEqProofs (disch:=omega) only [hb,ba_get,hy,h2,h3,go_sem,↓reduceIte,rA,rS,rE,rL,reduceCtorEq])
      all_goals first
       | exact ⟨by omega,all_take hall hy (innerB_true (by omega)),by simp only [Int.natCast_add,Int.natCast_one]⟩
       | (have:=all_not (p:=fun b : UInt8=>innerB b.toNat) hy (innerB_false (by omega)); simp [validN,this])
     ·simp -implicitDefEqProofs (disch:=omega) only [h2,h3,hge,go_sem,↓reduceIte,rA,rS,rE,rL,reduceCtorEq]
      have hall' : s.data.toList.all (fun b=>innerB b.toNat) = true:=by rw [ltl (by omega)] at hall; exact hall
      simp only [validN,hall',hx,show s.size ≠ 0 by omega,show s.size <= 32 by omega,ne_eq,not_false_eq_true,decide_true,bas,osi,h45]
theorem pvalid_eq (s : ByteArray) (hl : s.size < 9223372036854775808) : V 201 [.p (.str s)] [] = some (.p (.bool (validN s)),[]):=by
 refine V_wp (vf:=vf201) rfl ?_
 have hs:=size_list s
 simp -implicitDefEqProofs (disch:=omega) only [vf201,vb201,go_sem,↓reduceIte,rA,rS,rE,rL,reduceCtorEq]
 refine wp_count s.size (fun k t=>(s.data.toList.take k).all (fun b=>innerB b.toNat) = true /\ t.pe 0 = .p (.str s) /\ t.pe 6 = .p (.slice 1 (s.data.toList.map fun b=>.int .u8 b.toNat)) /\ t.pe 7 = .p (.int .i64 s.size) /\ t.pe 8 = .p (.int .i64 k)) ?_ ?_
 ·exact ⟨by simp,rfl,rfl,rfl,rfl⟩
 ·rintro k t hk ⟨hall,h0,h6,h7,h8⟩
  simp -implicitDefEqProofs (disch:=omega) only [h0,h6,h7,h8,go_sem,↓reduceIte,rA,rS,rE,rL,reduceCtorEq]
  refine wp_if_d (fun hlt=>?_) (fun hge=>?_)
  ·have hy : s.data.toList[k]? = some s.data.toList[k]:=lgg (by omega)
   generalize s.data.toList[k] = y at hy
   simp -implicitDefEqProofs (disch:=omega) only [h0,h6,h7,h8,hy,hlt,inner_eq,go_sem,↓reduceIte,rA,rS,rE,rL,reduceCtorEq]
   repeat' ((first | refine wp_grn_d (fun hb=>?_) (fun hb=>?_) | refine wp_gtn_d (fun hb=>?_) (fun hb=>?_) | refine wp_gr_d (fun hb=>?_) (fun hb=>?_) | refine wp_gt_d (fun hb=>?_) (fun hb=>?_) | refine wp_gr (fun hb=>?_) (fun hb=>?_) | refine wp_gt (fun hb=>?_) (fun hb=>?_) | refine wp_nt_d (fun hb=>?_) (fun hb=>?_) | refine wp_nt (fun hb=>?_) (fun hb=>?_) | refine wp_if_d (fun hb=>?_) (fun hb=>?_) | refine wp_if (fun hb=>?_) (fun hb=>?_)) <;> simp -implicitDefEqProofs (disch:=omega) only [hb,h0,h6,h7,h8,hy,inner_eq,go_sem,↓reduceIte,rA,rS,rE,rL,reduceCtorEq])
   ·have:=all_not (p:=fun b : UInt8=>innerB b.toNat) hy (by assumption)
    simp [validN,this]
   ·exact ⟨by omega,all_take hall hy (by assumption),by simp only [Int.natCast_add,Int.natCast_one]⟩
  ·simp -implicitDefEqProofs (disch:=omega) only [h0,h6,h7,h8,hge,go_sem,↓reduceIte,rA,rS,rE,rL,reduceCtorEq]
   have hall' : s.data.toList.all (fun b=>innerB b.toNat) = true:=by rw [ltl (by omega)] at hall; exact hall
   have hz : (0 : Int).toNat = 0:=rfl
   by_cases he : s = ⟨#[]⟩
   ·subst he
    simp -implicitDefEqProofs (disch:=omega) only [h0,go_sem,↓reduceIte,rA,rS,rE,rL,reduceCtorEq]
    rfl
   ·have hne : s.size ≠ 0:=fun h=>he (by
     cases s with
     | mk d =>
      congr 1
      exact Array.eq_empty_of_size_eq_zero h)
    simp -implicitDefEqProofs (disch:=omega) only [he,h0,go_sem,↓reduceIte,rA,rS,rE,rL,reduceCtorEq]
    by_cases h1 : (s.size : Int) <= 32
    ·have hx : s.data.toList[0]? = some s.data.toList[0]:=lgg (by omega)
     generalize s.data.toList[0] = x at hx
     simp -implicitDefEqProofs (disch:=omega) only [h0,h1,hx,hz,ba_get,toNat_45,go_sem,↓reduceIte,rA,rS,rE,rL,reduceCtorEq]
     simp only [validN,hall',hx,hne,show s.size <= 32 by omega,ne_eq,not_false_eq_true,decide_true,bta,bau,osi,decide_not]
    ·simp -implicitDefEqProofs (disch:=omega) only [h0,h1,go_sem,↓reduceIte,rA,rS,rE,rL,reduceCtorEq]
     simp [validN,show ¬ s.size <= 32 by omega]
def nodeOk (pre : List Nd) (n : Nd) : Bool :=
  decide (n.kind = 0 \/ n.kind = 1) && decide (0 <= n.control /\ n.control <= 31 /\ 0 <= n.owner /\ n.owner <= 1048576) &&
  (match pre.getLast? with
   | none=>decide (n.id = 1 /\ n.parent = 0 /\ n.name = ⟨#[]⟩ /\ n.kind = 0)
   | some l=>decide (l.id < n.id) && validN n.name && !(pre.any fun x=>decide (x.parent = n.parent /\ x.name = n.name)) && pre.any fun x=>decide (x.id = n.parent))
theorem any_take {α : Type} {p : α -> Bool} {l : List α} {k : Nat} {x : α} (hx : l[k]? = some x) : (l.take (k + 1)).any p = ((l.take k).any p || p x):=by
 rw [List.take_add_one,hx]
 simp only [List.any_append,Option.toList,List.any_cons,List.any_nil,Bool.or_false]
theorem any_of_take {α : Type} {p : α -> Bool} {l : List α} {k i : Nat} (h : k <= i) (hp : (l.take k).any p = true) : (l.take i).any p = true:=by
 rw [List.any_eq_true] at hp ⊢
 obtain ⟨x,hx,h1⟩:=hp
 exact ⟨x,(List.take_sublist_take_left h).subset hx,h1⟩
set_option maxHeartbeats 2000000 in
theorem node_eq (t : Tr) (i : Nat) (n : Nd) (hn : t.nodes[i]? = some n) (hl : t.nodes.length < 1000000) : V 149 [t.vv,.p (.int .i64 i)] [] = some (.p (.bool (nodeOk (t.nodes.take i) n)),[]):=by
  refine V_wp (vf:=vf149) rfl ?_
  have hlt : i < t.nodes.length:=(lgs.1 hn).1
  by_cases hi : (i : Int) = 0
  · have hi' : i = 0:=by omega
    have hz : (0 : Int).toNat = 0:=rfl
    rw [hi'] at hn
    simp -implicitDefEqProofs (disch:=omega) only [vf149,vb149,hi,hz,hn,go_sem,↓reduceIte,rA,rS,rE,rL,reduceCtorEq]
    repeat' ((first | refine wp_grn_d (fun hb=>?_) (fun hb=>?_) | refine wp_gtn_d (fun hb=>?_) (fun hb=>?_) | refine wp_gr_d (fun hb=>?_) (fun hb=>?_) | refine wp_gt_d (fun hb=>?_) (fun hb=>?_) | refine wp_gr (fun hb=>?_) (fun hb=>?_) | refine wp_gt (fun hb=>?_) (fun hb=>?_) | refine wp_nt_d (fun hb=>?_) (fun hb=>?_) | refine wp_nt (fun hb=>?_) (fun hb=>?_) | refine wp_if_d (fun hb=>?_) (fun hb=>?_) | refine wp_if (fun hb=>?_) (fun hb=>?_)) <;> simp -implicitDefEqProofs (disch:=omega) only [hb,go_sem,↓reduceIte,rA,rS,rE,rL,reduceCtorEq])
    all_goals
      simp only [nodeOk,hi',List.take_zero,List.getLast?_nil,pmi,VVal.p.injEq,PV.bool.injEq,and_true]
      rw [Bool.eq_iff_iff]
      simp only [bat,decide_eq_true_eq,true_iff,bft,false_iff]
      try simp only [*]
      first | omega | (simp; done) | (simp; omega)
  · obtain ⟨l, hlast⟩ : ∃ l, (t.nodes.take i).getLast? = some l:=by
      cases hq : (t.nodes.take i).getLast? with
      | none =>
        rw [List.getLast?_eq_none_iff] at hq
        have := congrArg List.length hq
        rw [List.length_take,lln] at this
        omega
      | some l => exact ⟨l,rfl⟩
    have hpre : t.nodes[((i : Int) - 1).toNat]? = some l:=by
      rw [List.getLast?_take,if_neg (by omega)] at hlast
      rw [show ((i : Int) - 1).toNat = i - 1 by omega]
      rw [List.getElem?_eq_getElem (by omega)] at hlast ⊢
      simpa using hlast
    simp -implicitDefEqProofs (disch:=omega) only [vf149,vb149,hn,hi,go_sem,↓reduceIte,rA,rS,rE,rL,reduceCtorEq]
    repeat' ((first | refine wp_grn_d (fun hb=>?_) (fun hb=>?_) | refine wp_gtn_d (fun hb=>?_) (fun hb=>?_) | refine wp_gr_d (fun hb=>?_) (fun hb=>?_) | refine wp_gt_d (fun hb=>?_) (fun hb=>?_) | refine wp_gr (fun hb=>?_) (fun hb=>?_) | refine wp_gt (fun hb=>?_) (fun hb=>?_) | refine wp_nt_d (fun hb=>?_) (fun hb=>?_) | refine wp_nt (fun hb=>?_) (fun hb=>?_) | refine wp_if_d (fun hb=>?_) (fun hb=>?_) | refine wp_if (fun hb=>?_) (fun hb=>?_)) <;> simp -implicitDefEqProofs (disch:=omega) only [hb,hn,hi,hpre,rvalid_eq,go_sem,↓reduceIte,rA,rS,rE,rL,reduceCtorEq])
    all_goals first
      | (simp only [nodeOk,hlast,pmi,VVal.p.injEq,PV.bool.injEq,and_true]
         rw [Bool.eq_iff_iff]
         simp only [bat,decide_eq_true_eq,bft,false_iff]
         try simp only [*]
         first | omega | (simp; done) | (simp; omega))
      | skip
    all_goals
      refine wp_count i (fun k s=>(t.nodes.take k).any (fun x=>decide (x.parent = n.parent /\ x.name = n.name)) = false /\ s.pe 1 = .p (.int .i64 i) /\ s.pe 2 = .ptr (.slot 2 0) 0 0 /\ s.pe 5 = .ptr (.slot 5 0) 0 0 /\ s.pe 6 = .p (.bool ((t.nodes.take k).any fun x=>decide (x.id = n.parent))) /\ s.pe 7 = .p (.int .i64 k) /\
        s.h (.slot 2 0) = some (0,.box [.p (nodesP t.nodes),.p (.int .i64 t.next)]) /\ s.h (.slot 5 0) = some (0,.box (n.pv.cells.map .p))) ?_ ?_
      · exact ⟨by simp,rfl,rfl,rfl,rfl,rfl,rfl,by simp -implicitDefEqProofs (disch:=omega) only [go_sem,↓reduceIte,rA,rS,rE,rL,reduceCtorEq]; simp only [*]⟩
      · rintro k s hk ⟨hno,h1,h2,h5,h6,h7,hh2,hh5⟩
        simp only [Nd.pv,PV.cells,lpc,lpn] at hh5
        simp -implicitDefEqProofs (disch:=omega) only [h1,h2,h5,h6,h7,hh2,hh5,go_sem,↓reduceIte,rA,rS,rE,rL,reduceCtorEq]
        refine wp_if_d (fun hki=>?_) (fun hge=>?_)
        · have hm : t.nodes[k]? = some t.nodes[k]:=lgg (by omega)
          generalize t.nodes[k] = m at hm
          simp -implicitDefEqProofs (disch:=omega) only [h1,h2,h5,h6,h7,hh2,hh5,hm,hki,go_sem,↓reduceIte,rA,rS,rE,rL,reduceCtorEq]
          repeat' ((first | refine wp_grn_d (fun hb=>?_) (fun hb=>?_) | refine wp_gtn_d (fun hb=>?_) (fun hb=>?_) | refine wp_gr_d (fun hb=>?_) (fun hb=>?_) | refine wp_gt_d (fun hb=>?_) (fun hb=>?_) | refine wp_gr (fun hb=>?_) (fun hb=>?_) | refine wp_gt (fun hb=>?_) (fun hb=>?_) | refine wp_nt_d (fun hb=>?_) (fun hb=>?_) | refine wp_nt (fun hb=>?_) (fun hb=>?_) | refine wp_if_d (fun hb=>?_) (fun hb=>?_) | refine wp_if (fun hb=>?_) (fun hb=>?_)) <;> simp -implicitDefEqProofs (disch:=omega) only [hb,h1,h2,h5,h6,h7,hh2,hh5,hm,hki,go_sem,↓reduceIte,rA,rS,rE,rL,reduceCtorEq])
          all_goals first
            | (have ha : ((t.nodes.take i).any fun x=>decide (x.parent = n.parent /\ x.name = n.name)) = true:=by
                refine any_of_take (k:=k + 1) (by omega) ?_
                rw [any_take hm]
                simp [*]
               simp only [nodeOk,hlast,ha,Bool.not_true,Bool.and_false,bfa]
               done)
            | exact ⟨by rw [any_take hm,hno]; simp [*],by rw [any_take hm]; simp [*],by simp only [Int.natCast_add,Int.natCast_one]⟩
        · simp -implicitDefEqProofs (disch:=omega) only [h1,h2,h5,h6,h7,hh2,hh5,hge,go_sem,↓reduceIte,rA,rS,rE,rL,reduceCtorEq]
          have hki : k = i:=by omega
          subst hki
          simp only [nodeOk,hlast,hno,pmi,VVal.p.injEq,PV.bool.injEq,and_true]
          rw [Bool.eq_iff_iff]
          simp only [bat,decide_eq_true_eq,bnf,and_true,true_and]
          exact ⟨fun h=>⟨⟨by omega,by omega,by omega,by omega,by omega⟩,⟨by omega,by assumption⟩,h⟩,fun h=>h.2.2⟩
def nodesOk : List Nd -> List Nd -> Bool
 | _,[]=>true
 | pre,n :: ns=>nodeOk pre n && nodesOk (pre ++ [n]) ns
theorem nodesOk_iff : ∀ (ns pre : List Nd),nodesOk pre ns = true ↔ ∀ (i : Nat) (n : Nd),ns[i]? = some n -> nodeOk (pre ++ ns.take i) n = true
 | [],pre=>by simp [nodesOk]
 | n :: ns,pre=>by
  simp only [nodesOk,bat]
  rw [nodesOk_iff ns (pre ++ [n])]
  constructor
  ·rintro ⟨h1,h2⟩ i m hm
   cases i with
   | zero=>simp at hm; subst hm; simpa using h1
   | succ i=>simpa using h2 i m (by simpa using hm)
  ·intro h
   exact ⟨by simpa using h 0 n rfl,fun i m hm=>by simpa using h (i + 1) m (by simpa using hm)⟩
def treeOk (t : Tr) : Bool :=
  decide (1 <= t.nodes.length /\ t.nodes.length <= 64) && nodesOk [] t.nodes && t.nodes.all (fun n=>decide ((up t.nodes n.id).length <= 9)) &&
  (match t.nodes.getLast? with
   | none=>false
   | some l=>decide (l.id < t.next /\ t.next <= 2147483648))
theorem rcheck_eq (t : Tr) (hl : t.nodes.length < 1000000) : V 82 [t.vv] [] = some (.p (.bool (treeOk t)),[]):=by
 refine V_wp (vf:=vf82) rfl ?_
 by_cases h1 : (t.nodes.length : Int) < 1
 ·simp -implicitDefEqProofs (disch:=omega) only [vf82,vb82,h1,go_sem,↓reduceIte,rA,rS,rE,rL,reduceCtorEq]
  simp [treeOk,show ¬ 1 <= t.nodes.length by omega]
 ·by_cases h2 : 64 < (t.nodes.length : Int)
  ·simp -implicitDefEqProofs (disch:=omega) only [vf82,vb82,h1,h2,go_sem,↓reduceIte,rA,rS,rE,rL,reduceCtorEq]
   simp [treeOk,show ¬ t.nodes.length <= 64 by omega]
  ·simp -implicitDefEqProofs (disch:=omega) only [vf82,vb82,h1,h2,go_sem,↓reduceIte,rA,rS,rE,rL,reduceCtorEq]
   refine wp_count t.nodes.length (fun k s=>(∀ (i : Nat) (n : Nd),i < k -> t.nodes[i]? = some n -> nodeOk (t.nodes.take i) n = true) /\ s.pe 1 = .ptr (.slot 1 0) 0 0 /\ s.pe 3 = .p (.int .i64 t.nodes.length) /\ s.pe 4 = .p (.int .i64 k) /\ s.h (.slot 1 0) = some (0,.box [.p (nodesP t.nodes),.p (.int .i64 t.next)])) ?_ ?_
   ·exact ⟨by omega,rfl,rfl,rfl,rfl⟩
   ·rintro k s hk ⟨hall,h3,h4,h5,hh⟩
    simp -implicitDefEqProofs (disch:=omega) only [h3,h4,h5,hh,go_sem,↓reduceIte,rA,rS,rE,rL,reduceCtorEq]
    refine wp_if_d (fun hlt=>?_) (fun hge=>?_)
    ·have hm : t.nodes[k]? = some t.nodes[k]:=lgg hlt
     generalize t.nodes[k] = m at hm
     have hc:=node_eq t k m hm hl
     simp -implicitDefEqProofs (disch:=omega) only [h3,h4,h5,hh,hm,hc,hlt,go_sem,↓reduceIte,rA,rS,rE,rL,reduceCtorEq]
     repeat' ((first | refine wp_grn_d (fun hb=>?_) (fun hb=>?_) | refine wp_gtn_d (fun hb=>?_) (fun hb=>?_) | refine wp_gr_d (fun hb=>?_) (fun hb=>?_) | refine wp_gt_d (fun hb=>?_) (fun hb=>?_) | refine wp_gr (fun hb=>?_) (fun hb=>?_) | refine wp_gt (fun hb=>?_) (fun hb=>?_) | refine wp_nt_d (fun hb=>?_) (fun hb=>?_) | refine wp_nt (fun hb=>?_) (fun hb=>?_) | refine wp_if_d (fun hb=>?_) (fun hb=>?_) | refine wp_if (fun hb=>?_) (fun hb=>?_)) <;> simp -implicitDefEqProofs (disch:=omega) only [hb,h3,h4,h5,hh,hm,hc,go_sem,↓reduceIte,rA,rS,rE,rL,reduceCtorEq])
     ·have hf : nodesOk [] t.nodes = false:=by
       rw [Bool.eq_false_iff]
       intro h0
       have:=(nodesOk_iff _ _).1 h0 k m hm
       simp_all
      simp [treeOk,hf]
     ·refine ⟨hlt,fun i n hi hn=>?_,by simp only [Int.natCast_add,Int.natCast_one]⟩
      rcases Nat.lt_or_ge i k with h0 | h0
      ·exact hall i n h0 hn
      ·have : i = k:=by omega
       subst this
       rw [hm] at hn
       simp at hn
       subst hn
       assumption
    ·have hok : nodesOk [] t.nodes = true:=(nodesOk_iff _ _).2 fun i n hn=>by simpa using hall i n (by have:=(lgs.1 hn).1; omega) hn
     simp -implicitDefEqProofs (disch:=omega) only [h3,h4,h5,hh,hge,go_sem,↓reduceIte,rA,rS,rE,rL,reduceCtorEq]
     refine wp_count t.nodes.length (fun k s=>(∀ (i : Nat) (n : Nd),i < k -> t.nodes[i]? = some n -> (up t.nodes n.id).length <= 9) /\ s.pe 1 = .ptr (.slot 1 0) 0 0 /\ s.pe 3 = .p (.int .i64 t.nodes.length) /\ s.pe 5 = .p (.int .i64 k) /\ s.h (.slot 1 0) = some (0,.box [.p (nodesP t.nodes),.p (.int .i64 t.next)])) ?_ ?_
     ·simp -implicitDefEqProofs (disch:=omega) only [h3,h4,h5,hh,go_sem,↓reduceIte,rA,rS,rE,rL,reduceCtorEq]
      simp
     ·rintro k s hk ⟨hall2,h3,h4,h5,hh⟩
      simp -implicitDefEqProofs (disch:=omega) only [h3,h4,h5,hh,go_sem,↓reduceIte,rA,rS,rE,rL,reduceCtorEq]
      refine wp_if_d (fun hlt=>?_) (fun hge=>?_)
      ·have hm : t.nodes[k]? = some t.nodes[k]:=lgg hlt
       generalize t.nodes[k] = m at hm
       have hc:=up_eq t m.id hl
       simp -implicitDefEqProofs (disch:=omega) only [h3,h4,h5,hh,hm,hc,hlt,go_sem,↓reduceIte,rA,rS,rE,rL,reduceCtorEq]
       repeat' ((first | refine wp_grn_d (fun hb=>?_) (fun hb=>?_) | refine wp_gtn_d (fun hb=>?_) (fun hb=>?_) | refine wp_gr_d (fun hb=>?_) (fun hb=>?_) | refine wp_gt_d (fun hb=>?_) (fun hb=>?_) | refine wp_gr (fun hb=>?_) (fun hb=>?_) | refine wp_gt (fun hb=>?_) (fun hb=>?_) | refine wp_nt_d (fun hb=>?_) (fun hb=>?_) | refine wp_nt (fun hb=>?_) (fun hb=>?_) | refine wp_if_d (fun hb=>?_) (fun hb=>?_) | refine wp_if (fun hb=>?_) (fun hb=>?_)) <;> simp -implicitDefEqProofs (disch:=omega) only [hb,h3,h4,h5,hh,hm,hc,go_sem,↓reduceIte,rA,rS,rE,rL,reduceCtorEq])
       ·rename_i hb
        have hf : t.nodes.all (fun n=>decide ((up t.nodes n.id).length <= 9)) = false:=by
         rw [List.all_eq_false]
         exact ⟨m,lmg hm,by simp; omega⟩
        simp [treeOk,hf]
       ·rename_i hb
        refine ⟨hlt,fun i n hi hn=>?_,by simp only [Int.natCast_add,Int.natCast_one]⟩
        rcases Nat.lt_or_ge i k with h0 | h0
        ·exact hall2 i n h0 hn
        ·have : i = k:=by omega
         subst this
         rw [hm] at hn
         simp at hn
         subst hn
         omega
      ·have hk2 : t.nodes.all (fun n=>decide ((up t.nodes n.id).length <= 9)) = true:=by
        rw [List.all_eq_true]
        intro n hn
        obtain ⟨i,hi⟩:=lgm hn
        have:=hall2 i n (by have:=(lgs.1 hi).1; omega) hi
        simpa using this
       have hla : t.nodes[((t.nodes.length : Int) - 1).toNat]? = some t.nodes[t.nodes.length - 1]:=by
        rw [show ((t.nodes.length : Int) - 1).toNat = t.nodes.length - 1 by omega]
        exact lgg (by omega)
       have hlast : t.nodes.getLast? = some t.nodes[t.nodes.length - 1]:=by
        rw [List.getLast?_eq_getElem?]
        exact lgg (by omega)
       generalize t.nodes[t.nodes.length - 1] = l at hla hlast
       simp -implicitDefEqProofs (disch:=omega) only [h3,h4,h5,hh,hge,hla,go_sem,↓reduceIte,rA,rS,rE,rL,reduceCtorEq]
       repeat' ((first | refine wp_grn_d (fun hb=>?_) (fun hb=>?_) | refine wp_gtn_d (fun hb=>?_) (fun hb=>?_) | refine wp_gr_d (fun hb=>?_) (fun hb=>?_) | refine wp_gt_d (fun hb=>?_) (fun hb=>?_) | refine wp_gr (fun hb=>?_) (fun hb=>?_) | refine wp_gt (fun hb=>?_) (fun hb=>?_) | refine wp_nt_d (fun hb=>?_) (fun hb=>?_) | refine wp_nt (fun hb=>?_) (fun hb=>?_) | refine wp_if_d (fun hb=>?_) (fun hb=>?_) | refine wp_if (fun hb=>?_) (fun hb=>?_)) <;> simp -implicitDefEqProofs (disch:=omega) only [hb,h3,h4,h5,hh,hla,go_sem,↓reduceIte,rA,rS,rE,rL,reduceCtorEq])
       all_goals
        simp only [treeOk,hok,hk2,hlast,show (1 <= t.nodes.length /\ t.nodes.length <= 64) by omega,pmi,VVal.p.injEq,PV.bool.injEq,and_true,decide_true,bta]
        rw [Bool.eq_iff_iff]
        simp only [decide_eq_true_eq,bft,false_iff]
        omega
def zeroNd : Nd:=⟨0,0,⟨#[]⟩,0,0,0⟩
def findN (ns : List Nd) (id : Int) : Option Nd:=ns.find? fun n=>decide (n.id = id)
def findT (t : Tr) (id : Int) : Option Nd:=if treeOk t then findN t.nodes id else none
attribute [go_sem] Nd.vv
theorem find_take_none {p : Nd -> Bool} {l : List Nd} {k : Nat} (h : ∀ (i : Nat) (n : Nd),i < k -> l[i]? = some n -> p n = false) {m : Nd} (hm : l[k]? = some m) (hp : p m = true) : l.find? p = some m:=by
 rw [List.find?_eq_some_iff_getElem]
 refine ⟨hp,k,(lgs.1 hm).1,(lgs.1 hm).2,fun j hj=>?_⟩
 have hl : j < l.length:=Nat.lt_trans hj (lgs.1 hm).1
 simpa using h j l[j] hj (lgg hl)
theorem find_none {p : Nd -> Bool} {l : List Nd} (h : ∀ (i : Nat) (n : Nd),i < l.length -> l[i]? = some n -> p n = false) : l.find? p = none:=by
 rw [List.find?_eq_none]
 intro x hx
 obtain ⟨i,hi⟩:=lgm hx
 simpa using h i x (lgs.1 hi).1 hi
theorem lt_succ_cases {Q : Nat -> Nd -> Prop} {l : List Nd} {k : Nat} {m : Nd} (hm : l[k]? = some m) (h : ∀ (i : Nat) (n : Nd),i < k -> l[i]? = some n -> Q i n) (hk : Q k m) : ∀ (i : Nat) (n : Nd),i < k + 1 -> l[i]? = some n -> Q i n:=fun i n hi hn=>by
 rcases Nat.lt_or_ge i k with h0 | h0
 ·exact h i n h0 hn
 ·have : i = k:=by omega
  subst this
  rw [hm] at hn
  simp at hn
  subst hn
  exact hk
theorem rfind_eq (t : Tr) (id : Int) (hl : t.nodes.length < 1000000) : V 150 [t.vv,.p (.int .i64 id)] [] = some (.tup [((findT t id).getD zeroNd).vv,.p (.bool (findT t id).isSome)],[]):=by
 refine V_wp (vf:=vf150) rfl ?_
 have hc:=rcheck_eq t hl
 cases hok : treeOk t with
 | false =>
  rw [hok] at hc
  simp -implicitDefEqProofs (disch:=omega) only [vf150,vb150,hc,go_sem,↓reduceIte,rA,rS,rE,rL,reduceCtorEq]
  simp [findT,hok,zeroNd]
 | true =>
  rw [hok] at hc
  simp -implicitDefEqProofs (disch:=omega) only [vf150,vb150,hc,go_sem,↓reduceIte,rA,rS,rE,rL,reduceCtorEq]
  refine wp_count t.nodes.length (fun k s=>(∀ (i : Nat) (n : Nd),i < k -> t.nodes[i]? = some n -> decide (n.id = id) = false) /\ s.pe 1 = .p (.int .i64 id) /\ s.pe 2 = .ptr (.slot 2 0) 0 0 /\ s.pe 4 = .ptr (.slot 4 0) 0 0 /\ s.pe 6 = .p (.int .i64 k) /\ s.h (.slot 2 0) = some (0,.box [.p (nodesP t.nodes),.p (.int .i64 t.next)]) /\ s.h (.slot 4 0) = some (0,.box (zeroNd.pv.cells.map .p))) ?_ ?_
  ·exact ⟨by omega,rfl,rfl,rfl,rfl,rfl,by simp -implicitDefEqProofs (disch:=omega) only [go_sem,↓reduceIte,rA,rS,rE,rL,reduceCtorEq]; rfl⟩
  ·rintro k s hk ⟨hall,h1,h2,h4,h6,hh2,hh4⟩
   simp only [Nd.pv,zeroNd,PV.cells,lpc,lpn] at hh4
   simp -implicitDefEqProofs (disch:=omega) only [h1,h2,h4,h6,hh2,hh4,go_sem,↓reduceIte,rA,rS,rE,rL,reduceCtorEq]
   refine wp_if_d (fun hlt=>?_) (fun hge=>?_)
   ·have hm : t.nodes[k]? = some t.nodes[k]:=lgg hlt
    generalize t.nodes[k] = m at hm
    simp -implicitDefEqProofs (disch:=omega) only [h1,h2,h4,h6,hh2,hh4,hm,go_sem,↓reduceIte,rA,rS,rE,rL,reduceCtorEq]
    repeat' ((first | refine wp_grn_d (fun hb=>?_) (fun hb=>?_) | refine wp_gtn_d (fun hb=>?_) (fun hb=>?_) | refine wp_gr_d (fun hb=>?_) (fun hb=>?_) | refine wp_gt_d (fun hb=>?_) (fun hb=>?_) | refine wp_gr (fun hb=>?_) (fun hb=>?_) | refine wp_gt (fun hb=>?_) (fun hb=>?_) | refine wp_nt_d (fun hb=>?_) (fun hb=>?_) | refine wp_nt (fun hb=>?_) (fun hb=>?_) | refine wp_if_d (fun hb=>?_) (fun hb=>?_) | refine wp_if (fun hb=>?_) (fun hb=>?_)) <;> simp -implicitDefEqProofs (disch:=omega) only [hb,h1,h2,h4,h6,hh2,hh4,hm,go_sem,↓reduceIte,rA,rS,rE,rL,reduceCtorEq])
    ·have hf : findT t id = some m:=by
      simp only [findT,hok,if_true,findN]
      exact find_take_none hall hm (by simpa using hb)
     simp [hf,Nd.vv,hb]
    ·exact ⟨hlt,lt_succ_cases hm hall (by simpa using ‹_›),by simp only [Int.natCast_add,Int.natCast_one],rfl⟩
   ·have hf : findT t id = none:=by
     simp only [findT,hok,if_true,findN]
     exact find_none fun i n hi=>hall i n (by omega)
    simp -implicitDefEqProofs (disch:=omega) only [h1,h2,h4,h6,hh2,hh4,hge,go_sem,↓reduceIte,rA,rS,rE,rL,reduceCtorEq]
    simp [hf,zeroNd,Nd.vv]
theorem rhas_eq (t : Tr) (id : Int) (hl : t.nodes.length < 1000000) : V 83 [t.vv,.p (.int .i64 id)] [] = some (.p (.bool (findT t id).isSome),[]):=by
 refine V_wp (vf:=vf83) rfl ?_
 have hc:=rfind_eq t id hl
 simp -implicitDefEqProofs (disch:=omega) only [vf83,vb83,hc,go_sem,↓reduceIte,rA,rS,rE,rL,reduceCtorEq]
def ancR (t : Tr) (id : Int) : List Int:=if (findT t id).isSome then up t.nodes id else []
theorem ranc_eq (t : Tr) (id : Int) (hl : t.nodes.length < 1000000) : V 62 [t.vv,.p (.int .i64 id)] [] = some (.fresh 1 ((ancR t id).map (.int .i64)),[]):=by
 refine V_wp (vf:=vf62) rfl ?_
 have hc:=rhas_eq t id hl
 have hu:=up_eq t id hl
 cases hf : (findT t id).isSome with
 | false =>
  rw [hf] at hc
  simp -implicitDefEqProofs (disch:=omega) only [vf62,vb62,hc,go_sem,↓reduceIte,rA,rS,rE,rL,reduceCtorEq]
  simp [ancR,hf]
 | true =>
  rw [hf] at hc
  simp -implicitDefEqProofs (disch:=omega) only [vf62,vb62,hc,hu,go_sem,↓reduceIte,rA,rS,rE,rL,reduceCtorEq]
  simp [ancR,hf]
theorem rdepth_eq (t : Tr) (id : Int) (hl : t.nodes.length < 1000000) : V 98 [t.vv,.p (.int .i64 id)] [] = some (.p (.int .i64 ((ancR t id).length - 1)),[]):=by
 refine V_wp (vf:=vf98) rfl ?_
 have hc:=ranc_eq t id hl
 have hlen : (ancR t id).length < 1000000:=by
  unfold ancR
  split
  ·have:=upR_length t.nodes.reverse id
   simp only [List.length_reverse] at this
   unfold up
   omega
  .simp
 simp -implicitDefEqProofs (disch:=omega) only [vf98,vb98,hc,go_sem,↓reduceIte,rA,rS,rE,rL,reduceCtorEq]
def kids (t : Tr) (id : Int) : List Int:=if (findT t id).isSome then (t.nodes.filter fun n=>decide (n.parent = id)).map (·.id) else []
theorem filter_take {p : Nd -> Bool} {l : List Nd} {k : Nat} {m : Nd} (hm : l[k]? = some m) : (l.take (k + 1)).filter p = if p m then (l.take k).filter p ++ [m] else (l.take k).filter p:=by
 rw [List.take_add_one,hm]
 simp only [List.filter_append,Option.toList,lfl,List.filter_nil]
 split <;> simp
theorem rkids_eq (t : Tr) (id : Int) (hl : t.nodes.length < 1000000) : V 100 [t.vv,.p (.int .i64 id)] [] = some (.fresh 1 ((kids t id).map (.int .i64)),[]):=by
 refine V_wp (vf:=vf100) rfl ?_
 have hc:=rhas_eq t id hl
 cases hf : (findT t id).isSome with
 | false =>
  rw [hf] at hc
  simp -implicitDefEqProofs (disch:=omega) only [vf100,vb100,hc,go_sem,↓reduceIte,rA,rS,rE,rL,reduceCtorEq]
  simp [kids,hf]
 | true =>
  rw [hf] at hc
  simp -implicitDefEqProofs (disch:=omega) only [vf100,vb100,hc,go_sem,↓reduceIte,rA,rS,rE,rL,reduceCtorEq]
  refine wp_count t.nodes.length (fun k s=>∃ (acc : List Int) (v : Nat),acc = ((t.nodes.take k).filter fun n=>decide (n.parent = id)).map (·.id) /\ acc.length <= k /\ s.pe 1 = .p (.int .i64 id) /\ s.pe 2 = .ptr (.slot 2 0) 0 0 /\ s.pe 5 = .own (.slot 5 0) v 0 acc.length /\ s.pe 6 = .p (.int .i64 k) /\ s.h (.slot 2 0) = some (0,.box [.p (nodesP t.nodes),.p (.int .i64 t.next)]) /\ s.h (.slot 5 0) = some (v,.arr 1 (acc.map (.int .i64)))) ?_ ?_
  ·exact ⟨[],0,rfl,by simp,rfl,rfl,rfl,rfl,rfl,rfl⟩
  ·rintro k s hk ⟨acc,v,hacc,hlen,h1,h2,h5,h6,hh2,hh5⟩
   simp -implicitDefEqProofs (disch:=omega) only [h1,h2,h5,h6,hh2,hh5,go_sem,↓reduceIte,rA,rS,rE,rL,reduceCtorEq]
   refine wp_if_d (fun hlt=>?_) (fun hge=>?_)
   ·have hm : t.nodes[k]? = some t.nodes[k]:=lgg hlt
    generalize t.nodes[k] = m at hm
    simp -implicitDefEqProofs (disch:=omega) only [h1,h2,h5,h6,hh2,hh5,hm,go_sem,↓reduceIte,rA,rS,rE,rL,reduceCtorEq]
    repeat' ((first | refine wp_grn_d (fun hb=>?_) (fun hb=>?_) | refine wp_gtn_d (fun hb=>?_) (fun hb=>?_) | refine wp_gr_d (fun hb=>?_) (fun hb=>?_) | refine wp_gt_d (fun hb=>?_) (fun hb=>?_) | refine wp_gr (fun hb=>?_) (fun hb=>?_) | refine wp_gt (fun hb=>?_) (fun hb=>?_) | refine wp_nt_d (fun hb=>?_) (fun hb=>?_) | refine wp_nt (fun hb=>?_) (fun hb=>?_) | refine wp_if_d (fun hb=>?_) (fun hb=>?_) | refine wp_if (fun hb=>?_) (fun hb=>?_)) <;> simp -implicitDefEqProofs (disch:=omega) only [hb,h1,h2,h5,h6,hh2,hh5,hm,go_sem,↓reduceIte,rA,rS,rE,rL,reduceCtorEq])
    ·refine ⟨hlt,acc ++ [m.id],v + 1,?_,by simp; omega,by simp,by simp,by simp⟩
     rw [filter_take hm,hacc]
     simp [hb]
    ·refine ⟨hlt,acc,v,?_,by omega,by simp,by simp,by simp⟩
     rw [filter_take hm,hacc]
     simp [hb]
   ·rw [ltl (by omega)] at hacc
    simp -implicitDefEqProofs (disch:=omega) only [h1,h2,h5,h6,hh2,hh5,hge,go_sem,↓reduceIte,rA,rS,rE,rL,reduceCtorEq]
    simp [kids,hf,hacc]
theorem rcopy_eq (t : Tr) (hl : t.nodes.length < 1000000) : V 99 [t.vv] [] = some (t.fv,[]):=by
 refine V_wp (vf:=vf99) rfl ?_
 simp -implicitDefEqProofs (disch:=omega) only [vf99,vb99,go_sem,↓reduceIte,rA,rS,rE,rL,reduceCtorEq]
def newT : Tr:=⟨[⟨1,0,⟨#[]⟩,0,0,0⟩],2⟩
theorem rnew_eq : V 42 [] [] = some (newT.fv,[]):=by
 refine V_wp (vf:=vf42) rfl ?_
 simp -implicitDefEqProofs (disch:=omega) only [vf42,vb42,go_sem,↓reduceIte,rA,rS,rE,rL,reduceCtorEq]
 rfl
theorem bool_eq (L : List Int) (a : Nat) (n : Int) (hL : L.length < 4611686018427387904) (h1 : 1 <= n) (hn : n < 4611686018427387904) : V 45 [.ptr (.arg 0 0) 0 0,.p (.int .i64 n)] [diceB L a] = some (.p (.bool (decide (nextV L a n = n - 1))),[diceB L (nextA L a n)]):=by
 refine V_wp (vf:=vf45) rfl ?_
 have hc:=next_eq L a n hL hn
 simp -implicitDefEqProofs (disch:=omega) only [vf45,vb45,hc,go_sem,↓reduceIte,rA,rS,rE,rL,reduceCtorEq]
def names6 : List ByteArray:=[⟨#[97]⟩,⟨#[98]⟩,⟨#[99]⟩,⟨#[119,101,98]⟩,⟨#[100,98,45,49]⟩,⟨#[88,95,57]⟩]
def nameV (L : List Int) (a : Nat) : ByteArray:=names6.getD (nextV L a 6).toNat ⟨#[]⟩
theorem name_eq (L : List Int) (a : Nat) (hL : L.length < 4611686018427387904) : V 44 [.ptr (.arg 0 0) 0 0] [diceB L a] = some (.p (.str (nameV L a)),[diceB L (nextA L a 6)]):=by
 refine V_wp (vf:=vf44) rfl ?_
 have hc:=next_eq L a 6 hL (by omega)
 have h0:=nextV_nonneg L a 6
 have h1:=nextV_lt L a (n:=6) (by omega)
 have hl : (nextV L a 6).toNat < names6.length:=by simp [names6]; omega
 have hg : ([.str ⟨#[97]⟩,.str ⟨#[98]⟩,.str ⟨#[99]⟩,.str ⟨#[119,101,98]⟩,.str ⟨#[100,98,45,49]⟩,.str ⟨#[88,95,57]⟩] : List PV)[(nextV L a 6).toNat]? = some (.str (nameV L a)):=by
  show (names6.map PV.str)[(nextV L a 6).toNat]? = _
  rw [List.getElem?_map,nameV,List.getD_eq_getElem?_getD,lgg hl]
  rfl
 simp -implicitDefEqProofs (disch:=omega) only [vf44,vb44,hc,h0,hg,go_sem,↓reduceIte,rA,rS,rE,rL,reduceCtorEq]
theorem nodesOk_pos : ∀ (ns pre : List Nd),(∀ x ∈ pre,1 <= x.id) -> nodesOk pre ns = true -> ∀ n ∈ ns,1 <= n.id
 | [],_,_,_,n,hn=>by cases hn
 | m :: ns,pre,hp,h,n,hn=>by
  simp only [nodesOk,bat] at h
  have hm : 1 <= m.id:=by
   have h1:=h.1
   unfold nodeOk at h1
   simp only [bat] at h1
   cases hl : pre.getLast? with
   | none =>
    rw [hl] at h1
    simp only [decide_eq_true_eq] at h1
    omega
   | some l =>
    rw [hl] at h1
    simp only [bat,decide_eq_true_eq] at h1
    have:=hp l (List.mem_of_getLast? hl)
    omega
  rcases lmk.1 hn with rfl | hn
  ·exact hm
  ·refine nodesOk_pos ns (pre ++ [m]) (fun x hx=>?_) h.2 n hn
   rcases lmp.1 hx with hx | hx
   .exact hp x hx
   .simp at hx; subst hx; exact hm
theorem treeNext {t : Tr} (h : treeOk t = true) : 1 < t.next /\ t.next <= 2147483648 /\ 1 <= t.nodes.length /\ t.nodes.length <= 64:=by
 simp only [treeOk,bat,decide_eq_true_eq] at h
 obtain ⟨⟨⟨h1,h2⟩,_⟩,h3⟩:=h
 cases hl : t.nodes.getLast? with
 | none=>rw [hl] at h3; cases h3
 | some l =>
  rw [hl] at h3
  simp only [decide_eq_true_eq] at h3
  have:=nodesOk_pos t.nodes [] (by simp) h2 l (List.mem_of_getLast? hl)
  omega
def addT (t : Tr) (p : Int) (s : ByteArray) : Tr × Int × Int :=
 if (treeOk t && validN s) = false then (⟨[],0⟩,0,1)
 else if (findT t p).isSome = false then (⟨[],0⟩,0,4)
 else if (t.nodes.any fun n=>decide (n.parent = p /\ n.name = s)) = true then (⟨[],0⟩,0,5)
 else if (8 : Int) <= (ancR t p).length - 1 \/ 64 <= t.nodes.length \/ 2147483647 < t.next then (⟨[],0⟩,0,7)
 else (⟨t.nodes ++ [⟨t.next,p,s,0,0,0⟩],t.next + 1⟩,t.next,0)
set_option maxHeartbeats 2000000 in
theorem radd_eq (t : Tr) (p : Int) (s : ByteArray) (hl : t.nodes.length < 1000000) : V 43 [t.vv,.p (.int .i64 p),.p (.str s)] [] = some (.tup [(addT t p s).1.fv,.p (.int .i64 (addT t p s).2.1),.p (.int .i64 (addT t p s).2.2)],[]):=by
  refine V_wp (vf := vf43) rfl ?_
  have hc := rcheck_eq t hl
  have hv := rvalid_eq s
  have hh := rhas_eq t p hl
  have hd := rdepth_eq t p hl
  have hcp := rcopy_eq t hl
  cases hok : treeOk t with
  | false =>
    rw [hok] at hc
    simp -implicitDefEqProofs (disch:=omega) only [vf43,vb43,hc,go_sem,↓reduceIte,rA,rS,rE,rL,reduceCtorEq]
    simp [addT, hok]
  | true =>
    rw [hok] at hc
    cases hvv : validN s with
    | false =>
      rw [hvv] at hv
      simp -implicitDefEqProofs (disch:=omega) only [vf43,vb43,hc,hv,go_sem,↓reduceIte,rA,rS,rE,rL,reduceCtorEq]
      simp [addT, hok, hvv]
    | true =>
      rw [hvv] at hv
      cases hf : (findT t p).isSome with
      | false =>
        rw [hf] at hh
        simp -implicitDefEqProofs (disch:=omega) only [vf43,vb43,hc,hv,hh,go_sem,↓reduceIte,rA,rS,rE,rL,reduceCtorEq]
        simp [addT,hok,hvv,hf]
      | true =>
        rw [hf] at hh
        simp -implicitDefEqProofs (disch:=omega) only [vf43,vb43,hc,hv,hh,go_sem,↓reduceIte,rA,rS,rE,rL,reduceCtorEq]
        refine wp_count t.nodes.length (fun k st=>(t.nodes.take k).any (fun n=>decide (n.parent = p /\ n.name = s)) = false /\ st.pe 1 = .p (.int .i64 p) /\ st.pe 2 = .p (.str s) /\ st.pe 3 = .ptr (.slot 3 0) 0 0 /\ st.pe 6 = .ptr (.slot 6 0) 0 0 /\ st.pe 9 = .p (.int .i64 k) /\ st.h (.slot 3 0) = some (0,.box [.p (nodesP t.nodes),.p (.int .i64 t.next)]) /\ st.h (.slot 6 0) = some (0,.box [.own (.slot 6 1) 0 0 0,.p (.int .i64 0)]) /\ st.h (.slot 6 1) = some (0,.arr 6 [])) ?_ ?_
        · exact ⟨by simp,rfl,rfl,rfl,rfl,rfl,rfl,rfl,rfl⟩
        · rintro k st hk ⟨hno,h1,h2,h3,h6,h9,hh3,hh6,hh61⟩
          simp -implicitDefEqProofs (disch:=omega) only [h1,h2,h3,h6,h9,hh3,hh6,hh61,go_sem,↓reduceIte,rA,rS,rE,rL,reduceCtorEq]
          refine wp_if_d (fun hlt=>?_) (fun hge=>?_)
          · have hm : t.nodes[k]? = some t.nodes[k]:=lgg hlt
            generalize t.nodes[k] = m at hm
            simp -implicitDefEqProofs (disch:=omega) only [h1,h2,h3,h6,h9,hh3,hh6,hh61,hm,go_sem,↓reduceIte,rA,rS,rE,rL,reduceCtorEq]
            repeat' ((first | refine wp_grn_d (fun hb=>?_) (fun hb=>?_) | refine wp_gtn_d (fun hb=>?_) (fun hb=>?_) | refine wp_gr_d (fun hb=>?_) (fun hb=>?_) | refine wp_gt_d (fun hb=>?_) (fun hb=>?_) | refine wp_gr (fun hb=>?_) (fun hb=>?_) | refine wp_gt (fun hb=>?_) (fun hb=>?_) | refine wp_nt_d (fun hb=>?_) (fun hb=>?_) | refine wp_nt (fun hb=>?_) (fun hb=>?_) | refine wp_if_d (fun hb=>?_) (fun hb=>?_) | refine wp_if (fun hb=>?_) (fun hb=>?_)) <;> simp -implicitDefEqProofs (disch:=omega) only [hb,h1,h2,h3,h6,h9,hh3,hh6,hh61,hm,go_sem,↓reduceIte,rA,rS,rE,rL,reduceCtorEq])
            all_goals first
              | exact ⟨hlt,by rw [any_take hm,hno]; simp [*],by simp only [Int.natCast_add,Int.natCast_one]⟩
              | (have ha : (t.nodes.any fun n=>decide (n.parent = p /\ n.name = s)) = true:=by
                  rw [List.any_eq_true]
                  exact ⟨m,lmg hm,by simp [*]⟩
                 simp only [addT,hok,hvv,hf,ha,bas,Bool.true_eq_false,if_false,if_true,lpn]
                 rfl)
          · have ha : (t.nodes.any fun n=>decide (n.parent = p /\ n.name = s)) = false:=by
              rw [ltl (by omega)] at hno
              exact hno
            by_cases hb1 : (8 : Int) <= (ancR t p).length - 1
            · simp -implicitDefEqProofs (disch:=omega) only [h1,h2,h3,h6,h9,hh3,hh6,hh61,hge,hd,hb1,go_sem,↓reduceIte,rA,rS,rE,rL,reduceCtorEq]
              simp only [addT,hok,hvv,hf,ha,hb1,true_or,bas,Bool.true_eq_false,bft,if_false,if_true,lpn]
              rfl
            · by_cases hb2 : (64 : Int) <= t.nodes.length
              · simp -implicitDefEqProofs (disch:=omega) only [h1,h2,h3,h6,h9,hh3,hh6,hh61,hge,hd,hb1,hb2,go_sem,↓reduceIte,rA,rS,rE,rL,reduceCtorEq]
                simp only [addT,hok,hvv,hf,ha,hb1,show 64 <= t.nodes.length by omega,true_or,or_true,bas,Bool.true_eq_false,bft,if_false,if_true,lpn]
                rfl
              · by_cases hb3 : 2147483647 < t.next
                · simp -implicitDefEqProofs (disch:=omega) only [h1,h2,h3,h6,h9,hh3,hh6,hh61,hge,hd,hb1,hb2,hb3,go_sem,↓reduceIte,rA,rS,rE,rL,reduceCtorEq]
                  simp only [addT,hok,hvv,hf,ha,hb1,hb3,true_or,or_true,bas,Bool.true_eq_false,bft,if_false,if_true,lpn]
                  rfl
                · have hnx:=treeNext hok
                  simp -implicitDefEqProofs (disch:=omega) only [h1,h2,h3,h6,h9,hh3,hh6,hh61,hge,hd,hb1,hb2,hb3,hcp,go_sem,↓reduceIte,rA,rS,rE,rL,reduceCtorEq]
                  simp only [addT,hok,hvv,hf,ha,hb1,hb3,show ¬ 64 <= t.nodes.length by omega,or_self,bas,Bool.true_eq_false,bft,if_false,lma,lpc,lpn,Nd.pv,Tr.fv]
def removeT (t : Tr) (id : Int) : Tr × Int :=
 if treeOk t = false then (⟨[],0⟩,1)
 else if (findT t id).isSome = false then (⟨[],0⟩,4)
 else if id = 1 then (⟨[],0⟩,9)
 else if kids t id ≠ [] then (⟨[],0⟩,6)
 else (⟨t.nodes.filter fun n=>!decide (n.id = id),t.next⟩,0)
set_option maxHeartbeats 2000000 in
theorem rremove_eq (t : Tr) (id : Int) (hl : t.nodes.length < 1000000) : V 46 [t.vv,.p (.int .i64 id)] [] = some (.tup [(removeT t id).1.fv,.p (.int .i64 (removeT t id).2)],[]):=by
 refine V_wp (vf:=vf46) rfl ?_
 have hc:=rcheck_eq t hl
 have hh:=rhas_eq t id hl
 have hk:=rkids_eq t id hl
 cases hok : treeOk t with
 | false =>
  rw [hok] at hc
  simp -implicitDefEqProofs (disch:=omega) only [vf46,vb46,hc,go_sem,↓reduceIte,rA,rS,rE,rL,reduceCtorEq]
  simp [removeT,hok]
 | true =>
  rw [hok] at hc
  cases hf : (findT t id).isSome with
  | false =>
   rw [hf] at hh
   simp -implicitDefEqProofs (disch:=omega) only [vf46,vb46,hc,hh,go_sem,↓reduceIte,rA,rS,rE,rL,reduceCtorEq]
   simp [removeT,hok,hf]
  | true =>
   rw [hf] at hh
   by_cases h1 : id = 1
   ·subst h1
    simp -implicitDefEqProofs (disch:=omega) only [vf46,vb46,hc,hh,go_sem,↓reduceIte,rA,rS,rE,rL,reduceCtorEq]
    simp [removeT,hok,hf]
   ·by_cases h2 : (0 : Int) < (kids t id).length
    ·have h3 : kids t id ≠ []:=fun e=>by rw [e] at h2; simp at h2
     simp -implicitDefEqProofs (disch:=omega) only [vf46,vb46,hc,hh,hk,h1,h2,go_sem,↓reduceIte,rA,rS,rE,rL,reduceCtorEq]
     simp [removeT,hok,hf,h1,h3]
    ·have h3 : kids t id = []:=List.length_eq_zero_iff.1 (by omega)
     simp -implicitDefEqProofs (disch:=omega) only [vf46,vb46,hc,hh,hk,h1,h2,go_sem,↓reduceIte,rA,rS,rE,rL,reduceCtorEq]
     refine wp_count t.nodes.length (fun k s=>∃ (acc : List Nd) (v : Nat),acc = ((t.nodes.take k).filter fun n=>!decide (n.id = id)) /\ acc.length <= k /\ s.pe 1 = .p (.int .i64 id) /\ s.pe 2 = .ptr (.slot 2 0) 0 0 /\ s.pe 4 = .ptr (.slot 4 0) 0 0 /\ s.pe 6 = .ptr (.slot 6 0) 0 0 /\ s.pe 7 = .p (.int .i64 k) /\ s.h (.slot 2 0) = some (0,.box [.p (nodesP t.nodes),.p (.int .i64 t.next)]) /\ s.h (.slot 4 0) = some (0,.box [.own (.slot 4 1) 0 0 0,.p (.int .i64 0)]) /\
      s.h (.slot 6 0) = some (0,.box [.own (.slot 32 1) v 0 acc.length,.p (.int .i64 t.next)]) /\ s.h (.slot 32 1) = some (v,.arr 6 (acc.map Nd.pv))) ?_ ?_
     ·refine ⟨[],0,rfl,by simp,?_⟩
      simp -implicitDefEqProofs (disch:=omega) only [go_sem,↓reduceIte,rA,rS,rE,rL,reduceCtorEq]
      rfl
     ·rintro k s hk' ⟨acc,v,hacc,hlen,p1,p2,p4,p6,p7,hh2,hh4,hh6,hh32⟩
      simp -implicitDefEqProofs (disch:=omega) only [p1,p2,p4,p6,p7,hh2,hh4,hh6,hh32,go_sem,↓reduceIte,rA,rS,rE,rL,reduceCtorEq]
      refine wp_if_d (fun hlt=>?_) (fun hge=>?_)
      ·have hm : t.nodes[k]? = some t.nodes[k]:=lgg hlt
       generalize t.nodes[k] = m at hm
       simp -implicitDefEqProofs (disch:=omega) only [p1,p2,p4,p6,p7,hh2,hh4,hh6,hh32,hm,go_sem,↓reduceIte,rA,rS,rE,rL,reduceCtorEq]
       repeat' ((first | refine wp_grn_d (fun hb=>?_) (fun hb=>?_) | refine wp_gtn_d (fun hb=>?_) (fun hb=>?_) | refine wp_gr_d (fun hb=>?_) (fun hb=>?_) | refine wp_gt_d (fun hb=>?_) (fun hb=>?_) | refine wp_gr (fun hb=>?_) (fun hb=>?_) | refine wp_gt (fun hb=>?_) (fun hb=>?_) | refine wp_nt_d (fun hb=>?_) (fun hb=>?_) | refine wp_nt (fun hb=>?_) (fun hb=>?_) | refine wp_if_d (fun hb=>?_) (fun hb=>?_) | refine wp_if (fun hb=>?_) (fun hb=>?_)) <;> simp -implicitDefEqProofs (disch:=omega) only [hb,p1,p2,p4,p6,p7,hh2,hh4,hh6,hh32,hm,go_sem,↓reduceIte,rA,rS,rE,rL,reduceCtorEq])
       ·refine ⟨hlt,acc ++ [m],v + 1,?_,by simp; omega,by simp,by simp,by simp [Nd.pv]⟩
        rw [filter_take hm,hacc]
        simp [hb]
       ·refine ⟨hlt,acc,v,?_,by omega,by simp,by simp,by simp⟩
        rw [filter_take hm,hacc]
        simp [hb]
      ·rw [ltl (by omega)] at hacc
       simp -implicitDefEqProofs (disch:=omega) only [p1,p2,p4,p6,p7,hh2,hh4,hh6,hh32,hge,go_sem,↓reduceIte,rA,rS,rE,rL,reduceCtorEq]
       simp [removeT,hok,hf,h1,h3,hacc]
theorem nodesOk_append : ∀ (a pre b : List Nd),nodesOk pre (a ++ b) = (nodesOk pre a && nodesOk (pre ++ a) b)
 | [],pre,b=>by simp [nodesOk]
 | n :: a,pre,b=>by
  simp only [lca,nodesOk]
  rw [nodesOk_append a (pre ++ [n]) b]
  simp [Bool.and_assoc]
theorem nodeOk_nil {n : Nd} (h : nodeOk [] n = true) : n.id = 1 /\ n.parent = 0 /\ n.name = ⟨#[]⟩ /\ n.kind = 0:=by
 simp only [nodeOk,List.getLast?_nil,bat,decide_eq_true_eq] at h
 exact h.2
theorem nodeOk_some {pre : List Nd} {l n : Nd} (hl : pre.getLast? = some l) : nodeOk pre n = true ↔ ((n.kind = 0 \/ n.kind = 1) /\ 0 <= n.control /\ n.control <= 31 /\ 0 <= n.owner /\ n.owner <= 1048576) /\ l.id < n.id /\ validN n.name = true /\ (∀ x ∈ pre,¬ (x.parent = n.parent /\ x.name = n.name)) /\ ∃ x ∈ pre,x.id = n.parent:=by
 simp only [nodeOk,hl,bat,decide_eq_true_eq,Bool.not_eq_true',List.any_eq_false,List.any_eq_true]
 constructor
 ·rintro ⟨⟨h1,h2⟩,⟨⟨h3,h4⟩,h5⟩,h6⟩
  exact ⟨⟨h1,h2⟩,h3,h4,h5,h6⟩
 ·rintro ⟨⟨h1,h2⟩,h3,h4,h5,h6⟩
  exact ⟨⟨h1,h2⟩,⟨⟨h3,h4⟩,h5⟩,h6⟩
theorem ids_lt : ∀ (ns pre : List Nd),nodesOk pre ns = true -> (∀ (l : Nd),pre.getLast? = some l -> ∀ x ∈ pre,x.id <= l.id) ->
  (∀ x ∈ pre,∀ n ∈ ns,x.id < n.id) /\ ns.Pairwise fun a b=>a.id < b.id
 | [],_,_,_=>⟨fun _ _ _ h=>(by cases h),List.Pairwise.nil⟩
 | m :: ns,pre,h,hp=>by
  simp only [nodesOk,bat] at h
  have hm : ∀ x ∈ pre,x.id < m.id:=fun x hx=>by
   cases hl : pre.getLast? with
   | none=>rw [List.getLast?_eq_none_iff] at hl; rw [hl] at hx; cases hx
   | some l =>
    have:=((nodeOk_some hl).1 h.1).2.1
    have:=hp l hl x hx
    omega
  obtain ⟨h1,h2⟩:=ids_lt ns (pre ++ [m]) h.2 (fun l hl x hx=>by
   simp at hl
   subst hl
   rcases lmp.1 hx with hx | hx
   .exact Int.le_of_lt (hm x hx)
   .simp at hx; subst hx; exact Int.le_refl _)
  refine ⟨fun x hx n hn=>?_,lpw.2 ⟨fun n hn=>h1 m (by simp) n hn,h2⟩⟩
  rcases lmk.1 hn with rfl | hn
  .exact hm x hx
  .exact h1 x (by simp [hx]) n hn
structure TreeOk (t : Tr) : Prop where
 len : 1 <= t.nodes.length /\ t.nodes.length <= 64
 nodes : nodesOk [] t.nodes = true
 depth : ∀ n ∈ t.nodes,(up t.nodes n.id).length <= 9
 next : ∃ l,t.nodes.getLast? = some l /\ l.id < t.next /\ t.next <= 2147483648
theorem treeOk_iff (t : Tr) : treeOk t = true ↔ TreeOk t:=by
 simp only [treeOk,bat,decide_eq_true_eq,List.all_eq_true]
 constructor
 ·rintro ⟨⟨⟨h1,h2⟩,h3⟩,h4⟩
  cases hl : t.nodes.getLast? with
  | none=>rw [hl] at h4; cases h4
  | some l =>
   rw [hl] at h4
   simp only [decide_eq_true_eq] at h4
   exact ⟨h1,h2,h3,l,hl,h4⟩
 ·rintro ⟨h1,h2,h3,l,hl,h4⟩
  refine ⟨⟨⟨h1,h2⟩,h3⟩,?_⟩
  rw [hl]
  simpa using h4
theorem TreeOk.inc {t : Tr} (h : TreeOk t) : t.nodes.Pairwise fun a b=>a.id < b.id:=(ids_lt t.nodes [] h.nodes (fun _ h=>by simp at h)).2
theorem TreeOk.lt_next {t : Tr} (h : TreeOk t) : ∀ n ∈ t.nodes,n.id < t.next:=by
 obtain ⟨l,hl,h1,_⟩:=h.next
 intro n hn
 obtain ⟨i,hi⟩:=lgm hn
 have hlt:=(lgs.1 hi).1
 rw [List.getLast?_eq_getElem?] at hl
 have hlt2:=(lgs.1 hl).1
 have hinc:=List.pairwise_iff_getElem.1 h.inc
 rcases Nat.lt_or_ge i (t.nodes.length - 1) with h2 | h2
 ·have:=hinc i (t.nodes.length - 1) hlt hlt2 h2
  rw [(lgs.1 hi).2,(lgs.1 hl).2] at this
  omega
 ·have : i = t.nodes.length - 1:=by omega
  rw [this,hl] at hi
  simp at hi
  rw [<- hi]
  exact h1
theorem TreeOk.root {t : Tr} (h : TreeOk t) : ∃ r ns,t.nodes = r :: ns /\ r.id = 1 /\ r.parent = 0:=by
 cases hn : t.nodes with
 | nil=>have:=h.len.1; rw [hn] at this; simp at this
 | cons r ns =>
  have:=h.nodes
  rw [hn] at this
  simp only [nodesOk,bat] at this
  have:=nodeOk_nil this.1
  exact ⟨r,ns,rfl,this.1,this.2.1⟩
theorem newT_ok : TreeOk newT:=by
 refine ⟨by simp [newT],by decide,by decide,⟨1,0,⟨#[]⟩,0,0,0⟩,rfl,by decide,by decide⟩
theorem findN_some {ns : List Nd} {id : Int} (h : (findN ns id).isSome = true) : ∃ n ∈ ns,n.id = id:=by
 unfold findN at h
 rw [List.find?_isSome] at h
 obtain ⟨n,hn,h⟩:=h
 exact ⟨n,hn,by simpa using h⟩
theorem addT_ok {t : Tr} {p : Int} {s : ByteArray} (h0 : (addT t p s).2.2 = 0) : TreeOk t /\ TreeOk (addT t p s).1 /\ (addT t p s).1 = ⟨t.nodes ++ [⟨t.next,p,s,0,0,0⟩],t.next + 1⟩:=by
 unfold addT at h0 ⊢
 split at h0 <;> try (simp at h0; done)
 rename_i h1
 split at h0 <;> try (simp at h0; done)
 rename_i h2
 split at h0 <;> try (simp at h0; done)
 rename_i h3
 split at h0 <;> try (simp at h0; done)
 rename_i h4
 rw [if_neg h1,if_neg h2,if_neg h3,if_neg h4]
 simp only [Bool.not_eq_false,bat] at h1
 simp only [Bool.not_eq_false] at h2
 have hok:=(treeOk_iff t).1 h1.1
 refine ⟨hok,?_,rfl⟩
 have hf : (findN t.nodes p).isSome = true:=by
  unfold findT at h2
  rw [if_pos h1.1] at h2
  exact h2
 obtain ⟨l,hl,hl1,hl2⟩:=hok.next
 have hlt:=hok.lt_next
 have hup : ∀ id,id ≠ t.next -> up (t.nodes ++ [⟨t.next,p,s,0,0,0⟩]) id = up t.nodes id:=fun id hid=>by
  unfold up
  rw [List.reverse_append]
  simp only [List.reverse_cons,List.reverse_nil,lna,lca,upR]
  rw [if_neg (Ne.symm hid)]
 refine ⟨by simp; omega,?_,fun n hn=>?_,⟨⟨t.next,p,s,0,0,0⟩,by simp,by simp; omega,by simp; omega⟩⟩
 ·rw [nodesOk_append,hok.nodes]
  simp only [lna,nodesOk,bau,bta]
  rw [nodeOk_some hl]
  refine ⟨by simp,hl1,h1.2,fun x hx hd=>?_,findN_some hf⟩
  apply h3
  rw [List.any_eq_true]
  exact ⟨x,hx,by simpa using hd⟩
 ·simp only [lmp,List.mem_singleton] at hn
  rcases hn with hn | rfl
  ·rw [hup n.id (by have:=hlt n hn; omega)]
   exact hok.depth n hn
  ·have ha : ancR t p = up t.nodes p:=by unfold ancR; rw [if_pos h2]
   rw [ha] at h4
   have : up (t.nodes ++ [⟨t.next,p,s,0,0,0⟩]) t.next = t.next :: up t.nodes p:=by
    unfold up
    rw [List.reverse_append]
    simp only [List.reverse_cons,List.reverse_nil,lna,lca,upR,if_true]
   simp only
   rw [this]
   simp only [llc]
   omega
theorem upR_filter {q : Int} : ∀ (ns : List Nd) (id : Int),id ≠ q -> (∀ n ∈ ns,n.parent ≠ q) -> upR (ns.filter fun n=>!decide (n.id = q)) id = upR ns id
 | [],_,_,_=>rfl
 | n :: ns,id,hid,hp=>by
  have hp' : ∀ m ∈ ns,m.parent ≠ q:=fun m hm=>hp m (lmc _ hm)
  by_cases hq : n.id = q
  ·have : n.id ≠ id:=fun e=>hid (e ▸ hq)
   rw [List.filter_cons_of_neg (by simp [hq]),upR,if_neg this,upR_filter ns id hid hp']
  ·rw [List.filter_cons_of_pos (by simp [hq]),upR,upR]
   split
   .rw [upR_filter ns n.parent (hp n (lms ..)) hp']
   .rw [upR_filter ns id hid hp']
theorem nodesOk_filter {q : Int} (hq1 : q ≠ 1) : ∀ (ns pre : List Nd),nodesOk pre ns = true -> (∀ n ∈ ns,n.parent ≠ q) -> (∀ (l : Nd),pre.getLast? = some l -> ∀ x ∈ pre,x.id <= l.id) -> (pre.filter (fun n=>!decide (n.id = q)) = [] -> pre = []) ->
  nodesOk (pre.filter fun n=>!decide (n.id = q)) (ns.filter fun n=>!decide (n.id = q)) = true
 | [],_,_,_,_,_=>by simp [nodesOk]
 | n :: ns,pre,h,hp,hlast,hne=>by
  simp only [nodesOk,bat] at h
  have hinc:=ids_lt (n :: ns) pre (by simp only [nodesOk,bat]; exact h) hlast
  have hp' : ∀ m ∈ ns,m.parent ≠ q:=fun m hm=>hp m (lmc _ hm)
  have hlast' : ∀ (l : Nd),(pre ++ [n]).getLast? = some l -> ∀ x ∈ pre ++ [n],x.id <= l.id:=fun l hl x hx=>by
   simp at hl
   subst hl
   rcases lmp.1 hx with hx | hx
   ·exact Int.le_of_lt (hinc.1 x hx n (by simp))
   ·simp at hx; subst hx; exact Int.le_refl _
  by_cases hq : n.id = q
  ·have ih:=nodesOk_filter hq1 ns (pre ++ [n]) h.2 hp' hlast' (fun e=>by
    rw [List.filter_append,List.filter_cons_of_neg (by simp [hq]),List.filter_nil,lan] at e
    have:=hne e
    subst this
    exact absurd ((nodeOk_nil h.1).1.symm.trans hq) (Ne.symm hq1))
   rw [List.filter_append,List.filter_cons_of_neg (by simp [hq]),List.filter_nil,lan] at ih
   rw [List.filter_cons_of_neg (by simp [hq])]
   exact ih
  ·have ih:=nodesOk_filter hq1 ns (pre ++ [n]) h.2 hp' hlast' (fun e=>by
    rw [List.filter_append,List.filter_cons_of_pos (by simp [hq])] at e
    simp at e)
   rw [List.filter_append,List.filter_cons_of_pos (by simp [hq]),List.filter_nil] at ih
   rw [List.filter_cons_of_pos (by simp [hq])]
   simp only [nodesOk,bat]
   refine ⟨?_,ih⟩
   cases hl : pre.getLast? with
   | none =>
    rw [List.getLast?_eq_none_iff] at hl
    subst hl
    simpa using h.1
   | some l =>
    obtain ⟨b1,b2,b3,b4,x,hx,b5⟩:=(nodeOk_some hl).1 h.1
    have hin : x ∈ pre.filter fun n=>!decide (n.id = q):=by
     rw [List.mem_filter]
     exact ⟨hx,by simpa using (fun e=>hp n (by simp) (b5.symm.trans e))⟩
    cases hl2 : (pre.filter fun n=>!decide (n.id = q)).getLast? with
    | none =>
     rw [List.getLast?_eq_none_iff] at hl2
     rw [hl2] at hin
     cases hin
    | some l2 =>
     have hl2m:=List.mem_of_getLast? hl2
     rw [List.mem_filter] at hl2m
     rw [nodeOk_some hl2]
     exact ⟨b1,hinc.1 l2 hl2m.1 n (by simp),b3,fun y hy=>b4 y (List.mem_filter.1 hy).1,x,hin,b5⟩
theorem removeT_ok {t : Tr} {q : Int} (h0 : (removeT t q).2 = 0) : TreeOk t /\ TreeOk (removeT t q).1 /\ (removeT t q).1 = ⟨t.nodes.filter fun n=>!decide (n.id = q),t.next⟩:=by
 unfold removeT at h0 ⊢
 split at h0 <;> try (simp at h0; done)
 rename_i h1
 split at h0 <;> try (simp at h0; done)
 rename_i h2
 split at h0 <;> try (simp at h0; done)
 rename_i h3
 split at h0 <;> try (simp at h0; done)
 rename_i h4
 rw [if_neg h1,if_neg h2,if_neg h3,if_neg h4]
 simp only [Bool.not_eq_false] at h1 h2
 have hok:=(treeOk_iff t).1 h1
 have hpar : ∀ n ∈ t.nodes,n.parent ≠ q:=fun n hn e=>by
  apply h4
  unfold kids
  rw [if_pos h2]
  intro e2
  have : n ∈ t.nodes.filter fun n=>decide (n.parent = q):=by
   rw [List.mem_filter]
   exact ⟨hn,by simpa using e⟩
  have:=List.mem_map_of_mem (f:=(·.id)) this
  rw [e2] at this
  cases this
 refine ⟨hok,?_,rfl⟩
 obtain ⟨r,ns,hr,hr1,_⟩:=hok.root
 have hrin : r ∈ t.nodes.filter fun n=>!decide (n.id = q):=by
  rw [List.mem_filter,hr]
  exact ⟨by simp,by simp; intro e; exact h3 (e.symm.trans hr1)⟩
 have hnodes:=nodesOk_filter h3 t.nodes [] hok.nodes hpar (fun _ h=>by simp at h) (fun _=>rfl)
 refine ⟨⟨?_,?_⟩,by simpa using hnodes,fun n hn=>?_,?_⟩
 ·exact List.length_pos_of_mem hrin
 ·exact Nat.le_trans (List.length_filter_le _ _) hok.len.2
 ·rw [List.mem_filter] at hn
  have hid : n.id ≠ q:=by simpa using hn.2
  have : up (t.nodes.filter fun n=>!decide (n.id = q)) n.id = up t.nodes n.id:=by
   unfold up
   rw [<- List.filter_reverse]
   exact upR_filter _ _ hid fun m hm=>hpar m (by simpa using hm)
  simp only
  rw [this]
  exact hok.depth n hn.1
 ·cases hl : (t.nodes.filter fun n=>!decide (n.id = q)).getLast? with
  | none =>
   rw [List.getLast?_eq_none_iff] at hl
   rw [hl] at hrin
   cases hrin
  | some l =>
   have hm:=(List.mem_filter.1 (List.mem_of_getLast? hl)).1
   obtain ⟨_,_,_,h5⟩:=hok.next
   exact ⟨l,rfl,hok.lt_next l hm,h5⟩
def treeStep (L : List Int) (a : Nat) (t : Tr) : Tr × Nat :=
 let a1:=nextA L a t.nodes.length
 let p:=((t.nodes[(nextV L a t.nodes.length).toNat]?).map (·.id)).getD 0
 let r:=addT t p (nameV L a1)
 let a2:=nextA L a1 6
 let t1:=if r.2.2 = 0 then r.1 else t
 let a3:=nextA L a2 6
 if nextV L a2 6 = 5 then
  let q:=((t1.nodes[(nextV L a3 t1.nodes.length).toNat]?).map (·.id)).getD 0
  let u:=removeT t1 q
  (if u.2 = 0 then u.1 else t1,nextA L a3 t1.nodes.length)
 else (t1,a3)
def treeLoop (L : List Int) : Nat -> Nat -> Tr -> Tr × Nat
 | 0,a,t=>(t,a)
 | k + 1,a,t=>treeLoop L k (treeStep L a t).2 (treeStep L a t).1
def dTree (L : List Int) (a : Nat) (n : Nat) : Tr × Nat:=treeLoop L (nextV L a (n + 1)).toNat (nextA L a (n + 1)) newT
theorem treeStep_ok (L : List Int) (a : Nat) {t : Tr} (h : TreeOk t) : TreeOk (treeStep L a t).1:=by
 have h1 : ∀ p s,TreeOk (if (addT t p s).2.2 = 0 then (addT t p s).1 else t):=fun p s=>by
  split
  ·exact (addT_ok (by assumption)).2.1
  ·exact h
 unfold treeStep
 simp only
 split
 ·have h2 : ∀ (u : Tr) (q : Int),TreeOk u -> TreeOk (if (removeT u q).2 = 0 then (removeT u q).1 else u):=fun u q hu=>by
   split
   .exact (removeT_ok (by assumption)).2.1
   .exact hu
  exact h2 _ _ (h1 _ _)
 .exact h1 _ _
theorem treeLoop_ok (L : List Int) : ∀ (k a : Nat) {t : Tr},TreeOk t -> TreeOk (treeLoop L k a t).1
 | 0,_,_,h=>h
 | k + 1,a,_,h=>treeLoop_ok L k _ (treeStep_ok L a h)
theorem dTree_ok (L : List Int) (a n : Nat) : TreeOk (dTree L a n).1:=treeLoop_ok L _ _ newT_ok
set_option maxHeartbeats 4000000 in
theorem tree_eq (L : List Int) (a n : Nat) (hL : L.length < 4611686018427387904) (hn : n < 1000) : V 13 [.ptr (.arg 0 0) 0 0,.p (.int .i64 n)] [diceB L a] = some ((dTree L a n).1.vv,[diceB L (dTree L a n).2]):=by
 refine V_wp (vf:=vf13) rfl ?_
 have hnx:=next_eq L a ((n : Int) + 1) hL (by omega)
 have hn0:=nextV_nonneg L a ((n : Int) + 1)
 have hn1:=nextV_lt L a (n:=(n : Int) + 1) (by omega)
 simp -implicitDefEqProofs (disch:=omega) only [vf13,vb13,rnew_eq,hnx,go_sem,↓reduceIte,rA,rS,rE,rL,reduceCtorEq]
 refine wp_meas (σ:=Nat × Nat × Tr) (fun x s=>TreeOk x.2.2 /\ x.1 < 1000 /\ treeLoop L x.1 x.2.1 x.2.2 = dTree L a n /\ s.pe 0 = .ptr (.arg 0 0) 0 0 /\ s.pe 4 = .ptr (.slot 4 0) 0 0 /\ s.pe 5 = .ptr (.slot 5 0) 0 0 /\ s.pe 6 = .p (.int .i64 x.1) /\ s.h (.arg 0 0) = some (0,diceB L x.2.1) /\ s.h (.slot 4 0) = some (0,.box [.own (.slot 4 1) 0 0 0,.p (.int .i64 0)]) /\
  ∃ X, s.h (.slot 5 0) = some (0, .box [X, .p (.int .i64 x.2.2.next)]) /\ fz0 [8, 11, 13, 37, 58] s.h X = .p (nodesP x.2.2.nodes)) (fun x=>x.1) ((nextV L a (n + 1)).toNat, nextA L a (n + 1), newT) ?_ ?_
 ·refine ⟨newT_ok,by omega,rfl,?_⟩
  simp -implicitDefEqProofs (disch:=omega) only [Int.toNat_of_nonneg hn0,go_sem,↓reduceIte,rA,rS,rE,rL,reduceCtorEq]
  refine ⟨_,rfl,?_⟩
  simp -implicitDefEqProofs (disch:=omega) only [go_sem,↓reduceIte,rA,rS,rE,rL,reduceCtorEq]
 ·rintro ⟨k,b,t⟩ s ⟨hok,hk,htl,h0,h4,h5,h6,hh0,hh4,X,hh5,hX⟩
  simp only at hok hk htl h6 hh0 hh5 hX
  simp -implicitDefEqProofs (disch:=omega) only [h0,h4,h5,h6,hh0,hh4,hh5,hX,go_sem,↓reduceIte,rA,rS,rE,rL,reduceCtorEq]
  refine wp_if_d (fun hgt=>?_) (fun hle=>?_)
  ·obtain ⟨k',rfl⟩ : ∃ k',k = k' + 1:=⟨k - 1,by omega⟩
   have hlen:=hok.len
   have c1:=next_eq L b t.nodes.length hL (by omega)
   have c2:=nextV_nonneg L b t.nodes.length
   have c3:=nextV_lt L b (n:=t.nodes.length) (by omega)
   have hm : t.nodes[(nextV L b t.nodes.length).toNat]? = some t.nodes[(nextV L b t.nodes.length).toNat]:=lgg (by omega)
   generalize t.nodes[(nextV L b t.nodes.length).toNat]'(by omega) = m at hm
   have c4:=name_eq L (nextA L b t.nodes.length) hL
   have c5:=radd_eq t m.id (nameV L (nextA L b t.nodes.length)) (by omega)
   have c6 : V 45 [.ptr (.arg 0 0) 0 0,.p (.int .i64 6)] [diceB L (nextA L (nextA L b t.nodes.length) 6)] = some (.p (.bool (decide (nextV L (nextA L (nextA L b t.nodes.length) 6) 6 = 5))),[diceB L (nextA L (nextA L (nextA L b t.nodes.length) 6) 6)]):=bool_eq L _ 6 hL (by omega) (by omega)
   have hst : treeLoop L k' (treeStep L b t).2 (treeStep L b t).1 = dTree L a n:=htl
   have hstok:=treeStep_ok L b hok
   obtain ⟨t1,ht1,h1ok⟩ : ∃ t1,t1 = (if (addT t m.id (nameV L (nextA L b t.nodes.length))).2.2 = 0 then (addT t m.id (nameV L (nextA L b t.nodes.length))).1 else t) /\ TreeOk t1:=⟨_,rfl,by
    split
    ·exact (addT_ok (by assumption)).2.1
    ·exact hok⟩
   have hlen1:=h1ok.len
   have d1:=next_eq L (nextA L (nextA L (nextA L b t.nodes.length) 6) 6) t1.nodes.length hL (by omega)
   have d2:=nextV_nonneg L (nextA L (nextA L (nextA L b t.nodes.length) 6) 6) t1.nodes.length
   have d3:=nextV_lt L (nextA L (nextA L (nextA L b t.nodes.length) 6) 6) (n:=t1.nodes.length) (by omega)
   have hq : t1.nodes[(nextV L (nextA L (nextA L (nextA L b t.nodes.length) 6) 6) t1.nodes.length).toNat]? = some t1.nodes[(nextV L (nextA L (nextA L (nextA L b t.nodes.length) 6) 6) t1.nodes.length).toNat]:=lgg (by omega)
   generalize t1.nodes[(nextV L (nextA L (nextA L (nextA L b t.nodes.length) 6) 6) t1.nodes.length).toNat]'(by omega) = q at hq
   have d4:=rremove_eq t1 q.id (by omega)
   have hstep : treeStep L b t = if nextV L (nextA L (nextA L b t.nodes.length) 6) 6 = 5 then (if (removeT t1 q.id).2 = 0 then (removeT t1 q.id).1 else t1,nextA L (nextA L (nextA L (nextA L b t.nodes.length) 6) 6) t1.nodes.length) else (t1,nextA L (nextA L (nextA L b t.nodes.length) 6) 6):=by
    simp only [treeStep,hm,Option.map_some,Option.getD_some,<- ht1,hq]
   rw [hstep] at hst hstok
   by_cases he : (addT t m.id (nameV L (nextA L b t.nodes.length))).2.2 = 0
   ·rw [if_pos he] at ht1
    simp -implicitDefEqProofs (disch:=omega) only [h0,h4,h5,h6,hh0,hh4,hh5,hX,c1,c2,hm,c4,c5,c6,he,<- ht1,go_sem,↓reduceIte,rA,rS,rE,rL,reduceCtorEq]
    refine wp_if_d (fun h5b=>?_) (fun h5b=>?_)
    ·rw [if_pos h5b] at hst hstok
     by_cases hr : (removeT t1 q.id).2 = 0
     ·rw [if_pos hr] at hst hstok
      simp -implicitDefEqProofs (disch:=omega) only [h0,h4,h5,h6,hh0,hh4,hh5,hX,d1,d2,hq,d4,hr,go_sem,↓reduceIte,rA,rS,rE,rL,reduceCtorEq]
      refine ⟨(k',nextA L (nextA L (nextA L (nextA L b t.nodes.length) 6) 6) t1.nodes.length,(removeT t1 q.id).1),Nat.lt_succ_self _,hstok,by simp only; omega,hst,?_⟩
      simp -implicitDefEqProofs (disch:=omega) only [h0,h4,h5,h6,hh0,hh4,hh5,hX,go_sem,↓reduceIte,rA,rS,rE,rL,reduceCtorEq]
      refine ⟨by congr 2; omega,_,rfl,?_⟩
      simp -implicitDefEqProofs (disch:=omega) only [go_sem,↓reduceIte,rA,rS,rE,rL,reduceCtorEq]
     ·rw [if_neg hr] at hst hstok
      simp -implicitDefEqProofs (disch:=omega) only [h0,h4,h5,h6,hh0,hh4,hh5,hX,d1,d2,hq,d4,hr,go_sem,↓reduceIte,rA,rS,rE,rL,reduceCtorEq]
      refine ⟨(k',nextA L (nextA L (nextA L (nextA L b t.nodes.length) 6) 6) t1.nodes.length,t1),Nat.lt_succ_self _,hstok,by simp only; omega,hst,?_⟩
      simp -implicitDefEqProofs (disch:=omega) only [h0,h4,h5,h6,hh0,hh4,hh5,hX,go_sem,↓reduceIte,rA,rS,rE,rL,reduceCtorEq]
      refine ⟨by congr 2; omega,_,rfl,?_⟩
      simp -implicitDefEqProofs (disch:=omega) only [go_sem,↓reduceIte,rA,rS,rE,rL,reduceCtorEq]
    ·rw [if_neg h5b] at hst hstok
     simp -implicitDefEqProofs (disch:=omega) only [h0,h4,h5,h6,hh0,hh4,hh5,hX,go_sem,↓reduceIte,rA,rS,rE,rL,reduceCtorEq]
     refine ⟨(k',nextA L (nextA L (nextA L b t.nodes.length) 6) 6,t1),Nat.lt_succ_self _,hstok,by simp only; omega,hst,?_⟩
     simp -implicitDefEqProofs (disch:=omega) only [h0,h4,h5,h6,hh0,hh4,hh5,hX,go_sem,↓reduceIte,rA,rS,rE,rL,reduceCtorEq]
     refine ⟨by congr 2; omega,_,rfl,?_⟩
     simp -implicitDefEqProofs (disch:=omega) only [go_sem,↓reduceIte,rA,rS,rE,rL,reduceCtorEq]
   ·rw [if_neg he] at ht1
    subst ht1
    simp -implicitDefEqProofs (disch:=omega) only [h0,h4,h5,h6,hh0,hh4,hh5,hX,c1,c2,hm,c4,c5,c6,he,go_sem,↓reduceIte,rA,rS,rE,rL,reduceCtorEq]
    refine wp_if_d (fun h5b=>?_) (fun h5b=>?_)
    ·rw [if_pos h5b] at hst hstok
     by_cases hr : (removeT t1 q.id).2 = 0
     ·rw [if_pos hr] at hst hstok
      simp -implicitDefEqProofs (disch:=omega) only [h0,h4,h5,h6,hh0,hh4,hh5,hX,d1,d2,hq,d4,hr,go_sem,↓reduceIte,rA,rS,rE,rL,reduceCtorEq]
      refine ⟨(k',nextA L (nextA L (nextA L (nextA L b t1.nodes.length) 6) 6) t1.nodes.length,(removeT t1 q.id).1),Nat.lt_succ_self _,hstok,by simp only; omega,hst,?_⟩
      simp -implicitDefEqProofs (disch:=omega) only [h0,h4,h5,h6,hh0,hh4,hh5,hX,go_sem,↓reduceIte,rA,rS,rE,rL,reduceCtorEq]
      refine ⟨by congr 2; omega,_,rfl,?_⟩
      simp -implicitDefEqProofs (disch:=omega) only [go_sem,↓reduceIte,rA,rS,rE,rL,reduceCtorEq]
     ·rw [if_neg hr] at hst hstok
      simp -implicitDefEqProofs (disch:=omega) only [h0,h4,h5,h6,hh0,hh4,hh5,hX,d1,d2,hq,d4,hr,go_sem,↓reduceIte,rA,rS,rE,rL,reduceCtorEq]
      refine ⟨(k',nextA L (nextA L (nextA L (nextA L b t1.nodes.length) 6) 6) t1.nodes.length,t1),Nat.lt_succ_self _,hstok,by simp only; omega,hst,?_⟩
      simp -implicitDefEqProofs (disch:=omega) only [h0,h4,h5,h6,hh0,hh4,hh5,hX,go_sem,↓reduceIte,rA,rS,rE,rL,reduceCtorEq]
      refine ⟨by congr 2; omega,_,rfl,?_⟩
      simp -implicitDefEqProofs (disch:=omega) only [go_sem,↓reduceIte,rA,rS,rE,rL,reduceCtorEq]
    ·rw [if_neg h5b] at hst hstok
     simp -implicitDefEqProofs (disch:=omega) only [h0,h4,h5,h6,hh0,hh4,hh5,hX,go_sem,↓reduceIte,rA,rS,rE,rL,reduceCtorEq]
     refine ⟨(k',nextA L (nextA L (nextA L b t1.nodes.length) 6) 6,t1),Nat.lt_succ_self _,hstok,by simp only; omega,hst,?_⟩
     simp -implicitDefEqProofs (disch:=omega) only [h0,h4,h5,h6,hh0,hh4,hh5,hX,go_sem,↓reduceIte,rA,rS,rE,rL,reduceCtorEq]
     refine ⟨by congr 2; omega,_,rfl,?_⟩
     simp -implicitDefEqProofs (disch:=omega) only [go_sem,↓reduceIte,rA,rS,rE,rL,reduceCtorEq]
  ·have hk0 : k = 0:=by omega
   subst hk0
   simp only [treeLoop] at htl
   simp -implicitDefEqProofs (disch:=omega) only [h0,h4,h5,h6,hh0,hh4,hh5,hX,go_sem,↓reduceIte,rA,rS,rE,rL,reduceCtorEq]
   rw [<- htl]
def idxOf (ns : List Nd) (id : Int) : Int:=match ns.findIdx? (fun n=>decide (n.id = id)) with
 | some i=>i
 | none=>-1
theorem at1_eq (n : Nd) (id : Int) : V 235 [n.vv,.ptr (.arg 0 0) 0 0] [.box [.p (.int .i64 id)]] = some (.p (.bool (decide (n.id = id))),[.box [.p (.int .i64 id)]]):=by
 refine V_wp (vf:=vf235) rfl ?_
 simp -implicitDefEqProofs (disch:=omega) only [vf235,vb235,go_sem,↓reduceIte,rA,rS,rE,rL,reduceCtorEq]
theorem idxOf_at {ns : List Nd} {id : Int} {k : Nat} {m : Nd} (hm : ns[k]? = some m) (h : ∀ (i : Nat) (n : Nd),i < k -> ns[i]? = some n -> ¬ n.id = id) (he : m.id = id) : idxOf ns id = k:=by
 unfold idxOf
 have : ns.findIdx? (fun n=>decide (n.id = id)) = some k:=by
  rw [List.findIdx?_eq_some_iff_getElem]
  refine ⟨(lgs.1 hm).1,by rw [(lgs.1 hm).2]; simpa using he,fun j hj=>?_⟩
  have hl : j < ns.length:=Nat.lt_trans hj (lgs.1 hm).1
  simpa using h j ns[j] hj (lgg hl)
 rw [this]
theorem idxOf_none {ns : List Nd} {id : Int} (h : ∀ n ∈ ns,¬ n.id = id) : idxOf ns id = -1:=by
 unfold idxOf
 have : ns.findIdx? (fun n=>decide (n.id = id)) = none:=by
  rw [List.findIdx?_eq_none_iff]
  intro x hx
  simpa using h x hx
 rw [this]
theorem indexFunc_eq (ns : List Nd) (id : Int) (hl : ns.length < 1000000) : V 234 [.p (nodesP ns),.fn 235 [.ptr (.arg 0 0) 0 0]] [.box [.p (.int .i64 id)]] = some (.p (.int .i64 (idxOf ns id)),[.box [.p (.int .i64 id)]]):=by
 refine V_wp (vf:=vf234) rfl ?_
 simp -implicitDefEqProofs (disch:=omega) only [vf234,vb234,go_sem,↓reduceIte,rA,rS,rE,rL,reduceCtorEq]
 refine wp_count ns.length (fun k s=>(∀ (i : Nat) (n : Nd),i < k -> ns[i]? = some n -> ¬ n.id = id) /\ s.pe 0 = .p (nodesP ns) /\ s.pe 1 = .fn 235 [.ptr (.arg 0 0) 0 0] /\ s.pe 7 = .p (.int .i64 ns.length) /\ s.pe 8 = .p (.int .i64 k) /\ s.h (.arg 0 0) = some (0,.box [.p (.int .i64 id)])) ?_ ?_
 ·exact ⟨by omega,rfl,rfl,rfl,rfl,rfl⟩
 ·rintro k s hk ⟨hall,h0,h1,h7,h8,hh⟩
  simp -implicitDefEqProofs (disch:=omega) only [h0,h1,h7,h8,hh,go_sem,↓reduceIte,rA,rS,rE,rL,reduceCtorEq]
  refine wp_if_d (fun hlt=>?_) (fun hge=>?_)
  ·have hm : ns[k]? = some ns[k]:=lgg hlt
   generalize ns[k] = m at hm
   have hc:=at1_eq m id
   unfold Nd.vv at hc
   simp -implicitDefEqProofs (disch:=omega) only [h0,h1,h7,h8,hh,hm,hc,go_sem,↓reduceIte,rA,rS,rE,rL,reduceCtorEq]
   repeat' ((first | refine wp_grn_d (fun hb=>?_) (fun hb=>?_) | refine wp_gtn_d (fun hb=>?_) (fun hb=>?_) | refine wp_gr_d (fun hb=>?_) (fun hb=>?_) | refine wp_gt_d (fun hb=>?_) (fun hb=>?_) | refine wp_gr (fun hb=>?_) (fun hb=>?_) | refine wp_gt (fun hb=>?_) (fun hb=>?_) | refine wp_nt_d (fun hb=>?_) (fun hb=>?_) | refine wp_nt (fun hb=>?_) (fun hb=>?_) | refine wp_if_d (fun hb=>?_) (fun hb=>?_) | refine wp_if (fun hb=>?_) (fun hb=>?_)) <;> simp -implicitDefEqProofs (disch:=omega) only [hb,h0,h1,h7,h8,hh,go_sem,↓reduceIte,rA,rS,rE,rL,reduceCtorEq])
   .rw [idxOf_at hm hall hb]
   .exact ⟨hlt,lt_succ_cases hm hall hb,by simp only [Int.natCast_add,Int.natCast_one]⟩
  ·simp -implicitDefEqProofs (disch:=omega) only [h0,h1,h7,h8,hh,hge,go_sem,↓reduceIte,rA,rS,rE,rL,reduceCtorEq]
   rw [idxOf_none]
   intro n hn
   obtain ⟨i,hi⟩:=lgm hn
   exact hall i n (by have:=(lgs.1 hi).1; omega) hi
theorem at_eq (t : Tr) (id : Int) (hl : t.nodes.length < 1000000) : V 202 [t.vv,.p (.int .i64 id)] [] = some (.p (.int .i64 (idxOf t.nodes id)),[]):=by
 refine V_wp (vf:=vf202) rfl ?_
 have hc:=indexFunc_eq t.nodes id hl
 simp -implicitDefEqProofs (disch:=omega) only [vf202,vb202,hc,go_sem,↓reduceIte,rA,rS,rE,rL,reduceCtorEq]
theorem idxOf_lt (ns : List Nd) (id : Int) : (idxOf ns id < 0 /\ findN ns id = none) \/ ∃ (k : Nat) (m : Nd),idxOf ns id = k /\ ns[k]? = some m /\ findN ns id = some m /\ m.id = id:=by
 unfold idxOf findN
 cases h : ns.findIdx? (fun n=>decide (n.id = id)) with
 | none =>
  left
  rw [List.findIdx?_eq_none_iff] at h
  exact ⟨by show (-1 : Int) < 0; omega,List.find?_eq_none.2 fun x hx=>by simp [h x hx]⟩
 | some k =>
  right
  rw [List.findIdx?_eq_some_iff_getElem] at h
  obtain ⟨h1,h2,h3⟩:=h
  refine ⟨k,ns[k],rfl,lgg h1,find_take_none (k:=k) (fun i n hi hn=>?_) (lgg h1) h2,by simpa using h2⟩
  have:=h3 i hi
  rw [<- (lgs.1 hn).2]
  simpa using this
theorem ffind_eq (t : Tr) (id : Int) (hl : t.nodes.length < 1000000) : V 145 [t.vv,.p (.int .i64 id)] [] = some (.tup [((findN t.nodes id).getD zeroNd).vv,.p (.bool (findN t.nodes id).isSome)],[]):=by
 refine V_wp (vf:=vf145) rfl ?_
 have hc:=at_eq t id hl
 rcases idxOf_lt t.nodes id with ⟨h1,h2⟩ | ⟨k,m,h1,h2,h3,h4⟩
 ·simp -implicitDefEqProofs (disch:=omega) only [vf145,vb145,hc,h1,go_sem,↓reduceIte,rA,rS,rE,rL,reduceCtorEq]
  simp [h2,zeroNd,Nd.vv]
 ·rw [h1] at hc
  have hk : ¬ (k : Int) < 0:=by omega
  simp -implicitDefEqProofs (disch:=omega) only [vf145,vb145,hc,hk,h2,go_sem,↓reduceIte,rA,rS,rE,rL,reduceCtorEq]
  simp [h3,Nd.vv]
def ancF (ns : List Nd) : Nat -> Int -> List Int
 | 0,_=>[]
 | k + 1,id=>match findN ns id with
  | none=>[]
  | some n=>id :: ancF ns k n.parent
theorem ancF_length (ns : List Nd) : ∀ (k : Nat) (id : Int),(ancF ns k id).length <= k
 | 0,_=>lrf _
 | k + 1,id=>by
  unfold ancF
  split
  ·simp
  ·have:=ancF_length ns k
   simp
   exact this _
theorem fanc_eq (t : Tr) (id : Int) (hl : t.nodes.length < 1000000) : V 179 [t.vv,.p (.int .i64 id)] [] = some (.fresh 1 ((ancF t.nodes t.nodes.length id).map (.int .i64)),[]):=by
 refine V_wp (vf:=vf179) rfl ?_
 simp -implicitDefEqProofs (disch:=omega) only [vf179,vb179,go_sem,↓reduceIte,rA,rS,rE,rL,reduceCtorEq]
 refine wp_count t.nodes.length (fun k s=>∃ (acc : List Int) (cur : Int) (v : Nat),ancF t.nodes t.nodes.length id = acc ++ ancF t.nodes (t.nodes.length - k) cur /\ acc.length <= k /\ s.pe 1 = .p (.int .i64 cur) /\ s.pe 2 = .ptr (.slot 2 0) 0 0 /\ s.pe 5 = .own (.slot 5 0) v 0 acc.length /\ s.pe 10 = .p (.int .i64 t.nodes.length) /\ s.pe 11 = .p (.int .i64 k) /\ s.h (.slot 2 0) = some (0,.box [.p (nodesP t.nodes),.p (.int .i64 t.next)]) /\ s.h (.slot 5 0) = some (v,.arr 1 (acc.map (.int .i64)))) ?_ ?_
 ·exact ⟨[],id,0,by simp,by simp,rfl,rfl,rfl,rfl,rfl,rfl,rfl⟩
 ·rintro k s hk ⟨acc,cur,v,hup,hlen,h1,h2,h5,h10,h11,hh2,hh5⟩
  simp -implicitDefEqProofs (disch:=omega) only [h1,h2,h5,h10,h11,hh2,hh5,go_sem,↓reduceIte,rA,rS,rE,rL,reduceCtorEq]
  refine wp_if_d (fun hlt=>?_) (fun hge=>?_)
  ·have hc:=ffind_eq t cur hl
   obtain ⟨d,hd⟩ : ∃ d,t.nodes.length - k = d + 1:=⟨t.nodes.length - k - 1,by omega⟩
   have hd' : t.nodes.length - (k + 1) = d:=by omega
   rw [hd,ancF] at hup
   cases hf : findN t.nodes cur with
   | none =>
    rw [hf] at hc hup
    simp only [Option.getD_none,Option.isSome_none,lan] at hc hup
    unfold Nd.vv zeroNd at hc
    simp -implicitDefEqProofs (disch:=omega) only [h1,h2,h5,h10,h11,hh2,hh5,hc,go_sem,↓reduceIte,rA,rS,rE,rL,reduceCtorEq]
    rw [hup]
   | some m =>
    rw [hf] at hc hup
    simp only [Option.getD_some,Option.isSome_some] at hc hup
    unfold Nd.vv at hc
    simp -implicitDefEqProofs (disch:=omega) only [h1,h2,h5,h10,h11,hh2,hh5,hc,go_sem,↓reduceIte,rA,rS,rE,rL,reduceCtorEq]
    exact ⟨hlt,acc ++ [cur],m.parent,v + 1,by rw [hup,hd']; simp,by simp; omega,rfl,by simp,by simp only [Int.natCast_add,Int.natCast_one],by simp⟩
  ·have hz : t.nodes.length - k = 0:=by omega
   rw [hz,ancF,lan] at hup
   simp -implicitDefEqProofs (disch:=omega) only [h1,h2,h5,h10,h11,hh2,hh5,hge,go_sem,↓reduceIte,rA,rS,rE,rL,reduceCtorEq]
   rw [hup]
theorem troot_eq (n : Nd) : V 142 [n.vv] [] = some (.p (.bool (decide (n.id = 1 /\ n.parent = 0 /\ n.name = ⟨#[]⟩ /\ n.kind = 0))),[]):=by
 refine V_wp (vf:=vf142) rfl ?_
 simp -implicitDefEqProofs (disch:=omega) only [vf142,vb142,go_sem,↓reduceIte,rA,rS,rE,rL,reduceCtorEq]
 repeat' ((first | refine wp_grn_d (fun hb=>?_) (fun hb=>?_) | refine wp_gtn_d (fun hb=>?_) (fun hb=>?_) | refine wp_gr_d (fun hb=>?_) (fun hb=>?_) | refine wp_gt_d (fun hb=>?_) (fun hb=>?_) | refine wp_gr (fun hb=>?_) (fun hb=>?_) | refine wp_gt (fun hb=>?_) (fun hb=>?_) | refine wp_nt_d (fun hb=>?_) (fun hb=>?_) | refine wp_nt (fun hb=>?_) (fun hb=>?_) | refine wp_if_d (fun hb=>?_) (fun hb=>?_) | refine wp_if (fun hb=>?_) (fun hb=>?_)) <;> simp -implicitDefEqProofs (disch:=omega) only [hb,go_sem,↓reduceIte,rA,rS,rE,rL,reduceCtorEq])
 all_goals
  simp only [pmi,VVal.p.injEq,PV.bool.injEq,and_true]
  rw [Bool.eq_iff_iff]
  simp only [decide_eq_true_eq,bft,false_iff]
  simp [*]
def fineB (pre : List Nd) (l n : Nd) : Bool:=decide (l.id < n.id) && validN n.name && decide (n.kind = 0 \/ n.kind = 1) && !(pre.any fun x=>decide (x.parent = n.parent /\ x.name = n.name)) && pre.any fun x=>decide (x.id = n.parent)
set_option maxHeartbeats 2000000 in
theorem tfine_eq (pre : List Nd) (l n : Nd) (hl : pre.getLast? = some l) (hlen : pre.length < 1000000) (hs : n.name.size < 9223372036854775808) : V 143 [.p (nodesP pre),n.vv] [] = some (.p (.bool (fineB pre l n)),[]):=by
  refine V_wp (vf:=vf143) rfl ?_
  have hpre : pre[((pre.length : Int) - 1).toNat]? = some l:=by
    rw [List.getLast?_eq_getElem?] at hl
    rw [show ((pre.length : Int) - 1).toNat = pre.length - 1 by omega]
    exact hl
  have hpos : 0 < pre.length:=by
    have := (List.getElem?_eq_some_iff.1 hpre).1
    omega
  have hp0 : 0 <= (pre.length : Int) - 1:=by omega
  have hv := pvalid_eq n.name hs
  simp -implicitDefEqProofs (disch:=omega) only [vf143,vb143,hpre,hp0,go_sem,↓reduceIte,rA,rS,rE,rL,reduceCtorEq]
  repeat' ((first | refine wp_grn_d (fun hb=>?_) (fun hb=>?_) | refine wp_gtn_d (fun hb=>?_) (fun hb=>?_) | refine wp_gr_d (fun hb=>?_) (fun hb=>?_) | refine wp_gt_d (fun hb=>?_) (fun hb=>?_) | refine wp_gr (fun hb=>?_) (fun hb=>?_) | refine wp_gt (fun hb=>?_) (fun hb=>?_) | refine wp_nt_d (fun hb=>?_) (fun hb=>?_) | refine wp_nt (fun hb=>?_) (fun hb=>?_) | refine wp_if_d (fun hb=>?_) (fun hb=>?_) | refine wp_if (fun hb=>?_) (fun hb=>?_)) <;> simp -implicitDefEqProofs (disch:=omega) only [hb,hpre,hv,go_sem,↓reduceIte,rA,rS,rE,rL,reduceCtorEq])
  all_goals first
    | (simp only [fineB,pmi,VVal.p.injEq,PV.bool.injEq,and_true]
       rw [Bool.eq_iff_iff]
       simp only [bat,decide_eq_true_eq,bft,false_iff]
       try simp only [*]
       first | omega | (simp; done) | (simp; omega))
    | (have hvf : validN n.name = false:=by simpa using ‹(!validN n.name) = true›
       simp only [fineB,hvf,Bool.and_false,bfa]
       done)
    | skip
  all_goals
    have hvt : validN n.name = true:=by simpa using ‹(!validN n.name) = false›
    refine wp_count pre.length (fun k s=>((pre.take k).any (fun x=>decide (x.parent = n.parent /\ x.name = n.name)) = false) /\ s.pe 3 = .ptr (.slot 3 0) 0 0 /\ s.pe 5 = .p (.bool ((pre.take k).any fun x=>decide (x.id = n.parent))) /\ s.pe 34 = .p (nodesP pre) /\ s.pe 35 = .p (.int .i64 pre.length) /\ s.pe 36 = .p (.int .i64 k) /\ s.h (.slot 3 0) = some (0,.box (n.pv.cells.map .p))) ?_ ?_
    · exact ⟨by simp,rfl,rfl,rfl,rfl,rfl,by simp -implicitDefEqProofs (disch:=omega) only [go_sem,↓reduceIte,rA,rS,rE,rL,reduceCtorEq]; simp only [*]⟩
    · rintro k s hk ⟨hno,h3,h5,h34,h35,h36,hh3⟩
      simp only [Nd.pv,PV.cells,lpc,lpn] at hh3
      simp -implicitDefEqProofs (disch:=omega) only [h3,h5,h34,h35,h36,hh3,go_sem,↓reduceIte,rA,rS,rE,rL,reduceCtorEq]
      refine wp_if_d (fun hki=>?_) (fun hge=>?_)
      · have hm : pre[k]? = some pre[k]:=lgg (by omega)
        generalize pre[k] = m at hm
        simp -implicitDefEqProofs (disch:=omega) only [h3,h5,h34,h35,h36,hh3,hm,hki,go_sem,↓reduceIte,rA,rS,rE,rL,reduceCtorEq]
        repeat' ((first | refine wp_grn_d (fun hb=>?_) (fun hb=>?_) | refine wp_gtn_d (fun hb=>?_) (fun hb=>?_) | refine wp_gr_d (fun hb=>?_) (fun hb=>?_) | refine wp_gt_d (fun hb=>?_) (fun hb=>?_) | refine wp_gr (fun hb=>?_) (fun hb=>?_) | refine wp_gt (fun hb=>?_) (fun hb=>?_) | refine wp_nt_d (fun hb=>?_) (fun hb=>?_) | refine wp_nt (fun hb=>?_) (fun hb=>?_) | refine wp_if_d (fun hb=>?_) (fun hb=>?_) | refine wp_if (fun hb=>?_) (fun hb=>?_)) <;> simp -implicitDefEqProofs (disch:=omega) only [hb,h3,h5,h34,h35,h36,hh3,hm,hki,go_sem,↓reduceIte,rA,rS,rE,rL,reduceCtorEq])
        all_goals first
          | (have ha : (pre.any fun x=>decide (x.parent = n.parent /\ x.name = n.name)) = true:=by
              rw [List.any_eq_true]
              exact ⟨m,lmg hm,by simp [*]⟩
             simp only [fineB,ha,Bool.not_true,Bool.and_false,bfa]
             done)
          | exact ⟨by rw [any_take hm,hno]; simp [*],by rw [any_take hm]; simp [*],by simp only [Int.natCast_add,Int.natCast_one]⟩
      · simp -implicitDefEqProofs (disch:=omega) only [h3,h5,h34,h35,h36,hh3,hge,go_sem,↓reduceIte,rA,rS,rE,rL,reduceCtorEq]
        have hki : k = pre.length:=by omega
        subst hki
        rw [List.take_length] at hno ⊢
        simp only [fineB,hno,pmi,VVal.p.injEq,PV.bool.injEq,and_true]
        rw [Bool.eq_iff_iff]
        simp only [bat,decide_eq_true_eq,bnf,and_true,true_and]
        exact ⟨fun h=>⟨⟨⟨by omega,hvt⟩,by omega⟩,h⟩,fun h=>h.2⟩
theorem fineB_nodeOk {pre : List Nd} {l n : Nd} (hl : pre.getLast? = some l) : nodeOk pre n = (decide (0 <= n.control /\ n.control <= 31 /\ 0 <= n.owner /\ n.owner <= 1048576) && fineB pre l n):=by
 rw [Bool.eq_iff_iff]
 simp only [nodeOk,hl,fineB,bat,decide_eq_true_eq]
 constructor
 ·rintro ⟨⟨h1,h2⟩,⟨⟨h3,h4⟩,h5⟩,h6⟩
  exact ⟨h2,⟨⟨⟨h3,h4⟩,h1⟩,h5⟩,h6⟩
 ·rintro ⟨h2,⟨⟨⟨h3,h4⟩,h1⟩,h5⟩,h6⟩
  exact ⟨⟨h1,h2⟩,⟨⟨h3,h4⟩,h5⟩,h6⟩
theorem andNot31 {a : Int} (h0 : 0 <= a) (h1 : a < 9223372036854775808) : (IntKind.i64.wrap ((BitVec.ofInt IntKind.i64.bits a &&& ~~~ BitVec.ofInt IntKind.i64.bits 31).toNat : Int) = 0) = (a <= 31):=by
 have e64 : IntKind.i64.bits = 64:=rfl
 rw [eq_iff_iff]
 generalize hx : BitVec.ofInt IntKind.i64.bits a = x
 generalize hy : (x &&& ~~~ BitVec.ofInt IntKind.i64.bits 31) = y
 have hxn : x.toNat = a.toNat:=by
  rw [<- hx,BitVec.toNat_ofInt]
  rw [e64]
  omega
 have hbit : ∀ i,y.getLsbD i = (x.getLsbD i && decide (5 <= i)):=fun i=>by
  rw [<- hy,BitVec.getLsbD_and,BitVec.getLsbD_not]
  have h31 : (BitVec.ofInt IntKind.i64.bits 31).getLsbD i = decide (i < 5):=by
   rw [show BitVec.ofInt IntKind.i64.bits 31 = BitVec.ofNat IntKind.i64.bits 31 from rfl,BitVec.getLsbD_ofNat]
   rw [show (31 : Nat) = 2 ^ 5 - 1 from rfl,Nat.testBit_two_pow_sub_one,e64]
   rw [Bool.eq_iff_iff]
   simp
   omega
  rw [h31]
  by_cases hi : i < IntKind.i64.bits
  ·rw [Bool.eq_iff_iff]
   simp [hi]
  ·have : x.getLsbD i = false:=BitVec.getLsbD_of_ge x i (by omega)
   simp [this]
 have hyle : y.toNat <= x.toNat:=by
  rw [<- hy,BitVec.toNat_and]
  exact Nat.and_le_left
 have hw : IntKind.i64.wrap (y.toNat : Int) = y.toNat:=wrap64 (by omega) (by omega)
 rw [hw]
 constructor
 ·intro h
  have hy0 : y = 0#_:=BitVec.eq_of_toNat_eq (by simpa using h)
  have hlt : x.toNat < 2 ^ 5:=Nat.lt_pow_two_of_testBit _ fun i hi=>by
   have:=hbit i
   rw [hy0] at this
   simp only [BitVec.getLsbD_zero,decide_eq_true hi,bau] at this
   exact this.symm
  omega
 ·intro h
  have hlt : x.toNat < 2 ^ 5:=by omega
  have hy0 : y = 0#_:=BitVec.eq_of_getLsbD_eq fun i hi=>by
   rw [hbit i]
   by_cases h5 : 5 <= i
   ·have : x.getLsbD i = false:=by
     rw [BitVec.getLsbD]
     exact Nat.testBit_lt_two_pow (Nat.lt_of_lt_of_le hlt (Nat.pow_le_pow_right (by omega) h5))
    simp [this]
   .simp [h5]
  rw [hy0]
  simp
theorem antI31 {a : Int} (h0 : 0 <= a) (h1 : a < 9223372036854775808) : (antI .i64 a 31 = 0) = (a <= 31):=andNot31 h0 h1
theorem upR_append_skip {id : Int} : ∀ (a b : List Nd),(∀ x ∈ a,x.id ≠ id) -> upR (a ++ b) id = upR b id
 | [],_,_=>rfl
 | x :: a,b,h=>by
  rw [lca,upR,if_neg (h x (lms ..)),upR_append_skip a b fun y hy=>h y (lmc _ hy)]
theorem up_snoc_eq (pre : List Nd) (m : Nd) : up (pre ++ [m]) m.id = m.id :: up pre m.parent:=by
 unfold up
 rw [List.reverse_append]
 simp only [List.reverse_cons,List.reverse_nil,lna,lca,upR,if_true]
theorem up_snoc_ne (pre : List Nd) (m : Nd) {id : Int} (h : m.id ≠ id) : up (pre ++ [m]) id = up pre id:=by
 unfold up
 rw [List.reverse_append]
 simp only [List.reverse_cons,List.reverse_nil,lna,lca,upR]
 rw [if_neg h]
theorem up_take {ns : List Nd} (hinc : ns.Pairwise fun a b=>a.id < b.id) {k : Nat} {n : Nd} (hn : n ∈ ns.take k) : up ns n.id = up (ns.take k) n.id:=by
 unfold up
 conv=>lhs; rw [<- List.take_append_drop k ns,List.reverse_append]
 refine upR_append_skip _ _ fun x hx=>?_
 rw [List.mem_reverse] at hx
 rw [<- List.take_append_drop k ns,List.pairwise_append] at hinc
 have:=hinc.2.2 n hn x hx
 omega
theorem mget_mput_same : ∀ (ks : List MKey) (vs : List PV) (k : MKey) (v : PV),mget (mput ks vs k v).1 (mput ks vs k v).2 k = some v
 | [],vs,k,v=>by cases vs <;> simp [mput,mget]
 | x :: ks,[],k,v=>by simp [mput,mget]
 | x :: ks,y :: vs,k,v=>by
  unfold mput
  split
  ·rename_i h
   simp [mget,h]
  ·rename_i h
   simp only [mget,if_neg h]
   exact mget_mput_same ks vs k v
theorem mget_mput_other : ∀ (ks : List MKey) (vs : List PV) (k k' : MKey) (v : PV),ks.length = vs.length -> k' ≠ k -> mget (mput ks vs k v).1 (mput ks vs k v).2 k' = mget ks vs k'
 | [],[],k,k',v,_,h=>by simp [mput,mget,h]
 | [],_ :: _,k,k',v,hl,h=>by simp at hl
 | x :: ks,[],k,k',v,hl,h=>by simp at hl
 | x :: ks,y :: vs,k,k',v,hl,h=>by
  unfold mput
  split
  ·rename_i e
   subst e
   simp [mget,h]
  ·simp only [mget]
   split
   .rfl
   .exact mget_mput_other ks vs k k' v (by simpa using hl) h
theorem mput_len : ∀ (ks : List MKey) (vs : List PV) (k : MKey) (v : PV),ks.length = vs.length -> (mput ks vs k v).1.length = (mput ks vs k v).2.length
 | [],[],_,_,_=>rfl
 | [],_ :: _,_,_,h=>by simp at h
 | _ :: _,[],_,_,h=>by simp at h
 | x :: ks,y :: vs,k,v,h=>by
  unfold mput
  split
  ·simpa using h
  ·simp only [llc]
   rw [mput_len ks vs k v (by simpa using h)]
structure Nd.Fits (n : Nd) : Prop where
 name : n.name.size < 9223372036854775808
 control : n.control < 9223372036854775808
def Tr.Fits (t : Tr) : Prop:=∀ n ∈ t.nodes,n.Fits
theorem treeOk_false_of_node {t : Tr} {k : Nat} {m : Nd} (hm : t.nodes[k]? = some m) (h : nodeOk (t.nodes.take k) m = false) : treeOk t = false:=by
 rw [Bool.eq_false_iff]
 intro h0
 have:=(nodesOk_iff _ _).1 ((treeOk_iff t).1 h0).nodes k m hm
 rw [lna,h] at this
 cases this
theorem treeOk_false_of_depth {t : Tr} {k : Nat} {m : Nd} (hm : t.nodes[k]? = some m) (h : 9 < (up (t.nodes.take (k + 1)) m.id).length) : treeOk t = false:=by
 rw [Bool.eq_false_iff]
 intro h0
 have hok:=(treeOk_iff t).1 h0
 have hin : m ∈ t.nodes.take (k + 1):=by
  have : (t.nodes.take (k + 1))[k]? = some m:=by rw [List.getElem?_take,if_pos (by omega)]; exact hm
  exact lmg this
 have:=hok.depth m (lmg hm)
 rw [up_take hok.inc hin] at this
 omega
theorem nodeOk_bad {pre : List Nd} {n : Nd} (h : ¬ (0 <= n.control /\ n.control <= 31 /\ 0 <= n.owner /\ n.owner <= 1048576)) : nodeOk pre n = false:=by
 simp only [nodeOk,decide_eq_false h,Bool.and_false,bfa]
set_option maxHeartbeats 4000000 in
theorem tcheck_eq (t : Tr) (hf : t.Fits) (hl : t.nodes.length < 1000000) : V 70 [t.vv] [] = some (.p (.bool (treeOk t)),[]):=by
 refine V_wp (vf:=vf70) rfl ?_
 by_cases h1 : (t.nodes.length : Int) < 1
 ·simp -implicitDefEqProofs (disch:=omega) only [vf70,vb70,h1,go_sem,↓reduceIte,rA,rS,rE,rL,reduceCtorEq]
  simp [treeOk,show ¬ 1 <= t.nodes.length by omega]
 by_cases h2 : 64 < (t.nodes.length : Int)
 ·simp -implicitDefEqProofs (disch:=omega) only [vf70,vb70,h1,h2,go_sem,↓reduceIte,rA,rS,rE,rL,reduceCtorEq]
  simp [treeOk,show ¬ t.nodes.length <= 64 by omega]
 have hz : (0 : Int).toNat = 0:=rfl
 have hr0 : t.nodes[0]? = some t.nodes[0]:=lgg (by omega)
 generalize t.nodes[0] = r at hr0
 have hroot:=troot_eq r
 by_cases hr : ¬ (r.id = 1 /\ r.parent = 0 /\ r.name = ⟨#[]⟩ /\ r.kind = 0)
 ·rw [decide_eq_false hr] at hroot
  unfold Nd.vv at hroot
  simp -implicitDefEqProofs (disch:=omega) only [vf70,vb70,h1,h2,hz,hr0,hroot,go_sem,↓reduceIte,rA,rS,rE,rL,reduceCtorEq]
  rw [treeOk_false_of_node hr0]
  rw [Bool.eq_false_iff]
  intro h0
  exact hr (nodeOk_nil (by simpa using h0))
 have hr := Classical.not_not.1 hr
 rw [decide_eq_true hr] at hroot
 unfold Nd.vv at hroot
 simp -implicitDefEqProofs (disch:=omega) only [vf70,vb70,h1,h2,hz,hr0,hroot,go_sem,↓reduceIte,rA,rS,rE,rL,reduceCtorEq]
 refine wp_count t.nodes.length (fun k s=>∃ (ks : List MKey) (vs : List PV),ks.length = vs.length /\ (k = 0 -> ks = [] /\ vs = []) /\ (∀ (i : Nat) (n : Nd),i < k -> t.nodes[i]? = some n -> (mget ks vs (.int n.id)).getD (.int .i64 0) = .int .i64 (((up (t.nodes.take k) n.id).length : Int) - 1)) /\
  (∀ (i : Nat) (n : Nd),i < k -> t.nodes[i]? = some n -> nodeOk (t.nodes.take i) n = true) /\ (∀ (i : Nat) (n : Nd),i < k -> t.nodes[i]? = some n -> (up (t.nodes.take k) n.id).length <= 9) /\ s.pe 1 = .ptr (.slot 1 0) 0 0 /\ s.pe 3 = .mref (.slot 24 0) 0 /\ s.pe 26 = .p (nodesP t.nodes) /\ s.pe 27 = .p (.int .i64 t.nodes.length) /\ s.pe 28 = .p (.int .i64 k) /\
  s.h (.slot 1 0) = some (0,.box [.p (nodesP t.nodes),.p (.int .i64 t.next)]) /\ s.h (.slot 24 0) = some (0,.map (.int .i64) ks vs)) ?_ ?_
 ·refine ⟨[],[],rfl,fun _=>⟨rfl,rfl⟩,by omega,by omega,by omega,?_⟩
  simp -implicitDefEqProofs (disch:=omega) only [go_sem,↓reduceIte,rA,rS,rE,rL,reduceCtorEq]
  rfl
 ·rintro k s hk ⟨ks,vs,hkl,hk0,hdep,hnok,hup,p1,p3,p26,p27,p28,hh1,hh24⟩
  simp -implicitDefEqProofs (disch:=omega) only [p1,p3,p26,p27,p28,hh1,hh24,go_sem,↓reduceIte,rA,rS,rE,rL,reduceCtorEq]
  refine wp_if_d (fun hlt=>?_) (fun hge=>?_)
  ·have hm : t.nodes[k]? = some t.nodes[k]:=lgg hlt
   generalize t.nodes[k] = m at hm
   have hfit:=hf m (lmg hm)
   have hctl:=hfit.control
   by_cases hbad : 0 <= m.control /\ m.control <= 31 /\ 0 <= m.owner /\ m.owner <= 1048576
   ·have c1 : ¬ m.control < 0:=by omega
    have c2 : m.control <= 31:=by omega
    have c3 : ¬ m.owner < 0:=by omega
    have c4 : ¬ 1048576 < m.owner:=by omega
    have hbits:=antI31 hbad.1 hctl
    by_cases hkp : 0 < (k : Int)
    ·obtain ⟨l,hlast⟩ : ∃ l,(t.nodes.take k).getLast? = some l:=by
      cases hq : (t.nodes.take k).getLast? with
      | none =>
       rw [List.getLast?_eq_none_iff] at hq
       have:=congrArg List.length hq
       rw [llt,lln] at this
       omega
      | some l=>exact ⟨l,rfl⟩
     have hfine:=tfine_eq (t.nodes.take k) l m hlast (by simp; omega) hfit.name
     unfold Nd.vv nodesP at hfine
     have hle : k <= t.nodes.length:=hk
     cases hfb : fineB (t.nodes.take k) l m with
     | false =>
      rw [hfb] at hfine
      simp -implicitDefEqProofs (disch:=omega) only [p1,p3,p26,p27,p28,hh1,hh24,hm,hbits,c1,c2,c3,c4,hkp,hle,Nat.sub_zero,<- List.map_take,hfine,go_sem,↓reduceIte,rA,rS,rE,rL,reduceCtorEq]
      rw [treeOk_false_of_node hm]
      rw [fineB_nodeOk hlast,hfb,Bool.and_false]
     | true =>
      rw [hfb] at hfine
      have hno : nodeOk (t.nodes.take k) m = true:=by rw [fineB_nodeOk hlast,hfb,decide_eq_true hbad]; rfl
      obtain ⟨b1,b2,b3,b4,pn,hpn,hpe⟩:=(nodeOk_some hlast).1 hno
      obtain ⟨pi,hpi⟩:=lgm hpn
      have hpik : pi < k:=by
       have:=(lgs.1 hpi).1
       simp at this
       omega
      rw [List.getElem?_take,if_pos hpik] at hpi
      have hd:=hdep pi pn hpik hpi
      rw [hpe] at hd
      have hul:=hup pi pn hpik hpi
      rw [hpe] at hul
      simp -implicitDefEqProofs (disch:=omega) only [p1,p3,p26,p27,p28,hh1,hh24,hm,hbits,c1,c2,c3,c4,hkp,hle,Nat.sub_zero,<- List.map_take,hfine,hd,mget_mput_same,Option.getD_some,go_sem,↓reduceIte,rA,rS,rE,rL,reduceCtorEq]
      have htk : t.nodes.take (k + 1) = t.nodes.take k ++ [m]:=take_snoc hm
      have hum : up (t.nodes.take (k + 1)) m.id = m.id :: up (t.nodes.take k) m.parent:=by rw [htk]; exact up_snoc_eq _ _
      have hltm : ∀ (i : Nat) (n : Nd),i < k -> t.nodes[i]? = some n -> n.id < m.id:=fun i n hi hn=>by
       have hno' : nodesOk [] (t.nodes.take (k + 1)) = true:=(nodesOk_iff _ _).2 fun j x hx=>by
        have hjl:=(lgs.1 hx).1
        simp at hjl
        rw [List.getElem?_take,if_pos (by omega)] at hx
        rw [lna,List.take_take,Nat.min_eq_left (by omega)]
        rcases Nat.lt_or_ge j k with h0 | h0
        ·exact hnok j x h0 hx
        ·have : j = k:=by omega
         subst this
         rw [hm] at hx
         simp at hx
         subst hx
         exact hno
       have hinc:=(ids_lt _ _ hno' (fun _ h=>by simp at h)).2
       rw [htk,List.pairwise_append] at hinc
       refine hinc.2.2 n ?_ m (by simp)
       have : (t.nodes.take k)[i]? = some n:=by rw [List.getElem?_take,if_pos hi]; exact hn
       exact lmg this
      have hun : ∀ (i : Nat) (n : Nd),i < k -> t.nodes[i]? = some n -> up (t.nodes.take (k + 1)) n.id = up (t.nodes.take k) n.id:=fun i n hi hn=>by
       rw [htk]
       exact up_snoc_ne _ _ (by have:=hltm i n hi hn; omega)
      refine wp_if_d (fun hdeep=>?_) (fun hshal=>?_)
      ·simp -implicitDefEqProofs (disch:=omega) only [p1,p3,p26,p27,p28,hh1,hh24,go_sem,↓reduceIte,rA,rS,rE,rL,reduceCtorEq]
       rw [treeOk_false_of_depth hm]
       rw [hum,llc]
       omega
      ·simp -implicitDefEqProofs (disch:=omega) only [p1,p3,p26,p27,p28,hh1,hh24,go_sem,↓reduceIte,rA,rS,rE,rL,reduceCtorEq]
       refine ⟨hlt,(mput ks vs (.int m.id) (.int .i64 (((up (t.nodes.take k) m.parent).length : Int) - 1 + 1))).1,(mput ks vs (.int m.id) (.int .i64 (((up (t.nodes.take k) m.parent).length : Int) - 1 + 1))).2,mput_len _ _ _ _ hkl,fun h=>h.elim,lt_succ_cases hm (fun i n hi hn=>?_) ?_,lt_succ_cases hm hnok hno,lt_succ_cases hm (fun i n hi hn=>?_) ?_,?_,rfl⟩
       ·rw [hun i n hi hn,mget_mput_other _ _ _ _ _ hkl (by have:=hltm i n hi hn; simp; omega)]
        exact hdep i n hi hn
       ·rw [mget_mput_same,hum]
        simp
       ·rw [hun i n hi hn]
        exact hup i n hi hn
       ·rw [hum,llc]
        omega
       .simp only [Int.natCast_add,Int.natCast_one]
    ·have hk0' : k = 0:=by omega
     subst hk0'
     obtain ⟨rfl,rfl⟩:=hk0 rfl
     rw [hm] at hr0
     simp only [osi] at hr0
     subst hr0
     have hg : (mget [] [] (.int m.id)).getD (.int .i64 0) = .int .i64 0:=rfl
     have h80 : ¬ (8 : Int) < 0:=by omega
     simp -implicitDefEqProofs (disch:=omega) only [p1,p3,p26,p27,p28,hh1,hh24,hm,hbits,c1,c2,c3,c4,hkp,hg,h80,go_sem,↓reduceIte,rA,rS,rE,rL,reduceCtorEq]
     have htk : t.nodes.take (0 + 1) = [m]:=take_snoc hm
     have hum : up (t.nodes.take (0 + 1)) m.id = [m.id]:=by rw [htk]; simp [up,upR]
     refine ⟨hlt,[],[],rfl,fun h=>h.elim,lt_succ_cases hm (fun i n hi=>absurd hi (by omega)) ?_,lt_succ_cases hm (fun i n hi=>absurd hi (by omega)) ?_,lt_succ_cases hm (fun i n hi=>absurd hi (by omega)) ?_,rfl,rfl⟩
     ·rw [hum]
      rfl
     ·simp only [nodeOk,List.take_zero,List.getLast?_nil,decide_eq_true hr,decide_eq_true hbad,bau,decide_eq_true_eq]
      exact .inl hr.2.2.2
     ·rw [hum]
      simp
   ·simp -implicitDefEqProofs (disch:=omega) only [p1,p3,p26,p27,p28,hh1,hh24,hm,go_sem,↓reduceIte,rA,rS,rE,rL,reduceCtorEq]
    repeat' ((first | refine wp_grn_d (fun hb=>?_) (fun hb=>?_) | refine wp_gtn_d (fun hb=>?_) (fun hb=>?_) | refine wp_gr_d (fun hb=>?_) (fun hb=>?_) | refine wp_gt_d (fun hb=>?_) (fun hb=>?_) | refine wp_gr (fun hb=>?_) (fun hb=>?_) | refine wp_gt (fun hb=>?_) (fun hb=>?_) | refine wp_nt_d (fun hb=>?_) (fun hb=>?_) | refine wp_nt (fun hb=>?_) (fun hb=>?_) | refine wp_if_d (fun hb=>?_) (fun hb=>?_) | refine wp_if (fun hb=>?_) (fun hb=>?_)) <;> simp -implicitDefEqProofs (disch:=omega) only [hb,p1,p3,p26,p27,p28,hh1,hh24,hm,antI31,go_sem,↓reduceIte,rA,rS,rE,rL,reduceCtorEq])
    all_goals first
     | (exfalso; omega)
     | (rw [treeOk_false_of_node hm (nodeOk_bad hbad)])
  ·have hke : k = t.nodes.length:=by omega
   subst hke
   rw [List.take_length] at hup
   have hla : t.nodes[((t.nodes.length : Int) - 1).toNat]? = some t.nodes[t.nodes.length - 1]:=by
    rw [show ((t.nodes.length : Int) - 1).toNat = t.nodes.length - 1 by omega]
    exact lgg (by omega)
   have hlast : t.nodes.getLast? = some t.nodes[t.nodes.length - 1]:=by
    rw [List.getLast?_eq_getElem?]
    exact lgg (by omega)
   generalize t.nodes[t.nodes.length - 1] = l at hla hlast
   have hok : nodesOk [] t.nodes = true:=(nodesOk_iff _ _).2 fun i n hn=>by simpa using hnok i n (lgs.1 hn).1 hn
   have hk2 : t.nodes.all (fun n=>decide ((up t.nodes n.id).length <= 9)) = true:=by
    rw [List.all_eq_true]
    intro n hn
    obtain ⟨i,hi⟩:=lgm hn
    simpa using hup i n (lgs.1 hi).1 hi
   have hp0 : 0 <= (t.nodes.length : Int) - 1:=by omega
   simp -implicitDefEqProofs (disch:=omega) only [p1,p3,p26,p27,p28,hh1,hh24,hge,hla,hp0,go_sem,↓reduceIte,rA,rS,rE,rL,reduceCtorEq]
   repeat' ((first | refine wp_grn_d (fun hb=>?_) (fun hb=>?_) | refine wp_gtn_d (fun hb=>?_) (fun hb=>?_) | refine wp_gr_d (fun hb=>?_) (fun hb=>?_) | refine wp_gt_d (fun hb=>?_) (fun hb=>?_) | refine wp_gr (fun hb=>?_) (fun hb=>?_) | refine wp_gt (fun hb=>?_) (fun hb=>?_) | refine wp_nt_d (fun hb=>?_) (fun hb=>?_) | refine wp_nt (fun hb=>?_) (fun hb=>?_) | refine wp_if_d (fun hb=>?_) (fun hb=>?_) | refine wp_if (fun hb=>?_) (fun hb=>?_)) <;> simp -implicitDefEqProofs (disch:=omega) only [hb,p1,p3,p26,p27,p28,hh1,hh24,hla,go_sem,↓reduceIte,rA,rS,rE,rL,reduceCtorEq])
   all_goals
    simp only [treeOk,hok,hk2,hlast,show (1 <= t.nodes.length /\ t.nodes.length <= 64) by omega,pmi,VVal.p.injEq,PV.bool.injEq,and_true,decide_true,bta]
    rw [Bool.eq_iff_iff]
    simp only [decide_eq_true_eq,bft,false_iff]
    omega
theorem findN_unique {ns : List Nd} (hinc : ns.Pairwise fun a b=>a.id < b.id) {i : Nat} {n : Nd} (hn : ns[i]? = some n) : findN ns n.id = some n:=by
 unfold findN
 refine find_take_none (k:=i) (fun j m hj hm=>?_) hn (by simp)
 have hl:=(lgs.1 hn).1
 have:=List.pairwise_iff_getElem.1 hinc j i (by omega) hl hj
 rw [(lgs.1 hm).2,(lgs.1 hn).2] at this
 simp
 omega
theorem TreeOk.pos {t : Tr} (h : TreeOk t) : ∀ n ∈ t.nodes,1 <= n.id:=nodesOk_pos t.nodes [] (by simp) h.nodes
theorem TreeOk.find0 {t : Tr} (h : TreeOk t) : findN t.nodes 0 = none:=by
 unfold findN
 rw [List.find?_eq_none]
 intro n hn
 have:=h.pos n hn
 simp
 omega
theorem TreeOk.nodeAt {t : Tr} (h : TreeOk t) {i : Nat} {n : Nd} (hn : t.nodes[i]? = some n) : (i = 0 /\ n.id = 1 /\ n.parent = 0) \/ (0 < i /\ 1 < n.id /\ ∃ j p,j < i /\ t.nodes[j]? = some p /\ p.id = n.parent):=by
 have hok:=(nodesOk_iff _ _).1 h.nodes i n hn
 rw [lna] at hok
 rcases Nat.eq_zero_or_pos i with rfl | hi
 ·left
  rw [List.take_zero] at hok
  have:=nodeOk_nil hok
  exact ⟨rfl,this.1,this.2.1⟩
 ·right
  have hlt:=(lgs.1 hn).1
  cases hl : (t.nodes.take i).getLast? with
  | none =>
   rw [List.getLast?_eq_none_iff] at hl
   have:=congrArg List.length hl
   rw [llt,lln] at this
   omega
  | some l =>
   obtain ⟨_,h2,_,_,p,hp,he⟩:=(nodeOk_some hl).1 hok
   have h1:=h.pos l (List.mem_of_mem_take (List.mem_of_getLast? hl))
   obtain ⟨j,hj⟩:=lgm hp
   have hjl:=(lgs.1 hj).1
   simp at hjl
   rw [List.getElem?_take,if_pos (by omega)] at hj
   exact ⟨hi,by omega,j,p,by omega,hj,he⟩
theorem ancF_step {t : Tr} (h : TreeOk t) : ∀ (i : Nat) (n : Nd),t.nodes[i]? = some n -> ∀ k k',i < k -> i < k' -> ancF t.nodes k n.id = ancF t.nodes k' n.id:=by
 intro i
 induction i using Nat.strongRecOn with
 | _ i ih =>
  intro n hn k k' hk hk'
  obtain ⟨k,rfl⟩ : ∃ m,k = m + 1:=⟨k - 1,by omega⟩
  obtain ⟨k',rfl⟩ : ∃ m,k' = m + 1:=⟨k' - 1,by omega⟩
  have hf:=findN_unique h.inc hn
  simp only [ancF,hf]
  congr 1
  rcases h.nodeAt hn with ⟨rfl,_,h0⟩ | ⟨hi,_,j,p,hj,hp,he⟩
  ·rw [h0]
   have hz : ∀ m,ancF t.nodes m 0 = []:=fun m=>by
    cases m with
    | zero=>rfl
    | succ m=>simp only [ancF,h.find0]
   rw [hz,hz]
  ·rw [<- he]
   exact ih j hj p hp k k' (by omega) (by omega)
theorem ancF_cons {t : Tr} (h : TreeOk t) {i : Nat} {n : Nd} (hn : t.nodes[i]? = some n) : ancF t.nodes t.nodes.length n.id = n.id :: (if i = 0 then [] else ancF t.nodes t.nodes.length n.parent):=by
 have hlt:=(lgs.1 hn).1
 obtain ⟨k,hk⟩ : ∃ m,t.nodes.length = m + 1:=⟨t.nodes.length - 1,by omega⟩
 rw [hk]
 have hf:=findN_unique h.inc hn
 conv=>lhs; simp only [ancF,hf]
 congr 1
 rcases h.nodeAt hn with ⟨rfl,_,h0⟩ | ⟨hi,_,j,p,hj,hp,he⟩
 ·rw [h0,if_pos rfl]
  cases k with
  | zero=>rfl
  | succ m=>simp only [ancF,h.find0]
 ·rw [if_neg (by omega),<- he]
  exact ancF_step h j p hp _ _ (by omega) (by omega)
theorem TreeOk.fits {t : Tr} (h : TreeOk t) : t.Fits:=by
 intro n hn
 obtain ⟨i,hi⟩:=lgm hn
 have hok:=(nodesOk_iff _ _).1 h.nodes i n hi
 rw [lna] at hok
 unfold nodeOk at hok
 simp only [bat,decide_eq_true_eq] at hok
 refine ⟨?_,by omega⟩
 have h2:=hok.2
 split at h2
 ·simp only [decide_eq_true_eq] at h2
  rw [h2.2.2.1]
  decide
 ·simp only [bat] at h2
  have hv:=h2.1.1.2
  simp only [validN,bat,decide_eq_true_eq] at hv
  omega
theorem TreeOk.idx {t : Tr} (h : TreeOk t) {i j : Nat} {n m : Nd} (hn : t.nodes[i]? = some n) (hm : t.nodes[j]? = some m) (he : n.id = m.id) : i = j /\ n = m:=by
 obtain ⟨hi,rfl⟩:=lgs.1 hn
 obtain ⟨hj,rfl⟩:=lgs.1 hm
 have hp:=List.pairwise_iff_getElem.1 h.inc
 rcases Nat.lt_trichotomy i j with hlt | rfl | hlt
 .have:=hp i j hi hj hlt; omega
 .exact ⟨rfl,rfl⟩
 .have:=hp j i hj hi hlt; omega
theorem anc_iff {t : Tr} (h : TreeOk t) {i : Nat} {n : Nd} (hn : t.nodes[i]? = some n) (c : Int) : c ∈ ancF t.nodes t.nodes.length n.id ↔ c = n.id \/ (i ≠ 0 /\ c ∈ ancF t.nodes t.nodes.length n.parent):=by
 rw [ancF_cons h hn]
 by_cases hi : i = 0
 .simp [hi]
 .simp [hi]
theorem TreeOk.kid {t : Tr} (h : TreeOk t) {i j : Nat} {n m : Nd} (hn : t.nodes[i]? = some n) (hm : t.nodes[j]? = some m) (hp : m.parent = n.id) : i < j:=by
 rcases h.nodeAt hm with ⟨_,_,h0⟩ | ⟨_,_,k,p,hk,hpk,hpe⟩
 .have:=h.pos n (lmg hn); omega
 .have:=(h.idx hpk hn (by omega)).1; omega
theorem anc_le {t : Tr} (h : TreeOk t) : ∀ (i : Nat) (n : Nd),t.nodes[i]? = some n -> ∀ c ∈ ancF t.nodes t.nodes.length n.id,∃ j m,j <= i /\ t.nodes[j]? = some m /\ m.id = c:=by
 intro i
 induction i using Nat.strongRecOn with
 | _ i ih =>
  intro n hn c hc
  rcases (anc_iff h hn c).1 hc with rfl | ⟨h0,hc⟩
  ·exact ⟨i,n,lrf _,hn,rfl⟩
  ·rcases h.nodeAt hn with ⟨h1,_⟩ | ⟨_,_,k,p,hk,hpk,hpe⟩
   ·contradiction
   ·rw [<- hpe] at hc
    obtain ⟨j,m,hj,hm,he⟩:=ih k hk p hpk c hc
    exact ⟨j,m,by omega,hm,he⟩
theorem anc_self {t : Tr} (h : TreeOk t) {i : Nat} {n : Nd} (hn : t.nodes[i]? = some n) : n.id ∈ ancF t.nodes t.nodes.length n.id:=(anc_iff h hn _).2 (Or.inl rfl)
theorem anc_parent {t : Tr} (h : TreeOk t) {k : Nat} {c : Nd} (hc : t.nodes[k]? = some c) (hk : k ≠ 0) : ∀ (i : Nat) (n : Nd),t.nodes[i]? = some n -> c.id ∈ ancF t.nodes t.nodes.length n.id -> c.parent ∈ ancF t.nodes t.nodes.length n.id:=by
 intro i
 induction i using Nat.strongRecOn with
 | _ i ih =>
  intro n hn hm
  rcases (anc_iff h hn c.id).1 hm with he | ⟨h0,hm⟩
  ·obtain ⟨rfl,rfl⟩:=h.idx hc hn he
   rcases h.nodeAt hn with ⟨h1,_⟩ | ⟨_,_,j,p,hj,hp,hpe⟩
   ·contradiction
   ·refine (anc_iff h hn _).2 (Or.inr ⟨hk,?_⟩)
    rw [<- hpe]
    exact anc_self h hp
  ·refine (anc_iff h hn _).2 (Or.inr ⟨h0,?_⟩)
   rcases h.nodeAt hn with ⟨h1,_⟩ | ⟨_,_,j,p,hj,hp,hpe⟩
   ·contradiction
   ·rw [<- hpe] at hm ⊢
    exact ih j hj p hp hm
theorem anc_child {t : Tr} (h : TreeOk t) {c : Int} : ∀ (i : Nat) (n : Nd),t.nodes[i]? = some n -> c ∈ ancF t.nodes t.nodes.length n.id -> c ≠ n.id -> ∃ (j : Nat) (m : Nd),t.nodes[j]? = some m /\ m.parent = c /\ m.id ∈ ancF t.nodes t.nodes.length n.id:=by
 intro i
 induction i using Nat.strongRecOn with
 | _ i ih =>
  intro n hn hm hne
  rcases (anc_iff h hn c).1 hm with he | ⟨h0,hm⟩
  ·contradiction
  ·rcases h.nodeAt hn with ⟨h1,_⟩ | ⟨_,_,j,p,hj,hp,hpe⟩
   ·contradiction
   ·by_cases hcp : c = n.parent
    ·exact ⟨i,n,hn,hcp.symm,anc_self h hn⟩
    ·rw [<- hpe] at hm
     obtain ⟨k,m,hk,hmp,hma⟩:=ih j hj p hp hm (by omega)
     rw [hpe] at hma
     exact ⟨k,m,hk,hmp,(anc_iff h hn _).2 (Or.inr ⟨h0,hma⟩)⟩
def kidsN (ns : List Nd) (id : Int) : List Int:=(ns.filter fun n=>decide (n.parent = id)).map (·.id)
def subF (ns : List Nd) : Nat -> Int -> List Int
 | 0,_=>[]
 | k + 1,id=>id :: (kidsN ns id).flatMap (subF ns k)
theorem mem_kidsN {ns : List Nd} {id x : Int} : x ∈ kidsN ns id ↔ ∃ (j : Nat) (m : Nd),ns[j]? = some m /\ m.parent = id /\ m.id = x:=by
 simp only [kidsN,lmm,List.mem_filter,decide_eq_true_eq]
 constructor
 ·rintro ⟨m,⟨hm,hp⟩,he⟩
  obtain ⟨j,hj⟩:=lgm hm
  exact ⟨j,m,hj,hp,he⟩
 ·rintro ⟨j,m,hj,hp,he⟩
  exact ⟨m,⟨lmg hj,hp⟩,he⟩
theorem mem_subF {t : Tr} (h : TreeOk t) : ∀ (k i : Nat) (n : Nd),t.nodes[i]? = some n -> t.nodes.length <= i + k -> ∀ x,x ∈ subF t.nodes k n.id ↔ ∃ (j : Nat) (m : Nd),t.nodes[j]? = some m /\ m.id = x /\ n.id ∈ ancF t.nodes t.nodes.length m.id:=by
 intro k
 induction k with
 | zero=>intro i n hn hk; have:=(lgs.1 hn).1; omega
 | succ k ih =>
  intro i n hn hk x
  simp only [subF,lmk,List.mem_flatMap]
  constructor
  ·rintro (rfl | ⟨c,hc,hx⟩)
   ·exact ⟨i,n,hn,rfl,anc_self h hn⟩
   ·obtain ⟨j,m,hj,hp,rfl⟩:=mem_kidsN.1 hc
    have hij:=h.kid hn hj hp
    obtain ⟨q,y,hq,hy,hm⟩:=(ih j m hj (by omega) x).1 hx
    refine ⟨q,y,hq,hy,?_⟩
    rw [<- hp]
    exact anc_parent h hj (by omega) q y hq hm
  ·rintro ⟨j,m,hj,rfl,hm⟩
   by_cases he : n.id = m.id
   ·exact Or.inl he.symm
   ·obtain ⟨q,y,hq,hy,hm'⟩:=anc_child h j m hj hm he
    have hiq:=h.kid hn hq hy
    exact Or.inr ⟨y.id,mem_kidsN.2 ⟨q,y,hq,hy,rfl⟩,(ih q y hq (by omega) _).2 ⟨j,m,hj,rfl,hm'⟩⟩
theorem nodup_kidsN {t : Tr} (h : TreeOk t) (id : Int) : (kidsN t.nodes id).Nodup:=by
 rw [kidsN,List.Nodup,List.pairwise_map]
 exact List.Pairwise.imp_of_mem (fun _ _ hab=>by omega) (h.inc.filter _)
theorem nodup_subF {t : Tr} (h : TreeOk t) : ∀ (k i : Nat) (n : Nd),t.nodes[i]? = some n -> t.nodes.length <= i + k -> (subF t.nodes k n.id).Nodup:=by
 intro k
 induction k with
 | zero=>intro i n hn hk; have:=(lgs.1 hn).1; omega
 | succ k ih =>
  intro i n hn hk
  simp only [subF,List.nodup_cons]
  constructor
  ·intro hx
   obtain ⟨c,hc,hx⟩:=List.mem_flatMap.1 hx
   obtain ⟨j,m,hj,hp,rfl⟩:=mem_kidsN.1 hc
   have hij:=h.kid hn hj hp
   obtain ⟨q,y,hq,hy,hm⟩:=(mem_subF h k j m hj (by omega) n.id).1 hx
   obtain ⟨q',y',hle,hq',hy'⟩:=anc_le h q y hq m.id hm
   have h1:=(h.idx hq hn hy).1
   have h2:=(h.idx hq' hj hy').1
   omega
  ·rw [List.Nodup,List.pairwise_flatMap]
   constructor
   ·intro c hc
    obtain ⟨j,m,hj,hp,rfl⟩:=mem_kidsN.1 hc
    have hij:=h.kid hn hj hp
    exact ih j m hj (by omega)
   ·have hnd:=nodup_kidsN h n.id
    refine List.Pairwise.imp_of_mem ?_ hnd
    intro c1 c2 hc1 hc2 hne x hx1 y hy2 hxy
    subst hxy
    obtain ⟨j1,m1,hj1,hp1,rfl⟩:=mem_kidsN.1 hc1
    obtain ⟨j2,m2,hj2,hp2,rfl⟩:=mem_kidsN.1 hc2
    have hij1:=h.kid hn hj1 hp1
    have hij2:=h.kid hn hj2 hp2
    obtain ⟨q,z,hq,hz,hm1⟩:=(mem_subF h k j1 m1 hj1 (by omega) x).1 hx1
    obtain ⟨q',z',hq',hz',hm2⟩:=(mem_subF h k j2 m2 hj2 (by omega) x).1 hy2
    obtain ⟨rfl,rfl⟩:=h.idx hq hq' (by omega)
    exact hne (sib h hn hj1 hj2 hp1 hp2 q z hq hm1 hm2)
where
 sib {t : Tr} (h : TreeOk t) {i j1 j2 : Nat} {n m1 m2 : Nd} (hn : t.nodes[i]? = some n) (hj1 : t.nodes[j1]? = some m1) (hj2 : t.nodes[j2]? = some m2) (hp1 : m1.parent = n.id) (hp2 : m2.parent = n.id) : ∀ (q : Nat) (z : Nd),t.nodes[q]? = some z -> m1.id ∈ ancF t.nodes t.nodes.length z.id -> m2.id ∈ ancF t.nodes t.nodes.length z.id -> m1.id = m2.id:=by
  intro q
  induction q using Nat.strongRecOn with
  | _ q ih =>
   intro z hz h1 h2
   have hij1:=h.kid hn hj1 hp1
   have hij2:=h.kid hn hj2 hp2
   rcases (anc_iff h hz _).1 h1 with e1 | ⟨h0,h1'⟩
   ·rcases (anc_iff h hz _).1 h2 with e2 | ⟨_,h2'⟩
    ·omega
    ·obtain ⟨rfl,rfl⟩:=h.idx hj1 hz e1
     rw [hp1] at h2'
     obtain ⟨j,m,hle,hj,he⟩:=anc_le h i n hn _ h2'
     have:=(h.idx hj hj2 he).1
     omega
   ·rcases (anc_iff h hz _).1 h2 with e2 | ⟨_,h2'⟩
    ·obtain ⟨rfl,rfl⟩:=h.idx hj2 hz e2
     rw [hp2] at h1'
     obtain ⟨j,m,hle,hj,he⟩:=anc_le h i n hn _ h1'
     have:=(h.idx hj hj1 he).1
     omega
    ·rcases h.nodeAt hz with ⟨hh,_⟩ | ⟨_,_,j,p,hj,hp,hpe⟩
     ·contradiction
     ·rw [<- hpe] at h1' h2'
      exact ih j hj p hp h1' h2'
theorem nodup_length_le : ∀ (l m : List Int),l.Nodup -> (∀ x ∈ l,x ∈ m) -> l.length <= m.length
 | [],_,_,_=>Nat.zero_le _
 | x :: l,m,hn,hs=>by
  rw [List.nodup_cons] at hn
  have hx : x ∈ m:=hs x (lms ..)
  have:=nodup_length_le l (m.erase x) hn.2 fun y hy=>(List.mem_erase_of_ne (fun e=>hn.1 (by rw [<- e]; exact hy))).2 (hs y (lmc _ hy))
  rw [List.length_erase_of_mem hx] at this
  have:=List.length_pos_of_mem hx
  simp only [llc]
  omega
theorem subF_length {t : Tr} (h : TreeOk t) {k i : Nat} {n : Nd} (hn : t.nodes[i]? = some n) (hk : t.nodes.length <= i + k) : (subF t.nodes k n.id).length <= t.nodes.length:=by
 have:=nodup_length_le _ (t.nodes.map (·.id)) (nodup_subF h k i n hn hk) fun x hx=>by
  obtain ⟨j,m,hj,rfl,_⟩:=(mem_subF h k i n hn hk x).1 hx
  exact lmm.2 ⟨m,lmg hj,rfl⟩
 simpa using this
theorem flatMap_congr_mem {α β : Type} {f g : α -> List β} : ∀ {l : List α},(∀ a ∈ l,f a = g a) -> l.flatMap f = l.flatMap g
 | [],_=>rfl
 | a :: l,h=>by
  rw [lfc,lfc,h a (lms ..),flatMap_congr_mem fun b hb=>h b (lmc _ hb)]
theorem subF_fuel {t : Tr} (h : TreeOk t) : ∀ (k k' i : Nat) (n : Nd),t.nodes[i]? = some n -> t.nodes.length <= i + k -> t.nodes.length <= i + k' -> subF t.nodes k n.id = subF t.nodes k' n.id:=by
 intro k
 induction k with
 | zero=>intro k' i n hn hk; have:=(lgs.1 hn).1; omega
 | succ k ih =>
  intro k' i n hn hk hk'
  cases k' with
  | zero=>have:=(lgs.1 hn).1; omega
  | succ k' =>
   simp only [subF,List.cons.injEq,true_and]
   refine flatMap_congr_mem fun c hc=>?_
   obtain ⟨j,m,hj,hp,rfl⟩:=mem_kidsN.1 hc
   have hij:=h.kid hn hj hp
   exact ih k' j m hj (by omega) (by omega)
def subT (t : Tr) (id : Int) : List Int:=if (findT t id).isSome then subF t.nodes t.nodes.length id else []
theorem has3_eq (xs : List Int) (x : Int) (hl : xs.length < 1000000) : V 61 [.p (intsP xs),.p (.int .i64 x)] [] = some (.p (.bool (decide (x ∈ xs))),[]):=by
 refine V_wp (vf:=vf61) rfl ?_
 simp -implicitDefEqProofs (disch:=omega) only [vf61,vb61,go_sem,↓reduceIte,rA,rS,rE,rL,reduceCtorEq]
 refine wp_count xs.length (fun k s=>(∀ (i : Nat) (y : Int),i < k -> xs[i]? = some y -> ¬ y = x) /\ s.pe 0 = .p (intsP xs) /\ s.pe 1 = .p (.int .i64 x) /\ s.pe 5 = .p (.int .i64 k)) ?_ ?_
 ·exact ⟨fun i _ hi=>absurd hi (Nat.not_lt_zero i),rfl,rfl,rfl⟩
 ·rintro k s hk ⟨hno,h0,h1,h5⟩
  simp -implicitDefEqProofs (disch:=omega) only [h0,h1,h5,go_sem,↓reduceIte,rA,rS,rE,rL,reduceCtorEq]
  refine wp_if_d (fun hlt=>?_) (fun hge=>?_)
  ·have hm : xs[k]? = some xs[k]:=lgg hlt
   generalize xs[k] = y at hm
   by_cases hy : y = x
   ·have hin : decide (x ∈ xs) = true:=decide_eq_true (hy ▸ lmg hm)
    simp -implicitDefEqProofs (disch:=omega) only [h0,h1,h5,hm,hy,go_sem,↓reduceIte,rA,rS,rE,rL,reduceCtorEq]
    rw [hin]
   ·simp -implicitDefEqProofs (disch:=omega) only [h0,h1,h5,hm,hy,go_sem,↓reduceIte,rA,rS,rE,rL,reduceCtorEq]
    refine ⟨hlt,fun i z hi hz=>?_,rfl⟩
    rcases Nat.lt_succ_iff_lt_or_eq.1 hi with h | rfl
    .exact hno i z h hz
    .rw [hm] at hz; cases hz; exact hy
  ·have hin : decide (x ∈ xs) = false:=decide_eq_false fun h=>by
    obtain ⟨i,hi⟩:=lgm h
    exact hno i x (by have:=(lgs.1 hi).1; omega) hi rfl
   simp -implicitDefEqProofs (disch:=omega) only [h0,h1,h5,hge,go_sem,↓reduceIte,rA,rS,rE,rL,reduceCtorEq]
   rw [hin]
structure Ch where
 group : Int
 own : Int
 deriving DecidableEq
def Ch.pv (c : Ch) : PV:=.agg [.int .i64 c.group,.int .i64 c.own]
abbrev Ch.vv (c : Ch) : VVal:=.agg [.p (.int .i64 c.group),.p (.int .i64 c.own)]
abbrev chsP (l : List Ch) : PV:=.slice 2 (l.map Ch.pv)
attribute [go_sem] Ch.pv
theorem chs_flat (l : List Ch) : (l.map Ch.pv).all PV.flat = true:=by
 rw [List.all_eq_true]
 intro x hx
 obtain ⟨n,_,rfl⟩:=lmm.1 hx
 rfl
attribute [go_sem] chs_flat
def sumI : List Int -> Int
 | []=>0
 | x :: xs=>x + sumI xs
theorem sumI_append : ∀ (a b : List Int),sumI (a ++ b) = sumI a + sumI b
 | [],b=>by simp [sumI]
 | x :: a,b=>by have:=sumI_append a b; simp only [lca,sumI]; omega
theorem sumI_nonneg : ∀ (a : List Int),(∀ x ∈ a,0 <= x) -> 0 <= sumI a
 | [],_=>Int.le_refl _
 | x :: a,h=>by
  have:=sumI_nonneg a (fun y hy=>h y (lmc _ hy))
  have:=h x (lms ..)
  simp only [sumI]; omega
theorem sumI_map_nonneg {α : Type} {f : α -> Int} (a : List α) (h : ∀ x ∈ a,0 <= f x) : 0 <= sumI (a.map f):=sumI_nonneg _ (fun x hx=>by
 obtain ⟨y,hy,rfl⟩:=lmm.1 hx
 exact h y hy)
theorem sumI_take_succ {α : Type} {f : α -> Int} {l : List α} {k : Nat} {x : α} (h : l[k]? = some x) : sumI ((l.take (k + 1)).map f) = sumI ((l.take k).map f) + f x:=by
 rw [List.take_add_one,h]
 simp [sumI_append,sumI]
def ownC : List Ch -> Int -> Int
 | [],_=>0
 | c :: l,id=>if c.group = id then c.own else ownC l id
def prevOk (p : Option Int) (g : Int) : Bool:=match p with | none=>true | some q=>decide (q < g)
structure ChOk (ns : List Nd) (l : List Ch) : Prop where
 known : ∀ c ∈ l,(findN ns c.group).isSome = true
 inc : l.Pairwise fun a b=>a.group < b.group
 pos : ∀ c ∈ l,1 <= c.own
 all : sumI (l.map (·.own)) <= 16777216
theorem ownC_zero {l : List Ch} {id : Int} (h : ∀ c ∈ l,c.group ≠ id) : ownC l id = 0:=by
 induction l with
 | nil=>rfl
 | cons c l ih =>
  unfold ownC
  rw [if_neg (h c (lms ..))]
  exact ih (fun d hd=>h d (lmc _ hd))
theorem ownC_cons (c : Ch) (l : List Ch) : ownC (c :: l) = fun x=>if x = c.group then c.own else ownC l x:=by
 funext x
 simp only [ownC,eq_comm]
def withGo (id v : Int) : Bool -> List Ch -> List Ch
 | d,[]=>if d then [] else [⟨id,v⟩]
 | d,c :: l=>(if !d && decide (id <= c.group) then [⟨id,v⟩] else []) ++ (if c.group = id then [] else [c]) ++ withGo id v (d || decide (id <= c.group)) l
def withC (l : List Ch) (id v : Int) : List Ch:=withGo id v (decide (v = 0)) l
theorem withGo_own (id v x : Int) : ∀ (l : List Ch) (d : Bool),ownC (withGo id v d l) x = if x = id then (if d then 0 else v) else ownC l x
 | [], d=>by
  cases d
  ·simp [withGo,ownC,eq_comm]
  ·simp [withGo,ownC]
 | c :: l,d=>by
  have ih:=withGo_own id v x l
  unfold withGo
  cases d
  ·by_cases h1 : id <= c.group
   ·by_cases h2 : c.group = id
    ·by_cases h3 : x = id
     ·simp [h2,h3,ownC]
     ·have h3' : ¬ id = x:=fun h=>h3 h.symm
      simp [h2,h3,h3',ownC,ih]
    ·by_cases h3 : x = id
     ·simp [h1,h2,h3,ownC]
     ·have h3' : ¬ id = x:=fun h=>h3 h.symm
      simp [h1,h2,h3,h3',ownC,ih]
   ·have h2 : ¬ c.group = id:=by omega
    by_cases h3 : x = id
    ·subst h3
     simp [h1,h2,ownC,ih]
    ·simp [h1,h2,h3,ownC,ih]
  ·by_cases h2 : c.group = id
   ·by_cases h3 : x = id
    ·subst h3
     simp [h2,ownC,ih]
    ·have h3' : ¬ id = x:=fun h=>h3 h.symm
     simp [h2,h3,h3',ownC,ih]
   ·by_cases h3 : x = id
    ·subst h3
     simp [h2,ownC,ih]
    .simp [h2,h3,ownC,ih]
theorem withGo_mem (id v : Int) : ∀ (l : List Ch) (d : Bool),∀ c ∈ withGo id v d l,(d = false /\ c = ⟨id,v⟩) \/ (c ∈ l /\ c.group ≠ id)
 | [],d,c,hc=>by
  cases d
  ·simp [withGo] at hc; exact Or.inl ⟨rfl,hc⟩
  ·simp [withGo] at hc
 | e :: l,d,c,hc=>by
  unfold withGo at hc
  simp only [lmp] at hc
  rcases hc with (hc | hc) | hc
  ·split at hc
   ·rename_i h
    simp only [bat,Bool.not_eq_true'] at h
    exact Or.inl ⟨h.1,by simpa using hc⟩
   ·simp at hc
  ·split at hc
   ·simp at hc
   ·rename_i h
    simp at hc
    subst hc
    exact Or.inr ⟨lms ..,h⟩
  ·rcases withGo_mem id v l _ c hc with ⟨h1,h2⟩ | ⟨h1,h2⟩
   ·simp only [Bool.or_eq_false_iff] at h1
    exact Or.inl ⟨h1.1,h2⟩
   .exact Or.inr ⟨lmc _ h1,h2⟩
theorem withGo_inc (id v : Int) : ∀ (l : List Ch) (d : Bool),(l.Pairwise fun a b=>a.group < b.group) -> (withGo id v d l).Pairwise fun a b=>a.group < b.group
 | [],d,_=>by cases d <;> simp [withGo]
 | e :: l,d,h=>by
  obtain ⟨h0,h1⟩:=lpw.1 h
  have ih:=fun d=>withGo_inc id v l d h1
  have hm:=withGo_mem id v l
  unfold withGo
  by_cases hge : id <= e.group
  ·have hT : (withGo id v true l).Pairwise fun a b=>a.group < b.group:=ih true
   have hbig : ∀ c ∈ withGo id v true l,e.group < c.group:=fun c hc=>by
    rcases hm true c hc with ⟨hh,_⟩ | ⟨hh,_⟩
    ·simp at hh
    ·exact h0 c hh
   cases d
   ·by_cases he : e.group = id
    ·simp only [hge,decide_true,bnf,bas,if_true,he,Int.le_refl,decide_true,lan,Bool.or_true,List.singleton_append,lpw]
     exact ⟨fun c hc=>by have:=hbig c hc; show id < c.group; omega,hT⟩
    ·simp only [hge,decide_true,bnf,bas,if_true,he,if_false,Bool.or_true,List.singleton_append,lca,lna,lpw,lmk,forall_eq_or_imp]
     exact ⟨⟨by show id < e.group; omega,fun c hc=>by have:=hbig c hc; show id < c.group; omega⟩,hbig,hT⟩
   ·by_cases he : e.group = id
    ·simp only [he,Bool.not_true,bfa,bft,if_false,if_true,lan,lna,Bool.true_or]
     exact hT
    ·simp only [he,Bool.not_true,bfa,bft,if_false,lna,Bool.true_or,List.singleton_append,lpw]
     exact ⟨hbig,hT⟩
  ·have he : ¬ e.group = id:=by omega
   simp only [hge,decide_false,Bool.and_false,bft,if_false,he,lna,Bool.or_false,List.singleton_append,lpw]
   refine ⟨fun c hc=>?_,ih d⟩
   rcases hm d c hc with ⟨_,hh⟩ | ⟨hh,_⟩
   ·subst hh
    show e.group < id
    omega
   .exact h0 c hh
theorem withGo_sum (id v : Int) : ∀ (l : List Ch) (d : Bool),(l.Pairwise fun a b=>a.group < b.group) -> sumI ((withGo id v d l).map (·.own)) = sumI (l.map (·.own)) - ownC l id + if d then 0 else v
 | [],d,_=>by cases d <;> simp [withGo,sumI,ownC]
 | e :: l,d,h=>by
  obtain ⟨h0,h1⟩:=lpw.1 h
  have ih:=fun d=>withGo_sum id v l d h1
  unfold withGo ownC
  by_cases he : e.group = id
  ·have hz : ownC l id = 0:=ownC_zero (fun c hc=>by have:=h0 c hc; omega)
   cases d <;> simp [he,sumI,ih,hz] <;> omega
  ·by_cases hge : id <= e.group
   .cases d <;> simp [he,hge,sumI,ih] <;> omega
   .cases d <;> simp [he,hge,sumI,ih] <;> omega
theorem ChOk.with {ns : List Nd} {l : List Ch} (h : ChOk ns l) {id v : Int} (hid : (findN ns id).isSome = true) (hv : 0 <= v) (hs : sumI (l.map (·.own)) - ownC l id + v <= 16777216) : ChOk ns (withC l id v):=by
 refine ⟨fun c hc=>?_,withGo_inc _ _ _ _ h.inc,fun c hc=>?_,?_⟩
 ·rcases withGo_mem _ _ _ _ c hc with ⟨_,rfl⟩ | ⟨hh,_⟩
  ·exact hid
  ·exact h.known c hh
 ·rcases withGo_mem _ _ _ _ c hc with ⟨hd,rfl⟩ | ⟨hh,_⟩
  ·simp at hd
   show 1 <= v
   omega
  .exact h.pos c hh
 ·unfold withC
  rw [withGo_sum _ _ _ _ h.inc]
  by_cases hz : v = 0
  .simp [hz]; omega
  .simp [hz]; omega
def tot (t : Tr) (f : Int -> Int) (id : Int) : Int:=sumI ((subF t.nodes t.nodes.length id).map f)
def part (t : Tr) (f : Int -> Int) (i : Nat) (id : Int) : Int:=f id + sumI (((t.nodes.drop i).filter fun m=>decide (m.parent = id)).map fun m=>tot t f m.id)
def wtOf : List Ch -> Int -> Int
 | [],_=>100
 | c :: l,id=>if c.group = id then c.own else wtOf l id
def WtOk (l : List Ch) : Prop:=∀ c ∈ l,1 <= c.own /\ c.own <= 10000
theorem wtOf_range {l : List Ch} (h : WtOk l) (id : Int) : 1 <= wtOf l id /\ wtOf l id <= 10000:=by
 induction l with
 | nil=>simp [wtOf]
 | cons c l ih =>
  unfold wtOf
  split
  .exact h c (lms ..)
  .exact ih fun d hd=>h d (lmc _ hd)
def onB (t : Tr) (active : List Int) (g : Int) : Bool:=active.any fun a=>decide (g ∈ ancF t.nodes t.nodes.length a)
def sumW (t : Tr) (w : Int -> Int) (on : Int -> Bool) (p : Int) : Int:=sumI (((kidsN t.nodes p).filter on).map w)
def shareU (t : Tr) (w : Int -> Int) (on : Int -> Bool) : Nat -> Int -> Int
 | 0,_=>0
 | k + 1,id=>if id = 1 then 1073741824 else if on id = true then
   max 1 (shareU t w on k ((findN t.nodes id).getD zeroNd).parent * w id / sumW t w on ((findN t.nodes id).getD zeroNd).parent) else 0
def shr (t : Tr) (w : Int -> Int) (on : Int -> Bool) (id : Int) : Int:=shareU t w on t.nodes.length id
theorem shareU_fuel {t : Tr} (h : TreeOk t) (w : Int -> Int) (on : Int -> Bool) : ∀ (i : Nat) (n : Nd),t.nodes[i]? = some n -> ∀ k k',i < k -> i < k' -> shareU t w on k n.id = shareU t w on k' n.id:=by
 intro i
 induction i using Nat.strongRecOn with
 | _ i ih =>
  intro n hn k k' hk hk'
  obtain ⟨k,rfl⟩ : ∃ q,k = q + 1:=⟨k - 1,by omega⟩
  obtain ⟨k',rfl⟩ : ∃ q,k' = q + 1:=⟨k' - 1,by omega⟩
  simp only [shareU,findN_unique h.inc hn,Option.getD_some]
  rcases h.nodeAt hn with ⟨_,h1,_⟩ | ⟨_,_,j,p,hj,hp,hpe⟩
  .simp [h1]
  .rw [<- hpe,ih j hj p hp k k' (by omega) (by omega)]
theorem shr_root (t : Tr) (h : TreeOk t) (w : Int -> Int) (on : Int -> Bool) : shr t w on 1 = 1073741824:=by
 have:=h.len
 unfold shr
 obtain ⟨k,hk⟩ : ∃ q,t.nodes.length = q + 1:=⟨t.nodes.length - 1,by omega⟩
 rw [hk]
 simp [shareU]
theorem shr_step {t : Tr} (h : TreeOk t) (w : Int -> Int) (on : Int -> Bool) {i : Nat} {n : Nd} (hn : t.nodes[i]? = some n) (hi : i ≠ 0) : shr t w on n.id = if on n.id = true then max 1 (shr t w on n.parent * w n.id / sumW t w on n.parent) else 0:=by
 have hl:=(lgs.1 hn).1
 rcases h.nodeAt hn with ⟨h0,_⟩ | ⟨_,h1,j,p,hj,hp,hpe⟩
 ·omega
 ·have hf:=shareU_fuel h w on j p hp t.nodes.length (t.nodes.length - 1) (by omega) (by omega)
  rw [hpe] at hf
  unfold shr
  rw [hf]
  obtain ⟨k,hk⟩ : ∃ q,t.nodes.length = q + 1:=⟨t.nodes.length - 1,by omega⟩
  rw [hk]
  simp only [shareU,findN_unique h.inc hn,Option.getD_some,Nat.add_sub_cancel,show ¬ n.id = 1 by omega,if_false]
structure UpClosed (t : Tr) (on : Int -> Bool) : Prop where
 up : ∀ (i : Nat) (n : Nd),t.nodes[i]? = some n -> i ≠ 0 -> on n.id = true -> on n.parent = true
theorem onB_up {t : Tr} (h : TreeOk t) (active : List Int) : UpClosed t (onB t active) where
 up := fun i n hn hi hon=>by
  simp only [onB,List.any_eq_true,decide_eq_true_eq] at hon ⊢
  obtain ⟨a,ha,hm⟩:=hon
  refine ⟨a,ha,?_⟩
  cases hf : findN t.nodes a with
  | none =>
   have : ancF t.nodes t.nodes.length a = []:=by
    cases hl : t.nodes.length with
    | zero=>rfl
    | succ k=>unfold ancF; rw [hf]
   rw [this] at hm
   cases hm
  | some x =>
   obtain ⟨y,hy,hye⟩:=findN_some (ns:=t.nodes) (id:=a) (by rw [hf]; rfl)
   obtain ⟨j,hj⟩:=lgm hy
   rw [<- hye] at hm ⊢
   exact anc_parent h hn hi j y hj hm
theorem sumI_mem_le {f : Int -> Int} {x : Int} : ∀ (l : List Int),(∀ y ∈ l,0 <= f y) -> x ∈ l -> f x <= sumI (l.map f)
 | [],_,h=>by cases h
 | y :: l,h,hx=>by
  have h0:=h y (lms ..)
  have h1:=sumI_map_nonneg l (f:=f) fun z hz=>h z (lmc _ hz)
  simp only [lpc,sumI]
  rcases lmk.1 hx with rfl | hx
  ·omega
  ·have:=sumI_mem_le l (fun z hz=>h z (lmc _ hz)) hx
   omega
theorem div_le_self' {s w W : Int} (hs : 0 <= s) (hw : 0 <= w) (h : w <= W) (hW : 0 < W) : s * w / W <= s:=by
 have h1 : s * w <= s * W:=Int.mul_le_mul_of_nonneg_left h hs
 have h2 : s * w / W <= s * W / W:=Int.ediv_le_ediv hW h1
 rwa [Int.mul_ediv_cancel _ (by omega)] at h2
theorem kid_shr {t : Tr} (h : TreeOk t) (w : Int -> Int) (on : Int -> Bool) {i : Nat} {n : Nd} (hn : t.nodes[i]? = some n) {x : Int} (hx : x ∈ kidsN t.nodes n.id) : shr t w on x = if on x = true then max 1 (shr t w on n.id * w x / sumW t w on n.id) else 0:=by
 obtain ⟨j,m,hm,hp,rfl⟩:=mem_kidsN.1 hx
 have:=h.kid hn hm hp
 rw [shr_step h w on hm (by omega),hp]
def Rep (ks : List MKey) (vs : List PV) (f : Int -> Int) : Prop:=∀ id,(mget ks vs (.int id)).getD (.int .i64 0) = .int .i64 (f id)
theorem mget_mput (x k' : MKey) (v' : PV) : ∀ (ks : List MKey) (vs : List PV),mget (mput ks vs k' v').1 (mput ks vs k' v').2 x = if x = k' then some v' else mget ks vs x
 | [],[]=>by simp [mput,mget]
 | [],_ :: _=>by simp [mput,mget]
 | _ :: _,[]=>by simp [mput,mget]
 | k :: ks,v :: vs=>by
  have ih:=mget_mput x k' v' ks vs
  by_cases h : k' = k
  ·subst h
   simp only [mput,if_true,mget]
   by_cases hx : x = k' <;> simp [hx]
  ·simp only [mput,h,if_false,mget,ih]
   by_cases hx : x = k
   ·have : ¬ x = k':=fun hh=>h (hh ▸ hx)
    simp [hx,this]
    intro hh
    exact absurd hh.symm h
   .simp [hx]
theorem Rep.put {ks : List MKey} {vs : List PV} {f : Int -> Int} (h : Rep ks vs f) (g v : Int) : Rep (mput ks vs (.int g) (.int .i64 v)).1 (mput ks vs (.int g) (.int .i64 v)).2 (fun x=>if x = g then v else f x):=by
 intro id
 rw [mget_mput]
 by_cases hg : id = g
 ·subst hg
  simp
 ·simp [hg]
  exact h id
theorem ownC_snoc (c : Ch) (x : Int) : ∀ (a : List Ch),(∀ d ∈ a,d.group ≠ c.group) -> ownC (a ++ [c]) x = if x = c.group then c.own else ownC a x
 | [],_=>by simp only [lna,ownC,eq_comm]
 | d :: a,h=>by
  have ih:=ownC_snoc c x a (fun e he=>h e (lmc _ he))
  have hd:=h d (lms ..)
  simp only [lca,ownC,ih]
  by_cases h1 : d.group = x
  ·have h2 : ¬ x = c.group:=by omega
   simp [h1,h2]
  .simp [h1]
theorem root_at {t : Tr} (h : TreeOk t) : ∃ r,t.nodes[0]? = some r /\ r.id = 1:=by
 obtain ⟨r,ns,hr,h1,_⟩:=h.root
 exact ⟨r,by rw [hr]; rfl,h1⟩
def ascOk (kn : Int -> Bool) (lo hi : Int) : Option Int -> List Ch -> Bool
 | _,[]=>true
 | p,c :: l=>kn c.group && prevOk p c.group && decide (lo <= c.own /\ c.own <= hi) && ascOk kn lo hi (some c.group) l
def prevG (l : List Ch) (k : Nat) : Option Int:=if k = 0 then none else (l[k - 1]?).map (·.group)
structure AscOk (kn : Int -> Bool) (lo hi : Int) (l : List Ch) : Prop where
 known : ∀ c ∈ l,kn c.group = true
 inc : l.Pairwise fun a b=>a.group < b.group
 range : ∀ c ∈ l,lo <= c.own /\ c.own <= hi
theorem ascOk_iff' (kn : Int -> Bool) (lo hi : Int) : ∀ (l : List Ch) (p : Option Int),ascOk kn lo hi p l = true ↔ (∀ c ∈ l,kn c.group = true) /\ (l.Pairwise fun a b=>a.group < b.group) /\ (∀ q,p = some q -> ∀ c ∈ l,q < c.group) /\ ∀ c ∈ l,lo <= c.own /\ c.own <= hi
 | [],p=>by simp [ascOk]
 | c :: l,p=>by
  have hp : prevOk p c.group = true ↔ ∀ q,p = some q -> q < c.group:=by
   cases p <;> simp [prevOk]
  simp only [ascOk,bat,decide_eq_true_eq,hp,lmk,forall_eq_or_imp,lpw,ascOk_iff' kn lo hi l (some c.group)]
  constructor
  ·rintro ⟨⟨⟨h1,h2⟩,h3⟩,a1,a2,a3,a4⟩
   refine ⟨⟨h1,a1⟩,⟨a3 _ rfl,a2⟩,fun q hq=>⟨h2 q hq,fun d hd=>?_⟩,h3,a4⟩
   have:=h2 q hq
   have:=a3 _ rfl d hd
   omega
  ·rintro ⟨⟨h1,a1⟩,⟨a3,a2⟩,h2,h3,a4⟩
   refine ⟨⟨⟨h1,fun q hq=>(h2 q hq).1⟩,h3⟩,a1,a2,fun q hq=>?_,a4⟩
   cases hq
   exact a3
theorem ascOk_iff (kn : Int -> Bool) (lo hi : Int) (l : List Ch) : ascOk kn lo hi none l = true ↔ AscOk kn lo hi l:=by
 rw [ascOk_iff' kn lo hi l none]
 constructor
 ·rintro ⟨a,b,_,d⟩
  exact ⟨a,b,d⟩
 ·rintro ⟨a,b,d⟩
  exact ⟨a,b,fun q hq=>by simp at hq,d⟩
def ascAt (kn : Int -> Bool) (lo hi : Int) (l : List Ch) (k : Nat) (c : Ch) : Prop:=kn c.group = true /\ (k = 0 \/ ∃ e,l[k - 1]? = some e /\ e.group < c.group) /\ lo <= c.own /\ c.own <= hi
theorem prevG_ok {l : List Ch} {k : Nat} {c : Ch} (hm : l[k]? = some c) : prevOk (prevG l k) c.group = true ↔ (k = 0 \/ ∃ e,l[k - 1]? = some e /\ e.group < c.group):=by
 unfold prevG
 by_cases hk : k = 0
 ·simp [hk,prevOk]
 ·have hl:=(lgs.1 hm).1
  have he : l[k - 1]? = some l[k - 1]:=lgg (by omega)
  rw [if_neg hk,he]
  simp [prevOk,hk]
theorem asc_good {kn : Int -> Bool} {lo hi : Int} {l : List Ch} {k : Nat} {c : Ch} (hq : ascOk kn lo hi none l = ascOk kn lo hi (prevG l k) (l.drop k)) (hm : l[k]? = some c) (h : ascAt kn lo hi l k c) : ascOk kn lo hi none l = ascOk kn lo hi (prevG l (k + 1)) (l.drop (k + 1)):=by
 have hl:=(lgs.1 hm).1
 have hd : l.drop k = c :: l.drop (k + 1):=by
  rw [ldg hl]
  rw [lgg hl] at hm
  cases hm
  rfl
 obtain ⟨h1,h2,h3,h4⟩:=h
 rw [hq,hd,ascOk,h1,(prevG_ok hm).2 h2,decide_eq_true ⟨h3,h4⟩]
 simp [prevG,hm]
theorem asc_bad {kn : Int -> Bool} {lo hi : Int} {l : List Ch} {k : Nat} {c : Ch} (hq : ascOk kn lo hi none l = ascOk kn lo hi (prevG l k) (l.drop k)) (hm : l[k]? = some c) (h : ¬ ascAt kn lo hi l k c) : ascOk kn lo hi none l = false:=by
 have hl:=(lgs.1 hm).1
 have hd : l.drop k = c :: l.drop (k + 1):=by
  rw [ldg hl]
  rw [lgg hl] at hm
  cases hm
  rfl
 rw [Bool.eq_false_iff]
 intro ht
 apply h
 rw [hq,hd,ascOk] at ht
 simp only [bat,decide_eq_true_eq] at ht
 exact ⟨ht.1.1.1,(prevG_ok hm).1 ht.1.1.2,ht.1.2⟩
theorem asc_end {kn : Int -> Bool} {lo hi : Int} {l : List Ch} {k : Nat} (hq : ascOk kn lo hi none l = ascOk kn lo hi (prevG l k) (l.drop k)) (hk : l.length <= k) : ascOk kn lo hi none l = true:=by
 rw [hq,ldl hk]
 simp [ascOk]
theorem prev_at {l : List Ch} {k : Nat} {c : Ch} (hm : l[k]? = some c) (hk : (0 : Int) < k) : ∃ e,l[k - 1]? = some e /\ l[((k : Int) - 1).toNat]? = some e:=by
 have hl:=(lgs.1 hm).1
 have he : l[k - 1]? = some l[k - 1]:=lgg (by omega)
 exact ⟨_,he,by rw [show ((k : Int) - 1).toNat = k - 1 by omega]; exact he⟩
theorem ascAt_zero {kn : Int -> Bool} {lo hi : Int} {l : List Ch} {k : Nat} {c : Ch} (hk : ¬ (0 : Int) < k) : ascAt kn lo hi l k c ↔ kn c.group = true /\ lo <= c.own /\ c.own <= hi:=by
 have : k = 0:=by omega
 subst this
 simp [ascAt]
theorem ascAt_succ {kn : Int -> Bool} {lo hi : Int} {l : List Ch} {k : Nat} {c e : Ch} (hk : (0 : Int) < k) (he : l[k - 1]? = some e) : ascAt kn lo hi l k c ↔ kn c.group = true /\ e.group < c.group /\ lo <= c.own /\ c.own <= hi:=by
 have : ¬ k = 0:=by omega
 simp [ascAt,this,he]
theorem fkids_eq (t : Tr) (id : Int) (hl : t.nodes.length < 1000000) : V 262 [t.vv,.p (.int .i64 id)] [] = some (.fresh 1 ((kidsN t.nodes id).map (.int .i64)),[]):=by
 refine V_wp (vf:=vf262) rfl ?_
 simp -implicitDefEqProofs (disch:=omega) only [vf262,vb262,go_sem,↓reduceIte,rA,rS,rE,rL,reduceCtorEq]
 obtain ⟨I,hI⟩ : ∃ I : Nat -> St -> Prop,∀ k s,I k s ↔ ∃ (acc : List Int) (w : Nat),acc = kidsN (t.nodes.take k) id /\ acc.length <= k /\ s.pe 1 = .p (.int .i64 id) /\ s.pe 5 = .own (.slot 5 0) w 0 acc.length /\ s.pe 9 = .p (nodesP t.nodes) /\ s.pe 10 = .p (.int .i64 t.nodes.length) /\ s.pe 11 = .p (.int .i64 k) /\ s.h (.slot 5 0) = some (w,.arr 1 (acc.map (.int .i64))):=⟨_,fun _ _=>Iff.rfl⟩
 refine wp_count (t.nodes.length) I ?_ ?_
 ·refine (hI _ _).2 ⟨[],0,?_,?_,?_,?_,?_,?_,?_,?_⟩
  ·exact cl3
  ·exact cl3
  all_goals exact cl0
 intro k s hk hIk
 obtain ⟨acc,w,hacc,hal,h1,h5,h9,h10,h11,hh5_0⟩:=(hI _ _).1 hIk
 clear hIk
 simp -implicitDefEqProofs (disch:=omega) only [h1,h5,h9,h10,h11,hh5_0,go_sem,↓reduceIte,rA,rS,rE,rL,reduceCtorEq]
 refine wp_if_d (fun hlt=>?_) (fun hge=>?_)
 ·have hm : t.nodes[k]? = some t.nodes[k]:=lgg hlt
  generalize t.nodes[k] = m at hm
  have hst:=filter_take (p:=fun n : Nd=>decide (n.parent = id)) hm
  by_cases hp : m.parent = id
  ·simp only [hp,decide_true,if_true] at hst
   simp -implicitDefEqProofs (disch:=omega) only [h1,h5,h9,h10,h11,hh5_0,hlt,hm,hp,go_sem,↓reduceIte,rA,rS,rE,rL,reduceCtorEq]
   try refine And.intro (by omega) ?_
   refine (hI _ _).2 ⟨acc ++ [m.id],w + 1,?_,?_,?_,?_,?_,?_,?_,?_⟩
   .exact by rw [kidsN,hst,lma,hacc]; rfl
   .exact by simp; omega
   all_goals exact cl0
  ·simp only [hp,decide_false,bft,if_false] at hst
   simp -implicitDefEqProofs (disch:=omega) only [h1,h5,h9,h10,h11,hh5_0,hlt,hm,hp,go_sem,↓reduceIte,rA,rS,rE,rL,reduceCtorEq]
   try refine And.intro (by omega) ?_
   refine (hI _ _).2 ⟨acc,w,?_,?_,?_,?_,?_,?_,?_,?_⟩
   .exact by rw [kidsN,hst,hacc]; rfl
   .omega
   all_goals exact cl0
 ·rw [ltl (by omega)] at hacc
  simp -implicitDefEqProofs (disch:=omega) only [h1,h5,h9,h10,h11,hh5_0,hge,hacc,go_sem,↓reduceIte,rA,rS,rE,rL,reduceCtorEq]
theorem zero_lt_zero : ¬ ((0 : Int) < ((0 : Nat) : Int)):=by omega
def knownN (ns : List Nd) (g : Int) : Bool:=(findN ns g).isSome
theorem fresh_at {l : List Ch} (hinc : l.Pairwise fun a b=>a.group < b.group) {k : Nat} {c : Ch} (hm : l[k]? = some c) : ∀ d ∈ l.take k,d.group ≠ c.group:=by
 intro d hd
 obtain ⟨j,hj⟩:=lgm hd
 have hjk : j < k:=by
  have:=(lgs.1 hj).1
  simp at this
  omega
 rw [List.getElem?_take_of_lt hjk] at hj
 obtain ⟨hjl,he⟩:=lgs.1 hj
 obtain ⟨hkl,he2⟩:=lgs.1 hm
 have:=List.pairwise_iff_getElem.1 hinc j k hjl hkl hjk
 rw [he,he2] at this
 omega
def Rep2 (ks : List MKey) (vs : List PV) (f : Int -> Option Int) : Prop:=∀ id,mget ks vs (.int id) = (f id).map (.int .i64)
theorem Rep2.put {ks : List MKey} {vs : List PV} {f : Int -> Option Int} (h : Rep2 ks vs f) (g v : Int) : Rep2 (mput ks vs (.int g) (.int .i64 v)).1 (mput ks vs (.int g) (.int .i64 v)).2 (fun x=>if x = g then some v else f x):=by
 intro id
 rw [mget_mput]
 by_cases hg : id = g
 ·subst hg
  simp
 ·simp [hg]
  exact h id
def sharesF (t : Tr) (w : Int -> Int) (on : Int -> Bool) : Nat -> Int -> Int -> List Ch
 | 0,_,_=>[]
 | k + 1,id,s=>if on id = true then ⟨id,s⟩ :: (kidsN t.nodes id).flatMap (fun c=>if on c = true then sharesF t w on k c (max 1 (s * w c / sumW t w on id)) else []) else []
theorem sharesF_val {t : Tr} (h : TreeOk t) (w : Int -> Int) (on : Int -> Bool) : ∀ (k i : Nat) (n : Nd),t.nodes[i]? = some n -> ∀ x ∈ sharesF t w on k n.id (shr t w on n.id),on x.group = true /\ x.own = shr t w on x.group
 | 0, _, _, _, x, hx=>by simp [sharesF] at hx
 | k + 1,i,n,hn,x,hx=>by
  unfold sharesF at hx
  split at hx
  ·rename_i hon
   rcases lmk.1 hx with rfl | hx
   ·exact ⟨hon,rfl⟩
   ·rw [List.mem_flatMap] at hx
    obtain ⟨c,hc,hx⟩:=hx
    split at hx
    ·rename_i hoc
     obtain ⟨j,m,hm,hp,rfl⟩:=mem_kidsN.1 hc
     have hks:=kid_shr h w on hn hc
     rw [if_pos hoc] at hks
     rw [<- hks] at hx
     exact sharesF_val h w on k j m hm x hx
    .cases hx
  .cases hx
theorem on_anc {t : Tr} (h : TreeOk t) {on : Int -> Bool} (hu : UpClosed t on) : ∀ (i : Nat) (n : Nd),t.nodes[i]? = some n -> on n.id = true -> ∀ x ∈ ancF t.nodes t.nodes.length n.id,on x = true:=by
 intro i
 induction i using Nat.strongRecOn with
 | _ i ih =>
  intro n hn hon x hx
  rcases (anc_iff h hn _).1 hx with rfl | ⟨hi,hx⟩
  ·exact hon
  ·rcases h.nodeAt hn with ⟨h0,_⟩ | ⟨_,_,j,p,hj,hp,hpe⟩
   ·exact absurd h0 hi
   ·have:=hu.up i n hn hi hon
    rw [<- hpe] at this hx
    exact ih j hj p hp this x hx
theorem sharesF_all {t : Tr} (h : TreeOk t) (w : Int -> Int) {on : Int -> Bool} (hu : UpClosed t on) : ∀ (k i : Nat) (n : Nd) (s : Int),t.nodes[i]? = some n -> t.nodes.length <= i + k -> ∀ (j : Nat) (m : Nd),t.nodes[j]? = some m -> on m.id = true -> n.id ∈ ancF t.nodes t.nodes.length m.id -> ∃ x ∈ sharesF t w on k n.id s,x.group = m.id
 | 0,i,n,s,hn,hk,_,_,_,_,_=>by
  have:=(lgs.1 hn).1
  omega
 | k + 1,i,n,s,hn,hk,j,m,hm,hon,hin=>by
  unfold sharesF
  rw [if_pos (on_anc h hu j m hm hon n.id hin)]
  by_cases he : n.id = m.id
  ·exact ⟨_,lms ..,he⟩
  ·obtain ⟨q,c,hc,hcp,hca⟩:=anc_child h j m hm hin he
   have hoc:=on_anc h hu j m hm hon c.id hca
   have hlt:=h.kid hn hc hcp
   obtain ⟨x,hx,hxe⟩:=sharesF_all h w hu k q c (max 1 (s * w c.id / sumW t w on n.id)) hc (by omega) j m hm hon hca
   refine ⟨x,lmc _ (List.mem_flatMap.2 ⟨c.id,mem_kidsN.2 ⟨q,c,hc,hcp,rfl⟩,?_⟩),hxe⟩
   rw [if_pos hoc]
   exact hx
theorem div_mono {a b W W' : Int} (h0 : 0 <= a) (h : a <= b) (hW : 0 < W) (hWW : W <= W') : a / W' <= b / W:=by
 have h1 : a / W' <= b / W':=Int.ediv_le_ediv (by omega) h
 have h2 : b / W' <= b / W:=by
  rw [Int.le_ediv_iff_mul_le hW]
  have h3 : 0 <= b / W':=Int.ediv_nonneg (by omega) (by omega)
  have h4:=Int.ediv_mul_le b (show W' ≠ 0 by omega)
  have h5 : b / W' * W <= b / W' * W':=Int.mul_le_mul_of_nonneg_left hWW h3
  omega
 omega
theorem findT_ok {t : Tr} (h : treeOk t = true) (id : Int) : findT t id = findN t.nodes id:=by simp [findT,h]
theorem nodup_groups {l : List Ch} (h : l.Pairwise fun a b=>a.group < b.group) : (l.map (·.group)).Nodup:=by
 rw [List.Nodup,List.pairwise_map]
 exact h.imp fun hab=>by omega
theorem asc_length {ns : List Nd} {lo hi : Int} {l : List Ch} (h : AscOk (knownN ns) lo hi l) : l.length <= ns.length:=by
 have:=nodup_length_le (l.map (·.group)) (ns.map (·.id)) (nodup_groups h.inc) (fun x hx=>by
  obtain ⟨c,hc,rfl⟩:=lmm.1 hx
  obtain ⟨n,hn,he⟩:=findN_some (h.known c hc)
  exact lmm.2 ⟨n,hn,he⟩)
 simpa using this
theorem subT_len {t : Tr} (h : TreeOk t) (id : Int) : (subT t id).length <= t.nodes.length:=by
 unfold subT
 split
 ·rename_i hs
  rw [findT_ok ((treeOk_iff t).2 h)] at hs
  obtain ⟨n,hn,rfl⟩:=findN_some hs
  obtain ⟨i,hi⟩:=lgm hn
  exact subF_length h hi (by omega)
 .exact Nat.zero_le _
def pickV (L : List Int) (a : Nat) (xs : List Int) : Int:=xs.getD (nextV L a xs.length).toNat 0
theorem pick_eq (L : List Int) (a : Nat) (xs : List Int) (hL : L.length < 4611686018427387904) (h0 : 1 <= xs.length) (h1 : xs.length < 1000000) : V 38 [.ptr (.arg 0 0) 0 0,.p (intsP xs)] [diceB L a] = some (.p (.int .i64 (pickV L a xs)),[diceB L (nextA L a xs.length)]):=by
 refine V_wp (vf:=vf38) rfl ?_
 have hn:=next_eq L a xs.length hL (by omega)
 have n0:=nextV_nonneg L a xs.length
 have n1:=nextV_lt L a (n:=xs.length) (by omega)
 unfold pickV
 generalize nextV L a xs.length = x at hn n0 n1
 generalize nextA L a xs.length = a' at hn
 have hm : xs[x.toNat]? = some (xs.getD x.toNat 0):=by
  rw [List.getD_eq_getElem?_getD,lgg (by omega)]; rfl
 generalize xs.getD x.toNat 0 = y at hm
 simp -implicitDefEqProofs (disch:=omega) only [vf38,vb38,hn,hm,go_sem,↓reduceIte,rA,rS,rE,rL,reduceCtorEq]
theorem pickV_mem (L : List Int) (a : Nat) {xs : List Int} (h0 : 1 <= xs.length) : pickV L a xs ∈ xs:=by
 have n0:=nextV_nonneg L a xs.length
 have n1:=nextV_lt L a (n:=xs.length) (by omega)
 unfold pickV
 rw [List.getD_eq_getElem?_getD,lgg (by omega)]
 exact lgk _
theorem in_eq (n lo hi : Int) : V 172 [.p (.int .i64 n),.p (.int .i64 lo),.p (.int .i64 hi)] [] = some (.p (.bool (decide (lo <= n /\ n <= hi))),[]):=by
 refine V_wp (vf:=vf172) rfl ?_
 by_cases h1 : lo <= n
 ·by_cases h2 : n <= hi
  ·rw [decide_eq_true ⟨h1,h2⟩]
   simp -implicitDefEqProofs (disch:=omega) only [vf172,vb172,h1,h2,go_sem,↓reduceIte,rA,rS,rE,rL,reduceCtorEq]
  ·rw [decide_eq_false (fun h=>h2 h.2)]
   simp -implicitDefEqProofs (disch:=omega) only [vf172,vb172,h1,h2,go_sem,↓reduceIte,rA,rS,rE,rL,reduceCtorEq]
 ·rw [decide_eq_false (fun h=>h1 h.1)]
  simp -implicitDefEqProofs (disch:=omega) only [vf172,vb172,h1,go_sem,↓reduceIte,rA,rS,rE,rL,reduceCtorEq]
theorem known_eq (t : Tr) (id : Int) (hn : t.nodes.length < 1000000) : V 171 [t.vv,.p (.int .i64 id)] [] = some (.p (.bool (knownN t.nodes id)),[]):=by
 refine V_wp (vf:=vf171) rfl ?_
 have hfi:=ffind_eq t id hn
 unfold knownN
 generalize (findN t.nodes id).getD zeroNd = nd at hfi
 generalize (findN t.nodes id).isSome = b at hfi
 simp -implicitDefEqProofs (disch:=omega) only [vf171,vb171,hfi,Nd.vv,go_sem,↓reduceIte,rA,rS,rE,rL,reduceCtorEq]
def validW (t : Tr) (l : List Ch) : Bool:=treeOk t && ascOk (knownN t.nodes) 1 10000 none l
def checkA (t : Tr) (l : List Ch) : Bool:=treeOk t && ascOk (knownN t.nodes) 0 1152921504606846976 none l
set_option maxHeartbeats 1000000 in
theorem ivalid_eq (t : Tr) (l : List Ch) (hf : t.Fits) (hn : t.nodes.length < 1000000) (hl : l.length < 1000000) : V 110 [t.vv,.p (chsP l)] [] = some (.p (.bool (validW t l)),[]):=by
 refine V_wp (vf:=vf110) rfl ?_
 have hc:=tcheck_eq t hf hn
 unfold validW
 cases ht : treeOk t with
 | false =>
  rw [ht] at hc
  simp -implicitDefEqProofs (disch:=omega) only [vf110,vb110,hc,bfa,go_sem,↓reduceIte,rA,rS,rE,rL,reduceCtorEq]
 | true =>
  rw [ht] at hc
  rw [bta]
  simp -implicitDefEqProofs (disch:=omega) only [vf110,vb110,hc,go_sem,↓reduceIte,rA,rS,rE,rL,reduceCtorEq]
  obtain ⟨I,hI⟩ : ∃ I : Nat -> St -> Prop,∀ k s,I k s ↔ ascOk (knownN t.nodes) 1 10000 none l = ascOk (knownN t.nodes) 1 10000 (prevG l k) (l.drop k) /\ s.pe 1 = .p (chsP l) /\ s.pe 2 = .ptr (.slot 2 0) 0 0 /\ s.pe 10 = .p (chsP l) /\ s.pe 11 = .p (.int .i64 l.length) /\ s.pe 12 = .p (.int .i64 k) /\ s.h (.slot 2 0) = some (0,.box [.p (nodesP t.nodes),.p (.int .i64 t.next)]):=⟨_,fun _ _=>Iff.rfl⟩
  refine wp_count (l.length) I ?_ ?_
  ·refine (hI _ _).2 ⟨?_,?_,?_,?_,?_,?_,?_⟩
   ·exact cl3
   all_goals exact cl0
  intro k s hk hIk
  obtain ⟨hq,h1,h2,h10,h11,h12,hh2_0⟩:=(hI _ _).1 hIk
  clear hIk
  simp -implicitDefEqProofs (disch:=omega) only [h1,h2,h10,h11,h12,hh2_0,go_sem,↓reduceIte,rA,rS,rE,rL,reduceCtorEq]
  refine wp_if_d (fun hlt=>?_) (fun hge=>?_)
  ·have hm : l[k]? = some l[k]:=lgg hlt
   generalize l[k] = c at hm
   have hg:=asc_good hq hm
   have hb':=asc_bad hq hm
   have hfi:=known_eq t c.group hn
   have hin:=in_eq c.own 1 10000
   obtain ⟨kn,hkn⟩ : ∃ kn,knownN t.nodes c.group = kn:=⟨_,rfl⟩
   by_cases hk0 : (0 : Int) < k
   ·obtain ⟨e,he,he'⟩:=prev_at hm hk0
    have hk1 : (0 : Int) <= (k : Int) - 1:=by omega
    rw [ascAt_succ hk0 he] at hg hb'
    rw [hkn] at hfi hg hb'
    simp -implicitDefEqProofs (disch:=omega) only [h1,h2,h10,h11,h12,hh2_0,hlt,hm,hfi,hin,hk0,hk1,he',go_sem,↓reduceIte,rA,rS,rE,rL,reduceCtorEq]
    repeat' ((first | refine wp_grn_d (fun hb=>?_) (fun hb=>?_) | refine wp_gtn_d (fun hb=>?_) (fun hb=>?_) | refine wp_gr_d (fun hb=>?_) (fun hb=>?_) | refine wp_gt_d (fun hb=>?_) (fun hb=>?_) | refine wp_gr (fun hb=>?_) (fun hb=>?_) | refine wp_gt (fun hb=>?_) (fun hb=>?_) | refine wp_nt_d (fun hb=>?_) (fun hb=>?_) | refine wp_nt (fun hb=>?_) (fun hb=>?_) | refine wp_if_d (fun hb=>?_) (fun hb=>?_) | refine wp_if (fun hb=>?_) (fun hb=>?_)) <;> simp -implicitDefEqProofs (disch:=omega) only [hb,h1,h2,h10,h11,h12,hh2_0,hlt,hm,hfi,hin,hk0,hk1,he',go_sem,↓reduceIte,rA,rS,rE,rL,reduceCtorEq])
    all_goals first
     | (rw [hb' (by first | (rintro ⟨h1,h2,h3,h4⟩; omega) | simp_all)]; done)
     | skip
    try refine And.intro (by omega) ?_
    refine (hI _ _).2 ⟨?_,?_,?_,?_,?_,?_,?_⟩
    ·exact hg ⟨by first | assumption | (cases kn <;> simp_all),by omega,by omega,by omega⟩
    all_goals exact cl0
   ·rw [ascAt_zero hk0] at hg hb'
    rw [hkn] at hfi hg hb'
    simp -implicitDefEqProofs (disch:=omega) only [h1,h2,h10,h11,h12,hh2_0,hlt,hm,hfi,hin,hk0,go_sem,↓reduceIte,rA,rS,rE,rL,reduceCtorEq]
    repeat' ((first | refine wp_grn_d (fun hb=>?_) (fun hb=>?_) | refine wp_gtn_d (fun hb=>?_) (fun hb=>?_) | refine wp_gr_d (fun hb=>?_) (fun hb=>?_) | refine wp_gt_d (fun hb=>?_) (fun hb=>?_) | refine wp_gr (fun hb=>?_) (fun hb=>?_) | refine wp_gt (fun hb=>?_) (fun hb=>?_) | refine wp_nt_d (fun hb=>?_) (fun hb=>?_) | refine wp_nt (fun hb=>?_) (fun hb=>?_) | refine wp_if_d (fun hb=>?_) (fun hb=>?_) | refine wp_if (fun hb=>?_) (fun hb=>?_)) <;> simp -implicitDefEqProofs (disch:=omega) only [hb,h1,h2,h10,h11,h12,hh2_0,hlt,hm,hfi,hin,hk0,go_sem,↓reduceIte,rA,rS,rE,rL,reduceCtorEq])
    all_goals first
     | (rw [hb' (by first | (rintro ⟨h1,h2,h3⟩; omega) | simp_all)]; done)
     | skip
    try refine And.intro (by omega) ?_
    refine (hI _ _).2 ⟨?_,?_,?_,?_,?_,?_,?_⟩
    .exact hg ⟨by first | assumption | (cases kn <;> simp_all),by omega,by omega⟩
    all_goals exact cl0
  ·have hT:=asc_end hq (by omega)
   simp -implicitDefEqProofs (disch:=omega) only [h1,h2,h10,h11,h12,hh2_0,hge,hT,go_sem,↓reduceIte,rA,rS,rE,rL,reduceCtorEq]
set_option maxHeartbeats 1000000 in
theorem icheck_eq (t : Tr) (l : List Ch) (hf : t.Fits) (hn : t.nodes.length < 1000000) (hl : l.length < 1000000) : V 112 [t.vv,.p (chsP l)] [] = some (.p (.bool (checkA t l)),[]):=by
 refine V_wp (vf:=vf112) rfl ?_
 have hc:=tcheck_eq t hf hn
 unfold checkA
 cases ht : treeOk t with
 | false =>
  rw [ht] at hc
  simp -implicitDefEqProofs (disch:=omega) only [vf112,vb112,hc,bfa,go_sem,↓reduceIte,rA,rS,rE,rL,reduceCtorEq]
 | true =>
  rw [ht] at hc
  rw [bta]
  simp -implicitDefEqProofs (disch:=omega) only [vf112,vb112,hc,go_sem,↓reduceIte,rA,rS,rE,rL,reduceCtorEq]
  obtain ⟨I,hI⟩ : ∃ I : Nat -> St -> Prop,∀ k s,I k s ↔ ascOk (knownN t.nodes) 0 1152921504606846976 none l = ascOk (knownN t.nodes) 0 1152921504606846976 (prevG l k) (l.drop k) /\ s.pe 1 = .p (chsP l) /\ s.pe 2 = .ptr (.slot 2 0) 0 0 /\ s.pe 10 = .p (chsP l) /\ s.pe 11 = .p (.int .i64 l.length) /\ s.pe 12 = .p (.int .i64 k) /\ s.h (.slot 2 0) = some (0,.box [.p (nodesP t.nodes),.p (.int .i64 t.next)]):=⟨_,fun _ _=>Iff.rfl⟩
  refine wp_count (l.length) I ?_ ?_
  ·refine (hI _ _).2 ⟨?_,?_,?_,?_,?_,?_,?_⟩
   ·exact cl3
   all_goals exact cl0
  intro k s hk hIk
  obtain ⟨hq,h1,h2,h10,h11,h12,hh2_0⟩:=(hI _ _).1 hIk
  clear hIk
  simp -implicitDefEqProofs (disch:=omega) only [h1,h2,h10,h11,h12,hh2_0,go_sem,↓reduceIte,rA,rS,rE,rL,reduceCtorEq]
  refine wp_if_d (fun hlt=>?_) (fun hge=>?_)
  ·have hm : l[k]? = some l[k]:=lgg hlt
   generalize l[k] = c at hm
   have hg:=asc_good hq hm
   have hb':=asc_bad hq hm
   have hfi:=known_eq t c.group hn
   have hin:=in_eq c.own 0 1152921504606846976
   obtain ⟨kn,hkn⟩ : ∃ kn,knownN t.nodes c.group = kn:=⟨_,rfl⟩
   by_cases hk0 : (0 : Int) < k
   ·obtain ⟨e,he,he'⟩:=prev_at hm hk0
    have hk1 : (0 : Int) <= (k : Int) - 1:=by omega
    rw [ascAt_succ hk0 he] at hg hb'
    rw [hkn] at hfi hg hb'
    simp -implicitDefEqProofs (disch:=omega) only [h1,h2,h10,h11,h12,hh2_0,hlt,hm,hfi,hin,hk0,hk1,he',go_sem,↓reduceIte,rA,rS,rE,rL,reduceCtorEq]
    repeat' ((first | refine wp_grn_d (fun hb=>?_) (fun hb=>?_) | refine wp_gtn_d (fun hb=>?_) (fun hb=>?_) | refine wp_gr_d (fun hb=>?_) (fun hb=>?_) | refine wp_gt_d (fun hb=>?_) (fun hb=>?_) | refine wp_gr (fun hb=>?_) (fun hb=>?_) | refine wp_gt (fun hb=>?_) (fun hb=>?_) | refine wp_nt_d (fun hb=>?_) (fun hb=>?_) | refine wp_nt (fun hb=>?_) (fun hb=>?_) | refine wp_if_d (fun hb=>?_) (fun hb=>?_) | refine wp_if (fun hb=>?_) (fun hb=>?_)) <;> simp -implicitDefEqProofs (disch:=omega) only [hb,h1,h2,h10,h11,h12,hh2_0,hlt,hm,hfi,hin,hk0,hk1,he',go_sem,↓reduceIte,rA,rS,rE,rL,reduceCtorEq])
    all_goals first
     | (rw [hb' (by first | (rintro ⟨h1,h2,h3,h4⟩; omega) | simp_all)]; done)
     | skip
    try refine And.intro (by omega) ?_
    refine (hI _ _).2 ⟨?_,?_,?_,?_,?_,?_,?_⟩
    ·exact hg ⟨by first | assumption | (cases kn <;> simp_all),by omega,by omega,by omega⟩
    all_goals exact cl0
   ·rw [ascAt_zero hk0] at hg hb'
    rw [hkn] at hfi hg hb'
    simp -implicitDefEqProofs (disch:=omega) only [h1,h2,h10,h11,h12,hh2_0,hlt,hm,hfi,hin,hk0,go_sem,↓reduceIte,rA,rS,rE,rL,reduceCtorEq]
    repeat' ((first | refine wp_grn_d (fun hb=>?_) (fun hb=>?_) | refine wp_gtn_d (fun hb=>?_) (fun hb=>?_) | refine wp_gr_d (fun hb=>?_) (fun hb=>?_) | refine wp_gt_d (fun hb=>?_) (fun hb=>?_) | refine wp_gr (fun hb=>?_) (fun hb=>?_) | refine wp_gt (fun hb=>?_) (fun hb=>?_) | refine wp_nt_d (fun hb=>?_) (fun hb=>?_) | refine wp_nt (fun hb=>?_) (fun hb=>?_) | refine wp_if_d (fun hb=>?_) (fun hb=>?_) | refine wp_if (fun hb=>?_) (fun hb=>?_)) <;> simp -implicitDefEqProofs (disch:=omega) only [hb,h1,h2,h10,h11,h12,hh2_0,hlt,hm,hfi,hin,hk0,go_sem,↓reduceIte,rA,rS,rE,rL,reduceCtorEq])
    all_goals first
     | (rw [hb' (by first | (rintro ⟨h1,h2,h3⟩; omega) | simp_all)]; done)
     | skip
    try refine And.intro (by omega) ?_
    refine (hI _ _).2 ⟨?_,?_,?_,?_,?_,?_,?_⟩
    .exact hg ⟨by first | assumption | (cases kn <;> simp_all),by omega,by omega⟩
    all_goals exact cl0
  ·have hT:=asc_end hq (by omega)
   simp -implicitDefEqProofs (disch:=omega) only [h1,h2,h10,h11,h12,hh2_0,hge,hT,go_sem,↓reduceIte,rA,rS,rE,rL,reduceCtorEq]
theorem wtOf_drop {l : List Ch} {k : Nat} {c : Ch} {id : Int} (hm : l[k]? = some c) (h : wtOf l id = wtOf (l.drop k) id) : wtOf l id = if c.group = id then c.own else wtOf (l.drop (k + 1)) id:=by
 have hl:=(lgs.1 hm).1
 rw [h,ldg hl]
 rw [lgg hl] at hm
 cases hm
 rfl
theorem ownC_drop {l : List Ch} {k : Nat} {c : Ch} {id : Int} (hm : l[k]? = some c) (h : ownC l id = ownC (l.drop k) id) : ownC l id = if c.group = id then c.own else ownC (l.drop (k + 1)) id:=by
 have hl:=(lgs.1 hm).1
 rw [h,ldg hl]
 rw [lgg hl] at hm
 cases hm
 rfl
theorem wt_eq (l : List Ch) (id : Int) (hl : l.length < 1000000) : V 269 [.p (chsP l),.p (.int .i64 id)] [] = some (.p (.int .i64 (wtOf l id)),[]):=by
 refine V_wp (vf:=vf269) rfl ?_
 simp -implicitDefEqProofs (disch:=omega) only [vf269,vb269,go_sem,↓reduceIte,rA,rS,rE,rL,reduceCtorEq]
 obtain ⟨I,hI⟩ : ∃ I : Nat -> St -> Prop,∀ k s,I k s ↔ wtOf l id = wtOf (l.drop k) id /\ s.pe 1 = .p (.int .i64 id) /\ s.pe 7 = .p (chsP l) /\ s.pe 8 = .p (.int .i64 ↑l.length) /\ s.pe 9 = .p (.int .i64 k):=⟨_,fun _ _=>Iff.rfl⟩
 refine wp_count (l.length) I ?_ ?_
 ·refine (hI _ _).2 ⟨?_,?_,?_,?_,?_⟩
  ·exact cl3
  all_goals exact cl0
 intro k s hk hIk
 obtain ⟨hq,h1,h7,h8,h9⟩:=(hI _ _).1 hIk
 clear hIk
 simp -implicitDefEqProofs (disch:=omega) only [h1,h7,h8,h9,go_sem,↓reduceIte,rA,rS,rE,rL,reduceCtorEq]
 refine wp_if_d (fun hlt=>?_) (fun hge=>?_)
 ·have hm : l[k]? = some l[k]:=lgg hlt
  generalize l[k] = c at hm
  have hst:=wtOf_drop hm hq
  by_cases hp : c.group = id
  ·rw [if_pos hp] at hst
   simp -implicitDefEqProofs (disch:=omega) only [h1,h7,h8,h9,hlt,hm,hp,hst,go_sem,↓reduceIte,rA,rS,rE,rL,reduceCtorEq]
  ·rw [if_neg hp] at hst
   simp -implicitDefEqProofs (disch:=omega) only [h1,h7,h8,h9,hlt,hm,hp,go_sem,↓reduceIte,rA,rS,rE,rL,reduceCtorEq]
   try refine And.intro (by omega) ?_
   refine (hI _ _).2 ⟨?_,?_,?_,?_,?_⟩
   .exact hst
   all_goals exact cl0
 ·rw [ldl (by omega)] at hq
  simp -implicitDefEqProofs (disch:=omega) only [h1,h7,h8,h9,hge,hq,wtOf,go_sem,↓reduceIte,rA,rS,rE,rL,reduceCtorEq]
theorem get_eq (l : List Ch) (id : Int) (hl : l.length < 1000000) : V 118 [.p (chsP l),.p (.int .i64 id)] [] = some (.p (.int .i64 (ownC l id)),[]):=by
 refine V_wp (vf:=vf118) rfl ?_
 simp -implicitDefEqProofs (disch:=omega) only [vf118,vb118,go_sem,↓reduceIte,rA,rS,rE,rL,reduceCtorEq]
 obtain ⟨I,hI⟩ : ∃ I : Nat -> St -> Prop,∀ k s,I k s ↔ ownC l id = ownC (l.drop k) id /\ s.pe 1 = .p (.int .i64 id) /\ s.pe 7 = .p (chsP l) /\ s.pe 8 = .p (.int .i64 ↑l.length) /\ s.pe 9 = .p (.int .i64 k):=⟨_,fun _ _=>Iff.rfl⟩
 refine wp_count (l.length) I ?_ ?_
 ·refine (hI _ _).2 ⟨?_,?_,?_,?_,?_⟩
  ·exact cl3
  all_goals exact cl0
 intro k s hk hIk
 obtain ⟨hq,h1,h7,h8,h9⟩:=(hI _ _).1 hIk
 clear hIk
 simp -implicitDefEqProofs (disch:=omega) only [h1,h7,h8,h9,go_sem,↓reduceIte,rA,rS,rE,rL,reduceCtorEq]
 refine wp_if_d (fun hlt=>?_) (fun hge=>?_)
 ·have hm : l[k]? = some l[k]:=lgg hlt
  generalize l[k] = c at hm
  have hst:=ownC_drop hm hq
  by_cases hp : c.group = id
  ·rw [if_pos hp] at hst
   simp -implicitDefEqProofs (disch:=omega) only [h1,h7,h8,h9,hlt,hm,hp,hst,go_sem,↓reduceIte,rA,rS,rE,rL,reduceCtorEq]
  ·rw [if_neg hp] at hst
   simp -implicitDefEqProofs (disch:=omega) only [h1,h7,h8,h9,hlt,hm,hp,go_sem,↓reduceIte,rA,rS,rE,rL,reduceCtorEq]
   try refine And.intro (by omega) ?_
   refine (hI _ _).2 ⟨?_,?_,?_,?_,?_⟩
   .exact hst
   all_goals exact cl0
 ·rw [ldl (by omega)] at hq
  simp -implicitDefEqProofs (disch:=omega) only [h1,h7,h8,h9,hge,hq,ownC,go_sem,↓reduceIte,rA,rS,rE,rL,reduceCtorEq]
def putA (a : List Ch) (id v : Int) : List Ch:=withGo id v false a
set_option maxHeartbeats 1000000 in
theorem iput_eq (l : List Ch) (id v : Int) (hl : l.length < 1000000) : V 187 [.p (chsP l),.p (.int .i64 id),.p (.int .i64 v)] [] = some (.fresh 2 ((putA l id v).map Ch.pv),[]):=by
 refine V_wp (vf:=vf187) rfl ?_
 unfold putA
 simp -implicitDefEqProofs (disch:=omega) only [vf187,vb187,go_sem,↓reduceIte,rA,rS,rE,rL,reduceCtorEq]
 obtain ⟨I,hI⟩ : ∃ I : Nat -> St -> Prop,∀ k s,I k s ↔ ∃ (acc : List Ch) (d : Bool) (w : Nat),withGo id v false l = acc ++ withGo id v d (l.drop k) /\ acc.length <= 2 * k /\ s.pe 1 = .p (.int .i64 id) /\ s.pe 2 = .p (.int .i64 v) /\ s.pe 7 = .own (.slot 7 0) w 0 acc.length /\ s.pe 8 = .p (.bool d) /\ s.pe 11 = .p (chsP l) /\ s.pe 12 = .p (.int .i64 l.length) /\ s.pe 13 = .p (.int .i64 k) /\ s.h (.slot 7 0) = some (w,Ob.arr 2 (acc.map Ch.pv)):=⟨_,fun _ _=>Iff.rfl⟩
 refine wp_count (l.length) I ?_ ?_
 ·refine (hI _ _).2 ⟨[],false,0,?_,?_,?_,?_,?_,?_,?_,?_,?_,?_⟩
  ·rfl
  ·exact cl3
  all_goals exact cl0
 intro k s hk hIk
 obtain ⟨acc,d,w,hw,hal,h1,h2,h7,h8,h11,h12,h13,hh7_0⟩:=(hI _ _).1 hIk
 clear hIk
 simp -implicitDefEqProofs (disch:=omega) only [h1,h2,h7,h8,h11,h12,h13,hh7_0,go_sem,↓reduceIte,rA,rS,rE,rL,reduceCtorEq]
 refine wp_if_d (fun hlt=>?_) (fun hge=>?_)
 ·have hm : l[k]? = some l[k]:=lgg hlt
  have hd : l.drop k = l[k] :: l.drop (k + 1):=ldg hlt
  generalize l[k] = c at hm hd
  rw [hd,withGo] at hw
  cases d with
  | true =>
   by_cases he : c.group = id
   ·simp only [he,Bool.not_true,bfa,bft,if_false,if_true,lna,lan,Bool.true_or] at hw
    simp -implicitDefEqProofs (disch:=omega) only [h1,h2,h7,h8,h11,h12,h13,hh7_0,hlt,hm,he,go_sem,↓reduceIte,rA,rS,rE,rL,reduceCtorEq]
    try refine And.intro (by omega) ?_
    refine (hI _ _).2 ⟨acc,true,w,?_,?_,?_,?_,?_,?_,?_,?_,?_,?_⟩
    ·exact hw
    ·omega
    all_goals exact cl0
   ·simp only [he,Bool.not_true,bfa,bft,if_false,lna,Bool.true_or,<- laa] at hw
    simp -implicitDefEqProofs (disch:=omega) only [h1,h2,h7,h8,h11,h12,h13,hh7_0,hlt,hm,he,go_sem,↓reduceIte,rA,rS,rE,rL,reduceCtorEq]
    try refine And.intro (by omega) ?_
    refine (hI _ _).2 ⟨acc ++ [c],true,w + 1,?_,?_,?_,?_,?_,?_,?_,?_,?_,?_⟩
    ·exact hw
    ·exact by simp; omega
    all_goals exact cl0
  | false =>
   by_cases hge : id <= c.group
   ·by_cases he : c.group = id
    ·simp only [he,Int.le_refl,decide_true,bnf,bas,if_true,lan,Bool.or_true,<- laa] at hw
     simp -implicitDefEqProofs (disch:=omega) only [h1,h2,h7,h8,h11,h12,h13,hh7_0,hlt,hm,hge,he,Int.le_refl,decide_true,go_sem,↓reduceIte,rA,rS,rE,rL,reduceCtorEq]
     try refine And.intro (by omega) ?_
     refine (hI _ _).2 ⟨acc ++ [⟨id,v⟩],true,w + 1,?_,?_,?_,?_,?_,?_,?_,?_,?_,?_⟩
     .exact hw
     .exact by simp; omega
     all_goals exact cl0
    ·simp only [he,hge,decide_true,bnf,bas,if_true,if_false,Bool.or_true,<- laa] at hw
     simp -implicitDefEqProofs (disch:=omega) only [h1,h2,h7,h8,h11,h12,h13,hh7_0,hlt,hm,hge,he,go_sem,↓reduceIte,rA,rS,rE,rL,reduceCtorEq]
     try refine And.intro (by omega) ?_
     refine (hI _ _).2 ⟨acc ++ [⟨id,v⟩] ++ [c],true,w + 1 + 1,?_,?_,?_,?_,?_,?_,?_,?_,?_,?_⟩
     .exact hw
     .exact by simp; omega
     all_goals exact cl0
   ·have he : ¬ c.group = id:=by omega
    simp only [he,hge,decide_false,bnf,Bool.and_false,bft,if_false,lna,Bool.or_false,<- laa] at hw
    simp -implicitDefEqProofs (disch:=omega) only [h1,h2,h7,h8,h11,h12,h13,hh7_0,hlt,hm,hge,he,go_sem,↓reduceIte,rA,rS,rE,rL,reduceCtorEq]
    try refine And.intro (by omega) ?_
    refine (hI _ _).2 ⟨acc ++ [c],false,w + 1,?_,?_,?_,?_,?_,?_,?_,?_,?_,?_⟩
    .exact hw
    .exact by simp; omega
    all_goals exact cl0
 ·rw [ldl (by omega),withGo] at hw
  cases d with
  | true =>
   simp only [if_true,lan] at hw
   simp -implicitDefEqProofs (disch:=omega) only [h1,h2,h7,h8,h11,h12,h13,hh7_0,hge,go_sem,↓reduceIte,rA,rS,rE,rL,reduceCtorEq]
   rw [hw]
  | false =>
   simp only [bft,if_false] at hw
   simp -implicitDefEqProofs (disch:=omega) only [h1,h2,h7,h8,h11,h12,h13,hh7_0,hge,go_sem,↓reduceIte,rA,rS,rE,rL,reduceCtorEq]
   rw [hw]
   simp [Ch.pv]
def mayA (t : Tr) (a : List Ch) (id now : Int) : Bool:=checkA t a && knownN t.nodes id && decide (ownC a id <= now)
theorem may_eq (t : Tr) (a : List Ch) (id now : Int) (hf : t.Fits) (hn : t.nodes.length < 1000000) (hl : a.length < 1000000) : V 117 [t.vv,.p (chsP a),.p (.int .i64 id),.p (.int .i64 now)] [] = some (.p (.bool (mayA t a id now)),[]):=by
 refine V_wp (vf:=vf117) rfl ?_
 have h1:=icheck_eq t a hf hn hl
 have h2:=known_eq t id hn
 have h3:=get_eq a id hl
 unfold mayA
 cases hc : checkA t a with
 | false =>
  rw [hc] at h1
  simp -implicitDefEqProofs (disch:=omega) only [vf117,vb117,h1,bfa,go_sem,↓reduceIte,rA,rS,rE,rL,reduceCtorEq]
 | true =>
  rw [hc] at h1
  cases hk : knownN t.nodes id with
  | false =>
   rw [hk] at h2
   simp -implicitDefEqProofs (disch:=omega) only [vf117,vb117,h1,h2,bfa,bta,go_sem,↓reduceIte,rA,rS,rE,rL,reduceCtorEq]
  | true =>
   rw [hk] at h2
   simp -implicitDefEqProofs (disch:=omega) only [vf117,vb117,h1,h2,h3,bta,go_sem,↓reduceIte,rA,rS,rE,rL,reduceCtorEq]
def issueV (a : List Ch) (id share cost now margin : Int) : Int:=max (max (ownC a id) (now - margin)) 0 + (cost * 1073741824 + share - 1) / share
def IssueA (t : Tr) (a : List Ch) (id share cost now margin : Int) : List Ch × Int :=
  if checkA t a = true then
    (if knownN t.nodes id = true then
      (if (1 <= share /\ share <= 1073741824) /\ (1 <= cost /\ cost <= 4294967296) /\ (0 <= now /\ now <= 576460752303423488) /\ (0 <= margin /\ margin <= 1073741824) then
        (if now < ownC a id then ([],11) else if 1152921504606846976 < issueV a id share cost now margin then ([],7) else (putA a id (issueV a id share cost now margin),0))
       else ([],3))
     else ([],4))
  else ([],1)
theorem ownC_asc {kn : Int -> Bool} {lo hi : Int} {l : List Ch} (h : AscOk kn lo hi l) (h0 : lo <= 0) (h1 : 0 <= hi) (id : Int) : lo <= ownC l id /\ ownC l id <= hi:=by
 have hr:=h.range
 clear h
 induction l with
 | nil=>simp [ownC,h0,h1]
 | cons c l ih =>
  unfold ownC
  split
  .exact hr c (lms ..)
  .exact ih fun d hd=>hr d (lmc _ hd)
set_option maxHeartbeats 2000000 in
theorem issue_eq (t : Tr) (a : List Ch) (id share cost now margin : Int) (hf : t.Fits) (hn : t.nodes.length < 1000000) (hl : a.length < 1000000) : V 126 [t.vv,.p (chsP a),.p (.int .i64 id),.p (.int .i64 share),.p (.int .i64 cost),.p (.int .i64 now),.p (.int .i64 margin)] [] = some (.tup [.fresh 2 ((IssueA t a id share cost now margin).1.map Ch.pv),.p (.int .i64 (IssueA t a id share cost now margin).2)],[]):=by
 refine V_wp (vf:=vf126) rfl ?_
 have h1 := icheck_eq t a hf hn hl
 have h2 := known_eq t id hn
 have h3 := get_eq a id hl
 have i1 := in_eq share 1 1073741824
 have i2 := in_eq cost 1 4294967296
 have i3 := in_eq now 0 576460752303423488
 have i4 := in_eq margin 0 1073741824
 unfold IssueA
 cases hc : checkA t a with
 | false =>
  rw [hc] at h1
  simp -implicitDefEqProofs (disch:=omega) only [vf126,vb126,h1,go_sem,↓reduceIte,rA,rS,rE,rL,reduceCtorEq]
  try rfl
 | true =>
  rw [hc] at h1
  have hA : AscOk (knownN t.nodes) 0 1152921504606846976 a:=(ascOk_iff _ _ _ _).1 (by
   unfold checkA at hc
   simp only [bat] at hc
   exact hc.2)
  have hown:=ownC_asc hA (by omega) (by omega) id
  rw [if_pos rfl]
  cases hk : knownN t.nodes id with
  | false =>
   rw [hk] at h2
   simp -implicitDefEqProofs (disch:=omega) only [vf126,vb126,h1,h2,go_sem,↓reduceIte,rA,rS,rE,rL,reduceCtorEq]
   try rfl
  | true =>
   rw [hk] at h2
   rw [if_pos rfl]
   by_cases c1 : 1 <= share /\ share <= 1073741824
   ·rw [decide_eq_true c1] at i1
    by_cases c2 : 1 <= cost /\ cost <= 4294967296
    ·rw [decide_eq_true c2] at i2
     by_cases c3 : 0 <= now /\ now <= 576460752303423488
     ·rw [decide_eq_true c3] at i3
      by_cases c4 : 0 <= margin /\ margin <= 1073741824
      ·rw [decide_eq_true c4] at i4
       rw [if_pos ⟨c1,c2,c3,c4⟩]
       have hp:=iput_eq a id (issueV a id share cost now margin) hl
       have hnn : 0 <= cost * 1073741824 + share - 1:=by omega
       have hq:=Int.tdiv_eq_ediv_of_nonneg (b:=share) hnn
       have hq1 : (cost * 1073741824 + share - 1) / share <= cost * 1073741824 + share - 1:=Int.ediv_le_self _ hnn
       have hq0 : 0 <= (cost * 1073741824 + share - 1) / share:=Int.ediv_nonneg hnn (by omega)
       unfold issueV at hp ⊢
       generalize ownC a id = o at h3 hown hp
       generalize (cost * 1073741824 + share - 1) / share = z at hq hq0 hq1 hp
       by_cases c5 : now < o
       ·rw [if_pos c5]
        simp -implicitDefEqProofs (disch:=omega) only [vf126,vb126,h1,h2,h3,i1,i2,i3,i4,c5,go_sem,↓reduceIte,rA,rS,rE,rL,reduceCtorEq]
        try rfl
       ·rw [if_neg c5]
        have hw1 : IntKind.i64.wrap (cost * 1073741824) = cost * 1073741824:=wrap64 (by omega) (by omega)
        have hne : share ≠ 0:=by omega
        generalize hm : max (max o (now - margin)) 0 = M at hp
        have hM : 0 <= M /\ M <= 1152921504606846976:=by omega
        by_cases c6 : 1152921504606846976 < M + z
        ·rw [if_pos c6]
         simp -implicitDefEqProofs (disch:=omega) only [vf126,vb126,h1,h2,h3,i1,i2,i3,i4,c5,hw1,hne,hq,hm,c6,go_sem,↓reduceIte,rA,rS,rE,rL,reduceCtorEq]
         try rfl
        ·rw [if_neg c6]
         generalize putA a id (M + z) = PA at hp
         simp -implicitDefEqProofs (disch:=omega) only [vf126,vb126,h1,h2,h3,i1,i2,i3,i4,c5,hw1,hne,hq,hm,c6,hp,go_sem,↓reduceIte,rA,rS,rE,rL,reduceCtorEq]
         try rfl
      ·rw [decide_eq_false c4] at i4
       rw [if_neg (fun h=>c4 h.2.2.2)]
       simp -implicitDefEqProofs (disch:=omega) only [vf126,vb126,h1,h2,i1,i2,i3,i4,go_sem,↓reduceIte,rA,rS,rE,rL,reduceCtorEq]
       try rfl
     ·rw [decide_eq_false c3] at i3
      rw [if_neg (fun h=>c3 h.2.2.1)]
      simp -implicitDefEqProofs (disch:=omega) only [vf126,vb126,h1,h2,i1,i2,i3,go_sem,↓reduceIte,rA,rS,rE,rL,reduceCtorEq]
      try rfl
    ·rw [decide_eq_false c2] at i2
     rw [if_neg (fun h=>c2 h.2.1)]
     simp -implicitDefEqProofs (disch:=omega) only [vf126,vb126,h1,h2,i1,i2,go_sem,↓reduceIte,rA,rS,rE,rL,reduceCtorEq]
     try rfl
   ·rw [decide_eq_false c1] at i1
    rw [if_neg (fun h=>c1 h.1)]
    simp -implicitDefEqProofs (disch:=omega) only [vf126,vb126,h1,h2,i1,go_sem,↓reduceIte,rA,rS,rE,rL,reduceCtorEq]
    try rfl
end Go.V
