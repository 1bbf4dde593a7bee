/- Part 2 of the proof. -/
import Derived.Test.YtekkdllchjmhdaaGreatB1
import Derived.Attr
set_option linter.unusedSectionVars false
set_option linter.unusedSimpArgs false
set_option linter.unusedVariables false
open Nat renaming reduceAdd → rA, reduceSub → rS, reduceEqDiff → rE, reduceLeDiff → rL, le_refl → lrf
open List renaming getElem?_eq_getElem → lgg, getElem?_eq_some_iff → lgs, mem_of_getElem? → lmg, drop_eq_getElem_cons → ldg, mem_cons_of_mem → lmc, map_cons → lpc, drop_of_length_le → ldl, nil_append → lna, append_assoc → laa, append_nil → lan, mem_map → lmm, mem_cons_self → lms, map_append → lma, take_of_length_le → ltl, getElem?_of_mem → lgm, length_cons → llc, length_append → lla, flatMap_cons → lfc, mem_cons → lmk, map_nil → lpn, length_nil → lln, mem_append → lmp, length_map → llm, eq_nil_of_length_eq_zero → lez, length_take → llt, pairwise_cons → lpw, cons_append → lca, filter_cons → lfl
open Option renaming some.injEq → osi
open Bool renaming and_eq_true → bat, false_and → bfa, false_eq_true → bft, true_and → bta, not_false → bnf, and_self → bas, or_eq_true → bot, and_true → bau
open Prod renaming mk.injEq → pmi
namespace Go.V
def wp {α : Type} (x : Option α) (Q : α -> Prop) (_u : Tok Q:=⟨⟩) : Prop:=∃ a,x = some a /\ Q a
section
variable {α β : Type}
theorem ob_some (a : α) (f : α -> Option β) (u : Tok f) : ob (some a) f u = f a:=rfl
theorem ob_none (f : α -> Option β) (u : Tok f) : ob none f u = none:=rfl
theorem gd_pos {c : Prop} [Decidable c] (x : Option α) (u : Tok x) (h : c) : gd c x u = x:=by simp [gd,h]
theorem gd_true (x : Option α) (i : Decidable True) (u : Tok x) : @gd α True i x u = x:=by simp [gd]
theorem br_true (x y : α) (u : Tok x) (v : Tok y) : br true x y u v = x:=rfl
theorem br_false (x y : α) (u : Tok x) (v : Tok y) : br false x y u v = y:=rfl
theorem wp_some (a : α) (Q : α -> Prop) (u : Tok Q) : wp (some a) Q u = Q a:=by simp [wp]
theorem wp_ob (x : Option α) (f : α -> Option β) (Q : β -> Prop) (u : Tok f) (v : Tok Q) : wp (ob x f u) Q v = wp x fun a=>wp (f a) Q:=by
 cases x <;> simp [wp,ob]
theorem wp_br {b : Bool} {x y : Option α} {Q : α -> Prop} {u : Tok x} {v : Tok y} {t : Tok Q} (h1 : b = true -> wp x Q) (h2 : b = false -> wp y Q) : wp (br b x y u v) Q t:=by
 cases b
 .exact h2 rfl
 .exact h1 rfl
theorem eq_of_wp {x : Option α} {a : α} (h : wp x (· = a)) : x = some a:=by
 obtain ⟨b,hb,rfl⟩:=h
 exact hb
end
theorem iterN_mono {b : St -> Option (VExit × St)} : ∀ {n m : Nat} {s : St} {r : VExit × St},n <= m -> iterN b n s = some r -> iterN b m s = some r:=by
 intro n
 induction n with
 | zero=>intro m s r _ h; simp [iterN] at h
 | succ n ih =>
  intro m s r hm h
  obtain ⟨m,rfl⟩ : ∃ k,m = k + 1:=⟨m - 1,by omega⟩
  simp only [iterN] at h ⊢
  cases hb : b s with
  | none=>simp [hb,ob] at h
  | some q =>
   obtain ⟨e,s'⟩:=q
   simp only [hb,ob] at h ⊢
   cases e with
   | normal=>exact ih (by omega) h
   | exit _=>exact h
   | ret=>exact h
theorem iter_of {b : St -> Option (VExit × St)} {n : Nat} {s : St} {r : VExit × St} (h : iterN b n s = some r) : iter b s = some r:=by
 unfold iter
 have hex : ∃ n r,iterN b n s = some r:=⟨n,r,h⟩
 rw [dif_pos hex]
 have h':=Classical.choose_spec (Classical.choose_spec hex)
 have h1:=iterN_mono (Nat.le_max_left n (Classical.choose hex)) h
 have h2:=iterN_mono (Nat.le_max_right n (Classical.choose hex)) h'
 rw [h1] at h2
 exact h2.symm
noncomputable def thenE (r : VExit × St) (k : St -> Option (VExit × St)) : Option (VExit × St):=match r.1 with
 | .normal=>k r.2
 | _=>some r
theorem thenE_normal (s : St) (k : St -> Option (VExit × St)) : thenE (.normal,s) k = k s:=rfl
theorem thenE_exit (i : Nat) (s : St) (k : St -> Option (VExit × St)) : thenE (.exit i,s) k = some (.exit i,s):=rfl
theorem thenE_ret (s : St) (k : St -> Option (VExit × St)) : thenE (.ret,s) k = some (.ret,s):=rfl
def inB (id : Nat) (r : VExit × St) : Option (VExit × St):=if r.1 = .exit id then some (.normal,r.2) else some r
theorem inB_normal (id : Nat) (s : St) : inB id (.normal,s) = some (.normal,s):=by simp [inB]
theorem inB_ret (id : Nat) (s : St) : inB id (.ret,s) = some (.ret,s):=by simp [inB]
theorem inB_exit (id i : Nat) (s : St) : inB id (.exit i,s) = if i = id then some (.normal,s) else some (.exit i,s):=by simp [inB]
section
variable (Γ : Sig) (s : St)
theorem exec_skip : exec Γ .skip s = some (.normal,s):=by simp [exec]
theorem exec_region (r : VRegion) : exec Γ (.region r) s = ob (execR Γ r s) fun s'=>some (.normal,s'):=by simp [exec]
theorem exec_seq (a b : VCode) : exec Γ (.seq a b) s = ob (exec Γ a s) fun r=>thenE r (exec Γ b):=by
 simp only [exec]
 rfl
theorem exec_cond (t : Nat) (a b : VCode) : exec Γ (.cond (.v t) a b) s = match s.pe t with
  | .p (.bool c)=>br c (exec Γ a s) (exec Γ b s)
  | _=>none:=by
 simp only [exec]
 rfl
theorem exec_block (id : Nat) (c : VCode) : exec Γ (.block id c) s = ob (exec Γ c s) (inB id):=by
 simp only [exec]
 rfl
theorem exec_loop (c : VCode) : exec Γ (.loop c) s = iter (exec Γ c) s:=by simp only [exec]
theorem exec_exit (id : Nat) : exec Γ (.exit id) s = some (.exit id,s):=by simp only [exec]
theorem exec_ret : exec Γ .ret s = some (.ret,s):=by simp only [exec]
theorem exec_scope (c : VCode) : exec Γ (.scope c) s = exec Γ c s:=by simp only [exec]
theorem exec_fail : exec Γ .fail s = none:=by simp only [exec]
theorem exec_mv (a b : Id) (c : VCode) : exec Γ (.mv a b c) s = exec Γ c (moved a b s):=by simp only [exec]
end
theorem execR_plain (Γ : Sig) (ops : List VOper) (s : St) : execR Γ ⟨ops,[],[]⟩ s = ob (runOps Γ ops { pe:=s.pe,te:=fun _=>none,h:=s.h }) fun q=>some { pe:=q.pe,h:=q.h }:=by
 simp [execR,freeze]
theorem runOps_nil (Γ : Sig) (r : RS) : runOps Γ [] r = some r:=rfl
theorem runOps_cons (Γ : Sig) (o : VOper) (os : List VOper) (r : RS) : runOps Γ (o :: os) r = ob (stepO Γ o r) fun r'=>runOps Γ os r':=rfl
section
variable (Γ : Sig) (d : VDst) (op : VOp) (pe : Nat -> VVal) (te : Nat -> Option VVal) (h : VHeap)
theorem stepO_v (s : Nat) : stepO Γ ⟨.v s,op,none⟩ ⟨pe,te,h⟩ = ob (evalOp Γ (RS.look ⟨pe,te,h⟩) h s op) fun q=>some ⟨updV pe s q.1,te,h.upds q.2⟩:=rfl
theorem stepO_t (s : Nat) : stepO Γ ⟨.t s,op,none⟩ ⟨pe,te,h⟩ = ob (evalOp Γ (RS.look ⟨pe,te,h⟩) h s op) fun q=>some ⟨pe,updT te s q.1,h.upds q.2⟩:=rfl
theorem stepO_n : stepO Γ ⟨.none,op,none⟩ ⟨pe,te,h⟩ = ob (evalOp Γ (RS.look ⟨pe,te,h⟩) h 0 op) fun q=>some ⟨pe,te,h.upds q.2⟩:=rfl
theorem stepO_gv (s : Nat) (g : VArg) (want : Bool) : stepO Γ ⟨.v s,op,some (g,want)⟩ ⟨pe,te,h⟩ = ob (RS.look ⟨pe,te,h⟩ g) fun gv=>match gv with
  | .p (.bool b)=>br (b == want) (ob (evalOp Γ (RS.look ⟨pe,te,h⟩) h s op) fun q=>some ⟨updV pe s q.1,te,h.upds q.2⟩) (some ⟨updV pe s .undef,te,h⟩)
  | .undef=>some ⟨updV pe s .undef,te,h⟩
  | _=>none:=rfl
theorem stepO_gt (s : Nat) (g : VArg) (want : Bool) : stepO Γ ⟨.t s,op,some (g,want)⟩ ⟨pe,te,h⟩ = ob (RS.look ⟨pe,te,h⟩ g) fun gv=>match gv with
  | .p (.bool b)=>br (b == want) (ob (evalOp Γ (RS.look ⟨pe,te,h⟩) h s op) fun q=>some ⟨pe,updT te s q.1,h.upds q.2⟩) (some ⟨pe,updT te s .undef,h⟩)
  | .undef=>some ⟨pe,updT te s .undef,h⟩
  | _=>none:=rfl
theorem look_v (s : Nat) : RS.look ⟨pe,te,h⟩ (.v s) = some (pe s):=rfl
theorem look_t (s : Nat) : RS.look ⟨pe,te,h⟩ (.t s) = te s:=rfl
theorem look_c (d : PV) : RS.look ⟨pe,te,h⟩ (.c d) = some (thaw d):=rfl
theorem updV_at (s t : Nat) (v : VVal) : updV pe s v t = if t = s then v else pe t:=rfl
theorem updT_at (s t : Nat) (v : VVal) : updT te s v t = if t = s then some v else te t:=rfl
theorem upds_nil : h.upds [] = h:=rfl
theorem upds_cons (id : Id) (o : Nat × Ob) (us : List (Id × Nat × Ob)) : h.upds ((id,o) :: us) = (h.upd id o).upds us:=rfl
theorem upd_at (id i : Id) (o : Nat × Ob) : h.upd id o i = if i = id then some o else h i:=rfl
end
theorem wrap64 {n : Int} (h1 : -9223372036854775808 <= n) (h2 : n <= 9223372036854775807) : IntKind.i64.wrap n = n:=by
 simp [IntKind.wrap,IntKind.bits,IntKind.signed]
 omega
section
variable (Γ : Sig) (look : VArg -> Option VVal) (h : VHeap) (d : Nat)
theorem evalOp_move (x : VArg) : evalOp Γ look h d (.move x) = ob (look x) fun v=>some (v,[]):=rfl
theorem evalOp_newArr (sz : Nat) : evalOp Γ look h d (.newArr sz) = some (.own (.slot d 0) (nv (h (.slot d 0))) 0 0,[(.slot d 0,nv (h (.slot d 0)),.arr sz [])]):=rfl
theorem evalOp_pick (c : VArg) (a : VArg) (b : VArg) : evalOp Γ look h d (.pick c a b) = ob (look c) fun v=>match v with
  | .p (.bool t)=>br t (ob (look a) fun v=>some (v,[])) (ob (look b) fun v=>some (v,[]))
  | _=>none:=rfl
theorem evalOp_alloc (zero : List ZC) : evalOp Γ look h d (.alloc zero) = some (.ptr (.slot d 0) (nv (h.upds (zcells d h 0 zero).2 (.slot d 0))) 0,(zcells d h 0 zero).2 ++ [(.slot d 0,nv (h.upds (zcells d h 0 zero).2 (.slot d 0)),.box (zcells d h 0 zero).1)]):=rfl
theorem evalOp_box (n : Nat) (x : VArg) : evalOp Γ look h d (.box n x) = ob (look x) fun v=>gd ((vcells v).length = n) <| gd ((vcells v).all solid = true) (some (.ptr (.slot d 0) (nv (h (.slot d 0))) 0,[(.slot d 0,nv (h (.slot d 0)),.box (vcells v))])):=rfl
theorem evalOp_build (cells : List BC) : evalOp Γ look h d (.build cells) = ob (bcells look d h 0 cells) fun r=>some (.agg r.1,r.2):=rfl
theorem evalOp_buildSlice (sz : Nat) (parts : List VArg) : evalOp Γ look h d (.buildSlice sz parts) = ob (mapO (fun x=>ob (look x) fun v=>freezeP v) parts) fun xs =>
   gd (xs.all (fun x=>decide (x.cells.length = sz)) = true) (some (.own (.slot d 0) (nv (h (.slot d 0))) 0 parts.length,[(.slot d 0,nv (h (.slot d 0)),.arr sz xs)])):=rfl
theorem evalOp_buildPtrs (parts : List VArg) : evalOp Γ look h d (.buildPtrs parts) = ob (mapO look parts) fun vs=>gd (vs.all isPtr = true) (some (.plist vs,[])):=rfl
theorem evalOp_buildFz (sz : Nat) (parts : List VArg) : evalOp Γ look h d (.buildFz sz parts) = ob (mapO (fun x=>ob (look x) fun v=>freezeP v) parts) fun xs =>
   gd (xs.all (fun x=>decide (x.cells.length = sz)) = true) (some (.p (.slice sz xs),[])):=rfl
theorem evalOp_load (agg : Option Nat) (a : VArg) : evalOp Γ look h d (.load agg a) = ob (look a) fun p=>ob (vload h agg p) fun v=>some (v,[]):=rfl
theorem evalOp_store (n : Nat) (a : VArg) (x : VArg) : evalOp Γ look h d (.store n a x) = ob (look a) fun p=>ob (look x) fun v=>ob (vstore h n p v) fun us=>some (.undef,us):=rfl
theorem evalOp_fieldAddr (off : Nat) (x : VArg) : evalOp Γ look h d (.fieldAddr off x) = ob (look x) fun v=>match v with
  | .ptr id ver o=>some (.ptr id ver (o + off),[])
  | .vptr cs o=>some (.vptr cs (o + off),[])
  | .eptr id ver i o=>some (.eptr id ver i (o + off),[])
  | _=>none:=rfl
theorem evalOp_field (off : Nat) (agg : Option Nat) (x : VArg) : evalOp Γ look h d (.field off agg x) = ob (look x) fun v=>match v with
  | .agg cs=>ob (ofCells agg cs off) fun r=>some (r,[])
  | _=>none:=rfl
theorem evalOp_indexAddr (sz : Nat) (x : VArg) (i : VArg) : evalOp Γ look h d (.indexAddr sz x i) = ob (look x) fun s=>ob (look i) fun n=>match n with
  | .p (.int _ n)=>ob (vindex h sz s n) fun r=>some (r,[])
  | _=>none:=rfl
theorem evalOp_indexStr (x : VArg) (i : VArg) : evalOp Γ look h d (.indexStr x i) = ob (look x) fun s=>ob (look i) fun n=>match s,n with
  | .p (.str s),.p (.int _ n)=>gd (0 <= n) (ob s[n.toNat]? fun b=>some (.p (.int .u8 b.toNat),[]))
  | _,_=>none:=rfl
theorem evalOp_bin (op : BinOp) (x : VArg) (y : VArg) : evalOp Γ look h d (.bin op x y) = ob (look x) fun a=>ob (look y) fun b=>ob (vbin op a b) fun r=>some (r,[]):=rfl
theorem evalOp_eqAgg (neg : Bool) (kts : List KT) (x : VArg) (y : VArg) : evalOp Γ look h d (.eqAgg neg kts x y) = ob (look x) fun a=>ob (look y) fun b=>match a,b with
  | .agg a,.agg b=>ob (mapO unP a) fun xs=>ob (mapO unP b) fun ys=>ob (eqAll kts xs ys) fun r=>some (.p (.bool (if neg then !r else r)),[])
  | _,_=>none:=rfl
theorem evalOp_not (x : VArg) : evalOp Γ look h d (.not x) = ob (look x) fun v=>match v with
  | .p (.bool b)=>some (.p (.bool (!b)),[])
  | _=>none:=rfl
theorem evalOp_neg (x : VArg) : evalOp Γ look h d (.neg x) = ob (look x) fun v=>match v with
  | .p (.int k n)=>some (.p (.int k (k.wrap (0 - n))),[])
  | _=>none:=rfl
theorem evalOp_len (x : VArg) : evalOp Γ look h d (.len x) = ob (look x) fun v=>ob (vlen v) fun n=>some (.p (.int .i64 n),[]):=rfl
theorem evalOp_lenStr (x : VArg) : evalOp Γ look h d (.lenStr x) = ob (look x) fun v=>ob (vlenS v) fun n=>some (.p (.int .i64 n),[]):=rfl
theorem evalOp_eqB (neg : Bool) (x : VArg) (y : VArg) : evalOp Γ look h d (.eqB neg x y) = ob (look x) fun a=>ob (look y) fun b=>match a,b with
  | .p (.bool a),.p (.bool b)=>some (.p (.bool (if neg then !(a == b) else a == b)),[])
  | _,_=>none:=rfl
theorem evalOp_append (sz : Nat) (bytes : Nat) (s : VArg) (x : VArg) : evalOp Γ look h d (.append sz bytes s x) = ob (look s) fun a=>ob (look x) fun b=>vappend h sz bytes a b:=rfl
theorem evalOp_appendNil (sz : Nat) (bytes : Nat) (x : VArg) : evalOp Γ look h d (.appendNil sz bytes x) = ob (look x) fun b=>vappendNil d h sz bytes b:=rfl
theorem evalOp_slice (str : Bool) (sz : Nat) (lo : Option VArg) (hi : Option VArg) (mx : Option VArg) (x : VArg) : evalOp Γ look h d (.slice str sz lo hi mx x) = ob (look x) fun s=>br str (vsliceS look lo hi s) (vslice d h look sz lo hi mx s):=rfl
theorem evalOp_lookup (ok : Bool) (kt : KT) (zero : PV) (m : VArg) (k : VArg) : evalOp Γ look h d (.lookup ok kt zero m k) = ob (look m) fun m=>ob (look k) fun k=>ob (ventries h m) fun es=>gd (es.1 = kt \/ es.2.1 = []) <| ob (mkey kt k) fun k=>some (vlookup ok zero es.2.1 es.2.2 k,[]):=rfl
theorem evalOp_mapUpdate (kt : KT) (m : VArg) (k : VArg) (x : VArg) : evalOp Γ look h d (.mapUpdate kt m k x) = ob (look m) fun m=>ob (look k) fun k=>ob (look x) fun x=>ob (mkey kt k) fun k=>ob (freezeP x) fun x=>match m with
  | .mref id ver=>match h id with
   | some (v,.map kt' ks vs)=>gd (v = ver) <| gd (kt' = kt) (some (.undef,[(id,v,.map kt (mput ks vs k x).1 (mput ks vs k x).2)]))
   | _=>none
  | _=>none:=rfl
theorem evalOp_makeMap (kt : KT) : evalOp Γ look h d (.makeMap kt) = some (.mref (.slot d 0) (nv (h (.slot d 0))),[(.slot d 0,nv (h (.slot d 0)),.map kt [] [])]):=rfl
theorem evalOp_mapLen (x : VArg) : evalOp Γ look h d (.mapLen x) = ob (look x) fun m=>ob (ventries h m) fun es=>some (.p (.int .i64 es.2.1.length),[]):=rfl
theorem evalOp_extract (x : VArg) (i : Nat) : evalOp Γ look h d (.extract x i) = ob (look x) fun v=>match v with
  | .tup vs=>ob vs[i]? fun v=>some (v,[])
  | _=>none:=rfl
theorem evalOp_minmax (isMax : Bool) (xs : List VArg) : evalOp Γ look h d (.minmax isMax xs) = ob (mapO look xs) fun vs=>ob (minmaxI isMax vs) fun r=>some (r,[]):=rfl
theorem evalOp_conv (k : IntKind) (x : VArg) : evalOp Γ look h d (.conv k x) = ob (look x) fun v=>match v with
  | .p (.int _ n)=>some (.p (.int k (k.wrap n)),[])
  | _=>none:=rfl
theorem evalOp_strBytes (x : VArg) : evalOp Γ look h d (.strBytes x) = ob (look x) fun v=>match v with
  | .p (.str s)=>some (.p (.slice 1 (s.data.toList.map fun b=>.int .u8 b.toNat)),[])
  | _=>none:=rfl
theorem evalOp_bytesStr (x : VArg) : evalOp Γ look h d (.bytesStr x) = ob (look x) fun v=>ob (velems h v) fun r=>gd (r.1 = 1) <| ob (mapO unU8 r.2) fun ns=>some (.p (.str (bytesI ns)),[]):=rfl
theorem evalOp_nilCheck (x : VArg) : evalOp Γ look h d (.nilCheck x) = ob (look x) fun v=>match v with
  | .ptr id ver off=>some (.ptr id ver off,[])
  | .vptr cs off=>some (.vptr cs off,[])
  | .eptr id ver i off=>some (.eptr id ver i off,[])
  | .fn f caps=>some (.fn f caps,[])
  | _=>none:=rfl
theorem evalOp_makeFunc (f : FuncId) (caps : List VArg) : evalOp Γ look h d (.makeFunc f caps) = ob (mapO look caps) fun cs=>some (.fn f cs,[]):=rfl
theorem evalOp_call (f : FuncId) (args : List VArg) : evalOp Γ look h d (.call f args) = ob (mapO look args) fun vs=>vcallOp Γ h d f vs:=rfl
theorem evalOp_callv (x : VArg) (args : List VArg) : evalOp Γ look h d (.callv x args) = ob (look x) fun g=>ob (mapO look args) fun vs=>match g with
  | .fn f caps=>vcallOp Γ h d f (vs ++ caps)
  | .p (.fn f)=>vcallOp Γ h d f vs
  | .p (.clo f cs)=>vcallOp Γ h d f (vs ++ cloArgs cs)
  | _=>none:=rfl
theorem evalOp_arrAddr (n sz : Nat) (x i : VArg) : evalOp Γ look h d (.arrAddr n sz x i) = ob (look x) fun v=>ob (look i) fun i=>match i with
  | .p (.int _ k)=>gd (0 <= k) <| gd (k < n) <| match v with
   | .ptr id ver o=>some (.ptr id ver (o + k.toNat * sz),[])
   | .vptr cs o=>some (.vptr cs (o + k.toNat * sz),[])
   | .eptr id ver j o=>some (.eptr id ver j (o + k.toNat * sz),[])
   | _=>none
  | _=>none:=rfl
theorem evalOp_callA (f : FuncId) (args : List VArg) : evalOp Γ look h d (.callA f args) = ob (mapO look args) fun vs=>ob (vcallW Γ h d f vs) fun q=>gd (stillC h (oldU d q.2) = true) (some (q.1,newU d q.2)):=rfl
theorem evalOp_callR (f : FuncId) (args : List VArg) : evalOp Γ look h d (.callR f args) = ob (mapO look args) fun vs=>ob (vcallW Γ h d f vs) fun q=>gd (stillC h q.2 = true) (some (q.1,[])):=rfl
theorem evalOp_callW (f : FuncId) (args : List VArg) : evalOp Γ look h d (.callW f args) = ob (mapO look args) fun vs=>vcallW Γ h d f vs:=rfl
theorem evalOp_callvW (x : VArg) (args : List VArg) : evalOp Γ look h d (.callvW x args) = ob (look x) fun g=>ob (mapO look args) fun vs=>match g with
  | .fn f caps=>vcallW Γ h d f (vs ++ caps)
  | .p (.fn f)=>vcallW Γ h d f vs
  | .p (.clo f cs)=>vcallW Γ h d f (vs ++ cloArgs cs)
  | _=>none:=rfl
theorem evalOp_make (sz bytes : Nat) (zero : PV) (n : VArg) : evalOp Γ look h d (.make sz bytes zero n) = ob (look n) fun v=>match v with
  | .p (.int _ m)=>gd (0 <= m) <| gd ((bytes : Int) * m <= 281474976710656) <| gd (m <= 9223372036854775807) <|
    some (.own (.slot d 0) (nv (h (.slot d 0))) 0 m.toNat,[(.slot d 0,nv (h (.slot d 0)),.arr sz (List.replicate m.toNat zero))])
  | _=>none:=rfl
theorem evalOp_unlit (x : VArg) : evalOp Γ look h d (.unlit x) = ob (look x) fun v=>match v with
  | .p (.lit sz xs)=>some (.p (.slice sz xs),[])
  | _=>none:=rfl
theorem evalOp_buildLit (sz : Nat) (parts : List VArg) : evalOp Γ look h d (.buildLit sz parts) = ob (mapO (fun x=>ob (look x) fun v=>freezeP v) parts) fun xs =>
  gd (xs.all (fun x=>decide (x.cells.length = sz)) = true) (some (.p (.lit sz xs),[])):=rfl
theorem evalOp_appendLit (sz bytes : Nat) (s x : VArg) : evalOp Γ look h d (.appendLit sz bytes s x) = ob (look s) fun a=>ob (look x) fun b=>vappendLit d h sz bytes a b:=rfl
theorem evalOp_range (x : VArg) : evalOp Γ look h d (.range x) = ob (look x) fun v=>match v with
  | .p (.str s)=>some (.ptr (.slot d 0) (nv (h (.slot d 0))) 0,[(.slot d 0,nv (h (.slot d 0)),.iter s 0)])
  | _=>none:=rfl
theorem evalOp_next (x : VArg) : evalOp Γ look h d (.next x) = ob (look x) fun v=>vnext h v:=rfl
theorem evalOp_clear (sz : Nat) (zero : PV) (a : VArg) : evalOp Γ look h d (.clear sz zero a) = ob (look a) fun a=>vclear h sz zero a:=rfl
theorem evalOp_copy (sz : Nat) (a x : VArg) : evalOp Γ look h d (.copy sz a x) = ob (look a) fun a=>ob (look x) fun x=>vcopy h sz a x:=rfl
theorem evalOp_mapEntry (kt : KT) (zero : PV) (m k : VArg) : evalOp Γ look h d (.mapEntry kt zero m k) = ob (look m) fun m=>ob (look k) fun k=>ob (mkey kt k) fun k=>match m with
  | .mref id ver=>match h id with
   | some (v,.map kt' ks vs)=>gd (v = ver) <| gd (kt' = kt) (some (.tup [thaw ((mget ks vs k).getD zero),.p (.int .i64 (kpos ks k))],[(id,v,.map kt (mput ks vs k ((mget ks vs k).getD zero)).1 (mput ks vs k ((mget ks vs k).getD zero)).2)]))
   | _=>none
  | _=>none:=rfl
theorem evalOp_entryStore (m s x : VArg) : evalOp Γ look h d (.entryStore m s x) = ob (look m) fun m=>ob (look s) fun s=>ob (look x) fun x=>ob (freezeP x) fun x=>match m,s with
  | .mref id ver,.p (.int .i64 n)=>match h id with
   | some (v,.map kt ks vs)=>gd (v = ver) <| gd (0 <= n) <| gd (n.toNat < vs.length) (some (.undef,[(id,v,.map kt ks (vs.set n.toNat x))]))
   | _=>none
  | _,_=>none:=rfl
theorem evalOp_buildArr (sz : Nat) (parts : List VArg) : evalOp Γ look h d (.buildArr sz parts) = ob (mapO (fun x=>ob (look x) fun v=>freezeP v) parts) fun xs=>gd (xs.all (fun x=>decide (x.cells.length = sz)) = true) (some (.agg ((xs.flatMap PV.cells).map .p),[])):=rfl
theorem evalOp_indexArr (n sz : Nat) (agg : Option Nat) (x i : VArg) : evalOp Γ look h d (.indexArr n sz agg x i) = ob (look x) fun v=>ob (look i) fun i=>match v,i with
  | .agg cs,.p (.int _ k)=>gd (0 <= k) <| gd (k < n) <| ob (ofCells agg cs (k.toNat * sz)) fun r=>some (r,[])
  | _,_=>none:=rfl
end
attribute [go_sem] evalOp_range evalOp_next vnext evalOp_make evalOp_copy vcopy evalOp_clear vclear exec_fail evalOp_unlit evalOp_buildLit evalOp_appendLit vappendLit
attribute [go_sem] evalOp_arrAddr evalOp_callA newU oldU evalOp_callR stillC_nil stillC_cons evalOp_callW evalOp_callvW vcallW vcallRW inResW inW0 inLW rootsW ptrsW1 ptrsW0 objPtrsW extW1 extW0 extObW backObs inCL inC backW1 backW0 apartRes callRoots
attribute [go_sem] evalOp_mapEntry evalOp_entryStore evalOp_buildArr evalOp_indexArr evalOp_move evalOp_newArr evalOp_pick evalOp_alloc evalOp_box evalOp_build evalOp_buildSlice evalOp_buildPtrs isPtr evalOp_buildFz evalOp_load evalOp_store evalOp_fieldAddr evalOp_field evalOp_indexAddr evalOp_indexStr evalOp_bin evalOp_eqAgg evalOp_not evalOp_neg evalOp_len evalOp_lenStr evalOp_eqB evalOp_append evalOp_appendNil evalOp_slice evalOp_lookup evalOp_mapUpdate evalOp_makeMap evalOp_mapLen evalOp_extract evalOp_minmax evalOp_conv evalOp_strBytes evalOp_bytesStr unU8 evalOp_nilCheck evalOp_makeFunc evalOp_call evalOp_callv
attribute [go_sem] ob_some ob_none gd_true br_true br_false wp_some wp_ob thenE_normal thenE_exit thenE_ret inB_normal inB_ret inB_exit exec_skip exec_region exec_seq exec_cond exec_block exec_loop exec_exit exec_ret exec_scope exec_mv moved mvOb execR_plain runOps_nil runOps_cons stepO_v stepO_t stepO_n stepO_gv stepO_gt look_v look_t look_c updV_at updT_at upds_nil upds_cons upd_at
attribute [go_sem] thaw vload vrow ofCells vcells freezeP unP mapO velems vlen vlenS splice vstore vstoreAt setCells vindex vindexAt zcell zcells bcells vbin ibin isSh ishift sbin eq0 eqAll mm2 mmL minmaxI mkey ventries vlookup vappend vappendNil natOf optNat vslice vcut vcut0 vcut3 vcutM vcutS vsliceS nv PV.cells
attribute [go_sem] callF enterE enterH fetch out0 outCap out1 outO outW0 nodupB capsApart capIds1 capIds0 ownIds0 ownIds1 outs outsT newIds0 argOwns outArg1 outArg outBox outH cloArgs
theorem leave_ret (rets : List VRet) (n : Nat) (s : St) : leave rets n (.ret,s) = ob (mapO (fetch s) rets) fun vs=>ob (outs s.h n vs) fun v=>ob (outH s.h 0 n) fun H'=>some (v,H'):=rfl
theorem leave_normal (rets : List VRet) (n : Nat) (s : St) : leave rets n (.normal,s) = ob (mapO (fetch s) rets) fun vs=>ob (outs s.h n vs) fun v=>ob (outH s.h 0 n) fun H'=>some (v,H'):=rfl
attribute [go_sem] leave_ret leave_normal
attribute [go_sem] oT oV oZ oG oM oN oL oF oK rg cI cF cT oJ oP oA oQ oC oE oS oI oO oB oR oY oX oU gL gF gM
attribute [go_sem] if_true if_false List.getD_cons_zero List.getD_cons_succ List.getD_nil llc lln Id.slot.injEq Id.arg.injEq false_and and_false and_true true_and and_self or_true true_or or_false false_or Nat.add_zero Nat.zero_add List.getElem?_cons_zero List.getElem?_cons_succ List.getElem?_nil llm List.getElem?_map Option.map_some Option.map_none Int.toNat_natCast decide_true decide_false decide_eq_true_eq Bool.not_true bnf beq_self_eq_true List.all_cons List.all_nil bau bta List.drop_zero List.drop_succ_cons List.take_succ_cons List.take_zero List.drop_nil List.take_nil lna lan lca lpc lpn lfc List.flatMap_nil List.contains_nil List.isEmpty_nil List.isEmpty_cons List.filterMap_cons List.filterMap_nil lla llt lrf Nat.zero_le Nat.min_self eq_self gd_pos Int.natCast_nonneg Int.ofNat_lt Int.ofNat_le vcallOp vcallR roots addNew ptrs1 ptrs0 objPtrs ext1 ext0 extBox alive posOf lends lends0 noAlias noAlias1 noAlias0 flatBox flatC PV.flat PV.flat0 backBoxes back1 back0 inRes in1 in0 inL inT width List.any_cons List.any_nil Bool.or_false Bool.false_or Bool.or_true Bool.true_or bft beq_iff_eq
attribute [go_sem] wrap64
theorem wp_count {b : St -> Option (VExit × St)} {Q : VExit × St -> Prop} (n : Nat) (J : Nat -> St -> Prop) {s : St} (h0 : J 0 s)
  (hstep : ∀ i s,i <= n -> J i s -> wp (b s) fun r=>match r.1 with
   | .normal=>i < n /\ J (i + 1) r.2
   | _=>Q r) : wp (iter b s) Q:=by
 have key : ∀ k i s,i + k = n -> J i s -> ∃ m r,iterN b m s = some r /\ Q r:=by
  intro k
  induction k with
  | zero =>
   intro i s hk hJ
   obtain ⟨⟨e,s'⟩,hb,hq⟩:=hstep i s (by omega) hJ
   cases e with
   | normal=>have:=hq.1; omega
   | exit id=>exact ⟨1,(.exit id,s'),by simp [iterN,hb,ob],hq⟩
   | ret=>exact ⟨1,(.ret,s'),by simp [iterN,hb,ob],hq⟩
  | succ k ih =>
   intro i s hk hJ
   obtain ⟨⟨e,s'⟩,hb,hq⟩:=hstep i s (by omega) hJ
   cases e with
   | normal =>
    obtain ⟨m,r,hm,hr⟩:=ih (i + 1) s' (by omega) hq.2
    exact ⟨m + 1,r,by simp [iterN,hb,ob,hm],hr⟩
   | exit id=>exact ⟨1,(.exit id,s'),by simp [iterN,hb,ob],hq⟩
   | ret=>exact ⟨1,(.ret,s'),by simp [iterN,hb,ob],hq⟩
 obtain ⟨m,r,hm,hr⟩:=key n 0 s (by omega) h0
 exact ⟨r,iter_of hm,hr⟩
theorem wp_if {α : Type} {b : Bool} {x y : Option α} {Q : α -> Prop} {u : Tok x} {v : Tok y} {t : Tok Q} (h1 : b = true -> wp x Q) (h2 : b = false -> wp y Q) : wp (br b x y u v) Q t:=wp_br h1 h2
theorem wp_gr {α : Type} {b : Bool} {x y : Option α} {Q : α -> Prop} {u : Tok x} {v : Tok y} {t : Tok Q} (h1 : b = false -> wp x Q) (h2 : b = true -> wp y Q) : wp (br (b == false) x y u v) Q t:=by
 cases b
 .exact h1 rfl
 .exact h2 rfl
theorem wp_gt {α : Type} {b : Bool} {x y : Option α} {Q : α -> Prop} {u : Tok x} {v : Tok y} {t : Tok Q} (h1 : b = true -> wp x Q) (h2 : b = false -> wp y Q) : wp (br (b == true) x y u v) Q t:=by
 cases b
 .exact h2 rfl
 .exact h1 rfl
theorem wp_nt {α : Type} {b : Bool} {x y : Option α} {Q : α -> Prop} {u : Tok x} {v : Tok y} {t : Tok Q} (h1 : b = false -> wp x Q) (h2 : b = true -> wp y Q) : wp (br (!b) x y u v) Q t:=by
 cases b
 .exact h1 rfl
 .exact h2 rfl
theorem eqb_tt : (true == true) = true:=rfl
theorem eqb_tf : (true == false) = false:=rfl
theorem eqb_ft : (false == true) = false:=rfl
theorem eqb_ff : (false == false) = true:=rfl
attribute [go_sem] eqb_tt eqb_tf eqb_ft eqb_ff
section
variable {α : Type} {p : Prop} [Decidable p] {x y : Option α} {Q : α -> Prop} {u : Tok x} {v : Tok y} {t : Tok Q}
theorem wp_if_d (h1 : p -> wp x Q) (h2 : ¬ p -> wp y Q) : wp (br (decide p) x y u v) Q t:=wp_br (fun h=>h1 (of_decide_eq_true h)) (fun h=>h2 (of_decide_eq_false h))
theorem wp_nt_d (h1 : ¬ p -> wp x Q) (h2 : p -> wp y Q) : wp (br (!decide p) x y u v) Q t:=wp_nt (fun h=>h1 (of_decide_eq_false h)) (fun h=>h2 (of_decide_eq_true h))
theorem wp_gr_d (h1 : ¬ p -> wp x Q) (h2 : p -> wp y Q) : wp (br (decide p == false) x y u v) Q t:=wp_gr (fun h=>h1 (of_decide_eq_false h)) (fun h=>h2 (of_decide_eq_true h))
theorem wp_gt_d (h1 : p -> wp x Q) (h2 : ¬ p -> wp y Q) : wp (br (decide p == true) x y u v) Q t:=wp_gt (fun h=>h1 (of_decide_eq_true h)) (fun h=>h2 (of_decide_eq_false h))
theorem wp_grn_d (h1 : p -> wp x Q) (h2 : ¬ p -> wp y Q) : wp (br ((!decide p) == false) x y u v) Q t:=wp_gr (fun h=>h1 (by simpa using h)) (fun h=>h2 (by simpa using h))
theorem wp_gtn_d (h1 : ¬ p -> wp x Q) (h2 : p -> wp y Q) : wp (br ((!decide p) == true) x y u v) Q t:=wp_gt (fun h=>h1 (by simpa using h)) (fun h=>h2 (by simpa using h))
end
theorem int_beq (a b : Int) : (a == b) = decide (a = b):=rfl
theorem int_bne (a b : Int) : (a != b) = !decide (a = b):=rfl
attribute [go_sem] int_beq int_bne
theorem execR_fz (Γ : Sig) (ops : List VOper) (f : Nat) (fz : List Nat) (s : St) : execR Γ ⟨ops,f :: fz,[]⟩ s = ob (runOps Γ ops { pe:=fun t=>fz1 (f :: fz) s.h (s.pe t),te:=fun _=>none,h:=fzOb (f :: fz) s.h }) fun q=>some { pe:=q.pe,h:=q.h }:=by
 simp [execR,freeze]
theorem execR_fp (Γ : Sig) (ops : List VOper) (p : Nat × Nat) (fp : List (Nat × Nat)) (s : St) : execR Γ ⟨ops,[],p :: fp⟩ s = ob (runFp Γ (p :: fp) 0 ops { pe:=s.pe,te:=fun _=>none,h:=s.h } []) fun q=>some { pe:=q.pe,h:=q.h }:=by
 simp [execR,freeze]
theorem execR_both (Γ : Sig) (ops : List VOper) (f : Nat) (fz : List Nat) (p : Nat × Nat) (fp : List (Nat × Nat)) (s : St) : execR Γ ⟨ops,f :: fz,p :: fp⟩ s = ob (runFp Γ (p :: fp) 0 ops { pe:=fun t=>fz1 (f :: fz) s.h (s.pe t),te:=fun _=>none,h:=fzOb (f :: fz) s.h } []) fun q=>some { pe:=q.pe,h:=q.h }:=by
 simp [execR,freeze]
theorem contains_pair (a b c d : Nat) (l : List (Nat × Nat)) : ((a,b) :: l).contains (c,d) = ((decide (c = a) && decide (d = b)) || l.contains (c,d)):=by
 rw [Bool.eq_iff_iff]
 simp
theorem contains_id (a c : Id) (l : List Id) : (a :: l).contains c = (decide (c = a) || l.contains c):=by
 rw [Bool.eq_iff_iff]
 simp
theorem contains_nat (a c : Nat) (l : List Nat) : (a :: l).contains c = (decide (c = a) || l.contains c):=by
 rw [Bool.eq_iff_iff]
 simp
theorem nat_beq (a b : Nat) : (a == b) = decide (a = b):=by rw [Bool.eq_iff_iff]; simp
theorem nat_bne (a b : Nat) : (a != b) = !decide (a = b):=by simp [bne,nat_beq]
theorem ba_get (s : ByteArray) (i : Nat) : s[i]? = s.data.toList[i]?:=by
 by_cases h : i < s.size
 ·rw [getElem?_pos s i h,lgg (by simpa using h)]
  simp [ByteArray.getElem_eq_getElem_data]
 .rw [getElem?_neg s i h,List.getElem?_eq_none (by simpa using h)]
attribute [go_sem] execR_fz execR_fp execR_both contains_pair contains_id contains_nat nat_beq nat_bne fzOb fzId fpL fpR noteFp runFp checkFp apartFp VOp.wrFp headFp touch touchF callArgs VOp.args VOp.writes VOp.isR ids0 ids1 Id.at VDst.slot Option.toList Bool.and_false bfa Bool.or_self bas
theorem fz0_p (fz : List Nat) (h : VHeap) (d : PV) : fz0 fz h (.p d) = .p d:=rfl
theorem fz1_p (fz : List Nat) (h : VHeap) (d : PV) : fz1 fz h (.p d) = .p d:=rfl
theorem fz0_ptr (fz : List Nat) (h : VHeap) (id : Id) (ver off : Nat) : fz0 fz h (.ptr id ver off) = .ptr id ver off:=rfl
theorem fz1_ptr (fz : List Nat) (h : VHeap) (id : Id) (ver off : Nat) : fz1 fz h (.ptr id ver off) = .ptr id ver off:=rfl
theorem fz0_vptr (fz : List Nat) (h : VHeap) (cs : List PV) (off : Nat) : fz0 fz h (.vptr cs off) = .vptr cs off:=rfl
theorem fz0_plist (fz : List Nat) (h : VHeap) (ps : List VVal) : fz0 fz h (.plist ps) = .plist ps:=rfl
theorem fz1_plist (fz : List Nat) (h : VHeap) (ps : List VVal) : fz1 fz h (.plist ps) = .plist ps:=rfl
theorem fz1_pcell (fz : List Nat) (h : VHeap) (p : VVal) : fz1 fz h (.pcell p) = .pcell p:=rfl
attribute [go_sem] fz0_plist fz1_plist fz1_pcell
theorem fz1_vptr (fz : List Nat) (h : VHeap) (cs : List PV) (off : Nat) : fz1 fz h (.vptr cs off) = .vptr cs off:=rfl
theorem fz0_eptr (fz : List Nat) (h : VHeap) (id : Id) (ver i off : Nat) : fz0 fz h (.eptr id ver i off) = .eptr id ver i off:=rfl
theorem fz1_eptr (fz : List Nat) (h : VHeap) (id : Id) (ver i off : Nat) : fz1 fz h (.eptr id ver i off) = .eptr id ver i off:=rfl
theorem fz0_mref (fz : List Nat) (h : VHeap) (id : Id) (ver : Nat) : fz0 fz h (.mref id ver) = .mref id ver:=rfl
theorem fz1_mref (fz : List Nat) (h : VHeap) (id : Id) (ver : Nat) : fz1 fz h (.mref id ver) = .mref id ver:=rfl
theorem fz0_fn (fz : List Nat) (h : VHeap) (f : FuncId) (caps : List VVal) : fz0 fz h (.fn f caps) = .fn f caps:=rfl
theorem fz1_fn (fz : List Nat) (h : VHeap) (f : FuncId) (caps : List VVal) : fz1 fz h (.fn f caps) = .fn f caps:=rfl
theorem fz0_undef (fz : List Nat) (h : VHeap)  : fz0 fz h (.undef) = .undef:=rfl
theorem fz1_undef (fz : List Nat) (h : VHeap)  : fz1 fz h (.undef) = .undef:=rfl
theorem fz0_agg (fz : List Nat) (h : VHeap) (cs : List VVal) : fz0 fz h (.agg cs) = .agg cs:=rfl
theorem fz1_agg (fz : List Nat) (h : VHeap) (cs : List VVal) : fz1 fz h (.agg cs) = .agg (cs.map (fz0 fz h)):=rfl
theorem fz1_tup (fz : List Nat) (h : VHeap) (cs : List VVal) : fz1 fz h (.tup cs) = .tup (cs.map (fz0 fz h)):=rfl
theorem fz0_own (fz : List Nat) (h : VHeap) (id : Id) (ver off len : Nat) : fz0 fz h (.own id ver off len) = if fzId fz id = true then (match velems h (.own id ver off len) with
  | some r=>.p (.slice r.1 r.2)
  | none=>.dead) else .own id ver off len:=rfl
theorem fz1_own (fz : List Nat) (h : VHeap) (id : Id) (ver off len : Nat) : fz1 fz h (.own id ver off len) = if fzId fz id = true then (match velems h (.own id ver off len) with
  | some r=>.p (.slice r.1 r.2)
  | none=>.dead) else .own id ver off len:=rfl
attribute [go_sem] fz0_p fz1_p fz0_ptr fz1_ptr fz0_vptr fz1_vptr fz0_eptr fz1_eptr fz0_mref fz1_mref fz0_fn fz1_fn fz0_undef fz1_undef fz0_agg fz1_agg fz1_tup fz0_own fz1_own
section
variable (a b : Id) (va n : Nat)
theorem mv1_p (d : PV) : mv1 a b va n (.p d) = .p d:=rfl
theorem mv1_ptr (id : Id) (ver off : Nat) : mv1 a b va n (.ptr id ver off) = .ptr id ver off:=rfl
theorem mv1_plist (ps : List VVal) : mv1 a b va n (.plist ps) = .plist ps:=rfl
theorem mv1_pcell (p : VVal) : mv1 a b va n (.pcell p) = .pcell p:=rfl
attribute [go_sem] mv1_plist mv1_pcell
theorem mv1_vptr (cs : List PV) (off : Nat) : mv1 a b va n (.vptr cs off) = .vptr cs off:=rfl
theorem mv1_mref (id : Id) (ver : Nat) : mv1 a b va n (.mref id ver) = .mref id ver:=rfl
theorem mv1_fn (f : FuncId) (caps : List VVal) : mv1 a b va n (.fn f caps) = .fn f caps:=rfl
theorem mv1_undef : mv1 a b va n .undef = .undef:=rfl
theorem mv1_agg (cs : List VVal) : mv1 a b va n (.agg cs) = .agg (cs.map (mv0 a b va n)):=rfl
theorem mv1_tup (cs : List VVal) : mv1 a b va n (.tup cs) = .tup (cs.map (mv0 a b va n)):=rfl
theorem mv1_own (id : Id) (ver off len : Nat) : mv1 a b va n (.own id ver off len) = if id = a /\ ver = va then .own b n off len else .own id ver off len:=rfl
theorem mv1_eptr (id : Id) (ver i off : Nat) : mv1 a b va n (.eptr id ver i off) = if id = a /\ ver = va then .eptr b n i off else .eptr id ver i off:=rfl
theorem mv0_p (d : PV) : mv0 a b va n (.p d) = .p d:=rfl
theorem mv0_ptr (id : Id) (ver off : Nat) : mv0 a b va n (.ptr id ver off) = .ptr id ver off:=rfl
theorem mv0_mref (id : Id) (ver : Nat) : mv0 a b va n (.mref id ver) = .mref id ver:=rfl
theorem mv0_fn (f : FuncId) (caps : List VVal) : mv0 a b va n (.fn f caps) = .fn f caps:=rfl
theorem mv0_own (id : Id) (ver off len : Nat) : mv0 a b va n (.own id ver off len) = if id = a /\ ver = va then .own b n off len else .own id ver off len:=rfl
end
attribute [go_sem] mv1_p mv1_ptr mv1_vptr mv1_mref mv1_fn mv1_undef mv1_agg mv1_tup mv1_own mv1_eptr mv0_p mv0_ptr mv0_mref mv0_fn mv0_own
theorem cl0 {P : Prop} (h : P := by first | with_reducible rfl | (simp -implicitDefEqProofs (disch := omega) only [*, List.map_append, go_sem, ↓reduceIte, Nat.reduceAdd, Nat.reduceSub, Nat.reduceEqDiff, Nat.reduceLeDiff, reduceCtorEq] <;> exact cl1) | exact cl2) : P := h
theorem cl3 {P : Prop} (h : P := by first | rfl | omega | (simp; done) | (simp; omega)) : P := h
def Le (Γ Γ' : Sig) : Prop:=∀ f args H r,Γ f args H = some r -> Γ' f args H = some r
theorem ob_ex {α β : Type} {x : Option α} {f : α -> Option β} {u : Tok f} {b : β} (h : ob x f u = some b) : ∃ a,x = some a /\ f a = some b:=by
 cases x with
 | none=>cases h
 | some a=>exact ⟨a,rfl,h⟩
structure Chain (N : Nat -> Sig) (Γ : Sig) : Prop where
 mono : ∀ n m,n <= m -> Le (N n) (N m)
 lim : ∀ f args H r,Γ f args H = some r -> ∃ n,N n f args H = some r
theorem vcallR_le {Γ Γ' : Sig} (hl : Le Γ Γ') {h : VHeap} {d : Nat} {f : FuncId} {args : List VVal} {R : List Id} {q : VVal × List (Id × Nat × Ob)} (he : vcallR Γ h d f args R = some q) : vcallR Γ' h d f args R = some q:=by
 unfold vcallR at he ⊢
 obtain ⟨a',h1,he⟩:=ob_ex he
 obtain ⟨H,h2,he⟩:=ob_ex he
 obtain ⟨r,h3,he⟩:=ob_ex he
 rw [h1,ob_some,h2,ob_some,hl _ _ _ _ h3,ob_some]
 exact he
theorem vcallR_cont {N : Nat -> Sig} {Γ : Sig} (hc : Chain N Γ) {h : VHeap} {d : Nat} {f : FuncId} {args : List VVal} {R : List Id} {q : VVal × List (Id × Nat × Ob)} (he : vcallR Γ h d f args R = some q) : ∃ n,vcallR (N n) h d f args R = some q:=by
 unfold vcallR at he
 obtain ⟨a',h1,he⟩:=ob_ex he
 obtain ⟨H,h2,he⟩:=ob_ex he
 obtain ⟨r,h3,he⟩:=ob_ex he
 obtain ⟨n,hn⟩:=hc.lim _ _ _ _ h3
 refine ⟨n,?_⟩
 unfold vcallR
 rw [h1,ob_some,h2,ob_some,hn,ob_some]
 exact he
theorem vcallRW_le {Γ Γ' : Sig} (hl : Le Γ Γ') {h : VHeap} {d : Nat} {f : FuncId} {args : List VVal} {R : List Id} {q : VVal × List (Id × Nat × Ob)} (he : vcallRW Γ h d f args R = some q) : vcallRW Γ' h d f args R = some q:=by
 unfold vcallRW at he ⊢
 obtain ⟨a',h1,he⟩:=ob_ex he
 obtain ⟨H,h2,he⟩:=ob_ex he
 obtain ⟨r,h3,he⟩:=ob_ex he
 rw [h1,ob_some,h2,ob_some,hl _ _ _ _ h3,ob_some]
 exact he
theorem vcallRW_cont {N : Nat -> Sig} {Γ : Sig} (hc : Chain N Γ) {h : VHeap} {d : Nat} {f : FuncId} {args : List VVal} {R : List Id} {q : VVal × List (Id × Nat × Ob)} (he : vcallRW Γ h d f args R = some q) : ∃ n,vcallRW (N n) h d f args R = some q:=by
 unfold vcallRW at he
 obtain ⟨a',h1,he⟩:=ob_ex he
 obtain ⟨H,h2,he⟩:=ob_ex he
 obtain ⟨r,h3,he⟩:=ob_ex he
 obtain ⟨n,hn⟩:=hc.lim _ _ _ _ h3
 refine ⟨n,?_⟩
 unfold vcallRW
 rw [h1,ob_some,h2,ob_some,hn,ob_some]
 exact he
def VOp.isCall : VOp -> Bool
 | .call _ _ | .callv _ _ | .callW _ _ | .callvW _ _ | .callR _ _ | .callA _ _=>true
 | _=>false
theorem evalOp_nocall {Γ Γ' : Sig} {look : VArg -> Option VVal} {h : VHeap} {d : Nat} {op : VOp} (ho : op.isCall = false) : evalOp Γ look h d op = evalOp Γ' look h d op:=by
 cases op <;> first | rfl | (simp [VOp.isCall] at ho)
theorem evalOp_le {Γ Γ' : Sig} (hl : Le Γ Γ') {look : VArg -> Option VVal} {h : VHeap} {d : Nat} {op : VOp} {q : VVal × List (Id × Nat × Ob)} (he : evalOp Γ look h d op = some q) : evalOp Γ' look h d op = some q:=by
 by_cases ho : op.isCall = false
 ·rw [<- evalOp_nocall (Γ:=Γ) ho]; exact he
 cases op <;> first | (simp [VOp.isCall] at ho; done) | skip
 ·rw [evalOp_call] at he ⊢
  obtain ⟨vs,h1,he⟩:=ob_ex he
  rw [h1,ob_some]
  exact vcallR_le hl he
 ·rw [evalOp_callv] at he ⊢
  obtain ⟨g,h0,he⟩:=ob_ex he
  obtain ⟨vs,h1,he⟩:=ob_ex he
  rw [h0,ob_some,h1,ob_some]
  split at he
  .exact vcallR_le hl he
  .exact vcallR_le hl he
  .exact vcallR_le hl he
  .cases he
 ·rw [evalOp_callW] at he ⊢
  obtain ⟨vs,h1,he⟩:=ob_ex he
  rw [h1,ob_some]
  exact vcallRW_le hl he
 ·rw [evalOp_callvW] at he ⊢
  obtain ⟨g,h0,he⟩:=ob_ex he
  obtain ⟨vs,h1,he⟩:=ob_ex he
  rw [h0,ob_some,h1,ob_some]
  split at he
  .exact vcallRW_le hl he
  .exact vcallRW_le hl he
  .exact vcallRW_le hl he
  .cases he
 ·rw [evalOp_callR] at he ⊢
  obtain ⟨vs,h1,he⟩:=ob_ex he
  obtain ⟨q1,h2,he⟩:=ob_ex he
  rw [h1,ob_some,vcallW,vcallRW_le hl h2,ob_some]
  exact he
 ·rw [evalOp_callA] at he ⊢
  obtain ⟨vs,h1,he⟩:=ob_ex he
  obtain ⟨q1,h2,he⟩:=ob_ex he
  rw [h1,ob_some,vcallW,vcallRW_le hl h2,ob_some]
  exact he
theorem evalOp_cont {N : Nat -> Sig} {Γ : Sig} (hc : Chain N Γ) {look : VArg -> Option VVal} {h : VHeap} {d : Nat} {op : VOp} {q : VVal × List (Id × Nat × Ob)} (he : evalOp Γ look h d op = some q) : ∃ n,evalOp (N n) look h d op = some q:=by
 by_cases ho : op.isCall = false
 ·exact ⟨0,by rw [<- evalOp_nocall (Γ:=Γ) ho]; exact he⟩
 cases op <;> first | (simp [VOp.isCall] at ho; done) | skip
 ·rw [evalOp_call] at he
  obtain ⟨vs,h1,he⟩:=ob_ex he
  obtain ⟨n,hn⟩:=vcallR_cont hc he
  refine ⟨n,?_⟩
  rw [evalOp_call,h1,ob_some]
  exact hn
 ·rw [evalOp_callv] at he
  obtain ⟨g,h0,he⟩:=ob_ex he
  obtain ⟨vs,h1,he⟩:=ob_ex he
  split at he
  ·obtain ⟨n,hn⟩:=vcallR_cont hc he
   refine ⟨n,?_⟩
   rw [evalOp_callv,h0,ob_some,h1,ob_some]
   exact hn
  ·obtain ⟨n,hn⟩:=vcallR_cont hc he
   refine ⟨n,?_⟩
   rw [evalOp_callv,h0,ob_some,h1,ob_some]
   exact hn
  ·obtain ⟨n,hn⟩:=vcallR_cont hc he
   refine ⟨n,?_⟩
   rw [evalOp_callv,h0,ob_some,h1,ob_some]
   exact hn
  ·cases he
 ·rw [evalOp_callW] at he
  obtain ⟨vs,h1,he⟩:=ob_ex he
  obtain ⟨n,hn⟩:=vcallRW_cont hc he
  refine ⟨n,?_⟩
  rw [evalOp_callW,h1,ob_some]
  exact hn
 ·rw [evalOp_callvW] at he
  obtain ⟨g,h0,he⟩:=ob_ex he
  obtain ⟨vs,h1,he⟩:=ob_ex he
  split at he
  ·obtain ⟨n,hn⟩:=vcallRW_cont hc he
   refine ⟨n,?_⟩
   rw [evalOp_callvW,h0,ob_some,h1,ob_some]
   exact hn
  ·obtain ⟨n,hn⟩:=vcallRW_cont hc he
   refine ⟨n,?_⟩
   rw [evalOp_callvW,h0,ob_some,h1,ob_some]
   exact hn
  ·obtain ⟨n,hn⟩:=vcallRW_cont hc he
   refine ⟨n,?_⟩
   rw [evalOp_callvW,h0,ob_some,h1,ob_some]
   exact hn
  .cases he
 ·rw [evalOp_callR] at he
  obtain ⟨vs,h1,he⟩:=ob_ex he
  obtain ⟨q1,h2,he⟩:=ob_ex he
  obtain ⟨n,hn⟩:=vcallRW_cont hc h2
  refine ⟨n,?_⟩
  rw [evalOp_callR,h1,ob_some,vcallW,hn,ob_some]
  exact he
 ·rw [evalOp_callA] at he
  obtain ⟨vs,h1,he⟩:=ob_ex he
  obtain ⟨q1,h2,he⟩:=ob_ex he
  obtain ⟨n,hn⟩:=vcallRW_cont hc h2
  refine ⟨n,?_⟩
  rw [evalOp_callA,h1,ob_some,vcallW,hn,ob_some]
  exact he
theorem stepO_le {Γ Γ' : Sig} (hl : Le Γ Γ') {o : VOper} {r r' : RS} (h : stepO Γ o r = some r') : stepO Γ' o r = some r':=by
 unfold stepO at h ⊢
 split
 ·rename_i hg
  rw [hg] at h
  obtain ⟨q,hq,h⟩:=ob_ex h
  rw [evalOp_le hl hq,ob_some]
  exact h
 ·rename_i g want hg
  rw [hg] at h
  obtain ⟨gv,hgv,h⟩:=ob_ex h
  rw [hgv,ob_some]
  split at h
  ·unfold br at h ⊢
   split
   ·rename_i hb
    rw [if_pos hb] at h
    obtain ⟨q,hq,h⟩:=ob_ex h
    rw [evalOp_le hl hq,ob_some]
    exact h
   ·rename_i hb
    rw [if_neg hb] at h
    exact h
  .exact h
  .cases h
theorem stepO_cont {N : Nat -> Sig} {Γ : Sig} (hc : Chain N Γ) {o : VOper} {r r' : RS} (h : stepO Γ o r = some r') : ∃ n,stepO (N n) o r = some r':=by
 unfold stepO at h
 split at h
 ·rename_i hg
  obtain ⟨q,hq,h⟩:=ob_ex h
  obtain ⟨n,hn⟩:=evalOp_cont hc hq
  refine ⟨n,?_⟩
  unfold stepO
  rw [hg]
  simp only [hn,ob_some]
  exact h
 ·rename_i g want hg
  obtain ⟨gv,hgv,h⟩:=ob_ex h
  split at h
  ·unfold br at h
   split at h
   ·rename_i hb
    obtain ⟨q,hq,h⟩:=ob_ex h
    obtain ⟨n,hn⟩:=evalOp_cont hc hq
    refine ⟨n,?_⟩
    unfold stepO
    rw [hg]
    simp only [hgv,ob_some]
    rw [hb,br_true,hn,ob_some]
    exact h
   ·rename_i b hb
    refine ⟨0,?_⟩
    unfold stepO
    rw [hg]
    simp only [hgv,ob_some]
    have : (b == want) = false:=by simpa using hb
    rw [this,br_false]
    exact h
  ·refine ⟨0,?_⟩
   unfold stepO
   rw [hg]
   simp only [hgv,ob_some]
   exact h
  .cases h
theorem runOps_le {Γ Γ' : Sig} (hl : Le Γ Γ') : ∀ {os : List VOper} {r r' : RS},runOps Γ os r = some r' -> runOps Γ' os r = some r'
 | [],_,_,h=>h
 | o :: os,r,r',h=>by
  rw [runOps_cons] at h ⊢
  obtain ⟨r1,h1,h⟩:=ob_ex h
  rw [stepO_le hl h1,ob_some]
  exact runOps_le hl h
theorem runOps_cont {N : Nat -> Sig} {Γ : Sig} (hc : Chain N Γ) : ∀ {os : List VOper} {r r' : RS},runOps Γ os r = some r' -> ∃ n,runOps (N n) os r = some r'
 | [],_,_,h=>⟨0,h⟩
 | o :: os,r,r',h=>by
  rw [runOps_cons] at h
  obtain ⟨r1,h1,h⟩:=ob_ex h
  obtain ⟨n,hn⟩:=stepO_cont hc h1
  obtain ⟨m,hm⟩:=runOps_cont hc h
  refine ⟨max n m,?_⟩
  rw [runOps_cons,stepO_le (hc.mono n _ (Nat.le_max_left ..)) hn,ob_some]
  exact runOps_le (hc.mono m _ (Nat.le_max_right ..)) hm
theorem gd_ex {α : Type} {c : Prop} [Decidable c] {x : Option α} {u : Tok x} {b : α} (h : gd c x u = some b) : c /\ x = some b:=by
 unfold gd at h
 split at h
 .exact ⟨by assumption,h⟩
 .cases h
theorem runFp_le {Γ Γ' : Sig} (hl : Le Γ Γ') {fp : List (Nat × Nat)} : ∀ {os : List VOper} {i : Nat} {r r' : RS} {acc : List (Nat × VOper × List Id)},runFp Γ fp i os r acc = some r' -> runFp Γ' fp i os r acc = some r'
 | [],_,_,_,_,h=>h
 | o :: os,i,r,r',acc,h=>by
  simp only [runFp] at h ⊢
  split
  ·rename_i hf
   rw [if_pos hf] at h
   obtain ⟨hch,h⟩:=gd_ex h
   obtain ⟨r1,h1,h⟩:=ob_ex h
   rw [gd_pos _ _ hch,stepO_le hl h1,ob_some]
   exact runFp_le hl h
  ·rename_i hf
   rw [if_neg hf] at h
   obtain ⟨r1,h1,h⟩:=ob_ex h
   rw [stepO_le hl h1,ob_some]
   exact runFp_le hl h
theorem runFp_cont {N : Nat -> Sig} {Γ : Sig} (hc : Chain N Γ) {fp : List (Nat × Nat)} : ∀ {os : List VOper} {i : Nat} {r r' : RS} {acc : List (Nat × VOper × List Id)},runFp Γ fp i os r acc = some r' -> ∃ n,runFp (N n) fp i os r acc = some r'
 | [],_,_,_,_,h=>⟨0,h⟩
 | o :: os,i,r,r',acc,h=>by
  simp only [runFp] at h
  split at h
  ·rename_i hf
   obtain ⟨hch,h⟩:=gd_ex h
   obtain ⟨r1,h1,h⟩:=ob_ex h
   obtain ⟨n,hn⟩:=stepO_cont hc h1
   obtain ⟨m,hm⟩:=runFp_cont hc h
   refine ⟨max n m,?_⟩
   simp only [runFp]
   rw [if_pos hf,gd_pos _ _ hch,stepO_le (hc.mono n _ (Nat.le_max_left ..)) hn,ob_some]
   exact runFp_le (hc.mono m _ (Nat.le_max_right ..)) hm
  ·rename_i hf
   obtain ⟨r1,h1,h⟩:=ob_ex h
   obtain ⟨n,hn⟩:=stepO_cont hc h1
   obtain ⟨m,hm⟩:=runFp_cont hc h
   refine ⟨max n m,?_⟩
   simp only [runFp]
   rw [if_neg hf,stepO_le (hc.mono n _ (Nat.le_max_left ..)) hn,ob_some]
   exact runFp_le (hc.mono m _ (Nat.le_max_right ..)) hm
theorem execR_le {Γ Γ' : Sig} (hl : Le Γ Γ') {vr : VRegion} {s s' : St} (h : execR Γ vr s = some s') : execR Γ' vr s = some s':=by
 unfold execR at h ⊢
 obtain ⟨q,hq,h⟩:=ob_ex h
 split at hq
 ·rename_i hf
  rw [if_pos hf,runOps_le hl hq,ob_some]
  exact h
 ·rename_i hf
  rw [if_neg hf,runFp_le hl hq,ob_some]
  exact h
theorem execR_cont {N : Nat -> Sig} {Γ : Sig} (hc : Chain N Γ) {vr : VRegion} {s s' : St} (h : execR Γ vr s = some s') : ∃ n,execR (N n) vr s = some s':=by
 unfold execR at h
 obtain ⟨q,hq,h⟩:=ob_ex h
 split at hq
 ·rename_i hf
  obtain ⟨n,hn⟩:=runOps_cont hc hq
  refine ⟨n,?_⟩
  unfold execR
  rw [if_pos hf,hn,ob_some]
  exact h
 ·rename_i hf
  obtain ⟨n,hn⟩:=runFp_cont hc hq
  refine ⟨n,?_⟩
  unfold execR
  rw [if_neg hf,hn,ob_some]
  exact h
theorem iter_ex {b : St -> Option (VExit × St)} {s : St} {r : VExit × St} (h : iter b s = some r) : ∃ n,iterN b n s = some r:=by
 unfold iter at h
 split at h
 ·rename_i hex
  have:=Classical.choose_spec (Classical.choose_spec hex)
  simp only [osi] at h
  rw [h] at this
  exact ⟨_,this⟩
 .cases h
theorem iterN_le {b b' : St -> Option (VExit × St)} (hb : ∀ s r,b s = some r -> b' s = some r) : ∀ {k : Nat} {s : St} {r : VExit × St},iterN b k s = some r -> iterN b' k s = some r
 | 0,_,_,h=>h
 | k + 1,s,r,h=>by
  simp only [iterN] at h ⊢
  obtain ⟨r1,h1,h⟩:=ob_ex h
  rw [hb _ _ h1,ob_some]
  obtain ⟨e1,s1⟩:=r1
  cases e1 with
  | normal=>exact iterN_le hb h
  | exit id=>exact h
  | ret=>exact h
theorem exec_le {Γ Γ' : Sig} (hl : Le Γ Γ') : ∀ (c : VCode) (s : St) (r : VExit × St),exec Γ c s = some r -> exec Γ' c s = some r
 | .skip,s,r,h=>by rw [exec_skip] at h ⊢; exact h
 | .region vr,s,r,h=>by
  rw [exec_region] at h ⊢
  obtain ⟨s1,h1,h⟩:=ob_ex h
  rw [execR_le hl h1,ob_some]
  exact h
 | .seq x y,s,r,h=>by
  rw [exec_seq] at h ⊢
  obtain ⟨⟨e1,s1⟩,h1,h⟩:=ob_ex h
  rw [exec_le hl x _ _ h1,ob_some]
  cases e1 with
  | normal=>rw [thenE_normal] at h ⊢; exact exec_le hl y _ _ h
  | exit id=>exact h
  | ret=>exact h
 | .cond t x y,s,r,h=>by
  cases t with
  | v t =>
   rw [exec_cond] at h ⊢
   split at h
   ·rename_i b hb
    cases b with
    | true=>rw [br_true] at h ⊢; exact exec_le hl x _ _ h
    | false=>rw [br_false] at h ⊢; exact exec_le hl y _ _ h
   .cases h
  | t t=>simp [exec] at h
  | c d=>simp [exec] at h
 | .block id x,s,r,h=>by
  rw [exec_block] at h ⊢
  obtain ⟨r1,h1,h⟩:=ob_ex h
  rw [exec_le hl x _ _ h1,ob_some]
  exact h
 | .loop x,s,r,h=>by
  rw [exec_loop] at h ⊢
  obtain ⟨k,hk⟩:=iter_ex h
  exact iter_of (iterN_le (fun s r=>exec_le hl x s r) hk)
 | .exit id,s,r,h=>by rw [exec_exit] at h ⊢; exact h
 | .ret,s,r,h=>by rw [exec_ret] at h ⊢; exact h
 | .mv a b x,s,r,h=>by rw [exec_mv] at h ⊢; exact exec_le hl x _ _ h
 | .scope x,s,r,h=>by rw [exec_scope] at h ⊢; exact exec_le hl x _ _ h
 | .fail,s,r,h=>by rw [exec_fail] at h; cases h
theorem exec_cont {N : Nat -> Sig} {Γ : Sig} (hc : Chain N Γ) : ∀ (c : VCode) (s : St) (r : VExit × St),exec Γ c s = some r -> ∃ n,exec (N n) c s = some r
 | .skip,s,r,h=>⟨0,by rw [exec_skip] at h ⊢; exact h⟩
 | .region vr,s,r,h=>by
  rw [exec_region] at h
  obtain ⟨s1,h1,h⟩:=ob_ex h
  obtain ⟨n,hn⟩:=execR_cont hc h1
  refine ⟨n,?_⟩
  rw [exec_region,hn,ob_some]
  exact h
 | .seq x y,s,r,h=>by
  rw [exec_seq] at h
  obtain ⟨⟨e1,s1⟩,h1,h⟩:=ob_ex h
  obtain ⟨n,hn⟩:=exec_cont hc x _ _ h1
  cases e1 with
  | normal =>
   rw [thenE_normal] at h
   obtain ⟨m,hm⟩:=exec_cont hc y _ _ h
   refine ⟨max n m,?_⟩
   rw [exec_seq,exec_le (hc.mono n _ (Nat.le_max_left ..)) x _ _ hn,ob_some,thenE_normal]
   exact exec_le (hc.mono m _ (Nat.le_max_right ..)) y _ _ hm
  | exit id=>exact ⟨n,by rw [exec_seq,hn,ob_some]; exact h⟩
  | ret=>exact ⟨n,by rw [exec_seq,hn,ob_some]; exact h⟩
 | .cond t x y,s,r,h=>by
  cases t with
  | v t =>
   rw [exec_cond] at h
   split at h
   ·rename_i b hb
    cases b with
    | true =>
     rw [br_true] at h
     obtain ⟨n,hn⟩:=exec_cont hc x _ _ h
     exact ⟨n,by rw [exec_cond,hb]; simp only [br_true]; exact hn⟩
    | false =>
     rw [br_false] at h
     obtain ⟨n,hn⟩:=exec_cont hc y _ _ h
     exact ⟨n,by rw [exec_cond,hb]; simp only [br_false]; exact hn⟩
   ·cases h
  | t t=>simp [exec] at h
  | c d=>simp [exec] at h
 | .block id x,s,r,h=>by
  rw [exec_block] at h
  obtain ⟨r1,h1,h⟩:=ob_ex h
  obtain ⟨n,hn⟩:=exec_cont hc x _ _ h1
  exact ⟨n,by rw [exec_block,hn,ob_some]; exact h⟩
 | .loop x,s,r,h=>by
  rw [exec_loop] at h
  obtain ⟨k,hk⟩:=iter_ex h
  have key : ∀ (k : Nat) (s : St),iterN (exec Γ x) k s = some r -> ∃ n,iterN (exec (N n) x) k s = some r:=by
   intro k
   induction k with
   | zero=>intro s h; simp [iterN] at h
   | succ k ih =>
    intro s h
    simp only [iterN] at h
    obtain ⟨⟨e1,s1⟩,h1,h⟩:=ob_ex h
    obtain ⟨n,hn⟩:=exec_cont hc x _ _ h1
    cases e1 with
    | normal =>
     obtain ⟨m,hm⟩:=ih s1 h
     refine ⟨max n m,?_⟩
     simp only [iterN]
     rw [exec_le (hc.mono n _ (Nat.le_max_left ..)) x _ _ hn,ob_some]
     exact iterN_le (fun s r=>exec_le (hc.mono m _ (Nat.le_max_right ..)) x s r) hm
    | exit id=>exact ⟨n,by simp only [iterN]; rw [hn,ob_some]; exact h⟩
    | ret=>exact ⟨n,by simp only [iterN]; rw [hn,ob_some]; exact h⟩
  obtain ⟨n,hn⟩:=key k s hk
  exact ⟨n,by rw [exec_loop]; exact iter_of hn⟩
 | .exit id,s,r,h=>⟨0,by rw [exec_exit] at h ⊢; exact h⟩
 | .ret,s,r,h=>⟨0,by rw [exec_ret] at h ⊢; exact h⟩
 | .mv a b x,s,r,h=>by
  rw [exec_mv] at h
  obtain ⟨n,hn⟩:=exec_cont hc x _ _ h
  exact ⟨n,by rw [exec_mv]; exact hn⟩
 | .scope x,s,r,h=>by
  rw [exec_scope] at h
  obtain ⟨n,hn⟩:=exec_cont hc x _ _ h
  exact ⟨n,by rw [exec_scope]; exact hn⟩
 | .fail,s,r,h=>by rw [exec_fail] at h; cases h
theorem callF_le {Γ Γ' : Sig} (hl : Le Γ Γ') {vf : VFunc} {args : List VVal} {H : List Ob} {r : VVal × List Ob} (h : callF Γ vf args H = some r) : callF Γ' vf args H = some r:=by
 unfold callF at h ⊢
 obtain ⟨hn,h⟩:=gd_ex h
 obtain ⟨r1,h1,h⟩:=ob_ex h
 rw [gd_pos _ _ hn,exec_le hl _ _ _ h1,ob_some]
 exact h
theorem callF_cont {N : Nat -> Sig} {Γ : Sig} (hc : Chain N Γ) {vf : VFunc} {args : List VVal} {H : List Ob} {r : VVal × List Ob} (h : callF Γ vf args H = some r) : ∃ n,callF (N n) vf args H = some r:=by
 unfold callF at h
 obtain ⟨hn,h⟩:=gd_ex h
 obtain ⟨r1,h1,h⟩:=ob_ex h
 obtain ⟨n,h2⟩:=exec_cont hc _ _ _ h1
 refine ⟨n,?_⟩
 unfold callF
 rw [gd_pos _ _ hn,h2,ob_some]
 exact h
section
variable {prog : FuncId -> Option VFunc} {X : Sig}
theorem callN_le : ∀ n,Le (callN prog X n) (callN prog X (n + 1))
 | 0=>fun f args H r h=>by
  simp only [callN] at h ⊢
  rw [h]
 | n + 1=>fun f args H r h=>by
  have h' : (match X f args H with
   | some r=>some r
   | none=>match prog f with
    | some vf=>callF (callN prog X n) vf args H
    | none=>none) = some r:=h
  show (match X f args H with
   | some r=>some r
   | none=>match prog f with
    | some vf=>callF (callN prog X (n + 1)) vf args H
    | none=>none) = some r
  cases hx : X f args H with
  | some r' =>
   rw [hx] at h'
   exact h'
  | none =>
   rw [hx] at h'
   cases hp : prog f with
   | none=>rw [hp] at h'; cases h'
   | some vf =>
    rw [hp] at h'
    exact callF_le (callN_le n) h'
theorem callN_mono (n m : Nat) (h : n <= m) : Le (callN prog X n) (callN prog X m):=by
 induction m with
 | zero =>
  have : n = 0:=by omega
  subst this
  exact fun _ _ _ _ h=>h
 | succ m ih =>
  rcases Nat.lt_or_ge m n with h1 | h1
  ·have : n = m + 1:=by omega
   subst this
   exact fun _ _ _ _ h=>h
  .exact fun f args H r hr=>callN_le m f args H r (ih h1 f args H r hr)
theorem vcall_of {n : Nat} {f : FuncId} {args : List VVal} {H : List Ob} {r : VVal × List Ob} (h : callN prog X n f args H = some r) : vcall prog X f args H = some r:=by
 unfold vcall
 have hex : ∃ n r,callN prog X n f args H = some r:=⟨n,r,h⟩
 rw [dif_pos hex]
 have h1:=Classical.choose_spec (Classical.choose_spec hex)
 have h2:=callN_mono _ (max n (Classical.choose hex)) (Nat.le_max_right ..) _ _ _ _ h1
 have h3:=callN_mono _ (max n (Classical.choose hex)) (Nat.le_max_left ..) _ _ _ _ h
 rw [h3] at h2
 exact h2.symm
theorem vcall_chain : Chain (callN prog X) (vcall prog X) where
 mono:=callN_mono
 lim:=fun f args H r h=>by
  unfold vcall at h
  split at h
  ·rename_i hex
   have:=Classical.choose_spec (Classical.choose_spec hex)
   simp only [osi] at h
   rw [h] at this
   exact ⟨_,this⟩
  .cases h
theorem vcall_fix {f : FuncId} {vf : VFunc} (hx : ∀ args H,X f args H = none) (hf : prog f = some vf) {args : List VVal} {H : List Ob} {r : VVal × List Ob} (h : callF (vcall prog X) vf args H = some r) : vcall prog X f args H = some r:=by
 obtain ⟨n,hn⟩:=callF_cont vcall_chain h
 refine vcall_of (n:=n + 1) ?_
 simp only [callN,hx,hf]
 exact hn
end
def unI : PV -> Option Int
 | .int .i64 n=>some n
 | _=>none
theorem unI_eq {x : PV} {n : Int} (h : unI x = some n) : x = .int .i64 n:=by
 unfold unI at h
 split at h
 .simp at h; rw [h]
 .cases h
noncomputable def XI (args : List VVal) (H : List Ob) : Option (VVal × List Ob):=match args,H with
 | [.own (.arg 0 0) 0 0 n],[.arr 1 xs]=>gd (n = xs.length) <| gd (n < 4611686018427387904) <| ob (mapO unI xs) fun zs=>some (.tup [],[.arr 1 ((zs.mergeSort fun x y=>decide (x <= y)).map (.int .i64))])
 | _,_=>none
def XClone (sz bytes : Nat) (args : List VVal) (H : List Ob) : Option (VVal × List Ob):=match args,H with
 | [.p (.slice k xs)],[]=>gd (k = sz) <| gd (xs.length * bytes <= 140737488355328) <| gd (xs.length <= 9223372036854775807) <| some (.fresh sz xs,[])
 | _,_=>none
def XDel (sz : Nat) (args : List VVal) (H : List Ob) : Option (VVal × List Ob):=match args,H with
 | [.own (.arg 0 0) 0 0 n,.p (.int .i64 i),.p (.int .i64 j)],[.arr k xs]=>gd (k = sz) <| gd (n = xs.length) <| gd (n <= 9223372036854775807) <| gd (0 <= i) <| gd (i <= j) <| gd (j <= (n : Int)) <|
   some (.own (.arg 0 0) 1 0 (n - (j.toNat - i.toNat)),[.box [.undef,.fresh sz (xs.take i.toNat ++ xs.drop j.toNat)]])
 | _,_=>none
def XIns (sz bytes : Nat) (args : List VVal) (H : List Ob) : Option (VVal × List Ob):=match args,H with
 | [.own (.arg 0 0) 0 0 n,.p (.int .i64 i),.own (.arg 1 0) 0 0 1],[.arr k xs,.arr k' [x]]=>gd (k = sz) <| gd (k' = sz) <| gd (n = xs.length) <| gd ((n + 1) * bytes <= 140737488355328) <| gd (0 <= i) <| gd (i <= (n : Int)) <|
   some (.own (.arg 0 0) 1 0 (n + 1),[.box [.undef,.fresh sz (xs.take i.toNat ++ x :: xs.drop i.toNat)],.arr sz [x]])
 | _,_=>none
def XOne (sz : Nat) (args : List VVal) (H : List Ob) : Option (VVal × List Ob):=match args,H with
 | [.own (.arg 0 0) 0 0 1,.p (.fn _)],[.arr k [x]]=>gd (k = sz) (some (.tup [],[.arr sz [x]]))
 | _,_=>none
noncomputable def XS : Sig:=fun f args H=>if f = 120 then XI args H else if f = 103 then XClone 2 16 args H else if f = 104 then XClone 21 168 args H else if f = 105 then XClone 3 24 args H else if f = 106 then XClone 2 16 args H else if f = 107 then XClone 6 48 args H else if f = 108 then XClone 7 56 args H else if f = 128 then XDel 6 args H else if f = 116 then XDel 7 args H else if f = 129 then XIns 7 56 args H else if f = 160 then XDel 21 args H else if f = 157 then XOne 2 args H else if f = 162 then XOne 21 args H else if f = 166 then XOne 3 args H else none
noncomputable abbrev V : Sig:=vcall prog XS
set_option maxHeartbeats 20000000 in
theorem XS_none {f : FuncId} {vf : VFunc} (hf : prog f = some vf) (args : List VVal) (H : List Ob) : XS f args H = none:=by
 unfold XS
 have h0 : ¬ f = 120:=fun e=>by
  subst e
  exact absurd hf (by simp [prog])
 have h1 : ¬ f = 103:=fun e=>by
  subst e
  exact absurd hf (by simp [prog])
 have h2 : ¬ f = 104:=fun e=>by
  subst e
  exact absurd hf (by simp [prog])
 have h3 : ¬ f = 105:=fun e=>by
  subst e
  exact absurd hf (by simp [prog])
 have h4 : ¬ f = 106:=fun e=>by
  subst e
  exact absurd hf (by simp [prog])
 have h5 : ¬ f = 107:=fun e=>by
  subst e
  exact absurd hf (by simp [prog])
 have h6 : ¬ f = 108:=fun e=>by
  subst e
  exact absurd hf (by simp [prog])
 have h7 : ¬ f = 128:=fun e=>by
  subst e
  exact absurd hf (by simp [prog])
 have h8 : ¬ f = 116:=fun e=>by
  subst e
  exact absurd hf (by simp [prog])
 have h9 : ¬ f = 129:=fun e=>by
  subst e
  exact absurd hf (by simp [prog])
 have h10 : ¬ f = 160:=fun e=>by
  subst e
  exact absurd hf (by simp [prog])
 have h11 : ¬ f = 157:=fun e=>by
  subst e
  exact absurd hf (by simp [prog])
 have h12 : ¬ f = 162:=fun e=>by
  subst e
  exact absurd hf (by simp [prog])
 have h13 : ¬ f = 166:=fun e=>by
  subst e
  exact absurd hf (by simp [prog])
 rw [if_neg h0,if_neg h1,if_neg h2,if_neg h3,if_neg h4,if_neg h5,if_neg h6,if_neg h7,if_neg h8,if_neg h9,if_neg h10,if_neg h11,if_neg h12,if_neg h13]
theorem V_fix {f : FuncId} {vf : VFunc} (hf : prog f = some vf) {args : List VVal} {H : List Ob} {r : VVal × List Ob} (h : callF V vf args H = some r) : V f args H = some r:=vcall_fix (XS_none hf) hf h
theorem V_wp {f : FuncId} {vf : VFunc} (hf : prog f = some vf) {args : List VVal} {H : List Ob} {r : VVal × List Ob} (h : wp (callF V vf args H) (· = r)) : V f args H = some r:=V_fix hf (eq_of_wp h)
theorem V_x {f : FuncId} {args : List VVal} {H : List Ob} {r : VVal × List Ob} (h : XS f args H = some r) : V f args H = some r:=vcall_of (n:=0) h
theorem cloneW_x {xs : List PV} (hn : xs.length < 1000000) : V 103 [.p (.slice 2 xs)] [] = some (.fresh 2 xs,[]):=V_x (by
 have e0 : (103 : Nat) ≠ 120:=by decide
 simp only [XS,if_neg e0,if_true,XClone,gd,true_and]
 rw [if_pos (by omega),if_pos (by omega)])
theorem cloneC_x {xs : List PV} (hn : xs.length < 1000000) : V 104 [.p (.slice 21 xs)] [] = some (.fresh 21 xs,[]):=V_x (by
 have e0 : (104 : Nat) ≠ 120:=by decide
 have e1 : (104 : Nat) ≠ 103:=by decide
 simp only [XS,if_neg e0,if_neg e1,if_true,XClone,gd,true_and]
 rw [if_pos (by omega),if_pos (by omega)])
theorem cloneD_x {xs : List PV} (hn : xs.length < 1000000) : V 105 [.p (.slice 3 xs)] [] = some (.fresh 3 xs,[]):=V_x (by
 have e0 : (105 : Nat) ≠ 120:=by decide
 have e1 : (105 : Nat) ≠ 103:=by decide
 have e2 : (105 : Nat) ≠ 104:=by decide
 simp only [XS,if_neg e0,if_neg e1,if_neg e2,if_true,XClone,gd,true_and]
 rw [if_pos (by omega),if_pos (by omega)])
theorem cloneA_x {xs : List PV} (hn : xs.length < 1000000) : V 106 [.p (.slice 2 xs)] [] = some (.fresh 2 xs,[]):=V_x (by
 have e0 : (106 : Nat) ≠ 120:=by decide
 have e1 : (106 : Nat) ≠ 103:=by decide
 have e2 : (106 : Nat) ≠ 104:=by decide
 have e3 : (106 : Nat) ≠ 105:=by decide
 simp only [XS,if_neg e0,if_neg e1,if_neg e2,if_neg e3,if_true,XClone,gd,true_and]
 rw [if_pos (by omega),if_pos (by omega)])
theorem cloneQ_x {xs : List PV} (hn : xs.length < 1000000) : V 107 [.p (.slice 6 xs)] [] = some (.fresh 6 xs,[]):=V_x (by
 have e0 : (107 : Nat) ≠ 120:=by decide
 have e1 : (107 : Nat) ≠ 103:=by decide
 have e2 : (107 : Nat) ≠ 104:=by decide
 have e3 : (107 : Nat) ≠ 105:=by decide
 have e4 : (107 : Nat) ≠ 106:=by decide
 simp only [XS,if_neg e0,if_neg e1,if_neg e2,if_neg e3,if_neg e4,if_true,XClone,gd,true_and]
 rw [if_pos (by omega),if_pos (by omega)])
theorem cloneF_x {xs : List PV} (hn : xs.length < 1000000) : V 108 [.p (.slice 7 xs)] [] = some (.fresh 7 xs,[]):=V_x (by
 have e0 : (108 : Nat) ≠ 120:=by decide
 have e1 : (108 : Nat) ≠ 103:=by decide
 have e2 : (108 : Nat) ≠ 104:=by decide
 have e3 : (108 : Nat) ≠ 105:=by decide
 have e4 : (108 : Nat) ≠ 106:=by decide
 have e5 : (108 : Nat) ≠ 107:=by decide
 simp only [XS,if_neg e0,if_neg e1,if_neg e2,if_neg e3,if_neg e4,if_neg e5,if_true,XClone,gd,true_and]
 rw [if_pos (by omega),if_pos (by omega)])
theorem delQ_x {xs : List PV} {i j : Int} (hn : xs.length < 1000000) (h0 : 0 <= i) (h1 : i <= j) (h2 : j <= xs.length) : V 128 [.own (.arg 0 0) 0 0 xs.length,.p (.int .i64 i),.p (.int .i64 j)] [.arr 6 xs] = some (.own (.arg 0 0) 1 0 (xs.length - (j.toNat - i.toNat)),[.box [.undef,.fresh 6 (xs.take i.toNat ++ xs.drop j.toNat)]]):=V_x (by
 have e0 : (128 : Nat) ≠ 120:=by decide
 have e1 : (128 : Nat) ≠ 103:=by decide
 have e2 : (128 : Nat) ≠ 104:=by decide
 have e3 : (128 : Nat) ≠ 105:=by decide
 have e4 : (128 : Nat) ≠ 106:=by decide
 have e5 : (128 : Nat) ≠ 107:=by decide
 have e6 : (128 : Nat) ≠ 108:=by decide
 simp only [XS,if_neg e0,if_neg e1,if_neg e2,if_neg e3,if_neg e4,if_neg e5,if_neg e6,if_true,XDel,gd,true_and]
 rw [if_pos (by omega),if_pos h0,if_pos h1,if_pos h2])
theorem delF_x {xs : List PV} {i j : Int} (hn : xs.length < 1000000) (h0 : 0 <= i) (h1 : i <= j) (h2 : j <= xs.length) : V 116 [.own (.arg 0 0) 0 0 xs.length,.p (.int .i64 i),.p (.int .i64 j)] [.arr 7 xs] = some (.own (.arg 0 0) 1 0 (xs.length - (j.toNat - i.toNat)),[.box [.undef,.fresh 7 (xs.take i.toNat ++ xs.drop j.toNat)]]):=V_x (by
 have e0 : (116 : Nat) ≠ 120:=by decide
 have e1 : (116 : Nat) ≠ 103:=by decide
 have e2 : (116 : Nat) ≠ 104:=by decide
 have e3 : (116 : Nat) ≠ 105:=by decide
 have e4 : (116 : Nat) ≠ 106:=by decide
 have e5 : (116 : Nat) ≠ 107:=by decide
 have e6 : (116 : Nat) ≠ 108:=by decide
 have e7 : (116 : Nat) ≠ 128:=by decide
 simp only [XS,if_neg e0,if_neg e1,if_neg e2,if_neg e3,if_neg e4,if_neg e5,if_neg e6,if_neg e7,if_true,XDel,gd,true_and]
 rw [if_pos (by omega),if_pos h0,if_pos h1,if_pos h2])
theorem oneW_x {x : PV} {g : Nat} : V 157 [.own (.arg 0 0) 0 0 1,.p (.fn g)] [.arr 2 [x]] = some (.tup [],[.arr 2 [x]]):=V_x (by
 have e0 : (157 : Nat) ≠ 120:=by decide
 have e1 : (157 : Nat) ≠ 103:=by decide
 have e2 : (157 : Nat) ≠ 104:=by decide
 have e3 : (157 : Nat) ≠ 105:=by decide
 have e4 : (157 : Nat) ≠ 106:=by decide
 have e5 : (157 : Nat) ≠ 107:=by decide
 have e6 : (157 : Nat) ≠ 108:=by decide
 have e7 : (157 : Nat) ≠ 128:=by decide
 have e8 : (157 : Nat) ≠ 116:=by decide
 have e9 : (157 : Nat) ≠ 129:=by decide
 have e10 : (157 : Nat) ≠ 160:=by decide
 simp only [XS,if_neg e0,if_neg e1,if_neg e2,if_neg e3,if_neg e4,if_neg e5,if_neg e6,if_neg e7,if_neg e8,if_neg e9,if_neg e10,if_true,XOne,gd])
theorem oneC_x {x : PV} {g : Nat} : V 162 [.own (.arg 0 0) 0 0 1,.p (.fn g)] [.arr 21 [x]] = some (.tup [],[.arr 21 [x]]):=V_x (by
 have e0 : (162 : Nat) ≠ 120:=by decide
 have e1 : (162 : Nat) ≠ 103:=by decide
 have e2 : (162 : Nat) ≠ 104:=by decide
 have e3 : (162 : Nat) ≠ 105:=by decide
 have e4 : (162 : Nat) ≠ 106:=by decide
 have e5 : (162 : Nat) ≠ 107:=by decide
 have e6 : (162 : Nat) ≠ 108:=by decide
 have e7 : (162 : Nat) ≠ 128:=by decide
 have e8 : (162 : Nat) ≠ 116:=by decide
 have e9 : (162 : Nat) ≠ 129:=by decide
 have e10 : (162 : Nat) ≠ 160:=by decide
 have e11 : (162 : Nat) ≠ 157:=by decide
 simp only [XS,if_neg e0,if_neg e1,if_neg e2,if_neg e3,if_neg e4,if_neg e5,if_neg e6,if_neg e7,if_neg e8,if_neg e9,if_neg e10,if_neg e11,if_true,XOne,gd])
theorem oneD_x {x : PV} {g : Nat} : V 166 [.own (.arg 0 0) 0 0 1,.p (.fn g)] [.arr 3 [x]] = some (.tup [],[.arr 3 [x]]):=V_x (by
 have e0 : (166 : Nat) ≠ 120:=by decide
 have e1 : (166 : Nat) ≠ 103:=by decide
 have e2 : (166 : Nat) ≠ 104:=by decide
 have e3 : (166 : Nat) ≠ 105:=by decide
 have e4 : (166 : Nat) ≠ 106:=by decide
 have e5 : (166 : Nat) ≠ 107:=by decide
 have e6 : (166 : Nat) ≠ 108:=by decide
 have e7 : (166 : Nat) ≠ 128:=by decide
 have e8 : (166 : Nat) ≠ 116:=by decide
 have e9 : (166 : Nat) ≠ 129:=by decide
 have e10 : (166 : Nat) ≠ 160:=by decide
 have e11 : (166 : Nat) ≠ 157:=by decide
 have e12 : (166 : Nat) ≠ 162:=by decide
 simp only [XS,if_neg e0,if_neg e1,if_neg e2,if_neg e3,if_neg e4,if_neg e5,if_neg e6,if_neg e7,if_neg e8,if_neg e9,if_neg e10,if_neg e11,if_neg e12,if_true,XOne,gd])
theorem insF_x {xs : List PV} {x : PV} {i : Int} (hn : xs.length < 1000000) (h0 : 0 <= i) (h1 : i <= xs.length) : V 129 [.own (.arg 0 0) 0 0 xs.length,.p (.int .i64 i),.own (.arg 1 0) 0 0 1] [.arr 7 xs,.arr 7 [x]] = some (.own (.arg 0 0) 1 0 (xs.length + 1),[.box [.undef,.fresh 7 (xs.take i.toNat ++ x :: xs.drop i.toNat)],.arr 7 [x]]):=V_x (by
 have e0 : (129 : Nat) ≠ 120:=by decide
 have e1 : (129 : Nat) ≠ 103:=by decide
 have e2 : (129 : Nat) ≠ 104:=by decide
 have e3 : (129 : Nat) ≠ 105:=by decide
 have e4 : (129 : Nat) ≠ 106:=by decide
 have e5 : (129 : Nat) ≠ 107:=by decide
 have e6 : (129 : Nat) ≠ 108:=by decide
 have e7 : (129 : Nat) ≠ 128:=by decide
 have e8 : (129 : Nat) ≠ 116:=by decide
 simp only [XS,if_neg e0,if_neg e1,if_neg e2,if_neg e3,if_neg e4,if_neg e5,if_neg e6,if_neg e7,if_neg e8,if_true,XIns,gd,true_and]
 rw [if_pos (by omega),if_pos h0,if_pos h1])
structure Nd where
 id : Int
 parent : Int
 name : ByteArray
 control : Int
 kind : Int
 owner : Int
 deriving DecidableEq
def Nd.pv (n : Nd) : PV:=.agg [.int .i64 n.id,.int .i64 n.parent,.str n.name,.int .i64 n.control,.int .i64 n.kind,.int .i64 n.owner]
def Nd.vv (n : Nd) : VVal:=.agg [.p (.int .i64 n.id),.p (.int .i64 n.parent),.p (.str n.name),.p (.int .i64 n.control),.p (.int .i64 n.kind),.p (.int .i64 n.owner)]
abbrev nodesP (ns : List Nd) : PV:=.slice 6 (ns.map Nd.pv)
structure Tr where
 nodes : List Nd
 next : Int
abbrev Tr.vv (t : Tr) : VVal:=.agg [.p (nodesP t.nodes),.p (.int .i64 t.next)]
abbrev Tr.fv (t : Tr) : VVal:=.agg [.fresh 6 (t.nodes.map Nd.pv),.p (.int .i64 t.next)]
abbrev intsP (xs : List Int) : PV:=.slice 1 (xs.map (.int .i64))
attribute [go_sem] Nd.pv solid
theorem nodes_flat (ns : List Nd) : (ns.map Nd.pv).all PV.flat = true:=by
 rw [List.all_eq_true]
 intro x hx
 obtain ⟨n,_,rfl⟩:=lmm.1 hx
 rfl
theorem ints_flat (k : IntKind) (xs : List Int) : (xs.map (PV.int k)).all PV.flat = true:=by
 rw [List.all_eq_true]
 intro x hx
 obtain ⟨n,_,rfl⟩:=lmm.1 hx
 rfl
attribute [go_sem] nodes_flat ints_flat
abbrev diceB (L : List Int) (a : Nat) : Ob:=.box [.p (intsP L),.p (.int .i64 a)]
theorem roll_eq (L : List Int) : V 12 [.p (intsP L)] [] = some (.boxed [.p (intsP L),.p (.int .i64 0)],[]):=by
 refine V_fix (vf:=vf12) rfl ?_
 simp -implicitDefEqProofs (disch:=omega) only [vf12,vb12,go_sem,↓reduceIte,rA,rS,rE,rL,reduceCtorEq]
def nextV (L : List Int) (a : Nat) (n : Int) : Int:=if 1 <= n then (L.getD a 0) % n else 0
def nextA (L : List Int) (a : Nat) (n : Int) : Nat:=if a < L.length /\ 1 <= n then a + 1 else a
theorem emod_tmod {x n : Int} (h : 1 <= n) : x % n = if x.tmod n < 0 then x.tmod n + n else x.tmod n:=by
 have h3:=Int.emod_nonneg x (show n ≠ 0 by omega)
 have h4:=Int.emod_lt_of_pos x (show 0 < n by omega)
 have h5:=Int.tmod_eq_emod (a:=x) (b:=n)
 rw [h5]
 split <;> split <;> omega
theorem next_eq (L : List Int) (a : Nat) (n : Int) (hL : L.length < 4611686018427387904) (hn : n < 4611686018427387904) : V 16 [.ptr (.arg 0 0) 0 0,.p (.int .i64 n)] [diceB L a] = some (.p (.int .i64 (nextV L a n)),[diceB L (nextA L a n)]):=by
 refine V_wp (vf:=vf16) rfl ?_
 by_cases ha : L.length <= a
 ·simp -implicitDefEqProofs (disch:=omega) only [vf16,vb16,ha,go_sem,↓reduceIte,rA,rS,rE,rL,reduceCtorEq]
  simp [nextV,nextA,List.getD_eq_getElem?_getD,List.getElem?_eq_none ha,Nat.not_lt.2 ha]
 ·have hx : L[a]? = some (L.getD a 0):=by
   rw [List.getD_eq_getElem?_getD,lgg (by omega)]; rfl
  have ht : (((a : Int) + 1 - 1).toNat) = a:=by omega
  simp -implicitDefEqProofs (disch:=omega) only [vf16,vb16,ha,go_sem,↓reduceIte,rA,rS,rE,rL,reduceCtorEq]
  repeat' ((first | refine wp_grn_d (fun hb=>?_) (fun hb=>?_) | refine wp_gtn_d (fun hb=>?_) (fun hb=>?_) | refine wp_gr_d (fun hb=>?_) (fun hb=>?_) | refine wp_gt_d (fun hb=>?_) (fun hb=>?_) | refine wp_gr (fun hb=>?_) (fun hb=>?_) | refine wp_gt (fun hb=>?_) (fun hb=>?_) | refine wp_nt_d (fun hb=>?_) (fun hb=>?_) | refine wp_nt (fun hb=>?_) (fun hb=>?_) | refine wp_if_d (fun hb=>?_) (fun hb=>?_) | refine wp_if (fun hb=>?_) (fun hb=>?_)) <;> simp -implicitDefEqProofs (disch:=omega) only [hb,hx,ht,go_sem,↓reduceIte,rA,rS,rE,rL,reduceCtorEq])
  ·simp [nextV,nextA,show ¬ 1 <= n by omega]
  ·have:=emod_tmod (x:=L.getD a 0) (n:=n) (by omega)
   rw [if_pos (by assumption)] at this
   have h1:=Int.tmod_lt_of_pos (L.getD a 0) (show 0 < n by omega)
   have h2:=Int.emod_nonneg (L.getD a 0) (show n ≠ 0 by omega)
   rw [wrap64 (by omega) (by omega),<- this]
   simp only [nextV,nextA,show 1 <= n by omega,show a < L.length by omega,and_self,if_true,diceB,Int.natCast_add,Int.natCast_one]
  ·have:=emod_tmod (x:=L.getD a 0) (n:=n) (by omega)
   rw [if_neg (by assumption)] at this
   rw [<- this]
   simp only [nextV,nextA,show 1 <= n by omega,show a < L.length by omega,and_self,if_true,diceB,Int.natCast_add,Int.natCast_one]
theorem nextV_nonneg (L : List Int) (a : Nat) (n : Int) : 0 <= nextV L a n:=by
 unfold nextV
 split
 .exact Int.emod_nonneg _ (by omega)
 .omega
theorem nextV_lt (L : List Int) (a : Nat) {n : Int} (h : 1 <= n) : nextV L a n < n:=by
 unfold nextV
 rw [if_pos h]
 exact Int.emod_lt_of_pos _ (by omega)
theorem take_snoc {α : Type} {l : List α} {k : Nat} {x : α} (h : l[k]? = some x) : l.take (k + 1) = l.take k ++ [x]:=by
 rw [List.take_add_one,h]
 rfl
theorem take_map_self {α β : Type} (f : α -> β) (l : List α) : List.take l.length (l.map f) = l.map f:=by
 rw [ltl (by simp)]
theorem take_map_snoc {α β : Type} (f : α -> β) (l : List α) (x : β) : List.take (l.length + 1) (l.map f ++ [x]) = l.map f ++ [x]:=by
 rw [ltl (by simp)]
attribute [go_sem] take_map_self take_map_snoc
def upR : List Nd -> Int -> List Int
 | [],_=>[]
 | n :: ns,id=>if n.id = id then id :: upR ns n.parent else upR ns id
def up (ns : List Nd) (id : Int) : List Int:=upR ns.reverse id
def innerB (c : Int) : Bool:=decide (97 <= c /\ c <= 122) || decide (65 <= c /\ c <= 90) || decide (48 <= c /\ c <= 57) || decide (c = 95) || decide (c = 45)
def validN (s : ByteArray) : Bool:=decide (s.size ≠ 0) && decide (s.size <= 32) && decide (s.data.toList[0]? ≠ some 45) && s.data.toList.all fun b=>innerB b.toNat
theorem inner_eq (c : Int) : V 233 [.p (.int .u8 c)] [] = some (.p (.bool (innerB c)),[]):=by
 refine V_wp (vf:=vf233) rfl ?_
 simp -implicitDefEqProofs (disch:=omega) only [vf233,vb233,go_sem,↓reduceIte,rA,rS,rE,rL,reduceCtorEq]
 repeat' ((first | refine wp_grn_d (fun hb=>?_) (fun hb=>?_) | refine wp_gtn_d (fun hb=>?_) (fun hb=>?_) | refine wp_gr_d (fun hb=>?_) (fun hb=>?_) | refine wp_gt_d (fun hb=>?_) (fun hb=>?_) | refine wp_gr (fun hb=>?_) (fun hb=>?_) | refine wp_gt (fun hb=>?_) (fun hb=>?_) | refine wp_nt_d (fun hb=>?_) (fun hb=>?_) | refine wp_nt (fun hb=>?_) (fun hb=>?_) | refine wp_if_d (fun hb=>?_) (fun hb=>?_) | refine wp_if (fun hb=>?_) (fun hb=>?_)) <;> simp -implicitDefEqProofs (disch:=omega) only [hb,go_sem,↓reduceIte,rA,rS,rE,rL,reduceCtorEq])
 all_goals
  simp only [innerB,pmi,VVal.p.injEq,PV.bool.injEq,and_true]
  rw [Bool.eq_iff_iff]
  simp only [bot,decide_eq_true_eq,true_iff,bft,false_iff]
  first | omega | simp
theorem size_list (s : ByteArray) : s.size = s.data.toList.length:=rfl
theorem all_take {α : Type} {p : α -> Bool} {l : List α} {k : Nat} (h : (l.take k).all p = true) {x : α} (hx : l[k]? = some x) (hp : p x = true) : (l.take (k + 1)).all p = true:=by
 rw [List.take_add_one,hx]
 simp only [List.all_append,h,Option.toList,List.all_cons,List.all_nil,hp,bas]
theorem all_not {α : Type} {p : α -> Bool} {l : List α} {k : Nat} {x : α} (hx : l[k]? = some x) (hp : p x = false) : l.all p = false:=by
 rw [List.all_eq_false]
 exact ⟨x,lmg hx,by simp [hp]⟩
theorem toNat_45 (x : UInt8) : ((x.toNat : Int) = 45) = (x = 45):=by
 rw [eq_iff_iff]
 constructor
 ·intro h
  have : x.toNat = (45 : UInt8).toNat:=by simp; omega
  exact UInt8.toNat_inj.1 this
 ·rintro rfl
  rfl
theorem pvalid_eq (s : ByteArray) (hl : s.size < 9223372036854775808) : V 201 [.p (.str s)] [] = some (.p (.bool (validN s)),[]):=by
 refine V_wp (vf:=vf201) rfl ?_
 have hs:=size_list s
 simp -implicitDefEqProofs (disch:=omega) only [vf201,vb201,go_sem,↓reduceIte,rA,rS,rE,rL,reduceCtorEq]
 refine wp_count s.size (fun k t=>(s.data.toList.take k).all (fun b=>innerB b.toNat) = true /\ t.pe 0 = .p (.str s) /\ t.pe 6 = .p (.slice 1 (s.data.toList.map fun b=>.int .u8 b.toNat)) /\ t.pe 7 = .p (.int .i64 s.size) /\ t.pe 8 = .p (.int .i64 k)) ?_ ?_
 ·exact ⟨by simp,rfl,rfl,rfl,rfl⟩
 ·rintro k t hk ⟨hall,h0,h6,h7,h8⟩
  simp -implicitDefEqProofs (disch:=omega) only [h0,h6,h7,h8,go_sem,↓reduceIte,rA,rS,rE,rL,reduceCtorEq]
  refine wp_if_d (fun hlt=>?_) (fun hge=>?_)
  ·have hy : s.data.toList[k]? = some s.data.toList[k]:=lgg (by omega)
   generalize s.data.toList[k] = y at hy
   simp -implicitDefEqProofs (disch:=omega) only [h0,h6,h7,h8,hy,hlt,inner_eq,go_sem,↓reduceIte,rA,rS,rE,rL,reduceCtorEq]
   repeat' ((first | refine wp_grn_d (fun hb=>?_) (fun hb=>?_) | refine wp_gtn_d (fun hb=>?_) (fun hb=>?_) | refine wp_gr_d (fun hb=>?_) (fun hb=>?_) | refine wp_gt_d (fun hb=>?_) (fun hb=>?_) | refine wp_gr (fun hb=>?_) (fun hb=>?_) | refine wp_gt (fun hb=>?_) (fun hb=>?_) | refine wp_nt_d (fun hb=>?_) (fun hb=>?_) | refine wp_nt (fun hb=>?_) (fun hb=>?_) | refine wp_if_d (fun hb=>?_) (fun hb=>?_) | refine wp_if (fun hb=>?_) (fun hb=>?_)) <;> simp -implicitDefEqProofs (disch:=omega) only [hb,h0,h6,h7,h8,hy,inner_eq,go_sem,↓reduceIte,rA,rS,rE,rL,reduceCtorEq])
   ·have:=all_not (p:=fun b : UInt8=>innerB b.toNat) hy (by assumption)
    simp [validN,this]
   ·exact ⟨by omega,all_take hall hy (by assumption),by simp only [Int.natCast_add,Int.natCast_one]⟩
  ·simp -implicitDefEqProofs (disch:=omega) only [h0,h6,h7,h8,hge,go_sem,↓reduceIte,rA,rS,rE,rL,reduceCtorEq]
   have hall' : s.data.toList.all (fun b=>innerB b.toNat) = true:=by rw [ltl (by omega)] at hall; exact hall
   have hz : (0 : Int).toNat = 0:=rfl
   by_cases he : s = ⟨#[]⟩
   ·subst he
    simp -implicitDefEqProofs (disch:=omega) only [h0,go_sem,↓reduceIte,rA,rS,rE,rL,reduceCtorEq]
    rfl
   ·have hne : s.size ≠ 0:=fun h=>he (by
     cases s with
     | mk d =>
      congr 1
      exact Array.eq_empty_of_size_eq_zero h)
    simp -implicitDefEqProofs (disch:=omega) only [he,h0,go_sem,↓reduceIte,rA,rS,rE,rL,reduceCtorEq]
    by_cases h1 : (s.size : Int) <= 32
    ·have hx : s.data.toList[0]? = some s.data.toList[0]:=lgg (by omega)
     generalize s.data.toList[0] = x at hx
     simp -implicitDefEqProofs (disch:=omega) only [h0,h1,hx,hz,ba_get,toNat_45,go_sem,↓reduceIte,rA,rS,rE,rL,reduceCtorEq]
     simp only [validN,hall',hx,hne,show s.size <= 32 by omega,ne_eq,not_false_eq_true,decide_true,bta,bau,osi,decide_not]
    ·simp -implicitDefEqProofs (disch:=omega) only [h0,h1,go_sem,↓reduceIte,rA,rS,rE,rL,reduceCtorEq]
     simp [validN,show ¬ s.size <= 32 by omega]
def nodeOk (pre : List Nd) (n : Nd) : Bool :=
  decide (n.kind = 0 \/ n.kind = 1) && decide (0 <= n.control /\ n.control <= 31 /\ 0 <= n.owner /\ n.owner <= 1048576) &&
  (match pre.getLast? with
   | none=>decide (n.id = 1 /\ n.parent = 0 /\ n.name = ⟨#[]⟩ /\ n.kind = 0)
   | some l=>decide (l.id < n.id) && validN n.name && !(pre.any fun x=>decide (x.parent = n.parent /\ x.name = n.name)) && pre.any fun x=>decide (x.id = n.parent))
theorem any_take {α : Type} {p : α -> Bool} {l : List α} {k : Nat} {x : α} (hx : l[k]? = some x) : (l.take (k + 1)).any p = ((l.take k).any p || p x):=by
 rw [List.take_add_one,hx]
 simp only [List.any_append,Option.toList,List.any_cons,List.any_nil,Bool.or_false]
def nodesOk : List Nd -> List Nd -> Bool
 | _,[]=>true
 | pre,n :: ns=>nodeOk pre n && nodesOk (pre ++ [n]) ns
theorem nodesOk_iff : ∀ (ns pre : List Nd),nodesOk pre ns = true ↔ ∀ (i : Nat) (n : Nd),ns[i]? = some n -> nodeOk (pre ++ ns.take i) n = true
 | [],pre=>by simp [nodesOk]
 | n :: ns,pre=>by
  simp only [nodesOk,bat]
  rw [nodesOk_iff ns (pre ++ [n])]
  constructor
  ·rintro ⟨h1,h2⟩ i m hm
   cases i with
   | zero=>simp at hm; subst hm; simpa using h1
   | succ i=>simpa using h2 i m (by simpa using hm)
  ·intro h
   exact ⟨by simpa using h 0 n rfl,fun i m hm=>by simpa using h (i + 1) m (by simpa using hm)⟩
def treeOk (t : Tr) : Bool :=
  decide (1 <= t.nodes.length /\ t.nodes.length <= 64) && nodesOk [] t.nodes && t.nodes.all (fun n=>decide ((up t.nodes n.id).length <= 9)) &&
  (match t.nodes.getLast? with
   | none=>false
   | some l=>decide (l.id < t.next /\ t.next <= 2147483648))
def zeroNd : Nd:=⟨0,0,⟨#[]⟩,0,0,0⟩
def findN (ns : List Nd) (id : Int) : Option Nd:=ns.find? fun n=>decide (n.id = id)
def findT (t : Tr) (id : Int) : Option Nd:=if treeOk t then findN t.nodes id else none
attribute [go_sem] Nd.vv
theorem find_take_none {p : Nd -> Bool} {l : List Nd} {k : Nat} (h : ∀ (i : Nat) (n : Nd),i < k -> l[i]? = some n -> p n = false) {m : Nd} (hm : l[k]? = some m) (hp : p m = true) : l.find? p = some m:=by
 rw [List.find?_eq_some_iff_getElem]
 refine ⟨hp,k,(lgs.1 hm).1,(lgs.1 hm).2,fun j hj=>?_⟩
 have hl : j < l.length:=Nat.lt_trans hj (lgs.1 hm).1
 simpa using h j l[j] hj (lgg hl)
theorem lt_succ_cases {Q : Nat -> Nd -> Prop} {l : List Nd} {k : Nat} {m : Nd} (hm : l[k]? = some m) (h : ∀ (i : Nat) (n : Nd),i < k -> l[i]? = some n -> Q i n) (hk : Q k m) : ∀ (i : Nat) (n : Nd),i < k + 1 -> l[i]? = some n -> Q i n:=fun i n hi hn=>by
 rcases Nat.lt_or_ge i k with h0 | h0
 ·exact h i n h0 hn
 ·have : i = k:=by omega
  subst this
  rw [hm] at hn
  simp at hn
  subst hn
  exact hk
theorem filter_take {p : Nd -> Bool} {l : List Nd} {k : Nat} {m : Nd} (hm : l[k]? = some m) : (l.take (k + 1)).filter p = if p m then (l.take k).filter p ++ [m] else (l.take k).filter p:=by
 rw [List.take_add_one,hm]
 simp only [List.filter_append,Option.toList,lfl,List.filter_nil]
 split <;> simp
theorem nodesOk_pos : ∀ (ns pre : List Nd),(∀ x ∈ pre,1 <= x.id) -> nodesOk pre ns = true -> ∀ n ∈ ns,1 <= n.id
 | [],_,_,_,n,hn=>by cases hn
 | m :: ns,pre,hp,h,n,hn=>by
  simp only [nodesOk,bat] at h
  have hm : 1 <= m.id:=by
   have h1:=h.1
   unfold nodeOk at h1
   simp only [bat] at h1
   cases hl : pre.getLast? with
   | none =>
    rw [hl] at h1
    simp only [decide_eq_true_eq] at h1
    omega
   | some l =>
    rw [hl] at h1
    simp only [bat,decide_eq_true_eq] at h1
    have:=hp l (List.mem_of_getLast? hl)
    omega
  rcases lmk.1 hn with rfl | hn
  ·exact hm
  ·refine nodesOk_pos ns (pre ++ [m]) (fun x hx=>?_) h.2 n hn
   rcases lmp.1 hx with hx | hx
   .exact hp x hx
   .simp at hx; subst hx; exact hm
theorem nodeOk_nil {n : Nd} (h : nodeOk [] n = true) : n.id = 1 /\ n.parent = 0 /\ n.name = ⟨#[]⟩ /\ n.kind = 0:=by
 simp only [nodeOk,List.getLast?_nil,bat,decide_eq_true_eq] at h
 exact h.2
theorem nodeOk_some {pre : List Nd} {l n : Nd} (hl : pre.getLast? = some l) : nodeOk pre n = true ↔ ((n.kind = 0 \/ n.kind = 1) /\ 0 <= n.control /\ n.control <= 31 /\ 0 <= n.owner /\ n.owner <= 1048576) /\ l.id < n.id /\ validN n.name = true /\ (∀ x ∈ pre,¬ (x.parent = n.parent /\ x.name = n.name)) /\ ∃ x ∈ pre,x.id = n.parent:=by
 simp only [nodeOk,hl,bat,decide_eq_true_eq,Bool.not_eq_true',List.any_eq_false,List.any_eq_true]
 constructor
 ·rintro ⟨⟨h1,h2⟩,⟨⟨h3,h4⟩,h5⟩,h6⟩
  exact ⟨⟨h1,h2⟩,h3,h4,h5,h6⟩
 ·rintro ⟨⟨h1,h2⟩,h3,h4,h5,h6⟩
  exact ⟨⟨h1,h2⟩,⟨⟨h3,h4⟩,h5⟩,h6⟩
theorem ids_lt : ∀ (ns pre : List Nd),nodesOk pre ns = true -> (∀ (l : Nd),pre.getLast? = some l -> ∀ x ∈ pre,x.id <= l.id) ->
  (∀ x ∈ pre,∀ n ∈ ns,x.id < n.id) /\ ns.Pairwise fun a b=>a.id < b.id
 | [],_,_,_=>⟨fun _ _ _ h=>(by cases h),List.Pairwise.nil⟩
 | m :: ns,pre,h,hp=>by
  simp only [nodesOk,bat] at h
  have hm : ∀ x ∈ pre,x.id < m.id:=fun x hx=>by
   cases hl : pre.getLast? with
   | none=>rw [List.getLast?_eq_none_iff] at hl; rw [hl] at hx; cases hx
   | some l =>
    have:=((nodeOk_some hl).1 h.1).2.1
    have:=hp l hl x hx
    omega
  obtain ⟨h1,h2⟩:=ids_lt ns (pre ++ [m]) h.2 (fun l hl x hx=>by
   simp at hl
   subst hl
   rcases lmp.1 hx with hx | hx
   .exact Int.le_of_lt (hm x hx)
   .simp at hx; subst hx; exact Int.le_refl _)
  refine ⟨fun x hx n hn=>?_,lpw.2 ⟨fun n hn=>h1 m (by simp) n hn,h2⟩⟩
  rcases lmk.1 hn with rfl | hn
  .exact hm x hx
  .exact h1 x (by simp [hx]) n hn
structure TreeOk (t : Tr) : Prop where
 len : 1 <= t.nodes.length /\ t.nodes.length <= 64
 nodes : nodesOk [] t.nodes = true
 depth : ∀ n ∈ t.nodes,(up t.nodes n.id).length <= 9
 next : ∃ l,t.nodes.getLast? = some l /\ l.id < t.next /\ t.next <= 2147483648
theorem treeOk_iff (t : Tr) : treeOk t = true ↔ TreeOk t:=by
 simp only [treeOk,bat,decide_eq_true_eq,List.all_eq_true]
 constructor
 ·rintro ⟨⟨⟨h1,h2⟩,h3⟩,h4⟩
  cases hl : t.nodes.getLast? with
  | none=>rw [hl] at h4; cases h4
  | some l =>
   rw [hl] at h4
   simp only [decide_eq_true_eq] at h4
   exact ⟨h1,h2,h3,l,hl,h4⟩
 ·rintro ⟨h1,h2,h3,l,hl,h4⟩
  refine ⟨⟨⟨h1,h2⟩,h3⟩,?_⟩
  rw [hl]
  simpa using h4
theorem TreeOk.inc {t : Tr} (h : TreeOk t) : t.nodes.Pairwise fun a b=>a.id < b.id:=(ids_lt t.nodes [] h.nodes (fun _ h=>by simp at h)).2
theorem TreeOk.root {t : Tr} (h : TreeOk t) : ∃ r ns,t.nodes = r :: ns /\ r.id = 1 /\ r.parent = 0:=by
 cases hn : t.nodes with
 | nil=>have:=h.len.1; rw [hn] at this; simp at this
 | cons r ns =>
  have:=h.nodes
  rw [hn] at this
  simp only [nodesOk,bat] at this
  have:=nodeOk_nil this.1
  exact ⟨r,ns,rfl,this.1,this.2.1⟩
theorem findN_some {ns : List Nd} {id : Int} (h : (findN ns id).isSome = true) : ∃ n ∈ ns,n.id = id:=by
 unfold findN at h
 rw [List.find?_isSome] at h
 obtain ⟨n,hn,h⟩:=h
 exact ⟨n,hn,by simpa using h⟩
def idxOf (ns : List Nd) (id : Int) : Int:=match ns.findIdx? (fun n=>decide (n.id = id)) with
 | some i=>i
 | none=>-1
theorem at1_eq (n : Nd) (id : Int) : V 235 [n.vv,.ptr (.arg 0 0) 0 0] [.box [.p (.int .i64 id)]] = some (.p (.bool (decide (n.id = id))),[.box [.p (.int .i64 id)]]):=by
 refine V_wp (vf:=vf235) rfl ?_
 simp -implicitDefEqProofs (disch:=omega) only [vf235,vb235,go_sem,↓reduceIte,rA,rS,rE,rL,reduceCtorEq]
theorem idxOf_at {ns : List Nd} {id : Int} {k : Nat} {m : Nd} (hm : ns[k]? = some m) (h : ∀ (i : Nat) (n : Nd),i < k -> ns[i]? = some n -> ¬ n.id = id) (he : m.id = id) : idxOf ns id = k:=by
 unfold idxOf
 have : ns.findIdx? (fun n=>decide (n.id = id)) = some k:=by
  rw [List.findIdx?_eq_some_iff_getElem]
  refine ⟨(lgs.1 hm).1,by rw [(lgs.1 hm).2]; simpa using he,fun j hj=>?_⟩
  have hl : j < ns.length:=Nat.lt_trans hj (lgs.1 hm).1
  simpa using h j ns[j] hj (lgg hl)
 rw [this]
theorem idxOf_none {ns : List Nd} {id : Int} (h : ∀ n ∈ ns,¬ n.id = id) : idxOf ns id = -1:=by
 unfold idxOf
 have : ns.findIdx? (fun n=>decide (n.id = id)) = none:=by
  rw [List.findIdx?_eq_none_iff]
  intro x hx
  simpa using h x hx
 rw [this]
theorem indexFunc_eq (ns : List Nd) (id : Int) (hl : ns.length < 1000000) : V 234 [.p (nodesP ns),.fn 235 [.ptr (.arg 0 0) 0 0]] [.box [.p (.int .i64 id)]] = some (.p (.int .i64 (idxOf ns id)),[.box [.p (.int .i64 id)]]):=by
 refine V_wp (vf:=vf234) rfl ?_
 simp -implicitDefEqProofs (disch:=omega) only [vf234,vb234,go_sem,↓reduceIte,rA,rS,rE,rL,reduceCtorEq]
 refine wp_count ns.length (fun k s=>(∀ (i : Nat) (n : Nd),i < k -> ns[i]? = some n -> ¬ n.id = id) /\ s.pe 0 = .p (nodesP ns) /\ s.pe 1 = .fn 235 [.ptr (.arg 0 0) 0 0] /\ s.pe 7 = .p (.int .i64 ns.length) /\ s.pe 8 = .p (.int .i64 k) /\ s.h (.arg 0 0) = some (0,.box [.p (.int .i64 id)])) ?_ ?_
 ·exact ⟨by omega,rfl,rfl,rfl,rfl,rfl⟩
 ·rintro k s hk ⟨hall,h0,h1,h7,h8,hh⟩
  simp -implicitDefEqProofs (disch:=omega) only [h0,h1,h7,h8,hh,go_sem,↓reduceIte,rA,rS,rE,rL,reduceCtorEq]
  refine wp_if_d (fun hlt=>?_) (fun hge=>?_)
  ·have hm : ns[k]? = some ns[k]:=lgg hlt
   generalize ns[k] = m at hm
   have hc:=at1_eq m id
   unfold Nd.vv at hc
   simp -implicitDefEqProofs (disch:=omega) only [h0,h1,h7,h8,hh,hm,hc,go_sem,↓reduceIte,rA,rS,rE,rL,reduceCtorEq]
   repeat' ((first | refine wp_grn_d (fun hb=>?_) (fun hb=>?_) | refine wp_gtn_d (fun hb=>?_) (fun hb=>?_) | refine wp_gr_d (fun hb=>?_) (fun hb=>?_) | refine wp_gt_d (fun hb=>?_) (fun hb=>?_) | refine wp_gr (fun hb=>?_) (fun hb=>?_) | refine wp_gt (fun hb=>?_) (fun hb=>?_) | refine wp_nt_d (fun hb=>?_) (fun hb=>?_) | refine wp_nt (fun hb=>?_) (fun hb=>?_) | refine wp_if_d (fun hb=>?_) (fun hb=>?_) | refine wp_if (fun hb=>?_) (fun hb=>?_)) <;> simp -implicitDefEqProofs (disch:=omega) only [hb,h0,h1,h7,h8,hh,go_sem,↓reduceIte,rA,rS,rE,rL,reduceCtorEq])
   .rw [idxOf_at hm hall hb]
   .exact ⟨hlt,lt_succ_cases hm hall hb,by simp only [Int.natCast_add,Int.natCast_one]⟩
  ·simp -implicitDefEqProofs (disch:=omega) only [h0,h1,h7,h8,hh,hge,go_sem,↓reduceIte,rA,rS,rE,rL,reduceCtorEq]
   rw [idxOf_none]
   intro n hn
   obtain ⟨i,hi⟩:=lgm hn
   exact hall i n (by have:=(lgs.1 hi).1; omega) hi
theorem at_eq (t : Tr) (id : Int) (hl : t.nodes.length < 1000000) : V 202 [t.vv,.p (.int .i64 id)] [] = some (.p (.int .i64 (idxOf t.nodes id)),[]):=by
 refine V_wp (vf:=vf202) rfl ?_
 have hc:=indexFunc_eq t.nodes id hl
 simp -implicitDefEqProofs (disch:=omega) only [vf202,vb202,hc,go_sem,↓reduceIte,rA,rS,rE,rL,reduceCtorEq]
theorem idxOf_lt (ns : List Nd) (id : Int) : (idxOf ns id < 0 /\ findN ns id = none) \/ ∃ (k : Nat) (m : Nd),idxOf ns id = k /\ ns[k]? = some m /\ findN ns id = some m /\ m.id = id:=by
 unfold idxOf findN
 cases h : ns.findIdx? (fun n=>decide (n.id = id)) with
 | none =>
  left
  rw [List.findIdx?_eq_none_iff] at h
  exact ⟨by show (-1 : Int) < 0; omega,List.find?_eq_none.2 fun x hx=>by simp [h x hx]⟩
 | some k =>
  right
  rw [List.findIdx?_eq_some_iff_getElem] at h
  obtain ⟨h1,h2,h3⟩:=h
  refine ⟨k,ns[k],rfl,lgg h1,find_take_none (k:=k) (fun i n hi hn=>?_) (lgg h1) h2,by simpa using h2⟩
  have:=h3 i hi
  rw [<- (lgs.1 hn).2]
  simpa using this
theorem ffind_eq (t : Tr) (id : Int) (hl : t.nodes.length < 1000000) : V 145 [t.vv,.p (.int .i64 id)] [] = some (.tup [((findN t.nodes id).getD zeroNd).vv,.p (.bool (findN t.nodes id).isSome)],[]):=by
 refine V_wp (vf:=vf145) rfl ?_
 have hc:=at_eq t id hl
 rcases idxOf_lt t.nodes id with ⟨h1,h2⟩ | ⟨k,m,h1,h2,h3,h4⟩
 ·simp -implicitDefEqProofs (disch:=omega) only [vf145,vb145,hc,h1,go_sem,↓reduceIte,rA,rS,rE,rL,reduceCtorEq]
  simp [h2,zeroNd,Nd.vv]
 ·rw [h1] at hc
  have hk : ¬ (k : Int) < 0:=by omega
  simp -implicitDefEqProofs (disch:=omega) only [vf145,vb145,hc,hk,h2,go_sem,↓reduceIte,rA,rS,rE,rL,reduceCtorEq]
  simp [h3,Nd.vv]
def ancF (ns : List Nd) : Nat -> Int -> List Int
 | 0,_=>[]
 | k + 1,id=>match findN ns id with
  | none=>[]
  | some n=>id :: ancF ns k n.parent
theorem ancF_length (ns : List Nd) : ∀ (k : Nat) (id : Int),(ancF ns k id).length <= k
 | 0,_=>lrf _
 | k + 1,id=>by
  unfold ancF
  split
  ·simp
  ·have:=ancF_length ns k
   simp
   exact this _
theorem fanc_eq (t : Tr) (id : Int) (hl : t.nodes.length < 1000000) : V 179 [t.vv,.p (.int .i64 id)] [] = some (.fresh 1 ((ancF t.nodes t.nodes.length id).map (.int .i64)),[]):=by
 refine V_wp (vf:=vf179) rfl ?_
 simp -implicitDefEqProofs (disch:=omega) only [vf179,vb179,go_sem,↓reduceIte,rA,rS,rE,rL,reduceCtorEq]
 refine wp_count t.nodes.length (fun k s=>∃ (acc : List Int) (cur : Int) (v : Nat),ancF t.nodes t.nodes.length id = acc ++ ancF t.nodes (t.nodes.length - k) cur /\ acc.length <= k /\ s.pe 1 = .p (.int .i64 cur) /\ s.pe 2 = .ptr (.slot 2 0) 0 0 /\ s.pe 5 = .own (.slot 5 0) v 0 acc.length /\ s.pe 10 = .p (.int .i64 t.nodes.length) /\ s.pe 11 = .p (.int .i64 k) /\ s.h (.slot 2 0) = some (0,.box [.p (nodesP t.nodes),.p (.int .i64 t.next)]) /\ s.h (.slot 5 0) = some (v,.arr 1 (acc.map (.int .i64)))) ?_ ?_
 ·exact ⟨[],id,0,by simp,by simp,rfl,rfl,rfl,rfl,rfl,rfl,rfl⟩
 ·rintro k s hk ⟨acc,cur,v,hup,hlen,h1,h2,h5,h10,h11,hh2,hh5⟩
  simp -implicitDefEqProofs (disch:=omega) only [h1,h2,h5,h10,h11,hh2,hh5,go_sem,↓reduceIte,rA,rS,rE,rL,reduceCtorEq]
  refine wp_if_d (fun hlt=>?_) (fun hge=>?_)
  ·have hc:=ffind_eq t cur hl
   obtain ⟨d,hd⟩ : ∃ d,t.nodes.length - k = d + 1:=⟨t.nodes.length - k - 1,by omega⟩
   have hd' : t.nodes.length - (k + 1) = d:=by omega
   rw [hd,ancF] at hup
   cases hf : findN t.nodes cur with
   | none =>
    rw [hf] at hc hup
    simp only [Option.getD_none,Option.isSome_none,lan] at hc hup
    unfold Nd.vv zeroNd at hc
    simp -implicitDefEqProofs (disch:=omega) only [h1,h2,h5,h10,h11,hh2,hh5,hc,go_sem,↓reduceIte,rA,rS,rE,rL,reduceCtorEq]
    rw [hup]
   | some m =>
    rw [hf] at hc hup
    simp only [Option.getD_some,Option.isSome_some] at hc hup
    unfold Nd.vv at hc
    simp -implicitDefEqProofs (disch:=omega) only [h1,h2,h5,h10,h11,hh2,hh5,hc,go_sem,↓reduceIte,rA,rS,rE,rL,reduceCtorEq]
    exact ⟨hlt,acc ++ [cur],m.parent,v + 1,by rw [hup,hd']; simp,by simp; omega,rfl,by simp,by simp only [Int.natCast_add,Int.natCast_one],by simp⟩
  ·have hz : t.nodes.length - k = 0:=by omega
   rw [hz,ancF,lan] at hup
   simp -implicitDefEqProofs (disch:=omega) only [h1,h2,h5,h10,h11,hh2,hh5,hge,go_sem,↓reduceIte,rA,rS,rE,rL,reduceCtorEq]
   rw [hup]
theorem troot_eq (n : Nd) : V 142 [n.vv] [] = some (.p (.bool (decide (n.id = 1 /\ n.parent = 0 /\ n.name = ⟨#[]⟩ /\ n.kind = 0))),[]):=by
 refine V_wp (vf:=vf142) rfl ?_
 simp -implicitDefEqProofs (disch:=omega) only [vf142,vb142,go_sem,↓reduceIte,rA,rS,rE,rL,reduceCtorEq]
 repeat' ((first | refine wp_grn_d (fun hb=>?_) (fun hb=>?_) | refine wp_gtn_d (fun hb=>?_) (fun hb=>?_) | refine wp_gr_d (fun hb=>?_) (fun hb=>?_) | refine wp_gt_d (fun hb=>?_) (fun hb=>?_) | refine wp_gr (fun hb=>?_) (fun hb=>?_) | refine wp_gt (fun hb=>?_) (fun hb=>?_) | refine wp_nt_d (fun hb=>?_) (fun hb=>?_) | refine wp_nt (fun hb=>?_) (fun hb=>?_) | refine wp_if_d (fun hb=>?_) (fun hb=>?_) | refine wp_if (fun hb=>?_) (fun hb=>?_)) <;> simp -implicitDefEqProofs (disch:=omega) only [hb,go_sem,↓reduceIte,rA,rS,rE,rL,reduceCtorEq])
 all_goals
  simp only [pmi,VVal.p.injEq,PV.bool.injEq,and_true]
  rw [Bool.eq_iff_iff]
  simp only [decide_eq_true_eq,bft,false_iff]
  simp [*]
def fineB (pre : List Nd) (l n : Nd) : Bool:=decide (l.id < n.id) && validN n.name && decide (n.kind = 0 \/ n.kind = 1) && !(pre.any fun x=>decide (x.parent = n.parent /\ x.name = n.name)) && pre.any fun x=>decide (x.id = n.parent)
set_option maxHeartbeats 2000000 in
theorem tfine_eq (pre : List Nd) (l n : Nd) (hl : pre.getLast? = some l) (hlen : pre.length < 1000000) (hs : n.name.size < 9223372036854775808) : V 143 [.p (nodesP pre),n.vv] [] = some (.p (.bool (fineB pre l n)),[]):=by
  refine V_wp (vf:=vf143) rfl ?_
  have hpre : pre[((pre.length : Int) - 1).toNat]? = some l:=by
    rw [List.getLast?_eq_getElem?] at hl
    rw [show ((pre.length : Int) - 1).toNat = pre.length - 1 by omega]
    exact hl
  have hpos : 0 < pre.length:=by
    have := (List.getElem?_eq_some_iff.1 hpre).1
    omega
  have hp0 : 0 <= (pre.length : Int) - 1:=by omega
  have hv := pvalid_eq n.name hs
  simp -implicitDefEqProofs (disch:=omega) only [vf143,vb143,hpre,hp0,go_sem,↓reduceIte,rA,rS,rE,rL,reduceCtorEq]
  repeat' ((first | refine wp_grn_d (fun hb=>?_) (fun hb=>?_) | refine wp_gtn_d (fun hb=>?_) (fun hb=>?_) | refine wp_gr_d (fun hb=>?_) (fun hb=>?_) | refine wp_gt_d (fun hb=>?_) (fun hb=>?_) | refine wp_gr (fun hb=>?_) (fun hb=>?_) | refine wp_gt (fun hb=>?_) (fun hb=>?_) | refine wp_nt_d (fun hb=>?_) (fun hb=>?_) | refine wp_nt (fun hb=>?_) (fun hb=>?_) | refine wp_if_d (fun hb=>?_) (fun hb=>?_) | refine wp_if (fun hb=>?_) (fun hb=>?_)) <;> simp -implicitDefEqProofs (disch:=omega) only [hb,hpre,hv,go_sem,↓reduceIte,rA,rS,rE,rL,reduceCtorEq])
  all_goals first
    | (simp only [fineB,pmi,VVal.p.injEq,PV.bool.injEq,and_true]
       rw [Bool.eq_iff_iff]
       simp only [bat,decide_eq_true_eq,bft,false_iff]
       try simp only [*]
       first | omega | (simp; done) | (simp; omega))
    | (have hvf : validN n.name = false:=by simpa using ‹(!validN n.name) = true›
       simp only [fineB,hvf,Bool.and_false,bfa]
       done)
    | skip
  all_goals
    have hvt : validN n.name = true:=by simpa using ‹(!validN n.name) = false›
    refine wp_count pre.length (fun k s=>((pre.take k).any (fun x=>decide (x.parent = n.parent /\ x.name = n.name)) = false) /\ s.pe 3 = .ptr (.slot 3 0) 0 0 /\ s.pe 5 = .p (.bool ((pre.take k).any fun x=>decide (x.id = n.parent))) /\ s.pe 34 = .p (nodesP pre) /\ s.pe 35 = .p (.int .i64 pre.length) /\ s.pe 36 = .p (.int .i64 k) /\ s.h (.slot 3 0) = some (0,.box (n.pv.cells.map .p))) ?_ ?_
    · exact ⟨by simp,rfl,rfl,rfl,rfl,rfl,by simp -implicitDefEqProofs (disch:=omega) only [go_sem,↓reduceIte,rA,rS,rE,rL,reduceCtorEq]; simp only [*]⟩
    · rintro k s hk ⟨hno,h3,h5,h34,h35,h36,hh3⟩
      simp only [Nd.pv,PV.cells,lpc,lpn] at hh3
      simp -implicitDefEqProofs (disch:=omega) only [h3,h5,h34,h35,h36,hh3,go_sem,↓reduceIte,rA,rS,rE,rL,reduceCtorEq]
      refine wp_if_d (fun hki=>?_) (fun hge=>?_)
      · have hm : pre[k]? = some pre[k]:=lgg (by omega)
        generalize pre[k] = m at hm
        simp -implicitDefEqProofs (disch:=omega) only [h3,h5,h34,h35,h36,hh3,hm,hki,go_sem,↓reduceIte,rA,rS,rE,rL,reduceCtorEq]
        repeat' ((first | refine wp_grn_d (fun hb=>?_) (fun hb=>?_) | refine wp_gtn_d (fun hb=>?_) (fun hb=>?_) | refine wp_gr_d (fun hb=>?_) (fun hb=>?_) | refine wp_gt_d (fun hb=>?_) (fun hb=>?_) | refine wp_gr (fun hb=>?_) (fun hb=>?_) | refine wp_gt (fun hb=>?_) (fun hb=>?_) | refine wp_nt_d (fun hb=>?_) (fun hb=>?_) | refine wp_nt (fun hb=>?_) (fun hb=>?_) | refine wp_if_d (fun hb=>?_) (fun hb=>?_) | refine wp_if (fun hb=>?_) (fun hb=>?_)) <;> simp -implicitDefEqProofs (disch:=omega) only [hb,h3,h5,h34,h35,h36,hh3,hm,hki,go_sem,↓reduceIte,rA,rS,rE,rL,reduceCtorEq])
        all_goals first
          | (have ha : (pre.any fun x=>decide (x.parent = n.parent /\ x.name = n.name)) = true:=by
              rw [List.any_eq_true]
              exact ⟨m,lmg hm,by simp [*]⟩
             simp only [fineB,ha,Bool.not_true,Bool.and_false,bfa]
             done)
          | exact ⟨by rw [any_take hm,hno]; simp [*],by rw [any_take hm]; simp [*],by simp only [Int.natCast_add,Int.natCast_one]⟩
      · simp -implicitDefEqProofs (disch:=omega) only [h3,h5,h34,h35,h36,hh3,hge,go_sem,↓reduceIte,rA,rS,rE,rL,reduceCtorEq]
        have hki : k = pre.length:=by omega
        subst hki
        rw [List.take_length] at hno ⊢
        simp only [fineB,hno,pmi,VVal.p.injEq,PV.bool.injEq,and_true]
        rw [Bool.eq_iff_iff]
        simp only [bat,decide_eq_true_eq,bnf,and_true,true_and]
        exact ⟨fun h=>⟨⟨⟨by omega,hvt⟩,by omega⟩,h⟩,fun h=>h.2⟩
theorem fineB_nodeOk {pre : List Nd} {l n : Nd} (hl : pre.getLast? = some l) : nodeOk pre n = (decide (0 <= n.control /\ n.control <= 31 /\ 0 <= n.owner /\ n.owner <= 1048576) && fineB pre l n):=by
 rw [Bool.eq_iff_iff]
 simp only [nodeOk,hl,fineB,bat,decide_eq_true_eq]
 constructor
 ·rintro ⟨⟨h1,h2⟩,⟨⟨h3,h4⟩,h5⟩,h6⟩
  exact ⟨h2,⟨⟨⟨h3,h4⟩,h1⟩,h5⟩,h6⟩
 ·rintro ⟨h2,⟨⟨⟨h3,h4⟩,h1⟩,h5⟩,h6⟩
  exact ⟨⟨h1,h2⟩,⟨⟨h3,h4⟩,h5⟩,h6⟩
theorem andNot31 {a : Int} (h0 : 0 <= a) (h1 : a < 9223372036854775808) : (IntKind.i64.wrap ((BitVec.ofInt IntKind.i64.bits a &&& ~~~ BitVec.ofInt IntKind.i64.bits 31).toNat : Int) = 0) = (a <= 31):=by
 have e64 : IntKind.i64.bits = 64:=rfl
 rw [eq_iff_iff]
 generalize hx : BitVec.ofInt IntKind.i64.bits a = x
 generalize hy : (x &&& ~~~ BitVec.ofInt IntKind.i64.bits 31) = y
 have hxn : x.toNat = a.toNat:=by
  rw [<- hx,BitVec.toNat_ofInt]
  rw [e64]
  omega
 have hbit : ∀ i,y.getLsbD i = (x.getLsbD i && decide (5 <= i)):=fun i=>by
  rw [<- hy,BitVec.getLsbD_and,BitVec.getLsbD_not]
  have h31 : (BitVec.ofInt IntKind.i64.bits 31).getLsbD i = decide (i < 5):=by
   rw [show BitVec.ofInt IntKind.i64.bits 31 = BitVec.ofNat IntKind.i64.bits 31 from rfl,BitVec.getLsbD_ofNat]
   rw [show (31 : Nat) = 2 ^ 5 - 1 from rfl,Nat.testBit_two_pow_sub_one,e64]
   rw [Bool.eq_iff_iff]
   simp
   omega
  rw [h31]
  by_cases hi : i < IntKind.i64.bits
  ·rw [Bool.eq_iff_iff]
   simp [hi]
  ·have : x.getLsbD i = false:=BitVec.getLsbD_of_ge x i (by omega)
   simp [this]
 have hyle : y.toNat <= x.toNat:=by
  rw [<- hy,BitVec.toNat_and]
  exact Nat.and_le_left
 have hw : IntKind.i64.wrap (y.toNat : Int) = y.toNat:=wrap64 (by omega) (by omega)
 rw [hw]
 constructor
 ·intro h
  have hy0 : y = 0#_:=BitVec.eq_of_toNat_eq (by simpa using h)
  have hlt : x.toNat < 2 ^ 5:=Nat.lt_pow_two_of_testBit _ fun i hi=>by
   have:=hbit i
   rw [hy0] at this
   simp only [BitVec.getLsbD_zero,decide_eq_true hi,bau] at this
   exact this.symm
  omega
 ·intro h
  have hlt : x.toNat < 2 ^ 5:=by omega
  have hy0 : y = 0#_:=BitVec.eq_of_getLsbD_eq fun i hi=>by
   rw [hbit i]
   by_cases h5 : 5 <= i
   ·have : x.getLsbD i = false:=by
     rw [BitVec.getLsbD]
     exact Nat.testBit_lt_two_pow (Nat.lt_of_lt_of_le hlt (Nat.pow_le_pow_right (by omega) h5))
    simp [this]
   .simp [h5]
  rw [hy0]
  simp
theorem antI31 {a : Int} (h0 : 0 <= a) (h1 : a < 9223372036854775808) : (antI .i64 a 31 = 0) = (a <= 31):=andNot31 h0 h1
theorem upR_append_skip {id : Int} : ∀ (a b : List Nd),(∀ x ∈ a,x.id ≠ id) -> upR (a ++ b) id = upR b id
 | [],_,_=>rfl
 | x :: a,b,h=>by
  rw [lca,upR,if_neg (h x (lms ..)),upR_append_skip a b fun y hy=>h y (lmc _ hy)]
theorem up_snoc_eq (pre : List Nd) (m : Nd) : up (pre ++ [m]) m.id = m.id :: up pre m.parent:=by
 unfold up
 rw [List.reverse_append]
 simp only [List.reverse_cons,List.reverse_nil,lna,lca,upR,if_true]
theorem up_snoc_ne (pre : List Nd) (m : Nd) {id : Int} (h : m.id ≠ id) : up (pre ++ [m]) id = up pre id:=by
 unfold up
 rw [List.reverse_append]
 simp only [List.reverse_cons,List.reverse_nil,lna,lca,upR]
 rw [if_neg h]
theorem up_take {ns : List Nd} (hinc : ns.Pairwise fun a b=>a.id < b.id) {k : Nat} {n : Nd} (hn : n ∈ ns.take k) : up ns n.id = up (ns.take k) n.id:=by
 unfold up
 conv=>lhs; rw [<- List.take_append_drop k ns,List.reverse_append]
 refine upR_append_skip _ _ fun x hx=>?_
 rw [List.mem_reverse] at hx
 rw [<- List.take_append_drop k ns,List.pairwise_append] at hinc
 have:=hinc.2.2 n hn x hx
 omega
theorem mget_mput_same : ∀ (ks : List MKey) (vs : List PV) (k : MKey) (v : PV),mget (mput ks vs k v).1 (mput ks vs k v).2 k = some v
 | [],vs,k,v=>by cases vs <;> simp [mput,mget]
 | x :: ks,[],k,v=>by simp [mput,mget]
 | x :: ks,y :: vs,k,v=>by
  unfold mput
  split
  ·rename_i h
   simp [mget,h]
  ·rename_i h
   simp only [mget,if_neg h]
   exact mget_mput_same ks vs k v
theorem mget_mput_other : ∀ (ks : List MKey) (vs : List PV) (k k' : MKey) (v : PV),ks.length = vs.length -> k' ≠ k -> mget (mput ks vs k v).1 (mput ks vs k v).2 k' = mget ks vs k'
 | [],[],k,k',v,_,h=>by simp [mput,mget,h]
 | [],_ :: _,k,k',v,hl,h=>by simp at hl
 | x :: ks,[],k,k',v,hl,h=>by simp at hl
 | x :: ks,y :: vs,k,k',v,hl,h=>by
  unfold mput
  split
  ·rename_i e
   subst e
   simp [mget,h]
  ·simp only [mget]
   split
   .rfl
   .exact mget_mput_other ks vs k k' v (by simpa using hl) h
theorem mput_len : ∀ (ks : List MKey) (vs : List PV) (k : MKey) (v : PV),ks.length = vs.length -> (mput ks vs k v).1.length = (mput ks vs k v).2.length
 | [],[],_,_,_=>rfl
 | [],_ :: _,_,_,h=>by simp at h
 | _ :: _,[],_,_,h=>by simp at h
 | x :: ks,y :: vs,k,v,h=>by
  unfold mput
  split
  ·simpa using h
  ·simp only [llc]
   rw [mput_len ks vs k v (by simpa using h)]
structure Nd.Fits (n : Nd) : Prop where
 name : n.name.size < 9223372036854775808
 control : n.control < 9223372036854775808
def Tr.Fits (t : Tr) : Prop:=∀ n ∈ t.nodes,n.Fits
theorem treeOk_false_of_node {t : Tr} {k : Nat} {m : Nd} (hm : t.nodes[k]? = some m) (h : nodeOk (t.nodes.take k) m = false) : treeOk t = false:=by
 rw [Bool.eq_false_iff]
 intro h0
 have:=(nodesOk_iff _ _).1 ((treeOk_iff t).1 h0).nodes k m hm
 rw [lna,h] at this
 cases this
theorem treeOk_false_of_depth {t : Tr} {k : Nat} {m : Nd} (hm : t.nodes[k]? = some m) (h : 9 < (up (t.nodes.take (k + 1)) m.id).length) : treeOk t = false:=by
 rw [Bool.eq_false_iff]
 intro h0
 have hok:=(treeOk_iff t).1 h0
 have hin : m ∈ t.nodes.take (k + 1):=by
  have : (t.nodes.take (k + 1))[k]? = some m:=by rw [List.getElem?_take,if_pos (by omega)]; exact hm
  exact lmg this
 have:=hok.depth m (lmg hm)
 rw [up_take hok.inc hin] at this
 omega
theorem nodeOk_bad {pre : List Nd} {n : Nd} (h : ¬ (0 <= n.control /\ n.control <= 31 /\ 0 <= n.owner /\ n.owner <= 1048576)) : nodeOk pre n = false:=by
 simp only [nodeOk,decide_eq_false h,Bool.and_false,bfa]
set_option maxHeartbeats 4000000 in
theorem tcheck_eq (t : Tr) (hf : t.Fits) (hl : t.nodes.length < 1000000) : V 70 [t.vv] [] = some (.p (.bool (treeOk t)),[]):=by
 refine V_wp (vf:=vf70) rfl ?_
 by_cases h1 : (t.nodes.length : Int) < 1
 ·simp -implicitDefEqProofs (disch:=omega) only [vf70,vb70,h1,go_sem,↓reduceIte,rA,rS,rE,rL,reduceCtorEq]
  simp [treeOk,show ¬ 1 <= t.nodes.length by omega]
 by_cases h2 : 64 < (t.nodes.length : Int)
 ·simp -implicitDefEqProofs (disch:=omega) only [vf70,vb70,h1,h2,go_sem,↓reduceIte,rA,rS,rE,rL,reduceCtorEq]
  simp [treeOk,show ¬ t.nodes.length <= 64 by omega]
 have hz : (0 : Int).toNat = 0:=rfl
 have hr0 : t.nodes[0]? = some t.nodes[0]:=lgg (by omega)
 generalize t.nodes[0] = r at hr0
 have hroot:=troot_eq r
 by_cases hr : ¬ (r.id = 1 /\ r.parent = 0 /\ r.name = ⟨#[]⟩ /\ r.kind = 0)
 ·rw [decide_eq_false hr] at hroot
  unfold Nd.vv at hroot
  simp -implicitDefEqProofs (disch:=omega) only [vf70,vb70,h1,h2,hz,hr0,hroot,go_sem,↓reduceIte,rA,rS,rE,rL,reduceCtorEq]
  rw [treeOk_false_of_node hr0]
  rw [Bool.eq_false_iff]
  intro h0
  exact hr (nodeOk_nil (by simpa using h0))
 have hr := Classical.not_not.1 hr
 rw [decide_eq_true hr] at hroot
 unfold Nd.vv at hroot
 simp -implicitDefEqProofs (disch:=omega) only [vf70,vb70,h1,h2,hz,hr0,hroot,go_sem,↓reduceIte,rA,rS,rE,rL,reduceCtorEq]
 refine wp_count t.nodes.length (fun k s=>∃ (ks : List MKey) (vs : List PV),ks.length = vs.length /\ (k = 0 -> ks = [] /\ vs = []) /\ (∀ (i : Nat) (n : Nd),i < k -> t.nodes[i]? = some n -> (mget ks vs (.int n.id)).getD (.int .i64 0) = .int .i64 (((up (t.nodes.take k) n.id).length : Int) - 1)) /\
  (∀ (i : Nat) (n : Nd),i < k -> t.nodes[i]? = some n -> nodeOk (t.nodes.take i) n = true) /\ (∀ (i : Nat) (n : Nd),i < k -> t.nodes[i]? = some n -> (up (t.nodes.take k) n.id).length <= 9) /\ s.pe 1 = .ptr (.slot 1 0) 0 0 /\ s.pe 3 = .mref (.slot 24 0) 0 /\ s.pe 26 = .p (nodesP t.nodes) /\ s.pe 27 = .p (.int .i64 t.nodes.length) /\ s.pe 28 = .p (.int .i64 k) /\
  s.h (.slot 1 0) = some (0,.box [.p (nodesP t.nodes),.p (.int .i64 t.next)]) /\ s.h (.slot 24 0) = some (0,.map (.int .i64) ks vs)) ?_ ?_
 ·refine ⟨[],[],rfl,fun _=>⟨rfl,rfl⟩,by omega,by omega,by omega,?_⟩
  simp -implicitDefEqProofs (disch:=omega) only [go_sem,↓reduceIte,rA,rS,rE,rL,reduceCtorEq]
  rfl
 ·rintro k s hk ⟨ks,vs,hkl,hk0,hdep,hnok,hup,p1,p3,p26,p27,p28,hh1,hh24⟩
  simp -implicitDefEqProofs (disch:=omega) only [p1,p3,p26,p27,p28,hh1,hh24,go_sem,↓reduceIte,rA,rS,rE,rL,reduceCtorEq]
  refine wp_if_d (fun hlt=>?_) (fun hge=>?_)
  ·have hm : t.nodes[k]? = some t.nodes[k]:=lgg hlt
   generalize t.nodes[k] = m at hm
   have hfit:=hf m (lmg hm)
   have hctl:=hfit.control
   by_cases hbad : 0 <= m.control /\ m.control <= 31 /\ 0 <= m.owner /\ m.owner <= 1048576
   ·have c1 : ¬ m.control < 0:=by omega
    have c2 : m.control <= 31:=by omega
    have c3 : ¬ m.owner < 0:=by omega
    have c4 : ¬ 1048576 < m.owner:=by omega
    have hbits:=antI31 hbad.1 hctl
    by_cases hkp : 0 < (k : Int)
    ·obtain ⟨l,hlast⟩ : ∃ l,(t.nodes.take k).getLast? = some l:=by
      cases hq : (t.nodes.take k).getLast? with
      | none =>
       rw [List.getLast?_eq_none_iff] at hq
       have:=congrArg List.length hq
       rw [llt,lln] at this
       omega
      | some l=>exact ⟨l,rfl⟩
     have hfine:=tfine_eq (t.nodes.take k) l m hlast (by simp; omega) hfit.name
     unfold Nd.vv nodesP at hfine
     have hle : k <= t.nodes.length:=hk
     cases hfb : fineB (t.nodes.take k) l m with
     | false =>
      rw [hfb] at hfine
      simp -implicitDefEqProofs (disch:=omega) only [p1,p3,p26,p27,p28,hh1,hh24,hm,hbits,c1,c2,c3,c4,hkp,hle,Nat.sub_zero,<- List.map_take,hfine,go_sem,↓reduceIte,rA,rS,rE,rL,reduceCtorEq]
      rw [treeOk_false_of_node hm]
      rw [fineB_nodeOk hlast,hfb,Bool.and_false]
     | true =>
      rw [hfb] at hfine
      have hno : nodeOk (t.nodes.take k) m = true:=by rw [fineB_nodeOk hlast,hfb,decide_eq_true hbad]; rfl
      obtain ⟨b1,b2,b3,b4,pn,hpn,hpe⟩:=(nodeOk_some hlast).1 hno
      obtain ⟨pi,hpi⟩:=lgm hpn
      have hpik : pi < k:=by
       have:=(lgs.1 hpi).1
       simp at this
       omega
      rw [List.getElem?_take,if_pos hpik] at hpi
      have hd:=hdep pi pn hpik hpi
      rw [hpe] at hd
      have hul:=hup pi pn hpik hpi
      rw [hpe] at hul
      simp -implicitDefEqProofs (disch:=omega) only [p1,p3,p26,p27,p28,hh1,hh24,hm,hbits,c1,c2,c3,c4,hkp,hle,Nat.sub_zero,<- List.map_take,hfine,hd,mget_mput_same,Option.getD_some,go_sem,↓reduceIte,rA,rS,rE,rL,reduceCtorEq]
      have htk : t.nodes.take (k + 1) = t.nodes.take k ++ [m]:=take_snoc hm
      have hum : up (t.nodes.take (k + 1)) m.id = m.id :: up (t.nodes.take k) m.parent:=by rw [htk]; exact up_snoc_eq _ _
      have hltm : ∀ (i : Nat) (n : Nd),i < k -> t.nodes[i]? = some n -> n.id < m.id:=fun i n hi hn=>by
       have hno' : nodesOk [] (t.nodes.take (k + 1)) = true:=(nodesOk_iff _ _).2 fun j x hx=>by
        have hjl:=(lgs.1 hx).1
        simp at hjl
        rw [List.getElem?_take,if_pos (by omega)] at hx
        rw [lna,List.take_take,Nat.min_eq_left (by omega)]
        rcases Nat.lt_or_ge j k with h0 | h0
        ·exact hnok j x h0 hx
        ·have : j = k:=by omega
         subst this
         rw [hm] at hx
         simp at hx
         subst hx
         exact hno
       have hinc:=(ids_lt _ _ hno' (fun _ h=>by simp at h)).2
       rw [htk,List.pairwise_append] at hinc
       refine hinc.2.2 n ?_ m (by simp)
       have : (t.nodes.take k)[i]? = some n:=by rw [List.getElem?_take,if_pos hi]; exact hn
       exact lmg this
      have hun : ∀ (i : Nat) (n : Nd),i < k -> t.nodes[i]? = some n -> up (t.nodes.take (k + 1)) n.id = up (t.nodes.take k) n.id:=fun i n hi hn=>by
       rw [htk]
       exact up_snoc_ne _ _ (by have:=hltm i n hi hn; omega)
      refine wp_if_d (fun hdeep=>?_) (fun hshal=>?_)
      ·simp -implicitDefEqProofs (disch:=omega) only [p1,p3,p26,p27,p28,hh1,hh24,go_sem,↓reduceIte,rA,rS,rE,rL,reduceCtorEq]
       rw [treeOk_false_of_depth hm]
       rw [hum,llc]
       omega
      ·simp -implicitDefEqProofs (disch:=omega) only [p1,p3,p26,p27,p28,hh1,hh24,go_sem,↓reduceIte,rA,rS,rE,rL,reduceCtorEq]
       refine ⟨hlt,(mput ks vs (.int m.id) (.int .i64 (((up (t.nodes.take k) m.parent).length : Int) - 1 + 1))).1,(mput ks vs (.int m.id) (.int .i64 (((up (t.nodes.take k) m.parent).length : Int) - 1 + 1))).2,mput_len _ _ _ _ hkl,fun h=>h.elim,lt_succ_cases hm (fun i n hi hn=>?_) ?_,lt_succ_cases hm hnok hno,lt_succ_cases hm (fun i n hi hn=>?_) ?_,?_,rfl⟩
       ·rw [hun i n hi hn,mget_mput_other _ _ _ _ _ hkl (by have:=hltm i n hi hn; simp; omega)]
        exact hdep i n hi hn
       ·rw [mget_mput_same,hum]
        simp
       ·rw [hun i n hi hn]
        exact hup i n hi hn
       ·rw [hum,llc]
        omega
       .simp only [Int.natCast_add,Int.natCast_one]
    ·have hk0' : k = 0:=by omega
     subst hk0'
     obtain ⟨rfl,rfl⟩:=hk0 rfl
     rw [hm] at hr0
     simp only [osi] at hr0
     subst hr0
     have hg : (mget [] [] (.int m.id)).getD (.int .i64 0) = .int .i64 0:=rfl
     have h80 : ¬ (8 : Int) < 0:=by omega
     simp -implicitDefEqProofs (disch:=omega) only [p1,p3,p26,p27,p28,hh1,hh24,hm,hbits,c1,c2,c3,c4,hkp,hg,h80,go_sem,↓reduceIte,rA,rS,rE,rL,reduceCtorEq]
     have htk : t.nodes.take (0 + 1) = [m]:=take_snoc hm
     have hum : up (t.nodes.take (0 + 1)) m.id = [m.id]:=by rw [htk]; simp [up,upR]
     refine ⟨hlt,[],[],rfl,fun h=>h.elim,lt_succ_cases hm (fun i n hi=>absurd hi (by omega)) ?_,lt_succ_cases hm (fun i n hi=>absurd hi (by omega)) ?_,lt_succ_cases hm (fun i n hi=>absurd hi (by omega)) ?_,rfl,rfl⟩
     ·rw [hum]
      rfl
     ·simp only [nodeOk,List.take_zero,List.getLast?_nil,decide_eq_true hr,decide_eq_true hbad,bau,decide_eq_true_eq]
      exact .inl hr.2.2.2
     ·rw [hum]
      simp
   ·simp -implicitDefEqProofs (disch:=omega) only [p1,p3,p26,p27,p28,hh1,hh24,hm,go_sem,↓reduceIte,rA,rS,rE,rL,reduceCtorEq]
    repeat' ((first | refine wp_grn_d (fun hb=>?_) (fun hb=>?_) | refine wp_gtn_d (fun hb=>?_) (fun hb=>?_) | refine wp_gr_d (fun hb=>?_) (fun hb=>?_) | refine wp_gt_d (fun hb=>?_) (fun hb=>?_) | refine wp_gr (fun hb=>?_) (fun hb=>?_) | refine wp_gt (fun hb=>?_) (fun hb=>?_) | refine wp_nt_d (fun hb=>?_) (fun hb=>?_) | refine wp_nt (fun hb=>?_) (fun hb=>?_) | refine wp_if_d (fun hb=>?_) (fun hb=>?_) | refine wp_if (fun hb=>?_) (fun hb=>?_)) <;> simp -implicitDefEqProofs (disch:=omega) only [hb,p1,p3,p26,p27,p28,hh1,hh24,hm,antI31,go_sem,↓reduceIte,rA,rS,rE,rL,reduceCtorEq])
    all_goals first
     | (exfalso; omega)
     | (rw [treeOk_false_of_node hm (nodeOk_bad hbad)])
  ·have hke : k = t.nodes.length:=by omega
   subst hke
   rw [List.take_length] at hup
   have hla : t.nodes[((t.nodes.length : Int) - 1).toNat]? = some t.nodes[t.nodes.length - 1]:=by
    rw [show ((t.nodes.length : Int) - 1).toNat = t.nodes.length - 1 by omega]
    exact lgg (by omega)
   have hlast : t.nodes.getLast? = some t.nodes[t.nodes.length - 1]:=by
    rw [List.getLast?_eq_getElem?]
    exact lgg (by omega)
   generalize t.nodes[t.nodes.length - 1] = l at hla hlast
   have hok : nodesOk [] t.nodes = true:=(nodesOk_iff _ _).2 fun i n hn=>by simpa using hnok i n (lgs.1 hn).1 hn
   have hk2 : t.nodes.all (fun n=>decide ((up t.nodes n.id).length <= 9)) = true:=by
    rw [List.all_eq_true]
    intro n hn
    obtain ⟨i,hi⟩:=lgm hn
    simpa using hup i n (lgs.1 hi).1 hi
   have hp0 : 0 <= (t.nodes.length : Int) - 1:=by omega
   simp -implicitDefEqProofs (disch:=omega) only [p1,p3,p26,p27,p28,hh1,hh24,hge,hla,hp0,go_sem,↓reduceIte,rA,rS,rE,rL,reduceCtorEq]
   repeat' ((first | refine wp_grn_d (fun hb=>?_) (fun hb=>?_) | refine wp_gtn_d (fun hb=>?_) (fun hb=>?_) | refine wp_gr_d (fun hb=>?_) (fun hb=>?_) | refine wp_gt_d (fun hb=>?_) (fun hb=>?_) | refine wp_gr (fun hb=>?_) (fun hb=>?_) | refine wp_gt (fun hb=>?_) (fun hb=>?_) | refine wp_nt_d (fun hb=>?_) (fun hb=>?_) | refine wp_nt (fun hb=>?_) (fun hb=>?_) | refine wp_if_d (fun hb=>?_) (fun hb=>?_) | refine wp_if (fun hb=>?_) (fun hb=>?_)) <;> simp -implicitDefEqProofs (disch:=omega) only [hb,p1,p3,p26,p27,p28,hh1,hh24,hla,go_sem,↓reduceIte,rA,rS,rE,rL,reduceCtorEq])
   all_goals
    simp only [treeOk,hok,hk2,hlast,show (1 <= t.nodes.length /\ t.nodes.length <= 64) by omega,pmi,VVal.p.injEq,PV.bool.injEq,and_true,decide_true,bta]
    rw [Bool.eq_iff_iff]
    simp only [decide_eq_true_eq,bft,false_iff]
    omega
theorem findN_unique {ns : List Nd} (hinc : ns.Pairwise fun a b=>a.id < b.id) {i : Nat} {n : Nd} (hn : ns[i]? = some n) : findN ns n.id = some n:=by
 unfold findN
 refine find_take_none (k:=i) (fun j m hj hm=>?_) hn (by simp)
 have hl:=(lgs.1 hn).1
 have:=List.pairwise_iff_getElem.1 hinc j i (by omega) hl hj
 rw [(lgs.1 hm).2,(lgs.1 hn).2] at this
 simp
 omega
theorem TreeOk.pos {t : Tr} (h : TreeOk t) : ∀ n ∈ t.nodes,1 <= n.id:=nodesOk_pos t.nodes [] (by simp) h.nodes
theorem TreeOk.find0 {t : Tr} (h : TreeOk t) : findN t.nodes 0 = none:=by
 unfold findN
 rw [List.find?_eq_none]
 intro n hn
 have:=h.pos n hn
 simp
 omega
theorem TreeOk.nodeAt {t : Tr} (h : TreeOk t) {i : Nat} {n : Nd} (hn : t.nodes[i]? = some n) : (i = 0 /\ n.id = 1 /\ n.parent = 0) \/ (0 < i /\ 1 < n.id /\ ∃ j p,j < i /\ t.nodes[j]? = some p /\ p.id = n.parent):=by
 have hok:=(nodesOk_iff _ _).1 h.nodes i n hn
 rw [lna] at hok
 rcases Nat.eq_zero_or_pos i with rfl | hi
 ·left
  rw [List.take_zero] at hok
  have:=nodeOk_nil hok
  exact ⟨rfl,this.1,this.2.1⟩
 ·right
  have hlt:=(lgs.1 hn).1
  cases hl : (t.nodes.take i).getLast? with
  | none =>
   rw [List.getLast?_eq_none_iff] at hl
   have:=congrArg List.length hl
   rw [llt,lln] at this
   omega
  | some l =>
   obtain ⟨_,h2,_,_,p,hp,he⟩:=(nodeOk_some hl).1 hok
   have h1:=h.pos l (List.mem_of_mem_take (List.mem_of_getLast? hl))
   obtain ⟨j,hj⟩:=lgm hp
   have hjl:=(lgs.1 hj).1
   simp at hjl
   rw [List.getElem?_take,if_pos (by omega)] at hj
   exact ⟨hi,by omega,j,p,by omega,hj,he⟩
theorem ancF_step {t : Tr} (h : TreeOk t) : ∀ (i : Nat) (n : Nd),t.nodes[i]? = some n -> ∀ k k',i < k -> i < k' -> ancF t.nodes k n.id = ancF t.nodes k' n.id:=by
 intro i
 induction i using Nat.strongRecOn with
 | _ i ih =>
  intro n hn k k' hk hk'
  obtain ⟨k,rfl⟩ : ∃ m,k = m + 1:=⟨k - 1,by omega⟩
  obtain ⟨k',rfl⟩ : ∃ m,k' = m + 1:=⟨k' - 1,by omega⟩
  have hf:=findN_unique h.inc hn
  simp only [ancF,hf]
  congr 1
  rcases h.nodeAt hn with ⟨rfl,_,h0⟩ | ⟨hi,_,j,p,hj,hp,he⟩
  ·rw [h0]
   have hz : ∀ m,ancF t.nodes m 0 = []:=fun m=>by
    cases m with
    | zero=>rfl
    | succ m=>simp only [ancF,h.find0]
   rw [hz,hz]
  ·rw [<- he]
   exact ih j hj p hp k k' (by omega) (by omega)
theorem ancF_cons {t : Tr} (h : TreeOk t) {i : Nat} {n : Nd} (hn : t.nodes[i]? = some n) : ancF t.nodes t.nodes.length n.id = n.id :: (if i = 0 then [] else ancF t.nodes t.nodes.length n.parent):=by
 have hlt:=(lgs.1 hn).1
 obtain ⟨k,hk⟩ : ∃ m,t.nodes.length = m + 1:=⟨t.nodes.length - 1,by omega⟩
 rw [hk]
 have hf:=findN_unique h.inc hn
 conv=>lhs; simp only [ancF,hf]
 congr 1
 rcases h.nodeAt hn with ⟨rfl,_,h0⟩ | ⟨hi,_,j,p,hj,hp,he⟩
 ·rw [h0,if_pos rfl]
  cases k with
  | zero=>rfl
  | succ m=>simp only [ancF,h.find0]
 ·rw [if_neg (by omega),<- he]
  exact ancF_step h j p hp _ _ (by omega) (by omega)
theorem TreeOk.fits {t : Tr} (h : TreeOk t) : t.Fits:=by
 intro n hn
 obtain ⟨i,hi⟩:=lgm hn
 have hok:=(nodesOk_iff _ _).1 h.nodes i n hi
 rw [lna] at hok
 unfold nodeOk at hok
 simp only [bat,decide_eq_true_eq] at hok
 refine ⟨?_,by omega⟩
 have h2:=hok.2
 split at h2
 ·simp only [decide_eq_true_eq] at h2
  rw [h2.2.2.1]
  decide
 ·simp only [bat] at h2
  have hv:=h2.1.1.2
  simp only [validN,bat,decide_eq_true_eq] at hv
  omega
theorem TreeOk.idx {t : Tr} (h : TreeOk t) {i j : Nat} {n m : Nd} (hn : t.nodes[i]? = some n) (hm : t.nodes[j]? = some m) (he : n.id = m.id) : i = j /\ n = m:=by
 obtain ⟨hi,rfl⟩:=lgs.1 hn
 obtain ⟨hj,rfl⟩:=lgs.1 hm
 have hp:=List.pairwise_iff_getElem.1 h.inc
 rcases Nat.lt_trichotomy i j with hlt | rfl | hlt
 .have:=hp i j hi hj hlt; omega
 .exact ⟨rfl,rfl⟩
 .have:=hp j i hj hi hlt; omega
theorem anc_iff {t : Tr} (h : TreeOk t) {i : Nat} {n : Nd} (hn : t.nodes[i]? = some n) (c : Int) : c ∈ ancF t.nodes t.nodes.length n.id ↔ c = n.id \/ (i ≠ 0 /\ c ∈ ancF t.nodes t.nodes.length n.parent):=by
 rw [ancF_cons h hn]
 by_cases hi : i = 0
 .simp [hi]
 .simp [hi]
theorem TreeOk.kid {t : Tr} (h : TreeOk t) {i j : Nat} {n m : Nd} (hn : t.nodes[i]? = some n) (hm : t.nodes[j]? = some m) (hp : m.parent = n.id) : i < j:=by
 rcases h.nodeAt hm with ⟨_,_,h0⟩ | ⟨_,_,k,p,hk,hpk,hpe⟩
 .have:=h.pos n (lmg hn); omega
 .have:=(h.idx hpk hn (by omega)).1; omega
theorem anc_le {t : Tr} (h : TreeOk t) : ∀ (i : Nat) (n : Nd),t.nodes[i]? = some n -> ∀ c ∈ ancF t.nodes t.nodes.length n.id,∃ j m,j <= i /\ t.nodes[j]? = some m /\ m.id = c:=by
 intro i
 induction i using Nat.strongRecOn with
 | _ i ih =>
  intro n hn c hc
  rcases (anc_iff h hn c).1 hc with rfl | ⟨h0,hc⟩
  ·exact ⟨i,n,lrf _,hn,rfl⟩
  ·rcases h.nodeAt hn with ⟨h1,_⟩ | ⟨_,_,k,p,hk,hpk,hpe⟩
   ·contradiction
   ·rw [<- hpe] at hc
    obtain ⟨j,m,hj,hm,he⟩:=ih k hk p hpk c hc
    exact ⟨j,m,by omega,hm,he⟩
theorem anc_self {t : Tr} (h : TreeOk t) {i : Nat} {n : Nd} (hn : t.nodes[i]? = some n) : n.id ∈ ancF t.nodes t.nodes.length n.id:=(anc_iff h hn _).2 (Or.inl rfl)
theorem anc_parent {t : Tr} (h : TreeOk t) {k : Nat} {c : Nd} (hc : t.nodes[k]? = some c) (hk : k ≠ 0) : ∀ (i : Nat) (n : Nd),t.nodes[i]? = some n -> c.id ∈ ancF t.nodes t.nodes.length n.id -> c.parent ∈ ancF t.nodes t.nodes.length n.id:=by
 intro i
 induction i using Nat.strongRecOn with
 | _ i ih =>
  intro n hn hm
  rcases (anc_iff h hn c.id).1 hm with he | ⟨h0,hm⟩
  ·obtain ⟨rfl,rfl⟩:=h.idx hc hn he
   rcases h.nodeAt hn with ⟨h1,_⟩ | ⟨_,_,j,p,hj,hp,hpe⟩
   ·contradiction
   ·refine (anc_iff h hn _).2 (Or.inr ⟨hk,?_⟩)
    rw [<- hpe]
    exact anc_self h hp
  ·refine (anc_iff h hn _).2 (Or.inr ⟨h0,?_⟩)
   rcases h.nodeAt hn with ⟨h1,_⟩ | ⟨_,_,j,p,hj,hp,hpe⟩
   ·contradiction
   ·rw [<- hpe] at hm ⊢
    exact ih j hj p hp hm
theorem anc_child {t : Tr} (h : TreeOk t) {c : Int} : ∀ (i : Nat) (n : Nd),t.nodes[i]? = some n -> c ∈ ancF t.nodes t.nodes.length n.id -> c ≠ n.id -> ∃ (j : Nat) (m : Nd),t.nodes[j]? = some m /\ m.parent = c /\ m.id ∈ ancF t.nodes t.nodes.length n.id:=by
 intro i
 induction i using Nat.strongRecOn with
 | _ i ih =>
  intro n hn hm hne
  rcases (anc_iff h hn c).1 hm with he | ⟨h0,hm⟩
  ·contradiction
  ·rcases h.nodeAt hn with ⟨h1,_⟩ | ⟨_,_,j,p,hj,hp,hpe⟩
   ·contradiction
   ·by_cases hcp : c = n.parent
    ·exact ⟨i,n,hn,hcp.symm,anc_self h hn⟩
    ·rw [<- hpe] at hm
     obtain ⟨k,m,hk,hmp,hma⟩:=ih j hj p hp hm (by omega)
     rw [hpe] at hma
     exact ⟨k,m,hk,hmp,(anc_iff h hn _).2 (Or.inr ⟨h0,hma⟩)⟩
def kidsN (ns : List Nd) (id : Int) : List Int:=(ns.filter fun n=>decide (n.parent = id)).map (·.id)
def subF (ns : List Nd) : Nat -> Int -> List Int
 | 0,_=>[]
 | k + 1,id=>id :: (kidsN ns id).flatMap (subF ns k)
theorem mem_kidsN {ns : List Nd} {id x : Int} : x ∈ kidsN ns id ↔ ∃ (j : Nat) (m : Nd),ns[j]? = some m /\ m.parent = id /\ m.id = x:=by
 simp only [kidsN,lmm,List.mem_filter,decide_eq_true_eq]
 constructor
 ·rintro ⟨m,⟨hm,hp⟩,he⟩
  obtain ⟨j,hj⟩:=lgm hm
  exact ⟨j,m,hj,hp,he⟩
 ·rintro ⟨j,m,hj,hp,he⟩
  exact ⟨m,⟨lmg hj,hp⟩,he⟩
theorem mem_subF {t : Tr} (h : TreeOk t) : ∀ (k i : Nat) (n : Nd),t.nodes[i]? = some n -> t.nodes.length <= i + k -> ∀ x,x ∈ subF t.nodes k n.id ↔ ∃ (j : Nat) (m : Nd),t.nodes[j]? = some m /\ m.id = x /\ n.id ∈ ancF t.nodes t.nodes.length m.id:=by
 intro k
 induction k with
 | zero=>intro i n hn hk; have:=(lgs.1 hn).1; omega
 | succ k ih =>
  intro i n hn hk x
  simp only [subF,lmk,List.mem_flatMap]
  constructor
  ·rintro (rfl | ⟨c,hc,hx⟩)
   ·exact ⟨i,n,hn,rfl,anc_self h hn⟩
   ·obtain ⟨j,m,hj,hp,rfl⟩:=mem_kidsN.1 hc
    have hij:=h.kid hn hj hp
    obtain ⟨q,y,hq,hy,hm⟩:=(ih j m hj (by omega) x).1 hx
    refine ⟨q,y,hq,hy,?_⟩
    rw [<- hp]
    exact anc_parent h hj (by omega) q y hq hm
  ·rintro ⟨j,m,hj,rfl,hm⟩
   by_cases he : n.id = m.id
   ·exact Or.inl he.symm
   ·obtain ⟨q,y,hq,hy,hm'⟩:=anc_child h j m hj hm he
    have hiq:=h.kid hn hq hy
    exact Or.inr ⟨y.id,mem_kidsN.2 ⟨q,y,hq,hy,rfl⟩,(ih q y hq (by omega) _).2 ⟨j,m,hj,rfl,hm'⟩⟩
theorem nodup_kidsN {t : Tr} (h : TreeOk t) (id : Int) : (kidsN t.nodes id).Nodup:=by
 rw [kidsN,List.Nodup,List.pairwise_map]
 exact List.Pairwise.imp_of_mem (fun _ _ hab=>by omega) (h.inc.filter _)
theorem nodup_subF {t : Tr} (h : TreeOk t) : ∀ (k i : Nat) (n : Nd),t.nodes[i]? = some n -> t.nodes.length <= i + k -> (subF t.nodes k n.id).Nodup:=by
 intro k
 induction k with
 | zero=>intro i n hn hk; have:=(lgs.1 hn).1; omega
 | succ k ih =>
  intro i n hn hk
  simp only [subF,List.nodup_cons]
  constructor
  ·intro hx
   obtain ⟨c,hc,hx⟩:=List.mem_flatMap.1 hx
   obtain ⟨j,m,hj,hp,rfl⟩:=mem_kidsN.1 hc
   have hij:=h.kid hn hj hp
   obtain ⟨q,y,hq,hy,hm⟩:=(mem_subF h k j m hj (by omega) n.id).1 hx
   obtain ⟨q',y',hle,hq',hy'⟩:=anc_le h q y hq m.id hm
   have h1:=(h.idx hq hn hy).1
   have h2:=(h.idx hq' hj hy').1
   omega
  ·rw [List.Nodup,List.pairwise_flatMap]
   constructor
   ·intro c hc
    obtain ⟨j,m,hj,hp,rfl⟩:=mem_kidsN.1 hc
    have hij:=h.kid hn hj hp
    exact ih j m hj (by omega)
   ·have hnd:=nodup_kidsN h n.id
    refine List.Pairwise.imp_of_mem ?_ hnd
    intro c1 c2 hc1 hc2 hne x hx1 y hy2 hxy
    subst hxy
    obtain ⟨j1,m1,hj1,hp1,rfl⟩:=mem_kidsN.1 hc1
    obtain ⟨j2,m2,hj2,hp2,rfl⟩:=mem_kidsN.1 hc2
    have hij1:=h.kid hn hj1 hp1
    have hij2:=h.kid hn hj2 hp2
    obtain ⟨q,z,hq,hz,hm1⟩:=(mem_subF h k j1 m1 hj1 (by omega) x).1 hx1
    obtain ⟨q',z',hq',hz',hm2⟩:=(mem_subF h k j2 m2 hj2 (by omega) x).1 hy2
    obtain ⟨rfl,rfl⟩:=h.idx hq hq' (by omega)
    exact hne (sib h hn hj1 hj2 hp1 hp2 q z hq hm1 hm2)
where
 sib {t : Tr} (h : TreeOk t) {i j1 j2 : Nat} {n m1 m2 : Nd} (hn : t.nodes[i]? = some n) (hj1 : t.nodes[j1]? = some m1) (hj2 : t.nodes[j2]? = some m2) (hp1 : m1.parent = n.id) (hp2 : m2.parent = n.id) : ∀ (q : Nat) (z : Nd),t.nodes[q]? = some z -> m1.id ∈ ancF t.nodes t.nodes.length z.id -> m2.id ∈ ancF t.nodes t.nodes.length z.id -> m1.id = m2.id:=by
  intro q
  induction q using Nat.strongRecOn with
  | _ q ih =>
   intro z hz h1 h2
   have hij1:=h.kid hn hj1 hp1
   have hij2:=h.kid hn hj2 hp2
   rcases (anc_iff h hz _).1 h1 with e1 | ⟨h0,h1'⟩
   ·rcases (anc_iff h hz _).1 h2 with e2 | ⟨_,h2'⟩
    ·omega
    ·obtain ⟨rfl,rfl⟩:=h.idx hj1 hz e1
     rw [hp1] at h2'
     obtain ⟨j,m,hle,hj,he⟩:=anc_le h i n hn _ h2'
     have:=(h.idx hj hj2 he).1
     omega
   ·rcases (anc_iff h hz _).1 h2 with e2 | ⟨_,h2'⟩
    ·obtain ⟨rfl,rfl⟩:=h.idx hj2 hz e2
     rw [hp2] at h1'
     obtain ⟨j,m,hle,hj,he⟩:=anc_le h i n hn _ h1'
     have:=(h.idx hj hj1 he).1
     omega
    ·rcases h.nodeAt hz with ⟨hh,_⟩ | ⟨_,_,j,p,hj,hp,hpe⟩
     ·contradiction
     ·rw [<- hpe] at h1' h2'
      exact ih j hj p hp h1' h2'
theorem nodup_length_le : ∀ (l m : List Int),l.Nodup -> (∀ x ∈ l,x ∈ m) -> l.length <= m.length
 | [],_,_,_=>Nat.zero_le _
 | x :: l,m,hn,hs=>by
  rw [List.nodup_cons] at hn
  have hx : x ∈ m:=hs x (lms ..)
  have:=nodup_length_le l (m.erase x) hn.2 fun y hy=>(List.mem_erase_of_ne (fun e=>hn.1 (by rw [<- e]; exact hy))).2 (hs y (lmc _ hy))
  rw [List.length_erase_of_mem hx] at this
  have:=List.length_pos_of_mem hx
  simp only [llc]
  omega
theorem subF_length {t : Tr} (h : TreeOk t) {k i : Nat} {n : Nd} (hn : t.nodes[i]? = some n) (hk : t.nodes.length <= i + k) : (subF t.nodes k n.id).length <= t.nodes.length:=by
 have:=nodup_length_le _ (t.nodes.map (·.id)) (nodup_subF h k i n hn hk) fun x hx=>by
  obtain ⟨j,m,hj,rfl,_⟩:=(mem_subF h k i n hn hk x).1 hx
  exact lmm.2 ⟨m,lmg hj,rfl⟩
 simpa using this
theorem flatMap_congr_mem {α β : Type} {f g : α -> List β} : ∀ {l : List α},(∀ a ∈ l,f a = g a) -> l.flatMap f = l.flatMap g
 | [],_=>rfl
 | a :: l,h=>by
  rw [lfc,lfc,h a (lms ..),flatMap_congr_mem fun b hb=>h b (lmc _ hb)]
theorem subF_fuel {t : Tr} (h : TreeOk t) : ∀ (k k' i : Nat) (n : Nd),t.nodes[i]? = some n -> t.nodes.length <= i + k -> t.nodes.length <= i + k' -> subF t.nodes k n.id = subF t.nodes k' n.id:=by
 intro k
 induction k with
 | zero=>intro k' i n hn hk; have:=(lgs.1 hn).1; omega
 | succ k ih =>
  intro k' i n hn hk hk'
  cases k' with
  | zero=>have:=(lgs.1 hn).1; omega
  | succ k' =>
   simp only [subF,List.cons.injEq,true_and]
   refine flatMap_congr_mem fun c hc=>?_
   obtain ⟨j,m,hj,hp,rfl⟩:=mem_kidsN.1 hc
   have hij:=h.kid hn hj hp
   exact ih k' j m hj (by omega) (by omega)
def subT (t : Tr) (id : Int) : List Int:=if (findT t id).isSome then subF t.nodes t.nodes.length id else []
structure Ch where
 group : Int
 own : Int
 deriving DecidableEq
def Ch.pv (c : Ch) : PV:=.agg [.int .i64 c.group,.int .i64 c.own]
abbrev Ch.vv (c : Ch) : VVal:=.agg [.p (.int .i64 c.group),.p (.int .i64 c.own)]
abbrev chsP (l : List Ch) : PV:=.slice 2 (l.map Ch.pv)
attribute [go_sem] Ch.pv
theorem chs_flat (l : List Ch) : (l.map Ch.pv).all PV.flat = true:=by
 rw [List.all_eq_true]
 intro x hx
 obtain ⟨n,_,rfl⟩:=lmm.1 hx
 rfl
attribute [go_sem] chs_flat
def sumI : List Int -> Int
 | []=>0
 | x :: xs=>x + sumI xs
theorem sumI_append : ∀ (a b : List Int),sumI (a ++ b) = sumI a + sumI b
 | [],b=>by simp [sumI]
 | x :: a,b=>by have:=sumI_append a b; simp only [lca,sumI]; omega
theorem sumI_nonneg : ∀ (a : List Int),(∀ x ∈ a,0 <= x) -> 0 <= sumI a
 | [],_=>Int.le_refl _
 | x :: a,h=>by
  have:=sumI_nonneg a (fun y hy=>h y (lmc _ hy))
  have:=h x (lms ..)
  simp only [sumI]; omega
theorem sumI_map_nonneg {α : Type} {f : α -> Int} (a : List α) (h : ∀ x ∈ a,0 <= f x) : 0 <= sumI (a.map f):=sumI_nonneg _ (fun x hx=>by
 obtain ⟨y,hy,rfl⟩:=lmm.1 hx
 exact h y hy)
theorem sumI_take_succ {α : Type} {f : α -> Int} {l : List α} {k : Nat} {x : α} (h : l[k]? = some x) : sumI ((l.take (k + 1)).map f) = sumI ((l.take k).map f) + f x:=by
 rw [List.take_add_one,h]
 simp [sumI_append,sumI]
def ownC : List Ch -> Int -> Int
 | [],_=>0
 | c :: l,id=>if c.group = id then c.own else ownC l id
def prevOk (p : Option Int) (g : Int) : Bool:=match p with | none=>true | some q=>decide (q < g)
structure ChOk (ns : List Nd) (l : List Ch) : Prop where
 known : ∀ c ∈ l,(findN ns c.group).isSome = true
 inc : l.Pairwise fun a b=>a.group < b.group
 pos : ∀ c ∈ l,1 <= c.own
 all : sumI (l.map (·.own)) <= 16777216
theorem ownC_zero {l : List Ch} {id : Int} (h : ∀ c ∈ l,c.group ≠ id) : ownC l id = 0:=by
 induction l with
 | nil=>rfl
 | cons c l ih =>
  unfold ownC
  rw [if_neg (h c (lms ..))]
  exact ih (fun d hd=>h d (lmc _ hd))
theorem ownC_cons (c : Ch) (l : List Ch) : ownC (c :: l) = fun x=>if x = c.group then c.own else ownC l x:=by
 funext x
 simp only [ownC,eq_comm]
def withGo (id v : Int) : Bool -> List Ch -> List Ch
 | d,[]=>if d then [] else [⟨id,v⟩]
 | d,c :: l=>(if !d && decide (id <= c.group) then [⟨id,v⟩] else []) ++ (if c.group = id then [] else [c]) ++ withGo id v (d || decide (id <= c.group)) l
def withC (l : List Ch) (id v : Int) : List Ch:=withGo id v (decide (v = 0)) l
theorem withGo_own (id v x : Int) : ∀ (l : List Ch) (d : Bool),ownC (withGo id v d l) x = if x = id then (if d then 0 else v) else ownC l x
 | [], d=>by
  cases d
  ·simp [withGo,ownC,eq_comm]
  ·simp [withGo,ownC]
 | c :: l,d=>by
  have ih:=withGo_own id v x l
  unfold withGo
  cases d
  ·by_cases h1 : id <= c.group
   ·by_cases h2 : c.group = id
    ·by_cases h3 : x = id
     ·simp [h2,h3,ownC]
     ·have h3' : ¬ id = x:=fun h=>h3 h.symm
      simp [h2,h3,h3',ownC,ih]
    ·by_cases h3 : x = id
     ·simp [h1,h2,h3,ownC]
     ·have h3' : ¬ id = x:=fun h=>h3 h.symm
      simp [h1,h2,h3,h3',ownC,ih]
   ·have h2 : ¬ c.group = id:=by omega
    by_cases h3 : x = id
    ·subst h3
     simp [h1,h2,ownC,ih]
    ·simp [h1,h2,h3,ownC,ih]
  ·by_cases h2 : c.group = id
   ·by_cases h3 : x = id
    ·subst h3
     simp [h2,ownC,ih]
    ·have h3' : ¬ id = x:=fun h=>h3 h.symm
     simp [h2,h3,h3',ownC,ih]
   ·by_cases h3 : x = id
    ·subst h3
     simp [h2,ownC,ih]
    .simp [h2,h3,ownC,ih]
theorem withGo_mem (id v : Int) : ∀ (l : List Ch) (d : Bool),∀ c ∈ withGo id v d l,(d = false /\ c = ⟨id,v⟩) \/ (c ∈ l /\ c.group ≠ id)
 | [],d,c,hc=>by
  cases d
  ·simp [withGo] at hc; exact Or.inl ⟨rfl,hc⟩
  ·simp [withGo] at hc
 | e :: l,d,c,hc=>by
  unfold withGo at hc
  simp only [lmp] at hc
  rcases hc with (hc | hc) | hc
  ·split at hc
   ·rename_i h
    simp only [bat,Bool.not_eq_true'] at h
    exact Or.inl ⟨h.1,by simpa using hc⟩
   ·simp at hc
  ·split at hc
   ·simp at hc
   ·rename_i h
    simp at hc
    subst hc
    exact Or.inr ⟨lms ..,h⟩
  ·rcases withGo_mem id v l _ c hc with ⟨h1,h2⟩ | ⟨h1,h2⟩
   ·simp only [Bool.or_eq_false_iff] at h1
    exact Or.inl ⟨h1.1,h2⟩
   .exact Or.inr ⟨lmc _ h1,h2⟩
theorem withGo_inc (id v : Int) : ∀ (l : List Ch) (d : Bool),(l.Pairwise fun a b=>a.group < b.group) -> (withGo id v d l).Pairwise fun a b=>a.group < b.group
 | [],d,_=>by cases d <;> simp [withGo]
 | e :: l,d,h=>by
  obtain ⟨h0,h1⟩:=lpw.1 h
  have ih:=fun d=>withGo_inc id v l d h1
  have hm:=withGo_mem id v l
  unfold withGo
  by_cases hge : id <= e.group
  ·have hT : (withGo id v true l).Pairwise fun a b=>a.group < b.group:=ih true
   have hbig : ∀ c ∈ withGo id v true l,e.group < c.group:=fun c hc=>by
    rcases hm true c hc with ⟨hh,_⟩ | ⟨hh,_⟩
    ·simp at hh
    ·exact h0 c hh
   cases d
   ·by_cases he : e.group = id
    ·simp only [hge,decide_true,bnf,bas,if_true,he,Int.le_refl,decide_true,lan,Bool.or_true,List.singleton_append,lpw]
     exact ⟨fun c hc=>by have:=hbig c hc; show id < c.group; omega,hT⟩
    ·simp only [hge,decide_true,bnf,bas,if_true,he,if_false,Bool.or_true,List.singleton_append,lca,lna,lpw,lmk,forall_eq_or_imp]
     exact ⟨⟨by show id < e.group; omega,fun c hc=>by have:=hbig c hc; show id < c.group; omega⟩,hbig,hT⟩
   ·by_cases he : e.group = id
    ·simp only [he,Bool.not_true,bfa,bft,if_false,if_true,lan,lna,Bool.true_or]
     exact hT
    ·simp only [he,Bool.not_true,bfa,bft,if_false,lna,Bool.true_or,List.singleton_append,lpw]
     exact ⟨hbig,hT⟩
  ·have he : ¬ e.group = id:=by omega
   simp only [hge,decide_false,Bool.and_false,bft,if_false,he,lna,Bool.or_false,List.singleton_append,lpw]
   refine ⟨fun c hc=>?_,ih d⟩
   rcases hm d c hc with ⟨_,hh⟩ | ⟨hh,_⟩
   ·subst hh
    show e.group < id
    omega
   .exact h0 c hh
theorem withGo_sum (id v : Int) : ∀ (l : List Ch) (d : Bool),(l.Pairwise fun a b=>a.group < b.group) -> sumI ((withGo id v d l).map (·.own)) = sumI (l.map (·.own)) - ownC l id + if d then 0 else v
 | [],d,_=>by cases d <;> simp [withGo,sumI,ownC]
 | e :: l,d,h=>by
  obtain ⟨h0,h1⟩:=lpw.1 h
  have ih:=fun d=>withGo_sum id v l d h1
  unfold withGo ownC
  by_cases he : e.group = id
  ·have hz : ownC l id = 0:=ownC_zero (fun c hc=>by have:=h0 c hc; omega)
   cases d <;> simp [he,sumI,ih,hz] <;> omega
  ·by_cases hge : id <= e.group
   .cases d <;> simp [he,hge,sumI,ih] <;> omega
   .cases d <;> simp [he,hge,sumI,ih] <;> omega
theorem ChOk.with {ns : List Nd} {l : List Ch} (h : ChOk ns l) {id v : Int} (hid : (findN ns id).isSome = true) (hv : 0 <= v) (hs : sumI (l.map (·.own)) - ownC l id + v <= 16777216) : ChOk ns (withC l id v):=by
 refine ⟨fun c hc=>?_,withGo_inc _ _ _ _ h.inc,fun c hc=>?_,?_⟩
 ·rcases withGo_mem _ _ _ _ c hc with ⟨_,rfl⟩ | ⟨hh,_⟩
  ·exact hid
  ·exact h.known c hh
 ·rcases withGo_mem _ _ _ _ c hc with ⟨hd,rfl⟩ | ⟨hh,_⟩
  ·simp at hd
   show 1 <= v
   omega
  .exact h.pos c hh
 ·unfold withC
  rw [withGo_sum _ _ _ _ h.inc]
  by_cases hz : v = 0
  .simp [hz]; omega
  .simp [hz]; omega
def tot (t : Tr) (f : Int -> Int) (id : Int) : Int:=sumI ((subF t.nodes t.nodes.length id).map f)
def part (t : Tr) (f : Int -> Int) (i : Nat) (id : Int) : Int:=f id + sumI (((t.nodes.drop i).filter fun m=>decide (m.parent = id)).map fun m=>tot t f m.id)
def wtOf : List Ch -> Int -> Int
 | [],_=>100
 | c :: l,id=>if c.group = id then c.own else wtOf l id
def WtOk (l : List Ch) : Prop:=∀ c ∈ l,1 <= c.own /\ c.own <= 10000
theorem wtOf_range {l : List Ch} (h : WtOk l) (id : Int) : 1 <= wtOf l id /\ wtOf l id <= 10000:=by
 induction l with
 | nil=>simp [wtOf]
 | cons c l ih =>
  unfold wtOf
  split
  .exact h c (lms ..)
  .exact ih fun d hd=>h d (lmc _ hd)
def onB (t : Tr) (active : List Int) (g : Int) : Bool:=active.any fun a=>decide (g ∈ ancF t.nodes t.nodes.length a)
def sumW (t : Tr) (w : Int -> Int) (on : Int -> Bool) (p : Int) : Int:=sumI (((kidsN t.nodes p).filter on).map w)
def shareU (t : Tr) (w : Int -> Int) (on : Int -> Bool) : Nat -> Int -> Int
 | 0,_=>0
 | k + 1,id=>if id = 1 then 1073741824 else if on id = true then
   max 1 (shareU t w on k ((findN t.nodes id).getD zeroNd).parent * w id / sumW t w on ((findN t.nodes id).getD zeroNd).parent) else 0
def shr (t : Tr) (w : Int -> Int) (on : Int -> Bool) (id : Int) : Int:=shareU t w on t.nodes.length id
theorem shareU_fuel {t : Tr} (h : TreeOk t) (w : Int -> Int) (on : Int -> Bool) : ∀ (i : Nat) (n : Nd),t.nodes[i]? = some n -> ∀ k k',i < k -> i < k' -> shareU t w on k n.id = shareU t w on k' n.id:=by
 intro i
 induction i using Nat.strongRecOn with
 | _ i ih =>
  intro n hn k k' hk hk'
  obtain ⟨k,rfl⟩ : ∃ q,k = q + 1:=⟨k - 1,by omega⟩
  obtain ⟨k',rfl⟩ : ∃ q,k' = q + 1:=⟨k' - 1,by omega⟩
  simp only [shareU,findN_unique h.inc hn,Option.getD_some]
  rcases h.nodeAt hn with ⟨_,h1,_⟩ | ⟨_,_,j,p,hj,hp,hpe⟩
  .simp [h1]
  .rw [<- hpe,ih j hj p hp k k' (by omega) (by omega)]
theorem shr_root (t : Tr) (h : TreeOk t) (w : Int -> Int) (on : Int -> Bool) : shr t w on 1 = 1073741824:=by
 have:=h.len
 unfold shr
 obtain ⟨k,hk⟩ : ∃ q,t.nodes.length = q + 1:=⟨t.nodes.length - 1,by omega⟩
 rw [hk]
 simp [shareU]
theorem shr_step {t : Tr} (h : TreeOk t) (w : Int -> Int) (on : Int -> Bool) {i : Nat} {n : Nd} (hn : t.nodes[i]? = some n) (hi : i ≠ 0) : shr t w on n.id = if on n.id = true then max 1 (shr t w on n.parent * w n.id / sumW t w on n.parent) else 0:=by
 have hl:=(lgs.1 hn).1
 rcases h.nodeAt hn with ⟨h0,_⟩ | ⟨_,h1,j,p,hj,hp,hpe⟩
 ·omega
 ·have hf:=shareU_fuel h w on j p hp t.nodes.length (t.nodes.length - 1) (by omega) (by omega)
  rw [hpe] at hf
  unfold shr
  rw [hf]
  obtain ⟨k,hk⟩ : ∃ q,t.nodes.length = q + 1:=⟨t.nodes.length - 1,by omega⟩
  rw [hk]
  simp only [shareU,findN_unique h.inc hn,Option.getD_some,Nat.add_sub_cancel,show ¬ n.id = 1 by omega,if_false]
structure UpClosed (t : Tr) (on : Int -> Bool) : Prop where
 up : ∀ (i : Nat) (n : Nd),t.nodes[i]? = some n -> i ≠ 0 -> on n.id = true -> on n.parent = true
theorem onB_up {t : Tr} (h : TreeOk t) (active : List Int) : UpClosed t (onB t active) where
 up := fun i n hn hi hon=>by
  simp only [onB,List.any_eq_true,decide_eq_true_eq] at hon ⊢
  obtain ⟨a,ha,hm⟩:=hon
  refine ⟨a,ha,?_⟩
  cases hf : findN t.nodes a with
  | none =>
   have : ancF t.nodes t.nodes.length a = []:=by
    cases hl : t.nodes.length with
    | zero=>rfl
    | succ k=>unfold ancF; rw [hf]
   rw [this] at hm
   cases hm
  | some x =>
   obtain ⟨y,hy,hye⟩:=findN_some (ns:=t.nodes) (id:=a) (by rw [hf]; rfl)
   obtain ⟨j,hj⟩:=lgm hy
   rw [<- hye] at hm ⊢
   exact anc_parent h hn hi j y hj hm
theorem sumI_mem_le {f : Int -> Int} {x : Int} : ∀ (l : List Int),(∀ y ∈ l,0 <= f y) -> x ∈ l -> f x <= sumI (l.map f)
 | [],_,h=>by cases h
 | y :: l,h,hx=>by
  have h0:=h y (lms ..)
  have h1:=sumI_map_nonneg l (f:=f) fun z hz=>h z (lmc _ hz)
  simp only [lpc,sumI]
  rcases lmk.1 hx with rfl | hx
  ·omega
  ·have:=sumI_mem_le l (fun z hz=>h z (lmc _ hz)) hx
   omega
theorem div_le_self' {s w W : Int} (hs : 0 <= s) (hw : 0 <= w) (h : w <= W) (hW : 0 < W) : s * w / W <= s:=by
 have h1 : s * w <= s * W:=Int.mul_le_mul_of_nonneg_left h hs
 have h2 : s * w / W <= s * W / W:=Int.ediv_le_ediv hW h1
 rwa [Int.mul_ediv_cancel _ (by omega)] at h2
theorem kid_shr {t : Tr} (h : TreeOk t) (w : Int -> Int) (on : Int -> Bool) {i : Nat} {n : Nd} (hn : t.nodes[i]? = some n) {x : Int} (hx : x ∈ kidsN t.nodes n.id) : shr t w on x = if on x = true then max 1 (shr t w on n.id * w x / sumW t w on n.id) else 0:=by
 obtain ⟨j,m,hm,hp,rfl⟩:=mem_kidsN.1 hx
 have:=h.kid hn hm hp
 rw [shr_step h w on hm (by omega),hp]
def Rep (ks : List MKey) (vs : List PV) (f : Int -> Int) : Prop:=∀ id,(mget ks vs (.int id)).getD (.int .i64 0) = .int .i64 (f id)
theorem mget_mput (x k' : MKey) (v' : PV) : ∀ (ks : List MKey) (vs : List PV),mget (mput ks vs k' v').1 (mput ks vs k' v').2 x = if x = k' then some v' else mget ks vs x
 | [],[]=>by simp [mput,mget]
 | [],_ :: _=>by simp [mput,mget]
 | _ :: _,[]=>by simp [mput,mget]
 | k :: ks,v :: vs=>by
  have ih:=mget_mput x k' v' ks vs
  by_cases h : k' = k
  ·subst h
   simp only [mput,if_true,mget]
   by_cases hx : x = k' <;> simp [hx]
  ·simp only [mput,h,if_false,mget,ih]
   by_cases hx : x = k
   ·have : ¬ x = k':=fun hh=>h (hh ▸ hx)
    simp [hx,this]
    intro hh
    exact absurd hh.symm h
   .simp [hx]
theorem Rep.put {ks : List MKey} {vs : List PV} {f : Int -> Int} (h : Rep ks vs f) (g v : Int) : Rep (mput ks vs (.int g) (.int .i64 v)).1 (mput ks vs (.int g) (.int .i64 v)).2 (fun x=>if x = g then v else f x):=by
 intro id
 rw [mget_mput]
 by_cases hg : id = g
 ·subst hg
  simp
 ·simp [hg]
  exact h id
theorem ownC_snoc (c : Ch) (x : Int) : ∀ (a : List Ch),(∀ d ∈ a,d.group ≠ c.group) -> ownC (a ++ [c]) x = if x = c.group then c.own else ownC a x
 | [],_=>by simp only [lna,ownC,eq_comm]
 | d :: a,h=>by
  have ih:=ownC_snoc c x a (fun e he=>h e (lmc _ he))
  have hd:=h d (lms ..)
  simp only [lca,ownC,ih]
  by_cases h1 : d.group = x
  ·have h2 : ¬ x = c.group:=by omega
   simp [h1,h2]
  .simp [h1]
theorem root_at {t : Tr} (h : TreeOk t) : ∃ r,t.nodes[0]? = some r /\ r.id = 1:=by
 obtain ⟨r,ns,hr,h1,_⟩:=h.root
 exact ⟨r,by rw [hr]; rfl,h1⟩
def ascOk (kn : Int -> Bool) (lo hi : Int) : Option Int -> List Ch -> Bool
 | _,[]=>true
 | p,c :: l=>kn c.group && prevOk p c.group && decide (lo <= c.own /\ c.own <= hi) && ascOk kn lo hi (some c.group) l
def prevG (l : List Ch) (k : Nat) : Option Int:=if k = 0 then none else (l[k - 1]?).map (·.group)
structure AscOk (kn : Int -> Bool) (lo hi : Int) (l : List Ch) : Prop where
 known : ∀ c ∈ l,kn c.group = true
 inc : l.Pairwise fun a b=>a.group < b.group
 range : ∀ c ∈ l,lo <= c.own /\ c.own <= hi
theorem ascOk_iff' (kn : Int -> Bool) (lo hi : Int) : ∀ (l : List Ch) (p : Option Int),ascOk kn lo hi p l = true ↔ (∀ c ∈ l,kn c.group = true) /\ (l.Pairwise fun a b=>a.group < b.group) /\ (∀ q,p = some q -> ∀ c ∈ l,q < c.group) /\ ∀ c ∈ l,lo <= c.own /\ c.own <= hi
 | [],p=>by simp [ascOk]
 | c :: l,p=>by
  have hp : prevOk p c.group = true ↔ ∀ q,p = some q -> q < c.group:=by
   cases p <;> simp [prevOk]
  simp only [ascOk,bat,decide_eq_true_eq,hp,lmk,forall_eq_or_imp,lpw,ascOk_iff' kn lo hi l (some c.group)]
  constructor
  ·rintro ⟨⟨⟨h1,h2⟩,h3⟩,a1,a2,a3,a4⟩
   refine ⟨⟨h1,a1⟩,⟨a3 _ rfl,a2⟩,fun q hq=>⟨h2 q hq,fun d hd=>?_⟩,h3,a4⟩
   have:=h2 q hq
   have:=a3 _ rfl d hd
   omega
  ·rintro ⟨⟨h1,a1⟩,⟨a3,a2⟩,h2,h3,a4⟩
   refine ⟨⟨⟨h1,fun q hq=>(h2 q hq).1⟩,h3⟩,a1,a2,fun q hq=>?_,a4⟩
   cases hq
   exact a3
theorem ascOk_iff (kn : Int -> Bool) (lo hi : Int) (l : List Ch) : ascOk kn lo hi none l = true ↔ AscOk kn lo hi l:=by
 rw [ascOk_iff' kn lo hi l none]
 constructor
 ·rintro ⟨a,b,_,d⟩
  exact ⟨a,b,d⟩
 ·rintro ⟨a,b,d⟩
  exact ⟨a,b,fun q hq=>by simp at hq,d⟩
def ascAt (kn : Int -> Bool) (lo hi : Int) (l : List Ch) (k : Nat) (c : Ch) : Prop:=kn c.group = true /\ (k = 0 \/ ∃ e,l[k - 1]? = some e /\ e.group < c.group) /\ lo <= c.own /\ c.own <= hi
theorem prevG_ok {l : List Ch} {k : Nat} {c : Ch} (hm : l[k]? = some c) : prevOk (prevG l k) c.group = true ↔ (k = 0 \/ ∃ e,l[k - 1]? = some e /\ e.group < c.group):=by
 unfold prevG
 by_cases hk : k = 0
 ·simp [hk,prevOk]
 ·have hl:=(lgs.1 hm).1
  have he : l[k - 1]? = some l[k - 1]:=lgg (by omega)
  rw [if_neg hk,he]
  simp [prevOk,hk]
theorem asc_good {kn : Int -> Bool} {lo hi : Int} {l : List Ch} {k : Nat} {c : Ch} (hq : ascOk kn lo hi none l = ascOk kn lo hi (prevG l k) (l.drop k)) (hm : l[k]? = some c) (h : ascAt kn lo hi l k c) : ascOk kn lo hi none l = ascOk kn lo hi (prevG l (k + 1)) (l.drop (k + 1)):=by
 have hl:=(lgs.1 hm).1
 have hd : l.drop k = c :: l.drop (k + 1):=by
  rw [ldg hl]
  rw [lgg hl] at hm
  cases hm
  rfl
 obtain ⟨h1,h2,h3,h4⟩:=h
 rw [hq,hd,ascOk,h1,(prevG_ok hm).2 h2,decide_eq_true ⟨h3,h4⟩]
 simp [prevG,hm]
theorem asc_bad {kn : Int -> Bool} {lo hi : Int} {l : List Ch} {k : Nat} {c : Ch} (hq : ascOk kn lo hi none l = ascOk kn lo hi (prevG l k) (l.drop k)) (hm : l[k]? = some c) (h : ¬ ascAt kn lo hi l k c) : ascOk kn lo hi none l = false:=by
 have hl:=(lgs.1 hm).1
 have hd : l.drop k = c :: l.drop (k + 1):=by
  rw [ldg hl]
  rw [lgg hl] at hm
  cases hm
  rfl
 rw [Bool.eq_false_iff]
 intro ht
 apply h
 rw [hq,hd,ascOk] at ht
 simp only [bat,decide_eq_true_eq] at ht
 exact ⟨ht.1.1.1,(prevG_ok hm).1 ht.1.1.2,ht.1.2⟩
theorem asc_end {kn : Int -> Bool} {lo hi : Int} {l : List Ch} {k : Nat} (hq : ascOk kn lo hi none l = ascOk kn lo hi (prevG l k) (l.drop k)) (hk : l.length <= k) : ascOk kn lo hi none l = true:=by
 rw [hq,ldl hk]
 simp [ascOk]
theorem prev_at {l : List Ch} {k : Nat} {c : Ch} (hm : l[k]? = some c) (hk : (0 : Int) < k) : ∃ e,l[k - 1]? = some e /\ l[((k : Int) - 1).toNat]? = some e:=by
 have hl:=(lgs.1 hm).1
 have he : l[k - 1]? = some l[k - 1]:=lgg (by omega)
 exact ⟨_,he,by rw [show ((k : Int) - 1).toNat = k - 1 by omega]; exact he⟩
theorem ascAt_zero {kn : Int -> Bool} {lo hi : Int} {l : List Ch} {k : Nat} {c : Ch} (hk : ¬ (0 : Int) < k) : ascAt kn lo hi l k c ↔ kn c.group = true /\ lo <= c.own /\ c.own <= hi:=by
 have : k = 0:=by omega
 subst this
 simp [ascAt]
theorem ascAt_succ {kn : Int -> Bool} {lo hi : Int} {l : List Ch} {k : Nat} {c e : Ch} (hk : (0 : Int) < k) (he : l[k - 1]? = some e) : ascAt kn lo hi l k c ↔ kn c.group = true /\ e.group < c.group /\ lo <= c.own /\ c.own <= hi:=by
 have : ¬ k = 0:=by omega
 simp [ascAt,this,he]
theorem fkids_eq (t : Tr) (id : Int) (hl : t.nodes.length < 1000000) : V 262 [t.vv,.p (.int .i64 id)] [] = some (.fresh 1 ((kidsN t.nodes id).map (.int .i64)),[]):=by
 refine V_wp (vf:=vf262) rfl ?_
 simp -implicitDefEqProofs (disch:=omega) only [vf262,vb262,go_sem,↓reduceIte,rA,rS,rE,rL,reduceCtorEq]
 obtain ⟨I,hI⟩ : ∃ I : Nat -> St -> Prop,∀ k s,I k s ↔ ∃ (acc : List Int) (w : Nat),acc = kidsN (t.nodes.take k) id /\ acc.length <= k /\ s.pe 1 = .p (.int .i64 id) /\ s.pe 5 = .own (.slot 5 0) w 0 acc.length /\ s.pe 9 = .p (nodesP t.nodes) /\ s.pe 10 = .p (.int .i64 t.nodes.length) /\ s.pe 11 = .p (.int .i64 k) /\ s.h (.slot 5 0) = some (w,.arr 1 (acc.map (.int .i64))):=⟨_,fun _ _=>Iff.rfl⟩
 refine wp_count (t.nodes.length) I ?_ ?_
 ·refine (hI _ _).2 ⟨[],0,?_,?_,?_,?_,?_,?_,?_,?_⟩
  ·exact cl3
  ·exact cl3
  all_goals exact cl0
 intro k s hk hIk
 obtain ⟨acc,w,hacc,hal,h1,h5,h9,h10,h11,hh5_0⟩:=(hI _ _).1 hIk
 clear hIk
 simp -implicitDefEqProofs (disch:=omega) only [h1,h5,h9,h10,h11,hh5_0,go_sem,↓reduceIte,rA,rS,rE,rL,reduceCtorEq]
 refine wp_if_d (fun hlt=>?_) (fun hge=>?_)
 ·have hm : t.nodes[k]? = some t.nodes[k]:=lgg hlt
  generalize t.nodes[k] = m at hm
  have hst:=filter_take (p:=fun n : Nd=>decide (n.parent = id)) hm
  by_cases hp : m.parent = id
  ·simp only [hp,decide_true,if_true] at hst
   simp -implicitDefEqProofs (disch:=omega) only [h1,h5,h9,h10,h11,hh5_0,hlt,hm,hp,go_sem,↓reduceIte,rA,rS,rE,rL,reduceCtorEq]
   try refine And.intro (by omega) ?_
   refine (hI _ _).2 ⟨acc ++ [m.id],w + 1,?_,?_,?_,?_,?_,?_,?_,?_⟩
   .exact by rw [kidsN,hst,lma,hacc]; rfl
   .exact by simp; omega
   all_goals exact cl0
  ·simp only [hp,decide_false,bft,if_false] at hst
   simp -implicitDefEqProofs (disch:=omega) only [h1,h5,h9,h10,h11,hh5_0,hlt,hm,hp,go_sem,↓reduceIte,rA,rS,rE,rL,reduceCtorEq]
   try refine And.intro (by omega) ?_
   refine (hI _ _).2 ⟨acc,w,?_,?_,?_,?_,?_,?_,?_,?_⟩
   .exact by rw [kidsN,hst,hacc]; rfl
   .omega
   all_goals exact cl0
 ·rw [ltl (by omega)] at hacc
  simp -implicitDefEqProofs (disch:=omega) only [h1,h5,h9,h10,h11,hh5_0,hge,hacc,go_sem,↓reduceIte,rA,rS,rE,rL,reduceCtorEq]
theorem zero_lt_zero : ¬ ((0 : Int) < ((0 : Nat) : Int)):=by omega
def knownN (ns : List Nd) (g : Int) : Bool:=(findN ns g).isSome
theorem fresh_at {l : List Ch} (hinc : l.Pairwise fun a b=>a.group < b.group) {k : Nat} {c : Ch} (hm : l[k]? = some c) : ∀ d ∈ l.take k,d.group ≠ c.group:=by
 intro d hd
 obtain ⟨j,hj⟩:=lgm hd
 have hjk : j < k:=by
  have:=(lgs.1 hj).1
  simp at this
  omega
 rw [List.getElem?_take_of_lt hjk] at hj
 obtain ⟨hjl,he⟩:=lgs.1 hj
 obtain ⟨hkl,he2⟩:=lgs.1 hm
 have:=List.pairwise_iff_getElem.1 hinc j k hjl hkl hjk
 rw [he,he2] at this
 omega
def Rep2 (ks : List MKey) (vs : List PV) (f : Int -> Option Int) : Prop:=∀ id,mget ks vs (.int id) = (f id).map (.int .i64)
theorem Rep2.put {ks : List MKey} {vs : List PV} {f : Int -> Option Int} (h : Rep2 ks vs f) (g v : Int) : Rep2 (mput ks vs (.int g) (.int .i64 v)).1 (mput ks vs (.int g) (.int .i64 v)).2 (fun x=>if x = g then some v else f x):=by
 intro id
 rw [mget_mput]
 by_cases hg : id = g
 ·subst hg
  simp
 ·simp [hg]
  exact h id
def sharesF (t : Tr) (w : Int -> Int) (on : Int -> Bool) : Nat -> Int -> Int -> List Ch
 | 0,_,_=>[]
 | k + 1,id,s=>if on id = true then ⟨id,s⟩ :: (kidsN t.nodes id).flatMap (fun c=>if on c = true then sharesF t w on k c (max 1 (s * w c / sumW t w on id)) else []) else []
theorem sharesF_val {t : Tr} (h : TreeOk t) (w : Int -> Int) (on : Int -> Bool) : ∀ (k i : Nat) (n : Nd),t.nodes[i]? = some n -> ∀ x ∈ sharesF t w on k n.id (shr t w on n.id),on x.group = true /\ x.own = shr t w on x.group
 | 0, _, _, _, x, hx=>by simp [sharesF] at hx
 | k + 1,i,n,hn,x,hx=>by
  unfold sharesF at hx
  split at hx
  ·rename_i hon
   rcases lmk.1 hx with rfl | hx
   ·exact ⟨hon,rfl⟩
   ·rw [List.mem_flatMap] at hx
    obtain ⟨c,hc,hx⟩:=hx
    split at hx
    ·rename_i hoc
     obtain ⟨j,m,hm,hp,rfl⟩:=mem_kidsN.1 hc
     have hks:=kid_shr h w on hn hc
     rw [if_pos hoc] at hks
     rw [<- hks] at hx
     exact sharesF_val h w on k j m hm x hx
    .cases hx
  .cases hx
theorem on_anc {t : Tr} (h : TreeOk t) {on : Int -> Bool} (hu : UpClosed t on) : ∀ (i : Nat) (n : Nd),t.nodes[i]? = some n -> on n.id = true -> ∀ x ∈ ancF t.nodes t.nodes.length n.id,on x = true:=by
 intro i
 induction i using Nat.strongRecOn with
 | _ i ih =>
  intro n hn hon x hx
  rcases (anc_iff h hn _).1 hx with rfl | ⟨hi,hx⟩
  ·exact hon
  ·rcases h.nodeAt hn with ⟨h0,_⟩ | ⟨_,_,j,p,hj,hp,hpe⟩
   ·exact absurd h0 hi
   ·have:=hu.up i n hn hi hon
    rw [<- hpe] at this hx
    exact ih j hj p hp this x hx
theorem sharesF_all {t : Tr} (h : TreeOk t) (w : Int -> Int) {on : Int -> Bool} (hu : UpClosed t on) : ∀ (k i : Nat) (n : Nd) (s : Int),t.nodes[i]? = some n -> t.nodes.length <= i + k -> ∀ (j : Nat) (m : Nd),t.nodes[j]? = some m -> on m.id = true -> n.id ∈ ancF t.nodes t.nodes.length m.id -> ∃ x ∈ sharesF t w on k n.id s,x.group = m.id
 | 0,i,n,s,hn,hk,_,_,_,_,_=>by
  have:=(lgs.1 hn).1
  omega
 | k + 1,i,n,s,hn,hk,j,m,hm,hon,hin=>by
  unfold sharesF
  rw [if_pos (on_anc h hu j m hm hon n.id hin)]
  by_cases he : n.id = m.id
  ·exact ⟨_,lms ..,he⟩
  ·obtain ⟨q,c,hc,hcp,hca⟩:=anc_child h j m hm hin he
   have hoc:=on_anc h hu j m hm hon c.id hca
   have hlt:=h.kid hn hc hcp
   obtain ⟨x,hx,hxe⟩:=sharesF_all h w hu k q c (max 1 (s * w c.id / sumW t w on n.id)) hc (by omega) j m hm hon hca
   refine ⟨x,lmc _ (List.mem_flatMap.2 ⟨c.id,mem_kidsN.2 ⟨q,c,hc,hcp,rfl⟩,?_⟩),hxe⟩
   rw [if_pos hoc]
   exact hx
theorem div_mono {a b W W' : Int} (h0 : 0 <= a) (h : a <= b) (hW : 0 < W) (hWW : W <= W') : a / W' <= b / W:=by
 have h1 : a / W' <= b / W':=Int.ediv_le_ediv (by omega) h
 have h2 : b / W' <= b / W:=by
  rw [Int.le_ediv_iff_mul_le hW]
  have h3 : 0 <= b / W':=Int.ediv_nonneg (by omega) (by omega)
  have h4:=Int.ediv_mul_le b (show W' ≠ 0 by omega)
  have h5 : b / W' * W <= b / W' * W':=Int.mul_le_mul_of_nonneg_left hWW h3
  omega
 omega
theorem findT_ok {t : Tr} (h : treeOk t = true) (id : Int) : findT t id = findN t.nodes id:=by simp [findT,h]
theorem nodup_groups {l : List Ch} (h : l.Pairwise fun a b=>a.group < b.group) : (l.map (·.group)).Nodup:=by
 rw [List.Nodup,List.pairwise_map]
 exact h.imp fun hab=>by omega
theorem asc_length {ns : List Nd} {lo hi : Int} {l : List Ch} (h : AscOk (knownN ns) lo hi l) : l.length <= ns.length:=by
 have:=nodup_length_le (l.map (·.group)) (ns.map (·.id)) (nodup_groups h.inc) (fun x hx=>by
  obtain ⟨c,hc,rfl⟩:=lmm.1 hx
  obtain ⟨n,hn,he⟩:=findN_some (h.known c hc)
  exact lmm.2 ⟨n,hn,he⟩)
 simpa using this
theorem subT_len {t : Tr} (h : TreeOk t) (id : Int) : (subT t id).length <= t.nodes.length:=by
 unfold subT
 split
 ·rename_i hs
  rw [findT_ok ((treeOk_iff t).2 h)] at hs
  obtain ⟨n,hn,rfl⟩:=findN_some hs
  obtain ⟨i,hi⟩:=lgm hn
  exact subF_length h hi (by omega)
 .exact Nat.zero_le _
theorem in_eq (n lo hi : Int) : V 172 [.p (.int .i64 n),.p (.int .i64 lo),.p (.int .i64 hi)] [] = some (.p (.bool (decide (lo <= n /\ n <= hi))),[]):=by
 refine V_wp (vf:=vf172) rfl ?_
 by_cases h1 : lo <= n
 ·by_cases h2 : n <= hi
  ·rw [decide_eq_true ⟨h1,h2⟩]
   simp -implicitDefEqProofs (disch:=omega) only [vf172,vb172,h1,h2,go_sem,↓reduceIte,rA,rS,rE,rL,reduceCtorEq]
  ·rw [decide_eq_false (fun h=>h2 h.2)]
   simp -implicitDefEqProofs (disch:=omega) only [vf172,vb172,h1,h2,go_sem,↓reduceIte,rA,rS,rE,rL,reduceCtorEq]
 ·rw [decide_eq_false (fun h=>h1 h.1)]
  simp -implicitDefEqProofs (disch:=omega) only [vf172,vb172,h1,go_sem,↓reduceIte,rA,rS,rE,rL,reduceCtorEq]
theorem known_eq (t : Tr) (id : Int) (hn : t.nodes.length < 1000000) : V 171 [t.vv,.p (.int .i64 id)] [] = some (.p (.bool (knownN t.nodes id)),[]):=by
 refine V_wp (vf:=vf171) rfl ?_
 have hfi:=ffind_eq t id hn
 unfold knownN
 generalize (findN t.nodes id).getD zeroNd = nd at hfi
 generalize (findN t.nodes id).isSome = b at hfi
 simp -implicitDefEqProofs (disch:=omega) only [vf171,vb171,hfi,Nd.vv,go_sem,↓reduceIte,rA,rS,rE,rL,reduceCtorEq]
def validW (t : Tr) (l : List Ch) : Bool:=treeOk t && ascOk (knownN t.nodes) 1 10000 none l
def checkA (t : Tr) (l : List Ch) : Bool:=treeOk t && ascOk (knownN t.nodes) 0 1152921504606846976 none l
set_option maxHeartbeats 1000000 in
theorem ivalid_eq (t : Tr) (l : List Ch) (hf : t.Fits) (hn : t.nodes.length < 1000000) (hl : l.length < 1000000) : V 110 [t.vv,.p (chsP l)] [] = some (.p (.bool (validW t l)),[]):=by
 refine V_wp (vf:=vf110) rfl ?_
 have hc:=tcheck_eq t hf hn
 unfold validW
 cases ht : treeOk t with
 | false =>
  rw [ht] at hc
  simp -implicitDefEqProofs (disch:=omega) only [vf110,vb110,hc,bfa,go_sem,↓reduceIte,rA,rS,rE,rL,reduceCtorEq]
 | true =>
  rw [ht] at hc
  rw [bta]
  simp -implicitDefEqProofs (disch:=omega) only [vf110,vb110,hc,go_sem,↓reduceIte,rA,rS,rE,rL,reduceCtorEq]
  obtain ⟨I,hI⟩ : ∃ I : Nat -> St -> Prop,∀ k s,I k s ↔ ascOk (knownN t.nodes) 1 10000 none l = ascOk (knownN t.nodes) 1 10000 (prevG l k) (l.drop k) /\ s.pe 1 = .p (chsP l) /\ s.pe 2 = .ptr (.slot 2 0) 0 0 /\ s.pe 10 = .p (chsP l) /\ s.pe 11 = .p (.int .i64 l.length) /\ s.pe 12 = .p (.int .i64 k) /\ s.h (.slot 2 0) = some (0,.box [.p (nodesP t.nodes),.p (.int .i64 t.next)]):=⟨_,fun _ _=>Iff.rfl⟩
  refine wp_count (l.length) I ?_ ?_
  ·refine (hI _ _).2 ⟨?_,?_,?_,?_,?_,?_,?_⟩
   ·exact cl3
   all_goals exact cl0
  intro k s hk hIk
  obtain ⟨hq,h1,h2,h10,h11,h12,hh2_0⟩:=(hI _ _).1 hIk
  clear hIk
  simp -implicitDefEqProofs (disch:=omega) only [h1,h2,h10,h11,h12,hh2_0,go_sem,↓reduceIte,rA,rS,rE,rL,reduceCtorEq]
  refine wp_if_d (fun hlt=>?_) (fun hge=>?_)
  ·have hm : l[k]? = some l[k]:=lgg hlt
   generalize l[k] = c at hm
   have hg:=asc_good hq hm
   have hb':=asc_bad hq hm
   have hfi:=known_eq t c.group hn
   have hin:=in_eq c.own 1 10000
   obtain ⟨kn,hkn⟩ : ∃ kn,knownN t.nodes c.group = kn:=⟨_,rfl⟩
   by_cases hk0 : (0 : Int) < k
   ·obtain ⟨e,he,he'⟩:=prev_at hm hk0
    have hk1 : (0 : Int) <= (k : Int) - 1:=by omega
    rw [ascAt_succ hk0 he] at hg hb'
    rw [hkn] at hfi hg hb'
    simp -implicitDefEqProofs (disch:=omega) only [h1,h2,h10,h11,h12,hh2_0,hlt,hm,hfi,hin,hk0,hk1,he',go_sem,↓reduceIte,rA,rS,rE,rL,reduceCtorEq]
    repeat' ((first | refine wp_grn_d (fun hb=>?_) (fun hb=>?_) | refine wp_gtn_d (fun hb=>?_) (fun hb=>?_) | refine wp_gr_d (fun hb=>?_) (fun hb=>?_) | refine wp_gt_d (fun hb=>?_) (fun hb=>?_) | refine wp_gr (fun hb=>?_) (fun hb=>?_) | refine wp_gt (fun hb=>?_) (fun hb=>?_) | refine wp_nt_d (fun hb=>?_) (fun hb=>?_) | refine wp_nt (fun hb=>?_) (fun hb=>?_) | refine wp_if_d (fun hb=>?_) (fun hb=>?_) | refine wp_if (fun hb=>?_) (fun hb=>?_)) <;> simp -implicitDefEqProofs (disch:=omega) only [hb,h1,h2,h10,h11,h12,hh2_0,hlt,hm,hfi,hin,hk0,hk1,he',go_sem,↓reduceIte,rA,rS,rE,rL,reduceCtorEq])
    all_goals first
     | (rw [hb' (by first | (rintro ⟨h1,h2,h3,h4⟩; omega) | simp_all)]; done)
     | skip
    try refine And.intro (by omega) ?_
    refine (hI _ _).2 ⟨?_,?_,?_,?_,?_,?_,?_⟩
    ·exact hg ⟨by first | assumption | (cases kn <;> simp_all),by omega,by omega,by omega⟩
    all_goals exact cl0
   ·rw [ascAt_zero hk0] at hg hb'
    rw [hkn] at hfi hg hb'
    simp -implicitDefEqProofs (disch:=omega) only [h1,h2,h10,h11,h12,hh2_0,hlt,hm,hfi,hin,hk0,go_sem,↓reduceIte,rA,rS,rE,rL,reduceCtorEq]
    repeat' ((first | refine wp_grn_d (fun hb=>?_) (fun hb=>?_) | refine wp_gtn_d (fun hb=>?_) (fun hb=>?_) | refine wp_gr_d (fun hb=>?_) (fun hb=>?_) | refine wp_gt_d (fun hb=>?_) (fun hb=>?_) | refine wp_gr (fun hb=>?_) (fun hb=>?_) | refine wp_gt (fun hb=>?_) (fun hb=>?_) | refine wp_nt_d (fun hb=>?_) (fun hb=>?_) | refine wp_nt (fun hb=>?_) (fun hb=>?_) | refine wp_if_d (fun hb=>?_) (fun hb=>?_) | refine wp_if (fun hb=>?_) (fun hb=>?_)) <;> simp -implicitDefEqProofs (disch:=omega) only [hb,h1,h2,h10,h11,h12,hh2_0,hlt,hm,hfi,hin,hk0,go_sem,↓reduceIte,rA,rS,rE,rL,reduceCtorEq])
    all_goals first
     | (rw [hb' (by first | (rintro ⟨h1,h2,h3⟩; omega) | simp_all)]; done)
     | skip
    try refine And.intro (by omega) ?_
    refine (hI _ _).2 ⟨?_,?_,?_,?_,?_,?_,?_⟩
    .exact hg ⟨by first | assumption | (cases kn <;> simp_all),by omega,by omega⟩
    all_goals exact cl0
  ·have hT:=asc_end hq (by omega)
   simp -implicitDefEqProofs (disch:=omega) only [h1,h2,h10,h11,h12,hh2_0,hge,hT,go_sem,↓reduceIte,rA,rS,rE,rL,reduceCtorEq]
set_option maxHeartbeats 1000000 in
theorem icheck_eq (t : Tr) (l : List Ch) (hf : t.Fits) (hn : t.nodes.length < 1000000) (hl : l.length < 1000000) : V 112 [t.vv,.p (chsP l)] [] = some (.p (.bool (checkA t l)),[]):=by
 refine V_wp (vf:=vf112) rfl ?_
 have hc:=tcheck_eq t hf hn
 unfold checkA
 cases ht : treeOk t with
 | false =>
  rw [ht] at hc
  simp -implicitDefEqProofs (disch:=omega) only [vf112,vb112,hc,bfa,go_sem,↓reduceIte,rA,rS,rE,rL,reduceCtorEq]
 | true =>
  rw [ht] at hc
  rw [bta]
  simp -implicitDefEqProofs (disch:=omega) only [vf112,vb112,hc,go_sem,↓reduceIte,rA,rS,rE,rL,reduceCtorEq]
  obtain ⟨I,hI⟩ : ∃ I : Nat -> St -> Prop,∀ k s,I k s ↔ ascOk (knownN t.nodes) 0 1152921504606846976 none l = ascOk (knownN t.nodes) 0 1152921504606846976 (prevG l k) (l.drop k) /\ s.pe 1 = .p (chsP l) /\ s.pe 2 = .ptr (.slot 2 0) 0 0 /\ s.pe 10 = .p (chsP l) /\ s.pe 11 = .p (.int .i64 l.length) /\ s.pe 12 = .p (.int .i64 k) /\ s.h (.slot 2 0) = some (0,.box [.p (nodesP t.nodes),.p (.int .i64 t.next)]):=⟨_,fun _ _=>Iff.rfl⟩
  refine wp_count (l.length) I ?_ ?_
  ·refine (hI _ _).2 ⟨?_,?_,?_,?_,?_,?_,?_⟩
   ·exact cl3
   all_goals exact cl0
  intro k s hk hIk
  obtain ⟨hq,h1,h2,h10,h11,h12,hh2_0⟩:=(hI _ _).1 hIk
  clear hIk
  simp -implicitDefEqProofs (disch:=omega) only [h1,h2,h10,h11,h12,hh2_0,go_sem,↓reduceIte,rA,rS,rE,rL,reduceCtorEq]
  refine wp_if_d (fun hlt=>?_) (fun hge=>?_)
  ·have hm : l[k]? = some l[k]:=lgg hlt
   generalize l[k] = c at hm
   have hg:=asc_good hq hm
   have hb':=asc_bad hq hm
   have hfi:=known_eq t c.group hn
   have hin:=in_eq c.own 0 1152921504606846976
   obtain ⟨kn,hkn⟩ : ∃ kn,knownN t.nodes c.group = kn:=⟨_,rfl⟩
   by_cases hk0 : (0 : Int) < k
   ·obtain ⟨e,he,he'⟩:=prev_at hm hk0
    have hk1 : (0 : Int) <= (k : Int) - 1:=by omega
    rw [ascAt_succ hk0 he] at hg hb'
    rw [hkn] at hfi hg hb'
    simp -implicitDefEqProofs (disch:=omega) only [h1,h2,h10,h11,h12,hh2_0,hlt,hm,hfi,hin,hk0,hk1,he',go_sem,↓reduceIte,rA,rS,rE,rL,reduceCtorEq]
    repeat' ((first | refine wp_grn_d (fun hb=>?_) (fun hb=>?_) | refine wp_gtn_d (fun hb=>?_) (fun hb=>?_) | refine wp_gr_d (fun hb=>?_) (fun hb=>?_) | refine wp_gt_d (fun hb=>?_) (fun hb=>?_) | refine wp_gr (fun hb=>?_) (fun hb=>?_) | refine wp_gt (fun hb=>?_) (fun hb=>?_) | refine wp_nt_d (fun hb=>?_) (fun hb=>?_) | refine wp_nt (fun hb=>?_) (fun hb=>?_) | refine wp_if_d (fun hb=>?_) (fun hb=>?_) | refine wp_if (fun hb=>?_) (fun hb=>?_)) <;> simp -implicitDefEqProofs (disch:=omega) only [hb,h1,h2,h10,h11,h12,hh2_0,hlt,hm,hfi,hin,hk0,hk1,he',go_sem,↓reduceIte,rA,rS,rE,rL,reduceCtorEq])
    all_goals first
     | (rw [hb' (by first | (rintro ⟨h1,h2,h3,h4⟩; omega) | simp_all)]; done)
     | skip
    try refine And.intro (by omega) ?_
    refine (hI _ _).2 ⟨?_,?_,?_,?_,?_,?_,?_⟩
    ·exact hg ⟨by first | assumption | (cases kn <;> simp_all),by omega,by omega,by omega⟩
    all_goals exact cl0
   ·rw [ascAt_zero hk0] at hg hb'
    rw [hkn] at hfi hg hb'
    simp -implicitDefEqProofs (disch:=omega) only [h1,h2,h10,h11,h12,hh2_0,hlt,hm,hfi,hin,hk0,go_sem,↓reduceIte,rA,rS,rE,rL,reduceCtorEq]
    repeat' ((first | refine wp_grn_d (fun hb=>?_) (fun hb=>?_) | refine wp_gtn_d (fun hb=>?_) (fun hb=>?_) | refine wp_gr_d (fun hb=>?_) (fun hb=>?_) | refine wp_gt_d (fun hb=>?_) (fun hb=>?_) | refine wp_gr (fun hb=>?_) (fun hb=>?_) | refine wp_gt (fun hb=>?_) (fun hb=>?_) | refine wp_nt_d (fun hb=>?_) (fun hb=>?_) | refine wp_nt (fun hb=>?_) (fun hb=>?_) | refine wp_if_d (fun hb=>?_) (fun hb=>?_) | refine wp_if (fun hb=>?_) (fun hb=>?_)) <;> simp -implicitDefEqProofs (disch:=omega) only [hb,h1,h2,h10,h11,h12,hh2_0,hlt,hm,hfi,hin,hk0,go_sem,↓reduceIte,rA,rS,rE,rL,reduceCtorEq])
    all_goals first
     | (rw [hb' (by first | (rintro ⟨h1,h2,h3⟩; omega) | simp_all)]; done)
     | skip
    try refine And.intro (by omega) ?_
    refine (hI _ _).2 ⟨?_,?_,?_,?_,?_,?_,?_⟩
    .exact hg ⟨by first | assumption | (cases kn <;> simp_all),by omega,by omega⟩
    all_goals exact cl0
  ·have hT:=asc_end hq (by omega)
   simp -implicitDefEqProofs (disch:=omega) only [h1,h2,h10,h11,h12,hh2_0,hge,hT,go_sem,↓reduceIte,rA,rS,rE,rL,reduceCtorEq]
theorem wtOf_drop {l : List Ch} {k : Nat} {c : Ch} {id : Int} (hm : l[k]? = some c) (h : wtOf l id = wtOf (l.drop k) id) : wtOf l id = if c.group = id then c.own else wtOf (l.drop (k + 1)) id:=by
 have hl:=(lgs.1 hm).1
 rw [h,ldg hl]
 rw [lgg hl] at hm
 cases hm
 rfl
theorem ownC_drop {l : List Ch} {k : Nat} {c : Ch} {id : Int} (hm : l[k]? = some c) (h : ownC l id = ownC (l.drop k) id) : ownC l id = if c.group = id then c.own else ownC (l.drop (k + 1)) id:=by
 have hl:=(lgs.1 hm).1
 rw [h,ldg hl]
 rw [lgg hl] at hm
 cases hm
 rfl
theorem wt_eq (l : List Ch) (id : Int) (hl : l.length < 1000000) : V 269 [.p (chsP l),.p (.int .i64 id)] [] = some (.p (.int .i64 (wtOf l id)),[]):=by
 refine V_wp (vf:=vf269) rfl ?_
 simp -implicitDefEqProofs (disch:=omega) only [vf269,vb269,go_sem,↓reduceIte,rA,rS,rE,rL,reduceCtorEq]
 obtain ⟨I,hI⟩ : ∃ I : Nat -> St -> Prop,∀ k s,I k s ↔ wtOf l id = wtOf (l.drop k) id /\ s.pe 1 = .p (.int .i64 id) /\ s.pe 7 = .p (chsP l) /\ s.pe 8 = .p (.int .i64 ↑l.length) /\ s.pe 9 = .p (.int .i64 k):=⟨_,fun _ _=>Iff.rfl⟩
 refine wp_count (l.length) I ?_ ?_
 ·refine (hI _ _).2 ⟨?_,?_,?_,?_,?_⟩
  ·exact cl3
  all_goals exact cl0
 intro k s hk hIk
 obtain ⟨hq,h1,h7,h8,h9⟩:=(hI _ _).1 hIk
 clear hIk
 simp -implicitDefEqProofs (disch:=omega) only [h1,h7,h8,h9,go_sem,↓reduceIte,rA,rS,rE,rL,reduceCtorEq]
 refine wp_if_d (fun hlt=>?_) (fun hge=>?_)
 ·have hm : l[k]? = some l[k]:=lgg hlt
  generalize l[k] = c at hm
  have hst:=wtOf_drop hm hq
  by_cases hp : c.group = id
  ·rw [if_pos hp] at hst
   simp -implicitDefEqProofs (disch:=omega) only [h1,h7,h8,h9,hlt,hm,hp,hst,go_sem,↓reduceIte,rA,rS,rE,rL,reduceCtorEq]
  ·rw [if_neg hp] at hst
   simp -implicitDefEqProofs (disch:=omega) only [h1,h7,h8,h9,hlt,hm,hp,go_sem,↓reduceIte,rA,rS,rE,rL,reduceCtorEq]
   try refine And.intro (by omega) ?_
   refine (hI _ _).2 ⟨?_,?_,?_,?_,?_⟩
   .exact hst
   all_goals exact cl0
 ·rw [ldl (by omega)] at hq
  simp -implicitDefEqProofs (disch:=omega) only [h1,h7,h8,h9,hge,hq,wtOf,go_sem,↓reduceIte,rA,rS,rE,rL,reduceCtorEq]
theorem get_eq (l : List Ch) (id : Int) (hl : l.length < 1000000) : V 118 [.p (chsP l),.p (.int .i64 id)] [] = some (.p (.int .i64 (ownC l id)),[]):=by
 refine V_wp (vf:=vf118) rfl ?_
 simp -implicitDefEqProofs (disch:=omega) only [vf118,vb118,go_sem,↓reduceIte,rA,rS,rE,rL,reduceCtorEq]
 obtain ⟨I,hI⟩ : ∃ I : Nat -> St -> Prop,∀ k s,I k s ↔ ownC l id = ownC (l.drop k) id /\ s.pe 1 = .p (.int .i64 id) /\ s.pe 7 = .p (chsP l) /\ s.pe 8 = .p (.int .i64 ↑l.length) /\ s.pe 9 = .p (.int .i64 k):=⟨_,fun _ _=>Iff.rfl⟩
 refine wp_count (l.length) I ?_ ?_
 ·refine (hI _ _).2 ⟨?_,?_,?_,?_,?_⟩
  ·exact cl3
  all_goals exact cl0
 intro k s hk hIk
 obtain ⟨hq,h1,h7,h8,h9⟩:=(hI _ _).1 hIk
 clear hIk
 simp -implicitDefEqProofs (disch:=omega) only [h1,h7,h8,h9,go_sem,↓reduceIte,rA,rS,rE,rL,reduceCtorEq]
 refine wp_if_d (fun hlt=>?_) (fun hge=>?_)
 ·have hm : l[k]? = some l[k]:=lgg hlt
  generalize l[k] = c at hm
  have hst:=ownC_drop hm hq
  by_cases hp : c.group = id
  ·rw [if_pos hp] at hst
   simp -implicitDefEqProofs (disch:=omega) only [h1,h7,h8,h9,hlt,hm,hp,hst,go_sem,↓reduceIte,rA,rS,rE,rL,reduceCtorEq]
  ·rw [if_neg hp] at hst
   simp -implicitDefEqProofs (disch:=omega) only [h1,h7,h8,h9,hlt,hm,hp,go_sem,↓reduceIte,rA,rS,rE,rL,reduceCtorEq]
   try refine And.intro (by omega) ?_
   refine (hI _ _).2 ⟨?_,?_,?_,?_,?_⟩
   .exact hst
   all_goals exact cl0
 ·rw [ldl (by omega)] at hq
  simp -implicitDefEqProofs (disch:=omega) only [h1,h7,h8,h9,hge,hq,ownC,go_sem,↓reduceIte,rA,rS,rE,rL,reduceCtorEq]
def putA (a : List Ch) (id v : Int) : List Ch:=withGo id v false a
set_option maxHeartbeats 1000000 in
theorem iput_eq (l : List Ch) (id v : Int) (hl : l.length < 1000000) : V 187 [.p (chsP l),.p (.int .i64 id),.p (.int .i64 v)] [] = some (.fresh 2 ((putA l id v).map Ch.pv),[]):=by
 refine V_wp (vf:=vf187) rfl ?_
 unfold putA
 simp -implicitDefEqProofs (disch:=omega) only [vf187,vb187,go_sem,↓reduceIte,rA,rS,rE,rL,reduceCtorEq]
 obtain ⟨I,hI⟩ : ∃ I : Nat -> St -> Prop,∀ k s,I k s ↔ ∃ (acc : List Ch) (d : Bool) (w : Nat),withGo id v false l = acc ++ withGo id v d (l.drop k) /\ acc.length <= 2 * k /\ s.pe 1 = .p (.int .i64 id) /\ s.pe 2 = .p (.int .i64 v) /\ s.pe 7 = .own (.slot 7 0) w 0 acc.length /\ s.pe 8 = .p (.bool d) /\ s.pe 11 = .p (chsP l) /\ s.pe 12 = .p (.int .i64 l.length) /\ s.pe 13 = .p (.int .i64 k) /\ s.h (.slot 7 0) = some (w,Ob.arr 2 (acc.map Ch.pv)):=⟨_,fun _ _=>Iff.rfl⟩
 refine wp_count (l.length) I ?_ ?_
 ·refine (hI _ _).2 ⟨[],false,0,?_,?_,?_,?_,?_,?_,?_,?_,?_,?_⟩
  ·rfl
  ·exact cl3
  all_goals exact cl0
 intro k s hk hIk
 obtain ⟨acc,d,w,hw,hal,h1,h2,h7,h8,h11,h12,h13,hh7_0⟩:=(hI _ _).1 hIk
 clear hIk
 simp -implicitDefEqProofs (disch:=omega) only [h1,h2,h7,h8,h11,h12,h13,hh7_0,go_sem,↓reduceIte,rA,rS,rE,rL,reduceCtorEq]
 refine wp_if_d (fun hlt=>?_) (fun hge=>?_)
 ·have hm : l[k]? = some l[k]:=lgg hlt
  have hd : l.drop k = l[k] :: l.drop (k + 1):=ldg hlt
  generalize l[k] = c at hm hd
  rw [hd,withGo] at hw
  cases d with
  | true =>
   by_cases he : c.group = id
   ·simp only [he,Bool.not_true,bfa,bft,if_false,if_true,lna,lan,Bool.true_or] at hw
    simp -implicitDefEqProofs (disch:=omega) only [h1,h2,h7,h8,h11,h12,h13,hh7_0,hlt,hm,he,go_sem,↓reduceIte,rA,rS,rE,rL,reduceCtorEq]
    try refine And.intro (by omega) ?_
    refine (hI _ _).2 ⟨acc,true,w,?_,?_,?_,?_,?_,?_,?_,?_,?_,?_⟩
    ·exact hw
    ·omega
    all_goals exact cl0
   ·simp only [he,Bool.not_true,bfa,bft,if_false,lna,Bool.true_or,<- laa] at hw
    simp -implicitDefEqProofs (disch:=omega) only [h1,h2,h7,h8,h11,h12,h13,hh7_0,hlt,hm,he,go_sem,↓reduceIte,rA,rS,rE,rL,reduceCtorEq]
    try refine And.intro (by omega) ?_
    refine (hI _ _).2 ⟨acc ++ [c],true,w + 1,?_,?_,?_,?_,?_,?_,?_,?_,?_,?_⟩
    ·exact hw
    ·exact by simp; omega
    all_goals exact cl0
  | false =>
   by_cases hge : id <= c.group
   ·by_cases he : c.group = id
    ·simp only [he,Int.le_refl,decide_true,bnf,bas,if_true,lan,Bool.or_true,<- laa] at hw
     simp -implicitDefEqProofs (disch:=omega) only [h1,h2,h7,h8,h11,h12,h13,hh7_0,hlt,hm,hge,he,Int.le_refl,decide_true,go_sem,↓reduceIte,rA,rS,rE,rL,reduceCtorEq]
     try refine And.intro (by omega) ?_
     refine (hI _ _).2 ⟨acc ++ [⟨id,v⟩],true,w + 1,?_,?_,?_,?_,?_,?_,?_,?_,?_,?_⟩
     .exact hw
     .exact by simp; omega
     all_goals exact cl0
    ·simp only [he,hge,decide_true,bnf,bas,if_true,if_false,Bool.or_true,<- laa] at hw
     simp -implicitDefEqProofs (disch:=omega) only [h1,h2,h7,h8,h11,h12,h13,hh7_0,hlt,hm,hge,he,go_sem,↓reduceIte,rA,rS,rE,rL,reduceCtorEq]
     try refine And.intro (by omega) ?_
     refine (hI _ _).2 ⟨acc ++ [⟨id,v⟩] ++ [c],true,w + 1 + 1,?_,?_,?_,?_,?_,?_,?_,?_,?_,?_⟩
     .exact hw
     .exact by simp; omega
     all_goals exact cl0
   ·have he : ¬ c.group = id:=by omega
    simp only [he,hge,decide_false,bnf,Bool.and_false,bft,if_false,lna,Bool.or_false,<- laa] at hw
    simp -implicitDefEqProofs (disch:=omega) only [h1,h2,h7,h8,h11,h12,h13,hh7_0,hlt,hm,hge,he,go_sem,↓reduceIte,rA,rS,rE,rL,reduceCtorEq]
    try refine And.intro (by omega) ?_
    refine (hI _ _).2 ⟨acc ++ [c],false,w + 1,?_,?_,?_,?_,?_,?_,?_,?_,?_,?_⟩
    .exact hw
    .exact by simp; omega
    all_goals exact cl0
 ·rw [ldl (by omega),withGo] at hw
  cases d with
  | true =>
   simp only [if_true,lan] at hw
   simp -implicitDefEqProofs (disch:=omega) only [h1,h2,h7,h8,h11,h12,h13,hh7_0,hge,go_sem,↓reduceIte,rA,rS,rE,rL,reduceCtorEq]
   rw [hw]
  | false =>
   simp only [bft,if_false] at hw
   simp -implicitDefEqProofs (disch:=omega) only [h1,h2,h7,h8,h11,h12,h13,hh7_0,hge,go_sem,↓reduceIte,rA,rS,rE,rL,reduceCtorEq]
   rw [hw]
   simp [Ch.pv]
def mayA (t : Tr) (a : List Ch) (id now : Int) : Bool:=checkA t a && knownN t.nodes id && decide (ownC a id <= now)
theorem may_eq (t : Tr) (a : List Ch) (id now : Int) (hf : t.Fits) (hn : t.nodes.length < 1000000) (hl : a.length < 1000000) : V 117 [t.vv,.p (chsP a),.p (.int .i64 id),.p (.int .i64 now)] [] = some (.p (.bool (mayA t a id now)),[]):=by
 refine V_wp (vf:=vf117) rfl ?_
 have h1:=icheck_eq t a hf hn hl
 have h2:=known_eq t id hn
 have h3:=get_eq a id hl
 unfold mayA
 cases hc : checkA t a with
 | false =>
  rw [hc] at h1
  simp -implicitDefEqProofs (disch:=omega) only [vf117,vb117,h1,bfa,go_sem,↓reduceIte,rA,rS,rE,rL,reduceCtorEq]
 | true =>
  rw [hc] at h1
  cases hk : knownN t.nodes id with
  | false =>
   rw [hk] at h2
   simp -implicitDefEqProofs (disch:=omega) only [vf117,vb117,h1,h2,bfa,bta,go_sem,↓reduceIte,rA,rS,rE,rL,reduceCtorEq]
  | true =>
   rw [hk] at h2
   simp -implicitDefEqProofs (disch:=omega) only [vf117,vb117,h1,h2,h3,bta,go_sem,↓reduceIte,rA,rS,rE,rL,reduceCtorEq]
def issueV (a : List Ch) (id share cost now margin : Int) : Int:=max (max (ownC a id) (now - margin)) 0 + (cost * 1073741824 + share - 1) / share
def IssueA (t : Tr) (a : List Ch) (id share cost now margin : Int) : List Ch × Int :=
  if checkA t a = true then
    (if knownN t.nodes id = true then
      (if (1 <= share /\ share <= 1073741824) /\ (1 <= cost /\ cost <= 4294967296) /\ (0 <= now /\ now <= 576460752303423488) /\ (0 <= margin /\ margin <= 1073741824) then
        (if now < ownC a id then ([],11) else if 1152921504606846976 < issueV a id share cost now margin then ([],7) else (putA a id (issueV a id share cost now margin),0))
       else ([],3))
     else ([],4))
  else ([],1)
theorem ownC_asc {kn : Int -> Bool} {lo hi : Int} {l : List Ch} (h : AscOk kn lo hi l) (h0 : lo <= 0) (h1 : 0 <= hi) (id : Int) : lo <= ownC l id /\ ownC l id <= hi:=by
 have hr:=h.range
 clear h
 induction l with
 | nil=>simp [ownC,h0,h1]
 | cons c l ih =>
  unfold ownC
  split
  .exact hr c (lms ..)
  .exact ih fun d hd=>hr d (lmc _ hd)
set_option maxHeartbeats 2000000 in
theorem issue_eq (t : Tr) (a : List Ch) (id share cost now margin : Int) (hf : t.Fits) (hn : t.nodes.length < 1000000) (hl : a.length < 1000000) : V 126 [t.vv,.p (chsP a),.p (.int .i64 id),.p (.int .i64 share),.p (.int .i64 cost),.p (.int .i64 now),.p (.int .i64 margin)] [] = some (.tup [.fresh 2 ((IssueA t a id share cost now margin).1.map Ch.pv),.p (.int .i64 (IssueA t a id share cost now margin).2)],[]):=by
 refine V_wp (vf:=vf126) rfl ?_
 have h1 := icheck_eq t a hf hn hl
 have h2 := known_eq t id hn
 have h3 := get_eq a id hl
 have i1 := in_eq share 1 1073741824
 have i2 := in_eq cost 1 4294967296
 have i3 := in_eq now 0 576460752303423488
 have i4 := in_eq margin 0 1073741824
 unfold IssueA
 cases hc : checkA t a with
 | false =>
  rw [hc] at h1
  simp -implicitDefEqProofs (disch:=omega) only [vf126,vb126,h1,go_sem,↓reduceIte,rA,rS,rE,rL,reduceCtorEq]
  try rfl
 | true =>
  rw [hc] at h1
  have hA : AscOk (knownN t.nodes) 0 1152921504606846976 a:=(ascOk_iff _ _ _ _).1 (by
   unfold checkA at hc
   simp only [bat] at hc
   exact hc.2)
  have hown:=ownC_asc hA (by omega) (by omega) id
  rw [if_pos rfl]
  cases hk : knownN t.nodes id with
  | false =>
   rw [hk] at h2
   simp -implicitDefEqProofs (disch:=omega) only [vf126,vb126,h1,h2,go_sem,↓reduceIte,rA,rS,rE,rL,reduceCtorEq]
   try rfl
  | true =>
   rw [hk] at h2
   rw [if_pos rfl]
   by_cases c1 : 1 <= share /\ share <= 1073741824
   ·rw [decide_eq_true c1] at i1
    by_cases c2 : 1 <= cost /\ cost <= 4294967296
    ·rw [decide_eq_true c2] at i2
     by_cases c3 : 0 <= now /\ now <= 576460752303423488
     ·rw [decide_eq_true c3] at i3
      by_cases c4 : 0 <= margin /\ margin <= 1073741824
      ·rw [decide_eq_true c4] at i4
       rw [if_pos ⟨c1,c2,c3,c4⟩]
       have hp:=iput_eq a id (issueV a id share cost now margin) hl
       have hnn : 0 <= cost * 1073741824 + share - 1:=by omega
       have hq:=Int.tdiv_eq_ediv_of_nonneg (b:=share) hnn
       have hq1 : (cost * 1073741824 + share - 1) / share <= cost * 1073741824 + share - 1:=Int.ediv_le_self _ hnn
       have hq0 : 0 <= (cost * 1073741824 + share - 1) / share:=Int.ediv_nonneg hnn (by omega)
       unfold issueV at hp ⊢
       generalize ownC a id = o at h3 hown hp
       generalize (cost * 1073741824 + share - 1) / share = z at hq hq0 hq1 hp
       by_cases c5 : now < o
       ·rw [if_pos c5]
        simp -implicitDefEqProofs (disch:=omega) only [vf126,vb126,h1,h2,h3,i1,i2,i3,i4,c5,go_sem,↓reduceIte,rA,rS,rE,rL,reduceCtorEq]
        try rfl
       ·rw [if_neg c5]
        have hw1 : IntKind.i64.wrap (cost * 1073741824) = cost * 1073741824:=wrap64 (by omega) (by omega)
        have hne : share ≠ 0:=by omega
        generalize hm : max (max o (now - margin)) 0 = M at hp
        have hM : 0 <= M /\ M <= 1152921504606846976:=by omega
        by_cases c6 : 1152921504606846976 < M + z
        ·rw [if_pos c6]
         simp -implicitDefEqProofs (disch:=omega) only [vf126,vb126,h1,h2,h3,i1,i2,i3,i4,c5,hw1,hne,hq,hm,c6,go_sem,↓reduceIte,rA,rS,rE,rL,reduceCtorEq]
         try rfl
        ·rw [if_neg c6]
         generalize putA a id (M + z) = PA at hp
         simp -implicitDefEqProofs (disch:=omega) only [vf126,vb126,h1,h2,h3,i1,i2,i3,i4,c5,hw1,hne,hq,hm,c6,hp,go_sem,↓reduceIte,rA,rS,rE,rL,reduceCtorEq]
         try rfl
      ·rw [decide_eq_false c4] at i4
       rw [if_neg (fun h=>c4 h.2.2.2)]
       simp -implicitDefEqProofs (disch:=omega) only [vf126,vb126,h1,h2,i1,i2,i3,i4,go_sem,↓reduceIte,rA,rS,rE,rL,reduceCtorEq]
       try rfl
     ·rw [decide_eq_false c3] at i3
      rw [if_neg (fun h=>c3 h.2.2.1)]
      simp -implicitDefEqProofs (disch:=omega) only [vf126,vb126,h1,h2,i1,i2,i3,go_sem,↓reduceIte,rA,rS,rE,rL,reduceCtorEq]
      try rfl
    ·rw [decide_eq_false c2] at i2
     rw [if_neg (fun h=>c2 h.2.1)]
     simp -implicitDefEqProofs (disch:=omega) only [vf126,vb126,h1,h2,i1,i2,go_sem,↓reduceIte,rA,rS,rE,rL,reduceCtorEq]
     try rfl
   ·rw [decide_eq_false c1] at i1
    rw [if_neg (fun h=>c1 h.1)]
    simp -implicitDefEqProofs (disch:=omega) only [vf126,vb126,h1,h2,i1,go_sem,↓reduceIte,rA,rS,rE,rL,reduceCtorEq]
    try rfl
def Rep3 (ks : List MKey) (vs : List PV) (on : Int -> Bool) : Prop:=∀ id,mget ks vs (.int id) = if on id = true then some (.bool true) else none
theorem Rep3.put {ks : List MKey} {vs : List PV} {on : Int -> Bool} (h : Rep3 ks vs on) (g : Int) : Rep3 (mput ks vs (.int g) (.bool true)).1 (mput ks vs (.int g) (.bool true)).2 (fun x=>on x || decide (x = g)):=by
 intro id
 rw [mget_mput]
 by_cases hg : id = g
 ·subst hg
  simp
 ·simp [hg]
  exact h id
theorem Rep3.congr {ks : List MKey} {vs : List PV} {on on' : Int -> Bool} (h : Rep3 ks vs on) (he : ∀ x,on x = on' x) : Rep3 ks vs on':=fun id=>by rw [<- he]; exact h id
set_option maxHeartbeats 1000000 in
theorem busy_eq (t : Tr) (active : List Int) (hn : t.nodes.length < 1000000) (ha : active.length < 1000000) : ∃ ks vs,V 227 [t.vv,.p (intsP active)] [] = some (.p (.map (.int .i64) ks vs),[]) /\ Rep3 ks vs (onB t active):=by
 suffices hw : wp (callF V vf227 [t.vv,.p (intsP active)] []) (fun r=>∃ ks vs,r = (.p (.map (.int .i64) ks vs),[]) /\ Rep3 ks vs (onB t active)) by
  obtain ⟨r,hr,ks,vs,rfl,hrep⟩:=hw
  exact ⟨ks,vs,V_fix (vf:=vf227) rfl hr,hrep⟩
 simp -implicitDefEqProofs (disch:=omega) only [vf227,vb227,go_sem,↓reduceIte,rA,rS,rE,rL,reduceCtorEq]
 obtain ⟨I,hI⟩ : ∃ I : Nat -> St -> Prop,∀ k s,I k s ↔ ∃ (ks : List MKey) (vs : List PV),Rep3 ks vs (onB t (active.take k)) /\ s.pe 2 = .ptr (.slot 2 0) 0 0 /\ s.pe 5 = .mref (.slot 10 0) 0 /\ s.pe 11 = .p (intsP active) /\ s.pe 12 = .p (.int .i64 ↑active.length) /\ s.pe 13 = .p (.int .i64 k) /\ s.h (.slot 2 0) = some (0,Ob.box [.p (nodesP t.nodes),.p (.int .i64 t.next)]) /\ s.h (.slot 10 0) = some (0,Ob.map (KT.int IntKind.i64) ks vs):=⟨_,fun _ _=>Iff.rfl⟩
 refine wp_count (active.length) I ?_ ?_
 ·refine (hI _ _).2 ⟨[],[],?_,?_,?_,?_,?_,?_,?_,?_⟩
  ·exact fun id=>rfl
  all_goals first | exact cl0 | (simp -implicitDefEqProofs (disch:=omega) only [lma,go_sem,↓reduceIte,rA,rS,rE,rL,reduceCtorEq] <;> first | (simp [sumI]; done) | (simp [sumI]; omega))
 intro k s hk hIk
 obtain ⟨ks,vs,hrep,h2,h5,h11,h12,h13,hh2_0,hh10_0⟩:=(hI _ _).1 hIk
 clear hIk
 simp -implicitDefEqProofs (disch:=omega) only [h2,h5,h11,h12,h13,hh2_0,hh10_0,go_sem,↓reduceIte,rA,rS,rE,rL,reduceCtorEq]
 refine wp_if_d (fun hlt=>?_) (fun hge=>?_)
 ·have hm : active[k]? = some active[k]:=lgg hlt
  generalize active[k] = g at hm
  have hst : ∀ x,onB t (active.take (k + 1)) x = (onB t (active.take k) x || decide (x ∈ ancF t.nodes t.nodes.length g)):=fun x=>by
   unfold onB
   rw [any_take hm]
  have c1:=fanc_eq t g hn
  have hal:=ancF_length t.nodes t.nodes.length g
  generalize ancF t.nodes t.nodes.length g = A at c1 hst hal
  simp -implicitDefEqProofs (disch:=omega) only [h2,h5,h11,h12,h13,hh2_0,hh10_0,hlt,hm,c1,go_sem,↓reduceIte,rA,rS,rE,rL,reduceCtorEq]
  obtain ⟨J,hJ⟩ : ∃ I : Nat -> St -> Prop,∀ j s,I j s ↔ ∃ (ks : List MKey) (vs : List PV) (v19_1 : Nat),Rep3 ks vs (fun x=>onB t (active.take k) x || decide (x ∈ A.take j)) /\ s.pe 2 = .ptr (.slot 2 0) 0 0 /\ s.pe 5 = .mref (.slot 10 0) 0 /\ s.pe 11 = .p (intsP active) /\ s.pe 12 = .p (.int .i64 ↑active.length) /\ s.pe 13 = .p (.int .i64 ↑k) /\ s.pe 19 = .own (.slot 19 1) v19_1 0 A.length /\ s.pe 20 = .p (.int .i64 ↑A.length) /\ s.pe 21 = .p (.int .i64 j) /\ s.h (.slot 2 0) = some (0,Ob.box [.p (nodesP t.nodes),.p (.int .i64 t.next)]) /\ s.h (.slot 10 0) = some (0,Ob.map (KT.int IntKind.i64) ks vs) /\ s.h (.slot 19 1) = some (v19_1,Ob.arr 1 (List.map (.int .i64) A)):=⟨_,fun _ _=>Iff.rfl⟩
  refine wp_count (A.length) J ?_ ?_
  ·refine (hJ _ _).2 ⟨ks,vs,nv (fzOb [19] s.h (.slot 19 1)),?_,?_,?_,?_,?_,?_,?_,?_,?_,?_,?_,?_⟩
   .exact hrep.congr fun x=>by simp
   all_goals first | exact cl0 | (simp -implicitDefEqProofs (disch:=omega) only [h2,h5,h11,h12,h13,hh2_0,hh10_0,lma,go_sem,↓reduceIte,rA,rS,rE,rL,reduceCtorEq] <;> first | (simp [sumI]; done) | (simp [sumI]; omega))
  intro j s hj hJk
  obtain ⟨ks,vs,v19_1,hrepj,h2,h5,h11,h12,h13,h19,h20,h21,hh2_0,hh10_0,hh19_1⟩:=(hJ _ _).1 hJk
  clear hJk
  simp -implicitDefEqProofs (disch:=omega) only [h2,h5,h11,h12,h13,h19,h20,h21,hh2_0,hh10_0,hh19_1,go_sem,↓reduceIte,rA,rS,rE,rL,reduceCtorEq]
  refine wp_if_d (fun hjl=>?_) (fun hjg=>?_)
  ·have hx : A[j]? = some A[j]:=lgg hjl
   have htk : A.take (j + 1) = A.take j ++ [A[j]]:=by rw [List.take_add_one,hx]; rfl
   generalize A[j] = x at hx htk
   have hnext:=hrepj.put x
   simp -implicitDefEqProofs (disch:=omega) only [h2,h5,h11,h12,h13,h19,h20,h21,hh2_0,hh10_0,hh19_1,hjl,hx,go_sem,↓reduceIte,rA,rS,rE,rL,reduceCtorEq]
   try refine And.intro (by omega) ?_
   refine (hJ _ _).2 ⟨(mput ks vs (.int x) (.bool true)).1,(mput ks vs (.int x) (.bool true)).2,v19_1,?_,?_,?_,?_,?_,?_,?_,?_,?_,?_,?_,?_⟩
   .exact hnext.congr fun y=>by rw [htk]; simp [Bool.or_assoc]
   all_goals first | exact cl0 | (simp -implicitDefEqProofs (disch:=omega) only [h2,h5,h11,h12,h13,h19,h20,h21,hh2_0,hh10_0,hh19_1,lma,go_sem,↓reduceIte,rA,rS,rE,rL,reduceCtorEq] <;> first | (simp [sumI]; done) | (simp [sumI]; omega))
  ·rw [show A.take j = A from ltl (by omega)] at hrepj
   simp -implicitDefEqProofs (disch:=omega) only [h2,h5,h11,h12,h13,h19,h20,h21,hh2_0,hh10_0,hh19_1,hjg,go_sem,↓reduceIte,rA,rS,rE,rL,reduceCtorEq]
   try refine And.intro (by omega) ?_
   refine (hI _ _).2 ⟨ks,vs,?_,?_,?_,?_,?_,?_,?_,?_⟩
   .exact hrepj.congr fun y=>(hst y).symm
   all_goals first | exact cl0 | (simp -implicitDefEqProofs (disch:=omega) only [h2,h5,h11,h12,h13,hh2_0,hh10_0,lma,go_sem,↓reduceIte,rA,rS,rE,rL,reduceCtorEq] <;> first | (simp [sumI]; done) | (simp [sumI]; omega))
 ·rw [ltl (by omega)] at hrep
  simp -implicitDefEqProofs (disch:=omega) only [h2,h5,h11,h12,h13,hh2_0,hh10_0,hge,go_sem,↓reduceIte,rA,rS,rE,rL,reduceCtorEq]
  exact ⟨_,_,rfl,hrep⟩
theorem length_flatMap_le {α β γ : Type} {f : α -> List β} {g : α -> List γ} : ∀ (l : List α),(∀ x ∈ l,(f x).length <= (g x).length) -> (l.flatMap f).length <= (l.flatMap g).length
 | [],_=>lrf _
 | x :: l,h=>by
  have h1:=h x (lms ..)
  have h2:=length_flatMap_le l fun y hy=>h y (lmc _ hy)
  simp only [lfc,lla]
  omega
theorem sharesF_succ (t : Tr) (w : Int -> Int) (on : Int -> Bool) (k : Nat) (id s : Int) : sharesF t w on (k + 1) id s = if on id = true then ⟨id,s⟩ :: (kidsN t.nodes id).flatMap (fun c=>if on c = true then sharesF t w on k c (max 1 (s * w c / sumW t w on id)) else []) else []:=rfl
theorem sharesF_len (t : Tr) (w : Int -> Int) (on : Int -> Bool) : ∀ (k : Nat) (id s : Int),(sharesF t w on k id s).length <= (subF t.nodes k id).length
 | 0,_,_=>lrf _
 | k + 1,id,s=>by
  unfold sharesF subF
  split
  ·simp only [llc]
   have:=length_flatMap_le (f:=fun c=>if on c = true then sharesF t w on k c (max 1 (s * w c / sumW t w on id)) else []) (g:=subF t.nodes k) (kidsN t.nodes id) fun x _=>by
    split
    .exact sharesF_len t w on k x _
    .exact Nat.zero_le _
   omega
  .exact Nat.zero_le _
theorem filter_stepI {p : Int -> Bool} {l : List Int} {k : Nat} {m : Int} (hm : l[k]? = some m) : (l.take (k + 1)).filter p = if p m = true then (l.take k).filter p ++ [m] else (l.take k).filter p:=by
 rw [List.take_add_one,hm]
 simp only [Option.toList,List.filter_append,lfl,List.filter_nil]
 split <;> simp
set_option maxHeartbeats 4000000 in
theorem shares_eq0 {t : Tr} (h : TreeOk t) {l : List Ch} (hl : AscOk (knownN t.nodes) 1 10000 l) (hll : l.length < 1000000) {ks : List MKey} {vs : List PV} {on : Int -> Bool} (hrep : Rep3 ks vs on) : ∀ (f i : Nat) (n : Nd) (u0 : Int),t.nodes[i]? = some n -> t.nodes.length <= i + f -> 0 <= u0 -> u0 <= 1073741824 ->
  V 226 [t.vv,.p (chsP l),.p (.map (.int .i64) ks vs),.p (.int .i64 n.id),.p (.int .i64 u0)] [] = some (.fresh 2 ((sharesF t (wtOf l) on f n.id u0).map Ch.pv),[]):=by
 intro f
 induction f with
 | zero =>
  intro i n u0 hn hf
  have := (lgs.1 hn).1
  omega
 | succ f ih =>
  intro i n u0 hn hf hs0 hs1
  refine V_wp (vf:=vf226) rfl ?_
  have hlen:=h.len
  have hr:=hrep n.id
  have hw : WtOk l:=fun c hc=>hl.range c hc
  have hsub:=subF_length h hn (k:=f + 1) (by omega)
  have hsl:=sharesF_len t (wtOf l) on (f + 1) n.id u0
  rw [sharesF_succ] at hsl ⊢
  cases hon : on n.id with
  | false =>
   simp only [hon,bft,if_false] at hr
   simp -implicitDefEqProofs (disch:=omega) only [vf226,vb226,hr,Option.getD_none,go_sem,↓reduceIte,rA,rS,rE,rL,reduceCtorEq]
   try rfl
  | true =>
   simp only [hon,if_true] at hr hsl
   rw [if_pos rfl]
   have hkd:=fkids_eq t n.id (by omega)
   have hkid:=fun x (hx : x ∈ kidsN t.nodes n.id)=>mem_kidsN.1 hx
   have hkl : (kidsN t.nodes n.id).length <= t.nodes.length:=by
    rw [kidsN,llm]
    exact List.length_filter_le _ _
   have hW : sumW t (wtOf l) on n.id = sumI (((kidsN t.nodes n.id).filter on).map (wtOf l)):=rfl
   generalize sumW t (wtOf l) on n.id = W at hsl hW
   generalize kidsN t.nodes n.id = A at hkd hkid hkl hW hsl
   have hbound : ∀ k,0 <= sumI (((A.take k).filter on).map (wtOf l)) /\ sumI (((A.take k).filter on).map (wtOf l)) <= k * 10000:=by
    intro k
    induction k with
    | zero=>simp [sumI]
    | succ k ihk =>
     rcases Nat.lt_or_ge k A.length with hlt | hge
     ·have hx : A[k]? = some A[k]:=lgg hlt
      rw [filter_stepI hx]
      have:=wtOf_range hw A[k]
      split
      ·rw [lma,sumI_append]
       simp only [lpc,lpn,sumI]
       omega
      ·omega
     ·rw [ltl (by omega)] at ihk ⊢
      omega
   simp -implicitDefEqProofs (disch:=omega) only [vf226,vb226,hr,hkd,Option.getD_some,go_sem,↓reduceIte,rA,rS,rE,rL,reduceCtorEq]
   obtain ⟨I,hI⟩ : ∃ I : Nat -> St -> Prop,∀ k s,I k s ↔ True /\ s.pe 1 = .p (chsP l) /\ s.pe 2 = .p (PV.map (KT.int IntKind.i64) ks vs) /\ s.pe 3 = .p (.int .i64 n.id) /\ s.pe 4 = .p (.int .i64 u0) /\ s.pe 5 = .ptr (.slot 5 0) 0 0 /\ s.pe 11 = .own (.slot 24 0) 0 0 1 /\ s.pe 12 = .p (.int .i64 (sumI (((A.take k).filter on).map (wtOf l)))) /\ s.pe 27 = .own (.slot 27 1) 0 0 A.length /\ s.pe 28 = .p (.int .i64 ↑A.length) /\ s.pe 29 = .p (.int .i64 k) /\ s.h (.slot 5 0) = some (0,Ob.box [.p (nodesP t.nodes),.p (.int .i64 t.next)]) /\ s.h (.slot 24 0) = some (0,Ob.arr 2 [PV.agg [PV.int IntKind.i64 n.id,PV.int IntKind.i64 u0]]) /\ s.h (.slot 27 1) = some (0,Ob.arr 1 (List.map (.int .i64) A)):=⟨_,fun _ _=>Iff.rfl⟩
   refine wp_count (A.length) I ?_ ?_
   ·refine (hI _ _).2 ⟨?_,?_,?_,?_,?_,?_,?_,?_,?_,?_,?_,?_,?_,?_⟩
    ·exact trivial
    all_goals first | exact cl0 | (simp -implicitDefEqProofs (disch:=omega) only [h2,h5,h11,h12,h13,hh2_0,hh10_0,lma,go_sem,↓reduceIte,rA,rS,rE,rL,reduceCtorEq] <;> first | (simp [sumI]; done) | (simp [sumI]; omega))
   intro k s hk hIk
   obtain ⟨hdum,h1,h2,h3,h4,h5,h11,h12,h27,h28,h29,hh5_0,hh24_0,hh27_1⟩:=(hI _ _).1 hIk
   clear hIk
   have hb1:=hbound (k + 1)
   have hb0:=hbound k
   simp -implicitDefEqProofs (disch:=omega) only [h1,h2,h3,h4,h5,h11,h12,h27,h28,h29,hh5_0,hh24_0,hh27_1,go_sem,↓reduceIte,rA,rS,rE,rL,reduceCtorEq]
   refine wp_if_d (fun hlt=>?_) (fun hge=>?_)
   ·have hm : A[k]? = some A[k]:=lgg hlt
    generalize A[k] = c at hm
    have hst:=filter_stepI (p:=on) hm
    have hrc:=hrep c
    have hwt:=wt_eq l c hll
    have hwr:=wtOf_range hw c
    cases hoc : on c with
    | false =>
     simp only [hoc,bft,if_false] at hst hrc
     simp -implicitDefEqProofs (disch:=omega) only [h1,h2,h3,h4,h5,h11,h12,h27,h28,h29,hh5_0,hh24_0,hh27_1,hlt,hm,hrc,Option.getD_none,go_sem,↓reduceIte,rA,rS,rE,rL,reduceCtorEq]
     try refine And.intro (by omega) ?_
     refine (hI _ _).2 ⟨?_,?_,?_,?_,?_,?_,?_,?_,?_,?_,?_,?_,?_,?_⟩
     ·exact trivial
     all_goals first | exact cl0 | (simp -implicitDefEqProofs (disch:=omega) only [h1,h2,h3,h4,h5,h11,h12,h27,h28,h29,hh5_0,hh24_0,hh27_1,hst,lma,go_sem,↓reduceIte,rA,rS,rE,rL,reduceCtorEq] <;> first | (simp [sumI]; done) | (simp [sumI]; omega))
    | true =>
     simp only [hoc,if_true] at hst hrc
     rw [hst,lma,sumI_append] at hb1
     simp only [lpc,lpn,sumI,Int.add_zero] at hb1
     have hsum : sumI (((A.take (k + 1)).filter on).map (wtOf l)) = sumI (((A.take k).filter on).map (wtOf l)) + wtOf l c:=by
      rw [hst,lma,sumI_append]
      simp [sumI]
     generalize sumI (((A.take k).filter on).map (wtOf l)) = S at h12 hb0 hb1 hsum
     generalize wtOf l c = y at hwt hwr hb1 hsum
     simp -implicitDefEqProofs (disch:=omega) only [h1,h2,h3,h4,h5,h11,h12,h27,h28,h29,hh5_0,hh24_0,hh27_1,hlt,hm,hrc,hwt,Option.getD_some,go_sem,↓reduceIte,rA,rS,rE,rL,reduceCtorEq]
     try refine And.intro (by omega) ?_
     refine (hI _ _).2 ⟨?_,?_,?_,?_,?_,?_,?_,?_,?_,?_,?_,?_,?_,?_⟩
     ·exact trivial
     all_goals first | exact cl0 | (simp -implicitDefEqProofs (disch:=omega) only [h1,h2,h3,h4,h5,h11,h12,h27,h28,h29,hh5_0,hh24_0,hh27_1,hsum,lma,go_sem,↓reduceIte,rA,rS,rE,rL,reduceCtorEq] <;> first | (simp [sumI]; done) | (simp [sumI]; omega))
   ·rw [ltl (by omega),<- hW] at h12
    rw [ltl (by omega),<- hW] at hb0
    obtain ⟨T,hT⟩ : ∃ T,T = (⟨n.id,u0⟩ : Ch) :: A.flatMap fun c=>if on c = true then sharesF t (wtOf l) on f c (max 1 (u0 * wtOf l c / W)) else []:=⟨_,rfl⟩
    rw [<- hT] at hsl ⊢
    simp -implicitDefEqProofs (disch:=omega) only [h1,h2,h3,h4,h5,h11,h12,h27,h28,h29,hh5_0,hh24_0,hh27_1,hge,hkd,go_sem,↓reduceIte,rA,rS,rE,rL,reduceCtorEq]
    obtain ⟨J,hJ⟩ : ∃ I : Nat -> St -> Prop,∀ j s,I j s ↔ ∃ (acc : List Ch) (w : Nat) (v44_1 : Nat),(T = acc ++ (A.drop j).flatMap fun c=>if on c = true then sharesF t (wtOf l) on f c (max 1 (u0 * wtOf l c / W)) else []) /\ s.pe 1 = .p (chsP l) /\ s.pe 2 = .p (PV.map (KT.int IntKind.i64) ks vs) /\ s.pe 4 = .p (.int .i64 u0) /\ s.pe 5 = .ptr (.slot 5 0) 0 0 /\ s.pe 11 = .own (.slot 24 0) w 0 acc.length /\ s.pe 12 = .p (.int .i64 W) /\ s.pe 44 = .own (.slot 44 1) v44_1 0 A.length /\ s.pe 45 = .p (.int .i64 ↑A.length) /\ s.pe 46 = .p (.int .i64 j) /\ s.h (.slot 5 0) = some (0,Ob.box [.p (nodesP t.nodes),.p (.int .i64 t.next)]) /\ s.h (.slot 24 0) = some (w,Ob.arr 2 (acc.map Ch.pv)) /\ s.h (.slot 44 1) = some (v44_1,Ob.arr 1 (List.map (.int .i64) A)):=⟨_,fun _ _=>Iff.rfl⟩
    refine wp_count (A.length) J ?_ ?_
    ·refine (hJ _ _).2 ⟨[⟨n.id,u0⟩],0,nv (s.h (.slot 44 1)),?_,?_,?_,?_,?_,?_,?_,?_,?_,?_,?_,?_,?_⟩
     ·exact hT
     all_goals first | exact cl0 | (simp -implicitDefEqProofs (disch:=omega) only [h1,h2,h3,h4,h5,h11,h12,h27,h28,h29,hh5_0,hh24_0,hh27_1,lma,go_sem,↓reduceIte,rA,rS,rE,rL,reduceCtorEq] <;> first | (simp [sumI]; done) | (simp [sumI]; omega))
    intro j s hj hJk
    obtain ⟨acc,w,v44_1,htj,h1,h2,h4,h5,h11,h12,h44,h45,h46,hh5_0,hh24_0,hh44_1⟩:=(hJ _ _).1 hJk
    clear hJk
    have hTl:=congrArg List.length htj
    rw [lla] at hTl
    simp -implicitDefEqProofs (disch:=omega) only [h1,h2,h4,h5,h11,h12,h44,h45,h46,hh5_0,hh24_0,hh44_1,go_sem,↓reduceIte,rA,rS,rE,rL,reduceCtorEq]
    refine wp_if_d (fun hjl=>?_) (fun hjg=>?_)
    ·have hx : A[j]? = some A[j]:=lgg hjl
     have hd : A.drop j = A[j] :: A.drop (j + 1):=ldg hjl
     generalize A[j] = c at hx hd
     have hrc:=hrep c
     have hwt:=wt_eq l c hll
     have hwr:=wtOf_range hw c
     rw [hd,lfc] at htj
     cases hoc : on c with
     | false =>
      simp only [hoc,bft,if_false,lna] at htj hrc
      simp -implicitDefEqProofs (disch:=omega) only [h1,h2,h4,h5,h11,h12,h44,h45,h46,hh5_0,hh24_0,hh44_1,hjl,hx,hrc,Option.getD_none,go_sem,↓reduceIte,rA,rS,rE,rL,reduceCtorEq]
      try refine And.intro (by omega) ?_
      refine (hJ _ _).2 ⟨acc,w,v44_1,?_,?_,?_,?_,?_,?_,?_,?_,?_,?_,?_,?_,?_⟩
      ·exact htj
      all_goals first | exact cl0 | (simp -implicitDefEqProofs (disch:=omega) only [h1,h2,h4,h5,h11,h12,h44,h45,h46,hh5_0,hh24_0,hh44_1,lma,go_sem,↓reduceIte,rA,rS,rE,rL,reduceCtorEq] <;> first | (simp [sumI]; done) | (simp [sumI]; omega))
     | true =>
      simp only [hoc,if_true] at htj hrc
      obtain ⟨q,m,hm,hmp,rfl⟩:=hkid c (lmg hx)
      have hlt:=h.kid hn hm hmp
      have hWc : wtOf l m.id <= W:=by
       rw [hW]
       exact sumI_mem_le _ (fun y _=>by have:=wtOf_range hw y; omega) (List.mem_filter.2 ⟨lmg hx,hoc⟩)
      have hdv:=div_le_self' (s:=u0) (w:=wtOf l m.id) (W:=W) hs0 (by omega) hWc (by omega)
      have hd0 : 0 <= u0 * wtOf l m.id / W:=Int.ediv_nonneg (Int.mul_nonneg hs0 (by omega)) (by omega)
      have hmul0 : 0 <= u0 * wtOf l m.id:=Int.mul_nonneg hs0 (by omega)
      have hmul1 : u0 * wtOf l m.id <= 1073741824 * 10000:=Int.mul_le_mul hs1 hwr.2 (by omega) (by omega)
      have htd:=Int.tdiv_eq_ediv_of_nonneg (b:=W) hmul0
      have hrec:=ih q m (max 1 (u0 * wtOf l m.id / W)) hm (by omega) (by omega) (by omega)
      have hwm : IntKind.i64.wrap (u0 * wtOf l m.id) = u0 * wtOf l m.id:=wrap64 (by omega) (by omega)
      have hWne : W ≠ 0:=by omega
      rw [hd,lfc,hoc,if_pos rfl,lla] at hTl
      generalize sharesF t (wtOf l) on f m.id (max 1 (u0 * wtOf l m.id / W)) = R at hrec htj hTl
      generalize wtOf l m.id = y at hwt hwm htd hrec hd0 hdv hmul0 hmul1
      have hwz : IntKind.i64.wrap (u0 * y / W) = u0 * y / W:=by
       generalize u0 * y / W = z at hd0 hdv
       exact wrap64 (by omega) (by omega)
      simp -implicitDefEqProofs (disch:=omega) only [h1,h2,h4,h5,h11,h12,h44,h45,h46,hh5_0,hh24_0,hh44_1,hjl,hx,hrc,hwt,hwm,htd,hwz,hWne,hrec,Option.getD_some,go_sem,↓reduceIte,rA,rS,rE,rL,reduceCtorEq]
      try refine And.intro (by omega) ?_
      refine (hJ _ _).2 ⟨acc ++ R,w + 1,v44_1,?_,?_,?_,?_,?_,?_,?_,?_,?_,?_,?_,?_,?_⟩
      .exact by rw [htj]; simp
      all_goals first | exact cl0 | (simp -implicitDefEqProofs (disch:=omega) only [h1,h2,h4,h5,h11,h12,h44,h45,h46,hh5_0,hh24_0,hh44_1,lma,go_sem,↓reduceIte,rA,rS,rE,rL,reduceCtorEq] <;> first | (simp [sumI]; done) | (simp [sumI]; omega))
    ·rw [ldl (by omega)] at htj
     simp only [List.flatMap_nil,lan] at htj
     rw [htj]
     simp -implicitDefEqProofs (disch:=omega) only [h1,h2,h4,h5,h11,h12,h44,h45,h46,hh5_0,hh24_0,hh44_1,hjg,go_sem,↓reduceIte,rA,rS,rE,rL,reduceCtorEq]
theorem root_anc {t : Tr} (h : TreeOk t) : ∀ (j : Nat) (m : Nd),t.nodes[j]? = some m -> (1 : Int) ∈ ancF t.nodes t.nodes.length m.id:=by
 intro j
 induction j using Nat.strongRecOn with
 | _ j ih =>
  intro m hm
  rcases h.nodeAt hm with ⟨_,h1,_⟩ | ⟨_,_,i,p,hi,hp,hpe⟩
  .rw [<- h1]; exact anc_self h hm
  .exact (anc_iff h hm _).2 (Or.inr ⟨by omega,by rw [<- hpe]; exact ih i hi p hp⟩)
def Rep4 (ks : List MKey) (vs : List PV) (L : List Ch) (sh : Int -> Int) : Prop:=∀ id,mget ks vs (.int id) = if (L.any fun x=>decide (x.group = id)) = true then some (.int .i64 (sh id)) else none
theorem Rep4.put {ks : List MKey} {vs : List PV} {L : List Ch} {sh : Int -> Int} (h : Rep4 ks vs L sh) {c : Ch} (hc : c.own = sh c.group) : Rep4 (mput ks vs (.int c.group) (.int .i64 c.own)).1 (mput ks vs (.int c.group) (.int .i64 c.own)).2 (L ++ [c]) sh:=by
 intro id
 rw [mget_mput]
 by_cases hg : id = c.group
 ·subst hg
  simp [hc]
 ·have hg' : ¬ c.group = id:=fun he=>hg he.symm
  simp only [hg',MKey.int.injEq,hg,if_false,List.any_append,List.any_cons,List.any_nil,decide_false,Bool.or_false]
  exact h id
set_option maxHeartbeats 1000000 in
theorem of_eq {t : Tr} (h : TreeOk t) {l : List Ch} (hl : AscOk (knownN t.nodes) 1 10000 l) (hll : l.length < 1000000) (active : List Int) (ha : active.length < 1000000) : ∃ ks vs,V 186 [t.vv,.p (chsP l),.p (intsP active)] [] = some (.p (.map (.int .i64) ks vs),[]) /\
  ∀ (i : Nat) (n : Nd),t.nodes[i]? = some n -> i ≠ 0 -> (mget ks vs (.int n.id)).getD (.int .i64 0) = .int .i64 (shr t (wtOf l) (onB t active) n.id):=by
 have hlen:=h.len
 obtain ⟨r,hr,hr1⟩:=root_at h
 have hu:=onB_up h active
 obtain ⟨kb,vb,hb,hrep⟩:=busy_eq t active (by omega) ha
 have hsh:=shares_eq0 h hl hll hrep t.nodes.length 0 r 1073741824 hr (by omega) (by omega) (by omega)
 have hroot:=shr_root t h (wtOf l) (onB t active)
 have hval:=sharesF_val h (wtOf l) (onB t active) t.nodes.length 0 r hr
 have hall:=sharesF_all h (wtOf l) hu t.nodes.length 0 r 1073741824 hr (by omega)
 have hsub:=subF_length h hr (k:=t.nodes.length) (by omega)
 have hsl:=sharesF_len t (wtOf l) (onB t active) t.nodes.length r.id 1073741824
 rw [hr1] at hsh hval hall hsl hsub
 rw [hroot] at hval
 generalize sharesF t (wtOf l) (onB t active) t.nodes.length 1 1073741824 = S at hsh hval hall hsl
 suffices hw : wp (callF V vf186 [t.vv,.p (chsP l),.p (intsP active)] []) (fun r=>∃ ks vs,r = (.p (.map (.int .i64) ks vs),[]) /\ Rep4 ks vs S (shr t (wtOf l) (onB t active))) by
  obtain ⟨q,hq,ks,vs,rfl,hrep4⟩:=hw
  refine ⟨ks,vs,V_fix (vf:=vf186) rfl hq,fun i n hn hi=>?_⟩
  rw [hrep4 n.id]
  by_cases hon : onB t active n.id = true
  ·obtain ⟨x,hx,hxe⟩:=hall i n hn hon (root_anc h i n hn)
   rw [if_pos (List.any_eq_true.2 ⟨x,hx,decide_eq_true hxe⟩)]
   rfl
  ·rw [if_neg]
   ·rw [shr_step h _ _ hn hi,if_neg hon]
    rfl
   ·intro hany
    obtain ⟨x,hx,hxe⟩:=List.any_eq_true.1 hany
    have:=(hval x hx).1
    rw [of_decide_eq_true hxe] at this
    exact hon this
 simp -implicitDefEqProofs (disch:=omega) only [vf186,vb186,hb,hsh,go_sem,↓reduceIte,rA,rS,rE,rL,reduceCtorEq]
 obtain ⟨I,hI⟩ : ∃ I : Nat -> St -> Prop,∀ k s,I k s ↔ ∃ (ks : List MKey) (vs : List PV),Rep4 ks vs (S.take k) (shr t (wtOf l) (onB t active)) /\ s.pe 7 = .mref (.slot 10 0) 0 /\ s.pe 16 = .own (.slot 16 1) 0 0 S.length /\ s.pe 17 = .p (.int .i64 ↑S.length) /\ s.pe 18 = .p (.int .i64 k) /\ s.h (.slot 10 0) = some (0,Ob.map (KT.int IntKind.i64) ks vs) /\ s.h (.slot 16 1) = some (0,Ob.arr 2 (List.map Ch.pv S)):=⟨_,fun _ _=>Iff.rfl⟩
 refine wp_count (S.length) I ?_ ?_
 ·refine (hI _ _).2 ⟨[],[],?_,?_,?_,?_,?_,?_,?_⟩
  .exact fun id=>rfl
  all_goals first | exact cl0 | (simp -implicitDefEqProofs (disch:=omega) only [lma,go_sem,↓reduceIte,rA,rS,rE,rL,reduceCtorEq] <;> first | (simp [sumI]; done) | (simp [sumI]; omega))
 intro k s hk hIk
 obtain ⟨ks,vs,hrep4,h7,h16,h17,h18,hh10_0,hh16_1⟩:=(hI _ _).1 hIk
 clear hIk
 simp -implicitDefEqProofs (disch:=omega) only [h7,h16,h17,h18,hh10_0,hh16_1,go_sem,↓reduceIte,rA,rS,rE,rL,reduceCtorEq]
 refine wp_if_d (fun hlt=>?_) (fun hge=>?_)
 ·have hm : S[k]? = some S[k]:=lgg hlt
  have htk : S.take (k + 1) = S.take k ++ [S[k]]:=by rw [List.take_add_one,hm]; rfl
  generalize S[k] = c at hm htk
  have hnext:=hrep4.put (hval c (lmg hm)).2
  rw [<- htk] at hnext
  simp -implicitDefEqProofs (disch:=omega) only [h7,h16,h17,h18,hh10_0,hh16_1,hlt,hm,go_sem,↓reduceIte,rA,rS,rE,rL,reduceCtorEq]
  try refine And.intro (by omega) ?_
  refine (hI _ _).2 ⟨(mput ks vs (.int c.group) (.int .i64 c.own)).1,(mput ks vs (.int c.group) (.int .i64 c.own)).2,?_,?_,?_,?_,?_,?_,?_⟩
  .exact hnext
  all_goals first | exact cl0 | (simp -implicitDefEqProofs (disch:=omega) only [h7,h16,h17,h18,hh10_0,hh16_1,lma,go_sem,↓reduceIte,rA,rS,rE,rL,reduceCtorEq] <;> first | (simp [sumI]; done) | (simp [sumI]; omega))
 ·rw [ltl (by omega)] at hrep4
  simp -implicitDefEqProofs (disch:=omega) only [h7,h16,h17,h18,hh10_0,hh16_1,hge,go_sem,↓reduceIte,rA,rS,rE,rL,reduceCtorEq]
  exact ⟨_,_,rfl,hrep4⟩
theorem validW_iff (t : Tr) (l : List Ch) : validW t l = true ↔ TreeOk t /\ AscOk (knownN t.nodes) 1 10000 l:=by
 unfold validW
 rw [bat,treeOk_iff,ascOk_iff]
theorem share_at {t : Tr} (h : TreeOk t) {l : List Ch} (hl : AscOk (knownN t.nodes) 1 10000 l) (active : List Int) (ha : active.length < 1000000) {i : Nat} {n : Nd} (hn : t.nodes[i]? = some n) : V 124 [t.vv,.p (chsP l),.p (intsP active),.p (.int .i64 n.id)] [] = some (.tup [.p (.int .i64 (shr t (wtOf l) (onB t active) n.id)),.p (.int .i64 0)],[]):=by
 refine V_wp (vf:=vf124) rfl ?_
 have hlen:=h.len
 have hll:=asc_length hl
 have h1:=ivalid_eq t l h.fits (by omega) (by omega)
 rw [(validW_iff t l).2 ⟨h,hl⟩] at h1
 have h2:=known_eq t n.id (by omega)
 rw [show knownN t.nodes n.id = true by rw [knownN,findN_unique h.inc hn]; rfl] at h2
 by_cases hr : n.id = 1
 ·rw [hr] at h2 ⊢
  rw [shr_root t h]
  simp -implicitDefEqProofs (disch:=omega) only [vf124,vb124,h1,h2,go_sem,↓reduceIte,rA,rS,rE,rL,reduceCtorEq]
 ·obtain ⟨ks,vs,h3,hg⟩:=of_eq h hl (by omega) active ha
  have hi : i ≠ 0:=by
   rintro rfl
   rcases h.nodeAt hn with ⟨_,h4,_⟩ | ⟨h4,_⟩
   .exact hr h4
   .omega
  have hgn:=hg i n hn hi
  generalize shr t (wtOf l) (onB t active) n.id = v at hgn
  simp -implicitDefEqProofs (disch:=omega) only [vf124,vb124,h1,h2,hr,h3,hgn,go_sem,↓reduceIte,rA,rS,rE,rL,reduceCtorEq]
theorem putA_asc {kn : Int -> Bool} {hi : Int} {a : List Ch} (h : AscOk kn 0 hi a) {id v : Int} (hk : kn id = true) (h0 : 0 <= v) (h1 : v <= hi) : AscOk kn 0 hi (putA a id v):=by
 unfold putA
 refine ⟨fun c hc=>?_,withGo_inc id v a false h.inc,fun c hc=>?_⟩
 ·rcases withGo_mem id v a false c hc with ⟨_,rfl⟩ | ⟨hm,_⟩
  .exact hk
  .exact h.known c hm
 ·rcases withGo_mem id v a false c hc with ⟨_,rfl⟩ | ⟨hm,_⟩
  .exact ⟨h0,h1⟩
  .exact h.range c hm
theorem IssueA_asc {t : Tr} {a : List Ch} {id share cost now margin : Int} (h : (IssueA t a id share cost now margin).2 = 0) : AscOk (knownN t.nodes) 0 1152921504606846976 (IssueA t a id share cost now margin).1:=by
 unfold IssueA at h ⊢
 split at h
 ·rename_i hc
  rw [if_pos hc]
  unfold checkA at hc
  simp only [bat] at hc
  have hA:=(ascOk_iff _ _ _ _).1 hc.2
  split at h
  ·rename_i hk
   rw [if_pos hk]
   split at h
   ·rename_i hr
    rw [if_pos hr]
    split at h
    ·simp at h
    ·rename_i hn
     rw [if_neg hn]
     split at h
     ·simp at h
     ·rename_i hv
      rw [if_neg hv]
      refine putA_asc hA hk ?_ (by omega)
      unfold issueV
      have : 0 <= (cost * 1073741824 + share - 1) / share:=Int.ediv_nonneg (by omega) (by omega)
      omega
   .simp at h
  .simp at h
 .simp at h
def NInv (t : Tr) (a : List Ch) (now : Int) (pre : List Int) (best : Int) : Prop :=
 (best = 0 /\ ∀ x ∈ pre,mayA t a x now = false) \/
 (best ≠ 0 /\ best ∈ pre /\ mayA t a best now = true /\ ∀ x ∈ pre,mayA t a x now = true -> ownC a best < ownC a x \/ (ownC a best = ownC a x /\ best <= x))
theorem NInv.skip {t : Tr} {a : List Ch} {now : Int} {pre : List Int} {best x : Int} (h : NInv t a now pre best) (hx : mayA t a x now = false) : NInv t a now (pre ++ [x]) best:=by
 rcases h with ⟨h1,h2⟩ | ⟨h1,h2,h3,h4⟩
 ·refine Or.inl ⟨h1,fun y hy=>?_⟩
  rcases lmp.1 hy with hy | hy
  .exact h2 y hy
  .rw [List.mem_singleton] at hy; subst hy; exact hx
 ·refine Or.inr ⟨h1,List.mem_append_left _ h2,h3,fun y hy hm=>?_⟩
  rcases lmp.1 hy with hy | hy
  .exact h4 y hy hm
  .rw [List.mem_singleton] at hy; subst hy; rw [hx] at hm; cases hm
theorem NInv.take {t : Tr} {a : List Ch} {now : Int} {pre : List Int} {best x : Int} (h : NInv t a now pre best) (hx : mayA t a x now = true) (h0 : x ≠ 0) (hb : best = 0 \/ ownC a x < ownC a best \/ (ownC a x = ownC a best /\ x < best)) : NInv t a now (pre ++ [x]) x:=by
 refine Or.inr ⟨h0,List.mem_append_right _ (List.mem_singleton.2 rfl),hx,fun y hy hm=>?_⟩
 rcases lmp.1 hy with hy | hy
 ·rcases h with ⟨h1,h2⟩ | ⟨h1,h2,h3,h4⟩
  ·rw [h2 y hy] at hm; cases hm
  ·have:=h4 y hy hm
   omega
 .rw [List.mem_singleton] at hy; subst hy; exact Or.inr ⟨rfl,Int.le_refl _⟩
theorem NInv.keep {t : Tr} {a : List Ch} {now : Int} {pre : List Int} {best x : Int} (h : NInv t a now pre best) (hb : ¬ (best = 0 \/ ownC a x < ownC a best \/ (ownC a x = ownC a best /\ x < best))) : NInv t a now (pre ++ [x]) best:=by
 rcases h with ⟨h1,h2⟩ | ⟨h1,h2,h3,h4⟩
 ·exact absurd (Or.inl h1) hb
 ·refine Or.inr ⟨h1,List.mem_append_left _ h2,h3,fun y hy hm=>?_⟩
  rcases lmp.1 hy with hy | hy
  .exact h4 y hy hm
  .rw [List.mem_singleton] at hy; subst hy; omega
theorem may_pos {t : Tr} {a : List Ch} {x now : Int} (h : mayA t a x now = true) : x ≠ 0:=by
 unfold mayA checkA at h
 simp only [bat] at h
 obtain ⟨n,hn,rfl⟩:=findN_some h.1.2
 have:=((treeOk_iff t).1 h.1.1.1).pos n hn
 omega
structure Pt where
 group : Int
 usage : Int
 protect : Int
 own : Int
 room : Int
 deriving DecidableEq
def Pt.pv (c : Pt) : PV:=.agg [.int .i64 c.group,.int .i64 c.usage,.int .i64 c.protect,.int .i64 c.own,.int .i64 c.room]
abbrev Pt.vv (c : Pt) : VVal:=.agg [.p (.int .i64 c.group),.p (.int .i64 c.usage),.p (.int .i64 c.protect),.p (.int .i64 c.own),.p (.int .i64 c.room)]
attribute [go_sem] Pt.pv
theorem pts_flat (l : List Pt) : (l.map Pt.pv).all PV.flat = true:=by
 rw [List.all_eq_true]
 intro x hx
 obtain ⟨n,_,rfl⟩:=lmm.1 hx
 rfl
attribute [go_sem] pts_flat
def InN (ns : List Nd) (x : Int) : Prop:=∃ (i : Nat) (n : Nd),ns[i]? = some n /\ n.id = x
theorem subF_step {t : Tr} (h : TreeOk t) {x : Int} (hx : InN t.nodes x) : subF t.nodes t.nodes.length x = x :: (kidsN t.nodes x).flatMap (subF t.nodes t.nodes.length):=by
 obtain ⟨i,n,hn,rfl⟩:=hx
 have hi:=(lgs.1 hn).1
 obtain ⟨N,hN⟩ : ∃ N,t.nodes.length = N + 1:=⟨t.nodes.length - 1,by omega⟩
 have e1 : subF t.nodes t.nodes.length n.id = subF t.nodes (N + 1) n.id:=by rw [hN]
 rw [e1,subF]
 congr 1
 refine flatMap_congr_mem fun y hy=>?_
 obtain ⟨j,m,hm,hp,rfl⟩:=mem_kidsN.1 hy
 have:=h.kid hn hm hp
 exact subF_fuel h _ _ j m hm (by omega) (by omega)
theorem subF_mem {t : Tr} (h : TreeOk t) {x : Int} (hx : InN t.nodes x) : subF t.nodes t.nodes.length x ≠ []:=by
 rw [subF_step h hx]
 simp
theorem flat_len {t : Tr} (h : TreeOk t) : ∀ (l : List Int),(∀ x ∈ l,InN t.nodes x) -> l.length <= (l.flatMap (subF t.nodes t.nodes.length)).length
 | [],_=>by simp
 | x :: l,hl=>by
  have h1:=flat_len h l (fun y hy=>hl y (by simp [hy]))
  have h2:=List.length_pos_iff.2 (subF_mem h (hl x (by simp)))
  rw [lfc,lla,llc]
  omega
theorem kidsN_len (ns : List Nd) (x : Int) : (kidsN ns x).length <= ns.length:=by
 rw [kidsN,llm]
 exact List.length_filter_le _ _
set_option maxHeartbeats 2000000 in
theorem fsub_eq {t : Tr} (id : Int) (h : TreeOk t) : V 212 [t.vv,.p (.int .i64 id)] [] = some (.fresh 1 ((subT t id).map (.int .i64)),[]):=by
 refine V_wp (vf:=vf212) rfl ?_
 have hlen:=h.len
 have hat:=at_eq t id (by omega)
 by_cases hneg : idxOf t.nodes id < 0
 ·have hfn:=(idxOf_lt t.nodes id)
  have hemp : subT t id = []:=by
   rcases hfn with ⟨_,h2⟩ | ⟨k,_,h2,_⟩
   ·simp [subT,findT,h2]
   ·omega
  simp -implicitDefEqProofs (disch:=omega) only [vf212,vb212,hat,hneg,hemp,go_sem,↓reduceIte,rA,rS,rE,rL,reduceCtorEq]
 ·have hin : InN t.nodes id:=by
   obtain ⟨k,m,_,hkm,hfm,hme⟩:=(idxOf_lt t.nodes id).resolve_left (fun h=>hneg h.1)
   exact ⟨k,m,hkm,hme⟩
  have hsub : subT t id = subF t.nodes t.nodes.length id:=by
   obtain ⟨k,m,_,hkm,hfm,hme⟩:=(idxOf_lt t.nodes id).resolve_left (fun h=>hneg h.1)
   simp [subT,findT,(treeOk_iff t).2 h,hfm]
  have hsl:=subT_len h id
  rw [hsub] at hsl
  rw [hsub]
  simp -implicitDefEqProofs (disch:=omega) only [vf212,vb212,hat,hneg,go_sem,↓reduceIte,rA,rS,rE,rL,reduceCtorEq]
  obtain ⟨I,hI⟩ : ∃ I : Nat -> St -> Prop,∀ k s,I k s ↔ ∃ (out : List Int) (nx : List Int) (ww : Nat) (d : Nat) (e : Nat),out.length = k /\ (∀ x ∈ nx,InN t.nodes x) /\ out ++ nx.flatMap (subF t.nodes t.nodes.length) = subF t.nodes t.nodes.length id /\ ((d = 12 /\ e = 0) \/ (d = 34 /\ e = 1)) /\ s.pe 2 = .ptr (.slot 2 0) 0 0 /\ s.pe 5 = .own (.slot 5 0) ww 0 out.length /\ (∃ v,s.pe 6 = .own (.slot d e) v 0 (nx.length) /\ s.h (.slot d e) = some (v,Ob.arr 1 (nx.map (.int .i64)))) /\ s.h (.slot 2 0) = some (0,Ob.box [.p (nodesP t.nodes),.p (.int .i64 t.next)]) /\ s.h (.slot 5 0) = some (ww,Ob.arr 1 (out.map (.int .i64))):=⟨_,fun _ _=>Iff.rfl⟩
  refine wp_count (t.nodes.length) I ?_ ?_
  ·refine (hI _ _).2 ⟨[],[id],0,12,0,?_,?_,?_,?_,?_,?_,?_,?_,?_⟩
   ·rfl
   ·exact by simpa using hin
   ·exact by simp
   ·exact Or.inl ⟨rfl,rfl⟩
   all_goals first | exact cl0 | (simp -implicitDefEqProofs (disch:=omega) only [lma,go_sem,↓reduceIte,rA,rS,rE,rL,reduceCtorEq] <;> (refine ⟨_,rfl,?_⟩; first | rfl | (simp -implicitDefEqProofs (disch:=omega) only [lma,go_sem,↓reduceIte,rA,rS,rE,rL,reduceCtorEq]; done) | (simp -implicitDefEqProofs (disch:=omega) only [lma,go_sem,↓reduceIte,rA,rS,rE,rL,reduceCtorEq]; rfl)))
  intro k s hk hIk
  obtain ⟨out,nx,ww,d,e,hol,hall,hall',hde,h2,h5,⟨v6,h6,hhd_e⟩,hh2_0,hh5_0⟩:=(hI _ _).1 hIk
  clear hIk
  rcases hde with ⟨rfl,rfl⟩ | ⟨rfl,rfl⟩
  ·rcases nx with - | ⟨x,rest⟩
   ·rw [List.flatMap_nil,lan] at hall'
    simp -implicitDefEqProofs (disch:=omega) only [h2,h5,h6,hhd_e,hh2_0,hh5_0,zero_lt_zero,go_sem,↓reduceIte,rA,rS,rE,rL,reduceCtorEq]
    rw [hall']
   have hpos : (0 : Int) < ((rest.length + 1 : Nat) : Int):=by omega
   by_cases hlt : out.length < t.nodes.length
   ·have hx:=hall x (by simp)
    have hkids:=fkids_eq t x (by omega)
    have hkl:=kidsN_len t.nodes x
    have hrl : rest.length <= 64:=by
     have h1:=congrArg List.length hall'
     have h2:=flat_len h (x :: rest) hall
     rw [lla] at h1
     rw [llc] at h2
     omega
    simp -implicitDefEqProofs (disch:=omega) only [h2,h5,h6,hhd_e,hh2_0,hh5_0,hlt,hkids,hpos,Int.toNat_zero,List.getElem?_cons_zero,Int.toNat_one,List.drop_succ_cons,List.drop_zero,llm,Nat.add_sub_cancel,Nat.min_self,go_sem,↓reduceIte,rA,rS,rE,rL,reduceCtorEq]
    have hnx : ∀ y ∈ kidsN t.nodes x ++ rest,InN t.nodes y:=by
     intro y hy
     rcases lmp.1 hy with hy | hy
     ·obtain ⟨j,m,hm,_,hme⟩:=mem_kidsN.1 hy
      exact ⟨j,m,hm,hme⟩
     ·exact hall y (by simp [hy])
    have hnx' : (out ++ [x]) ++ (kidsN t.nodes x ++ rest).flatMap (subF t.nodes t.nodes.length) = subF t.nodes t.nodes.length id:=by
     rw [<- hall',lfc,subF_step h hx,List.flatMap_append]
     simp
    try refine And.intro (by omega) ?_
    refine (hI _ _).2 ⟨out ++ [x],kidsN t.nodes x ++ rest,ww + 1,34,1,?_,?_,?_,?_,?_,?_,?_,?_,?_⟩
    ·exact by simp [hol]
    ·exact hnx
    ·exact hnx'
    ·exact Or.inr ⟨rfl,rfl⟩
    all_goals first | exact cl0 | (simp -implicitDefEqProofs (disch:=omega) only [h2,h5,h6,hhd_e,hh2_0,hh5_0,lma,go_sem,↓reduceIte,rA,rS,rE,rL,reduceCtorEq] <;> (refine ⟨_,rfl,?_⟩; first | rfl | (simp -implicitDefEqProofs (disch:=omega) only [h2,h5,h6,hhd_e,hh2_0,hh5_0,lma,go_sem,↓reduceIte,rA,rS,rE,rL,reduceCtorEq]; done) | (simp -implicitDefEqProofs (disch:=omega) only [h2,h5,h6,hhd_e,hh2_0,hh5_0,lma,go_sem,↓reduceIte,rA,rS,rE,rL,reduceCtorEq]; rfl)))
   ·have hz : (x :: rest).flatMap (subF t.nodes t.nodes.length) = []:=by
     have h1:=congrArg List.length hall'
     rw [lla] at h1
     exact lez (by omega)
    rw [hz,lan] at hall'
    simp -implicitDefEqProofs (disch:=omega) only [h2,h5,h6,hhd_e,hh2_0,hh5_0,hlt,hpos,go_sem,↓reduceIte,rA,rS,rE,rL,reduceCtorEq]
    rw [hall']
  ·rcases nx with - | ⟨x,rest⟩
   ·rw [List.flatMap_nil,lan] at hall'
    simp -implicitDefEqProofs (disch:=omega) only [h2,h5,h6,hhd_e,hh2_0,hh5_0,zero_lt_zero,go_sem,↓reduceIte,rA,rS,rE,rL,reduceCtorEq]
    rw [hall']
   have hpos : (0 : Int) < ((rest.length + 1 : Nat) : Int):=by omega
   by_cases hlt : out.length < t.nodes.length
   ·have hx:=hall x (by simp)
    have hkids:=fkids_eq t x (by omega)
    have hkl:=kidsN_len t.nodes x
    have hrl : rest.length <= 64:=by
     have h1:=congrArg List.length hall'
     have h2:=flat_len h (x :: rest) hall
     rw [lla] at h1
     rw [llc] at h2
     omega
    simp -implicitDefEqProofs (disch:=omega) only [h2,h5,h6,hhd_e,hh2_0,hh5_0,hlt,hkids,hpos,Int.toNat_zero,List.getElem?_cons_zero,Int.toNat_one,List.drop_succ_cons,List.drop_zero,llm,Nat.add_sub_cancel,Nat.min_self,go_sem,↓reduceIte,rA,rS,rE,rL,reduceCtorEq]
    have hnx : ∀ y ∈ kidsN t.nodes x ++ rest,InN t.nodes y:=by
     intro y hy
     rcases lmp.1 hy with hy | hy
     ·obtain ⟨j,m,hm,_,hme⟩:=mem_kidsN.1 hy
      exact ⟨j,m,hm,hme⟩
     .exact hall y (by simp [hy])
    have hnx' : (out ++ [x]) ++ (kidsN t.nodes x ++ rest).flatMap (subF t.nodes t.nodes.length) = subF t.nodes t.nodes.length id:=by
     rw [<- hall',lfc,subF_step h hx,List.flatMap_append]
     simp
    try refine And.intro (by omega) ?_
    refine (hI _ _).2 ⟨out ++ [x],kidsN t.nodes x ++ rest,ww + 1,34,1,?_,?_,?_,?_,?_,?_,?_,?_,?_⟩
    ·exact by simp [hol]
    ·exact hnx
    ·exact hnx'
    ·exact Or.inr ⟨rfl,rfl⟩
    all_goals first | exact cl0 | (simp -implicitDefEqProofs (disch:=omega) only [h2,h5,h6,hhd_e,hh2_0,hh5_0,lma,go_sem,↓reduceIte,rA,rS,rE,rL,reduceCtorEq] <;> (refine ⟨_,rfl,?_⟩; first | rfl | (simp -implicitDefEqProofs (disch:=omega) only [h2,h5,h6,hhd_e,hh2_0,hh5_0,lma,go_sem,↓reduceIte,rA,rS,rE,rL,reduceCtorEq]; done) | (simp -implicitDefEqProofs (disch:=omega) only [h2,h5,h6,hhd_e,hh2_0,hh5_0,lma,go_sem,↓reduceIte,rA,rS,rE,rL,reduceCtorEq]; rfl)))
   ·have hz : (x :: rest).flatMap (subF t.nodes t.nodes.length) = []:=by
     have h1:=congrArg List.length hall'
     rw [lla] at h1
     exact lez (by omega)
    rw [hz,lan] at hall'
    simp -implicitDefEqProofs (disch:=omega) only [h2,h5,h6,hhd_e,hh2_0,hh5_0,hlt,hpos,go_sem,↓reduceIte,rA,rS,rE,rL,reduceCtorEq]
    rw [hall']
def msort (l : List Int) : List Int:=l.mergeSort fun x y=>decide (x <= y)
theorem mapO_unI : ∀ (l : List Int),mapO unI (l.map (.int .i64)) = some l
 | []=>rfl
 | x :: l=>by
  have:=mapO_unI l
  rw [lpc]
  show ob (some x) (fun y=>ob (mapO unI (List.map (PV.int .i64) l)) fun ys=>some (y :: ys)) = _
  rw [this,ob_some,ob_some]
theorem sort_eq (l : List Int) (hl : l.length < 1000000) : V 120 [.own (.arg 0 0) 0 0 l.length] [.arr 1 (l.map (.int .i64))] = some (.tup [],[.arr 1 ((msort l).map (.int .i64))]):=by
 refine V_x ?_
 have h1 : l.length = (l.map (PV.int .i64)).length:=by simp
 have h2 : l.length < 4611686018427387904:=by omega
 simp only [XS,if_pos,XI,gd,if_pos h1,if_pos h2,mapO_unI,ob_some,msort]
theorem msort_length (l : List Int) : (msort l).length = l.length:=List.length_mergeSort l
abbrev maxR : Int:=4611686018427387904
structure Bk where
 rate : Int
 per : Int
 burst : Int
 level : Int
 now : Int
 deriving DecidableEq
abbrev Bk.cs (b : Bk) : List PV:=[.int .i64 b.rate,.int .i64 b.per,.int .i64 b.burst,.int .i64 b.level,.int .i64 b.now]
abbrev Bk.vv (b : Bk) : VVal:=.agg [.p (.int .i64 b.rate),.p (.int .i64 b.per),.p (.int .i64 b.burst),.p (.int .i64 b.level),.p (.int .i64 b.now)]
structure Cp where
 group : Int
 rp : Bk
 wp : Bk
 ro : Bk
 wo : Bk
 deriving DecidableEq
def Cp.pv (c : Cp) : PV:=.agg [.int .i64 c.group,.int .i64 c.rp.rate,.int .i64 c.rp.per,.int .i64 c.rp.burst,.int .i64 c.rp.level,.int .i64 c.rp.now,.int .i64 c.wp.rate,.int .i64 c.wp.per,.int .i64 c.wp.burst,.int .i64 c.wp.level,.int .i64 c.wp.now,.int .i64 c.ro.rate,.int .i64 c.ro.per,.int .i64 c.ro.burst,.int .i64 c.ro.level,.int .i64 c.ro.now,.int .i64 c.wo.rate,.int .i64 c.wo.per,.int .i64 c.wo.burst,.int .i64 c.wo.level,.int .i64 c.wo.now]
structure Rq where
 task : Int
 group : Int
 at_ : Int
 pages : Int
 write : Bool
 time : Int
 deriving DecidableEq
def Rq.pv (r : Rq) : PV:=.agg [.int .i64 r.task,.int .i64 r.group,.int .i64 r.at_,.int .i64 r.pages,.bool r.write,.int .i64 r.time]
abbrev Rq.vv (r : Rq) : VVal:=.agg [.p (.int .i64 r.task),.p (.int .i64 r.group),.p (.int .i64 r.at_),.p (.int .i64 r.pages),.p (.bool r.write),.p (.int .i64 r.time)]
structure Fl where
 r : Rq
 done : Int
 deriving DecidableEq
def Fl.pv (f : Fl) : PV:=.agg [.int .i64 f.r.task,.int .i64 f.r.group,.int .i64 f.r.at_,.int .i64 f.r.pages,.bool f.r.write,.int .i64 f.r.time,.int .i64 f.done]
structure Dp where
 group : Int
 target : Int
 depth : Int
 deriving DecidableEq
def Dp.pv (d : Dp) : PV:=.agg [.int .i64 d.group,.int .i64 d.target,.int .i64 d.depth]
structure Mdl where
 rb : Int
 rp : Int
 wb : Int
 wp : Int
 seek : Int
 deriving DecidableEq
structure Dv where
 m : Mdl
 speed : Int
 margin : Int
 now : Int
 free : Int
 head : Int
 weights : List Ch
 buckets : List Cp
 depths : List Dp
 v : List Ch
 queue : List Rq
 flights : List Fl
attribute [go_sem] Rq.pv Fl.pv Dp.pv
theorem caps_flat (l : List Cp) : (l.map Cp.pv).all PV.flat = true:=by
 rw [List.all_eq_true]
 intro x hx
 obtain ⟨n,_,rfl⟩:=lmm.1 hx
 rfl
theorem rqs_flat (l : List Rq) : (l.map Rq.pv).all PV.flat = true:=by
 rw [List.all_eq_true]
 intro x hx
 obtain ⟨n,_,rfl⟩:=lmm.1 hx
 rfl
theorem fls_flat (l : List Fl) : (l.map Fl.pv).all PV.flat = true:=by
 rw [List.all_eq_true]
 intro x hx
 obtain ⟨n,_,rfl⟩:=lmm.1 hx
 rfl
theorem dps_flat (l : List Dp) : (l.map Dp.pv).all PV.flat = true:=by
 rw [List.all_eq_true]
 intro x hx
 obtain ⟨n,_,rfl⟩:=lmm.1 hx
 rfl
attribute [go_sem] caps_flat rqs_flat fls_flat dps_flat
def inZ (n lo hi : Int) : Bool:=decide (lo <= n /\ n <= hi)
def bkOk (b : Bk) : Bool:=inZ b.per 1 1048576 && inZ b.now 0 1048576 && (if b.rate = maxR then decide (b.burst = 0) && decide (b.level = 0) else inZ b.rate 0 1073741824 && inZ b.burst 0 1073741824 && inZ b.level 0 (b.burst * b.per))
def advB (b : Bk) (now : Int) : Bk:=if b.rate = maxR then { b with now:=now } else { b with level:=min (b.level + b.rate * (now - b.now)) (b.burst * b.per),now:=now }
def tokB (b : Bk) : Int:=if b.rate = maxR then 1073741824 else b.level / b.per
def takB (b : Bk) (n : Int) : Bk:=if b.rate = maxR then b else if b.level / b.per < n then b else { b with level:=b.level - n * b.per }
def soundR (r : Rq) : Bool:=inZ r.task 0 2147483647 && inZ r.group 1 2147483647 && inZ r.at_ 0 16777216 && inZ r.pages 1 4096 && decide (r.at_ + r.pages <= 16777216) && inZ r.time 0 1048576
def modelOk (m : Mdl) : Bool:=inZ m.rb 0 1000000 && inZ m.rp 0 1000000 && inZ m.wb 0 1000000 && inZ m.wp 0 1000000 && inZ m.seek 0 1000000
def costR (m : Mdl) (r : Rq) (head : Int) : Int:=(if r.write then m.wb + m.wp * r.pages else m.rb + m.rp * r.pages) + (if r.at_ = head then 0 else m.seek)
def getD (l : List Dp) (id : Int) : Dp:=match l with
 | []=>⟨id,0,256⟩
 | x :: r=>if x.group = id then x else getD r id
def cntF (fs : List Fl) (id : Int) : Int:=((fs.filter fun f=>decide (f.r.group = id)).length : Int)
def sumF (t : Tr) (fs : List Fl) (g : Int) : Int:=sumI ((subF t.nodes t.nodes.length g).map (cntF fs))
def allowF (t : Tr) (ds : List Dp) (fs : List Fl) (id : Int) : Bool:=(ancF t.nodes t.nodes.length id).all fun g=>decide (sumF t fs g < (getD ds g).depth)
def capOf : List Cp -> Int -> Option Cp
 | [],_=>none
 | c :: l,id=>if c.group = id then some c else capOf l id
def kpB (c : Cp) (w : Bool) : Bk:=if w then c.wp else c.rp
def koB (c : Cp) (w : Bool) : Bk:=if w then c.wo else c.ro
def roomC (l : List Cp) (r : Rq) (g : Int) : Bool:=match capOf l g with
 | none=>true
 | some c=>decide (r.pages <= tokB (kpB c r.write)) && decide (1 <= tokB (koB c r.write))
def passD (t : Tr) (d : Dv) (r : Rq) : Bool:=allowF t d.depths d.flights r.group && (ancF t.nodes t.nodes.length r.group).all (roomC d.buckets r)
def readyL (t : Tr) (d : Dv) : List Int -> List Rq -> List Int
 | _,[]=>[]
 | seen,r :: q=>(if r.group ∈ seen then [] else if passD t d r = true then [r.group] else []) ++ readyL t d (r.group :: seen) q
def nxtA (t : Tr) (a : List Ch) (now : Int) : Int -> List Int -> Int
 | best,[]=>best
 | best,x :: l=>nxtA t a now (if mayA t a x now = true /\ (best = 0 \/ ownC a x < ownC a best \/ (ownC a x = ownC a best /\ x < best)) then x else best) l
def actL (d : Dv) : List Int:=d.queue.map (·.group) ++ d.flights.map (·.r.group)
def spendC (c : Cp) (r : Rq) : Cp:=if r.write then { c with wp:=takB c.wp r.pages,wo:=takB c.wo 1 } else { c with rp:=takB c.rp r.pages,ro:=takB c.ro 1 }
def setC : List Cp -> Int -> (Cp -> Cp) -> List Cp
 | [],_,_=>[]
 | c :: l,id,f=>if c.group = id then f c :: l else c :: setC l id f
def spendD (t : Tr) (l : List Cp) (r : Rq) : List Cp:=(ancF t.nodes t.nodes.length r.group).foldl (fun l g=>setC l g fun c=>spendC c r) l
def remQ : List Rq -> Int -> List Rq
 | [],_=>[]
 | r :: q,g=>if r.group = g then q else r :: remQ q g
def firstQ : List Rq -> Int -> Option Rq
 | [],_=>none
 | r :: q,g=>if r.group = g then some r else firstQ q g
def insF (l : List Fl) (f : Fl) : List Fl:=l.takeWhile (fun x=>decide (x.done <= f.done)) ++ f :: l.dropWhile (fun x=>decide (x.done <= f.done))
def costD (d : Dv) (r : Rq) : Int:=max (costR d.m r d.head) 1
def shareD (t : Tr) (d : Dv) (g : Int) : Int:=shr t (wtOf d.weights) (onB t (actL d)) g
def freeD (d : Dv) (r : Rq) : Int:=max d.free ((d.now - 1) * d.speed) + costD d r
def doneD (d : Dv) (r : Rq) : Int:=max (d.now + 1) ((freeD d r + d.speed - 1) / d.speed)
def beginD (t : Tr) (d : Dv) (g : Int) (r : Rq) (v : List Ch) : Dv :=
  { d with v:=v,buckets:=spendD t d.buckets r,queue:=remQ d.queue g,head:=r.at_ + r.pages,free:=freeD d r,flights:=insF d.flights ⟨r,doneD d r⟩ }
def advC (now : Int) (c : Cp) : Cp:=⟨c.group,advB c.rp now,advB c.wp now,advB c.ro now,advB c.wo now⟩
def advD (d : Dv) : Dv:={ d with now:=d.now + 1,buckets:=d.buckets.map (advC (d.now + 1)),flights:=d.flights.dropWhile fun f=>decide (f.done <= d.now + 1) }
def endedD (d : Dv) : List Fl:=d.flights.takeWhile fun f=>decide (f.done <= d.now + 1)
def loopD (t : Tr) : Nat -> Dv -> Dv
 | 0,d=>d
 | k + 1,d=>if d.now * d.speed <= d.free then d else
  let g:=nxtA t d.v (d.now * d.speed) 0 (msort (readyL t d [] d.queue))
  if g = 0 then d else match firstQ d.queue g with
  | none=>d
  | some r =>
   let i:=IssueA t d.v g (shareD t d g) (costD d r) (d.now * d.speed) d.margin
   if i.2 ≠ 0 then d else loopD t k (beginD t d g r i.1)
def tickD (t : Tr) (d : Dv) : Dv:=loopD t (d.queue.length + 1) (advD d)
def ascB (kn : Int -> Bool) (ok : Cp -> Bool) : Option Int -> List Cp -> Bool
 | _,[]=>true
 | p,c :: l=>kn c.group && prevOk p c.group && ok c && ascB kn ok (some c.group) l
def ascD (kn : Int -> Bool) : Option Int -> List Dp -> Bool
 | _,[]=>true
 | p,c :: l=>kn c.group && prevOk p c.group && (inZ c.target 0 1048576 && inZ c.depth 1 256) && ascD kn (some c.group) l
def soundB (now : Int) (b : Bk) : Bool:=bkOk b && decide (b.per = 100) && decide (b.now = now)
def capsB (now : Int) (c : Cp) : Bool:=soundB now c.rp && soundB now c.wp && soundB now c.ro && soundB now c.wo
def prevLe (p : Option Int) (n : Int) : Bool:=match p with | none=>true | some q=>decide (q <= n)
def flOk (kn : Int -> Bool) : Option Int -> List Fl -> Bool
 | _,[]=>true
 | p,f :: l=>(soundR f.r && kn f.r.group) && inZ f.done 0 1125899906842624 && prevLe p f.done && flOk kn (some f.done) l
def configOk (m : Mdl) (speed margin : Int) : Bool:=modelOk m && inZ speed 1 1000000 && inZ margin 0 1073741824
def validDv (t : Tr) (d : Dv) : Bool :=
 treeOk t && configOk d.m d.speed d.margin && inZ d.now 0 1048576 && inZ d.free 0 1125899906842624 && inZ d.head 0 16777216 && validW t d.weights && ascD (knownN t.nodes) none d.depths && checkA t d.v &&
 decide (d.queue.length + d.flights.length <= 256) && ascB (knownN t.nodes) (capsB d.now) none d.buckets && d.queue.all (fun r=>soundR r && knownN t.nodes r.group) && flOk (knownN t.nodes) none d.flights
theorem inZ_iff {n lo hi : Int} : inZ n lo hi = true ↔ lo <= n /\ n <= hi:=by simp [inZ]
theorem prevOk_iff {p : Option Int} {g : Int} : prevOk p g = true ↔ ∀ q,p = some q -> q < g:=by
 cases p <;> simp [prevOk]
theorem ascB_iff {kn : Int -> Bool} {ok : Cp -> Bool} : ∀ {l : List Cp} {p : Option Int},ascB kn ok p l = true ↔ (∀ c ∈ l,kn c.group = true /\ ok c = true) /\ l.Pairwise (fun a b=>a.group < b.group) /\ ∀ q,p = some q -> ∀ c ∈ l,q < c.group
 | [],p=>by simp [ascB]
 | c :: l,p=>by
  simp only [ascB,bat,prevOk_iff,ascB_iff (l:=l),lmk,lpw,forall_eq_or_imp,osi]
  constructor
  ·rintro ⟨⟨⟨h1,h2⟩,h3⟩,h4,h5,h6⟩
   exact ⟨⟨⟨h1,h3⟩,h4⟩,⟨fun b hb=>h6 _ rfl b hb,h5⟩,fun q hq=>⟨h2 q hq,fun b hb=>Int.lt_trans (h2 q hq) (h6 _ rfl b hb)⟩⟩
  ·rintro ⟨⟨⟨h1,h3⟩,h4⟩,⟨h6,h5⟩,h7⟩
   exact ⟨⟨⟨h1,fun q hq=>(h7 q hq).1⟩,h3⟩,h4,h5,fun q hq b hb=>by subst hq; exact h6 b hb⟩
theorem prevLe_iff {p : Option Int} {g : Int} : prevLe p g = true ↔ ∀ q,p = some q -> q <= g:=by
 cases p <;> simp [prevLe]
theorem flOk_iff {kn : Int -> Bool} : ∀ {l : List Fl} {p : Option Int},flOk kn p l = true ↔ (∀ f ∈ l,(soundR f.r = true /\ kn f.r.group = true) /\ 0 <= f.done /\ f.done <= 1125899906842624) /\ l.Pairwise (fun a b=>a.done <= b.done) /\ ∀ q,p = some q -> ∀ f ∈ l,q <= f.done
 | [],p=>by simp [flOk]
 | f :: l,p=>by
  simp only [flOk,bat,prevLe_iff,inZ_iff,flOk_iff (l:=l),lmk,lpw,forall_eq_or_imp,osi]
  constructor
  ·rintro ⟨⟨⟨⟨h1,h2⟩,h3⟩,h4⟩,h5,h6,h7⟩
   exact ⟨⟨⟨⟨h1,h2⟩,h3⟩,h5⟩,⟨fun b hb=>h7 _ rfl b hb,h6⟩,fun q hq=>⟨h4 q hq,fun b hb=>Int.le_trans (h4 q hq) (h7 _ rfl b hb)⟩⟩
  ·rintro ⟨⟨⟨⟨h1,h2⟩,h3⟩,h5⟩,⟨h7,h6⟩,h8⟩
   exact ⟨⟨⟨⟨h1,h2⟩,h3⟩,fun q hq=>(h8 q hq).1⟩,h5,h6,fun q hq b hb=>by subst hq; exact h7 b hb⟩
structure DvOk (t : Tr) (d : Dv) : Prop where
 tree : TreeOk t
 cfg : configOk d.m d.speed d.margin = true
 now : 0 <= d.now /\ d.now <= 1048576
 free : 0 <= d.free /\ d.free <= 1125899906842624
 head : 0 <= d.head /\ d.head <= 16777216
 w : AscOk (knownN t.nodes) 1 10000 d.weights
 dp : ascD (knownN t.nodes) none d.depths = true
 v : AscOk (knownN t.nodes) 0 1152921504606846976 d.v
 len : d.queue.length + d.flights.length <= 256
 bk : ascB (knownN t.nodes) (capsB d.now) none d.buckets = true
 q : ∀ r ∈ d.queue,soundR r = true /\ knownN t.nodes r.group = true
 fl : flOk (knownN t.nodes) none d.flights = true
theorem dvOk_iff {t : Tr} {d : Dv} : validDv t d = true ↔ DvOk t d:=by
 simp only [validDv,bat,inZ_iff,decide_eq_true_eq,List.all_eq_true,validW_iff,checkA,ascOk_iff,treeOk_iff]
 constructor
 ·rintro ⟨⟨⟨⟨⟨⟨⟨⟨⟨⟨⟨h1,h2⟩,h3⟩,h4⟩,h5⟩,h6⟩,h7⟩,h8⟩,h9⟩,h10⟩,h11⟩,h12⟩
  exact ⟨h1,h2,h3,h4,h5,h6.2,h7,h8.2,h9,h10,h11,h12⟩
 ·rintro ⟨h1,h2,h3,h4,h5,h6,h7,h8,h9,h10,h11,h12⟩
  exact ⟨⟨⟨⟨⟨⟨⟨⟨⟨⟨⟨h1,h2⟩,h3⟩,h4⟩,h5⟩,⟨h1,h6⟩⟩,h7⟩,⟨h1,h8⟩⟩,h9⟩,h10⟩,h11⟩,h12⟩
theorem bkOk_iff {b : Bk} : bkOk b = true ↔ (1 <= b.per /\ b.per <= 1048576) /\ (0 <= b.now /\ b.now <= 1048576) /\ ((b.rate = maxR /\ b.burst = 0 /\ b.level = 0) \/ (b.rate ≠ maxR /\ (0 <= b.rate /\ b.rate <= 1073741824) /\ (0 <= b.burst /\ b.burst <= 1073741824) /\ 0 <= b.level /\ b.level <= b.burst * b.per)):=by
 unfold bkOk
 by_cases h : b.rate = maxR
 ·rw [if_pos h]
  simp only [bat,inZ_iff,decide_eq_true_eq,h,true_and,ne_eq,not_true_eq_false,false_and,or_false,and_assoc]
 ·rw [if_neg h]
  simp only [bat,inZ_iff,h,false_and,ne_eq,not_false_eq_true,true_and,false_or,and_assoc]
theorem soundB_iff {now : Int} {b : Bk} : soundB now b = true ↔ bkOk b = true /\ b.per = 100 /\ b.now = now:=by
 simp only [soundB,bat,decide_eq_true_eq,and_assoc]
theorem adv_ok {now : Int} {b : Bk} (h : soundB now b = true) (hn : now + 1 <= 1048576) (h0 : 0 <= now) : soundB (now + 1) (advB b (now + 1)) = true:=by
 rw [soundB_iff,bkOk_iff] at h
 obtain ⟨⟨h1,h2,h3⟩,h4,h5⟩:=h
 rw [soundB_iff,bkOk_iff]
 unfold advB
 rcases h3 with ⟨e,h6,h7⟩ | ⟨e,h6,h7,h8⟩
 ·rw [if_pos e]
  exact ⟨⟨h1,by simp only; omega,.inl ⟨e,h6,h7⟩⟩,h4,rfl⟩
 ·rw [if_neg e]
  refine ⟨⟨h1,by simp only; omega,.inr ⟨e,h6,h7,?_⟩⟩,h4,rfl⟩
  simp only
  have hb : 0 <= b.burst * b.per:=Int.mul_nonneg h7.1 (by omega)
  have hr : 0 <= b.rate * (now + 1 - b.now):=Int.mul_nonneg h6.1 (by omega)
  omega
theorem tak_ok {now : Int} {b : Bk} (h : soundB now b = true) {n : Int} (hn : 0 <= n) : soundB now (takB b n) = true:=by
 have h':=h
 rw [soundB_iff,bkOk_iff] at h
 obtain ⟨⟨h1,h2,h3⟩,h4,h5⟩:=h
 unfold takB
 by_cases e : b.rate = maxR
 ·rw [if_pos e]; exact h'
 ·rw [if_neg e]
  by_cases hl : b.level / b.per < n
  ·rw [if_pos hl]; exact h'
  ·rw [if_neg hl,soundB_iff,bkOk_iff]
   rcases h3 with ⟨e',_⟩ | ⟨_,h6,h7,h8⟩
   ·exact absurd e' e
   ·refine ⟨⟨h1,h2,.inr ⟨e,h6,h7,?_⟩⟩,h4,h5⟩
    simp only
    have hk : n * b.per <= b.level:=by
     have:=Int.mul_le_mul_of_nonneg_right (show n <= b.level / b.per by omega) (show 0 <= b.per by omega)
     have h9:=Int.ediv_mul_le b.level (show b.per ≠ 0 by omega)
     omega
    have : 0 <= n * b.per:=Int.mul_nonneg hn (by omega)
    omega
theorem capsB_iff {now : Int} {c : Cp} : capsB now c = true ↔ soundB now c.rp = true /\ soundB now c.wp = true /\ soundB now c.ro = true /\ soundB now c.wo = true:=by
 simp only [capsB,bat,and_assoc]
theorem setC_get {l : List Cp} {id : Int} {f : Cp -> Cp} : ∀ {c : Cp},c ∈ setC l id f -> c ∈ l \/ ∃ c0 ∈ l,c = f c0:=by
 induction l with
 | nil=>intro c h; simp [setC] at h
 | cons x l ih =>
  intro c h
  unfold setC at h
  split at h
  ·rcases lmk.1 h with rfl | h
   ·exact .inr ⟨x,lms ..,rfl⟩
   ·exact .inl (lmc _ h)
  ·rcases lmk.1 h with rfl | h
   ·exact .inl (lms ..)
   ·rcases ih h with h | ⟨c0,h0,e⟩
    .exact .inl (lmc _ h)
    .exact .inr ⟨c0,lmc _ h0,e⟩
theorem setC_groups {f : Cp -> Cp} (hf : ∀ c,(f c).group = c.group) (id : Int) : ∀ l : List Cp,(setC l id f).map (·.group) = l.map (·.group)
 | []=>rfl
 | c :: l=>by
  unfold setC
  split
  .simp [hf]
  .simp [setC_groups hf id l]
theorem pair_groups {l m : List Cp} (h : l.map (·.group) = m.map (·.group)) : l.Pairwise (fun a b=>a.group < b.group) ↔ m.Pairwise (fun a b=>a.group < b.group):=by
 rw [<- List.pairwise_map (f:=Cp.group) (R:=fun a b=>a < b),<- List.pairwise_map (f:=Cp.group) (R:=fun a b=>a < b),h]
theorem ascB_same {kn : Int -> Bool} {ok ok' : Cp -> Bool} {l m : List Cp} (h : l.map (·.group) = m.map (·.group)) (hl : ascB kn ok none l = true) (hm : ∀ c ∈ m,ok' c = true) : ascB kn ok' none m = true:=by
 rw [ascB_iff] at hl ⊢
 refine ⟨fun c hc=>⟨?_,hm c hc⟩,(pair_groups h).1 hl.2.1,fun q hq=>by cases hq⟩
 have : c.group ∈ l.map (·.group):=by rw [h]; exact List.mem_map_of_mem hc
 obtain ⟨c0,h0,e⟩:=lmm.1 this
 rw [<- e]
 exact (hl.1 c0 h0).1
theorem spend_group (c : Cp) (r : Rq) : (spendC c r).group = c.group:=by unfold spendC; split <;> rfl
theorem spend_ok {now : Int} {c : Cp} {r : Rq} (h : capsB now c = true) (hp : 0 <= r.pages) : capsB now (spendC c r) = true:=by
 rw [capsB_iff] at h ⊢
 obtain ⟨h1,h2,h3,h4⟩:=h
 unfold spendC
 split
 .exact ⟨h1,tak_ok h2 hp,h3,tak_ok h4 (by omega)⟩
 .exact ⟨tak_ok h1 hp,h2,tak_ok h3 (by omega),h4⟩
theorem spendD_ok {t : Tr} {now : Int} {r : Rq} (hp : 0 <= r.pages) {kn : Int -> Bool} : ∀ (gs : List Int) (l : List Cp),ascB kn (capsB now) none l = true -> ascB kn (capsB now) none (gs.foldl (fun l g=>setC l g fun c=>spendC c r) l) = true
 | [],l,h=>h
 | g :: gs,l,h=>spendD_ok (t:=t) hp gs _ (ascB_same (setC_groups (fun c=>spend_group c r) g l).symm h fun c hc=>by
   rw [ascB_iff] at h
   rcases setC_get hc with hc | ⟨c0,h0,rfl⟩
   .exact (h.1 c hc).2
   .exact spend_ok (h.1 c0 h0).2 hp)
theorem firstQ_mem {g : Int} : ∀ {l : List Rq} {r : Rq},firstQ l g = some r -> r ∈ l /\ r.group = g
 | [],r,h=>by cases h
 | x :: l,r,h=>by
  unfold firstQ at h
  split at h
  .rename_i e; cases h; exact ⟨lms ..,e⟩
  .obtain ⟨h1,h2⟩:=firstQ_mem h; exact ⟨lmc _ h1,h2⟩
theorem remQ_len {g : Int} : ∀ {l : List Rq} {r : Rq},firstQ l g = some r -> (remQ l g).length + 1 = l.length
 | [],r,h=>by cases h
 | x :: l,r,h=>by
  unfold firstQ at h
  unfold remQ
  split at h
  .rename_i e; rw [if_pos e]; rfl
  .rename_i e; rw [if_neg e,llc,remQ_len h]; rfl
theorem remQ_sub (g : Int) : ∀ l : List Rq,List.Sublist (remQ l g) l
 | []=>List.Sublist.refl _
 | x :: l=>by
  unfold remQ
  split
  .exact List.sublist_cons_self _ _
  .exact (remQ_sub g l).cons_cons x
theorem insF_len (l : List Fl) (f : Fl) : (insF l f).length = l.length + 1:=by
 unfold insF
 rw [lla,llc]
 have:=congrArg List.length (List.takeWhile_append_dropWhile (p:=fun x : Fl=>decide (x.done <= f.done)) (l:=l))
 rw [lla] at this
 omega
theorem insF_mem {l : List Fl} {f x : Fl} : x ∈ insF l f ↔ x = f \/ x ∈ l:=by
 have:=List.takeWhile_append_dropWhile (p:=fun x : Fl=>decide (x.done <= f.done)) (l:=l)
 have h2 : x ∈ l ↔ x ∈ l.takeWhile (fun x=>decide (x.done <= f.done)) \/ x ∈ l.dropWhile (fun x=>decide (x.done <= f.done)):=by
  rw [<- lmp,this]
 unfold insF
 rw [lmp,lmk,h2]
 exact ⟨fun h=>by rcases h with h | h | h <;> simp [h],fun h=>by rcases h with h | h | h <;> simp [h]⟩
theorem insF_sorted {l : List Fl} (f : Fl) (h : l.Pairwise fun a b=>a.done <= b.done) : (insF l f).Pairwise fun a b=>a.done <= b.done:=by
 induction l with
 | nil=>simp [insF]
 | cons x l ih =>
  rw [lpw] at h
  by_cases hx : x.done <= f.done
  ·have e : insF (x :: l) f = x :: insF l f:=by simp [insF,hx]
   rw [e,lpw]
   refine ⟨fun y hy=>?_,ih h.2⟩
   rcases insF_mem.1 hy with rfl | hy
   .exact hx
   .exact h.1 y hy
  ·have e : insF (x :: l) f = f :: x :: l:=by simp [insF,hx]
   rw [e,lpw]
   refine ⟨fun y hy=>?_,lpw.2 h⟩
   rcases lmk.1 hy with rfl | hy
   .omega
   .have:=h.1 y hy; omega
theorem soundR_iff {r : Rq} : soundR r = true ↔ (0 <= r.task /\ r.task <= 2147483647) /\ (1 <= r.group /\ r.group <= 2147483647) /\ (0 <= r.at_ /\ r.at_ <= 16777216) /\ (1 <= r.pages /\ r.pages <= 4096) /\ r.at_ + r.pages <= 16777216 /\ 0 <= r.time /\ r.time <= 1048576:=by
 simp only [soundR,bat,inZ_iff,decide_eq_true_eq,and_assoc]
theorem configOk_iff {m : Mdl} {speed margin : Int} : configOk m speed margin = true ↔ modelOk m = true /\ (1 <= speed /\ speed <= 1000000) /\ 0 <= margin /\ margin <= 1073741824:=by
 simp only [configOk,bat,inZ_iff,and_assoc]
theorem modelOk_iff {m : Mdl} : modelOk m = true ↔ (0 <= m.rb /\ m.rb <= 1000000) /\ (0 <= m.rp /\ m.rp <= 1000000) /\ (0 <= m.wb /\ m.wb <= 1000000) /\ (0 <= m.wp /\ m.wp <= 1000000) /\ 0 <= m.seek /\ m.seek <= 1000000:=by
 simp only [modelOk,bat,inZ_iff,and_assoc]
theorem mul_range {a b A B : Int} (h0 : 0 <= a) (h1 : a <= A) (h2 : 0 <= b) (h3 : b <= B) : 0 <= a * b /\ a * b <= A * B:=by
 refine ⟨Int.mul_nonneg h0 h2,?_⟩
 have e1:=Int.mul_le_mul_of_nonneg_right h1 h2
 have e2:=Int.mul_le_mul_of_nonneg_left h3 (show 0 <= A by omega)
 omega
theorem cost_range {m : Mdl} (hm : modelOk m = true) {r : Rq} (hr : soundR r = true) (head : Int) : 0 <= costR m r head /\ costR m r head <= 4098000000:=by
 rw [modelOk_iff] at hm
 rw [soundR_iff] at hr
 have h1:=mul_range (a:=m.rp) (b:=r.pages) (A:=1000000) (B:=4096) hm.2.1.1 hm.2.1.2 (by omega) (by omega)
 have h2:=mul_range (a:=m.wp) (b:=r.pages) (A:=1000000) (B:=4096) hm.2.2.2.1.1 hm.2.2.2.1.2 (by omega) (by omega)
 unfold costR
 split <;> split <;> omega
theorem advD_ok {t : Tr} {d : Dv} (h : DvOk t d) (hn : d.now < 1048576) : DvOk t (advD d) where
 tree:=h.tree
 cfg:=h.cfg
 now:=by have:=h.now; show 0 <= d.now + 1 /\ d.now + 1 <= _; omega
 free:=h.free
 head:=h.head
 w := h.w
 dp:=h.dp
 v := h.v
 len:=by
  have:=h.len
  have h2:=(List.dropWhile_sublist (l:=d.flights) fun f=>decide (f.done <= d.now + 1)).length_le
  show d.queue.length + (d.flights.dropWhile _).length <= 256
  omega
 bk:=by
  have hb:=h.bk
  refine ascB_same ?_ hb fun c hc=>?_
  ·show _ = (d.buckets.map (advC (d.now + 1))).map (·.group)
   rw [List.map_map]
   rfl
  ·obtain ⟨c0,h0,rfl⟩:=lmm.1 hc
   have:=(ascB_iff.1 hb).1 c0 h0
   rw [capsB_iff] at this
   have hnn:=h.now
   exact capsB_iff.2 ⟨adv_ok this.2.1 (by omega) hnn.1,adv_ok this.2.2.1 (by omega) hnn.1,adv_ok this.2.2.2.1 (by omega) hnn.1,adv_ok this.2.2.2.2 (by omega) hnn.1⟩
 q:=h.q
 fl:=by
  have:=flOk_iff.1 h.fl
  have hs:=List.dropWhile_sublist (l:=d.flights) fun f=>decide (f.done <= d.now + 1)
  exact flOk_iff.2 ⟨fun f hf=>this.1 f (hs.subset hf),this.2.1.sublist hs,fun q hq=>by cases hq⟩
theorem bin_eq (n lo hi : Int) : V 175 [.p (.int .i64 n),.p (.int .i64 lo),.p (.int .i64 hi)] [] = some (.p (.bool (inZ n lo hi)),[]):=by
 refine V_wp (vf:=vf175) rfl ?_
 unfold inZ
 by_cases h1 : lo <= n
 ·by_cases h2 : n <= hi
  ·rw [decide_eq_true ⟨h1,h2⟩]
   simp -implicitDefEqProofs (disch:=omega) only [vf175,vb175,h1,h2,go_sem,↓reduceIte,rA,rS,rE,rL,reduceCtorEq]
  ·rw [decide_eq_false (fun h=>h2 h.2)]
   simp -implicitDefEqProofs (disch:=omega) only [vf175,vb175,h1,h2,go_sem,↓reduceIte,rA,rS,rE,rL,reduceCtorEq]
 ·rw [decide_eq_false (fun h=>h1 h.1)]
  simp -implicitDefEqProofs (disch:=omega) only [vf175,vb175,h1,go_sem,↓reduceIte,rA,rS,rE,rL,reduceCtorEq]
theorem bopen_eq (b : Bk) : V 176 [b.vv] [] = some (.p (.bool (decide (b.rate = maxR))),[]):=by
 refine V_wp (vf:=vf176) rfl ?_
 simp -implicitDefEqProofs (disch:=omega) only [vf176,vb176,go_sem,↓reduceIte,rA,rS,rE,rL,reduceCtorEq]
theorem bvalid_eq (b : Bk) : V 174 [b.vv] [] = some (.p (.bool (bkOk b)),[]):=by
 refine V_wp (vf:=vf174) rfl ?_
 have i1:=bin_eq b.per 1 1048576
 have i2:=bin_eq b.now 0 1048576
 have i3:=bin_eq b.rate 0 1073741824
 have i4:=bin_eq b.burst 0 1073741824
 have i5:=bin_eq b.level 0 (b.burst * b.per)
 have op:=bopen_eq b
 unfold bkOk
 cases h1 : inZ b.per 1 1048576 with
 | false =>
  rw [h1] at i1
  simp -implicitDefEqProofs (disch:=omega) only [vf174,vb174,i1,bfa,go_sem,↓reduceIte,rA,rS,rE,rL,reduceCtorEq]
 | true =>
  rw [h1] at i1
  cases h2 : inZ b.now 0 1048576 with
  | false =>
   rw [h2] at i2
   simp -implicitDefEqProofs (disch:=omega) only [vf174,vb174,i1,i2,bfa,bta,go_sem,↓reduceIte,rA,rS,rE,rL,reduceCtorEq]
  | true =>
   rw [h2] at i2
   by_cases hm : b.rate = maxR
   ·rw [decide_eq_true hm] at op
    rw [if_pos hm]
    cases hb : decide (b.burst = 0) with
    | false=>simp -implicitDefEqProofs (disch:=omega) only [vf174,vb174,i1,i2,op,hb,bta,bfa,go_sem,↓reduceIte,rA,rS,rE,rL,reduceCtorEq]
    | true=>simp -implicitDefEqProofs (disch:=omega) only [vf174,vb174,i1,i2,op,hb,bta,go_sem,↓reduceIte,rA,rS,rE,rL,reduceCtorEq]
   ·rw [decide_eq_false hm] at op
    rw [if_neg hm]
    cases h3 : inZ b.rate 0 1073741824 with
    | false =>
     rw [h3] at i3
     simp -implicitDefEqProofs (disch:=omega) only [vf174,vb174,i1,i2,op,i3,bfa,bta,go_sem,↓reduceIte,rA,rS,rE,rL,reduceCtorEq]
    | true =>
     rw [h3] at i3
     cases h4 : inZ b.burst 0 1073741824 with
     | false =>
      rw [h4] at i4
      simp -implicitDefEqProofs (disch:=omega) only [vf174,vb174,i1,i2,op,i3,i4,bfa,bta,go_sem,↓reduceIte,rA,rS,rE,rL,reduceCtorEq]
     | true =>
      rw [h4] at i4
      have e1:=inZ_iff.1 h1
      have e4:=inZ_iff.1 h4
      have hr:=mul_range e4.1 e4.2 (show 0 <= b.per by omega) e1.2
      simp -implicitDefEqProofs (disch:=omega) only [vf174,vb174,i1,i2,op,i3,i4,i5,bta,go_sem,↓reduceIte,rA,rS,rE,rL,reduceCtorEq]
theorem badv_eq (b : Bk) (now : Int) (h : bkOk b = true) (h1 : b.now <= now) (h2 : now <= 1048576) : V 115 [b.vv,.p (.int .i64 now)] [] = some (.tup [(advB b now).vv,.p (.int .i64 0)],[]):=by
 refine V_wp (vf:=vf115) rfl ?_
 have hv:=bvalid_eq b
 rw [h] at hv
 rw [bkOk_iff] at h
 obtain ⟨hp,hw,hc⟩:=h
 have i1:=bin_eq now 0 1048576
 rw [show inZ now 0 1048576 = true from inZ_iff.2 ⟨by omega,h2⟩] at i1
 have hlt : ¬ now < b.now:=by omega
 have op:=bopen_eq b
 unfold advB
 rcases hc with ⟨e,hb,hl⟩ | ⟨e,hr,hb,hl⟩
 ·rw [if_pos e]
  rw [decide_eq_true e] at op
  simp -implicitDefEqProofs (disch:=omega) only [vf115,vb115,hv,i1,hlt,op,go_sem,↓reduceIte,rA,rS,rE,rL,reduceCtorEq]
 ·rw [if_neg e]
  rw [decide_eq_false e] at op
  have m1:=mul_range hr.1 hr.2 (show 0 <= now - b.now by omega) (show now - b.now <= 1048576 by omega)
  have m2:=mul_range hb.1 hb.2 (show 0 <= b.per by omega) hp.2
  simp -implicitDefEqProofs (disch:=omega) only [vf115,vb115,hv,i1,hlt,op,go_sem,↓reduceIte,rA,rS,rE,rL,reduceCtorEq]
theorem btok_eq (b : Bk) (h : bkOk b = true) : V 181 [b.vv] [] = some (.p (.int .i64 (tokB b)),[]):=by
 refine V_wp (vf:=vf181) rfl ?_
 have hv:=bvalid_eq b
 rw [h] at hv
 rw [bkOk_iff] at h
 obtain ⟨hp,hw,hc⟩:=h
 have op:=bopen_eq b
 unfold tokB
 rcases hc with ⟨e,hb,hl⟩ | ⟨e,hr,hb,hl⟩
 ·rw [if_pos e]
  rw [decide_eq_true e] at op
  simp -implicitDefEqProofs (disch:=omega) only [vf181,vb181,hv,op,go_sem,↓reduceIte,rA,rS,rE,rL,reduceCtorEq]
 ·rw [if_neg e]
  rw [decide_eq_false e] at op
  have m2:=mul_range hb.1 hb.2 (show 0 <= b.per by omega) hp.2
  have hp0 : ¬ b.per = 0:=by omega
  have hq : b.level.tdiv b.per = b.level / b.per:=Int.tdiv_eq_ediv_of_nonneg hl.1
  have hq0 : 0 <= b.level / b.per:=Int.ediv_nonneg hl.1 (by omega)
  have hq1 : b.level / b.per <= b.level:=Int.ediv_le_self _ hl.1
  simp -implicitDefEqProofs (disch:=omega) only [vf181,vb181,hv,op,hp0,hq,go_sem,↓reduceIte,rA,rS,rE,rL,reduceCtorEq]
abbrev Mdl.cs (m : Mdl) : List VVal:=[.p (.int .i64 m.rb),.p (.int .i64 m.rp),.p (.int .i64 m.wb),.p (.int .i64 m.wp),.p (.int .i64 m.seek)]
abbrev Mdl.vv (m : Mdl) : VVal:=.agg m.cs
theorem cin_eq (n lo hi : Int) : V 170 [.p (.int .i64 n),.p (.int .i64 lo),.p (.int .i64 hi)] [] = some (.p (.bool (inZ n lo hi)),[]):=by
 refine V_wp (vf:=vf170) rfl ?_
 unfold inZ
 by_cases h1 : lo <= n
 ·by_cases h2 : n <= hi
  ·rw [decide_eq_true ⟨h1,h2⟩]
   simp -implicitDefEqProofs (disch:=omega) only [vf170,vb170,h1,h2,go_sem,↓reduceIte,rA,rS,rE,rL,reduceCtorEq]
  ·rw [decide_eq_false (fun h=>h2 h.2)]
   simp -implicitDefEqProofs (disch:=omega) only [vf170,vb170,h1,h2,go_sem,↓reduceIte,rA,rS,rE,rL,reduceCtorEq]
 ·rw [decide_eq_false (fun h=>h1 h.1)]
  simp -implicitDefEqProofs (disch:=omega) only [vf170,vb170,h1,go_sem,↓reduceIte,rA,rS,rE,rL,reduceCtorEq]
theorem din_eq (n lo hi : Int) : V 109 [.p (.int .i64 n),.p (.int .i64 lo),.p (.int .i64 hi)] [] = some (.p (.bool (inZ n lo hi)),[]):=by
 refine V_wp (vf:=vf109) rfl ?_
 unfold inZ
 by_cases h1 : lo <= n
 ·by_cases h2 : n <= hi
  ·rw [decide_eq_true ⟨h1,h2⟩]
   simp -implicitDefEqProofs (disch:=omega) only [vf109,vb109,h1,h2,go_sem,↓reduceIte,rA,rS,rE,rL,reduceCtorEq]
  ·rw [decide_eq_false (fun h=>h2 h.2)]
   simp -implicitDefEqProofs (disch:=omega) only [vf109,vb109,h1,h2,go_sem,↓reduceIte,rA,rS,rE,rL,reduceCtorEq]
 ·rw [decide_eq_false (fun h=>h1 h.1)]
  simp -implicitDefEqProofs (disch:=omega) only [vf109,vb109,h1,go_sem,↓reduceIte,rA,rS,rE,rL,reduceCtorEq]
theorem csound_eq (r : Rq) : V 102 [r.vv] [] = some (.p (.bool (soundR r)),[]):=by
 refine V_wp (vf:=vf102) rfl ?_
 have i1:=cin_eq r.task 0 2147483647
 have i2:=cin_eq r.group 1 2147483647
 have i3:=cin_eq r.at_ 0 16777216
 have i4:=cin_eq r.pages 1 4096
 have i5:=cin_eq r.time 0 1048576
 unfold soundR
 cases h1 : inZ r.task 0 2147483647 with
 | false =>
  rw [h1] at i1
  simp -implicitDefEqProofs (disch:=omega) only [vf102,vb102,i1,bfa,go_sem,↓reduceIte,rA,rS,rE,rL,reduceCtorEq]
 | true =>
  rw [h1] at i1
  cases h2 : inZ r.group 1 2147483647 with
  | false =>
   rw [h2] at i2
   simp -implicitDefEqProofs (disch:=omega) only [vf102,vb102,i1,i2,bfa,bta,go_sem,↓reduceIte,rA,rS,rE,rL,reduceCtorEq]
  | true =>
   rw [h2] at i2
   cases h3 : inZ r.at_ 0 16777216 with
   | false =>
    rw [h3] at i3
    simp -implicitDefEqProofs (disch:=omega) only [vf102,vb102,i1,i2,i3,bfa,bta,go_sem,↓reduceIte,rA,rS,rE,rL,reduceCtorEq]
   | true =>
    rw [h3] at i3
    cases h4 : inZ r.pages 1 4096 with
    | false =>
     rw [h4] at i4
     simp -implicitDefEqProofs (disch:=omega) only [vf102,vb102,i1,i2,i3,i4,bfa,bta,go_sem,↓reduceIte,rA,rS,rE,rL,reduceCtorEq]
    | true =>
     rw [h4] at i4
     have e3:=inZ_iff.1 h3
     have e4:=inZ_iff.1 h4
     by_cases h5 : r.at_ + r.pages <= 16777216
     .simp -implicitDefEqProofs (disch:=omega) only [vf102,vb102,i1,i2,i3,i4,i5,h5,bta,go_sem,↓reduceIte,rA,rS,rE,rL,reduceCtorEq]
     .simp -implicitDefEqProofs (disch:=omega) only [vf102,vb102,i1,i2,i3,i4,i5,h5,bfa,bta,go_sem,↓reduceIte,rA,rS,rE,rL,reduceCtorEq]
def mAll (l : List Int) : Bool:=l.all fun n=>inZ n 0 1000000
theorem cvalidM_eq (m : Mdl) : V 141 [m.vv] [] = some (.p (.bool (modelOk m)),[]):=by
 refine V_wp (vf:=vf141) rfl ?_
 have hM : modelOk m = mAll [m.rb,m.rp,m.wb,m.wp,m.seek]:=by simp [mAll,modelOk,Bool.and_assoc]
 rw [hM]
 simp -implicitDefEqProofs (disch:=omega) only [vf141,vb141,go_sem,↓reduceIte,rA,rS,rE,rL,reduceCtorEq]
 obtain ⟨I,hI⟩ : ∃ I : Nat -> St -> Prop,∀ k s,I k s ↔ mAll [m.rb,m.rp,m.wb,m.wp,m.seek] = mAll ([m.rb,m.rp,m.wb,m.wp,m.seek].drop k) /\ s.pe 2 = .p (.bool false) /\ s.pe 15 = m.vv /\ s.pe 16 = .p (.int .i64 k):=⟨_,fun _ _=>Iff.rfl⟩
 refine wp_count (5) I ?_ ?_
 ·refine (hI _ _).2 ⟨?_,?_,?_,?_⟩
  ·exact cl3
  all_goals exact cl0
 intro k s hk hIk
 obtain ⟨hq,h2,h15,h16⟩:=(hI _ _).1 hIk
 clear hIk
 simp -implicitDefEqProofs (disch:=omega) only [h2,h15,h16,go_sem,↓reduceIte,rA,rS,rE,rL,reduceCtorEq]
 refine wp_if_d (fun hlt=>?_) (fun hge=>?_)
 ·have hk5' : (k : Int) < 5:=hlt
  have hk5 : k < 5:=by omega
  obtain ⟨n,hm,hcs⟩ : ∃ n,[m.rb,m.rp,m.wb,m.wp,m.seek][k]? = some n /\ m.cs[k * 1]? = some (.p (.int .i64 n)):=by
   have : k = 0 \/ k = 1 \/ k = 2 \/ k = 3 \/ k = 4:=by omega
   rcases this with rfl | rfl | rfl | rfl | rfl <;> exact ⟨_,rfl,rfl⟩
  have hd : mAll ([m.rb,m.rp,m.wb,m.wp,m.seek].drop k) = (inZ n 0 1000000 && mAll ([m.rb,m.rp,m.wb,m.wp,m.seek].drop (k + 1))):=by
   have hk : k < [m.rb,m.rp,m.wb,m.wp,m.seek].length:=hk5
   rw [ldg hk,mAll,List.all_cons]
   rw [lgg hk] at hm
   cases hm
   rfl
  rw [hd] at hq
  have hin:=cin_eq n 0 1000000
  cases hb : inZ n 0 1000000 with
  | false =>
   rw [hb] at hin hq
   have hF : mAll [m.rb,m.rp,m.wb,m.wp,m.seek] = false:=hq.trans (bfa _)
   simp -implicitDefEqProofs (disch:=omega) only [h2,h15,h16,hlt,hcs,hin,hF,go_sem,↓reduceIte,rA,rS,rE,rL,reduceCtorEq]
  | true =>
   rw [hb] at hin hq
   simp -implicitDefEqProofs (disch:=omega) only [h2,h15,h16,hlt,hcs,hin,go_sem,↓reduceIte,rA,rS,rE,rL,reduceCtorEq]
   try refine And.intro (by omega) ?_
   refine (hI _ _).2 ⟨?_,?_,?_,?_⟩
   .exact hq.trans (bta _)
   all_goals exact cl0
 ·have hT : mAll [m.rb,m.rp,m.wb,m.wp,m.seek] = true:=by
   rw [hq,List.drop_eq_nil_of_le (by simp; omega)]
   rfl
  simp -implicitDefEqProofs (disch:=omega) only [h2,h15,h16,hge,hT,go_sem,↓reduceIte,rA,rS,rE,rL,reduceCtorEq]
end Go.V
