/- Part 9 of the proof. -/
import Derived.Test.YtekkdllchjmhdaaGreatF8
import Derived.Orders
import Derived.Still
import Derived.Scope
import Derived.ProofKit
set_option linter.unusedSectionVars false
set_option linter.unusedSimpArgs false
set_option linter.unusedVariables false
set_option maxHeartbeats 32000000
open Nat renaming le_refl → lrf
open List renaming getElem?_eq_getElem → lgg, getElem?_eq_some_iff → lgs, mem_of_getElem? → lmg, mem_cons_of_mem → lmc, map_cons → lpc, nil_append → lna, mem_map → lmm, mem_cons_self → lms, map_append → lma, getElem?_of_mem → lgm, length_cons → llc, flatMap_cons → lfc, getElem?_append_right → lgr, mem_cons → lmk, length_nil → lln, mem_append → lmp, pairwise_cons → lpw, cons_append → lca
open Option renaming some.injEq → osi
open Bool renaming and_eq_true → bat, false_eq_true → bft, or_eq_true → bot
open Array renaming getElem?_eq_some_iff → ags, getElem?_eq_getElem → aggz, getD_eq_getD_getElem? → agd
open Prod renaming mk.injEq → pmi
namespace Go.V
open Go.RowKit
section
variable [GK]
theorem Jm {a:Act} {t s:Nat} {c:Value} (ht:t<a.tmps.size):(a.put (some t) c).tmps.getD s Go.undef=if s=t then c else a.tmps.getD s Go.undef:=by
 simp only [Act.put,agd,Array.getElem?_setIfInBounds]
 by_cases h:t=s
 .subst h;simp [ht]
 .simp [h,Ne.symm h]
theorem QN {vs:List Nat} {n:Nat} {G G':Gh} {r:RS} {a:Act} {w w':World} {h':VHeap} (hr:RRel vs n G r a w) (hs:Step G r.h w G' h' w') {t:Option Tmp} {d:VDst} (hd:Mj vs n t d=true) {val:VVal} {c:Value} (hv:VRel G' h' w' val c) :
  RRel vs n G' { r.put d val with h:=h' } (a.put t c) w':=by
 unfold Mj at hd
 split at hd
 ·exact ⟨fun s hm=>(hr.pe s hm).mono hs,fun s v hv=>⟨(hr.te s v hv).1,(hr.te s v hv).2.mono hs⟩,hr.defers,hr.size,hr.good.step hs⟩
 ·rename_i t s
  simp only [bat,beq_iff_eq,decide_eq_true_eq,List.contains_iff_mem] at hd
  obtain ⟨⟨rfl,hm⟩,hlt⟩:=hd
  have hlt':t<a.tmps.size:=Nat.lt_of_lt_of_le hlt hr.size
  refine ⟨fun s' hm'=>?_,fun s' v' hv'=>?_,hr.defers,by simp [Act.put];exact hr.size,hr.good.step hs⟩
  ·rw [Jm hlt']
   simp only [RS.put,D6]
   split
   ·exact hv
   ·exact (hr.pe s' hm').mono hs
  ·simp only [RS.put] at hv'
   obtain ⟨h1,h2⟩:=hr.te s' v' hv'
   refine ⟨h1,?_⟩
   rw [Jm hlt',if_neg (fun e:s'=t=>h1 (by rw [e];exact hm))]
   exact h2.mono hs
 ·rename_i t s
  simp only [bat,beq_iff_eq,decide_eq_true_eq,Bool.not_eq_true'] at hd
  obtain ⟨⟨rfl,hm⟩,hlt⟩:=hd
  have hm':t ∉ vs:=fun h=>by rw [<- List.contains_iff_mem,hm] at h;cases h
  have hlt':t<a.tmps.size:=Nat.lt_of_lt_of_le hlt hr.size
  refine ⟨fun s' hs'=>?_,fun s' v' hv'=>?_,hr.defers,by simp [Act.put];exact hr.size,hr.good.step hs⟩
  ·rw [Jm hlt',if_neg (fun e:s'=t=>hm' (by rw [<- e];exact hs'))]
   exact (hr.pe s' hs').mono hs
  ·simp only [RS.put,E0] at hv'
   rw [Jm hlt']
   split at hv'
   ·rename_i e
    subst e
    simp at hv'
    subst hv'
    simp only [if_true]
    exact ⟨hm',hv⟩
   ·rename_i e
    rw [if_neg e]
    exact ⟨(hr.te s' v' hv').1,(hr.te s' v' hv').2.mono hs⟩
 .cases hd
noncomputable def B1 (Γ:Sig) (look:VArg->Option VVal) (h:VHeap) (o:VOper):Option (VVal × List (Id × Nat × Ob)) :=
 match o.guard with
 | none=>Ai Γ look h o.dst.slot o.op
 | some (g,want)=>match look g with
  | some (.p (.bool b))=>if b == want then Ai Γ look h o.dst.slot o.op else some (.undef,[])
  | some .undef=>some (.undef,[])
  | _=>none
noncomputable abbrev C1 (Γ:Sig) (o:VOper) (r:RS):Option (VVal × List (Id × Nat × Ob)):=B1 Γ r.look r.h o
def RS.app (r:RS) (o:VOper) (q:VVal × List (Id × Nat × Ob)):RS:={ r.put o.dst q.1 with h:=r.h.upds q.2 }
theorem QC (r:RS) (o:VOper):r.app o (.undef,[])=r.put o.dst .undef:=by
 unfold RS.app
 simp only [VHeap.upds]
 cases o.dst<;>rfl
theorem PS {Γ:Sig} {o:VOper} {r r':RS} (h:BW Γ o r=some r'):∃ q,C1 Γ o r=some q/\r'=r.app o q:=by
 unfold BW at h
 unfold C1 B1
 cases hg:o.guard with
 | none =>
  rw [hg] at h
  obtain ⟨q,hq,h⟩:=Aa h
  simp at h
  exact ⟨q,hq,h.symm⟩
 | some gw =>
  obtain ⟨g,want⟩:=gw
  rw [hg] at h
  obtain ⟨gv,hgv,h⟩:=Aa h
  simp only [hgv]
  split at h
  ·rename_i b
   cases hb:b == want with
   | true =>
    rw [hb,EU] at h
    obtain ⟨q,hq,h⟩:=Aa h
    simp at h
    exact ⟨q,by simp only [hb,if_true];exact hq,h.symm⟩
   | false =>
    rw [hb,ES] at h
    simp at h
    exact ⟨(.undef,[]),by simp only [hb,bft,if_false],by rw [QC];exact h.symm⟩
  ·simp at h
   exact ⟨(.undef,[]),rfl,by rw [QC];exact h.symm⟩
  .cases h
theorem NL {P:Program} {vs:List Nat} {n:Nat} {ops:Array Oper}:∀ {os:List Oper} {us:List VOper},GW P vs n ops os us=true->us.length=os.length/\∀ (i:Nat) (o:Oper) (u:VOper),os[i]?=some o->us[i]?=some u->Fj P vs n ops o u=true
 | [],[],_=>⟨rfl,fun i o u h=>by simp at h⟩
 | o::os,u::us,h=>by
  simp only [GW,bat] at h
  obtain ⟨h1,h2⟩:=NL h.2
  refine ⟨by simp [h1],fun i o' u' ho hu=>?_⟩
  cases i with
  | zero=>simp at ho hu;subst ho;subst hu;exact h.1
  | succ i=>simp at ho hu;exact h2 i o' u' ho hu
 | [],_::_,h=>by simp [GW] at h
 | _::_,[],h=>by simp [GW] at h
section
variable {P:Program} {Γ:Sig} (hΓ:C8 P Γ) {vs:List Nat} {n:Nat}
include hΓ
theorem NA {G:Gh} {r:RS} {a:Act} {w:World} (hr:RRel vs n G r a w) (hi:HeapInv G r.h w) {ops:Array Oper} {o:Oper} {v:VOper} (hok:Fj P vs n ops o v=true) {i:Nat} (hoi:ops[i]?=some o)
  {q : VVal × List (Id × Nat × Ob)} (he : C1 Γ v r=some q) {K : Act->World->Prop} {Q : Exit->Act->World->Prop}
  (hK:∀ a' w' G',Step G r.h w G' (r.app v q).h w'->HeapInv G' (r.app v q).h w'->RRel vs n G' (r.app v q) a' w'->K a' w'):wpOp P ops Q i K a w:=by
 simp only [Fj,bat] at hok
 obtain ⟨⟨hd,hg⟩,hop⟩:=hok
 unfold wpOp
 simp only [hoi]
 have run:Ai Γ r.look r.h v.dst.slot v.op=some q->o.wp P a w K Q:=fun hq=>by
  refine VT hΓ hr hi rfl hop (val:=q.1) (us:=q.2) hq K Q fun c w' G' hs hinv hv=>?_
  exact hK _ w' G' hs hinv (QN hr hs hd hv)
 have skip:q=(.undef,[])->K (a.put o.dst Go.undef) w:=fun hq=>by
  subst hq
  refine hK _ w G (Step.refl _ _ _) hi ?_
  exact QN hr (Step.refl _ _ _) hd .undef
 unfold C1 B1 at he
 unfold QR at hg
 split at hg
 ·rename_i h1 h2
  rw [h2] at he
  simp only at he
  rw [show Region.wanted o (yielded ops a.tmps)=true by simp [Region.wanted,h1]]
  exact .inl (run he)
 ·rename_i j w0 g w1 h1 h2
  rw [h2] at he
  simp only [bat,beq_iff_eq] at hg
  obtain ⟨rfl,hg⟩:=hg
  split at hg<;>try (cases hg;done)
  rename_i t ht
  simp only at he
  split at he
  ·rename_i b hb
   have hv:=E9 (Av hr hg hb)
   have hy:yielded ops a.tmps j=some b:=by
    simp only [Act.eval] at hv
    unfold yielded
    rw [ht]
    simp only [Option.bind_some]
    cases hx:a.tmps[t]? with
    | none=>simp [agd,hx,Go.undef] at hv
    | some x=>simp [agd,hx] at hv;subst hv;rfl
   simp only [Region.wanted,h1,hy]
   split at he
   ·rename_i e
    simp only [beq_iff_eq] at e
    subst e
    simp only [beq_self_eq_true,if_true]
    exact .inl (run he)
   ·rename_i e
    have:(some b == some w0)=false:=by simpa using e
    rw [this]
    simp at he
    exact skip he.symm
  ·rename_i hb
   have hv:=Av hr hg hb
   have hy:yielded ops a.tmps j=none:=by
    simp only [Act.eval] at hv
    unfold yielded
    rw [ht]
    simp only [Option.bind_some]
    cases hx:a.tmps[t]? with
    | none=>rfl
    | some x =>
     simp [agd,hx] at hv
     cases hv
     rfl
   simp only [Region.wanted,h1,hy]
   simp at he
   exact skip he.symm
  .cases he
 .cases hg
end
end
end Go.V
namespace Go.V
def Agree (p:Id->Prop) (h h':VHeap):Prop:=∀ id,p id->h' id=h id
theorem Agree.upds {p:Id->Prop}:∀ (us:List (Id × Nat × Ob)) {h h':VHeap},Agree p h h'->Agree p (h.upds us) (h'.upds us)
 | [],_,_,ha=>ha
 | (id,o)::us,_,_,ha=>Agree.upds us fun i hi=>by
  simp only [VHeap.upd]
  split
  .rfl
  .exact ha i hi
theorem LF:∀ (us:List (Id × Nat × Ob)) (h h':VHeap) (id:Id),id∈us.map (·.1)->h.upds us id=h'.upds us id
 | [],_,_,_,hm=>by simp at hm
 | (i,o)::us,h,h',id,hm=>by
  simp only [VHeap.upds]
  by_cases hin:id∈us.map (·.1)
  ·exact LF us _ _ id hin
  ·rw [Cg us _ id hin,Cg us _ id hin]
   simp at hm
   rcases hm with rfl|hm
   .simp [VHeap.upd]
   .exact absurd (by simpa using hm) hin
theorem XY (us us':List (Id × Nat × Ob)) (h:VHeap) (hd:∀ id,id∈us.map (·.1)->id∈us'.map (·.1)->False):(h.upds us).upds us'=(h.upds us').upds us:=by
 funext id
 by_cases h1:id∈us'.map (·.1)
 ·have h2:id ∉ us.map (·.1):=fun h2=>hd id h2 h1
  rw [LF us' (h.upds us) h id h1,Cg us _ id h2]
 ·rw [Cg us' _ id h1]
  by_cases h2:id∈us.map (·.1)
  .rw [LF us (h.upds us') h id h2]
  .rw [Cg us _ id h2,Cg us _ id h2,Cg us' _ id h1]
theorem BD {α β:Type} {f g:α->Option β}:∀ {l:List α},(∀ x∈l,f x=g x)->Ad f l=Ad g l
 | [],_=>rfl
 | x::xs,h=>by
  simp only [Ad]
  rw [h x (lms ..),BD fun y hy=>h y (lmc _ hy)]
section
variable {p:Id->Prop} {h h':VHeap}
theorem Eg {v:VVal} {id:Id} (hm:id∈ids0 v):id∈ids1 v:=by
 cases v<;>simp_all [ids0,ids1]
theorem WU {v:VVal} (ha:∀ id∈ids0 v,h' id=h id):FA h' v=FA h v:=by
 cases v with
 | ptr=>simp only [FA,ids0] at ha ⊢;rw [ha _ (List.mem_singleton_self _)]
 | eptr=>simp only [FA,ids0] at ha ⊢;rw [ha _ (List.mem_singleton_self _)]
 | _=>rfl
theorem Km {v:VVal} (ha:∀ id∈ids0 v,h' id=h id):A0 h' v=A0 h v:=by
 cases v with
 | p d=>cases d<;>rfl
 | own=>simp only [A0,ids0] at ha ⊢;rw [ha _ (List.mem_singleton_self _)]
 | _=>rfl
theorem MP {v:VVal} (ha:∀ id∈ids0 v,h' id=h id):CC h' v=CC h v:=by
 cases v with
 | p d=>cases d<;>rfl
 | mref=>simp only [CC,ids0] at ha ⊢;rw [ha _ (List.mem_singleton_self _)]
 | _=>rfl
theorem MO {n:Nat} {vs:List VVal} {v:VVal} (ha:∀ id∈ids0 v,h' id=h id):DR h' n vs v=DR h n vs v:=by
 cases v with
 | ptr=>simp only [DR,ids0] at ha ⊢;rw [ha _ (List.mem_singleton_self _)]
 | eptr=>simp only [DR,ids0] at ha ⊢;rw [ha _ (List.mem_singleton_self _)]
 | _=>rfl
theorem UU {sz i:Nat} {v:VVal} (ha:∀ id∈ids0 v,h' id=h id):Ef h' sz i v=Ef h sz i v:=by
 cases v with
 | p d=>cases d<;>rfl
 | own=>simp only [Ef,ids0] at ha ⊢;rw [ha _ (List.mem_singleton_self _)]
 | _=>rfl
theorem N6 {sz l m:Nat} {v:VVal} (ha:∀ id∈ids0 v,h' id=h id):Du h' sz l m v=Du h sz l m v:=by
 cases v with
 | p d=>cases d<;>rfl
 | own=>simp only [Du,ids0] at ha ⊢;rw [ha _ (List.mem_singleton_self _)]
 | _=>rfl
theorem Nr {d j:Nat} {z:ZC} (ha:∀ k,h' (.slot d k)=h (.slot d k)):zcell d h' j z=zcell d h j z:=by
 cases z<;>simp only [zcell,ha]
theorem KU {d:Nat} (us:List (Id × Nat × Ob)) (ha:∀ k,h' (.slot d k)=h (.slot d k)):∀ k,(h'.upds us) (.slot d k)=(h.upds us) (.slot d k):=fun k =>
 Agree.upds (p:=fun id=>∃ k,id=.slot d k) us (fun _ ⟨k,e⟩=>e ▸ ha k) _ ⟨k,rfl⟩
end
theorem M4 {d:Nat}:∀ (zs:List ZC) (j:Nat) (h h':VHeap),(∀ k,h' (.slot d k)=h (.slot d k))->zcells d h' j zs=zcells d h j zs
 | [],_,_,_,_=>rfl
 | z::zs,j,h,h',ha=>by
  simp only [zcells]
  rw [Nr ha,M4 zs (j+1) _ _ (KU _ ha)]
theorem Kq {look:VArg->Option VVal} {d:Nat}:∀ (bs:List BC) (j:Nat) (h h':VHeap),(∀ k,h' (.slot d k)=h (.slot d k))->BV look d h' j bs=BV look d h j bs
 | [],_,_,_,_=>rfl
 | .z z::bs,j,h,h',ha=>by
  simp only [BV]
  rw [Nr ha,Kq bs (j+1) _ _ (KU _ ha)]
 | .a x i n::bs,j,h,h',ha=>by
  simp only [BV]
  rw [Kq bs (j+1) _ _ ha]
theorem FL:∀ (l R:List Id) {i:Id},i∈R->i∈B9 R l
 | [],_,_,h=>h
 | x::xs,R,i,h=>by
  simp only [B9]
  refine FL xs _ ?_
  split
  .exact h
  .exact lmp.2 (.inl h)
theorem MW {h h':VHeap} {l:List Id} (ha:∀ id∈l,h' id=h id):l.flatMap (FX h')=l.flatMap (FX h):=by
 induction l with
 | nil=>rfl
 | cons x xs ih =>
  simp only [lfc]
  rw [ih fun id hm=>ha id (lmc _ hm)]
  simp only [FX,ha x (lms ..)]
theorem Kv {h h':VHeap} {args:List VVal} (ha:∀ id∈roots h args,h' id=h id):roots h' args=roots h args:=by
 simp only [roots] at ha ⊢
 split
 ·rfl
 ·rename_i hne
  rw [if_neg hne] at ha
  have h0:=MW (h:=h) (h':=h') (l:=B9 [] (args.flatMap Hi)) fun id hm=>ha id (FL _ _ (FL _ _ hm))
  rw [h0]
  have h1:=MW (h:=h) (h':=h') (l:=B9 (B9 [] (args.flatMap Hi)) ((B9 [] (args.flatMap Hi)).flatMap (FX h))) fun id hm=>ha id (FL _ _ hm)
  rw [h1]
theorem KD {h h':VHeap} {id:Id} {ver:Nat} (ha:h' id=h id):BG h' id ver=BG h id ver:=by simp only [BG,ha]
theorem OO {R:List Id} {h h':VHeap} {v:VVal} (ha:∀ id∈ids0 v,h' id=h id):Bj R h' v=Bj R h v:=by
 cases v<;>simp only [Bj]
 case own=>rw [Km ha]
 case mref=>rw [MP ha]
 case ptr=>simp only [ids0] at ha;rw [KD (ha _ (List.mem_singleton_self _))]
 case eptr=>simp only [ids0] at ha;rw [ha _ (List.mem_singleton_self _)]
theorem Xx {R:List Id} {h h':VHeap} {v:VVal} (ha:∀ id∈ids1 v,h' id=h id):B3 R h' v=B3 R h v:=by
 cases v<;>simp only [B3]<;>try (exact OO fun id hm=>ha id (Eg hm))
 all_goals
  rw [BD fun x hx=>OO fun id hm=>ha id (by simp only [ids1,List.mem_flatMap];exact ⟨x,hx,hm⟩)]
theorem O7 {R:List Id} {id:Id} (h:id ∉ R):BN R id=none:=by
 cases hp:BN R id with
 | none=>simp only [At]
 | some i=>exact absurd (lmg (CM hp)) h
theorem Q2 {α:Type} (c:Prop) [Decidable c] (u:Tok (none:Option α)):gd c (none:Option α) u=none:=by
 unfold gd
 split<;>rfl
theorem Qx {R:List Id} {h h':VHeap} {v:VVal} (ha:∀ id∈R,h' id=h id) (hl:Hb v=false):Bj R h' v=Bj R h v:=by
 cases v<;>simp only [Bj]<;>try (simp [Hb] at hl;done)
 rename_i id ver off
 by_cases hm:id∈R
 ·rw [KD (ha id hm)]
 ·rw [O7 hm]
  simp only [At,Q2]
theorem zas {R:List Id} {h h':VHeap} {v:VVal} (ha:∀ id∈R,h' id=h id) (hl:D3 v=false):B3 R h' v=B3 R h v:=by
 cases v<;>simp only [B3,D3] at hl ⊢<;>try (exact Qx ha hl)
 all_goals
  rw [BD fun x hx=>Qx ha (by
   rw [List.any_eq_false] at hl
   simpa using hl x hx)]
theorem VR {R:List Id} {h h':VHeap} {id:Id} (hid:id∈R) (ha:∀ id∈R,h' id=h id):C0 R h' id=C0 R h id:=by
 simp only [C0,ha id hid]
 split
 ·rename_i cs _
  by_cases hl:cs.any D3=false
  ·simp only [gd,if_pos hl]
   rw [BD fun x hx=>zas ha (by
    rw [List.any_eq_false] at hl
    simpa using hl x hx)]
  .simp only [gd,if_neg hl]
 .rfl
section
variable {R:List Id} {h h':VHeap} (ha:∀ id∈R,h' id=h id)
include ha
theorem KC (v:VVal):CH R h' v=CH R h v:=by
 unfold CH
 split
 ·rfl
 ·rename_i i off
  cases hi:R[i]? with
  | none=>simp only [At]
  | some id =>
   simp only [Ah]
   rw [ha id (lmg hi)]
 ·rename_i i j off
  cases hi:R[i]? with
  | none=>simp only [At]
  | some id =>
   simp only [Ah]
   rw [ha id (lmg hi)]
 .rfl
theorem WK (v:VVal):D4 R h' v=D4 R h v:=by
 cases v<;>simp only [D4]<;>try (exact KC ha _)
 rw [BD fun x _=>KC ha x]
theorem MN:∀ (ids:List Id) (os:List Ob),(∀ id∈ids,id∈R)->Da R h' ids os=Da R h ids os
 | [],[],_=>rfl
 | [],_::_,_=>rfl
 | _::_,[],_=>rfl
 | id::ids,o::os,hs=>by
  cases o<;>simp only [Da]
  rw [BD fun x _=>WK ha x,ha id (hs id (lms ..)),MN ids os fun i hi=>hs i (lmc _ hi)]
variable {d:Nat} (hd:∀ k,h' (.slot d k)=h (.slot d k))
include hd
theorem K8 (j:Nat) (v:VVal):in0 R h' d j v=in0 R h d j v:=by
 unfold in0
 split
 .rw [hd]
 .rw [KC ha]
theorem K7:∀ (j:Nat) (vs:List VVal),inL R h' d j vs=inL R h d j vs
 | _,[]=>rfl
 | j,v::vs=>by
  simp only [inL]
  rw [K8 ha hd,K7 (j+1) vs]
theorem Pv (j:Nat) (v:VVal):in1 R h' d j v=in1 R h d j v:=by
 unfold in1
 split
 .rw [K7 ha hd]
 .rw [K7 ha hd,hd]
 .rw [K8 ha hd]
theorem Pq:∀ (j:Nat) (vs:List VVal),inT R h' d j vs=inT R h d j vs
 | _,[]=>rfl
 | j,v::vs=>by
  simp only [inT]
  rw [Pv ha hd,Pq (j+Er v) vs]
theorem NN (v:VVal):C4 R h' d v=C4 R h d v:=by
 unfold C4
 split
 .rw [Pq ha hd]
 .rw [Pv ha hd]
end
theorem Vw {Γ:Sig} {h h':VHeap} {d:Nat} {f:FuncId} {args:List VVal} {R:List Id} (h1:∀ v∈args,∀ id∈ids1 v,h' id=h id) (h2:∀ id∈R,h' id=h id) (hd:∀ k,h' (.slot d k)=h (.slot d k)) :
  Dg Γ h' d f args R=Dg Γ h d f args R:=by
 unfold Dg
 have e1:Ad (B3 R h') args=Ad (B3 R h) args:=BD fun x hx=>Xx (h1 x hx)
 have e2:Ad (C0 R h') R=Ad (C0 R h) R:=BD fun x hx=>VR hx h2
 have e3:∀ os,Da R h' R os=Da R h R os:=fun os=>MN h2 R os fun _ h=>h
 have e4:∀ v,C4 R h' d v=C4 R h d v:=fun v=>NN h2 hd v
 rw [e1,e2]
 cases Ad (B3 R h) args with
 | none=>simp only [At]
 | some args' =>
  cases Ad (C0 R h) R with
  | none=>simp only [At]
  | some H =>
   cases hr:Γ f args' H with
   | none=>simp only [Ah,hr,At]
   | some r =>
    simp only [Ah,hr]
    rw [e3,e4]
theorem It {Γ:Sig} {h h':VHeap} {d:Nat} {f:FuncId} {args:List VVal} (h1:∀ v∈args,∀ id∈ids1 v,h' id=h id) (h2:∀ id∈roots h args,h' id=h id) (hd:∀ k,h' (.slot d k)=h (.slot d k)) :
  CO Γ h' d f args=CO Γ h d f args:=by
 unfold CO
 rw [Kv h2]
 exact Vw h1 h2 hd
theorem MQ {h h':VHeap} {l:List Id} (ha:∀ id∈l,h' id=h id):l.flatMap (FP h')=l.flatMap (FP h):=by
 induction l with
 | nil=>rfl
 | cons x xs ih =>
  simp only [lfc]
  rw [ih fun id hm=>ha id (lmc _ hm)]
  simp only [FP,ha x (lms ..)]
theorem Na {h h':VHeap} {args:List VVal} (ha:∀ id∈rootsW h args,h' id=h id):rootsW h' args=rootsW h args:=by
 simp only [rootsW] at ha ⊢
 split
 ·rfl
 ·rename_i hne
  rw [if_neg hne] at ha
  have h0:=MQ (h:=h) (h':=h') (l:=B9 [] (args.flatMap G7)) fun id hm=>ha id (FL _ _ (FL _ _ hm))
  rw [h0]
  have h1:=MQ (h:=h) (h':=h') (l:=B9 (B9 [] (args.flatMap G7)) ((B9 [] (args.flatMap G7)).flatMap (FP h))) fun id hm=>ha id (FL _ _ hm)
  rw [h1]
theorem UN {h h':VHeap} {op:VOp} {args:List VVal} (ha:∀ id∈callRoots h op args,h' id=h id):callRoots h' op args=callRoots h op args:=by
 cases op<;>first|exact Na ha|exact Kv ha|exact congrArg (List.cons _) (Kv fun id hm=>ha id (lmc _ hm))
theorem NP {R:List Id} {h h':VHeap} {v:VVal} (ha:∀ id∈R,h' id=h id):By R h' v=By R h v:=by
 have key:∀ (id:Id) (ver:Nat) (f:Nat->Option VVal),gd (BG h' id ver=true) (ob (BN R id) f)=gd (BG h id ver=true) (ob (BN R id) f):=fun id ver f=>by
  by_cases hm:id∈R
  ·rw [KD (ha id hm)]
  ·rw [O7 hm]
   simp only [At,Q2]
 cases v<;>simp only [By]<;>exact key _ _ _
theorem NO {R:List Id} {h h':VHeap} {v:VVal} (ha:∀ id∈R,h' id=h id):Cw R h' v=Cw R h v:=by
 cases v<;>simp only [Cw]<;>try (exact NP ha)
 all_goals rw [BD fun x _=>NP ha]
theorem VQ {R:List Id} {h h':VHeap} {id:Id} (hid:id∈R) (ha:∀ id∈R,h' id=h id):DG R h' id=DG R h id:=by
 simp only [DG,ha id hid]
 split
 .rw [BD fun x _=>NO ha]
 .rfl
 .rfl
 .rfl
section
variable {R:List Id} {h h':VHeap} (ha:∀ id∈R,h' id=h id)
include ha
theorem Nn (v:VVal):CG R h' v=CG R h v:=by
 have key:∀ (i:Nat) (f:Id->Nat × Ob->Option VVal),(ob R[i]? fun id=>ob (h' id) (f id))=ob R[i]? fun id=>ob (h id) (f id):=fun i f=>by
  cases hi:R[i]? with
  | none=>simp only [At]
  | some id =>
   simp only [Ah]
   rw [ha id (lmg hi)]
 unfold CG
 split
 .rfl
 .exact key _ _
 .exact key _ _
 .exact key _ _
 .exact key _ _
 .rfl
theorem V2 (v:VVal):DH R h' v=DH R h v:=by
 cases v<;>simp only [DH]<;>try (exact Nn ha _)
 rw [BD fun x _=>Nn ha x]
variable {d:Nat} (hd:∀ k,h' (.slot d k)=h (.slot d k))
include hd
theorem YE (j:Nat) (v:VVal):inC R h' d j v=inC R h d j v:=by
 unfold inC
 split
 .rw [hd]
 .rw [V2 ha]
theorem OG:∀ (j:Nat) (vs:List VVal),Ce R h' d j vs=Ce R h d j vs
 | _,[]=>rfl
 | j,v::vs=>by
  simp only [Ce]
  rw [YE ha hd,OG (j+1) vs]
theorem M1:∀ (j:Nat) (ids:List Id) (os:List Ob),(∀ id∈ids,id∈R)->BL R h' d j ids os=BL R h d j ids os
 | _, [], [], _=>rfl
 | _, [], _::_, _=>rfl
 | _, _::_, [], _=>rfl
 | j, id::ids, o::os, hs=>by
  have ih:=fun k=>M1 k ids os fun i hi=>hs i (lmc _ hi)
  simp only [BL]
  rw [ha id (hs id (lms ..))]
  cases h id with
  | none=>simp only [At]
  | some q =>
   simp only [Ah]
   split
   ·rw [OG ha hd]
    cases Ce R h d j _ with
    | none=>simp only [At]
    | some r =>
     simp only [Ah]
     rw [ih]
   .rw [ih]
   .rw [ih]
   .rw [ih]
   .rfl
end
theorem Xq {R:List Id} {h h':VHeap} {d j:Nat} (h2:∀ id∈R,h' id=h id) (hd:∀ k,h' (.slot d k)=h (.slot d k)) (v:VVal):Dw R h' d j v=Dw R h d j v:=by
 unfold Dw
 split
 ·rename_i i off len
  cases hR:R[i]? with
  | none=>simp only [At]
  | some id=>simp only [Ah,h2 id (lmg hR)]
 ·rename_i i off len
  cases hR:R[i]? with
  | none=>simp only [At]
  | some id=>simp only [Ah,h2 id (lmg hR)]
 .exact K8 h2 hd _ _
theorem OF {R:List Id} {h h':VHeap} {d:Nat} (h2:∀ id∈R,h' id=h id) (hd:∀ k,h' (.slot d k)=h (.slot d k)):∀ (vs:List VVal) (j:Nat),Cz R h' d j vs=Cz R h d j vs
 | [],_=>rfl
 | v::vs,j=>by
  simp only [Cz]
  rw [Xq h2 hd,OF h2 hd vs (j+1)]
theorem VM {R:List Id} {h h':VHeap} {d:Nat} (h2:∀ id∈R,h' id=h id) (hd:∀ k,h' (.slot d k)=h (.slot d k)) (v:VVal):Dq R h' d v=Dq R h d v:=by
 unfold Dq
 split
 ·rename_i i off len
  cases hR:R[i]? with
  | none=>simp only [At]
  | some id=>simp only [Ah,h2 id (lmg hR)]
 ·rename_i i off len
  cases hR:R[i]? with
  | none=>simp only [At]
  | some id=>simp only [Ah,h2 id (lmg hR)]
 .rw [OF h2 hd]
 .exact NN h2 hd _
theorem Vd {Γ:Sig} {h h':VHeap} {d:Nat} {f:FuncId} {args:List VVal} {R:List Id} (h2:∀ id∈R,h' id=h id) (hd:∀ k,h' (.slot d k)=h (.slot d k)) :
  Dd Γ h' d f args R=Dd Γ h d f args R:=by
 unfold Dd
 have e1:Ad (Cw R h') args=Ad (Cw R h) args:=BD fun x _=>NO h2
 have e2:Ad (DG R h') R=Ad (DG R h) R:=BD fun x hx=>VQ hx h2
 have e3:∀ os,BL R h' d 1000 R os=BL R h d 1000 R os:=fun os=>M1 h2 hd 1000 R os fun _ h=>h
 have e4:∀ v,Dq R h' d v=Dq R h d v:=fun v=>VM h2 hd v
 rw [e1,e2]
 cases Ad (Cw R h) args with
 | none=>simp only [At]
 | some args' =>
  cases Ad (DG R h) R with
  | none=>simp only [At]
  | some H =>
   cases hr:Γ f args' H with
   | none=>simp only [Ah,hr,At]
   | some r =>
    simp only [Ah,hr]
    rw [e3,e4]
theorem Gn {Γ:Sig} {h h':VHeap} {d:Nat} {f:FuncId} {args:List VVal} (h2:∀ id∈rootsW h args,h' id=h id) (hd:∀ k,h' (.slot d k)=h (.slot d k)) :
  Bv Γ h' d f args=Bv Γ h d f args:=by
 unfold Bv
 rw [Na h2]
 exact Vd h2 hd
end Go.V
namespace Go.V
theorem CW {α β:Type} {f:α->Option β}:∀ {l:List α} {ys:List β},Ad f l=some ys->l.filterMap f=ys
 | [],ys,h=>by simp [Ad] at h;subst h;rfl
 | x::xs,ys,h=>by
  obtain ⟨y,hy,h⟩:=Aa h
  obtain ⟨zs,hz,h⟩:=Aa h
  simp at h
  subst h
  rw [List.filterMap_cons,hy,CW hz]
theorem KA {look look':VArg->Option VVal} {d:Nat}:∀ (bs:List BC) (j:Nat) (h:VHeap),(∀ x i n,BC.a x i n∈bs->look' x=look x)->BV look' d h j bs=BV look d h j bs
 | [],_,_,_=>rfl
 | .z z::bs,j,h,ha=>by
  simp only [BV]
  rw [KA bs (j+1) _ fun x i n hm=>ha x i n (lmc _ hm)]
 | .a x i n::bs,j,h,ha=>by
  simp only [BV]
  rw [ha x i n (lms ..),KA bs (j+1) _ fun x i n hm=>ha x i n (lmc _ hm)]
theorem NK {look look':VArg->Option VVal} {x:Option VArg} {k:Nat} (h:∀ y,x=some y->look' y=look y):Cj look' k x=Cj look k x:=by
 cases x with
 | none=>rfl
 | some y=>simp only [Cj,h y rfl]
theorem NQ {Γ:Sig} {look look':VArg->Option VVal} {h:VHeap} {d:Nat} (op:VOp) (hx:∀ x∈op.args,look' x=look x):Ai Γ look' h d op=Ai Γ look h d op:=by
 cases op<;>simp only [VOp.args,lmk,List.not_mem_nil,or_false,forall_eq_or_imp,forall_eq] at hx<;>simp only [Ai]
 case pick=>rw [hx.1,hx.2.1,hx.2.2]
 case build cs =>
  rw [KA cs 0 h fun x i n hm=>hx x (List.mem_filterMap.2 ⟨_,hm,rfl⟩)]
 case buildPtrs ps=>rw [BD hx]
 case callA=>rw [BD hx]
 case buildFz sz ps =>
  rw [BD (f:=fun x=>ob (look' x) fun v=>BF v) (g:=fun x=>ob (look x) fun v=>BF v) fun x hm=>by rw [hx x hm]]
 case buildSlice sz ps =>
  rw [BD (f:=fun x=>ob (look' x) fun v=>BF v) (g:=fun x=>ob (look x) fun v=>BF v) fun x hm=>by rw [hx x hm]]
 case buildArr sz ps =>
  rw [BD (f:=fun x=>ob (look' x) fun v=>BF v) (g:=fun x=>ob (look x) fun v=>BF v) fun x hm=>by rw [hx x hm]]
 case slice str sz lo hi mx x =>
  rw [hx.1]
  cases look x with
  | none=>simp only [At]
  | some s =>
   simp only [Ah]
   have e1:∀ k,Cj look' k lo=Cj look k lo:=fun k=>NK fun y hy=>hx.2 y (by simp [hy])
   have e2:∀ k,Cj look' k hi=Cj look k hi:=fun k=>NK fun y hy=>hx.2 y (by simp [hy])
   have e3:∀ sz l m s,DJ d h look' sz l m s mx=DJ d h look sz l m s mx:=fun sz l m s=>by
    cases mx with
    | none=>rfl
    | some y=>simp only [DJ,hx.2 y (by simp)]
   have e4:Fh look' lo hi s=Fh look lo hi s:=by
    unfold Fh
    cases Ga s with
    | none=>simp only [At]
    | some n =>
     simp only [Ah]
     rw [e1,e2]
   have e5:DY d h look' sz lo hi mx s=DY d h look sz lo hi mx s:=by
    unfold DY
    cases D5 s with
    | none=>simp only [At]
    | some n =>
     simp only [Ah]
     rw [e1,e2]
     cases Cj look 0 lo with
     | none=>simp only [At]
     | some l =>
      simp only [Ah]
      cases Cj look n hi with
      | none=>simp only [At]
      | some m =>
       simp only [Ah]
       rw [e3]
   rw [e4,e5]
 case minmax=>rw [BD hx]
 case makeFunc=>rw [BD hx]
 case call=>rw [BD hx]
 case callv=>rw [hx.1,BD hx.2]
 case callW=>rw [BD hx]
 case callR=>rw [BD hx]
 case callvW=>rw [hx.1,BD hx.2]
 all_goals first
  | done
  | rw [hx]
  | rw [hx.1,hx.2]
  | rw [hx.1,hx.2.1,hx.2.2]
theorem MZ {Γ:Sig} {look:VArg->Option VVal} {h h':VHeap} {d:Nat} {op:VOp} (hs:op.silent=true):Ai Γ look h' d op=Ai Γ look h d op:=by
 cases op<;>first|rfl|(simp [VOp.silent] at hs)
theorem Ko {Γ:Sig} {look:VArg->Option VVal} {h:VHeap} {d:Nat} {op:VOp} (hs:op.silent=true \/ op.reader=true) {q:VVal × List (Id × Nat × Ob)} (he:Ai Γ look h d op=some q):q.2=[]:=by
 cases op<;>first|(simp [VOp.silent,VOp.reader] at hs;done)|skip
 all_goals simp only [Ai] at he
 case callR =>
  obtain ⟨_,_,he⟩:=Aa he
  obtain ⟨_,_,he⟩:=Aa he
  obtain ⟨_,he⟩:=Ab he
  simp only [osi] at he
  rw [<- he]
 case buildPtrs =>
  obtain ⟨_,_,he⟩:=Aa he
  obtain ⟨_,he⟩:=Ab he
  simp only [osi] at he
  rw [<- he]
 case buildFz =>
  obtain ⟨_,_,he⟩:=Aa he
  obtain ⟨_,he⟩:=Ab he
  simp only [osi] at he
  rw [<- he]
 case buildArr =>
  obtain ⟨_,_,he⟩:=Aa he
  obtain ⟨_,he⟩:=Ab he
  simp only [osi] at he
  rw [<- he]
 case indexArr =>
  obtain ⟨_,_,he⟩:=Aa he
  obtain ⟨_,_,he⟩:=Aa he
  split at he<;>first|(cases he;done)|skip
  obtain ⟨_,he⟩:=Ab he
  obtain ⟨_,he⟩:=Ab he
  obtain ⟨_,_,he⟩:=Aa he
  simp only [osi] at he
  rw [<- he]
 case move =>
  obtain ⟨_,_,he⟩:=Aa he
  simp only [osi] at he
  rw [<- he]
 case pick =>
  obtain ⟨_,_,he⟩:=Aa he
  split at he<;>first|(cases he;done)|skip
  unfold br at he
  split at he
  ·obtain ⟨_,_,he⟩:=Aa he
   simp only [osi] at he
   rw [<- he]
  ·obtain ⟨_,_,he⟩:=Aa he
   simp only [osi] at he
   rw [<- he]
 case load =>
  obtain ⟨_,_,he⟩:=Aa he
  obtain ⟨_,_,he⟩:=Aa he
  simp only [osi] at he
  rw [<- he]
 case fieldAddr =>
  obtain ⟨_,_,he⟩:=Aa he
  split at he<;>first|(cases he;done)|skip
  all_goals
   simp only [osi] at he
   rw [<- he]
 case field =>
  obtain ⟨_,_,he⟩:=Aa he
  split at he<;>first|(cases he;done)|skip
  obtain ⟨_,_,he⟩:=Aa he
  simp only [osi] at he
  rw [<- he]
 case indexAddr =>
  obtain ⟨_,_,he⟩:=Aa he
  obtain ⟨_,_,he⟩:=Aa he
  split at he<;>first|(cases he;done)|skip
  obtain ⟨_,_,he⟩:=Aa he
  simp only [osi] at he
  rw [<- he]
 case indexStr =>
  obtain ⟨_,_,he⟩:=Aa he
  obtain ⟨_,_,he⟩:=Aa he
  split at he<;>first|(cases he;done)|skip
  obtain ⟨_,he⟩:=Ab he
  obtain ⟨_,_,he⟩:=Aa he
  simp only [osi] at he
  rw [<- he]
 case bin =>
  obtain ⟨_,_,he⟩:=Aa he
  obtain ⟨_,_,he⟩:=Aa he
  obtain ⟨_,_,he⟩:=Aa he
  simp only [osi] at he
  rw [<- he]
 case eqAgg =>
  obtain ⟨_,_,he⟩:=Aa he
  obtain ⟨_,_,he⟩:=Aa he
  split at he<;>first|(cases he;done)|skip
  obtain ⟨_,_,he⟩:=Aa he
  obtain ⟨_,_,he⟩:=Aa he
  obtain ⟨_,_,he⟩:=Aa he
  simp only [osi] at he
  rw [<- he]
 case not =>
  obtain ⟨_,_,he⟩:=Aa he
  split at he<;>first|(cases he;done)|skip
  simp only [osi] at he
  rw [<- he]
 case len =>
  obtain ⟨_,_,he⟩:=Aa he
  obtain ⟨_,_,he⟩:=Aa he
  simp only [osi] at he
  rw [<- he]
 case lenStr =>
  obtain ⟨_,_,he⟩:=Aa he
  obtain ⟨_,_,he⟩:=Aa he
  simp only [osi] at he
  rw [<- he]
 case eqB =>
  obtain ⟨_,_,he⟩:=Aa he
  obtain ⟨_,_,he⟩:=Aa he
  split at he<;>first|(cases he;done)|skip
  simp only [osi] at he
  rw [<- he]
 case lookup =>
  obtain ⟨_,_,he⟩:=Aa he
  obtain ⟨_,_,he⟩:=Aa he
  obtain ⟨_,_,he⟩:=Aa he
  obtain ⟨_,he⟩:=Ab he
  obtain ⟨_,_,he⟩:=Aa he
  simp only [osi] at he
  rw [<- he]
 case extract =>
  obtain ⟨_,_,he⟩:=Aa he
  split at he<;>first|(cases he;done)|skip
  obtain ⟨_,_,he⟩:=Aa he
  simp only [osi] at he
  rw [<- he]
 case minmax =>
  obtain ⟨_,_,he⟩:=Aa he
  obtain ⟨_,_,he⟩:=Aa he
  simp only [osi] at he
  rw [<- he]
 case nilCheck =>
  obtain ⟨_,_,he⟩:=Aa he
  split at he<;>first|(cases he;done)|skip
  all_goals
   simp only [osi] at he
   rw [<- he]
 case makeFunc =>
  obtain ⟨_,_,he⟩:=Aa he
  simp only [osi] at he
  rw [<- he]
theorem NW {d j:Nat} {h:VHeap} {z:ZC}:∀ x∈(zcell d h j z).2,∃ k,x.1=.slot d k:=by
 cases z<;>simp [zcell]
theorem Np {d:Nat}:∀ (zs:List ZC) (j:Nat) (h:VHeap),∀ x∈(zcells d h j zs).2,∃ k,x.1=.slot d k
 | [],_,_,x,hx=>by simp [zcells] at hx
 | z::zs,j,h,x,hx=>by
  simp only [zcells,lmp] at hx
  rcases hx with hx|hx
  .exact NW x hx
  .exact Np zs _ _ x hx
theorem KB {look:VArg->Option VVal} {d:Nat}:∀ (bs:List BC) (j:Nat) (h:VHeap) (q:List VVal × List (Id × Nat × Ob)),BV look d h j bs=some q->∀ x∈q.2,∃ k,x.1=.slot d k
 | [],_,_,q,he,x,hx=>by simp [BV] at he;subst he;simp at hx
 | .z z::bs,j,h,q,he,x,hx=>by
  simp only [BV] at he
  obtain ⟨q',hq',he⟩:=Aa he
  simp only [osi] at he
  subst he
  simp only [lmp] at hx
  rcases hx with hx|hx
  .exact NW x hx
  .exact KB bs _ _ q' hq' x hx
 | .a y i n::bs,j,h,q,he,x,hx=>by
  simp only [BV] at he
  obtain ⟨v,_,he⟩:=Aa he
  obtain ⟨_,he⟩:=Ab he
  obtain ⟨c,_,he⟩:=Aa he
  obtain ⟨_,he⟩:=Ab he
  obtain ⟨q',hq',he⟩:=Aa he
  simp only [osi] at he
  subst he
  exact KB bs _ _ q' hq' x hx
section
variable {R:List Id} {h:VHeap} {d:Nat}
theorem Lv {j:Nat} {v:VVal} {q:VVal × List (Id × Nat × Ob)} (he:in0 R h d j v=some q):∀ x∈q.2,∃ k,x.1=.slot d k:=by
 unfold in0 at he
 split at he
 ·simp only [osi] at he
  subst he
  simp
 ·obtain ⟨v',_,he1⟩:=Aa he
  simp only [osi] at he1
  subst he1
  simp
theorem Lu:∀ {vs:List VVal} {j:Nat} {q:List VVal × List (Id × Nat × Ob)},inL R h d j vs=some q->∀ x∈q.2,∃ k,x.1=.slot d k
 | [],_,q,he,x,hx=>by simp [inL] at he;subst he;simp at hx
 | v::vs,j,q,he,x,hx=>by
  simp only [inL] at he
  obtain ⟨q1,h1,he⟩:=Aa he
  obtain ⟨q2,h2,he⟩:=Aa he
  simp only [osi] at he
  subst he
  simp only [lmp] at hx
  rcases hx with hx|hx
  .exact Lv h1 x hx
  .exact Lu h2 x hx
theorem Qq {j:Nat} {v:VVal} {q:VVal × List (Id × Nat × Ob)} (he:in1 R h d j v=some q):∀ x∈q.2,∃ k,x.1=.slot d k:=by
 unfold in1 at he
 split at he
 ·obtain ⟨q1,h1,he1⟩:=Aa he
  simp only [osi] at he1
  subst he1
  exact Lu h1
 ·obtain ⟨q1,h1,he1⟩:=Aa he
  simp only [osi] at he1
  subst he1
  intro x hx
  simp only [lmk] at hx
  rcases hx with rfl|hx
  .exact ⟨_,rfl⟩
  .exact Lu h1 x hx
 .exact Lv he
theorem Qo:∀ {vs:List VVal} {j:Nat} {q:List VVal × List (Id × Nat × Ob)},inT R h d j vs=some q->∀ x∈q.2,∃ k,x.1=.slot d k
 | [],_,q,he,x,hx=>by simp [inT] at he;subst he;simp at hx
 | v::vs,j,q,he,x,hx=>by
  simp only [inT] at he
  obtain ⟨q1,h1,he⟩:=Aa he
  obtain ⟨q2,h2,he⟩:=Aa he
  simp only [osi] at he
  subst he
  simp only [lmp] at hx
  rcases hx with hx|hx
  .exact Qq h1 x hx
  .exact Qo h2 x hx
theorem OE {v:VVal} {q:VVal × List (Id × Nat × Ob)} (he:C4 R h d v=some q):∀ x∈q.2,∃ k,x.1=.slot d k:=by
 unfold C4 at he
 split at he
 ·obtain ⟨q1,h1,he1⟩:=Aa he
  simp only [osi] at he1
  subst he1
  exact Qo h1
 .exact Qq he
end
theorem YC {R:List Id} {h:VHeap} {d j:Nat} {v:VVal} {q:VVal × List (Id × Nat × Ob)} (he:Dw R h d j v=some q):∀ x∈q.2,∃ k,x.1=.slot d k:=by
 unfold Dw at he
 split at he
 ·obtain ⟨_,_,he⟩:=Aa he
  obtain ⟨_,_,he⟩:=Aa he
  simp only [osi] at he
  subst he
  intro x hx
  cases hx
 ·obtain ⟨_,_,he⟩:=Aa he
  obtain ⟨_,_,he⟩:=Aa he
  simp only [osi] at he
  subst he
  intro x hx
  cases hx
 .exact Lv he
theorem Pr {R:List Id} {h:VHeap} {d:Nat}:∀ {vs:List VVal} {j:Nat} {q:List VVal × List (Id × Nat × Ob)},Cz R h d j vs=some q->∀ x∈q.2,∃ k,x.1=.slot d k
 | [],_,q,he=>by
  simp only [Cz,osi] at he
  subst he
  intro x hx
  cases hx
 | v::vs,j,q,he=>by
  simp only [Cz] at he
  obtain ⟨r,h1,he⟩:=Aa he
  obtain ⟨rs,h2,he⟩:=Aa he
  simp only [osi] at he
  subst he
  intro x hx
  rcases lmp.1 hx with hx|hx
  .exact YC h1 x hx
  .exact Pr h2 x hx
theorem Wx {R:List Id} {h:VHeap} {d:Nat} {v:VVal} {q:VVal × List (Id × Nat × Ob)} (he:Dq R h d v=some q):∀ x∈q.2,∃ k,x.1=.slot d k:=by
 unfold Dq at he
 split at he
 ·obtain ⟨_,_,he⟩:=Aa he
  obtain ⟨_,_,he⟩:=Aa he
  simp only [osi] at he
  subst he
  intro x hx
  cases hx
 ·obtain ⟨_,_,he⟩:=Aa he
  obtain ⟨_,_,he⟩:=Aa he
  simp only [osi] at he
  subst he
  intro x hx
  cases hx
 ·obtain ⟨r,h1,he⟩:=Aa he
  simp only [osi] at he
  subst he
  exact Pr h1
 .exact OE he
theorem Iv {Γ:Sig} {h:VHeap} {d:Nat} {f:FuncId} {args:List VVal} {q:VVal × List (Id × Nat × Ob)} (he:CO Γ h d f args=some q):∀ x∈q.2,(∃ k,x.1=.slot d k) \/ x.1∈roots h args:=by
 unfold CO Dg at he
 obtain ⟨_,_,he⟩:=Aa he
 obtain ⟨_,_,he⟩:=Aa he
 obtain ⟨r,_,he⟩:=Aa he
 obtain ⟨_,he⟩:=Ab he
 obtain ⟨us,hus,he⟩:=Aa he
 obtain ⟨q1,hq,he⟩:=Aa he
 simp only [osi] at he
 subst he
 intro x hx
 simp only [lmp] at hx
 rcases hx with hx|hx
 ·right
  rw [<- (Kl hus).1]
  exact List.mem_map_of_mem hx
 .exact .inl (OE hq x hx)
theorem zag {R:List Id} {h:VHeap} {d j:Nat} {v v':VVal} {qs:List (Id × Nat × Ob)} (hi:inC R h d j v=some (v',qs)):∀ x∈qs,∃ k,x.1=.slot d k:=by
 unfold inC at hi
 split at hi
 ·simp only [osi,pmi] at hi
  obtain ⟨_,rfl⟩:=hi
  intro x hx
  simp at hx
  exact ⟨j+1,by rw [hx]⟩
 ·obtain ⟨u,_,hi⟩:=Aa hi
  simp at hi
  rw [hi.2]
  simp
theorem Pu {R:List Id} {h:VHeap} {d:Nat}:∀ {vs us:List VVal} {j:Nat} {qs:List (Id × Nat × Ob)},Ce R h d j vs=some (us,qs)->∀ x∈qs,∃ k,x.1=.slot d k
 | [],us,j,qs,hi=>by
  simp [Ce] at hi
  rw [hi.2]
  simp
 | v::vs,us,j,qs,hi=>by
  simp only [Ce] at hi
  obtain ⟨q,hq,hi⟩:=Aa hi
  obtain ⟨q',hq',hi⟩:=Aa hi
  simp at hi
  obtain ⟨_,rfl⟩:=hi
  intro x hx
  rcases lmp.1 hx with hx|hx
  .exact zag hq x hx
  .exact Pu hq' x hx
theorem Kr {R:List Id} {h:VHeap} {d:Nat}:∀ {ids:List Id} {os:List Ob} {j:Nat} {us:List (Id × Nat × Ob) × List (Id × Nat × Ob)},BL R h d j ids os=some us->(∀ x∈us.1,x.1∈ids)/\∀ x∈us.2,∃ k,x.1=.slot d k
  | [], [], j, us, hb=>by
    simp [BL] at hb
    subst hb
    simp
  | [], _::_, j, us, hb=>by simp [BL] at hb
  | _ :: _,[],j,us,hb=>by simp [BL] at hb
  | id :: ids,o :: os,j,us,hb=>by
    simp only [BL] at hb
    obtain ⟨q,_,hb⟩:=Aa hb
    split at hb
    · obtain ⟨r,hr,hb⟩:=Aa hb
      obtain ⟨us',hus,hb⟩:=Aa hb
      simp at hb
      subst hb
      obtain ⟨a1,a2⟩:=Kr hus
      refine ⟨fun x hx=>?_,fun x hx=>?_⟩
      · rcases lmk.1 hx with rfl|hx
        · exact lms ..
        · exact lmc _ (a1 x hx)
      · rcases lmp.1 hx with hx|hx
        · exact Pu (us:=r.1) hr x hx
        · exact a2 x hx
    all_goals first
      | (obtain ⟨us',hus,hb⟩:=Aa hb
         simp at hb
         subst hb
         obtain ⟨a1,a2⟩:=Kr hus
         refine ⟨fun x hx=>?_,a2⟩
         rcases lmk.1 hx with rfl|hx
         .exact lms ..
         .exact lmc _ (a1 x hx))
      | cases hb
theorem Gt {Γ:Sig} {h:VHeap} {d:Nat} {f:FuncId} {args:List VVal} {q:VVal × List (Id × Nat × Ob)} (he:Bv Γ h d f args=some q):∀ x∈q.2,(∃ k,x.1=.slot d k) \/ x.1∈rootsW h args:=by
 unfold Bv Dd at he
 obtain ⟨_,_,he⟩:=Aa he
 obtain ⟨_,_,he⟩:=Aa he
 obtain ⟨r,_,he⟩:=Aa he
 obtain ⟨us,hus,he⟩:=Aa he
 obtain ⟨q1,hq,he⟩:=Aa he
 obtain ⟨_,he⟩:=Ab he
 simp only [osi] at he
 subst he
 obtain ⟨a1,a2⟩:=Kr hus
 intro x hx
 simp only [lmp] at hx
 rcases hx with hx|hx|hx
 .exact .inr (a1 x hx)
 .exact .inl (a2 x hx)
 .exact .inl (Wx hq x hx)
theorem HQ {d:Nat}:∀ {us:List (Id × Nat × Ob)} {x:Id × Nat × Ob},x∈E1 d us->x∈us/\∃ k,x.1=.slot d k
 | [],x,h=>by cases h
 | y::us,x,h=>by
  unfold E1 at h
  split at h
  ·rename_i hy
   rcases lmk.1 h with rfl|h
   ·refine ⟨lms ..,?_⟩
    obtain ⟨i,n,o⟩:=x
    cases i with
    | arg=>simp [Id.at] at hy
    | slot s k=>simp [Id.at] at hy;exact ⟨k,by rw [hy]⟩
   .exact ⟨lmc _ (HQ h).1,(HQ h).2⟩
  .exact ⟨lmc _ (HQ h).1,(HQ h).2⟩
theorem Lo {d:Nat}:∀ {us:List (Id × Nat × Ob)} {x:Id × Nat × Ob},x∈oldU d us->x∈us
 | [],x,h=>by cases h
 | y::us,x,h=>by
  unfold oldU at h
  split at h
  ·exact lmc _ (Lo h)
  ·rcases lmk.1 h with rfl|h
   .exact lms ..
   .exact lmc _ (Lo h)
theorem VV {Γ:Sig} {look:VArg->Option VVal} {h h':VHeap} {d:Nat} (op:VOp) (h1:∀ x∈op.args,∀ v,look x=some v->∀ id∈ids1 v,h' id=h id)
  (h2 : (op.writes || op.isR)=true->∀ id∈(Bu op (op.args.filterMap look)).flatMap ids1++callRoots h op (Bu op (op.args.filterMap look)),h' id=h id) (hd : ∀ k,h' (.slot d k)=h (.slot d k)) :
  Ai Γ look h' d op=Ai Γ look h d op:=by
 by_cases hsil:op.silent=true
 ·exact MZ hsil
 cases op<;>first|(simp [VOp.silent] at hsil;done)|skip
 all_goals simp only [VOp.args,lmk,List.not_mem_nil,or_false,forall_eq_or_imp,forall_eq] at h1
 all_goals simp only [Ai]
 case newArr=>rw [hd]
 case alloc zs=>rw [M4 zs 0 h h' hd,KU _ hd]
 case box=>rw [hd]
 case build bs=>rw [Kq bs 0 h h' hd]
 case buildSlice=>rw [hd]
 case load agg a =>
  cases hl:look a with
  | none=>simp only [At]
  | some p =>
   simp only [Ah,F9]
   rw [WU fun id hm=>h1 p hl id (Eg hm)]
 case storeNil sz i k a =>
  have h3:h' (.slot i k)=h (.slot i k):=h2 rfl _ (by simp [callRoots])
  rw [h3]
  cases hl:look a with
  | none=>simp only [At]
  | some p =>
   simp only [Ah,DX]
   cases h (.slot i k) with
   | none=>rfl
   | some q =>
    obtain ⟨v,o⟩:=q
    cases o with
    | arr sz' xs =>
     cases xs with
     | nil =>
      simp only [DX]
      rw [MO fun id hm=>h1 p hl id (Eg hm)]
     | cons _ _=>rfl
    | _=>rfl
 case store n a x =>
  cases hl:look a with
  | none=>simp only [At]
  | some p =>
   simp only [Ah]
   cases look x with
   | none=>simp only [At]
   | some v =>
    simp only [Ah,DX]
    rw [MO fun id hm=>h1.1 p hl id (Eg hm)]
 case indexAddr sz x i =>
  cases hl:look x with
  | none=>simp only [At]
  | some p =>
   simp only [Ah]
   cases look i with
   | none=>simp only [At]
   | some v =>
    simp only [Ah]
    split
    ·simp only [Ib]
     rw [UU fun id hm=>h1.1 p hl id (Eg hm)]
    ·rfl
 case append sz bytes s x =>
  cases hl:look s with
  | none=>simp only [At]
  | some p =>
   simp only [Ah]
   cases hx:look x with
   | none=>simp only [At]
   | some v =>
    simp only [Ah]
    have e2:A0 h' v=A0 h v:=Km fun id hm=>h1.2 v hx id (Eg hm)
    unfold Ej
    split
    ·rename_i id ver len
     rw [h1.1 _ hl id (by simp [ids1,ids0]),e2]
    ·rfl
 case clear sz zero s =>
  cases hl:look s with
  | none=>simp only [At]
  | some p =>
   simp only [Ah]
   unfold G4
   split
   ·rename_i id ver off len
    rw [h1 _ hl id (by simp [ids1,ids0])]
   ·rfl
 case appendNil sz bytes x =>
  cases hx:look x with
  | none=>simp only [At]
  | some v =>
   simp only [Ah]
   have e2:A0 h' v=A0 h v:=Km fun id hm=>h1 v hx id (Eg hm)
   unfold Gy
   rw [e2,hd]
 case slice str sz lo hi mx x =>
  cases hx:look x with
  | none=>simp only [At]
  | some s =>
   simp only [Ah]
   have e3:∀ l m,DJ d h' look sz l m s mx=DJ d h look sz l m s mx:=fun l m=>by
    cases mx with
    | none=>simp only [DJ];exact N6 fun id hm=>h1.1 s hx id (Eg hm)
    | some y =>
     simp only [DJ]
     have e0:Fo d h' sz l m s=Fo d h sz l m s:=by
      unfold Fo
      split
      ·exact N6 fun id hm=>h1.1 _ hx id (Eg hm)
      ·simp only [Hh];rw [hd]
     rw [e0]
   have e5:DY d h' look sz lo hi mx s=DY d h look sz lo hi mx s:=by
    unfold DY
    cases D5 s with
    | none=>simp only [At]
    | some n =>
     simp only [Ah]
     cases Cj look 0 lo with
     | none=>simp only [At]
     | some l =>
      simp only [Ah]
      cases Cj look n hi with
      | none=>simp only [At]
      | some m =>
       simp only [Ah]
       rw [e3]
   rw [e5]
 case lookup ok kt zero m k =>
  cases hm:look m with
  | none=>simp only [At]
  | some v =>
   simp only [Ah]
   rw [MP fun id hi=>h1.1 v hm id (Eg hi)]
 case mapUpdate kt m k x =>
  cases hm:look m with
  | none=>simp only [At]
  | some v =>
   simp only [Ah]
   have e:∀ id ver,v=.mref id ver->h' id=h id:=fun id ver e=>h1.1 v hm id (by simp [e,ids1,ids0])
   cases look k with
   | none=>simp only [At]
   | some kv =>
    simp only [Ah]
    cases look x with
    | none=>simp only [At]
    | some xv =>
     simp only [Ah]
     cases EB kt kv with
     | none=>simp only [At]
     | some kk =>
      simp only [Ah]
      cases BF xv with
      | none=>simp only [At]
      | some xx =>
       simp only [Ah]
       cases v<;>first|rfl|skip
       rename_i id ver
       simp only [e id ver rfl]
 case makeMap=>rw [hd]
 case call f args =>
  cases hm:Ad look args with
  | none=>simp only [At]
  | some vs =>
   simp only [Ah]
   have h2':=h2 rfl
   simp only [VOp.args,CW hm,Bu,callRoots,lmp,List.mem_flatMap] at h2'
   exact It (fun v hv id hi=>h2' id (.inl ⟨v,hv,hi⟩)) (fun id hi=>h2' id (.inr hi)) hd
 case callv x args =>
  cases hx:look x with
  | none=>simp only [At]
  | some g =>
   simp only [Ah]
   cases hm:Ad look args with
   | none=>simp only [At]
   | some vs =>
    simp only [Ah]
    have h2':=h2 rfl
    simp only [VOp.args,List.filterMap_cons,hx,CW hm,callRoots,lmp,List.mem_flatMap] at h2'
    split
    ·simp only [Bu,lmp] at h2'
     exact It (fun v hv id hi=>h2' id (.inl ⟨v,by simpa using hv,hi⟩)) (fun id hi=>h2' id (.inr hi)) hd
    ·simp only [Bu] at h2'
     exact It (fun v hv id hi=>h2' id (.inl ⟨v,hv,hi⟩)) (fun id hi=>h2' id (.inr hi)) hd
    ·simp only [Bu,lmp] at h2'
     exact It (fun v hv id hi=>h2' id (.inl ⟨v,by simpa using hv,hi⟩)) (fun id hi=>h2' id (.inr hi)) hd
    ·rfl
 case callW f args =>
  cases hm:Ad look args with
  | none=>simp only [At]
  | some vs =>
   simp only [Ah]
   have h2':=h2 rfl
   simp only [VOp.args,CW hm,Bu,callRoots,lmp,List.mem_flatMap] at h2'
   exact Gn (fun id hi=>h2' id (.inr hi)) hd
 case callA f args =>
  cases hm:Ad look args with
  | none=>simp only [At]
  | some vs =>
   simp only [Ah]
   have h2':=h2 rfl
   simp only [VOp.args,CW hm,Bu,callRoots,lmp,List.mem_flatMap] at h2'
   rw [Gn (fun id hi=>h2' id (.inr hi)) hd]
   cases he:Bv Γ h d f vs with
   | none=>simp only [At]
   | some q =>
    simp only [Ah]
    have e:CE h' (oldU d q.2)=CE h (oldU d q.2):=by
     have:∀ x∈oldU d q.2,h' x.1=h x.1:=fun x hx=>by
      rcases Gt he x (Lo hx) with ⟨k,h0⟩|h0
      .rw [h0];exact hd k
      .exact h2' _ (.inr h0)
     simp only [CE]
     congr 1
     exact propext ⟨fun a x hx=>by rw [<- this x hx];exact a x hx,fun a x hx=>by rw [this x hx];exact a x hx⟩
    rw [e]
 case callR f args =>
  cases hm:Ad look args with
  | none=>simp only [At]
  | some vs =>
   simp only [Ah]
   have h2':=h2 rfl
   simp only [VOp.args,CW hm,Bu,callRoots,lmp,List.mem_flatMap] at h2'
   rw [Gn (fun id hi=>h2' id (.inr hi)) hd]
   cases he:Bv Γ h d f vs with
   | none=>simp only [At]
   | some q =>
    simp only [Ah]
    have e:CE h' q.2=CE h q.2:=by
     have:∀ x∈q.2,h' x.1=h x.1:=fun x hx=>by
      rcases Gt he x hx with ⟨k,h0⟩|h0
      .rw [h0];exact hd k
      .exact h2' _ (.inr h0)
     simp only [CE]
     congr 1
     exact propext ⟨fun a x hx=>by rw [<- this x hx];exact a x hx,fun a x hx=>by rw [this x hx];exact a x hx⟩
    rw [e]
 case callvW x args =>
  cases hx:look x with
  | none=>simp only [At]
  | some g =>
   simp only [Ah]
   cases hm:Ad look args with
   | none=>simp only [At]
   | some vs =>
    simp only [Ah]
    have h2':=h2 rfl
    simp only [VOp.args,List.filterMap_cons,hx,CW hm,callRoots,lmp,List.mem_flatMap] at h2'
    split
    ·simp only [Bu,lmp] at h2'
     exact Gn (fun id hi=>h2' id (.inr hi)) hd
    ·simp only [Bu,lmp] at h2'
     exact Gn (fun id hi=>h2' id (.inr hi)) hd
    ·simp only [Bu] at h2'
     exact Gn (fun id hi=>h2' id (.inr hi)) hd
    .rfl
theorem WE {Γ:Sig} {look:VArg->Option VVal} {h:VHeap} {d:Nat} {op:VOp} {q:VVal × List (Id × Nat × Ob)} (he:Ai Γ look h d op=some q):∀ x∈q.2,(∃ k,x.1=.slot d k) \/
  (op.writes=true/\((∃ y∈op.args,∃ v,look y=some v/\x.1∈ids1 v) \/ x.1∈callRoots h op (Bu op (op.args.filterMap look)))):=by
 by_cases hs:op.silent=true \/ op.reader=true
 ·intro x hx
  rw [Ko hs he] at hx
  cases hx
 intro x hx
 cases op<;>first|(simp [VOp.silent,VOp.reader] at hs;done)|skip
 all_goals simp only [Ai] at he
 case newArr=>simp only [osi] at he;subst he;simp at hx;exact .inl ⟨_,by rw [hx]⟩
 case makeMap=>simp only [osi] at he;subst he;simp at hx;exact .inl ⟨_,by rw [hx]⟩
 case alloc zs =>
  simp only [osi] at he
  subst he
  simp only [lmp,List.mem_singleton] at hx
  rcases hx with hx|hx
  ·exact .inl (Np zs _ _ x hx)
  ·exact .inl ⟨_,by rw [hx]⟩
 case box =>
  obtain ⟨_,_,he⟩:=Aa he
  obtain ⟨_,he⟩:=Ab he
  obtain ⟨_,he⟩:=Ab he
  simp only [osi] at he;subst he;simp at hx;exact .inl ⟨_,by rw [hx]⟩
 case build bs =>
  obtain ⟨q',hq',he⟩:=Aa he
  simp only [osi] at he
  subst he
  exact .inl (KB bs _ _ q' hq' x hx)
 case buildSlice =>
  obtain ⟨_,_,he⟩:=Aa he
  obtain ⟨_,he⟩:=Ab he
  simp only [osi] at he;subst he;simp at hx;exact .inl ⟨_,by rw [hx]⟩
 case strBytes =>
  obtain ⟨_,_,he⟩:=Aa he
  split at he
  ·simp only [osi] at he;subst he;simp at hx
  ·cases he
 case storeNil sz i k a =>
  obtain ⟨p,hp,he⟩:=Aa he
  split at he<;>try (cases he;done)
  obtain ⟨_,he⟩:=Ab he
  obtain ⟨us,hus,he⟩:=Aa he
  simp only [osi] at he
  subst he
  obtain ⟨_,hus⟩:=Ab hus
  obtain ⟨_,hus⟩:=Ab hus
  refine .inr ⟨rfl,.inl ⟨a,by simp [VOp.args],p,hp,?_⟩⟩
  unfold DR at hus
  split at hus
  ·split at hus
   ·obtain ⟨_,hus⟩:=Ab hus
    obtain ⟨_,hus⟩:=Ab hus
    simp only [osi] at hus
    subst hus
    simp at hx
    simp [hx,ids1,ids0]
   ·cases hus
  ·split at hus
   ·obtain ⟨_,hus⟩:=Ab hus
    obtain ⟨_,_,hus⟩:=Aa hus
    obtain ⟨_,_,hus⟩:=Aa hus
    obtain ⟨_,hus⟩:=Ab hus
    simp only [osi] at hus
    subst hus
    simp at hx
    simp [hx,ids1,ids0]
   ·cases hus
  ·cases hus
 case store n a y =>
  obtain ⟨p,hp,he⟩:=Aa he
  obtain ⟨v,hv,he⟩:=Aa he
  obtain ⟨us,hus,he⟩:=Aa he
  simp only [osi] at he
  subst he
  obtain ⟨_,hus⟩:=Ab hus
  obtain ⟨_,hus⟩:=Ab hus
  refine .inr ⟨rfl,.inl ⟨a,by simp [VOp.args],p,hp,?_⟩⟩
  unfold DR at hus
  split at hus
  ·split at hus
   ·obtain ⟨_,hus⟩:=Ab hus
    obtain ⟨_,hus⟩:=Ab hus
    simp only [osi] at hus
    subst hus
    simp at hx
    simp [hx,ids1,ids0]
   ·cases hus
  ·split at hus
   ·obtain ⟨_,hus⟩:=Ab hus
    obtain ⟨_,_,hus⟩:=Aa hus
    obtain ⟨_,_,hus⟩:=Aa hus
    obtain ⟨_,hus⟩:=Ab hus
    simp only [osi] at hus
    subst hus
    simp at hx
    simp [hx,ids1,ids0]
   ·cases hus
  ·cases hus
 case append sz bytes s y =>
  obtain ⟨p,hp,he⟩:=Aa he
  obtain ⟨v,hv,he⟩:=Aa he
  refine .inr ⟨rfl,.inl ⟨s,by simp [VOp.args],p,hp,?_⟩⟩
  unfold Ej at he
  split at he
  ·split at he
   ·obtain ⟨_,he⟩:=Ab he
    obtain ⟨_,he⟩:=Ab he
    obtain ⟨_,he⟩:=Ab he
    obtain ⟨_,_,he⟩:=Aa he
    obtain ⟨_,he⟩:=Ab he
    obtain ⟨_,he⟩:=Ab he
    obtain ⟨_,he⟩:=Ab he
    simp only [osi] at he
    subst he
    simp at hx
    simp [hx,ids1,ids0]
   ·cases he
  ·cases he
 case clear sz zero s =>
  obtain ⟨p,hp,he⟩:=Aa he
  refine .inr ⟨rfl,.inl ⟨s,by simp [VOp.args],p,hp,?_⟩⟩
  unfold G4 at he
  split at he
  ·split at he
   ·obtain ⟨_,he⟩:=Ab he
    obtain ⟨_,he⟩:=Ab he
    simp only [osi] at he
    subst he
    simp at hx
    simp [hx,ids1,ids0]
   ·cases he
  ·cases he
 case appendNil sz bytes y =>
  obtain ⟨v,hv,he⟩:=Aa he
  unfold Gy at he
  obtain ⟨_,_,he⟩:=Aa he
  obtain ⟨_,he⟩:=Ab he
  obtain ⟨_,he⟩:=Ab he
  obtain ⟨_,he⟩:=Ab he
  simp only [osi] at he
  subst he
  simp at hx
  exact .inl ⟨_,by rw [hx]⟩
 case slice str sz lo hi mx y =>
  obtain ⟨s,hs',he⟩:=Aa he
  unfold br at he
  split at he
  ·unfold Fh at he
   obtain ⟨_,_,he⟩:=Aa he
   obtain ⟨_,_,he⟩:=Aa he
   obtain ⟨_,_,he⟩:=Aa he
   obtain ⟨_,he⟩:=Ab he
   obtain ⟨_,he⟩:=Ab he
   unfold JI at he
   split at he
   ·simp only [osi] at he;subst he;simp at hx
   ·cases he
  ·unfold DY at he
   obtain ⟨_,_,he⟩:=Aa he
   obtain ⟨_,_,he⟩:=Aa he
   obtain ⟨_,_,he⟩:=Aa he
   obtain ⟨_,he⟩:=Ab he
   obtain ⟨_,he⟩:=Ab he
   unfold DJ at he
   split at he
   ·unfold Du at he
    split at he
    ·obtain ⟨_,he⟩:=Ab he
     simp only [osi] at he;subst he;simp at hx
    ·split at he
     ·obtain ⟨_,he⟩:=Ab he
      obtain ⟨_,he⟩:=Ab he
      simp only [osi] at he;subst he;simp at hx
     ·cases he
    ·cases he
   ·obtain ⟨_,_,he⟩:=Aa he
    obtain ⟨_,_,he⟩:=Aa he
    obtain ⟨_,he⟩:=Ab he
    unfold Fo at he
    split at he
    ·simp only [Du] at he
     split at he
     ·obtain ⟨_,he⟩:=Ab he
      obtain ⟨_,he⟩:=Ab he
      simp only [osi] at he;subst he;simp at hx
     .cases he
    ·obtain ⟨_,he⟩:=Ab he
     simp only [Hh,osi] at he
     subst he
     simp at hx
     exact .inl ⟨_,by rw [hx]⟩
 case mapUpdate kt m k y =>
  obtain ⟨mv,hm,he⟩:=Aa he
  obtain ⟨_,_,he⟩:=Aa he
  obtain ⟨_,_,he⟩:=Aa he
  obtain ⟨_,_,he⟩:=Aa he
  obtain ⟨_,_,he⟩:=Aa he
  refine .inr ⟨rfl,.inl ⟨m,by simp [VOp.args],mv,hm,?_⟩⟩
  split at he
  ·split at he
   ·obtain ⟨_,he⟩:=Ab he
    obtain ⟨_,he⟩:=Ab he
    simp only [osi] at he
    subst he
    simp at hx
    simp [hx,ids1,ids0]
   .cases he
  ·cases he
 case call f args =>
  obtain ⟨vs,hvs,he⟩:=Aa he
  rcases Iv he x hx with h0|h0
  ·exact .inl h0
  ·exact .inr ⟨rfl,.inr (by simpa only [VOp.args,CW hvs,Bu,callRoots] using h0)⟩
 case callv y args =>
  obtain ⟨g,hg,he⟩:=Aa he
  obtain ⟨vs,hvs,he⟩:=Aa he
  split at he
  ·rcases Iv he x hx with h0|h0
   .exact .inl h0
   .exact .inr ⟨rfl,.inr (by simpa only [VOp.args,List.filterMap_cons,hg,CW hvs,Bu,callRoots] using h0)⟩
  ·rcases Iv he x hx with h0|h0
   .exact .inl h0
   .exact .inr ⟨rfl,.inr (by simpa only [VOp.args,List.filterMap_cons,hg,CW hvs,Bu,callRoots] using h0)⟩
  ·rcases Iv he x hx with h0|h0
   .exact .inl h0
   .exact .inr ⟨rfl,.inr (by simpa only [VOp.args,List.filterMap_cons,hg,CW hvs,Bu,callRoots] using h0)⟩
  ·cases he
 case callA f args =>
  obtain ⟨vs,hvs,he⟩:=Aa he
  obtain ⟨q1,hq1,he⟩:=Aa he
  obtain ⟨_,he⟩:=Ab he
  simp only [osi] at he
  subst he
  exact .inl (HQ hx).2
 case callW f args =>
  obtain ⟨vs,hvs,he⟩:=Aa he
  rcases Gt he x hx with h0|h0
  ·exact .inl h0
  ·exact .inr ⟨rfl,.inr (by simpa only [VOp.args,CW hvs,Bu,callRoots] using h0)⟩
 case callvW y args =>
  obtain ⟨g,hg,he⟩:=Aa he
  obtain ⟨vs,hvs,he⟩:=Aa he
  split at he
  ·rcases Gt he x hx with h0|h0
   .exact .inl h0
   .exact .inr ⟨rfl,.inr (by simpa only [VOp.args,List.filterMap_cons,hg,CW hvs,Bu,callRoots] using h0)⟩
  ·rcases Gt he x hx with h0|h0
   .exact .inl h0
   .exact .inr ⟨rfl,.inr (by simpa only [VOp.args,List.filterMap_cons,hg,CW hvs,Bu,callRoots] using h0)⟩
  ·rcases Gt he x hx with h0|h0
   .exact .inl h0
   .exact .inr ⟨rfl,.inr (by simpa only [VOp.args,List.filterMap_cons,hg,CW hvs,Bu,callRoots] using h0)⟩
  .cases he
end Go.V
namespace Go.V
def VOper.uses (o:VOper):List VArg:=o.op.args++(match o.guard with
 | some (g,_)=>[g]
 | none=>[])
theorem Oa {Γ:Sig} {look look':VArg->Option VVal} {h:VHeap} {o:VOper} (hx:∀ x∈o.uses,look' x=look x):B1 Γ look' h o=B1 Γ look h o:=by
 have ha:∀ x∈o.op.args,look' x=look x:=fun x hm=>hx x (by simp [VOper.uses,hm])
 unfold B1
 split
 ·exact NQ _ ha
 ·rename_i g want hg
  have:look' g=look g:=hx g (by simp [VOper.uses,hg])
  rw [this,NQ _ ha]
theorem MS {α β:Type} {f g:α->Option β}:∀ {l:List α},(∀ x∈l,f x=g x)->l.filterMap f=l.filterMap g
 | [],_=>rfl
 | x::xs,h=>by
  rw [List.filterMap_cons,List.filterMap_cons,h x (lms ..),MS fun y hy=>h y (lmc _ hy)]
theorem Nw {look look':VArg->Option VVal} {h:VHeap} {o:VOper} (hx:∀ x∈o.uses,look' x=look x):touchF look' h o=touchF look h o:=by
 have ha:o.op.args.filterMap look'=o.op.args.filterMap look:=MS fun x hm=>hx x (by simp [VOper.uses,hm])
 simp only [touchF,ha]
theorem Pj {look:VArg->Option VVal} {h:VHeap} {o:VOper} {x:VArg} (hx:x∈o.op.args) {v:VVal} (hv:look x=some v) {id:Id} (hi:id∈ids1 v):id∈touchF look h o:=by
 simp only [touchF,lmp,List.mem_flatMap,List.mem_filterMap]
 exact .inl ⟨v,⟨x,hx,hv⟩,hi⟩
theorem M5 {look:VArg->Option VVal} {h:VHeap} {o:VOper} (hw:(o.op.writes || o.op.isR)=true) {id:Id} (hi:id∈(Bu o.op (o.op.args.filterMap look)).flatMap ids1++callRoots h o.op (Bu o.op (o.op.args.filterMap look))):id∈touchF look h o:=by
 simp only [touchF,hw,if_true]
 exact lmp.2 (.inr hi)
theorem NB {Γ:Sig} {look:VArg->Option VVal} {h h':VHeap} {o:VOper} (ht:∀ id∈touchF look h o,h' id=h id) (hd:∀ k,h' (.slot o.dst.slot k)=h (.slot o.dst.slot k)) :
  B1 Γ look h' o=B1 Γ look h o:=by
 have:=VV (Γ:=Γ) (look:=look) (h:=h) (h':=h') (d:=o.dst.slot) o.op (fun x hx v hv id hi=>ht id (Pj hx hv hi)) (fun hw id hi=>ht id (M5 hw hi)) hd
 unfold B1
 rw [this]
theorem M7 {look:VArg->Option VVal} {h h':VHeap} {o:VOper} (ht:∀ id∈touchF look h o,h' id=h id):touchF look h' o=touchF look h o:=by
 simp only [touchF] at ht ⊢
 split
 ·rename_i hw
  rw [if_pos hw] at ht
  rw [UN fun id hi=>ht id (by simp [hi])]
 .rfl
theorem M9 {Γ:Sig} {look:VArg->Option VVal} {h h':VHeap} {o:VOper} (hs:o.op.silent=true):B1 Γ look h' o=B1 Γ look h o:=by
 unfold B1
 rw [MZ (h:=h) (h':=h') hs]
theorem M6 {look:VArg->Option VVal} {h h':VHeap} {o:VOper} (hs:o.op.silent=true):touchF look h' o=touchF look h o:=by
 have:(o.op.writes || o.op.isR)=false:=by cases ho:o.op<;>simp_all [VOp.silent,VOp.writes,VOp.isR]
 simp [touchF,this]
theorem IE {Γ:Sig} {look:VArg->Option VVal} {h:VHeap} {o:VOper} (hs:o.op.silent=true \/ o.op.reader=true) {q:VVal × List (Id × Nat × Ob)} (he:B1 Γ look h o=some q):q.2=[]:=by
 unfold B1 at he
 split at he
 ·exact Ko hs he
 ·split at he
  ·split at he
   .exact Ko hs he
   .simp at he;subst he;rfl
  .simp at he;subst he;rfl
  .cases he
theorem Xt {t:List Id}:∀ i∈headFp t,i∈t:=by
 cases t with
 | nil=>intro i h;exact h
 | cons a t =>
  intro i h
  simp only [headFp,List.mem_singleton] at h
  simp [h]
theorem HL {op:VOp} {t:List Id}:∀ i∈op.wrFp t,i∈t:=by
 unfold VOp.wrFp
 split
 .exact Xt
 .exact fun _ h=>h
theorem WL {Γ:Sig} {look:VArg->Option VVal} {h:VHeap} {d sz bytes:Nat} {s y:VArg} {q:VVal × List (Id × Nat × Ob)} (he:Ai Γ look h d (.append sz bytes s y)=some q):∃ id ver len,look s=some (.own id ver 0 len)/\∀ x∈q.2,x.1=id:=by
 simp only [Ai] at he
 obtain ⟨p,hp,he⟩:=Aa he
 obtain ⟨v,hv,he⟩:=Aa he
 unfold Ej at he
 split at he
 ·split at he
  ·obtain ⟨_,he⟩:=Ab he
   obtain ⟨_,he⟩:=Ab he
   obtain ⟨_,he⟩:=Ab he
   obtain ⟨_,_,he⟩:=Aa he
   obtain ⟨_,he⟩:=Ab he
   obtain ⟨_,he⟩:=Ab he
   obtain ⟨_,he⟩:=Ab he
   simp only [osi] at he
   subst he
   exact ⟨_,_,_,hp,fun x hx=>by
    simp only [List.mem_singleton] at hx
    rw [hx]⟩
  .cases he
 .cases he
theorem Oc {Γ:Sig} {look:VArg->Option VVal} {h:VHeap} {o:VOper} {q:VVal × List (Id × Nat × Ob)} (he:B1 Γ look h o=some q):∀ id∈q.2.map (·.1),(∃ k,id=.slot o.dst.slot k) \/ (o.op.writes=true/\id∈o.op.wrFp (touchF look h o)):=by
 have main:Ai Γ look h o.dst.slot o.op=some q->∀ id∈q.2.map (·.1),(∃ k,id=.slot o.dst.slot k) \/ (o.op.writes=true/\id∈o.op.wrFp (touchF look h o)):=fun he id hm=>by
  obtain ⟨x,hx,rfl⟩:=lmm.1 hm
  by_cases ha:∃ sz bytes s y,o.op=.append sz bytes s y
  ·obtain ⟨sz,bytes,s,y,ha⟩:=ha
   rw [ha] at he
   obtain ⟨id,ver,len,hl,hk⟩:=WL he
   refine .inr ⟨by rw [ha];rfl,?_⟩
   rw [hk x hx,ha]
   have ht:∃ t,touchF look h o=id::t:=by
    simp only [touchF,ha,VOp.args,List.filterMap_cons,hl,lfc,ids1,ids0,lca,lna]
    exact ⟨_,rfl⟩
   obtain ⟨t,ht⟩:=ht
   rw [ht]
   simp [VOp.wrFp,headFp]
  ·have hw:o.op.wrFp (touchF look h o)=touchF look h o:=by
    unfold VOp.wrFp
    split
    ·rename_i heq
     exact absurd ⟨_,_,_,_,heq⟩ ha
    .rfl
   rw [hw]
   rcases WE he x hx with h0|⟨h1,⟨y,hy,v,hv,hi⟩|h2⟩
   .exact .inl h0
   .exact .inr ⟨h1,Pj hy hv hi⟩
   .exact .inr ⟨h1,M5 (by rw [h1];rfl) (lmp.2 (.inr h2))⟩
 unfold B1 at he
 split at he
 ·exact main he
 ·split at he
  ·split at he
   .exact main he
   .simp at he;subst he;simp
  .simp at he;subst he;simp
  .cases he
theorem zaa {r:RS} {d:VDst} {v:VVal} {x:VArg} (h:d=.none \/ d ∉ x.slot?):(r.put d v).look x=r.look x:=by
 cases d with
 | none=>rfl
 | v s =>
  cases x<;>simp [RS.put,RS.look,VArg.slot?,D6] at h ⊢
  intro e;exact absurd e.symm h
 | t s =>
  cases x<;>simp [RS.put,RS.look,VArg.slot?,E0] at h ⊢
  intro e;exact absurd e.symm h
theorem Qk {r:RS} {o:VOper} {q:VVal × List (Id × Nat × Ob)} {x:VArg} (h:o.dst=.none \/ o.dst ∉ x.slot?):(r.app o q).look x=r.look x:=by
 rw [<- zaa (r:=r) (v:=q.1) h]
 cases x<;>rfl
theorem Oo {o:VOper} {d:VDst} (h:d ∉ o.reads):∀ x∈o.uses,d ∉ x.slot?:=by
 intro x hx hd
 apply h
 simp only [VOper.reads,lmp,List.mem_flatMap]
 simp only [VOper.uses,lmp] at hx
 rcases hx with hx|hx
 ·exact .inl ⟨x,hx,hd⟩
 ·right
  split at hx
  ·rename_i g w hg
   simp at hx
   subst hx
   rw [hg]
   exact hd
  .cases hx
def Ho (o o':VOper) (t t':List Id):Prop :=
 IL o o'=true/\(o.op.silent=true \/ o'.op.silent=true \/ (o.op.reader=true/\o'.op.reader=true) \/ EV o o' t t'=true)
theorem ZM (r:RS) {d d':VDst} (v v':VVal) (h:d=.none \/ d ≠ d'):(r.put d v).put d' v'=(r.put d' v').put d v:=by
 cases d<;>cases d'<;>simp only [RS.put]
 ·rename_i s s'
  have:s ≠ s':=fun e=>by simp [e] at h
  congr 1
  funext t
  simp only [D6]
  by_cases h1:t=s<;>by_cases h2:t=s'<;>simp [h1,h2]
  .exact absurd (h1.symm.trans h2) this
  .intro e;exact absurd e this
  .intro e;exact absurd e.symm this
 ·rename_i s s'
  have:s ≠ s':=fun e=>by simp [e] at h
  congr 1
  funext t
  simp only [E0]
  by_cases h1:t=s<;>by_cases h2:t=s'<;>simp [h1,h2]
  .exact absurd (h1.symm.trans h2) this
  .intro e;exact absurd e this
  .intro e;exact absurd e.symm this
theorem Q8 (r:RS) (o o':VOper) (q q':VVal × List (Id × Nat × Ob)):(r.app o q).app o' q'={ (r.put o.dst q.1).put o'.dst q'.1 with h:=(r.h.upds q.2).upds q'.2 }:=by
 unfold RS.app
 cases o'.dst<;>rfl
theorem swap {Γ:Sig} {r:RS} {o o':VOper} {q q':VVal × List (Id × Nat × Ob)} (h:C1 Γ o r=some q) (h':C1 Γ o' (r.app o q)=some q') (ha:Ho o o' (Bg r o) (Bg (r.app o q) o')) :
  C1 Γ o' r=some q'/\Bg r o'=Bg (r.app o q) o'/\C1 Γ o (r.app o' q')=some q/\Bg (r.app o' q') o=Bg r o/\(r.app o' q').app o q=(r.app o q).app o' q':=by
 obtain ⟨hsl,hmem⟩:=ha
 simp only [IL,bat,bot,beq_iff_eq,bne_iff_ne,Bool.not_eq_true',<- Bool.not_eq_true,List.contains_iff_mem] at hsl
 obtain ⟨hs1,hs2⟩:=hsl
 have L1:∀ x∈o'.uses,(r.app o q).look x=r.look x:=fun x hx=>Qk (by
  rcases hs1 with e|⟨_,e⟩
  ·exact .inl e
  ·exact .inr (Oo e x hx))
 have L2:∀ x∈o.uses,(r.app o' q').look x=r.look x:=fun x hx=>Qk (by
  rcases hs2 with e|e
  ·exact .inl e
  ·exact .inr (Oo e x hx))
 have hput:(r.put o.dst q.1).put o'.dst q'.1=(r.put o'.dst q'.1).put o.dst q.1:=ZM r _ _ (by
  rcases hs1 with e|⟨e,_⟩
  ·exact .inl e
  ·exact .inr e)
 have hh1:(r.app o q).h=r.h.upds q.2:=rfl
 have hh2:(r.app o' q').h=r.h.upds q'.2:=rfl
 have fin:B1 Γ (r.app o q).look r.h o'=B1 Γ (r.app o q).look (r.app o q).h o'->touchF (r.app o q).look r.h o'=touchF (r.app o q).look (r.app o q).h o' ->
   (B1 Γ r.look r.h o'=some q'->touchF r.look r.h o'=Bg (r.app o q) o'->B1 Γ r.look (r.app o' q').h o=B1 Γ r.look r.h o/\touchF r.look (r.app o' q').h o=touchF r.look r.h o/\(r.h.upds q.2).upds q'.2=(r.h.upds q'.2).upds q.2) ->
   C1 Γ o' r=some q'/\Bg r o'=Bg (r.app o q) o'/\C1 Γ o (r.app o' q')=some q/\Bg (r.app o' q') o=Bg r o/\(r.app o' q').app o q=(r.app o q).app o' q':=fun m1 m2 m3=>by
  have e1:C1 Γ o' r=some q':=by rw [<- h',C1,C1,<- m1,Oa L1]
  have e2:Bg r o'=Bg (r.app o q) o':=by rw [Bg,Bg,<- m2,Nw L1]
  obtain ⟨m4,m5,m6⟩:=m3 e1 e2
  refine ⟨e1,e2,?_,?_,?_⟩
  ·rw [C1,Oa L2,m4];exact h
  ·rw [Bg,Nw L2,m5];rfl
  ·rw [Q8,Q8,hput,m6]
 by_cases hso:o.op.silent=true
 ·have e:q.2=[]:=IE (.inl hso) h
  have hr:(r.app o q).h=r.h:=by rw [hh1,e];rfl
  rw [hr] at fin
  refine fin rfl rfl fun _ _=>⟨M9 hso,M6 hso,?_⟩
  rw [e];rfl
 by_cases hso':o'.op.silent=true
 ·refine fin (M9 hso') (M6 hso') fun he _=>?_
  have e:q'.2=[]:=IE (.inl hso') he
  have hr:(r.app o' q').h=r.h:=by rw [hh2,e];rfl
  rw [hr,e]
  exact ⟨rfl,rfl,rfl⟩
 by_cases hrd:o.op.reader=true/\o'.op.reader=true
 ·have e:q.2=[]:=IE (.inr hrd.1) h
  have hr:(r.app o q).h=r.h:=by rw [hh1,e];rfl
  rw [hr] at fin
  refine fin rfl rfl fun he _=>?_
  have e':q'.2=[]:=IE (.inr hrd.2) he
  have hr':(r.app o' q').h=r.h:=by rw [hh2,e'];rfl
  rw [hr',e,e']
  exact ⟨rfl,rfl,rfl⟩
 have hfp:EV o o' (Bg r o) (Bg (r.app o q) o')=true:=by
  rcases hmem with h0|h0|h0|h0
  ·exact absurd h0 hso
  ·exact absurd h0 hso'
  ·exact absurd h0 hrd
  ·exact h0
 simp only [EV,bat,bot,Bool.not_eq_true',List.all_eq_true,bne_iff_ne,<- Bool.not_eq_true,List.contains_iff_mem] at hfp
 obtain ⟨⟨⟨⟨f1,f2⟩,f3⟩,f4⟩,f5⟩:=hfp
 have at_:∀ d k,(Id.slot d k).at d=true:=fun d k=>by simp [Id.at]
 have k1:=Oc h
 have m1:∀ id∈touchF (r.app o q).look (r.app o q).h o',r.h id=(r.app o q).h id:=fun id hm=>by
  rw [hh1,Cg]
  intro hk
  rcases k1 id hk with ⟨k,rfl⟩|⟨hw,ht⟩
  ·exact f4 _ hm (at_ _ _)
  ·rcases f1 with f1|f1
   ·exact f1 hw
   ·exact f1 id ht hm
 refine fin (NB m1 fun k=>?_) (M7 m1) fun he ht'=>?_
 ·rw [hh1,Cg]
  intro hk
  rcases k1 _ hk with ⟨k',e⟩|⟨hw,ht⟩
  ·simp at e
   exact f5 e.1.symm
  ·exact f3 _ (HL _ ht) (at_ _ _)
 ·have k2:=Oc he
  rw [ht'] at k2
  have m2:∀ id∈touchF r.look r.h o,(r.app o' q').h id=r.h id:=fun id hm=>by
   rw [hh2,Cg]
   intro hk
   rcases k2 id hk with ⟨k,rfl⟩|⟨hw,ht⟩
   ·exact f3 _ hm (at_ _ _)
   ·rcases f2 with f2|f2
    ·exact f2 hw
    ·exact f2 id ht hm
  refine ⟨NB m2 fun k=>?_,M7 m2,XY _ _ _ fun id h1 h2=>?_⟩
  ·rw [hh2,Cg]
   intro hk
   rcases k2 _ hk with ⟨k',e⟩|⟨hw,ht⟩
   ·simp at e
    exact f5 e.1
   ·exact f4 _ (HL _ ht) (at_ _ _)
  ·rcases k1 id h1 with ⟨k,rfl⟩|⟨hw,ht⟩
   ·rcases k2 _ h2 with ⟨k',e⟩|⟨hw',ht''⟩
    ·simp at e
     exact f5 e.1
    ·exact f4 _ (HL _ ht'') (at_ _ _)
   ·rcases k2 _ h2 with ⟨k',rfl⟩|⟨hw',ht''⟩
    ·exact f3 _ (HL _ ht) (at_ _ _)
    ·rcases f1 with f1|f1
     .exact f1 hw
     .exact f1 id ht (HL _ ht'')
abbrev RE:=Nat × VOper × List Id
def Runs (Γ:Sig):List RE->RS->RS->Prop
 | [],r,rn=>r=rn
 | e::L,r,rn=>Bg r e.2.1=e.2.2/\∃ q,C1 Γ e.2.1 r=some q/\Runs Γ L (r.app e.2.1 q) rn
theorem Runs.front {Γ:Sig}:∀ (A:List RE) (e:RE) (B:List RE) (r rn:RS),Runs Γ (A++e::B) r rn->(∀ x∈A,Ho x.2.1 e.2.1 x.2.2 e.2.2)->Runs Γ (e::(A++B)) r rn
 | [],_,_,_,_,h,_=>h
 | x::A,e,B,r,rn,h,ha=>by
  obtain ⟨ht,q,hq,h⟩:=h
  obtain ⟨ht',q',hq',h⟩:=Runs.front A e B _ rn h fun y hy=>ha y (lmc _ hy)
  obtain ⟨s1,s2,s3,s4,s5⟩:=swap hq hq' (by rw [ht,ht'];exact ha x (lms ..))
  refine ⟨by rw [s2,ht'],q',s1,by rw [s4,ht],q,s3,?_⟩
  rw [s5]
  exact h
theorem Oh {Γ:Sig} {fp:List (Nat × Nat)}:∀ (os:List VOper) (i:Nat) (r rn:RS) (acc:List RE),Cs Γ fp i os r acc=some rn ->
  ∃ L : List RE,L.map (·.2.1)=os/\L.map (·.1)=List.range' i os.length/\Runs Γ L r rn/\(∀ x∈acc,∀ e∈L,fp.contains (x.1,e.1)=true->EV x.2.1 e.2.1 x.2.2 e.2.2=true) /\
   L.Pairwise fun x e=>fp.contains (x.1,e.1)=true->EV x.2.1 e.2.1 x.2.2 e.2.2=true
 | [], i, r, rn, acc, h=>by
  simp [Cs] at h
  exact ⟨[],rfl,rfl,h,by simp,.nil⟩
 | o :: os,i,r,rn,acc,h=>by
  have hchk:∀ acc:List RE,FZ fp i o (Bg r o) acc=true->∀ x∈acc,fp.contains (x.1,i)=true->EV x.2.1 o x.2.2 (Bg r o)=true:=by
   intro acc
   induction acc with
   | nil=>intro _ x hx;cases hx
   | cons y ys ih =>
    intro hc x hx hf
    obtain ⟨a,o',t'⟩:=y
    simp only [FZ] at hc
    rcases lmk.1 hx with rfl|hx
    ·simp only at hf
     rw [if_pos hf] at hc
     simp only [bat] at hc
     exact hc.1
    ·split at hc
     ·simp only [bat] at hc
      exact ih hc.2 x hx hf
     .exact ih hc x hx hf
  have hmain:(fpR fp i=true->FZ fp i o (Bg r o) acc=true)/\(ob (BW Γ o r) fun r'=>Cs Γ fp (i+1) os r' (Fk fp i o r acc))=some rn:=by
   simp only [Cs] at h
   split at h
   ·obtain ⟨hc,h⟩:=Ab h
    exact ⟨fun _=>hc,h⟩
   ·rename_i hn
    exact ⟨fun e=>absurd e hn,h⟩
  obtain ⟨hc,h⟩:=hmain
  obtain ⟨r1,h1,h⟩:=Aa h
  obtain ⟨q,hq,rfl⟩:=PS h1
  obtain ⟨L,l1,l2,l3,l4,l5⟩:=Oh os (i+1) _ rn _ h
  have hsub:∀ x∈acc,x∈Fk fp i o r acc:=fun x hx=>by
   unfold Fk
   split
   ·exact lmc _ hx
   ·exact hx
  have hin:∀ b,fp.contains (i,b)=true->(i,o,Bg r o)∈Fk fp i o r acc:=fun b hb=>by
   unfold Fk
   rw [if_pos]
   ·exact lms ..
   ·simp only [fpL,List.any_eq_true]
    exact ⟨(i,b),List.contains_iff_mem.1 hb,by simp⟩
  refine ⟨(i,o,Bg r o)::L,by simp [l1],by simp [l2,List.range'_succ],⟨rfl,q,hq,l3⟩,fun x hx e he=>?_,?_⟩
  ·rcases lmk.1 he with rfl|he
   ·intro hf
    refine hchk acc (hc ?_) x hx hf
    simp only [fpR,List.any_eq_true]
    exact ⟨(x.1,i),List.contains_iff_mem.1 hf,by simp⟩
   .exact l4 x (hsub x hx) e he
  .refine lpw.2 ⟨fun e he hf=>l4 (i,o,Bg r o) (hin _ hf) e he hf,l5⟩
theorem NG {Γ:Sig}:∀ (os:List VOper) (i:Nat) (r rn:RS),Dh Γ os r=some rn ->
  ∃ L:List RE,L.map (·.2.1)=os/\L.map (·.1)=List.range' i os.length/\Runs Γ L r rn
 | [],i,r,rn,h=>by
  simp [Dh] at h
  exact ⟨[],rfl,rfl,h⟩
 | o::os,i,r,rn,h=>by
  simp only [Dh] at h
  obtain ⟨r1,h1,h⟩:=Aa h
  obtain ⟨q,hq,rfl⟩:=PS h1
  obtain ⟨L,l1,l2,l3⟩:=NG os (i+1) _ rn h
  exact ⟨(i,o,Bg r o)::L,by simp [l1],by simp [l2,List.range'_succ],⟨rfl,q,hq,l3⟩⟩
end Go.V
namespace Go.V
open Go.RowKit
section
variable [GK]
theorem Px {acc:Array Nat} {i:Nat}:∀ (l:List Edge) (s:Nat),(l.foldl (fun s e=>if Region.binds .any e then s ||| 2 ^ e.on ||| acc.getD e.on 0 else s) s).testBit i=true ->
  s.testBit i=true \/ ∃ e∈l,Region.binds .any e=true/\(i=e.on \/ (acc.getD e.on 0).testBit i=true)
 | [],s,h=>.inl h
 | e::l,s,h=>by
  simp only [List.foldl_cons] at h
  rcases Px l _ h with h0|⟨e',he',hb,h1⟩
  ·split at h0
   ·rename_i hb
    simp only [Nat.testBit_or,Nat.testBit_two_pow,bot,decide_eq_true_eq] at h0
    rcases h0 with (h0|h0)|h0
    .exact .inl h0
    .exact .inr ⟨e,lms ..,hb,.inl h0.symm⟩
    .exact .inr ⟨e,lms ..,hb,.inr h0⟩
   .exact .inl h0
  .exact .inr ⟨e',lmc _ he',hb,h1⟩
def DW (acc:Array Nat) (o:Oper):Array Nat:=acc.push (o.after.toList.foldl (fun s e=>if Region.binds .any e then s ||| 2 ^ e.on ||| acc.getD e.on 0 else s) 0)
theorem VN {acc:Array Nat} {x k:Nat} (h:k<acc.size):(acc.push x).getD k 0=acc.getD k 0:=by
 simp [agd,Array.getElem?_push,Nat.ne_of_lt h]
theorem VO {acc:Array Nat} {x:Nat}:(acc.push x).getD acc.size 0=x:=by
 simp [agd]
theorem QB:∀ (l:List Oper) (acc:Array Nat),(∀ k,k<acc.size->(l.foldl DW acc).getD k 0=acc.getD k 0) /\
  ∀ m o,l[m]?=some o->∀ i,((l.foldl DW acc).getD (acc.size+m) 0).testBit i=true->∃ e∈o.after,Region.binds .any e=true/\(i=e.on \/ (e.on<acc.size+m/\((l.foldl DW acc).getD e.on 0).testBit i=true))
 | [], acc=>⟨fun _ _=>rfl, fun m o h=>by simp at h⟩
 | o :: l,acc=>by
  obtain ⟨h1,h2⟩:=QB l (DW acc o)
  have hs:(DW acc o).size=acc.size+1:=by simp [DW]
  simp only [List.foldl_cons]
  have h1':∀ k,k<acc.size->(l.foldl DW (DW acc o)).getD k 0=acc.getD k 0:=fun k hk=>by
   rw [h1 k (by omega)]
   exact VN hk
  refine ⟨h1',fun m o' ho i hi=>?_⟩
  cases m with
  | zero =>
   simp at ho
   subst ho
   rw [Nat.add_zero] at hi ⊢
   rw [h1 acc.size (by omega)] at hi
   rw [DW,VO] at hi
   rcases Px _ _ hi with h0|⟨e,he,hb,h0⟩
   ·simp at h0
   ·refine ⟨e,by simpa using he,hb,?_⟩
    rcases h0 with h0|h0
    ·exact .inl h0
    ·right
     have hlt:e.on<acc.size:=by
      rcases Nat.lt_or_ge e.on acc.size with h|h
      .exact h
      .simp [agd,Array.getElem?_eq_none h] at h0
     exact ⟨hlt,by rw [h1' _ hlt];exact h0⟩
  | succ m =>
   simp at ho
   have:=h2 m o' ho i (by rw [hs,show acc.size+1+m=acc.size+(m+1) by omega];exact hi)
   obtain ⟨e,he,hb,h0⟩:=this
   refine ⟨e,he,hb,?_⟩
   rcases h0 with h0|⟨h3,h4⟩
   .exact .inl h0
   .exact .inr ⟨by omega,h4⟩
theorem Y1 (ops:Array Oper):Region.before ops=ops.toList.foldl DW #[]:=by
 unfold Region.before
 rw [<- Array.foldl_toList]
 congr 1
 funext acc o
 unfold DW
 rw [<- Array.foldl_toList]
theorem WJ {ops:Array Oper} {j i:Nat} {o:Oper} (ho:ops[j]?=some o) (hi:((Region.before ops).getD j 0).testBit i=true):∃ e∈o.after,Region.binds .any e=true/\(i=e.on \/ (e.on<j/\((Region.before ops).getD e.on 0).testBit i=true)):=by
 rw [Y1] at hi ⊢
 have:=(QB ops.toList #[]).2 j o (by simpa using ho) i (by simpa using hi)
 simpa using this
theorem Vq {ops:Array Oper} {listed:Array Bool} (hdown:∀ (j:Nat) (o:Oper),ops[j]?=some o->listed.getD j false=true->∀ e∈o.after,Region.binds .any e=true->listed.getD e.on false=true) :
  ∀ (j:Nat) (o:Oper),ops[j]?=some o->(∀ e∈o.after,Region.binds .any e=true->listed.getD e.on false=true)->∀ i,((Region.before ops).getD j 0).testBit i=true->listed.getD i false=true:=by
 intro j
 induction j using Nat.strongRecOn with
 | _ j ih =>
  intro o ho hall i hi
  obtain ⟨e,he,hb,h0⟩:=WJ ho hi
  rcases h0 with rfl|⟨hlt,h0⟩
  ·exact hall e he hb
  ·have hj:j<ops.size:=(ags.1 ho).1
   have ho':ops[e.on]?=some ops[e.on]:=aggz (by omega)
   exact ih e.on hlt _ ho' (hdown e.on _ ho' (hall e he hb)) i h0
theorem K1 {ops:Array Oper} {listed:Array Bool} {i:Nat}:i∈Region.ready .any ops listed ↔ listed.getD i true=false/\∃ o,ops[i]?=some o/\∀ e∈o.after,Region.binds .any e=true->listed.getD e.on false=true:=mem_ready
theorem Q1 {listed:Array Bool} {i:Nat} (h:i<listed.size):listed.getD i true=listed.getD i false:=by
 simp [agd,h]
theorem MY {listed:Array Bool} {i:Nat} (h:listed.getD i false=true):i<listed.size:=by
 rcases Nat.lt_or_ge i listed.size with h'|h'
 .exact h'
 .simp [agd,Array.getElem?_eq_none h'] at h
section
variable {P:Program} {Γ:Sig} (hΓ:C8 P Γ) {vs:List Nat} {n:Nat}
include hΓ
theorem PJ {ops:Array Oper} {Q:Exit->Act->World->Prop} (hedge:∀ (j:Nat) (o:Oper),ops[j]?=some o->∀ e∈o.after,Region.binds .any e=true->e.on<j) :
  ∀ (fuel:Nat) (listed:Array Bool) (L:List RE) (G:Gh) (r rn:RS) (a:Act) (w:World),L.length=fuel->listed.size=ops.size->(∀ i,i<ops.size->(listed.getD i true=false ↔ i∈L.map (·.1))) ->
   (L.Pairwise fun x e=>x.1<e.1/\(((Region.before ops).getD e.1 0).testBit x.1=true \/ Ho x.2.1 e.2.1 x.2.2 e.2.2)) ->
   (∀ e∈L,∃ o,ops[e.1]?=some o/\Fj P vs n ops o e.2.1=true) ->
   (∀ (j:Nat) (o:Oper),ops[j]?=some o->listed.getD j false=true->∀ e∈o.after,Region.binds .any e=true->listed.getD e.on false=true) ->
   RRel vs n G r a w->HeapInv G r.h w->Runs Γ L r rn->(∀ a' w' G',Step G r.h w G' rn.h w'->HeapInv G' rn.h w'->RRel vs n G' rn a' w'->Q .normal a' w') ->
   wpAny P .any ops Q fuel listed a w
 | 0, listed, L, G, r, rn, a, w, hlen, hsz, hls, hpw, hok, hdn, hr, hi, hrun, hQ=>by
  have hL:L=[]:=List.length_eq_zero_iff.1 hlen
  subst hL
  simp only [Runs] at hrun
  subst hrun
  refine ⟨?_,hQ a w G (Step.refl _ _ _) hi hr⟩
  rw [List.eq_nil_iff_forall_not_mem]
  intro i hm
  obtain ⟨h1,o,ho,_⟩:=K1.1 hm
  have hlt:i<ops.size:=(ags.1 ho).1
  have := (hls i hlt).1 h1
  simp at this
 | fuel+1,listed,L,G,r,rn,a,w,hlen,hsz,hls,hpw,hok,hdn,hr,hi,hrun,hQ=>by
  refine ⟨fun hnil=>?_,fun i hm=>?_⟩
  ·exfalso
   obtain ⟨e0,L',rfl⟩:∃ e0 L',L=e0::L':=by
    cases L with
    | nil=>simp at hlen
    | cons x xs=>exact ⟨x,xs,rfl⟩
   obtain ⟨o,ho,_⟩:=hok e0 (lms ..)
   have hlt:e0.1<ops.size:=(ags.1 ho).1
   have:e0.1∈Region.ready .any ops listed:=by
    refine K1.2 ⟨(hls _ hlt).2 (by simp),o,ho,fun e he hb=>?_⟩
    have hon:=hedge _ o ho e he hb
    rw [<- Q1 (by omega)]
    cases hv:listed.getD e.on true with
    | true=>rfl
    | false =>
     exfalso
     have:=(hls e.on (by omega)).1 hv
     simp only [lpc,lmk,lmm] at this
     rcases this with h0|⟨x,hx,h0⟩
     ·omega
     ·have:=((lpw.1 hpw).1 x hx).1
      omega
   rw [hnil] at this
   cases this
  ·obtain ⟨h1,o,ho,hall⟩:=K1.1 hm
   have hlt:i<ops.size:=(ags.1 ho).1
   have hin:=(hls i hlt).1 h1
   obtain ⟨e,he,hei⟩:=lmm.1 hin
   obtain ⟨A,B,rfl⟩:=List.append_of_mem he
   have hpA:∀ x∈A,x.1<e.1/\(((Region.before ops).getD e.1 0).testBit x.1=true \/ Ho x.2.1 e.2.1 x.2.2 e.2.2):=fun x hx =>
    (List.pairwise_append.1 hpw).2.2 x hx e (lms ..)
   have hap:∀ x∈A,Ho x.2.1 e.2.1 x.2.2 e.2.2:=fun x hx=>by
    rcases (hpA x hx).2 with hb|hb
    ·exfalso
     rw [hei] at hb
     have hl:=Vq hdn i o ho hall x.1 hb
     have hxl:x.1<listed.size:=MY hl
     have:=(hls x.1 (by omega)).2 (by simp;exact .inl ⟨_,_,hx⟩)
     rw [Q1 hxl,hl] at this
     cases this
    ·exact hb
   obtain ⟨ht,q,hq,hrun'⟩:=Runs.front A e B r rn hrun hap
   obtain ⟨o',ho',hok'⟩:=hok e (by simp)
   rw [hei,ho] at ho'
   simp at ho'
   subst ho'
   refine NA hΓ hr hi hok' ho hq fun a' w' G' hs hinv hr'=>?_
   have hpw':=List.pairwise_append.1 hpw
   have hpB:=lpw.1 hpw'.2.1
   refine PJ hedge fuel _ (A++B) G' _ rn a' w' (by simp at hlen ⊢;omega) (by simp [hsz]) (fun k hk=>?_) ?_ (fun x hx=>hok x ?_) ?_ hr' hinv hrun' fun a'' w'' G'' hs' hinv' hr''=>hQ a'' w'' G'' (hs.trans hs') hinv' hr''
   ·by_cases hki:k=i
    ·subst hki
     constructor
     ·intro h0
      simp [agd,hsz,hk] at h0
     ·intro h0
      exfalso
      simp only [lma,lmp,lmm] at h0
      rcases h0 with ⟨x,hx,h0⟩|⟨x,hx,h0⟩
      ·have:=(hpA x hx).1
       omega
      ·have:=(hpB.1 x hx).1
       omega
    ·have:(listed.setIfInBounds i true).getD k true=listed.getD k true:=by
      simp [agd,Array.getElem?_setIfInBounds,Ne.symm hki]
     rw [this,hls k hk]
     simp only [lma,lpc,lmp,lmk,hei]
     constructor
     ·rintro (h0|h0|h0)
      .exact .inl h0
      .exact absurd h0 hki
      .exact .inr h0
     ·rintro (h0|h0)
      .exact .inl h0
      .exact .inr (.inr h0)
   ·exact List.pairwise_append.2 ⟨hpw'.1,hpB.2,fun x hx y hy=>hpw'.2.2 x hx y (lmc _ hy)⟩
   ·simp only [lmp,lmk] at hx ⊢
    rcases hx with hx|hx
    ·exact .inl hx
    ·exact .inr (.inr hx)
   ·intro j o2 ho2 hl e2 he2 hb2
    have mono:∀ k,listed.getD k false=true->(listed.setIfInBounds i true).getD k false=true:=fun k hk=>by
     have hkl:=MY hk
     by_cases hik:i=k
     .subst hik;simp [agd,hkl]
     .simpa [agd,Array.getElem?_setIfInBounds,hik] using hk
    by_cases hji:j=i
    ·subst hji
     rw [ho] at ho2
     simp at ho2
     subst ho2
     exact mono _ (hall e2 he2 hb2)
    ·refine mono _ (hdn j o2 ho2 ?_ e2 he2 hb2)
     simpa [agd,Array.getElem?_setIfInBounds,Ne.symm hji] using hl
end
end
end Go.V
namespace Go.V
open Go.RowKit
section
variable [GK]
def Ek (fz:List Nat) (h:VHeap):Kind->Kind
 | .mine id=>match h id with
  | some (_,.arr _ _)=>if EE fz id then .frozen else .mine id
  | _=>.mine id
 | k=>k
def CV (fz:List Nat) (G:Gh) (h:VHeap):Gh:={ G with kind:=fun b=>Ek fz h (G.kind b) }
section
variable {fz:List Nat} {G:Gh} {h:VHeap} {w:World}
theorem Xv {b:Nat} (hb:G.kind b=.frozen):(CV fz G h).kind b=.frozen:=by simp [CV,hb,Ek]
theorem YK {b:Nat} (hb:G.kind b=.other):(CV fz G h).kind b=.other:=by simp [CV,hb,Ek]
theorem Qt {b:Nat} {id:Id} (hb:(CV fz G h).kind b=.mine id):G.kind b=.mine id:=by
 simp only [CV] at hb
 cases hk:G.kind b with
 | frozen=>simp [hk,Ek] at hb
 | other=>simp [hk,Ek] at hb
 | mine id' =>
  simp only [hk,Ek] at hb
  split at hb
  ·split at hb
   .cases hb
   .exact hb
  .exact hb
theorem Hs {b:Nat} {id:Id} (hb:G.kind b=.mine id) (hn:∀ v sz xs,h id=some (v,.arr sz xs)->EE fz id=false):(CV fz G h).kind b=.mine id:=by
 simp only [CV,hb,Ek]
 split
 ·rename_i v sz xs hh
  simp [hn v sz xs hh]
 .rfl
theorem zb2 {b:Nat} {id:Id} (hb:G.kind b=.mine id) {v sz:Nat} {xs:List PV} (hh:h id=some (v,.arr sz xs)) (hf:EE fz id=true):(CV fz G h).kind b=.frozen:=by
 simp [CV,hb,Ek,hh,hf]
theorem frz_step:Step G h w (CV fz G h) (BS fz h) w where
 frozen:=fun b hb _=>⟨Xv hb,rfl⟩
 other:=fun b hb _=>⟨YK hb,rfl⟩
 mine:=fun b id _ hb=>.inl (Qt hb)
 frz := fun b _ hb=>by
  simp only [CV] at hb
  cases hk:G.kind b with
  | frozen=>exact .inl rfl
  | other=>simp [hk,Ek] at hb
  | mine id =>
   simp only [hk,Ek] at hb
   split at hb
   ·split at hb
    ·rename_i hf
     cases id with
     | slot s j=>exact .inr ⟨s,j,rfl⟩
     | arg i j=>simp [EE] at hf
    .cases hb
   .cases hb
 size:=lrf _
 os:=rfl
 tape:=rfl
 output:=rfl
 vers:=fun id v o hh=>by
  cases o with
  | box cs=>exact ⟨v,.box (cs.map (fz0 fz h)),by simp [BS,hh],lrf _,fun _=>⟨rfl,rfl,trivial,fun _ _ e=>by cases e⟩⟩
  | map kt ks vs=>exact ⟨v,.map kt ks vs,by simp [BS,hh],lrf _,fun _=>⟨rfl,rfl,trivial,fun _ _ e=>by cases e⟩⟩
  | gone=>exact ⟨v,.gone,by simp [BS,hh],lrf _,fun _=>⟨rfl,rfl,trivial,fun _ _ e=>by cases e⟩⟩
  | iter s pos=>exact ⟨v,.iter s pos,by simp [BS,hh],lrf _,fun _=>⟨rfl,rfl,trivial,fun _ _ e=>by cases e⟩⟩
  | arr sz xs =>
   by_cases hf:EE fz id=true
   .exact ⟨v+1,.gone,by simp [BS,hh,hf],by omega,fun e=>by omega⟩
   .refine ⟨v,.arr sz xs,by simp [BS,hh,hf],lrf _,fun _=>⟨rfl,rfl,by simp [SameOb],fun _ _ _ hm=>Hs hm fun v' sz' xs' _=>by simpa using hf⟩⟩
theorem DE (hinv:HeapInv G h w) {v:VVal} {c:Value} (hv:VRel G h w v c):VRel (CV fz G h) (BS fz h) w (fz0 fz h v) c:=by
 cases hv with
 | @own id ver off len a n cap v o hn hcap hh hle hoo =>
  simp only [fz0]
  split
  ·rename_i hf
   split
   ·rename_i r hr
    simp only [A0,hh] at hr
    cases o<;>try (cases hr;done)
    rename_i sz xs
    obtain ⟨rfl,hr1⟩:=Ab hr
    simp at hr1
    subst hr1
    obtain ⟨sz2,xs2,e,hlen,hreal⟩:=hoo rfl
    simp at e
    obtain ⟨rfl,rfl⟩:=e
    obtain ⟨hcs,_,hall⟩:=hinv _ _ _ hh
    subst hn
    have hyl:((xs.drop off).take n).length=n:=by simp;omega
    refine .p ?_ rfl
    by_cases h0:n=0
    ·subst h0
     exact .slice ⟨0,0,none⟩ (fun _ _=>Go.undef) (by simp) hcap (fun h=>absurd h (by omega)) (by simp) (fun i x j c h=>by simp at h) (fun i x j c h=>by simp at h) (fun i x j c h=>by simp at h)
    ·rcases hreal with ⟨hc0,_⟩|⟨hm,hce,ha⟩
     ·omega
     ·obtain ⟨hxc,arr,t,hb,has,hcell⟩:=hall hm
      have hrest:=zb2 (fz:=fz) hm hh hf
      have hgk:∀ (i:Nat) (y:PV),((xs.drop off).take n)[i]?=some y->xs[off+i]?=some y/\i<n:=fun i y hy=>by
       rw [List.getElem?_take] at hy
       split at hy
       ·rw [List.getElem?_drop] at hy;exact ⟨hy,by assumption⟩
       ·cases hy
      have hg:∀ (i:Nat) (y:PV) (j:Nat) (cc:PV),((xs.drop off).take n)[i]?=some y->y.cells[j]?=some cc->arr[off*sz+(i*sz+j)]?=some (arr.getD (off*sz+(i*sz+j)) Go.undef)/\(arr.getD (off*sz+(i*sz+j)) Go.undef).oneCell'=true/\PRel (fun b=>G.kind b=.frozen) w cc (arr.getD (off*sz+(i*sz+j)) Go.undef):=fun i y j cc hy hj=>by
       obtain ⟨hy',hin⟩:=hgk i y hy
       obtain ⟨u,e1,e2,e3⟩:=hcell (off+i) y j cc hy' hj
       rw [Nat.add_mul,Nat.add_assoc] at e1
       have hu:arr.getD (off*sz+(i*sz+j)) Go.undef=u:=by
        obtain ⟨hlt,e⟩:=ags.1 e1
        simp [Array.getD,hlt,e]
       rw [hu]
       exact ⟨e1,e2,e3⟩
      refine .slice ⟨G.blk id,off*sz,none⟩ (fun i j=>arr.getD (off*sz+(i*sz+j)) Go.undef) hyl.symm hcap (fun _=>⟨ha (by omega),hrest,(ags.1 hb).1⟩)
       (fun x hx=>hcs x (List.mem_of_mem_drop (List.mem_of_mem_take hx))) (fun i y j cc hy hj=>(hg i y j cc hy hj).2.1) (fun i y j cc hy hj=>?_) (fun i y j cc hy hj=>((hg i y j cc hy hj).2.2).mono frz_step.keeps (lrf _))
      rw [add_lit,BY hb]
      exact (hg i y j cc hy hj).1
   .exact .dead _
  .exact VRel.mono frz_step (.own hn hcap hh hle hoo)
 | p hp h1=>exact VRel.mono frz_step (.p hp h1)
 | ptr hh hle hoo=>exact VRel.mono frz_step (.ptr hh hle hoo)
 | vptr ad val ha hf hb h1 hc hr=>exact VRel.mono frz_step (.vptr ad val ha hf hb h1 hc hr)
 | eptr hh hle hoo=>exact VRel.mono frz_step (.eptr hh hle hoo)
 | plist ad val hn hcap ha h1 hc hr=>exact VRel.mono frz_step (.plist ad val hn hcap ha h1 hc hr)
 | pcell hf hb h1 hc hr=>exact VRel.mono frz_step (.pcell hf hb h1 hc hr)
 | mref hh hle hoo=>exact VRel.mono frz_step (.mref hh hle hoo)
 | fn hl hr=>exact VRel.mono frz_step (.fn hl hr)
 | agg hl h1 hr=>exact VRel.mono frz_step (.agg hl h1 hr)
 | tup hl hr=>exact VRel.mono frz_step (.tup hl hr)
 | undef=>exact .undef
 | dead c=>exact .dead c
theorem GX {α β:Type} {f:α->β} {l:List α} {i:Nat} {y:β} (h:(l.map f)[i]?=some y):∃ x,l[i]?=some x/\y=f x:=by
 rw [List.getElem?_map] at h
 cases hx:l[i]? with
 | none=>simp [hx] at h
 | some x=>simp [hx] at h;exact ⟨x,rfl,h.symm⟩
theorem zbT (hinv:HeapInv G h w) {v:VVal} {c:Value} (hv:VRel G h w v c):VRel (CV fz G h) (BS fz h) w (fz1 fz h v) c:=by
 cases hv with
 | agg hl h1 hr =>
  refine .agg (by simpa using hl) h1 fun i v c hv hc=>?_
  obtain ⟨x,hx,rfl⟩:=GX hv
  exact DE hinv (hr i x c hx hc)
 | tup hl hr =>
  refine .tup (by simpa using hl) fun i v c hv hc=>?_
  obtain ⟨x,hx,rfl⟩:=GX hv
  exact DE hinv (hr i x c hx hc)
 | p hp h1=>exact DE hinv (.p hp h1)
 | own hn hcap hh hle hoo=>exact DE hinv (.own hn hcap hh hle hoo)
 | ptr hh hle hoo=>exact DE hinv (.ptr hh hle hoo)
 | vptr ad val ha hf hb h1 hc hr=>exact DE hinv (.vptr ad val ha hf hb h1 hc hr)
 | eptr hh hle hoo=>exact DE hinv (.eptr hh hle hoo)
 | plist ad val hn hcap ha h1 hc hr=>exact DE hinv (.plist ad val hn hcap ha h1 hc hr)
 | pcell hf hb h1 hc hr=>exact DE hinv (.pcell hf hb h1 hc hr)
 | mref hh hle hoo=>exact DE hinv (.mref hh hle hoo)
 | fn hl hr=>exact DE hinv (.fn hl hr)
 | undef=>exact .undef
 | dead c=>exact .dead c
theorem zb1 (hinv:HeapInv G h w):HeapInv (CV fz G h) (BS fz h) w:=by
 intro id v o hh
 simp only [BS] at hh
 split at hh
 ·rename_i v0 sz xs h0
  split at hh
  ·simp at hh
   obtain ⟨_,rfl⟩:=hh
   trivial
  ·rename_i hf
   simp at hh
   obtain ⟨rfl,rfl⟩:=hh
   obtain ⟨h1,h2,h3⟩:=hinv _ _ _ h0
   refine ⟨h1,h2.elim Or.inl (fun hm=>Or.inr (Hs hm fun _ _ _ _=>by simpa using hf)),fun hm=>?_⟩
   obtain ⟨h4,arr,t,h5,h6,h7⟩:=h3 (Qt hm)
   refine ⟨h4,arr,t,h5,h6,fun i x j c hx hj=>?_⟩
   obtain ⟨u,e1,e2,e3⟩:=h7 i x j c hx hj
   exact ⟨u,e1,e2,e3.mono frz_step.keeps (lrf _)⟩
 ·rename_i v0 cs h0
  simp at hh
  obtain ⟨rfl,rfl⟩:=hh
  obtain ⟨h1,arr,t,h2,h3,h4,h5⟩:=hinv _ _ _ h0
  refine ⟨Hs h1 fun _ _ _ e=>by rw [h0] at e;simp at e,arr,t,h2,by simpa using h3,h4,fun i v c hv hc=>?_⟩
  obtain ⟨x,hx,rfl⟩:=GX hv
  exact DE hinv (h5 i x c hx hc)
 ·rename_i o0 n1 n2
  have hob:=hinv _ _ _ hh
  cases o with
  | box cs=>exact absurd hh (n2 v cs)
  | arr sz xs=>exact absurd hh (n1 v sz xs)
  | gone=>trivial
  | iter s pos =>
   obtain ⟨h1,h2⟩:=hob
   exact ⟨Hs h1 fun _ _ _ e=>by rw [hh] at e;simp at e,h2⟩
  | map kt ks vs =>
   obtain ⟨h1,es,cl,h2,h3,h4,h5,h6⟩:=hob
   refine ⟨Hs h1 fun _ _ _ e=>by rw [hh] at e;simp at e,es,cl,h2,h3,h4,h5,fun i v e hv he=>?_⟩
   exact (h6 i v e hv he).mono frz_step.keeps (lrf _)
theorem zaz (hinv:HeapInv G h w):HeapInv G h { w with drawn:=w.drawn+1 }:=by
 have hst:Step G h w G h { w with drawn:=w.drawn+1 }:=Step.drew
 intro id v o hh
 have hob:=hinv _ _ _ hh
 cases o with
 | gone=>trivial
 | iter s pos=>exact hob
 | box cs =>
  obtain ⟨h1,arr,t,h2,h3,h4,h5⟩:=hob
  exact ⟨h1,arr,t,h2,h3,h4,fun i v c hv hc=>(h5 i v c hv hc).mono hst⟩
 | arr sz xs =>
  obtain ⟨h1,h2,h3⟩:=hob
  refine ⟨h1,h2,fun hm=>?_⟩
  obtain ⟨h4,arr,t,h5,h6,h7⟩:=h3 hm
  refine ⟨h4,arr,t,h5,h6,fun i x j c hx hj=>?_⟩
  obtain ⟨u,e1,e2,e3⟩:=h7 i x j c hx hj
  exact ⟨u,e1,e2,e3.mono hst.keeps (lrf _)⟩
 | map kt ks vs =>
  obtain ⟨h1,es,cl,h2,h3,h4,h5,h6⟩:=hob
  exact ⟨h1,es,cl,h2,h3,h4,h5,fun i v e hv he=>(h6 i v e hv he).mono hst.keeps (lrf _)⟩
end
abbrev St.rs (s:St):RS:=⟨s.pe,fun _=>none,s.h⟩
theorem VP {vs:List Nat} {n:Nat} {fz:List Nat} {G:Gh} {s:St} {a:Act} {w:World} (hr:RRel vs n G s.rs a w) (hi:HeapInv G s.h w) :
  ∃ G',Step G s.h w G' (Dr fz s).h w/\HeapInv G' (Dr fz s).h w/\RRel vs n G' (Dr fz s).rs a w:=by
 unfold Dr
 split
 .exact ⟨G,Step.refl _ _ _,hi,hr⟩
 .exact ⟨CV fz G s.h,frz_step,zb1 hi,fun t ht=>zbT hi (hr.pe t ht),fun _ _ e=>(by cases e),hr.defers,hr.size,hr.good.step frz_step⟩
theorem zay {vs:List Nat} {n:Nat} {G:Gh} {r:RS} {a:Act} {w:World} (hr:RRel vs n G r a w):RRel vs n G r a { w with drawn:=w.drawn+1 } :=
 ⟨fun t ht=>(hr.pe t ht).mono Step.drew,fun s v e=>⟨(hr.te s v e).1,(hr.te s v e).2.mono Step.drew⟩,hr.defers,hr.size,hr.good.step (h:=r.h) Step.drew⟩
theorem Ws {bs:Array Nat} {fp:List (Nat × Nat)} {us:List VOper} (h:Jr bs fp us=true) {i j:Nat} {o o':VOper} (hi:us[i]?=some o) (hj:us[j]?=some o') (hlt:i<j) :
  (bs.getD j 0).testBit i=true \/ (IL o o'=true/\(o.op.silent=true \/ o'.op.silent=true \/ (o.op.reader=true/\o'.op.reader=true) \/ fp.contains (i,j)=true)):=by
 simp only [Jr,List.all_eq_true] at h
 have h1:=h (o',j) (by rw [List.mem_zipIdx_iff_getElem?];simpa using hj) (o,i) (by rw [List.mem_zipIdx_iff_getElem?];simpa using hi)
 simp only [bot,bat,decide_eq_true_eq] at h1
 rcases h1 with (h1|h1)|⟨h1,h2⟩
 ·omega
 ·exact .inl h1
 ·refine .inr ⟨h1,?_⟩
  rcases h2 with ((h2|h2)|h2)|h2
  .exact .inl h2
  .exact .inr (.inl h2)
  .exact .inr (.inr (.inl h2))
  .exact .inr (.inr (.inr h2))
theorem Ky {L:List RE} {us:List VOper} (h1:L.map (·.2.1)=us) (h2:L.map (·.1)=List.range' 0 us.length) {k:Nat} {e:RE} (he:L[k]?=some e):e.1=k/\us[k]?=some e.2.1:=by
 have a1:(L.map (·.1))[k]?=some e.1:=by simp [he]
 have a2:(L.map (·.2.1))[k]?=some e.2.1:=by simp [he]
 rw [h2,List.getElem?_range'] at a1
 ·rw [h1] at a2
  simp at a1
  exact ⟨a1.symm,a2⟩
 ·rw [<- h1]
  simp
  exact (lgs.1 he).1
section
variable {P:Program} {Γ:Sig} (hΓ:C8 P Γ) (hm:P.follows .mixedOrders=true) {vs:List Nat} {n:Nat}
include hΓ hm
theorem Wz {ops:Array Oper} {draw:Bool} {vr:VRegion} (hok:Lp P vs n ops draw vr=true) {G:Gh} {s s':St} {a:Act} {w:World} (hr:RRel vs n G s.rs a w) (hi:HeapInv G s.h w) (he:Cc Γ vr s=some s') {id:Nat}
  {Q:Exit->Act->World->Prop} (hQ:∀ a' w' G',Step G s.h w G' s'.h w'->HeapInv G' s'.h w'->RRel vs n G' s'.rs a' w'->Q .normal a' w'):(Code.region id ops draw).wp P Q a w:=by
 simp only [Lp,bat,bot,Bool.not_eq_true'] at hok
 obtain ⟨hops,hdraw⟩:=hok
 obtain ⟨hlen,hget⟩:=NL hops
 unfold Cc at he
 obtain ⟨rn,hrn,he⟩:=Aa he
 simp only [osi] at he
 subst he
 obtain ⟨G1,hs1,hi1,hr1⟩:=VP (fz:=vr.fz) hr hi
 generalize Dr vr.fz s=s1 at hrn hs1 hi1 hr1
 have hQ':∀ a' w' G',Step G1 s1.h w G' rn.h w'->HeapInv G' rn.h w'->RRel vs n G' rn a' w'->Q .normal a' w':=fun a' w' G' hs hinv hrr =>
  hQ a' w' G' (hs1.trans hs) hinv ⟨hrr.pe,fun _ _ e=>by simp [St.rs] at e,hrr.defers,hrr.size,hrr.good⟩
 have hops':∀ (j:Nat) (u:VOper),vr.ops[j]?=some u->∃ o,ops[j]?=some o/\Fj P vs n ops o u=true:=fun j u hu=>by
  have hj:j<ops.toList.length:=by
   rw [<- hlen]
   exact (lgs.1 hu).1
  have ho:ops.toList[j]?=some ops.toList[j]:=lgg hj
  exact ⟨ops.toList[j],by simp,hget j _ u ho hu⟩
 have hL:∃ L:List RE,L.map (·.2.1)=vr.ops/\L.map (·.1)=List.range' 0 vr.ops.length/\Runs Γ L s1.rs rn/\(L.Pairwise fun x e=>vr.fp.contains (x.1,e.1)=true->EV x.2.1 e.2.1 x.2.2 e.2.2=true):=by
  split at hrn
  ·rename_i hfe
   have hfe:vr.fp=[]:=List.isEmpty_iff.1 hfe
   obtain ⟨L,l1,l2,l3⟩:=NG vr.ops 0 _ rn hrn
   exact ⟨L,l1,l2,l3,List.Pairwise.imp_of_mem (R:=fun _ _=>True) (fun _ _ _ h=>by rw [hfe] at h;simp at h) (List.pairwise_of_forall fun _ _=>trivial)⟩
  ·obtain ⟨L,l1,l2,l3,_,l5⟩:=Oh vr.ops 0 _ rn _ hrn
   exact ⟨L,l1,l2,l3,l5⟩
 obtain ⟨L,l1,l2,l3,l5⟩:=hL
 have hLlen:L.length=ops.size:=by
  have:(L.map (·.2.1)).length=vr.ops.length:=by rw [l1]
  simp at this hlen
  omega
 have hLok:∀ e∈L,∃ o,ops[e.1]?=some o/\Fj P vs n ops o e.2.1=true:=fun e he=>by
  obtain ⟨k,hk⟩:=lgm he
  obtain ⟨e1,e2⟩:=Ky l1 l2 hk
  rw [e1]
  exact hops' k _ e2
 cases draw with
 | false =>
  refine wp_region ?_
  have hruns:∀ (L:List RE) (k:Nat) (G:Gh) (r:RS) (a:Act) (w:World),L.map (·.1)=List.range' k L.length->(∀ e∈L,∃ o,ops[e.1]?=some o/\Fj P vs n ops o e.2.1=true)->RRel vs n G r a w->HeapInv G r.h w->Runs Γ L r rn ->
    (∀ a' w' G',Step G r.h w G' rn.h w'->HeapInv G' rn.h w'->RRel vs n G' rn a' w'->Q .normal a' w')->wpOps P ops Q (List.range' k L.length) a w:=by
   intro L
   induction L with
   | nil =>
    intro k G r a w _ _ hr hi hrun hQ
    simp only [Runs] at hrun
    subst hrun
    simp only [lln,List.range'_zero,wpOps]
    exact hQ a w G (Step.refl _ _ _) hi hr
   | cons e L ih =>
    intro k G r a w hk hok hr hi hrun hQ
    obtain ⟨_,q,hq,hrun⟩:=hrun
    simp only [lpc,llc,List.range'_succ,List.cons.injEq] at hk ⊢
    obtain ⟨o,ho,hok0⟩:=hok e (lms ..)
    rw [hk.1] at ho
    rw [wpOps_cons]
    refine NA hΓ hr hi hok0 ho hq fun a' w' G' hs hinv hr'=>?_
    exact ih (k+1) G' _ a' w' hk.2 (fun x hx=>hok x (lmc _ hx)) hr' hinv hrun fun a'' w'' G'' hs' hinv' hr''=>hQ a'' w'' G'' (hs.trans hs') hinv' hr''
  have:=hruns L 0 G1 s1.rs a w (by rw [l2,<- l1];simp) hLok hr1 hi1 l3 hQ'
  rw [hLlen] at this
  rw [List.range_eq_range']
  exact this
 | true =>
  have hdr:LN ops=true/\Jr (Region.before ops) vr.fp vr.ops=true:=by
   rcases hdraw with h0|h0
   ·cases h0
   ·simpa using h0
  refine wp_region_any hm ?_
  have hedge:∀ (j:Nat) (o:Oper),ops[j]?=some o->∀ e∈o.after,Region.binds .any e=true->e.on<j:=fun j o ho e he hb=>by
   have h1:=hdr.1
   simp only [LN,List.all_eq_true] at h1
   have h2:=h1 (o,j) (by rw [List.mem_zipIdx_iff_getElem?];simpa using ho)
   simp only [Array.all_eq_true,bot,Bool.not_eq_true',decide_eq_true_eq] at h2
   obtain ⟨k,hk,e1⟩:=Array.mem_iff_getElem.1 he
   have h3:=h2 k hk
   rw [e1,hb] at h3
   rcases h3 with h3|h3
   ·cases h3
   ·exact h3
  have hpw:L.Pairwise fun x e=>x.1<e.1/\(((Region.before ops).getD e.1 0).testBit x.1=true \/ Ho x.2.1 e.2.1 x.2.2 e.2.2):=by
   rw [List.pairwise_iff_getElem] at l5 ⊢
   intro i j hil hjl hlt
   have hx:=Ky l1 l2 (lgg hil)
   have hy:=Ky l1 l2 (lgg hjl)
   refine ⟨by rw [hx.1,hy.1];exact hlt,?_⟩
   have h5:=l5 i j hil hjl hlt
   rw [hx.1,hy.1] at h5
   rcases Ws hdr.2 hx.2 hy.2 hlt with h0|⟨h0,h1⟩
   ·left
    rw [hx.1,hy.1]
    exact h0
   ·right
    refine ⟨h0,?_⟩
    rcases h1 with h1|h1|h1|h1
    .exact .inl h1
    .exact .inr (.inl h1)
    .exact .inr (.inr (.inl h1))
    .exact .inr (.inr (.inr (h5 h1)))
  refine PJ hΓ hedge ops.size _ L G1 s1.rs rn a { w with drawn:=w.drawn+1 } hLlen (by simp) (fun i hi=>?_) hpw hLok (fun j o ho hl=>?_) (zay hr1) (zaz hi1) l3 fun a' w' G' hs=>hQ' a' w' G' (Step.drew.trans hs)
  ·have:i∈L.map (·.1):=by
    rw [l2,List.mem_range'_1]
    simp at hlen
    omega
   simp [agd,hi,this]
  ·simp [agd,Array.getElem?_replicate] at hl
   split at hl<;>simp at hl
end
end
end Go.V
namespace Go.V
open Go.RowKit
section
variable [GK]
def Dn (a b:Id):Kind->Kind
 | .mine i=>if i=b then .other else if i=a then .mine b else .mine i
 | k=>k
def mvG (a b:Id) (G:Gh):Gh:={ kind:=fun x=>Dn a b (G.kind x),blk:=fun id=>if id=b then G.blk a else G.blk id,cap:=fun id=>if id=b then G.cap a else G.cap id }
section
variable {a b:Id} {G:Gh} {h:VHeap} {w:World} {va sz:Nat} {xs:List PV}
theorem Ph {x:Nat} (hk:(mvG a b G).kind x=.mine b) (hab:a ≠ b):G.kind x=.mine a:=by
 simp only [mvG] at hk
 cases hx:G.kind x with
 | frozen=>simp [hx,Dn] at hk
 | other=>simp [hx,Dn] at hk
 | mine i =>
  simp only [hx,Dn] at hk
  split at hk
  ·cases hk
  ·split at hk
   ·rename_i h;rw [h]
   ·rename_i h1 h2
    cases hk
    exact absurd rfl h1
theorem Pg {x:Nat} {c:Id} (hk:(mvG a b G).kind x=.mine c) (hc:c ≠ b):G.kind x=.mine c:=by
 simp only [mvG] at hk
 cases hx:G.kind x with
 | frozen=>simp [hx,Dn] at hk
 | other=>simp [hx,Dn] at hk
 | mine i =>
  simp only [hx,Dn] at hk
  split at hk
  ·cases hk
  ·split at hk
   ·cases hk
    exact absurd rfl hc
   .exact hk
theorem HR {x:Nat} {c:Id} (hk:G.kind x=.mine c) (ha:c ≠ a) (hb:c ≠ b):(mvG a b G).kind x=.mine c:=by simp [mvG,hk,Dn,ha,hb]
theorem QW {x:Nat} (hk:G.kind x=.mine a) (hab:a ≠ b):(mvG a b G).kind x=.mine b:=by simp [mvG,hk,Dn,hab]
theorem Jt (hab:a ≠ b) (has:∃ s j,a=.slot s j) (hbs:∃ s j,b=.slot s j) (hha:h a=some (va,.arr sz xs)):Step G h w (mvG a b G) (Cd a b va (nv (h b)) sz xs h) w where
 frozen:=fun x hx _=>⟨by simp [mvG,hx,Dn],rfl⟩
 other:=fun x hx _=>⟨by simp [mvG,hx,Dn],rfl⟩
 mine:=fun x id _ hk=>by
  by_cases hid:id=b
  ·subst hid
   obtain ⟨s,j,e⟩:=has
   exact .inr ⟨hbs,s,j,by rw [Ph hk hab,e]⟩
  ·exact .inl (Pg hk hid)
 frz:=fun x _ hk=>by
  simp only [mvG] at hk
  cases hx:G.kind x with
  | frozen=>exact .inl rfl
  | other=>simp [hx,Dn] at hk
  | mine i =>
   simp only [hx,Dn] at hk
   split at hk
   ·cases hk
   ·split at hk<;>cases hk
 size:=lrf _
 os := rfl
 tape:=rfl
 output:=rfl
 vers:=fun id v o hh=>by
  by_cases hb:id=b
  ·subst hb
   exact ⟨v+1,.arr sz xs,by simp [Cd,Ev hh],by omega,fun e=>by omega⟩
  ·by_cases ha:id=a
   ·subst ha
    rw [hha] at hh
    simp at hh
    obtain ⟨rfl,rfl⟩:=hh
    exact ⟨va+1,.gone,by simp [Cd,hb],by omega,fun e=>by omega⟩
   ·cases o with
    | box cs=>exact ⟨v,.box (cs.map (mv0 a b va (nv (h b)))),by simp only [Cd,if_neg hb,if_neg ha,hh],lrf _,fun _=>⟨by simp [mvG,hb],by simp [mvG,hb],trivial,fun _ _ e=>by cases e⟩⟩
    | map kt ks vs=>exact ⟨v,.map kt ks vs,by simp only [Cd,if_neg hb,if_neg ha,hh],lrf _,fun _=>⟨by simp [mvG,hb],by simp [mvG,hb],trivial,fun _ _ e=>by cases e⟩⟩
    | gone=>exact ⟨v,.gone,by simp only [Cd,if_neg hb,if_neg ha,hh],lrf _,fun _=>⟨by simp [mvG,hb],by simp [mvG,hb],trivial,fun _ _ e=>by cases e⟩⟩
    | iter s pos=>exact ⟨v,.iter s pos,by simp only [Cd,if_neg hb,if_neg ha,hh],lrf _,fun _=>⟨by simp [mvG,hb],by simp [mvG,hb],trivial,fun _ _ e=>by cases e⟩⟩
    | arr sz' xs'=>exact ⟨v,.arr sz' xs',by simp only [Cd,if_neg hb,if_neg ha,hh],lrf _,fun _=>⟨by simp [mvG,hb],by simp [mvG,hb],by simp [SameOb],fun _ _ _ hm=>HR hm ha hb⟩⟩
theorem DD (hab:a ≠ b) (has:∃ s j,a=.slot s j) (hbs:∃ s j,b=.slot s j) (hha:h a=some (va,.arr sz xs)) {v:VVal} {c:Value} (hv:VRel G h w v c):VRel (mvG a b G) (Cd a b va (nv (h b)) sz xs h) w (mv0 a b va (nv (h b)) v) c:=by
 have hst:Step G h w (mvG a b G) (Cd a b va (nv (h b)) sz xs h) w:=Jt hab has hbs hha
 have hbn:Cd a b va (nv (h b)) sz xs h b=some (nv (h b),.arr sz xs):=by simp [Cd]
 have hbb:(mvG a b G).blk b=G.blk a:=by simp [mvG]
 have hbc:(mvG a b G).cap b=G.cap a:=by simp [mvG]
 cases hv with
 | @own id ver off len ad n cap v o hn hcap hh hle hoo =>
  by_cases hc:id=a/\ver=va
  ·obtain ⟨rfl,rfl⟩:=hc
   rw [hha] at hh
   simp at hh
   obtain ⟨rfl,rfl⟩:=hh
   obtain ⟨sz2,xs2,e,hlen,hreal⟩:=hoo rfl
   simp at e
   obtain ⟨rfl,rfl⟩:=e
   simp only [mv0,and_self,if_true]
   refine .own hn hcap hbn (lrf _) fun _=>⟨sz,xs,rfl,hlen,?_⟩
   rcases hreal with h0|⟨h1,h2,h3⟩
   .exact .inl h0
   .exact .inr ⟨by rw [hbb];exact QW h1 hab,by rw [hbc];exact h2,by rw [hbb];exact h3⟩
  ·simp only [mv0,if_neg hc]
   exact VRel.mono hst (.own hn hcap hh hle hoo)
 | @eptr id ver i off ad v o hh hle hoo =>
  by_cases hc:id=a/\ver=va
  ·obtain ⟨rfl,rfl⟩:=hc
   rw [hha] at hh
   simp at hh
   obtain ⟨rfl,rfl⟩:=hh
   obtain ⟨sz2,xs2,e,hlen,hreal⟩:=hoo rfl
   simp at e
   obtain ⟨rfl,rfl⟩:=e
   simp only [mv0,and_self,if_true]
   exact .eptr hbn (lrf _) fun _=>⟨sz,xs,rfl,hlen,by rw [hbb];exact hreal⟩
  ·simp only [mv0,if_neg hc]
   exact VRel.mono hst (.eptr hh hle hoo)
 | p hp h1=>exact VRel.mono hst (.p hp h1)
 | plist ad val hn hcap ha h1 hc hr=>exact VRel.mono hst (.plist ad val hn hcap ha h1 hc hr)
 | pcell hf hb h1 hc hr=>exact VRel.mono hst (.pcell hf hb h1 hc hr)
 | ptr hh hle hoo=>exact VRel.mono hst (.ptr hh hle hoo)
 | vptr ad val ha hf hb h1 hc hr=>exact VRel.mono hst (.vptr ad val ha hf hb h1 hc hr)
 | mref hh hle hoo=>exact VRel.mono hst (.mref hh hle hoo)
 | fn hl hr=>exact VRel.mono hst (.fn hl hr)
 | agg hl h1 hr=>exact VRel.mono hst (.agg hl h1 hr)
 | tup hl hr=>exact VRel.mono hst (.tup hl hr)
 | undef=>exact .undef
 | dead c=>exact .dead c
theorem zbC (hab:a ≠ b) (has:∃ s j,a=.slot s j) (hbs:∃ s j,b=.slot s j) (hha:h a=some (va,.arr sz xs)) {v:VVal} {c:Value} (hv:VRel G h w v c):VRel (mvG a b G) (Cd a b va (nv (h b)) sz xs h) w (mv1 a b va (nv (h b)) v) c:=by
 cases hv with
 | agg hl h1 hr =>
  refine .agg (by simpa using hl) h1 fun i v c hv hc=>?_
  obtain ⟨x,hx,rfl⟩:=GX hv
  exact DD hab has hbs hha (hr i x c hx hc)
 | tup hl hr =>
  refine .tup (by simpa using hl) fun i v c hv hc=>?_
  obtain ⟨x,hx,rfl⟩:=GX hv
  exact DD hab has hbs hha (hr i x c hx hc)
 | p hp h1=>exact DD hab has hbs hha (.p hp h1)
 | plist ad val hn hcap ha h1 hc hr=>exact DD hab has hbs hha (.plist ad val hn hcap ha h1 hc hr)
 | pcell hf hb h1 hc hr=>exact DD hab has hbs hha (.pcell hf hb h1 hc hr)
 | own hn hcap hh hle hoo=>exact DD hab has hbs hha (.own hn hcap hh hle hoo)
 | ptr hh hle hoo=>exact DD hab has hbs hha (.ptr hh hle hoo)
 | vptr ad val ha hf hb h1 hc hr=>exact DD hab has hbs hha (.vptr ad val ha hf hb h1 hc hr)
 | eptr hh hle hoo=>exact DD hab has hbs hha (.eptr hh hle hoo)
 | mref hh hle hoo=>exact DD hab has hbs hha (.mref hh hle hoo)
 | fn hl hr=>exact DD hab has hbs hha (.fn hl hr)
 | undef=>exact .undef
 | dead c=>exact .dead c
theorem zcl (hab:a ≠ b) (has:∃ s j,a=.slot s j) (hbs:∃ s j,b=.slot s j) (hha:h a=some (va,.arr sz xs)) (hinv:HeapInv G h w):HeapInv (mvG a b G) (Cd a b va (nv (h b)) sz xs h) w:=by
 have hst:Step G h w (mvG a b G) (Cd a b va (nv (h b)) sz xs h) w:=Jt hab has hbs hha
 intro id v o hh
 by_cases hb:id=b
 ·subst hb
  simp only [Cd,if_true,osi,pmi] at hh
  obtain ⟨_,rfl⟩:=hh
  obtain ⟨h1,h2,h3⟩:=hinv _ _ _ hha
  have hbb:(mvG a id G).blk id=G.blk a:=by simp [mvG]
  have hbc:(mvG a id G).cap id=G.cap a:=by simp [mvG]
  refine ⟨h1,h2.elim Or.inl (fun hm=>Or.inr (by rw [hbb];exact QW hm hab)),fun hm=>?_⟩
  rw [hbb] at hm ⊢
  rw [hbc]
  obtain ⟨h4,arr,t,h5,h6,h7⟩:=h3 (Ph hm hab)
  refine ⟨h4,arr,t,h5,h6,fun i x j c hx hj=>?_⟩
  obtain ⟨u,e1,e2,e3⟩:=h7 i x j c hx hj
  exact ⟨u,e1,e2,e3.mono hst.keeps (lrf _)⟩
 ·by_cases ha:id=a
  ·subst ha
   simp only [Cd,if_neg hb,if_true,osi,pmi] at hh
   obtain ⟨_,rfl⟩:=hh
   trivial
  ·have hbb:(mvG a b G).blk id=G.blk id:=by simp [mvG,hb]
   have hbc:(mvG a b G).cap id=G.cap id:=by simp [mvG,hb]
   simp only [Cd,if_neg hb,if_neg ha] at hh
   split at hh
   ·rename_i v0 cs h0
    simp only [osi,pmi] at hh
    obtain ⟨rfl,rfl⟩:=hh
    obtain ⟨h1,arr,t,h2,h3,h4,h5⟩:=hinv _ _ _ h0
    refine ⟨by rw [hbb];exact HR h1 ha hb,arr,t,by rw [hbb];exact h2,by simpa using h3,h4,fun i v c hv hc=>?_⟩
    obtain ⟨x,hx,rfl⟩:=GX hv
    exact DD hab has hbs hha (h5 i x c hx hc)
   ·rename_i n1
    have hob:=hinv _ _ _ hh
    cases o with
    | box cs=>exact absurd hh (n1 v cs)
    | gone=>trivial
    | iter s pos =>
     obtain ⟨h1,h2⟩:=hob
     exact ⟨by rw [hbb];exact HR h1 ha hb,by rw [hbb];exact h2⟩
    | arr sz' xs' =>
     obtain ⟨h1,h2,h3⟩:=hob
     refine ⟨h1,h2.elim Or.inl (fun hm=>Or.inr (by rw [hbb];exact HR hm ha hb)),fun hm=>?_⟩
     rw [hbb] at hm ⊢
     rw [hbc]
     obtain ⟨h4,arr,t,h5,h6,h7⟩:=h3 (Pg hm hb)
     refine ⟨h4,arr,t,h5,h6,fun i x j c hx hj=>?_⟩
     obtain ⟨u,e1,e2,e3⟩:=h7 i x j c hx hj
     exact ⟨u,e1,e2,e3.mono hst.keeps (lrf _)⟩
    | map kt ks vs =>
     obtain ⟨h1,es,cl,h2,h3,h4,h5,h6⟩:=hob
     exact ⟨by rw [hbb];exact HR h1 ha hb,es,cl,by rw [hbb];exact h2,h3,h4,h5,fun i v e hv he=>(h6 i v e hv he).mono hst.keeps (lrf _)⟩
end
theorem Wu {vs:List Nat} {n:Nat} {p q:Id} (hab:p ≠ q) (has:∃ s j,p=.slot s j) (hbs:∃ s j,q=.slot s j) {G:Gh} {s:St} {a:Act} {w:World} (hr:RRel vs n G s.rs a w) (hi:HeapInv G s.h w) :
  ∃ G',Step G s.h w G' (Fv p q s).h w/\HeapInv G' (Fv p q s).h w/\RRel vs n G' (Fv p q s).rs a w:=by
 unfold Fv
 split
 ·rename_i va sz xs hha
  exact ⟨mvG p q G,Jt hab has hbs hha,zcl hab has hbs hha hi,fun t ht=>zbC hab has hbs hha (hr.pe t ht),fun _ _ e=>(by cases e),hr.defers,hr.size,hr.good.step (Jt hab has hbs hha)⟩
 .exact ⟨G,Step.refl _ _ _,hi,hr⟩
end
end Go.V
namespace Go.V
open Go.RowKit
section
variable [GK]
def VExit.toExit:VExit->Exit
 | .normal=>.normal
 | .exit id=>.exit id
 | .ret=>.ret
theorem zbK {b:St->Option (VExit × St)} {s:St} {r:VExit × St} (h:iter b s=some r):∃ n,A6 b n s=some r:=by
 unfold iter at h
 split at h
 ·rename_i hex
  have:=Classical.choose_spec (Classical.choose_spec hex)
  simp only [osi] at h
  rw [h] at this
  exact ⟨_,this⟩
 .cases h
theorem Og {i:Id} (h:Mh i=true):∃ s j,i=.slot s j:=by
 cases i with
 | slot s j=>exact ⟨s,j,rfl⟩
 | arg i j=>cases h
def JH (P:Program) (c:Code) (Q:Exit->Act->World->Prop) (a:Act) (w:World):Prop :=
 ∀ (b:Frame) (k:List Item) (cs:List Frame),∃ e a' w',Q e a' w'/\Arrives P (lone (b.at a (.code c::.inLoop c::k)) cs w) b k cs e a' w'
theorem VJ {P:Program} {c:Code} {Q:Exit->Act->World->Prop} {a:Act} {w:World} (h:c.wp P (Exit.then (JH P c Q) Q) a w):JH P c Q a w:=by
 intro b k cs
 obtain ⟨e,a₁,w₁,hq,harr⟩:=h b (.inLoop c::k) cs
 cases e with
 | normal =>
  obtain ⟨e₂,a₂,w₂,hq₂,harr₂⟩:=hq b k cs
  exact ⟨e₂,a₂,w₂,hq₂,.of_steps (Steps.trans harr (.one step_inLoop)) harr₂⟩
 | exit id=>exact ⟨_,a₁,w₁,hq,.pass (x:=.inLoop c) rfl (fun _ _=>.inl (by simp)) harr⟩
 | goto l=>exact ⟨_,a₁,w₁,hq,.pass (x:=.inLoop c) rfl (fun _ _=>.inl (by simp)) harr⟩
 | ret=>exact ⟨_,a₁,w₁,hq,.pass (x:=.inLoop c) rfl (fun _ _=>.inl (by simp)) harr⟩
 | panic ch=>exact ⟨_,a₁,w₁,hq,.pass (x:=.inLoop c) rfl (fun _ _=>.inl (by simp)) harr⟩
 | outgrown=>exact ⟨_,a₁,w₁,hq,.pass (x:=.inLoop c) rfl (fun _ _=>.inl (by simp)) harr⟩
theorem Vr {P:Program} {c:Code} {Q:Exit->Act->World->Prop} {a:Act} {w:World} (h:JH P c Q a w):(Code.loop c).wp P Q a w:=by
 intro b k cs
 obtain ⟨e,a',w',hq,harr⟩:=h b k cs
 exact ⟨e,a',w',hq,.of_steps (.one step_loop) harr⟩
section
variable {P:Program} {Γ:Sig} (hΓ:C8 P Γ) (hm:P.follows .mixedOrders=true) {vs:List Nat} {n:Nat}
include hΓ hm
theorem EJ:∀ (vc:VCode) (c:Code) (G:Gh) (s s':St) (a:Act) (w:World) (e:VExit) (Q:Exit->Act->World->Prop),Bq P vs n c vc=true->RRel vs n G s.rs a w->HeapInv G s.h w->Ay Γ vc s=some (e,s') ->
  (∀ a' w' G',Step G s.h w G' s'.h w'->HeapInv G' s'.h w'->RRel vs n G' s'.rs a' w'->Q e.toExit a' w')->c.wp P Q a w
 | .mv p q x,c,G,s,s',a,w,e,Q,hok,hr,hi,he,hQ=>by
  simp only [Bq,bat,decide_eq_true_eq] at hok
  obtain ⟨⟨⟨hab,hp⟩,hq⟩,hok⟩:=hok
  rw [H7] at he
  obtain ⟨G1,hs1,hi1,hr1⟩:=Wu hab (Og hp) (Og hq) hr hi
  exact EJ x c G1 (Fv p q s) s' a w e Q hok hr1 hi1 he fun a' w' G' hs=>hQ a' w' G' (hs1.trans hs)
 | .fail,c,G,s,s',a,w,e,Q,hok,hr,hi,he,hQ=>by
  rw [I7] at he
  cases he
 | .skip,c,G,s,s',a,w,e,Q,hok,hr,hi,he,hQ=>by
  cases c<;>try (simp [Bq] at hok;done)
  ·rw [HI] at he
   simp only [osi,pmi] at he
   obtain ⟨rfl,rfl⟩:=he
   exact wp_skip (hQ a w G (Step.refl _ _ _) hi hr)
  ·rw [HI] at he
   simp only [osi,pmi] at he
   obtain ⟨rfl,rfl⟩:=he
   exact wp_label (hQ a w G (Step.refl _ _ _) hi hr)
 | .scope x,c,G,s,s',a,w,e,Q,hok,hr,hi,he,hQ=>by
  cases c<;>try (simp [Bq] at hok;done)
  rename_i cx
  simp only [Bq] at hok
  rw [HE] at he
  refine wp_scope_straight (EJ x cx G s s' a w e _ hok hr hi he fun a' w' G' hs hinv hr'=>?_)
  have:=hQ a' w' G' hs hinv hr'
  cases e<;>exact this
 | .region r,c,G,s,s',a,w,e,Q,hok,hr,hi,he,hQ=>by
  cases c<;>try (simp [Bq] at hok;done)
  rename_i id ops draw
  simp only [Bq] at hok
  rw [Hz] at he
  obtain ⟨s1,h1,he⟩:=Aa he
  simp only [osi,pmi] at he
  obtain ⟨rfl,rfl⟩:=he
  exact Wz hΓ hm hok hr hi h1 hQ
 | .seq x y,c,G,s,s',a,w,e,Q,hok,hr,hi,he,hQ=>by
  cases c<;>try (simp [Bq] at hok;done)
  rename_i cx cy
  simp only [Bq,bat] at hok
  rw [FQ] at he
  obtain ⟨⟨e1,s1⟩,h1,he⟩:=Aa he
  refine wp_seq (EJ x cx G s s1 a w e1 _ hok.1 hr hi h1 fun a' w' G' hs hinv hr'=>?_)
  cases e1 with
  | normal =>
   rw [Ht] at he
   exact EJ y cy G' s1 s' a' w' e Q hok.2 hr' hinv he fun a'' w'' G'' hs'=>hQ a'' w'' G'' (hs.trans hs')
  | exit id =>
   rw [N9] at he
   simp only [osi,pmi] at he
   obtain ⟨rfl,rfl⟩:=he
   exact hQ a' w' G' hs hinv hr'
  | ret =>
   rw [OX] at he
   simp only [osi,pmi] at he
   obtain ⟨rfl,rfl⟩:=he
   exact hQ a' w' G' hs hinv hr'
 | .cond t x y,c,G,s,s',a,w,e,Q,hok,hr,hi,he,hQ=>by
  cases c<;>try (simp [Bq] at hok;done)
  rename_i co cx cy
  simp only [Bq,bat] at hok
  cases t with
  | v t =>
   rw [GJ] at he
   split at he
   ·rename_i b hb
    have hv:=E9 (Av (r:=s.rs) hr hok.1.1 (v:=.p (.bool b)) (by simp [RS.look,hb]))
    cases b with
    | true =>
     rw [EU] at he
     exact wp_cond_true hv (EJ x cx G s s' a w e Q hok.1.2 hr hi he hQ)
    | false =>
     rw [ES] at he
     exact wp_cond_false hv (EJ y cy G s s' a w e Q hok.2 hr hi he hQ)
   ·cases he
  | t t=>simp [Ay] at he
  | c d=>simp [Ay] at he
 | .block id x,c,G,s,s',a,w,e,Q,hok,hr,hi,he,hQ=>by
  cases c<;>try (simp [Bq] at hok;done)
  rename_i id' cx
  simp only [Bq,bat,beq_iff_eq] at hok
  obtain ⟨rfl,hok⟩:=hok
  rw [HF] at he
  obtain ⟨⟨e1,s1⟩,h1,he⟩:=Aa he
  refine wp_block (EJ x cx G s s1 a w e1 _ hok hr hi h1 fun a' w' G' hs hinv hr'=>?_)
  cases e1 with
  | normal =>
   rw [OH] at he
   simp only [osi,pmi] at he
   obtain ⟨rfl,rfl⟩:=he
   exact hQ a' w' G' hs hinv hr'
  | ret =>
   rw [Q0] at he
   simp only [osi,pmi] at he
   obtain ⟨rfl,rfl⟩:=he
   exact hQ a' w' G' hs hinv hr'
  | exit i =>
   rw [Qp] at he
   simp only [VExit.toExit,Exit.inBlock]
   split at he
   ·rename_i hid
    simp only [osi,pmi] at he
    obtain ⟨rfl,rfl⟩:=he
    rw [if_pos hid]
    exact hQ a' w' G' hs hinv hr'
   ·rename_i hid
    simp only [osi,pmi] at he
    obtain ⟨rfl,rfl⟩:=he
    rw [if_neg hid]
    exact hQ a' w' G' hs hinv hr'
 | .loop x,c,G,s,s',a,w,e,Q,hok,hr,hi,he,hQ=>by
  cases c<;>try (simp [Bq] at hok;done)
  rename_i cx
  simp only [Bq] at hok
  rw [HJ] at he
  obtain ⟨k,hk⟩:=zbK he
  have key:∀ (k:Nat) (G:Gh) (s:St) (a:Act) (w:World),RRel vs n G s.rs a w->HeapInv G s.h w->A6 (Ay Γ x) k s=some (e,s') ->
    (∀ a' w' G',Step G s.h w G' s'.h w'->HeapInv G' s'.h w'->RRel vs n G' s'.rs a' w'->Q e.toExit a' w')->JH P cx Q a w:=by
   intro k
   induction k with
   | zero=>intro G s a w _ _ hk;simp [A6] at hk
   | succ k ih =>
    intro G s a w hr hi hk hQ
    simp only [A6] at hk
    obtain ⟨⟨e1,s1⟩,h1,hk⟩:=Aa hk
    refine VJ (EJ x cx G s s1 a w e1 _ hok hr hi h1 fun a' w' G' hs hinv hr'=>?_)
    cases e1 with
    | normal=>exact ih G' s1 a' w' hr' hinv hk fun a'' w'' G'' hs'=>hQ a'' w'' G'' (hs.trans hs')
    | exit id =>
     simp only [osi,pmi] at hk
     obtain ⟨rfl,rfl⟩:=hk
     exact hQ a' w' G' hs hinv hr'
    | ret =>
     simp only [osi,pmi] at hk
     obtain ⟨rfl,rfl⟩:=hk
     exact hQ a' w' G' hs hinv hr'
  exact Vr (key k G s a w hr hi hk hQ)
 | .exit id,c,G,s,s',a,w,e,Q,hok,hr,hi,he,hQ=>by
  cases c<;>try (simp [Bq] at hok;done)
  simp only [Bq,beq_iff_eq] at hok
  subst hok
  rw [I8] at he
  simp only [osi,pmi] at he
  obtain ⟨rfl,rfl⟩:=he
  exact wp_exit (hQ a w G (Step.refl _ _ _) hi hr)
 | .ret,c,G,s,s',a,w,e,Q,hok,hr,hi,he,hQ=>by
  cases c<;>try (simp [Bq] at hok;done)
  rw [Jn] at he
  simp only [osi,pmi] at he
  obtain ⟨rfl,rfl⟩:=he
  exact wp_ret (hQ a w G (Step.refl _ _ _) hi hr)
end
theorem Ox {P:Program} {vs:List Nat}:∀ {rs:List ResultVar} {us:List VRet},G9 P vs rs us=true->us.length=rs.length/\∀ (i:Nat) (r:ResultVar) (u:VRet),rs[i]?=some r->us[i]?=some u->JS P vs r u=true
 | [],[],_=>⟨rfl,fun i o u h=>by simp at h⟩
 | o::os,u::us,h=>by
  simp only [G9,bat] at h
  obtain ⟨h1,h2⟩:=Ox h.2
  refine ⟨by simp [h1],fun i o' u' ho hu=>?_⟩
  cases i with
  | zero=>simp at ho hu;subst ho;subst hu;exact h.1
  | succ i=>simp at ho hu;exact h2 i o' u' ho hu
 | [],_::_,h=>by simp [G9] at h
 | _::_,[],h=>by simp [G9] at h
def FO (tmps:Array Value):ResultVar->Sem Value
 | .tmp t=>pure (tmps.getD t undef)
 | .cell a t=>do loadVar t (<- asAddr (tmps.getD a undef))
theorem Yc {P:Program} {vs:List Nat} {n:Nat} {G:Gh} {s:St} {a:Act} {w:World} (hr:RRel vs n G s.rs a w) (hi:HeapInv G s.h w) {rv:ResultVar} {u:VRet} (hok:JS P vs rv u=true) {v:VVal} (hv:EZ s u=some v) :
  ∃ c,(FO a.tmps rv).run P w=.ok c w/\VRel G s.h w v c:=by
 unfold JS at hok
 split at hok
 ·rename_i t t'
  simp only [bat,beq_iff_eq,List.contains_iff_mem] at hok
  obtain ⟨rfl,hmem⟩:=hok
  simp only [EZ,osi] at hv
  subst hv
  exact ⟨_,by simp [FO],hr.pe t hmem⟩
 ·rename_i t ty t' agg
  simp only [bat,beq_iff_eq,List.contains_iff_mem] at hok
  obtain ⟨⟨rfl,hmem⟩,hagg⟩:=hok
  simp only [EZ,F9] at hv
  obtain ⟨⟨cs,off⟩,hrow,hv⟩:=Aa hv
  obtain ⟨ad,hp,hrr⟩:=N0 hi (hr.pe t hmem) hrow
  obtain ⟨c,h1,h2⟩:=MX (P:=P) hrr hv hagg
  refine ⟨c,?_,h2⟩
  simp [FO,hp,asAddr,h1]
 .cases hok
end
end Go.V
namespace Go.V
open Go.RowKit
section
variable [GK]
theorem Qi {P:Program} {w:World} {f:ResultVar->Sem Value}:∀ (rs:List ResultVar) (vs:List Value),vs.length=rs.length->(∀ (j:Nat) (r:ResultVar) (v:Value),rs[j]?=some r->vs[j]?=some v->(f r).run P w=.ok v w) ->
  (rs.mapM f).run P w=.ok vs w
 | [],vs,hl,_=>by
  have:vs=[]:=List.length_eq_zero_iff.1 (by simpa using hl)
  subst this
  simp
 | r::rs,vs,hl,hf=>by
  obtain ⟨v,vs',rfl⟩:∃ v vs',vs=v::vs':=by
   cases vs with
   | nil=>simp at hl
   | cons v vs'=>exact ⟨v,vs',rfl⟩
  have h0:=hf 0 r v rfl rfl
  have ih:=Qi (P:=P) (w:=w) (f:=f) rs vs' (by simpa using hl) (fun j r u hr hu=>hf (j+1) r u (by simpa using hr) (by simpa using hu))
  rw [List.mapM_cons]
  simp only [Sem.run_bind,h0,Result.andThen_ok,ih,Sem.run_pure]
def JP:List Value->Value
 | [v]=>v
 | vs=>.tuple vs.toArray
theorem Wg {P:Program} {fn:Func} {tmps:Array Value} {w:World} {vs:List Value} (hl:vs.length=fn.results.size) (h:∀ (j:Nat) (r:ResultVar) (v:Value),fn.results[j]?=some r->vs[j]?=some v->(FO tmps r).run P w=.ok v w) :
  (results fn tmps).run P w=.ok (JP vs) w:=by
 have hm:(fn.results.toList.mapM (FO tmps)).run P w=.ok vs w:=Qi _ vs (by simpa using hl) (fun j r v hr hv=>h j r v (by simpa using hr) hv)
 have e:results fn tmps=(do
   let vs <- fn.results.mapM (FO tmps)
   pure (if h:vs.size=1 then vs[0] else .tuple vs)):=by
  unfold results
  congr 1
 rw [e,Array.mapM_eq_mapM_toList]
 simp only [map_eq_pure_bind,bind_assoc,pure_bind,Sem.run_bind,hm,Result.andThen_ok,Sem.run_pure]
 clear hl h hm
 match vs with
 | []=>simp [JP]
 | [v]=>simp [JP]
 | _::_::_=>simp [JP]
theorem WI {P:Program} {Γ:Sig} (hΓ:C8 P Γ) (hm:P.follows .mixedOrders=true) {f:FuncId} {vf:VFunc} (hok:Ha P f vf=true) {args:List VVal} {H:List Ob} {res:VVal} {H':List Ob} (he:BX Γ vf args H=some (res,H')) :
  DV P f=true/\CR P f args H res H':=by
 unfold Ha at hok
 split at hok<;>try (cases hok;done)
 rename_i fn hfn
 split at hok<;>try (cases hok;done)
 rename_i c hc
 simp only [bat,decide_eq_true_eq] at hok
 obtain ⟨⟨⟨h1,h2⟩,h3⟩,h4⟩:=hok
 refine ⟨by simp [DV,hfn,hc,h1],fun G w cargs hinv hgd hlen hargs hkind=>?_⟩
 unfold BX at he
 obtain ⟨hn,he⟩:=Ab he
 obtain ⟨⟨e,s'⟩,hex,he⟩:=Aa he
 refine calls_of_wp hfn hc (EJ hΓ hm (vs:=vf.vs) (n:=fn.ntmps) vf.body c G { pe:=Hd args,h:=As H } s' _ w e _ h2 ⟨fun s hs=>?_,fun _ _ e=>(by cases e),rfl,(by simp;omega),hgd⟩ hinv hex fun a' w' G' hs hinv' hr'=>?_)
 ·simp only [Hd]
  by_cases hlt:s<args.length
  ·have e1:args[s]?=some args[s]:=lgg hlt
   have e2:cargs[s]?=some cargs[s]:=aggz (by omega)
   have:=hargs s _ _ e1 e2
   rw [List.getD_eq_getElem?_getD,e1,agd,Array.getElem?_append_left (by omega),e2]
   exact this
  ·rw [List.getD_eq_getElem?_getD,List.getElem?_eq_none (by omega),agd,Array.getElem?_append_right (by omega),Array.getElem?_replicate]
   split<;>exact .undef
 ·have fin:∀ (vs:List VVal),Ad (EZ s') vf.rets=some vs->∃ v,(results fn a'.tmps).run P w'=.ok v w'/\DI G' s'.h w' vs v:=fun vs hvs=>by
   obtain ⟨r1,r2⟩:=Ox h3
   obtain ⟨l1,l2⟩:=A3 hvs
   have hex:∀ k,k<=vs.length->∃ cs:List Value,cs.length=k/\∀ (j:Nat) (r:ResultVar) (v:VVal) (c:Value),fn.results[j]?=some r->vs[j]?=some v->cs[j]?=some c->(FO a'.tmps r).run P w'=.ok c w'/\VRel G' s'.h w' v c:=by
    intro k
    induction k with
    | zero=>exact fun _=>⟨[],rfl,fun j r v c _ _ h=>by simp at h⟩
    | succ k ih =>
     intro hk
     obtain ⟨cs,hcl,hcs⟩:=ih (by omega)
     have hlt:k<vs.length:=by omega
     have hv:vs[k]?=some vs[k]:=lgg hlt
     obtain ⟨u,hu,huv⟩:=l2 k _ hv
     have hrl:k<fn.results.toList.length:=by omega
     have hrr:fn.results.toList[k]?=some fn.results.toList[k]:=lgg hrl
     obtain ⟨c,hc1,hc2⟩:=Yc (s:=s') hr' hinv' (r2 k _ u hrr hu) huv
     refine ⟨cs++[c],by simp [hcl],fun j r v c' hr hv' hc'=>?_⟩
     by_cases hjk:j<k
     ·rw [List.getElem?_append_left (by omega)] at hc'
      exact hcs j r v c' hr hv' hc'
     ·have hjk':j=k:=by
       have:=(lgs.1 hc').1
       simp at this
       omega
      subst hjk'
      rw [lgr (by omega),hcl] at hc'
      simp at hc'
      subst hc'
      rw [hv] at hv'
      simp at hv'
      subst hv'
      have:fn.results.toList[j]?=some r:=by simpa using hr
      rw [hrr] at this
      simp only [osi] at this
      rw [this] at hc1
      exact ⟨hc1,hc2⟩
   obtain ⟨cs,hcl,hcs⟩:=hex vs.length (lrf _)
   have hsz:fn.results.size=vs.length:=by simp at r1;omega
   refine ⟨_,Wg (vs:=cs) (by omega) (fun j r c hr hc=>?_),?_⟩
   ·have hj:j<vs.length:=by
     have:=(lgs.1 hc).1
     omega
    exact (hcs j r _ c hr (lgg hj) hc).1
   ·have hrel:∀ (j:Nat) (v:VVal) (c:Value),vs[j]?=some v->cs[j]?=some c->VRel G' s'.h w' v c:=fun j v c hv hc=>by
     have hj:j<fn.results.size:=by
      have:=(lgs.1 hv).1
      omega
     exact (hcs j _ v c (aggz hj) hv hc).2
    match vs,cs,hcl with
    | [],[],_=>exact ⟨#[],rfl,rfl,fun i v c h=>by simp at h⟩
    | [v],[c],_=>exact hrel 0 v c rfl rfl
    | v::v'::vs,c::c'::cs,hcl=>exact ⟨_,rfl,by simpa using hcl.symm,fun i u d hu hd=>hrel i u d hu (by simpa using hd)⟩
  have done:∀ r,(ob (Ad (EZ s') vf.rets) fun vs=>ob (Ck s'.h H.length vs) fun v=>ob (Bf s'.h 0 H.length) fun H'=>some (v,H'))=some r->r=(res,H')->a'.defers=[]/\∃ v,(results fn a'.tmps).run P w'=.ok v w' /\
    ∃ c G'' h' vs,Ending.returned v=.returned c/\Step G (As H) w G'' h' w'/\HeapInv G'' h' w'/\DI G'' h' w' vs c/\Ck h' H.length vs=some res/\Bf h' 0 H.length=some H':=fun r he hr=>by
   obtain ⟨vs,hvs,he⟩:=Aa he
   obtain ⟨v,hv,he⟩:=Aa he
   obtain ⟨H2,hH,he⟩:=Aa he
   simp only [osi] at he
   subst hr
   simp only [pmi] at he
   obtain ⟨rfl,rfl⟩:=he
   obtain ⟨c,hc1,hc2⟩:=fin vs hvs
   exact ⟨hr'.defers,c,hc1,c,G',s'.h,vs,rfl,hs,hinv',hc2,hv,hH⟩
  cases e with
  | normal =>
   rw [Ng] at he
   exact done _ he rfl
  | ret =>
   rw [Pm] at he
   exact done _ he rfl
  | exit id=>simp [JT] at he
theorem NU {P:Program} {prog:FuncId->Option VFunc} {X:Sig} (hX:C8 P X) (hm:P.follows .mixedOrders=true) (hok:∀ f vf,prog f=some vf->Ha P f vf=true):∀ n,C8 P (CT prog X n)
 | 0=>hX
 | n+1=>by
  intro f args H res H' he
  simp only [CT] at he
  split at he
  ·rename_i r hr
   simp at he
   subst he
   exact hX _ _ _ _ _ hr
  ·split at he
   ·rename_i vf hvf
    exact WI (NU hX hm hok n) hm (hok f vf hvf) he
   .cases he
theorem Zc {prog:FuncId->Option VFunc} {X:Sig} {f:FuncId} {args:List VVal} {H:List Ob} {r:VVal × List Ob} (h:Es prog X f args H=some r):∃ n,CT prog X n f args H=some r:=by
 unfold Es at h
 split at h
 ·rename_i hex
  have:=Classical.choose_spec (Classical.choose_spec hex)
  simp only [osi] at h
  rw [h] at this
  exact ⟨_,this⟩
 .cases h
theorem V6 {P:Program} {prog:FuncId->Option VFunc} {X:Sig} (hX:C8 P X) (hm:P.follows .mixedOrders=true) (hok:∀ f vf,prog f=some vf->Ha P f vf=true):C8 P (Es prog X):=by
 intro f args H res H' he
 obtain ⟨n,hn⟩:=Zc he
 exact NU hX hm hok n _ _ _ _ _ hn
end
end Go.V
namespace Go.V
open Go.RowKit Go.ChangeShapes Go.WideShapes Go.ChangeAt
section
variable [GK]
def allFz:Gh:={ kind:=fun _=>.frozen,blk:=fun _=>0,cap:=fun _=>0 }
end
end Go.V
namespace Go.V
open Go.RowKit Go.ChangeShapes Go.WideShapes Go.ChangeAt
section
variable [GK]
end
end Go.V
