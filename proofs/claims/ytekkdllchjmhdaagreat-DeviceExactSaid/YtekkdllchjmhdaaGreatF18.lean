/- Part 18 of the proof. -/
import Derived.Test.YtekkdllchjmhdaaGreatF9
import Derived.ChangeArms
import Derived.Test.YtekkdllchjmhdaaGreatF2
import Derived.Test.YtekkdllchjmhdaaGreatF4
set_option linter.unusedSectionVars false
set_option linter.unusedSimpArgs false
set_option linter.unusedVariables false
set_option maxHeartbeats 32000000
open List renaming getElem?_eq_getElem → lgg, getElem?_eq_some_iff → lgs, mem_of_getElem? → lmg, mem_cons_of_mem → lmc, map_cons → lpc, drop_of_length_le → ldl, nil_append → lna, append_nil → lan, mem_map → lmm, mem_cons_self → lms, getElem?_of_mem → lgm, length_cons → llc, length_append → lla, getElem?_append_right → lgr, mem_cons → lmk, length_nil → lln
open Bool renaming and_eq_true → bat
open Array renaming getElem?_eq_some_iff → ags
namespace Go.V
open Go.RowKit Go.ChangeShapes Go.WideShapes Go.ChangeAt
section
variable [GK]
def EC (P:Program) (e:TypeId) (ds:List PV):PV:=match P.underlying e with
 | some (.struct _)=>.agg ds
 | _=>ds.headD .nilp
def FitC (P:Program):Nat->TypeId->List PV->Prop
 | 0,_,_=>False
 | k+1,t,ds=>match P.underlying t with
  | some .bool=>∃ b,ds=[.bool b]
  | some (.int q)=>∃ n,ds=[.int q n]/\(Lit.int q n).wf=true
  | some .string=>∃ s:ByteArray,ds=[.str s]/\s.size<=maxLen
  | some (.slice e)=>∃ es:List (List PV),ds=[.slice (P.cellsOf e) (es.map (EC P e))]/\∀ x∈es,FitC P k e x
  | some (.struct fs)=>ds.length=P.cellsOf t/\∀ (i:Nat) (f:Field),fs[i]?=some f->FitC P k f.type ((ds.drop f.offset).take (P.cellsOf f.type))
  | _=>False
def Fq (P:Program) (n:Nat):Nat->List Field->Bool
 | off,[]=>off == n
 | off,f::fs=>f.offset == off && Fq P n (off+P.cellsOf f.type) fs
def G6 (P:Program):Nat->TypeId->Bool
 | 0,_=>false
 | k+1,t=>match P.underlying t with
  | some .bool=>P.cellsOf t == 1
  | some (.int _)=>P.cellsOf t == 1
  | some .string=>P.cellsOf t == 1
  | some (.slice e)=>P.cellsOf t == 1 && G6 P k e && decide (0<P.cellsOf e)
  | some (.struct fs)=>Fq P (P.cellsOf t) 0 fs.toList && fs.toList.all fun f=>G6 P k f.type
  | _=>false
theorem Xn {P:Program} {k:Nat} {e:TypeId} {ds:List PV} (h:FitC P k e ds):(EC P e ds).cells=ds:=by
 cases k with
 | zero=>exact h.elim
 | succ k =>
  unfold FitC at h
  unfold EC
  split at h
  .rename_i hu;rw [hu];obtain ⟨b,rfl⟩:=h;rfl
  .rename_i hu;rw [hu];obtain ⟨b,rfl,_⟩:=h;rfl
  .rename_i hu;rw [hu];obtain ⟨b,rfl,_⟩:=h;rfl
  .rename_i hu;rw [hu];obtain ⟨b,rfl,_⟩:=h;rfl
  .rename_i hu;rw [hu];rfl
  .exact h.elim
theorem OR {α:Type} {Q:Nat->α->Prop}:∀ (n:Nat),(∀ i,i<n->∃ a,Q i a)->∃ l:List α,l.length=n/\∀ i a,l[i]?=some a->Q i a
 | 0,_=>⟨[],rfl,fun i a h=>by simp at h⟩
 | n+1,h=>by
  obtain ⟨l,hl,hq⟩:=OR n fun i hi=>h i (by omega)
  obtain ⟨a,ha⟩:=h n (by omega)
  refine ⟨l++[a],by simp [hl],fun i b hb=>?_⟩
  rcases Nat.lt_or_ge i n with hi|hi
  ·rw [List.getElem?_append_left (by omega)] at hb
   exact hq i b hb
  ·rw [lgr (by omega)] at hb
   have:i - l.length=0:=by
    have:=(lgs.1 hb).1
    simp at this
    omega
   rw [this] at hb
   simp at hb
   rw [show i=n by omega,<- hb]
   exact ha
theorem N8 {P:Program} {n:Nat} {R:Field->List PV->Prop}:∀ (fs:List Field) (off:Nat),Fq P n off fs=true->(∀ f∈fs,∃ ds,R f ds/\ds.length=P.cellsOf f.type) ->
  ∃ ds:List PV,off+ds.length=n/\∀ f∈fs,off<=f.offset/\f.offset+P.cellsOf f.type<=n/\R f ((ds.drop (f.offset - off)).take (P.cellsOf f.type))
 | [],off,h,_=>by
  simp [Fq] at h
  exact ⟨[],by simpa using h,fun f hf=>by simp at hf⟩
 | f::fs,off,h,hR=>by
  simp only [Fq,bat,beq_iff_eq] at h
  obtain ⟨ds0,hr0,hl0⟩:=hR f (lms ..)
  obtain ⟨ds,hl,hq⟩:=N8 fs (off+P.cellsOf f.type) h.2 fun g hg=>hR g (lmc _ hg)
  refine ⟨ds0++ds,by simp;omega,fun g hg=>?_⟩
  rcases lmk.1 hg with rfl|hg
  ·refine ⟨by omega,by omega,?_⟩
   rw [h.1,Nat.sub_self,List.drop_zero,<- hl0,List.take_left]
   exact hr0
  ·obtain ⟨h1,h2,h3⟩:=hq g hg
   refine ⟨by omega,h2,?_⟩
   rw [List.drop_append,show List.drop (g.offset - off) ds0=[] from ldl (by omega),lna,hl0,show g.offset - off - P.cellsOf f.type=g.offset - (off+P.cellsOf f.type) by omega]
   exact h3
theorem N7 {P:Program} {n:Nat}:∀ (fs:List Field) (off:Nat),Fq P n off fs=true->∀ i,off<=i->i<n->∃ f∈fs,f.offset<=i/\i<f.offset+P.cellsOf f.type
 | [],off,h,i,h1,h2=>by
  simp [Fq] at h
  omega
 | f::fs,off,h,i,h1,h2=>by
  simp only [Fq,bat,beq_iff_eq] at h
  rcases Nat.lt_or_ge i (off+P.cellsOf f.type) with hi|hi
  ·exact ⟨f,lms ..,by omega,by omega⟩
  ·obtain ⟨g,hg,h3⟩:=N7 fs _ h.2 i hi h2
   exact ⟨g,lmc _ hg,h3⟩
theorem Qs {α:Type} {l:List α} {o w i:Nat} (h1:o<=i) (h2:i<o+w):((l.drop o).take w)[i - o]?=l[i]?:=by
 rw [List.getElem?_take_of_lt (by omega),List.getElem?_drop,show o+(i - o)=i by omega]
section
variable {H:Type} {enc:TypeId × Value->H} {P:Program} {W:World}
theorem Lf {sp:Nat->Bool} {held:Bool}:∀ (k:Nat) (t:TypeId) (cs:List Value) (n:Nat) (x:DataW H × List MemPlace),G6 P k t=true->DataW.trod enc P W 0 sp held n t cs=some x ->
  ∃ ds:List PV,FitC P k t ds/\ds.length=cs.length/\cs.length=P.cellsOf t/\∀ (i:Nat) (d:PV) (c:Value),ds[i]?=some d->cs[i]?=some c->PRel (fun b=>allFz.kind b=.frozen) W d c/\c.oneCell'=true
 | 0, _, _, _, _, h, _=>by simp [G6] at h
 | k + 1,t,cs,n,x,hs,h=>by
  have one:∀ (d:PV) (c:Value),PRel (fun b=>allFz.kind b=.frozen) W d c->c.oneCell'=true->∀ (i:Nat) (d':PV) (c':Value),[d][i]?=some d'->[c][i]?=some c'->PRel (fun b=>allFz.kind b=.frozen) W d' c'/\c'.oneCell'=true:=by
   intro d c h1 h2 i d' c' hd hc
   cases i with
   | zero=>simp at hd hc;subst hd;subst hc;exact ⟨h1,h2⟩
   | succ i=>simp at hd
  unfold G6 at hs
  split at hs
  ·rename_i hu
   obtain ⟨b,rfl,_⟩:=DataW.trod_bool hu h
   exact ⟨[.bool b],by unfold FitC;rw [hu];exact ⟨b,rfl⟩,rfl,by simpa using (beq_iff_eq.1 hs).symm,one _ _ (.bool b) rfl⟩
  ·rename_i q hu
   obtain ⟨b,rfl,_,hw⟩:=DataW.trod_int hu h
   exact ⟨[.int q b],by unfold FitC;rw [hu];exact ⟨b,rfl,hw⟩,rfl,by simpa using (beq_iff_eq.1 hs).symm,one _ _ (.int q b) rfl⟩
  ·rename_i hu
   obtain ⟨b,rfl,_,hw⟩:=DataW.trod_string hu h
   exact ⟨[.str b],by unfold FitC;rw [hu];exact ⟨b,rfl,hw⟩,rfl,by simpa using (beq_iff_eq.1 hs).symm,one _ _ (.str b) rfl⟩
  ·rename_i e hu
   simp only [bat,beq_iff_eq,decide_eq_true_eq] at hs
   obtain ⟨⟨hc1,hse⟩,hpos⟩:=hs
   rcases DataW.trod_slice hu h with ⟨rfl,_⟩|⟨a,len,cap,elems,rest,m,_,rfl,_,hb,hl,hm,hlen,hel,_,_⟩
   ·exact ⟨[.slice (P.cellsOf e) []],by unfold FitC;rw [hu];exact ⟨[],rfl,fun x hx=>by simp at hx⟩,rfl,by simp [hc1],one _ _ (P9 _ _ _) rfl⟩
   ·have hex:∀ i,i<len->∃ ds:List PV,FitC P k e ds/\ds.length=P.cellsOf e/\∀ (j:Nat) (d:PV),ds[j]?=some d->∃ c,W.cell? (a.add (i*P.cellsOf e+j))=some c/\PRel (fun b=>allFz.kind b=.frozen) W d c/\c.oneCell'=true:=by
     intro i hi
     have h1:=hel i hi
     obtain ⟨y,hy⟩:∃ y,elems[i]?=some y:=⟨_,lgg (by omega)⟩
     rw [hy,Option.bind_eq_some_iff] at h1
     obtain ⟨cs',hcs,h1⟩:=h1
     obtain ⟨_,hcl,hcell⟩:=World.cells?_some hcs
     obtain ⟨ds,d1,d2,d3,d4⟩:=Lf k e cs' m y hse h1
     refine ⟨ds,d1,by omega,fun j d hd=>?_⟩
     have hj:=(lgs.1 hd).1
     obtain ⟨c,hc⟩:∃ c,cs'[j]?=some c:=⟨_,lgg (by omega)⟩
     obtain ⟨r1,r2⟩:=d4 j d c hd hc
     refine ⟨c,?_,r1,r2⟩
     rw [<- F1,hcell j (by omega),hc]
    obtain ⟨es,hesl,hes⟩:=OR len hex
    have hmem:∀ x∈es,FitC P k e x:=fun x hx=>by
     obtain ⟨i,hi⟩:=lgm hx
     exact (hes i x hi).1
    have hget:∀ (i:Nat) (x:PV),(es.map (EC P e))[i]?=some x->∃ ds,es[i]?=some ds/\x.cells=ds:=fun i x hx=>by
     rw [List.getElem?_map,Option.map_eq_some_iff] at hx
     obtain ⟨ds,hds,rfl⟩:=hx
     exact ⟨ds,hds,Xn (hes i ds hds).1⟩
    have hall:∀ (i:Nat) (x:PV) (j:Nat) (c:PV),(es.map (EC P e))[i]?=some x->x.cells[j]?=some c->∃ v,W.cell? (a.add (i*P.cellsOf e+j))=some v/\PRel (fun b=>allFz.kind b=.frozen) W c v/\v.oneCell'=true:=fun i x j c hx hj=>by
     obtain ⟨ds,hds,hxc⟩:=hget i x hx
     rw [hxc] at hj
     exact (hes i ds hds).2.2 j c hj
    refine ⟨[.slice (P.cellsOf e) (es.map (EC P e))],by unfold FitC;rw [hu];exact ⟨es,rfl,hmem⟩,rfl,by simp [hc1],one _ _ (.slice a (fun i j=>(W.cell? (a.add (i*P.cellsOf e+j))).getD .nilIface) (by simp [hesl]) hl (fun h0=>⟨rfl,rfl,?_⟩) (fun x hx=>?_) (fun i x j c hx hj=>?_) (fun i x j c hx hj=>?_) (fun i x j c hx hj=>?_)) rfl⟩
    ·obtain ⟨ds,hds⟩:∃ ds,es[0]?=some ds:=⟨_,lgg (by omega)⟩
     have hdl:=(hes 0 ds hds).2.1
     obtain ⟨d,hd⟩:∃ d,ds[0]?=some d:=⟨_,lgg (by omega)⟩
     obtain ⟨c,hc,_⟩:=(hes 0 ds hds).2.2 0 d hd
     simp only [World.cell?,DQ] at hc
     rcases Nat.lt_or_ge a.block W.heap.size with h|h
     .exact h
     .rw [Array.getElem?_eq_none h] at hc;simp at hc
    ·obtain ⟨i,hi⟩:=lgm hx
     obtain ⟨ds,hds,hxc⟩:=hget i x hi
     rw [hxc]
     exact (hes i ds hds).2.1
    ·obtain ⟨v,hv,_,h1⟩:=hall i x j c hx hj
     rw [hv];exact h1
    ·obtain ⟨v,hv,_,h1⟩:=hall i x j c hx hj
     rw [hv];rfl
    ·obtain ⟨v,hv,h1,_⟩:=hall i x j c hx hj
     rw [hv];exact h1
  ·rename_i fs hu
   simp only [bat,List.all_eq_true] at hs
   obtain ⟨ht,hs⟩:=hs
   obtain ⟨xs,m,_,_,hcl,hxl,hf⟩:=DataW.trod_struct hu h
   obtain ⟨ds,hl,hq⟩:=N8 (R:=fun f ds=>FitC P k f.type ds/\∀ (i:Nat) (d:PV) (c:Value),ds[i]?=some d->((cs.drop f.offset).take (P.cellsOf f.type))[i]?=some c->PRel (fun b=>allFz.kind b=.frozen) W d c/\c.oneCell'=true) fs.toList 0 ht (fun f hfm=>by
    obtain ⟨i,hi⟩:=lgm hfm
    have h1:=hf i f (by simpa using hi)
    obtain ⟨y,hy⟩:∃ y,xs[i]?=some y:=⟨_,lgg (by have:=(lgs.1 hi).1;simp at this;omega)⟩
    rw [hy] at h1
    obtain ⟨ds,d1,d2,d3,d4⟩:=Lf k f.type _ m y (hs f hfm) h1
    exact ⟨ds,⟨d1,d4⟩,by omega⟩)
   refine ⟨ds,?_,by omega,hcl,fun i d c hd hc=>?_⟩
   ·unfold FitC
    rw [hu]
    refine ⟨by omega,fun i f hfi=>?_⟩
    have:=(hq f (lmg (i:=i) (by simpa using hfi))).2.2.1
    simpa using this
   ·have hi:=(lgs.1 hd).1
    obtain ⟨f,hfm,h1,h2⟩:=N7 fs.toList 0 ht i (Nat.zero_le _) (by omega)
    obtain ⟨_,_,_,hR⟩:=hq f hfm
    rw [Nat.sub_zero] at hR
    exact hR (i - f.offset) d c (by rw [Qs h1 h2];exact hd) (by rw [Qs h1 h2];exact hc)
  .cases hs
def FitV (P:Program) (k:Nat) (t:TypeId) (u:VVal):Prop :=
 (∃ ds:List PV,FitC P k t ds/\u=.agg (ds.map .p)/\∃ fs,P.underlying t=some (.struct fs)) \/ (∃ d:PV,FitC P k t [d]/\u=.p d/\∀ fs,P.underlying t ≠ some (.struct fs))
def Fx (P:Program) (k:Nat) (t:TypeId):Bool:=P.readableRec t && decide (t<P.types.size) && G6 P k t
theorem zar {k base:Nat} {t:TypeId} (ht:Fx P k t=true) {v:Value} {d:DataW H} {ps:List MemPlace} (hval:Value.okWide P W .any base t v) (hd:DataW.Trod enc P W 0 (fun _=>true) true t v d ps) :
  ∃ u,FitV P k t u/\VRel allFz (As []) W u v:=by
 simp only [Fx,bat] at ht
 obtain ⟨_,hs⟩:=ht
 obtain ⟨fuel,hf⟩:=hd
 obtain ⟨ds,d1,d2,d3,d4⟩:=Lf k t _ fuel _ hs hf
 by_cases hst:∃ fs,P.underlying t=some (.struct fs)
 ·obtain ⟨fs,hu⟩:=hst
  obtain ⟨cs,rfl,hcs⟩:=okWide_struct hu hval
  simp only [Value.cells] at d2 d3 d4
  refine ⟨.agg (ds.map .p),Or.inl ⟨ds,d1,rfl,fs,hu⟩,.agg (by simp [d2]) (fun i c hc=>?_) (fun i v c hv hc=>?_)⟩
  ·have hi:=(ags.1 hc).1
   obtain ⟨d,hd⟩:∃ d,ds[i]?=some d:=⟨_,lgg (by simp at d2;omega)⟩
   exact (d4 i d c hd (by simpa using hc)).2
  ·rw [List.getElem?_map,Option.map_eq_some_iff] at hv
   obtain ⟨d,hd,rfl⟩:=hv
   obtain ⟨r1,r2⟩:=d4 i d c hd (by simpa using hc)
   exact .p r1 r2
 ·have hone:∃ d,ds=[d]:=by
   cases k with
   | zero=>exact d1.elim
   | succ k =>
    unfold FitC at d1
    split at d1
    ·obtain ⟨b,rfl⟩:=d1;exact ⟨_,rfl⟩
    ·obtain ⟨b,rfl,_⟩:=d1;exact ⟨_,rfl⟩
    ·obtain ⟨b,rfl,_⟩:=d1;exact ⟨_,rfl⟩
    ·obtain ⟨b,rfl,_⟩:=d1;exact ⟨_,rfl⟩
    ·rename_i fs hu;exact absurd ⟨fs,hu⟩ hst
    ·exact d1.elim
  obtain ⟨d,rfl⟩:=hone
  have hcells:∃ c,v.cells.toList=[c]:=by
   simp only [llc,lln] at d2
   match hv:v.cells.toList,d2 with
   | [c],_=>exact ⟨c,rfl⟩
  obtain ⟨c,hc⟩:=hcells
  rw [hc] at d4
  obtain ⟨r1,r2⟩:=d4 0 d c rfl rfl
  have hvc:v=c:=by
   have hna:∀ cs,v ≠ .agg cs:=by
    rintro cs rfl
    unfold Value.okWide at hval
    split at hval
    ·rename_i fs hu;exact hst ⟨fs,hu⟩
    ·rename_i n e hu
     cases k with
     | zero=>exact d1.elim
     | succ k=>unfold FitC at d1;rw [hu] at d1;exact d1.elim
    ·unfold Cell.okWide at hval
     split at hval<;>first|(rename_i hq;cases hq;done)|skip
     unfold Cell.ok at hval
     split at hval<;>simp_all
   cases v<;>simp [Value.cells] at hc<;>first|exact hc|exact absurd rfl (hna _)
  subst hvc
  exact ⟨.p d,Or.inr ⟨d,d1,rfl,fun fs hu=>hst ⟨fs,hu⟩⟩,.p r1 r2⟩
theorem Pz {k base:Nat}:∀ {ts:List TypeId} {vs:List Value} {ds:List (DataW H)} {ps:List MemPlace},ts.all (Fx P k)=true->(∀ (j:Nat) t v,ts[j]?=some t->vs[j]?=some v->Value.okWide P W .any base t v)->DataW.TrodAll enc P W 0 (fun _=>true) true ts vs ds ps ->
  ∃ us:List VVal,us.length=vs.length/\us.length=ts.length/\(∀ (i:Nat) (t:TypeId) (u:VVal),ts[i]?=some t->us[i]?=some u->FitV P k t u)/\∀ (i:Nat) (u:VVal) (c:Value),us[i]?=some u->vs[i]?=some c->VRel allFz (As []) W u c
 | [],vs,ds,ps,_,_,h=>by
  obtain ⟨rfl,rfl,rfl⟩:=trodAll_nil h
  exact ⟨[],rfl,rfl,fun i t u h=>by simp at h,fun i u c h=>by simp at h⟩
 | t::ts,vs,ds,ps,hfit,hval,h=>by
  obtain ⟨v,vs1,d,ds1,a,b,rfl,rfl,rfl,h1,h2⟩:=trodAll_cons h
  simp only [List.all_cons,bat] at hfit
  obtain ⟨u,hu1,hu2⟩:=zar hfit.1 (hval 0 t v rfl rfl) h1
  obtain ⟨us,e1,e2,e3,e4⟩:=Pz hfit.2 (fun j t v ht hv=>hval (j+1) t v (by simpa using ht) (by simpa using hv)) h2
  refine ⟨u::us,by simp [e1],by simp [e2],fun i t' u' ht hu=>?_,fun i u' c hu hc=>?_⟩
  ·cases i with
   | zero=>simp at ht hu;subst ht;subst hu;exact hu1
   | succ i=>simp at ht hu;exact e3 i t' u' ht hu
  ·cases i with
   | zero=>simp at hu hc;subst hu;subst hc;exact hu2
   | succ i=>simp at hu hc;exact e4 i u' c hu hc
theorem NT (hl:laidOutB P=true) {k:Nat} {W':World} (hb:Below W.heap.size W W'):∀ {ts:List TypeId} {vs:List Value} {ds:List (DataW H)} {ps:List MemPlace},ts.all (Fx P k)=true->DataW.TrodAll enc P W 0 (fun _=>true) true ts vs ds ps->(∀ x∈ps,x.block<W.heap.size) ->
  DataW.TrodAll enc P W' 0 (fun b=>decide (b<W.heap.size)) true ts vs ds ps
 | [],vs,ds,ps,_,h,_=>by
  obtain ⟨rfl,rfl,rfl⟩:=trodAll_nil h
  rfl
 | t::ts,vs,ds,ps,hfit,h,hlt=>by
  obtain ⟨v,vs1,d,ds1,a,b,rfl,rfl,rfl,h1,h2⟩:=trodAll_cons h
  simp only [List.all_cons,bat] at hfit
  have hf:=hfit.1
  simp only [Fx,bat,decide_eq_true_eq] at hf
  exact ⟨a,b,Below.trod hl hf.1.1 hf.1.2 h1 hb (fun x hx=>hlt x (by simp [hx])),NT hl hb hfit.2 h2 (fun x hx=>hlt x (by simp [hx])),rfl⟩
theorem Xp {Γ:Sig} (hΓ:C8 P Γ) (hK:∀ b B,GK.K b=some B->W.heap[b]?=some B) {kk base:Nat} {ts:List TypeId} {args:Array Value} {ds:List (DataW H)} {ps:List MemPlace} (hfit:ts.all (Fx P kk)=true) (hval:∀ (j:Nat) t v,ts[j]?=some t->args[j]?=some v->Value.okWide P W .any base t v)
  (hA:DataW.TrodAll enc P W 0 (fun _=>true) true ts args.toList ds ps) {k:FuncId} (hcall:∀ us:List VVal,us.length=ts.length->(∀ (i:Nat) (t:TypeId) (u:VVal),ts[i]?=some t->us[i]?=some u->FitV P kk t u)->Γ k us []=some (.p (.bool true),[])) :
  Calls P k args W fun e W'=>e=.returned (.bool true)/\Below W.heap.size W W':=by
 obtain ⟨us,e1,e2,e3,e4⟩:=Pz (vs:=args.toList) hfit (fun j t v ht hv=>hval j t v ht (by simpa using hv)) hA
 obtain ⟨_,hok⟩:=hΓ _ _ _ _ _ (hcall us e2 e3)
 refine (hok allFz W args (fun id v o h=>?_) (fun b B hb=>⟨.inr rfl,(ags.1 (hK b B hb)).1,hK b B hb⟩) (by simpa using e1) (fun i u c hu hc=>e4 i u c hu (by simpa using hc)) (fun b id h=>by simp [allFz] at h)).mono fun e W' he=>?_
 ·cases id with
  | slot s j=>simp [As] at h
  | arg i j=>cases j<;>simp [As] at h
 ·obtain ⟨c,G',h',vs,rfl,hst,_,hret,hout,_⟩:=he
  have hb:Below W.heap.size W W':=⟨hst.os,hst.tape,hst.output,hst.size,fun b hb=>(hst.frozen b rfl hb).2⟩
  refine ⟨?_,hb⟩
  obtain ⟨_,hout⟩:=Ab hout
  obtain ⟨_,hout⟩:=Ab hout
  have hone:∃ v,vs=[v]:=by
   by_cases h1:∃ v,vs=[v]
   ·exact h1
   ·exfalso
    unfold CS at hout
    split at hout
    ·exact h1 ⟨_,rfl⟩
    ·obtain ⟨_,_,hout⟩:=Aa hout
     simp at hout
  obtain ⟨v,rfl⟩:=hone
  simp only [CS] at hout
  have hv:v=.p (.bool true):=by
   replace hout:BB h' v=some (.p (.bool true)):=by
    rcases KJ hout with h0|⟨_,_,_,_,e⟩|⟨_,_,_,_,_,_,e⟩
    ·exact h0.1
    ·cases e
    ·cases e
   unfold BB at hout
   split at hout
   ·obtain ⟨_,_,hout⟩:=Aa hout
    simp at hout
   ·split at hout
    ·obtain ⟨_,hout⟩:=Ab hout
     obtain ⟨_,_,hout⟩:=Aa hout
     simp at hout
    ·cases hout
   ·unfold Ar at hout
    split at hout
    ·simp at hout;rw [hout]
    ·obtain ⟨_,_,hout⟩:=Aa hout
     obtain ⟨_,hout⟩:=Ab hout
     simp at hout
    ·obtain ⟨_,_,hout⟩:=Aa hout
     simp at hout
    ·obtain ⟨_,hout⟩:=Ab hout
     simp at hout
    ·obtain ⟨_,hout⟩:=Ab hout
     simp at hout
    ·simp at hout
    ·obtain ⟨_,_,hout⟩:=Aa hout
     simp at hout
    .cases hout
  subst hv
  simp only [DI] at hret
  rw [E9 hret]
theorem Yy {kk:Nat} (hl:laidOutB P=true) {f:Func} {s:ChangeSpec} {fresh handsOn:Bool} {W':World} {args:Array Value} {ds gs:List (DataW H)} {before p q:List MemPlace} (hW:DataW.Whole enc P f.params.toList s.vars false W args.toList ds gs before) (hvars:s.vars=[])
  (hfit:f.params.toList.all (Fx P kk)=true) (hA:DataW.TrodAll enc P W 0 (fun _=>true) true f.params.toList args.toList ds p) (hV:DataW.TrodVars enc P W (fun _=>true) s.vars gs q) (hbe:before=p++q) {t:TypeId} (hrt:f.resultTypes=#[t]) (ht:P.underlying t=some .bool)
  (hres:(s.fn H (ds++gs)).results=[.lit (.bool true)]) (hargs:(s.fn H (ds++gs)).args=ds) (hvr:(s.fn H (ds++gs)).vars=[]) (hb:Below W.heap.size W W'):s.post enc P f false fresh handsOn false W args (.bool true) W':=by
 rw [hvars] at hV
 obtain ⟨rfl,rfl⟩:=trodVars_none hV
 rw [lan] at hbe
 subst hbe
 refine ⟨ds,[],before,[],before,[],hW,?_,?_,?_,hb.frame _,fun h=>by cases h⟩
 ·rw [hres,hrt]
  exact trodAll_mk1 (shut_bool ht true)
 ·rw [hargs]
  exact NT hl hb hfit hA (fun x hx=>hW.lt x hx)
 ·rw [hvars,hvr]
  rfl
end
end
end Go.V
namespace Go.V
open Go.RowKit
def B5 (P:Program) (t:TypeId):Option (List (TypeId × Nat)):=match P.underlying t with
 | some (.struct fs)=>some (fs.toList.map fun f=>(f.type,f.offset))
 | _=>none
theorem Kf {P:Program} {t:TypeId} {sp:List (TypeId × Nat)} (h:B5 P t=some sp):∃ fs,P.underlying t=some (.struct fs)/\sp=fs.toList.map fun f=>(f.type,f.offset):=by
 unfold B5 at h
 split at h
 ·rename_i fs hu
  cases h
  exact ⟨fs,hu,rfl⟩
 .cases h
theorem FitC.int {P:Program} {k:Nat} {t:TypeId} {q:IntKind} {ds:List PV} (hu:P.underlying t=some (.int q)) (h:FitC P k t ds):∃ n,ds=[.int q n]/\(Lit.int q n).wf=true:=by
 cases k with
 | zero=>exact h.elim
 | succ k =>
  unfold FitC at h
  rw [hu] at h
  exact h
theorem FitC.str {P:Program} {k:Nat} {t:TypeId} {ds:List PV} (hu:P.underlying t=some .string) (h:FitC P k t ds):∃ s:ByteArray,ds=[.str s]/\s.size<=maxLen:=by
 cases k with
 | zero=>exact h.elim
 | succ k =>
  unfold FitC at h
  rw [hu] at h
  exact h
theorem FitC.bool {P:Program} {k:Nat} {t:TypeId} {ds:List PV} (hu:P.underlying t=some .bool) (h:FitC P k t ds):∃ b,ds=[.bool b]:=by
 cases k with
 | zero=>exact h.elim
 | succ k =>
  unfold FitC at h
  rw [hu] at h
  exact h
theorem FitC.struct {P:Program} {k:Nat} {t:TypeId} {sp:List (TypeId × Nat)} {ds:List PV} (hu:B5 P t=some sp) (h:FitC P (k+1) t ds):ds.length=P.cellsOf t/\∀ p∈sp,FitC P k p.1 ((ds.drop p.2).take (P.cellsOf p.1)):=by
 obtain ⟨fs,hu',rfl⟩:=Kf hu
 unfold FitC at h
 rw [hu'] at h
 refine ⟨h.1,fun p hp=>?_⟩
 obtain ⟨f,hf,rfl⟩:=lmm.1 hp
 obtain ⟨i,hi⟩:=lgm hf
 exact h.2 i f (by simpa using hi)
theorem FitC.list {α:Type} {P:Program} {k:Nat} {t e:TypeId} {n:Nat} {sp:List (TypeId × Nat)} {ds:List PV} {Q:α->Prop} {enc:α->PV} (hu:P.underlying t=some (.slice e)) (hs:B5 P e=some sp) (hn:P.cellsOf e=n)
  (hd:∀ x,FitC P k e x->∃ a:α,PV.agg x=enc a/\Q a) (h:FitC P (k+1) t ds):∃ l:List α,ds=[.slice n (l.map enc)]/\∀ a∈l,Q a:=by
 obtain ⟨fs,hse,_⟩:=Kf hs
 unfold FitC at h
 rw [hu] at h
 obtain ⟨es,rfl,hall⟩:=h
 rw [hn]
 have hmk:EC P e=PV.agg:=by funext x;unfold EC;rw [hse]
 rw [hmk]
 clear hu hs hn hse hmk
 have key:∃ l:List α,es.map PV.agg=l.map enc/\∀ a∈l,Q a:=by
  induction es with
  | nil=>exact ⟨[],rfl,fun a h=>by simp at h⟩
  | cons x es ih =>
   obtain ⟨l,h1,h2⟩:=ih fun y hy=>hall y (lmc _ hy)
   obtain ⟨a,h3,h4⟩:=hd x (hall x (lms ..))
   exact ⟨a::l,by rw [lpc,lpc,h1,h3],fun b hb=>by
    rcases lmk.1 hb with rfl|hb
    .exact h4
    .exact h2 b hb⟩
 obtain ⟨l,h1,h2⟩:=key
 exact ⟨l,by rw [h1],h2⟩
theorem FitC.ints {P:Program} {k:Nat} {t e:TypeId} {q:IntKind} {ds:List PV} (hu:P.underlying t=some (.slice e)) (he:P.underlying e=some (.int q)) (hn:P.cellsOf e=1) (h:FitC P (k+1) t ds):∃ l:List Int,ds=[.slice 1 (l.map (.int q))]/\∀ a∈l,(Lit.int q a).wf=true:=by
 unfold FitC at h
 rw [hu] at h
 obtain ⟨es,rfl,hall⟩:=h
 rw [hn]
 have key:∃ l:List Int,es.map (EC P e)=l.map (.int q)/\∀ a∈l,(Lit.int q a).wf=true:=by
  clear hu hn
  induction es with
  | nil=>exact ⟨[],rfl,fun a h=>by simp at h⟩
  | cons x es ih =>
   obtain ⟨l,h1,h2⟩:=ih fun y hy=>hall y (lmc _ hy)
   obtain ⟨a,rfl,h4⟩:=(hall x (lms ..)).int he
   refine ⟨a::l,?_,fun b hb=>?_⟩
   ·rw [lpc,lpc,h1,EC,he];rfl
   ·rcases lmk.1 hb with rfl|hb
    .exact h4
    .exact h2 b hb
 obtain ⟨l,h1,h2⟩:=key
 exact ⟨l,by rw [h1],h2⟩
theorem FitV.struct {P:Program} {k:Nat} {t:TypeId} {sp:List (TypeId × Nat)} {u:VVal} (hu:B5 P t=some sp) (h:FitV P k t u):∃ ds:List PV,FitC P k t ds/\u=.agg (ds.map .p):=by
 obtain ⟨fs,hs,_⟩:=Kf hu
 rcases h with ⟨ds,h1,h2,_⟩|⟨_,_,_,h3⟩
 .exact ⟨ds,h1,h2⟩
 .exact absurd hs (h3 fs)
theorem FitV.flat {P:Program} {k:Nat} {t:TypeId} {u:VVal} (hu:B5 P t=none) (h:FitV P k t u):∃ d:PV,FitC P k t [d]/\u=.p d:=by
 rcases h with ⟨_,_,_,fs,h3⟩|⟨d,h1,h2,_⟩
 ·unfold B5 at hu
  rw [h3] at hu
  cases hu
 .exact ⟨d,h1,h2⟩
theorem wf64 {n:Int} (h:(Lit.int .i64 n).wf=true):-9223372036854775808<=n/\n<=9223372036854775807:=by
 simp [Lit.wf,IntKind.min,IntKind.max,IntKind.bits,IntKind.signed] at h
 omega
structure NodeT (P:Program) (tn ti ts:TypeId):Prop where
 n:B5 P tn=some [(ti,0),(ti,1),(ts,2),(ti,3),(ti,4),(ti,5)]
 nc:P.cellsOf tn=6
 i:P.underlying ti=some (.int .i64)
 ic:P.cellsOf ti=1
 s:P.underlying ts=some .string
 sc:P.cellsOf ts=1
theorem FitC.node {P:Program} {k:Nat} {tn ti ts:TypeId} (h:NodeT P tn ti ts) {x:List PV} (hx:FitC P (k+1) tn x):∃ n:Nd,PV.agg x=n.pv/\n.Fits:=by
 obtain ⟨h1,h2⟩:=hx.struct h.n
 rw [h.nc] at h1
 match x,h1 with
 | [a,b,c,d,e,f],_ =>
  have q0:=h2 (ti,0) (by simp)
  have q1:=h2 (ti,1) (by simp)
  have q2:=h2 (ts,2) (by simp)
  have q3:=h2 (ti,3) (by simp)
  have q4:=h2 (ti,4) (by simp)
  have q5:=h2 (ti,5) (by simp)
  simp only [h.ic,h.sc,List.drop_zero,List.drop_succ_cons,List.take_succ_cons,List.take_zero] at q0 q1 q2 q3 q4 q5
  obtain ⟨x0,e0,w0⟩:=q0.int h.i
  obtain ⟨x1,e1,w1⟩:=q1.int h.i
  obtain ⟨x2,e2,w2⟩:=q2.str h.s
  obtain ⟨x3,e3,w3⟩:=q3.int h.i
  obtain ⟨x4,e4,w4⟩:=q4.int h.i
  obtain ⟨x5,e5,w5⟩:=q5.int h.i
  simp only [List.cons.injEq,and_true] at e0 e1 e2 e3 e4 e5
  subst e0 e1 e2 e3 e4 e5
  refine ⟨⟨x0,x1,x2,x3,x4,x5⟩,rfl,?_,?_⟩
  ·unfold maxLen at w2
   simp only
   omega
  ·have:=wf64 w3
   simp only
   omega
structure TreeT (P:Program) (tt tns tn ti ts:TypeId):Prop extends NodeT P tn ti ts where
 t:B5 P tt=some [(tns,0),(ti,1)]
 tc:P.cellsOf tt=2
 ns:P.underlying tns=some (.slice tn)
 nsc:P.cellsOf tns=1
theorem FitC.tree {P:Program} {k:Nat} {tt tns tn ti ts:TypeId} (h:TreeT P tt tns tn ti ts) {x:List PV} (hx:FitC P (k+3) tt x):∃ t:Tr,x=[.slice 6 (t.nodes.map Nd.pv),.int .i64 t.next]/\t.Fits:=by
 obtain ⟨h1,h2⟩:=hx.struct h.t
 rw [h.tc] at h1
 match x,h1 with
 | [a,b],_ =>
  have q0:=h2 (tns,0) (by simp)
  have q1:=h2 (ti,1) (by simp)
  simp only [h.ic,h.nsc,List.drop_zero,List.drop_succ_cons,List.take_succ_cons,List.take_zero] at q0 q1
  obtain ⟨l,e0,w0⟩:=q0.list (enc:=Nd.pv) (Q:=Nd.Fits) h.ns h.n h.nc (fun x hx=>hx.node h.toNodeT)
  obtain ⟨n,e1,w1⟩:=q1.int h.i
  simp only [List.cons.injEq,and_true] at e0 e1
  subst e0 e1
  exact ⟨⟨l,n⟩,rfl,w0⟩
theorem FitV.tree {P:Program} {k:Nat} {tt tns tn ti ts:TypeId} (h:TreeT P tt tns tn ti ts) {u:VVal} (hu:FitV P (k+3) tt u):∃ t:Tr,u=t.vv/\t.Fits:=by
 obtain ⟨ds,h1,rfl⟩:=hu.struct h.t
 obtain ⟨t,rfl,ht⟩:=h1.tree h
 exact ⟨t,rfl,ht⟩
theorem Zr {P:Program} {t e:TypeId} (h:P.underlying t=some (.slice e)):B5 P t=none:=by
 unfold B5
 rw [h]
theorem zct {P:Program} {t:TypeId} {q:IntKind} (h:P.underlying t=some (.int q)):B5 P t=none:=by
 unfold B5
 rw [h]
theorem FitV.int {P:Program} {k:Nat} {t:TypeId} {q:IntKind} (h:P.underlying t=some (.int q)) {u:VVal} (hu:FitV P k t u):∃ n,u=.p (.int q n)/\(Lit.int q n).wf=true:=by
 obtain ⟨d,h1,rfl⟩:=hu.flat (zct h)
 obtain ⟨n,e,w⟩:=h1.int h
 simp only [List.cons.injEq,and_true] at e
 subst e
 exact ⟨n,rfl,w⟩
theorem FitV.ints {P:Program} {k:Nat} {t e:TypeId} {q:IntKind} (h:P.underlying t=some (.slice e)) (he:P.underlying e=some (.int q)) (hn:P.cellsOf e=1) {u:VVal} (hu:FitV P (k+1) t u):∃ l:List Int,u=.p (.slice 1 (l.map (.int q)))/\∀ a∈l,(Lit.int q a).wf=true:=by
 obtain ⟨d,h1,rfl⟩:=hu.flat (Zr h)
 obtain ⟨l,e1,w⟩:=h1.ints h he hn
 simp only [List.cons.injEq,and_true] at e1
 subst e1
 exact ⟨l,rfl,w⟩
theorem FitV.str {P:Program} {k:Nat} {t:TypeId} (h:P.underlying t=some .string) {u:VVal} (hu:FitV P k t u):∃ s:ByteArray,u=.p (.str s)/\s.size<=maxLen:=by
 obtain ⟨d,h1,rfl⟩:=hu.flat (by unfold B5;rw [h])
 obtain ⟨s,e,w⟩:=h1.str h
 simp only [List.cons.injEq,and_true] at e
 subst e
 exact ⟨s,rfl,w⟩
end Go.V
namespace Go.V
open Go.RowKit
inductive CK where
 | i
 | b
def J9 (P:Program) (g:TypeId->Option (List CK)):Nat->List Field->Option (List CK)
 | _,[]=>some []
 | off,f::fs=>if f.offset=off then (g f.type).bind fun a=>if a.length=P.cellsOf f.type then (J9 P g (off+a.length) fs).map (a++·) else none else none
def ckT (P:Program):Nat->TypeId->Option (List CK)
 | 0,_=>none
 | k+1,t=>match P.underlying t with
  | some (.int .i64)=>some [.i]
  | some .bool=>some [.b]
  | some (.struct fs)=>(J9 P (ckT P k) 0 fs.toList).bind fun l=>if l.length=P.cellsOf t then some l else none
  | _=>none
def CQ:List CK->List PV->Prop
 | [],ds=>ds=[]
 | .i::ks,ds=>∃ n r,ds=.int .i64 n::r/\CQ ks r
 | .b::ks,ds=>∃ b r,ds=.bool b::r/\CQ ks r
theorem Kz:∀ {a b:List CK} {x y:List PV},CQ a x->CQ b y->CQ (a++b) (x++y)
 | [],_,_,_,h1,h2=>by
  cases h1
  exact h2
 | .i::a,_,_,_,h1,h2=>by
  obtain ⟨n,r,rfl,h1⟩:=h1
  exact ⟨n,_,rfl,Kz h1 h2⟩
 | .b::a,_,_,_,h1,h2=>by
  obtain ⟨n,r,rfl,h1⟩:=h1
  exact ⟨n,_,rfl,Kz h1 h2⟩
theorem Q4 {P:Program} {g:TypeId->Option (List CK)} {ds:List PV}:∀ {fs:List Field} {off:Nat} {ks:List CK},(∀ f∈fs,∀ a,g f.type=some a->CQ a ((ds.drop f.offset).take (P.cellsOf f.type)))->J9 P g off fs=some ks->CQ ks ((ds.drop off).take ks.length)
 | [],off,ks,_,h=>by
  cases h
  rfl
 | f::fs,off,ks,hg,h=>by
  unfold J9 at h
  split at h
  ·rename_i ho
   rw [Option.bind_eq_some_iff] at h
   obtain ⟨a,ha,h⟩:=h
   split at h
   ·rename_i hl
    rw [Option.map_eq_some_iff] at h
    obtain ⟨r,hr,rfl⟩:=h
    have h1:=hg f (lms ..) a ha
    have h2:=Q4 (fun x hx=>hg x (lmc _ hx)) hr
    rw [ho,<- hl] at h1
    rw [lla,List.take_add,List.drop_drop]
    exact Kz h1 h2
   .cases h
  .cases h
theorem F6 {P:Program}:∀ {k:Nat} {t:TypeId} {ds:List PV} {ks:List CK},FitC P k t ds->ckT P k t=some ks->CQ ks ds
 | 0, _, _, _, h, _=>h.elim
 | k + 1,t,ds,ks,h,hk=>by
  unfold FitC at h
  unfold ckT at hk
  cases hu:P.underlying t with
  | none=>rw [hu] at hk;cases hk
  | some u =>
   rw [hu] at h hk
   split at hk
   ·rename_i he
    cases he
    cases hk
    obtain ⟨n,rfl,_⟩:=h
    exact ⟨n,[],rfl,rfl⟩
   ·rename_i he
    cases he
    cases hk
    obtain ⟨n,rfl⟩:=h
    exact ⟨n,[],rfl,rfl⟩
   ·rename_i fs he
    cases he
    rw [Option.bind_eq_some_iff] at hk
    obtain ⟨l,hl,hk⟩:=hk
    split at hk
    ·rename_i hlen
     cases hk
     have:=Q4 (ds:=ds) (fun f hf a ha=>by
      obtain ⟨i,hi⟩:=lgm hf
      exact F6 (h.2 i f (by simpa using hi)) ha) hl
     rw [List.drop_zero,hlen,<- h.1,List.take_length] at this
     exact this
    .cases hk
   .cases hk
theorem FitC.rows {α:Type} {P:Program} {k:Nat} {t e:TypeId} {n:Nat} {sp:List (TypeId × Nat)} {ks:List CK} {ds:List PV} {enc:α->PV} (hu:P.underlying t=some (.slice e)) (hs:B5 P e=some sp) (hn:P.cellsOf e=n) (hk:ckT P k e=some ks)
  (hd:∀ x,CQ ks x->∃ a:α,PV.agg x=enc a) (h:FitC P (k+1) t ds):∃ l:List α,ds=[.slice n (l.map enc)]:=by
 obtain ⟨l,e,_⟩:=h.list (Q:=fun _=>True) hu hs hn (fun x hx=>by
  obtain ⟨a,ha⟩:=hd x (F6 hx hk)
  exact ⟨a,ha,trivial⟩)
 exact ⟨l,e⟩
theorem T4 {x:List PV} (h:CQ [.i,.i] x):∃ a:Ch,PV.agg x=a.pv:=by
 obtain ⟨a,_,rfl,b,_,rfl,rfl⟩:=h
 exact ⟨⟨a,b⟩,rfl⟩
theorem dec3 {x:List PV} (h:CQ [.i,.i,.i] x):∃ a:Dp,PV.agg x=a.pv:=by
 obtain ⟨a,_,rfl,b,_,rfl,c,_,rfl,rfl⟩:=h
 exact ⟨⟨a,b,c⟩,rfl⟩
theorem dec6 {x:List PV} (h:CQ [.i,.i,.i,.i,.b,.i] x):∃ r:Rq,PV.agg x=r.pv:=by
 obtain ⟨a,_,rfl,b,_,rfl,c,_,rfl,d,_,rfl,e,_,rfl,f,_,rfl,rfl⟩:=h
 exact ⟨⟨a,b,c,d,e,f⟩,rfl⟩
theorem dec7 {x:List PV} (h:CQ [.i,.i,.i,.i,.b,.i,.i] x):∃ r:Fl,PV.agg x=r.pv:=by
 obtain ⟨a,_,rfl,b,_,rfl,c,_,rfl,d,_,rfl,e,_,rfl,f,_,rfl,g,_,rfl,rfl⟩:=h
 exact ⟨⟨⟨a,b,c,d,e,f⟩,g⟩,rfl⟩
theorem zcV {x:List PV} (h:CQ (List.replicate 21 .i) x):∃ r:Cp,PV.agg x=r.pv:=by
 obtain ⟨a,_,rfl,b0,_,rfl,b1,_,rfl,b2,_,rfl,b3,_,rfl,b4,_,rfl,c0,_,rfl,c1,_,rfl,c2,_,rfl,c3,_,rfl,c4,_,rfl,d0,_,rfl,d1,_,rfl,d2,_,rfl,d3,_,rfl,d4,_,rfl,e0,_,rfl,e1,_,rfl,e2,_,rfl,e3,_,rfl,e4,_,rfl,rfl⟩:=h
 exact ⟨⟨a,⟨b0,b1,b2,b3,b4⟩,⟨c0,c1,c2,c3,c4⟩,⟨d0,d1,d2,d3,d4⟩,⟨e0,e1,e2,e3,e4⟩⟩,rfl⟩
theorem FitV.cells {P:Program} {k:Nat} {t:TypeId} {ks:List CK} {u:VVal} (hs:(B5 P t).isSome=true) (hk:ckT P k t=some ks) (hu:FitV P k t u):∃ ds:List PV,CQ ks ds/\u=.agg (ds.map .p):=by
 obtain ⟨sp,hsp⟩:=Option.isSome_iff_exists.1 hs
 obtain ⟨ds,h1,h2⟩:=hu.struct hsp
 exact ⟨ds,F6 h1 hk,h2⟩
theorem FitV.rq {P:Program} {k:Nat} {t:TypeId} {u:VVal} (hs:(B5 P t).isSome=true) (hk:ckT P k t=some [.i,.i,.i,.i,.b,.i]) (hu:FitV P k t u):∃ r:Rq,u=r.vv:=by
 obtain ⟨ds,⟨a,_,rfl,b,_,rfl,c,_,rfl,d,_,rfl,e,_,rfl,f,_,rfl,rfl⟩,rfl⟩:=hu.cells hs hk
 exact ⟨⟨a,b,c,d,e,f⟩,rfl⟩
theorem FitV.sgs {P:Program} {k:Nat} {t:TypeId} {u:VVal} (hs:(B5 P t).isSome=true) (hk:ckT P k t=some (List.replicate 7 .i)) (hu:FitV P k t u):∃ (s:Sg) (dev:Int),u=s.vv dev:=by
 obtain ⟨ds,⟨a,_,rfl,b,_,rfl,c,_,rfl,d,_,rfl,e,_,rfl,f,_,rfl,g,_,rfl,rfl⟩,rfl⟩:=hu.cells hs hk
 exact ⟨⟨b,c,d,e,f,g⟩,a,rfl⟩
structure RowT (P:Program) (k:Nat) (s t:TypeId) (n:Nat) (ks:List CK):Prop where
 u:P.underlying s=some (.slice t)
 c:P.cellsOf s=1
 s:(B5 P t).isSome=true
 n:P.cellsOf t=n
 k:ckT P k t=some ks
theorem RowT.get {α:Type} {P:Program} {k:Nat} {s t:TypeId} {n:Nat} {ks:List CK} {ds:List PV} {enc:α->PV} (h:RowT P k s t n ks) (hd:∀ x,CQ ks x->∃ a:α,PV.agg x=enc a) (hx:FitC P (k+1) s ds):∃ l:List α,ds=[.slice n (l.map enc)]:=by
 obtain ⟨sp,hsp⟩:=Option.isSome_iff_exists.1 h.s
 exact FitC.rows h.u hsp h.n h.k hd hx
theorem FitV.dev {P:Program} {k:Nat} {td tc ti sW sC sD sA sQ sF tW tC tD tA tQ tF:TypeId} {u:VVal} (hd:B5 P td=some [(tc,0),(ti,7),(ti,8),(ti,9),(sW,10),(sC,11),(sD,12),(sA,13),(sQ,14),(sF,15)]) (hn:P.cellsOf td=16) (h1:P.cellsOf tc=7) (h2:P.cellsOf ti=1) (c1:ckT P (k+1) tc=some (List.replicate 7 .i)) (c2:ckT P (k+1) ti=some [.i])
  (w1:RowT P k sW tW 2 [.i,.i]) (w2:RowT P k sC tC 21 (List.replicate 21 .i)) (w3:RowT P k sD tD 3 [.i,.i,.i]) (w4:RowT P k sA tA 2 [.i,.i]) (w5:RowT P k sQ tQ 6 [.i,.i,.i,.i,.b,.i]) (w6:RowT P k sF tF 7 [.i,.i,.i,.i,.b,.i,.i]) (hu:FitV P (k+2) td u):∃ x:Dv,u=x.vv:=by
 obtain ⟨ds,hx,rfl⟩:=hu.struct hd
 obtain ⟨hl,hx⟩:=hx.struct hd
 rw [hn] at hl
 match ds,hl with
 | [a0,a1,a2,a3,a4,a5,a6,a7,a8,a9,a10,a11,a12,a13,a14,a15],_ =>
  have q0:=hx (tc,0) (by simp)
  have q1:=hx (ti,7) (by simp)
  have q2:=hx (ti,8) (by simp)
  have q3:=hx (ti,9) (by simp)
  have q4:=hx (sW,10) (by simp)
  have q5:=hx (sC,11) (by simp)
  have q6:=hx (sD,12) (by simp)
  have q7:=hx (sA,13) (by simp)
  have q8:=hx (sQ,14) (by simp)
  have q9:=hx (sF,15) (by simp)
  simp only [h1,h2,w1.c,w2.c,w3.c,w4.c,w5.c,w6.c,List.drop_zero,List.drop_succ_cons,List.take_succ_cons,List.take_zero] at q0 q1 q2 q3 q4 q5 q6 q7 q8 q9
  obtain ⟨b0,_,e0,b1,_,rfl,b2,_,rfl,b3,_,rfl,b4,_,rfl,b5,_,rfl,b6,_,rfl,rfl⟩:=F6 q0 c1
  obtain ⟨b7,_,e7,rfl⟩:=F6 q1 c2
  obtain ⟨b8,_,e8,rfl⟩:=F6 q2 c2
  obtain ⟨b9,_,e9,rfl⟩:=F6 q3 c2
  obtain ⟨l1,f1⟩:=w1.get (fun x=>T4) q4
  obtain ⟨l2,f2⟩:=w2.get (fun x=>zcV) q5
  obtain ⟨l3,f3⟩:=w3.get (fun x=>dec3) q6
  obtain ⟨l4,f4⟩:=w4.get (fun x=>T4) q7
  obtain ⟨l5,f5⟩:=w5.get (fun x=>dec6) q8
  obtain ⟨l6,f6⟩:=w6.get (fun x=>dec7) q9
  simp only [List.cons.injEq,and_true] at e0 e7 e8 e9 f1 f2 f3 f4 f5 f6
  obtain ⟨r0,r1,r2,r3,r4,r5,r6⟩:=e0
  subst r0 r1 r2 r3 r4 r5 r6 e7 e8 e9 f1 f2 f3 f4 f5 f6
  exact ⟨⟨⟨b0,b1,b2,b3,b4⟩,b5,b6,b7,b8,b9,l1,l2,l3,l4,l5,l6⟩,rfl⟩
end Go.V
