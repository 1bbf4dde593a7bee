/- Part 18 of the proof. -/
import Derived.Test.YtekkdllchjmhdaaGreatE9
import Derived.ChangeArms
import Derived.Test.YtekkdllchjmhdaaGreatE2
import Derived.Test.YtekkdllchjmhdaaGreatE3
set_option linter.unusedSectionVars false
set_option linter.unusedSimpArgs false
set_option linter.unusedVariables false
set_option maxHeartbeats 32000000
open List renaming getElem?_eq_getElem → lgg, getElem?_eq_some_iff → lgs, mem_of_getElem? → lmg, mem_cons_of_mem → lmc, map_cons → lpc, drop_of_length_le → ldl, nil_append → lna, append_nil → lan, mem_map → lmm, mem_cons_self → lms, getElem?_of_mem → lgm, length_cons → llc, getElem?_append_right → lgr, mem_cons → lmk, length_nil → lln
open Bool renaming and_eq_true → bat
open Array renaming getElem?_eq_some_iff → ags
namespace Go.V
open Go.RowKit Go.ChangeShapes Go.WideShapes Go.ChangeAt
section
variable [GK]
def Ew (P:Program) (e:TypeId) (ds:List PV):PV:=match P.underlying e with
 | some (.struct _)=>.agg ds
 | _=>ds.headD .nilp
def FitC (P:Program):Nat->TypeId->List PV->Prop
 | 0,_,_=>False
 | k+1,t,ds=>match P.underlying t with
  | some .bool=>∃ b,ds=[.bool b]
  | some (.int q)=>∃ n,ds=[.int q n]/\(Lit.int q n).wf=true
  | some .string=>∃ s:ByteArray,ds=[.str s]/\s.size<=maxLen
  | some (.slice e)=>∃ es:List (List PV),ds=[.slice (P.cellsOf e) (es.map (Ew P e))]/\∀ x∈es,FitC P k e x
  | some (.struct fs)=>ds.length=P.cellsOf t/\∀ (i:Nat) (f:Field),fs[i]?=some f->FitC P k f.type ((ds.drop f.offset).take (P.cellsOf f.type))
  | _=>False
def Fh (P:Program) (n:Nat):Nat->List Field->Bool
 | off,[]=>off == n
 | off,f::fs=>f.offset == off && Fh P n (off+P.cellsOf f.type) fs
def GL (P:Program):Nat->TypeId->Bool
 | 0,_=>false
 | k+1,t=>match P.underlying t with
  | some .bool=>P.cellsOf t == 1
  | some (.int _)=>P.cellsOf t == 1
  | some .string=>P.cellsOf t == 1
  | some (.slice e)=>P.cellsOf t == 1 && GL P k e && decide (0<P.cellsOf e)
  | some (.struct fs)=>Fh P (P.cellsOf t) 0 fs.toList && fs.toList.all fun f=>GL P k f.type
  | _=>false
theorem Wi {P:Program} {k:Nat} {e:TypeId} {ds:List PV} (h:FitC P k e ds):(Ew P e ds).cells=ds:=by
 cases k with
 | zero=>exact h.elim
 | succ k =>
  unfold FitC at h
  unfold Ew
  split at h
  .rename_i hu;rw [hu];obtain ⟨b,rfl⟩:=h;rfl
  .rename_i hu;rw [hu];obtain ⟨b,rfl,_⟩:=h;rfl
  .rename_i hu;rw [hu];obtain ⟨b,rfl,_⟩:=h;rfl
  .rename_i hu;rw [hu];obtain ⟨b,rfl,_⟩:=h;rfl
  .rename_i hu;rw [hu];rfl
  .exact h.elim
theorem OH {α:Type} {Q:Nat->α->Prop}:∀ (n:Nat),(∀ i,i<n->∃ a,Q i a)->∃ l:List α,l.length=n/\∀ i a,l[i]?=some a->Q i a
 | 0,_=>⟨[],rfl,fun i a h=>by simp at h⟩
 | n+1,h=>by
  obtain ⟨l,hl,hq⟩:=OH n fun i hi=>h i (by omega)
  obtain ⟨a,ha⟩:=h n (by omega)
  refine ⟨l++[a],by simp [hl],fun i b hb=>?_⟩
  rcases Nat.lt_or_ge i n with hi|hi
  ·rw [List.getElem?_append_left (by omega)] at hb
   exact hq i b hb
  ·rw [lgr (by omega)] at hb
   have:i - l.length=0:=by
    have:=(lgs.1 hb).1
    simp at this
    omega
   rw [this] at hb
   simp at hb
   rw [show i=n by omega,<- hb]
   exact ha
theorem N8 {P:Program} {n:Nat} {R:Field->List PV->Prop}:∀ (fs:List Field) (off:Nat),Fh P n off fs=true->(∀ f∈fs,∃ ds,R f ds/\ds.length=P.cellsOf f.type) ->
  ∃ ds:List PV,off+ds.length=n/\∀ f∈fs,off<=f.offset/\f.offset+P.cellsOf f.type<=n/\R f ((ds.drop (f.offset - off)).take (P.cellsOf f.type))
 | [],off,h,_=>by
  simp [Fh] at h
  exact ⟨[],by simpa using h,fun f hf=>by simp at hf⟩
 | f::fs,off,h,hR=>by
  simp only [Fh,bat,beq_iff_eq] at h
  obtain ⟨ds0,hr0,hl0⟩:=hR f (lms ..)
  obtain ⟨ds,hl,hq⟩:=N8 fs (off+P.cellsOf f.type) h.2 fun g hg=>hR g (lmc _ hg)
  refine ⟨ds0++ds,by simp;omega,fun g hg=>?_⟩
  rcases lmk.1 hg with rfl|hg
  ·refine ⟨by omega,by omega,?_⟩
   rw [h.1,Nat.sub_self,List.drop_zero,<- hl0,List.take_left]
   exact hr0
  ·obtain ⟨h1,h2,h3⟩:=hq g hg
   refine ⟨by omega,h2,?_⟩
   rw [List.drop_append,show List.drop (g.offset - off) ds0=[] from ldl (by omega),lna,hl0,show g.offset - off - P.cellsOf f.type=g.offset - (off+P.cellsOf f.type) by omega]
   exact h3
theorem N7 {P:Program} {n:Nat}:∀ (fs:List Field) (off:Nat),Fh P n off fs=true->∀ i,off<=i->i<n->∃ f∈fs,f.offset<=i/\i<f.offset+P.cellsOf f.type
 | [],off,h,i,h1,h2=>by
  simp [Fh] at h
  omega
 | f::fs,off,h,i,h1,h2=>by
  simp only [Fh,bat,beq_iff_eq] at h
  rcases Nat.lt_or_ge i (off+P.cellsOf f.type) with hi|hi
  ·exact ⟨f,lms ..,by omega,by omega⟩
  ·obtain ⟨g,hg,h3⟩:=N7 fs _ h.2 i hi h2
   exact ⟨g,lmc _ hg,h3⟩
theorem Qb {α:Type} {l:List α} {o w i:Nat} (h1:o<=i) (h2:i<o+w):((l.drop o).take w)[i - o]?=l[i]?:=by
 rw [List.getElem?_take_of_lt (by omega),List.getElem?_drop,show o+(i - o)=i by omega]
section
variable {H:Type} {enc:TypeId × Value->H} {P:Program} {W:World}
theorem K1 {sp:Nat->Bool} {held:Bool}:∀ (k:Nat) (t:TypeId) (cs:List Value) (n:Nat) (x:DataW H × List MemPlace),GL P k t=true->DataW.trod enc P W 0 sp held n t cs=some x ->
  ∃ ds:List PV,FitC P k t ds/\ds.length=cs.length/\cs.length=P.cellsOf t/\∀ (i:Nat) (d:PV) (c:Value),ds[i]?=some d->cs[i]?=some c->PRel (fun b=>allFz.kind b=.frozen) W d c/\c.oneCell'=true
 | 0, _, _, _, _, h, _=>by simp [GL] at h
 | k + 1,t,cs,n,x,hs,h=>by
  have one:∀ (d:PV) (c:Value),PRel (fun b=>allFz.kind b=.frozen) W d c->c.oneCell'=true->∀ (i:Nat) (d':PV) (c':Value),[d][i]?=some d'->[c][i]?=some c'->PRel (fun b=>allFz.kind b=.frozen) W d' c'/\c'.oneCell'=true:=by
   intro d c h1 h2 i d' c' hd hc
   cases i with
   | zero=>simp at hd hc;subst hd;subst hc;exact ⟨h1,h2⟩
   | succ i=>simp at hd
  unfold GL at hs
  split at hs
  ·rename_i hu
   obtain ⟨b,rfl,_⟩:=DataW.trod_bool hu h
   exact ⟨[.bool b],by unfold FitC;rw [hu];exact ⟨b,rfl⟩,rfl,by simpa using (beq_iff_eq.1 hs).symm,one _ _ (.bool b) rfl⟩
  ·rename_i q hu
   obtain ⟨b,rfl,_,hw⟩:=DataW.trod_int hu h
   exact ⟨[.int q b],by unfold FitC;rw [hu];exact ⟨b,rfl,hw⟩,rfl,by simpa using (beq_iff_eq.1 hs).symm,one _ _ (.int q b) rfl⟩
  ·rename_i hu
   obtain ⟨b,rfl,_,hw⟩:=DataW.trod_string hu h
   exact ⟨[.str b],by unfold FitC;rw [hu];exact ⟨b,rfl,hw⟩,rfl,by simpa using (beq_iff_eq.1 hs).symm,one _ _ (.str b) rfl⟩
  ·rename_i e hu
   simp only [bat,beq_iff_eq,decide_eq_true_eq] at hs
   obtain ⟨⟨hc1,hse⟩,hpos⟩:=hs
   rcases DataW.trod_slice hu h with ⟨rfl,_⟩|⟨a,len,cap,elems,rest,m,_,rfl,_,hb,hl,hm,hlen,hel,_,_⟩
   ·exact ⟨[.slice (P.cellsOf e) []],by unfold FitC;rw [hu];exact ⟨[],rfl,fun x hx=>by simp at hx⟩,rfl,by simp [hc1],one _ _ (PT _ _ _) rfl⟩
   ·have hex:∀ i,i<len->∃ ds:List PV,FitC P k e ds/\ds.length=P.cellsOf e/\∀ (j:Nat) (d:PV),ds[j]?=some d->∃ c,W.cell? (a.add (i*P.cellsOf e+j))=some c/\PRel (fun b=>allFz.kind b=.frozen) W d c/\c.oneCell'=true:=by
     intro i hi
     have h1:=hel i hi
     obtain ⟨y,hy⟩:∃ y,elems[i]?=some y:=⟨_,lgg (by omega)⟩
     rw [hy,Option.bind_eq_some_iff] at h1
     obtain ⟨cs',hcs,h1⟩:=h1
     obtain ⟨_,hcl,hcell⟩:=World.cells?_some hcs
     obtain ⟨ds,d1,d2,d3,d4⟩:=K1 k e cs' m y hse h1
     refine ⟨ds,d1,by omega,fun j d hd=>?_⟩
     have hj:=(lgs.1 hd).1
     obtain ⟨c,hc⟩:∃ c,cs'[j]?=some c:=⟨_,lgg (by omega)⟩
     obtain ⟨r1,r2⟩:=d4 j d c hd hc
     refine ⟨c,?_,r1,r2⟩
     rw [<- FN,hcell j (by omega),hc]
    obtain ⟨es,hesl,hes⟩:=OH len hex
    have hmem:∀ x∈es,FitC P k e x:=fun x hx=>by
     obtain ⟨i,hi⟩:=lgm hx
     exact (hes i x hi).1
    have hget:∀ (i:Nat) (x:PV),(es.map (Ew P e))[i]?=some x->∃ ds,es[i]?=some ds/\x.cells=ds:=fun i x hx=>by
     rw [List.getElem?_map,Option.map_eq_some_iff] at hx
     obtain ⟨ds,hds,rfl⟩:=hx
     exact ⟨ds,hds,Wi (hes i ds hds).1⟩
    have hall:∀ (i:Nat) (x:PV) (j:Nat) (c:PV),(es.map (Ew P e))[i]?=some x->x.cells[j]?=some c->∃ v,W.cell? (a.add (i*P.cellsOf e+j))=some v/\PRel (fun b=>allFz.kind b=.frozen) W c v/\v.oneCell'=true:=fun i x j c hx hj=>by
     obtain ⟨ds,hds,hxc⟩:=hget i x hx
     rw [hxc] at hj
     exact (hes i ds hds).2.2 j c hj
    refine ⟨[.slice (P.cellsOf e) (es.map (Ew P e))],by unfold FitC;rw [hu];exact ⟨es,rfl,hmem⟩,rfl,by simp [hc1],one _ _ (.slice a (fun i j=>(W.cell? (a.add (i*P.cellsOf e+j))).getD .nilIface) (by simp [hesl]) hl (fun h0=>⟨rfl,rfl,?_⟩) (fun x hx=>?_) (fun i x j c hx hj=>?_) (fun i x j c hx hj=>?_) (fun i x j c hx hj=>?_)) rfl⟩
    ·obtain ⟨ds,hds⟩:∃ ds,es[0]?=some ds:=⟨_,lgg (by omega)⟩
     have hdl:=(hes 0 ds hds).2.1
     obtain ⟨d,hd⟩:∃ d,ds[0]?=some d:=⟨_,lgg (by omega)⟩
     obtain ⟨c,hc,_⟩:=(hes 0 ds hds).2.2 0 d hd
     simp only [World.cell?,DL] at hc
     rcases Nat.lt_or_ge a.block W.heap.size with h|h
     .exact h
     .rw [Array.getElem?_eq_none h] at hc;simp at hc
    ·obtain ⟨i,hi⟩:=lgm hx
     obtain ⟨ds,hds,hxc⟩:=hget i x hi
     rw [hxc]
     exact (hes i ds hds).2.1
    ·obtain ⟨v,hv,_,h1⟩:=hall i x j c hx hj
     rw [hv];exact h1
    ·obtain ⟨v,hv,_,h1⟩:=hall i x j c hx hj
     rw [hv];rfl
    ·obtain ⟨v,hv,h1,_⟩:=hall i x j c hx hj
     rw [hv];exact h1
  ·rename_i fs hu
   simp only [bat,List.all_eq_true] at hs
   obtain ⟨ht,hs⟩:=hs
   obtain ⟨xs,m,_,_,hcl,hxl,hf⟩:=DataW.trod_struct hu h
   obtain ⟨ds,hl,hq⟩:=N8 (R:=fun f ds=>FitC P k f.type ds/\∀ (i:Nat) (d:PV) (c:Value),ds[i]?=some d->((cs.drop f.offset).take (P.cellsOf f.type))[i]?=some c->PRel (fun b=>allFz.kind b=.frozen) W d c/\c.oneCell'=true) fs.toList 0 ht (fun f hfm=>by
    obtain ⟨i,hi⟩:=lgm hfm
    have h1:=hf i f (by simpa using hi)
    obtain ⟨y,hy⟩:∃ y,xs[i]?=some y:=⟨_,lgg (by have:=(lgs.1 hi).1;simp at this;omega)⟩
    rw [hy] at h1
    obtain ⟨ds,d1,d2,d3,d4⟩:=K1 k f.type _ m y (hs f hfm) h1
    exact ⟨ds,⟨d1,d4⟩,by omega⟩)
   refine ⟨ds,?_,by omega,hcl,fun i d c hd hc=>?_⟩
   ·unfold FitC
    rw [hu]
    refine ⟨by omega,fun i f hfi=>?_⟩
    have:=(hq f (lmg (i:=i) (by simpa using hfi))).2.2.1
    simpa using this
   ·have hi:=(lgs.1 hd).1
    obtain ⟨f,hfm,h1,h2⟩:=N7 fs.toList 0 ht i (Nat.zero_le _) (by omega)
    obtain ⟨_,_,_,hR⟩:=hq f hfm
    rw [Nat.sub_zero] at hR
    exact hR (i - f.offset) d c (by rw [Qb h1 h2];exact hd) (by rw [Qb h1 h2];exact hc)
  .cases hs
def FitV (P:Program) (k:Nat) (t:TypeId) (u:VVal):Prop :=
 (∃ ds:List PV,FitC P k t ds/\u=.agg (ds.map .p)/\∃ fs,P.underlying t=some (.struct fs)) \/ (∃ d:PV,FitC P k t [d]/\u=.p d/\∀ fs,P.underlying t ≠ some (.struct fs))
def Fp (P:Program) (k:Nat) (t:TypeId):Bool:=P.readableRec t && decide (t<P.types.size) && GL P k t
theorem Zh {k base:Nat} {t:TypeId} (ht:Fp P k t=true) {v:Value} {d:DataW H} {ps:List MemPlace} (hval:Value.okWide P W .any base t v) (hd:DataW.Trod enc P W 0 (fun _=>true) true t v d ps) :
  ∃ u,FitV P k t u/\VRel allFz (At []) W u v:=by
 simp only [Fp,bat] at ht
 obtain ⟨_,hs⟩:=ht
 obtain ⟨fuel,hf⟩:=hd
 obtain ⟨ds,d1,d2,d3,d4⟩:=K1 k t _ fuel _ hs hf
 by_cases hst:∃ fs,P.underlying t=some (.struct fs)
 ·obtain ⟨fs,hu⟩:=hst
  obtain ⟨cs,rfl,hcs⟩:=okWide_struct hu hval
  simp only [Value.cells] at d2 d3 d4
  refine ⟨.agg (ds.map .p),Or.inl ⟨ds,d1,rfl,fs,hu⟩,.agg (by simp [d2]) (fun i c hc=>?_) (fun i v c hv hc=>?_)⟩
  ·have hi:=(ags.1 hc).1
   obtain ⟨d,hd⟩:∃ d,ds[i]?=some d:=⟨_,lgg (by simp at d2;omega)⟩
   exact (d4 i d c hd (by simpa using hc)).2
  ·rw [List.getElem?_map,Option.map_eq_some_iff] at hv
   obtain ⟨d,hd,rfl⟩:=hv
   obtain ⟨r1,r2⟩:=d4 i d c hd (by simpa using hc)
   exact .p r1 r2
 ·have hone:∃ d,ds=[d]:=by
   cases k with
   | zero=>exact d1.elim
   | succ k =>
    unfold FitC at d1
    split at d1
    ·obtain ⟨b,rfl⟩:=d1;exact ⟨_,rfl⟩
    ·obtain ⟨b,rfl,_⟩:=d1;exact ⟨_,rfl⟩
    ·obtain ⟨b,rfl,_⟩:=d1;exact ⟨_,rfl⟩
    ·obtain ⟨b,rfl,_⟩:=d1;exact ⟨_,rfl⟩
    ·rename_i fs hu;exact absurd ⟨fs,hu⟩ hst
    ·exact d1.elim
  obtain ⟨d,rfl⟩:=hone
  have hcells:∃ c,v.cells.toList=[c]:=by
   simp only [llc,lln] at d2
   match hv:v.cells.toList,d2 with
   | [c],_=>exact ⟨c,rfl⟩
  obtain ⟨c,hc⟩:=hcells
  rw [hc] at d4
  obtain ⟨r1,r2⟩:=d4 0 d c rfl rfl
  have hvc:v=c:=by
   have hna:∀ cs,v ≠ .agg cs:=by
    rintro cs rfl
    unfold Value.okWide at hval
    split at hval
    ·rename_i fs hu;exact hst ⟨fs,hu⟩
    ·rename_i n e hu
     cases k with
     | zero=>exact d1.elim
     | succ k=>unfold FitC at d1;rw [hu] at d1;exact d1.elim
    ·unfold Cell.okWide at hval
     split at hval<;>first|(rename_i hq;cases hq;done)|skip
     unfold Cell.ok at hval
     split at hval<;>simp_all
   cases v<;>simp [Value.cells] at hc<;>first|exact hc|exact absurd rfl (hna _)
  subst hvc
  exact ⟨.p d,Or.inr ⟨d,d1,rfl,fun fs hu=>hst ⟨fs,hu⟩⟩,.p r1 r2⟩
theorem Pq {k base:Nat}:∀ {ts:List TypeId} {vs:List Value} {ds:List (DataW H)} {ps:List MemPlace},ts.all (Fp P k)=true->(∀ (j:Nat) t v,ts[j]?=some t->vs[j]?=some v->Value.okWide P W .any base t v)->DataW.TrodAll enc P W 0 (fun _=>true) true ts vs ds ps ->
  ∃ us:List VVal,us.length=vs.length/\us.length=ts.length/\(∀ (i:Nat) (t:TypeId) (u:VVal),ts[i]?=some t->us[i]?=some u->FitV P k t u)/\∀ (i:Nat) (u:VVal) (c:Value),us[i]?=some u->vs[i]?=some c->VRel allFz (At []) W u c
 | [],vs,ds,ps,_,_,h=>by
  obtain ⟨rfl,rfl,rfl⟩:=trodAll_nil h
  exact ⟨[],rfl,rfl,fun i t u h=>by simp at h,fun i u c h=>by simp at h⟩
 | t::ts,vs,ds,ps,hfit,hval,h=>by
  obtain ⟨v,vs1,d,ds1,a,b,rfl,rfl,rfl,h1,h2⟩:=trodAll_cons h
  simp only [List.all_cons,bat] at hfit
  obtain ⟨u,hu1,hu2⟩:=Zh hfit.1 (hval 0 t v rfl rfl) h1
  obtain ⟨us,e1,e2,e3,e4⟩:=Pq hfit.2 (fun j t v ht hv=>hval (j+1) t v (by simpa using ht) (by simpa using hv)) h2
  refine ⟨u::us,by simp [e1],by simp [e2],fun i t' u' ht hu=>?_,fun i u' c hu hc=>?_⟩
  ·cases i with
   | zero=>simp at ht hu;subst ht;subst hu;exact hu1
   | succ i=>simp at ht hu;exact e3 i t' u' ht hu
  ·cases i with
   | zero=>simp at hu hc;subst hu;subst hc;exact hu2
   | succ i=>simp at hu hc;exact e4 i u' c hu hc
theorem NT (hl:laidOutB P=true) {k:Nat} {W':World} (hb:Below W.heap.size W W'):∀ {ts:List TypeId} {vs:List Value} {ds:List (DataW H)} {ps:List MemPlace},ts.all (Fp P k)=true->DataW.TrodAll enc P W 0 (fun _=>true) true ts vs ds ps->(∀ x∈ps,x.block<W.heap.size) ->
  DataW.TrodAll enc P W' 0 (fun b=>decide (b<W.heap.size)) true ts vs ds ps
 | [],vs,ds,ps,_,h,_=>by
  obtain ⟨rfl,rfl,rfl⟩:=trodAll_nil h
  rfl
 | t::ts,vs,ds,ps,hfit,h,hlt=>by
  obtain ⟨v,vs1,d,ds1,a,b,rfl,rfl,rfl,h1,h2⟩:=trodAll_cons h
  simp only [List.all_cons,bat] at hfit
  have hf:=hfit.1
  simp only [Fp,bat,decide_eq_true_eq] at hf
  exact ⟨a,b,Below.trod hl hf.1.1 hf.1.2 h1 hb (fun x hx=>hlt x (by simp [hx])),NT hl hb hfit.2 h2 (fun x hx=>hlt x (by simp [hx])),rfl⟩
theorem Wl {Γ:Sig} (hΓ:C3 P Γ) (hK:∀ b B,GK.K b=some B->W.heap[b]?=some B) {kk base:Nat} {ts:List TypeId} {args:Array Value} {ds:List (DataW H)} {ps:List MemPlace} (hfit:ts.all (Fp P kk)=true) (hval:∀ (j:Nat) t v,ts[j]?=some t->args[j]?=some v->Value.okWide P W .any base t v)
  (hA:DataW.TrodAll enc P W 0 (fun _=>true) true ts args.toList ds ps) {k:FuncId} (hcall:∀ us:List VVal,us.length=ts.length->(∀ (i:Nat) (t:TypeId) (u:VVal),ts[i]?=some t->us[i]?=some u->FitV P kk t u)->Γ k us []=some (.p (.bool true),[])) :
  Calls P k args W fun e W'=>e=.returned (.bool true)/\Below W.heap.size W W':=by
 obtain ⟨us,e1,e2,e3,e4⟩:=Pq (vs:=args.toList) hfit (fun j t v ht hv=>hval j t v ht (by simpa using hv)) hA
 obtain ⟨_,hok⟩:=hΓ _ _ _ _ _ (hcall us e2 e3)
 refine (hok allFz W args (fun id v o h=>?_) (fun b B hb=>⟨.inr rfl,(ags.1 (hK b B hb)).1,hK b B hb⟩) (by simpa using e1) (fun i u c hu hc=>e4 i u c hu (by simpa using hc)) (fun b id h=>by simp [allFz] at h)).mono fun e W' he=>?_
 ·cases id with
  | slot s j=>simp [At] at h
  | arg i j=>cases j<;>simp [At] at h
 ·obtain ⟨c,G',h',vs,rfl,hst,_,hret,hout,_⟩:=he
  have hb:Below W.heap.size W W':=⟨hst.os,hst.tape,hst.output,hst.size,fun b hb=>(hst.frozen b rfl hb).2⟩
  refine ⟨?_,hb⟩
  obtain ⟨_,hout⟩:=Ac hout
  obtain ⟨_,hout⟩:=Ac hout
  have hone:∃ v,vs=[v]:=by
   by_cases h1:∃ v,vs=[v]
   ·exact h1
   ·exfalso
    unfold CX at hout
    split at hout
    ·exact h1 ⟨_,rfl⟩
    ·obtain ⟨_,_,hout⟩:=Ab hout
     simp at hout
  obtain ⟨v,rfl⟩:=hone
  simp only [CX] at hout
  have hv:v=.p (.bool true):=by
   replace hout:Bx h' v=some (.p (.bool true)):=by
    rcases Ku hout with h0|⟨_,_,_,_,e⟩|⟨_,_,_,_,_,_,e⟩
    ·exact h0.1
    ·cases e
    ·cases e
   unfold Bx at hout
   split at hout
   ·obtain ⟨_,_,hout⟩:=Ab hout
    simp at hout
   ·split at hout
    ·obtain ⟨_,hout⟩:=Ac hout
     obtain ⟨_,_,hout⟩:=Ab hout
     simp at hout
    ·cases hout
   ·unfold Ar at hout
    split at hout
    ·simp at hout;rw [hout]
    ·obtain ⟨_,_,hout⟩:=Ab hout
     obtain ⟨_,hout⟩:=Ac hout
     simp at hout
    ·obtain ⟨_,_,hout⟩:=Ab hout
     simp at hout
    ·obtain ⟨_,hout⟩:=Ac hout
     simp at hout
    ·obtain ⟨_,hout⟩:=Ac hout
     simp at hout
    ·simp at hout
    ·obtain ⟨_,_,hout⟩:=Ab hout
     simp at hout
    .cases hout
  subst hv
  simp only [DD] at hret
  rw [Gs hret]
theorem Xm {kk:Nat} (hl:laidOutB P=true) {f:Func} {s:ChangeSpec} {fresh handsOn:Bool} {W':World} {args:Array Value} {ds gs:List (DataW H)} {before p q:List MemPlace} (hW:DataW.Whole enc P f.params.toList s.vars false W args.toList ds gs before) (hvars:s.vars=[])
  (hfit:f.params.toList.all (Fp P kk)=true) (hA:DataW.TrodAll enc P W 0 (fun _=>true) true f.params.toList args.toList ds p) (hV:DataW.TrodVars enc P W (fun _=>true) s.vars gs q) (hbe:before=p++q) {t:TypeId} (hrt:f.resultTypes=#[t]) (ht:P.underlying t=some .bool)
  (hres:(s.fn H (ds++gs)).results=[.lit (.bool true)]) (hargs:(s.fn H (ds++gs)).args=ds) (hvr:(s.fn H (ds++gs)).vars=[]) (hb:Below W.heap.size W W'):s.post enc P f false fresh handsOn false W args (.bool true) W':=by
 rw [hvars] at hV
 obtain ⟨rfl,rfl⟩:=trodVars_none hV
 rw [lan] at hbe
 subst hbe
 refine ⟨ds,[],before,[],before,[],hW,?_,?_,?_,hb.frame _,fun h=>by cases h⟩
 ·rw [hres,hrt]
  exact trodAll_mk1 (shut_bool ht true)
 ·rw [hargs]
  exact NT hl hb hfit hA (fun x hx=>hW.lt x hx)
 ·rw [hvars,hvr]
  rfl
end
end
end Go.V
namespace Go.V
open Go.RowKit
def CG (P:Program) (t:TypeId):Option (List (TypeId × Nat)):=match P.underlying t with
 | some (.struct fs)=>some (fs.toList.map fun f=>(f.type,f.offset))
 | _=>none
theorem J2 {P:Program} {t:TypeId} {sp:List (TypeId × Nat)} (h:CG P t=some sp):∃ fs,P.underlying t=some (.struct fs)/\sp=fs.toList.map fun f=>(f.type,f.offset):=by
 unfold CG at h
 split at h
 ·rename_i fs hu
  cases h
  exact ⟨fs,hu,rfl⟩
 .cases h
theorem FitC.int {P:Program} {k:Nat} {t:TypeId} {q:IntKind} {ds:List PV} (hu:P.underlying t=some (.int q)) (h:FitC P k t ds):∃ n,ds=[.int q n]/\(Lit.int q n).wf=true:=by
 cases k with
 | zero=>exact h.elim
 | succ k =>
  unfold FitC at h
  rw [hu] at h
  exact h
theorem FitC.str {P:Program} {k:Nat} {t:TypeId} {ds:List PV} (hu:P.underlying t=some .string) (h:FitC P k t ds):∃ s:ByteArray,ds=[.str s]/\s.size<=maxLen:=by
 cases k with
 | zero=>exact h.elim
 | succ k =>
  unfold FitC at h
  rw [hu] at h
  exact h
theorem FitC.bool {P:Program} {k:Nat} {t:TypeId} {ds:List PV} (hu:P.underlying t=some .bool) (h:FitC P k t ds):∃ b,ds=[.bool b]:=by
 cases k with
 | zero=>exact h.elim
 | succ k =>
  unfold FitC at h
  rw [hu] at h
  exact h
theorem FitC.struct {P:Program} {k:Nat} {t:TypeId} {sp:List (TypeId × Nat)} {ds:List PV} (hu:CG P t=some sp) (h:FitC P (k+1) t ds):ds.length=P.cellsOf t/\∀ p∈sp,FitC P k p.1 ((ds.drop p.2).take (P.cellsOf p.1)):=by
 obtain ⟨fs,hu',rfl⟩:=J2 hu
 unfold FitC at h
 rw [hu'] at h
 refine ⟨h.1,fun p hp=>?_⟩
 obtain ⟨f,hf,rfl⟩:=lmm.1 hp
 obtain ⟨i,hi⟩:=lgm hf
 exact h.2 i f (by simpa using hi)
theorem FitC.list {α:Type} {P:Program} {k:Nat} {t e:TypeId} {n:Nat} {sp:List (TypeId × Nat)} {ds:List PV} {Q:α->Prop} {enc:α->PV} (hu:P.underlying t=some (.slice e)) (hs:CG P e=some sp) (hn:P.cellsOf e=n)
  (hd:∀ x,FitC P k e x->∃ a:α,PV.agg x=enc a/\Q a) (h:FitC P (k+1) t ds):∃ l:List α,ds=[.slice n (l.map enc)]/\∀ a∈l,Q a:=by
 obtain ⟨fs,hse,_⟩:=J2 hs
 unfold FitC at h
 rw [hu] at h
 obtain ⟨es,rfl,hall⟩:=h
 rw [hn]
 have hmk:Ew P e=PV.agg:=by funext x;unfold Ew;rw [hse]
 rw [hmk]
 clear hu hs hn hse hmk
 have key:∃ l:List α,es.map PV.agg=l.map enc/\∀ a∈l,Q a:=by
  induction es with
  | nil=>exact ⟨[],rfl,fun a h=>by simp at h⟩
  | cons x es ih =>
   obtain ⟨l,h1,h2⟩:=ih fun y hy=>hall y (lmc _ hy)
   obtain ⟨a,h3,h4⟩:=hd x (hall x (lms ..))
   exact ⟨a::l,by rw [lpc,lpc,h1,h3],fun b hb=>by
    rcases lmk.1 hb with rfl|hb
    .exact h4
    .exact h2 b hb⟩
 obtain ⟨l,h1,h2⟩:=key
 exact ⟨l,by rw [h1],h2⟩
theorem FitC.ints {P:Program} {k:Nat} {t e:TypeId} {q:IntKind} {ds:List PV} (hu:P.underlying t=some (.slice e)) (he:P.underlying e=some (.int q)) (hn:P.cellsOf e=1) (h:FitC P (k+1) t ds):∃ l:List Int,ds=[.slice 1 (l.map (.int q))]/\∀ a∈l,(Lit.int q a).wf=true:=by
 unfold FitC at h
 rw [hu] at h
 obtain ⟨es,rfl,hall⟩:=h
 rw [hn]
 have key:∃ l:List Int,es.map (Ew P e)=l.map (.int q)/\∀ a∈l,(Lit.int q a).wf=true:=by
  clear hu hn
  induction es with
  | nil=>exact ⟨[],rfl,fun a h=>by simp at h⟩
  | cons x es ih =>
   obtain ⟨l,h1,h2⟩:=ih fun y hy=>hall y (lmc _ hy)
   obtain ⟨a,rfl,h4⟩:=(hall x (lms ..)).int he
   refine ⟨a::l,?_,fun b hb=>?_⟩
   ·rw [lpc,lpc,h1,Ew,he];rfl
   ·rcases lmk.1 hb with rfl|hb
    .exact h4
    .exact h2 b hb
 obtain ⟨l,h1,h2⟩:=key
 exact ⟨l,by rw [h1],h2⟩
theorem FitV.struct {P:Program} {k:Nat} {t:TypeId} {sp:List (TypeId × Nat)} {u:VVal} (hu:CG P t=some sp) (h:FitV P k t u):∃ ds:List PV,FitC P k t ds/\u=.agg (ds.map .p):=by
 obtain ⟨fs,hs,_⟩:=J2 hu
 rcases h with ⟨ds,h1,h2,_⟩|⟨_,_,_,h3⟩
 .exact ⟨ds,h1,h2⟩
 .exact absurd hs (h3 fs)
theorem FitV.flat {P:Program} {k:Nat} {t:TypeId} {u:VVal} (hu:CG P t=none) (h:FitV P k t u):∃ d:PV,FitC P k t [d]/\u=.p d:=by
 rcases h with ⟨_,_,_,fs,h3⟩|⟨d,h1,h2,_⟩
 ·unfold CG at hu
  rw [h3] at hu
  cases hu
 .exact ⟨d,h1,h2⟩
theorem wf64 {n:Int} (h:(Lit.int .i64 n).wf=true):-9223372036854775808<=n/\n<=9223372036854775807:=by
 simp [Lit.wf,IntKind.min,IntKind.max,IntKind.bits,IntKind.signed] at h
 omega
structure NodeT (P:Program) (tn ti ts:TypeId):Prop where
 n:CG P tn=some [(ti,0),(ti,1),(ts,2),(ti,3),(ti,4),(ti,5)]
 nc:P.cellsOf tn=6
 i:P.underlying ti=some (.int .i64)
 ic:P.cellsOf ti=1
 s:P.underlying ts=some .string
 sc:P.cellsOf ts=1
theorem FitC.node {P:Program} {k:Nat} {tn ti ts:TypeId} (h:NodeT P tn ti ts) {x:List PV} (hx:FitC P (k+1) tn x):∃ n:Nd,PV.agg x=n.pv/\n.Fits:=by
 obtain ⟨h1,h2⟩:=hx.struct h.n
 rw [h.nc] at h1
 match x,h1 with
 | [a,b,c,d,e,f],_ =>
  have q0:=h2 (ti,0) (by simp)
  have q1:=h2 (ti,1) (by simp)
  have q2:=h2 (ts,2) (by simp)
  have q3:=h2 (ti,3) (by simp)
  have q4:=h2 (ti,4) (by simp)
  have q5:=h2 (ti,5) (by simp)
  simp only [h.ic,h.sc,List.drop_zero,List.drop_succ_cons,List.take_succ_cons,List.take_zero] at q0 q1 q2 q3 q4 q5
  obtain ⟨x0,e0,w0⟩:=q0.int h.i
  obtain ⟨x1,e1,w1⟩:=q1.int h.i
  obtain ⟨x2,e2,w2⟩:=q2.str h.s
  obtain ⟨x3,e3,w3⟩:=q3.int h.i
  obtain ⟨x4,e4,w4⟩:=q4.int h.i
  obtain ⟨x5,e5,w5⟩:=q5.int h.i
  simp only [List.cons.injEq,and_true] at e0 e1 e2 e3 e4 e5
  subst e0 e1 e2 e3 e4 e5
  refine ⟨⟨x0,x1,x2,x3,x4,x5⟩,rfl,?_,?_⟩
  ·unfold maxLen at w2
   simp only
   omega
  ·have:=wf64 w3
   simp only
   omega
structure TreeT (P:Program) (tt tns tn ti ts:TypeId):Prop extends NodeT P tn ti ts where
 t:CG P tt=some [(tns,0),(ti,1)]
 tc:P.cellsOf tt=2
 ns:P.underlying tns=some (.slice tn)
 nsc:P.cellsOf tns=1
theorem FitC.tree {P:Program} {k:Nat} {tt tns tn ti ts:TypeId} (h:TreeT P tt tns tn ti ts) {x:List PV} (hx:FitC P (k+3) tt x):∃ t:Tr,x=[.slice 6 (t.nodes.map Nd.pv),.int .i64 t.next]/\t.Fits:=by
 obtain ⟨h1,h2⟩:=hx.struct h.t
 rw [h.tc] at h1
 match x,h1 with
 | [a,b],_ =>
  have q0:=h2 (tns,0) (by simp)
  have q1:=h2 (ti,1) (by simp)
  simp only [h.ic,h.nsc,List.drop_zero,List.drop_succ_cons,List.take_succ_cons,List.take_zero] at q0 q1
  obtain ⟨l,e0,w0⟩:=q0.list (enc:=Nd.pv) (Q:=Nd.Fits) h.ns h.n h.nc (fun x hx=>hx.node h.toNodeT)
  obtain ⟨n,e1,w1⟩:=q1.int h.i
  simp only [List.cons.injEq,and_true] at e0 e1
  subst e0 e1
  exact ⟨⟨l,n⟩,rfl,w0⟩
theorem FitV.tree {P:Program} {k:Nat} {tt tns tn ti ts:TypeId} (h:TreeT P tt tns tn ti ts) {u:VVal} (hu:FitV P (k+3) tt u):∃ t:Tr,u=t.vv/\t.Fits:=by
 obtain ⟨ds,h1,rfl⟩:=hu.struct h.t
 obtain ⟨t,rfl,ht⟩:=h1.tree h
 exact ⟨t,rfl,ht⟩
theorem Yi {P:Program} {t e:TypeId} (h:P.underlying t=some (.slice e)):CG P t=none:=by
 unfold CG
 rw [h]
theorem zbe {P:Program} {t:TypeId} {q:IntKind} (h:P.underlying t=some (.int q)):CG P t=none:=by
 unfold CG
 rw [h]
theorem FitV.int {P:Program} {k:Nat} {t:TypeId} {q:IntKind} (h:P.underlying t=some (.int q)) {u:VVal} (hu:FitV P k t u):∃ n,u=.p (.int q n)/\(Lit.int q n).wf=true:=by
 obtain ⟨d,h1,rfl⟩:=hu.flat (zbe h)
 obtain ⟨n,e,w⟩:=h1.int h
 simp only [List.cons.injEq,and_true] at e
 subst e
 exact ⟨n,rfl,w⟩
theorem FitV.ints {P:Program} {k:Nat} {t e:TypeId} {q:IntKind} (h:P.underlying t=some (.slice e)) (he:P.underlying e=some (.int q)) (hn:P.cellsOf e=1) {u:VVal} (hu:FitV P (k+1) t u):∃ l:List Int,u=.p (.slice 1 (l.map (.int q)))/\∀ a∈l,(Lit.int q a).wf=true:=by
 obtain ⟨d,h1,rfl⟩:=hu.flat (Yi h)
 obtain ⟨l,e1,w⟩:=h1.ints h he hn
 simp only [List.cons.injEq,and_true] at e1
 subst e1
 exact ⟨l,rfl,w⟩
theorem FitV.str {P:Program} {k:Nat} {t:TypeId} (h:P.underlying t=some .string) {u:VVal} (hu:FitV P k t u):∃ s:ByteArray,u=.p (.str s)/\s.size<=maxLen:=by
 obtain ⟨d,h1,rfl⟩:=hu.flat (by unfold CG;rw [h])
 obtain ⟨s,e,w⟩:=h1.str h
 simp only [List.cons.injEq,and_true] at e
 subst e
 exact ⟨s,rfl,w⟩
end Go.V
namespace Go.V
open Go.RowKit
structure CfgT (P:Program) (tc tm ti:TypeId):Prop where
 c:CG P tc=some [(tm,0),(ti,5),(ti,6)]
 cc:P.cellsOf tc=7
 m:CG P tm=some [(ti,0),(ti,1),(ti,2),(ti,3),(ti,4)]
 mc:P.cellsOf tm=5
 i:P.underlying ti=some (.int .i64)
 ic:P.cellsOf ti=1
theorem FitV.cfg {P:Program} {k:Nat} {tc tm ti:TypeId} (h:CfgT P tc tm ti) {u:VVal} (hu:FitV P (k+2) tc u):∃ (m:Mdl) (a b:Int),u=DG m a b:=by
 obtain ⟨ds,hx,rfl⟩:=hu.struct h.c
 obtain ⟨h1,h2⟩:=hx.struct h.c
 rw [h.cc] at h1
 match ds,h1 with
 | [a,b,c,d,e,f,g],_ =>
  have q0:=h2 (tm,0) (by simp)
  have q1:=h2 (ti,5) (by simp)
  have q2:=h2 (ti,6) (by simp)
  simp only [h.ic,h.mc,List.drop_zero,List.drop_succ_cons,List.take_succ_cons,List.take_zero] at q0 q1 q2
  obtain ⟨n5,e5,w5⟩:=q1.int h.i
  obtain ⟨n6,e6,w6⟩:=q2.int h.i
  obtain ⟨_,h4⟩:=q0.struct h.m
  have r0:=h4 (ti,0) (by simp)
  have r1:=h4 (ti,1) (by simp)
  have r2:=h4 (ti,2) (by simp)
  have r3:=h4 (ti,3) (by simp)
  have r4:=h4 (ti,4) (by simp)
  simp only [h.ic,List.drop_zero,List.drop_succ_cons,List.take_succ_cons,List.take_zero] at r0 r1 r2 r3 r4
  obtain ⟨n0,e0,w0⟩:=r0.int h.i
  obtain ⟨n1,e1,w1⟩:=r1.int h.i
  obtain ⟨n2,e2,w2⟩:=r2.int h.i
  obtain ⟨n3,e3,w3⟩:=r3.int h.i
  obtain ⟨n4,e4,w4⟩:=r4.int h.i
  simp only [List.cons.injEq,and_true] at e0 e1 e2 e3 e4 e5 e6
  subst e0 e1 e2 e3 e4 e5 e6
  exact ⟨⟨n0,n1,n2,n3,n4⟩,n5,n6,rfl⟩
end Go.V
