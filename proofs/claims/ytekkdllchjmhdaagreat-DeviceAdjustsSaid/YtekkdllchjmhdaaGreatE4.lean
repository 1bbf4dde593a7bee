/- Part 4 of the proof. -/
import Derived.Test.YtekkdllchjmhdaaGreatE3
set_option linter.unusedSectionVars false
set_option linter.unusedSimpArgs false
set_option linter.unusedVariables false
set_option maxHeartbeats 32000000
open Nat renaming le_refl → lrf
open List renaming getElem?_eq_getElem → lgg, getElem?_eq_some_iff → lgs, mem_of_getElem? → lmg, drop_eq_getElem_cons → ldg, mem_cons_of_mem → lmc, map_cons → lpc, drop_of_length_le → ldl, nil_append → lna, append_assoc → laa, append_nil → lan, mem_map → lmm, mem_cons_self → lms, map_append → lma, take_of_length_le → ltl, getElem?_of_mem → lgm, length_cons → llc, length_append → lla, mem_cons → lmk, map_nil → lpn, length_nil → lln, mem_append → lmp, length_map → llm, getElem_mem → lgk, length_take → llt, length_drop → lld, pairwise_cons → lpw, cons_append → lca, foldl_append → lfa
open Bool renaming and_eq_true → bat, false_and → bfa, false_eq_true → bft, true_and → bta, not_false → bnf, and_self → bas, and_true → bau
namespace Go.V
theorem OV (l:List Dp) (id:Int) (hl:l.length<1000000):V 27 [.p (BG l),.p (.int .i64 id)] []=some ((getD l id).vv,[]):=by
 refine Ad (vf:=vf27) rfl ?_
 simp -implicitDefEqProofs (disch:=omega) only [vf27,SK,go_sem]
 obtain ⟨I,hI⟩:=lpI fun k s=>getD l id=getD (l.drop k) id/\s.pe 0=.p (BG l)/\s.pe 1=.p (.int .i64 id)/\s.pe 4=.ptr (.slot 4 0) 0 0/\s.pe 5=.p (.int .i64 k)/\s.h (.slot 4 0)=some (0,Ob.box [.p (.int .i64 0),.p (.int .i64 0),.p (.int .i64 0)])
 refine Ak (l.length) I ?_ ?_
 ·refine (hI _ _).2 ?_
  and_intros
  ·exact cl3
  all_goals first|exact cl0|(simp -implicitDefEqProofs (disch:=omega) only [lma,go_sem]<;>first|(simp [Aa];done)|(simp [Aa];omega))
 intro k s hk hIk
 obtain ⟨hq,hH⟩:=(hI _ _).1 hIk
 clear hIk
 simp -implicitDefEqProofs (disch:=omega) only [hH,go_sem]
 refine Af (fun hlt=>?_) (fun hge=>?_)
 ·have hm:l[k]?=some l[k]:=lgg hlt
  rw [ldg hlt,getD] at hq
  generalize l[k]=c at hm hq
  by_cases hc:c.group=id
  ·rw [if_pos hc] at hq
   subst hc
   simp -implicitDefEqProofs (disch:=omega) only [hH,hlt,hm,hq,go_sem]
  ·rw [if_neg hc] at hq
   simp -implicitDefEqProofs (disch:=omega) only [hH,hlt,hm,hc,go_sem]
   try refine ai ?_
   refine (hI _ _).2 ?_
   and_intros
   .exact hq
   all_goals first|exact cl0|(simp -implicitDefEqProofs (disch:=omega) only [hH,lma,go_sem]<;>first|(simp [Aa];done)|(simp [Aa];omega))
 ·have hq':getD l id=⟨id,0,256⟩:=by
   rw [hq,ldl (by omega)]
   rfl
  simp -implicitDefEqProofs (disch:=omega) only [hH,hge,hq',go_sem]
theorem M9 {C:Int}:∀ l:List Int,(∀ x∈l,x<=C)->Aj l<=C*l.length
 | [],_=>by simp [Aj]
 | x::l,h=>by
  have ih:=M9 l fun y hy=>h y (lmc _ hy)
  have:=h x (lms ..)
  simp only [Aj,llc,Int.natCast_add,Int.natCast_one,Int.mul_add,Int.mul_one]
  omega
theorem zbi {t:Tr} (h:TreeOk t) (fs:List Fl) (hfl:fs.length<=256):ChOk t.nodes (flyL t fs):=by
 have hlen:=h.len
 have hL2:=fun c=>Lm (t:=t) (fs:=fs) (c:=c)
 have hL3:=Ln t fs
 refine ⟨fun c hc=>?_,Qd h fs,fun c hc=>?_,?_⟩
 ·obtain ⟨n,hn,e,_⟩:=hL2 c hc
  rw [e,Hp h hn]
  rfl
 ·unfold flyL at hc
  obtain ⟨n,hn,rfl⟩:=lmm.1 hc
  have:=(List.mem_filter.1 hn).2
  simp only [decide_eq_true_eq] at this
  exact this
 ·have:=M9 (C:=256) ((flyL t fs).map (·.own)) fun x hx=>by
   obtain ⟨c,hc,rfl⟩:=lmm.1 hx
   obtain ⟨n,hn,_,e⟩:=hL2 c hc
   have:=HR fs n.id
   rw [e]
   omega
  rw [llm] at this
  omega
theorem W4 {t:Tr} (h:TreeOk t) (ds:List Dp) (fs:List Fl) (id:Int) (hds:BP (Ag t.nodes) none ds=true) (hdl:ds.length<1000000) (hfl:fs.length<=256) (hid:Ag t.nodes id=true) :
  V 210 [t.vv,.p (BG ds),.p (As (flyL t fs)),.p (.int .i64 id)] []=some (.tup [.p (.bool (Fe t ds fs id)),.p (.int .i64 0)],[]):=by
 refine Ad (vf:=vf210) rfl ?_
 have hlen:=h.len
 have j0:=Ly h hds hdl
 have hC:=zbi h fs hfl
 have hL3:=Ln t fs
 have hL4:∀ c∈flyL t fs,0<=c.own/\c.own<=256:=fun c hc=>by
  obtain ⟨n,hn,_,e⟩:=Lm hc
  rw [e]
  have:=Gi fs n.id
  have:=HR fs n.id
  omega
 have hK:=Pz h hid
 have hal:=EA t.nodes t.nodes.length id
 have hsum:∀ g∈ancF t.nodes t.nodes.length id,V 261 [t.vv,MI (flyL t fs),.p (.int .i64 g)] []=some (.p (.int .i64 (FY t fs g)),[]):=fun g hg=>by
  have hk:=hK g hg
  obtain ⟨n,hn,e⟩:=C2 hk
  obtain ⟨i,hi⟩:=lgm hn
  have:=Z1 h hC (by omega) hi
  rw [e] at this
  rw [this]
  obtain ⟨e1,e2⟩:=PG h fs hk
  unfold tot FY
  rw [<- e1,e2]
 have ca:=Ix h hid
 have ch:=D8 h hid
 unfold Fe
 generalize flyL t fs=l at hC hL3 hL4 hsum
 generalize ancF t.nodes t.nodes.length id=A at hK hal hsum ca
 simp -implicitDefEqProofs (disch:=omega) only [vf210,Ri,j0,go_sem]
 obtain ⟨I,hI⟩:=lpI fun k s=>s.pe 1=.p (BG ds)/\s.pe 2=.p (As l)/\s.pe 3=.p (.int .i64 id)/\s.pe 4=.ptr (.slot 4 0) 0 0/\s.pe 10=.p (.int .i64 k)/\s.h (.slot 4 0)=some (0,Ob.box [.p (Ao t.nodes),.p (.int .i64 t.next)])
 refine Ak (l.length) I ?_ ?_
 ·refine (hI _ _).2 ?_
  and_intros
  all_goals first|exact cl0|(simp -implicitDefEqProofs (disch:=omega) only [lma,go_sem]<;>first|(simp [Aa];done)|(simp [Aa];omega))
 intro k s hk hIk
 obtain hH:=(hI _ _).1 hIk
 clear hIk
 simp -implicitDefEqProofs (disch:=omega) only [hH,go_sem]
 refine Af (fun hlt=>?_) (fun hge=>?_)
 ·have hm:l[k]?=some l[k]:=lgg hlt
  generalize l[k]=c at hm
  have hmem:=lmg hm
  have hfi:=D8 h (hC.known c hmem)
  have hr:=hL4 c hmem
  have b1:¬ c.own<0:=by omega
  have b2:¬ 256<c.own:=by omega
  by_cases hk0:(0:Int)<k
  ·obtain ⟨e,he,hlt'⟩:=HK hC.inc hm hk0
   have hk1:(0:Int)<=(k:Int) - 1:=by omega
   have hle:¬ c.group<=e.group:=by omega
   simp -implicitDefEqProofs (disch:=omega) only [hH,hlt,hm,hfi,hk0,hk1,he,hle,b1,b2,go_sem]
   try refine ai ?_
   refine (hI _ _).2 ?_
   and_intros
   all_goals first|exact cl0|(simp -implicitDefEqProofs (disch:=omega) only [hH,lma,go_sem]<;>first|(simp [Aa];done)|(simp [Aa];omega))
  ·simp -implicitDefEqProofs (disch:=omega) only [hH,hlt,hm,hfi,hk0,b1,b2,go_sem]
   try refine ai ?_
   refine (hI _ _).2 ?_
   and_intros
   all_goals first|exact cl0|(simp -implicitDefEqProofs (disch:=omega) only [hH,lma,go_sem]<;>first|(simp [Aa];done)|(simp [Aa];omega))
 ·simp -implicitDefEqProofs (disch:=omega) only [hH,hge,ch,ca,go_sem]
  obtain ⟨J,hJ⟩:=lpI fun j s=>∃ (v64_1:Nat),(A.all fun g=>decide (FY t fs g<(getD ds g).depth))=((A.drop j).all fun g=>decide (FY t fs g<(getD ds g).depth))/\s.pe 1=.p (BG ds)/\s.pe 2=.p (As l)/\s.pe 4=.ptr (.slot 4 0) 0 0/\s.pe 12=.own (.slot 64 1) v64_1 0 A.length/\s.pe 13=.p (.int .i64 j)/\s.h (.slot 4 0)=some (0,Ob.box [.p (Ao t.nodes),.p (.int .i64 t.next)])/\s.h (.slot 64 1)=some (v64_1,Ob.arr 1 (List.map (.int .i64) A))
  refine Ak (A.length) J ?_ ?_
  ·refine (hJ _ _).2 ⟨nv (s.h (.slot 64 1)),?_⟩
   and_intros
   ·rfl
   all_goals first|exact cl0|(simp -implicitDefEqProofs (disch:=omega) only [hH,lma,go_sem]<;>first|(simp [Aa];done)|(simp [Aa];omega))
  intro j s hj hJk
  obtain ⟨v64_1,hq,hH⟩:=(hJ _ _).1 hJk
  clear hJk
  simp -implicitDefEqProofs (disch:=omega) only [hH,go_sem]
  refine Af (fun hjl=>?_) (fun hjg=>?_)
  ·have hx:A[j]?=some A[j]:=lgg hjl
   rw [ldg hjl,List.all_cons] at hq
   have hsu:=hsum A[j] (lgk hjl)
   generalize A[j]=g at hx hq hsu
   have hgd:=OV ds g hdl
   generalize FY t fs g=S at hsu hq
   generalize getD ds g=dd at hgd hq
   by_cases hlt:S<dd.depth
   ·rw [decide_eq_true hlt,bta] at hq
    have hn:¬ dd.depth<=S:=by omega
    simp -implicitDefEqProofs (disch:=omega) only [hH,hjl,hx,hsu,hgd,hn,go_sem]
    try refine ai ?_
    refine (hJ _ _).2 ⟨v64_1,?_⟩
    and_intros
    .exact hq
    all_goals first|exact cl0|(simp -implicitDefEqProofs (disch:=omega) only [hH,lma,go_sem]<;>first|(simp [Aa];done)|(simp [Aa];omega))
   ·rw [decide_eq_false hlt,bfa] at hq
    have hn:dd.depth<=S:=by omega
    simp -implicitDefEqProofs (disch:=omega) only [hH,hjl,hx,hsu,hgd,hn,hq,go_sem]
  ·rw [ldl (by omega),List.all_nil] at hq
   simp -implicitDefEqProofs (disch:=omega) only [hH,hjg,hq,go_sem]
theorem OP {b:Bk} {n:Int} (hn:n<=4096):De b n=0 ↔ n<=AL b:=by
 unfold De AL
 by_cases e:b.rate=maxR
 ·rw [if_pos e,if_pos e];omega
 ·rw [if_neg e,if_neg e]
  split<;>omega
theorem WS {c:Cp} {r:Rq} (hr:Aw r=true):EN c r=(decide (r.pages<=AL (kpB c r.write)) && decide (1<=AL (koB c r.write))):=by
 have:=(CP.1 hr).2.2.2.1
 unfold EN
 have h1:=OP (b:=kpB c r.write) (n:=r.pages) (by omega)
 have h2:=OP (b:=koB c r.write) (n:=1) (by omega)
 rw [Bool.eq_iff_iff,decide_eq_true_eq,bat,decide_eq_true_eq,decide_eq_true_eq,h1,h2]
theorem V0 {t:Tr} {x:Dv} (h:DvOk t x) (hs:x.Small) {r:Rq} (hr:Aw r=true) (hk:Ag t.nodes r.group=true):V 168 [t.vv,x.vv,r.vv] []=some (.p (.bool (Do t x r)),[]):=by
 refine Ad (vf:=vf168) rfl ?_
 have hlen:=h.tree.len
 have hl:=h.len
 have c0:=WV t x (by omega) hs.f
 have c1:=W4 h.tree x.depths x.flights r.group h.dp hs.p (by omega) hk
 have ca:=Ix h.tree hk
 have hal:=EA t.nodes t.nodes.length r.group
 have hbl:=hs.b
 obtain ⟨b1,_,_⟩:=Cx.1 h.bk
 unfold Do
 generalize ancF t.nodes t.nodes.length r.group=A at hal ca
 generalize Fe t x.depths x.flights r.group=al at c1
 generalize flyL t x.flights=fl at c0 c1
 simp -implicitDefEqProofs (disch:=omega) only [vf168,RB,c0,c1,ca,go_sem]
 obtain ⟨I,hI⟩:=lpI fun k s=>s.pe 4=.ptr (.slot 4 0) 0 0/\s.pe 5=.ptr (.slot 5 0) 0 0/\s.pe 7=.p (.bool (al && (A.take k).all (Cm x.buckets r)))/\s.pe 8=.p (.int .i64 0)/\s.pe 9=.own (.slot 29 1) 0 0 A.length/\s.pe 10=.p (.int .i64 k)/\s.h (.slot 4 0)=some (0,Ob.box (dvC x))/\s.h (.slot 5 0)=some (0,Ob.box [.p (.int .i64 r.task),.p (.int .i64 r.group),.p (.int .i64 r.at_),.p (.int .i64 r.pages),.p (.bool r.write),.p (.int .i64 r.time)])/\s.h (.slot 29 1)=some (0,Ob.arr 1 (List.map (.int .i64) A))
 refine Ak (A.length) I ?_ ?_
 ·refine (hI _ _).2 ?_
  and_intros
  all_goals first|exact cl0|(simp -implicitDefEqProofs (disch:=omega) only [lma,go_sem]<;>first|(simp [Aa];done)|(simp [Aa];omega))
 intro k s hk hIk
 obtain ⟨h4,h5,h7,hH⟩:=(hI _ _).1 hIk
 clear hIk
 simp -implicitDefEqProofs (disch:=omega) only [h4,h5,h7,hH,go_sem]
 refine Af (fun hlt=>?_) (fun hge=>?_)
 ·have hm:A[k]?=some A[k]:=lgg hlt
  have htk:=Bi hm
  generalize A[k]=g at hm htk
  have hst:(al && (A.take (k+1)).all (Cm x.buckets r))=((al && (A.take k).all (Cm x.buckets r)) && Cm x.buckets r g):=by rw [htk,List.all_append,Bool.and_assoc];simp
  have i1:=Kj x g hs
  rcases Fx (fun c:Cp=>decide (c.group=g)) x.buckets with ⟨e1,hno⟩|⟨q,c,e1,e2,hmg,hbe⟩
  ·have hR:Cm x.buckets r g=true:=by unfold Cm;rw [KC hno]
   rw [hR,bau] at hst
   rw [e1] at i1
   have d1:decide ((0:Int)<=-1)=false:=rfl
   generalize (al && (A.take k).all (Cm x.buckets r))=z at h7 hst
   simp -implicitDefEqProofs (disch:=omega) only [h4,h5,h7,hH,hlt,hm,i1,d1,go_sem]
   try refine ai ?_
   refine (hI _ _).2 ?_
   and_intros
   all_goals first|exact cl0|(simp -implicitDefEqProofs (disch:=omega) only [h4,h5,h7,hH,hst,lma,go_sem]<;>first|(simp [Aa];done)|(simp [Aa];omega))
  ·have hR:Cm x.buckets r g=EN c r:=by rw [WS hr];unfold Cm;rw [I3 e2 hmg hbe]
   rw [hR] at hst
   rw [e1] at i1
   have hq:=(lgs.1 e2).1
   have i2:=OU c r (b1 c (lmg e2)).2 hr
   generalize EN c r=sp at i2 hst
   generalize (al && (A.take k).all (Cm x.buckets r))=z at h7 hst
   cases z with
   | true =>
    rw [bta] at hst
    simp -implicitDefEqProofs (disch:=omega) only [h4,h5,h7,hH,hlt,hm,i1,hq,e2,Cp.pv,i2,go_sem]
    try refine ai ?_
    refine (hI _ _).2 ?_
    and_intros
    all_goals first|exact cl0|(simp -implicitDefEqProofs (disch:=omega) only [h4,h5,h7,hH,hst,lma,go_sem]<;>first|(simp [Aa];done)|(simp [Aa];omega))
   | false =>
    rw [bfa] at hst
    simp -implicitDefEqProofs (disch:=omega) only [h4,h5,h7,hH,hlt,hm,i1,hq,e2,Cp.pv,i2,go_sem]
    try refine ai ?_
    refine (hI _ _).2 ?_
    and_intros
    all_goals first|exact cl0|(simp -implicitDefEqProofs (disch:=omega) only [h4,h5,h7,hH,hst,lma,go_sem]<;>first|(simp [Aa];done)|(simp [Aa];omega))
 ·rw [ltl (by omega)] at h7
  generalize (al && A.all (Cm x.buckets r))=z at h7 ⊢
  cases z with
  | true=>simp -implicitDefEqProofs (disch:=omega) only [h4,h5,h7,hH,hge,go_sem]
  | false=>simp -implicitDefEqProofs (disch:=omega) only [h4,h5,h7,hH,hge,go_sem]
def goR (t:Tr) (x:Dv) (g:Int):Bool:=(Ba x.queue g).any (Do t x)
def EO (t:Tr) (x:Dv):List Int:=(t.nodes.filter fun n=>goR t x n.id).map (·.id)
theorem Vt {g:Int}:∀ {l:List Rq},Ba l g=none->BU (fun c:Rq=>decide (c.group=g)) l=-1:=by
 intro l h
 rcases Fx (fun c:Rq=>decide (c.group=g)) l with ⟨e,_⟩|⟨k,m,_,hm,hg,_⟩
 ·exact e
 ·have key:∀ {l:List Rq},m∈l->m.group=g->Ba l g ≠ none:=by
   intro l
   induction l with
   | nil=>intro h;cases h
   | cons x l ih =>
    intro hx hg
    unfold Ba
    split
    ·simp
    ·rcases lmk.1 hx with rfl|hx
     .contradiction
     .exact ih hx hg
  exact absurd h (key (lmg hm) (by simpa using hg))
theorem WY {t:Tr} {x:Dv} (h:DvOk t x) (hs:x.Small):V 138 [t.vv,x.vv] []=some (.fresh 1 ((EO t x).map (.int .i64)),[]):=by
 refine Ad (vf:=vf138) rfl ?_
 have hlen:=h.tree.len
 have hl:=h.len
 simp -implicitDefEqProofs (disch:=omega) only [vf138,RL,go_sem]
 obtain ⟨I,hI⟩:=lpI fun k s=>∃ (acc:List Int) (w:Nat),(acc=((t.nodes.take k).filter fun n=>goR t x n.id).map (·.id))/\acc.length<=k/\s.pe 2=.ptr (.slot 2 0) 0 0/\s.pe 3=.ptr (.slot 3 0) 0 0/\s.pe 5=.own (.slot 5 0) w 0 acc.length/\s.pe 6=.p (.int .i64 k)/\s.h (.slot 2 0)=some (0,Ob.box [.p (Ao t.nodes),.p (.int .i64 t.next)])/\s.h (.slot 3 0)=some (0,Ob.box (dvC x))/\s.h (.slot 5 0)=some (w,Ob.arr 1 (acc.map (.int .i64)))
 refine Ak (t.nodes.length) I ?_ ?_
 ·refine (hI _ _).2 ⟨[],0,?_⟩
  and_intros
  ·rfl
  ·exact cl3
  all_goals first|exact cl0|(simp -implicitDefEqProofs (disch:=omega) only [lma,go_sem]<;>first|(simp [Aa];done)|(simp [Aa];omega))
 intro k s hk hIk
 obtain ⟨acc,w,ha,hal,hH⟩:=(hI _ _).1 hIk
 clear hIk
 simp -implicitDefEqProofs (disch:=omega) only [hH,go_sem]
 refine Af (fun hlt=>?_) (fun hge=>?_)
 ·have hm:t.nodes[k]?=some t.nodes[k]:=lgg hlt
  have htk:=Bi hm
  generalize t.nodes[k]=n at hm htk
  have i1:=OW x n.id hs
  cases hf:Ba x.queue n.id with
  | none =>
   have hR:goR t x n.id=false:=by unfold goR;rw [hf];rfl
   rw [Vt hf] at i1
   have d1:decide ((0:Int)<=-1)=false:=rfl
   simp -implicitDefEqProofs (disch:=omega) only [hH,hlt,hm,Nd.vv,i1,d1,go_sem]
   try refine ai ?_
   refine (hI _ _).2 ⟨acc,w,?_⟩
   and_intros
   ·exact by rw [ha,htk,List.filter_append,lma];simp [hR]
   ·omega
   all_goals first|exact cl0|(simp -implicitDefEqProofs (disch:=omega) only [hH,lma,go_sem]<;>first|(simp [Aa];done)|(simp [Aa];omega))
  | some r =>
   have hR:goR t x n.id=Do t x r:=by unfold goR;rw [hf];rfl
   obtain ⟨q,e1,e2,_⟩:=Kz hf
   rw [e1] at i1
   have hq:=(lgs.1 e2).1
   obtain ⟨hr1,hr2⟩:=h.q r (lmg e2)
   have i2:=V0 h hs hr1 hr2
   cases hp:Do t x r with
   | true =>
    rw [hp] at i2 hR
    simp -implicitDefEqProofs (disch:=omega) only [hH,hlt,hm,Nd.vv,i1,hq,e2,i2,go_sem]
    try refine ai ?_
    refine (hI _ _).2 ⟨acc++[n.id],w+1,?_⟩
    and_intros
    .exact by rw [ha,htk,List.filter_append,lma];simp [hR]
    .exact by rw [lla,List.length_singleton];omega
    all_goals first|exact cl0|(simp -implicitDefEqProofs (disch:=omega) only [hH,lma,go_sem]<;>first|(simp [Aa];done)|(simp [Aa];omega))
   | false =>
    rw [hp] at i2 hR
    simp -implicitDefEqProofs (disch:=omega) only [hH,hlt,hm,Nd.vv,i1,hq,e2,i2,go_sem]
    try refine ai ?_
    refine (hI _ _).2 ⟨acc,w,?_⟩
    and_intros
    .exact by rw [ha,htk,List.filter_append,lma];simp [hR]
    .omega
    all_goals first|exact cl0|(simp -implicitDefEqProofs (disch:=omega) only [hH,lma,go_sem]<;>first|(simp [Aa];done)|(simp [Aa];omega))
 ·rw [ltl (by omega)] at ha
  have hA:EO t x=acc:=ha.symm
  rw [hA]
  simp -implicitDefEqProofs (disch:=omega) only [hH,hge,go_sem]
theorem W7 {t:Tr} {x:Dv} (h:DvOk t x) (hs:x.Small) {r:Rq} (hr:Aw { r with time:=0 }=true) (hk:Ag t.nodes r.group=true):V 134 [t.vv,x.vv,r.vv] []=some (.p (.int .i64 0),[]):=by
 refine Ad (vf:=vf134) rfl ?_
 have i0:=HJ h hs
 have i1:=IF _ hr
 have i2:=D8 h.tree hk
 simp -implicitDefEqProofs (disch:=omega) only [vf134,RO,i0,i1,i2,go_sem]
theorem W6 {t:Tr} {x:Dv} (h:DvOk t x) (hs:x.Small) {r:Rq} (hr:Aw { r with time:=0 }=true) (hk:Ag t.nodes r.group=true) (hlt:x.queue.length+x.flights.length<256):V 59 [t.vv,x.vv,r.vv] []=some (.tup [(D4 x r).fv,.p (.int .i64 0)],[]):=by
 refine Ad (vf:=vf59) rfl ?_
 have i0:=W7 h hs hr hk
 have i1:=Gn x hs hs.q hs.f
 have n1:¬ (256:Int)<=(x.queue.length:Int)+(x.flights.length:Int):=by omega
 simp -implicitDefEqProofs (disch:=omega) only [vf59,Sr,i0,i1,n1,go_sem]
 simp [Rq.pv]
theorem OX {t:Tr} {d:Dv} (h:DvOk t d) (hs:d.Small) (hb:¬ d.now*d.speed<=d.free) {g:Int} {r:Rq} (hq:Ba d.queue g=some r) {v:List Ch} {e:Int} (hi:B7 t d.v g (Cj t d g) (BF d r) (d.now*d.speed) d.margin=(v,e)) :
  V 139 [t.vv,d.vv,.p (.int .i64 g)] []=some (if e=0 then .tup [(Dn t d g r v).fv,.p (.bool true)] else .tup [d.vv,.p (.bool false)],[]):=by
 refine Ad (vf:=vf139) rfl ?_
 have hlen:=h.tree.len
 have hql:=h.len
 obtain ⟨hs1,hs2,hs3,hs4,hs5,hs6⟩:=id hs
 obtain ⟨hmem,hgr⟩:=Hl hq
 obtain ⟨hsr,hkn⟩:=h.q r hmem
 rw [hgr] at hkn
 obtain ⟨n,hn,hid⟩:=C2 hkn
 obtain ⟨ni,hni⟩:=lgm hn
 obtain ⟨hmd,hsp,hmg⟩:=D7.1 h.cfg
 have i0:=OW d g hs
 obtain ⟨i,hix,hir,hrem⟩:=Kz hq
 rw [hix] at i0
 have hil:=(lgs.1 hir).1
 have i1:=Yy d.m r d.head hmd hsr h.head
 have i2:=zac d hs
 have hact:(actL d).length<1000000:=by
  unfold actL
  rw [lla,llm,llm]
  omega
 have hfl:=(Ec.1 h.fl).1
 have hactk:∀ a∈actL d,Ag t.nodes a=true:=fun a ha=>by
  unfold actL at ha
  rcases lmp.1 ha with ha|ha
  ·obtain ⟨q,hq,rfl⟩:=lmm.1 ha
   exact (h.q q hq).2
  ·obtain ⟨f,hf,rfl⟩:=lmm.1 ha
   exact (hfl f hf).1.2
 have i3:=W5 h.tree h.w hs1 hactk hact hni
 rw [hid] at i3
 have hsh:shr t (Ap d.weights) (onB t (actL d)) g=Cj t d g:=rfl
 rw [hsh] at i3
 have i4:=WZ t d.v g (Cj t d g) (BF d r) (d.now*d.speed) d.margin (by omega) hs4
 rw [hi] at i4
 simp only at i4
 have hco:=Lq h hsr
 have hcd:max 1 (Cq d.m r d.head)=BF d r:=Int.max_comm _ _
 have hbr:=Fz h
 generalize actL d=act at i2 i3 hact
 generalize Cj t d g=share at i3 i4 hi
 by_cases he:e=0
 ·rw [if_pos he]
  subst he
  have hvl:v.length<1000000:=by
   have:=OL (t:=t) (a:=d.v) (id:=g) (share:=share) (cost:=BF d r) (now:=d.now*d.speed) (margin:=d.margin) (by rw [hi])
   rw [hi] at this
   exact LJ h.tree this
  have d0:decide ((0:Int)=0)=true:=rfl
  have i5:=Gn d hs hs5 hs6
  have ca:=Ix h.tree hkn
  have hal:=EA t.nodes t.nodes.length g
  have hM:=Od t d.buckets r
  have hSp:Fa t d.buckets r=(ancF t.nodes t.nodes.length g).foldl (fun l g=>BN l g fun c=>Bs c r) d.buckets:=by rw [<- hgr];rfl
  have hsr':=CP.1 hsr
  have hok:=fun gs=>IE (t:=t) (r:=r) (by omega) gs d.buckets h.bk
  generalize ancF t.nodes t.nodes.length g=A at ca hal hSp
  simp -implicitDefEqProofs (disch:=omega) only [vf139,L7,i0,hil,hir,i1,i2,i3,hcd,i4,i5,ca,d0,go_sem]
  obtain ⟨I,hI⟩:=lpI fun k s=>∃ (M:List Cp),M=(A.take k).foldl (fun l g=>BN l g fun c=>Bs c r) d.buckets/\M.length=d.buckets.length/\s.pe 4=.ptr (.slot 4 0) 0 0/\s.pe 6=.ptr (.slot 6 0) 0 0/\s.pe 8=.p (.int .i64 ↑i)/\s.pe 9=.ptr (.slot 9 0) 0 0/\s.pe 10=.p (.int .i64 (BF d r))/\s.pe 16=.own (.slot 79 1) 0 0 A.length/\s.pe 17=.p (.int .i64 k)/\s.h (.slot 4 0)=some (0,Ob.box [.p (.int .i64 d.m.rb),.p (.int .i64 d.m.rp),.p (.int .i64 d.m.wb),.p (.int .i64 d.m.wp),.p (.int .i64 d.m.seek),.p (.int .i64 d.speed),.p (.int .i64 d.margin),.p (.int .i64 d.now),.p (.int .i64 d.free),.p (.int .i64 d.head),.own (.slot 74 11) 0 0 d.weights.length,.own (.slot 74 12) 0 0 d.buckets.length,.own (.slot 74 13) 0 0 d.depths.length,.own (.slot 67 1) 0 0 v.length,.own (.slot 74 15) 0 0 d.queue.length,.own (.slot 74 16) 0 0 d.flights.length])/\s.h (.slot 6 0)=some (0,Ob.box [.p (.int .i64 0),.p (.int .i64 0),.p (.int .i64 0),.p (.int .i64 0),.p (.int .i64 0),.p (.int .i64 0),.p (.int .i64 0),.p (.int .i64 0),.p (.int .i64 0),.p (.int .i64 0),.own (.slot 6 11) 0 0 0,.own (.slot 6 12) 0 0 0,.own (.slot 6 13) 0 0 0,.own (.slot 6 14) 0 0 0,.own (.slot 6 15) 0 0 0,.own (.slot 6 16) 0 0 0])/\s.h (.slot 6 11)=some (0,Ob.arr 2 [])/\s.h (.slot 6 12)=some (0,Ob.arr 21 [])/\s.h (.slot 6 13)=some (0,Ob.arr 3 [])/\s.h (.slot 6 14)=some (0,Ob.arr 2 [])/\s.h (.slot 6 15)=some (0,Ob.arr 6 [])/\s.h (.slot 6 16)=some (0,Ob.arr 7 [])/\s.h (.slot 9 0)=some (0,Ob.box [.p (.int .i64 r.task),.p (.int .i64 r.group),.p (.int .i64 r.at_),.p (.int .i64 r.pages),.p (.bool r.write),.p (.int .i64 r.time)])/\s.h (.slot 67 1)=some (0,Ob.arr 2 (List.map Ch.pv v))/\s.h (.slot 74 11)=some (0,Ob.arr 2 (List.map Ch.pv d.weights))/\s.h (.slot 74 12)=some (0,Ob.arr 21 (List.map Cp.pv M))/\s.h (.slot 74 13)=some (0,Ob.arr 3 (List.map Dp.pv d.depths))/\s.h (.slot 74 15)=some (0,Ob.arr 6 (List.map Rq.pv d.queue))/\s.h (.slot 74 16)=some (0,Ob.arr 7 (List.map Fl.pv d.flights))/\s.h (.slot 79 1)=some (0,Ob.arr 1 (List.map (.int .i64) A))
  refine Ak (A.length) I ?_ ?_
  ·refine (hI _ _).2 ⟨d.buckets,?_⟩
   and_intros
   ·exact cl3
   ·exact cl3
   all_goals first|exact cl0|(simp -implicitDefEqProofs (disch:=omega) only [lma,go_sem]<;>first|(simp [Aa,List.map_set,Cp.pv];done)|(simp [Aa,List.map_set,Cp.pv];omega))
  intro k s hk hIk
  obtain ⟨M,hMe,hMl,hH⟩:=(hI _ _).1 hIk
  clear hIk
  have hbkM:=(Cx.1 (hok (A.take k))).1
  rw [<- hMe] at hbkM
  have htM:List.take d.buckets.length (List.map Cp.pv M)=List.map Cp.pv M:=ltl (by rw [llm];omega)
  have hxM:Dv.Small { d with v:=v,buckets:=M }:=⟨hs1,by show M.length<_;omega,hs3,hvl,hs5,hs6⟩
  simp -implicitDefEqProofs (disch:=omega) only [hH,go_sem]
  refine Af (fun hlt=>?_) (fun hge=>?_)
  ·have hm:A[k]?=some A[k]:=lgg hlt
   have htk:=Bi hm
   generalize A[k]=g' at hm htk
   have k0:=Kj { d with v:=v,buckets:=M } g' hxM
   rcases Fx (fun c:Cp=>decide (c.group=g')) M with ⟨e,hno⟩|⟨q,c,e,hmi,hmg,hbe⟩
   ·have hst:BN M g' (fun c=>Bs c r)=M:=KK hno
    simp only [e] at k0
    have hd:decide ((0:Int)<=-1)=false:=rfl
    simp -implicitDefEqProofs (disch:=omega) only [hH,hlt,hm,k0,hd,htM,go_sem]
    try refine ai ?_
    refine (hI _ _).2 ⟨M,?_⟩
    and_intros
    ·exact by rw [htk,lfa,<- hMe];exact hst.symm
    ·exact hMl
    all_goals first|exact cl0|(simp -implicitDefEqProofs (disch:=omega) only [hH,lma,go_sem]<;>first|(simp [Aa,List.map_set,Cp.pv];done)|(simp [Aa,List.map_set,Cp.pv];omega))
   ·have hst:BN M g' (fun c=>Bs c r)=M.set q (Bs c r):=Lw hmi hmg hbe
    simp only [e] at k0
    have hil:=(lgs.1 hmi).1
    rw [hMl] at hil
    have i5:=OU c r (hbkM c (lmg hmi)).2 hsr
    simp -implicitDefEqProofs (disch:=omega) only [hH,hlt,hm,k0,hil,hmi,Cp.pv,i5,htM,go_sem]
    try refine ai ?_
    refine (hI _ _).2 ⟨M.set q (Bs c r),?_⟩
    and_intros
    ·exact by rw [htk,lfa,<- hMe];exact hst.symm
    ·exact by rw [List.length_set];exact hMl
    all_goals first|exact cl0|(simp -implicitDefEqProofs (disch:=omega) only [hH,lma,go_sem]<;>first|(simp [Aa,List.map_set,Cp.pv];done)|(simp [Aa,List.map_set,Cp.pv];omega))
  ·rw [ltl (by omega),<- hSp] at hMe
   have hrl:=E6 hq
   have hfr:=IB h hb hsr
   have hdn:=KA h hb hsr
   have hnw:=h.now
   have hn1:(d.now - 1)*d.speed=d.now*d.speed - d.speed:=by rw [Int.sub_mul,Int.one_mul]
   have hf0:=h.free
   have hfd:max d.free ((d.now - 1)*d.speed)+BF d r=Bm d r:=rfl
   have hdd:max (d.now+1) ((Bm d r+d.speed - 1) / d.speed)=A5 d r:=rfl
   have hqu:(Bm d r+d.speed - 1).tdiv d.speed=(Bm d r+d.speed - 1) / d.speed:=Int.tdiv_eq_ediv_of_nonneg (by omega)
   have hq0:0<=(Bm d r+d.speed - 1) / d.speed:=Int.ediv_nonneg (by omega) (by omega)
   have hq1:(Bm d r+d.speed - 1) / d.speed<=Bm d r+d.speed - 1:=Int.ediv_le_self _ (by omega)
   have hsp0:¬ d.speed=0:=by omega
   have eT:((i:Int)+1).toNat=i+1:=by omega
   have hlq:i+(d.queue.length - (i+1))=(Bw d.queue g).length:=by omega
   have hmq:List.take i (List.map Rq.pv d.queue)++List.take (d.queue.length - (i+1)) (List.drop (i+1) (List.map Rq.pv d.queue))=List.map Rq.pv (Bw d.queue g):=by
    rw [ltl (i:=d.queue.length - (i+1)) (by rw [lld,llm];omega),hrem,lma,List.map_take,List.map_drop]
   have hso:=(Ec.1 h.fl).2.1
   have hse:=Oe hso (A5 d r)
   have htl:=fun k=>H1 (p:=fun f:Fl=>decide (f.done<=A5 d r)) (l:=d.flights) (k:=k)
   have hNl:(d.flights.takeWhile fun f=>decide (f.done<=A5 d r)).length<=d.flights.length:=(List.takeWhile_sublist _).length_le
   have htd:=GB (p:=fun f:Fl=>decide (f.done<=A5 d r)) (l:=d.flights)
   have hin:Cs d.flights ⟨r,A5 d r⟩=d.flights.take (d.flights.takeWhile fun f=>decide (f.done<=A5 d r)).length++⟨r,A5 d r⟩::d.flights.drop (d.flights.takeWhile fun f=>decide (f.done<=A5 d r)).length:=by rw [htd.1,htd.2];rfl
   have hB:(Dn t d g r v).fv=.agg [.p (.int .i64 d.m.rb),.p (.int .i64 d.m.rp),.p (.int .i64 d.m.wb),.p (.int .i64 d.m.wp),.p (.int .i64 d.m.seek),.p (.int .i64 d.speed),.p (.int .i64 d.margin),.p (.int .i64 d.now),.p (.int .i64 (Bm d r)),.p (.int .i64 (r.at_+r.pages)),.fresh 2 (d.weights.map Ch.pv),.fresh 21 (M.map Cp.pv),.fresh 3 (d.depths.map Dp.pv),.fresh 2 (v.map Ch.pv),.fresh 6 ((Bw d.queue g).map Rq.pv),.fresh 7 ((Cs d.flights ⟨r,A5 d r⟩).map Fl.pv)]:=by rw [hMe];rfl
   rw [hB,hin]
   generalize hN:(d.flights.takeWhile fun f=>decide (f.done<=A5 d r)).length=N at hse htl hNl hin ⊢
   simp -implicitDefEqProofs (disch:=omega) only [hH,hge,hil,hfd,hqu,hsp0,hdd,eT,Nat.sub_zero,lld,llm,Nat.min_self,go_sem]
   rw [hlq,hmq]
   obtain ⟨A,hA⟩:=lpI fun k s=>∃ (m:Nat) (v19_0:Nat),m+k=d.flights.length/\s.pe 4=.ptr (.slot 4 0) 0 0/\s.pe 6=.ptr (.slot 6 0) 0 0/\s.pe 19=.ptr (.slot 19 0) v19_0 0/\s.pe 20=.p (.int .i64 (m:Int))/\s.h (.slot 4 0)=some (0,Ob.box [.p (.int .i64 d.m.rb),.p (.int .i64 d.m.rp),.p (.int .i64 d.m.wb),.p (.int .i64 d.m.wp),.p (.int .i64 d.m.seek),.p (.int .i64 d.speed),.p (.int .i64 d.margin),.p (.int .i64 d.now),.p (.int .i64 (Bm d r)),.p (.int .i64 (r.at_+r.pages)),.own (.slot 74 11) 0 0 d.weights.length,.own (.slot 74 12) 0 0 d.buckets.length,.own (.slot 74 13) 0 0 d.depths.length,.own (.slot 67 1) 0 0 v.length,.own (.slot 74 15) 1 0 (Bw d.queue g).length,.own (.slot 74 16) 0 0 d.flights.length])/\s.h (.slot 6 0)=some (0,Ob.box [.p (.int .i64 0),.p (.int .i64 0),.p (.int .i64 0),.p (.int .i64 0),.p (.int .i64 0),.p (.int .i64 0),.p (.int .i64 0),.p (.int .i64 0),.p (.int .i64 0),.p (.int .i64 0),.own (.slot 6 11) 0 0 0,.own (.slot 6 12) 0 0 0,.own (.slot 6 13) 0 0 0,.own (.slot 6 14) 0 0 0,.own (.slot 6 15) 0 0 0,.own (.slot 6 16) 0 0 0])/\s.h (.slot 19 0)=some (v19_0,Ob.box [.p (.int .i64 r.task),.p (.int .i64 r.group),.p (.int .i64 r.at_),.p (.int .i64 r.pages),.p (.bool r.write),.p (.int .i64 r.time),.p (.int .i64 (A5 d r))])/\s.h (.slot 67 1)=some (0,Ob.arr 2 (List.map Ch.pv v))/\s.h (.slot 74 11)=some (0,Ob.arr 2 (List.map Ch.pv d.weights))/\s.h (.slot 74 12)=some (0,Ob.arr 21 (List.map Cp.pv M))/\s.h (.slot 74 13)=some (0,Ob.arr 3 (List.map Dp.pv d.depths))/\s.h (.slot 74 15)=some (1,Ob.arr 6 (List.map Rq.pv (Bw d.queue g)))/\s.h (.slot 74 16)=some (0,Ob.arr 7 (List.map Fl.pv d.flights))
   refine Ak ((d.flights.length - N)) A ?_ ?_
   ·refine (hA _ _).2 ⟨d.flights.length,nv (s.h (.slot 19 0)),?_⟩
    and_intros
    ·exact cl3
    all_goals first|exact cl0|(simp -implicitDefEqProofs (disch:=omega) only [hH,lma,go_sem]<;>first|(simp [Aa,List.map_set,Cp.pv];done)|(simp [Aa,List.map_set,Cp.pv];omega))
   intro k s hk hAk
   obtain ⟨m,v19_0,hmk,hH⟩:=(hA _ _).1 hAk
   clear hAk
   by_cases hkN:k<d.flights.length - N
   ·have hfm:d.flights[m - 1]?=some d.flights[m - 1]:=lgg (by omega)
    have hd:=hse (m - 1) _ (by omega) hfm
    generalize d.flights[m - 1]=f at hfm hd
    have hm0:(0:Int)<m:=by omega
    have hm1:(0:Int)<=(m:Int) - 1:=by omega
    have hm2:((m:Int) - 1).toNat=m - 1:=by omega
    have hm3:m - 1<d.flights.length:=by omega
    simp -implicitDefEqProofs (disch:=omega) only [hH,hm0,hm1,hm2,hm3,hfm,hd,Fl.pv,go_sem]
    try refine ai ?_
    refine (hA _ _).2 ⟨m - 1,v19_0,?_⟩
    and_intros
    ·omega
    all_goals first|exact cl0|(simp -implicitDefEqProofs (disch:=omega) only [hH,lma,go_sem]<;>first|(simp [Aa,List.map_set,Cp.pv];done)|(simp [Aa,List.map_set,Cp.pv];omega))
   ·have hmN:m=N:=by omega
    subst hmN
    have hfin:List.take (m+min (1+(d.flights.length - m)) (d.flights.length - m+1)) (List.take m (List.map Fl.pv d.flights)++List.take (1+(d.flights.length - m)) (Fl.pv ⟨r,A5 d r⟩::List.take (d.flights.length - m) (List.drop m (List.map Fl.pv d.flights))))=List.map Fl.pv (List.take m d.flights++⟨r,A5 d r⟩::List.drop m d.flights):=by
     rw [ltl (i:=d.flights.length - m) (by simp),ltl (i:=1+(d.flights.length - m)) (by simp;omega),ltl (by simp;omega),lma,lpc,List.map_take,List.map_drop]
    simp only [Fl.pv] at hfin
    by_cases hm00:m=0
    ·have hm0:¬ (0:Int)<m:=by omega
     simp -implicitDefEqProofs (disch:=omega) only [hH,hm0,htM,Int.toNat_natCast,Nat.sub_zero,lld,llm,Nat.min_self,go_sem]
     rw [hfin]
    ·obtain ⟨f,hfm,hpf⟩:=htl (m - 1) (by omega)
     have hd:¬ A5 d r<f.done:=by have:=of_decide_eq_true hpf;omega
     have hm0:(0:Int)<m:=by omega
     have hm1:(0:Int)<=(m:Int) - 1:=by omega
     have hm2:((m:Int) - 1).toNat=m - 1:=by omega
     have hm3:m - 1<d.flights.length:=by omega
     simp -implicitDefEqProofs (disch:=omega) only [hH,hm0,hm1,hm2,hm3,hfm,hd,htM,Fl.pv,Int.toNat_natCast,Nat.sub_zero,lld,llm,Nat.min_self,go_sem]
     rw [hfin]
 ·rw [if_neg he]
  simp -implicitDefEqProofs (disch:=omega) only [vf139,L7,i0,hil,hir,i1,i2,i3,hcd,i4,he,go_sem]
theorem Xg {t:Tr} {a:List Ch} {now:Int} {l l':List Int} (h:∀ x,x∈l ↔ x∈l'):AZ t a now 0 l=AZ t a now 0 l':=by
 refine YQ (l:=l) (Lg t a now l) ?_
 have:=Lg t a now l'
 unfold NInv at this ⊢
 simpa only [h] using this
theorem Wj {t:Tr} {d:Dv} (h:DvOk t d) {x:Int}:x∈EO t d ↔ ∃ r,Ba d.queue x=some r/\Do t d r=true:=by
 unfold EO
 simp only [lmm,List.mem_filter,goR,Option.any_eq_true]
 constructor
 ·rintro ⟨n,⟨_,r,h1,h2⟩,rfl⟩
  exact ⟨r,h1,h2⟩
 ·rintro ⟨r,h1,h2⟩
  obtain ⟨hm,hg⟩:=Hl h1
  have hk:=(h.q r hm).2
  rw [hg] at hk
  obtain ⟨n,hn,rfl⟩:=C2 hk
  exact ⟨n,⟨hn,r,h1,h2⟩,rfl⟩
theorem Xf {t:Tr} {d:Dv} (h:DvOk t d):AZ t d.v (d.now*d.speed) 0 (EO t d)=AZ t d.v (d.now*d.speed) 0 (BL (Bb t d [] d.queue)):=by
 refine Xg fun x=>?_
 rw [Wj h,Pb,Kx]
 simp
theorem VA {α:Type} {l:List α} {k:Nat} {x:α} (h:l[k]?=some x):l.drop k=x::l.drop (k+1):=by
 obtain ⟨hl,rfl⟩:=lgs.1 h
 exact ldg hl
theorem V3 (t:Tr) (d:Dv):(EO t d).length<=t.nodes.length:=by
 unfold EO
 rw [llm]
 exact List.length_filter_le _ _
theorem Yv (t:Tr) (a:List Ch) (list:List Int) (now:Int) (hn:t.nodes.length<1000000) (ha:a.length<1000000) (hl:list.length<1000000):V 21 [t.vv,.p (As a),.p (AT list),.p (.int .i64 now)] []=some (.tup [.p (.int .i64 (AZ t a now 0 list)),.p (.bool (!decide (AZ t a now 0 list=0)))],[]):=by
 refine Ad (vf:=vf21) rfl ?_
 simp -implicitDefEqProofs (disch:=omega) only [vf21,SN,go_sem]
 obtain ⟨I,hI⟩:=lpI fun k s=>∃ (best:Int),AZ t a now 0 list=AZ t a now best (list.drop k)/\s.pe 1=.p (As a)/\s.pe 2=.p (AT list)/\s.pe 3=.p (.int .i64 now)/\s.pe 4=.ptr (.slot 4 0) 0 0/\s.pe 10=.p (.int .i64 best)/\s.pe 11=.p (.bool (!decide (best=0)))/\s.pe 12=.p (.int .i64 k)/\s.h (.slot 4 0)=some (0,Ob.box [.p (Ao t.nodes),.p (.int .i64 t.next)])
 refine Ak (list.length) I ?_ ?_
 ·refine (hI _ _).2 ⟨0,?_⟩
  and_intros
  ·exact cl3
  all_goals first|exact cl0|(simp -implicitDefEqProofs (disch:=omega) only [lma,go_sem]<;>first|(simp [Aa];done)|(simp [Aa];omega))
 intro k s hk hIk
 obtain ⟨best,hN,hH⟩:=(hI _ _).1 hIk
 clear hIk
 simp -implicitDefEqProofs (disch:=omega) only [hH,go_sem]
 refine Af (fun hlt=>?_) (fun hge=>?_)
 ·have hm:list[k]?=some list[k]:=lgg hlt
  rw [ldg hlt,AZ] at hN
  generalize list[k]=x at hm hN
  have d1:=Qt t a x now hn ha
  have d2:=I6 a x ha
  have d3:=I6 a best ha
  cases hmay:CC t a x now with
  | false =>
   rw [hmay] at d1
   rw [if_neg (by rw [hmay];exact fun h=>absurd h.1 (by decide))] at hN
   simp -implicitDefEqProofs (disch:=omega) only [hH,hlt,hm,d1,go_sem]
   try refine ai ?_
   refine (hI _ _).2 ⟨best,?_⟩
   and_intros
   ·exact hN
   all_goals first|exact cl0|(simp -implicitDefEqProofs (disch:=omega) only [hH,lma,go_sem]<;>first|(simp [Aa];done)|(simp [Aa];omega))
  | true =>
   rw [hmay] at d1
   have hx0:=QG hmay
   by_cases hb:best=0 \/ Am a x<Am a best \/ (Am a x=Am a best/\x<best)
   ·rw [if_pos ⟨hmay,hb⟩] at hN
    generalize Am a x=p at d2 hb
    generalize Am a best=q at d3 hb
    by_cases b1:best=0
    ·subst b1
     simp -implicitDefEqProofs (disch:=omega) only [hH,hlt,hm,d1,d2,d3,decide_true,go_sem]
     try refine ai ?_
     refine (hI _ _).2 ⟨x,?_⟩
     and_intros
     ·exact hN
     all_goals first|exact cl0|(simp -implicitDefEqProofs (disch:=omega) only [hH,lma,go_sem]<;>first|(simp [Aa];done)|(simp [Aa];omega))
    ·by_cases b2:p<q
     ·simp -implicitDefEqProofs (disch:=omega) only [hH,hlt,hm,d1,d2,d3,b1,b2,go_sem]
      try refine ai ?_
      refine (hI _ _).2 ⟨x,?_⟩
      and_intros
      .exact hN
      all_goals first|exact cl0|(simp -implicitDefEqProofs (disch:=omega) only [hH,lma,go_sem]<;>first|(simp [Aa];done)|(simp [Aa];omega))
     ·have b3:p=q:=by omega
      have b4:x<best:=by omega
      simp -implicitDefEqProofs (disch:=omega) only [hH,hlt,hm,d1,d2,d3,b1,b2,b3,b4,Int.lt_irrefl,go_sem]
      try refine ai ?_
      refine (hI _ _).2 ⟨x,?_⟩
      and_intros
      .exact hN
      all_goals first|exact cl0|(simp -implicitDefEqProofs (disch:=omega) only [hH,lma,go_sem]<;>first|(simp [Aa];done)|(simp [Aa];omega))
   ·rw [if_neg (fun h=>hb h.2)] at hN
    generalize Am a x=p at d2 hb
    generalize Am a best=q at d3 hb
    have b1:¬ best=0:=by omega
    have b2:¬ p<q:=by omega
    by_cases b3:p=q
    ·have b4:¬ x<best:=by omega
     simp -implicitDefEqProofs (disch:=omega) only [hH,hlt,hm,d1,d2,d3,b1,b3,b4,Int.lt_irrefl,go_sem]
     try refine ai ?_
     refine (hI _ _).2 ⟨best,?_⟩
     and_intros
     .exact hN
     all_goals first|exact cl0|(simp -implicitDefEqProofs (disch:=omega) only [hH,lma,go_sem]<;>first|(simp [Aa];done)|(simp [Aa];omega))
    ·simp -implicitDefEqProofs (disch:=omega) only [hH,hlt,hm,d1,d2,d3,b1,b2,b3,go_sem]
     try refine ai ?_
     refine (hI _ _).2 ⟨best,?_⟩
     and_intros
     .exact hN
     all_goals first|exact cl0|(simp -implicitDefEqProofs (disch:=omega) only [hH,lma,go_sem]<;>first|(simp [Aa];done)|(simp [Aa];omega))
 ·rw [List.drop_eq_nil_of_le (by omega),AZ] at hN
  rw [hN]
  simp -implicitDefEqProofs (disch:=omega) only [hH,hge,go_sem]
theorem Pr {α:Type} {p:α->Bool} {l:List α} {k:Nat} {m:α} (hm:l[k]?=some m):((l.take (k+1)).filter p).length=((l.take k).filter p).length+if p m=true then 1 else 0:=by
 rw [Bi hm,List.filter_append,lla]
 by_cases h:p m=true
 .rw [if_pos h,List.filter_cons_of_pos h];rfl
 .rw [if_neg h,List.filter_cons_of_neg h];rfl
theorem QM {α:Type} (p:α->Bool) (l:List α) (k:Nat):((l.take k).filter p).length<=l.length:=by
 have:=List.length_filter_le p (l.take k)
 rw [llt] at this
 omega
def pendD (d:Dv) (task:Int):Nat:=(d.queue.filter fun r=>decide (r.task=task)).length+(d.flights.filter fun f=>decide (f.r.task=task)).length
theorem V5 (d:Dv) (task:Int) (hq:d.queue.length<1000000) (hf:d.flights.length<1000000):V 41 [d.vv,.p (.int .i64 task)] []=some (.p (.int .i64 (pendD d task:Nat)),[]):=by
 refine Ad (vf:=vf41) rfl ?_
 simp -implicitDefEqProofs (disch:=omega) only [vf41,SD,llm,go_sem]
 obtain ⟨I,hI⟩:=lpI fun k s=>s.pe 1=.p (.int .i64 task)/\s.pe 2=.ptr (.slot 2 0) 0 0/\s.pe 5=.p (.int .i64 (((d.queue.take k).filter fun r=>decide (r.task=task)).length:Nat))/\s.pe 11=.p (C0 d.queue)/\s.pe 12=.p (.int .i64 ↑d.queue.length)/\s.pe 13=.p (.int .i64 k)/\s.h (.slot 2 0)=some (0,Ob.box (dvC d))
 refine Ak (d.queue.length) I ?_ ?_
 ·refine (hI _ _).2 ?_
  and_intros
  all_goals first|exact cl0|(simp -implicitDefEqProofs (disch:=omega) only [h1,h2,h3,h4,h10,h11,h12,hh4_0,lma,go_sem]<;>first|(simp [Aa];done)|(simp [Aa];omega))
 intro k s hk hIk
 obtain ⟨h1,h2,h5,h11,h12,hH⟩:=(hI _ _).1 hIk
 clear hIk
 simp -implicitDefEqProofs (disch:=omega) only [h1,h2,h5,h11,h12,hH,go_sem]
 refine Af (fun hlt=>?_) (fun hge=>?_)
 ·have hm:d.queue[k]?=some d.queue[k]:=lgg hlt
  have hst:=Pr (p:=fun r:Rq=>decide (r.task=task)) hm
  have hle:=QM (fun r:Rq=>decide (r.task=task)) d.queue k
  generalize d.queue[k]=r at hm hst
  generalize ((d.queue.take k).filter fun r=>decide (r.task=task)).length=c at h5 hst hle
  by_cases hr:r.task=task
  ·rw [if_pos (decide_eq_true hr)] at hst
   simp -implicitDefEqProofs (disch:=omega) only [h1,h2,h5,h11,h12,hH,hlt,hm,hr,go_sem]
   try refine ai ?_
   refine (hI _ _).2 ?_
   and_intros
   all_goals first|exact cl0|(simp -implicitDefEqProofs (disch:=omega) only [h1,h2,h5,h11,h12,hH,hst,lma,go_sem]<;>first|(simp [Aa];done)|(simp [Aa];omega))
  ·rw [if_neg (by simpa using hr)] at hst
   simp -implicitDefEqProofs (disch:=omega) only [h1,h2,h5,h11,h12,hH,hlt,hm,hr,go_sem]
   try refine ai ?_
   refine (hI _ _).2 ?_
   and_intros
   all_goals first|exact cl0|(simp -implicitDefEqProofs (disch:=omega) only [h1,h2,h5,h11,h12,hH,hst,lma,go_sem]<;>first|(simp [Aa];done)|(simp [Aa];omega))
 ·rw [ltl (by omega)] at h5
  have hqf:=List.length_filter_le (fun r:Rq=>decide (r.task=task)) d.queue
  have hP:pendD d task=(d.queue.filter fun r=>decide (r.task=task)).length+(d.flights.filter fun f=>decide (f.r.task=task)).length:=rfl
  rw [hP]
  generalize (d.queue.filter fun r=>decide (r.task=task)).length=Q at h5 hqf
  simp -implicitDefEqProofs (disch:=omega) only [h1,h2,h5,h11,h12,hH,hge,go_sem]
  obtain ⟨J,hJ⟩:=lpI fun j s=>s.pe 1=.p (.int .i64 task)/\s.pe 2=.ptr (.slot 2 0) 0 0/\s.pe 5=.p (.int .i64 ((Q+((d.flights.take j).filter fun f=>decide (f.r.task=task)).length:Nat):Int))/\s.pe 25=.p (H8 d.flights)/\s.pe 26=.p (.int .i64 ↑d.flights.length)/\s.pe 27=.p (.int .i64 j)
  refine Ak (d.flights.length) J ?_ ?_
  ·refine (hJ _ _).2 ?_
   and_intros
   all_goals first|exact cl0|(simp -implicitDefEqProofs (disch:=omega) only [h1,h2,h5,h11,h12,hH,lma,go_sem]<;>first|(simp [Aa];done)|(simp [Aa];omega))
  intro j s hj hJk
  obtain ⟨h1,h2,h5,hH⟩:=(hJ _ _).1 hJk
  clear hJk
  simp -implicitDefEqProofs (disch:=omega) only [h1,h2,h5,hH,go_sem]
  refine Af (fun hjl=>?_) (fun hjg=>?_)
  ·have hm:d.flights[j]?=some d.flights[j]:=lgg hjl
   have hst:=Pr (p:=fun f:Fl=>decide (f.r.task=task)) hm
   have hle:=QM (fun f:Fl=>decide (f.r.task=task)) d.flights j
   generalize d.flights[j]=r at hm hst
   generalize ((d.flights.take j).filter fun f=>decide (f.r.task=task)).length=c at h5 hst hle
   by_cases hr:r.r.task=task
   ·rw [if_pos (decide_eq_true hr)] at hst
    simp -implicitDefEqProofs (disch:=omega) only [h1,h2,h5,hH,hjl,hm,hr,go_sem]
    try refine ai ?_
    refine (hJ _ _).2 ?_
    and_intros
    all_goals first|exact cl0|(simp -implicitDefEqProofs (disch:=omega) only [h1,h2,h5,hH,hst,lma,go_sem]<;>first|(simp [Aa];done)|(simp [Aa];omega))
   ·rw [if_neg (by simpa using hr)] at hst
    simp -implicitDefEqProofs (disch:=omega) only [h1,h2,h5,hH,hjl,hm,hr,go_sem]
    try refine ai ?_
    refine (hJ _ _).2 ?_
    and_intros
    all_goals first|exact cl0|(simp -implicitDefEqProofs (disch:=omega) only [h1,h2,h5,hH,hst,lma,go_sem]<;>first|(simp [Aa];done)|(simp [Aa];omega))
  ·rw [ltl (by omega)] at h5
   simp -implicitDefEqProofs (disch:=omega) only [h1,h2,h5,hH,hjg,go_sem]
theorem P3 {t:Tr} {k:Nat} {d:Dv} {l:List Int} {g:Int} {r:Rq} {v:List Ch} (h1:¬ d.now*d.speed<=d.free) (h2:BL (Bb t d [] d.queue)=l) (h3:AZ t d.v (d.now*d.speed) 0 l=g) (h4:g ≠ 0) (h5:Ba d.queue g=some r)
  (h6:B7 t d.v g (Cj t d g) (BF d r) (d.now*d.speed) d.margin=(v,0)):Cn t (k+1) d=Cn t k (Dn t d g r v):=by
 rw [Cn,if_neg h1]
 simp only [h2,h3]
 rw [if_neg h4]
 simp only [h5,h6]
 rw [if_neg (by simp)]
theorem IA {t:Tr} {k:Nat} {d:Dv} (h:d.now*d.speed<=d.free):Cn t (k+1) d=d:=by rw [Cn,if_pos h]
theorem O9 (x:Int):BL [x]=[x]:=List.mergeSort_of_pairwise (by simp)
abbrev prT:Tr:=⟨[⟨1,0,⟨#[]⟩,0,0,0⟩,⟨2,1,⟨#[97]⟩,0,0,0⟩],3⟩
abbrev rA:Rq:=⟨0,2,0,3,false,0⟩
abbrev rB:Rq:=⟨0,2,3,1,false,0⟩
abbrev mdS:Mdl:=⟨0,10,0,10,0⟩
def sD:Nat->Dv
 | 0=>⟨mdS,10,0,0,0,0,[],[],[],[],[rA,rB],[]⟩
 | 1=>⟨mdS,10,0,1,30,3,[],[],[],[⟨2,40⟩],[rB],[⟨rA,3⟩]⟩
 | 2=>⟨mdS,10,0,2,30,3,[],[],[],[⟨2,40⟩],[rB],[⟨rA,3⟩]⟩
 | 3=>⟨mdS,10,0,3,30,3,[],[],[],[⟨2,40⟩],[rB],[]⟩
 | _=>⟨mdS,10,0,4,40,4,[],[],[],[⟨2,50⟩],[],[⟨rB,5⟩]⟩
theorem RY (k:Nat) (hk:k<=4):DvOk prT (sD k):=by
 have h:k=0 \/ k=1 \/ k=2 \/ k=3 \/ k=4:=by omega
 rcases h with rfl|rfl|rfl|rfl|rfl<;>exact dvOk_iff.1 (by rfl)
theorem PJ (k:Nat) (hk:k<=4):(sD k).Small:=E7 (RY k hk)
theorem Yo:BB prT (sD 0)=sD 1:=by
 unfold BB
 have e:(sD 0).queue.length+1=2+1:=rfl
 rw [e,P3 (l:=[2]) (g:=2) (r:=rA) (v:=[⟨2,40⟩]) (by decide) (by rw [show Bb prT (Bp (sD 0)) [] (Bp (sD 0)).queue=[2] from rfl,O9]) rfl (by decide) rfl rfl,show (2:Nat)=1+1 from rfl,IA (by decide)]
 rfl
theorem Yn:BB prT (sD 1)=sD 2:=by
 unfold BB
 rw [IA (by decide)]
 rfl
theorem Ym:BB prT (sD 2)=sD 3:=by
 unfold BB
 rw [IA (by decide)]
 rfl
theorem Yl:BB prT (sD 3)=sD 4:=by
 unfold BB
 have e:(sD 3).queue.length+1=1+1:=rfl
 rw [e,P3 (l:=[2]) (g:=2) (r:=rB) (v:=[⟨2,50⟩]) (by decide) (by rw [show Bb prT (Bp (sD 3)) [] (Bp (sD 3)).queue=[2] from rfl,O9]) rfl (by decide) rfl rfl,show (1:Nat)=0+1 from rfl,IA (by decide)]
 rfl
theorem Z0 (k:Nat) (hk:k<4):BB prT (sD k)=sD (k+1):=by
 have h:k=0 \/ k=1 \/ k=2 \/ k=3:=by omega
 rcases h with rfl|rfl|rfl|rfl
 .exact Yo
 .exact Yn
 .exact Ym
 .exact Yl
theorem Xa:V 33 [] []=some (prT.fv,[]):=by
 refine Ad (vf:=vf33) rfl ?_
 simp -implicitDefEqProofs (disch:=omega) only [vf33,SG,go_sem]
 rfl
def eD:Nat->List Fl
 | 0|1|2=>[]
 | _=>[⟨rA,3⟩]
theorem OS:V 11 [] []=some (.p (.bool true),[]):=by
 refine Ad (vf:=vf11) rfl ?_
 have c0:=Xa
 have c1:=QN mdS 10 0 (by rfl)
 have ok0:DvOk prT (D5 mdS 10 0):=dvOk_iff.1 (by rfl)
 have ok1:DvOk prT (D4 (D5 mdS 10 0) rA):=dvOk_iff.1 (by rfl)
 have c2:=OQ prT (D5 mdS 10 0) rA ok0 (E7 ok0) (by rfl) (by rfl) (by decide)
 have c3:=OQ prT (D4 (D5 mdS 10 0) rA) rB ok1 (E7 ok1) (by rfl) (by rfl) (by decide)
 simp only [prT,Tr.vv,Tr.fv,Ao,lpc,lpn,Nd.pv,dvF,D5,D4,DG,Dv.vv,Rq.vv,As,G8,BG,C0,H8,lna,lca,Rq.pv] at c0 c1 c2 c3
 simp -implicitDefEqProofs (disch:=omega) only [vf11,SU,c0,c1,c2,c3,go_sem]
 have ht:∀ k,k<4->V 19 [prT.vv,(sD k).vv] []=some (.tup [dvF (sD (k+1)) (.p (As (sD (k+1)).v)),.fresh 7 ((CV (sD k)).map Fl.pv),.p (.int .i64 0)],[]):=fun k hk=>by
  have:=ZT (RY k (by omega)) (PJ k (by omega)) (by
   have h:k=0 \/ k=1 \/ k=2 \/ k=3:=by omega
   rcases h with rfl|rfl|rfl|rfl<;>decide)
  rw [Z0 k hk] at this
  exact this
 have hfr:(sD 1).free=30:=rfl
 have hq3:(sD 3).queue.length=1:=rfl
 have hq4:(sD 4).queue.length=0:=rfl
 have he:∀ k,k<4->eD k++CV (sD k)=eD (k+1)/\(k<2->(CV (sD k)).length=0)/\(CV (sD k)).length<=1/\(eD k).length<=1:=fun k hk=>by
  have h:k=0 \/ k=1 \/ k=2 \/ k=3:=by omega
  rcases h with rfl|rfl|rfl|rfl<;>exact ⟨rfl,by decide,by decide,by decide⟩
 have hp:=V5 (sD 4) 0 (by decide) (by decide)
 rw [show pendD (sD 4) 0=1 from rfl] at hp
 have hsm:=fun k hk=>PJ k hk
 obtain ⟨I,hI⟩:=lpI fun k s=>∃ (w:Nat) (acc:List Fl),acc=eD k/\s.pe 1=.ptr (.slot 1 0) 0 0/\s.pe 2=.ptr (.slot 2 0) 0 0/\s.pe 3=.p (.int .i64 0)/\s.pe 4=.p (.int .i64 0)/\s.pe 5=.p (.int .i64 0)/\s.pe 6=.own (.slot 6 0) w 0 acc.length/\s.pe 7=.p (.int .i64 k)/\s.h (.slot 1 0)=some (0,Ob.box [.p (Ao prT.nodes),.p (.int .i64 prT.next)])/\s.h (.slot 6 0)=some (w,Ob.arr 7 (acc.map Fl.pv))/\∃ X,s.h (.slot 2 0)=some (0,Ob.box X)/\X.map (fz0 [8,29,39] s.h)=dvC (sD k)
 refine Ak (4) I ?_ ?_
 ·refine (hI _ _).2 ⟨0,[],?_⟩
  and_intros
  ·rfl
  all_goals first|exact cl0|(simp -implicitDefEqProofs (disch:=omega) only [lma,go_sem]<;>first|(simp [Aa];done)|(simp [Aa];omega))|(simp -implicitDefEqProofs (disch:=omega) only [lma,go_sem]<;>(refine ⟨_,rfl,?_⟩;first|rfl|(simp -implicitDefEqProofs (disch:=omega) only [lma,go_sem];done)|(simp -implicitDefEqProofs (disch:=omega) only [lma,go_sem];rfl)))
 intro k s hk hIk
 obtain ⟨w,acc,hacc,h1,h2,h3,h4,h5,h6,h7,hh1_0,hh6_0,hX⟩:=(hI _ _).1 hIk
 clear hIk
 clear c0 c1 c2 c3 ok0 ok1
 have l1:decide ((0:Int)<2)=true:=rfl
 have l2:decide ((0:Int)<((0:Nat):Int))=false:=rfl
 have l3:decide ((2:Int)=0)=false:=rfl
 have l4:decide ((3:Int)=0)=false:=rfl
 have l5:decide ((3:Int)=2)=false:=rfl
 have l6:decide ((3:Int)<2)=false:=rfl
 have l7:decide (((1:Nat):Int)=1)=true:=rfl
 have l10:decide ((0:Int)=2)=false:=rfl
 have l11:decide ((0:Int)=3)=false:=rfl
 have l12:decide ((2:Int)=3)=false:=rfl
 have l9:∀ x:PV,([x]:List PV)[Int.toNat 0]?=some x:=fun _=>rfl
 have l8:decide (((0:Nat):Int)=0)=true:=rfl
 obtain ⟨T,hT⟩:∃ T,T=prT:=⟨_,rfl⟩
 rw [<- hT] at ht hh1_0 hI
 generalize sD=D at *
 obtain ⟨X,hh2,hX⟩:=hX
 simp -implicitDefEqProofs (disch:=omega) only [h1,h2,h3,h4,h5,h6,h7,hh1_0,hh6_0,hX,hh2,go_sem]
 refine Af (fun hlt=>?_) (fun hge=>?_)
 ·have hk4:k<4:=by omega
  have htk:=ht k hk4
  obtain ⟨he1,he2,hel,hal⟩:=he k hk4
  have hf1:k=0->decide ((D (k+1)).free=30)=true:=fun h=>by subst h;exact decide_eq_true hfr
  have hq1:k=2->decide (((D (k+1)).queue.length:Int)=1)=true:=fun h=>by subst h;rw [hq3];rfl
  have hq2:k=3->decide (((D (k+1)).queue.length:Int)=0)=true:=fun h=>by subst h;rw [hq4];rfl
  rw [<- hacc] at he1 hal
  generalize CV (D k)=e at htk he1 he2 hel
  generalize hy:D (k+1)=y at htk hf1 hq1 hq2
  have h:k=0 \/ k=1 \/ k=2 \/ k=3:=by omega
  rcases h with hk0|hk0|hk0|hk0
  ·have a1:=hf1 hk0
   have a2:decide ((0:Int)<(e.length:Int))=false:=decide_eq_false (by have:=he2 (by omega);omega)
   have b1:(k:Int)<2:=by omega
   have b2:(k:Int)=0:=by omega
   have b3:¬ (k:Int)=2:=by omega
   have b4:¬ (k:Int)=3:=by omega
   simp -implicitDefEqProofs (disch:=omega) only [h1,h2,h3,h4,h5,h6,h7,hh1_0,hh6_0,hX,hh2,hlt,htk,a1,a2,b1,b2,b3,b4,llm,Int.lt_irrefl,l1,l2,l3,l4,l5,l6,l7,l8,l10,l11,l12,go_sem]
   try refine ai ?_
   refine (hI _ _).2 ⟨w+1,acc++e,?_⟩
   and_intros
   .exact he1
   all_goals first|exact cl0|(simp -implicitDefEqProofs (disch:=omega) only [h1,h2,h3,h4,h5,h6,h7,hh1_0,hh6_0,hX,hy,lma,go_sem]<;>first|(simp [Aa];done)|(simp [Aa];omega))|(simp -implicitDefEqProofs (disch:=omega) only [h1,h2,h3,h4,h5,h6,h7,hh1_0,hh6_0,hX,hy,lma,go_sem]<;>(refine ⟨_,rfl,?_⟩;first|rfl|(simp -implicitDefEqProofs (disch:=omega) only [h1,h2,h3,h4,h5,h6,h7,hh1_0,hh6_0,hX,hy,lma,go_sem];done)|(simp -implicitDefEqProofs (disch:=omega) only [h1,h2,h3,h4,h5,h6,h7,hh1_0,hh6_0,hX,hy,lma,go_sem];rfl)))
  ·have a2:decide ((0:Int)<(e.length:Int))=false:=decide_eq_false (by have:=he2 (by omega);omega)
   have b1:(k:Int)<2:=by omega
   have b2:¬ (k:Int)=0:=by omega
   have b3:¬ (k:Int)=2:=by omega
   have b4:¬ (k:Int)=3:=by omega
   simp -implicitDefEqProofs (disch:=omega) only [h1,h2,h3,h4,h5,h6,h7,hh1_0,hh6_0,hX,hh2,hlt,htk,a2,b1,b2,b3,b4,llm,Int.lt_irrefl,l1,l2,l3,l4,l5,l6,l7,l8,l10,l11,l12,go_sem]
   try refine ai ?_
   refine (hI _ _).2 ⟨w+1,acc++e,?_⟩
   and_intros
   .exact he1
   all_goals first|exact cl0|(simp -implicitDefEqProofs (disch:=omega) only [h1,h2,h3,h4,h5,h6,h7,hh1_0,hh6_0,hX,hy,lma,go_sem]<;>first|(simp [Aa];done)|(simp [Aa];omega))|(simp -implicitDefEqProofs (disch:=omega) only [h1,h2,h3,h4,h5,h6,h7,hh1_0,hh6_0,hX,hy,lma,go_sem]<;>(refine ⟨_,rfl,?_⟩;first|rfl|(simp -implicitDefEqProofs (disch:=omega) only [h1,h2,h3,h4,h5,h6,h7,hh1_0,hh6_0,hX,hy,lma,go_sem];done)|(simp -implicitDefEqProofs (disch:=omega) only [h1,h2,h3,h4,h5,h6,h7,hh1_0,hh6_0,hX,hy,lma,go_sem];rfl)))
  ·have a1:=hq1 hk0
   have b1:¬ (k:Int)<2:=by omega
   have b2:¬ (k:Int)=0:=by omega
   have b3:(k:Int)=2:=by omega
   have b4:¬ (k:Int)=3:=by omega
   simp -implicitDefEqProofs (disch:=omega) only [h1,h2,h3,h4,h5,h6,h7,hh1_0,hh6_0,hX,hh2,hlt,htk,a1,b1,b2,b3,b4,llm,lpn,lln,Int.lt_irrefl,l1,l2,l3,l4,l5,l6,l7,l8,l10,l11,l12,go_sem]
   try refine ai ?_
   refine (hI _ _).2 ⟨w+1,acc++e,?_⟩
   and_intros
   .exact he1
   all_goals first|exact cl0|(simp -implicitDefEqProofs (disch:=omega) only [h1,h2,h3,h4,h5,h6,h7,hh1_0,hh6_0,hX,hy,lma,go_sem]<;>first|(simp [Aa];done)|(simp [Aa];omega))|(simp -implicitDefEqProofs (disch:=omega) only [h1,h2,h3,h4,h5,h6,h7,hh1_0,hh6_0,hX,hy,lma,go_sem]<;>(refine ⟨_,rfl,?_⟩;first|rfl|(simp -implicitDefEqProofs (disch:=omega) only [h1,h2,h3,h4,h5,h6,h7,hh1_0,hh6_0,hX,hy,lma,go_sem];done)|(simp -implicitDefEqProofs (disch:=omega) only [h1,h2,h3,h4,h5,h6,h7,hh1_0,hh6_0,hX,hy,lma,go_sem];rfl)))
  ·have a1:=hq2 hk0
   have b1:¬ (k:Int)<2:=by omega
   have b2:¬ (k:Int)=0:=by omega
   have b3:¬ (k:Int)=2:=by omega
   have b4:(k:Int)=3:=by omega
   simp -implicitDefEqProofs (disch:=omega) only [h1,h2,h3,h4,h5,h6,h7,hh1_0,hh6_0,hX,hh2,hlt,htk,a1,b1,b2,b3,b4,llm,lpn,lln,Int.lt_irrefl,l1,l2,l3,l4,l5,l6,l7,l8,l10,l11,l12,go_sem]
   try refine ai ?_
   refine (hI _ _).2 ⟨w+1,acc++e,?_⟩
   and_intros
   .exact he1
   all_goals first|exact cl0|(simp -implicitDefEqProofs (disch:=omega) only [h1,h2,h3,h4,h5,h6,h7,hh1_0,hh6_0,hX,hy,lma,go_sem]<;>first|(simp [Aa];done)|(simp [Aa];omega))|(simp -implicitDefEqProofs (disch:=omega) only [h1,h2,h3,h4,h5,h6,h7,hh1_0,hh6_0,hX,hy,lma,go_sem]<;>(refine ⟨_,rfl,?_⟩;first|rfl|(simp -implicitDefEqProofs (disch:=omega) only [h1,h2,h3,h4,h5,h6,h7,hh1_0,hh6_0,hX,hy,lma,go_sem];done)|(simp -implicitDefEqProofs (disch:=omega) only [h1,h2,h3,h4,h5,h6,h7,hh1_0,hh6_0,hX,hy,lma,go_sem];rfl)))
 ·have hk:k=4:=by omega
  subst hk
  have ha:acc=[⟨rA,3⟩]:=hacc
  subst ha
  simp -implicitDefEqProofs (disch:=omega) only [h1,h2,h3,h4,h5,h6,h7,hh1_0,hh6_0,hX,hh2,hX,hge,hp,l7,l9,go_sem]
theorem Yp {t:Tr} {d:Dv} (h:DvOk t d) (hs:d.Small) (hnow:d.now<1048576):V 60 [t.vv,d.vv] []=some (.tup [(BB t d).vv,.fresh 7 ((CV d).map Fl.pv),.p (.int .i64 0)],[]):=by
 refine Ad (vf:=vf60) rfl ?_
 have hlen:=h.tree.len
 have hq:=h.len
 have hn:=h.now
 have hbk:=(Cx.1 h.bk).1
 have hbl:=hs.b
 have i0:=HJ h hs
 have i1:=Gn d hs hs.q hs.f
 have hne:¬ d.now=1048576:=by omega
 have ha:=LO h hnow
 have hbr:=Fz ha
 simp -implicitDefEqProofs (disch:=omega) only [vf60,Sq,i0,i1,hne,go_sem]
 obtain ⟨I,hI⟩:=lpI fun k s=>∃ (M:List Cp),M=(d.buckets.take k).map (DH (d.now+1))++d.buckets.drop k/\M.length=d.buckets.length/\s.pe 2=.ptr (.slot 2 0) 0 0/\s.pe 3=.ptr (.slot 3 0) 0 0/\s.pe 4=.ptr (.slot 4 0) 0 0/\s.pe 7=.p (.int .i64 k)/\s.h (.slot 2 0)=some (0,Ob.box [.p (Ao t.nodes),.p (.int .i64 t.next)])/\s.h (.slot 3 0)=some (0,Ob.box [.p (.int .i64 d.m.rb),.p (.int .i64 d.m.rp),.p (.int .i64 d.m.wb),.p (.int .i64 d.m.wp),.p (.int .i64 d.m.seek),.p (.int .i64 d.speed),.p (.int .i64 d.margin),.p (.int .i64 (d.now+1)),.p (.int .i64 d.free),.p (.int .i64 d.head),.own (.slot 25 11) 0 0 d.weights.length,.own (.slot 25 12) 0 0 d.buckets.length,.own (.slot 25 13) 0 0 d.depths.length,.own (.slot 25 14) 0 0 d.v.length,.own (.slot 25 15) 0 0 d.queue.length,.own (.slot 25 16) 0 0 d.flights.length])/\s.h (.slot 4 0)=some (0,Ob.box [.p (.int .i64 0),.p (.int .i64 0),.p (.int .i64 0),.p (.int .i64 0),.p (.int .i64 0),.p (.int .i64 0),.p (.int .i64 0),.p (.int .i64 0),.p (.int .i64 0),.p (.int .i64 0),.own (.slot 4 11) 0 0 0,.own (.slot 4 12) 0 0 0,.own (.slot 4 13) 0 0 0,.own (.slot 4 14) 0 0 0,.own (.slot 4 15) 0 0 0,.own (.slot 4 16) 0 0 0])/\s.h (.slot 25 11)=some (0,Ob.arr 2 (List.map Ch.pv d.weights))/\s.h (.slot 25 12)=some (0,Ob.arr 21 (M.map Cp.pv))/\s.h (.slot 25 13)=some (0,Ob.arr 3 (List.map Dp.pv d.depths))/\s.h (.slot 25 14)=some (0,Ob.arr 2 (List.map Ch.pv d.v))/\s.h (.slot 25 15)=some (0,Ob.arr 6 (List.map Rq.pv d.queue))/\s.h (.slot 25 16)=some (0,Ob.arr 7 (List.map Fl.pv d.flights))
 refine Ak (d.buckets.length) I ?_ ?_
 ·refine (hI _ _).2 ⟨d.buckets,?_⟩
  and_intros
  ·exact cl3
  ·exact cl3
  all_goals first|exact cl0|(simp -implicitDefEqProofs (disch:=omega) only [lma,go_sem]<;>first|(simp [Aa,List.map_set,Cp.pv];done)|(simp [Aa,List.map_set,Cp.pv];omega))
 intro k s hk hIk
 obtain ⟨M,hM,hMl,h2,h3,h4,h7,hh2_0,hh3_0,hh4_0,hH⟩:=(hI _ _).1 hIk
 clear hIk
 simp -implicitDefEqProofs (disch:=omega) only [h2,h3,h4,h7,hh2_0,hh3_0,hh4_0,hH,go_sem]
 refine Af (fun hlt=>?_) (fun hge=>?_)
 ·have hm:d.buckets[k]?=some d.buckets[k]:=lgg hlt
  rw [List.drop_eq_getElem_cons hlt] at hM
  have htk:=Bi hm
  generalize d.buckets[k]=c at hm hM htk
  have hcb:=(hbk c (lmg hm)).2
  have hlk:((d.buckets.take k).map (DH (d.now+1))).length=k:=by rw [llm,llt];omega
  have hmid:M[k]?=some c:=by rw [hM];exact HV hlk
  have hset:∀ y,M.set k y=(d.buckets.take k).map (DH (d.now+1))++y::d.buckets.drop (k+1):=fun y=>by rw [hM];exact HO hlk
  have i2:=HP c
  have m4:=fun (j:Nat) (hj:j<4)=>MF hcb hj
  have i3:=IU c.group (AD c.rp (d.now+1)) (AD c.wp (d.now+1)) (AD c.ro (d.now+1)) (AD c.wo (d.now+1))
  rw [show (Cp.mk c.group (AD c.rp (d.now+1)) (AD c.wp (d.now+1)) (AD c.ro (d.now+1)) (AD c.wo (d.now+1)))=DH (d.now+1) c from rfl,show F4 [AD c.rp (d.now+1),AD c.wp (d.now+1),AD c.ro (d.now+1),AD c.wo (d.now+1)]=F4 (([c.rp,c.wp,c.ro,c.wo]:List Bk).map fun b=>AD b (d.now+1)) from rfl] at i3
  generalize hB0:([c.rp,c.wp,c.ro,c.wo]:List Bk)=B0 at i2 i3 m4
  have hB4:B0.length=4:=by rw [<- hB0];rfl
  simp -implicitDefEqProofs (disch:=omega) only [h2,h3,h4,h7,hh2_0,hh3_0,hh4_0,hH,hlt,hMl,hmid,Cp.pv,i2,go_sem]
  obtain ⟨J,hJ⟩:=lpI fun j s=>∃ (B:List Bk) (v42_1:Nat),B=((B0.take j).map fun b=>AD b (d.now+1))++B0.drop j/\B.length=4/\s.pe 2=.ptr (.slot 2 0) 0 0/\s.pe 3=.ptr (.slot 3 0) 0 0/\s.pe 4=.ptr (.slot 4 0) 0 0/\s.pe 7=.p (.int .i64 ↑k)/\s.pe 8=.own (.slot 42 1) v42_1 0 B.length/\s.pe 9=.p (.int .i64 j)/\s.h (.slot 2 0)=some (0,Ob.box [.p (Ao t.nodes),.p (.int .i64 t.next)])/\s.h (.slot 3 0)=some (0,Ob.box [.p (.int .i64 d.m.rb),.p (.int .i64 d.m.rp),.p (.int .i64 d.m.wb),.p (.int .i64 d.m.wp),.p (.int .i64 d.m.seek),.p (.int .i64 d.speed),.p (.int .i64 d.margin),.p (.int .i64 (d.now+1)),.p (.int .i64 d.free),.p (.int .i64 d.head),.own (.slot 25 11) 0 0 d.weights.length,.own (.slot 25 12) 0 0 d.buckets.length,.own (.slot 25 13) 0 0 d.depths.length,.own (.slot 25 14) 0 0 d.v.length,.own (.slot 25 15) 0 0 d.queue.length,.own (.slot 25 16) 0 0 d.flights.length])/\s.h (.slot 4 0)=some (0,Ob.box [.p (.int .i64 0),.p (.int .i64 0),.p (.int .i64 0),.p (.int .i64 0),.p (.int .i64 0),.p (.int .i64 0),.p (.int .i64 0),.p (.int .i64 0),.p (.int .i64 0),.p (.int .i64 0),.own (.slot 4 11) 0 0 0,.own (.slot 4 12) 0 0 0,.own (.slot 4 13) 0 0 0,.own (.slot 4 14) 0 0 0,.own (.slot 4 15) 0 0 0,.own (.slot 4 16) 0 0 0])/\s.h (.slot 25 11)=some (0,Ob.arr 2 (List.map Ch.pv d.weights))/\s.h (.slot 25 12)=some (0,Ob.arr 21 (M.map Cp.pv))/\s.h (.slot 25 13)=some (0,Ob.arr 3 (List.map Dp.pv d.depths))/\s.h (.slot 25 14)=some (0,Ob.arr 2 (List.map Ch.pv d.v))/\s.h (.slot 25 15)=some (0,Ob.arr 6 (List.map Rq.pv d.queue))/\s.h (.slot 25 16)=some (0,Ob.arr 7 (List.map Fl.pv d.flights))/\s.h (.slot 42 1)=some (v42_1,Ob.arr 5 (B.map Bk.pv))
  refine Ak (4) J ?_ ?_
  ·refine (hJ _ _).2 ⟨B0,nv (BO [42] s.h (.slot 42 1)),?_⟩
   and_intros
   ·exact by simp
   ·exact hB4
   all_goals first|exact cl0|(simp -implicitDefEqProofs (disch:=omega) only [h2,h3,h4,h7,hh2_0,hh3_0,hh4_0,hH,lma,go_sem]<;>first|(simp [Aa,List.map_set,Cp.pv];done)|(simp [Aa,List.map_set,Cp.pv];omega))
  intro j s hj hJk
  obtain ⟨B,v42_1,hB,hBl,h2,h3,h4,h7,h8,h9,hh2_0,hh3_0,hh4_0,hH⟩:=(hJ _ _).1 hJk
  clear hJk
  simp -implicitDefEqProofs (disch:=omega) only [h2,h3,h4,h7,h8,h9,hh2_0,hh3_0,hh4_0,hH,go_sem]
  refine Af (fun hjl=>?_) (fun hjg=>?_)
  ·obtain ⟨b,hb0,hbs⟩:=m4 j (by omega)
   have hjt:=Bi hb0
   rw [VA hb0] at hB
   have hlj:((B0.take j).map fun b=>AD b (d.now+1)).length=j:=by rw [llm,llt];omega
   have hbj:B[j]?=some b:=by rw [hB];exact HV hlj
   have hbset:∀ y,B.set j y=((B0.take j).map fun b=>AD b (d.now+1))++y::B0.drop (j+1):=fun y=>by rw [hB];exact HO hlj
   have i4:=La b (d.now+1) (AG.1 hbs).1 (by have:=(AG.1 hbs).2.2;omega) (by omega)
   simp -implicitDefEqProofs (disch:=omega) only [h2,h3,h4,h7,h8,h9,hh2_0,hh3_0,hh4_0,hH,hjl,hbj,i4,go_sem]
   try refine ai ?_
   refine (hJ _ _).2 ⟨B.set j (AD b (d.now+1)),v42_1,?_⟩
   and_intros
   ·exact by rw [hbset,hjt,lma,laa];rfl
   ·exact by rw [List.length_set];exact hBl
   all_goals first|exact cl0|(simp -implicitDefEqProofs (disch:=omega) only [h2,h3,h4,h7,h8,h9,hh2_0,hh3_0,hh4_0,hH,lma,go_sem]<;>first|(simp [Aa,List.map_set,Cp.pv];done)|(simp [Aa,List.map_set,Cp.pv];omega))
  ·rw [show j=4 by omega,ltl (by omega),List.drop_eq_nil_of_le (by omega),lan] at hB
   rw [← hB] at i3
   simp -implicitDefEqProofs (disch:=omega) only [h2,h3,h4,h7,h8,h9,hh2_0,hh3_0,hh4_0,hH,hjg,hmid,Cp.pv,i3,go_sem]
   try refine ai ?_
   refine (hI _ _).2 ⟨M.set k (DH (d.now+1) c),?_⟩
   and_intros
   ·exact by rw [hset,htk,lma,laa];rfl
   ·exact by rw [List.length_set];exact hMl
   all_goals first|exact cl0|(simp -implicitDefEqProofs (disch:=omega) only [h2,h3,h4,h7,hh2_0,hh3_0,hh4_0,hH,lma,go_sem]<;>first|(simp [Aa,List.map_set,Cp.pv];done)|(simp [Aa,List.map_set,Cp.pv];omega))
 ·rw [List.take_of_length_le (by omega),List.drop_eq_nil_of_le (by omega),lan] at hM
  simp -implicitDefEqProofs (disch:=omega) only [h2,h3,h4,h7,hh2_0,hh3_0,hh4_0,hH,hge,go_sem]
  obtain ⟨p,hp⟩:∃ p:Fl->Bool,p=fun f=>decide (f.done<=d.now+1):=⟨_,rfl⟩
  have hE:CV d=d.flights.takeWhile p:=by rw [hp];rfl
  have hF:(Bp d).flights=d.flights.dropWhile p:=by rw [hp];rfl
  have hNle:(d.flights.takeWhile p).length<=d.flights.length:=(List.takeWhile_sublist p).length_le
  have htd:=GB (p:=p) (l:=d.flights)
  have hlt:=fun k=>H1 (p:=p) (l:=d.flights) (k:=k)
  have hen:=LP (p:=p) (l:=d.flights)
  generalize hN:(d.flights.takeWhile p).length=N at hNle htd hlt hen
  have r1:CV d=d.flights.take N:=by rw [hE,<- htd.1]
  have r2:(Bp d).flights=d.flights.drop N:=by rw [hF,<- htd.2]
  have r4:(Bp d).buckets=M:=hM.symm
  obtain ⟨A,hA⟩:=lpI fun k s=>s.pe 2=.ptr (.slot 2 0) 0 0/\s.pe 3=.ptr (.slot 3 0) 0 0/\s.pe 4=.ptr (.slot 4 0) 0 0/\s.pe 10=.p (.int .i64 k)/\s.h (.slot 2 0)=some (0,Ob.box [.p (Ao t.nodes),.p (.int .i64 t.next)])/\s.h (.slot 3 0)=some (0,Ob.box [.p (.int .i64 d.m.rb),.p (.int .i64 d.m.rp),.p (.int .i64 d.m.wb),.p (.int .i64 d.m.wp),.p (.int .i64 d.m.seek),.p (.int .i64 d.speed),.p (.int .i64 d.margin),.p (.int .i64 (d.now+1)),.p (.int .i64 d.free),.p (.int .i64 d.head),.own (.slot 25 11) 0 0 d.weights.length,.own (.slot 25 12) 0 0 d.buckets.length,.own (.slot 25 13) 0 0 d.depths.length,.own (.slot 25 14) 0 0 d.v.length,.own (.slot 25 15) 0 0 d.queue.length,.own (.slot 25 16) 0 0 d.flights.length])/\s.h (.slot 4 0)=some (0,Ob.box [.p (.int .i64 0),.p (.int .i64 0),.p (.int .i64 0),.p (.int .i64 0),.p (.int .i64 0),.p (.int .i64 0),.p (.int .i64 0),.p (.int .i64 0),.p (.int .i64 0),.p (.int .i64 0),.own (.slot 4 11) 0 0 0,.own (.slot 4 12) 0 0 0,.own (.slot 4 13) 0 0 0,.own (.slot 4 14) 0 0 0,.own (.slot 4 15) 0 0 0,.own (.slot 4 16) 0 0 0])/\s.h (.slot 25 11)=some (0,Ob.arr 2 (List.map Ch.pv d.weights))/\s.h (.slot 25 12)=some (0,Ob.arr 21 (M.map Cp.pv))/\s.h (.slot 25 13)=some (0,Ob.arr 3 (List.map Dp.pv d.depths))/\s.h (.slot 25 14)=some (0,Ob.arr 2 (List.map Ch.pv d.v))/\s.h (.slot 25 15)=some (0,Ob.arr 6 (List.map Rq.pv d.queue))/\s.h (.slot 25 16)=some (0,Ob.arr 7 (List.map Fl.pv d.flights))
  refine ZM (Q:=fun r=>r.1=.exit 4/\A N r.2) (Ak N A ?_ ?_) ?_
  ·refine (hA _ _).2 ?_
   and_intros<;>exact cl0
  ·intro k s hk hAk
   obtain ⟨h2,h3,h4,h10,hh2_0,hh3_0,hh4_0,hH⟩:=(hA _ _).1 hAk
   clear hAk
   by_cases hkN:k<N
   ·obtain ⟨f,hf,hpf⟩:=hlt k hkN
    rw [hp] at hpf
    have hd:f.done<=d.now+1:=of_decide_eq_true hpf
    have hkl:=(lgs.1 hf).1
    simp -implicitDefEqProofs (disch:=omega) only [h2,h3,h4,h10,hh2_0,hh3_0,hh4_0,hH,hkl,hf,hd,Fl.pv,go_sem]
    try refine ai ?_
    refine (hA _ _).2 ?_
    and_intros
    all_goals first|exact cl0|(simp -implicitDefEqProofs (disch:=omega) only [h2,h3,h4,h10,hh2_0,hh3_0,hh4_0,hH,lma,go_sem]<;>first|(simp [Aa,List.map_set,Cp.pv];done)|(simp [Aa,List.map_set,Cp.pv];omega))
   ·have hkE:k=N:=by omega
    subst hkE
    rcases hen with e|⟨f,hf,hpf⟩
    ·have hkl:¬ k<d.flights.length:=by omega
     simp -implicitDefEqProofs (disch:=omega) only [h2,h3,h4,h10,hh2_0,hh3_0,hh4_0,hH,hkl,go_sem]
     refine (hA _ _).2 ?_
     and_intros<;>exact cl0
    ·rw [hp] at hpf
     have hd:¬ f.done<=d.now+1:=of_decide_eq_false hpf
     have hkl:=(lgs.1 hf).1
     simp -implicitDefEqProofs (disch:=omega) only [h2,h3,h4,h10,hh2_0,hh3_0,hh4_0,hH,hkl,hf,hd,Fl.pv,go_sem]
     refine (hA _ _).2 ?_
     and_intros<;>exact cl0
  ·rintro ⟨ex,s⟩ ⟨he,hAk⟩
   simp only at he hAk
   subst he
   obtain ⟨h2,h3,h4,h10,hh2_0,hh3_0,hh4_0,hH⟩:=(hA _ _).1 hAk
   clear hAk
   have hA1:Bp d=⟨d.m,d.speed,d.margin,d.now+1,d.free,d.head,d.weights,M,d.depths,d.v,d.queue,d.flights.drop N⟩:=by rw [<- r2,<- r4];rfl
   have hT0:BB t d=Cn t (d.queue.length+1) (Bp d):=rfl
   rw [hA1] at ha hT0
   have hmn:min N d.flights.length=N:=Nat.min_eq_left hNle
   have htn:List.take (d.flights.length - N) (List.drop N (List.map Fl.pv d.flights))=List.drop N (List.map Fl.pv d.flights):=ltl (by simp)
   have htt:List.take N (List.take N (List.map Fl.pv d.flights))=List.take N (List.map Fl.pv d.flights):=by rw [List.take_take,Nat.min_self]
   rw [r1,List.map_take]
   simp -implicitDefEqProofs (disch:=omega) only [h2,h3,h4,h10,hh2_0,hh3_0,hh4_0,hH,Nat.sub_zero,lld,llm,Nat.min_self,hmn,htn,go_sem]
   rw [← hMl,← List.map_drop,← lld (i:=N) (l:=d.flights)]
   obtain ⟨I,hI⟩:=lpI fun k s=>∃ (x:Dv) (v94_0:Nat),DvOk t x/\BB t d=Cn t (d.queue.length+1 - k) x/\x.queue.length+k=d.queue.length/\s.pe 2=.ptr (.slot 2 0) 0 0/\s.pe 3=.ptr (.slot 3 0) 0 0/\s.pe 4=.ptr (.slot 4 0) 0 0/\s.pe 11=.own (.slot 94 0) v94_0 0 N/\s.h (.slot 2 0)=some (0,Ob.box [.p (Ao t.nodes),.p (.int .i64 t.next)])/\s.h (.slot 4 0)=some (0,Ob.box [.p (.int .i64 0),.p (.int .i64 0),.p (.int .i64 0),.p (.int .i64 0),.p (.int .i64 0),.p (.int .i64 0),.p (.int .i64 0),.p (.int .i64 0),.p (.int .i64 0),.p (.int .i64 0),.own (.slot 4 11) 0 0 0,.own (.slot 4 12) 0 0 0,.own (.slot 4 13) 0 0 0,.own (.slot 4 14) 0 0 0,.own (.slot 4 15) 0 0 0,.own (.slot 4 16) 0 0 0])/\s.h (.slot 94 0)=some (v94_0,Ob.arr 7 (List.take N (List.map Fl.pv d.flights)))/\∃ X,s.h (.slot 3 0)=some (0,Ob.box X)/\X.map (fz0 [14,25,99,116,132] s.h)=dvC x
   refine Ak ((d.queue.length+1)) I ?_ ?_
   ·refine (hI _ _).2 ⟨⟨d.m,d.speed,d.margin,d.now+1,d.free,d.head,d.weights,M,d.depths,d.v,d.queue,d.flights.drop N⟩,nv (s.h (.slot 94 0)),?_⟩
    and_intros
    ·exact ha
    ·exact hT0
    ·rfl
    all_goals first|exact cl0|(simp -implicitDefEqProofs (disch:=omega) only [h2,h3,h4,h10,hh2_0,hh3_0,hh4_0,hH,lma,go_sem]<;>first|(simp [Aa,List.map_set,Cp.pv];done)|(simp [Aa,List.map_set,Cp.pv];omega))|(simp -implicitDefEqProofs (disch:=omega) only [h2,h3,h4,h10,hh2_0,hh3_0,hh4_0,hH,lma,go_sem]<;>(refine ⟨_,rfl,?_⟩;first|rfl|(simp -implicitDefEqProofs (disch:=omega) only [h2,h3,h4,h10,hh2_0,hh3_0,hh4_0,hH,lma,go_sem];done)|(simp -implicitDefEqProofs (disch:=omega) only [h2,h3,h4,h10,hh2_0,hh3_0,hh4_0,hH,lma,go_sem];rfl)))
   intro k s hk hIk
   obtain ⟨x,v94_0,hx,hT,hql,h2,h3,h4,h11,hh2_0,hh4_0,hh94_0,hX⟩:=(hI _ _).1 hIk
   clear hIk
   obtain ⟨X,hX⟩:=hX
   have hxs:x.Small:=E7 hx
   have hbx:=Fz hx
   have hql2:=hx.len
   have hxn:=hx.now
   obtain ⟨fu,hfu⟩:∃ fu,d.queue.length+1 - k=fu+1:=⟨d.queue.length - k,by omega⟩
   rw [hfu] at hT
   have i3:=WY hx hxs
   have hrl:=V3 t x
   have i4:=Yv t x.v (EO t x) (x.now*x.speed) (by omega) hxs.v (by omega)
   rw [Xf hx] at i4
   generalize EO t x=R at i3 i4
   rcases Ky t fu x with ⟨hend,hS⟩|⟨g,r,v,hst,hS⟩
   ·rw [hS] at hT
    rw [hT]
    unfold JY at hend
    generalize hg:AZ t x.v (x.now*x.speed) 0 (BL (Bb t x [] x.queue))=g at i4 hend
    by_cases hb:x.now*x.speed<=x.free
    ·have hb':¬ x.free<x.now*x.speed:=by omega
     simp -implicitDefEqProofs (disch:=omega) only [h2,h3,h4,h11,hh2_0,hh4_0,hh94_0,hX,hX,hb',htt,go_sem]
    ·have hb':x.free<x.now*x.speed:=by omega
     by_cases hg0:g=0
     ·have hg0':(!decide (g=0))=false:=by simp [hg0]
      rw [hg0'] at i4
      simp -implicitDefEqProofs (disch:=omega) only [h2,h3,h4,h11,hh2_0,hh4_0,hh94_0,hX,hX,hb',i3,i4,htt,go_sem]
     ·have hg0':(!decide (g=0))=true:=by simp [hg0]
      rw [hg0'] at i4
      obtain ⟨r,hr,he⟩:∃ r,Ba x.queue g=some r/\(B7 t x.v g (Cj t x g) (BF x r) (x.now*x.speed) x.margin).2 ≠ 0:=by
       rcases hend with e|e|e|e
       ·exact absurd e hb
       ·exact absurd e hg0
       ·obtain ⟨r,h1,_⟩:=Ou (t:=t) (d:=x) (by rw [hg];exact hg0)
        rw [hg,e] at h1
        cases h1
       .exact e
      generalize hi:B7 t x.v g (Cj t x g) (BF x r) (x.now*x.speed) x.margin=ve at he
      obtain ⟨v,e⟩:=ve
      have i5:=OX hx hxs hb hr hi
      rw [if_neg he] at i5
      simp -implicitDefEqProofs (disch:=omega) only [h2,h3,h4,h11,hh2_0,hh4_0,hh94_0,hX,hX,hb',i3,i4,i5,htt,go_sem]
   ·rw [hS] at hT
    have hb:=hst.busy
    have hg:=hst.next
    have hg0:=hst.pos
    have i5:=OX hx hxs hb hst.first hst.issue
    rw [if_pos rfl] at i5
    have hb':x.free<x.now*x.speed:=by omega
    rw [<- hg] at i4
    have hg0':(!decide (g=0))=true:=by simp [hg0]
    rw [hg0'] at i4
    have hok:=Lv hx hst
    have hrq:=E6 hst.first
    simp -implicitDefEqProofs (disch:=omega) only [h2,h3,h4,h11,hh2_0,hh4_0,hh94_0,hX,hX,hb',i3,i4,i5,go_sem]
    try refine ai ?_
    refine (hI _ _).2 ⟨Dn t x g r v,v94_0,?_⟩
    and_intros
    .exact hok
    .exact by rw [hT,show d.queue.length+1 - (k+1)=fu by omega]
    .exact by show (Bw x.queue g).length+(k+1)=_;omega
    all_goals first|exact cl0|(simp -implicitDefEqProofs (disch:=omega) only [h2,h3,h4,h11,hh2_0,hh4_0,hh94_0,hX,lma,go_sem]<;>first|(simp [Aa,List.map_set,Cp.pv];done)|(simp [Aa,List.map_set,Cp.pv];omega))|(simp -implicitDefEqProofs (disch:=omega) only [h2,h3,h4,h11,hh2_0,hh4_0,hh94_0,hX,lma,go_sem]<;>(refine ⟨_,rfl,?_⟩;first|rfl|(simp -implicitDefEqProofs (disch:=omega) only [h2,h3,h4,h11,hh2_0,hh4_0,hh94_0,hX,lma,go_sem];done)|(simp -implicitDefEqProofs (disch:=omega) only [h2,h3,h4,h11,hh2_0,hh4_0,hh94_0,hX,lma,go_sem];rfl)))
def nbk (o:Option Bk) (now rate least:Int):Bk:=match o with
 | none=>B9 rate least now
 | some b=>F3 b rate least
def JV (o:Option Cp) (now:Int) (s:Sg):List Bk:=[nbk (o.map (·.rp)) now s.rp 4096,nbk (o.map (·.wp)) now s.wp 4096,nbk (o.map (·.ro)) now s.ro 0,nbk (o.map (·.wo)) now s.wo 0]
def JU (s:Sg):List Int:=[s.rp,s.wp,s.ro,s.wo]
def nwC (x:Dv) (id:Int) (s:Sg):Cp:=⟨id,nbk ((BY x.buckets id).map (·.rp)) x.now s.rp 4096,nbk ((BY x.buckets id).map (·.wp)) x.now s.wp 4096,nbk ((BY x.buckets id).map (·.ro)) x.now s.ro 0,nbk ((BY x.buckets id).map (·.wo)) x.now s.wo 0⟩
def G9 (x:Dv) (id:Int) (s:Sg):List Cp:=insGo Cp.group (nwC x id s) ((JU s).all fun r=>decide (r=maxR)) x.buckets
theorem za3 {s:Sg} (hs:SgOk s) (o:Option Cp) (now:Int) {j:Nat} (hj:j<4):∃ rate,(JU s)[j]?=some rate/\Dc rate/\(JV o now s)[j]?=some (nbk (o.bind fun c=>([c.rp,c.wp,c.ro,c.wo]:List Bk)[j]?) now rate (if (j:Int)<2 then 4096 else 0)):=by
 have h0:=hs.rp
 have h1:=hs.wp
 have h2:=hs.ro
 have h3:=hs.wo
 rcases j with _|_|_|_|j
 .exact ⟨_,rfl,h0,by cases o<;>rfl⟩
 .exact ⟨_,rfl,h1,by cases o<;>rfl⟩
 .exact ⟨_,rfl,h2,by cases o<;>rfl⟩
 .exact ⟨_,rfl,h3,by cases o<;>rfl⟩
 .omega
theorem ZG {α:Type} {p:α->Bool} {l:List α} {k:Nat} {m:α} (h:l[k]?=some m):((l.take (k+1)).all p)=((l.take k).all p && p m):=by
 rw [Bi h,List.all_append]
 simp
theorem Vc {t:Tr} {x:Dv} (h:DvOk t x) (hs:x.Small) (id:Int) {sg:Sg} (hsg:SgOk sg) (dev:Int):V 132 [x.vv,.p (.int .i64 id),sg.vv dev] []=some (.fresh 21 ((G9 x id sg).map Cp.pv),[]):=by
 refine Ad (vf:=vf132) rfl ?_
 have hn:=h.now
 have hbl:=hs.b
 have i0:=Kj x id hs
 obtain ⟨b1,_,_⟩:=Cx.1 h.bk
 have hcap:(BU (fun c:Cp=>decide (c.group=id)) x.buckets=-1/\BY x.buckets id=none) \/ ∃ (q:Nat) (c:Cp),BU (fun c:Cp=>decide (c.group=id)) x.buckets=q/\x.buckets[q]?=some c/\BY x.buckets id=some c:=by
  rcases Fx (fun c:Cp=>decide (c.group=id)) x.buckets with ⟨e,hno⟩|⟨q,c,e,e2,hg,hb⟩
  ·exact .inl ⟨e,KC hno⟩
  ·exact .inr ⟨q,c,e,e2,I3 e2 hg hb⟩
 have hat:=fun (j:Nat) (hj:j<4)=>za3 hsg (BY x.buckets id) x.now hj
 have hNg:(nwC x id sg).group=id:=rfl
 unfold G9
 have j2:=IU id (nwC x id sg).rp (nwC x id sg).wp (nwC x id sg).ro (nwC x id sg).wo
 have hRl:(JU sg).length=4:=rfl
 have hFl:(JV (BY x.buckets id) x.now sg).length=4:=rfl
 rw [show (Cp.mk id (nwC x id sg).rp (nwC x id sg).wp (nwC x id sg).ro (nwC x id sg).wo)=nwC x id sg from rfl,show F4 [(nwC x id sg).rp,(nwC x id sg).wp,(nwC x id sg).ro,(nwC x id sg).wo]=F4 (JV (BY x.buckets id) x.now sg) from rfl] at j2
 generalize hO:BY x.buckets id=O at hcap hat hFl j2
 generalize hRR:JU sg=R at hat hRl ⊢
 generalize hFF:JV O x.now sg=F at hat hFl j2
 generalize nwC x id sg=c0 at hNg j2 ⊢
 simp -implicitDefEqProofs (disch:=omega) only [vf132,RP,go_sem]
 obtain ⟨I,hI⟩:=lpI fun k s=>∃ (acc:List Bk) (w:Nat),acc=F.take k/\acc.length=k/\s.pe 1=.p (.int .i64 id)/\s.pe 3=.ptr (.slot 3 0) 0 0/\s.pe 7=.own (.slot 26 0) 0 0 4/\s.pe 8=.own (.slot 8 0) w 0 acc.length/\s.pe 9=.p (.bool ((R.take k).all fun r=>decide (r=maxR)))/\s.pe 10=.p (.int .i64 k)/\s.h (.slot 3 0)=some (0,Ob.box (dvC x))/\s.h (.slot 8 0)=some (w,Ob.arr 5 (acc.map Bk.pv))/\s.h (.slot 26 0)=some (0,Ob.arr 1 [PV.int IntKind.i64 sg.rp,PV.int IntKind.i64 sg.wp,PV.int IntKind.i64 sg.ro,PV.int IntKind.i64 sg.wo])
 refine Ak (4) I ?_ ?_
 ·refine (hI _ _).2 ⟨[],0,?_⟩
  and_intros
  ·rfl
  ·rfl
  all_goals first|exact cl0|(simp -implicitDefEqProofs (disch:=omega) only [lma,go_sem]<;>first|(simp [Aa,Cp.pv];done)|(simp [Aa,Cp.pv];omega))
 intro k s hk hIk
 obtain ⟨acc,w,ha,hal,h1,h3,h7,h8,h9,hH⟩:=(hI _ _).1 hIk
 clear hIk
 simp -implicitDefEqProofs (disch:=omega) only [h1,h3,h7,h8,h9,hH,go_sem]
 refine Af (fun hlt=>?_) (fun hge=>?_)
 ·obtain ⟨rate,hr1,hr2,hf⟩:=hat k (by omega)
  have hgr:([PV.int IntKind.i64 sg.rp,PV.int IntKind.i64 sg.wp,PV.int IntKind.i64 sg.ro,PV.int IntKind.i64 sg.wo]:List PV)[k]?=some (.int .i64 rate):=by
   rw [show ([PV.int IntKind.i64 sg.rp,PV.int IntKind.i64 sg.wp,PV.int IntKind.i64 sg.ro,PV.int IntKind.i64 sg.wo]:List PV)=R.map (PV.int .i64) by rw [<- hRR];rfl,List.getElem?_map,hr1]
   rfl
  have hall:=ZG (p:=fun r=>decide (r=maxR)) hr1
  have hft:=Bi hf
  obtain ⟨least,hle⟩:∃ least,least=(if (k:Int)<2 then (4096:Int) else 0):=⟨_,rfl⟩
  rw [<- hle] at hft
  have hl:0<=least/\least<=4096:=by rw [hle];split<;>omega
  have i1:=PR rate least x.now hr2 hl hn
  obtain ⟨bu,hbu⟩:∃ bu,bu=(if rate=maxR then 0 else max rate least):=⟨_,rfl⟩
  rw [<- hbu] at i1
  obtain ⟨c2,cm,d2,dm,e⟩:∃ c2 cm:Bool,decide ((k:Int)<2)=c2/\decide (rate=4611686018427387904)=cm/\bu=if cm then 0 else if c2 then max rate 4096 else rate:=by
   refine ⟨_,_,rfl,rfl,?_⟩
   rw [hbu,hle]
   unfold Dc at hr2
   by_cases hm:rate=maxR
   ·rw [if_pos hm,decide_eq_true (show rate=4611686018427387904 from hm)];rfl
   ·rw [if_neg hm,decide_eq_false (show ¬ rate=4611686018427387904 from hm)]
    by_cases hk2:(k:Int)<2
    ·rw [if_pos hk2,decide_eq_true hk2];rfl
    ·rw [if_neg hk2,decide_eq_false hk2]
     show max rate 0=rate
     omega
  rw [show decide (rate=maxR)=cm from dm] at hall
  generalize ((R.take k).all fun r=>decide (r=maxR))=z at h9 hall
  rcases hcap with ⟨e1,e2⟩|⟨q,c,e1,e2,e3⟩
  ·rw [e2] at hft
   have hft:F.take (k+1)=F.take k++[B9 rate least x.now]:=hft
   rw [e1] at i0
   have d1:decide ((0:Int)<=-1)=false:=rfl
   generalize B9 rate least x.now=y at i1 hft
   cases c2<;>cases cm<;>cases z<;>simp only [bau,Bool.and_false,bfa,bta,if_true,if_false,bft] at e hall<;>rw [e] at i1
   all_goals
    simp -implicitDefEqProofs (disch:=omega) only [h1,h3,h7,h8,h9,hH,hlt,hgr,d2,dm,i1,i0,d1,go_sem]
   all_goals
    try refine ai ?_
    refine (hI _ _).2 ⟨acc++[y],w+1,?_⟩
    and_intros
    ·exact by rw [ha,hft]
    ·exact by rw [lla,hal];rfl
    all_goals first|exact cl0|(simp -implicitDefEqProofs (disch:=omega) only [h1,h3,h7,h8,h9,hH,hall,lma,go_sem]<;>first|(simp [Aa,Cp.pv];done)|(simp [Aa,Cp.pv];omega))
  ·rw [e3] at hft
   simp only [Option.bind_some] at hft
   rw [e1] at i0
   have hcb:=(b1 c (lmg e2)).2
   have hql:=(lgs.1 e2).1
   obtain ⟨b,hb0,hbs⟩:=MF hcb (k:=k) (by omega)
   have hkB:=(lgs.1 hb0).1
   have i2:=HP c
   have i3:=Vd b rate least (AG.1 hbs).1 hr2 hl
   rw [(AG.1 hbs).2.2,<- hbu] at i3
   rw [hb0] at hft
   have hft:F.take (k+1)=F.take k++[F3 b rate least]:=hft
   generalize ([c.rp,c.wp,c.ro,c.wo]:List Bk)=B0 at i2 hb0 hkB
   generalize B9 rate least x.now=y0 at i1
   generalize F3 b rate least=y at i3 hft
   cases c2<;>cases cm<;>cases z<;>simp only [bau,Bool.and_false,bfa,bta,if_true,if_false,bft] at e hall<;>rw [e] at i1 i3
   all_goals
    simp -implicitDefEqProofs (disch:=omega) only [h1,h3,h7,h8,h9,hH,hlt,hgr,d2,dm,i1,i0,i2,i3,hql,e2,hb0,hkB,Cp.pv,go_sem]
   all_goals
    try refine ai ?_
    refine (hI _ _).2 ⟨acc++[y],w+1,?_⟩
    and_intros
    ·exact by rw [ha,hft]
    ·exact by rw [lla,hal];rfl
    all_goals first|exact cl0|(simp -implicitDefEqProofs (disch:=omega) only [h1,h3,h7,h8,h9,hH,hall,lma,go_sem]<;>first|(simp [Aa,Cp.pv];done)|(simp [Aa,Cp.pv];omega))
 ·have hk4:k=4:=by omega
  subst hk4
  rw [ltl (by omega)] at ha h9
  subst ha
  generalize (R.all fun r=>decide (r=maxR))=op at h9 ⊢
  simp -implicitDefEqProofs (disch:=omega) only [h1,h3,h7,h8,h9,hH,hge,go_sem]
  obtain ⟨J,hJ⟩:=lpI fun j s=>∃ (ac2:List Cp) (d:Bool) (w2:Nat),insGo Cp.group c0 op x.buckets=ac2++insGo Cp.group c0 d (x.buckets.drop j)/\ac2.length<=2*j/\s.pe 1=.p (.int .i64 id)/\s.pe 3=.ptr (.slot 3 0) 0 0/\s.pe 8=.own (.slot 8 0) w 0 acc.length/\s.pe 15=.own (.slot 15 0) w2 0 ac2.length/\s.pe 16=.p (.bool d)/\s.pe 17=.p (.int .i64 j)/\s.h (.slot 3 0)=some (0,Ob.box (dvC x))/\s.h (.slot 8 0)=some (w,Ob.arr 5 (List.map Bk.pv acc))/\s.h (.slot 15 0)=some (w2,Ob.arr 21 (ac2.map Cp.pv))
  refine Ak (x.buckets.length) J ?_ ?_
  ·refine (hJ _ _).2 ⟨[],op,nv (BO [66] s.h (.slot 15 0)),?_⟩
   and_intros
   ·rfl
   ·exact cl3
   all_goals first|exact cl0|(simp -implicitDefEqProofs (disch:=omega) only [h1,h3,h7,h8,h9,hH,lma,go_sem]<;>first|(simp [Aa,Cp.pv];done)|(simp [Aa,Cp.pv];omega))
  intro j s hj hJk
  obtain ⟨ac2,d,w2,hw,hal2,h1,h3,h8,hH⟩:=(hJ _ _).1 hJk
  clear hJk
  simp -implicitDefEqProofs (disch:=omega) only [h1,h3,h8,hH,go_sem]
  refine Af (fun hlt=>?_) (fun hge'=>?_)
  ·have hm:x.buckets[j]?=some x.buckets[j]:=lgg hlt
   have hd:x.buckets.drop j=x.buckets[j]::x.buckets.drop (j+1):=ldg hlt
   generalize x.buckets[j]=c at hm hd
   rw [hd,insGo,hNg] at hw
   cases d with
   | true =>
    by_cases he:c.group=id
    ·simp only [he,Bool.not_true,bfa,bft,if_false,if_true,lna,lan,Bool.true_or] at hw
     simp -implicitDefEqProofs (disch:=omega) only [h1,h3,h8,hH,hlt,hm,he,Cp.pv,go_sem]
     try refine ai ?_
     refine (hJ _ _).2 ⟨ac2,true,w2,?_⟩
     and_intros
     ·exact hw
     ·omega
     all_goals first|exact cl0|(simp -implicitDefEqProofs (disch:=omega) only [h1,h3,h8,hH,lma,go_sem]<;>first|(simp [Aa,Cp.pv];done)|(simp [Aa,Cp.pv];omega))
    ·simp only [he,Bool.not_true,bfa,bft,if_false,lna,Bool.true_or,<- laa] at hw
     simp -implicitDefEqProofs (disch:=omega) only [h1,h3,h8,hH,hlt,hm,he,Cp.pv,go_sem]
     try refine ai ?_
     refine (hJ _ _).2 ⟨ac2++[c],true,w2+1,?_⟩
     and_intros
     ·exact hw
     ·exact by simp;omega
     all_goals first|exact cl0|(simp -implicitDefEqProofs (disch:=omega) only [h1,h3,h8,hH,lma,go_sem]<;>first|(simp [Aa,Cp.pv];done)|(simp [Aa,Cp.pv];omega))
   | false =>
    by_cases hge:id<=c.group
    ·by_cases he:c.group=id
     ·simp only [he,Int.le_refl,decide_true,bnf,bas,if_true,lan,Bool.or_true,<- laa] at hw
      simp -implicitDefEqProofs (disch:=omega) only [h1,h3,h8,hH,hlt,hm,hge,he,j2,Int.le_refl,decide_true,Cp.pv,go_sem]
      try refine ai ?_
      refine (hJ _ _).2 ⟨ac2++[c0],true,w2+1,?_⟩
      and_intros
      .exact hw
      .exact by simp;omega
      all_goals first|exact cl0|(simp -implicitDefEqProofs (disch:=omega) only [h1,h3,h8,hH,lma,go_sem]<;>first|(simp [Aa,Cp.pv];done)|(simp [Aa,Cp.pv];omega))
     ·simp only [he,hge,decide_true,bnf,bas,if_true,if_false,Bool.or_true,<- laa] at hw
      simp -implicitDefEqProofs (disch:=omega) only [h1,h3,h8,hH,hlt,hm,hge,he,j2,Cp.pv,go_sem]
      try refine ai ?_
      refine (hJ _ _).2 ⟨ac2++[c0]++[c],true,w2+1+1,?_⟩
      and_intros
      .exact hw
      .exact by simp;omega
      all_goals first|exact cl0|(simp -implicitDefEqProofs (disch:=omega) only [h1,h3,h8,hH,lma,go_sem]<;>first|(simp [Aa,Cp.pv];done)|(simp [Aa,Cp.pv];omega))
    ·have he:¬ c.group=id:=by omega
     simp only [he,hge,decide_false,bnf,Bool.and_false,bft,if_false,lna,Bool.or_false,<- laa] at hw
     simp -implicitDefEqProofs (disch:=omega) only [h1,h3,h8,hH,hlt,hm,hge,he,Cp.pv,go_sem]
     try refine ai ?_
     refine (hJ _ _).2 ⟨ac2++[c],false,w2+1,?_⟩
     and_intros
     .exact hw
     .exact by simp;omega
     all_goals first|exact cl0|(simp -implicitDefEqProofs (disch:=omega) only [h1,h3,h8,hH,lma,go_sem]<;>first|(simp [Aa,Cp.pv];done)|(simp [Aa,Cp.pv];omega))
  ·rw [ldl (by omega),insGo] at hw
   cases d with
   | true =>
    simp only [if_true,lan] at hw
    simp -implicitDefEqProofs (disch:=omega) only [h1,h3,h8,hH,hge',go_sem]
    rw [hw]
   | false =>
    simp only [bft,if_false] at hw
    simp -implicitDefEqProofs (disch:=omega) only [h1,h3,h8,hH,hge',j2,go_sem]
    rw [hw]
    simp [Cp.pv]
def F0 (x:Dv) (id:Int) (s:Sg):Dv:={ x with weights:=withGo id s.weight (decide (s.weight=100)) x.weights,buckets:=G9 x id s,depths:=insGo Dp.group ⟨id,s.target,(getD x.depths id).depth⟩ (decide (s.target=0) && decide ((getD x.depths id).depth=256)) x.depths }
theorem Wr (l:List Dp) (id:Int):getD l id∈l \/ getD l id=⟨id,0,256⟩:=by
 induction l with
 | nil=>exact .inr rfl
 | cons x l ih =>
  unfold getD
  split
  ·exact .inl (lms ..)
  ·rcases ih with h|h
   .exact .inl (lmc _ h)
   .exact .inr h
theorem Wq (l:List Dp) (id:Int):(getD l id).group=id:=by
 induction l with
 | nil=>rfl
 | cons x l ih =>
  unfold getD
  split
  .assumption
  .exact ih
theorem LM {kn:Int->Bool}:∀ {l:List Dp} {p:Option Int},(∀ c∈l,kn c.group=true/\(0<=c.target/\c.target<=1048576)/\1<=c.depth/\c.depth<=256)->l.Pairwise (fun a b=>a.group<b.group)->(∀ q,p=some q->∀ c∈l,q<c.group)->BP kn p l=true
 | [],_,_,_,_=>rfl
 | c::l,p,h1,h2,h3=>by
  obtain ⟨a1,a2,a3⟩:=h1 c (lms ..)
  rw [lpw] at h2
  simp only [BP,bat,Ci,Kt]
  exact ⟨⟨⟨a1,fun q hq=>h3 q hq c (lms ..)⟩,a2,a3⟩,LM (fun x hx=>h1 x (lmc _ hx)) h2.2 fun q hq x hx=>by cases hq;exact h2.1 x hx⟩
theorem NY {kn:Int->Bool} {lo hi:Int} {l:List Ch} (h:AscOk kn lo hi l) {id w:Int} (d:Bool) (hk:kn id=true) (hw:lo<=w/\w<=hi):AscOk kn lo hi (withGo id w d l):=by
 refine ⟨fun c hc=>?_,It id w l d h.inc,fun c hc=>?_⟩
 ·rcases E0 id w l d c hc with ⟨_,rfl⟩|⟨hm,_⟩
  .exact hk
  .exact h.known c hm
 ·rcases E0 id w l d c hc with ⟨_,rfl⟩|⟨hm,_⟩
  .exact hw
  .exact h.range c hm
theorem Jh {o:Option Bk} {now rate least:Int} (ho:∀ b,o=some b->A3 now b=true) (h:Dc rate) (hl:0<=least/\least<=4096) (hn:0<=now/\now<=1048576):A3 now (nbk o now rate least)=true:=by
 cases o with
 | none=>exact LF h hl hn
 | some b=>exact zaU (ho b rfl) h hl
theorem XN {l:List Cp} {id:Int} {c:Cp} (h:BY l id=some c):c∈l:=by
 induction l with
 | nil=>cases h
 | cons x l ih =>
  unfold BY at h
  split at h
  .cases h;exact lms ..
  .exact lmc _ (ih h)
theorem ZZ {t:Tr} {x:Dv} (h:DvOk t x) {id:Int} {s:Sg} (hk:Ag t.nodes id=true) (hs:SgOk s):DvOk t (F0 x id s):=by
 obtain ⟨b1,b2,_⟩:=Cx.1 h.bk
 obtain ⟨d1,d2,_⟩:=HH h.dp
 have d3:=Ls h.dp
 have hn:=h.now
 have hcb:∀ (f:Cp->Bk),(∀ c,Bu x.now c=true->A3 x.now (f c)=true)->∀ b,(BY x.buckets id).map f=some b->A3 x.now b=true:=fun f hf b hb=>by
  cases hc:BY x.buckets id with
  | none=>rw [hc] at hb;cases hb
  | some c =>
   rw [hc] at hb
   cases hb
   exact hf c (b1 c (XN hc)).2
 refine ⟨h.tree,h.cfg,h.now,h.free,h.head,NY h.w _ hk hs.w,LM (fun c hc=>?_) (KS d2) (fun q hq=>by cases hq),h.v,h.len,Cx.2 ⟨fun c hc=>?_,KS b2,fun q hq=>by cases hq⟩,h.q,h.fl⟩
 ·rcases IK hc with ⟨_,rfl⟩|hc
  ·refine ⟨hk,hs.t,?_⟩
   rcases Wr x.depths id with hg|hg
   .exact (d3 _ hg).2
   .rw [hg];simp only;omega
  .exact ⟨d1 c hc,d3 c hc⟩
 ·rcases IK hc with ⟨_,rfl⟩|hc
  .exact ⟨hk,CR.2 ⟨Jh (hcb _ fun c hc=>(CR.1 hc).1) hs.rp (by omega) hn,Jh (hcb _ fun c hc=>(CR.1 hc).2.1) hs.wp (by omega) hn,Jh (hcb _ fun c hc=>(CR.1 hc).2.2.1) hs.ro (by omega) hn,Jh (hcb _ fun c hc=>(CR.1 hc).2.2.2) hs.wo (by omega) hn⟩⟩
  .exact b1 c hc
abbrev dvZ:Dv:=D5 ⟨0,0,0,0,0⟩ 0 0
theorem Z3 {t:Tr} {x:Dv} (h:DvOk t x) (hs:x.Small) {id:Int} {s:Sg} (hk:Ag t.nodes id=true) (hsg:SgOk s):V 58 [t.vv,x.vv,.p (.int .i64 id),s.vv 0] []=some (.tup [(F0 x id s).fv,.p (.int .i64 0)],[]):=by
 refine Ad (vf:=vf58) rfl ?_
 have i0:=HJ h hs
 have i1:=D8 h.tree hk
 have i2:=XJ s hsg
 have i3:=Gn x hs hs.q hs.f
 have i4:=WU x.weights id s.weight hs.w
 have hW:=NY h.w (decide (s.weight=100)) hk hsg.w
 unfold F0
 generalize withGo id s.weight (decide (s.weight=100)) x.weights=W at i4 hW ⊢
 have h':DvOk t { x with weights:=W }:=⟨h.tree,h.cfg,h.now,h.free,h.head,hW,h.dp,h.v,h.len,h.bk,h.q,h.fl⟩
 have i5:=Vc h' (E7 h') id hsg 0
 rw [show G9 { x with weights:=W } id s=G9 x id s from rfl] at i5
 have i6:=OV x.depths id hs.p
 have hg:=Wq x.depths id
 have i7:=Z4 x.depths ⟨id,s.target,(getD x.depths id).depth⟩ hs.p
 simp only at i7
 generalize G9 x id s=BK at i5 ⊢
 generalize getD x.depths id=gd at i6 hg i7 ⊢
 generalize insGo Dp.group (⟨id,s.target,gd.depth⟩:Dp) (decide (s.target=0) && decide (gd.depth=256)) x.depths=DP at i7 ⊢
 simp -implicitDefEqProofs (disch:=omega) only [vf58,Mt,i0,i1,i2,i3,i4,i5,i6,i7,hg,go_sem]
theorem PL {t:Tr} {id:Int} (ht:TreeOk t) (hk:Ag t.nodes id=false):V 83 [t.vv,.p (.int .i64 id)] []=some (.p (.bool false),[]):=by
 have h:=DR t id (by have:=ht.len;omega)
 rw [EH ((Bh t).2 ht),show (AU t.nodes id).isSome=false from hk] at h
 exact h
theorem Yr {t:Tr} {x:Dv} (h:DvOk t x) (hs:x.Small) {id:Int} {s:Sg} (hk:Ag t.nodes id=false):V 58 [t.vv,x.vv,.p (.int .i64 id),s.vv 0] []=some (.tup [dvZ.fv,.p (.int .i64 4)],[]):=by
 refine Ad (vf:=vf58) rfl ?_
 have i0:=HJ h hs
 have i1:=PL h.tree hk
 simp -implicitDefEqProofs (disch:=omega) only [vf58,Mt,i0,i1,lpn,go_sem]
 rfl
structure LeB (b' b:Bk):Prop where
 rate:b'.rate=b.rate
 per:b'.per=b.per
 burst:b'.burst=b.burst
 level:b'.level<=b.level
theorem LeB.refl (b:Bk):LeB b b:=⟨rfl,rfl,rfl,Int.le_refl _⟩
theorem LeB.trans {a b c:Bk} (h:LeB a b) (h':LeB b c):LeB a c:=⟨h.rate.trans h'.rate,h.per.trans h'.per,h.burst.trans h'.burst,Int.le_trans h.level h'.level⟩
def Per (c:Cp):Prop:=∀ w,(kpB c w).per=100/\(koB c w).per=100
def LeC (c' c:Cp):Prop:=c'.group=c.group/\∀ w,LeB (kpB c' w) (kpB c w)/\LeB (koB c' w) (koB c w)
theorem LeC.refl (c:Cp):LeC c c:=⟨rfl,fun _=>⟨LeB.refl _,LeB.refl _⟩⟩
theorem LeC.trans {a b c:Cp} (h:LeC a b) (h':LeC b c):LeC a c:=⟨h.1.trans h'.1,fun w=>⟨(h.2 w).1.trans (h'.2 w).1,(h.2 w).2.trans (h'.2 w).2⟩⟩
theorem LeC.per {c' c:Cp} (h:LeC c' c) (hp:Per c):Per c':=fun w=>⟨(h.2 w).1.per.trans (hp w).1,(h.2 w).2.per.trans (hp w).2⟩
theorem zaR (L:List Int) (a:Nat) (hL:L.length<4611686018427387904):∃ (s:Sg) (b:Nat),V 35 [.ptr (.arg 0 0) 0 0,.p (.int .i64 0)] [AK L a]=some (s.vv 0,[AK L b])/\SgOk s:=by
 have c1:=WM L a hL
 have hw:=T7 L a
 generalize GA L a=w at c1 hw
 generalize Ah L (Ah L a 1000) 8=a1 at c1
 have c2:=BE L a1 [4611686018427387904,4611686018427387904,1,10,5000] hL (by decide) (by decide)
 have x2:=C4 L a1 (xs:=[4611686018427387904,4611686018427387904,1,10,5000]) (by decide)
 generalize Ah L a1 ([4611686018427387904,4611686018427387904,1,10,5000]:List Int).length=a2 at c2
 have c3:=BE L a2 [4611686018427387904,4611686018427387904,4,100] hL (by decide) (by decide)
 have x3:=C4 L a2 (xs:=[4611686018427387904,4611686018427387904,4,100]) (by decide)
 generalize Ah L a2 ([4611686018427387904,4611686018427387904,4,100]:List Int).length=a3 at c3
 have c4:=BE L a3 [4611686018427387904,4611686018427387904,1,3,50] hL (by decide) (by decide)
 have x4:=C4 L a3 (xs:=[4611686018427387904,4611686018427387904,1,3,50]) (by decide)
 generalize Ah L a3 ([4611686018427387904,4611686018427387904,1,3,50]:List Int).length=a4 at c4
 have c5:=BE L a4 [4611686018427387904,2] hL (by decide) (by decide)
 have x5:=C4 L a4 (xs:=[4611686018427387904,2]) (by decide)
 generalize Ah L a4 ([4611686018427387904,2]:List Int).length=a5 at c5
 have c6:=BE L a5 [0,0,5,20] hL (by decide) (by decide)
 have x6:=C4 L a5 (xs:=[0,0,5,20]) (by decide)
 generalize Ah L a5 ([0,0,5,20]:List Int).length=a6 at c6
 generalize Bl L a1 [4611686018427387904,4611686018427387904,1,10,5000]=v2 at c2 x2
 generalize Bl L a2 [4611686018427387904,4611686018427387904,4,100]=v3 at c3 x3
 generalize Bl L a3 [4611686018427387904,4611686018427387904,1,3,50]=v4 at c4 x4
 generalize Bl L a4 [4611686018427387904,2]=v5 at c5 x5
 generalize Bl L a5 [0,0,5,20]=v6 at c6 x6
 simp only [AT,lpc,lpn] at c2 c3 c4 c5 c6
 simp only [lmk,List.not_mem_nil,or_false] at x2 x3 x4 x5 x6
 refine ⟨⟨w,v2,v3,v4,v5,v6⟩,a6,Ad (vf:=vf35) rfl ?_,⟨hw,?_,?_,?_,?_,by simp only;omega⟩⟩
 .simp -implicitDefEqProofs (disch:=omega) only [vf35,SF,c1,c2,c3,c4,c5,c6,go_sem]
 all_goals (unfold Dc;simp only;have hmx:maxR=4611686018427387904:=rfl;omega)
theorem zak {t:Tr} (h:TreeOk t) {m:Mdl} {speed margin:Int} (hc:CS m speed margin=true):DvOk t (D5 m speed margin) :=
 ⟨h,hc,by simp,by simp,by simp,(EG _ _ _ _).1 rfl,rfl,(EG _ _ _ _).1 rfl,by simp,rfl,by simp,rfl⟩
theorem ZU {t:Tr} {d:Dv} {r:Rq} (h:DvOk t d) (hr:Aw { r with time:=0 }=true) (hk:Ag t.nodes r.group=true) (hl:d.queue.length+d.flights.length<256):DvOk t (D4 d r):=by
 refine ⟨h.tree,h.cfg,h.now,h.free,h.head,h.w,h.dp,h.v,?_,h.bk,fun x hx=>?_,h.fl⟩
 ·show (d.queue++[_]).length+d.flights.length<=256
  rw [lla,List.length_singleton]
  omega
 ·rcases lmp.1 hx with hx|hx
  ·exact h.q x hx
  ·rw [List.mem_singleton] at hx
   subst hx
   refine ⟨?_,hk⟩
   have hn:=h.now
   rw [CP] at hr ⊢
   simp only at hr ⊢
   omega
theorem Ml {f:FuncId} {vf:VFunc} (hf:prog f=some vf) {args:List VVal} {H:List Ob} {Q:VVal × List Ob->Prop} (h:wp (BT V vf args H) Q):∃ r,V f args H=some r/\Q r:=by
 obtain ⟨a,e,q⟩:=h
 exact ⟨a,G5 hf e,q⟩
def zbA (L:List Int) (t:Tr) (n:Nat) (r:VVal × List Ob):Prop:=∃ (x:Dv) (b:Nat),r=(x.vv,[AK L b])/\DvOk t x/\x.now<=n/\x.queue.length+x.flights.length<=n
theorem zav (L:List Int) (a:Nat) {t:Tr} (h:TreeOk t) (n:Nat) (hn:n<=100) (hL:L.length<4611686018427387904):∃ (x:Dv) (b:Nat),V 22 [.ptr (.arg 0 0) 0 0,t.vv,.p (.int .i64 n)] [AK L a]=some (x.vv,[AK L b])/\DvOk t x/\x.now<=n/\x.queue.length+x.flights.length<=n:=by
 suffices hw:wp (BT V vf22 [.ptr (.arg 0 0) 0 0,t.vv,.p (.int .i64 n)] [AK L a]) (zbA L t n) by
  obtain ⟨r,hr,x,b,e,h1⟩:=Ml (f:=22) rfl hw
  subst e
  exact ⟨x,b,hr,h1⟩
 have hlen:=h.len
 obtain ⟨m,speed,margin,a1,c1,hcok⟩:=Zq L a hL
 have c2:=OY m speed margin hcok
 have hD:=zak h hcok
 have c3:=CK L a1 (n+1) hL (by omega)
 have n0:=Cf L a1 ((n:Int)+1)
 have n1:=Cg L a1 (n:=(n:Int)+1) (by omega)
 generalize Ah L a1 ((n:Int)+1)=a2 at c3
 generalize AB L a1 ((n:Int)+1)=v at c3 n0 n1
 obtain ⟨N,rfl⟩:∃ N:Nat,v=N:=⟨v.toNat,by omega⟩
 simp -implicitDefEqProofs (disch:=omega) only [vf22,SM,c1,c2,c3,go_sem]
 obtain ⟨I,hI⟩:=lpI fun k s=>∃ (x:Dv) (b:Nat),DvOk t x/\x.now<=k/\x.queue.length+x.flights.length<=k/\s.pe 0=.ptr (Id.arg 0 0) 0 0/\s.pe 4=.ptr (.slot 4 0) 0 0/\s.pe 6=.ptr (.slot 6 0) 0 0/\s.pe 7=.ptr (.slot 7 0) 0 0/\s.pe 9=.p (.int .i64 ((N:Int) - k))/\s.h (.arg 0 0)=some (0,Ob.box [.p (AT L),.p (.int .i64 (b:Nat))])/\s.h (.slot 4 0)=some (0,Ob.box [.p (Ao t.nodes),.p (.int .i64 t.next)])/\s.h (.slot 6 0)=some (0,Ob.box [.p (.int .i64 0),.p (.int .i64 0),.p (.int .i64 0),.p (.int .i64 0),.p (.int .i64 0),.p (.int .i64 0),.p (.int .i64 0),.p (.int .i64 0),.p (.int .i64 0),.p (.int .i64 0),.own (.slot 6 11) 0 0 0,.own (.slot 6 12) 0 0 0,.own (.slot 6 13) 0 0 0,.own (.slot 6 14) 0 0 0,.own (.slot 6 15) 0 0 0,.own (.slot 6 16) 0 0 0])/\∃ X,s.h (.slot 7 0)=some (0,Ob.box X)/\X.map (fz0 [10,15,32,46,58] s.h)=dvC x
 refine Ak (N) I ?_ ?_
 ·refine (hI _ _).2 ⟨D5 m speed margin,a2,?_⟩
  and_intros
  ·exact hD
  ·exact by simp
  ·exact by simp
  all_goals first|exact cl0|(simp -implicitDefEqProofs (disch:=omega) only [lma,go_sem]<;>first|(simp [Aa];done)|(simp [Aa];omega))|(simp -implicitDefEqProofs (disch:=omega) only [lma,go_sem]<;>(refine ⟨_,rfl,?_⟩;first|rfl|(simp -implicitDefEqProofs (disch:=omega) only [lma,go_sem];done)|(simp -implicitDefEqProofs (disch:=omega) only [lma,go_sem];rfl)))
 intro k s hk hIk
 obtain ⟨x,b,hx,hxn,hxq,h0,h4,h6,h7,h9,ha0,hh4_0,hh6_0,hX⟩:=(hI _ _).1 hIk
 clear hIk
 obtain ⟨X,hX⟩:=hX
 have hs:=E7 hx
 simp -implicitDefEqProofs (disch:=omega) only [h0,h4,h6,h7,h9,ha0,hh4_0,hh6_0,hX,go_sem]
 refine Af (fun hlt=>?_) (fun hge=>?_)
 ·have c4:=CK L b 5 hL (by omega)
  have n2:=Cf L b 5
  have n3:=Cg L b (n:=5) (by omega)
  generalize Ah L b 5=b1 at c4
  generalize AB L b 5=w at c4 n2 n3
  by_cases w0:w=0
  ·have w0':decide (w=0)=true:=decide_eq_true w0
   have c5:=Y7 L b1 t hL (by omega)
   generalize GR L b1 t.nodes=gd at c5
   obtain ⟨g,b2⟩:=gd
   simp only at c5
   obtain ⟨s,b3,c6,hsg⟩:=zaR L b2 hL
   cases hk:Ag t.nodes g with
   | true =>
    have c7:=Z3 hx hs hk hsg
    have hok:=ZZ hx hk hsg
    have e1:(F0 x g s).now=x.now:=rfl
    have e2:(F0 x g s).queue=x.queue:=rfl
    have e3:(F0 x g s).flights=x.flights:=rfl
    generalize F0 x g s=z at c7 hok e1 e2 e3
    simp -implicitDefEqProofs (disch:=omega) only [h0,h4,h6,h7,h9,ha0,hh4_0,hh6_0,hX,hlt,c4,w0',c5,c6,c7,go_sem]
    try refine ai ?_
    refine (hI _ _).2 ⟨z,b3,?_⟩
    and_intros
    ·exact hok
    ·exact by rw [e1];omega
    ·exact by rw [e2,e3];omega
    all_goals first|exact cl0|(simp -implicitDefEqProofs (disch:=omega) only [h0,h4,h6,h7,h9,ha0,hh4_0,hh6_0,hX,lma,go_sem]<;>first|(simp [Aa];done)|(simp [Aa];omega))|(simp -implicitDefEqProofs (disch:=omega) only [h0,h4,h6,h7,h9,ha0,hh4_0,hh6_0,hX,lma,go_sem]<;>(refine ⟨_,rfl,?_⟩;first|rfl|(simp -implicitDefEqProofs (disch:=omega) only [h0,h4,h6,h7,h9,ha0,hh4_0,hh6_0,hX,lma,go_sem];done)|(simp -implicitDefEqProofs (disch:=omega) only [h0,h4,h6,h7,h9,ha0,hh4_0,hh6_0,hX,lma,go_sem];rfl)))
   | false =>
    have c7:=Yr (s:=s) hx hs hk
    have d4:decide ((4:Int)=0)=false:=rfl
    simp -implicitDefEqProofs (disch:=omega) only [h0,h4,h6,h7,h9,ha0,hh4_0,hh6_0,hX,hlt,c4,w0',c5,c6,c7,d4,go_sem]
    try refine ai ?_
    refine (hI _ _).2 ⟨x,b3,?_⟩
    and_intros
    ·exact hx
    ·omega
    ·omega
    all_goals first|exact cl0|(simp -implicitDefEqProofs (disch:=omega) only [h0,h4,h6,h7,h9,ha0,hh4_0,hh6_0,hX,lma,go_sem]<;>first|(simp [Aa];done)|(simp [Aa];omega))|(simp -implicitDefEqProofs (disch:=omega) only [h0,h4,h6,h7,h9,ha0,hh4_0,hh6_0,hX,lma,go_sem]<;>(refine ⟨_,rfl,?_⟩;first|rfl|(simp -implicitDefEqProofs (disch:=omega) only [h0,h4,h6,h7,h9,ha0,hh4_0,hh6_0,hX,lma,go_sem];done)|(simp -implicitDefEqProofs (disch:=omega) only [h0,h4,h6,h7,h9,ha0,hh4_0,hh6_0,hX,lma,go_sem];rfl)))
  ·obtain ⟨r,b2,c5,hr1,hr2⟩:=V1 L b1 h hL
   by_cases w1:w=1 \/ w=2
   ·have c6:=W6 hx hs hr1 hr2 (by omega)
    have hok:=ZU hx hr1 hr2 (by omega)
    have e1:(D4 x r).now=x.now:=rfl
    have e2:(D4 x r).queue.length=x.queue.length+1:=by rw [lla,List.length_singleton]
    have e3:(D4 x r).flights=x.flights:=rfl
    generalize D4 x r=z at c6 hok e1 e2 e3
    rcases w1 with w1|w1
    ·have w1':decide (w=1)=true:=decide_eq_true w1
     simp -implicitDefEqProofs (disch:=omega) only [h0,h4,h6,h7,h9,ha0,hh4_0,hh6_0,hX,hlt,c4,w0,w1',c5,c6,go_sem]
     try refine ai ?_
     refine (hI _ _).2 ⟨z,b2,?_⟩
     and_intros
     .exact hok
     .exact by rw [e1];omega
     .exact by rw [e2,e3];omega
     all_goals first|exact cl0|(simp -implicitDefEqProofs (disch:=omega) only [h0,h4,h6,h7,h9,ha0,hh4_0,hh6_0,hX,lma,go_sem]<;>first|(simp [Aa];done)|(simp [Aa];omega))|(simp -implicitDefEqProofs (disch:=omega) only [h0,h4,h6,h7,h9,ha0,hh4_0,hh6_0,hX,lma,go_sem]<;>(refine ⟨_,rfl,?_⟩;first|rfl|(simp -implicitDefEqProofs (disch:=omega) only [h0,h4,h6,h7,h9,ha0,hh4_0,hh6_0,hX,lma,go_sem];done)|(simp -implicitDefEqProofs (disch:=omega) only [h0,h4,h6,h7,h9,ha0,hh4_0,hh6_0,hX,lma,go_sem];rfl)))
    ·have w1':decide (w=2)=true:=decide_eq_true w1
     have w2':decide (w=1)=false:=decide_eq_false (by omega)
     simp -implicitDefEqProofs (disch:=omega) only [h0,h4,h6,h7,h9,ha0,hh4_0,hh6_0,hX,hlt,c4,w0,w2',w1',c5,c6,go_sem]
     try refine ai ?_
     refine (hI _ _).2 ⟨z,b2,?_⟩
     and_intros
     .exact hok
     .exact by rw [e1];omega
     .exact by rw [e2,e3];omega
     all_goals first|exact cl0|(simp -implicitDefEqProofs (disch:=omega) only [h0,h4,h6,h7,h9,ha0,hh4_0,hh6_0,hX,lma,go_sem]<;>first|(simp [Aa];done)|(simp [Aa];omega))|(simp -implicitDefEqProofs (disch:=omega) only [h0,h4,h6,h7,h9,ha0,hh4_0,hh6_0,hX,lma,go_sem]<;>(refine ⟨_,rfl,?_⟩;first|rfl|(simp -implicitDefEqProofs (disch:=omega) only [h0,h4,h6,h7,h9,ha0,hh4_0,hh6_0,hX,lma,go_sem];done)|(simp -implicitDefEqProofs (disch:=omega) only [h0,h4,h6,h7,h9,ha0,hh4_0,hh6_0,hX,lma,go_sem];rfl)))
   ·have w1':decide (w=1)=false:=decide_eq_false (by omega)
    have w2':decide (w=2)=false:=decide_eq_false (by omega)
    have c6:=Yp hx hs (by omega)
    have hok:=X7 hx (by omega)
    have hkp:=(U4 t x).1
    have hcn:=U5 t x
    generalize BB t x=z at c6 hok hkp hcn
    simp -implicitDefEqProofs (disch:=omega) only [h0,h4,h6,h7,h9,ha0,hh4_0,hh6_0,hX,hlt,c4,w0,w1',w2',c6,go_sem]
    try refine ai ?_
    refine (hI _ _).2 ⟨z,b1,?_⟩
    and_intros
    .exact hok
    .exact by rw [hkp];omega
    .omega
    all_goals first|exact cl0|(simp -implicitDefEqProofs (disch:=omega) only [h0,h4,h6,h7,h9,ha0,hh4_0,hh6_0,hX,lma,go_sem]<;>first|(simp [Aa];done)|(simp [Aa];omega))|(simp -implicitDefEqProofs (disch:=omega) only [h0,h4,h6,h7,h9,ha0,hh4_0,hh6_0,hX,lma,go_sem]<;>(refine ⟨_,rfl,?_⟩;first|rfl|(simp -implicitDefEqProofs (disch:=omega) only [h0,h4,h6,h7,h9,ha0,hh4_0,hh6_0,hX,lma,go_sem];done)|(simp -implicitDefEqProofs (disch:=omega) only [h0,h4,h6,h7,h9,ha0,hh4_0,hh6_0,hX,lma,go_sem];rfl)))
 ·simp -implicitDefEqProofs (disch:=omega) only [h0,h4,h6,h7,h9,ha0,hh4_0,hh6_0,hX,hge,go_sem]
  exact ⟨x,b,rfl,hx,by omega,by omega⟩
def Mm (ok:Bool) (r:VVal × List Ob):Prop:=∃ v,r=(.p (.bool v),[])/\(v=true->ok=true)
theorem A6 (ok:Bool):Mm ok (.p (.bool false),[]):=⟨false,rfl,fun h=>by cases h⟩
theorem bq_of {ok v:Bool} (h:v=true->ok=true):Mm ok (.p (.bool v),[]):=⟨v,rfl,h⟩
theorem FG {f:FuncId} {vf:VFunc} (hf:prog f=some vf) {args:List VVal} {ok:Bool} (h1:ok=true->V f args []=some (.p (.bool true),[])) (h2:wp (BT V vf args []) (Mm ok)):V f args []=some (.p (.bool ok),[]):=by
 obtain ⟨r,hr,v,rfl,hv⟩:=Ml hf h2
 cases ok with
 | true=>exact h1 rfl
 | false =>
  cases v with
  | true=>exact absurd (hv rfl) (by decide)
  | false=>exact hr
theorem NJ (b:Bk):V 153 [b.vv] []=some (.p (.bool (BV b)),[]):=by
 refine FG (vf:=vf153) rfl (Gm b) ?_
 by_cases hbp:(0<=b.burst/\b.burst<=1073741824)/\1<=b.per/\b.per<=1048576
 ·have m:=BW hbp.1.1 hbp.1.2 (show 0<=b.per by omega) hbp.2.2
  simp -implicitDefEqProofs (disch:=omega) only [vf153,H0,go_sem]
  repeat' ((first|refine AN ?_ ?_|refine AM ?_ ?_|refine AQ ?_ ?_|refine AP ?_ ?_|refine AI ?_ ?_|refine AH ?_ ?_|refine AO ?_ ?_|refine AJ ?_ ?_|refine Af ?_ ?_|refine AS ?_ ?_)<;>intro hb<;>simp -implicitDefEqProofs (disch:=omega) only [hb,go_sem])
  all_goals first
   | exact A6 _
   | (refine bq_of fun h=>?_;rw [Bj,show (maxR:Int)=4611686018427387904 from rfl];simp only [decide_eq_true_eq] at *;omega)
 ·simp -implicitDefEqProofs (disch:=omega) only [vf153,H0,go_sem]
  repeat' ((first|refine AN ?_ ?_|refine AM ?_ ?_|refine AQ ?_ ?_|refine AP ?_ ?_|refine AI ?_ ?_|refine AH ?_ ?_|refine AO ?_ ?_|refine AJ ?_ ?_|refine Af ?_ ?_|refine AS ?_ ?_)<;>intro hb<;>simp -implicitDefEqProofs (disch:=omega) only [hb,go_sem])
  all_goals first
   | exact A6 _
   | (refine bq_of fun h=>?_;rw [Bj,show (maxR:Int)=4611686018427387904 from rfl];simp only [decide_eq_true_eq] at *;omega)
theorem VY (r:Rq):V 194 [r.vv] []=some (.p (.bool (Aw r)),[]):=by
 refine FG (vf:=vf194) rfl (IF r) ?_
 simp -implicitDefEqProofs (disch:=omega) only [vf194,LV,go_sem]
 repeat' ((first|refine AN ?_ ?_|refine AM ?_ ?_|refine AQ ?_ ?_|refine AP ?_ ?_|refine AI ?_ ?_|refine AH ?_ ?_|refine AO ?_ ?_|refine AJ ?_ ?_|refine Af ?_ ?_|refine AS ?_ ?_)<;>intro hb<;>simp -implicitDefEqProofs (disch:=omega) only [hb,go_sem])
 all_goals first
  | exact A6 _
  | (refine bq_of fun h=>?_;rw [CP];simp only [decide_eq_true_eq] at *;omega)
theorem YC (m:Mdl):V 101 [m.vv] []=some (.p (.bool (B3 m)),[]):=by
 refine FG (vf:=vf101) rfl (LA m) ?_
 obtain ⟨l,hll⟩:∃ l:List Int,l=[m.rb,m.rp,m.wb,m.wp,m.seek]:=⟨_,rfl⟩
 have h5:l.length=5:=by rw [hll];rfl
 simp -implicitDefEqProofs (disch:=omega) only [vf101,JE,go_sem]
 obtain ⟨I,hI⟩:=lpI fun k s=>(∀ (i:Nat) (x:Int),i<k->l[i]?=some x->0<=x/\x<=1000000)/\s.pe 3=.own (.slot 15 0) 0 0 5/\s.pe 4=.p (.int .i64 k)/\s.h (.slot 15 0)=some (0,Ob.arr 1 [PV.int IntKind.i64 m.rb,PV.int IntKind.i64 m.rp,PV.int IntKind.i64 m.wb,PV.int IntKind.i64 m.wp,PV.int IntKind.i64 m.seek])
 refine Ak (5) I ?_ ?_
 ·refine (hI _ _).2 ?_
  and_intros
  ·omega
  all_goals first|exact cl0|(simp -implicitDefEqProofs (disch:=omega) only [lma,go_sem]<;>first|(simp [Aa];done)|(simp [Aa];omega))
 intro k s hk hIk
 obtain ⟨hall,hH⟩:=(hI _ _).1 hIk
 clear hIk
 simp -implicitDefEqProofs (disch:=omega) only [hH,go_sem]
 refine Af (fun hlt=>?_) (fun hge=>?_)
 ·have hm:l[k]?=some l[k]:=lgg (by omega)
  generalize l[k]=x at hm
  have hgx:([PV.int IntKind.i64 m.rb,PV.int IntKind.i64 m.rp,PV.int IntKind.i64 m.wb,PV.int IntKind.i64 m.wp,PV.int IntKind.i64 m.seek]:List PV)[k]?=some (.int .i64 x):=by
   rw [show ([PV.int IntKind.i64 m.rb,PV.int IntKind.i64 m.rp,PV.int IntKind.i64 m.wb,PV.int IntKind.i64 m.wp,PV.int IntKind.i64 m.seek]:List PV)=l.map (PV.int .i64) by rw [hll];rfl,List.getElem?_map,hm]
   rfl
  have hs:0<=x/\x<=1000000->∀ (i:Nat) (y:Int),i<k+1->l[i]?=some y->0<=y/\y<=1000000:=fun hx i y hi hy=>by
   rcases Nat.lt_succ_iff_lt_or_eq.1 hi with h|rfl
   ·exact hall i y h hy
   ·rw [hm] at hy
    cases hy
    exact hx
  by_cases b1:x<0
  ·simp -implicitDefEqProofs (disch:=omega) only [hH,hlt,hgx,b1,go_sem]
   exact A6 _
  ·by_cases b2:1000000<x
   ·simp -implicitDefEqProofs (disch:=omega) only [hH,hlt,hgx,b1,b2,go_sem]
    exact A6 _
   ·simp -implicitDefEqProofs (disch:=omega) only [hH,hlt,hgx,b1,b2,go_sem]
    try refine ai ?_
    refine (hI _ _).2 ?_
    and_intros
    .exact hs ⟨by omega,by omega⟩
    all_goals first|exact cl0|(simp -implicitDefEqProofs (disch:=omega) only [hH,lma,go_sem]<;>first|(simp [Aa];done)|(simp [Aa];omega))
 ·simp -implicitDefEqProofs (disch:=omega) only [hH,hge,go_sem]
  refine bq_of fun _=>?_
  subst hll
  have g:=fun i x h1 h2=>hall i x (by omega) h2
  rw [EZ]
  exact ⟨hall 0 _ (by omega) rfl,hall 1 _ (by omega) rfl,hall 2 _ (by omega) rfl,hall 3 _ (by omega) rfl,hall 4 _ (by omega) rfl⟩
theorem PO (m:Mdl) (speed margin:Int):V 47 [DG m speed margin] []=some (.p (.bool (CS m speed margin)),[]):=by
 refine FG (vf:=vf47) rfl (Qu m speed margin) ?_
 have i0:=YC m
 cases hm:B3 m with
 | false =>
  rw [hm] at i0
  simp -implicitDefEqProofs (disch:=omega) only [vf47,H5,i0,go_sem]
  exact A6 _
 | true =>
  rw [hm] at i0
  simp -implicitDefEqProofs (disch:=omega) only [vf47,H5,i0,go_sem]
  repeat' ((first|refine AN ?_ ?_|refine AM ?_ ?_|refine AQ ?_ ?_|refine AP ?_ ?_|refine AI ?_ ?_|refine AH ?_ ?_|refine AO ?_ ?_|refine AJ ?_ ?_|refine Af ?_ ?_|refine AS ?_ ?_)<;>intro hb<;>simp -implicitDefEqProofs (disch:=omega) only [hb,go_sem])
  all_goals first
   | exact A6 _
   | (refine bq_of fun h=>?_;rw [D7];simp only [decide_eq_true_eq] at *;exact ⟨hm,by omega,by omega,by omega⟩)
theorem Hy {t:Tr} (ht:TreeOk t) (id:Int):V 83 [t.vv,.p (.int .i64 id)] []=some (.p (.bool (Ag t.nodes id)),[]):=by
 cases hk:Ag t.nodes id with
 | true=>exact D8 ht hk
 | false=>exact PL ht hk
theorem PK {t:Tr} (ht:TreeOk t) (r:Rq):V 154 [t.vv,r.vv] []=some (.p (.bool (Aw r && Ag t.nodes r.group)),[]):=by
 refine Ad (vf:=vf154) rfl ?_
 have i0:=VY r
 have i1:=Hy ht r.group
 cases h0:Aw r with
 | false =>
  rw [h0] at i0
  simp -implicitDefEqProofs (disch:=omega) only [vf154,Jx,i0,bfa,go_sem]
 | true =>
  rw [h0] at i0
  simp -implicitDefEqProofs (disch:=omega) only [vf154,Jx,i0,i1,bta,go_sem]
theorem FI {α:Type} {R:α->α->Prop} (tr:∀ a b c,R a b->R b c->R a c) {l:List α} {k:Nat} {c:α} (h:(l.take k).Pairwise R) (hm:l[k]?=some c) (hp:(0:Int)<k->∃ e,l[((k:Int) - 1).toNat]?=some e/\R e c):(l.take (k+1)).Pairwise R:=by
 rw [Bi hm]
 refine List.pairwise_append.2 ⟨h,List.pairwise_singleton _ _,fun x hx y hy=>?_⟩
 rw [List.mem_singleton] at hy
 subst hy
 cases k with
 | zero=>simp at hx
 | succ k =>
  obtain ⟨e,he,hr⟩:=hp (by omega)
  rw [show (((k+1:Nat):Int) - 1).toNat=k by omega] at he
  rw [Bi he] at hx h
  rcases lmp.1 hx with hx|hx
  ·exact tr _ _ _ ((List.pairwise_append.1 h).2.2 x hx e (List.mem_singleton.2 rfl)) hr
  ·rw [List.mem_singleton] at hx
   subst hx
   exact hr
theorem DX {α:Type} {p:α->Prop} {l:List α} {k:Nat} {c:α} (h:∀ x∈l.take k,p x) (hm:l[k]?=some c) (hc:p c):∀ x∈l.take (k+1),p x:=by
 rw [Bi hm]
 intro x hx
 rcases lmp.1 hx with hx|hx
 ·exact h x hx
 ·rw [List.mem_singleton] at hx
  subst hx
  exact hc
theorem IV {α:Type} {l:List α} {k:Nat} {c:α} (hm:l[k]?=some c) (hk:(0:Int)<k):∃ e,l[((k:Int) - 1).toNat]?=some e:=by
 have:=(lgs.1 hm).1
 exact ⟨_,lgg (show ((k:Int) - 1).toNat<l.length by omega)⟩
theorem H7 {α:Type} (g:α->Int):∀ a b c:α,g a<g b->g b<g c->g a<g c:=fun _ _ _ h1 h2=>Int.lt_trans h1 h2
theorem SY {α:Type} (g:α->Int):∀ a b c:α,g a<=g b->g b<=g c->g a<=g c:=fun _ _ _ h1 h2=>Int.le_trans h1 h2
theorem YB (t:Tr) (l:List Ch) (hn:t.nodes.length<1000000) (hl:l.length<1000000):V 151 [t.vv,.p (As l)] []=some (.p (.bool (EM t l)),[]):=by
 refine FG (vf:=vf151) rfl (fun h=>Lz ((Gl t l).1 h).1 ((Gl t l).1 h).2 hl) ?_
 have hc:=E2 t hn
 cases ht:AY t with
 | false =>
  rw [ht] at hc
  simp -implicitDefEqProofs (disch:=omega) only [vf151,Jz,hc,go_sem]
  exact A6 _
 | true =>
  rw [ht] at hc
  have hT:=(Bh t).1 ht
  simp -implicitDefEqProofs (disch:=omega) only [vf151,Jz,hc,go_sem]
  obtain ⟨I,hI⟩:=lpI fun k s=>(∀ c∈l.take k,Ag t.nodes c.group=true/\1<=c.own/\c.own<=10000)/\((l.take k).Pairwise fun a b=>a.group<b.group)/\s.pe 1=.p (As l)/\s.pe 2=.ptr (.slot 2 0) 0 0/\s.pe 5=.p (.int .i64 k)/\s.h (.slot 2 0)=some (0,Ob.box [.p (Ao t.nodes),.p (.int .i64 t.next)])
  refine Ak (l.length) I ?_ ?_
  ·refine (hI _ _).2 ?_
   and_intros
   ·exact by simp
   ·exact List.Pairwise.nil
   all_goals first|exact cl0|(simp -implicitDefEqProofs (disch:=omega) only [lma,go_sem]<;>first|(simp [Aa];done)|(simp [Aa];omega))
  intro k s hk hIk
  obtain ⟨hall,hpw,hH⟩:=(hI _ _).1 hIk
  clear hIk
  simp -implicitDefEqProofs (disch:=omega) only [hH,go_sem]
  refine Af (fun hlt=>?_) (fun hge=>?_)
  ·have hm:l[k]?=some l[k]:=lgg hlt
   generalize l[k]=c at hm
   have hfi:=Hy hT c.group
   cases hkn:Ag t.nodes c.group with
   | false =>
    rw [hkn] at hfi
    simp -implicitDefEqProofs (disch:=omega) only [hH,hlt,hm,hfi,go_sem]
    exact A6 _
   | true =>
    rw [hkn] at hfi
    by_cases hk0:(0:Int)<k
    ·obtain ⟨e,he⟩:=IV hm hk0
     have hk1:(0:Int)<=(k:Int) - 1:=by omega
     simp -implicitDefEqProofs (disch:=omega) only [hH,hlt,hm,hfi,hk0,hk1,he,go_sem]
     repeat' ((first|refine AN ?_ ?_|refine AM ?_ ?_|refine AQ ?_ ?_|refine AP ?_ ?_|refine AI ?_ ?_|refine AH ?_ ?_|refine AO ?_ ?_|refine AJ ?_ ?_|refine Af ?_ ?_|refine AS ?_ ?_)<;>intro hb<;>simp -implicitDefEqProofs (disch:=omega) only [hb,hH,hlt,hm,hfi,hk0,hk1,he,go_sem])
     all_goals first
      | exact A6 _
      | skip
     try refine ai ?_
     refine (hI _ _).2 ?_
     and_intros
     ·exact DX hall hm ⟨hkn,by omega,by omega⟩
     ·exact FI (H7 _) hpw hm fun _=>⟨e,he,by omega⟩
     all_goals first|exact cl0|(simp -implicitDefEqProofs (disch:=omega) only [hH,lma,go_sem]<;>first|(simp [Aa];done)|(simp [Aa];omega))
    ·simp -implicitDefEqProofs (disch:=omega) only [hH,hlt,hm,hfi,hk0,go_sem]
     repeat' ((first|refine AN ?_ ?_|refine AM ?_ ?_|refine AQ ?_ ?_|refine AP ?_ ?_|refine AI ?_ ?_|refine AH ?_ ?_|refine AO ?_ ?_|refine AJ ?_ ?_|refine Af ?_ ?_|refine AS ?_ ?_)<;>intro hb<;>simp -implicitDefEqProofs (disch:=omega) only [hb,hH,hlt,hm,hfi,hk0,go_sem])
     all_goals first
      | exact A6 _
      | skip
     try refine ai ?_
     refine (hI _ _).2 ?_
     and_intros
     .exact DX hall hm ⟨hkn,by omega,by omega⟩
     .exact FI (H7 _) hpw hm fun h=>absurd h hk0
     all_goals first|exact cl0|(simp -implicitDefEqProofs (disch:=omega) only [hH,lma,go_sem]<;>first|(simp [Aa];done)|(simp [Aa];omega))
  ·rw [ltl (by omega)] at hall hpw
   simp -implicitDefEqProofs (disch:=omega) only [hH,hge,go_sem]
   exact bq_of fun _=>(Gl t l).2 ⟨hT,fun c hc=>(hall c hc).1,hpw,fun c hc=>(hall c hc).2⟩
theorem YA (t:Tr) (l:List Dp) (hn:t.nodes.length<1000000) (hl:l.length<1000000):V 152 [t.vv,.p (BG l)] []=some (.p (.bool (AY t && BP (Ag t.nodes) none l)),[]):=by
 refine FG (vf:=vf152) rfl (fun h=>Ly ((Bh t).1 (Bool.and_eq_true_iff.1 h).1) (Bool.and_eq_true_iff.1 h).2 hl) ?_
 have hc:=E2 t hn
 cases ht:AY t with
 | false =>
  rw [ht] at hc
  simp -implicitDefEqProofs (disch:=omega) only [vf152,Jy,hc,go_sem]
  exact A6 _
 | true =>
  rw [ht] at hc
  have hT:=(Bh t).1 ht
  simp -implicitDefEqProofs (disch:=omega) only [vf152,Jy,hc,go_sem]
  obtain ⟨I,hI⟩:=lpI fun k s=>(∀ c∈l.take k,Ag t.nodes c.group=true/\(0<=c.target/\c.target<=1048576)/\1<=c.depth/\c.depth<=256)/\((l.take k).Pairwise fun a b=>a.group<b.group)/\s.pe 1=.p (BG l)/\s.pe 2=.ptr (.slot 2 0) 0 0/\s.pe 5=.p (.int .i64 k)/\s.h (.slot 2 0)=some (0,Ob.box [.p (Ao t.nodes),.p (.int .i64 t.next)])
  refine Ak (l.length) I ?_ ?_
  ·refine (hI _ _).2 ?_
   and_intros
   ·exact by simp
   ·exact List.Pairwise.nil
   all_goals first|exact cl0|(simp -implicitDefEqProofs (disch:=omega) only [hH,lma,go_sem]<;>first|(simp [Aa];done)|(simp [Aa];omega))
  intro k s hk hIk
  obtain ⟨hall,hpw,hH⟩:=(hI _ _).1 hIk
  clear hIk
  simp -implicitDefEqProofs (disch:=omega) only [hH,go_sem]
  refine Af (fun hlt=>?_) (fun hge=>?_)
  ·have hm:l[k]?=some l[k]:=lgg hlt
   generalize l[k]=c at hm
   have hfi:=Hy hT c.group
   cases hkn:Ag t.nodes c.group with
   | false =>
    rw [hkn] at hfi
    simp -implicitDefEqProofs (disch:=omega) only [hH,hlt,hm,hfi,go_sem]
    exact A6 _
   | true =>
    rw [hkn] at hfi
    by_cases hk0:(0:Int)<k
    ·obtain ⟨e,he⟩:=IV hm hk0
     have hk1:(0:Int)<=(k:Int) - 1:=by omega
     simp -implicitDefEqProofs (disch:=omega) only [hH,hlt,hm,hfi,hk0,hk1,he,go_sem]
     repeat' ((first|refine AN ?_ ?_|refine AM ?_ ?_|refine AQ ?_ ?_|refine AP ?_ ?_|refine AI ?_ ?_|refine AH ?_ ?_|refine AO ?_ ?_|refine AJ ?_ ?_|refine Af ?_ ?_|refine AS ?_ ?_)<;>intro hb<;>simp -implicitDefEqProofs (disch:=omega) only [hb,hH,hlt,hm,hfi,hk0,hk1,he,go_sem])
     all_goals first
      | exact A6 _
      | skip
     try refine ai ?_
     refine (hI _ _).2 ?_
     and_intros
     ·exact DX hall hm ⟨hkn,by omega,by omega⟩
     ·exact FI (H7 _) hpw hm fun _=>⟨e,he,by omega⟩
     all_goals first|exact cl0|(simp -implicitDefEqProofs (disch:=omega) only [hH,lma,go_sem]<;>first|(simp [Aa];done)|(simp [Aa];omega))
    ·simp -implicitDefEqProofs (disch:=omega) only [hH,hlt,hm,hfi,hk0,go_sem]
     repeat' ((first|refine AN ?_ ?_|refine AM ?_ ?_|refine AQ ?_ ?_|refine AP ?_ ?_|refine AI ?_ ?_|refine AH ?_ ?_|refine AO ?_ ?_|refine AJ ?_ ?_|refine Af ?_ ?_|refine AS ?_ ?_)<;>intro hb<;>simp -implicitDefEqProofs (disch:=omega) only [hb,hH,hlt,hm,hfi,hk0,go_sem])
     all_goals first
      | exact A6 _
      | skip
     try refine ai ?_
     refine (hI _ _).2 ?_
     and_intros
     .exact DX hall hm ⟨hkn,by omega,by omega⟩
     .exact FI (H7 _) hpw hm fun h=>absurd h hk0
     all_goals first|exact cl0|(simp -implicitDefEqProofs (disch:=omega) only [hH,lma,go_sem]<;>first|(simp [Aa];done)|(simp [Aa];omega))
  ·rw [ltl (by omega)] at hall hpw
   simp -implicitDefEqProofs (disch:=omega) only [hH,hge,go_sem]
   exact bq_of fun _=>LM hall hpw fun q hq=>by cases hq
theorem Yz (t:Tr) (x:Dv) (hn:t.nodes.length<1000000) (hs:x.Small):V 84 [t.vv,x.vv] []=some (.p (.bool (DQ t x)),[]):=by
 refine FG (vf:=vf84) rfl (fun h=>HJ (dvOk_iff.1 h) hs) ?_
 obtain ⟨hs1,hs2,hs3,hs4,hs5,hs6⟩:=id hs
 have hc:=E2 t hn
 have cf:=PO x.m x.speed x.margin
 have cw:=YB t x.weights hn hs1
 have cd:=YA t x.depths hn hs3
 have cv:=Iw t x.v hn hs4
 cases c0:AY t with
 | false =>
  rw [c0] at hc
  simp -implicitDefEqProofs (disch:=omega) only [vf84,Et,hc,go_sem]
  exact A6 _
 | true =>
 rw [c0] at hc
 rw [c0,bta] at cd
 have hT:=(Bh t).1 c0
 cases c1:CS x.m x.speed x.margin with
 | false =>
  rw [c1] at cf
  simp -implicitDefEqProofs (disch:=omega) only [vf84,Et,hc,cf,go_sem]
  exact A6 _
 | true =>
 rw [c1] at cf
 by_cases hnum:(0<=x.now/\x.now<=1048576)/\(0<=x.free/\x.free<=1125899906842624)/\0<=x.head/\x.head<=16777216
 rotate_left
 ·generalize EM t x.weights=b1 at cw
  generalize BP (Ag t.nodes) none x.depths=b2 at cd
  generalize BI t x.v=b3 at cv
  simp -implicitDefEqProofs (disch:=omega) only [vf84,Et,hc,cf,cw,cd,cv,go_sem]
  repeat' ((first|refine AN ?_ ?_|refine AM ?_ ?_|refine AQ ?_ ?_|refine AP ?_ ?_|refine AI ?_ ?_|refine AH ?_ ?_|refine AO ?_ ?_|refine AJ ?_ ?_|refine Af ?_ ?_|refine AS ?_ ?_)<;>intro hb<;>simp -implicitDefEqProofs (disch:=omega) only [hb,hc,cf,cw,cd,cv,go_sem])
  all_goals first
   | exact A6 _
   | (exfalso;omega)
 have n1:¬ x.now<0:=by omega
 have n2:¬ 1048576<x.now:=by omega
 have n3:¬ x.free<0:=by omega
 have n4:¬ 1125899906842624<x.free:=by omega
 have n5:¬ x.head<0:=by omega
 have n6:¬ 16777216<x.head:=by omega
 cases c2:EM t x.weights with
 | false =>
  rw [c2] at cw
  simp -implicitDefEqProofs (disch:=omega) only [vf84,Et,hc,cf,cw,n1,n2,n3,n4,n5,n6,go_sem]
  exact A6 _
 | true =>
 rw [c2] at cw
 cases c3:BP (Ag t.nodes) none x.depths with
 | false =>
  rw [c3] at cd
  simp -implicitDefEqProofs (disch:=omega) only [vf84,Et,hc,cf,cw,cd,n1,n2,n3,n4,n5,n6,go_sem]
  exact A6 _
 | true =>
 rw [c3] at cd
 cases c4:BI t x.v with
 | false =>
  rw [c4] at cv
  simp -implicitDefEqProofs (disch:=omega) only [vf84,Et,hc,cf,cw,cd,cv,n1,n2,n3,n4,n5,n6,go_sem]
  exact A6 _
 | true =>
 rw [c4] at cv
 by_cases hl:(256:Int)<(x.queue.length:Int)+(x.flights.length:Int)
 ·simp -implicitDefEqProofs (disch:=omega) only [vf84,Et,hc,cf,cw,cd,cv,n1,n2,n3,n4,n5,n6,hl,go_sem]
  exact A6 _
 have hvA:AscOk (Ag t.nodes) 0 1152921504606846976 x.v:=by
  unfold BI at c4
  rw [c0,bta] at c4
  exact (EG _ _ _ _).1 c4
 simp -implicitDefEqProofs (disch:=omega) only [vf84,Et,hc,cf,cw,cd,cv,n1,n2,n3,n4,n5,n6,hl,go_sem]
 obtain ⟨I,hI⟩:=lpI fun k s=>(∀ c∈x.buckets.take k,Ag t.nodes c.group=true/\Bu x.now c=true)/\((x.buckets.take k).Pairwise fun a b=>a.group<b.group)/\s.pe 2=.ptr (.slot 2 0) 0 0/\s.pe 3=.ptr (.slot 3 0) 0 0/\s.pe 5=.p (.int .i64 k)/\s.h (.slot 2 0)=some (0,Ob.box [.p (Ao t.nodes),.p (.int .i64 t.next)])/\s.h (.slot 3 0)=some (0,Ob.box (dvC x))
 refine Ak (x.buckets.length) I ?_ ?_
 ·refine (hI _ _).2 ?_
  and_intros
  ·exact by simp
  ·exact List.Pairwise.nil
  all_goals first|exact cl0|(simp -implicitDefEqProofs (disch:=omega) only [h1,h2,h5,hh2_0,lma,go_sem]<;>first|(simp [Aa];done)|(simp [Aa];omega))
 intro k s hk hIk
 obtain ⟨hall,hpw,h2,h3,h5,hh2_0,hh3_0⟩:=(hI _ _).1 hIk
 clear hIk
 simp -implicitDefEqProofs (disch:=omega) only [h2,h3,h5,hh2_0,hh3_0,go_sem]
 refine Af (fun hlt=>?_) (fun hge=>?_)
 ·have hm:x.buckets[k]?=some x.buckets[k]:=lgg hlt
  generalize x.buckets[k]=c at hm
  have hfi:=Hy hT c.group
  have i4:=HP c
  cases hkn:Ag t.nodes c.group with
  | false =>
   rw [hkn] at hfi
   simp -implicitDefEqProofs (disch:=omega) only [h2,h3,h5,hh2_0,hh3_0,hlt,hm,Cp.pv,hfi,go_sem]
   exact A6 _
  | true =>
  rw [hkn] at hfi
  obtain ⟨B,hB⟩:∃ B,B=([c.rp,c.wp,c.ro,c.wo]:List Bk):=⟨_,rfl⟩
  have hBl:B.length=4:=by rw [hB];rfl
  rw [← hB] at i4
  have hord:((0:Int)<k->∃ e,x.buckets[((k:Int) - 1).toNat]?=some e/\e.group<c.group) \/ ((0:Int)<k/\∃ e,x.buckets[((k:Int) - 1).toNat]?=some e/\c.group<=e.group):=by
   by_cases hk0:(0:Int)<k
   ·obtain ⟨e,he⟩:=IV hm hk0
    by_cases hlt':e.group<c.group
    ·exact .inl fun _=>⟨e,he,hlt'⟩
    ·exact .inr ⟨hk0,e,he,by omega⟩
   ·exact .inl fun h=>absurd h hk0
  rcases hord with hord|⟨hk0,e,he,hle⟩
  rotate_left
  ·have hk1:(0:Int)<=(k:Int) - 1:=by omega
   simp -implicitDefEqProofs (disch:=omega) only [h2,h3,h5,hh2_0,hh3_0,hlt,hm,Cp.pv,hfi,hk0,hk1,he,hle,go_sem]
   exact A6 _
  have hpw':=FI (H7 Cp.group) hpw hm hord
  have hor:((0:Int)<k/\∃ e,x.buckets[((k:Int) - 1).toNat]?=some e/\(0:Int)<=(k:Int) - 1/\¬ c.group<=e.group) \/ ¬ (0:Int)<k:=by
   by_cases hk0:(0:Int)<k
   ·obtain ⟨e,he,h1⟩:=hord hk0
    exact .inl ⟨hk0,e,he,by omega,by omega⟩
   ·exact .inr hk0
  rcases hor with ⟨hk0,e,he,hk1,hle⟩|hk0
  ·simp -implicitDefEqProofs (disch:=omega) only [h2,h3,h5,hh2_0,hh3_0,hlt,hm,Cp.pv,hfi,hk0,hk1,he,hle,i4,go_sem]
   obtain ⟨J,hJ⟩:=lpI fun j s=>∃ (v116_1:Nat),(∀ b∈B.take j,A3 x.now b=true)/\s.pe 7=.own (.slot 116 1) v116_1 0 B.length/\s.pe 8=.p (.int .i64 j)/\s.h (.slot 116 1)=some (v116_1,Ob.arr 5 (List.map Bk.pv B))/\s.pe 2=.ptr (.slot 2 0) 0 0/\s.pe 3=.ptr (.slot 3 0) 0 0/\s.pe 5=.p (.int .i64 k)/\s.h (.slot 2 0)=some (0,Ob.box [.p (Ao t.nodes),.p (.int .i64 t.next)])/\s.h (.slot 3 0)=some (0,Ob.box (dvC x))
   refine Ak (B.length) J ?_ ?_
   ·refine (hJ _ _).2 ⟨nv (BO [116] s.h (.slot 116 1)),?_⟩
    and_intros
    ·exact by simp
    all_goals first|exact cl0|(simp -implicitDefEqProofs (disch:=omega) only [h2,h3,h5,hh2_0,hh3_0,lma,go_sem]<;>first|(simp [Aa];done)|(simp [Aa];omega))
   intro j s hj hJk
   obtain ⟨v116_1,hja,h7,h8,hh116_1,h2,h3,h5,hh2_0,hh3_0⟩:=(hJ _ _).1 hJk
   clear hJk
   simp -implicitDefEqProofs (disch:=omega) only [h7,h8,hh116_1,h2,h3,h5,hh2_0,hh3_0,go_sem]
   refine Af (fun hj=>?_) (fun hje=>?_)
   ·have hbm:B[j]?=some B[j]:=lgg hj
    generalize B[j]=b at hbm
    have i5:=NJ b
    cases hv:BV b with
    | false =>
     rw [hv] at i5
     simp -implicitDefEqProofs (disch:=omega) only [h7,h8,hh116_1,h2,h3,h5,hh2_0,hh3_0,hj,hbm,i5,go_sem]
     exact A6 _
    | true =>
     rw [hv] at i5
     simp -implicitDefEqProofs (disch:=omega) only [h7,h8,hh116_1,h2,h3,h5,hh2_0,hh3_0,hj,hbm,i5,go_sem]
     repeat' ((first|refine AN ?_ ?_|refine AM ?_ ?_|refine AQ ?_ ?_|refine AP ?_ ?_|refine AI ?_ ?_|refine AH ?_ ?_|refine AO ?_ ?_|refine AJ ?_ ?_|refine Af ?_ ?_|refine AS ?_ ?_)<;>intro hb<;>simp -implicitDefEqProofs (disch:=omega) only [hb,h7,h8,hh116_1,h2,h3,h5,hh2_0,hh3_0,hj,hbm,i5,go_sem])
     all_goals first
      | exact A6 _
      | skip
     try refine ai ?_
     refine (hJ _ _).2 ⟨v116_1,?_⟩
     and_intros
     ·exact DX hja hbm (AG.2 ⟨hv,by first|assumption|omega|simp_all,by first|assumption|omega|simp_all⟩)
     all_goals first|exact cl0|(simp -implicitDefEqProofs (disch:=omega) only [h7,h8,hh116_1,h2,h3,h5,hh2_0,hh3_0,lma,go_sem]<;>first|(simp [Aa];done)|(simp [Aa];omega))
   ·rw [ltl (by omega),hB] at hja
    simp -implicitDefEqProofs (disch:=omega) only [h7,h8,hh116_1,h2,h3,h5,hh2_0,hh3_0,hje,go_sem]
    try refine ai ?_
    refine (hI _ _).2 ?_
    and_intros
    ·exact DX hall hm ⟨hkn,CR.2 ⟨hja _ (by simp),hja _ (by simp),hja _ (by simp),hja _ (by simp)⟩⟩
    ·exact hpw'
    all_goals first|exact cl0|(simp -implicitDefEqProofs (disch:=omega) only [h7,h8,hh116_1,h2,h3,h5,hh2_0,hh3_0,lma,go_sem]<;>first|(simp [Aa];done)|(simp [Aa];omega))
  ·simp -implicitDefEqProofs (disch:=omega) only [h2,h3,h5,hh2_0,hh3_0,hlt,hm,Cp.pv,hfi,hk0,i4,go_sem]
   obtain ⟨J,hJ⟩:=lpI fun j s=>∃ (v116_1:Nat),(∀ b∈B.take j,A3 x.now b=true)/\s.pe 7=.own (.slot 116 1) v116_1 0 B.length/\s.pe 8=.p (.int .i64 j)/\s.h (.slot 116 1)=some (v116_1,Ob.arr 5 (List.map Bk.pv B))/\s.pe 2=.ptr (.slot 2 0) 0 0/\s.pe 3=.ptr (.slot 3 0) 0 0/\s.pe 5=.p (.int .i64 k)/\s.h (.slot 2 0)=some (0,Ob.box [.p (Ao t.nodes),.p (.int .i64 t.next)])/\s.h (.slot 3 0)=some (0,Ob.box (dvC x))
   refine Ak (B.length) J ?_ ?_
   ·refine (hJ _ _).2 ⟨nv (BO [116] s.h (.slot 116 1)),?_⟩
    and_intros
    ·exact by simp
    all_goals first|exact cl0|(simp -implicitDefEqProofs (disch:=omega) only [h7,h8,hh116_1,h2,h3,h5,hh2_0,hh3_0,lma,go_sem]<;>first|(simp [Aa];done)|(simp [Aa];omega))
   intro j s hj hJk
   obtain ⟨v116_1,hja,h7,h8,hh116_1,h2,h3,h5,hh2_0,hh3_0⟩:=(hJ _ _).1 hJk
   clear hJk
   simp -implicitDefEqProofs (disch:=omega) only [h7,h8,hh116_1,h2,h3,h5,hh2_0,hh3_0,go_sem]
   refine Af (fun hj=>?_) (fun hje=>?_)
   ·have hbm:B[j]?=some B[j]:=lgg hj
    generalize B[j]=b at hbm
    have i5:=NJ b
    cases hv:BV b with
    | false =>
     rw [hv] at i5
     simp -implicitDefEqProofs (disch:=omega) only [h7,h8,hh116_1,h2,h3,h5,hh2_0,hh3_0,hj,hbm,i5,go_sem]
     exact A6 _
    | true =>
     rw [hv] at i5
     simp -implicitDefEqProofs (disch:=omega) only [h7,h8,hh116_1,h2,h3,h5,hh2_0,hh3_0,hj,hbm,i5,go_sem]
     repeat' ((first|refine AN ?_ ?_|refine AM ?_ ?_|refine AQ ?_ ?_|refine AP ?_ ?_|refine AI ?_ ?_|refine AH ?_ ?_|refine AO ?_ ?_|refine AJ ?_ ?_|refine Af ?_ ?_|refine AS ?_ ?_)<;>intro hb<;>simp -implicitDefEqProofs (disch:=omega) only [hb,h7,h8,hh116_1,h2,h3,h5,hh2_0,hh3_0,hj,hbm,i5,go_sem])
     all_goals first
      | exact A6 _
      | skip
     try refine ai ?_
     refine (hJ _ _).2 ⟨v116_1,?_⟩
     and_intros
     ·exact DX hja hbm (AG.2 ⟨hv,by first|assumption|omega|simp_all,by first|assumption|omega|simp_all⟩)
     all_goals first|exact cl0|(simp -implicitDefEqProofs (disch:=omega) only [h7,h8,hh116_1,h2,h3,h5,hh2_0,hh3_0,lma,go_sem]<;>first|(simp [Aa];done)|(simp [Aa];omega))
   ·rw [ltl (by omega),hB] at hja
    simp -implicitDefEqProofs (disch:=omega) only [h7,h8,hh116_1,h2,h3,h5,hh2_0,hh3_0,hje,go_sem]
    try refine ai ?_
    refine (hI _ _).2 ?_
    and_intros
    ·exact DX hall hm ⟨hkn,CR.2 ⟨hja _ (by simp),hja _ (by simp),hja _ (by simp),hja _ (by simp)⟩⟩
    ·exact hpw'
    all_goals first|exact cl0|(simp -implicitDefEqProofs (disch:=omega) only [h7,h8,hh116_1,h2,h3,h5,hh2_0,hh3_0,lma,go_sem]<;>first|(simp [Aa];done)|(simp [Aa];omega))
 ·rw [List.take_of_length_le (by omega)] at hall hpw
  simp -implicitDefEqProofs (disch:=omega) only [h2,h3,h5,hh2_0,hh3_0,hge,go_sem]
  obtain ⟨M,hM⟩:=lpI fun m s=>(∀ r∈x.queue.take m,Aw r=true/\Ag t.nodes r.group=true)/\s.pe 2=.ptr (.slot 2 0) 0 0/\s.pe 3=.ptr (.slot 3 0) 0 0/\s.pe 9=.p (.int .i64 m)/\s.h (.slot 2 0)=some (0,Ob.box [.p (Ao t.nodes),.p (.int .i64 t.next)])/\s.h (.slot 3 0)=some (0,Ob.box (dvC x))
  refine Ak (x.queue.length) M ?_ ?_
  ·refine (hM _ _).2 ?_
   and_intros
   ·exact by simp
   all_goals first|exact cl0|(simp -implicitDefEqProofs (disch:=omega) only [h7,h8,hh116_1,h2,h3,h5,hh2_0,hh3_0,lma,go_sem]<;>first|(simp [Aa];done)|(simp [Aa];omega))
  intro m s hm hMk
  obtain ⟨hqa,h2,h3,h9,hh2_0,hh3_0⟩:=(hM _ _).1 hMk
  clear hMk
  simp -implicitDefEqProofs (disch:=omega) only [h2,h3,h9,hh2_0,hh3_0,go_sem]
  refine Af (fun hq=>?_) (fun hqe=>?_)
  ·have hm:x.queue[m]?=some x.queue[m]:=lgg hq
   generalize x.queue[m]=r at hm
   have i6:=PK hT r
   cases hr:(Aw r && Ag t.nodes r.group) with
   | false =>
    rw [hr] at i6
    simp -implicitDefEqProofs (disch:=omega) only [h2,h3,h9,hh2_0,hh3_0,hq,hm,i6,go_sem]
    exact A6 _
   | true =>
    rw [hr] at i6
    simp -implicitDefEqProofs (disch:=omega) only [h2,h3,h9,hh2_0,hh3_0,hq,hm,i6,go_sem]
    try refine ai ?_
    refine (hM _ _).2 ?_
    and_intros
    ·exact DX hqa hm (by simpa using hr)
    all_goals first|exact cl0|(simp -implicitDefEqProofs (disch:=omega) only [h2,h3,h9,hh2_0,hh3_0,lma,go_sem]<;>first|(simp [Aa];done)|(simp [Aa];omega))
  ·rw [ltl (by omega)] at hqa
   simp -implicitDefEqProofs (disch:=omega) only [h2,h3,h9,hh2_0,hh3_0,hqe,go_sem]
   obtain ⟨N,hN⟩:=lpI fun n s=>(∀ f∈x.flights.take n,(Aw f.r=true/\Ag t.nodes f.r.group=true)/\0<=f.done/\f.done<=1125899906842624)/\((x.flights.take n).Pairwise fun a b=>a.done<=b.done)/\s.pe 2=.ptr (.slot 2 0) 0 0/\s.pe 3=.ptr (.slot 3 0) 0 0/\s.pe 10=.p (.int .i64 n)/\s.h (.slot 2 0)=some (0,Ob.box [.p (Ao t.nodes),.p (.int .i64 t.next)])/\s.h (.slot 3 0)=some (0,Ob.box (dvC x))
   refine Ak (x.flights.length) N ?_ ?_
   ·refine (hN _ _).2 ?_
    and_intros
    ·exact by simp
    ·exact List.Pairwise.nil
    all_goals first|exact cl0|(simp -implicitDefEqProofs (disch:=omega) only [h2,h3,h9,hh2_0,hh3_0,lma,go_sem]<;>first|(simp [Aa];done)|(simp [Aa];omega))
   intro n s hn hNk
   obtain ⟨hfa,hfp,h2,h3,h10,hh2_0,hh3_0⟩:=(hN _ _).1 hNk
   clear hNk
   simp -implicitDefEqProofs (disch:=omega) only [h2,h3,h10,hh2_0,hh3_0,go_sem]
   refine Af (fun hf=>?_) (fun hfe=>?_)
   ·have hm:x.flights[n]?=some x.flights[n]:=lgg hf
    generalize x.flights[n]=f at hm
    have i6:=PK hT f.r
    cases hr:(Aw f.r && Ag t.nodes f.r.group) with
    | false =>
     rw [hr] at i6
     simp -implicitDefEqProofs (disch:=omega) only [h2,h3,h10,hh2_0,hh3_0,hf,hm,Fl.pv,i6,go_sem]
     exact A6 _
    | true =>
     rw [hr] at i6
     by_cases hn0:(0:Int)<n
     ·obtain ⟨e,he⟩:=IV hm hn0
      have hn1:(0:Int)<=(n:Int) - 1:=by omega
      simp -implicitDefEqProofs (disch:=omega) only [h2,h3,h10,hh2_0,hh3_0,hf,hm,Fl.pv,i6,hn0,hn1,he,go_sem]
      repeat' ((first|refine AN ?_ ?_|refine AM ?_ ?_|refine AQ ?_ ?_|refine AP ?_ ?_|refine AI ?_ ?_|refine AH ?_ ?_|refine AO ?_ ?_|refine AJ ?_ ?_|refine Af ?_ ?_|refine AS ?_ ?_)<;>intro hb<;>simp -implicitDefEqProofs (disch:=omega) only [hb,h2,h3,h10,hh2_0,hh3_0,hf,hm,Fl.pv,i6,hn0,hn1,he,go_sem])
      all_goals first
       | exact A6 _
       | skip
      try refine ai ?_
      refine (hN _ _).2 ?_
      and_intros
      ·exact DX hfa hm ⟨by simpa using hr,by omega,by omega⟩
      ·exact FI (SY Fl.done) hfp hm fun _=>⟨e,he,by omega⟩
      all_goals first|exact cl0|(simp -implicitDefEqProofs (disch:=omega) only [h2,h3,h10,hh2_0,hh3_0,lma,go_sem]<;>first|(simp [Aa];done)|(simp [Aa];omega))
     ·simp -implicitDefEqProofs (disch:=omega) only [h2,h3,h10,hh2_0,hh3_0,hf,hm,Fl.pv,i6,hn0,go_sem]
      repeat' ((first|refine AN ?_ ?_|refine AM ?_ ?_|refine AQ ?_ ?_|refine AP ?_ ?_|refine AI ?_ ?_|refine AH ?_ ?_|refine AO ?_ ?_|refine AJ ?_ ?_|refine Af ?_ ?_|refine AS ?_ ?_)<;>intro hb<;>simp -implicitDefEqProofs (disch:=omega) only [hb,h2,h3,h10,hh2_0,hh3_0,hf,hm,Fl.pv,i6,hn0,go_sem])
      all_goals first
       | exact A6 _
       | skip
      try refine ai ?_
      refine (hN _ _).2 ?_
      and_intros
      .exact DX hfa hm ⟨by simpa using hr,by omega,by omega⟩
      .exact FI (SY Fl.done) hfp hm fun h=>absurd h hn0
      all_goals first|exact cl0|(simp -implicitDefEqProofs (disch:=omega) only [h2,h3,h10,hh2_0,hh3_0,lma,go_sem]<;>first|(simp [Aa];done)|(simp [Aa];omega))
   ·rw [ltl (by omega)] at hfa hfp
    simp -implicitDefEqProofs (disch:=omega) only [h2,h3,h10,hh2_0,hh3_0,hfe,go_sem]
    exact bq_of fun _=>dvOk_iff.2 ⟨hT,c1,hnum.1,hnum.2.1,hnum.2.2,((Gl t x.weights).1 c2).2,c3,hvA,by omega,Cx.2 ⟨hall,hpw,fun q hq=>by cases hq⟩,hqa,Ec.2 ⟨hfa,hfp,fun q hq=>by cases hq⟩⟩
class El (α:Type) where
 pv:α->PV
 sz:Nat
instance : El Ch:=⟨Ch.pv,2⟩
instance : El Cp:=⟨Cp.pv,21⟩
instance : El Dp:=⟨Dp.pv,3⟩
instance : El Rq:=⟨Rq.pv,6⟩
theorem elW:(El.pv:Ch->PV)=Ch.pv:=rfl
theorem elC:(El.pv:Cp->PV)=Cp.pv:=rfl
theorem elD:(El.pv:Dp->PV)=Dp.pv:=rfl
theorem elQ:(El.pv:Rq->PV)=Rq.pv:=rfl
theorem esW:El.sz Ch=2:=rfl
theorem esC:El.sz Cp=21:=rfl
theorem esD:El.sz Dp=3:=rfl
theorem esQ:El.sz Rq=6:=rfl
attribute [go_sem] elC elD elQ elW esC esD esQ esW
abbrev szL {α:Type} [El α] (_:List α):Nat:=El.sz α
theorem szLe {α:Type} [El α] (l:List α):szL l=El.sz α:=rfl
attribute [go_sem] szLe
abbrev HB (t:Tr):Ob:=.box [.p (Ao t.nodes),.p (.int .i64 t.next)]
def CE {α:Type} [El α] (cl:FuncId) (K:α->Bool) (t:Tr):Prop:=∀ c:α,V cl [.agg ((El.pv c).cells.map .p),.ptr (.arg 0 0) 0 0] [HB t]=some (.p (.bool (!K c)),[HB t])
def F5 {α:Type} [El α] (f cl:FuncId) (K:α->Bool) (t:Tr) (xs:List α):Prop:=V f [.own (.arg 0 0) 0 0 xs.length,.fn cl [.ptr (.arg 1 0) 0 0]] [.arr (El.sz α) (xs.map El.pv),HB t]=some (.p (.int .i64 (BU (fun c=>!K c) xs)),[.arr (El.sz α) (xs.map El.pv),HB t])
def F6 {α:Type} [El α] (f cl:FuncId) (z:α) (K:α->Bool) (t:Tr) (xs:List α):Prop:=V f [.own (.arg 0 0) 0 0 xs.length,.fn cl [.ptr (.arg 1 0) 0 0]] [.arr (El.sz α) (xs.map El.pv),HB t]=some (.own (.arg 0 0) 0 0 (xs.filter K).length,[.arr (El.sz α) ((xs.filter K).map El.pv++List.replicate (xs.length - (xs.filter K).length) (El.pv z)),HB t])
theorem Wt {α:Type} {k:α->Bool} {l:List α} {i:Nat} {x:α} (h3:∀ (j:Nat) (n:α),j<i->l[j]?=some n->(!k n)=false) (h4:l[i]?=some x) (h5:(!k x)=true):(l.take (i+1)).filter k=l.take i:=by
 have hx:k x=false:=by simpa using h5
 rw [Bi h4,List.filter_append,List.filter_eq_self.2 fun y hy=>by
  obtain ⟨j,hj⟩:=lgm hy
  have hl:=(lgs.1 hj).1
  rw [llt] at hl
  rw [List.getElem?_take_of_lt (by omega)] at hj
  have:=h3 j y (by omega) hj
  simpa using this]
 simp [hx]
theorem adjs (t:Tr) (hn:t.nodes.length<1000000):CE 72 (fun c:Ch=>Ag t.nodes c.group) t/\CE 75 (fun c:Cp=>Ag t.nodes c.group) t/\CE 77 (fun c:Dp=>Ag t.nodes c.group) t/\CE 79 (fun c:Ch=>Ag t.nodes c.group) t/\CE 81 (fun c:Rq=>Ag t.nodes c.group) t:=by
 refine ⟨?_,?_,?_,?_,?_⟩<;>intro c<;>have i0:=Ht t c.group hn<;>simp only [elC,elD,elQ,elW,esC,esD,esQ,esW,Ch.pv,Cp.pv,Dp.pv,Rq.pv,PV.cells,lpc,lpn]
 all_goals
  first|refine Ad (vf:=vf72) rfl ?_|refine Ad (vf:=vf75) rfl ?_|refine Ad (vf:=vf77) rfl ?_|refine Ad (vf:=vf79) rfl ?_|refine Ad (vf:=vf81) rfl ?_
  simp -implicitDefEqProofs (disch:=omega) only [vf72,Si,vf75,Sf,vf77,Se,vf79,Sd,vf81,Sc,i0,go_sem]
theorem idxs (t:Tr):(∀ cl K,CE cl K t->∀ xs:List Ch,xs.length<1000000->F5 144 cl K t xs)/\(∀ cl K,CE cl K t->∀ xs:List Cp,xs.length<1000000->F5 146 cl K t xs)/\(∀ cl K,CE cl K t->∀ xs:List Dp,xs.length<1000000->F5 147 cl K t xs)/\(∀ cl K,CE cl K t->∀ xs:List Ch,xs.length<1000000->F5 148 cl K t xs)/\(∀ cl K,CE cl K t->∀ xs:List Rq,xs.length<1000000->F5 121 cl K t xs):=by
 refine ⟨?_,?_,?_,?_,?_⟩<;>intro cl K hadj ns hl<;>unfold F5<;>simp only [CE,elC,elD,elQ,elW,esC,esD,esQ,esW,Ch.pv,Cp.pv,Dp.pv,Rq.pv,PV.cells,lpc,lpn] at hadj
 all_goals
  first|refine Ad (vf:=vf144) rfl ?_|refine Ad (vf:=vf146) rfl ?_|refine Ad (vf:=vf147) rfl ?_|refine Ad (vf:=vf148) rfl ?_|refine Ad (vf:=vf121) rfl ?_
  simp -implicitDefEqProofs (disch:=omega) only [vf144,RG,vf146,L5,vf147,RF,vf148,RD,vf121,JA,go_sem]
  obtain ⟨I,hI⟩:=lpI fun k s=>(∀ (i:Nat) (n:_),i<k->ns[i]?=some n->(!K n)=false)/\s.pe 0=.own (.arg 0 0) 0 0 ns.length/\s.pe 1=.fn cl [.ptr (.arg 1 0) 0 0]/\s.pe 7=.p (.int .i64 ns.length)/\s.pe 8=.p (.int .i64 k)/\s.h (.arg 0 0)=some (0,Ob.arr (szL ns) (ns.map El.pv))/\s.h (.arg 1 0)=some (0,HB t)
  refine Ak (ns.length) I ?_ ?_
  ·refine (hI _ _).2 ?_
   and_intros
   ·omega
   all_goals first|exact cl0|(simp -implicitDefEqProofs (disch:=omega) only [lma,go_sem]<;>first|(simp [Aa,elC,elD,elQ,elW,esC,esD,esQ,esW];done)|(simp [Aa,elC,elD,elQ,elW,esC,esD,esQ,esW];omega))
  intro k s hk hIk
  obtain ⟨hall,hH⟩:=(hI _ _).1 hIk
  clear hIk
  simp -implicitDefEqProofs (disch:=omega) only [hH,go_sem]
  refine Af (fun hlt=>?_) (fun hge=>?_)
  ·have hm:ns[k]?=some ns[k]:=lgg hlt
   generalize ns[k]=m at hm
   have hc:=hadj m
   cases hb:(!K m) with
   | true =>
    rw [hb] at hc
    have hi:=FL (p:=fun c=>!K c) hm hall hb
    simp -implicitDefEqProofs (disch:=omega) only [hH,hlt,hm,hc,Cp.pv,Dp.pv,Rq.pv,hi,go_sem]
   | false =>
    rw [hb] at hc
    have ha:=GJ (p:=fun c=>!K c) hm hall hb
    simp -implicitDefEqProofs (disch:=omega) only [hH,hlt,hm,hc,Cp.pv,Dp.pv,Rq.pv,go_sem]
    try refine ai ?_
    refine (hI _ _).2 ?_
    and_intros
    .exact ha
    all_goals first|exact cl0|(simp -implicitDefEqProofs (disch:=omega) only [hH,lma,go_sem]<;>first|(simp [Aa,elC,elD,elQ,elW,esC,esD,esQ,esW];done)|(simp [Aa,elC,elD,elQ,elW,esC,esD,esQ,esW];omega))
  ·have hi:BU (fun c=>!K c) ns=-1:=FB fun n hn=>by
    obtain ⟨i,hi⟩:=lgm hn
    exact hall i n (by have:=(lgs.1 hi).1;omega) hi
   rw [hi]
   simp -implicitDefEqProofs (disch:=omega) only [hH,hge,go_sem]
theorem dels (t:Tr):(∀ cl K,CE cl K t->∀ xs:List Ch,xs.length<1000000->F6 71 cl ⟨0,0⟩ K t xs)/\(∀ cl K,CE cl K t->∀ xs:List Cp,xs.length<1000000->F6 74 cl ⟨0,⟨0,0,0,0,0⟩,⟨0,0,0,0,0⟩,⟨0,0,0,0,0⟩,⟨0,0,0,0,0⟩⟩ K t xs)/\(∀ cl K,CE cl K t->∀ xs:List Dp,xs.length<1000000->F6 76 cl ⟨0,0,0⟩ K t xs)/\(∀ cl K,CE cl K t->∀ xs:List Ch,xs.length<1000000->F6 78 cl ⟨0,0⟩ K t xs)/\(∀ cl K,CE cl K t->∀ xs:List Rq,xs.length<1000000->F6 80 cl ⟨0,0,0,0,false,0⟩ K t xs):=by
 obtain ⟨x1,x2,x3,x4,x5⟩:=idxs t
 refine ⟨?_,?_,?_,?_,?_⟩<;>intro cl K hadj xs hl
 all_goals
  first
   | have hi:=And.intro (x1 cl K hadj xs hl) (x4 cl K hadj xs hl)
   | have hi:=x2 cl K hadj xs hl
   | have hi:=x3 cl K hadj xs hl
   | have hi:=x5 cl K hadj xs hl
  unfold F6
  simp only [F5,elC,elD,elQ,elW,esC,esD,esQ,esW] at hi
  simp only [CE,elC,elD,elQ,elW,esC,esD,esQ,esW,Ch.pv,Cp.pv,Dp.pv,Rq.pv,PV.cells,lpc,lpn] at hadj
  first|refine Ad (vf:=vf71) rfl ?_|refine Ad (vf:=vf74) rfl ?_|refine Ad (vf:=vf76) rfl ?_|refine Ad (vf:=vf78) rfl ?_|refine Ad (vf:=vf80) rfl ?_
  rcases Fx (fun c=>!K c) xs with ⟨h1,h2⟩|⟨i,x0,h2,h4,h5,h3⟩
  ·simp only [h1] at hi
   have hfl:xs.filter K=xs:=List.filter_eq_self.2 fun x hx=>by have:=h2 x hx;simpa using this
   rw [hfl]
   have hd:decide ((-1:Int)=-1)=true:=rfl
   simp -implicitDefEqProofs (disch:=omega) only [vf71,Mr,vf74,Mq,vf76,Mp,vf78,Mo,vf80,Mn,hi,hd,go_sem]
   simp
  ·simp only [h2] at hi
   have hil:=(lgs.1 h4).1
   have hne:¬ ((i:Nat):Int)=-1:=by omega
   have hfi:=Wt (k:=K) h3 h4 h5
   simp -implicitDefEqProofs (disch:=omega) only [vf71,Mr,vf74,Mq,vf76,Mp,vf78,Mo,vf80,Mn,hi,hne,go_sem]
   obtain ⟨I,hI⟩:=lpI fun k s=>∃ (m:Nat) (A:List _),A.take m=(xs.take (i+1+k)).filter K/\A.drop (i+1+k)=xs.drop (i+1+k)/\A.length=xs.length/\(m<i+1+k)/\s.pe 0=.own (.arg 0 0) 0 0 xs.length/\s.pe 1=.fn cl [.ptr (.arg 1 0) 0 0]/\s.pe 5=.p (.int .i64 (m:Nat))/\s.pe 6=.p (.int .i64 ((i+1+k:Nat):Int))/\s.h (.arg 0 0)=some (0,Ob.arr (szL xs) (A.map El.pv))/\s.h (.arg 1 0)=some (0,HB t)
   refine Ak ((xs.length - (i+1))) I ?_ ?_
   ·refine (hI _ _).2 ⟨i,xs,?_⟩
    and_intros
    ·exact hfi.symm
    ·rfl
    ·rfl
    ·omega
    all_goals first|exact cl0|(simp -implicitDefEqProofs (disch:=omega) only [h0,h1,h7,h8,ha0,ha1,lma,go_sem]<;>first|(simp [Aa,elC,elD,elQ,elW,esC,esD,esQ,esW];done)|(simp [Aa,elC,elD,elQ,elW,esC,esD,esQ,esW];omega))
   intro k s hk hIk
   obtain ⟨m,A,hm1,hm2,hal,hmk,h0,h1,h5,h6,ha0,ha1⟩:=(hI _ _).1 hIk
   clear hIk
   generalize hq:i+1+k=q at hm1 hm2 hmk h6
   simp -implicitDefEqProofs (disch:=omega) only [h0,h1,h5,h6,ha0,ha1,go_sem]
   refine Af (fun hlt=>?_) (fun hge=>?_)
   ·have hql:q<xs.length:=by omega
    have hm:xs[q]?=some xs[q]:=lgg hql
    have htk:=Bi hm
    have hAx:A[q]?=xs[q]?:=by
     have:=congrArg (fun l=>l[0]?) hm2
     simpa using this
    rw [hm] at hAx
    have hdr:A.drop (q+1)=xs.drop (q+1):=by
     have:=congrArg (List.drop 1) hm2
     simpa [List.drop_drop] using this
    generalize xs[q]=x at hm htk hAx
    have h1f:=hadj x
    have hml:m<A.length:=by omega
    have hAm:A[m]?=some A[m]:=lgg hml
    generalize A[m]=y at hAm
    have hq2:i+1+(k+1)=q+1:=by omega
    cases hp:K x with
    | true =>
     rw [hp] at h1f
     have e1:(A.set m x).take (m+1)=(xs.take (q+1)).filter K:=by
      rw [htk,List.filter_append,<- hm1,List.take_add_one,List.getElem?_set_self hml,List.take_set_of_le (lrf m)]
      simp [hp]
     have e2:(A.set m x).drop (q+1)=xs.drop (q+1):=by rw [List.drop_set_of_lt (by omega),hdr]
     have hset:(A.map El.pv).set m (El.pv x)=(A.set m x).map El.pv:=by rw [List.map_set]
     simp only [elC,elD,elQ,elW,esC,esD,esQ,esW,Ch.pv,Cp.pv,Dp.pv,Rq.pv] at hset
     simp -implicitDefEqProofs (disch:=omega) only [h0,h1,h5,h6,ha0,ha1,hlt,hAx,h1f,hAm,hset,Cp.pv,Dp.pv,Rq.pv,go_sem]
     try refine ai ?_
     refine (hI _ _).2 ⟨m+1,A.set m x,?_⟩
     and_intros
     ·exact by rw [hq2];exact e1
     ·exact by rw [hq2];exact e2
     ·exact by rw [List.length_set];exact hal
     ·omega
     all_goals first|exact cl0|(simp -implicitDefEqProofs (disch:=omega) only [h0,h1,h5,h6,ha0,ha1,hq2,lma,go_sem]<;>first|(simp [Aa,elC,elD,elQ,elW,esC,esD,esQ,esW];done)|(simp [Aa,elC,elD,elQ,elW,esC,esD,esQ,esW];omega))
    | false =>
     rw [hp] at h1f
     have e1:A.take m=(xs.take (q+1)).filter K:=by
      rw [htk,List.filter_append,<- hm1]
      simp [hp]
     simp -implicitDefEqProofs (disch:=omega) only [h0,h1,h5,h6,ha0,ha1,hlt,hAx,h1f,Cp.pv,Dp.pv,Rq.pv,go_sem]
     try refine ai ?_
     refine (hI _ _).2 ⟨m,A,?_⟩
     and_intros
     .exact by rw [hq2];exact e1
     .exact by rw [hq2];exact hdr
     .exact hal
     .omega
     all_goals first|exact cl0|(simp -implicitDefEqProofs (disch:=omega) only [h0,h1,h5,h6,ha0,ha1,hq2,lma,go_sem]<;>first|(simp [Aa,elC,elD,elQ,elW,esC,esD,esQ,esW];done)|(simp [Aa,elC,elD,elQ,elW,esC,esD,esQ,esW];omega))
   ·have hqe:q=xs.length:=by omega
    rw [hqe,ltl (lrf _)] at hm1
    have hml:m=(xs.filter K).length:=by
     have:=congrArg List.length hm1
     rw [llt] at this
     omega
    simp -implicitDefEqProofs (disch:=omega) only [h0,h1,h5,h6,ha0,ha1,hge,go_sem]
    have e1:List.take m (A.map El.pv)=(xs.filter K).map El.pv:=by rw [<- List.map_take,hm1]
    have e2:∀ z:PV,List.drop (m+(List.replicate (xs.length - m) z).length) (A.map El.pv)=[]:=fun z=>ldl (by simp;omega)
    simp only [elC,elD,elQ,elW,esC,esD,esQ,esW] at e1 e2
    rw [e1,e2,lan,Nat.sub_zero,hml]
    all_goals simp [Cp.pv,Dp.pv,Rq.pv]
instance : El Fl:=⟨Fl.pv,7⟩
theorem elF:(El.pv:Fl->PV)=Fl.pv:=rfl
theorem esF:El.sz Fl=7:=rfl
attribute [go_sem] elF esF
def Ha {α:Type} [El α] (f:FuncId) (l:List α):Prop:=l.length<1000000->V f [.p (.slice (El.sz α) (l.map El.pv)),.p (.slice (El.sz α) (l.map El.pv))] []=some (.p (.bool true),[])
theorem sams:(∀ l:List Ch,Ha 64 l)/\(∀ l:List Cp,Ha 65 l)/\(∀ l:List Dp,Ha 66 l)/\(∀ l:List Ch,Ha 67 l)/\(∀ l:List Rq,Ha 24 l)/\(∀ l:List Fl,Ha 68 l):=by
 refine ⟨?_,?_,?_,?_,?_,?_⟩<;>intro l hl
 all_goals
  first|refine Ad (vf:=vf64) rfl ?_|refine Ad (vf:=vf65) rfl ?_|refine Ad (vf:=vf66) rfl ?_|refine Ad (vf:=vf67) rfl ?_|refine Ad (vf:=vf24) rfl ?_|refine Ad (vf:=vf68) rfl ?_
  have hd:decide ((l.length:Int)=l.length)=true:=decide_eq_true rfl
  simp -implicitDefEqProofs (disch:=omega) only [vf64,So,vf65,Sn,vf66,Sm,vf67,Sl,vf24,SL,vf68,Sk,hd,go_sem]
  obtain ⟨I,hI⟩:=lpI fun k s=>s.pe 0=.p (.slice (szL l) (l.map El.pv))/\s.pe 1=.p (.slice (szL l) (l.map El.pv))/\s.pe 5=.p (.int .i64 k)
  refine Ak (l.length) I ?_ ?_
  ·refine (hI _ _).2 ⟨?_,?_,?_⟩
   all_goals first|exact cl0|(simp -implicitDefEqProofs (disch:=omega) only [lma,go_sem]<;>first|(simp [Aa];done)|(simp [Aa];omega))
  intro k s hk hIk
  obtain hH:=(hI _ _).1 hIk
  clear hIk
  simp -implicitDefEqProofs (disch:=omega) only [hH,go_sem]
  refine Af (fun hlt=>?_) (fun hge=>?_)
  ·have hm:l[k]?=some l[k]:=lgg hlt
   generalize l[k]=r at hm
   simp -implicitDefEqProofs (disch:=omega) only [hH,hlt,hm,Cp.pv,Dp.pv,Rq.pv,Fl.pv,Dq,eq0,beq_self_eq_true,bas,bau,go_sem]
   try refine ai ?_
   refine (hI _ _).2 ⟨?_,?_,?_⟩
   all_goals first|exact cl0|(simp -implicitDefEqProofs (disch:=omega) only [hH,lma,go_sem]<;>first|(simp [Aa];done)|(simp [Aa];omega))
  .simp -implicitDefEqProofs (disch:=omega) only [hH,hge,go_sem]
theorem KL (x:Dv) (hs:x.Small):V 29 [x.vv,x.vv] []=some (.p (.bool true),[]):=by
 refine Ad (vf:=vf29) rfl ?_
 obtain ⟨g1,g2,g3,g4,g5,g6⟩:=sams
 have i1:=g1 x.weights hs.w
 have i2:=g2 x.buckets hs.b
 have i3:=g3 x.depths hs.p
 have i4:=g4 x.v hs.v
 have i5:=g5 x.queue hs.q
 have i6:=g6 x.flights hs.f
 simp only [elC,elD,elQ,elW,elF,esC,esD,esQ,esW,esF] at i1 i2 i3 i4 i5 i6
 have d1:∀ n:Int,decide (n=n)=true:=fun n=>decide_eq_true rfl
 simp -implicitDefEqProofs (disch:=omega) only [vf29,SJ,Dq,eq0,beq_self_eq_true,bas,bau,d1,i1,i2,i3,i4,i5,i6,go_sem]
def OddQ (L:List Int) (r:VVal × List Ob):Prop:=∃ (y:Dv) (b:Nat),r=(y.fv,[AK L b])/\y.Small
theorem YP (L:List Int) (a:Nat) (x:Dv) (hL:L.length<4611686018427387904) (h1:x.weights.length<1000) (h2:x.buckets.length<1000) (h3:x.depths.length<1000) (h4:x.v.length<1000) (h5:x.queue.length<1000) (h6:x.flights.length<1000):∃ (y:Dv) (b:Nat),V 30 [.ptr (.arg 0 0) 0 0,x.vv] [AK L a]=some (y.fv,[AK L b])/\y.Small:=by
 suffices hw:wp (BT V vf30 [.ptr (.arg 0 0) 0 0,x.vv] [AK L a]) (OddQ L) by
  obtain ⟨r,hr,y,b,e,h1⟩:=Ml (f:=30) rfl hw
  subst e
  exact ⟨y,b,hr,h1⟩
 have c0:=Gn x ⟨by omega,by omega,by omega,by omega,by omega,by omega⟩ (by omega) (by omega)
 have c1:=CK L a 9 hL (by omega)
 have n0:=Cf L a 9
 have n1:=Cg L a (n:=9) (by omega)
 generalize Ah L a 9=a1 at c1
 generalize AB L a 9=v at c1 n0 n1
 by_cases v0:v=0
 ·have e0:decide (v=0)=true:=decide_eq_true v0
  have d0:=BE L a1 [-1,0,1048576,1048577] hL (by decide) (by decide)
  generalize Ah L a1 ([-1,0,1048576,1048577]:List Int).length=b0 at d0
  generalize Bl L a1 [-1,0,1048576,1048577]=p0 at d0
  simp only [AT,lpc,lpn] at d0
  simp -implicitDefEqProofs (disch:=omega) only [vf30,Eu,c0,c1,e0,d0,go_sem]
  exact ⟨{ x with now:=p0 },b0,rfl,by (constructor<;>(try simp only)<;>omega)⟩
 by_cases v1:v=1
 ·have e1:decide (v=1)=true:=decide_eq_true v1
  have d0:=BE L a1 [-1,0,1125899906842624,1125899906842625] hL (by decide) (by decide)
  generalize Ah L a1 ([-1,0,1125899906842624,1125899906842625]:List Int).length=b0 at d0
  generalize Bl L a1 [-1,0,1125899906842624,1125899906842625]=p0 at d0
  simp only [AT,lpc,lpn] at d0
  simp -implicitDefEqProofs (disch:=omega) only [vf30,Eu,c0,c1,v0,e1,d0,go_sem]
  exact ⟨{ x with free:=p0 },b0,rfl,by (constructor<;>(try simp only)<;>omega)⟩
 by_cases v2:v=2
 ·have e2:decide (v=2)=true:=decide_eq_true v2
  have d0:=BE L a1 [-1,16777216,16777217] hL (by decide) (by decide)
  generalize Ah L a1 ([-1,16777216,16777217]:List Int).length=b0 at d0
  generalize Bl L a1 [-1,16777216,16777217]=p0 at d0
  simp only [AT,lpc,lpn] at d0
  simp -implicitDefEqProofs (disch:=omega) only [vf30,Eu,c0,c1,v0,v1,e2,d0,go_sem]
  exact ⟨{ x with head:=p0 },b0,rfl,by (constructor<;>(try simp only)<;>omega)⟩
 by_cases v3:v=3
 ·have e3:decide (v=3)=true:=decide_eq_true v3
  have d0:=BE L a1 [0,1,1000000,1000001] hL (by decide) (by decide)
  generalize Ah L a1 ([0,1,1000000,1000001]:List Int).length=b0 at d0
  generalize Bl L a1 [0,1,1000000,1000001]=p0 at d0
  simp only [AT,lpc,lpn] at d0
  simp -implicitDefEqProofs (disch:=omega) only [vf30,Eu,c0,c1,v0,v1,v2,e3,d0,go_sem]
  exact ⟨{ x with speed:=p0 },b0,rfl,by (constructor<;>(try simp only)<;>omega)⟩
 by_cases v4:v=4
 ·have e4:decide (v=4)=true:=decide_eq_true v4
  have d0:=BE L a1 [1,2,9] hL (by decide) (by decide)
  generalize Ah L a1 ([1,2,9]:List Int).length=b0 at d0
  generalize Bl L a1 [1,2,9]=p0 at d0
  simp only [AT,lpc,lpn] at d0
  have d1:=BE L b0 [0,1] hL (by decide) (by decide)
  generalize Ah L b0 ([0,1]:List Int).length=b1 at d1
  generalize Bl L b0 [0,1]=p1 at d1
  simp only [AT,lpc,lpn] at d1
  simp -implicitDefEqProofs (disch:=omega) only [vf30,Eu,c0,c1,v0,v1,v2,v3,e4,d0,d1,go_sem]
  exact ⟨{ x with weights:=x.weights++[⟨p0,p1⟩] },b1,by simp [Ch.pv],by (constructor<;>simp<;>omega)⟩
 by_cases v5:v=5
 ·have e5:decide (v=5)=true:=decide_eq_true v5
  have d0:=BE L a1 [-1,0,1125899906842624,1125899906842625] hL (by decide) (by decide)
  generalize Ah L a1 ([-1,0,1125899906842624,1125899906842625]:List Int).length=b0 at d0
  generalize Bl L a1 [-1,0,1125899906842624,1125899906842625]=p0 at d0
  simp only [AT,lpc,lpn] at d0
  simp -implicitDefEqProofs (disch:=omega) only [vf30,Eu,c0,c1,v0,v1,v2,v3,v4,e5,d0,go_sem]
  exact ⟨{ x with flights:=x.flights++[⟨⟨0,1,0,1,false,0⟩,p0⟩] },b0,by simp [Fl.pv],by (constructor<;>simp<;>omega)⟩
 by_cases v6:v=6
 ·have e6:decide (v=6)=true:=decide_eq_true v6
  have d0:=BE L a1 [1,9] hL (by decide) (by decide)
  generalize Ah L a1 ([1,9]:List Int).length=b0 at d0
  generalize Bl L a1 [1,9]=p0 at d0
  simp only [AT,lpc,lpn] at d0
  have d1:=BE L b0 [0,1] hL (by decide) (by decide)
  generalize Ah L b0 ([0,1]:List Int).length=b1 at d1
  generalize Bl L b0 [0,1]=p1 at d1
  simp only [AT,lpc,lpn] at d1
  simp -implicitDefEqProofs (disch:=omega) only [vf30,Eu,c0,c1,v0,v1,v2,v3,v4,v5,e6,d0,d1,go_sem]
  exact ⟨{ x with queue:=x.queue++[⟨0,p0,0,p1,false,0⟩] },b1,by simp [Rq.pv],by (constructor<;>simp<;>omega)⟩
 by_cases v7:v=7
 ·have e7:decide (v=7)=true:=decide_eq_true v7
  have d0:=BE L a1 [1,9] hL (by decide) (by decide)
  generalize Ah L a1 ([1,9]:List Int).length=b0 at d0
  generalize Bl L a1 [1,9]=p0 at d0
  simp only [AT,lpc,lpn] at d0
  simp -implicitDefEqProofs (disch:=omega) only [vf30,Eu,c0,c1,v0,v1,v2,v3,v4,v5,v6,e7,d0,go_sem]
  exact ⟨{ x with buckets:=x.buckets++[⟨p0,⟨0,0,0,0,0⟩,⟨0,0,0,0,0⟩,⟨0,0,0,0,0⟩,⟨0,0,0,0,0⟩⟩] },b0,by simp [Cp.pv],by (constructor<;>simp<;>omega)⟩
 simp -implicitDefEqProofs (disch:=omega) only [vf30,Eu,c0,c1,v0,v1,v2,v3,v4,v5,v6,v7,go_sem]
 exact ⟨x,a1,rfl,by (constructor<;>(try simp only)<;>omega)⟩
def okG (t:Tr) (f:Fl):Fl:=if Ag t.nodes f.r.group=true then f else { f with r:={ f.r with group:=1 } }
def DI (t:Tr) (x:Dv):Dv:={ x with weights:=x.weights.filter fun c=>Ag t.nodes c.group,buckets:=x.buckets.filter fun c=>Ag t.nodes c.group,depths:=x.depths.filter fun c=>Ag t.nodes c.group,v:=x.v.filter fun c=>Ag t.nodes c.group,queue:=x.queue.filter fun c=>Ag t.nodes c.group,flights:=x.flights.map (okG t) }
theorem KH (t:Tr) {x:Dv} (hs:x.Small):(DI t x).Small:=by
 have h1:=hs.w
 have h2:=hs.b
 have h3:=hs.p
 have h4:=hs.v
 have h5:=hs.q
 exact ⟨Nat.lt_of_le_of_lt (List.length_filter_le _ _) h1,Nat.lt_of_le_of_lt (List.length_filter_le _ _) h2,Nat.lt_of_le_of_lt (List.length_filter_le _ _) h3,Nat.lt_of_le_of_lt (List.length_filter_le _ _) h4,Nat.lt_of_le_of_lt (List.length_filter_le _ _) h5,by show (x.flights.map (okG t)).length<_;rw [llm];exact hs.f⟩
theorem He {α β:Type} (f:α->β) (l:List α) (z:List β):List.take l.length (List.map f l++z)=List.map f l:=by
 rw [List.take_append_of_le_length (by rw [llm];exact lrf _),ltl (by rw [llm];exact lrf _)]
theorem zaS {t:Tr} (h:TreeOk t) (x:Dv) (hs:x.Small):V 31 [t.vv,x.vv] []=some (if DQ t (DI t x)=true then .tup [(DI t x).fv,.p (.int .i64 0)] else .tup [dvZ.fv,.p (.int .i64 1)],[]):=by
 refine Ad (vf:=vf31) rfl ?_
 have hlen:=h.len
 have hnl:t.nodes.length<1000000:=by omega
 have i0:=Ho t h.fits hnl
 rw [(Bh t).2 h] at i0
 have i1:=LC t x hs
 obtain ⟨d1,d2,d3,d4,d5⟩:=dels t
 obtain ⟨g1,g2,g3,g4,g5⟩:=adjs t hnl
 have i2:=d1 _ _ g1 x.weights hs.w
 have i3:=d2 _ _ g2 x.buckets hs.b
 have i4:=d3 _ _ g3 x.depths hs.p
 have i5:=d4 _ _ g4 x.v hs.v
 have i6:=d5 _ _ g5 x.queue hs.q
 simp only [F6,elC,elD,elQ,elW,esC,esD,esQ,esW] at i2 i3 i4 i5 i6
 clear d1 d2 d3 d4 d5 g1 g2 g3 g4 g5
 have hfl:=hs.f
 have i7:=K2 t (DI t x) h.fits hnl (KH t hs)
 obtain ⟨W,hW⟩:∃ W,W=x.weights.filter fun c=>Ag t.nodes c.group:=⟨_,rfl⟩
 obtain ⟨B,hB⟩:∃ B,B=x.buckets.filter fun c=>Ag t.nodes c.group:=⟨_,rfl⟩
 obtain ⟨D,hD⟩:∃ D,D=x.depths.filter fun c=>Ag t.nodes c.group:=⟨_,rfl⟩
 obtain ⟨A,hA⟩:∃ A,A=x.v.filter fun c=>Ag t.nodes c.group:=⟨_,rfl⟩
 obtain ⟨Q,hQ⟩:∃ Q,Q=x.queue.filter fun c=>Ag t.nodes c.group:=⟨_,rfl⟩
 have hadj:DI t x={ x with weights:=W,buckets:=B,depths:=D,v:=A,queue:=Q,flights:=x.flights.map (okG t) }:=by unfold DI;rw [hW,hB,hD,hA,hQ]
 rw [hadj] at i7 ⊢
 rw [<- hW] at i2
 generalize List.replicate _ _=zW at i2
 rw [<- hB] at i3
 generalize List.replicate _ _=zB at i3
 rw [<- hD] at i4
 generalize List.replicate _ _=zD at i4
 rw [<- hA] at i5
 generalize List.replicate _ _=zA at i5
 rw [<- hQ] at i6
 generalize List.replicate _ _=zQ at i6
 generalize DQ t _=vd at i7 ⊢
 clear hadj hW hB hD hA hQ
 simp -implicitDefEqProofs (disch:=omega) only [vf31,SI,i0,i1,i2,i3,i4,i5,i6,go_sem]
 obtain ⟨I,hI⟩:=lpI fun k s=>∃ (M:List Fl),M=(x.flights.take k).map (okG t)++x.flights.drop k/\M.length=x.flights.length/\s.pe 2=.ptr (.slot 2 0) 0 0/\s.pe 4=.ptr (.slot 4 0) 0 0/\s.pe 6=.ptr (.slot 15 1) 0 0/\s.pe 76=.p (.int .i64 ↑x.flights.length)/\s.pe 77=.p (.int .i64 k)/\s.h (.slot 2 0)=some (0,Ob.box [.p (Ao t.nodes),.p (.int .i64 t.next)])/\s.h (.slot 4 0)=some (0,Ob.box [.p (.int .i64 0),.p (.int .i64 0),.p (.int .i64 0),.p (.int .i64 0),.p (.int .i64 0),.p (.int .i64 0),.p (.int .i64 0),.p (.int .i64 0),.p (.int .i64 0),.p (.int .i64 0),.own (.slot 4 11) 0 0 0,.own (.slot 4 12) 0 0 0,.own (.slot 4 13) 0 0 0,.own (.slot 4 14) 0 0 0,.own (.slot 4 15) 0 0 0,.own (.slot 4 16) 0 0 0])/\s.h (.slot 15 1)=some (0,Ob.box [.p (.int .i64 x.m.rb),.p (.int .i64 x.m.rp),.p (.int .i64 x.m.wb),.p (.int .i64 x.m.wp),.p (.int .i64 x.m.seek),.p (.int .i64 x.speed),.p (.int .i64 x.margin),.p (.int .i64 x.now),.p (.int .i64 x.free),.p (.int .i64 x.head),.own (.slot 15 12) 0 0 W.length,.own (.slot 15 13) 0 0 B.length,.own (.slot 15 14) 0 0 D.length,.own (.slot 15 15) 0 0 A.length,.own (.slot 15 16) 0 0 Q.length,.own (.slot 15 17) 0 0 x.flights.length,.p (Ao t.nodes),.p (.int .i64 t.next)])/\s.h (.slot 15 12)=some (0,Ob.arr 2 (List.map Ch.pv W++zW))/\s.h (.slot 15 13)=some (0,Ob.arr 21 (List.map Cp.pv B++zB))/\s.h (.slot 15 14)=some (0,Ob.arr 3 (List.map Dp.pv D++zD))/\s.h (.slot 15 15)=some (0,Ob.arr 2 (List.map Ch.pv A++zA))/\s.h (.slot 15 16)=some (0,Ob.arr 6 (List.map Rq.pv Q++zQ))/\s.h (.slot 15 17)=some (0,Ob.arr 7 (List.map Fl.pv M))
 refine Ak (x.flights.length) I ?_ ?_
 ·refine (hI _ _).2 ⟨x.flights,?_⟩
  and_intros
  ·rfl
  ·rfl
  all_goals first|exact cl0|(simp -implicitDefEqProofs (disch:=omega) only [lma,go_sem]<;>first|(simp [Aa,List.map_set,Fl.pv];done)|(simp [Aa,List.map_set,Fl.pv];omega))
 intro k s hk hIk
 obtain ⟨M,hM,hMl,hH⟩:=(hI _ _).1 hIk
 clear hIk
 have tW:=He Ch.pv W zW
 have tB:=He Cp.pv B zB
 have tD:=He Dp.pv D zD
 have tA:=He Ch.pv A zA
 have tQ:=He Rq.pv Q zQ
 simp -implicitDefEqProofs (disch:=omega) only [hH,go_sem]
 refine Af (fun hlt=>?_) (fun hge=>?_)
 ·have hm:x.flights[k]?=some x.flights[k]:=lgg hlt
  rw [ldg hlt] at hM
  have htk:=Bi hm
  generalize x.flights[k]=c at hm hM htk
  have hlk:((x.flights.take k).map (okG t)).length=k:=by rw [llm,llt];omega
  have hmid:M[k]?=some c:=by rw [hM];exact HV hlk
  have hset:∀ y,M.set k y=(x.flights.take k).map (okG t)++y::x.flights.drop (k+1):=fun y=>by rw [hM];exact HO hlk
  have j0:=Ht t c.r.group hnl
  cases hk:Ag t.nodes c.r.group with
  | true =>
   rw [hk] at j0
   have hO:okG t c=c:=by unfold okG;rw [if_pos hk]
   simp -implicitDefEqProofs (disch:=omega) only [hH,hlt,hmid,Fl.pv,j0,go_sem]
   try refine ai ?_
   refine (hI _ _).2 ⟨M,?_⟩
   and_intros
   .exact by rw [hM,htk,lma,laa,List.map_singleton,hO];rfl
   .exact hMl
   all_goals first|exact cl0|(simp -implicitDefEqProofs (disch:=omega) only [hH,lma,go_sem]<;>first|(simp [Aa,List.map_set,Fl.pv];done)|(simp [Aa,List.map_set,Fl.pv];omega))
  | false =>
   rw [hk] at j0
   have hO:okG t c=⟨⟨c.r.task,1,c.r.at_,c.r.pages,c.r.write,c.r.time⟩,c.done⟩:=by unfold okG;rw [if_neg (by rw [hk];simp)]
   simp -implicitDefEqProofs (disch:=omega) only [hH,hlt,hmid,Fl.pv,j0,go_sem]
   try refine ai ?_
   refine (hI _ _).2 ⟨M.set k ⟨⟨c.r.task,1,c.r.at_,c.r.pages,c.r.write,c.r.time⟩,c.done⟩,?_⟩
   and_intros
   .exact by rw [hset,htk,lma,laa,List.map_singleton,hO];rfl
   .exact by rw [List.length_set];exact hMl
   all_goals first|exact cl0|(simp -implicitDefEqProofs (disch:=omega) only [hH,lma,go_sem]<;>first|(simp [Aa,List.map_set,Fl.pv];done)|(simp [Aa,List.map_set,Fl.pv];omega))
 ·rw [ltl (by omega),List.drop_eq_nil_of_le (by omega),lan] at hM
  rw [<- hM] at i7 ⊢
  have hMt:List.take x.flights.length (List.map Fl.pv M)=List.map Fl.pv M:=ltl (by rw [llm];omega)
  cases vd with
  | true=>simp -implicitDefEqProofs (disch:=omega) only [hH,hge,tW,tB,tD,tA,tQ,hMt,i7,go_sem]
  | false =>
   simp -implicitDefEqProofs (disch:=omega) only [hH,hge,tW,tB,tD,tA,tQ,hMt,i7,go_sem]
   rfl
theorem Hq {α:Type} {p:α->Bool} {l a:List α} {k:Nat} {c:α} (ha:a=(l.take k).filter p) (hm:l[k]?=some c):(p c=true->a++[c]=(l.take (k+1)).filter p)/\(p c=false->a=(l.take (k+1)).filter p):=by
 rw [Bi hm,List.filter_append,ha]
 exact ⟨fun h=>by simp [h],fun h=>by simp [h]⟩
theorem zaa {t:Tr} (h:TreeOk t) (x:Dv) (hs:x.Small):V 32 [t.vv,x.vv] []=some (if DQ t (DI t x)=true then .tup [(DI t x).fv,.p (.int .i64 0)] else .tup [dvZ.fv,.p (.int .i64 1)],[]):=by
 refine Ad (vf:=vf32) rfl ?_
 have hlen:=h.len
 have hnl:t.nodes.length<1000000:=by omega
 have i0:=IG h
 have i1:=Gn x hs hs.q hs.f
 have ih:=Hy h
 have i7:=Yz t (DI t x) hnl (KH t hs)
 obtain ⟨hs0,hs1,hs2,hs3,hs4,hs5⟩:=id hs
 simp -implicitDefEqProofs (disch:=omega) only [vf32,SH,i0,i1,go_sem]
 obtain ⟨I,hI⟩:=lpI fun k s=>∃ (a0:List Ch) (w0:Nat),(a0=(x.weights.take k).filter fun c=>Ag t.nodes c.group)/\a0.length<=k/\s.pe 2=.ptr (.slot 2 0) 0 0/\s.pe 3=.ptr (.slot 3 0) 0 0/\s.pe 4=.ptr (.slot 4 0) 0 0/\s.pe 6=.ptr (.slot 6 0) 0 0/\s.pe 7=.p (.int .i64 k)/\s.h (.slot 2 0)=some (0,Ob.box [.p (Ao t.nodes),.p (.int .i64 t.next)])/\s.h (.slot 3 0)=some (0,Ob.box (dvC x))/\s.h (.slot 4 0)=some (0,Ob.box [.p (.int .i64 0),.p (.int .i64 0),.p (.int .i64 0),.p (.int .i64 0),.p (.int .i64 0),.p (.int .i64 0),.p (.int .i64 0),.p (.int .i64 0),.p (.int .i64 0),.p (.int .i64 0),.own (.slot 4 11) 0 0 0,.own (.slot 4 12) 0 0 0,.own (.slot 4 13) 0 0 0,.own (.slot 4 14) 0 0 0,.own (.slot 4 15) 0 0 0,.own (.slot 4 16) 0 0 0])/\s.h (.slot 6 0)=some (0,Ob.box [.p (.int .i64 x.m.rb),.p (.int .i64 x.m.rp),.p (.int .i64 x.m.wb),.p (.int .i64 x.m.wp),.p (.int .i64 x.m.seek),.p (.int .i64 x.speed),.p (.int .i64 x.margin),.p (.int .i64 x.now),.p (.int .i64 x.free),.p (.int .i64 x.head),.own (.slot 6 11) w0 0 a0.length,.own (.slot 6 12) 0 0 0,.own (.slot 6 13) 0 0 0,.own (.slot 6 14) 0 0 0,.own (.slot 6 15) 0 0 0,.own (.slot 18 16) 0 0 x.flights.length])/\s.h (.slot 6 11)=some (w0,Ob.arr 2 (a0.map Ch.pv))/\s.h (.slot 6 12)=some (0,Ob.arr 21 [])/\s.h (.slot 6 13)=some (0,Ob.arr 3 [])/\s.h (.slot 6 14)=some (0,Ob.arr 2 [])/\s.h (.slot 6 15)=some (0,Ob.arr 6 [])/\s.h (.slot 18 16)=some (0,Ob.arr 7 (x.flights.map Fl.pv))
 refine Ak (x.weights.length) I ?_ ?_
 ·refine (hI _ _).2 ⟨[],0,?_⟩
  and_intros
  ·rfl
  ·exact cl3
  all_goals first|exact cl0|(simp -implicitDefEqProofs (disch:=omega) only [lma,go_sem]<;>first|(simp [Aa,List.map_set,Fl.pv];done)|(simp [Aa,List.map_set,Fl.pv];omega))
 intro k s hk hIk
 obtain ⟨a0,w0,hf0,hl0,hH⟩:=(hI _ _).1 hIk
 clear hIk
 simp -implicitDefEqProofs (disch:=omega) only [hH,go_sem]
 refine Af (fun hlt=>?_) (fun hge0=>?_)
 ·have hm:x.weights[k]?=some x.weights[k]:=lgg hlt
  generalize x.weights[k]=c at hm
  obtain ⟨e1,e2⟩:=Hq hf0 hm
  have j0:=ih c.group
  cases hk:Ag t.nodes c.group with
  | true =>
   rw [hk] at j0
   simp -implicitDefEqProofs (disch:=omega) only [hH,hlt,hm,j0,go_sem]
   try refine ai ?_
   refine (hI _ _).2 ⟨a0++[c],w0+1,?_⟩
   and_intros
   .exact e1 hk
   .exact by rw [lla,List.length_singleton];omega
   all_goals first|exact cl0|(simp -implicitDefEqProofs (disch:=omega) only [hH,lla,lma,go_sem]<;>first|(simp [Aa,List.map_set,Fl.pv];done)|(simp [Aa,List.map_set,Fl.pv];omega))
  | false =>
   rw [hk] at j0
   simp -implicitDefEqProofs (disch:=omega) only [hH,hlt,hm,j0,go_sem]
   try refine ai ?_
   refine (hI _ _).2 ⟨a0,w0,?_⟩
   and_intros
   .exact e2 hk
   .omega
   all_goals first|exact cl0|(simp -implicitDefEqProofs (disch:=omega) only [hH,lma,go_sem]<;>first|(simp [Aa,List.map_set,Fl.pv];done)|(simp [Aa,List.map_set,Fl.pv];omega))
 rw [ltl (by omega)] at hf0
 simp -implicitDefEqProofs (disch:=omega) only [hH,hge0,go_sem]
 obtain ⟨J,hJ⟩:=lpI fun j s=>∃ (a1:List Cp) (w1:Nat),(a1=(x.buckets.take j).filter fun c=>Ag t.nodes c.group)/\a1.length<=j/\s.pe 2=.ptr (.slot 2 0) 0 0/\s.pe 3=.ptr (.slot 3 0) 0 0/\s.pe 4=.ptr (.slot 4 0) 0 0/\s.pe 6=.ptr (.slot 6 0) 0 0/\s.pe 8=.p (.int .i64 j)/\s.h (.slot 2 0)=some (0,Ob.box [.p (Ao t.nodes),.p (.int .i64 t.next)])/\s.h (.slot 3 0)=some (0,Ob.box (dvC x))/\s.h (.slot 4 0)=some (0,Ob.box [.p (.int .i64 0),.p (.int .i64 0),.p (.int .i64 0),.p (.int .i64 0),.p (.int .i64 0),.p (.int .i64 0),.p (.int .i64 0),.p (.int .i64 0),.p (.int .i64 0),.p (.int .i64 0),.own (.slot 4 11) 0 0 0,.own (.slot 4 12) 0 0 0,.own (.slot 4 13) 0 0 0,.own (.slot 4 14) 0 0 0,.own (.slot 4 15) 0 0 0,.own (.slot 4 16) 0 0 0])/\s.h (.slot 6 0)=some (0,Ob.box [.p (.int .i64 x.m.rb),.p (.int .i64 x.m.rp),.p (.int .i64 x.m.wb),.p (.int .i64 x.m.wp),.p (.int .i64 x.m.seek),.p (.int .i64 x.speed),.p (.int .i64 x.margin),.p (.int .i64 x.now),.p (.int .i64 x.free),.p (.int .i64 x.head),.own (.slot 6 11) w0 0 a0.length,.own (.slot 6 12) w1 0 a1.length,.own (.slot 6 13) 0 0 0,.own (.slot 6 14) 0 0 0,.own (.slot 6 15) 0 0 0,.own (.slot 18 16) 0 0 x.flights.length])/\s.h (.slot 6 11)=some (w0,Ob.arr 2 (a0.map Ch.pv))/\s.h (.slot 6 12)=some (w1,Ob.arr 21 (a1.map Cp.pv))/\s.h (.slot 6 13)=some (0,Ob.arr 3 [])/\s.h (.slot 6 14)=some (0,Ob.arr 2 [])/\s.h (.slot 6 15)=some (0,Ob.arr 6 [])/\s.h (.slot 18 16)=some (0,Ob.arr 7 (x.flights.map Fl.pv))
 refine Ak (x.buckets.length) J ?_ ?_
 ·refine (hJ _ _).2 ⟨[],0,?_⟩
  and_intros
  ·rfl
  ·exact cl3
  all_goals first|exact cl0|(simp -implicitDefEqProofs (disch:=omega) only [hH,lma,go_sem]<;>first|(simp [Aa,List.map_set,Fl.pv];done)|(simp [Aa,List.map_set,Fl.pv];omega))
 intro j s hj hJk
 obtain ⟨a1,w1,hf1,hl1,hH⟩:=(hJ _ _).1 hJk
 clear hJk
 simp -implicitDefEqProofs (disch:=omega) only [hH,go_sem]
 refine Af (fun hlt=>?_) (fun hge1=>?_)
 ·have hm:x.buckets[j]?=some x.buckets[j]:=lgg hlt
  generalize x.buckets[j]=c at hm
  obtain ⟨e1,e2⟩:=Hq hf1 hm
  have j0:=ih c.group
  cases hk:Ag t.nodes c.group with
  | true =>
   rw [hk] at j0
   simp -implicitDefEqProofs (disch:=omega) only [hH,hlt,hm,Cp.pv,j0,go_sem]
   try refine ai ?_
   refine (hJ _ _).2 ⟨a1++[c],w1+1,?_⟩
   and_intros
   .exact e1 hk
   .exact by rw [lla,List.length_singleton];omega
   all_goals first|exact cl0|(simp -implicitDefEqProofs (disch:=omega) only [hH,lla,Cp.pv,lma,go_sem]<;>first|(simp [Aa,List.map_set,Fl.pv];done)|(simp [Aa,List.map_set,Fl.pv];omega))
  | false =>
   rw [hk] at j0
   simp -implicitDefEqProofs (disch:=omega) only [hH,hlt,hm,Cp.pv,j0,go_sem]
   try refine ai ?_
   refine (hJ _ _).2 ⟨a1,w1,?_⟩
   and_intros
   .exact e2 hk
   .omega
   all_goals first|exact cl0|(simp -implicitDefEqProofs (disch:=omega) only [hH,lma,go_sem]<;>first|(simp [Aa,List.map_set,Fl.pv];done)|(simp [Aa,List.map_set,Fl.pv];omega))
 rw [ltl (by omega)] at hf1
 simp -implicitDefEqProofs (disch:=omega) only [hH,hge1,go_sem]
 obtain ⟨M,hM⟩:=lpI fun m s=>∃ (a2:List Dp) (w2:Nat),(a2=(x.depths.take m).filter fun c=>Ag t.nodes c.group)/\a2.length<=m/\s.pe 2=.ptr (.slot 2 0) 0 0/\s.pe 3=.ptr (.slot 3 0) 0 0/\s.pe 4=.ptr (.slot 4 0) 0 0/\s.pe 6=.ptr (.slot 6 0) 0 0/\s.pe 9=.p (.int .i64 m)/\s.h (.slot 2 0)=some (0,Ob.box [.p (Ao t.nodes),.p (.int .i64 t.next)])/\s.h (.slot 3 0)=some (0,Ob.box (dvC x))/\s.h (.slot 4 0)=some (0,Ob.box [.p (.int .i64 0),.p (.int .i64 0),.p (.int .i64 0),.p (.int .i64 0),.p (.int .i64 0),.p (.int .i64 0),.p (.int .i64 0),.p (.int .i64 0),.p (.int .i64 0),.p (.int .i64 0),.own (.slot 4 11) 0 0 0,.own (.slot 4 12) 0 0 0,.own (.slot 4 13) 0 0 0,.own (.slot 4 14) 0 0 0,.own (.slot 4 15) 0 0 0,.own (.slot 4 16) 0 0 0])/\s.h (.slot 6 0)=some (0,Ob.box [.p (.int .i64 x.m.rb),.p (.int .i64 x.m.rp),.p (.int .i64 x.m.wb),.p (.int .i64 x.m.wp),.p (.int .i64 x.m.seek),.p (.int .i64 x.speed),.p (.int .i64 x.margin),.p (.int .i64 x.now),.p (.int .i64 x.free),.p (.int .i64 x.head),.own (.slot 6 11) w0 0 a0.length,.own (.slot 6 12) w1 0 a1.length,.own (.slot 6 13) w2 0 a2.length,.own (.slot 6 14) 0 0 0,.own (.slot 6 15) 0 0 0,.own (.slot 18 16) 0 0 x.flights.length])/\s.h (.slot 6 11)=some (w0,Ob.arr 2 (a0.map Ch.pv))/\s.h (.slot 6 12)=some (w1,Ob.arr 21 (a1.map Cp.pv))/\s.h (.slot 6 13)=some (w2,Ob.arr 3 (a2.map Dp.pv))/\s.h (.slot 6 14)=some (0,Ob.arr 2 [])/\s.h (.slot 6 15)=some (0,Ob.arr 6 [])/\s.h (.slot 18 16)=some (0,Ob.arr 7 (x.flights.map Fl.pv))
 refine Ak (x.depths.length) M ?_ ?_
 ·refine (hM _ _).2 ⟨[],0,?_⟩
  and_intros
  ·rfl
  ·exact cl3
  all_goals first|exact cl0|(simp -implicitDefEqProofs (disch:=omega) only [hH,lma,go_sem]<;>first|(simp [Aa,List.map_set,Fl.pv];done)|(simp [Aa,List.map_set,Fl.pv];omega))
 intro m s hm hMk
 obtain ⟨a2,w2,hf2,hl2,hH⟩:=(hM _ _).1 hMk
 clear hMk
 simp -implicitDefEqProofs (disch:=omega) only [hH,go_sem]
 refine Af (fun hlt=>?_) (fun hge2=>?_)
 ·have hm:x.depths[m]?=some x.depths[m]:=lgg hlt
  generalize x.depths[m]=c at hm
  obtain ⟨e1,e2⟩:=Hq hf2 hm
  have j0:=ih c.group
  cases hk:Ag t.nodes c.group with
  | true =>
   rw [hk] at j0
   simp -implicitDefEqProofs (disch:=omega) only [hH,hlt,hm,Dp.pv,j0,go_sem]
   try refine ai ?_
   refine (hM _ _).2 ⟨a2++[c],w2+1,?_⟩
   and_intros
   .exact e1 hk
   .exact by rw [lla,List.length_singleton];omega
   all_goals first|exact cl0|(simp -implicitDefEqProofs (disch:=omega) only [hH,lla,Dp.pv,lma,go_sem]<;>first|(simp [Aa,List.map_set,Fl.pv];done)|(simp [Aa,List.map_set,Fl.pv];omega))
  | false =>
   rw [hk] at j0
   simp -implicitDefEqProofs (disch:=omega) only [hH,hlt,hm,Dp.pv,j0,go_sem]
   try refine ai ?_
   refine (hM _ _).2 ⟨a2,w2,?_⟩
   and_intros
   .exact e2 hk
   .omega
   all_goals first|exact cl0|(simp -implicitDefEqProofs (disch:=omega) only [hH,lma,go_sem]<;>first|(simp [Aa,List.map_set,Fl.pv];done)|(simp [Aa,List.map_set,Fl.pv];omega))
 rw [ltl (by omega)] at hf2
 simp -implicitDefEqProofs (disch:=omega) only [hH,hge2,go_sem]
 obtain ⟨N,hN⟩:=lpI fun n s=>∃ (a3:List Ch) (w3:Nat),(a3=(x.v.take n).filter fun c=>Ag t.nodes c.group)/\a3.length<=n/\s.pe 2=.ptr (.slot 2 0) 0 0/\s.pe 3=.ptr (.slot 3 0) 0 0/\s.pe 4=.ptr (.slot 4 0) 0 0/\s.pe 6=.ptr (.slot 6 0) 0 0/\s.pe 10=.p (.int .i64 n)/\s.h (.slot 2 0)=some (0,Ob.box [.p (Ao t.nodes),.p (.int .i64 t.next)])/\s.h (.slot 3 0)=some (0,Ob.box (dvC x))/\s.h (.slot 4 0)=some (0,Ob.box [.p (.int .i64 0),.p (.int .i64 0),.p (.int .i64 0),.p (.int .i64 0),.p (.int .i64 0),.p (.int .i64 0),.p (.int .i64 0),.p (.int .i64 0),.p (.int .i64 0),.p (.int .i64 0),.own (.slot 4 11) 0 0 0,.own (.slot 4 12) 0 0 0,.own (.slot 4 13) 0 0 0,.own (.slot 4 14) 0 0 0,.own (.slot 4 15) 0 0 0,.own (.slot 4 16) 0 0 0])/\s.h (.slot 6 0)=some (0,Ob.box [.p (.int .i64 x.m.rb),.p (.int .i64 x.m.rp),.p (.int .i64 x.m.wb),.p (.int .i64 x.m.wp),.p (.int .i64 x.m.seek),.p (.int .i64 x.speed),.p (.int .i64 x.margin),.p (.int .i64 x.now),.p (.int .i64 x.free),.p (.int .i64 x.head),.own (.slot 6 11) w0 0 a0.length,.own (.slot 6 12) w1 0 a1.length,.own (.slot 6 13) w2 0 a2.length,.own (.slot 6 14) w3 0 a3.length,.own (.slot 6 15) 0 0 0,.own (.slot 18 16) 0 0 x.flights.length])/\s.h (.slot 6 11)=some (w0,Ob.arr 2 (a0.map Ch.pv))/\s.h (.slot 6 12)=some (w1,Ob.arr 21 (a1.map Cp.pv))/\s.h (.slot 6 13)=some (w2,Ob.arr 3 (a2.map Dp.pv))/\s.h (.slot 6 14)=some (w3,Ob.arr 2 (a3.map Ch.pv))/\s.h (.slot 6 15)=some (0,Ob.arr 6 [])/\s.h (.slot 18 16)=some (0,Ob.arr 7 (x.flights.map Fl.pv))
 refine Ak (x.v.length) N ?_ ?_
 ·refine (hN _ _).2 ⟨[],0,?_⟩
  and_intros
  ·rfl
  ·exact cl3
  all_goals first|exact cl0|(simp -implicitDefEqProofs (disch:=omega) only [hH,lma,go_sem]<;>first|(simp [Aa,List.map_set,Fl.pv];done)|(simp [Aa,List.map_set,Fl.pv];omega))
 intro n s hn hNk
 obtain ⟨a3,w3,hf3,hl3,hH⟩:=(hN _ _).1 hNk
 clear hNk
 simp -implicitDefEqProofs (disch:=omega) only [hH,go_sem]
 refine Af (fun hlt=>?_) (fun hge3=>?_)
 ·have hm:x.v[n]?=some x.v[n]:=lgg hlt
  generalize x.v[n]=c at hm
  obtain ⟨e1,e2⟩:=Hq hf3 hm
  have j0:=ih c.group
  cases hk:Ag t.nodes c.group with
  | true =>
   rw [hk] at j0
   simp -implicitDefEqProofs (disch:=omega) only [hH,hlt,hm,j0,go_sem]
   try refine ai ?_
   refine (hN _ _).2 ⟨a3++[c],w3+1,?_⟩
   and_intros
   .exact e1 hk
   .exact by rw [lla,List.length_singleton];omega
   all_goals first|exact cl0|(simp -implicitDefEqProofs (disch:=omega) only [hH,lla,lma,go_sem]<;>first|(simp [Aa,List.map_set,Fl.pv];done)|(simp [Aa,List.map_set,Fl.pv];omega))
  | false =>
   rw [hk] at j0
   simp -implicitDefEqProofs (disch:=omega) only [hH,hlt,hm,j0,go_sem]
   try refine ai ?_
   refine (hN _ _).2 ⟨a3,w3,?_⟩
   and_intros
   .exact e2 hk
   .omega
   all_goals first|exact cl0|(simp -implicitDefEqProofs (disch:=omega) only [hH,lma,go_sem]<;>first|(simp [Aa,List.map_set,Fl.pv];done)|(simp [Aa,List.map_set,Fl.pv];omega))
 rw [ltl (by omega)] at hf3
 simp -implicitDefEqProofs (disch:=omega) only [hH,hge3,go_sem]
 obtain ⟨R,hR⟩:=lpI fun r s=>∃ (a4:List Rq) (w4:Nat),(a4=(x.queue.take r).filter fun c=>Ag t.nodes c.group)/\a4.length<=r/\s.pe 2=.ptr (.slot 2 0) 0 0/\s.pe 3=.ptr (.slot 3 0) 0 0/\s.pe 4=.ptr (.slot 4 0) 0 0/\s.pe 6=.ptr (.slot 6 0) 0 0/\s.pe 11=.p (.int .i64 r)/\s.h (.slot 2 0)=some (0,Ob.box [.p (Ao t.nodes),.p (.int .i64 t.next)])/\s.h (.slot 3 0)=some (0,Ob.box (dvC x))/\s.h (.slot 4 0)=some (0,Ob.box [.p (.int .i64 0),.p (.int .i64 0),.p (.int .i64 0),.p (.int .i64 0),.p (.int .i64 0),.p (.int .i64 0),.p (.int .i64 0),.p (.int .i64 0),.p (.int .i64 0),.p (.int .i64 0),.own (.slot 4 11) 0 0 0,.own (.slot 4 12) 0 0 0,.own (.slot 4 13) 0 0 0,.own (.slot 4 14) 0 0 0,.own (.slot 4 15) 0 0 0,.own (.slot 4 16) 0 0 0])/\s.h (.slot 6 0)=some (0,Ob.box [.p (.int .i64 x.m.rb),.p (.int .i64 x.m.rp),.p (.int .i64 x.m.wb),.p (.int .i64 x.m.wp),.p (.int .i64 x.m.seek),.p (.int .i64 x.speed),.p (.int .i64 x.margin),.p (.int .i64 x.now),.p (.int .i64 x.free),.p (.int .i64 x.head),.own (.slot 6 11) w0 0 a0.length,.own (.slot 6 12) w1 0 a1.length,.own (.slot 6 13) w2 0 a2.length,.own (.slot 6 14) w3 0 a3.length,.own (.slot 6 15) w4 0 a4.length,.own (.slot 18 16) 0 0 x.flights.length])/\s.h (.slot 6 11)=some (w0,Ob.arr 2 (a0.map Ch.pv))/\s.h (.slot 6 12)=some (w1,Ob.arr 21 (a1.map Cp.pv))/\s.h (.slot 6 13)=some (w2,Ob.arr 3 (a2.map Dp.pv))/\s.h (.slot 6 14)=some (w3,Ob.arr 2 (a3.map Ch.pv))/\s.h (.slot 6 15)=some (w4,Ob.arr 6 (a4.map Rq.pv))/\s.h (.slot 18 16)=some (0,Ob.arr 7 (x.flights.map Fl.pv))
 refine Ak (x.queue.length) R ?_ ?_
 ·refine (hR _ _).2 ⟨[],0,?_⟩
  and_intros
  ·rfl
  ·exact cl3
  all_goals first|exact cl0|(simp -implicitDefEqProofs (disch:=omega) only [hH,lma,go_sem]<;>first|(simp [Aa,List.map_set,Fl.pv];done)|(simp [Aa,List.map_set,Fl.pv];omega))
 intro r s hr hRk
 obtain ⟨a4,w4,hf4,hl4,hH⟩:=(hR _ _).1 hRk
 clear hRk
 simp -implicitDefEqProofs (disch:=omega) only [hH,go_sem]
 refine Af (fun hlt=>?_) (fun hge4=>?_)
 ·have hm:x.queue[r]?=some x.queue[r]:=lgg hlt
  generalize x.queue[r]=c at hm
  obtain ⟨e1,e2⟩:=Hq hf4 hm
  have j0:=ih c.group
  cases hk:Ag t.nodes c.group with
  | true =>
   rw [hk] at j0
   simp -implicitDefEqProofs (disch:=omega) only [hH,hlt,hm,Rq.pv,j0,go_sem]
   try refine ai ?_
   refine (hR _ _).2 ⟨a4++[c],w4+1,?_⟩
   and_intros
   .exact e1 hk
   .exact by rw [lla,List.length_singleton];omega
   all_goals first|exact cl0|(simp -implicitDefEqProofs (disch:=omega) only [hH,lla,Rq.pv,lma,go_sem]<;>first|(simp [Aa,List.map_set,Fl.pv];done)|(simp [Aa,List.map_set,Fl.pv];omega))
  | false =>
   rw [hk] at j0
   simp -implicitDefEqProofs (disch:=omega) only [hH,hlt,hm,Rq.pv,j0,go_sem]
   try refine ai ?_
   refine (hR _ _).2 ⟨a4,w4,?_⟩
   and_intros
   .exact e2 hk
   .omega
   all_goals first|exact cl0|(simp -implicitDefEqProofs (disch:=omega) only [hH,lma,go_sem]<;>first|(simp [Aa,List.map_set,Fl.pv];done)|(simp [Aa,List.map_set,Fl.pv];omega))
 rw [ltl (by omega)] at hf4
 simp -implicitDefEqProofs (disch:=omega) only [hH,hge4,go_sem]
 obtain ⟨Q,hQ⟩:=lpI fun q s=>∃ (M:List Fl),M=(x.flights.take q).map (okG t)++x.flights.drop q/\M.length=x.flights.length/\s.pe 2=.ptr (.slot 2 0) 0 0/\s.pe 4=.ptr (.slot 4 0) 0 0/\s.pe 6=.ptr (.slot 6 0) 0 0/\s.pe 12=.p (.int .i64 q)/\s.h (.slot 2 0)=some (0,Ob.box [.p (Ao t.nodes),.p (.int .i64 t.next)])/\s.h (.slot 4 0)=some (0,Ob.box [.p (.int .i64 0),.p (.int .i64 0),.p (.int .i64 0),.p (.int .i64 0),.p (.int .i64 0),.p (.int .i64 0),.p (.int .i64 0),.p (.int .i64 0),.p (.int .i64 0),.p (.int .i64 0),.own (.slot 4 11) 0 0 0,.own (.slot 4 12) 0 0 0,.own (.slot 4 13) 0 0 0,.own (.slot 4 14) 0 0 0,.own (.slot 4 15) 0 0 0,.own (.slot 4 16) 0 0 0])/\s.h (.slot 6 0)=some (0,Ob.box [.p (.int .i64 x.m.rb),.p (.int .i64 x.m.rp),.p (.int .i64 x.m.wb),.p (.int .i64 x.m.wp),.p (.int .i64 x.m.seek),.p (.int .i64 x.speed),.p (.int .i64 x.margin),.p (.int .i64 x.now),.p (.int .i64 x.free),.p (.int .i64 x.head),.own (.slot 6 11) w0 0 a0.length,.own (.slot 6 12) w1 0 a1.length,.own (.slot 6 13) w2 0 a2.length,.own (.slot 6 14) w3 0 a3.length,.own (.slot 6 15) w4 0 a4.length,.own (.slot 18 16) 0 0 x.flights.length])/\s.h (.slot 6 11)=some (w0,Ob.arr 2 (a0.map Ch.pv))/\s.h (.slot 6 12)=some (w1,Ob.arr 21 (a1.map Cp.pv))/\s.h (.slot 6 13)=some (w2,Ob.arr 3 (a2.map Dp.pv))/\s.h (.slot 6 14)=some (w3,Ob.arr 2 (a3.map Ch.pv))/\s.h (.slot 6 15)=some (w4,Ob.arr 6 (a4.map Rq.pv))/\s.h (.slot 18 16)=some (0,Ob.arr 7 (M.map Fl.pv))
 refine Ak (x.flights.length) Q ?_ ?_
 ·refine (hQ _ _).2 ⟨x.flights,?_⟩
  and_intros
  ·rfl
  ·rfl
  all_goals first|exact cl0|(simp -implicitDefEqProofs (disch:=omega) only [hH,lma,go_sem]<;>first|(simp [Aa,List.map_set,Fl.pv];done)|(simp [Aa,List.map_set,Fl.pv];omega))
 intro q s hq hQk
 obtain ⟨M,hM,hMl,hH⟩:=(hQ _ _).1 hQk
 clear hQk
 simp -implicitDefEqProofs (disch:=omega) only [hH,go_sem]
 refine Af (fun hlt=>?_) (fun hge=>?_)
 ·have hm:x.flights[q]?=some x.flights[q]:=lgg hlt
  rw [ldg hlt] at hM
  have htk:=Bi hm
  generalize x.flights[q]=c at hm hM htk
  have hlk:((x.flights.take q).map (okG t)).length=q:=by rw [llm,llt];omega
  have hmid:M[q]?=some c:=by rw [hM];exact HV hlk
  have hset:∀ y,M.set q y=(x.flights.take q).map (okG t)++y::x.flights.drop (q+1):=fun y=>by rw [hM];exact HO hlk
  have j0:=ih c.r.group
  cases hk:Ag t.nodes c.r.group with
  | true =>
   rw [hk] at j0
   have hO:okG t c=c:=by unfold okG;rw [if_pos hk]
   simp -implicitDefEqProofs (disch:=omega) only [hH,hlt,hmid,Fl.pv,j0,go_sem]
   try refine ai ?_
   refine (hQ _ _).2 ⟨M,?_⟩
   and_intros
   .exact by rw [hM,htk,lma,laa,List.map_singleton,hO];rfl
   .exact hMl
   all_goals first|exact cl0|(simp -implicitDefEqProofs (disch:=omega) only [hH,lma,go_sem]<;>first|(simp [Aa,List.map_set,Fl.pv];done)|(simp [Aa,List.map_set,Fl.pv];omega))
  | false =>
   rw [hk] at j0
   have hO:okG t c=⟨⟨c.r.task,1,c.r.at_,c.r.pages,c.r.write,c.r.time⟩,c.done⟩:=by unfold okG;rw [if_neg (by rw [hk];simp)]
   simp -implicitDefEqProofs (disch:=omega) only [hH,hlt,hmid,Fl.pv,j0,go_sem]
   try refine ai ?_
   refine (hQ _ _).2 ⟨M.set q ⟨⟨c.r.task,1,c.r.at_,c.r.pages,c.r.write,c.r.time⟩,c.done⟩,?_⟩
   and_intros
   .exact by rw [hset,htk,lma,laa,List.map_singleton,hO];rfl
   .exact by rw [List.length_set];exact hMl
   all_goals first|exact cl0|(simp -implicitDefEqProofs (disch:=omega) only [hH,lma,go_sem]<;>first|(simp [Aa,List.map_set,Fl.pv];done)|(simp [Aa,List.map_set,Fl.pv];omega))
 ·rw [ltl (by omega),List.drop_eq_nil_of_le (by omega),lan] at hM
  have hadj:DI t x={ x with weights:=a0,buckets:=a1,depths:=a2,v:=a3,queue:=a4,flights:=M }:=by unfold DI;rw [hf0,hf1,hf2,hf3,hf4,hM]
  rw [hadj] at i7 ⊢
  generalize DQ t _=vd at i7 ⊢
  have hMt:List.take x.flights.length (List.map Fl.pv M)=List.map Fl.pv M:=ltl (by rw [llm];omega)
  cases vd with
  | true=>simp -implicitDefEqProofs (disch:=omega) only [hH,hge,hMt,i7,go_sem]
  | false =>
   simp -implicitDefEqProofs (disch:=omega) only [hH,hge,hMt,i7,go_sem]
   rfl
theorem Qh:dvZ.Small:=⟨by decide,by decide,by decide,by decide,by decide,by decide⟩
theorem zaj (m:Mdl) (speed margin:Int):∃ (x:Dv) (e:Int),x.Small/\V 28 [DG m speed margin] []=some (.tup [x.fv,.p (.int .i64 e)],[])/\V 14 [DG m speed margin] []=some (.tup [x.fv,.p (.int .i64 e)],[]):=by
 cases hc:CS m speed margin with
 | true=>exact ⟨D5 m speed margin,0,⟨by simp,by simp,by simp,by simp,by simp,by simp⟩,QN m speed margin hc,OY m speed margin hc⟩
 | false =>
  refine ⟨dvZ,3,Qh,Ad (vf:=vf28) rfl ?_,Ad (vf:=vf14) rfl ?_⟩
  ·have i0:=KB m speed margin
   rw [hc] at i0
   simp -implicitDefEqProofs (disch:=omega) only [vf28,Mv,i0,go_sem]
   rfl
  ·have i0:=PO m speed margin
   rw [hc] at i0
   simp -implicitDefEqProofs (disch:=omega) only [vf14,Mx,i0,go_sem]
   rfl
theorem TL (L:List Int) (m:Mdl) (speed margin:Int):V 6 [.p (AT L),DG m speed margin] []=some (.p (.bool true),[]):=by
 refine Ad (vf:=vf6) rfl ?_
 have hli:=Y1 (L.map (PV.int .i64))
 rw [llm] at hli
 by_cases hL:L.length<=600
 ·rw [decide_eq_true hL] at hli
  have hro:=Z7 L
  obtain ⟨x0,e0,hs0,hn1,hn2⟩:=zaj m speed margin
  have hsd:=KL x0 hs0
  have dd:∀ n:Int,decide (n=n)=true:=fun n=>decide_eq_true rfl
  simp -implicitDefEqProofs (disch:=omega) only [vf6,vb6,hli,hro,hn1,hn2,hsd,dd,go_sem]
  obtain ⟨I,hI⟩:=lpI fun k s=>∃ (b:Nat),s.pe 5=.ptr (.slot 18 1) 0 0/\s.pe 6=.ptr (.slot 6 0) 0 0/\s.pe 8=.ptr (.slot 8 0) 0 0/\s.pe 10=.p (.int .i64 k)/\s.h (.slot 18 1)=some (0,Ob.box [.p (AT L),.p (.int .i64 (b:Nat))])/\(∃ X,s.h (.slot 6 0)=some (0,Ob.box X)/\X.length=16)/\∃ X,s.h (.slot 8 0)=some (0,Ob.box X)/\X.length=16
  refine Ak (3) I ?_ ?_
  ·refine (hI _ _).2 ⟨0,?_⟩
   and_intros
   all_goals first|exact cl0|(simp -implicitDefEqProofs (disch:=omega) only [lma,go_sem]<;>first|(simp [Aa];done)|(simp [Aa];omega))|(simp -implicitDefEqProofs (disch:=omega) only [lma,go_sem]<;>(refine ⟨_,rfl,?_⟩;first|rfl|(simp -implicitDefEqProofs (disch:=omega) only [lma,go_sem];done)|(simp -implicitDefEqProofs (disch:=omega) only [lma,go_sem];rfl)))
  intro k s hk hIk
  obtain ⟨b,h5,h6,h8,h10,hh18_1,h6X,h8X⟩:=(hI _ _).1 hIk
  clear hIk
  obtain ⟨X6,h6X,hL6⟩:=h6X
  obtain ⟨X8,h8X,hL8⟩:=h8X
  have d6:∀ f:VVal->VVal,List.drop 16 (List.map f X6)=[]:=fun f=>ldl (by rw [llm];omega)
  have d8:∀ f:VVal->VVal,List.drop 16 (List.map f X8)=[]:=fun f=>ldl (by rw [llm];omega)
  simp -implicitDefEqProofs (disch:=omega) only [h5,h6,h8,h10,hh18_1,h6X,h8X,go_sem]
  refine Af (fun hlt=>?_) (fun hge=>?_)
  ·have hLL:L.length<4611686018427387904:=by omega
   have htr:V 13 [.ptr (.arg 0 0) 0 0,.p (.int .i64 5)] [AK L b]=some ((Es L b 5).1.vv,[AK L (Es L b 5).2]):=Qq L b 5 (by omega) (by omega)
   have hok:=Qi L b 5
   generalize Es L b 5=ta at htr hok
   obtain ⟨t,b1⟩:=ta
   simp only at htr hok
   obtain ⟨x,b2,hdv,hx,hxn,hxq⟩:=zav L b1 hok 12 (by omega) hLL
   have hdv:V 22 [.ptr (.arg 0 0) 0 0,t.vv,.p (.int .i64 12)] [AK L b1]=some (x.vv,[AK L b2]):=hdv
   have hxs:=E7 hx
   have l1:=hok.len
   have l2:=IC hx.w
   have l3:=IC hx.v
   have l4:=hx.len
   obtain ⟨c1,c2,_⟩:=Cx.1 hx.bk
   obtain ⟨g1,g2,_⟩:=HH hx.dp
   have l5:=Jb (t:=t) (l:=x.buckets.map (·.group)) (List.pairwise_map.2 c2) (fun z hz=>by obtain ⟨c,hc,rfl⟩:=lmm.1 hz;exact (c1 c hc).1)
   have l6:=Jb (t:=t) (l:=x.depths.map (·.group)) (List.pairwise_map.2 g2) (fun z hz=>by obtain ⟨c,hc,rfl⟩:=lmm.1 hz;exact g1 c hc)
   rw [llm] at l5 l6
   obtain ⟨y,b3,hod,hys⟩:=YP L b2 x hLL (by omega) (by omega) (by omega) (by omega) (by omega) (by omega)
   have key:∀ (z:Dv) (b3:Nat),z.Small->∃ (b4:Nat) (u:Tr) (w:Dv) (e:Int),w.Small/\V 13 [.ptr (.arg 0 0) 0 0,.p (.int .i64 5)] [AK L b3]=some (u.vv,[AK L b4])/\V 31 [u.vv,z.vv] []=some (.tup [w.fv,.p (.int .i64 e)],[])/\V 32 [u.vv,z.vv] []=some (.tup [w.fv,.p (.int .i64 e)],[]):=fun z b3 hz=>by
    have h1:=Qq L b3 5 hLL (by omega)
    have h2:=Qi L b3 5
    have h3:=zaS h2 z hz
    have h4:=zaa h2 z hz
    by_cases hv:DQ (Es L b3 5).1 (DI (Es L b3 5).1 z)=true
    ·rw [if_pos hv] at h3 h4
     exact ⟨_,_,_,_,KH _ hz,h1,h3,h4⟩
    ·rw [if_neg hv] at h3 h4
     exact ⟨_,_,_,_,Qh,h1,h3,h4⟩
   by_cases hk2:(k:Int)=2
   ·obtain ⟨b4,u,w,e,hws,hu,ha1,ha2⟩:=key y b3 hys
    have hsw:=KL w hws
    simp -implicitDefEqProofs (disch:=omega) only [h5,h6,h8,h10,hh18_1,h6X,h8X,hlt,htr,hdv,hk2,hod,hu,ha1,ha2,hsw,dd,hL6,hL8,d6,d8,llm,go_sem]
    try refine ai ?_
    refine (hI _ _).2 ⟨b4,?_⟩
    and_intros
    all_goals first|exact cl0|(simp -implicitDefEqProofs (disch:=omega) only [h5,h6,h8,h10,hh18_1,h6X,h8X,lma,go_sem]<;>first|(simp [Aa];done)|(simp [Aa];omega))|(simp -implicitDefEqProofs (disch:=omega) only [h5,h6,h8,h10,hh18_1,h6X,h8X,lma,go_sem]<;>(refine ⟨_,rfl,?_⟩;first|rfl|(simp -implicitDefEqProofs (disch:=omega) only [h5,h6,h8,h10,hh18_1,h6X,h8X,lma,go_sem];done)|(simp -implicitDefEqProofs (disch:=omega) only [h5,h6,h8,h10,hh18_1,h6X,h8X,lma,go_sem];rfl)))
   ·obtain ⟨b4,u,w,e,hws,hu,ha1,ha2⟩:=key x b2 hxs
    have hsw:=KL w hws
    simp -implicitDefEqProofs (disch:=omega) only [h5,h6,h8,h10,hh18_1,h6X,h8X,hlt,htr,hdv,hk2,hu,ha1,ha2,hsw,dd,hL6,hL8,d6,d8,llm,go_sem]
    try refine ai ?_
    refine (hI _ _).2 ⟨b4,?_⟩
    and_intros
    all_goals first|exact cl0|(simp -implicitDefEqProofs (disch:=omega) only [h5,h6,h8,h10,hh18_1,h6X,h8X,lma,go_sem]<;>first|(simp [Aa];done)|(simp [Aa];omega))|(simp -implicitDefEqProofs (disch:=omega) only [h5,h6,h8,h10,hh18_1,h6X,h8X,lma,go_sem]<;>(refine ⟨_,rfl,?_⟩;first|rfl|(simp -implicitDefEqProofs (disch:=omega) only [h5,h6,h8,h10,hh18_1,h6X,h8X,lma,go_sem];done)|(simp -implicitDefEqProofs (disch:=omega) only [h5,h6,h8,h10,hh18_1,h6X,h8X,lma,go_sem];rfl)))
  .simp -implicitDefEqProofs (disch:=omega) only [h5,h6,h8,h10,hh18_1,h6X,h8X,hge,OS,go_sem]
 ·rw [decide_eq_false hL] at hli
  simp -implicitDefEqProofs (disch:=omega) only [vf6,vb6,hli,OS,go_sem]
end Go.V
