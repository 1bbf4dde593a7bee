/- Part 4 of the proof. -/
import Derived.Test.YtekkdllchjmhdaaGreatF3
import Derived.Test.YtekkdllchjmhdaaGreatF2
set_option linter.unusedSectionVars false
set_option linter.unusedSimpArgs false
set_option linter.unusedVariables false
set_option maxHeartbeats 32000000
open Nat renaming le_refl → lrf
open List renaming getElem?_eq_getElem → lgg, getElem?_eq_some_iff → lgs, mem_of_getElem? → lmg, drop_eq_getElem_cons → ldg, mem_cons_of_mem → lmc, map_cons → lpc, drop_of_length_le → ldl, nil_append → lna, append_assoc → laa, append_nil → lan, mem_map → lmm, mem_cons_self → lms, map_append → lma, take_of_length_le → ltl, getElem?_of_mem → lgm, length_cons → llc, length_append → lla, mem_cons → lmk, map_nil → lpn, length_nil → lln, mem_append → lmp, length_map → llm, getElem_mem → lgk, length_take → llt, length_drop → lld, pairwise_cons → lpw, cons_append → lca, foldl_append → lfa, filter_cons → lfl
open Bool renaming and_eq_true → bat, false_and → bfa, false_eq_true → bft, true_and → bta, not_false → bnf, and_self → bas, or_eq_true → bot, and_true → bau
namespace Go.V
theorem zA {a b:Prop} (x:a) (y:b):a/\b:=⟨x,y⟩
theorem zq0 {P : Prop} (h : P := by first | exact cl0 | (simp -implicitDefEqProofs (disch := omega) only [hZ, List.map_append, go_sem] <;> first | (simp [B2]; done) | (simp [B2]; omega))) : P := h
theorem zq1 {P : Prop} (h : P := by first | exact cl0 | (simp -implicitDefEqProofs (disch := omega) only [hZ, List.map_append, go_sem] <;> first | (simp [B2]; done) | (simp [B2]; omega)) | (simp -implicitDefEqProofs (disch := omega) only [hZ, List.map_append, go_sem] <;> (refine ⟨_, rfl, ?_⟩; first | rfl | (simp -implicitDefEqProofs (disch := omega) only [hZ, List.map_append, go_sem]; done) | (simp -implicitDefEqProofs (disch := omega) only [hZ, List.map_append, go_sem]; rfl)))) : P := h
theorem zq2 {P : Prop} (h : P := by first | exact cl0 | (simp -implicitDefEqProofs (disch := omega) only [hZ, List.map_append, go_sem] <;> first | (simp [B2,List.map_set,Cp.pv]; done) | (simp [B2,List.map_set,Cp.pv]; omega))) : P := h
theorem zq3 {P : Prop} (h : P := by first | exact cl0 | (simp -implicitDefEqProofs (disch := omega) only [hZ, List.map_append, go_sem] <;> first | (simp [B2, List.map_set, Cp.pv]; done) | (simp [B2, List.map_set, Cp.pv]; omega)) | (simp -implicitDefEqProofs (disch := omega) only [hZ, List.map_append, go_sem] <;> (refine ⟨_, rfl, ?_⟩; first | rfl | (simp -implicitDefEqProofs (disch := omega) only [hZ, List.map_append, go_sem]; done) | (simp -implicitDefEqProofs (disch := omega) only [hZ, List.map_append, go_sem]; rfl)))) : P := h
theorem O3 (l:List Dp) (id:Int) (hl:l.length<1000000):V 27 [.p (BJ l),.p (.int .i64 id)] []=some ((getD l id).vv,[]):=by
 refine Ac (vf:=vf27) rfl ?_
 refine w0 ?_
 obtain ⟨I,hI⟩:=lpI fun k s=>getD l id=getD (l.drop k) id/\s.pe 0=.p (BJ l)/\s.pe 1=.p (.int .i64 id)/\s.pe 4=.ptr (.slot 4 0) 0 0/\s.pe 5=.p (.int .i64 k)/\s.h (.slot 4 0)=some (0,Ob.box [.p (.int .i64 0),.p (.int .i64 0),.p (.int .i64 0)])
 refine Aj (l.length) I ?_ ?_
 ·refine (hI _ _).2 ?_
  and_intros
  ·exact cl3
  all_goals exact cl4
 intro k s hk hIk
 obtain ⟨hq,hH⟩:=(hI _ _).1 hIk
 clear hIk
 refine w1 hH ?_
 refine Ae (fun hlt=>?_) (fun hge=>?_)
 ·have hm:l[k]?=some l[k]:=lgg hlt
  rw [ldg hlt,getD] at hq
  generalize l[k]=c at hm hq
  by_cases hc:c.group=id
  ·rw [if_pos hc] at hq
   subst hc
   exact z4 hH hlt hm hq
  ·rw [if_neg hc] at hq
   simp -implicitDefEqProofs (disch:=omega) only [hH,hlt,hm,hc,go_sem]
   try refine ai ?_
   refine (hI _ _).2 ?_
   and_intros
   .exact hq
   all_goals exact cl4
 ·have hq':getD l id=⟨id,0,256⟩:=by
   rw [hq,ldl (by omega)]
   rfl
  exact z3 hH hge hq'
theorem M8 {C:Int}:∀ l:List Int,(∀ x∈l,x<=C)->Am l<=C*l.length
 | [],_=>by simp [Am]
 | x::l,h=>by
  have ih:=M8 l fun y hy=>h y (lmc _ hy)
  have:=h x (lms ..)
  simp only [Am,llc,Int.natCast_add,Int.natCast_one,Int.mul_add,Int.mul_one]
  omega
theorem zcx {t:Tr} (h:TreeOk t) (fs:List Fl) (hfl:fs.length<=256):ChOk t.nodes (flyL t fs):=by
 have hlen:=h.len
 have hL2:=fun c=>Lw (t:=t) (fs:=fs) (c:=c)
 have hL3:=Lx t fs
 refine ⟨fun c hc=>?_,Qu h fs,fun c hc=>?_,?_⟩
 ·obtain ⟨n,hn,e,_⟩:=hL2 c hc
  rw [e,HH h hn]
  rfl
 ·unfold flyL at hc
  obtain ⟨n,hn,rfl⟩:=lmm.1 hc
  have:=(List.mem_filter.1 hn).2
  simp only [decide_eq_true_eq] at this
  exact this
 ·have:=M8 (C:=256) ((flyL t fs).map (·.own)) fun x hx=>by
   obtain ⟨c,hc,rfl⟩:=lmm.1 hx
   obtain ⟨n,hn,_,e⟩:=hL2 c hc
   have:=H8 fs n.id
   rw [e]
   omega
  rw [llm] at this
  omega
theorem Yg {t:Tr} (h:TreeOk t) (ds:List Dp) (fs:List Fl) (id:Int) (hds:BT (Ag t.nodes) none ds=true) (hdl:ds.length<1000000) (hfl:fs.length<=256) (hid:Ag t.nodes id=true) :
  V 210 [t.vv,.p (BJ ds),.p (Ap (flyL t fs)),.p (.int .i64 id)] []=some (.tup [.p (.bool (Fn t ds fs id)),.p (.int .i64 0)],[]):=by
 refine Ac (vf:=vf210) rfl ?_
 have hlen:=h.len
 have j0:=LJ h hds hdl
 have hC:=zcx h fs hfl
 have hL3:=Lx t fs
 have hL4:∀ c∈flyL t fs,0<=c.own/\c.own<=256:=fun c hc=>by
  obtain ⟨n,hn,_,e⟩:=Lw hc
  rw [e]
  have:=Gw fs n.id
  have:=H8 fs n.id
  omega
 have hK:=PK h hid
 have hal:=EH t.nodes t.nodes.length id
 have hsum:∀ g∈ancF t.nodes t.nodes.length id,V 261 [t.vv,MD (flyL t fs),.p (.int .i64 g)] []=some (.p (.int .i64 (Gd t fs g)),[]):=fun g hg=>by
  have hk:=hK g hg
  obtain ⟨n,hn,e⟩:=CY hk
  obtain ⟨i,hi⟩:=lgm hn
  have:=zbh h hC (by omega) hi
  rw [e] at this
  rw [this]
  obtain ⟨e1,e2⟩:=PR h fs hk
  unfold tot Gd
  rw [<- e1,e2]
 have ca:=IP h hid
 have ch:=Ed h hid
 unfold Fn
 generalize flyL t fs=l at hC hL3 hL4 hsum
 generalize ancF t.nodes t.nodes.length id=A at hK hal hsum ca
 refine w1 j0 ?_
 obtain ⟨I,hI⟩:=lpI fun k s=>s.pe 1=.p (BJ ds)/\s.pe 2=.p (Ap l)/\s.pe 3=.p (.int .i64 id)/\s.pe 4=.ptr (.slot 4 0) 0 0/\s.pe 10=.p (.int .i64 k)/\s.h (.slot 4 0)=some (0,Ob.box [.p (An t.nodes),.p (.int .i64 t.next)])
 refine Aj (l.length) I ?_ ?_
 ·refine (hI _ _).2 ?_
  and_intros
  all_goals exact cl4
 intro k s hk hIk
 obtain hH:=(hI _ _).1 hIk
 clear hIk
 refine w1 hH ?_
 refine Ae (fun hlt=>?_) (fun hge=>?_)
 ·have hm:l[k]?=some l[k]:=lgg hlt
  generalize l[k]=c at hm
  have hmem:=lmg hm
  have hfi:=Ed h (hC.known c hmem)
  have hr:=hL4 c hmem
  have b1:¬ c.own<0:=by omega
  have b2:¬ 256<c.own:=by omega
  by_cases hk0:(0:Int)<k
  ·obtain ⟨e,he,hlt'⟩:=H1 hC.inc hm hk0
   have hk1:(0:Int)<=(k:Int) - 1:=by omega
   have hle:¬ c.group<=e.group:=by omega
   simp -implicitDefEqProofs (disch:=omega) only [hH,hlt,hm,hfi,hk0,hk1,he,hle,b1,b2,go_sem]
   try refine ai ?_
   refine (hI _ _).2 ?_
   and_intros
   all_goals exact cl4
  ·simp -implicitDefEqProofs (disch:=omega) only [hH,hlt,hm,hfi,hk0,b1,b2,go_sem]
   try refine ai ?_
   refine (hI _ _).2 ?_
   and_intros
   all_goals exact cl4
 ·refine w4 hH hge ch ca ?_
  obtain ⟨J,hJ⟩:=lpI fun j s=>∃ (v64_1:Nat),(A.all fun g=>decide (Gd t fs g<(getD ds g).depth))=((A.drop j).all fun g=>decide (Gd t fs g<(getD ds g).depth))/\s.pe 1=.p (BJ ds)/\s.pe 2=.p (Ap l)/\s.pe 4=.ptr (.slot 4 0) 0 0/\s.pe 12=.own (.slot 64 1) v64_1 0 A.length/\s.pe 13=.p (.int .i64 j)/\s.h (.slot 4 0)=some (0,Ob.box [.p (An t.nodes),.p (.int .i64 t.next)])/\s.h (.slot 64 1)=some (v64_1,Ob.arr 1 (List.map (.int .i64) A))
  refine Aj (A.length) J ?_ ?_
  ·refine (hJ _ _).2 ⟨nv (s.h (.slot 64 1)),?_⟩
   and_intros
   ·rfl
   all_goals exact cl4
  intro j s hj hJk
  obtain ⟨v64_1,hq,hH⟩:=(hJ _ _).1 hJk
  clear hJk
  refine w1 hH ?_
  refine Ae (fun hjl=>?_) (fun hjg=>?_)
  ·have hx:A[j]?=some A[j]:=lgg hjl
   rw [ldg hjl,List.all_cons] at hq
   have hsu:=hsum A[j] (lgk hjl)
   generalize A[j]=g at hx hq hsu
   have hgd:=O3 ds g hdl
   generalize Gd t fs g=S at hsu hq
   generalize getD ds g=dd at hgd hq
   by_cases hlt:S<dd.depth
   ·rw [decide_eq_true hlt,bta] at hq
    have hn:¬ dd.depth<=S:=by omega
    simp -implicitDefEqProofs (disch:=omega) only [hH,hjl,hx,hsu,hgd,hn,go_sem]
    try refine ai ?_
    refine (hJ _ _).2 ⟨v64_1,?_⟩
    and_intros
    .exact hq
    all_goals exact cl4
   ·rw [decide_eq_false hlt,bfa] at hq
    have hn:dd.depth<=S:=by omega
    exact z7 hH hjl hx hsu hgd hn hq
  ·rw [ldl (by omega),List.all_nil] at hq
   exact z3 hH hjg hq
theorem OY {b:Bk} {n:Int} (hn:n<=4096):Dj b n=0 ↔ n<=AH b:=by
 unfold Dj AH
 by_cases e:b.rate=maxR
 ·rw [if_pos e,if_pos e];omega
 ·rw [if_neg e,if_neg e]
  split<;>omega
theorem X4 {c:Cp} {r:Rq} (hp:1<=r.pages/\r.pages<=4096):EX c r=(decide (r.pages<=AH (kpB c r.write)) && decide (1<=AH (koB c r.write))):=by
 unfold EX
 have h1:=OY (b:=kpB c r.write) (n:=r.pages) (by omega)
 have h2:=OY (b:=koB c r.write) (n:=1) (by omega)
 rw [Bool.eq_iff_iff,decide_eq_true_eq,bat,decide_eq_true_eq,decide_eq_true_eq,h1,h2]
theorem Oj {t:Tr} {x:Dv} (h:DvOk t x) (hs:x.Small) {r:Rq} (hp:1<=r.pages/\r.pages<=4096) (hk:Ag t.nodes r.group=true):V 168 [t.vv,x.vv,r.vv] []=some (.p (.bool (C2 t x r)),[]):=by
 refine Ac (vf:=vf168) rfl ?_
 have hlen:=h.tree.len
 have hl:=h.len
 have c0:=X8 t x (by omega) hs.f
 have c1:=Yg h.tree x.depths x.flights r.group h.dp hs.p (by omega) hk
 have ca:=IP h.tree hk
 have hal:=EH t.nodes t.nodes.length r.group
 have hbl:=hs.b
 obtain ⟨b1,_,_⟩:=Cn.1 h.bk
 unfold C2
 generalize ancF t.nodes t.nodes.length r.group=A at hal ca
 generalize Fn t x.depths x.flights r.group=al at c1
 generalize flyL t x.flights=fl at c0 c1
 refine w3 c0 c1 ca ?_
 obtain ⟨I,hI⟩:=lpI fun k s=>s.pe 4=.ptr (.slot 4 0) 0 0/\s.pe 5=.ptr (.slot 5 0) 0 0/\s.pe 7=.p (.bool (al && (A.take k).all (Cu x.buckets r)))/\s.pe 8=.p (.int .i64 0)/\s.pe 9=.own (.slot 29 1) 0 0 A.length/\s.pe 10=.p (.int .i64 k)/\s.h (.slot 4 0)=some (0,Ob.box (dvC x))/\s.h (.slot 5 0)=some (0,Ob.box [.p (.int .i64 r.task),.p (.int .i64 r.group),.p (.int .i64 r.at_),.p (.int .i64 r.pages),.p (.bool r.write),.p (.int .i64 r.time)])/\s.h (.slot 29 1)=some (0,Ob.arr 1 (List.map (.int .i64) A))
 refine Aj (A.length) I ?_ ?_
 ·refine (hI _ _).2 ?_
  and_intros
  all_goals (have hZ:=@lma Nat Nat;exact zq0)
 intro k s hk hIk
 obtain ⟨h4,h5,h7,hH⟩:=(hI _ _).1 hIk
 clear hIk
 refine w4 h4 h5 h7 hH ?_
 refine Ae (fun hlt=>?_) (fun hge=>?_)
 ·have hm:A[k]?=some A[k]:=lgg hlt
  have htk:=Bt hm
  generalize A[k]=g at hm htk
  have hst:(al && (A.take (k+1)).all (Cu x.buckets r))=((al && (A.take k).all (Cu x.buckets r)) && Cu x.buckets r g):=by rw [htk,List.all_append,Bool.and_assoc];simp
  have i1:=Kw x g hs
  rcases E8 (fun c:Cp=>decide (c.group=g)) x.buckets with ⟨e1,hno⟩|⟨q,c,e1,e2,hmg,hbe⟩
  ·have hR:Cu x.buckets r g=true:=by unfold Cu;rw [IU hno]
   rw [hR,bau] at hst
   rw [e1] at i1
   have d1:decide ((0:Int)<=-1)=false:=rfl
   generalize (al && (A.take k).all (Cu x.buckets r))=z at h7 hst
   simp -implicitDefEqProofs (disch:=omega) only [h4,h5,h7,hH,hlt,hm,i1,d1,go_sem]
   try refine ai ?_
   refine (hI _ _).2 ?_
   and_intros
   all_goals (have hZ:=zA h4 (zA h5 (zA h7 (zA hH hst)));exact zq0)
  ·have hR:Cu x.buckets r g=EX c r:=by rw [X4 hp];unfold Cu;rw [HW e2 hmg hbe]
   rw [hR] at hst
   rw [e1] at i1
   have hq:=(lgs.1 e2).1
   have i2:=O1 c r (b1 c (lmg e2)).2 hp
   generalize EX c r=sp at i2 hst
   generalize (al && (A.take k).all (Cu x.buckets r))=z at h7 hst
   cases z with
   | true =>
    rw [bta] at hst
    simp -implicitDefEqProofs (disch:=omega) only [h4,h5,h7,hH,hlt,hm,i1,hq,e2,Cp.pv,i2,go_sem]
    try refine ai ?_
    refine (hI _ _).2 ?_
    and_intros
    all_goals (have hZ:=zA h4 (zA h5 (zA h7 (zA hH hst)));exact zq0)
   | false =>
    rw [bfa] at hst
    simp -implicitDefEqProofs (disch:=omega) only [h4,h5,h7,hH,hlt,hm,i1,hq,e2,Cp.pv,i2,go_sem]
    try refine ai ?_
    refine (hI _ _).2 ?_
    and_intros
    all_goals (have hZ:=zA h4 (zA h5 (zA h7 (zA hH hst)));exact zq0)
 ·rw [ltl (by omega)] at h7
  generalize (al && A.all (Cu x.buckets r))=z at h7 ⊢
  cases z with
  | true=>simp -implicitDefEqProofs (disch:=omega) only [h4,h5,h7,hH,hge,go_sem]
  | false=>simp -implicitDefEqProofs (disch:=omega) only [h4,h5,h7,hH,hge,go_sem]
def goR (t:Tr) (x:Dv) (g:Int):Bool:=(Be x.queue g).any (C2 t x)
def Dm (t:Tr) (x:Dv):List Int:=(t.nodes.filter fun n=>goR t x n.id).map (·.id)
theorem Wy {g:Int}:∀ {l:List Rq},Be l g=none->BR (fun c:Rq=>decide (c.group=g)) l=-1:=by
 intro l h
 rcases E8 (fun c:Rq=>decide (c.group=g)) l with ⟨e,_⟩|⟨k,m,_,hm,hg,_⟩
 ·exact e
 ·have key:∀ {l:List Rq},m∈l->m.group=g->Be l g ≠ none:=by
   intro l
   induction l with
   | nil=>intro h;cases h
   | cons x l ih =>
    intro hx hg
    unfold Be
    split
    ·simp
    ·rcases lmk.1 hx with rfl|hx
     .contradiction
     .exact ih hx hg
  exact absurd h (key (lmg hm) (by simpa using hg))
theorem O2 {t:Tr} {x:Dv} (h:DvOk t x) (hs:x.Small):V 138 [t.vv,x.vv] []=some (.fresh 1 ((Dm t x).map (.int .i64)),[]):=by
 refine Ac (vf:=vf138) rfl ?_
 have hlen:=h.tree.len
 have hl:=h.len
 refine w0 ?_
 obtain ⟨I,hI⟩:=lpI fun k s=>∃ (acc:List Int) (w:Nat),(acc=((t.nodes.take k).filter fun n=>goR t x n.id).map (·.id))/\acc.length<=k/\s.pe 2=.ptr (.slot 2 0) 0 0/\s.pe 3=.ptr (.slot 3 0) 0 0/\s.pe 5=.own (.slot 5 0) w 0 acc.length/\s.pe 6=.p (.int .i64 k)/\s.h (.slot 2 0)=some (0,Ob.box [.p (An t.nodes),.p (.int .i64 t.next)])/\s.h (.slot 3 0)=some (0,Ob.box (dvC x))/\s.h (.slot 5 0)=some (w,Ob.arr 1 (acc.map (.int .i64)))
 refine Aj (t.nodes.length) I ?_ ?_
 ·refine (hI _ _).2 ⟨[],0,?_⟩
  and_intros
  ·rfl
  ·exact cl3
  all_goals exact cl4
 intro k s hk hIk
 obtain ⟨acc,w,ha,hal,hH⟩:=(hI _ _).1 hIk
 clear hIk
 refine w1 hH ?_
 refine Ae (fun hlt=>?_) (fun hge=>?_)
 ·have hm:t.nodes[k]?=some t.nodes[k]:=lgg hlt
  have htk:=Bt hm
  generalize t.nodes[k]=n at hm htk
  have i1:=O4 x n.id hs
  cases hf:Be x.queue n.id with
  | none =>
   have hR:goR t x n.id=false:=by unfold goR;rw [hf];rfl
   rw [Wy hf] at i1
   have d1:decide ((0:Int)<=-1)=false:=rfl
   simp -implicitDefEqProofs (disch:=omega) only [hH,hlt,hm,Nd.vv,i1,d1,go_sem]
   try refine ai ?_
   refine (hI _ _).2 ⟨acc,w,?_⟩
   and_intros
   ·exact by rw [ha,htk,List.filter_append,lma];simp [hR]
   ·omega
   all_goals exact cl4
  | some r =>
   have hR:goR t x n.id=C2 t x r:=by unfold goR;rw [hf];rfl
   obtain ⟨q,e1,e2,_⟩:=KN hf
   rw [e1] at i1
   have hq:=(lgs.1 e2).1
   obtain ⟨hr1,hr2⟩:=h.q r (lmg e2)
   have i2:=Oj h hs (CL.1 hr1).2.2.2.1 hr2
   cases hp:C2 t x r with
   | true =>
    rw [hp] at i2 hR
    simp -implicitDefEqProofs (disch:=omega) only [hH,hlt,hm,Nd.vv,i1,hq,e2,i2,go_sem]
    try refine ai ?_
    refine (hI _ _).2 ⟨acc++[n.id],w+1,?_⟩
    and_intros
    .exact by rw [ha,htk,List.filter_append,lma];simp [hR]
    .exact by rw [lla,List.length_singleton];omega
    all_goals exact cl4
   | false =>
    rw [hp] at i2 hR
    simp -implicitDefEqProofs (disch:=omega) only [hH,hlt,hm,Nd.vv,i1,hq,e2,i2,go_sem]
    try refine ai ?_
    refine (hI _ _).2 ⟨acc,w,?_⟩
    and_intros
    .exact by rw [ha,htk,List.filter_append,lma];simp [hR]
    .omega
    all_goals exact cl4
 ·rw [ltl (by omega)] at ha
  have hA:Dm t x=acc:=ha.symm
  rw [hA]
  exact z2 hH hge
theorem Yj {t:Tr} {x:Dv} (h:DvOk t x) (hs:x.Small) {r:Rq} (hr:Aw { r with time:=0 }=true) (hk:Ag t.nodes r.group=true):V 134 [t.vv,x.vv,r.vv] []=some (.p (.int .i64 0),[]):=by
 refine Ac (vf:=vf134) rfl ?_
 have i0:=H0 h hs
 have i1:=IZ _ hr
 have i2:=Ed h.tree hk
 exact z3 i0 i1 i2
theorem O6 {t:Tr} {x:Dv} (h:DvOk t x) (hs:x.Small) {r:Rq} (hr:Aw { r with time:=0 }=true) (hk:Ag t.nodes r.group=true) (hlt:x.queue.length+x.flights.length<256):V 59 [t.vv,x.vv,r.vv] []=some (.tup [(DL x r).fv,.p (.int .i64 0)],[]):=by
 refine Ac (vf:=vf59) rfl ?_
 have i0:=Yj h hs hr hk
 have i1:=GB x hs hs.q hs.f
 have n1:¬ (256:Int)<=(x.queue.length:Int)+(x.flights.length:Int):=by omega
 refine w3 i0 i1 n1 ?_
 simp [Rq.pv]
theorem O5 {t:Tr} {d:Dv} (h:DvOk t d) (hs:d.Small) (hb:¬ d.now*d.speed<=d.free) {g:Int} {r:Rq} (hq:Be d.queue g=some r) {v:List Ch} {e:Int} (hi:Cb t d.v g (Cq t d g) (BI d r) (d.now*d.speed) d.margin=(v,e)) :
  V 139 [t.vv,d.vv,.p (.int .i64 g)] []=some (if e=0 then .tup [(Ds t d g r v).fv,.p (.bool true)] else .tup [d.vv,.p (.bool false)],[]):=by
 refine Ac (vf:=vf139) rfl ?_
 have hlen:=h.tree.len
 have hql:=h.len
 obtain ⟨hs1,hs2,hs3,hs4,hs5,hs6⟩:=id hs
 obtain ⟨hmem,hgr⟩:=HD hq
 obtain ⟨hsr,hkn⟩:=h.q r hmem
 rw [hgr] at hkn
 obtain ⟨n,hn,hid⟩:=CY hkn
 obtain ⟨ni,hni⟩:=lgm hn
 obtain ⟨hmd,hsp,hmg⟩:=Ec.1 h.cfg
 have i0:=O4 d g hs
 obtain ⟨i,hix,hir,hrem⟩:=KN hq
 rw [hix] at i0
 have hil:=(lgs.1 hir).1
 have i1:=ZI d.m r d.head hmd hsr h.head
 have i2:=zbq d hs
 have hact:(actL d).length<1000000:=by
  unfold actL
  rw [lla,llm,llm]
  omega
 have hfl:=(Eh.1 h.fl).1
 have hactk:∀ a∈actL d,Ag t.nodes a=true:=fun a ha=>by
  unfold actL at ha
  rcases lmp.1 ha with ha|ha
  ·obtain ⟨q,hq,rfl⟩:=lmm.1 ha
   exact (h.q q hq).2
  ·obtain ⟨f,hf,rfl⟩:=lmm.1 ha
   exact (hfl f hf).1.2
 have i3:=Yh h.tree h.w hs1 hactk hact hni
 rw [hid] at i3
 have hsh:shr t (Ao d.weights) (onB t (actL d)) g=Cq t d g:=rfl
 rw [hsh] at i3
 have i4:=Yb t d.v g (Cq t d g) (BI d r) (d.now*d.speed) d.margin (by omega) hs4
 rw [hi] at i4
 simp only at i4
 have hco:=LA h hsr
 have hcd:max 1 (Cx d.m r d.head)=BI d r:=Int.max_comm _ _
 have hbr:=FK h
 generalize actL d=act at i2 i3 hact
 generalize Cq t d g=share at i3 i4 hi
 by_cases he:e=0
 ·rw [if_pos he]
  subst he
  have hvl:v.length<1000000:=by
   have:=OU (t:=t) (a:=d.v) (id:=g) (share:=share) (cost:=BI d r) (now:=d.now*d.speed) (margin:=d.margin) (by rw [hi])
   rw [hi] at this
   exact Jy h.tree this
  have d0:decide ((0:Int)=0)=true:=rfl
  have i5:=GB d hs hs5 hs6
  have ca:=IP h.tree hkn
  have hal:=EH t.nodes t.nodes.length g
  have hM:=Od t d.buckets r
  have hSp:Fi t d.buckets r=(ancF t.nodes t.nodes.length g).foldl (fun l g=>BQ l g fun c=>Bw c r) d.buckets:=by rw [<- hgr];rfl
  have hsr':=CL.1 hsr
  have hok:=fun gs=>IX (t:=t) (r:=r) (by omega) gs d.buckets h.bk
  generalize ancF t.nodes t.nodes.length g=A at ca hal hSp
  refine w11 i0 hil hir i1 i2 i3 hcd i4 i5 ca d0 ?_
  obtain ⟨I,hI⟩:=lpI fun k s=>∃ (M:List Cp),M=(A.take k).foldl (fun l g=>BQ l g fun c=>Bw c r) d.buckets/\M.length=d.buckets.length/\s.pe 4=.ptr (.slot 4 0) 0 0/\s.pe 6=.ptr (.slot 6 0) 0 0/\s.pe 8=.p (.int .i64 ↑i)/\s.pe 9=.ptr (.slot 9 0) 0 0/\s.pe 10=.p (.int .i64 (BI d r))/\s.pe 16=.own (.slot 79 1) 0 0 A.length/\s.pe 17=.p (.int .i64 k)/\s.h (.slot 4 0)=some (0,Ob.box [.p (.int .i64 d.m.rb),.p (.int .i64 d.m.rp),.p (.int .i64 d.m.wb),.p (.int .i64 d.m.wp),.p (.int .i64 d.m.seek),.p (.int .i64 d.speed),.p (.int .i64 d.margin),.p (.int .i64 d.now),.p (.int .i64 d.free),.p (.int .i64 d.head),.own (.slot 74 11) 0 0 d.weights.length,.own (.slot 74 12) 0 0 d.buckets.length,.own (.slot 74 13) 0 0 d.depths.length,.own (.slot 67 1) 0 0 v.length,.own (.slot 74 15) 0 0 d.queue.length,.own (.slot 74 16) 0 0 d.flights.length])/\s.h (.slot 6 0)=some (0,Ob.box [.p (.int .i64 0),.p (.int .i64 0),.p (.int .i64 0),.p (.int .i64 0),.p (.int .i64 0),.p (.int .i64 0),.p (.int .i64 0),.p (.int .i64 0),.p (.int .i64 0),.p (.int .i64 0),.own (.slot 6 11) 0 0 0,.own (.slot 6 12) 0 0 0,.own (.slot 6 13) 0 0 0,.own (.slot 6 14) 0 0 0,.own (.slot 6 15) 0 0 0,.own (.slot 6 16) 0 0 0])/\s.h (.slot 6 11)=some (0,Ob.arr 2 [])/\s.h (.slot 6 12)=some (0,Ob.arr 21 [])/\s.h (.slot 6 13)=some (0,Ob.arr 3 [])/\s.h (.slot 6 14)=some (0,Ob.arr 2 [])/\s.h (.slot 6 15)=some (0,Ob.arr 6 [])/\s.h (.slot 6 16)=some (0,Ob.arr 7 [])/\s.h (.slot 9 0)=some (0,Ob.box [.p (.int .i64 r.task),.p (.int .i64 r.group),.p (.int .i64 r.at_),.p (.int .i64 r.pages),.p (.bool r.write),.p (.int .i64 r.time)])/\s.h (.slot 67 1)=some (0,Ob.arr 2 (List.map Ch.pv v))/\s.h (.slot 74 11)=some (0,Ob.arr 2 (List.map Ch.pv d.weights))/\s.h (.slot 74 12)=some (0,Ob.arr 21 (List.map Cp.pv M))/\s.h (.slot 74 13)=some (0,Ob.arr 3 (List.map Dp.pv d.depths))/\s.h (.slot 74 15)=some (0,Ob.arr 6 (List.map Rq.pv d.queue))/\s.h (.slot 74 16)=some (0,Ob.arr 7 (List.map Fl.pv d.flights))/\s.h (.slot 79 1)=some (0,Ob.arr 1 (List.map (.int .i64) A))
  refine Aj (A.length) I ?_ ?_
  ·refine (hI _ _).2 ⟨d.buckets,?_⟩
   and_intros
   ·exact cl3
   ·exact cl3
   all_goals exact cl6
  intro k s hk hIk
  obtain ⟨M,hMe,hMl,hH⟩:=(hI _ _).1 hIk
  clear hIk
  have hbkM:=(Cn.1 (hok (A.take k))).1
  rw [<- hMe] at hbkM
  have htM:List.take d.buckets.length (List.map Cp.pv M)=List.map Cp.pv M:=ltl (by rw [llm];omega)
  have hxM:Dv.Small { d with v:=v,buckets:=M }:=⟨hs1,by show M.length<_;omega,hs3,hvl,hs5,hs6⟩
  refine w1 hH ?_
  refine Ae (fun hlt=>?_) (fun hge=>?_)
  ·have hm:A[k]?=some A[k]:=lgg hlt
   have htk:=Bt hm
   generalize A[k]=g' at hm htk
   have k0:=Kw { d with v:=v,buckets:=M } g' hxM
   rcases E8 (fun c:Cp=>decide (c.group=g')) M with ⟨e,hno⟩|⟨q,c,e,hmi,hmg,hbe⟩
   ·have hst:BQ M g' (fun c=>Bw c r)=M:=KY hno
    simp only [e] at k0
    have hd:decide ((0:Int)<=-1)=false:=rfl
    simp -implicitDefEqProofs (disch:=omega) only [hH,hlt,hm,k0,hd,htM,go_sem]
    try refine ai ?_
    refine (hI _ _).2 ⟨M,?_⟩
    and_intros
    ·exact by rw [htk,lfa,<- hMe];exact hst.symm
    ·exact hMl
    all_goals exact cl6
   ·have hst:BQ M g' (fun c=>Bw c r)=M.set q (Bw c r):=LH hmi hmg hbe
    simp only [e] at k0
    have hil:=(lgs.1 hmi).1
    rw [hMl] at hil
    have i5:=O1 c r (hbkM c (lmg hmi)).2 (CL.1 hsr).2.2.2.1
    simp -implicitDefEqProofs (disch:=omega) only [hH,hlt,hm,k0,hil,hmi,Cp.pv,i5,htM,go_sem]
    try refine ai ?_
    refine (hI _ _).2 ⟨M.set q (Bw c r),?_⟩
    and_intros
    ·exact by rw [htk,lfa,<- hMe];exact hst.symm
    ·exact by rw [List.length_set];exact hMl
    all_goals exact cl6
  ·rw [ltl (by omega),<- hSp] at hMe
   have hrl:=Fe hq
   have hfr:=IT h hb hsr
   have hdn:=KP h hb hsr
   have hnw:=h.now
   have hn1:(d.now - 1)*d.speed=d.now*d.speed - d.speed:=by rw [Int.sub_mul,Int.one_mul]
   have hf0:=h.free
   have hfd:max d.free ((d.now - 1)*d.speed)+BI d r=Bn d r:=rfl
   have hdd:max (d.now+1) ((Bn d r+d.speed - 1) / d.speed)=A7 d r:=rfl
   have hqu:(Bn d r+d.speed - 1).tdiv d.speed=(Bn d r+d.speed - 1) / d.speed:=Int.tdiv_eq_ediv_of_nonneg (by omega)
   have hq0:0<=(Bn d r+d.speed - 1) / d.speed:=Int.ediv_nonneg (by omega) (by omega)
   have hq1:(Bn d r+d.speed - 1) / d.speed<=Bn d r+d.speed - 1:=Int.ediv_le_self _ (by omega)
   have hsp0:¬ d.speed=0:=by omega
   have eT:((i:Int)+1).toNat=i+1:=by omega
   have hlq:i+(d.queue.length - (i+1))=(BA d.queue g).length:=by omega
   have hmq:List.take i (List.map Rq.pv d.queue)++List.take (d.queue.length - (i+1)) (List.drop (i+1) (List.map Rq.pv d.queue))=List.map Rq.pv (BA d.queue g):=by
    rw [ltl (i:=d.queue.length - (i+1)) (by rw [lld,llm];omega),hrem,lma,List.map_take,List.map_drop]
   have hso:=(Eh.1 h.fl).2.1
   have hse:=Oe hso (A7 d r)
   have htl:=fun k=>Ih (p:=fun f:Fl=>decide (f.done<=A7 d r)) (l:=d.flights) (k:=k)
   have hNl:(d.flights.takeWhile fun f=>decide (f.done<=A7 d r)).length<=d.flights.length:=(List.takeWhile_sublist _).length_le
   have htd:=GT (p:=fun f:Fl=>decide (f.done<=A7 d r)) (l:=d.flights)
   have hin:Cy d.flights ⟨r,A7 d r⟩=d.flights.take (d.flights.takeWhile fun f=>decide (f.done<=A7 d r)).length++⟨r,A7 d r⟩::d.flights.drop (d.flights.takeWhile fun f=>decide (f.done<=A7 d r)).length:=by rw [htd.1,htd.2];rfl
   have hB:(Ds t d g r v).fv=.agg [.p (.int .i64 d.m.rb),.p (.int .i64 d.m.rp),.p (.int .i64 d.m.wb),.p (.int .i64 d.m.wp),.p (.int .i64 d.m.seek),.p (.int .i64 d.speed),.p (.int .i64 d.margin),.p (.int .i64 d.now),.p (.int .i64 (Bn d r)),.p (.int .i64 (r.at_+r.pages)),.fresh 2 (d.weights.map Ch.pv),.fresh 21 (M.map Cp.pv),.fresh 3 (d.depths.map Dp.pv),.fresh 2 (v.map Ch.pv),.fresh 6 ((BA d.queue g).map Rq.pv),.fresh 7 ((Cy d.flights ⟨r,A7 d r⟩).map Fl.pv)]:=by rw [hMe];rfl
   rw [hB,hin]
   generalize hN:(d.flights.takeWhile fun f=>decide (f.done<=A7 d r)).length=N at hse htl hNl hin ⊢
   simp -implicitDefEqProofs (disch:=omega) only [hH,hge,hil,hfd,hqu,hsp0,hdd,eT,Nat.sub_zero,lld,llm,Nat.min_self,go_sem]
   rw [hlq,hmq]
   obtain ⟨A,hA⟩:=lpI fun k s=>∃ (m:Nat) (v19_0:Nat),m+k=d.flights.length/\s.pe 4=.ptr (.slot 4 0) 0 0/\s.pe 6=.ptr (.slot 6 0) 0 0/\s.pe 19=.ptr (.slot 19 0) v19_0 0/\s.pe 20=.p (.int .i64 (m:Int))/\s.h (.slot 4 0)=some (0,Ob.box [.p (.int .i64 d.m.rb),.p (.int .i64 d.m.rp),.p (.int .i64 d.m.wb),.p (.int .i64 d.m.wp),.p (.int .i64 d.m.seek),.p (.int .i64 d.speed),.p (.int .i64 d.margin),.p (.int .i64 d.now),.p (.int .i64 (Bn d r)),.p (.int .i64 (r.at_+r.pages)),.own (.slot 74 11) 0 0 d.weights.length,.own (.slot 74 12) 0 0 d.buckets.length,.own (.slot 74 13) 0 0 d.depths.length,.own (.slot 67 1) 0 0 v.length,.own (.slot 74 15) 1 0 (BA d.queue g).length,.own (.slot 74 16) 0 0 d.flights.length])/\s.h (.slot 6 0)=some (0,Ob.box [.p (.int .i64 0),.p (.int .i64 0),.p (.int .i64 0),.p (.int .i64 0),.p (.int .i64 0),.p (.int .i64 0),.p (.int .i64 0),.p (.int .i64 0),.p (.int .i64 0),.p (.int .i64 0),.own (.slot 6 11) 0 0 0,.own (.slot 6 12) 0 0 0,.own (.slot 6 13) 0 0 0,.own (.slot 6 14) 0 0 0,.own (.slot 6 15) 0 0 0,.own (.slot 6 16) 0 0 0])/\s.h (.slot 19 0)=some (v19_0,Ob.box [.p (.int .i64 r.task),.p (.int .i64 r.group),.p (.int .i64 r.at_),.p (.int .i64 r.pages),.p (.bool r.write),.p (.int .i64 r.time),.p (.int .i64 (A7 d r))])/\s.h (.slot 67 1)=some (0,Ob.arr 2 (List.map Ch.pv v))/\s.h (.slot 74 11)=some (0,Ob.arr 2 (List.map Ch.pv d.weights))/\s.h (.slot 74 12)=some (0,Ob.arr 21 (List.map Cp.pv M))/\s.h (.slot 74 13)=some (0,Ob.arr 3 (List.map Dp.pv d.depths))/\s.h (.slot 74 15)=some (1,Ob.arr 6 (List.map Rq.pv (BA d.queue g)))/\s.h (.slot 74 16)=some (0,Ob.arr 7 (List.map Fl.pv d.flights))
   refine Aj ((d.flights.length - N)) A ?_ ?_
   ·refine (hA _ _).2 ⟨d.flights.length,nv (s.h (.slot 19 0)),?_⟩
    and_intros
    ·exact cl3
    all_goals exact cl6
   intro k s hk hAk
   obtain ⟨m,v19_0,hmk,hH⟩:=(hA _ _).1 hAk
   clear hAk
   by_cases hkN:k<d.flights.length - N
   ·have hfm:d.flights[m - 1]?=some d.flights[m - 1]:=lgg (by omega)
    have hd:=hse (m - 1) _ (by omega) hfm
    generalize d.flights[m - 1]=f at hfm hd
    have hm0:(0:Int)<m:=by omega
    have hm1:(0:Int)<=(m:Int) - 1:=by omega
    have hm2:((m:Int) - 1).toNat=m - 1:=by omega
    have hm3:m - 1<d.flights.length:=by omega
    simp -implicitDefEqProofs (disch:=omega) only [hH,hm0,hm1,hm2,hm3,hfm,hd,Fl.pv,go_sem]
    try refine ai ?_
    refine (hA _ _).2 ⟨m - 1,v19_0,?_⟩
    and_intros
    ·omega
    all_goals exact cl6
   ·have hmN:m=N:=by omega
    subst hmN
    have hfin:List.take (m+min (1+(d.flights.length - m)) (d.flights.length - m+1)) (List.take m (List.map Fl.pv d.flights)++List.take (1+(d.flights.length - m)) (Fl.pv ⟨r,A7 d r⟩::List.take (d.flights.length - m) (List.drop m (List.map Fl.pv d.flights))))=List.map Fl.pv (List.take m d.flights++⟨r,A7 d r⟩::List.drop m d.flights):=by
     rw [ltl (i:=d.flights.length - m) (by simp),ltl (i:=1+(d.flights.length - m)) (by simp;omega),ltl (by simp;omega),lma,lpc,List.map_take,List.map_drop]
    simp only [Fl.pv] at hfin
    by_cases hm00:m=0
    ·have hm0:¬ (0:Int)<m:=by omega
     simp -implicitDefEqProofs (disch:=omega) only [hH,hm0,htM,Int.toNat_natCast,Nat.sub_zero,lld,llm,Nat.min_self,go_sem]
     rw [hfin]
    ·obtain ⟨f,hfm,hpf⟩:=htl (m - 1) (by omega)
     have hd:¬ A7 d r<f.done:=by have:=of_decide_eq_true hpf;omega
     have hm0:(0:Int)<m:=by omega
     have hm1:(0:Int)<=(m:Int) - 1:=by omega
     have hm2:((m:Int) - 1).toNat=m - 1:=by omega
     have hm3:m - 1<d.flights.length:=by omega
     simp -implicitDefEqProofs (disch:=omega) only [hH,hm0,hm1,hm2,hm3,hfm,hd,htM,Fl.pv,Int.toNat_natCast,Nat.sub_zero,lld,llm,Nat.min_self,go_sem]
     rw [hfin]
 ·rw [if_neg he]
  exact z9 i0 hil hir i1 i2 i3 hcd i4 he
theorem Yr {t:Tr} {a:List Ch} {now:Int} {l l':List Int} (h:∀ x,x∈l ↔ x∈l'):AZ t a now 0 l=AZ t a now 0 l':=by
 refine Z0 (l:=l) (Lq t a now l) ?_
 have:=Lq t a now l'
 unfold NInv at this ⊢
 simpa only [h] using this
theorem OB {t:Tr} {d:Dv} (h:DvOk t d) {x:Int}:x∈Dm t d ↔ ∃ r,Be d.queue x=some r/\C2 t d r=true:=by
 unfold Dm
 simp only [lmm,List.mem_filter,goR,Option.any_eq_true]
 constructor
 ·rintro ⟨n,⟨_,r,h1,h2⟩,rfl⟩
  exact ⟨r,h1,h2⟩
 ·rintro ⟨r,h1,h2⟩
  obtain ⟨hm,hg⟩:=HD h1
  have hk:=(h.q r hm).2
  rw [hg] at hk
  obtain ⟨n,hn,rfl⟩:=CY hk
  exact ⟨n,⟨hn,r,h1,h2⟩,rfl⟩
theorem Yq {t:Tr} {d:Dv} (h:DvOk t d):AZ t d.v (d.now*d.speed) 0 (Dm t d)=AZ t d.v (d.now*d.speed) 0 (Bm (A5 t d [] d.queue)):=by
 refine Yr fun x=>?_
 rw [OB h,K5,HA]
 simp
theorem WF {α:Type} {l:List α} {k:Nat} {x:α} (h:l[k]?=some x):l.drop k=x::l.drop (k+1):=by
 obtain ⟨hl,rfl⟩:=lgs.1 h
 exact ldg hl
theorem Om (t:Tr) (d:Dv):(Dm t d).length<=t.nodes.length:=by
 unfold Dm
 rw [llm]
 exact List.length_filter_le _ _
theorem ZF (t:Tr) (a:List Ch) (list:List Int) (now:Int) (hn:t.nodes.length<1000000) (ha:a.length<1000000) (hl:list.length<1000000):V 21 [t.vv,.p (Ap a),.p (AG list),.p (.int .i64 now)] []=some (.tup [.p (.int .i64 (AZ t a now 0 list)),.p (.bool (!decide (AZ t a now 0 list=0)))],[]):=by
 refine Ac (vf:=vf21) rfl ?_
 refine w0 ?_
 obtain ⟨I,hI⟩:=lpI fun k s=>∃ (best:Int),AZ t a now 0 list=AZ t a now best (list.drop k)/\s.pe 1=.p (Ap a)/\s.pe 2=.p (AG list)/\s.pe 3=.p (.int .i64 now)/\s.pe 4=.ptr (.slot 4 0) 0 0/\s.pe 10=.p (.int .i64 best)/\s.pe 11=.p (.bool (!decide (best=0)))/\s.pe 12=.p (.int .i64 k)/\s.h (.slot 4 0)=some (0,Ob.box [.p (An t.nodes),.p (.int .i64 t.next)])
 refine Aj (list.length) I ?_ ?_
 ·refine (hI _ _).2 ⟨0,?_⟩
  and_intros
  ·exact cl3
  all_goals exact cl4
 intro k s hk hIk
 obtain ⟨best,hN,hH⟩:=(hI _ _).1 hIk
 clear hIk
 refine w1 hH ?_
 refine Ae (fun hlt=>?_) (fun hge=>?_)
 ·have hm:list[k]?=some list[k]:=lgg hlt
  rw [ldg hlt,AZ] at hN
  generalize list[k]=x at hm hN
  have d1:=QK t a x now hn ha
  have d2:=Jq a x ha
  have d3:=Jq a best ha
  cases hmay:CI t a x now with
  | false =>
   rw [hmay] at d1
   rw [if_neg (by rw [hmay];exact fun h=>absurd h.1 (by decide))] at hN
   simp -implicitDefEqProofs (disch:=omega) only [hH,hlt,hm,d1,go_sem]
   try refine ai ?_
   refine (hI _ _).2 ⟨best,?_⟩
   and_intros
   ·exact hN
   all_goals exact cl4
  | true =>
   rw [hmay] at d1
   have hx0:=QX hmay
   by_cases hb:best=0 \/ Ak a x<Ak a best \/ (Ak a x=Ak a best/\x<best)
   ·rw [if_pos ⟨hmay,hb⟩] at hN
    generalize Ak a x=p at d2 hb
    generalize Ak a best=q at d3 hb
    by_cases b1:best=0
    ·subst b1
     simp -implicitDefEqProofs (disch:=omega) only [hH,hlt,hm,d1,d2,d3,decide_true,go_sem]
     try refine ai ?_
     refine (hI _ _).2 ⟨x,?_⟩
     and_intros
     ·exact hN
     all_goals exact cl4
    ·by_cases b2:p<q
     ·simp -implicitDefEqProofs (disch:=omega) only [hH,hlt,hm,d1,d2,d3,b1,b2,go_sem]
      try refine ai ?_
      refine (hI _ _).2 ⟨x,?_⟩
      and_intros
      .exact hN
      all_goals exact cl4
     ·have b3:p=q:=by omega
      have b4:x<best:=by omega
      simp -implicitDefEqProofs (disch:=omega) only [hH,hlt,hm,d1,d2,d3,b1,b2,b3,b4,Int.lt_irrefl,go_sem]
      try refine ai ?_
      refine (hI _ _).2 ⟨x,?_⟩
      and_intros
      .exact hN
      all_goals exact cl4
   ·rw [if_neg (fun h=>hb h.2)] at hN
    generalize Ak a x=p at d2 hb
    generalize Ak a best=q at d3 hb
    have b1:¬ best=0:=by omega
    have b2:¬ p<q:=by omega
    by_cases b3:p=q
    ·have b4:¬ x<best:=by omega
     simp -implicitDefEqProofs (disch:=omega) only [hH,hlt,hm,d1,d2,d3,b1,b3,b4,Int.lt_irrefl,go_sem]
     try refine ai ?_
     refine (hI _ _).2 ⟨best,?_⟩
     and_intros
     .exact hN
     all_goals exact cl4
    ·simp -implicitDefEqProofs (disch:=omega) only [hH,hlt,hm,d1,d2,d3,b1,b2,b3,go_sem]
     try refine ai ?_
     refine (hI _ _).2 ⟨best,?_⟩
     and_intros
     .exact hN
     all_goals exact cl4
 ·rw [List.drop_eq_nil_of_le (by omega),AZ] at hN
  rw [hN]
  exact z2 hH hge
theorem I6 {α:Type} {p:α->Bool} {l:List α} {k:Nat} {m:α} (hm:l[k]?=some m):((l.take (k+1)).filter p).length=((l.take k).filter p).length+if p m=true then 1 else 0:=by
 rw [Bt hm,List.filter_append,lla]
 by_cases h:p m=true
 .rw [if_pos h,List.filter_cons_of_pos h];rfl
 .rw [if_neg h,List.filter_cons_of_neg h];rfl
theorem Jw {α:Type} (p:α->Bool) (l:List α) (k:Nat):((l.take k).filter p).length<=l.length:=by
 have:=List.length_filter_le p (l.take k)
 rw [llt] at this
 omega
def pendD (d:Dv) (task:Int):Nat:=(d.queue.filter fun r=>decide (r.task=task)).length+(d.flights.filter fun f=>decide (f.r.task=task)).length
theorem Ot (d:Dv) (task:Int) (hq:d.queue.length<1000000) (hf:d.flights.length<1000000):V 41 [d.vv,.p (.int .i64 task)] []=some (.p (.int .i64 (pendD d task:Nat)),[]):=by
 refine Ac (vf:=vf41) rfl ?_
 simp -implicitDefEqProofs (disch:=omega) only [vf41,TF,llm,go_sem]
 obtain ⟨I,hI⟩:=lpI fun k s=>s.pe 1=.p (.int .i64 task)/\s.pe 2=.ptr (.slot 2 0) 0 0/\s.pe 5=.p (.int .i64 (((d.queue.take k).filter fun r=>decide (r.task=task)).length:Nat))/\s.pe 11=.p (C5 d.queue)/\s.pe 12=.p (.int .i64 ↑d.queue.length)/\s.pe 13=.p (.int .i64 k)/\s.h (.slot 2 0)=some (0,Ob.box (dvC d))
 refine Aj (d.queue.length) I ?_ ?_
 ·refine (hI _ _).2 ?_
  and_intros
  all_goals exact cl4
 intro k s hk hIk
 obtain ⟨h1,h2,h5,h11,h12,hH⟩:=(hI _ _).1 hIk
 clear hIk
 refine w6 h1 h2 h5 h11 h12 hH ?_
 refine Ae (fun hlt=>?_) (fun hge=>?_)
 ·have hm:d.queue[k]?=some d.queue[k]:=lgg hlt
  have hst:=I6 (p:=fun r:Rq=>decide (r.task=task)) hm
  have hle:=Jw (fun r:Rq=>decide (r.task=task)) d.queue k
  generalize d.queue[k]=r at hm hst
  generalize ((d.queue.take k).filter fun r=>decide (r.task=task)).length=c at h5 hst hle
  by_cases hr:r.task=task
  ·rw [if_pos (decide_eq_true hr)] at hst
   simp -implicitDefEqProofs (disch:=omega) only [h1,h2,h5,h11,h12,hH,hlt,hm,hr,go_sem]
   try refine ai ?_
   refine (hI _ _).2 ?_
   and_intros
   all_goals exact cl4
  ·rw [if_neg (by simpa using hr)] at hst
   simp -implicitDefEqProofs (disch:=omega) only [h1,h2,h5,h11,h12,hH,hlt,hm,hr,go_sem]
   try refine ai ?_
   refine (hI _ _).2 ?_
   and_intros
   all_goals exact cl4
 ·rw [ltl (by omega)] at h5
  have hqf:=List.length_filter_le (fun r:Rq=>decide (r.task=task)) d.queue
  have hP:pendD d task=(d.queue.filter fun r=>decide (r.task=task)).length+(d.flights.filter fun f=>decide (f.r.task=task)).length:=rfl
  rw [hP]
  generalize (d.queue.filter fun r=>decide (r.task=task)).length=Q at h5 hqf
  refine w7 h1 h2 h5 h11 h12 hH hge ?_
  obtain ⟨J,hJ⟩:=lpI fun j s=>s.pe 1=.p (.int .i64 task)/\s.pe 2=.ptr (.slot 2 0) 0 0/\s.pe 5=.p (.int .i64 ((Q+((d.flights.take j).filter fun f=>decide (f.r.task=task)).length:Nat):Int))/\s.pe 25=.p (Io d.flights)/\s.pe 26=.p (.int .i64 ↑d.flights.length)/\s.pe 27=.p (.int .i64 j)
  refine Aj (d.flights.length) J ?_ ?_
  ·refine (hJ _ _).2 ?_
   and_intros
   all_goals exact cl4
  intro j s hj hJk
  obtain ⟨h1,h2,h5,hH⟩:=(hJ _ _).1 hJk
  clear hJk
  refine w4 h1 h2 h5 hH ?_
  refine Ae (fun hjl=>?_) (fun hjg=>?_)
  ·have hm:d.flights[j]?=some d.flights[j]:=lgg hjl
   have hst:=I6 (p:=fun f:Fl=>decide (f.r.task=task)) hm
   have hle:=Jw (fun f:Fl=>decide (f.r.task=task)) d.flights j
   generalize d.flights[j]=r at hm hst
   generalize ((d.flights.take j).filter fun f=>decide (f.r.task=task)).length=c at h5 hst hle
   by_cases hr:r.r.task=task
   ·rw [if_pos (decide_eq_true hr)] at hst
    simp -implicitDefEqProofs (disch:=omega) only [h1,h2,h5,hH,hjl,hm,hr,go_sem]
    try refine ai ?_
    refine (hJ _ _).2 ?_
    and_intros
    all_goals exact cl4
   ·rw [if_neg (by simpa using hr)] at hst
    simp -implicitDefEqProofs (disch:=omega) only [h1,h2,h5,hH,hjl,hm,hr,go_sem]
    try refine ai ?_
    refine (hJ _ _).2 ?_
    and_intros
    all_goals exact cl4
  ·rw [ltl (by omega)] at h5
   exact z5 h1 h2 h5 hH hjg
theorem Qj {t:Tr} {k:Nat} {d:Dv} {l:List Int} {g:Int} {r:Rq} {v:List Ch} (h1:¬ d.now*d.speed<=d.free) (h2:Bm (A5 t d [] d.queue)=l) (h3:AZ t d.v (d.now*d.speed) 0 l=g) (h4:g ≠ 0) (h5:Be d.queue g=some r)
  (h6:Cb t d.v g (Cq t d g) (BI d r) (d.now*d.speed) d.margin=(v,0)):Cv t (k+1) d=Cv t k (Ds t d g r v):=by
 rw [Cv,if_neg h1]
 simp only [h2,h3]
 rw [if_neg h4]
 simp only [h5,h6]
 rw [if_neg (by simp)]
theorem IS {t:Tr} {k:Nat} {d:Dv} (h:d.now*d.speed<=d.free):Cv t (k+1) d=d:=by rw [Cv,if_pos h]
theorem Pi (x:Int):Bm [x]=[x]:=List.mergeSort_of_pairwise (by simp)
abbrev prT:Tr:=⟨[⟨1,0,⟨#[]⟩,0,0,0⟩,⟨2,1,⟨#[97]⟩,0,0,0⟩],3⟩
abbrev rA:Rq:=⟨0,2,0,3,false,0⟩
abbrev rB:Rq:=⟨0,2,3,1,false,0⟩
abbrev mdS:Mdl:=⟨0,10,0,10,0⟩
def sD:Nat->Dv
 | 0=>⟨mdS,10,0,0,0,0,[],[],[],[],[rA,rB],[]⟩
 | 1=>⟨mdS,10,0,1,30,3,[],[],[],[⟨2,40⟩],[rB],[⟨rA,3⟩]⟩
 | 2=>⟨mdS,10,0,2,30,3,[],[],[],[⟨2,40⟩],[rB],[⟨rA,3⟩]⟩
 | 3=>⟨mdS,10,0,3,30,3,[],[],[],[⟨2,40⟩],[rB],[]⟩
 | _=>⟨mdS,10,0,4,40,4,[],[],[],[⟨2,50⟩],[],[⟨rB,5⟩]⟩
theorem SS (k:Nat) (hk:k<=4):DvOk prT (sD k):=by
 have h:k=0 \/ k=1 \/ k=2 \/ k=3 \/ k=4:=by omega
 rcases h with rfl|rfl|rfl|rfl|rfl<;>exact dvOk_iff.1 (by rfl)
theorem PX (k:Nat) (hk:k<=4):(sD k).Small:=Db (SS k hk)
theorem Zy:Bx prT (sD 0)=sD 1:=by
 unfold Bx
 have e:(sD 0).queue.length+1=2+1:=rfl
 rw [e,Qj (l:=[2]) (g:=2) (r:=rA) (v:=[⟨2,40⟩]) (by decide) (by rw [show A5 prT (Bs (sD 0)) [] (Bs (sD 0)).queue=[2] from rfl,Pi]) rfl (by decide) rfl rfl,show (2:Nat)=1+1 from rfl,IS (by decide)]
 rfl
theorem Zx:Bx prT (sD 1)=sD 2:=by
 unfold Bx
 rw [IS (by decide)]
 rfl
theorem Zw:Bx prT (sD 2)=sD 3:=by
 unfold Bx
 rw [IS (by decide)]
 rfl
theorem Zv:Bx prT (sD 3)=sD 4:=by
 unfold Bx
 have e:(sD 3).queue.length+1=1+1:=rfl
 rw [e,Qj (l:=[2]) (g:=2) (r:=rB) (v:=[⟨2,50⟩]) (by decide) (by rw [show A5 prT (Bs (sD 3)) [] (Bs (sD 3)).queue=[2] from rfl,Pi]) rfl (by decide) rfl rfl,show (1:Nat)=0+1 from rfl,IS (by decide)]
 rfl
theorem zbg (k:Nat) (hk:k<4):Bx prT (sD k)=sD (k+1):=by
 have h:k=0 \/ k=1 \/ k=2 \/ k=3:=by omega
 rcases h with rfl|rfl|rfl|rfl
 .exact Zy
 .exact Zx
 .exact Zw
 .exact Zv
theorem Yl:V 33 [] []=some (prT.fv,[]):=by
 refine Ac (vf:=vf33) rfl ?_
 refine w0 ?_
 rfl
def eD:Nat->List Fl
 | 0|1|2=>[]
 | _=>[⟨rA,3⟩]
theorem EK:V 11 [] []=some (.p (.bool true),[]):=by
 refine Ac (vf:=vf11) rfl ?_
 have c0:=Yl
 have c1:=zb4 mdS 10 0 (by rfl)
 have ok0:DvOk prT (EA mdS 10 0):=dvOk_iff.1 (by rfl)
 have ok1:DvOk prT (DL (EA mdS 10 0) rA):=dvOk_iff.1 (by rfl)
 have c2:=KW prT (EA mdS 10 0) rA ok0 (Db ok0) (by rfl) (by rfl) (by decide)
 have c3:=KW prT (DL (EA mdS 10 0) rA) rB ok1 (Db ok1) (by rfl) (by rfl) (by decide)
 simp only [prT,Tr.vv,Tr.fv,An,lpc,lpn,Nd.pv,dvF,EA,DL,FD,Dv.vv,Rq.vv,Ap,Hq,BJ,C5,Io,lna,lca,Rq.pv] at c0 c1 c2 c3
 refine w4 c0 c1 c2 c3 ?_
 have ht:∀ k,k<4->V 19 [prT.vv,(sD k).vv] []=some (.tup [dvF (sD (k+1)) (.p (Ap (sD (k+1)).v)),.fresh 7 ((CF (sD k)).map Fl.pv),.p (.int .i64 0)],[]):=fun k hk=>by
  have:=QF (SS k (by omega)) (PX k (by omega)) (by
   have h:k=0 \/ k=1 \/ k=2 \/ k=3:=by omega
   rcases h with rfl|rfl|rfl|rfl<;>decide)
  rw [zbg k hk] at this
  exact this
 have hfr:(sD 1).free=30:=rfl
 have hq3:(sD 3).queue.length=1:=rfl
 have hq4:(sD 4).queue.length=0:=rfl
 have he:∀ k,k<4->eD k++CF (sD k)=eD (k+1)/\(k<2->(CF (sD k)).length=0)/\(CF (sD k)).length<=1/\(eD k).length<=1:=fun k hk=>by
  have h:k=0 \/ k=1 \/ k=2 \/ k=3:=by omega
  rcases h with rfl|rfl|rfl|rfl<;>exact ⟨rfl,by decide,by decide,by decide⟩
 have hp:=Ot (sD 4) 0 (by decide) (by decide)
 rw [show pendD (sD 4) 0=1 from rfl] at hp
 have hsm:=fun k hk=>PX k hk
 obtain ⟨I,hI⟩:=lpI fun k s=>∃ (w:Nat) (acc:List Fl),acc=eD k/\s.pe 1=.ptr (.slot 1 0) 0 0/\s.pe 2=.ptr (.slot 2 0) 0 0/\s.pe 3=.p (.int .i64 0)/\s.pe 4=.p (.int .i64 0)/\s.pe 5=.p (.int .i64 0)/\s.pe 6=.own (.slot 6 0) w 0 acc.length/\s.pe 7=.p (.int .i64 k)/\s.h (.slot 1 0)=some (0,Ob.box [.p (An prT.nodes),.p (.int .i64 prT.next)])/\s.h (.slot 6 0)=some (w,Ob.arr 7 (acc.map Fl.pv))/\∃ X,s.h (.slot 2 0)=some (0,Ob.box X)/\X.map (fz0 [8,29,39] s.h)=dvC (sD k)
 refine Aj (4) I ?_ ?_
 ·refine (hI _ _).2 ⟨0,[],?_⟩
  and_intros
  ·rfl
  all_goals (have hZ:=@lma Nat Nat;exact zq1)
 intro k s hk hIk
 obtain ⟨w,acc,hacc,h1,h2,h3,h4,h5,h6,h7,hh1_0,hh6_0,hX⟩:=(hI _ _).1 hIk
 clear hIk
 clear c0 c1 c2 c3 ok0 ok1
 have l1:decide ((0:Int)<2)=true:=rfl
 have l2:decide ((0:Int)<((0:Nat):Int))=false:=rfl
 have l3:decide ((2:Int)=0)=false:=rfl
 have l4:decide ((3:Int)=0)=false:=rfl
 have l5:decide ((3:Int)=2)=false:=rfl
 have l6:decide ((3:Int)<2)=false:=rfl
 have l7:decide (((1:Nat):Int)=1)=true:=rfl
 have l10:decide ((0:Int)=2)=false:=rfl
 have l11:decide ((0:Int)=3)=false:=rfl
 have l12:decide ((2:Int)=3)=false:=rfl
 have l9:∀ x:PV,([x]:List PV)[Int.toNat 0]?=some x:=fun _=>rfl
 have l8:decide (((0:Nat):Int)=0)=true:=rfl
 obtain ⟨T,hT⟩:∃ T,T=prT:=⟨_,rfl⟩
 rw [<- hT] at ht hh1_0 hI
 generalize sD=D at *
 obtain ⟨X,hh2,hX⟩:=hX
 refine w11 h1 h2 h3 h4 h5 h6 h7 hh1_0 hh6_0 hX hh2 ?_
 refine Ae (fun hlt=>?_) (fun hge=>?_)
 ·have hk4:k<4:=by omega
  have htk:=ht k hk4
  obtain ⟨he1,he2,hel,hal⟩:=he k hk4
  have hf1:k=0->decide ((D (k+1)).free=30)=true:=fun h=>by subst h;exact decide_eq_true hfr
  have hq1:k=2->decide (((D (k+1)).queue.length:Int)=1)=true:=fun h=>by subst h;rw [hq3];rfl
  have hq2:k=3->decide (((D (k+1)).queue.length:Int)=0)=true:=fun h=>by subst h;rw [hq4];rfl
  rw [<- hacc] at he1 hal
  generalize CF (D k)=e at htk he1 he2 hel
  generalize hy:D (k+1)=y at htk hf1 hq1 hq2
  have h:k=0 \/ k=1 \/ k=2 \/ k=3:=by omega
  rcases h with hk0|hk0|hk0|hk0
  ·have a1:=hf1 hk0
   have a2:decide ((0:Int)<(e.length:Int))=false:=decide_eq_false (by have:=he2 (by omega);omega)
   have b1:(k:Int)<2:=by omega
   have b2:(k:Int)=0:=by omega
   have b3:¬ (k:Int)=2:=by omega
   have b4:¬ (k:Int)=3:=by omega
   simp -implicitDefEqProofs (disch:=omega) only [h1,h2,h3,h4,h5,h6,h7,hh1_0,hh6_0,hX,hh2,hlt,htk,a1,a2,b1,b2,b3,b4,llm,Int.lt_irrefl,l1,l2,l3,l4,l5,l6,l7,l8,l10,l11,l12,go_sem]
   try refine ai ?_
   refine (hI _ _).2 ⟨w+1,acc++e,?_⟩
   and_intros
   .exact he1
   all_goals (have hZ:=zA h1 (zA h2 (zA h3 (zA h4 (zA h5 (zA h6 (zA h7 (zA hh1_0 (zA hh6_0 (zA hX hy)))))))));exact zq1)
  ·have a2:decide ((0:Int)<(e.length:Int))=false:=decide_eq_false (by have:=he2 (by omega);omega)
   have b1:(k:Int)<2:=by omega
   have b2:¬ (k:Int)=0:=by omega
   have b3:¬ (k:Int)=2:=by omega
   have b4:¬ (k:Int)=3:=by omega
   simp -implicitDefEqProofs (disch:=omega) only [h1,h2,h3,h4,h5,h6,h7,hh1_0,hh6_0,hX,hh2,hlt,htk,a2,b1,b2,b3,b4,llm,Int.lt_irrefl,l1,l2,l3,l4,l5,l6,l7,l8,l10,l11,l12,go_sem]
   try refine ai ?_
   refine (hI _ _).2 ⟨w+1,acc++e,?_⟩
   and_intros
   .exact he1
   all_goals (have hZ:=zA h1 (zA h2 (zA h3 (zA h4 (zA h5 (zA h6 (zA h7 (zA hh1_0 (zA hh6_0 (zA hX hy)))))))));exact zq1)
  ·have a1:=hq1 hk0
   have b1:¬ (k:Int)<2:=by omega
   have b2:¬ (k:Int)=0:=by omega
   have b3:(k:Int)=2:=by omega
   have b4:¬ (k:Int)=3:=by omega
   simp -implicitDefEqProofs (disch:=omega) only [h1,h2,h3,h4,h5,h6,h7,hh1_0,hh6_0,hX,hh2,hlt,htk,a1,b1,b2,b3,b4,llm,lpn,lln,Int.lt_irrefl,l1,l2,l3,l4,l5,l6,l7,l8,l10,l11,l12,go_sem]
   try refine ai ?_
   refine (hI _ _).2 ⟨w+1,acc++e,?_⟩
   and_intros
   .exact he1
   all_goals (have hZ:=zA h1 (zA h2 (zA h3 (zA h4 (zA h5 (zA h6 (zA h7 (zA hh1_0 (zA hh6_0 (zA hX hy)))))))));exact zq1)
  ·have a1:=hq2 hk0
   have b1:¬ (k:Int)<2:=by omega
   have b2:¬ (k:Int)=0:=by omega
   have b3:¬ (k:Int)=2:=by omega
   have b4:(k:Int)=3:=by omega
   simp -implicitDefEqProofs (disch:=omega) only [h1,h2,h3,h4,h5,h6,h7,hh1_0,hh6_0,hX,hh2,hlt,htk,a1,b1,b2,b3,b4,llm,lpn,lln,Int.lt_irrefl,l1,l2,l3,l4,l5,l6,l7,l8,l10,l11,l12,go_sem]
   try refine ai ?_
   refine (hI _ _).2 ⟨w+1,acc++e,?_⟩
   and_intros
   .exact he1
   all_goals (have hZ:=zA h1 (zA h2 (zA h3 (zA h4 (zA h5 (zA h6 (zA h7 (zA hh1_0 (zA hh6_0 (zA hX hy)))))))));exact zq1)
 ·have hk:k=4:=by omega
  subst hk
  have ha:acc=[⟨rA,3⟩]:=hacc
  subst ha
  simp -implicitDefEqProofs (disch:=omega) only [h1,h2,h3,h4,h5,h6,h7,hh1_0,hh6_0,hX,hh2,hX,hge,hp,l7,l9,go_sem]
theorem PY {t:Tr} {d:Dv} (h:DvOk t d) (hs:d.Small) (hnow:d.now<1048576):V 60 [t.vv,d.vv] []=some (.tup [(Bx t d).vv,.fresh 7 ((CF d).map Fl.pv),.p (.int .i64 0)],[]):=by
 refine Ac (vf:=vf60) rfl ?_
 have hlen:=h.tree.len
 have hq:=h.len
 have hn:=h.now
 have hbk:=(Cn.1 h.bk).1
 have hbl:=hs.b
 have i0:=H0 h hs
 have i1:=GB d hs hs.q hs.f
 have hne:¬ d.now=1048576:=by omega
 have ha:=LZ h hnow
 have hbr:=FK ha
 refine w3 i0 i1 hne ?_
 obtain ⟨I,hI⟩:=lpI fun k s=>∃ (M:List Cp),M=(d.buckets.take k).map (DM (d.now+1))++d.buckets.drop k/\M.length=d.buckets.length/\s.pe 2=.ptr (.slot 2 0) 0 0/\s.pe 3=.ptr (.slot 3 0) 0 0/\s.pe 4=.ptr (.slot 4 0) 0 0/\s.pe 7=.p (.int .i64 k)/\s.h (.slot 2 0)=some (0,Ob.box [.p (An t.nodes),.p (.int .i64 t.next)])/\s.h (.slot 3 0)=some (0,Ob.box [.p (.int .i64 d.m.rb),.p (.int .i64 d.m.rp),.p (.int .i64 d.m.wb),.p (.int .i64 d.m.wp),.p (.int .i64 d.m.seek),.p (.int .i64 d.speed),.p (.int .i64 d.margin),.p (.int .i64 (d.now+1)),.p (.int .i64 d.free),.p (.int .i64 d.head),.own (.slot 25 11) 0 0 d.weights.length,.own (.slot 25 12) 0 0 d.buckets.length,.own (.slot 25 13) 0 0 d.depths.length,.own (.slot 25 14) 0 0 d.v.length,.own (.slot 25 15) 0 0 d.queue.length,.own (.slot 25 16) 0 0 d.flights.length])/\s.h (.slot 4 0)=some (0,Ob.box [.p (.int .i64 0),.p (.int .i64 0),.p (.int .i64 0),.p (.int .i64 0),.p (.int .i64 0),.p (.int .i64 0),.p (.int .i64 0),.p (.int .i64 0),.p (.int .i64 0),.p (.int .i64 0),.own (.slot 4 11) 0 0 0,.own (.slot 4 12) 0 0 0,.own (.slot 4 13) 0 0 0,.own (.slot 4 14) 0 0 0,.own (.slot 4 15) 0 0 0,.own (.slot 4 16) 0 0 0])/\s.h (.slot 25 11)=some (0,Ob.arr 2 (List.map Ch.pv d.weights))/\s.h (.slot 25 12)=some (0,Ob.arr 21 (M.map Cp.pv))/\s.h (.slot 25 13)=some (0,Ob.arr 3 (List.map Dp.pv d.depths))/\s.h (.slot 25 14)=some (0,Ob.arr 2 (List.map Ch.pv d.v))/\s.h (.slot 25 15)=some (0,Ob.arr 6 (List.map Rq.pv d.queue))/\s.h (.slot 25 16)=some (0,Ob.arr 7 (List.map Fl.pv d.flights))
 refine Aj (d.buckets.length) I ?_ ?_
 ·refine (hI _ _).2 ⟨d.buckets,?_⟩
  and_intros
  ·exact cl3
  ·exact cl3
  all_goals (have hZ:=@lma Nat Nat;exact zq2)
 intro k s hk hIk
 obtain ⟨M,hM,hMl,h2,h3,h4,h7,hh2_0,hh3_0,hh4_0,hH⟩:=(hI _ _).1 hIk
 clear hIk
 refine w8 h2 h3 h4 h7 hh2_0 hh3_0 hh4_0 hH ?_
 refine Ae (fun hlt=>?_) (fun hge=>?_)
 ·have hm:d.buckets[k]?=some d.buckets[k]:=lgg hlt
  rw [List.drop_eq_getElem_cons hlt] at hM
  have htk:=Bt hm
  generalize d.buckets[k]=c at hm hM htk
  have hcb:=(hbk c (lmg hm)).2
  have hlk:((d.buckets.take k).map (DM (d.now+1))).length=k:=by rw [llm,llt];omega
  have hmid:M[k]?=some c:=by rw [hM];exact L3 hlk
  have hset:∀ y,M.set k y=(d.buckets.take k).map (DM (d.now+1))++y::d.buckets.drop (k+1):=fun y=>by rw [hM];exact LQ hlk
  have i2:=H6 c
  have m4:=fun (j:Nat) (hj:j<4)=>Mz hcb hj
  have i3:=Jg c.group (AD c.rp (d.now+1)) (AD c.wp (d.now+1)) (AD c.ro (d.now+1)) (AD c.wo (d.now+1))
  rw [show (Cp.mk c.group (AD c.rp (d.now+1)) (AD c.wp (d.now+1)) (AD c.ro (d.now+1)) (AD c.wo (d.now+1)))=DM (d.now+1) c from rfl,show Gi [AD c.rp (d.now+1),AD c.wp (d.now+1),AD c.ro (d.now+1),AD c.wo (d.now+1)]=Gi (([c.rp,c.wp,c.ro,c.wo]:List Bk).map fun b=>AD b (d.now+1)) from rfl] at i3
  generalize hB0:([c.rp,c.wp,c.ro,c.wo]:List Bk)=B0 at i2 i3 m4
  have hB4:B0.length=4:=by rw [<- hB0];rfl
  simp -implicitDefEqProofs (disch:=omega) only [h2,h3,h4,h7,hh2_0,hh3_0,hh4_0,hH,hlt,hMl,hmid,Cp.pv,i2,go_sem]
  obtain ⟨J,hJ⟩:=lpI fun j s=>∃ (B:List Bk) (v42_1:Nat),B=((B0.take j).map fun b=>AD b (d.now+1))++B0.drop j/\B.length=4/\s.pe 2=.ptr (.slot 2 0) 0 0/\s.pe 3=.ptr (.slot 3 0) 0 0/\s.pe 4=.ptr (.slot 4 0) 0 0/\s.pe 7=.p (.int .i64 ↑k)/\s.pe 8=.own (.slot 42 1) v42_1 0 B.length/\s.pe 9=.p (.int .i64 j)/\s.h (.slot 2 0)=some (0,Ob.box [.p (An t.nodes),.p (.int .i64 t.next)])/\s.h (.slot 3 0)=some (0,Ob.box [.p (.int .i64 d.m.rb),.p (.int .i64 d.m.rp),.p (.int .i64 d.m.wb),.p (.int .i64 d.m.wp),.p (.int .i64 d.m.seek),.p (.int .i64 d.speed),.p (.int .i64 d.margin),.p (.int .i64 (d.now+1)),.p (.int .i64 d.free),.p (.int .i64 d.head),.own (.slot 25 11) 0 0 d.weights.length,.own (.slot 25 12) 0 0 d.buckets.length,.own (.slot 25 13) 0 0 d.depths.length,.own (.slot 25 14) 0 0 d.v.length,.own (.slot 25 15) 0 0 d.queue.length,.own (.slot 25 16) 0 0 d.flights.length])/\s.h (.slot 4 0)=some (0,Ob.box [.p (.int .i64 0),.p (.int .i64 0),.p (.int .i64 0),.p (.int .i64 0),.p (.int .i64 0),.p (.int .i64 0),.p (.int .i64 0),.p (.int .i64 0),.p (.int .i64 0),.p (.int .i64 0),.own (.slot 4 11) 0 0 0,.own (.slot 4 12) 0 0 0,.own (.slot 4 13) 0 0 0,.own (.slot 4 14) 0 0 0,.own (.slot 4 15) 0 0 0,.own (.slot 4 16) 0 0 0])/\s.h (.slot 25 11)=some (0,Ob.arr 2 (List.map Ch.pv d.weights))/\s.h (.slot 25 12)=some (0,Ob.arr 21 (M.map Cp.pv))/\s.h (.slot 25 13)=some (0,Ob.arr 3 (List.map Dp.pv d.depths))/\s.h (.slot 25 14)=some (0,Ob.arr 2 (List.map Ch.pv d.v))/\s.h (.slot 25 15)=some (0,Ob.arr 6 (List.map Rq.pv d.queue))/\s.h (.slot 25 16)=some (0,Ob.arr 7 (List.map Fl.pv d.flights))/\s.h (.slot 42 1)=some (v42_1,Ob.arr 5 (B.map Bk.pv))
  refine Aj (4) J ?_ ?_
  ·refine (hJ _ _).2 ⟨B0,nv (BS [42] s.h (.slot 42 1)),?_⟩
   and_intros
   ·exact by simp
   ·exact hB4
   all_goals (have hZ:=zA h2 (zA h3 (zA h4 (zA h7 (zA hh2_0 (zA hh3_0 (zA hh4_0 hH))))));exact zq2)
  intro j s hj hJk
  obtain ⟨B,v42_1,hB,hBl,h2,h3,h4,h7,h8,h9,hh2_0,hh3_0,hh4_0,hH⟩:=(hJ _ _).1 hJk
  clear hJk
  refine w10 h2 h3 h4 h7 h8 h9 hh2_0 hh3_0 hh4_0 hH ?_
  refine Ae (fun hjl=>?_) (fun hjg=>?_)
  ·obtain ⟨b,hb0,hbs⟩:=m4 j (by omega)
   have hjt:=Bt hb0
   rw [WF hb0] at hB
   have hlj:((B0.take j).map fun b=>AD b (d.now+1)).length=j:=by rw [llm,llt];omega
   have hbj:B[j]?=some b:=by rw [hB];exact L3 hlj
   have hbset:∀ y,B.set j y=((B0.take j).map fun b=>AD b (d.now+1))++y::B0.drop (j+1):=fun y=>by rw [hB];exact LQ hlj
   have i4:=Ll b (d.now+1) (AE.1 hbs).1 (by have:=(AE.1 hbs).2.2;omega) (by omega)
   simp -implicitDefEqProofs (disch:=omega) only [h2,h3,h4,h7,h8,h9,hh2_0,hh3_0,hh4_0,hH,hjl,hbj,i4,go_sem]
   try refine ai ?_
   refine (hJ _ _).2 ⟨B.set j (AD b (d.now+1)),v42_1,?_⟩
   and_intros
   ·exact by rw [hbset,hjt,lma,laa];rfl
   ·exact by rw [List.length_set];exact hBl
   all_goals (have hZ:=zA h2 (zA h3 (zA h4 (zA h7 (zA h8 (zA h9 (zA hh2_0 (zA hh3_0 (zA hh4_0 hH))))))));exact zq2)
  ·rw [show j=4 by omega,ltl (by omega),List.drop_eq_nil_of_le (by omega),lan] at hB
   rw [← hB] at i3
   simp -implicitDefEqProofs (disch:=omega) only [h2,h3,h4,h7,h8,h9,hh2_0,hh3_0,hh4_0,hH,hjg,hmid,Cp.pv,i3,go_sem]
   try refine ai ?_
   refine (hI _ _).2 ⟨M.set k (DM (d.now+1) c),?_⟩
   and_intros
   ·exact by rw [hset,htk,lma,laa];rfl
   ·exact by rw [List.length_set];exact hMl
   all_goals (have hZ:=zA h2 (zA h3 (zA h4 (zA h7 (zA hh2_0 (zA hh3_0 (zA hh4_0 hH))))));exact zq2)
 ·rw [List.take_of_length_le (by omega),List.drop_eq_nil_of_le (by omega),lan] at hM
  refine w9 h2 h3 h4 h7 hh2_0 hh3_0 hh4_0 hH hge ?_
  obtain ⟨p,hp⟩:∃ p:Fl->Bool,p=fun f=>decide (f.done<=d.now+1):=⟨_,rfl⟩
  have hE:CF d=d.flights.takeWhile p:=by rw [hp];rfl
  have hF:(Bs d).flights=d.flights.dropWhile p:=by rw [hp];rfl
  have hNle:(d.flights.takeWhile p).length<=d.flights.length:=(List.takeWhile_sublist p).length_le
  have htd:=GT (p:=p) (l:=d.flights)
  have hlt:=fun k=>Ih (p:=p) (l:=d.flights) (k:=k)
  have hen:=L0 (p:=p) (l:=d.flights)
  generalize hN:(d.flights.takeWhile p).length=N at hNle htd hlt hen
  have r1:CF d=d.flights.take N:=by rw [hE,<- htd.1]
  have r2:(Bs d).flights=d.flights.drop N:=by rw [hF,<- htd.2]
  have r4:(Bs d).buckets=M:=hM.symm
  obtain ⟨A,hA⟩:=lpI fun k s=>s.pe 2=.ptr (.slot 2 0) 0 0/\s.pe 3=.ptr (.slot 3 0) 0 0/\s.pe 4=.ptr (.slot 4 0) 0 0/\s.pe 10=.p (.int .i64 k)/\s.h (.slot 2 0)=some (0,Ob.box [.p (An t.nodes),.p (.int .i64 t.next)])/\s.h (.slot 3 0)=some (0,Ob.box [.p (.int .i64 d.m.rb),.p (.int .i64 d.m.rp),.p (.int .i64 d.m.wb),.p (.int .i64 d.m.wp),.p (.int .i64 d.m.seek),.p (.int .i64 d.speed),.p (.int .i64 d.margin),.p (.int .i64 (d.now+1)),.p (.int .i64 d.free),.p (.int .i64 d.head),.own (.slot 25 11) 0 0 d.weights.length,.own (.slot 25 12) 0 0 d.buckets.length,.own (.slot 25 13) 0 0 d.depths.length,.own (.slot 25 14) 0 0 d.v.length,.own (.slot 25 15) 0 0 d.queue.length,.own (.slot 25 16) 0 0 d.flights.length])/\s.h (.slot 4 0)=some (0,Ob.box [.p (.int .i64 0),.p (.int .i64 0),.p (.int .i64 0),.p (.int .i64 0),.p (.int .i64 0),.p (.int .i64 0),.p (.int .i64 0),.p (.int .i64 0),.p (.int .i64 0),.p (.int .i64 0),.own (.slot 4 11) 0 0 0,.own (.slot 4 12) 0 0 0,.own (.slot 4 13) 0 0 0,.own (.slot 4 14) 0 0 0,.own (.slot 4 15) 0 0 0,.own (.slot 4 16) 0 0 0])/\s.h (.slot 25 11)=some (0,Ob.arr 2 (List.map Ch.pv d.weights))/\s.h (.slot 25 12)=some (0,Ob.arr 21 (M.map Cp.pv))/\s.h (.slot 25 13)=some (0,Ob.arr 3 (List.map Dp.pv d.depths))/\s.h (.slot 25 14)=some (0,Ob.arr 2 (List.map Ch.pv d.v))/\s.h (.slot 25 15)=some (0,Ob.arr 6 (List.map Rq.pv d.queue))/\s.h (.slot 25 16)=some (0,Ob.arr 7 (List.map Fl.pv d.flights))
  refine zaY (Q:=fun r=>r.1=.exit 4/\A N r.2) (Aj N A ?_ ?_) ?_
  ·refine (hA _ _).2 ?_
   and_intros<;>exact cl0
  ·intro k s hk hAk
   obtain ⟨h2,h3,h4,h10,hh2_0,hh3_0,hh4_0,hH⟩:=(hA _ _).1 hAk
   clear hAk
   by_cases hkN:k<N
   ·obtain ⟨f,hf,hpf⟩:=hlt k hkN
    rw [hp] at hpf
    have hd:f.done<=d.now+1:=of_decide_eq_true hpf
    have hkl:=(lgs.1 hf).1
    simp -implicitDefEqProofs (disch:=omega) only [h2,h3,h4,h10,hh2_0,hh3_0,hh4_0,hH,hkl,hf,hd,Fl.pv,go_sem]
    try refine ai ?_
    refine (hA _ _).2 ?_
    and_intros
    all_goals (have hZ:=zA h2 (zA h3 (zA h4 (zA h10 (zA hh2_0 (zA hh3_0 (zA hh4_0 hH))))));exact zq2)
   ·have hkE:k=N:=by omega
    subst hkE
    rcases hen with e|⟨f,hf,hpf⟩
    ·have hkl:¬ k<d.flights.length:=by omega
     refine w9 h2 h3 h4 h10 hh2_0 hh3_0 hh4_0 hH hkl ?_
     refine (hA _ _).2 ?_
     and_intros<;>exact cl0
    ·rw [hp] at hpf
     have hd:¬ f.done<=d.now+1:=of_decide_eq_false hpf
     have hkl:=(lgs.1 hf).1
     simp -implicitDefEqProofs (disch:=omega) only [h2,h3,h4,h10,hh2_0,hh3_0,hh4_0,hH,hkl,hf,hd,Fl.pv,go_sem]
     refine (hA _ _).2 ?_
     and_intros<;>exact cl0
  ·rintro ⟨ex,s⟩ ⟨he,hAk⟩
   simp only at he hAk
   subst he
   obtain ⟨h2,h3,h4,h10,hh2_0,hh3_0,hh4_0,hH⟩:=(hA _ _).1 hAk
   clear hAk
   have hA1:Bs d=⟨d.m,d.speed,d.margin,d.now+1,d.free,d.head,d.weights,M,d.depths,d.v,d.queue,d.flights.drop N⟩:=by rw [<- r2,<- r4];rfl
   have hT0:Bx t d=Cv t (d.queue.length+1) (Bs d):=rfl
   rw [hA1] at ha hT0
   have hmn:min N d.flights.length=N:=Nat.min_eq_left hNle
   have htn:List.take (d.flights.length - N) (List.drop N (List.map Fl.pv d.flights))=List.drop N (List.map Fl.pv d.flights):=ltl (by simp)
   have htt:List.take N (List.take N (List.map Fl.pv d.flights))=List.take N (List.map Fl.pv d.flights):=by rw [List.take_take,Nat.min_self]
   rw [r1,List.map_take]
   simp -implicitDefEqProofs (disch:=omega) only [h2,h3,h4,h10,hh2_0,hh3_0,hh4_0,hH,Nat.sub_zero,lld,llm,Nat.min_self,hmn,htn,go_sem]
   rw [← hMl,← List.map_drop,← lld (i:=N) (l:=d.flights)]
   obtain ⟨I,hI⟩:=lpI fun k s=>∃ (x:Dv) (v94_0:Nat),DvOk t x/\Bx t d=Cv t (d.queue.length+1 - k) x/\x.queue.length+k=d.queue.length/\s.pe 2=.ptr (.slot 2 0) 0 0/\s.pe 3=.ptr (.slot 3 0) 0 0/\s.pe 4=.ptr (.slot 4 0) 0 0/\s.pe 11=.own (.slot 94 0) v94_0 0 N/\s.h (.slot 2 0)=some (0,Ob.box [.p (An t.nodes),.p (.int .i64 t.next)])/\s.h (.slot 4 0)=some (0,Ob.box [.p (.int .i64 0),.p (.int .i64 0),.p (.int .i64 0),.p (.int .i64 0),.p (.int .i64 0),.p (.int .i64 0),.p (.int .i64 0),.p (.int .i64 0),.p (.int .i64 0),.p (.int .i64 0),.own (.slot 4 11) 0 0 0,.own (.slot 4 12) 0 0 0,.own (.slot 4 13) 0 0 0,.own (.slot 4 14) 0 0 0,.own (.slot 4 15) 0 0 0,.own (.slot 4 16) 0 0 0])/\s.h (.slot 94 0)=some (v94_0,Ob.arr 7 (List.take N (List.map Fl.pv d.flights)))/\∃ X,s.h (.slot 3 0)=some (0,Ob.box X)/\X.map (fz0 [14,25,99,116,132] s.h)=dvC x
   refine Aj ((d.queue.length+1)) I ?_ ?_
   ·refine (hI _ _).2 ⟨⟨d.m,d.speed,d.margin,d.now+1,d.free,d.head,d.weights,M,d.depths,d.v,d.queue,d.flights.drop N⟩,nv (s.h (.slot 94 0)),?_⟩
    and_intros
    ·exact ha
    ·exact hT0
    ·rfl
    all_goals (have hZ:=zA h2 (zA h3 (zA h4 (zA h10 (zA hh2_0 (zA hh3_0 (zA hh4_0 hH))))));exact zq3)
   intro k s hk hIk
   obtain ⟨x,v94_0,hx,hT,hql,h2,h3,h4,h11,hh2_0,hh4_0,hh94_0,hX⟩:=(hI _ _).1 hIk
   clear hIk
   obtain ⟨X,hX⟩:=hX
   have hxs:x.Small:=Db hx
   have hbx:=FK hx
   have hql2:=hx.len
   have hxn:=hx.now
   obtain ⟨fu,hfu⟩:∃ fu,d.queue.length+1 - k=fu+1:=⟨d.queue.length - k,by omega⟩
   rw [hfu] at hT
   have i3:=O2 hx hxs
   have hrl:=Om t x
   have i4:=ZF t x.v (Dm t x) (x.now*x.speed) (by omega) hxs.v (by omega)
   rw [Yq hx] at i4
   generalize Dm t x=R at i3 i4
   rcases KM t fu x with ⟨hend,hS⟩|⟨g,r,v,hst,hS⟩
   ·rw [hS] at hT
    rw [hT]
    unfold Kb at hend
    generalize hg:AZ t x.v (x.now*x.speed) 0 (Bm (A5 t x [] x.queue))=g at i4 hend
    by_cases hb:x.now*x.speed<=x.free
    ·have hb':¬ x.free<x.now*x.speed:=by omega
     exact z11 h2 h3 h4 h11 hh2_0 hh4_0 hh94_0 hX hX hb' htt
    ·have hb':x.free<x.now*x.speed:=by omega
     by_cases hg0:g=0
     ·have hg0':(!decide (g=0))=false:=by simp [hg0]
      rw [hg0'] at i4
      exact z13 h2 h3 h4 h11 hh2_0 hh4_0 hh94_0 hX hX hb' i3 i4 htt
     ·have hg0':(!decide (g=0))=true:=by simp [hg0]
      rw [hg0'] at i4
      obtain ⟨r,hr,he⟩:∃ r,Be x.queue g=some r/\(Cb t x.v g (Cq t x g) (BI x r) (x.now*x.speed) x.margin).2 ≠ 0:=by
       rcases hend with e|e|e|e
       ·exact absurd e hb
       ·exact absurd e hg0
       ·obtain ⟨r,h1,_⟩:=OA (t:=t) (d:=x) (by rw [hg];exact hg0)
        rw [hg,e] at h1
        cases h1
       .exact e
      generalize hi:Cb t x.v g (Cq t x g) (BI x r) (x.now*x.speed) x.margin=ve at he
      obtain ⟨v,e⟩:=ve
      have i5:=O5 hx hxs hb hr hi
      rw [if_neg he] at i5
      simp -implicitDefEqProofs (disch:=omega) only [h2,h3,h4,h11,hh2_0,hh4_0,hh94_0,hX,hX,hb',i3,i4,i5,htt,go_sem]
   ·rw [hS] at hT
    have hb:=hst.busy
    have hg:=hst.next
    have hg0:=hst.pos
    have i5:=O5 hx hxs hb hst.first hst.issue
    rw [if_pos rfl] at i5
    have hb':x.free<x.now*x.speed:=by omega
    rw [<- hg] at i4
    have hg0':(!decide (g=0))=true:=by simp [hg0]
    rw [hg0'] at i4
    have hok:=LG hx hst
    have hrq:=Fe hst.first
    simp -implicitDefEqProofs (disch:=omega) only [h2,h3,h4,h11,hh2_0,hh4_0,hh94_0,hX,hX,hb',i3,i4,i5,go_sem]
    try refine ai ?_
    refine (hI _ _).2 ⟨Ds t x g r v,v94_0,?_⟩
    and_intros
    .exact hok
    .exact by rw [hT,show d.queue.length+1 - (k+1)=fu by omega]
    .exact by show (BA x.queue g).length+(k+1)=_;omega
    all_goals (have hZ:=zA h2 (zA h3 (zA h4 (zA h11 (zA hh2_0 (zA hh4_0 (zA hh94_0 hX))))));exact zq3)
def nbk (o:Option Bk) (now rate least:Int):Bk:=match o with
 | none=>A4 rate least now
 | some b=>D8 b rate least
def J7 (o:Option Cp) (now:Int) (s:Sg):List Bk:=[nbk (o.map (·.rp)) now s.rp 4096,nbk (o.map (·.wp)) now s.wp 4096,nbk (o.map (·.ro)) now s.ro 0,nbk (o.map (·.wo)) now s.wo 0]
def Hp (s:Sg):List Int:=[s.rp,s.wp,s.ro,s.wo]
def nwC (x:Dv) (id:Int) (s:Sg):Cp:=⟨id,nbk ((A1 x.buckets id).map (·.rp)) x.now s.rp 4096,nbk ((A1 x.buckets id).map (·.wp)) x.now s.wp 4096,nbk ((A1 x.buckets id).map (·.ro)) x.now s.ro 0,nbk ((A1 x.buckets id).map (·.wo)) x.now s.wo 0⟩
def FE (x:Dv) (id:Int) (s:Sg):List Cp:=insGo Cp.group (nwC x id s) ((Hp s).all fun r=>decide (r=maxR)) x.buckets
theorem zcg {s:Sg} (hs:SgOk s) (o:Option Cp) (now:Int) {j:Nat} (hj:j<4):∃ rate,(Hp s)[j]?=some rate/\BO rate/\(J7 o now s)[j]?=some (nbk (o.bind fun c=>([c.rp,c.wp,c.ro,c.wo]:List Bk)[j]?) now rate (if (j:Int)<2 then 4096 else 0)):=by
 have h0:=hs.rp
 have h1:=hs.wp
 have h2:=hs.ro
 have h3:=hs.wo
 rcases j with _|_|_|_|j
 .exact ⟨_,rfl,h0,by cases o<;>rfl⟩
 .exact ⟨_,rfl,h1,by cases o<;>rfl⟩
 .exact ⟨_,rfl,h2,by cases o<;>rfl⟩
 .exact ⟨_,rfl,h3,by cases o<;>rfl⟩
 .omega
theorem zaR {α:Type} {p:α->Bool} {l:List α} {k:Nat} {m:α} (h:l[k]?=some m):((l.take (k+1)).all p)=((l.take k).all p && p m):=by
 rw [Bt h,List.all_append]
 simp
theorem Wh {t:Tr} {x:Dv} (h:DvOk t x) (hs:x.Small) (id:Int) {sg:Sg} (hsg:SgOk sg) (dev:Int):V 132 [x.vv,.p (.int .i64 id),sg.vv dev] []=some (.fresh 21 ((FE x id sg).map Cp.pv),[]):=by
 refine Ac (vf:=vf132) rfl ?_
 have hn:=h.now
 have hbl:=hs.b
 have i0:=Kw x id hs
 obtain ⟨b1,_,_⟩:=Cn.1 h.bk
 have hcap:(BR (fun c:Cp=>decide (c.group=id)) x.buckets=-1/\A1 x.buckets id=none) \/ ∃ (q:Nat) (c:Cp),BR (fun c:Cp=>decide (c.group=id)) x.buckets=q/\x.buckets[q]?=some c/\A1 x.buckets id=some c:=by
  rcases E8 (fun c:Cp=>decide (c.group=id)) x.buckets with ⟨e,hno⟩|⟨q,c,e,e2,hg,hb⟩
  ·exact .inl ⟨e,IU hno⟩
  ·exact .inr ⟨q,c,e,e2,HW e2 hg hb⟩
 have hat:=fun (j:Nat) (hj:j<4)=>zcg hsg (A1 x.buckets id) x.now hj
 have hNg:(nwC x id sg).group=id:=rfl
 unfold FE
 have j2:=Jg id (nwC x id sg).rp (nwC x id sg).wp (nwC x id sg).ro (nwC x id sg).wo
 have hRl:(Hp sg).length=4:=rfl
 have hFl:(J7 (A1 x.buckets id) x.now sg).length=4:=rfl
 rw [show (Cp.mk id (nwC x id sg).rp (nwC x id sg).wp (nwC x id sg).ro (nwC x id sg).wo)=nwC x id sg from rfl,show Gi [(nwC x id sg).rp,(nwC x id sg).wp,(nwC x id sg).ro,(nwC x id sg).wo]=Gi (J7 (A1 x.buckets id) x.now sg) from rfl] at j2
 generalize hO:A1 x.buckets id=O at hcap hat hFl j2
 generalize hRR:Hp sg=R at hat hRl ⊢
 generalize hFF:J7 O x.now sg=F at hat hFl j2
 generalize nwC x id sg=c0 at hNg j2 ⊢
 simp -implicitDefEqProofs (disch:=omega) only [vf132,SE,go_sem]
 obtain ⟨I,hI⟩:=lpI fun k s=>∃ (acc:List Bk) (w:Nat),acc=F.take k/\acc.length=k/\s.pe 1=.p (.int .i64 id)/\s.pe 3=.ptr (.slot 3 0) 0 0/\s.pe 7=.own (.slot 26 0) 0 0 4/\s.pe 8=.own (.slot 8 0) w 0 acc.length/\s.pe 9=.p (.bool ((R.take k).all fun r=>decide (r=maxR)))/\s.pe 10=.p (.int .i64 k)/\s.h (.slot 3 0)=some (0,Ob.box (dvC x))/\s.h (.slot 8 0)=some (w,Ob.arr 5 (acc.map Bk.pv))/\s.h (.slot 26 0)=some (0,Ob.arr 1 [PV.int IntKind.i64 sg.rp,PV.int IntKind.i64 sg.wp,PV.int IntKind.i64 sg.ro,PV.int IntKind.i64 sg.wo])
 refine Aj (4) I ?_ ?_
 ·refine (hI _ _).2 ⟨[],0,?_⟩
  and_intros
  ·rfl
  ·rfl
  all_goals exact cl8
 intro k s hk hIk
 obtain ⟨acc,w,ha,hal,h1,h3,h7,h8,h9,hH⟩:=(hI _ _).1 hIk
 clear hIk
 simp -implicitDefEqProofs (disch:=omega) only [h1,h3,h7,h8,h9,hH,go_sem]
 refine Ae (fun hlt=>?_) (fun hge=>?_)
 ·obtain ⟨rate,hr1,hr2,hf⟩:=hat k (by omega)
  have hgr:([PV.int IntKind.i64 sg.rp,PV.int IntKind.i64 sg.wp,PV.int IntKind.i64 sg.ro,PV.int IntKind.i64 sg.wo]:List PV)[k]?=some (.int .i64 rate):=by
   rw [show ([PV.int IntKind.i64 sg.rp,PV.int IntKind.i64 sg.wp,PV.int IntKind.i64 sg.ro,PV.int IntKind.i64 sg.wo]:List PV)=R.map (PV.int .i64) by rw [<- hRR];rfl,List.getElem?_map,hr1]
   rfl
  have hall:=zaR (p:=fun r=>decide (r=maxR)) hr1
  have hft:=Bt hf
  obtain ⟨least,hle⟩:∃ least,least=(if (k:Int)<2 then (4096:Int) else 0):=⟨_,rfl⟩
  rw [<- hle] at hft
  have hl:0<=least/\least<=4096:=by rw [hle];split<;>omega
  have i1:=P7 rate least x.now hr2 hl hn
  obtain ⟨bu,hbu⟩:∃ bu,bu=(if rate=maxR then 0 else max rate least):=⟨_,rfl⟩
  rw [<- hbu] at i1
  obtain ⟨c2,cm,d2,dm,e⟩:∃ c2 cm:Bool,decide ((k:Int)<2)=c2/\decide (rate=4611686018427387904)=cm/\bu=if cm then 0 else if c2 then max rate 4096 else rate:=by
   refine ⟨_,_,rfl,rfl,?_⟩
   rw [hbu,hle]
   unfold BO at hr2
   by_cases hm:rate=maxR
   ·rw [if_pos hm,decide_eq_true (show rate=4611686018427387904 from hm)];rfl
   ·rw [if_neg hm,decide_eq_false (show ¬ rate=4611686018427387904 from hm)]
    by_cases hk2:(k:Int)<2
    ·rw [if_pos hk2,decide_eq_true hk2];rfl
    ·rw [if_neg hk2,decide_eq_false hk2]
     show max rate 0=rate
     omega
  rw [show decide (rate=maxR)=cm from dm] at hall
  generalize ((R.take k).all fun r=>decide (r=maxR))=z at h9 hall
  rcases hcap with ⟨e1,e2⟩|⟨q,c,e1,e2,e3⟩
  ·rw [e2] at hft
   have hft:F.take (k+1)=F.take k++[A4 rate least x.now]:=hft
   rw [e1] at i0
   have d1:decide ((0:Int)<=-1)=false:=rfl
   generalize A4 rate least x.now=y at i1 hft
   cases c2<;>cases cm<;>cases z<;>simp only [bau,Bool.and_false,bfa,bta,if_true,if_false,bft] at e hall<;>rw [e] at i1
   all_goals
    simp -implicitDefEqProofs (disch:=omega) only [h1,h3,h7,h8,h9,hH,hlt,hgr,d2,dm,i1,i0,d1,go_sem]
   all_goals
    try refine ai ?_
    refine (hI _ _).2 ⟨acc++[y],w+1,?_⟩
    and_intros
    ·exact by rw [ha,hft]
    ·exact by rw [lla,hal];rfl
    all_goals exact cl8
  ·rw [e3] at hft
   simp only [Option.bind_some] at hft
   rw [e1] at i0
   have hcb:=(b1 c (lmg e2)).2
   have hql:=(lgs.1 e2).1
   obtain ⟨b,hb0,hbs⟩:=Mz hcb (k:=k) (by omega)
   have hkB:=(lgs.1 hb0).1
   have i2:=H6 c
   have i3:=Wi b rate least (AE.1 hbs).1 hr2 hl
   rw [(AE.1 hbs).2.2,<- hbu] at i3
   rw [hb0] at hft
   have hft:F.take (k+1)=F.take k++[D8 b rate least]:=hft
   generalize ([c.rp,c.wp,c.ro,c.wo]:List Bk)=B0 at i2 hb0 hkB
   generalize A4 rate least x.now=y0 at i1
   generalize D8 b rate least=y at i3 hft
   cases c2<;>cases cm<;>cases z<;>simp only [bau,Bool.and_false,bfa,bta,if_true,if_false,bft] at e hall<;>rw [e] at i1 i3
   all_goals
    simp -implicitDefEqProofs (disch:=omega) only [h1,h3,h7,h8,h9,hH,hlt,hgr,d2,dm,i1,i0,i2,i3,hql,e2,hb0,hkB,Cp.pv,go_sem]
   all_goals
    try refine ai ?_
    refine (hI _ _).2 ⟨acc++[y],w+1,?_⟩
    and_intros
    ·exact by rw [ha,hft]
    ·exact by rw [lla,hal];rfl
    all_goals exact cl8
 ·have hk4:k=4:=by omega
  subst hk4
  rw [ltl (by omega)] at ha h9
  subst ha
  generalize (R.all fun r=>decide (r=maxR))=op at h9 ⊢
  simp -implicitDefEqProofs (disch:=omega) only [h1,h3,h7,h8,h9,hH,hge,go_sem]
  obtain ⟨J,hJ⟩:=lpI fun j s=>∃ (ac2:List Cp) (d:Bool) (w2:Nat),insGo Cp.group c0 op x.buckets=ac2++insGo Cp.group c0 d (x.buckets.drop j)/\ac2.length<=2*j/\s.pe 1=.p (.int .i64 id)/\s.pe 3=.ptr (.slot 3 0) 0 0/\s.pe 8=.own (.slot 8 0) w 0 acc.length/\s.pe 15=.own (.slot 15 0) w2 0 ac2.length/\s.pe 16=.p (.bool d)/\s.pe 17=.p (.int .i64 j)/\s.h (.slot 3 0)=some (0,Ob.box (dvC x))/\s.h (.slot 8 0)=some (w,Ob.arr 5 (List.map Bk.pv acc))/\s.h (.slot 15 0)=some (w2,Ob.arr 21 (ac2.map Cp.pv))
  refine Aj (x.buckets.length) J ?_ ?_
  ·refine (hJ _ _).2 ⟨[],op,nv (BS [66] s.h (.slot 15 0)),?_⟩
   and_intros
   ·rfl
   ·exact cl3
   all_goals exact cl8
  intro j s hj hJk
  obtain ⟨ac2,d,w2,hw,hal2,h1,h3,h8,hH⟩:=(hJ _ _).1 hJk
  clear hJk
  simp -implicitDefEqProofs (disch:=omega) only [h1,h3,h8,hH,go_sem]
  refine Ae (fun hlt=>?_) (fun hge'=>?_)
  ·have hm:x.buckets[j]?=some x.buckets[j]:=lgg hlt
   have hd:x.buckets.drop j=x.buckets[j]::x.buckets.drop (j+1):=ldg hlt
   generalize x.buckets[j]=c at hm hd
   rw [hd,insGo,hNg] at hw
   cases d with
   | true =>
    by_cases he:c.group=id
    ·simp only [he,Bool.not_true,bfa,bft,if_false,if_true,lna,lan,Bool.true_or] at hw
     simp -implicitDefEqProofs (disch:=omega) only [h1,h3,h8,hH,hlt,hm,he,Cp.pv,go_sem]
     try refine ai ?_
     refine (hJ _ _).2 ⟨ac2,true,w2,?_⟩
     and_intros
     ·exact hw
     ·omega
     all_goals exact cl8
    ·simp only [he,Bool.not_true,bfa,bft,if_false,lna,Bool.true_or,<- laa] at hw
     simp -implicitDefEqProofs (disch:=omega) only [h1,h3,h8,hH,hlt,hm,he,Cp.pv,go_sem]
     try refine ai ?_
     refine (hJ _ _).2 ⟨ac2++[c],true,w2+1,?_⟩
     and_intros
     ·exact hw
     ·exact by simp;omega
     all_goals exact cl8
   | false =>
    by_cases hge:id<=c.group
    ·by_cases he:c.group=id
     ·simp only [he,Int.le_refl,decide_true,bnf,bas,if_true,lan,Bool.or_true,<- laa] at hw
      simp -implicitDefEqProofs (disch:=omega) only [h1,h3,h8,hH,hlt,hm,hge,he,j2,Int.le_refl,decide_true,Cp.pv,go_sem]
      try refine ai ?_
      refine (hJ _ _).2 ⟨ac2++[c0],true,w2+1,?_⟩
      and_intros
      .exact hw
      .exact by simp;omega
      all_goals exact cl8
     ·simp only [he,hge,decide_true,bnf,bas,if_true,if_false,Bool.or_true,<- laa] at hw
      simp -implicitDefEqProofs (disch:=omega) only [h1,h3,h8,hH,hlt,hm,hge,he,j2,Cp.pv,go_sem]
      try refine ai ?_
      refine (hJ _ _).2 ⟨ac2++[c0]++[c],true,w2+1+1,?_⟩
      and_intros
      .exact hw
      .exact by simp;omega
      all_goals exact cl8
    ·have he:¬ c.group=id:=by omega
     simp only [he,hge,decide_false,bnf,Bool.and_false,bft,if_false,lna,Bool.or_false,<- laa] at hw
     simp -implicitDefEqProofs (disch:=omega) only [h1,h3,h8,hH,hlt,hm,hge,he,Cp.pv,go_sem]
     try refine ai ?_
     refine (hJ _ _).2 ⟨ac2++[c],false,w2+1,?_⟩
     and_intros
     .exact hw
     .exact by simp;omega
     all_goals exact cl8
  ·rw [ldl (by omega),insGo] at hw
   cases d with
   | true =>
    simp only [if_true,lan] at hw
    simp -implicitDefEqProofs (disch:=omega) only [h1,h3,h8,hH,hge',go_sem]
    rw [hw]
   | false =>
    simp only [bft,if_false] at hw
    simp -implicitDefEqProofs (disch:=omega) only [h1,h3,h8,hH,hge',j2,go_sem]
    rw [hw]
    simp [Cp.pv]
def Ey (x:Dv) (id:Int) (s:Sg):Dv:={ x with weights:=withGo id s.weight (decide (s.weight=100)) x.weights,buckets:=FE x id s,depths:=insGo Dp.group ⟨id,s.target,(getD x.depths id).depth⟩ (decide (s.target=0) && decide ((getD x.depths id).depth=256)) x.depths }
theorem Xu (l:List Dp) (id:Int):getD l id∈l \/ getD l id=⟨id,0,256⟩:=by
 induction l with
 | nil=>exact .inr rfl
 | cons x l ih =>
  unfold getD
  split
  ·exact .inl (lms ..)
  ·rcases ih with h|h
   .exact .inl (lmc _ h)
   .exact .inr h
theorem OL (l:List Dp) (id:Int):(getD l id).group=id:=by
 induction l with
 | nil=>rfl
 | cons x l ih =>
  unfold getD
  split
  .assumption
  .exact ih
theorem LX {kn:Int->Bool}:∀ {l:List Dp} {p:Option Int},(∀ c∈l,kn c.group=true/\(0<=c.target/\c.target<=1048576)/\1<=c.depth/\c.depth<=256)->l.Pairwise (fun a b=>a.group<b.group)->(∀ q,p=some q->∀ c∈l,q<c.group)->BT kn p l=true
 | [],_,_,_,_=>rfl
 | c::l,p,h1,h2,h3=>by
  obtain ⟨a1,a2,a3⟩:=h1 c (lms ..)
  rw [lpw] at h2
  simp only [BT,bat,Co,KI]
  exact ⟨⟨⟨a1,fun q hq=>h3 q hq c (lms ..)⟩,a2,a3⟩,LX (fun x hx=>h1 x (lmc _ hx)) h2.2 fun q hq x hx=>by cases hq;exact h2.1 x hx⟩
theorem NZ {kn:Int->Bool} {lo hi:Int} {l:List Ch} (h:AscOk kn lo hi l) {id w:Int} (d:Bool) (hk:kn id=true) (hw:lo<=w/\w<=hi):AscOk kn lo hi (withGo id w d l):=by
 refine ⟨fun c hc=>?_,IJ id w l d h.inc,fun c hc=>?_⟩
 ·rcases E6 id w l d c hc with ⟨_,rfl⟩|⟨hm,_⟩
  .exact hk
  .exact h.known c hm
 ·rcases E6 id w l d c hc with ⟨_,rfl⟩|⟨hm,_⟩
  .exact hw
  .exact h.range c hm
theorem JB {o:Option Bk} {now rate least:Int} (ho:∀ b,o=some b->AY now b=true) (h:BO rate) (hl:0<=least/\least<=4096) (hn:0<=now/\now<=1048576):AY now (nbk o now rate least)=true:=by
 cases o with
 | none=>exact LP h hl hn
 | some b=>exact zb6 (ho b rfl) h hl
theorem PH {l:List Cp} {id:Int} {c:Cp} (h:A1 l id=some c):c∈l:=by
 induction l with
 | nil=>cases h
 | cons x l ih =>
  unfold A1 at h
  split at h
  .cases h;exact lms ..
  .exact lmc _ (ih h)
theorem QI {t:Tr} {x:Dv} (h:DvOk t x) {id:Int} {s:Sg} (hk:Ag t.nodes id=true) (hs:SgOk s):DvOk t (Ey x id s):=by
 obtain ⟨b1,b2,_⟩:=Cn.1 h.bk
 obtain ⟨d1,d2,_⟩:=GR h.dp
 have d3:=LD h.dp
 have hn:=h.now
 have hcb:∀ (f:Cp->Bk),(∀ c,Br x.now c=true->AY x.now (f c)=true)->∀ b,(A1 x.buckets id).map f=some b->AY x.now b=true:=fun f hf b hb=>by
  cases hc:A1 x.buckets id with
  | none=>rw [hc] at hb;cases hb
  | some c =>
   rw [hc] at hb
   cases hb
   exact hf c (b1 c (PH hc)).2
 refine ⟨h.tree,h.cfg,h.now,h.free,h.head,NZ h.w _ hk hs.w,LX (fun c hc=>?_) (I4 d2) (fun q hq=>by cases hq),h.v,h.len,Cn.2 ⟨fun c hc=>?_,I4 b2,fun q hq=>by cases hq⟩,h.q,h.fl⟩
 ·rcases I3 hc with ⟨_,rfl⟩|hc
  ·refine ⟨hk,hs.t,?_⟩
   rcases Xu x.depths id with hg|hg
   .exact (d3 _ hg).2
   .rw [hg];simp only;omega
  .exact ⟨d1 c hc,d3 c hc⟩
 ·rcases I3 hc with ⟨_,rfl⟩|hc
  .exact ⟨hk,Cf.2 ⟨JB (hcb _ fun c hc=>(Cf.1 hc).1) hs.rp (by omega) hn,JB (hcb _ fun c hc=>(Cf.1 hc).2.1) hs.wp (by omega) hn,JB (hcb _ fun c hc=>(Cf.1 hc).2.2.1) hs.ro (by omega) hn,JB (hcb _ fun c hc=>(Cf.1 hc).2.2.2) hs.wo (by omega) hn⟩⟩
  .exact b1 c hc
abbrev dvZ:Dv:=EA ⟨0,0,0,0,0⟩ 0 0
theorem QJ {t:Tr} {x:Dv} (h:DvOk t x) (hs:x.Small) {id dev:Int} {s:Sg} (hk:Ag t.nodes id=true) (hsg:SgOk s):V 58 [t.vv,x.vv,.p (.int .i64 id),s.vv dev] []=some (.tup [(Ey x id s).fv,.p (.int .i64 0)],[]):=by
 refine Ac (vf:=vf58) rfl ?_
 have i0:=H0 h hs
 have i1:=Ed h.tree hk
 have i2:=PG s hsg
 have i3:=GB x hs hs.q hs.f
 have i4:=X7 x.weights id s.weight hs.w
 have hW:=NZ h.w (decide (s.weight=100)) hk hsg.w
 unfold Ey
 generalize withGo id s.weight (decide (s.weight=100)) x.weights=W at i4 hW ⊢
 have h':DvOk t { x with weights:=W }:=⟨h.tree,h.cfg,h.now,h.free,h.head,hW,h.dp,h.v,h.len,h.bk,h.q,h.fl⟩
 have i5:=Wh h' (Db h') id hsg 0
 rw [show FE { x with weights:=W } id s=FE x id s from rfl] at i5
 have i6:=O3 x.depths id hs.p
 have hg:=OL x.depths id
 have i7:=zbj x.depths ⟨id,s.target,(getD x.depths id).depth⟩ hs.p
 simp only at i7
 generalize FE x id s=BK at i5 ⊢
 generalize getD x.depths id=gd at i6 hg i7 ⊢
 generalize insGo Dp.group (⟨id,s.target,gd.depth⟩:Dp) (decide (s.target=0) && decide (gd.depth=256)) x.depths=DP at i7 ⊢
 exact z9 i0 i1 i2 i3 i4 i5 i6 i7 hg
theorem P1 {t:Tr} {id:Int} (ht:TreeOk t) (hk:Ag t.nodes id=false):V 83 [t.vv,.p (.int .i64 id)] []=some (.p (.bool false),[]):=by
 have h:=DU t id (by have:=ht.len;omega)
 rw [ER ((Bo t).2 ht),show (AS t.nodes id).isSome=false from hk] at h
 exact h
theorem PZ {t:Tr} {x:Dv} (h:DvOk t x) (hs:x.Small) {id dev:Int} {s:Sg} (hk:Ag t.nodes id=false):V 58 [t.vv,x.vv,.p (.int .i64 id),s.vv dev] []=some (.tup [dvZ.fv,.p (.int .i64 4)],[]):=by
 refine Ac (vf:=vf58) rfl ?_
 have i0:=H0 h hs
 have i1:=P1 h.tree hk
 simp -implicitDefEqProofs (disch:=omega) only [vf58,Ik,i0,i1,lpn,go_sem]
 rfl
theorem LB (rate least now hv:Int) (h:BO rate) (hl:0<=least/\least<=4096) (hn:0<=now/\now<=1048576) (hh:0<=hv/\hv<=1073741824):V 244 [.p (.int .i64 rate),.p (.int .i64 100),.p (.int .i64 (if rate=maxR then 0 else max rate least)),.p (.int .i64 now),.p (.int .i64 hv)] []=some (.tup [(if rate=maxR then A4 rate least now else { A4 rate least now with level:=min hv (max rate least)*100 }).vv,.p (.int .i64 0)],[]):=by
 refine Ac (vf:=vf244) rfl ?_
 have hmx:maxR=4611686018427387904:=rfl
 rcases h with h|h
 ·have hne:¬ rate=maxR:=by omega
  have op:=Fg ⟨rate,100,max rate least,0,now⟩
  have bv:=HK ⟨rate,100,max rate least,0,now⟩
  rw [show BH ⟨rate,100,max rate least,0,now⟩=true from Bc.2 ⟨by simp,hn,.inr ⟨hne,by simp only;omega,by simp only;omega,by simp only;omega⟩⟩] at bv
  rw [decide_eq_false hne] at op
  have hN:A4 rate least now=⟨rate,100,max rate least,max rate least*100,now⟩:=by unfold A4;rw [if_neg hne]
  rw [if_neg hne,if_neg hne,hN]
  have hb:0<=max rate least/\max rate least<=1073741824:=by omega
  generalize max rate least=b at op bv hb
  exact z2 op bv
 ·have op:=Fg ⟨rate,100,0,0,now⟩
  have bv:=HK ⟨rate,100,0,0,now⟩
  rw [show BH ⟨rate,100,0,0,now⟩=true from Bc.2 ⟨by simp,hn,.inl ⟨h,rfl,rfl⟩⟩] at bv
  rw [decide_eq_true h] at op
  have hN:A4 rate least now=⟨rate,100,0,0,now⟩:=by unfold A4;rw [if_pos h,h]
  rw [if_pos h,if_pos h,hN]
  have hm:min hv (0:Int)=0:=by omega
  simp -implicitDefEqProofs (disch:=omega) only [vf244,L6,op,bv,hm,Int.zero_mul,go_sem]
theorem zb8 (rate least now:Int) (h:BO rate) (hl:0<=least/\least<=4096) (hn:0<=now/\now<=1048576):V 206 [.p (.int .i64 rate),.p (.int .i64 100),.p (.int .i64 (if rate=maxR then 0 else max rate least)),.p (.int .i64 now)] []=some (.tup [(A4 rate least now).vv,.p (.int .i64 0)],[]):=by
 refine Ac (vf:=vf206) rfl ?_
 have i1:=LB rate least now 1073741824 h hl hn (by omega)
 have e:(if rate=maxR then A4 rate least now else { A4 rate least now with level:=min 1073741824 (max rate least)*100 })=A4 rate least now:=by
  have hmx:maxR=4611686018427387904:=rfl
  by_cases hr:rate=maxR
  ·rw [if_pos hr]
  ·rw [if_neg hr]
   unfold A4
   rw [if_neg hr]
   have hm:min 1073741824 (max rate least)=max rate least:=by rcases h with h|h<;>omega
   simp only [hm]
 rw [e] at i1
 exact z1 i1
theorem XM (b:Bk) (rate least:Int) (hb:BH b=true) (h:BO rate) (hl:0<=least/\least<=4096):V 205 [b.vv,.p (.int .i64 rate),.p (.int .i64 100),.p (.int .i64 (if rate=maxR then 0 else max rate least)),.p (.int .i64 b.now)] []=some (.tup [(D8 b rate least).vv,.p (.int .i64 0)],[]):=by
 refine Ac (vf:=vf205) rfl ?_
 have hmx:maxR=4611686018427387904:=rfl
 have hw:=((Bc.1 hb).2.1)
 have i0:=F0 b b.now hb (Int.le_refl _) hw.2
 rw [HY hb] at i0
 have i1:=H9 b hb
 have i2:=Fg b
 have tr:=KF hb
 have e:∀ hv:Int,hv=(if b.rate=maxR then 0 else AH b)->(if rate=maxR then A4 rate least b.now else { A4 rate least b.now with level:=min hv (max rate least)*100 })=D8 b rate least:=fun hv e=>by
  unfold D8
  by_cases hr:rate=maxR
  ·rw [if_pos hr,if_pos hr]
  ·rw [if_neg hr,if_neg hr,e]
   by_cases ho:b.rate=maxR
   .rw [if_pos ho,if_pos ho,show min (0:Int) (max rate least)=0 by omega]
   .rw [if_neg ho,if_neg ho]
 by_cases ho:b.rate=maxR
 ·have i3:=LB rate least b.now 0 h hl hw (by omega)
  rw [e 0 (by rw [if_pos ho])] at i3
  rw [decide_eq_true ho] at i2
  generalize (if rate=maxR then 0 else max rate least)=bu at i3 ⊢
  exact z4 i0 i1 i2 i3
 ·have i3:=LB rate least b.now (AH b) h hl hw tr
  rw [e _ (by rw [if_neg ho])] at i3
  rw [decide_eq_false ho] at i2
  generalize (if rate=maxR then 0 else max rate least)=bu at i3 ⊢
  exact z4 i0 i1 i2 i3
theorem GD {α:Type} {g:α->Int} {x:α}:∀ l:List α,insGo g x true l=l.filter fun c=>!decide (g c=g x)
 | []=>rfl
 | c::l=>by
  rw [insGo,lfl,Bool.true_or,GD l]
  by_cases h:g c=g x<;>simp [h]
theorem HC {α:Type} {g:α->Int} {x:α}:∀ l:List α,(insGo g x false l).Perm ((l.filter fun c=>!decide (g c=g x))++[x])
 | []=>by simp [insGo]
 | c::l=>by
  rw [lfl]
  by_cases hge:g x<=g c
  ·by_cases hy:g c=g x
   ·have e:insGo g x false (c::l)=x::insGo g x true l:=by simp [insGo,hge,hy]
    rw [e,GD,if_neg (by simp [hy])]
    exact (List.perm_append_singleton _ _).symm
   ·have e:insGo g x false (c::l)=x::c::insGo g x true l:=by simp [insGo,hge,hy]
    rw [e,GD,if_pos (by simp [hy])]
    exact (List.perm_append_singleton _ _).symm
  ·have hne:¬ g c=g x:=by omega
   have e:insGo g x false (c::l)=c::insGo g x false l:=by simp [insGo,hge,hne]
   rw [e,if_pos (by simp [hne])]
   exact (HC l).cons c
theorem Zq {α:Type} {g:α->Int} {row:α->List Int} (hr:∀ c,hdR (row c)=g c) {x:α} {l:List α} (hp:l.Pairwise fun a b=>g a<g b):((((l.filter fun c=>!decide (g c=g x))++[x]).map row).map hdR).Nodup/\(((l.filter fun c=>!decide (g c=g x))++[x]).map row).mergeSort (fun a b=>decide (hdR a<=hdR b))=(insGo g x false l).map row:=by
 have hS:((insGo g x false l).map row).Pairwise fun a b=>hdR a<hdR b:=List.pairwise_map.2 ((I4 hp).imp fun h=>by rw [hr,hr];exact h)
 have hP:=((HC (g:=g) (x:=x) l).map row)
 generalize ((l.filter fun c=>!decide (g c=g x))++[x]).map row=R at hP ⊢
 generalize (insGo g x false l).map row=S at hP hS ⊢
 have inj:∀ a∈S,∀ b∈S,hdR a=hdR b->a=b:=by
  clear hP
  induction S with
  | nil=>intro a ha;simp at ha
  | cons y S ih =>
   obtain ⟨h1,h2⟩:=lpw.1 hS
   intro a ha b hb e
   rcases lmk.1 ha with ha|ha<;>rcases lmk.1 hb with hb|hb
   .rw [ha,hb]
   .have:=h1 b hb;rw [ha] at e;omega
   .have:=h1 a ha;rw [hb] at e;omega
   .exact ih h2 a ha b hb e
 refine ⟨(hP.map hdR).nodup_iff.1 (List.pairwise_map.2 (hS.imp fun h=>by omega)),?_⟩
 have hM:=List.mergeSort_perm R fun a b=>decide (hdR a<=hdR b)
 refine List.Perm.eq_of_pairwise (le:=fun a b=>hdR a<=hdR b) (fun a b ha hb h1 h2=>inj a (hP.symm.subset (hM.subset ha)) b hb (by omega)) ?_ (hS.imp fun h=>by omega) (hM.trans hP.symm)
 have:=List.pairwise_mergeSort (le:=fun a b:List Int=>decide (hdR a<=hdR b)) (fun a b c h1 h2=>by simp at *;omega) (fun a b=>by simp;omega) R
 exact this.imp fun h=>by simpa using h
abbrev mBN (t:Tr) (d:Dv) (v1 v2 v3 n1 n2 n3:Nat):Ob:=.box [.p (.int .i64 d.m.rb),.p (.int .i64 d.m.rp),.p (.int .i64 d.m.wb),.p (.int .i64 d.m.wp),.p (.int .i64 d.m.seek),.p (.int .i64 d.speed),.p (.int .i64 d.margin),.p (.int .i64 d.now),.p (.int .i64 d.free),.p (.int .i64 d.head),.own (.arg 1 0) v1 0 n1,.own (.arg 2 0) v2 0 n2,.own (.arg 3 0) v3 0 n3,.p (Ap d.v),.own (.arg 4 0) 0 0 d.queue.length,.own (.arg 5 0) 0 0 d.flights.length,.p (An t.nodes),.p (.int .i64 t.next)]
abbrev mHX (t:Tr) (d:Dv) (v1 v2 v3 n1 n2 n3:Nat) (X1 X2 X3:Ob):List Ob:=[mBN t d v1 v2 v3 n1 n2 n3,X1,X2,X3,.arr 6 (d.queue.map Rq.pv),.arr 7 (d.flights.map Fl.pv)]
def MH (sz v:Nat) (W:List PV) (n:Nat) (X:Ob):Prop:=n<=W.length/\(v=0/\X=.arr sz W \/ v=1/\X=.box [.undef,.fresh sz W]/\n=W.length)
theorem GI {t:Tr} (h:TreeOk t) {g:Int} (hk:Ag t.nodes g=true):0<=g/\g<4611686018427387904:=by
 obtain ⟨n,hn,rfl⟩:=CY hk
 have hp:=h.pos n hn
 obtain ⟨l,hl,h1,h2⟩:=h.next
 have hi:=h.inc
 rw [List.getLast?_eq_some_iff] at hl
 obtain ⟨ys,hys⟩:=hl
 rw [hys] at hi hn
 have:=(List.pairwise_append.1 hi).2.2
 rcases lmp.1 hn with hm|hm
 ·have:=this n hm l (by simp)
  omega
 ·have:n=l:=by simpa using hm
  subst this
  omega
theorem Jd {α β:Type} (f:α->β) (l:List α) (z:List β):List.take l.length (List.map f l++z)=List.map f l:=by
 rw [List.take_append_of_le_length (by rw [llm];exact lrf _),ltl (by rw [llm];exact lrf _)]
theorem srt {α:Type} {f g:FuncId} {K:Nat} {pv:α->PV} {row:α->List Int} {key:α->Int} (hpv:∀ c,pv c=Ct (row c)) (hlen:∀ c,(row c).length=K) (hr:∀ c,hdR (row c)=key c)
  (hX:∀ l:List (List Int),l.length<1000000->(∀ p∈l,p.length=K/\0<=hdR p/\hdR p<4611686018427387904)->(l.map hdR).Nodup->V f [.own (.arg 0 0) 0 0 l.length,.p (.fn g)] [.arr K (l.map Ct)]=some (.tup [],[.arr K ((l.mergeSort fun x y=>decide (hdR x<=hdR y)).map Ct)]))
  {x:α} {l:List α} (hp:l.Pairwise fun a b=>key a<key b) (hk:∀ c∈l,0<=key c/\key c<4611686018427387904) (hx:0<=key x/\key x<4611686018427387904) (hl:l.length<900000) :
  V f [.own (.arg 0 0) 0 0 ((l.filter fun c=>!decide (key c=key x)).length+1),.p (.fn g)] [.arr K ((l.filter fun c=>!decide (key c=key x)).map pv++[pv x])]=some (.tup [],[.arr K ((insGo key x false l).map pv)]):=by
 obtain ⟨h1,h2⟩:=Zq hr hp (x:=x)
 have hfl:=List.length_filter_le (fun c=>!decide (key c=key x)) l
 have h:=hX (((l.filter fun c=>!decide (key c=key x))++[x]).map row) (by simp;omega) (fun p hp=>by
  obtain ⟨c,hc,rfl⟩:=lmm.1 hp
  rw [hlen,hr]
  refine ⟨rfl,?_⟩
  rcases lmp.1 hc with hc|hc
  ·exact hk c (List.mem_filter.1 hc).1
  ·have:c=x:=by simpa using hc
   rw [this]
   exact hx) h1
 have e:Ct ∘ row=pv:=funext fun c=>(hpv c).symm
 rw [h2,List.map_map,List.map_map,e,llm,lla,List.length_singleton,lma] at h
 exact h
theorem NY (id w:Int):∀ (d:Bool) (l:List Ch),withGo id w d l=insGo Ch.group ⟨id,w⟩ d l
 | d,[]=>rfl
 | d,c::l=>by
  rw [withGo,insGo,NY id w _ l]
theorem zcd {t:Tr} {d:Dv} (h:DvOk t d) {id:Int} (hk:Ag t.nodes id=true) (w:Int):∃ (W:List PV) (n v:Nat) (X:Ob),MH 2 v W n X/\W.take n=(withGo id w (decide (w=100)) d.weights).map Ch.pv/\V 86 [.ptr (.arg 0 0) 0 0,.p (.int .i64 id),.p (.int .i64 w)] (mH t d)=some (.tup [],mHX t d v 0 0 n d.buckets.length d.depths.length X (.arr 21 (d.buckets.map Cp.pv)) (.arr 3 (d.depths.map Dp.pv))):=by
 have hl:=Jy h.tree h.w
 have hl2:=HG h.w
 have hl3:=h.tree.len
 obtain ⟨d1,_,_⟩:=MC id
 obtain ⟨g1,_,_⟩:=MF id
 have i2:=d1 _ _ g1 d.weights hl
 simp only [Gj,elW,esW] at i2
 have i3:=srt (f:=157) (g:=158) (K:=2) (pv:=Ch.pv) (row:=fun c=>[c.group,c.own]) (key:=Ch.group) (fun c=>rfl) (fun c=>rfl) (fun c=>rfl) (fun l=>zbc) (x:=⟨id,w⟩) h.w.inc (fun c hc=>GI h.tree (h.w.known c hc)) (GI h.tree hk) (by omega)
 have hfl:=List.length_filter_le (fun c:Ch=>!decide (c.group=id)) d.weights
 rw [NY]
 have hT:insGo Ch.group ⟨id,w⟩ true d.weights=d.weights.filter fun c=>!decide (c.group=id):=GD _
 simp only at i3
 generalize List.replicate _ _=zs at i2
 generalize hF:(d.weights.filter fun c=>!decide (c.group=id))=F at i2 i3 hT hfl
 have hN:insGo Ch.group ⟨id,w⟩ false d.weights=insGo Ch.group ⟨id,w⟩ false d.weights:=rfl
 have hnl:(insGo Ch.group ⟨id,w⟩ false d.weights).length=F.length+1:=by
  have:=(HC (g:=Ch.group) (x:=⟨id,w⟩) d.weights).length_eq
  rw [hF] at this
  simpa using this
 have tF:=Jd Ch.pv F zs
 by_cases hw:w=100
 ·rw [decide_eq_true hw,hT]
  refine ⟨F.map Ch.pv++zs,F.length,0,_,⟨by simp,.inl ⟨rfl,rfl⟩⟩,tF,?_⟩
  refine Ac (vf:=vf86) rfl ?_
  exact z2 i2 hw
 ·rw [decide_eq_false hw]
  generalize insGo Ch.group ⟨id,w⟩ false d.weights=S at i3 hnl
  refine ⟨S.map Ch.pv,F.length+1,1,_,⟨by simp [hnl],.inr ⟨rfl,rfl,by simp [hnl]⟩⟩,by rw [<- hnl,ltl (by simp)],?_⟩
  refine Ac (vf:=vf86) rfl ?_
  simp only [Ch.pv] at i3
  simp -implicitDefEqProofs (disch:=omega) only [vf86,Mp,i2,hw,tF,i3,go_sem]
theorem zb3 {α:Type} {key:α->Int} {l:List α} (hp:l.Pairwise fun a b=>key a<key b) {q:Nat} {c:α} (hm:l[q]?=some c):(l.filter fun x=>!decide (key x=key c))=l.take q++l.drop (q+1):=by
 obtain ⟨hq,rfl⟩:=lgs.1 hm
 have e:l=l.take q++l[q]::l.drop (q+1):=by rw [<- ldg hq,List.take_append_drop]
 have hp2:=hp
 rw [e] at hp2
 obtain ⟨_,p2,p3⟩:=List.pairwise_append.1 hp2
 have f1:(l.take q).filter (fun x=>!decide (key x=key l[q]))=l.take q:=List.filter_eq_self.2 fun x hx=>by
  have:=p3 x hx _ (lms ..)
  simp;omega
 have f2:(l.drop (q+1)).filter (fun x=>!decide (key x=key l[q]))=l.drop (q+1):=List.filter_eq_self.2 fun x hx=>by
  have:=(lpw.1 p2).1 x hx
  simp;omega
 conv=>lhs;arg 2;rw [e]
 rw [List.filter_append,lfl,if_neg (by simp),f1,f2]
theorem Yx (t:Tr) (d:Dv) (id:Int) {n1 n3:Nat} {W D:List PV} (hb:d.buckets.length<1000000):V 159 [.ptr (.arg 0 0) 0 0,.p (.int .i64 id)] (mHX t d 0 0 0 n1 d.buckets.length n3 (.arr 2 W) (.arr 21 (d.buckets.map Cp.pv)) (.arr 3 D))=some (.p (.int .i64 (BR (fun c=>decide (c.group=id)) d.buckets)),mHX t d 0 0 0 n1 d.buckets.length n3 (.arr 2 W) (.arr 21 (d.buckets.map Cp.pv)) (.arr 3 D)):=by
 refine Ac (vf:=vf159) rfl ?_
 have i0:=LS d.buckets id hb
 exact z1 i0
def Im (o:Option Bk):Bk:=o.getD ⟨0,0,0,0,0⟩
theorem IM (t:Tr) (d:Dv) (o:Option Bk) (rate least:Int) {n1 n2 n3:Nat} {W B D:List PV} (ho:∀ b,o=some b->AY d.now b=true) (h:BO rate) (hl:0<=least/\least<=4096) (hn:0<=d.now/\d.now<=1048576):V 161 [.ptr (.arg 0 0) 0 0,(Im o).vv,.p (.bool o.isSome),.p (.int .i64 rate),.p (.int .i64 least)] (mHX t d 0 0 0 n1 n2 n3 (.arr 2 W) (.arr 21 B) (.arr 3 D))=some ((nbk o d.now rate least).vv,mHX t d 0 0 0 n1 n2 n3 (.arr 2 W) (.arr 21 B) (.arr 3 D)):=by
 refine Ac (vf:=vf161) rfl ?_
 cases o with
 | none =>
  have i0:=zb8 rate least d.now h hl hn
  unfold Im nbk
  simp only [Option.getD_none,Option.isSome_none]
  generalize A4 rate least d.now=z at i0
  by_cases hr:rate=maxR
  ·rw [if_pos hr] at i0
   have hr':decide (rate=4611686018427387904)=true:=decide_eq_true hr
   exact z2 hr' i0
  ·rw [if_neg hr] at i0
   exact z2 hr i0
 | some b =>
  obtain ⟨h1,h2,h3⟩:=AE.1 (ho b rfl)
  have i0:=XM b rate least h1 h hl
  rw [h3] at i0
  unfold Im nbk
  simp only [Option.getD_some,Option.isSome_some]
  generalize D8 b rate least=z at i0
  by_cases hr:rate=maxR
  ·rw [if_pos hr] at i0
   have hr':decide (rate=4611686018427387904)=true:=decide_eq_true hr
   exact z2 hr' i0
  ·rw [if_neg hr] at i0
   exact z2 hr i0
theorem zcG {t:Tr} {d:Dv} (h:DvOk t d) {id:Int} (hk:Ag t.nodes id=true) (tg:Int) {W B:List PV} {n1 n2:Nat} (hW:n1<=W.length) (hB:n2<=B.length):∃ (D:List PV) (n v:Nat) (X:Ob),MH 3 v D n X/\D.take n=(insGo Dp.group ⟨id,tg,(getD d.depths id).depth⟩ (decide (tg=0) && decide ((getD d.depths id).depth=256)) d.depths).map Dp.pv/\V 88 [.ptr (.arg 0 0) 0 0,.p (.int .i64 id),.p (.int .i64 tg)] (mHX t d 0 0 0 n1 n2 d.depths.length (.arr 2 W) (.arr 21 B) (.arr 3 (d.depths.map Dp.pv)))=some (.tup [],mHX t d 0 0 v n1 n2 n (.arr 2 W) (.arr 21 B) X):=by
 obtain ⟨a1,a2,_⟩:=GR h.dp
 have hl:=(Db h).p
 have hl3:=h.tree.len
 have hl2:=GZ (t:=t) (l:=d.depths.map (·.group)) (List.pairwise_map.2 a2) (fun z hz=>by obtain ⟨c,hc,rfl⟩:=lmm.1 hz;exact a1 c hc)
 rw [llm] at hl2
 obtain ⟨_,d2,_⟩:=MC id
 obtain ⟨_,g2,_⟩:=MF id
 have i1:=QY d.depths id hl
 have i2:=d2 _ _ g2 d.depths hl
 simp only [Gj,elD,esD] at i2
 have hgg:=OL d.depths id
 generalize getD d.depths id=gd0 at i1 hgg ⊢
 have i3:=srt (f:=166) (g:=167) (K:=3) (pv:=Dp.pv) (row:=fun c=>[c.group,c.target,c.depth]) (key:=Dp.group) (fun c=>rfl) (fun c=>rfl) (fun c=>rfl) (fun l=>zbd) (x:=⟨id,tg,gd0.depth⟩) a2 (fun c hc=>GI h.tree (a1 c hc)) (GI h.tree hk) (by omega)
 have hT:insGo Dp.group ⟨id,tg,gd0.depth⟩ true d.depths=d.depths.filter fun c=>!decide (c.group=id):=GD _
 have hnl:=(HC (g:=Dp.group) (x:=⟨id,tg,gd0.depth⟩) d.depths).length_eq
 simp only [lla,List.length_singleton] at i3 hnl
 generalize List.replicate _ _=zs at i2
 have hfl:=List.length_filter_le (fun c:Dp=>!decide (c.group=id)) d.depths
 generalize (d.depths.filter fun c=>!decide (c.group=id))=F at i2 i3 hT hnl hfl
 have tF:=Jd Dp.pv F zs
 by_cases hw:tg=0/\gd0.depth=256
 ·rw [decide_eq_true hw.1,decide_eq_true hw.2,bta,hT]
  obtain ⟨w1,w2⟩:=hw
  have w1':=decide_eq_true w1
  have w2':=decide_eq_true w2
  refine ⟨F.map Dp.pv++zs,F.length,0,_,⟨by simp,.inl ⟨rfl,rfl⟩⟩,tF,?_⟩
  refine Ac (vf:=vf88) rfl ?_
  exact z5 i1 i2 w1' w2' hgg
 ·have e:(decide (tg=0) && decide (gd0.depth=256))=false:=by
   rw [<- Bool.not_eq_true,bat,decide_eq_true_eq,decide_eq_true_eq]
   exact hw
  rw [e]
  generalize insGo Dp.group ⟨id,tg,gd0.depth⟩ false d.depths=S at i3 hnl ⊢
  refine ⟨S.map Dp.pv,F.length+1,1,_,⟨by simp [hnl],.inr ⟨rfl,rfl,by simp [hnl]⟩⟩,by rw [<- hnl,ltl (by simp)],?_⟩
  refine Ac (vf:=vf88) rfl ?_
  simp only [Dp.pv] at i3
  by_cases w1:tg=0
  ·have w2:¬ gd0.depth=256:=fun w2=>hw ⟨w1,w2⟩
   have w1':=decide_eq_true w1
   simp -implicitDefEqProofs (disch:=omega) only [vf88,JY,i1,i2,w1',w2,hgg,tF,i3,go_sem]
  .simp -implicitDefEqProofs (disch:=omega) only [vf88,JY,i1,i2,w1,hgg,tF,i3,go_sem]
theorem zcs {t:Tr} {d:Dv} (h:DvOk t d) {id:Int} (hk:Ag t.nodes id=true) {s:Sg} (hs:SgOk s) (dev:Int) {W D:List PV} {n1 n3:Nat} (hW:n1<=W.length) (hD:n3<=D.length):∃ (B:List PV) (n v:Nat) (X:Ob),MH 21 v B n X/\B.take n=(FE d id s).map Cp.pv/\V 87 [.ptr (.arg 0 0) 0 0,.p (.int .i64 id),s.vv dev] (mHX t d 0 0 0 n1 d.buckets.length n3 (.arr 2 W) (.arr 21 (d.buckets.map Cp.pv)) (.arr 3 D))=some (.tup [],mHX t d 0 v 0 n1 n n3 (.arr 2 W) X (.arr 3 D)):=by
 obtain ⟨a1,a2,_⟩:=Cn.1 h.bk
 have hl:=(Db h).b
 have hl3:=h.tree.len
 have hl2:=GZ (t:=t) (l:=d.buckets.map (·.group)) (List.pairwise_map.2 a2) (fun z hz=>by obtain ⟨c,hc,rfl⟩:=lmm.1 hz;exact (a1 c hc).1)
 rw [llm] at hl2
 have k0:=Yx t d id (n1:=n1) (n3:=n3) (W:=W) (D:=D) hl
 have hM:(Hp s).all (fun r=>decide (r=maxR))=(decide (s.rp=maxR) && (decide (s.wp=maxR) && (decide (s.ro=maxR) && decide (s.wo=maxR)))):=by simp [Hp]
 have hcb:∀ (f:Cp->Bk),(∀ c,Br d.now c=true->AY d.now (f c)=true)->∀ b,(A1 d.buckets id).map f=some b->AY d.now b=true:=fun f hf b hb=>by
  cases hc:A1 d.buckets id with
  | none=>rw [hc] at hb;cases hb
  | some c =>
   rw [hc] at hb
   cases hb
   exact hf c (a1 c (PH hc)).2
 have r1:=fun (n2:Nat) (B:List PV)=>IM t d ((A1 d.buckets id).map (·.rp)) s.rp 4096 (n1:=n1) (n2:=n2) (n3:=n3) (W:=W) (B:=B) (D:=D) (hcb _ fun c hc=>(Cf.1 hc).1) hs.rp (by omega) h.now
 have r2:=fun (n2:Nat) (B:List PV)=>IM t d ((A1 d.buckets id).map (·.wp)) s.wp 4096 (n1:=n1) (n2:=n2) (n3:=n3) (W:=W) (B:=B) (D:=D) (hcb _ fun c hc=>(Cf.1 hc).2.1) hs.wp (by omega) h.now
 have r3:=fun (n2:Nat) (B:List PV)=>IM t d ((A1 d.buckets id).map (·.ro)) s.ro 0 (n1:=n1) (n2:=n2) (n3:=n3) (W:=W) (B:=B) (D:=D) (hcb _ fun c hc=>(Cf.1 hc).2.2.1) hs.ro (by omega) h.now
 have r4:=fun (n2:Nat) (B:List PV)=>IM t d ((A1 d.buckets id).map (·.wo)) s.wo 0 (n1:=n1) (n2:=n2) (n3:=n3) (W:=W) (B:=B) (D:=D) (hcb _ fun c hc=>(Cf.1 hc).2.2.2) hs.wo (by omega) h.now
 have hc0:nwC d id s=⟨id,nbk ((A1 d.buckets id).map (·.rp)) d.now s.rp 4096,nbk ((A1 d.buckets id).map (·.wp)) d.now s.wp 4096,nbk ((A1 d.buckets id).map (·.ro)) d.now s.ro 0,nbk ((A1 d.buckets id).map (·.wo)) d.now s.wo 0⟩:=rfl
 unfold FE
 rw [hM,hc0]
 clear hM hc0 hcb
 generalize nbk ((A1 d.buckets id).map (·.rp)) d.now s.rp 4096=b1 at r1 ⊢
 generalize nbk ((A1 d.buckets id).map (·.wp)) d.now s.wp 4096=b2 at r2 ⊢
 generalize nbk ((A1 d.buckets id).map (·.ro)) d.now s.ro 0=b3 at r3 ⊢
 generalize nbk ((A1 d.buckets id).map (·.wo)) d.now s.wo 0=b4 at r4 ⊢
 have i3:=srt (f:=162) (g:=163) (K:=21) (pv:=Cp.pv) (row:=fun c=>[c.group,c.rp.rate,c.rp.per,c.rp.burst,c.rp.level,c.rp.now,c.wp.rate,c.wp.per,c.wp.burst,c.wp.level,c.wp.now,c.ro.rate,c.ro.per,c.ro.burst,c.ro.level,c.ro.now,c.wo.rate,c.wo.per,c.wo.burst,c.wo.level,c.wo.now]) (key:=Cp.group) (fun c=>rfl) (fun c=>rfl) (fun c=>rfl) (fun l=>zbe) (x:=⟨id,b1,b2,b3,b4⟩) a2 (fun c hc=>GI h.tree (a1 c hc).1) (GI h.tree hk) (by omega)
 have hT:insGo Cp.group ⟨id,b1,b2,b3,b4⟩ true d.buckets=d.buckets.filter fun c=>!decide (c.group=id):=GD _
 have hnl:=(HC (g:=Cp.group) (x:=⟨id,b1,b2,b3,b4⟩) d.buckets).length_eq
 simp only [lla,List.length_singleton] at i3 hnl
 have hmx:maxR=4611686018427387904:=rfl
 have hfl:(s.rp=4611686018427387904/\s.wp=4611686018427387904/\s.ro=4611686018427387904/\s.wo=4611686018427387904) \/ (¬ s.rp=4611686018427387904 \/ (s.rp=4611686018427387904/\¬ s.wp=4611686018427387904) \/ (s.rp=4611686018427387904/\s.wp=4611686018427387904/\¬ s.ro=4611686018427387904) \/ (s.rp=4611686018427387904/\s.wp=4611686018427387904/\s.ro=4611686018427387904/\¬ s.wo=4611686018427387904)):=by omega
 have tk:=fun l:List Cp=>Jd Cp.pv l []
 simp only [lan] at tk
 rcases E8 (fun c:Cp=>decide (c.group=id)) d.buckets with ⟨j1,hno⟩|⟨q,c,j1,hm,hg,hb⟩
 ·rw [IU hno] at r1 r2 r3 r4
  simp only [Im,Option.map_none,Option.getD_none,Option.isSome_none] at r1 r2 r3 r4
  rw [j1] at k0
  have hF:(d.buckets.filter fun c:Cp=>!decide (c.group=id))=d.buckets:=List.filter_eq_self.2 fun x hx=>by rw [hno x hx];rfl
  rw [hF] at i3 hT hnl
  have hd:decide ((0:Int)<=-1)=false:=rfl
  rcases hfl with ⟨f1,f2,f3,f4⟩|hfl
  ·rw [decide_eq_true f1,decide_eq_true f2,decide_eq_true f3,decide_eq_true f4,bta,bta,bta,hT]
   have g1:=decide_eq_true f1
   have g2:=decide_eq_true f2
   have g3:=decide_eq_true f3
   have g4:=decide_eq_true f4
   refine ⟨d.buckets.map Cp.pv,d.buckets.length,0,_,⟨by simp,.inl ⟨rfl,rfl⟩⟩,tk _,?_⟩
   refine Ac (vf:=vf87) rfl ?_
   exact z6 k0 hd g1 g2 g3 g4
  ·have e:(decide (s.rp=maxR) && (decide (s.wp=maxR) && (decide (s.ro=maxR) && decide (s.wo=maxR))))=false:=by
    rw [<- Bool.not_eq_true];simp only [bat,decide_eq_true_eq];omega
   rw [e]
   generalize insGo Cp.group ⟨id,b1,b2,b3,b4⟩ false d.buckets=S at i3 hnl ⊢
   refine ⟨S.map Cp.pv,d.buckets.length+1,1,_,⟨by simp [hnl],.inr ⟨rfl,rfl,by simp [hnl]⟩⟩,by rw [<- hnl,ltl (by simp)],?_⟩
   refine Ac (vf:=vf87) rfl ?_
   simp only [show Cp.pv ⟨id,b1,b2,b3,b4⟩=.agg [.int .i64 id,.int .i64 b1.rate,.int .i64 b1.per,.int .i64 b1.burst,.int .i64 b1.level,.int .i64 b1.now,.int .i64 b2.rate,.int .i64 b2.per,.int .i64 b2.burst,.int .i64 b2.level,.int .i64 b2.now,.int .i64 b3.rate,.int .i64 b3.per,.int .i64 b3.burst,.int .i64 b3.level,.int .i64 b3.now,.int .i64 b4.rate,.int .i64 b4.per,.int .i64 b4.burst,.int .i64 b4.level,.int .i64 b4.now] from rfl] at i3
   rcases hfl with f1|⟨f1,f2⟩|⟨f1,f2,f3⟩|⟨f1,f2,f3,f4⟩
   ·exact z9 k0 hd f1 r1 r2 r3 r4 tk i3
   ·have g1:=decide_eq_true f1
    exact z10 k0 hd g1 f2 r1 r2 r3 r4 tk i3
   ·have g1:=decide_eq_true f1
    have g2:=decide_eq_true f2
    exact z11 k0 hd g1 g2 f3 r1 r2 r3 r4 tk i3
   ·have g1:=decide_eq_true f1
    have g2:=decide_eq_true f2
    have g3:=decide_eq_true f3
    simp -implicitDefEqProofs (disch:=omega) only [vf87,FB,k0,hd,g1,g2,g3,f4,r1,r2,r3,r4,tk,i3,go_sem]
 ·have hgc:c.group=id:=by simpa using hg
  rw [HW hm hg hb] at r1 r2 r3 r4
  simp only [Im,Option.map_some,Option.getD_some,Option.isSome_some] at r1 r2 r3 r4
  rw [j1] at k0
  have hF:=zb3 (key:=Cp.group) a2 hm
  rw [hgc] at hF
  have hq:=(lgs.1 hm).1
  have i2:=zcE (xs:=d.buckets.map Cp.pv) (i:=q) (j:=q+1) (by simpa using hl) (by omega) (by omega) (by simp;omega)
  rw [llm,Int.toNat_natCast,show ((q:Int)+1).toNat=q+1 by omega,<- List.map_take,<- List.map_drop,<- lma,show d.buckets.length - (q+1 - q)=(d.buckets.take q++d.buckets.drop (q+1)).length by simp;omega,<- hF] at i2
  have hFl:(d.buckets.filter fun x:Cp=>!decide (x.group=id)).length+1=d.buckets.length:=by rw [hF];simp;omega
  generalize (d.buckets.filter fun x:Cp=>!decide (x.group=id))=F at i2 i3 hT hnl hFl
  clear hF
  have hd:decide ((0:Int)<=(q:Nat))=true:=decide_eq_true (by omega)
  rcases hfl with ⟨f1,f2,f3,f4⟩|hfl
  ·rw [decide_eq_true f1,decide_eq_true f2,decide_eq_true f3,decide_eq_true f4,bta,bta,bta,hT]
   have g1:=decide_eq_true f1
   have g2:=decide_eq_true f2
   have g3:=decide_eq_true f3
   have g4:=decide_eq_true f4
   refine ⟨F.map Cp.pv,F.length,1,_,⟨by simp,.inr ⟨rfl,rfl,by simp⟩⟩,tk F,?_⟩
   refine Ac (vf:=vf87) rfl ?_
   simp -implicitDefEqProofs (disch:=omega) only [vf87,FB,k0,hd,hm,Cp.pv,i2,g1,g2,g3,g4,go_sem]
  ·have e:(decide (s.rp=maxR) && (decide (s.wp=maxR) && (decide (s.ro=maxR) && decide (s.wo=maxR))))=false:=by
    rw [<- Bool.not_eq_true];simp only [bat,decide_eq_true_eq];omega
   rw [e]
   generalize insGo Cp.group ⟨id,b1,b2,b3,b4⟩ false d.buckets=S at i3 hnl ⊢
   refine ⟨S.map Cp.pv,F.length+1,1,_,⟨by simp [hnl],.inr ⟨rfl,rfl,by simp [hnl]⟩⟩,by rw [<- hnl,ltl (by simp)],?_⟩
   refine Ac (vf:=vf87) rfl ?_
   simp only [Cp.pv] at i3
   rcases hfl with f1|⟨f1,f2⟩|⟨f1,f2,f3⟩|⟨f1,f2,f3,f4⟩
   ·simp -implicitDefEqProofs (disch:=omega) only [vf87,FB,k0,hd,hm,Cp.pv,i2,f1,r1,r2,r3,r4,tk,i3,go_sem]
   ·have g1:=decide_eq_true f1
    simp -implicitDefEqProofs (disch:=omega) only [vf87,FB,k0,hd,hm,Cp.pv,i2,g1,f2,r1,r2,r3,r4,tk,i3,go_sem]
   ·have g1:=decide_eq_true f1
    have g2:=decide_eq_true f2
    simp -implicitDefEqProofs (disch:=omega) only [vf87,FB,k0,hd,hm,Cp.pv,i2,g1,g2,f3,r1,r2,r3,r4,tk,i3,go_sem]
   ·have g1:=decide_eq_true f1
    have g2:=decide_eq_true f2
    have g3:=decide_eq_true f3
    simp -implicitDefEqProofs (disch:=omega) only [vf87,FB,k0,hd,hm,Cp.pv,i2,g1,g2,g3,f4,r1,r2,r3,r4,tk,i3,go_sem]
theorem zax {t:Tr} {d:Dv} (h:DvOk t d) {id:Int} (hk:Ag t.nodes id=true) {s:Sg} (hs:SgOk s) (dev:Int):V 34 [t.vv,d.vv,.p (.int .i64 id),s.vv dev] []=some (.tup [dvF (Ey d id s) (.p (Ap d.v)),.p (.int .i64 0)],[]):=by
 refine Ac (vf:=vf34) rfl ?_
 have hlen:=h.tree.len
 have i0:=EO t d h.tree.fits (by omega) (Db h)
 rw [dvOk_iff.2 h] at i0
 have i1:=GM t id (by omega)
 rw [hk] at i1
 have i2:=PG s hs
 have i3:=GV t d (Db h)
 obtain ⟨W,n1,v1,X1,hX1,hW,w1⟩:=zcd h hk s.weight
 obtain ⟨B,n2,v2,X2,hX2,hB,w2⟩:=zcs h hk hs 0 (W:=W) (n1:=n1) (D:=d.depths.map Dp.pv) (n3:=d.depths.length) hX1.1 (by simp)
 obtain ⟨D,n3,v3,X3,hX3,hD,w3⟩:=zcG h hk s.target (W:=W) (n1:=n1) (B:=B) (n2:=n2) hX1.1 hX2.1
 have hE:dvF (Ey d id s) (.p (Ap d.v))=.agg [.p (.int .i64 d.m.rb),.p (.int .i64 d.m.rp),.p (.int .i64 d.m.wb),.p (.int .i64 d.m.wp),.p (.int .i64 d.m.seek),.p (.int .i64 d.speed),.p (.int .i64 d.margin),.p (.int .i64 d.now),.p (.int .i64 d.free),.p (.int .i64 d.head),.fresh 2 (W.take n1),.fresh 21 (B.take n2),.fresh 3 (D.take n3),.p (Ap d.v),.fresh 6 (d.queue.map Rq.pv),.fresh 7 (d.flights.map Fl.pv)]:=by
  rw [hW,hB,hD]
  rfl
 rw [hE]
 clear hW hB hD hE
 obtain ⟨l1,hX1⟩:=hX1
 obtain ⟨l2,hX2⟩:=hX2
 obtain ⟨l3,hX3⟩:=hX3
 rcases hX1 with ⟨rfl,rfl⟩|⟨rfl,rfl,_⟩<;>rcases hX2 with ⟨rfl,rfl⟩|⟨rfl,rfl,_⟩<;>rcases hX3 with ⟨rfl,rfl⟩|⟨rfl,rfl,_⟩<;>simp -implicitDefEqProofs (disch:=omega) only [vf34,Il,i0,i1,i2,i3,w1,w2,w3,go_sem]
theorem Wd (d:Dv) (task:Int) (hq:d.queue.length<1000000) (hf:d.flights.length<1000000):V 94 [d.vv,.p (.int .i64 task)] []=some (.p (.int .i64 (pendD d task:Nat)),[]):=by
 refine Ac (vf:=vf94) rfl ?_
 simp -implicitDefEqProofs (disch:=omega) only [vf94,S6,llm,go_sem]
 obtain ⟨I,hI⟩:=lpI fun k s=>s.pe 1=.p (.int .i64 task)/\s.pe 2=.ptr (.slot 2 0) 0 0/\s.pe 5=.p (.int .i64 (((d.queue.take k).filter fun r=>decide (r.task=task)).length:Nat))/\s.pe 6=.p (.int .i64 k)/\s.h (.slot 2 0)=some (0,Ob.box (dvC d))
 refine Aj (d.queue.length) I ?_ ?_
 ·refine (hI _ _).2 ?_
  and_intros
  all_goals exact cl4
 intro k s hk hIk
 obtain ⟨h1,h2,h5,hH⟩:=(hI _ _).1 hIk
 clear hIk
 refine w4 h1 h2 h5 hH ?_
 refine Ae (fun hlt=>?_) (fun hge=>?_)
 ·have hm:d.queue[k]?=some d.queue[k]:=lgg hlt
  have hst:=I6 (p:=fun r:Rq=>decide (r.task=task)) hm
  have hle:=Jw (fun r:Rq=>decide (r.task=task)) d.queue k
  generalize d.queue[k]=r at hm hst
  generalize ((d.queue.take k).filter fun r=>decide (r.task=task)).length=c at h5 hst hle
  by_cases hr:r.task=task
  ·rw [if_pos (decide_eq_true hr)] at hst
   simp -implicitDefEqProofs (disch:=omega) only [h1,h2,h5,hH,hlt,hm,hr,go_sem]
   try refine ai ?_
   refine (hI _ _).2 ?_
   and_intros
   all_goals exact cl4
  ·rw [if_neg (by simpa using hr)] at hst
   simp -implicitDefEqProofs (disch:=omega) only [h1,h2,h5,hH,hlt,hm,hr,go_sem]
   try refine ai ?_
   refine (hI _ _).2 ?_
   and_intros
   all_goals exact cl4
 ·rw [ltl (by omega)] at h5
  have hqf:=List.length_filter_le (fun r:Rq=>decide (r.task=task)) d.queue
  have hP:pendD d task=(d.queue.filter fun r=>decide (r.task=task)).length+(d.flights.filter fun f=>decide (f.r.task=task)).length:=rfl
  rw [hP]
  generalize (d.queue.filter fun r=>decide (r.task=task)).length=Q at h5 hqf
  refine w5 h1 h2 h5 hH hge ?_
  obtain ⟨J,hJ⟩:=lpI fun j s=>s.pe 1=.p (.int .i64 task)/\s.pe 2=.ptr (.slot 2 0) 0 0/\s.pe 5=.p (.int .i64 ((Q+((d.flights.take j).filter fun f=>decide (f.r.task=task)).length:Nat):Int))/\s.pe 7=.p (.int .i64 j)/\s.h (.slot 2 0)=some (0,Ob.box (dvC d))
  refine Aj (d.flights.length) J ?_ ?_
  ·refine (hJ _ _).2 ?_
   and_intros
   all_goals exact cl4
  intro j s hj hJk
  obtain ⟨h1,h2,h5,hH⟩:=(hJ _ _).1 hJk
  clear hJk
  refine w4 h1 h2 h5 hH ?_
  refine Ae (fun hjl=>?_) (fun hjg=>?_)
  ·have hm:d.flights[j]?=some d.flights[j]:=lgg hjl
   have hst:=I6 (p:=fun f:Fl=>decide (f.r.task=task)) hm
   have hle:=Jw (fun f:Fl=>decide (f.r.task=task)) d.flights j
   generalize d.flights[j]=r at hm hst
   generalize ((d.flights.take j).filter fun f=>decide (f.r.task=task)).length=c at h5 hst hle
   by_cases hr:r.r.task=task
   ·rw [if_pos (decide_eq_true hr)] at hst
    simp -implicitDefEqProofs (disch:=omega) only [h1,h2,h5,hH,hjl,hm,hr,go_sem]
    try refine ai ?_
    refine (hJ _ _).2 ?_
    and_intros
    all_goals exact cl4
   ·rw [if_neg (by simpa using hr)] at hst
    simp -implicitDefEqProofs (disch:=omega) only [h1,h2,h5,hH,hjl,hm,hr,go_sem]
    try refine ai ?_
    refine (hJ _ _).2 ?_
    and_intros
    all_goals exact cl4
  ·rw [ltl (by omega)] at h5
   exact z5 h1 h2 h5 hH hjg
def Gc (d:Dv) (task:Int):Dv:={ d with queue:=d.queue.filter fun r=>!decide (r.task=task) }
theorem XG (d:Dv) (task:Int) (hs:d.Small):V 95 [d.vv,.p (.int .i64 task)] []=some (dvF (Gc d task) (.p (Ap d.v)),[]):=by
 refine Ac (vf:=vf95) rfl ?_
 have i1:=GV ⟨[],0⟩ d hs
 simp only [Tr.vv,An,lpn] at i1
 obtain ⟨_,_,d3⟩:=MC task
 obtain ⟨_,_,g3⟩:=MF task
 have i2:=d3 _ _ g3 d.queue hs.q
 simp only [Gj,elQ,esQ] at i2
 unfold Gc
 generalize List.replicate _ _=zs at i2
 generalize (d.queue.filter fun c=>!decide (c.task=task))=F at i2 ⊢
 have tF:=Jd Rq.pv F zs
 simp -implicitDefEqProofs (disch:=omega) only [vf95,S5,i1,i2,tF,go_sem]
theorem YP {α:Type} {p:α->Bool} {l:List α} {k:Nat} {m:α} (hm:l[k]?=some m):(l.take (k+1)).filter p=(l.take k).filter p++if p m=true then [m] else []:=by
 rw [Bt hm,List.filter_append]
 by_cases h:p m=true
 .rw [if_pos h,List.filter_cons_of_pos h];rfl
 .rw [if_neg h,List.filter_cons_of_neg h];rfl
theorem W9 (x:Dv) (task:Int) (hs:x.Small):V 96 [x.vv,.p (.int .i64 task)] []=some ((Gc x task).fv,[]):=by
 refine Ac (vf:=vf96) rfl ?_
 have i0:=GB x hs hs.q hs.f
 have hql:=hs.q
 unfold Gc
 refine w1 i0 ?_
 obtain ⟨I,hI⟩:=lpI fun k s=>∃ (acc:List Rq) (w:Nat),acc=(x.queue.take k).filter (fun r=>!decide (r.task=task))/\s.pe 1=.p (.int .i64 task)/\s.pe 2=.ptr (.slot 2 0) 0 0/\s.pe 4=.ptr (.slot 4 0) 0 0/\s.pe 5=.own (.slot 5 0) w 0 acc.length/\s.pe 6=.p (.int .i64 k)/\s.h (.slot 2 0)=some (0,Ob.box [.p (.int .i64 x.m.rb),.p (.int .i64 x.m.rp),.p (.int .i64 x.m.wb),.p (.int .i64 x.m.wp),.p (.int .i64 x.m.seek),.p (.int .i64 x.speed),.p (.int .i64 x.margin),.p (.int .i64 x.now),.p (.int .i64 x.free),.p (.int .i64 x.head),.own (.slot 8 11) 0 0 x.weights.length,.own (.slot 8 12) 0 0 x.buckets.length,.own (.slot 8 13) 0 0 x.depths.length,.own (.slot 8 14) 0 0 x.v.length,.own (.slot 8 15) 0 0 x.queue.length,.own (.slot 8 16) 0 0 x.flights.length])/\s.h (.slot 4 0)=some (0,Ob.box [.p (.int .i64 0),.p (.int .i64 0),.p (.int .i64 0),.p (.int .i64 0),.p (.int .i64 0),.p (.int .i64 0),.p (.int .i64 0),.p (.int .i64 0),.p (.int .i64 0),.p (.int .i64 0),.own (.slot 4 11) 0 0 0,.own (.slot 4 12) 0 0 0,.own (.slot 4 13) 0 0 0,.own (.slot 4 14) 0 0 0,.own (.slot 4 15) 0 0 0,.own (.slot 4 16) 0 0 0])/\s.h (.slot 4 11)=some (0,Ob.arr 2 [])/\s.h (.slot 4 12)=some (0,Ob.arr 21 [])/\s.h (.slot 4 13)=some (0,Ob.arr 3 [])/\s.h (.slot 4 14)=some (0,Ob.arr 2 [])/\s.h (.slot 4 15)=some (0,Ob.arr 6 [])/\s.h (.slot 4 16)=some (0,Ob.arr 7 [])/\s.h (.slot 5 0)=some (w,Ob.arr 6 (acc.map Rq.pv))/\s.h (.slot 8 11)=some (0,Ob.arr 2 (List.map Ch.pv x.weights))/\s.h (.slot 8 12)=some (0,Ob.arr 21 (List.map Cp.pv x.buckets))/\s.h (.slot 8 13)=some (0,Ob.arr 3 (List.map Dp.pv x.depths))/\s.h (.slot 8 14)=some (0,Ob.arr 2 (List.map Ch.pv x.v))/\s.h (.slot 8 15)=some (0,Ob.arr 6 (List.map Rq.pv x.queue))/\s.h (.slot 8 16)=some (0,Ob.arr 7 (List.map Fl.pv x.flights))
 refine Aj (x.queue.length) I ?_ ?_
 ·refine (hI _ _).2 ⟨[],0,?_⟩
  and_intros
  ·rfl
  all_goals exact cl4
 intro k s hk hIk
 obtain ⟨acc,w,ha,h1,h2,h4,h5,h6,hh2_0,hH⟩:=(hI _ _).1 hIk
 clear hIk
 have hal:acc.length<=x.queue.length:=by
  rw [ha]
  have:=List.length_filter_le (fun r:Rq=>!decide (r.task=task)) (x.queue.take k)
  rw [llt] at this
  omega
 refine w7 h1 h2 h4 h5 h6 hh2_0 hH ?_
 refine Ae (fun hlt=>?_) (fun hge=>?_)
 ·have hm:x.queue[k]?=some x.queue[k]:=lgg hlt
  have hst:=YP (p:=fun r:Rq=>!decide (r.task=task)) hm
  generalize x.queue[k]=r at hm hst
  by_cases hr:r.task=task
  ·rw [if_neg (by simp [hr]),lan] at hst
   simp -implicitDefEqProofs (disch:=omega) only [h1,h2,h4,h5,h6,hh2_0,hH,hlt,hm,hr,Rq.pv,go_sem]
   try refine ai ?_
   refine (hI _ _).2 ⟨acc,w,?_⟩
   and_intros
   .exact by rw [hst];exact ha
   all_goals exact cl4
  ·rw [if_pos (by simp [hr])] at hst
   simp -implicitDefEqProofs (disch:=omega) only [h1,h2,h4,h5,h6,hh2_0,hH,hlt,hm,hr,Rq.pv,go_sem]
   try refine ai ?_
   refine (hI _ _).2 ⟨acc++[r],w+1,?_⟩
   and_intros
   .exact by rw [hst,ha]
   all_goals exact cl4
 ·rw [ltl (by omega)] at ha
  rw [<- ha]
  exact z8 h1 h2 h4 h5 h6 hh2_0 hH hge
structure LeB (b' b:Bk):Prop where
 rate:b'.rate=b.rate
 per:b'.per=b.per
 burst:b'.burst=b.burst
 level:b'.level<=b.level
theorem LeB.refl (b:Bk):LeB b b:=⟨rfl,rfl,rfl,Int.le_refl _⟩
theorem LeB.trans {a b c:Bk} (h:LeB a b) (h':LeB b c):LeB a c:=⟨h.rate.trans h'.rate,h.per.trans h'.per,h.burst.trans h'.burst,Int.le_trans h.level h'.level⟩
def Per (c:Cp):Prop:=∀ w,(kpB c w).per=100/\(koB c w).per=100
def LeC (c' c:Cp):Prop:=c'.group=c.group/\∀ w,LeB (kpB c' w) (kpB c w)/\LeB (koB c' w) (koB c w)
theorem LeC.refl (c:Cp):LeC c c:=⟨rfl,fun _=>⟨LeB.refl _,LeB.refl _⟩⟩
theorem LeC.trans {a b c:Cp} (h:LeC a b) (h':LeC b c):LeC a c:=⟨h.1.trans h'.1,fun w=>⟨(h.2 w).1.trans (h'.2 w).1,(h.2 w).2.trans (h'.2 w).2⟩⟩
theorem LeC.per {c' c:Cp} (h:LeC c' c) (hp:Per c):Per c':=fun w=>⟨(h.2 w).1.per.trans (hp w).1,(h.2 w).2.per.trans (hp w).2⟩
theorem Q3 (L:List Int) (a:Nat) (hL:L.length<4611686018427387904):∃ (s:Sg) (b:Nat),V 35 [.ptr (.arg 0 0) 0 0,.p (.int .i64 0)] [AV L a]=some (s.vv 0,[AV L b])/\SgOk s:=by
 have c1:=XV L a hL
 have hw:=Vb L a
 generalize GS L a=w at c1 hw
 generalize Af L (Af L a 1000) 8=a1 at c1
 have c2:=Bl L a1 [4611686018427387904,4611686018427387904,1,10,5000] hL (by decide) (by decide)
 have x2:=C9 L a1 (xs:=[4611686018427387904,4611686018427387904,1,10,5000]) (by decide)
 generalize Af L a1 ([4611686018427387904,4611686018427387904,1,10,5000]:List Int).length=a2 at c2
 have c3:=Bl L a2 [4611686018427387904,4611686018427387904,4,100] hL (by decide) (by decide)
 have x3:=C9 L a2 (xs:=[4611686018427387904,4611686018427387904,4,100]) (by decide)
 generalize Af L a2 ([4611686018427387904,4611686018427387904,4,100]:List Int).length=a3 at c3
 have c4:=Bl L a3 [4611686018427387904,4611686018427387904,1,3,50] hL (by decide) (by decide)
 have x4:=C9 L a3 (xs:=[4611686018427387904,4611686018427387904,1,3,50]) (by decide)
 generalize Af L a3 ([4611686018427387904,4611686018427387904,1,3,50]:List Int).length=a4 at c4
 have c5:=Bl L a4 [4611686018427387904,2] hL (by decide) (by decide)
 have x5:=C9 L a4 (xs:=[4611686018427387904,2]) (by decide)
 generalize Af L a4 ([4611686018427387904,2]:List Int).length=a5 at c5
 have c6:=Bl L a5 [0,0,5,20] hL (by decide) (by decide)
 have x6:=C9 L a5 (xs:=[0,0,5,20]) (by decide)
 generalize Af L a5 ([0,0,5,20]:List Int).length=a6 at c6
 generalize Ba L a1 [4611686018427387904,4611686018427387904,1,10,5000]=v2 at c2 x2
 generalize Ba L a2 [4611686018427387904,4611686018427387904,4,100]=v3 at c3 x3
 generalize Ba L a3 [4611686018427387904,4611686018427387904,1,3,50]=v4 at c4 x4
 generalize Ba L a4 [4611686018427387904,2]=v5 at c5 x5
 generalize Ba L a5 [0,0,5,20]=v6 at c6 x6
 simp only [AG,lpc,lpn] at c2 c3 c4 c5 c6
 simp only [lmk,List.not_mem_nil,or_false] at x2 x3 x4 x5 x6
 refine ⟨⟨w,v2,v3,v4,v5,v6⟩,a6,Ac (vf:=vf35) rfl ?_,⟨hw,?_,?_,?_,?_,by simp only;omega⟩⟩
 .exact z6 c1 c2 c3 c4 c5 c6
 all_goals (unfold BO;simp only;have hmx:maxR=4611686018427387904:=rfl;omega)
theorem zbx {t:Tr} (h:TreeOk t) {m:Mdl} {speed margin:Int} (hc:Dc m speed margin=true):DvOk t (EA m speed margin) :=
 ⟨h,hc,by simp,by simp,by simp,(EQ _ _ _ _).1 rfl,rfl,(EQ _ _ _ _).1 rfl,by simp,rfl,by simp,rfl⟩
theorem za7 {t:Tr} {d:Dv} {r:Rq} (h:DvOk t d) (hr:Aw { r with time:=0 }=true) (hk:Ag t.nodes r.group=true) (hl:d.queue.length+d.flights.length<256):DvOk t (DL d r):=by
 refine ⟨h.tree,h.cfg,h.now,h.free,h.head,h.w,h.dp,h.v,?_,h.bk,fun x hx=>?_,h.fl⟩
 ·show (d.queue++[_]).length+d.flights.length<=256
  rw [lla,List.length_singleton]
  omega
 ·rcases lmp.1 hx with hx|hx
  ·exact h.q x hx
  ·rw [List.mem_singleton] at hx
   subst hx
   refine ⟨?_,hk⟩
   have hn:=h.now
   rw [CL] at hr ⊢
   simp only at hr ⊢
   omega
theorem Mm {f:FuncId} {vf:VFunc} (hf:prog f=some vf) {args:List VVal} {H:List Ob} {Q:VVal × List Ob->Prop} (h:wp (BX V vf args H) Q):∃ r,V f args H=some r/\Q r:=by
 obtain ⟨a,e,q⟩:=h
 exact ⟨a,Hn hf e,q⟩
def zcY (L:List Int) (t:Tr) (n:Nat) (r:VVal × List Ob):Prop:=∃ (x:Dv) (b:Nat),r=(x.vv,[AV L b])/\DvOk t x/\x.now<=n/\x.queue.length+x.flights.length<=n
theorem zbI (L:List Int) (a:Nat) {t:Tr} (h:TreeOk t) (n:Nat) (hn:n<=100) (hL:L.length<4611686018427387904):∃ (x:Dv) (b:Nat),V 22 [.ptr (.arg 0 0) 0 0,t.vv,.p (.int .i64 n)] [AV L a]=some (x.vv,[AV L b])/\DvOk t x/\x.now<=n/\x.queue.length+x.flights.length<=n:=by
 suffices hw:wp (BX V vf22 [.ptr (.arg 0 0) 0 0,t.vv,.p (.int .i64 n)] [AV L a]) (zcY L t n) by
  obtain ⟨r,hr,x,b,e,h1⟩:=Mm (f:=22) rfl hw
  subst e
  exact ⟨x,b,hr,h1⟩
 have hlen:=h.len
 obtain ⟨m,speed,margin,a1,c1,hcok⟩:=zaB L a hL
 have c2:=Yi m speed margin hcok
 have hD:=zbx h hcok
 have c3:=CP L a1 (n+1) hL (by omega)
 have n0:=Cl L a1 ((n:Int)+1)
 have n1:=Cm L a1 (n:=(n:Int)+1) (by omega)
 generalize Af L a1 ((n:Int)+1)=a2 at c3
 generalize AA L a1 ((n:Int)+1)=v at c3 n0 n1
 obtain ⟨N,rfl⟩:∃ N:Nat,v=N:=⟨v.toNat,by omega⟩
 refine w3 c1 c2 c3 ?_
 obtain ⟨I,hI⟩:=lpI fun k s=>∃ (x:Dv) (b:Nat),DvOk t x/\x.now<=k/\x.queue.length+x.flights.length<=k/\s.pe 0=.ptr (Id.arg 0 0) 0 0/\s.pe 4=.ptr (.slot 4 0) 0 0/\s.pe 6=.ptr (.slot 6 0) 0 0/\s.pe 7=.ptr (.slot 7 0) 0 0/\s.pe 9=.p (.int .i64 ((N:Int) - k))/\s.h (.arg 0 0)=some (0,Ob.box [.p (AG L),.p (.int .i64 (b:Nat))])/\s.h (.slot 4 0)=some (0,Ob.box [.p (An t.nodes),.p (.int .i64 t.next)])/\s.h (.slot 6 0)=some (0,Ob.box [.p (.int .i64 0),.p (.int .i64 0),.p (.int .i64 0),.p (.int .i64 0),.p (.int .i64 0),.p (.int .i64 0),.p (.int .i64 0),.p (.int .i64 0),.p (.int .i64 0),.p (.int .i64 0),.own (.slot 6 11) 0 0 0,.own (.slot 6 12) 0 0 0,.own (.slot 6 13) 0 0 0,.own (.slot 6 14) 0 0 0,.own (.slot 6 15) 0 0 0,.own (.slot 6 16) 0 0 0])/\∃ X,s.h (.slot 7 0)=some (0,Ob.box X)/\X.map (fz0 [10,15,32,46,58] s.h)=dvC x
 refine Aj (N) I ?_ ?_
 ·refine (hI _ _).2 ⟨EA m speed margin,a2,?_⟩
  and_intros
  ·exact hD
  ·exact by simp
  ·exact by simp
  all_goals (have hZ:=@lma Nat Nat;exact zq1)
 intro k s hk hIk
 obtain ⟨x,b,hx,hxn,hxq,h0,h4,h6,h7,h9,ha0,hh4_0,hh6_0,hX⟩:=(hI _ _).1 hIk
 clear hIk
 obtain ⟨X,hX⟩:=hX
 have hs:=Db hx
 refine w9 h0 h4 h6 h7 h9 ha0 hh4_0 hh6_0 hX ?_
 refine Ae (fun hlt=>?_) (fun hge=>?_)
 ·have c4:=CP L b 5 hL (by omega)
  have n2:=Cl L b 5
  have n3:=Cm L b (n:=5) (by omega)
  generalize Af L b 5=b1 at c4
  generalize AA L b 5=w at c4 n2 n3
  by_cases w0:w=0
  ·have w0':decide (w=0)=true:=decide_eq_true w0
   have c5:=Qr L b1 t hL (by omega)
   generalize F5 L b1 t.nodes=gd at c5
   obtain ⟨g,b2⟩:=gd
   simp only at c5
   obtain ⟨s,b3,c6,hsg⟩:=Q3 L b2 hL
   cases hk:Ag t.nodes g with
   | true =>
    have c7:=QJ (dev:=0) hx hs hk hsg
    have hok:=QI hx hk hsg
    have e1:(Ey x g s).now=x.now:=rfl
    have e2:(Ey x g s).queue=x.queue:=rfl
    have e3:(Ey x g s).flights=x.flights:=rfl
    generalize Ey x g s=z at c7 hok e1 e2 e3
    simp -implicitDefEqProofs (disch:=omega) only [h0,h4,h6,h7,h9,ha0,hh4_0,hh6_0,hX,hlt,c4,w0',c5,c6,c7,go_sem]
    try refine ai ?_
    refine (hI _ _).2 ⟨z,b3,?_⟩
    and_intros
    ·exact hok
    ·exact by rw [e1];omega
    ·exact by rw [e2,e3];omega
    all_goals (have hZ:=zA h0 (zA h4 (zA h6 (zA h7 (zA h9 (zA ha0 (zA hh4_0 (zA hh6_0 hX)))))));exact zq1)
   | false =>
    have c7:=PZ (dev:=0) (s:=s) hx hs hk
    have d4:decide ((4:Int)=0)=false:=rfl
    simp -implicitDefEqProofs (disch:=omega) only [h0,h4,h6,h7,h9,ha0,hh4_0,hh6_0,hX,hlt,c4,w0',c5,c6,c7,d4,go_sem]
    try refine ai ?_
    refine (hI _ _).2 ⟨x,b3,?_⟩
    and_intros
    ·exact hx
    ·omega
    ·omega
    all_goals (have hZ:=zA h0 (zA h4 (zA h6 (zA h7 (zA h9 (zA ha0 (zA hh4_0 (zA hh6_0 hX)))))));exact zq1)
  ·obtain ⟨r,b2,c5,hr1,hr2⟩:=Ol L b1 h hL
   by_cases w1:w=1 \/ w=2
   ·have c6:=O6 hx hs hr1 hr2 (by omega)
    have hok:=za7 hx hr1 hr2 (by omega)
    have e1:(DL x r).now=x.now:=rfl
    have e2:(DL x r).queue.length=x.queue.length+1:=by rw [lla,List.length_singleton]
    have e3:(DL x r).flights=x.flights:=rfl
    generalize DL x r=z at c6 hok e1 e2 e3
    rcases w1 with w1|w1
    ·have w1':decide (w=1)=true:=decide_eq_true w1
     simp -implicitDefEqProofs (disch:=omega) only [h0,h4,h6,h7,h9,ha0,hh4_0,hh6_0,hX,hlt,c4,w0,w1',c5,c6,go_sem]
     try refine ai ?_
     refine (hI _ _).2 ⟨z,b2,?_⟩
     and_intros
     .exact hok
     .exact by rw [e1];omega
     .exact by rw [e2,e3];omega
     all_goals (have hZ:=zA h0 (zA h4 (zA h6 (zA h7 (zA h9 (zA ha0 (zA hh4_0 (zA hh6_0 hX)))))));exact zq1)
    ·have w1':decide (w=2)=true:=decide_eq_true w1
     have w2':decide (w=1)=false:=decide_eq_false (by omega)
     simp -implicitDefEqProofs (disch:=omega) only [h0,h4,h6,h7,h9,ha0,hh4_0,hh6_0,hX,hlt,c4,w0,w2',w1',c5,c6,go_sem]
     try refine ai ?_
     refine (hI _ _).2 ⟨z,b2,?_⟩
     and_intros
     .exact hok
     .exact by rw [e1];omega
     .exact by rw [e2,e3];omega
     all_goals (have hZ:=zA h0 (zA h4 (zA h6 (zA h7 (zA h9 (zA ha0 (zA hh4_0 (zA hh6_0 hX)))))));exact zq1)
   ·have w1':decide (w=1)=false:=decide_eq_false (by omega)
    have w2':decide (w=2)=false:=decide_eq_false (by omega)
    have c6:=PY hx hs (by omega)
    have hok:=PP hx (by omega)
    have hkp:=(V8 t x).1
    have hcn:=V9 t x
    generalize Bx t x=z at c6 hok hkp hcn
    simp -implicitDefEqProofs (disch:=omega) only [h0,h4,h6,h7,h9,ha0,hh4_0,hh6_0,hX,hlt,c4,w0,w1',w2',c6,go_sem]
    try refine ai ?_
    refine (hI _ _).2 ⟨z,b1,?_⟩
    and_intros
    .exact hok
    .exact by rw [hkp];omega
    .omega
    all_goals (have hZ:=zA h0 (zA h4 (zA h6 (zA h7 (zA h9 (zA ha0 (zA hh4_0 (zA hh6_0 hX)))))));exact zq1)
 ·refine w10 h0 h4 h6 h7 h9 ha0 hh4_0 hh6_0 hX hge ?_
  exact ⟨x,b,rfl,hx,by omega,by omega⟩
def Mn (ok:Bool) (r:VVal × List Ob):Prop:=∃ v,r=(.p (.bool v),[])/\(v=true->ok=true)
theorem A8 (ok:Bool):Mn ok (.p (.bool false),[]):=⟨false,rfl,fun h=>by cases h⟩
theorem bq_of {ok v:Bool} (h:v=true->ok=true):Mn ok (.p (.bool v),[]):=⟨v,rfl,h⟩
theorem FT {f:FuncId} {vf:VFunc} (hf:prog f=some vf) {args:List VVal} {ok:Bool} (h1:ok=true->V f args []=some (.p (.bool true),[])) (h2:wp (BX V vf args []) (Mn ok)):V f args []=some (.p (.bool ok),[]):=by
 obtain ⟨r,hr,v,rfl,hv⟩:=Mm hf h2
 cases ok with
 | true=>exact h1 rfl
 | false =>
  cases v with
  | true=>exact absurd (hv rfl) (by decide)
  | false=>exact hr
theorem NJ (b:Bk):V 153 [b.vv] []=some (.p (.bool (BH b)),[]):=by
 refine FT (vf:=vf153) rfl (GA b) ?_
 by_cases hbp:(0<=b.burst/\b.burst<=1073741824)/\1<=b.per/\b.per<=1048576
 ·have m:=BZ hbp.1.1 hbp.1.2 (show 0<=b.per by omega) hbp.2.2
  refine w0 ?_
  repeat' ((first|refine AM ?_ ?_|refine AL ?_ ?_|refine AP ?_ ?_|refine AO ?_ ?_|refine AJ ?_ ?_|refine AI ?_ ?_|refine AN ?_ ?_|refine AK ?_ ?_|refine Ae ?_ ?_|refine AR ?_ ?_)<;>intro hb<;>simp -implicitDefEqProofs (disch:=omega) only [hb,go_sem])
  all_goals first
   | exact A8 _
   | (refine bq_of fun h=>?_;rw [Bc,show (maxR:Int)=4611686018427387904 from rfl];simp only [decide_eq_true_eq] at *;omega)
 ·refine w0 ?_
  repeat' ((first|refine AM ?_ ?_|refine AL ?_ ?_|refine AP ?_ ?_|refine AO ?_ ?_|refine AJ ?_ ?_|refine AI ?_ ?_|refine AN ?_ ?_|refine AK ?_ ?_|refine Ae ?_ ?_|refine AR ?_ ?_)<;>intro hb<;>simp -implicitDefEqProofs (disch:=omega) only [hb,go_sem])
  all_goals first
   | exact A8 _
   | (refine bq_of fun h=>?_;rw [Bc,show (maxR:Int)=4611686018427387904 from rfl];simp only [decide_eq_true_eq] at *;omega)
theorem Oi (r:Rq):V 194 [r.vv] []=some (.p (.bool (Aw r)),[]):=by
 refine FT (vf:=vf194) rfl (IZ r) ?_
 refine w0 ?_
 repeat' ((first|refine AM ?_ ?_|refine AL ?_ ?_|refine AP ?_ ?_|refine AO ?_ ?_|refine AJ ?_ ?_|refine AI ?_ ?_|refine AN ?_ ?_|refine AK ?_ ?_|refine Ae ?_ ?_|refine AR ?_ ?_)<;>intro hb<;>simp -implicitDefEqProofs (disch:=omega) only [hb,go_sem])
 all_goals first
  | exact A8 _
  | (refine bq_of fun h=>?_;rw [CL];simp only [decide_eq_true_eq] at *;omega)
theorem ZL (m:Mdl):V 101 [m.vv] []=some (.p (.bool (B7 m)),[]):=by
 refine FT (vf:=vf101) rfl (LL m) ?_
 obtain ⟨l,hll⟩:∃ l:List Int,l=[m.rb,m.rp,m.wb,m.wp,m.seek]:=⟨_,rfl⟩
 have h5:l.length=5:=by rw [hll];rfl
 refine w0 ?_
 obtain ⟨I,hI⟩:=lpI fun k s=>(∀ (i:Nat) (x:Int),i<k->l[i]?=some x->0<=x/\x<=1000000)/\s.pe 3=.own (.slot 15 0) 0 0 5/\s.pe 4=.p (.int .i64 k)/\s.h (.slot 15 0)=some (0,Ob.arr 1 [PV.int IntKind.i64 m.rb,PV.int IntKind.i64 m.rp,PV.int IntKind.i64 m.wb,PV.int IntKind.i64 m.wp,PV.int IntKind.i64 m.seek])
 refine Aj (5) I ?_ ?_
 ·refine (hI _ _).2 ?_
  and_intros
  ·omega
  all_goals exact cl4
 intro k s hk hIk
 obtain ⟨hall,hH⟩:=(hI _ _).1 hIk
 clear hIk
 refine w1 hH ?_
 refine Ae (fun hlt=>?_) (fun hge=>?_)
 ·have hm:l[k]?=some l[k]:=lgg (by omega)
  generalize l[k]=x at hm
  have hgx:([PV.int IntKind.i64 m.rb,PV.int IntKind.i64 m.rp,PV.int IntKind.i64 m.wb,PV.int IntKind.i64 m.wp,PV.int IntKind.i64 m.seek]:List PV)[k]?=some (.int .i64 x):=by
   rw [show ([PV.int IntKind.i64 m.rb,PV.int IntKind.i64 m.rp,PV.int IntKind.i64 m.wb,PV.int IntKind.i64 m.wp,PV.int IntKind.i64 m.seek]:List PV)=l.map (PV.int .i64) by rw [hll];rfl,List.getElem?_map,hm]
   rfl
  have hs:0<=x/\x<=1000000->∀ (i:Nat) (y:Int),i<k+1->l[i]?=some y->0<=y/\y<=1000000:=fun hx i y hi hy=>by
   rcases Nat.lt_succ_iff_lt_or_eq.1 hi with h|rfl
   ·exact hall i y h hy
   ·rw [hm] at hy
    cases hy
    exact hx
  by_cases b1:x<0
  ·refine w4 hH hlt hgx b1 ?_
   exact A8 _
  ·by_cases b2:1000000<x
   ·refine w5 hH hlt hgx b1 b2 ?_
    exact A8 _
   ·simp -implicitDefEqProofs (disch:=omega) only [hH,hlt,hgx,b1,b2,go_sem]
    try refine ai ?_
    refine (hI _ _).2 ?_
    and_intros
    .exact hs ⟨by omega,by omega⟩
    all_goals exact cl4
 ·refine w2 hH hge ?_
  refine bq_of fun _=>?_
  subst hll
  have g:=fun i x h1 h2=>hall i x (by omega) h2
  rw [E5]
  exact ⟨hall 0 _ (by omega) rfl,hall 1 _ (by omega) rfl,hall 2 _ (by omega) rfl,hall 3 _ (by omega) rfl,hall 4 _ (by omega) rfl⟩
theorem ZH (m:Mdl) (speed margin:Int):V 47 [FD m speed margin] []=some (.p (.bool (Dc m speed margin)),[]):=by
 refine FT (vf:=vf47) rfl (QL m speed margin) ?_
 have i0:=ZL m
 cases hm:B7 m with
 | false =>
  rw [hm] at i0
  refine w1 i0 ?_
  exact A8 _
 | true =>
  rw [hm] at i0
  refine w1 i0 ?_
  repeat' ((first|refine AM ?_ ?_|refine AL ?_ ?_|refine AP ?_ ?_|refine AO ?_ ?_|refine AJ ?_ ?_|refine AI ?_ ?_|refine AN ?_ ?_|refine AK ?_ ?_|refine Ae ?_ ?_|refine AR ?_ ?_)<;>intro hb<;>simp -implicitDefEqProofs (disch:=omega) only [hb,go_sem])
  all_goals first
   | exact A8 _
   | (refine bq_of fun h=>?_;rw [Ec];simp only [decide_eq_true_eq] at *;exact ⟨hm,by omega,by omega,by omega⟩)
theorem GP {t:Tr} (ht:TreeOk t) (id:Int):V 83 [t.vv,.p (.int .i64 id)] []=some (.p (.bool (Ag t.nodes id)),[]):=by
 cases hk:Ag t.nodes id with
 | true=>exact Ed ht hk
 | false=>exact P1 ht hk
theorem P0 {t:Tr} (ht:TreeOk t) (r:Rq):V 154 [t.vv,r.vv] []=some (.p (.bool (Aw r && Ag t.nodes r.group)),[]):=by
 refine Ac (vf:=vf154) rfl ?_
 have i0:=Oi r
 have i1:=GP ht r.group
 cases h0:Aw r with
 | false =>
  rw [h0] at i0
  simp -implicitDefEqProofs (disch:=omega) only [vf154,JL,i0,bfa,go_sem]
 | true =>
  rw [h0] at i0
  simp -implicitDefEqProofs (disch:=omega) only [vf154,JL,i0,i1,bta,go_sem]
theorem FV {α:Type} {R:α->α->Prop} (tr:∀ a b c,R a b->R b c->R a c) {l:List α} {k:Nat} {c:α} (h:(l.take k).Pairwise R) (hm:l[k]?=some c) (hp:(0:Int)<k->∃ e,l[((k:Int) - 1).toNat]?=some e/\R e c):(l.take (k+1)).Pairwise R:=by
 rw [Bt hm]
 refine List.pairwise_append.2 ⟨h,List.pairwise_singleton _ _,fun x hx y hy=>?_⟩
 rw [List.mem_singleton] at hy
 subst hy
 cases k with
 | zero=>simp at hx
 | succ k =>
  obtain ⟨e,he,hr⟩:=hp (by omega)
  rw [show (((k+1:Nat):Int) - 1).toNat=k by omega] at he
  rw [Bt he] at hx h
  rcases lmp.1 hx with hx|hx
  ·exact tr _ _ _ ((List.pairwise_append.1 h).2.2 x hx e (List.mem_singleton.2 rfl)) hr
  ·rw [List.mem_singleton] at hx
   subst hx
   exact hr
theorem D1 {α:Type} {p:α->Prop} {l:List α} {k:Nat} {c:α} (h:∀ x∈l.take k,p x) (hm:l[k]?=some c) (hc:p c):∀ x∈l.take (k+1),p x:=by
 rw [Bt hm]
 intro x hx
 rcases lmp.1 hx with hx|hx
 ·exact h x hx
 ·rw [List.mem_singleton] at hx
  subst hx
  exact hc
theorem Jh {α:Type} {l:List α} {k:Nat} {c:α} (hm:l[k]?=some c) (hk:(0:Int)<k):∃ e,l[((k:Int) - 1).toNat]?=some e:=by
 have:=(lgs.1 hm).1
 exact ⟨_,lgg (show ((k:Int) - 1).toNat<l.length by omega)⟩
theorem In {α:Type} (g:α->Int):∀ a b c:α,g a<g b->g b<g c->g a<g c:=fun _ _ _ h1 h2=>Int.lt_trans h1 h2
theorem T2 {α:Type} (g:α->Int):∀ a b c:α,g a<=g b->g b<=g c->g a<=g c:=fun _ _ _ h1 h2=>Int.le_trans h1 h2
theorem ZK (t:Tr) (l:List Ch) (hn:t.nodes.length<1000000) (hl:l.length<1000000):V 151 [t.vv,.p (Ap l)] []=some (.p (.bool (EW t l)),[]):=by
 refine FT (vf:=vf151) rfl (fun h=>LK ((Gz t l).1 h).1 ((Gz t l).1 h).2 hl) ?_
 have hc:=Fa t hn
 cases ht:AX t with
 | false =>
  rw [ht] at hc
  refine w1 hc ?_
  exact A8 _
 | true =>
  rw [ht] at hc
  have hT:=(Bo t).1 ht
  refine w1 hc ?_
  obtain ⟨I,hI⟩:=lpI fun k s=>(∀ c∈l.take k,Ag t.nodes c.group=true/\1<=c.own/\c.own<=10000)/\((l.take k).Pairwise fun a b=>a.group<b.group)/\s.pe 1=.p (Ap l)/\s.pe 2=.ptr (.slot 2 0) 0 0/\s.pe 5=.p (.int .i64 k)/\s.h (.slot 2 0)=some (0,Ob.box [.p (An t.nodes),.p (.int .i64 t.next)])
  refine Aj (l.length) I ?_ ?_
  ·refine (hI _ _).2 ?_
   and_intros
   ·exact by simp
   ·exact List.Pairwise.nil
   all_goals exact cl4
  intro k s hk hIk
  obtain ⟨hall,hpw,hH⟩:=(hI _ _).1 hIk
  clear hIk
  refine w1 hH ?_
  refine Ae (fun hlt=>?_) (fun hge=>?_)
  ·have hm:l[k]?=some l[k]:=lgg hlt
   generalize l[k]=c at hm
   have hfi:=GP hT c.group
   cases hkn:Ag t.nodes c.group with
   | false =>
    rw [hkn] at hfi
    refine w4 hH hlt hm hfi ?_
    exact A8 _
   | true =>
    rw [hkn] at hfi
    by_cases hk0:(0:Int)<k
    ·obtain ⟨e,he⟩:=Jh hm hk0
     have hk1:(0:Int)<=(k:Int) - 1:=by omega
     refine w7 hH hlt hm hfi hk0 hk1 he ?_
     repeat' ((first|refine AM ?_ ?_|refine AL ?_ ?_|refine AP ?_ ?_|refine AO ?_ ?_|refine AJ ?_ ?_|refine AI ?_ ?_|refine AN ?_ ?_|refine AK ?_ ?_|refine Ae ?_ ?_|refine AR ?_ ?_)<;>intro hb<;>simp -implicitDefEqProofs (disch:=omega) only [hb,hH,hlt,hm,hfi,hk0,hk1,he,go_sem])
     all_goals first
      | exact A8 _
      | skip
     try refine ai ?_
     refine (hI _ _).2 ?_
     and_intros
     ·exact D1 hall hm ⟨hkn,by omega,by omega⟩
     ·exact FV (In _) hpw hm fun _=>⟨e,he,by omega⟩
     all_goals exact cl4
    ·refine w5 hH hlt hm hfi hk0 ?_
     repeat' ((first|refine AM ?_ ?_|refine AL ?_ ?_|refine AP ?_ ?_|refine AO ?_ ?_|refine AJ ?_ ?_|refine AI ?_ ?_|refine AN ?_ ?_|refine AK ?_ ?_|refine Ae ?_ ?_|refine AR ?_ ?_)<;>intro hb<;>simp -implicitDefEqProofs (disch:=omega) only [hb,hH,hlt,hm,hfi,hk0,go_sem])
     all_goals first
      | exact A8 _
      | skip
     try refine ai ?_
     refine (hI _ _).2 ?_
     and_intros
     .exact D1 hall hm ⟨hkn,by omega,by omega⟩
     .exact FV (In _) hpw hm fun h=>absurd h hk0
     all_goals exact cl4
  ·rw [ltl (by omega)] at hall hpw
   refine w2 hH hge ?_
   exact bq_of fun _=>(Gz t l).2 ⟨hT,fun c hc=>(hall c hc).1,hpw,fun c hc=>(hall c hc).2⟩
theorem ZJ (t:Tr) (l:List Dp) (hn:t.nodes.length<1000000) (hl:l.length<1000000):V 152 [t.vv,.p (BJ l)] []=some (.p (.bool (AX t && BT (Ag t.nodes) none l)),[]):=by
 refine FT (vf:=vf152) rfl (fun h=>LJ ((Bo t).1 (Bool.and_eq_true_iff.1 h).1) (Bool.and_eq_true_iff.1 h).2 hl) ?_
 have hc:=Fa t hn
 cases ht:AX t with
 | false =>
  rw [ht] at hc
  refine w1 hc ?_
  exact A8 _
 | true =>
  rw [ht] at hc
  have hT:=(Bo t).1 ht
  refine w1 hc ?_
  obtain ⟨I,hI⟩:=lpI fun k s=>(∀ c∈l.take k,Ag t.nodes c.group=true/\(0<=c.target/\c.target<=1048576)/\1<=c.depth/\c.depth<=256)/\((l.take k).Pairwise fun a b=>a.group<b.group)/\s.pe 1=.p (BJ l)/\s.pe 2=.ptr (.slot 2 0) 0 0/\s.pe 5=.p (.int .i64 k)/\s.h (.slot 2 0)=some (0,Ob.box [.p (An t.nodes),.p (.int .i64 t.next)])
  refine Aj (l.length) I ?_ ?_
  ·refine (hI _ _).2 ?_
   and_intros
   ·exact by simp
   ·exact List.Pairwise.nil
   all_goals exact cl4
  intro k s hk hIk
  obtain ⟨hall,hpw,hH⟩:=(hI _ _).1 hIk
  clear hIk
  refine w1 hH ?_
  refine Ae (fun hlt=>?_) (fun hge=>?_)
  ·have hm:l[k]?=some l[k]:=lgg hlt
   generalize l[k]=c at hm
   have hfi:=GP hT c.group
   cases hkn:Ag t.nodes c.group with
   | false =>
    rw [hkn] at hfi
    refine w4 hH hlt hm hfi ?_
    exact A8 _
   | true =>
    rw [hkn] at hfi
    by_cases hk0:(0:Int)<k
    ·obtain ⟨e,he⟩:=Jh hm hk0
     have hk1:(0:Int)<=(k:Int) - 1:=by omega
     refine w7 hH hlt hm hfi hk0 hk1 he ?_
     repeat' ((first|refine AM ?_ ?_|refine AL ?_ ?_|refine AP ?_ ?_|refine AO ?_ ?_|refine AJ ?_ ?_|refine AI ?_ ?_|refine AN ?_ ?_|refine AK ?_ ?_|refine Ae ?_ ?_|refine AR ?_ ?_)<;>intro hb<;>simp -implicitDefEqProofs (disch:=omega) only [hb,hH,hlt,hm,hfi,hk0,hk1,he,go_sem])
     all_goals first
      | exact A8 _
      | skip
     try refine ai ?_
     refine (hI _ _).2 ?_
     and_intros
     ·exact D1 hall hm ⟨hkn,by omega,by omega⟩
     ·exact FV (In _) hpw hm fun _=>⟨e,he,by omega⟩
     all_goals exact cl4
    ·refine w5 hH hlt hm hfi hk0 ?_
     repeat' ((first|refine AM ?_ ?_|refine AL ?_ ?_|refine AP ?_ ?_|refine AO ?_ ?_|refine AJ ?_ ?_|refine AI ?_ ?_|refine AN ?_ ?_|refine AK ?_ ?_|refine Ae ?_ ?_|refine AR ?_ ?_)<;>intro hb<;>simp -implicitDefEqProofs (disch:=omega) only [hb,hH,hlt,hm,hfi,hk0,go_sem])
     all_goals first
      | exact A8 _
      | skip
     try refine ai ?_
     refine (hI _ _).2 ?_
     and_intros
     .exact D1 hall hm ⟨hkn,by omega,by omega⟩
     .exact FV (In _) hpw hm fun h=>absurd h hk0
     all_goals exact cl4
  ·rw [ltl (by omega)] at hall hpw
   refine w2 hH hge ?_
   exact bq_of fun _=>LX hall hpw fun q hq=>by cases hq
theorem HP (t:Tr) (x:Dv) (hn:t.nodes.length<1000000) (hs:x.Small):V 84 [t.vv,x.vv] []=some (.p (.bool (DC t x)),[]):=by
 refine FT (vf:=vf84) rfl (fun h=>H0 (dvOk_iff.1 h) hs) ?_
 obtain ⟨hs1,hs2,hs3,hs4,hs5,hs6⟩:=id hs
 have hc:=Fa t hn
 have cf:=ZH x.m x.speed x.margin
 have cw:=ZK t x.weights hn hs1
 have cd:=ZJ t x.depths hn hs3
 have cv:=IN t x.v hn hs4
 cases c0:AX t with
 | false =>
  rw [c0] at hc
  refine w1 hc ?_
  exact A8 _
 | true =>
 rw [c0] at hc
 rw [c0,bta] at cd
 have hT:=(Bo t).1 c0
 cases c1:Dc x.m x.speed x.margin with
 | false =>
  rw [c1] at cf
  refine w2 hc cf ?_
  exact A8 _
 | true =>
 rw [c1] at cf
 by_cases hnum:(0<=x.now/\x.now<=1048576)/\(0<=x.free/\x.free<=1125899906842624)/\0<=x.head/\x.head<=16777216
 rotate_left
 ·generalize EW t x.weights=b1 at cw
  generalize BT (Ag t.nodes) none x.depths=b2 at cd
  generalize BM t x.v=b3 at cv
  refine w5 hc cf cw cd cv ?_
  repeat' ((first|refine AM ?_ ?_|refine AL ?_ ?_|refine AP ?_ ?_|refine AO ?_ ?_|refine AJ ?_ ?_|refine AI ?_ ?_|refine AN ?_ ?_|refine AK ?_ ?_|refine Ae ?_ ?_|refine AR ?_ ?_)<;>intro hb<;>simp -implicitDefEqProofs (disch:=omega) only [hb,hc,cf,cw,cd,cv,go_sem])
  all_goals first
   | exact A8 _
   | (exfalso;omega)
 have n1:¬ x.now<0:=by omega
 have n2:¬ 1048576<x.now:=by omega
 have n3:¬ x.free<0:=by omega
 have n4:¬ 1125899906842624<x.free:=by omega
 have n5:¬ x.head<0:=by omega
 have n6:¬ 16777216<x.head:=by omega
 cases c2:EW t x.weights with
 | false =>
  rw [c2] at cw
  refine w9 hc cf cw n1 n2 n3 n4 n5 n6 ?_
  exact A8 _
 | true =>
 rw [c2] at cw
 cases c3:BT (Ag t.nodes) none x.depths with
 | false =>
  rw [c3] at cd
  refine w10 hc cf cw cd n1 n2 n3 n4 n5 n6 ?_
  exact A8 _
 | true =>
 rw [c3] at cd
 cases c4:BM t x.v with
 | false =>
  rw [c4] at cv
  refine w11 hc cf cw cd cv n1 n2 n3 n4 n5 n6 ?_
  exact A8 _
 | true =>
 rw [c4] at cv
 by_cases hl:(256:Int)<(x.queue.length:Int)+(x.flights.length:Int)
 ·simp -implicitDefEqProofs (disch:=omega) only [vf84,Ij,hc,cf,cw,cd,cv,n1,n2,n3,n4,n5,n6,hl,go_sem]
  exact A8 _
 have hvA:AscOk (Ag t.nodes) 0 1152921504606846976 x.v:=by
  unfold BM at c4
  rw [c0,bta] at c4
  exact (EQ _ _ _ _).1 c4
 simp -implicitDefEqProofs (disch:=omega) only [vf84,Ij,hc,cf,cw,cd,cv,n1,n2,n3,n4,n5,n6,hl,go_sem]
 obtain ⟨I,hI⟩:=lpI fun k s=>(∀ c∈x.buckets.take k,Ag t.nodes c.group=true/\Br x.now c=true)/\((x.buckets.take k).Pairwise fun a b=>a.group<b.group)/\s.pe 2=.ptr (.slot 2 0) 0 0/\s.pe 3=.ptr (.slot 3 0) 0 0/\s.pe 5=.p (.int .i64 k)/\s.h (.slot 2 0)=some (0,Ob.box [.p (An t.nodes),.p (.int .i64 t.next)])/\s.h (.slot 3 0)=some (0,Ob.box (dvC x))
 refine Aj (x.buckets.length) I ?_ ?_
 ·refine (hI _ _).2 ?_
  and_intros
  ·exact by simp
  ·exact List.Pairwise.nil
  all_goals exact cl4
 intro k s hk hIk
 obtain ⟨hall,hpw,h2,h3,h5,hh2_0,hh3_0⟩:=(hI _ _).1 hIk
 clear hIk
 refine w5 h2 h3 h5 hh2_0 hh3_0 ?_
 refine Ae (fun hlt=>?_) (fun hge=>?_)
 ·have hm:x.buckets[k]?=some x.buckets[k]:=lgg hlt
  generalize x.buckets[k]=c at hm
  have hfi:=GP hT c.group
  have i4:=H6 c
  cases hkn:Ag t.nodes c.group with
  | false =>
   rw [hkn] at hfi
   simp -implicitDefEqProofs (disch:=omega) only [h2,h3,h5,hh2_0,hh3_0,hlt,hm,Cp.pv,hfi,go_sem]
   exact A8 _
  | true =>
  rw [hkn] at hfi
  obtain ⟨B,hB⟩:∃ B,B=([c.rp,c.wp,c.ro,c.wo]:List Bk):=⟨_,rfl⟩
  have hBl:B.length=4:=by rw [hB];rfl
  rw [← hB] at i4
  have hord:((0:Int)<k->∃ e,x.buckets[((k:Int) - 1).toNat]?=some e/\e.group<c.group) \/ ((0:Int)<k/\∃ e,x.buckets[((k:Int) - 1).toNat]?=some e/\c.group<=e.group):=by
   by_cases hk0:(0:Int)<k
   ·obtain ⟨e,he⟩:=Jh hm hk0
    by_cases hlt':e.group<c.group
    ·exact .inl fun _=>⟨e,he,hlt'⟩
    ·exact .inr ⟨hk0,e,he,by omega⟩
   ·exact .inl fun h=>absurd h hk0
  rcases hord with hord|⟨hk0,e,he,hle⟩
  rotate_left
  ·have hk1:(0:Int)<=(k:Int) - 1:=by omega
   simp -implicitDefEqProofs (disch:=omega) only [h2,h3,h5,hh2_0,hh3_0,hlt,hm,Cp.pv,hfi,hk0,hk1,he,hle,go_sem]
   exact A8 _
  have hpw':=FV (In Cp.group) hpw hm hord
  have hor:((0:Int)<k/\∃ e,x.buckets[((k:Int) - 1).toNat]?=some e/\(0:Int)<=(k:Int) - 1/\¬ c.group<=e.group) \/ ¬ (0:Int)<k:=by
   by_cases hk0:(0:Int)<k
   ·obtain ⟨e,he,h1⟩:=hord hk0
    exact .inl ⟨hk0,e,he,by omega,by omega⟩
   ·exact .inr hk0
  rcases hor with ⟨hk0,e,he,hk1,hle⟩|hk0
  ·simp -implicitDefEqProofs (disch:=omega) only [h2,h3,h5,hh2_0,hh3_0,hlt,hm,Cp.pv,hfi,hk0,hk1,he,hle,i4,go_sem]
   obtain ⟨J,hJ⟩:=lpI fun j s=>∃ (v116_1:Nat),(∀ b∈B.take j,AY x.now b=true)/\s.pe 7=.own (.slot 116 1) v116_1 0 B.length/\s.pe 8=.p (.int .i64 j)/\s.h (.slot 116 1)=some (v116_1,Ob.arr 5 (List.map Bk.pv B))/\s.pe 2=.ptr (.slot 2 0) 0 0/\s.pe 3=.ptr (.slot 3 0) 0 0/\s.pe 5=.p (.int .i64 k)/\s.h (.slot 2 0)=some (0,Ob.box [.p (An t.nodes),.p (.int .i64 t.next)])/\s.h (.slot 3 0)=some (0,Ob.box (dvC x))
   refine Aj (B.length) J ?_ ?_
   ·refine (hJ _ _).2 ⟨nv (BS [116] s.h (.slot 116 1)),?_⟩
    and_intros
    ·exact by simp
    all_goals exact cl4
   intro j s hj hJk
   obtain ⟨v116_1,hja,h7,h8,hh116_1,h2,h3,h5,hh2_0,hh3_0⟩:=(hJ _ _).1 hJk
   clear hJk
   refine w8 h7 h8 hh116_1 h2 h3 h5 hh2_0 hh3_0 ?_
   refine Ae (fun hj=>?_) (fun hje=>?_)
   ·have hbm:B[j]?=some B[j]:=lgg hj
    generalize B[j]=b at hbm
    have i5:=NJ b
    cases hv:BH b with
    | false =>
     rw [hv] at i5
     refine w11 h7 h8 hh116_1 h2 h3 h5 hh2_0 hh3_0 hj hbm i5 ?_
     exact A8 _
    | true =>
     rw [hv] at i5
     refine w11 h7 h8 hh116_1 h2 h3 h5 hh2_0 hh3_0 hj hbm i5 ?_
     repeat' ((first|refine AM ?_ ?_|refine AL ?_ ?_|refine AP ?_ ?_|refine AO ?_ ?_|refine AJ ?_ ?_|refine AI ?_ ?_|refine AN ?_ ?_|refine AK ?_ ?_|refine Ae ?_ ?_|refine AR ?_ ?_)<;>intro hb<;>simp -implicitDefEqProofs (disch:=omega) only [hb,h7,h8,hh116_1,h2,h3,h5,hh2_0,hh3_0,hj,hbm,i5,go_sem])
     all_goals first
      | exact A8 _
      | skip
     try refine ai ?_
     refine (hJ _ _).2 ⟨v116_1,?_⟩
     and_intros
     ·exact D1 hja hbm (AE.2 ⟨hv,by first|assumption|omega|simp_all,by first|assumption|omega|simp_all⟩)
     all_goals exact cl4
   ·rw [ltl (by omega),hB] at hja
    simp -implicitDefEqProofs (disch:=omega) only [h7,h8,hh116_1,h2,h3,h5,hh2_0,hh3_0,hje,go_sem]
    try refine ai ?_
    refine (hI _ _).2 ?_
    and_intros
    ·exact D1 hall hm ⟨hkn,Cf.2 ⟨hja _ (by simp),hja _ (by simp),hja _ (by simp),hja _ (by simp)⟩⟩
    ·exact hpw'
    all_goals exact cl4
  ·simp -implicitDefEqProofs (disch:=omega) only [h2,h3,h5,hh2_0,hh3_0,hlt,hm,Cp.pv,hfi,hk0,i4,go_sem]
   obtain ⟨J,hJ⟩:=lpI fun j s=>∃ (v116_1:Nat),(∀ b∈B.take j,AY x.now b=true)/\s.pe 7=.own (.slot 116 1) v116_1 0 B.length/\s.pe 8=.p (.int .i64 j)/\s.h (.slot 116 1)=some (v116_1,Ob.arr 5 (List.map Bk.pv B))/\s.pe 2=.ptr (.slot 2 0) 0 0/\s.pe 3=.ptr (.slot 3 0) 0 0/\s.pe 5=.p (.int .i64 k)/\s.h (.slot 2 0)=some (0,Ob.box [.p (An t.nodes),.p (.int .i64 t.next)])/\s.h (.slot 3 0)=some (0,Ob.box (dvC x))
   refine Aj (B.length) J ?_ ?_
   ·refine (hJ _ _).2 ⟨nv (BS [116] s.h (.slot 116 1)),?_⟩
    and_intros
    ·exact by simp
    all_goals exact cl4
   intro j s hj hJk
   obtain ⟨v116_1,hja,h7,h8,hh116_1,h2,h3,h5,hh2_0,hh3_0⟩:=(hJ _ _).1 hJk
   clear hJk
   refine w8 h7 h8 hh116_1 h2 h3 h5 hh2_0 hh3_0 ?_
   refine Ae (fun hj=>?_) (fun hje=>?_)
   ·have hbm:B[j]?=some B[j]:=lgg hj
    generalize B[j]=b at hbm
    have i5:=NJ b
    cases hv:BH b with
    | false =>
     rw [hv] at i5
     refine w11 h7 h8 hh116_1 h2 h3 h5 hh2_0 hh3_0 hj hbm i5 ?_
     exact A8 _
    | true =>
     rw [hv] at i5
     refine w11 h7 h8 hh116_1 h2 h3 h5 hh2_0 hh3_0 hj hbm i5 ?_
     repeat' ((first|refine AM ?_ ?_|refine AL ?_ ?_|refine AP ?_ ?_|refine AO ?_ ?_|refine AJ ?_ ?_|refine AI ?_ ?_|refine AN ?_ ?_|refine AK ?_ ?_|refine Ae ?_ ?_|refine AR ?_ ?_)<;>intro hb<;>simp -implicitDefEqProofs (disch:=omega) only [hb,h7,h8,hh116_1,h2,h3,h5,hh2_0,hh3_0,hj,hbm,i5,go_sem])
     all_goals first
      | exact A8 _
      | skip
     try refine ai ?_
     refine (hJ _ _).2 ⟨v116_1,?_⟩
     and_intros
     ·exact D1 hja hbm (AE.2 ⟨hv,by first|assumption|omega|simp_all,by first|assumption|omega|simp_all⟩)
     all_goals exact cl4
   ·rw [ltl (by omega),hB] at hja
    simp -implicitDefEqProofs (disch:=omega) only [h7,h8,hh116_1,h2,h3,h5,hh2_0,hh3_0,hje,go_sem]
    try refine ai ?_
    refine (hI _ _).2 ?_
    and_intros
    ·exact D1 hall hm ⟨hkn,Cf.2 ⟨hja _ (by simp),hja _ (by simp),hja _ (by simp),hja _ (by simp)⟩⟩
    ·exact hpw'
    all_goals exact cl4
 ·rw [List.take_of_length_le (by omega)] at hall hpw
  refine w6 h2 h3 h5 hh2_0 hh3_0 hge ?_
  obtain ⟨M,hM⟩:=lpI fun m s=>(∀ r∈x.queue.take m,Aw r=true/\Ag t.nodes r.group=true)/\s.pe 2=.ptr (.slot 2 0) 0 0/\s.pe 3=.ptr (.slot 3 0) 0 0/\s.pe 9=.p (.int .i64 m)/\s.h (.slot 2 0)=some (0,Ob.box [.p (An t.nodes),.p (.int .i64 t.next)])/\s.h (.slot 3 0)=some (0,Ob.box (dvC x))
  refine Aj (x.queue.length) M ?_ ?_
  ·refine (hM _ _).2 ?_
   and_intros
   ·exact by simp
   all_goals exact cl4
  intro m s hm hMk
  obtain ⟨hqa,h2,h3,h9,hh2_0,hh3_0⟩:=(hM _ _).1 hMk
  clear hMk
  refine w5 h2 h3 h9 hh2_0 hh3_0 ?_
  refine Ae (fun hq=>?_) (fun hqe=>?_)
  ·have hm:x.queue[m]?=some x.queue[m]:=lgg hq
   generalize x.queue[m]=r at hm
   have i6:=P0 hT r
   cases hr:(Aw r && Ag t.nodes r.group) with
   | false =>
    rw [hr] at i6
    refine w8 h2 h3 h9 hh2_0 hh3_0 hq hm i6 ?_
    exact A8 _
   | true =>
    rw [hr] at i6
    simp -implicitDefEqProofs (disch:=omega) only [h2,h3,h9,hh2_0,hh3_0,hq,hm,i6,go_sem]
    try refine ai ?_
    refine (hM _ _).2 ?_
    and_intros
    ·exact D1 hqa hm (by simpa using hr)
    all_goals exact cl4
  ·rw [ltl (by omega)] at hqa
   refine w6 h2 h3 h9 hh2_0 hh3_0 hqe ?_
   obtain ⟨N,hN⟩:=lpI fun n s=>(∀ f∈x.flights.take n,(Aw f.r=true/\Ag t.nodes f.r.group=true)/\0<=f.done/\f.done<=1125899906842624)/\((x.flights.take n).Pairwise fun a b=>a.done<=b.done)/\s.pe 2=.ptr (.slot 2 0) 0 0/\s.pe 3=.ptr (.slot 3 0) 0 0/\s.pe 10=.p (.int .i64 n)/\s.h (.slot 2 0)=some (0,Ob.box [.p (An t.nodes),.p (.int .i64 t.next)])/\s.h (.slot 3 0)=some (0,Ob.box (dvC x))
   refine Aj (x.flights.length) N ?_ ?_
   ·refine (hN _ _).2 ?_
    and_intros
    ·exact by simp
    ·exact List.Pairwise.nil
    all_goals exact cl4
   intro n s hn hNk
   obtain ⟨hfa,hfp,h2,h3,h10,hh2_0,hh3_0⟩:=(hN _ _).1 hNk
   clear hNk
   refine w5 h2 h3 h10 hh2_0 hh3_0 ?_
   refine Ae (fun hf=>?_) (fun hfe=>?_)
   ·have hm:x.flights[n]?=some x.flights[n]:=lgg hf
    generalize x.flights[n]=f at hm
    have i6:=P0 hT f.r
    cases hr:(Aw f.r && Ag t.nodes f.r.group) with
    | false =>
     rw [hr] at i6
     simp -implicitDefEqProofs (disch:=omega) only [h2,h3,h10,hh2_0,hh3_0,hf,hm,Fl.pv,i6,go_sem]
     exact A8 _
    | true =>
     rw [hr] at i6
     by_cases hn0:(0:Int)<n
     ·obtain ⟨e,he⟩:=Jh hm hn0
      have hn1:(0:Int)<=(n:Int) - 1:=by omega
      simp -implicitDefEqProofs (disch:=omega) only [h2,h3,h10,hh2_0,hh3_0,hf,hm,Fl.pv,i6,hn0,hn1,he,go_sem]
      repeat' ((first|refine AM ?_ ?_|refine AL ?_ ?_|refine AP ?_ ?_|refine AO ?_ ?_|refine AJ ?_ ?_|refine AI ?_ ?_|refine AN ?_ ?_|refine AK ?_ ?_|refine Ae ?_ ?_|refine AR ?_ ?_)<;>intro hb<;>simp -implicitDefEqProofs (disch:=omega) only [hb,h2,h3,h10,hh2_0,hh3_0,hf,hm,Fl.pv,i6,hn0,hn1,he,go_sem])
      all_goals first
       | exact A8 _
       | skip
      try refine ai ?_
      refine (hN _ _).2 ?_
      and_intros
      ·exact D1 hfa hm ⟨by simpa using hr,by omega,by omega⟩
      ·exact FV (T2 Fl.done) hfp hm fun _=>⟨e,he,by omega⟩
      all_goals exact cl4
     ·simp -implicitDefEqProofs (disch:=omega) only [h2,h3,h10,hh2_0,hh3_0,hf,hm,Fl.pv,i6,hn0,go_sem]
      repeat' ((first|refine AM ?_ ?_|refine AL ?_ ?_|refine AP ?_ ?_|refine AO ?_ ?_|refine AJ ?_ ?_|refine AI ?_ ?_|refine AN ?_ ?_|refine AK ?_ ?_|refine Ae ?_ ?_|refine AR ?_ ?_)<;>intro hb<;>simp -implicitDefEqProofs (disch:=omega) only [hb,h2,h3,h10,hh2_0,hh3_0,hf,hm,Fl.pv,i6,hn0,go_sem])
      all_goals first
       | exact A8 _
       | skip
      try refine ai ?_
      refine (hN _ _).2 ?_
      and_intros
      .exact D1 hfa hm ⟨by simpa using hr,by omega,by omega⟩
      .exact FV (T2 Fl.done) hfp hm fun h=>absurd h hn0
      all_goals exact cl4
   ·rw [ltl (by omega)] at hfa hfp
    refine w6 h2 h3 h10 hh2_0 hh3_0 hfe ?_
    exact bq_of fun _=>dvOk_iff.2 ⟨hT,c1,hnum.1,hnum.2.1,hnum.2.2,((Gz t x.weights).1 c2).2,c3,hvA,by omega,Cn.2 ⟨hall,hpw,fun q hq=>by cases hq⟩,hqa,Eh.2 ⟨hfa,hfp,fun q hq=>by cases hq⟩⟩
instance : El Fl:=⟨Fl.pv,7⟩
theorem elF:(El.pv:Fl->PV)=Fl.pv:=rfl
theorem esF:El.sz Fl=7:=rfl
attribute [go_sem] elF esF
def Hr {α:Type} [El α] (f:FuncId) (l:List α):Prop:=l.length<1000000->V f [.p (.slice (El.sz α) (l.map El.pv)),.p (.slice (El.sz α) (l.map El.pv))] []=some (.p (.bool true),[])
theorem TZ:(∀ l:List Ch,Hr 64 l)/\(∀ l:List Cp,Hr 65 l)/\(∀ l:List Dp,Hr 66 l)/\(∀ l:List Ch,Hr 67 l)/\(∀ l:List Rq,Hr 24 l)/\(∀ l:List Fl,Hr 68 l):=by
 refine ⟨?_,?_,?_,?_,?_,?_⟩<;>intro l hl
 all_goals
  first|refine Ac (vf:=vf64) rfl ?_|refine Ac (vf:=vf65) rfl ?_|refine Ac (vf:=vf66) rfl ?_|refine Ac (vf:=vf67) rfl ?_|refine Ac (vf:=vf24) rfl ?_|refine Ac (vf:=vf68) rfl ?_
  have hd:decide ((l.length:Int)=l.length)=true:=decide_eq_true rfl
  refine w1 hd ?_
  obtain ⟨I,hI⟩:=lpI fun k s=>s.pe 0=.p (.slice (szL l) (l.map El.pv))/\s.pe 1=.p (.slice (szL l) (l.map El.pv))/\s.pe 5=.p (.int .i64 k)
  refine Aj (l.length) I ?_ ?_
  ·refine (hI _ _).2 ⟨?_,?_,?_⟩
   all_goals exact cl4
  intro k s hk hIk
  obtain hH:=(hI _ _).1 hIk
  clear hIk
  refine w1 hH ?_
  refine Ae (fun hlt=>?_) (fun hge=>?_)
  ·have hm:l[k]?=some l[k]:=lgg hlt
   generalize l[k]=r at hm
   simp -implicitDefEqProofs (disch:=omega) only [hH,hlt,hm,Cp.pv,Dp.pv,Rq.pv,Fl.pv,Dt,eq0,beq_self_eq_true,bas,bau,go_sem]
   try refine ai ?_
   refine (hI _ _).2 ⟨?_,?_,?_⟩
   all_goals exact cl4
  .exact z2 hH hge
theorem IY (x:Dv) (hs:x.Small):V 29 [x.vv,x.vv] []=some (.p (.bool true),[]):=by
 refine Ac (vf:=vf29) rfl ?_
 obtain ⟨g1,g2,g3,g4,g5,g6⟩:=TZ
 have i1:=g1 x.weights hs.w
 have i2:=g2 x.buckets hs.b
 have i3:=g3 x.depths hs.p
 have i4:=g4 x.v hs.v
 have i5:=g5 x.queue hs.q
 have i6:=g6 x.flights hs.f
 simp only [elC,elD,elQ,elW,elF,esC,esD,esQ,esW,esF] at i1 i2 i3 i4 i5 i6
 have d1:∀ n:Int,decide (n=n)=true:=fun n=>decide_eq_true rfl
 simp -implicitDefEqProofs (disch:=omega) only [vf29,TL,Dt,eq0,beq_self_eq_true,bas,bau,d1,i1,i2,i3,i4,i5,i6,go_sem]
def OddQ (L:List Int) (r:VVal × List Ob):Prop:=∃ (y:Dv) (b:Nat),r=(y.fv,[AV L b])/\y.Small
theorem ZZ (L:List Int) (a:Nat) (x:Dv) (hL:L.length<4611686018427387904) (h1:x.weights.length<1000) (h2:x.buckets.length<1000) (h3:x.depths.length<1000) (h4:x.v.length<1000) (h5:x.queue.length<1000) (h6:x.flights.length<1000):∃ (y:Dv) (b:Nat),V 30 [.ptr (.arg 0 0) 0 0,x.vv] [AV L a]=some (y.fv,[AV L b])/\y.Small:=by
 suffices hw:wp (BX V vf30 [.ptr (.arg 0 0) 0 0,x.vv] [AV L a]) (OddQ L) by
  obtain ⟨r,hr,y,b,e,h1⟩:=Mm (f:=30) rfl hw
  subst e
  exact ⟨y,b,hr,h1⟩
 have c0:=GB x ⟨by omega,by omega,by omega,by omega,by omega,by omega⟩ (by omega) (by omega)
 have c1:=CP L a 9 hL (by omega)
 have n0:=Cl L a 9
 have n1:=Cm L a (n:=9) (by omega)
 generalize Af L a 9=a1 at c1
 generalize AA L a 9=v at c1 n0 n1
 by_cases v0:v=0
 ·have e0:decide (v=0)=true:=decide_eq_true v0
  have d0:=Bl L a1 [-1,0,1048576,1048577] hL (by decide) (by decide)
  generalize Af L a1 ([-1,0,1048576,1048577]:List Int).length=b0 at d0
  generalize Ba L a1 [-1,0,1048576,1048577]=p0 at d0
  simp only [AG,lpc,lpn] at d0
  refine w4 c0 c1 e0 d0 ?_
  exact ⟨{ x with now:=p0 },b0,rfl,by (constructor<;>(try simp only)<;>omega)⟩
 by_cases v1:v=1
 ·have e1:decide (v=1)=true:=decide_eq_true v1
  have d0:=Bl L a1 [-1,0,1125899906842624,1125899906842625] hL (by decide) (by decide)
  generalize Af L a1 ([-1,0,1125899906842624,1125899906842625]:List Int).length=b0 at d0
  generalize Ba L a1 [-1,0,1125899906842624,1125899906842625]=p0 at d0
  simp only [AG,lpc,lpn] at d0
  refine w5 c0 c1 v0 e1 d0 ?_
  exact ⟨{ x with free:=p0 },b0,rfl,by (constructor<;>(try simp only)<;>omega)⟩
 by_cases v2:v=2
 ·have e2:decide (v=2)=true:=decide_eq_true v2
  have d0:=Bl L a1 [-1,16777216,16777217] hL (by decide) (by decide)
  generalize Af L a1 ([-1,16777216,16777217]:List Int).length=b0 at d0
  generalize Ba L a1 [-1,16777216,16777217]=p0 at d0
  simp only [AG,lpc,lpn] at d0
  refine w6 c0 c1 v0 v1 e2 d0 ?_
  exact ⟨{ x with head:=p0 },b0,rfl,by (constructor<;>(try simp only)<;>omega)⟩
 by_cases v3:v=3
 ·have e3:decide (v=3)=true:=decide_eq_true v3
  have d0:=Bl L a1 [0,1,1000000,1000001] hL (by decide) (by decide)
  generalize Af L a1 ([0,1,1000000,1000001]:List Int).length=b0 at d0
  generalize Ba L a1 [0,1,1000000,1000001]=p0 at d0
  simp only [AG,lpc,lpn] at d0
  refine w7 c0 c1 v0 v1 v2 e3 d0 ?_
  exact ⟨{ x with speed:=p0 },b0,rfl,by (constructor<;>(try simp only)<;>omega)⟩
 by_cases v4:v=4
 ·have e4:decide (v=4)=true:=decide_eq_true v4
  have d0:=Bl L a1 [1,2,9] hL (by decide) (by decide)
  generalize Af L a1 ([1,2,9]:List Int).length=b0 at d0
  generalize Ba L a1 [1,2,9]=p0 at d0
  simp only [AG,lpc,lpn] at d0
  have d1:=Bl L b0 [0,1] hL (by decide) (by decide)
  generalize Af L b0 ([0,1]:List Int).length=b1 at d1
  generalize Ba L b0 [0,1]=p1 at d1
  simp only [AG,lpc,lpn] at d1
  refine w9 c0 c1 v0 v1 v2 v3 e4 d0 d1 ?_
  exact ⟨{ x with weights:=x.weights++[⟨p0,p1⟩] },b1,by simp [Ch.pv],by (constructor<;>simp<;>omega)⟩
 by_cases v5:v=5
 ·have e5:decide (v=5)=true:=decide_eq_true v5
  have d0:=Bl L a1 [-1,0,1125899906842624,1125899906842625] hL (by decide) (by decide)
  generalize Af L a1 ([-1,0,1125899906842624,1125899906842625]:List Int).length=b0 at d0
  generalize Ba L a1 [-1,0,1125899906842624,1125899906842625]=p0 at d0
  simp only [AG,lpc,lpn] at d0
  refine w9 c0 c1 v0 v1 v2 v3 v4 e5 d0 ?_
  exact ⟨{ x with flights:=x.flights++[⟨⟨0,1,0,1,false,0⟩,p0⟩] },b0,by simp [Fl.pv],by (constructor<;>simp<;>omega)⟩
 by_cases v6:v=6
 ·have e6:decide (v=6)=true:=decide_eq_true v6
  have d0:=Bl L a1 [1,9] hL (by decide) (by decide)
  generalize Af L a1 ([1,9]:List Int).length=b0 at d0
  generalize Ba L a1 [1,9]=p0 at d0
  simp only [AG,lpc,lpn] at d0
  have d1:=Bl L b0 [0,1] hL (by decide) (by decide)
  generalize Af L b0 ([0,1]:List Int).length=b1 at d1
  generalize Ba L b0 [0,1]=p1 at d1
  simp only [AG,lpc,lpn] at d1
  refine w11 c0 c1 v0 v1 v2 v3 v4 v5 e6 d0 d1 ?_
  exact ⟨{ x with queue:=x.queue++[⟨0,p0,0,p1,false,0⟩] },b1,by simp [Rq.pv],by (constructor<;>simp<;>omega)⟩
 by_cases v7:v=7
 ·have e7:decide (v=7)=true:=decide_eq_true v7
  have d0:=Bl L a1 [1,9] hL (by decide) (by decide)
  generalize Af L a1 ([1,9]:List Int).length=b0 at d0
  generalize Ba L a1 [1,9]=p0 at d0
  simp only [AG,lpc,lpn] at d0
  refine w11 c0 c1 v0 v1 v2 v3 v4 v5 v6 e7 d0 ?_
  exact ⟨{ x with buckets:=x.buckets++[⟨p0,⟨0,0,0,0,0⟩,⟨0,0,0,0,0⟩,⟨0,0,0,0,0⟩,⟨0,0,0,0,0⟩⟩] },b0,by simp [Cp.pv],by (constructor<;>simp<;>omega)⟩
 refine w10 c0 c1 v0 v1 v2 v3 v4 v5 v6 v7 ?_
 exact ⟨x,a1,rfl,by (constructor<;>(try simp only)<;>omega)⟩
theorem Jc (n:Int) (h:¬ BO n):V 155 [.p (.int .i64 n),.p (.int .i64 1),.p (.int .i64 1073741824)] []=some (.p (.bool false),[]):=by
 refine Ac (vf:=vf155) rfl ?_
 have hmx:maxR=4611686018427387904:=rfl
 have h':¬ n=4611686018427387904:=fun e=>h (.inr e)
 have h2:¬ (1<=n/\n<=1073741824):=fun e=>h (.inl e)
 by_cases h1:1<=n
 ·have h3:¬ n<=1073741824:=by omega
  exact z3 h1 h3 h'
 .exact z2 h1 h'
theorem YV (u:Sg) (h:¬ SgOk u):V 85 [.p (.slice 7 [.agg [.int .i64 0,.int .i64 u.weight,.int .i64 u.rp,.int .i64 u.wp,.int .i64 u.ro,.int .i64 u.wo,.int .i64 u.target]])] []=some (.p (.bool false),[]):=by
 refine Ac (vf:=vf85) rfl ?_
 refine w0 ?_
 obtain ⟨I,hI⟩:=lpI fun k s=>(k=0)/\s.pe 0=.p (PV.slice 7 [PV.agg [PV.int IntKind.i64 0,PV.int IntKind.i64 u.weight,PV.int IntKind.i64 u.rp,PV.int IntKind.i64 u.wp,PV.int IntKind.i64 u.ro,PV.int IntKind.i64 u.wo,PV.int IntKind.i64 u.target]])/\s.pe 3=.p (.int .i64 k)
 refine Aj (1) I ?_ ?_
 ·refine (hI _ _).2 ⟨?_,?_,?_⟩
  ·rfl
  all_goals exact cl4
 intro k s hk hIk
 obtain ⟨hk0,h0,h3⟩:=(hI _ _).1 hIk
 clear hIk
 subst hk0
 have hd:decide ((0:Int)<0)=false:=rfl
 have hd8:decide ((8:Int)<=0)=false:=rfl
 have hz:((0:Nat):Int)=0:=rfl
 have hz1:decide ((0:Int)<((1:Nat):Int))=true:=rfl
 rw [hz] at h3
 by_cases b1:u.weight<1
 ·simp -implicitDefEqProofs (disch:=omega) only [h0,h3,hd,hd8,hz1,b1,Int.toNat_zero,go_sem]
 ·by_cases b2:10000<u.weight
  ·simp -implicitDefEqProofs (disch:=omega) only [h0,h3,hd,hd8,hz1,b1,b2,Int.toNat_zero,go_sem]
  ·by_cases a1:BO u.rp
   ·have a1':=Fc u.rp a1
    by_cases a2:BO u.wp
    ·have a2':=Fc u.wp a2
     by_cases a3:BO u.ro
     ·have a3':=Fc u.ro a3
      by_cases a4:BO u.wo
      ·have a4':=Fc u.wo a4
       by_cases b3:u.target<0
       ·simp -implicitDefEqProofs (disch:=omega) only [h0,h3,hd,hd8,hz1,b1,b2,a1',a2',a3',a4',b3,Int.toNat_zero,go_sem]
       ·by_cases b4:1048576<u.target
        .simp -implicitDefEqProofs (disch:=omega) only [h0,h3,hd,hd8,hz1,b1,b2,a1',a2',a3',a4',b3,b4,Int.toNat_zero,go_sem]
        .exact absurd ⟨⟨by omega,by omega⟩,a1,a2,a3,a4,⟨by omega,by omega⟩⟩ h
      ·have a4':=Jc u.wo a4
       simp -implicitDefEqProofs (disch:=omega) only [h0,h3,hd,hd8,hz1,b1,b2,a1',a2',a3',a4',Int.toNat_zero,go_sem]
     ·have a3':=Jc u.ro a3
      simp -implicitDefEqProofs (disch:=omega) only [h0,h3,hd,hd8,hz1,b1,b2,a1',a2',a3',Int.toNat_zero,go_sem]
    ·have a2':=Jc u.wp a2
     simp -implicitDefEqProofs (disch:=omega) only [h0,h3,hd,hd8,hz1,b1,b2,a1',a2',Int.toNat_zero,go_sem]
   ·have a1':=Jc u.rp a1
    simp -implicitDefEqProofs (disch:=omega) only [h0,h3,hd,hd8,hz1,b1,b2,a1',Int.toNat_zero,go_sem]
def DvW (W:VVal) (y:Dv):Prop:=W=y.fv \/ W=dvF y (.p (Ap y.v))
theorem FR:dvZ.Small:=⟨by decide,by decide,by decide,by decide,by decide,by decide⟩
theorem zbf {t:Tr} {x:Dv} (hf:t.Fits) (hn:t.nodes.length<1000000) (hs:x.Small) (id dev:Int) (s:Sg):∃ (y:Dv) (e:Int) (W:VVal),DvW W y/\y.Small/\V 34 [t.vv,x.vv,.p (.int .i64 id),s.vv dev] []=some (.tup [W,.p (.int .i64 e)],[])/\V 58 [t.vv,x.vv,.p (.int .i64 id),s.vv dev] []=some (.tup [y.fv,.p (.int .i64 e)],[]):=by
 have i0:=EO t x hf hn hs
 have j0:=HP t x hn hs
 cases hv:DC t x with
 | false =>
  rw [hv] at i0 j0
  refine ⟨dvZ,1,_,.inl rfl,FR,Ac (vf:=vf34) rfl ?_,Ac (vf:=vf58) rfl ?_⟩
  ·simp -implicitDefEqProofs (disch:=omega) only [vf34,Il,i0,lpn,go_sem]
   rfl
  ·simp -implicitDefEqProofs (disch:=omega) only [vf58,Ik,j0,lpn,go_sem]
   rfl
 | true =>
  have h:=dvOk_iff.1 hv
  rw [hv] at i0 j0
  have i1:=GM t id hn
  have j1:=GP h.tree id
  cases hk:Ag t.nodes id with
  | false =>
   rw [hk] at i1
   refine ⟨dvZ,4,_,.inl rfl,FR,Ac (vf:=vf34) rfl ?_,PZ h hs hk⟩
   simp -implicitDefEqProofs (disch:=omega) only [vf34,Il,i0,i1,lpn,go_sem]
   rfl
  | true =>
   by_cases hsg:SgOk s
   ·exact ⟨Ey x id s,0,_,.inr rfl,Db (QI h hk hsg),zax h hk hsg dev,QJ h hs hk hsg⟩
   ·have i2:=YV s hsg
    rw [hk] at i1 j1
    refine ⟨dvZ,3,_,.inl rfl,FR,Ac (vf:=vf34) rfl ?_,Ac (vf:=vf58) rfl ?_⟩
    ·simp -implicitDefEqProofs (disch:=omega) only [vf34,Il,i0,i1,i2,lpn,go_sem]
     rfl
    ·simp -implicitDefEqProofs (disch:=omega) only [vf58,Ik,j0,j1,i2,lpn,go_sem]
     rfl
def D7 (t:Tr) (x:Dv) (r:Rq):Int:=if DC t x=true/\Aw { r with time:=0 }=true then (if Ag t.nodes r.group=true then 0 else 4) else 1
theorem Q5 {t:Tr} {x:Dv} (hf:t.Fits) (hn:t.nodes.length<1000000) (hs:x.Small) (r:Rq):V 49 [t.vv,x.vv,r.vv] []=some (.p (.int .i64 (D7 t x r)),[])/\V 134 [t.vv,x.vv,r.vv] []=some (.p (.int .i64 (D7 t x r)),[]):=by
 have i0:=EO t x hf hn hs
 have j0:=HP t x hn hs
 have i1:=Ja { r with time:=0 }
 have j1:=Oi { r with time:=0 }
 have i2:=GM t r.group hn
 unfold D7
 cases hv:DC t x with
 | false =>
  rw [hv] at i0 j0
  rw [if_neg (by simp)]
  refine ⟨Ac (vf:=vf49) rfl ?_,Ac (vf:=vf134) rfl ?_⟩
  ·exact z1 i0
  ·exact z1 j0
 | true =>
  have h:=dvOk_iff.1 hv
  rw [hv] at i0 j0
  have j2:=GP h.tree r.group
  cases hq:Aw { r with time:=0 } with
  | false =>
   rw [hq] at i1 j1
   rw [if_neg (by simp)]
   refine ⟨Ac (vf:=vf49) rfl ?_,Ac (vf:=vf134) rfl ?_⟩
   ·exact z2 i0 i1
   ·exact z2 j0 j1
  | true =>
   rw [hq] at i1 j1
   rw [if_pos ⟨rfl,rfl⟩]
   cases hk:Ag t.nodes r.group with
   | false =>
    rw [hk] at i2 j2
    rw [if_neg (by simp)]
    refine ⟨Ac (vf:=vf49) rfl ?_,Ac (vf:=vf134) rfl ?_⟩
    .exact z3 i0 i1 i2
    .exact z3 j0 j1 j2
   | true =>
    rw [hk] at i2 j2
    rw [if_pos rfl]
    refine ⟨Ac (vf:=vf49) rfl ?_,Ac (vf:=vf134) rfl ?_⟩
    .exact z3 i0 i1 i2
    .exact z3 j0 j1 j2
theorem PF {t:Tr} {x:Dv} {r:Rq} (h:D7 t x r=0):DvOk t x/\Aw { r with time:=0 }=true/\Ag t.nodes r.group=true:=by
 unfold D7 at h
 split at h
 ·rename_i h1
  split at h
  ·rename_i h2
   exact ⟨dvOk_iff.1 h1.1,h1.2,h2⟩
  .cases h
 .cases h
theorem za6 {t:Tr} {x:Dv} (hf:t.Fits) (hn:t.nodes.length<1000000) (hs:x.Small) (r:Rq):∃ (y:Dv) (e:Int) (W:VVal),DvW W y/\y.Small/\V 17 [t.vv,x.vv,r.vv] []=some (.tup [W,.p (.int .i64 e)],[])/\V 59 [t.vv,x.vv,r.vv] []=some (.tup [y.fv,.p (.int .i64 e)],[]):=by
 obtain ⟨i0,j0⟩:=Q5 hf hn hs r
 by_cases he:D7 t x r=0
 ·obtain ⟨h,hr,hk⟩:=PF he
  rw [he] at i0 j0
  have hlen:=h.len
  by_cases hl:x.queue.length+x.flights.length<256
  ·refine ⟨DL x r,0,_,.inr rfl,⟨hs.w,hs.b,hs.p,hs.v,by simp;omega,hs.f⟩,KW t x r h hs hr hk hl,O6 h hs hr hk hl⟩
  ·have h1:(x.queue.length:Int)+x.flights.length=256:=by omega
   have h1':=decide_eq_true h1
   have h2:(256:Int)<=(x.queue.length:Int)+x.flights.length:=by omega
   refine ⟨dvZ,7,_,.inl rfl,FR,Ac (vf:=vf17) rfl ?_,Ac (vf:=vf59) rfl ?_⟩
   ·simp -implicitDefEqProofs (disch:=omega) only [vf17,J5,i0,h1',llm,lpn,go_sem]
    rfl
   ·simp -implicitDefEqProofs (disch:=omega) only [vf59,J1,j0,h2,llm,lpn,go_sem]
    rfl
 ·have he':¬ D7 t x r=0:=he
  generalize D7 t x r=e at i0 j0 he'
  refine ⟨dvZ,e,_,.inl rfl,FR,Ac (vf:=vf17) rfl ?_,Ac (vf:=vf59) rfl ?_⟩
  ·simp -implicitDefEqProofs (disch:=omega) only [vf17,J5,i0,he',lpn,go_sem]
   rfl
  ·simp -implicitDefEqProofs (disch:=omega) only [vf59,J1,j0,he',lpn,go_sem]
   rfl
theorem ZE {t:Tr} {x:Dv} (hf:t.Fits) (hn:t.nodes.length<1000000) (hs:x.Small) (r:Rq):∃ (b:Bool) (e:Int),V 90 [t.vv,x.vv,r.vv] []=some (.tup [.p (.bool b),.p (.int .i64 e)],[])/\V 91 [t.vv,x.vv,r.vv] []=some (.tup [.p (.bool b),.p (.int .i64 e)],[]):=by
 obtain ⟨i0,j0⟩:=Q5 hf hn hs r
 by_cases he:D7 t x r=0
 ·obtain ⟨h,hr,hk⟩:=PF he
  rw [he] at i0 j0
  have i1:=GV t x hs
  have i2:=O8 h r hs hk
  have j2:=Oj (r:=r) h hs (CL.1 hr).2.2.2.1 hk
  refine ⟨C2 t x r,0,Ac (vf:=vf90) rfl ?_,Ac (vf:=vf91) rfl ?_⟩
  .exact z3 i0 i1 i2
  .exact z2 j0 j2
 ·have he':¬ D7 t x r=0:=he
  generalize D7 t x r=e at i0 j0 he'
  refine ⟨false,e,Ac (vf:=vf90) rfl ?_,Ac (vf:=vf91) rfl ?_⟩
  .exact z2 i0 he'
  .exact z2 j0 he'
theorem Z5 {S:List Int} (h:S.Nodup):(Bm S).Pairwise fun a b=>a<b:=by
 have h1:(Bm S).Pairwise fun a b=>decide (a<=b)=true:=List.pairwise_mergeSort (fun a b c h1 h2=>by simp only [decide_eq_true_eq] at *;omega) (fun a b=>by simp only [bot,decide_eq_true_eq];omega) S
 have h2:(Bm S).Nodup:=(List.mergeSort_perm S _).nodup_iff.2 h
 refine (h1.and h2).imp ?_
 rintro a b ⟨h1,h2⟩
 simp only [decide_eq_true_eq] at h1
 omega
theorem W7 {t:Tr} {x:Dv} (h:DvOk t x):Bm (A5 t x [] x.queue)=Dm t x:=by
 have hinc:(Dm t x).Pairwise fun a b=>a<b:=by
  unfold Dm
  exact List.pairwise_map.2 (h.tree.inc.sublist List.filter_sublist)
 have hm:=Z5 (Iw (t:=t) (d:=x) (q:=x.queue) (seen:=[]))
 refine List.Perm.eq_of_pairwise (le:=fun a b:Int=>a<=b) (fun a b _ _ h1 h2=>by omega) (hm.imp fun h=>by omega) (hinc.imp fun h=>by omega) ?_
 refine (List.perm_ext_iff_of_nodup (hm.imp fun h=>by omega) (hinc.imp fun h=>by omega)).2 fun g=>?_
 rw [OB h,K5,HA]
 simp
theorem Yd {t:Tr} {x:Dv} (hf:t.Fits) (hn:t.nodes.length<1000000) (hs:x.Small):∃ (l:List Int) (e:Int),l.length<1000000/\V 20 [t.vv,x.vv] []=some (.tup [.fresh 1 (l.map (.int .i64)),.p (.int .i64 e)],[])/\V 92 [t.vv,x.vv] []=some (.tup [.fresh 1 (l.map (.int .i64)),.p (.int .i64 e)],[]):=by
 have i0:=EO t x hf hn hs
 have j0:=HP t x hn hs
 cases hv:DC t x with
 | false =>
  rw [hv] at i0 j0
  refine ⟨[],1,by decide,Ac (vf:=vf20) rfl ?_,Ac (vf:=vf92) rfl ?_⟩
  .simp -implicitDefEqProofs (disch:=omega) only [vf20,Mr,i0,lpn,go_sem]
  .simp -implicitDefEqProofs (disch:=omega) only [vf92,Mo,j0,lpn,go_sem]
 | true =>
  have h:=dvOk_iff.1 hv
  rw [hv] at j0
  have i1:=W8 t x h hs
  rw [W7 h] at i1
  have j1:=O2 h hs
  have hl:=Om t x
  refine ⟨Dm t x,0,by omega,i1,Ac (vf:=vf92) rfl ?_⟩
  exact z2 j0 j1
theorem Zi {t:Tr} {x:Dv} (hf:t.Fits) (hn:t.nodes.length<1000000) (hs:x.Small):∃ (y:Dv) (l:List Fl) (e:Int) (W U:VVal),(W=y.fv/\U=y.fv \/ W=dvF y (.p (Ap y.v))/\U=y.vv)/\y.Small/\l.length<1000000/\V 19 [t.vv,x.vv] []=some (.tup [W,.fresh 7 (l.map Fl.pv),.p (.int .i64 e)],[])/\V 60 [t.vv,x.vv] []=some (.tup [U,.fresh 7 (l.map Fl.pv),.p (.int .i64 e)],[]):=by
 have i0:=EO t x hf hn hs
 have j0:=HP t x hn hs
 cases hv:DC t x with
 | false =>
  rw [hv] at i0 j0
  refine ⟨dvZ,[],1,_,_,.inl ⟨rfl,rfl⟩,FR,by decide,Ac (vf:=vf19) rfl ?_,Ac (vf:=vf60) rfl ?_⟩
  ·simp -implicitDefEqProofs (disch:=omega) only [vf19,J4,i0,lpn,go_sem]
   rfl
  ·simp -implicitDefEqProofs (disch:=omega) only [vf60,J0,j0,lpn,go_sem]
   rfl
 | true =>
  have h:=dvOk_iff.1 hv
  rw [hv] at i0 j0
  have hnow:=h.now
  by_cases hl:x.now<1048576
  ·have hel:(CF x).length<=x.flights.length:=(List.takeWhile_sublist _).length_le
   have hfl:=hs.f
   exact ⟨Bx t x,CF x,0,_,_,.inr ⟨rfl,rfl⟩,Db (PP h hl),by omega,QF h hs hl,PY h hs hl⟩
  ·have h1:x.now=1048576:=by omega
   have h1':=decide_eq_true h1
   refine ⟨dvZ,[],3,_,_,.inl ⟨rfl,rfl⟩,FR,by decide,Ac (vf:=vf19) rfl ?_,Ac (vf:=vf60) rfl ?_⟩
   ·simp -implicitDefEqProofs (disch:=omega) only [vf19,J4,i0,h1',lpn,go_sem]
    rfl
   ·simp -implicitDefEqProofs (disch:=omega) only [vf60,J0,j0,h1',lpn,go_sem]
    rfl
theorem Zu (l:List Int) (hl:l.length<1000000):V 93 [.p (AG l),.p (AG l)] []=some (.p (.bool true),[]):=by
 refine Ac (vf:=vf93) rfl ?_
 have hd:decide ((l.length:Int)=l.length)=true:=decide_eq_true rfl
 refine w1 hd ?_
 obtain ⟨I,hI⟩:=lpI fun k s=>s.pe 0=.p (AG l)/\s.pe 1=.p (AG l)/\s.pe 5=.p (.int .i64 k)
 refine Aj (l.length) I ?_ ?_
 ·refine (hI _ _).2 ⟨?_,?_,?_⟩
  all_goals exact cl4
 intro k s hk hIk
 obtain hH:=(hI _ _).1 hIk
 clear hIk
 refine w1 hH ?_
 refine Ae (fun hlt=>?_) (fun hge=>?_)
 ·have hm:l[k]?=some l[k]:=lgg hlt
  generalize l[k]=r at hm
  have hr:decide (r=r)=true:=decide_eq_true rfl
  simp -implicitDefEqProofs (disch:=omega) only [hH,hlt,hm,hr,go_sem]
  try refine ai ?_
  refine (hI _ _).2 ⟨?_,?_,?_⟩
  all_goals exact cl4
 .exact z2 hH hge
theorem KO {t:Tr} {x:Dv} (hf:t.Fits) (hn:t.nodes.length<1000000) (hs:x.Small) (s:Sg) (dev:Int) (r:Rq) (id:Int):V 39 [t.vv,x.vv,s.vv dev,r.vv,.p (.int .i64 id)] []=some (.p (.bool true),[]):=by
 refine Ac (vf:=vf39) rfl ?_
 have dd:∀ n:Int,decide (n=n)=true:=fun n=>decide_eq_true rfl
 have db:∀ n:Bool,(n == n)=true:=fun n=>by cases n<;>rfl
 obtain ⟨y1,e1,W1,hW1,hy1,a1,b1⟩:=zbf hf hn hs id dev s
 have s1:=IY y1 hy1
 have v1:=EO t x hf hn hs
 have v2:=HP t x hn hs
 generalize DC t x=vb at v1 v2
 obtain ⟨y2,e2,W2,hW2,hy2,a2,b2⟩:=za6 hf hn hs r
 have s2:=IY y2 hy2
 obtain ⟨ok,e3,a3,b3⟩:=ZE hf hn hs r
 obtain ⟨l4,e4,hl4,a4,b4⟩:=Yd hf hn hs
 have s4:=Zu l4 hl4
 obtain ⟨y5,l5,e5,W5,U5,hW5,hy5,hl5,a5,b5⟩:=Zi hf hn hs
 have s5:=IY y5 hy5
 obtain ⟨_,_,_,_,_,sF⟩:=TZ
 have s6:=sF l5 hl5
 simp only [elF,esF] at s6
 have p1:x.queue.length<1000000:=hs.q
 have p2:x.flights.length<1000000:=hs.f
 have a6:=Ot x r.task p1 p2
 have b6:=Wd x r.task p1 p2
 have a7:=XG x r.task hs
 have b7:=W9 x r.task hs
 have hcs:(Gc x r.task).Small:=⟨hs.w,hs.b,hs.p,hs.v,Nat.lt_of_le_of_lt (List.length_filter_le _ _) hs.q,hs.f⟩
 have s7:=IY _ hcs
 have hcv:x.v=(Gc x r.task).v:=rfl
 rw [hcv] at a7
 clear hcv
 generalize Gc x r.task=y7 at a7 b7 s7
 generalize pendD x r.task=pn at a6 b6
 rcases hW1 with rfl|rfl<;>rcases hW2 with rfl|rfl<;>rcases hW5 with ⟨rfl,rfl⟩|⟨rfl,rfl⟩
 all_goals
  simp -implicitDefEqProofs (disch:=omega) only [vf39,J3,a1,b1,s1,v1,v2,a2,b2,s2,a3,b3,a4,b4,s4,a5,b5,s5,s6,dd,db,llm,go_sem]
  by_cases q1:(300:Int)<x.queue.length
  ·simp -implicitDefEqProofs (disch:=omega) only [q1,llm,go_sem]
  ·by_cases q2:(300:Int)<x.flights.length
   .simp -implicitDefEqProofs (disch:=omega) only [q1,q2,llm,go_sem]
   .simp -implicitDefEqProofs (disch:=omega) only [q1,q2,a6,b6,a7,b7,s7,llm,go_sem]
theorem Va (L:List Int) (t:Tr) (hf:t.Fits) (x:Dv) (sg:Sg) (dev:Int) (rq:Rq) (id:Int):V 9 [.p (AG L),t.vv,x.vv,sg.vv dev,rq.vv,.p (.int .i64 id)] []=some (.p (.bool true),[]):=by
 refine Ac (vf:=vf9) rfl ?_
 have hli := zac (L.map (PV.int .i64))
 rw [List.length_map] at hli
 by_cases hL:L.length<=600
 ·rw [decide_eq_true hL] at hli
  have hro:=zbm L
  have hLL:L.length<4611686018427387904:=by omega
  refine w2 hli hro ?_
  obtain ⟨I,hI⟩:=lpI fun k s=>∃ (b:Nat),s.pe 5=.p (.int .i64 id)/\s.pe 7=.ptr (.slot 7 0) 0 0/\s.pe 8=.ptr (.slot 8 0) 0 0/\s.pe 9=.ptr (.slot 9 0) 0 0/\s.pe 10=.ptr (.slot 10 0) 0 0/\s.pe 13=.ptr (.slot 24 1) 0 0/\s.pe 14=.p (.int .i64 k)/\s.h (.slot 7 0)=some (0,Ob.box [.p (An t.nodes),.p (.int .i64 t.next)])/\s.h (.slot 8 0)=some (0,Ob.box (dvC x))/\s.h (.slot 9 0)=some (0,Ob.box [.p (.int .i64 dev),.p (.int .i64 sg.weight),.p (.int .i64 sg.rp),.p (.int .i64 sg.wp),.p (.int .i64 sg.ro),.p (.int .i64 sg.wo),.p (.int .i64 sg.target)])/\s.h (.slot 10 0)=some (0,Ob.box [.p (.int .i64 rq.task),.p (.int .i64 rq.group),.p (.int .i64 rq.at_),.p (.int .i64 rq.pages),.p (.bool rq.write),.p (.int .i64 rq.time)])/\s.h (.slot 24 1)=some (0,Ob.box [.p (AG L),.p (.int .i64 (b:Nat))])
  refine Aj (3) I ?_ ?_
  ·refine (hI _ _).2 ⟨0,?_⟩
   and_intros
   all_goals exact cl4
  intro k s hk hIk
  obtain ⟨b,hH⟩:=(hI _ _).1 hIk
  clear hIk
  refine w1 hH ?_
  refine Ae (fun hlt=>?_) (fun hge=>?_)
  ·have htr:V 13 [.ptr (.arg 0 0) 0 0,.p (.int .i64 4)] [AV L b]=some ((Fz L b 4).1.vv,[AV L (Fz L b 4).2]):=za5 L b 4 (by omega) (by omega)
   have hok:=zaC L b 4
   generalize Fz L b 4=ta at htr hok
   obtain ⟨u,b1⟩:=ta
   simp only at htr hok
   obtain ⟨v,b2,hdv,hx,hxn,hxq⟩:=zbI L b1 hok 14 (by omega) hLL
   have hdv:V 22 [.ptr (.arg 0 0) 0 0,u.vv,.p (.int .i64 14)] [AV L b1]=some (v.vv,[AV L b2]):=hdv
   have hxs:=Db hx
   have l1:=hok.len
   have l2:=HG hx.w
   have l3:=HG hx.v
   have l4:=hx.len
   obtain ⟨c1,c2,_⟩:=Cn.1 hx.bk
   obtain ⟨g1,g2,_⟩:=GR hx.dp
   have l5:=GZ (t:=u) (l:=v.buckets.map (·.group)) (List.pairwise_map.2 c2) (fun z hz=>by obtain ⟨c,hc,rfl⟩:=lmm.1 hz;exact (c1 c hc).1)
   have l6:=GZ (t:=u) (l:=v.depths.map (·.group)) (List.pairwise_map.2 g2) (fun z hz=>by obtain ⟨c,hc,rfl⟩:=lmm.1 hz;exact g1 c hc)
   rw [List.length_map] at l5 l6
   obtain ⟨y,b3,hod,hys⟩:=ZZ L b2 v hLL (by omega) (by omega) (by omega) (by omega) (by omega) (by omega)
   have hun:u.nodes.length<1000000:=by omega
   obtain ⟨z,b4,hzs,hz⟩:∃ (z:Dv) (b4:Nat),z.Small/\((k:Int)=2/\z=y/\b4=b3 \/ ¬ (k:Int)=2/\z=v/\b4=b2):=by
    by_cases hk2:(k:Int)=2
    ·exact ⟨y,b3,hys,.inl ⟨hk2,rfl,rfl⟩⟩
    ·exact ⟨v,b2,hxs,.inr ⟨hk2,rfl,rfl⟩⟩
   obtain ⟨q,b5,hq,_⟩:=Q3 L b4 hLL
   have k1:=Bl L b5 [q.weight,0,10000] hLL (by simp) (by simp)
   generalize Ba L b5 [q.weight,0,10000]=w1 at k1
   generalize Af L b5 _=b6 at k1
   have k2:=Bl L b6 [q.ro,0,1073741824,1073741825] hLL (by simp) (by simp)
   generalize Ba L b6 [q.ro,0,1073741824,1073741825]=w2 at k2
   generalize Af L b6 _=b7 at k2
   obtain ⟨p,b8,hp,_⟩:=Ol L b7 hok hLL
   have k3:=Bl L b8 [p.group,9,0] hLL (by simp) (by simp)
   generalize Ba L b8 [p.group,9,0]=w3 at k3
   generalize Af L b8 _=b9 at k3
   have k4:=Bl L b9 [p.pages,p.pages,0,4097] hLL (by simp) (by simp)
   generalize Ba L b9 [p.pages,p.pages,0,4097]=w4 at k4
   generalize Af L b9 _=b10 at k4
   have k5:=Qr L b10 u hLL hun
   generalize F5 L b10 u.nodes=gd at k5
   obtain ⟨gi,b11⟩:=gd
   simp only [AG,lpc,lpn] at k1 k2 k3 k4 k5
   have x1:=KO hok.fits hun hzs ⟨w1,q.rp,q.wp,w2,q.wo,q.target⟩ 0 ⟨p.task,w3,p.at_,w4,p.write,p.time⟩ gi
   have x2:=KO hok.fits hun hzs sg dev rq id
   rcases hz with ⟨hk2,rfl,rfl⟩|⟨hk2,rfl,rfl⟩
   ·have hk2':=decide_eq_true hk2
    simp -implicitDefEqProofs (disch:=omega) only [hH,hlt,htr,hdv,hk2',hod,hq,k1,k2,hp,k3,k4,k5,x1,x2,go_sem]
    try refine ai ?_
    refine (hI _ _).2 ⟨b11,?_⟩
    and_intros
    all_goals exact cl4
   ·simp -implicitDefEqProofs (disch:=omega) only [hH,hlt,htr,hdv,hk2,hq,k1,k2,hp,k3,k4,k5,x1,x2,go_sem]
    try refine ai ?_
    refine (hI _ _).2 ⟨b11,?_⟩
    and_intros
    all_goals exact cl4
  ·by_cases q1:(20:Int)<t.nodes.length
   ·simp -implicitDefEqProofs (disch:=omega) only [hH,hge,q1,llm,EK,go_sem]
   ·by_cases q2:(40:Int)<x.queue.length
    ·simp -implicitDefEqProofs (disch:=omega) only [hH,hge,q1,q2,llm,EK,go_sem]
    ·by_cases q3:(40:Int)<x.flights.length
     ·simp -implicitDefEqProofs (disch:=omega) only [hH,hge,q1,q2,q3,llm,EK,go_sem]
     ·by_cases q4:(30:Int)<x.buckets.length
      ·simp -implicitDefEqProofs (disch:=omega) only [hH,hge,q1,q2,q3,q4,llm,EK,go_sem]
      ·by_cases q5:(30:Int)<x.v.length
       ·simp -implicitDefEqProofs (disch:=omega) only [hH,hge,q1,q2,q3,q4,q5,llm,EK,go_sem]
       ·by_cases q6:(30:Int)<x.weights.length
        ·simp -implicitDefEqProofs (disch:=omega) only [hH,hge,q1,q2,q3,q4,q5,q6,llm,EK,go_sem]
        ·by_cases q7:(30:Int)<x.depths.length
         ·simp -implicitDefEqProofs (disch:=omega) only [hH,hge,q1,q2,q3,q4,q5,q6,q7,llm,EK,go_sem]
         ·have x3:=KO (x:=x) hf (by omega) ⟨by omega,by omega,by omega,by omega,by omega,by omega⟩ sg dev rq id
          simp -implicitDefEqProofs (disch:=omega) only [hH,hge,q1,q2,q3,q4,q5,q6,q7,llm,x3,EK,go_sem]
 ·rw [decide_eq_false hL] at hli
  exact z2 hli @EK
end Go.V
