/- Part 4 of the proof. -/
import Derived.Test.YtekkdllchjmhdaaGreatD3
set_option linter.unusedSectionVars false
set_option linter.unusedSimpArgs false
set_option linter.unusedVariables false
set_option maxHeartbeats 32000000
open List renaming getElem?_eq_getElem → lgg, getElem?_eq_some_iff → lgs, mem_of_getElem? → lmg, drop_eq_getElem_cons → ldg, mem_cons_of_mem → lmc, map_cons → lpc, drop_of_length_le → ldl, nil_append → lna, append_assoc → laa, append_nil → lan, mem_map → lmm, mem_cons_self → lms, map_append → lma, take_of_length_le → ltl, getElem?_of_mem → lgm, length_cons → llc, length_append → lla, mem_cons → lmk, map_nil → lpn, length_nil → lln, mem_append → lmp, length_map → llm, getElem_mem → lgk, length_take → llt, length_drop → lld, pairwise_cons → lpw, cons_append → lca, foldl_append → lfa, filter_cons → lfl
open Bool renaming and_eq_true → bat, false_and → bfa, false_eq_true → bft, true_and → bta, not_false → bnf, and_self → bas, and_true → bau
namespace Go.V
theorem XA (l : List Fl) (f : Fl) (id : Int) : AG (l ++ [f]) id = AG l id + if f.r.group = id then 1 else 0:=by
 unfold AG
 rw [List.filter_append,lla]
 by_cases h : f.r.group = id <;> simp [h]
theorem WO (t : Tr) (x : Dv) (hn : t.nodes.length < 1000000) (hf : x.flights.length < 1000000) : V 211 [t.vv,x.vv] [] = some (.fresh 2 ((flyL t x.flights).map Ch.pv),[]):=by
 refine Ae (vf:=vf211) rfl ?_
 simp -implicitDefEqProofs (disch:=omega) only [vf211,QL,go_sem]
 obtain ⟨I,hI⟩:=lpI fun k s=>∃ (acc : List Ch) (w : Nat),(acc = ((t.nodes.take k).filter fun n=>decide (0 < AG x.flights n.id)).map fun n=>(⟨n.id,AG x.flights n.id⟩ : Ch)) /\ acc.length <= k /\ s.pe 2 = .ptr (.slot 2 0) 0 0 /\ s.pe 3 = .ptr (.slot 3 0) 0 0 /\ s.pe 5 = .own (.slot 5 0) w 0 acc.length /\ s.pe 6 = .p (.int .i64 k) /\ s.h (.slot 2 0) = some (0,Ob.box [.p (Ap t.nodes),.p (.int .i64 t.next)]) /\ s.h (.slot 3 0) = some (0,Ob.box [.p (.int .i64 x.m.rb),.p (.int .i64 x.m.rp),.p (.int .i64 x.m.wb),.p (.int .i64 x.m.wp),.p (.int .i64 x.m.seek),.p (.int .i64 x.speed),.p (.int .i64 x.margin),.p (.int .i64 x.now),.p (.int .i64 x.free),.p (.int .i64 x.head),.p (Aj x.weights),.p (A5 x.buckets),.p (AF x.depths),.p (Aj x.v),.p (AJ x.queue),.p (A4 x.flights)]) /\ s.h (.slot 5 0) = some (w,Ob.arr 2 (acc.map Ch.pv))
 refine Am (t.nodes.length) I ?_ ?_
 ·refine (hI _ _).2 ⟨[],0,?_⟩
  and_intros
  ·rfl
  ·exact cl3
  all_goals first | exact cl0 | (simp -implicitDefEqProofs (disch:=omega) only [lma,go_sem] <;> first | (simp [Ab]; done) | (simp [Ab]; omega))
 intro k s hk hIk
 obtain ⟨acc,w,ha,hal,h2,h3,h5,h6,hH⟩:=(hI _ _).1 hIk
 clear hIk
 simp -implicitDefEqProofs (disch:=omega) only [h2,h3,h5,h6,hH,go_sem]
 refine Af (fun hlt=>?_) (fun hge=>?_)
 rotate_left
 ·rw [ltl (by omega)] at ha
  have hA : flyL t x.flights = acc:=ha.symm
  rw [hA]
  simp -implicitDefEqProofs (disch:=omega) only [h2,h3,h5,h6,hH,hge,go_sem]
 ·have hm : t.nodes[k]? = some t.nodes[k]:=lgg hlt
  have htk:=BT hm
  generalize t.nodes[k] = n at hm htk
  simp -implicitDefEqProofs (disch:=omega) only [h2,h3,h5,h6,hH,hlt,hm,go_sem]
  obtain ⟨J,hJ⟩:=lpI fun j s=>s.pe 2 = .ptr (.slot 2 0) 0 0 /\ s.pe 3 = .ptr (.slot 3 0) 0 0 /\ s.pe 5 = .own (.slot 5 0) w 0 acc.length /\ s.pe 6 = .p (.int .i64 k) /\ s.pe 7 = .p (.int .i64 (AG (x.flights.take j) n.id)) /\ s.pe 8 = .p (.int .i64 j) /\ s.h (.slot 2 0) = some (0,Ob.box [.p (Ap t.nodes),.p (.int .i64 t.next)]) /\ s.h (.slot 3 0) = some (0,Ob.box [.p (.int .i64 x.m.rb),.p (.int .i64 x.m.rp),.p (.int .i64 x.m.wb),.p (.int .i64 x.m.wp),.p (.int .i64 x.m.seek),.p (.int .i64 x.speed),.p (.int .i64 x.margin),.p (.int .i64 x.now),.p (.int .i64 x.free),.p (.int .i64 x.head),.p (Aj x.weights),.p (A5 x.buckets),.p (AF x.depths),.p (Aj x.v),.p (AJ x.queue),.p (A4 x.flights)]) /\ s.h (.slot 5 0) = some (w,Ob.arr 2 (acc.map Ch.pv))
  refine Am (x.flights.length) J ?_ ?_
  ·refine (hJ _ _).2 ?_
   and_intros
   all_goals first | exact cl0 | (simp -implicitDefEqProofs (disch:=omega) only [h2,h3,h5,h6,hH,lma,go_sem] <;> first | (simp [Ab]; done) | (simp [Ab]; omega))
  intro j s hj hJk
  obtain ⟨h2,h3,h5,h6,h7,hH⟩:=(hJ _ _).1 hJk
  clear hJk
  simp -implicitDefEqProofs (disch:=omega) only [h2,h3,h5,h6,h7,hH,go_sem]
  refine Af (fun hj=>?_) (fun hje=>?_)
  ·have hmj : x.flights[j]? = some x.flights[j]:=lgg hj
   have htj:=BT hmj
   have hc:=XA (x.flights.take j) x.flights[j] n.id
   rw [<- htj] at hc
   have hc0:=FY (x.flights.take j) n.id
   have hc1:=Hp (x.flights.take j) n.id
   have hl : (x.flights.take j).length <= x.flights.length:=by rw [llt]; omega
   generalize x.flights[j] = f at hmj hc
   generalize AG (x.flights.take j) n.id = q at h7 hc hc0 hc1
   by_cases he : f.r.group = n.id
   ·rw [if_pos he] at hc
    simp -implicitDefEqProofs (disch:=omega) only [h2,h3,h5,h6,h7,hH,hj,hm,hmj,Fl.pv,Nd.vv,he,go_sem]
    try refine ai ?_
    refine (hJ _ _).2 ?_
    and_intros
    all_goals first | exact cl0 | (simp -implicitDefEqProofs (disch:=omega) only [h2,h3,h5,h6,h7,hH,hc,lma,go_sem] <;> first | (simp [Ab]; done) | (simp [Ab]; omega))
   ·rw [if_neg he,Int.add_zero] at hc
    simp -implicitDefEqProofs (disch:=omega) only [h2,h3,h5,h6,h7,hH,hj,hm,hmj,Fl.pv,Nd.vv,he,go_sem]
    try refine ai ?_
    refine (hJ _ _).2 ?_
    and_intros
    all_goals first | exact cl0 | (simp -implicitDefEqProofs (disch:=omega) only [h2,h3,h5,h6,h7,hH,hc,lma,go_sem] <;> first | (simp [Ab]; done) | (simp [Ab]; omega))
  ·rw [ltl (by omega)] at h7
   have hc0:=FY x.flights n.id
   by_cases hp : 0 < AG x.flights n.id
   ·simp -implicitDefEqProofs (disch:=omega) only [h2,h3,h5,h6,h7,hH,hje,hm,hp,Nd.vv,go_sem]
    try refine ai ?_
    refine (hI _ _).2 ⟨acc ++ [⟨n.id,AG x.flights n.id⟩],w + 1,?_⟩
    and_intros
    .exact by rw [ha,htk,List.filter_append,lma]; simp [hp]
    .exact by rw [lla,List.length_singleton]; omega
    all_goals first | exact cl0 | (simp -implicitDefEqProofs (disch:=omega) only [h2,h3,h5,h6,h7,hH,lma,go_sem] <;> first | (simp [Ab]; done) | (simp [Ab]; omega))
   ·simp -implicitDefEqProofs (disch:=omega) only [h2,h3,h5,h6,h7,hH,hje,hm,hp,Nd.vv,go_sem]
    try refine ai ?_
    refine (hI _ _).2 ⟨acc,w,?_⟩
    and_intros
    .exact by rw [ha,htk,List.filter_append,lma]; simp [hp]
    .omega
    all_goals first | exact cl0 | (simp -implicitDefEqProofs (disch:=omega) only [h2,h3,h5,h6,h7,hH,lma,go_sem] <;> first | (simp [Ab]; done) | (simp [Ab]; omega))
theorem Kj (l : List Dp) (id : Int) (hl : l.length < 1000000) : V 27 [.p (AF l),.p (.int .i64 id)] [] = some ((getD l id).vv,[]):=by
 refine Ae (vf:=vf27) rfl ?_
 simp -implicitDefEqProofs (disch:=omega) only [vf27,R4,go_sem]
 obtain ⟨I,hI⟩:=lpI fun k s=>getD l id = getD (l.drop k) id /\ s.pe 0 = .p (AF l) /\ s.pe 1 = .p (.int .i64 id) /\ s.pe 4 = .ptr (.slot 4 0) 0 0 /\ s.pe 5 = .p (.int .i64 k) /\ s.h (.slot 4 0) = some (0,Ob.box [.p (.int .i64 0),.p (.int .i64 0),.p (.int .i64 0)])
 refine Am (l.length) I ?_ ?_
 ·refine (hI _ _).2 ?_
  and_intros
  ·exact cl3
  all_goals first | exact cl0 | (simp -implicitDefEqProofs (disch:=omega) only [lma,go_sem] <;> first | (simp [Ab]; done) | (simp [Ab]; omega))
 intro k s hk hIk
 obtain ⟨hq,hH⟩:=(hI _ _).1 hIk
 clear hIk
 simp -implicitDefEqProofs (disch:=omega) only [hH,go_sem]
 refine Af (fun hlt=>?_) (fun hge=>?_)
 ·have hm : l[k]? = some l[k]:=lgg hlt
  rw [ldg hlt,getD] at hq
  generalize l[k] = c at hm hq
  by_cases hc : c.group = id
  ·rw [if_pos hc] at hq
   subst hc
   simp -implicitDefEqProofs (disch:=omega) only [hH,hlt,hm,hq,go_sem]
  ·rw [if_neg hc] at hq
   simp -implicitDefEqProofs (disch:=omega) only [hH,hlt,hm,hc,go_sem]
   try refine ai ?_
   refine (hI _ _).2 ?_
   and_intros
   .exact hq
   all_goals first | exact cl0 | (simp -implicitDefEqProofs (disch:=omega) only [hH,lma,go_sem] <;> first | (simp [Ab]; done) | (simp [Ab]; omega))
 ·have hq' : getD l id = ⟨id,0,256⟩:=by
   rw [hq,ldl (by omega)]
   rfl
  simp -implicitDefEqProofs (disch:=omega) only [hH,hge,hq',go_sem]
theorem MA {C : Int} : ∀ l : List Int,(∀ x ∈ l,x <= C) -> Ag l <= C * l.length
 | [],_=>by simp [Ag]
 | x :: l,h=>by
  have ih:=MA l fun y hy=>h y (lmc _ hy)
  have:=h x (lms ..)
  simp only [Ag,llc,Int.natCast_add,Int.natCast_one,Int.mul_add,Int.mul_one]
  omega
theorem zaW {t : Tr} (h : TreeOk t) (fs : List Fl) (hfl : fs.length <= 256) : ChOk t.nodes (flyL t fs):=by
 have hlen:=h.len
 have hL2:=fun c=>KU (t:=t) (fs:=fs) (c:=c)
 have hL3:=KV t fs
 refine ⟨fun c hc=>?_,Px h fs,fun c hc=>?_,?_⟩
 ·obtain ⟨n,hn,e,_⟩:=hL2 c hc
  rw [e,F8 h hn]
  rfl
 ·unfold flyL at hc
  obtain ⟨n,hn,rfl⟩:=lmm.1 hc
  have:=(List.mem_filter.1 hn).2
  simp only [decide_eq_true_eq] at this
  exact this
 ·have:=MA (C:=256) ((flyL t fs).map (·.own)) fun x hx=>by
   obtain ⟨c,hc,rfl⟩:=lmm.1 hx
   obtain ⟨n,hn,_,e⟩:=hL2 c hc
   have:=Hp fs n.id
   rw [e]
   omega
  rw [llm] at this
  omega
theorem WW {t : Tr} (h : TreeOk t) (ds : List Dp) (fs : List Fl) (id : Int) (hds : BS (Ak t.nodes) none ds = true) (hdl : ds.length < 1000000) (hfl : fs.length <= 256) (hid : Ak t.nodes id = true) :
  V 210 [t.vv,.p (AF ds),.p (Aj (flyL t fs)),.p (.int .i64 id)] [] = some (.tup [.p (.bool (EI t ds fs id)),.p (.int .i64 0)],[]):=by
 refine Ae (vf:=vf210) rfl ?_
 have hlen:=h.len
 have j0:=PR h hds hdl
 have hC:=zaW h fs hfl
 have hL3:=KV t fs
 have hL4 : ∀ c ∈ flyL t fs,0 <= c.own /\ c.own <= 256:=fun c hc=>by
  obtain ⟨n,hn,_,e⟩:=KU hc
  rw [e]
  have:=FY fs n.id
  have:=Hp fs n.id
  omega
 have hK:=OT h hid
 have hal:=D4 t.nodes t.nodes.length id
 have hsum : ∀ g ∈ ancF t.nodes t.nodes.length id,V 261 [t.vv,L8 (flyL t fs),.p (.int .i64 g)] [] = some (.p (.int .i64 (El t fs g)),[]):=fun g hg=>by
  have hk:=hK g hg
  obtain ⟨n,hn,e⟩:=CS hk
  obtain ⟨i,hi⟩:=lgm hn
  have:=ZL h hC (by omega) hi
  rw [e] at this
  rw [this]
  obtain ⟨e1,e2⟩:=O2 h fs hk
  unfold tot El
  rw [<- e1,e2]
 have ca:=GX h hid
 have ch:=Eu h hid
 unfold EI
 generalize flyL t fs = l at hC hL3 hL4 hsum
 generalize ancF t.nodes t.nodes.length id = A at hK hal hsum ca
 simp -implicitDefEqProofs (disch:=omega) only [vf210,QM,j0,go_sem]
 obtain ⟨I,hI⟩:=lpI fun k s=>s.pe 1 = .p (AF ds) /\ s.pe 2 = .p (Aj l) /\ s.pe 3 = .p (.int .i64 id) /\ s.pe 4 = .ptr (.slot 4 0) 0 0 /\ s.pe 10 = .p (.int .i64 k) /\ s.h (.slot 4 0) = some (0,Ob.box [.p (Ap t.nodes),.p (.int .i64 t.next)])
 refine Am (l.length) I ?_ ?_
 ·refine (hI _ _).2 ?_
  and_intros
  all_goals first | exact cl0 | (simp -implicitDefEqProofs (disch:=omega) only [lma,go_sem] <;> first | (simp [Ab]; done) | (simp [Ab]; omega))
 intro k s hk hIk
 obtain hH:=(hI _ _).1 hIk
 clear hIk
 simp -implicitDefEqProofs (disch:=omega) only [hH,go_sem]
 refine Af (fun hlt=>?_) (fun hge=>?_)
 ·have hm : l[k]? = some l[k]:=lgg hlt
  generalize l[k] = c at hm
  have hmem:=lmg hm
  have hfi:=Eu h (hC.known c hmem)
  have hr:=hL4 c hmem
  have b1 : ¬ c.own < 0:=by omega
  have b2 : ¬ 256 < c.own:=by omega
  by_cases hk0 : (0 : Int) < k
  ·obtain ⟨e,he,hlt'⟩:=Hk hC.inc hm hk0
   have hk1 : (0 : Int) <= (k : Int) - 1:=by omega
   have hle : ¬ c.group <= e.group:=by omega
   simp -implicitDefEqProofs (disch:=omega) only [hH,hlt,hm,hfi,hk0,hk1,he,hle,b1,b2,go_sem]
   try refine ai ?_
   refine (hI _ _).2 ?_
   and_intros
   all_goals first | exact cl0 | (simp -implicitDefEqProofs (disch:=omega) only [hH,lma,go_sem] <;> first | (simp [Ab]; done) | (simp [Ab]; omega))
  ·simp -implicitDefEqProofs (disch:=omega) only [hH,hlt,hm,hfi,hk0,b1,b2,go_sem]
   try refine ai ?_
   refine (hI _ _).2 ?_
   and_intros
   all_goals first | exact cl0 | (simp -implicitDefEqProofs (disch:=omega) only [hH,lma,go_sem] <;> first | (simp [Ab]; done) | (simp [Ab]; omega))
 ·simp -implicitDefEqProofs (disch:=omega) only [hH,hge,ch,ca,go_sem]
  obtain ⟨J,hJ⟩:=lpI fun j s=>∃ (v64_1 : Nat),(A.all fun g=>decide (El t fs g < (getD ds g).depth)) = ((A.drop j).all fun g=>decide (El t fs g < (getD ds g).depth)) /\ s.pe 1 = .p (AF ds) /\ s.pe 2 = .p (Aj l) /\ s.pe 4 = .ptr (.slot 4 0) 0 0 /\ s.pe 12 = .own (.slot 64 1) v64_1 0 A.length /\ s.pe 13 = .p (.int .i64 j) /\ s.h (.slot 4 0) = some (0,Ob.box [.p (Ap t.nodes),.p (.int .i64 t.next)]) /\ s.h (.slot 64 1) = some (v64_1,Ob.arr 1 (List.map (.int .i64) A))
  refine Am (A.length) J ?_ ?_
  ·refine (hJ _ _).2 ⟨nv (s.h (.slot 64 1)),?_⟩
   and_intros
   ·rfl
   all_goals first | exact cl0 | (simp -implicitDefEqProofs (disch:=omega) only [hH,lma,go_sem] <;> first | (simp [Ab]; done) | (simp [Ab]; omega))
  intro j s hj hJk
  obtain ⟨v64_1,hq,hH⟩:=(hJ _ _).1 hJk
  clear hJk
  simp -implicitDefEqProofs (disch:=omega) only [hH,go_sem]
  refine Af (fun hjl=>?_) (fun hjg=>?_)
  ·have hx : A[j]? = some A[j]:=lgg hjl
   rw [ldg hjl,List.all_cons] at hq
   have hsu:=hsum A[j] (lgk hjl)
   generalize A[j] = g at hx hq hsu
   have hgd:=Kj ds g hdl
   generalize El t fs g = S at hsu hq
   generalize getD ds g = dd at hgd hq
   by_cases hlt : S < dd.depth
   ·rw [decide_eq_true hlt,bta] at hq
    have hn : ¬ dd.depth <= S:=by omega
    simp -implicitDefEqProofs (disch:=omega) only [hH,hjl,hx,hsu,hgd,hn,go_sem]
    try refine ai ?_
    refine (hJ _ _).2 ⟨v64_1,?_⟩
    and_intros
    .exact hq
    all_goals first | exact cl0 | (simp -implicitDefEqProofs (disch:=omega) only [hH,lma,go_sem] <;> first | (simp [Ab]; done) | (simp [Ab]; omega))
   ·rw [decide_eq_false hlt,bfa] at hq
    have hn : dd.depth <= S:=by omega
    simp -implicitDefEqProofs (disch:=omega) only [hH,hjl,hx,hsu,hgd,hn,hq,go_sem]
  ·rw [ldl (by omega),List.all_nil] at hq
   simp -implicitDefEqProofs (disch:=omega) only [hH,hjg,hq,go_sem]
theorem Oa {b : Bk} {n : Int} (hn : n <= 4096) : Db b n = 0 ↔ n <= AN b:=by
 unfold Db AN
 by_cases e : b.rate = maxR
 ·rw [if_pos e,if_pos e]; omega
 ·rw [if_neg e,if_neg e]
  split <;> omega
theorem WL {c : Cp} {r : Rq} (hr : AC r = true) : EE c r = (decide (r.pages <= AN (kpB c r.write)) && decide (1 <= AN (koB c r.write))):=by
 have:=(C0.1 hr).2.2.2.1
 unfold EE
 have h1:=Oa (b:=kpB c r.write) (n:=r.pages) (by omega)
 have h2:=Oa (b:=koB c r.write) (n:=1) (by omega)
 rw [Bool.eq_iff_iff,decide_eq_true_eq,bat,decide_eq_true_eq,decide_eq_true_eq,h1,h2]
theorem VY {t : Tr} {x : Dv} (h : DvOk t x) (hs : x.Small) {r : Rq} (hr : AC r = true) (hk : Ak t.nodes r.group = true) : V 168 [t.vv,x.vv,r.vv] [] = some (.p (.bool (C8 t x r)),[]):=by
 refine Ae (vf:=vf168) rfl ?_
 have hlen:=h.tree.len
 have hl:=h.len
 have c0:=WO t x (by omega) hs.f
 have c1:=WW h.tree x.depths x.flights r.group h.dp hs.p (by omega) hk
 have ca:=GX h.tree hk
 have hal:=D4 t.nodes t.nodes.length r.group
 have hbl:=hs.b
 obtain ⟨b1,_,_⟩:=CT.1 h.bk
 unfold C8
 generalize ancF t.nodes t.nodes.length r.group = A at hal ca
 generalize EI t x.depths x.flights r.group = al at c1
 generalize flyL t x.flights = fl at c0 c1
 simp -implicitDefEqProofs (disch:=omega) only [vf168,Q5,c0,c1,ca,go_sem]
 obtain ⟨I,hI⟩:=lpI fun k s=>s.pe 4 = .ptr (.slot 4 0) 0 0 /\ s.pe 5 = .ptr (.slot 5 0) 0 0 /\ s.pe 7 = .p (.bool (al && (A.take k).all (Ct x.buckets r))) /\ s.pe 8 = .p (.int .i64 0) /\ s.pe 9 = .own (.slot 29 1) 0 0 A.length /\ s.pe 10 = .p (.int .i64 k) /\ s.h (.slot 4 0) = some (0,Ob.box [.p (.int .i64 x.m.rb),.p (.int .i64 x.m.rp),.p (.int .i64 x.m.wb),.p (.int .i64 x.m.wp),.p (.int .i64 x.m.seek),.p (.int .i64 x.speed),.p (.int .i64 x.margin),.p (.int .i64 x.now),.p (.int .i64 x.free),.p (.int .i64 x.head),.p (Aj x.weights),.p (A5 x.buckets),.p (AF x.depths),.p (Aj x.v),.p (AJ x.queue),.p (A4 x.flights)]) /\ s.h (.slot 5 0) = some (0,Ob.box [.p (.int .i64 r.task),.p (.int .i64 r.group),.p (.int .i64 r.at_),.p (.int .i64 r.pages),.p (.bool r.write),.p (.int .i64 r.time)]) /\ s.h (.slot 29 1) = some (0,Ob.arr 1 (List.map (.int .i64) A))
 refine Am (A.length) I ?_ ?_
 ·refine (hI _ _).2 ?_
  and_intros
  all_goals first | exact cl0 | (simp -implicitDefEqProofs (disch:=omega) only [lma,go_sem] <;> first | (simp [Ab]; done) | (simp [Ab]; omega))
 intro k s hk hIk
 obtain ⟨h4,h5,h7,hH⟩:=(hI _ _).1 hIk
 clear hIk
 simp -implicitDefEqProofs (disch:=omega) only [h4,h5,h7,hH,go_sem]
 refine Af (fun hlt=>?_) (fun hge=>?_)
 ·have hm : A[k]? = some A[k]:=lgg hlt
  have htk:=BT hm
  generalize A[k] = g at hm htk
  have hst : (al && (A.take (k + 1)).all (Ct x.buckets r)) = ((al && (A.take k).all (Ct x.buckets r)) && Ct x.buckets r g):=by rw [htk,List.all_append,Bool.and_assoc]; simp
  have i1:=JM x g hs
  rcases F3 (fun c : Cp=>decide (c.group = g)) x.buckets with ⟨e1,hno⟩ | ⟨q,c,e1,e2,hmg,hbe⟩
  ·have hR : Ct x.buckets r g = true:=by unfold Ct; rw [J8 hno]
   rw [hR,bau] at hst
   rw [e1] at i1
   have d1 : decide ((0 : Int) <= -1) = false:=rfl
   generalize (al && (A.take k).all (Ct x.buckets r)) = z at h7 hst
   simp -implicitDefEqProofs (disch:=omega) only [h4,h5,h7,hH,hlt,hm,i1,d1,go_sem]
   try refine ai ?_
   refine (hI _ _).2 ?_
   and_intros
   all_goals first | exact cl0 | (simp -implicitDefEqProofs (disch:=omega) only [h4,h5,h7,hH,hst,lma,go_sem] <;> first | (simp [Ab]; done) | (simp [Ab]; omega))
  ·have hR : Ct x.buckets r g = EE c r:=by rw [WL hr]; unfold Ct; rw [Iw e2 hmg hbe]
   rw [hR] at hst
   rw [e1] at i1
   have hq:=(lgs.1 e2).1
   have i2:=Oe c r (b1 c (lmg e2)).2 hr
   generalize EE c r = sp at i2 hst
   generalize (al && (A.take k).all (Ct x.buckets r)) = z at h7 hst
   cases z with
   | true =>
    rw [bta] at hst
    simp -implicitDefEqProofs (disch:=omega) only [h4,h5,h7,hH,hlt,hm,i1,hq,e2,Cp.pv,i2,go_sem]
    try refine ai ?_
    refine (hI _ _).2 ?_
    and_intros
    all_goals first | exact cl0 | (simp -implicitDefEqProofs (disch:=omega) only [h4,h5,h7,hH,hst,lma,go_sem] <;> first | (simp [Ab]; done) | (simp [Ab]; omega))
   | false =>
    rw [bfa] at hst
    simp -implicitDefEqProofs (disch:=omega) only [h4,h5,h7,hH,hlt,hm,i1,hq,e2,Cp.pv,i2,go_sem]
    try refine ai ?_
    refine (hI _ _).2 ?_
    and_intros
    all_goals first | exact cl0 | (simp -implicitDefEqProofs (disch:=omega) only [h4,h5,h7,hH,hst,lma,go_sem] <;> first | (simp [Ab]; done) | (simp [Ab]; omega))
 ·rw [ltl (by omega)] at h7
  generalize (al && A.all (Ct x.buckets r)) = z at h7 ⊢
  cases z with
  | true=>simp -implicitDefEqProofs (disch:=omega) only [h4,h5,h7,hH,hge,go_sem]
  | false=>simp -implicitDefEqProofs (disch:=omega) only [h4,h5,h7,hH,hge,go_sem]
def goR (t : Tr) (x : Dv) (g : Int) : Bool:=(A2 x.queue g).any (C8 t x)
def EF (t : Tr) (x : Dv) : List Int:=(t.nodes.filter fun n=>goR t x n.id).map (·.id)
theorem Vr {g : Int} : ∀ {l : List Rq},A2 l g = none -> Cd (fun c : Rq=>decide (c.group = g)) l = -1:=by
 intro l h
 rcases F3 (fun c : Rq=>decide (c.group = g)) l with ⟨e,_⟩ | ⟨k,m,_,hm,hg,_⟩
 ·exact e
 ·have key : ∀ {l : List Rq},m ∈ l -> m.group = g -> A2 l g ≠ none:=by
   intro l
   induction l with
   | nil=>intro h; cases h
   | cons x l ih =>
    intro hx hg
    unfold A2
    split
    ·simp
    ·rcases lmk.1 hx with rfl | hx
     .contradiction
     .exact ih hx hg
  exact absurd h (key (lmg hm) (by simpa using hg))
theorem WR {t : Tr} {x : Dv} (h : DvOk t x) (hs : x.Small) : V 138 [t.vv,x.vv] [] = some (.fresh 1 ((EF t x).map (.int .i64)),[]):=by
 refine Ae (vf:=vf138) rfl ?_
 have hlen:=h.tree.len
 have hl:=h.len
 simp -implicitDefEqProofs (disch:=omega) only [vf138,Rf,go_sem]
 obtain ⟨I,hI⟩:=lpI fun k s=>∃ (acc : List Int) (w : Nat),(acc = ((t.nodes.take k).filter fun n=>goR t x n.id).map (·.id)) /\ acc.length <= k /\ s.pe 2 = .ptr (.slot 2 0) 0 0 /\ s.pe 3 = .ptr (.slot 3 0) 0 0 /\ s.pe 5 = .own (.slot 5 0) w 0 acc.length /\ s.pe 6 = .p (.int .i64 k) /\ s.h (.slot 2 0) = some (0,Ob.box [.p (Ap t.nodes),.p (.int .i64 t.next)]) /\ s.h (.slot 3 0) = some (0,Ob.box [.p (.int .i64 x.m.rb),.p (.int .i64 x.m.rp),.p (.int .i64 x.m.wb),.p (.int .i64 x.m.wp),.p (.int .i64 x.m.seek),.p (.int .i64 x.speed),.p (.int .i64 x.margin),.p (.int .i64 x.now),.p (.int .i64 x.free),.p (.int .i64 x.head),.p (Aj x.weights),.p (A5 x.buckets),.p (AF x.depths),.p (Aj x.v),.p (AJ x.queue),.p (A4 x.flights)]) /\ s.h (.slot 5 0) = some (w,Ob.arr 1 (acc.map (.int .i64)))
 refine Am (t.nodes.length) I ?_ ?_
 ·refine (hI _ _).2 ⟨[],0,?_⟩
  and_intros
  ·rfl
  ·exact cl3
  all_goals first | exact cl0 | (simp -implicitDefEqProofs (disch:=omega) only [lma,go_sem] <;> first | (simp [Ab]; done) | (simp [Ab]; omega))
 intro k s hk hIk
 obtain ⟨acc,w,ha,hal,hH⟩:=(hI _ _).1 hIk
 clear hIk
 simp -implicitDefEqProofs (disch:=omega) only [hH,go_sem]
 refine Af (fun hlt=>?_) (fun hge=>?_)
 ·have hm : t.nodes[k]? = some t.nodes[k]:=lgg hlt
  have htk:=BT hm
  generalize t.nodes[k] = n at hm htk
  have i1:=Of x n.id hs
  cases hf : A2 x.queue n.id with
  | none =>
   have hR : goR t x n.id = false:=by unfold goR; rw [hf]; rfl
   rw [Vr hf] at i1
   have d1 : decide ((0 : Int) <= -1) = false:=rfl
   simp -implicitDefEqProofs (disch:=omega) only [hH,hlt,hm,Nd.vv,i1,d1,go_sem]
   try refine ai ?_
   refine (hI _ _).2 ⟨acc,w,?_⟩
   and_intros
   ·exact by rw [ha,htk,List.filter_append,lma]; simp [hR]
   ·omega
   all_goals first | exact cl0 | (simp -implicitDefEqProofs (disch:=omega) only [hH,lma,go_sem] <;> first | (simp [Ab]; done) | (simp [Ab]; omega))
  | some r =>
   have hR : goR t x n.id = C8 t x r:=by unfold goR; rw [hf]; rfl
   obtain ⟨q,e1,e2,_⟩:=J7 hf
   rw [e1] at i1
   have hq:=(lgs.1 e2).1
   obtain ⟨hr1,hr2⟩:=h.q r (lmg e2)
   have i2:=VY h hs hr1 hr2
   cases hp : C8 t x r with
   | true =>
    rw [hp] at i2 hR
    simp -implicitDefEqProofs (disch:=omega) only [hH,hlt,hm,Nd.vv,i1,hq,e2,i2,go_sem]
    try refine ai ?_
    refine (hI _ _).2 ⟨acc ++ [n.id],w + 1,?_⟩
    and_intros
    .exact by rw [ha,htk,List.filter_append,lma]; simp [hR]
    .exact by rw [lla,List.length_singleton]; omega
    all_goals first | exact cl0 | (simp -implicitDefEqProofs (disch:=omega) only [hH,lma,go_sem] <;> first | (simp [Ab]; done) | (simp [Ab]; omega))
   | false =>
    rw [hp] at i2 hR
    simp -implicitDefEqProofs (disch:=omega) only [hH,hlt,hm,Nd.vv,i1,hq,e2,i2,go_sem]
    try refine ai ?_
    refine (hI _ _).2 ⟨acc,w,?_⟩
    and_intros
    .exact by rw [ha,htk,List.filter_append,lma]; simp [hR]
    .omega
    all_goals first | exact cl0 | (simp -implicitDefEqProofs (disch:=omega) only [hH,lma,go_sem] <;> first | (simp [Ab]; done) | (simp [Ab]; omega))
 ·rw [ltl (by omega)] at ha
  have hA : EF t x = acc:=ha.symm
  rw [hA]
  simp -implicitDefEqProofs (disch:=omega) only [hH,hge,go_sem]
theorem W0 {t : Tr} {x : Dv} (h : DvOk t x) (hs : x.Small) {r : Rq} (hr : AC { r with time:=0 } = true) (hk : Ak t.nodes r.group = true) : V 134 [t.vv,x.vv,r.vv] [] = some (.p (.int .i64 0),[]):=by
 refine Ae (vf:=vf134) rfl ?_
 have i0:=IB h hs
 have i1:=Kh _ hr
 have i2:=Eu h.tree hk
 simp -implicitDefEqProofs (disch:=omega) only [vf134,Ri,i0,i1,i2,go_sem]
theorem WY {t : Tr} {x : Dv} (h : DvOk t x) (hs : x.Small) {r : Rq} (hr : AC { r with time:=0 } = true) (hk : Ak t.nodes r.group = true) (hlt : x.queue.length + x.flights.length < 256) : V 59 [t.vv,x.vv,r.vv] [] = some (.tup [(BX x r).fv,.p (.int .i64 0)],[]):=by
 refine Ae (vf:=vf59) rfl ?_
 have i0:=W0 h hs hr hk
 have i1:=H0 x hs hs.q hs.f
 have n1 : ¬ (256 : Int) <= (x.queue.length : Int) + (x.flights.length : Int):=by omega
 simp -implicitDefEqProofs (disch:=omega) only [vf59,RN,i0,i1,n1,go_sem]
 simp [Rq.pv]
theorem Og {t : Tr} {d : Dv} (h : DvOk t d) (hs : d.Small) (hb : ¬ d.now * d.speed <= d.free) {g : Int} {r : Rq} (hq : A2 d.queue g = some r) {v : List Ch} {e : Int} (hi : B6 t d.v g (Cq t d g) (BG d r) (d.now * d.speed) d.margin = (v,e)) :
  V 139 [t.vv,d.vv,.p (.int .i64 g)] [] = some (if e = 0 then .tup [(Do t d g r v).fv,.p (.bool true)] else .tup [d.vv,.p (.bool false)],[]):=by
 refine Ae (vf:=vf139) rfl ?_
 have hlen:=h.tree.len
 have hql:=h.len
 obtain ⟨hs1,hs2,hs3,hs4,hs5,hs6⟩:=id hs
 obtain ⟨hmem,hgr⟩:=F4 hq
 obtain ⟨hsr,hkn⟩:=h.q r hmem
 rw [hgr] at hkn
 obtain ⟨n,hn,hid⟩:=CS hkn
 obtain ⟨ni,hni⟩:=lgm hn
 obtain ⟨hmd,hsp,hmg⟩:=Es.1 h.cfg
 have i0:=Of d g hs
 obtain ⟨i,hix,hir,hrem⟩:=J7 hq
 rw [hix] at i0
 have hil:=(lgs.1 hir).1
 have i1:=Yr d.m r d.head hmd hsr h.head
 have i2:=ZV d hs
 have hact : (actL d).length < 1000000:=by
  unfold actL
  rw [lla,llm,llm]
  omega
 have hfl:=(Di.1 h.fl).1
 have hactk : ∀ a ∈ actL d,Ak t.nodes a = true:=fun a ha=>by
  unfold actL at ha
  rcases lmp.1 ha with ha | ha
  ·obtain ⟨q,hq,rfl⟩:=lmm.1 ha
   exact (h.q q hq).2
  ·obtain ⟨f,hf,rfl⟩:=lmm.1 ha
   exact (hfl f hf).1.2
 have i3:=WX h.tree h.w hs1 hactk hact hni
 rw [hid] at i3
 have hsh : shr t (Ar d.weights) (onB t (actL d)) g = Cq t d g:=rfl
 rw [hsh] at i3
 have i4:=WS t d.v g (Cq t d g) (BG d r) (d.now * d.speed) d.margin (by omega) hs4
 rw [hi] at i4
 simp only at i4
 have hco:=KY h hsr
 have hcd : max 1 (Cw d.m r d.head) = BG d r:=Int.max_comm _ _
 have hbr:=Fk h
 generalize actL d = act at i2 i3 hact
 generalize Cq t d g = share at i3 i4 hi
 by_cases he : e = 0
 ·rw [if_pos he]
  subst he
  have hvl : v.length < 1000000:=by
   have:=N5 (t:=t) (a:=d.v) (id:=g) (share:=share) (cost:=BG d r) (now:=d.now * d.speed) (margin:=d.margin) (by rw [hi])
   rw [hi] at this
   exact Lg h.tree this
  have d0 : decide ((0 : Int) = 0) = true:=rfl
  have i5:=H0 d hs hs5 hs6
  have ca:=GX h.tree hkn
  have hal:=D4 t.nodes t.nodes.length g
  have hM:=Nz t d.buckets r
  have hSp : EZ t d.buckets r = (ancF t.nodes t.nodes.length g).foldl (fun l g=>BN l g fun c=>Bw c r) d.buckets:=by rw [<- hgr]; rfl
  have hsr':=C0.1 hsr
  have hok:=fun gs=>Ia (t:=t) (r:=r) (by omega) gs d.buckets h.bk
  generalize ancF t.nodes t.nodes.length g = A at ca hal hSp
  simp -implicitDefEqProofs (disch:=omega) only [vf139,LB,i0,hil,hir,i1,i2,i3,hcd,i4,i5,ca,d0,go_sem]
  obtain ⟨I,hI⟩:=lpI fun k s=>∃ (M : List Cp),M = (A.take k).foldl (fun l g=>BN l g fun c=>Bw c r) d.buckets /\ M.length = d.buckets.length /\ s.pe 4 = .ptr (.slot 4 0) 0 0 /\ s.pe 6 = .ptr (.slot 6 0) 0 0 /\ s.pe 8 = .p (.int .i64 ↑i) /\ s.pe 9 = .ptr (.slot 9 0) 0 0 /\ s.pe 10 = .p (.int .i64 (BG d r)) /\ s.pe 16 = .own (.slot 79 1) 0 0 A.length /\ s.pe 17 = .p (.int .i64 k) /\ s.h (.slot 4 0) = some (0,Ob.box [.p (.int .i64 d.m.rb),.p (.int .i64 d.m.rp),.p (.int .i64 d.m.wb),.p (.int .i64 d.m.wp),.p (.int .i64 d.m.seek),.p (.int .i64 d.speed),.p (.int .i64 d.margin),.p (.int .i64 d.now),.p (.int .i64 d.free),.p (.int .i64 d.head),.own (.slot 74 11) 0 0 d.weights.length,.own (.slot 74 12) 0 0 d.buckets.length,.own (.slot 74 13) 0 0 d.depths.length,.own (.slot 67 1) 0 0 v.length,.own (.slot 74 15) 0 0 d.queue.length,.own (.slot 74 16) 0 0 d.flights.length]) /\ s.h (.slot 6 0) = some (0,Ob.box [.p (.int .i64 0),.p (.int .i64 0),.p (.int .i64 0),.p (.int .i64 0),.p (.int .i64 0),.p (.int .i64 0),.p (.int .i64 0),.p (.int .i64 0),.p (.int .i64 0),.p (.int .i64 0),.own (.slot 6 11) 0 0 0,.own (.slot 6 12) 0 0 0,.own (.slot 6 13) 0 0 0,.own (.slot 6 14) 0 0 0,.own (.slot 6 15) 0 0 0,.own (.slot 6 16) 0 0 0]) /\ s.h (.slot 6 11) = some (0,Ob.arr 2 []) /\ s.h (.slot 6 12) = some (0,Ob.arr 21 []) /\ s.h (.slot 6 13) = some (0,Ob.arr 3 []) /\ s.h (.slot 6 14) = some (0,Ob.arr 2 []) /\ s.h (.slot 6 15) = some (0,Ob.arr 6 []) /\ s.h (.slot 6 16) = some (0,Ob.arr 7 []) /\ s.h (.slot 9 0) = some (0,Ob.box [.p (.int .i64 r.task),.p (.int .i64 r.group),.p (.int .i64 r.at_),.p (.int .i64 r.pages),.p (.bool r.write),.p (.int .i64 r.time)]) /\ s.h (.slot 67 1) = some (0,Ob.arr 2 (List.map Ch.pv v)) /\ s.h (.slot 74 11) = some (0,Ob.arr 2 (List.map Ch.pv d.weights)) /\ s.h (.slot 74 12) = some (0,Ob.arr 21 (List.map Cp.pv M)) /\ s.h (.slot 74 13) = some (0,Ob.arr 3 (List.map Dp.pv d.depths)) /\ s.h (.slot 74 15) = some (0,Ob.arr 6 (List.map Rq.pv d.queue)) /\ s.h (.slot 74 16) = some (0,Ob.arr 7 (List.map Fl.pv d.flights)) /\ s.h (.slot 79 1) = some (0,Ob.arr 1 (List.map (.int .i64) A))
  refine Am (A.length) I ?_ ?_
  ·refine (hI _ _).2 ⟨d.buckets,?_⟩
   and_intros
   ·exact cl3
   ·exact cl3
   all_goals first | exact cl0 | (simp -implicitDefEqProofs (disch:=omega) only [lma,go_sem] <;> first | (simp [Ab,List.map_set,Cp.pv]; done) | (simp [Ab,List.map_set,Cp.pv]; omega))
  intro k s hk hIk
  obtain ⟨M,hMe,hMl,hH⟩:=(hI _ _).1 hIk
  clear hIk
  have hbkM:=(CT.1 (hok (A.take k))).1
  rw [<- hMe] at hbkM
  have htM : List.take d.buckets.length (List.map Cp.pv M) = List.map Cp.pv M:=ltl (by rw [llm]; omega)
  have hxM : Dv.Small { d with v:=v,buckets:=M }:=⟨hs1,by show M.length < _; omega,hs3,hvl,hs5,hs6⟩
  simp -implicitDefEqProofs (disch:=omega) only [hH,go_sem]
  refine Af (fun hlt=>?_) (fun hge=>?_)
  ·have hm : A[k]? = some A[k]:=lgg hlt
   have htk:=BT hm
   generalize A[k] = g' at hm htk
   have k0:=JM { d with v:=v,buckets:=M } g' hxM
   rcases F3 (fun c : Cp=>decide (c.group = g')) M with ⟨e,hno⟩ | ⟨q,c,e,hmi,hmg,hbe⟩
   ·have hst : BN M g' (fun c=>Bw c r) = M:=Kf hno
    simp only [e] at k0
    have hd : decide ((0 : Int) <= -1) = false:=rfl
    simp -implicitDefEqProofs (disch:=omega) only [hH,hlt,hm,k0,hd,htM,go_sem]
    try refine ai ?_
    refine (hI _ _).2 ⟨M,?_⟩
    and_intros
    ·exact by rw [htk,lfa,<- hMe]; exact hst.symm
    ·exact hMl
    all_goals first | exact cl0 | (simp -implicitDefEqProofs (disch:=omega) only [hH,lma,go_sem] <;> first | (simp [Ab,List.map_set,Cp.pv]; done) | (simp [Ab,List.map_set,Cp.pv]; omega))
   ·have hst : BN M g' (fun c=>Bw c r) = M.set q (Bw c r):=K5 hmi hmg hbe
    simp only [e] at k0
    have hil:=(lgs.1 hmi).1
    rw [hMl] at hil
    have i5:=Oe c r (hbkM c (lmg hmi)).2 hsr
    simp -implicitDefEqProofs (disch:=omega) only [hH,hlt,hm,k0,hil,hmi,Cp.pv,i5,htM,go_sem]
    try refine ai ?_
    refine (hI _ _).2 ⟨M.set q (Bw c r),?_⟩
    and_intros
    ·exact by rw [htk,lfa,<- hMe]; exact hst.symm
    ·exact by rw [List.length_set]; exact hMl
    all_goals first | exact cl0 | (simp -implicitDefEqProofs (disch:=omega) only [hH,lma,go_sem] <;> first | (simp [Ab,List.map_set,Cp.pv]; done) | (simp [Ab,List.map_set,Cp.pv]; omega))
  ·rw [ltl (by omega),<- hSp] at hMe
   have hrl:=EW hq
   have hfr:=H5 h hb hsr
   have hdn:=H6 h hb hsr
   have hnw:=h.now
   have hn1 : (d.now - 1) * d.speed = d.now * d.speed - d.speed:=by rw [Int.sub_mul,Int.one_mul]
   have hf0:=h.free
   have hfd : max d.free ((d.now - 1) * d.speed) + BG d r = Bh d r:=rfl
   have hdd : max (d.now + 1) ((Bh d r + d.speed - 1) / d.speed) = AY d r:=rfl
   have hqu : (Bh d r + d.speed - 1).tdiv d.speed = (Bh d r + d.speed - 1) / d.speed:=Int.tdiv_eq_ediv_of_nonneg (by omega)
   have hq0 : 0 <= (Bh d r + d.speed - 1) / d.speed:=Int.ediv_nonneg (by omega) (by omega)
   have hq1 : (Bh d r + d.speed - 1) / d.speed <= Bh d r + d.speed - 1:=Int.ediv_le_self _ (by omega)
   have hsp0 : ¬ d.speed = 0:=by omega
   have eT : ((i : Int) + 1).toNat = i + 1:=by omega
   have hlq : i + (d.queue.length - (i + 1)) = (Bd d.queue g).length:=by omega
   have hmq : List.take i (List.map Rq.pv d.queue) ++ List.take (d.queue.length - (i + 1)) (List.drop (i + 1) (List.map Rq.pv d.queue)) = List.map Rq.pv (Bd d.queue g):=by
    rw [ltl (i:=d.queue.length - (i + 1)) (by rw [lld,llm]; omega),hrem,lma,List.map_take,List.map_drop]
   have hso:=(Di.1 h.fl).2.1
   have hse:=NA hso (AY d r)
   have htl:=fun k=>HA (p:=fun f : Fl=>decide (f.done <= AY d r)) (l:=d.flights) (k:=k)
   have hNl : (d.flights.takeWhile fun f=>decide (f.done <= AY d r)).length <= d.flights.length:=(List.takeWhile_sublist _).length_le
   have htd:=Gg (p:=fun f : Fl=>decide (f.done <= AY d r)) (l:=d.flights)
   have hin : BR d.flights ⟨r,AY d r⟩ = d.flights.take (d.flights.takeWhile fun f=>decide (f.done <= AY d r)).length ++ ⟨r,AY d r⟩ :: d.flights.drop (d.flights.takeWhile fun f=>decide (f.done <= AY d r)).length:=by rw [htd.1,htd.2]; rfl
   have hB : (Do t d g r v).fv = .agg [.p (.int .i64 d.m.rb),.p (.int .i64 d.m.rp),.p (.int .i64 d.m.wb),.p (.int .i64 d.m.wp),.p (.int .i64 d.m.seek),.p (.int .i64 d.speed),.p (.int .i64 d.margin),.p (.int .i64 d.now),.p (.int .i64 (Bh d r)),.p (.int .i64 (r.at_ + r.pages)),.fresh 2 (d.weights.map Ch.pv),.fresh 21 (M.map Cp.pv),.fresh 3 (d.depths.map Dp.pv),.fresh 2 (v.map Ch.pv),.fresh 6 ((Bd d.queue g).map Rq.pv),.fresh 7 ((BR d.flights ⟨r,AY d r⟩).map Fl.pv)]:=by rw [hMe]; rfl
   rw [hB,hin]
   generalize hN : (d.flights.takeWhile fun f=>decide (f.done <= AY d r)).length = N at hse htl hNl hin ⊢
   simp -implicitDefEqProofs (disch:=omega) only [hH,hge,hil,hfd,hqu,hsp0,hdd,eT,Nat.sub_zero,lld,llm,Nat.min_self,go_sem]
   rw [hlq,hmq]
   obtain ⟨A,hA⟩:=lpI fun k s=>∃ (m : Nat) (v19_0 : Nat),m + k = d.flights.length /\ s.pe 4 = .ptr (.slot 4 0) 0 0 /\ s.pe 6 = .ptr (.slot 6 0) 0 0 /\ s.pe 19 = .ptr (.slot 19 0) v19_0 0 /\ s.pe 20 = .p (.int .i64 (m : Int)) /\ s.h (.slot 4 0) = some (0,Ob.box [.p (.int .i64 d.m.rb),.p (.int .i64 d.m.rp),.p (.int .i64 d.m.wb),.p (.int .i64 d.m.wp),.p (.int .i64 d.m.seek),.p (.int .i64 d.speed),.p (.int .i64 d.margin),.p (.int .i64 d.now),.p (.int .i64 (Bh d r)),.p (.int .i64 (r.at_ + r.pages)),.own (.slot 74 11) 0 0 d.weights.length,.own (.slot 74 12) 0 0 d.buckets.length,.own (.slot 74 13) 0 0 d.depths.length,.own (.slot 67 1) 0 0 v.length,.own (.slot 74 15) 1 0 (Bd d.queue g).length,.own (.slot 74 16) 0 0 d.flights.length]) /\ s.h (.slot 6 0) = some (0,Ob.box [.p (.int .i64 0),.p (.int .i64 0),.p (.int .i64 0),.p (.int .i64 0),.p (.int .i64 0),.p (.int .i64 0),.p (.int .i64 0),.p (.int .i64 0),.p (.int .i64 0),.p (.int .i64 0),.own (.slot 6 11) 0 0 0,.own (.slot 6 12) 0 0 0,.own (.slot 6 13) 0 0 0,.own (.slot 6 14) 0 0 0,.own (.slot 6 15) 0 0 0,.own (.slot 6 16) 0 0 0]) /\ s.h (.slot 19 0) = some (v19_0,Ob.box [.p (.int .i64 r.task),.p (.int .i64 r.group),.p (.int .i64 r.at_),.p (.int .i64 r.pages),.p (.bool r.write),.p (.int .i64 r.time),.p (.int .i64 (AY d r))]) /\ s.h (.slot 67 1) = some (0,Ob.arr 2 (List.map Ch.pv v)) /\ s.h (.slot 74 11) = some (0,Ob.arr 2 (List.map Ch.pv d.weights)) /\ s.h (.slot 74 12) = some (0,Ob.arr 21 (List.map Cp.pv M)) /\ s.h (.slot 74 13) = some (0,Ob.arr 3 (List.map Dp.pv d.depths)) /\ s.h (.slot 74 15) = some (1,Ob.arr 6 (List.map Rq.pv (Bd d.queue g))) /\ s.h (.slot 74 16) = some (0,Ob.arr 7 (List.map Fl.pv d.flights))
   refine Am ((d.flights.length - N)) A ?_ ?_
   ·refine (hA _ _).2 ⟨d.flights.length,nv (s.h (.slot 19 0)),?_⟩
    and_intros
    ·exact cl3
    all_goals first | exact cl0 | (simp -implicitDefEqProofs (disch:=omega) only [hH,lma,go_sem] <;> first | (simp [Ab,List.map_set,Cp.pv]; done) | (simp [Ab,List.map_set,Cp.pv]; omega))
   intro k s hk hAk
   obtain ⟨m,v19_0,hmk,hH⟩:=(hA _ _).1 hAk
   clear hAk
   by_cases hkN : k < d.flights.length - N
   ·have hfm : d.flights[m - 1]? = some d.flights[m - 1]:=lgg (by omega)
    have hd:=hse (m - 1) _ (by omega) hfm
    generalize d.flights[m - 1] = f at hfm hd
    have hm0 : (0 : Int) < m:=by omega
    have hm1 : (0 : Int) <= (m : Int) - 1:=by omega
    have hm2 : ((m : Int) - 1).toNat = m - 1:=by omega
    have hm3 : m - 1 < d.flights.length:=by omega
    simp -implicitDefEqProofs (disch:=omega) only [hH,hm0,hm1,hm2,hm3,hfm,hd,Fl.pv,go_sem]
    try refine ai ?_
    refine (hA _ _).2 ⟨m - 1,v19_0,?_⟩
    and_intros
    ·omega
    all_goals first | exact cl0 | (simp -implicitDefEqProofs (disch:=omega) only [hH,lma,go_sem] <;> first | (simp [Ab,List.map_set,Cp.pv]; done) | (simp [Ab,List.map_set,Cp.pv]; omega))
   ·have hmN : m = N:=by omega
    subst hmN
    have hfin : List.take (m + min (1 + (d.flights.length - m)) (d.flights.length - m + 1)) (List.take m (List.map Fl.pv d.flights) ++ List.take (1 + (d.flights.length - m)) (Fl.pv ⟨r,AY d r⟩ :: List.take (d.flights.length - m) (List.drop m (List.map Fl.pv d.flights)))) = List.map Fl.pv (List.take m d.flights ++ ⟨r,AY d r⟩ :: List.drop m d.flights):=by
     rw [ltl (i:=d.flights.length - m) (by simp),ltl (i:=1 + (d.flights.length - m)) (by simp; omega),ltl (by simp; omega),lma,lpc,List.map_take,List.map_drop]
    simp only [Fl.pv] at hfin
    by_cases hm00 : m = 0
    ·have hm0 : ¬ (0 : Int) < m:=by omega
     simp -implicitDefEqProofs (disch:=omega) only [hH,hm0,htM,Int.toNat_natCast,Nat.sub_zero,lld,llm,Nat.min_self,go_sem]
     rw [hfin]
    ·obtain ⟨f,hfm,hpf⟩:=htl (m - 1) (by omega)
     have hd : ¬ AY d r < f.done:=by have:=of_decide_eq_true hpf; omega
     have hm0 : (0 : Int) < m:=by omega
     have hm1 : (0 : Int) <= (m : Int) - 1:=by omega
     have hm2 : ((m : Int) - 1).toNat = m - 1:=by omega
     have hm3 : m - 1 < d.flights.length:=by omega
     simp -implicitDefEqProofs (disch:=omega) only [hH,hm0,hm1,hm2,hm3,hfm,hd,htM,Fl.pv,Int.toNat_natCast,Nat.sub_zero,lld,llm,Nat.min_self,go_sem]
     rw [hfin]
 ·rw [if_neg he]
  simp -implicitDefEqProofs (disch:=omega) only [vf139,LB,i0,hil,hir,i1,i2,i3,hcd,i4,he,go_sem]
theorem Xa {t : Tr} {a : List Ch} {now : Int} {l l' : List Int} (h : ∀ x,x ∈ l ↔ x ∈ l') : AV t a now 0 l = AV t a now 0 l':=by
 refine YD (l:=l) (KM t a now l) ?_
 have:=KM t a now l'
 unfold NInv at this ⊢
 simpa only [h] using this
theorem Wf {t : Tr} {d : Dv} (h : DvOk t d) {x : Int} : x ∈ EF t d ↔ ∃ r,A2 d.queue x = some r /\ C8 t d r = true:=by
 unfold EF
 simp only [lmm,List.mem_filter,goR,Option.any_eq_true]
 constructor
 ·rintro ⟨n,⟨_,r,h1,h2⟩,rfl⟩
  exact ⟨r,h1,h2⟩
 ·rintro ⟨r,h1,h2⟩
  obtain ⟨hm,hg⟩:=F4 h1
  have hk:=(h.q r hm).2
  rw [hg] at hk
  obtain ⟨n,hn,rfl⟩:=CS hk
  exact ⟨n,⟨hn,r,h1,h2⟩,rfl⟩
theorem W9 {t : Tr} {d : Dv} (h : DvOk t d) : AV t d.v (d.now * d.speed) 0 (EF t d) = AV t d.v (d.now * d.speed) 0 (BL (A8 t d [] d.queue)):=by
 refine Xa fun x=>?_
 rw [Wf h,Ov,J5]
 simp
theorem Vz {α : Type} {l : List α} {k : Nat} {x : α} (h : l[k]? = some x) : l.drop k = x :: l.drop (k + 1):=by
 obtain ⟨hl,rfl⟩:=lgs.1 h
 exact ldg hl
theorem V0 (t : Tr) (d : Dv) : (EF t d).length <= t.nodes.length:=by
 unfold EF
 rw [llm]
 exact List.length_filter_le _ _
theorem Yn (t : Tr) (a : List Ch) (list : List Int) (now : Int) (hn : t.nodes.length < 1000000) (ha : a.length < 1000000) (hl : list.length < 1000000) : V 21 [t.vv,.p (Aj a),.p (AM list),.p (.int .i64 now)] [] = some (.tup [.p (.int .i64 (AV t a now 0 list)),.p (.bool (!decide (AV t a now 0 list = 0)))],[]):=by
 refine Ae (vf:=vf21) rfl ?_
 simp -implicitDefEqProofs (disch:=omega) only [vf21,Sa,go_sem]
 obtain ⟨I,hI⟩:=lpI fun k s=>∃ (best : Int),AV t a now 0 list = AV t a now best (list.drop k) /\ s.pe 1 = .p (Aj a) /\ s.pe 2 = .p (AM list) /\ s.pe 3 = .p (.int .i64 now) /\ s.pe 4 = .ptr (.slot 4 0) 0 0 /\ s.pe 10 = .p (.int .i64 best) /\ s.pe 11 = .p (.bool (!decide (best = 0))) /\ s.pe 12 = .p (.int .i64 k) /\ s.h (.slot 4 0) = some (0,Ob.box [.p (Ap t.nodes),.p (.int .i64 t.next)])
 refine Am (list.length) I ?_ ?_
 ·refine (hI _ _).2 ⟨0,?_⟩
  and_intros
  ·exact cl3
  all_goals first | exact cl0 | (simp -implicitDefEqProofs (disch:=omega) only [lma,go_sem] <;> first | (simp [Ab]; done) | (simp [Ab]; omega))
 intro k s hk hIk
 obtain ⟨best,hN,hH⟩:=(hI _ _).1 hIk
 clear hIk
 simp -implicitDefEqProofs (disch:=omega) only [hH,go_sem]
 refine Af (fun hlt=>?_) (fun hge=>?_)
 ·have hm : list[k]? = some list[k]:=lgg hlt
  rw [ldg hlt,AV] at hN
  generalize list[k] = x at hm hN
  have d1:=PP t a x now hn ha
  have d2:=IA a x ha
  have d3:=IA a best ha
  cases hmay : CF t a x now with
  | false =>
   rw [hmay] at d1
   rw [if_neg (by rw [hmay]; exact fun h=>absurd h.1 (by decide))] at hN
   simp -implicitDefEqProofs (disch:=omega) only [hH,hlt,hm,d1,go_sem]
   try refine ai ?_
   refine (hI _ _).2 ⟨best,?_⟩
   and_intros
   ·exact hN
   all_goals first | exact cl0 | (simp -implicitDefEqProofs (disch:=omega) only [hH,lma,go_sem] <;> first | (simp [Ab]; done) | (simp [Ab]; omega))
  | true =>
   rw [hmay] at d1
   have hx0:=P9 hmay
   by_cases hb : best = 0 \/ An a x < An a best \/ (An a x = An a best /\ x < best)
   ·rw [if_pos ⟨hmay,hb⟩] at hN
    generalize An a x = p at d2 hb
    generalize An a best = q at d3 hb
    by_cases b1 : best = 0
    ·subst b1
     simp -implicitDefEqProofs (disch:=omega) only [hH,hlt,hm,d1,d2,d3,decide_true,go_sem]
     try refine ai ?_
     refine (hI _ _).2 ⟨x,?_⟩
     and_intros
     ·exact hN
     all_goals first | exact cl0 | (simp -implicitDefEqProofs (disch:=omega) only [hH,lma,go_sem] <;> first | (simp [Ab]; done) | (simp [Ab]; omega))
    ·by_cases b2 : p < q
     ·simp -implicitDefEqProofs (disch:=omega) only [hH,hlt,hm,d1,d2,d3,b1,b2,go_sem]
      try refine ai ?_
      refine (hI _ _).2 ⟨x,?_⟩
      and_intros
      .exact hN
      all_goals first | exact cl0 | (simp -implicitDefEqProofs (disch:=omega) only [hH,lma,go_sem] <;> first | (simp [Ab]; done) | (simp [Ab]; omega))
     ·have b3 : p = q:=by omega
      have b4 : x < best:=by omega
      simp -implicitDefEqProofs (disch:=omega) only [hH,hlt,hm,d1,d2,d3,b1,b2,b3,b4,Int.lt_irrefl,go_sem]
      try refine ai ?_
      refine (hI _ _).2 ⟨x,?_⟩
      and_intros
      .exact hN
      all_goals first | exact cl0 | (simp -implicitDefEqProofs (disch:=omega) only [hH,lma,go_sem] <;> first | (simp [Ab]; done) | (simp [Ab]; omega))
   ·rw [if_neg (fun h=>hb h.2)] at hN
    generalize An a x = p at d2 hb
    generalize An a best = q at d3 hb
    have b1 : ¬ best = 0:=by omega
    have b2 : ¬ p < q:=by omega
    by_cases b3 : p = q
    ·have b4 : ¬ x < best:=by omega
     simp -implicitDefEqProofs (disch:=omega) only [hH,hlt,hm,d1,d2,d3,b1,b3,b4,Int.lt_irrefl,go_sem]
     try refine ai ?_
     refine (hI _ _).2 ⟨best,?_⟩
     and_intros
     .exact hN
     all_goals first | exact cl0 | (simp -implicitDefEqProofs (disch:=omega) only [hH,lma,go_sem] <;> first | (simp [Ab]; done) | (simp [Ab]; omega))
    ·simp -implicitDefEqProofs (disch:=omega) only [hH,hlt,hm,d1,d2,d3,b1,b2,b3,go_sem]
     try refine ai ?_
     refine (hI _ _).2 ⟨best,?_⟩
     and_intros
     .exact hN
     all_goals first | exact cl0 | (simp -implicitDefEqProofs (disch:=omega) only [hH,lma,go_sem] <;> first | (simp [Ab]; done) | (simp [Ab]; omega))
 ·rw [List.drop_eq_nil_of_le (by omega),AV] at hN
  rw [hN]
  simp -implicitDefEqProofs (disch:=omega) only [hH,hge,go_sem]
theorem Kx {α : Type} {p : α -> Bool} {l : List α} {k : Nat} {m : α} (hm : l[k]? = some m) : ((l.take (k + 1)).filter p).length = ((l.take k).filter p).length + if p m = true then 1 else 0:=by
 rw [BT hm,List.filter_append,lla]
 by_cases h : p m = true
 .rw [if_pos h,List.filter_cons_of_pos h]; rfl
 .rw [if_neg h,List.filter_cons_of_neg h]; rfl
theorem Ld {α : Type} (p : α -> Bool) (l : List α) (k : Nat) : ((l.take k).filter p).length <= l.length:=by
 have:=List.length_filter_le p (l.take k)
 rw [llt] at this
 omega
def pendD (d : Dv) (task : Int) : Nat:=(d.queue.filter fun r=>decide (r.task = task)).length + (d.flights.filter fun f=>decide (f.r.task = task)).length
theorem V2 (d : Dv) (task : Int) (hq : d.queue.length < 1000000) (hf : d.flights.length < 1000000) : V 41 [d.vv,.p (.int .i64 task)] [] = some (.p (.int .i64 (pendD d task : Nat)),[]):=by
 refine Ae (vf:=vf41) rfl ?_
 simp -implicitDefEqProofs (disch:=omega) only [vf41,RZ,llm,go_sem]
 obtain ⟨I,hI⟩:=lpI fun k s=>s.pe 1 = .p (.int .i64 task) /\ s.pe 2 = .ptr (.slot 2 0) 0 0 /\ s.pe 5 = .p (.int .i64 (((d.queue.take k).filter fun r=>decide (r.task = task)).length : Nat)) /\ s.pe 11 = .p (AJ d.queue) /\ s.pe 12 = .p (.int .i64 ↑d.queue.length) /\ s.pe 13 = .p (.int .i64 k) /\ s.h (.slot 2 0) = some (0,Ob.box [.p (.int .i64 d.m.rb),.p (.int .i64 d.m.rp),.p (.int .i64 d.m.wb),.p (.int .i64 d.m.wp),.p (.int .i64 d.m.seek),.p (.int .i64 d.speed),.p (.int .i64 d.margin),.p (.int .i64 d.now),.p (.int .i64 d.free),.p (.int .i64 d.head),.p (Aj d.weights),.p (A5 d.buckets),.p (AF d.depths),.p (Aj d.v),.p (AJ d.queue),.p (A4 d.flights)])
 refine Am (d.queue.length) I ?_ ?_
 ·refine (hI _ _).2 ?_
  and_intros
  all_goals first | exact cl0 | (simp -implicitDefEqProofs (disch:=omega) only [h1,h2,h3,h4,h10,h11,h12,hh4_0,lma,go_sem] <;> first | (simp [Ab]; done) | (simp [Ab]; omega))
 intro k s hk hIk
 obtain ⟨h1,h2,h5,h11,h12,hH⟩:=(hI _ _).1 hIk
 clear hIk
 simp -implicitDefEqProofs (disch:=omega) only [h1,h2,h5,h11,h12,hH,go_sem]
 refine Af (fun hlt=>?_) (fun hge=>?_)
 ·have hm : d.queue[k]? = some d.queue[k]:=lgg hlt
  have hst:=Kx (p:=fun r : Rq=>decide (r.task = task)) hm
  have hle:=Ld (fun r : Rq=>decide (r.task = task)) d.queue k
  generalize d.queue[k] = r at hm hst
  generalize ((d.queue.take k).filter fun r=>decide (r.task = task)).length = c at h5 hst hle
  by_cases hr : r.task = task
  ·rw [if_pos (decide_eq_true hr)] at hst
   simp -implicitDefEqProofs (disch:=omega) only [h1,h2,h5,h11,h12,hH,hlt,hm,hr,go_sem]
   try refine ai ?_
   refine (hI _ _).2 ?_
   and_intros
   all_goals first | exact cl0 | (simp -implicitDefEqProofs (disch:=omega) only [h1,h2,h5,h11,h12,hH,hst,lma,go_sem] <;> first | (simp [Ab]; done) | (simp [Ab]; omega))
  ·rw [if_neg (by simpa using hr)] at hst
   simp -implicitDefEqProofs (disch:=omega) only [h1,h2,h5,h11,h12,hH,hlt,hm,hr,go_sem]
   try refine ai ?_
   refine (hI _ _).2 ?_
   and_intros
   all_goals first | exact cl0 | (simp -implicitDefEqProofs (disch:=omega) only [h1,h2,h5,h11,h12,hH,hst,lma,go_sem] <;> first | (simp [Ab]; done) | (simp [Ab]; omega))
 ·rw [ltl (by omega)] at h5
  have hqf:=List.length_filter_le (fun r : Rq=>decide (r.task = task)) d.queue
  have hP : pendD d task = (d.queue.filter fun r=>decide (r.task = task)).length + (d.flights.filter fun f=>decide (f.r.task = task)).length:=rfl
  rw [hP]
  generalize (d.queue.filter fun r=>decide (r.task = task)).length = Q at h5 hqf
  simp -implicitDefEqProofs (disch:=omega) only [h1,h2,h5,h11,h12,hH,hge,go_sem]
  obtain ⟨J,hJ⟩:=lpI fun j s=>s.pe 1 = .p (.int .i64 task) /\ s.pe 2 = .ptr (.slot 2 0) 0 0 /\ s.pe 5 = .p (.int .i64 ((Q + ((d.flights.take j).filter fun f=>decide (f.r.task = task)).length : Nat) : Int)) /\ s.pe 25 = .p (A4 d.flights) /\ s.pe 26 = .p (.int .i64 ↑d.flights.length) /\ s.pe 27 = .p (.int .i64 j)
  refine Am (d.flights.length) J ?_ ?_
  ·refine (hJ _ _).2 ?_
   and_intros
   all_goals first | exact cl0 | (simp -implicitDefEqProofs (disch:=omega) only [h1,h2,h5,h11,h12,hH,lma,go_sem] <;> first | (simp [Ab]; done) | (simp [Ab]; omega))
  intro j s hj hJk
  obtain ⟨h1,h2,h5,hH⟩:=(hJ _ _).1 hJk
  clear hJk
  simp -implicitDefEqProofs (disch:=omega) only [h1,h2,h5,hH,go_sem]
  refine Af (fun hjl=>?_) (fun hjg=>?_)
  ·have hm : d.flights[j]? = some d.flights[j]:=lgg hjl
   have hst:=Kx (p:=fun f : Fl=>decide (f.r.task = task)) hm
   have hle:=Ld (fun f : Fl=>decide (f.r.task = task)) d.flights j
   generalize d.flights[j] = r at hm hst
   generalize ((d.flights.take j).filter fun f=>decide (f.r.task = task)).length = c at h5 hst hle
   by_cases hr : r.r.task = task
   ·rw [if_pos (decide_eq_true hr)] at hst
    simp -implicitDefEqProofs (disch:=omega) only [h1,h2,h5,hH,hjl,hm,hr,go_sem]
    try refine ai ?_
    refine (hJ _ _).2 ?_
    and_intros
    all_goals first | exact cl0 | (simp -implicitDefEqProofs (disch:=omega) only [h1,h2,h5,hH,hst,lma,go_sem] <;> first | (simp [Ab]; done) | (simp [Ab]; omega))
   ·rw [if_neg (by simpa using hr)] at hst
    simp -implicitDefEqProofs (disch:=omega) only [h1,h2,h5,hH,hjl,hm,hr,go_sem]
    try refine ai ?_
    refine (hJ _ _).2 ?_
    and_intros
    all_goals first | exact cl0 | (simp -implicitDefEqProofs (disch:=omega) only [h1,h2,h5,hH,hst,lma,go_sem] <;> first | (simp [Ab]; done) | (simp [Ab]; omega))
  ·rw [ltl (by omega)] at h5
   simp -implicitDefEqProofs (disch:=omega) only [h1,h2,h5,hH,hjg,go_sem]
theorem Pl {t : Tr} {k : Nat} {d : Dv} {l : List Int} {g : Int} {r : Rq} {v : List Ch} (h1 : ¬ d.now * d.speed <= d.free) (h2 : BL (A8 t d [] d.queue) = l) (h3 : AV t d.v (d.now * d.speed) 0 l = g) (h4 : g ≠ 0) (h5 : A2 d.queue g = some r)
  (h6 : B6 t d.v g (Cq t d g) (BG d r) (d.now * d.speed) d.margin = (v,0)) : Cu t (k + 1) d = Cu t k (Do t d g r v):=by
 rw [Cu,if_neg h1]
 simp only [h2,h3]
 rw [if_neg h4]
 simp only [h5,h6]
 rw [if_neg (by simp)]
theorem H4 {t : Tr} {k : Nat} {d : Dv} (h : d.now * d.speed <= d.free) : Cu t (k + 1) d = d:=by rw [Cu,if_pos h]
theorem Ot (x : Int) : BL [x] = [x]:=List.mergeSort_of_pairwise (by simp)
abbrev prT : Tr:=⟨[⟨1,0,⟨#[]⟩,0,0,0⟩,⟨2,1,⟨#[97]⟩,0,0,0⟩],3⟩
abbrev rA : Rq:=⟨0,2,0,3,false,0⟩
abbrev rB : Rq:=⟨0,2,3,1,false,0⟩
abbrev mdS : Mdl:=⟨0,10,0,10,0⟩
def sD : Nat -> Dv
 | 0=>⟨mdS,10,0,0,0,0,[],[],[],[],[rA,rB],[]⟩
 | 1=>⟨mdS,10,0,1,30,3,[],[],[],[⟨2,40⟩],[rB],[⟨rA,3⟩]⟩
 | 2=>⟨mdS,10,0,2,30,3,[],[],[],[⟨2,40⟩],[rB],[⟨rA,3⟩]⟩
 | 3=>⟨mdS,10,0,3,30,3,[],[],[],[⟨2,40⟩],[rB],[]⟩
 | _=>⟨mdS,10,0,4,40,4,[],[],[],[⟨2,50⟩],[],[⟨rB,5⟩]⟩
theorem Rs (k : Nat) (hk : k <= 4) : DvOk prT (sD k):=by
 have h : k = 0 \/ k = 1 \/ k = 2 \/ k = 3 \/ k = 4:=by omega
 rcases h with rfl | rfl | rfl | rfl | rfl <;> exact dvOk_iff.1 (by rfl)
theorem O5 (k : Nat) (hk : k <= 4) : (sD k).Small:=Dz (Rs k hk)
theorem Yg : tickD prT (sD 0) = sD 1:=by
 unfold tickD
 have e : (sD 0).queue.length + 1 = 2 + 1:=rfl
 rw [e,Pl (l:=[2]) (g:=2) (r:=rA) (v:=[⟨2,40⟩]) (by decide) (by rw [show A8 prT (advD (sD 0)) [] (advD (sD 0)).queue = [2] from rfl,Ot]) rfl (by decide) rfl rfl,show (2 : Nat) = 1 + 1 from rfl,H4 (by decide)]
 rfl
theorem Yf : tickD prT (sD 1) = sD 2:=by
 unfold tickD
 rw [H4 (by decide)]
 rfl
theorem Ye : tickD prT (sD 2) = sD 3:=by
 unfold tickD
 rw [H4 (by decide)]
 rfl
theorem Yd : tickD prT (sD 3) = sD 4:=by
 unfold tickD
 have e : (sD 3).queue.length + 1 = 1 + 1:=rfl
 rw [e,Pl (l:=[2]) (g:=2) (r:=rB) (v:=[⟨2,50⟩]) (by decide) (by rw [show A8 prT (advD (sD 3)) [] (advD (sD 3)).queue = [2] from rfl,Ot]) rfl (by decide) rfl rfl,show (1 : Nat) = 0 + 1 from rfl,H4 (by decide)]
 rfl
theorem ZK (k : Nat) (hk : k < 4) : tickD prT (sD k) = sD (k + 1):=by
 have h : k = 0 \/ k = 1 \/ k = 2 \/ k = 3:=by omega
 rcases h with rfl | rfl | rfl | rfl
 .exact Yg
 .exact Yf
 .exact Ye
 .exact Yd
theorem W4 : V 33 [] [] = some (prT.fv,[]):=by
 refine Ae (vf:=vf33) rfl ?_
 simp -implicitDefEqProofs (disch:=omega) only [vf33,R2,go_sem]
 rfl
abbrev dvC (d : Dv) : List VVal:=[.p (.int .i64 d.m.rb),.p (.int .i64 d.m.rp),.p (.int .i64 d.m.wb),.p (.int .i64 d.m.wp),.p (.int .i64 d.m.seek),.p (.int .i64 d.speed),.p (.int .i64 d.margin),.p (.int .i64 d.now),.p (.int .i64 d.free),.p (.int .i64 d.head),.p (Aj d.weights),.p (A5 d.buckets),.p (AF d.depths),.p (Aj d.v),.p (AJ d.queue),.p (A4 d.flights)]
def eD : Nat -> List Fl
 | 0 | 1 | 2=>[]
 | _=>[⟨rA,3⟩]
theorem Ib : V 11 [] [] = some (.p (.bool true),[]):=by
 refine Ae (vf:=vf11) rfl ?_
 have c0:=W4
 have c1:=zay mdS 10 0 (by rfl)
 have ok0 : DvOk prT (Em mdS 10 0):=dvOk_iff.1 (by rfl)
 have ok1 : DvOk prT (BX (Em mdS 10 0) rA):=dvOk_iff.1 (by rfl)
 have c2:=H9 prT (Em mdS 10 0) rA ok0 (Dz ok0) (by rfl) (by rfl) (by decide)
 have c3:=H9 prT (BX (Em mdS 10 0) rA) rB ok1 (Dz ok1) (by rfl) (by rfl) (by decide)
 simp only [prT,Tr.vv,Tr.fv,Ap,lpc,lpn,Nd.pv,dvF,Em,BX,FL,Dv.vv,Rq.vv,Aj,A5,AF,AJ,A4,lna,lca,Rq.pv] at c0 c1 c2 c3
 simp -implicitDefEqProofs (disch:=omega) only [vf11,Sj,c0,c1,c2,c3,go_sem]
 have ht : ∀ k,k < 4 -> V 19 [prT.vv,(sD k).vv] [] = some (.tup [dvF (sD (k + 1)) (.p (Aj (sD (k + 1)).v)),.fresh 7 ((endedD (sD k)).map Fl.pv),.p (.int .i64 0)],[]):=fun k hk=>by
  have:=K3 (Rs k (by omega)) (O5 k (by omega)) (by
   have h : k = 0 \/ k = 1 \/ k = 2 \/ k = 3:=by omega
   rcases h with rfl | rfl | rfl | rfl <;> decide)
  rw [ZK k hk] at this
  exact this
 have hfr : (sD 1).free = 30:=rfl
 have hq3 : (sD 3).queue.length = 1:=rfl
 have hq4 : (sD 4).queue.length = 0:=rfl
 have he : ∀ k,k < 4 -> eD k ++ endedD (sD k) = eD (k + 1) /\ (k < 2 -> (endedD (sD k)).length = 0) /\ (endedD (sD k)).length <= 1 /\ (eD k).length <= 1:=fun k hk=>by
  have h : k = 0 \/ k = 1 \/ k = 2 \/ k = 3:=by omega
  rcases h with rfl | rfl | rfl | rfl <;> exact ⟨rfl,by decide,by decide,by decide⟩
 have hp:=V2 (sD 4) 0 (by decide) (by decide)
 rw [show pendD (sD 4) 0 = 1 from rfl] at hp
 have hsm:=fun k hk=>O5 k hk
 obtain ⟨I,hI⟩:=lpI fun k s=>∃ (w : Nat) (acc : List Fl),acc = eD k /\ s.pe 1 = .ptr (.slot 1 0) 0 0 /\ s.pe 2 = .ptr (.slot 2 0) 0 0 /\ s.pe 3 = .p (.int .i64 0) /\ s.pe 4 = .p (.int .i64 0) /\ s.pe 5 = .p (.int .i64 0) /\ s.pe 6 = .own (.slot 6 0) w 0 acc.length /\ s.pe 7 = .p (.int .i64 k) /\ s.h (.slot 1 0) = some (0,Ob.box [.p (Ap prT.nodes),.p (.int .i64 prT.next)]) /\ s.h (.slot 6 0) = some (w,Ob.arr 7 (acc.map Fl.pv)) /\ ∃ X,s.h (.slot 2 0) = some (0,Ob.box X) /\ X.map (fz0 [8,29,39] s.h) = dvC (sD k)
 refine Am (4) I ?_ ?_
 ·refine (hI _ _).2 ⟨0,[],?_⟩
  and_intros
  ·rfl
  all_goals first | exact cl0 | (simp -implicitDefEqProofs (disch:=omega) only [lma,go_sem] <;> first | (simp [Ab]; done) | (simp [Ab]; omega)) | (simp -implicitDefEqProofs (disch:=omega) only [lma,go_sem] <;> (refine ⟨_,rfl,?_⟩; first | rfl | (simp -implicitDefEqProofs (disch:=omega) only [lma,go_sem]; done) | (simp -implicitDefEqProofs (disch:=omega) only [lma,go_sem]; rfl)))
 intro k s hk hIk
 obtain ⟨w,acc,hacc,h1,h2,h3,h4,h5,h6,h7,hh1_0,hh6_0,hX⟩:=(hI _ _).1 hIk
 clear hIk
 clear c0 c1 c2 c3 ok0 ok1
 have l1 : decide ((0 : Int) < 2) = true:=rfl
 have l2 : decide ((0 : Int) < ((0 : Nat) : Int)) = false:=rfl
 have l3 : decide ((2 : Int) = 0) = false:=rfl
 have l4 : decide ((3 : Int) = 0) = false:=rfl
 have l5 : decide ((3 : Int) = 2) = false:=rfl
 have l6 : decide ((3 : Int) < 2) = false:=rfl
 have l7 : decide (((1 : Nat) : Int) = 1) = true:=rfl
 have l10 : decide ((0 : Int) = 2) = false:=rfl
 have l11 : decide ((0 : Int) = 3) = false:=rfl
 have l12 : decide ((2 : Int) = 3) = false:=rfl
 have l9 : ∀ x : PV,([x] : List PV)[Int.toNat 0]? = some x:=fun _=>rfl
 have l8 : decide (((0 : Nat) : Int) = 0) = true:=rfl
 obtain ⟨T,hT⟩ : ∃ T,T = prT:=⟨_,rfl⟩
 rw [<- hT] at ht hh1_0 hI
 generalize sD = D at *
 obtain ⟨X,hh2,hX⟩:=hX
 simp -implicitDefEqProofs (disch:=omega) only [h1,h2,h3,h4,h5,h6,h7,hh1_0,hh6_0,hX,hh2,go_sem]
 refine Af (fun hlt=>?_) (fun hge=>?_)
 ·have hk4 : k < 4:=by omega
  have htk:=ht k hk4
  obtain ⟨he1,he2,hel,hal⟩:=he k hk4
  have hf1 : k = 0 -> decide ((D (k + 1)).free = 30) = true:=fun h=>by subst h; exact decide_eq_true hfr
  have hq1 : k = 2 -> decide (((D (k + 1)).queue.length : Int) = 1) = true:=fun h=>by subst h; rw [hq3]; rfl
  have hq2 : k = 3 -> decide (((D (k + 1)).queue.length : Int) = 0) = true:=fun h=>by subst h; rw [hq4]; rfl
  rw [<- hacc] at he1 hal
  generalize endedD (D k) = e at htk he1 he2 hel
  generalize hy : D (k + 1) = y at htk hf1 hq1 hq2
  have h : k = 0 \/ k = 1 \/ k = 2 \/ k = 3:=by omega
  rcases h with hk0 | hk0 | hk0 | hk0
  ·have a1:=hf1 hk0
   have a2 : decide ((0 : Int) < (e.length : Int)) = false:=decide_eq_false (by have:=he2 (by omega); omega)
   have b1 : (k : Int) < 2:=by omega
   have b2 : (k : Int) = 0:=by omega
   have b3 : ¬ (k : Int) = 2:=by omega
   have b4 : ¬ (k : Int) = 3:=by omega
   simp -implicitDefEqProofs (disch:=omega) only [h1,h2,h3,h4,h5,h6,h7,hh1_0,hh6_0,hX,hh2,hlt,htk,a1,a2,b1,b2,b3,b4,llm,Int.lt_irrefl,l1,l2,l3,l4,l5,l6,l7,l8,l10,l11,l12,go_sem]
   try refine ai ?_
   refine (hI _ _).2 ⟨w + 1,acc ++ e,?_⟩
   and_intros
   .exact he1
   all_goals first | exact cl0 | (simp -implicitDefEqProofs (disch:=omega) only [h1,h2,h3,h4,h5,h6,h7,hh1_0,hh6_0,hX,hy,lma,go_sem] <;> first | (simp [Ab]; done) | (simp [Ab]; omega)) | (simp -implicitDefEqProofs (disch:=omega) only [h1,h2,h3,h4,h5,h6,h7,hh1_0,hh6_0,hX,hy,lma,go_sem] <;> (refine ⟨_,rfl,?_⟩; first | rfl | (simp -implicitDefEqProofs (disch:=omega) only [h1,h2,h3,h4,h5,h6,h7,hh1_0,hh6_0,hX,hy,lma,go_sem]; done) | (simp -implicitDefEqProofs (disch:=omega) only [h1,h2,h3,h4,h5,h6,h7,hh1_0,hh6_0,hX,hy,lma,go_sem]; rfl)))
  ·have a2 : decide ((0 : Int) < (e.length : Int)) = false:=decide_eq_false (by have:=he2 (by omega); omega)
   have b1 : (k : Int) < 2:=by omega
   have b2 : ¬ (k : Int) = 0:=by omega
   have b3 : ¬ (k : Int) = 2:=by omega
   have b4 : ¬ (k : Int) = 3:=by omega
   simp -implicitDefEqProofs (disch:=omega) only [h1,h2,h3,h4,h5,h6,h7,hh1_0,hh6_0,hX,hh2,hlt,htk,a2,b1,b2,b3,b4,llm,Int.lt_irrefl,l1,l2,l3,l4,l5,l6,l7,l8,l10,l11,l12,go_sem]
   try refine ai ?_
   refine (hI _ _).2 ⟨w + 1,acc ++ e,?_⟩
   and_intros
   .exact he1
   all_goals first | exact cl0 | (simp -implicitDefEqProofs (disch:=omega) only [h1,h2,h3,h4,h5,h6,h7,hh1_0,hh6_0,hX,hy,lma,go_sem] <;> first | (simp [Ab]; done) | (simp [Ab]; omega)) | (simp -implicitDefEqProofs (disch:=omega) only [h1,h2,h3,h4,h5,h6,h7,hh1_0,hh6_0,hX,hy,lma,go_sem] <;> (refine ⟨_,rfl,?_⟩; first | rfl | (simp -implicitDefEqProofs (disch:=omega) only [h1,h2,h3,h4,h5,h6,h7,hh1_0,hh6_0,hX,hy,lma,go_sem]; done) | (simp -implicitDefEqProofs (disch:=omega) only [h1,h2,h3,h4,h5,h6,h7,hh1_0,hh6_0,hX,hy,lma,go_sem]; rfl)))
  ·have a1:=hq1 hk0
   have b1 : ¬ (k : Int) < 2:=by omega
   have b2 : ¬ (k : Int) = 0:=by omega
   have b3 : (k : Int) = 2:=by omega
   have b4 : ¬ (k : Int) = 3:=by omega
   simp -implicitDefEqProofs (disch:=omega) only [h1,h2,h3,h4,h5,h6,h7,hh1_0,hh6_0,hX,hh2,hlt,htk,a1,b1,b2,b3,b4,llm,lpn,lln,Int.lt_irrefl,l1,l2,l3,l4,l5,l6,l7,l8,l10,l11,l12,go_sem]
   try refine ai ?_
   refine (hI _ _).2 ⟨w + 1,acc ++ e,?_⟩
   and_intros
   .exact he1
   all_goals first | exact cl0 | (simp -implicitDefEqProofs (disch:=omega) only [h1,h2,h3,h4,h5,h6,h7,hh1_0,hh6_0,hX,hy,lma,go_sem] <;> first | (simp [Ab]; done) | (simp [Ab]; omega)) | (simp -implicitDefEqProofs (disch:=omega) only [h1,h2,h3,h4,h5,h6,h7,hh1_0,hh6_0,hX,hy,lma,go_sem] <;> (refine ⟨_,rfl,?_⟩; first | rfl | (simp -implicitDefEqProofs (disch:=omega) only [h1,h2,h3,h4,h5,h6,h7,hh1_0,hh6_0,hX,hy,lma,go_sem]; done) | (simp -implicitDefEqProofs (disch:=omega) only [h1,h2,h3,h4,h5,h6,h7,hh1_0,hh6_0,hX,hy,lma,go_sem]; rfl)))
  ·have a1:=hq2 hk0
   have b1 : ¬ (k : Int) < 2:=by omega
   have b2 : ¬ (k : Int) = 0:=by omega
   have b3 : ¬ (k : Int) = 2:=by omega
   have b4 : (k : Int) = 3:=by omega
   simp -implicitDefEqProofs (disch:=omega) only [h1,h2,h3,h4,h5,h6,h7,hh1_0,hh6_0,hX,hh2,hlt,htk,a1,b1,b2,b3,b4,llm,lpn,lln,Int.lt_irrefl,l1,l2,l3,l4,l5,l6,l7,l8,l10,l11,l12,go_sem]
   try refine ai ?_
   refine (hI _ _).2 ⟨w + 1,acc ++ e,?_⟩
   and_intros
   .exact he1
   all_goals first | exact cl0 | (simp -implicitDefEqProofs (disch:=omega) only [h1,h2,h3,h4,h5,h6,h7,hh1_0,hh6_0,hX,hy,lma,go_sem] <;> first | (simp [Ab]; done) | (simp [Ab]; omega)) | (simp -implicitDefEqProofs (disch:=omega) only [h1,h2,h3,h4,h5,h6,h7,hh1_0,hh6_0,hX,hy,lma,go_sem] <;> (refine ⟨_,rfl,?_⟩; first | rfl | (simp -implicitDefEqProofs (disch:=omega) only [h1,h2,h3,h4,h5,h6,h7,hh1_0,hh6_0,hX,hy,lma,go_sem]; done) | (simp -implicitDefEqProofs (disch:=omega) only [h1,h2,h3,h4,h5,h6,h7,hh1_0,hh6_0,hX,hy,lma,go_sem]; rfl)))
 ·have hk : k = 4:=by omega
  subst hk
  have ha : acc = [⟨rA,3⟩]:=hacc
  subst ha
  simp -implicitDefEqProofs (disch:=omega) only [h1,h2,h3,h4,h5,h6,h7,hh1_0,hh6_0,hX,hh2,hX,hge,hp,l7,l9,go_sem]
theorem Yh {t : Tr} {d : Dv} (h : DvOk t d) (hs : d.Small) (hnow : d.now < 1048576) : V 60 [t.vv,d.vv] [] = some (.tup [(tickD t d).vv,.fresh 7 ((endedD d).map Fl.pv),.p (.int .i64 0)],[]):=by
 refine Ae (vf:=vf60) rfl ?_
 have hlen:=h.tree.len
 have hq:=h.len
 have hn:=h.now
 have hbk:=(CT.1 h.bk).1
 have hbl:=hs.b
 have i0:=IB h hs
 have i1:=H0 d hs hs.q hs.f
 have hne : ¬ d.now = 1048576:=by omega
 have ha:=Hq h hnow
 have hbr:=Fk ha
 simp -implicitDefEqProofs (disch:=omega) only [vf60,RM,i0,i1,hne,go_sem]
 obtain ⟨I,hI⟩:=lpI fun k s=>∃ (M : List Cp),M = (d.buckets.take k).map (DJ (d.now + 1)) ++ d.buckets.drop k /\ M.length = d.buckets.length /\ s.pe 2 = .ptr (.slot 2 0) 0 0 /\ s.pe 3 = .ptr (.slot 3 0) 0 0 /\ s.pe 4 = .ptr (.slot 4 0) 0 0 /\ s.pe 7 = .p (.int .i64 k) /\ s.h (.slot 2 0) = some (0,Ob.box [.p (Ap t.nodes),.p (.int .i64 t.next)]) /\ s.h (.slot 3 0) = some (0,Ob.box [.p (.int .i64 d.m.rb),.p (.int .i64 d.m.rp),.p (.int .i64 d.m.wb),.p (.int .i64 d.m.wp),.p (.int .i64 d.m.seek),.p (.int .i64 d.speed),.p (.int .i64 d.margin),.p (.int .i64 (d.now + 1)),.p (.int .i64 d.free),.p (.int .i64 d.head),.own (.slot 25 11) 0 0 d.weights.length,.own (.slot 25 12) 0 0 d.buckets.length,.own (.slot 25 13) 0 0 d.depths.length,.own (.slot 25 14) 0 0 d.v.length,.own (.slot 25 15) 0 0 d.queue.length,.own (.slot 25 16) 0 0 d.flights.length]) /\ s.h (.slot 4 0) = some (0,Ob.box [.p (.int .i64 0),.p (.int .i64 0),.p (.int .i64 0),.p (.int .i64 0),.p (.int .i64 0),.p (.int .i64 0),.p (.int .i64 0),.p (.int .i64 0),.p (.int .i64 0),.p (.int .i64 0),.own (.slot 4 11) 0 0 0,.own (.slot 4 12) 0 0 0,.own (.slot 4 13) 0 0 0,.own (.slot 4 14) 0 0 0,.own (.slot 4 15) 0 0 0,.own (.slot 4 16) 0 0 0]) /\ s.h (.slot 25 11) = some (0,Ob.arr 2 (List.map Ch.pv d.weights)) /\ s.h (.slot 25 12) = some (0,Ob.arr 21 (M.map Cp.pv)) /\ s.h (.slot 25 13) = some (0,Ob.arr 3 (List.map Dp.pv d.depths)) /\ s.h (.slot 25 14) = some (0,Ob.arr 2 (List.map Ch.pv d.v)) /\ s.h (.slot 25 15) = some (0,Ob.arr 6 (List.map Rq.pv d.queue)) /\ s.h (.slot 25 16) = some (0,Ob.arr 7 (List.map Fl.pv d.flights))
 refine Am (d.buckets.length) I ?_ ?_
 ·refine (hI _ _).2 ⟨d.buckets,?_⟩
  and_intros
  ·exact cl3
  ·exact cl3
  all_goals first | exact cl0 | (simp -implicitDefEqProofs (disch:=omega) only [lma,go_sem] <;> first | (simp [Ab,List.map_set,Cp.pv]; done) | (simp [Ab,List.map_set,Cp.pv]; omega))
 intro k s hk hIk
 obtain ⟨M,hM,hMl,h2,h3,h4,h7,hh2_0,hh3_0,hh4_0,hH⟩:=(hI _ _).1 hIk
 clear hIk
 simp -implicitDefEqProofs (disch:=omega) only [h2,h3,h4,h7,hh2_0,hh3_0,hh4_0,hH,go_sem]
 refine Af (fun hlt=>?_) (fun hge=>?_)
 ·have hm : d.buckets[k]? = some d.buckets[k]:=lgg hlt
  rw [List.drop_eq_getElem_cons hlt] at hM
  have htk:=BT hm
  generalize d.buckets[k] = c at hm hM htk
  have hcb:=(hbk c (lmg hm)).2
  have hlk : ((d.buckets.take k).map (DJ (d.now + 1))).length = k:=by rw [llm,llt]; omega
  have hmid : M[k]? = some c:=by rw [hM]; exact Lm hlk
  have hset : ∀ y,M.set k y = (d.buckets.take k).map (DJ (d.now + 1)) ++ y :: d.buckets.drop (k + 1):=fun y=>by rw [hM]; exact Lb hlk
  have i2:=IG c
  have m4:=fun (j : Nat) (hj : j < 4)=>L5 hcb hj
  have i3:=Io c.group (AD c.rp (d.now + 1)) (AD c.wp (d.now + 1)) (AD c.ro (d.now + 1)) (AD c.wo (d.now + 1))
  rw [show (Cp.mk c.group (AD c.rp (d.now + 1)) (AD c.wp (d.now + 1)) (AD c.ro (d.now + 1)) (AD c.wo (d.now + 1))) = DJ (d.now + 1) c from rfl,show FM [AD c.rp (d.now + 1),AD c.wp (d.now + 1),AD c.ro (d.now + 1),AD c.wo (d.now + 1)] = FM (([c.rp,c.wp,c.ro,c.wo] : List Bk).map fun b=>AD b (d.now + 1)) from rfl] at i3
  generalize hB0 : ([c.rp,c.wp,c.ro,c.wo] : List Bk) = B0 at i2 i3 m4
  have hB4 : B0.length = 4:=by rw [<- hB0]; rfl
  simp -implicitDefEqProofs (disch:=omega) only [h2,h3,h4,h7,hh2_0,hh3_0,hh4_0,hH,hlt,hMl,hmid,Cp.pv,i2,go_sem]
  obtain ⟨J,hJ⟩:=lpI fun j s=>∃ (B : List Bk) (v42_1 : Nat),B = ((B0.take j).map fun b=>AD b (d.now + 1)) ++ B0.drop j /\ B.length = 4 /\ s.pe 2 = .ptr (.slot 2 0) 0 0 /\ s.pe 3 = .ptr (.slot 3 0) 0 0 /\ s.pe 4 = .ptr (.slot 4 0) 0 0 /\ s.pe 7 = .p (.int .i64 ↑k) /\ s.pe 8 = .own (.slot 42 1) v42_1 0 B.length /\ s.pe 9 = .p (.int .i64 j) /\ s.h (.slot 2 0) = some (0,Ob.box [.p (Ap t.nodes),.p (.int .i64 t.next)]) /\ s.h (.slot 3 0) = some (0,Ob.box [.p (.int .i64 d.m.rb),.p (.int .i64 d.m.rp),.p (.int .i64 d.m.wb),.p (.int .i64 d.m.wp),.p (.int .i64 d.m.seek),.p (.int .i64 d.speed),.p (.int .i64 d.margin),.p (.int .i64 (d.now + 1)),.p (.int .i64 d.free),.p (.int .i64 d.head),.own (.slot 25 11) 0 0 d.weights.length,.own (.slot 25 12) 0 0 d.buckets.length,.own (.slot 25 13) 0 0 d.depths.length,.own (.slot 25 14) 0 0 d.v.length,.own (.slot 25 15) 0 0 d.queue.length,.own (.slot 25 16) 0 0 d.flights.length]) /\ s.h (.slot 4 0) = some (0,Ob.box [.p (.int .i64 0),.p (.int .i64 0),.p (.int .i64 0),.p (.int .i64 0),.p (.int .i64 0),.p (.int .i64 0),.p (.int .i64 0),.p (.int .i64 0),.p (.int .i64 0),.p (.int .i64 0),.own (.slot 4 11) 0 0 0,.own (.slot 4 12) 0 0 0,.own (.slot 4 13) 0 0 0,.own (.slot 4 14) 0 0 0,.own (.slot 4 15) 0 0 0,.own (.slot 4 16) 0 0 0]) /\ s.h (.slot 25 11) = some (0,Ob.arr 2 (List.map Ch.pv d.weights)) /\ s.h (.slot 25 12) = some (0,Ob.arr 21 (M.map Cp.pv)) /\ s.h (.slot 25 13) = some (0,Ob.arr 3 (List.map Dp.pv d.depths)) /\ s.h (.slot 25 14) = some (0,Ob.arr 2 (List.map Ch.pv d.v)) /\ s.h (.slot 25 15) = some (0,Ob.arr 6 (List.map Rq.pv d.queue)) /\ s.h (.slot 25 16) = some (0,Ob.arr 7 (List.map Fl.pv d.flights)) /\ s.h (.slot 42 1) = some (v42_1,Ob.arr 5 (B.map Bk.pv))
  refine Am (4) J ?_ ?_
  ·refine (hJ _ _).2 ⟨B0,nv (Bs [42] s.h (.slot 42 1)),?_⟩
   and_intros
   ·exact by simp
   ·exact hB4
   all_goals first | exact cl0 | (simp -implicitDefEqProofs (disch:=omega) only [h2,h3,h4,h7,hh2_0,hh3_0,hh4_0,hH,lma,go_sem] <;> first | (simp [Ab,List.map_set,Cp.pv]; done) | (simp [Ab,List.map_set,Cp.pv]; omega))
  intro j s hj hJk
  obtain ⟨B,v42_1,hB,hBl,h2,h3,h4,h7,h8,h9,hh2_0,hh3_0,hh4_0,hH⟩:=(hJ _ _).1 hJk
  clear hJk
  simp -implicitDefEqProofs (disch:=omega) only [h2,h3,h4,h7,h8,h9,hh2_0,hh3_0,hh4_0,hH,go_sem]
  refine Af (fun hjl=>?_) (fun hjg=>?_)
  ·obtain ⟨b,hb0,hbs⟩:=m4 j (by omega)
   have hjt:=BT hb0
   rw [Vz hb0] at hB
   have hlj : ((B0.take j).map fun b=>AD b (d.now + 1)).length = j:=by rw [llm,llt]; omega
   have hbj : B[j]? = some b:=by rw [hB]; exact Lm hlj
   have hbset : ∀ y,B.set j y = ((B0.take j).map fun b=>AD b (d.now + 1)) ++ y :: B0.drop (j + 1):=fun y=>by rw [hB]; exact Lb hlj
   have i4:=KH b (d.now + 1) (AK.1 hbs).1 (by have:=(AK.1 hbs).2.2; omega) (by omega)
   simp -implicitDefEqProofs (disch:=omega) only [h2,h3,h4,h7,h8,h9,hh2_0,hh3_0,hh4_0,hH,hjl,hbj,i4,go_sem]
   try refine ai ?_
   refine (hJ _ _).2 ⟨B.set j (AD b (d.now + 1)),v42_1,?_⟩
   and_intros
   ·exact by rw [hbset,hjt,lma,laa]; rfl
   ·exact by rw [List.length_set]; exact hBl
   all_goals first | exact cl0 | (simp -implicitDefEqProofs (disch:=omega) only [h2,h3,h4,h7,h8,h9,hh2_0,hh3_0,hh4_0,hH,lma,go_sem] <;> first | (simp [Ab,List.map_set,Cp.pv]; done) | (simp [Ab,List.map_set,Cp.pv]; omega))
  ·rw [show j = 4 by omega,ltl (by omega),List.drop_eq_nil_of_le (by omega),lan] at hB
   rw [← hB] at i3
   simp -implicitDefEqProofs (disch:=omega) only [h2,h3,h4,h7,h8,h9,hh2_0,hh3_0,hh4_0,hH,hjg,hmid,Cp.pv,i3,go_sem]
   try refine ai ?_
   refine (hI _ _).2 ⟨M.set k (DJ (d.now + 1) c),?_⟩
   and_intros
   ·exact by rw [hset,htk,lma,laa]; rfl
   ·exact by rw [List.length_set]; exact hMl
   all_goals first | exact cl0 | (simp -implicitDefEqProofs (disch:=omega) only [h2,h3,h4,h7,hh2_0,hh3_0,hh4_0,hH,lma,go_sem] <;> first | (simp [Ab,List.map_set,Cp.pv]; done) | (simp [Ab,List.map_set,Cp.pv]; omega))
 ·rw [List.take_of_length_le (by omega),List.drop_eq_nil_of_le (by omega),lan] at hM
  simp -implicitDefEqProofs (disch:=omega) only [h2,h3,h4,h7,hh2_0,hh3_0,hh4_0,hH,hge,go_sem]
  obtain ⟨p,hp⟩ : ∃ p : Fl -> Bool,p = fun f=>decide (f.done <= d.now + 1):=⟨_,rfl⟩
  have hE : endedD d = d.flights.takeWhile p:=by rw [hp]; rfl
  have hF : (advD d).flights = d.flights.dropWhile p:=by rw [hp]; rfl
  have hNle : (d.flights.takeWhile p).length <= d.flights.length:=(List.takeWhile_sublist p).length_le
  have htd:=Gg (p:=p) (l:=d.flights)
  have hlt:=fun k=>HA (p:=p) (l:=d.flights) (k:=k)
  have hen:=Ll (p:=p) (l:=d.flights)
  generalize hN : (d.flights.takeWhile p).length = N at hNle htd hlt hen
  have r1 : endedD d = d.flights.take N:=by rw [hE,<- htd.1]
  have r2 : (advD d).flights = d.flights.drop N:=by rw [hF,<- htd.2]
  have r4 : (advD d).buckets = M:=hM.symm
  obtain ⟨A,hA⟩:=lpI fun k s=>s.pe 2 = .ptr (.slot 2 0) 0 0 /\ s.pe 3 = .ptr (.slot 3 0) 0 0 /\ s.pe 4 = .ptr (.slot 4 0) 0 0 /\ s.pe 10 = .p (.int .i64 k) /\ s.h (.slot 2 0) = some (0,Ob.box [.p (Ap t.nodes),.p (.int .i64 t.next)]) /\ s.h (.slot 3 0) = some (0,Ob.box [.p (.int .i64 d.m.rb),.p (.int .i64 d.m.rp),.p (.int .i64 d.m.wb),.p (.int .i64 d.m.wp),.p (.int .i64 d.m.seek),.p (.int .i64 d.speed),.p (.int .i64 d.margin),.p (.int .i64 (d.now + 1)),.p (.int .i64 d.free),.p (.int .i64 d.head),.own (.slot 25 11) 0 0 d.weights.length,.own (.slot 25 12) 0 0 d.buckets.length,.own (.slot 25 13) 0 0 d.depths.length,.own (.slot 25 14) 0 0 d.v.length,.own (.slot 25 15) 0 0 d.queue.length,.own (.slot 25 16) 0 0 d.flights.length]) /\ s.h (.slot 4 0) = some (0,Ob.box [.p (.int .i64 0),.p (.int .i64 0),.p (.int .i64 0),.p (.int .i64 0),.p (.int .i64 0),.p (.int .i64 0),.p (.int .i64 0),.p (.int .i64 0),.p (.int .i64 0),.p (.int .i64 0),.own (.slot 4 11) 0 0 0,.own (.slot 4 12) 0 0 0,.own (.slot 4 13) 0 0 0,.own (.slot 4 14) 0 0 0,.own (.slot 4 15) 0 0 0,.own (.slot 4 16) 0 0 0]) /\ s.h (.slot 25 11) = some (0,Ob.arr 2 (List.map Ch.pv d.weights)) /\ s.h (.slot 25 12) = some (0,Ob.arr 21 (M.map Cp.pv)) /\ s.h (.slot 25 13) = some (0,Ob.arr 3 (List.map Dp.pv d.depths)) /\ s.h (.slot 25 14) = some (0,Ob.arr 2 (List.map Ch.pv d.v)) /\ s.h (.slot 25 15) = some (0,Ob.arr 6 (List.map Rq.pv d.queue)) /\ s.h (.slot 25 16) = some (0,Ob.arr 7 (List.map Fl.pv d.flights))
  refine Zx (Q:=fun r=>r.1 = .exit 4 /\ A N r.2) (Am N A ?_ ?_) ?_
  ·refine (hA _ _).2 ?_
   and_intros<;>exact cl0
  ·intro k s hk hAk
   obtain ⟨h2,h3,h4,h10,hh2_0,hh3_0,hh4_0,hH⟩:=(hA _ _).1 hAk
   clear hAk
   by_cases hkN : k < N
   ·obtain ⟨f,hf,hpf⟩:=hlt k hkN
    rw [hp] at hpf
    have hd : f.done <= d.now + 1:=of_decide_eq_true hpf
    have hkl:=(lgs.1 hf).1
    simp -implicitDefEqProofs (disch:=omega) only [h2,h3,h4,h10,hh2_0,hh3_0,hh4_0,hH,hkl,hf,hd,Fl.pv,go_sem]
    try refine ai ?_
    refine (hA _ _).2 ?_
    and_intros
    all_goals first | exact cl0 | (simp -implicitDefEqProofs (disch:=omega) only [h2,h3,h4,h10,hh2_0,hh3_0,hh4_0,hH,lma,go_sem] <;> first | (simp [Ab,List.map_set,Cp.pv]; done) | (simp [Ab,List.map_set,Cp.pv]; omega))
   ·have hkE : k = N:=by omega
    subst hkE
    rcases hen with e | ⟨f,hf,hpf⟩
    ·have hkl : ¬ k < d.flights.length:=by omega
     simp -implicitDefEqProofs (disch:=omega) only [h2,h3,h4,h10,hh2_0,hh3_0,hh4_0,hH,hkl,go_sem]
     refine (hA _ _).2 ?_
     and_intros<;>exact cl0
    ·rw [hp] at hpf
     have hd : ¬ f.done <= d.now + 1:=of_decide_eq_false hpf
     have hkl:=(lgs.1 hf).1
     simp -implicitDefEqProofs (disch:=omega) only [h2,h3,h4,h10,hh2_0,hh3_0,hh4_0,hH,hkl,hf,hd,Fl.pv,go_sem]
     refine (hA _ _).2 ?_
     and_intros<;>exact cl0
  ·rintro ⟨ex,s⟩ ⟨he,hAk⟩
   simp only at he hAk
   subst he
   obtain ⟨h2,h3,h4,h10,hh2_0,hh3_0,hh4_0,hH⟩:=(hA _ _).1 hAk
   clear hAk
   have hA1 : advD d = ⟨d.m,d.speed,d.margin,d.now + 1,d.free,d.head,d.weights,M,d.depths,d.v,d.queue,d.flights.drop N⟩:=by rw [<- r2,<- r4]; rfl
   have hT0 : tickD t d = Cu t (d.queue.length + 1) (advD d):=rfl
   rw [hA1] at ha hT0
   have hmn : min N d.flights.length = N:=Nat.min_eq_left hNle
   have htn : List.take (d.flights.length - N) (List.drop N (List.map Fl.pv d.flights)) = List.drop N (List.map Fl.pv d.flights):=ltl (by simp)
   have htt : List.take N (List.take N (List.map Fl.pv d.flights)) = List.take N (List.map Fl.pv d.flights):=by rw [List.take_take,Nat.min_self]
   rw [r1,List.map_take]
   simp -implicitDefEqProofs (disch:=omega) only [h2,h3,h4,h10,hh2_0,hh3_0,hh4_0,hH,Nat.sub_zero,lld,llm,Nat.min_self,hmn,htn,go_sem]
   rw [← hMl,← List.map_drop,← lld (i:=N) (l:=d.flights)]
   obtain ⟨I,hI⟩:=lpI fun k s=>∃ (x : Dv) (v94_0 : Nat),DvOk t x /\ tickD t d = Cu t (d.queue.length + 1 - k) x /\ x.queue.length + k = d.queue.length /\ s.pe 2 = .ptr (.slot 2 0) 0 0 /\ s.pe 3 = .ptr (.slot 3 0) 0 0 /\ s.pe 4 = .ptr (.slot 4 0) 0 0 /\ s.pe 11 = .own (.slot 94 0) v94_0 0 N /\ s.h (.slot 2 0) = some (0,Ob.box [.p (Ap t.nodes),.p (.int .i64 t.next)]) /\ s.h (.slot 4 0) = some (0,Ob.box [.p (.int .i64 0),.p (.int .i64 0),.p (.int .i64 0),.p (.int .i64 0),.p (.int .i64 0),.p (.int .i64 0),.p (.int .i64 0),.p (.int .i64 0),.p (.int .i64 0),.p (.int .i64 0),.own (.slot 4 11) 0 0 0,.own (.slot 4 12) 0 0 0,.own (.slot 4 13) 0 0 0,.own (.slot 4 14) 0 0 0,.own (.slot 4 15) 0 0 0,.own (.slot 4 16) 0 0 0]) /\ s.h (.slot 94 0) = some (v94_0,Ob.arr 7 (List.take N (List.map Fl.pv d.flights))) /\ ∃ X,s.h (.slot 3 0) = some (0,Ob.box X) /\ X.map (fz0 [14,25,99,116,132] s.h) = dvC x
   refine Am ((d.queue.length + 1)) I ?_ ?_
   ·refine (hI _ _).2 ⟨⟨d.m,d.speed,d.margin,d.now + 1,d.free,d.head,d.weights,M,d.depths,d.v,d.queue,d.flights.drop N⟩,nv (s.h (.slot 94 0)),?_⟩
    and_intros
    ·exact ha
    ·exact hT0
    ·rfl
    all_goals first | exact cl0 | (simp -implicitDefEqProofs (disch:=omega) only [h2,h3,h4,h10,hh2_0,hh3_0,hh4_0,hH,lma,go_sem] <;> first | (simp [Ab,List.map_set,Cp.pv]; done) | (simp [Ab,List.map_set,Cp.pv]; omega)) | (simp -implicitDefEqProofs (disch:=omega) only [h2,h3,h4,h10,hh2_0,hh3_0,hh4_0,hH,lma,go_sem] <;> (refine ⟨_,rfl,?_⟩; first | rfl | (simp -implicitDefEqProofs (disch:=omega) only [h2,h3,h4,h10,hh2_0,hh3_0,hh4_0,hH,lma,go_sem]; done) | (simp -implicitDefEqProofs (disch:=omega) only [h2,h3,h4,h10,hh2_0,hh3_0,hh4_0,hH,lma,go_sem]; rfl)))
   intro k s hk hIk
   obtain ⟨x,v94_0,hx,hT,hql,h2,h3,h4,h11,hh2_0,hh4_0,hh94_0,hX⟩:=(hI _ _).1 hIk
   clear hIk
   obtain ⟨X,hX⟩:=hX
   have hxs : x.Small:=Dz hx
   have hbx:=Fk hx
   have hql2:=hx.len
   have hxn:=hx.now
   obtain ⟨fu,hfu⟩ : ∃ fu,d.queue.length + 1 - k = fu + 1:=⟨d.queue.length - k,by omega⟩
   rw [hfu] at hT
   have i3:=WR hx hxs
   have hrl:=V0 t x
   have i4:=Yn t x.v (EF t x) (x.now * x.speed) (by omega) hxs.v (by omega)
   rw [W9 hx] at i4
   generalize EF t x = R at i3 i4
   rcases J6 t fu x with ⟨hend,hS⟩ | ⟨g,r,v,hst,hS⟩
   ·rw [hS] at hT
    rw [hT]
    unfold Jr at hend
    generalize hg : AV t x.v (x.now * x.speed) 0 (BL (A8 t x [] x.queue)) = g at i4 hend
    by_cases hb : x.now * x.speed <= x.free
    ·have hb' : ¬ x.free < x.now * x.speed:=by omega
     simp -implicitDefEqProofs (disch:=omega) only [h2,h3,h4,h11,hh2_0,hh4_0,hh94_0,hX,hX,hb',htt,go_sem]
    ·have hb' : x.free < x.now * x.speed:=by omega
     by_cases hg0 : g = 0
     ·have hg0' : (!decide (g = 0)) = false:=by simp [hg0]
      rw [hg0'] at i4
      simp -implicitDefEqProofs (disch:=omega) only [h2,h3,h4,h11,hh2_0,hh4_0,hh94_0,hX,hX,hb',i3,i4,htt,go_sem]
     ·have hg0' : (!decide (g = 0)) = true:=by simp [hg0]
      rw [hg0'] at i4
      obtain ⟨r,hr,he⟩ : ∃ r,A2 x.queue g = some r /\ (B6 t x.v g (Cq t x g) (BG x r) (x.now * x.speed) x.margin).2 ≠ 0:=by
       rcases hend with e | e | e | e
       ·exact absurd e hb
       ·exact absurd e hg0
       ·obtain ⟨r,h1,_⟩:=J3 (t:=t) (d:=x) (by rw [hg]; exact hg0)
        rw [hg,e] at h1
        cases h1
       .exact e
      generalize hi : B6 t x.v g (Cq t x g) (BG x r) (x.now * x.speed) x.margin = ve at he
      obtain ⟨v,e⟩:=ve
      have i5:=Og hx hxs hb hr hi
      rw [if_neg he] at i5
      simp -implicitDefEqProofs (disch:=omega) only [h2,h3,h4,h11,hh2_0,hh4_0,hh94_0,hX,hX,hb',i3,i4,i5,htt,go_sem]
   ·rw [hS] at hT
    have hb:=hst.busy
    have hg:=hst.next
    have hg0:=hst.pos
    have i5:=Og hx hxs hb hst.first hst.issue
    rw [if_pos rfl] at i5
    have hb' : x.free < x.now * x.speed:=by omega
    rw [<- hg] at i4
    have hg0' : (!decide (g = 0)) = true:=by simp [hg0]
    rw [hg0'] at i4
    have hok:=Hj hx hst
    have hrq:=EW hst.first
    simp -implicitDefEqProofs (disch:=omega) only [h2,h3,h4,h11,hh2_0,hh4_0,hh94_0,hX,hX,hb',i3,i4,i5,go_sem]
    try refine ai ?_
    refine (hI _ _).2 ⟨Do t x g r v,v94_0,?_⟩
    and_intros
    .exact hok
    .exact by rw [hT,show d.queue.length + 1 - (k + 1) = fu by omega]
    .exact by show (Bd x.queue g).length + (k + 1) = _; omega
    all_goals first | exact cl0 | (simp -implicitDefEqProofs (disch:=omega) only [h2,h3,h4,h11,hh2_0,hh4_0,hh94_0,hX,lma,go_sem] <;> first | (simp [Ab,List.map_set,Cp.pv]; done) | (simp [Ab,List.map_set,Cp.pv]; omega)) | (simp -implicitDefEqProofs (disch:=omega) only [h2,h3,h4,h11,hh2_0,hh4_0,hh94_0,hX,lma,go_sem] <;> (refine ⟨_,rfl,?_⟩; first | rfl | (simp -implicitDefEqProofs (disch:=omega) only [h2,h3,h4,h11,hh2_0,hh4_0,hh94_0,hX,lma,go_sem]; done) | (simp -implicitDefEqProofs (disch:=omega) only [h2,h3,h4,h11,hh2_0,hh4_0,hh94_0,hX,lma,go_sem]; rfl)))
def nbk (o : Option Bk) (now rate least : Int) : Bk:=match o with
 | none=>Ca rate least now
 | some b=>FK b rate least
def Jo (o : Option Cp) (now : Int) (s : Sg) : List Bk:=[nbk (o.map (·.rp)) now s.rp 4096,nbk (o.map (·.wp)) now s.wp 4096,nbk (o.map (·.ro)) now s.ro 0,nbk (o.map (·.wo)) now s.wo 0]
def Jn (s : Sg) : List Int:=[s.rp,s.wp,s.ro,s.wo]
def nwC (x : Dv) (id : Int) (s : Sg) : Cp:=⟨id,nbk ((BV x.buckets id).map (·.rp)) x.now s.rp 4096,nbk ((BV x.buckets id).map (·.wp)) x.now s.wp 4096,nbk ((BV x.buckets id).map (·.ro)) x.now s.ro 0,nbk ((BV x.buckets id).map (·.wo)) x.now s.wo 0⟩
def GM (x : Dv) (id : Int) (s : Sg) : List Cp:=insGo Cp.group (nwC x id s) ((Jn s).all fun r=>decide (r = maxR)) x.buckets
theorem zaI {s : Sg} (hs : SgOk s) (o : Option Cp) (now : Int) {j : Nat} (hj : j < 4) : ∃ rate,(Jn s)[j]? = some rate /\ C9 rate /\ (Jo o now s)[j]? = some (nbk (o.bind fun c=>([c.rp,c.wp,c.ro,c.wo] : List Bk)[j]?) now rate (if (j : Int) < 2 then 4096 else 0)):=by
 have h0:=hs.rp
 have h1:=hs.wp
 have h2:=hs.ro
 have h3:=hs.wo
 rcases j with _ | _ | _ | _ | j
 .exact ⟨_,rfl,h0,by cases o <;> rfl⟩
 .exact ⟨_,rfl,h1,by cases o <;> rfl⟩
 .exact ⟨_,rfl,h2,by cases o <;> rfl⟩
 .exact ⟨_,rfl,h3,by cases o <;> rfl⟩
 .omega
theorem Zr {α : Type} {p : α -> Bool} {l : List α} {k : Nat} {m : α} (h : l[k]? = some m) : ((l.take (k + 1)).all p) = ((l.take k).all p && p m):=by
 rw [BT h,List.all_append]
 simp
theorem Vb {t : Tr} {x : Dv} (h : DvOk t x) (hs : x.Small) (id : Int) {sg : Sg} (hsg : SgOk sg) (dev : Int) : V 132 [x.vv,.p (.int .i64 id),sg.vv dev] [] = some (.fresh 21 ((GM x id sg).map Cp.pv),[]):=by
 refine Ae (vf:=vf132) rfl ?_
 have hn:=h.now
 have hbl:=hs.b
 have i0:=JM x id hs
 obtain ⟨b1,_,_⟩:=CT.1 h.bk
 have hcap : (Cd (fun c : Cp=>decide (c.group = id)) x.buckets = -1 /\ BV x.buckets id = none) \/ ∃ (q : Nat) (c : Cp),Cd (fun c : Cp=>decide (c.group = id)) x.buckets = q /\ x.buckets[q]? = some c /\ BV x.buckets id = some c:=by
  rcases F3 (fun c : Cp=>decide (c.group = id)) x.buckets with ⟨e,hno⟩ | ⟨q,c,e,e2,hg,hb⟩
  ·exact .inl ⟨e,J8 hno⟩
  ·exact .inr ⟨q,c,e,e2,Iw e2 hg hb⟩
 have hat:=fun (j : Nat) (hj : j < 4)=>zaI hsg (BV x.buckets id) x.now hj
 have hNg : (nwC x id sg).group = id:=rfl
 unfold GM
 have j2:=Io id (nwC x id sg).rp (nwC x id sg).wp (nwC x id sg).ro (nwC x id sg).wo
 have hRl : (Jn sg).length = 4:=rfl
 have hFl : (Jo (BV x.buckets id) x.now sg).length = 4:=rfl
 rw [show (Cp.mk id (nwC x id sg).rp (nwC x id sg).wp (nwC x id sg).ro (nwC x id sg).wo) = nwC x id sg from rfl,show FM [(nwC x id sg).rp,(nwC x id sg).wp,(nwC x id sg).ro,(nwC x id sg).wo] = FM (Jo (BV x.buckets id) x.now sg) from rfl] at j2
 generalize hO : BV x.buckets id = O at hcap hat hFl j2
 generalize hRR : Jn sg = R at hat hRl ⊢
 generalize hFF : Jo O x.now sg = F at hat hFl j2
 generalize nwC x id sg = c0 at hNg j2 ⊢
 simp -implicitDefEqProofs (disch:=omega) only [vf132,Rj,go_sem]
 obtain ⟨I,hI⟩:=lpI fun k s=>∃ (acc : List Bk) (w : Nat),acc = F.take k /\ acc.length = k /\ s.pe 1 = .p (.int .i64 id) /\ s.pe 3 = .ptr (.slot 3 0) 0 0 /\ s.pe 7 = .own (.slot 26 0) 0 0 4 /\ s.pe 8 = .own (.slot 8 0) w 0 acc.length /\ s.pe 9 = .p (.bool ((R.take k).all fun r=>decide (r = maxR))) /\ s.pe 10 = .p (.int .i64 k) /\ s.h (.slot 3 0) = some (0,Ob.box [.p (.int .i64 x.m.rb),.p (.int .i64 x.m.rp),.p (.int .i64 x.m.wb),.p (.int .i64 x.m.wp),.p (.int .i64 x.m.seek),.p (.int .i64 x.speed),.p (.int .i64 x.margin),.p (.int .i64 x.now),.p (.int .i64 x.free),.p (.int .i64 x.head),.p (Aj x.weights),.p (A5 x.buckets),.p (AF x.depths),.p (Aj x.v),.p (AJ x.queue),.p (A4 x.flights)]) /\ s.h (.slot 8 0) = some (w,Ob.arr 5 (acc.map Bk.pv)) /\ s.h (.slot 26 0) = some (0,Ob.arr 1 [PV.int IntKind.i64 sg.rp,PV.int IntKind.i64 sg.wp,PV.int IntKind.i64 sg.ro,PV.int IntKind.i64 sg.wo])
 refine Am (4) I ?_ ?_
 ·refine (hI _ _).2 ⟨[],0,?_⟩
  and_intros
  ·rfl
  ·rfl
  all_goals first | exact cl0 | (simp -implicitDefEqProofs (disch:=omega) only [lma,go_sem] <;> first | (simp [Ab,Cp.pv]; done) | (simp [Ab,Cp.pv]; omega))
 intro k s hk hIk
 obtain ⟨acc,w,ha,hal,h1,h3,h7,h8,h9,hH⟩:=(hI _ _).1 hIk
 clear hIk
 simp -implicitDefEqProofs (disch:=omega) only [h1,h3,h7,h8,h9,hH,go_sem]
 refine Af (fun hlt=>?_) (fun hge=>?_)
 ·obtain ⟨rate,hr1,hr2,hf⟩:=hat k (by omega)
  have hgr : ([PV.int IntKind.i64 sg.rp,PV.int IntKind.i64 sg.wp,PV.int IntKind.i64 sg.ro,PV.int IntKind.i64 sg.wo] : List PV)[k]? = some (.int .i64 rate):=by
   rw [show ([PV.int IntKind.i64 sg.rp,PV.int IntKind.i64 sg.wp,PV.int IntKind.i64 sg.ro,PV.int IntKind.i64 sg.wo] : List PV) = R.map (PV.int .i64) by rw [<- hRR]; rfl,List.getElem?_map,hr1]
   rfl
  have hall:=Zr (p:=fun r=>decide (r = maxR)) hr1
  have hft:=BT hf
  obtain ⟨least,hle⟩ : ∃ least,least = (if (k : Int) < 2 then (4096 : Int) else 0):=⟨_,rfl⟩
  rw [<- hle] at hft
  have hl : 0 <= least /\ least <= 4096:=by rw [hle]; split <;> omega
  have i1:=Pa rate least x.now hr2 hl hn
  obtain ⟨bu,hbu⟩ : ∃ bu,bu = (if rate = maxR then 0 else max rate least):=⟨_,rfl⟩
  rw [<- hbu] at i1
  obtain ⟨c2,cm,d2,dm,e⟩ : ∃ c2 cm : Bool,decide ((k : Int) < 2) = c2 /\ decide (rate = 4611686018427387904) = cm /\ bu = if cm then 0 else if c2 then max rate 4096 else rate:=by
   refine ⟨_,_,rfl,rfl,?_⟩
   rw [hbu,hle]
   unfold C9 at hr2
   by_cases hm : rate = maxR
   ·rw [if_pos hm,decide_eq_true (show rate = 4611686018427387904 from hm)]; rfl
   ·rw [if_neg hm,decide_eq_false (show ¬ rate = 4611686018427387904 from hm)]
    by_cases hk2 : (k : Int) < 2
    ·rw [if_pos hk2,decide_eq_true hk2]; rfl
    ·rw [if_neg hk2,decide_eq_false hk2]
     show max rate 0 = rate
     omega
  rw [show decide (rate = maxR) = cm from dm] at hall
  generalize ((R.take k).all fun r=>decide (r = maxR)) = z at h9 hall
  rcases hcap with ⟨e1,e2⟩ | ⟨q,c,e1,e2,e3⟩
  ·rw [e2] at hft
   have hft : F.take (k + 1) = F.take k ++ [Ca rate least x.now]:=hft
   rw [e1] at i0
   have d1 : decide ((0 : Int) <= -1) = false:=rfl
   generalize Ca rate least x.now = y at i1 hft
   cases c2 <;> cases cm <;> cases z <;> simp only [bau,Bool.and_false,bfa,bta,if_true,if_false,bft] at e hall <;> rw [e] at i1
   all_goals
    simp -implicitDefEqProofs (disch:=omega) only [h1,h3,h7,h8,h9,hH,hlt,hgr,d2,dm,i1,i0,d1,go_sem]
   all_goals
    try refine ai ?_
    refine (hI _ _).2 ⟨acc ++ [y],w + 1,?_⟩
    and_intros
    ·exact by rw [ha,hft]
    ·exact by rw [lla,hal]; rfl
    all_goals first | exact cl0 | (simp -implicitDefEqProofs (disch:=omega) only [h1,h3,h7,h8,h9,hH,hall,lma,go_sem] <;> first | (simp [Ab,Cp.pv]; done) | (simp [Ab,Cp.pv]; omega))
  ·rw [e3] at hft
   simp only [Option.bind_some] at hft
   rw [e1] at i0
   have hcb:=(b1 c (lmg e2)).2
   have hql:=(lgs.1 e2).1
   obtain ⟨b,hb0,hbs⟩:=L5 hcb (k:=k) (by omega)
   have hkB:=(lgs.1 hb0).1
   have i2:=IG c
   have i3:=Vc b rate least (AK.1 hbs).1 hr2 hl
   rw [(AK.1 hbs).2.2,<- hbu] at i3
   rw [hb0] at hft
   have hft : F.take (k + 1) = F.take k ++ [FK b rate least]:=hft
   generalize ([c.rp,c.wp,c.ro,c.wo] : List Bk) = B0 at i2 hb0 hkB
   generalize Ca rate least x.now = y0 at i1
   generalize FK b rate least = y at i3 hft
   cases c2 <;> cases cm <;> cases z <;> simp only [bau,Bool.and_false,bfa,bta,if_true,if_false,bft] at e hall <;> rw [e] at i1 i3
   all_goals
    simp -implicitDefEqProofs (disch:=omega) only [h1,h3,h7,h8,h9,hH,hlt,hgr,d2,dm,i1,i0,i2,i3,hql,e2,hb0,hkB,Cp.pv,go_sem]
   all_goals
    try refine ai ?_
    refine (hI _ _).2 ⟨acc ++ [y],w + 1,?_⟩
    and_intros
    ·exact by rw [ha,hft]
    ·exact by rw [lla,hal]; rfl
    all_goals first | exact cl0 | (simp -implicitDefEqProofs (disch:=omega) only [h1,h3,h7,h8,h9,hH,hall,lma,go_sem] <;> first | (simp [Ab,Cp.pv]; done) | (simp [Ab,Cp.pv]; omega))
 ·have hk4 : k = 4:=by omega
  subst hk4
  rw [ltl (by omega)] at ha h9
  subst ha
  generalize (R.all fun r=>decide (r = maxR)) = op at h9 ⊢
  simp -implicitDefEqProofs (disch:=omega) only [h1,h3,h7,h8,h9,hH,hge,go_sem]
  obtain ⟨J,hJ⟩:=lpI fun j s=>∃ (ac2 : List Cp) (d : Bool) (w2 : Nat),insGo Cp.group c0 op x.buckets = ac2 ++ insGo Cp.group c0 d (x.buckets.drop j) /\ ac2.length <= 2 * j /\ s.pe 1 = .p (.int .i64 id) /\ s.pe 3 = .ptr (.slot 3 0) 0 0 /\ s.pe 8 = .own (.slot 8 0) w 0 acc.length /\ s.pe 15 = .own (.slot 15 0) w2 0 ac2.length /\ s.pe 16 = .p (.bool d) /\ s.pe 17 = .p (.int .i64 j) /\ s.h (.slot 3 0) = some (0,Ob.box [.p (.int .i64 x.m.rb),.p (.int .i64 x.m.rp),.p (.int .i64 x.m.wb),.p (.int .i64 x.m.wp),.p (.int .i64 x.m.seek),.p (.int .i64 x.speed),.p (.int .i64 x.margin),.p (.int .i64 x.now),.p (.int .i64 x.free),.p (.int .i64 x.head),.p (Aj x.weights),.p (A5 x.buckets),.p (AF x.depths),.p (Aj x.v),.p (AJ x.queue),.p (A4 x.flights)]) /\ s.h (.slot 8 0) = some (w,Ob.arr 5 (List.map Bk.pv acc)) /\ s.h (.slot 15 0) = some (w2,Ob.arr 21 (ac2.map Cp.pv))
  refine Am (x.buckets.length) J ?_ ?_
  ·refine (hJ _ _).2 ⟨[],op,nv (Bs [66] s.h (.slot 15 0)),?_⟩
   and_intros
   ·rfl
   ·exact cl3
   all_goals first | exact cl0 | (simp -implicitDefEqProofs (disch:=omega) only [h1,h3,h7,h8,h9,hH,lma,go_sem] <;> first | (simp [Ab,Cp.pv]; done) | (simp [Ab,Cp.pv]; omega))
  intro j s hj hJk
  obtain ⟨ac2,d,w2,hw,hal2,h1,h3,h8,hH⟩:=(hJ _ _).1 hJk
  clear hJk
  simp -implicitDefEqProofs (disch:=omega) only [h1,h3,h8,hH,go_sem]
  refine Af (fun hlt=>?_) (fun hge'=>?_)
  ·have hm : x.buckets[j]? = some x.buckets[j]:=lgg hlt
   have hd : x.buckets.drop j = x.buckets[j] :: x.buckets.drop (j + 1):=ldg hlt
   generalize x.buckets[j] = c at hm hd
   rw [hd,insGo,hNg] at hw
   cases d with
   | true =>
    by_cases he : c.group = id
    ·simp only [he,Bool.not_true,bfa,bft,if_false,if_true,lna,lan,Bool.true_or] at hw
     simp -implicitDefEqProofs (disch:=omega) only [h1,h3,h8,hH,hlt,hm,he,Cp.pv,go_sem]
     try refine ai ?_
     refine (hJ _ _).2 ⟨ac2,true,w2,?_⟩
     and_intros
     ·exact hw
     ·omega
     all_goals first | exact cl0 | (simp -implicitDefEqProofs (disch:=omega) only [h1,h3,h8,hH,lma,go_sem] <;> first | (simp [Ab,Cp.pv]; done) | (simp [Ab,Cp.pv]; omega))
    ·simp only [he,Bool.not_true,bfa,bft,if_false,lna,Bool.true_or,<- laa] at hw
     simp -implicitDefEqProofs (disch:=omega) only [h1,h3,h8,hH,hlt,hm,he,Cp.pv,go_sem]
     try refine ai ?_
     refine (hJ _ _).2 ⟨ac2 ++ [c],true,w2 + 1,?_⟩
     and_intros
     ·exact hw
     ·exact by simp; omega
     all_goals first | exact cl0 | (simp -implicitDefEqProofs (disch:=omega) only [h1,h3,h8,hH,lma,go_sem] <;> first | (simp [Ab,Cp.pv]; done) | (simp [Ab,Cp.pv]; omega))
   | false =>
    by_cases hge : id <= c.group
    ·by_cases he : c.group = id
     ·simp only [he,Int.le_refl,decide_true,bnf,bas,if_true,lan,Bool.or_true,<- laa] at hw
      simp -implicitDefEqProofs (disch:=omega) only [h1,h3,h8,hH,hlt,hm,hge,he,j2,Int.le_refl,decide_true,Cp.pv,go_sem]
      try refine ai ?_
      refine (hJ _ _).2 ⟨ac2 ++ [c0],true,w2 + 1,?_⟩
      and_intros
      .exact hw
      .exact by simp; omega
      all_goals first | exact cl0 | (simp -implicitDefEqProofs (disch:=omega) only [h1,h3,h8,hH,lma,go_sem] <;> first | (simp [Ab,Cp.pv]; done) | (simp [Ab,Cp.pv]; omega))
     ·simp only [he,hge,decide_true,bnf,bas,if_true,if_false,Bool.or_true,<- laa] at hw
      simp -implicitDefEqProofs (disch:=omega) only [h1,h3,h8,hH,hlt,hm,hge,he,j2,Cp.pv,go_sem]
      try refine ai ?_
      refine (hJ _ _).2 ⟨ac2 ++ [c0] ++ [c],true,w2 + 1 + 1,?_⟩
      and_intros
      .exact hw
      .exact by simp; omega
      all_goals first | exact cl0 | (simp -implicitDefEqProofs (disch:=omega) only [h1,h3,h8,hH,lma,go_sem] <;> first | (simp [Ab,Cp.pv]; done) | (simp [Ab,Cp.pv]; omega))
    ·have he : ¬ c.group = id:=by omega
     simp only [he,hge,decide_false,bnf,Bool.and_false,bft,if_false,lna,Bool.or_false,<- laa] at hw
     simp -implicitDefEqProofs (disch:=omega) only [h1,h3,h8,hH,hlt,hm,hge,he,Cp.pv,go_sem]
     try refine ai ?_
     refine (hJ _ _).2 ⟨ac2 ++ [c],false,w2 + 1,?_⟩
     and_intros
     .exact hw
     .exact by simp; omega
     all_goals first | exact cl0 | (simp -implicitDefEqProofs (disch:=omega) only [h1,h3,h8,hH,lma,go_sem] <;> first | (simp [Ab,Cp.pv]; done) | (simp [Ab,Cp.pv]; omega))
  ·rw [ldl (by omega),insGo] at hw
   cases d with
   | true =>
    simp only [if_true,lan] at hw
    simp -implicitDefEqProofs (disch:=omega) only [h1,h3,h8,hH,hge',go_sem]
    rw [hw]
   | false =>
    simp only [bft,if_false] at hw
    simp -implicitDefEqProofs (disch:=omega) only [h1,h3,h8,hH,hge',j2,go_sem]
    rw [hw]
    simp [Cp.pv]
def FH (x : Dv) (id : Int) (s : Sg) : Dv:={ x with weights:=withGo id s.weight (decide (s.weight = 100)) x.weights,buckets:=GM x id s,depths:=insGo Dp.group ⟨id,s.target,(getD x.depths id).depth⟩ (decide (s.target = 0) && decide ((getD x.depths id).depth = 256)) x.depths }
theorem Wl (l : List Dp) (id : Int) : getD l id ∈ l \/ getD l id = ⟨id,0,256⟩:=by
 induction l with
 | nil=>exact .inr rfl
 | cons x l ih =>
  unfold getD
  split
  ·exact .inl (lms ..)
  ·rcases ih with h | h
   .exact .inl (lmc _ h)
   .exact .inr h
theorem Wk (l : List Dp) (id : Int) : (getD l id).group = id:=by
 induction l with
 | nil=>rfl
 | cons x l ih =>
  unfold getD
  split
  .assumption
  .exact ih
theorem Lj {kn : Int -> Bool} : ∀ {l : List Dp} {p : Option Int},(∀ c ∈ l,kn c.group = true /\ (0 <= c.target /\ c.target <= 1048576) /\ 1 <= c.depth /\ c.depth <= 256) -> l.Pairwise (fun a b=>a.group < b.group) -> (∀ q,p = some q -> ∀ c ∈ l,q < c.group) -> BS kn p l = true
 | [],_,_,_,_=>rfl
 | c :: l,p,h1,h2,h3=>by
  obtain ⟨a1,a2,a3⟩:=h1 c (lms ..)
  rw [lpw] at h2
  simp only [BS,bat,Cn,JZ]
  exact ⟨⟨⟨a1,fun q hq=>h3 q hq c (lms ..)⟩,a2,a3⟩,Lj (fun x hx=>h1 x (lmc _ hx)) h2.2 fun q hq x hx=>by cases hq; exact h2.1 x hx⟩
theorem No {kn : Int -> Bool} {lo hi : Int} {l : List Ch} (h : AscOk kn lo hi l) {id w : Int} (d : Bool) (hk : kn id = true) (hw : lo <= w /\ w <= hi) : AscOk kn lo hi (withGo id w d l):=by
 refine ⟨fun c hc=>?_,HX id w l d h.inc,fun c hc=>?_⟩
 ·rcases ER id w l d c hc with ⟨_,rfl⟩ | ⟨hm,_⟩
  .exact hk
  .exact h.known c hm
 ·rcases ER id w l d c hc with ⟨_,rfl⟩ | ⟨hm,_⟩
  .exact hw
  .exact h.range c hm
theorem IN {o : Option Bk} {now rate least : Int} (ho : ∀ b,o = some b -> A1 now b = true) (h : C9 rate) (hl : 0 <= least /\ least <= 4096) (hn : 0 <= now /\ now <= 1048576) : A1 now (nbk o now rate least) = true:=by
 cases o with
 | none=>exact La h hl hn
 | some b=>exact zaA (ho b rfl) h hl
theorem XG {l : List Cp} {id : Int} {c : Cp} (h : BV l id = some c) : c ∈ l:=by
 induction l with
 | nil=>cases h
 | cons x l ih =>
  unfold BV at h
  split at h
  .cases h; exact lms ..
  .exact lmc _ (ih h)
theorem ZJ {t : Tr} {x : Dv} (h : DvOk t x) {id : Int} {s : Sg} (hk : Ak t.nodes id = true) (hs : SgOk s) : DvOk t (FH x id s):=by
 obtain ⟨b1,b2,_⟩:=CT.1 h.bk
 obtain ⟨d1,d2,_⟩:=Ix h.dp
 have d3:=K0 h.dp
 have hn:=h.now
 have hcb : ∀ (f : Cp -> Bk),(∀ c,BD x.now c = true -> A1 x.now (f c) = true) -> ∀ b,(BV x.buckets id).map f = some b -> A1 x.now b = true:=fun f hf b hb=>by
  cases hc : BV x.buckets id with
  | none=>rw [hc] at hb; cases hb
  | some c =>
   rw [hc] at hb
   cases hb
   exact hf c (b1 c (XG hc)).2
 refine ⟨h.tree,h.cfg,h.now,h.free,h.head,No h.w _ hk hs.w,Lj (fun c hc=>?_) (Kp d2) (fun q hq=>by cases hq),h.v,h.len,CT.2 ⟨fun c hc=>?_,Kp b2,fun q hq=>by cases hq⟩,h.q,h.fl⟩
 ·rcases If hc with ⟨_,rfl⟩ | hc
  ·refine ⟨hk,hs.t,?_⟩
   rcases Wl x.depths id with hg | hg
   .exact (d3 _ hg).2
   .rw [hg]; simp only; omega
  .exact ⟨d1 c hc,d3 c hc⟩
 ·rcases If hc with ⟨_,rfl⟩ | hc
  .exact ⟨hk,Dg.2 ⟨IN (hcb _ fun c hc=>(Dg.1 hc).1) hs.rp (by omega) hn,IN (hcb _ fun c hc=>(Dg.1 hc).2.1) hs.wp (by omega) hn,IN (hcb _ fun c hc=>(Dg.1 hc).2.2.1) hs.ro (by omega) hn,IN (hcb _ fun c hc=>(Dg.1 hc).2.2.2) hs.wo (by omega) hn⟩⟩
  .exact b1 c hc
abbrev dvZ : Dv:=Em ⟨0,0,0,0,0⟩ 0 0
theorem ZN {t : Tr} {x : Dv} (h : DvOk t x) (hs : x.Small) {id : Int} {s : Sg} (hk : Ak t.nodes id = true) (hsg : SgOk s) : V 58 [t.vv,x.vv,.p (.int .i64 id),s.vv 0] [] = some (.tup [(FH x id s).fv,.p (.int .i64 0)],[]):=by
 refine Ae (vf:=vf58) rfl ?_
 have i0:=IB h hs
 have i1:=Eu h.tree hk
 have i2:=XC s hsg
 have i3:=H0 x hs hs.q hs.f
 have i4:=WN x.weights id s.weight hs.w
 have hW:=No h.w (decide (s.weight = 100)) hk hsg.w
 unfold FH
 generalize withGo id s.weight (decide (s.weight = 100)) x.weights = W at i4 hW ⊢
 have h' : DvOk t { x with weights:=W }:=⟨h.tree,h.cfg,h.now,h.free,h.head,hW,h.dp,h.v,h.len,h.bk,h.q,h.fl⟩
 have i5:=Vb h' (Dz h') id hsg 0
 rw [show GM { x with weights:=W } id s = GM x id s from rfl] at i5
 have i6:=Kj x.depths id hs.p
 have hg:=Wk x.depths id
 have i7:=ZO x.depths ⟨id,s.target,(getD x.depths id).depth⟩ hs.p
 simp only at i7
 generalize GM x id s = BK at i5 ⊢
 generalize getD x.depths id = gd at i6 hg i7 ⊢
 generalize insGo Dp.group (⟨id,s.target,gd.depth⟩ : Dp) (decide (s.target = 0) && decide (gd.depth = 256)) x.depths = DP at i7 ⊢
 simp -implicitDefEqProofs (disch:=omega) only [vf58,LS,i0,i1,i2,i3,i4,i5,i6,i7,hg,go_sem]
theorem Yo {t : Tr} {id : Int} (ht : TreeOk t) (hk : Ak t.nodes id = false) : V 83 [t.vv,.p (.int .i64 id)] [] = some (.p (.bool false),[]):=by
 have h:=DR t id (by have:=ht.len; omega)
 rw [EA ((BH t).2 ht),show (AP t.nodes id).isSome = false from hk] at h
 exact h
theorem Yj {t : Tr} {x : Dv} (h : DvOk t x) (hs : x.Small) {id : Int} {s : Sg} (hk : Ak t.nodes id = false) : V 58 [t.vv,x.vv,.p (.int .i64 id),s.vv 0] [] = some (.tup [dvZ.fv,.p (.int .i64 4)],[]):=by
 refine Ae (vf:=vf58) rfl ?_
 have i0:=IB h hs
 have i1:=Yo h.tree hk
 simp -implicitDefEqProofs (disch:=omega) only [vf58,LS,i0,i1,lpn,go_sem]
 rfl
structure LeB (b' b : Bk) : Prop where
 rate : b'.rate = b.rate
 per : b'.per = b.per
 burst : b'.burst = b.burst
 level : b'.level <= b.level
theorem LeB.refl (b : Bk) : LeB b b:=⟨rfl,rfl,rfl,Int.le_refl _⟩
theorem LeB.trans {a b c : Bk} (h : LeB a b) (h' : LeB b c) : LeB a c:=⟨h.rate.trans h'.rate,h.per.trans h'.per,h.burst.trans h'.burst,Int.le_trans h.level h'.level⟩
def Per (c : Cp) : Prop:=∀ w,(kpB c w).per = 100 /\ (koB c w).per = 100
def LeC (c' c : Cp) : Prop:=c'.group = c.group /\ ∀ w,LeB (kpB c' w) (kpB c w) /\ LeB (koB c' w) (koB c w)
theorem LeC.refl (c : Cp) : LeC c c:=⟨rfl,fun _=>⟨LeB.refl _,LeB.refl _⟩⟩
theorem LeC.trans {a b c : Cp} (h : LeC a b) (h' : LeC b c) : LeC a c:=⟨h.1.trans h'.1,fun w=>⟨(h.2 w).1.trans (h'.2 w).1,(h.2 w).2.trans (h'.2 w).2⟩⟩
theorem LeC.per {c' c : Cp} (h : LeC c' c) (hp : Per c) : Per c':=fun w=>⟨(h.2 w).1.per.trans (hp w).1,(h.2 w).2.per.trans (hp w).2⟩
theorem zax (L : List Int) (a : Nat) (hL : L.length < 4611686018427387904) : ∃ (s : Sg) (b : Nat),V 35 [.ptr (.arg 0 0) 0 0,.p (.int .i64 0)] [AL L a] = some (s.vv 0,[AL L b]) /\ SgOk s:=by
 have c1:=WF L a hL
 have hw:=T7 L a
 generalize Gf L a = w at c1 hw
 generalize Ah L (Ah L a 1000) 8 = a1 at c1
 have c2:=CL L a1 [4611686018427387904,4611686018427387904,1,10,5000] hL (by decide) (by decide)
 have x2:=CI L a1 (xs:=[4611686018427387904,4611686018427387904,1,10,5000]) (by decide)
 generalize Ah L a1 ([4611686018427387904,4611686018427387904,1,10,5000] : List Int).length = a2 at c2
 have c3:=CL L a2 [4611686018427387904,4611686018427387904,4,100] hL (by decide) (by decide)
 have x3:=CI L a2 (xs:=[4611686018427387904,4611686018427387904,4,100]) (by decide)
 generalize Ah L a2 ([4611686018427387904,4611686018427387904,4,100] : List Int).length = a3 at c3
 have c4:=CL L a3 [4611686018427387904,4611686018427387904,1,3,50] hL (by decide) (by decide)
 have x4:=CI L a3 (xs:=[4611686018427387904,4611686018427387904,1,3,50]) (by decide)
 generalize Ah L a3 ([4611686018427387904,4611686018427387904,1,3,50] : List Int).length = a4 at c4
 have c5:=CL L a4 [4611686018427387904,2] hL (by decide) (by decide)
 have x5:=CI L a4 (xs:=[4611686018427387904,2]) (by decide)
 generalize Ah L a4 ([4611686018427387904,2] : List Int).length = a5 at c5
 have c6:=CL L a5 [0,0,5,20] hL (by decide) (by decide)
 have x6:=CI L a5 (xs:=[0,0,5,20]) (by decide)
 generalize Ah L a5 ([0,0,5,20] : List Int).length = a6 at c6
 generalize B7 L a1 [4611686018427387904,4611686018427387904,1,10,5000] = v2 at c2 x2
 generalize B7 L a2 [4611686018427387904,4611686018427387904,4,100] = v3 at c3 x3
 generalize B7 L a3 [4611686018427387904,4611686018427387904,1,3,50] = v4 at c4 x4
 generalize B7 L a4 [4611686018427387904,2] = v5 at c5 x5
 generalize B7 L a5 [0,0,5,20] = v6 at c6 x6
 simp only [AM,lpc,lpn] at c2 c3 c4 c5 c6
 simp only [lmk,List.not_mem_nil,or_false] at x2 x3 x4 x5 x6
 refine ⟨⟨w,v2,v3,v4,v5,v6⟩,a6,Ae (vf:=vf35) rfl ?_,⟨hw,?_,?_,?_,?_,by simp only; omega⟩⟩
 .simp -implicitDefEqProofs (disch:=omega) only [vf35,R1,c1,c2,c3,c4,c5,c6,go_sem]
 all_goals (unfold C9; simp only; have hmx : maxR = 4611686018427387904:=rfl; omega)
theorem Z1 {t : Tr} (h : TreeOk t) {m : Mdl} {speed margin : Int} (hc : DB m speed margin = true) : DvOk t (Em m speed margin) :=
 ⟨h,hc,by simp,by simp,by simp,(EU _ _ _ _).1 rfl,rfl,(EU _ _ _ _).1 rfl,by simp,rfl,by simp,rfl⟩
theorem K4 {t : Tr} {d : Dv} {r : Rq} (h : DvOk t d) (hr : AC { r with time:=0 } = true) (hk : Ak t.nodes r.group = true) (hl : d.queue.length + d.flights.length < 256) : DvOk t (BX d r):=by
 refine ⟨h.tree,h.cfg,h.now,h.free,h.head,h.w,h.dp,h.v,?_,h.bk,fun x hx=>?_,h.fl⟩
 ·show (d.queue ++ [_]).length + d.flights.length <= 256
  rw [lla,List.length_singleton]
  omega
 ·rcases lmp.1 hx with hx | hx
  ·exact h.q x hx
  ·rw [List.mem_singleton] at hx
   subst hx
   refine ⟨?_,hk⟩
   have hn:=h.now
   rw [C0] at hr ⊢
   simp only at hr ⊢
   omega
theorem RA {f : FuncId} {vf : VFunc} (hf : prog f = some vf) {args : List VVal} {H : List Ob} {Q : VVal × List Ob -> Prop} (h : wp (BW V vf args H) Q) : ∃ r,V f args H = some r /\ Q r:=by
 obtain ⟨a,e,q⟩:=h
 exact ⟨a,GI hf e,q⟩
def zbd (L : List Int) (t : Tr) (n : Nat) (r : VVal × List Ob) : Prop:=∃ (x : Dv) (b : Nat),r = (x.vv,[AL L b]) /\ DvOk t x /\ x.now <= n /\ x.queue.length + x.flights.length <= n
theorem P8 (L : List Int) (a : Nat) {t : Tr} (h : TreeOk t) (n : Nat) (hn : n <= 100) (hL : L.length < 4611686018427387904) : ∃ (x : Dv) (b : Nat),V 22 [.ptr (.arg 0 0) 0 0,t.vv,.p (.int .i64 n)] [AL L a] = some (x.vv,[AL L b]) /\ DvOk t x /\ x.now <= n /\ x.queue.length + x.flights.length <= n:=by
 suffices hw : wp (BW V vf22 [.ptr (.arg 0 0) 0 0,t.vv,.p (.int .i64 n)] [AL L a]) (zbd L t n) by
  obtain ⟨r,hr,x,b,e,h1⟩:=RA (f:=22) rfl hw
  subst e
  exact ⟨x,b,hr,h1⟩
 have hlen:=h.len
 obtain ⟨m,speed,margin,a1,c1,hcok⟩:=Zc L a hL
 have c2:=WZ m speed margin hcok
 have hD:=Z1 h hcok
 have c3:=CM L a1 (n + 1) hL (by omega)
 have n0:=Ck L a1 ((n : Int) + 1)
 have n1:=Cl L a1 (n:=(n : Int) + 1) (by omega)
 generalize Ah L a1 ((n : Int) + 1) = a2 at c3
 generalize AA L a1 ((n : Int) + 1) = v at c3 n0 n1
 obtain ⟨N,rfl⟩ : ∃ N : Nat,v = N:=⟨v.toNat,by omega⟩
 simp -implicitDefEqProofs (disch:=omega) only [vf22,R9,c1,c2,c3,go_sem]
 obtain ⟨I,hI⟩:=lpI fun k s=>∃ (x : Dv) (b : Nat),DvOk t x /\ x.now <= k /\ x.queue.length + x.flights.length <= k /\ s.pe 0 = .ptr (Id.arg 0 0) 0 0 /\ s.pe 4 = .ptr (.slot 4 0) 0 0 /\ s.pe 6 = .ptr (.slot 6 0) 0 0 /\ s.pe 7 = .ptr (.slot 7 0) 0 0 /\ s.pe 9 = .p (.int .i64 ((N : Int) - k)) /\ s.h (.arg 0 0) = some (0,Ob.box [.p (AM L),.p (.int .i64 (b : Nat))]) /\ s.h (.slot 4 0) = some (0,Ob.box [.p (Ap t.nodes),.p (.int .i64 t.next)]) /\ s.h (.slot 6 0) = some (0,Ob.box [.p (.int .i64 0),.p (.int .i64 0),.p (.int .i64 0),.p (.int .i64 0),.p (.int .i64 0),.p (.int .i64 0),.p (.int .i64 0),.p (.int .i64 0),.p (.int .i64 0),.p (.int .i64 0),.own (.slot 6 11) 0 0 0,.own (.slot 6 12) 0 0 0,.own (.slot 6 13) 0 0 0,.own (.slot 6 14) 0 0 0,.own (.slot 6 15) 0 0 0,.own (.slot 6 16) 0 0 0]) /\ ∃ X,s.h (.slot 7 0) = some (0,Ob.box X) /\ X.map (fz0 [10,15,32,46,58] s.h) = dvC x
 refine Am (N) I ?_ ?_
 ·refine (hI _ _).2 ⟨Em m speed margin,a2,?_⟩
  and_intros
  ·exact hD
  ·exact by simp
  ·exact by simp
  all_goals first | exact cl0 | (simp -implicitDefEqProofs (disch:=omega) only [lma,go_sem] <;> first | (simp [Ab]; done) | (simp [Ab]; omega)) | (simp -implicitDefEqProofs (disch:=omega) only [lma,go_sem] <;> (refine ⟨_,rfl,?_⟩; first | rfl | (simp -implicitDefEqProofs (disch:=omega) only [lma,go_sem]; done) | (simp -implicitDefEqProofs (disch:=omega) only [lma,go_sem]; rfl)))
 intro k s hk hIk
 obtain ⟨x,b,hx,hxn,hxq,h0,h4,h6,h7,h9,ha0,hh4_0,hh6_0,hX⟩:=(hI _ _).1 hIk
 clear hIk
 obtain ⟨X,hX⟩:=hX
 have hs:=Dz hx
 simp -implicitDefEqProofs (disch:=omega) only [h0,h4,h6,h7,h9,ha0,hh4_0,hh6_0,hX,go_sem]
 refine Af (fun hlt=>?_) (fun hge=>?_)
 ·have c4:=CM L b 5 hL (by omega)
  have n2:=Ck L b 5
  have n3:=Cl L b (n:=5) (by omega)
  generalize Ah L b 5 = b1 at c4
  generalize AA L b 5 = w at c4 n2 n3
  by_cases w0 : w = 0
  ·have w0' : decide (w = 0) = true:=decide_eq_true w0
   have c5:=YT L b1 t hL (by omega)
   generalize Gw L b1 t.nodes = gd at c5
   obtain ⟨g,b2⟩:=gd
   simp only at c5
   obtain ⟨s,b3,c6,hsg⟩:=zax L b2 hL
   cases hk : Ak t.nodes g with
   | true =>
    have c7:=ZN hx hs hk hsg
    have hok:=ZJ hx hk hsg
    have e1 : (FH x g s).now = x.now:=rfl
    have e2 : (FH x g s).queue = x.queue:=rfl
    have e3 : (FH x g s).flights = x.flights:=rfl
    generalize FH x g s = z at c7 hok e1 e2 e3
    simp -implicitDefEqProofs (disch:=omega) only [h0,h4,h6,h7,h9,ha0,hh4_0,hh6_0,hX,hlt,c4,w0',c5,c6,c7,go_sem]
    try refine ai ?_
    refine (hI _ _).2 ⟨z,b3,?_⟩
    and_intros
    ·exact hok
    ·exact by rw [e1]; omega
    ·exact by rw [e2,e3]; omega
    all_goals first | exact cl0 | (simp -implicitDefEqProofs (disch:=omega) only [h0,h4,h6,h7,h9,ha0,hh4_0,hh6_0,hX,lma,go_sem] <;> first | (simp [Ab]; done) | (simp [Ab]; omega)) | (simp -implicitDefEqProofs (disch:=omega) only [h0,h4,h6,h7,h9,ha0,hh4_0,hh6_0,hX,lma,go_sem] <;> (refine ⟨_,rfl,?_⟩; first | rfl | (simp -implicitDefEqProofs (disch:=omega) only [h0,h4,h6,h7,h9,ha0,hh4_0,hh6_0,hX,lma,go_sem]; done) | (simp -implicitDefEqProofs (disch:=omega) only [h0,h4,h6,h7,h9,ha0,hh4_0,hh6_0,hX,lma,go_sem]; rfl)))
   | false =>
    have c7:=Yj (s:=s) hx hs hk
    have d4 : decide ((4 : Int) = 0) = false:=rfl
    simp -implicitDefEqProofs (disch:=omega) only [h0,h4,h6,h7,h9,ha0,hh4_0,hh6_0,hX,hlt,c4,w0',c5,c6,c7,d4,go_sem]
    try refine ai ?_
    refine (hI _ _).2 ⟨x,b3,?_⟩
    and_intros
    ·exact hx
    ·omega
    ·omega
    all_goals first | exact cl0 | (simp -implicitDefEqProofs (disch:=omega) only [h0,h4,h6,h7,h9,ha0,hh4_0,hh6_0,hX,lma,go_sem] <;> first | (simp [Ab]; done) | (simp [Ab]; omega)) | (simp -implicitDefEqProofs (disch:=omega) only [h0,h4,h6,h7,h9,ha0,hh4_0,hh6_0,hX,lma,go_sem] <;> (refine ⟨_,rfl,?_⟩; first | rfl | (simp -implicitDefEqProofs (disch:=omega) only [h0,h4,h6,h7,h9,ha0,hh4_0,hh6_0,hX,lma,go_sem]; done) | (simp -implicitDefEqProofs (disch:=omega) only [h0,h4,h6,h7,h9,ha0,hh4_0,hh6_0,hX,lma,go_sem]; rfl)))
  ·obtain ⟨r,b2,c5,hr1,hr2⟩:=JX L b1 h hL
   by_cases w1 : w = 1 \/ w = 2
   ·have c6:=WY hx hs hr1 hr2 (by omega)
    have hok:=K4 hx hr1 hr2 (by omega)
    have e1 : (BX x r).now = x.now:=rfl
    have e2 : (BX x r).queue.length = x.queue.length + 1:=by rw [lla,List.length_singleton]
    have e3 : (BX x r).flights = x.flights:=rfl
    generalize BX x r = z at c6 hok e1 e2 e3
    rcases w1 with w1 | w1
    ·have w1' : decide (w = 1) = true:=decide_eq_true w1
     simp -implicitDefEqProofs (disch:=omega) only [h0,h4,h6,h7,h9,ha0,hh4_0,hh6_0,hX,hlt,c4,w0,w1',c5,c6,go_sem]
     try refine ai ?_
     refine (hI _ _).2 ⟨z,b2,?_⟩
     and_intros
     .exact hok
     .exact by rw [e1]; omega
     .exact by rw [e2,e3]; omega
     all_goals first | exact cl0 | (simp -implicitDefEqProofs (disch:=omega) only [h0,h4,h6,h7,h9,ha0,hh4_0,hh6_0,hX,lma,go_sem] <;> first | (simp [Ab]; done) | (simp [Ab]; omega)) | (simp -implicitDefEqProofs (disch:=omega) only [h0,h4,h6,h7,h9,ha0,hh4_0,hh6_0,hX,lma,go_sem] <;> (refine ⟨_,rfl,?_⟩; first | rfl | (simp -implicitDefEqProofs (disch:=omega) only [h0,h4,h6,h7,h9,ha0,hh4_0,hh6_0,hX,lma,go_sem]; done) | (simp -implicitDefEqProofs (disch:=omega) only [h0,h4,h6,h7,h9,ha0,hh4_0,hh6_0,hX,lma,go_sem]; rfl)))
    ·have w1' : decide (w = 2) = true:=decide_eq_true w1
     have w2' : decide (w = 1) = false:=decide_eq_false (by omega)
     simp -implicitDefEqProofs (disch:=omega) only [h0,h4,h6,h7,h9,ha0,hh4_0,hh6_0,hX,hlt,c4,w0,w2',w1',c5,c6,go_sem]
     try refine ai ?_
     refine (hI _ _).2 ⟨z,b2,?_⟩
     and_intros
     .exact hok
     .exact by rw [e1]; omega
     .exact by rw [e2,e3]; omega
     all_goals first | exact cl0 | (simp -implicitDefEqProofs (disch:=omega) only [h0,h4,h6,h7,h9,ha0,hh4_0,hh6_0,hX,lma,go_sem] <;> first | (simp [Ab]; done) | (simp [Ab]; omega)) | (simp -implicitDefEqProofs (disch:=omega) only [h0,h4,h6,h7,h9,ha0,hh4_0,hh6_0,hX,lma,go_sem] <;> (refine ⟨_,rfl,?_⟩; first | rfl | (simp -implicitDefEqProofs (disch:=omega) only [h0,h4,h6,h7,h9,ha0,hh4_0,hh6_0,hX,lma,go_sem]; done) | (simp -implicitDefEqProofs (disch:=omega) only [h0,h4,h6,h7,h9,ha0,hh4_0,hh6_0,hX,lma,go_sem]; rfl)))
   ·have w1' : decide (w = 1) = false:=decide_eq_false (by omega)
    have w2' : decide (w = 2) = false:=decide_eq_false (by omega)
    have c6:=Yh hx hs (by omega)
    have hok:=KD hx (by omega)
    have hkp:=(JH t x).1
    have hcn:=JI t x
    generalize tickD t x = z at c6 hok hkp hcn
    simp -implicitDefEqProofs (disch:=omega) only [h0,h4,h6,h7,h9,ha0,hh4_0,hh6_0,hX,hlt,c4,w0,w1',w2',c6,go_sem]
    try refine ai ?_
    refine (hI _ _).2 ⟨z,b1,?_⟩
    and_intros
    .exact hok
    .exact by rw [hkp]; omega
    .omega
    all_goals first | exact cl0 | (simp -implicitDefEqProofs (disch:=omega) only [h0,h4,h6,h7,h9,ha0,hh4_0,hh6_0,hX,lma,go_sem] <;> first | (simp [Ab]; done) | (simp [Ab]; omega)) | (simp -implicitDefEqProofs (disch:=omega) only [h0,h4,h6,h7,h9,ha0,hh4_0,hh6_0,hX,lma,go_sem] <;> (refine ⟨_,rfl,?_⟩; first | rfl | (simp -implicitDefEqProofs (disch:=omega) only [h0,h4,h6,h7,h9,ha0,hh4_0,hh6_0,hX,lma,go_sem]; done) | (simp -implicitDefEqProofs (disch:=omega) only [h0,h4,h6,h7,h9,ha0,hh4_0,hh6_0,hX,lma,go_sem]; rfl)))
 ·simp -implicitDefEqProofs (disch:=omega) only [h0,h4,h6,h7,h9,ha0,hh4_0,hh6_0,hX,hge,go_sem]
  exact ⟨x,b,rfl,hx,by omega,by omega⟩
def ofQ (q : List Rq) (id : Int) : List Rq:=q.filter fun r=>decide (r.group = id)
theorem M8 {g : Int} (id : Int) : ∀ {q : List Rq} {r : Rq},A2 q g = some r -> ofQ (Bd q g) id = if g = id then (ofQ q id).drop 1 else ofQ q id
 | [],r,h=>by cases h
 | x :: q,r,h=>by
  unfold A2 at h
  unfold Bd ofQ
  by_cases e : x.group = g
  ·rw [if_pos e]
   by_cases hi : g = id
   ·rw [if_pos hi,List.filter_cons_of_pos (by simp [e,hi])]; rfl
   ·rw [if_neg hi,List.filter_cons_of_neg (by simp [e,hi])]
  ·rw [if_neg e] at h ⊢
   have ih:=M8 id h
   unfold ofQ at ih
   by_cases hx : x.group = id
   ·have hi : ¬ g = id:=fun h=>e (hx.trans h.symm)
    rw [if_neg hi] at ih ⊢
    rw [List.filter_cons_of_pos (by simp [hx]),List.filter_cons_of_pos (by simp [hx]),ih]
   .rw [List.filter_cons_of_neg (by simp [hx]),List.filter_cons_of_neg (by simp [hx]),ih]
theorem U3 (t : Tr) (d : Dv) (id : Int) : ofQ (tickD t d).queue id <:+ ofQ d.queue id:=by
 refine Fn (t:=t) (P:=fun x=>ofQ x.queue id <:+ ofQ d.queue id) (fun x g r v h st=>?_) _ _ (List.suffix_refl _)
 show ofQ (Bd x.queue g) id <:+ _
 rw [M8 id st.first]
 split
 .exact (List.drop_suffix 1 _).trans h
 .exact h
def AQ (t : Tr) (fs : List Fl) (id : Int) : Nat:=(fs.filter fun f=>decide (id ∈ ancF t.nodes t.nodes.length f.r.group)).length
theorem XX (t : Tr) (l : List Fl) (f : Fl) (id : Int) : AQ t (BR l f) id = AQ t l id + if id ∈ ancF t.nodes t.nodes.length f.r.group then 1 else 0:=by
 have h:=congrArg (fun l=>AQ t l id) (List.takeWhile_append_dropWhile (p:=fun x : Fl=>decide (x.done <= f.done)) (l:=l))
 simp only [AQ,List.filter_append,lla] at h
 unfold BR AQ
 rw [List.filter_append,lla,lfl]
 split
 ·rename_i hc
  rw [if_pos (by simpa using hc),llc]
  omega
 ·rename_i hc
  rw [if_neg (by simpa using hc)]
  omega
theorem WJ (t : Tr) (f : Fl) (l : List Fl) (id : Int) : AQ t (f :: l) id = (if id ∈ ancF t.nodes t.nodes.length f.r.group then 1 else 0) + AQ t l id:=by
 unfold AQ
 rw [lfl]
 split
 ·rename_i hc
  rw [if_pos (by simpa using hc),llc]; omega
 ·rename_i hc
  rw [if_neg (by simpa using hc)]; omega
theorem XB (f : Fl) (l : List Fl) (x : Int) : AG (f :: l) x = (if f.r.group = x then 1 else 0) + AG l x:=by
 unfold AG
 rw [lfl]
 split
 ·rename_i hc
  rw [if_pos (by simpa using hc),llc]; omega
 ·rename_i hc
  rw [if_neg (by simpa using hc)]; omega
theorem X1 {S : List Int} (hS : S.Nodup) (g : Int) : Ag (S.map fun x=>if g = x then 1 else 0) = if g ∈ S then 1 else 0:=by
 induction S with
 | nil=>rfl
 | cons y S ih =>
  rw [List.nodup_cons] at hS
  simp only [lpc,Ag,ih hS.2,lmk]
  by_cases h1 : g = y
  ·subst h1
   rw [if_pos rfl,if_neg hS.1,if_pos (.inl rfl)]
   rfl
  ·rw [if_neg h1]
   by_cases h2 : g ∈ S
   .rw [if_pos h2,if_pos (.inr h2)]; rfl
   .rw [if_neg h2,if_neg (by simp [h1,h2])]; rfl
theorem O0 {f g : Int -> Int} : ∀ l : List Int,Ag (l.map fun x=>f x + g x) = Ag (l.map f) + Ag (l.map g)
 | []=>rfl
 | x :: l=>by simp only [lpc,Ag,O0 l]; omega
theorem O1 {t : Tr} (h : TreeOk t) {i : Nat} {n : Nd} (hn : t.nodes[i]? = some n) : ∀ (fs : List Fl),(∀ f ∈ fs,Ak t.nodes f.r.group = true) -> El t fs n.id = (AQ t fs n.id : Int)
 | [],_=>by
  unfold El
  have e : AG [] = fun _=>0:=rfl
  rw [e,sumI_const0]
  rfl
 | f :: fs,hk=>by
  have ih:=O1 h hn fs fun x hx=>hk x (lmc _ hx)
  have hnd:=J2 h t.nodes.length i n hn (by omega)
  have e : AG (f :: fs) = fun x=>(if f.r.group = x then 1 else 0) + AG fs x:=funext fun x=>XB f fs x
  unfold El at ih ⊢
  rw [e,O0,X1 hnd,ih,WJ]
  have hm : f.r.group ∈ AB t.nodes t.nodes.length n.id ↔ n.id ∈ ancF t.nodes t.nodes.length f.r.group:=by
   rw [Gd h t.nodes.length i n hn (by omega)]
   constructor
   ·rintro ⟨j,m,_,hm,ha⟩
    rw [<- hm]; exact ha
   ·intro ha
    obtain ⟨m,hm,hid⟩:=CS (hk f (lms ..))
    obtain ⟨j,hj⟩:=lgm hm
    exact ⟨j,m,hj,hid,by rw [hid]; exact ha⟩
  by_cases hg : n.id ∈ ancF t.nodes t.nodes.length f.r.group
  .rw [if_pos (hm.2 hg),if_pos hg]; omega
  .rw [if_neg (fun hx=>hg (hm.1 hx)),if_neg hg]; omega
where
 sumI_const0 : ∀ {l : List Int},Ag (l.map fun _=>(0 : Int)) = 0:=by
  intro l
  induction l with
  | nil=>rfl
  | cons x l ih=>simp only [lpc,Ag,ih]; omega
theorem U5 {t : Tr} {d : Dv} (h : DvOk t d) (hnow : d.now < 1048576) {i : Nat} {n : Nd} (hn : t.nodes[i]? = some n) :
  AQ t (tickD t d).flights n.id = AQ t (advD d).flights n.id \/ (AQ t (tickD t d).flights n.id : Int) <= (getD d.depths n.id).depth:=by
 have:=Fn (t:=t) (P:=fun x=>DvOk t x /\ x.depths = d.depths /\ (AQ t x.flights n.id = AQ t (advD d).flights n.id \/ (AQ t x.flights n.id : Int) <= (getD d.depths n.id).depth)) (fun x g r v hp st=>by
  obtain ⟨h1,h2,h3⟩:=hp
  refine ⟨Hj h1 st,h2,?_⟩
  show AQ t (BR x.flights _) n.id = _ \/ (AQ t (BR x.flights _) n.id : Int) <= _
  rw [XX]
  by_cases hg : n.id ∈ ancF t.nodes t.nodes.length r.group
  ·right
   rw [if_pos hg]
   have h0:=st.pos
   rw [st.next] at h0
   obtain ⟨r',hr',hpass⟩:=J3 h0
   rw [<- st.next,st.first] at hr'
   cases hr'
   unfold C8 EI at hpass
   simp only [bat,List.all_eq_true,decide_eq_true_eq] at hpass
   have:=hpass.1 _ hg
   rw [O1 h1.tree hn x.flights fun f hf=>((Di.1 h1.fl).1 f hf).1.2,h2] at this
   omega
  ·rw [if_neg hg]
   exact h3) (d.queue.length + 1) (advD d) ⟨Hq h hnow,rfl,.inl rfl⟩
 exact this.2.2
theorem Vy (d : Dv) : ∀ f ∈ endedD d,f.done <= d.now + 1:=fun f hf=>by
 unfold endedD at hf
 generalize d.flights = l at hf
 induction l with
 | nil=>cases hf
 | cons x l ih =>
  by_cases hx : x.done <= d.now + 1
  ·rw [List.takeWhile_cons_of_pos (by simpa using hx)] at hf
   rcases lmk.1 hf with rfl | hf
   .exact hx
   .exact ih hf
  ·rw [List.takeWhile_cons_of_neg (by simpa using hx)] at hf
   cases hf
theorem U4 {t : Tr} {d : Dv} (h : DvOk t d) (hnow : d.now < 1048576) : ∀ f ∈ (tickD t d).flights,d.now + 1 < f.done:=by
 have hs:=(Di.1 h.fl).2.1
 have h0 : ∀ f ∈ (advD d).flights,d.now + 1 < f.done:=by
  show ∀ f ∈ d.flights.dropWhile (fun f=>decide (f.done <= d.now + 1)),d.now + 1 < f.done
  generalize d.flights = l at hs
  induction l with
  | nil=>intro f hf; cases hf
  | cons x l ih =>
   rw [lpw] at hs
   intro f hf
   by_cases hx : x.done <= d.now + 1
   ·rw [List.dropWhile_cons_of_pos (by simpa using hx)] at hf
    exact ih hs.2 f hf
   ·rw [List.dropWhile_cons_of_neg (by simpa using hx)] at hf
    rcases lmk.1 hf with rfl | hf
    .omega
    .have:=hs.1 f hf; omega
 have:=Fn (t:=t) (P:=fun x=>DvOk t x /\ x.now = d.now + 1 /\ ∀ f ∈ x.flights,d.now + 1 < f.done) (fun x g r v hp st=>by
  obtain ⟨h1,h2,h3⟩:=hp
  refine ⟨Hj h1 st,h2,fun f hf=>?_⟩
  rcases KP.1 hf with rfl | hf
  ·have:=H6 h1 st.busy (h1.q r (F4 st.first).1).1
   show d.now + 1 < AY x r
   omega
  .exact h3 f hf) (d.queue.length + 1) (advD d) ⟨Hq h hnow,rfl,h0⟩
 exact this.2.2
theorem P2 (x : Dv) (id : Int) (hl : x.queue.length < 1000000) : V 23 [x.vv,.p (.int .i64 id)] [] = some (.fresh 6 ((ofQ x.queue id).map Rq.pv),[]):=by
 refine Ae (vf:=vf23) rfl ?_
 simp -implicitDefEqProofs (disch:=omega) only [vf23,R8,go_sem]
 obtain ⟨I,hI⟩:=lpI fun k s=>∃ (acc : List Rq) (w : Nat),acc = ofQ (x.queue.take k) id /\ acc.length <= k /\ s.pe 1 = .p (.int .i64 id) /\ s.pe 2 = .ptr (.slot 2 0) 0 0 /\ s.pe 5 = .own (.slot 5 0) w 0 acc.length /\ s.pe 6 = .p (.int .i64 k) /\ s.h (.slot 2 0) = some (0,Ob.box [.p (.int .i64 x.m.rb),.p (.int .i64 x.m.rp),.p (.int .i64 x.m.wb),.p (.int .i64 x.m.wp),.p (.int .i64 x.m.seek),.p (.int .i64 x.speed),.p (.int .i64 x.margin),.p (.int .i64 x.now),.p (.int .i64 x.free),.p (.int .i64 x.head),.p (Aj x.weights),.p (A5 x.buckets),.p (AF x.depths),.p (Aj x.v),.p (AJ x.queue),.p (A4 x.flights)]) /\ s.h (.slot 5 0) = some (w,Ob.arr 6 (acc.map Rq.pv))
 refine Am (x.queue.length) I ?_ ?_
 ·refine (hI _ _).2 ⟨[],0,?_⟩
  and_intros
  ·rfl
  ·exact cl3
  all_goals first | exact cl0 | (simp -implicitDefEqProofs (disch:=omega) only [lma,go_sem] <;> first | (simp [Ab]; done) | (simp [Ab]; omega))
 intro k s hk hIk
 obtain ⟨acc,w,ha,hal,hH⟩:=(hI _ _).1 hIk
 clear hIk
 simp -implicitDefEqProofs (disch:=omega) only [hH,go_sem]
 refine Af (fun hlt=>?_) (fun hge=>?_)
 ·have hm : x.queue[k]? = some x.queue[k]:=lgg hlt
  have htk:=BT hm
  generalize x.queue[k] = r at hm htk
  by_cases hr : r.group = id
  ·simp -implicitDefEqProofs (disch:=omega) only [hH,hlt,hm,hr,go_sem]
   try refine ai ?_
   refine (hI _ _).2 ⟨acc ++ [r],w + 1,?_⟩
   and_intros
   .exact by rw [ha,htk]; unfold ofQ; rw [List.filter_append]; simp [hr]
   .exact by rw [lla,List.length_singleton]; omega
   all_goals first | exact cl0 | (simp -implicitDefEqProofs (disch:=omega) only [hH,lma,go_sem] <;> first | (simp [Ab]; done) | (simp [Ab]; omega))
  ·simp -implicitDefEqProofs (disch:=omega) only [hH,hlt,hm,hr,go_sem]
   try refine ai ?_
   refine (hI _ _).2 ⟨acc,w,?_⟩
   and_intros
   .exact by rw [ha,htk]; unfold ofQ; rw [List.filter_append]; simp [hr]
   .omega
   all_goals first | exact cl0 | (simp -implicitDefEqProofs (disch:=omega) only [hH,lma,go_sem] <;> first | (simp [Ab]; done) | (simp [Ab]; omega))
 ·rw [ltl (by omega)] at ha
  rw [<- ha]
  simp -implicitDefEqProofs (disch:=omega) only [hH,hge,go_sem]
theorem Yc (l : List Rq) (hl : l.length < 1000000) : V 24 [.p (AJ l),.p (AJ l)] [] = some (.p (.bool true),[]):=by
 refine Ae (vf:=vf24) rfl ?_
 have hd : decide ((l.length : Int) = l.length) = true:=decide_eq_true rfl
 simp -implicitDefEqProofs (disch:=omega) only [vf24,R7,hd,go_sem]
 obtain ⟨I,hI⟩:=lpI fun k s=>s.pe 0 = .p (AJ l) /\ s.pe 1 = .p (AJ l) /\ s.pe 5 = .p (.int .i64 k)
 refine Am (l.length) I ?_ ?_
 ·refine (hI _ _).2 ⟨?_,?_,?_⟩
  all_goals first | exact cl0 | (simp -implicitDefEqProofs (disch:=omega) only [h1,h2,h5,h6,hh2_0,hh5_0,lma,go_sem] <;> first | (simp [Ab]; done) | (simp [Ab]; omega))
 intro k s hk hIk
 obtain ⟨h0,h1,h5⟩:=(hI _ _).1 hIk
 clear hIk
 simp -implicitDefEqProofs (disch:=omega) only [h0,h1,h5,go_sem]
 refine Af (fun hlt=>?_) (fun hge=>?_)
 ·have hm : l[k]? = some l[k]:=lgg hlt
  generalize l[k] = r at hm
  simp -implicitDefEqProofs (disch:=omega) only [h0,h1,h5,hlt,hm,Dr,eq0,beq_self_eq_true,bas,bau,go_sem]
  try refine ai ?_
  refine (hI _ _).2 ⟨?_,?_,?_⟩
  all_goals first | exact cl0 | (simp -implicitDefEqProofs (disch:=omega) only [h0,h1,h5,lma,go_sem] <;> first | (simp [Ab]; done) | (simp [Ab]; omega))
 .simp -implicitDefEqProofs (disch:=omega) only [h0,h1,h5,hge,go_sem]
theorem TG (L : List Int) : V 4 [.p (AM L)] [] = some (.p (.bool true),[]):=by
 refine Ae (vf:=vf4) rfl ?_
 have hli:=Pn (L.map (PV.int .i64))
 rw [llm] at hli
 by_cases hL : L.length <= 600
 ·rw [decide_eq_true hL] at hli
  have hro:=PO L
  have htr : V 13 [.ptr (.arg 0 0) 0 0,.p (.int .i64 4)] [.box [.p (AM L),.p (.int .i64 0)]] = some ((DY L 0 4).1.vv,[AL L (DY L 0 4).2]):=PL L 0 4 (by omega) (by omega)
  have hok:=PD L 0 4
  generalize DY L 0 4 = ta at htr hok
  obtain ⟨t,a0⟩:=ta
  simp only at htr hok
  have hlen:=hok.len
  obtain ⟨x0,b0,hdv,hD,hDn,hDq⟩:=P8 L a0 hok 10 (by omega) (by omega)
  have hdv : V 22 [.ptr (.arg 0 0) 0 0,t.vv,.p (.int .i64 10)] [AL L a0] = some (x0.vv,[AL L b0]):=hdv
  simp -implicitDefEqProofs (disch:=omega) only [vf4,vb4,hli,hro,htr,hdv,go_sem]
  obtain ⟨I,hI⟩:=lpI fun k s=>∃ (x : Dv) (b : Nat),DvOk t x /\ x.now <= 10 + k /\ x.queue.length + x.flights.length <= 10 + 3 * k /\ s.pe 3 = .ptr (.slot 21 1) 0 0 /\ s.pe 4 = .ptr (.slot 4 0) 0 0 /\ s.pe 5 = .ptr (.slot 5 0) 0 0 /\ s.pe 6 = .p (.int .i64 k) /\ s.h (.slot 4 0) = some (0,Ob.box [.p (Ap t.nodes),.p (.int .i64 t.next)]) /\ s.h (.slot 21 1) = some (0,Ob.box [.p (AM L),.p (.int .i64 (b : Nat))]) /\ ∃ X,s.h (.slot 5 0) = some (0,Ob.box X) /\ X.map (fz0 [8,10,43,52,72,80] s.h) = dvC x
  refine Am (15) I ?_ ?_
  ·refine (hI _ _).2 ⟨x0,b0,?_⟩
   and_intros
   ·exact hD
   ·omega
   ·omega
   all_goals first | exact cl0 | (simp -implicitDefEqProofs (disch:=omega) only [lma,go_sem] <;> first | (simp [Ab]; done) | (simp [Ab]; omega)) | (simp -implicitDefEqProofs (disch:=omega) only [lma,go_sem] <;> (refine ⟨_,rfl,?_⟩; first | rfl | (simp -implicitDefEqProofs (disch:=omega) only [lma,go_sem]; done) | (simp -implicitDefEqProofs (disch:=omega) only [lma,go_sem]; rfl)))
  intro k s hk hIk
  obtain ⟨x,b,hx,hnow,hcap,h3,h4,h5,h6,hh4_0,hh21_1,hX⟩:=(hI _ _).1 hIk
  clear hIk
  obtain ⟨X,hX⟩:=hX
  simp -implicitDefEqProofs (disch:=omega) only [h3,h4,h5,h6,hh4_0,hh21_1,hX,go_sem]
  refine Af (fun hlt=>?_) (fun hge=>?_)
  ·have hk15 : k < 15:=by omega
   have c1:=CM L b 4 (by omega) (by omega)
   have n0:=Ck L b 4
   have n1:=Cl L b (n:=4) (by omega)
   generalize Ah L b 4 = b1 at c1
   generalize AA L b 4 = v at c1 n0 n1
   obtain ⟨N,rfl⟩ : ∃ N : Nat,v = N:=⟨v.toNat,by omega⟩
   simp -implicitDefEqProofs (disch:=omega) only [h3,h4,h5,h6,hh4_0,hh21_1,hX,hlt,c1,go_sem]
   obtain ⟨J,hJ⟩:=lpI fun j s=>∃ (y : Dv) (c : Nat),DvOk t y /\ y.now <= 10 + k /\ y.queue.length + y.flights.length <= 10 + 3 * k + j /\ s.pe 3 = .ptr (.slot 21 1) 0 0 /\ s.pe 4 = .ptr (.slot 4 0) 0 0 /\ s.pe 5 = .ptr (.slot 5 0) 0 0 /\ s.pe 6 = .p (.int .i64 ↑k) /\ s.pe 7 = .p (.int .i64 ((N : Int) - j)) /\ s.h (.slot 4 0) = some (0,Ob.box [.p (Ap t.nodes),.p (.int .i64 t.next)]) /\ s.h (.slot 21 1) = some (0,Ob.box [.p (AM L),.p (.int .i64 (c : Nat))]) /\ ∃ X,s.h (.slot 5 0) = some (0,Ob.box X) /\ X.map (fz0 [8,43] s.h) = dvC y
   refine Am (N) J ?_ ?_
   ·refine (hJ _ _).2 ⟨x,b1,?_⟩
    and_intros
    ·exact hx
    ·exact hnow
    ·exact hcap
    all_goals first | exact cl0 | (simp -implicitDefEqProofs (disch:=omega) only [h3,h4,h5,h6,hh4_0,hh21_1,hX,lma,go_sem] <;> first | (simp [Ab]; done) | (simp [Ab]; omega)) | (simp -implicitDefEqProofs (disch:=omega) only [h3,h4,h5,h6,hh4_0,hh21_1,hX,lma,go_sem] <;> (refine ⟨_,rfl,?_⟩; first | rfl | (simp -implicitDefEqProofs (disch:=omega) only [h3,h4,h5,h6,hh4_0,hh21_1,hX,lma,go_sem]; done) | (simp -implicitDefEqProofs (disch:=omega) only [h3,h4,h5,h6,hh4_0,hh21_1,hX,lma,go_sem]; rfl)))
   intro j s hj hJk
   obtain ⟨y,c,hy,hyn,hyc,h3,h4,h5,h6,h7,hh4_0,hh21_1,hY⟩:=(hJ _ _).1 hJk
   clear hJk
   obtain ⟨Y,hY⟩:=hY
   have hys:=Dz hy
   simp -implicitDefEqProofs (disch:=omega) only [h3,h4,h5,h6,h7,hh4_0,hh21_1,hY,go_sem]
   refine Af (fun hjl=>?_) (fun hjg=>?_)
   ·obtain ⟨r,c1,e1,hr1,hr2⟩:=JX L c hok (by omega)
    have e2:=H9 t y r hy hys hr1 hr2 (by omega)
    have hok2:=K4 hy hr1 hr2 (by omega)
    have hz1 : (BX y r).queue.length = y.queue.length + 1:=by rw [lla,List.length_singleton]
    have hz2 : (BX y r).flights = y.flights:=rfl
    have hz4 : (BX y r).now = y.now:=rfl
    have hz5 : (BX y r).v = y.v:=rfl
    rw [<- hz5] at e2
    generalize BX y r = z at e2 hok2 hz1 hz2 hz4
    simp -implicitDefEqProofs (disch:=omega) only [h3,h4,h5,h6,h7,hh4_0,hh21_1,hY,hjl,e1,e2,go_sem]
    try refine ai ?_
    refine (hJ _ _).2 ⟨z,c1,?_⟩
    and_intros
    ·exact hok2
    ·exact by rw [hz4]; omega
    ·exact by rw [hz1,hz2]; omega
    all_goals first | exact cl0 | (simp -implicitDefEqProofs (disch:=omega) only [h3,h4,h5,h6,h7,hh4_0,hh21_1,hY,lma,go_sem] <;> first | (simp [Ab]; done) | (simp [Ab]; omega)) | (simp -implicitDefEqProofs (disch:=omega) only [h3,h4,h5,h6,h7,hh4_0,hh21_1,hY,lma,go_sem] <;> (refine ⟨_,rfl,?_⟩; first | rfl | (simp -implicitDefEqProofs (disch:=omega) only [h3,h4,h5,h6,h7,hh4_0,hh21_1,hY,lma,go_sem]; done) | (simp -implicitDefEqProofs (disch:=omega) only [h3,h4,h5,h6,h7,hh4_0,hh21_1,hY,lma,go_sem]; rfl)))
   ·have e3:=K3 hy hys (by omega)
    have hokT:=KD hy (by omega)
    have hcnt:=JI t y
    have hkp:=(JH t y).1
    have hord:=U3 t y
    have hsm:=Dz hokT
    generalize endedD y = e at e3 hcnt
    generalize tickD t y = z at e3 hokT hcnt hkp hord hsm
    simp -implicitDefEqProofs (disch:=omega) only [h3,h4,h5,h6,h7,hh4_0,hh21_1,hY,hjg,e3,go_sem]
    obtain ⟨Q,hQ⟩:=lpI fun q s=>∃ (v10_0 : Nat) (v52_11 : Nat) (v52_12 : Nat) (v52_13 : Nat) (v52_15 : Nat) (v52_16 : Nat),s.pe 3 = .ptr (.slot 21 1) 0 0 /\ s.pe 4 = .ptr (.slot 4 0) 0 0 /\ s.pe 5 = .ptr (.slot 5 0) 0 0 /\ s.pe 6 = .p (.int .i64 ↑k) /\ s.pe 10 = .ptr (.slot 10 0) v10_0 0 /\ s.pe 13 = .p (.int .i64 q) /\ s.h (.slot 4 0) = some (0,Ob.box [.p (Ap t.nodes),.p (.int .i64 t.next)]) /\ s.h (.slot 5 0) = some (0,Ob.box [.p (.int .i64 y.m.rb),.p (.int .i64 y.m.rp),.p (.int .i64 y.m.wb),.p (.int .i64 y.m.wp),.p (.int .i64 y.m.seek),.p (.int .i64 y.speed),.p (.int .i64 y.margin),.p (.int .i64 y.now),.p (.int .i64 y.free),.p (.int .i64 y.head),.p (Aj y.weights),.p (A5 y.buckets),.p (AF y.depths),.p (Aj y.v),.p (AJ y.queue),.p (A4 y.flights)]) /\ s.h (.slot 10 0) = some (v10_0,Ob.box [.p (.int .i64 z.m.rb),.p (.int .i64 z.m.rp),.p (.int .i64 z.m.wb),.p (.int .i64 z.m.wp),.p (.int .i64 z.m.seek),.p (.int .i64 z.speed),.p (.int .i64 z.margin),.p (.int .i64 z.now),.p (.int .i64 z.free),.p (.int .i64 z.head),.own (.slot 52 11) v52_11 0 z.weights.length,.own (.slot 52 12) v52_12 0 z.buckets.length,.own (.slot 52 13) v52_13 0 z.depths.length,.p (Aj z.v),.own (.slot 52 15) v52_15 0 z.queue.length,.own (.slot 52 16) v52_16 0 z.flights.length]) /\ s.h (.slot 21 1) = some (0,Ob.box [.p (AM L),.p (.int .i64 ↑c)]) /\ s.h (.slot 52 11) = some (v52_11,Ob.arr 2 (List.map Ch.pv z.weights)) /\ s.h (.slot 52 12) = some (v52_12,Ob.arr 21 (List.map Cp.pv z.buckets)) /\ s.h (.slot 52 13) = some (v52_13,Ob.arr 3 (List.map Dp.pv z.depths)) /\ s.h (.slot 52 15) = some (v52_15,Ob.arr 6 (List.map Rq.pv z.queue)) /\ s.h (.slot 52 16) = some (v52_16,Ob.arr 7 (List.map Fl.pv z.flights))
    refine Am (t.nodes.length) Q ?_ ?_
    ·refine (hQ _ _).2 ⟨nv (Bs [8,43] s.h (.slot 10 0)),nv (Bs [8,43] s.h (.slot 52 11)),nv (Bs [8,43] s.h (.slot 52 12)),nv (Bs [8,43] s.h (.slot 52 13)),nv (Bs [8,43] s.h (.slot 52 15)),nv (Bs [8,43] s.h (.slot 52 16)),?_⟩
     and_intros
     all_goals first | exact cl0 | (simp -implicitDefEqProofs (disch:=omega) only [h3,h4,h5,h6,h7,hh4_0,hh21_1,hY,lma,go_sem] <;> first | (simp [Ab]; done) | (simp [Ab]; omega))
    intro q s hq hQk
    obtain ⟨v10_0,v52_11,v52_12,v52_13,v52_15,v52_16,h3,h4,h5,h6,h10,h13,hh4_0,hh5_0,hh10_0,hh21_1,hH⟩:=(hQ _ _).1 hQk
    clear hQk
    simp -implicitDefEqProofs (disch:=omega) only [h3,h4,h5,h6,h10,h13,hh4_0,hh5_0,hh10_0,hh21_1,hH,go_sem]
    refine Af (fun hkl=>?_) (fun hkg=>?_)
    ·have hm : t.nodes[q]? = some t.nodes[q]:=lgg hkl
     generalize t.nodes[q] = n at hm
     have s1:=P2 y n.id hys.q
     have s2:=P2 z n.id hsm.q
     have s3:=hord n.id
     have hle : (ofQ z.queue n.id).length <= (ofQ y.queue n.id).length:=s3.length_le
     have hdr:=List.suffix_iff_eq_drop.1 s3
     have s4:=Yc (ofQ z.queue n.id) (by have:=List.length_filter_le (fun r : Rq=>decide (r.group = n.id)) z.queue; unfold ofQ; have:=hsm.q; omega)
     have hyl:=List.length_filter_le (fun r : Rq=>decide (r.group = n.id)) y.queue
     have hyq:=hys.q
     generalize ofQ z.queue n.id = bl at s2 hle hdr s4
     generalize hal : ofQ y.queue n.id = al at s1 hle hdr
     have hall : al.length < 1000000:=by rw [<- hal]; unfold ofQ; omega
     have hnl : ¬ (al.length : Int) < bl.length:=by omega
     have hdn : (((al.length : Int) - bl.length)).toNat = al.length - bl.length:=by omega
     have hdm : List.drop (al.length - bl.length) (List.map Rq.pv al) = List.map Rq.pv bl:=by rw [<- List.map_drop,<- hdr]
     have htl : List.take (al.length - (al.length - bl.length)) (List.map Rq.pv bl) = List.map Rq.pv bl:=ltl (by rw [llm]; omega)
     simp -implicitDefEqProofs (disch:=omega) only [h3,h4,h5,h6,h10,h13,hh4_0,hh5_0,hh10_0,hh21_1,hH,hkl,hm,Nd.vv,s1,s2,hnl,hdn,hdm,htl,s4,go_sem]
     clear hdr
     try refine ai ?_
     refine (hQ _ _).2 ⟨v10_0,v52_11,v52_12,v52_13,v52_15,v52_16,?_⟩
     and_intros
     all_goals first | exact cl0 | (simp -implicitDefEqProofs (disch:=omega) only [h3,h4,h5,h6,h10,h13,hh4_0,hh5_0,hh10_0,hh21_1,hH,lma,go_sem] <;> first | (simp [Ab]; done) | (simp [Ab]; omega))
    ·simp -implicitDefEqProofs (disch:=omega) only [h3,h4,h5,h6,h10,h13,hh4_0,hh5_0,hh10_0,hh21_1,hH,hkg,go_sem]
     try refine ai ?_
     refine (hI _ _).2 ⟨z,c,?_⟩
     and_intros
     .exact hokT
     .exact by rw [hkp]; omega
     .omega
     all_goals first | exact cl0 | (simp -implicitDefEqProofs (disch:=omega) only [h3,h4,h5,h6,h10,h13,hh4_0,hh5_0,hh10_0,hh21_1,hH,lma,go_sem] <;> first | (simp [Ab]; done) | (simp [Ab]; omega)) | (simp -implicitDefEqProofs (disch:=omega) only [h3,h4,h5,h6,h10,h13,hh4_0,hh5_0,hh10_0,hh21_1,hH,lma,go_sem] <;> (refine ⟨_,rfl,?_⟩; first | rfl | (simp -implicitDefEqProofs (disch:=omega) only [h3,h4,h5,h6,h10,h13,hh4_0,hh5_0,hh10_0,hh21_1,hH,lma,go_sem]; done) | (simp -implicitDefEqProofs (disch:=omega) only [h3,h4,h5,h6,h10,h13,hh4_0,hh5_0,hh10_0,hh21_1,hH,lma,go_sem]; rfl)))
  .simp -implicitDefEqProofs (disch:=omega) only [h3,h4,h5,h6,hh4_0,hh21_1,hX,hge,Ib,go_sem]
 ·rw [decide_eq_false hL] at hli
  simp -implicitDefEqProofs (disch:=omega) only [vf4,vb4,hli,Ib,go_sem]
def zbe (L : List Int) (t : Tr) (r : VVal × List Ob) : Prop:=∃ (ds : List Dp) (b : Nat),r = (.fresh 3 (ds.map Dp.pv),[AL L b]) /\ BS (Ak t.nodes) none ds = true /\ ds.length <= t.nodes.length
theorem YJ (L : List Int) (a : Nat) {t : Tr} (h : TreeOk t) (hL : L.length < 4611686018427387904) : ∃ (ds : List Dp) (b : Nat),V 25 [.ptr (.arg 0 0) 0 0,t.vv] [AL L a] = some (.fresh 3 (ds.map Dp.pv),[AL L b]) /\ BS (Ak t.nodes) none ds = true /\ ds.length <= t.nodes.length:=by
 suffices hw : wp (BW V vf25 [.ptr (.arg 0 0) 0 0,t.vv] [AL L a]) (zbe L t) by
  obtain ⟨r,hr,x,b,e,h1⟩:=RA (f:=25) rfl hw
  subst e
  exact ⟨x,b,hr,h1⟩
 have hlen:=h.len
 have hinc:=h.inc
 simp -implicitDefEqProofs (disch:=omega) only [vf25,R6,go_sem]
 obtain ⟨I,hI⟩:=lpI fun k s=>∃ (b : Nat) (acc : List Dp) (w : Nat),(∀ c ∈ acc,Ak t.nodes c.group = true /\ (0 <= c.target /\ c.target <= 1048576) /\ 1 <= c.depth /\ c.depth <= 256) /\ (∀ c ∈ acc,∃ (i : Nat) (n : Nd),i < k /\ t.nodes[i]? = some n /\ n.id = c.group) /\ (acc.Pairwise fun a b=>a.group < b.group) /\ acc.length <= k /\ s.pe 0 = .ptr (Id.arg 0 0) 0 0 /\ s.pe 3 = .ptr (.slot 3 0) 0 0 /\ s.pe 5 = .own (.slot 5 0) w 0 acc.length /\ s.pe 6 = .p (.int .i64 k) /\ s.h (.arg 0 0) = some (0,AL L b) /\ s.h (.slot 3 0) = some (0,Ob.box [.p (Ap t.nodes),.p (.int .i64 t.next)]) /\ s.h (.slot 5 0) = some (w,Ob.arr 3 (acc.map Dp.pv))
 refine Am (t.nodes.length) I ?_ ?_
 ·refine (hI _ _).2 ⟨a,[],0,?_⟩
  and_intros
  ·exact by simp
  ·exact by simp
  ·exact List.Pairwise.nil
  ·exact cl3
  all_goals first | exact cl0 | (simp -implicitDefEqProofs (disch:=omega) only [lma,go_sem] <;> first | (simp [Ab]; done) | (simp [Ab]; omega))
 intro k s hk hIk
 obtain ⟨b,acc,w,hm1,hm2,hm3,hal,hH⟩:=(hI _ _).1 hIk
 clear hIk
 simp -implicitDefEqProofs (disch:=omega) only [hH,go_sem]
 refine Af (fun hlt=>?_) (fun hge=>?_)
 ·have hm : t.nodes[k]? = some t.nodes[k]:=lgg hlt
  generalize t.nodes[k] = n at hm
  have hkn : Ak t.nodes n.id = true:=by unfold Ak; rw [F8 h (lmg hm)]; rfl
  have hgt : ∀ c ∈ acc,c.group < n.id:=fun c hc=>by
   obtain ⟨i,n',hi,hn',e⟩:=hm2 c hc
   rw [<- e]
   have h1:=(lgs.1 hn')
   have h2:=(lgs.1 hm)
   have:=List.pairwise_iff_getElem.1 hinc i k h1.1 h2.1 hi
   rw [h1.2,h2.2] at this
   exact this
  have hm2' : ∀ c ∈ acc,∃ (i : Nat) (n : Nd),i < k + 1 /\ t.nodes[i]? = some n /\ n.id = c.group:=fun c hc=>by
   obtain ⟨i,n',hi,r⟩:=hm2 c hc
   exact ⟨i,n',by omega,r⟩
  have c1:=IK L b 2 hL (by omega) (by omega)
  generalize Ah L b 2 = b1 at c1
  cases hz : decide (AA L b 2 = 2 - 1) with
  | false =>
   rw [hz] at c1
   simp -implicitDefEqProofs (disch:=omega) only [hH,hlt,c1,go_sem]
   try refine ai ?_
   refine (hI _ _).2 ⟨b1,acc,w,?_⟩
   and_intros
   .exact hm1
   .exact hm2'
   .exact hm3
   .omega
   all_goals first | exact cl0 | (simp -implicitDefEqProofs (disch:=omega) only [hH,lma,go_sem] <;> first | (simp [Ab]; done) | (simp [Ab]; omega))
  | true =>
   rw [hz] at c1
   have c2:=CL L b1 [0,5,10,10,50] hL (by decide) (by decide)
   have x2:=CI L b1 (xs:=[0,5,10,10,50]) (by decide)
   generalize Ah L b1 ([0,5,10,10,50] : List Int).length = b2 at c2
   have c3:=CL L b2 [1,2,3,64,256] hL (by decide) (by decide)
   have x3:=CI L b2 (xs:=[1,2,3,64,256]) (by decide)
   generalize Ah L b2 ([1,2,3,64,256] : List Int).length = b3 at c3
   generalize B7 L b1 [0,5,10,10,50] = v2 at c2 x2
   generalize B7 L b2 [1,2,3,64,256] = v3 at c3 x3
   simp only [AM,lpc,lpn] at c2 c3
   simp only [lmk,List.not_mem_nil,or_false] at x2 x3
   simp -implicitDefEqProofs (disch:=omega) only [hH,hlt,c1,hm,Nd.vv,c2,c3,go_sem]
   try refine ai ?_
   refine (hI _ _).2 ⟨b3,acc ++ [⟨n.id,v2,v3⟩],w + 1,?_⟩
   and_intros
   .exact by intro c hc; rcases lmp.1 hc with hc | hc; exact hm1 c hc; rw [List.mem_singleton] at hc; subst hc; exact ⟨hkn,by simp only; omega,by simp only; omega⟩
   .exact by intro c hc; rcases lmp.1 hc with hc | hc; exact hm2' c hc; rw [List.mem_singleton] at hc; subst hc; exact ⟨k,n,by omega,hm,rfl⟩
   .exact List.pairwise_append.2 ⟨hm3,List.pairwise_singleton _ _,fun c hc d hd=>by rw [List.mem_singleton] at hd; subst hd; exact hgt c hc⟩
   .exact by rw [lla,List.length_singleton]; omega
   all_goals first | exact cl0 | (simp -implicitDefEqProofs (disch:=omega) only [hH,lma,go_sem] <;> first | (simp [Ab]; done) | (simp [Ab]; omega))
 ·simp -implicitDefEqProofs (disch:=omega) only [hH,hge,go_sem]
  exact ⟨acc,b,rfl,Lj hm1 hm3 (fun q hq=>by cases hq),by omega⟩
theorem JU {t : Tr} (h : TreeOk t) (x : Dv) (id : Int) (hf : ∀ f ∈ x.flights,Ak t.nodes f.r.group = true) (hl : x.flights.length < 1000000) : V 26 [t.vv,x.vv,.p (.int .i64 id)] [] = some (.p (.int .i64 (AQ t x.flights id : Nat)),[]):=by
 refine Ae (vf:=vf26) rfl ?_
 have hlen:=h.len
 simp -implicitDefEqProofs (disch:=omega) only [vf26,R5,go_sem]
 obtain ⟨I,hI⟩:=lpI fun k s=>s.pe 2 = .p (.int .i64 id) /\ s.pe 3 = .ptr (.slot 3 0) 0 0 /\ s.pe 4 = .ptr (.slot 4 0) 0 0 /\ s.pe 7 = .p (.int .i64 (AQ t (x.flights.take k) id : Nat)) /\ s.pe 8 = .p (.int .i64 k) /\ s.h (.slot 3 0) = some (0,Ob.box [.p (Ap t.nodes),.p (.int .i64 t.next)]) /\ s.h (.slot 4 0) = some (0,Ob.box [.p (.int .i64 x.m.rb),.p (.int .i64 x.m.rp),.p (.int .i64 x.m.wb),.p (.int .i64 x.m.wp),.p (.int .i64 x.m.seek),.p (.int .i64 x.speed),.p (.int .i64 x.margin),.p (.int .i64 x.now),.p (.int .i64 x.free),.p (.int .i64 x.head),.p (Aj x.weights),.p (A5 x.buckets),.p (AF x.depths),.p (Aj x.v),.p (AJ x.queue),.p (A4 x.flights)])
 refine Am (x.flights.length) I ?_ ?_
 ·refine (hI _ _).2 ?_
  and_intros
  all_goals first | exact cl0 | (simp -implicitDefEqProofs (disch:=omega) only [h0,h3,h5,h6,ha0,hh3_0,hh5_0,lma,go_sem] <;> first | (simp [Ab]; done) | (simp [Ab]; omega))
 intro k s hk hIk
 obtain ⟨h2,h3,h4,h7,h8,hh3_0,hh4_0⟩:=(hI _ _).1 hIk
 clear hIk
 simp -implicitDefEqProofs (disch:=omega) only [h2,h3,h4,h7,h8,hh3_0,hh4_0,go_sem]
 refine Af (fun hlt=>?_) (fun hge=>?_)
 ·have hm : x.flights[k]? = some x.flights[k]:=lgg hlt
  have hst:=Kx (p:=fun f : Fl=>decide (id ∈ ancF t.nodes t.nodes.length f.r.group)) hm
  have hle:=Ld (fun f : Fl=>decide (id ∈ ancF t.nodes t.nodes.length f.r.group)) x.flights k
  have hk:=hf x.flights[k] (lgk hlt)
  generalize x.flights[k] = f at hm hst hk
  have ca:=GX h hk
  have hal:=D4 t.nodes t.nodes.length f.r.group
  generalize ancF t.nodes t.nodes.length f.r.group = A at ca hal hst
  have ch:=Qe A id (by omega)
  have hu : AQ t (x.flights.take (k + 1)) id = AQ t (x.flights.take k) id + if decide (id ∈ A) = true then 1 else 0:=hst
  have hle : AQ t (x.flights.take k) id <= x.flights.length:=hle
  generalize AQ t (x.flights.take k) id = u at h7 hu hle
  cases hd : decide (id ∈ A) with
  | true =>
   rw [hd] at ch hu
   rw [if_pos rfl] at hu
   simp -implicitDefEqProofs (disch:=omega) only [h2,h3,h4,h7,h8,hh3_0,hh4_0,hlt,hm,Fl.pv,ca,ch,go_sem]
   try refine ai ?_
   refine (hI _ _).2 ?_
   and_intros
   all_goals first | exact cl0 | (simp -implicitDefEqProofs (disch:=omega) only [h2,h3,h4,h7,h8,hh3_0,hh4_0,hu,lma,go_sem] <;> first | (simp [Ab]; done) | (simp [Ab]; omega))
  | false =>
   rw [hd] at ch hu
   rw [if_neg (by simp)] at hu
   simp -implicitDefEqProofs (disch:=omega) only [h2,h3,h4,h7,h8,hh3_0,hh4_0,hlt,hm,Fl.pv,ca,ch,go_sem]
   try refine ai ?_
   refine (hI _ _).2 ?_
   and_intros
   all_goals first | exact cl0 | (simp -implicitDefEqProofs (disch:=omega) only [h2,h3,h4,h7,h8,hh3_0,hh4_0,hu,lma,go_sem] <;> first | (simp [Ab]; done) | (simp [Ab]; omega))
 ·rw [ltl (by omega)] at h7
  simp -implicitDefEqProofs (disch:=omega) only [h2,h3,h4,h7,h8,hh3_0,hh4_0,hge,go_sem]
theorem VQ (t : Tr) (d : Dv) (id : Int) : AQ t d.flights id = AQ t (endedD d) id + AQ t (advD d).flights id:=by
 have h:=congrArg (fun l=>AQ t l id) (List.takeWhile_append_dropWhile (p:=fun f : Fl=>decide (f.done <= d.now + 1)) (l:=d.flights))
 simp only [AQ,List.filter_append,lla] at h
 unfold AQ endedD
 exact h.symm
theorem Y8 {d : Dv} {k : Nat} {f : Fl} (h : (endedD d)[k]? = some f) : d.flights[k]? = some f:=by
 obtain ⟨h1,_⟩:=lgs.1 h
 obtain ⟨r,hr⟩ : endedD d <+: d.flights:=List.takeWhile_prefix _
 rw [<- hr,List.getElem?_append_left h1]
 exact h
theorem XR {b : St -> Option (VExit × St)} {Q : VExit × St -> Prop} {s : St} (P : St -> Prop) (hp : P s) (h : ∀ s,P s -> wp (iter b s) Q) : wp (iter b s) Q:=h s hp
abbrev dvL (fs : List Fl) : Dv:=⟨⟨0,0,0,0,0⟩,0,0,0,0,0,[],[],[],[],[],fs⟩
theorem TS (L : List Int) : V 5 [.p (AM L)] [] = some (.p (.bool true),[]):=by
 refine Ae (vf:=vf5) rfl ?_
 have hli:=Pn (L.map (PV.int .i64))
 rw [List.length_map] at hli
 by_cases hL : L.length <= 600
 ·rw [decide_eq_true hL] at hli
  have hro:=PO L
  have htr : V 13 [.ptr (.arg 0 0) 0 0,.p (.int .i64 4)] [.box [.p (AM L),.p (.int .i64 0)]] = some ((DY L 0 4).1.vv,[AL L (DY L 0 4).2]):=PL L 0 4 (by omega) (by omega)
  have hok:=PD L 0 4
  generalize DY L 0 4 = ta at htr hok
  obtain ⟨t,a0⟩:=ta
  simp only at htr hok
  have hlen:=hok.len
  obtain ⟨x0,b0,hdv,hD,hDn,hDq⟩:=P8 L a0 hok 8 (by omega) (by omega)
  have hdv : V 22 [.ptr (.arg 0 0) 0 0,t.vv,.p (.int .i64 8)] [AL L a0] = some (x0.vv,[AL L b0]):=hdv
  obtain ⟨ds,b1,hds,hdo,hdl⟩:=YJ L b0 hok (by omega)
  have hD1 : DvOk t { x0 with depths:=ds }:=⟨hD.tree,hD.cfg,hD.now,hD.free,hD.head,hD.w,hdo,hD.v,hD.len,hD.bk,hD.q,hD.fl⟩
  simp -implicitDefEqProofs (disch:=omega) only [vf5,vb5,hli,hro,htr,hdv,hds,go_sem]
  obtain ⟨I,hI⟩:=lpI fun k s=>∃ (x : Dv) (b : Nat),DvOk t x /\ x.now <= 8 + k /\ x.queue.length + x.flights.length <= 8 + k /\ s.pe 3 = .ptr (.slot 24 1) 0 0 /\ s.pe 4 = .ptr (.slot 4 0) 0 0 /\ s.pe 5 = .ptr (.slot 5 0) 0 0 /\ s.pe 6 = .p (.int .i64 k) /\ s.h (.slot 4 0) = some (0,Ob.box [.p (Ap t.nodes),.p (.int .i64 t.next)]) /\ s.h (.slot 24 1) = some (0,Ob.box [.p (AM L),.p (.int .i64 (b : Nat))]) /\ ∃ X,s.h (.slot 5 0) = some (0,Ob.box X) /\ X.map (fz0 [7,10,32,44,56,128] s.h) = dvC x
  refine Am (25) I ?_ ?_
  ·refine (hI _ _).2 ⟨{ x0 with depths:=ds },b1,?_⟩
   and_intros
   ·exact hD1
   ·exact by simp only; omega
   ·exact by simp only; omega
   all_goals first | exact cl0 | (simp -implicitDefEqProofs (disch:=omega) only [lma,go_sem] <;> first | (simp [Ab]; done) | (simp [Ab]; omega)) | (simp -implicitDefEqProofs (disch:=omega) only [lma,go_sem] <;> (refine ⟨_,rfl,?_⟩; first | rfl | (simp -implicitDefEqProofs (disch:=omega) only [lma,go_sem]; done) | (simp -implicitDefEqProofs (disch:=omega) only [lma,go_sem]; rfl)))
  intro k s hk hIk
  obtain ⟨x,b,hx,hnow,hcap,h3,h4,h5,h6,hh4_0,hh24_1,hX⟩:=(hI _ _).1 hIk
  clear hIk
  obtain ⟨X,hX⟩:=hX
  simp -implicitDefEqProofs (disch:=omega) only [h3,h4,h5,h6,hh4_0,hh24_1,hX,go_sem]
  refine Af (fun hlt=>?_) (fun hge=>?_)
  ·have hk25 : k < 25:=by omega
   obtain ⟨r,b2,e1,hr1,hr2⟩:=JX L b hok (by omega)
   have e2:=H9 t x r hx (Dz hx) hr1 hr2 (by omega)
   have hy:=K4 hx hr1 hr2 (by omega)
   have hyc : (BX x r).queue.length + (BX x r).flights.length <= 8 + (k + 1):=by
    show (x.queue ++ [_]).length + x.flights.length <= _
    rw [lla,List.length_singleton]
    omega
   have hyn : (BX x r).now <= 8 + k:=hnow
   have hyv : (BX x r).v = x.v:=rfl
   rw [<- hyv] at e2
   generalize BX x r = y at e2 hy hyc hyn
   have hys:=Dz hy
   have e3:=K3 hy hys (by omega)
   have hz:=KD hy (by omega)
   have hcnt:=JI t y
   have hkp:=JH t y
   have hzn:=hkp.1
   have hzd:=hkp.2.2.2.2.2
   have hzs:=Dz hz
   have hlate:=U4 hy (by omega)
   have hdep:=fun (i : Nat) (n : Nd) (hn : t.nodes[i]? = some n)=>U5 hy (by omega) hn
   have hsp:=VQ t y
   have hE:=Vy y
   have hEa:=fun (k : Nat) (f : Fl)=>Y8 (d:=y) (k:=k) (f:=f)
   have hEl : (endedD y).length <= y.flights.length:=(List.takeWhile_sublist _).length_le
   have hyk : ∀ f ∈ y.flights,Ak t.nodes f.r.group = true:=fun f hf=>((Di.1 hy.fl).1 f hf).1.2
   have hzk : ∀ f ∈ (tickD t y).flights,Ak t.nodes f.r.group = true:=fun f hf=>((Di.1 hz.fl).1 f hf).1.2
   have hEk : ∀ f ∈ endedD y,Ak t.nodes f.r.group = true:=fun f hf=>hyk f ((List.takeWhile_sublist _).subset hf)
   clear hkp
   have hdep : ∀ (i : Nat) (n : Nd),t.nodes[i]? = some n -> (AQ t (tickD t y).flights n.id : Int) <= (AQ t y.flights n.id : Int) - AQ t (endedD y) n.id \/ (AQ t (tickD t y).flights n.id : Int) <= (getD (tickD t y).depths n.id).depth:=fun i n hn=>by
    have h1:=hdep i n hn
    have h2:=hsp n.id
    rw [hzd]
    omega
   generalize endedD y = E at e3 hcnt hE hEa hEl hEk hdep
   generalize tickD t y = z at e3 hz hcnt hzn hzd hzs hlate hdep hzk
   simp -implicitDefEqProofs (disch:=omega) only [h3,h4,h5,h6,hh4_0,hh24_1,hX,hX,hlt,e1,e2,e3,go_sem]
   refine XR (fun s=>∃ w0 w1 w2 w3 w5 w6 w7 : Nat,s.pe 3 = .ptr (.slot 24 1) 0 0 /\ s.pe 4 = .ptr (.slot 4 0) 0 0 /\ s.pe 5 = .ptr (.slot 5 0) 0 0 /\ s.pe 6 = .p (.int .i64 ↑k) /\ s.pe 9 = .p (.int .i64 ↑y.flights.length) /\ s.pe 10 = .ptr (.slot 10 0) w0 0 /\ s.pe 11 = .own (.slot 56 17) w7 0 E.length /\ s.pe 13 = .p (.int .i64 0) /\ s.h (.slot 4 0) = some (0,Ob.box [.p (Ap t.nodes),.p (.int .i64 t.next)]) /\ s.h (.slot 5 0) = some (0,Ob.box [.p (.int .i64 y.m.rb),.p (.int .i64 y.m.rp),.p (.int .i64 y.m.wb),.p (.int .i64 y.m.wp),.p (.int .i64 y.m.seek),.p (.int .i64 y.speed),.p (.int .i64 y.margin),.p (.int .i64 y.now),.p (.int .i64 y.free),.p (.int .i64 y.head),.p (Aj y.weights),.p (A5 y.buckets),.p (AF y.depths),.p (Aj y.v),.p (AJ y.queue),.p (A4 y.flights)]) /\ s.h (.slot 10 0) = some (w0,Ob.box [.p (.int .i64 z.m.rb),.p (.int .i64 z.m.rp),.p (.int .i64 z.m.wb),.p (.int .i64 z.m.wp),.p (.int .i64 z.m.seek),.p (.int .i64 z.speed),.p (.int .i64 z.margin),.p (.int .i64 z.now),.p (.int .i64 z.free),.p (.int .i64 z.head),.own (.slot 56 11) w1 0 z.weights.length,.own (.slot 56 12) w2 0 z.buckets.length,.own (.slot 56 13) w3 0 z.depths.length,.p (Aj z.v),.own (.slot 56 15) w5 0 z.queue.length,.own (.slot 56 16) w6 0 z.flights.length]) /\ s.h (.slot 24 1) = some (0,Ob.box [.p (AM L),.p (.int .i64 (b2 : Nat))]) /\ s.h (.slot 56 11) = some (w1,Ob.arr 2 (List.map Ch.pv z.weights)) /\ s.h (.slot 56 12) = some (w2,Ob.arr 21 (List.map Cp.pv z.buckets)) /\ s.h (.slot 56 13) = some (w3,Ob.arr 3 (List.map Dp.pv z.depths)) /\ s.h (.slot 56 15) = some (w5,Ob.arr 6 (List.map Rq.pv z.queue)) /\ s.h (.slot 56 16) = some (w6,Ob.arr 7 (List.map Fl.pv z.flights)) /\ s.h (.slot 56 17) = some (w7,Ob.arr 7 (List.map Fl.pv E))) ?_ ?_
   ·refine ⟨?w0,?w1,?w2,?w3,?w5,?w6,?w7,?g3,?g4,?g5,?g6,?g9,?g10,?g11,?g13,?gh4_0,?gh5_0,?gh10_0,?gh24_1,?gh56_11,?gh56_12,?gh56_13,?gh56_15,?gh56_16,?gh56_17⟩
    case g10=>exact rfl
    case g11=>exact rfl
    case gh10_0=>exact rfl
    all_goals first | exact cl0 | (simp -implicitDefEqProofs (disch:=omega) only [h3,h4,h5,h6,hh4_0,hh24_1,hX,hX,go_sem]; done)
   rintro s ⟨w0,w1,w2,w3,w5,w6,w7,h3,h4,h5,h6,h9,h10,h11,h13,hh4_0,hh5_0,hh10_0,hh24_1,hH⟩
   obtain ⟨J,hJ⟩:=lpI fun j s=>s.pe 3 = .ptr (.slot 24 1) 0 0 /\ s.pe 4 = .ptr (.slot 4 0) 0 0 /\ s.pe 5 = .ptr (.slot 5 0) 0 0 /\ s.pe 6 = .p (.int .i64 ↑k) /\ s.pe 9 = .p (.int .i64 ↑y.flights.length) /\ s.pe 10 = .ptr (.slot 10 0) w0 0 /\ s.pe 11 = .own (.slot 56 17) w7 0 E.length /\ s.pe 13 = .p (.int .i64 j) /\ s.h (.slot 4 0) = some (0,Ob.box [.p (Ap t.nodes),.p (.int .i64 t.next)]) /\ s.h (.slot 5 0) = some (0,Ob.box [.p (.int .i64 y.m.rb),.p (.int .i64 y.m.rp),.p (.int .i64 y.m.wb),.p (.int .i64 y.m.wp),.p (.int .i64 y.m.seek),.p (.int .i64 y.speed),.p (.int .i64 y.margin),.p (.int .i64 y.now),.p (.int .i64 y.free),.p (.int .i64 y.head),.p (Aj y.weights),.p (A5 y.buckets),.p (AF y.depths),.p (Aj y.v),.p (AJ y.queue),.p (A4 y.flights)]) /\ s.h (.slot 10 0) = some (w0,Ob.box [.p (.int .i64 z.m.rb),.p (.int .i64 z.m.rp),.p (.int .i64 z.m.wb),.p (.int .i64 z.m.wp),.p (.int .i64 z.m.seek),.p (.int .i64 z.speed),.p (.int .i64 z.margin),.p (.int .i64 z.now),.p (.int .i64 z.free),.p (.int .i64 z.head),.own (.slot 56 11) w1 0 z.weights.length,.own (.slot 56 12) w2 0 z.buckets.length,.own (.slot 56 13) w3 0 z.depths.length,.p (Aj z.v),.own (.slot 56 15) w5 0 z.queue.length,.own (.slot 56 16) w6 0 z.flights.length]) /\ s.h (.slot 24 1) = some (0,Ob.box [.p (AM L),.p (.int .i64 (b2 : Nat))]) /\ s.h (.slot 56 11) = some (w1,Ob.arr 2 (List.map Ch.pv z.weights)) /\ s.h (.slot 56 12) = some (w2,Ob.arr 21 (List.map Cp.pv z.buckets)) /\ s.h (.slot 56 13) = some (w3,Ob.arr 3 (List.map Dp.pv z.depths)) /\ s.h (.slot 56 15) = some (w5,Ob.arr 6 (List.map Rq.pv z.queue)) /\ s.h (.slot 56 16) = some (w6,Ob.arr 7 (List.map Fl.pv z.flights)) /\ s.h (.slot 56 17) = some (w7,Ob.arr 7 (List.map Fl.pv E))
   refine Am (E.length) J ?_ ?_
   ·refine (hJ _ _).2 ?_
    and_intros
    all_goals first | exact cl0 | (simp -implicitDefEqProofs (disch:=omega) only [h3,h4,h5,h6,h9,h10,h11,h13,hh4_0,hh5_0,hh10_0,hh24_1,hH,lma,go_sem] <;> first | (simp [Ab]; done) | (simp [Ab]; omega))
   intro j s hj hJk
   obtain ⟨h3,h4,h5,h6,h9,h10,h11,h13,hh4_0,hh5_0,hh10_0,hh24_1,hH⟩:=(hJ _ _).1 hJk
   clear hJk
   simp -implicitDefEqProofs (disch:=omega) only [h3,h4,h5,h6,h9,h10,h11,h13,hh4_0,hh5_0,hh10_0,hh24_1,hH,go_sem]
   refine Af (fun hjl=>?_) (fun hjg=>?_)
   ·have hm : E[j]? = some E[j]:=lgg hjl
    have hfd:=hE E[j] (lgk hjl)
    have hmy:=hEa j E[j] hm
    generalize E[j] = f at hm hfd hmy
    have n1 : ¬ z.now < f.done:=by omega
    have n2 : ¬ (y.flights.length : Int) <= j:=by omega
    have n3 : j < y.flights.length:=by omega
    simp -implicitDefEqProofs (disch:=omega) only [h3,h4,h5,h6,h9,h10,h11,h13,hh4_0,hh5_0,hh10_0,hh24_1,hH,hjl,hm,Fl.pv,n1,n2,n3,hmy,Dr,eq0,beq_self_eq_true,bas,bau,go_sem]
    try refine ai ?_
    refine (hJ _ _).2 ?_
    and_intros
    all_goals first | exact cl0 | (simp -implicitDefEqProofs (disch:=omega) only [h3,h4,h5,h6,h9,h10,h11,h13,hh4_0,hh5_0,hh10_0,hh24_1,hH,lma,go_sem] <;> first | (simp [Ab]; done) | (simp [Ab]; omega))
   ·simp -implicitDefEqProofs (disch:=omega) only [h3,h4,h5,h6,h9,h10,h11,h13,hh4_0,hh5_0,hh10_0,hh24_1,hH,hjg,go_sem]
    obtain ⟨M,hM⟩:=lpI fun m s=>s.pe 3 = .ptr (.slot 24 1) 0 0 /\ s.pe 4 = .ptr (.slot 4 0) 0 0 /\ s.pe 5 = .ptr (.slot 5 0) 0 0 /\ s.pe 6 = .p (.int .i64 ↑k) /\ s.pe 10 = .ptr (.slot 10 0) w0 0 /\ s.pe 11 = .own (.slot 56 17) w7 0 E.length /\ s.pe 14 = .p (.int .i64 m) /\ s.h (.slot 4 0) = some (0,Ob.box [.p (Ap t.nodes),.p (.int .i64 t.next)]) /\ s.h (.slot 5 0) = some (0,Ob.box [.p (.int .i64 y.m.rb),.p (.int .i64 y.m.rp),.p (.int .i64 y.m.wb),.p (.int .i64 y.m.wp),.p (.int .i64 y.m.seek),.p (.int .i64 y.speed),.p (.int .i64 y.margin),.p (.int .i64 y.now),.p (.int .i64 y.free),.p (.int .i64 y.head),.p (Aj y.weights),.p (A5 y.buckets),.p (AF y.depths),.p (Aj y.v),.p (AJ y.queue),.p (A4 y.flights)]) /\ s.h (.slot 10 0) = some (w0,Ob.box [.p (.int .i64 z.m.rb),.p (.int .i64 z.m.rp),.p (.int .i64 z.m.wb),.p (.int .i64 z.m.wp),.p (.int .i64 z.m.seek),.p (.int .i64 z.speed),.p (.int .i64 z.margin),.p (.int .i64 z.now),.p (.int .i64 z.free),.p (.int .i64 z.head),.own (.slot 56 11) w1 0 z.weights.length,.own (.slot 56 12) w2 0 z.buckets.length,.own (.slot 56 13) w3 0 z.depths.length,.p (Aj z.v),.own (.slot 56 15) w5 0 z.queue.length,.own (.slot 56 16) w6 0 z.flights.length]) /\ s.h (.slot 24 1) = some (0,Ob.box [.p (AM L),.p (.int .i64 (b2 : Nat))]) /\ s.h (.slot 56 11) = some (w1,Ob.arr 2 (List.map Ch.pv z.weights)) /\ s.h (.slot 56 12) = some (w2,Ob.arr 21 (List.map Cp.pv z.buckets)) /\ s.h (.slot 56 13) = some (w3,Ob.arr 3 (List.map Dp.pv z.depths)) /\ s.h (.slot 56 15) = some (w5,Ob.arr 6 (List.map Rq.pv z.queue)) /\ s.h (.slot 56 16) = some (w6,Ob.arr 7 (List.map Fl.pv z.flights)) /\ s.h (.slot 56 17) = some (w7,Ob.arr 7 (List.map Fl.pv E))
    refine Am (z.flights.length) M ?_ ?_
    ·refine (hM _ _).2 ?_
     and_intros
     all_goals first | exact cl0 | (simp -implicitDefEqProofs (disch:=omega) only [h3,h4,h5,h6,h9,h10,h11,h13,hh4_0,hh5_0,hh10_0,hh24_1,hH,lma,go_sem] <;> first | (simp [Ab]; done) | (simp [Ab]; omega))
    intro m s hm hMk
    obtain ⟨h3,h4,h5,h6,h10,h11,h14,hh4_0,hh5_0,hh10_0,hh24_1,hH⟩:=(hM _ _).1 hMk
    clear hMk
    simp -implicitDefEqProofs (disch:=omega) only [h3,h4,h5,h6,h10,h11,h14,hh4_0,hh5_0,hh10_0,hh24_1,hH,go_sem]
    refine Af (fun hml=>?_) (fun hmg=>?_)
    ·have hm : z.flights[m]? = some z.flights[m]:=lgg hml
     have hfl:=hlate z.flights[m] (lgk hml)
     generalize z.flights[m] = f at hm hfl
     have n1 : ¬ f.done <= z.now:=by omega
     simp -implicitDefEqProofs (disch:=omega) only [h3,h4,h5,h6,h10,h11,h14,hh4_0,hh5_0,hh10_0,hh24_1,hH,hml,hm,Fl.pv,n1,go_sem]
     try refine ai ?_
     refine (hM _ _).2 ?_
     and_intros
     all_goals first | exact cl0 | (simp -implicitDefEqProofs (disch:=omega) only [h3,h4,h5,h6,h10,h11,h14,hh4_0,hh5_0,hh10_0,hh24_1,hH,lma,go_sem] <;> first | (simp [Ab]; done) | (simp [Ab]; omega))
    ·simp -implicitDefEqProofs (disch:=omega) only [h3,h4,h5,h6,h10,h11,h14,hh4_0,hh5_0,hh10_0,hh24_1,hH,hmg,go_sem]
     obtain ⟨Q,hQ⟩:=lpI fun q s=>s.pe 3 = .ptr (.slot 24 1) 0 0 /\ s.pe 4 = .ptr (.slot 4 0) 0 0 /\ s.pe 5 = .ptr (.slot 5 0) 0 0 /\ s.pe 6 = .p (.int .i64 ↑k) /\ s.pe 10 = .ptr (.slot 10 0) w0 0 /\ s.pe 11 = .own (.slot 56 17) w7 0 E.length /\ s.pe 15 = .p (.int .i64 q) /\ s.h (.slot 4 0) = some (0,Ob.box [.p (Ap t.nodes),.p (.int .i64 t.next)]) /\ s.h (.slot 5 0) = some (0,Ob.box [.p (.int .i64 y.m.rb),.p (.int .i64 y.m.rp),.p (.int .i64 y.m.wb),.p (.int .i64 y.m.wp),.p (.int .i64 y.m.seek),.p (.int .i64 y.speed),.p (.int .i64 y.margin),.p (.int .i64 y.now),.p (.int .i64 y.free),.p (.int .i64 y.head),.p (Aj y.weights),.p (A5 y.buckets),.p (AF y.depths),.p (Aj y.v),.p (AJ y.queue),.p (A4 y.flights)]) /\ s.h (.slot 10 0) = some (w0,Ob.box [.p (.int .i64 z.m.rb),.p (.int .i64 z.m.rp),.p (.int .i64 z.m.wb),.p (.int .i64 z.m.wp),.p (.int .i64 z.m.seek),.p (.int .i64 z.speed),.p (.int .i64 z.margin),.p (.int .i64 z.now),.p (.int .i64 z.free),.p (.int .i64 z.head),.own (.slot 56 11) w1 0 z.weights.length,.own (.slot 56 12) w2 0 z.buckets.length,.own (.slot 56 13) w3 0 z.depths.length,.p (Aj z.v),.own (.slot 56 15) w5 0 z.queue.length,.own (.slot 56 16) w6 0 z.flights.length]) /\ s.h (.slot 24 1) = some (0,Ob.box [.p (AM L),.p (.int .i64 (b2 : Nat))]) /\ s.h (.slot 56 11) = some (w1,Ob.arr 2 (List.map Ch.pv z.weights)) /\ s.h (.slot 56 12) = some (w2,Ob.arr 21 (List.map Cp.pv z.buckets)) /\ s.h (.slot 56 13) = some (w3,Ob.arr 3 (List.map Dp.pv z.depths)) /\ s.h (.slot 56 15) = some (w5,Ob.arr 6 (List.map Rq.pv z.queue)) /\ s.h (.slot 56 16) = some (w6,Ob.arr 7 (List.map Fl.pv z.flights)) /\ s.h (.slot 56 17) = some (w7,Ob.arr 7 (List.map Fl.pv E))
     refine Am (t.nodes.length) Q ?_ ?_
     ·refine (hQ _ _).2 ?_
      and_intros
      all_goals first | exact cl0 | (simp -implicitDefEqProofs (disch:=omega) only [h3,h4,h5,h6,h10,h11,h14,hh4_0,hh5_0,hh10_0,hh24_1,hH,lma,go_sem] <;> first | (simp [Ab]; done) | (simp [Ab]; omega))
     intro q s hq hQk
     obtain ⟨h3,h4,h5,h6,h10,h11,h15,hh4_0,hh5_0,hh10_0,hh24_1,hH⟩:=(hQ _ _).1 hQk
     clear hQk
     simp -implicitDefEqProofs (disch:=omega) only [h3,h4,h5,h6,h10,h11,h15,hh4_0,hh5_0,hh10_0,hh24_1,hH,go_sem]
     refine Af (fun hql=>?_) (fun hqg=>?_)
     ·have hm : t.nodes[q]? = some t.nodes[q]:=lgg hql
      generalize t.nodes[q] = n at hm
      have s1:=JU hok y n.id hyk hys.f
      have s2:=JU hok (dvL E) n.id hEk (by have:=hys.f; show E.length < _; omega)
      have s2 : V 26 [t.vv,.agg [.p (.int .i64 0),.p (.int .i64 0),.p (.int .i64 0),.p (.int .i64 0),.p (.int .i64 0),.p (.int .i64 0),.p (.int .i64 0),.p (.int .i64 0),.p (.int .i64 0),.p (.int .i64 0),.p (.slice 2 []),.p (.slice 21 []),.p (.slice 3 []),.p (.slice 2 []),.p (.slice 6 []),.p (A4 E)],.p (.int .i64 n.id)] [] = some (.p (.int .i64 (AQ t E n.id : Nat)),[]):=s2
      have s3:=JU hok z n.id hzk hzs.f
      have s4:=Kj z.depths n.id hzs.p
      have s5:=hdep q n hm
      have u1 : AQ t y.flights n.id <= y.flights.length:=List.length_filter_le _ _
      have u2 : AQ t E n.id <= E.length:=List.length_filter_le _ _
      have u3 : AQ t z.flights n.id <= z.flights.length:=List.length_filter_le _ _
      have hq0:=hy.len
      have hq1:=hz.len
      generalize AQ t y.flights n.id = a at s1 s5 u1
      generalize AQ t E n.id = b at s2 s5 u2
      generalize AQ t z.flights n.id = c at s3 s5 u3
      generalize getD z.depths n.id = gd at s4 s5
      by_cases hc : (a : Int) - b < c
      ·have hc2 : ¬ gd.depth < (c : Int):=by omega
       simp -implicitDefEqProofs (disch:=omega) only [h3,h4,h5,h6,h10,h11,h15,hh4_0,hh5_0,hh10_0,hh24_1,hH,hql,hm,Nd.vv,s1,s2,s3,s4,hc,hc2,go_sem]
       try refine ai ?_
       refine (hQ _ _).2 ?_
       and_intros
       all_goals first | exact cl0 | (simp -implicitDefEqProofs (disch:=omega) only [h3,h4,h5,h6,h10,h11,h15,hh4_0,hh5_0,hh10_0,hh24_1,hH,lma,go_sem] <;> first | (simp [Ab]; done) | (simp [Ab]; omega))
      ·simp -implicitDefEqProofs (disch:=omega) only [h3,h4,h5,h6,h10,h11,h15,hh4_0,hh5_0,hh10_0,hh24_1,hH,hql,hm,Nd.vv,s1,s2,s3,s4,hc,go_sem]
       try refine ai ?_
       refine (hQ _ _).2 ?_
       and_intros
       all_goals first | exact cl0 | (simp -implicitDefEqProofs (disch:=omega) only [h3,h4,h5,h6,h10,h11,h15,hh4_0,hh5_0,hh10_0,hh24_1,hH,lma,go_sem] <;> first | (simp [Ab]; done) | (simp [Ab]; omega))
     ·simp -implicitDefEqProofs (disch:=omega) only [h3,h4,h5,h6,h10,h11,h15,hh4_0,hh5_0,hh10_0,hh24_1,hH,hqg,go_sem]
      try refine ai ?_
      refine (hI _ _).2 ⟨z,b2,?_⟩
      and_intros
      .exact hz
      .omega
      .omega
      all_goals first | exact cl0 | (simp -implicitDefEqProofs (disch:=omega) only [h3,h4,h5,h6,h10,h11,h15,hh4_0,hh5_0,hh10_0,hh24_1,hH,lma,go_sem] <;> first | (simp [Ab]; done) | (simp [Ab]; omega)) | (simp -implicitDefEqProofs (disch:=omega) only [h3,h4,h5,h6,h10,h11,h15,hh4_0,hh5_0,hh10_0,hh24_1,hH,lma,go_sem] <;> (refine ⟨_,rfl,?_⟩; first | rfl | (simp -implicitDefEqProofs (disch:=omega) only [h3,h4,h5,h6,h10,h11,h15,hh4_0,hh5_0,hh10_0,hh24_1,hH,lma,go_sem]; done) | (simp -implicitDefEqProofs (disch:=omega) only [h3,h4,h5,h6,h10,h11,h15,hh4_0,hh5_0,hh10_0,hh24_1,hH,lma,go_sem]; rfl)))
  .simp -implicitDefEqProofs (disch:=omega) only [h3,h4,h5,h6,hh4_0,hh24_1,hX,hge,Ib,go_sem]
 ·rw [decide_eq_false hL] at hli
  simp -implicitDefEqProofs (disch:=omega) only [vf5,vb5,hli,Ib,go_sem]
end Go.V
