/- Part 4 of the proof. -/
import Derived.Test.YtekkdllchjmhdaaGreatC3
set_option linter.unusedSectionVars false
set_option linter.unusedSimpArgs false
set_option linter.unusedVariables false
open Nat renaming reduceAdd → rAz, reduceSub → rS, reduceEqDiff → rE, reduceLeDiff → rL, le_refl → lrf
open List renaming getElem?_eq_getElem → lgg, mem_of_getElem? → lmg, mem_cons_of_mem → lmc, map_cons → lpc, nil_append → lna, mem_map → lmm, mem_cons_self → lms, map_append → lma, take_of_length_le → ltl, getElem?_of_mem → lgm, length_cons → llc, length_append → lla, mem_cons → lmk, map_nil → lpn, length_nil → lln, mem_append → lmp, length_map → llm, length_take → llt, cons_append → lca, filter_cons → lfl
open Bool renaming and_eq_true → bat, false_eq_true → bft, true_and → bta, and_true → bau
open Prod renaming mk.injEq → pmi
namespace Go.V
set_option maxHeartbeats 2000000 in
theorem weigh_eq (t : Tr) (d : Dv) (id w : Int) (h0 : d.weights = []) : V 86 [.ptr (.arg 0 0) 0 0,.p (.int .i64 id),.p (.int .i64 w)] (mH t d) = some (.tup [],if w = 100 then mH t d else [mBoxL t (wgD d id w) 1 0 0,.box [.undef,.fresh 2 [Ch.pv ⟨id,w⟩]],.arr 21 (d.buckets.map Cp.pv),.arr 3 (d.depths.map Dp.pv),.arr 6 (d.queue.map Rq.pv),.arr 7 (d.flights.map Fl.pv)]):=by
 refine V_wp (vf:=vf86) rfl ?_
 have i0:=del0W_eq id
 have i1:=oneW_x (x:=.agg [.int .i64 id,.int .i64 w]) (g:=158)
 obtain ⟨m,speed,margin,now,free,head,weights,buckets,depths,v,queue,flights⟩:=d
 simp only at h0
 subst h0
 by_cases hw : w = 100
 ·rw [if_pos hw]
  simp -implicitDefEqProofs (disch:=omega) only [vf86,vb86,i0,hw,lpn,lln,go_sem,↓reduceIte,rAz,rS,rE,rL,reduceCtorEq]
  rfl
 ·rw [if_neg hw]
  have e : mBoxL t (wgD ⟨m,speed,margin,now,free,head,[],buckets,depths,v,queue,flights⟩ id w) 1 0 0 = mBoxL t ⟨m,speed,margin,now,free,head,[⟨id,w⟩],buckets,depths,v,queue,flights⟩ 1 0 0:=by
   unfold wgD
   simp only
   rw [if_neg hw]
  rw [e]
  simp -implicitDefEqProofs (disch:=omega) only [vf86,vb86,i0,hw,i1,lpn,lln,lna,go_sem,↓reduceIte,rAz,rS,rE,rL,reduceCtorEq]
  rfl
set_option maxHeartbeats 4000000 in
theorem limit_eq (t : Tr) (d : Dv) (id : Int) (s : Sg) (dev : Int) (h0 : d.buckets = []) (hs : SgOk s) (hn : 0 <= d.now /\ d.now <= 1048576) : V 87 [.ptr (.arg 0 0) 0 0,.p (.int .i64 id),s.vv dev] (mH t d) = some (.tup [],if s.rp = maxR /\ s.wp = maxR /\ s.ro = maxR /\ s.wo = maxR then mH t d else [mBoxL t (bkD d id s) 0 1 0,.arr 2 (d.weights.map Ch.pv),.box [.undef,.fresh 21 [Cp.pv ⟨id,newB s.rp 4096 d.now,newB s.wp 4096 d.now,newB s.ro 0 d.now,newB s.wo 0 d.now⟩]],.arr 3 (d.depths.map Dp.pv),.arr 6 (d.queue.map Rq.pv),.arr 7 (d.flights.map Fl.pv)]):=by
 refine V_wp (vf:=vf87) rfl ?_
 have k0:=mcaps_eq t d id (by rw [h0]; decide)
 rw [idxP_none (by rw [h0]; intro n hn; cases hn)] at k0
 have hd : decide ((0 : Int) <= -1) = false:=rfl
 have r1:=renewed_eq t d ⟨0,0,0,0,0⟩ s.rp 4096 hs.rp (by omega) hn
 have r2:=renewed_eq t d ⟨0,0,0,0,0⟩ s.wp 4096 hs.wp (by omega) hn
 have r3:=renewed_eq t d ⟨0,0,0,0,0⟩ s.ro 0 hs.ro (by omega) hn
 have r4:=renewed_eq t d ⟨0,0,0,0,0⟩ s.wo 0 hs.wo (by omega) hn
 by_cases hall : s.rp = maxR /\ s.wp = maxR /\ s.ro = maxR /\ s.wo = maxR
 ·rw [if_pos hall]
  have a1 : decide (s.rp = 4611686018427387904) = true:=decide_eq_true hall.1
  have a2 : decide (s.wp = 4611686018427387904) = true:=decide_eq_true hall.2.1
  have a3 : decide (s.ro = 4611686018427387904) = true:=decide_eq_true hall.2.2.1
  have a4 : decide (s.wo = 4611686018427387904) = true:=decide_eq_true hall.2.2.2
  simp -implicitDefEqProofs (disch:=omega) only [vf87,vb87,k0,hd,a1,a2,a3,a4,go_sem,↓reduceIte,rAz,rS,rE,rL,reduceCtorEq]
 ·rw [if_neg hall]
  have e : mBoxL t (bkD d id s) 0 1 0 = mBoxL t { d with buckets:=[⟨id,newB s.rp 4096 d.now,newB s.wp 4096 d.now,newB s.ro 0 d.now,newB s.wo 0 d.now⟩] } 0 1 0:=by
   unfold bkD
   rw [if_neg hall]
  rw [e]
  have i1 : ∀ x : PV,V 162 [.own (.arg 0 0) 0 0 (d.buckets.length + 1),.p (.fn 163)] [.arr 21 (d.buckets.map Cp.pv ++ [x])] = some (.tup [],[.arr 21 (d.buckets.map Cp.pv ++ [x])]):=fun x=>by
   rw [h0]
   exact oneC_x
  generalize newB s.rp 4096 d.now = b1 at r1
  generalize newB s.wp 4096 d.now = b2 at r2
  generalize newB s.ro 0 d.now = b3 at r3
  generalize newB s.wo 0 d.now = b4 at r4
  have hbl : d.buckets.length < 1000000:=by rw [h0]; decide
  by_cases a1 : s.rp = 4611686018427387904
  ·have a1':=decide_eq_true a1
   by_cases a2 : s.wp = 4611686018427387904
   ·have a2':=decide_eq_true a2
    by_cases a3 : s.ro = 4611686018427387904
    ·have a4 : ¬ s.wo = 4611686018427387904:=fun h=>hall ⟨a1,a2,a3,h⟩
     have a3':=decide_eq_true a3
     simp -implicitDefEqProofs (disch:=omega) only [vf87,vb87,k0,hd,a1',a2',a3',a4,r1,r2,r3,r4,i1,go_sem,↓reduceIte,rAz,rS,rE,rL,reduceCtorEq]
     simp only [h0,lpn,lna,lln]
     rfl
    ·simp -implicitDefEqProofs (disch:=omega) only [vf87,vb87,k0,hd,a1',a2',a3,r1,r2,r3,r4,i1,go_sem,↓reduceIte,rAz,rS,rE,rL,reduceCtorEq]
     simp only [h0,lpn,lna,lln]
     rfl
   ·simp -implicitDefEqProofs (disch:=omega) only [vf87,vb87,k0,hd,a1',a2,r1,r2,r3,r4,i1,go_sem,↓reduceIte,rAz,rS,rE,rL,reduceCtorEq]
    simp only [h0,lpn,lna,lln]
    rfl
  ·simp -implicitDefEqProofs (disch:=omega) only [vf87,vb87,k0,hd,a1,r1,r2,r3,r4,i1,go_sem,↓reduceIte,rAz,rS,rE,rL,reduceCtorEq]
   simp only [h0,lpn,lna,lln]
   rfl
set_option maxHeartbeats 2000000 in
theorem aim_eq (t : Tr) (d : Dv) (id tg : Int) (h0 : d.depths = []) : V 88 [.ptr (.arg 0 0) 0 0,.p (.int .i64 id),.p (.int .i64 tg)] (mH t d) = some (.tup [],if tg = 0 then mH t d else [mBoxL t (dpD d id tg) 0 0 1,.arr 2 (d.weights.map Ch.pv),.arr 21 (d.buckets.map Cp.pv),.box [.undef,.fresh 3 [Dp.pv ⟨id,tg,256⟩]],.arr 6 (d.queue.map Rq.pv),.arr 7 (d.flights.map Fl.pv)]):=by
 refine V_wp (vf:=vf88) rfl ?_
 have i0:=del0D_eq id
 have i1:=oneD_x (x:=.agg [.int .i64 id,.int .i64 tg,.int .i64 256]) (g:=167)
 have i2:=lget_eq [] id (by decide)
 have i2 : V 164 [.p (.slice 3 []),.p (.int .i64 id)] [] = some (.agg [.p (.int .i64 id),.p (.int .i64 0),.p (.int .i64 256)],[]):=i2
 obtain ⟨m,speed,margin,now,free,head,weights,buckets,depths,v,queue,flights⟩:=d
 simp only at h0
 subst h0
 by_cases hw : tg = 0
 ·rw [if_pos hw]
  have hd : decide ((0 : Int) = 0) = true:=rfl
  have hd2 : decide ((256 : Int) = 256) = true:=rfl
  simp -implicitDefEqProofs (disch:=omega) only [vf88,vb88,i0,i2,hw,hd,hd2,lpn,lln,go_sem,↓reduceIte,rAz,rS,rE,rL,reduceCtorEq]
  rfl
 ·rw [if_neg hw]
  have e : mBoxL t (dpD ⟨m,speed,margin,now,free,head,weights,buckets,[],v,queue,flights⟩ id tg) 0 0 1 = mBoxL t ⟨m,speed,margin,now,free,head,weights,buckets,[⟨id,tg,256⟩],v,queue,flights⟩ 0 0 1:=by
   unfold dpD
   simp only
   rw [if_neg hw]
  rw [e]
  simp -implicitDefEqProofs (disch:=omega) only [vf88,vb88,i0,i2,hw,i1,lpn,lln,lna,go_sem,↓reduceIte,rAz,rS,rE,rL,reduceCtorEq]
  rfl
abbrev setE (d : Dv) (id : Int) (s : Sg) : Dv:=dpD (bkD (wgD d id s.weight) id s) id s.target
theorem weigh_two (t : Tr) (d : Dv) (id w : Int) (h0 : d.weights = []) : ∃ d1,d1 = wgD d id w /\ (V 86 [.ptr (.arg 0 0) 0 0,.p (.int .i64 id),.p (.int .i64 w)] (mH t d) = some (.tup [],mH t d1) \/ V 86 [.ptr (.arg 0 0) 0 0,.p (.int .i64 id),.p (.int .i64 w)] (mH t d) = some (.tup [],[mBoxL t d1 1 0 0,.box [.undef,.fresh 2 (d1.weights.map Ch.pv)],.arr 21 (d1.buckets.map Cp.pv),.arr 3 (d1.depths.map Dp.pv),.arr 6 (d1.queue.map Rq.pv),.arr 7 (d1.flights.map Fl.pv)])):=by
 have h:=weigh_eq t d id w h0
 refine ⟨_,rfl,?_⟩
 by_cases hw : w = 100
 ·rw [if_pos hw] at h
  left
  rw [h,show wgD d id w = d by unfold wgD; rw [if_pos hw,<- h0]]
 ·rw [if_neg hw] at h
  right
  rw [h,show (wgD d id w).weights = [⟨id,w⟩] by unfold wgD; rw [if_neg hw]]
  rfl
theorem limit_two (t : Tr) (d : Dv) (id : Int) (s : Sg) (dev : Int) (h0 : d.buckets = []) (hs : SgOk s) (hn : 0 <= d.now /\ d.now <= 1048576) : ∃ d1,d1 = bkD d id s /\ (V 87 [.ptr (.arg 0 0) 0 0,.p (.int .i64 id),s.vv dev] (mH t d) = some (.tup [],mH t d1) \/ V 87 [.ptr (.arg 0 0) 0 0,.p (.int .i64 id),s.vv dev] (mH t d) = some (.tup [],[mBoxL t d1 0 1 0,.arr 2 (d1.weights.map Ch.pv),.box [.undef,.fresh 21 (d1.buckets.map Cp.pv)],.arr 3 (d1.depths.map Dp.pv),.arr 6 (d1.queue.map Rq.pv),.arr 7 (d1.flights.map Fl.pv)])):=by
 have h:=limit_eq t d id s dev h0 hs hn
 refine ⟨_,rfl,?_⟩
 by_cases hw : s.rp = maxR /\ s.wp = maxR /\ s.ro = maxR /\ s.wo = maxR
 ·rw [if_pos hw] at h
  left
  rw [h,show bkD d id s = d by unfold bkD; rw [if_pos hw,<- h0]]
 ·rw [if_neg hw] at h
  right
  rw [h,show (bkD d id s).buckets = [⟨id,newB s.rp 4096 d.now,newB s.wp 4096 d.now,newB s.ro 0 d.now,newB s.wo 0 d.now⟩] by unfold bkD; rw [if_neg hw]]
  rfl
theorem aim_two (t : Tr) (d : Dv) (id tg : Int) (h0 : d.depths = []) : ∃ d1,d1 = dpD d id tg /\ (V 88 [.ptr (.arg 0 0) 0 0,.p (.int .i64 id),.p (.int .i64 tg)] (mH t d) = some (.tup [],mH t d1) \/ V 88 [.ptr (.arg 0 0) 0 0,.p (.int .i64 id),.p (.int .i64 tg)] (mH t d) = some (.tup [],[mBoxL t d1 0 0 1,.arr 2 (d1.weights.map Ch.pv),.arr 21 (d1.buckets.map Cp.pv),.box [.undef,.fresh 3 (d1.depths.map Dp.pv)],.arr 6 (d1.queue.map Rq.pv),.arr 7 (d1.flights.map Fl.pv)])):=by
 have h:=aim_eq t d id tg h0
 refine ⟨_,rfl,?_⟩
 by_cases hw : tg = 0
 ·rw [if_pos hw] at h
  left
  rw [h,show dpD d id tg = d by unfold dpD; rw [if_pos hw,<- h0]]
 ·rw [if_neg hw] at h
  right
  rw [h,show (dpD d id tg).depths = [⟨id,tg,256⟩] by unfold dpD; rw [if_neg hw]]
  rfl
set_option maxHeartbeats 8000000 in
theorem set_eq {t : Tr} {d : Dv} (h : DvOk t d) (id : Int) (s : Sg) (hk : knownN t.nodes id = true) (hs : SgOk s) (dev : Int) (h1 : d.weights = []) (h2 : d.buckets = []) (h3 : d.depths = []) : V 34 [t.vv,d.vv,.p (.int .i64 id),s.vv dev] [] = some (.tup [dvF (setE d id s) (.p (chsP d.v)),.p (.int .i64 0)],[]):=by
 refine V_wp (vf:=vf34) rfl ?_
 have hlen:=h.tree.len
 have i0:=dvalid_eq t d h.tree.fits (by omega) (ok_small h)
 rw [dvOk_iff.2 h] at i0
 have i1:=dknown_eq t id (by omega)
 rw [hk] at i1
 have i2:=checkS_eq s hs
 have i3:=open_eq t d (ok_small h)
 obtain ⟨d1,e1,w1⟩:=weigh_two t d id s.weight h1
 have hb1 : d1.buckets = []:=by rw [e1]; exact h2
 have hn1 : 0 <= d1.now /\ d1.now <= 1048576:=by rw [e1]; exact h.now
 obtain ⟨d2,e2,w2⟩:=limit_two t d1 id s 0 hb1 hs hn1
 have hd2 : d2.depths = []:=by rw [e2,e1]; exact h3
 obtain ⟨d3,e3,w3⟩:=aim_two t d2 id s.target hd2
 have hv : d3.v = d.v:=by rw [e3,e2,e1]
 have hE : setE d id s = d3:=by rw [e3,e2,e1]
 rw [hE,<- hv]
 clear e1 e2 e3 hE hv hb1 hn1 hd2
 rcases w1 with w1 | w1 <;> rcases w2 with w2 | w2 <;> rcases w3 with w3 | w3 <;> simp -implicitDefEqProofs (disch:=omega) only [vf34,vb34,i0,i1,i2,i3,w1,w2,w3,go_sem,↓reduceIte,rAz,rS,rE,rL,reduceCtorEq]
theorem request_eq (L : List Int) (a : Nat) {t : Tr} (h : TreeOk t) (hL : L.length < 4611686018427387904) : ∃ (r : Rq) (b : Nat),V 18 [.ptr (.arg 0 0) 0 0,t.vv] [diceB L a] = some (r.vv,[diceB L b]) /\ soundR { r with time:=0 } = true /\ knownN t.nodes r.group = true:=by
 have hlen:=h.len
 have c1:=next_eq L a 6 hL (by omega)
 have x1:=nextV_nonneg L a 6
 have y1:=nextV_lt L a (n:=6) (by omega)
 generalize nextA L a 6 = a1 at c1
 have c2:=next_eq L a1 t.nodes.length hL (by omega)
 have x2:=nextV_nonneg L a1 t.nodes.length
 have y2:=nextV_lt L a1 (n:=t.nodes.length) (by omega)
 generalize nextA L a1 t.nodes.length = a2 at c2
 have c3:=pick_eq L a2 [0,4,8,100,104,5000] hL (by decide) (by decide)
 have x3:=pickV_mem L a2 (xs:=[0,4,8,100,104,5000]) (by decide)
 generalize nextA L a2 ([0,4,8,100,104,5000] : List Int).length = a3 at c3
 have c4:=pick_eq L a3 [1,4,4,30,4096] hL (by decide) (by decide)
 have x4:=pickV_mem L a3 (xs:=[1,4,4,30,4096]) (by decide)
 generalize nextA L a3 ([1,4,4,30,4096] : List Int).length = a4 at c4
 have c5:=bool_eq L a4 3 hL (by omega) (by omega)
 generalize nextA L a4 3 = a5 at c5
 have c6:=next_eq L a5 4 hL (by omega)
 have x6:=nextV_nonneg L a5 4
 have y6:=nextV_lt L a5 (n:=4) (by omega)
 generalize nextA L a5 4 = a6 at c6
 generalize nextV L a 6 = v1 at c1 x1 y1
 generalize nextV L a1 t.nodes.length = v2 at c2 x2 y2
 generalize pickV L a2 [0,4,8,100,104,5000] = v3 at c3 x3
 generalize pickV L a3 [1,4,4,30,4096] = v4 at c4 x4
 generalize decide (nextV L a4 3 = 3 - 1) = v5 at c5
 generalize nextV L a5 4 = v6 at c6 x6 y6
 obtain ⟨i,rfl⟩ : ∃ i : Nat,v2 = i:=⟨v2.toNat,by omega⟩
 have hil : i < t.nodes.length:=by omega
 have hm : t.nodes[i]? = some t.nodes[i]:=lgg hil
 generalize t.nodes[i] = n at hm
 have hkn : knownN t.nodes n.id = true:=by unfold knownN; rw [known_mem h (lmg hm)]; rfl
 have hpos:=h.pos n (lmg hm)
 have hmx:=h.lt_next n (lmg hm)
 obtain ⟨_,_,_,hnx⟩:=h.next
 simp only [intsP,lpc,lpn] at c3 c4
 refine ⟨⟨v1,n.id,v3,v4,v5,v6⟩,a6,V_wp (vf:=vf18) rfl ?_,?_,hkn⟩
 ·simp -implicitDefEqProofs (disch:=omega) only [vf18,vb18,c1,c2,c3,c4,c5,c6,hil,hm,go_sem,↓reduceIte,rAz,rS,rE,rL,reduceCtorEq]
 ·rw [soundR_iff]
  simp only [lmk,List.not_mem_nil,or_false] at x3 x4
  simp only
  omega
theorem model_eq (L : List Int) (a : Nat) (hL : L.length < 4611686018427387904) : ∃ (m : Mdl) (b : Nat),V 48 [.ptr (.arg 0 0) 0 0] [diceB L a] = some (m.vv,[diceB L b]) /\ modelOk m = true:=by
 have c1:=pick_eq L a [0,10,100] hL (by decide) (by decide)
 have x1:=pickV_mem L a (xs:=[0,10,100]) (by decide)
 generalize nextA L a ([0,10,100] : List Int).length = a1 at c1
 have c2:=pick_eq L a1 [0,1,10,1000000] hL (by decide) (by decide)
 have x2:=pickV_mem L a1 (xs:=[0,1,10,1000000]) (by decide)
 generalize nextA L a1 ([0,1,10,1000000] : List Int).length = a2 at c2
 have c3:=pick_eq L a2 [0,20,50] hL (by decide) (by decide)
 have x3:=pickV_mem L a2 (xs:=[0,20,50]) (by decide)
 generalize nextA L a2 ([0,20,50] : List Int).length = a3 at c3
 have c4:=pick_eq L a3 [0,2,15] hL (by decide) (by decide)
 have x4:=pickV_mem L a3 (xs:=[0,2,15]) (by decide)
 generalize nextA L a3 ([0,2,15] : List Int).length = a4 at c4
 have c5:=pick_eq L a4 [0,5,40] hL (by decide) (by decide)
 have x5:=pickV_mem L a4 (xs:=[0,5,40]) (by decide)
 generalize nextA L a4 ([0,5,40] : List Int).length = a5 at c5
 generalize pickV L a [0,10,100] = v1 at c1 x1
 generalize pickV L a1 [0,1,10,1000000] = v2 at c2 x2
 generalize pickV L a2 [0,20,50] = v3 at c3 x3
 generalize pickV L a3 [0,2,15] = v4 at c4 x4
 generalize pickV L a4 [0,5,40] = v5 at c5 x5
 simp only [intsP,lpc,lpn] at c1 c2 c3 c4 c5
 simp only [lmk,List.not_mem_nil,or_false] at x1 x2 x3 x4 x5
 refine ⟨⟨v1,v2,v3,v4,v5⟩,a5,V_wp (vf:=vf48) rfl ?_,?_⟩
 ·simp -implicitDefEqProofs (disch:=omega) only [vf48,vb48,c1,c2,c3,c4,c5,go_sem,↓reduceIte,rAz,rS,rE,rL,reduceCtorEq]
 ·rw [modelOk_iff]
  simp only
  omega
theorem dconf_eq (L : List Int) (a : Nat) (hL : L.length < 4611686018427387904) : ∃ (m : Mdl) (speed margin : Int) (b : Nat),V 15 [.ptr (.arg 0 0) 0 0] [diceB L a] = some (cfgV m speed margin,[diceB L b]) /\ configOk m speed margin = true:=by
 obtain ⟨m,a1,c1,hm⟩:=model_eq L a hL
 have c2:=pick_eq L a1 [1,10,100,1000] hL (by decide) (by decide)
 have x2:=pickV_mem L a1 (xs:=[1,10,100,1000]) (by decide)
 generalize nextA L a1 ([1,10,100,1000] : List Int).length = a2 at c2
 have c3:=pick_eq L a2 [0,10,1000] hL (by decide) (by decide)
 have x3:=pickV_mem L a2 (xs:=[0,10,1000]) (by decide)
 generalize nextA L a2 ([0,10,1000] : List Int).length = a3 at c3
 generalize pickV L a1 [1,10,100,1000] = v2 at c2 x2
 generalize pickV L a2 [0,10,1000] = v3 at c3 x3
 simp only [intsP,lpc,lpn] at c2 c3
 simp only [lmk,List.not_mem_nil,or_false] at x2 x3
 refine ⟨m,v2,v3,a3,V_wp (vf:=vf15) rfl ?_,configOk_iff.2 ⟨hm,by omega,by omega⟩⟩
 simp -implicitDefEqProofs (disch:=omega) only [vf15,vb15,c1,c2,c3,go_sem,↓reduceIte,rAz,rS,rE,rL,reduceCtorEq]
theorem r34new_eq (m : Mdl) (speed margin : Int) (h : configOk m speed margin = true) : V 14 [cfgV m speed margin] [] = some (.tup [dvF (newD m speed margin) (.fresh 2 []),.p (.int .i64 0)],[]):=by
 refine V_wp (vf:=vf14) rfl ?_
 have i0 : V 47 [cfgV m speed margin] [] = some (.p (.bool true),[]):=by
  refine V_wp (vf:=vf47) rfl ?_
  obtain ⟨hm,hs,hg⟩:=configOk_iff.1 h
  have i1 : V 101 [m.vv] [] = some (.p (.bool true),[]):=by
   refine V_wp (vf:=vf101) rfl ?_
   rw [modelOk_iff] at hm
   have hl : ∀ (k : Nat) (x : Int),([m.rb,m.rp,m.wb,m.wp,m.seek] : List Int)[k]? = some x -> 0 <= x /\ x <= 1000000:=fun k x hx=>by
    have:=lmg hx
    simp only [lmk,List.not_mem_nil,or_false] at this
    omega
   obtain ⟨l,hll⟩ : ∃ l : List Int,l = [m.rb,m.rp,m.wb,m.wp,m.seek]:=⟨_,rfl⟩
   have h5 : l.length = 5:=by rw [hll]; rfl
   rw [<- hll] at hl
   simp -implicitDefEqProofs (disch:=omega) only [vf101,vb101,go_sem,↓reduceIte,rAz,rS,rE,rL,reduceCtorEq]
   obtain ⟨I,hI⟩ : ∃ I : Nat -> St -> Prop,∀ k s,I k s ↔ s.pe 3 = .own (.slot 15 0) 0 0 5 /\ s.pe 4 = .p (.int .i64 k) /\ s.h (.slot 15 0) = some (0,Ob.arr 1 [PV.int IntKind.i64 m.rb,PV.int IntKind.i64 m.rp,PV.int IntKind.i64 m.wb,PV.int IntKind.i64 m.wp,PV.int IntKind.i64 m.seek]):=⟨_,fun _ _=>Iff.rfl⟩
   refine wp_count (5) I ?_ ?_
   ·refine (hI _ _).2 ⟨?_,?_,?_⟩
    all_goals first | exact cl0 | (simp -implicitDefEqProofs (disch:=omega) only [lma,go_sem,↓reduceIte,rAz,rS,rE,rL,reduceCtorEq] <;> first | (simp [mBox]; done) | (simp [mBox]; omega))
   intro k s hk hIk
   obtain ⟨h3,h4,hh15_0⟩:=(hI _ _).1 hIk
   clear hIk
   simp -implicitDefEqProofs (disch:=omega) only [h3,h4,hh15_0,go_sem,↓reduceIte,rAz,rS,rE,rL,reduceCtorEq]
   refine wp_if_d (fun hlt=>?_) (fun hge=>?_)
   ·have hm : l[k]? = some l[k]:=lgg (by omega)
    have hx:=hl k _ hm
    generalize l[k] = x at hm hx
    have hgx : ([PV.int IntKind.i64 m.rb,PV.int IntKind.i64 m.rp,PV.int IntKind.i64 m.wb,PV.int IntKind.i64 m.wp,PV.int IntKind.i64 m.seek] : List PV)[k]? = some (.int .i64 x):=by
     rw [show ([PV.int IntKind.i64 m.rb,PV.int IntKind.i64 m.rp,PV.int IntKind.i64 m.wb,PV.int IntKind.i64 m.wp,PV.int IntKind.i64 m.seek] : List PV) = l.map (PV.int .i64) by rw [hll]; rfl,List.getElem?_map,hm]
     rfl
    have b1 : ¬ x < 0:=by omega
    have b2 : ¬ 1000000 < x:=by omega
    simp -implicitDefEqProofs (disch:=omega) only [h3,h4,hh15_0,hlt,hgx,b1,b2,go_sem,↓reduceIte,rAz,rS,rE,rL,reduceCtorEq]
    try refine And.intro (by omega) ?_
    refine (hI _ _).2 ⟨?_,?_,?_⟩
    all_goals first | exact cl0 | (simp -implicitDefEqProofs (disch:=omega) only [h3,h4,hh15_0,lma,go_sem,↓reduceIte,rAz,rS,rE,rL,reduceCtorEq] <;> first | (simp [mBox]; done) | (simp [mBox]; omega))
   .simp -implicitDefEqProofs (disch:=omega) only [h3,h4,hh15_0,hge,go_sem,↓reduceIte,rAz,rS,rE,rL,reduceCtorEq]
  have e1 : 1 <= speed:=hs.1
  have e2 : speed <= 1000000:=hs.2
  have e3 : 0 <= margin:=hg.1
  have e4 : margin <= 1073741824:=hg.2
  simp -implicitDefEqProofs (disch:=omega) only [vf47,vb47,i1,e1,e2,e3,e4,go_sem,↓reduceIte,rAz,rS,rE,rL,reduceCtorEq]
 simp -implicitDefEqProofs (disch:=omega) only [vf14,vb14,i0,go_sem,↓reduceIte,rAz,rS,rE,rL,reduceCtorEq]
 rfl
theorem filt_take {α : Type} {p : α -> Bool} {l : List α} {k : Nat} {m : α} (hm : l[k]? = some m) : ((l.take (k + 1)).filter p).length = ((l.take k).filter p).length + if p m = true then 1 else 0:=by
 rw [take_snoc hm,List.filter_append,lla]
 by_cases h : p m = true
 .rw [if_pos h,List.filter_cons_of_pos h]; rfl
 .rw [if_neg h,List.filter_cons_of_neg h]; rfl
theorem filt_le {α : Type} (p : α -> Bool) (l : List α) (k : Nat) : ((l.take k).filter p).length <= l.length:=by
 have:=List.length_filter_le p (l.take k)
 rw [llt] at this
 omega
def pendD (d : Dv) (task : Int) : Nat:=(d.queue.filter fun r=>decide (r.task = task)).length + (d.flights.filter fun f=>decide (f.r.task = task)).length
set_option maxHeartbeats 2000000 in
theorem pending_eq (d : Dv) (task : Int) (hq : d.queue.length < 1000000) (hf : d.flights.length < 1000000) : V 41 [d.vv,.p (.int .i64 task)] [] = some (.p (.int .i64 (pendD d task : Nat)),[]):=by
 refine V_wp (vf:=vf41) rfl ?_
 simp -implicitDefEqProofs (disch:=omega) only [vf41,vb41,llm,go_sem,↓reduceIte,rAz,rS,rE,rL,reduceCtorEq]
 obtain ⟨I,hI⟩ : ∃ I : Nat -> St -> Prop,∀ k s,I k s ↔ s.pe 1 = .p (.int .i64 task) /\ s.pe 2 = .ptr (.slot 2 0) 0 0 /\ s.pe 5 = .p (.int .i64 (((d.queue.take k).filter fun r=>decide (r.task = task)).length : Nat)) /\ s.pe 11 = .p (rqsP d.queue) /\ s.pe 12 = .p (.int .i64 ↑d.queue.length) /\ s.pe 13 = .p (.int .i64 k) /\ s.h (.slot 2 0) = some (0,Ob.box [.p (.int .i64 d.m.rb),.p (.int .i64 d.m.rp),.p (.int .i64 d.m.wb),.p (.int .i64 d.m.wp),.p (.int .i64 d.m.seek),.p (.int .i64 d.speed),.p (.int .i64 d.margin),.p (.int .i64 d.now),.p (.int .i64 d.free),.p (.int .i64 d.head),.p (chsP d.weights),.p (cpsP d.buckets),.p (dpsP d.depths),.p (chsP d.v),.p (rqsP d.queue),.p (flsP d.flights)]):=⟨_,fun _ _=>Iff.rfl⟩
 refine wp_count (d.queue.length) I ?_ ?_
 ·refine (hI _ _).2 ⟨?_,?_,?_,?_,?_,?_,?_⟩
  all_goals first | exact cl0 | (simp -implicitDefEqProofs (disch:=omega) only [h1,h2,h3,h4,h10,h11,h12,hh4_0,lma,go_sem,↓reduceIte,rAz,rS,rE,rL,reduceCtorEq] <;> first | (simp [mBox]; done) | (simp [mBox]; omega))
 intro k s hk hIk
 obtain ⟨h1,h2,h5,h11,h12,h13,hh2_0⟩:=(hI _ _).1 hIk
 clear hIk
 simp -implicitDefEqProofs (disch:=omega) only [h1,h2,h5,h11,h12,h13,hh2_0,go_sem,↓reduceIte,rAz,rS,rE,rL,reduceCtorEq]
 refine wp_if_d (fun hlt=>?_) (fun hge=>?_)
 ·have hm : d.queue[k]? = some d.queue[k]:=lgg hlt
  have hst:=filt_take (p:=fun r : Rq=>decide (r.task = task)) hm
  have hle:=filt_le (fun r : Rq=>decide (r.task = task)) d.queue k
  generalize d.queue[k] = r at hm hst
  generalize ((d.queue.take k).filter fun r=>decide (r.task = task)).length = c at h5 hst hle
  by_cases hr : r.task = task
  ·rw [if_pos (decide_eq_true hr)] at hst
   simp -implicitDefEqProofs (disch:=omega) only [h1,h2,h5,h11,h12,h13,hh2_0,hlt,hm,hr,go_sem,↓reduceIte,rAz,rS,rE,rL,reduceCtorEq]
   try refine And.intro (by omega) ?_
   refine (hI _ _).2 ⟨?_,?_,?_,?_,?_,?_,?_⟩
   all_goals first | exact cl0 | (simp -implicitDefEqProofs (disch:=omega) only [h1,h2,h5,h11,h12,h13,hh2_0,hst,lma,go_sem,↓reduceIte,rAz,rS,rE,rL,reduceCtorEq] <;> first | (simp [mBox]; done) | (simp [mBox]; omega))
  ·rw [if_neg (by simpa using hr)] at hst
   simp -implicitDefEqProofs (disch:=omega) only [h1,h2,h5,h11,h12,h13,hh2_0,hlt,hm,hr,go_sem,↓reduceIte,rAz,rS,rE,rL,reduceCtorEq]
   try refine And.intro (by omega) ?_
   refine (hI _ _).2 ⟨?_,?_,?_,?_,?_,?_,?_⟩
   all_goals first | exact cl0 | (simp -implicitDefEqProofs (disch:=omega) only [h1,h2,h5,h11,h12,h13,hh2_0,hst,lma,go_sem,↓reduceIte,rAz,rS,rE,rL,reduceCtorEq] <;> first | (simp [mBox]; done) | (simp [mBox]; omega))
 ·rw [ltl (by omega)] at h5
  have hqf:=List.length_filter_le (fun r : Rq=>decide (r.task = task)) d.queue
  have hP : pendD d task = (d.queue.filter fun r=>decide (r.task = task)).length + (d.flights.filter fun f=>decide (f.r.task = task)).length:=rfl
  rw [hP]
  generalize (d.queue.filter fun r=>decide (r.task = task)).length = Q at h5 hqf
  simp -implicitDefEqProofs (disch:=omega) only [h1,h2,h5,h11,h12,h13,hh2_0,hge,go_sem,↓reduceIte,rAz,rS,rE,rL,reduceCtorEq]
  obtain ⟨J,hJ⟩ : ∃ I : Nat -> St -> Prop,∀ j s,I j s ↔ s.pe 1 = .p (.int .i64 task) /\ s.pe 2 = .ptr (.slot 2 0) 0 0 /\ s.pe 5 = .p (.int .i64 ((Q + ((d.flights.take j).filter fun f=>decide (f.r.task = task)).length : Nat) : Int)) /\ s.pe 25 = .p (flsP d.flights) /\ s.pe 26 = .p (.int .i64 ↑d.flights.length) /\ s.pe 27 = .p (.int .i64 j):=⟨_,fun _ _=>Iff.rfl⟩
  refine wp_count (d.flights.length) J ?_ ?_
  ·refine (hJ _ _).2 ⟨?_,?_,?_,?_,?_,?_⟩
   all_goals first | exact cl0 | (simp -implicitDefEqProofs (disch:=omega) only [h1,h2,h5,h11,h12,h13,hh2_0,lma,go_sem,↓reduceIte,rAz,rS,rE,rL,reduceCtorEq] <;> first | (simp [mBox]; done) | (simp [mBox]; omega))
  intro j s hj hJk
  obtain ⟨h1,h2,h5,h25,h26,h27⟩:=(hJ _ _).1 hJk
  clear hJk
  simp -implicitDefEqProofs (disch:=omega) only [h1,h2,h5,h25,h26,h27,go_sem,↓reduceIte,rAz,rS,rE,rL,reduceCtorEq]
  refine wp_if_d (fun hjl=>?_) (fun hjg=>?_)
  ·have hm : d.flights[j]? = some d.flights[j]:=lgg hjl
   have hst:=filt_take (p:=fun f : Fl=>decide (f.r.task = task)) hm
   have hle:=filt_le (fun f : Fl=>decide (f.r.task = task)) d.flights j
   generalize d.flights[j] = r at hm hst
   generalize ((d.flights.take j).filter fun f=>decide (f.r.task = task)).length = c at h5 hst hle
   by_cases hr : r.r.task = task
   ·rw [if_pos (decide_eq_true hr)] at hst
    simp -implicitDefEqProofs (disch:=omega) only [h1,h2,h5,h25,h26,h27,hjl,hm,hr,go_sem,↓reduceIte,rAz,rS,rE,rL,reduceCtorEq]
    try refine And.intro (by omega) ?_
    refine (hJ _ _).2 ⟨?_,?_,?_,?_,?_,?_⟩
    all_goals first | exact cl0 | (simp -implicitDefEqProofs (disch:=omega) only [h1,h2,h5,h25,h26,h27,hst,lma,go_sem,↓reduceIte,rAz,rS,rE,rL,reduceCtorEq] <;> first | (simp [mBox]; done) | (simp [mBox]; omega))
   ·rw [if_neg (by simpa using hr)] at hst
    simp -implicitDefEqProofs (disch:=omega) only [h1,h2,h5,h25,h26,h27,hjl,hm,hr,go_sem,↓reduceIte,rAz,rS,rE,rL,reduceCtorEq]
    try refine And.intro (by omega) ?_
    refine (hJ _ _).2 ⟨?_,?_,?_,?_,?_,?_⟩
    all_goals first | exact cl0 | (simp -implicitDefEqProofs (disch:=omega) only [h1,h2,h5,h25,h26,h27,hst,lma,go_sem,↓reduceIte,rAz,rS,rE,rL,reduceCtorEq] <;> first | (simp [mBox]; done) | (simp [mBox]; omega))
  ·rw [ltl (by omega)] at h5
   simp -implicitDefEqProofs (disch:=omega) only [h1,h2,h5,h25,h26,h27,hjg,go_sem,↓reduceIte,rAz,rS,rE,rL,reduceCtorEq]
theorem loopD_go {t : Tr} {k : Nat} {d : Dv} {l : List Int} {g : Int} {r : Rq} {v : List Ch} (h1 : ¬ d.now * d.speed <= d.free) (h2 : msort (readyL t d [] d.queue) = l) (h3 : nxtA t d.v (d.now * d.speed) 0 l = g) (h4 : g ≠ 0) (h5 : firstQ d.queue g = some r)
  (h6 : IssueA t d.v g (shareD t d g) (costD d r) (d.now * d.speed) d.margin = (v,0)) : loopD t (k + 1) d = loopD t k (beginD t d g r v):=by
 rw [loopD,if_neg h1]
 simp only [h2,h3]
 rw [if_neg h4]
 simp only [h5,h6]
 rw [if_neg (by simp)]
theorem loopD_stop {t : Tr} {k : Nat} {d : Dv} (h : d.now * d.speed <= d.free) : loopD t (k + 1) d = d:=by rw [loopD,if_pos h]
theorem msort_one (x : Int) : msort [x] = [x]:=List.mergeSort_of_pairwise (by simp)
abbrev prT : Tr:=⟨[⟨1,0,⟨#[]⟩,0,0,0⟩,⟨2,1,⟨#[97]⟩,0,0,0⟩],3⟩
theorem prT_ok : TreeOk prT:=(treeOk_iff _).1 (by rfl)
abbrev rA : Rq:=⟨0,2,0,3,false,0⟩
abbrev rB : Rq:=⟨0,2,3,1,false,0⟩
abbrev mdS : Mdl:=⟨0,10,0,10,0⟩
def sD : Nat -> Dv
 | 0=>⟨mdS,10,0,0,0,0,[],[],[],[],[rA,rB],[]⟩
 | 1=>⟨mdS,10,0,1,30,3,[],[],[],[⟨2,40⟩],[rB],[⟨rA,3⟩]⟩
 | 2=>⟨mdS,10,0,2,30,3,[],[],[],[⟨2,40⟩],[rB],[⟨rA,3⟩]⟩
 | 3=>⟨mdS,10,0,3,30,3,[],[],[],[⟨2,40⟩],[rB],[]⟩
 | _=>⟨mdS,10,0,4,40,4,[],[],[],[⟨2,50⟩],[],[⟨rB,5⟩]⟩
theorem sD_ok (k : Nat) (hk : k <= 4) : DvOk prT (sD k):=by
 have h : k = 0 \/ k = 1 \/ k = 2 \/ k = 3 \/ k = 4:=by omega
 rcases h with rfl | rfl | rfl | rfl | rfl <;> exact dvOk_iff.1 (by rfl)
theorem sD_small (k : Nat) (hk : k <= 4) : (sD k).Small:=ok_small (sD_ok k hk)
theorem sD_tick0 : tickD prT (sD 0) = sD 1:=by
 unfold tickD
 have e : (sD 0).queue.length + 1 = 2 + 1:=rfl
 rw [e,loopD_go (l:=[2]) (g:=2) (r:=rA) (v:=[⟨2,40⟩]) (by decide) (by rw [show readyL prT (advD (sD 0)) [] (advD (sD 0)).queue = [2] from rfl,msort_one]) rfl (by decide) rfl rfl,show (2 : Nat) = 1 + 1 from rfl,loopD_stop (by decide)]
 rfl
theorem sD_tick1 : tickD prT (sD 1) = sD 2:=by
 unfold tickD
 rw [loopD_stop (by decide)]
 rfl
theorem sD_tick2 : tickD prT (sD 2) = sD 3:=by
 unfold tickD
 rw [loopD_stop (by decide)]
 rfl
theorem sD_tick3 : tickD prT (sD 3) = sD 4:=by
 unfold tickD
 have e : (sD 3).queue.length + 1 = 1 + 1:=rfl
 rw [e,loopD_go (l:=[2]) (g:=2) (r:=rB) (v:=[⟨2,50⟩]) (by decide) (by rw [show readyL prT (advD (sD 3)) [] (advD (sD 3)).queue = [2] from rfl,msort_one]) rfl (by decide) rfl rfl,show (1 : Nat) = 0 + 1 from rfl,loopD_stop (by decide)]
 rfl
theorem sD_tick (k : Nat) (hk : k < 4) : tickD prT (sD k) = sD (k + 1):=by
 have h : k = 0 \/ k = 1 \/ k = 2 \/ k = 3:=by omega
 rcases h with rfl | rfl | rfl | rfl
 .exact sD_tick0
 .exact sD_tick1
 .exact sD_tick2
 .exact sD_tick3
theorem pair34_eq : V 33 [] [] = some (prT.fv,[]):=by
 refine V_wp (vf:=vf33) rfl ?_
 simp -implicitDefEqProofs (disch:=omega) only [vf33,vb33,go_sem,↓reduceIte,rAz,rS,rE,rL,reduceCtorEq]
 rfl
abbrev dvC (d : Dv) : List VVal:=[.p (.int .i64 d.m.rb),.p (.int .i64 d.m.rp),.p (.int .i64 d.m.wb),.p (.int .i64 d.m.wp),.p (.int .i64 d.m.seek),.p (.int .i64 d.speed),.p (.int .i64 d.margin),.p (.int .i64 d.now),.p (.int .i64 d.free),.p (.int .i64 d.head),.p (chsP d.weights),.p (cpsP d.buckets),.p (dpsP d.depths),.p (chsP d.v),.p (rqsP d.queue),.p (flsP d.flights)]
def eD : Nat -> List Fl
 | 0 | 1 | 2=>[]
 | _=>[⟨rA,3⟩]
set_option maxHeartbeats 8000000 in
theorem sane34_eq : V 11 [] [] = some (.p (.bool true),[]):=by
 refine V_wp (vf:=vf11) rfl ?_
 have c0:=pair34_eq
 have c1:=dnew_eq mdS 10 0 (by rfl)
 have ok0 : DvOk prT (newD mdS 10 0):=dvOk_iff.1 (by rfl)
 have ok1 : DvOk prT (subD (newD mdS 10 0) rA):=dvOk_iff.1 (by rfl)
 have c2:=submit_eq prT (newD mdS 10 0) rA ok0 (ok_small ok0) (by rfl) (by rfl) (by decide)
 have c3:=submit_eq prT (subD (newD mdS 10 0) rA) rB ok1 (ok_small ok1) (by rfl) (by rfl) (by decide)
 simp only [prT,Tr.vv,Tr.fv,nodesP,lpc,lpn,Nd.pv,dvF,newD,subD,cfgV,Dv.vv,Rq.vv,chsP,cpsP,dpsP,rqsP,flsP,lna,lca,Rq.pv] at c0 c1 c2 c3
 simp -implicitDefEqProofs (disch:=omega) only [vf11,vb11,c0,c1,c2,c3,go_sem,↓reduceIte,rAz,rS,rE,rL,reduceCtorEq]
 have ht : ∀ k,k < 4 -> V 19 [prT.vv,(sD k).vv] [] = some (.tup [dvF (sD (k + 1)) (.p (chsP (sD (k + 1)).v)),.fresh 7 ((endedD (sD k)).map Fl.pv),.p (.int .i64 0)],[]):=fun k hk=>by
  have:=tick_eq (sD_ok k (by omega)) (sD_small k (by omega)) (by
   have h : k = 0 \/ k = 1 \/ k = 2 \/ k = 3:=by omega
   rcases h with rfl | rfl | rfl | rfl <;> decide)
  rw [sD_tick k hk] at this
  exact this
 have hfr : (sD 1).free = 30:=rfl
 have hq3 : (sD 3).queue.length = 1:=rfl
 have hq4 : (sD 4).queue.length = 0:=rfl
 have he : ∀ k,k < 4 -> eD k ++ endedD (sD k) = eD (k + 1) /\ (k < 2 -> (endedD (sD k)).length = 0) /\ (endedD (sD k)).length <= 1 /\ (eD k).length <= 1:=fun k hk=>by
  have h : k = 0 \/ k = 1 \/ k = 2 \/ k = 3:=by omega
  rcases h with rfl | rfl | rfl | rfl <;> exact ⟨rfl,by decide,by decide,by decide⟩
 have hp:=pending_eq (sD 4) 0 (by decide) (by decide)
 rw [show pendD (sD 4) 0 = 1 from rfl] at hp
 have hsm:=fun k hk=>sD_small k hk
 obtain ⟨I,hI⟩ : ∃ I : Nat -> St -> Prop,∀ k s,I k s ↔ ∃ (w : Nat) (acc : List Fl),acc = eD k /\ s.pe 1 = .ptr (.slot 1 0) 0 0 /\ s.pe 2 = .ptr (.slot 2 0) 0 0 /\ s.pe 3 = .p (.int .i64 0) /\ s.pe 4 = .p (.int .i64 0) /\ s.pe 5 = .p (.int .i64 0) /\ s.pe 6 = .own (.slot 6 0) w 0 acc.length /\ s.pe 7 = .p (.int .i64 k) /\ s.h (.slot 1 0) = some (0,Ob.box [.p (nodesP prT.nodes),.p (.int .i64 prT.next)]) /\ s.h (.slot 6 0) = some (w,Ob.arr 7 (acc.map Fl.pv)) /\ ∃ X,s.h (.slot 2 0) = some (0,Ob.box X) /\ X.map (fz0 [8,29,39] s.h) = dvC (sD k):=⟨_,fun _ _=>Iff.rfl⟩
 refine wp_count (4) I ?_ ?_
 ·refine (hI _ _).2 ⟨0,[],?_,?_,?_,?_,?_,?_,?_,?_,?_,?_,?_⟩
  ·rfl
  all_goals first | exact cl0 | (simp -implicitDefEqProofs (disch:=omega) only [lma,go_sem,↓reduceIte,rAz,rS,rE,rL,reduceCtorEq] <;> first | (simp [mBox]; done) | (simp [mBox]; omega)) | (simp -implicitDefEqProofs (disch:=omega) only [lma,go_sem,↓reduceIte,rAz,rS,rE,rL,reduceCtorEq] <;> (refine ⟨_,rfl,?_⟩; first | rfl | (simp -implicitDefEqProofs (disch:=omega) only [lma,go_sem,↓reduceIte,rAz,rS,rE,rL,reduceCtorEq]; done) | (simp -implicitDefEqProofs (disch:=omega) only [lma,go_sem,↓reduceIte,rAz,rS,rE,rL,reduceCtorEq]; rfl)))
 intro k s hk hIk
 obtain ⟨w,acc,hacc,h1,h2,h3,h4,h5,h6,h7,hh1_0,hh6_0,hX⟩:=(hI _ _).1 hIk
 clear hIk
 clear c0 c1 c2 c3 ok0 ok1
 have l1 : decide ((0 : Int) < 2) = true:=rfl
 have l2 : decide ((0 : Int) < ((0 : Nat) : Int)) = false:=rfl
 have l3 : decide ((2 : Int) = 0) = false:=rfl
 have l4 : decide ((3 : Int) = 0) = false:=rfl
 have l5 : decide ((3 : Int) = 2) = false:=rfl
 have l6 : decide ((3 : Int) < 2) = false:=rfl
 have l7 : decide (((1 : Nat) : Int) = 1) = true:=rfl
 have l10 : decide ((0 : Int) = 2) = false:=rfl
 have l11 : decide ((0 : Int) = 3) = false:=rfl
 have l12 : decide ((2 : Int) = 3) = false:=rfl
 have l9 : ∀ x : PV,([x] : List PV)[Int.toNat 0]? = some x:=fun _=>rfl
 have l8 : decide (((0 : Nat) : Int) = 0) = true:=rfl
 obtain ⟨T,hT⟩ : ∃ T,T = prT:=⟨_,rfl⟩
 rw [<- hT] at ht hh1_0 hI
 generalize sD = D at *
 obtain ⟨X,hh2,hX⟩:=hX
 simp -implicitDefEqProofs (disch:=omega) only [h1,h2,h3,h4,h5,h6,h7,hh1_0,hh6_0,hX,hh2,go_sem,↓reduceIte,rAz,rS,rE,rL,reduceCtorEq]
 refine wp_if_d (fun hlt=>?_) (fun hge=>?_)
 ·have hk4 : k < 4:=by omega
  have htk:=ht k hk4
  obtain ⟨he1,he2,hel,hal⟩:=he k hk4
  have hf1 : k = 0 -> decide ((D (k + 1)).free = 30) = true:=fun h=>by subst h; exact decide_eq_true hfr
  have hq1 : k = 2 -> decide (((D (k + 1)).queue.length : Int) = 1) = true:=fun h=>by subst h; rw [hq3]; rfl
  have hq2 : k = 3 -> decide (((D (k + 1)).queue.length : Int) = 0) = true:=fun h=>by subst h; rw [hq4]; rfl
  rw [<- hacc] at he1 hal
  generalize endedD (D k) = e at htk he1 he2 hel
  generalize hy : D (k + 1) = y at htk hf1 hq1 hq2
  have h : k = 0 \/ k = 1 \/ k = 2 \/ k = 3:=by omega
  rcases h with hk0 | hk0 | hk0 | hk0
  ·have a1:=hf1 hk0
   have a2 : decide ((0 : Int) < (e.length : Int)) = false:=decide_eq_false (by have:=he2 (by omega); omega)
   have b1 : (k : Int) < 2:=by omega
   have b2 : (k : Int) = 0:=by omega
   have b3 : ¬ (k : Int) = 2:=by omega
   have b4 : ¬ (k : Int) = 3:=by omega
   simp -implicitDefEqProofs (disch:=omega) only [h1,h2,h3,h4,h5,h6,h7,hh1_0,hh6_0,hX,hh2,hlt,htk,a1,a2,b1,b2,b3,b4,llm,Int.lt_irrefl,l1,l2,l3,l4,l5,l6,l7,l8,l10,l11,l12,go_sem,↓reduceIte,rAz,rS,rE,rL,reduceCtorEq]
   try refine And.intro (by omega) ?_
   refine (hI _ _).2 ⟨w + 1,acc ++ e,?_,?_,?_,?_,?_,?_,?_,?_,?_,?_,?_⟩
   .exact he1
   all_goals first | exact cl0 | (simp -implicitDefEqProofs (disch:=omega) only [h1,h2,h3,h4,h5,h6,h7,hh1_0,hh6_0,hX,hy,lma,go_sem,↓reduceIte,rAz,rS,rE,rL,reduceCtorEq] <;> first | (simp [mBox]; done) | (simp [mBox]; omega)) | (simp -implicitDefEqProofs (disch:=omega) only [h1,h2,h3,h4,h5,h6,h7,hh1_0,hh6_0,hX,hy,lma,go_sem,↓reduceIte,rAz,rS,rE,rL,reduceCtorEq] <;> (refine ⟨_,rfl,?_⟩; first | rfl | (simp -implicitDefEqProofs (disch:=omega) only [h1,h2,h3,h4,h5,h6,h7,hh1_0,hh6_0,hX,hy,lma,go_sem,↓reduceIte,rAz,rS,rE,rL,reduceCtorEq]; done) | (simp -implicitDefEqProofs (disch:=omega) only [h1,h2,h3,h4,h5,h6,h7,hh1_0,hh6_0,hX,hy,lma,go_sem,↓reduceIte,rAz,rS,rE,rL,reduceCtorEq]; rfl)))
  ·have a2 : decide ((0 : Int) < (e.length : Int)) = false:=decide_eq_false (by have:=he2 (by omega); omega)
   have b1 : (k : Int) < 2:=by omega
   have b2 : ¬ (k : Int) = 0:=by omega
   have b3 : ¬ (k : Int) = 2:=by omega
   have b4 : ¬ (k : Int) = 3:=by omega
   simp -implicitDefEqProofs (disch:=omega) only [h1,h2,h3,h4,h5,h6,h7,hh1_0,hh6_0,hX,hh2,hlt,htk,a2,b1,b2,b3,b4,llm,Int.lt_irrefl,l1,l2,l3,l4,l5,l6,l7,l8,l10,l11,l12,go_sem,↓reduceIte,rAz,rS,rE,rL,reduceCtorEq]
   try refine And.intro (by omega) ?_
   refine (hI _ _).2 ⟨w + 1,acc ++ e,?_,?_,?_,?_,?_,?_,?_,?_,?_,?_,?_⟩
   .exact he1
   all_goals first | exact cl0 | (simp -implicitDefEqProofs (disch:=omega) only [h1,h2,h3,h4,h5,h6,h7,hh1_0,hh6_0,hX,hy,lma,go_sem,↓reduceIte,rAz,rS,rE,rL,reduceCtorEq] <;> first | (simp [mBox]; done) | (simp [mBox]; omega)) | (simp -implicitDefEqProofs (disch:=omega) only [h1,h2,h3,h4,h5,h6,h7,hh1_0,hh6_0,hX,hy,lma,go_sem,↓reduceIte,rAz,rS,rE,rL,reduceCtorEq] <;> (refine ⟨_,rfl,?_⟩; first | rfl | (simp -implicitDefEqProofs (disch:=omega) only [h1,h2,h3,h4,h5,h6,h7,hh1_0,hh6_0,hX,hy,lma,go_sem,↓reduceIte,rAz,rS,rE,rL,reduceCtorEq]; done) | (simp -implicitDefEqProofs (disch:=omega) only [h1,h2,h3,h4,h5,h6,h7,hh1_0,hh6_0,hX,hy,lma,go_sem,↓reduceIte,rAz,rS,rE,rL,reduceCtorEq]; rfl)))
  ·have a1:=hq1 hk0
   have b1 : ¬ (k : Int) < 2:=by omega
   have b2 : ¬ (k : Int) = 0:=by omega
   have b3 : (k : Int) = 2:=by omega
   have b4 : ¬ (k : Int) = 3:=by omega
   simp -implicitDefEqProofs (disch:=omega) only [h1,h2,h3,h4,h5,h6,h7,hh1_0,hh6_0,hX,hh2,hlt,htk,a1,b1,b2,b3,b4,llm,lpn,lln,Int.lt_irrefl,l1,l2,l3,l4,l5,l6,l7,l8,l10,l11,l12,go_sem,↓reduceIte,rAz,rS,rE,rL,reduceCtorEq]
   try refine And.intro (by omega) ?_
   refine (hI _ _).2 ⟨w + 1,acc ++ e,?_,?_,?_,?_,?_,?_,?_,?_,?_,?_,?_⟩
   .exact he1
   all_goals first | exact cl0 | (simp -implicitDefEqProofs (disch:=omega) only [h1,h2,h3,h4,h5,h6,h7,hh1_0,hh6_0,hX,hy,lma,go_sem,↓reduceIte,rAz,rS,rE,rL,reduceCtorEq] <;> first | (simp [mBox]; done) | (simp [mBox]; omega)) | (simp -implicitDefEqProofs (disch:=omega) only [h1,h2,h3,h4,h5,h6,h7,hh1_0,hh6_0,hX,hy,lma,go_sem,↓reduceIte,rAz,rS,rE,rL,reduceCtorEq] <;> (refine ⟨_,rfl,?_⟩; first | rfl | (simp -implicitDefEqProofs (disch:=omega) only [h1,h2,h3,h4,h5,h6,h7,hh1_0,hh6_0,hX,hy,lma,go_sem,↓reduceIte,rAz,rS,rE,rL,reduceCtorEq]; done) | (simp -implicitDefEqProofs (disch:=omega) only [h1,h2,h3,h4,h5,h6,h7,hh1_0,hh6_0,hX,hy,lma,go_sem,↓reduceIte,rAz,rS,rE,rL,reduceCtorEq]; rfl)))
  ·have a1:=hq2 hk0
   have b1 : ¬ (k : Int) < 2:=by omega
   have b2 : ¬ (k : Int) = 0:=by omega
   have b3 : ¬ (k : Int) = 2:=by omega
   have b4 : (k : Int) = 3:=by omega
   simp -implicitDefEqProofs (disch:=omega) only [h1,h2,h3,h4,h5,h6,h7,hh1_0,hh6_0,hX,hh2,hlt,htk,a1,b1,b2,b3,b4,llm,lpn,lln,Int.lt_irrefl,l1,l2,l3,l4,l5,l6,l7,l8,l10,l11,l12,go_sem,↓reduceIte,rAz,rS,rE,rL,reduceCtorEq]
   try refine And.intro (by omega) ?_
   refine (hI _ _).2 ⟨w + 1,acc ++ e,?_,?_,?_,?_,?_,?_,?_,?_,?_,?_,?_⟩
   .exact he1
   all_goals first | exact cl0 | (simp -implicitDefEqProofs (disch:=omega) only [h1,h2,h3,h4,h5,h6,h7,hh1_0,hh6_0,hX,hy,lma,go_sem,↓reduceIte,rAz,rS,rE,rL,reduceCtorEq] <;> first | (simp [mBox]; done) | (simp [mBox]; omega)) | (simp -implicitDefEqProofs (disch:=omega) only [h1,h2,h3,h4,h5,h6,h7,hh1_0,hh6_0,hX,hy,lma,go_sem,↓reduceIte,rAz,rS,rE,rL,reduceCtorEq] <;> (refine ⟨_,rfl,?_⟩; first | rfl | (simp -implicitDefEqProofs (disch:=omega) only [h1,h2,h3,h4,h5,h6,h7,hh1_0,hh6_0,hX,hy,lma,go_sem,↓reduceIte,rAz,rS,rE,rL,reduceCtorEq]; done) | (simp -implicitDefEqProofs (disch:=omega) only [h1,h2,h3,h4,h5,h6,h7,hh1_0,hh6_0,hX,hy,lma,go_sem,↓reduceIte,rAz,rS,rE,rL,reduceCtorEq]; rfl)))
 ·have hk : k = 4:=by omega
  subst hk
  have ha : acc = [⟨rA,3⟩]:=hacc
  subst ha
  simp -implicitDefEqProofs (disch:=omega) only [h1,h2,h3,h4,h5,h6,h7,hh1_0,hh6_0,hX,hh2,hX,hge,hp,l7,l9,go_sem,↓reduceIte,rAz,rS,rE,rL,reduceCtorEq]
theorem issue_fine {t : Tr} {d : Dv} (h : DvOk t d) {g : Int} {r : Rq} (hr : soundR r = true) (hm : mayA t d.v g (d.now * d.speed) = true) (hs : 8 <= shareD t d g /\ shareD t d g <= 1073741824) :
  (IssueA t d.v g (shareD t d g) (costD d r) (d.now * d.speed) d.margin).2 = 0:=by
 have hb:=busy_range h
 have hc:=cost_pos h hr
 obtain ⟨_,_,hmg⟩:=configOk_iff.1 h.cfg
 unfold mayA at hm
 simp only [bat,decide_eq_true_eq] at hm
 generalize d.now * d.speed = now at *
 generalize costD d r = c at *
 generalize shareD t d g = s at *
 have hv : issueV d.v g s c now d.margin <= 1152921504606846976:=by
  unfold issueV
  have h1 : (c * 1073741824 + s - 1) / s <= (c * 1073741824 + s - 1) / 8:=by
   have:=div_mono (a:=c * 1073741824 + s - 1) (b:=c * 1073741824 + s - 1) (W:=8) (W':=s) (by omega) (Int.le_refl _) (by omega) hs.1
   exact this
  omega
 unfold IssueA
 rw [if_pos hm.1.1,if_pos hm.1.2,if_pos ⟨⟨by omega,hs.2⟩,⟨hc.1,by omega⟩,⟨hb.1,by omega⟩,hmg⟩,if_neg (by omega),if_neg (by omega)]
theorem newD_ok {t : Tr} (h : TreeOk t) {m : Mdl} {speed margin : Int} (hc : configOk m speed margin = true) : DvOk t (newD m speed margin) :=
 ⟨h,hc,by simp,by simp,by simp,(ascOk_iff _ _ _ _).1 rfl,rfl,(ascOk_iff _ _ _ _).1 rfl,by simp,rfl,by simp,rfl⟩
theorem subD_ok {t : Tr} {d : Dv} {r : Rq} (h : DvOk t d) (hr : soundR { r with time:=0 } = true) (hk : knownN t.nodes r.group = true) (hl : d.queue.length + d.flights.length < 256) : DvOk t (subD d r):=by
 refine ⟨h.tree,h.cfg,h.now,h.free,h.head,h.w,h.dp,h.v,?_,h.bk,fun x hx=>?_,h.fl⟩
 ·show (d.queue ++ [_]).length + d.flights.length <= 256
  rw [lla,List.length_singleton]
  omega
 ·rcases lmp.1 hx with hx | hx
  ·exact h.q x hx
  ·rw [List.mem_singleton] at hx
   subst hx
   refine ⟨?_,hk⟩
   have hn:=h.now
   rw [soundR_iff] at hr ⊢
   simp only at hr ⊢
   omega
def undF (t : Tr) (fs : List Fl) (id : Int) : Nat:=(fs.filter fun f=>decide (id ∈ ancF t.nodes t.nodes.length f.r.group)).length
theorem undF_cons (t : Tr) (f : Fl) (l : List Fl) (id : Int) : undF t (f :: l) id = (if id ∈ ancF t.nodes t.nodes.length f.r.group then 1 else 0) + undF t l id:=by
 unfold undF
 rw [lfl]
 split
 ·rename_i hc
  rw [if_pos (by simpa using hc),llc]; omega
 ·rename_i hc
  rw [if_neg (by simpa using hc)]; omega
theorem cntF_cons (f : Fl) (l : List Fl) (x : Int) : cntF (f :: l) x = (if f.r.group = x then 1 else 0) + cntF l x:=by
 unfold cntF
 rw [lfl]
 split
 ·rename_i hc
  rw [if_pos (by simpa using hc),llc]; omega
 ·rename_i hc
  rw [if_neg (by simpa using hc)]; omega
theorem sumI_ind {S : List Int} (hS : S.Nodup) (g : Int) : sumI (S.map fun x=>if g = x then 1 else 0) = if g ∈ S then 1 else 0:=by
 induction S with
 | nil=>rfl
 | cons y S ih =>
  rw [List.nodup_cons] at hS
  simp only [lpc,sumI,ih hS.2,lmk]
  by_cases h1 : g = y
  ·subst h1
   rw [if_pos rfl,if_neg hS.1,if_pos (.inl rfl)]
   rfl
  ·rw [if_neg h1]
   by_cases h2 : g ∈ S
   .rw [if_pos h2,if_pos (.inr h2)]; rfl
   .rw [if_neg h2,if_neg (by simp [h1,h2])]; rfl
theorem sumI_add {f g : Int -> Int} : ∀ l : List Int,sumI (l.map fun x=>f x + g x) = sumI (l.map f) + sumI (l.map g)
 | []=>rfl
 | x :: l=>by simp only [lpc,sumI,sumI_add l]; omega
theorem sumF_und {t : Tr} (h : TreeOk t) {i : Nat} {n : Nd} (hn : t.nodes[i]? = some n) : ∀ (fs : List Fl),(∀ f ∈ fs,knownN t.nodes f.r.group = true) -> sumF t fs n.id = (undF t fs n.id : Int)
 | [],_=>by
  unfold sumF
  have e : cntF [] = fun _=>0:=rfl
  rw [e,sumI_const0]
  rfl
 | f :: fs,hk=>by
  have ih:=sumF_und h hn fs fun x hx=>hk x (lmc _ hx)
  have hnd:=nodup_subF h t.nodes.length i n hn (by omega)
  have e : cntF (f :: fs) = fun x=>(if f.r.group = x then 1 else 0) + cntF fs x:=funext fun x=>cntF_cons f fs x
  unfold sumF at ih ⊢
  rw [e,sumI_add,sumI_ind hnd,ih,undF_cons]
  have hm : f.r.group ∈ subF t.nodes t.nodes.length n.id ↔ n.id ∈ ancF t.nodes t.nodes.length f.r.group:=by
   rw [mem_subF h t.nodes.length i n hn (by omega)]
   constructor
   ·rintro ⟨j,m,_,hm,ha⟩
    rw [<- hm]; exact ha
   ·intro ha
    obtain ⟨m,hm,hid⟩:=findN_some (hk f (lms ..))
    obtain ⟨j,hj⟩:=lgm hm
    exact ⟨j,m,hj,hid,by rw [hid]; exact ha⟩
  by_cases hg : n.id ∈ ancF t.nodes t.nodes.length f.r.group
  .rw [if_pos (hm.2 hg),if_pos hg]; omega
  .rw [if_neg (fun hx=>hg (hm.1 hx)),if_neg hg]; omega
where
 sumI_const0 : ∀ {l : List Int},sumI (l.map fun _=>(0 : Int)) = 0:=by
  intro l
  induction l with
  | nil=>rfl
  | cons x l ih=>simp only [lpc,sumI,ih]; omega
abbrev mdZ : Mdl:=⟨0,0,0,0,0⟩
abbrev limD (q : List Rq) : Dv:=⟨mdZ,1000000,1073741824,0,0,0,[],[⟨2,newB 1 4096 0,newB maxR 4096 0,newB maxR 0 0,newB maxR 0 0⟩],[],[],q,[]⟩
def rqL (n : Int) (i : Nat) : Rq:=⟨0,1 + (i : Int) % 2,i,n,false,0⟩
def qL (n : Int) (k : Nat) : List Rq:=(List.range k).map (rqL n)
def cnt2 (l : List Rq) : Nat:=(l.filter fun r=>decide (r.group = 2)).length
def cntF2 (l : List Fl) : Nat:=(l.filter fun f=>decide (f.r.group = 2)).length
theorem qL_len (n : Int) (k : Nat) : (qL n k).length = k:=by simp [qL]
theorem qL_succ (n : Int) (k : Nat) : qL n (k + 1) = qL n k ++ [rqL n k]:=by simp [qL,List.range_succ]
theorem cnt2_qL (n : Int) : ∀ k : Nat,cnt2 (qL n k) = k / 2
 | 0=>rfl
 | k + 1=>by
  have ih:=cnt2_qL n k
  unfold cnt2 at ih ⊢
  rw [qL_succ,List.filter_append,lla,ih]
  by_cases h : k % 2 = 1
  ·have hg : (rqL n k).group = 2:=by simp only [rqL]; omega
   rw [List.filter_cons_of_pos (by simpa using hg)]
   simp
   omega
  ·have hg : ¬ (rqL n k).group = 2:=by simp only [rqL]; omega
   rw [List.filter_cons_of_neg (by simpa using hg)]
   simp
   omega
theorem rqL_sound {n : Int} (hn : 1 <= n /\ n <= 4096) {i : Nat} (hi : i < 256) : soundR (rqL n i) = true:=by
 rw [soundR_iff]
 simp only [rqL]
 omega
theorem rqL_group (n : Int) (i : Nat) : (rqL n i).group = 1 \/ (rqL n i).group = 2:=by
 simp only [rqL]
 omega
theorem rqL_known (n : Int) (i : Nat) : knownN prT.nodes (rqL n i).group = true:=by
 rcases rqL_group n i with h | h <;> rw [h] <;> rfl
theorem limD_ok {n : Int} (hn : 1 <= n /\ n <= 4096) {k : Nat} (hk : k <= 256) : DvOk prT (limD (qL n k)):=by
 refine ⟨prT_ok,by rfl,by simp,by simp,by simp,(ascOk_iff _ _ _ _).1 rfl,rfl,(ascOk_iff _ _ _ _).1 rfl,?_,by rfl,fun r hr=>?_,rfl⟩
 ·show (qL n k).length + 0 <= 256
  rw [qL_len]
  omega
 ·obtain ⟨i,hi,rfl⟩:=lmm.1 hr
  exact ⟨rqL_sound hn (by have:=List.mem_range.1 hi; omega),rqL_known n i⟩
structure LimI (n : Int) (x : Dv) : Prop where
 ok : DvOk prT x
 m : x.m = mdZ
 now : x.now = 1
 speed : x.speed = 1000000
 margin : x.margin = 1073741824
 w : x.weights = []
 dp : x.depths = []
 len : x.queue.length + x.flights.length = 256
 free : x.free = x.flights.length
 q : ∀ r ∈ x.queue,r.pages = n /\ r.write = false /\ (r.group = 1 \/ r.group = 2)
 cnt : cnt2 x.queue + cntF2 x.flights = 128
 v : ∀ g,ownC x.v g <= x.flights.length
 room : n * (cntF2 x.flights : Int) <= 4096
 bk : x.buckets = [⟨2,⟨1,100,4096,409600 - 100 * (n * (cntF2 x.flights : Int)),1⟩,newB maxR 4096 1,newB maxR 0 1,newB maxR 0 1⟩]
theorem newB_adv (l : Int) : advB (newB maxR l 0) 1 = newB maxR l 1:=by
 unfold advB newB
 rw [if_pos rfl,if_pos rfl,if_pos rfl]
theorem lim_start {n : Int} (hn : 1 <= n /\ n <= 4096) : LimI n (advD (limD (qL n 256))) where
 ok:=advD_ok (limD_ok hn (lrf _)) (by show (0 : Int) < 1048576; decide)
 m := rfl
 now:=rfl
 speed:=rfl
 margin:=rfl
 w := rfl
 dp:=rfl
 len:=by show (qL n 256).length + 0 = 256; rw [qL_len]
 free:=rfl
 q := fun r hr=>by
  obtain ⟨i,_,rfl⟩:=lmm.1 (show r ∈ (List.range 256).map (rqL n) from hr)
  exact ⟨rfl,rfl,rqL_group n i⟩
 cnt:=by
  show cnt2 (qL n 256) + 0 = 128
  rw [cnt2_qL]
 v := fun g=>by show ownC [] g <= 0; exact Int.le_refl _
 room:=by show n * 0 <= 4096; omega
 bk:=by
  show [advC 1 ⟨2,newB 1 4096 0,newB maxR 4096 0,newB maxR 0 0,newB maxR 0 0⟩] = _
  unfold advC
  rw [newB_adv,newB_adv]
  have e : advB (newB 1 4096 0) 1 = ⟨1,100,4096,409600 - 100 * (n * ((cntF2 [] : Nat) : Int)),1⟩:=by
   have e0 : n * ((cntF2 [] : Nat) : Int) = 0:=Int.mul_zero n
   rw [e0]
   rfl
  show [(⟨2,advB (newB 1 4096 0) 1,newB maxR 4096 1,newB maxR 0 1,newB maxR 0 1⟩ : Cp)] = _
  rw [e]
  rfl
theorem ownC_put (a : List Ch) (id v x : Int) : ownC (putA a id v) x = if x = id then v else ownC a x:=by
 unfold putA
 rw [withGo_own]
 simp
theorem issue_val {t : Tr} {a : List Ch} {id share cost now margin : Int} {v : List Ch} (h : IssueA t a id share cost now margin = (v,0)) : v = putA a id (issueV a id share cost now margin):=by
 unfold IssueA at h
 repeat' split at h
 all_goals simp only [pmi] at h
 all_goals first | exact h.1.symm | (exfalso; have:=h.2; omega)
theorem lim_share {n : Int} {x : Dv} (h : LimI n x) {g : Int} {r : Rq} (hq : firstQ x.queue g = some r) : shareD prT x g = 1073741824:=by
 obtain ⟨hm,hg⟩:=firstQ_mem hq
 have hact : g ∈ actL x:=by
  unfold actL
  rw [<- hg]
  exact List.mem_append_left _ (List.mem_map_of_mem hm)
 unfold shareD
 rw [h.w]
 rcases (h.q r hm).2.2 with e | e
 ·rw [<- hg,e]
  exact shr_root prT prT_ok _ _
 ·have h2 : onB prT (actL x) 2 = true:=by
   unfold onB
   rw [List.any_eq_true]
   exact ⟨g,hact,by rw [<- hg,e]; rfl⟩
  have hs:=shr_step prT_ok (wtOf []) (onB prT (actL x)) (i:=1) (n:=⟨2,1,⟨#[97]⟩,0,0,0⟩) rfl (by decide)
  simp only [h2,if_true,shr_root prT prT_ok] at hs
  have hW : sumW prT (wtOf []) (onB prT (actL x)) 1 = 100:=by
   unfold sumW
   rw [show kidsN prT.nodes 1 = [2] from rfl,List.filter_cons_of_pos h2]
   rfl
  rw [hW] at hs
  rw [<- hg,e,hs]
  rfl
theorem lim_cost {n : Int} {x : Dv} (h : LimI n x) (r : Rq) : costD x r = 1:=by
 unfold costD costR
 rw [h.m]
 split <;> split <;> simp <;> rfl
theorem cnt2_rem {g : Int} : ∀ {l : List Rq} {r : Rq},firstQ l g = some r -> cnt2 (remQ l g) + (if g = 2 then 1 else 0) = cnt2 l
 | [],_,h=>by cases h
 | x :: l,r,h=>by
  unfold firstQ at h
  unfold remQ cnt2
  by_cases hx : x.group = g
  ·rw [if_pos hx]
   by_cases h2 : g = 2
   ·rw [if_pos h2,List.filter_cons_of_pos (by simp [hx,h2])]; rfl
   ·rw [if_neg h2,List.filter_cons_of_neg (by simp [hx,h2])]; rfl
  ·rw [if_neg hx] at h ⊢
   have ih:=cnt2_rem h
   unfold cnt2 at ih
   by_cases h2 : x.group = 2
   ·rw [List.filter_cons_of_pos (by simp [h2]),List.filter_cons_of_pos (by simp [h2]),llc,llc]
    omega
   ·rw [List.filter_cons_of_neg (by simp [h2]),List.filter_cons_of_neg (by simp [h2])]
    exact ih
theorem cntF2_ins (l : List Fl) (f : Fl) : cntF2 (insF l f) = cntF2 l + if f.r.group = 2 then 1 else 0:=by
 have h:=congrArg cntF2 (List.takeWhile_append_dropWhile (p:=fun x : Fl=>decide (x.done <= f.done)) (l:=l))
 unfold cntF2 at h ⊢
 unfold insF
 rw [List.filter_append,lla] at h ⊢
 by_cases h2 : f.r.group = 2
 ·rw [if_pos h2,List.filter_cons_of_pos (by simp [h2]),llc]
  omega
 ·rw [if_neg h2,List.filter_cons_of_neg (by simp [h2])]
  omega
theorem cntF2_le (l : List Fl) : cntF2 l <= l.length:=List.length_filter_le _ _
theorem undF_le (t : Tr) (fs : List Fl) (id : Int) : undF t fs id <= fs.length:=List.length_filter_le _ _
theorem lim_allow {n : Int} {x : Dv} (h : LimI n x) {r : Rq} (hr : r ∈ x.queue) : allowF prT x.depths x.flights r.group = true:=by
 have hl:=h.len
 have hpos : 0 < x.queue.length:=List.length_pos_of_mem hr
 have hkn : ∀ f ∈ x.flights,knownN prT.nodes f.r.group = true:=fun f hf=>((flOk_iff.1 h.ok.fl).1 f hf).1.2
 have key : ∀ (i : Nat) (nd : Nd),prT.nodes[i]? = some nd -> sumF prT x.flights nd.id < 256:=fun i nd hn=>by
  have:=sumF_und prT_ok hn x.flights hkn
  have:=undF_le prT x.flights nd.id
  omega
 unfold allowF
 rw [List.all_eq_true]
 intro g hg
 have hgc : g = 1 \/ g = 2:=by
  rcases (h.q r hr).2.2 with e | e
  ·rw [e,show ancF prT.nodes prT.nodes.length 1 = [1] from rfl] at hg
   simp at hg
   exact .inl hg
  ·rw [e,show ancF prT.nodes prT.nodes.length 2 = [2,1] from rfl] at hg
   simp at hg
   omega
 rw [h.dp]
 have hd : ∀ g,(getD [] g).depth = 256:=fun _=>rfl
 rw [hd]
 rcases hgc with rfl | rfl
 .exact decide_eq_true (key 0 ⟨1,0,⟨#[]⟩,0,0,0⟩ rfl)
 .exact decide_eq_true (key 1 ⟨2,1,⟨#[97]⟩,0,0,0⟩ rfl)
theorem lim_tok {n : Int} {f2 : Nat} (l : Int) (hl : l = 409600 - 100 * (n * (f2 : Int))) : tokB ⟨1,100,4096,l,1⟩ = 4096 - n * (f2 : Int):=by
 unfold tokB
 rw [if_neg (by show ¬ (1 : Int) = maxR; decide)]
 show l / 100 = _
 omega
theorem inf_tok (least : Int) : tokB (newB maxR least 1) = 1073741824:=by
 unfold tokB newB
 rw [if_pos rfl,if_pos rfl]
theorem lim_pass {n : Int} {x : Dv} (h : LimI n x) {r : Rq} (hr : r ∈ x.queue) : passD prT x r = true ↔ (r.group = 2 -> n * (cntF2 x.flights : Int) + n <= 4096):=by
 obtain ⟨hp,hw,hg⟩:=h.q r hr
 unfold passD
 rw [lim_allow h hr,bta,h.bk]
 rcases hg with e | e
 ·rw [e,show ancF prT.nodes prT.nodes.length 1 = [1] from rfl]
  simp [roomC,capOf]
 ·rw [e,show ancF prT.nodes prT.nodes.length 2 = [2,1] from rfl]
  have h1:=lim_tok (n:=n) (f2:=cntF2 x.flights) _ rfl
  have h2:=inf_tok 0
  simp only [List.all_cons,List.all_nil,roomC,capOf,if_true,hw,kpB,koB,bft,if_false,hp,h1,h2,show ¬ (2 : Int) = 1 by decide,bau,bat,decide_eq_true_eq]
  constructor
  ·intro h _; omega
  ·intro h
   have:=h trivial
   omega
theorem lim_step {n : Int} (hn : 1 <= n /\ n <= 4096) {x : Dv} (h : LimI n x) {g : Int} {r : Rq} {v : List Ch} (st : StepD prT x g r v) : LimI n (beginD prT x g r v):=by
 obtain ⟨hm,hg⟩:=firstQ_mem st.first
 obtain ⟨hp,hw,hgr⟩:=h.q r hm
 have hlen:=h.len
 have hrl:=remQ_len st.first
 have hc2:=cnt2_rem st.first
 have hci:=cntF2_ins x.flights ⟨r,doneD x r⟩
 have hcn:=h.cnt
 have hpass : passD prT x r = true:=by
  have h0:=st.pos
  rw [st.next] at h0
  obtain ⟨r',h1,h2⟩:=next_first h0
  rw [<- st.next,st.first] at h1
  cases h1
  exact h2
 have hroom:=(lim_pass h hm).1 hpass
 have hcost:=lim_cost h r
 have hfree : freeD x r = x.flights.length + 1:=by
  unfold freeD
  rw [hcost,h.free,h.now,h.speed]
  omega
 have hrm:=h.room
 refine ⟨step_ok h.ok st,h.m,h.now,h.speed,h.margin,h.w,h.dp,?_,?_,fun y hy=>h.q y ((remQ_sub g x.queue).subset hy),?_,fun y=>?_,?_,?_⟩
 ·show (remQ x.queue g).length + (insF x.flights _).length = 256
  rw [insF_len]
  omega
 ·show freeD x r = (insF x.flights _).length
  rw [hfree,insF_len]
  omega
 ·show cnt2 (remQ x.queue g) + cntF2 (insF x.flights _) = 128
  rw [hci]
  simp only
  rw [hg]
  by_cases h2 : g = 2
  ·rw [if_pos h2] at hc2 ⊢
   omega
  ·rw [if_neg h2] at hc2 ⊢
   omega
 ·show ownC v y <= (insF x.flights _).length
  have hi:=st.issue
  rw [lim_share h st.first,hcost] at hi
  rw [issue_val hi,ownC_put,insF_len]
  have h1:=h.v y
  have h2:=h.v g
  split
  ·unfold issueV
   rw [h.now,h.speed,h.margin]
   have : ((1 : Int) * 1073741824 + 1073741824 - 1) / 1073741824 = 1:=by decide
   rw [this]
   omega
  ·omega
 ·show n * (cntF2 (insF x.flights _) : Int) <= 4096
  rw [hci]
  simp only
  by_cases h2 : r.group = 2
  ·rw [if_pos h2]
   have:=hroom h2
   rw [Int.natCast_add,Int.mul_add]
   omega
  ·rw [if_neg h2]
   exact hrm
 ·show spendD prT x.buckets r = _
  show spendD prT x.buckets r = [⟨2,⟨1,100,4096,409600 - 100 * (n * (cntF2 (insF x.flights ⟨r,doneD x r⟩) : Int)),1⟩,newB maxR 4096 1,newB maxR 0 1,newB maxR 0 1⟩]
  rw [hci,h.bk]
  simp only
  unfold spendD
  rcases hgr with e | e
  ·rw [e,show ancF prT.nodes prT.nodes.length 1 = [1] from rfl,if_neg (by decide)]
   simp [setC]
  ·rw [e,show ancF prT.nodes prT.nodes.length 2 = [2,1] from rfl,if_pos rfl]
   have hr2:=hroom e
   have ht : takB ⟨1,100,4096,409600 - 100 * (n * (cntF2 x.flights : Int)),1⟩ n = ⟨1,100,4096,409600 - 100 * (n * ((cntF2 x.flights + 1 : Nat) : Int)),1⟩:=by
    unfold takB
    rw [if_neg (by show ¬ (1 : Int) = maxR; decide)]
    simp only
    rw [if_neg (by omega)]
    rw [Int.natCast_add,Int.mul_add]
    congr 1
    omega
   have hinf : takB (newB maxR 0 1) 1 = newB maxR 0 1:=by
    unfold takB newB
    rw [if_pos rfl,if_pos rfl]
   simp only [List.foldl_cons,List.foldl_nil,setC,if_true,spendC,hw,bft,if_false,hp,ht,hinf,show ¬ (2 : Int) = 1 by decide]
theorem firstQ_some {g : Int} : ∀ {l : List Rq} {r : Rq},r ∈ l -> r.group = g -> ∃ r',firstQ l g = some r'
 | x :: l,r,hr,hg=>by
  unfold firstQ
  by_cases hx : x.group = g
  ·exact ⟨x,by rw [if_pos hx]⟩
  ·rw [if_neg hx]
   rcases lmk.1 hr with rfl | hr
   .exact absurd hg hx
   .exact firstQ_some hr hg
theorem lim_may {n : Int} {x : Dv} (h : LimI n x) {g : Int} {r : Rq} (hq : firstQ x.queue g = some r) : mayA prT x.v g (x.now * x.speed) = true:=by
 obtain ⟨hm,hg⟩:=firstQ_mem hq
 have hkn:=(h.ok.q r hm).2
 rw [hg] at hkn
 have hv:=h.v g
 have hl:=h.len
 unfold mayA checkA
 rw [(ascOk_iff _ _ _ _).2 h.ok.v,(treeOk_iff prT).2 prT_ok,hkn,h.now,h.speed]
 simp only [bau,bta,decide_eq_true_eq]
 omega
theorem lim_end {n : Int} (hn : 1 <= n /\ n <= 4096) {x : Dv} (h : LimI n x) (he : EndD prT x) : (cntF2 x.flights : Int) = min (4096 / n) 128:=by
 have hl:=h.len
 have hcn:=h.cnt
 have hrm:=h.room
 have hz : nxtA prT x.v (x.now * x.speed) 0 (msort (readyL prT x [] x.queue)) = 0:=by
  rcases he with e | e | e | ⟨r,e1,e2⟩
  ·rw [h.now,h.speed,h.free] at e
   omega
  ·exact e
  ·by_cases h0 : nxtA prT x.v (x.now * x.speed) 0 (msort (readyL prT x [] x.queue)) = 0
   ·exact h0
   ·obtain ⟨r,h1,_⟩:=next_first h0
    rw [e] at h1
    cases h1
  ·by_cases h0 : nxtA prT x.v (x.now * x.speed) 0 (msort (readyL prT x [] x.queue)) = 0
   .exact h0
   .exact absurd (issue_fine h.ok (h.ok.q r (firstQ_mem e1).1).1 (nxt_mem h0).2 (by rw [lim_share h e1]; decide)) e2
 have hno : ∀ g r,firstQ x.queue g = some r -> ¬ passD prT x r = true:=fun g r hq hp=>by
  have hin : g ∈ readyL prT x [] x.queue:=mem_readyL.2 ⟨by simp,r,hq,hp⟩
  have:=nxt_zero hz g (mem_msort.2 hin)
  rw [lim_may h hq] at this
  cases this
 by_cases h2 : ∃ r ∈ x.queue,r.group = 2
 ·obtain ⟨r0,hr0,hg0⟩:=h2
  obtain ⟨r,hq⟩:=firstQ_some hr0 hg0
  obtain ⟨hm,hg⟩:=firstQ_mem hq
  have hnp:=hno 2 r hq
  rw [lim_pass h hm] at hnp
  have hb : 4096 < n * (cntF2 x.flights : Int) + n:=by
   by_cases hc : n * (cntF2 x.flights : Int) + n <= 4096
   .exact absurd (fun _=>hc) hnp
   .omega
  have hd : 4096 / n = (cntF2 x.flights : Int):=by
   have h1 : 4096 = n * (cntF2 x.flights : Int) + (4096 - n * (cntF2 x.flights : Int)):=by omega
   rw [h1,Int.add_comm,Int.add_mul_ediv_left _ _ (by omega),Int.ediv_eq_zero_of_lt (by omega) (by omega)]
   omega
  rw [hd]
  omega
 ·have hc0 : cnt2 x.queue = 0:=by
   unfold cnt2
   rw [List.length_eq_zero_iff,List.filter_eq_nil_iff]
   intro r hr hd
   exact h2 ⟨r,hr,by simpa using hd⟩
  have hf : (cntF2 x.flights : Int) = 128:=by omega
  rw [hf] at hrm ⊢
  have : 128 <= 4096 / n:=by
   rw [Int.le_ediv_iff_mul_le (by omega)]
   omega
  omega
theorem lim_final {n : Int} (hn : 1 <= n /\ n <= 4096) : LimI n (tickD prT (limD (qL n 256))) /\ (cntF2 (tickD prT (limD (qL n 256))).flights : Int) = min (4096 / n) 128:=by
 have h:=loopD_ind (t:=prT) (P:=LimI n) (fun x g r v hp st=>lim_step hn hp st) ((limD (qL n 256)).queue.length + 1) (advD (limD (qL n 256))) (lim_start hn)
 exact ⟨h,lim_end hn h (tickD_end prT _)⟩
set_option maxHeartbeats 1000000 in
theorem submit_full (t : Tr) (d : Dv) (r : Rq) (h : DvOk t d) (hs : d.Small) (hr : soundR { r with time:=0 } = true) (hk : knownN t.nodes r.group = true) (hl : d.queue.length + d.flights.length = 256) : V 17 [t.vv,d.vv,r.vv] [] = some (.tup [dvF (newD mdZ 0 0) (.fresh 2 []),.p (.int .i64 7)],[]):=by
 refine V_wp (vf:=vf17) rfl ?_
 have i0:=check_eq t d r h hs hr hk
 have hn : (d.queue.length : Int) + d.flights.length = 256:=by omega
 simp -implicitDefEqProofs (disch:=omega) only [vf17,vb17,llm,i0,hn,go_sem,↓reduceIte,rAz,rS,rE,rL,reduceCtorEq]
 rfl
theorem cntF2_take {l : List Fl} {k : Nat} {m : Fl} (hm : l[k]? = some m) : cntF2 (l.take (k + 1)) = cntF2 (l.take k) + if m.r.group = 2 then 1 else 0:=by
 unfold cntF2
 rw [filt_take hm]
 by_cases h : m.r.group = 2
 .rw [if_pos (decide_eq_true h),if_pos h]
 .rw [if_neg (by simpa using h),if_neg h]
abbrev sgL : Sg:=⟨100,1,maxR,maxR,maxR,0⟩
theorem sgL_ok : SgOk sgL:=⟨by decide,.inl (by decide),.inr rfl,.inr rfl,.inr rfl,by decide⟩
set_option maxHeartbeats 8000000 in
theorem deviceLimits_eq (n0 : Int) : V 7 [.p (.int .i64 n0)] [] = some (.p (.bool true),[]):=by
 refine V_wp (vf:=vf7) rfl ?_
 have c0:=pair34_eq
 have hro : V 12 [.p (.slice 1 [.int .i64 n0])] [] = some (.boxed [.p (.slice 1 [.int .i64 n0]),.p (.int .i64 0)],[]):=roll_eq [n0]
 have hnx : V 16 [.ptr (.arg 0 0) 0 0,.p (.int .i64 4096)] [.box [.p (.slice 1 [.int .i64 n0]),.p (.int .i64 0)]] = some (.p (.int .i64 (nextV [n0] 0 4096)),[.box [.p (.slice 1 [.int .i64 n0]),.p (.int .i64 (nextA [n0] 0 4096))]]):=next_eq [n0] 0 4096 (by show (1 : Nat) < _; decide) (by omega)
 have n1:=nextV_nonneg [n0] 0 4096
 have n2:=nextV_lt [n0] 0 (n:=4096) (by omega)
 generalize nextV [n0] 0 4096 = v at hnx n1 n2
 generalize nextA [n0] 0 4096 = av at hnx
 obtain ⟨n,hnv⟩ : ∃ n,n = 1 + v:=⟨_,rfl⟩
 have hn : 1 <= n /\ n <= 4096:=by omega
 have c1:=dnew_eq mdZ 1000000 1073741824 (by rfl)
 have okN : DvOk prT (newD mdZ 1000000 1073741824):=newD_ok prT_ok (by rfl)
 have c2:=set_eq okN 2 sgL (by rfl) sgL_ok 0 rfl rfl rfl
 have hS : setE (newD mdZ 1000000 1073741824) 2 sgL = limD (qL n 0):=rfl
 rw [hS] at c2
 have hsub : ∀ k,k < 256 -> V 17 [prT.vv,(limD (qL n k)).vv,.agg [.p (.int .i64 0),.p (.int .i64 (1 + (k : Int) % 2)),.p (.int .i64 k),.p (.int .i64 n),.p (.bool false),.p (.int .i64 0)]] [] = some (.tup [dvF (limD (qL n (k + 1))) (.p (chsP (limD (qL n (k + 1))).v)),.p (.int .i64 0)],[]):=fun k hk=>by
  have ok:=limD_ok hn (k:=k) (by omega)
  have:=submit_eq prT (limD (qL n k)) (rqL n k) ok (ok_small ok) (rqL_sound hn hk) (rqL_known n k) (by show (qL n k).length + 0 < 256; rw [qL_len]; omega)
  rw [show subD (limD (qL n k)) (rqL n k) = limD (qL n (k + 1)) by rw [show limD (qL n (k + 1)) = limD (qL n k ++ [rqL n k]) by rw [qL_succ]]; rfl] at this
  exact this
 have okF:=limD_ok hn (lrf 256)
 have hfull:=submit_full prT (limD (qL n 256)) ⟨0,1,0,1,false,0⟩ okF (ok_small okF) (by rfl) (by rfl) (by show (qL n 256).length + 0 = 256; rw [qL_len])
 have htick:=tick_eq okF (ok_small okF) (by show (0 : Int) < 1048576; decide)
 obtain ⟨hLim,hcnt⟩:=lim_final hn
 have hv0 : chsP (newD mdZ 1000000 1073741824).v = PV.slice 2 []:=rfl
 have hlen:=hLim.len
 generalize tickD prT (limD (qL n 256)) = z at htick hLim hcnt hlen
 generalize endedD (limD (qL n 256)) = e at htick
 obtain ⟨D,hD⟩ : ∃ D : Nat -> Dv,∀ k,D k = limD (qL n k):=⟨fun k=>limD (qL n k),fun _=>rfl⟩
 have hsub' : ∀ k,k < 256 -> V 17 [prT.vv,(D k).vv,.agg [.p (.int .i64 0),.p (.int .i64 (1 + (k : Int) % 2)),.p (.int .i64 k),.p (.int .i64 n),.p (.bool false),.p (.int .i64 0)]] [] = some (.tup [dvF (D (k + 1)) (.p (chsP (D (k + 1)).v)),.p (.int .i64 0)],[]):=fun k hk=>by
  rw [hD,hD]
  exact hsub k hk
 rw [<- hD 256] at hfull htick
 clear hsub
 have c2' : V 34 [prT.vv,(newD mdZ 1000000 1073741824).vv,.p (.int .i64 2),sgL.vv 0] [] = some (.tup [dvF (D 0) (.p (chsP (D 0).v)),.p (.int .i64 0)],[]):=by
  rw [hD]
  exact c2
 clear c2
 simp only [Tr.vv,Tr.fv,nodesP,lpc,lpn,Nd.pv] at c0
 simp only [prT,newD,sgL,Tr.vv,Dv.vv,cfgV,Sg.vv,chsP,cpsP,dpsP,rqsP,flsP,nodesP,lpc,lpn,Nd.pv,dvF] at c2'
 simp -implicitDefEqProofs (disch:=omega) only [vf7,vb7,c0,hro,hnx,<- hnv,c1,c2',go_sem,↓reduceIte,rAz,rS,rE,rL,reduceCtorEq]
 obtain ⟨I,hI⟩ : ∃ I : Nat -> St -> Prop,∀ k s,I k s ↔ s.pe 0 = .p (.int .i64 n) /\ s.pe 3 = .ptr (.slot 3 0) 0 0 /\ s.pe 4 = .ptr (.slot 4 0) 0 0 /\ s.pe 5 = .p (.int .i64 0) /\ s.pe 6 = .p (.int .i64 0) /\ s.pe 7 = .p (.int .i64 k) /\ s.h (.slot 3 0) = some (0,Ob.box [.p (nodesP prT.nodes),.p (.int .i64 prT.next)]) /\ ∃ X,s.h (.slot 4 0) = some (0,Ob.box X) /\ X.map (fz0 [8,32,48] s.h) = dvC (D k):=⟨_,fun _ _=>Iff.rfl⟩
 refine wp_count (256) I ?_ ?_
 ·refine (hI _ _).2 ⟨?_,?_,?_,?_,?_,?_,?_,?_⟩
  all_goals first | exact cl0 | (simp -implicitDefEqProofs (disch:=omega) only [lma,go_sem,↓reduceIte,rAz,rS,rE,rL,reduceCtorEq] <;> first | (simp [mBox]; done) | (simp [mBox]; omega)) | (simp -implicitDefEqProofs (disch:=omega) only [lma,go_sem,↓reduceIte,rAz,rS,rE,rL,reduceCtorEq] <;> (refine ⟨_,rfl,?_⟩; first | rfl | (simp -implicitDefEqProofs (disch:=omega) only [lma,go_sem,↓reduceIte,rAz,rS,rE,rL,reduceCtorEq]; done) | (simp -implicitDefEqProofs (disch:=omega) only [lma,go_sem,↓reduceIte,rAz,rS,rE,rL,reduceCtorEq]; rfl)))
 intro k s hk hIk
 obtain ⟨h0,h3,h4,h5,h6,h7,hh3_0,hX⟩:=(hI _ _).1 hIk
 clear hIk
 clear c0 c1 c2' okN hS hro hnx hD
 obtain ⟨T,hT⟩ : ∃ T,T = prT:=⟨_,rfl⟩
 rw [<- hT] at hh3_0 hfull htick
 simp only [<- hT] at hsub'
 obtain ⟨X,hX⟩:=hX
 simp -implicitDefEqProofs (disch:=omega) only [h0,h3,h4,h5,h6,h7,hh3_0,hX,go_sem,↓reduceIte,rAz,rS,rE,rL,reduceCtorEq]
 refine wp_if_d (fun hlt=>?_) (fun hge=>?_)
 ·have hk256 : k < 256:=by omega
  have e1:=hsub' k hk256
  have hrem : (k : Int).tmod 2 = (k : Int) % 2:=Int.tmod_eq_emod_of_nonneg (by omega)
  generalize hz : D (k + 1) = z1 at e1
  simp -implicitDefEqProofs (disch:=omega) only [h0,h3,h4,h5,h6,h7,hh3_0,hX,hlt,hrem,e1,go_sem,↓reduceIte,rAz,rS,rE,rL,reduceCtorEq]
  try refine And.intro (by omega) ?_
  refine (hI _ _).2 ⟨?_,?_,?_,?_,?_,?_,?_,?_⟩
  all_goals first | exact cl0 | (simp -implicitDefEqProofs (disch:=omega) only [h0,h3,h4,h5,h6,h7,hh3_0,hX,hz,lma,go_sem,↓reduceIte,rAz,rS,rE,rL,reduceCtorEq] <;> first | (simp [mBox]; done) | (simp [mBox]; omega)) | (simp -implicitDefEqProofs (disch:=omega) only [h0,h3,h4,h5,h6,h7,hh3_0,hX,hz,lma,go_sem,↓reduceIte,rAz,rS,rE,rL,reduceCtorEq] <;> (refine ⟨_,rfl,?_⟩; first | rfl | (simp -implicitDefEqProofs (disch:=omega) only [h0,h3,h4,h5,h6,h7,hh3_0,hX,hz,lma,go_sem,↓reduceIte,rAz,rS,rE,rL,reduceCtorEq]; done) | (simp -implicitDefEqProofs (disch:=omega) only [h0,h3,h4,h5,h6,h7,hh3_0,hX,hz,lma,go_sem,↓reduceIte,rAz,rS,rE,rL,reduceCtorEq]; rfl)))
 ·have hk : k = 256:=by omega
  subst hk
  have hzl : z.flights.length <= 256:=by omega
  have hcle : cntF2 z.flights <= 128:=by have:=hLim.cnt; omega
  have hq4 : (4096 : Int).tdiv n = 4096 / n:=Int.tdiv_eq_ediv_of_nonneg (by omega)
  have hn0 : ¬ n = 0:=by omega
  have hdv : 0 <= 4096 / n /\ 4096 / n <= 4096:=⟨Int.ediv_nonneg (by omega) (by omega),Int.ediv_le_self _ (by omega)⟩
  simp -implicitDefEqProofs (disch:=omega) only [h0,h3,h4,h5,h6,h7,hh3_0,hX,hge,hfull,htick,go_sem,↓reduceIte,rAz,rS,rE,rL,reduceCtorEq]
  obtain ⟨J,hJ⟩ : ∃ I : Nat -> St -> Prop,∀ j s,I j s ↔ ∃ (v12_0 : Nat) (v64_11 : Nat) (v64_12 : Nat) (v64_13 : Nat) (v64_15 : Nat) (v64_16 : Nat),s.pe 0 = .p (.int .i64 n) /\ s.pe 5 = .p (.int .i64 0) /\ s.pe 6 = .p (.int .i64 0) /\ s.pe 11 = .p (.int .i64 7) /\ s.pe 12 = .ptr (.slot 12 0) v12_0 0 /\ s.pe 14 = .p (.int .i64 0) /\ s.pe 15 = .p (.int .i64 (cntF2 (z.flights.take j) : Nat)) /\ s.pe 16 = .p (.int .i64 j) /\ s.h (.slot 12 0) = some (v12_0,Ob.box [.p (.int .i64 z.m.rb),.p (.int .i64 z.m.rp),.p (.int .i64 z.m.wb),.p (.int .i64 z.m.wp),.p (.int .i64 z.m.seek),.p (.int .i64 z.speed),.p (.int .i64 z.margin),.p (.int .i64 z.now),.p (.int .i64 z.free),.p (.int .i64 z.head),.own (.slot 64 11) v64_11 0 z.weights.length,.own (.slot 64 12) v64_12 0 z.buckets.length,.own (.slot 64 13) v64_13 0 z.depths.length,.p (chsP z.v),.own (.slot 64 15) v64_15 0 z.queue.length,.own (.slot 64 16) v64_16 0 z.flights.length]) /\ s.h (.slot 64 11) = some (v64_11,Ob.arr 2 (List.map Ch.pv z.weights)) /\ s.h (.slot 64 12) = some (v64_12,Ob.arr 21 (List.map Cp.pv z.buckets)) /\ s.h (.slot 64 13) = some (v64_13,Ob.arr 3 (List.map Dp.pv z.depths)) /\ s.h (.slot 64 15) = some (v64_15,Ob.arr 6 (List.map Rq.pv z.queue)) /\ s.h (.slot 64 16) = some (v64_16,Ob.arr 7 (List.map Fl.pv z.flights)):=⟨_,fun _ _=>Iff.rfl⟩
  refine wp_count (z.flights.length) J ?_ ?_
  ·refine (hJ _ _).2 ⟨nv (fzOb [8,32,48] s.h (.slot 12 0)),nv (fzOb [8,32,48] s.h (.slot 64 11)),nv (fzOb [8,32,48] s.h (.slot 64 12)),nv (fzOb [8,32,48] s.h (.slot 64 13)),nv (fzOb [8,32,48] s.h (.slot 64 15)),nv (fzOb [8,32,48] s.h (.slot 64 16)),?_,?_,?_,?_,?_,?_,?_,?_,?_,?_,?_,?_,?_,?_⟩
   all_goals first | exact cl0 | (simp -implicitDefEqProofs (disch:=omega) only [h0,h3,h4,h5,h6,h7,hh3_0,hX,lma,go_sem,↓reduceIte,rAz,rS,rE,rL,reduceCtorEq] <;> first | (simp [mBox]; done) | (simp [mBox]; omega))
  intro j s hj hJk
  obtain ⟨v12_0,v64_11,v64_12,v64_13,v64_15,v64_16,h0,h5,h6,h11,h12,h14,h15,h16,hh12_0,hh64_11,hh64_12,hh64_13,hh64_15,hh64_16⟩:=(hJ _ _).1 hJk
  clear hJk
  simp -implicitDefEqProofs (disch:=omega) only [h0,h5,h6,h11,h12,h14,h15,h16,hh12_0,hh64_11,hh64_12,hh64_13,hh64_15,hh64_16,go_sem,↓reduceIte,rAz,rS,rE,rL,reduceCtorEq]
  refine wp_if_d (fun hjl=>?_) (fun hjg=>?_)
  ·have hm : z.flights[j]? = some z.flights[j]:=lgg hjl
   have hst:=cntF2_take hm
   have hle : cntF2 (z.flights.take j) <= 256:=by have:=cntF2_le (z.flights.take j); rw [llt] at this; omega
   generalize z.flights[j] = f at hm hst
   generalize cntF2 (z.flights.take j) = c at h15 hst hle
   by_cases hg : f.r.group = 2
   ·rw [if_pos hg] at hst
    have hg':=decide_eq_true hg
    simp -implicitDefEqProofs (disch:=omega) only [h0,h5,h6,h11,h12,h14,h15,h16,hh12_0,hh64_11,hh64_12,hh64_13,hh64_15,hh64_16,hjl,hm,hg',go_sem,↓reduceIte,rAz,rS,rE,rL,reduceCtorEq]
    try refine And.intro (by omega) ?_
    refine (hJ _ _).2 ⟨v12_0,v64_11,v64_12,v64_13,v64_15,v64_16,?_,?_,?_,?_,?_,?_,?_,?_,?_,?_,?_,?_,?_,?_⟩
    all_goals first | exact cl0 | (simp -implicitDefEqProofs (disch:=omega) only [h0,h5,h6,h11,h12,h14,h15,h16,hh12_0,hh64_11,hh64_12,hh64_13,hh64_15,hh64_16,hst,lma,go_sem,↓reduceIte,rAz,rS,rE,rL,reduceCtorEq] <;> first | (simp [mBox]; done) | (simp [mBox]; omega))
   ·rw [if_neg hg] at hst
    simp -implicitDefEqProofs (disch:=omega) only [h0,h5,h6,h11,h12,h14,h15,h16,hh12_0,hh64_11,hh64_12,hh64_13,hh64_15,hh64_16,hjl,hm,hg,go_sem,↓reduceIte,rAz,rS,rE,rL,reduceCtorEq]
    try refine And.intro (by omega) ?_
    refine (hJ _ _).2 ⟨v12_0,v64_11,v64_12,v64_13,v64_15,v64_16,?_,?_,?_,?_,?_,?_,?_,?_,?_,?_,?_,?_,?_,?_⟩
    all_goals first | exact cl0 | (simp -implicitDefEqProofs (disch:=omega) only [h0,h5,h6,h11,h12,h14,h15,h16,hh12_0,hh64_11,hh64_12,hh64_13,hh64_15,hh64_16,hst,lma,go_sem,↓reduceIte,rAz,rS,rE,rL,reduceCtorEq] <;> first | (simp [mBox]; done) | (simp [mBox]; omega))
  ·rw [ltl (by omega)] at h15
   have l1 : decide ((0 : Int) = 0) = true:=rfl
   have l2 : decide ((7 : Int) = 7) = true:=rfl
   have h16' : decide ((z.queue.length : Int) + z.flights.length = 256) = true:=decide_eq_true (by omega)
   have hc' : decide ((cntF2 z.flights : Int) = min (4096 / n) 128) = true:=decide_eq_true hcnt
   simp -implicitDefEqProofs (disch:=omega) only [h0,h5,h6,h11,h12,h14,h15,h16,hh12_0,hh64_11,hh64_12,hh64_13,hh64_15,hh64_16,hjg,hq4,hn0,l1,l2,h16',hc',sane34_eq,go_sem,↓reduceIte,rAz,rS,rE,rL,reduceCtorEq]
def inSub (t : Tr) (top : Int) (r : Rq) : Bool:=decide (top ∈ ancF t.nodes t.nodes.length r.group)
def qPag (t : Tr) (top : Int) (w : Bool) : List Rq -> Int
 | []=>0
 | r :: q=>(if r.write = w /\ inSub t top r = true then r.pages else 0) + qPag t top w q
def qNum (t : Tr) (top : Int) (w : Bool) : List Rq -> Int
 | []=>0
 | r :: q=>(if r.write = w /\ inSub t top r = true then 1 else 0) + qNum t top w q
theorem qPag_rem (t : Tr) (top : Int) (w : Bool) {g : Int} : ∀ {q : List Rq} {r : Rq},firstQ q g = some r -> qPag t top w q = qPag t top w (remQ q g) + if r.write = w /\ inSub t top r = true then r.pages else 0
 | [],_,h=>by cases h
 | x :: q,r,h=>by
  unfold firstQ at h
  unfold remQ
  by_cases hx : x.group = g
  ·rw [if_pos hx] at h ⊢
   cases h
   rw [qPag]
   omega
  ·rw [if_neg hx] at h ⊢
   have:=qPag_rem t top w h
   rw [qPag,qPag]
   omega
theorem qNum_rem (t : Tr) (top : Int) (w : Bool) {g : Int} : ∀ {q : List Rq} {r : Rq},firstQ q g = some r -> qNum t top w q = qNum t top w (remQ q g) + if r.write = w /\ inSub t top r = true then 1 else 0
 | [],_,h=>by cases h
 | x :: q,r,h=>by
  unfold firstQ at h
  unfold remQ
  by_cases hx : x.group = g
  ·rw [if_pos hx] at h ⊢
   cases h
   rw [qNum]
   omega
  ·rw [if_neg hx] at h ⊢
   have:=qNum_rem t top w h
   rw [qNum,qNum]
   omega
theorem qPag_range (t : Tr) (top : Int) (w : Bool) : ∀ {q : List Rq},(∀ r ∈ q,soundR r = true) -> 0 <= qPag t top w q /\ qPag t top w q <= 4096 * q.length
 | [],_=>by simp [qPag]
 | r :: q,h=>by
  have ih:=qPag_range t top w (q:=q) fun x hx=>h x (lmc _ hx)
  have h1:=soundR_iff.1 (h r (lms ..))
  rw [qPag,llc,Int.natCast_add,Int.natCast_one]
  split <;> omega
theorem qNum_range (t : Tr) (top : Int) (w : Bool) : ∀ (q : List Rq),0 <= qNum t top w q /\ qNum t top w q <= q.length
 | []=>by simp [qNum]
 | r :: q=>by
  have ih:=qNum_range t top w q
  rw [qNum,llc,Int.natCast_add,Int.natCast_one]
  split <;> omega
structure LeB (b' b : Bk) : Prop where
 rate : b'.rate = b.rate
 per : b'.per = b.per
 burst : b'.burst = b.burst
 level : b'.level <= b.level
theorem LeB.refl (b : Bk) : LeB b b:=⟨rfl,rfl,rfl,Int.le_refl _⟩
theorem LeB.trans {a b c : Bk} (h : LeB a b) (h' : LeB b c) : LeB a c:=⟨h.rate.trans h'.rate,h.per.trans h'.per,h.burst.trans h'.burst,Int.le_trans h.level h'.level⟩
theorem takB_le {b : Bk} {n : Int} (hn : 0 <= n) (hp : 0 <= b.per) : LeB (takB b n) b:=by
 unfold takB
 split
 ·exact LeB.refl b
 ·split
  ·exact LeB.refl b
  ·refine ⟨rfl,rfl,rfl,?_⟩
   have:=Int.mul_nonneg hn hp
   simp only
   omega
theorem takB_tok {b : Bk} {n : Int} (hr : b.rate ≠ maxR) (ht : n <= tokB b) : (takB b n).level = b.level - n * b.per:=by
 unfold tokB at ht
 rw [if_neg hr] at ht
 unfold takB
 rw [if_neg hr,if_neg (by omega)]
def Per (c : Cp) : Prop:=∀ w,(kpB c w).per = 100 /\ (koB c w).per = 100
def LeC (c' c : Cp) : Prop:=c'.group = c.group /\ ∀ w,LeB (kpB c' w) (kpB c w) /\ LeB (koB c' w) (koB c w)
theorem LeC.refl (c : Cp) : LeC c c:=⟨rfl,fun _=>⟨LeB.refl _,LeB.refl _⟩⟩
theorem LeC.trans {a b c : Cp} (h : LeC a b) (h' : LeC b c) : LeC a c:=⟨h.1.trans h'.1,fun w=>⟨(h.2 w).1.trans (h'.2 w).1,(h.2 w).2.trans (h'.2 w).2⟩⟩
theorem LeC.per {c' c : Cp} (h : LeC c' c) (hp : Per c) : Per c':=fun w=>⟨(h.2 w).1.per.trans (hp w).1,(h.2 w).2.per.trans (hp w).2⟩
theorem spendC_le {c : Cp} {r : Rq} (hp : Per c) (hr : 0 <= r.pages) : LeC (spendC c r) c:=by
 have h0:=hp false
 have h1:=hp true
 simp only [kpB,koB,if_true,bft,if_false] at h0 h1
 refine ⟨spend_group c r,fun w=>?_⟩
 unfold spendC
 cases r.write <;> cases w <;> simp only [kpB,koB,if_true,bft,if_false] <;> first | exact ⟨LeB.refl _,LeB.refl _⟩ | exact ⟨takB_le hr (by omega),takB_le (by omega) (by omega)⟩
theorem spendC_tok {c : Cp} {r : Rq} (hp : Per c) (h1 : r.pages <= tokB (kpB c r.write)) (h2 : 1 <= tokB (koB c r.write)) : ((kpB c r.write).rate ≠ maxR -> (kpB (spendC c r) r.write).level = (kpB c r.write).level - 100 * r.pages) /\ ((koB c r.write).rate ≠ maxR -> (koB (spendC c r) r.write).level = (koB c r.write).level - 100):=by
 have hq:=hp r.write
 unfold spendC
 cases hw : r.write <;> rw [hw] at h1 h2 hq <;> simp only [kpB,koB,if_true,bft,if_false] at h1 h2 hq ⊢ <;> refine ⟨fun e=>?_,fun e=>?_⟩ <;> first | (rw [takB_tok e h1,hq.1]; omega) | (rw [takB_tok e h2,hq.2]; omega)
theorem fold_cap {r : Rq} (hr : 0 <= r.pages) : ∀ (A : List Int) (c : Cp),Per c -> ∃ c',A.foldl (fun l g=>setC l g fun c=>spendC c r) [c] = [c'] /\ LeC c' c /\
  (c.group ∈ A -> r.pages <= tokB (kpB c r.write) -> 1 <= tokB (koB c r.write) -> ((kpB c r.write).rate ≠ maxR -> (kpB c' r.write).level <= (kpB c r.write).level - 100 * r.pages) /\ ((koB c r.write).rate ≠ maxR -> (koB c' r.write).level <= (koB c r.write).level - 100))
 | [],c,_=>⟨c,rfl,LeC.refl c,fun h=>by cases h⟩
 | g :: A,c,hp=>by
  rw [List.foldl_cons]
  by_cases hg : c.group = g
  ·have e : setC [c] g (fun c=>spendC c r) = [spendC c r]:=by rw [setC,if_pos hg]
   rw [e]
   have hl:=spendC_le hp hr
   obtain ⟨c',e1,e2,_⟩:=fold_cap hr A (spendC c r) (hl.per hp)
   refine ⟨c',e1,e2.trans hl,fun _ h1 h2=>?_⟩
   obtain ⟨k1,k2⟩:=spendC_tok hp h1 h2
   have l1:=(e2.2 r.write).1.level
   have l2:=(e2.2 r.write).2.level
   exact ⟨fun e=>by rw [k1 e] at l1; exact l1,fun e=>by rw [k2 e] at l2; exact l2⟩
  ·have e : setC [c] g (fun c=>spendC c r) = [c]:=by rw [setC,if_neg hg]; rfl
   rw [e]
   obtain ⟨c',e1,e2,e3⟩:=fold_cap hr A c hp
   exact ⟨c',e1,e2,fun hm=>e3 ((lmk.1 hm).resolve_left hg)⟩
structure TickC (t : Tr) (top : Int) (a : List Rq) (c0 : Cp) (y : Dv) (c : Cp) : Prop where
 ok : DvOk t y
 bk : y.buckets = [c]
 le : LeC c c0
 p : ∀ w,(kpB c0 w).rate ≠ maxR -> (kpB c w).level + 100 * (qPag t top w a - qPag t top w y.queue) <= (kpB c0 w).level
 o : ∀ w,(koB c0 w).rate ≠ maxR -> (koB c w).level + 100 * (qNum t top w a - qNum t top w y.queue) <= (koB c0 w).level
theorem per_ok {t : Tr} {y : Dv} {c : Cp} (h : DvOk t y) (hb : y.buckets = [c]) : Per c:=by
 have:=((ascB_iff.1 h.bk).1 c (by rw [hb]; exact lms ..)).2
 obtain ⟨h1,h2,h3,h4⟩:=capsB_iff.1 this
 intro w
 cases w
 .exact ⟨(soundB_iff.1 h1).2.1,(soundB_iff.1 h3).2.1⟩
 .exact ⟨(soundB_iff.1 h2).2.1,(soundB_iff.1 h4).2.1⟩
theorem tickC_step {t : Tr} {top : Int} {a : List Rq} {c0 : Cp} (hg0 : c0.group = top) {y : Dv} {c : Cp} (h : TickC t top a c0 y c) {g : Int} {r : Rq} {v : List Ch} (st : StepD t y g r v) : ∃ c',TickC t top a c0 (beginD t y g r v) c':=by
 obtain ⟨hm,hg⟩:=firstQ_mem st.first
 have hs:=soundR_iff.1 (h.ok.q r hm).1
 have hpass : passD t y r = true:=by
  have h0:=st.pos
  rw [st.next] at h0
  obtain ⟨r',h1,h2⟩:=next_first h0
  rw [<- st.next,st.first] at h1
  cases h1
  exact h2
 have hper:=per_ok h.ok h.bk
 obtain ⟨c',e1,e2,e3⟩:=fold_cap (r:=r) (by omega) (ancF t.nodes t.nodes.length r.group) c hper
 have hgt : c.group = top:=h.le.1.trans hg0
 have hin : inSub t top r = true -> r.pages <= tokB (kpB c r.write) /\ 1 <= tokB (koB c r.write):=fun hi=>by
  unfold passD at hpass
  simp only [bat,List.all_eq_true] at hpass
  have hroom:=hpass.2 top (of_decide_eq_true hi)
  unfold roomC at hroom
  rw [h.bk,capOf,if_pos hgt] at hroom
  simpa using hroom
 refine ⟨c',step_ok h.ok st,?_,e2.trans h.le,fun w hw=>?_,fun w hw=>?_⟩
 ·show spendD t y.buckets r = [c']
  rw [h.bk]
  exact e1
 ·have hq:=qPag_rem t top w st.first
  have hp:=h.p w hw
  have hl:=(e2.2 w).1.level
  show (kpB c' w).level + 100 * (qPag t top w a - qPag t top w (remQ y.queue g)) <= _
  by_cases hc : r.write = w /\ inSub t top r = true
  ·obtain ⟨rfl,hi⟩:=hc
   rw [if_pos ⟨rfl,hi⟩] at hq
   obtain ⟨t1,t2⟩:=hin hi
   have:=(e3 (by rw [hgt]; exact of_decide_eq_true hi) t1 t2).1 (by rw [(h.le.2 r.write).1.rate]; exact hw)
   omega
  ·rw [if_neg hc] at hq
   omega
 ·have hq:=qNum_rem t top w st.first
  have hp:=h.o w hw
  have hl:=(e2.2 w).2.level
  show (koB c' w).level + 100 * (qNum t top w a - qNum t top w (remQ y.queue g)) <= _
  by_cases hc : r.write = w /\ inSub t top r = true
  ·obtain ⟨rfl,hi⟩:=hc
   rw [if_pos ⟨rfl,hi⟩] at hq
   obtain ⟨t1,t2⟩:=hin hi
   have:=(e3 (by rw [hgt]; exact of_decide_eq_true hi) t1 t2).2 (by rw [(h.le.2 r.write).2.rate]; exact hw)
   omega
  ·rw [if_neg hc] at hq
   omega
theorem adv_le {b : Bk} {now : Int} (h : soundB now b = true) (hr : b.rate ≠ maxR) : (advB b (now + 1)).rate = b.rate /\ (advB b (now + 1)).burst = b.burst /\ (advB b (now + 1)).level <= b.level + b.rate:=by
 have hn:=(soundB_iff.1 h).2.2
 unfold advB
 rw [if_neg hr]
 refine ⟨rfl,rfl,?_⟩
 have e : now + 1 - b.now = 1:=by omega
 simp only
 rw [e,Int.mul_one]
 omega
def rateP (s : Sg) (w : Bool) : Int:=if w then s.wp else s.rp
def rateO (s : Sg) (w : Bool) : Int:=if w then s.wo else s.ro
structure CapI (s : Sg) (top : Int) (i : Int) (x : Dv) (P O : Bool -> Int) (c : Cp) : Prop where
 bk : x.buckets = [c]
 g : c.group = top
 rp : ∀ w,(kpB c w).rate = rateP s w
 ro : ∀ w,(koB c w).rate = rateO s w
 p : ∀ w,rateP s w ≠ maxR -> (kpB c w).level + 100 * P w <= 100 * max (rateP s w) 4096 + rateP s w * i
 o : ∀ w,rateO s w ≠ maxR -> (koB c w).level + 100 * O w <= 100 * max (rateO s w) 1 + rateO s w * i
theorem capI_tick {t : Tr} {s : Sg} {top i : Int} {x : Dv} {P O : Bool -> Int} {c : Cp} (hx : DvOk t x) (hn : x.now < 1048576) (h : CapI s top i x P O c) :
  ∃ c',CapI s top (i + 1) (tickD t x) (fun w=>P w + qPag t top w x.queue - qPag t top w (tickD t x).queue) (fun w=>O w + qNum t top w x.queue - qNum t top w (tickD t x).queue) c':=by
 have hcs:=((ascB_iff.1 hx.bk).1 c (by rw [h.bk]; exact lms ..)).2
 obtain ⟨s1,s2,s3,s4⟩:=capsB_iff.1 hcs
 have hsp : ∀ w,soundB x.now (kpB c w) = true:=fun w=>by cases w; exact s1; exact s2
 have hso : ∀ w,soundB x.now (koB c w) = true:=fun w=>by cases w; exact s3; exact s4
 have hkp : ∀ w,kpB (advC (x.now + 1) c) w = advB (kpB c w) (x.now + 1):=fun w=>by cases w <;> rfl
 have hko : ∀ w,koB (advC (x.now + 1) c) w = advB (koB c w) (x.now + 1):=fun w=>by cases w <;> rfl
 have hrt : ∀ b : Bk,(advB b (x.now + 1)).rate = b.rate:=fun b=>by unfold advB; split <;> rfl
 have h0 : TickC t top x.queue (advC (x.now + 1) c) (advD x) (advC (x.now + 1) c):={
  ok:=advD_ok hx hn
  bk:=by show x.buckets.map (advC (x.now + 1)) = _; rw [h.bk]; rfl
  le:=LeC.refl _
  p:=fun w _=>by show _ + 100 * (qPag t top w x.queue - qPag t top w x.queue) <= _; omega
  o:=fun w _=>by show _ + 100 * (qNum t top w x.queue - qNum t top w x.queue) <= _; omega }
 obtain ⟨c',h1⟩:=loopD_ind (t:=t) (P:=fun y=>∃ c',TickC t top x.queue (advC (x.now + 1) c) y c') (fun y g r v ⟨c',hc⟩ st=>tickC_step (c0:=advC (x.now + 1) c) h.g hc st) (x.queue.length + 1) (advD x) ⟨_,h0⟩
 refine ⟨c',h1.bk,h1.le.1.trans h.g,fun w=>?_,fun w=>?_,fun w hw=>?_,fun w hw=>?_⟩
 ·rw [(h1.le.2 w).1.rate,hkp,hrt]; exact h.rp w
 ·rw [(h1.le.2 w).2.rate,hko,hrt]; exact h.ro w
 ·have hr : (kpB c w).rate ≠ maxR:=by rw [h.rp]; exact hw
  have k1:=h1.p w (by rw [hkp,hrt]; exact hr)
  obtain ⟨_,_,k2⟩:=adv_le (hsp w) hr
  have k3:=h.p w hw
  rw [hkp] at k1
  rw [h.rp] at k2
  rw [Int.mul_add,Int.mul_one]
  show (kpB c' w).level + 100 * (P w + qPag t top w x.queue - qPag t top w (loopD t (x.queue.length + 1) (advD x)).queue) <= _
  omega
 ·have hr : (koB c w).rate ≠ maxR:=by rw [h.ro]; exact hw
  have k1:=h1.o w (by rw [hko,hrt]; exact hr)
  obtain ⟨_,_,k2⟩:=adv_le (hso w) hr
  have k3:=h.o w hw
  rw [hko] at k1
  rw [h.ro] at k2
  rw [Int.mul_add,Int.mul_one]
  show (koB c' w).level + 100 * (O w + qNum t top w x.queue - qNum t top w (loopD t (x.queue.length + 1) (advD x)).queue) <= _
  omega
theorem cap_within {n rate m i lv : Int} (h0 : 0 <= lv) (h : lv + 100 * n <= 100 * m + rate * i) : n <= rate * i / 100 + m:=by
 omega
theorem qPag_snoc (t : Tr) (top : Int) (w : Bool) (r : Rq) : ∀ q : List Rq,qPag t top w (q ++ [r]) = qPag t top w q + if r.write = w /\ inSub t top r = true then r.pages else 0
 | []=>by simp [qPag]
 | x :: q=>by
  rw [lca,qPag,qPag,qPag_snoc t top w r q]
  omega
theorem qNum_snoc (t : Tr) (top : Int) (w : Bool) (r : Rq) : ∀ q : List Rq,qNum t top w (q ++ [r]) = qNum t top w q + if r.write = w /\ inSub t top r = true then 1 else 0
 | []=>by simp [qNum]
 | x :: q=>by
  rw [lca,qNum,qNum,qNum_snoc t top w r q]
  omega
set_option maxHeartbeats 2000000 in
theorem queued_eq {t : Tr} {x : Dv} (h : DvOk t x) (hs : x.Small) (top : Int) (w : Bool) : V 36 [t.vv,x.vv,.p (.int .i64 top),.p (.bool w)] [] = some (.tup [.p (.int .i64 (qPag t top w x.queue)),.p (.int .i64 (qNum t top w x.queue))],[]):=by
 refine V_wp (vf:=vf36) rfl ?_
 have hql:=h.len
 have hlen:=h.tree.len
 simp -implicitDefEqProofs (disch:=omega) only [vf36,vb36,go_sem,↓reduceIte,rAz,rS,rE,rL,reduceCtorEq]
 obtain ⟨I,hI⟩ : ∃ I : Nat -> St -> Prop,∀ k s,I k s ↔ s.pe 2 = .p (.int .i64 top) /\ s.pe 3 = .p (.bool w) /\ s.pe 4 = .ptr (.slot 4 0) 0 0 /\ s.pe 5 = .ptr (.slot 5 0) 0 0 /\ s.pe 10 = .p (.int .i64 (qPag t top w (x.queue.take k))) /\ s.pe 11 = .p (.int .i64 (qNum t top w (x.queue.take k))) /\ s.pe 12 = .p (.int .i64 k) /\ s.h (.slot 4 0) = some (0,Ob.box [.p (nodesP t.nodes),.p (.int .i64 t.next)]) /\ s.h (.slot 5 0) = some (0,Ob.box [.p (.int .i64 x.m.rb),.p (.int .i64 x.m.rp),.p (.int .i64 x.m.wb),.p (.int .i64 x.m.wp),.p (.int .i64 x.m.seek),.p (.int .i64 x.speed),.p (.int .i64 x.margin),.p (.int .i64 x.now),.p (.int .i64 x.free),.p (.int .i64 x.head),.p (chsP x.weights),.p (cpsP x.buckets),.p (dpsP x.depths),.p (chsP x.v),.p (rqsP x.queue),.p (flsP x.flights)]):=⟨_,fun _ _=>Iff.rfl⟩
 refine wp_count (x.queue.length) I ?_ ?_
 ·refine (hI _ _).2 ⟨?_,?_,?_,?_,?_,?_,?_,?_,?_⟩
  all_goals first | exact cl0 | (simp -implicitDefEqProofs (disch:=omega) only [lma,go_sem,↓reduceIte,rAz,rS,rE,rL,reduceCtorEq] <;> first | (simp [mBox]; done) | (simp [mBox]; omega))
 intro k s hk hIk
 obtain ⟨h2,h3,h4,h5,h10,h11,h12,hh4_0,hh5_0⟩:=(hI _ _).1 hIk
 clear hIk
 simp -implicitDefEqProofs (disch:=omega) only [h2,h3,h4,h5,h10,h11,h12,hh4_0,hh5_0,go_sem,↓reduceIte,rAz,rS,rE,rL,reduceCtorEq]
 refine wp_if_d (fun hlt=>?_) (fun hge=>?_)
 ·have hm : x.queue[k]? = some x.queue[k]:=lgg hlt
  have htk:=take_snoc hm
  have hrm:=h.q x.queue[k] (lmg hm)
  generalize x.queue[k] = r at hm htk hrm
  obtain ⟨nd,hnd,hid⟩:=findN_some hrm.2
  obtain ⟨ni,hni⟩:=lgm hnd
  have c1:=ranc_eq t r.group (by omega)
  have hanc : ancR t r.group = ancF t.nodes t.nodes.length r.group:=by rw [<- hid]; exact ancR_anc h.tree hni
  rw [hanc] at c1
  have hal:=ancF_length t.nodes t.nodes.length r.group
  have c2:=has3_eq (ancF t.nodes t.nodes.length r.group) top (by omega)
  have hin : decide (top ∈ ancF t.nodes t.nodes.length r.group) = inSub t top r:=rfl
  rw [hin] at c2
  have p1:=qPag_snoc t top w r (x.queue.take k)
  have p2:=qNum_snoc t top w r (x.queue.take k)
  rw [<- htk] at p1 p2
  have b1:=qPag_range t top w (q:=x.queue.take k) fun y hy=>(h.q y (List.mem_of_mem_take hy)).1
  have b2:=qNum_range t top w (x.queue.take k)
  have b3:=soundR_iff.1 hrm.1
  have b4 : (x.queue.take k).length <= 256:=by rw [llt]; omega
  generalize ancF t.nodes t.nodes.length r.group = A at c1 c2 hal
  generalize inSub t top r = b at c2 p1 p2
  generalize qPag t top w (x.queue.take k) = p at h10 p1 b1
  generalize qNum t top w (x.queue.take k) = q at h11 p2 b2
  cases hw : r.write <;> cases w <;> cases b <;> simp only [hw,bft,Bool.true_eq_false,reduceCtorEq,and_self,and_true,and_false,true_and,false_and,if_true,if_false,Int.add_zero] at p1 p2
  all_goals
   simp -implicitDefEqProofs (disch:=omega) only [h2,h3,h4,h5,h10,h11,h12,hh4_0,hh5_0,hlt,hm,hw,c1,c2,go_sem,↓reduceIte,rAz,rS,rE,rL,reduceCtorEq]
   try refine And.intro (by omega) ?_
   refine (hI _ _).2 ⟨?_,?_,?_,?_,?_,?_,?_,?_,?_⟩
   all_goals first | exact cl0 | (simp -implicitDefEqProofs (disch:=omega) only [h2,h3,h4,h5,h10,h11,h12,hh4_0,hh5_0,p1,p2,lma,go_sem,↓reduceIte,rAz,rS,rE,rL,reduceCtorEq] <;> first | (simp [mBox]; done) | (simp [mBox]; omega))
 ·rw [ltl (by omega)] at h10 h11
  simp -implicitDefEqProofs (disch:=omega) only [h2,h3,h4,h5,h10,h11,h12,hh4_0,hh5_0,hge,go_sem,↓reduceIte,rAz,rS,rE,rL,reduceCtorEq]
theorem within_true (n rate least i : Int) (h : rate = maxR \/ ((1 <= rate /\ rate <= 1073741824) /\ n <= rate * i / 100 + max rate least)) (hi : 0 <= i /\ i <= 40) (hl : 0 <= least /\ least <= 4096) : V 37 [.p (.int .i64 n),.p (.int .i64 rate),.p (.int .i64 least),.p (.int .i64 i)] [] = some (.p (.bool true),[]):=by
 refine V_wp (vf:=vf37) rfl ?_
 rcases h with h | ⟨⟨h1,h2⟩,h3⟩
 ·have h' : decide (rate = 4611686018427387904) = true:=decide_eq_true h
  simp -implicitDefEqProofs (disch:=omega) only [vf37,vb37,h',go_sem,↓reduceIte,rAz,rS,rE,rL,reduceCtorEq]
 ·have hmx : maxR = 4611686018427387904:=rfl
  have hne : ¬ rate = maxR:=by omega
  have hm:=mul_range (show 0 <= rate by omega) h2 hi.1 hi.2
  have hq : (rate * i).tdiv 100 = rate * i / 100:=Int.tdiv_eq_ediv_of_nonneg hm.1
  have hq0 : 0 <= rate * i / 100:=Int.ediv_nonneg hm.1 (by omega)
  have hq1 : rate * i / 100 <= rate * i:=Int.ediv_le_self _ hm.1
  simp -implicitDefEqProofs (disch:=omega) only [vf37,vb37,hne,hq,h3,go_sem,↓reduceIte,rAz,rS,rE,rL,reduceCtorEq]
theorem dset_eq (L : List Int) (a : Nat) (hL : L.length < 4611686018427387904) : ∃ (s : Sg) (b : Nat),V 35 [.ptr (.arg 0 0) 0 0,.p (.int .i64 0)] [diceB L a] = some (s.vv 0,[diceB L b]) /\ SgOk s:=by
 have c1:=weight_eq L a hL
 have hw:=weightV_range L a
 generalize weightV L a = w at c1 hw
 generalize nextA L (nextA L a 1000) 8 = a1 at c1
 have c2:=pick_eq L a1 [4611686018427387904,4611686018427387904,1,10,5000] hL (by decide) (by decide)
 have x2:=pickV_mem L a1 (xs:=[4611686018427387904,4611686018427387904,1,10,5000]) (by decide)
 generalize nextA L a1 ([4611686018427387904,4611686018427387904,1,10,5000] : List Int).length = a2 at c2
 have c3:=pick_eq L a2 [4611686018427387904,4611686018427387904,4,100] hL (by decide) (by decide)
 have x3:=pickV_mem L a2 (xs:=[4611686018427387904,4611686018427387904,4,100]) (by decide)
 generalize nextA L a2 ([4611686018427387904,4611686018427387904,4,100] : List Int).length = a3 at c3
 have c4:=pick_eq L a3 [4611686018427387904,4611686018427387904,1,3,50] hL (by decide) (by decide)
 have x4:=pickV_mem L a3 (xs:=[4611686018427387904,4611686018427387904,1,3,50]) (by decide)
 generalize nextA L a3 ([4611686018427387904,4611686018427387904,1,3,50] : List Int).length = a4 at c4
 have c5:=pick_eq L a4 [4611686018427387904,2] hL (by decide) (by decide)
 have x5:=pickV_mem L a4 (xs:=[4611686018427387904,2]) (by decide)
 generalize nextA L a4 ([4611686018427387904,2] : List Int).length = a5 at c5
 have c6:=pick_eq L a5 [0,0,5,20] hL (by decide) (by decide)
 have x6:=pickV_mem L a5 (xs:=[0,0,5,20]) (by decide)
 generalize nextA L a5 ([0,0,5,20] : List Int).length = a6 at c6
 generalize pickV L a1 [4611686018427387904,4611686018427387904,1,10,5000] = v2 at c2 x2
 generalize pickV L a2 [4611686018427387904,4611686018427387904,4,100] = v3 at c3 x3
 generalize pickV L a3 [4611686018427387904,4611686018427387904,1,3,50] = v4 at c4 x4
 generalize pickV L a4 [4611686018427387904,2] = v5 at c5 x5
 generalize pickV L a5 [0,0,5,20] = v6 at c6 x6
 simp only [intsP,lpc,lpn] at c2 c3 c4 c5 c6
 simp only [lmk,List.not_mem_nil,or_false] at x2 x3 x4 x5 x6
 refine ⟨⟨w,v2,v3,v4,v5,v6⟩,a6,V_wp (vf:=vf35) rfl ?_,⟨hw,?_,?_,?_,?_,by simp only; omega⟩⟩
 .simp -implicitDefEqProofs (disch:=omega) only [vf35,vb35,c1,c2,c3,c4,c5,c6,go_sem,↓reduceIte,rAz,rS,rE,rL,reduceCtorEq]
 all_goals (unfold amtOk; simp only; have hmx : maxR = 4611686018427387904:=rfl; omega)
theorem setE_ok {t : Tr} {m : Mdl} {speed margin : Int} (h : TreeOk t) (hc : configOk m speed margin = true) {id : Int} {s : Sg} (hk : knownN t.nodes id = true) (hs : SgOk s) : DvOk t (setE (newD m speed margin) id s):=by
 refine ⟨h,hc,by simp,by simp,by simp,?_,?_,(ascOk_iff _ _ _ _).1 rfl,by simp,?_,by simp,rfl⟩
 ·show AscOk _ 1 10000 (if s.weight = 100 then [] else [⟨id,s.weight⟩])
  split
  ·exact (ascOk_iff _ _ _ _).1 rfl
  ·refine ⟨fun c hc=>?_,List.pairwise_singleton _ _,fun c hc=>?_⟩ <;> (rw [List.mem_singleton] at hc; subst hc)
   .exact hk
   .exact hs.w
 ·show ascD _ none (if s.target = 0 then [] else [⟨id,s.target,256⟩]) = true
  split
  ·rfl
  ·have:=hs.t
   simp only [ascD,hk,prevOk,bta,bau]
   rw [inZ_iff.2 (by omega),inZ_iff.2 (by omega)]
   rfl
 ·show ascB _ _ none (if s.rp = maxR /\ s.wp = maxR /\ s.ro = maxR /\ s.wo = maxR then [] else [⟨id,newB s.rp 4096 0,newB s.wp 4096 0,newB s.ro 0 0,newB s.wo 0 0⟩]) = true
  split
  ·rfl
  ·simp only [ascB,hk,prevOk,bta,bau]
   exact capsB_iff.2 ⟨newB_ok hs.rp (by omega) (by omega),newB_ok hs.wp (by omega) (by omega),newB_ok hs.ro (by omega) (by omega),newB_ok hs.wo (by omega) (by omega)⟩
theorem newB_rate (rate least : Int) : (newB rate least 0).rate = rate:=by
 unfold newB
 split
 .rename_i h; exact h.symm
 .rfl
theorem newB_level {rate least : Int} (h : rate ≠ maxR) : (newB rate least 0).level = max rate least * 100:=by
 unfold newB
 rw [if_neg h]
theorem capI_start {s : Sg} {m : Mdl} {speed margin top : Int} (hs : SgOk s) (ha : ¬ (s.rp = maxR /\ s.wp = maxR /\ s.ro = maxR /\ s.wo = maxR)) : CapI s top 0 (setE (newD m speed margin) top s) (fun _=>0) (fun _=>0) (Cp.mk top (newB s.rp 4096 0) (newB s.wp 4096 0) (newB s.ro 0 0) (newB s.wo 0 0)):=by
 refine ⟨?_,rfl,fun w=>?_,fun w=>?_,fun w hw=>?_,fun w hw=>?_⟩
 ·show (if s.rp = maxR /\ s.wp = maxR /\ s.ro = maxR /\ s.wo = maxR then [] else [Cp.mk top (newB s.rp 4096 0) (newB s.wp 4096 0) (newB s.ro 0 0) (newB s.wo 0 0)]) = _
  rw [if_neg ha]
 ·cases w <;> exact newB_rate _ _
 ·cases w <;> exact newB_rate _ _
 ·cases w
  ·have:=newB_level (least:=4096) (show s.rp ≠ maxR from hw)
   show (newB s.rp 4096 0).level + 100 * 0 <= 100 * max s.rp 4096 + s.rp * 0
   omega
  ·have:=newB_level (least:=4096) (show s.wp ≠ maxR from hw)
   show (newB s.wp 4096 0).level + 100 * 0 <= 100 * max s.wp 4096 + s.wp * 0
   omega
 ·have hro:=hs.ro
  have hwo:=hs.wo
  unfold amtOk at hro hwo
  cases w
  ·have hw' : s.ro ≠ maxR:=hw
   have:=newB_level (least:=0) hw'
   show (newB s.ro 0 0).level + 100 * 0 <= 100 * max s.ro 1 + s.ro * 0
   omega
  ·have hw' : s.wo ≠ maxR:=hw
   have:=newB_level (least:=0) hw'
   show (newB s.wo 0 0).level + 100 * 0 <= 100 * max s.wo 1 + s.wo * 0
   omega
theorem cap_ask {t : Tr} {s : Sg} {top i : Int} {x : Dv} {P O : Bool -> Int} {c : Cp} (hx : DvOk t x) (h : CapI s top i x P O c) (w : Bool) : (rateP s w ≠ maxR -> P w <= rateP s w * i / 100 + max (rateP s w) 4096) /\ (rateO s w ≠ maxR -> O w <= rateO s w * i / 100 + max (rateO s w) 1):=by
 have hcs:=((ascB_iff.1 hx.bk).1 c (by rw [h.bk]; exact lms ..)).2
 obtain ⟨s1,s2,s3,s4⟩:=capsB_iff.1 hcs
 have hlv : ∀ b : Bk,soundB x.now b = true -> 0 <= b.level:=fun b hb=>by
  obtain ⟨_,_,hc⟩:=bkOk_iff.1 (soundB_iff.1 hb).1
  omega
 refine ⟨fun e=>cap_within (lv:=(kpB c w).level) ?_ (h.p w e),fun e=>cap_within (lv:=(koB c w).level) ?_ (h.o w e)⟩
 ·cases w
  .exact hlv _ s1
  .exact hlv _ s2
 ·cases w
  .exact hlv _ s3
  .exact hlv _ s4
def CapS (t : Tr) (s : Sg) (top i : Int) (x : Dv) (P O : Bool -> Int) : Prop:=(s.rp = maxR /\ s.wp = maxR /\ s.ro = maxR /\ s.wo = maxR) \/ ∃ c,CapI s top i x P O c
theorem capS_ask {t : Tr} {s : Sg} {top i : Int} {x : Dv} {P O : Bool -> Int} (hs : SgOk s) (hx : DvOk t x) (h : CapS t s top i x P O) (w : Bool) :
  (rateP s w = maxR \/ ((1 <= rateP s w /\ rateP s w <= 1073741824) /\ P w <= rateP s w * i / 100 + max (rateP s w) 4096)) /\ (rateO s w = maxR \/ ((1 <= rateO s w /\ rateO s w <= 1073741824) /\ O w <= rateO s w * i / 100 + max (rateO s w) 1)):=by
 have ap : amtOk (rateP s w):=by cases w; exact hs.rp; exact hs.wp
 have ao : amtOk (rateO s w):=by cases w; exact hs.ro; exact hs.wo
 rcases h with ⟨h1,h2,h3,h4⟩ | ⟨c,hc⟩
 ·refine ⟨.inl ?_,.inl ?_⟩
  ·cases w; exact h1; exact h2
  ·cases w; exact h3; exact h4
 ·obtain ⟨k1,k2⟩:=cap_ask hx hc w
  have hmx : maxR = 4611686018427387904:=rfl
  refine ⟨?_,?_⟩
  ·rcases ap with a | a
   .exact .inr ⟨a,k1 (by omega)⟩
   .exact .inl a
  ·rcases ao with a | a
   .exact .inr ⟨a,k2 (by omega)⟩
   .exact .inl a
theorem capS_tick {t : Tr} {s : Sg} {top i : Int} {x : Dv} {P O : Bool -> Int} (hx : DvOk t x) (hn : x.now < 1048576) (h : CapS t s top i x P O) : CapS t s top (i + 1) (tickD t x) (fun w=>P w + qPag t top w x.queue - qPag t top w (tickD t x).queue) (fun w=>O w + qNum t top w x.queue - qNum t top w (tickD t x).queue):=by
 rcases h with h | ⟨c,hc⟩
 ·exact .inl h
 ·obtain ⟨c',h'⟩:=capI_tick hx hn hc
  exact .inr ⟨c',h'⟩
theorem capS_sub {t : Tr} {s : Sg} {top i : Int} {x : Dv} {P O : Bool -> Int} (r : Rq) (h : CapS t s top i x P O) : CapS t s top i (subD x r) P O:=by
 rcases h with h | ⟨c,hc⟩
 .exact .inl h
 .exact .inr ⟨c,hc.bk,hc.g,hc.rp,hc.ro,hc.p,hc.o⟩
theorem tickD_qsub (t : Tr) (d : Dv) : List.Sublist (tickD t d).queue d.queue:=loopD_ind (t:=t) (P:=fun x=>List.Sublist x.queue d.queue) (fun x g _ _ h _=>(remQ_sub g x.queue).trans h) _ _ (List.Sublist.refl _)
theorem qPag_sub {t : Tr} {top : Int} {w : Bool} {a b : List Rq} (h : List.Sublist a b) : (∀ r ∈ b,soundR r = true) -> qPag t top w a <= qPag t top w b:=by
 induction h with
 | slnil=>intro _; exact Int.le_refl _
 | cons x h ih =>
  intro hb
  have:=ih fun r hr=>hb r (lmc _ hr)
  have hx:=soundR_iff.1 (hb x (lms ..))
  rw [qPag]
  split <;> omega
 | cons_cons x h ih =>
  intro hb
  have:=ih fun r hr=>hb r (lmc _ hr)
  rw [qPag,qPag]
  omega
theorem qNum_sub {t : Tr} {top : Int} {w : Bool} {a b : List Rq} (h : List.Sublist a b) : qNum t top w a <= qNum t top w b:=by
 induction h with
 | slnil=>exact Int.le_refl _
 | cons x h ih =>
  rw [qNum]
  split <;> omega
 | cons_cons x h ih =>
  rw [qNum,qNum]
  omega
set_option maxHeartbeats 8000000 in
theorem deviceCaps_eq (L : List Int) : V 8 [.p (intsP L)] [] = some (.p (.bool true),[]):=by
 refine V_wp (vf:=vf8) rfl ?_
 have hli:=light_eq (L.map (PV.int .i64))
 rw [List.length_map] at hli
 by_cases hL : L.length <= 600
 ·rw [decide_eq_true hL] at hli
  have hro:=roll_eq L
  have htr : V 13 [.ptr (.arg 0 0) 0 0,.p (.int .i64 4)] [.box [.p (intsP L),.p (.int .i64 0)]] = some ((dTree L 0 4).1.vv,[diceB L (dTree L 0 4).2]):=tree_eq L 0 4 (by omega) (by omega)
  have hok:=dTree_ok L 0 4
  generalize dTree L 0 4 = ta at htr hok
  obtain ⟨t,a0⟩:=ta
  simp only at htr hok
  have hlen:=hok.len
  obtain ⟨m,speed,margin,b0,hcf,hcok⟩:=dconf_eq L a0 (by omega)
  have hnw:=r34new_eq m speed margin hcok
  have hD:=newD_ok hok hcok
  obtain ⟨u,b1,hds,hu⟩:=dset_eq L b0 (by omega)
  have hnx:=next_eq L b1 t.nodes.length (by omega) (by omega)
  have x0:=nextV_nonneg L b1 t.nodes.length
  have x1:=nextV_lt L b1 (n:=t.nodes.length) (by omega)
  generalize nextA L b1 t.nodes.length = b2 at hnx
  generalize nextV L b1 t.nodes.length = iv at hnx x0 x1
  obtain ⟨i,rfl⟩ : ∃ i : Nat,iv = i:=⟨iv.toNat,by omega⟩
  have hil : i < t.nodes.length:=by omega
  have hni : t.nodes[i]? = some t.nodes[i]:=lgg hil
  generalize t.nodes[i] = nd at hni
  have hkn : knownN t.nodes nd.id = true:=by unfold knownN; rw [known_mem hok (lmg hni)]; rfl
  have hset:=set_eq hD nd.id u hkn hu 0 rfl rfl rfl
  have hSok:=setE_ok hok hcok hkn hu
  have hS0 : CapS t u nd.id 0 (setE (newD m speed margin) nd.id u) (fun _=>0) (fun _=>0):=by
   by_cases ha : u.rp = maxR /\ u.wp = maxR /\ u.ro = maxR /\ u.wo = maxR
   ·exact .inl ha
   ·exact .inr ⟨_,capI_start hu ha⟩
  have hSn : (setE (newD m speed margin) nd.id u).now = 0:=rfl
  have hSq : (setE (newD m speed margin) nd.id u).queue.length + (setE (newD m speed margin) nd.id u).flights.length = 0:=rfl
  have hSv : chsP (newD m speed margin).v = chsP (setE (newD m speed margin) nd.id u).v:=rfl
  rw [hSv] at hset
  generalize setE (newD m speed margin) nd.id u = z0 at hset hSok hS0 hSn hSq
  simp only [newD,Dv.vv,chsP,cpsP,dpsP,rqsP,flsP,lpn] at hset
  simp -implicitDefEqProofs (disch:=omega) only [vf8,vb8,hli,hro,htr,hcf,hnw,hds,hnx,hil,hni,hset,go_sem,↓reduceIte,rAz,rS,rE,rL,reduceCtorEq]
  obtain ⟨I,hI⟩ : ∃ I : Nat -> St -> Prop,∀ k s,I k s ↔ ∃ (x : Dv) (b : Nat) (P : Bool -> Int) (O : Bool -> Int),DvOk t x /\ x.now = k /\ x.queue.length + x.flights.length <= 2 * k /\ CapS t u nd.id k x P O /\ (∀ w,0 <= P w /\ P w <= 100000000 * k) /\ (∀ w,0 <= O w /\ O w <= 100 * k) /\ s.pe 3 = .ptr (.slot 29 1) 0 0 /\ s.pe 4 = .ptr (.slot 4 0) 0 0 /\ s.pe 5 = .ptr (.slot 5 0) 0 0 /\ s.pe 7 = .ptr (.slot 7 0) 0 0 /\ s.pe 8 = .p (.int .i64 nd.id) /\ s.pe 10 = .ptr (.slot 10 0) 0 0 /\ s.pe 11 = .ptr (.slot 11 0) 0 0 /\ s.pe 12 = .p (.int .i64 ((k : Int) + 1)) /\ s.h (.slot 4 0) = some (0,Ob.box [.p (nodesP t.nodes),.p (.int .i64 t.next)]) /\ s.h (.slot 7 0) = some (0,Ob.box [.p (.int .i64 0),.p (.int .i64 u.weight),.p (.int .i64 u.rp),.p (.int .i64 u.wp),.p (.int .i64 u.ro),.p (.int .i64 u.wo),.p (.int .i64 u.target)]) /\ s.h (.slot 29 1) = some (0,Ob.box [.p (intsP L),.p (.int .i64 (b : Nat))]) /\ s.h (.slot 10 0) = some (0,Ob.box [.p (.int .i64 (P false)),.p (.int .i64 (P true))]) /\ s.h (.slot 11 0) = some (0,Ob.box [.p (.int .i64 (O false)),.p (.int .i64 (O true))]) /\ ∃ X,s.h (.slot 5 0) = some (0,Ob.box X) /\ X.map (fz0 [14,16,55,76,85] s.h) = dvC x:=⟨_,fun _ _=>Iff.rfl⟩
  refine wp_count (40) I ?_ ?_
  ·refine (hI _ _).2 ⟨z0,b2,fun _=>0,fun _=>0,?_,?_,?_,?_,?_,?_,?_,?_,?_,?_,?_,?_,?_,?_,?_,?_,?_,?_,?_,?_⟩
   ·exact hSok
   ·exact hSn
   ·exact cl3
   ·exact hS0
   ·exact by simp
   ·exact by simp
   all_goals first | exact cl0 | (simp -implicitDefEqProofs (disch:=omega) only [lma,go_sem,↓reduceIte,rAz,rS,rE,rL,reduceCtorEq] <;> first | (simp [mBox]; done) | (simp [mBox]; omega)) | (simp -implicitDefEqProofs (disch:=omega) only [lma,go_sem,↓reduceIte,rAz,rS,rE,rL,reduceCtorEq] <;> (refine ⟨_,rfl,?_⟩; first | rfl | (simp -implicitDefEqProofs (disch:=omega) only [lma,go_sem,↓reduceIte,rAz,rS,rE,rL,reduceCtorEq]; done) | (simp -implicitDefEqProofs (disch:=omega) only [lma,go_sem,↓reduceIte,rAz,rS,rE,rL,reduceCtorEq]; rfl)))
  intro k s hk hIk
  obtain ⟨x,b,P,O,hx,hnow,hcap,hS,hPb,hOb,h3,h4,h5,h7,h8,h10,h11,h12,hh4_0,hh7_0,hh29_1,hh10_0,hh11_0,hX⟩:=(hI _ _).1 hIk
  clear hIk
  clear hli hro htr hcf hnw hds hnx hset hD hS0
  obtain ⟨X,hX⟩:=hX
  simp -implicitDefEqProofs (disch:=omega) only [h3,h4,h5,h7,h8,h10,h11,h12,hh4_0,hh7_0,hh29_1,hh10_0,hh11_0,hX,go_sem,↓reduceIte,rAz,rS,rE,rL,reduceCtorEq]
  refine wp_if_d (fun hlt=>?_) (fun hge=>?_)
  rotate_left
  ·simp -implicitDefEqProofs (disch:=omega) only [h3,h4,h5,h7,h8,h10,h11,h12,hh4_0,hh7_0,hh29_1,hh10_0,hh11_0,hX,hge,sane34_eq,go_sem,↓reduceIte,rAz,rS,rE,rL,reduceCtorEq]
  ·have hk40 : k < 40:=by omega
   have c1:=next_eq L b 3 (by omega) (by omega)
   have n0:=nextV_nonneg L b 3
   have n1:=nextV_lt L b (n:=3) (by omega)
   generalize nextA L b 3 = b3 at c1
   generalize nextV L b 3 = v at c1 n0 n1
   obtain ⟨N,rfl⟩ : ∃ N : Nat,v = N:=⟨v.toNat,by omega⟩
   simp -implicitDefEqProofs (disch:=omega) only [h3,h4,h5,h7,h8,h10,h11,h12,hh4_0,hh7_0,hh29_1,hh10_0,hh11_0,hX,hlt,c1,go_sem,↓reduceIte,rAz,rS,rE,rL,reduceCtorEq]
   obtain ⟨J,hJ⟩ : ∃ I : Nat -> St -> Prop,∀ j s,I j s ↔ ∃ (y : Dv) (c : Nat),DvOk t y /\ y.now = k /\ y.queue.length + y.flights.length <= 2 * k + j /\ CapS t u nd.id k y P O /\ s.pe 3 = .ptr (.slot 29 1) 0 0 /\ s.pe 4 = .ptr (.slot 4 0) 0 0 /\ s.pe 5 = .ptr (.slot 5 0) 0 0 /\ s.pe 7 = .ptr (.slot 7 0) 0 0 /\ s.pe 8 = .p (.int .i64 nd.id) /\ s.pe 10 = .ptr (.slot 10 0) 0 0 /\ s.pe 11 = .ptr (.slot 11 0) 0 0 /\ s.pe 12 = .p (.int .i64 ((k : Int) + 1)) /\ s.h (.slot 4 0) = some (0,Ob.box [.p (nodesP t.nodes),.p (.int .i64 t.next)]) /\ s.h (.slot 7 0) = some (0,Ob.box [.p (.int .i64 0),.p (.int .i64 u.weight),.p (.int .i64 u.rp),.p (.int .i64 u.wp),.p (.int .i64 u.ro),.p (.int .i64 u.wo),.p (.int .i64 u.target)]) /\ s.h (.slot 29 1) = some (0,Ob.box [.p (intsP L),.p (.int .i64 (c : Nat))]) /\ s.pe 13 = .p (.int .i64 ((N : Int) - j)) /\ s.h (.slot 10 0) = some (0,Ob.box [.p (.int .i64 (P false)),.p (.int .i64 (P true))]) /\ s.h (.slot 11 0) = some (0,Ob.box [.p (.int .i64 (O false)),.p (.int .i64 (O true))]) /\ ∃ X,s.h (.slot 5 0) = some (0,Ob.box X) /\ X.map (fz0 [14,76] s.h) = dvC y:=⟨_,fun _ _=>Iff.rfl⟩
   refine wp_count (N) J ?_ ?_
   ·refine (hJ _ _).2 ⟨x,b3,?_,?_,?_,?_,?_,?_,?_,?_,?_,?_,?_,?_,?_,?_,?_,?_,?_,?_,?_⟩
    ·exact hx
    ·exact hnow
    ·exact hcap
    ·exact hS
    all_goals first | exact cl0 | (simp -implicitDefEqProofs (disch:=omega) only [h3,h4,h5,h7,h8,h10,h11,h12,hh4_0,hh7_0,hh29_1,hh10_0,hh11_0,hX,lma,go_sem,↓reduceIte,rAz,rS,rE,rL,reduceCtorEq] <;> first | (simp [mBox]; done) | (simp [mBox]; omega)) | (simp -implicitDefEqProofs (disch:=omega) only [h3,h4,h5,h7,h8,h10,h11,h12,hh4_0,hh7_0,hh29_1,hh10_0,hh11_0,hX,lma,go_sem,↓reduceIte,rAz,rS,rE,rL,reduceCtorEq] <;> (refine ⟨_,rfl,?_⟩; first | rfl | (simp -implicitDefEqProofs (disch:=omega) only [h3,h4,h5,h7,h8,h10,h11,h12,hh4_0,hh7_0,hh29_1,hh10_0,hh11_0,hX,lma,go_sem,↓reduceIte,rAz,rS,rE,rL,reduceCtorEq]; done) | (simp -implicitDefEqProofs (disch:=omega) only [h3,h4,h5,h7,h8,h10,h11,h12,hh4_0,hh7_0,hh29_1,hh10_0,hh11_0,hX,lma,go_sem,↓reduceIte,rAz,rS,rE,rL,reduceCtorEq]; rfl)))
   intro j s hj hJk
   obtain ⟨y,c,hy,hyn,hyc,hyS,h3,h4,h5,h7,h8,h10,h11,h12,hh4_0,hh7_0,hh29_1,h13,hh10_0,hh11_0,hY⟩:=(hJ _ _).1 hJk
   clear hJk
   obtain ⟨Y,hY⟩:=hY
   have hys2:=ok_small hy
   simp -implicitDefEqProofs (disch:=omega) only [h3,h4,h5,h7,h8,h10,h11,h12,hh4_0,hh7_0,hh29_1,h13,hh10_0,hh11_0,hY,go_sem,↓reduceIte,rAz,rS,rE,rL,reduceCtorEq]
   refine wp_if_d (fun hjl=>?_) (fun hjg=>?_)
   ·obtain ⟨r,c1,e1,hr1,hr2⟩:=request_eq L c hok (by omega)
    have e2:=submit_eq t y r hy hys2 hr1 hr2 (by omega)
    have hok2:=subD_ok hy hr1 hr2 (by omega)
    have hz1 : (subD y r).queue.length = y.queue.length + 1:=by rw [lla,List.length_singleton]
    have hz2 : (subD y r).flights = y.flights:=rfl
    have hz4 : (subD y r).now = k:=hyn
    have hz5 : (subD y r).v = y.v:=rfl
    have hz6:=capS_sub r hyS
    rw [<- hz5] at e2
    generalize subD y r = z at e2 hok2 hz1 hz2 hz4 hz6
    simp -implicitDefEqProofs (disch:=omega) only [h3,h4,h5,h7,h8,h10,h11,h12,hh4_0,hh7_0,hh29_1,h13,hh10_0,hh11_0,hY,hjl,e1,e2,go_sem,↓reduceIte,rAz,rS,rE,rL,reduceCtorEq]
    try refine And.intro (by omega) ?_
    refine (hJ _ _).2 ⟨z,c1,?_,?_,?_,?_,?_,?_,?_,?_,?_,?_,?_,?_,?_,?_,?_,?_,?_,?_,?_⟩
    ·exact hok2
    ·exact hz4
    ·exact by rw [hz1,hz2]; omega
    ·exact hz6
    all_goals first | exact cl0 | (simp -implicitDefEqProofs (disch:=omega) only [h3,h4,h5,h7,h8,h10,h11,h12,hh4_0,hh7_0,hh29_1,h13,hh10_0,hh11_0,hY,lma,go_sem,↓reduceIte,rAz,rS,rE,rL,reduceCtorEq] <;> first | (simp [mBox]; done) | (simp [mBox]; omega)) | (simp -implicitDefEqProofs (disch:=omega) only [h3,h4,h5,h7,h8,h10,h11,h12,hh4_0,hh7_0,hh29_1,h13,hh10_0,hh11_0,hY,lma,go_sem,↓reduceIte,rAz,rS,rE,rL,reduceCtorEq] <;> (refine ⟨_,rfl,?_⟩; first | rfl | (simp -implicitDefEqProofs (disch:=omega) only [h3,h4,h5,h7,h8,h10,h11,h12,hh4_0,hh7_0,hh29_1,h13,hh10_0,hh11_0,hY,lma,go_sem,↓reduceIte,rAz,rS,rE,rL,reduceCtorEq]; done) | (simp -implicitDefEqProofs (disch:=omega) only [h3,h4,h5,h7,h8,h10,h11,h12,hh4_0,hh7_0,hh29_1,h13,hh10_0,hh11_0,hY,lma,go_sem,↓reduceIte,rAz,rS,rE,rL,reduceCtorEq]; rfl)))
   ·have e3:=tick_eq hy hys2 (by omega)
    have hokT:=tickD_ok hy (by omega)
    have hcnt:=tickD_count t y
    have hkp:=(tickD_keeps t y).1
    have hsmT:=ok_small hokT
    have hST:=capS_tick hy (by omega) hyS
    have hqs:=tickD_qsub t y
    generalize endedD y = e at e3 hcnt
    rw [hyn] at hkp
    generalize tickD t y = z at e3 hokT hcnt hkp hsmT hST hqs
    have hsd : ∀ r ∈ y.queue,soundR r = true:=fun r hr=>(hy.q r hr).1
    have q1:=fun w=>queued_eq hy hys2 nd.id w
    have q2:=fun w=>queued_eq hokT hsmT nd.id w
    have r1:=fun w=>qPag_range t nd.id w hsd
    have r2:=fun w=>qNum_range t nd.id w y.queue
    have r3:=fun w=>qPag_range t nd.id w (q:=z.queue) fun r hr=>(hokT.q r hr).1
    have r4:=fun w=>qNum_range t nd.id w z.queue
    have r5:=fun w=>qPag_sub (t:=t) (top:=nd.id) (w:=w) hqs hsd
    have r6:=fun w=>qNum_sub (t:=t) (top:=nd.id) (w:=w) hqs
    have hyl : y.queue.length <= 82:=by omega
    simp -implicitDefEqProofs (disch:=omega) only [h3,h4,h5,h7,h8,h10,h11,h12,hh4_0,hh7_0,hh29_1,h13,hh10_0,hh11_0,hY,hjg,e3,go_sem,↓reduceIte,rAz,rS,rE,rL,reduceCtorEq]
    have r1f:=r1 false
    have r1t:=r1 true
    have r2f:=r2 false
    have r2t:=r2 true
    have r3f:=r3 false
    have r3t:=r3 true
    have r4f:=r4 false
    have r4t:=r4 true
    have pbf:=hPb false
    have pbt:=hPb true
    have obf:=hOb false
    have obt:=hOb true
    have q1f:=q1 false
    have q1t:=q1 true
    have q2f:=q2 false
    have q2t:=q2 true
    obtain ⟨M,hM⟩ : ∃ I : Nat -> St -> Prop,∀ m s,I m s ↔ ∃ (A : Int) (B : Int) (C : Int) (D : Int) (v16_0 : Nat) (v85_11 : Nat) (v85_12 : Nat) (v85_13 : Nat) (v85_15 : Nat) (v85_16 : Nat),((m = 0 /\ A = P false /\ B = P true /\ C = O false /\ D = O true) \/ (m = 1 /\ A = P false + qPag t nd.id false y.queue - qPag t nd.id false z.queue /\ B = P true /\ C = O false + qNum t nd.id false y.queue - qNum t nd.id false z.queue /\ D = O true) \/ (m = 2 /\ A = P false + qPag t nd.id false y.queue - qPag t nd.id false z.queue /\ B = P true + qPag t nd.id true y.queue - qPag t nd.id true z.queue /\ C = O false + qNum t nd.id false y.queue - qNum t nd.id false z.queue /\ D = O true + qNum t nd.id true y.queue - qNum t nd.id true z.queue)) /\ s.pe 3 = .ptr (.slot 29 1) 0 0 /\ s.pe 4 = .ptr (.slot 4 0) 0 0 /\ s.pe 5 = .ptr (.slot 5 0) 0 0 /\ s.pe 7 = .ptr (.slot 7 0) 0 0 /\ s.pe 8 = .p (.int .i64 nd.id) /\ s.pe 10 = .ptr (.slot 10 0) 0 0 /\ s.pe 11 = .ptr (.slot 11 0) 0 0 /\ s.pe 12 = .p (.int .i64 (↑k + 1)) /\ s.pe 16 = .ptr (.slot 16 0) v16_0 0 /\ s.pe 19 = .p (.int .i64 m) /\ s.h (.slot 4 0) = some (0,Ob.box [.p (nodesP t.nodes),.p (.int .i64 t.next)]) /\ s.h (.slot 7 0) = some (0,Ob.box [.p (.int .i64 0),.p (.int .i64 u.weight),.p (.int .i64 u.rp),.p (.int .i64 u.wp),.p (.int .i64 u.ro),.p (.int .i64 u.wo),.p (.int .i64 u.target)]) /\ s.h (.slot 10 0) = some (0,Ob.box [.p (.int .i64 A),.p (.int .i64 B)]) /\ s.h (.slot 11 0) = some (0,Ob.box [.p (.int .i64 C),.p (.int .i64 D)]) /\ s.h (.slot 5 0) = some (0,Ob.box [.p (.int .i64 y.m.rb),.p (.int .i64 y.m.rp),.p (.int .i64 y.m.wb),.p (.int .i64 y.m.wp),.p (.int .i64 y.m.seek),.p (.int .i64 y.speed),.p (.int .i64 y.margin),.p (.int .i64 y.now),.p (.int .i64 y.free),.p (.int .i64 y.head),.p (chsP y.weights),.p (cpsP y.buckets),.p (dpsP y.depths),.p (chsP y.v),.p (rqsP y.queue),.p (flsP y.flights)]) /\ s.h (.slot 16 0) = some (v16_0,Ob.box [.p (.int .i64 z.m.rb),.p (.int .i64 z.m.rp),.p (.int .i64 z.m.wb),.p (.int .i64 z.m.wp),.p (.int .i64 z.m.seek),.p (.int .i64 z.speed),.p (.int .i64 z.margin),.p (.int .i64 z.now),.p (.int .i64 z.free),.p (.int .i64 z.head),.own (.slot 85 11) v85_11 0 z.weights.length,.own (.slot 85 12) v85_12 0 z.buckets.length,.own (.slot 85 13) v85_13 0 z.depths.length,.p (chsP z.v),.own (.slot 85 15) v85_15 0 z.queue.length,.own (.slot 85 16) v85_16 0 z.flights.length]) /\ s.h (.slot 29 1) = some (0,Ob.box [.p (intsP L),.p (.int .i64 (c : Nat))]) /\ s.h (.slot 85 11) = some (v85_11,Ob.arr 2 (List.map Ch.pv z.weights)) /\ s.h (.slot 85 12) = some (v85_12,Ob.arr 21 (List.map Cp.pv z.buckets)) /\ s.h (.slot 85 13) = some (v85_13,Ob.arr 3 (List.map Dp.pv z.depths)) /\ s.h (.slot 85 15) = some (v85_15,Ob.arr 6 (List.map Rq.pv z.queue)) /\ s.h (.slot 85 16) = some (v85_16,Ob.arr 7 (List.map Fl.pv z.flights)):=⟨_,fun _ _=>Iff.rfl⟩
    refine wp_count (2) M ?_ ?_
    ·refine (hM _ _).2 ⟨P false,P true,O false,O true,nv (fzOb [14,76] s.h (.slot 16 0)),nv (fzOb [14,76] s.h (.slot 85 11)),nv (fzOb [14,76] s.h (.slot 85 12)),nv (fzOb [14,76] s.h (.slot 85 13)),nv (fzOb [14,76] s.h (.slot 85 15)),nv (fzOb [14,76] s.h (.slot 85 16)),?_,?_,?_,?_,?_,?_,?_,?_,?_,?_,?_,?_,?_,?_,?_,?_,?_,?_,?_,?_,?_,?_,?_⟩
     ·exact .inl ⟨rfl,rfl,rfl,rfl,rfl⟩
     all_goals first | exact cl0 | (simp -implicitDefEqProofs (disch:=omega) only [h3,h4,h5,h7,h8,h10,h11,h12,hh4_0,hh7_0,hh29_1,h13,hh10_0,hh11_0,hY,lma,go_sem,↓reduceIte,rAz,rS,rE,rL,reduceCtorEq] <;> first | (simp [mBox]; done) | (simp [mBox]; omega))
    intro m s hm hMk
    obtain ⟨A,B,C,D,v16_0,v85_11,v85_12,v85_13,v85_15,v85_16,hA,h3,h4,h5,h7,h8,h10,h11,h12,h16,h19,hh4_0,hh7_0,hh10_0,hh11_0,hh5_0,hh16_0,hh29_1,hh85_11,hh85_12,hh85_13,hh85_15,hh85_16⟩:=(hM _ _).1 hMk
    clear hMk
    have z0' : ((0 : Nat) : Int) = 0:=rfl
    have d0' : decide ((0 : Int) = 1) = false:=rfl
    have z1' : ((1 : Nat) : Int) = 1:=rfl
    simp -implicitDefEqProofs (disch:=omega) only [h3,h4,h5,h7,h8,h10,h11,h12,h16,h19,hh4_0,hh7_0,hh10_0,hh11_0,hh5_0,hh16_0,hh29_1,hh85_11,hh85_12,hh85_13,hh85_15,hh85_16,go_sem,↓reduceIte,rAz,rS,rE,rL,reduceCtorEq]
    refine wp_if_d (fun hml=>?_) (fun hmg=>?_)
    ·rcases hA with ⟨rfl,rfl,rfl,rfl,rfl⟩ | ⟨rfl,rfl,rfl,rfl,rfl⟩ | ⟨hm2,_⟩
     ·simp -implicitDefEqProofs (disch:=omega) only [h3,h4,h5,h7,h8,h10,h11,h12,h16,h19,hh4_0,hh7_0,hh10_0,hh11_0,hh5_0,hh16_0,hh29_1,hh85_11,hh85_12,hh85_13,hh85_15,hh85_16,hml,q1f,q2f,z0',d0',Int.toNat_zero,Nat.zero_mul,go_sem,↓reduceIte,rAz,rS,rE,rL,reduceCtorEq]
      try refine And.intro (by omega) ?_
      refine (hM _ _).2 ⟨(P false + qPag t nd.id false y.queue - qPag t nd.id false z.queue),P true,(O false + qNum t nd.id false y.queue - qNum t nd.id false z.queue),O true,v16_0,v85_11,v85_12,v85_13,v85_15,v85_16,?_,?_,?_,?_,?_,?_,?_,?_,?_,?_,?_,?_,?_,?_,?_,?_,?_,?_,?_,?_,?_,?_,?_⟩
      .exact .inr (.inl ⟨rfl,rfl,rfl,rfl,rfl⟩)
      all_goals first | exact cl0 | (simp -implicitDefEqProofs (disch:=omega) only [h3,h4,h5,h7,h8,h10,h11,h12,h16,h19,hh4_0,hh7_0,hh10_0,hh11_0,hh5_0,hh16_0,hh29_1,hh85_11,hh85_12,hh85_13,hh85_15,hh85_16,lma,go_sem,↓reduceIte,rAz,rS,rE,rL,reduceCtorEq] <;> first | (simp [mBox]; done) | (simp [mBox]; omega))
     ·simp -implicitDefEqProofs (disch:=omega) only [h3,h4,h5,h7,h8,h10,h11,h12,h16,h19,hh4_0,hh7_0,hh10_0,hh11_0,hh5_0,hh16_0,hh29_1,hh85_11,hh85_12,hh85_13,hh85_15,hh85_16,hml,q1t,q2t,z1',Int.toNat_one,Nat.one_mul,go_sem,↓reduceIte,rAz,rS,rE,rL,reduceCtorEq]
      try refine And.intro (by omega) ?_
      refine (hM _ _).2 ⟨(P false + qPag t nd.id false y.queue - qPag t nd.id false z.queue),(P true + qPag t nd.id true y.queue - qPag t nd.id true z.queue),(O false + qNum t nd.id false y.queue - qNum t nd.id false z.queue),(O true + qNum t nd.id true y.queue - qNum t nd.id true z.queue),v16_0,v85_11,v85_12,v85_13,v85_15,v85_16,?_,?_,?_,?_,?_,?_,?_,?_,?_,?_,?_,?_,?_,?_,?_,?_,?_,?_,?_,?_,?_,?_,?_⟩
      .exact .inr (.inr ⟨rfl,rfl,rfl,rfl,rfl⟩)
      all_goals first | exact cl0 | (simp -implicitDefEqProofs (disch:=omega) only [h3,h4,h5,h7,h8,h10,h11,h12,h16,h19,hh4_0,hh7_0,hh10_0,hh11_0,hh5_0,hh16_0,hh29_1,hh85_11,hh85_12,hh85_13,hh85_15,hh85_16,lma,go_sem,↓reduceIte,rAz,rS,rE,rL,reduceCtorEq] <;> first | (simp [mBox]; done) | (simp [mBox]; omega))
     ·omega
    ·rcases hA with ⟨hm2,_⟩ | ⟨hm2,_⟩ | ⟨_,rfl,rfl,rfl,rfl⟩
     ·omega
     ·omega
     ·have W0:=within_true (P false + qPag t nd.id false y.queue - qPag t nd.id false z.queue) u.rp 4096 ((k : Int) + 1) (capS_ask hu hokT hST false).1 (by omega) (by omega)
      have W1:=within_true (P true + qPag t nd.id true y.queue - qPag t nd.id true z.queue) u.wp 4096 ((k : Int) + 1) (capS_ask hu hokT hST true).1 (by omega) (by omega)
      have W2:=within_true (O false + qNum t nd.id false y.queue - qNum t nd.id false z.queue) u.ro 1 ((k : Int) + 1) (capS_ask hu hokT hST false).2 (by omega) (by omega)
      have W3:=within_true (O true + qNum t nd.id true y.queue - qNum t nd.id true z.queue) u.wo 1 ((k : Int) + 1) (capS_ask hu hokT hST true).2 (by omega) (by omega)
      simp -implicitDefEqProofs (disch:=omega) only [h3,h4,h5,h7,h8,h10,h11,h12,h16,h19,hh4_0,hh7_0,hh10_0,hh11_0,hh5_0,hh16_0,hh29_1,hh85_11,hh85_12,hh85_13,hh85_15,hh85_16,hmg,W0,W1,W2,W3,go_sem,↓reduceIte,rAz,rS,rE,rL,reduceCtorEq]
      try refine And.intro (by omega) ?_
      refine (hI _ _).2 ⟨z,c,(fun w=>P w + qPag t nd.id w y.queue - qPag t nd.id w z.queue),(fun w=>O w + qNum t nd.id w y.queue - qNum t nd.id w z.queue),?_,?_,?_,?_,?_,?_,?_,?_,?_,?_,?_,?_,?_,?_,?_,?_,?_,?_,?_,?_⟩
      .exact hokT
      .exact hkp
      .omega
      .exact hST
      .exact fun w=>by have p1:=hPb w; have p2:=r1 w; have p3:=r3 w; have p5:=r5 w; show 0 <= P w + qPag t nd.id w y.queue - qPag t nd.id w z.queue /\ P w + qPag t nd.id w y.queue - qPag t nd.id w z.queue <= 100000000 * ((k + 1 : Nat) : Int); omega
      .exact fun w=>by have p1:=hOb w; have p2:=r2 w; have p3:=r4 w; have p5:=r6 w; show 0 <= O w + qNum t nd.id w y.queue - qNum t nd.id w z.queue /\ O w + qNum t nd.id w y.queue - qNum t nd.id w z.queue <= 100 * ((k + 1 : Nat) : Int); omega
      all_goals first | exact cl0 | (simp -implicitDefEqProofs (disch:=omega) only [h3,h4,h5,h7,h8,h10,h11,h12,h16,h19,hh4_0,hh7_0,hh10_0,hh11_0,hh5_0,hh16_0,hh29_1,hh85_11,hh85_12,hh85_13,hh85_15,hh85_16,lma,go_sem,↓reduceIte,rAz,rS,rE,rL,reduceCtorEq] <;> first | (simp [mBox]; done) | (simp [mBox]; omega)) | (simp -implicitDefEqProofs (disch:=omega) only [h3,h4,h5,h7,h8,h10,h11,h12,h16,h19,hh4_0,hh7_0,hh10_0,hh11_0,hh5_0,hh16_0,hh29_1,hh85_11,hh85_12,hh85_13,hh85_15,hh85_16,lma,go_sem,↓reduceIte,rAz,rS,rE,rL,reduceCtorEq] <;> (refine ⟨_,rfl,?_⟩; first | rfl | (simp -implicitDefEqProofs (disch:=omega) only [h3,h4,h5,h7,h8,h10,h11,h12,h16,h19,hh4_0,hh7_0,hh10_0,hh11_0,hh5_0,hh16_0,hh29_1,hh85_11,hh85_12,hh85_13,hh85_15,hh85_16,lma,go_sem,↓reduceIte,rAz,rS,rE,rL,reduceCtorEq]; done) | (simp -implicitDefEqProofs (disch:=omega) only [h3,h4,h5,h7,h8,h10,h11,h12,h16,h19,hh4_0,hh7_0,hh10_0,hh11_0,hh5_0,hh16_0,hh29_1,hh85_11,hh85_12,hh85_13,hh85_15,hh85_16,lma,go_sem,↓reduceIte,rAz,rS,rE,rL,reduceCtorEq]; rfl)))
 ·rw [decide_eq_false hL] at hli
  simp -implicitDefEqProofs (disch:=omega) only [vf8,vb8,hli,sane34_eq,go_sem,↓reduceIte,rAz,rS,rE,rL,reduceCtorEq]
end Go.V
