/- Part 4 of the proof. -/
import Derived.Test.YtdbjijjeolnboaaGreatA3
set_option linter.unusedSectionVars false
set_option linter.unusedSimpArgs false
set_option linter.unusedVariables false
open Nat renaming reduceAdd → rA, reduceSub → rS, reduceEqDiff → rE, reduceLeDiff → rL, le_refl → lrf
open List renaming getElem?_eq_getElem → lgg, mem_of_getElem? → lmg, drop_eq_getElem_cons → ldg, map_cons → lpc, drop_of_length_le → ldl, nil_append → lna, append_assoc → laa, append_nil → lan, mem_map → lmm, map_append → lma, take_of_length_le → ltl, getElem?_of_mem → lgm, length_cons → llc, mem_cons → lmk, map_nil → lpn, length_nil → lln, mem_append → lmp, length_map → llm, getElem_mem → lgk, foldl_append → lfa
open Bool renaming false_and → bfa, false_eq_true → bft, true_and → bta
namespace Go.V
def PutS (t : Tr) (sw : Stk) (h : Hg) : Stk × Int :=
 if validS t sw = true then (if (findN t.nodes h.group).isSome = true then (if pagesH h = true then (if validS t ⟨putS sw.hs h,sw.size⟩ = true then (⟨putS sw.hs h,sw.size⟩,0) else (⟨[],0⟩,7)) else (⟨[],0⟩,3)) else (⟨[],0⟩,4)) else (⟨[],0⟩,1)
theorem PutS_ok {t : Tr} {sw : Stk} {h : Hg} (he : (PutS t sw h).2 = 0) : StkOk t (PutS t sw h).1:=by
 rw [<- validS_iff]
 unfold PutS at he ⊢
 split at he
 ·split at he
  ·split at he
   ·split at he
    ·rename_i h1 h2 h3 h4
     rw [if_pos h1,if_pos h2,if_pos h3,if_pos h4]
     exact h4
    .simp at he
   .simp at he
  .simp at he
 .simp at he
theorem HgOk.length {t : Tr} {z : Int} {l : List Hg} (h : HgOk t.nodes z l) : l.length <= t.nodes.length:=by
 have hnd : (l.map (·.group)).Nodup:=by
  rw [List.Nodup,List.pairwise_map]
  exact h.inc.imp fun hab=>by omega
 have:=nodup_length_le (l.map (·.group)) (t.nodes.map (·.id)) hnd (fun x hx=>by
  obtain ⟨c,hc,rfl⟩:=lmm.1 hx
  obtain ⟨n,hn,he⟩:=findN_some (h.known c hc)
  exact lmm.2 ⟨n,hn,he⟩)
 simpa using this
set_option maxHeartbeats 1000000 in
theorem rsput_eq (t : Tr) (sw : Stk) (h : Hg) (hn : t.nodes.length < 1000000) (hl : sw.hs.length < 900000) : V 27 [t.vv,sw.vv,h.vv] [] = some (.tup [Stk.fv (PutS t sw h).1,.p (.int .i64 (PutS t sw h).2)],[]):=by
 refine V_wp (vf:=vf27) rfl ?_
 have hv:=rsvalid_eq t sw hn (by omega)
 have hh:=rhas_eq t h.group hn
 unfold PutS
 cases hvv : validS t sw with
 | false =>
  rw [hvv] at hv
  rw [if_neg (by simp)]
  simp -implicitDefEqProofs (disch:=omega) only [vf27,vb27,hv,go_sem,↓reduceIte,rA,rS,rE,rL,reduceCtorEq]
  try rfl
 | true =>
  rw [hvv] at hv
  have h1:=(validS_iff t sw).1 hvv
  rw [findT_ok ((treeOk_iff t).2 h1.tree)] at hh
  rw [if_pos rfl]
  cases hs : (findN t.nodes h.group).isSome with
  | false =>
   rw [hs] at hh
   rw [if_neg (by simp)]
   simp -implicitDefEqProofs (disch:=omega) only [vf27,vb27,hv,hh,go_sem,↓reduceIte,rA,rS,rE,rL,reduceCtorEq]
   try rfl
  | true =>
   rw [hs] at hh
   rw [if_pos rfl]
   have hp:=rpages_eq h
   cases hps : pagesH h with
   | false =>
    rw [hps] at hp
    rw [if_neg (by simp)]
    simp -implicitDefEqProofs (disch:=omega) only [vf27,vb27,hv,hh,hp,go_sem,↓reduceIte,rA,rS,rE,rL,reduceCtorEq]
    try rfl
   | true =>
    rw [hps] at hp
    rw [if_pos rfl]
    have hr:=rreplace_eq sw h (by omega)
    have hrl:=putS_length sw.hs h
    have hv2:=rsvalid_eq t ⟨putS sw.hs h,sw.size⟩ hn (by simp only; omega)
    generalize putS sw.hs h = G at hr hv2
    cases hvv2 : validS t ⟨G,sw.size⟩ with
    | false =>
     rw [hvv2] at hv2
     rw [if_neg (by simp)]
     simp -implicitDefEqProofs (disch:=omega) only [vf27,vb27,hv,hh,hp,hr,hv2,go_sem,↓reduceIte,rA,rS,rE,rL,reduceCtorEq]
     try rfl
    | true =>
     rw [hvv2] at hv2
     rw [if_pos rfl]
     simp -implicitDefEqProofs (disch:=omega) only [vf27,vb27,hv,hh,hp,hr,hv2,go_sem,↓reduceIte,rA,rS,rE,rL,reduceCtorEq]
def prtS (t : Tr) (hs : List Hg) (z : Int) (l : List Ch) (own : Hg -> Int) (pr : Pr -> Int) (out : Bool) (e : Pr) : Pt:=⟨e.group,usedF t (cntS hs) e.group,pr e,own (getS hs e.group),if out = true then roomS t hs z l e.group else 4611686018427387904⟩
set_option maxHeartbeats 4000000 in
theorem sparts_eq {t : Tr} (h : TreeOk t) {hs : List Hg} {z : Int} (hh : HgOk t.nodes z hs) (hz : inPg z) {l : List Ch} (hl : LimOk l) (hll : l.length < 1000000) (eff : List Pr) (hel : eff.length < 1000000) {fo fp : FuncId} {own : Hg -> Int} {pr : Pr -> Int} (hown : ∀ x : Hg,V fo [x.vv] [] = some (.p (.int .i64 (own x)),[])) (hpr : ∀ x : Pr,V fp [x.vv] [] = some (.p (.int .i64 (pr x)),[])) (out low : Bool) (kt : KT) (tk : List MKey) (tv : List PV) :
  V 73 [.ptr (.arg 0 0) 0 0,.agg [.p (.fn fo),.p (.fn fp),.p (.bool out),.p (.bool low)]] [.box [.p (nodesP t.nodes),.p (.int .i64 t.next),.own (.arg 1 0) 0 0 hs.length,.p (.int .i64 z),.p (chsP l),.own (.arg 2 0) 0 0 eff.length,.mref (.arg 3 0) 0],.arr 4 (hs.map Hg.pv),.arr 3 (eff.map Pr.pv),.map kt tk tv] = some (.fresh 5 ((eff.map (prtS t hs z l own pr out)).map Pt.pv),[.box [.p (nodesP t.nodes),.p (.int .i64 t.next),.own (.arg 1 0) 0 0 hs.length,.p (.int .i64 z),.p (chsP l),.own (.arg 2 0) 0 0 eff.length,.mref (.arg 3 0) 0],.arr 4 (hs.map Hg.pv),.arr 3 (eff.map Pr.pv),.map kt tk tv]):=by
 refine V_wp (vf:=vf73) rfl ?_
 have hlen:=h.len
 have hhl:=hh.length
 have hc:=cntS_ok hh
 have hcl:=cntS_len hs
 have hct:=scounter_eq ⟨hs,z⟩ (by show hs.length < 1000000; omega) (fun x hx=>⟨hh.file x hx,hh.anon x hx⟩)
 have htt:=totals_eq t (cntS hs) h.fits (by omega) (by omega)
 have hTK : TotalsK t (cntS hs) = ((t.nodes.filter fun n=>decide (0 < tot t (ownC (cntS hs)) n.id)).map (totCh t (cntS hs)),0):=by
  rw [TotalsK,if_pos ((validK_iff t _).2 ⟨h,hc⟩)]
 rw [hTK] at htt
 simp only at htt
 have hlk:=lookC_totals h (ownC_nonneg hc.pos)
 have htinc : (((t.nodes.filter fun n=>decide (0 < tot t (ownC (cntS hs)) n.id)).map (totCh t (cntS hs)))).Pairwise fun a b=>a.group < b.group:=by
  rw [List.pairwise_map]
  exact h.inc.filter _
 have htl : ((t.nodes.filter fun n=>decide (0 < tot t (ownC (cntS hs)) n.id)).map (totCh t (cntS hs))).length <= t.nodes.length:=by
  rw [llm]; exact List.length_filter_le _ _
 have hget : ∀ g,V 36 [.agg [.p (hgsP hs),.p (.int .i64 z)],.p (.int .i64 g)] [] = some ((getS hs g).vv,[]):=fun g=>sget_eq ⟨hs,z⟩ g (by show hs.length < 1000000; omega)
 have hroom : ∀ g,V 88 [t.vv,.agg [.p (hgsP hs),.p (.int .i64 z)],.p (chsP l),.p (.int .i64 g)] [] = some (.p (.int .i64 (roomS t hs z l g)),[]):=fun g=>sroom_eq h ⟨hs,z⟩ l g (by show hs.length < 1000000; omega) (fun x=>(hh.get x).2.2) hz hl hll
 generalize (t.nodes.filter fun n=>decide (0 < tot t (ownC (cntS hs)) n.id)).map (totCh t (cntS hs)) = T at htt hlk htinc htl
 generalize hC : cntS hs = C at hct htt hlk hcl
 simp only [Stk.vv] at hct
 simp -implicitDefEqProofs (disch:=omega) only [vf73,vb73,hct,htt,go_sem,↓reduceIte,rA,rS,rE,rL,reduceCtorEq]
 obtain ⟨I,hI⟩ : ∃ I : Nat -> St -> Prop,∀ k s,I k s ↔ ∃ (ks : List MKey) (vs : List PV),RepD ks vs (fun x=>(lookC (T.take k) x).getD 0) /\ s.pe 0 = .ptr (Id.arg 0 0) 0 0 /\ s.pe 3 = .ptr (.slot 3 0) 0 0 /\ s.pe 5 = .mref (.slot 14 0) 0 /\ s.pe 28 = .own (.slot 25 1) 0 0 T.length /\ s.pe 29 = .p (.int .i64 ↑T.length) /\ s.pe 30 = .p (.int .i64 k) /\ s.h (.arg 0 0) = some (0,Ob.box [.p (nodesP t.nodes),.p (.int .i64 t.next),VVal.own (Id.arg 1 0) 0 0 hs.length,.p (.int .i64 z),.p (chsP l),VVal.own (Id.arg 2 0) 0 0 eff.length,VVal.mref (Id.arg 3 0) 0]) /\ s.h (.arg 1 0) = some (0,Ob.arr 4 (List.map Hg.pv hs)) /\ s.h (.arg 2 0) = some (0,Ob.arr 3 (List.map Pr.pv eff)) /\ s.h (.arg 3 0) = some (0,Ob.map kt tk tv) /\ s.h (.slot 3 0) = some (0,Ob.box [.p (PV.fn fo),.p (PV.fn fp),.p (.bool out),.p (.bool low)]) /\ s.h (.slot 14 0) = some (0,Ob.map (KT.int IntKind.i64) ks vs) /\ s.h (.slot 25 1) = some (0,Ob.arr 2 (List.map Ch.pv T)):=⟨_,fun _ _=>Iff.rfl⟩
 refine wp_count (T.length) I ?_ ?_
 ·refine (hI _ _).2 ⟨[],[],?_,?_,?_,?_,?_,?_,?_,?_,?_,?_,?_,?_,?_,?_⟩
  ·exact RepD.nil.congr fun x=>by simp [lookC]
  all_goals exact cl0
 intro k s hk hIk
 obtain ⟨ks,vs,hrep,h0,h3,h5,h28,h29,h30,ha0,ha1,ha2,ha3,hh3_0,hh14_0,hh25_1⟩:=(hI _ _).1 hIk
 clear hIk
 simp -implicitDefEqProofs (disch:=omega) only [h0,h3,h5,h28,h29,h30,ha0,ha1,ha2,ha3,hh3_0,hh14_0,hh25_1,go_sem,↓reduceIte,rA,rS,rE,rL,reduceCtorEq]
 refine wp_if_d (fun hlt=>?_) (fun hge=>?_)
 ·have hm : T[k]? = some T[k]:=lgg hlt
  have htk:=take_snoc hm
  have hlt' : ∀ d ∈ T.take k,d.group ≠ T[k].group:=by
   intro d hd
   obtain ⟨j,hj,rfl⟩:=List.mem_take_iff_getElem.1 hd
   have:=List.pairwise_iff_getElem.1 htinc j k (by omega) hlt (by omega)
   omega
  generalize T[k] = c at hm htk hlt'
  have hnew:=(hrep.put c.group c.own).congr (g:=fun x=>(lookC (T.take (k + 1)) x).getD 0) fun x=>by
   rw [htk,lookC_snoc c x _ hlt']
   by_cases hx : x = c.group
   ·simp [hx]
   ·simp [hx]
  simp -implicitDefEqProofs (disch:=omega) only [h0,h3,h5,h28,h29,h30,ha0,ha1,ha2,ha3,hh3_0,hh14_0,hh25_1,hlt,hm,Ch.pv,go_sem,↓reduceIte,rA,rS,rE,rL,reduceCtorEq]
  try refine And.intro (by omega) ?_
  refine (hI _ _).2 ⟨(mput ks vs (.int c.group) (.int .i64 c.own)).1,(mput ks vs (.int c.group) (.int .i64 c.own)).2,?_,?_,?_,?_,?_,?_,?_,?_,?_,?_,?_,?_,?_,?_⟩
  ·exact hnew
  all_goals exact cl0
 ·rw [ltl (by omega)] at hrep
  have hrep:=hrep.congr hlk
  simp -implicitDefEqProofs (disch:=omega) only [h0,h3,h5,h28,h29,h30,ha0,ha1,ha2,ha3,hh3_0,hh14_0,hh25_1,hge,go_sem,↓reduceIte,rA,rS,rE,rL,reduceCtorEq]
  obtain ⟨J,hJ⟩ : ∃ I : Nat -> St -> Prop,∀ j s,I j s ↔ ∃ (acc : List Pt) (ww : Nat),acc = (eff.take j).map (prtS t hs z l own pr out) /\ acc.length <= j /\ s.pe 0 = .ptr (Id.arg 0 0) 0 0 /\ s.pe 3 = .ptr (.slot 3 0) 0 0 /\ s.pe 5 = .mref (.slot 14 0) 0 /\ s.pe 10 = .own (.slot 10 0) ww 0 acc.length /\ s.pe 43 = VVal.own (Id.arg 2 0) 0 0 eff.length /\ s.pe 44 = .p (.int .i64 ↑eff.length) /\ s.pe 45 = .p (.int .i64 j) /\ s.h (.arg 0 0) = some (0,Ob.box [.p (nodesP t.nodes),.p (.int .i64 t.next),VVal.own (Id.arg 1 0) 0 0 hs.length,.p (.int .i64 z),.p (chsP l),VVal.own (Id.arg 2 0) 0 0 eff.length,VVal.mref (Id.arg 3 0) 0]) /\ s.h (.arg 1 0) = some (0,Ob.arr 4 (List.map Hg.pv hs)) /\ s.h (.arg 2 0) = some (0,Ob.arr 3 (List.map Pr.pv eff)) /\ s.h (.arg 3 0) = some (0,Ob.map kt tk tv) /\ s.h (.slot 3 0) = some (0,Ob.box [.p (PV.fn fo),.p (PV.fn fp),.p (.bool out),.p (.bool low)]) /\ s.h (.slot 10 0) = some (ww,Ob.arr 5 (acc.map Pt.pv)) /\ s.h (.slot 14 0) = some (0,Ob.map (KT.int IntKind.i64) ks vs):=⟨_,fun _ _=>Iff.rfl⟩
  refine wp_count (eff.length) J ?_ ?_
  ·refine (hJ _ _).2 ⟨[],nv (s.h (.slot 10 0)),?_,?_,?_,?_,?_,?_,?_,?_,?_,?_,?_,?_,?_,?_,?_,?_⟩
   ·exact by simp
   ·exact by simp
   all_goals exact cl0
  intro j s hj hJk
  obtain ⟨acc,ww,hacc,hal,h0,h3,h5,h10,h43,h44,h45,ha0,ha1,ha2,ha3,hh3_0,hh10_0,hh14_0⟩:=(hJ _ _).1 hJk
  clear hJk
  simp -implicitDefEqProofs (disch:=omega) only [h0,h3,h5,h10,h43,h44,h45,ha0,ha1,ha2,ha3,hh3_0,hh10_0,hh14_0,go_sem,↓reduceIte,rA,rS,rE,rL,reduceCtorEq]
  refine wp_if_d (fun hjl=>?_) (fun hjg=>?_)
  ·have hx : eff[j]? = some eff[j]:=lgg hjl
   have htk:=take_snoc hx
   generalize eff[j] = e at hx htk
   have hu:=hrep e.group
   have ho:=hown (getS hs e.group)
   have hp:=hpr e
   have hg:=hget e.group
   have hr:=hroom e.group
   have hnew : ∀ r,(if out = true then roomS t hs z l e.group else 4611686018427387904) = r -> acc ++ [⟨e.group,usedF t C e.group,pr e,own (getS hs e.group),r⟩] = (eff.take (j + 1)).map (prtS t hs z l own pr out):=by
    intro r hr
    rw [<- hr,hacc,htk,lma,<- hC]
    rfl
   simp only [Pr.vv] at hp
   cases out with
   | false =>
    simp -implicitDefEqProofs (disch:=omega) only [h0,h3,h5,h10,h43,h44,h45,ha0,ha1,ha2,ha3,hh3_0,hh10_0,hh14_0,hjl,hx,hu,ho,hp,hg,Pr.pv,go_sem,↓reduceIte,rA,rS,rE,rL,reduceCtorEq]
    try refine And.intro (by omega) ?_
    refine (hJ _ _).2 ⟨acc ++ [⟨e.group,usedF t C e.group,pr e,own (getS hs e.group),4611686018427387904⟩],ww + 1,?_,?_,?_,?_,?_,?_,?_,?_,?_,?_,?_,?_,?_,?_,?_,?_⟩
    .exact hnew _ rfl
    .exact by simp; omega
    all_goals exact cl0
   | true =>
    simp -implicitDefEqProofs (disch:=omega) only [h0,h3,h5,h10,h43,h44,h45,ha0,ha1,ha2,ha3,hh3_0,hh10_0,hh14_0,hjl,hx,hu,ho,hp,hg,hr,Pr.pv,go_sem,↓reduceIte,rA,rS,rE,rL,reduceCtorEq]
    try refine And.intro (by omega) ?_
    refine (hJ _ _).2 ⟨acc ++ [⟨e.group,usedF t C e.group,pr e,own (getS hs e.group),roomS t hs z l e.group⟩],ww + 1,?_,?_,?_,?_,?_,?_,?_,?_,?_,?_,?_,?_,?_,?_,?_,?_⟩
    .exact hnew _ rfl
    .exact by simp; omega
    all_goals exact cl0
  ·rw [ltl (by omega)] at hacc
   simp -implicitDefEqProofs (disch:=omega) only [h0,h3,h5,h10,h43,h44,h45,ha0,ha1,ha2,ha3,hh3_0,hh10_0,hh14_0,hjg,go_sem,↓reduceIte,rA,rS,rE,rL,reduceCtorEq]
   rw [hacc]
theorem mput_keys : ∀ (ks : List MKey) (vs : List PV) (k : MKey) (v w : PV),(mput ks vs k v).1 = (mput ks vs k w).1
 | [],_,_,_,_=>rfl
 | _ :: _,[],_,_,_=>rfl
 | a :: ks,b :: vs,k,v,w=>by
  have ih:=mput_keys ks vs k v w
  unfold mput
  split
  .rfl
  .simpa using ih
theorem mput_set : ∀ (ks : List MKey) (vs : List PV) (k : MKey) (v x : PV),ks.length = vs.length -> (mput ks vs k v).2.set (kpos ks k) x = (mput ks vs k x).2 /\ kpos ks k < (mput ks vs k v).2.length
 | [],[],_,_,_,_=>by simp [mput,kpos]
 | [],_ :: _,_,_,_,h=>by simp at h
 | _ :: _,[],_,_,_,h=>by simp at h
 | a :: ks,b :: vs,k,v,x,h=>by
  have ih:=mput_set ks vs k v x (by simpa using h)
  unfold mput kpos
  split
  .simp
  .simpa using ih
structure RepH (ks : List MKey) (vs : List PV) (f : Int -> Sh) : Prop where
 len : ks.length = vs.length
 get : ∀ id,(mget ks vs (.int id)).getD (.agg [.int .i64 0,.int .i64 0,.int .i64 0,.int .i64 0]) = (f id).pv
theorem RepH.nil : RepH [] [] fun _=>zeroSh:=⟨rfl,fun _=>rfl⟩
theorem RepH.put {ks : List MKey} {vs : List PV} {f : Int -> Sh} (h : RepH ks vs f) (g : Int) (v : Sh) : RepH (mput ks vs (.int g) v.pv).1 (mput ks vs (.int g) v.pv).2 (fun x=>if x = g then v else f x):=by
 refine ⟨mput_len _ _ _ _ h.len,fun id=>?_⟩
 rw [mget_mput]
 by_cases hg : id = g
 ·subst hg
  simp
 ·simp [hg]
  exact h.get id
set_option maxHeartbeats 4000000 in
theorem stake_eq (t : Tr) (hs : List Hg) (z : Int) (l : List Ch) (eff : List Pr) (hl : hs.length < 1000000) {fo fp : FuncId} (out low : Bool) (id n : Int) {tk : List MKey} {tv : List PV} {f : Int -> Sh} (hf : RepH tk tv f) (hn : inPg n) (hh : inPg (getS hs id).file /\ inPg (getS hs id).anon /\ inPg (getS hs id).swap) (hk : inPg (f id).file /\ inPg (f id).anon /\ inPg (f id).low) :
  V 74 [.ptr (.arg 0 0) 0 0,.agg [.p (.fn fo),.p (.fn fp),.p (.bool out),.p (.bool low)],.p (.int .i64 id),.p (.int .i64 n)] [.box [.p (nodesP t.nodes),.p (.int .i64 t.next),.own (.arg 1 0) 0 0 hs.length,.p (.int .i64 z),.p (chsP l),.own (.arg 2 0) 0 0 eff.length,.mref (.arg 3 0) 0],.arr 4 (hs.map Hg.pv),.arr 3 (eff.map Pr.pv),.map (.int .i64) tk tv] = some (.tup [],[.box [.p (nodesP t.nodes),.p (.int .i64 t.next),.fresh 4 ((putS hs (takeH out (getS hs id) n)).map Hg.pv),.p (.int .i64 z),.p (chsP l),.own (.arg 2 0) 0 0 eff.length,.mref (.arg 3 0) 0],.arr 4 (hs.map Hg.pv),.arr 3 (eff.map Pr.pv),.map (.int .i64) (mput tk tv (.int id) (takeK out low id (f id) n).pv).1 (mput tk tv (.int id) (takeK out low id (f id) n).pv).2]):=by
 refine V_wp (vf:=vf74) rfl ?_
 have hget:=sget_eq ⟨hs,z⟩ id hl
 have hput:=fun a b c d : Int=>sput_eq ⟨hs,z⟩ ⟨a,b,c,d⟩ hl
 have hg:=hf.get id
 have hkey:=fun v : PV=>mput_keys tk tv (.int id) v (takeK out low id (f id) n).pv
 have hset:=fun v x : PV=>(mput_set tk tv (.int id) v x hf.len).1
 have hlt:=fun v : PV=>(mput_set tk tv (.int id) v v hf.len).2
 simp only [Stk.vv] at hget
 simp only [Stk.vv,Stk.fv,Hg.vv] at hput
 obtain ⟨a1,a2,a3⟩:=hh
 obtain ⟨b1,b2,b3⟩:=hk
 have hgid:=getS_group hs id
 generalize getS hs id = x at hget a1 a2 a3 hgid ⊢
 generalize f id = k at hg b1 b2 b3 hkey ⊢
 obtain ⟨xg,xf,xa,xs⟩:=x
 obtain ⟨kg,kf,ka,kl⟩:=k
 simp only [inPg] at a1 a2 a3 b1 b2 b3 hn
 simp only [Sh.pv] at hg hkey
 cases out <;> cases low <;> (simp only [takeK,takeH,if_true,if_false,bft] at hkey ⊢; simp -implicitDefEqProofs (disch:=omega) only [vf74,vb74,hget,hg,hput,Hg.vv,hlt,hset,hkey,Sh.pv,go_sem,↓reduceIte,rA,rS,rE,rL,reduceCtorEq])
def swCh (hs : List Hg) : List Ch:=hs.map fun h=>⟨h.group,h.swap⟩
theorem swCh_own : ∀ (hs : List Hg) (g : Int),ownC (swCh hs) g = swpF hs g
 | [],_=>rfl
 | h :: hs,g=>by
  have ih:=swCh_own hs g
  unfold swpF at ih ⊢
  show (if h.group = g then h.swap else ownC (swCh hs) g) = _
  rw [show getS (h :: hs) g = if h.group = g then h else getS hs g from rfl,ih]
  split <;> rfl
theorem swT_root {t : Tr} (h : TreeOk t) {z : Int} {hs : List Hg} (hh : HgOk t.nodes z hs) : swT t hs 1 = sumI (hs.map (·.swap)):=by
 obtain ⟨r,hr,hr1⟩:=root_at h
 have h1:=sum_own_eq (l:=swCh hs) (by rw [swCh,List.pairwise_map]; exact hh.inc) (subF t.nodes t.nodes.length r.id) (subF_nodup h hr) fun d hd=>by
  obtain ⟨x,hx,rfl⟩:=lmm.1 hd
  obtain ⟨m,hm,he⟩:=findN_some (hh.known x hx)
  obtain ⟨j,hj⟩:=lgm hm
  show x.group ∈ _
  rw [<- he]
  exact (mem_sub h hr _).2 ⟨j,m,hj,rfl,by rw [hr1]; exact root_anc h j m hj⟩
 rw [swCh,List.map_map] at h1
 rw [swT,<- hr1,subT_some h hr]
 refine Eq.trans ?_ h1
 refine congrArg sumI (List.map_congr_left fun g _=>?_)
 rw [<- swCh_own]
 rfl
theorem roomS_bound {t : Tr} (h : TreeOk t) {z : Int} {hs : List Hg} (hh : HgOk t.nodes z hs) (l : List Ch) (g : Int) : 0 <= roomS t hs z l g /\ roomS t hs z l g <= z - sumI (hs.map (·.swap)):=by
 have h1:=leftS_le (swT t hs) l (ancF t.nodes t.nodes.length g) (z - swT t hs 1)
 have h2:=hh.out
 rw [swT_root h hh] at h1
 unfold roomS
 rw [swT_root h hh]
 omega
theorem sw_nonneg {ns : List Nd} {z : Int} {hs : List Hg} (hh : HgOk ns z hs) : 0 <= sumI (hs.map (·.swap)):=sumI_map_nonneg _ fun x hx=>(hh.swap x hx).1
theorem usedF_bound {t : Tr} (h : TreeOk t) {c : List Ch} (hc : ChOk t.nodes c) (g : Int) : 0 <= usedF t c g /\ usedF t c g <= 16777216:=by
 unfold usedF
 split
 ·rename_i hf
  obtain ⟨n,hn,rfl⟩:=findN_some hf
  obtain ⟨j,hj⟩:=lgm hn
  have h1:=tot_le h hc hj
  have h2:=tot_nonneg t (ownC_nonneg hc.pos) n.id
  have h3:=hc.all
  omega
 .omega
structure EffOk (t : Tr) (root : Int) (eff : List Pr) : Prop where
 groups : eff.map (·.group) = msort (subT t root)
 bound : ∀ e ∈ eff,(0 <= e.least /\ e.least <= 16777216) /\ (0 <= e.low /\ e.low <= 16777216)
def effL (t : Tr) (c : List Ch) (l : List Pr) (root : Int) : List Pr:=(msort (subT t root)).map (effPr t c l root)
theorem claim_bound {t : Tr} (h : TreeOk t) {c : List Ch} (hc : ChOk t.nodes c) (f : Pr -> Int) {l : List Pr} (hf : ∀ y ∈ l,0 <= f y) (x : Int) : 0 <= min (usedF t c x) (lookPr f l x) /\ min (usedF t c x) (lookPr f l x) <= 16777216:=by
 have h1:=lookPr_bound f hf x
 have h2:=usedF_bound h hc x
 omega
theorem effL_ok {t : Tr} (h : TreeOk t) {c : List Ch} (hc : ChOk t.nodes c) {l : List Pr} (hl : PrOk t.nodes l) (root : Int) : EffOk t root (effL t c l root):=by
 refine ⟨?_,fun e he=>?_⟩
 ·unfold effL
  rw [List.map_map]
  exact List.map_id _
 ·obtain ⟨g,_,rfl⟩:=lmm.1 he
  exact ⟨effT_bound t _ (claim_bound h hc (·.least) fun y hy=>(hl.least y hy).1) root g,effT_bound t _ (claim_bound h hc (·.low) fun y hy=>(hl.low y hy).1) root g⟩
theorem parts_okS {t : Tr} (h : TreeOk t) {root : Int} (hr : InN t.nodes root) {hs : List Hg} {z : Int} (hh : HgOk t.nodes z hs) (hz : inPg z) (l : List Ch) {eff : List Pr} (he : EffOk t root eff) {own : Hg -> Int} {pr : Pr -> Int} (hown : ∀ g,inPg (own (getS hs g))) (hpr : ∀ e ∈ eff,inPg (pr e)) (out : Bool) : PartsOk t (eff.map (prtS t hs z l own pr out)) root:=by
 refine ⟨h,hr,?_,fun x hx=>?_⟩
 ·rw [List.map_map]
  exact he.groups
 ·obtain ⟨e,hem,rfl⟩:=lmm.1 hx
  have h1:=usedF_bound h (cntS_ok hh) e.group
  have h2:=hown e.group
  have h3:=hpr e hem
  have h4:=roomS_bound h hh l e.group
  have h5:=sw_nonneg hh
  unfold inPg at h2 h3 hz
  refine ⟨h1.1,h1.2,h3.1,h3.2,h2.1,h2.2,?_,?_⟩
  ·show 0 <= if out = true then roomS t hs z l e.group else 4611686018427387904
   split <;> omega
  ·show (if out = true then roomS t hs z l e.group else 4611686018427387904) <= 4611686018427387904
   split <;> omega
theorem partOf_prt {t : Tr} {hs : List Hg} {z : Int} {l : List Ch} {own : Hg -> Int} {pr : Pr -> Int} {out : Bool} {g : Int} : ∀ {eff : List Pr},g ∈ eff.map (·.group) -> ∃ e ∈ eff,e.group = g /\ partOf (eff.map (prtS t hs z l own pr out)) g = prtS t hs z l own pr out e
 | [],h=>by simp at h
 | e :: eff,h=>by
  unfold partOf
  rw [lpc,List.find?_cons]
  by_cases he : e.group = g
  ·refine ⟨e,by simp,he,?_⟩
   simp [prtS,he]
  ·have h1 : g ∈ eff.map (·.group):=by simpa [Ne.symm he,eq_comm] using h
   obtain ⟨e',he',hg,hp⟩:=partOf_prt (t:=t) (hs:=hs) (z:=z) (l:=l) (own:=own) (pr:=pr) (out:=out) h1
   refine ⟨e',by simp [he'],hg,?_⟩
   have : decide ((prtS t hs z l own pr out e).group = g) = false:=decide_eq_false he
   rw [this]
   exact hp
theorem effOk_mem {t : Tr} (h : TreeOk t) {root : Int} (hr : InN t.nodes root) {eff : List Pr} (he : EffOk t root eff) (g : Int) : g ∈ eff.map (·.group) ↔ g ∈ subA t root:=by
 obtain ⟨i,n,hn,hre⟩:=hr
 rw [he.groups,(msort_perm _).mem_iff,<- hre,subT_some h hn]
def ownS (out : Bool) (x : Hg) : Int:=if out then x.anon else x.file
def prS (low : Bool) (x : Pr) : Int:=if low then x.least else max x.least x.low
abbrev ShSt:=List Hg × (Int -> Sh) × Int
abbrev partsS (t : Tr) (z : Int) (l : List Ch) (eff : List Pr) (out low : Bool) (hs : List Hg) : List Pt:=eff.map (prtS t hs z l (ownS out) (prS low) out)
def takesS (t : Tr) (z : Int) (l : List Ch) (eff : List Pr) (root : Int) (out low : Bool) (s : ShSt) : List (Int × Int):=(RoundP t (partsS t z l eff out low s.1) root s.2.2).1
def takeSt (out low : Bool) (s : ShSt) (a : List (Int × Int)) : ShSt:=((takeAll out low (s.1,s.2.1) a).1,(takeAll out low (s.1,s.2.1) a).2,s.2.2 - sumI (a.map Prod.snd))
def rndS (t : Tr) (z : Int) (l : List Ch) (eff : List Pr) (root : Int) (out low : Bool) (s : ShSt) : ShSt:=takeSt out low s (takesS t z l eff root out low s)
def outR (k : Nat) : Bool:=decide (k % 2 = 1)
def lowR (k : Nat) : Bool:=decide (2 <= k)
def shrS (t : Tr) (z : Int) (l : List Ch) (eff : List Pr) (root : Int) (s0 : ShSt) : Nat -> ShSt
 | 0=>s0
 | k + 1=>rndS t z l eff root (outR k) (lowR k) (shrS t z l eff root s0 k)
structure ShOk (t : Tr) (z n0 : Int) (s : ShSt) : Prop where
 hs : HgOk t.nodes z s.1
 left : 0 <= s.2.2 /\ s.2.2 <= n0
 file : ∀ x,0 <= (s.2.1 x).file /\ (s.2.1 x).file <= n0 - s.2.2
 anon : ∀ x,0 <= (s.2.1 x).anon /\ (s.2.1 x).anon <= n0 - s.2.2
 low : ∀ x,0 <= (s.2.1 x).low /\ (s.2.1 x).low <= n0 - s.2.2
 grp : ∀ x,s.2.1 x = zeroSh \/ (s.2.1 x).group = x
theorem sumOn_le {S : List Int} {a : List (Int × Int)} (h : ∀ q ∈ a,0 <= q.2) : sumOn S a <= sumI (a.map Prod.snd):=by
 induction a with
 | nil=>exact Int.le_refl _
 | cons q a ih =>
  have h1:=ih fun r hr=>h r (by simp [hr])
  have h2:=h q (by simp)
  have h3 : sumOn S (q :: a) = (if q.1 ∈ S then q.2 else 0) + sumOn S a:=rfl
  rw [h3,lpc,sumI]
  split <;> omega
theorem takeSt_ok {t : Tr} {z n0 : Int} (hz : z <= 16777216) {s : ShSt} (hs : ShOk t z n0 s) (out low : Bool) {a : List (Int × Int)} (hq : ∀ q ∈ a,0 < q.2 /\ (findN t.nodes q.1).isSome = true) (ho : ∀ x,sumOn [x] a <= ownS out (getS s.1 x)) (hsw : out = true -> sumI (s.1.map (·.swap)) + sumI (a.map Prod.snd) <= z) (hl : sumI (a.map Prod.snd) <= s.2.2) : ShOk t z n0 (takeSt out low s a):=by
 have h1:=takeAll_ok hz out low a (s.1,s.2.1) hs.hs hq (fun x=>by
  have:=ho x
  unfold ownS at this
  exact this) hsw
 have hq0 : ∀ q ∈ a,0 <= q.2:=fun q hqm=>by have:=(hq q hqm).1; omega
 have hsn : 0 <= sumI (a.map Prod.snd):=sumI_map_nonneg _ hq0
 have hon : ∀ x,0 <= sumOn [x] a /\ sumOn [x] a <= sumI (a.map Prod.snd):=fun x=>⟨sumOn_nonneg hq0,sumOn_le hq0⟩
 have hle:=hs.left
 have key : ∀ x,(takeSt out low s a).2.1 x = if x ∈ a.map Prod.fst then takeK out low x (s.2.1 x) (sumOn [x] a) else s.2.1 x:=fun x=>takeAll_note out low x a (s.1,s.2.1)
 have hn : (takeSt out low s a).2.2 = s.2.2 - sumI (a.map Prod.snd):=rfl
 refine ⟨h1.1,by rw [hn]; omega,fun x=>?_,fun x=>?_,fun x=>?_,fun x=>?_⟩
 ·rw [key x,hn]
  have b1:=hs.file x
  have b2:=hon x
  split
  ·unfold takeK
   cases out <;> simp <;> omega
  ·omega
 ·rw [key x,hn]
  have b1:=hs.anon x
  have b2:=hon x
  split
  ·unfold takeK
   cases out <;> simp <;> omega
  ·omega
 ·rw [key x,hn]
  have b1:=hs.low x
  have b2:=hon x
  split
  ·unfold takeK
   cases low <;> simp <;> omega
  .omega
 ·rw [key x]
  split
  .exact .inr rfl
  .exact hs.grp x
theorem sumI_take {f : Int × Int -> Int} : ∀ (a : List (Int × Int)) (j : Nat),(∀ q ∈ a,0 <= f q) -> sumI ((a.take j).map f) <= sumI (a.map f)
 | [],j,_=>by simp
 | q :: a,0,h=>by
  have:=sumI_map_nonneg (f:=f) (q :: a) h
  simpa [sumI] using this
 | q :: a,j + 1,h=>by
  have ih:=sumI_take a j fun r hr=>h r (by simp [hr])
  simp only [List.take_succ_cons,lpc,sumI]
  omega
theorem round_S {t : Tr} (h : TreeOk t) {root : Int} (hr : InN t.nodes root) {z n0 : Int} (hz : inPg z) (hn : n0 <= 16777216) (l : List Ch) {eff : List Pr} (he : EffOk t root eff) (out low : Bool) {s : ShSt} (hs : ShOk t z n0 s) :
  PartsOk t (partsS t z l eff out low s.1) root /\ RoundP t (partsS t z l eff out low s.1) root s.2.2 = (takesS t z l eff root out low s,0) /\ RoundOk t (partsS t z l eff out low s.1) root (min s.2.2 (capR t (partsS t z l eff out low s.1) root)) (takesS t z l eff root out low s) /\ sumI ((takesS t z l eff root out low s).map Prod.snd) = min s.2.2 (capR t (partsS t z l eff out low s.1) root) /\ (∀ x,sumOn [x] (takesS t z l eff root out low s) <= ownS out (getS s.1 x)) /\ ∀ j,ShOk t z n0 (takeSt out low s ((takesS t z l eff root out low s).take j)):=by
 have hP : PartsOk t (partsS t z l eff out low s.1) root:=parts_okS h hr hs.hs hz l he (fun g=>by
  obtain ⟨a,b,_⟩:=hs.hs.get g
  unfold ownS
  cases out <;> simp <;> assumption) (fun e hem=>by
  have:=he.bound e hem
  unfold prS inPg
  cases low <;> simp <;> omega) out
 have hle:=hs.left
 obtain ⟨a,ha,hR⟩:=round_ok hP hle.1 (by omega)
 have hta : takesS t z l eff root out low s = a:=by unfold takesS; rw [ha]
 rw [hta]
 have hq0 : ∀ q ∈ a,0 <= q.2:=fun q hqm=>by have:=(hR.pos q hqm).1; omega
 have hsum : sumI (a.map Prod.snd) = min s.2.2 (capR t (partsS t z l eff out low s.1) root):=by
  rw [<- hR.top,hR.on root hr,sumOn_all fun q hq=>hR.groups q hq]
 have hown : ∀ x,sumOn [x] a <= ownS out (getS s.1 x):=fun x=>by
  by_cases hx : x ∈ subA t root
  ·have h1:=(own_taken hP.ok hR x).2
   obtain ⟨e,hem,hg,hp⟩:=partOf_prt (t:=t) (hs:=s.1) (z:=z) (l:=l) (own:=ownS out) (pr:=prS low) (out:=out) ((effOk_mem h hr he x).2 hx)
   rw [hp] at h1
   show sumOn [x] a <= ownS out (getS s.1 x)
   rw [<- hg] at h1 ⊢
   exact h1
  ·rw [sumOn_zero fun q hq hqx=>hx (by
    have:=hR.groups q hq
    simp only [List.mem_singleton] at hqx
    rw [<- hqx]
    exact this)]
   obtain ⟨a1,a2,_⟩:=hs.hs.get x
   unfold ownS inPg at *
   cases out <;> simp <;> omega
 have hsw : out = true -> sumI (s.1.map (·.swap)) + sumI (a.map Prod.snd) <= z:=fun ho=>by
  have h1:=(cap_le h (l:=partsS t z l eff out low s.1) hr).1
  obtain ⟨e,hem,hg,hp⟩:=partOf_prt (t:=t) (hs:=s.1) (z:=z) (l:=l) (own:=ownS out) (pr:=prS low) (out:=out) ((effOk_mem h hr he root).2 (subA_self h hr))
  rw [hp] at h1
  have h2:=(roomS_bound h hs.hs l e.group).2
  simp only [prtS,ho,if_true] at h1
  rw [hsum]
  subst ho
  omega
 refine ⟨hP,ha,hR,hsum,hown,fun j=>?_⟩
 have htl:=sumI_take a j (f:=Prod.snd) hq0
 refine takeSt_ok hz.2 hs out low (fun q hq=>?_) (fun x=>?_) (fun ho=>?_) ?_
 ·have hqm:=List.mem_of_mem_take hq
  refine ⟨(hR.pos q hqm).1,?_⟩
  obtain ⟨i,n,hn',hne⟩:=subA_in h hr (hR.groups q hqm)
  rw [<- hne,findN_unique h.inc hn']
  rfl
 ·have:=hown x
  have:=sumOn_take (S:=[x]) hq0 j
  omega
 ·have:=hsw ho
  omega
 .omega
theorem shr_ok {t : Tr} (h : TreeOk t) {root : Int} (hr : InN t.nodes root) {z n0 : Int} (hz : inPg z) (hn : n0 <= 16777216) (l : List Ch) {eff : List Pr} (he : EffOk t root eff) {s0 : ShSt} (hs : ShOk t z n0 s0) : ∀ k,ShOk t z n0 (shrS t z l eff root s0 k)
 | 0=>hs
 | k + 1=>by
  have ih:=shr_ok h hr hz hn l he hs k
  have h1:=(round_S h hr hz hn l he (outR k) (lowR k) ih).2.2.2.2.2 (takesS t z l eff root (outR k) (lowR k) (shrS t z l eff root s0 k)).length
  rw [List.take_length] at h1
  exact h1
theorem shr0_ok {t : Tr} {z n : Int} {hs : List Hg} (hh : HgOk t.nodes z hs) (hn : 0 <= n) : ShOk t z n (hs,(fun _=>zeroSh),n):=by
 refine ⟨hh,⟨hn,Int.le_refl _⟩,fun _=>?_,fun _=>?_,fun _=>?_,fun _=>.inl rfl⟩ <;> (simp only []; omega)
def outL (f : Int -> Sh) (eff : List Pr) : List Sh:=(eff.map fun e=>f e.group).filter fun k=>decide (k.group ≠ 0)
def ShrinkS (t : Tr) (sw : Stk) (p : List Pr) (l : List Ch) (root n : Int) : Stk × List Sh × Int :=
 if validS t sw && validPr t p && validLK t l then
  if (findN t.nodes root).isSome then
   if pagesB n then (⟨(shrS t sw.size l (effL t (cntS sw.hs) p root) root (sw.hs,(fun _=>zeroSh),n) 4).1,sw.size⟩,outL (shrS t sw.size l (effL t (cntS sw.hs) p root) root (sw.hs,(fun _=>zeroSh),n) 4).2.1 (effL t (cntS sw.hs) p root),0)
   else (⟨[],0⟩,[],3)
  else (⟨[],0⟩,[],4)
 else (⟨[],0⟩,[],1)
theorem fileF_eq (x : Hg) : V 68 [x.vv] [] = some (.p (.int .i64 x.file),[]):=by
 refine V_wp (vf:=vf68) rfl ?_
 simp -implicitDefEqProofs (disch:=omega) only [vf68,vb68,go_sem,↓reduceIte,rA,rS,rE,rL,reduceCtorEq]
theorem anonF_eq (x : Hg) : V 70 [x.vv] [] = some (.p (.int .i64 x.anon),[]):=by
 refine V_wp (vf:=vf70) rfl ?_
 simp -implicitDefEqProofs (disch:=omega) only [vf70,vb70,go_sem,↓reduceIte,rA,rS,rE,rL,reduceCtorEq]
theorem highF_eq (x : Pr) : V 69 [x.vv] [] = some (.p (.int .i64 (max x.least x.low)),[]):=by
 refine V_wp (vf:=vf69) rfl ?_
 simp -implicitDefEqProofs (disch:=omega) only [vf69,vb69,go_sem,↓reduceIte,rA,rS,rE,rL,reduceCtorEq]
theorem lowF2_eq (x : Pr) : V 71 [x.vv] [] = some (.p (.int .i64 x.least),[]):=by
 refine V_wp (vf:=vf71) rfl ?_
 simp -implicitDefEqProofs (disch:=omega) only [vf71,vb71,go_sem,↓reduceIte,rA,rS,rE,rL,reduceCtorEq]
def fnO (out : Bool) : FuncId:=if out then 70 else 68
def fnP (low : Bool) : FuncId:=if low then 71 else 69
theorem fnO_eq (out : Bool) (x : Hg) : V (fnO out) [x.vv] [] = some (.p (.int .i64 (ownS out x)),[]):=by
 cases out
 .exact fileF_eq x
 .exact anonF_eq x
theorem fnP_eq (low : Bool) (x : Pr) : V (fnP low) [x.vv] [] = some (.p (.int .i64 (prS low x)),[]):=by
 cases low
 .exact highF_eq x
 .exact lowF2_eq x
theorem takeSt_snoc (out low : Bool) (s : ShSt) (b : List (Int × Int)) (q : Int × Int) : takeSt out low s (b ++ [q]) = (putS (takeSt out low s b).1 (takeH out (getS (takeSt out low s b).1 q.1) q.2),(fun x=>if x = q.1 then takeK out low q.1 ((takeSt out low s b).2.1 q.1) q.2 else (takeSt out low s b).2.1 x),(takeSt out low s b).2.2 - q.2):=by
 unfold takeSt takeAll
 rw [lfa,lma,sumI_append]
 simp only [List.foldl_cons,List.foldl_nil,takeOne,lpc,lpn,sumI]
 congr 2
 omega
theorem outL_snoc (f : Int -> Sh) (eff : List Pr) (e : Pr) : outL f (eff ++ [e]) = outL f eff ++ if (f e.group).group = 0 then [] else [f e.group]:=by
 unfold outL
 rw [lma,List.filter_append]
 congr 1
 by_cases h : (f e.group).group = 0 <;> simp [h]
theorem outL_len (f : Int -> Sh) (eff : List Pr) : (outL f eff).length <= eff.length:=by
 unfold outL
 refine Nat.le_trans (List.length_filter_le _ _) ?_
 rw [llm]
 exact lrf _
set_option maxHeartbeats 8000000 in
theorem shrink_eq (t : Tr) (sw : Stk) (p : List Pr) (l : List Ch) (root n : Int) (hf : t.Fits) (hn : t.nodes.length < 1000000) (hl : sw.hs.length < 1000000) (hpl : p.length < 1000000) (hll : l.length < 1000000) : V 19 [t.vv,sw.vv,.p (prsP p),.p (chsP l),.p (.int .i64 root),.p (.int .i64 n)] [] = some (.tup [Stk.fv (ShrinkS t sw p l root n).1,.fresh 4 ((ShrinkS t sw p l root n).2.1.map Sh.pv),.p (.int .i64 (ShrinkS t sw p l root n).2.2)],[]):=by
 refine V_wp (vf:=vf19) rfl ?_
 have hv := svalid_eq t sw hf hn hl
 have hpv:=prvalid_eq t p hf hn hpl
 have hlv:=klimits_eq t l hf hn hll
 have hck:=scheck_eq t sw root hf hn hl
 have hpg:=spages_eq n
 have e4 : decide ((4 : Int) = 0) = false:=rfl
 unfold ShrinkS
 unfold checkS at hck
 by_cases h1 : validS t sw = true
 ·rw [h1] at hv hck ⊢
  by_cases h2 : validPr t p = true
  ·rw [h2] at hpv ⊢
   by_cases h3 : validLK t l = true
   ·rw [h3] at hlv ⊢
    by_cases h4 : (findN t.nodes root).isSome = true
    ·rw [h4] at hck ⊢
     by_cases h5 : pagesB n = true
     ·rw [h5] at hpg ⊢
      have hS:=(validS_iff t sw).1 h1
      have hT:=hS.tree
      have hPr:=((validPr_iff t p).1 h2).2
      have hL:=LimOk.of ((validLK_iff t l).1 h3).2
      have hlen:=hT.len
      have hr : InN t.nodes root:=by
       obtain ⟨m,hm,he⟩:=findN_some h4
       obtain ⟨j,hj⟩:=lgm hm
       exact ⟨j,m,hj,he⟩
      have hcn:=cntS_ok hS.hs
      have hct:=scounter_eq sw hl (fun x hx=>⟨hS.hs.file x hx,hS.hs.anon x hx⟩)
      have hef:=pEff_ok hT hcn hPr hr hpl
      have heo:=effL_ok hT hcn hPr root
      have hnb:=pagesB_true h5
      have hz : inPg sw.size:=⟨hS.z0,hS.z1⟩
      have hsh:=shr_ok hT hr hz hnb.2 l heo (shr0_ok hS.hs hnb.1)
      have hrd:=fun k=>round_S hT hr hz hnb.2 l heo (outR k) (lowR k) (hsh k)
      have hS0 : shrS t sw.size l (effL t (cntS sw.hs) p root) root (sw.hs,(fun _=>zeroSh),n) 0 = (sw.hs,(fun _=>zeroSh),n):=rfl
      have hSs : ∀ k,shrS t sw.size l (effL t (cntS sw.hs) p root) root (sw.hs,(fun _=>zeroSh),n) (k + 1) = rndS t sw.size l (effL t (cntS sw.hs) p root) root (outR k) (lowR k) (shrS t sw.size l (effL t (cntS sw.hs) p root) root (sw.hs,(fun _=>zeroSh),n) k):=fun _=>rfl
      have hel : (effL t (cntS sw.hs) p root).length <= 64:=by
       have h6:=subT_len hT root
       unfold effL
       rw [llm,msort_length]
       omega
      have hemap : (msort (subT t root)).map (fun g=>(effPr t (cntS sw.hs) p root g).pv) = (effL t (cntS sw.hs) p root).map Pr.pv:=by
       unfold effL
       rw [List.map_map]
       rfl
      have hpt : ∀ (hs : List Hg) (k : Nat) (kt : KT) (tk : List MKey) (tv : List PV),HgOk t.nodes sw.size hs -> _:=fun hs k kt tk tv hh=>sparts_eq hT hh hz hL hll (effL t (cntS sw.hs) p root) (by omega) (fnO_eq (outR k)) (fnP_eq (lowR k)) (outR k) (lowR k) kt tk tv
      have hro:=fun (q : List Pt) (m : Int) (hq : q.length < 1000000)=>round_eq t q root m hT.fits (by omega) hq
      rw [hemap] at hef
      generalize hE : effL t (cntS sw.hs) p root = eff at hef heo hsh hrd hS0 hSs hel hemap hpt
      generalize hF : shrS t sw.size l eff root (sw.hs,(fun _=>zeroSh),n) = F at hsh hrd hS0 hSs ⊢
      simp -implicitDefEqProofs (disch:=omega) only [vf19,vb19,hv,hpv,hlv,hck,hpg,hct,hef,go_sem,↓reduceIte,rA,rS,rE,rL,reduceCtorEq]
      obtain ⟨I,hI⟩ : ∃ I : Nat -> St -> Prop,∀ k s,I k s ↔ ∃ (ks : List MKey) (vs : List PV) (ww : Nat),RepH ks vs (F k).2.1 /\ s.pe 4 = .p (.int .i64 root) /\ s.pe 5 = .p (.int .i64 (F k).2.2) /\ s.pe 6 = .ptr (.slot 6 0) 0 0 /\ s.pe 12 = .ptr (.slot 12 0) 0 0 /\ s.pe 16 = .ptr (.slot 66 0) 0 0 /\ s.pe 83 = VVal.agg [.p (PV.fn 68),.p (PV.fn 69),.p (.bool false),.p (.bool false),.p (PV.fn 70),.p (PV.fn 69),.p (.bool true),.p (.bool false),.p (PV.fn 68),.p (PV.fn 71),.p (.bool false),.p (.bool true),.p (PV.fn 70),.p (PV.fn 71),.p (.bool true),.p (.bool true)] /\ s.pe 84 = .p (.int .i64 k) /\ s.h (.slot 6 0) = some (0,Ob.box [.p (nodesP t.nodes),.p (.int .i64 t.next)]) /\ s.h (.slot 12 0) = some (0,Ob.box [.own (.slot 12 1) 0 0 0,.p (.int .i64 0)]) /\ s.h (.slot 12 1) = some (0,Ob.arr 4 []) /\ s.h (.slot 59 0) = some (ww,Ob.arr 4 (List.map Hg.pv (F k).1)) /\ s.h (.slot 64 0) = some (0,Ob.map (KT.int IntKind.i64) ks vs) /\ s.h (.slot 66 0) = some (0,Ob.box [.p (nodesP t.nodes),.p (.int .i64 t.next),.own (.slot 59 0) ww 0 (F k).1.length,.p (.int .i64 sw.size),.p (chsP l),.own (.slot 74 1) 0 0 eff.length,.mref (.slot 64 0) 0]) /\ s.h (.slot 74 1) = some (0,Ob.arr 3 (List.map Pr.pv eff)):=⟨_,fun _ _=>Iff.rfl⟩
      refine wp_count (4) I ?_ ?_
      ·refine (hI _ _).2 ⟨[],[],0,?_,?_,?_,?_,?_,?_,?_,?_,?_,?_,?_,?_,?_,?_,?_⟩
       ·exact by rw [hS0]; exact RepH.nil
       all_goals first | exact cl0 | (simp -implicitDefEqProofs (disch:=omega) only [lma,go_sem,↓reduceIte,rA,rS,rE,rL,reduceCtorEq] <;> first | (simp [hS0]; done) | (simp [hS0]; omega))
      intro k s hk hIk
      obtain ⟨ks,vs,ww,hrep,h4,h5,h6,h12,h16,h83,h84,hh6_0,hh12_0,hh12_1,hh59_0,hh64_0,hh66_0,hh74_1⟩:=(hI _ _).1 hIk
      clear hIk
      simp -implicitDefEqProofs (disch:=omega) only [h4,h5,h6,h12,h16,h83,h84,hh6_0,hh12_0,hh12_1,hh59_0,hh64_0,hh66_0,hh74_1,go_sem,↓reduceIte,rA,rS,rE,rL,reduceCtorEq]
      refine wp_if_d (fun hlt=>?_) (fun hge=>?_)
      ·have hidx : List.take 4 (List.drop (k * 4) [VVal.p (PV.fn 68),.p (PV.fn 69),.p (.bool false),.p (.bool false),.p (PV.fn 70),.p (PV.fn 69),.p (.bool true),.p (.bool false),.p (PV.fn 68),.p (PV.fn 71),.p (.bool false),.p (.bool true),.p (PV.fn 70),.p (PV.fn 71),.p (.bool true),.p (.bool true)]) = [.p (.fn (fnO (outR k))),.p (.fn (fnP (lowR k))),.p (.bool (outR k)),.p (.bool (lowR k))]:=by
        have hk4 : k = 0 \/ k = 1 \/ k = 2 \/ k = 3:=by omega
        rcases hk4 with rfl | rfl | rfl | rfl <;> rfl
       obtain ⟨hP,hRP,hRo,hsum,hown,hpre⟩:=hrd k
       have hp0:=hpt (F k).1 k (.int .i64) ks vs (hsh k).hs
       have hr0:=hro (partsS t sw.size l eff (outR k) (lowR k) (F k).1) (F k).2.2 (by rw [partsS,llm]; omega)
       rw [hRP] at hr0
       simp only at hr0
       have hPl : (eff.map (prtS t (F k).1 sw.size l (ownS (outR k)) (prS (lowR k)) (outR k))).length <= 64:=by rw [llm]; omega
       have hPo : ∀ q ∈ takesS t sw.size l eff root (outR k) (lowR k) (F k),inPg q.2:=fun q hq=>by
        have a1:=hRo.pos q hq
        have a2:=(partOf_ok hP.ok q.1).o1
        exact ⟨by omega,by omega⟩
       unfold partsS at hr0
       have hFk:=hSs k
       have hok:=hsh (k + 1)
       rw [hFk] at hok
       unfold rndS at hFk
       generalize eff.map (prtS t (F k).1 sw.size l (ownS (outR k)) (prS (lowR k)) (outR k)) = Q at hp0 hr0 hPl
       generalize takesS t sw.size l eff root (outR k) (lowR k) (F k) = a at hr0 hRo hpre hPo hFk
       have hal:=hRo.len
       have hG0 : takeSt (outR k) (lowR k) (F k) (a.take 0) = F k:=by
        unfold takeSt
        simp [takeAll,sumI]
       have hGs : ∀ (j : Nat) (q : Int × Int),a[j]? = some q -> takeSt (outR k) (lowR k) (F k) (a.take (j + 1)) = _:=fun j q hq=>by rw [take_snoc hq,takeSt_snoc]
       rw [show takeSt (outR k) (lowR k) (F k) a = takeSt (outR k) (lowR k) (F k) (a.take a.length) by rw [List.take_length]] at hFk
       generalize hG : (fun j=>takeSt (outR k) (lowR k) (F k) (a.take j)) = G
       have hG' : ∀ j,takeSt (outR k) (lowR k) (F k) (a.take j) = G j:=fun j=>by rw [<- hG]
       simp only [hG'] at hpre hG0 hGs hFk
       clear hG hG' hRo hP hRP hsum hown
       obtain ⟨O,hO⟩ : ∃ O,fnO (outR k) = O:=⟨_,rfl⟩
       obtain ⟨U,hU⟩ : ∃ U,fnP (lowR k) = U:=⟨_,rfl⟩
       rw [hO,hU] at hidx hp0
       generalize outR k = o at *
       generalize lowR k = u at *
       simp -implicitDefEqProofs (disch:=omega) only [h4,h5,h6,h12,h16,h83,h84,hh6_0,hh12_0,hh12_1,hh59_0,hh64_0,hh66_0,hh74_1,hlt,hidx,hp0,hr0,go_sem,↓reduceIte,rA,rS,rE,rL,reduceCtorEq]
       have hS0:=hG0
       obtain ⟨J,hJ⟩ : ∃ I : Nat -> St -> Prop,∀ j s,I j s ↔ ∃ (v18_0 : Nat) (v94_1 : Nat) (ks : List MKey) (vs : List PV) (ww : Nat),RepH ks vs (G j).2.1 /\ s.pe 4 = .p (.int .i64 root) /\ s.pe 5 = .p (.int .i64 (G j).2.2) /\ s.pe 6 = .ptr (.slot 6 0) 0 0 /\ s.pe 12 = .ptr (.slot 12 0) 0 0 /\ s.pe 16 = .ptr (.slot 66 0) 0 0 /\ s.pe 18 = .ptr (.slot 18 0) v18_0 0 /\ s.pe 83 = VVal.agg [.p (PV.fn 68),.p (PV.fn 69),.p (.bool false),.p (.bool false),.p (PV.fn 70),.p (PV.fn 69),.p (.bool true),.p (.bool false),.p (PV.fn 68),.p (PV.fn 71),.p (.bool false),.p (.bool true),.p (PV.fn 70),.p (PV.fn 71),.p (.bool true),.p (.bool true)] /\ s.pe 84 = .p (.int .i64 ↑k) /\ s.pe 97 = .own (.slot 94 1) v94_1 0 a.length /\ s.pe 98 = .p (.int .i64 ↑a.length) /\ s.pe 99 = .p (.int .i64 j) /\ s.h (.slot 6 0) = some (0,Ob.box [.p (nodesP t.nodes),.p (.int .i64 t.next)]) /\ s.h (.slot 12 0) = some (0,Ob.box [.own (.slot 12 1) 0 0 0,.p (.int .i64 0)]) /\ s.h (.slot 12 1) = some (0,Ob.arr 4 []) /\ s.h (.slot 18 0) = some (v18_0,Ob.box [.p (PV.fn O),.p (PV.fn U),.p (.bool o),.p (.bool u)]) /\ s.h (.slot 59 0) = some (ww,Ob.arr 4 (List.map Hg.pv (G j).1)) /\ s.h (.slot 64 0) = some (0,Ob.map (KT.int IntKind.i64) ks vs) /\ s.h (.slot 66 0) = some (0,Ob.box [.p (nodesP t.nodes),.p (.int .i64 t.next),.own (.slot 59 0) ww 0 (G j).1.length,.p (.int .i64 sw.size),.p (chsP l),.own (.slot 74 1) 0 0 eff.length,.mref (.slot 64 0) 0]) /\ s.h (.slot 74 1) = some (0,Ob.arr 3 (List.map Pr.pv eff)) /\ s.h (.slot 94 1) = some (v94_1,Ob.arr 2 (List.map tkP a)):=⟨_,fun _ _=>Iff.rfl⟩
       refine wp_count (a.length) J ?_ ?_
       ·refine (hJ _ _).2 ⟨nv (fzOb [18,91,94] s.h (.slot 18 0)),nv (fzOb [18,91,94] s.h (.slot 94 1)),ks,vs,ww,?_,?_,?_,?_,?_,?_,?_,?_,?_,?_,?_,?_,?_,?_,?_,?_,?_,?_,?_,?_,?_⟩
        ·exact by rw [hG0]; exact hrep
        all_goals first | exact cl0 | (simp -implicitDefEqProofs (disch:=omega) only [h4,h5,h6,h12,h16,h83,h84,hh6_0,hh12_0,hh12_1,hh59_0,hh64_0,hh66_0,hh74_1,lma,go_sem,↓reduceIte,rA,rS,rE,rL,reduceCtorEq] <;> first | (simp [hS0]; done) | (simp [hS0]; omega))
       intro j s hj hJk
       obtain ⟨v18_0,v94_1,ks,vs,ww,hrp,h4,h5,h6,h12,h16,h18,h83,h84,h97,h98,h99,hh6_0,hh12_0,hh12_1,hh18_0,hh59_0,hh64_0,hh66_0,hh74_1,hh94_1⟩:=(hJ _ _).1 hJk
       clear hJk
       simp -implicitDefEqProofs (disch:=omega) only [h4,h5,h6,h12,h16,h18,h83,h84,h97,h98,h99,hh6_0,hh12_0,hh12_1,hh18_0,hh59_0,hh64_0,hh66_0,hh74_1,hh94_1,go_sem,↓reduceIte,rA,rS,rE,rL,reduceCtorEq]
       refine wp_if_d (fun hjl=>?_) (fun hjg=>?_)
       ·have hx : a[j]? = some a[j]:=lgg hjl
        have hgs:=hGs j _ hx
        have hqo:=hPo a[j] (lgk _)
        have hpj:=hpre j
        have hpj2:=hpre (j + 1)
        generalize a[j] = q at hx hgs hqo
        obtain ⟨g,m⟩:=q
        have hlj:=hpj.hs.length
        have hle:=hpj.left
        have hmb : inPg m:=hqo
        have htk:=stake_eq t (G j).1 sw.size l eff (by omega) (fo:=O) (fp:=U) o u g m hrp hqo (hpj.hs.get g) (by
         have b1:=hpj.file g
         have b2:=hpj.anon g
         have b3:=hpj.low g
         unfold inPg
         omega)
        have hrn:=hrp.put g (takeK o u g ((G j).2.1 g) m)
        simp only at hgs
        unfold inPg at hmb
        have hrn' : RepH (mput ks vs (.int g) (takeK o u g ((G j).2.1 g) m).pv).1 (mput ks vs (.int g) (takeK o u g ((G j).2.1 g) m).pv).2 (G (j + 1)).2.1:=by rw [hgs]; exact hrn
        have e1 : (G (j + 1)).1 = putS (G j).1 (takeH o (getS (G j).1 g) m):=by rw [hgs]
        have e2 : (G (j + 1)).2.2 = (G j).2.2 - m:=by rw [hgs]
        have hl2:=hpj2.hs.length
        rw [e1] at hl2
        simp -implicitDefEqProofs (disch:=omega) only [h4,h5,h6,h12,h16,h18,h83,h84,h97,h98,h99,hh6_0,hh12_0,hh12_1,hh18_0,hh59_0,hh64_0,hh66_0,hh74_1,hh94_1,hjl,hx,htk,tkP,go_sem,↓reduceIte,rA,rS,rE,rL,reduceCtorEq]
        try refine And.intro (by omega) ?_
        refine (hJ _ _).2 ⟨v18_0,v94_1,(mput ks vs (.int g) (takeK o u g ((G j).2.1 g) m).pv).1,(mput ks vs (.int g) (takeK o u g ((G j).2.1 g) m).pv).2,ww + 1,?_,?_,?_,?_,?_,?_,?_,?_,?_,?_,?_,?_,?_,?_,?_,?_,?_,?_,?_,?_,?_⟩
        ·exact hrn'
        all_goals first | exact cl0 | (simp -implicitDefEqProofs (disch:=omega) only [h4,h5,h6,h12,h16,h18,h83,h84,h97,h98,h99,hh6_0,hh12_0,hh12_1,hh18_0,hh59_0,hh64_0,hh66_0,hh74_1,hh94_1,e1,e2,Sh.pv,lma,go_sem,↓reduceIte,rA,rS,rE,rL,reduceCtorEq] <;> first | (simp [hS0]; done) | (simp [hS0]; omega))
       ·have hje : j = a.length:=by omega
        rw [hje,<- hFk] at hrp
        have hrp':=hrp
        simp -implicitDefEqProofs (disch:=omega) only [h4,h5,h6,h12,h16,h18,h83,h84,h97,h98,h99,hh6_0,hh12_0,hh12_1,hh18_0,hh59_0,hh64_0,hh66_0,hh74_1,hh94_1,hjg,go_sem,↓reduceIte,rA,rS,rE,rL,reduceCtorEq]
        try refine And.intro (by omega) ?_
        refine (hI _ _).2 ⟨ks,vs,ww,?_,?_,?_,?_,?_,?_,?_,?_,?_,?_,?_,?_,?_,?_,?_⟩
        ·exact hrp
        all_goals first | exact cl0 | (simp -implicitDefEqProofs (disch:=omega) only [h4,h5,h6,h12,h16,h83,h84,hh6_0,hh12_0,hh12_1,hh59_0,hh64_0,hh66_0,hh74_1,hFk,hje,lma,go_sem,↓reduceIte,rA,rS,rE,rL,reduceCtorEq] <;> first | (simp [hS0]; done) | (simp [hS0]; omega))
      ·have hk4 : k = 4:=by omega
       subst hk4
       have hok:=hsh 4
       simp -implicitDefEqProofs (disch:=omega) only [h4,h5,h6,h12,h16,h83,h84,hh6_0,hh12_0,hh12_1,hh59_0,hh64_0,hh66_0,hh74_1,hge,go_sem,↓reduceIte,rA,rS,rE,rL,reduceCtorEq]
       obtain ⟨g,hg⟩ : ∃ g,(F 4).2.1 = g:=⟨_,rfl⟩
       rw [hg] at hrep
       rw [hg]
       have hS0 : (F 4).2.1 = g:=hg
       obtain ⟨K,hK⟩ : ∃ I : Nat -> St -> Prop,∀ k s,I k s ↔ ∃ (acc : List Sh) (wv : Nat),acc = outL g (eff.take k) /\ acc.length <= k /\ s.pe 12 = .ptr (.slot 12 0) 0 0 /\ s.pe 16 = .ptr (.slot 66 0) 0 0 /\ s.pe 23 = .own (.slot 23 0) wv 0 acc.length /\ s.pe 119 = .own (.slot 74 1) 0 0 eff.length /\ s.pe 120 = .p (.int .i64 ↑eff.length) /\ s.pe 121 = .p (.int .i64 k) /\ s.h (.slot 12 0) = some (0,Ob.box [.own (.slot 12 1) 0 0 0,.p (.int .i64 0)]) /\ s.h (.slot 12 1) = some (0,Ob.arr 4 []) /\ s.h (.slot 23 0) = some (wv,Ob.arr 4 (acc.map Sh.pv)) /\ s.h (.slot 59 0) = some (ww,Ob.arr 4 (List.map Hg.pv (F 4).1)) /\ s.h (.slot 64 0) = some (0,Ob.map (KT.int IntKind.i64) ks vs) /\ s.h (.slot 66 0) = some (0,Ob.box [.p (nodesP t.nodes),.p (.int .i64 t.next),.own (.slot 59 0) ww 0 (F 4).1.length,.p (.int .i64 sw.size),.p (chsP l),.own (.slot 74 1) 0 0 eff.length,.mref (.slot 64 0) 0]) /\ s.h (.slot 74 1) = some (0,Ob.arr 3 (List.map Pr.pv eff)):=⟨_,fun _ _=>Iff.rfl⟩
       refine wp_count (eff.length) K ?_ ?_
       ·refine (hK _ _).2 ⟨[],nv (fzOb [18,91,94] s.h (.slot 23 0)),?_,?_,?_,?_,?_,?_,?_,?_,?_,?_,?_,?_,?_,?_,?_⟩
        ·rfl
        ·exact by simp
        all_goals first | exact cl0 | (simp -implicitDefEqProofs (disch:=omega) only [h4,h5,h6,h12,h16,h83,h84,hh6_0,hh12_0,hh12_1,hh59_0,hh64_0,hh66_0,hh74_1,lma,go_sem,↓reduceIte,rA,rS,rE,rL,reduceCtorEq] <;> first | (simp [hS0]; done) | (simp [hS0]; omega))
       intro k s hk hKk
       obtain ⟨acc,wv,hacc,hal,h12,h16,h23,h119,h120,h121,hh12_0,hh12_1,hh23_0,hh59_0,hh64_0,hh66_0,hh74_1⟩:=(hK _ _).1 hKk
       clear hKk
       simp -implicitDefEqProofs (disch:=omega) only [h12,h16,h23,h119,h120,h121,hh12_0,hh12_1,hh23_0,hh59_0,hh64_0,hh66_0,hh74_1,go_sem,↓reduceIte,rA,rS,rE,rL,reduceCtorEq]
       refine wp_if_d (fun hkl=>?_) (fun hkg=>?_)
       ·have hx : eff[k]? = some eff[k]:=lgg hkl
        have htk:=take_snoc hx
        generalize eff[k] = e at hx htk
        have hge:=hrep.get e.group
        have hol:=outL_snoc g (eff.take k) e
        rw [<- htk] at hol
        have hgv : (g e.group).pv = .agg [.int .i64 (g e.group).group,.int .i64 (g e.group).file,.int .i64 (g e.group).anon,.int .i64 (g e.group).low]:=rfl
        rw [hgv] at hge
        generalize g e.group = x at hge hol
        by_cases hx0 : x.group = 0
        ·rw [if_pos hx0,lan] at hol
         have hx0' : (!decide (x.group = 0)) = false:=by simp [hx0]
         simp -implicitDefEqProofs (disch:=omega) only [h12,h16,h23,h119,h120,h121,hh12_0,hh12_1,hh23_0,hh59_0,hh64_0,hh66_0,hh74_1,hkl,hx,hge,Pr.pv,hx0',hx0,go_sem,↓reduceIte,rA,rS,rE,rL,reduceCtorEq]
         try refine And.intro (by omega) ?_
         refine (hK _ _).2 ⟨acc,wv,?_,?_,?_,?_,?_,?_,?_,?_,?_,?_,?_,?_,?_,?_,?_⟩
         .exact by rw [hol]; exact hacc
         .omega
         all_goals first | exact cl0 | (simp -implicitDefEqProofs (disch:=omega) only [h12,h16,h23,h119,h120,h121,hh12_0,hh12_1,hh23_0,hh59_0,hh64_0,hh66_0,hh74_1,lma,go_sem,↓reduceIte,rA,rS,rE,rL,reduceCtorEq] <;> first | (simp [hS0]; done) | (simp [hS0]; omega))
        ·rw [if_neg hx0] at hol
         simp -implicitDefEqProofs (disch:=omega) only [h12,h16,h23,h119,h120,h121,hh12_0,hh12_1,hh23_0,hh59_0,hh64_0,hh66_0,hh74_1,hkl,hx,hge,Pr.pv,hx0,go_sem,↓reduceIte,rA,rS,rE,rL,reduceCtorEq]
         try refine And.intro (by omega) ?_
         refine (hK _ _).2 ⟨acc ++ [x],wv + 1,?_,?_,?_,?_,?_,?_,?_,?_,?_,?_,?_,?_,?_,?_,?_⟩
         .exact by rw [hol,hacc]
         .exact by simp; omega
         all_goals first | exact cl0 | (simp -implicitDefEqProofs (disch:=omega) only [h12,h16,h23,h119,h120,h121,hh12_0,hh12_1,hh23_0,hh59_0,hh64_0,hh66_0,hh74_1,lma,go_sem,↓reduceIte,rA,rS,rE,rL,reduceCtorEq] <;> first | (simp [hS0]; done) | (simp [hS0]; omega))
       ·rw [ltl (by omega)] at hacc
        simp -implicitDefEqProofs (disch:=omega) only [h12,h16,h23,h119,h120,h121,hh12_0,hh12_1,hh23_0,hh59_0,hh64_0,hh66_0,hh74_1,hkg,go_sem,↓reduceIte,rA,rS,rE,rL,reduceCtorEq]
        rw [hacc]
     ·have h5' : pagesB n = false:=by simpa using h5
      rw [h5'] at hpg ⊢
      simp -implicitDefEqProofs (disch:=omega) only [vf19,vb19,hv,hpv,hlv,hck,hpg,go_sem,↓reduceIte,rA,rS,rE,rL,reduceCtorEq] <;> rfl
    ·have h4' : (findN t.nodes root).isSome = false:=by simpa using h4
     rw [h4'] at hck ⊢
     simp -implicitDefEqProofs (disch:=omega) only [vf19,vb19,hv,hpv,hlv,hck,e4,go_sem,↓reduceIte,rA,rS,rE,rL,reduceCtorEq] <;> rfl
   ·have h3' : validLK t l = false:=by simpa using h3
    rw [h3'] at hlv ⊢
    simp -implicitDefEqProofs (disch:=omega) only [vf19,vb19,hv,hpv,hlv,go_sem,↓reduceIte,rA,rS,rE,rL,reduceCtorEq] <;> rfl
  ·have h2' : validPr t p = false:=by simpa using h2
   rw [h2'] at hpv ⊢
   simp -implicitDefEqProofs (disch:=omega) only [vf19,vb19,hv,hpv,go_sem,↓reduceIte,rA,rS,rE,rL,reduceCtorEq] <;> rfl
 ·have h1' : validS t sw = false:=by simpa using h1
  rw [h1'] at hv ⊢
  simp -implicitDefEqProofs (disch:=omega) only [vf19,vb19,hv,go_sem,↓reduceIte,rA,rS,rE,rL,reduceCtorEq] <;> rfl
theorem rnd_calc {t : Tr} {z : Int} {l : List Ch} {eff : List Pr} {root : Int} {out low : Bool} {s : ShSt} {P : List Pt} {S : List Int} {a : List (Int × Int)} (h1 : msort (subT t root) = S) (h0 : partsS t z l eff out low s.1 = P) (h2 : (treeOk t && (!(subT t root).isEmpty && partsOk P S)) = true) (h3 : pagesB s.2.2 = true) (h4 : takeR t P root (min s.2.2 (capR t P root)) = a) (h5 : a.Pairwise fun x y=>x.1 <= y.1) : rndS t z l eff root out low s = takeSt out low s a:=by
 unfold rndS takesS
 rw [h0,RoundP,validP,h1,if_pos h2,if_pos h3]
 show takeSt out low s (tsort (takeR t P root (min s.2.2 (capR t P root)))) = _
 rw [h4,tsort_of h5]
def hsS : List Hg:=[⟨2,10,10,0⟩,⟨3,0,20,0⟩]
def prsS : List Pr:=[⟨3,0,15⟩]
def effS : List Pr:=[⟨1,0,0⟩,⟨2,0,0⟩,⟨3,0,15⟩]
theorem msort_S : msort (subT tS 1) = [1,2,3]:=by rw [subT_S,msort_of (by decide)]
theorem effL_S : effL tS (cntS hsS) prsS 1 = effS:=by
 unfold effL
 rw [msort_S]
 decide
abbrev stS (n : Int) : ShSt:=(hsS,(fun _=>zeroSh),n)
theorem shr_calc {t : Tr} {z : Int} {l : List Ch} {eff : List Pr} {root : Int} {s0 s1 s2 s3 s4 : ShSt} (h1 : rndS t z l eff root false false s0 = s1) (h2 : rndS t z l eff root true false s1 = s2) (h3 : rndS t z l eff root false true s2 = s3) (h4 : rndS t z l eff root true true s3 = s4) : shrS t z l eff root s0 4 = s4:=by
 rw [<- h4,<- h3,<- h2,<- h1]
 rfl
theorem shr_S1 : shrS tS 100 [] effS 1 (stS 12) 4 = takeSt true true (takeSt false true (takeSt true false (takeSt false false (stS 12) [(2,10)]) [(2,2)]) []) [] :=
 shr_calc (rnd_calc msort_S rfl (by decide) (by decide) (by decide) (by decide)) (rnd_calc msort_S rfl (by decide) (by decide) (by decide) (by decide)) (rnd_calc msort_S rfl (by decide) (by decide) (by decide) (by decide)) (rnd_calc msort_S rfl (by decide) (by decide) (by decide) (by decide))
theorem shr_S2 : shrS tS 100 [] effS 1 (stS 30) 4 = takeSt true true (takeSt false true (takeSt true false (takeSt false false (stS 30) [(2,10)]) [(2,10),(3,5)]) []) [(3,5)] :=
 shr_calc (rnd_calc msort_S rfl (by decide) (by decide) (by decide) (by decide)) (rnd_calc msort_S rfl (by decide) (by decide) (by decide) (by decide)) (rnd_calc msort_S rfl (by decide) (by decide) (by decide) (by decide)) (rnd_calc msort_S rfl (by decide) (by decide) (by decide) (by decide))
theorem shr_S3 : shrS tS 0 [] effS 1 (stS 12) 4 = takeSt true true (takeSt false true (takeSt true false (takeSt false false (stS 12) [(2,10)]) []) []) [] :=
 shr_calc (rnd_calc msort_S rfl (by decide) (by decide) (by decide) (by decide)) (rnd_calc msort_S rfl (by decide) (by decide) (by decide) (by decide)) (rnd_calc msort_S rfl (by decide) (by decide) (by decide) (by decide)) (rnd_calc msort_S rfl (by decide) (by decide) (by decide) (by decide))
theorem shrink_calc {z n : Int} {s : ShSt} {x : List Hg} {o : List Sh} (hz : pagesB z = true) (hn : pagesB n = true) (h : shrS tS z [] effS 1 (stS n) 4 = s) (h1 : s.1 = x) (h2 : outL s.2.1 effS = o) (hv : validS tS ⟨hsS,z⟩ = true) : ShrinkS tS ⟨hsS,z⟩ prsS [] 1 n = (⟨x,z⟩,o,0):=by
 have h3 : (validS tS ⟨hsS,z⟩ && validPr tS prsS && validLK tS []) = true:=by rw [hv]; decide
 have h4 : (findN tS.nodes 1).isSome = true:=by decide
 rw [ShrinkS,if_pos h3,if_pos h4,if_pos hn]
 simp only [effL_S]
 rw [show (hsS,(fun _=>zeroSh),n) = stS n from rfl,h,h1,h2]
theorem shrink_S1 : ShrinkS tS ⟨hsS,100⟩ prsS [] 1 12 = (⟨[⟨2,0,8,2⟩,⟨3,0,20,0⟩],100⟩,[⟨2,10,2,0⟩],0):=shrink_calc (by decide) (by decide) shr_S1 (by decide) (by decide) (by decide)
theorem shrink_S2 : ShrinkS tS ⟨hsS,100⟩ prsS [] 1 30 = (⟨[⟨2,0,0,10⟩,⟨3,0,10,10⟩],100⟩,[⟨2,10,10,0⟩,⟨3,0,10,5⟩],0):=shrink_calc (by decide) (by decide) shr_S2 (by decide) (by decide) (by decide)
theorem shrink_S3 : ShrinkS tS ⟨hsS,0⟩ prsS [] 1 12 = (⟨[⟨2,0,10,0⟩,⟨3,0,20,0⟩],0⟩,[⟨2,10,0,0⟩],0):=shrink_calc (by decide) (by decide) shr_S3 (by decide) (by decide) (by decide)
set_option maxHeartbeats 4000000 in
theorem sane25_eq : V 6 [] [] = some (.p (.bool true),[]):=by
 refine V_wp (vf:=vf6) rfl ?_
 have hf : tS.Fits:=by
  intro n hn
  simp only [tS,lmk,List.not_mem_nil,or_false] at hn
  rcases hn with rfl | rfl | rfl <;> exact ⟨by decide,by decide⟩
 have h1:=shrink_eq tS ⟨hsS,100⟩ prsS [] 1 12 hf (by decide) (by decide) (by decide) (by decide)
 have h2:=shrink_eq tS ⟨hsS,100⟩ prsS [] 1 30 hf (by decide) (by decide) (by decide) (by decide)
 have h3:=shrink_eq tS ⟨hsS,0⟩ prsS [] 1 12 hf (by decide) (by decide) (by decide) (by decide)
 have s1:=sameH_eq [⟨2,0,8,2⟩,⟨3,0,20,0⟩] [⟨2,0,8,2⟩,⟨3,0,20,0⟩] (by decide)
 have s2:=sameK_eq [⟨2,10,2,0⟩] [⟨2,10,2,0⟩] (by decide)
 have s3:=sameK_eq [⟨2,10,10,0⟩,⟨3,0,10,5⟩] [⟨2,10,10,0⟩,⟨3,0,10,5⟩] (by decide)
 have s4:=sameK_eq [⟨2,10,0,0⟩] [⟨2,10,0,0⟩] (by decide)
 rw [shrink_S1] at h1
 rw [shrink_S2] at h2
 rw [shrink_S3] at h3
 simp only [tS,Tr.vv,Stk.vv,Stk.fv,hsS,prsS,nodesP,hgsP,prsP,shsP,chsP,lpc,lpn,Nd.pv,Hg.pv,Pr.pv,Sh.pv,decide_true] at h1 h2 h3 s1 s2 s3 s4
 simp -implicitDefEqProofs (disch:=omega) only [vf6,vb6,h1,h2,h3,s1,s2,s3,s4,go_sem,↓reduceIte,rA,rS,rE,rL,reduceCtorEq]
def stockAt (L : List Int) (a : Nat) (id : Int) : Hg:=⟨id,pickV L a [0,0,4,30,100],pickV L (nextA L a 5) [0,5,20,80],pickV L (nextA L (nextA L a 5) 4) [0,0,3,15]⟩
def stockNx (L : List Int) (a : Nat) : Nat:=nextA L (nextA L (nextA L a 5) 4) 4
def dStock (L : List Int) (t : Tr) : List Nd -> Nat -> Stk -> Stk × Nat
 | [],a,s=>(s,a)
 | n :: ns,a,s=>dStock L t ns (stockNx L a) (if (PutS t s (stockAt L a n.id)).2 = 0 then (PutS t s (stockAt L a n.id)).1 else s)
theorem dStock_ok (L : List Int) (t : Tr) : ∀ (ns : List Nd) (a : Nat) (s : Stk),StkOk t s -> StkOk t (dStock L t ns a s).1
 | [],_,_,h=>h
 | n :: ns,a,s,h=>by
  unfold dStock
  refine dStock_ok L t ns _ _ ?_
  split
  .rename_i h0; exact PutS_ok h0
  .exact h
def stock0 (L : List Int) (a : Nat) : Stk:=⟨[],pickV L a [0,20,200,5000]⟩
theorem stock0_ok (L : List Int) (a : Nat) {t : Tr} (h : TreeOk t) : StkOk t (stock0 L a):=by
 have hm:=pickV_mem L a (xs:=[0,20,200,5000]) (by simp)
 simp only [lmk,List.not_mem_nil,or_false] at hm
 refine ⟨h,?_,?_,⟨by simp [stock0],by simp [stock0],by simp [stock0],by simp [stock0],by simp [stock0],by simp [stock0],by simp [stock0,sumI],?_⟩⟩
 all_goals (simp only [stock0,sumI,lpn]; omega)
def madeS (L : List Int) (a : Nat) (t : Tr) : Stk × Nat:=dStock L t t.nodes (nextA L a 4) (stock0 L a)
set_option maxHeartbeats 2000000 in
theorem stock_eq (L : List Int) (a : Nat) {t : Tr} (h : TreeOk t) (hL : L.length < 4611686018427387904) : V 9 [.ptr (.arg 0 0) 0 0,t.vv] [diceB L a] = some ((madeS L a t).1.fv,[diceB L (madeS L a t).2]):=by
 refine V_wp (vf:=vf9) rfl ?_
 have hlen:=h.len
 have hp0:=pick_eq L a [0,20,200,5000] hL (by simp) (by simp)
 simp only [intsP,llc,lln,rA,lpc,lpn] at hp0
 have hnA0 : nextA L a ((4 : Nat) : Int) = nextA L a 4:=rfl
 rw [hnA0] at hp0
 have hok0:=stock0_ok L a h
 unfold madeS
 unfold stock0 at hok0 ⊢
 generalize pickV L a [0,20,200,5000] = z at hp0 hok0
 generalize nextA L a 4 = a0 at hp0
 simp -implicitDefEqProofs (disch:=omega) only [vf9,vb9,hp0,go_sem,↓reduceIte,rA,rS,rE,rL,reduceCtorEq]
 obtain ⟨I,hI⟩ : ∃ I : Nat -> St -> Prop,∀ k s,I k s ↔ ∃ (b : Nat) (c : Stk) (ww : Nat),StkOk t c /\ dStock L t t.nodes a0 ⟨[],z⟩ = dStock L t (t.nodes.drop k) b c /\ s.pe 0 = .ptr (Id.arg 0 0) 0 0 /\ s.pe 3 = .ptr (.slot 3 0) 0 0 /\ s.pe 4 = .ptr (.slot 4 0) 0 0 /\ s.pe 5 = .ptr (.slot 5 0) 0 0 /\ s.pe 6 = .p (.int .i64 k) /\ s.h (.arg 0 0) = some (0,diceB L b) /\ s.h (.slot 3 0) = some (0,Ob.box [.p (nodesP t.nodes),.p (.int .i64 t.next)]) /\ s.h (.slot 4 0) = some (0,Ob.box [.own (.slot 4 1) 0 0 0,.p (.int .i64 0)]) /\ s.h (.slot 4 1) = some (0,Ob.arr 4 []) /\ s.h (.slot 5 0) = some (0,Ob.box [.own (.slot 13 1) ww 0 c.hs.length,.p (.int .i64 c.size)]) /\ s.h (.slot 13 1) = some (ww,Ob.arr 4 (c.hs.map Hg.pv)):=⟨_,fun _ _=>Iff.rfl⟩
 refine wp_count (t.nodes.length) I ?_ ?_
 ·refine (hI _ _).2 ⟨a0,⟨[],z⟩,0,?_,?_,?_,?_,?_,?_,?_,?_,?_,?_,?_,?_,?_⟩
  ·exact hok0
  ·rfl
  all_goals exact cl0
 intro k s hk hIk
 obtain ⟨b,c,ww,hc,hd,h0,h3,h4,h5,h6,ha0,hh3_0,hh4_0,hh4_1,hh5_0,hh13_1⟩:=(hI _ _).1 hIk
 clear hIk
 have hcl:=hc.hs.length
 simp -implicitDefEqProofs (disch:=omega) only [h0,h3,h4,h5,h6,ha0,hh3_0,hh4_0,hh4_1,hh5_0,hh13_1,go_sem,↓reduceIte,rA,rS,rE,rL,reduceCtorEq]
 refine wp_if_d (fun hlt=>?_) (fun hge=>?_)
 ·have hm : t.nodes[k]? = some t.nodes[k]:=lgg hlt
  have hdr : t.nodes.drop k = t.nodes[k] :: t.nodes.drop (k + 1):=ldg hlt
  generalize t.nodes[k] = m at hm hdr
  rw [hdr,dStock] at hd
  have p1:=pick_eq L b [0,0,4,30,100] hL (by simp) (by simp)
  have p2:=pick_eq L (nextA L b 5) [0,5,20,80] hL (by simp) (by simp)
  have p3:=pick_eq L (nextA L (nextA L b 5) 4) [0,0,3,15] hL (by simp) (by simp)
  have hput:=rsput_eq t c (stockAt L b m.id) (by omega) (by omega)
  have hok:=PutS_ok (t:=t) (sw:=c) (h:=stockAt L b m.id)
  simp only [intsP,llc,lln,rA,lpc,lpn] at p1 p2 p3
  unfold stockAt stockNx at hd
  unfold stockAt at hput hok
  have e5 : nextA L b ((5 : Nat) : Int) = nextA L b 5:=rfl
  rw [e5] at p1
  generalize pickV L b [0,0,4,30,100] = v1 at p1 hput hok hd
  generalize nextA L b 5 = b1 at p1 p2 p3 hput hok hd
  have e4 : nextA L b1 ((4 : Nat) : Int) = nextA L b1 4:=rfl
  rw [e4] at p2
  generalize pickV L b1 [0,5,20,80] = v2 at p2 hput hok hd
  generalize nextA L b1 4 = b2 at p2 p3 hput hok hd
  have e4' : nextA L b2 ((4 : Nat) : Int) = nextA L b2 4:=rfl
  rw [e4'] at p3
  generalize pickV L b2 [0,0,3,15] = v3 at p3 hput hok hd
  generalize nextA L b2 4 = b3 at p3 hd
  generalize PutS t c ⟨m.id,v1,v2,v3⟩ = r at hput hok hd
  obtain ⟨⟨rl,rz⟩,re⟩:=r
  simp only at hput hok hd
  by_cases he : re = 0
  ·subst he
   rw [if_pos rfl] at hd
   simp -implicitDefEqProofs (disch:=omega) only [h0,h3,h4,h5,h6,ha0,hh3_0,hh4_0,hh4_1,hh5_0,hh13_1,hlt,hm,p1,p2,p3,hput,go_sem,↓reduceIte,rA,rS,rE,rL,reduceCtorEq]
   try refine And.intro (by omega) ?_
   refine (hI _ _).2 ⟨b3,⟨rl,rz⟩,ww + 1,?_,?_,?_,?_,?_,?_,?_,?_,?_,?_,?_,?_,?_⟩
   .exact hok rfl
   .exact hd
   all_goals exact cl0
  ·rw [if_neg he] at hd
   simp -implicitDefEqProofs (disch:=omega) only [h0,h3,h4,h5,h6,ha0,hh3_0,hh4_0,hh4_1,hh5_0,hh13_1,hlt,hm,p1,p2,p3,hput,he,go_sem,↓reduceIte,rA,rS,rE,rL,reduceCtorEq]
   try refine And.intro (by omega) ?_
   refine (hI _ _).2 ⟨b3,c,ww,?_,?_,?_,?_,?_,?_,?_,?_,?_,?_,?_,?_,?_⟩
   .exact hc
   .exact hd
   all_goals exact cl0
 ·rw [ldl (by omega),dStock] at hd
  rw [hd]
  simp -implicitDefEqProofs (disch:=omega) only [h0,h3,h4,h5,h6,ha0,hh3_0,hh4_0,hh4_1,hh5_0,hh13_1,hge,go_sem,↓reduceIte,rA,rS,rE,rL,reduceCtorEq]
def prPicks : List Int:=[0,0,3,50,100,1000,4611686018427387904]
def prPicks2 : List Int:=[0,3,30,100,150,1099511627776,4611686018427387904]
def dProts (L : List Int) : List Nd -> Nat -> List Pr × Nat
 | [],a=>([],a)
 | n :: ns,a=>if 0 < nextV L a 3 then (⟨n.id,pickV L (nextA L a 3) prPicks,pickV L (nextA L (nextA L a 3) 7) prPicks2⟩ :: (dProts L ns (nextA L (nextA L (nextA L a 3) 7) 7)).1,(dProts L ns (nextA L (nextA L (nextA L a 3) 7) 7)).2) else dProts L ns (nextA L a 3)
set_option maxHeartbeats 1000000 in
theorem dprots_eq (L : List Int) (a : Nat) (t : Tr) (hL : L.length < 4611686018427387904) (hl : t.nodes.length < 1000000) : V 10 [.ptr (.arg 0 0) 0 0,t.vv] [diceB L a] = some (.fresh 3 ((dProts L t.nodes a).1.map Pr.pv),[diceB L (dProts L t.nodes a).2]):=by
 refine V_wp (vf:=vf10) rfl ?_
 simp -implicitDefEqProofs (disch:=omega) only [vf10,vb10,go_sem,↓reduceIte,rA,rS,rE,rL,reduceCtorEq]
 obtain ⟨I,hI⟩ : ∃ I : Nat -> St -> Prop,∀ k s,I k s ↔ ∃ (b : Nat) (acc : List Pr) (w : Nat),dProts L t.nodes a = (acc ++ (dProts L (t.nodes.drop k) b).1,(dProts L (t.nodes.drop k) b).2) /\ acc.length <= k /\ s.pe 0 = .ptr (Id.arg 0 0) 0 0 /\ s.pe 3 = .ptr (.slot 3 0) 0 0 /\ s.pe 5 = .own (.slot 5 0) w 0 acc.length /\ s.pe 6 = .p (.int .i64 k) /\ s.h (.arg 0 0) = some (0,diceB L b) /\ s.h (.slot 3 0) = some (0,Ob.box [.p (nodesP t.nodes),.p (.int .i64 t.next)]) /\ s.h (.slot 5 0) = some (w,Ob.arr 3 (acc.map Pr.pv)):=⟨_,fun _ _=>Iff.rfl⟩
 refine wp_count (t.nodes.length) I ?_ ?_
 ·refine (hI _ _).2 ⟨a,[],0,?_,?_,?_,?_,?_,?_,?_,?_,?_⟩
  ·rfl
  ·exact cl3
  all_goals exact cl0
 intro k s hk hIk
 obtain ⟨b,acc,w,hd,hal,h0,h3,h5,h6,ha0,hh3_0,hh5_0⟩:=(hI _ _).1 hIk
 clear hIk
 simp -implicitDefEqProofs (disch:=omega) only [h0,h3,h5,h6,ha0,hh3_0,hh5_0,go_sem,↓reduceIte,rA,rS,rE,rL,reduceCtorEq]
 refine wp_if_d (fun hlt=>?_) (fun hge=>?_)
 ·have hm : t.nodes[k]? = some t.nodes[k]:=lgg hlt
  have hdr : t.nodes.drop k = t.nodes[k] :: t.nodes.drop (k + 1):=ldg hlt
  generalize t.nodes[k] = m at hm hdr
  rw [hdr,dProts] at hd
  have hb:=next_eq L b 3 hL (by omega)
  have hp:=pick_eq L (nextA L b 3) prPicks hL (by decide) (by decide)
  have hp2:=pick_eq L (nextA L (nextA L b 3) 7) prPicks2 hL (by decide) (by decide)
  simp only [prPicks,intsP,llc,lln,rA,lpc,lpn] at hp
  rw [<- prPicks] at hp
  rw [show nextA L (nextA L b 3) ((7 : Nat) : Int) = nextA L (nextA L b 3) 7 from rfl] at hp
  simp only [prPicks2,intsP,llc,lln,rA,lpc,lpn] at hp2
  rw [<- prPicks2] at hp2
  rw [show nextA L (nextA L (nextA L b 3) 7) ((7 : Nat) : Int) = nextA L (nextA L (nextA L b 3) 7) 7 from rfl] at hp2
  generalize pickV L (nextA L (nextA L b 3) 7) prPicks2 = pw at hp2 hd
  generalize pickV L (nextA L b 3) prPicks = pv at hp hd
  generalize nextA L (nextA L (nextA L b 3) 7) 7 = b3 at hp2 hd
  generalize nextA L (nextA L b 3) 7 = b2 at hp hp2 hd
  generalize nextA L b 3 = b1 at hb hp hd
  by_cases hx : 0 < nextV L b 3
  ·rw [if_pos hx] at hd
   simp -implicitDefEqProofs (disch:=omega) only [h0,h3,h5,h6,ha0,hh3_0,hh5_0,hlt,hm,hb,hp,hp2,hx,go_sem,↓reduceIte,rA,rS,rE,rL,reduceCtorEq]
   try refine And.intro (by omega) ?_
   refine (hI _ _).2 ⟨b3,acc ++ [⟨m.id,pv,pw⟩],w + 1,?_,?_,?_,?_,?_,?_,?_,?_,?_⟩
   .exact by rw [hd]; simp
   .exact by simp; omega
   all_goals exact cl0
  ·rw [if_neg hx] at hd
   simp -implicitDefEqProofs (disch:=omega) only [h0,h3,h5,h6,ha0,hh3_0,hh5_0,hlt,hm,hb,hx,go_sem,↓reduceIte,rA,rS,rE,rL,reduceCtorEq]
   try refine And.intro (by omega) ?_
   refine (hI _ _).2 ⟨b1,acc,w,?_,?_,?_,?_,?_,?_,?_,?_,?_⟩
   .exact hd
   .omega
   all_goals exact cl0
 ·rw [ldl (by omega),dProts] at hd
  rw [hd]
  simp -implicitDefEqProofs (disch:=omega) only [h0,h3,h5,h6,ha0,hh3_0,hh5_0,hge,go_sem,↓reduceIte,rA,rS,rE,rL,reduceCtorEq]
  try simp
theorem known_len {t : Tr} {gs : List Int} (hi : gs.Pairwise fun a b=>a < b) (hk : ∀ g ∈ gs,(findN t.nodes g).isSome = true) : gs.length <= t.nodes.length:=by
 have hnd : gs.Nodup:=hi.imp fun hab=>by omega
 have:=nodup_length_le gs (t.nodes.map (·.id)) hnd (fun x hx=>by
  obtain ⟨n,hn,he⟩:=findN_some (hk x hx)
  exact lmm.2 ⟨n,hn,he⟩)
 simpa using this
theorem PrOk.length {t : Tr} {l : List Pr} (h : PrOk t.nodes l) : l.length <= t.nodes.length:=by
 have:=known_len (t:=t) (gs:=l.map (·.group)) (by rw [List.pairwise_map]; exact h.inc) fun g hg=>by
  obtain ⟨x,hx,rfl⟩:=lmm.1 hg
  exact h.known x hx
 simpa using this
theorem AscOk.length {t : Tr} {lo hi : Int} {l : List Ch} (h : AscOk (knownN t.nodes) lo hi l) : l.length <= t.nodes.length:=by
 have:=known_len (t:=t) (gs:=l.map (·.group)) (by rw [List.pairwise_map]; exact h.inc) fun g hg=>by
  obtain ⟨x,hx,rfl⟩:=lmm.1 hg
  exact h.known x hx
 simpa using this
structure TrialOk (t : Tr) (sw : Stk) (p : List Pr) (l : List Ch) (root : Int) : Prop where
 stk : StkOk t sw
 pr : PrOk t.nodes p
 lim : AscOk (knownN t.nodes) 0 4611686018427387904 l
 root : InN t.nodes root
theorem sumOn_set (a : List (Int × Int)) : ∀ (S : List Int),S.Nodup -> sumI (S.map fun x=>sumOn [x] a) = sumOn S a
 | [],_=>(sumOn_zero fun q _ hq=>by simp at hq).symm
 | x :: S,h=>by
  rw [List.nodup_cons] at h
  rw [sumOn_cons h.1,lpc,sumI,sumOn_set a S h.2]
theorem sumI_add (f g : Int -> Int) : ∀ (ks : List Int),sumI (ks.map fun c=>f c + g c) = sumI (ks.map f) + sumI (ks.map g)
 | []=>rfl
 | c :: ks=>by
  have:=sumI_add f g ks
  simp only [lpc,sumI,this]
  omega
structure StepS (t : Tr) (l : List Pt) (root : Int) (out low : Bool) (s s' : ShSt) (a : List (Int × Int)) : Prop where
 parts : PartsOk t l root
 rnd : RoundOk t l root (min s.2.2 (capR t l root)) a
 sum : sumI (a.map Prod.snd) = min s.2.2 (capR t l root)
 get : ∀ x,getS s'.1 x = takeH out (getS s.1 x) (sumOn [x] a)
 file : ∀ x,(s'.2.1 x).file = (s.2.1 x).file + if out then 0 else sumOn [x] a
 anon : ∀ x,(s'.2.1 x).anon = (s.2.1 x).anon + if out then sumOn [x] a else 0
 low : ∀ x,(s'.2.1 x).low = (s.2.1 x).low + if low then sumOn [x] a else 0
 left : s'.2.2 = s.2.2 - sumI (a.map Prod.snd)
 non : ∀ x,0 <= sumOn [x] a
 own : ∀ x,sumOn [x] a <= ownS out (getS s.1 x)
 off : ∀ x,x ∉ subA t root -> sumOn [x] a = 0
structure Noted (t : Tr) (root : Int) (hs : List Hg) (n : Int) (s : ShSt) : Prop where
 get : ∀ x,getS s.1 x = ⟨x,(getS hs x).file - (s.2.1 x).file,(getS hs x).anon - (s.2.1 x).anon,(getS hs x).swap + (s.2.1 x).anon⟩
 off : ∀ x,x ∉ subA t root -> (s.2.1 x).file = 0 /\ (s.2.1 x).anon = 0 /\ (s.2.1 x).low = 0
 sum : ∀ S : List Int,S.Nodup -> (∀ x ∈ subA t root,x ∈ S) -> sumI (S.map fun x=>(s.2.1 x).file + (s.2.1 x).anon) = n - s.2.2
 low : ∀ x,(s.2.1 x).low <= (s.2.1 x).file + (s.2.1 x).anon
theorem Noted.step {t : Tr} {root : Int} {hs : List Hg} {n : Int} {s s' : ShSt} (hn : Noted t root hs n s) {l : List Pt} {out low : Bool} {a : List (Int × Int)} (h : StepS t l root out low s s' a) : Noted t root hs n s':=by
 have hT:=h.parts.tree
 refine ⟨fun x=>?_,fun x hx=>?_,fun S hS hSr=>?_,fun x=>?_⟩
 ·rw [h.get,hn.get,h.file,h.anon]
  unfold takeH
  cases out <;> simp <;> omega
 ·have h1:=hn.off x hx
  rw [h.file,h.anon,h.low,h.off x hx,h1.1,h1.2.1,h1.2.2]
  simp
 ·have h1:=hn.sum S hS hSr
  have h2 : (fun x=>(s'.2.1 x).file + (s'.2.1 x).anon) = fun x=>((s.2.1 x).file + (s.2.1 x).anon) + sumOn [x] a:=by
   funext x
   rw [h.file,h.anon]
   cases out <;> simp <;> omega
  rw [h2,sumI_add,h1,sumOn_set a _ hS,sumOn_all fun q hq=>hSr _ (h.rnd.groups q hq),h.left]
  omega
 ·have h1:=hn.low x
  have h2:=h.non x
  rw [h.file,h.anon,h.low]
  cases out <;> cases low <;> simp <;> omega
theorem sumI_congr' {f g : Int -> Int} {l : List Int} (h : ∀ x ∈ l,f x = g x) : sumI (l.map f) = sumI (l.map g):=congrArg sumI (List.map_congr_left h)
theorem usedF_step {t : Tr} {l : List Pt} {root : Int} {out low : Bool} {s s' : ShSt} {a : List (Int × Int)} (h : StepS t l root out low s s' a) {z z' : Int} (h0 : HgOk t.nodes z s.1) (h1 : HgOk t.nodes z' s'.1) {g : Int} (hg : InN t.nodes g) : usedF t (cntS s'.1) g = usedF t (cntS s.1) g - takenP t a g:=by
 have hT:=h.parts.tree
 have hf : (findN t.nodes g).isSome = true:=by
  obtain ⟨i,n,hn,rfl⟩:=hg
  rw [findN_unique hT.inc hn]
  rfl
 unfold usedF
 rw [if_pos hf,if_pos hf,h.rnd.on g hg,<- sumOn_set a _ (subA_nodup hT hg)]
 unfold tot
 rw [<- sumI_sub]
 refine sumI_congr' fun x _=>?_
 rw [cntS_own h0.inc,cntS_own h1.inc]
 unfold memF
 rw [h.get]
 unfold takeH
 cases out <;> simp <;> omega
theorem ancR_in {t : Tr} (h : TreeOk t) {g : Int} (hg : InN t.nodes g) : ancR t g = ancF t.nodes t.nodes.length g:=by
 obtain ⟨i,n,hn,rfl⟩:=hg
 exact ancR_anc h hn
section
variable {t : Tr} {root z n : Int} {lm : List Ch} {eff : List Pr} {hs : List Hg}
theorem keeps (h : TreeOk t) (hr : InN t.nodes root) (he : EffOk t root eff) {out low : Bool} {s s' : ShSt} {a : List (Int × Int)} (hS : StepS t (partsS t z lm eff out low s.1) root out low s s' a) (h0 : HgOk t.nodes z s.1) (h1 : HgOk t.nodes z s'.1) {e : Pr} (hem : e ∈ eff) : usedF t (cntS s'.1) e.group <= usedF t (cntS s.1) e.group /\ min (usedF t (cntS s.1) e.group) (prS low e) <= usedF t (cntS s'.1) e.group:=by
 have hs : e.group ∈ subA t root:=(effOk_mem h hr he e.group).1 (lmm.2 ⟨e,hem,rfl⟩)
 have hg:=subA_in h hr hs
 have h2:=hS.rnd.sub _ hs
 have h3:=(cap_le h (l:=partsS t z lm eff out low s.1) hg).2
 obtain ⟨e',hem',hge,hp⟩:=partOf_prt (t:=t) (hs:=s.1) (z:=z) (l:=lm) (own:=ownS out) (pr:=prS low) (out:=out) ((effOk_mem h hr he e.group).2 hs)
 have hee : e' = e:=by
  have hnd : (eff.map (·.group)).Nodup:=by
   rw [he.groups]
   obtain ⟨i,n,hn,hne⟩:=hr
   rw [(msort_perm _).nodup_iff,<- hne,subT_some h hn]
   exact subF_nodup h hn
  exact eff_inj hnd hem' hem hge
 subst hee
 rw [hp] at h3
 have h4:=usedF_step hS h0 h1 hg
 have h5:=taken_nonneg hS.rnd e'.group
 simp only [prtS] at h3
 omega
where
 eff_inj : ∀ {l : List Pr} {x y : Pr},(l.map (·.group)).Nodup -> x ∈ l -> y ∈ l -> x.group = y.group -> x = y
  | [],_,_,_,hx,_,_=>by simp at hx
  | w :: l,x,y,hnd,hx,hy,hxy=>by
   rw [lpc,List.nodup_cons] at hnd
   rcases lmk.1 hx with hx | hx
   ·rcases lmk.1 hy with hy | hy
    .rw [hx,hy]
    .exact absurd (lmm.2 ⟨y,hy,by rw [<- hxy,hx]⟩) hnd.1
   ·rcases lmk.1 hy with hy | hy
    .exact absurd (lmm.2 ⟨x,hx,by rw [hxy,hy]⟩) hnd.1
    .exact eff_inj hnd.2 hx hy hxy
end
abbrev effP (t : Tr) (sw : Stk) (p : List Pr) (root : Int) : List Pr:=effL t (cntS sw.hs) p root
theorem TrialOk.eff {t : Tr} {sw : Stk} {p : List Pr} {l : List Ch} {root : Int} (h : TrialOk t sw p l root) : EffOk t root (effP t sw p root):=effL_ok h.stk.tree (cntS_ok h.stk.hs) h.pr root
structure Mc where
 group : Int
 least : Int
 low : Int
 high : Int
 most : Int
 swap : Int
 tog : Bool
 deriving DecidableEq
def amtM (n : Int) : Bool:=(decide (0 <= n) && decide (n <= 1099511627776)) || decide (n = 4611686018427387904)
structure McOk (ns : List Nd) (l : List Mc) : Prop where
 known : ∀ m ∈ l,(findN ns m.group).isSome = true
 inc : l.Pairwise fun a b=>a.group < b.group
 amt : ∀ m ∈ l,amtM m.least = true /\ amtM m.low = true /\ amtM m.high = true /\ amtM m.most = true /\ amtM m.swap = true
def sumT (f : Sh -> Int) (a : List Sh) (id : Int) : Int:=sumI (a.map fun y=>if y.group = id then f y else 0)
theorem sumT_append (f : Sh -> Int) (a b : List Sh) (id : Int) : sumT f (a ++ b) id = sumT f a id + sumT f b id:=by
 unfold sumT
 rw [lma,sumI_append]
def Acc (s0 : List Hg) (a : List Sh) (s : List Hg) : Prop:=∀ id,getS s id = ⟨id,(getS s0 id).file - sumT (·.file) a id,(getS s0 id).anon - sumT (·.anon) a id,(getS s0 id).swap + sumT (·.anon) a id⟩
theorem acc_nil (s : List Hg) : Acc s [] s:=fun id=>by
 have hg:=getS_group s id
 revert hg
 generalize getS s id = y
 intro hg
 subst hg
 simp [sumT,sumI]
theorem Acc.trans {s0 s1 s2 : List Hg} {a b : List Sh} (h : Acc s0 a s1) (h' : Acc s1 b s2) : Acc s0 (a ++ b) s2:=fun id=>by
 rw [h' id,h id,sumT_append,sumT_append]
 simp only [Hg.mk.injEq,true_and]
 omega
structure Gw where
 stk : Stk
 shr : List Sh
 maxes : List Int
 highs : List Int
 refused : Int
structure Grw (t : Tr) (g g' : Gw) : Prop where
 stk : StkOk t g'.stk
 size : g'.stk.size = g.stk.size
 shr : ∃ a,g'.shr = g.shr ++ a /\ Acc g.stk.hs a g'.stk.hs /\ ∀ y ∈ a,0 <= y.file /\ 0 <= y.anon
theorem Grw.refl {t : Tr} {g : Gw} (h : StkOk t g.stk) : Grw t g g:=⟨h,rfl,[],by simp,acc_nil _,by simp⟩
theorem Grw.trans {t : Tr} {a b c : Gw} (h : Grw t a b) (h' : Grw t b c) : Grw t a c:=by
 obtain ⟨x,hx,ax,px⟩:=h.shr
 obtain ⟨y,hy,ay,py⟩:=h'.shr
 refine ⟨h'.stk,h'.size.trans h.size,x ++ y,by rw [hy,hx,laa],ax.trans ay,fun z hz=>?_⟩
 rcases lmp.1 hz with hz | hz
 .exact px z hz
 .exact py z hz
theorem McOk.length {t : Tr} {l : List Mc} (h : McOk t.nodes l) : l.length <= t.nodes.length:=by
 have:=known_len (t:=t) (gs:=l.map (·.group)) (by rw [List.pairwise_map]; exact h.inc) fun g hg=>by
  obtain ⟨x,hx,rfl⟩:=lmm.1 hg
  exact h.known x hx
 simpa using this
def Mc.pv (h : Mc) : PV:=.agg [.int .i64 h.group,.int .i64 h.least,.int .i64 h.low,.int .i64 h.high,.int .i64 h.most,.int .i64 h.swap,.bool h.tog]
abbrev Mc.vv (h : Mc) : VVal:=.agg [.p (.int .i64 h.group),.p (.int .i64 h.least),.p (.int .i64 h.low),.p (.int .i64 h.high),.p (.int .i64 h.most),.p (.int .i64 h.swap),.p (.bool h.tog)]
abbrev Mc.mv (h : Mc) : VVal:=.agg [.p (.int .i64 h.least),.p (.int .i64 h.low),.p (.int .i64 h.high),.p (.int .i64 h.most),.p (.int .i64 h.swap),.p (.bool h.tog)]
attribute [go_sem] Mc.pv
theorem mcs_flat (l : List Mc) : (l.map Mc.pv).all PV.flat = true:=by
 rw [List.all_eq_true]
 intro x hx
 obtain ⟨n,_,rfl⟩:=lmm.1 hx
 rfl
attribute [go_sem] mcs_flat
set_option maxHeartbeats 1000000 in
theorem rlimits_eq (t : Tr) (l : List Ch) (hn : t.nodes.length < 1000000) (hl : l.length < 1000000) : V 89 [t.vv,.p (chsP l)] [] = some (.p (.bool (validLK t l)),[]):=by
 refine V_wp (vf:=vf89) rfl ?_
 have hc:=rcheck_eq t hn
 unfold validLK
 cases ht : treeOk t with
 | false =>
  rw [ht] at hc
  simp -implicitDefEqProofs (disch:=omega) only [vf89,vb89,hc,go_sem,↓reduceIte,rA,rS,rE,rL,reduceCtorEq]
  try rfl
 | true =>
  rw [ht] at hc
  rw [bta]
  simp -implicitDefEqProofs (disch:=omega) only [vf89,vb89,hc,go_sem,↓reduceIte,rA,rS,rE,rL,reduceCtorEq]
  obtain ⟨I,hI⟩ : ∃ I : Nat -> St -> Prop,∀ k s,I k s ↔ ascOk (knownN t.nodes) 0 4611686018427387904 none l = ascOk (knownN t.nodes) 0 4611686018427387904 (prevG l k) (l.drop k) /\ s.pe 1 = .p (chsP l) /\ s.pe 2 = .ptr (.slot 2 0) 0 0 /\ s.pe 5 = .p (.int .i64 k) /\ s.h (.slot 2 0) = some (0,Ob.box [.p (nodesP t.nodes),.p (.int .i64 t.next)]):=⟨_,fun _ _=>Iff.rfl⟩
  refine wp_count (l.length) I ?_ ?_
  ·refine (hI _ _).2 ⟨?_,?_,?_,?_,?_⟩
   ·exact cl3
   all_goals exact cl0
  intro k s hk hIk
  obtain ⟨hq,h1,h2,h5,hh2_0⟩:=(hI _ _).1 hIk
  clear hIk
  simp -implicitDefEqProofs (disch:=omega) only [h1,h2,h5,hh2_0,go_sem,↓reduceIte,rA,rS,rE,rL,reduceCtorEq]
  refine wp_if_d (fun hlt=>?_) (fun hge=>?_)
  ·have hm : l[k]? = some l[k]:=lgg hlt
   generalize l[k] = c at hm
   have hg:=asc_good hq hm
   have hb':=asc_bad hq hm
   have hfi:=rhas_eq t c.group hn
   rw [findT_ok ht] at hfi
   have hkn : knownN t.nodes c.group = (findN t.nodes c.group).isSome:=rfl
   generalize (findN t.nodes c.group).isSome = kn at hfi hkn
   by_cases hk0 : (0 : Int) < k
   ·obtain ⟨e,he,he'⟩:=prev_at hm hk0
    have hk1 : (0 : Int) <= (k : Int) - 1:=by omega
    rw [ascAt_succ hk0 he,hkn] at hg hb'
    simp -implicitDefEqProofs (disch:=omega) only [h1,h2,h5,hh2_0,hlt,hm,hfi,hk0,hk1,he',go_sem,↓reduceIte,rA,rS,rE,rL,reduceCtorEq]
    repeat' ((first | refine wp_grn_d (fun hb=>?_) (fun hb=>?_) | refine wp_gtn_d (fun hb=>?_) (fun hb=>?_) | refine wp_gr_d (fun hb=>?_) (fun hb=>?_) | refine wp_gt_d (fun hb=>?_) (fun hb=>?_) | refine wp_gr (fun hb=>?_) (fun hb=>?_) | refine wp_gt (fun hb=>?_) (fun hb=>?_) | refine wp_nt_d (fun hb=>?_) (fun hb=>?_) | refine wp_nt (fun hb=>?_) (fun hb=>?_) | refine wp_if_d (fun hb=>?_) (fun hb=>?_) | refine wp_if (fun hb=>?_) (fun hb=>?_)) <;> simp -implicitDefEqProofs (disch:=omega) only [hb,h1,h2,h5,hh2_0,hlt,hm,hfi,hk0,hk1,he',go_sem,↓reduceIte,rA,rS,rE,rL,reduceCtorEq])
    all_goals first
     | (rw [hb' (by first | (rintro ⟨h1,h2,h3,h4⟩; omega) | simp_all)]; done)
     | skip
    try refine And.intro (by omega) ?_
    refine (hI _ _).2 ⟨?_,?_,?_,?_,?_⟩
    ·exact hg ⟨by first | assumption | (cases kn <;> simp_all),by omega,by omega,by omega⟩
    all_goals exact cl0
   ·rw [ascAt_zero hk0,hkn] at hg hb'
    simp -implicitDefEqProofs (disch:=omega) only [h1,h2,h5,hh2_0,hlt,hm,hfi,hk0,go_sem,↓reduceIte,rA,rS,rE,rL,reduceCtorEq]
    repeat' ((first | refine wp_grn_d (fun hb=>?_) (fun hb=>?_) | refine wp_gtn_d (fun hb=>?_) (fun hb=>?_) | refine wp_gr_d (fun hb=>?_) (fun hb=>?_) | refine wp_gt_d (fun hb=>?_) (fun hb=>?_) | refine wp_gr (fun hb=>?_) (fun hb=>?_) | refine wp_gt (fun hb=>?_) (fun hb=>?_) | refine wp_nt_d (fun hb=>?_) (fun hb=>?_) | refine wp_nt (fun hb=>?_) (fun hb=>?_) | refine wp_if_d (fun hb=>?_) (fun hb=>?_) | refine wp_if (fun hb=>?_) (fun hb=>?_)) <;> simp -implicitDefEqProofs (disch:=omega) only [hb,h1,h2,h5,hh2_0,hlt,hm,hfi,hk0,go_sem,↓reduceIte,rA,rS,rE,rL,reduceCtorEq])
    all_goals first
     | (rw [hb' (by first | (rintro ⟨h1,h2,h3⟩; omega) | simp_all)]; done)
     | skip
    try refine And.intro (by omega) ?_
    refine (hI _ _).2 ⟨?_,?_,?_,?_,?_⟩
    .exact hg ⟨by first | assumption | (cases kn <;> simp_all),by omega,by omega⟩
    all_goals exact cl0
  ·have hT:=asc_end hq (by omega)
   simp -implicitDefEqProofs (disch:=omega) only [h1,h2,h5,hh2_0,hge,hT,go_sem,↓reduceIte,rA,rS,rE,rL,reduceCtorEq]
def LeavesR (t : Tr) (id : Int) : Int × Int:=if (findT t id).isSome = true then (if id = 1 then (0,3) else if kids t id ≠ [] then (0,6) else (((findT t id).getD zeroNd).parent,0)) else (0,4)
set_option maxHeartbeats 1000000 in
theorem rleaves_eq (t : Tr) (id : Int) (hn : t.nodes.length < 1000000) : V 97 [t.vv,.p (.int .i64 id)] [] = some (.tup [.p (.int .i64 (LeavesR t id).1),.p (.int .i64 (LeavesR t id).2)],[]):=by
 refine V_wp (vf:=vf97) rfl ?_
 have hfi:=rfind_eq t id hn
 have hk:=rkids_eq t id hn
 unfold LeavesR
 generalize (findT t id).getD zeroNd = nd at hfi ⊢
 cases hs : (findT t id).isSome with
 | false =>
  rw [hs] at hfi
  simp -implicitDefEqProofs (disch:=omega) only [vf97,vb97,hfi,Nd.vv,go_sem,↓reduceIte,rA,rS,rE,rL,reduceCtorEq]
  try rfl
 | true =>
  rw [hs] at hfi
  by_cases h1 : id = 1
  ·subst h1
   simp -implicitDefEqProofs (disch:=omega) only [vf97,vb97,hfi,Nd.vv,go_sem,↓reduceIte,rA,rS,rE,rL,reduceCtorEq]
   try rfl
  ·by_cases hz : kids t id = []
   ·rw [hz] at hk
    simp -implicitDefEqProofs (disch:=omega) only [vf97,vb97,hfi,Nd.vv,h1,hk,zero_lt_zero,go_sem,↓reduceIte,rA,rS,rE,rL,reduceCtorEq]
    simp [h1,hz]
   ·have hz' : (0 : Int) < ((kids t id).length : Int):=by
     have:=List.length_pos_iff.2 hz
     omega
    have hne : kids t id ≠ []:=hz
    rw [if_pos rfl,if_neg h1,if_pos hne]
    generalize kids t id = ks at hk hz'
    simp -implicitDefEqProofs (disch:=omega) only [vf97,vb97,hfi,Nd.vv,h1,hk,hz',go_sem,↓reduceIte,rA,rS,rE,rL,reduceCtorEq]
    try rfl
abbrev prF (b : Bool) (y : Pr) : Int:=if b then y.low else y.least
set_option maxHeartbeats 2000000 in
theorem rsetting_eq (l : List Pr) (g : Int) (b : Bool) (hl : l.length < 1000000) : V 180 [.p (prsP l),.p (.int .i64 g),.p (.bool b)] [] = some (.p (.int .i64 (lookPr (prF b) l g)),[]):=by
 refine V_wp (vf:=vf180) rfl ?_
 simp -implicitDefEqProofs (disch:=omega) only [vf180,vb180,go_sem,↓reduceIte,rA,rS,rE,rL,reduceCtorEq]
 obtain ⟨I,hI⟩ : ∃ I : Nat -> St -> Prop,∀ k s,I k s ↔ lookPr (prF b) l g = lookPr (prF b) (l.drop k) g /\ s.pe 0 = .p (prsP l) /\ s.pe 1 = .p (.int .i64 g) /\ s.pe 2 = .p (.bool b) /\ s.pe 7 = .p (.int .i64 k):=⟨_,fun _ _=>Iff.rfl⟩
 refine wp_count (l.length) I ?_ ?_
 ·refine (hI _ _).2 ⟨?_,?_,?_,?_,?_⟩
  ·rfl
  all_goals exact cl0
 intro k s hk hIk
 obtain ⟨hp,h0,h1,h2,h7⟩:=(hI _ _).1 hIk
 clear hIk
 simp -implicitDefEqProofs (disch:=omega) only [h0,h1,h2,h7,go_sem,↓reduceIte,rA,rS,rE,rL,reduceCtorEq]
 refine wp_if_d (fun hlt=>?_) (fun hge=>?_)
 ·have hm : l[k]? = some l[k]:=lgg hlt
  have hdr : l.drop k = l[k] :: l.drop (k + 1):=ldg hlt
  generalize l[k] = x at hm hdr
  rw [hdr,lookPr] at hp
  by_cases hx : x.group = g
  ·rw [if_pos hx] at hp
   subst hx
   cases b with
   | true =>
    simp only [prF,if_true] at hp
    simp -implicitDefEqProofs (disch:=omega) only [h0,h1,h2,h7,hlt,hm,hp,go_sem,↓reduceIte,rA,rS,rE,rL,reduceCtorEq]
    all_goals first | rfl | (congr 3; omega)
   | false =>
    simp only [prF,bft,if_false] at hp
    simp -implicitDefEqProofs (disch:=omega) only [h0,h1,h2,h7,hlt,hm,hp,go_sem,↓reduceIte,rA,rS,rE,rL,reduceCtorEq]
    all_goals first | rfl | (congr 3; omega)
  ·rw [if_neg hx] at hp
   simp -implicitDefEqProofs (disch:=omega) only [h0,h1,h2,h7,hlt,hm,hx,go_sem,↓reduceIte,rA,rS,rE,rL,reduceCtorEq]
   try refine And.intro (by omega) ?_
   refine (hI _ _).2 ⟨?_,?_,?_,?_,?_⟩
   .exact hp
   all_goals exact cl0
 ·rw [ldl (by omega)] at hp
  simp -implicitDefEqProofs (disch:=omega) only [h0,h1,h2,h7,hge,hp,go_sem,↓reduceIte,rA,rS,rE,rL,reduceCtorEq]
  try rfl
abbrev clR (t : Tr) (c : List Ch) (l : List Pr) (b : Bool) (x : Int) : Int:=min (usedF t c x) (lookPr (prF b) l x)
theorem usedF_in {t : Tr} (h : TreeOk t) {c : List Ch} {i : Nat} {n : Nd} (hn : t.nodes[i]? = some n) : usedF t c n.id = tot t (ownC c) n.id:=by
 unfold usedF
 rw [if_pos]
 rw [findN_unique h.inc hn]
 rfl
theorem clR_bound {t : Tr} (h : TreeOk t) {c : List Ch} (hc : ChOk t.nodes c) {l : List Pr} (hl : PrOk t.nodes l) (b : Bool) (x : Int) : 0 <= clR t c l b x /\ clR t c l b x <= 16777216:=claim_bound h hc (prF b) (fun y hy=>by
 have h1:=(hl.least y hy).1
 have h2:=(hl.low y hy).1
 unfold prF
 split <;> omega) x
set_option maxHeartbeats 2000000 in
theorem rclaim_eq {t : Tr} (h : TreeOk t) {c : List Ch} (hc : ChOk t.nodes c) (hcl : c.length < 1000000) (l : List Pr) (hl : l.length < 1000000) (b : Bool) {i : Nat} {n : Nd} (hn : t.nodes[i]? = some n) : V 155 [t.vv,ctrV c,.p (prsP l),.p (.int .i64 n.id),.p (.bool b)] [] = some (.p (.int .i64 (clR t c l b n.id)),[]):=by
 refine V_wp (vf:=vf155) rfl ?_
 have h1:=rsum_eq h hc hcl hn
 have h2:=rsetting_eq l n.id b hl
 rw [<- usedF_in h hn] at h1
 unfold clR
 generalize usedF t c n.id = u at h1
 generalize lookPr (prF b) l n.id = v at h2
 simp -implicitDefEqProofs (disch:=omega) only [vf155,vb155,h1,h2,go_sem,↓reduceIte,rA,rS,rE,rL,reduceCtorEq]
set_option maxHeartbeats 4000000 in
theorem reff_eq0 {t : Tr} (h : TreeOk t) {c : List Ch} (hc : ChOk t.nodes c) (hcl : c.length < 1000000) {l : List Pr} (hp : PrOk t.nodes l) (hl : l.length < 1000000) (b : Bool) (root : Int) : ∀ (i : Nat) (n : Nd),t.nodes[i]? = some n -> root ∈ ancF t.nodes t.nodes.length n.id -> V 138 [t.vv,ctrV c,.p (prsP l),.p (.int .i64 root),.p (.int .i64 n.id),.p (.bool b)] [] = some (.p (.int .i64 (effT t (clR t c l b) root n.id)),[]):=by
 intro i
 induction i using Nat.strongRecOn with
 | _ i ih =>
  intro n hn ha
  have hlen:=h.len
  refine V_wp (vf:=vf138) rfl ?_
  by_cases h1 : n.id = root
  ·rw [h1,effT_root]
   simp -implicitDefEqProofs (disch:=omega) only [vf138,vb138,go_sem,↓reduceIte,rA,rS,rE,rL,reduceCtorEq]
  ·obtain ⟨jp,p,hj,hpn,he,hpa⟩ : ∃ j p,j < i /\ t.nodes[j]? = some p /\ p.id = n.parent /\ root ∈ ancF t.nodes t.nodes.length p.id:=by
    rcases (anc_iff h hn root).1 ha with h2 | ⟨hi,h2⟩
    ·exact absurd h2.symm h1
    ·rcases h.nodeAt hn with ⟨h3,_⟩ | ⟨_,_,j,p,hj,hpn,he⟩
     ·exact absurd h3 hi
     ·exact ⟨j,p,by omega,hpn,he,by rw [he]; exact h2⟩
   have hst:=effT_step h (clR t c l b) hn hpn he hpa
   have hb:=clR_bound h hc hp b
   have hfi:=rfind_eq t n.id (by omega)
   rw [findT_ok ((treeOk_iff t).2 h),findN_unique h.inc hn] at hfi
   simp only [Option.getD_some,Option.isSome_some,Nd.vv] at hfi
   have hcn:=rclaim_eq h hc hcl l hl b hn
   have hin : ∀ x ∈ kidsN t.nodes p.id,InN t.nodes x:=fun x hx=>kid_in hx
   have hks:=rkids_eq t p.id (by omega)
   rw [kids_in h ⟨jp,p,hpn,rfl⟩] at hks
   have hkl:=kidsN_len t.nodes p.id
   have hrec:=ih jp hj p hpn hpa
   have hE:=effT_bound t (clR t c l b) hb root p.id
   rw [he] at hst hks hrec hin hkl hE
   rw [hst]
   by_cases h2 : n.parent = root
   ·have h2' : root = n.parent:=h2.symm
    subst h2'
    rw [if_pos rfl]
    simp -implicitDefEqProofs (disch:=omega) only [vf138,vb138,h1,hfi,hcn,go_sem,↓reduceIte,rA,rS,rE,rL,reduceCtorEq]
   ·rw [if_neg h2]
    have hn0:=hb n.id
    generalize clR t c l b n.id = cn at hcn hn0
    generalize kidsN t.nodes n.parent = ks at hks hkl hin
    generalize effT t (clR t c l b) root n.parent = E at hrec hE
    simp -implicitDefEqProofs (disch:=omega) only [vf138,vb138,h1,h2,hfi,hcn,hrec,hks,go_sem,↓reduceIte,rA,rS,rE,rL,reduceCtorEq]
    obtain ⟨J,hJ⟩ : ∃ I : Nat -> St -> Prop,∀ j s,I j s ↔ ∃ (q : Int),sumI (ks.map (clR t c l b)) = q + sumI ((ks.drop j).map (clR t c l b)) /\ 0 <= q /\ q <= 16777216 * j /\ s.pe 2 = .p (prsP l) /\ s.pe 5 = .p (.bool b) /\ s.pe 6 = .ptr (.slot 6 0) 0 0 /\ s.pe 7 = .ptr (.slot 7 0) 0 0 /\ s.pe 15 = .p (.int .i64 cn) /\ s.pe 16 = .p (.int .i64 E) /\ s.pe 17 = .p (.int .i64 q) /\ s.pe 18 = .own (.slot 51 1) 0 0 ks.length /\ s.pe 19 = .p (.int .i64 j) /\ s.h (.slot 6 0) = some (0,Ob.box [.p (nodesP t.nodes),.p (.int .i64 t.next)]) /\ s.h (.slot 7 0) = some (0,Ob.box [.p (chsP c)]) /\ s.h (.slot 51 1) = some (0,Ob.arr 1 (List.map (.int .i64) ks)):=⟨_,fun _ _=>Iff.rfl⟩
    refine wp_count (ks.length) J ?_ ?_
    ·refine (hJ _ _).2 ⟨0,?_,?_,?_,?_,?_,?_,?_,?_,?_,?_,?_,?_,?_,?_,?_⟩
     ·exact by simp
     ·omega
     ·omega
     all_goals exact cl0
    intro j s hj hJk
    obtain ⟨q,hq,q0,q1,h2,h5,h6,h7,h15,h16,h17,h18,h19,hh6_0,hh7_0,hh51_1⟩:=(hJ _ _).1 hJk
    clear hJk
    simp -implicitDefEqProofs (disch:=omega) only [h2,h5,h6,h7,h15,h16,h17,h18,h19,hh6_0,hh7_0,hh51_1,go_sem,↓reduceIte,rA,rS,rE,rL,reduceCtorEq]
    refine wp_if_d (fun hlt=>?_) (fun hge=>?_)
    ·have hm : ks[j]? = some ks[j]:=lgg hlt
     have hdr : ks.drop j = ks[j] :: ks.drop (j + 1):=ldg hlt
     generalize ks[j] = x at hm hdr
     obtain ⟨a,m,ham,hme⟩:=hin x (lmg hm)
     have hcx:=rclaim_eq h hc hcl l hl b ham
     rw [hme] at hcx
     rw [hdr,lpc,sumI,<- Int.add_assoc] at hq
     obtain ⟨c0,c1⟩:=hb x
     generalize clR t c l b x = v at hcx hq c0 c1
     simp -implicitDefEqProofs (disch:=omega) only [h2,h5,h6,h7,h15,h16,h17,h18,h19,hh6_0,hh7_0,hh51_1,hlt,hm,hcx,go_sem,↓reduceIte,rA,rS,rE,rL,reduceCtorEq]
     try refine And.intro (by omega) ?_
     refine (hJ _ _).2 ⟨q + v,?_,?_,?_,?_,?_,?_,?_,?_,?_,?_,?_,?_,?_,?_,?_⟩
     ·exact hq
     ·omega
     ·exact by push_cast; omega
     all_goals exact cl0
    ·rw [ldl (by omega),lpn,sumI,Int.add_zero] at hq
     rw [hq]
     by_cases hle : q <= E
     ·rw [if_pos hle]
      simp -implicitDefEqProofs (disch:=omega) only [h2,h5,h6,h7,h15,h16,h17,h18,h19,hh6_0,hh7_0,hh51_1,hge,hle,go_sem,↓reduceIte,rA,rS,rE,rL,reduceCtorEq]
     ·rw [if_neg hle]
      have m0 : 0 <= cn * E:=Int.mul_nonneg hn0.1 hE.1
      have m1 : cn * E <= 16777216 * 16777216:=Int.mul_le_mul hn0.2 hE.2 hE.1 (by omega)
      have m2 : (cn * E).tdiv q = cn * E / q:=Int.tdiv_eq_ediv_of_nonneg m0
      have m3 : 0 <= cn * E / q:=Int.ediv_nonneg m0 (by omega)
      have m4 : cn * E / q <= 16777216 * 16777216:=Int.le_trans (Int.ediv_le_self _ m0) m1
      simp -implicitDefEqProofs (disch:=omega) only [h2,h5,h6,h7,h15,h16,h17,h18,h19,hh6_0,hh7_0,hh51_1,hge,hle,m2,go_sem,↓reduceIte,rA,rS,rE,rL,reduceCtorEq]
set_option maxHeartbeats 4000000 in
theorem rvalid23_eq (t : Tr) (l : List Pr) (hn : t.nodes.length < 1000000) (hl : l.length < 1000000) : V 91 [t.vv,.p (prsP l)] [] = some (.p (.bool (validPr t l)),[]):=by
 refine V_wp (vf:=vf91) rfl ?_
 have hc := rcheck_eq t hn
 unfold validPr
 by_cases ht : treeOk t = true
 ·rw [ht] at hc ⊢
  rw [Bool.true_and]
  simp -implicitDefEqProofs (disch:=omega) only [vf91,vb91,hc,go_sem,↓reduceIte,rA,rS,rE,rL,reduceCtorEq]
  obtain ⟨I,hI⟩ : ∃ I : Nat -> St -> Prop,∀ k s,I k s ↔ ∃ (p : Option Int),prOk t.nodes none l = prOk t.nodes p (l.drop k) /\ (k = 0 -> p = none) /\ (∀ j,k = j + 1 -> ∃ c,l[j]? = some c /\ p = some c.group) /\ s.pe 1 = .p (prsP l) /\ s.pe 2 = .ptr (.slot 2 0) 0 0 /\ s.pe 5 = .p (.int .i64 k) /\ s.h (.slot 2 0) = some (0,Ob.box [.p (nodesP t.nodes),.p (.int .i64 t.next)]):=⟨_,fun _ _=>Iff.rfl⟩
  refine wp_count (l.length) I ?_ ?_
  ·refine (hI _ _).2 ⟨none,?_,?_,?_,?_,?_,?_,?_⟩
   ·rfl
   ·exact fun _=>rfl
   ·exact fun j hj=>by omega
   all_goals exact cl0
  intro k s hk hIk
  obtain ⟨p,hq,hp0,hp1,h1,h2,h5,hh2_0⟩:=(hI _ _).1 hIk
  clear hIk
  simp -implicitDefEqProofs (disch:=omega) only [h1,h2,h5,hh2_0,go_sem,↓reduceIte,rA,rS,rE,rL,reduceCtorEq]
  refine wp_if_d (fun hlt=>?_) (fun hge=>?_)
  ·have hm : l[k]? = some l[k]:=lgg hlt
   have hd : l.drop k = l[k] :: l.drop (k + 1):=ldg hlt
   generalize l[k] = c at hm hd
   have hfi:=rhas_eq t c.group hn
   rw [findT_ok ht] at hfi
   rw [hd, prOk] at hq
   have hnx : ∀ j,k + 1 = j + 1 -> ∃ c',l[j]? = some c' /\ some c.group = some c'.group:=fun j hj=>⟨c,by rw [show j = k by omega]; exact hm,rfl⟩
   cases hfs : (findN t.nodes c.group).isSome with
   | false =>
    rw [hfs] at hfi
    simp only [hfs,bfa] at hq
    simp -implicitDefEqProofs (disch:=omega) only [h1,h2,h5,hh2_0,hlt,hm,hfi,hq,go_sem,↓reduceIte,rA,rS,rE,rL,reduceCtorEq]
   | true =>
    rw [hfs] at hfi
    rw [hfs,bta] at hq
    by_cases hk0 : (0 : Int) < k
    ·obtain ⟨e,he,hpe⟩:=hp1 (k - 1) (by omega)
     have he' : l[((k : Int) - 1).toNat]? = some e:=by rw [show ((k : Int) - 1).toNat = k - 1 by omega]; exact he
     have hk1 : (0 : Int) <= (k : Int) - 1:=by omega
     subst hpe
     by_cases hle : c.group <= e.group
     ·rw [show prevOk (some e.group) c.group = false from decide_eq_false (by omega)] at hq
      simp only [bfa] at hq
      simp -implicitDefEqProofs (disch:=omega) only [h1,h2,h5,hh2_0,hlt,hm,hfi,hk0,hk1,he',hle,hq,go_sem,↓reduceIte,rA,rS,rE,rL,reduceCtorEq]
     ·rw [show prevOk (some e.group) c.group = true from decide_eq_true (by omega),bta] at hq
      by_cases b0 : c.least < 0
      ·rw [show amtB c.least = false by simp [amtB]; omega] at hq
       simp only [bfa] at hq
       simp -implicitDefEqProofs (disch:=omega) only [h1,h2,h5,hh2_0,hlt,hm,hfi,hk0,hk1,he',hle,b0,hq,go_sem,↓reduceIte,rA,rS,rE,rL,reduceCtorEq]
      ·skip
       by_cases b1 : 4611686018427387904 < c.least
       ·rw [show amtB c.least = false by simp [amtB]; omega] at hq
        simp only [bfa] at hq
        simp -implicitDefEqProofs (disch:=omega) only [h1,h2,h5,hh2_0,hlt,hm,hfi,hk0,hk1,he',hle,b0,b1,hq,go_sem,↓reduceIte,rA,rS,rE,rL,reduceCtorEq]
       ·rw [show amtB c.least = true by simp [amtB]; omega,bta] at hq
        by_cases b2 : c.low < 0
        ·rw [show amtB c.low = false by simp [amtB]; omega] at hq
         simp only [bfa] at hq
         simp -implicitDefEqProofs (disch:=omega) only [h1,h2,h5,hh2_0,hlt,hm,hfi,hk0,hk1,he',hle,b0,b1,b2,hq,go_sem,↓reduceIte,rA,rS,rE,rL,reduceCtorEq]
        ·skip
         by_cases b3 : 4611686018427387904 < c.low
         ·rw [show amtB c.low = false by simp [amtB]; omega] at hq
          simp only [bfa] at hq
          simp -implicitDefEqProofs (disch:=omega) only [h1,h2,h5,hh2_0,hlt,hm,hfi,hk0,hk1,he',hle,b0,b1,b2,b3,hq,go_sem,↓reduceIte,rA,rS,rE,rL,reduceCtorEq]
         ·rw [show amtB c.low = true by simp [amtB]; omega,bta] at hq
          simp -implicitDefEqProofs (disch:=omega) only [h1,h2,h5,hh2_0,hlt,hm,hfi,hk0,hk1,he',hle,b0,b1,b2,b3,go_sem,↓reduceIte,rA,rS,rE,rL,reduceCtorEq]
          try refine And.intro (by omega) ?_
          refine (hI _ _).2 ⟨some c.group,?_,?_,?_,?_,?_,?_,?_⟩
          .exact hq
          .exact by simp
          .exact hnx
          all_goals exact cl0
    ·have hpn:=hp0 (by omega)
     subst hpn
     rw [show prevOk none c.group = true from rfl,bta] at hq
     by_cases b0 : c.least < 0
     ·rw [show amtB c.least = false by simp [amtB]; omega] at hq
      simp only [bfa] at hq
      simp -implicitDefEqProofs (disch:=omega) only [h1,h2,h5,hh2_0,hlt,hm,hfi,hk0,b0,hq,go_sem,↓reduceIte,rA,rS,rE,rL,reduceCtorEq]
     ·skip
      by_cases b1 : 4611686018427387904 < c.least
      ·rw [show amtB c.least = false by simp [amtB]; omega] at hq
       simp only [bfa] at hq
       simp -implicitDefEqProofs (disch:=omega) only [h1,h2,h5,hh2_0,hlt,hm,hfi,hk0,b0,b1,hq,go_sem,↓reduceIte,rA,rS,rE,rL,reduceCtorEq]
      ·rw [show amtB c.least = true by simp [amtB]; omega,bta] at hq
       by_cases b2 : c.low < 0
       ·rw [show amtB c.low = false by simp [amtB]; omega] at hq
        simp only [bfa] at hq
        simp -implicitDefEqProofs (disch:=omega) only [h1,h2,h5,hh2_0,hlt,hm,hfi,hk0,b0,b1,b2,hq,go_sem,↓reduceIte,rA,rS,rE,rL,reduceCtorEq]
       ·skip
        by_cases b3 : 4611686018427387904 < c.low
        ·rw [show amtB c.low = false by simp [amtB]; omega] at hq
         simp only [bfa] at hq
         simp -implicitDefEqProofs (disch:=omega) only [h1,h2,h5,hh2_0,hlt,hm,hfi,hk0,b0,b1,b2,b3,hq,go_sem,↓reduceIte,rA,rS,rE,rL,reduceCtorEq]
        ·rw [show amtB c.low = true by simp [amtB]; omega,bta] at hq
         simp -implicitDefEqProofs (disch:=omega) only [h1,h2,h5,hh2_0,hlt,hm,hfi,hk0,b0,b1,b2,b3,go_sem,↓reduceIte,rA,rS,rE,rL,reduceCtorEq]
         try refine And.intro (by omega) ?_
         refine (hI _ _).2 ⟨some c.group,?_,?_,?_,?_,?_,?_,?_⟩
         .exact hq
         .exact by simp
         .exact hnx
         all_goals exact cl0
  ·rw [ldl (by omega)] at hq
   simp only [prOk] at hq
   simp -implicitDefEqProofs (disch:=omega) only [h1,h2,h5,hh2_0,hge,hq,go_sem,↓reduceIte,rA,rS,rE,rL,reduceCtorEq]
 ·have htf : treeOk t = false:=by simpa using ht
  rw [htf] at hc ⊢
  simp -implicitDefEqProofs (disch:=omega) only [vf91,vb91,hc,bfa,go_sem,↓reduceIte,rA,rS,rE,rL,reduceCtorEq]
set_option maxHeartbeats 4000000 in
theorem rEff_ok {t : Tr} {c : List Ch} {l : List Pr} {root : Int} (h : TreeOk t) (hc : ChOk t.nodes c) (hp : PrOk t.nodes l) (hr : InN t.nodes root) (hcl : c.length < 1000000) (hl : l.length < 1000000) : V 92 [t.vv,ctrV c,.p (prsP l),.p (.int .i64 root)] [] = some (.tup [.fresh 3 ((effL t c l root).map Pr.pv),.p (.int .i64 0)],[]):=by
 refine V_wp (vf:=vf92) rfl ?_
 have hlen:=h.len
 have ht:=(treeOk_iff t).2 h
 have h1:=rvalidK_eq t c (by omega) hcl
 rw [(validK_iff t c).2 ⟨h,hc⟩] at h1
 have h2:=rvalid23_eq t l (by omega) hl
 rw [(validPr_iff t l).2 ⟨h,hp⟩] at h2
 have hhas : (findN t.nodes root).isSome = true:=by
  obtain ⟨i,n,hn,rfl⟩:=hr
  rw [findN_unique h.inc hn]
  rfl
 have h3:=rhas_eq t root (by omega)
 rw [findT_ok ht,hhas] at h3
 have hsub:=rsub_eq (t:=t) root (by omega)
 have hsl:=subT_len h root
 have hnd:=nodup_subT h root
 have hsu:=rsorted_eq (subT t root) (by omega)
 rw [sortU_msort hnd] at hsu
 have hml:=msort_length (subT t root)
 have hmem : ∀ g ∈ msort (subT t root),∃ (i : Nat) (n : Nd),t.nodes[i]? = some n /\ n.id = g /\ root ∈ ancF t.nodes t.nodes.length n.id:=by
  intro g hg
  rw [(msort_perm _).mem_iff] at hg
  obtain ⟨i,n,hn,hne⟩:=hr
  rw [<- hne,subT_some h hn] at hg
  have hga : g ∈ subA t root:=by rw [<- hne]; exact hg
  obtain ⟨j,m,hm,hme⟩:=subA_in h ⟨i,n,hn,hne⟩ hga
  refine ⟨j,m,hm,hme,?_⟩
  rw [<- ancR_anc h hm,hme]
  exact (mem_anc h ⟨i,n,hn,hne⟩ ⟨j,m,hm,hme⟩).2 hga
 unfold effL
 generalize msort (subT t root) = S at hsu hml hmem
 have hE : ∀ {k : Nat} {g : Int},S[k]? = some g -> (S.map (effPr t c l root))[k]? = some (effPr t c l root g):=fun {k g} hk=>by rw [List.getElem?_map,hk]; rfl
 have hEl : (S.map (effPr t c l root)).length = S.length:=llm _
 generalize S.map (effPr t c l root) = E at hE hEl
 simp -implicitDefEqProofs (disch:=omega) only [vf92,vb92,h1,h2,h3,hsub,hsu,go_sem,↓reduceIte,rA,rS,rE,rL,reduceCtorEq]
 obtain ⟨I,hI⟩ : ∃ I : Nat -> St -> Prop,∀ k s,I k s ↔ ∃ (acc : List Pr) (w : Nat),acc = E.take k /\ acc.length <= k /\ s.pe 2 = .p (prsP l) /\ s.pe 3 = .p (.int .i64 root) /\ s.pe 4 = .ptr (.slot 4 0) 0 0 /\ s.pe 5 = .ptr (.slot 5 0) 0 0 /\ s.pe 10 = .own (.slot 10 0) w 0 acc.length /\ s.pe 11 = .own (.slot 30 1) 0 0 S.length /\ s.pe 12 = .p (.int .i64 k) /\ s.h (.slot 4 0) = some (0,Ob.box [.p (nodesP t.nodes),.p (.int .i64 t.next)]) /\ s.h (.slot 5 0) = some (0,Ob.box [.p (chsP c)]) /\ s.h (.slot 10 0) = some (w,Ob.arr 3 (acc.map Pr.pv)) /\ s.h (.slot 30 1) = some (0,Ob.arr 1 (List.map (.int .i64) S)):=⟨_,fun _ _=>Iff.rfl⟩
 refine wp_count (S.length) I ?_ ?_
 ·refine (hI _ _).2 ⟨[],0,?_,?_,?_,?_,?_,?_,?_,?_,?_,?_,?_,?_,?_⟩
  .rfl
  .exact Nat.zero_le _
  all_goals exact cl0
 intro k s hk hIk
 obtain ⟨acc,w,hacc,hal,h2,h3,h4,h5,h10,h11,h12,hh4_0,hh5_0,hh10_0,hh30_1⟩:=(hI _ _).1 hIk
 clear hIk
 simp -implicitDefEqProofs (disch:=omega) only [h2,h3,h4,h5,h10,h11,h12,hh4_0,hh5_0,hh10_0,hh30_1,go_sem,↓reduceIte,rA,rS,rE,rL,reduceCtorEq]
 refine wp_if_d (fun hlt=>?_) (fun hge=>?_)
 ·have hm : S[k]? = some S[k]:=lgg hlt
  generalize S[k] = g at hm
  have he:=hE hm
  have htk:=take_snoc he
  obtain ⟨i,n,hn,hne,hna⟩:=hmem g (lmg hm)
  have e1:=reff_eq0 h hc hcl hp hl false root i n hn hna
  have e2:=reff_eq0 h hc hcl hp hl true root i n hn hna
  rw [hne] at e1 e2
  have g0 : g = (effPr t c l root g).group:=rfl
  have g1 : effT t (clR t c l false) root g = (effPr t c l root g).least:=rfl
  have g2 : effT t (clR t c l true) root g = (effPr t c l root g).low:=rfl
  rw [g1] at e1
  rw [g2] at e2
  generalize effPr t c l root g = e at he htk e1 e2 g0
  subst g0
  simp -implicitDefEqProofs (disch:=omega) only [h2,h3,h4,h5,h10,h11,h12,hh4_0,hh5_0,hh10_0,hh30_1,hlt,hm,e1,e2,go_sem,↓reduceIte,rA,rS,rE,rL,reduceCtorEq]
  try refine And.intro (by omega) ?_
  refine (hI _ _).2 ⟨acc ++ [e],w + 1,?_,?_,?_,?_,?_,?_,?_,?_,?_,?_,?_,?_,?_⟩
  .exact by rw [htk,hacc]
  .exact by simp; omega
  all_goals exact cl0
 ·rw [ltl (by omega)] at hacc
  subst hacc
  simp -implicitDefEqProofs (disch:=omega) only [h2,h3,h4,h5,h10,h11,h12,hh4_0,hh5_0,hh10_0,hh30_1,hge,go_sem,↓reduceIte,rA,rS,rE,rL,reduceCtorEq]
set_option maxHeartbeats 2000000 in
theorem rcounter25_eq (sw : Stk) (hl : sw.hs.length < 1000000) (hb : ∀ h ∈ sw.hs,inPg h.file /\ inPg h.anon) : V 35 [sw.vv] [] = some (ctrF (cntS sw.hs),[]):=by
 refine V_wp (vf:=vf35) rfl ?_
 simp -implicitDefEqProofs (disch:=omega) only [vf35,vb35,go_sem,↓reduceIte,rA,rS,rE,rL,reduceCtorEq]
 obtain ⟨I,hI⟩ : ∃ I : Nat -> St -> Prop,∀ k s,I k s ↔ ∃ (acc : List Ch) (w : Nat),cntS sw.hs = acc ++ cntS (sw.hs.drop k) /\ acc.length <= k /\ s.pe 1 = .ptr (.slot 1 0) 0 0 /\ s.pe 2 = .ptr (.slot 2 0) 0 0 /\ s.pe 3 = .own (.slot 3 0) w 0 acc.length /\ s.pe 4 = .p (.int .i64 k) /\ s.h (.slot 1 0) = some (0,Ob.box [.p (hgsP sw.hs),.p (.int .i64 sw.size)]) /\ s.h (.slot 2 0) = some (0,Ob.box [.own (.slot 2 1) 0 0 0]) /\ s.h (.slot 2 1) = some (0,Ob.arr 2 []) /\ s.h (.slot 3 0) = some (w,Ob.arr 2 (acc.map Ch.pv)):=⟨_,fun _ _=>Iff.rfl⟩
 refine wp_count (sw.hs.length) I ?_ ?_
 ·refine (hI _ _).2 ⟨[],0,?_,?_,?_,?_,?_,?_,?_,?_,?_,?_⟩
  ·rfl
  ·exact lrf _
  all_goals exact cl0
 intro k s hk hIk
 obtain ⟨acc,w,ho,hal,h1,h2,h3,h4,hh1_0,hh2_0,hh2_1,hh3_0⟩:=(hI _ _).1 hIk
 clear hIk
 simp -implicitDefEqProofs (disch:=omega) only [h1,h2,h3,h4,hh1_0,hh2_0,hh2_1,hh3_0,go_sem,↓reduceIte,rA,rS,rE,rL,reduceCtorEq]
 refine wp_if_d (fun hlt=>?_) (fun hge=>?_)
 ·have hm : sw.hs[k]? = some sw.hs[k]:=lgg hlt
  have hd : sw.hs.drop k = sw.hs[k] :: sw.hs.drop (k + 1):=ldg hlt
  obtain ⟨⟨b1,b2⟩,b3,b4⟩:=hb _ (lmg hm)
  generalize sw.hs[k] = c at hm hd b1 b2 b3 b4
  rw [hd,cntS_cons] at ho
  by_cases he : c.file + c.anon = 0
  ·rw [if_pos he,lna] at ho
   simp -implicitDefEqProofs (disch:=omega) only [h1,h2,h3,h4,hh1_0,hh2_0,hh2_1,hh3_0,hlt,hm,he,go_sem,↓reduceIte,rA,rS,rE,rL,reduceCtorEq]
   try refine And.intro (by omega) ?_
   refine (hI _ _).2 ⟨acc,w,?_,?_,?_,?_,?_,?_,?_,?_,?_,?_⟩
   .exact ho
   .omega
   all_goals exact cl0
  ·rw [if_neg he,<- laa] at ho
   simp -implicitDefEqProofs (disch:=omega) only [h1,h2,h3,h4,hh1_0,hh2_0,hh2_1,hh3_0,hlt,hm,he,go_sem,↓reduceIte,rA,rS,rE,rL,reduceCtorEq]
   try refine And.intro (by omega) ?_
   refine (hI _ _).2 ⟨acc ++ [⟨c.group,c.file + c.anon⟩],w + 1,?_,?_,?_,?_,?_,?_,?_,?_,?_,?_⟩
   .exact ho
   .exact by simp; omega
   all_goals exact cl0
 ·rw [ldl (by omega)] at ho
  rw [show cntS [] = [] from rfl,lan] at ho
  simp -implicitDefEqProofs (disch:=omega) only [h1,h2,h3,h4,hh1_0,hh2_0,hh2_1,hh3_0,hge,go_sem,↓reduceIte,rA,rS,rE,rL,reduceCtorEq]
  rw [ho]
set_option maxHeartbeats 2000000 in
theorem rusage_eq {t : Tr} (h : TreeOk t) {z : Int} {hs : List Hg} (hh : HgOk t.nodes z hs) (hl : hs.length < 1000000) {i : Nat} {n : Nd} (hn : t.nodes[i]? = some n) : V 103 [t.vv,Stk.vv ⟨hs,z⟩,.p (.int .i64 n.id)] [] = some (.p (.int .i64 (usedF t (cntS hs) n.id)),[]):=by
 refine V_wp (vf:=vf103) rfl ?_
 have h1:=rcounter25_eq ⟨hs,z⟩ hl fun x hx=>⟨hh.file x hx,hh.anon x hx⟩
 have hc:=cntS_ok hh
 have h2:=rsum_eq h hc (by have:=cntS_len hs; omega) hn
 rw [<- usedF_in h hn] at h2
 simp only [Stk.vv,ctrF,ctrV] at h1 h2
 simp -implicitDefEqProofs (disch:=omega) only [vf103,vb103,h1,h2,go_sem,↓reduceIte,rA,rS,rE,rL,reduceCtorEq]
end Go.V
