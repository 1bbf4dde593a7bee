/- Part 8 of the proof. -/
import Derived.Test.YtdbjijjeolnboaaGreatA6
import Derived.Test.YtdbjijjeolnboaaGreatA5
import Derived.Test.YtdbjijjeolnboaaGreatA7
import Derived.Test.YtdbjijjeolnboaaGreatA3
import Derived.Test.YtdbjijjeolnboaaGreatA4
set_option linter.unusedSectionVars false
set_option linter.unusedSimpArgs false
set_option linter.unusedVariables false
open Nat renaming reduceAdd → rA, reduceSub → rS, reduceEqDiff → rE, reduceLeDiff → rL
open List renaming getElem?_eq_getElem → lgg, mem_of_getElem? → lmg, map_cons → lpc, mem_map → lmm, map_append → lma, take_of_length_le → ltl, getElem?_of_mem → lgm, length_cons → llc, map_nil → lpn, length_nil → lln, length_map → llm, getElem_mem → lgk, foldl_append → lfa
open Bool renaming and_eq_true → bat, false_and → bfa, false_eq_true → bft, true_and → bta, not_false → bnf
namespace Go.V
set_option maxHeartbeats 8000000 in
theorem rparts_eq {t : Tr} {sw : Stk} (hS : StkOk t sw) {l : List Ch} (hl : LimOk l) (hll : l.length < 1000000) (eff : List Pr) (hel : eff.length < 1000000) (hin : ∀ e ∈ eff,InN t.nodes e.group) (out low : Bool) :
  V 94 [t.vv,sw.vv,.p (prsP eff),.p (chsP l),.p (.bool (!low)),.p (.bool out)] [] = some (.fresh 5 ((partsS t sw.size l eff out low sw.hs).map Pt.pv),[]):=by
 refine V_wp (vf:=vf94) rfl ?_
 have hlen:=hS.tree.len
 have hsl:=hS.hs.length
 simp -implicitDefEqProofs (disch:=omega) only [vf94,vb94,go_sem,↓reduceIte,rA,rS,rE,rL,reduceCtorEq]
 obtain ⟨I,hI⟩ : ∃ I : Nat -> St -> Prop,∀ k s,I k s ↔ ∃ (acc : List Pt) (w : Nat),acc = (eff.take k).map (prtS t sw.hs sw.size l (ownS out) (prS low) out) /\ acc.length <= k /\ s.pe 2 = .p (prsP eff) /\ s.pe 3 = .p (chsP l) /\ s.pe 4 = .p (.bool (!low)) /\ s.pe 5 = .p (.bool out) /\ s.pe 6 = .ptr (.slot 6 0) 0 0 /\ s.pe 7 = .ptr (.slot 7 0) 0 0 /\ s.pe 13 = .own (.slot 13 0) w 0 acc.length /\ s.pe 14 = .p (.int .i64 k) /\ s.h (.slot 6 0) = some (0,Ob.box [.p (nodesP t.nodes),.p (.int .i64 t.next)]) /\ s.h (.slot 7 0) = some (0,Ob.box [.p (hgsP sw.hs),.p (.int .i64 sw.size)]) /\ s.h (.slot 13 0) = some (w,Ob.arr 5 (acc.map Pt.pv)):=⟨_,fun _ _=>Iff.rfl⟩
 refine wp_count (eff.length) I ?_ ?_
 ·refine (hI _ _).2 ⟨[],0,?_,?_,?_,?_,?_,?_,?_,?_,?_,?_,?_,?_,?_⟩
  ·exact by simp
  ·exact Nat.zero_le _
  all_goals exact cl0
 intro k s hk hIk
 obtain ⟨acc,w,hacc,hal,h2,h3,h4,h5,h6,h7,h13,h14,hh6_0,hh7_0,hh13_0⟩:=(hI _ _).1 hIk
 clear hIk
 simp -implicitDefEqProofs (disch:=omega) only [h2,h3,h4,h5,h6,h7,h13,h14,hh6_0,hh7_0,hh13_0,go_sem,↓reduceIte,rA,rS,rE,rL,reduceCtorEq]
 refine wp_if_d (fun hlt=>?_) (fun hge=>?_)
 ·have hx : eff[k]? = some eff[k]:=lgg hlt
  have hg:=hin _ (lgk hlt)
  have htk:=take_snoc hx
  generalize eff[k] = e at hx htk hg
  have hr:=rroom25_eq hS hl hll hg
  obtain ⟨i,m,hm,he⟩:=hg
  have hu:=rusage_eq hS.tree hS.hs (by omega) hm
  rw [he] at hu
  have hgt:=rget_eq sw e.group (by omega)
  simp only [Stk.vv] at hu hgt hr
  have hnew : ∀ x : Pt,x = prtS t sw.hs sw.size l (ownS out) (prS low) out e -> acc ++ [x] = (eff.take (k + 1)).map (prtS t sw.hs sw.size l (ownS out) (prS low) out):=by
   rintro x rfl
   rw [hacc,htk,lma]
   rfl
  generalize hU : usedF t (cntS sw.hs) e.group = U at hu
  generalize hG : getS sw.hs e.group = c at hgt
  generalize hR : roomS t sw.hs sw.size l e.group = R at hr
  cases low with
  | false =>
   cases out with
   | false =>
    simp -implicitDefEqProofs (disch:=omega) only [h2,h3,h4,h5,h6,h7,h13,h14,hh6_0,hh7_0,hh13_0,hlt,hx,hu,hgt,Pr.pv,bnf,Pt.pv,go_sem,↓reduceIte,rA,rS,rE,rL,reduceCtorEq]
    try refine And.intro (by omega) ?_
    refine (hI _ _).2 ⟨acc ++ [⟨e.group,U,max e.least e.low,c.file,4611686018427387904⟩],w + 1,?_,?_,?_,?_,?_,?_,?_,?_,?_,?_,?_,?_,?_⟩
    .exact hnew _ (by simp [prtS,hU,hG,ownS,prS])
    .exact by simp; omega
    all_goals exact cl0
   | true =>
    simp -implicitDefEqProofs (disch:=omega) only [h2,h3,h4,h5,h6,h7,h13,h14,hh6_0,hh7_0,hh13_0,hlt,hx,hu,hgt,hr,Pr.pv,bnf,Pt.pv,go_sem,↓reduceIte,rA,rS,rE,rL,reduceCtorEq]
    try refine And.intro (by omega) ?_
    refine (hI _ _).2 ⟨acc ++ [⟨e.group,U,max e.least e.low,c.anon,R⟩],w + 1,?_,?_,?_,?_,?_,?_,?_,?_,?_,?_,?_,?_,?_⟩
    .exact hnew _ (by simp [prtS,hU,hG,hR,ownS,prS])
    .exact by simp; omega
    all_goals exact cl0
  | true =>
   cases out with
   | false =>
    simp -implicitDefEqProofs (disch:=omega) only [h2,h3,h4,h5,h6,h7,h13,h14,hh6_0,hh7_0,hh13_0,hlt,hx,hu,hgt,Pr.pv,Bool.not_true,Pt.pv,go_sem,↓reduceIte,rA,rS,rE,rL,reduceCtorEq]
    try refine And.intro (by omega) ?_
    refine (hI _ _).2 ⟨acc ++ [⟨e.group,U,e.least,c.file,4611686018427387904⟩],w + 1,?_,?_,?_,?_,?_,?_,?_,?_,?_,?_,?_,?_,?_⟩
    .exact hnew _ (by simp [prtS,hU,hG,ownS,prS])
    .exact by simp; omega
    all_goals exact cl0
   | true =>
    simp -implicitDefEqProofs (disch:=omega) only [h2,h3,h4,h5,h6,h7,h13,h14,hh6_0,hh7_0,hh13_0,hlt,hx,hu,hgt,hr,Pr.pv,Bool.not_true,Pt.pv,go_sem,↓reduceIte,rA,rS,rE,rL,reduceCtorEq]
    try refine And.intro (by omega) ?_
    refine (hI _ _).2 ⟨acc ++ [⟨e.group,U,e.least,c.anon,R⟩],w + 1,?_,?_,?_,?_,?_,?_,?_,?_,?_,?_,?_,?_,?_⟩
    .exact hnew _ (by simp [prtS,hU,hG,hR,ownS,prS])
    .exact by simp; omega
    all_goals exact cl0
 ·rw [ltl (by omega)] at hacc
  simp -implicitDefEqProofs (disch:=omega) only [h2,h3,h4,h5,h6,h7,h13,h14,hh6_0,hh7_0,hh13_0,hge,go_sem,↓reduceIte,rA,rS,rE,rL,reduceCtorEq]
  rw [hacc]
theorem putGo_true {h : Hg} : ∀ {l : List Hg},(∀ x ∈ l,x.group ≠ h.group) -> putGo h true l = l
 | [],_=>rfl
 | x :: l,hx=>by
  have h0:=hx x (by simp)
  unfold putGo
  rw [if_neg h0,Bool.true_or,putGo_true fun y hy=>hx y (by simp [hy])]
  simp
theorem putS_none {l : List Hg} (h : ∀ x ∈ l,x.group ≠ 0) : putS l ⟨0,0,0,0⟩ = l:=putGo_true (h:=⟨0,0,0,0⟩) h
theorem HgOk.ne0 {t : Tr} (hT : TreeOk t) {z : Int} {l : List Hg} (h : HgOk t.nodes z l) : ∀ x ∈ l,x.group ≠ 0:=fun x hx=>by
 obtain ⟨m,hm,he⟩:=findN_some (h.known x hx)
 have:=hT.pos m hm
 omega
theorem effOk_inc {t : Tr} (h : TreeOk t) {root : Int} (hr : InN t.nodes root) {eff : List Pr} (he : EffOk t root eff) : eff.Pairwise fun a b=>a.group < b.group:=by
 obtain ⟨i,n,hn,rfl⟩:=hr
 have h1 : (subT t n.id).Nodup:=by
  rw [subT_some h hn]
  exact subF_nodup h hn
 have h2:=msort_inc h1
 rw [<- he.groups,List.pairwise_map] at h2
 exact h2
theorem effOk_in {t : Tr} (h : TreeOk t) {root : Int} (hr : InN t.nodes root) {eff : List Pr} (he : EffOk t root eff) : ∀ e ∈ eff,InN t.nodes e.group:=fun e hem=>subA_in h hr ((effOk_mem h hr he e.group).1 (lmm.2 ⟨e,hem,rfl⟩))
theorem ShrinkS_len (t : Tr) (sw : Stk) (p : List Pr) (l : List Ch) (root n : Int) : (ShrinkS t sw p l root n).1.hs.length < 1000000 /\ (ShrinkS t sw p l root n).2.1.length < 1000000:=by
 unfold ShrinkS
 by_cases h0 : (validS t sw && validPr t p && validLK t l) = true
 ·rw [if_pos h0]
  simp only [bat] at h0
  obtain ⟨⟨h1,h2⟩,h3⟩:=h0
  by_cases h4 : (findN t.nodes root).isSome = true
  ·rw [if_pos h4]
   by_cases h5 : pagesB n = true
   ·rw [if_pos h5]
    have hS:=(validS_iff t sw).1 h1
    have hT:=hS.tree
    have hPr:=((validPr_iff t p).1 h2).2
    have hlen:=hT.len
    have hr : InN t.nodes root:=by
     obtain ⟨m,hm,he⟩:=findN_some h4
     obtain ⟨j,hj⟩:=lgm hm
     exact ⟨j,m,hj,he⟩
    have hcn:=cntS_ok hS.hs
    have heo:=effL_ok hT hcn hPr root
    have hnb:=pagesB_true h5
    have hz : inPg sw.size:=⟨hS.z0,hS.z1⟩
    have hsh:=(shr_ok hT hr hz hnb.2 l heo (shr0_ok hS.hs hnb.1) 4).hs.length
    have hol:=outL_len (shrS t sw.size l (effL t (cntS sw.hs) p root) root (sw.hs,(fun _=>zeroSh),n) 4).2.1 (effL t (cntS sw.hs) p root)
    have hel : (effL t (cntS sw.hs) p root).length <= 64:=by
     have h6:=subT_len hT root
     unfold effL
     rw [llm,msort_length]
     omega
    simp only []
    omega
   ·rw [if_neg h5]
    exact ⟨by simp,by simp⟩
  ·rw [if_neg h4]
   exact ⟨by simp,by simp⟩
 ·rw [if_neg h0]
  exact ⟨by simp,by simp⟩
theorem takeSt_snoc' (out low : Bool) (s : ShSt) (b : List (Int × Int)) (q : Int × Int) : takeSt out low s (b ++ [q]) = (putS (takeSt out low s b).1 (takeH out (getS (takeSt out low s b).1 q.1) q.2),(fun x=>if x = q.1 then takeK out low q.1 ((takeSt out low s b).2.1 q.1) q.2 else (takeSt out low s b).2.1 x),(takeSt out low s b).2.2 - q.2):=by
 unfold takeSt takeAll
 rw [lfa,lma,sumI_append]
 simp only [List.foldl_cons,List.foldl_nil,takeOne,lpc,lpn,sumI]
 congr 2
 omega
theorem noteO_0 (l : List Sh) : noteO 0 l = .arr 4 (l.map Sh.pv):=rfl
theorem noteO_1 (l : List Sh) : noteO 1 l = .box [.undef,.fresh 4 (l.map Sh.pv)]:=rfl
set_option maxHeartbeats 16000000 in
theorem rShrink_eq (t : Tr) (sw : Stk) (p : List Pr) (l : List Ch) (root n : Int) (hn : t.nodes.length < 1000000) (hl : sw.hs.length < 1000000) (hpl : p.length < 1000000) (hll : l.length < 1000000) : V 41 [t.vv,sw.vv,.p (prsP p),.p (chsP l),.p (.int .i64 root),.p (.int .i64 n)] [] = some (.tup [Stk.fv (ShrinkS t sw p l root n).1,.fresh 4 ((ShrinkS t sw p l root n).2.1.map Sh.pv),.p (.int .i64 (ShrinkS t sw p l root n).2.2)],[]):=by
 refine V_wp (vf:=vf41) rfl ?_
 have hv := rsvalid_eq t sw hn hl
 have hpv:=rvalid23_eq t p hn hpl
 have hlv:=rlimits_eq t l hn hll
 have hh := rhas_eq t root hn
 unfold ShrinkS
 by_cases h1 : validS t sw = true
 ·rw [h1] at hv ⊢
  by_cases h2 : validPr t p = true
  ·rw [h2] at hpv ⊢
   by_cases h3 : validLK t l = true
   ·rw [h3] at hlv ⊢
    have hS:=(validS_iff t sw).1 h1
    rw [findT_ok ((treeOk_iff t).2 hS.tree)] at hh
    by_cases h4 : (findN t.nodes root).isSome = true
    ·rw [h4] at hh ⊢
     by_cases h5 : pagesB n = true
     ·rw [h5]
      have hT:=hS.tree
      have hPr:=((validPr_iff t p).1 h2).2
      have hL:=LimOk.of ((validLK_iff t l).1 h3).2
      have hlen:=hT.len
      have hr : InN t.nodes root:=by
       obtain ⟨m,hm,he⟩:=findN_some h4
       obtain ⟨j,hj⟩:=lgm hm
       exact ⟨j,m,hj,he⟩
      have hcn:=cntS_ok hS.hs
      have hct:=rcounter25_eq sw hl (fun x hx=>⟨hS.hs.file x hx,hS.hs.anon x hx⟩)
      have hef:=rEff_ok hT hcn hPr hr (by have:=cntS_len sw.hs; omega) hpl
      have heo:=effL_ok hT hcn hPr root
      have hnb:=pagesB_true h5
      obtain ⟨hn0,hn1⟩:=hnb
      have hz : inPg sw.size:=⟨hS.z0,hS.z1⟩
      have hsh:=shr_ok hT hr hz hn1 l heo (shr0_ok hS.hs hn0)
      have hrd:=fun k=>round_S hT hr hz hn1 l heo (outR k) (lowR k) (hsh k)
      have hS0 : shrS t sw.size l (effL t (cntS sw.hs) p root) root (sw.hs,(fun _=>zeroSh),n) 0 = (sw.hs,(fun _=>zeroSh),n):=rfl
      have hSs : ∀ k,shrS t sw.size l (effL t (cntS sw.hs) p root) root (sw.hs,(fun _=>zeroSh),n) (k + 1) = rndS t sw.size l (effL t (cntS sw.hs) p root) root (outR k) (lowR k) (shrS t sw.size l (effL t (cntS sw.hs) p root) root (sw.hs,(fun _=>zeroSh),n) k):=fun _=>rfl
      have hel : (effL t (cntS sw.hs) p root).length <= 64:=by
       have h6:=subT_len hT root
       unfold effL
       rw [llm,msort_length]
       omega
      have hinc:=effOk_inc hT hr heo
      have hin:=effOk_in hT hr heo
      have hro:=fun (q : List Pt) (m : Int) (hq : q.length < 1000000)=>rround_eq t q root m (by omega) hq
      generalize hE : effL t (cntS sw.hs) p root = eff at hef heo hsh hrd hS0 hSs hel hinc hin
      generalize hF : shrS t sw.size l eff root (sw.hs,(fun _=>zeroSh),n) = F at hsh hrd hS0 hSs ⊢
      have hne0 : ∀ e ∈ eff,e.group ≠ 0:=fun e he=>by
       obtain ⟨i,m,hm,hme⟩:=hin e he
       have:=hT.pos m (lmg hm)
       omega
      have hout0 : outL (fun _=>zeroSh) eff = []:=by
       unfold outL
       rw [List.filter_eq_nil_iff]
       intro k hk
       obtain ⟨e,_,rfl⟩:=lmm.1 hk
       simp [zeroSh]
      simp only [Stk.vv,ctrF] at hv hct
      have hn0' : ¬ n < 0:=by omega
      have hn1' : ¬ 16777216 < n:=by omega
      simp -implicitDefEqProofs (disch:=omega) only [vf41,vb41,hv,hpv,hlv,hh,hn0',hn1',hct,hef,go_sem,↓reduceIte,rA,rS,rE,rL,reduceCtorEq]
      have hh7 : (0 : Nat) = 0:=rfl
      have hX : (0 : Nat) = 0:=rfl
      obtain ⟨I,hI⟩ : ∃ I : Nat -> St -> Prop,∀ k s,I k s ↔ ∃ (out : List Sh) (ww : Nat),out = outL (F k).2.1 eff /\ s.pe 3 = .p (chsP l) /\ s.pe 4 = .p (.int .i64 root) /\ s.pe 5 = .p (.int .i64 (F k).2.2) /\ s.pe 6 = .ptr (.slot 6 0) 0 0 /\ s.pe 7 = .ptr (.slot 7 0) 0 0 /\ s.pe 12 = .ptr (.slot 12 0) 0 0 /\ s.pe 15 = .own (.slot 64 1) 0 0 eff.length /\ s.pe 17 = .own (.slot 17 0) ww 0 out.length /\ s.pe 18 = .p (.int .i64 k) /\ s.h (.slot 6 0) = some (0,Ob.box [.p (nodesP t.nodes),.p (.int .i64 t.next)]) /\ s.h (.slot 12 0) = some (0,Ob.box [.own (.slot 12 1) 0 0 0,.p (.int .i64 0)]) /\ s.h (.slot 12 1) = some (0,Ob.arr 4 []) /\ s.h (.slot 17 0) = some (ww,Ob.arr 4 (out.map Sh.pv)) /\ s.h (.slot 64 1) = some (0,Ob.arr 3 (List.map Pr.pv eff)) /\ ∃ X,s.h (.slot 7 0) = some (0,Ob.box [X,.p (.int .i64 sw.size)]) /\ fz0 [83,86,139,142] s.h X = .p (hgsP (F k).1):=⟨_,fun _ _=>Iff.rfl⟩
      refine wp_count (4) I ?_ ?_
      ·refine (hI _ _).2 ⟨[],0,?_,?_,?_,?_,?_,?_,?_,?_,?_,?_,?_,?_,?_,?_,?_,?_⟩
       ·exact by rw [hS0,hout0]
       all_goals first | exact cl0 | (simp -implicitDefEqProofs (disch:=omega) only [lma,go_sem,↓reduceIte,rA,rS,rE,rL,reduceCtorEq] <;> first | (simp [hS0,go_sem,hh7,hX]; done) | (simp [hS0,go_sem,hh7,hX]; omega))
      intro k s hk hIk
      obtain ⟨out,ww,hout,h3,h4,h5,h6,h7,h12,h15,h17,h18,hh6_0,hh12_0,hh12_1,hh17_0,hh64_1,hX⟩:=(hI _ _).1 hIk
      clear hIk
      obtain ⟨X,hh7,hX⟩:=hX
      simp -implicitDefEqProofs (disch:=omega) only [h3,h4,h5,h6,h7,h12,h15,h17,h18,hh6_0,hh12_0,hh12_1,hh17_0,hh64_1,hX,hh7,go_sem,↓reduceIte,rA,rS,rE,rL,reduceCtorEq]
      refine wp_if_d (fun hlt=>?_) (fun hge=>?_)
      ·obtain ⟨hP,hRP,hRo,hsum,hown,hpre⟩:=hrd k
       have hSk : StkOk t ⟨(F k).1,sw.size⟩:=⟨hT,hS.z0,hS.z1,(hsh k).hs⟩
       have hp0:=rparts_eq hSk hL hll eff (by omega) hin (outR k) (lowR k)
       have hr0:=hro (partsS t sw.size l eff (outR k) (lowR k) (F k).1) (F k).2.2 (by rw [partsS,llm]; omega)
       rw [hRP] at hr0
       simp only at hr0
       have hPl : (partsS t sw.size l eff (outR k) (lowR k) (F k).1).length <= 64:=by rw [partsS,llm]; omega
       have hPo : ∀ q ∈ takesS t sw.size l eff root (outR k) (lowR k) (F k),inPg q.2:=fun q hq=>by
        have a1:=hRo.pos q hq
        have a2:=(partOf_ok hP.ok q.1).o1
        exact ⟨by omega,by omega⟩
       have hgrp : ∀ q ∈ takesS t sw.size l eff root (outR k) (lowR k) (F k),q.1 ∈ eff.map (·.group):=fun q hq=>(effOk_mem hT hr heo q.1).2 (hRo.groups q hq)
       have hFk:=hSs k
       unfold rndS at hFk
       simp only [Stk.vv] at hp0
       generalize partsS t sw.size l eff (outR k) (lowR k) (F k).1 = Q at hp0 hr0 hPl
       generalize takesS t sw.size l eff root (outR k) (lowR k) (F k) = a at hr0 hRo hpre hPo hFk hgrp
       have hal:=hRo.len
       have hG0 : takeSt (outR k) (lowR k) (F k) (a.take 0) = F k:=by
        unfold takeSt
        simp [takeAll,sumI]
       have hGs : ∀ (j : Nat) (q : Int × Int),a[j]? = some q -> takeSt (outR k) (lowR k) (F k) (a.take (j + 1)) = _:=fun j q hq=>by rw [take_snoc hq,takeSt_snoc']
       rw [show takeSt (outR k) (lowR k) (F k) a = takeSt (outR k) (lowR k) (F k) (a.take a.length) by rw [List.take_length]] at hFk
       generalize hG : (fun j=>takeSt (outR k) (lowR k) (F k) (a.take j)) = G
       have hG' : ∀ j,takeSt (outR k) (lowR k) (F k) (a.take j) = G j:=fun j=>by rw [<- hG]
       simp only [hG'] at hpre hG0 hGs hFk
       clear hG hG' hRo hP hRP hsum hown
       have hrem : decide (Int.tmod (k : Int) 2 = 1) = outR k:=by
        have hk4 : k = 0 \/ k = 1 \/ k = 2 \/ k = 3:=by omega
        rcases hk4 with rfl | rfl | rfl | rfl <;> rfl
       have hlw : decide ((k : Int) < 2) = !lowR k:=by
        have hk4 : k = 0 \/ k = 1 \/ k = 2 \/ k = 3:=by omega
        rcases hk4 with rfl | rfl | rfl | rfl <;> rfl
       have hgw : decide ((2 : Int) <= (k : Int)) = lowR k:=by
        have hk4 : k = 0 \/ k = 1 \/ k = 2 \/ k = 3:=by omega
        rcases hk4 with rfl | rfl | rfl | rfl <;> rfl
       generalize outR k = o at *
       generalize lowR k = u at *
       simp -implicitDefEqProofs (disch:=omega) only [h3,h4,h5,h6,h7,h12,h15,h17,h18,hh6_0,hh12_0,hh12_1,hh17_0,hh64_1,hX,hh7,hlt,hrem,hlw,hp0,hr0,go_sem,↓reduceIte,rA,rS,rE,rL,reduceCtorEq]
       have hS0:=hG0
       obtain ⟨J,hJ⟩ : ∃ I : Nat -> St -> Prop,∀ j s,I j s ↔ ∃ (v86_1 : Nat) (out : List Sh) (ww : Nat),out = outL (G j).2.1 eff /\ s.pe 3 = .p (chsP l) /\ s.pe 4 = .p (.int .i64 root) /\ s.pe 5 = .p (.int .i64 (G j).2.2) /\ s.pe 6 = .ptr (.slot 6 0) 0 0 /\ s.pe 7 = .ptr (.slot 7 0) 0 0 /\ s.pe 12 = .ptr (.slot 12 0) 0 0 /\ s.pe 15 = .own (.slot 64 1) 0 0 eff.length /\ s.pe 17 = .own (.slot 17 0) ww 0 out.length /\ s.pe 18 = .p (.int .i64 ↑k) /\ s.pe 19 = .p (.bool o) /\ s.pe 20 = .own (.slot 86 1) v86_1 0 a.length /\ s.pe 22 = .p (.int .i64 j) /\ s.h (.slot 6 0) = some (0,Ob.box [.p (nodesP t.nodes),.p (.int .i64 t.next)]) /\ s.h (.slot 12 0) = some (0,Ob.box [.own (.slot 12 1) 0 0 0,.p (.int .i64 0)]) /\ s.h (.slot 12 1) = some (0,Ob.arr 4 []) /\ s.h (.slot 17 0) = some (ww,Ob.arr 4 (List.map Sh.pv out)) /\ s.h (.slot 64 1) = some (0,Ob.arr 3 (List.map Pr.pv eff)) /\ s.h (.slot 86 1) = some (v86_1,Ob.arr 2 (List.map tkP a)) /\ ∃ X,s.h (.slot 7 0) = some (0,Ob.box [X,.p (.int .i64 sw.size)]) /\ fz0 [139,142] s.h X = .p (hgsP (G j).1):=⟨_,fun _ _=>Iff.rfl⟩
       refine wp_count (a.length) J ?_ ?_
       ·refine (hJ _ _).2 ⟨nv (fzOb [83,86,139,142] s.h (.slot 86 1)),out,ww,?_,?_,?_,?_,?_,?_,?_,?_,?_,?_,?_,?_,?_,?_,?_,?_,?_,?_,?_,?_⟩
        ·exact by rw [hG0]; exact hout
        all_goals first | exact cl0 | (simp -implicitDefEqProofs (disch:=omega) only [h3,h4,h5,h6,h7,h12,h15,h17,h18,hh6_0,hh12_0,hh12_1,hh17_0,hh64_1,hX,lma,go_sem,↓reduceIte,rA,rS,rE,rL,reduceCtorEq] <;> first | (simp [hS0,go_sem,hh7,hX]; done) | (simp [hS0,go_sem,hh7,hX]; omega))
       intro j s hj hJk
       obtain ⟨v86_1,out,ww,hou,h3,h4,h5,h6,h7,h12,h15,h17,h18,h19,h20,h22,hh6_0,hh12_0,hh12_1,hh17_0,hh64_1,hh86_1,hX⟩:=(hJ _ _).1 hJk
       clear hJk
       obtain ⟨X,hh7,hX⟩:=hX
       simp -implicitDefEqProofs (disch:=omega) only [h3,h4,h5,h6,h7,h12,h15,h17,h18,h19,h20,h22,hh6_0,hh12_0,hh12_1,hh17_0,hh64_1,hh86_1,hX,hh7,go_sem,↓reduceIte,rA,rS,rE,rL,reduceCtorEq]
       refine wp_if_d (fun hjl=>?_) (fun hjg=>?_)
       ·have hx : a[j]? = some a[j]:=lgg hjl
        have hgs:=hGs j _ hx
        have hqo:=hPo a[j] (lgk _)
        have hgm:=hgrp a[j] (lgk _)
        have hpj:=hpre j
        generalize a[j] = q at hx hgs hqo hgm
        obtain ⟨g,m⟩:=q
        have hlj:=hpj.hs.length
        obtain ⟨hl0,hl1⟩:=hpj.left
        obtain ⟨m0,m1⟩ : inPg m:=hqo
        simp only at hgs hgm
        have hgt:=rget_eq ⟨(G j).1,sw.size⟩ g (by simp only; omega)
        have hrp:=rreplace_eq ⟨(G j).1,sw.size⟩ (takeH o (getS (G j).1 g) m) (by simp only; omega)
        have hx0 : ∀ n,inPg n -> (0 <= n /\ n <= 16777216):=fun n h=>h
        have hXb : (0 <= (takeX o u g m).file /\ (takeX o u g m).file <= 16777216) /\ (0 <= (takeX o u g m).anon /\ (takeX o u g m).anon <= 16777216) /\ (0 <= (takeX o u g m).low /\ (takeX o u g m).low <= 16777216):=by
         cases o <;> cases u <;> simp [takeX] <;> omega
        have hnt:=rnote_eq out (takeX o u g m) (by rw [hou]; have:=outL_len (G j).2.1 eff; omega) (fun b hb=>by
         rw [hou] at hb
         obtain ⟨e,_,rfl,_⟩:=outL_mem2 hpj.grp hb
         have b1:=hpj.file e.group
         have b2:=hpj.anon e.group
         have b3:=hpj.low e.group
         unfold inS
         omega)
        have hno:=noteL_out hpj.grp (g:=g) o u m hinc hne0 hgm
        rw [<- hou] at hno
        have hnr:=noteR_or out (takeX o u g m)
        have hol : (noteL out (takeX o u g m)).length <= 1000:=by
         rw [hno]
         refine Nat.le_trans (outL_len _ _) (by omega)
        obtain ⟨⟨a1,a2⟩,⟨a3,a4⟩,a5,a6⟩:=hpj.hs.get g
        have e1 : (G (j + 1)).1 = putS (G j).1 (takeH o (getS (G j).1 g) m):=by rw [hgs]
        have e2 : (G (j + 1)).2.2 = (G j).2.2 - m:=by rw [hgs]
        have e3 : (G (j + 1)).2.1 = fun x=>if x = g then takeK o u g ((G j).2.1 g) m else (G j).2.1 x:=by rw [hgs]
        rw [<- e3] at hno
        rw [<- e1] at hrp
        generalize hN : noteL out (takeX o u g m) = N at hnt hno hol
        generalize hGn : (G (j + 1)).1 = Gn at hrp
        generalize getS (G j).1 g = c at hgt hrp a1 a2 a3 a4 a5 a6
        generalize noteR out (takeX o u g m) = nr at hnt hnr
        simp only [Stk.vv,Stk.fv] at hgt hrp
        cases o <;> cases u <;> simp only [takeH,takeX,if_true,if_false,bft] at hrp hnt <;> rcases hnr with hnr | hnr <;> rw [hnr] at hnt
        all_goals
         simp only [noteO_0,noteO_1] at hnt
         simp -implicitDefEqProofs (disch:=omega) only [h3,h4,h5,h6,h7,h12,h15,h17,h18,h19,h20,h22,hh6_0,hh12_0,hh12_1,hh17_0,hh64_1,hh86_1,hX,hh7,hjl,hx,tkP,hgw,hgt,hrp,hnt,go_sem,↓reduceIte,rA,rS,rE,rL,reduceCtorEq]
         try refine And.intro (by omega) ?_
         refine (hJ _ _).2 ⟨v86_1,N,ww + nr,?_,?_,?_,?_,?_,?_,?_,?_,?_,?_,?_,?_,?_,?_,?_,?_,?_,?_,?_,?_⟩
         .exact hno
         all_goals first | exact cl0 | (simp -implicitDefEqProofs (disch:=omega) only [h3,h4,h5,h6,h7,h12,h15,h17,h18,h19,h20,h22,hh6_0,hh12_0,hh12_1,hh17_0,hh64_1,hh86_1,hX,hGn,e2,Sh.pv,hh7,hnr,lma,go_sem,↓reduceIte,rA,rS,rE,rL,reduceCtorEq] <;> first | (simp [hS0,go_sem,hh7,hX]; done) | (simp [hS0,go_sem,hh7,hX]; omega))
       ·have hje : j = a.length:=by omega
        rw [hje,<- hFk] at hou
        simp -implicitDefEqProofs (disch:=omega) only [h3,h4,h5,h6,h7,h12,h15,h17,h18,h19,h20,h22,hh6_0,hh12_0,hh12_1,hh17_0,hh64_1,hh86_1,hX,hh7,hjg,go_sem,↓reduceIte,rA,rS,rE,rL,reduceCtorEq]
        try refine And.intro (by omega) ?_
        refine (hI _ _).2 ⟨out,ww,?_,?_,?_,?_,?_,?_,?_,?_,?_,?_,?_,?_,?_,?_,?_,?_⟩
        .exact hou
        all_goals first | exact cl0 | (simp -implicitDefEqProofs (disch:=omega) only [h3,h4,h5,h6,h7,h12,h15,h17,h18,hh6_0,hh12_0,hh12_1,hh17_0,hh64_1,hX,hFk,hje,hh7,lma,go_sem,↓reduceIte,rA,rS,rE,rL,reduceCtorEq] <;> first | (simp [hS0,go_sem,hh7,hX]; done) | (simp [hS0,go_sem,hh7,hX]; omega))
      ·have hk4 : k = 4:=by omega
       subst hk4
       have hrp:=rreplace_eq ⟨(F 4).1,sw.size⟩ ⟨0,0,0,0⟩ (by have:=(hsh 4).hs.length; simp only; omega)
       rw [putS_none (HgOk.ne0 hT (hsh 4).hs)] at hrp
       simp only [Stk.vv,Stk.fv] at hrp
       simp -implicitDefEqProofs (disch:=omega) only [h3,h4,h5,h6,h7,h12,h15,h17,h18,hh6_0,hh12_0,hh12_1,hh17_0,hh64_1,hX,hh7,hge,hrp,go_sem,↓reduceIte,rA,rS,rE,rL,reduceCtorEq]
       rw [hout]
     ·have hp5 : pagesB n = false:=by simpa using h5
      rw [hp5]
      by_cases hn0 : n < 0
      ·simp -implicitDefEqProofs (disch:=omega) only [vf41,vb41,hv,hpv,hlv,hh,hn0,go_sem,↓reduceIte,rA,rS,rE,rL,reduceCtorEq]
       try rfl
      ·have hn1 : 16777216 < n:=by
        simp [pagesB] at hp5
        omega
       simp -implicitDefEqProofs (disch:=omega) only [vf41,vb41,hv,hpv,hlv,hh,hn0,hn1,go_sem,↓reduceIte,rA,rS,rE,rL,reduceCtorEq]
       try rfl
    ·rw [Bool.not_eq_true] at h4
     rw [h4] at hh ⊢
     simp -implicitDefEqProofs (disch:=omega) only [vf41,vb41,hv,hpv,hlv,hh,go_sem,↓reduceIte,rA,rS,rE,rL,reduceCtorEq]
     try rfl
   ·rw [Bool.not_eq_true] at h3
    rw [h3] at hlv ⊢
    simp -implicitDefEqProofs (disch:=omega) only [vf41,vb41,hv,hpv,hlv,go_sem,↓reduceIte,rA,rS,rE,rL,reduceCtorEq]
    try rfl
  ·rw [Bool.not_eq_true] at h2
   rw [h2] at hpv ⊢
   simp -implicitDefEqProofs (disch:=omega) only [vf41,vb41,hv,hpv,go_sem,↓reduceIte,rA,rS,rE,rL,reduceCtorEq]
   try rfl
 ·rw [Bool.not_eq_true] at h1
  rw [h1] at hv ⊢
  simp -implicitDefEqProofs (disch:=omega) only [vf41,vb41,hv,go_sem,↓reduceIte,rA,rS,rE,rL,reduceCtorEq]
  try rfl
set_option maxHeartbeats 1000000 in
theorem sameStk_eq (a b : Stk) (hl : a.hs.length < 1000000) : V 38 [a.vv,b.vv] [] = some (.p (.bool (decide (a.size = b.size) && decide (a.hs = b.hs))),[]):=by
 refine V_wp (vf:=vf38) rfl ?_
 have h:=sameH_eq a.hs b.hs hl
 by_cases hz : a.size = b.size
 ·rw [decide_eq_true hz,bta]
  simp -implicitDefEqProofs (disch:=omega) only [vf38,vb38,hz,h,go_sem,↓reduceIte,rA,rS,rE,rL,reduceCtorEq]
 ·rw [decide_eq_false hz,bfa]
  simp -implicitDefEqProofs (disch:=omega) only [vf38,vb38,hz,go_sem,↓reduceIte,rA,rS,rE,rL,reduceCtorEq]
theorem sameStk_refl (a : Stk) (hl : a.hs.length < 1000000) : V 38 [a.vv,a.vv] [] = some (.p (.bool true),[]):=by
 rw [sameStk_eq a a hl]
 simp
theorem sameK_refl (a : List Sh) (hl : a.length < 1000000) : V 21 [.p (shsP a),.p (shsP a)] [] = some (.p (.bool true),[]):=by
 rw [sameK_eq a a hl]
 simp
theorem same_refl (a : List Ch) (hl : a.length < 1000000) : V 33 [.p (chsP a),.p (chsP a)] [] = some (.p (.bool true),[]):=by
 rw [same_eq a a hl]
 simp
theorem PutS_len (t : Tr) (sw : Stk) (h : Hg) : (PutS t sw h).1.hs.length <= sw.hs.length + 1:=by
 have:=putS_length sw.hs h
 unfold PutS
 repeat' split
 all_goals (first | (simp only [lln]; omega) | (simp only []; omega))
theorem RemS_len (t : Tr) (sw : Stk) (id : Int) : (RemS t sw id).1.hs.length <= sw.hs.length + 2:=by
 unfold RemS
 repeat' split
 all_goals (first | (simp only [lln]; omega) | skip)
 have h1:=putS_length sw.hs (noH id)
 have h2:=putS_length (putS sw.hs (noH id)) (addH (getS sw.hs ((findN t.nodes id).getD zeroNd).parent) (getS sw.hs id))
 simp only []
 omega
set_option maxHeartbeats 8000000 in
theorem exact25_eq (t : Tr) (sw : Stk) (p : List Pr) (l : List Ch) (h : Hg) (id n : Int) (hf : t.Fits) (hn : t.nodes.length < 900000) (hl : sw.hs.length < 800000) (hpl : p.length < 900000) (hll : l.length < 900000) : V 15 [t.vv,sw.vv,.p (prsP p),.p (chsP l),h.vv,.p (.int .i64 id),.p (.int .i64 n)] [] = some (.p (.bool true),[]):=by
 refine V_wp (vf:=vf15) rfl ?_
 have a1:=sPut_eq t sw h hf (by omega) (by omega)
 have a2:=rsput_eq t sw h (by omega) (by omega)
 have a3:=sSwapped_eq t sw id hf (by omega) (by omega)
 have a4:=rSwapped_eq t sw id (by omega) (by omega)
 have a5:=svalid_eq t sw hf (by omega) (by omega)
 have a6:=rsvalid_eq t sw (by omega) (by omega)
 have a7:=scounterW_eq sw (by omega)
 have a8:=rcounterW_eq sw (by omega)
 have a9:=sget_eq sw id (by omega)
 have a10:=rget_eq sw id (by omega)
 have a11:=sRoom_eq t sw l id hf (by omega) (by omega) (by omega)
 have a12:=rRoom_eq t sw l id (by omega) (by omega) (by omega)
 have a13:=shrink_eq t sw p l id n hf (by omega) (by omega) (by omega) (by omega)
 have a14:=rShrink_eq t sw p l id n (by omega) (by omega) (by omega) (by omega)
 have a15:=sremove_eq t sw id hf (by omega) (by omega)
 have a16:=rRemove_eq t sw id (by omega) (by omega)
 have l1:=PutS_len t sw h
 have l2:=RemS_len t sw id
 have l3:=cntW_len sw.hs
 have l4:=ShrinkS_len t sw p l id n
 obtain ⟨l5,l6⟩:=l4
 have s1:=sameStk_refl (PutS t sw h).1 (by omega)
 have s2:=same_refl (cntW sw.hs) (by omega)
 have s3:=sameStk_refl (ShrinkS t sw p l id n).1 (by omega)
 have s4:=sameK_refl (ShrinkS t sw p l id n).2.1 (by omega)
 have s5:=sameStk_refl (RemS t sw id).1 (by omega)
 simp only [Stk.vv,Stk.fv,Hg.vv,ctrF] at *
 generalize PutS t sw h = g1 at *
 generalize SwappedS t sw id = g2 at *
 generalize validS t sw = g3 at *
 generalize cntW sw.hs = g4 at *
 generalize getS sw.hs id = g5 at *
 generalize RoomS t sw l id = g6 at *
 generalize ShrinkS t sw p l id n = g7 at *
 generalize RemS t sw id = g8 at *
 simp -implicitDefEqProofs (maxSteps:=2000000) (disch:=omega) only [vf15,vb15,a1,a2,a3,a4,a5,a6,a7,a8,a9,a10,a11,a12,a13,a14,a15,a16,s1,s2,s3,s4,s5,bne_self_eq_false,beq_self_eq_true,Bool.not_true,go_sem,↓reduceIte,rA,rS,rE,rL,reduceCtorEq]
 try simp
def groupD (L : List Int) (a : Nat) (ns : List Nd) : Int × Nat :=
 if nextV L a 15 = 14 \/ ns = [] then (nextV L (nextA L a 15) 9 - 1,nextA L (nextA L a 15) 9)
 else ((ns.getD (nextV L (nextA L a 15) ns.length).toNat zeroNd).id,nextA L (nextA L a 15) ns.length)
theorem group_eq (L : List Int) (a : Nat) (t : Tr) (hL : L.length < 4611686018427387904) (hl : t.nodes.length < 1000000) : V 12 [.ptr (.arg 0 0) 0 0,t.vv] [diceB L a] = some (.p (.int .i64 (groupD L a t.nodes).1),[diceB L (groupD L a t.nodes).2]):=by
 refine V_wp (vf:=vf12) rfl ?_
 have hb:=bool_eq L a 15 hL (by omega) (by omega)
 have h9:=next_eq L (nextA L a 15) 9 hL (by omega)
 have hn:=next_eq L (nextA L a 15) t.nodes.length hL (by omega)
 have r9:=nextV_nonneg L (nextA L a 15) 9
 have r9':=nextV_lt L (nextA L a 15) (n:=9) (by omega)
 by_cases h14 : nextV L a 15 = 14
 ·have h14' : nextV L a 15 = 15 - 1:=by omega
  simp -implicitDefEqProofs (disch:=omega) only [vf12,vb12,hb,h14',h9,go_sem,↓reduceIte,rA,rS,rE,rL,reduceCtorEq]
  simp [groupD,h14]
 ·have h14' : ¬ nextV L a 15 = 15 - 1:=by omega
  by_cases hz : t.nodes = []
  ·have hz' : (t.nodes.length : Int) = 0:=by rw [hz]; rfl
   simp -implicitDefEqProofs (disch:=omega) only [vf12,vb12,hb,h14',h9,hz',go_sem,↓reduceIte,rA,rS,rE,rL,reduceCtorEq]
   simp [groupD,hz]
  ·have hp : 1 <= t.nodes.length:=List.length_pos_iff.2 hz
   have q0:=nextV_nonneg L (nextA L a 15) t.nodes.length
   have q1:=nextV_lt L (nextA L a 15) (n:=t.nodes.length) (by omega)
   have hm : t.nodes[(nextV L (nextA L a 15) t.nodes.length).toNat]? = some (t.nodes.getD (nextV L (nextA L a 15) t.nodes.length).toNat zeroNd):=by
    rw [List.getD_eq_getElem?_getD,lgg (by omega)]; rfl
   have hz0 : ¬ ((t.nodes.length : Int) = 0):=by omega
   simp -implicitDefEqProofs (disch:=omega) only [vf12,vb12,hb,h14',h9,hn,hz0,hm,go_sem,↓reduceIte,rA,rS,rE,rL,reduceCtorEq]
   simp [groupD,h14,hz]
theorem dLimitsLen (L : List Int) : ∀ (ns : List Nd) (a : Nat),(dLimits L ns a).1.length <= ns.length
 | [],_=>by simp [dLimits]
 | n :: ns,a=>by
  have h1:=dLimitsLen L ns (nextA L (nextA L a 2) 7)
  have h2:=dLimitsLen L ns (nextA L a 2)
  unfold dLimits
  split
  ·simp only [llc]
   omega
  ·simp only [llc]
   omega
theorem dProtsLen (L : List Int) : ∀ (ns : List Nd) (a : Nat),(dProts L ns a).1.length <= ns.length
 | [],_=>by simp [dProts]
 | n :: ns,a=>by
  unfold dProts
  split
  ·have h1:=dProtsLen L ns (nextA L (nextA L (nextA L a 3) 7) 7)
   simp only [llc]
   omega
  ·have h2:=dProtsLen L ns (nextA L a 3)
   simp only [llc]
   omega
set_option maxHeartbeats 32000000 in
theorem swapExact_eq (L : List Int) (t : Tr) (sw : Stk) (hx : Hg) (id n : Int) (hf : t.Fits) : V 3 [.p (intsP L),t.vv,sw.vv,hx.vv,.p (.int .i64 id),.p (.int .i64 n)] [] = some (.p (.bool true),[]):=by
 refine V_wp (vf:=vf3) rfl ?_
 have hli:=light_eq (L.map (PV.int .i64))
 rw [List.length_map] at hli
 have hsane:=sane25_eq
 by_cases hL : L.length <= 600
 ·rw [decide_eq_true hL] at hli
  have hro:=roll_eq L
  simp -implicitDefEqProofs (disch:=omega) only [vf3,vb3,hli,hro,go_sem,↓reduceIte,rA,rS,rE,rL,reduceCtorEq]
  obtain ⟨I,hI⟩ : ∃ I : Nat -> St -> Prop,∀ k s,I k s ↔ ∃ (b : Nat),s.pe 4 = .p (.int .i64 id) /\ s.pe 5 = .p (.int .i64 n) /\ s.pe 7 = .ptr (.slot 7 0) 0 0 /\ s.pe 8 = .ptr (.slot 8 0) 0 0 /\ s.pe 9 = .ptr (.slot 9 0) 0 0 /\ s.pe 13 = .ptr (.slot 26 1) 0 0 /\ s.pe 14 = .p (.int .i64 k) /\ s.h (.slot 7 0) = some (0,Ob.box [.p (nodesP t.nodes),.p (.int .i64 t.next)]) /\ s.h (.slot 8 0) = some (0,Ob.box [.p (hgsP sw.hs),.p (.int .i64 sw.size)]) /\ s.h (.slot 9 0) = some (0,Ob.box [.p (.int .i64 hx.group),.p (.int .i64 hx.file),.p (.int .i64 hx.anon),.p (.int .i64 hx.swap)]) /\ s.h (.slot 26 1) = some (0,diceB L b):=⟨_,fun _ _=>Iff.rfl⟩
  refine wp_count (3) I ?_ ?_
  ·refine (hI _ _).2 ⟨0,?_,?_,?_,?_,?_,?_,?_,?_,?_,?_,?_⟩
   all_goals exact cl0
  intro k s hk hIk
  obtain ⟨b,h4,h5,h7,h8,h9,h13,h14,hh7_0,hh8_0,hh9_0,hh26_1⟩:=(hI _ _).1 hIk
  clear hIk
  simp -implicitDefEqProofs (disch:=omega) only [h4,h5,h7,h8,h9,h13,h14,hh7_0,hh8_0,hh9_0,hh26_1,go_sem,↓reduceIte,rA,rS,rE,rL,reduceCtorEq]
  refine wp_if_d (fun hlt=>?_) (fun hge=>?_)
  ·have htr : V 8 [.ptr (.arg 0 0) 0 0,.p (.int .i64 6)] [diceB L b] = some ((dTree L b 6).1.vv,[diceB L (dTree L b 6).2]):=tree_eq L b 6 (by omega) (by omega)
   have hok:=dTree_ok L b 6
   generalize dTree L b 6 = ta at htr hok
   obtain ⟨tk,b1⟩:=ta
   simp only at htr hok
   have hlen:=hok.len
   have hst:=stock_eq L b1 hok (by omega)
   have hso : StkOk tk (madeS L b1 tk).1:=dStock_ok L tk _ _ _ (stock0_ok L b1 hok)
   generalize madeS L b1 tk = sa at hst hso
   obtain ⟨⟨ys,yz⟩,b2⟩:=sa
   simp only at hst hso
   have hyl : ys.length <= tk.nodes.length:=hso.hs.length
   have hpr:=dprots_eq L b2 tk (by omega) (by omega)
   have hpl:=dProtsLen L tk.nodes b2
   generalize dProts L tk.nodes b2 = pa at hpr hpl
   obtain ⟨pr,b3⟩:=pa
   simp only at hpr hpl
   have hlm:=dlimits_eq L b3 tk (by omega) (by omega)
   have hll:=dLimitsLen L tk.nodes b3
   generalize dLimits L tk.nodes b3 = la at hlm hll
   obtain ⟨lm,b4⟩:=la
   simp only at hlm hll
   have gr0:=group_eq L b4 tk (by omega) (by omega)
   generalize groupD L b4 tk.nodes = gd at gr0
   obtain ⟨g0,b5⟩:=gd
   simp only at gr0
   have pk1:=pick_eq L b5 [0,1,-1,16777216] (by omega) (by simp) (by simp)
   simp only [intsP,llc,lln,rA,lpc,lpn] at pk1
   generalize pickV L b5 [0,1,-1,16777216] = k1 at pk1
   generalize nextA L b5 _ = b6 at pk1
   have pk2:=pick_eq L b6 [0,7,16777217] (by omega) (by simp) (by simp)
   simp only [intsP,llc,lln,rA,lpc,lpn] at pk2
   generalize pickV L b6 [0,7,16777217] = k2 at pk2
   generalize nextA L b6 _ = b7 at pk2
   have pk3:=pick_eq L b7 [0,3,300] (by omega) (by simp) (by simp)
   simp only [intsP,llc,lln,rA,lpc,lpn] at pk3
   generalize pickV L b7 [0,3,300] = k3 at pk3
   generalize nextA L b7 _ = b8 at pk3
   by_cases hk2 : (k : Int) = 2
   ·by_cases hy0 : 0 < ys.length
    ·have hy0' : (0 : Int) < (ys.length : Int):=by omega
     have hnx:=next_eq L b8 ys.length (by omega) (by omega)
     have hj0:=nextV_nonneg L b8 ys.length
     have hj1:=nextV_lt L b8 (n:=(ys.length : Int)) (by omega)
     obtain ⟨j,hj⟩:=Int.eq_ofNat_of_zero_le hj0
     rw [hj] at hnx hj1
     clear hj0 hj
     generalize nextA L b8 _ = d0 at hnx
     have hm : ys[j]? = some ys[j]:=lgg (by omega)
     generalize ys[j] = x at hm
     have hgd : (List.map Hg.pv ys)[j]? = some (.agg [.int .i64 x.group,.int .i64 x.file,.int .i64 x.anon,.int .i64 x.swap]):=by rw [List.getElem?_map,hm]; rfl
     have q1:=pick_eq L d0 [x.group,1,9] (by omega) (by simp) (by simp)
     simp only [intsP,llc,lln,rA,lpc,lpn] at q1
     generalize pickV L d0 [x.group,1,9] = v1 at q1
     generalize nextA L d0 _ = d1 at q1
     have q2:=pick_eq L d1 [x.file,-1,0] (by omega) (by simp) (by simp)
     simp only [intsP,llc,lln,rA,lpc,lpn] at q2
     generalize pickV L d1 [x.file,-1,0] = v2 at q2
     generalize nextA L d1 _ = d2 at q2
     have q3:=pick_eq L d2 [x.swap,0,-1,6000] (by omega) (by simp) (by simp)
     simp only [intsP,llc,lln,rA,lpc,lpn] at q3
     generalize pickV L d2 [x.swap,0,-1,6000] = v3 at q3
     generalize nextA L d2 _ = d3 at q3
     have hset : ∀ (q : Hg) (zs : List Hg),(List.map Hg.pv zs).set j (.agg [.int .i64 q.group,.int .i64 q.file,.int .i64 q.anon,.int .i64 q.swap]) = List.map Hg.pv (zs.set j q):=fun q zs=>by rw [List.map_set]; rfl
     have hget : ∀ q : Hg,(List.map Hg.pv (ys.set j q))[j]? = some (.agg [.int .i64 q.group,.int .i64 q.file,.int .i64 q.anon,.int .i64 q.swap]):=fun q=>by
      rw [List.getElem?_map,List.getElem?_set_self (by omega)]
      rfl
     have s1:=hset ⟨v1,x.file,x.anon,x.swap⟩ ys
     have r1:=hget ⟨v1,x.file,x.anon,x.swap⟩
     have s2:=hset ⟨v1,v2,x.anon,x.swap⟩ (ys.set j ⟨v1,x.file,x.anon,x.swap⟩)
     have r2:=hget ⟨v1,v2,x.anon,x.swap⟩
     have s3:=hset ⟨v1,v2,x.anon,v3⟩ (ys.set j ⟨v1,v2,x.anon,x.swap⟩)
     simp only [List.set_set] at s1 r1 s2 r2 s3
     have hYl : (ys.set j ⟨v1,v2,x.anon,v3⟩).length = ys.length:=List.length_set
     generalize ys.set j ⟨v1,x.file,x.anon,x.swap⟩ = Y1 at *
     generalize ys.set j ⟨v1,v2,x.anon,x.swap⟩ = Y2 at *
     generalize ys.set j ⟨v1,v2,x.anon,v3⟩ = Y3 at *
     have htk : List.take ys.length (List.map Hg.pv Y3) = List.map Hg.pv Y3:=ltl (by simp; omega)
     have gr1:=group_eq L d3 tk (by omega) (by omega)
     generalize groupD L d3 tk.nodes = gd at gr1
     obtain ⟨g1,c1⟩:=gd
     simp only at gr1
     have pk:=pick_eq L c1 [0,1,9,40,150,1000,-1,16777217] (by omega) (by simp) (by simp)
     simp only [intsP,llc,lln,rA,lpc,lpn] at pk
     generalize pickV L c1 [0,1,9,40,150,1000,-1,16777217] = n1 at pk
     generalize nextA L c1 _ = c2 at pk
     have gr2:=group_eq L c2 tk (by omega) (by omega)
     generalize groupD L c2 tk.nodes = gd at gr2
     obtain ⟨g2,c3⟩:=gd
     simp only at gr2
     have x1:=exact25_eq tk ⟨Y3,yz⟩ pr lm ⟨g0,k1,k2,k3⟩ g1 n1 hok.fits (by omega) (by show Y3.length < 800000; omega) (by omega) (by omega)
     have x2:=exact25_eq tk ⟨Y3,yz⟩ pr lm hx g2 n hok.fits (by omega) (by show Y3.length < 800000; omega) (by omega) (by omega)
     simp only [Stk.vv,Hg.vv] at x1 x2
     simp -implicitDefEqProofs (maxSteps:=2000000) (disch:=omega) only [h4,h5,h7,h8,h9,h13,h14,hh7_0,hh8_0,hh9_0,hh26_1,hlt,htr,hst,hpr,hlm,gr0,pk1,pk2,pk3,hk2,hy0',hnx,hgd,q1,q2,q3,s1,r1,s2,r2,s3,gr1,gr2,pk,htk,x1,x2,List.headD_cons,Int.toNat_natCast,go_sem,↓reduceIte,rA,rS,rE,rL,reduceCtorEq]
     try refine And.intro (by omega) ?_
     refine (hI _ _).2 ⟨c3,?_,?_,?_,?_,?_,?_,?_,?_,?_,?_,?_⟩
     all_goals exact cl0
    ·have hy0' : ¬ (0 : Int) < (ys.length : Int):=by omega
     have gr1:=group_eq L b8 tk (by omega) (by omega)
     generalize groupD L b8 tk.nodes = gd at gr1
     obtain ⟨g1,c1⟩:=gd
     simp only at gr1
     have pk:=pick_eq L c1 [0,1,9,40,150,1000,-1,16777217] (by omega) (by simp) (by simp)
     simp only [intsP,llc,lln,rA,lpc,lpn] at pk
     generalize pickV L c1 [0,1,9,40,150,1000,-1,16777217] = n1 at pk
     generalize nextA L c1 _ = c2 at pk
     have gr2:=group_eq L c2 tk (by omega) (by omega)
     generalize groupD L c2 tk.nodes = gd at gr2
     obtain ⟨g2,c3⟩:=gd
     simp only at gr2
     have x1:=exact25_eq tk ⟨ys,yz⟩ pr lm ⟨g0,k1,k2,k3⟩ g1 n1 hok.fits (by omega) (by show ys.length < 800000; omega) (by omega) (by omega)
     have x2:=exact25_eq tk ⟨ys,yz⟩ pr lm hx g2 n hok.fits (by omega) (by show ys.length < 800000; omega) (by omega) (by omega)
     simp only [Stk.vv,Hg.vv] at x1 x2
     simp -implicitDefEqProofs (maxSteps:=2000000) (disch:=omega) only [h4,h5,h7,h8,h9,h13,h14,hh7_0,hh8_0,hh9_0,hh26_1,hlt,htr,hst,hpr,hlm,gr0,pk1,pk2,pk3,hk2,hy0',gr1,gr2,pk,x1,x2,go_sem,↓reduceIte,rA,rS,rE,rL,reduceCtorEq]
     try refine And.intro (by omega) ?_
     refine (hI _ _).2 ⟨c3,?_,?_,?_,?_,?_,?_,?_,?_,?_,?_,?_⟩
     all_goals exact cl0
   ·have gr1:=group_eq L b8 tk (by omega) (by omega)
    generalize groupD L b8 tk.nodes = gd at gr1
    obtain ⟨g1,c1⟩:=gd
    simp only at gr1
    have pk:=pick_eq L c1 [0,1,9,40,150,1000,-1,16777217] (by omega) (by simp) (by simp)
    simp only [intsP,llc,lln,rA,lpc,lpn] at pk
    generalize pickV L c1 [0,1,9,40,150,1000,-1,16777217] = n1 at pk
    generalize nextA L c1 _ = c2 at pk
    have gr2:=group_eq L c2 tk (by omega) (by omega)
    generalize groupD L c2 tk.nodes = gd at gr2
    obtain ⟨g2,c3⟩:=gd
    simp only at gr2
    have x1:=exact25_eq tk ⟨ys,yz⟩ pr lm ⟨g0,k1,k2,k3⟩ g1 n1 hok.fits (by omega) (by show ys.length < 800000; omega) (by omega) (by omega)
    have x2:=exact25_eq tk ⟨ys,yz⟩ pr lm hx g2 n hok.fits (by omega) (by show ys.length < 800000; omega) (by omega) (by omega)
    simp only [Stk.vv,Hg.vv] at x1 x2
    simp -implicitDefEqProofs (maxSteps:=2000000) (disch:=omega) only [h4,h5,h7,h8,h9,h13,h14,hh7_0,hh8_0,hh9_0,hh26_1,hlt,htr,hst,hpr,hlm,gr0,pk1,pk2,pk3,hk2,gr1,gr2,pk,x1,x2,go_sem,↓reduceIte,rA,rS,rE,rL,reduceCtorEq]
    try refine And.intro (by omega) ?_
    refine (hI _ _).2 ⟨c3,?_,?_,?_,?_,?_,?_,?_,?_,?_,?_,?_⟩
    all_goals exact cl0
  ·by_cases m1 : 40 < t.nodes.length
   ·have m1' : (40 : Int) < (t.nodes.length : Int):=by omega
    simp -implicitDefEqProofs (disch:=omega) only [h4,h5,h7,h8,h9,h13,h14,hh7_0,hh8_0,hh9_0,hh26_1,hge,m1',go_sem,↓reduceIte,rA,rS,rE,rL,reduceCtorEq]
   ·have m1' : ¬ (40 : Int) < (t.nodes.length : Int):=by omega
    by_cases m2 : 40 < sw.hs.length
    ·have m2' : (40 : Int) < (sw.hs.length : Int):=by omega
     simp -implicitDefEqProofs (disch:=omega) only [h4,h5,h7,h8,h9,h13,h14,hh7_0,hh8_0,hh9_0,hh26_1,hge,m1',m2',go_sem,↓reduceIte,rA,rS,rE,rL,reduceCtorEq]
    ·have m2' : ¬ (40 : Int) < (sw.hs.length : Int):=by omega
     have x3:=exact25_eq t sw [] [] hx id n hf (by omega) (by omega) (by simp) (by simp)
     simp only [Stk.vv,Hg.vv,prsP,chsP,lpn] at x3
     simp -implicitDefEqProofs (disch:=omega) only [h4,h5,h7,h8,h9,h13,h14,hh7_0,hh8_0,hh9_0,hh26_1,hge,m1',m2',x3,hsane,go_sem,↓reduceIte,rA,rS,rE,rL,reduceCtorEq]
 ·rw [decide_eq_false hL] at hli
  simp -implicitDefEqProofs (disch:=omega) only [vf3,vb3,hli,hsane,go_sem,↓reduceIte,rA,rS,rE,rL,reduceCtorEq]
end Go.V
