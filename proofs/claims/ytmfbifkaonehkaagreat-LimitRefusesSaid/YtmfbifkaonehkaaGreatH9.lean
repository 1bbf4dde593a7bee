/- Part 9 of the proof. -/
import Derived.Test.YtmfbifkaonehkaaGreatH5
import Derived.Test.YtmfbifkaonehkaaGreatH6
import Derived.Test.YtmfbifkaonehkaaGreatH8
set_option linter.unusedSimpArgs false
set_option linter.unusedVariables false
open Nat renaming reduceAdd → rA, reduceSub → rS, reduceEqDiff → rE, reduceLeDiff → rL
open List renaming getElem?_eq_getElem → lgg, mem_of_getElem? → lmg, drop_eq_getElem_cons → ldg, map_cons → lpc, drop_of_length_le → ldl, append_nil → lan, mem_map → lmm, take_of_length_le → ltl, getElem?_append_right → lgr, map_nil → lpn, length_nil → lln, length_map → llm
namespace Go.V
def minZ (m : Mc) : Mc:=⟨m.group,0,m.low,m.high,m.most,m.swap,m.tog⟩
theorem minZ_ok {ns : List Nd} {l : List Mc} (h : McOk ns l) : McOk ns (l.map minZ):=by
 refine ⟨fun m hm=>?_,?_,fun m hm=>?_⟩
 ·obtain ⟨x,hx,rfl⟩:=lmm.1 hm
  exact h.known x hx
 ·rw [List.pairwise_map]
  exact h.inc
 ·obtain ⟨x,hx,rfl⟩:=lmm.1 hm
  exact ⟨rfl,(h.amt x hx).2⟩
theorem minZ_least {l : List Mc} : ∀ y ∈ prsM (l.map minZ),y.least = 0:=by
 intro y hy
 obtain ⟨m,hm,rfl⟩:=lmm.1 hy
 obtain ⟨x,_,rfl⟩:=lmm.1 (List.mem_filter.1 hm).1
 rfl
theorem set_mid {α : Type} (a b : List α) (c d : α) : (a ++ c :: b).set a.length d = a ++ d :: b:=by simp
set_option maxHeartbeats 8000000 in
theorem limitRefuses_eq (L : List Int) (n0 : Int) : V 7 [.p (intsP L),.p (.int .i64 n0)] [] = some (.p (.bool true),[]):=by
 refine V_wp (vf:=vf7) rfl ?_
 have hli:=light_eq (L.map (PV.int .i64))
 rw [List.length_map] at hli
 have hsane:=sane26_eq
 by_cases hL : L.length <= 600
 ·rw [decide_eq_true hL] at hli
  have hro:=roll_eq L
  obtain ⟨t,sw,l,j,m,a0,a1,a2,a3,hS,hM,hm,htr,hst,hme,hnx⟩:=trial26_eq L hL
  have hok:=hS.tree
  have hlen:=hok.len
  have hsl:=hS.hs.length
  have hll:=hM.length
  have hin : InN t.nodes m.id:=⟨j,m,hm,rfl⟩
  have hr2:=roll_eq [n0]
  have hn2 : V 15 [.ptr (.arg 0 0) 0 0,.p (.int .i64 300)] [.box [.p (intsP [n0]),.p (.int .i64 0)]] = some (.p (.int .i64 (nextV [n0] 0 300)),[diceB [n0] (nextA [n0] 0 300)]):=next_eq [n0] 0 300 (by simp) (by omega)
  simp only [intsP,lpc,lpn] at hr2 hn2
  have hd0:=nextV_nonneg [n0] 0 300
  have hd1:=nextV_lt [n0] 0 (n:=300) (by omega)
  generalize nextV [n0] 0 300 = n at hn2 hd0 hd1
  simp -implicitDefEqProofs (disch:=omega) only [vf7,vb7,hli,hro,htr,hst,hme,hnx,hm,hr2,hn2,go_sem,↓reduceIte,rA,rS,rE,rL,reduceCtorEq]
  obtain ⟨I,hI⟩ : ∃ I : Nat -> St -> Prop,∀ k s,I k s ↔ ∃ (cur : List Mc),cur = (l.take k).map minZ ++ l.drop k /\ cur.length = l.length /\ s.pe 1 = .p (.int .i64 n) /\ s.pe 6 = .ptr (.slot 6 0) 0 0 /\ s.pe 7 = .ptr (.slot 7 0) 0 0 /\ s.pe 8 = .own (.slot 31 1) 0 0 cur.length /\ s.pe 9 = .p (.int .i64 m.id) /\ s.pe 10 = .p (.int .i64 k) /\ s.h (.slot 6 0) = some (0,Ob.box [.p (nodesP t.nodes),.p (.int .i64 t.next)]) /\ s.h (.slot 7 0) = some (0,Ob.box [.own (.slot 28 1) 0 0 sw.hs.length,.p (.int .i64 sw.size)]) /\ s.h (.slot 28 1) = some (0,Ob.arr 4 (List.map Hg.pv sw.hs)) /\ s.h (.slot 31 1) = some (0,Ob.arr 7 (List.map Mc.pv cur)):=⟨_,fun _ _=>Iff.rfl⟩
  refine wp_count (l.length) I ?_ ?_
  ·refine (hI _ _).2 ⟨l,?_,?_,?_,?_,?_,?_,?_,?_,?_,?_,?_,?_⟩
   ·exact by simp
   ·exact cl3
   all_goals exact cl0
  intro k s hk hIk
  obtain ⟨cur,hcur,hcl,h1,h6,h7,h8,h9,h10,hh6_0,hh7_0,hh28_1,hh31_1⟩:=(hI _ _).1 hIk
  clear hIk
  simp -implicitDefEqProofs (disch:=omega) only [h1,h6,h7,h8,h9,h10,hh6_0,hh7_0,hh28_1,hh31_1,go_sem,↓reduceIte,rA,rS,rE,rL,reduceCtorEq]
  refine wp_if_d (fun hlt=>?_) (fun hge=>?_)
  ·have hc : l[k]? = some l[k]:=lgg (by omega)
   have hdr : l.drop k = l[k] :: l.drop (k + 1):=ldg (by omega)
   have htk:=take_snoc hc
   generalize l[k] = c at hc hdr htk
   have hkl : ((l.take k).map minZ).length = k:=by simp; omega
   have hck : cur[k]? = some c:=by
    rw [hcur,hdr,lgr (by omega),hkl]
    simp
   have hset : cur.set k (minZ c) = (l.take (k + 1)).map minZ ++ l.drop (k + 1):=by
    rw [hcur,hdr]
    have:=set_mid ((l.take k).map minZ) (l.drop (k + 1)) c (minZ c)
    rw [hkl] at this
    rw [this,htk]
    simp
   have hmp : (List.map Mc.pv cur).set k (.agg [.int .i64 c.group,.int .i64 0,.int .i64 c.low,.int .i64 c.high,.int .i64 c.most,.int .i64 c.swap,.bool c.tog]) = List.map Mc.pv (cur.set k (minZ c)):=by
    rw [List.map_set]
    rfl
   simp -implicitDefEqProofs (disch:=omega) only [h1,h6,h7,h8,h9,h10,hh6_0,hh7_0,hh28_1,hh31_1,hlt,hck,hmp,go_sem,↓reduceIte,rA,rS,rE,rL,reduceCtorEq]
   try refine And.intro (by omega) ?_
   refine (hI _ _).2 ⟨cur.set k (minZ c),?_,?_,?_,?_,?_,?_,?_,?_,?_,?_,?_,?_⟩
   ·exact hset
   ·exact by simp; exact hcl
   all_goals exact cl0
  ·have hcm : cur = l.map minZ:=by
    rw [hcur,ltl (by omega),ldl (by omega),lan]
   have hM0 : McOk t.nodes cur:=by rw [hcm]; exact minZ_ok hM
   have hz0 : ∀ y ∈ prsM cur,y.least = 0:=by rw [hcm]; exact minZ_least
   clear hcur hcm
   have hgr:=grow_eq hS hM0 hin (file:=0) (anon:=n) (by omega) (by omega) (by omega) (by omega)
   have hG:=growG_ok hM0 (g:=⟨sw,[],[],[],0⟩) hS hin (file:=0) (anon:=n) (by omega) (by omega)
   have hgl:=growG_len hM0 (g:=⟨sw,[],[],[],0⟩) hS hin (file:=0) (anon:=n) (by omega) (by omega)
   have hrl:=roomG_last hM0 (0 + n) (ancR t m.id) ⟨sw,[],[],[],0⟩ (fun a h=>anc_InN hok hin h) hS
   have e20 : decide ((20 : Int) = 0) = false:=rfl
   have e2a : decide ((20 : Int) = 20) = true:=rfl
   have e2b : decide ((0 : Int) = 20) = false:=rfl
   have e00 : decide ((0 : Int) = 0) = true:=rfl
   rcases hG with ⟨he,hG⟩ | ⟨he,hrg,hR⟩
   ·generalize growG t cur ⟨sw,[],[],[],0⟩ m.id 0 n = r at hgr he
    obtain ⟨⟨⟨x,z⟩,shr,mx,hi,rf⟩,e⟩:=r
    simp only at he
    subst he
    simp only [gwF] at hgr
    simp -implicitDefEqProofs (disch:=omega) only [h1,h6,h7,h8,h9,h10,hh6_0,hh7_0,hh28_1,hh31_1,hge,hgr,hsane,e2b,e00,go_sem,↓reduceIte,rA,rS,rE,rL,reduceCtorEq]
   ·rw [hrg] at hgr hgl he hR
    have hrl:=hrl he
    generalize roomG t cur (0 + n) (ancR t m.id) ⟨sw,[],[],[],0⟩ = r at *
    obtain ⟨⟨⟨x,z⟩,shr,mx,hi,rf⟩,e⟩:=r
    simp only at he
    subst he
    simp only [lln,Nat.zero_add] at hgl
    obtain ⟨s9,over,hT1,hsz,ho,hov,hst⟩:=hrl
    simp only at hT1 hsz hov hst
    obtain ⟨_,r2,r3,r4⟩ : 20 = (20 : Int) /\ rf ∈ ancR t m.id /\ rf ∈ mx /\ mostM cur rf < usedF t (cntS x) rf + (0 + n):=by
     rcases hR.err with ⟨h1,_⟩ | ⟨_,h2,h3,h4⟩
     ·simp at h1
     ·exact ⟨rfl,h2,h3,h4⟩
    have hxs : StkOk t ⟨x,z⟩:=hR.grw.stk
    have hzz : z = s9.size:=by
     have : z = sw.size:=hR.grw.size
     rw [this,hsz]
    have hri : InN t.nodes rf:=anc_InN hok hin r2
    have hxe : x = (ShrinkS t s9 (prsM cur) (chsM cur) rf (min over 16777216)).1.hs:=congrArg Stk.hs hst
    have hsho:=short_ok (most:=mostM cur rf) (n:=0 + n) hT1 hz0 ho hov (by rw [<- hxe]; exact r4)
    rw [<- hxe,<- hzz] at hsho
    have hxl : x.length <= t.nodes.length:=hxs.hs.length
    obtain ⟨i0,q0,hq0,hq0e⟩:=hri
    have hu:=rusage_eq hok hxs.hs (by show x.length < _; omega) hq0
    rw [hq0e] at hu
    have hmo:=rmost26_eq cur rf (by omega)
    have hh:=has3_eq mx rf (by omega)
    rw [decide_eq_true r3] at hh
    have hsub:=rsub_eq (t:=t) rf (by omega)
    have hsul:=subT_len hok rf
    have hsa : ∀ y ∈ subT t rf,y ∈ subA t rf:=fun y hy=>by
     rw [<- hq0e,subT_some hok hq0,hq0e] at hy
     exact hy
    have hri : InN t.nodes rf:=⟨i0,q0,hq0,hq0e⟩
    have hub:=usedF_bound hok (cntS_ok hxs.hs) rf
    have hmb:=mostM_bound hM0 rf
    have n1 : ¬ usedF t (cntS x) rf + n <= mostM cur rf:=by omega
    generalize usedF t (cntS x) rf = U at hu hub n1 r4
    generalize mostM cur rf = M at hmo hmb n1 r4 hov
    generalize subT t rf = S at hsub hsul hsa
    simp only [gwF,Stk.vv] at hgr hu
    simp -implicitDefEqProofs (disch:=omega) only [h1,h6,h7,h8,h9,h10,hh6_0,hh7_0,hh28_1,hh31_1,hge,hgr,e20,e2a,hu,hmo,n1,hh,hsub,go_sem,↓reduceIte,rA,rS,rE,rL,reduceCtorEq]
    obtain ⟨J,hJ⟩ : ∃ I : Nat -> St -> Prop,∀ j s,I j s ↔ ∃ (v11_0 : Nat) (v63_1 : Nat) (v63_3 : Nat) (v63_4 : Nat) (v63_5 : Nat) (v97_1 : Nat),s.pe 6 = .ptr (.slot 6 0) 0 0 /\ s.pe 8 = .own (.slot 31 1) 0 0 cur.length /\ s.pe 11 = .ptr (.slot 11 0) v11_0 0 /\ s.pe 13 = .own (.slot 97 1) v97_1 0 S.length /\ s.pe 14 = .p (.int .i64 j) /\ s.h (.slot 6 0) = some (0,Ob.box [.p (nodesP t.nodes),.p (.int .i64 t.next)]) /\ s.h (.slot 11 0) = some (v11_0,Ob.box [.own (.slot 63 1) v63_1 0 x.length,.p (.int .i64 z),.own (.slot 63 3) v63_3 0 shr.length,.own (.slot 63 4) v63_4 0 mx.length,.own (.slot 63 5) v63_5 0 hi.length,.p (.int .i64 rf)]) /\ s.h (.slot 31 1) = some (0,Ob.arr 7 (List.map Mc.pv cur)) /\ s.h (.slot 63 1) = some (v63_1,Ob.arr 4 (List.map Hg.pv x)) /\ s.h (.slot 63 3) = some (v63_3,Ob.arr 4 (List.map Sh.pv shr)) /\ s.h (.slot 63 4) = some (v63_4,Ob.arr 1 (List.map (.int .i64) mx)) /\ s.h (.slot 63 5) = some (v63_5,Ob.arr 1 (List.map (.int .i64) hi)) /\ s.h (.slot 97 1) = some (v97_1,Ob.arr 1 (List.map (.int .i64) S)):=⟨_,fun _ _=>Iff.rfl⟩
    refine wp_count (S.length) J ?_ ?_
    ·refine (hJ _ _).2 ⟨nv (s.h (.slot 11 0)),nv (s.h (.slot 63 1)),nv (s.h (.slot 63 3)),nv (s.h (.slot 63 4)),nv (s.h (.slot 63 5)),nv (s.h (.slot 97 1)),?_,?_,?_,?_,?_,?_,?_,?_,?_,?_,?_,?_,?_⟩
     all_goals exact cl0
    intro j s hj hJk
    obtain ⟨v11_0,v63_1,v63_3,v63_4,v63_5,v97_1,h6,h8,h11,h13,h14,hh6_0,hh11_0,hh31_1,hh63_1,hh63_3,hh63_4,hh63_5,hh97_1⟩:=(hJ _ _).1 hJk
    clear hJk
    simp -implicitDefEqProofs (disch:=omega) only [h6,h8,h11,h13,h14,hh6_0,hh11_0,hh31_1,hh63_1,hh63_3,hh63_4,hh63_5,hh97_1,go_sem,↓reduceIte,rA,rS,rE,rL,reduceCtorEq]
    refine wp_if_d (fun hjl=>?_) (fun hjg=>?_)
    ·have hy : S[j]? = some S[j]:=lgg hjl
     generalize S[j] = y at hy
     have hys:=hsa y (lmg hy)
     have hyi:=subA_in hok hri hys
     have g1:=rget_eq ⟨x,z⟩ y (by show x.length < _; omega)
     have g2:=rswaps26_eq cur (by omega)
     have g3:=rRoom25_ok hxs (chsM_ok hM0) hyi
     obtain ⟨f0,far⟩:=hsho y hys
     have hcl2:=(chsM_ok hM0).length
     have hrn:=(roomS_bound hok hxs.hs (chsM cur) y).1
     simp only [Stk.vv] at g1 g3
     generalize roomS t x z (chsM cur) y = R at g3 far hrn
     generalize getS x y = c at g1 f0 far
     obtain ⟨cg,cf,ca,cs⟩:=c
     simp only at f0 far
     subst f0
     simp only [Hg.vv] at g1
     have n2 : ¬ (0 : Int) < 0:=by omega
     by_cases h0 : 0 < ca
     ·have hR0 : R = 0:=by omega
      subst hR0
      simp -implicitDefEqProofs (disch:=omega) only [h6,h8,h11,h13,h14,hh6_0,hh11_0,hh31_1,hh63_1,hh63_3,hh63_4,hh63_5,hh97_1,hjl,hy,g1,g2,g3,n2,h0,e00,go_sem,↓reduceIte,rA,rS,rE,rL,reduceCtorEq]
      try refine And.intro (by omega) ?_
      refine (hJ _ _).2 ⟨v11_0,v63_1,v63_3,v63_4,v63_5,v97_1,?_,?_,?_,?_,?_,?_,?_,?_,?_,?_,?_,?_,?_⟩
      all_goals exact cl0
     ·simp -implicitDefEqProofs (disch:=omega) only [h6,h8,h11,h13,h14,hh6_0,hh11_0,hh31_1,hh63_1,hh63_3,hh63_4,hh63_5,hh97_1,hjl,hy,g1,g2,g3,n2,h0,e00,go_sem,↓reduceIte,rA,rS,rE,rL,reduceCtorEq]
      try refine And.intro (by omega) ?_
      refine (hJ _ _).2 ⟨v11_0,v63_1,v63_3,v63_4,v63_5,v97_1,?_,?_,?_,?_,?_,?_,?_,?_,?_,?_,?_,?_,?_⟩
      all_goals exact cl0
    .simp -implicitDefEqProofs (disch:=omega) only [h6,h8,h11,h13,h14,hh6_0,hh11_0,hh31_1,hh63_1,hh63_3,hh63_4,hh63_5,hh97_1,hjg,hsane,go_sem,↓reduceIte,rA,rS,rE,rL,reduceCtorEq]
 ·rw [decide_eq_false hL] at hli
  simp -implicitDefEqProofs (disch:=omega) only [vf7,vb7,hli,hsane,go_sem,↓reduceIte,rA,rS,rE,rL,reduceCtorEq]
end Go.V
