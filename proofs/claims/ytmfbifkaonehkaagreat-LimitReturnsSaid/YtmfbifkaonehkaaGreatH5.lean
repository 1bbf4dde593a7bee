/- Part 5 of the proof. -/
import Derived.Test.YtmfbifkaonehkaaGreatH4
import Derived.Test.YtmfbifkaonehkaaGreatH3
set_option linter.unusedSimpArgs false
set_option linter.unusedVariables false
open Nat renaming reduceAdd → rA, reduceSub → rS, reduceEqDiff → rE, reduceLeDiff → rL, le_refl → lrf
open List renaming getElem?_eq_getElem → lgg, getElem?_eq_some_iff → lgs, mem_of_getElem? → lmg, drop_eq_getElem_cons → ldg, mem_cons_of_mem → lmc, map_cons → lpc, drop_of_length_le → ldl, nil_append → lna, append_assoc → laa, append_nil → lan, mem_map → lmm, mem_cons_self → lms, map_append → lma, take_of_length_le → ltl, getElem?_of_mem → lgm, length_cons → llc, length_append → lla, mem_cons → lmk, map_nil → lpn, length_nil → lln, mem_append → lmp, length_map → llm, getElem_mem → lgk, pairwise_cons → lpw, foldl_append → lfa
open Bool renaming and_eq_true → bat, false_and → bfa, false_eq_true → bft, true_and → bta, or_eq_true → bot
namespace Go.V
theorem fileF_eq (x : Hg) : V 91 [x.vv] [] = some (.p (.int .i64 x.file),[]):=by
 refine V_wp (vf:=vf91) rfl ?_
 simp -implicitDefEqProofs (disch:=omega) only [vf91,vb91,go_sem,↓reduceIte,rA,rS,rE,rL,reduceCtorEq]
theorem anonF_eq (x : Hg) : V 93 [x.vv] [] = some (.p (.int .i64 x.anon),[]):=by
 refine V_wp (vf:=vf93) rfl ?_
 simp -implicitDefEqProofs (disch:=omega) only [vf93,vb93,go_sem,↓reduceIte,rA,rS,rE,rL,reduceCtorEq]
theorem highF_eq (x : Pr) : V 92 [x.vv] [] = some (.p (.int .i64 (max x.least x.low)),[]):=by
 refine V_wp (vf:=vf92) rfl ?_
 simp -implicitDefEqProofs (disch:=omega) only [vf92,vb92,go_sem,↓reduceIte,rA,rS,rE,rL,reduceCtorEq]
theorem lowF2_eq (x : Pr) : V 94 [x.vv] [] = some (.p (.int .i64 x.least),[]):=by
 refine V_wp (vf:=vf94) rfl ?_
 simp -implicitDefEqProofs (disch:=omega) only [vf94,vb94,go_sem,↓reduceIte,rA,rS,rE,rL,reduceCtorEq]
def fnO (out : Bool) : FuncId:=if out then 93 else 91
def fnP (low : Bool) : FuncId:=if low then 94 else 92
theorem fnO_eq (out : Bool) (x : Hg) : V (fnO out) [x.vv] [] = some (.p (.int .i64 (ownS out x)),[]):=by
 cases out
 .exact fileF_eq x
 .exact anonF_eq x
theorem fnP_eq (low : Bool) (x : Pr) : V (fnP low) [x.vv] [] = some (.p (.int .i64 (prS low x)),[]):=by
 cases low
 .exact highF_eq x
 .exact lowF2_eq x
theorem takeSt_snoc (out low : Bool) (s : ShSt) (b : List (Int × Int)) (q : Int × Int) : takeSt out low s (b ++ [q]) = (putS (takeSt out low s b).1 (takeH out (getS (takeSt out low s b).1 q.1) q.2),(fun x=>if x = q.1 then takeK out low q.1 ((takeSt out low s b).2.1 q.1) q.2 else (takeSt out low s b).2.1 x),(takeSt out low s b).2.2 - q.2):=by
 unfold takeSt takeAll
 rw [lfa,lma,sumI_append]
 simp only [List.foldl_cons,List.foldl_nil,takeOne,lpc,lpn,sumI]
 congr 2
 omega
theorem outL_snoc (f : Int -> Sh) (eff : List Pr) (e : Pr) : outL f (eff ++ [e]) = outL f eff ++ if (f e.group).group = 0 then [] else [f e.group]:=by
 unfold outL
 rw [lma,List.filter_append]
 congr 1
 by_cases h : (f e.group).group = 0 <;> simp [h]
theorem outL_len (f : Int -> Sh) (eff : List Pr) : (outL f eff).length <= eff.length:=by
 unfold outL
 refine Nat.le_trans (List.length_filter_le _ _) ?_
 rw [llm]
 exact lrf _
set_option maxHeartbeats 8000000 in
theorem shrink_eq (t : Tr) (sw : Stk) (p : List Pr) (l : List Ch) (root n : Int) (hf : t.Fits) (hn : t.nodes.length < 1000000) (hl : sw.hs.length < 1000000) (hpl : p.length < 1000000) (hll : l.length < 1000000) : V 78 [t.vv,sw.vv,.p (prsP p),.p (chsP l),.p (.int .i64 root),.p (.int .i64 n)] [] = some (.tup [Stk.fv (ShrinkS t sw p l root n).1,.fresh 4 ((ShrinkS t sw p l root n).2.1.map Sh.pv),.p (.int .i64 (ShrinkS t sw p l root n).2.2)],[]):=by
 refine V_wp (vf:=vf78) rfl ?_
 have hv := svalid_eq t sw hf hn hl
 have hpv:=prvalid_eq t p hf hn hpl
 have hlv:=klimits_eq t l hf hn hll
 have hck:=scheck_eq t sw root hf hn hl
 have hpg:=spages_eq n
 have e4 : decide ((4 : Int) = 0) = false:=rfl
 unfold ShrinkS
 unfold checkS at hck
 by_cases h1 : validS t sw = true
 ·rw [h1] at hv hck ⊢
  by_cases h2 : validPr t p = true
  ·rw [h2] at hpv ⊢
   by_cases h3 : validLK t l = true
   ·rw [h3] at hlv ⊢
    by_cases h4 : (findN t.nodes root).isSome = true
    ·rw [h4] at hck ⊢
     by_cases h5 : pagesB n = true
     ·rw [h5] at hpg ⊢
      have hS:=(validS_iff t sw).1 h1
      have hT:=hS.tree
      have hPr:=((validPr_iff t p).1 h2).2
      have hL:=LimOk.of ((validLK_iff t l).1 h3).2
      have hlen:=hT.len
      have hr : InN t.nodes root:=by
       obtain ⟨m,hm,he⟩:=findN_some h4
       obtain ⟨j,hj⟩:=lgm hm
       exact ⟨j,m,hj,he⟩
      have hcn:=cntS_ok hS.hs
      have hct:=scounter_eq sw hl (fun x hx=>⟨hS.hs.file x hx,hS.hs.anon x hx⟩)
      have hef:=pEff_ok hT hcn hPr hr hpl
      have heo:=effL_ok hT hcn hPr root
      have hnb:=pagesB_true h5
      have hz : inPg sw.size:=⟨hS.z0,hS.z1⟩
      have hsh:=shr_ok hT hr hz hnb.2 l heo (shr0_ok hS.hs hnb.1)
      have hrd:=fun k=>round_S hT hr hz hnb.2 l heo (outR k) (lowR k) (hsh k)
      have hS0 : shrS t sw.size l (effL t (cntS sw.hs) p root) root (sw.hs,(fun _=>zeroSh),n) 0 = (sw.hs,(fun _=>zeroSh),n):=rfl
      have hSs : ∀ k,shrS t sw.size l (effL t (cntS sw.hs) p root) root (sw.hs,(fun _=>zeroSh),n) (k + 1) = rndS t sw.size l (effL t (cntS sw.hs) p root) root (outR k) (lowR k) (shrS t sw.size l (effL t (cntS sw.hs) p root) root (sw.hs,(fun _=>zeroSh),n) k):=fun _=>rfl
      have hel : (effL t (cntS sw.hs) p root).length <= 64:=by
       have h6:=subT_len hT root
       unfold effL
       rw [llm,msort_length]
       omega
      have hemap : (msort (subT t root)).map (fun g=>(effPr t (cntS sw.hs) p root g).pv) = (effL t (cntS sw.hs) p root).map Pr.pv:=by
       unfold effL
       rw [List.map_map]
       rfl
      have hpt : ∀ (hs : List Hg) (k : Nat) (kt : KT) (tk : List MKey) (tv : List PV),HgOk t.nodes sw.size hs -> _:=fun hs k kt tk tv hh=>sparts_eq hT hh hz hL hll (effL t (cntS sw.hs) p root) (by omega) (fnO_eq (outR k)) (fnP_eq (lowR k)) (outR k) (lowR k) kt tk tv
      have hro:=fun (q : List Pt) (m : Int) (hq : q.length < 1000000)=>round_eq t q root m hT.fits (by omega) hq
      rw [hemap] at hef
      generalize hE : effL t (cntS sw.hs) p root = eff at hef heo hsh hrd hS0 hSs hel hemap hpt
      generalize hF : shrS t sw.size l eff root (sw.hs,(fun _=>zeroSh),n) = F at hsh hrd hS0 hSs ⊢
      simp -implicitDefEqProofs (disch:=omega) only [vf78,vb78,hv,hpv,hlv,hck,hpg,hct,hef,go_sem,↓reduceIte,rA,rS,rE,rL,reduceCtorEq]
      obtain ⟨I,hI⟩ : ∃ I : Nat -> St -> Prop,∀ k s,I k s ↔ ∃ (ks : List MKey) (vs : List PV) (ww : Nat),RepH ks vs (F k).2.1 /\ s.pe 4 = .p (.int .i64 root) /\ s.pe 5 = .p (.int .i64 (F k).2.2) /\ s.pe 6 = .ptr (.slot 6 0) 0 0 /\ s.pe 12 = .ptr (.slot 12 0) 0 0 /\ s.pe 16 = .ptr (.slot 66 0) 0 0 /\ s.pe 83 = VVal.agg [.p (PV.fn 91),.p (PV.fn 92),.p (.bool false),.p (.bool false),.p (PV.fn 93),.p (PV.fn 92),.p (.bool true),.p (.bool false),.p (PV.fn 91),.p (PV.fn 94),.p (.bool false),.p (.bool true),.p (PV.fn 93),.p (PV.fn 94),.p (.bool true),.p (.bool true)] /\ s.pe 84 = .p (.int .i64 k) /\ s.h (.slot 6 0) = some (0,Ob.box [.p (nodesP t.nodes),.p (.int .i64 t.next)]) /\ s.h (.slot 12 0) = some (0,Ob.box [.own (.slot 12 1) 0 0 0,.p (.int .i64 0)]) /\ s.h (.slot 12 1) = some (0,Ob.arr 4 []) /\ s.h (.slot 59 0) = some (ww,Ob.arr 4 (List.map Hg.pv (F k).1)) /\ s.h (.slot 64 0) = some (0,Ob.map (KT.int IntKind.i64) ks vs) /\ s.h (.slot 66 0) = some (0,Ob.box [.p (nodesP t.nodes),.p (.int .i64 t.next),.own (.slot 59 0) ww 0 (F k).1.length,.p (.int .i64 sw.size),.p (chsP l),.own (.slot 74 1) 0 0 eff.length,.mref (.slot 64 0) 0]) /\ s.h (.slot 74 1) = some (0,Ob.arr 3 (List.map Pr.pv eff)):=⟨_,fun _ _=>Iff.rfl⟩
      refine wp_count (4) I ?_ ?_
      ·refine (hI _ _).2 ⟨[],[],0,?_,?_,?_,?_,?_,?_,?_,?_,?_,?_,?_,?_,?_,?_,?_⟩
       ·exact by rw [hS0]; exact RepH.nil
       all_goals first | exact cl0 | (simp -implicitDefEqProofs (disch:=omega) only [lma,go_sem,↓reduceIte,rA,rS,rE,rL,reduceCtorEq] <;> first | (simp [hS0]; done) | (simp [hS0]; omega))
      intro k s hk hIk
      obtain ⟨ks,vs,ww,hrep,h4,h5,h6,h12,h16,h83,h84,hh6_0,hh12_0,hh12_1,hh59_0,hh64_0,hh66_0,hh74_1⟩:=(hI _ _).1 hIk
      clear hIk
      simp -implicitDefEqProofs (disch:=omega) only [h4,h5,h6,h12,h16,h83,h84,hh6_0,hh12_0,hh12_1,hh59_0,hh64_0,hh66_0,hh74_1,go_sem,↓reduceIte,rA,rS,rE,rL,reduceCtorEq]
      refine wp_if_d (fun hlt=>?_) (fun hge=>?_)
      ·have hidx : List.take 4 (List.drop (k * 4) [VVal.p (PV.fn 91),.p (PV.fn 92),.p (.bool false),.p (.bool false),.p (PV.fn 93),.p (PV.fn 92),.p (.bool true),.p (.bool false),.p (PV.fn 91),.p (PV.fn 94),.p (.bool false),.p (.bool true),.p (PV.fn 93),.p (PV.fn 94),.p (.bool true),.p (.bool true)]) = [.p (.fn (fnO (outR k))),.p (.fn (fnP (lowR k))),.p (.bool (outR k)),.p (.bool (lowR k))]:=by
        have hk4 : k = 0 \/ k = 1 \/ k = 2 \/ k = 3:=by omega
        rcases hk4 with rfl | rfl | rfl | rfl <;> rfl
       obtain ⟨hP,hRP,hRo,hsum,hown,hpre⟩:=hrd k
       have hp0:=hpt (F k).1 k (.int .i64) ks vs (hsh k).hs
       have hr0:=hro (partsS t sw.size l eff (outR k) (lowR k) (F k).1) (F k).2.2 (by rw [partsS,llm]; omega)
       rw [hRP] at hr0
       simp only at hr0
       have hPl : (eff.map (prtS t (F k).1 sw.size l (ownS (outR k)) (prS (lowR k)) (outR k))).length <= 64:=by rw [llm]; omega
       have hPo : ∀ q ∈ takesS t sw.size l eff root (outR k) (lowR k) (F k),inPg q.2:=fun q hq=>by
        have a1:=hRo.pos q hq
        have a2:=(partOf_ok hP.ok q.1).o1
        exact ⟨by omega,by omega⟩
       unfold partsS at hr0
       have hFk:=hSs k
       have hok:=hsh (k + 1)
       rw [hFk] at hok
       unfold rndS at hFk
       generalize eff.map (prtS t (F k).1 sw.size l (ownS (outR k)) (prS (lowR k)) (outR k)) = Q at hp0 hr0 hPl
       generalize takesS t sw.size l eff root (outR k) (lowR k) (F k) = a at hr0 hRo hpre hPo hFk
       have hal:=hRo.len
       have hG0 : takeSt (outR k) (lowR k) (F k) (a.take 0) = F k:=by
        unfold takeSt
        simp [takeAll,sumI]
       have hGs : ∀ (j : Nat) (q : Int × Int),a[j]? = some q -> takeSt (outR k) (lowR k) (F k) (a.take (j + 1)) = _:=fun j q hq=>by rw [take_snoc hq,takeSt_snoc]
       rw [show takeSt (outR k) (lowR k) (F k) a = takeSt (outR k) (lowR k) (F k) (a.take a.length) by rw [List.take_length]] at hFk
       generalize hG : (fun j=>takeSt (outR k) (lowR k) (F k) (a.take j)) = G
       have hG' : ∀ j,takeSt (outR k) (lowR k) (F k) (a.take j) = G j:=fun j=>by rw [<- hG]
       simp only [hG'] at hpre hG0 hGs hFk
       clear hG hG' hRo hP hRP hsum hown
       obtain ⟨O,hO⟩ : ∃ O,fnO (outR k) = O:=⟨_,rfl⟩
       obtain ⟨U,hU⟩ : ∃ U,fnP (lowR k) = U:=⟨_,rfl⟩
       rw [hO,hU] at hidx hp0
       generalize outR k = o at *
       generalize lowR k = u at *
       simp -implicitDefEqProofs (disch:=omega) only [h4,h5,h6,h12,h16,h83,h84,hh6_0,hh12_0,hh12_1,hh59_0,hh64_0,hh66_0,hh74_1,hlt,hidx,hp0,hr0,go_sem,↓reduceIte,rA,rS,rE,rL,reduceCtorEq]
       have hS0:=hG0
       obtain ⟨J,hJ⟩ : ∃ I : Nat -> St -> Prop,∀ j s,I j s ↔ ∃ (v18_0 : Nat) (v94_1 : Nat) (ks : List MKey) (vs : List PV) (ww : Nat),RepH ks vs (G j).2.1 /\ s.pe 4 = .p (.int .i64 root) /\ s.pe 5 = .p (.int .i64 (G j).2.2) /\ s.pe 6 = .ptr (.slot 6 0) 0 0 /\ s.pe 12 = .ptr (.slot 12 0) 0 0 /\ s.pe 16 = .ptr (.slot 66 0) 0 0 /\ s.pe 18 = .ptr (.slot 18 0) v18_0 0 /\ s.pe 83 = VVal.agg [.p (PV.fn 91),.p (PV.fn 92),.p (.bool false),.p (.bool false),.p (PV.fn 93),.p (PV.fn 92),.p (.bool true),.p (.bool false),.p (PV.fn 91),.p (PV.fn 94),.p (.bool false),.p (.bool true),.p (PV.fn 93),.p (PV.fn 94),.p (.bool true),.p (.bool true)] /\ s.pe 84 = .p (.int .i64 ↑k) /\ s.pe 97 = .own (.slot 94 1) v94_1 0 a.length /\ s.pe 98 = .p (.int .i64 ↑a.length) /\ s.pe 99 = .p (.int .i64 j) /\ s.h (.slot 6 0) = some (0,Ob.box [.p (nodesP t.nodes),.p (.int .i64 t.next)]) /\ s.h (.slot 12 0) = some (0,Ob.box [.own (.slot 12 1) 0 0 0,.p (.int .i64 0)]) /\ s.h (.slot 12 1) = some (0,Ob.arr 4 []) /\ s.h (.slot 18 0) = some (v18_0,Ob.box [.p (PV.fn O),.p (PV.fn U),.p (.bool o),.p (.bool u)]) /\ s.h (.slot 59 0) = some (ww,Ob.arr 4 (List.map Hg.pv (G j).1)) /\ s.h (.slot 64 0) = some (0,Ob.map (KT.int IntKind.i64) ks vs) /\ s.h (.slot 66 0) = some (0,Ob.box [.p (nodesP t.nodes),.p (.int .i64 t.next),.own (.slot 59 0) ww 0 (G j).1.length,.p (.int .i64 sw.size),.p (chsP l),.own (.slot 74 1) 0 0 eff.length,.mref (.slot 64 0) 0]) /\ s.h (.slot 74 1) = some (0,Ob.arr 3 (List.map Pr.pv eff)) /\ s.h (.slot 94 1) = some (v94_1,Ob.arr 2 (List.map tkP a)):=⟨_,fun _ _=>Iff.rfl⟩
       refine wp_count (a.length) J ?_ ?_
       ·refine (hJ _ _).2 ⟨nv (fzOb [18,91,94] s.h (.slot 18 0)),nv (fzOb [18,91,94] s.h (.slot 94 1)),ks,vs,ww,?_,?_,?_,?_,?_,?_,?_,?_,?_,?_,?_,?_,?_,?_,?_,?_,?_,?_,?_,?_,?_⟩
        ·exact by rw [hG0]; exact hrep
        all_goals first | exact cl0 | (simp -implicitDefEqProofs (disch:=omega) only [h4,h5,h6,h12,h16,h83,h84,hh6_0,hh12_0,hh12_1,hh59_0,hh64_0,hh66_0,hh74_1,lma,go_sem,↓reduceIte,rA,rS,rE,rL,reduceCtorEq] <;> first | (simp [hS0]; done) | (simp [hS0]; omega))
       intro j s hj hJk
       obtain ⟨v18_0,v94_1,ks,vs,ww,hrp,h4,h5,h6,h12,h16,h18,h83,h84,h97,h98,h99,hh6_0,hh12_0,hh12_1,hh18_0,hh59_0,hh64_0,hh66_0,hh74_1,hh94_1⟩:=(hJ _ _).1 hJk
       clear hJk
       simp -implicitDefEqProofs (disch:=omega) only [h4,h5,h6,h12,h16,h18,h83,h84,h97,h98,h99,hh6_0,hh12_0,hh12_1,hh18_0,hh59_0,hh64_0,hh66_0,hh74_1,hh94_1,go_sem,↓reduceIte,rA,rS,rE,rL,reduceCtorEq]
       refine wp_if_d (fun hjl=>?_) (fun hjg=>?_)
       ·have hx : a[j]? = some a[j]:=lgg hjl
        have hgs:=hGs j _ hx
        have hqo:=hPo a[j] (lgk _)
        have hpj:=hpre j
        have hpj2:=hpre (j + 1)
        generalize a[j] = q at hx hgs hqo
        obtain ⟨g,m⟩:=q
        have hlj:=hpj.hs.length
        have hle:=hpj.left
        have hmb : inPg m:=hqo
        have htk:=stake_eq t (G j).1 sw.size l eff (by omega) (fo:=O) (fp:=U) o u g m hrp hqo (hpj.hs.get g) (by
         have b1:=hpj.file g
         have b2:=hpj.anon g
         have b3:=hpj.low g
         unfold inPg
         omega)
        have hrn:=hrp.put g (takeK o u g ((G j).2.1 g) m)
        simp only at hgs
        unfold inPg at hmb
        have hrn' : RepH (mput ks vs (.int g) (takeK o u g ((G j).2.1 g) m).pv).1 (mput ks vs (.int g) (takeK o u g ((G j).2.1 g) m).pv).2 (G (j + 1)).2.1:=by rw [hgs]; exact hrn
        have e1 : (G (j + 1)).1 = putS (G j).1 (takeH o (getS (G j).1 g) m):=by rw [hgs]
        have e2 : (G (j + 1)).2.2 = (G j).2.2 - m:=by rw [hgs]
        have hl2:=hpj2.hs.length
        rw [e1] at hl2
        simp -implicitDefEqProofs (disch:=omega) only [h4,h5,h6,h12,h16,h18,h83,h84,h97,h98,h99,hh6_0,hh12_0,hh12_1,hh18_0,hh59_0,hh64_0,hh66_0,hh74_1,hh94_1,hjl,hx,htk,tkP,go_sem,↓reduceIte,rA,rS,rE,rL,reduceCtorEq]
        try refine And.intro (by omega) ?_
        refine (hJ _ _).2 ⟨v18_0,v94_1,(mput ks vs (.int g) (takeK o u g ((G j).2.1 g) m).pv).1,(mput ks vs (.int g) (takeK o u g ((G j).2.1 g) m).pv).2,ww + 1,?_,?_,?_,?_,?_,?_,?_,?_,?_,?_,?_,?_,?_,?_,?_,?_,?_,?_,?_,?_,?_⟩
        ·exact hrn'
        all_goals first | exact cl0 | (simp -implicitDefEqProofs (disch:=omega) only [h4,h5,h6,h12,h16,h18,h83,h84,h97,h98,h99,hh6_0,hh12_0,hh12_1,hh18_0,hh59_0,hh64_0,hh66_0,hh74_1,hh94_1,e1,e2,Sh.pv,lma,go_sem,↓reduceIte,rA,rS,rE,rL,reduceCtorEq] <;> first | (simp [hS0]; done) | (simp [hS0]; omega))
       ·have hje : j = a.length:=by omega
        rw [hje,<- hFk] at hrp
        have hrp':=hrp
        simp -implicitDefEqProofs (disch:=omega) only [h4,h5,h6,h12,h16,h18,h83,h84,h97,h98,h99,hh6_0,hh12_0,hh12_1,hh18_0,hh59_0,hh64_0,hh66_0,hh74_1,hh94_1,hjg,go_sem,↓reduceIte,rA,rS,rE,rL,reduceCtorEq]
        try refine And.intro (by omega) ?_
        refine (hI _ _).2 ⟨ks,vs,ww,?_,?_,?_,?_,?_,?_,?_,?_,?_,?_,?_,?_,?_,?_,?_⟩
        ·exact hrp
        all_goals first | exact cl0 | (simp -implicitDefEqProofs (disch:=omega) only [h4,h5,h6,h12,h16,h83,h84,hh6_0,hh12_0,hh12_1,hh59_0,hh64_0,hh66_0,hh74_1,hFk,hje,lma,go_sem,↓reduceIte,rA,rS,rE,rL,reduceCtorEq] <;> first | (simp [hS0]; done) | (simp [hS0]; omega))
      ·have hk4 : k = 4:=by omega
       subst hk4
       have hok:=hsh 4
       simp -implicitDefEqProofs (disch:=omega) only [h4,h5,h6,h12,h16,h83,h84,hh6_0,hh12_0,hh12_1,hh59_0,hh64_0,hh66_0,hh74_1,hge,go_sem,↓reduceIte,rA,rS,rE,rL,reduceCtorEq]
       obtain ⟨g,hg⟩ : ∃ g,(F 4).2.1 = g:=⟨_,rfl⟩
       rw [hg] at hrep
       rw [hg]
       have hS0 : (F 4).2.1 = g:=hg
       obtain ⟨K,hK⟩ : ∃ I : Nat -> St -> Prop,∀ k s,I k s ↔ ∃ (acc : List Sh) (wv : Nat),acc = outL g (eff.take k) /\ acc.length <= k /\ s.pe 12 = .ptr (.slot 12 0) 0 0 /\ s.pe 16 = .ptr (.slot 66 0) 0 0 /\ s.pe 23 = .own (.slot 23 0) wv 0 acc.length /\ s.pe 119 = .own (.slot 74 1) 0 0 eff.length /\ s.pe 120 = .p (.int .i64 ↑eff.length) /\ s.pe 121 = .p (.int .i64 k) /\ s.h (.slot 12 0) = some (0,Ob.box [.own (.slot 12 1) 0 0 0,.p (.int .i64 0)]) /\ s.h (.slot 12 1) = some (0,Ob.arr 4 []) /\ s.h (.slot 23 0) = some (wv,Ob.arr 4 (acc.map Sh.pv)) /\ s.h (.slot 59 0) = some (ww,Ob.arr 4 (List.map Hg.pv (F 4).1)) /\ s.h (.slot 64 0) = some (0,Ob.map (KT.int IntKind.i64) ks vs) /\ s.h (.slot 66 0) = some (0,Ob.box [.p (nodesP t.nodes),.p (.int .i64 t.next),.own (.slot 59 0) ww 0 (F 4).1.length,.p (.int .i64 sw.size),.p (chsP l),.own (.slot 74 1) 0 0 eff.length,.mref (.slot 64 0) 0]) /\ s.h (.slot 74 1) = some (0,Ob.arr 3 (List.map Pr.pv eff)):=⟨_,fun _ _=>Iff.rfl⟩
       refine wp_count (eff.length) K ?_ ?_
       ·refine (hK _ _).2 ⟨[],nv (fzOb [18,91,94] s.h (.slot 23 0)),?_,?_,?_,?_,?_,?_,?_,?_,?_,?_,?_,?_,?_,?_,?_⟩
        ·rfl
        ·exact by simp
        all_goals first | exact cl0 | (simp -implicitDefEqProofs (disch:=omega) only [h4,h5,h6,h12,h16,h83,h84,hh6_0,hh12_0,hh12_1,hh59_0,hh64_0,hh66_0,hh74_1,lma,go_sem,↓reduceIte,rA,rS,rE,rL,reduceCtorEq] <;> first | (simp [hS0]; done) | (simp [hS0]; omega))
       intro k s hk hKk
       obtain ⟨acc,wv,hacc,hal,h12,h16,h23,h119,h120,h121,hh12_0,hh12_1,hh23_0,hh59_0,hh64_0,hh66_0,hh74_1⟩:=(hK _ _).1 hKk
       clear hKk
       simp -implicitDefEqProofs (disch:=omega) only [h12,h16,h23,h119,h120,h121,hh12_0,hh12_1,hh23_0,hh59_0,hh64_0,hh66_0,hh74_1,go_sem,↓reduceIte,rA,rS,rE,rL,reduceCtorEq]
       refine wp_if_d (fun hkl=>?_) (fun hkg=>?_)
       ·have hx : eff[k]? = some eff[k]:=lgg hkl
        have htk:=take_snoc hx
        generalize eff[k] = e at hx htk
        have hge:=hrep.get e.group
        have hol:=outL_snoc g (eff.take k) e
        rw [<- htk] at hol
        have hgv : (g e.group).pv = .agg [.int .i64 (g e.group).group,.int .i64 (g e.group).file,.int .i64 (g e.group).anon,.int .i64 (g e.group).low]:=rfl
        rw [hgv] at hge
        generalize g e.group = x at hge hol
        by_cases hx0 : x.group = 0
        ·rw [if_pos hx0,lan] at hol
         have hx0' : (!decide (x.group = 0)) = false:=by simp [hx0]
         simp -implicitDefEqProofs (disch:=omega) only [h12,h16,h23,h119,h120,h121,hh12_0,hh12_1,hh23_0,hh59_0,hh64_0,hh66_0,hh74_1,hkl,hx,hge,Pr.pv,hx0',hx0,go_sem,↓reduceIte,rA,rS,rE,rL,reduceCtorEq]
         try refine And.intro (by omega) ?_
         refine (hK _ _).2 ⟨acc,wv,?_,?_,?_,?_,?_,?_,?_,?_,?_,?_,?_,?_,?_,?_,?_⟩
         .exact by rw [hol]; exact hacc
         .omega
         all_goals first | exact cl0 | (simp -implicitDefEqProofs (disch:=omega) only [h12,h16,h23,h119,h120,h121,hh12_0,hh12_1,hh23_0,hh59_0,hh64_0,hh66_0,hh74_1,lma,go_sem,↓reduceIte,rA,rS,rE,rL,reduceCtorEq] <;> first | (simp [hS0]; done) | (simp [hS0]; omega))
        ·rw [if_neg hx0] at hol
         simp -implicitDefEqProofs (disch:=omega) only [h12,h16,h23,h119,h120,h121,hh12_0,hh12_1,hh23_0,hh59_0,hh64_0,hh66_0,hh74_1,hkl,hx,hge,Pr.pv,hx0,go_sem,↓reduceIte,rA,rS,rE,rL,reduceCtorEq]
         try refine And.intro (by omega) ?_
         refine (hK _ _).2 ⟨acc ++ [x],wv + 1,?_,?_,?_,?_,?_,?_,?_,?_,?_,?_,?_,?_,?_,?_,?_⟩
         .exact by rw [hol,hacc]
         .exact by simp; omega
         all_goals first | exact cl0 | (simp -implicitDefEqProofs (disch:=omega) only [h12,h16,h23,h119,h120,h121,hh12_0,hh12_1,hh23_0,hh59_0,hh64_0,hh66_0,hh74_1,lma,go_sem,↓reduceIte,rA,rS,rE,rL,reduceCtorEq] <;> first | (simp [hS0]; done) | (simp [hS0]; omega))
       ·rw [ltl (by omega)] at hacc
        simp -implicitDefEqProofs (disch:=omega) only [h12,h16,h23,h119,h120,h121,hh12_0,hh12_1,hh23_0,hh59_0,hh64_0,hh66_0,hh74_1,hkg,go_sem,↓reduceIte,rA,rS,rE,rL,reduceCtorEq]
        rw [hacc]
     ·have h5' : pagesB n = false:=by simpa using h5
      rw [h5'] at hpg ⊢
      simp -implicitDefEqProofs (disch:=omega) only [vf78,vb78,hv,hpv,hlv,hck,hpg,go_sem,↓reduceIte,rA,rS,rE,rL,reduceCtorEq] <;> rfl
    ·have h4' : (findN t.nodes root).isSome = false:=by simpa using h4
     rw [h4'] at hck ⊢
     simp -implicitDefEqProofs (disch:=omega) only [vf78,vb78,hv,hpv,hlv,hck,e4,go_sem,↓reduceIte,rA,rS,rE,rL,reduceCtorEq] <;> rfl
   ·have h3' : validLK t l = false:=by simpa using h3
    rw [h3'] at hlv ⊢
    simp -implicitDefEqProofs (disch:=omega) only [vf78,vb78,hv,hpv,hlv,go_sem,↓reduceIte,rA,rS,rE,rL,reduceCtorEq] <;> rfl
  ·have h2' : validPr t p = false:=by simpa using h2
   rw [h2'] at hpv ⊢
   simp -implicitDefEqProofs (disch:=omega) only [vf78,vb78,hv,hpv,go_sem,↓reduceIte,rA,rS,rE,rL,reduceCtorEq] <;> rfl
 ·have h1' : validS t sw = false:=by simpa using h1
  rw [h1'] at hv ⊢
  simp -implicitDefEqProofs (disch:=omega) only [vf78,vb78,hv,go_sem,↓reduceIte,rA,rS,rE,rL,reduceCtorEq] <;> rfl
theorem rnd_calc {t : Tr} {z : Int} {l : List Ch} {eff : List Pr} {root : Int} {out low : Bool} {s : ShSt} {P : List Pt} {S : List Int} {a : List (Int × Int)} (h1 : msort (subT t root) = S) (h0 : partsS t z l eff out low s.1 = P) (h2 : (treeOk t && (!(subT t root).isEmpty && partsOk P S)) = true) (h3 : pagesB s.2.2 = true) (h4 : takeR t P root (min s.2.2 (capR t P root)) = a) (h5 : a.Pairwise fun x y=>x.1 <= y.1) : rndS t z l eff root out low s = takeSt out low s a:=by
 unfold rndS takesS
 rw [h0,RoundP,validP,h1,if_pos h2,if_pos h3]
 show takeSt out low s (tsort (takeR t P root (min s.2.2 (capR t P root)))) = _
 rw [h4,tsort_of h5]
theorem shr_calc {t : Tr} {z : Int} {l : List Ch} {eff : List Pr} {root : Int} {s0 s1 s2 s3 s4 : ShSt} (h1 : rndS t z l eff root false false s0 = s1) (h2 : rndS t z l eff root true false s1 = s2) (h3 : rndS t z l eff root false true s2 = s3) (h4 : rndS t z l eff root true true s3 = s4) : shrS t z l eff root s0 4 = s4:=by
 rw [<- h4,<- h3,<- h2,<- h1]
 rfl
def stockAt (L : List Int) (a : Nat) (id : Int) : Hg:=⟨id,pickV L a [0,0,4,30,100],pickV L (nextA L a 5) [0,5,20,80],pickV L (nextA L (nextA L a 5) 4) [0,0,3,15]⟩
def stockNx (L : List Int) (a : Nat) : Nat:=nextA L (nextA L (nextA L a 5) 4) 4
def dStock (L : List Int) (t : Tr) : List Nd -> Nat -> Stk -> Stk × Nat
 | [],a,s=>(s,a)
 | n :: ns,a,s=>dStock L t ns (stockNx L a) (if (PutS t s (stockAt L a n.id)).2 = 0 then (PutS t s (stockAt L a n.id)).1 else s)
theorem dStock_ok (L : List Int) (t : Tr) : ∀ (ns : List Nd) (a : Nat) (s : Stk),StkOk t s -> StkOk t (dStock L t ns a s).1
 | [],_,_,h=>h
 | n :: ns,a,s,h=>by
  unfold dStock
  refine dStock_ok L t ns _ _ ?_
  split
  .rename_i h0; exact PutS_ok h0
  .exact h
def stock0 (L : List Int) (a : Nat) : Stk:=⟨[],pickV L a [0,20,200,5000]⟩
theorem stock0_ok (L : List Int) (a : Nat) {t : Tr} (h : TreeOk t) : StkOk t (stock0 L a):=by
 have hm:=pickV_mem L a (xs:=[0,20,200,5000]) (by simp)
 simp only [lmk,List.not_mem_nil,or_false] at hm
 refine ⟨h,?_,?_,⟨by simp [stock0],by simp [stock0],by simp [stock0],by simp [stock0],by simp [stock0],by simp [stock0],by simp [stock0,sumI],?_⟩⟩
 all_goals (simp only [stock0,sumI,lpn]; omega)
def madeS (L : List Int) (a : Nat) (t : Tr) : Stk × Nat:=dStock L t t.nodes (nextA L a 4) (stock0 L a)
set_option maxHeartbeats 2000000 in
theorem stock_eq (L : List Int) (a : Nat) {t : Tr} (h : TreeOk t) (hL : L.length < 4611686018427387904) : V 13 [.ptr (.arg 0 0) 0 0,t.vv] [diceB L a] = some ((madeS L a t).1.fv,[diceB L (madeS L a t).2]):=by
 refine V_wp (vf:=vf13) rfl ?_
 have hlen:=h.len
 have hp0:=pick_eq L a [0,20,200,5000] hL (by simp) (by simp)
 simp only [intsP,llc,lln,rA,lpc,lpn] at hp0
 have hnA0 : nextA L a ((4 : Nat) : Int) = nextA L a 4:=rfl
 rw [hnA0] at hp0
 have hok0:=stock0_ok L a h
 unfold madeS
 unfold stock0 at hok0 ⊢
 generalize pickV L a [0,20,200,5000] = z at hp0 hok0
 generalize nextA L a 4 = a0 at hp0
 simp -implicitDefEqProofs (disch:=omega) only [vf13,vb13,hp0,go_sem,↓reduceIte,rA,rS,rE,rL,reduceCtorEq]
 obtain ⟨I,hI⟩ : ∃ I : Nat -> St -> Prop,∀ k s,I k s ↔ ∃ (b : Nat) (c : Stk) (ww : Nat),StkOk t c /\ dStock L t t.nodes a0 ⟨[],z⟩ = dStock L t (t.nodes.drop k) b c /\ s.pe 0 = .ptr (Id.arg 0 0) 0 0 /\ s.pe 3 = .ptr (.slot 3 0) 0 0 /\ s.pe 4 = .ptr (.slot 4 0) 0 0 /\ s.pe 5 = .ptr (.slot 5 0) 0 0 /\ s.pe 6 = .p (.int .i64 k) /\ s.h (.arg 0 0) = some (0,diceB L b) /\ s.h (.slot 3 0) = some (0,Ob.box [.p (nodesP t.nodes),.p (.int .i64 t.next)]) /\ s.h (.slot 4 0) = some (0,Ob.box [.own (.slot 4 1) 0 0 0,.p (.int .i64 0)]) /\ s.h (.slot 4 1) = some (0,Ob.arr 4 []) /\ s.h (.slot 5 0) = some (0,Ob.box [.own (.slot 13 1) ww 0 c.hs.length,.p (.int .i64 c.size)]) /\ s.h (.slot 13 1) = some (ww,Ob.arr 4 (c.hs.map Hg.pv)):=⟨_,fun _ _=>Iff.rfl⟩
 refine wp_count (t.nodes.length) I ?_ ?_
 ·refine (hI _ _).2 ⟨a0,⟨[],z⟩,0,?_,?_,?_,?_,?_,?_,?_,?_,?_,?_,?_,?_,?_⟩
  ·exact hok0
  ·rfl
  all_goals exact cl0
 intro k s hk hIk
 obtain ⟨b,c,ww,hc,hd,h0,h3,h4,h5,h6,ha0,hh3_0,hh4_0,hh4_1,hh5_0,hh13_1⟩:=(hI _ _).1 hIk
 clear hIk
 have hcl:=hc.hs.length
 simp -implicitDefEqProofs (disch:=omega) only [h0,h3,h4,h5,h6,ha0,hh3_0,hh4_0,hh4_1,hh5_0,hh13_1,go_sem,↓reduceIte,rA,rS,rE,rL,reduceCtorEq]
 refine wp_if_d (fun hlt=>?_) (fun hge=>?_)
 ·have hm : t.nodes[k]? = some t.nodes[k]:=lgg hlt
  have hdr : t.nodes.drop k = t.nodes[k] :: t.nodes.drop (k + 1):=ldg hlt
  generalize t.nodes[k] = m at hm hdr
  rw [hdr,dStock] at hd
  have p1:=pick_eq L b [0,0,4,30,100] hL (by simp) (by simp)
  have p2:=pick_eq L (nextA L b 5) [0,5,20,80] hL (by simp) (by simp)
  have p3:=pick_eq L (nextA L (nextA L b 5) 4) [0,0,3,15] hL (by simp) (by simp)
  have hput:=rsput_eq t c (stockAt L b m.id) (by omega) (by omega)
  have hok:=PutS_ok (t:=t) (sw:=c) (h:=stockAt L b m.id)
  simp only [intsP,llc,lln,rA,lpc,lpn] at p1 p2 p3
  unfold stockAt stockNx at hd
  unfold stockAt at hput hok
  have e5 : nextA L b ((5 : Nat) : Int) = nextA L b 5:=rfl
  rw [e5] at p1
  generalize pickV L b [0,0,4,30,100] = v1 at p1 hput hok hd
  generalize nextA L b 5 = b1 at p1 p2 p3 hput hok hd
  have e4 : nextA L b1 ((4 : Nat) : Int) = nextA L b1 4:=rfl
  rw [e4] at p2
  generalize pickV L b1 [0,5,20,80] = v2 at p2 hput hok hd
  generalize nextA L b1 4 = b2 at p2 p3 hput hok hd
  have e4' : nextA L b2 ((4 : Nat) : Int) = nextA L b2 4:=rfl
  rw [e4'] at p3
  generalize pickV L b2 [0,0,3,15] = v3 at p3 hput hok hd
  generalize nextA L b2 4 = b3 at p3 hd
  generalize PutS t c ⟨m.id,v1,v2,v3⟩ = r at hput hok hd
  obtain ⟨⟨rl,rz⟩,re⟩:=r
  simp only at hput hok hd
  by_cases he : re = 0
  ·subst he
   rw [if_pos rfl] at hd
   simp -implicitDefEqProofs (disch:=omega) only [h0,h3,h4,h5,h6,ha0,hh3_0,hh4_0,hh4_1,hh5_0,hh13_1,hlt,hm,p1,p2,p3,hput,go_sem,↓reduceIte,rA,rS,rE,rL,reduceCtorEq]
   try refine And.intro (by omega) ?_
   refine (hI _ _).2 ⟨b3,⟨rl,rz⟩,ww + 1,?_,?_,?_,?_,?_,?_,?_,?_,?_,?_,?_,?_,?_⟩
   .exact hok rfl
   .exact hd
   all_goals exact cl0
  ·rw [if_neg he] at hd
   simp -implicitDefEqProofs (disch:=omega) only [h0,h3,h4,h5,h6,ha0,hh3_0,hh4_0,hh4_1,hh5_0,hh13_1,hlt,hm,p1,p2,p3,hput,he,go_sem,↓reduceIte,rA,rS,rE,rL,reduceCtorEq]
   try refine And.intro (by omega) ?_
   refine (hI _ _).2 ⟨b3,c,ww,?_,?_,?_,?_,?_,?_,?_,?_,?_,?_,?_,?_,?_⟩
   .exact hc
   .exact hd
   all_goals exact cl0
 ·rw [ldl (by omega),dStock] at hd
  rw [hd]
  simp -implicitDefEqProofs (disch:=omega) only [h0,h3,h4,h5,h6,ha0,hh3_0,hh4_0,hh4_1,hh5_0,hh13_1,hge,go_sem,↓reduceIte,rA,rS,rE,rL,reduceCtorEq]
theorem total_at {t : Tr} (h : TreeOk t) {l : List Ch} (hl : ChOk t.nodes l) {i : Nat} {n : Nd} (hn : t.nodes[i]? = some n) : V 76 [t.vv,ctrV l,.p (.int .i64 n.id)] [] = some (.tup [.p (.int .i64 (tot t (ownC l) n.id)),.p (.int .i64 0)],[]):=by
 have h0 : checkK t l n.id = 0:=checkK_zero.2 ⟨h,hl,i,n,hn,rfl⟩
 have hlen:=h.len
 have hll:=hl.length
 have:=total_eq t l n.id h.fits (by omega) (by omega)
 rw [totK,if_pos h0,h0] at this
 exact this
theorem AddK_eq {t : Tr} (h : TreeOk t) {c : List Ch} (hc : ChOk t.nodes c) {id : Int} (hk : knownN t.nodes id = true) (m : Int) : AddK t c id m = addK t c id m:=by
 obtain ⟨n,hn,rfl⟩:=findN_some hk
 obtain ⟨i,hi⟩:=lgm hn
 rw [AddK,if_pos (checkK_zero.2 ⟨h,hc,i,n,hi,rfl⟩)]
theorem tot_root {t : Tr} (h : TreeOk t) {c : List Ch} (hc : ChOk t.nodes c) : tot t (ownC c) 1 = sumI (c.map (·.own)):=by
 obtain ⟨r,hr,hr1⟩:=root_at h
 rw [<- hr1]
 refine sum_own_eq hc.inc _ (subF_nodup h hr) fun d hd=>?_
 obtain ⟨m,hm,he⟩:=findN_some (hc.known d hd)
 obtain ⟨j,hj⟩:=lgm hm
 rw [<- he]
 exact (mem_sub h hr _).2 ⟨j,m,hj,rfl,by rw [hr1]; exact root_anc h j m hj⟩
theorem dCounter_sum (L : List Int) {t : Tr} (h : TreeOk t) : ∀ (ns : List Nd) (a : Nat) (c : List Ch),ChOk t.nodes c -> (∀ n ∈ ns,n ∈ t.nodes) -> sumI ((dCounter L t ns a c).1.map (·.own)) <= sumI (c.map (·.own)) + 1000 * ns.length
 | [], _, _, _, _=>by simp [dCounter]
 | n :: ns,a,c,hc,hm=>by
  have hp:=pickV_mem L a (xs:=[0,1,5,40,100,1000]) (by simp)
  have hk : knownN t.nodes n.id = true:=mem_find' (hm n (lms ..))
  have hok:=AddK_ok (t:=t) (c:=c) (id:=n.id) (n:=pickV L a [0,1,5,40,100,1000])
  unfold dCounter
  have hpr : 0 <= pickV L a [0,1,5,40,100,1000] /\ pickV L a [0,1,5,40,100,1000] <= 1000:=by
   generalize pickV L a [0,1,5,40,100,1000] = p at hp
   simp at hp
   omega
  have hadd:=AddK_eq h hc hk (pickV L a [0,1,5,40,100,1000])
  by_cases h0 : (AddK t c n.id (pickV L a [0,1,5,40,100,1000])).2 = 0
  ·rw [if_pos h0]
   have ih:=dCounter_sum L h ns (nextA L a 6) _ (hok h0) fun x hx=>hm x (lmc _ hx)
   have hs : sumI ((AddK t c n.id (pickV L a [0,1,5,40,100,1000])).1.map (·.own)) = sumI (c.map (·.own)) + pickV L a [0,1,5,40,100,1000]:=by
    rw [hadd] at h0 ⊢
    unfold addK at h0 ⊢
    split at h0
    ·simp at h0
    ·rename_i ha
     rw [if_neg ha]
     split at h0
     ·simp at h0
     ·rename_i hb
      rw [if_neg hb]
      simp only [withC_sum hc.inc]
      omega
   simp only [llc,Int.natCast_add]
   omega
  ·rw [if_neg h0]
   have ih:=dCounter_sum L h ns (nextA L a 6) c hc fun x hx=>hm x (lmc _ hx)
   simp only [llc,Int.natCast_add]
   omega
where
 mem_find' {ns : List Nd} {n : Nd} (h : n ∈ ns) : (findN ns n.id).isSome = true:=by
  rw [findN,List.find?_isSome]
  exact ⟨n,h,by simp⟩
theorem known_len {t : Tr} {gs : List Int} (hi : gs.Pairwise fun a b=>a < b) (hk : ∀ g ∈ gs,(findN t.nodes g).isSome = true) : gs.length <= t.nodes.length:=by
 have hnd : gs.Nodup:=hi.imp fun hab=>by omega
 have:=nodup_length_le gs (t.nodes.map (·.id)) hnd (fun x hx=>by
  obtain ⟨n,hn,he⟩:=findN_some (hk x hx)
  exact lmm.2 ⟨n,hn,he⟩)
 simpa using this
theorem PrOk.length {t : Tr} {l : List Pr} (h : PrOk t.nodes l) : l.length <= t.nodes.length:=by
 have:=known_len (t:=t) (gs:=l.map (·.group)) (by rw [List.pairwise_map]; exact h.inc) fun g hg=>by
  obtain ⟨x,hx,rfl⟩:=lmm.1 hg
  exact h.known x hx
 simpa using this
theorem AscOk.length {t : Tr} {lo hi : Int} {l : List Ch} (h : AscOk (knownN t.nodes) lo hi l) : l.length <= t.nodes.length:=by
 have:=known_len (t:=t) (gs:=l.map (·.group)) (by rw [List.pairwise_map]; exact h.inc) fun g hg=>by
  obtain ⟨x,hx,rfl⟩:=lmm.1 hg
  exact h.known x hx
 simpa using this
structure TrialOk (t : Tr) (sw : Stk) (p : List Pr) (l : List Ch) (root : Int) : Prop where
 stk : StkOk t sw
 pr : PrOk t.nodes p
 lim : AscOk (knownN t.nodes) 0 4611686018427387904 l
 root : InN t.nodes root
theorem swT_in {t : Tr} (h : TreeOk t) {hs : List Hg} {g : Int} (hg : InN t.nodes g) : swT t hs g = sumI ((subA t g).map (swpF hs)):=by
 obtain ⟨i,n,hn,rfl⟩:=hg
 rw [swT,subT_some h hn]
theorem sumOn_set (a : List (Int × Int)) : ∀ (S : List Int),S.Nodup -> sumI (S.map fun x=>sumOn [x] a) = sumOn S a
 | [],_=>(sumOn_zero fun q _ hq=>by simp at hq).symm
 | x :: S,h=>by
  rw [List.nodup_cons] at h
  rw [sumOn_cons h.1,lpc,sumI,sumOn_set a S h.2]
theorem sumI_add (f g : Int -> Int) : ∀ (ks : List Int),sumI (ks.map fun c=>f c + g c) = sumI (ks.map f) + sumI (ks.map g)
 | []=>rfl
 | c :: ks=>by
  have:=sumI_add f g ks
  simp only [lpc,sumI,this]
  omega
structure StepS (t : Tr) (l : List Pt) (root : Int) (out low : Bool) (s s' : ShSt) (a : List (Int × Int)) : Prop where
 parts : PartsOk t l root
 rnd : RoundOk t l root (min s.2.2 (capR t l root)) a
 sum : sumI (a.map Prod.snd) = min s.2.2 (capR t l root)
 get : ∀ x,getS s'.1 x = takeH out (getS s.1 x) (sumOn [x] a)
 file : ∀ x,(s'.2.1 x).file = (s.2.1 x).file + if out then 0 else sumOn [x] a
 anon : ∀ x,(s'.2.1 x).anon = (s.2.1 x).anon + if out then sumOn [x] a else 0
 low : ∀ x,(s'.2.1 x).low = (s.2.1 x).low + if low then sumOn [x] a else 0
 left : s'.2.2 = s.2.2 - sumI (a.map Prod.snd)
 non : ∀ x,0 <= sumOn [x] a
 own : ∀ x,sumOn [x] a <= ownS out (getS s.1 x)
 off : ∀ x,x ∉ subA t root -> sumOn [x] a = 0
theorem shr_step {t : Tr} (h : TreeOk t) {root : Int} (hr : InN t.nodes root) {z n0 : Int} (hz : inPg z) (hn : n0 <= 16777216) (l : List Ch) {eff : List Pr} (he : EffOk t root eff) {s0 : ShSt} (hs : ShOk t z n0 s0) (k : Nat) : StepS t (partsS t z l eff (outR k) (lowR k) (shrS t z l eff root s0 k).1) root (outR k) (lowR k) (shrS t z l eff root s0 k) (shrS t z l eff root s0 (k + 1)) (takesS t z l eff root (outR k) (lowR k) (shrS t z l eff root s0 k)):=by
 have hk:=shr_ok h hr hz hn l he hs k
 obtain ⟨h1,h2,h3,h4,h5,h6⟩:=round_S h hr hz hn l he (outR k) (lowR k) hk
 have e : shrS t z l eff root s0 (k + 1) = takeSt (outR k) (lowR k) (shrS t z l eff root s0 k) (takesS t z l eff root (outR k) (lowR k) (shrS t z l eff root s0 k)):=rfl
 rw [e]
 generalize takesS t z l eff root (outR k) (lowR k) (shrS t z l eff root s0 k) = a at h2 h3 h4 h5 ⊢
 generalize shrS t z l eff root s0 k = s at *
 generalize outR k = out at *
 generalize lowR k = low at *
 have hq0 : ∀ q ∈ a,0 <= q.2:=fun q hqm=>by have:=(h3.pos q hqm).1; omega
 have key : ∀ x,(takeSt out low s a).2.1 x = if x ∈ a.map Prod.fst then takeK out low x (s.2.1 x) (sumOn [x] a) else s.2.1 x:=fun x=>takeAll_note out low x a (s.1,s.2.1)
 have hz0 : ∀ x,x ∉ a.map Prod.fst -> sumOn [x] a = 0:=fun x hx=>sumOn_zero fun r hr hrq=>hx (by
  have : r.1 = x:=by simpa using hrq
  rw [<- this]
  exact lmm.2 ⟨r,hr,rfl⟩)
 refine ⟨h1,h3,h4,fun x=>takeAll_get out low x a (s.1,s.2.1),fun x=>?_,fun x=>?_,fun x=>?_,rfl,fun x=>sumOn_nonneg hq0,h5,fun x hx=>hz0 x fun hm=>?_⟩
 ·rw [key x]
  by_cases hx : x ∈ a.map Prod.fst
  ·rw [if_pos hx]
   unfold takeK
   cases out <;> simp
  ·rw [if_neg hx,hz0 x hx]
   cases out <;> simp
 ·rw [key x]
  by_cases hx : x ∈ a.map Prod.fst
  ·rw [if_pos hx]
   unfold takeK
   cases out <;> simp
  ·rw [if_neg hx,hz0 x hx]
   cases out <;> simp
 ·rw [key x]
  by_cases hx : x ∈ a.map Prod.fst
  ·rw [if_pos hx]
   unfold takeK
   cases low <;> simp
  ·rw [if_neg hx,hz0 x hx]
   cases low <;> simp
 ·obtain ⟨q,hq,rfl⟩:=lmm.1 hm
  exact hx (h3.groups q hq)
structure Noted (t : Tr) (root : Int) (hs : List Hg) (n : Int) (s : ShSt) : Prop where
 get : ∀ x,getS s.1 x = ⟨x,(getS hs x).file - (s.2.1 x).file,(getS hs x).anon - (s.2.1 x).anon,(getS hs x).swap + (s.2.1 x).anon⟩
 off : ∀ x,x ∉ subA t root -> (s.2.1 x).file = 0 /\ (s.2.1 x).anon = 0 /\ (s.2.1 x).low = 0
 sum : ∀ S : List Int,S.Nodup -> (∀ x ∈ subA t root,x ∈ S) -> sumI (S.map fun x=>(s.2.1 x).file + (s.2.1 x).anon) = n - s.2.2
 low : ∀ x,(s.2.1 x).low <= (s.2.1 x).file + (s.2.1 x).anon
theorem Noted.step {t : Tr} {root : Int} {hs : List Hg} {n : Int} {s s' : ShSt} (hn : Noted t root hs n s) {l : List Pt} {out low : Bool} {a : List (Int × Int)} (h : StepS t l root out low s s' a) : Noted t root hs n s':=by
 have hT:=h.parts.tree
 refine ⟨fun x=>?_,fun x hx=>?_,fun S hS hSr=>?_,fun x=>?_⟩
 ·rw [h.get,hn.get,h.file,h.anon]
  unfold takeH
  cases out <;> simp <;> omega
 ·have h1:=hn.off x hx
  rw [h.file,h.anon,h.low,h.off x hx,h1.1,h1.2.1,h1.2.2]
  simp
 ·have h1:=hn.sum S hS hSr
  have h2 : (fun x=>(s'.2.1 x).file + (s'.2.1 x).anon) = fun x=>((s.2.1 x).file + (s.2.1 x).anon) + sumOn [x] a:=by
   funext x
   rw [h.file,h.anon]
   cases out <;> simp <;> omega
  rw [h2,sumI_add,h1,sumOn_set a _ hS,sumOn_all fun q hq=>hSr _ (h.rnd.groups q hq),h.left]
  omega
 ·have h1:=hn.low x
  have h2:=h.non x
  rw [h.file,h.anon,h.low]
  cases out <;> cases low <;> simp <;> omega
theorem noted0 (t : Tr) (root : Int) (hs : List Hg) (n : Int) : Noted t root hs n (hs,(fun _=>zeroSh),n):=by
 refine ⟨fun x=>?_,fun x hx=>⟨rfl,rfl,rfl⟩,fun S _ _=>?_,fun x=>by simp⟩
 ·show getS hs x = ⟨x,(getS hs x).file - 0,(getS hs x).anon - 0,(getS hs x).swap + 0⟩
  rw [Int.sub_zero,Int.sub_zero,Int.add_zero]
  have hg:=getS_group hs x
  revert hg
  generalize getS hs x = y
  intro hg
  subst hg
  rfl
 ·show sumI (S.map fun _=>(0 : Int) + 0) = n - n
  rw [Int.add_zero,sumI_zeros]
  omega
theorem shr_noted {t : Tr} (h : TreeOk t) {root : Int} (hr : InN t.nodes root) {z n : Int} (hz : inPg z) (hn0 : 0 <= n) (hn : n <= 16777216) (l : List Ch) {eff : List Pr} (he : EffOk t root eff) {hs : List Hg} (hh : HgOk t.nodes z hs) : ∀ k,Noted t root hs n (shrS t z l eff root (hs,(fun _=>zeroSh),n) k)
 | 0=>noted0 t root hs n
 | k + 1=>(shr_noted h hr hz hn0 hn l he hh k).step (shr_step h hr hz hn l he (shr0_ok hh hn0) k)
theorem outL_mem {f : Int -> Sh} {eff : List Pr} (hg : ∀ x,f x = zeroSh \/ (f x).group = x) {x : Sh} (hx : x ∈ outL f eff) : x.group ∈ eff.map (·.group) /\ x = f x.group /\ x.group ≠ 0:=by
 obtain ⟨h1,h2⟩:=List.mem_filter.1 hx
 obtain ⟨e,he,rfl⟩:=lmm.1 h1
 simp only [decide_eq_true_eq] at h2
 rcases hg e.group with h3 | h3
 ·rw [h3] at h2
  exact absurd rfl h2
 ·rw [h3] at h2 ⊢
  exact ⟨lmm.2 ⟨e,he,rfl⟩,rfl,h2⟩
theorem sumI_congr' {f g : Int -> Int} {l : List Int} (h : ∀ x ∈ l,f x = g x) : sumI (l.map f) = sumI (l.map g):=congrArg sumI (List.map_congr_left h)
theorem swT_step {t : Tr} {l : List Pt} {root : Int} {out low : Bool} {s s' : ShSt} {a : List (Int × Int)} (h : StepS t l root out low s s' a) {g : Int} (hg : InN t.nodes g) : swT t s'.1 g = swT t s.1 g + if out then takenP t a g else 0:=by
 have hT:=h.parts.tree
 rw [swT_in hT hg,swT_in hT hg,h.rnd.on g hg,<- sumOn_set a _ (subA_nodup hT hg)]
 cases out with
 | false =>
  simp only [bft,if_false,Int.add_zero]
  refine sumI_congr' fun x _=>?_
  unfold swpF
  rw [h.get]
  rfl
 | true =>
  simp only [if_true]
  rw [<- sumI_add]
  refine sumI_congr' fun x _=>?_
  unfold swpF
  rw [h.get]
  rfl
theorem usedF_step {t : Tr} {l : List Pt} {root : Int} {out low : Bool} {s s' : ShSt} {a : List (Int × Int)} (h : StepS t l root out low s s' a) {z z' : Int} (h0 : HgOk t.nodes z s.1) (h1 : HgOk t.nodes z' s'.1) {g : Int} (hg : InN t.nodes g) : usedF t (cntS s'.1) g = usedF t (cntS s.1) g - takenP t a g:=by
 have hT:=h.parts.tree
 have hf : (findN t.nodes g).isSome = true:=by
  obtain ⟨i,n,hn,rfl⟩:=hg
  rw [findN_unique hT.inc hn]
  rfl
 unfold usedF
 rw [if_pos hf,if_pos hf,h.rnd.on g hg,<- sumOn_set a _ (subA_nodup hT hg)]
 unfold tot
 rw [<- sumI_sub]
 refine sumI_congr' fun x _=>?_
 rw [cntS_own h0.inc,cntS_own h1.inc]
 unfold memF
 rw [h.get]
 unfold takeH
 cases out <;> simp <;> omega
theorem leftS_min (W : Int -> Int) (l : List Ch) {c : Int} : ∀ (gs : List Int) (a : Int),c ∈ gs -> leftS W l gs a <= mostK l c - W c
 | [],_,h=>by simp at h
 | g :: gs,a,h=>by
  rcases lmk.1 h with rfl | h
  ·have:=leftS_le W l gs (min a (mostK l c - W c))
   unfold leftS
   omega
  .exact leftS_min W l gs _ h
theorem ancR_in {t : Tr} (h : TreeOk t) {g : Int} (hg : InN t.nodes g) : ancR t g = ancF t.nodes t.nodes.length g:=by
 obtain ⟨i,n,hn,rfl⟩:=hg
 exact ancR_anc h hn
theorem roomS_le {t : Tr} (hT : TreeOk t) {hs : List Hg} {z : Int} {l : List Ch} {g c : Int} (hg : InN t.nodes g) (h : c ∈ ancR t g) : roomS t hs z l g <= max 0 (mostK l c - swT t hs c):=by
 rw [ancR_in hT hg] at h
 have:=leftS_min (swT t hs) l (c:=c) (ancF t.nodes t.nodes.length g) (z - swT t hs 1) h
 unfold roomS
 omega
theorem anc_two {t : Tr} (h : TreeOk t) : ∀ (i : Nat) (n : Nd),t.nodes[i]? = some n -> ∀ a b,a ∈ ancF t.nodes t.nodes.length n.id -> b ∈ ancF t.nodes t.nodes.length n.id -> a ∈ ancF t.nodes t.nodes.length b \/ b ∈ ancF t.nodes t.nodes.length a:=by
 intro i
 induction i using Nat.strongRecOn with
 | _ i ih =>
  intro n hn a b ha hb
  rcases (anc_iff h hn a).1 ha with h1 | ⟨hi,h1⟩
  ·rw [h1]
   exact .inr hb
  ·rcases (anc_iff h hn b).1 hb with h2 | ⟨_,h2⟩
   ·rw [h2]
    exact .inl ha
   ·rcases h.nodeAt hn with ⟨h3,_⟩ | ⟨_,_,j,p,hj,hp,he⟩
    ·exact absurd h3 hi
    ·rw [<- he] at h1 h2
     exact ih j (by omega) p hp a b h1 h2
theorem room_taken {t : Tr} (h : TreeOk t) {root : Int} (hr : InN t.nodes root) {z : Int} {lm : List Ch} {eff : List Pr} (he : EffOk t root eff) {low : Bool} {s s' : ShSt} {a : List (Int × Int)} (hS : StepS t (partsS t z lm eff true low s.1) root true low s s' a) {g : Int} (hg : InN t.nodes g) : 0 <= takenP t a g /\ (takenP t a g = 0 \/ takenP t a g <= max 0 (mostK lm g - swT t s.1 g)):=by
 have h0 : 0 <= takenP t a g:=taken_nonneg hS.rnd g
 refine ⟨h0,?_⟩
 have room : ∀ c,c ∈ subA t root -> capR t (partsS t z lm eff true low s.1) c <= roomS t s.1 z lm c:=fun c hc=>by
  obtain ⟨e,hem,hge,hp⟩:=partOf_prt (t:=t) (hs:=s.1) (z:=z) (l:=lm) (own:=ownS true) (pr:=prS low) (out:=true) ((effOk_mem h hr he c).2 hc)
  have h1:=(cap_le h (l:=partsS t z lm eff true low s.1) (subA_in h hr hc)).1
  rw [hp] at h1
  simp only [prtS,if_true,hge] at h1
  exact h1
 by_cases h1 : g ∈ subA t root
 ·right
  have h2:=hS.rnd.sub g h1
  have h3:=room g h1
  have h4:=roomS_le (hs:=s.1) (z:=z) (l:=lm) h hg (c:=g) ((mem_anc h hg hg).2 (subA_self h hg))
  omega
 ·by_cases h2 : root ∈ subA t g
  ·right
   have h3:=hS.sum
   have h4 : takenP t a g <= sumI (a.map Prod.snd):=by
    rw [hS.rnd.on g hg]
    exact sumOn_le fun q hq=>by have:=(hS.rnd.pos q hq).1; omega
   have h5:=room root (subA_self h hr)
   have h6:=roomS_le (hs:=s.1) (z:=z) (l:=lm) h hr (c:=g) ((mem_anc h hg hr).2 h2)
   omega
  ·left
   rw [hS.rnd.on g hg]
   refine sumOn_zero fun q hq hqg=>?_
   have h3:=hS.rnd.groups q hq
   obtain ⟨i,n,hn,hne⟩:=subA_in h hr h3
   have a1:=(mem_anc h hr ⟨i,n,hn,hne⟩).2 h3
   have a2:=(mem_anc h hg ⟨i,n,hn,hne⟩).2 hqg
   rw [<- hne,ancR_anc h hn] at a1 a2
   rcases anc_two h i n hn g root a2 a1 with h5 | h5
   .exact h2 ((mem_anc h hg hr).1 (by rw [ancR_in h hr]; exact h5))
   .exact h1 ((mem_anc h hr hg).1 (by rw [ancR_in h hg]; exact h5))
section
variable {t : Tr} {root z n : Int} {lm : List Ch} {eff : List Pr} {hs : List Hg}
abbrev runS (t : Tr) (z : Int) (lm : List Ch) (eff : List Pr) (root : Int) (hs : List Hg) (n : Int) (k : Nat) : ShSt:=shrS t z lm eff root (hs,(fun _=>zeroSh),n) k
theorem swT_shr (h : TreeOk t) (hr : InN t.nodes root) (hz : inPg z) (hn0 : 0 <= n) (hn : n <= 16777216) (lm : List Ch) (he : EffOk t root eff) (hh : HgOk t.nodes z hs) {g : Int} (hg : InN t.nodes g) : ∀ k,swT t hs g <= swT t (runS t z lm eff root hs n k).1 g /\ swT t (runS t z lm eff root hs n k).1 g <= max (swT t hs g) (mostK lm g)
 | 0=>by
  show swT t hs g <= swT t hs g /\ swT t hs g <= max (swT t hs g) (mostK lm g)
  omega
 | k + 1=>by
  have ih:=swT_shr h hr hz hn0 hn lm he hh hg k
  have hS:=shr_step h hr hz hn lm he (shr0_ok hh hn0) k
  have h1:=swT_step hS hg
  by_cases ho : outR k = true
  ·rw [ho] at hS h1
   have h2:=room_taken h hr he hS hg
   rw [if_pos rfl] at h1
   show swT t hs g <= swT t (shrS t z lm eff root _ (k + 1)).1 g /\ swT t (shrS t z lm eff root _ (k + 1)).1 g <= _
   rw [h1]
   unfold runS at ih
   omega
  ·rw [Bool.not_eq_true] at ho
   rw [ho] at h1
   rw [if_neg (by simp)] at h1
   show swT t hs g <= swT t (shrS t z lm eff root _ (k + 1)).1 g /\ swT t (shrS t z lm eff root _ (k + 1)).1 g <= _
   rw [h1,Int.add_zero]
   exact ih
theorem keeps (h : TreeOk t) (hr : InN t.nodes root) (he : EffOk t root eff) {out low : Bool} {s s' : ShSt} {a : List (Int × Int)} (hS : StepS t (partsS t z lm eff out low s.1) root out low s s' a) (h0 : HgOk t.nodes z s.1) (h1 : HgOk t.nodes z s'.1) {e : Pr} (hem : e ∈ eff) : usedF t (cntS s'.1) e.group <= usedF t (cntS s.1) e.group /\ min (usedF t (cntS s.1) e.group) (prS low e) <= usedF t (cntS s'.1) e.group:=by
 have hs : e.group ∈ subA t root:=(effOk_mem h hr he e.group).1 (lmm.2 ⟨e,hem,rfl⟩)
 have hg:=subA_in h hr hs
 have h2:=hS.rnd.sub _ hs
 have h3:=(cap_le h (l:=partsS t z lm eff out low s.1) hg).2
 obtain ⟨e',hem',hge,hp⟩:=partOf_prt (t:=t) (hs:=s.1) (z:=z) (l:=lm) (own:=ownS out) (pr:=prS low) (out:=out) ((effOk_mem h hr he e.group).2 hs)
 have hee : e' = e:=by
  have hnd : (eff.map (·.group)).Nodup:=by
   rw [he.groups]
   obtain ⟨i,n,hn,hne⟩:=hr
   rw [(msort_perm _).nodup_iff,<- hne,subT_some h hn]
   exact subF_nodup h hn
  exact eff_inj hnd hem' hem hge
 subst hee
 rw [hp] at h3
 have h4:=usedF_step hS h0 h1 hg
 have h5:=taken_nonneg hS.rnd e'.group
 simp only [prtS] at h3
 omega
where
 eff_inj : ∀ {l : List Pr} {x y : Pr},(l.map (·.group)).Nodup -> x ∈ l -> y ∈ l -> x.group = y.group -> x = y
  | [],_,_,_,hx,_,_=>by simp at hx
  | w :: l,x,y,hnd,hx,hy,hxy=>by
   rw [lpc,List.nodup_cons] at hnd
   rcases lmk.1 hx with hx | hx
   ·rcases lmk.1 hy with hy | hy
    .rw [hx,hy]
    .exact absurd (lmm.2 ⟨y,hy,by rw [<- hxy,hx]⟩) hnd.1
   ·rcases lmk.1 hy with hy | hy
    .exact absurd (lmm.2 ⟨x,hx,by rw [hxy,hy]⟩) hnd.1
    .exact eff_inj hnd.2 hx hy hxy
end
structure LePt (x y : Pt) : Prop where
 usage : x.usage <= y.usage
 prot : y.protect <= x.protect
 own : x.own <= y.own
 room : x.room <= y.room
theorem capF_le {x y : Pt} (h : LePt x y) {a b : Int} (hab : a <= b) : capF x a <= capF y b:=by
 have h1:=h.usage
 have h2:=h.prot
 have h3:=h.own
 have h4:=h.room
 unfold capF
 omega
theorem capR_le {t : Tr} {p q : List Pt} (h : TreeOk t) {root : Int} (hr : InN t.nodes root) (hle : ∀ g ∈ subA t root,LePt (partOf p g) (partOf q g)) : ∀ (k i : Nat) (n : Nd),t.nodes[i]? = some n -> t.nodes.length <= i + k -> n.id ∈ subA t root -> capR t p n.id <= capR t q n.id:=by
 intro k
 induction k with
 | zero=>intro i n hn hk; have:=(lgs.1 hn).1; omega
 | succ k ih =>
  intro i n hn hk hs
  have hin : InN t.nodes n.id:=⟨i,n,hn,rfl⟩
  rw [capR_step h _ hin,capR_step h _ hin]
  refine capF_le (hle _ hs) (sumI_le fun c hc=>?_)
  have hcs:=subA_sub h hr hs (kid_sub h hin hc)
  obtain ⟨j,m,hj,hp,rfl⟩:=mem_kidsN.1 hc
  have hij:=h.kid hn hj hp
  exact ih j m hj (by omega) hcs
where
 sumI_le : ∀ {ks : List Int} {f g : Int -> Int},(∀ c ∈ ks,f c <= g c) -> sumI (ks.map f) <= sumI (ks.map g)
  | [],_,_,_=>Int.le_refl _
  | c :: ks,f,g,h=>by
   have h1:=h c (by simp)
   have h2:=sumI_le (ks:=ks) (f:=f) (g:=g) fun d hd=>h d (by simp [hd])
   simp only [lpc,sumI]
   omega
theorem taken_up {t : Tr} (h : TreeOk t) {g c : Int} (hg : InN t.nodes g) (hc : c ∈ ancR t g) {a : List (Int × Int)} (ha : ∀ q ∈ a,0 <= q.2 /\ InN t.nodes q.1) : takenP t a g <= takenP t a c:=by
 induction a with
 | nil=>exact Int.le_refl _
 | cons q a ih =>
  have i1:=ih fun r hr=>ha r (by simp [hr])
  obtain ⟨h1,j,m,hm,he⟩:=ha q (by simp)
  obtain ⟨i,n,hn,hne⟩:=hg
  show (if g ∈ ancR t q.1 then q.2 else 0) + takenP t a g <= (if c ∈ ancR t q.1 then q.2 else 0) + takenP t a c
  by_cases h2 : g ∈ ancR t q.1
  ·have h3 : c ∈ ancR t q.1:=by
    rw [<- he,ancR_anc h hm] at h2 ⊢
    rw [<- hne] at h2
    rw [<- hne,ancR_anc h hn] at hc
    exact anc_trans h j m hm i n hn h2 c hc
   rw [if_pos h2,if_pos h3]
   omega
  ·rw [if_neg h2]
   split <;> omega
theorem leftS_down (W W' : Int -> Int) (l : List Ch) (T : Int) : ∀ (gs : List Int) (a a' : Int),(∀ g ∈ gs,W g + T <= W' g) -> a' <= a - T -> leftS W' l gs a' <= leftS W l gs a - T
 | [],a,a',_,h=>h
 | g :: gs,a,a',hW,h=>by
  have:=hW g (by simp)
  exact leftS_down W W' l T gs _ _ (fun x hx=>hW x (by simp [hx])) (by omega)
theorem roomS_down {t : Tr} (h : TreeOk t) {hs hs' : List Hg} {z : Int} {l : List Ch} {g T : Int} (hg : InN t.nodes g) (hT : 0 <= T) (hW : ∀ c ∈ ancR t g,swT t hs c + T <= swT t hs' c) : roomS t hs' z l g <= max 0 (roomS t hs z l g - T):=by
 have h1 : (1 : Int) ∈ ancR t g:=by
  obtain ⟨i,n,hn,rfl⟩:=hg
  rw [ancR_anc h hn]
  exact root_anc h i n hn
 have h2:=leftS_down (swT t hs) (swT t hs') l T (ancF t.nodes t.nodes.length g) (z - swT t hs 1) (z - swT t hs' 1) (fun c hc=>hW c (by rw [ancR_in h hg]; exact hc)) (by have:=hW 1 h1; omega)
 unfold roomS
 omega
section
variable {t : Tr} {root z n : Int} {lm : List Ch} {eff : List Pr} {hs : List Hg}
theorem prt_at (h : TreeOk t) (hr : InN t.nodes root) (he : EffOk t root eff) {g : Int} (hg : g ∈ subA t root) (out low : Bool) (hs : List Hg) : (partOf (partsS t z lm eff out low hs) g).usage = usedF t (cntS hs) g /\ (partOf (partsS t z lm eff out low hs) g).own = ownS out (getS hs g) /\ (partOf (partsS t z lm eff out low hs) g).room = (if out then roomS t hs z lm g else 4611686018427387904) /\ (partOf (partsS t z lm eff out low hs) g).group = g:=by
 obtain ⟨e,hem,hge,hp⟩:=partOf_prt (t:=t) (hs:=hs) (z:=z) (l:=lm) (own:=ownS out) (pr:=prS low) (out:=out) ((effOk_mem h hr he g).2 hg)
 rw [hp,<- hge]
 exact ⟨rfl,rfl,rfl,rfl⟩
theorem prt_prot (h : TreeOk t) (hr : InN t.nodes root) (he : EffOk t root eff) {g : Int} (hg : g ∈ subA t root) (out out' low : Bool) (hs hs' : List Hg) : (partOf (partsS t z lm eff out low hs) g).protect = (partOf (partsS t z lm eff out' low hs') g).protect:=by
 have key : ∀ {eff : List Pr},g ∈ eff.map (·.group) -> (partOf (partsS t z lm eff out low hs) g).protect = (partOf (partsS t z lm eff out' low hs') g).protect:=by
  intro eff
  induction eff with
  | nil=>intro hx; simp at hx
  | cons e eff ih =>
   intro hx
   unfold partOf at ih ⊢
   simp only [partsS,lpc,List.find?_cons] at ih ⊢
   by_cases hge : e.group = g
   ·have e1 : decide ((prtS t hs z lm (ownS out) (prS low) out e).group = g) = true:=decide_eq_true hge
    have e2 : decide ((prtS t hs' z lm (ownS out') (prS low) out' e).group = g) = true:=decide_eq_true hge
    rw [e1,e2]
    rfl
   ·have e1 : decide ((prtS t hs z lm (ownS out) (prS low) out e).group = g) = false:=decide_eq_false hge
    have e2 : decide ((prtS t hs' z lm (ownS out') (prS low) out' e).group = g) = false:=decide_eq_false hge
    rw [e1,e2]
    exact ih (by simpa [Ne.symm hge,eq_comm,hge] using hx)
 exact key ((effOk_mem h hr he g).2 hg)
theorem parts_down (h : TreeOk t) (hr : InN t.nodes root) (he : EffOk t root eff) {l : List Pt} {out low : Bool} {s s' : ShSt} {a : List (Int × Int)} (hS : StepS t l root out low s s' a) (h0 : HgOk t.nodes z s.1) (h1 : HgOk t.nodes z s'.1) (o2 l2 : Bool) {g : Int} (hg : g ∈ subA t root) : LePt (partOf (partsS t z lm eff o2 l2 s'.1) g) (partOf (partsS t z lm eff o2 l2 s.1) g):=by
 have hin:=subA_in h hr hg
 obtain ⟨a1,a2,a3,_⟩:=prt_at (z:=z) (lm:=lm) h hr he hg o2 l2 s.1
 obtain ⟨b1,b2,b3,_⟩:=prt_at (z:=z) (lm:=lm) h hr he hg o2 l2 s'.1
 have hu:=usedF_step hS h0 h1 hin
 have ht:=taken_nonneg hS.rnd g
 have hnn:=hS.non g
 refine ⟨?_,?_,?_,?_⟩
 ·rw [a1,b1]
  omega
 ·rw [prt_prot h hr he hg o2 o2 l2 s.1 s'.1]
  exact Int.le_refl _
 ·rw [a2,b2,hS.get]
  unfold ownS takeH
  cases out <;> cases o2 <;> simp <;> omega
 ·rw [a3,b3]
  cases o2 with
  | false=>exact Int.le_refl _
  | true =>
   simp only [if_true]
   have h2:=roomS_down (z:=z) (l:=lm) h hin (Int.le_refl 0) (hs:=s.1) (hs':=s'.1) fun c hc=>by
    have hci : InN t.nodes c:=by
     obtain ⟨i,n,hn,rfl⟩:=hin
     exact anc_in h i n hn hc
    rw [swT_step hS hci]
    have:=taken_nonneg hS.rnd c
    split <;> omega
   have h3:=(roomS_bound h h0 lm g).1
   omega
where
 anc_in {t : Tr} (h : TreeOk t) : ∀ (i : Nat) (n : Nd),t.nodes[i]? = some n -> ∀ {c : Int},c ∈ ancR t n.id -> InN t.nodes c:=by
  intro i
  induction i using Nat.strongRecOn with
  | _ i ih =>
   intro n hn c hc
   rw [ancR_anc h hn] at hc
   rcases (anc_iff h hn c).1 hc with h1 | ⟨hi,h1⟩
   ·exact ⟨i,n,hn,h1.symm⟩
   ·rcases h.nodeAt hn with ⟨h3,_⟩ | ⟨_,_,j,p,hj,hp,he⟩
    ·exact absurd h3 hi
    ·rw [<- he,<- ancR_anc h hp] at h1
     exact ih j (by omega) p hp h1
theorem parts_gone (h : TreeOk t) (hr : InN t.nodes root) (he : EffOk t root eff) {out low : Bool} {s s' : ShSt} {a : List (Int × Int)} (hS : StepS t (partsS t z lm eff out low s.1) root out low s s' a) (h0 : HgOk t.nodes z s.1) (h1 : HgOk t.nodes z s'.1) (hc : capR t (partsS t z lm eff out low s.1) root <= s.2.2) : capR t (partsS t z lm eff out low s'.1) root <= 0:=by
 have hR : RoundOk t (partsS t z lm eff out low s.1) root (capR t (partsS t z lm eff out low s.1) root) a:=by
  have:=hS.rnd
  rwa [show min s.2.2 (capR t (partsS t z lm eff out low s.1) root) = capR t (partsS t z lm eff out low s.1) root by omega] at this
 have hz:=left_zero hS.parts hR
 rw [CapP,if_pos ((validP_iff t _ _).2 (left_ok hS.parts hR))] at hz
 have hz' : capR t ((partsS t z lm eff out low s.1).map (leftPt t a)) root = 0:=congrArg Prod.fst hz
 rw [← hz']
 obtain ⟨i,m,hm,hme⟩:=hr
 have hr : InN t.nodes root:=⟨i,m,hm,hme⟩
 have hself:=subA_self h hr
 rw [← hme] at hself
 have hrt:=hr
 rw [← hme] at hrt
 have hle : ∀ g ∈ subA t root,LePt (partOf (partsS t z lm eff out low s'.1) g) (partOf ((partsS t z lm eff out low s.1).map (leftPt t a)) g):=fun g hg=>by
  have hin:=subA_in h hr hg
  rw [partOf_map (F:=leftPt t a) (fun _=>rfl) (has_part hS.parts hg)]
  obtain ⟨a1,a2,a3,a4⟩:=prt_at (z:=z) (lm:=lm) h hr he hg out low s.1
  obtain ⟨b1,b2,b3,_⟩:=prt_at (z:=z) (lm:=lm) h hr he hg out low s'.1
  have hu:=usedF_step hS h0 h1 hin
  have ht:=taken_nonneg hS.rnd g
  refine ⟨?_,?_,?_,?_⟩
  ·show _ <= max 0 ((partOf (partsS t z lm eff out low s.1) g).usage - takenP t a (partOf (partsS t z lm eff out low s.1) g).group)
   rw [a4,a1,b1]
   omega
  ·show (partOf (partsS t z lm eff out low s.1) g).protect <= _
   rw [prt_prot h hr he hg out out low s.1 s'.1]
   exact Int.le_refl _
  ·show _ <= (partOf (partsS t z lm eff out low s.1) g).own - sumOn [(partOf (partsS t z lm eff out low s.1) g).group] a
   rw [a4,a2,b2,hS.get]
   unfold ownS takeH
   cases out <;> simp
  ·show _ <= if (partOf (partsS t z lm eff out low s.1) g).room = 4611686018427387904 then (partOf (partsS t z lm eff out low s.1) g).room else max 0 ((partOf (partsS t z lm eff out low s.1) g).room - takenP t a (partOf (partsS t z lm eff out low s.1) g).group)
   rw [a4,a3,b3]
   cases out with
   | false=>simp
   | true =>
    simp only [if_true]
    have h2:=roomS_down (z:=z) (l:=lm) h hin ht (hs:=s.1) (hs':=s'.1) fun c hc=>by
     have hci : InN t.nodes c:=by
      obtain ⟨i,n,hn,rfl⟩:=hin
      exact parts_down.anc_in h i n hn hc
     rw [swT_step hS hci,if_pos rfl]
     have:=taken_up h hin hc (a:=a) fun q hq=>⟨by have:=(hS.rnd.pos q hq).1; omega,subA_in h hr (hS.rnd.groups q hq)⟩
     omega
    have h3:=(roomS_bound h h0 lm g).1
    split <;> omega
 have:=capR_le h hr hle t.nodes.length i m hm (by omega) (by rw [hme]; exact subA_self h hr)
 rw [hme] at this
 exact this
theorem cap_down (h : TreeOk t) (hr : InN t.nodes root) (he : EffOk t root eff) {l : List Pt} {out low : Bool} {s s' : ShSt} {a : List (Int × Int)} (hS : StepS t l root out low s s' a) (h0 : HgOk t.nodes z s.1) (h1 : HgOk t.nodes z s'.1) (o2 l2 : Bool) : capR t (partsS t z lm eff o2 l2 s'.1) root <= capR t (partsS t z lm eff o2 l2 s.1) root:=by
 obtain ⟨i,m,hm,hme⟩:=hr
 have hr : InN t.nodes root:=⟨i,m,hm,hme⟩
 have:=capR_le h hr (fun g hg=>parts_down (lm:=lm) h hr he hS h0 h1 o2 l2 hg) t.nodes.length i m hm (by omega) (by rw [hme]; exact subA_self h hr)
 rw [hme] at this
 exact this
end
abbrev effP (t : Tr) (sw : Stk) (p : List Pr) (root : Int) : List Pr:=effL t (cntS sw.hs) p root
abbrev endS (t : Tr) (sw : Stk) (p : List Pr) (l : List Ch) (root n : Int) (k : Nat) : ShSt:=runS t sw.size l (effP t sw p root) root sw.hs n k
theorem TrialOk.eff {t : Tr} {sw : Stk} {p : List Pr} {l : List Ch} {root : Int} (h : TrialOk t sw p l root) : EffOk t root (effP t sw p root):=effL_ok h.stk.tree (cntS_ok h.stk.hs) h.pr root
theorem shrinkS_eq {t : Tr} {sw : Stk} {p : List Pr} {l : List Ch} {root n : Int} (h : TrialOk t sw p l root) (hn0 : 0 <= n) (hn : n <= 16777216) : ShrinkS t sw p l root n = (⟨(endS t sw p l root n 4).1,sw.size⟩,outL (endS t sw p l root n 4).2.1 (effP t sw p root),0):=by
 have h1 : validS t sw = true:=(validS_iff t sw).2 h.stk
 have h2 : validPr t p = true:=(validPr_iff t p).2 ⟨h.stk.tree,h.pr⟩
 have h3 : validLK t l = true:=(validLK_iff t l).2 ⟨h.stk.tree,h.lim⟩
 have h4 : (findN t.nodes root).isSome = true:=by
  obtain ⟨i,m,hm,rfl⟩:=h.root
  rw [findN_unique h.stk.tree.inc hm]
  rfl
 unfold ShrinkS
 rw [if_pos (by rw [h1,h2,h3]; rfl),if_pos h4,if_pos (by simp [pagesB,hn0,hn])]
theorem eff_len {t : Tr} (h : TreeOk t) {root : Int} (hr : InN t.nodes root) {eff : List Pr} (he : EffOk t root eff) : eff.length <= t.nodes.length:=by
 have h1:=nodup_length_le (eff.map (·.group)) (t.nodes.map (·.id)) (by
  rw [he.groups]
  obtain ⟨i,n,hn,hne⟩:=hr
  rw [(msort_perm _).nodup_iff,<- hne,subT_some h hn]
  exact subF_nodup h hn) fun x hx=>by
   obtain ⟨i,m,hm,hme⟩:=subA_in h hr ((effOk_mem h hr he x).1 hx)
   exact lmm.2 ⟨m,lmg hm,hme⟩
 simpa using h1
theorem limits_ok {t : Tr} {sw : Stk} {p : List Pr} {l : List Ch} {root n : Int} (h : TrialOk t sw p l root) (hn0 : 0 <= n) (hn : n <= 16777216) : StkOk t ⟨(endS t sw p l root n 4).1,sw.size⟩ /\ ∀ id,InN t.nodes id -> swT t sw.hs id <= swT t (endS t sw p l root n 4).1 id /\ swT t (endS t sw p l root n 4).1 id <= max (swT t sw.hs id) (mostK l id):=by
 have hT:=h.stk.tree
 have hr:=h.root
 have he:=h.eff
 have hz : inPg sw.size:=⟨h.stk.z0,h.stk.z1⟩
 have hO:=shr_ok hT hr hz hn l he (shr0_ok h.stk.hs hn0) 4
 exact ⟨⟨hT,hz.1,hz.2,hO.hs⟩,fun id hid=>swT_shr hT hr hz hn0 hn l he h.stk.hs hid 4⟩
theorem capR_nonneg {t : Tr} {l : List Pt} (hp : ∀ x ∈ l,PtOk x) (g : Int) : 0 <= capR t l g:=(capN_bound (ns:=t.nodes) hp t.nodes.length g).1
section
variable {t : Tr} {sw : Stk} {p : List Pr} {l : List Ch} {root n : Int}
theorem end_step (h : TrialOk t sw p l root) (hn0 : 0 <= n) (hn : n <= 16777216) (k : Nat) : StepS t (partsS t sw.size l (effP t sw p root) (outR k) (lowR k) (endS t sw p l root n k).1) root (outR k) (lowR k) (endS t sw p l root n k) (endS t sw p l root n (k + 1)) (takesS t sw.size l (effP t sw p root) root (outR k) (lowR k) (endS t sw p l root n k)):=shr_step h.stk.tree h.root ⟨h.stk.z0,h.stk.z1⟩ hn l h.eff (shr0_ok h.stk.hs hn0) k
theorem end_ok (h : TrialOk t sw p l root) (hn0 : 0 <= n) (hn : n <= 16777216) (k : Nat) : ShOk t sw.size n (endS t sw p l root n k):=shr_ok h.stk.tree h.root ⟨h.stk.z0,h.stk.z1⟩ hn l h.eff (shr0_ok h.stk.hs hn0) k
theorem end_noted (h : TrialOk t sw p l root) (hn0 : 0 <= n) (hn : n <= 16777216) (k : Nat) : Noted t root sw.hs n (endS t sw p l root n k):=shr_noted h.stk.tree h.root ⟨h.stk.z0,h.stk.z1⟩ hn0 hn l h.eff h.stk.hs k
theorem told_sum (h : TrialOk t sw p l root) (hn0 : 0 <= n) (hn : n <= 16777216) (F : Sh -> Int) (hF : F zeroSh = 0) : sumI ((outL (endS t sw p l root n 4).2.1 (effP t sw p root)).map F) = sumI ((msort (subT t root)).map fun x=>F ((endS t sw p l root n 4).2.1 x)):=by
 have hO:=end_ok h hn0 hn 4
 have hT:=h.stk.tree
 unfold outL
 rw [List.map_filter_sum F hO hT h.root h.eff hF]
where
 List.map_filter_sum (F : Sh -> Int) {s : ShSt} (hO : ShOk t sw.size n s) (hT : TreeOk t) (hr : InN t.nodes root) {eff : List Pr} (he : EffOk t root eff) (hF : F zeroSh = 0) : sumI (((eff.map fun e=>s.2.1 e.group).filter fun k=>decide (k.group ≠ 0)).map F) = sumI ((msort (subT t root)).map fun x=>F (s.2.1 x)):=by
  rw [<- he.groups,List.map_map]
  have hg : ∀ e ∈ eff,e.group ≠ 0:=fun e hem=>by
   obtain ⟨i,m,hm,hme⟩:=subA_in hT hr ((effOk_mem hT hr he e.group).1 (lmm.2 ⟨e,hem,rfl⟩))
   have:=hT.pos m (lmg hm)
   omega
  clear he
  induction eff with
  | nil=>rfl
  | cons e eff ih =>
   have ih:=ih fun x hx=>hg x (by simp [hx])
   have h1:=hg e (by simp)
   rw [lpc,lpc]
   rcases hO.grp e.group with h2 | h2
   ·rw [List.filter_cons_of_neg (by simp [h2]),ih,sumI]
    show _ = F (s.2.1 e.group) + _
    rw [h2,hF]
    omega
   ·rw [List.filter_cons_of_pos (by simp [h2,h1]),lpc,sumI,ih]
    rfl
theorem told_pages (h : TrialOk t sw p l root) (hn0 : 0 <= n) (hn : n <= 16777216) : sumI ((outL (endS t sw p l root n 4).2.1 (effP t sw p root)).map fun k=>k.file + k.anon) = n - (endS t sw p l root n 4).2.2:=by
 rw [told_sum h hn0 hn (fun k=>k.file + k.anon) rfl]
 obtain ⟨i,m,hm,hme⟩:=h.root
 refine (end_noted h hn0 hn 4).sum _ ?_ fun x hx=>?_
 ·rw [(msort_perm _).nodup_iff,<- hme,subT_some h.stk.tree hm]
  exact subF_nodup h.stk.tree hm
 ·rw [(msort_perm _).mem_iff,<- hme,subT_some h.stk.tree hm,hme]
  exact hx
theorem enough_ok (h : TrialOk t sw p l root) (hn0 : 0 <= n) (hn : n <= 16777216) (hs : sumI ((outL (endS t sw p l root n 4).2.1 (effP t sw p root)).map fun k=>k.file + k.anon) ≠ n) (out : Bool) : PartsOk t (partsS t sw.size l (effP t sw p root) out true (endS t sw p l root n 4).1) root /\ capR t (partsS t sw.size l (effP t sw p root) out true (endS t sw p l root n 4).1) root = 0:=by
 have hT:=h.stk.tree
 have hr:=h.root
 have hE:=h.eff
 have hP:=(round_S hT hr ⟨h.stk.z0,h.stk.z1⟩ hn l hE out true (end_ok h hn0 hn 4)).1
 have hO:=fun k=>(end_ok h hn0 hn k)
 have hS2:=end_step h hn0 hn 2
 have hS3:=end_step h hn0 hn 3
 rw [told_pages h hn0 hn] at hs
 have l2:=hS2.left
 have l3:=hS3.left
 rw [hS2.sum] at l2
 rw [hS3.sum] at l3
 have p4:=(hO 4).left
 have p3:=(hO 3).left
 have hcb : 0 <= capR t (partsS t sw.size l (effP t sw p root) out true (endS t sw p l root n 4).1) root:=capR_nonneg (t:=t) hP.ok root
 refine ⟨hP,?_⟩
 simp only [show outR 2 = false from rfl,show outR 3 = true from rfl,show lowR 2 = true from rfl,show lowR 3 = true from rfl,rA] at l2 l3 hS2 hS3
 have c2:=capR_nonneg (t:=t) hS2.parts.ok root
 have c3:=capR_nonneg (t:=t) hS3.parts.ok root
 cases out with
 | true =>
  have:=parts_gone hT hr hE hS3 (hO 3).hs (hO 4).hs (by omega)
  omega
 | false =>
  have h1:=parts_gone hT hr hE hS2 (hO 2).hs (hO 3).hs (by omega)
  have h2:=cap_down (lm:=l) hT hr hE hS3 (hO 3).hs (hO 4).hs false true
  omega
end
structure Mc where
 group : Int
 least : Int
 low : Int
 high : Int
 most : Int
 swap : Int
 tog : Bool
 deriving DecidableEq
def getM : List Mc -> Int -> Mc
 | [],id=>⟨id,0,0,4611686018427387904,4611686018427387904,4611686018427387904,false⟩
 | m :: l,id=>if m.group = id then m else getM l id
def mostM (l : List Mc) (id : Int) : Int:=if id = 1 then min (getM l id).most 16777216 else (getM l id).most
def prsM (l : List Mc) : List Pr:=(l.filter fun m=>!(decide (m.least = 0) && decide (m.low = 0))).map fun m=>⟨m.group,m.least,m.low⟩
def chsM (l : List Mc) : List Ch:=(l.filter fun m=>!decide (m.swap = 4611686018427387904)).map fun m=>⟨m.group,m.swap⟩
def amtM (n : Int) : Bool:=(decide (0 <= n) && decide (n <= 1099511627776)) || decide (n = 4611686018427387904)
theorem amtM_bound {n : Int} (h : amtM n = true) : 0 <= n /\ n <= 4611686018427387904:=by
 simp only [amtM,bot,bat,decide_eq_true_eq] at h
 omega
structure McOk (ns : List Nd) (l : List Mc) : Prop where
 known : ∀ m ∈ l,(findN ns m.group).isSome = true
 inc : l.Pairwise fun a b=>a.group < b.group
 amt : ∀ m ∈ l,amtM m.least = true /\ amtM m.low = true /\ amtM m.high = true /\ amtM m.most = true /\ amtM m.swap = true
theorem prsM_ok {ns : List Nd} {l : List Mc} (h : McOk ns l) : PrOk ns (prsM l):=by
 refine ⟨fun c hc=>?_,?_,fun c hc=>?_,fun c hc=>?_⟩
 ·obtain ⟨m,hm,rfl⟩:=lmm.1 hc
  exact h.known m (List.mem_filter.1 hm).1
 ·unfold prsM
  rw [List.pairwise_map]
  exact h.inc.sublist List.filter_sublist
 ·obtain ⟨m,hm,rfl⟩:=lmm.1 hc
  exact amtM_bound (h.amt m (List.mem_filter.1 hm).1).1
 ·obtain ⟨m,hm,rfl⟩:=lmm.1 hc
  exact amtM_bound (h.amt m (List.mem_filter.1 hm).1).2.1
theorem chsM_ok {ns : List Nd} {l : List Mc} (h : McOk ns l) : AscOk (knownN ns) 0 4611686018427387904 (chsM l):=by
 refine ⟨fun c hc=>?_,?_,fun c hc=>?_⟩
 ·obtain ⟨m,hm,rfl⟩:=lmm.1 hc
  exact h.known m (List.mem_filter.1 hm).1
 ·unfold chsM
  rw [List.pairwise_map]
  exact h.inc.sublist List.filter_sublist
 ·obtain ⟨m,hm,rfl⟩:=lmm.1 hc
  exact amtM_bound (h.amt m (List.mem_filter.1 hm).1).2.2.2.2
theorem getM_amt {ns : List Nd} {l : List Mc} (h : McOk ns l) (id : Int) : amtM (getM l id).high = true /\ amtM (getM l id).most = true:=by
 have h1:=h.amt
 clear h
 induction l with
 | nil=>exact ⟨rfl,rfl⟩
 | cons m l ih =>
  unfold getM
  split
  .exact ⟨(h1 m (by simp)).2.2.1,(h1 m (by simp)).2.2.2.1⟩
  .exact ih fun x hx=>h1 x (by simp [hx])
def sumT (f : Sh -> Int) (a : List Sh) (id : Int) : Int:=sumI (a.map fun y=>if y.group = id then f y else 0)
theorem sumT_append (f : Sh -> Int) (a b : List Sh) (id : Int) : sumT f (a ++ b) id = sumT f a id + sumT f b id:=by
 unfold sumT
 rw [lma,sumI_append]
theorem sumT_nonneg {f : Sh -> Int} {a : List Sh} (h : ∀ y ∈ a,0 <= f y) (id : Int) : 0 <= sumT f a id:=sumI_map_nonneg _ fun y hy=>by
 split
 .exact h y hy
 .exact Int.le_refl _
def Acc (s0 : List Hg) (a : List Sh) (s : List Hg) : Prop:=∀ id,getS s id = ⟨id,(getS s0 id).file - sumT (·.file) a id,(getS s0 id).anon - sumT (·.anon) a id,(getS s0 id).swap + sumT (·.anon) a id⟩
theorem acc_nil (s : List Hg) : Acc s [] s:=fun id=>by
 have hg:=getS_group s id
 revert hg
 generalize getS s id = y
 intro hg
 subst hg
 simp [sumT,sumI]
theorem Acc.trans {s0 s1 s2 : List Hg} {a b : List Sh} (h : Acc s0 a s1) (h' : Acc s1 b s2) : Acc s0 (a ++ b) s2:=fun id=>by
 rw [h' id,h id,sumT_append,sumT_append]
 simp only [Hg.mk.injEq,true_and]
 omega
theorem outL_sumT {f : Int -> Sh} (hg : ∀ x,f x = zeroSh \/ (f x).group = x) (F : Sh -> Int) (hF : F zeroSh = 0) {id : Int} (h0 : id ≠ 0) : ∀ {eff : List Pr},(eff.map (·.group)).Nodup -> (id ∉ eff.map (·.group) -> F (f id) = 0) -> sumT F (outL f eff) id = F (f id)
 | [],_,ho=>by
  rw [ho (by simp)]
  rfl
 | e :: eff,hnd,ho=>by
  rw [lpc,List.nodup_cons] at hnd
  have key : sumT F (outL f (e :: eff)) id = (if e.group = id then F (f id) else 0) + sumT F (outL f eff) id:=by
   have e1 : outL f (e :: eff) = (if (f e.group).group ≠ 0 then [f e.group] else []) ++ outL f eff:=by
    unfold outL
    rw [lpc]
    by_cases hz : (f e.group).group ≠ 0
    ·rw [List.filter_cons_of_pos (by simpa using hz),if_pos hz]
     rfl
    ·rw [List.filter_cons_of_neg (by simpa using hz),if_neg hz]
     rfl
   rw [e1,sumT_append]
   congr 1
   rcases hg e.group with h1 | h1
   ·rw [h1,if_neg (by simp)]
    by_cases he : e.group = id
    ·rw [if_pos he,<- he,h1,hF]
     rfl
    ·rw [if_neg he]
     rfl
   ·by_cases he : e.group = id
    ·rw [if_pos he,if_pos (by rw [h1,he]; exact h0),<- he]
     simp [sumT,sumI,h1]
    ·rw [if_neg he]
     split
     .simp [sumT,sumI,h1,he]
     .rfl
  rw [key]
  by_cases he : e.group = id
  ·rw [if_pos he]
   have hno : id ∉ eff.map (·.group):=he ▸ hnd.1
   have : sumT F (outL f eff) id = 0:=by
    unfold sumT
    refine (congrArg sumI (List.map_congr_left (g:=fun _=>(0 : Int)) fun y hy=>?_)).trans ?_
    ·have:=(outL_mem hg hy).1
     rw [if_neg]
     intro hy2
     exact hno (hy2 ▸ this)
    ·clear key ho hno he hnd
     induction outL f eff with
     | nil=>rfl
     | cons y l ih=>rw [lpc,sumI,ih]; rfl
   omega
  ·rw [if_neg he]
   have:=outL_sumT hg F hF h0 hnd.2 fun hx=>ho (by simp [hx,Ne.symm he])
   omega
structure ShkOk (t : Tr) (s : Stk) (root n : Int) (x : Stk) (a : List Sh) : Prop where
 stk : StkOk t x
 size : x.size = s.size
 use : ∀ g,InN t.nodes g -> usedF t (cntS x.hs) g <= usedF t (cntS s.hs) g
 acc : Acc s.hs a x.hs
 pos : ∀ y ∈ a,0 <= y.file /\ 0 <= y.anon
 in_ : ∀ y ∈ a,y.group ∈ subA t root
 len : a.length <= 64
theorem eff_nodup {t : Tr} (h : TreeOk t) {root : Int} (hr : InN t.nodes root) {eff : List Pr} (he : EffOk t root eff) : (eff.map (·.group)).Nodup:=by
 rw [he.groups]
 obtain ⟨i,n,hn,hne⟩:=hr
 rw [(msort_perm _).nodup_iff,<- hne,subT_some h hn]
 exact subF_nodup h hn
theorem use_of_acc {t : Tr} (hT : TreeOk t) {z z' : Int} {s0 s : List Hg} {a : List Sh} (h : Acc s0 a s) (hp : ∀ y ∈ a,0 <= y.file /\ 0 <= y.anon) (h0 : HgOk t.nodes z s0) (h1 : HgOk t.nodes z' s) {g : Int} (hg : InN t.nodes g) : usedF t (cntS s) g <= usedF t (cntS s0) g:=by
 have hf : (findN t.nodes g).isSome = true:=by
  obtain ⟨i,n,hn,rfl⟩:=hg
  rw [findN_unique hT.inc hn]
  rfl
 unfold usedF
 rw [if_pos hf,if_pos hf]
 unfold tot
 refine capR_le.sumI_le fun x _=>?_
 rw [cntS_own h0.inc,cntS_own h1.inc]
 unfold memF
 rw [h x]
 have h2:=sumT_nonneg (f:=(·.file)) (fun y hy=>(hp y hy).1) x
 have h3:=sumT_nonneg (f:=(·.anon)) (fun y hy=>(hp y hy).2) x
 show _ - _ + (_ - _) <= _
 omega
theorem shk_ok {t : Tr} {sw : Stk} {p : List Pr} {l : List Ch} {root n : Int} (h : TrialOk t sw p l root) (hn0 : 0 <= n) (hn : n <= 16777216) : ShkOk t sw root n (ShrinkS t sw p l root n).1 (ShrinkS t sw p l root n).2.1 /\ (ShrinkS t sw p l root n).2.2 = 0:=by
 rw [shrinkS_eq h hn0 hn]
 refine ⟨?_,rfl⟩
 have hT:=h.stk.tree
 have hO:=end_ok h hn0 hn 4
 have hN:=end_noted h hn0 hn 4
 have hE:=h.eff
 have hst:=(limits_ok h hn0 hn).1
 have hnd:=eff_nodup hT h.root hE
 have hel:=eff_len hT h.root hE
 have hlen:=hT.len
 generalize endS t sw p l root n 4 = s at *
 generalize effP t sw p root = eff at *
 have hacc : Acc sw.hs (outL s.2.1 eff) s.1:=fun id=>by
  by_cases h0 : id = 0
  ·have e0 : ∀ F : Sh -> Int,sumT F (outL s.2.1 eff) id = 0:=fun F=>by
    unfold sumT
    refine (congrArg sumI (List.map_congr_left (g:=fun _=>(0 : Int)) fun y hy=>?_)).trans (sumI_zero_map _)
    rw [if_neg]
    intro hy2
    exact (outL_mem hO.grp hy).2.2 (hy2.trans h0)
   have hoff:=hN.off id fun hx=>by
    obtain ⟨i,m,hm,hme⟩:=subA_in hT h.root hx
    have:=hT.pos m (lmg hm)
    omega
   rw [hN.get id,e0,e0,hoff.1,hoff.2.1]
  ·have hoff : id ∉ eff.map (·.group) -> (s.2.1 id).file = 0 /\ (s.2.1 id).anon = 0:=fun hx=>by
    have:=hN.off id fun hy=>hx ((effOk_mem hT h.root hE id).2 hy)
    exact ⟨this.1,this.2.1⟩
   rw [hN.get id,outL_sumT hO.grp (·.file) rfl h0 hnd fun hx=>(hoff hx).1,outL_sumT hO.grp (·.anon) rfl h0 hnd fun hx=>(hoff hx).2]
 have hpos : ∀ y ∈ outL s.2.1 eff,0 <= y.file /\ 0 <= y.anon:=fun y hy=>by
  rw [(outL_mem hO.grp hy).2.1]
  exact ⟨(hO.file _).1,(hO.anon _).1⟩
 refine ⟨hst,rfl,fun g hg=>use_of_acc hT hacc hpos h.stk.hs hO.hs hg,hacc,hpos,fun y hy=>(effOk_mem hT h.root hE _).1 (outL_mem hO.grp hy).1,?_⟩
 have:=outL_len s.2.1 eff
 show (outL s.2.1 eff).length <= 64
 omega
where
 sumI_zero_map : ∀ (l : List Sh),sumI (l.map fun _=>(0 : Int)) = 0
  | []=>rfl
  | _ :: l=>by rw [lpc,sumI,sumI_zero_map l]; rfl
structure Gw where
 stk : Stk
 shr : List Sh
 maxes : List Int
 highs : List Int
 refused : Int
abbrev useG (t : Tr) (g : Gw) (id : Int) : Int:=usedF t (cntS g.stk.hs) id
def shrG (t : Tr) (l : List Mc) (g : Gw) (id n : Int) : Gw:=⟨(ShrinkS t g.stk (prsM l) (chsM l) id (min n 16777216)).1,g.shr ++ (ShrinkS t g.stk (prsM l) (chsM l) id (min n 16777216)).2.1,g.maxes,g.highs,g.refused⟩
def overG (t : Tr) (l : List Mc) (n : Int) (g : Gw) (a : Int) : Int:=useG t g a + n - mostM l a
def maxG (g : Gw) (a : Int) : Gw:=⟨g.stk,g.shr,g.maxes ++ [a],g.highs,g.refused⟩
def highG (g : Gw) (a : Int) : Gw:=⟨g.stk,g.shr,g.maxes,g.highs ++ [a],g.refused⟩
def refG (g : Gw) (a : Int) : Gw:=⟨g.stk,g.shr,g.maxes,g.highs,a⟩
def roomG (t : Tr) (l : List Mc) (n : Int) : List Int -> Gw -> Gw × Int
 | [],g=>(g,0)
 | a :: as_,g =>
  if 0 < overG t l n g a then
   if mostM l a < useG t (shrG t l (maxG g a) a (overG t l n g a)) a + n then (refG (shrG t l (maxG g a) a (overG t l n g a)) a,20)
   else roomG t l n as_ (shrG t l (maxG g a) a (overG t l n g a))
  else roomG t l n as_ g
def settleG (t : Tr) (l : List Mc) : List Int -> Gw -> Gw
 | [],g=>g
 | a :: as_,g =>
  if 0 < useG t g a - (getM l a).high then
   settleG t l as_ (if (getM l a).high < useG t (shrG t l g a (useG t g a - (getM l a).high)) a then highG (shrG t l g a (useG t g a - (getM l a).high)) a else shrG t l g a (useG t g a - (getM l a).high))
  else settleG t l as_ g
def putG (g : Gw) (h : Hg) : Gw:=⟨⟨putS g.stk.hs h,g.stk.size⟩,g.shr,g.maxes,g.highs,g.refused⟩
def moreH (h : Hg) (file anon : Int) : Hg:=⟨h.group,h.file + file,h.anon + anon,h.swap⟩
def growG (t : Tr) (l : List Mc) (g : Gw) (id file anon : Int) : Gw × Int :=
 if (roomG t l (file + anon) (ancR t id) g).2 = 0 then (settleG t l (ancR t id) (putG (roomG t l (file + anon) (ancR t id) g).1 (moreH (getS (roomG t l (file + anon) (ancR t id) g).1.stk.hs id) file anon)),0)
 else roomG t l (file + anon) (ancR t id) g
structure Grw (t : Tr) (g g' : Gw) : Prop where
 stk : StkOk t g'.stk
 size : g'.stk.size = g.stk.size
 shr : ∃ a,g'.shr = g.shr ++ a /\ Acc g.stk.hs a g'.stk.hs /\ ∀ y ∈ a,0 <= y.file /\ 0 <= y.anon
theorem Grw.refl {t : Tr} {g : Gw} (h : StkOk t g.stk) : Grw t g g:=⟨h,rfl,[],by simp,acc_nil _,by simp⟩
theorem Grw.trans {t : Tr} {a b c : Gw} (h : Grw t a b) (h' : Grw t b c) : Grw t a c:=by
 obtain ⟨x,hx,ax,px⟩:=h.shr
 obtain ⟨y,hy,ay,py⟩:=h'.shr
 refine ⟨h'.stk,h'.size.trans h.size,x ++ y,by rw [hy,hx,laa],ax.trans ay,fun z hz=>?_⟩
 rcases lmp.1 hz with hz | hz
 .exact px z hz
 .exact py z hz
theorem Grw.use {t : Tr} {g g' : Gw} (h : Grw t g g') (h0 : StkOk t g.stk) {id : Int} (hid : InN t.nodes id) : useG t g' id <= useG t g id:=by
 obtain ⟨a,_,ha,hp⟩:=h.shr
 exact use_of_acc h0.tree ha hp h0.hs h.stk.hs hid
theorem shrG_ok {t : Tr} {l : List Mc} {g : Gw} (hg : StkOk t g.stk) (hl : McOk t.nodes l) {a n : Int} (ha : InN t.nodes a) (hn : 0 <= n) : Grw t g (shrG t l g a n):=by
 have h:=(shk_ok (t:=t) (sw:=g.stk) (p:=prsM l) (l:=chsM l) (root:=a) (n:=min n 16777216) ⟨hg,prsM_ok hl,chsM_ok hl,ha⟩ (by omega) (by omega)).1
 exact ⟨h.stk,h.size,_,rfl,h.acc,h.pos⟩
theorem grw_max {t : Tr} {g g' : Gw} (a : Int) (h : Grw t (maxG g a) g') : Grw t g g':=⟨h.stk,h.size,h.shr⟩
theorem grw_ref {t : Tr} {g g' : Gw} (a : Int) (h : Grw t g g') : Grw t g (refG g' a):=⟨h.stk,h.size,h.shr⟩
theorem grw_high {t : Tr} {g g' : Gw} (a : Int) (h : Grw t g g') : Grw t g (highG g' a):=⟨h.stk,h.size,h.shr⟩
structure RoomG (t : Tr) (l : List Mc) (n : Int) (as_ : List Int) (g : Gw) (r : Gw × Int) : Prop where
 grw : Grw t g r.1
 highs : r.1.highs = g.highs
 err : (r.2 = 0 /\ r.1.refused = g.refused /\ ∀ a ∈ as_,useG t r.1 a + n <= mostM l a) \/ (r.2 = 20 /\ r.1.refused ∈ as_ /\ r.1.refused ∈ r.1.maxes /\ mostM l r.1.refused < useG t r.1 r.1.refused + n)
theorem roomG_ok {t : Tr} {l : List Mc} (hl : McOk t.nodes l) (n : Int) : ∀ (as_ : List Int) (g : Gw),(∀ a ∈ as_,InN t.nodes a) -> StkOk t g.stk -> RoomG t l n as_ g (roomG t l n as_ g)
 | [], g, _, hg=>⟨Grw.refl hg, rfl, .inl ⟨rfl, rfl, by simp⟩⟩
 | a :: as_,g,has,hg=>by
  have ha:=has a (by simp)
  have has' : ∀ x ∈ as_,InN t.nodes x:=fun x hx=>has x (by simp [hx])
  unfold roomG
  by_cases ho : 0 < overG t l n g a
  ·rw [if_pos ho]
   have h1 : Grw t g (shrG t l (maxG g a) a (overG t l n g a)):=grw_max a (shrG_ok (g:=maxG g a) hg hl ha (by omega))
   have e1 : (shrG t l (maxG g a) a (overG t l n g a)).maxes = g.maxes ++ [a]:=rfl
   have e2 : (shrG t l (maxG g a) a (overG t l n g a)).highs = g.highs:=rfl
   have e3 : (shrG t l (maxG g a) a (overG t l n g a)).refused = g.refused:=rfl
   generalize shrG t l (maxG g a) a (overG t l n g a) = g1 at *
   by_cases hu : mostM l a < useG t g1 a + n
   ·rw [if_pos hu]
    refine ⟨grw_ref a h1,e2,.inr ⟨rfl,?_,?_,hu⟩⟩
    ·show a ∈ a :: as_
     simp
    ·show a ∈ g1.maxes
     rw [e1]
     simp
   ·rw [if_neg hu]
    have ih:=roomG_ok hl n as_ g1 has' h1.stk
    refine ⟨h1.trans ih.grw,ih.highs.trans e2,?_⟩
    rcases ih.err with ⟨x1,x2,x3⟩ | ⟨x1,x2,x3,x4⟩
    ·refine .inl ⟨x1,x2.trans e3,fun b hb=>?_⟩
     rcases lmk.1 hb with rfl | hb
     ·have:=ih.grw.use h1.stk ha
      omega
     .exact x3 b hb
    ·exact .inr ⟨x1,lmc _ x2,x3,x4⟩
  ·rw [if_neg ho]
   have ih:=roomG_ok hl n as_ g has' hg
   refine ⟨ih.grw,ih.highs,?_⟩
   rcases ih.err with ⟨x1,x2,x3⟩ | ⟨x1,x2,x3,x4⟩
   ·refine .inl ⟨x1,x2,fun b hb=>?_⟩
    rcases lmk.1 hb with rfl | hb
    ·have:=ih.grw.use hg ha
     unfold overG at ho
     omega
    .exact x3 b hb
   .exact .inr ⟨x1,lmc _ x2,x3,x4⟩
structure SetG (t : Tr) (l : List Mc) (as_ : List Int) (g r : Gw) : Prop where
 grw : Grw t g r
 maxes : r.maxes = g.maxes
 refused : r.refused = g.refused
 highs : ∃ b,r.highs = g.highs ++ b /\ (∀ a ∈ b,a ∈ as_) /\ ∀ a ∈ as_,a ∈ b \/ useG t r a <= (getM l a).high
theorem settleG_ok {t : Tr} {l : List Mc} (hl : McOk t.nodes l) : ∀ (as_ : List Int) (g : Gw),(∀ a ∈ as_,InN t.nodes a) -> StkOk t g.stk -> SetG t l as_ g (settleG t l as_ g)
 | [], g, _, hg=>⟨Grw.refl hg, rfl, rfl, [], by simp [settleG], by simp, by simp⟩
 | a :: as_,g,has,hg=>by
  have ha:=has a (by simp)
  have has' : ∀ x ∈ as_,InN t.nodes x:=fun x hx=>has x (by simp [hx])
  unfold settleG
  by_cases ho : 0 < useG t g a - (getM l a).high
  ·rw [if_pos ho]
   have h1 : Grw t g (shrG t l g a (useG t g a - (getM l a).high)):=shrG_ok hg hl ha (by omega)
   have e1 : (shrG t l g a (useG t g a - (getM l a).high)).maxes = g.maxes:=rfl
   have e2 : (shrG t l g a (useG t g a - (getM l a).high)).highs = g.highs:=rfl
   have e3 : (shrG t l g a (useG t g a - (getM l a).high)).refused = g.refused:=rfl
   generalize shrG t l g a (useG t g a - (getM l a).high) = g1 at *
   by_cases hu : (getM l a).high < useG t g1 a
   ·rw [if_pos hu]
    have ih:=settleG_ok hl as_ (highG g1 a) has' h1.stk
    obtain ⟨b,hb1,hb2,hb3⟩:=ih.highs
    refine ⟨(grw_high a h1).trans ih.grw,ih.maxes.trans e1,ih.refused.trans e3,a :: b,?_,?_,?_⟩
    ·rw [hb1]
     show (g1.highs ++ [a]) ++ b = _
     rw [e2,laa]
     rfl
    ·intro x hx
     rcases lmk.1 hx with rfl | hx
     ·simp
     ·exact lmc _ (hb2 x hx)
    ·intro x hx
     rcases lmk.1 hx with rfl | hx
     ·exact .inl (by simp)
     ·rcases hb3 x hx with h | h
      .exact .inl (lmc _ h)
      .exact .inr h
   ·rw [if_neg hu]
    have ih:=settleG_ok hl as_ g1 has' h1.stk
    obtain ⟨b,hb1,hb2,hb3⟩:=ih.highs
    refine ⟨h1.trans ih.grw,ih.maxes.trans e1,ih.refused.trans e3,b,by rw [hb1,e2],fun x hx=>lmc _ (hb2 x hx),?_⟩
    intro x hx
    rcases lmk.1 hx with rfl | hx
    ·have:=ih.grw.use h1.stk ha
     exact .inr (by omega)
    .exact hb3 x hx
  ·rw [if_neg ho]
   have ih:=settleG_ok hl as_ g has' hg
   obtain ⟨b,hb1,hb2,hb3⟩:=ih.highs
   refine ⟨ih.grw,ih.maxes,ih.refused,b,hb1,fun x hx=>lmc _ (hb2 x hx),?_⟩
   intro x hx
   rcases lmk.1 hx with rfl | hx
   ·have:=ih.grw.use hg ha
    exact .inr (by omega)
   .exact hb3 x hx
theorem found_in {t : Tr} (h : TreeOk t) {g : Int} (hg : InN t.nodes g) : (findN t.nodes g).isSome = true:=by
 obtain ⟨i,n,hn,rfl⟩:=hg
 rw [findN_unique h.inc hn]
 rfl
theorem use_root {t : Tr} (h : TreeOk t) {z : Int} {hs : List Hg} (hh : HgOk t.nodes z hs) : usedF t (cntS hs) 1 = sumI (hs.map fun h=>h.file + h.anon):=by
 obtain ⟨r,hr,hr1⟩:=root_at h
 unfold usedF
 rw [if_pos (found_in h ⟨0,r,hr,hr1⟩),tot_root h (cntS_ok hh),cntS_sum]
theorem anc_InN {t : Tr} (h : TreeOk t) {id c : Int} (hid : InN t.nodes id) (hc : c ∈ ancR t id) : InN t.nodes c:=by
 obtain ⟨i,n,hn,rfl⟩:=hid
 exact parts_down.anc_in h i n hn hc
theorem use_put {t : Tr} (h : TreeOk t) {z z' : Int} {hs hs' : List Hg} (h0 : HgOk t.nodes z hs) (h1 : HgOk t.nodes z' hs') {id v : Int} (hid : InN t.nodes id) (hm : ∀ x,memF hs' x = if x = id then memF hs id + v else memF hs x) {k : Int} (hk : InN t.nodes k) : usedF t (cntS hs') k = usedF t (cntS hs) k + if k ∈ ancR t id then v else 0:=by
 unfold usedF
 rw [if_pos (found_in h hk),if_pos (found_in h hk)]
 obtain ⟨i,n,hn,rfl⟩:=hk
 obtain ⟨j,m,hj,rfl⟩:=hid
 have e1 : ownC (cntS hs') = fun x=>if x = m.id then memF hs m.id + v else ownC (cntS hs) x:=funext fun x=>by
  rw [cntS_own h1.inc,hm,cntS_own h0.inc]
 rw [e1,tot_upd h (ownC (cntS hs)) hn hj,cntS_own h0.inc,ancR_anc h hj]
 split <;> omega
structure GrowG (t : Tr) (l : List Mc) (id file anon : Int) (g r : Gw) : Prop where
 stk : StkOk t r.stk
 size : r.stk.size = g.stk.size
 shr : ∃ a,r.shr = g.shr ++ a /\ (∀ y ∈ a,0 <= y.file /\ 0 <= y.anon) /\ ∀ x,getS r.stk.hs x = ⟨x,(getS g.stk.hs x).file + (if x = id then file else 0) - sumT (·.file) a x,(getS g.stk.hs x).anon + (if x = id then anon else 0) - sumT (·.anon) a x,(getS g.stk.hs x).swap + sumT (·.anon) a x⟩
 refused : r.refused = g.refused
 on : ∀ k ∈ ancR t id,useG t r k <= mostM l k
 off : ∀ k,InN t.nodes k -> k ∉ ancR t id -> useG t r k <= useG t g k
 highs : ∃ b,r.highs = g.highs ++ b /\ (∀ a ∈ b,a ∈ ancR t id) /\ ∀ a ∈ ancR t id,a ∈ b \/ useG t r a <= (getM l a).high
theorem root_in_anc {t : Tr} (h : TreeOk t) {id : Int} (hid : InN t.nodes id) : (1 : Int) ∈ ancR t id:=by
 obtain ⟨i,n,hn,rfl⟩:=hid
 rw [ancR_anc h hn]
 exact root_anc h i n hn
theorem put_ok {t : Tr} {s : Stk} (hs : StkOk t s) {id file anon : Int} (hid : InN t.nodes id) (hf : 0 <= file) (ha : 0 <= anon) (hr : usedF t (cntS s.hs) 1 + (file + anon) <= 16777216) : StkOk t ⟨putS s.hs (moreH (getS s.hs id) file anon),s.size⟩ /\ inPg ((getS s.hs id).file + file) /\ inPg ((getS s.hs id).anon + anon):=by
 have hT:=hs.tree
 obtain ⟨⟨f0,f1⟩,⟨a0,a1⟩,w0⟩:=hs.hs.get id
 have hm:=hs.hs.mem
 have hg:=getS_group s.hs id
 have hle : (getS s.hs id).file + (getS s.hs id).anon <= sumI (s.hs.map fun h=>h.file + h.anon):=by
  have hnn : ∀ y ∈ s.hs.map (fun h=>h.file + h.anon),0 <= y:=fun y hy=>by
   obtain ⟨x,hx,rfl⟩:=lmm.1 hy
   have:=(hs.hs.file x hx).1
   have:=(hs.hs.anon x hx).1
   omega
  rcases getS_mem (l:=s.hs) (id:=id) with he | he
  ·rw [he]
   exact sumI_nonneg _ hnn
  .exact mem_le_sumI _ hnn (lmm.2 ⟨_,he,rfl⟩)
 rw [use_root hT hs.hs] at hr
 have b1 : inPg ((getS s.hs id).file + file):=⟨by omega,by omega⟩
 have b2 : inPg ((getS s.hs id).anon + anon):=⟨by omega,by omega⟩
 refine ⟨⟨hT,hs.z0,hs.z1,?_⟩,b1,b2⟩
 have hgm : (moreH (getS s.hs id) file anon).group = id:=hg
 refine hs.hs.put (by rw [hgm]; exact found_in hT hid) b1 b2 w0 ?_ ?_
 ·rw [hgm]
  show _ - _ + ((getS s.hs id).file + file + ((getS s.hs id).anon + anon)) <= _
  omega
 ·rw [hgm]
  show _ - _ + (getS s.hs id).swap <= _
  have:=hs.hs.out
  omega
theorem growG_ok {t : Tr} {l : List Mc} (hl : McOk t.nodes l) {g : Gw} (hg : StkOk t g.stk) {id file anon : Int} (hid : InN t.nodes id) (hf : 0 <= file) (ha : 0 <= anon) : ((growG t l g id file anon).2 = 0 /\ GrowG t l id file anon g (growG t l g id file anon).1) \/ ((growG t l g id file anon).2 = 20 /\ growG t l g id file anon = roomG t l (file + anon) (ancR t id) g /\ RoomG t l (file + anon) (ancR t id) g (growG t l g id file anon)):=by
 have hT:=hg.tree
 have hin : ∀ a ∈ ancR t id,InN t.nodes a:=fun a h=>anc_InN hT hid h
 have hR:=roomG_ok hl (file + anon) (ancR t id) g hin hg
 unfold growG
 generalize roomG t l (file + anon) (ancR t id) g = r at hR
 obtain ⟨r,e⟩:=r
 rcases hR.err with ⟨h1,h2,h3⟩ | ⟨h1,h2⟩
 ·left
  simp only at h1 h2 h3
  subst h1
  simp only [if_true]
  refine ⟨trivial,?_⟩
  have hg1 : StkOk t r.stk:=hR.grw.stk
  have h1r:=h3 1 (root_in_anc hT hid)
  have hmr : mostM l 1 <= 16777216:=by
   unfold mostM
   rw [if_pos rfl]
   omega
  obtain ⟨p1,p2,p3⟩:=put_ok hg1 hid hf ha (by
   have : usedF t (cntS r.stk.hs) 1 = useG t r 1:=rfl
   omega)
  have p1 : StkOk t (putG r (moreH (getS r.stk.hs id) file anon)).stk:=p1
  have hgm : (moreH (getS r.stk.hs id) file anon).group = id:=getS_group _ _
  have hget : ∀ x,getS (putG r (moreH (getS r.stk.hs id) file anon)).stk.hs x = if x = id then moreH (getS r.stk.hs id) file anon else getS r.stk.hs x:=fun x=>by
   show getS (putS r.stk.hs _) x = _
   rw [putS_get,hgm]
  have hS:=settleG_ok hl (ancR t id) (putG r (moreH (getS r.stk.hs id) file anon)) hin p1
  have hup : ∀ {k},InN t.nodes k -> useG t (putG r (moreH (getS r.stk.hs id) file anon)) k = useG t r k + if k ∈ ancR t id then file + anon else 0:=fun {k} hk=>use_put hT hg1.hs p1.hs hid (fun x=>by
   unfold memF
   rw [hget x]
   by_cases hx : x = id
   ·rw [if_pos hx,if_pos hx]
    show (getS r.stk.hs id).file + file + ((getS r.stk.hs id).anon + anon) = _
    omega
   ·rw [if_neg hx,if_neg hx]) hk
  have hqs : (putG r (moreH (getS r.stk.hs id) file anon)).shr = r.shr /\ (putG r (moreH (getS r.stk.hs id) file anon)).highs = r.highs /\ (putG r (moreH (getS r.stk.hs id) file anon)).refused = r.refused /\ (putG r (moreH (getS r.stk.hs id) file anon)).stk.size = r.stk.size:=⟨rfl,rfl,rfl,rfl⟩
  generalize putG r (moreH (getS r.stk.hs id) file anon) = q at *
  have hu : ∀ {k},InN t.nodes k -> useG t (settleG t l (ancR t id) q) k <= useG t q k:=fun hk=>hS.grw.use p1 hk
  obtain ⟨b,hb1,hb2,hb3⟩:=hS.highs
  obtain ⟨a1,ha1,hc1,hp1⟩:=hR.grw.shr
  obtain ⟨a2,ha2,hc2,hp2⟩:=hS.grw.shr
  obtain ⟨q1,q2,q3,q4⟩:=hqs
  refine ⟨hS.grw.stk,by rw [hS.grw.size,q4,hR.grw.size],⟨a1 ++ a2,by rw [ha2,q1,ha1,laa],fun y hy=>?_,fun x=>?_⟩,by rw [hS.refused,q3,h2],fun k hk=>?_,fun k hk hno=>?_,⟨b,by rw [hb1,q2,hR.highs],hb2,hb3⟩⟩
  ·rcases lmp.1 hy with hy | hy
   ·exact hp1 y hy
   ·exact hp2 y hy
  ·rw [hc2 x,hget x,sumT_append,sumT_append]
   have hcx:=hc1 x
   by_cases hx : x = id
   ·subst hx
    rw [if_pos rfl,if_pos rfl,if_pos rfl]
    simp only [moreH,hcx,Hg.mk.injEq,true_and]
    omega
   ·rw [if_neg hx,if_neg hx,if_neg hx,hcx]
    simp only [Hg.mk.injEq,true_and]
    omega
  ·have e1:=hup (hin k hk)
   have e2:=hu (hin k hk)
   have e3:=h3 k hk
   rw [if_pos hk] at e1
   omega
  ·have e1:=hup hk
   have e2:=hu hk
   have e3:=hR.grw.use hg hk
   rw [if_neg hno] at e1
   simp only at e3
   omega
 ·right
  simp only at h1
  have hne : ¬ (20 : Int) = 0:=by decide
  subst h1
  simp only [if_neg hne]
  exact ⟨trivial,trivial,hR⟩
def leaPicks : List Int:=[0,0,10,60]
def lowPicks : List Int:=[0,0,20,100]
def highPicks : List Int:=[0,15,60,150]
def mostPicks : List Int:=[0,8,40,90,200]
def swapPicks : List Int:=[0,5,30]
def tossV (L : List Int) (a : Nat) (n : Int) (xs : List Int) : Int:=if nextV L a n = n - 1 then pickV L (nextA L a n) xs else 4611686018427387904
def tossA (L : List Int) (a : Nat) (n : Int) (xs : List Int) : Nat:=if nextV L a n = n - 1 then nextA L (nextA L a n) xs.length else nextA L a n
def memA (L : List Int) (a : Nat) : Nat:=nextA L (nextA L a 4) 4
def memB (L : List Int) (a : Nat) : Nat:=tossA L (memA L a) 2 highPicks
def memC (L : List Int) (a : Nat) : Nat:=tossA L (memB L a) 2 mostPicks
def memE (L : List Int) (a : Nat) : Nat:=tossA L (memC L a) 3 swapPicks
def memD (L : List Int) (a : Nat) (g : Int) : Mc:=⟨g,pickV L a leaPicks,pickV L (nextA L a 4) lowPicks,tossV L (memA L a) 2 highPicks,tossV L (memB L a) 2 mostPicks,tossV L (memC L a) 3 swapPicks,decide (nextV L (memE L a) 4 = 3)⟩
def memZ (L : List Int) (a : Nat) : Nat:=nextA L (memE L a) 4
def dMems (L : List Int) : List Nd -> Nat -> List Mc × Nat
 | [],a=>([],a)
 | n :: ns,a=>if 0 < nextV L a 3 then (memD L (nextA L a 3) n.id :: (dMems L ns (memZ L (nextA L a 3))).1,(dMems L ns (memZ L (nextA L a 3))).2) else dMems L ns (nextA L a 3)
theorem amtM_pick {L : List Int} {a : Nat} {xs : List Int} (h0 : 0 < xs.length) (h : ∀ x ∈ xs,0 <= x /\ x <= 1099511627776) : amtM (pickV L a xs) = true:=by
 have:=h _ (pickV_mem L a (xs:=xs) h0)
 simp only [amtM,bot,bat,decide_eq_true_eq]
 omega
theorem amtM_toss {L : List Int} {a : Nat} {n : Int} {xs : List Int} (h0 : 0 < xs.length) (h : ∀ x ∈ xs,0 <= x /\ x <= 1099511627776) : amtM (tossV L a n xs) = true:=by
 unfold tossV
 split
 .exact amtM_pick h0 h
 .rfl
theorem memD_amt (L : List Int) (a : Nat) (g : Int) : amtM (memD L a g).least = true /\ amtM (memD L a g).low = true /\ amtM (memD L a g).high = true /\ amtM (memD L a g).most = true /\ amtM (memD L a g).swap = true :=
 ⟨amtM_pick (by decide) (by decide),amtM_pick (by decide) (by decide),amtM_toss (by decide) (by decide),amtM_toss (by decide) (by decide),amtM_toss (by decide) (by decide)⟩
theorem dMems_ok (L : List Int) {t : Tr} (h : TreeOk t) (a : Nat) : McOk t.nodes (dMems L t.nodes a).1:=by
 have key : ∀ (ns : List Nd) (a : Nat),(ns.Pairwise fun x y=>x.id < y.id) -> (∀ n ∈ ns,n ∈ t.nodes) -> McOk t.nodes (dMems L ns a).1 /\ ∀ c ∈ (dMems L ns a).1,∃ n ∈ ns,n.id = c.group:=by
  intro ns
  induction ns with
  | nil =>
   intro a _ _
   exact ⟨⟨fun c hc=>by simp [dMems] at hc,by simp [dMems],fun c hc=>by simp [dMems] at hc⟩,fun c hc=>by simp [dMems] at hc⟩
  | cons n ns ih =>
   intro a hp hm
   rw [lpw] at hp
   unfold dMems
   by_cases hx : 0 < nextV L a 3
   ·rw [if_pos hx]
    obtain ⟨i1,i2⟩:=ih (memZ L (nextA L a 3)) hp.2 fun x hx=>hm x (lmc _ hx)
    have hd:=memD_amt L (nextA L a 3) n.id
    have hg : (memD L (nextA L a 3) n.id).group = n.id:=rfl
    generalize memD L (nextA L a 3) n.id = m at hd hg
    refine ⟨⟨fun c hc=>?_,?_,fun c hc=>?_⟩,fun c hc=>?_⟩
    ·rcases lmk.1 hc with rfl | hc
     ·rw [hg]
      exact dCounter_sum.mem_find' (hm n (lms ..))
     ·exact i1.known c hc
    ·rw [lpw]
     refine ⟨fun c hc=>?_,i1.inc⟩
     obtain ⟨x,hx1,hx2⟩:=i2 c hc
     have:=hp.1 x hx1
     rw [hg]
     omega
    ·rcases lmk.1 hc with rfl | hc
     ·exact hd
     ·exact i1.amt c hc
    ·rcases lmk.1 hc with rfl | hc
     ·exact ⟨n,lms ..,hg.symm⟩
     ·obtain ⟨x,hx1,hx2⟩:=i2 c hc
      exact ⟨x,lmc _ hx1,hx2⟩
   ·rw [if_neg hx]
    obtain ⟨i1,i2⟩:=ih (nextA L a 3) hp.2 fun x hx=>hm x (lmc _ hx)
    exact ⟨i1,fun c hc=>by
     obtain ⟨x,hx1,hx2⟩:=i2 c hc
     exact ⟨x,lmc _ hx1,hx2⟩⟩
 exact (key t.nodes a h.inc fun n hn=>hn).1
theorem McOk.length {t : Tr} {l : List Mc} (h : McOk t.nodes l) : l.length <= t.nodes.length:=by
 have:=known_len (t:=t) (gs:=l.map (·.group)) (by rw [List.pairwise_map]; exact h.inc) fun g hg=>by
  obtain ⟨x,hx,rfl⟩:=lmm.1 hg
  exact h.known x hx
 simpa using this
def Mc.pv (h : Mc) : PV:=.agg [.int .i64 h.group,.int .i64 h.least,.int .i64 h.low,.int .i64 h.high,.int .i64 h.most,.int .i64 h.swap,.bool h.tog]
abbrev Mc.vv (h : Mc) : VVal:=.agg [.p (.int .i64 h.group),.p (.int .i64 h.least),.p (.int .i64 h.low),.p (.int .i64 h.high),.p (.int .i64 h.most),.p (.int .i64 h.swap),.p (.bool h.tog)]
abbrev Mc.mv (h : Mc) : VVal:=.agg [.p (.int .i64 h.least),.p (.int .i64 h.low),.p (.int .i64 h.high),.p (.int .i64 h.most),.p (.int .i64 h.swap),.p (.bool h.tog)]
abbrev mcsP (l : List Mc) : PV:=.slice 7 (l.map Mc.pv)
attribute [go_sem] Mc.pv
theorem mcs_flat (l : List Mc) : (l.map Mc.pv).all PV.flat = true:=by
 rw [List.all_eq_true]
 intro x hx
 obtain ⟨n,_,rfl⟩:=lmm.1 hx
 rfl
attribute [go_sem] mcs_flat
def amtR (n a b : Int) : Bool:=(decide (a <= n) && decide (n <= b)) || decide (n = 4611686018427387904)
set_option maxHeartbeats 1000000 in
theorem amount_eq (n a b : Int) : V 100 [.p (.int .i64 n),.p (.int .i64 a),.p (.int .i64 b)] [] = some (.p (.bool (amtR n a b)),[]):=by
 refine V_wp (vf:=vf100) rfl ?_
 unfold amtR
 by_cases h1 : a <= n
 ·by_cases h2 : n <= b
  ·have e1 : ¬ n < a:=by omega
   have e2 : ¬ b < n:=by omega
   simp -implicitDefEqProofs (disch:=omega) only [vf100,vb100,h1,h2,e1,e2,go_sem,↓reduceIte,rA,rS,rE,rL,reduceCtorEq]
   try simp [h1,h2]
  ·have e1 : ¬ n < a:=by omega
   have e2 : b < n:=by omega
   simp -implicitDefEqProofs (disch:=omega) only [vf100,vb100,h1,h2,e1,e2,go_sem,↓reduceIte,rA,rS,rE,rL,reduceCtorEq]
   try simp [h1,h2]
 ·have e1 : n < a:=by omega
  simp -implicitDefEqProofs (disch:=omega) only [vf100,vb100,h1,e1,go_sem,↓reduceIte,rA,rS,rE,rL,reduceCtorEq]
  try simp [h1]
def chkM (m : Mc) : Bool:=amtM m.least && amtM m.low && amtM m.high && amtM m.most && amtM m.swap
set_option maxHeartbeats 1000000 in
theorem checkMem_eq (m : Mc) : V 83 [m.mv] [] = some (.p (.bool (chkM m)),[]):=by
 refine V_wp (vf:=vf83) rfl ?_
 have ha : ∀ n,V 100 [.p (.int .i64 n),.p (.int .i64 0),.p (.int .i64 1099511627776)] [] = some (.p (.bool (amtM n)),[]):=fun n=>amount_eq n 0 1099511627776
 unfold chkM
 cases h1 : amtM m.least with
 | false =>
  simp -implicitDefEqProofs (disch:=omega) only [vf83,vb83,ha,h1,bfa,go_sem,↓reduceIte,rA,rS,rE,rL,reduceCtorEq]
 | true =>
  cases h2 : amtM m.low with
  | false=>simp -implicitDefEqProofs (disch:=omega) only [vf83,vb83,ha,h1,h2,bfa,bta,go_sem,↓reduceIte,rA,rS,rE,rL,reduceCtorEq]
  | true =>
   cases h3 : amtM m.high with
   | false=>simp -implicitDefEqProofs (disch:=omega) only [vf83,vb83,ha,h1,h2,h3,bfa,bta,go_sem,↓reduceIte,rA,rS,rE,rL,reduceCtorEq]
   | true =>
    cases h4 : amtM m.most with
    | false=>simp -implicitDefEqProofs (disch:=omega) only [vf83,vb83,ha,h1,h2,h3,h4,bfa,bta,go_sem,↓reduceIte,rA,rS,rE,rL,reduceCtorEq]
    | true =>
     cases h5 : amtM m.swap with
     | false=>simp -implicitDefEqProofs (disch:=omega) only [vf83,vb83,ha,h1,h2,h3,h4,h5,bfa,bta,go_sem,↓reduceIte,rA,rS,rE,rL,reduceCtorEq]
     | true=>simp -implicitDefEqProofs (disch:=omega) only [vf83,vb83,ha,h1,h2,h3,h4,h5,bta,go_sem,↓reduceIte,rA,rS,rE,rL,reduceCtorEq]
theorem chkM_iff (m : Mc) : chkM m = true ↔ (amtM m.least = true /\ amtM m.low = true /\ amtM m.high = true /\ amtM m.most = true /\ amtM m.swap = true):=by
 simp only [chkM,bat,and_assoc]
set_option maxHeartbeats 4000000 in
theorem mvalid_ok {t : Tr} {l : List Mc} (h : TreeOk t) (hM : McOk t.nodes l) : V 65 [t.vv,.p (mcsP l)] [] = some (.p (.bool true),[]):=by
 refine V_wp (vf:=vf65) rfl ?_
 have hlen:=h.len
 have hll:=hM.length
 have hc:=tcheck_eq t h.fits (by omega)
 rw [(treeOk_iff t).2 h] at hc
 simp -implicitDefEqProofs (disch:=omega) only [vf65,vb65,hc,go_sem,↓reduceIte,rA,rS,rE,rL,reduceCtorEq]
 obtain ⟨I,hI⟩ : ∃ I : Nat -> St -> Prop,∀ k s,I k s ↔ s.pe 1 = .p (mcsP l) /\ s.pe 2 = .ptr (.slot 2 0) 0 0 /\ s.pe 12 = .p (mcsP l) /\ s.pe 13 = .p (.int .i64 ↑l.length) /\ s.pe 14 = .p (.int .i64 k) /\ s.h (.slot 2 0) = some (0,Ob.box [.p (nodesP t.nodes),.p (.int .i64 t.next)]):=⟨_,fun _ _=>Iff.rfl⟩
 refine wp_count (l.length) I ?_ ?_
 ·refine (hI _ _).2 ⟨?_,?_,?_,?_,?_,?_⟩
  all_goals exact cl0
 intro k s hk hIk
 obtain ⟨h1,h2,h12,h13,h14,hh2_0⟩:=(hI _ _).1 hIk
 clear hIk
 simp -implicitDefEqProofs (disch:=omega) only [h1,h2,h12,h13,h14,hh2_0,go_sem,↓reduceIte,rA,rS,rE,rL,reduceCtorEq]
 refine wp_if_d (fun hlt=>?_) (fun hge=>?_)
 ·have hm : l[k]? = some l[k]:=lgg hlt
  have hprev : ∀ j (h : j < k),l[j].group < l[k].group:=fun j h=>(List.pairwise_iff_getElem.1 hM.inc) j k (by omega) hlt h
  have hkn:=hM.known l[k] (lgk hlt)
  have hch:=checkMem_eq l[k]
  rw [(chkM_iff _).2 (hM.amt l[k] (lgk hlt))] at hch
  generalize l[k] = c at hm hprev hkn hch
  have hfi:=ffind_eq t c.group (by omega)
  rw [hkn] at hfi
  generalize (findN t.nodes c.group).getD zeroNd = nd at hfi
  by_cases hk0 : (0 : Int) < k
  ·have he : l[k - 1]? = some l[k - 1]:=lgg (by omega)
   have hlt1:=hprev (k - 1) (by omega)
   generalize l[k - 1] = e at he hlt1
   have he' : l[((k : Int) - 1).toNat]? = some e:=by rw [show ((k : Int) - 1).toNat = k - 1 by omega]; exact he
   have hk1 : (0 : Int) <= (k : Int) - 1:=by omega
   have hle : ¬ c.group <= e.group:=by omega
   simp only [Mc.mv] at hch
   simp -implicitDefEqProofs (disch:=omega) only [h1,h2,h12,h13,h14,hh2_0,hlt,hm,hfi,Nd.vv,hk0,hk1,he',hle,hch,go_sem,↓reduceIte,rA,rS,rE,rL,reduceCtorEq]
   try refine And.intro (by omega) ?_
   refine (hI _ _).2 ⟨?_,?_,?_,?_,?_,?_⟩
   all_goals exact cl0
  ·simp only [Mc.mv] at hch
   simp -implicitDefEqProofs (disch:=omega) only [h1,h2,h12,h13,h14,hh2_0,hlt,hm,hfi,Nd.vv,hk0,hch,go_sem,↓reduceIte,rA,rS,rE,rL,reduceCtorEq]
   try refine And.intro (by omega) ?_
   refine (hI _ _).2 ⟨?_,?_,?_,?_,?_,?_⟩
   all_goals exact cl0
 .simp -implicitDefEqProofs (disch:=omega) only [h1,h2,h12,h13,h14,hh2_0,hge,go_sem,↓reduceIte,rA,rS,rE,rL,reduceCtorEq]
set_option maxHeartbeats 2000000 in
theorem msettings_eq (l : List Mc) (id : Int) (hl : l.length < 1000000) : V 20 [.p (mcsP l),.p (.int .i64 id)] [] = some ((getM l id).mv,[]):=by
 refine V_wp (vf:=vf20) rfl ?_
 simp -implicitDefEqProofs (disch:=omega) only [vf20,vb20,go_sem,↓reduceIte,rA,rS,rE,rL,reduceCtorEq]
 obtain ⟨I,hI⟩ : ∃ I : Nat -> St -> Prop,∀ k s,I k s ↔ getM l id = getM (l.drop k) id /\ s.pe 1 = .p (.int .i64 id) /\ s.pe 4 = .ptr (.slot 4 0) 0 0 /\ s.pe 7 = .p (mcsP l) /\ s.pe 8 = .p (.int .i64 ↑l.length) /\ s.pe 9 = .p (.int .i64 k) /\ s.h (.slot 4 0) = some (0,Ob.box [.p (.int .i64 0),.p (.int .i64 0),.p (.int .i64 0),.p (.int .i64 0),.p (.int .i64 0),.p (.bool false)]):=⟨_,fun _ _=>Iff.rfl⟩
 refine wp_count (l.length) I ?_ ?_
 ·refine (hI _ _).2 ⟨?_,?_,?_,?_,?_,?_,?_⟩
  ·rfl
  all_goals exact cl0
 intro k s hk hIk
 obtain ⟨hp,h1,h4,h7,h8,h9,hh4_0⟩:=(hI _ _).1 hIk
 clear hIk
 simp -implicitDefEqProofs (disch:=omega) only [h1,h4,h7,h8,h9,hh4_0,go_sem,↓reduceIte,rA,rS,rE,rL,reduceCtorEq]
 refine wp_if_d (fun hlt=>?_) (fun hge=>?_)
 ·have hm : l[k]? = some l[k]:=lgg hlt
  have hdr : l.drop k = l[k] :: l.drop (k + 1):=ldg hlt
  generalize l[k] = c at hm hdr
  rw [hdr,getM] at hp
  by_cases hc : c.group = id
  ·rw [if_pos hc] at hp
   rw [hp]
   simp -implicitDefEqProofs (disch:=omega) only [h1,h4,h7,h8,h9,hh4_0,hlt,hm,hc,go_sem,↓reduceIte,rA,rS,rE,rL,reduceCtorEq]
  ·rw [if_neg hc] at hp
   simp -implicitDefEqProofs (disch:=omega) only [h1,h4,h7,h8,h9,hh4_0,hlt,hm,hc,go_sem,↓reduceIte,rA,rS,rE,rL,reduceCtorEq]
   try refine And.intro (by omega) ?_
   refine (hI _ _).2 ⟨?_,?_,?_,?_,?_,?_,?_⟩
   .exact hp
   all_goals exact cl0
 ·rw [ldl (by omega)] at hp
  have hdf : V 21 [] [] = some (.agg [.p (.int .i64 0),.p (.int .i64 0),.p (.int .i64 4611686018427387904),.p (.int .i64 4611686018427387904),.p (.int .i64 4611686018427387904),.p (.bool false)],[]):=by
   refine V_wp (vf:=vf21) rfl ?_
   simp -implicitDefEqProofs (disch:=omega) only [vf21,vb21,go_sem,↓reduceIte,rA,rS,rE,rL,reduceCtorEq]
  rw [hp]
  simp -implicitDefEqProofs (disch:=omega) only [h1,h4,h7,h8,h9,hh4_0,hge,hdf,go_sem,↓reduceIte,rA,rS,rE,rL,reduceCtorEq]
  all_goals rfl
set_option maxHeartbeats 4000000 in
theorem memory_eq (L : List Int) (a : Nat) (g : Int) (hL : L.length < 4611686018427387904) : V 40 [.ptr (.arg 0 0) 0 0] [diceB L a] = some ((memD L a g).mv,[diceB L (memZ L a)]):=by
 refine V_wp (vf:=vf40) rfl ?_
 have p1:=pick_eq L a leaPicks hL (by decide) (by decide)
 have p2:=pick_eq L (nextA L a 4) lowPicks hL (by decide) (by decide)
 have b1 : V 36 [.ptr (.arg 0 0) 0 0,.p (.int .i64 2)] [diceB L (memA L a)] = some (.p (.bool (decide (nextV L (memA L a) 2 = 1))),[diceB L (nextA L (memA L a) 2)]):=bool_eq L _ 2 hL (by omega) (by omega)
 have p3:=pick_eq L (nextA L (memA L a) 2) highPicks hL (by decide) (by decide)
 have b2 : V 36 [.ptr (.arg 0 0) 0 0,.p (.int .i64 2)] [diceB L (memB L a)] = some (.p (.bool (decide (nextV L (memB L a) 2 = 1))),[diceB L (nextA L (memB L a) 2)]):=bool_eq L _ 2 hL (by omega) (by omega)
 have p4:=pick_eq L (nextA L (memB L a) 2) mostPicks hL (by decide) (by decide)
 have b3 : V 36 [.ptr (.arg 0 0) 0 0,.p (.int .i64 3)] [diceB L (memC L a)] = some (.p (.bool (decide (nextV L (memC L a) 3 = 2))),[diceB L (nextA L (memC L a) 3)]):=bool_eq L _ 3 hL (by omega) (by omega)
 have p5:=pick_eq L (nextA L (memC L a) 3) swapPicks hL (by decide) (by decide)
 have b4 : V 36 [.ptr (.arg 0 0) 0 0,.p (.int .i64 4)] [diceB L (memE L a)] = some (.p (.bool (decide (nextV L (memE L a) 4 = 3))),[diceB L (memZ L a)]):=bool_eq L _ 4 hL (by omega) (by omega)
 simp only [leaPicks,intsP,llc,lln,rA,lpc,lpn] at p1
 rw [<- leaPicks] at p1
 simp only [lowPicks,intsP,llc,lln,rA,lpc,lpn] at p2
 rw [<- lowPicks] at p2
 simp only [highPicks,intsP,llc,lln,rA,lpc,lpn] at p3
 rw [<- highPicks] at p3
 simp only [mostPicks,intsP,llc,lln,rA,lpc,lpn] at p4
 rw [<- mostPicks] at p4
 simp only [swapPicks,intsP,llc,lln,rA,lpc,lpn] at p5
 rw [<- swapPicks] at p5
 have hdf : V 21 [] [] = some (.agg [.p (.int .i64 0),.p (.int .i64 0),.p (.int .i64 4611686018427387904),.p (.int .i64 4611686018427387904),.p (.int .i64 4611686018427387904),.p (.bool false)],[]):=by
  refine V_wp (vf:=vf21) rfl ?_
  simp -implicitDefEqProofs (disch:=omega) only [vf21,vb21,go_sem,↓reduceIte,rA,rS,rE,rL,reduceCtorEq]
 have q1 : nextA L a ((4 : Nat) : Int) = nextA L a 4:=rfl
 have q2 : nextA L (nextA L a 4) ((4 : Nat) : Int) = memA L a:=rfl
 have q3 : nextA L (nextA L (memA L a) 2) ((4 : Nat) : Int) = nextA L (nextA L (memA L a) 2) 4:=rfl
 have q4 : nextA L (nextA L (memB L a) 2) ((5 : Nat) : Int) = nextA L (nextA L (memB L a) 2) 5:=rfl
 have q5 : nextA L (nextA L (memC L a) 3) ((3 : Nat) : Int) = nextA L (nextA L (memC L a) 3) 3:=rfl
 rw [q1] at p1
 rw [q2] at p2
 rw [q3] at p3
 rw [q4] at p4
 rw [q5] at p5
 have hB : memB L a = if nextV L (memA L a) 2 = 1 then nextA L (nextA L (memA L a) 2) 4 else nextA L (memA L a) 2:=rfl
 have hC : memC L a = if nextV L (memB L a) 2 = 1 then nextA L (nextA L (memB L a) 2) 5 else nextA L (memB L a) 2:=rfl
 have hE : memE L a = if nextV L (memC L a) 3 = 2 then nextA L (nextA L (memC L a) 3) 3 else nextA L (memC L a) 3:=rfl
 have v1 : tossV L (memA L a) 2 highPicks = if nextV L (memA L a) 2 = 1 then pickV L (nextA L (memA L a) 2) highPicks else 4611686018427387904:=rfl
 have v2 : tossV L (memB L a) 2 mostPicks = if nextV L (memB L a) 2 = 1 then pickV L (nextA L (memB L a) 2) mostPicks else 4611686018427387904:=rfl
 have v3 : tossV L (memC L a) 3 swapPicks = if nextV L (memC L a) 3 = 2 then pickV L (nextA L (memC L a) 3) swapPicks else 4611686018427387904:=rfl
 unfold memD
 rw [v1,v2,v3]
 clear v1 v2 v3 q1 q2 q3 q4 q5
 generalize memZ L a = aZ at b4 ⊢
 generalize memE L a = aE at *
 generalize memC L a = aC at *
 generalize memB L a = aB at *
 generalize memA L a = aA at *
 by_cases c1 : nextV L aA 2 = 1
 ·rw [if_pos c1] at hB ⊢
  subst hB
  by_cases c2 : nextV L (nextA L (nextA L aA 2) 4) 2 = 1
  ·rw [if_pos c2] at hC ⊢
   subst hC
   by_cases c3 : nextV L (nextA L (nextA L (nextA L (nextA L aA 2) 4) 2) 5) 3 = 2
   ·rw [if_pos c3] at hE ⊢
    subst hE
    simp -implicitDefEqProofs (disch:=omega) only [vf40,vb40,hdf,p1,p2,b1,p3,b2,p4,b3,p5,b4,c1,c2,c3,go_sem,↓reduceIte,rA,rS,rE,rL,reduceCtorEq]
   ·rw [if_neg c3] at hE ⊢
    subst hE
    simp -implicitDefEqProofs (disch:=omega) only [vf40,vb40,hdf,p1,p2,b1,p3,b2,p4,b3,p5,b4,c1,c2,c3,go_sem,↓reduceIte,rA,rS,rE,rL,reduceCtorEq]
  ·rw [if_neg c2] at hC ⊢
   subst hC
   by_cases c3 : nextV L (nextA L (nextA L (nextA L aA 2) 4) 2) 3 = 2
   ·rw [if_pos c3] at hE ⊢
    subst hE
    simp -implicitDefEqProofs (disch:=omega) only [vf40,vb40,hdf,p1,p2,b1,p3,b2,p4,b3,p5,b4,c1,c2,c3,go_sem,↓reduceIte,rA,rS,rE,rL,reduceCtorEq]
   ·rw [if_neg c3] at hE ⊢
    subst hE
    simp -implicitDefEqProofs (disch:=omega) only [vf40,vb40,hdf,p1,p2,b1,p3,b2,p4,b3,p5,b4,c1,c2,c3,go_sem,↓reduceIte,rA,rS,rE,rL,reduceCtorEq]
 ·rw [if_neg c1] at hB ⊢
  subst hB
  by_cases c2 : nextV L (nextA L aA 2) 2 = 1
  ·rw [if_pos c2] at hC ⊢
   subst hC
   by_cases c3 : nextV L (nextA L (nextA L (nextA L aA 2) 2) 5) 3 = 2
   ·rw [if_pos c3] at hE ⊢
    subst hE
    simp -implicitDefEqProofs (disch:=omega) only [vf40,vb40,hdf,p1,p2,b1,p3,b2,p4,b3,p5,b4,c1,c2,c3,go_sem,↓reduceIte,rA,rS,rE,rL,reduceCtorEq]
   ·rw [if_neg c3] at hE ⊢
    subst hE
    simp -implicitDefEqProofs (disch:=omega) only [vf40,vb40,hdf,p1,p2,b1,p3,b2,p4,b3,p5,b4,c1,c2,c3,go_sem,↓reduceIte,rA,rS,rE,rL,reduceCtorEq]
  ·rw [if_neg c2] at hC ⊢
   subst hC
   by_cases c3 : nextV L (nextA L (nextA L aA 2) 2) 3 = 2
   ·rw [if_pos c3] at hE ⊢
    subst hE
    simp -implicitDefEqProofs (disch:=omega) only [vf40,vb40,hdf,p1,p2,b1,p3,b2,p4,b3,p5,b4,c1,c2,c3,go_sem,↓reduceIte,rA,rS,rE,rL,reduceCtorEq]
   ·rw [if_neg c3] at hE ⊢
    subst hE
    simp -implicitDefEqProofs (disch:=omega) only [vf40,vb40,hdf,p1,p2,b1,p3,b2,p4,b3,p5,b4,c1,c2,c3,go_sem,↓reduceIte,rA,rS,rE,rL,reduceCtorEq]
theorem prsM_cons (m : Mc) (l : List Mc) : prsM (m :: l) = (if m.least = 0 /\ m.low = 0 then [] else [⟨m.group,m.least,m.low⟩]) ++ prsM l:=by
 unfold prsM
 by_cases h : m.least = 0 /\ m.low = 0
 ·rw [List.filter_cons_of_neg (by simp [h.1,h.2]),if_pos h]
  rfl
 ·rw [List.filter_cons_of_pos (by simp; omega),if_neg h]
  rfl
theorem chsM_cons (m : Mc) (l : List Mc) : chsM (m :: l) = (if m.swap = 4611686018427387904 then [] else [⟨m.group,m.swap⟩]) ++ chsM l:=by
 unfold chsM
 by_cases h : m.swap = 4611686018427387904
 ·rw [List.filter_cons_of_neg (by simp [h]),if_pos h]
  rfl
 ·rw [List.filter_cons_of_pos (by simpa using h),if_neg h]
  rfl
set_option maxHeartbeats 2000000 in
theorem mprots_eq (l : List Mc) (hl : l.length < 1000000) : V 79 [.p (mcsP l)] [] = some (.fresh 3 ((prsM l).map Pr.pv),[]):=by
 refine V_wp (vf:=vf79) rfl ?_
 simp -implicitDefEqProofs (disch:=omega) only [vf79,vb79,go_sem,↓reduceIte,rA,rS,rE,rL,reduceCtorEq]
 obtain ⟨I,hI⟩ : ∃ I : Nat -> St -> Prop,∀ k s,I k s ↔ ∃ (acc : List Pr) (w : Nat),prsM l = acc ++ prsM (l.drop k) /\ acc.length <= k /\ s.pe 3 = .own (.slot 3 0) w 0 acc.length /\ s.pe 6 = .p (mcsP l) /\ s.pe 7 = .p (.int .i64 ↑l.length) /\ s.pe 8 = .p (.int .i64 k) /\ s.h (.slot 3 0) = some (w,Ob.arr 3 (acc.map Pr.pv)):=⟨_,fun _ _=>Iff.rfl⟩
 refine wp_count (l.length) I ?_ ?_
 ·refine (hI _ _).2 ⟨[],0,?_,?_,?_,?_,?_,?_,?_⟩
  ·rfl
  ·exact Nat.zero_le _
  all_goals exact cl0
 intro k s hk hIk
 obtain ⟨acc,w,ho,hal,h3,h6,h7,h8,hh3_0⟩:=(hI _ _).1 hIk
 clear hIk
 simp -implicitDefEqProofs (disch:=omega) only [h3,h6,h7,h8,hh3_0,go_sem,↓reduceIte,rA,rS,rE,rL,reduceCtorEq]
 refine wp_if_d (fun hlt=>?_) (fun hge=>?_)
 ·have hm : l[k]? = some l[k]:=lgg hlt
  have hdr : l.drop k = l[k] :: l.drop (k + 1):=ldg hlt
  generalize l[k] = c at hm hdr
  rw [hdr,prsM_cons] at ho
  by_cases h1 : c.least = 0
  ·by_cases h2 : c.low = 0
   ·rw [if_pos ⟨h1,h2⟩,lna] at ho
    simp -implicitDefEqProofs (disch:=omega) only [h3,h6,h7,h8,hh3_0,hlt,hm,h1,h2,go_sem,↓reduceIte,rA,rS,rE,rL,reduceCtorEq]
    try refine And.intro (by omega) ?_
    refine (hI _ _).2 ⟨acc,w,?_,?_,?_,?_,?_,?_,?_⟩
    .exact ho
    .omega
    all_goals exact cl0
   ·rw [if_neg (fun h=>h2 h.2),<- laa,h1] at ho
    simp -implicitDefEqProofs (disch:=omega) only [h3,h6,h7,h8,hh3_0,hlt,hm,h1,h2,go_sem,↓reduceIte,rA,rS,rE,rL,reduceCtorEq]
    try refine And.intro (by omega) ?_
    refine (hI _ _).2 ⟨acc ++ [⟨c.group,0,c.low⟩],w + 1,?_,?_,?_,?_,?_,?_,?_⟩
    .exact ho
    .exact by simp; omega
    all_goals exact cl0
  ·rw [if_neg (fun h=>h1 h.1),<- laa] at ho
   simp -implicitDefEqProofs (disch:=omega) only [h3,h6,h7,h8,hh3_0,hlt,hm,h1,go_sem,↓reduceIte,rA,rS,rE,rL,reduceCtorEq]
   try refine And.intro (by omega) ?_
   refine (hI _ _).2 ⟨acc ++ [⟨c.group,c.least,c.low⟩],w + 1,?_,?_,?_,?_,?_,?_,?_⟩
   .exact ho
   .exact by simp; omega
   all_goals exact cl0
 ·rw [ldl (by omega)] at ho
  rw [show prsM [] = [] from rfl,lan] at ho
  simp -implicitDefEqProofs (disch:=omega) only [h3,h6,h7,h8,hh3_0,hge,go_sem,↓reduceIte,rA,rS,rE,rL,reduceCtorEq]
  rw [ho]
set_option maxHeartbeats 2000000 in
theorem mswaps_eq (l : List Mc) (hl : l.length < 1000000) : V 80 [.p (mcsP l)] [] = some (.fresh 2 ((chsM l).map Ch.pv),[]):=by
 refine V_wp (vf:=vf80) rfl ?_
 simp -implicitDefEqProofs (disch:=omega) only [vf80,vb80,go_sem,↓reduceIte,rA,rS,rE,rL,reduceCtorEq]
 obtain ⟨I,hI⟩ : ∃ I : Nat -> St -> Prop,∀ k s,I k s ↔ ∃ (acc : List Ch) (w : Nat),chsM l = acc ++ chsM (l.drop k) /\ acc.length <= k /\ s.pe 3 = .own (.slot 3 0) w 0 acc.length /\ s.pe 6 = .p (mcsP l) /\ s.pe 7 = .p (.int .i64 ↑l.length) /\ s.pe 8 = .p (.int .i64 k) /\ s.h (.slot 3 0) = some (w,Ob.arr 2 (acc.map Ch.pv)):=⟨_,fun _ _=>Iff.rfl⟩
 refine wp_count (l.length) I ?_ ?_
 ·refine (hI _ _).2 ⟨[],0,?_,?_,?_,?_,?_,?_,?_⟩
  ·rfl
  ·exact Nat.zero_le _
  all_goals exact cl0
 intro k s hk hIk
 obtain ⟨acc,w,ho,hal,h3,h6,h7,h8,hh3_0⟩:=(hI _ _).1 hIk
 clear hIk
 simp -implicitDefEqProofs (disch:=omega) only [h3,h6,h7,h8,hh3_0,go_sem,↓reduceIte,rA,rS,rE,rL,reduceCtorEq]
 refine wp_if_d (fun hlt=>?_) (fun hge=>?_)
 ·have hm : l[k]? = some l[k]:=lgg hlt
  have hdr : l.drop k = l[k] :: l.drop (k + 1):=ldg hlt
  generalize l[k] = c at hm hdr
  rw [hdr,chsM_cons] at ho
  by_cases h1 : c.swap = 4611686018427387904
  ·rw [if_pos h1,lna] at ho
   simp -implicitDefEqProofs (disch:=omega) only [h3,h6,h7,h8,hh3_0,hlt,hm,h1,go_sem,↓reduceIte,rA,rS,rE,rL,reduceCtorEq]
   try refine And.intro (by omega) ?_
   refine (hI _ _).2 ⟨acc,w,?_,?_,?_,?_,?_,?_,?_⟩
   .exact ho
   .omega
   all_goals exact cl0
  ·rw [if_neg h1,<- laa] at ho
   simp -implicitDefEqProofs (disch:=omega) only [h3,h6,h7,h8,hh3_0,hlt,hm,h1,go_sem,↓reduceIte,rA,rS,rE,rL,reduceCtorEq]
   try refine And.intro (by omega) ?_
   refine (hI _ _).2 ⟨acc ++ [⟨c.group,c.swap⟩],w + 1,?_,?_,?_,?_,?_,?_,?_⟩
   .exact ho
   .exact by simp; omega
   all_goals exact cl0
 ·rw [ldl (by omega)] at ho
  rw [show chsM [] = [] from rfl,lan] at ho
  simp -implicitDefEqProofs (disch:=omega) only [h3,h6,h7,h8,hh3_0,hge,go_sem,↓reduceIte,rA,rS,rE,rL,reduceCtorEq]
  rw [ho]
theorem usedF_in {t : Tr} (h : TreeOk t) {c : List Ch} {i : Nat} {n : Nd} (hn : t.nodes[i]? = some n) : usedF t c n.id = tot t (ownC c) n.id:=by
 unfold usedF
 rw [if_pos]
 rw [findN_unique h.inc hn]
 rfl
set_option maxHeartbeats 2000000 in
theorem rcounter25_eq (sw : Stk) (hl : sw.hs.length < 1000000) (hb : ∀ h ∈ sw.hs,inPg h.file /\ inPg h.anon) : V 47 [sw.vv] [] = some (ctrF (cntS sw.hs),[]):=by
 refine V_wp (vf:=vf47) rfl ?_
 simp -implicitDefEqProofs (disch:=omega) only [vf47,vb47,go_sem,↓reduceIte,rA,rS,rE,rL,reduceCtorEq]
 obtain ⟨I,hI⟩ : ∃ I : Nat -> St -> Prop,∀ k s,I k s ↔ ∃ (acc : List Ch) (w : Nat),cntS sw.hs = acc ++ cntS (sw.hs.drop k) /\ acc.length <= k /\ s.pe 1 = .ptr (.slot 1 0) 0 0 /\ s.pe 2 = .ptr (.slot 2 0) 0 0 /\ s.pe 3 = .own (.slot 3 0) w 0 acc.length /\ s.pe 4 = .p (.int .i64 k) /\ s.h (.slot 1 0) = some (0,Ob.box [.p (hgsP sw.hs),.p (.int .i64 sw.size)]) /\ s.h (.slot 2 0) = some (0,Ob.box [.own (.slot 2 1) 0 0 0]) /\ s.h (.slot 2 1) = some (0,Ob.arr 2 []) /\ s.h (.slot 3 0) = some (w,Ob.arr 2 (acc.map Ch.pv)):=⟨_,fun _ _=>Iff.rfl⟩
 refine wp_count (sw.hs.length) I ?_ ?_
 ·refine (hI _ _).2 ⟨[],0,?_,?_,?_,?_,?_,?_,?_,?_,?_,?_⟩
  ·rfl
  ·exact lrf _
  all_goals exact cl0
 intro k s hk hIk
 obtain ⟨acc,w,ho,hal,h1,h2,h3,h4,hh1_0,hh2_0,hh2_1,hh3_0⟩:=(hI _ _).1 hIk
 clear hIk
 simp -implicitDefEqProofs (disch:=omega) only [h1,h2,h3,h4,hh1_0,hh2_0,hh2_1,hh3_0,go_sem,↓reduceIte,rA,rS,rE,rL,reduceCtorEq]
 refine wp_if_d (fun hlt=>?_) (fun hge=>?_)
 ·have hm : sw.hs[k]? = some sw.hs[k]:=lgg hlt
  have hd : sw.hs.drop k = sw.hs[k] :: sw.hs.drop (k + 1):=ldg hlt
  obtain ⟨⟨b1,b2⟩,b3,b4⟩:=hb _ (lmg hm)
  generalize sw.hs[k] = c at hm hd b1 b2 b3 b4
  rw [hd,cntS_cons] at ho
  by_cases he : c.file + c.anon = 0
  ·rw [if_pos he,lna] at ho
   simp -implicitDefEqProofs (disch:=omega) only [h1,h2,h3,h4,hh1_0,hh2_0,hh2_1,hh3_0,hlt,hm,he,go_sem,↓reduceIte,rA,rS,rE,rL,reduceCtorEq]
   try refine And.intro (by omega) ?_
   refine (hI _ _).2 ⟨acc,w,?_,?_,?_,?_,?_,?_,?_,?_,?_,?_⟩
   .exact ho
   .omega
   all_goals exact cl0
  ·rw [if_neg he,<- laa] at ho
   simp -implicitDefEqProofs (disch:=omega) only [h1,h2,h3,h4,hh1_0,hh2_0,hh2_1,hh3_0,hlt,hm,he,go_sem,↓reduceIte,rA,rS,rE,rL,reduceCtorEq]
   try refine And.intro (by omega) ?_
   refine (hI _ _).2 ⟨acc ++ [⟨c.group,c.file + c.anon⟩],w + 1,?_,?_,?_,?_,?_,?_,?_,?_,?_,?_⟩
   .exact ho
   .exact by simp; omega
   all_goals exact cl0
 ·rw [ldl (by omega)] at ho
  rw [show cntS [] = [] from rfl,lan] at ho
  simp -implicitDefEqProofs (disch:=omega) only [h1,h2,h3,h4,hh1_0,hh2_0,hh2_1,hh3_0,hge,go_sem,↓reduceIte,rA,rS,rE,rL,reduceCtorEq]
  rw [ho]
set_option maxHeartbeats 2000000 in
theorem rusage_eq {t : Tr} (h : TreeOk t) {z : Int} {hs : List Hg} (hh : HgOk t.nodes z hs) (hl : hs.length < 1000000) {i : Nat} {n : Nd} (hn : t.nodes[i]? = some n) : V 19 [t.vv,Stk.vv ⟨hs,z⟩,.p (.int .i64 n.id)] [] = some (.p (.int .i64 (usedF t (cntS hs) n.id)),[]):=by
 refine V_wp (vf:=vf19) rfl ?_
 have h1:=rcounter25_eq ⟨hs,z⟩ hl fun x hx=>⟨hh.file x hx,hh.anon x hx⟩
 have hc:=cntS_ok hh
 have h2:=rsum_eq h hc (by have:=cntS_len hs; omega) hn
 rw [<- usedF_in h hn] at h2
 simp only [Stk.vv,ctrF,ctrV] at h1 h2
 simp -implicitDefEqProofs (disch:=omega) only [vf19,vb19,h1,h2,go_sem,↓reduceIte,rA,rS,rE,rL,reduceCtorEq]
abbrev grwC (t : Tr) (l : List Mc) (H : VVal) (z : Int) (S M G : VVal) (r : Int) : Ob:=.box [.p (nodesP t.nodes),.p (.int .i64 t.next),.p (mcsP l),H,.p (.int .i64 z),S,M,G,.p (.int .i64 r)]
abbrev grwB (t : Tr) (l : List Mc) (n : Nat) (z : Int) (m p q : Nat) (r : Int) : Ob:=grwC t l (.own (.arg 1 0) 0 0 n) z (.own (.arg 2 0) 0 0 m) (.own (.arg 3 0) 0 0 p) (.own (.arg 4 0) 0 0 q) r
abbrev grwH (t : Tr) (l : List Mc) (g : Gw) : List Ob:=[grwB t l g.stk.hs.length g.stk.size g.shr.length g.maxes.length g.highs.length g.refused,.arr 4 (g.stk.hs.map Hg.pv),.arr 4 (g.shr.map Sh.pv),.arr 1 (g.maxes.map (.int .i64)),.arr 1 (g.highs.map (.int .i64))]
set_option maxHeartbeats 2000000 in
theorem gmost_eq (t : Tr) (l : List Mc) (g : Gw) (id : Int) (hl : l.length < 1000000) : V 56 [.ptr (.arg 0 0) 0 0,.p (.int .i64 id)] (grwH t l g) = some (.p (.int .i64 (mostM l id)),grwH t l g):=by
 refine V_wp (vf:=vf56) rfl ?_
 have h1:=msettings_eq l id hl
 unfold mostM
 by_cases hid : id = 1
 ·rw [if_pos hid]
  subst hid
  generalize getM l 1 = m at h1 ⊢
  simp -implicitDefEqProofs (disch:=omega) only [vf56,vb56,h1,go_sem,↓reduceIte,rA,rS,rE,rL,reduceCtorEq]
 ·rw [if_neg hid]
  generalize getM l id = m at h1 ⊢
  simp -implicitDefEqProofs (disch:=omega) only [vf56,vb56,h1,hid,go_sem,↓reduceIte,rA,rS,rE,rL,reduceCtorEq]
theorem useG_eq {t : Tr} {s : Stk} (h : StkOk t s) {i : Nat} {m : Nd} (hm : t.nodes[i]? = some m) : V 76 [t.vv,ctrV (cntS s.hs),.p (.int .i64 m.id)] [] = some (.tup [.p (.int .i64 (usedF t (cntS s.hs) m.id)),.p (.int .i64 0)],[]):=by
 rw [usedF_in h.tree hm]
 exact total_at h.tree (cntS_ok h.hs) hm
set_option maxHeartbeats 2000000 in
theorem gusage_eq {t : Tr} (l : List Mc) {g : Gw} (hg : StkOk t g.stk) {id : Int} (hid : InN t.nodes id) : V 55 [.ptr (.arg 0 0) 0 0,.p (.int .i64 id)] (grwH t l g) = some (.p (.int .i64 (useG t g id)),grwH t l g):=by
 refine V_wp (vf:=vf55) rfl ?_
 obtain ⟨i,m,hm,rfl⟩:=hid
 have hlen:=hg.tree.len
 have hsl:=hg.hs.length
 have h1:=scounter_eq g.stk (by omega) fun x hx=>⟨hg.hs.file x hx,hg.hs.anon x hx⟩
 have h2:=useG_eq hg hm
 simp only [Stk.vv,ctrF,ctrV] at h1 h2
 unfold useG
 generalize usedF t (cntS g.stk.hs) m.id = u at h2 ⊢
 simp -implicitDefEqProofs (disch:=omega) only [vf55,vb55,h1,h2,go_sem,↓reduceIte,rA,rS,rE,rL,reduceCtorEq]
abbrev shrH (t : Tr) (l : List Mc) (g g' : Gw) : List Ob:=[grwC t l (.fresh 4 (g'.stk.hs.map Hg.pv)) g'.stk.size (.own (.arg 2 0) 1 0 g'.shr.length) (.own (.arg 3 0) 0 0 g.maxes.length) (.own (.arg 4 0) 0 0 g.highs.length) g.refused,.arr 4 (g.stk.hs.map Hg.pv),.box [.undef,.fresh 4 (g'.shr.map Sh.pv)],.arr 1 (g.maxes.map (.int .i64)),.arr 1 (g.highs.map (.int .i64))]
set_option maxHeartbeats 4000000 in
theorem gshrink_eq {t : Tr} {l : List Mc} {g : Gw} (hg : StkOk t g.stk) (hl : McOk t.nodes l) {id n : Int} (hid : InN t.nodes id) (hn : 0 <= n) (hn1 : n < 4611686018427387904) (hsl : g.shr.length < 1000000) : V 57 [.ptr (.arg 0 0) 0 0,.p (.int .i64 id),.p (.int .i64 n)] (grwH t l g) = some (.tup [],shrH t l g (shrG t l g id n)):=by
 refine V_wp (vf:=vf57) rfl ?_
 have hlen:=hg.tree.len
 have hhl:=hg.hs.length
 have hll:=hl.length
 have hpl:=(prsM_ok hl).length
 have hcl:=(chsM_ok hl).length
 have h1:=mprots_eq l (by omega)
 have h2:=mswaps_eq l (by omega)
 have h3:=shrink_eq t g.stk (prsM l) (chsM l) id (min n 16777216) hg.tree.fits (by omega) (by omega) (by omega) (by omega)
 have hk:=(shk_ok (t:=t) (sw:=g.stk) (p:=prsM l) (l:=chsM l) (root:=id) (n:=min n 16777216) ⟨hg,prsM_ok hl,chsM_ok hl,hid⟩ (by omega) (by omega)).1.len
 unfold shrG
 generalize ShrinkS t g.stk (prsM l) (chsM l) id (min n 16777216) = X at h3 hk ⊢
 obtain ⟨⟨x,z⟩,a,e⟩:=X
 obtain ⟨⟨hs,z0⟩,shr,mx,hi,rf⟩:=g
 simp only [Stk.vv,Stk.fv] at h3 hk ⊢
 have hta : List.take shr.length (shr.map Sh.pv) = shr.map Sh.pv:=ltl (by simp)
 simp only at hsl
 simp -implicitDefEqProofs (disch:=omega) only [vf57,vb57,h1,h2,h3,llm,hta,lma,lla,go_sem,↓reduceIte,rA,rS,rE,rL,reduceCtorEq]
 all_goals first | rfl | simp
set_option maxHeartbeats 2000000 in
theorem sPut_ok {t : Tr} {sw : Stk} {h : Hg} (hs : StkOk t sw) (hid : InN t.nodes h.group) (h1 : inPg h.file) (h2 : inPg h.anon) (h3 : inPg h.swap) (hx : StkOk t ⟨putS sw.hs h,sw.size⟩) : V 54 [t.vv,sw.vv,h.vv] [] = some (.tup [Stk.fv ⟨putS sw.hs h,sw.size⟩,.p (.int .i64 0)],[]):=by
 refine V_wp (vf:=vf54) rfl ?_
 have hlen:=hs.tree.len
 have hsl:=hs.hs.length
 have hxl : (putS sw.hs h).length <= t.nodes.length:=hx.hs.length
 have hck:=scheck_eq t sw h.group hs.tree.fits (by omega) (by omega)
 obtain ⟨i,m,hm,hme⟩:=hid
 rw [checkS_zero.2 ⟨hs,i,m,hm,hme⟩] at hck
 have hput:=sput_eq sw h (by omega)
 have hv:=svalid_eq t ⟨putS sw.hs h,sw.size⟩ hs.tree.fits (by omega) (by show (putS sw.hs h).length < _; omega)
 rw [(validS_iff _ _).2 hx] at hv
 have p1:=spages_eq h.file
 have p2:=spages_eq h.anon
 have p3:=spages_eq h.swap
 rw [show pagesB h.file = true by simp [pagesB,h1.1,h1.2]] at p1
 rw [show pagesB h.anon = true by simp [pagesB,h2.1,h2.2]] at p2
 rw [show pagesB h.swap = true by simp [pagesB,h3.1,h3.2]] at p3
 obtain ⟨hg,hf,ha,hw⟩:=h
 simp only [Stk.vv,Stk.fv,Hg.vv] at hck hput hv p1 p2 p3 ⊢
 generalize putS sw.hs ⟨hg,hf,ha,hw⟩ = y at *
 simp -implicitDefEqProofs (disch:=omega) only [vf54,vb54,hck,p1,p2,p3,hput,hv,go_sem,↓reduceIte,rA,rS,rE,rL,reduceCtorEq]
set_option maxHeartbeats 2000000 in
theorem mcheck_ok {t : Tr} {sw : Stk} {l : List Mc} (hs : StkOk t sw) (hl : McOk t.nodes l) {id : Int} (hid : InN t.nodes id) : V 41 [t.vv,sw.vv,.p (mcsP l),.p (.int .i64 id)] [] = some (.p (.int .i64 0),[]):=by
 refine V_wp (vf:=vf41) rfl ?_
 have hlen:=hs.tree.len
 have hsl:=hs.hs.length
 have hv:=svalid_eq t sw hs.tree.fits (by omega) (by omega)
 rw [(validS_iff _ _).2 hs] at hv
 have hm:=mvalid_ok hs.tree hl
 have hfi:=ffind_eq t id (by omega)
 rw [found_in hs.tree hid] at hfi
 generalize (findN t.nodes id).getD zeroNd = nd at hfi
 simp only [Nd.vv] at hfi
 simp -implicitDefEqProofs (disch:=omega) only [vf41,vb41,hv,hm,hfi,go_sem,↓reduceIte,rA,rS,rE,rL,reduceCtorEq]
abbrev movH (t : Tr) (l : List Mc) (g g' : Gw) : List Ob:=[grwC t l (.fresh 4 (g'.stk.hs.map Hg.pv)) g'.stk.size (.own (.arg 2 0) 1 0 g'.shr.length) (.own (.arg 3 0) 1 0 g'.maxes.length) (.own (.arg 4 0) 0 0 g.highs.length) g'.refused,.arr 4 (g.stk.hs.map Hg.pv),.box [.undef,.fresh 4 (g'.shr.map Sh.pv)],.box [.undef,.fresh 1 (g'.maxes.map (.int .i64))],.arr 1 (g.highs.map (.int .i64))]
theorem shrG_len {t : Tr} {l : List Mc} {g : Gw} (hg : StkOk t g.stk) (hl : McOk t.nodes l) {a n : Int} (ha : InN t.nodes a) (hn : 0 <= n) : (shrG t l g a n).shr.length <= g.shr.length + 64:=by
 have h:=(shk_ok (t:=t) (sw:=g.stk) (p:=prsM l) (l:=chsM l) (root:=a) (n:=min n 16777216) ⟨hg,prsM_ok hl,chsM_ok hl,ha⟩ (by omega) (by omega)).1.len
 unfold shrG
 simp only [lla]
 omega
theorem useG_bound {t : Tr} {g : Gw} (hg : StkOk t g.stk) (a : Int) : 0 <= useG t g a /\ useG t g a <= 16777216:=usedF_bound hg.tree (cntS_ok hg.hs) a
theorem mostM_bound {ns : List Nd} {l : List Mc} (hl : McOk ns l) (a : Int) : 0 <= mostM l a /\ mostM l a <= 4611686018427387904:=by
 have:=amtM_bound (getM_amt hl a).2
 unfold mostM
 split <;> omega
theorem room_step {t : Tr} {l : List Mc} {n : Int} {g : Gw} (hS : StkOk t g.stk) (hl : McOk t.nodes l) {a : Int} (ha : InN t.nodes a) (hsl : g.shr.length < 100000) (hn1 : n <= 16777216) (ho : 0 < overG t l n g a) : ∃ s1 r1,StkOk t s1 /\ shrG t l (maxG g a) a (overG t l n g a) = ⟨s1,r1,g.maxes ++ [a],g.highs,g.refused⟩ /\ r1.length <= g.shr.length + 64 /\
  V 57 [.ptr (.arg 0 0) 0 0,.p (.int .i64 a),.p (.int .i64 (overG t l n g a))] (grwH t l ⟨g.stk,g.shr,g.maxes ++ [a],g.highs,g.refused⟩) = some (.tup [],[grwC t l (.fresh 4 (s1.hs.map Hg.pv)) s1.size (.own (.arg 2 0) 1 0 r1.length) (.own (.arg 3 0) 0 0 (g.maxes ++ [a]).length) (.own (.arg 4 0) 0 0 g.highs.length) g.refused,.arr 4 (g.stk.hs.map Hg.pv),.box [.undef,.fresh 4 (r1.map Sh.pv)],.arr 1 ((g.maxes ++ [a]).map (.int .i64)),.arr 1 (g.highs.map (.int .i64))]) /\
  V 55 [.ptr (.arg 0 0) 0 0,.p (.int .i64 a)] (grwH t l ⟨s1,r1,g.maxes ++ [a],g.highs,g.refused⟩) = some (.p (.int .i64 (useG t ⟨s1,r1,g.maxes ++ [a],g.highs,g.refused⟩ a)),grwH t l ⟨s1,r1,g.maxes ++ [a],g.highs,g.refused⟩):=by
 have hb:=useG_bound hS a
 have hM:=mostM_bound hl a
 have h1:=shrG_ok (g:=maxG g a) hS hl ha (n:=overG t l n g a) (by omega)
 have h2:=shrG_len (g:=maxG g a) hS hl ha (n:=overG t l n g a) (by omega)
 have h3:=gshrink_eq (g:=maxG g a) hS hl ha (n:=overG t l n g a) (by omega) (by unfold overG; omega) (by show g.shr.length < _; omega)
 have h4:=gusage_eq l (g:=shrG t l (maxG g a) a (overG t l n g a)) h1.stk ha
 exact ⟨(shrG t l (maxG g a) a (overG t l n g a)).stk,(shrG t l (maxG g a) a (overG t l n g a)).shr,h1.stk,rfl,h2,h3,h4⟩
set_option maxHeartbeats 8000000 in
theorem groom_eq {t : Tr} {l : List Mc} {g0 : Gw} (hg0 : StkOk t g0.stk) (hl : McOk t.nodes l) {id n : Int} (hid : InN t.nodes id) (hn : 0 <= n) (hn1 : n <= 16777216) (hsl : g0.shr.length < 1000) (hml : g0.maxes.length < 1000) :
  (roomG t l n (ancR t id) g0 = (g0,0) /\ V 67 [.ptr (.arg 0 0) 0 0,.p (.int .i64 id),.p (.int .i64 n)] (grwH t l g0) = some (.p (.int .i64 0),grwH t l g0)) \/
  V 67 [.ptr (.arg 0 0) 0 0,.p (.int .i64 id),.p (.int .i64 n)] (grwH t l g0) = some (.p (.int .i64 (roomG t l n (ancR t id) g0).2),movH t l g0 (roomG t l n (ancR t id) g0).1):=by
 suffices hw : wp (callF V vf67 [.ptr (.arg 0 0) 0 0,.p (.int .i64 id),.p (.int .i64 n)] (grwH t l g0)) (fun r=>(roomG t l n (ancR t id) g0 = (g0,0) /\ r = (.p (.int .i64 0),grwH t l g0)) \/ r = (.p (.int .i64 (roomG t l n (ancR t id) g0).2),movH t l g0 (roomG t l n (ancR t id) g0).1)) by
  obtain ⟨r,hr,hr2⟩:=hw
  have hV:=V_fix (f:=67) (vf:=vf67) rfl hr
  rcases hr2 with ⟨h1,rfl⟩ | rfl
  ·exact .inl ⟨h1,hV⟩
  ·exact .inr hV
 have hlen:=hg0.tree.len
 have hll:=hl.length
 have hanc:=fanc_eq t id (by omega)
 rw [<- ancR_in hg0.tree hid] at hanc
 have hal:=ancR_len t id
 have hai : ∀ a ∈ ancR t id,InN t.nodes a:=fun a h=>anc_InN hg0.tree hid h
 generalize ancR t id = W at hanc hal hai ⊢
 obtain ⟨A,hA⟩ : ∃ I : Nat -> St -> Prop,∀ k s,I k s ↔ roomG t l n W g0 = roomG t l n (W.drop k) g0 /\ s.pe 0 = .ptr (.arg 0 0) 0 0 /\ s.pe 2 = .p (.int .i64 n) /\ s.pe 16 = .own (.slot 16 1) 0 0 W.length /\ s.pe 17 = .p (.int .i64 ↑W.length) /\ s.pe 18 = .p (.int .i64 k) /\ s.h (.arg 0 0) = some (0,grwB t l g0.stk.hs.length g0.stk.size g0.shr.length g0.maxes.length g0.highs.length g0.refused) /\ s.h (.arg 1 0) = some (0,Ob.arr 4 (g0.stk.hs.map Hg.pv)) /\ s.h (.arg 2 0) = some (0,Ob.arr 4 (g0.shr.map Sh.pv)) /\ s.h (.arg 3 0) = some (0,Ob.arr 1 (g0.maxes.map (.int .i64))) /\ s.h (.arg 4 0) = some (0,Ob.arr 1 (g0.highs.map (.int .i64))) /\ s.h (.slot 16 1) = some (0,Ob.arr 1 (List.map (.int .i64) W)):=⟨_,fun _ _=>Iff.rfl⟩
 obtain ⟨B,hB⟩ : ∃ I : Nat -> St -> Prop,∀ k s,I k s ↔ ∃ (s1 : Stk) (r1 : List Sh) (m1 : List Int) (w : Nat) (w2 : Nat) (w3 : Nat),roomG t l n W g0 = roomG t l n (W.drop k) ⟨s1,r1,m1,g0.highs,g0.refused⟩ /\ StkOk t s1 /\ r1.length <= 1000 + 64 * k /\ m1.length <= 1000 + k /\ w2 ≠ 0 /\ w3 ≠ 0 /\ s.pe 0 = .ptr (.arg 0 0) 0 0 /\ s.pe 2 = .p (.int .i64 n) /\ s.pe 16 = .own (.slot 16 1) 0 0 W.length /\ s.pe 17 = .p (.int .i64 ↑W.length) /\ s.pe 18 = .p (.int .i64 k) /\ s.h (.arg 0 0) = some (0,grwC t l (.own (.slot 49 1004) w 0 s1.hs.length) s1.size (.own (.arg 2 0) w2 0 r1.length) (.own (.arg 3 0) w3 0 m1.length) (.own (.arg 4 0) 0 0 g0.highs.length) g0.refused) /\ s.h (.arg 1 0) = some (0,Ob.arr 4 (g0.stk.hs.map Hg.pv)) /\ s.h (.arg 2 0) = some (w2,Ob.arr 4 (r1.map Sh.pv)) /\ s.h (.arg 3 0) = some (w3,Ob.arr 1 (m1.map (.int .i64))) /\ s.h (.arg 4 0) = some (0,Ob.arr 1 (g0.highs.map (.int .i64))) /\ s.h (.slot 16 1) = some (0,Ob.arr 1 (List.map (.int .i64) W)) /\ s.h (.slot 49 1004) = some (w,Ob.arr 4 (s1.hs.map Hg.pv)):=⟨_,fun _ _=>Iff.rfl⟩
 obtain ⟨hs0,shr0,mx0,hi0,rf0⟩:=g0
 simp only [grwH,grwB,grwC,movH] at *
 simp -implicitDefEqProofs (disch:=omega) only [vf67,vb67,hanc,go_sem,↓reduceIte,rA,rS,rE,rL,reduceCtorEq]
 refine wp_count W.length (fun k s=>A k s \/ B k s) ?_ ?_
 ·left
  try refine And.intro (by omega) ?_
  refine (hA _ _).2 ⟨?_,?_,?_,?_,?_,?_,?_,?_,?_,?_,?_,?_⟩
  ·rfl
  all_goals exact cl0
 intro k s hk hAB
 rcases hAB with hAk | hBk
 ·skip
  obtain ⟨hr,h0,h2,h16,h17,h18,ha0,ha1,ha2,ha3,ha4,hh16_1⟩:=(hA _ _).1 hAk
  clear hAk
  simp -implicitDefEqProofs (disch:=omega) only [h0,h2,h16,h17,h18,ha0,ha1,ha2,ha3,ha4,hh16_1,go_sem,↓reduceIte,rA,rS,rE,rL,reduceCtorEq]
  refine wp_if_d (fun hlt=>?_) (fun hge=>?_)
  ·have hm : W[k]? = some W[k]:=lgg hlt
   have hdr : W.drop k = W[k] :: W.drop (k + 1):=ldg hlt
   generalize W[k] = a at hm hdr
   have ha:=hai a (lmg hm)
   rw [hdr,roomG] at hr
   have hq1:=gmost_eq t l ⟨hs0,shr0,mx0,hi0,rf0⟩ a (by omega)
   have hq2:=gusage_eq l (g:=⟨hs0,shr0,mx0,hi0,rf0⟩) hg0 ha
   have hU:=useG_bound (g:=⟨hs0,shr0,mx0,hi0,rf0⟩) hg0 a
   have hM:=mostM_bound hl a
   have hst:=room_step (n:=n) (g:=⟨hs0,shr0,mx0,hi0,rf0⟩) hg0 hl ha (by simp only at hsl ⊢; omega) hn1
   unfold overG at hr hst
   generalize hu0 : useG t ⟨hs0,shr0,mx0,hi0,rf0⟩ a = U at *
   generalize mostM l a = M at *
   by_cases ho : 0 < U + n - M
   ·rw [if_pos ho] at hr
    obtain ⟨s1,r1,hS1,he1,hl1,hV1,hV2⟩:=hst ho
    have hU1:=useG_bound (g:=⟨s1,r1,mx0 ++ [a],hi0,rf0⟩) hS1 a
    rw [he1] at hr
    generalize useG t ⟨s1,r1,mx0 ++ [a],hi0,rf0⟩ a = U1 at *
    simp only [grwH,grwB,grwC,lma,lpc,lpn,lla,llc,lln,rA] at hq1 hq2 hV1 hV2
    by_cases hu : M < U1 + n
    ·rw [if_pos hu] at hr
     simp -implicitDefEqProofs (disch:=omega) only [h0,h2,h16,h17,h18,ha0,ha1,ha2,ha3,ha4,hh16_1,hlt,hm,hq1,hq2,ho,hV1,hV2,hu,go_sem,↓reduceIte,rA,rS,rE,rL,reduceCtorEq]
     right
     rw [hr]
     simp [refG]
    ·rw [if_neg hu] at hr
     simp -implicitDefEqProofs (disch:=omega) only [h0,h2,h16,h17,h18,ha0,ha1,ha2,ha3,ha4,hh16_1,hlt,hm,hq1,hq2,ho,hV1,hV2,hu,go_sem,↓reduceIte,rA,rS,rE,rL,reduceCtorEq]
     try refine And.intro (by omega) ?_
     right
     refine (hB _ _).2 ⟨s1,r1,mx0 ++ [a],nv (s.h (.slot 49 1004)) + 1,1,1,?_,?_,?_,?_,?_,?_,?_,?_,?_,?_,?_,?_,?_,?_,?_,?_,?_,?_⟩
     .exact hr
     .exact hS1
     .exact by first | omega | (simp only at hl1; omega)
     .exact by first | (simp; omega) | (simp; simp only at hml; omega)
     .omega
     .omega
     all_goals exact cl0
   ·rw [if_neg ho] at hr
    simp only [grwH,grwB,grwC] at hq1 hq2
    simp -implicitDefEqProofs (disch:=omega) only [h0,h2,h16,h17,h18,ha0,ha1,ha2,ha3,ha4,hh16_1,hlt,hm,hq1,hq2,ho,go_sem,↓reduceIte,rA,rS,rE,rL,reduceCtorEq]
    try refine And.intro (by omega) ?_
    left
    refine (hA _ _).2 ⟨?_,?_,?_,?_,?_,?_,?_,?_,?_,?_,?_,?_⟩
    ·exact hr
    all_goals exact cl0
  ·rw [ldl (by omega),roomG] at hr
   simp -implicitDefEqProofs (disch:=omega) only [h0,h2,h16,h17,h18,ha0,ha1,ha2,ha3,ha4,hh16_1,hge,go_sem,↓reduceIte,rA,rS,rE,rL,reduceCtorEq]
   left
   first | exact hr | exact ⟨hr,rfl⟩
 ·skip
  obtain ⟨s1,r1,m1,w,w2,w3,hr,hS,hb1,hb2,hw2,hw3,h0,h2,h16,h17,h18,ha0,ha1,ha2,ha3,ha4,hh16_1,hh49_1004⟩:=(hB _ _).1 hBk
  clear hBk
  simp -implicitDefEqProofs (disch:=omega) only [h0,h2,h16,h17,h18,ha0,ha1,ha2,ha3,ha4,hh16_1,hh49_1004,go_sem,↓reduceIte,rA,rS,rE,rL,reduceCtorEq]
  refine wp_if_d (fun hlt=>?_) (fun hge=>?_)
  ·have hm : W[k]? = some W[k]:=lgg hlt
   have hdr : W.drop k = W[k] :: W.drop (k + 1):=ldg hlt
   generalize W[k] = a at hm hdr
   have ha:=hai a (lmg hm)
   rw [hdr,roomG] at hr
   have hq1:=gmost_eq t l ⟨s1,r1,m1,hi0,rf0⟩ a (by omega)
   have hq2:=gusage_eq l (g:=⟨s1,r1,m1,hi0,rf0⟩) hS ha
   have hU:=useG_bound (g:=⟨s1,r1,m1,hi0,rf0⟩) hS a
   have hM:=mostM_bound hl a
   have hst:=room_step (n:=n) (g:=⟨s1,r1,m1,hi0,rf0⟩) hS hl ha (by simp only; omega) hn1
   unfold overG at hr hst
   generalize hu0 : useG t ⟨s1,r1,m1,hi0,rf0⟩ a = U at *
   generalize mostM l a = M at *
   by_cases ho : 0 < U + n - M
   ·rw [if_pos ho] at hr
    obtain ⟨s2,r2,hS2,he2,hl2,hV1,hV2⟩:=hst ho
    have hU1:=useG_bound (g:=⟨s2,r2,m1 ++ [a],hi0,rf0⟩) hS2 a
    rw [he2] at hr
    generalize useG t ⟨s2,r2,m1 ++ [a],hi0,rf0⟩ a = U1 at *
    simp only [grwH,grwB,grwC,lma,lpc,lpn,lla,llc,lln,rA] at hq1 hq2 hV1 hV2
    by_cases hu : M < U1 + n
    ·rw [if_pos hu] at hr
     simp -implicitDefEqProofs (disch:=omega) only [h0,h2,h16,h17,h18,ha0,ha1,ha2,ha3,ha4,hh16_1,hh49_1004,hlt,hm,hq1,hq2,ho,hV1,hV2,hu,go_sem,↓reduceIte,rA,rS,rE,rL,reduceCtorEq]
     right
     rw [hr]
     simp [refG]
    ·rw [if_neg hu] at hr
     simp -implicitDefEqProofs (disch:=omega) only [h0,h2,h16,h17,h18,ha0,ha1,ha2,ha3,ha4,hh16_1,hh49_1004,hlt,hm,hq1,hq2,ho,hV1,hV2,hu,go_sem,↓reduceIte,rA,rS,rE,rL,reduceCtorEq]
     try refine And.intro (by omega) ?_
     right
     refine (hB _ _).2 ⟨s2,r2,m1 ++ [a],w + 1 + 1,w2 + 1,w3 + 1,?_,?_,?_,?_,?_,?_,?_,?_,?_,?_,?_,?_,?_,?_,?_,?_,?_,?_⟩
     .exact hr
     .exact hS2
     .exact by first | omega | (simp only at hl2; omega)
     .exact by simp; omega
     .omega
     .omega
     all_goals exact cl0
   ·rw [if_neg ho] at hr
    simp only [grwH,grwB,grwC] at hq1 hq2
    simp -implicitDefEqProofs (disch:=omega) only [h0,h2,h16,h17,h18,ha0,ha1,ha2,ha3,ha4,hh16_1,hh49_1004,hlt,hm,hq1,hq2,ho,go_sem,↓reduceIte,rA,rS,rE,rL,reduceCtorEq]
    try refine And.intro (by omega) ?_
    right
    refine (hB _ _).2 ⟨s1,r1,m1,w,w2,w3,?_,?_,?_,?_,?_,?_,?_,?_,?_,?_,?_,?_,?_,?_,?_,?_,?_,?_⟩
    .exact hr
    .exact hS
    .omega
    .omega
    .exact hw2
    .exact hw3
    all_goals exact cl0
  ·rw [ldl (by omega),roomG] at hr
   simp -implicitDefEqProofs (disch:=omega) only [h0,h2,h16,h17,h18,ha0,ha1,ha2,ha3,ha4,hh16_1,hh49_1004,hge,go_sem,↓reduceIte,rA,rS,rE,rL,reduceCtorEq]
   right
   rw [hr]
   simp [hw2,hw3]
abbrev cV (b : Bool) (i n : Nat) : VVal:=.own (.arg i 0) (if b then 1 else 0) 0 n
abbrev obV (b : Bool) (sz : Nat) (xs : List PV) : Ob:=if b then .box [.undef,.fresh sz xs] else .arr sz xs
abbrev growH (t : Tr) (l : List Mc) (s m h : Bool) (g g' : Gw) : List Ob:=[grwC t l (.fresh 4 (g'.stk.hs.map Hg.pv)) g'.stk.size (cV s 2 g'.shr.length) (cV m 3 g'.maxes.length) (cV h 4 g'.highs.length) g'.refused,.arr 4 (g.stk.hs.map Hg.pv),obV s 4 (g'.shr.map Sh.pv),obV m 1 (g'.maxes.map (.int .i64)),obV h 1 (g'.highs.map (.int .i64))]
theorem set_step {t : Tr} {l : List Mc} {g : Gw} (hS : StkOk t g.stk) (hl : McOk t.nodes l) {a : Int} (ha : InN t.nodes a) (hsl : g.shr.length < 100000) (ho : 0 < useG t g a - (getM l a).high) : ∃ s1 r1,StkOk t s1 /\ shrG t l g a (useG t g a - (getM l a).high) = ⟨s1,r1,g.maxes,g.highs,g.refused⟩ /\ r1.length <= g.shr.length + 64 /\
  V 57 [.ptr (.arg 0 0) 0 0,.p (.int .i64 a),.p (.int .i64 (useG t g a - (getM l a).high))] (grwH t l g) = some (.tup [],[grwC t l (.fresh 4 (s1.hs.map Hg.pv)) s1.size (.own (.arg 2 0) 1 0 r1.length) (.own (.arg 3 0) 0 0 g.maxes.length) (.own (.arg 4 0) 0 0 g.highs.length) g.refused,.arr 4 (g.stk.hs.map Hg.pv),.box [.undef,.fresh 4 (r1.map Sh.pv)],.arr 1 (g.maxes.map (.int .i64)),.arr 1 (g.highs.map (.int .i64))]) /\
  V 55 [.ptr (.arg 0 0) 0 0,.p (.int .i64 a)] (grwH t l ⟨s1,r1,g.maxes,g.highs,g.refused⟩) = some (.p (.int .i64 (useG t ⟨s1,r1,g.maxes,g.highs,g.refused⟩ a)),grwH t l ⟨s1,r1,g.maxes,g.highs,g.refused⟩):=by
 have hb:=useG_bound hS a
 have hM:=amtM_bound (getM_amt hl a).1
 have h1:=shrG_ok hS hl ha (n:=useG t g a - (getM l a).high) (by omega)
 have h2:=shrG_len hS hl ha (n:=useG t g a - (getM l a).high) (by omega)
 have h3:=gshrink_eq hS hl ha (n:=useG t g a - (getM l a).high) (by omega) (by omega) (by omega)
 have h4:=gusage_eq l (g:=shrG t l g a (useG t g a - (getM l a).high)) h1.stk ha
 exact ⟨(shrG t l g a (useG t g a - (getM l a).high)).stk,(shrG t l g a (useG t g a - (getM l a).high)).shr,h1.stk,rfl,h2,h3,h4⟩
set_option maxHeartbeats 8000000 in
theorem gsettle_eq {t : Tr} {l : List Mc} {g0 : Gw} (hg0 : StkOk t g0.stk) (hl : McOk t.nodes l) {id : Int} (hid : InN t.nodes id) (hsl : g0.shr.length < 10000) (hml : g0.highs.length < 1000) :
  (settleG t l (ancR t id) g0 = g0 /\ V 68 [.ptr (.arg 0 0) 0 0,.p (.int .i64 id)] (grwH t l g0) = some (.tup [],grwH t l g0)) \/
  ∃ h,(settleG t l (ancR t id) g0).maxes = g0.maxes /\ V 68 [.ptr (.arg 0 0) 0 0,.p (.int .i64 id)] (grwH t l g0) = some (.tup [],growH t l true false h g0 (settleG t l (ancR t id) g0)):=by
 have hset:=settleG_ok hl (ancR t id) g0 (fun a h=>anc_InN hg0.tree hid h) hg0
 suffices hw : wp (callF V vf68 [.ptr (.arg 0 0) 0 0,.p (.int .i64 id)] (grwH t l g0)) (fun r=>(settleG t l (ancR t id) g0 = g0 /\ r = (.tup [],grwH t l g0)) \/ ∃ h,r = (.tup [],growH t l true false h g0 (settleG t l (ancR t id) g0))) by
  obtain ⟨r,hr,hr2⟩:=hw
  have hV:=V_fix (f:=68) (vf:=vf68) rfl hr
  rcases hr2 with ⟨h1,rfl⟩ | ⟨h,rfl⟩
  ·exact .inl ⟨h1,hV⟩
  ·exact .inr ⟨h,hset.maxes,hV⟩
 clear hset
 have hlen:=hg0.tree.len
 have hll:=hl.length
 have hanc:=fanc_eq t id (by omega)
 rw [<- ancR_in hg0.tree hid] at hanc
 have hal:=ancR_len t id
 have hai : ∀ a ∈ ancR t id,InN t.nodes a:=fun a h=>anc_InN hg0.tree hid h
 generalize ancR t id = W at hanc hal hai ⊢
 obtain ⟨A,hA⟩ : ∃ I : Nat -> St -> Prop,∀ k s,I k s ↔ settleG t l W g0 = settleG t l (W.drop k) g0 /\ s.pe 0 = .ptr (.arg 0 0) 0 0 /\ s.pe 13 = .own (.slot 13 1) 0 0 W.length /\ s.pe 14 = .p (.int .i64 ↑W.length) /\ s.pe 15 = .p (.int .i64 k) /\ s.h (.arg 0 0) = some (0,grwB t l g0.stk.hs.length g0.stk.size g0.shr.length g0.maxes.length g0.highs.length g0.refused) /\ s.h (.arg 1 0) = some (0,Ob.arr 4 (g0.stk.hs.map Hg.pv)) /\ s.h (.arg 2 0) = some (0,Ob.arr 4 (g0.shr.map Sh.pv)) /\ s.h (.arg 3 0) = some (0,Ob.arr 1 (g0.maxes.map (.int .i64))) /\ s.h (.arg 4 0) = some (0,Ob.arr 1 (g0.highs.map (.int .i64))) /\ s.h (.slot 13 1) = some (0,Ob.arr 1 (List.map (.int .i64) W)):=⟨_,fun _ _=>Iff.rfl⟩
 obtain ⟨B,hB⟩ : ∃ I : Nat -> St -> Prop,∀ k s,I k s ↔ ∃ (s1 : Stk) (r1 : List Sh) (q1 : List Int) (w : Nat) (w2 : Nat) (w4 : Nat),settleG t l W g0 = settleG t l (W.drop k) ⟨s1,r1,g0.maxes,q1,g0.refused⟩ /\ StkOk t s1 /\ r1.length <= 10000 + 64 * k /\ q1.length <= 1000 + k /\ w2 ≠ 0 /\ s.pe 0 = .ptr (.arg 0 0) 0 0 /\ s.pe 13 = .own (.slot 13 1) 0 0 W.length /\ s.pe 14 = .p (.int .i64 ↑W.length) /\ s.pe 15 = .p (.int .i64 k) /\ s.h (.arg 0 0) = some (0,grwC t l (.own (.slot 36 1004) w 0 s1.hs.length) s1.size (.own (.arg 2 0) w2 0 r1.length) (.own (.arg 3 0) 0 0 g0.maxes.length) (.own (.arg 4 0) w4 0 q1.length) g0.refused) /\ s.h (.arg 1 0) = some (0,Ob.arr 4 (g0.stk.hs.map Hg.pv)) /\ s.h (.arg 2 0) = some (w2,Ob.arr 4 (r1.map Sh.pv)) /\ s.h (.arg 3 0) = some (0,Ob.arr 1 (g0.maxes.map (.int .i64))) /\ s.h (.arg 4 0) = some (w4,Ob.arr 1 (q1.map (.int .i64))) /\ s.h (.slot 13 1) = some (0,Ob.arr 1 (List.map (.int .i64) W)) /\ s.h (.slot 36 1004) = some (w,Ob.arr 4 (s1.hs.map Hg.pv)):=⟨_,fun _ _=>Iff.rfl⟩
 obtain ⟨hs0,shr0,mx0,hi0,rf0⟩:=g0
 simp only [grwH,grwB,grwC,growH] at *
 simp -implicitDefEqProofs (disch:=omega) only [vf68,vb68,hanc,go_sem,↓reduceIte,rA,rS,rE,rL,reduceCtorEq]
 refine wp_count W.length (fun k s=>A k s \/ B k s) ?_ ?_
 ·left
  try refine And.intro (by omega) ?_
  refine (hA _ _).2 ⟨?_,?_,?_,?_,?_,?_,?_,?_,?_,?_,?_⟩
  ·rfl
  all_goals exact cl0
 intro k s hk hAB
 rcases hAB with hAk | hBk
 ·skip
  obtain ⟨hr,h0,h13,h14,h15,ha0,ha1,ha2,ha3,ha4,hh13_1⟩:=(hA _ _).1 hAk
  clear hAk
  simp -implicitDefEqProofs (disch:=omega) only [h0,h13,h14,h15,ha0,ha1,ha2,ha3,ha4,hh13_1,go_sem,↓reduceIte,rA,rS,rE,rL,reduceCtorEq]
  refine wp_if_d (fun hlt=>?_) (fun hge=>?_)
  ·have hm : W[k]? = some W[k]:=lgg hlt
   have hdr : W.drop k = W[k] :: W.drop (k + 1):=ldg hlt
   generalize W[k] = a at hm hdr
   have ha:=hai a (lmg hm)
   rw [hdr,settleG] at hr
   have hq1:=msettings_eq l a (by omega)
   have hq2:=gusage_eq l (g:=⟨hs0,shr0,mx0,hi0,rf0⟩) hg0 ha
   have hU:=useG_bound (g:=⟨hs0,shr0,mx0,hi0,rf0⟩) hg0 a
   have hM:=amtM_bound (getM_amt hl a).1
   have hst:=set_step (g:=⟨hs0,shr0,mx0,hi0,rf0⟩) hg0 hl ha (by simp only at hsl ⊢; omega)
   generalize useG t ⟨hs0,shr0,mx0,hi0,rf0⟩ a = U at *
   generalize getM l a = M at *
   by_cases ho : 0 < U - M.high
   ·rw [if_pos ho] at hr
    obtain ⟨s1,r1,hS1,he1,hl1,hV1,hV2⟩:=hst ho
    have hU1:=useG_bound (g:=⟨s1,r1,mx0,hi0,rf0⟩) hS1 a
    rw [he1] at hr
    generalize useG t ⟨s1,r1,mx0,hi0,rf0⟩ a = U1 at *
    simp only [grwH,grwB,grwC] at hq1 hq2 hV1 hV2
    by_cases hu : M.high < U1
    ·rw [if_pos hu] at hr
     simp -implicitDefEqProofs (disch:=omega) only [h0,h13,h14,h15,ha0,ha1,ha2,ha3,ha4,hh13_1,hlt,hm,hq1,hq2,ho,hV1,hV2,hu,go_sem,↓reduceIte,rA,rS,rE,rL,reduceCtorEq]
     try refine And.intro (by omega) ?_
     right
     refine (hB _ _).2 ⟨s1,r1,hi0 ++ [a],nv (s.h (.slot 36 1004)) + 1,1,1,?_,?_,?_,?_,?_,?_,?_,?_,?_,?_,?_,?_,?_,?_,?_,?_⟩
     .exact hr
     .exact hS1
     .exact by first | omega | (simp only at hl1 hsl; omega)
     .exact by first | (simp; omega) | (simp; simp only at hml; omega)
     .omega
     all_goals exact cl0
    ·rw [if_neg hu] at hr
     simp -implicitDefEqProofs (disch:=omega) only [h0,h13,h14,h15,ha0,ha1,ha2,ha3,ha4,hh13_1,hlt,hm,hq1,hq2,ho,hV1,hV2,hu,go_sem,↓reduceIte,rA,rS,rE,rL,reduceCtorEq]
     try refine And.intro (by omega) ?_
     right
     refine (hB _ _).2 ⟨s1,r1,hi0,nv (s.h (.slot 36 1004)) + 1,1,0,?_,?_,?_,?_,?_,?_,?_,?_,?_,?_,?_,?_,?_,?_,?_,?_⟩
     .exact hr
     .exact hS1
     .exact by first | omega | (simp only at hl1 hsl; omega)
     .exact by first | omega | (simp only at hml; omega)
     .omega
     all_goals exact cl0
   ·rw [if_neg ho] at hr
    simp only [grwH,grwB,grwC] at hq1 hq2
    simp -implicitDefEqProofs (disch:=omega) only [h0,h13,h14,h15,ha0,ha1,ha2,ha3,ha4,hh13_1,hlt,hm,hq1,hq2,ho,go_sem,↓reduceIte,rA,rS,rE,rL,reduceCtorEq]
    try refine And.intro (by omega) ?_
    left
    refine (hA _ _).2 ⟨?_,?_,?_,?_,?_,?_,?_,?_,?_,?_,?_⟩
    ·exact hr
    all_goals exact cl0
  ·rw [ldl (by omega),settleG] at hr
   simp -implicitDefEqProofs (disch:=omega) only [h0,h13,h14,h15,ha0,ha1,ha2,ha3,ha4,hh13_1,hge,go_sem,↓reduceIte,rA,rS,rE,rL,reduceCtorEq]
   left
   first | exact hr | exact ⟨hr,rfl⟩
 ·skip
  obtain ⟨s1,r1,q1,w,w2,w4,hr,hS,hb1,hb2,hw2,h0,h13,h14,h15,ha0,ha1,ha2,ha3,ha4,hh13_1,hh36_1004⟩:=(hB _ _).1 hBk
  clear hBk
  simp -implicitDefEqProofs (disch:=omega) only [h0,h13,h14,h15,ha0,ha1,ha2,ha3,ha4,hh13_1,hh36_1004,go_sem,↓reduceIte,rA,rS,rE,rL,reduceCtorEq]
  refine wp_if_d (fun hlt=>?_) (fun hge=>?_)
  ·have hm : W[k]? = some W[k]:=lgg hlt
   have hdr : W.drop k = W[k] :: W.drop (k + 1):=ldg hlt
   generalize W[k] = a at hm hdr
   have ha:=hai a (lmg hm)
   rw [hdr,settleG] at hr
   have hq1:=msettings_eq l a (by omega)
   have hq2:=gusage_eq l (g:=⟨s1,r1,mx0,q1,rf0⟩) hS ha
   have hU:=useG_bound (g:=⟨s1,r1,mx0,q1,rf0⟩) hS a
   have hM:=amtM_bound (getM_amt hl a).1
   have hst:=set_step (g:=⟨s1,r1,mx0,q1,rf0⟩) hS hl ha (by simp only; omega)
   generalize useG t ⟨s1,r1,mx0,q1,rf0⟩ a = U at *
   generalize getM l a = M at *
   by_cases ho : 0 < U - M.high
   ·rw [if_pos ho] at hr
    obtain ⟨s2,r2,hS2,he2,hl2,hV1,hV2⟩:=hst ho
    have hU1:=useG_bound (g:=⟨s2,r2,mx0,q1,rf0⟩) hS2 a
    rw [he2] at hr
    generalize useG t ⟨s2,r2,mx0,q1,rf0⟩ a = U1 at *
    simp only [grwH,grwB,grwC] at hq1 hq2 hV1 hV2
    by_cases hu : M.high < U1
    ·rw [if_pos hu] at hr
     simp -implicitDefEqProofs (disch:=omega) only [h0,h13,h14,h15,ha0,ha1,ha2,ha3,ha4,hh13_1,hh36_1004,hlt,hm,hq1,hq2,ho,hV1,hV2,hu,go_sem,↓reduceIte,rA,rS,rE,rL,reduceCtorEq]
     try refine And.intro (by omega) ?_
     right
     refine (hB _ _).2 ⟨s2,r2,q1 ++ [a],w + 1 + 1,w2 + 1,w4 + 1,?_,?_,?_,?_,?_,?_,?_,?_,?_,?_,?_,?_,?_,?_,?_,?_⟩
     .exact hr
     .exact hS2
     .exact by first | omega | (simp only at hl2; omega)
     .exact by simp; omega
     .omega
     all_goals exact cl0
    ·rw [if_neg hu] at hr
     simp -implicitDefEqProofs (disch:=omega) only [h0,h13,h14,h15,ha0,ha1,ha2,ha3,ha4,hh13_1,hh36_1004,hlt,hm,hq1,hq2,ho,hV1,hV2,hu,go_sem,↓reduceIte,rA,rS,rE,rL,reduceCtorEq]
     try refine And.intro (by omega) ?_
     right
     refine (hB _ _).2 ⟨s2,r2,q1,w + 1 + 1,w2 + 1,w4,?_,?_,?_,?_,?_,?_,?_,?_,?_,?_,?_,?_,?_,?_,?_,?_⟩
     .exact hr
     .exact hS2
     .exact by first | omega | (simp only at hl2; omega)
     .omega
     .omega
     all_goals exact cl0
   ·rw [if_neg ho] at hr
    simp only [grwH,grwB,grwC] at hq1 hq2
    simp -implicitDefEqProofs (disch:=omega) only [h0,h13,h14,h15,ha0,ha1,ha2,ha3,ha4,hh13_1,hh36_1004,hlt,hm,hq1,hq2,ho,go_sem,↓reduceIte,rA,rS,rE,rL,reduceCtorEq]
    try refine And.intro (by omega) ?_
    right
    refine (hB _ _).2 ⟨s1,r1,q1,w,w2,w4,?_,?_,?_,?_,?_,?_,?_,?_,?_,?_,?_,?_,?_,?_,?_,?_⟩
    .exact hr
    .exact hS
    .omega
    .omega
    .exact hw2
    all_goals exact cl0
  ·rw [ldl (by omega),settleG] at hr
   by_cases hw4 : w4 = 0
   ·subst hw4
    simp -implicitDefEqProofs (disch:=omega) only [h0,h13,h14,h15,ha0,ha1,ha2,ha3,ha4,hh13_1,hh36_1004,hge,go_sem,↓reduceIte,rA,rS,rE,rL,reduceCtorEq]
    right
    refine ⟨false,?_⟩
    rw [hr]
    simp [hw2,obV]
   ·simp -implicitDefEqProofs (disch:=omega) only [h0,h13,h14,h15,ha0,ha1,ha2,ha3,ha4,hh13_1,hh36_1004,hge,go_sem,↓reduceIte,rA,rS,rE,rL,reduceCtorEq]
    right
    refine ⟨true,?_⟩
    rw [hr]
    simp [hw2,hw4,obV]
set_option maxHeartbeats 8000000 in
theorem ggrow_eq {t : Tr} {l : List Mc} {g0 : Gw} (hg0 : StkOk t g0.stk) (hl : McOk t.nodes l) {id file anon : Int} (hid : InN t.nodes id) (hf : 0 <= file) (ha : 0 <= anon) (hfa : file + anon <= 16777216) (hsl : g0.shr.length < 1000) (hml : g0.maxes.length < 1000) (hhl : g0.highs.length < 1000) :
  ∃ s m h,V 43 [.ptr (.arg 0 0) 0 0,.p (.int .i64 id),.p (.int .i64 file),.p (.int .i64 anon)] (grwH t l g0) = some (.p (.int .i64 (growG t l g0 id file anon).2),growH t l s m h g0 (growG t l g0 id file anon).1):=by
 have hT:=hg0.tree
 have hlen:=hT.len
 have hin : ∀ a ∈ ancR t id,InN t.nodes a:=fun a h=>anc_InN hT hid h
 have hal:=ancR_len t id
 have hR:=roomG_ok hl (file + anon) (ancR t id) g0 hin hg0
 have hrm:=groom_eq hg0 hl hid (n:=file + anon) (by omega) hfa hsl hml
 have hrl : (roomG t l (file + anon) (ancR t id) g0).1.shr.length <= g0.shr.length + 64 * (ancR t id).length:=roomG_len hl (file + anon) (ancR t id) g0 hin hg0
 unfold growG
 generalize roomG t l (file + anon) (ancR t id) g0 = r at hR hrm hrl ⊢
 obtain ⟨r,e⟩:=r
 have hSr : StkOk t r.stk:=hR.grw.stk
 by_cases he : e = 0
 ·subst he
  simp only [if_true]
  have hp:=put_ok hSr hid hf ha (by
   rcases hR.err with ⟨_,_,h3⟩ | ⟨h1,_⟩
   ·have h1:=h3 1 (root_in_anc hT hid)
    have h2 : mostM l 1 <= 16777216:=by
     unfold mostM
     rw [if_pos rfl]
     omega
    have h4 : usedF t (cntS r.stk.hs) 1 = useG t r 1:=rfl
    simp only at h1
    omega
   ·simp at h1)
  obtain ⟨p1,p2,p3⟩:=hp
  have hgm : (moreH (getS r.stk.hs id) file anon).group = id:=getS_group _ _
  have hrs:=hSr.hs.length
  have hget:=sget_eq r.stk id (by omega)
  have hput:=sPut_ok hSr (h:=moreH (getS r.stk.hs id) file anon) (by rw [hgm]; exact hid) p2 p3 (hSr.hs.get id).2.2 p1
  have hb:=hSr.hs.get id
  have hgr:=getS_group r.stk.hs id
  have hset:=gsettle_eq (g0:=putG r (moreH (getS r.stk.hs id) file anon)) p1 hl hid (by show r.shr.length < _; simp only at hrl; omega) (by show r.highs.length < _; rw [show r.highs = g0.highs from hR.highs]; exact hhl)
  have hq1 : (putG r (moreH (getS r.stk.hs id) file anon)).stk = ⟨putS r.stk.hs (moreH (getS r.stk.hs id) file anon),r.stk.size⟩:=rfl
  have hq : putG r (moreH (getS r.stk.hs id) file anon) = ⟨⟨putS r.stk.hs (moreH (getS r.stk.hs id) file anon),r.stk.size⟩,r.shr,r.maxes,r.highs,r.refused⟩:=rfl
  rw [hq] at hset ⊢
  clear hq hq1
  unfold moreH at hput hset ⊢
  generalize hG : getS r.stk.hs id = b at *
  obtain ⟨bg,bf,ba,bs⟩:=b
  simp only at hgr hb
  subst hgr
  simp only [inPg] at hb
  obtain ⟨⟨c1,c2⟩,⟨c3,c4⟩,c5⟩:=hb
  generalize putS r.stk.hs ⟨bg,bf + file,ba + anon,bs⟩ = y at *
  simp only [inPg] at p2 p3
  rcases hrm with ⟨h1,hV⟩ | hV
  ·have hrg : r = g0:=congrArg Prod.fst h1
   subst hrg
   obtain ⟨⟨hs0,z0⟩,shr0,mx0,hi0,rf0⟩:=r
   simp only [Stk.vv,Stk.fv,Hg.vv,grwH,grwB,grwC,growH] at hget hput hset hV ⊢
   rcases hset with ⟨e1,hV2⟩ | ⟨h,e2,hV2⟩
   ·rw [e1]
    refine ⟨false,false,false,V_wp (vf:=vf43) rfl ?_⟩
    simp -implicitDefEqProofs (disch:=omega) only [vf43,vb43,hV,hget,hput,hV2,go_sem,↓reduceIte,rA,rS,rE,rL,reduceCtorEq]
    all_goals exact cl0
   ·generalize settleG t l (ancR t bg) _ = q at e2 hV2 ⊢
    obtain ⟨⟨qs,qz⟩,qr,qm,qh,qf⟩:=q
    simp only at e2 hV2 ⊢
    subst e2
    refine ⟨true,false,h,V_wp (vf:=vf43) rfl ?_⟩
    cases h <;> (simp only [cV,obV,if_true,if_false,bft] at hV2 ⊢; simp -implicitDefEqProofs (disch:=omega) only [vf43,vb43,hV,hget,hput,hV2,go_sem,↓reduceIte,rA,rS,rE,rL,reduceCtorEq]; all_goals exact cl0)
  ·obtain ⟨⟨hs0,z0⟩,shr0,mx0,hi0,rf0⟩:=g0
   obtain ⟨⟨hs1,z1⟩,shr1,mx1,hi1,rf1⟩:=r
   have hhi : hi1 = hi0:=hR.highs
   subst hhi
   simp only [Stk.vv,Stk.fv,Hg.vv,grwH,grwB,grwC,growH,movH] at hget hput hset hV ⊢
   rcases hset with ⟨e1,hV2⟩ | ⟨h,e2,hV2⟩
   ·rw [e1]
    refine ⟨true,true,false,V_wp (vf:=vf43) rfl ?_⟩
    simp -implicitDefEqProofs (disch:=omega) only [vf43,vb43,hV,hget,hput,hV2,go_sem,↓reduceIte,rA,rS,rE,rL,reduceCtorEq]
    all_goals exact cl0
   ·generalize settleG t l (ancR t bg) _ = q at e2 hV2 ⊢
    obtain ⟨⟨qs,qz⟩,qr,qm,qh,qf⟩:=q
    simp only at e2 hV2 ⊢
    subst e2
    refine ⟨true,true,h,V_wp (vf:=vf43) rfl ?_⟩
    cases h <;> (simp only [cV,obV,if_true,if_false,bft] at hV2 ⊢; simp -implicitDefEqProofs (disch:=omega) only [vf43,vb43,hV,hget,hput,hV2,go_sem,↓reduceIte,rA,rS,rE,rL,reduceCtorEq]; all_goals exact cl0)
 ·rcases hrm with ⟨h1,_⟩ | hV
  ·exact absurd (congrArg Prod.snd h1) he
  ·simp only [if_neg he]
   refine ⟨true,true,false,V_wp (vf:=vf43) rfl ?_⟩
   obtain ⟨⟨hs0,z0⟩,shr0,mx0,hi0,rf0⟩:=g0
   obtain ⟨⟨hs1,z1⟩,shr1,mx1,hi1,rf1⟩:=r
   have hhi : hi1 = hi0:=hR.highs
   subst hhi
   simp only [grwH,grwB,grwC,growH,movH] at hV ⊢
   simp -implicitDefEqProofs (disch:=omega) only [vf43,vb43,hV,he,go_sem,↓reduceIte,rA,rS,rE,rL,reduceCtorEq]
   all_goals exact cl0
where
 roomG_len {t : Tr} {l : List Mc} (hl : McOk t.nodes l) (n : Int) : ∀ (as_ : List Int) (g : Gw),(∀ a ∈ as_,InN t.nodes a) -> StkOk t g.stk -> (roomG t l n as_ g).1.shr.length <= g.shr.length + 64 * as_.length
  | [],g,_,_=>by simp [roomG]
  | a :: as_,g,has,hg=>by
   have ha:=has a (by simp)
   have has' : ∀ x ∈ as_,InN t.nodes x:=fun x hx=>has x (by simp [hx])
   unfold roomG
   by_cases ho : 0 < overG t l n g a
   ·rw [if_pos ho]
    have h1 : Grw t g (shrG t l (maxG g a) a (overG t l n g a)):=grw_max a (shrG_ok (g:=maxG g a) hg hl ha (by omega))
    have h2:=shrG_len (g:=maxG g a) hg hl ha (n:=overG t l n g a) (by omega)
    have h3 : (maxG g a).shr = g.shr:=rfl
    rw [h3] at h2
    split
    ·show (shrG t l (maxG g a) a (overG t l n g a)).shr.length <= _
     rw [llc]
     omega
    ·have:=roomG_len hl n as_ _ has' h1.stk
     rw [llc]
     omega
   ·rw [if_neg ho]
    have:=roomG_len hl n as_ g has' hg
    rw [llc]
    omega
abbrev gwF (g : Gw) : VVal:=.agg [.fresh 4 (g.stk.hs.map Hg.pv),.p (.int .i64 g.stk.size),.fresh 4 (g.shr.map Sh.pv),.fresh 1 (g.maxes.map (.int .i64)),.fresh 1 (g.highs.map (.int .i64)),.p (.int .i64 g.refused)]
set_option maxHeartbeats 2000000 in
theorem mbegin_eq (t : Tr) (sw : Stk) (l : List Mc) (hsl : sw.hs.length < 1000000) : V 42 [t.vv,sw.vv,.p (mcsP l)] [] = some (.boxed [.p (nodesP t.nodes),.p (.int .i64 t.next),.p (mcsP l),.fresh 4 (sw.hs.map Hg.pv),.p (.int .i64 sw.size),.fresh 4 [],.fresh 1 [],.fresh 1 [],.p (.int .i64 0)],[]):=by
 refine V_wp (vf:=vf42) rfl ?_
 simp -implicitDefEqProofs (disch:=omega) only [vf42,vb42,llm,go_sem,↓reduceIte,rA,rS,rE,rL,reduceCtorEq]
set_option maxHeartbeats 8000000 in
theorem grow_eq {t : Tr} {sw : Stk} {l : List Mc} (hs : StkOk t sw) (hl : McOk t.nodes l) {id file anon : Int} (hid : InN t.nodes id) (hf : 0 <= file) (hf1 : file <= 16777216) (ha : 0 <= anon) (ha1 : anon <= 16777216 - file) : V 16 [t.vv,sw.vv,.p (mcsP l),.p (.int .i64 id),.p (.int .i64 file),.p (.int .i64 anon)] [] = some (.tup [gwF (growG t l ⟨sw,[],[],[],0⟩ id file anon).1,.p (.int .i64 (growG t l ⟨sw,[],[],[],0⟩ id file anon).2)],[]):=by
 refine V_wp (vf:=vf16) rfl ?_
 have h1:=mcheck_ok hs hl hid
 have hsl:=hs.hs.length
 have hlen:=hs.tree.len
 have h2:=mbegin_eq t sw l (by omega)
 obtain ⟨s,m,h,hV⟩:=ggrow_eq (g0:=⟨sw,[],[],[],0⟩) hs hl hid hf ha (by omega) (by simp) (by simp) (by simp)
 have n1 : ¬ file < 0:=by omega
 have n2 : ¬ 16777216 < file:=by omega
 have n3 : ¬ anon < 0:=by omega
 have n4 : ¬ 16777216 - file < anon:=by omega
 generalize growG t l ⟨sw,[],[],[],0⟩ id file anon = r at hV ⊢
 obtain ⟨⟨⟨x,z⟩,shr,mx,hi,rf⟩,e⟩:=r
 obtain ⟨hs0,z0⟩:=sw
 simp only [Stk.vv,Stk.fv,grwH,grwB,grwC,growH,lpn,lln] at h1 h2 hV ⊢
 cases s <;> cases m <;> cases h <;> (simp only [cV,obV,if_true,if_false,bft] at hV; simp -implicitDefEqProofs (disch:=omega) only [vf16,vb16,h1,h2,n1,n2,n3,n4,hV,go_sem,↓reduceIte,rA,rS,rE,rL,reduceCtorEq])
set_option maxHeartbeats 2000000 in
theorem mems_eq (L : List Int) (a : Nat) (t : Tr) (hL : L.length < 4611686018427387904) (hl : t.nodes.length < 1000000) : V 14 [.ptr (.arg 0 0) 0 0,t.vv] [diceB L a] = some (.fresh 7 ((dMems L t.nodes a).1.map Mc.pv),[diceB L (dMems L t.nodes a).2]):=by
 refine V_wp (vf:=vf14) rfl ?_
 simp -implicitDefEqProofs (disch:=omega) only [vf14,vb14,go_sem,↓reduceIte,rA,rS,rE,rL,reduceCtorEq]
 obtain ⟨I,hI⟩ : ∃ I : Nat -> St -> Prop,∀ k s,I k s ↔ ∃ (b : Nat) (acc : List Mc) (w : Nat),dMems L t.nodes a = (acc ++ (dMems L (t.nodes.drop k) b).1,(dMems L (t.nodes.drop k) b).2) /\ acc.length <= k /\ s.pe 0 = .ptr (Id.arg 0 0) 0 0 /\ s.pe 3 = .ptr (.slot 3 0) 0 0 /\ s.pe 5 = .own (.slot 5 0) w 0 acc.length /\ s.pe 6 = .p (.int .i64 k) /\ s.h (.arg 0 0) = some (0,diceB L b) /\ s.h (.slot 3 0) = some (0,Ob.box [.p (nodesP t.nodes),.p (.int .i64 t.next)]) /\ s.h (.slot 5 0) = some (w,Ob.arr 7 (acc.map Mc.pv)):=⟨_,fun _ _=>Iff.rfl⟩
 refine wp_count (t.nodes.length) I ?_ ?_
 ·refine (hI _ _).2 ⟨a,[],0,?_,?_,?_,?_,?_,?_,?_,?_,?_⟩
  ·rfl
  ·exact cl3
  all_goals exact cl0
 intro k s hk hIk
 obtain ⟨b,acc,w,hd,hal,h0,h3,h5,h6,ha0,hh3_0,hh5_0⟩:=(hI _ _).1 hIk
 clear hIk
 simp -implicitDefEqProofs (disch:=omega) only [h0,h3,h5,h6,ha0,hh3_0,hh5_0,go_sem,↓reduceIte,rA,rS,rE,rL,reduceCtorEq]
 refine wp_if_d (fun hlt=>?_) (fun hge=>?_)
 ·have hm : t.nodes[k]? = some t.nodes[k]:=lgg hlt
  have hdr : t.nodes.drop k = t.nodes[k] :: t.nodes.drop (k + 1):=ldg hlt
  generalize t.nodes[k] = m at hm hdr
  rw [hdr,dMems] at hd
  have hb:=next_eq L b 3 hL (by omega)
  have hme:=memory_eq L (nextA L b 3) m.id hL
  have hmg : m.id = (memD L (nextA L b 3) m.id).group:=rfl
  generalize memD L (nextA L b 3) m.id = c at hme hd hmg
  generalize memZ L (nextA L b 3) = b2 at hme hd
  generalize nextA L b 3 = b1 at hb hme hd
  by_cases hx : 0 < nextV L b 3
  ·rw [if_pos hx] at hd
   simp only [Mc.mv] at hme
   simp -implicitDefEqProofs (disch:=omega) only [h0,h3,h5,h6,ha0,hh3_0,hh5_0,hlt,hm,hb,hme,hx,hmg,go_sem,↓reduceIte,rA,rS,rE,rL,reduceCtorEq]
   try refine And.intro (by omega) ?_
   refine (hI _ _).2 ⟨b2,acc ++ [c],w + 1,?_,?_,?_,?_,?_,?_,?_,?_,?_⟩
   .exact by rw [hd]; simp
   .exact by simp; omega
   all_goals exact cl0
  ·rw [if_neg hx] at hd
   simp -implicitDefEqProofs (disch:=omega) only [h0,h3,h5,h6,ha0,hh3_0,hh5_0,hlt,hm,hb,hx,go_sem,↓reduceIte,rA,rS,rE,rL,reduceCtorEq]
   try refine And.intro (by omega) ?_
   refine (hI _ _).2 ⟨b1,acc,w,?_,?_,?_,?_,?_,?_,?_,?_,?_⟩
   .exact hd
   .omega
   all_goals exact cl0
 ·rw [ldl (by omega),dMems] at hd
  rw [hd]
  simp -implicitDefEqProofs (disch:=omega) only [h0,h3,h5,h6,ha0,hh3_0,hh5_0,hge,go_sem,↓reduceIte,rA,rS,rE,rL,reduceCtorEq]
  try simp
set_option maxHeartbeats 2000000 in
theorem trial26_eq (L : List Int) (hL : L.length <= 600) : ∃ (t : Tr) (sw : Stk) (l : List Mc) (j : Nat) (m : Nd) (a0 a1 a2 a3 : Nat),StkOk t sw /\ McOk t.nodes l /\ t.nodes[j]? = some m /\
  V 12 [.ptr (.arg 0 0) 0 0,.p (.int .i64 6)] [.box [.p (intsP L),.p (.int .i64 0)]] = some (t.vv,[diceB L a0]) /\
  V 13 [.ptr (.arg 0 0) 0 0,t.vv] [diceB L a0] = some (sw.fv,[diceB L a1]) /\
  V 14 [.ptr (.arg 0 0) 0 0,t.vv] [diceB L a1] = some (.fresh 7 (l.map Mc.pv),[diceB L a2]) /\
  V 15 [.ptr (.arg 0 0) 0 0,.p (.int .i64 t.nodes.length)] [diceB L a2] = some (.p (.int .i64 j),[diceB L a3]):=by
 have htr : V 12 [.ptr (.arg 0 0) 0 0,.p (.int .i64 6)] [.box [.p (intsP L),.p (.int .i64 0)]] = some ((dTree L 0 6).1.vv,[diceB L (dTree L 0 6).2]):=tree_eq L 0 6 (by omega) (by omega)
 have hok:=dTree_ok L 0 6
 generalize dTree L 0 6 = ta at htr hok
 obtain ⟨t,a0⟩:=ta
 simp only at htr hok
 have hlen:=hok.len
 have hst:=stock_eq L a0 hok (by omega)
 have hso : StkOk t (madeS L a0 t).1:=dStock_ok L t _ _ _ (stock0_ok L a0 hok)
 generalize madeS L a0 t = sa at hst hso
 obtain ⟨sw,a1⟩:=sa
 have hme:=mems_eq L a1 t (by omega) (by omega)
 have hmo:=dMems_ok L hok a1
 generalize dMems L t.nodes a1 = ma at hme hmo
 obtain ⟨l,a2⟩:=ma
 have hnx:=next_eq L a2 t.nodes.length (by omega) (by omega)
 have hnn:=nextV_nonneg L a2 t.nodes.length
 have hnl:=nextV_lt L a2 (n:=t.nodes.length) (by omega)
 generalize nextV L a2 t.nodes.length = d at hnx hnn hnl
 obtain ⟨j,rfl⟩ : ∃ j : Nat,d = j:=⟨d.toNat,by omega⟩
 exact ⟨t,sw,l,j,t.nodes[j],a0,a1,a2,_,hso,hmo,lgg (by omega),htr,hst,hme,hnx⟩
structure Lone (t : Tr) (sw : Stk) (root : Int) (l : List Ch) : Prop where
 trial : TrialOk t sw [] l root
 sub : subA t root = [root]
 kids : kidsN t.nodes root = []
 file : (getS sw.hs root).file = 0
section
variable {t : Tr} {sw : Stk} {root n : Int} {l : List Ch}
theorem Lone.eff (h : Lone t sw root l) : effP t sw [] root = [⟨root,0,0⟩]:=by
 obtain ⟨i,m,hm,hme⟩:=h.trial.root
 unfold effP effL
 rw [show subT t root = [root] by rw [<- hme,subT_some h.trial.stk.tree hm,hme]; exact h.sub,show msort [root] = [root] from by simp [msort]]
 simp only [lpc,lpn,effPr,effT_root]
end
def t2 : Tr:=⟨[⟨1,0,⟨#[]⟩,0,0,0⟩,⟨2,1,⟨#[97]⟩,0,0,0⟩],3⟩
theorem subT_2 : subT t2 2 = [2]:=by decide
theorem msort_2 : msort (subT t2 2) = [2]:=by rw [subT_2,msort_of (by decide)]
theorem calc_2 {sw : Stk} {n : Int} {s : ShSt} {x : List Hg} {o : List Sh} (hz : pagesB sw.size = true) (hn : pagesB n = true) (he : effL t2 (cntS sw.hs) [] 2 = [⟨2,0,0⟩]) (h : shrS t2 sw.size [] [⟨2,0,0⟩] 2 (sw.hs,(fun _=>zeroSh),n) 4 = s) (h1 : s.1 = x) (h2 : outL s.2.1 [⟨2,0,0⟩] = o) (hv : validS t2 sw = true) : ShrinkS t2 sw [] [] 2 n = (⟨x,sw.size⟩,o,0):=by
 have h3 : (validS t2 sw && validPr t2 [] && validLK t2 []) = true:=by rw [hv]; decide
 have h4 : (findN t2.nodes 2).isSome = true:=by decide
 rw [ShrinkS,if_pos h3,if_pos h4,if_pos hn]
 simp only [he]
 rw [h,h1,h2]
theorem shrink_21 : ShrinkS t2 ⟨[⟨2,15,0,0⟩],0⟩ [] [] 2 5 = (⟨[⟨2,10,0,0⟩],0⟩,[⟨2,5,0,0⟩],0):=calc_2 (by decide) (by decide) (by unfold effL; rw [msort_2]; decide) (s:=takeSt true true (takeSt false true (takeSt true false (takeSt false false ([⟨2,15,0,0⟩],(fun _=>zeroSh),5) [(2,5)]) []) []) []) (shr_calc (rnd_calc msort_2 rfl (by decide) (by decide) (by decide) (by decide)) (rnd_calc msort_2 rfl (by decide) (by decide) (by decide) (by decide)) (rnd_calc msort_2 rfl (by decide) (by decide) (by decide) (by decide)) (rnd_calc msort_2 rfl (by decide) (by decide) (by decide) (by decide))) (by decide) (by decide) (by decide)
theorem shrink_22 : ShrinkS t2 ⟨[⟨2,15,0,0⟩],0⟩ [] [] 2 25 = (⟨[],0⟩,[⟨2,15,0,0⟩],0):=calc_2 (by decide) (by decide) (by unfold effL; rw [msort_2]; decide) (s:=takeSt true true (takeSt false true (takeSt true false (takeSt false false ([⟨2,15,0,0⟩],(fun _=>zeroSh),25) [(2,15)]) []) []) []) (shr_calc (rnd_calc msort_2 rfl (by decide) (by decide) (by decide) (by decide)) (rnd_calc msort_2 rfl (by decide) (by decide) (by decide) (by decide)) (rnd_calc msort_2 rfl (by decide) (by decide) (by decide) (by decide)) (rnd_calc msort_2 rfl (by decide) (by decide) (by decide) (by decide))) (by decide) (by decide) (by decide)
theorem shrink_23 : ShrinkS t2 ⟨[⟨2,10,10,0⟩],0⟩ [] [] 2 8 = (⟨[⟨2,2,10,0⟩],0⟩,[⟨2,8,0,0⟩],0):=calc_2 (by decide) (by decide) (by unfold effL; rw [msort_2]; decide) (s:=takeSt true true (takeSt false true (takeSt true false (takeSt false false ([⟨2,10,10,0⟩],(fun _=>zeroSh),8) [(2,8)]) []) []) []) (shr_calc (rnd_calc msort_2 rfl (by decide) (by decide) (by decide) (by decide)) (rnd_calc msort_2 rfl (by decide) (by decide) (by decide) (by decide)) (rnd_calc msort_2 rfl (by decide) (by decide) (by decide) (by decide)) (rnd_calc msort_2 rfl (by decide) (by decide) (by decide) (by decide))) (by decide) (by decide) (by decide)
abbrev g2 (s : Stk) : Gw:=⟨s,[],[],[],0⟩
abbrev l2 (most high : Int) : List Mc:=[⟨2,0,0,high,most,4611686018427387904,false⟩]
theorem grow_21 : growG t2 (l2 20 4611686018427387904) (g2 ⟨[⟨2,15,0,0⟩],0⟩) 2 0 10 = (⟨⟨[⟨2,10,10,0⟩],0⟩,[⟨2,5,0,0⟩],[2],[],0⟩,0):=by
 have hs : shrG t2 (l2 20 4611686018427387904) (maxG (g2 ⟨[⟨2,15,0,0⟩],0⟩) 2) 2 5 = ⟨⟨[⟨2,10,0,0⟩],0⟩,[⟨2,5,0,0⟩],[2],[],0⟩:=by
  unfold shrG
  rw [show prsM (l2 20 4611686018427387904) = [] from by decide,show chsM (l2 20 4611686018427387904) = [] from by decide,show min (5 : Int) 16777216 = 5 from by decide,show (maxG (g2 ⟨[⟨2,15,0,0⟩],0⟩) 2).stk = ⟨[⟨2,15,0,0⟩],0⟩ from rfl,shrink_21]
  rfl
 have hr : roomG t2 (l2 20 4611686018427387904) 10 [2,1] (g2 ⟨[⟨2,15,0,0⟩],0⟩) = (⟨⟨[⟨2,10,0,0⟩],0⟩,[⟨2,5,0,0⟩],[2],[],0⟩,0):=by
  unfold roomG
  rw [show overG t2 (l2 20 4611686018427387904) 10 (g2 ⟨[⟨2,15,0,0⟩],0⟩) 2 = 5 from by decide,if_pos (by decide),hs,if_neg (by decide)]
  unfold roomG
  rw [if_neg (by decide)]
  rfl
 unfold growG
 rw [show ancR t2 2 = [2,1] from by decide]
 have hp : putG ⟨⟨[⟨2,10,0,0⟩],0⟩,[⟨2,5,0,0⟩],[2],[],0⟩ (moreH (getS [⟨2,10,0,0⟩] 2) 0 10) = ⟨⟨[⟨2,10,10,0⟩],0⟩,[⟨2,5,0,0⟩],[2],[],0⟩:=by rfl
 have hst : settleG t2 (l2 20 4611686018427387904) [2,1] ⟨⟨[⟨2,10,10,0⟩],0⟩,[⟨2,5,0,0⟩],[2],[],0⟩ = ⟨⟨[⟨2,10,10,0⟩],0⟩,[⟨2,5,0,0⟩],[2],[],0⟩:=by
  unfold settleG
  rw [if_neg (by decide)]
  unfold settleG
  rw [if_neg (by decide)]
  rfl
 simp only [Int.zero_add,hr,if_true,hp,hst]
theorem grow_22 : growG t2 (l2 20 4611686018427387904) (g2 ⟨[⟨2,15,0,0⟩],0⟩) 2 0 30 = (⟨⟨[],0⟩,[⟨2,15,0,0⟩],[2],[],2⟩,20):=by
 have hs : shrG t2 (l2 20 4611686018427387904) (maxG (g2 ⟨[⟨2,15,0,0⟩],0⟩) 2) 2 25 = ⟨⟨[],0⟩,[⟨2,15,0,0⟩],[2],[],0⟩:=by
  unfold shrG
  rw [show prsM (l2 20 4611686018427387904) = [] from by decide,show chsM (l2 20 4611686018427387904) = [] from by decide,show min (25 : Int) 16777216 = 25 from by decide,show (maxG (g2 ⟨[⟨2,15,0,0⟩],0⟩) 2).stk = ⟨[⟨2,15,0,0⟩],0⟩ from rfl,shrink_22]
  rfl
 have hr : roomG t2 (l2 20 4611686018427387904) 30 [2,1] (g2 ⟨[⟨2,15,0,0⟩],0⟩) = (⟨⟨[],0⟩,[⟨2,15,0,0⟩],[2],[],2⟩,20):=by
  unfold roomG
  rw [show overG t2 (l2 20 4611686018427387904) 30 (g2 ⟨[⟨2,15,0,0⟩],0⟩) 2 = 25 from by decide,if_pos (by decide),hs,if_pos (by decide)]
  rfl
 unfold growG
 rw [show ancR t2 2 = [2,1] from by decide]
 simp only [Int.zero_add,hr]
 rw [if_neg (by decide)]
theorem grow_23 : growG t2 (l2 20 12) (g2 ⟨[⟨2,15,0,0⟩],0⟩) 2 0 10 = (⟨⟨[⟨2,2,10,0⟩],0⟩,[⟨2,5,0,0⟩,⟨2,8,0,0⟩],[2],[],0⟩,0):=by
 have hs : shrG t2 (l2 20 12) (maxG (g2 ⟨[⟨2,15,0,0⟩],0⟩) 2) 2 5 = ⟨⟨[⟨2,10,0,0⟩],0⟩,[⟨2,5,0,0⟩],[2],[],0⟩:=by
  unfold shrG
  rw [show prsM (l2 20 12) = [] from by decide,show chsM (l2 20 12) = [] from by decide,show min (5 : Int) 16777216 = 5 from by decide,show (maxG (g2 ⟨[⟨2,15,0,0⟩],0⟩) 2).stk = ⟨[⟨2,15,0,0⟩],0⟩ from rfl,shrink_21]
  rfl
 have hr : roomG t2 (l2 20 12) 10 [2,1] (g2 ⟨[⟨2,15,0,0⟩],0⟩) = (⟨⟨[⟨2,10,0,0⟩],0⟩,[⟨2,5,0,0⟩],[2],[],0⟩,0):=by
  unfold roomG
  rw [show overG t2 (l2 20 12) 10 (g2 ⟨[⟨2,15,0,0⟩],0⟩) 2 = 5 from by decide,if_pos (by decide),hs,if_neg (by decide)]
  unfold roomG
  rw [if_neg (by decide)]
  rfl
 have hp : putG ⟨⟨[⟨2,10,0,0⟩],0⟩,[⟨2,5,0,0⟩],[2],[],0⟩ (moreH (getS [⟨2,10,0,0⟩] 2) 0 10) = ⟨⟨[⟨2,10,10,0⟩],0⟩,[⟨2,5,0,0⟩],[2],[],0⟩:=by rfl
 have hs2 : shrG t2 (l2 20 12) ⟨⟨[⟨2,10,10,0⟩],0⟩,[⟨2,5,0,0⟩],[2],[],0⟩ 2 8 = ⟨⟨[⟨2,2,10,0⟩],0⟩,[⟨2,5,0,0⟩,⟨2,8,0,0⟩],[2],[],0⟩:=by
  unfold shrG
  rw [show prsM (l2 20 12) = [] from by decide,show chsM (l2 20 12) = [] from by decide,show min (8 : Int) 16777216 = 8 from by decide,shrink_23]
  rfl
 have hst : settleG t2 (l2 20 12) [2,1] ⟨⟨[⟨2,10,10,0⟩],0⟩,[⟨2,5,0,0⟩],[2],[],0⟩ = ⟨⟨[⟨2,2,10,0⟩],0⟩,[⟨2,5,0,0⟩,⟨2,8,0,0⟩],[2],[],0⟩:=by
  unfold settleG
  rw [show useG t2 ⟨⟨[⟨2,10,10,0⟩],0⟩,[⟨2,5,0,0⟩],[2],[],0⟩ 2 - (getM (l2 20 12) 2).high = 8 from by decide,if_pos (by decide),hs2,if_neg (by decide)]
  unfold settleG
  rw [if_neg (by decide)]
  rfl
 unfold growG
 rw [show ancR t2 2 = [2,1] from by decide]
 simp only [Int.zero_add,hr,if_true,hp,hst]
theorem in_2 : InN t2.nodes 2:=⟨1,⟨2,1,⟨#[97]⟩,0,0,0⟩,rfl,rfl⟩
theorem l2_ok (a b : Int) (ha : amtM a = true) (hb : amtM b = true) : McOk t2.nodes (l2 a b):=by
 refine ⟨?_,by simp,?_⟩
 ·intro m hm
  simp only [List.mem_singleton] at hm
  subst hm
  show (findN t2.nodes 2).isSome = true
  decide
 ·intro m hm
  simp only [List.mem_singleton] at hm
  subst hm
  exact ⟨rfl,rfl,hb,ha,rfl⟩
theorem stk_2 {s : Stk} (h : validS t2 s = true) : StkOk t2 s:=(validS_iff t2 s).1 h
set_option maxHeartbeats 8000000 in
theorem sane26_eq : V 10 [] [] = some (.p (.bool true),[]):=by
 have hs:=stk_2 (s:=⟨[⟨2,15,0,0⟩],0⟩) (by decide)
 have c1:=grow_eq hs (l2_ok 20 4611686018427387904 (by decide) (by decide)) in_2 (file:=0) (anon:=10) (by omega) (by omega) (by omega) (by omega)
 have c2:=grow_eq hs (l2_ok 20 4611686018427387904 (by decide) (by decide)) in_2 (file:=0) (anon:=30) (by omega) (by omega) (by omega) (by omega)
 have c3:=grow_eq hs (l2_ok 20 12 (by decide) (by decide)) in_2 (file:=0) (anon:=10) (by omega) (by omega) (by omega) (by omega)
 rw [grow_21] at c1
 rw [grow_22] at c2
 rw [grow_23] at c3
 have hdf : V 21 [] [] = some (.agg [.p (.int .i64 0),.p (.int .i64 0),.p (.int .i64 4611686018427387904),.p (.int .i64 4611686018427387904),.p (.int .i64 4611686018427387904),.p (.bool false)],[]):=by
  refine V_wp (vf:=vf21) rfl ?_
  simp -implicitDefEqProofs (disch:=omega) only [vf21,vb21,go_sem,↓reduceIte,rA,rS,rE,rL,reduceCtorEq]
 have s1:=sameH_eq [⟨2,10,10,0⟩] [⟨2,10,10,0⟩] (by simp)
 have s2:=sameH_eq [⟨2,2,10,0⟩] [⟨2,2,10,0⟩] (by simp)
 simp only [t2,Tr.vv,nodesP,hgsP,mcsP,l2,Stk.vv,g2,lpc,lpn,Nd.pv,Hg.pv,Mc.pv,Sh.pv,gwF,decide_true] at c1 c2 c3 s1 s2
 refine V_wp (vf:=vf10) rfl ?_
 simp -implicitDefEqProofs (disch:=omega) only [vf10,vb10,hdf,c1,c2,c3,s1,s2,Int.toNat_zero,List.getElem?_cons_zero,List.set_cons_zero,Int.natCast_zero,go_sem,↓reduceIte,rA,rS,rE,rL,reduceCtorEq]
theorem settleG_len {t : Tr} {l : List Mc} (hl : McOk t.nodes l) : ∀ (as_ : List Int) (g : Gw),(∀ a ∈ as_,InN t.nodes a) -> StkOk t g.stk -> (settleG t l as_ g).shr.length <= g.shr.length + 64 * as_.length /\ (settleG t l as_ g).highs.length <= g.highs.length + as_.length
 | [],g,_,_=>by simp [settleG]
 | a :: as_,g,has,hg=>by
  have ha:=has a (by simp)
  have has' : ∀ x ∈ as_,InN t.nodes x:=fun x hx=>has x (by simp [hx])
  unfold settleG
  rw [llc]
  by_cases ho : 0 < useG t g a - (getM l a).high
  ·rw [if_pos ho]
   have h1:=shrG_ok hg hl ha (n:=useG t g a - (getM l a).high) (by omega)
   have h2:=shrG_len hg hl ha (n:=useG t g a - (getM l a).high) (by omega)
   have e2 : (shrG t l g a (useG t g a - (getM l a).high)).highs = g.highs:=rfl
   generalize shrG t l g a (useG t g a - (getM l a).high) = g1 at *
   split
   ·have ih:=settleG_len hl as_ (highG g1 a) has' h1.stk
    have e3 : (highG g1 a).shr = g1.shr:=rfl
    have e4 : (highG g1 a).highs = g1.highs ++ [a]:=rfl
    rw [e3,e4,lla,e2] at ih
    simp only [llc,lln] at ih
    omega
   ·have ih:=settleG_len hl as_ g1 has' h1.stk
    rw [e2] at ih
    omega
  ·rw [if_neg ho]
   have ih:=settleG_len hl as_ g has' hg
   omega
theorem roomG_maxes {t : Tr} {l : List Mc} (n : Int) : ∀ (as_ : List Int) (g : Gw),(roomG t l n as_ g).1.maxes.length <= g.maxes.length + as_.length
 | [],g=>by simp [roomG]
 | a :: as_,g=>by
  unfold roomG
  rw [llc]
  have e : (shrG t l (maxG g a) a (overG t l n g a)).maxes = g.maxes ++ [a]:=rfl
  split
  ·split
   ·show (shrG t l (maxG g a) a (overG t l n g a)).maxes.length <= _
    rw [e,lla]
    simp only [llc,lln]
    omega
   ·have:=roomG_maxes (t:=t) (l:=l) n as_ (shrG t l (maxG g a) a (overG t l n g a))
    rw [e,lla] at this
    simp only [llc,lln] at this
    omega
  ·have:=roomG_maxes (t:=t) (l:=l) n as_ g
   omega
theorem roomG_shr {t : Tr} {l : List Mc} (hl : McOk t.nodes l) (n : Int) : ∀ (as_ : List Int) (g : Gw),(∀ a ∈ as_,InN t.nodes a) -> StkOk t g.stk -> (roomG t l n as_ g).1.shr.length <= g.shr.length + 64 * as_.length
 | [],g,_,_=>by simp [roomG]
 | a :: as_,g,has,hg=>by
  have ha:=has a (by simp)
  have has' : ∀ x ∈ as_,InN t.nodes x:=fun x hx=>has x (by simp [hx])
  unfold roomG
  by_cases ho : 0 < overG t l n g a
  ·rw [if_pos ho]
   have h1 : Grw t g (shrG t l (maxG g a) a (overG t l n g a)):=grw_max a (shrG_ok (g:=maxG g a) hg hl ha (by omega))
   have h2:=shrG_len (g:=maxG g a) hg hl ha (n:=overG t l n g a) (by omega)
   have h3 : (maxG g a).shr = g.shr:=rfl
   rw [h3] at h2
   split
   ·show (shrG t l (maxG g a) a (overG t l n g a)).shr.length <= _
    rw [llc]
    omega
   ·have:=roomG_shr hl n as_ _ has' h1.stk
    rw [llc]
    omega
  ·rw [if_neg ho]
   have:=roomG_shr hl n as_ g has' hg
   rw [llc]
   omega
theorem growG_len {t : Tr} {l : List Mc} (hl : McOk t.nodes l) {g : Gw} (hg : StkOk t g.stk) {id file anon : Int} (hid : InN t.nodes id) (hf : 0 <= file) (ha : 0 <= anon) : (growG t l g id file anon).1.shr.length <= g.shr.length + 128 * 64 /\ (growG t l g id file anon).1.highs.length <= g.highs.length + 64 /\ (growG t l g id file anon).1.maxes.length <= g.maxes.length + 64:=by
 have hT:=hg.tree
 have hlen:=hT.len
 have hin : ∀ a ∈ ancR t id,InN t.nodes a:=fun a h=>anc_InN hT hid h
 have hal:=ancR_len t id
 have hR:=roomG_ok hl (file + anon) (ancR t id) g hin hg
 have hrl:=roomG_shr hl (file + anon) (ancR t id) g hin hg
 have hml:=roomG_maxes (t:=t) (l:=l) (file + anon) (ancR t id) g
 unfold growG
 by_cases he : (roomG t l (file + anon) (ancR t id) g).2 = 0
 ·rw [if_pos he]
  have hp : StkOk t (putG (roomG t l (file + anon) (ancR t id) g).1 (moreH (getS (roomG t l (file + anon) (ancR t id) g).1.stk.hs id) file anon)).stk:=(put_ok hR.grw.stk hid hf ha (by
   rcases hR.err with ⟨_,_,h3⟩ | ⟨h1,_⟩
   ·have h1:=h3 1 (root_in_anc hT hid)
    have h2 : mostM l 1 <= 16777216:=by
     unfold mostM
     rw [if_pos rfl]
     omega
    have h4 : usedF t (cntS (roomG t l (file + anon) (ancR t id) g).1.stk.hs) 1 = useG t (roomG t l (file + anon) (ancR t id) g).1 1:=rfl
    omega
   .omega)).1
  have hs:=settleG_len hl (ancR t id) _ hin hp
  have hso:=settleG_ok hl (ancR t id) _ hin hp
  have e1 : ∀ (r : Gw) (h : Hg),(putG r h).shr = r.shr /\ (putG r h).highs = r.highs /\ (putG r h).maxes = r.maxes:=fun _ _=>⟨rfl,rfl,rfl⟩
  have hm:=hso.maxes
  rw [(e1 _ _).1,(e1 _ _).2.1,hR.highs] at hs
  rw [(e1 _ _).2.2] at hm
  simp only [hm]
  omega
 ·rw [if_neg he]
  have:=hR.highs
  rw [this]
  omega
theorem effN_zero (ns : List Nd) (cl : Int -> Int) (h : ∀ x,cl x = 0) (root : Int) : ∀ k g,effN ns cl root k g = 0
 | 0,_=>rfl
 | k + 1,g=>by
  rw [effN,h g]
  split
  ·rfl
  ·split
   ·rfl
   ·split
    .rfl
    .rw [Int.zero_mul,Int.zero_ediv]
theorem lookPr_zero {f : Pr -> Int} {l : List Pr} (h : ∀ x ∈ l,f x = 0) (id : Int) : lookPr f l id = 0:=by
 induction l with
 | nil=>rfl
 | cons x l ih =>
  unfold lookPr
  split
  ·rw [h x (by simp)]
   rfl
  .exact ih fun y hy=>h y (by simp [hy])
theorem sumI_parts {ks : List Int} {f : Int -> Int} (h : ∀ c ∈ ks,0 <= f c) (hs : sumI (ks.map f) <= 0) : ∀ c ∈ ks,f c = 0:=by
 induction ks with
 | nil=>intro c hc; simp at hc
 | cons k ks ih =>
  have h1:=h k (by simp)
  have h2:=sumI_map_nonneg (f:=f) ks fun c hc=>h c (by simp [hc])
  simp only [lpc,sumI] at hs
  intro c hc
  rcases lmk.1 hc with rfl | hc
  .omega
  .exact ih (fun d hd=>h d (by simp [hd])) (by omega) c hc
theorem cap_zero {t : Tr} (h : TreeOk t) {z : Int} {l : List Ch} {hs : List Hg} (hh : HgOk t.nodes z hs) {root : Int} (hr : InN t.nodes root) {eff : List Pr} (he : EffOk t root eff) (hz : ∀ e ∈ eff,e.least = 0) (out : Bool) (hp : PartsOk t (partsS t z l eff out true hs) root) : ∀ (k i : Nat) (n : Nd),t.nodes[i]? = some n -> t.nodes.length <= i + k -> n.id ∈ subA t root -> capR t (partsS t z l eff out true hs) n.id = 0 -> ∀ g ∈ subA t n.id,ownS out (getS hs g) = 0 \/ (out = true /\ roomS t hs z l g = 0):=by
 intro k
 induction k with
 | zero=>intro i n hn hk; have:=(lgs.1 hn).1; omega
 | succ k ih =>
  intro i n hn hk hs' hc g hg
  have hin : InN t.nodes n.id:=⟨i,n,hn,rfl⟩
  have hq:=cntS_ok hh
  obtain ⟨p1,p2,p3,p4⟩:=prt_at (z:=z) (lm:=l) h hr he hs' out true hs
  obtain ⟨e,hem,hge,hpe⟩:=partOf_prt (t:=t) (hs:=hs) (z:=z) (l:=l) (own:=ownS out) (pr:=prS true) (out:=out) ((effOk_mem h hr he n.id).2 hs')
  have hpr : (partOf (partsS t z l eff out true hs) n.id).protect = 0:=by
   rw [hpe]
   exact hz e hem
  have own_nn : ∀ x,0 <= ownS out (getS hs x):=fun x=>by
   obtain ⟨a1,a2,_⟩:=hh.get x
   unfold ownS inPg at *
   cases out <;> simp <;> omega
  have hmem : ∀ x,ownS out (getS hs x) <= memF hs x:=fun x=>by
   obtain ⟨a1,a2,_⟩:=hh.get x
   unfold ownS memF inPg at *
   cases out <;> simp <;> omega
  have mem_nn : ∀ x,0 <= ownC (cntS hs) x:=fun x=>by
   rw [cntS_own hh.inc]
   have:=own_nn x
   have:=hmem x
   omega
  have hu : usedF t (cntS hs) n.id = memF hs n.id + sumI ((kidsN t.nodes n.id).map (tot t (ownC (cntS hs)))):=by
   unfold usedF
   rw [if_pos (found_in h hin),tot_step h _ hn,cntS_own hh.inc]
  have kids_nn : 0 <= sumI ((kidsN t.nodes n.id).map (tot t (ownC (cntS hs)))):=sumI_map_nonneg _ fun c _=>tot_nonneg t mem_nn c
  rw [capR_step h _ hin] at hc
  have caps_nn : ∀ c ∈ kidsN t.nodes n.id,0 <= capR t (partsS t z l eff out true hs) c:=fun c _=>capR_nonneg (t:=t) hp.ok c
  have scap_nn:=sumI_map_nonneg (f:=capR t (partsS t z l eff out true hs)) (kidsN t.nodes n.id) caps_nn
  unfold capF at hc
  rw [p1,p2,p3,hpr,hu] at hc
  have own0:=own_nn n.id
  have memo:=hmem n.id
  have down : sumI ((kidsN t.nodes n.id).map (capR t (partsS t z l eff out true hs))) = 0 -> ∀ c ∈ kidsN t.nodes n.id,∀ x ∈ subA t c,ownS out (getS hs x) = 0 \/ (out = true /\ roomS t hs z l x = 0):=fun h0 c hcm x hx=>by
   have hc0:=sumI_parts caps_nn (by omega) c hcm
   have hcs:=subA_sub h hr hs' (kid_sub h hin hcm)
   obtain ⟨j,m,hj,hpm,rfl⟩:=mem_kidsN.1 hcm
   have hij:=h.kid hn hj hpm
   exact ih j m hj (by omega) hcs hc0 x hx
  have all0 : memF hs n.id + sumI ((kidsN t.nodes n.id).map (tot t (ownC (cntS hs)))) = 0 -> ∀ x ∈ subA t n.id,ownS out (getS hs x) = 0:=fun h0 x hx=>by
   have h1 : usedF t (cntS hs) n.id = 0:=by rw [hu,h0]
   have h2 : sumI ((subA t n.id).map (ownC (cntS hs))) = 0:=by
    unfold usedF at h1
    rw [if_pos (found_in h hin)] at h1
    exact h1
   have h3:=sumI_parts (ks:=subA t n.id) (f:=ownC (cntS hs)) (fun c _=>mem_nn c) (by omega) x hx
   rw [cntS_own hh.inc] at h3
   have:=hmem x
   have:=own_nn x
   omega
  by_cases h0 : memF hs n.id + sumI ((kidsN t.nodes n.id).map (tot t (ownC (cntS hs)))) = 0
  ·exact .inl (all0 h0 g hg)
  ·by_cases h1 : ownS out (getS hs n.id) + sumI ((kidsN t.nodes n.id).map (capR t (partsS t z l eff out true hs))) = 0
   ·rw [subA_cons h hin] at hg
    rcases lmk.1 hg with rfl | hg
    ·exact .inl (by omega)
    ·obtain ⟨c,hcm,hx⟩:=List.mem_flatMap.1 hg
     exact down (by omega) c hcm g hx
   ·cases out with
    | false =>
     simp only [bft,if_false] at hc
     omega
    | true =>
     simp only [if_true] at hc
     have hrm : roomS t hs z l n.id = 0:=by
      have:=(roomS_bound h hh l n.id).1
      omega
     refine .inr ⟨rfl,?_⟩
     have hgi:=subA_in h hin hg
     have hga:=(mem_anc h hin hgi).2 hg
     have:=room_anc h hin hgi hga (hs:=hs) (z:=z) (l:=l)
     have:=(roomS_bound h hh l g).1
     omega
where
 leftS_app (W : Int -> Int) (l : List Ch) : ∀ (a b : List Int) (x : Int),leftS W l (a ++ b) x = leftS W l b (leftS W l a x)
  | [],_,_=>rfl
  | _ :: a,b,x=>leftS_app W l a b _
 leftS_mono (W : Int -> Int) (l : List Ch) : ∀ (a : List Int) (x y : Int),x <= y -> leftS W l a x <= leftS W l a y
  | [],_,_,h=>h
  | _ :: a,x,y,h=>leftS_mono W l a _ _ (by omega)
 leftS_le_of (W : Int -> Int) (l : List Ch) : ∀ (b : List Int) (x y : Int),y <= x -> (∀ c ∈ b,y <= mostK l c - W c) -> y <= leftS W l b x
  | [],_,_,h,_=>h
  | c :: b,x,y,h,hb=>leftS_le_of W l b _ y (by have:=hb c (by simp); omega) fun d hd=>hb d (by simp [hd])
 room_anc {t : Tr} (h : TreeOk t) {g c : Int} (hc : InN t.nodes c) (hg : InN t.nodes g) (ha : c ∈ ancR t g) {hs : List Hg} {z : Int} {l : List Ch} : roomS t hs z l g <= roomS t hs z l c:=by
  have h1 : leftS (swT t hs) l (ancF t.nodes t.nodes.length g) (z - swT t hs 1) <= leftS (swT t hs) l (ancF t.nodes t.nodes.length c) (z - swT t hs 1):=by
   refine leftS_le_of _ _ _ _ _ (leftS_le _ _ _ _) fun d hd=>leftS_min _ _ _ _ ?_
   obtain ⟨i,n,hn,rfl⟩:=hg
   obtain ⟨j,m,hm,rfl⟩:=hc
   rw [ancR_anc h hn] at ha
   exact anc_trans h i n hn j m hm ha d hd
  unfold roomS
  omega
theorem use_end {t : Tr} {sw : Stk} {p : List Pr} {l : List Ch} {root n : Int} (h : TrialOk t sw p l root) (hn0 : 0 <= n) (hn : n <= 16777216) : ∀ k,usedF t (cntS (endS t sw p l root n k).1) root = usedF t (cntS sw.hs) root - (n - (endS t sw p l root n k).2.2)
 | 0=>by
  show usedF t (cntS sw.hs) root = usedF t (cntS sw.hs) root - (n - n)
  omega
 | k + 1=>by
  have ih:=use_end h hn0 hn k
  have hS:=end_step h hn0 hn k
  have h1:=usedF_step hS (end_ok h hn0 hn k).hs (end_ok h hn0 hn (k + 1)).hs h.root
  have h2:=hS.rnd.top
  have h3:=hS.left
  rw [hS.sum] at h3
  omega
theorem least_zero {t : Tr} {sw : Stk} {p : List Pr} {l : List Ch} {root : Int} (h : TrialOk t sw p l root) (hp : ∀ y ∈ p,y.least = 0) : ∀ e ∈ effP t sw p root,e.least = 0:=by
 intro e he
 obtain ⟨g,_,rfl⟩:=lmm.1 he
 show effT t (fun x=>min (usedF t (cntS sw.hs) x) (lookPr (·.least) p x)) root g = 0
 refine effN_zero t.nodes _ (fun x=>?_) root _ g
 have:=(usedF_bound h.stk.tree (cntS_ok h.stk.hs) x).1
 simp only [lookPr_zero hp x]
 omega
theorem use_zero {t : Tr} (h : TreeOk t) {z : Int} {hs : List Hg} (hh : HgOk t.nodes z hs) {g : Int} (hg : InN t.nodes g) (h0 : usedF t (cntS hs) g <= 0) : ∀ x ∈ subA t g,(getS hs x).file = 0 /\ (getS hs x).anon = 0:=by
 intro x hx
 have mem_nn : ∀ x,0 <= (getS hs x).file /\ 0 <= (getS hs x).anon:=fun x=>by
  obtain ⟨a1,a2,_⟩:=hh.get x
  exact ⟨a1.1,a2.1⟩
 unfold usedF at h0
 rw [if_pos (found_in h hg)] at h0
 have h3:=sumI_parts (ks:=subA t g) (f:=ownC (cntS hs)) (fun c _=>by
  rw [cntS_own hh.inc]
  have:=mem_nn c
  unfold memF
  omega) h0 x hx
 rw [cntS_own hh.inc] at h3
 have:=mem_nn x
 unfold memF at h3
 omega
theorem short_ok {t : Tr} {sw : Stk} {p : List Pr} {l : List Ch} {root n most over : Int} (h : TrialOk t sw p l root) (hp : ∀ y ∈ p,y.least = 0) (ho : 0 < over) (hov : over = usedF t (cntS sw.hs) root + n - most) (hu : most < usedF t (cntS (ShrinkS t sw p l root (min over 16777216)).1.hs) root + n) : ∀ x ∈ subA t root,(getS (ShrinkS t sw p l root (min over 16777216)).1.hs x).file = 0 /\ ((getS (ShrinkS t sw p l root (min over 16777216)).1.hs x).anon = 0 \/ roomS t (ShrinkS t sw p l root (min over 16777216)).1.hs sw.size l x = 0):=by
 have hT:=h.stk.tree
 have m0 : 0 <= min over 16777216:=by omega
 have m1 : min over 16777216 <= 16777216:=by omega
 rw [shrinkS_eq h m0 m1] at hu ⊢
 have h1:=use_end h m0 m1 4
 have hO:=end_ok h m0 m1 4
 have hl:=hO.left
 have hE:=h.eff
 have hz:=least_zero h hp
 have hen:=enough_ok h m0 m1
 have hb:=usedF_bound hT (cntS_ok h.stk.hs) root
 have hto:=told_pages h m0 m1
 rw [hto] at hen
 by_cases h0 : (endS t sw p l root (min over 16777216) 4).2.2 = 0
 ·intro x hx
  have h2 : usedF t (cntS (endS t sw p l root (min over 16777216) 4).1) root <= 0:=by
   simp only at hu
   omega
  have h3:=use_zero hT hO.hs h.root h2 x hx
  exact ⟨h3.1,.inl h3.2⟩
 ·have hne : min over 16777216 - (endS t sw p l root (min over 16777216) 4).2.2 ≠ min over 16777216:=by omega
  have f1:=hen hne false
  have f2:=hen hne true
  intro x hx
  obtain ⟨i,m,hm,hme⟩:=h.root
  have hrs:=subA_self hT h.root
  have g1:=cap_zero hT hO.hs h.root hE hz false f1.1 t.nodes.length i m hm (by omega) (by rw [hme]; exact hrs) (by rw [hme]; exact f1.2) x (by rw [hme]; exact hx)
  have g2:=cap_zero hT hO.hs h.root hE hz true f2.1 t.nodes.length i m hm (by omega) (by rw [hme]; exact hrs) (by rw [hme]; exact f2.2) x (by rw [hme]; exact hx)
  refine ⟨?_,?_⟩
  ·rcases g1 with h3 | ⟨h3,_⟩
   .exact h3
   .cases h3
  ·rcases g2 with h3 | ⟨_,h3⟩
   .exact .inl h3
   .exact .inr h3
theorem roomG_last {t : Tr} {l : List Mc} (hl : McOk t.nodes l) (n : Int) : ∀ (as_ : List Int) (g : Gw),(∀ a ∈ as_,InN t.nodes a) -> StkOk t g.stk -> (roomG t l n as_ g).2 = 20 -> ∃ s over,TrialOk t s (prsM l) (chsM l) (roomG t l n as_ g).1.refused /\ s.size = g.stk.size /\ 0 < over /\ over = usedF t (cntS s.hs) (roomG t l n as_ g).1.refused + n - mostM l (roomG t l n as_ g).1.refused /\ (roomG t l n as_ g).1.stk = (ShrinkS t s (prsM l) (chsM l) (roomG t l n as_ g).1.refused (min over 16777216)).1
 | [],g,_,_,h=>by simp [roomG] at h
 | a :: as_,g,has,hg,h=>by
  have ha:=has a (by simp)
  have has' : ∀ x ∈ as_,InN t.nodes x:=fun x hx=>has x (by simp [hx])
  unfold roomG at h ⊢
  by_cases ho : 0 < overG t l n g a
  ·rw [if_pos ho] at h ⊢
   have h1 : Grw t g (shrG t l (maxG g a) a (overG t l n g a)):=grw_max a (shrG_ok (g:=maxG g a) hg hl ha (by omega))
   by_cases hu : mostM l a < useG t (shrG t l (maxG g a) a (overG t l n g a)) a + n
   ·rw [if_pos hu]
    exact ⟨g.stk,overG t l n g a,⟨hg,prsM_ok hl,chsM_ok hl,ha⟩,rfl,ho,rfl,rfl⟩
   ·rw [if_neg hu] at h ⊢
    obtain ⟨s,over,r1,r2,r3,r4,r5⟩:=roomG_last hl n as_ _ has' h1.stk h
    exact ⟨s,over,r1,r2.trans h1.size,r3,r4,r5⟩
  ·rw [if_neg ho] at h ⊢
   exact roomG_last hl n as_ g has' hg h
end Go.V
