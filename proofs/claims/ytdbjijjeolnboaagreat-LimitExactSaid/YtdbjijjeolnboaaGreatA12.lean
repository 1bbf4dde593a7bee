import Derived.Test.YtdbjijjeolnboaaGreatA10
import Derived.Test.YtdbjijjeolnboaaGreatA9
import Derived.Test.YtdbjijjeolnboaaGreatA11
import Derived.Test.YtdbjijjeolnboaaGreatA3
import Derived.Test.YtdbjijjeolnboaaGreatA4
import Derived.Test.YtdbjijjeolnboaaGreatA8
import Derived.Test.YtdbjijjeolnboaaGreatA6
import Derived.Test.YtdbjijjeolnboaaGreatA5
import Derived.Test.YtdbjijjeolnboaaGreatA7
import Derived.Test.YtdbjijjeolnboaaGreatA2
set_option linter.unusedSectionVars false
set_option linter.unusedSimpArgs false
set_option linter.unusedVariables false
set_option maxHeartbeats 32000000
open Nat renaming reduceAdd → rA
open List renaming getElem?_eq_getElem → lgg, mem_of_getElem? → lmg, drop_eq_getElem_cons → ldg, map_cons → lpc, drop_of_length_le → ldl, nil_append → lna, mem_map → lmm, map_append → lma, take_of_length_le → ltl, getElem?_of_mem → lgm, length_cons → llc, length_append → lla, map_nil → lpn, length_nil → lln, length_map → llm, getElem_mem → lgk, length_take → llt, cons_append → lca, foldl_append → lfa
open Bool renaming and_eq_true → bat, false_and → bfa, false_eq_true → bft, true_and → bta, not_false → bnf, and_self → bas
namespace Go.V
theorem YB {t : Tr} {sw : Stk} (hS : StkOk t sw) {l : List Ch} (hl : LimOk l) (hll : l.length < 1000000) (eff : List Pr) (hel : eff.length < 1000000) (hin : ∀ e ∈ eff,InN t.nodes e.group) (out low : Bool) :
  V 94 [t.vv,sw.vv,.p (BH eff),.p (AP l),.p (.bool (!low)),.p (.bool out)] [] = some (.fresh 5 ((A2 t sw.size l eff out low sw.hs).map Pt.pv),[]):=by
 refine Ag (vf:=vf94) rfl ?_
 have hlen:=hS.tree.len
 have hsl:=hS.hs.length
 simp -implicitDefEqProofs (disch:=omega) only [vf94,TN,go_sem]
 obtain ⟨I,hI⟩:=lpI fun k s=>∃ (acc : List Pt) (w : Nat),acc = (eff.take k).map (BK t sw.hs sw.size l (Bm out) (prS low) out) /\ acc.length <= k /\ s.pe 2 = .p (BH eff) /\ s.pe 3 = .p (AP l) /\ s.pe 4 = .p (.bool (!low)) /\ s.pe 5 = .p (.bool out) /\ s.pe 6 = .ptr (.slot 6 0) 0 0 /\ s.pe 7 = .ptr (.slot 7 0) 0 0 /\ s.pe 13 = .own (.slot 13 0) w 0 acc.length /\ s.pe 14 = .p (.int .i64 k) /\ s.h (.slot 6 0) = some (0,Ob.box [.p (Au t.nodes),.p (.int .i64 t.next)]) /\ s.h (.slot 7 0) = some (0,Ob.box [.p (Bc sw.hs),.p (.int .i64 sw.size)]) /\ s.h (.slot 13 0) = some (w,Ob.arr 5 (acc.map Pt.pv))
 refine Al (eff.length) I ?_ ?_
 ·refine (hI _ _).2 ⟨[],0,?_⟩
  and_intros
  ·exact by simp
  ·exact Nat.zero_le _
  all_goals exact cl0
 intro k s hk hIk
 obtain ⟨acc,w,hacc,hal,hH⟩:=(hI _ _).1 hIk
 clear hIk
 simp -implicitDefEqProofs (disch:=omega) only [hH,go_sem]
 refine Ah (fun hlt=>?_) (fun hge=>?_)
 ·have hx : eff[k]? = some eff[k]:=lgg hlt
  have hg:=hin _ (lgk hlt)
  have htk:=Bf hx
  generalize eff[k] = e at hx htk hg
  have hr:=Xr hS hl hll hg
  obtain ⟨i,m,hm,he⟩:=hg
  have hu:=Gk hS.tree hS.hs (by omega) hm
  rw [he] at hu
  have hgt:=Hq sw e.group (by omega)
  simp only [Stk.vv] at hu hgt hr
  have hnew : ∀ x : Pt,x = BK t sw.hs sw.size l (Bm out) (prS low) out e -> acc ++ [x] = (eff.take (k + 1)).map (BK t sw.hs sw.size l (Bm out) (prS low) out):=by
   rintro x rfl
   rw [hacc,htk,lma]
   rfl
  generalize hU : Av t (An sw.hs) e.group = U at hu
  generalize hG : Ac sw.hs e.group = c at hgt
  generalize hR : B8 t sw.hs sw.size l e.group = R at hr
  cases low with
  | false =>
   cases out with
   | false =>
    simp -implicitDefEqProofs (disch:=omega) only [hH,hlt,hx,hu,hgt,Pr.pv,bnf,go_sem]
    try refine ai ?_
    refine (hI _ _).2 ⟨acc ++ [⟨e.group,U,max e.least e.low,c.file,4611686018427387904⟩],w + 1,?_⟩
    and_intros
    .exact hnew _ (by simp [BK,hU,hG,Bm,prS])
    .exact by simp; omega
    all_goals exact cl0
   | true =>
    simp -implicitDefEqProofs (disch:=omega) only [hH,hlt,hx,hu,hgt,hr,Pr.pv,bnf,go_sem]
    try refine ai ?_
    refine (hI _ _).2 ⟨acc ++ [⟨e.group,U,max e.least e.low,c.anon,R⟩],w + 1,?_⟩
    and_intros
    .exact hnew _ (by simp [BK,hU,hG,hR,Bm,prS])
    .exact by simp; omega
    all_goals exact cl0
  | true =>
   cases out with
   | false =>
    simp -implicitDefEqProofs (disch:=omega) only [hH,hlt,hx,hu,hgt,Pr.pv,Bool.not_true,go_sem]
    try refine ai ?_
    refine (hI _ _).2 ⟨acc ++ [⟨e.group,U,e.least,c.file,4611686018427387904⟩],w + 1,?_⟩
    and_intros
    .exact hnew _ (by simp [BK,hU,hG,Bm,prS])
    .exact by simp; omega
    all_goals exact cl0
   | true =>
    simp -implicitDefEqProofs (disch:=omega) only [hH,hlt,hx,hu,hgt,hr,Pr.pv,Bool.not_true,go_sem]
    try refine ai ?_
    refine (hI _ _).2 ⟨acc ++ [⟨e.group,U,e.least,c.anon,R⟩],w + 1,?_⟩
    and_intros
    .exact hnew _ (by simp [BK,hU,hG,hR,Bm,prS])
    .exact by simp; omega
    all_goals exact cl0
 ·rw [ltl (by omega)] at hacc
  simp -implicitDefEqProofs (disch:=omega) only [hH,hge,go_sem]
  rw [hacc]
theorem PM {h : Hg} : ∀ {l : List Hg},(∀ x ∈ l,x.group ≠ h.group) -> putGo h true l = l
 | [],_=>rfl
 | x :: l,hx=>by
  have h0:=hx x (by simp)
  unfold putGo
  rw [if_neg h0,Bool.true_or,PM fun y hy=>hx y (by simp [hy])]
  simp
theorem LS {l : List Hg} (h : ∀ x ∈ l,x.group ≠ 0) : putS l ⟨0,0,0,0⟩ = l:=PM (h:=⟨0,0,0,0⟩) h
theorem HgOk.ne0 {t : Tr} (hT : TreeOk t) {z : Int} {l : List Hg} (h : HgOk t.nodes z l) : ∀ x ∈ l,x.group ≠ 0:=fun x hx=>by
 obtain ⟨m,hm,he⟩:=Cu (h.known x hx)
 have:=hT.pos m hm
 omega
theorem Zc {t : Tr} (h : TreeOk t) {root : Int} (hr : InN t.nodes root) {eff : List Pr} (he : EffOk t root eff) : eff.Pairwise fun a b=>a.group < b.group:=by
 obtain ⟨i,n,hn,rfl⟩:=hr
 have h1 : (subT t n.id).Nodup:=by
  rw [DM h hn]
  exact Fi h hn
 have h2:=LY h1
 rw [<- he.groups,List.pairwise_map] at h2
 exact h2
theorem zaT {t : Tr} (h : TreeOk t) {root : Int} (hr : InN t.nodes root) {eff : List Pr} (he : EffOk t root eff) : ∀ e ∈ eff,InN t.nodes e.group:=fun e hem=>D3 h hr ((DN h hr he e.group).1 (lmm.2 ⟨e,hem,rfl⟩))
theorem Pe (t : Tr) (sw : Stk) (p : List Pr) (l : List Ch) (root n : Int) : (BF t sw p l root n).1.hs.length < 1000000 /\ (BF t sw p l root n).2.1.length < 1000000:=by
 unfold BF
 by_cases h0 : (BJ t sw && Dt t p && Du t l) = true
 ·rw [if_pos h0]
  simp only [bat] at h0
  obtain ⟨⟨h1,h2⟩,h3⟩:=h0
  by_cases h4 : (Ao t.nodes root).isSome = true
  ·rw [if_pos h4]
   by_cases h5 : Ap n = true
   ·rw [if_pos h5]
    have hS:=(Dc t sw).1 h1
    have hT:=hS.tree
    have hPr:=((G5 t p).1 h2).2
    have hlen:=hT.len
    have hr : InN t.nodes root:=by
     obtain ⟨m,hm,he⟩:=Cu h4
     obtain ⟨j,hj⟩:=lgm hm
     exact ⟨j,m,hj,he⟩
    have hcn:=Dw hS.hs
    have heo:=Kd hT hcn hPr root
    have hnb:=Cd h5
    have hz : Ax sw.size:=⟨hS.z0,hS.z1⟩
    have hsh:=(GG hT hr hz hnb.2 l heo (Gx hS.hs hnb.1) 4).hs.length
    have hol:=JN (Bk t sw.size l (A8 t (An sw.hs) p root) root (sw.hs,(fun _=>zeroSh),n) 4).2.1 (A8 t (An sw.hs) p root)
    have hel : (A8 t (An sw.hs) p root).length <= 64:=by
     have h6:=CZ hT root
     unfold A8
     rw [llm,F9]
     omega
    simp only []
    omega
   ·rw [if_neg h5]
    exact ⟨by simp,by simp⟩
  ·rw [if_neg h4]
   exact ⟨by simp,by simp⟩
 ·rw [if_neg h0]
  exact ⟨by simp,by simp⟩
theorem V0 (out low : Bool) (s : ShSt) (b : List (Int × Int)) (q : Int × Int) : AK out low s (b ++ [q]) = (putS (AK out low s b).1 (AQ out (Ac (AK out low s b).1 q.1) q.2),(fun x=>if x = q.1 then Bj out low q.1 ((AK out low s b).2.1 q.1) q.2 else (AK out low s b).2.1 x),(AK out low s b).2.2 - q.2):=by
 unfold AK C0
 rw [lfa,lma,Ds]
 simp only [List.foldl_cons,List.foldl_nil,Eu,lpc,lpn,Ab]
 congr 2
 omega
theorem zbB (l : List Sh) : Nt 0 l = .arr 4 (l.map Sh.pv):=rfl
theorem zbA (l : List Sh) : Nt 1 l = .box [.undef,.fresh 4 (l.map Sh.pv)]:=rfl
theorem PL (t : Tr) (sw : Stk) (p : List Pr) (l : List Ch) (root n : Int) (hn : t.nodes.length < 1000000) (hl : sw.hs.length < 1000000) (hpl : p.length < 1000000) (hll : l.length < 1000000) : V 41 [t.vv,sw.vv,.p (BH p),.p (AP l),.p (.int .i64 root),.p (.int .i64 n)] [] = some (.tup [Stk.fv (BF t sw p l root n).1,.fresh 4 ((BF t sw p l root n).2.1.map Sh.pv),.p (.int .i64 (BF t sw p l root n).2.2)],[]):=by
 refine Ag (vf:=vf41) rfl ?_
 have hv := Jo t sw hn hl
 have hpv:=OS t p hn hpl
 have hlv:=Xx t l hn hll
 have hh := CJ t root hn
 unfold BF
 by_cases h1 : BJ t sw = true
 ·rw [h1] at hv ⊢
  by_cases h2 : Dt t p = true
  ·rw [h2] at hpv ⊢
   by_cases h3 : Du t l = true
   ·rw [h3] at hlv ⊢
    have hS:=(Dc t sw).1 h1
    rw [Cl ((A5 t).2 hS.tree)] at hh
    by_cases h4 : (Ao t.nodes root).isSome = true
    ·rw [h4] at hh ⊢
     by_cases h5 : Ap n = true
     ·rw [h5]
      have hT:=hS.tree
      have hPr:=((G5 t p).1 h2).2
      have hL:=LimOk.of ((K8 t l).1 h3).2
      have hlen:=hT.len
      have hr : InN t.nodes root:=by
       obtain ⟨m,hm,he⟩:=Cu h4
       obtain ⟨j,hj⟩:=lgm hm
       exact ⟨j,m,hj,he⟩
      have hcn:=Dw hS.hs
      have hct:=N1 sw hl (fun x hx=>⟨hS.hs.file x hx,hS.hs.anon x hx⟩)
      have hef:=zbr hT hcn hPr hr (by have:=MJ sw.hs; omega) hpl
      have heo:=Kd hT hcn hPr root
      have hnb:=Cd h5
      obtain ⟨hn0,hn1⟩:=hnb
      have hz : Ax sw.size:=⟨hS.z0,hS.z1⟩
      have hsh:=GG hT hr hz hn1 l heo (Gx hS.hs hn0)
      have hrd:=fun k=>J2 hT hr hz hn1 l heo (outR k) (lowR k) (hsh k)
      have hS0 : Bk t sw.size l (A8 t (An sw.hs) p root) root (sw.hs,(fun _=>zeroSh),n) 0 = (sw.hs,(fun _=>zeroSh),n):=rfl
      have hSs : ∀ k,Bk t sw.size l (A8 t (An sw.hs) p root) root (sw.hs,(fun _=>zeroSh),n) (k + 1) = Eg t sw.size l (A8 t (An sw.hs) p root) root (outR k) (lowR k) (Bk t sw.size l (A8 t (An sw.hs) p root) root (sw.hs,(fun _=>zeroSh),n) k):=fun _=>rfl
      have hel : (A8 t (An sw.hs) p root).length <= 64:=by
       have h6:=CZ hT root
       unfold A8
       rw [llm,F9]
       omega
      have hinc:=Zc hT hr heo
      have hin:=zaT hT hr heo
      have hro:=fun (q : List Pt) (m : Int) (hq : q.length < 1000000)=>YA t q root m (by omega) hq
      generalize hE : A8 t (An sw.hs) p root = eff at hef heo hsh hrd hS0 hSs hel hinc hin
      generalize hF : Bk t sw.size l eff root (sw.hs,(fun _=>zeroSh),n) = F at hsh hrd hS0 hSs ⊢
      have hne0 : ∀ e ∈ eff,e.group ≠ 0:=fun e he=>by
       obtain ⟨i,m,hm,hme⟩:=hin e he
       have:=hT.pos m (lmg hm)
       omega
      have hout0 : outL (fun _=>zeroSh) eff = []:=by
       unfold outL
       rw [List.filter_eq_nil_iff]
       intro k hk
       obtain ⟨e,_,rfl⟩:=lmm.1 hk
       simp [zeroSh]
      simp only [Stk.vv,IQ] at hv hct
      have hn0' : ¬ n < 0:=by omega
      have hn1' : ¬ 16777216 < n:=by omega
      simp -implicitDefEqProofs (disch:=omega) only [vf41,FZ,hv,hpv,hlv,hh,hn0',hn1',hct,hef,go_sem]
      have hh7 : (0 : Nat) = 0:=rfl
      have hX : (0 : Nat) = 0:=rfl
      obtain ⟨I,hI⟩:=lpI fun k s=>∃ (out : List Sh) (ww : Nat),out = outL (F k).2.1 eff /\ s.pe 3 = .p (AP l) /\ s.pe 4 = .p (.int .i64 root) /\ s.pe 5 = .p (.int .i64 (F k).2.2) /\ s.pe 6 = .ptr (.slot 6 0) 0 0 /\ s.pe 7 = .ptr (.slot 7 0) 0 0 /\ s.pe 12 = .ptr (.slot 12 0) 0 0 /\ s.pe 15 = .own (.slot 64 1) 0 0 eff.length /\ s.pe 17 = .own (.slot 17 0) ww 0 out.length /\ s.pe 18 = .p (.int .i64 k) /\ s.h (.slot 6 0) = some (0,Ob.box [.p (Au t.nodes),.p (.int .i64 t.next)]) /\ s.h (.slot 12 0) = some (0,Ob.box [.own (.slot 12 1) 0 0 0,.p (.int .i64 0)]) /\ s.h (.slot 12 1) = some (0,Ob.arr 4 []) /\ s.h (.slot 17 0) = some (ww,Ob.arr 4 (out.map Sh.pv)) /\ s.h (.slot 64 1) = some (0,Ob.arr 3 (List.map Pr.pv eff)) /\ ∃ X,s.h (.slot 7 0) = some (0,Ob.box [X,.p (.int .i64 sw.size)]) /\ fz0 [83,86,139,142] s.h X = .p (Bc (F k).1)
      refine Al (4) I ?_ ?_
      ·refine (hI _ _).2 ⟨[],0,?_⟩
       and_intros
       ·exact by rw [hS0,hout0]
       all_goals first | exact cl0 | (simp -implicitDefEqProofs (disch:=omega) only [go_sem] <;> first | (simp [hS0,go_sem]; done) | (simp [hS0,go_sem,hh7,hX]; omega))
      intro k s hk hIk
      obtain ⟨out,ww,hout,h3,h4,h5,h6,h7,h12,h15,h17,h18,hh6_0,hh12_0,hh12_1,hh17_0,hh64_1,hX⟩:=(hI _ _).1 hIk
      clear hIk
      obtain ⟨X,hh7,hX⟩:=hX
      simp -implicitDefEqProofs (disch:=omega) only [h18,go_sem]
      refine Ah (fun hlt=>?_) (fun hge=>?_)
      ·obtain ⟨hP,hRP,hRo,hsum,hown,hpre⟩:=hrd k
       have hSk : StkOk t ⟨(F k).1,sw.size⟩:=⟨hT,hS.z0,hS.z1,(hsh k).hs⟩
       have hp0:=YB hSk hL hll eff (by omega) hin (outR k) (lowR k)
       have hr0:=hro (A2 t sw.size l eff (outR k) (lowR k) (F k).1) (F k).2.2 (by rw [A2,llm]; omega)
       rw [hRP] at hr0
       simp only at hr0
       have hPl : (A2 t sw.size l eff (outR k) (lowR k) (F k).1).length <= 64:=by rw [A2,llm]; omega
       have hPo : ∀ q ∈ takesS t sw.size l eff root (outR k) (lowR k) (F k),Ax q.2:=fun q hq=>by
        have a1:=hRo.pos q hq
        have a2:=(Eo hP.ok q.1).o1
        exact ⟨by omega,by omega⟩
       have hgrp : ∀ q ∈ takesS t sw.size l eff root (outR k) (lowR k) (F k),q.1 ∈ eff.map (·.group):=fun q hq=>(DN hT hr heo q.1).2 (hRo.groups q hq)
       have hFk:=hSs k
       unfold Eg at hFk
       simp only [Stk.vv] at hp0
       generalize A2 t sw.size l eff (outR k) (lowR k) (F k).1 = Q at hp0 hr0 hPl
       generalize takesS t sw.size l eff root (outR k) (lowR k) (F k) = a at hr0 hRo hpre hPo hFk hgrp
       have hal:=hRo.len
       have hG0 : AK (outR k) (lowR k) (F k) (a.take 0) = F k:=by
        unfold AK
        simp [C0,Ab]
       have hGs : ∀ (j : Nat) (q : Int × Int),a[j]? = some q -> AK (outR k) (lowR k) (F k) (a.take (j + 1)) = _:=fun j q hq=>by rw [Bf hq,V0]
       rw [show AK (outR k) (lowR k) (F k) a = AK (outR k) (lowR k) (F k) (a.take a.length) by rw [List.take_length]] at hFk
       generalize hG : (fun j=>AK (outR k) (lowR k) (F k) (a.take j)) = G
       have hG' : ∀ j,AK (outR k) (lowR k) (F k) (a.take j) = G j:=fun j=>by rw [<- hG]
       simp only [hG'] at hpre hG0 hGs hFk
       clear hG hG' hRo hP hRP hsum hown
       have hrem : decide (Int.tmod (k : Int) 2 = 1) = outR k:=by
        have hk4 : k = 0 \/ k = 1 \/ k = 2 \/ k = 3:=by omega
        rcases hk4 with rfl | rfl | rfl | rfl <;> rfl
       have hlw : decide ((k : Int) < 2) = !lowR k:=by
        have hk4 : k = 0 \/ k = 1 \/ k = 2 \/ k = 3:=by omega
        rcases hk4 with rfl | rfl | rfl | rfl <;> rfl
       have hgw : decide ((2 : Int) <= (k : Int)) = lowR k:=by
        have hk4 : k = 0 \/ k = 1 \/ k = 2 \/ k = 3:=by omega
        rcases hk4 with rfl | rfl | rfl | rfl <;> rfl
       generalize outR k = o at *
       generalize lowR k = u at *
       simp -implicitDefEqProofs (disch:=omega) only [h3,h4,h5,h6,h7,h15,h18,hh6_0,hh64_1,hX,hh7,hlt,hrem,hlw,hp0,hr0,go_sem]
       have hS0:=hG0
       obtain ⟨J,hJ⟩:=lpI fun j s=>∃ (v86_1 : Nat) (out : List Sh) (ww : Nat),out = outL (G j).2.1 eff /\ s.pe 3 = .p (AP l) /\ s.pe 4 = .p (.int .i64 root) /\ s.pe 5 = .p (.int .i64 (G j).2.2) /\ s.pe 6 = .ptr (.slot 6 0) 0 0 /\ s.pe 7 = .ptr (.slot 7 0) 0 0 /\ s.pe 12 = .ptr (.slot 12 0) 0 0 /\ s.pe 15 = .own (.slot 64 1) 0 0 eff.length /\ s.pe 17 = .own (.slot 17 0) ww 0 out.length /\ s.pe 18 = .p (.int .i64 ↑k) /\ s.pe 19 = .p (.bool o) /\ s.pe 20 = .own (.slot 86 1) v86_1 0 a.length /\ s.pe 22 = .p (.int .i64 j) /\ s.h (.slot 6 0) = some (0,Ob.box [.p (Au t.nodes),.p (.int .i64 t.next)]) /\ s.h (.slot 12 0) = some (0,Ob.box [.own (.slot 12 1) 0 0 0,.p (.int .i64 0)]) /\ s.h (.slot 12 1) = some (0,Ob.arr 4 []) /\ s.h (.slot 17 0) = some (ww,Ob.arr 4 (List.map Sh.pv out)) /\ s.h (.slot 64 1) = some (0,Ob.arr 3 (List.map Pr.pv eff)) /\ s.h (.slot 86 1) = some (v86_1,Ob.arr 2 (List.map tkP a)) /\ ∃ X,s.h (.slot 7 0) = some (0,Ob.box [X,.p (.int .i64 sw.size)]) /\ fz0 [139,142] s.h X = .p (Bc (G j).1)
       refine Al (a.length) J ?_ ?_
       ·refine (hJ _ _).2 ⟨nv (Cq [83,86,139,142] s.h (.slot 86 1)),out,ww,?_⟩
        and_intros
        ·exact by rw [hG0]; exact hout
        all_goals first | exact cl0 | (simp -implicitDefEqProofs (disch:=omega) only [go_sem] <;> first | (simp [hS0,go_sem,hh7,hX]; done) | (simp [hS0,go_sem,hh7,hX]; omega))
       intro j s hj hJk
       obtain ⟨v86_1,out,ww,hou,h3,h4,h5,h6,h7,h12,h15,h17,h18,h19,h20,h22,hh6_0,hh12_0,hh12_1,hh17_0,hh64_1,hh86_1,hX⟩:=(hJ _ _).1 hJk
       clear hJk
       obtain ⟨X,hh7,hX⟩:=hX
       simp -implicitDefEqProofs (disch:=omega) only [h20,h22,go_sem]
       refine Ah (fun hjl=>?_) (fun hjg=>?_)
       ·have hx : a[j]? = some a[j]:=lgg hjl
        have hgs:=hGs j _ hx
        have hqo:=hPo a[j] (lgk _)
        have hgm:=hgrp a[j] (lgk _)
        have hpj:=hpre j
        generalize a[j] = q at hx hgs hqo hgm
        obtain ⟨g,m⟩:=q
        have hlj:=hpj.hs.length
        obtain ⟨hl0,hl1⟩:=hpj.left
        obtain ⟨m0,m1⟩ : Ax m:=hqo
        simp only at hgs hgm
        have hgt:=Hq ⟨(G j).1,sw.size⟩ g (by simp only; omega)
        have hrp:=Ge ⟨(G j).1,sw.size⟩ (AQ o (Ac (G j).1 g) m) (by simp only; omega)
        have hx0 : ∀ n,Ax n -> (0 <= n /\ n <= 16777216):=fun n h=>h
        have hXb : (0 <= (CL o u g m).file /\ (CL o u g m).file <= 16777216) /\ (0 <= (CL o u g m).anon /\ (CL o u g m).anon <= 16777216) /\ (0 <= (CL o u g m).low /\ (CL o u g m).low <= 16777216):=by
         cases o <;> cases u <;> simp [CL] <;> omega
        have hnt:=ZX out (CL o u g m) (by rw [hou]; have:=JN (G j).2.1 eff; omega) (fun b hb=>by
         rw [hou] at hb
         obtain ⟨e,_,rfl,_⟩:=QL hpj.grp hb
         have b1:=hpj.file e.group
         have b2:=hpj.anon e.group
         have b3:=hpj.low e.group
         unfold inS
         omega)
        have hno:=QR hpj.grp (g:=g) o u m hinc hne0 hgm
        rw [<- hou] at hno
        have hnr:=RQ out (CL o u g m)
        have hol : (CM out (CL o u g m)).length <= 1000:=by
         rw [hno]
         refine Nat.le_trans (JN _ _) (by omega)
        obtain ⟨⟨a1,a2⟩,⟨a3,a4⟩,a5,a6⟩:=hpj.hs.get g
        have e1 : (G (j + 1)).1 = putS (G j).1 (AQ o (Ac (G j).1 g) m):=by rw [hgs]
        have e2 : (G (j + 1)).2.2 = (G j).2.2 - m:=by rw [hgs]
        have e3 : (G (j + 1)).2.1 = fun x=>if x = g then Bj o u g ((G j).2.1 g) m else (G j).2.1 x:=by rw [hgs]
        rw [<- e3] at hno
        rw [<- e1] at hrp
        generalize hN : CM out (CL o u g m) = N at hnt hno hol
        generalize hGn : (G (j + 1)).1 = Gn at hrp
        generalize Ac (G j).1 g = c at hgt hrp a1 a2 a3 a4 a5 a6
        generalize DD out (CL o u g m) = nr at hnt hnr
        simp only [Stk.vv,Stk.fv] at hgt hrp
        cases o <;> cases u <;> simp only [AQ,CL,if_true,if_false,bft] at hrp hnt <;> rcases hnr with hnr | hnr <;> rw [hnr] at hnt
        all_goals
         simp only [zbB,zbA] at hnt
         simp -implicitDefEqProofs (disch:=omega) only [h5,h7,h17,h18,h19,h20,h22,hh17_0,hh86_1,hX,hh7,hjl,hx,tkP,hgw,hgt,hrp,hnt,go_sem]
         try refine ai ?_
         refine (hJ _ _).2 ⟨v86_1,N,ww + nr,?_⟩
         and_intros
         .exact hno
         all_goals first | exact cl0 | (simp -implicitDefEqProofs (disch:=omega) only [hGn,go_sem] <;> first | (simp [go_sem]; done) | (simp [hS0,go_sem,hh7,hX]; omega))
       ·have hje : j = a.length:=by omega
        rw [hje,<- hFk] at hou
        simp -implicitDefEqProofs (disch:=omega) only [h18,hjg,go_sem]
        try refine ai ?_
        refine (hI _ _).2 ⟨out,ww,?_⟩
        and_intros
        .exact hou
        all_goals first | exact cl0 | (simp -implicitDefEqProofs (disch:=omega) only [h5,hX,hFk,hje,hh7,go_sem] <;> first | (simp [go_sem]; done) | (simp [hS0,go_sem,hh7,hX]; omega))
      ·have hk4 : k = 4:=by omega
       subst hk4
       have hrp:=Ge ⟨(F 4).1,sw.size⟩ ⟨0,0,0,0⟩ (by have:=(hsh 4).hs.length; simp only; omega)
       rw [LS (HgOk.ne0 hT (hsh 4).hs)] at hrp
       simp only [Stk.vv,Stk.fv] at hrp
       simp -implicitDefEqProofs (disch:=omega) only [h7,h12,h17,hh12_0,hh17_0,hX,hh7,hge,hrp,go_sem]
       rw [hout]
     ·have hp5 : Ap n = false:=by simpa using h5
      rw [hp5]
      by_cases hn0 : n < 0
      ·simp -implicitDefEqProofs (disch:=omega) only [vf41,FZ,hv,hpv,hlv,hh,hn0,go_sem]
       try rfl
      ·have hn1 : 16777216 < n:=by
        simp [Ap] at hp5
        omega
       simp -implicitDefEqProofs (disch:=omega) only [vf41,FZ,hv,hpv,hlv,hh,hn0,hn1,go_sem]
       try rfl
    ·rw [Bool.not_eq_true] at h4
     rw [h4] at hh ⊢
     simp -implicitDefEqProofs (disch:=omega) only [vf41,FZ,hv,hpv,hlv,hh,go_sem]
     try rfl
   ·rw [Bool.not_eq_true] at h3
    rw [h3] at hlv ⊢
    simp -implicitDefEqProofs (disch:=omega) only [vf41,FZ,hv,hpv,hlv,go_sem]
    try rfl
  ·rw [Bool.not_eq_true] at h2
   rw [h2] at hpv ⊢
   simp -implicitDefEqProofs (disch:=omega) only [vf41,FZ,hv,hpv,go_sem]
   try rfl
 ·rw [Bool.not_eq_true] at h1
  rw [h1] at hv ⊢
  simp -implicitDefEqProofs (disch:=omega) only [vf41,FZ,hv,go_sem]
  try rfl
theorem Xp (a b : Stk) (hl : a.hs.length < 1000000) : V 38 [a.vv,b.vv] [] = some (.p (.bool (decide (a.size = b.size) && decide (a.hs = b.hs))),[]):=by
 refine Ag (vf:=vf38) rfl ?_
 have h:=Mp a.hs b.hs hl
 by_cases hz : a.size = b.size
 ·rw [decide_eq_true hz,bta]
  simp -implicitDefEqProofs only [vf38,ND,hz,h,go_sem]
 ·rw [decide_eq_false hz,bfa]
  simp -implicitDefEqProofs only [vf38,ND,hz,go_sem]
theorem Ol (a : Stk) (hl : a.hs.length < 1000000) : V 38 [a.vv,a.vv] [] = some (.p (.bool true),[]):=by
 rw [Xp a a hl]
 simp
theorem PE (a : List Sh) (hl : a.length < 1000000) : V 21 [.p (GU a),.p (GU a)] [] = some (.p (.bool true),[]):=by
 rw [ZR a a hl]
 simp
theorem PD (a : List Int) (hl : a.length < 1000000) : V 110 [.p (AT a),.p (AT a)] [] = some (.p (.bool true),[]):=by
 refine Ag (vf:=vf110) rfl ?_
 simp -implicitDefEqProofs (disch:=omega) only [vf110,Tz,go_sem]
 obtain ⟨I,hI⟩:=lpI fun k s=>s.pe 0 = .p (AT a) /\ s.pe 1 = .p (AT a) /\ s.pe 5 = .p (.int .i64 k)
 refine Al (a.length) I ?_ ?_
 ·refine (hI _ _).2 ⟨?_,?_,?_⟩
  all_goals exact cl0
 intro k s hk hIk
 obtain ⟨h0,h1,h5⟩:=(hI _ _).1 hIk
 clear hIk
 simp -implicitDefEqProofs (disch:=omega) only [h0,h5,go_sem]
 refine Ah (fun hlt=>?_) (fun hge=>?_)
 ·have hm : a[k]? = some a[k]:=lgg hlt
  generalize a[k] = x at hm
  simp -implicitDefEqProofs (disch:=omega) only [h0,h1,h5,hlt,hm,go_sem]
  try refine ai ?_
  refine (hI _ _).2 ⟨?_,?_,?_⟩
  all_goals exact cl0
 .simp -implicitDefEqProofs (disch:=omega) only [hge,go_sem]
abbrev gwV (g : Gw) : VVal:=.agg [.p (Bc g.stk.hs),.p (.int .i64 g.stk.size),.p (GU g.shr),.p (AT g.maxes),.p (AT g.highs),.p (.int .i64 g.refused)]
theorem PF (g : Gw) (h1 : g.stk.hs.length < 1000000) (h2 : g.shr.length < 1000000) (h3 : g.maxes.length < 1000000) (h4 : g.highs.length < 1000000) : V 62 [gwV g,gwV g] [] = some (.p (.bool true),[]):=by
 refine Ag (vf:=vf62) rfl ?_
 have a1:=Ol g.stk h1
 have a2:=PE g.shr h2
 have a3:=PD g.maxes h3
 have a4:=PD g.highs h4
 simp only [Stk.vv] at a1
 simp -implicitDefEqProofs only [vf62,T5,a1,a2,a3,a4,beq_self_eq_true,go_sem]
 try rfl
abbrev gwI (g : Gw) : VVal:=.agg [.p (Bc g.stk.hs),.p (.int .i64 g.stk.size),.own (.arg 0 0) 0 0 g.shr.length,.own (.arg 1 0) 0 0 g.maxes.length,.own (.arg 2 0) 0 0 g.highs.length,.p (.int .i64 g.refused)]
theorem Om {t : Tr} {l : List Mc} {g : Gw} (hg : StkOk t g.stk) (hM : McOk t.nodes l) (hl : l.length < 1000000) {id n : Int} (hsl : g.shr.length < 1000000) : V 105 [t.vv,gwI g,.p (AM l),.p (.int .i64 id),.p (.int .i64 n)] [.arr 4 (g.shr.map Sh.pv),.arr 1 (g.maxes.map (.int .i64)),.arr 1 (g.highs.map (.int .i64))] = some (.agg [.fresh 4 ((As t l g id n).stk.hs.map Hg.pv),.p (.int .i64 (As t l g id n).stk.size),.own (.arg 0 0) 1 0 (As t l g id n).shr.length,.own (.arg 1 0) 0 0 g.maxes.length,.own (.arg 2 0) 0 0 g.highs.length,.p (.int .i64 g.refused)],[.box [.undef,.fresh 4 ((As t l g id n).shr.map Sh.pv)],.arr 1 (g.maxes.map (.int .i64)),.arr 1 (g.highs.map (.int .i64))]):=by
 refine Ag (vf:=vf105) rfl ?_
 have hlen:=hg.tree.len
 have hsz:=hg.hs.length
 have e1:=Ld l hl
 have e2:=Lc l hl
 have e3:=PL t g.stk (A7 l) (A9 l) id (min n 16777216) (by omega) (by omega) (by have:=Mq l; omega) (by have:=MK l; omega)
 obtain ⟨l5,l6⟩:=Pe t g.stk (A7 l) (A9 l) id (min n 16777216)
 unfold As
 generalize BF t g.stk (A7 l) (A9 l) id (min n 16777216) = r at e3 l5 l6 ⊢
 obtain ⟨⟨x,z⟩,s,e⟩:=r
 obtain ⟨⟨hs0,z0⟩,shr,mx,hi,rf⟩:=g
 have hsl' : shr.length < 1000000:=hsl
 simp only [Stk.vv,Stk.fv] at e3 l5 l6 ⊢
 simp -implicitDefEqProofs (disch:=omega) only [vf105,Nn,e1,e2,e3,go_sem]
 rw [lma]
theorem Zf {t : Tr} {sw : Stk} {l : List Mc} {id : Int} (hs : StkOk t sw) (hM : McOk t.nodes l) (hid : InN t.nodes id) : Bo t sw l id = 0:=by
 unfold Bo
 rw [(Dc _ _).2 hs,Pn.2 ⟨hs.tree,hM⟩,Gu hs.tree hid]
 rfl
abbrev gwO (f : Bool) (g : Gw) : VVal:=.agg [if f then .p (Bc g.stk.hs) else .fresh 4 (g.stk.hs.map Hg.pv),.p (.int .i64 g.stk.size),.fresh 4 (g.shr.map Sh.pv),.fresh 1 (g.maxes.map (.int .i64)),.fresh 1 (g.highs.map (.int .i64)),.p (.int .i64 g.refused)]
theorem RL {t : Tr} {sw : Stk} {l : List Mc} (hs : StkOk t sw) (hM : McOk t.nodes l) {id file anon : Int} (hid : InN t.nodes id) (hf : 0 <= file) (hf1 : file <= 16777216) (ha : 0 <= anon) (ha1 : anon <= 16777216 - file) : ∃ f : Bool,V 47 [t.vv,sw.vv,.p (AM l),.p (.int .i64 id),.p (.int .i64 file),.p (.int .i64 anon)] [] = some (.tup [gwO f (AW t l ⟨sw,[],[],[],0⟩ id file anon).1,.p (.int .i64 (AW t l ⟨sw,[],[],[],0⟩ id file anon).2)],[]):=by
 suffices hw : wp (BW V vf47 [t.vv,sw.vv,.p (AM l),.p (.int .i64 id),.p (.int .i64 file),.p (.int .i64 anon)] []) (fun r=>∃ f : Bool,r = (.tup [gwO f (AW t l ⟨sw,[],[],[],0⟩ id file anon).1,.p (.int .i64 (AW t l ⟨sw,[],[],[],0⟩ id file anon).2)],[])) by
  obtain ⟨r,hr,f,rfl⟩:=hw
  exact ⟨f,E9 (f:=47) (vf:=vf47) rfl hr⟩
 have hlen:=hs.tree.len
 have hsl:=hs.hs.length
 have hll:=hM.length
 have h1:=HV t sw l id (by omega) (by omega) (by omega)
 rw [Zf hs hM hid] at h1
 have hrp:=Ge sw ⟨0,0,0,0⟩ (by omega)
 rw [LS (HgOk.ne0 hs.tree hs.hs)] at hrp
 have hanc:=MR t id (by omega)
 have hal:=Ho t id
 have hai : ∀ a ∈ ancR t id,InN t.nodes a:=fun a h=>GC hs.tree hid h
 have n1 : ¬ file < 0:=by omega
 have n2 : ¬ 16777216 < file:=by omega
 have n3 : ¬ anon < 0:=by omega
 have n4 : ¬ 16777216 < anon:=by omega
 have n5 : ¬ 16777216 < file + anon:=by omega
 unfold AW
 have hR:=Hk hM (file + anon) (ancR t id) ⟨sw,[],[],[],0⟩ hai hs
 have hroot:=Ja hs.tree hid
 generalize ancR t id = W at hanc hal hai hR hroot ⊢
 generalize hr0 : AG t l (file + anon) W ⟨sw,[],[],[],0⟩ = R0 at hR ⊢
 simp only [Stk.vv,Stk.fv] at h1 hrp
 simp -implicitDefEqProofs (disch:=omega) only [vf47,FY,h1,hrp,hanc,n1,n2,n3,n4,n5,go_sem]
 have hh16 : (0 : Nat) = 0:=rfl
 have hX : (0 : Nat) = 0:=rfl
 obtain ⟨I,hI⟩:=lpI fun k s=>∃ (g : Gw) (w2 : Nat) (w3 : Nat),R0 = AG t l (file + anon) (W.drop k) g /\ StkOk t g.stk /\ g.shr.length <= 64 * k /\ g.maxes.length <= k /\ g.highs = [] /\ g.refused = 0 /\ g.stk.size = sw.size /\ s.pe 2 = .p (AM l) /\ s.pe 3 = .p (.int .i64 id) /\ s.pe 4 = .p (.int .i64 file) /\ s.pe 5 = .p (.int .i64 anon) /\ s.pe 6 = .ptr (.slot 6 0) 0 0 /\ s.pe 12 = .ptr (.slot 12 0) 0 0 /\ s.pe 15 = .p (.int .i64 (file + anon)) /\ s.pe 16 = .ptr (.slot 16 0) 0 0 /\ s.pe 17 = .own (.slot 65 1) 0 0 W.length /\ s.pe 18 = .p (.int .i64 k) /\ s.h (.slot 6 0) = some (0,Ob.box [.p (Au t.nodes),.p (.int .i64 t.next)]) /\ s.h (.slot 12 0) = some (0,Ob.box [.own (.slot 12 1) 0 0 0,.p (.int .i64 0),.own (.slot 12 3) 0 0 0,.own (.slot 12 4) 0 0 0,.own (.slot 12 5) 0 0 0,.p (.int .i64 0)]) /\ s.h (.slot 12 1) = some (0,Ob.arr 4 []) /\ s.h (.slot 12 3) = some (0,Ob.arr 4 []) /\ s.h (.slot 12 4) = some (0,Ob.arr 1 []) /\ s.h (.slot 12 5) = some (0,Ob.arr 1 []) /\ s.h (.slot 62 3) = some (w2,Ob.arr 4 (g.shr.map Sh.pv)) /\ s.h (.slot 62 4) = some (w3,Ob.arr 1 (g.maxes.map (.int .i64))) /\ s.h (.slot 62 5) = some (0,Ob.arr 1 []) /\ s.h (.slot 65 1) = some (0,Ob.arr 1 (List.map (.int .i64) W)) /\ ∃ X,s.h (.slot 16 0) = some (0,Ob.box [X,.p (.int .i64 sw.size),.own (.slot 62 3) w2 0 g.shr.length,.own (.slot 62 4) w3 0 g.maxes.length,.own (.slot 62 5) 0 0 0,.p (.int .i64 0)]) /\ fz0 [61,100,132] s.h X = .p (Bc g.stk.hs)
 refine Al (W.length) I ?_ ?_
 ·refine (hI _ _).2 ⟨⟨sw,[],[],[],0⟩,0,0,?_⟩
  and_intros
  ·exact by rw [<- hr0]; rfl
  ·exact hs
  ·exact Nat.zero_le _
  ·exact Nat.zero_le _
  ·rfl
  ·rfl
  ·rfl
  all_goals first | exact cl0 | (simp -implicitDefEqProofs (disch:=omega) only [go_sem] <;> first | (simp [go_sem]; done) | (simp [go_sem,hh16,hX]; omega))
 intro k s hk hIk
 obtain ⟨g,w2,w3,hr,hS,hb1,hb2,hh,hrf,hz,h2,h3,h4,h5,h6,h12,h15,h16,h17,h18,hh6_0,hh12_0,hh12_1,hh12_3,hh12_4,hh12_5,hh62_3,hh62_4,hh62_5,hh65_1,hX⟩:=(hI _ _).1 hIk
 clear hIk
 obtain ⟨X,hh16,hX⟩:=hX
 simp -implicitDefEqProofs (disch:=omega) only [h17,h18,go_sem]
 refine Ah (fun hlt=>?_) (fun hge=>?_)
 ·have hm : W[k]? = some W[k]:=lgg hlt
  have hdr : W.drop k = W[k] :: W.drop (k + 1):=ldg hlt
  have haw:=hai W[k] (lgk hlt)
  generalize W[k] = a at hm hdr haw
  rw [hdr,AG] at hr
  obtain ⟨i,m,hmi,hme⟩:=haw
  have haw : InN t.nodes a:=⟨i,m,hmi,hme⟩
  have hgl:=hS.hs.length
  have hu:=Gk hS.tree hS.hs (by omega) hmi
  rw [hme] at hu
  have hmo:=PJ l a (by omega)
  have hU:=CY hS a
  have hMb:=G8 hM a
  obtain ⟨⟨hs1,z1⟩,shr,mx,hi,rf⟩:=g
  simp only at hh hrf hz hb1 hb2 hgl
  subst hh hrf hz
  have hU' : 0 <= Av t (An hs1) a /\ Av t (An hs1) a <= 16777216:=hU
  have hov : AL t l (file + anon) ⟨⟨hs1,sw.size⟩,shr,mx,[],0⟩ a = Av t (An hs1) a + (file + anon) - AE l a:=rfl
  by_cases ho : 0 < AL t l (file + anon) ⟨⟨hs1,sw.size⟩,shr,mx,[],0⟩ a
  ·rw [if_pos ho] at hr
   have h1g:=DS (g:=AO ⟨⟨hs1,sw.size⟩,shr,mx,[],0⟩ a) hS hM haw (n:=AL t l (file + anon) ⟨⟨hs1,sw.size⟩,shr,mx,[],0⟩ a) (by omega)
   have h2g:=Fv (g:=AO ⟨⟨hs1,sw.size⟩,shr,mx,[],0⟩ a) hS hM haw (n:=AL t l (file + anon) ⟨⟨hs1,sw.size⟩,shr,mx,[],0⟩ a) (by omega)
   have hsh:=Om (g:=AO ⟨⟨hs1,sw.size⟩,shr,mx,[],0⟩ a) hS hM (by omega) (id:=a) (n:=AL t l (file + anon) ⟨⟨hs1,sw.size⟩,shr,mx,[],0⟩ a) (by show shr.length < _; omega)
   have hzz : (As t l (AO ⟨⟨hs1,sw.size⟩,shr,mx,[],0⟩ a) a (AL t l (file + anon) ⟨⟨hs1,sw.size⟩,shr,mx,[],0⟩ a)).stk.size = sw.size:=h1g.size
   have e1 : As t l (AO ⟨⟨hs1,sw.size⟩,shr,mx,[],0⟩ a) a (AL t l (file + anon) ⟨⟨hs1,sw.size⟩,shr,mx,[],0⟩ a) = ⟨(As t l (AO ⟨⟨hs1,sw.size⟩,shr,mx,[],0⟩ a) a (AL t l (file + anon) ⟨⟨hs1,sw.size⟩,shr,mx,[],0⟩ a)).stk,(As t l (AO ⟨⟨hs1,sw.size⟩,shr,mx,[],0⟩ a) a (AL t l (file + anon) ⟨⟨hs1,sw.size⟩,shr,mx,[],0⟩ a)).shr,mx ++ [a],[],0⟩:=rfl
   have hSn:=h1g.stk
   rw [e1] at hr
   generalize (As t l (AO ⟨⟨hs1,sw.size⟩,shr,mx,[],0⟩ a) a (AL t l (file + anon) ⟨⟨hs1,sw.size⟩,shr,mx,[],0⟩ a)).stk = s1 at hr hsh hzz hSn
   have h2g' : (As t l (AO ⟨⟨hs1,sw.size⟩,shr,mx,[],0⟩ a) a (AL t l (file + anon) ⟨⟨hs1,sw.size⟩,shr,mx,[],0⟩ a)).shr.length <= shr.length + 64:=h2g
   generalize (As t l (AO ⟨⟨hs1,sw.size⟩,shr,mx,[],0⟩ a) a (AL t l (file + anon) ⟨⟨hs1,sw.size⟩,shr,mx,[],0⟩ a)).shr = r1 at hr hsh h2g'
   clear h2g h1g e1
   obtain ⟨x,z⟩:=s1
   simp only at hzz
   subst hzz
   have hxl : x.length <= t.nodes.length:=hSn.hs.length
   have hu2:=Gk hSn.tree hSn.hs (by show x.length < _; omega) hmi
   rw [hme] at hu2
   have hV' : 0 <= Av t (An x) a /\ Av t (An x) a <= 16777216:=G6 hSn.tree (Dw hSn.hs) a
   have hue : Am t ⟨⟨x,sw.size⟩,r1,mx ++ [a],[],0⟩ a = Av t (An x) a:=rfl
   rw [hue] at hr
   rw [hov] at ho hsh
   simp only [gwI,Stk.vv,AO,lma,lpc,lpn,lla,llc,lln,Nat.zero_add] at hu hu2 hsh
   generalize Av t (An hs1) a = U at *
   generalize Av t (An x) a = U2 at *
   generalize AE l a = M at *
   have ho' : ¬ U + (file + anon) - M <= 0:=by omega
   by_cases hq : M < U2 + (file + anon)
   ·rw [if_pos hq] at hr
    simp -implicitDefEqProofs (disch:=omega) only [h2,h6,h12,h15,h16,h17,h18,hh6_0,hh12_0,hh62_3,hh62_4,hh62_5,hh65_1,hX,hh16,hlt,hm,hu,hmo,ho',hsh,hu2,hq,go_sem]
    refine ⟨false,?_⟩
    rw [hr]
    simp [IN,gwO]
   ·rw [if_neg hq] at hr
    simp -implicitDefEqProofs (disch:=omega) only [h2,h6,h15,h16,h17,h18,hh6_0,hh62_3,hh62_4,hh62_5,hh65_1,hX,hh16,hlt,hm,hu,hmo,ho',hsh,hu2,hq,go_sem]
    try refine ai ?_
    refine (hI _ _).2 ⟨⟨⟨x,sw.size⟩,r1,mx ++ [a],[],0⟩,w2 + 1,w3 + 1,?_⟩
    and_intros
    ·exact hr
    ·exact hSn
    ·exact by simp only; omega
    ·exact by simp; omega
    ·rfl
    ·rfl
    ·rfl
    all_goals first | exact cl0 | (simp -implicitDefEqProofs (disch:=omega) only [go_sem] <;> first | (simp [go_sem]; done) | (simp [go_sem,hh16,hX]; omega))
  ·rw [if_neg ho] at hr
   rw [hov] at ho
   generalize Av t (An hs1) a = U at *
   generalize AE l a = M at *
   have ho' : U + (file + anon) - M <= 0:=by omega
   simp only [Stk.vv] at hu
   simp -implicitDefEqProofs (disch:=omega) only [h2,h6,h15,h16,h17,h18,hh6_0,hh65_1,hX,hh16,hlt,hm,hu,hmo,ho',go_sem]
   try refine ai ?_
   refine (hI _ _).2 ⟨⟨⟨hs1,sw.size⟩,shr,mx,[],0⟩,w2,w3,?_⟩
   and_intros
   ·exact hr
   ·exact hS
   ·exact by simp only; omega
   ·exact by simp only; omega
   ·rfl
   ·rfl
   ·rfl
   all_goals first | exact cl0 | (simp -implicitDefEqProofs (disch:=omega) only [hX,hh16,go_sem] <;> first | (simp [go_sem]; done) | (simp [go_sem,hh16,hX]; omega))
 ·rw [ldl (by omega),AG] at hr
  subst hr
  obtain ⟨⟨hs1,z1⟩,shr,mx,hi,rf⟩:=g
  simp only at hh hrf hz hb1 hb2 hR
  subst hh hrf hz
  simp only [if_true]
  have hp:=Kf hS hid hf ha (by
   rcases hR.err with ⟨_,_,h3⟩ | ⟨h1,_⟩
   ·have h1:=h3 1 hroot
    have h2 : AE l 1 <= 16777216:=by
     unfold AE
     rw [if_pos rfl]
     omega
    have h4 : Av t (An hs1) 1 + (file + anon) <= AE l 1:=h1
    simp only
    omega
   ·simp at h1)
  obtain ⟨p1,p2,p3⟩:=hp
  have hgl : hs1.length <= t.nodes.length:=hS.hs.length
  have hget:=Hq ⟨hs1,sw.size⟩ id (by simp only; omega)
  have hput:=Ge ⟨hs1,sw.size⟩ (Bt (Ac hs1 id) file anon) (by simp only; omega)
  have hb:=hS.hs.get id
  have hgr : (Ac hs1 id).group = id:=Dd _ _
  simp only [BO,Bt] at hput p1 p2 p3 ⊢
  generalize Ac hs1 id = b at *
  obtain ⟨bg,bf,ba,bs⟩:=b
  simp only [Ax] at hb hgr p2 p3
  obtain ⟨⟨c1,c2⟩,⟨c3,c4⟩,c5,c6⟩:=hb
  simp only at hput p1 ⊢
  generalize putS hs1 ⟨bg,bf + file,ba + anon,bs⟩ = y at hput p1 ⊢
  simp only [Stk.vv,Stk.fv,Hg.vv] at hget hput
  generalize hs0 : A1 t l W ⟨⟨y,sw.size⟩,shr,mx,[],0⟩ = S0
  simp -implicitDefEqProofs (disch:=omega) only [h3,h4,h5,h16,hX,hh16,hge,hget,hput,go_sem]
  clear hX hh16
  have hh16 : (0 : Nat) = 0:=rfl
  have hX : (0 : Nat) = 0:=rfl
  obtain ⟨J,hJ⟩:=lpI fun j s=>∃ (g : Gw) (w2 : Nat) (w4 : Nat),S0 = A1 t l (W.drop j) g /\ StkOk t g.stk /\ g.shr.length <= 64 * W.length + 64 * j /\ g.highs.length <= j /\ g.maxes = mx /\ g.refused = 0 /\ g.stk.size = sw.size /\ s.pe 2 = .p (AM l) /\ s.pe 6 = .ptr (.slot 6 0) 0 0 /\ s.pe 12 = .ptr (.slot 12 0) 0 0 /\ s.pe 16 = .ptr (.slot 16 0) 0 0 /\ s.pe 17 = .own (.slot 65 1) 0 0 W.length /\ s.pe 22 = .p (.int .i64 j) /\ s.h (.slot 6 0) = some (0,Ob.box [.p (Au t.nodes),.p (.int .i64 t.next)]) /\ s.h (.slot 12 0) = some (0,Ob.box [.own (.slot 12 1) 0 0 0,.p (.int .i64 0),.own (.slot 12 3) 0 0 0,.own (.slot 12 4) 0 0 0,.own (.slot 12 5) 0 0 0,.p (.int .i64 0)]) /\ s.h (.slot 12 1) = some (0,Ob.arr 4 []) /\ s.h (.slot 12 3) = some (0,Ob.arr 4 []) /\ s.h (.slot 12 4) = some (0,Ob.arr 1 []) /\ s.h (.slot 12 5) = some (0,Ob.arr 1 []) /\ s.h (.slot 62 3) = some (w2,Ob.arr 4 (g.shr.map Sh.pv)) /\ s.h (.slot 62 4) = some (w3,Ob.arr 1 (mx.map (.int .i64))) /\ s.h (.slot 62 5) = some (w4,Ob.arr 1 (g.highs.map (.int .i64))) /\ s.h (.slot 65 1) = some (0,Ob.arr 1 (List.map (.int .i64) W)) /\ ∃ X,s.h (.slot 16 0) = some (0,Ob.box [X,.p (.int .i64 sw.size),.own (.slot 62 3) w2 0 g.shr.length,.own (.slot 62 4) w3 0 mx.length,.own (.slot 62 5) w4 0 g.highs.length,.p (.int .i64 0)]) /\ fz0 [61,132,162] s.h X = .p (Bc g.stk.hs)
  refine Al (W.length) J ?_ ?_
  ·refine (hJ _ _).2 ⟨⟨⟨y,sw.size⟩,shr,mx,[],0⟩,w2,0,?_⟩
   and_intros
   ·exact by rw [<- hs0]; rfl
   ·exact p1
   ·exact by simp only; omega
   ·exact Nat.zero_le _
   ·rfl
   ·rfl
   ·rfl
   all_goals first | exact cl0 | (simp -implicitDefEqProofs (disch:=omega) only [go_sem] <;> first | (simp [go_sem]; done) | (simp [go_sem,hh16,hX]; omega))
  intro j s hj hJk
  obtain ⟨g,w2,w4,hr2,hS2,hd1,hd2,hm2,hf2,hz2,h2,h6,h12,h16,h17,h22,hh6_0,hh12_0,hh12_1,hh12_3,hh12_4,hh12_5,hh62_3,hh62_4,hh62_5,hh65_1,hX⟩:=(hJ _ _).1 hJk
  clear hJk
  obtain ⟨X,hh16,hX⟩:=hX
  simp -implicitDefEqProofs (disch:=omega) only [h17,h22,go_sem]
  refine Ah (fun hlt=>?_) (fun hge=>?_)
  ·have hm : W[j]? = some W[j]:=lgg hlt
   have hdr : W.drop j = W[j] :: W.drop (j + 1):=ldg hlt
   have haw:=hai W[j] (lgk hlt)
   generalize W[j] = a at hm hdr haw
   rw [hdr,A1] at hr2
   obtain ⟨i,m,hmi,hme⟩:=haw
   have haw : InN t.nodes a:=⟨i,m,hmi,hme⟩
   obtain ⟨⟨hs2,z2⟩,shr2,mx2,hi2,rf2⟩:=g
   simp only at hd1 hd2 hm2 hf2 hz2
   subst hm2 hf2 hz2
   have hgl2 : hs2.length <= t.nodes.length:=hS2.hs.length
   have hu:=Gk hS2.tree hS2.hs (by show hs2.length < _; omega) hmi
   rw [hme] at hu
   have hst:=KN l a (by omega)
   have hH:=Fm (Ij hM a).1
   have hU' : 0 <= Av t (An hs2) a /\ Av t (An hs2) a <= 16777216:=G6 hS2.tree (Dw hS2.hs) a
   by_cases ho : 0 < Am t ⟨⟨hs2,sw.size⟩,shr2,mx2,hi2,0⟩ a - (AA l a).high
   ·rw [if_pos ho] at hr2
    have h1g:=DS (g:=⟨⟨hs2,sw.size⟩,shr2,mx2,hi2,0⟩) hS2 hM haw (n:=Am t ⟨⟨hs2,sw.size⟩,shr2,mx2,hi2,0⟩ a - (AA l a).high) (by omega)
    have h2g:=Fv (g:=⟨⟨hs2,sw.size⟩,shr2,mx2,hi2,0⟩) hS2 hM haw (n:=Am t ⟨⟨hs2,sw.size⟩,shr2,mx2,hi2,0⟩ a - (AA l a).high) (by omega)
    have hsh:=Om (g:=⟨⟨hs2,sw.size⟩,shr2,mx2,hi2,0⟩) hS2 hM (by omega) (id:=a) (n:=Am t ⟨⟨hs2,sw.size⟩,shr2,mx2,hi2,0⟩ a - (AA l a).high) (by show shr2.length < _; omega)
    have hzz : (As t l ⟨⟨hs2,sw.size⟩,shr2,mx2,hi2,0⟩ a (Am t ⟨⟨hs2,sw.size⟩,shr2,mx2,hi2,0⟩ a - (AA l a).high)).stk.size = sw.size:=h1g.size
    have e1 : As t l ⟨⟨hs2,sw.size⟩,shr2,mx2,hi2,0⟩ a (Am t ⟨⟨hs2,sw.size⟩,shr2,mx2,hi2,0⟩ a - (AA l a).high) = ⟨(As t l ⟨⟨hs2,sw.size⟩,shr2,mx2,hi2,0⟩ a (Am t ⟨⟨hs2,sw.size⟩,shr2,mx2,hi2,0⟩ a - (AA l a).high)).stk,(As t l ⟨⟨hs2,sw.size⟩,shr2,mx2,hi2,0⟩ a (Am t ⟨⟨hs2,sw.size⟩,shr2,mx2,hi2,0⟩ a - (AA l a).high)).shr,mx2,hi2,0⟩:=rfl
    have hSn:=h1g.stk
    have h2g' : (As t l ⟨⟨hs2,sw.size⟩,shr2,mx2,hi2,0⟩ a (Am t ⟨⟨hs2,sw.size⟩,shr2,mx2,hi2,0⟩ a - (AA l a).high)).shr.length <= shr2.length + 64:=h2g
    rw [e1] at hr2
    generalize (As t l ⟨⟨hs2,sw.size⟩,shr2,mx2,hi2,0⟩ a (Am t ⟨⟨hs2,sw.size⟩,shr2,mx2,hi2,0⟩ a - (AA l a).high)).stk = s1 at hr2 hsh hzz hSn
    generalize (As t l ⟨⟨hs2,sw.size⟩,shr2,mx2,hi2,0⟩ a (Am t ⟨⟨hs2,sw.size⟩,shr2,mx2,hi2,0⟩ a - (AA l a).high)).shr = r1 at hr2 hsh h2g'
    clear h2g h1g e1
    obtain ⟨x,z⟩:=s1
    simp only at hzz
    subst hzz
    have hxl : x.length <= t.nodes.length:=hSn.hs.length
    have hu2:=Gk hSn.tree hSn.hs (by show x.length < _; omega) hmi
    rw [hme] at hu2
    have hV' : 0 <= Av t (An x) a /\ Av t (An x) a <= 16777216:=G6 hSn.tree (Dw hSn.hs) a
    have hue : Am t ⟨⟨x,sw.size⟩,r1,mx2,hi2,0⟩ a = Av t (An x) a:=rfl
    have huo : Am t ⟨⟨hs2,sw.size⟩,shr2,mx2,hi2,0⟩ a = Av t (An hs2) a:=rfl
    rw [hue] at hr2
    rw [huo] at ho hsh
    simp only [gwI,Stk.vv] at hu hu2 hsh
    generalize Av t (An hs2) a = U at *
    generalize Av t (An x) a = U2 at *
    generalize AA l a = M at *
    by_cases hq : M.high < U2
    ·rw [if_pos hq] at hr2
     simp -implicitDefEqProofs (disch:=omega) only [h2,h6,h16,h17,h22,hh6_0,hh62_3,hh62_4,hh62_5,hh65_1,hX,hh16,hlt,hm,hu,hst,ho,hsh,hu2,hq,go_sem]
     try refine ai ?_
     refine (hJ _ _).2 ⟨⟨⟨x,sw.size⟩,r1,mx2,hi2 ++ [a],0⟩,w2 + 1,w4 + 1,?_⟩
     and_intros
     .exact hr2
     .exact hSn
     .exact by simp only; omega
     .exact by simp; omega
     .rfl
     .rfl
     .rfl
     all_goals first | exact cl0 | (simp -implicitDefEqProofs (disch:=omega) only [go_sem] <;> first | (simp [go_sem]; done) | (simp [go_sem,hh16,hX]; omega))
    ·rw [if_neg hq] at hr2
     simp -implicitDefEqProofs (disch:=omega) only [h2,h6,h16,h17,h22,hh6_0,hh62_3,hh62_4,hh62_5,hh65_1,hX,hh16,hlt,hm,hu,hst,ho,hsh,hu2,hq,go_sem]
     try refine ai ?_
     refine (hJ _ _).2 ⟨⟨⟨x,sw.size⟩,r1,mx2,hi2,0⟩,w2 + 1,w4,?_⟩
     and_intros
     .exact hr2
     .exact hSn
     .exact by simp only; omega
     .exact by simp only; omega
     .rfl
     .rfl
     .rfl
     all_goals first | exact cl0 | (simp -implicitDefEqProofs (disch:=omega) only [go_sem] <;> first | (simp [go_sem]; done) | (simp [go_sem,hh16,hX]; omega))
   ·rw [if_neg ho] at hr2
    have huo : Am t ⟨⟨hs2,sw.size⟩,shr2,mx2,hi2,0⟩ a = Av t (An hs2) a:=rfl
    rw [huo] at ho
    simp only [Stk.vv] at hu
    generalize Av t (An hs2) a = U at *
    generalize AA l a = M at *
    simp -implicitDefEqProofs (disch:=omega) only [h2,h6,h16,h17,h22,hh6_0,hh65_1,hX,hh16,hlt,hm,hu,hst,ho,go_sem]
    try refine ai ?_
    refine (hJ _ _).2 ⟨⟨⟨hs2,sw.size⟩,shr2,mx2,hi2,0⟩,w2,w4,?_⟩
    and_intros
    .exact hr2
    .exact hS2
    .exact by simp only; omega
    .exact by simp only; omega
    .rfl
    .rfl
    .rfl
    all_goals first | exact cl0 | (simp -implicitDefEqProofs (disch:=omega) only [hX,hh16,go_sem] <;> first | (simp [go_sem]; done) | (simp [go_sem,hh16,hX]; omega))
  ·rw [ldl (by omega),A1] at hr2
   obtain ⟨⟨hs2,z2⟩,shr2,mx2,hi2,rf2⟩:=g
   simp only at hd1 hd2 hm2 hf2 hz2
   subst hm2 hf2 hz2
   simp -implicitDefEqProofs (disch:=omega) only [h12,h16,hh12_0,hh62_3,hh62_4,hh62_5,hX,hh16,hge,go_sem]
   refine ⟨true,?_⟩
   rw [hr2]
   simp [gwO]
theorem YP (L : List Int) (a : Nat) (g : Int) (hL : L.length < 4611686018427387904) : V 46 [.ptr (.arg 0 0) 0 0] [A3 L a] = some ((DZ L a g).mv,[A3 L (GX L a)]):=by
 refine Ag (vf:=vf46) rfl ?_
 have p1:=Cw L a JR hL (by decide) (by decide)
 have p2:=Cw L (Ae L a 4) JQ hL (by decide) (by decide)
 have b1 : V 25 [.ptr (.arg 0 0) 0 0,.p (.int .i64 2)] [A3 L (CV L a)] = some (.p (.bool (decide (AC L (CV L a) 2 = 1))),[A3 L (Ae L (CV L a) 2)]):=Hv L _ 2 hL (by omega) (by omega)
 have p3:=Cw L (Ae L (CV L a) 2) Gp hL (by decide) (by decide)
 have b2 : V 25 [.ptr (.arg 0 0) 0 0,.p (.int .i64 2)] [A3 L (CU L a)] = some (.p (.bool (decide (AC L (CU L a) 2 = 1))),[A3 L (Ae L (CU L a) 2)]):=Hv L _ 2 hL (by omega) (by omega)
 have p4:=Cw L (Ae L (CU L a) 2) Gl hL (by decide) (by decide)
 have b3 : V 25 [.ptr (.arg 0 0) 0 0,.p (.int .i64 3)] [A3 L (CT L a)] = some (.p (.bool (decide (AC L (CT L a) 3 = 2))),[A3 L (Ae L (CT L a) 3)]):=Hv L _ 3 hL (by omega) (by omega)
 have p5:=Cw L (Ae L (CT L a) 3) Gj hL (by decide) (by decide)
 have b4 : V 25 [.ptr (.arg 0 0) 0 0,.p (.int .i64 4)] [A3 L (HN L a)] = some (.p (.bool (decide (AC L (HN L a) 4 = 3))),[A3 L (GX L a)]):=Hv L _ 4 hL (by omega) (by omega)
 simp only [JR,AT,llc,lln,rA,lpc,lpn] at p1
 rw [<- JR] at p1
 simp only [JQ,AT,llc,lln,rA,lpc,lpn] at p2
 rw [<- JQ] at p2
 simp only [Gp,AT,llc,lln,rA,lpc,lpn] at p3
 rw [<- Gp] at p3
 simp only [Gl,AT,llc,lln,rA,lpc,lpn] at p4
 rw [<- Gl] at p4
 simp only [Gj,AT,llc,lln,rA,lpc,lpn] at p5
 rw [<- Gj] at p5
 have hdf : V 44 [] [] = some (.agg [.p (.int .i64 0),.p (.int .i64 0),.p (.int .i64 4611686018427387904),.p (.int .i64 4611686018427387904),.p (.int .i64 4611686018427387904),.p (.bool false)],[]):=by
  refine Ag (vf:=vf44) rfl ?_
  simp -implicitDefEqProofs (disch:=omega) only [vf44,IJ,go_sem]
 have q1 : Ae L a ((4 : Nat) : Int) = Ae L a 4:=rfl
 have q2 : Ae L (Ae L a 4) ((4 : Nat) : Int) = CV L a:=rfl
 have q3 : Ae L (Ae L (CV L a) 2) ((4 : Nat) : Int) = Ae L (Ae L (CV L a) 2) 4:=rfl
 have q4 : Ae L (Ae L (CU L a) 2) ((5 : Nat) : Int) = Ae L (Ae L (CU L a) 2) 5:=rfl
 have q5 : Ae L (Ae L (CT L a) 3) ((3 : Nat) : Int) = Ae L (Ae L (CT L a) 3) 3:=rfl
 rw [q1] at p1
 rw [q2] at p2
 rw [q3] at p3
 rw [q4] at p4
 rw [q5] at p5
 have hB : CU L a = if AC L (CV L a) 2 = 1 then Ae L (Ae L (CV L a) 2) 4 else Ae L (CV L a) 2:=rfl
 have hC : CT L a = if AC L (CU L a) 2 = 1 then Ae L (Ae L (CU L a) 2) 5 else Ae L (CU L a) 2:=rfl
 have hE : HN L a = if AC L (CT L a) 3 = 2 then Ae L (Ae L (CT L a) 3) 3 else Ae L (CT L a) 3:=rfl
 have v1 : FL L (CV L a) 2 Gp = if AC L (CV L a) 2 = 1 then Bs L (Ae L (CV L a) 2) Gp else 4611686018427387904:=rfl
 have v2 : FL L (CU L a) 2 Gl = if AC L (CU L a) 2 = 1 then Bs L (Ae L (CU L a) 2) Gl else 4611686018427387904:=rfl
 have v3 : FL L (CT L a) 3 Gj = if AC L (CT L a) 3 = 2 then Bs L (Ae L (CT L a) 3) Gj else 4611686018427387904:=rfl
 unfold DZ
 rw [v1,v2,v3]
 clear v1 v2 v3 q1 q2 q3 q4 q5
 generalize GX L a = aZ at b4 ⊢
 generalize HN L a = aE at *
 generalize CT L a = aC at *
 generalize CU L a = aB at *
 generalize CV L a = aA at *
 by_cases c1 : AC L aA 2 = 1
 ·rw [if_pos c1] at hB ⊢
  subst hB
  by_cases c2 : AC L (Ae L (Ae L aA 2) 4) 2 = 1
  ·rw [if_pos c2] at hC ⊢
   subst hC
   by_cases c3 : AC L (Ae L (Ae L (Ae L (Ae L aA 2) 4) 2) 5) 3 = 2
   ·rw [if_pos c3] at hE ⊢
    subst hE
    simp -implicitDefEqProofs (disch:=omega) only [vf46,Fa,hdf,p1,p2,b1,p3,b2,p4,b3,p5,b4,c1,c2,c3,go_sem]
   ·rw [if_neg c3] at hE ⊢
    subst hE
    simp -implicitDefEqProofs (disch:=omega) only [vf46,Fa,hdf,p1,p2,b1,p3,b2,p4,b3,b4,c1,c2,c3,go_sem]
  ·rw [if_neg c2] at hC ⊢
   subst hC
   by_cases c3 : AC L (Ae L (Ae L (Ae L aA 2) 4) 2) 3 = 2
   ·rw [if_pos c3] at hE ⊢
    subst hE
    simp -implicitDefEqProofs (disch:=omega) only [vf46,Fa,hdf,p1,p2,b1,p3,b2,b3,p5,b4,c1,c2,c3,go_sem]
   ·rw [if_neg c3] at hE ⊢
    subst hE
    simp -implicitDefEqProofs (disch:=omega) only [vf46,Fa,hdf,p1,p2,b1,p3,b2,b3,b4,c1,c2,c3,go_sem]
 ·rw [if_neg c1] at hB ⊢
  subst hB
  by_cases c2 : AC L (Ae L aA 2) 2 = 1
  ·rw [if_pos c2] at hC ⊢
   subst hC
   by_cases c3 : AC L (Ae L (Ae L (Ae L aA 2) 2) 5) 3 = 2
   ·rw [if_pos c3] at hE ⊢
    subst hE
    simp -implicitDefEqProofs (disch:=omega) only [vf46,Fa,hdf,p1,p2,b1,b2,p4,b3,p5,b4,c1,c2,c3,go_sem]
   ·rw [if_neg c3] at hE ⊢
    subst hE
    simp -implicitDefEqProofs (disch:=omega) only [vf46,Fa,hdf,p1,p2,b1,b2,p4,b3,b4,c1,c2,c3,go_sem]
  ·rw [if_neg c2] at hC ⊢
   subst hC
   by_cases c3 : AC L (Ae L (Ae L aA 2) 2) 3 = 2
   ·rw [if_pos c3] at hE ⊢
    subst hE
    simp -implicitDefEqProofs (disch:=omega) only [vf46,Fa,hdf,p1,p2,b1,b2,b3,p5,b4,c1,c2,c3,go_sem]
   ·rw [if_neg c3] at hE ⊢
    subst hE
    simp -implicitDefEqProofs (disch:=omega) only [vf46,Fa,hdf,p1,p2,b1,b2,b3,b4,c1,c2,c3,go_sem]
theorem zbN (L : List Int) (a : Nat) (t : Tr) (hL : L.length < 4611686018427387904) (hl : t.nodes.length < 1000000) : V 17 [.ptr (.arg 0 0) 0 0,t.vv] [A3 L a] = some (.fresh 7 ((dMems L t.nodes a).1.map Mc.pv),[A3 L (dMems L t.nodes a).2]):=by
 refine Ag (vf:=vf17) rfl ?_
 simp -implicitDefEqProofs (disch:=omega) only [vf17,Un,go_sem]
 obtain ⟨I,hI⟩:=lpI fun k s=>∃ (b : Nat) (acc : List Mc) (w : Nat),dMems L t.nodes a = (acc ++ (dMems L (t.nodes.drop k) b).1,(dMems L (t.nodes.drop k) b).2) /\ acc.length <= k /\ s.pe 0 = .ptr (Id.arg 0 0) 0 0 /\ s.pe 3 = .ptr (.slot 3 0) 0 0 /\ s.pe 5 = .own (.slot 5 0) w 0 acc.length /\ s.pe 6 = .p (.int .i64 k) /\ s.h (.arg 0 0) = some (0,A3 L b) /\ s.h (.slot 3 0) = some (0,Ob.box [.p (Au t.nodes),.p (.int .i64 t.next)]) /\ s.h (.slot 5 0) = some (w,Ob.arr 7 (acc.map Mc.pv))
 refine Al (t.nodes.length) I ?_ ?_
 ·refine (hI _ _).2 ⟨a,[],0,?_⟩
  and_intros
  ·rfl
  ·exact cl3
  all_goals exact cl0
 intro k s hk hIk
 obtain ⟨b,acc,w,hd,hal,hH⟩:=(hI _ _).1 hIk
 clear hIk
 simp -implicitDefEqProofs (disch:=omega) only [hH,go_sem]
 refine Ah (fun hlt=>?_) (fun hge=>?_)
 ·have hm : t.nodes[k]? = some t.nodes[k]:=lgg hlt
  have hdr : t.nodes.drop k = t.nodes[k] :: t.nodes.drop (k + 1):=ldg hlt
  generalize t.nodes[k] = m at hm hdr
  rw [hdr,dMems] at hd
  have hb:=Ev L b 3 hL (by omega)
  have hme:=YP L (Ae L b 3) m.id hL
  have hmg : m.id = (DZ L (Ae L b 3) m.id).group:=rfl
  generalize DZ L (Ae L b 3) m.id = c at hme hd hmg
  generalize GX L (Ae L b 3) = b2 at hme hd
  generalize Ae L b 3 = b1 at hb hme hd
  by_cases hx : 0 < AC L b 3
  ·rw [if_pos hx] at hd
   simp only [Mc.mv] at hme
   simp -implicitDefEqProofs (disch:=omega) only [hH,hlt,hm,hb,hme,hx,hmg,go_sem]
   try refine ai ?_
   refine (hI _ _).2 ⟨b2,acc ++ [c],w + 1,?_⟩
   and_intros
   .exact by rw [hd]; simp
   .exact by simp; omega
   all_goals exact cl0
  ·rw [if_neg hx] at hd
   simp -implicitDefEqProofs (disch:=omega) only [hH,hlt,hb,hx,go_sem]
   try refine ai ?_
   refine (hI _ _).2 ⟨b1,acc,w,?_⟩
   and_intros
   .exact hd
   .omega
   all_goals exact cl0
 ·rw [ldl (by omega),dMems] at hd
  rw [hd]
  simp -implicitDefEqProofs (disch:=omega) only [hH,hge,go_sem]
  try simp
structure Lone (t : Tr) (sw : Stk) (root : Int) (l : List Ch) : Prop where
 trial : TrialOk t sw [] l root
 sub : subA t root = [root]
 kids : kidsN t.nodes root = []
 file : (Ac sw.hs root).file = 0
section
variable {t : Tr} {sw : Stk} {root n : Int} {l : List Ch}
theorem Lone.eff (h : Lone t sw root l) : HO t sw [] root = [⟨root,0,0⟩]:=by
 obtain ⟨i,m,hm,hme⟩:=h.trial.root
 unfold HO A8
 rw [show subT t root = [root] by rw [<- hme,DM h.trial.stk.tree hm,hme]; exact h.sub,show msort [root] = [root] from by simp [msort]]
 simp only [lpc,lpn,CP,Me]
end
def t2 : Tr:=⟨[⟨1,0,⟨#[]⟩,0,0,0⟩,⟨2,1,⟨#[97]⟩,0,0,0⟩],3⟩
theorem zci : subT t2 2 = [2]:=by decide
theorem C3 : msort (subT t2 2) = [2]:=by rw [zci,zak (by decide)]
theorem M9 {sw : Stk} {n : Int} {s : ShSt} {x : List Hg} {o : List Sh} (hz : Ap sw.size = true) (hn : Ap n = true) (he : A8 t2 (An sw.hs) [] 2 = [⟨2,0,0⟩]) (h : Bk t2 sw.size [] [⟨2,0,0⟩] 2 (sw.hs,(fun _=>zeroSh),n) 4 = s) (h1 : s.1 = x) (h2 : outL s.2.1 [⟨2,0,0⟩] = o) (hv : BJ t2 sw = true) : BF t2 sw [] [] 2 n = (⟨x,sw.size⟩,o,0):=by
 have h3 : (BJ t2 sw && Dt t2 [] && Du t2 []) = true:=by rw [hv]; decide
 have h4 : (Ao t2.nodes 2).isSome = true:=by decide
 rw [BF,if_pos h3,if_pos h4,if_pos hn]
 simp only [he]
 rw [h,h1,h2]
theorem Qr : BF t2 ⟨[⟨2,15,0,0⟩],0⟩ [] [] 2 5 = (⟨[⟨2,10,0,0⟩],0⟩,[⟨2,5,0,0⟩],0):=M9 (by decide) (by decide) (by unfold A8; rw [C3]; decide) (s:=AK true true (AK false true (AK true false (AK false false ([⟨2,15,0,0⟩],(fun _=>zeroSh),5) [(2,5)]) []) []) []) (Mo (DO C3 rfl (by decide) (by decide) (by decide) (by decide)) (DO C3 rfl (by decide) (by decide) (by decide) (by decide)) (DO C3 rfl (by decide) (by decide) (by decide) (by decide)) (DO C3 rfl (by decide) (by decide) (by decide) (by decide))) (by decide) (by decide) (by decide)
theorem Yx : BF t2 ⟨[⟨2,15,0,0⟩],0⟩ [] [] 2 25 = (⟨[],0⟩,[⟨2,15,0,0⟩],0):=M9 (by decide) (by decide) (by unfold A8; rw [C3]; decide) (s:=AK true true (AK false true (AK true false (AK false false ([⟨2,15,0,0⟩],(fun _=>zeroSh),25) [(2,15)]) []) []) []) (Mo (DO C3 rfl (by decide) (by decide) (by decide) (by decide)) (DO C3 rfl (by decide) (by decide) (by decide) (by decide)) (DO C3 rfl (by decide) (by decide) (by decide) (by decide)) (DO C3 rfl (by decide) (by decide) (by decide) (by decide))) (by decide) (by decide) (by decide)
theorem Yw : BF t2 ⟨[⟨2,10,10,0⟩],0⟩ [] [] 2 8 = (⟨[⟨2,2,10,0⟩],0⟩,[⟨2,8,0,0⟩],0):=M9 (by decide) (by decide) (by unfold A8; rw [C3]; decide) (s:=AK true true (AK false true (AK true false (AK false false ([⟨2,10,10,0⟩],(fun _=>zeroSh),8) [(2,8)]) []) []) []) (Mo (DO C3 rfl (by decide) (by decide) (by decide) (by decide)) (DO C3 rfl (by decide) (by decide) (by decide) (by decide)) (DO C3 rfl (by decide) (by decide) (by decide) (by decide)) (DO C3 rfl (by decide) (by decide) (by decide) (by decide))) (by decide) (by decide) (by decide)
abbrev g2 (s : Stk) : Gw:=⟨s,[],[],[],0⟩
abbrev l2 (most high : Int) : List Mc:=[⟨2,0,0,high,most,4611686018427387904,false⟩]
theorem zbX : AW t2 (l2 20 4611686018427387904) (g2 ⟨[⟨2,15,0,0⟩],0⟩) 2 0 10 = (⟨⟨[⟨2,10,10,0⟩],0⟩,[⟨2,5,0,0⟩],[2],[],0⟩,0):=by
 have hs : As t2 (l2 20 4611686018427387904) (AO (g2 ⟨[⟨2,15,0,0⟩],0⟩) 2) 2 5 = ⟨⟨[⟨2,10,0,0⟩],0⟩,[⟨2,5,0,0⟩],[2],[],0⟩:=by
  unfold As
  rw [show A7 (l2 20 4611686018427387904) = [] from by decide,show A9 (l2 20 4611686018427387904) = [] from by decide,show min (5 : Int) 16777216 = 5 from by decide,show (AO (g2 ⟨[⟨2,15,0,0⟩],0⟩) 2).stk = ⟨[⟨2,15,0,0⟩],0⟩ from rfl,Qr]
  rfl
 have hr : AG t2 (l2 20 4611686018427387904) 10 [2,1] (g2 ⟨[⟨2,15,0,0⟩],0⟩) = (⟨⟨[⟨2,10,0,0⟩],0⟩,[⟨2,5,0,0⟩],[2],[],0⟩,0):=by
  unfold AG
  rw [show AL t2 (l2 20 4611686018427387904) 10 (g2 ⟨[⟨2,15,0,0⟩],0⟩) 2 = 5 from by decide,if_pos (by decide),hs,if_neg (by decide)]
  unfold AG
  rw [if_neg (by decide)]
  rfl
 unfold AW
 rw [show ancR t2 2 = [2,1] from by decide]
 have hp : BO ⟨⟨[⟨2,10,0,0⟩],0⟩,[⟨2,5,0,0⟩],[2],[],0⟩ (Bt (Ac [⟨2,10,0,0⟩] 2) 0 10) = ⟨⟨[⟨2,10,10,0⟩],0⟩,[⟨2,5,0,0⟩],[2],[],0⟩:=by rfl
 have hst : A1 t2 (l2 20 4611686018427387904) [2,1] ⟨⟨[⟨2,10,10,0⟩],0⟩,[⟨2,5,0,0⟩],[2],[],0⟩ = ⟨⟨[⟨2,10,10,0⟩],0⟩,[⟨2,5,0,0⟩],[2],[],0⟩:=by
  unfold A1
  rw [if_neg (by decide)]
  unfold A1
  rw [if_neg (by decide)]
  rfl
 simp only [Int.zero_add,hr,if_true,hp,hst]
theorem zbW : AW t2 (l2 20 4611686018427387904) (g2 ⟨[⟨2,15,0,0⟩],0⟩) 2 0 30 = (⟨⟨[],0⟩,[⟨2,15,0,0⟩],[2],[],2⟩,20):=by
 have hs : As t2 (l2 20 4611686018427387904) (AO (g2 ⟨[⟨2,15,0,0⟩],0⟩) 2) 2 25 = ⟨⟨[],0⟩,[⟨2,15,0,0⟩],[2],[],0⟩:=by
  unfold As
  rw [show A7 (l2 20 4611686018427387904) = [] from by decide,show A9 (l2 20 4611686018427387904) = [] from by decide,show min (25 : Int) 16777216 = 25 from by decide,show (AO (g2 ⟨[⟨2,15,0,0⟩],0⟩) 2).stk = ⟨[⟨2,15,0,0⟩],0⟩ from rfl,Yx]
  rfl
 have hr : AG t2 (l2 20 4611686018427387904) 30 [2,1] (g2 ⟨[⟨2,15,0,0⟩],0⟩) = (⟨⟨[],0⟩,[⟨2,15,0,0⟩],[2],[],2⟩,20):=by
  unfold AG
  rw [show AL t2 (l2 20 4611686018427387904) 30 (g2 ⟨[⟨2,15,0,0⟩],0⟩) 2 = 25 from by decide,if_pos (by decide),hs,if_pos (by decide)]
  rfl
 unfold AW
 rw [show ancR t2 2 = [2,1] from by decide]
 simp only [Int.zero_add,hr]
 rw [if_neg (by decide)]
theorem zbV : AW t2 (l2 20 12) (g2 ⟨[⟨2,15,0,0⟩],0⟩) 2 0 10 = (⟨⟨[⟨2,2,10,0⟩],0⟩,[⟨2,5,0,0⟩,⟨2,8,0,0⟩],[2],[],0⟩,0):=by
 have hs : As t2 (l2 20 12) (AO (g2 ⟨[⟨2,15,0,0⟩],0⟩) 2) 2 5 = ⟨⟨[⟨2,10,0,0⟩],0⟩,[⟨2,5,0,0⟩],[2],[],0⟩:=by
  unfold As
  rw [show A7 (l2 20 12) = [] from by decide,show A9 (l2 20 12) = [] from by decide,show min (5 : Int) 16777216 = 5 from by decide,show (AO (g2 ⟨[⟨2,15,0,0⟩],0⟩) 2).stk = ⟨[⟨2,15,0,0⟩],0⟩ from rfl,Qr]
  rfl
 have hr : AG t2 (l2 20 12) 10 [2,1] (g2 ⟨[⟨2,15,0,0⟩],0⟩) = (⟨⟨[⟨2,10,0,0⟩],0⟩,[⟨2,5,0,0⟩],[2],[],0⟩,0):=by
  unfold AG
  rw [show AL t2 (l2 20 12) 10 (g2 ⟨[⟨2,15,0,0⟩],0⟩) 2 = 5 from by decide,if_pos (by decide),hs,if_neg (by decide)]
  unfold AG
  rw [if_neg (by decide)]
  rfl
 have hp : BO ⟨⟨[⟨2,10,0,0⟩],0⟩,[⟨2,5,0,0⟩],[2],[],0⟩ (Bt (Ac [⟨2,10,0,0⟩] 2) 0 10) = ⟨⟨[⟨2,10,10,0⟩],0⟩,[⟨2,5,0,0⟩],[2],[],0⟩:=by rfl
 have hs2 : As t2 (l2 20 12) ⟨⟨[⟨2,10,10,0⟩],0⟩,[⟨2,5,0,0⟩],[2],[],0⟩ 2 8 = ⟨⟨[⟨2,2,10,0⟩],0⟩,[⟨2,5,0,0⟩,⟨2,8,0,0⟩],[2],[],0⟩:=by
  unfold As
  rw [show A7 (l2 20 12) = [] from by decide,show A9 (l2 20 12) = [] from by decide,show min (8 : Int) 16777216 = 8 from by decide,Yw]
  rfl
 have hst : A1 t2 (l2 20 12) [2,1] ⟨⟨[⟨2,10,10,0⟩],0⟩,[⟨2,5,0,0⟩],[2],[],0⟩ = ⟨⟨[⟨2,2,10,0⟩],0⟩,[⟨2,5,0,0⟩,⟨2,8,0,0⟩],[2],[],0⟩:=by
  unfold A1
  rw [show Am t2 ⟨⟨[⟨2,10,10,0⟩],0⟩,[⟨2,5,0,0⟩],[2],[],0⟩ 2 - (AA (l2 20 12) 2).high = 8 from by decide,if_pos (by decide),hs2,if_neg (by decide)]
  unfold A1
  rw [if_neg (by decide)]
  rfl
 unfold AW
 rw [show ancR t2 2 = [2,1] from by decide]
 simp only [Int.zero_add,hr,if_true,hp,hst]
theorem NO : InN t2.nodes 2:=⟨1,⟨2,1,⟨#[97]⟩,0,0,0⟩,rfl,rfl⟩
theorem Nu (a b : Int) (ha : A4 a = true) (hb : A4 b = true) : McOk t2.nodes (l2 a b):=by
 refine ⟨?_,by simp,?_⟩
 ·intro m hm
  simp only [List.mem_singleton] at hm
  subst hm
  show (Ao t2.nodes 2).isSome = true
  decide
 ·intro m hm
  simp only [List.mem_singleton] at hm
  subst hm
  exact ⟨rfl,rfl,hb,ha,rfl⟩
theorem zcH {s : Stk} (h : BJ t2 s = true) : StkOk t2 s:=(Dc t2 s).1 h
theorem Yy : V 16 [] [] = some (.p (.bool true),[]):=by
 have hs:=zcH (s:=⟨[⟨2,15,0,0⟩],0⟩) (by decide)
 have c1:=Ka hs (Nu 20 4611686018427387904 (by decide) (by decide)) NO (file:=0) (anon:=10) (by omega) (by omega) (by omega) (by omega)
 have c2:=Ka hs (Nu 20 4611686018427387904 (by decide) (by decide)) NO (file:=0) (anon:=30) (by omega) (by omega) (by omega) (by omega)
 have c3:=Ka hs (Nu 20 12 (by decide) (by decide)) NO (file:=0) (anon:=10) (by omega) (by omega) (by omega) (by omega)
 rw [zbX] at c1
 rw [zbW] at c2
 rw [zbV] at c3
 have hdf : V 44 [] [] = some (.agg [.p (.int .i64 0),.p (.int .i64 0),.p (.int .i64 4611686018427387904),.p (.int .i64 4611686018427387904),.p (.int .i64 4611686018427387904),.p (.bool false)],[]):=by
  refine Ag (vf:=vf44) rfl ?_
  simp -implicitDefEqProofs (disch:=omega) only [vf44,IJ,go_sem]
 have s1:=Mp [⟨2,10,10,0⟩] [⟨2,10,10,0⟩] (by simp)
 have s2:=Mp [⟨2,2,10,0⟩] [⟨2,2,10,0⟩] (by simp)
 simp only [t2,Tr.vv,Au,Bc,AM,l2,Stk.vv,lpc,lpn,Nd.pv,Hg.pv,Mc.pv,Sh.pv,gwF,decide_true] at c1 c2 c3 s1 s2
 refine Ag (vf:=vf16) rfl ?_
 simp -implicitDefEqProofs (disch:=omega) only [vf16,Uo,hdf,c1,c2,c3,s1,s2,Int.toNat_zero,List.getElem?_cons_zero,List.set_cons_zero,Int.natCast_zero,go_sem]
theorem za3 {t : Tr} {sw : Stk} {l : List Mc} (hs : StkOk t sw) (hl : McOk t.nodes l) {id n : Int} (hid : InN t.nodes id) (hn : 0 <= n) (hw : n <= (Ac sw.hs id).swap) :
  ((DE t l ⟨sw,[],[],[],0⟩ id n).2 = 0 \/ (DE t l ⟨sw,[],[],[],0⟩ id n).2 = 20) /\ StkOk t (DE t l ⟨sw,[],[],[],0⟩ id n).1.stk /\
  (Ac (DE t l ⟨sw,[],[],[],0⟩ id n).1.stk.hs id).anon + (Ac (DE t l ⟨sw,[],[],[],0⟩ id n).1.stk.hs id).swap = (Ac sw.hs id).anon + (Ac sw.hs id).swap /\
  (Ac (DE t l ⟨sw,[],[],[],0⟩ id n).1.stk.hs id).file <= (Ac sw.hs id).file:=by
 have hG:=JT hl (g:=⟨sw,[],[],[],0⟩) hs hid (file:=0) (anon:=n) (by omega) hn
 unfold DE
 rcases hG with ⟨he,hG⟩ | ⟨he,_,hR⟩
 ·rw [if_pos he]
  generalize AW t l ⟨sw,[],[],[],0⟩ id 0 n = r at *
  obtain ⟨a,_,hp,hget⟩:=hG.shr
  have hgi:=hget id
  rw [if_pos rfl,if_pos rfl] at hgi
  have h1:=Gc (f:=(·.file)) (fun y hy=>(hp y hy).1) id
  have h2:=Gc (f:=(·.anon)) (fun y hy=>(hp y hy).2) id
  have hw' : n <= (Ac r.1.stk.hs id).swap:=by
   rw [hgi]
   show n <= (Ac sw.hs id).swap + _
   omega
  have hok:=SF hG.stk hid hn hw'
  refine ⟨.inl rfl,hok,?_⟩
  have e : Ac (BO r.1 (Eb (Ac r.1.stk.hs id) n)).stk.hs id = Eb (Ac r.1.stk.hs id) n:=by
   show Ac (putS r.1.stk.hs (Eb (Ac r.1.stk.hs id) n)) id = _
   rw [JK]
   exact if_pos (Dd _ _).symm
  rw [e,hgi]
  show (Ac sw.hs id).anon + n - _ + ((Ac sw.hs id).swap + _ - n) = _ /\ (Ac sw.hs id).file + 0 - _ <= _
  omega
 ·rw [if_neg (by omega)]
  generalize AW t l ⟨sw,[],[],[],0⟩ id 0 n = r at *
  obtain ⟨a,_,hacc,hp⟩:=hR.grw.shr
  have h1:=Gc (f:=(·.file)) (fun y hy=>(hp y hy).1) id
  have h2:=Gc (f:=(·.anon)) (fun y hy=>(hp y hy).2) id
  refine ⟨.inr he,hR.grw.stk,?_⟩
  rw [hacc id]
  show (Ac sw.hs id).anon - _ + ((Ac sw.hs id).swap + _) = _ /\ (Ac sw.hs id).file - _ <= _
  omega
theorem ZP {t : Tr} {sw : Stk} {l : List Mc} (hs : StkOk t sw) (hl : McOk t.nodes l) {id : Int} (hid : InN t.nodes id) : Grw t ⟨sw,[],[],[],0⟩ (EF t l ⟨sw,[],[],[],0⟩ id):=by
 unfold EF
 split
 .exact DS (g:=⟨sw,[],[],[],0⟩) hs hl hid (by omega)
 .exact Grw.refl hs
theorem I9 {t : Tr} {l : List Mc} (hl : McOk t.nodes l) : ∀ (as_ : List Int) (g : Gw),(∀ a ∈ as_,InN t.nodes a) -> StkOk t g.stk -> (A1 t l as_ g).shr.length <= g.shr.length + 64 * as_.length /\ (A1 t l as_ g).highs.length <= g.highs.length + as_.length
 | [],g,_,_=>by simp [A1]
 | a :: as_,g,has,hg=>by
  have ha:=has a (by simp)
  have has' : ∀ x ∈ as_,InN t.nodes x:=fun x hx=>has x (by simp [hx])
  unfold A1
  rw [llc]
  by_cases ho : 0 < Am t g a - (AA l a).high
  ·rw [if_pos ho]
   have h1:=DS hg hl ha (n:=Am t g a - (AA l a).high) (by omega)
   have h2:=Fv hg hl ha (n:=Am t g a - (AA l a).high) (by omega)
   have e2 : (As t l g a (Am t g a - (AA l a).high)).highs = g.highs:=rfl
   generalize As t l g a (Am t g a - (AA l a).high) = g1 at *
   split
   ·have ih:=I9 hl as_ (HF g1 a) has' h1.stk
    have e3 : (HF g1 a).shr = g1.shr:=rfl
    have e4 : (HF g1 a).highs = g1.highs ++ [a]:=rfl
    rw [e3,e4,lla,e2] at ih
    simp only [llc,lln] at ih
    omega
   ·have ih:=I9 hl as_ g1 has' h1.stk
    rw [e2] at ih
    omega
  ·rw [if_neg ho]
   have ih:=I9 hl as_ g has' hg
   omega
theorem Lg {t : Tr} {l : List Mc} (n : Int) : ∀ (as_ : List Int) (g : Gw),(AG t l n as_ g).1.maxes.length <= g.maxes.length + as_.length
 | [],g=>by simp [AG]
 | a :: as_,g=>by
  unfold AG
  rw [llc]
  have e : (As t l (AO g a) a (AL t l n g a)).maxes = g.maxes ++ [a]:=rfl
  split
  ·split
   ·show (As t l (AO g a) a (AL t l n g a)).maxes.length <= _
    rw [e,lla]
    simp only [llc,lln]
    omega
   ·have:=Lg (t:=t) (l:=l) n as_ (As t l (AO g a) a (AL t l n g a))
    rw [e,lla] at this
    simp only [llc,lln] at this
    omega
  ·have:=Lg (t:=t) (l:=l) n as_ g
   omega
theorem LQ {t : Tr} {l : List Mc} (hl : McOk t.nodes l) (n : Int) : ∀ (as_ : List Int) (g : Gw),(∀ a ∈ as_,InN t.nodes a) -> StkOk t g.stk -> (AG t l n as_ g).1.shr.length <= g.shr.length + 64 * as_.length
 | [],g,_,_=>by simp [AG]
 | a :: as_,g,has,hg=>by
  have ha:=has a (by simp)
  have has' : ∀ x ∈ as_,InN t.nodes x:=fun x hx=>has x (by simp [hx])
  unfold AG
  by_cases ho : 0 < AL t l n g a
  ·rw [if_pos ho]
   have h1 : Grw t g (As t l (AO g a) a (AL t l n g a)):=M1 a (DS (g:=AO g a) hg hl ha (by omega))
   have h2:=Fv (g:=AO g a) hg hl ha (n:=AL t l n g a) (by omega)
   have h3 : (AO g a).shr = g.shr:=rfl
   rw [h3] at h2
   split
   ·show (As t l (AO g a) a (AL t l n g a)).shr.length <= _
    rw [llc]
    omega
   ·have:=LQ hl n as_ _ has' h1.stk
    rw [llc]
    omega
  ·rw [if_neg ho]
   have:=LQ hl n as_ g has' hg
   rw [llc]
   omega
theorem Ra {t : Tr} {l : List Mc} (hl : McOk t.nodes l) {g : Gw} (hg : StkOk t g.stk) {id file anon : Int} (hid : InN t.nodes id) (hf : 0 <= file) (ha : 0 <= anon) : (AW t l g id file anon).1.shr.length <= g.shr.length + 128 * 64 /\ (AW t l g id file anon).1.highs.length <= g.highs.length + 64 /\ (AW t l g id file anon).1.maxes.length <= g.maxes.length + 64:=by
 have hT:=hg.tree
 have hlen:=hT.len
 have hin : ∀ a ∈ ancR t id,InN t.nodes a:=fun a h=>GC hT hid h
 have hal:=Ho t id
 have hR:=Hk hl (file + anon) (ancR t id) g hin hg
 have hrl:=LQ hl (file + anon) (ancR t id) g hin hg
 have hml:=Lg (t:=t) (l:=l) (file + anon) (ancR t id) g
 unfold AW
 by_cases he : (AG t l (file + anon) (ancR t id) g).2 = 0
 ·rw [if_pos he]
  have hp : StkOk t (BO (AG t l (file + anon) (ancR t id) g).1 (Bt (Ac (AG t l (file + anon) (ancR t id) g).1.stk.hs id) file anon)).stk:=(Kf hR.grw.stk hid hf ha (by
   rcases hR.err with ⟨_,_,h3⟩ | ⟨h1,_⟩
   ·have h1:=h3 1 (Ja hT hid)
    have h2 : AE l 1 <= 16777216:=by
     unfold AE
     rw [if_pos rfl]
     omega
    have h4 : Av t (An (AG t l (file + anon) (ancR t id) g).1.stk.hs) 1 = Am t (AG t l (file + anon) (ancR t id) g).1 1:=rfl
    omega
   .omega)).1
  have hs:=I9 hl (ancR t id) _ hin hp
  have hso:=Hc hl (ancR t id) _ hin hp
  have e1 : ∀ (r : Gw) (h : Hg),(BO r h).shr = r.shr /\ (BO r h).highs = r.highs /\ (BO r h).maxes = r.maxes:=fun _ _=>⟨rfl,rfl,rfl⟩
  have hm:=hso.maxes
  rw [(e1 _ _).1,(e1 _ _).2.1,hR.highs] at hs
  rw [(e1 _ _).2.2] at hm
  simp only [hm]
  omega
 ·rw [if_neg he]
  have:=hR.highs
  rw [this]
  omega
theorem Z0 (t : Tr) (sw : Stk) (l : List Mc) (id file anon : Int) (hn : t.nodes.length < 1000000) (hsl : sw.hs.length < 1000000) (hl : l.length < 1000000) : ∃ f : Bool,V 47 [t.vv,sw.vv,.p (AM l),.p (.int .i64 id),.p (.int .i64 file),.p (.int .i64 anon)] [] = some (.tup [gwO f (EK t sw l id file anon).1,.p (.int .i64 (EK t sw l id file anon).2)],[]):=by
 unfold EK
 by_cases hc : Bo t sw l id = 0
 ·rw [if_pos hc]
  obtain ⟨hs,hM,hid⟩:=ET hc
  by_cases hr : 0 <= file /\ file <= 16777216 /\ 0 <= anon /\ anon <= 16777216 - file
  ·rw [if_pos hr]
   exact RL hs hM hid hr.1 hr.2.1 hr.2.2.1 hr.2.2.2
  ·rw [if_neg hr]
   refine ⟨false,Ag (vf:=vf47) rfl ?_⟩
   have h1:=HV t sw l id hn hsl hl
   rw [hc] at h1
   by_cases n1 : file < 0
   ·simp -implicitDefEqProofs (disch:=omega) only [vf47,FY,h1,n1,go_sem]
    try rfl
   ·by_cases n2 : 16777216 < file
    ·simp -implicitDefEqProofs (disch:=omega) only [vf47,FY,h1,n1,n2,go_sem]
     try rfl
    ·by_cases n3 : anon < 0
     ·simp -implicitDefEqProofs (disch:=omega) only [vf47,FY,h1,n1,n2,n3,go_sem]
      try rfl
     ·by_cases n4 : 16777216 < anon
      ·simp -implicitDefEqProofs (disch:=omega) only [vf47,FY,h1,n1,n2,n3,n4,go_sem]
       try rfl
      ·have n5 : 16777216 < file + anon:=by omega
       simp -implicitDefEqProofs (disch:=omega) only [vf47,FY,h1,n1,n2,n3,n4,n5,go_sem]
       try rfl
 ·rw [if_neg hc]
  refine ⟨false,Ag (vf:=vf47) rfl ?_⟩
  have h1:=HV t sw l id hn hsl hl
  generalize Bo t sw l id = e at h1 hc ⊢
  simp -implicitDefEqProofs (disch:=omega) only [vf47,FY,h1,hc,go_sem]
  try rfl
theorem Z1 (t : Tr) (sw : Stk) (l : List Mc) (id n : Int) (hn : t.nodes.length < 1000000) (hsl : sw.hs.length < 1000000) (hl : l.length < 1000000) : ∃ f : Bool,V 49 [t.vv,sw.vv,.p (AM l),.p (.int .i64 id),.p (.int .i64 n)] [] = some (.tup [gwO f (EL t sw l id n).1,.p (.int .i64 (EL t sw l id n).2)],[]):=by
 unfold EL
 have h1:=HV t sw l id hn hsl hl
 have hg1:=Hq sw id hsl
 by_cases hc : Bo t sw l id = 0
 ·rw [if_pos hc]
  obtain ⟨hs,hM,hid⟩:=ET hc
  rw [hc] at h1
  by_cases hr : 0 <= n /\ n <= (Ac sw.hs id).swap
  ·rw [if_pos hr]
   have hgo:=(hs.hs.get id).2.2
   obtain ⟨f,hgr⟩:=RL hs hM hid (file:=0) (anon:=n) (by omega) (by omega) hr.1 (by have:=hgo.2; omega)
   have hG:=JT hM (g:=⟨sw,[],[],[],0⟩) hs hid (file:=0) (anon:=n) (by omega) hr.1
   have n1 : ¬ n < 0:=by omega
   have n2 : ¬ (Ac sw.hs id).swap < n:=by omega
   unfold DE
   generalize AW t l ⟨sw,[],[],[],0⟩ id 0 n = r at hgr hG ⊢
   obtain ⟨r,e⟩:=r
   by_cases he : e = 0
   ·subst he
    simp only [if_true]
    rcases hG with ⟨_,hG⟩ | ⟨h1,_⟩
    ·simp only at hG
     have hrs:=hG.stk.hs.length
     have hlen:=hG.stk.tree.len
     have hr2:=Hq r.stk id (by omega)
     have hrp:=Ge r.stk (Eb (Ac r.stk.hs id) n) (by omega)
     have hb:=hG.stk.hs.get id
     unfold Eb at hrp ⊢
     generalize Ac r.stk.hs id = b at *
     obtain ⟨bg,bf,ba,bs⟩:=b
     simp only [Ax] at hb hgo
     obtain ⟨⟨c1,c2⟩,⟨c3,c4⟩,c5,c6⟩:=hb
     generalize hy : putS r.stk.hs ⟨bg,bf,ba,bs - n⟩ = y at *
     generalize Ac sw.hs id = o at *
     obtain ⟨og,of,oa,os⟩:=o
     obtain ⟨⟨x,z⟩,shr,mx,hi,rf⟩:=r
     simp only at hy
     simp only [BO,hy,Stk.vv,Stk.fv,Hg.vv] at h1 hg1 hr2 hrp hgr n2 hgo ⊢
     refine ⟨false,Ag (vf:=vf49) rfl ?_⟩
     cases f <;> (simp only [gwO,if_true,if_false,bft] at hgr ⊢; simp -implicitDefEqProofs (disch:=omega) only [vf49,HJ,h1,hg1,n1,n2,hgr,hr2,hrp,go_sem])
     all_goals try rfl
    .simp at h1
   ·simp only [if_neg he]
    generalize Ac sw.hs id = o at *
    obtain ⟨og,of,oa,os⟩:=o
    obtain ⟨⟨x,z⟩,shr,mx,hi,rf⟩:=r
    simp only [Stk.vv,Hg.vv] at h1 hg1 hgr n2 ⊢
    refine ⟨f,Ag (vf:=vf49) rfl ?_⟩
    cases f <;> (simp only [gwO,if_true,if_false,bft] at hgr ⊢; simp -implicitDefEqProofs (disch:=omega) only [vf49,HJ,h1,hg1,n1,n2,hgr,he,go_sem])
    all_goals try rfl
  ·rw [if_neg hr]
   generalize Ac sw.hs id = o at *
   simp only [Hg.vv] at hg1
   refine ⟨false,Ag (vf:=vf49) rfl ?_⟩
   by_cases n1 : n < 0
   ·simp -implicitDefEqProofs (disch:=omega) only [vf49,HJ,h1,n1,go_sem]
    try rfl
   ·have n2 : o.swap < n:=by omega
    simp -implicitDefEqProofs (disch:=omega) only [vf49,HJ,h1,n1,hg1,n2,go_sem]
    try rfl
 ·rw [if_neg hc]
  refine ⟨false,Ag (vf:=vf49) rfl ?_⟩
  generalize Bo t sw l id = e at h1 hc ⊢
  simp -implicitDefEqProofs (disch:=omega) only [vf49,HJ,h1,hc,go_sem]
  try rfl
abbrev gwJ (g : Gw) : VVal:=.agg [.own (.arg 0 0) 0 0 g.stk.hs.length,.p (.int .i64 g.stk.size),.own (.arg 1 0) 0 0 g.shr.length,.own (.arg 2 0) 0 0 g.maxes.length,.own (.arg 3 0) 0 0 g.highs.length,.p (.int .i64 g.refused)]
theorem Vx {t : Tr} {l : List Mc} {g : Gw} (hg : StkOk t g.stk) (hM : McOk t.nodes l) (hl : l.length < 1000000) {id n : Int} (hsl : g.shr.length < 1000000) : V 105 [t.vv,gwJ g,.p (AM l),.p (.int .i64 id),.p (.int .i64 n)] [.arr 4 (g.stk.hs.map Hg.pv),.arr 4 (g.shr.map Sh.pv),.arr 1 (g.maxes.map (.int .i64)),.arr 1 (g.highs.map (.int .i64))] = some (.agg [.fresh 4 ((As t l g id n).stk.hs.map Hg.pv),.p (.int .i64 (As t l g id n).stk.size),.own (.arg 1 0) 1 0 (As t l g id n).shr.length,.own (.arg 2 0) 0 0 g.maxes.length,.own (.arg 3 0) 0 0 g.highs.length,.p (.int .i64 g.refused)],[.arr 4 (g.stk.hs.map Hg.pv),.box [.undef,.fresh 4 ((As t l g id n).shr.map Sh.pv)],.arr 1 (g.maxes.map (.int .i64)),.arr 1 (g.highs.map (.int .i64))]):=by
 refine Ag (vf:=vf105) rfl ?_
 have hlen:=hg.tree.len
 have hsz:=hg.hs.length
 have e1:=Ld l hl
 have e2:=Lc l hl
 have e3:=PL t g.stk (A7 l) (A9 l) id (min n 16777216) (by omega) (by omega) (by have:=Mq l; omega) (by have:=MK l; omega)
 obtain ⟨l5,l6⟩:=Pe t g.stk (A7 l) (A9 l) id (min n 16777216)
 unfold As
 generalize BF t g.stk (A7 l) (A9 l) id (min n 16777216) = r at e3 l5 l6 ⊢
 obtain ⟨⟨x,z⟩,s,e⟩:=r
 obtain ⟨⟨hs0,z0⟩,shr,mx,hi,rf⟩:=g
 have hsl' : shr.length < 1000000:=hsl
 simp only [Stk.vv,Stk.fv] at e3 l5 l6 ⊢
 simp -implicitDefEqProofs (disch:=omega) only [vf105,Nn,e1,e2,e3,go_sem]
 rw [lma]
theorem ZZ (t : Tr) (sw : Stk) (l : List Mc) (id : Int) (hn : t.nodes.length < 1000000) (hsl : sw.hs.length < 1000000) (hl : l.length < 1000000) : V 51 [t.vv,sw.vv,.p (AM l),.p (.int .i64 id)] [] = some (.tup [Stk.fv (CS t sw l id).1.stk,.fresh 4 ((CS t sw l id).1.shr.map Sh.pv),.p (.int .i64 (CS t sw l id).2.1),.p (.int .i64 (CS t sw l id).2.2)],[]):=by
 unfold CS
 have h1:=HV t sw l id hn hsl hl
 by_cases hc : Bo t sw l id = 0
 ·rw [if_pos hc]
  obtain ⟨hs,hM,hid⟩:=ET hc
  rw [hc] at h1
  refine Ag (vf:=vf51) rfl ?_
  have hrp:=Ge sw ⟨0,0,0,0⟩ (by omega)
  rw [LS (HgOk.ne0 hs.tree hs.hs)] at hrp
  have hm:=PJ l id hl
  obtain ⟨i,m,hmi,hme⟩:=hid
  have hid : InN t.nodes id:=⟨i,m,hmi,hme⟩
  have hu:=Gk hs.tree hs.hs (by omega) hmi
  rw [hme] at hu
  have hU:=CY (g:=⟨sw,[],[],[],0⟩) hs id
  have hMb:=G8 hM id
  unfold EF
  by_cases ho : 0 < Am t ⟨sw,[],[],[],0⟩ id - AE l id
  ·rw [if_pos ho]
   have hso:=DS (g:=⟨sw,[],[],[],0⟩) hs hM hid (n:=Am t ⟨sw,[],[],[],0⟩ id - AE l id) (by omega)
   have hsh:=Vx (g:=⟨sw,[],[],[],0⟩) hs hM hl (id:=id) (n:=Am t ⟨sw,[],[],[],0⟩ id - AE l id) (by simp)
   have hu2:=Gk hs.tree hso.stk.hs (by have:=hso.stk.hs.length; have:=hs.tree.len; omega) hmi
   rw [hme] at hu2
   have hU2:=CY hso.stk id
   have e1 : As t l ⟨sw,[],[],[],0⟩ id (Am t ⟨sw,[],[],[],0⟩ id - AE l id) = ⟨(As t l ⟨sw,[],[],[],0⟩ id (Am t ⟨sw,[],[],[],0⟩ id - AE l id)).stk,(As t l ⟨sw,[],[],[],0⟩ id (Am t ⟨sw,[],[],[],0⟩ id - AE l id)).shr,[],[],0⟩:=rfl
   rw [e1] at hsh hU2 hu2 ⊢
   generalize (As t l ⟨sw,[],[],[],0⟩ id (Am t ⟨sw,[],[],[],0⟩ id - AE l id)).stk = s1 at *
   generalize (As t l ⟨sw,[],[],[],0⟩ id (Am t ⟨sw,[],[],[],0⟩ id - AE l id)).shr = r1 at *
   unfold Am at *
   simp only at *
   generalize Av t (An s1.hs) id = U2 at *
   generalize Av t (An sw.hs) id = U at *
   generalize AE l id = M at *
   obtain ⟨x,z⟩:=s1
   obtain ⟨hs0,z0⟩:=sw
   simp only [gwJ,Stk.vv,Stk.fv,lpn,lln] at h1 hrp hu hm hsh hu2 ⊢
   simp -implicitDefEqProofs (disch:=omega) only [vf51,KE,h1,hrp,hu,hm,ho,hsh,hu2,go_sem]
   try rfl
  ·rw [if_neg ho]
   unfold Am at *
   simp only at *
   generalize Av t (An sw.hs) id = U at *
   generalize AE l id = M at *
   obtain ⟨hs0,z0⟩:=sw
   simp only [Stk.vv,Stk.fv] at h1 hrp hu hm ⊢
   simp -implicitDefEqProofs (disch:=omega) only [vf51,KE,h1,hrp,hu,hm,ho,go_sem]
   try rfl
 ·rw [if_neg hc]
  refine Ag (vf:=vf51) rfl ?_
  generalize Bo t sw l id = e at h1 hc ⊢
  simp -implicitDefEqProofs (disch:=omega) only [vf51,KE,h1,hc,go_sem]
  try rfl
def Uv (g : Gw) : Prop:=g.stk.hs.length < 1000000 /\ g.shr.length < 1000000 /\ g.maxes.length < 1000000 /\ g.highs.length < 1000000
theorem Zo (t : Tr) (sw : Stk) (l : List Mc) (id file anon : Int) : Uv (EK t sw l id file anon).1:=by
 unfold EK
 by_cases hc : Bo t sw l id = 0
 ·rw [if_pos hc]
  obtain ⟨hs,hM,hid⟩:=ET hc
  by_cases hr : 0 <= file /\ file <= 16777216 /\ 0 <= anon /\ anon <= 16777216 - file
  ·rw [if_pos hr]
   have h1:=Ra hM (g:=⟨sw,[],[],[],0⟩) hs hid hr.1 hr.2.2.1
   have h2:=JT hM (g:=⟨sw,[],[],[],0⟩) hs hid hr.1 hr.2.2.1
   have h3 : StkOk t (AW t l ⟨sw,[],[],[],0⟩ id file anon).1.stk:=by
    rcases h2 with ⟨_,h⟩ | ⟨_,_,h⟩
    .exact h.stk
    .exact h.grw.stk
   have h4:=h3.hs.length
   have h5:=h3.tree.len
   simp only [lln] at h1
   exact ⟨by omega,by omega,by omega,by omega⟩
  ·rw [if_neg hr]
   exact ⟨by simp [g00],by simp [g00],by simp [g00],by simp [g00]⟩
 ·rw [if_neg hc]
  exact ⟨by simp [g00],by simp [g00],by simp [g00],by simp [g00]⟩
theorem Zp (t : Tr) (sw : Stk) (l : List Mc) (id n : Int) : Uv (EL t sw l id n).1:=by
 unfold EL
 by_cases hc : Bo t sw l id = 0
 ·rw [if_pos hc]
  obtain ⟨hs,hM,hid⟩:=ET hc
  by_cases hr : 0 <= n /\ n <= (Ac sw.hs id).swap
  ·rw [if_pos hr]
   have h1:=Ra hM (g:=⟨sw,[],[],[],0⟩) hs hid (file:=0) (anon:=n) (by omega) hr.1
   have h3:=(za3 hs hM hid hr.1 hr.2).2.1
   have h4:=h3.hs.length
   have h5:=h3.tree.len
   simp only [lln] at h1
   refine ⟨by omega,?_⟩
   unfold DE
   split
   ·show (AW t l ⟨sw,[],[],[],0⟩ id 0 n).1.shr.length < _ /\ (AW t l ⟨sw,[],[],[],0⟩ id 0 n).1.maxes.length < _ /\ (AW t l ⟨sw,[],[],[],0⟩ id 0 n).1.highs.length < _
    omega
   .omega
  ·rw [if_neg hr]
   exact ⟨by simp [g00],by simp [g00],by simp [g00],by simp [g00]⟩
 ·rw [if_neg hc]
  exact ⟨by simp [g00],by simp [g00],by simp [g00],by simp [g00]⟩
theorem Zn (t : Tr) (sw : Stk) (l : List Mc) (id : Int) : (CS t sw l id).1.stk.hs.length < 1000000 /\ (CS t sw l id).1.shr.length < 1000000:=by
 unfold CS
 by_cases hc : Bo t sw l id = 0
 ·rw [if_pos hc]
  obtain ⟨hs,hM,hid⟩:=ET hc
  have h3:=(ZP hs hM hid).stk
  have h4:=h3.hs.length
  have h5:=h3.tree.len
  refine ⟨by simp only; omega,?_⟩
  simp only
  unfold EF
  split
  ·have:=Fv (g:=⟨sw,[],[],[],0⟩) hs hM hid (n:=Am t ⟨sw,[],[],[],0⟩ id - AE l id) (by omega)
   simp only [lln] at this
   omega
  .simp
 ·rw [if_neg hc]
  exact ⟨by simp [g00],by simp [g00]⟩
theorem Gv {a b : VCode} {s : St} {Q : VExit × St -> Prop} (M : St -> Prop) (h1 : wp (AD V a s) (fun r=>r.1 = .normal /\ M r.2)) (h2 : ∀ s',M s' -> wp (AD V b s') Q) : wp (AD V (.seq a b) s) Q:=by
 rw [EZ,EA]
 refine In h1 fun r hr=>?_
 obtain ⟨x,s'⟩:=r
 obtain ⟨e,m⟩:=hr
 simp only at e m
 subst e
 exact h2 s' m
theorem Io {Γ : Sig} {l : List VOper} {r : RS} {Q : RS -> Prop} (n : Nat) (M : RS -> Prop) (h1 : wp (BT Γ (l.take n) r) M) (h2 : ∀ r',M r' -> wp (BT Γ (l.drop n) r') Q) : wp (BT Γ l r) Q:=by
 have key : ∀ (a b : List VOper) (r : RS),wp (BT Γ a r) M -> (∀ r',M r' -> wp (BT Γ b r') Q) -> wp (BT Γ (a ++ b) r) Q:=by
  intro a b
  induction a with
  | nil =>
   intro r h1 h2
   rw [PG,Im] at h1
   exact h2 r h1
  | cons o a ih =>
   intro r h1 h2
   rw [lca,Gd,EA]
   rw [Gd,EA] at h1
   exact In h1 fun r' h=>ih r' h h2
 have:=key (l.take n) (l.drop n) r h1 h2
 rwa [List.take_append_drop] at this
theorem za9 {Γ : Sig} {ops : List VOper} {fp : List (Nat × Nat)} {c : VCode} {s : St} {Q : VExit × St -> Prop} (n : Nat) (M : RS -> Prop) (hn : fp.all (fun p=>decide (p.1 < n) && decide (p.2 < n)) = true) (hl : n <= ops.length) (he : fp.isEmpty = false)
  (h1 : wp (BG Γ fp 0 (ops.take n) ⟨s.pe,fun _=>none,s.h⟩ []) M) (h2 : ∀ r',M r' -> wp (BT Γ (ops.drop n) r') fun q=>wp (AD Γ c ⟨q.pe,q.h⟩) Q) : wp (AD Γ (.seq (.region ⟨ops,[],fp⟩) c) s) Q:=by
 have tail : ∀ (b : List VOper) (i : Nat) (r : RS) acc,n <= i -> BG Γ fp i b r acc = BT Γ b r:=by
  intro b
  induction b with
  | nil=>intros; rfl
  | cons o b ih =>
   intro i r acc hi
   have e1 : fpR fp i = false:=by
    rw [fpR,List.any_eq_false]
    intro p hp
    have:=List.all_eq_true.1 hn p hp
    simp only [bat,decide_eq_true_eq] at this
    simp
    omega
   rw [BG,if_neg (by simp [e1]),Gd]
   cases BU Γ o r with
   | none=>rfl
   | some r'=>exact ih (i + 1) r' _ (by omega)
 have key : ∀ (a b : List VOper) (i : Nat) (r : RS) acc {Q : RS -> Prop},wp (BG Γ fp i a r acc) M -> i + a.length = n -> (∀ r',M r' -> wp (BT Γ b r') Q) -> wp (BG Γ fp i (a ++ b) r acc) Q:=by
  intro a b
  induction a with
  | nil =>
   intro i r acc Q h1 hi h2
   rw [BG,Im] at h1
   rw [lna,tail b i r acc (by simp at hi; omega)]
   exact h2 r h1
  | cons o a ih =>
   intro i r acc Q h1 hi h2
   simp only [llc] at hi
   rw [lca,BG]
   rw [BG] at h1
   by_cases hf : fpR fp i = true
   ·rw [if_pos hf] at h1 ⊢
    by_cases hc : FB fp i o (Bl r o) acc = true
    ·rw [GJ _ _ hc,EA] at h1 ⊢
     exact In h1 fun r' h=>ih (i + 1) r' _ h (by omega) h2
    ·exfalso
     obtain ⟨x,hx,_⟩:=h1
     simp [gd,hc] at hx
   ·rw [if_neg hf,EA] at h1 ⊢
    exact In h1 fun r' h=>ih (i + 1) r' _ h (by omega) h2
 rw [EZ,G9,EA,EA]
 unfold B9
 have e0 : Dl [] s = s:=rfl
 simp only [e0,he,bft,if_false]
 rw [EA]
 have h3:=key (ops.take n) (ops.drop n) 0 ⟨s.pe,fun _=>none,s.h⟩ [] (Q:=fun q=>wp (AD Γ c ⟨q.pe,q.h⟩) Q) h1 (by rw [llt]; omega) h2
 rw [List.take_append_drop] at h3
 refine In h3 fun q hq=>?_
 rw [Im,Im,GZ]
 exact hq
theorem zcP {f : FuncId} {vf : VFunc} (hf : prog f = some vf) {args : List VVal} {H : List Ob} {r : VVal × List Ob} (hn : args.length = vf.nparams) (h : wp (AD V vf.body { pe:=GL args,h:=AV H }) (fun a=>wp (IF vf.rets H.length a) (· = r))) : V f args H = some r:=by
 refine Ag hf ?_
 unfold BW
 rw [GJ _ _ hn,EA]
 exact h
theorem V1 (a : List Pr) (hl : a.length < 1000000) : V 56 [.p (BH a),.p (BH a)] [] = some (.p (.bool true),[]):=by
 refine Ag (vf:=vf56) rfl ?_
 simp -implicitDefEqProofs (disch:=omega) only [vf56,Ub,go_sem]
 obtain ⟨I,hI⟩:=lpI fun k s=>s.pe 0 = .p (BH a) /\ s.pe 1 = .p (BH a) /\ s.pe 5 = .p (.int .i64 k)
 refine Al (a.length) I ?_ ?_
 ·refine (hI _ _).2 ⟨?_,?_,?_⟩
  all_goals exact cl0
 intro k s hk hIk
 obtain ⟨h0,h1,h5⟩:=(hI _ _).1 hIk
 clear hIk
 simp -implicitDefEqProofs (disch:=omega) only [h0,h5,go_sem]
 refine Ah (fun hlt=>?_) (fun hge=>?_)
 ·have hm : a[k]? = some a[k]:=lgg hlt
  generalize a[k] = x at hm
  simp -implicitDefEqProofs (disch:=omega) only [h0,h1,h5,hlt,hm,Pr.pv,bas,go_sem]
  try refine ai ?_
  refine (hI _ _).2 ⟨?_,?_,?_⟩
  all_goals exact cl0
 .simp -implicitDefEqProofs (disch:=omega) only [hge,go_sem]
theorem V2 (a : List Ch) (hl : a.length < 1000000) : V 59 [.p (AP a),.p (AP a)] [] = some (.p (.bool true),[]):=by
 refine Ag (vf:=vf59) rfl ?_
 simp -implicitDefEqProofs (disch:=omega) only [vf59,T8,go_sem]
 obtain ⟨I,hI⟩:=lpI fun k s=>s.pe 0 = .p (AP a) /\ s.pe 1 = .p (AP a) /\ s.pe 5 = .p (.int .i64 k)
 refine Al (a.length) I ?_ ?_
 ·refine (hI _ _).2 ⟨?_,?_,?_⟩
  all_goals exact cl0
 intro k s hk hIk
 obtain ⟨h0,h1,h5⟩:=(hI _ _).1 hIk
 clear hIk
 simp -implicitDefEqProofs (disch:=omega) only [h0,h5,go_sem]
 refine Ah (fun hlt=>?_) (fun hge=>?_)
 ·have hm : a[k]? = some a[k]:=lgg hlt
  generalize a[k] = x at hm
  simp -implicitDefEqProofs (disch:=omega) only [h0,h1,h5,hlt,hm,Ch.pv,bas,go_sem]
  try refine ai ?_
  refine (hI _ _).2 ⟨?_,?_,?_⟩
  all_goals exact cl0
 .simp -implicitDefEqProofs (disch:=omega) only [hge,go_sem]
def GA (d e : Nat) (f : Bool) (g : Gw × Int) (pe : Nat -> VVal) (h : VHeap) : Prop:=pe d = .ptr (.slot d 0) 0 0 /\ pe (d + 1) = .p (.int .i64 g.2) /\ h (.slot d 0) = some (0,.box [if f then .p (Bc g.1.stk.hs) else .own (.slot e 1) 0 0 g.1.stk.hs.length,.p (.int .i64 g.1.stk.size),.own (.slot e 3) 0 0 g.1.shr.length,.own (.slot e 4) 0 0 g.1.maxes.length,.own (.slot e 5) 0 0 g.1.highs.length,.p (.int .i64 g.1.refused)]) /\ (f = false -> h (.slot e 1) = some (0,.arr 4 (g.1.stk.hs.map Hg.pv))) /\ h (.slot e 3) = some (0,.arr 4 (g.1.shr.map Sh.pv)) /\ h (.slot e 4) = some (0,.arr 1 (g.1.maxes.map (.int .i64))) /\ h (.slot e 5) = some (0,.arr 1 (g.1.highs.map (.int .i64)))
def SA (d e : Nat) (g : Gw × Int × Int) (pe : Nat -> VVal) (h : VHeap) : Prop:=pe d = .ptr (.slot d 0) 0 0 /\ pe (d + 1) = .own (.slot e 3) 0 0 g.1.shr.length /\ pe (d + 2) = .p (.int .i64 g.2.1) /\ pe (d + 3) = .p (.int .i64 g.2.2) /\ h (.slot d 0) = some (0,.box [.own (.slot e 1) 0 0 g.1.stk.hs.length,.p (.int .i64 g.1.stk.size)]) /\ h (.slot e 1) = some (0,.arr 4 (g.1.stk.hs.map Hg.pv)) /\ h (.slot e 3) = some (0,.arr 4 (g.1.shr.map Sh.pv))
def EB (t : Tr) (sw : Stk) (l : List Mc) (id file anon : Int) (pe : Nat -> VVal) (h : VHeap) : Prop:=pe 2 = .p (AM l) /\ pe 3 = .p (.int .i64 id) /\ pe 4 = .p (.int .i64 file) /\ pe 5 = .p (.int .i64 anon) /\ pe 6 = .ptr (.slot 6 0) 0 0 /\ pe 7 = .ptr (.slot 7 0) 0 0 /\ h (.slot 6 0) = some (0,.box [.p (Au t.nodes),.p (.int .i64 t.next)]) /\ h (.slot 7 0) = some (0,.box [.p (Bc sw.hs),.p (.int .i64 sw.size)])
def FR (k n : Nat) (h : VHeap) : Prop:=∀ d j,(n <= d \/ (k <= d /\ d < 26)) -> h (.slot d j) = none
theorem GA.fr {d e : Nat} {f : Bool} {g : Gw × Int} {pe pe' : Nat -> VVal} {h h' : VHeap} (H : GA d e f g pe h) (h1 : pe' d = pe d:=by rfl) (h2 : pe' (d + 1) = pe (d + 1):=by rfl) (h3 : h' (.slot d 0) = h (.slot d 0):=by rfl) (h4 : h' (.slot e 1) = h (.slot e 1):=by rfl) (h5 : h' (.slot e 3) = h (.slot e 3):=by rfl) (h6 : h' (.slot e 4) = h (.slot e 4):=by rfl) (h7 : h' (.slot e 5) = h (.slot e 5):=by rfl) : GA d e f g pe' h':=by
 unfold GA
 rw [h1,h2,h3,h4,h5,h6,h7]
 exact H
theorem SA.fr {d e : Nat} {g : Gw × Int × Int} {pe pe' : Nat -> VVal} {h h' : VHeap} (H : SA d e g pe h) (h1 : pe' d = pe d:=by rfl) (h2 : pe' (d + 1) = pe (d + 1):=by rfl) (h3 : pe' (d + 2) = pe (d + 2):=by rfl) (h4 : pe' (d + 3) = pe (d + 3):=by rfl) (h5 : h' (.slot d 0) = h (.slot d 0):=by rfl) (h6 : h' (.slot e 1) = h (.slot e 1):=by rfl) (h7 : h' (.slot e 3) = h (.slot e 3):=by rfl) : SA d e g pe' h':=by
 unfold SA
 rw [h1,h2,h3,h4,h5,h6,h7]
 exact H
theorem EB.fr {t : Tr} {sw : Stk} {l : List Mc} {id file anon : Int} {pe pe' : Nat -> VVal} {h h' : VHeap} (H : EB t sw l id file anon pe h) (h1 : pe' 2 = pe 2:=by rfl) (h2 : pe' 3 = pe 3:=by rfl) (h3 : pe' 4 = pe 4:=by rfl) (h4 : pe' 5 = pe 5:=by rfl) (h5 : pe' 6 = pe 6:=by rfl) (h6 : pe' 7 = pe 7:=by rfl) (h7 : h' (.slot 6 0) = h (.slot 6 0):=by rfl) (h8 : h' (.slot 7 0) = h (.slot 7 0):=by rfl) : EB t sw l id file anon pe' h':=by
 unfold EB
 rw [h1,h2,h3,h4,h5,h6,h7,h8]
 exact H
theorem FR.up {k n i j : Nat} {o : Nat × Ob} {h : VHeap} (hi : i < n /\ (i < k \/ 26 <= i)) (H : FR k n h) : FR k n (h.upd (.slot i j) o):=fun d q hd=>by
 rw [SV,if_neg (by rw [Id.slot.injEq]; omega)]
 exact H d q hd
theorem FR.to {k n k' n' : Nat} {h : VHeap} (H : FR k n h) (hi : k <= k' /\ n <= n') : FR k' n' h:=fun d q hd=>H d q (by omega)
theorem Gf (t : Tr) (sw : Stk) (l : List Mc) (id file anon : Int) (hf : t.Fits) (hn : t.nodes.length < 900000) (hl : sw.hs.length < 800000) (hll : l.length < 900000) : V 18 [t.vv,sw.vv,.p (AM l),.p (.int .i64 id),.p (.int .i64 file),.p (.int .i64 anon)] [] = some (.p (.bool true),[]):=by
 refine zcP (vf:=vf18) rfl rfl ?_
 have a1:=zar t sw l id file anon hf (by omega) (by omega) (by omega)
 obtain ⟨f1,a2⟩:=Z0 t sw l id file anon (by omega) (by omega) (by omega)
 have a3:=zas t sw l id anon hf (by omega) (by omega) (by omega)
 obtain ⟨f2,a4⟩:=Z1 t sw l id anon (by omega) (by omega) (by omega)
 have a5:=zaq t sw l id hf (by omega) (by omega) (by omega)
 have a6:=ZZ t sw l id (by omega) (by omega) (by omega)
 have a7:=QS t l hf (by omega) (by omega)
 have a8:=OR t l (by omega) (by omega)
 have a9:=I1 l id (by omega)
 have a10:=KN l id (by omega)
 have a11:=QX l (by omega)
 have a12:=Ld l (by omega)
 have a13:=QV l (by omega)
 have a14:=Lc l (by omega)
 have b1:=Zo t sw l id file anon
 have b2:=Zp t sw l id anon
 have b3:=Zn t sw l id
 have s1:=PF (EK t sw l id file anon).1 b1.1 b1.2.1 b1.2.2.1 b1.2.2.2
 have s2:=PF (EL t sw l id anon).1 b2.1 b2.2.1 b2.2.2.1 b2.2.2.2
 have s3:=Ol (CS t sw l id).1.stk b3.1
 have s4:=PE (CS t sw l id).1.shr b3.2
 have s5:=V1 (A7 l) (by have:=Mq l; omega)
 have s6:=V2 (A9 l) (by have:=MK l; omega)
 obtain ⟨c1,c2,c3,c4⟩:=b1
 obtain ⟨d1,d2,d3,d4⟩:=b2
 obtain ⟨e1,e2⟩:=b3
 simp only [Stk.vv,Stk.fv] at *
 generalize EK t sw l id file anon = g1 at *
 generalize EL t sw l id anon = g2 at *
 generalize CS t sw l id = g3 at *
 generalize DT t l = g4 at *
 generalize AA l id = g5 at *
 generalize A7 l = g6 at *
 generalize A9 l = g7 at *
 unfold vf18 Um
 obtain ⟨M,hM⟩ : ∃ M : St -> Prop,∀ s,M s ↔ EB t sw l id file anon s.pe s.h /\ FR 13 13 s.h:=⟨_,fun _=>Iff.rfl⟩
 refine Gv M ?_ ?_
 ·simp -implicitDefEqProofs (disch:=omega) only [go_sem]
  refine (hM _).2 ⟨⟨rfl,rfl,rfl,rfl,rfl,rfl,rfl,rfl⟩,?_⟩
  repeat refine FR.up (by omega) ?_
  exact fun _ _ _=>rfl
 intro s hs
 obtain ⟨hb,hfr⟩:=(hM _).1 hs
 clear hs hM M
 have hB:=hb
 have hF:=hfr
 unfold EB at hB
 unfold FR at hF
 obtain ⟨M,hM⟩ : ∃ M : St -> Prop,∀ s,M s ↔ EB t sw l id file anon s.pe s.h /\ GA 13 36 false g1 s.pe s.h /\ FR 15 40 s.h:=⟨_,fun _=>Iff.rfl⟩
 refine Gv M ?_ ?_
 ·simp -implicitDefEqProofs (disch:=omega) only [hB,hF,a1,go_sem]
  refine (hM _).2 ⟨hb.fr,⟨rfl,rfl,rfl,fun _=>rfl,rfl,rfl,rfl⟩,?_⟩
  repeat refine FR.up (by omega) ?_
  exact hfr.to (by omega)
 clear hb hfr hB hF
 intro s hs
 obtain ⟨hb,g1a,hfr⟩:=(hM _).1 hs
 clear hs hM M
 have hB:=hb
 have hF:=hfr
 unfold EB at hB
 unfold FR at hF
 obtain ⟨M,hM⟩ : ∃ M : St -> Prop,∀ s,M s ↔ EB t sw l id file anon s.pe s.h /\ GA 13 36 false g1 s.pe s.h /\ GA 15 46 f1 g1 s.pe s.h /\ FR 17 50 s.h:=⟨_,fun _=>Iff.rfl⟩
 refine Gv M ?_ ?_
 ·cases f1 <;> simp only [gwO,if_true,if_false,bft] at a2
  all_goals
   simp -implicitDefEqProofs (disch:=omega) only [hB,hF,a2,go_sem]
   refine (hM _).2 ⟨hb.fr,g1a.fr,⟨rfl,rfl,rfl,fun hf=>(by first | rfl | cases hf),rfl,rfl,rfl⟩,?_⟩
   repeat refine FR.up (by omega) ?_
   exact hfr.to (by omega)
 clear hb g1a hfr hB hF
 intro s hs
 obtain ⟨hb,g1a,g1b,hfr⟩:=(hM _).1 hs
 clear hs hM M
 have hB:=hb
 have hF:=hfr
 unfold EB at hB
 unfold FR at hF
 obtain ⟨M,hM⟩ : ∃ M : St -> Prop,∀ s,M s ↔ EB t sw l id file anon s.pe s.h /\ GA 13 36 false g1 s.pe s.h /\ GA 15 46 f1 g1 s.pe s.h /\ GA 17 55 false g2 s.pe s.h /\ FR 19 59 s.h:=⟨_,fun _=>Iff.rfl⟩
 refine Gv M ?_ ?_
 ·simp -implicitDefEqProofs (disch:=omega) only [hB,hF,a3,go_sem]
  refine (hM _).2 ⟨hb.fr,g1a.fr,g1b.fr,⟨rfl,rfl,rfl,fun _=>rfl,rfl,rfl,rfl⟩,?_⟩
  repeat refine FR.up (by omega) ?_
  exact hfr.to (by omega)
 clear hb g1a g1b hfr hB hF
 intro s hs
 obtain ⟨hb,g1a,g1b,g2a,hfr⟩:=(hM _).1 hs
 clear hs hM M
 have hB:=hb
 have hF:=hfr
 unfold EB at hB
 unfold FR at hF
 obtain ⟨M,hM⟩ : ∃ M : St -> Prop,∀ s,M s ↔ EB t sw l id file anon s.pe s.h /\ GA 13 36 false g1 s.pe s.h /\ GA 15 46 f1 g1 s.pe s.h /\ GA 17 55 false g2 s.pe s.h /\ GA 19 64 f2 g2 s.pe s.h /\ FR 21 68 s.h:=⟨_,fun _=>Iff.rfl⟩
 refine Gv M ?_ ?_
 ·cases f2 <;> simp only [gwO,if_true,if_false,bft] at a4
  all_goals
   simp -implicitDefEqProofs (disch:=omega) only [hB,hF,a4,go_sem]
   refine (hM _).2 ⟨hb.fr,g1a.fr,g1b.fr,g2a.fr,⟨rfl,rfl,rfl,fun hf=>(by first | rfl | cases hf),rfl,rfl,rfl⟩,?_⟩
   repeat refine FR.up (by omega) ?_
   exact hfr.to (by omega)
 clear hb g1a g1b g2a hfr hB hF
 intro s hs
 obtain ⟨hb,g1a,g1b,g2a,g2b,hfr⟩:=(hM _).1 hs
 clear hs hM M
 have hB:=hb
 have hF:=hfr
 unfold EB at hB
 unfold FR at hF
 obtain ⟨M,hM⟩ : ∃ M : St -> Prop,∀ s,M s ↔ EB t sw l id file anon s.pe s.h /\ GA 13 36 false g1 s.pe s.h /\ GA 15 46 f1 g1 s.pe s.h /\ GA 17 55 false g2 s.pe s.h /\ GA 19 64 f2 g2 s.pe s.h /\ SA 21 72 g3 s.pe s.h /\ FR 25 78 s.h:=⟨_,fun _=>Iff.rfl⟩
 refine Gv M ?_ ?_
 ·simp -implicitDefEqProofs (disch:=omega) only [hB,hF,a5,go_sem]
  refine (hM _).2 ⟨hb.fr,g1a.fr,g1b.fr,g2a.fr,g2b.fr,⟨rfl,rfl,rfl,rfl,rfl,rfl,rfl⟩,?_⟩
  repeat refine FR.up (by omega) ?_
  exact hfr.to (by omega)
 clear hb g1a g1b g2a g2b hfr hB hF
 intro s hs
 obtain ⟨hb,g1a,g1b,g2a,g2b,g3a,hfr⟩:=(hM _).1 hs
 clear hs hM M
 have hB:=hb
 have hF:=hfr
 unfold EB at hB
 unfold FR at hF
 obtain ⟨M,hM⟩ : ∃ M : St -> Prop,∀ s,M s ↔ EB t sw l id file anon s.pe s.h /\ GA 13 36 false g1 s.pe s.h /\ GA 15 46 f1 g1 s.pe s.h /\ GA 17 55 false g2 s.pe s.h /\ GA 19 64 f2 g2 s.pe s.h /\ SA 21 72 g3 s.pe s.h /\ SA 25 82 g3 s.pe s.h /\ FR 26 88 s.h:=⟨_,fun _=>Iff.rfl⟩
 refine Gv M ?_ ?_
 ·simp -implicitDefEqProofs (disch:=omega) only [hB,hF,a6,go_sem]
  refine (hM _).2 ⟨hb.fr,g1a.fr,g1b.fr,g2a.fr,g2b.fr,g3a.fr,⟨rfl,rfl,rfl,rfl,rfl,rfl,rfl⟩,?_⟩
  repeat refine FR.up (by omega) ?_
  exact hfr.to (by omega)
 clear hb g1a g1b g2a g2b g3a hfr hB hF
 intro s hs
 obtain ⟨hb,g1a,g1b,g2a,g2b,g3a,g3b,hfr⟩:=(hM _).1 hs
 clear hs hM M
 have hB:=hb
 have hF:=hfr
 unfold EB at hB
 unfold FR at hF
 obtain ⟨N,hN⟩ : ∃ N : RS -> Prop,∀ r,N r ↔ r.pe = s.pe /\ r.te 94 = some (.p (.bool true)) /\ EB t sw l id file anon s.pe r.h /\ GA 13 36 false g1 s.pe r.h /\ GA 15 46 f1 g1 s.pe r.h /\ GA 17 55 false g2 s.pe r.h /\ GA 19 64 f2 g2 s.pe r.h /\ SA 21 72 g3 s.pe r.h /\ SA 25 82 g3 s.pe r.h /\ FR 26 96 r.h:=⟨_,fun _=>Iff.rfl⟩
 refine za9 8 N rfl (by decide) rfl ?_ ?_
 ·simp -implicitDefEqProofs (disch:=omega) only [hB,a7,a8,beq_self_eq_true,Bool.not_true,go_sem]
  refine (hN _).2 ⟨rfl,by simp -implicitDefEqProofs (disch:=omega) only [go_sem],hb.fr,g1a.fr,g1b.fr,g2a.fr,g2b.fr,g3a.fr,g3b.fr,?_⟩
  repeat refine FR.up (by omega) ?_
  exact hfr.to (by omega)
 clear hb g1a g1b g2a g2b g3a g3b hfr hB hF
 rintro ⟨pe,te,h⟩ hs
 obtain ⟨hpe,ht,hb,g1a,g1b,g2a,g2b,g3a,g3b,hfr⟩:=(hN _).1 hs
 clear hs hN N
 simp only at hpe ht hb g1a g1b g2a g2b g3a g3b hfr
 subst hpe
 have hB:=hb
 have hF:=hfr
 unfold EB at hB
 unfold FR at hF
 obtain ⟨N,hN⟩ : ∃ N : RS -> Prop,∀ r,N r ↔ r.pe = s.pe /\ r.te 117 = some (.p (.bool true)) /\ EB t sw l id file anon s.pe r.h /\ GA 13 36 false g1 s.pe r.h /\ GA 15 46 f1 g1 s.pe r.h /\ GA 17 55 false g2 s.pe r.h /\ GA 19 64 f2 g2 s.pe r.h /\ SA 21 72 g3 s.pe r.h /\ SA 25 82 g3 s.pe r.h /\ FR 26 118 r.h:=⟨_,fun _=>Iff.rfl⟩
 refine Io 23 N ?_ ?_
 ·simp -implicitDefEqProofs (disch:=omega) only [hB,ht,a9,a10,a11,a12,a13,a14,s5,s6,hF,beq_self_eq_true,go_sem]
  refine (hN _).2 ⟨rfl,by simp -implicitDefEqProofs (disch:=omega) only [go_sem],hb.fr,g1a.fr,g1b.fr,g2a.fr,g2b.fr,g3a.fr,g3b.fr,?_⟩
  repeat refine FR.up (by omega) ?_
  exact hfr.to (by omega)
 clear hb g1a g1b g2a g2b g3a g3b hfr hB hF ht
 rintro ⟨pe,te,h⟩ hs
 obtain ⟨hpe,ht,hb,g1a,g1b,g2a,g2b,g3a,g3b,hfr⟩:=(hN _).1 hs
 clear hs hN N
 simp only at hpe ht hb g1a g1b g2a g2b g3a g3b hfr
 subst hpe
 have hB:=hb
 have hF:=hfr
 unfold EB at hB
 unfold FR at hF
 obtain ⟨N,hN⟩ : ∃ N : RS -> Prop,∀ r,N r ↔ r.pe = s.pe /\ r.te 122 = some (.p (.bool true)) /\ EB t sw l id file anon s.pe r.h /\ GA 13 36 false g1 s.pe r.h /\ GA 15 46 f1 g1 s.pe r.h /\ GA 17 55 false g2 s.pe r.h /\ GA 19 64 f2 g2 s.pe r.h /\ SA 21 72 g3 s.pe r.h /\ SA 25 82 g3 s.pe r.h /\ FR 26 123 r.h:=⟨_,fun _=>Iff.rfl⟩
 refine Io 5 N ?_ ?_
 ·cases f1
  all_goals
   have u0:=g1a
   have u1:=g1b
   simp only [GA,rA] at u0 u1
   simp only [if_true,if_false,bft,true_implies,false_implies,reduceCtorEq] at u0 u1
   simp -implicitDefEqProofs (disch:=omega) only [u0,u1,ht,s1,beq_self_eq_true,go_sem]
   refine (hN _).2 ⟨rfl,by simp -implicitDefEqProofs (disch:=omega) only [go_sem],hb.fr,g1a.fr,g1b.fr,g2a.fr,g2b.fr,g3a.fr,g3b.fr,?_⟩
   repeat refine FR.up (by omega) ?_
   exact hfr.to (by omega)
 clear hb g1a g1b g2a g2b g3a g3b hfr hB hF ht
 rintro ⟨pe,te,h⟩ hs
 obtain ⟨hpe,ht,hb,g1a,g1b,g2a,g2b,g3a,g3b,hfr⟩:=(hN _).1 hs
 clear hs hN N
 simp only at hpe ht hb g1a g1b g2a g2b g3a g3b hfr
 subst hpe
 have hB:=hb
 have hF:=hfr
 unfold EB at hB
 unfold FR at hF
 obtain ⟨N,hN⟩ : ∃ N : RS -> Prop,∀ r,N r ↔ r.pe = s.pe /\ r.te 127 = some (.p (.bool true)) /\ EB t sw l id file anon s.pe r.h /\ GA 13 36 false g1 s.pe r.h /\ GA 15 46 f1 g1 s.pe r.h /\ GA 17 55 false g2 s.pe r.h /\ GA 19 64 f2 g2 s.pe r.h /\ SA 21 72 g3 s.pe r.h /\ SA 25 82 g3 s.pe r.h /\ FR 26 128 r.h:=⟨_,fun _=>Iff.rfl⟩
 refine Io 5 N ?_ ?_
 ·have u0:=g1a
  have u1:=g1b
  simp only [GA,rA] at u0 u1
  simp -implicitDefEqProofs (disch:=omega) only [u0,u1,ht,beq_self_eq_true,go_sem]
  refine (hN _).2 ⟨rfl,by simp -implicitDefEqProofs (disch:=omega) only [go_sem],hb.fr,g1a.fr,g1b.fr,g2a.fr,g2b.fr,g3a.fr,g3b.fr,?_⟩
  repeat refine FR.up (by omega) ?_
  exact hfr.to (by omega)
 clear hb g1a g1b g2a g2b g3a g3b hfr hB hF ht
 rintro ⟨pe,te,h⟩ hs
 obtain ⟨hpe,ht,hb,g1a,g1b,g2a,g2b,g3a,g3b,hfr⟩:=(hN _).1 hs
 clear hs hN N
 simp only at hpe ht hb g1a g1b g2a g2b g3a g3b hfr
 subst hpe
 have hB:=hb
 have hF:=hfr
 unfold EB at hB
 unfold FR at hF
 obtain ⟨N,hN⟩ : ∃ N : RS -> Prop,∀ r,N r ↔ r.pe = s.pe /\ r.te 132 = some (.p (.bool true)) /\ EB t sw l id file anon s.pe r.h /\ GA 13 36 false g1 s.pe r.h /\ GA 15 46 f1 g1 s.pe r.h /\ GA 17 55 false g2 s.pe r.h /\ GA 19 64 f2 g2 s.pe r.h /\ SA 21 72 g3 s.pe r.h /\ SA 25 82 g3 s.pe r.h /\ FR 26 133 r.h:=⟨_,fun _=>Iff.rfl⟩
 refine Io 5 N ?_ ?_
 ·cases f2
  all_goals
   have u0:=g2a
   have u1:=g2b
   simp only [GA,rA] at u0 u1
   simp only [if_true,if_false,bft,true_implies,false_implies,reduceCtorEq] at u0 u1
   simp -implicitDefEqProofs (disch:=omega) only [u0,u1,ht,s2,beq_self_eq_true,go_sem]
   refine (hN _).2 ⟨rfl,by simp -implicitDefEqProofs (disch:=omega) only [go_sem],hb.fr,g1a.fr,g1b.fr,g2a.fr,g2b.fr,g3a.fr,g3b.fr,?_⟩
   repeat refine FR.up (by omega) ?_
   exact hfr.to (by omega)
 clear hb g1a g1b g2a g2b g3a g3b hfr hB hF ht
 rintro ⟨pe,te,h⟩ hs
 obtain ⟨hpe,ht,hb,g1a,g1b,g2a,g2b,g3a,g3b,hfr⟩:=(hN _).1 hs
 clear hs hN N
 simp only at hpe ht hb g1a g1b g2a g2b g3a g3b hfr
 subst hpe
 have hB:=hb
 have hF:=hfr
 unfold EB at hB
 unfold FR at hF
 obtain ⟨N,hN⟩ : ∃ N : RS -> Prop,∀ r,N r ↔ r.pe = s.pe /\ r.te 142 = some (.p (.bool true)) /\ EB t sw l id file anon s.pe r.h /\ GA 13 36 false g1 s.pe r.h /\ GA 15 46 f1 g1 s.pe r.h /\ GA 17 55 false g2 s.pe r.h /\ GA 19 64 f2 g2 s.pe r.h /\ SA 21 72 g3 s.pe r.h /\ SA 25 82 g3 s.pe r.h /\ FR 26 143 r.h:=⟨_,fun _=>Iff.rfl⟩
 refine Io 10 N ?_ ?_
 ·have u0:=g2a
  have u1:=g2b
  have u2:=g3a
  have u3:=g3b
  simp only [GA,SA,rA] at u0 u1 u2 u3
  simp -implicitDefEqProofs (disch:=omega) only [u0,u1,u2,u3,ht,s3,beq_self_eq_true,go_sem]
  refine (hN _).2 ⟨rfl,by simp -implicitDefEqProofs (disch:=omega) only [go_sem],hb.fr,g1a.fr,g1b.fr,g2a.fr,g2b.fr,g3a.fr,g3b.fr,?_⟩
  repeat refine FR.up (by omega) ?_
  exact hfr.to (by omega)
 clear hb g1a g1b g2a g2b g3a g3b hfr hB hF ht
 rintro ⟨pe,te,h⟩ hs
 obtain ⟨hpe,ht,hb,g1a,g1b,g2a,g2b,g3a,g3b,hfr⟩:=(hN _).1 hs
 clear hs hN N
 simp only at hpe ht hb g1a g1b g2a g2b g3a g3b hfr
 subst hpe
 have hB:=hb
 have hF:=hfr
 unfold EB at hB
 unfold FR at hF
 simp only [SA,rA] at g3a g3b
 simp -implicitDefEqProofs (disch:=omega) only [ht,g3a,g3b,s4,beq_self_eq_true,go_sem]
 try simp
def D9 (L : List Int) (a : Nat) (ns : List Nd) : Int × Nat :=
 if AC L a 15 = 14 \/ ns = [] then (AC L (Ae L a 15) 9 - 1,Ae L (Ae L a 15) 9)
 else ((ns.getD (AC L (Ae L a 15) ns.length).toNat zeroNd).id,Ae L (Ae L a 15) ns.length)
theorem Hm (L : List Int) (a : Nat) (t : Tr) (hL : L.length < 4611686018427387904) (hl : t.nodes.length < 1000000) : V 12 [.ptr (.arg 0 0) 0 0,t.vv] [A3 L a] = some (.p (.int .i64 (D9 L a t.nodes).1),[A3 L (D9 L a t.nodes).2]):=by
 refine Ag (vf:=vf12) rfl ?_
 have hb:=Hv L a 15 hL (by omega) (by omega)
 have h9:=Ev L (Ae L a 15) 9 hL (by omega)
 have hn:=Ev L (Ae L a 15) t.nodes.length hL (by omega)
 have r9:=EQ L (Ae L a 15) 9
 have r9':=EY L (Ae L a 15) (n:=9) (by omega)
 by_cases h14 : AC L a 15 = 14
 ·have h14' : AC L a 15 = 15 - 1:=by omega
  simp -implicitDefEqProofs (disch:=omega) only [vf12,KH,hb,h14',h9,go_sem]
  simp [D9,h14]
 ·have h14' : ¬ AC L a 15 = 15 - 1:=by omega
  by_cases hz : t.nodes = []
  ·have hz' : (t.nodes.length : Int) = 0:=by rw [hz]; rfl
   simp -implicitDefEqProofs (disch:=omega) only [vf12,KH,hb,h14',h9,hz',go_sem]
   simp [D9,hz]
  ·have hp : 1 <= t.nodes.length:=List.length_pos_iff.2 hz
   have q0:=EQ L (Ae L a 15) t.nodes.length
   have q1:=EY L (Ae L a 15) (n:=t.nodes.length) (by omega)
   have hm : t.nodes[(AC L (Ae L a 15) t.nodes.length).toNat]? = some (t.nodes.getD (AC L (Ae L a 15) t.nodes.length).toNat zeroNd):=by
    rw [List.getD_eq_getElem?_getD,lgg (by omega)]; rfl
   have hz0 : ¬ ((t.nodes.length : Int) = 0):=by omega
   simp -implicitDefEqProofs (disch:=omega) only [vf12,KH,hb,h14',hn,hz0,hm,go_sem]
   simp [D9,h14,hz]
theorem VL (L : List Int) (t : Tr) (sw : Stk) (c : List Mc) (id file anon : Int) (hf : t.Fits) : V 4 [.p (AT L),t.vv,sw.vv,.p (AM c),.p (.int .i64 id),.p (.int .i64 file),.p (.int .i64 anon)] [] = some (.p (.bool true),[]):=by
 refine Ag (vf:=vf4) rfl ?_
 have hli:=zaw (L.map (PV.int .i64))
 rw [List.length_map] at hli
 have hsane:=Yy
 by_cases hL : L.length <= 600
 ·rw [decide_eq_true hL] at hli
  have hro:=zbo L
  simp -implicitDefEqProofs (disch:=omega) only [vf4,vb4,hli,hro,go_sem]
  obtain ⟨I,hI⟩:=lpI fun k s=>∃ (b : Nat),s.pe 3 = .p (AM c) /\ s.pe 4 = .p (.int .i64 id) /\ s.pe 5 = .p (.int .i64 file) /\ s.pe 6 = .p (.int .i64 anon) /\ s.pe 8 = .ptr (.slot 8 0) 0 0 /\ s.pe 9 = .ptr (.slot 9 0) 0 0 /\ s.pe 15 = .ptr (.slot 26 1) 0 0 /\ s.pe 16 = .p (.int .i64 k) /\ s.h (.slot 8 0) = some (0,Ob.box [.p (Au t.nodes),.p (.int .i64 t.next)]) /\ s.h (.slot 9 0) = some (0,Ob.box [.p (Bc sw.hs),.p (.int .i64 sw.size)]) /\ s.h (.slot 26 1) = some (0,A3 L b)
  refine Al (3) I ?_ ?_
  ·refine (hI _ _).2 ⟨0,?_⟩
   and_intros<;>exact cl0
  intro k s hk hIk
  obtain ⟨b,hH⟩:=(hI _ _).1 hIk
  clear hIk
  simp -implicitDefEqProofs (disch:=omega) only [hH,go_sem]
  refine Ah (fun hlt=>?_) (fun hge=>?_)
  ·have htr : V 8 [.ptr (.arg 0 0) 0 0,.p (.int .i64 6)] [A3 L b] = some ((FV L b 6).1.vv,[A3 L (FV L b 6).2]):=zbg L b 6 (by omega) (by omega)
   have hok:=zaW L b 6
   generalize FV L b 6 = ta at htr hok
   obtain ⟨tk,b1⟩:=ta
   simp only at htr hok
   have hlen:=hok.len
   have hst:=ZG L b1 hok (by omega)
   have hso : StkOk tk (IE L b1 tk).1:=Rk L tk _ _ _ (Qn L b1 hok)
   generalize IE L b1 tk = sa at hst hso
   obtain ⟨⟨ys,yz⟩,b2⟩:=sa
   simp only at hst hso
   have hyl : ys.length <= tk.nodes.length:=hso.hs.length
   have hme:=zbN L b2 tk (by omega) (by omega)
   have hml:=(zaX L hok b2).length
   generalize dMems L tk.nodes b2 = ma at hme hml
   obtain ⟨zs,b8⟩:=ma
   simp only at hme hml
   by_cases hk2 : (k : Int) = 2
   ·by_cases hy0 : 0 < zs.length
    ·have hy0' : (0 : Int) < (zs.length : Int):=by omega
     have hnx:=Ev L b8 zs.length (by omega) (by omega)
     have hj0:=EQ L b8 zs.length
     have hj1:=EY L b8 (n:=(zs.length : Int)) (by omega)
     obtain ⟨j,hj⟩:=Int.eq_ofNat_of_zero_le hj0
     rw [hj] at hnx hj1
     clear hj0 hj
     generalize Ae L b8 _ = d0 at hnx
     have hm : zs[j]? = some zs[j]:=lgg (by omega)
     generalize zs[j] = x at hm
     have hgd : (List.map Mc.pv zs)[j]? = some (.agg [.int .i64 x.group,.int .i64 x.least,.int .i64 x.low,.int .i64 x.high,.int .i64 x.most,.int .i64 x.swap,.bool x.tog]):=by rw [List.getElem?_map,hm]; rfl
     have q1:=Cw L d0 [x.group,1,9] (by omega) (by simp) (by simp)
     simp only [AT,llc,lln,rA,lpc,lpn] at q1
     generalize Bs L d0 [x.group,1,9] = v1 at q1
     generalize Ae L d0 _ = d1 at q1
     have q2:=Cw L d1 [x.most,-1,1099511627777] (by omega) (by simp) (by simp)
     simp only [AT,llc,lln,rA,lpc,lpn] at q2
     generalize Bs L d1 [x.most,-1,1099511627777] = v2 at q2
     generalize Ae L d1 _ = d2 at q2
     have q3:=Cw L d2 [x.high,-1,4611686018427387904] (by omega) (by simp) (by simp)
     simp only [AT,llc,lln,rA,lpc,lpn] at q3
     generalize Bs L d2 [x.high,-1,4611686018427387904] = v3 at q3
     generalize Ae L d2 _ = d3 at q3
     have hset : ∀ (q : Mc) (zs : List Mc),(List.map Mc.pv zs).set j (.agg [.int .i64 q.group,.int .i64 q.least,.int .i64 q.low,.int .i64 q.high,.int .i64 q.most,.int .i64 q.swap,.bool q.tog]) = List.map Mc.pv (zs.set j q):=fun q zs=>by rw [List.map_set]; rfl
     have hget : ∀ q : Mc,(List.map Mc.pv (zs.set j q))[j]? = some (.agg [.int .i64 q.group,.int .i64 q.least,.int .i64 q.low,.int .i64 q.high,.int .i64 q.most,.int .i64 q.swap,.bool q.tog]):=fun q=>by
      rw [List.getElem?_map,List.getElem?_set_self (by omega)]
      rfl
     have s1:=hset ⟨v1,x.least,x.low,x.high,x.most,x.swap,x.tog⟩ zs
     have r1:=hget ⟨v1,x.least,x.low,x.high,x.most,x.swap,x.tog⟩
     have s2:=hset ⟨v1,x.least,x.low,x.high,v2,x.swap,x.tog⟩ (zs.set j ⟨v1,x.least,x.low,x.high,x.most,x.swap,x.tog⟩)
     have r2:=hget ⟨v1,x.least,x.low,x.high,v2,x.swap,x.tog⟩
     have s3:=hset ⟨v1,x.least,x.low,v3,v2,x.swap,x.tog⟩ (zs.set j ⟨v1,x.least,x.low,x.high,v2,x.swap,x.tog⟩)
     simp only [List.set_set] at s1 r1 s2 r2 s3
     have hYl : (zs.set j ⟨v1,x.least,x.low,v3,v2,x.swap,x.tog⟩).length = zs.length:=List.length_set
     generalize zs.set j ⟨v1,x.least,x.low,x.high,x.most,x.swap,x.tog⟩ = Y1 at *
     generalize zs.set j ⟨v1,x.least,x.low,x.high,v2,x.swap,x.tog⟩ = Y2 at *
     generalize zs.set j ⟨v1,x.least,x.low,v3,v2,x.swap,x.tog⟩ = Y3 at *
     have htk : List.take zs.length (List.map Mc.pv Y3) = List.map Mc.pv Y3:=ltl (by simp; omega)
     have gr1:=Hm L d3 tk (by omega) (by omega)
     generalize D9 L d3 tk.nodes = gd at gr1
     obtain ⟨g1,c1⟩:=gd
     simp only at gr1
     have pk1:=Cw L c1 [0,1,30,-1,16777216] (by omega) (by simp) (by simp)
     simp only [AT,llc,lln,rA,lpc,lpn] at pk1
     generalize Bs L c1 [0,1,30,-1,16777216] = f1 at pk1
     generalize Ae L c1 _ = c2 at pk1
     have pk2:=Cw L c2 [0,3,15,100,-1,16777216,16777217] (by omega) (by simp) (by simp)
     simp only [AT,llc,lln,rA,lpc,lpn] at pk2
     generalize Bs L c2 [0,3,15,100,-1,16777216,16777217] = f2 at pk2
     generalize Ae L c2 _ = c3 at pk2
     have gr2:=Hm L c3 tk (by omega) (by omega)
     generalize D9 L c3 tk.nodes = gd at gr2
     obtain ⟨g2,c4⟩:=gd
     simp only at gr2
     have x1:=Gf tk ⟨ys,yz⟩ Y3 g1 f1 f2 hok.fits (by omega) (by show ys.length < 800000; omega) (by omega)
     have x2:=Gf tk ⟨ys,yz⟩ Y3 g2 file anon hok.fits (by omega) (by show ys.length < 800000; omega) (by omega)
     simp only [Stk.vv] at x1 x2
     simp -implicitDefEqProofs (maxSteps:=2000000) (disch:=omega) only [hH,htr,hst,hme,hk2,hy0',hnx,hgd,q1,q2,q3,s1,r1,s2,r2,s3,gr1,gr2,pk1,pk2,htk,x1,x2,List.headD_cons,Int.toNat_natCast,go_sem]
     try refine ai ?_
     refine (hI _ _).2 ⟨c4,?_⟩
     and_intros<;>exact cl0
    ·have hy0' : ¬ (0 : Int) < (zs.length : Int):=by omega
     have gr1:=Hm L b8 tk (by omega) (by omega)
     generalize D9 L b8 tk.nodes = gd at gr1
     obtain ⟨g1,c1⟩:=gd
     simp only at gr1
     have pk1:=Cw L c1 [0,1,30,-1,16777216] (by omega) (by simp) (by simp)
     simp only [AT,llc,lln,rA,lpc,lpn] at pk1
     generalize Bs L c1 [0,1,30,-1,16777216] = f1 at pk1
     generalize Ae L c1 _ = c2 at pk1
     have pk2:=Cw L c2 [0,3,15,100,-1,16777216,16777217] (by omega) (by simp) (by simp)
     simp only [AT,llc,lln,rA,lpc,lpn] at pk2
     generalize Bs L c2 [0,3,15,100,-1,16777216,16777217] = f2 at pk2
     generalize Ae L c2 _ = c3 at pk2
     have gr2:=Hm L c3 tk (by omega) (by omega)
     generalize D9 L c3 tk.nodes = gd at gr2
     obtain ⟨g2,c4⟩:=gd
     simp only at gr2
     have x1:=Gf tk ⟨ys,yz⟩ zs g1 f1 f2 hok.fits (by omega) (by show ys.length < 800000; omega) (by omega)
     have x2:=Gf tk ⟨ys,yz⟩ zs g2 file anon hok.fits (by omega) (by show ys.length < 800000; omega) (by omega)
     simp only [Stk.vv] at x1 x2
     simp -implicitDefEqProofs (maxSteps:=2000000) (disch:=omega) only [hH,htr,hst,hme,hk2,hy0',gr1,gr2,pk1,pk2,x1,x2,go_sem]
     try refine ai ?_
     refine (hI _ _).2 ⟨c4,?_⟩
     and_intros<;>exact cl0
   ·have gr1:=Hm L b8 tk (by omega) (by omega)
    generalize D9 L b8 tk.nodes = gd at gr1
    obtain ⟨g1,c1⟩:=gd
    simp only at gr1
    have pk1:=Cw L c1 [0,1,30,-1,16777216] (by omega) (by simp) (by simp)
    simp only [AT,llc,lln,rA,lpc,lpn] at pk1
    generalize Bs L c1 [0,1,30,-1,16777216] = f1 at pk1
    generalize Ae L c1 _ = c2 at pk1
    have pk2:=Cw L c2 [0,3,15,100,-1,16777216,16777217] (by omega) (by simp) (by simp)
    simp only [AT,llc,lln,rA,lpc,lpn] at pk2
    generalize Bs L c2 [0,3,15,100,-1,16777216,16777217] = f2 at pk2
    generalize Ae L c2 _ = c3 at pk2
    have gr2:=Hm L c3 tk (by omega) (by omega)
    generalize D9 L c3 tk.nodes = gd at gr2
    obtain ⟨g2,c4⟩:=gd
    simp only at gr2
    have x1:=Gf tk ⟨ys,yz⟩ zs g1 f1 f2 hok.fits (by omega) (by show ys.length < 800000; omega) (by omega)
    have x2:=Gf tk ⟨ys,yz⟩ zs g2 file anon hok.fits (by omega) (by show ys.length < 800000; omega) (by omega)
    simp only [Stk.vv] at x1 x2
    simp -implicitDefEqProofs (maxSteps:=2000000) (disch:=omega) only [hH,hlt,htr,hst,hme,hk2,gr1,gr2,pk1,pk2,x1,x2,go_sem]
    try refine ai ?_
    refine (hI _ _).2 ⟨c4,?_⟩
    and_intros<;>exact cl0
  ·by_cases m1 : 40 < t.nodes.length
   ·have m1' : (40 : Int) < (t.nodes.length : Int):=by omega
    simp -implicitDefEqProofs (disch:=omega) only [hH,hge,m1',go_sem]
   ·have m1' : ¬ (40 : Int) < (t.nodes.length : Int):=by omega
    by_cases m2 : 40 < sw.hs.length
    ·have m2' : (40 : Int) < (sw.hs.length : Int):=by omega
     simp -implicitDefEqProofs (disch:=omega) only [hH,hge,m1',m2',go_sem]
    ·have m2' : ¬ (40 : Int) < (sw.hs.length : Int):=by omega
     by_cases m3 : 40 < c.length
     ·have m3' : (40 : Int) < (c.length : Int):=by omega
      simp -implicitDefEqProofs (disch:=omega) only [hH,hge,m1',m2',m3',go_sem]
     ·have m3' : ¬ (40 : Int) < (c.length : Int):=by omega
      have x3:=Gf t sw c id file anon hf (by omega) (by omega) (by omega)
      simp only [Stk.vv] at x3
      simp -implicitDefEqProofs (disch:=omega) only [hH,hge,m1',m2',m3',x3,hsane,go_sem]
 ·rw [decide_eq_false hL] at hli
  simp -implicitDefEqProofs (disch:=omega) only [vf4,vb4,hli,hsane,go_sem]
end Go.V
