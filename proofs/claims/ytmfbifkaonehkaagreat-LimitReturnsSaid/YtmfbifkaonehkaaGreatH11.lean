/- Part 11 of the proof. -/
import Derived.Test.YtmfbifkaonehkaaGreatH5
import Derived.Test.YtmfbifkaonehkaaGreatH6
import Derived.Test.YtmfbifkaonehkaaGreatH10
set_option linter.unusedSimpArgs false
set_option linter.unusedVariables false
open Nat renaming reduceAdd → rA, reduceSub → rS, reduceEqDiff → rE, reduceLeDiff → rL
open List renaming map_cons → lpc, map_nil → lpn, length_map → llm
namespace Go.V
theorem backs_ok {t : Tr} {sw : Stk} {l : List Mc} (hs : StkOk t sw) (hl : McOk t.nodes l) {id n : Int} (hid : InN t.nodes id) (hn : 0 <= n) (hw : n <= (getS sw.hs id).swap) :
  ((backG t l ⟨sw,[],[],[],0⟩ id n).2 = 0 \/ (backG t l ⟨sw,[],[],[],0⟩ id n).2 = 20) /\ StkOk t (backG t l ⟨sw,[],[],[],0⟩ id n).1.stk /\
  (getS (backG t l ⟨sw,[],[],[],0⟩ id n).1.stk.hs id).anon + (getS (backG t l ⟨sw,[],[],[],0⟩ id n).1.stk.hs id).swap = (getS sw.hs id).anon + (getS sw.hs id).swap /\
  (getS (backG t l ⟨sw,[],[],[],0⟩ id n).1.stk.hs id).file <= (getS sw.hs id).file:=by
 have hG:=growG_ok hl (g:=⟨sw,[],[],[],0⟩) hs hid (file:=0) (anon:=n) (by omega) hn
 unfold backG
 rcases hG with ⟨he,hG⟩ | ⟨he,_,hR⟩
 ·rw [if_pos he]
  generalize growG t l ⟨sw,[],[],[],0⟩ id 0 n = r at *
  obtain ⟨a,_,hp,hget⟩:=hG.shr
  have hgi:=hget id
  rw [if_pos rfl,if_pos rfl] at hgi
  have h1:=sumT_nonneg (f:=(·.file)) (fun y hy=>(hp y hy).1) id
  have h2:=sumT_nonneg (f:=(·.anon)) (fun y hy=>(hp y hy).2) id
  have hw' : n <= (getS r.1.stk.hs id).swap:=by
   rw [hgi]
   show n <= (getS sw.hs id).swap + _
   omega
  have hok:=less_ok hG.stk hid hn hw'
  refine ⟨.inl rfl,hok,?_⟩
  have e : getS (putG r.1 (lessH (getS r.1.stk.hs id) n)).stk.hs id = lessH (getS r.1.stk.hs id) n:=by
   show getS (putS r.1.stk.hs (lessH (getS r.1.stk.hs id) n)) id = _
   rw [putS_get]
   exact if_pos (getS_group _ _).symm
  rw [e,hgi]
  show (getS sw.hs id).anon + n - _ + ((getS sw.hs id).swap + _ - n) = _ /\ (getS sw.hs id).file + 0 - _ <= _
  omega
 ·rw [if_neg (by omega)]
  generalize growG t l ⟨sw,[],[],[],0⟩ id 0 n = r at *
  obtain ⟨a,_,hacc,hp⟩:=hR.grw.shr
  have h1:=sumT_nonneg (f:=(·.file)) (fun y hy=>(hp y hy).1) id
  have h2:=sumT_nonneg (f:=(·.anon)) (fun y hy=>(hp y hy).2) id
  refine ⟨.inr he,hR.grw.stk,?_⟩
  rw [hacc id]
  show (getS sw.hs id).anon - _ + ((getS sw.hs id).swap + _) = _ /\ (getS sw.hs id).file - _ <= _
  omega
theorem shedG_ok {t : Tr} {sw : Stk} {l : List Mc} (hs : StkOk t sw) (hl : McOk t.nodes l) {id : Int} (hid : InN t.nodes id) : Grw t ⟨sw,[],[],[],0⟩ (shedG t l ⟨sw,[],[],[],0⟩ id):=by
 unfold shedG
 split
 .exact shrG_ok (g:=⟨sw,[],[],[],0⟩) hs hl hid (by omega)
 .exact Grw.refl hs
set_option maxHeartbeats 8000000 in
theorem limitReturns_eq (L : List Int) (n0 : Int) : V 8 [.p (intsP L),.p (.int .i64 n0)] [] = some (.p (.bool true),[]):=by
 refine V_wp (vf:=vf8) rfl ?_
 have hli:=light_eq (L.map (PV.int .i64))
 rw [llm] at hli
 have hsane:=sane26_eq
 by_cases hL : L.length <= 600
 ·rw [decide_eq_true hL] at hli
  have hro:=roll_eq L
  obtain ⟨t,sw,l,j,m,a0,a1,a2,a3,hS,hM,hm,htr,hst,hme,hnx⟩:=trial26_eq L hL
  have hok:=hS.tree
  have hlen:=hok.len
  have hsl:=hS.hs.length
  have hll:=hM.length
  have hin : InN t.nodes m.id:=⟨j,m,hm,rfl⟩
  have hr2:=roll_eq [n0]
  have hg1:=rget_eq sw m.id (by omega)
  have hgo:=hS.hs.get m.id
  have hk0 : 0 <= (getS sw.hs m.id).swap:=hgo.2.2.1
  have hk1 : (getS sw.hs m.id).swap <= 16777216:=hgo.2.2.2
  have hn2 : V 15 [.ptr (.arg 0 0) 0 0,.p (.int .i64 ((getS sw.hs m.id).swap + 1))] [.box [.p (intsP [n0]),.p (.int .i64 0)]] = some (.p (.int .i64 (nextV [n0] 0 ((getS sw.hs m.id).swap + 1))),[diceB [n0] (nextA [n0] 0 ((getS sw.hs m.id).swap + 1))]):=next_eq [n0] 0 ((getS sw.hs m.id).swap + 1) (by simp) (by omega)
  simp only [intsP,lpc,lpn] at hr2 hn2
  have hd0:=nextV_nonneg [n0] 0 ((getS sw.hs m.id).swap + 1)
  have hd1:=nextV_lt [n0] 0 (n:=(getS sw.hs m.id).swap + 1) (by omega)
  generalize nextV [n0] 0 ((getS sw.hs m.id).swap + 1) = n at hn2 hd0 hd1
  have hb:=back_eq hS hM hin hd0 (n:=n) (by omega)
  obtain ⟨b1,b2,b3,b4⟩:=backs_ok hS hM hin hd0 (n:=n) (by omega)
  have hsh:=shed_eq hS hM hin
  have hso:=shedG_ok hS hM hin
  have hu2:=hso.use hS hin
  generalize backG t l ⟨sw,[],[],[],0⟩ m.id n = r at hb b1 b2 b3 b4
  obtain ⟨⟨⟨x,z⟩,shr,mx,hi,rf⟩,e⟩:=r
  have hso2:=hso.stk
  clear hso
  generalize shedG t l ⟨sw,[],[],[],0⟩ m.id = r2 at hsh hu2 hso2
  obtain ⟨⟨x2,z2⟩,shr2,mx2,hi2,rf2⟩:=r2
  simp only at b1 b2 b3 b4 hu2 hso2
  have hxl : x.length <= t.nodes.length:=b2.hs.length
  have hxl2 : x2.length <= t.nodes.length:=hso2.hs.length
  have hg2:=rget_eq ⟨x,z⟩ m.id (by show x.length < _; omega)
  have hgo2:=b2.hs.get m.id
  have hus:=rusage_eq hok hS.hs (by omega) hm
  have hus2:=rusage_eq hok hso2.hs (by show x2.length < _; omega) hm
  have hmo:=rmost26_eq l m.id (by omega)
  have hub:=usedF_bound hok (cntS_ok hS.hs) m.id
  have hub2:=usedF_bound hok (cntS_ok hso2.hs) m.id
  have hmb:=mostM_bound hM m.id
  simp only [useG] at hus2 hg2 hub2 hgo2 hu2 hsh
  generalize usedF t (cntS x2) m.id = U2 at *
  generalize usedF t (cntS sw.hs) m.id = U at *
  generalize mostM l m.id = M at *
  obtain ⟨hs0,z0⟩:=sw
  simp only at *
  generalize getS hs0 m.id = o at *
  generalize getS x m.id = o2 at *
  obtain ⟨og,of,oa,os⟩:=o
  obtain ⟨pg,pf,pa,ps⟩:=o2
  simp only [inPg] at hgo hgo2
  simp only [gwF,Stk.vv,Stk.fv,Hg.vv] at hb hsh hg1 hg2 hus hus2 hst hn2 b3 b4
  have e20 : decide ((20 : Int) = 0) = false:=rfl
  have e2a : decide ((20 : Int) = 20) = true:=rfl
  have e00 : decide ((0 : Int) = 0) = true:=rfl
  have nb : ¬ of < pf:=by omega
  have hcc : (decide (max 0 (U2 - M) = 0) == decide (U2 <= M)) = true:=by
   by_cases hc : U2 <= M
   .rw [decide_eq_true hc,decide_eq_true (by omega)]; rfl
   .rw [decide_eq_false hc,decide_eq_false (by omega)]; rfl
  rcases b1 with rfl | rfl
  .simp -implicitDefEqProofs (disch:=omega) only [vf8,vb8,hli,hro,htr,hst,hme,hnx,hm,hr2,hn2,hg1,hb,hg2,hsh,hus,hus2,hmo,hsane,e00,b3,nb,hu2,hcc,go_sem,↓reduceIte,rA,rS,rE,rL,reduceCtorEq]
  .simp -implicitDefEqProofs (disch:=omega) only [vf8,vb8,hli,hro,htr,hst,hme,hnx,hm,hr2,hn2,hg1,hb,hg2,hsh,hus,hus2,hmo,hsane,e20,e2a,b3,nb,hu2,hcc,go_sem,↓reduceIte,rA,rS,rE,rL,reduceCtorEq]
 ·rw [decide_eq_false hL] at hli
  simp -implicitDefEqProofs (disch:=omega) only [vf8,vb8,hli,hsane,go_sem,↓reduceIte,rA,rS,rE,rL,reduceCtorEq]
end Go.V
