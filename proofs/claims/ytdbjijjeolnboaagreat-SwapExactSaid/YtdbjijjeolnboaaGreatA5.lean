/- Part 5 of the proof. -/
import Derived.Test.YtdbjijjeolnboaaGreatA4
set_option linter.unusedSectionVars false
set_option linter.unusedSimpArgs false
set_option linter.unusedVariables false
open Nat renaming reduceAdd → rA, reduceSub → rS, reduceEqDiff → rE, reduceLeDiff → rL
open List renaming getElem?_eq_getElem → lgg, drop_eq_getElem_cons → ldg, map_cons → lpc, drop_of_length_le → ldl, map_nil → lpn
namespace Go.V
set_option maxHeartbeats 2000000 in
theorem rout_eq {t : Tr} (h : TreeOk t) (sw : Stk) (id : Int) (hl : sw.hs.length < 1000000) (hb : ∀ x,inPg (swpF sw.hs x)) : V 85 [t.vv,sw.vv,.p (.int .i64 id)] [] = some (.p (.int .i64 (swT t sw.hs id)),[]):=by
 refine V_wp (vf:=vf85) rfl ?_
 have hlen:=h.len
 have hsub:=rsub_eq (t:=t) id (by omega)
 have hsl:=subT_len h id
 unfold swT
 generalize subT t id = S at hsub hsl
 simp -implicitDefEqProofs (disch:=omega) only [vf85,vb85,hsub,go_sem,↓reduceIte,rA,rS,rE,rL,reduceCtorEq]
 obtain ⟨I,hI⟩ : ∃ I : Nat -> St -> Prop,∀ k s,I k s ↔ ∃ (q : Int),sumI (S.map (swpF sw.hs)) = q + sumI ((S.drop k).map (swpF sw.hs)) /\ 0 <= q /\ q <= 16777216 * k /\ s.pe 4 = .ptr (.slot 4 0) 0 0 /\ s.pe 7 = .p (.int .i64 q) /\ s.pe 8 = .own (.slot 12 1) 0 0 S.length /\ s.pe 9 = .p (.int .i64 k) /\ s.h (.slot 4 0) = some (0,Ob.box [.p (hgsP sw.hs),.p (.int .i64 sw.size)]) /\ s.h (.slot 12 1) = some (0,Ob.arr 1 (List.map (.int .i64) S)):=⟨_,fun _ _=>Iff.rfl⟩
 refine wp_count (S.length) I ?_ ?_
 ·refine (hI _ _).2 ⟨0,?_,?_,?_,?_,?_,?_,?_,?_,?_⟩
  .exact by simp
  .omega
  .omega
  all_goals exact cl0
 intro k s hk hIk
 obtain ⟨q,hq,q0,q1,h4,h7,h8,h9,hh4_0,hh12_1⟩:=(hI _ _).1 hIk
 clear hIk
 simp -implicitDefEqProofs (disch:=omega) only [h4,h7,h8,h9,hh4_0,hh12_1,go_sem,↓reduceIte,rA,rS,rE,rL,reduceCtorEq]
 refine wp_if_d (fun hlt=>?_) (fun hge=>?_)
 ·have hm : S[k]? = some S[k]:=lgg hlt
  have hdr : S.drop k = S[k] :: S.drop (k + 1):=ldg hlt
  generalize S[k] = g at hm hdr
  have hget:=rget_eq sw g hl
  have hx:=hb g
  rw [hdr,lpc,sumI,<- Int.add_assoc] at hq
  unfold swpF at hq hx
  generalize getS sw.hs g = c at hget hq hx
  obtain ⟨x0,x1⟩:=hx
  simp only [Stk.vv,Hg.vv] at hget
  simp -implicitDefEqProofs (disch:=omega) only [h4,h7,h8,h9,hh4_0,hh12_1,hlt,hm,hget,go_sem,↓reduceIte,rA,rS,rE,rL,reduceCtorEq]
  try refine And.intro (by omega) ?_
  refine (hI _ _).2 ⟨q + c.swap,?_,?_,?_,?_,?_,?_,?_,?_,?_⟩
  .exact hq
  .omega
  .exact by push_cast; omega
  all_goals exact cl0
 ·rw [ldl (by omega),lpn,sumI,Int.add_zero] at hq
  simp -implicitDefEqProofs (disch:=omega) only [h4,h7,h8,h9,hh4_0,hh12_1,hge,hq,go_sem,↓reduceIte,rA,rS,rE,rL,reduceCtorEq]
set_option maxHeartbeats 2000000 in
theorem rroom25_eq {t : Tr} {sw : Stk} {l : List Ch} (h : StkOk t sw) (hl : LimOk l) (hll : l.length < 1000000) {id : Int} (hid : InN t.nodes id) : V 90 [t.vv,sw.vv,.p (chsP l),.p (.int .i64 id)] [] = some (.p (.int .i64 (roomS t sw.hs sw.size l id)),[]):=by
 refine V_wp (vf:=vf90) rfl ?_
 have hlen:=h.tree.len
 have hsl:=h.hs.length
 have hout:=fun g=>rout_eq h.tree sw g (by omega) h.swp
 have hmo:=fun g=>most_eq l g hll
 have hanc:=ranc_eq t id (by omega)
 have hal:=ancR_len t id
 rw [ancR_in h.tree hid] at hanc hal
 have hz0:=h.z0
 have hz1:=h.z1
 have hW : ∀ g,0 <= swT t sw.hs g /\ swT t sw.hs g <= 1073741824:=fun g=>by
  have h1:=sumI_bound (f:=swpF sw.hs) (B:=16777216) (fun x=>h.swp x) (subT t g)
  have h2:=subT_len h.tree g
  unfold swT
  omega
 have hM:=fun g=>hl.most g
 unfold roomS
 generalize ancF t.nodes t.nodes.length id = S at hanc hal
 have h1:=hout 1
 have w1:=hW 1
 simp only [Stk.vv] at hout h1
 generalize swT t sw.hs 1 = W1 at h1 w1
 simp -implicitDefEqProofs (disch:=omega) only [vf90,vb90,h1,hanc,go_sem,↓reduceIte,rA,rS,rE,rL,reduceCtorEq]
 obtain ⟨I,hI⟩ : ∃ I : Nat -> St -> Prop,∀ k s,I k s ↔ ∃ (a : Int),leftS (swT t sw.hs) l S (sw.size - W1) = leftS (swT t sw.hs) l (S.drop k) a /\ -1073741824 <= a /\ a <= 16777216 /\ s.pe 2 = .p (chsP l) /\ s.pe 4 = .ptr (.slot 4 0) 0 0 /\ s.pe 5 = .ptr (.slot 5 0) 0 0 /\ s.pe 9 = .p (.int .i64 a) /\ s.pe 10 = .own (.slot 20 1) 0 0 S.length /\ s.pe 11 = .p (.int .i64 k) /\ s.h (.slot 4 0) = some (0,Ob.box [.p (nodesP t.nodes),.p (.int .i64 t.next)]) /\ s.h (.slot 5 0) = some (0,Ob.box [.p (hgsP sw.hs),.p (.int .i64 sw.size)]) /\ s.h (.slot 20 1) = some (0,Ob.arr 1 (List.map (.int .i64) S)):=⟨_,fun _ _=>Iff.rfl⟩
 refine wp_count (S.length) I ?_ ?_
 ·refine (hI _ _).2 ⟨sw.size - W1,?_,?_,?_,?_,?_,?_,?_,?_,?_,?_,?_,?_⟩
  .rfl
  .omega
  .omega
  all_goals exact cl0
 intro k s hk hIk
 obtain ⟨a,ha,a0,a1,h2,h4,h5,h9,h10,h11,hh4_0,hh5_0,hh20_1⟩:=(hI _ _).1 hIk
 clear hIk
 simp -implicitDefEqProofs (disch:=omega) only [h2,h4,h5,h9,h10,h11,hh4_0,hh5_0,hh20_1,go_sem,↓reduceIte,rA,rS,rE,rL,reduceCtorEq]
 refine wp_if_d (fun hlt=>?_) (fun hge=>?_)
 ·have hm : S[k]? = some S[k]:=lgg hlt
  have hdr : S.drop k = S[k] :: S.drop (k + 1):=ldg hlt
  generalize S[k] = g at hm hdr
  rw [hdr,leftS] at ha
  have c1:=hmo g
  have c2:=hout g
  have b1:=hW g
  have b2:=hM g
  generalize mostK l g = M at c1 b2 ha
  generalize hw : swT t sw.hs g = W at c2 b1 ha
  simp -implicitDefEqProofs (disch:=omega) only [h2,h4,h5,h9,h10,h11,hh4_0,hh5_0,hh20_1,hlt,hm,c1,c2,go_sem,↓reduceIte,rA,rS,rE,rL,reduceCtorEq]
  try refine And.intro (by omega) ?_
  refine (hI _ _).2 ⟨min a (M - W),?_,?_,?_,?_,?_,?_,?_,?_,?_,?_,?_,?_⟩
  .exact ha
  .omega
  .omega
  all_goals exact cl0
 ·rw [ldl (by omega),leftS] at ha
  rw [ha]
  simp -implicitDefEqProofs (disch:=omega) only [h2,h4,h5,h9,h10,h11,hh4_0,hh5_0,hh20_1,hge,go_sem,↓reduceIte,rA,rS,rE,rL,reduceCtorEq]
end Go.V
