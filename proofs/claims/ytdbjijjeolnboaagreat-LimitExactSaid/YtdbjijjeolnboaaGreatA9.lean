import Derived.Test.YtdbjijjeolnboaaGreatA4
import Derived.Test.YtdbjijjeolnboaaGreatA8
set_option linter.unusedSectionVars false
set_option linter.unusedSimpArgs false
set_option linter.unusedVariables false
set_option maxHeartbeats 32000000
open List renaming getElem?_eq_getElem → lgg, drop_eq_getElem_cons → ldg, map_cons → lpc, drop_of_length_le → ldl, nil_append → lna, append_assoc → laa, append_nil → lan, map_nil → lpn
namespace Go.V
theorem Lc (l : List Mc) (hl : l.length < 1000000) : V 61 [.p (AM l)] [] = some (.fresh 2 ((A9 l).map Ch.pv),[]):=by
 refine Ag (vf:=vf61) rfl ?_
 simp -implicitDefEqProofs (disch:=omega) only [vf61,T6,go_sem]
 obtain ⟨I,hI⟩:=lpI fun k s=>∃ (acc : List Ch) (w : Nat),A9 l = acc ++ A9 (l.drop k) /\ acc.length <= k /\ s.pe 3 = .own (.slot 3 0) w 0 acc.length /\ s.pe 0 = .p (AM l) /\ s.pe 4 = .p (.int .i64 k) /\ s.h (.slot 3 0) = some (w,Ob.arr 2 (acc.map Ch.pv))
 refine Al (l.length) I ?_ ?_
 ·refine (hI _ _).2 ⟨[],0,?_⟩
  and_intros
  ·rfl
  ·exact Nat.zero_le _
  all_goals exact cl0
 intro k s hk hIk
 obtain ⟨acc,w,ho,hal,hH⟩:=(hI _ _).1 hIk
 clear hIk
 simp -implicitDefEqProofs (disch:=omega) only [hH,go_sem]
 refine Ah (fun hlt=>?_) (fun hge=>?_)
 ·have hm : l[k]? = some l[k]:=lgg hlt
  have hdr : l.drop k = l[k] :: l.drop (k + 1):=ldg hlt
  generalize l[k] = c at hm hdr
  rw [hdr,Rl] at ho
  by_cases h1 : c.swap = 4611686018427387904
  ·rw [if_pos h1,lna] at ho
   simp -implicitDefEqProofs (disch:=omega) only [hH,hlt,hm,h1,go_sem]
   try refine ai ?_
   refine (hI _ _).2 ⟨acc,w,?_⟩
   and_intros
   .exact ho
   .omega
   all_goals exact cl0
  ·rw [if_neg h1,<- laa] at ho
   simp -implicitDefEqProofs (disch:=omega) only [hH,hlt,hm,h1,go_sem]
   try refine ai ?_
   refine (hI _ _).2 ⟨acc ++ [⟨c.group,c.swap⟩],w + 1,?_⟩
   and_intros
   .exact ho
   .exact by simp; omega
   all_goals exact cl0
 ·rw [ldl (by omega)] at ho
  rw [show A9 [] = [] from rfl,lan] at ho
  simp -implicitDefEqProofs (disch:=omega) only [hH,hge,go_sem]
  rw [ho]
theorem zbn {t : Tr} (h : TreeOk t) (sw : Stk) (id : Int) (hl : sw.hs.length < 1000000) (hb : ∀ x,Ax (CA sw.hs x)) : V 85 [t.vv,sw.vv,.p (.int .i64 id)] [] = some (.p (.int .i64 (swT t sw.hs id)),[]):=by
 refine Ag (vf:=vf85) rfl ?_
 have hlen:=h.len
 have hsub:=J1 (t:=t) id (by omega)
 have hsl:=CZ h id
 unfold swT
 generalize subT t id = S at hsub hsl
 simp -implicitDefEqProofs (disch:=omega) only [vf85,TR,hsub,go_sem]
 obtain ⟨I,hI⟩:=lpI fun k s=>∃ (q : Int),Ab (S.map (CA sw.hs)) = q + Ab ((S.drop k).map (CA sw.hs)) /\ 0 <= q /\ q <= 16777216 * k /\ s.pe 4 = .ptr (.slot 4 0) 0 0 /\ s.pe 7 = .p (.int .i64 q) /\ s.pe 8 = .own (.slot 12 1) 0 0 S.length /\ s.pe 9 = .p (.int .i64 k) /\ s.h (.slot 4 0) = some (0,Ob.box [.p (Bc sw.hs),.p (.int .i64 sw.size)]) /\ s.h (.slot 12 1) = some (0,Ob.arr 1 (List.map (.int .i64) S))
 refine Al (S.length) I ?_ ?_
 ·refine (hI _ _).2 ⟨0,?_⟩
  and_intros
  .exact by simp
  .omega
  .omega
  all_goals exact cl0
 intro k s hk hIk
 obtain ⟨q,hq,q0,q1,hH⟩:=(hI _ _).1 hIk
 clear hIk
 simp -implicitDefEqProofs (disch:=omega) only [hH,go_sem]
 refine Ah (fun hlt=>?_) (fun hge=>?_)
 ·have hm : S[k]? = some S[k]:=lgg hlt
  have hdr : S.drop k = S[k] :: S.drop (k + 1):=ldg hlt
  generalize S[k] = g at hm hdr
  have hget:=Hq sw g hl
  have hx:=hb g
  rw [hdr,lpc,Ab,<- Int.add_assoc] at hq
  unfold CA at hq hx
  generalize Ac sw.hs g = c at hget hq hx
  obtain ⟨x0,x1⟩:=hx
  simp only [Stk.vv,Hg.vv] at hget
  simp -implicitDefEqProofs (disch:=omega) only [hH,hlt,hm,hget,go_sem]
  try refine ai ?_
  refine (hI _ _).2 ⟨q + c.swap,?_⟩
  and_intros
  .exact hq
  .omega
  .exact by push_cast; omega
  all_goals exact cl0
 ·rw [ldl (by omega),lpn,Ab,Int.add_zero] at hq
  simp -implicitDefEqProofs (disch:=omega) only [hH,hge,hq,go_sem]
theorem Xr {t : Tr} {sw : Stk} {l : List Ch} (h : StkOk t sw) (hl : LimOk l) (hll : l.length < 1000000) {id : Int} (hid : InN t.nodes id) : V 90 [t.vv,sw.vv,.p (AP l),.p (.int .i64 id)] [] = some (.p (.int .i64 (B8 t sw.hs sw.size l id)),[]):=by
 refine Ag (vf:=vf90) rfl ?_
 have hlen:=h.tree.len
 have hsl:=h.hs.length
 have hout:=fun g=>zbn h.tree sw g (by omega) h.swp
 have hmo:=fun g=>zbM l g hll
 have hanc:=MR t id (by omega)
 have hal:=Ho t id
 rw [GD h.tree hid] at hanc hal
 have hz0:=h.z0
 have hz1:=h.z1
 have hW : ∀ g,0 <= swT t sw.hs g /\ swT t sw.hs g <= 1073741824:=fun g=>by
  have h1:=Lt (f:=CA sw.hs) (B:=16777216) (fun x=>h.swp x) (subT t g)
  have h2:=CZ h.tree g
  unfold swT
  omega
 have hM:=fun g=>hl.most g
 unfold B8
 generalize ancF t.nodes t.nodes.length id = S at hanc hal
 have h1:=hout 1
 have w1:=hW 1
 simp only [Stk.vv] at hout h1
 generalize swT t sw.hs 1 = W1 at h1 w1
 simp -implicitDefEqProofs (disch:=omega) only [vf90,TP,h1,hanc,go_sem]
 obtain ⟨I,hI⟩:=lpI fun k s=>∃ (a : Int),CN (swT t sw.hs) l S (sw.size - W1) = CN (swT t sw.hs) l (S.drop k) a /\ -1073741824 <= a /\ a <= 16777216 /\ s.pe 2 = .p (AP l) /\ s.pe 4 = .ptr (.slot 4 0) 0 0 /\ s.pe 5 = .ptr (.slot 5 0) 0 0 /\ s.pe 9 = .p (.int .i64 a) /\ s.pe 10 = .own (.slot 20 1) 0 0 S.length /\ s.pe 11 = .p (.int .i64 k) /\ s.h (.slot 4 0) = some (0,Ob.box [.p (Au t.nodes),.p (.int .i64 t.next)]) /\ s.h (.slot 5 0) = some (0,Ob.box [.p (Bc sw.hs),.p (.int .i64 sw.size)]) /\ s.h (.slot 20 1) = some (0,Ob.arr 1 (List.map (.int .i64) S))
 refine Al (S.length) I ?_ ?_
 ·refine (hI _ _).2 ⟨sw.size - W1,?_⟩
  and_intros
  .rfl
  .omega
  .omega
  all_goals exact cl0
 intro k s hk hIk
 obtain ⟨a,ha,a0,a1,h2,hH⟩:=(hI _ _).1 hIk
 clear hIk
 simp -implicitDefEqProofs (disch:=omega) only [hH,go_sem]
 refine Ah (fun hlt=>?_) (fun hge=>?_)
 ·have hm : S[k]? = some S[k]:=lgg hlt
  have hdr : S.drop k = S[k] :: S.drop (k + 1):=ldg hlt
  generalize S[k] = g at hm hdr
  rw [hdr,CN] at ha
  have c1:=hmo g
  have c2:=hout g
  have b1:=hW g
  have b2:=hM g
  generalize Cz l g = M at c1 b2 ha
  generalize hw : swT t sw.hs g = W at c2 b1 ha
  simp -implicitDefEqProofs (disch:=omega) only [h2,hH,hlt,hm,c1,c2,go_sem]
  try refine ai ?_
  refine (hI _ _).2 ⟨min a (M - W),?_⟩
  and_intros
  .exact ha
  .omega
  .omega
  all_goals exact cl0
 ·rw [ldl (by omega),CN] at ha
  rw [ha]
  simp -implicitDefEqProofs (disch:=omega) only [hH,hge,go_sem]
end Go.V
