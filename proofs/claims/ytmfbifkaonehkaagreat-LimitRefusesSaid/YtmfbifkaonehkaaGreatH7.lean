/- Part 7 of the proof. -/
import Derived.Test.YtmfbifkaonehkaaGreatH4
set_option linter.unusedSimpArgs false
set_option linter.unusedVariables false
open Nat renaming reduceAdd → rA, reduceSub → rS, reduceEqDiff → rE, reduceLeDiff → rL
open List renaming getElem?_eq_getElem → lgg
open Bool renaming true_and → bta
namespace Go.V
set_option maxHeartbeats 1000000 in
theorem rlimits_eq (t : Tr) (l : List Ch) (hn : t.nodes.length < 1000000) (hl : l.length < 1000000) : V 51 [t.vv,.p (chsP l)] [] = some (.p (.bool (validLK t l)),[]):=by
 refine V_wp (vf:=vf51) rfl ?_
 have hc:=rcheck_eq t hn
 unfold validLK
 cases ht : treeOk t with
 | false =>
  rw [ht] at hc
  simp -implicitDefEqProofs (disch:=omega) only [vf51,vb51,hc,go_sem,↓reduceIte,rA,rS,rE,rL,reduceCtorEq]
  try rfl
 | true =>
  rw [ht] at hc
  rw [bta]
  simp -implicitDefEqProofs (disch:=omega) only [vf51,vb51,hc,go_sem,↓reduceIte,rA,rS,rE,rL,reduceCtorEq]
  obtain ⟨I,hI⟩ : ∃ I : Nat -> St -> Prop,∀ k s,I k s ↔ ascOk (knownN t.nodes) 0 4611686018427387904 none l = ascOk (knownN t.nodes) 0 4611686018427387904 (prevG l k) (l.drop k) /\ s.pe 1 = .p (chsP l) /\ s.pe 2 = .ptr (.slot 2 0) 0 0 /\ s.pe 5 = .p (.int .i64 k) /\ s.h (.slot 2 0) = some (0,Ob.box [.p (nodesP t.nodes),.p (.int .i64 t.next)]):=⟨_,fun _ _=>Iff.rfl⟩
  refine wp_count (l.length) I ?_ ?_
  ·refine (hI _ _).2 ⟨?_,?_,?_,?_,?_⟩
   ·exact cl3
   all_goals exact cl0
  intro k s hk hIk
  obtain ⟨hq,h1,h2,h5,hh2_0⟩:=(hI _ _).1 hIk
  clear hIk
  simp -implicitDefEqProofs (disch:=omega) only [h1,h2,h5,hh2_0,go_sem,↓reduceIte,rA,rS,rE,rL,reduceCtorEq]
  refine wp_if_d (fun hlt=>?_) (fun hge=>?_)
  ·have hm : l[k]? = some l[k]:=lgg hlt
   generalize l[k] = c at hm
   have hg:=asc_good hq hm
   have hb':=asc_bad hq hm
   have hfi:=rhas_eq t c.group hn
   rw [findT_ok ht] at hfi
   have hkn : knownN t.nodes c.group = (findN t.nodes c.group).isSome:=rfl
   generalize (findN t.nodes c.group).isSome = kn at hfi hkn
   by_cases hk0 : (0 : Int) < k
   ·obtain ⟨e,he,he'⟩:=prev_at hm hk0
    have hk1 : (0 : Int) <= (k : Int) - 1:=by omega
    rw [ascAt_succ hk0 he,hkn] at hg hb'
    simp -implicitDefEqProofs (disch:=omega) only [h1,h2,h5,hh2_0,hlt,hm,hfi,hk0,hk1,he',go_sem,↓reduceIte,rA,rS,rE,rL,reduceCtorEq]
    repeat' ((first | refine wp_grn_d (fun hb=>?_) (fun hb=>?_) | refine wp_gtn_d (fun hb=>?_) (fun hb=>?_) | refine wp_gr_d (fun hb=>?_) (fun hb=>?_) | refine wp_gt_d (fun hb=>?_) (fun hb=>?_) | refine wp_gr (fun hb=>?_) (fun hb=>?_) | refine wp_gt (fun hb=>?_) (fun hb=>?_) | refine wp_nt_d (fun hb=>?_) (fun hb=>?_) | refine wp_nt (fun hb=>?_) (fun hb=>?_) | refine wp_if_d (fun hb=>?_) (fun hb=>?_) | refine wp_if (fun hb=>?_) (fun hb=>?_)) <;> simp -implicitDefEqProofs (disch:=omega) only [hb,h1,h2,h5,hh2_0,hlt,hm,hfi,hk0,hk1,he',go_sem,↓reduceIte,rA,rS,rE,rL,reduceCtorEq])
    all_goals first
     | (rw [hb' (by first | (rintro ⟨h1,h2,h3,h4⟩; omega) | simp_all)]; done)
     | skip
    try refine And.intro (by omega) ?_
    refine (hI _ _).2 ⟨?_,?_,?_,?_,?_⟩
    ·exact hg ⟨by first | assumption | (cases kn <;> simp_all),by omega,by omega,by omega⟩
    all_goals exact cl0
   ·rw [ascAt_zero hk0,hkn] at hg hb'
    simp -implicitDefEqProofs (disch:=omega) only [h1,h2,h5,hh2_0,hlt,hm,hfi,hk0,go_sem,↓reduceIte,rA,rS,rE,rL,reduceCtorEq]
    repeat' ((first | refine wp_grn_d (fun hb=>?_) (fun hb=>?_) | refine wp_gtn_d (fun hb=>?_) (fun hb=>?_) | refine wp_gr_d (fun hb=>?_) (fun hb=>?_) | refine wp_gt_d (fun hb=>?_) (fun hb=>?_) | refine wp_gr (fun hb=>?_) (fun hb=>?_) | refine wp_gt (fun hb=>?_) (fun hb=>?_) | refine wp_nt_d (fun hb=>?_) (fun hb=>?_) | refine wp_nt (fun hb=>?_) (fun hb=>?_) | refine wp_if_d (fun hb=>?_) (fun hb=>?_) | refine wp_if (fun hb=>?_) (fun hb=>?_)) <;> simp -implicitDefEqProofs (disch:=omega) only [hb,h1,h2,h5,hh2_0,hlt,hm,hfi,hk0,go_sem,↓reduceIte,rA,rS,rE,rL,reduceCtorEq])
    all_goals first
     | (rw [hb' (by first | (rintro ⟨h1,h2,h3⟩; omega) | simp_all)]; done)
     | skip
    try refine And.intro (by omega) ?_
    refine (hI _ _).2 ⟨?_,?_,?_,?_,?_⟩
    .exact hg ⟨by first | assumption | (cases kn <;> simp_all),by omega,by omega⟩
    all_goals exact cl0
  ·have hT:=asc_end hq (by omega)
   simp -implicitDefEqProofs (disch:=omega) only [h1,h2,h5,hh2_0,hge,hT,go_sem,↓reduceIte,rA,rS,rE,rL,reduceCtorEq]
end Go.V
