/- Part 6 of the proof. -/
import Derived.Test.YtmfbifkaonehkaaGreatH5
set_option linter.unusedSimpArgs false
set_option linter.unusedVariables false
open Nat renaming reduceAdd → rA, reduceSub → rS, reduceEqDiff → rE, reduceLeDiff → rL
open List renaming getElem?_eq_getElem → lgg, drop_eq_getElem_cons → ldg, drop_of_length_le → ldl
namespace Go.V
set_option maxHeartbeats 2000000 in
theorem rsettings26_eq (l : List Mc) (id : Int) (hl : l.length < 1000000) : V 48 [.p (mcsP l),.p (.int .i64 id)] [] = some ((getM l id).mv,[]):=by
 refine V_wp (vf:=vf48) rfl ?_
 simp -implicitDefEqProofs (disch:=omega) only [vf48,vb48,go_sem,↓reduceIte,rA,rS,rE,rL,reduceCtorEq]
 obtain ⟨I,hI⟩ : ∃ I : Nat -> St -> Prop,∀ k s,I k s ↔ getM l id = getM (l.drop k) id /\ s.pe 0 = .p (mcsP l) /\ s.pe 1 = .p (.int .i64 id) /\ s.pe 4 = .ptr (.slot 4 0) 0 0 /\ s.pe 5 = .p (.int .i64 k) /\ s.h (.slot 4 0) = some (0,Ob.box [.p (.int .i64 0),.p (.int .i64 0),.p (.int .i64 0),.p (.int .i64 0),.p (.int .i64 0),.p (.bool false)]):=⟨_,fun _ _=>Iff.rfl⟩
 refine wp_count (l.length) I ?_ ?_
 ·refine (hI _ _).2 ⟨?_,?_,?_,?_,?_,?_⟩
  ·rfl
  all_goals exact cl0
 intro k s hk hIk
 obtain ⟨hp,h0,h1,h4,h5,hh4_0⟩:=(hI _ _).1 hIk
 clear hIk
 simp -implicitDefEqProofs (disch:=omega) only [h0,h1,h4,h5,hh4_0,go_sem,↓reduceIte,rA,rS,rE,rL,reduceCtorEq]
 refine wp_if_d (fun hlt=>?_) (fun hge=>?_)
 ·have hm : l[k]? = some l[k]:=lgg hlt
  have hdr : l.drop k = l[k] :: l.drop (k + 1):=ldg hlt
  generalize l[k] = c at hm hdr
  rw [hdr,getM] at hp
  by_cases hc : c.group = id
  ·rw [if_pos hc] at hp
   rw [hp]
   simp -implicitDefEqProofs (disch:=omega) only [h0,h1,h4,h5,hh4_0,hlt,hm,hc,go_sem,↓reduceIte,rA,rS,rE,rL,reduceCtorEq]
  ·rw [if_neg hc] at hp
   simp -implicitDefEqProofs (disch:=omega) only [h0,h1,h4,h5,hh4_0,hlt,hm,hc,go_sem,↓reduceIte,rA,rS,rE,rL,reduceCtorEq]
   try refine And.intro (by omega) ?_
   refine (hI _ _).2 ⟨?_,?_,?_,?_,?_,?_⟩
   .exact hp
   all_goals exact cl0
 ·rw [ldl (by omega)] at hp
  have hdf : V 21 [] [] = some (.agg [.p (.int .i64 0),.p (.int .i64 0),.p (.int .i64 4611686018427387904),.p (.int .i64 4611686018427387904),.p (.int .i64 4611686018427387904),.p (.bool false)],[]):=by
   refine V_wp (vf:=vf21) rfl ?_
   simp -implicitDefEqProofs (disch:=omega) only [vf21,vb21,go_sem,↓reduceIte,rA,rS,rE,rL,reduceCtorEq]
  rw [hp]
  simp -implicitDefEqProofs (disch:=omega) only [h0,h1,h4,h5,hh4_0,hge,hdf,go_sem,↓reduceIte,rA,rS,rE,rL,reduceCtorEq]
  all_goals rfl
set_option maxHeartbeats 1000000 in
theorem rmost26_eq (l : List Mc) (id : Int) (hl : l.length < 1000000) : V 25 [.p (mcsP l),.p (.int .i64 id)] [] = some (.p (.int .i64 (mostM l id)),[]):=by
 refine V_wp (vf:=vf25) rfl ?_
 have h1:=rsettings26_eq l id hl
 unfold mostM
 by_cases hid : id = 1
 ·rw [if_pos hid]
  subst hid
  generalize getM l 1 = m at h1 ⊢
  simp -implicitDefEqProofs (disch:=omega) only [vf25,vb25,h1,go_sem,↓reduceIte,rA,rS,rE,rL,reduceCtorEq]
 ·rw [if_neg hid]
  generalize getM l id = m at h1 ⊢
  simp -implicitDefEqProofs (disch:=omega) only [vf25,vb25,h1,hid,go_sem,↓reduceIte,rA,rS,rE,rL,reduceCtorEq]
end Go.V
