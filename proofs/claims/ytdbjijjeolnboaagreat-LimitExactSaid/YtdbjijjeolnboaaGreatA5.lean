import Derived.Test.YtdbjijjeolnboaaGreatA4
set_option linter.unusedSectionVars false
set_option linter.unusedSimpArgs false
set_option linter.unusedVariables false
set_option maxHeartbeats 32000000
open List renaming getElem?_eq_getElem → lgg, drop_eq_getElem_cons → ldg, drop_of_length_le → ldl
namespace Go.V
theorem KN (l : List Mc) (id : Int) (hl : l.length < 1000000) : V 55 [.p (AM l),.p (.int .i64 id)] [] = some ((AA l id).mv,[]):=by
 refine Ag (vf:=vf55) rfl ?_
 simp -implicitDefEqProofs (disch:=omega) only [vf55,Uc,go_sem]
 obtain ⟨I,hI⟩:=lpI fun k s=>AA l id = AA (l.drop k) id /\ s.pe 0 = .p (AM l) /\ s.pe 1 = .p (.int .i64 id) /\ s.pe 4 = .ptr (.slot 4 0) 0 0 /\ s.pe 5 = .p (.int .i64 k) /\ s.h (.slot 4 0) = some (0,Ob.box [.p (.int .i64 0),.p (.int .i64 0),.p (.int .i64 0),.p (.int .i64 0),.p (.int .i64 0),.p (.bool false)])
 refine Al (l.length) I ?_ ?_
 ·refine (hI _ _).2 ?_
  and_intros
  ·rfl
  all_goals exact cl0
 intro k s hk hIk
 obtain ⟨hp,hH⟩:=(hI _ _).1 hIk
 clear hIk
 simp -implicitDefEqProofs (disch:=omega) only [hH,go_sem]
 refine Ah (fun hlt=>?_) (fun hge=>?_)
 ·have hm : l[k]? = some l[k]:=lgg hlt
  have hdr : l.drop k = l[k] :: l.drop (k + 1):=ldg hlt
  generalize l[k] = c at hm hdr
  rw [hdr,AA] at hp
  by_cases hc : c.group = id
  ·rw [if_pos hc] at hp
   rw [hp]
   simp -implicitDefEqProofs (disch:=omega) only [hH,hlt,hm,hc,go_sem]
  ·rw [if_neg hc] at hp
   simp -implicitDefEqProofs (disch:=omega) only [hH,hlt,hm,hc,go_sem]
   try refine ai ?_
   refine (hI _ _).2 ?_
   and_intros
   .exact hp
   all_goals exact cl0
 ·rw [ldl (by omega)] at hp
  have hdf : V 44 [] [] = some (.agg [.p (.int .i64 0),.p (.int .i64 0),.p (.int .i64 4611686018427387904),.p (.int .i64 4611686018427387904),.p (.int .i64 4611686018427387904),.p (.bool false)],[]):=by
   refine Ag (vf:=vf44) rfl ?_
   simp -implicitDefEqProofs (disch:=omega) only [vf44,IJ,go_sem]
  rw [hp]
  simp -implicitDefEqProofs (disch:=omega) only [hH,hge,hdf,go_sem]
  all_goals rfl
theorem PJ (l : List Mc) (id : Int) (hl : l.length < 1000000) : V 104 [.p (AM l),.p (.int .i64 id)] [] = some (.p (.int .i64 (AE l id)),[]):=by
 refine Ag (vf:=vf104) rfl ?_
 have h1:=KN l id hl
 unfold AE
 by_cases hid : id = 1
 ·rw [if_pos hid]
  subst hid
  generalize AA l 1 = m at h1 ⊢
  simp -implicitDefEqProofs only [vf104,No,h1,go_sem]
 ·rw [if_neg hid]
  generalize AA l id = m at h1 ⊢
  simp -implicitDefEqProofs only [vf104,No,h1,hid,go_sem]
end Go.V
