/- Part 6 of the proof. -/
import Derived.Test.YtdbjijjeolnboaaGreatA5
import Derived.Test.YtdbjijjeolnboaaGreatA3
import Derived.Test.YtdbjijjeolnboaaGreatA4
set_option linter.unusedSectionVars false
set_option linter.unusedSimpArgs false
set_option linter.unusedVariables false
open Nat renaming reduceAdd → rA, reduceSub → rS, reduceEqDiff → rE, reduceLeDiff → rL, le_refl → lrf
open List renaming getElem?_eq_getElem → lgg, drop_eq_getElem_cons → ldg, map_cons → lpc, drop_of_length_le → ldl, nil_append → lna, append_assoc → laa, append_nil → lan, mem_map → lmm, map_append → lma, take_of_length_le → ltl, getElem?_of_mem → lgm, length_cons → llc, length_append → lla, mem_cons → lmk, length_map → llm, getElem_mem → lgk, length_take → llt, length_drop → lld, pairwise_cons → lpw
open Option renaming some.injEq → osi
namespace Go.V
def cntW (l : List Hg) : List Ch:=(l.filter fun h=>decide (IntKind.i64.wrap (h.file + h.anon) ≠ 0)).map fun h=>⟨h.group,IntKind.i64.wrap (h.file + h.anon)⟩
theorem cntW_cons (h : Hg) (l : List Hg) : cntW (h :: l) = (if IntKind.i64.wrap (h.file + h.anon) = 0 then [] else [⟨h.group,IntKind.i64.wrap (h.file + h.anon)⟩]) ++ cntW l:=by
 unfold cntW
 by_cases hn : IntKind.i64.wrap (h.file + h.anon) = 0
 ·rw [List.filter_cons_of_neg (by simpa using hn),if_pos hn]
  rfl
 ·rw [List.filter_cons_of_pos (by simpa using hn),if_neg hn]
  rfl
theorem cntW_len (l : List Hg) : (cntW l).length <= l.length:=by
 unfold cntW
 rw [llm]
 exact List.length_filter_le _ _
set_option maxHeartbeats 2000000 in
theorem rcounterW_eq (sw : Stk) (hl : sw.hs.length < 1000000) : V 35 [sw.vv] [] = some (ctrF (cntW sw.hs),[]):=by
 refine V_wp (vf:=vf35) rfl ?_
 simp -implicitDefEqProofs (disch:=omega) only [vf35,vb35,go_sem,↓reduceIte,rA,rS,rE,rL,reduceCtorEq]
 obtain ⟨I,hI⟩ : ∃ I : Nat -> St -> Prop,∀ k s,I k s ↔ ∃ (acc : List Ch) (w : Nat),cntW sw.hs = acc ++ cntW (sw.hs.drop k) /\ acc.length <= k /\ s.pe 1 = .ptr (.slot 1 0) 0 0 /\ s.pe 2 = .ptr (.slot 2 0) 0 0 /\ s.pe 3 = .own (.slot 3 0) w 0 acc.length /\ s.pe 4 = .p (.int .i64 k) /\ s.h (.slot 1 0) = some (0,Ob.box [.p (hgsP sw.hs),.p (.int .i64 sw.size)]) /\ s.h (.slot 2 0) = some (0,Ob.box [.own (.slot 2 1) 0 0 0]) /\ s.h (.slot 2 1) = some (0,Ob.arr 2 []) /\ s.h (.slot 3 0) = some (w,Ob.arr 2 (acc.map Ch.pv)):=⟨_,fun _ _=>Iff.rfl⟩
 refine wp_count (sw.hs.length) I ?_ ?_
 ·refine (hI _ _).2 ⟨[],0,?_,?_,?_,?_,?_,?_,?_,?_,?_,?_⟩
  ·rfl
  ·exact lrf _
  all_goals exact cl0
 intro k s hk hIk
 obtain ⟨acc,w,ho,hal,h1,h2,h3,h4,hh1_0,hh2_0,hh2_1,hh3_0⟩:=(hI _ _).1 hIk
 clear hIk
 simp -implicitDefEqProofs (disch:=omega) only [h1,h2,h3,h4,hh1_0,hh2_0,hh2_1,hh3_0,go_sem,↓reduceIte,rA,rS,rE,rL,reduceCtorEq]
 refine wp_if_d (fun hlt=>?_) (fun hge=>?_)
 ·have hm : sw.hs[k]? = some sw.hs[k]:=lgg hlt
  have hd : sw.hs.drop k = sw.hs[k] :: sw.hs.drop (k + 1):=ldg hlt
  generalize sw.hs[k] = c at hm hd
  rw [hd,cntW_cons] at ho
  by_cases he : IntKind.i64.wrap (c.file + c.anon) = 0
  ·rw [if_pos he,lna] at ho
   simp -implicitDefEqProofs (disch:=omega) only [h1,h2,h3,h4,hh1_0,hh2_0,hh2_1,hh3_0,hlt,hm,he,go_sem,↓reduceIte,rA,rS,rE,rL,reduceCtorEq]
   try refine And.intro (by omega) ?_
   refine (hI _ _).2 ⟨acc,w,?_,?_,?_,?_,?_,?_,?_,?_,?_,?_⟩
   .exact ho
   .omega
   all_goals exact cl0
  ·rw [if_neg he,<- laa] at ho
   simp -implicitDefEqProofs (disch:=omega) only [h1,h2,h3,h4,hh1_0,hh2_0,hh2_1,hh3_0,hlt,hm,he,go_sem,↓reduceIte,rA,rS,rE,rL,reduceCtorEq]
   try refine And.intro (by omega) ?_
   refine (hI _ _).2 ⟨acc ++ [⟨c.group,IntKind.i64.wrap (c.file + c.anon)⟩],w + 1,?_,?_,?_,?_,?_,?_,?_,?_,?_,?_⟩
   .exact ho
   .exact by simp; omega
   all_goals exact cl0
 ·rw [ldl (by omega)] at ho
  rw [show cntW [] = [] from rfl,lan] at ho
  simp -implicitDefEqProofs (disch:=omega) only [h1,h2,h3,h4,hh1_0,hh2_0,hh2_1,hh3_0,hge,go_sem,↓reduceIte,rA,rS,rE,rL,reduceCtorEq]
  rw [ho]
set_option maxHeartbeats 2000000 in
theorem scounterW_eq (sw : Stk) (hl : sw.hs.length < 1000000) : V 34 [sw.vv] [] = some (ctrF (cntW sw.hs),[]):=by
 refine V_wp (vf:=vf34) rfl ?_
 simp -implicitDefEqProofs (disch:=omega) only [vf34,vb34,go_sem,↓reduceIte,rA,rS,rE,rL,reduceCtorEq]
 obtain ⟨I,hI⟩ : ∃ I : Nat -> St -> Prop,∀ k s,I k s ↔ ∃ (acc : List Ch) (w : Nat),cntW sw.hs = acc ++ cntW (sw.hs.drop k) /\ acc.length <= k /\ s.pe 2 = .ptr (.slot 2 0) 0 0 /\ s.pe 3 = .ptr (.slot 3 0) 0 0 /\ s.pe 8 = .p (hgsP sw.hs) /\ s.pe 9 = .p (.int .i64 ↑sw.hs.length) /\ s.pe 10 = .p (.int .i64 k) /\ s.h (.slot 2 0) = some (0,Ob.box [.own (.slot 2 1) 0 0 0]) /\ s.h (.slot 2 1) = some (0,Ob.arr 2 []) /\ s.h (.slot 3 0) = some (0,Ob.box [.own (.slot 3 1) w 0 acc.length]) /\ s.h (.slot 3 1) = some (w,Ob.arr 2 (acc.map Ch.pv)):=⟨_,fun _ _=>Iff.rfl⟩
 refine wp_count (sw.hs.length) I ?_ ?_
 ·refine (hI _ _).2 ⟨[],0,?_,?_,?_,?_,?_,?_,?_,?_,?_,?_,?_⟩
  ·rfl
  ·exact lrf _
  all_goals exact cl0
 intro k s hk hIk
 obtain ⟨acc,w,ho,hal,h2,h3,h8,h9,h10,hh2_0,hh2_1,hh3_0,hh3_1⟩:=(hI _ _).1 hIk
 clear hIk
 simp -implicitDefEqProofs (disch:=omega) only [h2,h3,h8,h9,h10,hh2_0,hh2_1,hh3_0,hh3_1,go_sem,↓reduceIte,rA,rS,rE,rL,reduceCtorEq]
 refine wp_if_d (fun hlt=>?_) (fun hge=>?_)
 ·have hm : sw.hs[k]? = some sw.hs[k]:=lgg hlt
  have hd : sw.hs.drop k = sw.hs[k] :: sw.hs.drop (k + 1):=ldg hlt
  generalize sw.hs[k] = c at hm hd
  rw [hd,cntW_cons] at ho
  by_cases he : IntKind.i64.wrap (c.file + c.anon) = 0
  ·rw [if_pos he,lna] at ho
   simp -implicitDefEqProofs (disch:=omega) only [h2,h3,h8,h9,h10,hh2_0,hh2_1,hh3_0,hh3_1,hlt,hm,he,go_sem,↓reduceIte,rA,rS,rE,rL,reduceCtorEq]
   try refine And.intro (by omega) ?_
   refine (hI _ _).2 ⟨acc,w,?_,?_,?_,?_,?_,?_,?_,?_,?_,?_,?_⟩
   .exact ho
   .omega
   all_goals exact cl0
  ·rw [if_neg he,<- laa] at ho
   simp -implicitDefEqProofs (disch:=omega) only [h2,h3,h8,h9,h10,hh2_0,hh2_1,hh3_0,hh3_1,hlt,hm,he,go_sem,↓reduceIte,rA,rS,rE,rL,reduceCtorEq]
   try refine And.intro (by omega) ?_
   refine (hI _ _).2 ⟨acc ++ [⟨c.group,IntKind.i64.wrap (c.file + c.anon)⟩],w + 1,?_,?_,?_,?_,?_,?_,?_,?_,?_,?_,?_⟩
   .exact ho
   .exact by simp; omega
   all_goals exact cl0
 ·rw [ldl (by omega)] at ho
  rw [show cntW [] = [] from rfl,lan] at ho
  simp -implicitDefEqProofs (disch:=omega) only [h2,h3,h8,h9,h10,hh2_0,hh2_1,hh3_0,hh3_1,hge,go_sem,↓reduceIte,rA,rS,rE,rL,reduceCtorEq]
  rw [ho]
theorem PutS_0 {t : Tr} {sw : Stk} {h : Hg} (a : validS t sw = true) (b : (findN t.nodes h.group).isSome = true) (c : pagesH h = true) (d : validS t ⟨putS sw.hs h,sw.size⟩ = true) : PutS t sw h = (⟨putS sw.hs h,sw.size⟩,0):=by
 unfold PutS
 rw [if_pos a,if_pos b,if_pos c,if_pos d]
theorem PutS_7 {t : Tr} {sw : Stk} {h : Hg} (a : validS t sw = true) (b : (findN t.nodes h.group).isSome = true) (c : pagesH h = true) (d : ¬ validS t ⟨putS sw.hs h,sw.size⟩ = true) : PutS t sw h = (⟨[],0⟩,7):=by
 unfold PutS
 rw [if_pos a,if_pos b,if_pos c,if_neg d]
theorem PutS_3 {t : Tr} {sw : Stk} {h : Hg} (a : validS t sw = true) (b : (findN t.nodes h.group).isSome = true) (c : ¬ pagesH h = true) : PutS t sw h = (⟨[],0⟩,3):=by
 unfold PutS
 rw [if_pos a,if_pos b,if_neg c]
theorem PutS_4 {t : Tr} {sw : Stk} {h : Hg} (a : validS t sw = true) (b : ¬ (findN t.nodes h.group).isSome = true) : PutS t sw h = (⟨[],0⟩,4):=by
 unfold PutS
 rw [if_pos a,if_neg b]
theorem PutS_1 {t : Tr} {sw : Stk} {h : Hg} (a : ¬ validS t sw = true) : PutS t sw h = (⟨[],0⟩,1):=by
 unfold PutS
 rw [if_neg a]
set_option maxHeartbeats 2000000 in
theorem sPut_eq (t : Tr) (sw : Stk) (h : Hg) (hf : t.Fits) (hn : t.nodes.length < 1000000) (hl : sw.hs.length < 900000) : V 28 [t.vv,sw.vv,h.vv] [] = some (.tup [Stk.fv (PutS t sw h).1,.p (.int .i64 (PutS t sw h).2)],[]):=by
 refine V_wp (vf:=vf28) rfl ?_
 have hck:=scheck_eq t sw h.group hf hn (by omega)
 unfold checkS at hck
 have p1:=spages_eq h.file
 have p2:=spages_eq h.anon
 have p3:=spages_eq h.swap
 have hput:=sput_eq sw h (by omega)
 have hrl:=putS_length sw.hs h
 have hv:=svalid_eq t ⟨putS sw.hs h,sw.size⟩ hf hn (by simp only; omega)
 by_cases h1 : validS t sw = true
 ·by_cases h2 : (findN t.nodes h.group).isSome = true
  ·rw [h1,h2] at hck
   by_cases q1 : pagesB h.file = true
   ·rw [q1] at p1
    by_cases q2 : pagesB h.anon = true
    ·rw [q2] at p2
     by_cases q3 : pagesB h.swap = true
     ·rw [q3] at p3
      by_cases q4 : validS t ⟨putS sw.hs h,sw.size⟩ = true
      ·rw [PutS_0 h1 h2 (by simp [q1,q2,q3]) q4]
       rw [q4] at hv
       generalize putS sw.hs h = y at *
       simp only [Stk.vv,Stk.fv,Hg.vv] at hck hput hv p1 p2 p3 ⊢
       simp -implicitDefEqProofs (disch:=omega) only [vf28,vb28,hck,p1,p2,p3,hput,hv,go_sem,↓reduceIte,rA,rS,rE,rL,reduceCtorEq]
      ·rw [PutS_7 h1 h2 (by simp [q1,q2,q3]) q4]
       rw [Bool.not_eq_true] at q4
       rw [q4] at hv
       generalize putS sw.hs h = y at *
       simp only [Stk.vv,Stk.fv,Hg.vv] at hck hput hv p1 p2 p3 ⊢
       simp -implicitDefEqProofs (disch:=omega) only [vf28,vb28,hck,p1,p2,p3,hput,hv,go_sem,↓reduceIte,rA,rS,rE,rL,reduceCtorEq]
       try rfl
     ·rw [PutS_3 h1 h2 (by simp [q3])]
      rw [Bool.not_eq_true] at q3
      rw [q3] at p3
      simp -implicitDefEqProofs (disch:=omega) only [vf28,vb28,hck,p1,p2,p3,go_sem,↓reduceIte,rA,rS,rE,rL,reduceCtorEq]
      try rfl
    ·rw [PutS_3 h1 h2 (by simp [q2])]
     rw [Bool.not_eq_true] at q2
     rw [q2] at p2
     simp -implicitDefEqProofs (disch:=omega) only [vf28,vb28,hck,p1,p2,go_sem,↓reduceIte,rA,rS,rE,rL,reduceCtorEq]
     try rfl
   ·rw [PutS_3 h1 h2 (by simp [q1])]
    rw [Bool.not_eq_true] at q1
    rw [q1] at p1
    simp -implicitDefEqProofs (disch:=omega) only [vf28,vb28,hck,p1,go_sem,↓reduceIte,rA,rS,rE,rL,reduceCtorEq]
    try rfl
  ·rw [PutS_4 h1 h2]
   rw [Bool.not_eq_true] at h2
   rw [h1,h2] at hck
   have e4 : decide ((4 : Int) = 0) = false:=rfl
   simp -implicitDefEqProofs (disch:=omega) only [vf28,vb28,hck,e4,go_sem,↓reduceIte,rA,rS,rE,rL,reduceCtorEq]
   try rfl
 ·rw [PutS_1 h1]
  rw [Bool.not_eq_true] at h1
  rw [h1] at hck
  have e1 : decide ((1 : Int) = 0) = false:=rfl
  simp -implicitDefEqProofs (disch:=omega) only [vf28,vb28,hck,e1,go_sem,↓reduceIte,rA,rS,rE,rL,reduceCtorEq]
  try rfl
def SwappedS (t : Tr) (sw : Stk) (id : Int) : Int × Int:=if validS t sw then (if (findN t.nodes id).isSome then (swT t sw.hs id,0) else (0,4)) else (0,1)
set_option maxHeartbeats 2000000 in
theorem sSwapped_eq (t : Tr) (sw : Stk) (id : Int) (hf : t.Fits) (hn : t.nodes.length < 1000000) (hl : sw.hs.length < 1000000) : V 29 [t.vv,sw.vv,.p (.int .i64 id)] [] = some (.tup [.p (.int .i64 (SwappedS t sw id).1),.p (.int .i64 (SwappedS t sw id).2)],[]):=by
 refine V_wp (vf:=vf29) rfl ?_
 have hck:=scheck_eq t sw id hf hn hl
 unfold checkS at hck
 unfold SwappedS
 have e4 : decide ((4 : Int) = 0) = false:=rfl
 have e1 : decide ((1 : Int) = 0) = false:=rfl
 by_cases h1 : validS t sw = true
 ·have hS:=(validS_iff t sw).1 h1
  have hsw:=sswapped_eq hS.tree sw id hl hS.swp
  rw [h1] at hck ⊢
  by_cases h2 : (findN t.nodes id).isSome = true
  ·rw [h2] at hck ⊢
   simp -implicitDefEqProofs (disch:=omega) only [vf29,vb29,hck,hsw,go_sem,↓reduceIte,rA,rS,rE,rL,reduceCtorEq]
  ·rw [Bool.not_eq_true] at h2
   rw [h2] at hck ⊢
   simp -implicitDefEqProofs (disch:=omega) only [vf29,vb29,hck,e4,go_sem,↓reduceIte,rA,rS,rE,rL,reduceCtorEq]
   try rfl
 ·rw [Bool.not_eq_true] at h1
  rw [h1] at hck ⊢
  simp -implicitDefEqProofs (disch:=omega) only [vf29,vb29,hck,e1,go_sem,↓reduceIte,rA,rS,rE,rL,reduceCtorEq]
  try rfl
set_option maxHeartbeats 2000000 in
theorem rSwapped_eq (t : Tr) (sw : Stk) (id : Int) (hn : t.nodes.length < 1000000) (hl : sw.hs.length < 1000000) : V 30 [t.vv,sw.vv,.p (.int .i64 id)] [] = some (.tup [.p (.int .i64 (SwappedS t sw id).1),.p (.int .i64 (SwappedS t sw id).2)],[]):=by
 refine V_wp (vf:=vf30) rfl ?_
 have hv:=rsvalid_eq t sw hn hl
 have hh:=rhas_eq t id hn
 unfold SwappedS
 by_cases h1 : validS t sw = true
 ·have hS:=(validS_iff t sw).1 h1
  have hsw:=rout_eq hS.tree sw id hl hS.swp
  rw [findT_ok ((treeOk_iff t).2 hS.tree)] at hh
  rw [h1] at hv ⊢
  by_cases h2 : (findN t.nodes id).isSome = true
  ·rw [h2] at hh ⊢
   simp -implicitDefEqProofs (disch:=omega) only [vf30,vb30,hv,hh,hsw,go_sem,↓reduceIte,rA,rS,rE,rL,reduceCtorEq]
  ·rw [Bool.not_eq_true] at h2
   rw [h2] at hh ⊢
   simp -implicitDefEqProofs (disch:=omega) only [vf30,vb30,hv,hh,go_sem,↓reduceIte,rA,rS,rE,rL,reduceCtorEq]
   try rfl
 ·rw [Bool.not_eq_true] at h1
  rw [h1] at hv ⊢
  simp -implicitDefEqProofs (disch:=omega) only [vf30,vb30,hv,go_sem,↓reduceIte,rA,rS,rE,rL,reduceCtorEq]
  try rfl
set_option maxHeartbeats 2000000 in
theorem rRoom_eq (t : Tr) (sw : Stk) (l : List Ch) (id : Int) (hn : t.nodes.length < 1000000) (hl : sw.hs.length < 1000000) (hll : l.length < 1000000) : V 40 [t.vv,sw.vv,.p (chsP l),.p (.int .i64 id)] [] = some (.tup [.p (.int .i64 (RoomS t sw l id).1),.p (.int .i64 (RoomS t sw l id).2)],[]):=by
 refine V_wp (vf:=vf40) rfl ?_
 have hv:=rsvalid_eq t sw hn hl
 have hlv:=rlimits_eq t l hn hll
 have hh:=rhas_eq t id hn
 unfold RoomS
 by_cases h1 : validS t sw = true
 ·have hS:=(validS_iff t sw).1 h1
  rw [findT_ok ((treeOk_iff t).2 hS.tree)] at hh
  rw [h1] at hv ⊢
  by_cases h3 : validLK t l = true
  ·have hL:=LimOk.of ((validLK_iff t l).1 h3).2
   rw [h3] at hlv ⊢
   by_cases h2 : (findN t.nodes id).isSome = true
   ·obtain ⟨m,hm,he⟩:=findN_some h2
    obtain ⟨j,hj⟩:=lgm hm
    have hr:=rroom25_eq hS hL hll (id:=id) ⟨j,m,hj,he⟩
    rw [h2] at hh ⊢
    simp -implicitDefEqProofs (disch:=omega) only [vf40,vb40,hv,hlv,hh,hr,go_sem,↓reduceIte,rA,rS,rE,rL,reduceCtorEq]
   ·rw [Bool.not_eq_true] at h2
    rw [h2] at hh ⊢
    simp -implicitDefEqProofs (disch:=omega) only [vf40,vb40,hv,hlv,hh,go_sem,↓reduceIte,rA,rS,rE,rL,reduceCtorEq]
    try rfl
  ·rw [Bool.not_eq_true] at h3
   rw [h3] at hlv ⊢
   simp -implicitDefEqProofs (disch:=omega) only [vf40,vb40,hv,hlv,go_sem,↓reduceIte,rA,rS,rE,rL,reduceCtorEq]
   try rfl
 ·rw [Bool.not_eq_true] at h1
  rw [h1] at hv ⊢
  simp -implicitDefEqProofs (disch:=omega) only [vf40,vb40,hv,go_sem,↓reduceIte,rA,rS,rE,rL,reduceCtorEq]
  try rfl
set_option maxHeartbeats 2000000 in
theorem rRemove_eq (t : Tr) (sw : Stk) (id : Int) (hn : t.nodes.length < 1000000) (hl : sw.hs.length < 900000) : V 43 [t.vv,sw.vv,.p (.int .i64 id)] [] = some (.tup [Stk.fv (RemS t sw id).1,.p (.int .i64 (RemS t sw id).2)],[]):=by
 refine V_wp (vf:=vf43) rfl ?_
 have hv:=rsvalid_eq t sw hn (by omega)
 have hle:=rleaves_eq t id hn
 have e40 : ¬ ((4 : Int) = 0):=by omega
 have e30 : ¬ ((3 : Int) = 0):=by omega
 have e60 : ¬ ((6 : Int) = 0):=by omega
 unfold RemS checkS
 cases hvv : validS t sw with
 | false =>
  rw [hvv] at hv
  simp -implicitDefEqProofs (disch:=omega) only [vf43,vb43,hv,go_sem,↓reduceIte,rA,rS,rE,rL,reduceCtorEq]
  try rfl
 | true =>
  rw [hvv] at hv
  have hS:=(validS_iff t sw).1 hvv
  have hT:=hS.tree
  unfold LeavesR at hle
  rw [findT_ok ((treeOk_iff t).2 hT)] at hle
  cases hs : (findN t.nodes id).isSome with
  | false =>
   rw [hs,if_neg (by simp)] at hle
   simp -implicitDefEqProofs (disch:=omega) only [vf43,vb43,hv,hle,e40,go_sem,↓reduceIte,rA,rS,rE,rL,reduceCtorEq]
   try rfl
  | true =>
   rw [hs,if_pos rfl] at hle
   obtain ⟨n,hn',rfl⟩:=findN_some hs
   obtain ⟨i,hi⟩:=lgm hn'
   have hkk : kids t n.id = kidsN t.nodes n.id:=kids_kidsN (by rw [findT_ok ((treeOk_iff t).2 hT)]; exact hs)
   rw [hkk,findN_unique hT.inc hi,Option.getD_some] at hle
   rw [findN_unique hT.inc hi,Option.getD_some]
   by_cases hr : n.id = 1
   ·rw [if_pos hr] at hle ⊢
    simp -implicitDefEqProofs (disch:=omega) only [vf43,vb43,hv,hle,e30,go_sem,↓reduceIte,rA,rS,rE,rL,reduceCtorEq]
    try rfl
   ·rw [if_neg hr] at hle ⊢
    by_cases hz : kidsN t.nodes n.id = []
    ·have hz2 : ¬ (kidsN t.nodes n.id ≠ []):=fun h=>h hz
     rw [if_neg hz2] at hle ⊢
     have g1:=rget_eq sw n.id (by omega)
     have g2:=rget_eq sw n.parent (by omega)
     obtain ⟨⟨a1,a2⟩,⟨a3,a4⟩,a5,a6⟩:=hS.hs.get n.id
     obtain ⟨⟨b1,b2⟩,⟨b3,b4⟩,b5,b6⟩:=hS.hs.get n.parent
     have hw0:=rreplace_eq sw (noH n.id) (by omega)
     have hwl:=putS_length sw.hs (noH n.id)
     have hw1:=rreplace_eq ⟨putS sw.hs (noH n.id),sw.size⟩ (addH (getS sw.hs n.parent) (getS sw.hs n.id)) (by simp only; omega)
     simp only [noH,addH] at hw0 hw1 ⊢
     generalize getS sw.hs n.id = x at g1 a1 a2 a3 a4 a5 a6 hw1
     generalize getS sw.hs n.parent = y at g2 b1 b2 b3 b4 b5 b6 hw1
     generalize putS sw.hs ⟨n.id,0,0,0⟩ = G at hw0 hw1 hwl
     generalize putS G ⟨y.group,y.file + x.file,y.anon + x.anon,y.swap + x.swap⟩ = G2 at hw1
     simp -implicitDefEqProofs (disch:=omega) only [vf43,vb43,hv,hle,g1,g2,hw0,hw1,go_sem,↓reduceIte,rA,rS,rE,rL,reduceCtorEq]
    ·rw [if_pos hz] at hle ⊢
     simp -implicitDefEqProofs (disch:=omega) only [vf43,vb43,hv,hle,e60,go_sem,↓reduceIte,rA,rS,rE,rL,reduceCtorEq]
     try rfl
def addSh (a x : Sh) : Sh:=⟨a.group,a.file + x.file,a.anon + x.anon,a.low + x.low⟩
def noteL : List Sh -> Sh -> List Sh
 | [],x=>[x]
 | a :: l,x=>if a.group < x.group then a :: noteL l x else if a.group = x.group then addSh a x :: l else x :: a :: l
def takeX (out low : Bool) (g n : Int) : Sh:=⟨g,if out then 0 else n,if out then n else 0,if low then n else 0⟩
theorem noteL_front {l : List Sh} {x : Sh} (h : ∀ a ∈ l,x.group < a.group) : noteL l x = x :: l:=by
 cases l with
 | nil=>rfl
 | cons a l =>
  have:=h a (by simp)
  rw [noteL,if_neg (by omega),if_neg (by omega)]
theorem noteL_set : ∀ {l : List Sh} {x a : Sh} {k : Nat},(∀ (j : Nat) (b : Sh),j < k -> l[j]? = some b -> b.group < x.group) -> l[k]? = some a -> a.group = x.group -> noteL l x = l.set k (addSh a x)
 | [],_,_,_,_,h,_=>by simp at h
 | b :: l,x,a,0,_,h,hg=>by
  simp only [List.getElem?_cons_zero,osi] at h
  subst h
  rw [noteL,if_neg (by omega),if_pos hg]
  rfl
 | b :: l,x,a,k + 1,hj,h,hg=>by
  have h0:=hj 0 b (by omega) rfl
  rw [noteL,if_pos h0,noteL_set (k:=k) (fun j c hjk hc=>hj (j + 1) c (by omega) (by simpa using hc)) (by simpa using h) hg]
  rfl
theorem noteL_ins : ∀ {l : List Sh} {x : Sh} {k : Nat},(∀ (j : Nat) (b : Sh),j < k -> l[j]? = some b -> b.group < x.group) -> k <= l.length -> (∀ a,l[k]? = some a -> x.group < a.group) -> noteL l x = l.take k ++ x :: l.drop k
 | [],_,k,_,hk,_=>by
  obtain rfl : k = 0:=by simpa using hk
  rfl
 | b :: l,x,0,_,_,h=>by
  have:=h b rfl
  rw [noteL,if_neg (by omega),if_neg (by omega)]
  rfl
 | b :: l,x,k + 1,hj,hk,h=>by
  have h0:=hj 0 b (by omega) rfl
  rw [noteL,if_pos h0,noteL_ins (k:=k) (fun j c hjk hc=>hj (j + 1) c (by omega) (by simpa using hc)) (by simpa using hk) fun a ha=>h a (by simpa using ha)]
  rfl
theorem outL_cons2 (f : Int -> Sh) (e : Pr) (eff : List Pr) : outL f (e :: eff) = (if (f e.group).group = 0 then [] else [f e.group]) ++ outL f eff:=by
 unfold outL
 rw [lpc]
 by_cases h : (f e.group).group = 0 <;> simp [h]
theorem outL_mem2 {f : Int -> Sh} (hf : ∀ x,f x = zeroSh \/ (f x).group = x) {eff : List Pr} {k : Sh} (hk : k ∈ outL f eff) : ∃ e ∈ eff,k = f e.group /\ k.group = e.group:=by
 unfold outL at hk
 obtain ⟨h1,h2⟩:=List.mem_filter.1 hk
 obtain ⟨e,he,rfl⟩:=lmm.1 h1
 refine ⟨e,he,rfl,?_⟩
 rcases hf e.group with h | h
 ·rw [h] at h2
  simp [zeroSh] at h2
 .exact h
theorem outL_congr2 {f g : Int -> Sh} : ∀ {eff : List Pr},(∀ e ∈ eff,f e.group = g e.group) -> outL f eff = outL g eff:=by
 intro eff h
 unfold outL
 rw [List.map_congr_left h]
theorem noteL_out {f : Int -> Sh} (hf : ∀ x,f x = zeroSh \/ (f x).group = x) {g : Int} (out low : Bool) (n : Int) : ∀ {eff : List Pr},(eff.Pairwise fun a b=>a.group < b.group) -> (∀ e ∈ eff,e.group ≠ 0) -> g ∈ eff.map (·.group) -> noteL (outL f eff) (takeX out low g n) = outL (fun x=>if x = g then takeK out low g (f g) n else f x) eff
 | [],_,_,hg=>by simp at hg
 | e :: eff,hi,hz,hg=>by
  obtain ⟨h1,h2⟩:=lpw.1 hi
  rw [outL_cons2,outL_cons2]
  have he0:=hz e (by simp)
  by_cases heg : e.group = g
  ·have hrest : outL (fun x=>if x = g then takeK out low g (f g) n else f x) eff = outL f eff:=outL_congr2 fun e' he'=>by
    have:=h1 e' he'
    rw [if_neg (by omega)]
   rw [hrest,heg]
   simp only [if_true]
   rw [if_neg (show ¬ (takeK out low g (f g) n).group = 0 by show ¬ g = 0; omega)]
   rcases hf g with h | h
   ·rw [h,if_pos (by rfl),lna,noteL_front fun a ha=>by
     obtain ⟨e',he',_,hk⟩:=outL_mem2 hf ha
     have:=h1 e' he'
     show g < a.group
     omega]
    cases out <;> cases low <;> simp [takeX,takeK,zeroSh]
   ·rw [if_neg (by omega),List.singleton_append,noteL,if_neg (by rw [h]; show ¬ g < g; omega),if_pos (by rw [h]; rfl)]
    simp only [List.singleton_append]
    congr 1
    unfold addSh takeK takeX
    rw [h]
    cases out <;> cases low <;> simp
  ·have hg' : g ∈ eff.map (·.group):=by
    rw [lpc,lmk] at hg
    rcases hg with h | h
    ·exact absurd h.symm heg
    ·exact h
   have hlt : e.group < g:=by
    obtain ⟨e',he',rfl⟩:=lmm.1 hg'
    exact h1 e' he'
   have ih:=noteL_out hf (g:=g) out low n h2 (fun e' he'=>hz e' (by simp [he'])) hg'
   rw [if_neg heg]
   by_cases h0 : (f e.group).group = 0
   ·rw [if_pos h0,lna,lna,ih]
   ·rw [if_neg h0,List.singleton_append,List.singleton_append,noteL,if_pos,ih]
    rcases hf e.group with h | h
    ·rw [h] at h0
     exact absurd rfl h0
    ·rw [h]
     exact hlt
def noteR : List Sh -> Sh -> Nat
 | [],_=>1
 | a :: l,x=>if a.group < x.group then noteR l x else if a.group = x.group then 0 else 1
def noteO (r : Nat) (l : List Sh) : Ob:=if r = 0 then .arr 4 (l.map Sh.pv) else .box [.undef,.fresh 4 (l.map Sh.pv)]
theorem noteR_or : ∀ (l : List Sh) (x : Sh),noteR l x = 0 \/ noteR l x = 1
 | [],_=>.inr rfl
 | a :: l,x=>by
  unfold noteR
  split
  ·exact noteR_or l x
  ·split
   .exact .inl rfl
   .exact .inr rfl
theorem noteR_set : ∀ {l : List Sh} {x a : Sh} {k : Nat},(∀ (j : Nat) (b : Sh),j < k -> l[j]? = some b -> b.group < x.group) -> l[k]? = some a -> a.group = x.group -> noteR l x = 0
 | [],_,_,_,_,h,_=>by simp at h
 | b :: l,x,a,0,_,h,hg=>by
  simp only [List.getElem?_cons_zero,osi] at h
  subst h
  rw [noteR,if_neg (by omega),if_pos hg]
 | b :: l,x,a,k + 1,hj,h,hg=>by
  have h0:=hj 0 b (by omega) rfl
  rw [noteR,if_pos h0,noteR_set (k:=k) (fun j c hjk hc=>hj (j + 1) c (by omega) (by simpa using hc)) (by simpa using h) hg]
theorem noteR_ins : ∀ {l : List Sh} {x : Sh} {k : Nat},(∀ (j : Nat) (b : Sh),j < k -> l[j]? = some b -> b.group < x.group) -> k <= l.length -> (∀ a,l[k]? = some a -> x.group < a.group) -> noteR l x = 1
 | [],_,k,_,hk,_=>rfl
 | b :: l,x,0,_,_,h=>by
  have:=h b rfl
  rw [noteR,if_neg (by omega),if_neg (by omega)]
 | b :: l,x,k + 1,hj,hk,h=>by
  have h0:=hj 0 b (by omega) rfl
  rw [noteR,if_pos h0,noteR_ins (k:=k) (fun j c hjk hc=>hj (j + 1) c (by omega) (by simpa using hc)) (by simpa using hk) fun a ha=>h a (by simpa using ha)]
def inS (n : Int) : Prop:=0 <= n /\ n <= 1073741824
set_option maxHeartbeats 4000000 in
theorem rnote_eq (l : List Sh) (x : Sh) (hl : l.length < 1000000) (hb : ∀ a ∈ l,inS (a.file + x.file) /\ inS (a.anon + x.anon) /\ inS (a.low + x.low)) : V 95 [.own (.arg 0 0) 0 0 l.length,x.vv] [.arr 4 (l.map Sh.pv)] = some (.own (.arg 0 0) (noteR l x) 0 (noteL l x).length,[noteO (noteR l x) (noteL l x)]):=by
 refine V_wp (vf:=vf95) rfl ?_
 simp -implicitDefEqProofs (disch:=omega) only [vf95,vb95,go_sem,↓reduceIte,rA,rS,rE,rL,reduceCtorEq]
 obtain ⟨I,hI⟩ : ∃ I : Nat -> St -> Prop,∀ k s,I k s ↔ (∀ (j : Nat) (b : Sh),j < k -> l[j]? = some b -> b.group < x.group) /\ s.pe 0 = .own (.arg 0 0) 0 0 l.length /\ s.pe 3 = .ptr (.slot 3 0) 0 0 /\ s.pe 5 = .p (.int .i64 k) /\ s.h (.arg 0 0) = some (0,Ob.arr 4 (l.map Sh.pv)) /\ s.h (.slot 3 0) = some (0,Ob.box [.p (.int .i64 x.group),.p (.int .i64 x.file),.p (.int .i64 x.anon),.p (.int .i64 x.low)]):=⟨_,fun _ _=>Iff.rfl⟩
 refine wp_count (l.length) I ?_ ?_
 ·refine (hI _ _).2 ⟨?_,?_,?_,?_,?_,?_⟩
  ·exact fun j b hj=>by omega
  all_goals exact cl0
 intro k s hk hIk
 obtain ⟨hlo,h0,h3,h5,ha0,hh3_0⟩:=(hI _ _).1 hIk
 clear hIk
 have hins : (∀ a,l[k]? = some a -> x.group < a.group) -> (l.take k ++ x :: l.drop k).length = l.length + 1:=fun _=>by
  rw [lla,llc,llt,lld]
  omega
 by_cases hlt : k < l.length
 ·have hlt' : (k : Int) < (l.length : Int):=by omega
  have hm : l[k]? = some l[k]:=lgg hlt
  obtain ⟨⟨b1,b2⟩,⟨b3,b4⟩,b5,b6⟩:=hb _ (lgk hlt)
  generalize l[k] = a at hm b1 b2 b3 b4 b5 b6
  by_cases hg : a.group < x.group
  ·have hlo2 : ∀ (j : Nat) (b : Sh),j < k + 1 -> l[j]? = some b -> b.group < x.group:=fun j b hj hb'=>by
    rcases Nat.lt_or_ge j k with h | h
    ·exact hlo j b h hb'
    ·obtain rfl : j = k:=by omega
     rw [hm] at hb'
     cases hb'
     exact hg
   simp -implicitDefEqProofs (disch:=omega) only [h0,h3,h5,ha0,hh3_0,hlt,hlt',hm,hg,Sh.pv,go_sem,↓reduceIte,rA,rS,rE,rL,reduceCtorEq]
   try refine And.intro (by omega) ?_
   refine (hI _ _).2 ⟨?_,?_,?_,?_,?_,?_⟩
   ·exact hlo2
   all_goals exact cl0
  ·by_cases he : a.group = x.group
   ·rw [noteR_set hlo hm he,noteL_set hlo hm he]
    have hset : ∀ (q : Sh) (ys : List Sh),(List.map Sh.pv ys).set k (.agg [.int .i64 q.group,.int .i64 q.file,.int .i64 q.anon,.int .i64 q.low]) = List.map Sh.pv (ys.set k q):=fun q ys=>by rw [List.map_set]; rfl
    have hget : ∀ q : Sh,(List.map Sh.pv (l.set k q))[k]? = some (.agg [.int .i64 q.group,.int .i64 q.file,.int .i64 q.anon,.int .i64 q.low]):=fun q=>by
     rw [List.getElem?_map,List.getElem?_set_self (by omega)]
     rfl
    have hgd : (List.map Sh.pv l)[k]? = some (.agg [.int .i64 a.group,.int .i64 a.file,.int .i64 a.anon,.int .i64 a.low]):=by rw [List.getElem?_map,hm]; rfl
    have s1:=hset ⟨a.group,a.file + x.file,a.anon,a.low⟩ l
    have q1:=hget ⟨a.group,a.file + x.file,a.anon,a.low⟩
    have s2:=hset ⟨a.group,a.file + x.file,a.anon + x.anon,a.low⟩ (l.set k ⟨a.group,a.file + x.file,a.anon,a.low⟩)
    have q2:=hget ⟨a.group,a.file + x.file,a.anon + x.anon,a.low⟩
    have s3:=hset ⟨a.group,a.file + x.file,a.anon + x.anon,a.low + x.low⟩ (l.set k ⟨a.group,a.file + x.file,a.anon + x.anon,a.low⟩)
    simp only [List.set_set] at s1 q1 s2 q2 s3
    have hY : l.set k (addSh a x) = l.set k ⟨a.group,a.file + x.file,a.anon + x.anon,a.low + x.low⟩:=rfl
    rw [hY]
    have hYl : (l.set k ⟨a.group,a.file + x.file,a.anon + x.anon,a.low + x.low⟩).length = l.length:=List.length_set
    generalize l.set k ⟨a.group,a.file + x.file,a.anon,a.low⟩ = Y1 at *
    generalize l.set k ⟨a.group,a.file + x.file,a.anon + x.anon,a.low⟩ = Y2 at *
    generalize l.set k ⟨a.group,a.file + x.file,a.anon + x.anon,a.low + x.low⟩ = Y3 at *
    have hge : ¬ x.group < x.group:=by omega
    rw [he] at hgd s1 q1 s2 q2 s3
    simp -implicitDefEqProofs (disch:=omega) only [h0,h3,h5,ha0,hh3_0,hlt,hlt',hgd,he,hge,s1,q1,s2,q2,s3,go_sem,↓reduceIte,rA,rS,rE,rL,reduceCtorEq]
    rw [hYl]
    rfl
   ·have hgt : ∀ b,l[k]? = some b -> x.group < b.group:=fun b hb'=>by
     rw [hm] at hb'
     cases hb'
     omega
    have hge : ¬ x.group < x.group:=by omega
    rw [noteR_ins hlo (by omega) hgt,noteL_ins hlo (by omega) hgt]
    simp -implicitDefEqProofs (disch:=omega) only [h0,h3,h5,ha0,hh3_0,hlt,hlt',hm,hg,he,Sh.pv,go_sem,↓reduceIte,rA,rS,rE,rL,reduceCtorEq]
    refine Prod.ext (congrArg (VVal.own (Id.arg 0 0) 1 0) (by first | (simp; done) | (simp; omega))) (congrArg (fun q=>[Ob.box [VVal.undef,VVal.fresh 4 q]]) ?_)
    have e1 : List.take (l.length - k) (List.drop k (List.map Sh.pv l)) = List.map Sh.pv (l.drop k):=by
     rw [<- List.map_drop]
     exact ltl (by simp)
    rw [e1,lma,lpc,List.map_take,Nat.sub_zero]
    congr 1
    exact ltl (by first | (simp; done) | (simp; omega))
 ·have hlt' : ¬ (k : Int) < (l.length : Int):=by omega
  obtain rfl : k = l.length:=by omega
  have hgt : ∀ b,l[l.length]? = some b -> x.group < b.group:=fun b hb'=>by
   rw [List.getElem?_eq_none (lrf _)] at hb'
   cases hb'
  rw [noteR_ins hlo (lrf _) hgt,noteL_ins hlo (lrf _) hgt]
  simp -implicitDefEqProofs (disch:=omega) only [h0,h3,h5,ha0,hh3_0,hlt,hlt',go_sem,↓reduceIte,rA,rS,rE,rL,reduceCtorEq]
  refine Prod.ext (congrArg (VVal.own (Id.arg 0 0) 1 0) (by first | (simp; done) | (simp; omega))) (congrArg (fun q=>[Ob.box [VVal.undef,VVal.fresh 4 q]]) ?_)
  have e1 : List.take (l.length - l.length) (List.drop l.length (List.map Sh.pv l)) = List.map Sh.pv (l.drop l.length):=by
   rw [<- List.map_drop]
   exact ltl (by simp)
  rw [e1,lma,lpc,List.map_take,Nat.sub_zero]
  congr 1
  exact ltl (by first | (simp; done) | (simp; omega))
end Go.V
