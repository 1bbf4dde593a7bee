/- Part 7 of the proof. -/
import Derived.Test.YtkgkbbpakjdemaaGreatDoorA6
set_option linter.unusedSectionVars false
set_option linter.unusedSimpArgs false
set_option linter.unusedVariables false
open Nat renaming reduceAdd → rA, reduceSub → rS, reduceEqDiff → rE, reduceLeDiff → rL, le_refl → lrf
open List renaming getElem?_eq_getElem → lgg, mem_of_getElem? → lmg, map_cons → lpc, mem_map → lmm, take_of_length_le → ltl, map_nil → lpn, length_map → llm
open Bool renaming and_eq_true → bat, and_self → bas
namespace Go.V
theorem wtN_eq (L : List Int) (a : Nat) (hL : L.length < 4611686018427387904) : V 24 [.ptr (.arg 0 0) 0 0] [diceB L a] = some (.p (.int .i64 (wtN L a)),[diceB L (nextA L (nextA L a 1000) 8)]):=by
 refine V_wp (vf:=vf24) rfl ?_
 have h1:=next_eq L a 1000 hL (by omega)
 have a0:=nextV_nonneg L a 1000
 have a1:=nextV_lt L a (n:=1000) (by omega)
 have h2:=next_eq L (nextA L a 1000) 8 hL (by omega)
 have b0:=nextV_nonneg L (nextA L a 1000) 8
 have b1:=nextV_lt L (nextA L a 1000) (n:=8) (by omega)
 unfold wtN
 generalize nextV L a 1000 = x at h1 a0 a1
 generalize nextV L (nextA L a 1000) 8 = y at h2 b0 b1
 generalize nextA L (nextA L a 1000) 8 = a2 at h2
 generalize nextA L a 1000 = a1' at h1 h2
 have hm : (wtL x)[y.toNat]? = some ((wtL x).getD y.toNat 0):=by
  rw [List.getD_eq_getElem?_getD,lgg (by simp [wtL]; omega)]; rfl
 generalize (wtL x).getD y.toNat 0 = z at hm
 have hm' : ([PV.int .i64 1,.int .i64 100,.int .i64 300,.int .i64 10000,.int .i64 50,.int .i64 200,.int .i64 7,.int .i64 (1 + x)] : List PV)[y.toNat]? = some (.int .i64 z):=by
  have : ((wtL x).map (PV.int .i64))[y.toNat]? = some (.int .i64 z):=by rw [List.getElem?_map,hm]; rfl
  exact this
 have hlt : y.toNat < 8:=by omega
 simp -implicitDefEqProofs (disch:=omega) only [vf24,vb24,h1,h2,hm',hlt,go_sem,↓reduceIte,rA,rS,rE,rL,reduceCtorEq]
theorem dmem_eq : V 40 [] [] = some (.agg memD,[]):=by
 refine V_wp (vf:=vf40) rfl ?_
 simp -implicitDefEqProofs (disch:=omega) only [vf40,vb40,go_sem,↓reduceIte,rA,rS,rE,rL,reduceCtorEq]
theorem ddev_eq : V 41 [] [] = some (.fresh 7 [],[]):=by
 refine V_wp (vf:=vf41) rfl ?_
 simp -implicitDefEqProofs (disch:=omega) only [vf41,vb41,go_sem,↓reduceIte,rA,rS,rE,rL,reduceCtorEq]
abbrev stD : List VVal:=[.p (.int .i64 4611686018427387904),.p (.int .i64 100),.p (.int .i64 4611686018427387904),.p (.int .i64 100000),.p (.int .i64 0),.p (.int .i64 0),.p (.int .i64 10000),.fresh 1 [],.fresh 1 [],.p (.int .i64 0),.p (.int .i64 0),.p (.int .i64 0),.p (.int .i64 4611686018427387904),.p (.int .i64 4611686018427387904),.p (.int .i64 4611686018427387904),.p (.bool false),.fresh 7 []]
theorem default_eq : V 21 [] [] = some (.agg stD,[]):=by
 refine V_wp (vf:=vf21) rfl ?_
 simp -implicitDefEqProofs (disch:=omega) only [vf21,vb21,dmem_eq,ddev_eq,go_sem,↓reduceIte,rA,rS,rE,rL,reduceCtorEq]
abbrev stO0 (i : Nat) : List VVal:=[.p (.int .i64 0),.p (.int .i64 0),.p (.int .i64 0),.p (.int .i64 0),.p (.int .i64 0),.p (.int .i64 0),.p (.int .i64 0),.own (.slot i 8) 0 0 0,.own (.slot i 9) 0 0 0,.p (.int .i64 0),.p (.int .i64 0),.p (.int .i64 0),.p (.int .i64 0),.p (.int .i64 0),.p (.int .i64 0),.p (.bool false),.own (.slot i 17) 0 0 0]
abbrev stO4 : List VVal:=[.p (.int .i64 4611686018427387904),.p (.int .i64 100),.p (.int .i64 4611686018427387904),.p (.int .i64 100000),.p (.int .i64 0),.p (.int .i64 0),.p (.int .i64 10000),.own (.slot 4 8) 0 0 0,.own (.slot 4 9) 0 0 0,.p (.int .i64 0),.p (.int .i64 0),.p (.int .i64 0),.p (.int .i64 4611686018427387904),.p (.int .i64 4611686018427387904),.p (.int .i64 4611686018427387904),.p (.bool false),.own (.slot 4 17) 0 0 0]
set_option maxHeartbeats 8000000 in
theorem settings_eq (L : List Int) (a : Nat) (hL : L.length < 4611686018427387904) : V 10 [.ptr (.arg 0 0) 0 0] [diceB L a] = some (.agg (stC (dStg L a).1),[diceB L (dStg L a).2]):=by
 refine V_cut (vf:=vf10) rfl rfl ?_
 unfold vf10 vb10
 obtain ⟨M,hM⟩ : ∃ M : Stg -> Nat -> St -> Prop,∀ g a s,M g a s ↔ s.pe 0 = .ptr (.arg 0 0) 0 0 /\ s.pe 2 = .ptr (.slot 2 0) 0 0 /\ s.pe 3 = .ptr (.slot 3 0) 0 0 /\ s.h (.arg 0 0) = some (0,diceB L a) /\ s.h (.slot 3 0) = some (0,.box (stC g)) /\ s.h (.slot 2 0) = some (0,.box (stO0 2)):=⟨_,fun _ _ _=>Iff.rfl⟩
 obtain ⟨N,hN⟩ : ∃ N : St -> Prop,∀ s,N s ↔ s.pe 0 = .ptr (.arg 0 0) 0 0 /\ s.pe 2 = .ptr (.slot 2 0) 0 0 /\ s.pe 3 = .ptr (.slot 3 0) 0 0 /\ s.h (.arg 0 0) = some (0,diceB L a) /\ s.h (.slot 3 0) = some (0,.box stO4) /\ s.h (.slot 2 0) = some (0,.box (stO0 2)) /\ s.h (.slot 4 8) = some (0,.arr 1 []) /\ s.h (.slot 4 9) = some (0,.arr 1 []) /\ s.h (.slot 4 17) = some (0,.arr 7 []):=⟨_,fun _=>Iff.rfl⟩
 have hbo:=fun a=>bool_eq3 L a 2 hL (by omega) (by omega)
 rw [show (2 : Int) - 1 = 1 from rfl] at hbo
 have hnx:=fun a n h=>next_eq L a n hL h
 have n0:=fun a n=>nextV_nonneg L a n
 have n1:=fun a (n : Int) (h : 1 <= n)=>nextV_lt L a h
 have ww : ∀ x : Int,0 <= x -> x < 100000 -> IntKind.i64.wrap (1 + x) = 1 + x:=fun x h1 h2=>wrap64 (by omega) (by omega)
 have ww2 : ∀ x : Int,0 <= x -> x < 100000 -> IntKind.i64.wrap (x + 1) = x + 1:=fun x h1 h2=>wrap64 (by omega) (by omega)
 obtain ⟨K,hK⟩ : ∃ K : St -> Prop,∀ s,K s ↔ s.pe 0 = .ptr (.arg 0 0) 0 0 /\ s.pe 2 = .ptr (.slot 2 0) 0 0 /\ s.h (.arg 0 0) = some (0,diceB L a) /\ s.h (.slot 2 0) = some (0,.box (stO0 2)) /\ (∀ j,s.h (.slot 3 j) = none) /\ (∀ j,s.h (.slot 4 j) = none):=⟨_,fun _=>Iff.rfl⟩
 refine wp_cutN K ?_ ?_
 ·simp -implicitDefEqProofs (disch:=omega) only [go_sem,↓reduceIte,rA,rS,rE,rL,reduceCtorEq]
  exact (hK _).2 ⟨rfl,rfl,rfl,rfl,fun _=>rfl,fun _=>rfl⟩
 intro s hs
 obtain ⟨h0,h2,ha0,hh2,hh3,hh4⟩:=(hK _).1 hs
 clear hs hK K
 refine wp_cutN N ?_ ?_
 ·simp -implicitDefEqProofs (disch:=omega) only [h0,h2,ha0,hh2,hh3,hh4,default_eq,go_sem,↓reduceIte,rA,rS,rE,rL,reduceCtorEq]
  refine (hN _).2 ⟨?_,?_,?_,?_,?_,?_,?_,?_,?_⟩
  all_goals simp -implicitDefEqProofs (disch:=omega) only [h0,h2,ha0,hh2,hh3,hh4,go_sem,↓reduceIte,rA,rS,rE,rL,reduceCtorEq]
 clear h0 h2 ha0 hh2 hh3 hh4 s
 intro s hs
 obtain ⟨h0,h2,h3,ha0,hh3,hh2,hh4,hh5,hh6⟩:=(hN _).1 hs
 clear hs hN N
 refine wp_cutN (M ⟨(dPids L a).1,100,maxI,100000,0,0,10000,[],[],0⟩ (dPids L a).2) ?_ ?_
 ·have b1:=hbo a
  by_cases hc : nextV L a 2 = 1
  ·have e : dPids L a = (nextV L (nextA L a 2) 6,nextA L (nextA L a 2) 6):=if_pos hc
   rw [e]
   have b2:=hnx (nextA L a 2) 6 (by omega)
   simp -implicitDefEqProofs (disch:=omega) only [h0,h2,h3,ha0,hh3,hh2,hh4,hh5,hh6,b1,hc,b2,go_sem,↓reduceIte,rA,rS,rE,rL,reduceCtorEq]
   refine (hM _ _ _).2 ⟨?_,?_,?_,?_,?_,?_⟩
   all_goals (simp -implicitDefEqProofs (disch:=omega) only [h0,h2,h3,ha0,hh3,hh2,hh4,hh5,hh6,lpn,go_sem,↓reduceIte,rA,rS,rE,rL,reduceCtorEq] <;> rfl)
  ·have e : dPids L a = (maxI,nextA L a 2):=if_neg hc
   rw [e]
   simp -implicitDefEqProofs (disch:=omega) only [h0,h2,h3,ha0,hh3,hh2,hh4,hh5,hh6,b1,hc,go_sem,↓reduceIte,rA,rS,rE,rL,reduceCtorEq]
   refine (hM _ _ _).2 ⟨?_,?_,?_,?_,?_,?_⟩
   all_goals (simp -implicitDefEqProofs (disch:=omega) only [h0,h2,h3,ha0,hh3,hh2,hh4,hh5,hh6,lpn,go_sem,↓reduceIte,rA,rS,rE,rL,reduceCtorEq] <;> rfl)
 clear h0 h2 h3 ha0 hh3 hh2 hh4 hh5 hh6 s
 intro s hs
 obtain ⟨h0,h2,h3,ha0,hh3,hh2⟩:=(hM _ _ _).1 hs
 clear hs
 unfold dStg
 simp only
 generalize dPids L a = p at *
 obtain ⟨p,a1⟩:=p
 simp only at *
 refine wp_cutN (M ⟨p,wtN L a1,maxI,100000,0,0,10000,[],[],0⟩ (nextA L (nextA L a1 1000) 8)) ?_ ?_
 ·have b1:=wtN_eq L a1 hL
  simp -implicitDefEqProofs (disch:=omega) only [h0,h2,h3,ha0,hh3,hh2,b1,go_sem,↓reduceIte,rA,rS,rE,rL,reduceCtorEq]
  refine (hM _ _ _).2 ⟨?_,?_,?_,?_,?_,?_⟩
  all_goals (simp -implicitDefEqProofs (disch:=omega) only [h0,h2,h3,ha0,hh3,hh2,lpn,go_sem,↓reduceIte,rA,rS,rE,rL,reduceCtorEq] <;> rfl)
 clear h0 h2 h3 ha0 hh3 hh2 s
 intro s hs
 obtain ⟨h0,h2,h3,ha0,hh3,hh2⟩:=(hM _ _ _).1 hs
 clear hs
 generalize wtN L a1 = w at *
 generalize nextA L (nextA L a1 1000) 8 = a2 at *
 refine wp_cutN (M ⟨p,w,(dQuota L a2).1,100000,(dQuota L a2).2.1,0,10000,[],[],0⟩ (dQuota L a2).2.2) ?_ ?_
 ·have b1:=hbo a2
  by_cases hc : nextV L a2 2 = 1
  ·have e : dQuota L a2 = _:=if_pos hc
   rw [e]
   have b2:=hnx (nextA L a2 2) 9 (by omega)
   have m0:=n0 (nextA L a2 2) 9
   have m1:=n1 (nextA L a2 2) 9 (by omega)
   generalize nextV L (nextA L a2 2) 9 = x at *
   generalize nextA L (nextA L a2 2) 9 = a3 at *
   have w1:=ww x m0 (by omega)
   have w2 : IntKind.i64.wrap (1 + x + 1) = 1 + x + 1:=ww2 (1 + x) (by omega) (by omega)
   have b3:=hnx a3 (1 + x + 1) (by omega)
   simp -implicitDefEqProofs (disch:=omega) only [h0,h2,h3,ha0,hh3,hh2,b1,hc,b2,b3,w1,w2,go_sem,↓reduceIte,rA,rS,rE,rL,reduceCtorEq]
   refine (hM _ _ _).2 ⟨?_,?_,?_,?_,?_,?_⟩
   all_goals (simp -implicitDefEqProofs (disch:=omega) only [h0,h2,h3,ha0,hh3,hh2,lpn,go_sem,↓reduceIte,rA,rS,rE,rL,reduceCtorEq] <;> rfl)
  ·have e : dQuota L a2 = (maxI,0,nextA L a2 2):=if_neg hc
   rw [e]
   simp -implicitDefEqProofs (disch:=omega) only [h0,h2,h3,ha0,hh3,hh2,b1,hc,go_sem,↓reduceIte,rA,rS,rE,rL,reduceCtorEq]
   refine (hM _ _ _).2 ⟨?_,?_,?_,?_,?_,?_⟩
   all_goals (simp -implicitDefEqProofs (disch:=omega) only [h0,h2,h3,ha0,hh3,hh2,lpn,go_sem,↓reduceIte,rA,rS,rE,rL,reduceCtorEq] <;> rfl)
 clear h0 h2 h3 ha0 hh3 hh2 s
 intro s hs
 obtain ⟨h0,h2,h3,ha0,hh3,hh2⟩:=(hM _ _ _).1 hs
 clear hs
 generalize dQuota L a2 = q at *
 obtain ⟨q,b,a3⟩:=q
 simp only at *
 refine wp_cutN (M ⟨p,w,q,1 + nextV L a3 9,b,0,10000,[],[],0⟩ (nextA L a3 9)) ?_ ?_
 ·have b2:=hnx a3 9 (by omega)
  have m0:=n0 a3 9
  have m1:=n1 a3 9 (by omega)
  generalize nextV L a3 9 = x at *
  have w1:=ww x m0 (by omega)
  simp -implicitDefEqProofs (disch:=omega) only [h0,h2,h3,ha0,hh3,hh2,b2,w1,go_sem,↓reduceIte,rA,rS,rE,rL,reduceCtorEq]
  refine (hM _ _ _).2 ⟨?_,?_,?_,?_,?_,?_⟩
  all_goals (simp -implicitDefEqProofs (disch:=omega) only [h0,h2,h3,ha0,hh3,hh2,lpn,go_sem,↓reduceIte,rA,rS,rE,rL,reduceCtorEq] <;> rfl)
 clear h0 h2 h3 ha0 hh3 hh2 s
 intro s hs
 obtain ⟨h0,h2,h3,ha0,hh3,hh2⟩:=(hM _ _ _).1 hs
 clear hs
 generalize 1 + nextV L a3 9 = r at *
 generalize nextA L a3 9 = a4 at *
 refine wp_cutN (M ⟨p,w,q,r,b,nextV L a4 10001,nextV L (nextA L a4 10001) 10001,[],[],0⟩ (nextA L (nextA L a4 10001) 10001)) ?_ ?_
 ·have b2:=hnx a4 10001 (by omega)
  have b3:=hnx (nextA L a4 10001) 10001 (by omega)
  simp -implicitDefEqProofs (disch:=omega) only [h0,h2,h3,ha0,hh3,hh2,b2,b3,go_sem,↓reduceIte,rA,rS,rE,rL,reduceCtorEq]
  refine (hM _ _ _).2 ⟨?_,?_,?_,?_,?_,?_⟩
  all_goals (simp -implicitDefEqProofs (disch:=omega) only [h0,h2,h3,ha0,hh3,hh2,lpn,go_sem,↓reduceIte,rA,rS,rE,rL,reduceCtorEq] <;> rfl)
 clear h0 h2 h3 ha0 hh3 hh2 s
 intro s hs
 obtain ⟨h0,h2,h3,ha0,hh3,hh2⟩:=(hM _ _ _).1 hs
 clear hs
 generalize nextV L (nextA L a4 10001) 10001 = cx at *
 generalize nextA L (nextA L a4 10001) 10001 = a5 at *
 generalize nextV L a4 10001 = cn at *
 refine wp_cutN (M ⟨p,w,q,r,b,cn,cx,(dSome L a5 6).1,[],0⟩ (dSome L a5 6).2) ?_ ?_
 ·have b1:=hbo a5
  by_cases hc : nextV L a5 2 = 1
  ·have e : dSome L a5 6 = setK L (nextA L a5 2) 6:=if_pos hc
   rw [e]
   have b2:=dset_eq L (nextA L a5 2) 6 hL (by omega)
   have e6 : ((6 : Nat) : Int) = 6:=rfl
   rw [e6] at b2
   simp -implicitDefEqProofs (disch:=omega) only [h0,h2,h3,ha0,hh3,hh2,b1,hc,b2,go_sem,↓reduceIte,rA,rS,rE,rL,reduceCtorEq]
   refine (hM _ _ _).2 ⟨?_,?_,?_,?_,?_,?_⟩
   all_goals (simp -implicitDefEqProofs (disch:=omega) only [h0,h2,h3,ha0,hh3,hh2,lpn,go_sem,↓reduceIte,rA,rS,rE,rL,reduceCtorEq] <;> rfl)
  ·have e : dSome L a5 6 = ([],nextA L a5 2):=if_neg hc
   rw [e]
   simp -implicitDefEqProofs (disch:=omega) only [h0,h2,h3,ha0,hh3,hh2,b1,hc,go_sem,↓reduceIte,rA,rS,rE,rL,reduceCtorEq]
   refine (hM _ _ _).2 ⟨?_,?_,?_,?_,?_,?_⟩
   all_goals (simp -implicitDefEqProofs (disch:=omega) only [h0,h2,h3,ha0,hh3,hh2,lpn,go_sem,↓reduceIte,rA,rS,rE,rL,reduceCtorEq] <;> rfl)
 clear h0 h2 h3 ha0 hh3 hh2 s
 intro s hs
 obtain ⟨h0,h2,h3,ha0,hh3,hh2⟩:=(hM _ _ _).1 hs
 clear hs
 generalize dSome L a5 6 = c at *
 obtain ⟨c,c2⟩:=c
 simp only at *
 refine wp_cutN (M ⟨p,w,q,r,b,cn,cx,c,(dSome L c2 4).1,0⟩ (dSome L c2 4).2) ?_ ?_
 ·have b1:=hbo c2
  by_cases hc : nextV L c2 2 = 1
  ·have e : dSome L c2 4 = setK L (nextA L c2 2) 4:=if_pos hc
   rw [e]
   have b2:=dset_eq L (nextA L c2 2) 4 hL (by omega)
   have e4 : ((4 : Nat) : Int) = 4:=rfl
   rw [e4] at b2
   simp -implicitDefEqProofs (disch:=omega) only [h0,h2,h3,ha0,hh3,hh2,b1,hc,b2,go_sem,↓reduceIte,rA,rS,rE,rL,reduceCtorEq]
   refine (hM _ _ _).2 ⟨?_,?_,?_,?_,?_,?_⟩
   all_goals (simp -implicitDefEqProofs (disch:=omega) only [h0,h2,h3,ha0,hh3,hh2,lpn,go_sem,↓reduceIte,rA,rS,rE,rL,reduceCtorEq] <;> rfl)
  ·have e : dSome L c2 4 = ([],nextA L c2 2):=if_neg hc
   rw [e]
   simp -implicitDefEqProofs (disch:=omega) only [h0,h2,h3,ha0,hh3,hh2,b1,hc,go_sem,↓reduceIte,rA,rS,rE,rL,reduceCtorEq]
   refine (hM _ _ _).2 ⟨?_,?_,?_,?_,?_,?_⟩
   all_goals (simp -implicitDefEqProofs (disch:=omega) only [h0,h2,h3,ha0,hh3,hh2,lpn,go_sem,↓reduceIte,rA,rS,rE,rL,reduceCtorEq] <;> rfl)
 clear h0 h2 h3 ha0 hh3 hh2 s
 intro s hs
 obtain ⟨h0,h2,h3,ha0,hh3,hh2⟩:=(hM _ _ _).1 hs
 clear hs
 generalize dSome L c2 4 = m at *
 obtain ⟨m,m2⟩:=m
 simp only at *
 have hb3:=bool_eq3 L m2 3 hL (by omega) (by omega)
 rw [show (3 : Int) - 1 = 2 from rfl] at hb3
 refine wp_cutN (M ⟨p,w,q,r,b,cn,cx,c,m,if nextV L m2 3 = 2 then 1 else 0⟩ (nextA L m2 3)) ?_ ?_
 ·by_cases hc : nextV L m2 3 = 2
  ·rw [if_pos hc]
   simp -implicitDefEqProofs (disch:=omega) only [h0,h2,h3,ha0,hh3,hh2,hb3,hc,go_sem,↓reduceIte,rA,rS,rE,rL,reduceCtorEq]
   refine (hM _ _ _).2 ⟨?_,?_,?_,?_,?_,?_⟩
   all_goals (simp -implicitDefEqProofs (disch:=omega) only [h0,h2,h3,ha0,hh3,hh2,lpn,go_sem,↓reduceIte,rA,rS,rE,rL,reduceCtorEq] <;> rfl)
  ·rw [if_neg hc]
   simp -implicitDefEqProofs (disch:=omega) only [h0,h2,h3,ha0,hh3,hh2,hb3,hc,go_sem,↓reduceIte,rA,rS,rE,rL,reduceCtorEq]
   refine (hM _ _ _).2 ⟨?_,?_,?_,?_,?_,?_⟩
   all_goals (simp -implicitDefEqProofs (disch:=omega) only [h0,h2,h3,ha0,hh3,hh2,lpn,go_sem,↓reduceIte,rA,rS,rE,rL,reduceCtorEq] <;> rfl)
 clear h0 h2 h3 ha0 hh3 hh2 s
 intro s hs
 obtain ⟨h0,h2,h3,ha0,hh3,hh2⟩:=(hM _ _ _).1 hs
 clear hs
 simp -implicitDefEqProofs (disch:=omega) only [h0,h2,h3,ha0,hh3,hh2,go_sem,↓reduceIte,rA,rS,rE,rL,reduceCtorEq]
theorem digit_byte (n : Nat) (h : n < 10) : bytesI [48 + (n : Int)] = ⟨#[UInt8.ofNat (48 + n)]⟩:=by
 unfold bytesI
 simp only [lpc,lpn]
 rw [show ((48 : Int) + (n : Int)).toNat = 48 + n by omega]
theorem itoaS_small {n : Nat} (h : n < 10) : itoaS n = ⟨#[UInt8.ofNat (48 + n)]⟩:=by
 show (⟨(Lib.itoa n).toArray⟩ : ByteArray) = _
 rw [itoa_pos (by omega),Int.toNat_natCast,Lib.decDigits,dif_pos h]
theorem itoaS_big {n : Nat} (h : ¬ n < 10) : itoaS n = itoaS ((n / 10 : Nat) : Int) ++ ⟨#[UInt8.ofNat (48 + n % 10)]⟩:=by
 show (⟨(Lib.itoa n).toArray⟩ : ByteArray) = (⟨(Lib.itoa ((n / 10 : Nat) : Int)).toArray⟩ : ByteArray) ++ _
 rw [itoa_pos (by omega),itoa_pos (by omega),Int.toNat_natCast,Int.toNat_natCast,Lib.decDigits,dif_neg h]
 apply ByteArray.ext
 simp
set_option maxHeartbeats 1000000 in
theorem decimal_eq (n : Nat) (hn : n < 1000000000) : V 12 [.p (.int .i64 n)] [] = some (.p (.str (itoaS n)),[]):=by
 refine V_wp (vf:=vf12) rfl ?_
 simp -implicitDefEqProofs (disch:=omega) only [vf12,vb12,go_sem,↓reduceIte,rA,rS,rE,rL,reduceCtorEq]
 have hsz:=itoaS_size (n:=(n : Int)) (by omega) (by omega)
 obtain ⟨R,hR⟩ : ∃ I : Nat -> St -> Prop,∀ r s,I r s ↔ ∃ (m : Nat) (t : ByteArray),((t = ⟨#[]⟩ -> r = m + 1) /\ (t ≠ ⟨#[]⟩ -> r = m)) /\ ((0 < m \/ t = ⟨#[]⟩) /\ itoaS m ++ t = itoaS n \/ m = 0 /\ t ≠ ⟨#[]⟩ /\ t = itoaS n) /\ m < 1000000000 /\ s.pe 0 = .p (.int .i64 ↑m) /\ s.pe 3 = .p (PV.str t):=⟨_,fun _ _=>Iff.rfl⟩
 refine wp_meas R id ((n + 1)) ?_ ?_
 ·refine (hR _ _).2 ⟨n,⟨#[]⟩,?_,?_,?_,?_,?_⟩
  ·exact ⟨fun _=>rfl,fun h=>absurd rfl h⟩
  ·exact Or.inl ⟨Or.inr rfl,by rw [show (⟨#[]⟩ : ByteArray) = ByteArray.empty from rfl,ByteArray.append_empty]⟩
  ·exact cl3
  all_goals exact cl0
 intro r s hRk
 obtain ⟨m,t,hr,hA,hm9,h0,h3⟩:=(hR _ _).1 hRk
 clear hRk
 simp -implicitDefEqProofs (disch:=omega) only [h0,h3,go_sem,↓reduceIte,rA,rS,rE,rL,reduceCtorEq]
 rcases hA with ⟨hgo,hA⟩ | ⟨hm0,hne,hA⟩
 ·have htz : t.size <= 9:=by
   have:=congrArg ByteArray.size hA
   rw [ByteArray.size_append] at this
   omega
  have hmod : ((m : Int).tmod 10) = ((m % 10 : Nat) : Int):=by rw [Int.tmod_eq_emod_of_nonneg (by omega)]; omega
  have hdiv : ((m : Int).tdiv 10) = ((m / 10 : Nat) : Int):=by rw [Int.tdiv_eq_ediv_of_nonneg (by omega)]; omega
  have hw8 : IntKind.u8.wrap (48 + ((m % 10 : Nat) : Int)) = 48 + ((m % 10 : Nat) : Int):=wrap8 (by omega) (by omega)
  have hdb:=digit_byte (m % 10) (by omega)
  have hds : (⟨#[UInt8.ofNat (48 + m % 10)]⟩ : ByteArray).size = 1:=rfl
  have hne' : (⟨#[UInt8.ofNat (48 + m % 10)]⟩ : ByteArray) ++ t ≠ ⟨#[]⟩:=fun e=>by
   have:=congrArg ByteArray.size e
   rw [ByteArray.size_append,hds] at this
   have h0 : (⟨#[]⟩ : ByteArray).size = 0:=rfl
   omega
  have hnew : ((0 < m / 10 \/ (⟨#[UInt8.ofNat (48 + m % 10)]⟩ : ByteArray) ++ t = ⟨#[]⟩) /\ itoaS ((m / 10 : Nat) : Int) ++ ((⟨#[UInt8.ofNat (48 + m % 10)]⟩ : ByteArray) ++ t) = itoaS n \/ m / 10 = 0 /\ (⟨#[UInt8.ofNat (48 + m % 10)]⟩ : ByteArray) ++ t ≠ ⟨#[]⟩ /\ (⟨#[UInt8.ofNat (48 + m % 10)]⟩ : ByteArray) ++ t = itoaS n):=by
   by_cases h10 : m < 10
   ·right
    rw [itoaS_small h10] at hA
    rw [Nat.mod_eq_of_lt h10] at hne' ⊢
    exact ⟨by omega,hne',hA⟩
   ·left
    rw [itoaS_big h10,ByteArray.append_assoc] at hA
    exact ⟨.inl (by omega),hA⟩
  have hrm : m / 10 < r:=by
   by_cases ht : t = ⟨#[]⟩
   ·have:=hr.1 ht; omega
   ·have:=hr.2 ht
    rcases hgo with h | h
    .omega
    .exact absurd h ht
  generalize (⟨#[UInt8.ofNat (48 + m % 10)]⟩ : ByteArray) = b at hdb hds hne' hnew
  by_cases hm0 : 0 < m
  ·have hg : (m : Int) > 0:=by omega
   simp -implicitDefEqProofs (disch:=omega) only [h0,h3,hg,hmod,hdiv,hw8,hdb,go_sem,↓reduceIte,rA,rS,rE,rL,reduceCtorEq]
   refine ⟨(m / 10),by simp only [id]; omega,(hR _ _).2 ⟨m / 10,b ++ t,?_,?_,?_,?_,?_⟩⟩
   .exact ⟨fun e=>absurd e hne',fun _=>rfl⟩
   .exact hnew
   .omega
   all_goals exact cl0
  ·have hg : ¬ (m : Int) > 0:=by omega
   have hte : decide (t = ⟨#[]⟩) = true:=decide_eq_true (hgo.resolve_left hm0)
   simp -implicitDefEqProofs (disch:=omega) only [h0,h3,hg,hmod,hdiv,hw8,hdb,hte,go_sem,↓reduceIte,rA,rS,rE,rL,reduceCtorEq]
   refine ⟨(m / 10),by simp only [id]; omega,(hR _ _).2 ⟨m / 10,b ++ t,?_,?_,?_,?_,?_⟩⟩
   .exact ⟨fun e=>absurd e hne',fun _=>rfl⟩
   .exact hnew
   .omega
   all_goals exact cl0
 ·have hg : ¬ (m : Int) > 0:=by omega
  have hte : decide (t = ⟨#[]⟩) = false:=decide_eq_false hne
  rw [<- hA]
  simp -implicitDefEqProofs (disch:=omega) only [h0,h3,hg,hte,go_sem,↓reduceIte,rA,rS,rE,rL,reduceCtorEq]
def nmL (k : Nat) : List PV:=(List.range k).map fun i=>.str (nmF i)
theorem nmL_succ (k : Nat) : nmL (k + 1) = nmL k ++ [.str (nmF k)]:=by simp [nmL,List.range_succ]
theorem nmL_take (k : Nat) : List.take k (nmL k) = nmL k:=ltl (by simp [nmL])
theorem nmL_get {k n : Nat} (h : k < n) : (nmL n)[k]? = some (.str (nmF k)):=by simp [nmL,h]
theorem nmL_len (k : Nat) : (nmL k).length = k:=by simp [nmL]
theorem ct_and {k : Nat} (h : k < 9) : ∃ c : Int,andI .i64 (ctF k) 31 = c /\ andI .i64 31 (ctF k) = c /\ ¬ c = 0:=by
 have hd : (k = 0 \/ k = 1 \/ k = 2 \/ k = 3 \/ k = 4 \/ k = 5 \/ k = 6 \/ k = 7 \/ k = 8):=by omega
 rcases hd with rfl | rfl | rfl | rfl | rfl | rfl | rfl | rfl | rfl
 .exact ⟨8,by decide,by decide,by decide⟩
 .exact ⟨1,by decide,by decide,by decide⟩
 .exact ⟨1,by decide,by decide,by decide⟩
 .exact ⟨1,by decide,by decide,by decide⟩
 .exact ⟨1,by decide,by decide,by decide⟩
 .exact ⟨1,by decide,by decide,by decide⟩
 .exact ⟨16,by decide,by decide,by decide⟩
 .exact ⟨16,by decide,by decide,by decide⟩
 .exact ⟨16,by decide,by decide,by decide⟩
set_option maxHeartbeats 4000000 in
theorem fnames_eq : V 19 [.p (.bool false),.p (.int .i64 31)] [] = some (.fresh 1 (nmL 9),[]):=by
 refine V_wp (vf:=vf19) rfl ?_
 have ht:=table_eq
 have hl:=tab_len
 have hg:=@tab_get
 generalize tabL = L at ht hl hg
 simp -implicitDefEqProofs (disch:=omega) only [vf19,vb19,ht,hl,go_sem,↓reduceIte,rA,rS,rE,rL,reduceCtorEq]
 obtain ⟨I,hI⟩ : ∃ I : Nat -> St -> Prop,∀ k s,I k s ↔ ∃ (w : Nat),s.pe 0 = .p (.bool false) /\ s.pe 1 = .p (.int .i64 31) /\ s.pe 5 = .own (.slot 5 0) w 0 k /\ s.pe 8 = .own (.slot 8 1) 0 0 9 /\ s.pe 9 = .p (.int .i64 9) /\ s.pe 10 = .p (.int .i64 k) /\ s.h (.slot 5 0) = some (w,Ob.arr 1 (nmL k)) /\ s.h (.slot 8 1) = some (0,Ob.arr 4 L):=⟨_,fun _ _=>Iff.rfl⟩
 refine wp_count (9) I ?_ ?_
 ·refine (hI _ _).2 ⟨0,?_,?_,?_,?_,?_,?_,?_,?_⟩
  all_goals exact cl0
 intro k s hk hIk
 obtain ⟨w,h0,h1,h5,h8,h9,h10,hh5_0,hh8_1⟩:=(hI _ _).1 hIk
 clear hIk
 have htk:=nmL_take k
 have hkl:=nmL_len k
 by_cases hk9 : k < 9
 ·have hlt : (k : Int) < 9:=by omega
  have hc:=hg (k:=k) (by omega)
  obtain ⟨c,c1,_,c2⟩:=ct_and hk9
  have hs:=nmL_succ k
  have w1 : IntKind.i64.wrap ((k : Int) + 1) = ((k + 1 : Nat) : Int):=wrap64 (by omega) (by omega)
  simp -implicitDefEqProofs (disch:=omega) only [h0,h1,h5,h8,h9,h10,hh5_0,hh8_1,hlt,hc,c1,c2,htk,w1,hkl,go_sem,↓reduceIte,rA,rS,rE,rL,reduceCtorEq]
  try refine And.intro (by omega) ?_
  refine (hI _ _).2 ⟨w + 1,?_,?_,?_,?_,?_,?_,?_,?_⟩
  all_goals exact cl0
 ·have hlt : ¬ (k : Int) < 9:=by omega
  have e : k = 9:=by omega
  subst e
  simp -implicitDefEqProofs (disch:=omega) only [h0,h1,h5,h8,h9,h10,hh5_0,hh8_1,hlt,htk,hkl,go_sem,↓reduceIte,rA,rS,rE,rL,reduceCtorEq]
abbrev fileR (k : Nat) : PV:=.agg [.str (nmF k),.int .i64 (ctF k)]
def tabR : List PV:=[fileR 0,fileR 1,fileR 2,fileR 3,fileR 4,fileR 5,fileR 6,fileR 7,fileR 8]
theorem tabR_len : tabR.length = 9:=rfl
theorem tabR_get {k : Nat} (h : k < 9) : tabR[k]? = some (fileR k):=by
 have hc : (k = 0 \/ k = 1 \/ k = 2 \/ k = 3 \/ k = 4 \/ k = 5 \/ k = 6 \/ k = 7 \/ k = 8):=by omega
 rcases hc with rfl | rfl | rfl | rfl | rfl | rfl | rfl | rfl | rfl <;> rfl
set_option maxHeartbeats 4000000 in
theorem rtable_eq : V 34 [] [] = some (.fresh 2 tabR,[]):=by
 refine V_wp (vf:=vf34) rfl ?_
 simp -implicitDefEqProofs (disch:=omega) only [vf34,vb34,go_sem,↓reduceIte,rA,rS,rE,rL,reduceCtorEq]
 rfl
set_option maxHeartbeats 4000000 in
theorem rnames_eq : V 16 [.p (.bool false),.p (.int .i64 31)] [] = some (.fresh 1 (nmL 9),[]):=by
 refine V_wp (vf:=vf16) rfl ?_
 have ht:=rtable_eq
 have hl:=tabR_len
 have hg:=@tabR_get
 generalize tabR = L at ht hl hg
 simp -implicitDefEqProofs (disch:=omega) only [vf16,vb16,ht,hl,go_sem,↓reduceIte,rA,rS,rE,rL,reduceCtorEq]
 obtain ⟨I,hI⟩ : ∃ I : Nat -> St -> Prop,∀ k s,I k s ↔ ∃ (w : Nat),s.pe 0 = .p (.bool false) /\ s.pe 1 = .p (.int .i64 31) /\ s.pe 5 = .own (.slot 5 0) w 0 k /\ s.pe 6 = .own (.slot 8 1) 0 0 9 /\ s.pe 7 = .p (.int .i64 k) /\ s.h (.slot 5 0) = some (w,Ob.arr 1 (nmL k)) /\ s.h (.slot 8 1) = some (0,Ob.arr 2 L):=⟨_,fun _ _=>Iff.rfl⟩
 refine wp_count (9) I ?_ ?_
 ·refine (hI _ _).2 ⟨0,?_,?_,?_,?_,?_,?_,?_⟩
  all_goals exact cl0
 intro k s hk hIk
 obtain ⟨w,h0,h1,h5,h6,h7,hh5_0,hh8_1⟩:=(hI _ _).1 hIk
 clear hIk
 have htk:=nmL_take k
 have hkl:=nmL_len k
 by_cases hk9 : k < 9
 ·have hlt : (k : Int) < ((9 : Nat) : Int):=by omega
  have hc:=hg (k:=k) (by omega)
  obtain ⟨c,_,c1,c2⟩:=ct_and hk9
  have hs:=nmL_succ k
  have w1 : IntKind.i64.wrap ((k : Int) + 1) = ((k + 1 : Nat) : Int):=wrap64 (by omega) (by omega)
  simp -implicitDefEqProofs (disch:=omega) only [h0,h1,h5,h6,h7,hh5_0,hh8_1,hlt,hc,c1,c2,htk,w1,hkl,go_sem,↓reduceIte,rA,rS,rE,rL,reduceCtorEq]
  try refine And.intro (by omega) ?_
  refine (hI _ _).2 ⟨w + 1,?_,?_,?_,?_,?_,?_,?_⟩
  all_goals exact cl0
 ·have hlt : ¬ (k : Int) < ((9 : Nat) : Int):=by omega
  have e : k = 9:=by omega
  subst e
  simp -implicitDefEqProofs (disch:=omega) only [h0,h1,h5,h6,h7,hh5_0,hh8_1,hlt,htk,hkl,go_sem,↓reduceIte,rA,rS,rE,rL,reduceCtorEq]
def nmX (k : Nat) : ByteArray:=if k < 9 then nmF k else if k = 9 then ⟨#[99,112,117,46,115,116,97,116]⟩ else if k = 10 then ⟨#[]⟩ else ⟨#[109,101,109,111,114,121,46,109,97,120]⟩
theorem nmX_get {k : Nat} (h : k < 12) : (nmL 9 ++ [.str ⟨#[99,112,117,46,115,116,97,116]⟩,.str ⟨#[]⟩,.str ⟨#[109,101,109,111,114,121,46,109,97,120]⟩])[k]? = some (.str (nmX k)):=by
 by_cases h9 : k < 9
 ·rw [List.getElem?_append_left (by rw [nmL_len]; exact h9),nmL_get h9,nmX,if_pos h9]
 ·have : k = 9 \/ k = 10 \/ k = 11:=by omega
  rcases this with rfl | rfl | rfl <;> rfl
theorem nmX_no {k : Nat} (h : ¬ k < 9) (i : Nat) (hi : i < 9) : ¬ nmF i = nmX k:=by
 have e : nmX k = ⟨#[99,112,117,46,115,116,97,116]⟩ \/ nmX k = ⟨#[]⟩ \/ nmX k = ⟨#[109,101,109,111,114,121,46,109,97,120]⟩:=by
  unfold nmX
  rw [if_neg h]
  split
  ·exact .inl rfl
  ·split
   .exact .inr (.inl rfl)
   .exact .inr (.inr rfl)
 have hc : (i = 0 \/ i = 1 \/ i = 2 \/ i = 3 \/ i = 4 \/ i = 5 \/ i = 6 \/ i = 7 \/ i = 8):=by omega
 rcases e with e | e | e <;> rw [e] <;> intro e2 <;> have e3:=congrArg (fun x : ByteArray=>x.data.toList) e2 <;> clear e e2 <;> rcases hc with rfl | rfl | rfl | rfl | rfl | rfl | rfl | rfl | rfl <;> (revert e3; decide)
set_option maxHeartbeats 4000000 in
theorem file_eq (L : List Int) (a : Nat) (hL : L.length < 4611686018427387904) : ∃ k,k < 12 /\ V 14 [.ptr (.arg 0 0) 0 0] [diceB L a] = some (.p (.str (nmX k)),[diceB L (nextA L a 12)]):=by
 have hn:=next_eq L a 12 hL (by omega)
 have n0:=nextV_nonneg L a 12
 have n1:=nextV_lt L a (n:=12) (by omega)
 generalize nextV L a 12 = n at hn n0 n1
 refine ⟨n.toNat,by omega,?_⟩
 refine V_wp (vf:=vf14) rfl ?_
 have hg:=nmX_get (k:=n.toNat) (by omega)
 have hln:=nmL_len 9
 have htk:=nmL_take 9
 have hr:=rnames_eq
 generalize nmL 9 = A at hg hln htk hr
 generalize nmX n.toNat = x at hg ⊢
 have hlt : n < 12:=n1
 have hlt2 : n.toNat < 12:=by omega
 simp -implicitDefEqProofs (disch:=omega) only [vf14,vb14,hr,hn,hln,htk,hlt2,hg,go_sem,↓reduceIte,rA,rS,rE,rL,reduceCtorEq]
def txtOk (x : ByteArray) : Prop:=asciiB x.data.toList = true
theorem txt_app {x y : ByteArray} (hx : txtOk x) (hy : txtOk y) : txtOk (x ++ y):=by
 unfold txtOk asciiB at *
 simp only [ByteArray.data_append,Array.toList_append,List.all_append,hx,hy,bas]
def txK (L : List Int) (ps : List ByteArray) (a : Nat) : Nat -> ByteArray × Nat
 | 0=>(⟨#[]⟩,a)
 | k + 1=>((txK L ps a k).1 ++ ps.getD (nextV L (txK L ps a k).2 ps.length).toNat ⟨#[]⟩,nextA L (txK L ps a k).2 ps.length)
theorem txK_ok (L : List Int) {ps : List ByteArray} (a : Nat) (hp : ∀ p ∈ ps,txtOk p /\ p.size <= 10) : ∀ k,txtOk (txK L ps a k).1 /\ (txK L ps a k).1.size <= 10 * k
 | 0=>⟨rfl,lrf _⟩
 | k + 1=>by
  obtain ⟨h1,h2⟩:=txK_ok L a hp k
  have h3 : ∀ i : Nat,txtOk (ps.getD i ⟨#[]⟩) /\ (ps.getD i ⟨#[]⟩).size <= 10:=fun i=>by
   rw [List.getD_eq_getElem?_getD]
   cases e : ps[i]? with
   | none=>exact ⟨rfl,Nat.zero_le _⟩
   | some p=>exact hp p (lmg e)
  have h4:=h3 (nextV L (txK L ps a k).2 ps.length).toNat
  refine ⟨txt_app h1 h4.1,?_⟩
  show ((txK L ps a k).1 ++ _).size <= _
  rw [ByteArray.size_append]
  omega
set_option maxHeartbeats 4000000 in
theorem dtext_eq (L : List Int) (a : Nat) (ps : List ByteArray) (hL : L.length < 4611686018427387904) (h0 : 0 < ps.length) (h1 : ps.length < 1000) (hp : ∀ p ∈ ps,txtOk p /\ p.size <= 10) : V 33 [.ptr (.arg 0 0) 0 0,.p (.slice 1 (ps.map .str)),.p (.int .i64 4)] [diceB L a] = some (.p (.str (txK L ps (nextA L a 5) (nextV L a 5).toNat).1),[diceB L (txK L ps (nextA L a 5) (nextV L a 5).toNat).2]):=by
 refine V_wp (vf:=vf33) rfl ?_
 have hn:=next_eq L a 5 hL (by omega)
 have n0:=nextV_nonneg L a 5
 have n1:=nextV_lt L a (n:=5) (by omega)
 generalize nextV L a 5 = n at hn n0 n1 ⊢
 generalize nextA L a 5 = a0 at hn ⊢
 have hn' : V 23 [.ptr (.arg 0 0) 0 0,.p (.int .i64 (4 + 1))] [diceB L a] = some (.p (.int .i64 n),[diceB L a0]):=hn
 have w0 : IntKind.i64.wrap (4 + 1) = 4 + 1:=by decide
 simp -implicitDefEqProofs (disch:=omega) only [vf33,vb33,hn',w0,go_sem,↓reduceIte,rA,rS,rE,rL,reduceCtorEq]
 obtain ⟨I,hI⟩ : ∃ I : Nat -> St -> Prop,∀ k s,I k s ↔ s.pe 0 = .ptr (.arg 0 0) 0 0 /\ s.pe 1 = .p (.slice 1 (ps.map .str)) /\ s.pe 7 = .p (.str (txK L ps a0 k).1) /\ s.pe 8 = .p (.int .i64 (n - k)) /\ s.h (.arg 0 0) = some (0,diceB L (txK L ps a0 k).2):=⟨_,fun _ _=>Iff.rfl⟩
 refine wp_count (n.toNat) I ?_ ?_
 ·refine (hI _ _).2 ⟨?_,?_,?_,?_,?_⟩
  all_goals exact cl0
 intro k s hk hIk
 obtain ⟨h0,h1,h7,h8,ha0⟩:=(hI _ _).1 hIk
 clear hIk
 have hok:=txK_ok L a0 hp k
 have hsc : txK L ps a0 (k + 1) = ((txK L ps a0 k).1 ++ ps.getD (nextV L (txK L ps a0 k).2 ps.length).toNat ⟨#[]⟩,nextA L (txK L ps a0 k).2 ps.length):=rfl
 by_cases hkn : (k : Int) < n
 ·have hnx:=next_eq L (txK L ps a0 k).2 ps.length hL (by omega)
  have m0:=nextV_nonneg L (txK L ps a0 k).2 ps.length
  have m1:=nextV_lt L (txK L ps a0 k).2 (n:=ps.length) (by omega)
  generalize txK L ps a0 k = z at *
  obtain ⟨x,b⟩:=z
  simp only at *
  generalize nextV L b ps.length = m at *
  have hm : m.toNat < ps.length:=by omega
  have hget : ps[m.toNat]? = some (ps.getD m.toNat ⟨#[]⟩):=by
   rw [List.getD_eq_getElem?_getD,lgg hm]; rfl
  have hsz : (ps.getD m.toNat ⟨#[]⟩).size <= 10:=(hp _ (lmg hget)).2
  generalize ps.getD m.toNat ⟨#[]⟩ = y at *
  have hgt : n - (k : Int) > 0:=by omega
  have w1 : IntKind.i64.wrap (n - (k : Int) - 1) = n - ((k + 1 : Nat) : Int):=by rw [wrap64 (by omega) (by omega)]; omega
  have hgm : (ps.map PV.str)[m.toNat]? = some (.str y):=by rw [List.getElem?_map,hget]; rfl
  simp -implicitDefEqProofs (disch:=omega) only [h0,h1,h7,h8,ha0,hgt,hnx,hgm,w1,hm,go_sem,↓reduceIte,rA,rS,rE,rL,reduceCtorEq]
  try refine And.intro (by omega) ?_
  refine (hI _ _).2 ⟨?_,?_,?_,?_,?_⟩
  all_goals exact cl0
 ·have hgt : ¬ n - (k : Int) > 0:=by omega
  have e : n.toNat = k:=by omega
  rw [e]
  simp -implicitDefEqProofs (disch:=omega) only [h0,h1,h7,h8,ha0,hgt,go_sem,↓reduceIte,rA,rS,rE,rL,reduceCtorEq]
def pieces : List ByteArray:=[⟨#[109,97,120]⟩,⟨#[49]⟩,⟨#[53]⟩,⟨#[49,48]⟩,⟨#[49,48,48]⟩,⟨#[49,48,48,48,48]⟩,⟨#[49,48,48,48,49]⟩,⟨#[32]⟩,⟨#[48,45,51]⟩,⟨#[44]⟩,⟨#[55]⟩,⟨#[46]⟩,⟨#[53,46,50,53]⟩,⟨#[109,101,109,98,101,114]⟩,⟨#[114,111,111,116]⟩,⟨#[75]⟩,⟨#[10]⟩,⟨#[109,97,120,32,53,48]⟩,⟨#[51,32,57]⟩]
theorem pieces_ok : ∀ p ∈ pieces,txtOk p /\ p.size <= 10:=by
 have : pieces.all (fun p=>asciiB p.data.toList && decide (p.size <= 10)) = true:=by decide
 intro p hp
 have:=List.all_eq_true.1 this p hp
 simpa [txtOk] using this
theorem pieces_len : pieces.length = 19:=rfl
set_option maxHeartbeats 4000000 in
theorem text_eq (L : List Int) (a : Nat) (hL : L.length < 4611686018427387904) : ∃ x a',txtOk x /\ x.size <= 50 /\ V 15 [.ptr (.arg 0 0) 0 0] [diceB L a] = some (.p (.str x),[diceB L a']):=by
 have ht:=dtext_eq L a pieces hL (by rw [pieces_len]; omega) (by rw [pieces_len]; omega) pieces_ok
 have n0:=nextV_nonneg L a 5
 have n1:=nextV_lt L a (n:=5) (by omega)
 obtain ⟨k1,k2⟩:=txK_ok L (nextA L a 5) pieces_ok (nextV L a 5).toNat
 generalize nextV L a 5 = n at *
 have k3 : (txK L pieces (nextA L a 5) n.toNat).1.size <= 40:=by omega
 generalize txK L pieces (nextA L a 5) n.toNat = z at *
 obtain ⟨x,b⟩:=z
 simp only at *
 have hn:=next_eq L b 4 hL (by omega)
 have m0:=nextV_nonneg L b 4
 have m1:=nextV_lt L b (n:=4) (by omega)
 generalize nextV L b 4 = m at *
 generalize nextA L b 4 = c at *
 obtain ⟨y,hy,hys,hyt⟩ : ∃ y : ByteArray,([PV.str ⟨#[]⟩,PV.str ⟨#[10]⟩,PV.str ⟨#[]⟩,PV.str ⟨#[10,10]⟩] : List PV)[m.toNat]? = some (.str y) /\ y.size <= 2 /\ txtOk y:=by
  have : m = 0 \/ m = 1 \/ m = 2 \/ m = 3:=by omega
  rcases this with rfl | rfl | rfl | rfl
  .exact ⟨_,rfl,by decide,rfl⟩
  .exact ⟨_,rfl,by decide,rfl⟩
  .exact ⟨_,rfl,by decide,rfl⟩
  .exact ⟨_,rfl,by decide,rfl⟩
 refine ⟨x ++ y,c,txt_app k1 hyt,by rw [ByteArray.size_append]; omega,?_⟩
 refine V_wp (vf:=vf15) rfl ?_
 have hlt : m.toNat < 4:=by omega
 have ht' : V 33 [.ptr (.arg 0 0) 0 0,.p (.slice 1 (pieces.map .str)),.p (.int .i64 4)] [diceB L a] = some (.p (.str x),[diceB L b]):=ht
 have e : pieces.map PV.str = [.str ⟨#[109,97,120]⟩,.str ⟨#[49]⟩,.str ⟨#[53]⟩,.str ⟨#[49,48]⟩,.str ⟨#[49,48,48]⟩,.str ⟨#[49,48,48,48,48]⟩,.str ⟨#[49,48,48,48,49]⟩,.str ⟨#[32]⟩,.str ⟨#[48,45,51]⟩,.str ⟨#[44]⟩,.str ⟨#[55]⟩,.str ⟨#[46]⟩,.str ⟨#[53,46,50,53]⟩,.str ⟨#[109,101,109,98,101,114]⟩,.str ⟨#[114,111,111,116]⟩,.str ⟨#[75]⟩,.str ⟨#[10]⟩,.str ⟨#[109,97,120,32,53,48]⟩,.str ⟨#[51,32,57]⟩]:=rfl
 rw [e] at ht'
 simp -implicitDefEqProofs (disch:=omega) only [vf15,vb15,ht',hn,hlt,hy,go_sem,↓reduceIte,rA,rS,rE,rL,reduceCtorEq]
theorem dec50000 : Lib.decDigits 50000 = [53,48,48,48,48]:=by
 rw [dec_step (u:=50000) (by omega),dec_step (u:=50000 / 10) (by omega),dec_step (u:=50000 / 10 / 10) (by omega),dec_step (u:=50000 / 10 / 10 / 10) (by omega),dec_small (u:=50000 / 10 / 10 / 10 / 10) (by omega)]
 rfl
theorem dec100000 : Lib.decDigits 100000 = [49,48,48,48,48,48]:=by
 rw [dec_step (u:=100000) (by omega),dec_step (u:=100000 / 10) (by omega),dec_step (u:=100000 / 10 / 10) (by omega),dec_step (u:=100000 / 10 / 10 / 10) (by omega),dec_step (u:=100000 / 10 / 10 / 10 / 10) (by omega),dec_small (u:=100000 / 10 / 10 / 10 / 10 / 10) (by omega)]
 rfl
abbrev stg0 : Stg:=⟨4611686018427387904,100,4611686018427387904,100000,0,0,10000,[],[],0⟩
abbrev stg1 : Stg:=⟨4611686018427387904,100,50000,100000,0,0,10000,[],[],0⟩
theorem stg0_ok : checkS stg0 = true:=by decide
theorem ex12_write : wrA 2 stg0 ⟨#[53,48,48,48,48]⟩ = (some stg1,0):=by
 have h:=(band_one stg0_ok (q:=50000) (by omega)).1
 have e : txtD 50000 = ⟨#[53,48,48,48,48]⟩:=by rw [txtD,dec50000]
 rw [e] at h
 rw [h]
 rfl
theorem ex12_read : rdA 2 stg1 = (⟨#[53,48,48,48,48,32,49,48,48,48,48,48,10]⟩,0):=by
 have hc : checkS stg1 = true:=by decide
 have e1 : formatN 50000 = ([53,48,48,48,48],0):=by
  rw [formatN,if_neg (by omega),if_neg (by omega),decB,itoa_pos (by omega)]
  exact congrArg (fun l=>(l,(0 : Int))) dec50000
 have e2 : formatN 100000 = ([49,48,48,48,48,48],0):=by
  rw [formatN,if_neg (by omega),if_neg (by omega),decB,itoa_pos (by omega)]
  exact congrArg (fun l=>(l,(0 : Int))) dec100000
 rw [(back_all (k:=2) (by omega) hc).1]
 simp only [rdF,e1,e2]
 rfl
set_option maxHeartbeats 4000000 in
theorem sane12_eq : V 8 [] [] = some (.p (.bool true),[]):=by
 refine V_wp (vf:=vf8) rfl ?_
 have h1:=write_eq (k:=2) (by omega) stg0 (by decide) (by decide) ⟨#[53,48,48,48,48]⟩ (by decide) rfl
 rw [ex12_write] at h1
 have h2:=read_eq (k:=2) (by omega) stg1 (by decide) (by decide)
 rw [ex12_read] at h2
 have n2 : nmF 2 = ⟨#[99,112,117,46,109,97,120]⟩:=rfl
 rw [n2] at h1 h2
 simp only [stC,intsP,wrV,stF,lpn] at h1 h2
 simp -implicitDefEqProofs (disch:=omega) only [vf8,vb8,h1,h2,default_eq,lpn,beq_self_eq_true,go_sem,↓reduceIte,rA,rS,rE,rL,reduceCtorEq]
theorem dStg_lens (L : List Int) (a : Nat) : (dStg L a).1.cpus.length < 1000000 /\ (dStg L a).1.mems.length < 1000000:=by
 simp only [dStg]
 have h1:=fun a=>(dSome_ok L a 6 (by omega) (m:=6) (by omega)).2
 have h2:=fun a=>(dSome_ok L a 4 (by omega) (m:=4) (by omega)).2
 exact ⟨Nat.lt_of_le_of_lt (h1 _) (by omega),Nat.lt_of_le_of_lt (h2 _) (by omega)⟩
theorem asc_dec {n : Int} (h : 0 <= n) : asciiB (decB n) = true:=by
 rw [decB,itoa_pos h,asciiB,List.all_eq_true]
 intro c hc
 have:=List.all_eq_true.1 (dec_ok n.toNat).1 c hc
 simp only [isD,bat,decide_eq_true_eq] at this
 simp only [decide_eq_true_eq]
 omega
theorem asc_app {a b : List UInt8} (h1 : asciiB a = true) (h2 : asciiB b = true) : asciiB (a ++ b) = true:=by
 unfold asciiB at *
 rw [List.all_append,h1,h2]
 rfl
theorem asc_fmt {n : Int} (h : (0 <= n /\ n <= 1099511627776) \/ n = maxI) : asciiB (formatN n).1 = true:=by
 unfold formatN
 split
 ·rfl
 ·split
  .rfl
  .exact asc_dec (by unfold maxI at h; omega)
theorem asc_fmtH {n : Int} (h0 : 0 <= n) (h1 : n <= 10000) : asciiB (formatH n).1 = true:=by
 unfold formatH
 split
 ·rfl
 ·split
  ·rfl
  ·have hq : 0 <= n.tdiv 100:=by rw [Int.tdiv_eq_ediv_of_nonneg h0]; omega
   have hr : 0 <= 100 + n.tmod 100:=by rw [Int.tmod_eq_emod_of_nonneg h0]; omega
   have:=asc_dec hr
   refine asc_app (asc_app (asc_dec hq) rfl) ?_
   rw [asciiB,List.all_eq_true] at this ⊢
   exact fun c hc=>this c (List.mem_of_mem_drop hc)
theorem asc_elem {p : Int × Int} (h : 0 <= p.1) (h2 : p.1 <= p.2) : asciiB (elemB p) = true:=by
 have key : ∀ n : Int,0 <= n -> asciiB (Lib.itoa n) = true:=fun n hn=>asc_dec hn
 unfold elemB
 split
 .exact asc_app (key _ h) (asc_app (a:=[45]) rfl (key _ (by omega)))
 .exact key _ h
theorem asc_set {l : List Int} {n : Int} (h : ascOk l n = true) : asciiB (setTxt l).data.toList = true:=by
 obtain ⟨ha,hb⟩:=ascOk_iff h
 obtain ⟨hok,_⟩:=runsR_asc l.length l (lrf _) ha
 rw [asciiB,List.all_eq_true]
 intro c hm
 rcases mem_join hm with hm | ⟨x,hx,hm⟩
 ·simp at hm
  subst hm
  rfl
 ·simp only [List.map_map,lmm,Function.comp_apply] at hx
  obtain ⟨p,hp,rfl⟩:=hx
  obtain ⟨p1,p2,p3⟩:=hok p hp
  have b1:=hb _ p2
  have:=asc_elem (p:=p) b1.1 p1
  rw [asciiB,List.all_eq_true] at this
  exact this c (by simpa using hm)
theorem ascii_of {k : Nat} {s : Stg} (hk : k < 9) (hs : checkS s = true) : asciiB (rdF k s).1.data.toList = true:=by
 obtain ⟨c0,c1,c2,c3,c4,c5,c6,c7,c8⟩:=chk hs
 have hd : (k = 0 \/ k = 1 \/ k = 2 \/ k = 3 \/ k = 4 \/ k = 5 \/ k = 6 \/ k = 7 \/ k = 8):=by omega
 rcases hd with rfl | rfl | rfl | rfl | rfl | rfl | rfl | rfl | rfl
 ·exact asc_fmt c0
 ·exact asc_fmt (.inl (by omega))
 ·have e2 : (rdF 2 s).1 = bsL (formatN s.quota).1 ++ ⟨#[32]⟩ ++ bsL (formatN s.period).1:=by
   simp only [rdF,if_neg (show ¬ (formatN s.quota).2 ≠ 0 by rw [(parse_format c2).1]; simp)]
  rw [e2]
  exact txt_app (txt_app (asc_fmt c2) rfl) (asc_fmt (.inl (by omega)))
 ·exact asc_fmt (.inl (by omega))
 ·exact asc_fmtH c5.1 c5.2
 ·exact asc_fmtH c6.1 c6.2
 ·exact asc_set (n:=16) (ascOk_ii.2 c7)
 ·exact asc_set (n:=8) (ascOk_ii.2 c8)
 ·simp only [rdF]
  split <;> rfl
set_option maxHeartbeats 8000000 in
theorem filesBack_eq (L : List Int) : V 6 [.p (intsP L)] [] = some (.p (.bool true),[]):=by
 refine V_wp (vf:=vf6) rfl ?_
 have hsane:=sane12_eq
 have hli:=light_eq (L.map (.int .i64))
 rw [llm] at hli
 by_cases hlen : ¬ L.length <= 600
 ·simp -implicitDefEqProofs (disch:=omega) only [vf6,vb6,hli,hlen,hsane,go_sem,↓reduceIte,rA,rS,rE,rL,reduceCtorEq]
 have hlen:=Decidable.not_not.1 hlen
 have hroll:=roll_eq L
 have hset:=settings_eq L 0 (by omega)
 have hok:=dStg_ok L 0
 obtain ⟨l1,l2⟩:=dStg_lens L 0
 rw [show diceB L 0 = Ob.box [.p (intsP L),.p (.int .i64 0)] from rfl] at hset
 generalize dStg L 0 = q at hset hok l1 l2
 obtain ⟨g,a1⟩:=q
 simp only at hset hok l1 l2
 have hnm:=fnames_eq
 have hnl:=nmL_len 9
 have hng:=fun k h=>@nmL_get k 9 h
 generalize nmL 9 = A at hnm hnl hng
 simp -implicitDefEqProofs (disch:=omega) only [vf6,vb6,hli,hlen,hroll,hset,hnm,hnl,go_sem,↓reduceIte,rA,rS,rE,rL,reduceCtorEq]
 obtain ⟨I,hI⟩ : ∃ I : Nat -> St -> Prop,∀ k s,I k s ↔ s.pe 3 = .ptr (.slot 3 0) 0 0 /\ s.pe 19 = .own (.slot 19 1) 0 0 9 /\ s.pe 20 = .p (.int .i64 9) /\ s.pe 21 = .p (.int .i64 k) /\ s.h (.slot 3 0) = some (0,Ob.box (stC g)) /\ s.h (.slot 19 1) = some (0,Ob.arr 1 A):=⟨_,fun _ _=>Iff.rfl⟩
 refine wp_count (9) I ?_ ?_
 ·refine (hI _ _).2 ⟨?_,?_,?_,?_,?_,?_⟩
  all_goals exact cl0
 intro k s hk hIk
 obtain ⟨h3,h19,h20,h21,hh3_0,hh19_1⟩:=(hI _ _).1 hIk
 clear hIk
 by_cases hk9 : k < 9
 ·have hlt : (k : Int) < 9:=by omega
  have hc:=hng k hk9
  obtain ⟨b1,b2,b3⟩:=back_all hk9 hok
  have hr:=read_eq hk9 g l1 l2
  rw [b1] at hr
  have hasc:=asc_app (ascii_of hk9 hok) (b:=[10]) rfl
  have hz : (rdF k g).1.size <= 1000:=(back hk9 hok).2.2.2
  have hw1:=write_eq hk9 g l1 l2 ((rdF k g).1 ++ ⟨#[10]⟩) (by rw [ByteArray.size_append]; show _ + 1 < _; omega) (by rw [ByteArray.data_append,Array.toList_append]; exact hasc)
  have hw2:=write_eq hk9 g l1 l2 (rdF k g).1 (by omega) (ascii_of hk9 hok)
  have hln:=line_eq ((rdF k g).1 ++ ⟨#[10]⟩) (by rw [ByteArray.size_append]; show _ + 1 <= _; omega)
  rw [line_snoc] at hln b3
  rw [b2] at hw1
  rw [b3] at hw2
  have hsm:=rsame_eq g l1 l2
  simp only [wrV] at hw1 hw2
  generalize (rdF k g).1 ++ ⟨#[10]⟩ = T at *
  generalize (rdF k g).1 = U at *
  generalize nmF k = F at *
  have w1 : IntKind.i64.wrap ((k : Int) + 1) = ((k + 1 : Nat) : Int):=wrap64 (by omega) (by omega)
  simp -implicitDefEqProofs (disch:=omega) only [h3,h19,h20,h21,hh3_0,hh19_1,hlt,hc,hr,hw1,hw2,hln,hsm,w1,go_sem,↓reduceIte,rA,rS,rE,rL,reduceCtorEq]
  try refine And.intro (by omega) ?_
  refine (hI _ _).2 ⟨?_,?_,?_,?_,?_,?_⟩
  all_goals exact cl0
 ·have hlt : ¬ (k : Int) < 9:=by omega
  have k9 : decide (((9 : Nat) : Int) = 9) = true:=rfl
  simp -implicitDefEqProofs (disch:=omega) only [h3,h19,h20,h21,hh3_0,hh19_1,hlt,hnm,hnl,hsane,k9,go_sem,↓reduceIte,rA,rS,rE,rL,reduceCtorEq]
end Go.V
