/- Part 4 of the proof. -/
import Derived.Test.YtekkdllchjmhdaaGreatA3
set_option linter.unusedSectionVars false
set_option linter.unusedSimpArgs false
set_option linter.unusedVariables false
open Nat renaming reduceAdd → rAz, reduceSub → rS, reduceEqDiff → rE, reduceLeDiff → rL, le_refl → lrf
open List renaming getElem?_eq_some_iff → lgs, mem_of_getElem? → lmg, map_cons → lpc, nil_append → lna, map_append → lma, getElem?_of_mem → lgm, length_cons → llc, length_append → lla, mem_cons → lmk, map_nil → lpn, length_nil → lln, mem_append → lmp, length_map → llm, cons_append → lca
open Bool renaming and_eq_true → bat
namespace Go.V
theorem pair34_eq : V 33 [] [] = some (prT.fv,[]):=by
 refine V_wp (vf:=vf33) rfl ?_
 simp -implicitDefEqProofs (disch:=omega) only [vf33,vb33,go_sem,↓reduceIte,rAz,rS,rE,rL,reduceCtorEq]
 rfl
abbrev dvC (d : Dv) : List VVal:=[.p (.int .i64 d.m.rb),.p (.int .i64 d.m.rp),.p (.int .i64 d.m.wb),.p (.int .i64 d.m.wp),.p (.int .i64 d.m.seek),.p (.int .i64 d.speed),.p (.int .i64 d.margin),.p (.int .i64 d.now),.p (.int .i64 d.free),.p (.int .i64 d.head),.p (chsP d.weights),.p (cpsP d.buckets),.p (dpsP d.depths),.p (chsP d.v),.p (rqsP d.queue),.p (flsP d.flights)]
def eD : Nat -> List Fl
 | 0 | 1 | 2=>[]
 | _=>[⟨rA,3⟩]
set_option maxHeartbeats 8000000 in
theorem sane34_eq : V 11 [] [] = some (.p (.bool true),[]):=by
 refine V_wp (vf:=vf11) rfl ?_
 have c0:=pair34_eq
 have c1:=dnew_eq mdS 10 0 (by rfl)
 have ok0 : DvOk prT (newD mdS 10 0):=dvOk_iff.1 (by rfl)
 have ok1 : DvOk prT (subD (newD mdS 10 0) rA):=dvOk_iff.1 (by rfl)
 have c2:=submit_eq prT (newD mdS 10 0) rA ok0 (ok_small ok0) (by rfl) (by rfl) (by decide)
 have c3:=submit_eq prT (subD (newD mdS 10 0) rA) rB ok1 (ok_small ok1) (by rfl) (by rfl) (by decide)
 simp only [prT,Tr.vv,Tr.fv,nodesP,lpc,lpn,Nd.pv,dvF,newD,subD,cfgV,Dv.vv,Rq.vv,chsP,cpsP,dpsP,rqsP,flsP,lna,lca,Rq.pv] at c0 c1 c2 c3
 simp -implicitDefEqProofs (disch:=omega) only [vf11,vb11,c0,c1,c2,c3,go_sem,↓reduceIte,rAz,rS,rE,rL,reduceCtorEq]
 have ht : ∀ k,k < 4 -> V 19 [prT.vv,(sD k).vv] [] = some (.tup [dvF (sD (k + 1)) (.p (chsP (sD (k + 1)).v)),.fresh 7 ((endedD (sD k)).map Fl.pv),.p (.int .i64 0)],[]):=fun k hk=>by
  have:=tick_eq (sD_ok k (by omega)) (sD_small k (by omega)) (by
   have h : k = 0 \/ k = 1 \/ k = 2 \/ k = 3:=by omega
   rcases h with rfl | rfl | rfl | rfl <;> decide)
  rw [sD_tick k hk] at this
  exact this
 have hfr : (sD 1).free = 30:=rfl
 have hq3 : (sD 3).queue.length = 1:=rfl
 have hq4 : (sD 4).queue.length = 0:=rfl
 have he : ∀ k,k < 4 -> eD k ++ endedD (sD k) = eD (k + 1) /\ (k < 2 -> (endedD (sD k)).length = 0) /\ (endedD (sD k)).length <= 1 /\ (eD k).length <= 1:=fun k hk=>by
  have h : k = 0 \/ k = 1 \/ k = 2 \/ k = 3:=by omega
  rcases h with rfl | rfl | rfl | rfl <;> exact ⟨rfl,by decide,by decide,by decide⟩
 have hp:=pending_eq (sD 4) 0 (by decide) (by decide)
 rw [show pendD (sD 4) 0 = 1 from rfl] at hp
 have hsm:=fun k hk=>sD_small k hk
 obtain ⟨I,hI⟩ : ∃ I : Nat -> St -> Prop,∀ k s,I k s ↔ ∃ (w : Nat) (acc : List Fl),acc = eD k /\ s.pe 1 = .ptr (.slot 1 0) 0 0 /\ s.pe 2 = .ptr (.slot 2 0) 0 0 /\ s.pe 3 = .p (.int .i64 0) /\ s.pe 4 = .p (.int .i64 0) /\ s.pe 5 = .p (.int .i64 0) /\ s.pe 6 = .own (.slot 6 0) w 0 acc.length /\ s.pe 7 = .p (.int .i64 k) /\ s.h (.slot 1 0) = some (0,Ob.box [.p (nodesP prT.nodes),.p (.int .i64 prT.next)]) /\ s.h (.slot 6 0) = some (w,Ob.arr 7 (acc.map Fl.pv)) /\ ∃ X,s.h (.slot 2 0) = some (0,Ob.box X) /\ X.map (fz0 [8,29,39] s.h) = dvC (sD k):=⟨_,fun _ _=>Iff.rfl⟩
 refine wp_count (4) I ?_ ?_
 ·refine (hI _ _).2 ⟨0,[],?_,?_,?_,?_,?_,?_,?_,?_,?_,?_,?_⟩
  ·rfl
  all_goals first | exact cl0 | (simp -implicitDefEqProofs (disch:=omega) only [lma,go_sem,↓reduceIte,rAz,rS,rE,rL,reduceCtorEq] <;> first | (simp [mBox]; done) | (simp [mBox]; omega)) | (simp -implicitDefEqProofs (disch:=omega) only [lma,go_sem,↓reduceIte,rAz,rS,rE,rL,reduceCtorEq] <;> (refine ⟨_,rfl,?_⟩; first | rfl | (simp -implicitDefEqProofs (disch:=omega) only [lma,go_sem,↓reduceIte,rAz,rS,rE,rL,reduceCtorEq]; done) | (simp -implicitDefEqProofs (disch:=omega) only [lma,go_sem,↓reduceIte,rAz,rS,rE,rL,reduceCtorEq]; rfl)))
 intro k s hk hIk
 obtain ⟨w,acc,hacc,h1,h2,h3,h4,h5,h6,h7,hh1_0,hh6_0,hX⟩:=(hI _ _).1 hIk
 clear hIk
 clear c0 c1 c2 c3 ok0 ok1
 have l1 : decide ((0 : Int) < 2) = true:=rfl
 have l2 : decide ((0 : Int) < ((0 : Nat) : Int)) = false:=rfl
 have l3 : decide ((2 : Int) = 0) = false:=rfl
 have l4 : decide ((3 : Int) = 0) = false:=rfl
 have l5 : decide ((3 : Int) = 2) = false:=rfl
 have l6 : decide ((3 : Int) < 2) = false:=rfl
 have l7 : decide (((1 : Nat) : Int) = 1) = true:=rfl
 have l10 : decide ((0 : Int) = 2) = false:=rfl
 have l11 : decide ((0 : Int) = 3) = false:=rfl
 have l12 : decide ((2 : Int) = 3) = false:=rfl
 have l9 : ∀ x : PV,([x] : List PV)[Int.toNat 0]? = some x:=fun _=>rfl
 have l8 : decide (((0 : Nat) : Int) = 0) = true:=rfl
 obtain ⟨T,hT⟩ : ∃ T,T = prT:=⟨_,rfl⟩
 rw [<- hT] at ht hh1_0 hI
 generalize sD = D at *
 obtain ⟨X,hh2,hX⟩:=hX
 simp -implicitDefEqProofs (disch:=omega) only [h1,h2,h3,h4,h5,h6,h7,hh1_0,hh6_0,hX,hh2,go_sem,↓reduceIte,rAz,rS,rE,rL,reduceCtorEq]
 refine wp_if_d (fun hlt=>?_) (fun hge=>?_)
 ·have hk4 : k < 4:=by omega
  have htk:=ht k hk4
  obtain ⟨he1,he2,hel,hal⟩:=he k hk4
  have hf1 : k = 0 -> decide ((D (k + 1)).free = 30) = true:=fun h=>by subst h; exact decide_eq_true hfr
  have hq1 : k = 2 -> decide (((D (k + 1)).queue.length : Int) = 1) = true:=fun h=>by subst h; rw [hq3]; rfl
  have hq2 : k = 3 -> decide (((D (k + 1)).queue.length : Int) = 0) = true:=fun h=>by subst h; rw [hq4]; rfl
  rw [<- hacc] at he1 hal
  generalize endedD (D k) = e at htk he1 he2 hel
  generalize hy : D (k + 1) = y at htk hf1 hq1 hq2
  have h : k = 0 \/ k = 1 \/ k = 2 \/ k = 3:=by omega
  rcases h with hk0 | hk0 | hk0 | hk0
  ·have a1:=hf1 hk0
   have a2 : decide ((0 : Int) < (e.length : Int)) = false:=decide_eq_false (by have:=he2 (by omega); omega)
   have b1 : (k : Int) < 2:=by omega
   have b2 : (k : Int) = 0:=by omega
   have b3 : ¬ (k : Int) = 2:=by omega
   have b4 : ¬ (k : Int) = 3:=by omega
   simp -implicitDefEqProofs (disch:=omega) only [h1,h2,h3,h4,h5,h6,h7,hh1_0,hh6_0,hX,hh2,hlt,htk,a1,a2,b1,b2,b3,b4,llm,Int.lt_irrefl,l1,l2,l3,l4,l5,l6,l7,l8,l10,l11,l12,go_sem,↓reduceIte,rAz,rS,rE,rL,reduceCtorEq]
   try refine And.intro (by omega) ?_
   refine (hI _ _).2 ⟨w + 1,acc ++ e,?_,?_,?_,?_,?_,?_,?_,?_,?_,?_,?_⟩
   .exact he1
   all_goals first | exact cl0 | (simp -implicitDefEqProofs (disch:=omega) only [h1,h2,h3,h4,h5,h6,h7,hh1_0,hh6_0,hX,hy,lma,go_sem,↓reduceIte,rAz,rS,rE,rL,reduceCtorEq] <;> first | (simp [mBox]; done) | (simp [mBox]; omega)) | (simp -implicitDefEqProofs (disch:=omega) only [h1,h2,h3,h4,h5,h6,h7,hh1_0,hh6_0,hX,hy,lma,go_sem,↓reduceIte,rAz,rS,rE,rL,reduceCtorEq] <;> (refine ⟨_,rfl,?_⟩; first | rfl | (simp -implicitDefEqProofs (disch:=omega) only [h1,h2,h3,h4,h5,h6,h7,hh1_0,hh6_0,hX,hy,lma,go_sem,↓reduceIte,rAz,rS,rE,rL,reduceCtorEq]; done) | (simp -implicitDefEqProofs (disch:=omega) only [h1,h2,h3,h4,h5,h6,h7,hh1_0,hh6_0,hX,hy,lma,go_sem,↓reduceIte,rAz,rS,rE,rL,reduceCtorEq]; rfl)))
  ·have a2 : decide ((0 : Int) < (e.length : Int)) = false:=decide_eq_false (by have:=he2 (by omega); omega)
   have b1 : (k : Int) < 2:=by omega
   have b2 : ¬ (k : Int) = 0:=by omega
   have b3 : ¬ (k : Int) = 2:=by omega
   have b4 : ¬ (k : Int) = 3:=by omega
   simp -implicitDefEqProofs (disch:=omega) only [h1,h2,h3,h4,h5,h6,h7,hh1_0,hh6_0,hX,hh2,hlt,htk,a2,b1,b2,b3,b4,llm,Int.lt_irrefl,l1,l2,l3,l4,l5,l6,l7,l8,l10,l11,l12,go_sem,↓reduceIte,rAz,rS,rE,rL,reduceCtorEq]
   try refine And.intro (by omega) ?_
   refine (hI _ _).2 ⟨w + 1,acc ++ e,?_,?_,?_,?_,?_,?_,?_,?_,?_,?_,?_⟩
   .exact he1
   all_goals first | exact cl0 | (simp -implicitDefEqProofs (disch:=omega) only [h1,h2,h3,h4,h5,h6,h7,hh1_0,hh6_0,hX,hy,lma,go_sem,↓reduceIte,rAz,rS,rE,rL,reduceCtorEq] <;> first | (simp [mBox]; done) | (simp [mBox]; omega)) | (simp -implicitDefEqProofs (disch:=omega) only [h1,h2,h3,h4,h5,h6,h7,hh1_0,hh6_0,hX,hy,lma,go_sem,↓reduceIte,rAz,rS,rE,rL,reduceCtorEq] <;> (refine ⟨_,rfl,?_⟩; first | rfl | (simp -implicitDefEqProofs (disch:=omega) only [h1,h2,h3,h4,h5,h6,h7,hh1_0,hh6_0,hX,hy,lma,go_sem,↓reduceIte,rAz,rS,rE,rL,reduceCtorEq]; done) | (simp -implicitDefEqProofs (disch:=omega) only [h1,h2,h3,h4,h5,h6,h7,hh1_0,hh6_0,hX,hy,lma,go_sem,↓reduceIte,rAz,rS,rE,rL,reduceCtorEq]; rfl)))
  ·have a1:=hq1 hk0
   have b1 : ¬ (k : Int) < 2:=by omega
   have b2 : ¬ (k : Int) = 0:=by omega
   have b3 : (k : Int) = 2:=by omega
   have b4 : ¬ (k : Int) = 3:=by omega
   simp -implicitDefEqProofs (disch:=omega) only [h1,h2,h3,h4,h5,h6,h7,hh1_0,hh6_0,hX,hh2,hlt,htk,a1,b1,b2,b3,b4,llm,lpn,lln,Int.lt_irrefl,l1,l2,l3,l4,l5,l6,l7,l8,l10,l11,l12,go_sem,↓reduceIte,rAz,rS,rE,rL,reduceCtorEq]
   try refine And.intro (by omega) ?_
   refine (hI _ _).2 ⟨w + 1,acc ++ e,?_,?_,?_,?_,?_,?_,?_,?_,?_,?_,?_⟩
   .exact he1
   all_goals first | exact cl0 | (simp -implicitDefEqProofs (disch:=omega) only [h1,h2,h3,h4,h5,h6,h7,hh1_0,hh6_0,hX,hy,lma,go_sem,↓reduceIte,rAz,rS,rE,rL,reduceCtorEq] <;> first | (simp [mBox]; done) | (simp [mBox]; omega)) | (simp -implicitDefEqProofs (disch:=omega) only [h1,h2,h3,h4,h5,h6,h7,hh1_0,hh6_0,hX,hy,lma,go_sem,↓reduceIte,rAz,rS,rE,rL,reduceCtorEq] <;> (refine ⟨_,rfl,?_⟩; first | rfl | (simp -implicitDefEqProofs (disch:=omega) only [h1,h2,h3,h4,h5,h6,h7,hh1_0,hh6_0,hX,hy,lma,go_sem,↓reduceIte,rAz,rS,rE,rL,reduceCtorEq]; done) | (simp -implicitDefEqProofs (disch:=omega) only [h1,h2,h3,h4,h5,h6,h7,hh1_0,hh6_0,hX,hy,lma,go_sem,↓reduceIte,rAz,rS,rE,rL,reduceCtorEq]; rfl)))
  ·have a1:=hq2 hk0
   have b1 : ¬ (k : Int) < 2:=by omega
   have b2 : ¬ (k : Int) = 0:=by omega
   have b3 : ¬ (k : Int) = 2:=by omega
   have b4 : (k : Int) = 3:=by omega
   simp -implicitDefEqProofs (disch:=omega) only [h1,h2,h3,h4,h5,h6,h7,hh1_0,hh6_0,hX,hh2,hlt,htk,a1,b1,b2,b3,b4,llm,lpn,lln,Int.lt_irrefl,l1,l2,l3,l4,l5,l6,l7,l8,l10,l11,l12,go_sem,↓reduceIte,rAz,rS,rE,rL,reduceCtorEq]
   try refine And.intro (by omega) ?_
   refine (hI _ _).2 ⟨w + 1,acc ++ e,?_,?_,?_,?_,?_,?_,?_,?_,?_,?_,?_⟩
   .exact he1
   all_goals first | exact cl0 | (simp -implicitDefEqProofs (disch:=omega) only [h1,h2,h3,h4,h5,h6,h7,hh1_0,hh6_0,hX,hy,lma,go_sem,↓reduceIte,rAz,rS,rE,rL,reduceCtorEq] <;> first | (simp [mBox]; done) | (simp [mBox]; omega)) | (simp -implicitDefEqProofs (disch:=omega) only [h1,h2,h3,h4,h5,h6,h7,hh1_0,hh6_0,hX,hy,lma,go_sem,↓reduceIte,rAz,rS,rE,rL,reduceCtorEq] <;> (refine ⟨_,rfl,?_⟩; first | rfl | (simp -implicitDefEqProofs (disch:=omega) only [h1,h2,h3,h4,h5,h6,h7,hh1_0,hh6_0,hX,hy,lma,go_sem,↓reduceIte,rAz,rS,rE,rL,reduceCtorEq]; done) | (simp -implicitDefEqProofs (disch:=omega) only [h1,h2,h3,h4,h5,h6,h7,hh1_0,hh6_0,hX,hy,lma,go_sem,↓reduceIte,rAz,rS,rE,rL,reduceCtorEq]; rfl)))
 ·have hk : k = 4:=by omega
  subst hk
  have ha : acc = [⟨rA,3⟩]:=hacc
  subst ha
  simp -implicitDefEqProofs (disch:=omega) only [h1,h2,h3,h4,h5,h6,h7,hh1_0,hh6_0,hX,hh2,hX,hge,hp,l7,l9,go_sem,↓reduceIte,rAz,rS,rE,rL,reduceCtorEq]
theorem sumI_const {α : Type} {c : Int} : ∀ (l : List α),sumI (l.map fun _=>c) = c * l.length
 | []=>by simp [sumI]
 | x :: l=>by
  have:=sumI_const (c:=c) l
  simp only [lpc,sumI,this,llc,Int.natCast_add,Int.mul_add]
  omega
theorem kids_lt {t : Tr} (h : TreeOk t) {i : Nat} {n : Nd} (hn : t.nodes[i]? = some n) : (kidsN t.nodes n.id).length + 1 <= t.nodes.length:=by
 have hx : n.id ∉ kidsN t.nodes n.id:=fun hm=>by
  obtain ⟨j,m,hm1,hm2,hm3⟩:=mem_kidsN.1 hm
  have:=h.kid hn hm1 hm2
  obtain ⟨e,_⟩:=h.idx hn hm1 hm3.symm
  omega
 have hsub : ∀ x ∈ n.id :: kidsN t.nodes n.id,x ∈ t.nodes.map (·.id):=fun x hm=>by
  rcases lmk.1 hm with rfl | hm
  ·exact List.mem_map_of_mem (lmg hn)
  ·obtain ⟨j,m,hm1,_,rfl⟩:=mem_kidsN.1 hm
   exact List.mem_map_of_mem (lmg hm1)
 have:=nodup_length_le _ _ (List.nodup_cons.2 ⟨hx,nodup_kidsN h n.id⟩) hsub
 simpa using this
def loS (i : Nat) : Int:=if i = 0 then 1073741824 else if i = 1 then 357913941 else if i = 2 then 119304647 else 39768215
theorem shr_small {t : Tr} (h : TreeOk t) (hl : t.nodes.length <= 4) {on : Int -> Bool} (hu : UpClosed t on) : ∀ (i : Nat) (n : Nd),t.nodes[i]? = some n -> on n.id = true -> loS i <= shr t (wtOf []) on n.id:=by
 intro i
 induction i using Nat.strongRecOn with
 | _ i ih =>
  intro n hn hon
  have hi4 : i < 4:=by have:=(lgs.1 hn).1; omega
  by_cases hi : i = 0
  ·rcases h.nodeAt hn with ⟨_,h1,_⟩ | ⟨h0,_⟩
   ·rw [h1,shr_root t h]; unfold loS; rw [if_pos hi]; omega
   ·omega
  ·rw [shr_step h (wtOf []) on hn hi,if_pos hon]
   rcases h.nodeAt hn with ⟨h0,_⟩ | ⟨_,h1,j,p,hj,hp,hpe⟩
   ·omega
   ·have hpo:=hu.up i n hn hi hon
    have hs:=ih j hj p hp (by rw [hpe]; exact hpo)
    rw [hpe] at hs
    have hw : ∀ x,1 <= wtOf [] x:=fun x=>by show (1 : Int) <= 100; omega
    have hge:=sumW_ge hw hn hon
    have hk:=kids_lt h hp
    have hle : sumW t (wtOf []) on n.parent <= 300:=by
     have e : sumW t (wtOf []) on n.parent = 100 * (((kidsN t.nodes n.parent).filter on).length : Int):=sumI_const (c:=100) _
     have:=List.length_filter_le on (kidsN t.nodes n.parent)
     rw [hpe] at hk
     omega
    have hwn : wtOf [] n.id = 100:=rfl
    have h0 : 0 <= loS j:=by unfold loS; split <;> (try split) <;> (try split) <;> omega
    rw [hwn] at hge ⊢
    generalize shr t (wtOf []) on n.parent = s at *
    generalize sumW t (wtOf []) on n.parent = W at *
    have hd:=div_mono (a:=s * 100) (b:=s * 100) (W:=W) (W':=300) (by omega) (Int.le_refl _) (by omega) hle
    have hji : loS i * 3 <= loS j:=by
     have hc : (j = 0 /\ i = 1) \/ (j = 0 /\ i = 2) \/ (j = 0 /\ i = 3) \/ (j = 1 /\ i = 2) \/ (j = 1 /\ i = 3) \/ (j = 2 /\ i = 3):=by omega
     rcases hc with ⟨rfl,rfl⟩ | ⟨rfl,rfl⟩ | ⟨rfl,rfl⟩ | ⟨rfl,rfl⟩ | ⟨rfl,rfl⟩ | ⟨rfl,rfl⟩ <;> decide
    omega
theorem issue_fine {t : Tr} {d : Dv} (h : DvOk t d) {g : Int} {r : Rq} (hr : soundR r = true) (hm : mayA t d.v g (d.now * d.speed) = true) (hs : 8 <= shareD t d g /\ shareD t d g <= 1073741824) :
  (IssueA t d.v g (shareD t d g) (costD d r) (d.now * d.speed) d.margin).2 = 0:=by
 have hb:=busy_range h
 have hc:=cost_pos h hr
 obtain ⟨_,_,hmg⟩:=configOk_iff.1 h.cfg
 unfold mayA at hm
 simp only [bat,decide_eq_true_eq] at hm
 generalize d.now * d.speed = now at *
 generalize costD d r = c at *
 generalize shareD t d g = s at *
 have hv : issueV d.v g s c now d.margin <= 1152921504606846976:=by
  unfold issueV
  have h1 : (c * 1073741824 + s - 1) / s <= (c * 1073741824 + s - 1) / 8:=by
   have:=div_mono (a:=c * 1073741824 + s - 1) (b:=c * 1073741824 + s - 1) (W:=8) (W':=s) (by omega) (Int.le_refl _) (by omega) hs.1
   exact this
  omega
 unfold IssueA
 rw [if_pos hm.1.1,if_pos hm.1.2,if_pos ⟨⟨by omega,hs.2⟩,⟨hc.1,by omega⟩,⟨hb.1,by omega⟩,hmg⟩,if_neg (by omega),if_neg (by omega)]
theorem works_end {t : Tr} {d : Dv} (h : DvOk t d) (hw : d.weights = []) (hl : t.nodes.length <= 4) (he : EndD t d) (hb : d.free < d.now * d.speed) : nxtA t d.v (d.now * d.speed) 0 (msort (readyL t d [] d.queue)) = 0:=by
 rcases he with he | he | he | ⟨r,he1,he2⟩
 ·omega
 ·exact he
 ·by_cases h0 : nxtA t d.v (d.now * d.speed) 0 (msort (readyL t d [] d.queue)) = 0
  ·exact h0
  ·obtain ⟨r,hr,_⟩:=next_first h0
   rw [hr] at he
   cases he
 ·by_cases h0 : nxtA t d.v (d.now * d.speed) 0 (msort (readyL t d [] d.queue)) = 0
  ·exact h0
  ·have hm:=(nxt_mem h0).2
   generalize nxtA t d.v (d.now * d.speed) 0 (msort (readyL t d [] d.queue)) = g at *
   obtain ⟨hq,hg⟩:=firstQ_mem he1
   obtain ⟨hs,hk⟩:=h.q r hq
   rw [hg] at hk
   obtain ⟨n,hn,hid⟩:=findN_some hk
   obtain ⟨i,hi⟩:=lgm hn
   have hact : g ∈ actL d:=by
    unfold actL
    rw [<- hg]
    exact List.mem_append_left _ (List.mem_map_of_mem hq)
   have hon : onB t (actL d) n.id = true:=by
    unfold onB
    rw [List.any_eq_true]
    exact ⟨g,hact,decide_eq_true (by rw [hid]; have:=anc_self h.tree hi; rwa [hid] at this)⟩
   have hu:=onB_up h.tree (actL d)
   have h1:=shr_small h.tree hl hu i n hi hon
   have h2:=shr_range h.tree (w:=wtOf []) (fun x=>by show (1 : Int) <= 100; omega) hu i n hi
   have h3 : 8 <= loS i:=by unfold loS; split <;> (try split) <;> (try split) <;> omega
   refine absurd (issue_fine h hs hm ⟨?_,?_⟩) he2
   .unfold shareD; rw [hw,<- hid]; omega
   .unfold shareD; rw [hw,<- hid]; exact h2.2.1
theorem addT_len (t : Tr) (p : Int) (s : ByteArray) : (addT t p s).1.nodes.length <= t.nodes.length + 1:=by
 unfold addT
 repeat' split
 all_goals simp
theorem removeT_len (t : Tr) (id : Int) : (removeT t id).1.nodes.length <= t.nodes.length:=by
 unfold removeT
 repeat' split
 all_goals first | (exact List.length_filter_le _ _) | simp
theorem treeStep_len (L : List Int) (a : Nat) (t : Tr) : (treeStep L a t).1.nodes.length <= t.nodes.length + 1:=by
 have h1 : ∀ p s,(if (addT t p s).2.2 = 0 then (addT t p s).1 else t).nodes.length <= t.nodes.length + 1:=fun p s=>by
  split
  ·exact addT_len t p s
  ·omega
 unfold treeStep
 simp only
 split
 ·have h2 : ∀ (u : Tr) (q : Int),(if (removeT u q).2 = 0 then (removeT u q).1 else u).nodes.length <= u.nodes.length:=fun u q=>by
   split
   .exact removeT_len u q
   .omega
  exact Nat.le_trans (h2 _ _) (h1 _ _)
 .exact h1 _ _
theorem treeLoop_len (L : List Int) : ∀ (k a : Nat) (t : Tr),(treeLoop L k a t).1.nodes.length <= t.nodes.length + k
 | 0,_,_=>lrf _
 | k + 1,a,t=>by
  have h1:=treeLoop_len L k (treeStep L a t).2 (treeStep L a t).1
  have h2:=treeStep_len L a t
  show (treeLoop L k _ _).1.nodes.length <= _
  omega
theorem dTree_len (L : List Int) (a n : Nat) : (dTree L a n).1.nodes.length <= n + 1:=by
 have h:=treeLoop_len L (nextV L a (n + 1)).toNat (nextA L a (n + 1)) newT
 have h1:=nextV_lt L a (n:=(n : Int) + 1) (by omega)
 have h2:=nextV_nonneg L a ((n : Int) + 1)
 have h3 : newT.nodes.length = 1:=rfl
 unfold dTree
 omega
theorem newD_ok {t : Tr} (h : TreeOk t) {m : Mdl} {speed margin : Int} (hc : configOk m speed margin = true) : DvOk t (newD m speed margin) :=
 ⟨h,hc,by simp,by simp,by simp,(ascOk_iff _ _ _ _).1 rfl,rfl,(ascOk_iff _ _ _ _).1 rfl,by simp,rfl,by simp,rfl⟩
theorem subD_ok {t : Tr} {d : Dv} {r : Rq} (h : DvOk t d) (hr : soundR { r with time:=0 } = true) (hk : knownN t.nodes r.group = true) (hl : d.queue.length + d.flights.length < 256) : DvOk t (subD d r):=by
 refine ⟨h.tree,h.cfg,h.now,h.free,h.head,h.w,h.dp,h.v,?_,h.bk,fun x hx=>?_,h.fl⟩
 ·show (d.queue ++ [_]).length + d.flights.length <= 256
  rw [lla,List.length_singleton]
  omega
 ·rcases lmp.1 hx with hx | hx
  ·exact h.q x hx
  ·rw [List.mem_singleton] at hx
   subst hx
   refine ⟨?_,hk⟩
   have hn:=h.now
   rw [soundR_iff] at hr ⊢
   simp only at hr ⊢
   omega
set_option maxHeartbeats 8000000 in
theorem deviceWorks_eq (L : List Int) : V 3 [.p (intsP L)] [] = some (.p (.bool true),[]):=by
 refine V_wp (vf:=vf3) rfl ?_
 have hli:=light_eq (L.map (PV.int .i64))
 rw [llm] at hli
 by_cases hL : L.length <= 600
 ·rw [decide_eq_true hL] at hli
  have hro:=roll_eq L
  have htr : V 13 [.ptr (.arg 0 0) 0 0,.p (.int .i64 3)] [.box [.p (intsP L),.p (.int .i64 0)]] = some ((dTree L 0 3).1.vv,[diceB L (dTree L 0 3).2]):=tree_eq L 0 3 (by omega) (by omega)
  have hok:=dTree_ok L 0 3
  have htl:=dTree_len L 0 3
  generalize dTree L 0 3 = ta at htr hok htl
  obtain ⟨t,a0⟩:=ta
  simp only at htr hok htl
  have hlen:=hok.len
  obtain ⟨m,speed,margin,b0,hcf,hcok⟩:=dconf_eq L a0 (by omega)
  have hnw:=r34new_eq m speed margin hcok
  have hD:=newD_ok hok hcok
  simp -implicitDefEqProofs (disch:=omega) only [vf3,vb3,hli,hro,htr,hcf,hnw,go_sem,↓reduceIte,rAz,rS,rE,rL,reduceCtorEq]
  obtain ⟨I,hI⟩ : ∃ I : Nat -> St -> Prop,∀ k s,I k s ↔ ∃ (x : Dv) (b : Nat) (S : Nat) (E : Nat),DvOk t x /\ x.weights = [] /\ x.now = k /\ S = E + x.queue.length + x.flights.length /\ x.queue.length + x.flights.length <= 2 * k /\ S <= 2 * k /\ s.pe 3 = .ptr (.slot 25 1) 0 0 /\ s.pe 4 = .ptr (.slot 4 0) 0 0 /\ s.pe 5 = .ptr (.slot 5 0) 0 0 /\ s.pe 7 = .p (.int .i64 (S : Nat)) /\ s.pe 8 = .p (.int .i64 (E : Nat)) /\ s.pe 9 = .p (.int .i64 k) /\ s.h (.slot 4 0) = some (0,Ob.box [.p (nodesP t.nodes),.p (.int .i64 t.next)]) /\ s.h (.slot 25 1) = some (0,Ob.box [.p (intsP L),.p (.int .i64 (b : Nat))]) /\ ∃ X,s.h (.slot 5 0) = some (0,Ob.box X) /\ X.map (fz0 [11,13,31,50,61,95] s.h) = dvC x:=⟨_,fun _ _=>Iff.rfl⟩
  refine wp_count (30) I ?_ ?_
  ·refine (hI _ _).2 ⟨newD m speed margin,b0,0,0,?_,?_,?_,?_,?_,?_,?_,?_,?_,?_,?_,?_,?_,?_,?_⟩
   ·exact hD
   ·exact cl3
   ·exact cl3
   ·exact cl3
   ·exact cl3
   ·exact cl3
   all_goals first | exact cl0 | (simp -implicitDefEqProofs (disch:=omega) only [lma,go_sem,↓reduceIte,rAz,rS,rE,rL,reduceCtorEq] <;> first | (simp [mBox]; done) | (simp [mBox]; omega)) | (simp -implicitDefEqProofs (disch:=omega) only [lma,go_sem,↓reduceIte,rAz,rS,rE,rL,reduceCtorEq] <;> (refine ⟨_,rfl,?_⟩; first | rfl | (simp -implicitDefEqProofs (disch:=omega) only [lma,go_sem,↓reduceIte,rAz,rS,rE,rL,reduceCtorEq]; done) | (simp -implicitDefEqProofs (disch:=omega) only [lma,go_sem,↓reduceIte,rAz,rS,rE,rL,reduceCtorEq]; rfl)))
  intro k s hk hIk
  obtain ⟨x,b,S,E,hx,hw,hnow,hsum,hcap,hSb,h3,h4,h5,h7,h8,h9,hh4_0,hh25_1,hX⟩:=(hI _ _).1 hIk
  clear hIk
  obtain ⟨X,hX⟩:=hX
  simp -implicitDefEqProofs (disch:=omega) only [h3,h4,h5,h7,h8,h9,hh4_0,hh25_1,hX,go_sem,↓reduceIte,rAz,rS,rE,rL,reduceCtorEq]
  refine wp_if_d (fun hlt=>?_) (fun hge=>?_)
  ·have hk30 : k < 30:=by omega
   have c1:=next_eq L b 3 (by omega) (by omega)
   have n0:=nextV_nonneg L b 3
   have n1:=nextV_lt L b (n:=3) (by omega)
   generalize nextA L b 3 = b1 at c1
   generalize nextV L b 3 = v at c1 n0 n1
   obtain ⟨N,rfl⟩ : ∃ N : Nat,v = N:=⟨v.toNat,by omega⟩
   simp -implicitDefEqProofs (disch:=omega) only [h3,h4,h5,h7,h8,h9,hh4_0,hh25_1,hX,hlt,c1,go_sem,↓reduceIte,rAz,rS,rE,rL,reduceCtorEq]
   obtain ⟨J,hJ⟩ : ∃ I : Nat -> St -> Prop,∀ j s,I j s ↔ ∃ (y : Dv) (c : Nat) (S1 : Nat),DvOk t y /\ y.weights = [] /\ y.now = k /\ S1 = E + y.queue.length + y.flights.length /\ y.queue.length + y.flights.length <= 2 * k + j /\ S1 <= 2 * k + j /\ s.pe 3 = .ptr (.slot 25 1) 0 0 /\ s.pe 4 = .ptr (.slot 4 0) 0 0 /\ s.pe 5 = .ptr (.slot 5 0) 0 0 /\ s.pe 7 = .p (.int .i64 (S1 : Nat)) /\ s.pe 8 = .p (.int .i64 (E : Nat)) /\ s.pe 9 = .p (.int .i64 ↑k) /\ s.pe 10 = .p (.int .i64 ((N : Int) - j)) /\ s.h (.slot 4 0) = some (0,Ob.box [.p (nodesP t.nodes),.p (.int .i64 t.next)]) /\ s.h (.slot 25 1) = some (0,Ob.box [.p (intsP L),.p (.int .i64 (c : Nat))]) /\ ∃ X,s.h (.slot 5 0) = some (0,Ob.box X) /\ X.map (fz0 [11,50] s.h) = dvC y:=⟨_,fun _ _=>Iff.rfl⟩
   refine wp_count (N) J ?_ ?_
   ·refine (hJ _ _).2 ⟨x,b1,S,?_,?_,?_,?_,?_,?_,?_,?_,?_,?_,?_,?_,?_,?_,?_,?_⟩
    ·exact hx
    ·exact hw
    ·exact hnow
    ·exact hsum
    ·exact hcap
    ·exact hSb
    all_goals first | exact cl0 | (simp -implicitDefEqProofs (disch:=omega) only [h3,h4,h5,h7,h8,h9,hh4_0,hh25_1,hX,lma,go_sem,↓reduceIte,rAz,rS,rE,rL,reduceCtorEq] <;> first | (simp [mBox]; done) | (simp [mBox]; omega)) | (simp -implicitDefEqProofs (disch:=omega) only [h3,h4,h5,h7,h8,h9,hh4_0,hh25_1,hX,lma,go_sem,↓reduceIte,rAz,rS,rE,rL,reduceCtorEq] <;> (refine ⟨_,rfl,?_⟩; first | rfl | (simp -implicitDefEqProofs (disch:=omega) only [h3,h4,h5,h7,h8,h9,hh4_0,hh25_1,hX,lma,go_sem,↓reduceIte,rAz,rS,rE,rL,reduceCtorEq]; done) | (simp -implicitDefEqProofs (disch:=omega) only [h3,h4,h5,h7,h8,h9,hh4_0,hh25_1,hX,lma,go_sem,↓reduceIte,rAz,rS,rE,rL,reduceCtorEq]; rfl)))
   intro j s hj hJk
   obtain ⟨y,c,S1,hy,hyw,hyn,hys,hyc,hSb1,h3,h4,h5,h7,h8,h9,h10,hh4_0,hh25_1,hY⟩:=(hJ _ _).1 hJk
   clear hJk
   obtain ⟨Y,hY⟩:=hY
   have hys2:=ok_small hy
   simp -implicitDefEqProofs (disch:=omega) only [h3,h4,h5,h7,h8,h9,h10,hh4_0,hh25_1,hY,go_sem,↓reduceIte,rAz,rS,rE,rL,reduceCtorEq]
   refine wp_if_d (fun hjl=>?_) (fun hjg=>?_)
   ·obtain ⟨r,c1,e1,hr1,hr2⟩:=request_eq L c hok (by omega)
    have e2:=submit_eq t y r hy hys2 hr1 hr2 (by omega)
    have hok2:=subD_ok hy hr1 hr2 (by omega)
    have hz1 : (subD y r).queue.length = y.queue.length + 1:=by rw [lla,List.length_singleton]
    have hz2 : (subD y r).flights = y.flights:=rfl
    have hz3 : (subD y r).weights = []:=hyw
    have hz4 : (subD y r).now = k:=hyn
    have hz5 : (subD y r).v = y.v:=rfl
    rw [<- hz5] at e2
    generalize subD y r = z at e2 hok2 hz1 hz2 hz3 hz4
    simp -implicitDefEqProofs (disch:=omega) only [h3,h4,h5,h7,h8,h9,h10,hh4_0,hh25_1,hY,hjl,e1,e2,go_sem,↓reduceIte,rAz,rS,rE,rL,reduceCtorEq]
    try refine And.intro (by omega) ?_
    refine (hJ _ _).2 ⟨z,c1,S1 + 1,?_,?_,?_,?_,?_,?_,?_,?_,?_,?_,?_,?_,?_,?_,?_,?_⟩
    ·exact hok2
    ·exact hz3
    ·exact hz4
    ·exact by rw [hz1,hz2]; omega
    ·exact by rw [hz1,hz2]; omega
    ·omega
    all_goals first | exact cl0 | (simp -implicitDefEqProofs (disch:=omega) only [h3,h4,h5,h7,h8,h9,h10,hh4_0,hh25_1,hY,lma,go_sem,↓reduceIte,rAz,rS,rE,rL,reduceCtorEq] <;> first | (simp [mBox]; done) | (simp [mBox]; omega)) | (simp -implicitDefEqProofs (disch:=omega) only [h3,h4,h5,h7,h8,h9,h10,hh4_0,hh25_1,hY,lma,go_sem,↓reduceIte,rAz,rS,rE,rL,reduceCtorEq] <;> (refine ⟨_,rfl,?_⟩; first | rfl | (simp -implicitDefEqProofs (disch:=omega) only [h3,h4,h5,h7,h8,h9,h10,hh4_0,hh25_1,hY,lma,go_sem,↓reduceIte,rAz,rS,rE,rL,reduceCtorEq]; done) | (simp -implicitDefEqProofs (disch:=omega) only [h3,h4,h5,h7,h8,h9,h10,hh4_0,hh25_1,hY,lma,go_sem,↓reduceIte,rAz,rS,rE,rL,reduceCtorEq]; rfl)))
   ·have e3:=tick_eq hy hys2 (by omega)
    have hokT:=tickD_ok hy (by omega)
    have hcnt:=tickD_count t y
    have hkp:=tickD_keeps t y
    have hend:=tickD_end t y
    have hsmT:=ok_small hokT
    have hready:=ready20_eq t (tickD t y) hokT hsmT
    have hrl:=readyL_len t (tickD t y) (tickD t y).queue []
    have hml:=msort_length (readyL t (tickD t y) [] (tickD t y).queue)
    have hbT:=busy_range hokT
    have hfT:=hokT.free
    have hwe:=fun hb=>works_end hokT (by rw [hkp.2.2.2.2.1]; exact hyw) htl hend hb
    have hnx:=rnext_eq t (tickD t y).v (msort (readyL t (tickD t y) [] (tickD t y).queue)) ((tickD t y).now * (tickD t y).speed) (by omega) hsmT.v (by have:=hsmT.q; omega)
    have hE : (endedD y).length <= y.flights.length:=(List.takeWhile_sublist _).length_le
    generalize endedD y = e at e3 hcnt hE
    obtain ⟨hk1,_,_,_,hk5,_⟩:=hkp
    rw [hyw] at hk5
    rw [hyn] at hk1
    generalize tickD t y = z at e3 hokT hcnt hk1 hk5 hend hsmT hready hrl hml hbT hfT hwe hnx
    have hs1 : (S1 : Int) = (E : Int) + e.length + z.queue.length + z.flights.length:=by omega
    by_cases hb : z.free < z.now * z.speed
    ·rw [hwe hb] at hnx
     generalize msort (readyL t z [] z.queue) = R at hready hnx
     simp -implicitDefEqProofs (disch:=omega) only [h3,h4,h5,h7,h8,h9,h10,hh4_0,hh25_1,hY,hjg,e3,hb,hready,hnx,<- hs1,go_sem,↓reduceIte,rAz,rS,rE,rL,reduceCtorEq]
     try refine And.intro (by omega) ?_
     refine (hI _ _).2 ⟨z,c,S1,E + e.length,?_,?_,?_,?_,?_,?_,?_,?_,?_,?_,?_,?_,?_,?_,?_⟩
     .exact hokT
     .exact hk5
     .exact by rw [hk1]; omega
     .omega
     .omega
     .omega
     all_goals first | exact cl0 | (simp -implicitDefEqProofs (disch:=omega) only [h3,h4,h5,h7,h8,h9,hh4_0,hh25_1,hX,lma,go_sem,↓reduceIte,rAz,rS,rE,rL,reduceCtorEq] <;> first | (simp [mBox]; done) | (simp [mBox]; omega)) | (simp -implicitDefEqProofs (disch:=omega) only [h3,h4,h5,h7,h8,h9,hh4_0,hh25_1,hX,lma,go_sem,↓reduceIte,rAz,rS,rE,rL,reduceCtorEq] <;> (refine ⟨_,rfl,?_⟩; first | rfl | (simp -implicitDefEqProofs (disch:=omega) only [h3,h4,h5,h7,h8,h9,hh4_0,hh25_1,hX,lma,go_sem,↓reduceIte,rAz,rS,rE,rL,reduceCtorEq]; done) | (simp -implicitDefEqProofs (disch:=omega) only [h3,h4,h5,h7,h8,h9,hh4_0,hh25_1,hX,lma,go_sem,↓reduceIte,rAz,rS,rE,rL,reduceCtorEq]; rfl)))
    ·simp -implicitDefEqProofs (disch:=omega) only [h3,h4,h5,h7,h8,h9,h10,hh4_0,hh25_1,hY,hjg,e3,hb,<- hs1,go_sem,↓reduceIte,rAz,rS,rE,rL,reduceCtorEq]
     try refine And.intro (by omega) ?_
     refine (hI _ _).2 ⟨z,c,S1,E + e.length,?_,?_,?_,?_,?_,?_,?_,?_,?_,?_,?_,?_,?_,?_,?_⟩
     .exact hokT
     .exact hk5
     .exact by rw [hk1]; omega
     .omega
     .omega
     .omega
     all_goals first | exact cl0 | (simp -implicitDefEqProofs (disch:=omega) only [h3,h4,h5,h7,h8,h9,hh4_0,hh25_1,hX,lma,go_sem,↓reduceIte,rAz,rS,rE,rL,reduceCtorEq] <;> first | (simp [mBox]; done) | (simp [mBox]; omega)) | (simp -implicitDefEqProofs (disch:=omega) only [h3,h4,h5,h7,h8,h9,hh4_0,hh25_1,hX,lma,go_sem,↓reduceIte,rAz,rS,rE,rL,reduceCtorEq] <;> (refine ⟨_,rfl,?_⟩; first | rfl | (simp -implicitDefEqProofs (disch:=omega) only [h3,h4,h5,h7,h8,h9,hh4_0,hh25_1,hX,lma,go_sem,↓reduceIte,rAz,rS,rE,rL,reduceCtorEq]; done) | (simp -implicitDefEqProofs (disch:=omega) only [h3,h4,h5,h7,h8,h9,hh4_0,hh25_1,hX,lma,go_sem,↓reduceIte,rAz,rS,rE,rL,reduceCtorEq]; rfl)))
  .simp -implicitDefEqProofs (disch:=omega) only [h3,h4,h5,h7,h8,h9,hh4_0,hh25_1,hX,hge,sane34_eq,go_sem,↓reduceIte,rAz,rS,rE,rL,reduceCtorEq]
 ·rw [decide_eq_false hL] at hli
  simp -implicitDefEqProofs (disch:=omega) only [vf3,vb3,hli,sane34_eq,go_sem,↓reduceIte,rAz,rS,rE,rL,reduceCtorEq]
end Go.V
