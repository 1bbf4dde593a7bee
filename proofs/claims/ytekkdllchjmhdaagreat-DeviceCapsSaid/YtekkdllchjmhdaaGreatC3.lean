/- Part 3 of the proof. -/
import Derived.Test.YtekkdllchjmhdaaGreatC2
set_option linter.unusedSectionVars false
set_option linter.unusedSimpArgs false
set_option linter.unusedVariables false
open Nat renaming reduceAdd → rA, reduceSub → rS, reduceEqDiff → rE, reduceLeDiff → rL, le_refl → lrf
open List renaming getElem?_eq_getElem → lgg, getElem?_eq_some_iff → lgs, mem_of_getElem? → lmg, drop_eq_getElem_cons → ldg, mem_cons_of_mem → lmc, map_cons → lpc, drop_of_length_le → ldl, nil_append → lna, append_assoc → laa, append_nil → lan, mem_map → lmm, mem_cons_self → lms, map_append → lma, take_of_length_le → ltl, getElem?_of_mem → lgm, length_cons → llc, length_append → lla, flatMap_cons → lfc, mem_cons → lmk, map_nil → lpn, mem_append → lmp, length_map → llm, eq_nil_of_length_eq_zero → lez, getElem_mem → lgk, length_take → llt, length_drop → lld, pairwise_cons → lpw, cons_append → lca, foldl_append → lfa, filter_cons → lfl
open Option renaming some.injEq → osi
open Bool renaming and_eq_true → bat, false_and → bfa, false_eq_true → bft, true_and → bta
namespace Go.V
def Rep3 (ks : List MKey) (vs : List PV) (on : Int -> Bool) : Prop:=∀ id,mget ks vs (.int id) = if on id = true then some (.bool true) else none
theorem Rep3.put {ks : List MKey} {vs : List PV} {on : Int -> Bool} (h : Rep3 ks vs on) (g : Int) : Rep3 (mput ks vs (.int g) (.bool true)).1 (mput ks vs (.int g) (.bool true)).2 (fun x=>on x || decide (x = g)):=by
 intro id
 rw [mget_mput]
 by_cases hg : id = g
 ·subst hg
  simp
 ·simp [hg]
  exact h id
theorem Rep3.congr {ks : List MKey} {vs : List PV} {on on' : Int -> Bool} (h : Rep3 ks vs on) (he : ∀ x,on x = on' x) : Rep3 ks vs on':=fun id=>by rw [<- he]; exact h id
set_option maxHeartbeats 1000000 in
theorem busy_eq (t : Tr) (active : List Int) (hn : t.nodes.length < 1000000) (ha : active.length < 1000000) : ∃ ks vs,V 227 [t.vv,.p (intsP active)] [] = some (.p (.map (.int .i64) ks vs),[]) /\ Rep3 ks vs (onB t active):=by
 suffices hw : wp (callF V vf227 [t.vv,.p (intsP active)] []) (fun r=>∃ ks vs,r = (.p (.map (.int .i64) ks vs),[]) /\ Rep3 ks vs (onB t active)) by
  obtain ⟨r,hr,ks,vs,rfl,hrep⟩:=hw
  exact ⟨ks,vs,V_fix (vf:=vf227) rfl hr,hrep⟩
 simp -implicitDefEqProofs (disch:=omega) only [vf227,vb227,go_sem,↓reduceIte,rA,rS,rE,rL,reduceCtorEq]
 obtain ⟨I,hI⟩ : ∃ I : Nat -> St -> Prop,∀ k s,I k s ↔ ∃ (ks : List MKey) (vs : List PV),Rep3 ks vs (onB t (active.take k)) /\ s.pe 2 = .ptr (.slot 2 0) 0 0 /\ s.pe 5 = .mref (.slot 10 0) 0 /\ s.pe 11 = .p (intsP active) /\ s.pe 12 = .p (.int .i64 ↑active.length) /\ s.pe 13 = .p (.int .i64 k) /\ s.h (.slot 2 0) = some (0,Ob.box [.p (nodesP t.nodes),.p (.int .i64 t.next)]) /\ s.h (.slot 10 0) = some (0,Ob.map (KT.int IntKind.i64) ks vs):=⟨_,fun _ _=>Iff.rfl⟩
 refine wp_count (active.length) I ?_ ?_
 ·refine (hI _ _).2 ⟨[],[],?_,?_,?_,?_,?_,?_,?_,?_⟩
  ·exact fun id=>rfl
  all_goals first | exact cl0 | (simp -implicitDefEqProofs (disch:=omega) only [lma,go_sem,↓reduceIte,rA,rS,rE,rL,reduceCtorEq] <;> first | (simp [sumI]; done) | (simp [sumI]; omega))
 intro k s hk hIk
 obtain ⟨ks,vs,hrep,h2,h5,h11,h12,h13,hh2_0,hh10_0⟩:=(hI _ _).1 hIk
 clear hIk
 simp -implicitDefEqProofs (disch:=omega) only [h2,h5,h11,h12,h13,hh2_0,hh10_0,go_sem,↓reduceIte,rA,rS,rE,rL,reduceCtorEq]
 refine wp_if_d (fun hlt=>?_) (fun hge=>?_)
 ·have hm : active[k]? = some active[k]:=lgg hlt
  generalize active[k] = g at hm
  have hst : ∀ x,onB t (active.take (k + 1)) x = (onB t (active.take k) x || decide (x ∈ ancF t.nodes t.nodes.length g)):=fun x=>by
   unfold onB
   rw [any_take hm]
  have c1:=fanc_eq t g hn
  have hal:=ancF_length t.nodes t.nodes.length g
  generalize ancF t.nodes t.nodes.length g = A at c1 hst hal
  simp -implicitDefEqProofs (disch:=omega) only [h2,h5,h11,h12,h13,hh2_0,hh10_0,hlt,hm,c1,go_sem,↓reduceIte,rA,rS,rE,rL,reduceCtorEq]
  obtain ⟨J,hJ⟩ : ∃ I : Nat -> St -> Prop,∀ j s,I j s ↔ ∃ (ks : List MKey) (vs : List PV) (v19_1 : Nat),Rep3 ks vs (fun x=>onB t (active.take k) x || decide (x ∈ A.take j)) /\ s.pe 2 = .ptr (.slot 2 0) 0 0 /\ s.pe 5 = .mref (.slot 10 0) 0 /\ s.pe 11 = .p (intsP active) /\ s.pe 12 = .p (.int .i64 ↑active.length) /\ s.pe 13 = .p (.int .i64 ↑k) /\ s.pe 19 = .own (.slot 19 1) v19_1 0 A.length /\ s.pe 20 = .p (.int .i64 ↑A.length) /\ s.pe 21 = .p (.int .i64 j) /\ s.h (.slot 2 0) = some (0,Ob.box [.p (nodesP t.nodes),.p (.int .i64 t.next)]) /\ s.h (.slot 10 0) = some (0,Ob.map (KT.int IntKind.i64) ks vs) /\ s.h (.slot 19 1) = some (v19_1,Ob.arr 1 (List.map (.int .i64) A)):=⟨_,fun _ _=>Iff.rfl⟩
  refine wp_count (A.length) J ?_ ?_
  ·refine (hJ _ _).2 ⟨ks,vs,nv (fzOb [19] s.h (.slot 19 1)),?_,?_,?_,?_,?_,?_,?_,?_,?_,?_,?_,?_⟩
   .exact hrep.congr fun x=>by simp
   all_goals first | exact cl0 | (simp -implicitDefEqProofs (disch:=omega) only [h2,h5,h11,h12,h13,hh2_0,hh10_0,lma,go_sem,↓reduceIte,rA,rS,rE,rL,reduceCtorEq] <;> first | (simp [sumI]; done) | (simp [sumI]; omega))
  intro j s hj hJk
  obtain ⟨ks,vs,v19_1,hrepj,h2,h5,h11,h12,h13,h19,h20,h21,hh2_0,hh10_0,hh19_1⟩:=(hJ _ _).1 hJk
  clear hJk
  simp -implicitDefEqProofs (disch:=omega) only [h2,h5,h11,h12,h13,h19,h20,h21,hh2_0,hh10_0,hh19_1,go_sem,↓reduceIte,rA,rS,rE,rL,reduceCtorEq]
  refine wp_if_d (fun hjl=>?_) (fun hjg=>?_)
  ·have hx : A[j]? = some A[j]:=lgg hjl
   have htk : A.take (j + 1) = A.take j ++ [A[j]]:=by rw [List.take_add_one,hx]; rfl
   generalize A[j] = x at hx htk
   have hnext:=hrepj.put x
   simp -implicitDefEqProofs (disch:=omega) only [h2,h5,h11,h12,h13,h19,h20,h21,hh2_0,hh10_0,hh19_1,hjl,hx,go_sem,↓reduceIte,rA,rS,rE,rL,reduceCtorEq]
   try refine And.intro (by omega) ?_
   refine (hJ _ _).2 ⟨(mput ks vs (.int x) (.bool true)).1,(mput ks vs (.int x) (.bool true)).2,v19_1,?_,?_,?_,?_,?_,?_,?_,?_,?_,?_,?_,?_⟩
   .exact hnext.congr fun y=>by rw [htk]; simp [Bool.or_assoc]
   all_goals first | exact cl0 | (simp -implicitDefEqProofs (disch:=omega) only [h2,h5,h11,h12,h13,h19,h20,h21,hh2_0,hh10_0,hh19_1,lma,go_sem,↓reduceIte,rA,rS,rE,rL,reduceCtorEq] <;> first | (simp [sumI]; done) | (simp [sumI]; omega))
  ·rw [show A.take j = A from ltl (by omega)] at hrepj
   simp -implicitDefEqProofs (disch:=omega) only [h2,h5,h11,h12,h13,h19,h20,h21,hh2_0,hh10_0,hh19_1,hjg,go_sem,↓reduceIte,rA,rS,rE,rL,reduceCtorEq]
   try refine And.intro (by omega) ?_
   refine (hI _ _).2 ⟨ks,vs,?_,?_,?_,?_,?_,?_,?_,?_⟩
   .exact hrepj.congr fun y=>(hst y).symm
   all_goals first | exact cl0 | (simp -implicitDefEqProofs (disch:=omega) only [h2,h5,h11,h12,h13,hh2_0,hh10_0,lma,go_sem,↓reduceIte,rA,rS,rE,rL,reduceCtorEq] <;> first | (simp [sumI]; done) | (simp [sumI]; omega))
 ·rw [ltl (by omega)] at hrep
  simp -implicitDefEqProofs (disch:=omega) only [h2,h5,h11,h12,h13,hh2_0,hh10_0,hge,go_sem,↓reduceIte,rA,rS,rE,rL,reduceCtorEq]
  exact ⟨_,_,rfl,hrep⟩
theorem length_flatMap_le {α β γ : Type} {f : α -> List β} {g : α -> List γ} : ∀ (l : List α),(∀ x ∈ l,(f x).length <= (g x).length) -> (l.flatMap f).length <= (l.flatMap g).length
 | [],_=>lrf _
 | x :: l,h=>by
  have h1:=h x (lms ..)
  have h2:=length_flatMap_le l fun y hy=>h y (lmc _ hy)
  simp only [lfc,lla]
  omega
theorem sharesF_succ (t : Tr) (w : Int -> Int) (on : Int -> Bool) (k : Nat) (id s : Int) : sharesF t w on (k + 1) id s = if on id = true then ⟨id,s⟩ :: (kidsN t.nodes id).flatMap (fun c=>if on c = true then sharesF t w on k c (max 1 (s * w c / sumW t w on id)) else []) else []:=rfl
theorem sharesF_len (t : Tr) (w : Int -> Int) (on : Int -> Bool) : ∀ (k : Nat) (id s : Int),(sharesF t w on k id s).length <= (subF t.nodes k id).length
 | 0,_,_=>lrf _
 | k + 1,id,s=>by
  unfold sharesF subF
  split
  ·simp only [llc]
   have:=length_flatMap_le (f:=fun c=>if on c = true then sharesF t w on k c (max 1 (s * w c / sumW t w on id)) else []) (g:=subF t.nodes k) (kidsN t.nodes id) fun x _=>by
    split
    .exact sharesF_len t w on k x _
    .exact Nat.zero_le _
   omega
  .exact Nat.zero_le _
theorem filter_stepI {p : Int -> Bool} {l : List Int} {k : Nat} {m : Int} (hm : l[k]? = some m) : (l.take (k + 1)).filter p = if p m = true then (l.take k).filter p ++ [m] else (l.take k).filter p:=by
 rw [List.take_add_one,hm]
 simp only [Option.toList,List.filter_append,lfl,List.filter_nil]
 split <;> simp
set_option maxHeartbeats 4000000 in
theorem shares_eq0 {t : Tr} (h : TreeOk t) {l : List Ch} (hl : AscOk (knownN t.nodes) 1 10000 l) (hll : l.length < 1000000) {ks : List MKey} {vs : List PV} {on : Int -> Bool} (hrep : Rep3 ks vs on) : ∀ (f i : Nat) (n : Nd) (u0 : Int),t.nodes[i]? = some n -> t.nodes.length <= i + f -> 0 <= u0 -> u0 <= 1073741824 ->
  V 226 [t.vv,.p (chsP l),.p (.map (.int .i64) ks vs),.p (.int .i64 n.id),.p (.int .i64 u0)] [] = some (.fresh 2 ((sharesF t (wtOf l) on f n.id u0).map Ch.pv),[]):=by
 intro f
 induction f with
 | zero =>
  intro i n u0 hn hf
  have := (lgs.1 hn).1
  omega
 | succ f ih =>
  intro i n u0 hn hf hs0 hs1
  refine V_wp (vf:=vf226) rfl ?_
  have hlen:=h.len
  have hr:=hrep n.id
  have hw : WtOk l:=fun c hc=>hl.range c hc
  have hsub:=subF_length h hn (k:=f + 1) (by omega)
  have hsl:=sharesF_len t (wtOf l) on (f + 1) n.id u0
  rw [sharesF_succ] at hsl ⊢
  cases hon : on n.id with
  | false =>
   simp only [hon,bft,if_false] at hr
   simp -implicitDefEqProofs (disch:=omega) only [vf226,vb226,hr,Option.getD_none,go_sem,↓reduceIte,rA,rS,rE,rL,reduceCtorEq]
   try rfl
  | true =>
   simp only [hon,if_true] at hr hsl
   rw [if_pos rfl]
   have hkd:=fkids_eq t n.id (by omega)
   have hkid:=fun x (hx : x ∈ kidsN t.nodes n.id)=>mem_kidsN.1 hx
   have hkl : (kidsN t.nodes n.id).length <= t.nodes.length:=by
    rw [kidsN,llm]
    exact List.length_filter_le _ _
   have hW : sumW t (wtOf l) on n.id = sumI (((kidsN t.nodes n.id).filter on).map (wtOf l)):=rfl
   generalize sumW t (wtOf l) on n.id = W at hsl hW
   generalize kidsN t.nodes n.id = A at hkd hkid hkl hW hsl
   have hbound : ∀ k,0 <= sumI (((A.take k).filter on).map (wtOf l)) /\ sumI (((A.take k).filter on).map (wtOf l)) <= k * 10000:=by
    intro k
    induction k with
    | zero=>simp [sumI]
    | succ k ihk =>
     rcases Nat.lt_or_ge k A.length with hlt | hge
     ·have hx : A[k]? = some A[k]:=lgg hlt
      rw [filter_stepI hx]
      have:=wtOf_range hw A[k]
      split
      ·rw [lma,sumI_append]
       simp only [lpc,lpn,sumI]
       omega
      ·omega
     ·rw [ltl (by omega)] at ihk ⊢
      omega
   simp -implicitDefEqProofs (disch:=omega) only [vf226,vb226,hr,hkd,Option.getD_some,go_sem,↓reduceIte,rA,rS,rE,rL,reduceCtorEq]
   obtain ⟨I,hI⟩ : ∃ I : Nat -> St -> Prop,∀ k s,I k s ↔ True /\ s.pe 1 = .p (chsP l) /\ s.pe 2 = .p (PV.map (KT.int IntKind.i64) ks vs) /\ s.pe 3 = .p (.int .i64 n.id) /\ s.pe 4 = .p (.int .i64 u0) /\ s.pe 5 = .ptr (.slot 5 0) 0 0 /\ s.pe 11 = .own (.slot 24 0) 0 0 1 /\ s.pe 12 = .p (.int .i64 (sumI (((A.take k).filter on).map (wtOf l)))) /\ s.pe 27 = .own (.slot 27 1) 0 0 A.length /\ s.pe 28 = .p (.int .i64 ↑A.length) /\ s.pe 29 = .p (.int .i64 k) /\ s.h (.slot 5 0) = some (0,Ob.box [.p (nodesP t.nodes),.p (.int .i64 t.next)]) /\ s.h (.slot 24 0) = some (0,Ob.arr 2 [PV.agg [PV.int IntKind.i64 n.id,PV.int IntKind.i64 u0]]) /\ s.h (.slot 27 1) = some (0,Ob.arr 1 (List.map (.int .i64) A)):=⟨_,fun _ _=>Iff.rfl⟩
   refine wp_count (A.length) I ?_ ?_
   ·refine (hI _ _).2 ⟨?_,?_,?_,?_,?_,?_,?_,?_,?_,?_,?_,?_,?_,?_⟩
    ·exact trivial
    all_goals first | exact cl0 | (simp -implicitDefEqProofs (disch:=omega) only [h2,h5,h11,h12,h13,hh2_0,hh10_0,lma,go_sem,↓reduceIte,rA,rS,rE,rL,reduceCtorEq] <;> first | (simp [sumI]; done) | (simp [sumI]; omega))
   intro k s hk hIk
   obtain ⟨hdum,h1,h2,h3,h4,h5,h11,h12,h27,h28,h29,hh5_0,hh24_0,hh27_1⟩:=(hI _ _).1 hIk
   clear hIk
   have hb1:=hbound (k + 1)
   have hb0:=hbound k
   simp -implicitDefEqProofs (disch:=omega) only [h1,h2,h3,h4,h5,h11,h12,h27,h28,h29,hh5_0,hh24_0,hh27_1,go_sem,↓reduceIte,rA,rS,rE,rL,reduceCtorEq]
   refine wp_if_d (fun hlt=>?_) (fun hge=>?_)
   ·have hm : A[k]? = some A[k]:=lgg hlt
    generalize A[k] = c at hm
    have hst:=filter_stepI (p:=on) hm
    have hrc:=hrep c
    have hwt:=wt_eq l c hll
    have hwr:=wtOf_range hw c
    cases hoc : on c with
    | false =>
     simp only [hoc,bft,if_false] at hst hrc
     simp -implicitDefEqProofs (disch:=omega) only [h1,h2,h3,h4,h5,h11,h12,h27,h28,h29,hh5_0,hh24_0,hh27_1,hlt,hm,hrc,Option.getD_none,go_sem,↓reduceIte,rA,rS,rE,rL,reduceCtorEq]
     try refine And.intro (by omega) ?_
     refine (hI _ _).2 ⟨?_,?_,?_,?_,?_,?_,?_,?_,?_,?_,?_,?_,?_,?_⟩
     ·exact trivial
     all_goals first | exact cl0 | (simp -implicitDefEqProofs (disch:=omega) only [h1,h2,h3,h4,h5,h11,h12,h27,h28,h29,hh5_0,hh24_0,hh27_1,hst,lma,go_sem,↓reduceIte,rA,rS,rE,rL,reduceCtorEq] <;> first | (simp [sumI]; done) | (simp [sumI]; omega))
    | true =>
     simp only [hoc,if_true] at hst hrc
     rw [hst,lma,sumI_append] at hb1
     simp only [lpc,lpn,sumI,Int.add_zero] at hb1
     have hsum : sumI (((A.take (k + 1)).filter on).map (wtOf l)) = sumI (((A.take k).filter on).map (wtOf l)) + wtOf l c:=by
      rw [hst,lma,sumI_append]
      simp [sumI]
     generalize sumI (((A.take k).filter on).map (wtOf l)) = S at h12 hb0 hb1 hsum
     generalize wtOf l c = y at hwt hwr hb1 hsum
     simp -implicitDefEqProofs (disch:=omega) only [h1,h2,h3,h4,h5,h11,h12,h27,h28,h29,hh5_0,hh24_0,hh27_1,hlt,hm,hrc,hwt,Option.getD_some,go_sem,↓reduceIte,rA,rS,rE,rL,reduceCtorEq]
     try refine And.intro (by omega) ?_
     refine (hI _ _).2 ⟨?_,?_,?_,?_,?_,?_,?_,?_,?_,?_,?_,?_,?_,?_⟩
     ·exact trivial
     all_goals first | exact cl0 | (simp -implicitDefEqProofs (disch:=omega) only [h1,h2,h3,h4,h5,h11,h12,h27,h28,h29,hh5_0,hh24_0,hh27_1,hsum,lma,go_sem,↓reduceIte,rA,rS,rE,rL,reduceCtorEq] <;> first | (simp [sumI]; done) | (simp [sumI]; omega))
   ·rw [ltl (by omega),<- hW] at h12
    rw [ltl (by omega),<- hW] at hb0
    obtain ⟨T,hT⟩ : ∃ T,T = (⟨n.id,u0⟩ : Ch) :: A.flatMap fun c=>if on c = true then sharesF t (wtOf l) on f c (max 1 (u0 * wtOf l c / W)) else []:=⟨_,rfl⟩
    rw [<- hT] at hsl ⊢
    simp -implicitDefEqProofs (disch:=omega) only [h1,h2,h3,h4,h5,h11,h12,h27,h28,h29,hh5_0,hh24_0,hh27_1,hge,hkd,go_sem,↓reduceIte,rA,rS,rE,rL,reduceCtorEq]
    obtain ⟨J,hJ⟩ : ∃ I : Nat -> St -> Prop,∀ j s,I j s ↔ ∃ (acc : List Ch) (w : Nat) (v44_1 : Nat),(T = acc ++ (A.drop j).flatMap fun c=>if on c = true then sharesF t (wtOf l) on f c (max 1 (u0 * wtOf l c / W)) else []) /\ s.pe 1 = .p (chsP l) /\ s.pe 2 = .p (PV.map (KT.int IntKind.i64) ks vs) /\ s.pe 4 = .p (.int .i64 u0) /\ s.pe 5 = .ptr (.slot 5 0) 0 0 /\ s.pe 11 = .own (.slot 24 0) w 0 acc.length /\ s.pe 12 = .p (.int .i64 W) /\ s.pe 44 = .own (.slot 44 1) v44_1 0 A.length /\ s.pe 45 = .p (.int .i64 ↑A.length) /\ s.pe 46 = .p (.int .i64 j) /\ s.h (.slot 5 0) = some (0,Ob.box [.p (nodesP t.nodes),.p (.int .i64 t.next)]) /\ s.h (.slot 24 0) = some (w,Ob.arr 2 (acc.map Ch.pv)) /\ s.h (.slot 44 1) = some (v44_1,Ob.arr 1 (List.map (.int .i64) A)):=⟨_,fun _ _=>Iff.rfl⟩
    refine wp_count (A.length) J ?_ ?_
    ·refine (hJ _ _).2 ⟨[⟨n.id,u0⟩],0,nv (s.h (.slot 44 1)),?_,?_,?_,?_,?_,?_,?_,?_,?_,?_,?_,?_,?_⟩
     ·exact hT
     all_goals first | exact cl0 | (simp -implicitDefEqProofs (disch:=omega) only [h1,h2,h3,h4,h5,h11,h12,h27,h28,h29,hh5_0,hh24_0,hh27_1,lma,go_sem,↓reduceIte,rA,rS,rE,rL,reduceCtorEq] <;> first | (simp [sumI]; done) | (simp [sumI]; omega))
    intro j s hj hJk
    obtain ⟨acc,w,v44_1,htj,h1,h2,h4,h5,h11,h12,h44,h45,h46,hh5_0,hh24_0,hh44_1⟩:=(hJ _ _).1 hJk
    clear hJk
    have hTl:=congrArg List.length htj
    rw [lla] at hTl
    simp -implicitDefEqProofs (disch:=omega) only [h1,h2,h4,h5,h11,h12,h44,h45,h46,hh5_0,hh24_0,hh44_1,go_sem,↓reduceIte,rA,rS,rE,rL,reduceCtorEq]
    refine wp_if_d (fun hjl=>?_) (fun hjg=>?_)
    ·have hx : A[j]? = some A[j]:=lgg hjl
     have hd : A.drop j = A[j] :: A.drop (j + 1):=ldg hjl
     generalize A[j] = c at hx hd
     have hrc:=hrep c
     have hwt:=wt_eq l c hll
     have hwr:=wtOf_range hw c
     rw [hd,lfc] at htj
     cases hoc : on c with
     | false =>
      simp only [hoc,bft,if_false,lna] at htj hrc
      simp -implicitDefEqProofs (disch:=omega) only [h1,h2,h4,h5,h11,h12,h44,h45,h46,hh5_0,hh24_0,hh44_1,hjl,hx,hrc,Option.getD_none,go_sem,↓reduceIte,rA,rS,rE,rL,reduceCtorEq]
      try refine And.intro (by omega) ?_
      refine (hJ _ _).2 ⟨acc,w,v44_1,?_,?_,?_,?_,?_,?_,?_,?_,?_,?_,?_,?_,?_⟩
      ·exact htj
      all_goals first | exact cl0 | (simp -implicitDefEqProofs (disch:=omega) only [h1,h2,h4,h5,h11,h12,h44,h45,h46,hh5_0,hh24_0,hh44_1,lma,go_sem,↓reduceIte,rA,rS,rE,rL,reduceCtorEq] <;> first | (simp [sumI]; done) | (simp [sumI]; omega))
     | true =>
      simp only [hoc,if_true] at htj hrc
      obtain ⟨q,m,hm,hmp,rfl⟩:=hkid c (lmg hx)
      have hlt:=h.kid hn hm hmp
      have hWc : wtOf l m.id <= W:=by
       rw [hW]
       exact sumI_mem_le _ (fun y _=>by have:=wtOf_range hw y; omega) (List.mem_filter.2 ⟨lmg hx,hoc⟩)
      have hdv:=div_le_self' (s:=u0) (w:=wtOf l m.id) (W:=W) hs0 (by omega) hWc (by omega)
      have hd0 : 0 <= u0 * wtOf l m.id / W:=Int.ediv_nonneg (Int.mul_nonneg hs0 (by omega)) (by omega)
      have hmul0 : 0 <= u0 * wtOf l m.id:=Int.mul_nonneg hs0 (by omega)
      have hmul1 : u0 * wtOf l m.id <= 1073741824 * 10000:=Int.mul_le_mul hs1 hwr.2 (by omega) (by omega)
      have htd:=Int.tdiv_eq_ediv_of_nonneg (b:=W) hmul0
      have hrec:=ih q m (max 1 (u0 * wtOf l m.id / W)) hm (by omega) (by omega) (by omega)
      have hwm : IntKind.i64.wrap (u0 * wtOf l m.id) = u0 * wtOf l m.id:=wrap64 (by omega) (by omega)
      have hWne : W ≠ 0:=by omega
      rw [hd,lfc,hoc,if_pos rfl,lla] at hTl
      generalize sharesF t (wtOf l) on f m.id (max 1 (u0 * wtOf l m.id / W)) = R at hrec htj hTl
      generalize wtOf l m.id = y at hwt hwm htd hrec hd0 hdv hmul0 hmul1
      have hwz : IntKind.i64.wrap (u0 * y / W) = u0 * y / W:=by
       generalize u0 * y / W = z at hd0 hdv
       exact wrap64 (by omega) (by omega)
      simp -implicitDefEqProofs (disch:=omega) only [h1,h2,h4,h5,h11,h12,h44,h45,h46,hh5_0,hh24_0,hh44_1,hjl,hx,hrc,hwt,hwm,htd,hwz,hWne,hrec,Option.getD_some,go_sem,↓reduceIte,rA,rS,rE,rL,reduceCtorEq]
      try refine And.intro (by omega) ?_
      refine (hJ _ _).2 ⟨acc ++ R,w + 1,v44_1,?_,?_,?_,?_,?_,?_,?_,?_,?_,?_,?_,?_,?_⟩
      .exact by rw [htj]; simp
      all_goals first | exact cl0 | (simp -implicitDefEqProofs (disch:=omega) only [h1,h2,h4,h5,h11,h12,h44,h45,h46,hh5_0,hh24_0,hh44_1,lma,go_sem,↓reduceIte,rA,rS,rE,rL,reduceCtorEq] <;> first | (simp [sumI]; done) | (simp [sumI]; omega))
    ·rw [ldl (by omega)] at htj
     simp only [List.flatMap_nil,lan] at htj
     rw [htj]
     simp -implicitDefEqProofs (disch:=omega) only [h1,h2,h4,h5,h11,h12,h44,h45,h46,hh5_0,hh24_0,hh44_1,hjg,go_sem,↓reduceIte,rA,rS,rE,rL,reduceCtorEq]
theorem up_anc' {t : Tr} (h : TreeOk t) : ∀ (i : Nat) (n : Nd),t.nodes[i]? = some n -> ∀ m,i < m -> m <= t.nodes.length -> upR ((t.nodes.take m).reverse) n.id = ancF t.nodes t.nodes.length n.id:=by
 intro i
 induction i using Nat.strongRecOn with
 | _ i ih =>
  intro n hn m
  induction m with
  | zero=>intro hi; omega
  | succ m ihm =>
   intro hi hm
   have hx : t.nodes[m]? = some t.nodes[m]:=lgg (by omega)
   have htk : t.nodes.take (m + 1) = t.nodes.take m ++ [t.nodes[m]]:=by rw [List.take_add_one,hx]; rfl
   generalize t.nodes[m] = x at hx htk
   rw [htk,List.reverse_append]
   simp only [List.reverse_cons,List.reverse_nil,lna,lca,upR]
   by_cases he : x.id = n.id
   ·obtain ⟨rfl,rfl⟩:=h.idx hx hn he
    rw [if_pos rfl,ancF_cons h hn]
    congr 1
    rcases h.nodeAt hn with ⟨h0,_⟩ | ⟨h0,_,j,p,hj,hp,hpe⟩
    ·subst h0
     simp [upR]
    ·rw [if_neg (by omega),<- hpe]
     exact ih j hj p hp m hj (by omega)
   ·rw [if_neg he]
    have : i ≠ m:=by
     rintro rfl
     rw [hx] at hn
     cases hn
     exact he rfl
    exact ihm (by omega) (by omega)
theorem ancR_anc {t : Tr} (h : TreeOk t) {i : Nat} {n : Nd} (hn : t.nodes[i]? = some n) : ancR t n.id = ancF t.nodes t.nodes.length n.id:=by
 rw [ancR,show findT t n.id = findN t.nodes n.id by simp [findT,(treeOk_iff t).2 h],findN_unique h.inc hn]
 simp only [Option.isSome_some,if_true]
 unfold up
 have:=up_anc' h i n hn t.nodes.length (lgs.1 hn).1 (lrf _)
 rwa [List.take_length] at this
theorem root_anc {t : Tr} (h : TreeOk t) : ∀ (j : Nat) (m : Nd),t.nodes[j]? = some m -> (1 : Int) ∈ ancF t.nodes t.nodes.length m.id:=by
 intro j
 induction j using Nat.strongRecOn with
 | _ j ih =>
  intro m hm
  rcases h.nodeAt hm with ⟨_,h1,_⟩ | ⟨_,_,i,p,hi,hp,hpe⟩
  .rw [<- h1]; exact anc_self h hm
  .exact (anc_iff h hm _).2 (Or.inr ⟨by omega,by rw [<- hpe]; exact ih i hi p hp⟩)
def Rep4 (ks : List MKey) (vs : List PV) (L : List Ch) (sh : Int -> Int) : Prop:=∀ id,mget ks vs (.int id) = if (L.any fun x=>decide (x.group = id)) = true then some (.int .i64 (sh id)) else none
theorem Rep4.put {ks : List MKey} {vs : List PV} {L : List Ch} {sh : Int -> Int} (h : Rep4 ks vs L sh) {c : Ch} (hc : c.own = sh c.group) : Rep4 (mput ks vs (.int c.group) (.int .i64 c.own)).1 (mput ks vs (.int c.group) (.int .i64 c.own)).2 (L ++ [c]) sh:=by
 intro id
 rw [mget_mput]
 by_cases hg : id = c.group
 ·subst hg
  simp [hc]
 ·have hg' : ¬ c.group = id:=fun he=>hg he.symm
  simp only [hg',MKey.int.injEq,hg,if_false,List.any_append,List.any_cons,List.any_nil,decide_false,Bool.or_false]
  exact h id
set_option maxHeartbeats 1000000 in
theorem of_eq {t : Tr} (h : TreeOk t) {l : List Ch} (hl : AscOk (knownN t.nodes) 1 10000 l) (hll : l.length < 1000000) (active : List Int) (ha : active.length < 1000000) : ∃ ks vs,V 186 [t.vv,.p (chsP l),.p (intsP active)] [] = some (.p (.map (.int .i64) ks vs),[]) /\
  ∀ (i : Nat) (n : Nd),t.nodes[i]? = some n -> i ≠ 0 -> (mget ks vs (.int n.id)).getD (.int .i64 0) = .int .i64 (shr t (wtOf l) (onB t active) n.id):=by
 have hlen:=h.len
 obtain ⟨r,hr,hr1⟩:=root_at h
 have hu:=onB_up h active
 obtain ⟨kb,vb,hb,hrep⟩:=busy_eq t active (by omega) ha
 have hsh:=shares_eq0 h hl hll hrep t.nodes.length 0 r 1073741824 hr (by omega) (by omega) (by omega)
 have hroot:=shr_root t h (wtOf l) (onB t active)
 have hval:=sharesF_val h (wtOf l) (onB t active) t.nodes.length 0 r hr
 have hall:=sharesF_all h (wtOf l) hu t.nodes.length 0 r 1073741824 hr (by omega)
 have hsub:=subF_length h hr (k:=t.nodes.length) (by omega)
 have hsl:=sharesF_len t (wtOf l) (onB t active) t.nodes.length r.id 1073741824
 rw [hr1] at hsh hval hall hsl hsub
 rw [hroot] at hval
 generalize sharesF t (wtOf l) (onB t active) t.nodes.length 1 1073741824 = S at hsh hval hall hsl
 suffices hw : wp (callF V vf186 [t.vv,.p (chsP l),.p (intsP active)] []) (fun r=>∃ ks vs,r = (.p (.map (.int .i64) ks vs),[]) /\ Rep4 ks vs S (shr t (wtOf l) (onB t active))) by
  obtain ⟨q,hq,ks,vs,rfl,hrep4⟩:=hw
  refine ⟨ks,vs,V_fix (vf:=vf186) rfl hq,fun i n hn hi=>?_⟩
  rw [hrep4 n.id]
  by_cases hon : onB t active n.id = true
  ·obtain ⟨x,hx,hxe⟩:=hall i n hn hon (root_anc h i n hn)
   rw [if_pos (List.any_eq_true.2 ⟨x,hx,decide_eq_true hxe⟩)]
   rfl
  ·rw [if_neg]
   ·rw [shr_step h _ _ hn hi,if_neg hon]
    rfl
   ·intro hany
    obtain ⟨x,hx,hxe⟩:=List.any_eq_true.1 hany
    have:=(hval x hx).1
    rw [of_decide_eq_true hxe] at this
    exact hon this
 simp -implicitDefEqProofs (disch:=omega) only [vf186,vb186,hb,hsh,go_sem,↓reduceIte,rA,rS,rE,rL,reduceCtorEq]
 obtain ⟨I,hI⟩ : ∃ I : Nat -> St -> Prop,∀ k s,I k s ↔ ∃ (ks : List MKey) (vs : List PV),Rep4 ks vs (S.take k) (shr t (wtOf l) (onB t active)) /\ s.pe 7 = .mref (.slot 10 0) 0 /\ s.pe 16 = .own (.slot 16 1) 0 0 S.length /\ s.pe 17 = .p (.int .i64 ↑S.length) /\ s.pe 18 = .p (.int .i64 k) /\ s.h (.slot 10 0) = some (0,Ob.map (KT.int IntKind.i64) ks vs) /\ s.h (.slot 16 1) = some (0,Ob.arr 2 (List.map Ch.pv S)):=⟨_,fun _ _=>Iff.rfl⟩
 refine wp_count (S.length) I ?_ ?_
 ·refine (hI _ _).2 ⟨[],[],?_,?_,?_,?_,?_,?_,?_⟩
  .exact fun id=>rfl
  all_goals first | exact cl0 | (simp -implicitDefEqProofs (disch:=omega) only [lma,go_sem,↓reduceIte,rA,rS,rE,rL,reduceCtorEq] <;> first | (simp [sumI]; done) | (simp [sumI]; omega))
 intro k s hk hIk
 obtain ⟨ks,vs,hrep4,h7,h16,h17,h18,hh10_0,hh16_1⟩:=(hI _ _).1 hIk
 clear hIk
 simp -implicitDefEqProofs (disch:=omega) only [h7,h16,h17,h18,hh10_0,hh16_1,go_sem,↓reduceIte,rA,rS,rE,rL,reduceCtorEq]
 refine wp_if_d (fun hlt=>?_) (fun hge=>?_)
 ·have hm : S[k]? = some S[k]:=lgg hlt
  have htk : S.take (k + 1) = S.take k ++ [S[k]]:=by rw [List.take_add_one,hm]; rfl
  generalize S[k] = c at hm htk
  have hnext:=hrep4.put (hval c (lmg hm)).2
  rw [<- htk] at hnext
  simp -implicitDefEqProofs (disch:=omega) only [h7,h16,h17,h18,hh10_0,hh16_1,hlt,hm,go_sem,↓reduceIte,rA,rS,rE,rL,reduceCtorEq]
  try refine And.intro (by omega) ?_
  refine (hI _ _).2 ⟨(mput ks vs (.int c.group) (.int .i64 c.own)).1,(mput ks vs (.int c.group) (.int .i64 c.own)).2,?_,?_,?_,?_,?_,?_,?_⟩
  .exact hnext
  all_goals first | exact cl0 | (simp -implicitDefEqProofs (disch:=omega) only [h7,h16,h17,h18,hh10_0,hh16_1,lma,go_sem,↓reduceIte,rA,rS,rE,rL,reduceCtorEq] <;> first | (simp [sumI]; done) | (simp [sumI]; omega))
 ·rw [ltl (by omega)] at hrep4
  simp -implicitDefEqProofs (disch:=omega) only [h7,h16,h17,h18,hh10_0,hh16_1,hge,go_sem,↓reduceIte,rA,rS,rE,rL,reduceCtorEq]
  exact ⟨_,_,rfl,hrep4⟩
theorem validW_iff (t : Tr) (l : List Ch) : validW t l = true ↔ TreeOk t /\ AscOk (knownN t.nodes) 1 10000 l:=by
 unfold validW
 rw [bat,treeOk_iff,ascOk_iff]
theorem share_at {t : Tr} (h : TreeOk t) {l : List Ch} (hl : AscOk (knownN t.nodes) 1 10000 l) (active : List Int) (ha : active.length < 1000000) {i : Nat} {n : Nd} (hn : t.nodes[i]? = some n) : V 124 [t.vv,.p (chsP l),.p (intsP active),.p (.int .i64 n.id)] [] = some (.tup [.p (.int .i64 (shr t (wtOf l) (onB t active) n.id)),.p (.int .i64 0)],[]):=by
 refine V_wp (vf:=vf124) rfl ?_
 have hlen:=h.len
 have hll:=asc_length hl
 have h1:=ivalid_eq t l h.fits (by omega) (by omega)
 rw [(validW_iff t l).2 ⟨h,hl⟩] at h1
 have h2:=known_eq t n.id (by omega)
 rw [show knownN t.nodes n.id = true by rw [knownN,findN_unique h.inc hn]; rfl] at h2
 by_cases hr : n.id = 1
 ·rw [hr] at h2 ⊢
  rw [shr_root t h]
  simp -implicitDefEqProofs (disch:=omega) only [vf124,vb124,h1,h2,go_sem,↓reduceIte,rA,rS,rE,rL,reduceCtorEq]
 ·obtain ⟨ks,vs,h3,hg⟩:=of_eq h hl (by omega) active ha
  have hi : i ≠ 0:=by
   rintro rfl
   rcases h.nodeAt hn with ⟨_,h4,_⟩ | ⟨h4,_⟩
   .exact hr h4
   .omega
  have hgn:=hg i n hn hi
  generalize shr t (wtOf l) (onB t active) n.id = v at hgn
  simp -implicitDefEqProofs (disch:=omega) only [vf124,vb124,h1,h2,hr,h3,hgn,go_sem,↓reduceIte,rA,rS,rE,rL,reduceCtorEq]
def wtPicks (x : Int) : List Int:=[1,100,300,10000,50,200,7,1 + x]
def weightV (L : List Int) (a : Nat) : Int:=(wtPicks (nextV L a 1000)).getD (nextV L (nextA L a 1000) 8).toNat 0
theorem weight_eq (L : List Int) (a : Nat) (hL : L.length < 4611686018427387904) : V 89 [.ptr (.arg 0 0) 0 0] [diceB L a] = some (.p (.int .i64 (weightV L a)),[diceB L (nextA L (nextA L a 1000) 8)]):=by
 refine V_wp (vf:=vf89) rfl ?_
 have h1:=next_eq L a 1000 hL (by omega)
 have a0:=nextV_nonneg L a 1000
 have a1:=nextV_lt L a (n:=1000) (by omega)
 have h2:=next_eq L (nextA L a 1000) 8 hL (by omega)
 have b0:=nextV_nonneg L (nextA L a 1000) 8
 have b1:=nextV_lt L (nextA L a 1000) (n:=8) (by omega)
 unfold weightV
 generalize nextV L a 1000 = x at h1 a0 a1
 generalize nextV L (nextA L a 1000) 8 = y at h2 b0 b1
 generalize nextA L (nextA L a 1000) 8 = a2 at h2
 generalize nextA L a 1000 = a1' at h1 h2
 have hm : (wtPicks x)[y.toNat]? = some ((wtPicks x).getD y.toNat 0):=by
  rw [List.getD_eq_getElem?_getD,lgg (by simp [wtPicks]; omega)]; rfl
 generalize (wtPicks x).getD y.toNat 0 = z at hm
 have hm' : ([PV.int .i64 1,.int .i64 100,.int .i64 300,.int .i64 10000,.int .i64 50,.int .i64 200,.int .i64 7,.int .i64 (1 + x)] : List PV)[y.toNat]? = some (.int .i64 z):=by
  have : ((wtPicks x).map (PV.int .i64))[y.toNat]? = some (.int .i64 z):=by rw [List.getElem?_map,hm]; rfl
  exact this
 have hlt : y.toNat < 8:=by omega
 simp -implicitDefEqProofs (disch:=omega) only [vf89,vb89,h1,h2,hm',hlt,go_sem,↓reduceIte,rA,rS,rE,rL,reduceCtorEq]
theorem weightV_range (L : List Int) (a : Nat) : 1 <= weightV L a /\ weightV L a <= 10000:=by
 have a0:=nextV_nonneg L a 1000
 have a1:=nextV_lt L a (n:=1000) (by omega)
 have b0:=nextV_nonneg L (nextA L a 1000) 8
 have b1:=nextV_lt L (nextA L a 1000) (n:=8) (by omega)
 unfold weightV
 generalize nextV L a 1000 = x at a0 a1
 generalize nextV L (nextA L a 1000) 8 = y at b0 b1
 have hmem : (wtPicks x).getD y.toNat 0 ∈ wtPicks x:=by
  rw [List.getD_eq_getElem?_getD,lgg (by simp [wtPicks]; omega)]
  exact lgk _
 generalize (wtPicks x).getD y.toNat 0 = z at hmem
 simp [wtPicks] at hmem
 omega
theorem putA_asc {kn : Int -> Bool} {hi : Int} {a : List Ch} (h : AscOk kn 0 hi a) {id v : Int} (hk : kn id = true) (h0 : 0 <= v) (h1 : v <= hi) : AscOk kn 0 hi (putA a id v):=by
 unfold putA
 refine ⟨fun c hc=>?_,withGo_inc id v a false h.inc,fun c hc=>?_⟩
 ·rcases withGo_mem id v a false c hc with ⟨_,rfl⟩ | ⟨hm,_⟩
  .exact hk
  .exact h.known c hm
 ·rcases withGo_mem id v a false c hc with ⟨_,rfl⟩ | ⟨hm,_⟩
  .exact ⟨h0,h1⟩
  .exact h.range c hm
theorem IssueA_asc {t : Tr} {a : List Ch} {id share cost now margin : Int} (h : (IssueA t a id share cost now margin).2 = 0) : AscOk (knownN t.nodes) 0 1152921504606846976 (IssueA t a id share cost now margin).1:=by
 unfold IssueA at h ⊢
 split at h
 ·rename_i hc
  rw [if_pos hc]
  unfold checkA at hc
  simp only [bat] at hc
  have hA:=(ascOk_iff _ _ _ _).1 hc.2
  split at h
  ·rename_i hk
   rw [if_pos hk]
   split at h
   ·rename_i hr
    rw [if_pos hr]
    split at h
    ·simp at h
    ·rename_i hn
     rw [if_neg hn]
     split at h
     ·simp at h
     ·rename_i hv
      rw [if_neg hv]
      refine putA_asc hA hk ?_ (by omega)
      unfold issueV
      have : 0 <= (cost * 1073741824 + share - 1) / share:=Int.ediv_nonneg (by omega) (by omega)
      omega
   .simp at h
  .simp at h
 .simp at h
def NInv (t : Tr) (a : List Ch) (now : Int) (pre : List Int) (best : Int) : Prop :=
 (best = 0 /\ ∀ x ∈ pre,mayA t a x now = false) \/
 (best ≠ 0 /\ best ∈ pre /\ mayA t a best now = true /\ ∀ x ∈ pre,mayA t a x now = true -> ownC a best < ownC a x \/ (ownC a best = ownC a x /\ best <= x))
theorem NInv.skip {t : Tr} {a : List Ch} {now : Int} {pre : List Int} {best x : Int} (h : NInv t a now pre best) (hx : mayA t a x now = false) : NInv t a now (pre ++ [x]) best:=by
 rcases h with ⟨h1,h2⟩ | ⟨h1,h2,h3,h4⟩
 ·refine Or.inl ⟨h1,fun y hy=>?_⟩
  rcases lmp.1 hy with hy | hy
  .exact h2 y hy
  .rw [List.mem_singleton] at hy; subst hy; exact hx
 ·refine Or.inr ⟨h1,List.mem_append_left _ h2,h3,fun y hy hm=>?_⟩
  rcases lmp.1 hy with hy | hy
  .exact h4 y hy hm
  .rw [List.mem_singleton] at hy; subst hy; rw [hx] at hm; cases hm
theorem NInv.take {t : Tr} {a : List Ch} {now : Int} {pre : List Int} {best x : Int} (h : NInv t a now pre best) (hx : mayA t a x now = true) (h0 : x ≠ 0) (hb : best = 0 \/ ownC a x < ownC a best \/ (ownC a x = ownC a best /\ x < best)) : NInv t a now (pre ++ [x]) x:=by
 refine Or.inr ⟨h0,List.mem_append_right _ (List.mem_singleton.2 rfl),hx,fun y hy hm=>?_⟩
 rcases lmp.1 hy with hy | hy
 ·rcases h with ⟨h1,h2⟩ | ⟨h1,h2,h3,h4⟩
  ·rw [h2 y hy] at hm; cases hm
  ·have:=h4 y hy hm
   omega
 .rw [List.mem_singleton] at hy; subst hy; exact Or.inr ⟨rfl,Int.le_refl _⟩
theorem NInv.keep {t : Tr} {a : List Ch} {now : Int} {pre : List Int} {best x : Int} (h : NInv t a now pre best) (hb : ¬ (best = 0 \/ ownC a x < ownC a best \/ (ownC a x = ownC a best /\ x < best))) : NInv t a now (pre ++ [x]) best:=by
 rcases h with ⟨h1,h2⟩ | ⟨h1,h2,h3,h4⟩
 ·exact absurd (Or.inl h1) hb
 ·refine Or.inr ⟨h1,List.mem_append_left _ h2,h3,fun y hy hm=>?_⟩
  rcases lmp.1 hy with hy | hy
  .exact h4 y hy hm
  .rw [List.mem_singleton] at hy; subst hy; omega
theorem may_pos {t : Tr} {a : List Ch} {x now : Int} (h : mayA t a x now = true) : x ≠ 0:=by
 unfold mayA checkA at h
 simp only [bat] at h
 obtain ⟨n,hn,rfl⟩:=findN_some h.1.2
 have:=((treeOk_iff t).1 h.1.1.1).pos n hn
 omega
structure Pt where
 group : Int
 usage : Int
 protect : Int
 own : Int
 room : Int
 deriving DecidableEq
def Pt.pv (c : Pt) : PV:=.agg [.int .i64 c.group,.int .i64 c.usage,.int .i64 c.protect,.int .i64 c.own,.int .i64 c.room]
abbrev Pt.vv (c : Pt) : VVal:=.agg [.p (.int .i64 c.group),.p (.int .i64 c.usage),.p (.int .i64 c.protect),.p (.int .i64 c.own),.p (.int .i64 c.room)]
attribute [go_sem] Pt.pv
theorem pts_flat (l : List Pt) : (l.map Pt.pv).all PV.flat = true:=by
 rw [List.all_eq_true]
 intro x hx
 obtain ⟨n,_,rfl⟩:=lmm.1 hx
 rfl
attribute [go_sem] pts_flat
def InN (ns : List Nd) (x : Int) : Prop:=∃ (i : Nat) (n : Nd),ns[i]? = some n /\ n.id = x
theorem subF_step {t : Tr} (h : TreeOk t) {x : Int} (hx : InN t.nodes x) : subF t.nodes t.nodes.length x = x :: (kidsN t.nodes x).flatMap (subF t.nodes t.nodes.length):=by
 obtain ⟨i,n,hn,rfl⟩:=hx
 have hi:=(lgs.1 hn).1
 obtain ⟨N,hN⟩ : ∃ N,t.nodes.length = N + 1:=⟨t.nodes.length - 1,by omega⟩
 have e1 : subF t.nodes t.nodes.length n.id = subF t.nodes (N + 1) n.id:=by rw [hN]
 rw [e1,subF]
 congr 1
 refine flatMap_congr_mem fun y hy=>?_
 obtain ⟨j,m,hm,hp,rfl⟩:=mem_kidsN.1 hy
 have:=h.kid hn hm hp
 exact subF_fuel h _ _ j m hm (by omega) (by omega)
theorem subF_mem {t : Tr} (h : TreeOk t) {x : Int} (hx : InN t.nodes x) : subF t.nodes t.nodes.length x ≠ []:=by
 rw [subF_step h hx]
 simp
theorem flat_len {t : Tr} (h : TreeOk t) : ∀ (l : List Int),(∀ x ∈ l,InN t.nodes x) -> l.length <= (l.flatMap (subF t.nodes t.nodes.length)).length
 | [],_=>by simp
 | x :: l,hl=>by
  have h1:=flat_len h l (fun y hy=>hl y (by simp [hy]))
  have h2:=List.length_pos_iff.2 (subF_mem h (hl x (by simp)))
  rw [lfc,lla,llc]
  omega
theorem kidsN_len (ns : List Nd) (x : Int) : (kidsN ns x).length <= ns.length:=by
 rw [kidsN,llm]
 exact List.length_filter_le _ _
set_option maxHeartbeats 2000000 in
theorem fsub_eq {t : Tr} (id : Int) (h : TreeOk t) : V 212 [t.vv,.p (.int .i64 id)] [] = some (.fresh 1 ((subT t id).map (.int .i64)),[]):=by
 refine V_wp (vf:=vf212) rfl ?_
 have hlen:=h.len
 have hat:=at_eq t id (by omega)
 by_cases hneg : idxOf t.nodes id < 0
 ·have hfn:=(idxOf_lt t.nodes id)
  have hemp : subT t id = []:=by
   rcases hfn with ⟨_,h2⟩ | ⟨k,_,h2,_⟩
   ·simp [subT,findT,h2]
   ·omega
  simp -implicitDefEqProofs (disch:=omega) only [vf212,vb212,hat,hneg,hemp,go_sem,↓reduceIte,rA,rS,rE,rL,reduceCtorEq]
 ·have hin : InN t.nodes id:=by
   obtain ⟨k,m,_,hkm,hfm,hme⟩:=(idxOf_lt t.nodes id).resolve_left (fun h=>hneg h.1)
   exact ⟨k,m,hkm,hme⟩
  have hsub : subT t id = subF t.nodes t.nodes.length id:=by
   obtain ⟨k,m,_,hkm,hfm,hme⟩:=(idxOf_lt t.nodes id).resolve_left (fun h=>hneg h.1)
   simp [subT,findT,(treeOk_iff t).2 h,hfm]
  have hsl:=subT_len h id
  rw [hsub] at hsl
  rw [hsub]
  simp -implicitDefEqProofs (disch:=omega) only [vf212,vb212,hat,hneg,go_sem,↓reduceIte,rA,rS,rE,rL,reduceCtorEq]
  obtain ⟨I,hI⟩ : ∃ I : Nat -> St -> Prop,∀ k s,I k s ↔ ∃ (out : List Int) (nx : List Int) (ww : Nat) (d : Nat) (e : Nat),out.length = k /\ (∀ x ∈ nx,InN t.nodes x) /\ out ++ nx.flatMap (subF t.nodes t.nodes.length) = subF t.nodes t.nodes.length id /\ ((d = 12 /\ e = 0) \/ (d = 34 /\ e = 1)) /\ s.pe 2 = .ptr (.slot 2 0) 0 0 /\ s.pe 5 = .own (.slot 5 0) ww 0 out.length /\ (∃ v,s.pe 6 = .own (.slot d e) v 0 (nx.length) /\ s.h (.slot d e) = some (v,Ob.arr 1 (nx.map (.int .i64)))) /\ s.h (.slot 2 0) = some (0,Ob.box [.p (nodesP t.nodes),.p (.int .i64 t.next)]) /\ s.h (.slot 5 0) = some (ww,Ob.arr 1 (out.map (.int .i64))):=⟨_,fun _ _=>Iff.rfl⟩
  refine wp_count (t.nodes.length) I ?_ ?_
  ·refine (hI _ _).2 ⟨[],[id],0,12,0,?_,?_,?_,?_,?_,?_,?_,?_,?_⟩
   ·rfl
   ·exact by simpa using hin
   ·exact by simp
   ·exact Or.inl ⟨rfl,rfl⟩
   all_goals first | exact cl0 | (simp -implicitDefEqProofs (disch:=omega) only [lma,go_sem,↓reduceIte,rA,rS,rE,rL,reduceCtorEq] <;> (refine ⟨_,rfl,?_⟩; first | rfl | (simp -implicitDefEqProofs (disch:=omega) only [lma,go_sem,↓reduceIte,rA,rS,rE,rL,reduceCtorEq]; done) | (simp -implicitDefEqProofs (disch:=omega) only [lma,go_sem,↓reduceIte,rA,rS,rE,rL,reduceCtorEq]; rfl)))
  intro k s hk hIk
  obtain ⟨out,nx,ww,d,e,hol,hall,hall',hde,h2,h5,⟨v6,h6,hhd_e⟩,hh2_0,hh5_0⟩:=(hI _ _).1 hIk
  clear hIk
  rcases hde with ⟨rfl,rfl⟩ | ⟨rfl,rfl⟩
  ·rcases nx with - | ⟨x,rest⟩
   ·rw [List.flatMap_nil,lan] at hall'
    simp -implicitDefEqProofs (disch:=omega) only [h2,h5,h6,hhd_e,hh2_0,hh5_0,zero_lt_zero,go_sem,↓reduceIte,rA,rS,rE,rL,reduceCtorEq]
    rw [hall']
   have hpos : (0 : Int) < ((rest.length + 1 : Nat) : Int):=by omega
   by_cases hlt : out.length < t.nodes.length
   ·have hx:=hall x (by simp)
    have hkids:=fkids_eq t x (by omega)
    have hkl:=kidsN_len t.nodes x
    have hrl : rest.length <= 64:=by
     have h1:=congrArg List.length hall'
     have h2:=flat_len h (x :: rest) hall
     rw [lla] at h1
     rw [llc] at h2
     omega
    simp -implicitDefEqProofs (disch:=omega) only [h2,h5,h6,hhd_e,hh2_0,hh5_0,hlt,hkids,hpos,Int.toNat_zero,List.getElem?_cons_zero,Int.toNat_one,List.drop_succ_cons,List.drop_zero,llm,Nat.add_sub_cancel,Nat.min_self,go_sem,↓reduceIte,rA,rS,rE,rL,reduceCtorEq]
    have hnx : ∀ y ∈ kidsN t.nodes x ++ rest,InN t.nodes y:=by
     intro y hy
     rcases lmp.1 hy with hy | hy
     ·obtain ⟨j,m,hm,_,hme⟩:=mem_kidsN.1 hy
      exact ⟨j,m,hm,hme⟩
     ·exact hall y (by simp [hy])
    have hnx' : (out ++ [x]) ++ (kidsN t.nodes x ++ rest).flatMap (subF t.nodes t.nodes.length) = subF t.nodes t.nodes.length id:=by
     rw [<- hall',lfc,subF_step h hx,List.flatMap_append]
     simp
    try refine And.intro (by omega) ?_
    refine (hI _ _).2 ⟨out ++ [x],kidsN t.nodes x ++ rest,ww + 1,34,1,?_,?_,?_,?_,?_,?_,?_,?_,?_⟩
    ·exact by simp [hol]
    ·exact hnx
    ·exact hnx'
    ·exact Or.inr ⟨rfl,rfl⟩
    all_goals first | exact cl0 | (simp -implicitDefEqProofs (disch:=omega) only [h2,h5,h6,hhd_e,hh2_0,hh5_0,lma,go_sem,↓reduceIte,rA,rS,rE,rL,reduceCtorEq] <;> (refine ⟨_,rfl,?_⟩; first | rfl | (simp -implicitDefEqProofs (disch:=omega) only [h2,h5,h6,hhd_e,hh2_0,hh5_0,lma,go_sem,↓reduceIte,rA,rS,rE,rL,reduceCtorEq]; done) | (simp -implicitDefEqProofs (disch:=omega) only [h2,h5,h6,hhd_e,hh2_0,hh5_0,lma,go_sem,↓reduceIte,rA,rS,rE,rL,reduceCtorEq]; rfl)))
   ·have hz : (x :: rest).flatMap (subF t.nodes t.nodes.length) = []:=by
     have h1:=congrArg List.length hall'
     rw [lla] at h1
     exact lez (by omega)
    rw [hz,lan] at hall'
    simp -implicitDefEqProofs (disch:=omega) only [h2,h5,h6,hhd_e,hh2_0,hh5_0,hlt,hpos,go_sem,↓reduceIte,rA,rS,rE,rL,reduceCtorEq]
    rw [hall']
  ·rcases nx with - | ⟨x,rest⟩
   ·rw [List.flatMap_nil,lan] at hall'
    simp -implicitDefEqProofs (disch:=omega) only [h2,h5,h6,hhd_e,hh2_0,hh5_0,zero_lt_zero,go_sem,↓reduceIte,rA,rS,rE,rL,reduceCtorEq]
    rw [hall']
   have hpos : (0 : Int) < ((rest.length + 1 : Nat) : Int):=by omega
   by_cases hlt : out.length < t.nodes.length
   ·have hx:=hall x (by simp)
    have hkids:=fkids_eq t x (by omega)
    have hkl:=kidsN_len t.nodes x
    have hrl : rest.length <= 64:=by
     have h1:=congrArg List.length hall'
     have h2:=flat_len h (x :: rest) hall
     rw [lla] at h1
     rw [llc] at h2
     omega
    simp -implicitDefEqProofs (disch:=omega) only [h2,h5,h6,hhd_e,hh2_0,hh5_0,hlt,hkids,hpos,Int.toNat_zero,List.getElem?_cons_zero,Int.toNat_one,List.drop_succ_cons,List.drop_zero,llm,Nat.add_sub_cancel,Nat.min_self,go_sem,↓reduceIte,rA,rS,rE,rL,reduceCtorEq]
    have hnx : ∀ y ∈ kidsN t.nodes x ++ rest,InN t.nodes y:=by
     intro y hy
     rcases lmp.1 hy with hy | hy
     ·obtain ⟨j,m,hm,_,hme⟩:=mem_kidsN.1 hy
      exact ⟨j,m,hm,hme⟩
     .exact hall y (by simp [hy])
    have hnx' : (out ++ [x]) ++ (kidsN t.nodes x ++ rest).flatMap (subF t.nodes t.nodes.length) = subF t.nodes t.nodes.length id:=by
     rw [<- hall',lfc,subF_step h hx,List.flatMap_append]
     simp
    try refine And.intro (by omega) ?_
    refine (hI _ _).2 ⟨out ++ [x],kidsN t.nodes x ++ rest,ww + 1,34,1,?_,?_,?_,?_,?_,?_,?_,?_,?_⟩
    ·exact by simp [hol]
    ·exact hnx
    ·exact hnx'
    ·exact Or.inr ⟨rfl,rfl⟩
    all_goals first | exact cl0 | (simp -implicitDefEqProofs (disch:=omega) only [h2,h5,h6,hhd_e,hh2_0,hh5_0,lma,go_sem,↓reduceIte,rA,rS,rE,rL,reduceCtorEq] <;> (refine ⟨_,rfl,?_⟩; first | rfl | (simp -implicitDefEqProofs (disch:=omega) only [h2,h5,h6,hhd_e,hh2_0,hh5_0,lma,go_sem,↓reduceIte,rA,rS,rE,rL,reduceCtorEq]; done) | (simp -implicitDefEqProofs (disch:=omega) only [h2,h5,h6,hhd_e,hh2_0,hh5_0,lma,go_sem,↓reduceIte,rA,rS,rE,rL,reduceCtorEq]; rfl)))
   ·have hz : (x :: rest).flatMap (subF t.nodes t.nodes.length) = []:=by
     have h1:=congrArg List.length hall'
     rw [lla] at h1
     exact lez (by omega)
    rw [hz,lan] at hall'
    simp -implicitDefEqProofs (disch:=omega) only [h2,h5,h6,hhd_e,hh2_0,hh5_0,hlt,hpos,go_sem,↓reduceIte,rA,rS,rE,rL,reduceCtorEq]
    rw [hall']
def msort (l : List Int) : List Int:=l.mergeSort fun x y=>decide (x <= y)
theorem mapO_unI : ∀ (l : List Int),mapO unI (l.map (.int .i64)) = some l
 | []=>rfl
 | x :: l=>by
  have:=mapO_unI l
  rw [lpc]
  show ob (some x) (fun y=>ob (mapO unI (List.map (PV.int .i64) l)) fun ys=>some (y :: ys)) = _
  rw [this,ob_some,ob_some]
theorem sort_eq (l : List Int) (hl : l.length < 1000000) : V 120 [.own (.arg 0 0) 0 0 l.length] [.arr 1 (l.map (.int .i64))] = some (.tup [],[.arr 1 ((msort l).map (.int .i64))]):=by
 refine V_x ?_
 have h1 : l.length = (l.map (PV.int .i64)).length:=by simp
 have h2 : l.length < 4611686018427387904:=by omega
 simp only [XS,if_pos,XI,gd,if_pos h1,if_pos h2,mapO_unI,ob_some,msort]
theorem msort_length (l : List Int) : (msort l).length = l.length:=List.length_mergeSort l
abbrev maxR : Int:=4611686018427387904
structure Bk where
 rate : Int
 per : Int
 burst : Int
 level : Int
 now : Int
 deriving DecidableEq
abbrev Bk.cs (b : Bk) : List PV:=[.int .i64 b.rate,.int .i64 b.per,.int .i64 b.burst,.int .i64 b.level,.int .i64 b.now]
abbrev Bk.vv (b : Bk) : VVal:=.agg [.p (.int .i64 b.rate),.p (.int .i64 b.per),.p (.int .i64 b.burst),.p (.int .i64 b.level),.p (.int .i64 b.now)]
structure Cp where
 group : Int
 rp : Bk
 wp : Bk
 ro : Bk
 wo : Bk
 deriving DecidableEq
def Cp.pv (c : Cp) : PV:=.agg [.int .i64 c.group,.int .i64 c.rp.rate,.int .i64 c.rp.per,.int .i64 c.rp.burst,.int .i64 c.rp.level,.int .i64 c.rp.now,.int .i64 c.wp.rate,.int .i64 c.wp.per,.int .i64 c.wp.burst,.int .i64 c.wp.level,.int .i64 c.wp.now,.int .i64 c.ro.rate,.int .i64 c.ro.per,.int .i64 c.ro.burst,.int .i64 c.ro.level,.int .i64 c.ro.now,.int .i64 c.wo.rate,.int .i64 c.wo.per,.int .i64 c.wo.burst,.int .i64 c.wo.level,.int .i64 c.wo.now]
structure Rq where
 task : Int
 group : Int
 at_ : Int
 pages : Int
 write : Bool
 time : Int
 deriving DecidableEq
def Rq.pv (r : Rq) : PV:=.agg [.int .i64 r.task,.int .i64 r.group,.int .i64 r.at_,.int .i64 r.pages,.bool r.write,.int .i64 r.time]
abbrev Rq.vv (r : Rq) : VVal:=.agg [.p (.int .i64 r.task),.p (.int .i64 r.group),.p (.int .i64 r.at_),.p (.int .i64 r.pages),.p (.bool r.write),.p (.int .i64 r.time)]
structure Fl where
 r : Rq
 done : Int
 deriving DecidableEq
def Fl.pv (f : Fl) : PV:=.agg [.int .i64 f.r.task,.int .i64 f.r.group,.int .i64 f.r.at_,.int .i64 f.r.pages,.bool f.r.write,.int .i64 f.r.time,.int .i64 f.done]
structure Dp where
 group : Int
 target : Int
 depth : Int
 deriving DecidableEq
def Dp.pv (d : Dp) : PV:=.agg [.int .i64 d.group,.int .i64 d.target,.int .i64 d.depth]
structure Mdl where
 rb : Int
 rp : Int
 wb : Int
 wp : Int
 seek : Int
 deriving DecidableEq
structure Dv where
 m : Mdl
 speed : Int
 margin : Int
 now : Int
 free : Int
 head : Int
 weights : List Ch
 buckets : List Cp
 depths : List Dp
 v : List Ch
 queue : List Rq
 flights : List Fl
attribute [go_sem] Rq.pv Fl.pv Dp.pv
theorem caps_flat (l : List Cp) : (l.map Cp.pv).all PV.flat = true:=by
 rw [List.all_eq_true]
 intro x hx
 obtain ⟨n,_,rfl⟩:=lmm.1 hx
 rfl
theorem rqs_flat (l : List Rq) : (l.map Rq.pv).all PV.flat = true:=by
 rw [List.all_eq_true]
 intro x hx
 obtain ⟨n,_,rfl⟩:=lmm.1 hx
 rfl
theorem fls_flat (l : List Fl) : (l.map Fl.pv).all PV.flat = true:=by
 rw [List.all_eq_true]
 intro x hx
 obtain ⟨n,_,rfl⟩:=lmm.1 hx
 rfl
theorem dps_flat (l : List Dp) : (l.map Dp.pv).all PV.flat = true:=by
 rw [List.all_eq_true]
 intro x hx
 obtain ⟨n,_,rfl⟩:=lmm.1 hx
 rfl
attribute [go_sem] caps_flat rqs_flat fls_flat dps_flat
def inZ (n lo hi : Int) : Bool:=decide (lo <= n /\ n <= hi)
def bkOk (b : Bk) : Bool:=inZ b.per 1 1048576 && inZ b.now 0 1048576 && (if b.rate = maxR then decide (b.burst = 0) && decide (b.level = 0) else inZ b.rate 0 1073741824 && inZ b.burst 0 1073741824 && inZ b.level 0 (b.burst * b.per))
def advB (b : Bk) (now : Int) : Bk:=if b.rate = maxR then { b with now:=now } else { b with level:=min (b.level + b.rate * (now - b.now)) (b.burst * b.per),now:=now }
def tokB (b : Bk) : Int:=if b.rate = maxR then 1073741824 else b.level / b.per
def takB (b : Bk) (n : Int) : Bk:=if b.rate = maxR then b else if b.level / b.per < n then b else { b with level:=b.level - n * b.per }
def soundR (r : Rq) : Bool:=inZ r.task 0 2147483647 && inZ r.group 1 2147483647 && inZ r.at_ 0 16777216 && inZ r.pages 1 4096 && decide (r.at_ + r.pages <= 16777216) && inZ r.time 0 1048576
def modelOk (m : Mdl) : Bool:=inZ m.rb 0 1000000 && inZ m.rp 0 1000000 && inZ m.wb 0 1000000 && inZ m.wp 0 1000000 && inZ m.seek 0 1000000
def costR (m : Mdl) (r : Rq) (head : Int) : Int:=(if r.write then m.wb + m.wp * r.pages else m.rb + m.rp * r.pages) + (if r.at_ = head then 0 else m.seek)
def getD (l : List Dp) (id : Int) : Dp:=match l with
 | []=>⟨id,0,256⟩
 | x :: r=>if x.group = id then x else getD r id
def cntF (fs : List Fl) (id : Int) : Int:=((fs.filter fun f=>decide (f.r.group = id)).length : Int)
def sumF (t : Tr) (fs : List Fl) (g : Int) : Int:=sumI ((subF t.nodes t.nodes.length g).map (cntF fs))
def allowF (t : Tr) (ds : List Dp) (fs : List Fl) (id : Int) : Bool:=(ancF t.nodes t.nodes.length id).all fun g=>decide (sumF t fs g < (getD ds g).depth)
def capOf : List Cp -> Int -> Option Cp
 | [],_=>none
 | c :: l,id=>if c.group = id then some c else capOf l id
def kpB (c : Cp) (w : Bool) : Bk:=if w then c.wp else c.rp
def koB (c : Cp) (w : Bool) : Bk:=if w then c.wo else c.ro
def roomC (l : List Cp) (r : Rq) (g : Int) : Bool:=match capOf l g with
 | none=>true
 | some c=>decide (r.pages <= tokB (kpB c r.write)) && decide (1 <= tokB (koB c r.write))
def passD (t : Tr) (d : Dv) (r : Rq) : Bool:=allowF t d.depths d.flights r.group && (ancF t.nodes t.nodes.length r.group).all (roomC d.buckets r)
def readyL (t : Tr) (d : Dv) : List Int -> List Rq -> List Int
 | _,[]=>[]
 | seen,r :: q=>(if r.group ∈ seen then [] else if passD t d r = true then [r.group] else []) ++ readyL t d (r.group :: seen) q
def nxtA (t : Tr) (a : List Ch) (now : Int) : Int -> List Int -> Int
 | best,[]=>best
 | best,x :: l=>nxtA t a now (if mayA t a x now = true /\ (best = 0 \/ ownC a x < ownC a best \/ (ownC a x = ownC a best /\ x < best)) then x else best) l
def actL (d : Dv) : List Int:=d.queue.map (·.group) ++ d.flights.map (·.r.group)
def spendC (c : Cp) (r : Rq) : Cp:=if r.write then { c with wp:=takB c.wp r.pages,wo:=takB c.wo 1 } else { c with rp:=takB c.rp r.pages,ro:=takB c.ro 1 }
def setC : List Cp -> Int -> (Cp -> Cp) -> List Cp
 | [],_,_=>[]
 | c :: l,id,f=>if c.group = id then f c :: l else c :: setC l id f
def spendD (t : Tr) (l : List Cp) (r : Rq) : List Cp:=(ancF t.nodes t.nodes.length r.group).foldl (fun l g=>setC l g fun c=>spendC c r) l
def remQ : List Rq -> Int -> List Rq
 | [],_=>[]
 | r :: q,g=>if r.group = g then q else r :: remQ q g
def firstQ : List Rq -> Int -> Option Rq
 | [],_=>none
 | r :: q,g=>if r.group = g then some r else firstQ q g
def insF (l : List Fl) (f : Fl) : List Fl:=l.takeWhile (fun x=>decide (x.done <= f.done)) ++ f :: l.dropWhile (fun x=>decide (x.done <= f.done))
def costD (d : Dv) (r : Rq) : Int:=max (costR d.m r d.head) 1
def shareD (t : Tr) (d : Dv) (g : Int) : Int:=shr t (wtOf d.weights) (onB t (actL d)) g
def freeD (d : Dv) (r : Rq) : Int:=max d.free ((d.now - 1) * d.speed) + costD d r
def doneD (d : Dv) (r : Rq) : Int:=max (d.now + 1) ((freeD d r + d.speed - 1) / d.speed)
def beginD (t : Tr) (d : Dv) (g : Int) (r : Rq) (v : List Ch) : Dv :=
  { d with v:=v,buckets:=spendD t d.buckets r,queue:=remQ d.queue g,head:=r.at_ + r.pages,free:=freeD d r,flights:=insF d.flights ⟨r,doneD d r⟩ }
def advC (now : Int) (c : Cp) : Cp:=⟨c.group,advB c.rp now,advB c.wp now,advB c.ro now,advB c.wo now⟩
def advD (d : Dv) : Dv:={ d with now:=d.now + 1,buckets:=d.buckets.map (advC (d.now + 1)),flights:=d.flights.dropWhile fun f=>decide (f.done <= d.now + 1) }
def endedD (d : Dv) : List Fl:=d.flights.takeWhile fun f=>decide (f.done <= d.now + 1)
def loopD (t : Tr) : Nat -> Dv -> Dv
 | 0,d=>d
 | k + 1,d=>if d.now * d.speed <= d.free then d else
  let g:=nxtA t d.v (d.now * d.speed) 0 (msort (readyL t d [] d.queue))
  if g = 0 then d else match firstQ d.queue g with
  | none=>d
  | some r =>
   let i:=IssueA t d.v g (shareD t d g) (costD d r) (d.now * d.speed) d.margin
   if i.2 ≠ 0 then d else loopD t k (beginD t d g r i.1)
def tickD (t : Tr) (d : Dv) : Dv:=loopD t (d.queue.length + 1) (advD d)
def ascB (kn : Int -> Bool) (ok : Cp -> Bool) : Option Int -> List Cp -> Bool
 | _,[]=>true
 | p,c :: l=>kn c.group && prevOk p c.group && ok c && ascB kn ok (some c.group) l
def ascD (kn : Int -> Bool) : Option Int -> List Dp -> Bool
 | _,[]=>true
 | p,c :: l=>kn c.group && prevOk p c.group && (inZ c.target 0 1048576 && inZ c.depth 1 256) && ascD kn (some c.group) l
def soundB (now : Int) (b : Bk) : Bool:=bkOk b && decide (b.per = 100) && decide (b.now = now)
def capsB (now : Int) (c : Cp) : Bool:=soundB now c.rp && soundB now c.wp && soundB now c.ro && soundB now c.wo
def prevLe (p : Option Int) (n : Int) : Bool:=match p with | none=>true | some q=>decide (q <= n)
def flOk (kn : Int -> Bool) : Option Int -> List Fl -> Bool
 | _,[]=>true
 | p,f :: l=>(soundR f.r && kn f.r.group) && inZ f.done 0 1125899906842624 && prevLe p f.done && flOk kn (some f.done) l
def configOk (m : Mdl) (speed margin : Int) : Bool:=modelOk m && inZ speed 1 1000000 && inZ margin 0 1073741824
def validDv (t : Tr) (d : Dv) : Bool :=
 treeOk t && configOk d.m d.speed d.margin && inZ d.now 0 1048576 && inZ d.free 0 1125899906842624 && inZ d.head 0 16777216 && validW t d.weights && ascD (knownN t.nodes) none d.depths && checkA t d.v &&
 decide (d.queue.length + d.flights.length <= 256) && ascB (knownN t.nodes) (capsB d.now) none d.buckets && d.queue.all (fun r=>soundR r && knownN t.nodes r.group) && flOk (knownN t.nodes) none d.flights
theorem inZ_iff {n lo hi : Int} : inZ n lo hi = true ↔ lo <= n /\ n <= hi:=by simp [inZ]
theorem prevOk_iff {p : Option Int} {g : Int} : prevOk p g = true ↔ ∀ q,p = some q -> q < g:=by
 cases p <;> simp [prevOk]
theorem ascB_iff {kn : Int -> Bool} {ok : Cp -> Bool} : ∀ {l : List Cp} {p : Option Int},ascB kn ok p l = true ↔ (∀ c ∈ l,kn c.group = true /\ ok c = true) /\ l.Pairwise (fun a b=>a.group < b.group) /\ ∀ q,p = some q -> ∀ c ∈ l,q < c.group
 | [],p=>by simp [ascB]
 | c :: l,p=>by
  simp only [ascB,bat,prevOk_iff,ascB_iff (l:=l),lmk,lpw,forall_eq_or_imp,osi]
  constructor
  ·rintro ⟨⟨⟨h1,h2⟩,h3⟩,h4,h5,h6⟩
   exact ⟨⟨⟨h1,h3⟩,h4⟩,⟨fun b hb=>h6 _ rfl b hb,h5⟩,fun q hq=>⟨h2 q hq,fun b hb=>Int.lt_trans (h2 q hq) (h6 _ rfl b hb)⟩⟩
  ·rintro ⟨⟨⟨h1,h3⟩,h4⟩,⟨h6,h5⟩,h7⟩
   exact ⟨⟨⟨h1,fun q hq=>(h7 q hq).1⟩,h3⟩,h4,h5,fun q hq b hb=>by subst hq; exact h6 b hb⟩
theorem prevLe_iff {p : Option Int} {g : Int} : prevLe p g = true ↔ ∀ q,p = some q -> q <= g:=by
 cases p <;> simp [prevLe]
theorem flOk_iff {kn : Int -> Bool} : ∀ {l : List Fl} {p : Option Int},flOk kn p l = true ↔ (∀ f ∈ l,(soundR f.r = true /\ kn f.r.group = true) /\ 0 <= f.done /\ f.done <= 1125899906842624) /\ l.Pairwise (fun a b=>a.done <= b.done) /\ ∀ q,p = some q -> ∀ f ∈ l,q <= f.done
 | [],p=>by simp [flOk]
 | f :: l,p=>by
  simp only [flOk,bat,prevLe_iff,inZ_iff,flOk_iff (l:=l),lmk,lpw,forall_eq_or_imp,osi]
  constructor
  ·rintro ⟨⟨⟨⟨h1,h2⟩,h3⟩,h4⟩,h5,h6,h7⟩
   exact ⟨⟨⟨⟨h1,h2⟩,h3⟩,h5⟩,⟨fun b hb=>h7 _ rfl b hb,h6⟩,fun q hq=>⟨h4 q hq,fun b hb=>Int.le_trans (h4 q hq) (h7 _ rfl b hb)⟩⟩
  ·rintro ⟨⟨⟨⟨h1,h2⟩,h3⟩,h5⟩,⟨h7,h6⟩,h8⟩
   exact ⟨⟨⟨⟨h1,h2⟩,h3⟩,fun q hq=>(h8 q hq).1⟩,h5,h6,fun q hq b hb=>by subst hq; exact h7 b hb⟩
structure DvOk (t : Tr) (d : Dv) : Prop where
 tree : TreeOk t
 cfg : configOk d.m d.speed d.margin = true
 now : 0 <= d.now /\ d.now <= 1048576
 free : 0 <= d.free /\ d.free <= 1125899906842624
 head : 0 <= d.head /\ d.head <= 16777216
 w : AscOk (knownN t.nodes) 1 10000 d.weights
 dp : ascD (knownN t.nodes) none d.depths = true
 v : AscOk (knownN t.nodes) 0 1152921504606846976 d.v
 len : d.queue.length + d.flights.length <= 256
 bk : ascB (knownN t.nodes) (capsB d.now) none d.buckets = true
 q : ∀ r ∈ d.queue,soundR r = true /\ knownN t.nodes r.group = true
 fl : flOk (knownN t.nodes) none d.flights = true
theorem dvOk_iff {t : Tr} {d : Dv} : validDv t d = true ↔ DvOk t d:=by
 simp only [validDv,bat,inZ_iff,decide_eq_true_eq,List.all_eq_true,validW_iff,checkA,ascOk_iff,treeOk_iff]
 constructor
 ·rintro ⟨⟨⟨⟨⟨⟨⟨⟨⟨⟨⟨h1,h2⟩,h3⟩,h4⟩,h5⟩,h6⟩,h7⟩,h8⟩,h9⟩,h10⟩,h11⟩,h12⟩
  exact ⟨h1,h2,h3,h4,h5,h6.2,h7,h8.2,h9,h10,h11,h12⟩
 ·rintro ⟨h1,h2,h3,h4,h5,h6,h7,h8,h9,h10,h11,h12⟩
  exact ⟨⟨⟨⟨⟨⟨⟨⟨⟨⟨⟨h1,h2⟩,h3⟩,h4⟩,h5⟩,⟨h1,h6⟩⟩,h7⟩,⟨h1,h8⟩⟩,h9⟩,h10⟩,h11⟩,h12⟩
theorem bkOk_iff {b : Bk} : bkOk b = true ↔ (1 <= b.per /\ b.per <= 1048576) /\ (0 <= b.now /\ b.now <= 1048576) /\ ((b.rate = maxR /\ b.burst = 0 /\ b.level = 0) \/ (b.rate ≠ maxR /\ (0 <= b.rate /\ b.rate <= 1073741824) /\ (0 <= b.burst /\ b.burst <= 1073741824) /\ 0 <= b.level /\ b.level <= b.burst * b.per)):=by
 unfold bkOk
 by_cases h : b.rate = maxR
 ·rw [if_pos h]
  simp only [bat,inZ_iff,decide_eq_true_eq,h,true_and,ne_eq,not_true_eq_false,false_and,or_false,and_assoc]
 ·rw [if_neg h]
  simp only [bat,inZ_iff,h,false_and,ne_eq,not_false_eq_true,true_and,false_or,and_assoc]
theorem soundB_iff {now : Int} {b : Bk} : soundB now b = true ↔ bkOk b = true /\ b.per = 100 /\ b.now = now:=by
 simp only [soundB,bat,decide_eq_true_eq,and_assoc]
theorem adv_ok {now : Int} {b : Bk} (h : soundB now b = true) (hn : now + 1 <= 1048576) (h0 : 0 <= now) : soundB (now + 1) (advB b (now + 1)) = true:=by
 rw [soundB_iff,bkOk_iff] at h
 obtain ⟨⟨h1,h2,h3⟩,h4,h5⟩:=h
 rw [soundB_iff,bkOk_iff]
 unfold advB
 rcases h3 with ⟨e,h6,h7⟩ | ⟨e,h6,h7,h8⟩
 ·rw [if_pos e]
  exact ⟨⟨h1,by simp only; omega,.inl ⟨e,h6,h7⟩⟩,h4,rfl⟩
 ·rw [if_neg e]
  refine ⟨⟨h1,by simp only; omega,.inr ⟨e,h6,h7,?_⟩⟩,h4,rfl⟩
  simp only
  have hb : 0 <= b.burst * b.per:=Int.mul_nonneg h7.1 (by omega)
  have hr : 0 <= b.rate * (now + 1 - b.now):=Int.mul_nonneg h6.1 (by omega)
  omega
theorem tak_ok {now : Int} {b : Bk} (h : soundB now b = true) {n : Int} (hn : 0 <= n) : soundB now (takB b n) = true:=by
 have h':=h
 rw [soundB_iff,bkOk_iff] at h
 obtain ⟨⟨h1,h2,h3⟩,h4,h5⟩:=h
 unfold takB
 by_cases e : b.rate = maxR
 ·rw [if_pos e]; exact h'
 ·rw [if_neg e]
  by_cases hl : b.level / b.per < n
  ·rw [if_pos hl]; exact h'
  ·rw [if_neg hl,soundB_iff,bkOk_iff]
   rcases h3 with ⟨e',_⟩ | ⟨_,h6,h7,h8⟩
   ·exact absurd e' e
   ·refine ⟨⟨h1,h2,.inr ⟨e,h6,h7,?_⟩⟩,h4,h5⟩
    simp only
    have hk : n * b.per <= b.level:=by
     have:=Int.mul_le_mul_of_nonneg_right (show n <= b.level / b.per by omega) (show 0 <= b.per by omega)
     have h9:=Int.ediv_mul_le b.level (show b.per ≠ 0 by omega)
     omega
    have : 0 <= n * b.per:=Int.mul_nonneg hn (by omega)
    omega
theorem capsB_iff {now : Int} {c : Cp} : capsB now c = true ↔ soundB now c.rp = true /\ soundB now c.wp = true /\ soundB now c.ro = true /\ soundB now c.wo = true:=by
 simp only [capsB,bat,and_assoc]
theorem setC_get {l : List Cp} {id : Int} {f : Cp -> Cp} : ∀ {c : Cp},c ∈ setC l id f -> c ∈ l \/ ∃ c0 ∈ l,c = f c0:=by
 induction l with
 | nil=>intro c h; simp [setC] at h
 | cons x l ih =>
  intro c h
  unfold setC at h
  split at h
  ·rcases lmk.1 h with rfl | h
   ·exact .inr ⟨x,lms ..,rfl⟩
   ·exact .inl (lmc _ h)
  ·rcases lmk.1 h with rfl | h
   ·exact .inl (lms ..)
   ·rcases ih h with h | ⟨c0,h0,e⟩
    .exact .inl (lmc _ h)
    .exact .inr ⟨c0,lmc _ h0,e⟩
theorem setC_groups {f : Cp -> Cp} (hf : ∀ c,(f c).group = c.group) (id : Int) : ∀ l : List Cp,(setC l id f).map (·.group) = l.map (·.group)
 | []=>rfl
 | c :: l=>by
  unfold setC
  split
  .simp [hf]
  .simp [setC_groups hf id l]
theorem pair_groups {l m : List Cp} (h : l.map (·.group) = m.map (·.group)) : l.Pairwise (fun a b=>a.group < b.group) ↔ m.Pairwise (fun a b=>a.group < b.group):=by
 rw [<- List.pairwise_map (f:=Cp.group) (R:=fun a b=>a < b),<- List.pairwise_map (f:=Cp.group) (R:=fun a b=>a < b),h]
theorem ascB_same {kn : Int -> Bool} {ok ok' : Cp -> Bool} {l m : List Cp} (h : l.map (·.group) = m.map (·.group)) (hl : ascB kn ok none l = true) (hm : ∀ c ∈ m,ok' c = true) : ascB kn ok' none m = true:=by
 rw [ascB_iff] at hl ⊢
 refine ⟨fun c hc=>⟨?_,hm c hc⟩,(pair_groups h).1 hl.2.1,fun q hq=>by cases hq⟩
 have : c.group ∈ l.map (·.group):=by rw [h]; exact List.mem_map_of_mem hc
 obtain ⟨c0,h0,e⟩:=lmm.1 this
 rw [<- e]
 exact (hl.1 c0 h0).1
theorem spend_group (c : Cp) (r : Rq) : (spendC c r).group = c.group:=by unfold spendC; split <;> rfl
theorem spend_ok {now : Int} {c : Cp} {r : Rq} (h : capsB now c = true) (hp : 0 <= r.pages) : capsB now (spendC c r) = true:=by
 rw [capsB_iff] at h ⊢
 obtain ⟨h1,h2,h3,h4⟩:=h
 unfold spendC
 split
 .exact ⟨h1,tak_ok h2 hp,h3,tak_ok h4 (by omega)⟩
 .exact ⟨tak_ok h1 hp,h2,tak_ok h3 (by omega),h4⟩
theorem spendD_ok {t : Tr} {now : Int} {r : Rq} (hp : 0 <= r.pages) {kn : Int -> Bool} : ∀ (gs : List Int) (l : List Cp),ascB kn (capsB now) none l = true -> ascB kn (capsB now) none (gs.foldl (fun l g=>setC l g fun c=>spendC c r) l) = true
 | [],l,h=>h
 | g :: gs,l,h=>spendD_ok (t:=t) hp gs _ (ascB_same (setC_groups (fun c=>spend_group c r) g l).symm h fun c hc=>by
   rw [ascB_iff] at h
   rcases setC_get hc with hc | ⟨c0,h0,rfl⟩
   .exact (h.1 c hc).2
   .exact spend_ok (h.1 c0 h0).2 hp)
theorem firstQ_mem {g : Int} : ∀ {l : List Rq} {r : Rq},firstQ l g = some r -> r ∈ l /\ r.group = g
 | [],r,h=>by cases h
 | x :: l,r,h=>by
  unfold firstQ at h
  split at h
  .rename_i e; cases h; exact ⟨lms ..,e⟩
  .obtain ⟨h1,h2⟩:=firstQ_mem h; exact ⟨lmc _ h1,h2⟩
theorem remQ_len {g : Int} : ∀ {l : List Rq} {r : Rq},firstQ l g = some r -> (remQ l g).length + 1 = l.length
 | [],r,h=>by cases h
 | x :: l,r,h=>by
  unfold firstQ at h
  unfold remQ
  split at h
  .rename_i e; rw [if_pos e]; rfl
  .rename_i e; rw [if_neg e,llc,remQ_len h]; rfl
theorem remQ_sub (g : Int) : ∀ l : List Rq,List.Sublist (remQ l g) l
 | []=>List.Sublist.refl _
 | x :: l=>by
  unfold remQ
  split
  .exact List.sublist_cons_self _ _
  .exact (remQ_sub g l).cons_cons x
theorem insF_len (l : List Fl) (f : Fl) : (insF l f).length = l.length + 1:=by
 unfold insF
 rw [lla,llc]
 have:=congrArg List.length (List.takeWhile_append_dropWhile (p:=fun x : Fl=>decide (x.done <= f.done)) (l:=l))
 rw [lla] at this
 omega
theorem insF_mem {l : List Fl} {f x : Fl} : x ∈ insF l f ↔ x = f \/ x ∈ l:=by
 have:=List.takeWhile_append_dropWhile (p:=fun x : Fl=>decide (x.done <= f.done)) (l:=l)
 have h2 : x ∈ l ↔ x ∈ l.takeWhile (fun x=>decide (x.done <= f.done)) \/ x ∈ l.dropWhile (fun x=>decide (x.done <= f.done)):=by
  rw [<- lmp,this]
 unfold insF
 rw [lmp,lmk,h2]
 exact ⟨fun h=>by rcases h with h | h | h <;> simp [h],fun h=>by rcases h with h | h | h <;> simp [h]⟩
theorem insF_sorted {l : List Fl} (f : Fl) (h : l.Pairwise fun a b=>a.done <= b.done) : (insF l f).Pairwise fun a b=>a.done <= b.done:=by
 induction l with
 | nil=>simp [insF]
 | cons x l ih =>
  rw [lpw] at h
  by_cases hx : x.done <= f.done
  ·have e : insF (x :: l) f = x :: insF l f:=by simp [insF,hx]
   rw [e,lpw]
   refine ⟨fun y hy=>?_,ih h.2⟩
   rcases insF_mem.1 hy with rfl | hy
   .exact hx
   .exact h.1 y hy
  ·have e : insF (x :: l) f = f :: x :: l:=by simp [insF,hx]
   rw [e,lpw]
   refine ⟨fun y hy=>?_,lpw.2 h⟩
   rcases lmk.1 hy with rfl | hy
   .omega
   .have:=h.1 y hy; omega
theorem soundR_iff {r : Rq} : soundR r = true ↔ (0 <= r.task /\ r.task <= 2147483647) /\ (1 <= r.group /\ r.group <= 2147483647) /\ (0 <= r.at_ /\ r.at_ <= 16777216) /\ (1 <= r.pages /\ r.pages <= 4096) /\ r.at_ + r.pages <= 16777216 /\ 0 <= r.time /\ r.time <= 1048576:=by
 simp only [soundR,bat,inZ_iff,decide_eq_true_eq,and_assoc]
theorem configOk_iff {m : Mdl} {speed margin : Int} : configOk m speed margin = true ↔ modelOk m = true /\ (1 <= speed /\ speed <= 1000000) /\ 0 <= margin /\ margin <= 1073741824:=by
 simp only [configOk,bat,inZ_iff,and_assoc]
theorem modelOk_iff {m : Mdl} : modelOk m = true ↔ (0 <= m.rb /\ m.rb <= 1000000) /\ (0 <= m.rp /\ m.rp <= 1000000) /\ (0 <= m.wb /\ m.wb <= 1000000) /\ (0 <= m.wp /\ m.wp <= 1000000) /\ 0 <= m.seek /\ m.seek <= 1000000:=by
 simp only [modelOk,bat,inZ_iff,and_assoc]
theorem mul_range {a b A B : Int} (h0 : 0 <= a) (h1 : a <= A) (h2 : 0 <= b) (h3 : b <= B) : 0 <= a * b /\ a * b <= A * B:=by
 refine ⟨Int.mul_nonneg h0 h2,?_⟩
 have e1:=Int.mul_le_mul_of_nonneg_right h1 h2
 have e2:=Int.mul_le_mul_of_nonneg_left h3 (show 0 <= A by omega)
 omega
theorem cost_range {m : Mdl} (hm : modelOk m = true) {r : Rq} (hr : soundR r = true) (head : Int) : 0 <= costR m r head /\ costR m r head <= 4098000000:=by
 rw [modelOk_iff] at hm
 rw [soundR_iff] at hr
 have h1:=mul_range (a:=m.rp) (b:=r.pages) (A:=1000000) (B:=4096) hm.2.1.1 hm.2.1.2 (by omega) (by omega)
 have h2:=mul_range (a:=m.wp) (b:=r.pages) (A:=1000000) (B:=4096) hm.2.2.2.1.1 hm.2.2.2.1.2 (by omega) (by omega)
 unfold costR
 split <;> split <;> omega
theorem advD_ok {t : Tr} {d : Dv} (h : DvOk t d) (hn : d.now < 1048576) : DvOk t (advD d) where
 tree:=h.tree
 cfg:=h.cfg
 now:=by have:=h.now; show 0 <= d.now + 1 /\ d.now + 1 <= _; omega
 free:=h.free
 head:=h.head
 w := h.w
 dp:=h.dp
 v := h.v
 len:=by
  have:=h.len
  have h2:=(List.dropWhile_sublist (l:=d.flights) fun f=>decide (f.done <= d.now + 1)).length_le
  show d.queue.length + (d.flights.dropWhile _).length <= 256
  omega
 bk:=by
  have hb:=h.bk
  refine ascB_same ?_ hb fun c hc=>?_
  ·show _ = (d.buckets.map (advC (d.now + 1))).map (·.group)
   rw [List.map_map]
   rfl
  ·obtain ⟨c0,h0,rfl⟩:=lmm.1 hc
   have:=(ascB_iff.1 hb).1 c0 h0
   rw [capsB_iff] at this
   have hnn:=h.now
   exact capsB_iff.2 ⟨adv_ok this.2.1 (by omega) hnn.1,adv_ok this.2.2.1 (by omega) hnn.1,adv_ok this.2.2.2.1 (by omega) hnn.1,adv_ok this.2.2.2.2 (by omega) hnn.1⟩
 q:=h.q
 fl:=by
  have:=flOk_iff.1 h.fl
  have hs:=List.dropWhile_sublist (l:=d.flights) fun f=>decide (f.done <= d.now + 1)
  exact flOk_iff.2 ⟨fun f hf=>this.1 f (hs.subset hf),this.2.1.sublist hs,fun q hq=>by cases hq⟩
theorem bin_eq (n lo hi : Int) : V 175 [.p (.int .i64 n),.p (.int .i64 lo),.p (.int .i64 hi)] [] = some (.p (.bool (inZ n lo hi)),[]):=by
 refine V_wp (vf:=vf175) rfl ?_
 unfold inZ
 by_cases h1 : lo <= n
 ·by_cases h2 : n <= hi
  ·rw [decide_eq_true ⟨h1,h2⟩]
   simp -implicitDefEqProofs (disch:=omega) only [vf175,vb175,h1,h2,go_sem,↓reduceIte,rA,rS,rE,rL,reduceCtorEq]
  ·rw [decide_eq_false (fun h=>h2 h.2)]
   simp -implicitDefEqProofs (disch:=omega) only [vf175,vb175,h1,h2,go_sem,↓reduceIte,rA,rS,rE,rL,reduceCtorEq]
 ·rw [decide_eq_false (fun h=>h1 h.1)]
  simp -implicitDefEqProofs (disch:=omega) only [vf175,vb175,h1,go_sem,↓reduceIte,rA,rS,rE,rL,reduceCtorEq]
theorem bopen_eq (b : Bk) : V 176 [b.vv] [] = some (.p (.bool (decide (b.rate = maxR))),[]):=by
 refine V_wp (vf:=vf176) rfl ?_
 simp -implicitDefEqProofs (disch:=omega) only [vf176,vb176,go_sem,↓reduceIte,rA,rS,rE,rL,reduceCtorEq]
theorem bvalid_eq (b : Bk) : V 174 [b.vv] [] = some (.p (.bool (bkOk b)),[]):=by
 refine V_wp (vf:=vf174) rfl ?_
 have i1:=bin_eq b.per 1 1048576
 have i2:=bin_eq b.now 0 1048576
 have i3:=bin_eq b.rate 0 1073741824
 have i4:=bin_eq b.burst 0 1073741824
 have i5:=bin_eq b.level 0 (b.burst * b.per)
 have op:=bopen_eq b
 unfold bkOk
 cases h1 : inZ b.per 1 1048576 with
 | false =>
  rw [h1] at i1
  simp -implicitDefEqProofs (disch:=omega) only [vf174,vb174,i1,bfa,go_sem,↓reduceIte,rA,rS,rE,rL,reduceCtorEq]
 | true =>
  rw [h1] at i1
  cases h2 : inZ b.now 0 1048576 with
  | false =>
   rw [h2] at i2
   simp -implicitDefEqProofs (disch:=omega) only [vf174,vb174,i1,i2,bfa,bta,go_sem,↓reduceIte,rA,rS,rE,rL,reduceCtorEq]
  | true =>
   rw [h2] at i2
   by_cases hm : b.rate = maxR
   ·rw [decide_eq_true hm] at op
    rw [if_pos hm]
    cases hb : decide (b.burst = 0) with
    | false=>simp -implicitDefEqProofs (disch:=omega) only [vf174,vb174,i1,i2,op,hb,bta,bfa,go_sem,↓reduceIte,rA,rS,rE,rL,reduceCtorEq]
    | true=>simp -implicitDefEqProofs (disch:=omega) only [vf174,vb174,i1,i2,op,hb,bta,go_sem,↓reduceIte,rA,rS,rE,rL,reduceCtorEq]
   ·rw [decide_eq_false hm] at op
    rw [if_neg hm]
    cases h3 : inZ b.rate 0 1073741824 with
    | false =>
     rw [h3] at i3
     simp -implicitDefEqProofs (disch:=omega) only [vf174,vb174,i1,i2,op,i3,bfa,bta,go_sem,↓reduceIte,rA,rS,rE,rL,reduceCtorEq]
    | true =>
     rw [h3] at i3
     cases h4 : inZ b.burst 0 1073741824 with
     | false =>
      rw [h4] at i4
      simp -implicitDefEqProofs (disch:=omega) only [vf174,vb174,i1,i2,op,i3,i4,bfa,bta,go_sem,↓reduceIte,rA,rS,rE,rL,reduceCtorEq]
     | true =>
      rw [h4] at i4
      have e1:=inZ_iff.1 h1
      have e4:=inZ_iff.1 h4
      have hr:=mul_range e4.1 e4.2 (show 0 <= b.per by omega) e1.2
      simp -implicitDefEqProofs (disch:=omega) only [vf174,vb174,i1,i2,op,i3,i4,i5,bta,go_sem,↓reduceIte,rA,rS,rE,rL,reduceCtorEq]
theorem badv_eq (b : Bk) (now : Int) (h : bkOk b = true) (h1 : b.now <= now) (h2 : now <= 1048576) : V 115 [b.vv,.p (.int .i64 now)] [] = some (.tup [(advB b now).vv,.p (.int .i64 0)],[]):=by
 refine V_wp (vf:=vf115) rfl ?_
 have hv:=bvalid_eq b
 rw [h] at hv
 rw [bkOk_iff] at h
 obtain ⟨hp,hw,hc⟩:=h
 have i1:=bin_eq now 0 1048576
 rw [show inZ now 0 1048576 = true from inZ_iff.2 ⟨by omega,h2⟩] at i1
 have hlt : ¬ now < b.now:=by omega
 have op:=bopen_eq b
 unfold advB
 rcases hc with ⟨e,hb,hl⟩ | ⟨e,hr,hb,hl⟩
 ·rw [if_pos e]
  rw [decide_eq_true e] at op
  simp -implicitDefEqProofs (disch:=omega) only [vf115,vb115,hv,i1,hlt,op,go_sem,↓reduceIte,rA,rS,rE,rL,reduceCtorEq]
 ·rw [if_neg e]
  rw [decide_eq_false e] at op
  have m1:=mul_range hr.1 hr.2 (show 0 <= now - b.now by omega) (show now - b.now <= 1048576 by omega)
  have m2:=mul_range hb.1 hb.2 (show 0 <= b.per by omega) hp.2
  simp -implicitDefEqProofs (disch:=omega) only [vf115,vb115,hv,i1,hlt,op,go_sem,↓reduceIte,rA,rS,rE,rL,reduceCtorEq]
theorem btok_eq (b : Bk) (h : bkOk b = true) : V 181 [b.vv] [] = some (.p (.int .i64 (tokB b)),[]):=by
 refine V_wp (vf:=vf181) rfl ?_
 have hv:=bvalid_eq b
 rw [h] at hv
 rw [bkOk_iff] at h
 obtain ⟨hp,hw,hc⟩:=h
 have op:=bopen_eq b
 unfold tokB
 rcases hc with ⟨e,hb,hl⟩ | ⟨e,hr,hb,hl⟩
 ·rw [if_pos e]
  rw [decide_eq_true e] at op
  simp -implicitDefEqProofs (disch:=omega) only [vf181,vb181,hv,op,go_sem,↓reduceIte,rA,rS,rE,rL,reduceCtorEq]
 ·rw [if_neg e]
  rw [decide_eq_false e] at op
  have m2:=mul_range hb.1 hb.2 (show 0 <= b.per by omega) hp.2
  have hp0 : ¬ b.per = 0:=by omega
  have hq : b.level.tdiv b.per = b.level / b.per:=Int.tdiv_eq_ediv_of_nonneg hl.1
  have hq0 : 0 <= b.level / b.per:=Int.ediv_nonneg hl.1 (by omega)
  have hq1 : b.level / b.per <= b.level:=Int.ediv_le_self _ hl.1
  simp -implicitDefEqProofs (disch:=omega) only [vf181,vb181,hv,op,hp0,hq,go_sem,↓reduceIte,rA,rS,rE,rL,reduceCtorEq]
abbrev Mdl.cs (m : Mdl) : List VVal:=[.p (.int .i64 m.rb),.p (.int .i64 m.rp),.p (.int .i64 m.wb),.p (.int .i64 m.wp),.p (.int .i64 m.seek)]
abbrev Mdl.vv (m : Mdl) : VVal:=.agg m.cs
theorem cin_eq (n lo hi : Int) : V 170 [.p (.int .i64 n),.p (.int .i64 lo),.p (.int .i64 hi)] [] = some (.p (.bool (inZ n lo hi)),[]):=by
 refine V_wp (vf:=vf170) rfl ?_
 unfold inZ
 by_cases h1 : lo <= n
 ·by_cases h2 : n <= hi
  ·rw [decide_eq_true ⟨h1,h2⟩]
   simp -implicitDefEqProofs (disch:=omega) only [vf170,vb170,h1,h2,go_sem,↓reduceIte,rA,rS,rE,rL,reduceCtorEq]
  ·rw [decide_eq_false (fun h=>h2 h.2)]
   simp -implicitDefEqProofs (disch:=omega) only [vf170,vb170,h1,h2,go_sem,↓reduceIte,rA,rS,rE,rL,reduceCtorEq]
 ·rw [decide_eq_false (fun h=>h1 h.1)]
  simp -implicitDefEqProofs (disch:=omega) only [vf170,vb170,h1,go_sem,↓reduceIte,rA,rS,rE,rL,reduceCtorEq]
theorem din_eq (n lo hi : Int) : V 109 [.p (.int .i64 n),.p (.int .i64 lo),.p (.int .i64 hi)] [] = some (.p (.bool (inZ n lo hi)),[]):=by
 refine V_wp (vf:=vf109) rfl ?_
 unfold inZ
 by_cases h1 : lo <= n
 ·by_cases h2 : n <= hi
  ·rw [decide_eq_true ⟨h1,h2⟩]
   simp -implicitDefEqProofs (disch:=omega) only [vf109,vb109,h1,h2,go_sem,↓reduceIte,rA,rS,rE,rL,reduceCtorEq]
  ·rw [decide_eq_false (fun h=>h2 h.2)]
   simp -implicitDefEqProofs (disch:=omega) only [vf109,vb109,h1,h2,go_sem,↓reduceIte,rA,rS,rE,rL,reduceCtorEq]
 ·rw [decide_eq_false (fun h=>h1 h.1)]
  simp -implicitDefEqProofs (disch:=omega) only [vf109,vb109,h1,go_sem,↓reduceIte,rA,rS,rE,rL,reduceCtorEq]
theorem csound_eq (r : Rq) : V 102 [r.vv] [] = some (.p (.bool (soundR r)),[]):=by
 refine V_wp (vf:=vf102) rfl ?_
 have i1:=cin_eq r.task 0 2147483647
 have i2:=cin_eq r.group 1 2147483647
 have i3:=cin_eq r.at_ 0 16777216
 have i4:=cin_eq r.pages 1 4096
 have i5:=cin_eq r.time 0 1048576
 unfold soundR
 cases h1 : inZ r.task 0 2147483647 with
 | false =>
  rw [h1] at i1
  simp -implicitDefEqProofs (disch:=omega) only [vf102,vb102,i1,bfa,go_sem,↓reduceIte,rA,rS,rE,rL,reduceCtorEq]
 | true =>
  rw [h1] at i1
  cases h2 : inZ r.group 1 2147483647 with
  | false =>
   rw [h2] at i2
   simp -implicitDefEqProofs (disch:=omega) only [vf102,vb102,i1,i2,bfa,bta,go_sem,↓reduceIte,rA,rS,rE,rL,reduceCtorEq]
  | true =>
   rw [h2] at i2
   cases h3 : inZ r.at_ 0 16777216 with
   | false =>
    rw [h3] at i3
    simp -implicitDefEqProofs (disch:=omega) only [vf102,vb102,i1,i2,i3,bfa,bta,go_sem,↓reduceIte,rA,rS,rE,rL,reduceCtorEq]
   | true =>
    rw [h3] at i3
    cases h4 : inZ r.pages 1 4096 with
    | false =>
     rw [h4] at i4
     simp -implicitDefEqProofs (disch:=omega) only [vf102,vb102,i1,i2,i3,i4,bfa,bta,go_sem,↓reduceIte,rA,rS,rE,rL,reduceCtorEq]
    | true =>
     rw [h4] at i4
     have e3:=inZ_iff.1 h3
     have e4:=inZ_iff.1 h4
     by_cases h5 : r.at_ + r.pages <= 16777216
     .simp -implicitDefEqProofs (disch:=omega) only [vf102,vb102,i1,i2,i3,i4,i5,h5,bta,go_sem,↓reduceIte,rA,rS,rE,rL,reduceCtorEq]
     .simp -implicitDefEqProofs (disch:=omega) only [vf102,vb102,i1,i2,i3,i4,i5,h5,bfa,bta,go_sem,↓reduceIte,rA,rS,rE,rL,reduceCtorEq]
def mAll (l : List Int) : Bool:=l.all fun n=>inZ n 0 1000000
theorem cvalidM_eq (m : Mdl) : V 141 [m.vv] [] = some (.p (.bool (modelOk m)),[]):=by
 refine V_wp (vf:=vf141) rfl ?_
 have hM : modelOk m = mAll [m.rb,m.rp,m.wb,m.wp,m.seek]:=by simp [mAll,modelOk,Bool.and_assoc]
 rw [hM]
 simp -implicitDefEqProofs (disch:=omega) only [vf141,vb141,go_sem,↓reduceIte,rA,rS,rE,rL,reduceCtorEq]
 obtain ⟨I,hI⟩ : ∃ I : Nat -> St -> Prop,∀ k s,I k s ↔ mAll [m.rb,m.rp,m.wb,m.wp,m.seek] = mAll ([m.rb,m.rp,m.wb,m.wp,m.seek].drop k) /\ s.pe 2 = .p (.bool false) /\ s.pe 15 = m.vv /\ s.pe 16 = .p (.int .i64 k):=⟨_,fun _ _=>Iff.rfl⟩
 refine wp_count (5) I ?_ ?_
 ·refine (hI _ _).2 ⟨?_,?_,?_,?_⟩
  ·exact cl3
  all_goals exact cl0
 intro k s hk hIk
 obtain ⟨hq,h2,h15,h16⟩:=(hI _ _).1 hIk
 clear hIk
 simp -implicitDefEqProofs (disch:=omega) only [h2,h15,h16,go_sem,↓reduceIte,rA,rS,rE,rL,reduceCtorEq]
 refine wp_if_d (fun hlt=>?_) (fun hge=>?_)
 ·have hk5' : (k : Int) < 5:=hlt
  have hk5 : k < 5:=by omega
  obtain ⟨n,hm,hcs⟩ : ∃ n,[m.rb,m.rp,m.wb,m.wp,m.seek][k]? = some n /\ m.cs[k * 1]? = some (.p (.int .i64 n)):=by
   have : k = 0 \/ k = 1 \/ k = 2 \/ k = 3 \/ k = 4:=by omega
   rcases this with rfl | rfl | rfl | rfl | rfl <;> exact ⟨_,rfl,rfl⟩
  have hd : mAll ([m.rb,m.rp,m.wb,m.wp,m.seek].drop k) = (inZ n 0 1000000 && mAll ([m.rb,m.rp,m.wb,m.wp,m.seek].drop (k + 1))):=by
   have hk : k < [m.rb,m.rp,m.wb,m.wp,m.seek].length:=hk5
   rw [ldg hk,mAll,List.all_cons]
   rw [lgg hk] at hm
   cases hm
   rfl
  rw [hd] at hq
  have hin:=cin_eq n 0 1000000
  cases hb : inZ n 0 1000000 with
  | false =>
   rw [hb] at hin hq
   have hF : mAll [m.rb,m.rp,m.wb,m.wp,m.seek] = false:=hq.trans (bfa _)
   simp -implicitDefEqProofs (disch:=omega) only [h2,h15,h16,hlt,hcs,hin,hF,go_sem,↓reduceIte,rA,rS,rE,rL,reduceCtorEq]
  | true =>
   rw [hb] at hin hq
   simp -implicitDefEqProofs (disch:=omega) only [h2,h15,h16,hlt,hcs,hin,go_sem,↓reduceIte,rA,rS,rE,rL,reduceCtorEq]
   try refine And.intro (by omega) ?_
   refine (hI _ _).2 ⟨?_,?_,?_,?_⟩
   .exact hq.trans (bta _)
   all_goals exact cl0
 ·have hT : mAll [m.rb,m.rp,m.wb,m.wp,m.seek] = true:=by
   rw [hq,List.drop_eq_nil_of_le (by simp; omega)]
   rfl
  simp -implicitDefEqProofs (disch:=omega) only [h2,h15,h16,hge,hT,go_sem,↓reduceIte,rA,rS,rE,rL,reduceCtorEq]
theorem lin_eq (n lo hi : Int) : V 173 [.p (.int .i64 n),.p (.int .i64 lo),.p (.int .i64 hi)] [] = some (.p (.bool (inZ n lo hi)),[]):=by
 refine V_wp (vf:=vf173) rfl ?_
 unfold inZ
 by_cases h1 : lo <= n
 ·by_cases h2 : n <= hi
  ·rw [decide_eq_true ⟨h1,h2⟩]
   simp -implicitDefEqProofs (disch:=omega) only [vf173,vb173,h1,h2,go_sem,↓reduceIte,rA,rS,rE,rL,reduceCtorEq]
  ·rw [decide_eq_false (fun h=>h2 h.2)]
   simp -implicitDefEqProofs (disch:=omega) only [vf173,vb173,h1,h2,go_sem,↓reduceIte,rA,rS,rE,rL,reduceCtorEq]
 ·rw [decide_eq_false (fun h=>h1 h.1)]
  simp -implicitDefEqProofs (disch:=omega) only [vf173,vb173,h1,go_sem,↓reduceIte,rA,rS,rE,rL,reduceCtorEq]
theorem lnone_eq (id : Int) : V 208 [.p (.int .i64 id)] [] = some (.agg [.p (.int .i64 id),.p (.int .i64 0),.p (.int .i64 256)],[]):=by
 refine V_wp (vf:=vf208) rfl ?_
 simp -implicitDefEqProofs (disch:=omega) only [vf208,vb208,go_sem,↓reduceIte,rA,rS,rE,rL,reduceCtorEq]
abbrev dpsP (l : List Dp) : PV:=.slice 3 (l.map Dp.pv)
abbrev Dp.vv (d : Dp) : VVal:=.agg [.p (.int .i64 d.group),.p (.int .i64 d.target),.p (.int .i64 d.depth)]
def prevD (l : List Dp) : Nat -> Option Int
 | 0=>none
 | k + 1=>l[k]?.map Dp.group
theorem ascD_step {kn : Int -> Bool} {l : List Dp} {k : Nat} {c : Dp} (hm : l[k]? = some c) : ascD kn (prevD l k) (l.drop k) = (kn c.group && prevOk (prevD l k) c.group && (inZ c.target 0 1048576 && inZ c.depth 1 256) && ascD kn (prevD l (k + 1)) (l.drop (k + 1))):=by
 have hk:=(lgs.1 hm).1
 rw [ldg hk]
 have e : l[k] = c:=by rw [lgg hk] at hm; exact Option.some.inj hm
 rw [e,ascD]
 simp [prevD,hm]
set_option maxHeartbeats 1000000 in
theorem lvalid_eq (t : Tr) (l : List Dp) (hf : t.Fits) (hn : t.nodes.length < 1000000) (hl : l.length < 1000000) : V 111 [t.vv,.p (dpsP l)] [] = some (.p (.bool (treeOk t && ascD (knownN t.nodes) none l)),[]):=by
 refine V_wp (vf:=vf111) rfl ?_
 have hc:=tcheck_eq t hf hn
 cases ht : treeOk t with
 | false =>
  rw [ht] at hc
  simp -implicitDefEqProofs (disch:=omega) only [vf111,vb111,hc,bfa,go_sem,↓reduceIte,rA,rS,rE,rL,reduceCtorEq]
 | true =>
  rw [ht] at hc
  rw [Bool.true_and]
  simp -implicitDefEqProofs (disch:=omega) only [vf111,vb111,hc,go_sem,↓reduceIte,rA,rS,rE,rL,reduceCtorEq]
  obtain ⟨I,hI⟩ : ∃ I : Nat -> St -> Prop,∀ k s,I k s ↔ ascD (knownN t.nodes) none l = ascD (knownN t.nodes) (prevD l k) (l.drop k) /\ s.pe 1 = .p (dpsP l) /\ s.pe 2 = .ptr (.slot 2 0) 0 0 /\ s.pe 12 = .p (dpsP l) /\ s.pe 13 = .p (.int .i64 l.length) /\ s.pe 14 = .p (.int .i64 k) /\ s.h (.slot 2 0) = some (0,.box [.p (nodesP t.nodes),.p (.int .i64 t.next)]):=⟨_,fun _ _=>Iff.rfl⟩
  refine wp_count (l.length) I ?_ ?_
  ·refine (hI _ _).2 ⟨?_,?_,?_,?_,?_,?_,?_⟩
   ·exact cl3
   all_goals exact cl0
  intro k s hk hIk
  obtain ⟨hq,h1,h2,h12,h13,h14,hh2_0⟩:=(hI _ _).1 hIk
  clear hIk
  simp -implicitDefEqProofs (disch:=omega) only [h1,h2,h12,h13,h14,hh2_0,go_sem,↓reduceIte,rA,rS,rE,rL,reduceCtorEq]
  refine wp_if_d (fun hlt=>?_) (fun hge=>?_)
  ·have hm : l[k]? = some l[k]:=lgg hlt
   generalize l[k] = c at hm
   rw [ascD_step hm] at hq
   have hfi:=ffind_eq t c.group hn
   have hkn : knownN t.nodes c.group = (findN t.nodes c.group).isSome:=rfl
   generalize (findN t.nodes c.group).getD zeroNd = nd at hfi
   rw [← hkn] at hfi
   have i1:=lin_eq c.target 0 1048576
   have i2:=lin_eq c.depth 1 256
   cases hA : knownN t.nodes c.group with
   | false =>
    rw [hA] at hfi hq
    simp -implicitDefEqProofs (disch:=omega) only [h1,h2,h12,h13,h14,hh2_0,hlt,hm,hfi,hq,Nd.vv,bfa,go_sem,↓reduceIte,rA,rS,rE,rL,reduceCtorEq]
   | true =>
    rw [hA,bta] at hq
    rw [hA] at hfi
    have ord : (∃ e : Dp,0 < k /\ l[k - 1]? = some e /\ (prevOk (prevD l k) c.group = decide (e.group < c.group))) \/ (k = 0 /\ prevOk (prevD l k) c.group = true):=by
     cases k with
     | zero=>exact .inr ⟨rfl,rfl⟩
     | succ k' =>
      have hk' : k' < l.length:=by omega
      refine .inl ⟨l[k'],by omega,by simp,?_⟩
      simp [prevD,lgg hk',prevOk]
    rcases ord with ⟨e,hk0,he,hpo⟩ | ⟨hk0,hpo⟩
    ·have hk0' : (0 : Int) < k:=by omega
     have hk1 : (0 : Int) <= (k : Int) - 1:=by omega
     have hk2 : ((k : Int) - 1).toNat = k - 1:=by omega
     rw [hpo] at hq
     by_cases hB : e.group < c.group
     ·rw [decide_eq_true hB,bta] at hq
      have hB' : ¬ c.group <= e.group:=by omega
      cases hC : inZ c.target 0 1048576 with
      | false =>
       rw [hC] at i1 hq
       simp -implicitDefEqProofs (disch:=omega) only [h1,h2,h12,h13,h14,hh2_0,hlt,hm,hfi,hq,Nd.vv,hk0',hk1,hk2,he,hB',i1,bfa,go_sem,↓reduceIte,rA,rS,rE,rL,reduceCtorEq]
      | true =>
       rw [hC] at i1 hq
       cases hD : inZ c.depth 1 256 with
       | false =>
        rw [hD] at i2 hq
        simp -implicitDefEqProofs (disch:=omega) only [h1,h2,h12,h13,h14,hh2_0,hlt,hm,hfi,hq,Nd.vv,hk0',hk1,hk2,he,hB',i1,i2,bfa,Bool.and_false,go_sem,↓reduceIte,rA,rS,rE,rL,reduceCtorEq]
       | true =>
        rw [hD] at i2 hq
        simp -implicitDefEqProofs (disch:=omega) only [h1,h2,h12,h13,h14,hh2_0,hlt,hm,hfi,Nd.vv,hk0',hk1,hk2,he,hB',i1,i2,go_sem,↓reduceIte,rA,rS,rE,rL,reduceCtorEq]
        try refine And.intro (by omega) ?_
        refine (hI _ _).2 ⟨?_,?_,?_,?_,?_,?_,?_⟩
        .exact by simpa using hq
        all_goals exact cl0
     ·rw [decide_eq_false hB,bfa,bfa] at hq
      have hB' : c.group <= e.group:=by omega
      simp -implicitDefEqProofs (disch:=omega) only [h1,h2,h12,h13,h14,hh2_0,hlt,hm,hfi,hq,Nd.vv,hk0',hk1,hk2,he,hB',go_sem,↓reduceIte,rA,rS,rE,rL,reduceCtorEq]
    ·have hk0' : ¬ (0 : Int) < k:=by omega
     rw [hpo,bta] at hq
     cases hC : inZ c.target 0 1048576 with
     | false =>
      rw [hC] at i1 hq
      simp -implicitDefEqProofs (disch:=omega) only [h1,h2,h12,h13,h14,hh2_0,hlt,hm,hfi,hq,Nd.vv,hk0',i1,bfa,go_sem,↓reduceIte,rA,rS,rE,rL,reduceCtorEq]
     | true =>
      rw [hC] at i1 hq
      cases hD : inZ c.depth 1 256 with
      | false =>
       rw [hD] at i2 hq
       simp -implicitDefEqProofs (disch:=omega) only [h1,h2,h12,h13,h14,hh2_0,hlt,hm,hfi,hq,Nd.vv,hk0',i1,i2,bfa,Bool.and_false,go_sem,↓reduceIte,rA,rS,rE,rL,reduceCtorEq]
      | true =>
       rw [hD] at i2 hq
       simp -implicitDefEqProofs (disch:=omega) only [h1,h2,h12,h13,h14,hh2_0,hlt,hm,hfi,Nd.vv,hk0',i1,i2,go_sem,↓reduceIte,rA,rS,rE,rL,reduceCtorEq]
       try refine And.intro (by omega) ?_
       refine (hI _ _).2 ⟨?_,?_,?_,?_,?_,?_,?_⟩
       .exact by simpa using hq
       all_goals exact cl0
  ·have hT : ascD (knownN t.nodes) none l = true:=by
    rw [hq,List.drop_eq_nil_of_le (by omega)]
    rfl
   simp -implicitDefEqProofs (disch:=omega) only [h1,h2,h12,h13,h14,hh2_0,hge,hT,go_sem,↓reduceIte,rA,rS,rE,rL,reduceCtorEq]
theorem dknown_eq (t : Tr) (id : Int) (hn : t.nodes.length < 1000000) : V 73 [t.vv,.p (.int .i64 id)] [] = some (.p (.bool (knownN t.nodes id)),[]):=by
 refine V_wp (vf:=vf73) rfl ?_
 have hfi:=ffind_eq t id hn
 unfold knownN
 generalize (findN t.nodes id).getD zeroNd = nd at hfi
 generalize (findN t.nodes id).isSome = b at hfi
 simp -implicitDefEqProofs (disch:=omega) only [vf73,vb73,hfi,Nd.vv,go_sem,↓reduceIte,rA,rS,rE,rL,reduceCtorEq]
abbrev cfgV (m : Mdl) (speed margin : Int) : VVal:=.agg [.p (.int .i64 m.rb),.p (.int .i64 m.rp),.p (.int .i64 m.wb),.p (.int .i64 m.wp),.p (.int .i64 m.seek),.p (.int .i64 speed),.p (.int .i64 margin)]
theorem dconfig_eq (m : Mdl) (speed margin : Int) : V 63 [cfgV m speed margin] [] = some (.p (.bool (configOk m speed margin)),[]):=by
 refine V_wp (vf:=vf63) rfl ?_
 have i0:=cvalidM_eq m
 have i1:=din_eq speed 1 1000000
 have i2:=din_eq margin 0 1073741824
 unfold configOk
 cases h0 : modelOk m with
 | false =>
  rw [h0] at i0
  simp -implicitDefEqProofs (disch:=omega) only [vf63,vb63,i0,bfa,go_sem,↓reduceIte,rA,rS,rE,rL,reduceCtorEq]
 | true =>
  rw [h0] at i0
  cases h1 : inZ speed 1 1000000 with
  | false =>
   rw [h1] at i1
   simp -implicitDefEqProofs (disch:=omega) only [vf63,vb63,i0,i1,bfa,bta,go_sem,↓reduceIte,rA,rS,rE,rL,reduceCtorEq]
  | true =>
   rw [h1] at i1
   simp -implicitDefEqProofs (disch:=omega) only [vf63,vb63,i0,i1,i2,bta,go_sem,↓reduceIte,rA,rS,rE,rL,reduceCtorEq]
theorem dsound_eq (b : Bk) (now : Int) : V 113 [b.vv,.p (.int .i64 now)] [] = some (.p (.bool (soundB now b)),[]):=by
 refine V_wp (vf:=vf113) rfl ?_
 have i0:=bvalid_eq b
 unfold soundB
 cases h0 : bkOk b with
 | false =>
  rw [h0] at i0
  simp -implicitDefEqProofs (disch:=omega) only [vf113,vb113,i0,bfa,go_sem,↓reduceIte,rA,rS,rE,rL,reduceCtorEq]
 | true =>
  rw [h0] at i0
  cases h1 : decide (b.per = 100) with
  | false=>simp -implicitDefEqProofs (disch:=omega) only [vf113,vb113,i0,h1,bfa,bta,go_sem,↓reduceIte,rA,rS,rE,rL,reduceCtorEq]
  | true=>simp -implicitDefEqProofs (disch:=omega) only [vf113,vb113,i0,h1,bta,go_sem,↓reduceIte,rA,rS,rE,rL,reduceCtorEq]
theorem drequest_eq (t : Tr) (r : Rq) (hn : t.nodes.length < 1000000) : V 114 [t.vv,r.vv] [] = some (.p (.bool (soundR r && knownN t.nodes r.group)),[]):=by
 refine V_wp (vf:=vf114) rfl ?_
 have i0:=csound_eq r
 have i1:=dknown_eq t r.group hn
 cases h0 : soundR r with
 | false =>
  rw [h0] at i0
  simp -implicitDefEqProofs (disch:=omega) only [vf114,vb114,i0,bfa,go_sem,↓reduceIte,rA,rS,rE,rL,reduceCtorEq]
 | true =>
  rw [h0] at i0
  simp -implicitDefEqProofs (disch:=omega) only [vf114,vb114,i0,i1,bta,go_sem,↓reduceIte,rA,rS,rE,rL,reduceCtorEq]
abbrev cpsP (l : List Cp) : PV:=.slice 21 (l.map Cp.pv)
abbrev rqsP (l : List Rq) : PV:=.slice 6 (l.map Rq.pv)
abbrev flsP (l : List Fl) : PV:=.slice 7 (l.map Fl.pv)
abbrev Dv.vv (d : Dv) : VVal:=.agg [.p (.int .i64 d.m.rb),.p (.int .i64 d.m.rp),.p (.int .i64 d.m.wb),.p (.int .i64 d.m.wp),.p (.int .i64 d.m.seek),.p (.int .i64 d.speed),.p (.int .i64 d.margin),.p (.int .i64 d.now),.p (.int .i64 d.free),.p (.int .i64 d.head),.p (chsP d.weights),.p (cpsP d.buckets),.p (dpsP d.depths),.p (chsP d.v),.p (rqsP d.queue),.p (flsP d.flights)]
structure Dv.Small (d : Dv) : Prop where
 w : d.weights.length < 1000000
 b : d.buckets.length < 1000000
 p : d.depths.length < 1000000
 v : d.v.length < 1000000
 q : d.queue.length < 1000000
 f : d.flights.length < 1000000
def prevC (l : List Cp) : Nat -> Option Int
 | 0=>none
 | k + 1=>l[k]?.map Cp.group
theorem ascB_step {kn : Int -> Bool} {ok : Cp -> Bool} {l : List Cp} {k : Nat} {c : Cp} (hm : l[k]? = some c) : ascB kn ok (prevC l k) (l.drop k) = (kn c.group && prevOk (prevC l k) c.group && ok c && ascB kn ok (prevC l (k + 1)) (l.drop (k + 1))):=by
 have hk:=(lgs.1 hm).1
 rw [ldg hk]
 have e : l[k] = c:=by rw [lgg hk] at hm; exact Option.some.inj hm
 rw [e,ascB]
 simp [prevC,hm]
def prevF (l : List Fl) : Nat -> Option Int
 | 0=>none
 | k + 1=>l[k]?.map Fl.done
theorem flOk_step {kn : Int -> Bool} {l : List Fl} {k : Nat} {c : Fl} (hm : l[k]? = some c) : flOk kn (prevF l k) (l.drop k) = ((soundR c.r && kn c.r.group) && inZ c.done 0 1125899906842624 && prevLe (prevF l k) c.done && flOk kn (prevF l (k + 1)) (l.drop (k + 1))):=by
 have hk:=(lgs.1 hm).1
 rw [ldg hk]
 have e : l[k] = c:=by rw [lgg hk] at hm; exact Option.some.inj hm
 rw [e,flOk]
 simp [prevF,hm]
def idxP {α : Type} (p : α -> Bool) (l : List α) : Int:=match l.findIdx? p with
 | some i=>i
 | none=>-1
theorem idxP_at {α : Type} {p : α -> Bool} {l : List α} {k : Nat} {m : α} (hm : l[k]? = some m) (h : ∀ (i : Nat) (n : α),i < k -> l[i]? = some n -> p n = false) (he : p m = true) : idxP p l = k:=by
 unfold idxP
 have : l.findIdx? p = some k:=by
  rw [List.findIdx?_eq_some_iff_getElem]
  refine ⟨(lgs.1 hm).1,by rw [(lgs.1 hm).2]; exact he,fun j hj=>?_⟩
  have hl : j < l.length:=Nat.lt_trans hj (lgs.1 hm).1
  simpa using h j l[j] hj (lgg hl)
 rw [this]
theorem idxP_none {α : Type} {p : α -> Bool} {l : List α} (h : ∀ n ∈ l,p n = false) : idxP p l = -1:=by
 unfold idxP
 have : l.findIdx? p = none:=by
  rw [List.findIdx?_eq_none_iff]
  intro x hx
  simpa using h x hx
 rw [this]
theorem idxP_cases {α : Type} (p : α -> Bool) (l : List α) : (idxP p l = -1 /\ ∀ n ∈ l,p n = false) \/ ∃ (k : Nat) (m : α),idxP p l = k /\ l[k]? = some m /\ p m = true /\ ∀ (i : Nat) (n : α),i < k -> l[i]? = some n -> p n = false:=by
 unfold idxP
 cases h : l.findIdx? p with
 | none =>
  left
  rw [List.findIdx?_eq_none_iff] at h
  exact ⟨rfl,fun n hn=>by simpa using h n hn⟩
 | some k =>
  right
  rw [List.findIdx?_eq_some_iff_getElem] at h
  obtain ⟨h1,h2,h3⟩:=h
  refine ⟨k,l[k],rfl,lgg h1,h2,fun i n hi hn=>?_⟩
  have:=h3 i hi
  rw [<- (lgs.1 hn).2]
  simpa using this
theorem succ_P {α : Type} {p : α -> Bool} {l : List α} {k : Nat} {m : α} (hm : l[k]? = some m) (h : ∀ (i : Nat) (n : α),i < k -> l[i]? = some n -> p n = false) (he : p m = false) : ∀ (i : Nat) (n : α),i < k + 1 -> l[i]? = some n -> p n = false:=fun i n hi hn=>by
 by_cases hk : i = k
 ·subst hk
  rw [hm] at hn
  cases hn
  exact he
 .exact h i n (by omega) hn
theorem caps1_eq (c : Cp) (id : Int) : V 204 [.agg (c.pv.cells.map .p),.ptr (.arg 0 0) 0 0] [.box [.p (.int .i64 id)]] = some (.p (.bool (decide (c.group = id))),[.box [.p (.int .i64 id)]]):=by
 refine V_wp (vf:=vf204) rfl ?_
 simp -implicitDefEqProofs (disch:=omega) only [vf204,vb204,Cp.pv,PV.cells,go_sem,↓reduceIte,rA,rS,rE,rL,reduceCtorEq]
theorem begin1_eq (r : Rq) (id : Int) : V 122 [r.vv,.ptr (.arg 0 0) 0 0] [.box [.p (.int .i64 id)]] = some (.p (.bool (decide (r.group = id))),[.box [.p (.int .i64 id)]]):=by
 refine V_wp (vf:=vf122) rfl ?_
 simp -implicitDefEqProofs (disch:=omega) only [vf122,vb122,go_sem,↓reduceIte,rA,rS,rE,rL,reduceCtorEq]
theorem check1_eq (r : Rq) : V 225 [r.vv] [] = some (.p (.bool (!soundR r)),[]):=by
 refine V_wp (vf:=vf225) rfl ?_
 have i0:=csound_eq r
 simp -implicitDefEqProofs (disch:=omega) only [vf225,vb225,i0,go_sem,↓reduceIte,rA,rS,rE,rL,reduceCtorEq]
theorem idxC_eq (ns : List Cp) (id : Int) (hl : ns.length < 1000000) : V 146 [.p (cpsP ns),.fn 204 [.ptr (.arg 0 0) 0 0]] [.box [.p (.int .i64 id)]] = some (.p (.int .i64 (idxP (fun c=>decide (c.group = id)) ns)),[.box [.p (.int .i64 id)]]):=by
 refine V_wp (vf:=vf146) rfl ?_
 simp -implicitDefEqProofs (disch:=omega) only [vf146,vb146,go_sem,↓reduceIte,rA,rS,rE,rL,reduceCtorEq]
 refine wp_count ns.length (fun k s=>(∀ (i : Nat) (n : Cp),i < k -> ns[i]? = some n -> decide (n.group = id) = false) /\ s.pe 0 = .p (cpsP ns) /\ s.pe 1 = .fn 204 [.ptr (.arg 0 0) 0 0] /\ s.pe 7 = .p (.int .i64 ns.length) /\ s.pe 8 = .p (.int .i64 k) /\ s.h (.arg 0 0) = some (0,.box [.p (.int .i64 id)])) ?_ ?_
 ·exact ⟨by omega,rfl,rfl,rfl,rfl,rfl⟩
 ·rintro k s hk ⟨hall,h0,h1,h7,h8,hh⟩
  simp -implicitDefEqProofs (disch:=omega) only [h0,h1,h7,h8,hh,go_sem,↓reduceIte,rA,rS,rE,rL,reduceCtorEq]
  refine wp_if_d (fun hlt=>?_) (fun hge=>?_)
  ·have hm : ns[k]? = some ns[k]:=lgg hlt
   generalize ns[k] = m at hm
   have hc:=caps1_eq m id
   simp only [Cp.pv,PV.cells,lpc,lpn] at hc
   cases hb : decide (m.group = id) with
   | true =>
    rw [hb] at hc
    simp -implicitDefEqProofs (disch:=omega) only [h0,h1,h7,h8,hh,hm,hc,Cp.pv,go_sem,↓reduceIte,rA,rS,rE,rL,reduceCtorEq]
    rw [idxP_at hm hall hb]
   | false =>
    rw [hb] at hc
    simp -implicitDefEqProofs (disch:=omega) only [h0,h1,h7,h8,hh,hm,hc,Cp.pv,go_sem,↓reduceIte,rA,rS,rE,rL,reduceCtorEq]
    exact ⟨hlt,succ_P hm hall hb,by simp only [Int.natCast_add,Int.natCast_one]⟩
  ·simp -implicitDefEqProofs (disch:=omega) only [h0,h1,h7,h8,hh,hge,go_sem,↓reduceIte,rA,rS,rE,rL,reduceCtorEq]
   rw [idxP_none]
   intro n hn
   obtain ⟨i,hi⟩:=lgm hn
   exact hall i n (by have:=(lgs.1 hi).1; omega) hi
theorem idxQ_eq (ns : List Rq) (id : Int) (hl : ns.length < 1000000) : V 121 [.p (rqsP ns),.fn 122 [.ptr (.arg 0 0) 0 0]] [.box [.p (.int .i64 id)]] = some (.p (.int .i64 (idxP (fun c=>decide (c.group = id)) ns)),[.box [.p (.int .i64 id)]]):=by
 refine V_wp (vf:=vf121) rfl ?_
 simp -implicitDefEqProofs (disch:=omega) only [vf121,vb121,go_sem,↓reduceIte,rA,rS,rE,rL,reduceCtorEq]
 refine wp_count ns.length (fun k s=>(∀ (i : Nat) (n : Rq),i < k -> ns[i]? = some n -> decide (n.group = id) = false) /\ s.pe 0 = .p (rqsP ns) /\ s.pe 1 = .fn 122 [.ptr (.arg 0 0) 0 0] /\ s.pe 7 = .p (.int .i64 ns.length) /\ s.pe 8 = .p (.int .i64 k) /\ s.h (.arg 0 0) = some (0,.box [.p (.int .i64 id)])) ?_ ?_
 ·exact ⟨by omega,rfl,rfl,rfl,rfl,rfl⟩
 ·rintro k s hk ⟨hall,h0,h1,h7,h8,hh⟩
  simp -implicitDefEqProofs (disch:=omega) only [h0,h1,h7,h8,hh,go_sem,↓reduceIte,rA,rS,rE,rL,reduceCtorEq]
  refine wp_if_d (fun hlt=>?_) (fun hge=>?_)
  ·have hm : ns[k]? = some ns[k]:=lgg hlt
   generalize ns[k] = m at hm
   have hc:=begin1_eq m id
   cases hb : decide (m.group = id) with
   | true =>
    rw [hb] at hc
    simp -implicitDefEqProofs (disch:=omega) only [h0,h1,h7,h8,hh,hm,hc,go_sem,↓reduceIte,rA,rS,rE,rL,reduceCtorEq]
    rw [idxP_at hm hall hb]
   | false =>
    rw [hb] at hc
    simp -implicitDefEqProofs (disch:=omega) only [h0,h1,h7,h8,hh,hm,hc,go_sem,↓reduceIte,rA,rS,rE,rL,reduceCtorEq]
    exact ⟨hlt,succ_P hm hall hb,by simp only [Int.natCast_add,Int.natCast_one]⟩
  ·simp -implicitDefEqProofs (disch:=omega) only [h0,h1,h7,h8,hh,hge,go_sem,↓reduceIte,rA,rS,rE,rL,reduceCtorEq]
   rw [idxP_none]
   intro n hn
   obtain ⟨i,hi⟩:=lgm hn
   exact hall i n (by have:=(lgs.1 hi).1; omega) hi
theorem idxS_eq (ns : List Rq) (hl : ns.length < 1000000) : V 121 [.p (rqsP ns),.p (.fn 225)] [] = some (.p (.int .i64 (idxP (fun c=>!soundR c) ns)),[]):=by
 refine V_wp (vf:=vf121) rfl ?_
 simp -implicitDefEqProofs (disch:=omega) only [vf121,vb121,go_sem,↓reduceIte,rA,rS,rE,rL,reduceCtorEq]
 refine wp_count ns.length (fun k s=>(∀ (i : Nat) (n : Rq),i < k -> ns[i]? = some n -> (!soundR n) = false) /\ s.pe 0 = .p (rqsP ns) /\ s.pe 1 = .p (.fn 225) /\ s.pe 7 = .p (.int .i64 ns.length) /\ s.pe 8 = .p (.int .i64 k)) ?_ ?_
 ·exact ⟨by omega,rfl,rfl,rfl,rfl⟩
 ·rintro k s hk ⟨hall,h0,h1,h7,h8⟩
  simp -implicitDefEqProofs (disch:=omega) only [h0,h1,h7,h8,go_sem,↓reduceIte,rA,rS,rE,rL,reduceCtorEq]
  refine wp_if_d (fun hlt=>?_) (fun hge=>?_)
  ·have hm : ns[k]? = some ns[k]:=lgg hlt
   generalize ns[k] = m at hm
   have hc:=check1_eq m
   cases hb : !soundR m with
   | true =>
    rw [hb] at hc
    simp -implicitDefEqProofs (disch:=omega) only [h0,h1,h7,h8,hm,hc,go_sem,↓reduceIte,rA,rS,rE,rL,reduceCtorEq]
    rw [idxP_at hm hall hb]
   | false =>
    rw [hb] at hc
    simp -implicitDefEqProofs (disch:=omega) only [h0,h1,h7,h8,hm,hc,go_sem,↓reduceIte,rA,rS,rE,rL,reduceCtorEq]
    exact ⟨hlt,succ_P hm hall hb,by simp only [Int.natCast_add,Int.natCast_one]⟩
  ·simp -implicitDefEqProofs (disch:=omega) only [h0,h1,h7,h8,hge,go_sem,↓reduceIte,rA,rS,rE,rL,reduceCtorEq]
   rw [idxP_none]
   intro n hn
   obtain ⟨i,hi⟩:=lgm hn
   exact hall i n (by have:=(lgs.1 hi).1; omega) hi
theorem ccheck_eq (m : Mdl) (r : Rq) (head : Int) (hm : modelOk m = true) (hr : soundR r = true) (hh : 0 <= head /\ head <= 16777216) : V 184 [m.vv,.p (rqsP [r]),.p (.int .i64 head)] [] = some (.p (.int .i64 0),[]):=by
 refine V_wp (vf:=vf184) rfl ?_
 have i0:=cvalidM_eq m
 rw [hm] at i0
 have hc : V 224 [.p (rqsP [r]),.p (.fn 225)] [] = some (.p (.bool false),[]):=by
  refine V_wp (vf:=vf224) rfl ?_
  have hi:=idxS_eq [r] (by simp)
  rw [idxP_none (fun n hn=>by rw [List.mem_singleton] at hn; subst hn; rw [hr]; rfl)] at hi
  have hd : decide ((0 : Int) <= -1) = false:=rfl
  simp -implicitDefEqProofs (disch:=omega) only [vf224,vb224,hi,hd,go_sem,↓reduceIte,rA,rS,rE,rL,reduceCtorEq]
 have i1:=cin_eq head 0 16777216
 rw [show inZ head 0 16777216 = true from inZ_iff.2 hh] at i1
 simp -implicitDefEqProofs (disch:=omega) only [vf184,vb184,i0,hc,i1,go_sem,↓reduceIte,rA,rS,rE,rL,reduceCtorEq]
theorem ccost_eq (m : Mdl) (r : Rq) (head : Int) (hm : modelOk m = true) (hr : soundR r = true) : V 185 [m.vv,r.vv,.p (.int .i64 head)] [] = some (.p (.int .i64 (costR m r head)),[]):=by
 refine V_wp (vf:=vf185) rfl ?_
 rw [modelOk_iff] at hm
 rw [soundR_iff] at hr
 have h1:=mul_range (a:=m.rp) (b:=r.pages) (A:=1000000) (B:=4096) hm.2.1.1 hm.2.1.2 (by omega) (by omega)
 have h2:=mul_range (a:=m.wp) (b:=r.pages) (A:=1000000) (B:=4096) hm.2.2.2.1.1 hm.2.2.2.1.2 (by omega) (by omega)
 have e1 : ([.p (.int .i64 m.rb),.p (.int .i64 m.wb)] : List VVal)[Int.toNat 0 * 1]? = some (.p (.int .i64 m.rb)):=rfl
 have e2 : ([.p (.int .i64 m.rb),.p (.int .i64 m.wb)] : List VVal)[Int.toNat 1 * 1]? = some (.p (.int .i64 m.wb)):=rfl
 have e3 : ([.p (.int .i64 m.rp),.p (.int .i64 m.wp)] : List VVal)[Int.toNat 0 * 1]? = some (.p (.int .i64 m.rp)):=rfl
 have e4 : ([.p (.int .i64 m.rp),.p (.int .i64 m.wp)] : List VVal)[Int.toNat 1 * 1]? = some (.p (.int .i64 m.wp)):=rfl
 unfold costR
 cases hw : r.write with
 | false =>
  by_cases ha : r.at_ = head
  .simp -implicitDefEqProofs (disch:=omega) only [vf185,vb185,hw,ha,e1,e2,e3,e4,Int.add_zero,go_sem,↓reduceIte,rA,rS,rE,rL,reduceCtorEq]
  .simp -implicitDefEqProofs (disch:=omega) only [vf185,vb185,hw,ha,e1,e2,e3,e4,go_sem,↓reduceIte,rA,rS,rE,rL,reduceCtorEq]
 | true =>
  by_cases ha : r.at_ = head
  .simp -implicitDefEqProofs (disch:=omega) only [vf185,vb185,hw,ha,e1,e2,e3,e4,Int.add_zero,go_sem,↓reduceIte,rA,rS,rE,rL,reduceCtorEq]
  .simp -implicitDefEqProofs (disch:=omega) only [vf185,vb185,hw,ha,e1,e2,e3,e4,go_sem,↓reduceIte,rA,rS,rE,rL,reduceCtorEq]
theorem cost_eq (m : Mdl) (r : Rq) (head : Int) (hm : modelOk m = true) (hr : soundR r = true) (hh : 0 <= head /\ head <= 16777216) : V 123 [m.vv,r.vv,.p (.int .i64 head)] [] = some (.tup [.p (.int .i64 (costR m r head)),.p (.int .i64 0)],[]):=by
 refine V_wp (vf:=vf123) rfl ?_
 have i0:=ccheck_eq m r head hm hr hh
 have i0 : V 184 [.agg m.cs,.p (.slice 6 [r.pv]),.p (.int .i64 head)] [] = some (.p (.int .i64 0),[]):=i0
 simp only [Rq.pv] at i0
 have i1:=ccost_eq m r head hm hr
 simp -implicitDefEqProofs (disch:=omega) only [vf123,vb123,i0,i1,go_sem,↓reduceIte,rA,rS,rE,rL,reduceCtorEq]
set_option maxHeartbeats 4000000 in
theorem dvalid_eq (t : Tr) (d : Dv) (hf : t.Fits) (hn : t.nodes.length < 1000000) (hs : d.Small) : V 51 [t.vv,d.vv] [] = some (.p (.bool (validDv t d)),[]):=by
 refine V_wp (vf := vf51) rfl ?_
 obtain ⟨hs1, hs2, hs3, hs4, hs5, hs6⟩:=hs
 have j0 := tcheck_eq t hf hn
 have j1 := dconfig_eq d.m d.speed d.margin
 have j2 := din_eq d.now 0 1048576
 have j3 := din_eq d.free 0 1125899906842624
 have j4 := din_eq d.head 0 16777216
 have j5 := ivalid_eq t d.weights hf hn hs1
 have j6 := lvalid_eq t d.depths hf hn hs3
 have j7 := icheck_eq t d.v hf hn hs4
 obtain ⟨X, hX⟩ : ∃ X, validDv t d = X:=⟨_, rfl⟩
 rw [hX]
 unfold validDv at hX
 cases c0 : treeOk t with
 | false =>
  rw [c0] at j0
  have hF : X = false:=by
   rw [← hX]
   simp [c0, ]
  simp -implicitDefEqProofs (disch:=omega) only [vf51,vb51,llm,j0,hF,go_sem,↓reduceIte,rA,rS,rE,rL,reduceCtorEq]
 | true =>
  rw [c0] at j0
  rw [c0, Bool.true_and] at j6
  cases c1 : configOk d.m d.speed d.margin with
  | false =>
   rw [c1] at j1
   have hF : X = false:=by
    rw [← hX]
    simp [c0, c1, ]
   simp -implicitDefEqProofs (disch:=omega) only [vf51,vb51,llm,j0,j1,hF,go_sem,↓reduceIte,rA,rS,rE,rL,reduceCtorEq]
  | true =>
   rw [c1] at j1
   cases c2 : inZ d.now 0 1048576 with
   | false =>
    rw [c2] at j2
    have hF : X = false:=by
     rw [← hX]
     simp [c0, c1, c2, ]
    simp -implicitDefEqProofs (disch:=omega) only [vf51,vb51,llm,j0,j1,j2,hF,go_sem,↓reduceIte,rA,rS,rE,rL,reduceCtorEq]
   | true =>
    rw [c2] at j2
    cases c3 : inZ d.free 0 1125899906842624 with
    | false =>
     rw [c3] at j3
     have hF : X = false:=by
      rw [← hX]
      simp [c0, c1, c2, c3, ]
     simp -implicitDefEqProofs (disch:=omega) only [vf51,vb51,llm,j0,j1,j2,j3,hF,go_sem,↓reduceIte,rA,rS,rE,rL,reduceCtorEq]
    | true =>
     rw [c3] at j3
     cases c4 : inZ d.head 0 16777216 with
     | false =>
      rw [c4] at j4
      have hF : X = false:=by
       rw [← hX]
       simp [c0, c1, c2, c3, c4, ]
      simp -implicitDefEqProofs (disch:=omega) only [vf51,vb51,llm,j0,j1,j2,j3,j4,hF,go_sem,↓reduceIte,rA,rS,rE,rL,reduceCtorEq]
     | true =>
      rw [c4] at j4
      cases c5 : validW t d.weights with
      | false =>
       rw [c5] at j5
       have hF : X = false:=by
        rw [← hX]
        simp [c0, c1, c2, c3, c4, c5, ]
       simp -implicitDefEqProofs (disch:=omega) only [vf51,vb51,llm,j0,j1,j2,j3,j4,j5,hF,go_sem,↓reduceIte,rA,rS,rE,rL,reduceCtorEq]
      | true =>
       rw [c5] at j5
       cases c6 : ascD (knownN t.nodes) none d.depths with
       | false =>
        rw [c6] at j6
        have hF : X = false:=by
         rw [← hX]
         simp [c0, c1, c2, c3, c4, c5, c6, ]
        simp -implicitDefEqProofs (disch:=omega) only [vf51,vb51,llm,j0,j1,j2,j3,j4,j5,j6,hF,go_sem,↓reduceIte,rA,rS,rE,rL,reduceCtorEq]
       | true =>
        rw [c6] at j6
        cases c7 : checkA t d.v with
        | false =>
         rw [c7] at j7
         have hF : X = false:=by
          rw [← hX]
          simp [c0, c1, c2, c3, c4, c5, c6, c7, ]
         simp -implicitDefEqProofs (disch:=omega) only [vf51,vb51,llm,j0,j1,j2,j3,j4,j5,j6,j7,hF,go_sem,↓reduceIte,rA,rS,rE,rL,reduceCtorEq]
        | true =>
         rw [c7] at j7
         by_cases c8 : d.queue.length + d.flights.length <= 256
         ·have c8a : ¬ (256 : Int) < (d.queue.length : Int) + (d.flights.length : Int):=by omega
          have hY : X = (ascB (knownN t.nodes) (capsB d.now) none d.buckets && d.queue.all (fun r=>soundR r && knownN t.nodes r.group) && flOk (knownN t.nodes) none d.flights):=by
           rw [← hX]
           simp [c0,c1,c2,c3,c4,c5,c6,c7,c8,Bool.and_assoc]
          simp -implicitDefEqProofs (disch:=omega) only [vf51,vb51,j0,j1,j2,j3,j4,j5,j6,j7,c8a,go_sem,↓reduceIte,rA,rS,rE,rL,reduceCtorEq]
          obtain ⟨I,hI⟩ : ∃ I : Nat -> St -> Prop,∀ k s,I k s ↔ ascB (knownN t.nodes) (capsB d.now) none d.buckets = ascB (knownN t.nodes) (capsB d.now) (prevC d.buckets k) (d.buckets.drop k) /\ s.pe 2 = .ptr (.slot 2 0) 0 0 /\ s.pe 3 = .ptr (.slot 3 0) 0 0 /\ s.pe 68 = .p (cpsP d.buckets) /\ s.pe 69 = .p (.int .i64 d.buckets.length) /\ s.pe 70 = .p (.int .i64 k) /\ s.h (.slot 2 0) = some (0,.box [.p (nodesP t.nodes),.p (.int .i64 t.next)]) /\ s.h (.slot 3 0) = some (0,.box [.p (.int .i64 d.m.rb),.p (.int .i64 d.m.rp),.p (.int .i64 d.m.wb),.p (.int .i64 d.m.wp),.p (.int .i64 d.m.seek),.p (.int .i64 d.speed),.p (.int .i64 d.margin),.p (.int .i64 d.now),.p (.int .i64 d.free),.p (.int .i64 d.head),.p (chsP d.weights),.p (cpsP d.buckets),.p (dpsP d.depths),.p (chsP d.v),.p (rqsP d.queue),.p (flsP d.flights)]):=⟨_,fun _ _=>Iff.rfl⟩
          refine wp_count (d.buckets.length) I ?_ ?_
          ·refine (hI _ _).2 ⟨?_,?_,?_,?_,?_,?_,?_,?_⟩
           ·exact cl3
           all_goals exact cl0
          intro k s hk hIk
          obtain ⟨hq,h2,h3,h68,h69,h70,hh2_0,hh3_0⟩:=(hI _ _).1 hIk
          clear hIk
          simp -implicitDefEqProofs (disch:=omega) only [h2,h3,h68,h69,h70,hh2_0,hh3_0,go_sem,↓reduceIte,rA,rS,rE,rL,reduceCtorEq]
          refine wp_if_d (fun hlt=>?_) (fun hge=>?_)
          ·have hm : d.buckets[k]? = some d.buckets[k]:=lgg hlt
           generalize d.buckets[k] = c at hm
           rw [ascB_step hm] at hq
           have k0 := dknown_eq t c.group hn
           have k1 := dsound_eq c.rp d.now
           have k2 := dsound_eq c.wp d.now
           have k3 := dsound_eq c.ro d.now
           have k4 := dsound_eq c.wo d.now
           have ord : (∃ e,0 < k /\ d.buckets[k - 1]? = some e /\ (prevOk (prevC d.buckets k) c.group = decide (e.group < c.group))) \/ (k = 0 /\ prevOk (prevC d.buckets k) c.group = true):=by
            cases k with
            | zero => exact .inr ⟨rfl,rfl⟩
            | succ k' =>
             have hk' : k' < d.buckets.length:=by omega
             refine .inl ⟨d.buckets[k'],by omega,by simp,?_⟩
             simp [prevC,lgg hk',prevOk]
           rcases ord with ⟨e,hk0,he,hpo⟩ | ⟨hk0,hpo⟩
           ·have hk0' : (0 : Int) < k:=by omega
            have hk1 : (0 : Int) <= (k : Int) - 1:=by omega
            have hk2 : ((k : Int) - 1).toNat = k - 1:=by omega
            cases b0 : knownN t.nodes c.group with
            | false =>
             rw [b0] at k0
             have hF : X = false:=by rw [hY,hq]; simp [b0]
             simp -implicitDefEqProofs (disch:=omega) only [h2,h3,h68,h69,h70,hh2_0,hh3_0,hlt,hm,Cp.pv,hk0',hk1,hk2,he,k0,hF,go_sem,↓reduceIte,rA,rS,rE,rL,reduceCtorEq]
            | true =>
             rw [b0] at k0
             by_cases hR' : e.group < c.group
             ·have hR : ¬ c.group <= e.group:=by omega
              cases c0 : soundB d.now c.rp with
              | false =>
               rw [c0] at k1
               have hF : X = false:=by
                rw [hY,hq]
                simp [c0,capsB,b0]
               simp -implicitDefEqProofs (disch:=omega) only [h2,h3,h68,h69,h70,hh2_0,hh3_0,hlt,hm,Cp.pv,hk0',hk1,hk2,he,k0,hR,k1,hF,go_sem,↓reduceIte,rA,rS,rE,rL,reduceCtorEq]
              | true =>
               rw [c0] at k1
               cases c1 : soundB d.now c.wp with
               | false =>
                rw [c1] at k2
                have hF : X = false:=by
                 rw [hY,hq]
                 simp [c0,c1,capsB,b0]
                simp -implicitDefEqProofs (disch:=omega) only [h2,h3,h68,h69,h70,hh2_0,hh3_0,hlt,hm,Cp.pv,hk0',hk1,hk2,he,k0,hR,k1,k2,hF,go_sem,↓reduceIte,rA,rS,rE,rL,reduceCtorEq]
               | true =>
                rw [c1] at k2
                cases c2 : soundB d.now c.ro with
                | false =>
                 rw [c2] at k3
                 have hF : X = false:=by
                  rw [hY,hq]
                  simp [c0,c1,c2,capsB,b0]
                 simp -implicitDefEqProofs (disch:=omega) only [h2,h3,h68,h69,h70,hh2_0,hh3_0,hlt,hm,Cp.pv,hk0',hk1,hk2,he,k0,hR,k1,k2,k3,hF,go_sem,↓reduceIte,rA,rS,rE,rL,reduceCtorEq]
                | true =>
                 rw [c2] at k3
                 cases c3 : soundB d.now c.wo with
                 | false =>
                  rw [c3] at k4
                  have hF : X = false:=by
                   rw [hY,hq]
                   simp [c0,c1,c2,c3,capsB,b0]
                  simp -implicitDefEqProofs (disch:=omega) only [h2,h3,h68,h69,h70,hh2_0,hh3_0,hlt,hm,Cp.pv,hk0',hk1,hk2,he,k0,hR,k1,k2,k3,k4,hF,go_sem,↓reduceIte,rA,rS,rE,rL,reduceCtorEq]
                 | true =>
                  rw [c3] at k4
                  simp -implicitDefEqProofs (disch:=omega) only [h2,h3,h68,h69,h70,hh2_0,hh3_0,hlt,hm,Cp.pv,hk0',hk1,hk2,he,k0,hR,k1,k2,k3,k4,go_sem,↓reduceIte,rA,rS,rE,rL,reduceCtorEq]
                  try refine And.intro (by omega) ?_
                  refine (hI _ _).2 ⟨?_,?_,?_,?_,?_,?_,?_,?_⟩
                  .exact by rw [hq]; simp [capsB,b0,c0,c1,c2,c3,hpo,hR']
                  all_goals exact cl0
             ·have hR : c.group <= e.group:=by omega
              have hF : X = false:=by rw [hY,hq,hpo]; simp [b0,hR']
              simp -implicitDefEqProofs (disch:=omega) only [h2,h3,h68,h69,h70,hh2_0,hh3_0,hlt,hm,Cp.pv,hk0',hk1,hk2,he,k0,hR,hF,go_sem,↓reduceIte,rA,rS,rE,rL,reduceCtorEq]
           ·have hk0' : ¬ (0 : Int) < k:=by omega
            cases b0 : knownN t.nodes c.group with
            | false =>
             rw [b0] at k0
             have hF : X = false:=by rw [hY,hq]; simp [b0]
             simp -implicitDefEqProofs (disch:=omega) only [h2,h3,h68,h69,h70,hh2_0,hh3_0,hlt,hm,Cp.pv,hk0',k0,hF,go_sem,↓reduceIte,rA,rS,rE,rL,reduceCtorEq]
            | true =>
             rw [b0] at k0
             cases c0 : soundB d.now c.rp with
             | false =>
              rw [c0] at k1
              have hF : X = false:=by
               rw [hY,hq]
               simp [c0,capsB,b0]
              simp -implicitDefEqProofs (disch:=omega) only [h2,h3,h68,h69,h70,hh2_0,hh3_0,hlt,hm,Cp.pv,hk0',k0,k1,hF,go_sem,↓reduceIte,rA,rS,rE,rL,reduceCtorEq]
             | true =>
              rw [c0] at k1
              cases c1 : soundB d.now c.wp with
              | false =>
               rw [c1] at k2
               have hF : X = false:=by
                rw [hY,hq]
                simp [c0,c1,capsB,b0]
               simp -implicitDefEqProofs (disch:=omega) only [h2,h3,h68,h69,h70,hh2_0,hh3_0,hlt,hm,Cp.pv,hk0',k0,k1,k2,hF,go_sem,↓reduceIte,rA,rS,rE,rL,reduceCtorEq]
              | true =>
               rw [c1] at k2
               cases c2 : soundB d.now c.ro with
               | false =>
                rw [c2] at k3
                have hF : X = false:=by
                 rw [hY,hq]
                 simp [c0,c1,c2,capsB,b0]
                simp -implicitDefEqProofs (disch:=omega) only [h2,h3,h68,h69,h70,hh2_0,hh3_0,hlt,hm,Cp.pv,hk0',k0,k1,k2,k3,hF,go_sem,↓reduceIte,rA,rS,rE,rL,reduceCtorEq]
               | true =>
                rw [c2] at k3
                cases c3 : soundB d.now c.wo with
                | false =>
                 rw [c3] at k4
                 have hF : X = false:=by
                  rw [hY,hq]
                  simp [c0,c1,c2,c3,capsB,b0]
                 simp -implicitDefEqProofs (disch:=omega) only [h2,h3,h68,h69,h70,hh2_0,hh3_0,hlt,hm,Cp.pv,hk0',k0,k1,k2,k3,k4,hF,go_sem,↓reduceIte,rA,rS,rE,rL,reduceCtorEq]
                | true =>
                 rw [c3] at k4
                 simp -implicitDefEqProofs (disch:=omega) only [h2,h3,h68,h69,h70,hh2_0,hh3_0,hlt,hm,Cp.pv,hk0',k0,k1,k2,k3,k4,go_sem,↓reduceIte,rA,rS,rE,rL,reduceCtorEq]
                 try refine And.intro (by omega) ?_
                 refine (hI _ _).2 ⟨?_,?_,?_,?_,?_,?_,?_,?_⟩
                 .exact by rw [hq]; simp [capsB,b0,c0,c1,c2,c3,hpo]
                 all_goals exact cl0
          ·have hT : ascB (knownN t.nodes) (capsB d.now) none d.buckets = true:=by
            rw [hq,List.drop_eq_nil_of_le (by omega)]; rfl
           rw [hT,bta] at hY
           simp -implicitDefEqProofs (disch:=omega) only [h2,h3,h68,h69,h70,hh2_0,hh3_0,hge,go_sem,↓reduceIte,rA,rS,rE,rL,reduceCtorEq]
           obtain ⟨A,hA⟩ : ∃ I : Nat -> St -> Prop,∀ k s,I k s ↔ d.queue.all (fun r=>soundR r && knownN t.nodes r.group) = (d.queue.drop k).all (fun r=>soundR r && knownN t.nodes r.group) /\ s.pe 2 = .ptr (.slot 2 0) 0 0 /\ s.pe 3 = .ptr (.slot 3 0) 0 0 /\ s.pe 130 = .p (rqsP d.queue) /\ s.pe 131 = .p (.int .i64 d.queue.length) /\ s.pe 132 = .p (.int .i64 k) /\ s.h (.slot 2 0) = some (0,.box [.p (nodesP t.nodes),.p (.int .i64 t.next)]) /\ s.h (.slot 3 0) = some (0,.box [.p (.int .i64 d.m.rb),.p (.int .i64 d.m.rp),.p (.int .i64 d.m.wb),.p (.int .i64 d.m.wp),.p (.int .i64 d.m.seek),.p (.int .i64 d.speed),.p (.int .i64 d.margin),.p (.int .i64 d.now),.p (.int .i64 d.free),.p (.int .i64 d.head),.p (chsP d.weights),.p (cpsP d.buckets),.p (dpsP d.depths),.p (chsP d.v),.p (rqsP d.queue),.p (flsP d.flights)]):=⟨_,fun _ _=>Iff.rfl⟩
           refine wp_count (d.queue.length) A ?_ ?_
           ·refine (hA _ _).2 ⟨?_,?_,?_,?_,?_,?_,?_,?_⟩
            ·exact cl3
            all_goals exact cl0
           intro k s hk hAk
           obtain ⟨hq,h2,h3,h130,h131,h132,hh2_0,hh3_0⟩:=(hA _ _).1 hAk
           clear hAk
           simp -implicitDefEqProofs (disch:=omega) only [h2,h3,h130,h131,h132,hh2_0,hh3_0,go_sem,↓reduceIte,rA,rS,rE,rL,reduceCtorEq]
           refine wp_if_d (fun hlt=>?_) (fun hge=>?_)
           ·have hm : d.queue[k]? = some d.queue[k]:=lgg hlt
            have hlt2 : k < d.queue.length:=by omega
            have hd : (d.queue.drop k).all (fun r=>soundR r && knownN t.nodes r.group) = ((soundR d.queue[k] && knownN t.nodes d.queue[k].group) && (d.queue.drop (k + 1)).all (fun r=>soundR r && knownN t.nodes r.group)):=by
             rw [ldg (by omega),List.all_cons]
            generalize d.queue[k] = c at hm hd
            rw [hd] at hq
            have k0:=drequest_eq t c hn
            cases b0 : soundR c && knownN t.nodes c.group with
            | false =>
             rw [b0] at k0 hq
             have hF : X = false:=by rw [hY,hq,bfa,bfa]
             simp -implicitDefEqProofs (disch:=omega) only [h2,h3,h130,h131,h132,hh2_0,hh3_0,hlt,hm,k0,hF,go_sem,↓reduceIte,rA,rS,rE,rL,reduceCtorEq]
            | true =>
             rw [b0] at k0 hq
             simp -implicitDefEqProofs (disch:=omega) only [h2,h3,h130,h131,h132,hh2_0,hh3_0,hlt,hm,k0,go_sem,↓reduceIte,rA,rS,rE,rL,reduceCtorEq]
             try refine And.intro (by omega) ?_
             refine (hA _ _).2 ⟨?_,?_,?_,?_,?_,?_,?_,?_⟩
             ·exact hq.trans (bta _)
             all_goals exact cl0
           ·have hT : d.queue.all (fun r=>soundR r && knownN t.nodes r.group) = true:=by
             rw [hq,List.drop_eq_nil_of_le (by omega)]; rfl
            rw [hT,bta] at hY
            simp -implicitDefEqProofs (disch:=omega) only [h2,h3,h130,h131,h132,hh2_0,hh3_0,hge,go_sem,↓reduceIte,rA,rS,rE,rL,reduceCtorEq]
            obtain ⟨B,hB⟩ : ∃ I : Nat -> St -> Prop,∀ k s,I k s ↔ flOk (knownN t.nodes) none d.flights = flOk (knownN t.nodes) (prevF d.flights k) (d.flights.drop k) /\ s.pe 2 = .ptr (.slot 2 0) 0 0 /\ s.pe 3 = .ptr (.slot 3 0) 0 0 /\ s.pe 142 = .p (flsP d.flights) /\ s.pe 143 = .p (.int .i64 d.flights.length) /\ s.pe 144 = .p (.int .i64 k) /\ s.h (.slot 2 0) = some (0,.box [.p (nodesP t.nodes),.p (.int .i64 t.next)]) /\ s.h (.slot 3 0) = some (0,.box [.p (.int .i64 d.m.rb),.p (.int .i64 d.m.rp),.p (.int .i64 d.m.wb),.p (.int .i64 d.m.wp),.p (.int .i64 d.m.seek),.p (.int .i64 d.speed),.p (.int .i64 d.margin),.p (.int .i64 d.now),.p (.int .i64 d.free),.p (.int .i64 d.head),.p (chsP d.weights),.p (cpsP d.buckets),.p (dpsP d.depths),.p (chsP d.v),.p (rqsP d.queue),.p (flsP d.flights)]):=⟨_,fun _ _=>Iff.rfl⟩
            refine wp_count (d.flights.length) B ?_ ?_
            ·refine (hB _ _).2 ⟨?_,?_,?_,?_,?_,?_,?_,?_⟩
             ·exact cl3
             all_goals exact cl0
            intro k s hk hBk
            obtain ⟨hq,h2,h3,h142,h143,h144,hh2_0,hh3_0⟩:=(hB _ _).1 hBk
            clear hBk
            simp -implicitDefEqProofs (disch:=omega) only [h2,h3,h142,h143,h144,hh2_0,hh3_0,go_sem,↓reduceIte,rA,rS,rE,rL,reduceCtorEq]
            refine wp_if_d (fun hlt=>?_) (fun hge=>?_)
            ·have hm : d.flights[k]? = some d.flights[k]:=lgg hlt
             generalize d.flights[k] = c at hm
             rw [flOk_step hm] at hq
             have k0:=drequest_eq t c.r hn
             have k1:=din_eq c.done 0 1125899906842624
             have ord : (∃ e,0 < k /\ d.flights[k - 1]? = some e /\ (prevLe (prevF d.flights k) c.done = decide (e.done <= c.done))) \/ (k = 0 /\ prevLe (prevF d.flights k) c.done = true):=by
              cases k with
              | zero=>exact .inr ⟨rfl,rfl⟩
              | succ k' =>
               have hk' : k' < d.flights.length:=by omega
               refine .inl ⟨d.flights[k'],by omega,by simp,?_⟩
               simp [prevF,lgg hk',prevLe]
             rcases ord with ⟨e,hk0,he,hpo⟩ | ⟨hk0,hpo⟩
             ·have hk0' : (0 : Int) < k:=by omega
              have hk1 : (0 : Int) <= (k : Int) - 1:=by omega
              have hk2 : ((k : Int) - 1).toNat = k - 1:=by omega
              cases b0 : soundR c.r && knownN t.nodes c.r.group with
              | false =>
               rw [b0] at k0 hq
               have hF : X = false:=by rw [hY,hq,bfa,bfa,bfa]
               simp -implicitDefEqProofs (disch:=omega) only [h2,h3,h142,h143,h144,hh2_0,hh3_0,hlt,hm,hk0',hk1,hk2,he,k0,hF,go_sem,↓reduceIte,rA,rS,rE,rL,reduceCtorEq]
              | true =>
               rw [b0] at k0 hq
               cases b1 : inZ c.done 0 1125899906842624 with
               | false =>
                rw [b1] at k1 hq
                have hF : X = false:=by rw [hY,hq]; rfl
                simp -implicitDefEqProofs (disch:=omega) only [h2,h3,h142,h143,h144,hh2_0,hh3_0,hlt,hm,hk0',hk1,hk2,he,k0,k1,hF,go_sem,↓reduceIte,rA,rS,rE,rL,reduceCtorEq]
               | true =>
                rw [b1,hpo] at hq
                rw [b1] at k1
                by_cases hR' : e.done <= c.done
                ·have hR : ¬ c.done < e.done:=by omega
                 rw [decide_eq_true hR'] at hq
                 simp -implicitDefEqProofs (disch:=omega) only [h2,h3,h142,h143,h144,hh2_0,hh3_0,hlt,hm,hk0',hk1,hk2,he,k0,k1,hR,go_sem,↓reduceIte,rA,rS,rE,rL,reduceCtorEq]
                 try refine And.intro (by omega) ?_
                 refine (hB _ _).2 ⟨?_,?_,?_,?_,?_,?_,?_,?_⟩
                 .exact by simpa using hq
                 all_goals exact cl0
                ·have hR : c.done < e.done:=by omega
                 rw [decide_eq_false hR'] at hq
                 have hF : X = false:=by rw [hY,hq]; rfl
                 simp -implicitDefEqProofs (disch:=omega) only [h2,h3,h142,h143,h144,hh2_0,hh3_0,hlt,hm,hk0',hk1,hk2,he,k0,k1,hR,hF,go_sem,↓reduceIte,rA,rS,rE,rL,reduceCtorEq]
             ·have hk0' : ¬ (0 : Int) < k:=by omega
              cases b0 : soundR c.r && knownN t.nodes c.r.group with
              | false =>
               rw [b0] at k0 hq
               have hF : X = false:=by rw [hY,hq,bfa,bfa,bfa]
               simp -implicitDefEqProofs (disch:=omega) only [h2,h3,h142,h143,h144,hh2_0,hh3_0,hlt,hm,hk0',k0,hF,go_sem,↓reduceIte,rA,rS,rE,rL,reduceCtorEq]
              | true =>
               rw [b0] at k0 hq
               cases b1 : inZ c.done 0 1125899906842624 with
               | false =>
                rw [b1] at k1 hq
                have hF : X = false:=by rw [hY,hq]; rfl
                simp -implicitDefEqProofs (disch:=omega) only [h2,h3,h142,h143,h144,hh2_0,hh3_0,hlt,hm,hk0',k0,k1,hF,go_sem,↓reduceIte,rA,rS,rE,rL,reduceCtorEq]
               | true =>
                rw [b1,hpo] at hq
                rw [b1] at k1
                simp -implicitDefEqProofs (disch:=omega) only [h2,h3,h142,h143,h144,hh2_0,hh3_0,hlt,hm,hk0',k0,k1,go_sem,↓reduceIte,rA,rS,rE,rL,reduceCtorEq]
                try refine And.intro (by omega) ?_
                refine (hB _ _).2 ⟨?_,?_,?_,?_,?_,?_,?_,?_⟩
                .exact by simpa using hq
                all_goals exact cl0
            ·have hT : flOk (knownN t.nodes) none d.flights = true:=by
              rw [hq,List.drop_eq_nil_of_le (by omega)]; rfl
             rw [hT] at hY
             simp -implicitDefEqProofs (disch:=omega) only [h2,h3,h142,h143,h144,hh2_0,hh3_0,hge,hY,go_sem,↓reduceIte,rA,rS,rE,rL,reduceCtorEq]
         ·have c8a : (256 : Int) < (d.queue.length : Int) + (d.flights.length : Int):=by omega
          have hF : X = false:=by
           rw [<- hX]
           simp [c8]
          simp -implicitDefEqProofs (disch:=omega) only [vf51,vb51,j0,j1,j2,j3,j4,j5,j6,j7,c8a,hF,go_sem,↓reduceIte,rA,rS,rE,rL,reduceCtorEq]
theorem adv_same {b : Bk} (h : bkOk b = true) : advB b b.now = b:=by
 rw [bkOk_iff] at h
 obtain ⟨_,_,hc⟩:=h
 unfold advB
 rcases hc with ⟨e,_,_⟩ | ⟨e,hr,hb,hl⟩
 .rw [if_pos e]
 .rw [if_neg e,Int.sub_self,Int.mul_zero,Int.add_zero,show min b.level (b.burst * b.per) = b.level by omega]
theorem btake_eq (b : Bk) (n : Int) (h : bkOk b = true) (hn : 0 <= n /\ n <= tokB b) : V 188 [b.vv,.p (.int .i64 b.now),.p (.int .i64 n)] [] = some (.tup [(takB b n).vv,.p (.int .i64 0)],[]):=by
 refine V_wp (vf:=vf188) rfl ?_
 have hw:=((bkOk_iff.1 h).2.1)
 have i0:=badv_eq b b.now h (Int.le_refl _) hw.2
 rw [adv_same h] at i0
 have i1:=btok_eq b h
 have op:=bopen_eq b
 have hlt : ¬ tokB b < n:=by omega
 have ht : tokB b <= 1073741824:=by
  unfold tokB
  split
  ·omega
  ·rename_i e
   rcases (bkOk_iff.1 h).2.2 with ⟨e',_⟩ | ⟨_,hr,hb,hl⟩
   ·exact absurd e' e
   ·have h1:=Int.ediv_le_ediv (show 0 < b.per by have:=(bkOk_iff.1 h).1; omega) hl.2
    rw [Int.mul_ediv_cancel _ (show b.per ≠ 0 by have:=(bkOk_iff.1 h).1; omega)] at h1
    omega
 have i2:=bin_eq n 0 1073741824
 rw [show inZ n 0 1073741824 = true from inZ_iff.2 ⟨hn.1,by omega⟩] at i2
 unfold takB
 by_cases e : b.rate = maxR
 ·rw [if_pos e]
  rw [decide_eq_true e] at op
  simp -implicitDefEqProofs (disch:=omega) only [vf188,vb188,i0,i1,i2,op,hlt,go_sem,↓reduceIte,rA,rS,rE,rL,reduceCtorEq]
 ·rw [if_neg e]
  rw [decide_eq_false e] at op
  have e2 : tokB b = b.level / b.per:=by unfold tokB; rw [if_neg e]
  rw [if_neg (by omega)]
  rcases (bkOk_iff.1 h).2.2 with ⟨e',_⟩ | ⟨_,hr,hb,hl⟩
  ·exact absurd e' e
  ·have hp:=(bkOk_iff.1 h).1
   have hk : n * b.per <= b.level:=by
    have:=Int.mul_le_mul_of_nonneg_right (show n <= b.level / b.per by omega) (show 0 <= b.per by omega)
    have h9:=Int.ediv_mul_le b.level (show b.per ≠ 0 by omega)
    omega
   have hk0 : 0 <= n * b.per:=Int.mul_nonneg hn.1 (by omega)
   have hl1:=mul_range hb.1 hb.2 (show 0 <= b.per by omega) hp.2
   simp -implicitDefEqProofs (disch:=omega) only [vf188,vb188,i0,i1,i2,op,hlt,go_sem,↓reduceIte,rA,rS,rE,rL,reduceCtorEq]
abbrev mBox (t : Tr) (d : Dv) : Ob:=.box [.p (.int .i64 d.m.rb),.p (.int .i64 d.m.rp),.p (.int .i64 d.m.wb),.p (.int .i64 d.m.wp),.p (.int .i64 d.m.seek),.p (.int .i64 d.speed),.p (.int .i64 d.margin),.p (.int .i64 d.now),.p (.int .i64 d.free),.p (.int .i64 d.head),.own (.arg 1 0) 0 0 d.weights.length,.own (.arg 2 0) 0 0 d.buckets.length,.own (.arg 3 0) 0 0 d.depths.length,.p (chsP d.v),.own (.arg 4 0) 0 0 d.queue.length,.own (.arg 5 0) 0 0 d.flights.length,.p (nodesP t.nodes),.p (.int .i64 t.next)]
abbrev mH (t : Tr) (d : Dv) : List Ob:=[mBox t d,.arr 2 (d.weights.map Ch.pv),.arr 21 (d.buckets.map Cp.pv),.arr 3 (d.depths.map Dp.pv),.arr 6 (d.queue.map Rq.pv),.arr 7 (d.flights.map Fl.pv)]
theorem mcaps_eq (t : Tr) (d : Dv) (id : Int) (hb : d.buckets.length < 1000000) : V 159 [.ptr (.arg 0 0) 0 0,.p (.int .i64 id)] (mH t d) = some (.p (.int .i64 (idxP (fun c=>decide (c.group = id)) d.buckets)),mH t d):=by
 refine V_wp (vf:=vf159) rfl ?_
 have i0:=idxC_eq d.buckets id hb
 simp -implicitDefEqProofs (disch:=omega) only [vf159,vb159,i0,go_sem,↓reduceIte,rA,rS,rE,rL,reduceCtorEq]
theorem kinds_eq (xs : List PV) (i : Nat) (w : Bool) : V 180 [.eptr (.arg 0 0) 0 i 0,.p (.bool w)] [.arr 21 xs] = some (.tup [.eptr (.arg 0 0) 0 i (if w then 6 else 1),.eptr (.arg 0 0) 0 i (if w then 16 else 11)],[.arr 21 xs]):=by
 refine V_wp (vf:=vf180) rfl ?_
 cases w with
 | false=>simp -implicitDefEqProofs (disch:=omega) only [vf180,vb180,go_sem,↓reduceIte,rA,rS,rE,rL,reduceCtorEq]
 | true=>simp -implicitDefEqProofs (disch:=omega) only [vf180,vb180,go_sem,↓reduceIte,rA,rS,rE,rL,reduceCtorEq]
set_option maxHeartbeats 1000000 in
theorem active_eq (t : Tr) (d : Dv) (hq : d.queue.length < 1000000) (hf : d.flights.length < 1000000) : V 125 [.ptr (.arg 0 0) 0 0] (mH t d) = some (.fresh 1 ((actL d).map (.int .i64)),mH t d):=by
 refine V_wp (vf:=vf125) rfl ?_
 simp -implicitDefEqProofs (disch:=omega) only [vf125,vb125,go_sem,↓reduceIte,rA,rS,rE,rL,reduceCtorEq]
 refine wp_count d.queue.length (fun k s=>∃ (acc : List Int) (v : Nat),acc = (d.queue.take k).map (·.group) /\ acc.length = k /\ s.pe 0 = .ptr (.arg 0 0) 0 0 /\ s.pe 3 = .own (.slot 3 0) v 0 acc.length /\ s.pe 12 = .own (.arg 4 0) 0 0 d.queue.length /\ s.pe 13 = .p (.int .i64 d.queue.length) /\ s.pe 14 = .p (.int .i64 k) /\ s.h (.slot 3 0) = some (v,.arr 1 (acc.map (.int .i64))) /\ s.h (.arg 0 0) = some (0,mBox t d) /\ s.h (.arg 1 0) = some (0,.arr 2 (d.weights.map Ch.pv)) /\ s.h (.arg 2 0) = some (0,.arr 21 (d.buckets.map Cp.pv)) /\ s.h (.arg 3 0) = some (0,.arr 3 (d.depths.map Dp.pv)) /\ s.h (.arg 4 0) = some (0,.arr 6 (d.queue.map Rq.pv)) /\ s.h (.arg 5 0) = some (0,.arr 7 (d.flights.map Fl.pv))) ?_ ?_
 ·exact ⟨[],0,rfl,rfl,rfl,rfl,rfl,rfl,rfl,rfl,rfl,rfl,rfl,rfl,rfl,rfl⟩
 ·rintro k s hk ⟨acc,v,hacc,hlen,h0,h3,h12,h13,h14,g3,a0,a1,a2,a3,a4,a5⟩
  simp -implicitDefEqProofs (disch:=omega) only [h0,h3,h12,h13,h14,g3,a0,a1,a2,a3,a4,a5,go_sem,↓reduceIte,rA,rS,rE,rL,reduceCtorEq]
  refine wp_if_d (fun hlt=>?_) (fun hge=>?_)
  ·have hm : d.queue[k]? = some d.queue[k]:=lgg hlt
   have htk : (d.queue.take (k + 1)).map (·.group) = (d.queue.take k).map (·.group) ++ [d.queue[k].group]:=by
    rw [List.take_add_one,hm,lma]; rfl
   generalize d.queue[k] = m at hm htk
   simp -implicitDefEqProofs (disch:=omega) only [h0,h3,h12,h13,h14,g3,a0,a1,a2,a3,a4,a5,hm,hlt,go_sem,↓reduceIte,rA,rS,rE,rL,reduceCtorEq]
   refine ⟨acc ++ [m.group],v + 1,by rw [htk,hacc],by simp [hlen],?_⟩
   simp [h0,h3,h12,h13,h14,g3,a0,a1,a2,a3,a4,a5]
  ·simp -implicitDefEqProofs (disch:=omega) only [h0,h3,h12,h13,h14,g3,a0,a1,a2,a3,a4,a5,hge,go_sem,↓reduceIte,rA,rS,rE,rL,reduceCtorEq]
   rw [ltl (by omega)] at hacc
   refine wp_count d.flights.length (fun k s=>∃ (acc : List Int) (v : Nat),acc = d.queue.map (·.group) ++ (d.flights.take k).map (·.r.group) /\ acc.length = d.queue.length + k /\ s.pe 0 = .ptr (.arg 0 0) 0 0 /\ s.pe 3 = .own (.slot 3 0) v 0 acc.length /\ s.pe 28 = .own (.arg 5 0) 0 0 d.flights.length /\ s.pe 29 = .p (.int .i64 d.flights.length) /\ s.pe 30 = .p (.int .i64 k) /\ s.h (.slot 3 0) = some (v,.arr 1 (acc.map (.int .i64))) /\ s.h (.arg 0 0) = some (0,mBox t d) /\ s.h (.arg 1 0) = some (0,.arr 2 (d.weights.map Ch.pv)) /\ s.h (.arg 2 0) = some (0,.arr 21 (d.buckets.map Cp.pv)) /\ s.h (.arg 3 0) = some (0,.arr 3 (d.depths.map Dp.pv)) /\ s.h (.arg 4 0) = some (0,.arr 6 (d.queue.map Rq.pv)) /\ s.h (.arg 5 0) = some (0,.arr 7 (d.flights.map Fl.pv))) ?_ ?_
   ·exact ⟨acc,v,by simpa using hacc,by rw [hacc]; simp,by simp [go_sem,h0],by simp [go_sem,h3],by simp [go_sem],by simp [go_sem],by simp [go_sem],by simp [g3],by simp [a0],by simp [a1],by simp [a2],by simp [a3],by simp [a4],by simp [a5]⟩
   ·clear hacc hlen h0 h3 h12 h13 h14 g3 a0 a1 a2 a3 a4 a5 hge hk
    rintro k s hk ⟨acc,v,hacc,hlen,h0,h3,h12,h13,h14,g3,a0,a1,a2,a3,a4,a5⟩
    simp -implicitDefEqProofs (disch:=omega) only [h0,h3,h12,h13,h14,g3,a0,a1,a2,a3,a4,a5,go_sem,↓reduceIte,rA,rS,rE,rL,reduceCtorEq]
    refine wp_if_d (fun hlt=>?_) (fun hge=>?_)
    ·have hm : d.flights[k]? = some d.flights[k]:=lgg hlt
     have htk : (d.flights.take (k + 1)).map (·.r.group) = (d.flights.take k).map (·.r.group) ++ [d.flights[k].r.group]:=by
      rw [List.take_add_one,hm,lma]; rfl
     generalize d.flights[k] = m at hm htk
     simp -implicitDefEqProofs (disch:=omega) only [h0,h3,h12,h13,h14,g3,a0,a1,a2,a3,a4,a5,hm,hlt,go_sem,↓reduceIte,rA,rS,rE,rL,reduceCtorEq]
     refine ⟨acc ++ [m.r.group],v + 1,by rw [htk,hacc,laa],by simp [hlen]; omega,?_⟩
     simp [h0,h3,h12,h13,h14,g3,a0,a1,a2,a3,a4,a5]
    ·rw [ltl (by omega)] at hacc
     have hA : actL d = acc:=by rw [hacc]; rfl
     rw [hA]
     simp -implicitDefEqProofs (disch:=omega) only [h0,h3,h12,h13,h14,g3,a0,a1,a2,a3,a4,a5,hge,go_sem,↓reduceIte,rA,rS,rE,rL,reduceCtorEq]
def RepM (ks : List MKey) (vs : List PV) (f : Int -> Int) : Prop:=∀ id,(mget ks vs (.int id)).getD (.int .i64 0) = .int .i64 (f id)
theorem RepM.put {ks : List MKey} {vs : List PV} {f : Int -> Int} (h : RepM ks vs f) (g v : Int) : RepM (mput ks vs (.int g) (.int .i64 v)).1 (mput ks vs (.int g) (.int .i64 v)).2 (fun x=>if x = g then v else f x):=by
 intro id
 rw [mget_mput]
 by_cases hg : id = g
 ·subst hg
  simp
 ·simp [hg]
  exact h id
theorem RepM.congr {ks : List MKey} {vs : List PV} {f g : Int -> Int} (h : RepM ks vs f) (he : ∀ x,f x = g x) : RepM ks vs g:=fun id=>by rw [<- he]; exact h id
theorem RepM.nil : RepM [] [] fun _=>0:=fun _=>rfl
def flyL (t : Tr) (fs : List Fl) : List Ch:=(t.nodes.filter fun n=>decide (0 < cntF fs n.id)).map fun n=>⟨n.id,cntF fs n.id⟩
theorem cntF_nonneg (fs : List Fl) (id : Int) : 0 <= cntF fs id:=by unfold cntF; omega
theorem cntF_le (fs : List Fl) (id : Int) : cntF fs id <= fs.length:=by
 unfold cntF
 have:=List.length_filter_le (fun f : Fl=>decide (f.r.group = id)) fs
 omega
theorem own_pos {f : Int -> Int} (h0 : ∀ x,0 <= f x) : ∀ {L : List Nd},(L.Pairwise fun a b=>a.id < b.id) -> ∀ n ∈ L,ownC ((L.filter fun n=>decide (0 < f n.id)).map fun n=>(⟨n.id,f n.id⟩ : Ch)) n.id = f n.id
 | [],_,n,hn=>by cases hn
 | x :: L,hp,n,hn=>by
  rw [lpw] at hp
  have ih:=own_pos h0 hp.2
  by_cases hx : 0 < f x.id
  ·rw [List.filter_cons_of_pos (by simpa using hx),lpc,ownC_cons]
   rcases lmk.1 hn with rfl | hn
   ·simp
   ·have:=hp.1 n hn
    simp only
    rw [if_neg (by omega)]
    exact ih n hn
  ·rw [List.filter_cons_of_neg (by simpa using hx)]
   rcases lmk.1 hn with rfl | hn
   ·have:=h0 n.id
    rw [ownC_zero]
    ·omega
    ·intro c hc
     obtain ⟨m,hm,rfl⟩:=lmm.1 hc
     have:=hp.1 m (List.mem_filter.1 hm).1
     simp only
     omega
   .exact ih n hn
theorem flyL_own {t : Tr} (h : TreeOk t) (fs : List Fl) {n : Nd} (hn : n ∈ t.nodes) : ownC (flyL t fs) n.id = cntF fs n.id:=own_pos (cntF_nonneg fs) h.inc n hn
theorem flyL_inc {t : Tr} (h : TreeOk t) (fs : List Fl) : (flyL t fs).Pairwise fun a b=>a.group < b.group:=by
 unfold flyL
 rw [List.pairwise_map]
 exact h.inc.filter _
theorem flyL_mem {t : Tr} {fs : List Fl} {c : Ch} (hc : c ∈ flyL t fs) : ∃ n ∈ t.nodes,c.group = n.id /\ c.own = cntF fs n.id:=by
 unfold flyL at hc
 obtain ⟨n,hn,rfl⟩:=lmm.1 hc
 exact ⟨n,(List.mem_filter.1 hn).1,rfl,rfl⟩
theorem flyL_len (t : Tr) (fs : List Fl) : (flyL t fs).length <= t.nodes.length:=by
 unfold flyL
 rw [llm]
 exact List.length_filter_le _ _
theorem known_mem {t : Tr} (h : TreeOk t) {n : Nd} (hn : n ∈ t.nodes) : findN t.nodes n.id = some n:=by
 obtain ⟨i,hi⟩:=lgm hn
 exact findN_unique h.inc hi
theorem sumF_fly {t : Tr} (h : TreeOk t) (fs : List Fl) {g : Int} (hg : knownN t.nodes g = true) : (subT t g).map (ownC (flyL t fs)) = (subF t.nodes t.nodes.length g).map (cntF fs) /\ subT t g = subF t.nodes t.nodes.length g:=by
 obtain ⟨n,hn,rfl⟩:=findN_some hg
 obtain ⟨i,hi⟩:=lgm hn
 have e : subT t n.id = subF t.nodes t.nodes.length n.id:=by
  unfold subT
  rw [if_pos (by rw [findT,if_pos ((treeOk_iff t).2 h),known_mem h hn]; rfl)]
 refine ⟨?_,e⟩
 rw [e]
 refine List.map_congr_left fun x hx=>?_
 obtain ⟨j,m,hm,rfl,_⟩:=(mem_subF h t.nodes.length i n hi (by omega) x).1 hx
 exact flyL_own h fs (lmg hm)
theorem anc_known {t : Tr} (h : TreeOk t) {id : Int} (hid : knownN t.nodes id = true) : ∀ g ∈ ancF t.nodes t.nodes.length id,knownN t.nodes g = true:=by
 intro g hg
 obtain ⟨n,hn,rfl⟩:=findN_some hid
 obtain ⟨i,hi⟩:=lgm hn
 obtain ⟨j,m,_,hm,rfl⟩:=anc_le h i n hi g hg
 unfold knownN
 rw [known_mem h (lmg hm)]
 rfl
theorem ownC_bound {l : List Ch} (h : ∀ c ∈ l,0 <= c.own /\ c.own <= 256) (x : Int) : 0 <= ownC l x /\ ownC l x <= 256:=by
 induction l with
 | nil=>exact ⟨Int.le_refl _,by show (0 : Int) <= 256; omega⟩
 | cons c l ih =>
  rw [ownC_cons]
  simp only
  split
  .exact h c (lms ..)
  .exact ih fun d hd=>h d (lmc _ hd)
theorem sumb_256 {f : Int -> Int} (h : ∀ x,0 <= f x /\ f x <= 256) : ∀ l : List Int,0 <= sumI (l.map f) /\ sumI (l.map f) <= 256 * l.length
 | []=>by simp [sumI]
 | x :: l=>by
  have:=sumb_256 h l
  have:=h x
  simp only [lpc,sumI,llc,Int.natCast_add,Int.natCast_one]
  omega
set_option maxHeartbeats 1000000 in
theorem lget_eq (l : List Dp) (id : Int) (hl : l.length < 1000000) : V 164 [.p (dpsP l),.p (.int .i64 id)] [] = some ((getD l id).vv,[]):=by
 refine V_wp (vf:=vf164) rfl ?_
 have i0:=lnone_eq id
 simp -implicitDefEqProofs (disch:=omega) only [vf164,vb164,go_sem,↓reduceIte,rA,rS,rE,rL,reduceCtorEq]
 obtain ⟨I,hI⟩ : ∃ I : Nat -> St -> Prop,∀ k s,I k s ↔ getD l id = getD (l.drop k) id /\ s.pe 1 = .p (.int .i64 id) /\ s.pe 4 = .ptr (.slot 4 0) 0 0 /\ s.pe 7 = .p (dpsP l) /\ s.pe 8 = .p (.int .i64 ↑l.length) /\ s.pe 9 = .p (.int .i64 k) /\ s.h (.slot 4 0) = some (0,Ob.box [.p (.int .i64 0),.p (.int .i64 0),.p (.int .i64 0)]):=⟨_,fun _ _=>Iff.rfl⟩
 refine wp_count (l.length) I ?_ ?_
 ·refine (hI _ _).2 ⟨?_,?_,?_,?_,?_,?_,?_⟩
  ·exact cl3
  all_goals first | exact cl0 | (simp -implicitDefEqProofs (disch:=omega) only [lma,go_sem,↓reduceIte,rA,rS,rE,rL,reduceCtorEq] <;> first | (simp [sumI]; done) | (simp [sumI]; omega))
 intro k s hk hIk
 obtain ⟨hq,h1,h4,h7,h8,h9,hh4_0⟩:=(hI _ _).1 hIk
 clear hIk
 simp -implicitDefEqProofs (disch:=omega) only [h1,h4,h7,h8,h9,hh4_0,go_sem,↓reduceIte,rA,rS,rE,rL,reduceCtorEq]
 refine wp_if_d (fun hlt=>?_) (fun hge=>?_)
 ·have hm : l[k]? = some l[k]:=lgg hlt
  rw [ldg hlt,getD] at hq
  generalize l[k] = c at hm hq
  by_cases hc : c.group = id
  ·rw [if_pos hc] at hq
   subst hc
   simp -implicitDefEqProofs (disch:=omega) only [h1,h4,h7,h8,h9,hh4_0,hlt,hm,hq,go_sem,↓reduceIte,rA,rS,rE,rL,reduceCtorEq]
  ·rw [if_neg hc] at hq
   simp -implicitDefEqProofs (disch:=omega) only [h1,h4,h7,h8,h9,hh4_0,hlt,hm,hc,go_sem,↓reduceIte,rA,rS,rE,rL,reduceCtorEq]
   try refine And.intro (by omega) ?_
   refine (hI _ _).2 ⟨?_,?_,?_,?_,?_,?_,?_⟩
   .exact hq
   all_goals first | exact cl0 | (simp -implicitDefEqProofs (disch:=omega) only [h1,h4,h7,h8,h9,hh4_0,lma,go_sem,↓reduceIte,rA,rS,rE,rL,reduceCtorEq] <;> first | (simp [sumI]; done) | (simp [sumI]; omega))
 ·have hq' : getD l id = ⟨id,0,256⟩:=by
   rw [hq,List.drop_eq_nil_of_le (by omega)]
   rfl
  simp -implicitDefEqProofs (disch:=omega) only [h1,h4,h7,h8,h9,hh4_0,hge,i0,hq',go_sem,↓reduceIte,rA,rS,rE,rL,reduceCtorEq]
set_option maxHeartbeats 4000000 in
theorem lallow_eq {t : Tr} (h : TreeOk t) (ds : List Dp) (fs : List Fl) (id : Int) (hds : ascD (knownN t.nodes) none ds = true) (hdl : ds.length < 1000000) (hfl : fs.length <= 256) (hid : knownN t.nodes id = true) :
  V 177 [t.vv,.p (dpsP ds),.p (chsP (flyL t fs)),.p (.int .i64 id)] [] = some (.tup [.p (.bool (allowF t ds fs id)),.p (.int .i64 0)],[]):=by
 refine V_wp (vf:=vf177) rfl ?_
 have hlen:=h.len
 have j0:=lvalid_eq t ds h.fits (by omega) hdl
 rw [(treeOk_iff t).2 h,hds,bta] at j0
 have hL1:=flyL_inc h fs
 have hL2:=fun c=>flyL_mem (t:=t) (fs:=fs) (c:=c)
 have hL3:=flyL_len t fs
 have hL4 : ∀ c ∈ flyL t fs,0 <= c.own /\ c.own <= 256:=fun c hc=>by
  obtain ⟨n,hn,_,e⟩:=hL2 c hc
  rw [e]
  have:=cntF_nonneg fs n.id
  have:=cntF_le fs n.id
  omega
 have hAl : allowF t ds fs id = (ancF t.nodes t.nodes.length id).all fun g=>decide (sumI ((subT t g).map (ownC (flyL t fs))) < (getD ds g).depth):=by
  unfold allowF sumF
  rw [Bool.eq_iff_iff,List.all_eq_true,List.all_eq_true]
  refine forall_congr' fun g=>forall_congr' fun hg=>?_
  rw [(sumF_fly h fs (anc_known h hid g hg)).1]
 have hKn : ∀ c ∈ flyL t fs,(findN t.nodes c.group).isSome = true:=fun c hc=>by
  obtain ⟨n,hn,e,_⟩:=hL2 c hc
  rw [e,known_mem h hn]
  rfl
 rw [hAl]
 generalize flyL t fs = l at hL1 hL2 hL3 hL4 hKn
 simp -implicitDefEqProofs (disch:=omega) only [vf177,vb177,j0,go_sem,↓reduceIte,rA,rS,rE,rL,reduceCtorEq]
 obtain ⟨I,hI⟩ : ∃ I : Nat -> St -> Prop,∀ k s,I k s ↔ ∃ (ks : List MKey) (vs : List PV),RepM ks vs (ownC (l.take k)) /\ s.pe 1 = .p (dpsP ds) /\ s.pe 2 = .p (chsP l) /\ s.pe 3 = .p (.int .i64 id) /\ s.pe 4 = .ptr (.slot 4 0) 0 0 /\ s.pe 10 = .mref (.slot 26 0) 0 /\ s.pe 27 = .p (chsP l) /\ s.pe 28 = .p (.int .i64 ↑l.length) /\ s.pe 29 = .p (.int .i64 k) /\ s.h (.slot 4 0) = some (0,Ob.box [.p (nodesP t.nodes),.p (.int .i64 t.next)]) /\ s.h (.slot 26 0) = some (0,Ob.map (KT.int IntKind.i64) ks vs):=⟨_,fun _ _=>Iff.rfl⟩
 refine wp_count (l.length) I ?_ ?_
 ·refine (hI _ _).2 ⟨[],[],?_,?_,?_,?_,?_,?_,?_,?_,?_,?_,?_⟩
  ·exact RepM.nil
  all_goals first | exact cl0 | (simp -implicitDefEqProofs (disch:=omega) only [h1,h4,h7,h8,h9,hh4_0,lma,go_sem,↓reduceIte,rA,rS,rE,rL,reduceCtorEq] <;> first | (simp [sumI]; done) | (simp [sumI]; omega))
 intro k s hk hIk
 obtain ⟨ks,vs,hrep,h1,h2,h3,h4,h10,h27,h28,h29,hh4_0,hh26_0⟩:=(hI _ _).1 hIk
 clear hIk
 simp -implicitDefEqProofs (disch:=omega) only [h1,h2,h3,h4,h10,h27,h28,h29,hh4_0,hh26_0,go_sem,↓reduceIte,rA,rS,rE,rL,reduceCtorEq]
 refine wp_if_d (fun hlt=>?_) (fun hge=>?_)
 ·have hm : l[k]? = some l[k]:=lgg hlt
  have htk:=take_snoc hm
  have hfr:=fresh_at hL1 hm
  generalize l[k] = c at hm htk hfr
  have hcm:=lmg hm
  have hnew:=(hrep.put c.group c.own).congr (g:=ownC (l.take (k + 1))) fun x=>by
   rw [htk,ownC_snoc c x _ hfr]
  have hfi:=ffind_eq t c.group (by omega)
  rw [hKn c hcm] at hfi
  generalize (findN t.nodes c.group).getD zeroNd = nd at hfi
  have i1:=lin_eq c.own 0 256
  rw [show inZ c.own 0 256 = true from inZ_iff.2 (hL4 c hcm)] at i1
  by_cases hk0 : k = 0
  ·have hk0' : ¬ (0 : Int) < k:=by omega
   simp -implicitDefEqProofs (disch:=omega) only [h1,h2,h3,h4,h10,h27,h28,h29,hh4_0,hh26_0,hlt,hm,hfi,Nd.vv,hk0',i1,go_sem,↓reduceIte,rA,rS,rE,rL,reduceCtorEq]
   try refine And.intro (by omega) ?_
   refine (hI _ _).2 ⟨(mput ks vs (.int c.group) (.int .i64 c.own)).1,(mput ks vs (.int c.group) (.int .i64 c.own)).2,?_,?_,?_,?_,?_,?_,?_,?_,?_,?_,?_⟩
   ·exact hnew
   all_goals first | exact cl0 | (simp -implicitDefEqProofs (disch:=omega) only [h1,h2,h3,h4,h10,h27,h28,h29,hh4_0,hh26_0,lma,go_sem,↓reduceIte,rA,rS,rE,rL,reduceCtorEq] <;> first | (simp [sumI]; done) | (simp [sumI]; omega))
  ·have hpk : l[k - 1]? = some l[k - 1]:=lgg (by omega)
   have hpl : l[k - 1].group < c.group:=by
    have:=List.pairwise_iff_getElem.1 hL1 (k - 1) k (by omega) hlt (by omega)
    rw [(lgs.1 hm).2] at this
    exact this
   generalize l[k - 1] = p at hpk hpl
   have hk0' : (0 : Int) < k:=by omega
   have hk1 : (0 : Int) <= (k : Int) - 1:=by omega
   have hk2 : ((k : Int) - 1).toNat = k - 1:=by omega
   have hpg : ¬ c.group <= p.group:=by omega
   simp -implicitDefEqProofs (disch:=omega) only [h1,h2,h3,h4,h10,h27,h28,h29,hh4_0,hh26_0,hlt,hm,hfi,Nd.vv,hk0',hk1,hk2,hpk,hpg,i1,go_sem,↓reduceIte,rA,rS,rE,rL,reduceCtorEq]
   try refine And.intro (by omega) ?_
   refine (hI _ _).2 ⟨(mput ks vs (.int c.group) (.int .i64 c.own)).1,(mput ks vs (.int c.group) (.int .i64 c.own)).2,?_,?_,?_,?_,?_,?_,?_,?_,?_,?_,?_⟩
   ·exact hnew
   all_goals first | exact cl0 | (simp -implicitDefEqProofs (disch:=omega) only [h1,h2,h3,h4,h10,h27,h28,h29,hh4_0,hh26_0,lma,go_sem,↓reduceIte,rA,rS,rE,rL,reduceCtorEq] <;> first | (simp [sumI]; done) | (simp [sumI]; omega))
 ·rw [ltl (by omega)] at hrep
  have hfi:=ffind_eq t id (by omega)
  have hid' : (findN t.nodes id).isSome = true:=hid
  rw [hid'] at hfi
  generalize (findN t.nodes id).getD zeroNd = nd at hfi
  have c1:=fanc_eq t id (by omega)
  have hal:=ancF_length t.nodes t.nodes.length id
  have hA : ∀ g ∈ ancF t.nodes t.nodes.length id,True:=fun _ _=>trivial
  have hob:=ownC_bound hL4
  generalize ancF t.nodes t.nodes.length id = A at c1 hal hA
  simp -implicitDefEqProofs (disch:=omega) only [h1,h2,h3,h4,h10,h27,h28,h29,hh4_0,hh26_0,hge,hfi,Nd.vv,c1,go_sem,↓reduceIte,rA,rS,rE,rL,reduceCtorEq]
  obtain ⟨J,hJ⟩ : ∃ I : Nat -> St -> Prop,∀ j s,I j s ↔ ∃ (v80_1 : Nat),(A.all fun g=>decide (sumI ((subT t g).map (ownC l)) < (getD ds g).depth)) = ((A.drop j).all fun g=>decide (sumI ((subT t g).map (ownC l)) < (getD ds g).depth)) /\ s.pe 1 = .p (dpsP ds) /\ s.pe 4 = .ptr (.slot 4 0) 0 0 /\ s.pe 10 = .mref (.slot 26 0) 0 /\ s.pe 80 = .own (.slot 80 1) v80_1 0 A.length /\ s.pe 81 = .p (.int .i64 ↑A.length) /\ s.pe 82 = .p (.int .i64 j) /\ s.h (.slot 4 0) = some (0,Ob.box [.p (nodesP t.nodes),.p (.int .i64 t.next)]) /\ s.h (.slot 26 0) = some (0,Ob.map (KT.int IntKind.i64) ks vs) /\ s.h (.slot 80 1) = some (v80_1,Ob.arr 1 (List.map (.int .i64) A)):=⟨_,fun _ _=>Iff.rfl⟩
  refine wp_count (A.length) J ?_ ?_
  ·refine (hJ _ _).2 ⟨nv (s.h (.slot 80 1)),?_,?_,?_,?_,?_,?_,?_,?_,?_,?_⟩
   ·exact cl3
   all_goals first | exact cl0 | (simp -implicitDefEqProofs (disch:=omega) only [h1,h2,h3,h4,h10,h27,h28,h29,hh4_0,hh26_0,lma,go_sem,↓reduceIte,rA,rS,rE,rL,reduceCtorEq] <;> first | (simp [sumI]; done) | (simp [sumI]; omega))
  intro j s hj hJk
  obtain ⟨v80_1,hq,h1,h4,h10,h80,h81,h82,hh4_0,hh26_0,hh80_1⟩:=(hJ _ _).1 hJk
  clear hJk
  simp -implicitDefEqProofs (disch:=omega) only [h1,h4,h10,h80,h81,h82,hh4_0,hh26_0,hh80_1,go_sem,↓reduceIte,rA,rS,rE,rL,reduceCtorEq]
  refine wp_if_d (fun hjl=>?_) (fun hjg=>?_)
  ·have hx : A[j]? = some A[j]:=lgg hjl
   rw [ldg hjl,List.all_cons] at hq
   generalize A[j] = g at hx hq
   have hsu:=fsub_eq g h
   have hsl:=subT_len h g
   have hgd:=lget_eq ds g hdl
   have hsb:=sumb_256 hob (subT t g)
   generalize subT t g = S at hsu hsl hq hsb
   simp -implicitDefEqProofs (disch:=omega) only [h1,h4,h10,h80,h81,h82,hh4_0,hh26_0,hh80_1,hjl,hx,hsu,go_sem,↓reduceIte,rA,rS,rE,rL,reduceCtorEq]
   obtain ⟨M,hM⟩ : ∃ I : Nat -> St -> Prop,∀ m s,I m s ↔ ∃ (v88_1 : Nat),s.pe 1 = .p (dpsP ds) /\ s.pe 4 = .ptr (.slot 4 0) 0 0 /\ s.pe 10 = .mref (.slot 26 0) 0 /\ s.pe 18 = .p (.int .i64 g) /\ s.pe 19 = .p (.int .i64 (sumI ((S.take m).map (ownC l)))) /\ s.pe 80 = .own (.slot 80 1) v80_1 0 A.length /\ s.pe 81 = .p (.int .i64 ↑A.length) /\ s.pe 82 = .p (.int .i64 ↑j) /\ s.pe 88 = .own (.slot 88 1) v88_1 0 S.length /\ s.pe 89 = .p (.int .i64 ↑S.length) /\ s.pe 90 = .p (.int .i64 m) /\ s.h (.slot 4 0) = some (0,Ob.box [.p (nodesP t.nodes),.p (.int .i64 t.next)]) /\ s.h (.slot 26 0) = some (0,Ob.map (KT.int IntKind.i64) ks vs) /\ s.h (.slot 80 1) = some (v80_1,Ob.arr 1 (List.map (.int .i64) A)) /\ s.h (.slot 88 1) = some (v88_1,Ob.arr 1 (List.map (.int .i64) S)):=⟨_,fun _ _=>Iff.rfl⟩
   refine wp_count (S.length) M ?_ ?_
   ·refine (hM _ _).2 ⟨nv (fzOb [88] s.h (.slot 88 1)),?_,?_,?_,?_,?_,?_,?_,?_,?_,?_,?_,?_,?_,?_,?_⟩
    all_goals first | exact cl0 | (simp -implicitDefEqProofs (disch:=omega) only [h1,h4,h10,h80,h81,h82,hh4_0,hh26_0,hh80_1,lma,go_sem,↓reduceIte,rA,rS,rE,rL,reduceCtorEq] <;> first | (simp [sumI]; done) | (simp [sumI]; omega))
   intro m s hm hMk
   obtain ⟨v88_1,h1,h4,h10,h18,h19,h80,h81,h82,h88,h89,h90,hh4_0,hh26_0,hh80_1,hh88_1⟩:=(hM _ _).1 hMk
   clear hMk
   simp -implicitDefEqProofs (disch:=omega) only [h1,h4,h10,h18,h19,h80,h81,h82,h88,h89,h90,hh4_0,hh26_0,hh80_1,hh88_1,go_sem,↓reduceIte,rA,rS,rE,rL,reduceCtorEq]
   refine wp_if_d (fun hml=>?_) (fun hmg=>?_)
   ·have hy : S[m]? = some S[m]:=lgg hml
    have hst:=sumI_take_succ (f:=ownC l) hy
    have hb1:=sumb_256 hob (S.take m)
    have hb2:=hob S[m]
    have hr:=hrep S[m]
    generalize S[m] = y at hy hst hb2 hr
    have hml' : (S.take m).length <= S.length:=by rw [llt]; omega
    generalize sumI ((S.take m).map (ownC l)) = X at h19 hst hb1
    simp -implicitDefEqProofs (disch:=omega) only [h1,h4,h10,h18,h19,h80,h81,h82,h88,h89,h90,hh4_0,hh26_0,hh80_1,hh88_1,hml,hy,hr,go_sem,↓reduceIte,rA,rS,rE,rL,reduceCtorEq]
    try refine And.intro (by omega) ?_
    refine (hM _ _).2 ⟨v88_1,?_,?_,?_,?_,?_,?_,?_,?_,?_,?_,?_,?_,?_,?_,?_⟩
    all_goals first | exact cl0 | (simp -implicitDefEqProofs (disch:=omega) only [h1,h4,h10,h18,h19,h80,h81,h82,h88,h89,h90,hh4_0,hh26_0,hh80_1,hh88_1,hst,lma,go_sem,↓reduceIte,rA,rS,rE,rL,reduceCtorEq] <;> first | (simp [sumI]; done) | (simp [sumI]; omega))
   ·rw [ltl (by omega)] at h19
    generalize sumI (S.map (ownC l)) = X at h19 hq
    by_cases hc : X < (getD ds g).depth
    ·have hc' : ¬ (getD ds g).depth <= X:=by omega
     rw [decide_eq_true hc,bta] at hq
     simp -implicitDefEqProofs (disch:=omega) only [h1,h4,h10,h18,h19,h80,h81,h82,h88,h89,h90,hh4_0,hh26_0,hh80_1,hh88_1,hmg,hgd,hc',go_sem,↓reduceIte,rA,rS,rE,rL,reduceCtorEq]
     try refine And.intro (by omega) ?_
     refine (hJ _ _).2 ⟨v80_1,?_,?_,?_,?_,?_,?_,?_,?_,?_,?_⟩
     .exact hq
     all_goals first | exact cl0 | (simp -implicitDefEqProofs (disch:=omega) only [h1,h4,h10,h80,h81,h82,hh4_0,hh26_0,hh80_1,lma,go_sem,↓reduceIte,rA,rS,rE,rL,reduceCtorEq] <;> first | (simp [sumI]; done) | (simp [sumI]; omega))
    ·have hc' : (getD ds g).depth <= X:=by omega
     rw [decide_eq_false hc,bfa] at hq
     simp -implicitDefEqProofs (disch:=omega) only [h1,h4,h10,h18,h19,h80,h81,h82,h88,h89,h90,hh4_0,hh26_0,hh80_1,hh88_1,hmg,hgd,hc',hq,go_sem,↓reduceIte,rA,rS,rE,rL,reduceCtorEq]
  ·rw [List.drop_eq_nil_of_le (by omega),List.all_nil] at hq
   simp -implicitDefEqProofs (disch:=omega) only [h1,h4,h10,h80,h81,h82,hh4_0,hh26_0,hh80_1,hjg,hq,go_sem,↓reduceIte,rA,rS,rE,rL,reduceCtorEq]
theorem cntF_take {fs : List Fl} {k : Nat} {f : Fl} (hm : fs[k]? = some f) (x : Int) : cntF (fs.take (k + 1)) x = if x = f.r.group then cntF (fs.take k) f.r.group + 1 else cntF (fs.take k) x:=by
 rw [take_snoc hm]
 unfold cntF
 rw [List.filter_append,lla]
 by_cases h : x = f.r.group
 ·subst h
  rw [if_pos rfl]
  simp
 ·rw [if_neg h,List.filter_cons_of_neg (by simpa using fun e=>h e.symm)]
  simp
theorem flyN_take {ns : List Nd} {fs : List Fl} {k : Nat} {n : Nd} (hm : ns[k]? = some n) : ((ns.take (k + 1)).filter fun n=>decide (0 < cntF fs n.id)).map (fun n=>(⟨n.id,cntF fs n.id⟩ : Ch)) = ((ns.take k).filter fun n=>decide (0 < cntF fs n.id)).map (fun n=>(⟨n.id,cntF fs n.id⟩ : Ch)) ++ if 0 < cntF fs n.id then [⟨n.id,cntF fs n.id⟩] else []:=by
 rw [take_snoc hm,List.filter_append,lma]
 by_cases h : 0 < cntF fs n.id
 ·rw [if_pos h,List.filter_cons_of_pos (by simpa using h)]
  rfl
 ·rw [if_neg h,List.filter_cons_of_neg (by simpa using h)]
  rfl
set_option maxHeartbeats 2000000 in
theorem flying_eq (t : Tr) (d : Dv) (hn : t.nodes.length < 1000000) (hf : d.flights.length <= 256) : V 178 [.ptr (.arg 0 0) 0 0] (mH t d) = some (.fresh 2 ((flyL t d.flights).map Ch.pv),mH t d):=by
 refine V_wp (vf:=vf178) rfl ?_
 simp -implicitDefEqProofs (disch:=omega) only [vf178,vb178,go_sem,↓reduceIte,rA,rS,rE,rL,reduceCtorEq]
 obtain ⟨I,hI⟩ : ∃ I : Nat -> St -> Prop,∀ k s,I k s ↔ ∃ (ks : List MKey) (vs : List PV),RepM ks vs (cntF (d.flights.take k)) /\ s.pe 0 = .ptr (Id.arg 0 0) 0 0 /\ s.pe 3 = .mref (.slot 9 0) 0 /\ s.pe 14 = VVal.own (Id.arg 5 0) 0 0 d.flights.length /\ s.pe 15 = .p (.int .i64 ↑d.flights.length) /\ s.pe 16 = .p (.int .i64 k) /\ s.h (.slot 9 0) = some (0,Ob.map (KT.int IntKind.i64) ks vs) /\ s.h (.arg 0 0) = some (0,mBox t d) /\ s.h (.arg 1 0) = some (0,.arr 2 (d.weights.map Ch.pv)) /\ s.h (.arg 2 0) = some (0,.arr 21 (d.buckets.map Cp.pv)) /\ s.h (.arg 3 0) = some (0,.arr 3 (d.depths.map Dp.pv)) /\ s.h (.arg 4 0) = some (0,.arr 6 (d.queue.map Rq.pv)) /\ s.h (.arg 5 0) = some (0,.arr 7 (d.flights.map Fl.pv)):=⟨_,fun _ _=>Iff.rfl⟩
 refine wp_count (d.flights.length) I ?_ ?_
 ·refine (hI _ _).2 ⟨[],[],?_,?_,?_,?_,?_,?_,?_,?_,?_,?_,?_,?_,?_⟩
  ·exact RepM.nil
  all_goals first | exact cl0 | (simp -implicitDefEqProofs (disch:=omega) only [lma,go_sem,↓reduceIte,rA,rS,rE,rL,reduceCtorEq] <;> first | (simp [mBox]; done) | (simp [mBox]; omega))
 intro k s hk hIk
 obtain ⟨ks,vs,hrep,h0,h3,h14,h15,h16,hh9_0,ha0,ha1,ha2,ha3,ha4,ha5⟩:=(hI _ _).1 hIk
 clear hIk
 simp -implicitDefEqProofs (disch:=omega) only [h0,h3,h14,h15,h16,hh9_0,ha0,ha1,ha2,ha3,ha4,ha5,go_sem,↓reduceIte,rA,rS,rE,rL,reduceCtorEq]
 refine wp_if_d (fun hlt=>?_) (fun hge=>?_)
 ·have hm : d.flights[k]? = some d.flights[k]:=lgg hlt
  have hct:=cntF_take hm
  generalize d.flights[k] = f at hm hct
  have hb:=cntF_le (d.flights.take k) f.r.group
  have hb0:=cntF_nonneg (d.flights.take k) f.r.group
  have htl : (d.flights.take k).length <= k:=List.length_take_le ..
  have hr:=hrep f.r.group
  have hnew:=(hrep.put f.r.group (cntF (d.flights.take k) f.r.group + 1)).congr (g:=cntF (d.flights.take (k + 1))) fun x=>(hct x).symm
  simp -implicitDefEqProofs (disch:=omega) only [h0,h3,h14,h15,h16,hh9_0,ha0,ha1,ha2,ha3,ha4,ha5,hlt,hm,hr,go_sem,↓reduceIte,rA,rS,rE,rL,reduceCtorEq]
  try refine And.intro (by omega) ?_
  refine (hI _ _).2 ⟨(mput ks vs (.int f.r.group) (.int .i64 (cntF (d.flights.take k) f.r.group + 1))).1,(mput ks vs (.int f.r.group) (.int .i64 (cntF (d.flights.take k) f.r.group + 1))).2,?_,?_,?_,?_,?_,?_,?_,?_,?_,?_,?_,?_,?_⟩
  ·exact hnew
  all_goals first | exact cl0 | (simp -implicitDefEqProofs (disch:=omega) only [h0,h3,h14,h15,h16,hh9_0,ha0,ha1,ha2,ha3,ha4,ha5,lma,go_sem,↓reduceIte,rA,rS,rE,rL,reduceCtorEq] <;> first | (simp [mBox]; done) | (simp [mBox]; omega))
 ·rw [ltl (by omega)] at hrep
  simp -implicitDefEqProofs (disch:=omega) only [h0,h3,h14,h15,h16,hh9_0,ha0,ha1,ha2,ha3,ha4,ha5,hge,go_sem,↓reduceIte,rA,rS,rE,rL,reduceCtorEq]
  obtain ⟨J,hJ⟩ : ∃ I : Nat -> St -> Prop,∀ j s,I j s ↔ ∃ (acc : List Ch) (v60 : Nat),acc = (((t.nodes.take j).filter fun n=>decide (0 < cntF d.flights n.id)).map fun n=>(⟨n.id,cntF d.flights n.id⟩ : Ch)) /\ acc.length <= j /\ s.pe 3 = .mref (.slot 9 0) 0 /\ s.pe 6 = .own (.slot 6 0) v60 0 acc.length /\ s.pe 31 = .p (nodesP t.nodes) /\ s.pe 32 = .p (.int .i64 ↑t.nodes.length) /\ s.pe 33 = .p (.int .i64 j) /\ s.h (.slot 6 0) = some (v60,Ob.arr 2 (acc.map Ch.pv)) /\ s.h (.slot 9 0) = some (0,Ob.map (KT.int IntKind.i64) ks vs) /\ s.h (.arg 0 0) = some (0,mBox t d) /\ s.h (.arg 1 0) = some (0,.arr 2 (d.weights.map Ch.pv)) /\ s.h (.arg 2 0) = some (0,.arr 21 (d.buckets.map Cp.pv)) /\ s.h (.arg 3 0) = some (0,.arr 3 (d.depths.map Dp.pv)) /\ s.h (.arg 4 0) = some (0,.arr 6 (d.queue.map Rq.pv)) /\ s.h (.arg 5 0) = some (0,.arr 7 (d.flights.map Fl.pv)):=⟨_,fun _ _=>Iff.rfl⟩
  refine wp_count (t.nodes.length) J ?_ ?_
  ·refine (hJ _ _).2 ⟨[],nv (s.h (.slot 6 0)),?_,?_,?_,?_,?_,?_,?_,?_,?_,?_,?_,?_,?_,?_,?_⟩
   ·exact cl3
   ·exact cl3
   all_goals first | exact cl0 | (simp -implicitDefEqProofs (disch:=omega) only [h0,h3,h14,h15,h16,hh9_0,ha0,ha1,ha2,ha3,ha4,ha5,lma,go_sem,↓reduceIte,rA,rS,rE,rL,reduceCtorEq] <;> first | (simp [mBox]; done) | (simp [mBox]; omega))
  intro j s hj hJk
  obtain ⟨acc,v60,hacc,hal,h3,h6,h31,h32,h33,hh6_0,hh9_0,ha0,ha1,ha2,ha3,ha4,ha5⟩:=(hJ _ _).1 hJk
  clear hJk
  simp -implicitDefEqProofs (disch:=omega) only [h3,h6,h31,h32,h33,hh6_0,hh9_0,ha0,ha1,ha2,ha3,ha4,ha5,go_sem,↓reduceIte,rA,rS,rE,rL,reduceCtorEq]
  refine wp_if_d (fun hjl=>?_) (fun hjg=>?_)
  ·have hx : t.nodes[j]? = some t.nodes[j]:=lgg hjl
   have hst:=flyN_take (fs:=d.flights) hx
   generalize t.nodes[j] = n at hx hst
   have hr:=hrep n.id
   by_cases hp : 0 < cntF d.flights n.id
   ·rw [if_pos hp,<- hacc] at hst
    generalize cntF d.flights n.id = c at hr hst hp
    simp -implicitDefEqProofs (disch:=omega) only [h3,h6,h31,h32,h33,hh6_0,hh9_0,ha0,ha1,ha2,ha3,ha4,ha5,hjl,hx,hr,hp,go_sem,↓reduceIte,rA,rS,rE,rL,reduceCtorEq]
    try refine And.intro (by omega) ?_
    refine (hJ _ _).2 ⟨acc ++ [⟨n.id,c⟩],v60 + 1,?_,?_,?_,?_,?_,?_,?_,?_,?_,?_,?_,?_,?_,?_,?_⟩
    .exact hst.symm
    .exact by simp; omega
    all_goals first | exact cl0 | (simp -implicitDefEqProofs (disch:=omega) only [h3,h6,h31,h32,h33,hh6_0,hh9_0,ha0,ha1,ha2,ha3,ha4,ha5,lma,go_sem,↓reduceIte,rA,rS,rE,rL,reduceCtorEq] <;> first | (simp [mBox]; done) | (simp [mBox]; omega))
   ·rw [if_neg hp,<- hacc,lan] at hst
    generalize cntF d.flights n.id = c at hr hst hp
    simp -implicitDefEqProofs (disch:=omega) only [h3,h6,h31,h32,h33,hh6_0,hh9_0,ha0,ha1,ha2,ha3,ha4,ha5,hjl,hx,hr,hp,go_sem,↓reduceIte,rA,rS,rE,rL,reduceCtorEq]
    try refine And.intro (by omega) ?_
    refine (hJ _ _).2 ⟨acc,v60,?_,?_,?_,?_,?_,?_,?_,?_,?_,?_,?_,?_,?_,?_,?_⟩
    .exact hst.symm
    .omega
    all_goals first | exact cl0 | (simp -implicitDefEqProofs (disch:=omega) only [h3,h6,h31,h32,h33,hh6_0,hh9_0,ha0,ha1,ha2,ha3,ha4,ha5,lma,go_sem,↓reduceIte,rA,rS,rE,rL,reduceCtorEq] <;> first | (simp [mBox]; done) | (simp [mBox]; omega))
  ·rw [ltl (by omega)] at hacc
   have hA : flyL t d.flights = acc:=by rw [hacc]; rfl
   rw [hA]
   simp -implicitDefEqProofs (disch:=omega) only [h3,h6,h31,h32,h33,hh6_0,hh9_0,ha0,ha1,ha2,ha3,ha4,ha5,hjg,go_sem,↓reduceIte,rA,rS,rE,rL,reduceCtorEq]
set_option maxHeartbeats 2000000 in
theorem inextA_eq (t : Tr) (a : List Ch) (list : List Int) (now : Int) (hf : t.Fits) (hn : t.nodes.length < 1000000) (ha : a.length < 1000000) (hl : list.length < 1000000) : V 53 [t.vv,.p (chsP a),.p (intsP list),.p (.int .i64 now)] [] = some (.tup [.p (.int .i64 (nxtA t a now 0 list)),.p (.bool (!decide (nxtA t a now 0 list = 0)))],[]):=by
 refine V_wp (vf:=vf53) rfl ?_
 simp -implicitDefEqProofs (disch:=omega) only [vf53,vb53,go_sem,↓reduceIte,rA,rS,rE,rL,reduceCtorEq]
 obtain ⟨I,hI⟩ : ∃ I : Nat -> St -> Prop,∀ k s,I k s ↔ ∃ (best : Int),nxtA t a now 0 list = nxtA t a now best (list.drop k) /\ s.pe 1 = .p (chsP a) /\ s.pe 3 = .p (.int .i64 now) /\ s.pe 4 = .ptr (.slot 4 0) 0 0 /\ s.pe 10 = .p (.int .i64 best) /\ s.pe 15 = .p (intsP list) /\ s.pe 16 = .p (.int .i64 ↑list.length) /\ s.pe 17 = .p (.int .i64 k) /\ s.h (.slot 4 0) = some (0,Ob.box [.p (nodesP t.nodes),.p (.int .i64 t.next)]):=⟨_,fun _ _=>Iff.rfl⟩
 refine wp_count (list.length) I ?_ ?_
 ·refine (hI _ _).2 ⟨0,?_,?_,?_,?_,?_,?_,?_,?_,?_⟩
  ·exact cl3
  all_goals first | exact cl0 | (simp -implicitDefEqProofs (disch:=omega) only [lma,go_sem,↓reduceIte,rA,rS,rE,rL,reduceCtorEq] <;> first | (simp [mBox]; done) | (simp [mBox]; omega))
 intro k s hk hIk
 obtain ⟨best,hN,h1,h3,h4,h10,h15,h16,h17,hh4_0⟩:=(hI _ _).1 hIk
 clear hIk
 simp -implicitDefEqProofs (disch:=omega) only [h1,h3,h4,h10,h15,h16,h17,hh4_0,go_sem,↓reduceIte,rA,rS,rE,rL,reduceCtorEq]
 refine wp_if_d (fun hlt=>?_) (fun hge=>?_)
 ·have hm : list[k]? = some list[k]:=lgg hlt
  rw [ldg hlt,nxtA] at hN
  generalize list[k] = x at hm hN
  have d1:=may_eq t a x now hf hn ha
  have d2:=get_eq a x ha
  have d3:=get_eq a best ha
  cases hmay : mayA t a x now with
  | false =>
   rw [hmay] at d1
   rw [if_neg (by rw [hmay]; exact fun h=>absurd h.1 (by decide))] at hN
   simp -implicitDefEqProofs (disch:=omega) only [h1,h3,h4,h10,h15,h16,h17,hh4_0,hlt,hm,d1,go_sem,↓reduceIte,rA,rS,rE,rL,reduceCtorEq]
   try refine And.intro (by omega) ?_
   refine (hI _ _).2 ⟨best,?_,?_,?_,?_,?_,?_,?_,?_,?_⟩
   ·exact hN
   all_goals first | exact cl0 | (simp -implicitDefEqProofs (disch:=omega) only [h1,h3,h4,h10,h15,h16,h17,hh4_0,lma,go_sem,↓reduceIte,rA,rS,rE,rL,reduceCtorEq] <;> first | (simp [mBox]; done) | (simp [mBox]; omega))
  | true =>
   rw [hmay] at d1
   by_cases hb : best = 0 \/ ownC a x < ownC a best \/ (ownC a x = ownC a best /\ x < best)
   ·rw [if_pos ⟨hmay,hb⟩] at hN
    generalize ownC a x = p at d2 hb
    generalize ownC a best = q at d3 hb
    by_cases b1 : best = 0
    ·subst b1
     simp -implicitDefEqProofs (disch:=omega) only [h1,h3,h4,h10,h15,h16,h17,hh4_0,hlt,hm,d1,d2,d3,go_sem,↓reduceIte,rA,rS,rE,rL,reduceCtorEq]
     try refine And.intro (by omega) ?_
     refine (hI _ _).2 ⟨x,?_,?_,?_,?_,?_,?_,?_,?_,?_⟩
     ·exact hN
     all_goals first | exact cl0 | (simp -implicitDefEqProofs (disch:=omega) only [h1,h3,h4,h10,h15,h16,h17,hh4_0,lma,go_sem,↓reduceIte,rA,rS,rE,rL,reduceCtorEq] <;> first | (simp [mBox]; done) | (simp [mBox]; omega))
    ·by_cases b2 : p < q
     ·simp -implicitDefEqProofs (disch:=omega) only [h1,h3,h4,h10,h15,h16,h17,hh4_0,hlt,hm,d1,d2,d3,b1,b2,go_sem,↓reduceIte,rA,rS,rE,rL,reduceCtorEq]
      try refine And.intro (by omega) ?_
      refine (hI _ _).2 ⟨x,?_,?_,?_,?_,?_,?_,?_,?_,?_⟩
      .exact hN
      all_goals first | exact cl0 | (simp -implicitDefEqProofs (disch:=omega) only [h1,h3,h4,h10,h15,h16,h17,hh4_0,lma,go_sem,↓reduceIte,rA,rS,rE,rL,reduceCtorEq] <;> first | (simp [mBox]; done) | (simp [mBox]; omega))
     ·have b3 : p = q:=by omega
      have b4 : x < best:=by omega
      simp -implicitDefEqProofs (disch:=omega) only [h1,h3,h4,h10,h15,h16,h17,hh4_0,hlt,hm,d1,d2,d3,b1,b2,b3,b4,Int.lt_irrefl,go_sem,↓reduceIte,rA,rS,rE,rL,reduceCtorEq]
      try refine And.intro (by omega) ?_
      refine (hI _ _).2 ⟨x,?_,?_,?_,?_,?_,?_,?_,?_,?_⟩
      .exact hN
      all_goals first | exact cl0 | (simp -implicitDefEqProofs (disch:=omega) only [h1,h3,h4,h10,h15,h16,h17,hh4_0,lma,go_sem,↓reduceIte,rA,rS,rE,rL,reduceCtorEq] <;> first | (simp [mBox]; done) | (simp [mBox]; omega))
   ·rw [if_neg (fun h=>hb h.2)] at hN
    generalize ownC a x = p at d2 hb
    generalize ownC a best = q at d3 hb
    have b1 : ¬ best = 0:=by omega
    have b2 : ¬ p < q:=by omega
    by_cases b3 : p = q
    ·have b4 : ¬ x < best:=by omega
     simp -implicitDefEqProofs (disch:=omega) only [h1,h3,h4,h10,h15,h16,h17,hh4_0,hlt,hm,d1,d2,d3,b1,b3,b4,Int.lt_irrefl,go_sem,↓reduceIte,rA,rS,rE,rL,reduceCtorEq]
     try refine And.intro (by omega) ?_
     refine (hI _ _).2 ⟨best,?_,?_,?_,?_,?_,?_,?_,?_,?_⟩
     .exact hN
     all_goals first | exact cl0 | (simp -implicitDefEqProofs (disch:=omega) only [h1,h3,h4,h10,h15,h16,h17,hh4_0,lma,go_sem,↓reduceIte,rA,rS,rE,rL,reduceCtorEq] <;> first | (simp [mBox]; done) | (simp [mBox]; omega))
    ·simp -implicitDefEqProofs (disch:=omega) only [h1,h3,h4,h10,h15,h16,h17,hh4_0,hlt,hm,d1,d2,d3,b1,b2,b3,go_sem,↓reduceIte,rA,rS,rE,rL,reduceCtorEq]
     try refine And.intro (by omega) ?_
     refine (hI _ _).2 ⟨best,?_,?_,?_,?_,?_,?_,?_,?_,?_⟩
     .exact hN
     all_goals first | exact cl0 | (simp -implicitDefEqProofs (disch:=omega) only [h1,h3,h4,h10,h15,h16,h17,hh4_0,lma,go_sem,↓reduceIte,rA,rS,rE,rL,reduceCtorEq] <;> first | (simp [mBox]; done) | (simp [mBox]; omega))
 ·rw [List.drop_eq_nil_of_le (by omega),nxtA] at hN
  rw [hN]
  simp -implicitDefEqProofs (disch:=omega) only [h1,h3,h4,h10,h15,h16,h17,hh4_0,hge,go_sem,↓reduceIte,rA,rS,rE,rL,reduceCtorEq]
theorem capOf_none {l : List Cp} {id : Int} (h : ∀ c ∈ l,decide (c.group = id) = false) : capOf l id = none:=by
 induction l with
 | nil=>rfl
 | cons c l ih =>
  have:=h c (lms ..)
  rw [capOf,if_neg (by simpa using this)]
  exact ih fun x hx=>h x (lmc _ hx)
theorem capOf_at {id : Int} : ∀ {l : List Cp} {k : Nat} {m : Cp},l[k]? = some m -> decide (m.group = id) = true -> (∀ (i : Nat) (n : Cp),i < k -> l[i]? = some n -> decide (n.group = id) = false) -> capOf l id = some m
 | [],k,m,hm,_,_=>by simp at hm
 | c :: l,0,m,hm,hg,_=>by
  simp only [List.getElem?_cons_zero,osi] at hm
  subst hm
  rw [capOf,if_pos (by simpa using hg)]
 | c :: l,k + 1,m,hm,hg,ho=>by
  have h0:=ho 0 c (by omega) rfl
  rw [capOf,if_neg (by simpa using h0)]
  exact capOf_at (by simpa using hm) hg fun i n hi hn=>ho (i + 1) n (by omega) (by simpa using hn)
set_option maxHeartbeats 4000000 in
theorem passes_eq {t : Tr} {d : Dv} (h : DvOk t d) (r : Rq) (hs : d.Small) (hk : knownN t.nodes r.group = true) : V 119 [.ptr (.arg 0 0) 0 0,r.vv] (mH t d) = some (.p (.bool (passD t d r)),mH t d):=by
 refine V_wp (vf:=vf119) rfl ?_
 have hlen:=h.tree.len
 have hq:=h.len
 have j0:=flying_eq t d (by omega) (by omega)
 have j1:=lallow_eq h.tree d.depths d.flights r.group h.dp hs.p (by omega) hk
 have c1:=fanc_eq t r.group (by omega)
 have hal:=ancF_length t.nodes t.nodes.length r.group
 have hbk:=(ascB_iff.1 h.bk).1
 unfold passD
 cases hA : allowF t d.depths d.flights r.group with
 | false =>
  rw [hA] at j1
  simp -implicitDefEqProofs (disch:=omega) only [vf119,vb119,j0,j1,bfa,go_sem,↓reduceIte,rA,rS,rE,rL,reduceCtorEq]
 | true =>
  rw [hA] at j1
  rw [Bool.true_and]
  generalize ancF t.nodes t.nodes.length r.group = A at c1 hal
  simp -implicitDefEqProofs (disch:=omega) only [vf119,vb119,j0,j1,c1,go_sem,↓reduceIte,rA,rS,rE,rL,reduceCtorEq]
  obtain ⟨I,hI⟩ : ∃ I : Nat -> St -> Prop,∀ k s,I k s ↔ A.all (roomC d.buckets r) = (A.drop k).all (roomC d.buckets r) /\ s.pe 0 = .ptr (Id.arg 0 0) 0 0 /\ s.pe 3 = .ptr (.slot 3 0) 0 0 /\ s.pe 37 = .own (.slot 37 1) 0 0 A.length /\ s.pe 38 = .p (.int .i64 ↑A.length) /\ s.pe 39 = .p (.int .i64 k) /\ s.h (.slot 3 0) = some (0,Ob.box [.p (.int .i64 r.task),.p (.int .i64 r.group),.p (.int .i64 r.at_),.p (.int .i64 r.pages),.p (.bool r.write),.p (.int .i64 r.time)]) /\ s.h (.slot 37 1) = some (0,Ob.arr 1 (List.map (.int .i64) A)) /\ s.h (.arg 0 0) = some (0,mBox t d) /\ s.h (.arg 1 0) = some (0,.arr 2 (d.weights.map Ch.pv)) /\ s.h (.arg 2 0) = some (0,.arr 21 (d.buckets.map Cp.pv)) /\ s.h (.arg 3 0) = some (0,.arr 3 (d.depths.map Dp.pv)) /\ s.h (.arg 4 0) = some (0,.arr 6 (d.queue.map Rq.pv)) /\ s.h (.arg 5 0) = some (0,.arr 7 (d.flights.map Fl.pv)):=⟨_,fun _ _=>Iff.rfl⟩
  refine wp_count (A.length) I ?_ ?_
  ·refine (hI _ _).2 ⟨?_,?_,?_,?_,?_,?_,?_,?_,?_,?_,?_,?_,?_,?_⟩
   ·exact cl3
   all_goals first | exact cl0 | (simp -implicitDefEqProofs (disch:=omega) only [lma,go_sem,↓reduceIte,rA,rS,rE,rL,reduceCtorEq] <;> first | (simp [mBox]; done) | (simp [mBox]; omega))
  intro k s hk hIk
  obtain ⟨hq,h0,h3,h37,h38,h39,hh3_0,hh37_1,ha0,ha1,ha2,ha3,ha4,ha5⟩:=(hI _ _).1 hIk
  clear hIk
  simp -implicitDefEqProofs (disch:=omega) only [h0,h3,h37,h38,h39,hh3_0,hh37_1,ha0,ha1,ha2,ha3,ha4,ha5,go_sem,↓reduceIte,rA,rS,rE,rL,reduceCtorEq]
  refine wp_if_d (fun hlt=>?_) (fun hge=>?_)
  ·have hm : A[k]? = some A[k]:=lgg hlt
   rw [ldg hlt,List.all_cons] at hq
   generalize A[k] = g at hm hq
   have k0:=mcaps_eq t d g hs.b
   rcases idxP_cases (fun c : Cp=>decide (c.group = g)) d.buckets with ⟨e,hno⟩ | ⟨i,m,e,hmi,hmg,hbe⟩
   ·have hR : roomC d.buckets r g = true:=by unfold roomC; rw [capOf_none hno]
    rw [hR,bta] at hq
    rw [e] at k0
    have hd : decide ((0 : Int) <= -1) = false:=rfl
    simp -implicitDefEqProofs (disch:=omega) only [h0,h3,h37,h38,h39,hh3_0,hh37_1,ha0,ha1,ha2,ha3,ha4,ha5,hlt,hm,k0,hd,go_sem,↓reduceIte,rA,rS,rE,rL,reduceCtorEq]
    try refine And.intro (by omega) ?_
    refine (hI _ _).2 ⟨?_,?_,?_,?_,?_,?_,?_,?_,?_,?_,?_,?_,?_,?_⟩
    ·exact hq
    all_goals first | exact cl0 | (simp -implicitDefEqProofs (disch:=omega) only [h0,h3,h37,h38,h39,hh3_0,hh37_1,ha0,ha1,ha2,ha3,ha4,ha5,lma,go_sem,↓reduceIte,rA,rS,rE,rL,reduceCtorEq] <;> first | (simp [mBox]; done) | (simp [mBox]; omega))
   ·have hR : roomC d.buckets r g = (decide (r.pages <= tokB (kpB m r.write)) && decide (1 <= tokB (koB m r.write))):=by unfold roomC; rw [capOf_at hmi hmg hbe]
    rw [e] at k0
    have hil:=(lgs.1 hmi).1
    have hcb:=capsB_iff.1 (hbk m (lmg hmi)).2
    have k1:=kinds_eq (d.buckets.map Cp.pv) i r.write
    have k2 : V 181 [(kpB m r.write).vv] [] = some (.p (.int .i64 (tokB (kpB m r.write))),[]):=btok_eq _ (by unfold kpB; split; exact (soundB_iff.1 hcb.2.1).1; exact (soundB_iff.1 hcb.1).1)
    have k3 : V 181 [(koB m r.write).vv] [] = some (.p (.int .i64 (tokB (koB m r.write))),[]):=btok_eq _ (by unfold koB; split; exact (soundB_iff.1 hcb.2.2.2).1; exact (soundB_iff.1 hcb.2.2.1).1)
    cases hw : r.write with
    | false =>
     rw [hw] at k1 k2 k3 hR
     simp only [kpB,koB,bft,if_false] at k1 k2 k3 hR
     by_cases b1 : r.pages <= tokB m.rp
     ·have b1' : ¬ tokB m.rp < r.pages:=by omega
      by_cases b2 : 1 <= tokB m.ro
      ·have b2' : ¬ tokB m.ro < 1:=by omega
       rw [hR,decide_eq_true b1,decide_eq_true b2,bta,bta] at hq
       simp -implicitDefEqProofs (disch:=omega) only [h0,h3,h37,h38,h39,hh3_0,hh37_1,ha0,ha1,ha2,ha3,ha4,ha5,hlt,hm,k0,hil,hmi,hw,k1,Cp.pv,PV.cells,k2,k3,b1',b2',go_sem,↓reduceIte,rA,rS,rE,rL,reduceCtorEq]
       try refine And.intro (by omega) ?_
       refine (hI _ _).2 ⟨?_,?_,?_,?_,?_,?_,?_,?_,?_,?_,?_,?_,?_,?_⟩
       .exact hq
       all_goals first | exact cl0 | (simp -implicitDefEqProofs (disch:=omega) only [h0,h3,h37,h38,h39,hh3_0,hh37_1,ha0,ha1,ha2,ha3,ha4,ha5,lma,go_sem,↓reduceIte,rA,rS,rE,rL,reduceCtorEq] <;> first | (simp [mBox]; done) | (simp [mBox]; omega))
      ·have b2' : tokB m.ro < 1:=by omega
       rw [hR,decide_eq_true b1,decide_eq_false b2,bta,bfa] at hq
       simp -implicitDefEqProofs (disch:=omega) only [h0,h3,h37,h38,h39,hh3_0,hh37_1,ha0,ha1,ha2,ha3,ha4,ha5,hlt,hm,k0,hil,hmi,hw,k1,Cp.pv,PV.cells,k2,k3,b1',b2',hq,go_sem,↓reduceIte,rA,rS,rE,rL,reduceCtorEq]
     ·have b1' : tokB m.rp < r.pages:=by omega
      rw [hR,decide_eq_false b1,bfa,bfa] at hq
      simp -implicitDefEqProofs (disch:=omega) only [h0,h3,h37,h38,h39,hh3_0,hh37_1,ha0,ha1,ha2,ha3,ha4,ha5,hlt,hm,k0,hil,hmi,hw,k1,Cp.pv,PV.cells,k2,k3,b1',hq,go_sem,↓reduceIte,rA,rS,rE,rL,reduceCtorEq]
    | true =>
     rw [hw] at k1 k2 k3 hR
     simp only [kpB,koB,if_true] at k1 k2 k3 hR
     by_cases b1 : r.pages <= tokB m.wp
     ·have b1' : ¬ tokB m.wp < r.pages:=by omega
      by_cases b2 : 1 <= tokB m.wo
      ·have b2' : ¬ tokB m.wo < 1:=by omega
       rw [hR,decide_eq_true b1,decide_eq_true b2,bta,bta] at hq
       simp -implicitDefEqProofs (disch:=omega) only [h0,h3,h37,h38,h39,hh3_0,hh37_1,ha0,ha1,ha2,ha3,ha4,ha5,hlt,hm,k0,hil,hmi,hw,k1,Cp.pv,PV.cells,k2,k3,b1',b2',go_sem,↓reduceIte,rA,rS,rE,rL,reduceCtorEq]
       try refine And.intro (by omega) ?_
       refine (hI _ _).2 ⟨?_,?_,?_,?_,?_,?_,?_,?_,?_,?_,?_,?_,?_,?_⟩
       .exact hq
       all_goals first | exact cl0 | (simp -implicitDefEqProofs (disch:=omega) only [h0,h3,h37,h38,h39,hh3_0,hh37_1,ha0,ha1,ha2,ha3,ha4,ha5,lma,go_sem,↓reduceIte,rA,rS,rE,rL,reduceCtorEq] <;> first | (simp [mBox]; done) | (simp [mBox]; omega))
      ·have b2' : tokB m.wo < 1:=by omega
       rw [hR,decide_eq_true b1,decide_eq_false b2,bta,bfa] at hq
       simp -implicitDefEqProofs (disch:=omega) only [h0,h3,h37,h38,h39,hh3_0,hh37_1,ha0,ha1,ha2,ha3,ha4,ha5,hlt,hm,k0,hil,hmi,hw,k1,Cp.pv,PV.cells,k2,k3,b1',b2',hq,go_sem,↓reduceIte,rA,rS,rE,rL,reduceCtorEq]
     ·have b1' : tokB m.wp < r.pages:=by omega
      rw [hR,decide_eq_false b1,bfa,bfa] at hq
      simp -implicitDefEqProofs (disch:=omega) only [h0,h3,h37,h38,h39,hh3_0,hh37_1,ha0,ha1,ha2,ha3,ha4,ha5,hlt,hm,k0,hil,hmi,hw,k1,Cp.pv,PV.cells,k2,k3,b1',hq,go_sem,↓reduceIte,rA,rS,rE,rL,reduceCtorEq]
  ·rw [List.drop_eq_nil_of_le (by omega),List.all_nil] at hq
   simp -implicitDefEqProofs (disch:=omega) only [h0,h3,h37,h38,h39,hh3_0,hh37_1,ha0,ha1,ha2,ha3,ha4,ha5,hge,hq,go_sem,↓reduceIte,rA,rS,rE,rL,reduceCtorEq]
set_option maxHeartbeats 4000000 in
theorem ready_eq {t : Tr} {d : Dv} (h : DvOk t d) (hs : d.Small) : V 54 [.ptr (.arg 0 0) 0 0] (mH t d) = some (.fresh 1 ((msort (readyL t d [] d.queue)).map (.int .i64)),mH t d):=by
 refine V_wp (vf:=vf54) rfl ?_
 have hq:=h.len
 simp -implicitDefEqProofs (disch:=omega) only [vf54,vb54,go_sem,↓reduceIte,rA,rS,rE,rL,reduceCtorEq]
 obtain ⟨I,hI⟩ : ∃ I : Nat -> St -> Prop,∀ k s,I k s ↔ ∃ (acc : List Int) (w : Nat) (S : List Int) (ks : List MKey) (vs : List PV),readyL t d [] d.queue = acc ++ readyL t d S (d.queue.drop k) /\ acc.length <= k /\ Rep3 ks vs (fun x=>decide (x ∈ S)) /\ s.pe 0 = .ptr (Id.arg 0 0) 0 0 /\ s.pe 3 = .mref (.slot 7 0) 0 /\ s.pe 4 = .own (.slot 4 0) w 0 acc.length /\ s.pe 12 = VVal.own (Id.arg 4 0) 0 0 d.queue.length /\ s.pe 13 = .p (.int .i64 ↑d.queue.length) /\ s.pe 14 = .p (.int .i64 k) /\ s.h (.slot 4 0) = some (w,Ob.arr 1 (acc.map (.int .i64))) /\ s.h (.slot 7 0) = some (0,Ob.map (KT.int IntKind.i64) ks vs) /\ s.h (.arg 0 0) = some (0,mBox t d) /\ s.h (.arg 1 0) = some (0,.arr 2 (d.weights.map Ch.pv)) /\ s.h (.arg 2 0) = some (0,.arr 21 (d.buckets.map Cp.pv)) /\ s.h (.arg 3 0) = some (0,.arr 3 (d.depths.map Dp.pv)) /\ s.h (.arg 4 0) = some (0,.arr 6 (d.queue.map Rq.pv)) /\ s.h (.arg 5 0) = some (0,.arr 7 (d.flights.map Fl.pv)):=⟨_,fun _ _=>Iff.rfl⟩
 refine wp_count (d.queue.length) I ?_ ?_
 ·refine (hI _ _).2 ⟨[],0,[],[],[],?_,?_,?_,?_,?_,?_,?_,?_,?_,?_,?_,?_,?_,?_,?_,?_,?_⟩
  ·exact by simp
  ·exact cl3
  ·exact fun _=>rfl
  all_goals first | exact cl0 | (simp -implicitDefEqProofs (disch:=omega) only [lma,go_sem,↓reduceIte,rA,rS,rE,rL,reduceCtorEq] <;> first | (simp [mBox]; done) | (simp [mBox]; omega))
 intro k s hk hIk
 obtain ⟨acc,w,S,ks,vs,hr,hal,hrep,h0,h3,h4,h12,h13,h14,hh4_0,hh7_0,ha0,ha1,ha2,ha3,ha4,ha5⟩:=(hI _ _).1 hIk
 clear hIk
 simp -implicitDefEqProofs (disch:=omega) only [h0,h3,h4,h12,h13,h14,hh4_0,hh7_0,ha0,ha1,ha2,ha3,ha4,ha5,go_sem,↓reduceIte,rA,rS,rE,rL,reduceCtorEq]
 refine wp_if_d (fun hlt=>?_) (fun hge=>?_)
 ·have hm : d.queue[k]? = some d.queue[k]:=lgg hlt
  rw [ldg hlt,readyL] at hr
  have hrk:=(h.q d.queue[k] (lmg hm)).2
  generalize d.queue[k] = r at hm hr hrk
  have k0:=passes_eq h r hs hrk
  have hg:=hrep r.group
  have hnx:=(hrep.put r.group).congr (on':=fun x=>decide (x ∈ r.group :: S)) fun x=>by
   by_cases hx : x = r.group <;> simp [hx]
  by_cases hin : r.group ∈ S
  ·rw [if_pos hin,lna] at hr
   simp only [hin,decide_true,if_true] at hg
   have hg : (mget ks vs (.int r.group)).getD (.bool false) = .bool true:=by rw [hg]; rfl
   simp -implicitDefEqProofs (disch:=omega) only [h0,h3,h4,h12,h13,h14,hh4_0,hh7_0,ha0,ha1,ha2,ha3,ha4,ha5,hlt,hm,hg,go_sem,↓reduceIte,rA,rS,rE,rL,reduceCtorEq]
   try refine And.intro (by omega) ?_
   refine (hI _ _).2 ⟨acc,w,r.group :: S,(mput ks vs (.int r.group) (.bool true)).1,(mput ks vs (.int r.group) (.bool true)).2,?_,?_,?_,?_,?_,?_,?_,?_,?_,?_,?_,?_,?_,?_,?_,?_,?_⟩
   ·exact hr
   ·omega
   ·exact hnx
   all_goals first | exact cl0 | (simp -implicitDefEqProofs (disch:=omega) only [h0,h3,h4,h12,h13,h14,hh4_0,hh7_0,ha0,ha1,ha2,ha3,ha4,ha5,lma,go_sem,↓reduceIte,rA,rS,rE,rL,reduceCtorEq] <;> first | (simp [mBox]; done) | (simp [mBox]; omega))
  ·rw [if_neg hin] at hr
   simp only [hin,decide_false,bft,if_false] at hg
   have hg : (mget ks vs (.int r.group)).getD (.bool false) = .bool false:=by rw [hg]; rfl
   cases hp : passD t d r with
   | false =>
    rw [hp] at k0 hr
    simp only [bft,if_false,lna] at hr
    simp -implicitDefEqProofs (disch:=omega) only [h0,h3,h4,h12,h13,h14,hh4_0,hh7_0,ha0,ha1,ha2,ha3,ha4,ha5,hlt,hm,hg,k0,go_sem,↓reduceIte,rA,rS,rE,rL,reduceCtorEq]
    try refine And.intro (by omega) ?_
    refine (hI _ _).2 ⟨acc,w,r.group :: S,(mput ks vs (.int r.group) (.bool true)).1,(mput ks vs (.int r.group) (.bool true)).2,?_,?_,?_,?_,?_,?_,?_,?_,?_,?_,?_,?_,?_,?_,?_,?_,?_⟩
    .exact hr
    .omega
    .exact hnx
    all_goals first | exact cl0 | (simp -implicitDefEqProofs (disch:=omega) only [h0,h3,h4,h12,h13,h14,hh4_0,hh7_0,ha0,ha1,ha2,ha3,ha4,ha5,lma,go_sem,↓reduceIte,rA,rS,rE,rL,reduceCtorEq] <;> first | (simp [mBox]; done) | (simp [mBox]; omega))
   | true =>
    rw [hp] at k0 hr
    simp only [if_true] at hr
    simp -implicitDefEqProofs (disch:=omega) only [h0,h3,h4,h12,h13,h14,hh4_0,hh7_0,ha0,ha1,ha2,ha3,ha4,ha5,hlt,hm,hg,k0,go_sem,↓reduceIte,rA,rS,rE,rL,reduceCtorEq]
    try refine And.intro (by omega) ?_
    refine (hI _ _).2 ⟨acc ++ [r.group],w + 1,r.group :: S,(mput ks vs (.int r.group) (.bool true)).1,(mput ks vs (.int r.group) (.bool true)).2,?_,?_,?_,?_,?_,?_,?_,?_,?_,?_,?_,?_,?_,?_,?_,?_,?_⟩
    .exact by rw [hr,laa]
    .exact by simp; omega
    .exact hnx
    all_goals first | exact cl0 | (simp -implicitDefEqProofs (disch:=omega) only [h0,h3,h4,h12,h13,h14,hh4_0,hh7_0,ha0,ha1,ha2,ha3,ha4,ha5,lma,go_sem,↓reduceIte,rA,rS,rE,rL,reduceCtorEq] <;> first | (simp [mBox]; done) | (simp [mBox]; omega))
 ·rw [List.drop_eq_nil_of_le (by omega),readyL,lan] at hr
  rw [hr]
  have hso:=sort_eq acc (by omega)
  have hml:=msort_length acc
  have htk : (List.map (PV.int .i64) (msort acc)).take acc.length = List.map (PV.int .i64) (msort acc):=ltl (by rw [llm]; omega)
  simp -implicitDefEqProofs (disch:=omega) only [h0,h3,h4,h12,h13,h14,hh4_0,hh7_0,ha0,ha1,ha2,ha3,ha4,ha5,hge,hso,htk,go_sem,↓reduceIte,rA,rS,rE,rL,reduceCtorEq]
abbrev mBoxG (t : Tr) (d : Dv) (v : VVal) (q f : Nat) : Ob:=.box [.p (.int .i64 d.m.rb),.p (.int .i64 d.m.rp),.p (.int .i64 d.m.wb),.p (.int .i64 d.m.wp),.p (.int .i64 d.m.seek),.p (.int .i64 d.speed),.p (.int .i64 d.margin),.p (.int .i64 d.now),.p (.int .i64 d.free),.p (.int .i64 d.head),.own (.arg 1 0) 0 0 d.weights.length,.own (.arg 2 0) 0 0 d.buckets.length,.own (.arg 3 0) 0 0 d.depths.length,v,.own (.arg 4 0) q 0 d.queue.length,.own (.arg 5 0) f 0 d.flights.length,.p (nodesP t.nodes),.p (.int .i64 t.next)]
def advP (n : Int) (c : Cp) (j : Nat) : Cp:=⟨c.group,if 0 < j then advB c.rp n else c.rp,if 1 < j then advB c.wp n else c.wp,if 2 < j then advB c.ro n else c.ro,if 3 < j then advB c.wo n else c.wo⟩
theorem advP_four (n : Int) (c : Cp) : advP n c 4 = advC n c:=rfl
theorem advP_zero (n : Int) (c : Cp) : advP n c 0 = c:=rfl
theorem mid_at {α : Type} {a b : List α} {x : α} {k : Nat} (h : a.length = k) : (a ++ x :: b)[k]? = some x:=by subst h; simp
theorem mid_set {α : Type} {a b : List α} {x y : α} {k : Nat} (h : a.length = k) : (a ++ x :: b).set k y = a ++ y :: b:=by subst h; simp
theorem tw_lt {α : Type} {p : α -> Bool} : ∀ {l : List α} {k : Nat},k < (l.takeWhile p).length -> ∃ f,l[k]? = some f /\ p f = true
 | [],k,h=>by simp at h
 | x :: l,k,h=>by
  by_cases hx : p x = true
  ·rw [List.takeWhile_cons_of_pos hx] at h
   cases k with
   | zero=>exact ⟨x,rfl,hx⟩
   | succ k=>exact tw_lt (l:=l) (k:=k) (by simpa using h)
  ·rw [List.takeWhile_cons_of_neg hx] at h
   simp at h
theorem tw_end {α : Type} {p : α -> Bool} : ∀ {l : List α},(l.takeWhile p).length = l.length \/ ∃ f,l[(l.takeWhile p).length]? = some f /\ p f = false
 | []=>.inl rfl
 | x :: l=>by
  by_cases hx : p x = true
  ·rw [List.takeWhile_cons_of_pos hx]
   rcases tw_end (p:=p) (l:=l) with h | ⟨f,h1,h2⟩
   .exact .inl (by simp [h])
   .exact .inr ⟨f,by simpa using h1,h2⟩
  ·rw [List.takeWhile_cons_of_neg hx]
   exact .inr ⟨x,rfl,by simpa using hx⟩
theorem tw_take {α : Type} {p : α -> Bool} : ∀ {l : List α},l.take (l.takeWhile p).length = l.takeWhile p /\ l.drop (l.takeWhile p).length = l.dropWhile p
 | []=>⟨rfl,rfl⟩
 | x :: l=>by
  by_cases hx : p x = true
  ·rw [List.takeWhile_cons_of_pos hx,List.dropWhile_cons_of_pos hx,llc,List.take_succ_cons,List.drop_succ_cons,tw_take.1,tw_take.2]
   exact ⟨rfl,rfl⟩
  ·rw [List.takeWhile_cons_of_neg hx,List.dropWhile_cons_of_neg hx]
   exact ⟨rfl,rfl⟩
set_option maxHeartbeats 8000000 in
theorem advance_eq {t : Tr} {d : Dv} (h : DvOk t d) (hs : d.Small) (hnow : d.now < 1048576) : V 52 [.ptr (.arg 0 0) 0 0] (mH t d) = some (.fresh 7 ((endedD d).map Fl.pv),[mBoxG t (advD d) (.p (chsP d.v)) 0 1,.arr 2 (d.weights.map Ch.pv),.arr 21 ((advD d).buckets.map Cp.pv),.arr 3 (d.depths.map Dp.pv),.arr 6 (d.queue.map Rq.pv),.box [.undef,.fresh 7 ((advD d).flights.map Fl.pv)]]):=by
 refine V_wp (vf:=vf52) rfl ?_
 have hq:=h.len
 have hn:=h.now
 have hbk:=(ascB_iff.1 h.bk).1
 have hbl:=hs.b
 simp -implicitDefEqProofs (disch:=omega) only [vf52,vb52,go_sem,↓reduceIte,rA,rS,rE,rL,reduceCtorEq]
 obtain ⟨I,hI⟩ : ∃ I : Nat -> St -> Prop,∀ k s,I k s ↔ ∃ (M : List Cp),M = (d.buckets.take k).map (advC (d.now + 1)) ++ d.buckets.drop k /\ M.length = d.buckets.length /\ s.pe 0 = .ptr (Id.arg 0 0) 0 0 /\ s.pe 23 = .p (.int .i64 ↑d.buckets.length) /\ s.pe 24 = .p (.int .i64 k) /\ s.h (.arg 0 0) = some (0,Ob.box [.p (.int .i64 d.m.rb),.p (.int .i64 d.m.rp),.p (.int .i64 d.m.wb),.p (.int .i64 d.m.wp),.p (.int .i64 d.m.seek),.p (.int .i64 d.speed),.p (.int .i64 d.margin),.p (.int .i64 (d.now + 1)),.p (.int .i64 d.free),.p (.int .i64 d.head),VVal.own (Id.arg 1 0) 0 0 d.weights.length,VVal.own (Id.arg 2 0) 0 0 d.buckets.length,VVal.own (Id.arg 3 0) 0 0 d.depths.length,.p (chsP d.v),VVal.own (Id.arg 4 0) 0 0 d.queue.length,VVal.own (Id.arg 5 0) 0 0 d.flights.length,.p (nodesP t.nodes),.p (.int .i64 t.next)]) /\ s.h (.arg 1 0) = some (0,.arr 2 (d.weights.map Ch.pv)) /\ s.h (.arg 2 0) = some (0,.arr 21 (M.map Cp.pv)) /\ s.h (.arg 3 0) = some (0,.arr 3 (d.depths.map Dp.pv)) /\ s.h (.arg 4 0) = some (0,.arr 6 (d.queue.map Rq.pv)) /\ s.h (.arg 5 0) = some (0,.arr 7 (d.flights.map Fl.pv)):=⟨_,fun _ _=>Iff.rfl⟩
 refine wp_count (d.buckets.length) I ?_ ?_
 ·refine (hI _ _).2 ⟨d.buckets,?_,?_,?_,?_,?_,?_,?_,?_,?_,?_,?_⟩
  ·exact cl3
  ·exact cl3
  all_goals first | exact cl0 | (simp -implicitDefEqProofs (disch:=omega) only [lma,go_sem,↓reduceIte,rA,rS,rE,rL,reduceCtorEq] <;> first | (simp [mBox,List.map_set,Cp.pv]; done) | (simp [mBox,List.map_set,Cp.pv]; omega))
 intro k s hk hIk
 obtain ⟨M,hM,hMl,h0,h23,h24,ha0,ha1,ha2,ha3,ha4,ha5⟩:=(hI _ _).1 hIk
 clear hIk
 simp -implicitDefEqProofs (disch:=omega) only [h0,h23,h24,ha0,ha1,ha2,ha3,ha4,ha5,go_sem,↓reduceIte,rA,rS,rE,rL,reduceCtorEq]
 refine wp_if_d (fun hlt=>?_) (fun hge=>?_)
 ·have hm : d.buckets[k]? = some d.buckets[k]:=lgg hlt
  rw [ldg hlt] at hM
  have htk:=take_snoc hm
  generalize d.buckets[k] = c at hm hM htk
  have hcb:=capsB_iff.1 (hbk c (lmg hm)).2
  have hlk : ((d.buckets.take k).map (advC (d.now + 1))).length = k:=by rw [llm,llt]; omega
  simp -implicitDefEqProofs (disch:=omega) only [h0,h23,h24,ha0,ha1,ha2,ha3,ha4,ha5,hlt,hMl,go_sem,↓reduceIte,rA,rS,rE,rL,reduceCtorEq]
  obtain ⟨J,hJ⟩ : ∃ I : Nat -> St -> Prop,∀ j s,I j s ↔ ∃ (M : List Cp),M = (d.buckets.take k).map (advC (d.now + 1)) ++ advP (d.now + 1) c j :: d.buckets.drop (k + 1) /\ M.length = d.buckets.length /\ s.pe 0 = .ptr (Id.arg 0 0) 0 0 /\ s.pe 23 = .p (.int .i64 ↑d.buckets.length) /\ s.pe 24 = .p (.int .i64 ↑k) /\ s.pe 46 = .plist [VVal.eptr (Id.arg 2 0) 0 k 1,VVal.eptr (Id.arg 2 0) 0 k 6,VVal.eptr (Id.arg 2 0) 0 k 11,VVal.eptr (Id.arg 2 0) 0 k 16] /\ s.pe 47 = .p (.int .i64 ((4 : Nat) : Int)) /\ s.pe 48 = .p (.int .i64 j) /\ s.h (.arg 0 0) = some (0,Ob.box [.p (.int .i64 d.m.rb),.p (.int .i64 d.m.rp),.p (.int .i64 d.m.wb),.p (.int .i64 d.m.wp),.p (.int .i64 d.m.seek),.p (.int .i64 d.speed),.p (.int .i64 d.margin),.p (.int .i64 (d.now + 1)),.p (.int .i64 d.free),.p (.int .i64 d.head),VVal.own (Id.arg 1 0) 0 0 d.weights.length,VVal.own (Id.arg 2 0) 0 0 d.buckets.length,VVal.own (Id.arg 3 0) 0 0 d.depths.length,.p (chsP d.v),VVal.own (Id.arg 4 0) 0 0 d.queue.length,VVal.own (Id.arg 5 0) 0 0 d.flights.length,.p (nodesP t.nodes),.p (.int .i64 t.next)]) /\ s.h (.arg 1 0) = some (0,.arr 2 (d.weights.map Ch.pv)) /\ s.h (.arg 2 0) = some (0,.arr 21 (M.map Cp.pv)) /\ s.h (.arg 3 0) = some (0,.arr 3 (d.depths.map Dp.pv)) /\ s.h (.arg 4 0) = some (0,.arr 6 (d.queue.map Rq.pv)) /\ s.h (.arg 5 0) = some (0,.arr 7 (d.flights.map Fl.pv)):=⟨_,fun _ _=>Iff.rfl⟩
  refine wp_count (4) J ?_ ?_
  ·refine (hJ _ _).2 ⟨M,?_,?_,?_,?_,?_,?_,?_,?_,?_,?_,?_,?_,?_,?_⟩
   ·exact by rw [advP_zero]; exact hM
   ·exact hMl
   all_goals first | exact cl0 | (simp -implicitDefEqProofs (disch:=omega) only [h0,h23,h24,ha0,ha1,ha2,ha3,ha4,ha5,lma,go_sem,↓reduceIte,rA,rS,rE,rL,reduceCtorEq] <;> first | (simp [mBox,List.map_set,Cp.pv]; done) | (simp [mBox,List.map_set,Cp.pv]; omega))
  intro j s hj hJk
  obtain ⟨M,hN,hNl,h0,h23,h24,h46,h47,h48,ha0,ha1,ha2,ha3,ha4,ha5⟩:=(hJ _ _).1 hJk
  clear hJk
  simp -implicitDefEqProofs (disch:=omega) only [h0,h23,h24,h46,h47,h48,ha0,ha1,ha2,ha3,ha4,ha5,go_sem,↓reduceIte,rA,rS,rE,rL,reduceCtorEq]
  refine wp_if_d (fun hjl=>?_) (fun hjg=>?_)
  ·have hmid : M[k]? = some (advP (d.now + 1) c j):=by rw [hN]; exact mid_at hlk
   have hset : ∀ y,M.set k y = (d.buckets.take k).map (advC (d.now + 1)) ++ y :: d.buckets.drop (k + 1):=fun y=>by rw [hN]; exact mid_set hlk
   have hj : j = 0 \/ j = 1 \/ j = 2 \/ j = 3:=by omega
   rcases hj with hj | hj | hj | hj
   ·have hb : ([VVal.eptr (Id.arg 2 0) 0 k 1,VVal.eptr (Id.arg 2 0) 0 k 6,VVal.eptr (Id.arg 2 0) 0 k 11,VVal.eptr (Id.arg 2 0) 0 k 16] : List VVal)[j]? = some (VVal.eptr (Id.arg 2 0) 0 k 1):=by rw [hj]; rfl
    have hb2:=badv_eq c.rp (d.now + 1) (soundB_iff.1 hcb.1).1 (by have:=(soundB_iff.1 hcb.1).2.2; omega) (by omega)
    have e0 : advP (d.now + 1) c j = ⟨c.group,c.rp,c.wp,c.ro,c.wo⟩:=by rw [hj]; rfl
    rw [e0] at hmid
    simp -implicitDefEqProofs (disch:=omega) only [h0,h23,h24,h46,h47,h48,ha0,ha1,ha2,ha3,ha4,ha5,hjl,hb,hmid,Cp.pv,PV.cells,hb2,go_sem,↓reduceIte,rA,rS,rE,rL,reduceCtorEq]
    try refine And.intro (by omega) ?_
    refine (hJ _ _).2 ⟨M.set k ⟨c.group,advB c.rp (d.now + 1),c.wp,c.ro,c.wo⟩,?_,?_,?_,?_,?_,?_,?_,?_,?_,?_,?_,?_,?_,?_⟩
    .exact by rw [hset,hj]; rfl
    .exact by rw [List.length_set]; exact hNl
    all_goals first | exact cl0 | (simp -implicitDefEqProofs (disch:=omega) only [h0,h23,h24,h46,h47,h48,ha0,ha1,ha2,ha3,ha4,ha5,lma,go_sem,↓reduceIte,rA,rS,rE,rL,reduceCtorEq] <;> first | (simp [mBox,List.map_set,Cp.pv]; done) | (simp [mBox,List.map_set,Cp.pv]; omega))
   ·have hb : ([VVal.eptr (Id.arg 2 0) 0 k 1,VVal.eptr (Id.arg 2 0) 0 k 6,VVal.eptr (Id.arg 2 0) 0 k 11,VVal.eptr (Id.arg 2 0) 0 k 16] : List VVal)[j]? = some (VVal.eptr (Id.arg 2 0) 0 k 6):=by rw [hj]; rfl
    have hb2:=badv_eq c.wp (d.now + 1) (soundB_iff.1 hcb.2.1).1 (by have:=(soundB_iff.1 hcb.2.1).2.2; omega) (by omega)
    have e0 : advP (d.now + 1) c j = ⟨c.group,advB c.rp (d.now + 1),c.wp,c.ro,c.wo⟩:=by rw [hj]; rfl
    rw [e0] at hmid
    simp -implicitDefEqProofs (disch:=omega) only [h0,h23,h24,h46,h47,h48,ha0,ha1,ha2,ha3,ha4,ha5,hjl,hb,hmid,Cp.pv,PV.cells,hb2,go_sem,↓reduceIte,rA,rS,rE,rL,reduceCtorEq]
    try refine And.intro (by omega) ?_
    refine (hJ _ _).2 ⟨M.set k ⟨c.group,advB c.rp (d.now + 1),advB c.wp (d.now + 1),c.ro,c.wo⟩,?_,?_,?_,?_,?_,?_,?_,?_,?_,?_,?_,?_,?_,?_⟩
    .exact by rw [hset,hj]; rfl
    .exact by rw [List.length_set]; exact hNl
    all_goals first | exact cl0 | (simp -implicitDefEqProofs (disch:=omega) only [h0,h23,h24,h46,h47,h48,ha0,ha1,ha2,ha3,ha4,ha5,lma,go_sem,↓reduceIte,rA,rS,rE,rL,reduceCtorEq] <;> first | (simp [mBox,List.map_set,Cp.pv]; done) | (simp [mBox,List.map_set,Cp.pv]; omega))
   ·have hb : ([VVal.eptr (Id.arg 2 0) 0 k 1,VVal.eptr (Id.arg 2 0) 0 k 6,VVal.eptr (Id.arg 2 0) 0 k 11,VVal.eptr (Id.arg 2 0) 0 k 16] : List VVal)[j]? = some (VVal.eptr (Id.arg 2 0) 0 k 11):=by rw [hj]; rfl
    have hb2:=badv_eq c.ro (d.now + 1) (soundB_iff.1 hcb.2.2.1).1 (by have:=(soundB_iff.1 hcb.2.2.1).2.2; omega) (by omega)
    have e0 : advP (d.now + 1) c j = ⟨c.group,advB c.rp (d.now + 1),advB c.wp (d.now + 1),c.ro,c.wo⟩:=by rw [hj]; rfl
    rw [e0] at hmid
    simp -implicitDefEqProofs (disch:=omega) only [h0,h23,h24,h46,h47,h48,ha0,ha1,ha2,ha3,ha4,ha5,hjl,hb,hmid,Cp.pv,PV.cells,hb2,go_sem,↓reduceIte,rA,rS,rE,rL,reduceCtorEq]
    try refine And.intro (by omega) ?_
    refine (hJ _ _).2 ⟨M.set k ⟨c.group,advB c.rp (d.now + 1),advB c.wp (d.now + 1),advB c.ro (d.now + 1),c.wo⟩,?_,?_,?_,?_,?_,?_,?_,?_,?_,?_,?_,?_,?_,?_⟩
    .exact by rw [hset,hj]; rfl
    .exact by rw [List.length_set]; exact hNl
    all_goals first | exact cl0 | (simp -implicitDefEqProofs (disch:=omega) only [h0,h23,h24,h46,h47,h48,ha0,ha1,ha2,ha3,ha4,ha5,lma,go_sem,↓reduceIte,rA,rS,rE,rL,reduceCtorEq] <;> first | (simp [mBox,List.map_set,Cp.pv]; done) | (simp [mBox,List.map_set,Cp.pv]; omega))
   ·have hb : ([VVal.eptr (Id.arg 2 0) 0 k 1,VVal.eptr (Id.arg 2 0) 0 k 6,VVal.eptr (Id.arg 2 0) 0 k 11,VVal.eptr (Id.arg 2 0) 0 k 16] : List VVal)[j]? = some (VVal.eptr (Id.arg 2 0) 0 k 16):=by rw [hj]; rfl
    have hb2:=badv_eq c.wo (d.now + 1) (soundB_iff.1 hcb.2.2.2).1 (by have:=(soundB_iff.1 hcb.2.2.2).2.2; omega) (by omega)
    have e0 : advP (d.now + 1) c j = ⟨c.group,advB c.rp (d.now + 1),advB c.wp (d.now + 1),advB c.ro (d.now + 1),c.wo⟩:=by rw [hj]; rfl
    rw [e0] at hmid
    simp -implicitDefEqProofs (disch:=omega) only [h0,h23,h24,h46,h47,h48,ha0,ha1,ha2,ha3,ha4,ha5,hjl,hb,hmid,Cp.pv,PV.cells,hb2,go_sem,↓reduceIte,rA,rS,rE,rL,reduceCtorEq]
    try refine And.intro (by omega) ?_
    refine (hJ _ _).2 ⟨M.set k ⟨c.group,advB c.rp (d.now + 1),advB c.wp (d.now + 1),advB c.ro (d.now + 1),advB c.wo (d.now + 1)⟩,?_,?_,?_,?_,?_,?_,?_,?_,?_,?_,?_,?_,?_,?_⟩
    .exact by rw [hset,hj]; rfl
    .exact by rw [List.length_set]; exact hNl
    all_goals first | exact cl0 | (simp -implicitDefEqProofs (disch:=omega) only [h0,h23,h24,h46,h47,h48,ha0,ha1,ha2,ha3,ha4,ha5,lma,go_sem,↓reduceIte,rA,rS,rE,rL,reduceCtorEq] <;> first | (simp [mBox,List.map_set,Cp.pv]; done) | (simp [mBox,List.map_set,Cp.pv]; omega))
  ·rw [show j = 4 by omega,advP_four] at hN
   simp -implicitDefEqProofs (disch:=omega) only [h0,h23,h24,h46,h47,h48,ha0,ha1,ha2,ha3,ha4,ha5,hjg,go_sem,↓reduceIte,rA,rS,rE,rL,reduceCtorEq]
   try refine And.intro (by omega) ?_
   refine (hI _ _).2 ⟨M,?_,?_,?_,?_,?_,?_,?_,?_,?_,?_,?_⟩
   ·exact by rw [hN,htk,lma,laa]; rfl
   ·exact hNl
   all_goals first | exact cl0 | (simp -implicitDefEqProofs (disch:=omega) only [h0,h23,h24,ha0,ha1,ha2,ha3,ha4,ha5,lma,go_sem,↓reduceIte,rA,rS,rE,rL,reduceCtorEq] <;> first | (simp [mBox,List.map_set,Cp.pv]; done) | (simp [mBox,List.map_set,Cp.pv]; omega))
 ·rw [ltl (by omega),List.drop_eq_nil_of_le (by omega),lan] at hM
  simp -implicitDefEqProofs (disch:=omega) only [h0,h23,h24,ha0,ha1,ha2,ha3,ha4,ha5,hge,go_sem,↓reduceIte,rA,rS,rE,rL,reduceCtorEq]
  obtain ⟨p,hp⟩ : ∃ p : Fl -> Bool,p = fun f=>decide (f.done <= d.now + 1):=⟨_,rfl⟩
  have hE : endedD d = d.flights.takeWhile p:=by rw [hp]; rfl
  have hF : (advD d).flights = d.flights.dropWhile p:=by rw [hp]; rfl
  have hNle : (d.flights.takeWhile p).length <= d.flights.length:=(List.takeWhile_sublist p).length_le
  have htd:=tw_take (p:=p) (l:=d.flights)
  have hlt:=fun k=>tw_lt (p:=p) (l:=d.flights) (k:=k)
  have hen:=tw_end (p:=p) (l:=d.flights)
  generalize hN : (d.flights.takeWhile p).length = N at hNle htd hlt hen
  have r1 : (endedD d).map Fl.pv = (d.flights.take N).map Fl.pv:=by rw [hE,<- htd.1]
  have r2 : (advD d).flights.map Fl.pv = List.drop N (d.flights.map Fl.pv):=by rw [hF,<- htd.2,List.map_drop]
  have r3 : (advD d).flights.length = d.flights.length - N:=by rw [hF,<- htd.2,lld]
  have r4 : (advD d).buckets = M:=hM.symm
  have r5 : mBoxG t (advD d) (.p (chsP d.v)) 0 1 = Ob.box [.p (.int .i64 d.m.rb),.p (.int .i64 d.m.rp),.p (.int .i64 d.m.wb),.p (.int .i64 d.m.wp),.p (.int .i64 d.m.seek),.p (.int .i64 d.speed),.p (.int .i64 d.margin),.p (.int .i64 (d.now + 1)),.p (.int .i64 d.free),.p (.int .i64 d.head),VVal.own (Id.arg 1 0) 0 0 d.weights.length,VVal.own (Id.arg 2 0) 0 0 d.buckets.length,VVal.own (Id.arg 3 0) 0 0 d.depths.length,.p (chsP d.v),VVal.own (Id.arg 4 0) 0 0 d.queue.length,VVal.own (Id.arg 5 0) 1 0 (d.flights.length - N),.p (nodesP t.nodes),.p (.int .i64 t.next)]:=by
   unfold mBoxG
   rw [r3,r4,hMl]
   rfl
  rw [r1,r2,r4,r5]
  have hcl:=cloneF_x (xs:=(d.flights.take N).map Fl.pv) (by rw [llm,llt]; omega)
  have htt : (d.flights.take N).take (min N d.flights.length) = d.flights.take N:=by rw [List.take_take,show min (min N d.flights.length) N = N by omega]
  have hde:=delF_x (xs:=d.flights.map Fl.pv) (i:=0) (j:=N) (by rw [llm]; omega) (Int.le_refl _) (by omega) (by rw [llm]; omega)
  rw [llm,Int.toNat_natCast,show Int.toNat 0 = 0 from rfl,List.take_zero,lna,Nat.sub_zero] at hde
  obtain ⟨A,hA⟩ : ∃ I : Nat -> St -> Prop,∀ k s,I k s ↔ s.pe 0 = .ptr (Id.arg 0 0) 0 0 /\ s.pe 7 = .p (.int .i64 k) /\ s.h (.arg 0 0) = some (0,Ob.box [.p (.int .i64 d.m.rb),.p (.int .i64 d.m.rp),.p (.int .i64 d.m.wb),.p (.int .i64 d.m.wp),.p (.int .i64 d.m.seek),.p (.int .i64 d.speed),.p (.int .i64 d.margin),.p (.int .i64 (d.now + 1)),.p (.int .i64 d.free),.p (.int .i64 d.head),VVal.own (Id.arg 1 0) 0 0 d.weights.length,VVal.own (Id.arg 2 0) 0 0 d.buckets.length,VVal.own (Id.arg 3 0) 0 0 d.depths.length,.p (chsP d.v),VVal.own (Id.arg 4 0) 0 0 d.queue.length,VVal.own (Id.arg 5 0) 0 0 d.flights.length,.p (nodesP t.nodes),.p (.int .i64 t.next)]) /\ s.h (.arg 1 0) = some (0,.arr 2 (d.weights.map Ch.pv)) /\ s.h (.arg 2 0) = some (0,.arr 21 (M.map Cp.pv)) /\ s.h (.arg 3 0) = some (0,.arr 3 (d.depths.map Dp.pv)) /\ s.h (.arg 4 0) = some (0,.arr 6 (d.queue.map Rq.pv)) /\ s.h (.arg 5 0) = some (0,.arr 7 (d.flights.map Fl.pv)):=⟨_,fun _ _=>Iff.rfl⟩
  refine wp_count (N) A ?_ ?_
  ·refine (hA _ _).2 ⟨?_,?_,?_,?_,?_,?_,?_,?_⟩
   all_goals first | exact cl0 | (simp -implicitDefEqProofs (disch:=omega) only [h0,h23,h24,ha0,ha1,ha2,ha3,ha4,ha5,lma,go_sem,↓reduceIte,rA,rS,rE,rL,reduceCtorEq] <;> first | (simp [mBox,List.map_set,Cp.pv]; done) | (simp [mBox,List.map_set,Cp.pv]; omega))
  intro k s hk hAk
  obtain ⟨h0,h7,ha0,ha1,ha2,ha3,ha4,ha5⟩:=(hA _ _).1 hAk
  clear hAk
  by_cases hkN : k < N
  ·obtain ⟨f,hf,hpf⟩:=hlt k hkN
   rw [hp] at hpf
   have hd : f.done <= d.now + 1:=of_decide_eq_true hpf
   have hkl:=(lgs.1 hf).1
   simp -implicitDefEqProofs (disch:=omega) only [h0,h7,ha0,ha1,ha2,ha3,ha4,ha5,hkl,hf,hd,go_sem,↓reduceIte,rA,rS,rE,rL,reduceCtorEq]
   try refine And.intro (by omega) ?_
   refine (hA _ _).2 ⟨?_,?_,?_,?_,?_,?_,?_,?_⟩
   all_goals first | exact cl0 | (simp -implicitDefEqProofs (disch:=omega) only [h0,h7,ha0,ha1,ha2,ha3,ha4,ha5,lma,go_sem,↓reduceIte,rA,rS,rE,rL,reduceCtorEq] <;> first | (simp [mBox,List.map_set,Cp.pv]; done) | (simp [mBox,List.map_set,Cp.pv]; omega))
  ·have hkE : k = N:=by omega
   subst hkE
   rcases hen with e | ⟨f,hf,hpf⟩
   ·have hkl : ¬ k < d.flights.length:=by omega
    simp -implicitDefEqProofs (disch:=omega) only [h0,h7,ha0,ha1,ha2,ha3,ha4,ha5,hkl,hcl,hde,htt,Nat.sub_zero,<- List.map_take,go_sem,↓reduceIte,rA,rS,rE,rL,reduceCtorEq]
   ·rw [hp] at hpf
    have hd : ¬ f.done <= d.now + 1:=of_decide_eq_false hpf
    have hkl:=(lgs.1 hf).1
    simp -implicitDefEqProofs (disch:=omega) only [h0,h7,ha0,ha1,ha2,ha3,ha4,ha5,hkl,hf,hd,hcl,hde,htt,Nat.sub_zero,<- List.map_take,go_sem,↓reduceIte,rA,rS,rE,rL,reduceCtorEq]
abbrev mBoxS (t : Tr) (d : Dv) (n : Nat) : Ob:=.box [.p (.int .i64 d.m.rb),.p (.int .i64 d.m.rp),.p (.int .i64 d.m.wb),.p (.int .i64 d.m.wp),.p (.int .i64 d.m.seek),.p (.int .i64 d.speed),.p (.int .i64 d.margin),.p (.int .i64 d.now),.p (.int .i64 d.free),.p (.int .i64 d.head),.own (.arg 1 0) 0 0 d.weights.length,.own (.arg 2 0) 0 0 d.buckets.length,.own (.arg 3 0) 0 0 d.depths.length,.own (.arg 4 0) 0 0 n,.own (.arg 5 0) 0 0 d.queue.length,.own (.arg 6 0) 0 0 d.flights.length,.p (nodesP t.nodes),.p (.int .i64 t.next)]
abbrev mHS (t : Tr) (d : Dv) (v : List Ch) (M : List Cp) : List Ob:=[mBoxS t d v.length,.arr 2 (d.weights.map Ch.pv),.arr 21 (M.map Cp.pv),.arr 3 (d.depths.map Dp.pv),.arr 2 (v.map Ch.pv),.arr 6 (d.queue.map Rq.pv),.arr 7 (d.flights.map Fl.pv)]
theorem mcapsS_eq (t : Tr) (d : Dv) (v : List Ch) (M : List Cp) (hM : M.length = d.buckets.length) (id : Int) (hb : d.buckets.length < 1000000) : V 159 [.ptr (.arg 0 0) 0 0,.p (.int .i64 id)] (mHS t d v M) = some (.p (.int .i64 (idxP (fun c=>decide (c.group = id)) M)),mHS t d v M):=by
 refine V_wp (vf:=vf159) rfl ?_
 have i0:=idxC_eq M id (by omega)
 have htk : List.take d.buckets.length (List.map Cp.pv M) = List.map Cp.pv M:=ltl (by rw [llm]; omega)
 simp -implicitDefEqProofs (disch:=omega) only [vf159,vb159,i0,htk,go_sem,↓reduceIte,rA,rS,rE,rL,reduceCtorEq]
theorem btake_any (b : Bk) (n : Int) (h : bkOk b = true) (hn : 0 <= n /\ n <= 1073741824) : ∃ e,V 188 [b.vv,.p (.int .i64 b.now),.p (.int .i64 n)] [] = some (.tup [(takB b n).vv,.p (.int .i64 e)],[]):=by
 by_cases hle : n <= tokB b
 ·exact ⟨0,btake_eq b n h ⟨hn.1,hle⟩⟩
 ·refine ⟨11,V_wp (vf:=vf188) rfl ?_⟩
  have hw:=((bkOk_iff.1 h).2.1)
  have i0:=badv_eq b b.now h (Int.le_refl _) hw.2
  rw [adv_same h] at i0
  have i1:=btok_eq b h
  have op:=bopen_eq b
  have hlt : tokB b < n:=by omega
  have i2:=bin_eq n 0 1073741824
  rw [show inZ n 0 1073741824 = true from inZ_iff.2 hn] at i2
  have e : takB b n = b:=by
   unfold takB
   unfold tokB at hlt
   by_cases e : b.rate = maxR
   ·rw [if_pos e]
   ·rw [if_neg e] at hlt ⊢
    rw [if_pos hlt]
  rw [e]
  simp -implicitDefEqProofs (disch:=omega) only [vf188,vb188,i0,i1,i2,op,hlt,go_sem,↓reduceIte,rA,rS,rE,rL,reduceCtorEq]
theorem setC_none {id : Int} {f : Cp -> Cp} : ∀ {l : List Cp},(∀ c ∈ l,decide (c.group = id) = false) -> setC l id f = l
 | [],_=>rfl
 | c :: l,h=>by
  have:=h c (lms ..)
  rw [setC,if_neg (by simpa using this),setC_none fun x hx=>h x (lmc _ hx)]
theorem setC_at {id : Int} {f : Cp -> Cp} : ∀ {l : List Cp} {k : Nat} {m : Cp},l[k]? = some m -> decide (m.group = id) = true -> (∀ (i : Nat) (n : Cp),i < k -> l[i]? = some n -> decide (n.group = id) = false) -> setC l id f = l.set k (f m)
 | [],k,m,hm,_,_=>by simp at hm
 | c :: l,0,m,hm,hg,_=>by
  simp only [List.getElem?_cons_zero,osi] at hm
  subst hm
  rw [setC,if_pos (by simpa using hg)]
  rfl
 | c :: l,k + 1,m,hm,hg,ho=>by
  have h0:=ho 0 c (by omega) rfl
  rw [setC,if_neg (by simpa using h0),setC_at (by simpa using hm) hg fun i n hi hn=>ho (i + 1) n (by omega) (by simpa using hn)]
  rfl
set_option maxHeartbeats 8000000 in
theorem spend_eq {t : Tr} {d : Dv} (h : DvOk t d) (hs : d.Small) (v : List Ch) (r : Rq) (hr : soundR r = true) : V 127 [.ptr (.arg 0 0) 0 0,r.vv] (mHS t d v d.buckets) = some (.tup [],mHS t d v (spendD t d.buckets r)):=by
 refine V_wp (vf:=vf127) rfl ?_
 have hlen:=h.tree.len
 have c1:=fanc_eq t r.group (by omega)
 have hal:=ancF_length t.nodes t.nodes.length r.group
 have hsr:=soundR_iff.1 hr
 have hbl:=hs.b
 have hSp : spendD t d.buckets r = (ancF t.nodes t.nodes.length r.group).foldl (fun l g=>setC l g fun c=>spendC c r) d.buckets:=rfl
 rw [hSp]
 have hok:=fun gs=>spendD_ok (t:=t) (r:=r) (by omega) gs d.buckets h.bk
 generalize ancF t.nodes t.nodes.length r.group = A at c1 hal
 simp -implicitDefEqProofs (disch:=omega) only [vf127,vb127,c1,go_sem,↓reduceIte,rA,rS,rE,rL,reduceCtorEq]
 obtain ⟨I,hI⟩ : ∃ I : Nat -> St -> Prop,∀ k s,I k s ↔ ∃ (M : List Cp),M = (A.take k).foldl (fun l g=>setC l g fun c=>spendC c r) d.buckets /\ M.length = d.buckets.length /\ s.pe 0 = .ptr (Id.arg 0 0) 0 0 /\ s.pe 3 = .ptr (.slot 3 0) 0 0 /\ s.pe 15 = .own (.slot 15 1) 0 0 A.length /\ s.pe 16 = .p (.int .i64 ↑A.length) /\ s.pe 17 = .p (.int .i64 k) /\ s.h (.slot 3 0) = some (0,Ob.box [.p (.int .i64 r.task),.p (.int .i64 r.group),.p (.int .i64 r.at_),.p (.int .i64 r.pages),.p (.bool r.write),.p (.int .i64 r.time)]) /\ s.h (.slot 15 1) = some (0,Ob.arr 1 (List.map (.int .i64) A)) /\ s.h (.arg 0 0) = some (0,mBoxS t d v.length) /\ s.h (.arg 1 0) = some (0,.arr 2 (d.weights.map Ch.pv)) /\ s.h (.arg 2 0) = some (0,.arr 21 (M.map Cp.pv)) /\ s.h (.arg 3 0) = some (0,.arr 3 (d.depths.map Dp.pv)) /\ s.h (.arg 4 0) = some (0,.arr 2 (v.map Ch.pv)) /\ s.h (.arg 5 0) = some (0,.arr 6 (d.queue.map Rq.pv)) /\ s.h (.arg 6 0) = some (0,.arr 7 (d.flights.map Fl.pv)):=⟨_,fun _ _=>Iff.rfl⟩
 refine wp_count (A.length) I ?_ ?_
 ·refine (hI _ _).2 ⟨d.buckets,?_,?_,?_,?_,?_,?_,?_,?_,?_,?_,?_,?_,?_,?_,?_,?_⟩
  ·exact cl3
  ·exact cl3
  all_goals first | exact cl0 | (simp -implicitDefEqProofs (disch:=omega) only [lma,go_sem,↓reduceIte,rA,rS,rE,rL,reduceCtorEq] <;> first | (simp [mBox,List.map_set,List.set_set,Cp.pv]; done) | (simp [mBox,List.map_set,List.set_set,Cp.pv]; omega))
 intro k s hk hIk
 obtain ⟨M,hM,hMl,h0,h3,h15,h16,h17,hh3_0,hh15_1,ha0,ha1,ha2,ha3,ha4,ha5,ha6⟩:=(hI _ _).1 hIk
 clear hIk
 have hbkM:=(ascB_iff.1 (hok (A.take k))).1
 rw [<- hM] at hbkM
 simp -implicitDefEqProofs (disch:=omega) only [h0,h3,h15,h16,h17,hh3_0,hh15_1,ha0,ha1,ha2,ha3,ha4,ha5,ha6,go_sem,↓reduceIte,rA,rS,rE,rL,reduceCtorEq]
 refine wp_if_d (fun hlt=>?_) (fun hge=>?_)
 ·have hm : A[k]? = some A[k]:=lgg hlt
  have htk:=take_snoc hm
  generalize A[k] = g at hm htk
  have k0:=mcapsS_eq t d v M hMl g hbl
  rcases idxP_cases (fun c : Cp=>decide (c.group = g)) M with ⟨e,hno⟩ | ⟨i,m,e,hmi,hmg,hbe⟩
  ·have hst : setC M g (fun c=>spendC c r) = M:=setC_none hno
   rw [e] at k0
   have hd : decide ((0 : Int) <= -1) = false:=rfl
   simp -implicitDefEqProofs (disch:=omega) only [h0,h3,h15,h16,h17,hh3_0,hh15_1,ha0,ha1,ha2,ha3,ha4,ha5,ha6,hlt,hm,k0,hd,go_sem,↓reduceIte,rA,rS,rE,rL,reduceCtorEq]
   try refine And.intro (by omega) ?_
   refine (hI _ _).2 ⟨M,?_,?_,?_,?_,?_,?_,?_,?_,?_,?_,?_,?_,?_,?_,?_,?_⟩
   ·exact by rw [htk,lfa,<- hM]; exact hst.symm
   ·exact hMl
   all_goals first | exact cl0 | (simp -implicitDefEqProofs (disch:=omega) only [h0,h3,h15,h16,h17,hh3_0,hh15_1,ha0,ha1,ha2,ha3,ha4,ha5,ha6,lma,go_sem,↓reduceIte,rA,rS,rE,rL,reduceCtorEq] <;> first | (simp [mBox,List.map_set,List.set_set,Cp.pv]; done) | (simp [mBox,List.map_set,List.set_set,Cp.pv]; omega))
  ·have hst : setC M g (fun c=>spendC c r) = M.set i (spendC m r):=setC_at hmi hmg hbe
   rw [e] at k0
   have hil:=(lgs.1 hmi).1
   have hcb:=capsB_iff.1 (hbkM m (lmg hmi)).2
   have k1:=fun xs=>kinds_eq xs i r.write
   have hgs : ∀ x,((M.map Cp.pv).set i x)[i]? = some x:=fun x=>List.getElem?_set_self (by rw [llm]; exact hil)
   rw [hMl] at hil
   cases hw : r.write with
   | false =>
    rw [hw] at k1
    simp only [bft,if_false] at k1
    have hsp : spendC m r = ⟨m.group,takB m.rp r.pages,m.wp,takB m.ro 1,m.wo⟩:=by unfold spendC; rw [hw]; rfl
    rw [hsp] at hst
    obtain ⟨e1,k2⟩:=btake_any m.rp r.pages (soundB_iff.1 hcb.1).1 (by omega)
    obtain ⟨e2,k3⟩:=btake_any m.ro 1 (soundB_iff.1 hcb.2.2.1).1 (by omega)
    rw [(soundB_iff.1 hcb.1).2.2] at k2
    rw [(soundB_iff.1 hcb.2.2.1).2.2] at k3
    simp -implicitDefEqProofs (disch:=omega) only [h0,h3,h15,h16,h17,hh3_0,hh15_1,ha0,ha1,ha2,ha3,ha4,ha5,ha6,hlt,hm,k0,hil,hmi,hw,k1,Cp.pv,PV.cells,k2,k3,hgs,go_sem,↓reduceIte,rA,rS,rE,rL,reduceCtorEq]
    try refine And.intro (by omega) ?_
    refine (hI _ _).2 ⟨M.set i ⟨m.group,takB m.rp r.pages,m.wp,takB m.ro 1,m.wo⟩,?_,?_,?_,?_,?_,?_,?_,?_,?_,?_,?_,?_,?_,?_,?_,?_⟩
    .exact by rw [htk,lfa,<- hM]; exact hst.symm
    .exact by rw [List.length_set]; exact hMl
    all_goals first | exact cl0 | (simp -implicitDefEqProofs (disch:=omega) only [h0,h3,h15,h16,h17,hh3_0,hh15_1,ha0,ha1,ha2,ha3,ha4,ha5,ha6,lma,go_sem,↓reduceIte,rA,rS,rE,rL,reduceCtorEq] <;> first | (simp [mBox,List.map_set,List.set_set,Cp.pv]; done) | (simp [mBox,List.map_set,List.set_set,Cp.pv]; omega))
   | true =>
    rw [hw] at k1
    simp only [if_true] at k1
    have hsp : spendC m r = ⟨m.group,m.rp,takB m.wp r.pages,m.ro,takB m.wo 1⟩:=by unfold spendC; rw [hw]; rfl
    rw [hsp] at hst
    obtain ⟨e1,k2⟩:=btake_any m.wp r.pages (soundB_iff.1 hcb.2.1).1 (by omega)
    obtain ⟨e2,k3⟩:=btake_any m.wo 1 (soundB_iff.1 hcb.2.2.2).1 (by omega)
    rw [(soundB_iff.1 hcb.2.1).2.2] at k2
    rw [(soundB_iff.1 hcb.2.2.2).2.2] at k3
    simp -implicitDefEqProofs (disch:=omega) only [h0,h3,h15,h16,h17,hh3_0,hh15_1,ha0,ha1,ha2,ha3,ha4,ha5,ha6,hlt,hm,k0,hil,hmi,hw,k1,Cp.pv,PV.cells,k2,k3,hgs,go_sem,↓reduceIte,rA,rS,rE,rL,reduceCtorEq]
    try refine And.intro (by omega) ?_
    refine (hI _ _).2 ⟨M.set i ⟨m.group,m.rp,takB m.wp r.pages,m.ro,takB m.wo 1⟩,?_,?_,?_,?_,?_,?_,?_,?_,?_,?_,?_,?_,?_,?_,?_,?_⟩
    .exact by rw [htk,lfa,<- hM]; exact hst.symm
    .exact by rw [List.length_set]; exact hMl
    all_goals first | exact cl0 | (simp -implicitDefEqProofs (disch:=omega) only [h0,h3,h15,h16,h17,hh3_0,hh15_1,ha0,ha1,ha2,ha3,ha4,ha5,ha6,lma,go_sem,↓reduceIte,rA,rS,rE,rL,reduceCtorEq] <;> first | (simp [mBox,List.map_set,List.set_set,Cp.pv]; done) | (simp [mBox,List.map_set,List.set_set,Cp.pv]; omega))
 ·rw [ltl (by omega)] at hM
  rw [<- hM]
  simp -implicitDefEqProofs (disch:=omega) only [h0,h3,h15,h16,h17,hh3_0,hh15_1,ha0,ha1,ha2,ha3,ha4,ha5,ha6,hge,go_sem,↓reduceIte,rA,rS,rE,rL,reduceCtorEq]
theorem cost_pos {t : Tr} {d : Dv} (h : DvOk t d) {r : Rq} (hr : soundR r = true) : 1 <= costD d r /\ costD d r <= 4098000000:=by
 have:=cost_range (configOk_iff.1 h.cfg).1 hr d.head
 unfold costD
 omega
theorem busy_range {t : Tr} {d : Dv} (h : DvOk t d) : 0 <= d.now * d.speed /\ d.now * d.speed <= 1048576 * 1000000:=by
 obtain ⟨_,h1,_⟩:=configOk_iff.1 h.cfg
 exact mul_range h.now.1 h.now.2 (by omega) h1.2
theorem free_range {t : Tr} {d : Dv} (h : DvOk t d) (hb : ¬ d.now * d.speed <= d.free) {r : Rq} (hr : soundR r = true) : 1 <= freeD d r /\ freeD d r <= 1052674000000 /\ d.free < freeD d r:=by
 have h1:=cost_pos h hr
 have h2:=busy_range h
 obtain ⟨_,h3,_⟩:=configOk_iff.1 h.cfg
 have h4:=h.free
 have h5 : (d.now - 1) * d.speed = d.now * d.speed - d.speed:=by rw [Int.sub_mul,Int.one_mul]
 unfold freeD
 rw [h5]
 omega
theorem done_range {t : Tr} {d : Dv} (h : DvOk t d) (hb : ¬ d.now * d.speed <= d.free) {r : Rq} (hr : soundR r = true) : d.now + 1 <= doneD d r /\ doneD d r <= 1125899906842624:=by
 obtain ⟨h1,h2,_⟩:=free_range h hb hr
 obtain ⟨_,h3,_⟩:=configOk_iff.1 h.cfg
 have h4:=h.now
 have h5 : (freeD d r + d.speed - 1) / d.speed <= freeD d r + d.speed - 1:=Int.ediv_le_self _ (by omega)
 unfold doneD
 omega
theorem beginD_ok {t : Tr} {d : Dv} (h : DvOk t d) (hb : ¬ d.now * d.speed <= d.free) {g : Int} {r : Rq} (hq : firstQ d.queue g = some r) {v : List Ch} (hv : AscOk (knownN t.nodes) 0 1152921504606846976 v) : DvOk t (beginD t d g r v):=by
 obtain ⟨hm,hg⟩:=firstQ_mem hq
 obtain ⟨hs,hk⟩:=h.q r hm
 have hs':=soundR_iff.1 hs
 have hf:=free_range h hb hs
 have hd:=done_range h hb hs
 have hfl:=flOk_iff.1 h.fl
 have hn:=h.now
 refine ⟨h.tree,h.cfg,h.now,?_,?_,h.w,h.dp,hv,?_,spendD_ok (t:=t) (by omega) _ _ h.bk,fun x hx=>h.q x ((remQ_sub g d.queue).subset hx),flOk_iff.2 ⟨fun x hx=>?_,insF_sorted _ hfl.2.1,fun q hq=>by cases hq⟩⟩
 ·show 0 <= freeD d r /\ freeD d r <= _; omega
 ·show 0 <= r.at_ + r.pages /\ r.at_ + r.pages <= _; omega
 ·have h1:=remQ_len hq
  have h2:=h.len
  show (remQ d.queue g).length + (insF d.flights _).length <= 256
  rw [insF_len]
  omega
 ·rcases insF_mem.1 hx with rfl | hx
  .exact ⟨⟨hs,hk⟩,by simp only; omega,hd.2⟩
  .exact hfl.1 x hx
structure StepD (t : Tr) (d : Dv) (g : Int) (r : Rq) (v : List Ch) : Prop where
 busy : ¬ d.now * d.speed <= d.free
 next : g = nxtA t d.v (d.now * d.speed) 0 (msort (readyL t d [] d.queue))
 pos : g ≠ 0
 first : firstQ d.queue g = some r
 issue : IssueA t d.v g (shareD t d g) (costD d r) (d.now * d.speed) d.margin = (v,0)
def EndD (t : Tr) (d : Dv) : Prop:=d.now * d.speed <= d.free \/ nxtA t d.v (d.now * d.speed) 0 (msort (readyL t d [] d.queue)) = 0 \/
 firstQ d.queue (nxtA t d.v (d.now * d.speed) 0 (msort (readyL t d [] d.queue))) = none \/
 ∃ r,firstQ d.queue (nxtA t d.v (d.now * d.speed) 0 (msort (readyL t d [] d.queue))) = some r /\ (IssueA t d.v (nxtA t d.v (d.now * d.speed) 0 (msort (readyL t d [] d.queue))) (shareD t d (nxtA t d.v (d.now * d.speed) 0 (msort (readyL t d [] d.queue)))) (costD d r) (d.now * d.speed) d.margin).2 ≠ 0
theorem loopD_succ (t : Tr) (k : Nat) (d : Dv) : (EndD t d /\ loopD t (k + 1) d = d) \/ ∃ g r v,StepD t d g r v /\ loopD t (k + 1) d = loopD t k (beginD t d g r v):=by
 unfold EndD
 rw [loopD]
 by_cases h1 : d.now * d.speed <= d.free
 ·rw [if_pos h1]; exact .inl ⟨.inl h1,rfl⟩
 rw [if_neg h1]
 simp only
 generalize hg : nxtA t d.v (d.now * d.speed) 0 (msort (readyL t d [] d.queue)) = g
 by_cases h2 : g = 0
 ·rw [if_pos h2]; exact .inl ⟨.inr (.inl h2),rfl⟩
 rw [if_neg h2]
 cases h3 : firstQ d.queue g with
 | none=>exact .inl ⟨.inr (.inr (.inl rfl)),rfl⟩
 | some r =>
  simp only
  generalize hi : IssueA t d.v g (shareD t d g) (costD d r) (d.now * d.speed) d.margin = i
  obtain ⟨v,e⟩:=i
  by_cases h4 : e = 0
  ·subst h4
   rw [if_neg (fun h=>h rfl)]
   exact .inr ⟨g,r,v,⟨h1,hg.symm,h2,h3,hi⟩,rfl⟩
  ·rw [if_pos h4]
   exact .inl ⟨.inr (.inr (.inr ⟨r,rfl,by rw [hi]; exact h4⟩)),rfl⟩
theorem loopD_ind {t : Tr} {P : Dv -> Prop} (hs : ∀ d g r v,P d -> StepD t d g r v -> P (beginD t d g r v)) : ∀ (k : Nat) (d : Dv),P d -> P (loopD t k d)
 | 0,d,h=>h
 | k + 1,d,h=>by
  rcases loopD_succ t k d with ⟨_,e⟩ | ⟨g,r,v,st,e⟩
  .rw [e]; exact h
  .rw [e]; exact loopD_ind hs k _ (hs d g r v h st)
theorem loopD_end (t : Tr) : ∀ (k : Nat) (d : Dv),d.queue.length < k -> EndD t (loopD t k d)
 | 0,d,h=>by omega
 | k + 1,d,h=>by
  rcases loopD_succ t k d with ⟨he,e⟩ | ⟨g,r,v,st,e⟩
  ·rw [e]; exact he
  ·rw [e]
   refine loopD_end t k _ ?_
   have:=remQ_len st.first
   show (remQ d.queue g).length < k
   omega
theorem step_ok {t : Tr} {d : Dv} {g : Int} {r : Rq} {v : List Ch} (h : DvOk t d) (st : StepD t d g r v) : DvOk t (beginD t d g r v):=by
 refine beginD_ok h st.busy st.first ?_
 have:=IssueA_asc (t:=t) (a:=d.v) (id:=g) (share:=shareD t d g) (cost:=costD d r) (now:=d.now * d.speed) (margin:=d.margin) (by rw [st.issue])
 rw [st.issue] at this
 exact this
theorem loopD_ok {t : Tr} (k : Nat) {d : Dv} (h : DvOk t d) : DvOk t (loopD t k d):=loopD_ind (P:=DvOk t) (fun _ _ _ _ h st=>step_ok h st) k d h
theorem tickD_ok {t : Tr} {d : Dv} (h : DvOk t d) (hn : d.now < 1048576) : DvOk t (tickD t d):=loopD_ok _ (advD_ok h hn)
theorem tickD_keeps (t : Tr) (d : Dv) : (tickD t d).now = d.now + 1 /\ (tickD t d).speed = d.speed /\ (tickD t d).m = d.m /\ (tickD t d).margin = d.margin /\ (tickD t d).weights = d.weights /\ (tickD t d).depths = d.depths :=
 loopD_ind (P:=fun x=>x.now = d.now + 1 /\ x.speed = d.speed /\ x.m = d.m /\ x.margin = d.margin /\ x.weights = d.weights /\ x.depths = d.depths) (fun _ _ _ _ h _=>h) _ _ ⟨rfl,rfl,rfl,rfl,rfl,rfl⟩
theorem span_len {α : Type} (p : α -> Bool) (l : List α) : (l.takeWhile p).length + (l.dropWhile p).length = l.length:=by
 rw [<- lla,List.takeWhile_append_dropWhile]
theorem tickD_count (t : Tr) (d : Dv) : (tickD t d).queue.length + (tickD t d).flights.length + (endedD d).length = d.queue.length + d.flights.length:=by
 have h:=loopD_ind (t:=t) (P:=fun x=>x.queue.length + x.flights.length = (advD d).queue.length + (advD d).flights.length) (fun x g r v h st=>by
  have:=remQ_len st.first
  show (remQ x.queue g).length + (insF x.flights _).length = _
  rw [insF_len]
  omega) (d.queue.length + 1) (advD d) rfl
 have h2:=span_len (fun f : Fl=>decide (f.done <= d.now + 1)) d.flights
 have h3 : (advD d).flights = d.flights.dropWhile (fun f=>decide (f.done <= d.now + 1)):=rfl
 have h4 : (advD d).queue = d.queue:=rfl
 rw [h3,h4] at h
 show (loopD t (d.queue.length + 1) (advD d)).queue.length + (loopD t (d.queue.length + 1) (advD d)).flights.length + (d.flights.takeWhile _).length = _
 omega
theorem tickD_end (t : Tr) (d : Dv) : EndD t (tickD t d):=loopD_end t _ _ (Nat.lt_succ_self _)
theorem mem_readyL {t : Tr} {d : Dv} {x : Int} : ∀ {q : List Rq} {seen : List Int},x ∈ readyL t d seen q ↔ x ∉ seen /\ ∃ r,firstQ q x = some r /\ passD t d r = true
 | [], seen=>by simp [readyL, firstQ]
 | r :: q,seen=>by
  rw [readyL,lmp,mem_readyL (q:=q)]
  rw [show firstQ (r :: q) x = if r.group = x then some r else firstQ q x from rfl]
  by_cases hx : r.group = x
  ·subst hx
   simp only [if_true,lmk,true_or,not_true_eq_false,false_and,or_false,osi,exists_eq_left']
   by_cases hs : r.group ∈ seen
   ·simp [hs]
   ·by_cases hp : passD t d r = true <;> simp [hs,hp]
  ·have hx' : ¬ x = r.group:=fun e=>hx e.symm
   simp only [if_neg hx,lmk,hx',false_or]
   constructor
   ·rintro (h | h)
    ·exfalso
     split at h
     ·cases h
     ·split at h
      .rw [List.mem_singleton] at h; exact hx' h
      .cases h
    .exact h
   .exact fun h=>.inr h
theorem readyL_len (t : Tr) (d : Dv) : ∀ (q : List Rq) (seen : List Int),(readyL t d seen q).length <= q.length
 | [],seen=>lrf _
 | r :: q,seen=>by
  have:=readyL_len t d q (r.group :: seen)
  rw [readyL,lla,llc]
  split
  .simp; omega
  .split <;> simp <;> omega
theorem nxt_inv {t : Tr} {a : List Ch} {now : Int} : ∀ (l pre : List Int) (best : Int),NInv t a now pre best -> NInv t a now (pre ++ l) (nxtA t a now best l)
 | [],pre,best,h=>by rw [lan]; exact h
 | x :: l,pre,best,h=>by
  rw [nxtA,show pre ++ x :: l = (pre ++ [x]) ++ l by simp]
  refine nxt_inv l _ _ ?_
  by_cases hm : mayA t a x now = true
  ·by_cases hb : best = 0 \/ ownC a x < ownC a best \/ (ownC a x = ownC a best /\ x < best)
   ·rw [if_pos ⟨hm,hb⟩]
    exact h.take hm (may_pos hm) hb
   ·rw [if_neg (fun h=>hb h.2)]
    exact h.keep hb
  ·rw [if_neg (fun h=>hm h.1)]
   exact h.skip (by simpa using hm)
theorem nxt_inv0 (t : Tr) (a : List Ch) (now : Int) (l : List Int) : NInv t a now l (nxtA t a now 0 l):=by
 have:=nxt_inv l [] 0 (t:=t) (a:=a) (now:=now) (Or.inl ⟨rfl,fun x hx=>by cases hx⟩)
 rwa [lna] at this
theorem nxt_zero {t : Tr} {a : List Ch} {now : Int} {l : List Int} (h : nxtA t a now 0 l = 0) : ∀ x ∈ l,mayA t a x now = false:=by
 rcases nxt_inv0 t a now l with ⟨_,h2⟩ | ⟨h1,_⟩
 .exact h2
 .exact absurd h h1
theorem nxt_mem {t : Tr} {a : List Ch} {now : Int} {l : List Int} (h : nxtA t a now 0 l ≠ 0) : nxtA t a now 0 l ∈ l /\ mayA t a (nxtA t a now 0 l) now = true:=by
 rcases nxt_inv0 t a now l with ⟨h1,_⟩ | ⟨_,h2,h3,_⟩
 .exact absurd h1 h
 .exact ⟨h2,h3⟩
theorem mem_msort {l : List Int} {x : Int} : x ∈ msort l ↔ x ∈ l:=(List.mergeSort_perm _ _).mem_iff
theorem next_first {t : Tr} {d : Dv} (h : nxtA t d.v (d.now * d.speed) 0 (msort (readyL t d [] d.queue)) ≠ 0) : ∃ r,firstQ d.queue (nxtA t d.v (d.now * d.speed) 0 (msort (readyL t d [] d.queue))) = some r /\ passD t d r = true:=by
 have:=(mem_readyL.1 (mem_msort.1 (nxt_mem h).1)).2
 exact this
theorem firstQ_idx {g : Int} {l : List Rq} {r : Rq} (h : firstQ l g = some r) : ∃ i : Nat,idxP (fun c : Rq=>decide (c.group = g)) l = i /\ l[i]? = some r /\ remQ l g = l.take i ++ l.drop (i + 1):=by
 have key : ∀ (l : List Rq),firstQ l g = some r -> ∃ i : Nat,l[i]? = some r /\ r.group = g /\ (∀ (j : Nat) (n : Rq),j < i -> l[j]? = some n -> decide (n.group = g) = false) /\ remQ l g = l.take i ++ l.drop (i + 1):=by
  intro l
  induction l with
  | nil=>intro h; cases h
  | cons x l ih =>
   intro h
   unfold firstQ at h
   by_cases hx : x.group = g
   ·rw [if_pos hx] at h
    cases h
    exact ⟨0,rfl,hx,by omega,by simp [remQ,hx]⟩
   ·rw [if_neg hx] at h
    obtain ⟨i,h1,h2,h3,h4⟩:=ih h
    refine ⟨i + 1,by simpa using h1,h2,fun j n hj hn=>?_,by simp [remQ,hx,h4]⟩
    cases j with
    | zero=>simp at hn; subst hn; simpa using hx
    | succ j=>exact h3 j n (by omega) (by simpa using hn)
 obtain ⟨i,h1,h2,h3,h4⟩:=key l h
 exact ⟨i,idxP_at h1 h3 (by simpa using h2),h1,h4⟩
theorem sorted_end {l : List Fl} (hs : l.Pairwise fun a b=>a.done <= b.done) (x : Int) : ∀ (j : Nat) (f : Fl),(l.takeWhile fun f=>decide (f.done <= x)).length <= j -> l[j]? = some f -> x < f.done:=by
 induction l with
 | nil=>intro j f _ hf; simp at hf
 | cons a l ih =>
  rw [lpw] at hs
  intro j f hj hf
  by_cases ha : a.done <= x
  ·rw [List.takeWhile_cons_of_pos (by simpa using ha),llc] at hj
   cases j with
   | zero=>omega
   | succ j=>exact ih hs.2 j f (by omega) (by simpa using hf)
  ·cases j with
   | zero=>simp at hf; subst hf; omega
   | succ j =>
    have:=hs.1 f (lmg (by simpa using hf))
    omega
theorem setC_len (f : Cp -> Cp) (id : Int) : ∀ l : List Cp,(setC l id f).length = l.length
 | []=>rfl
 | c :: l=>by
  unfold setC
  split
  .rfl
  .simp [setC_len f id l]
theorem spendD_len (t : Tr) (l : List Cp) (r : Rq) : (spendD t l r).length = l.length:=by
 unfold spendD
 generalize ancF t.nodes t.nodes.length r.group = A
 induction A generalizing l with
 | nil=>rfl
 | cons g A ih=>rw [List.foldl_cons,ih,setC_len]
set_option maxHeartbeats 8000000 in
theorem begin_eq {t : Tr} {d : Dv} (h : DvOk t d) (hs : d.Small) (hb : ¬ d.now * d.speed <= d.free) {g : Int} {r : Rq} (hq : firstQ d.queue g = some r) {v : List Ch} {e : Int} (hi : IssueA t d.v g (shareD t d g) (costD d r) (d.now * d.speed) d.margin = (v,e)) :
  V 55 [.ptr (.arg 0 0) 0 0,.p (.int .i64 g)] (mH t d) = some (if e = 0 then (.p (.bool true),[mBoxG t (beginD t d g r v) (.fresh 2 (v.map Ch.pv)) 1 1,.arr 2 (d.weights.map Ch.pv),.arr 21 ((spendD t d.buckets r).map Cp.pv),.arr 3 (d.depths.map Dp.pv),.box [.undef,.fresh 6 ((remQ d.queue g).map Rq.pv)],.box [.undef,.fresh 7 ((insF d.flights ⟨r,doneD d r⟩).map Fl.pv)]]) else (.p (.bool false),mH t d)):=by
 refine V_wp (vf:=vf55) rfl ?_
 have hlen:=h.tree.len
 have hql:=h.len
 obtain ⟨hs1,hs2,hs3,hs4,hs5,hs6⟩:=id hs
 obtain ⟨hmem,hgr⟩:=firstQ_mem hq
 obtain ⟨hsr,hkn⟩:=h.q r hmem
 rw [hgr] at hkn
 obtain ⟨n,hn,hid⟩:=findN_some hkn
 obtain ⟨ni,hni⟩:=lgm hn
 obtain ⟨hmd,hsp,hmg⟩:=configOk_iff.1 h.cfg
 have i0:=idxQ_eq d.queue g hs5
 obtain ⟨i,hix,hir,hrem⟩:=firstQ_idx hq
 rw [hix] at i0
 have hil:=(lgs.1 hir).1
 have i1:=cost_eq d.m r d.head hmd hsr h.head
 have i2:=active_eq t d hs5 hs6
 have hact : (actL d).length < 1000000:=by
  unfold actL
  rw [lla,llm,llm]
  omega
 have i3:=share_at h.tree h.w (actL d) hact hni
 rw [hid] at i3
 have hsh : shr t (wtOf d.weights) (onB t (actL d)) g = shareD t d g:=rfl
 rw [hsh] at i3
 have i4:=issue_eq t d.v g (shareD t d g) (costD d r) (d.now * d.speed) d.margin h.tree.fits (by omega) hs4
 rw [hi] at i4
 simp only at i4
 have hco:=cost_pos h hsr
 have hcd : max (costR d.m r d.head) 1 = costD d r:=rfl
 have hbr:=busy_range h
 generalize shareD t d g = share at i3 i4 hi
 by_cases he : e = 0
 ·rw [if_pos he]
  subst he
  have i5:=spend_eq h hs v r hsr
  have hM:=spendD_len t d.buckets r
  have i6 : V 128 [.own (.arg 0 0) 0 0 d.queue.length,.p (.int .i64 i),.p (.int .i64 ((i : Int) + 1))] [.arr 6 (d.queue.map Rq.pv)] = some (.own (.arg 0 0) 1 0 (remQ d.queue g).length,[.box [.undef,.fresh 6 ((remQ d.queue g).map Rq.pv)]]):=by
   have:=delQ_x (xs:=d.queue.map Rq.pv) (i:=i) (j:=(i : Int) + 1) (by rw [llm]; omega) (by omega) (by omega) (by rw [llm]; omega)
   rw [llm,Int.toNat_natCast,show ((i : Int) + 1).toNat = i + 1 by omega,show d.queue.length - (i + 1 - i) = (remQ d.queue g).length by have:=remQ_len hq; omega] at this
   rw [this,hrem,lma,List.map_take,List.map_drop]
  have hrl:=remQ_len hq
  have hfr:=free_range h hb hsr
  have hdn:=done_range h hb hsr
  have hsr':=soundR_iff.1 hsr
  have hnw:=h.now
  have hn1 : (d.now - 1) * d.speed = d.now * d.speed - d.speed:=by rw [Int.sub_mul,Int.one_mul]
  have hf0:=h.free
  have hfd : max d.free ((d.now - 1) * d.speed) + costD d r = freeD d r:=rfl
  have hdd : max (d.now + 1) ((freeD d r + d.speed - 1) / d.speed) = doneD d r:=rfl
  have hqu : (freeD d r + d.speed - 1).tdiv d.speed = (freeD d r + d.speed - 1) / d.speed:=Int.tdiv_eq_ediv_of_nonneg (by omega)
  have hq0 : 0 <= (freeD d r + d.speed - 1) / d.speed:=Int.ediv_nonneg (by omega) (by omega)
  have hq1 : (freeD d r + d.speed - 1) / d.speed <= freeD d r + d.speed - 1:=Int.ediv_le_self _ (by omega)
  have hsp0 : ¬ d.speed = 0:=by omega
  simp -implicitDefEqProofs (disch:=omega) only [vf55,vb55,i0,hil,hir,i1,i2,i3,hcd,i4,i5,i6,hfd,hqu,hsp0,hdd,go_sem,↓reduceIte,rA,rS,rE,rL,reduceCtorEq]
  have hso:=(flOk_iff.1 h.fl).2.1
  have hse:=sorted_end hso (doneD d r)
  have htl:=fun k=>tw_lt (p:=fun f : Fl=>decide (f.done <= doneD d r)) (l:=d.flights) (k:=k)
  have hNl : (d.flights.takeWhile fun f=>decide (f.done <= doneD d r)).length <= d.flights.length:=(List.takeWhile_sublist _).length_le
  have htd:=tw_take (p:=fun f : Fl=>decide (f.done <= doneD d r)) (l:=d.flights)
  have hin : insF d.flights ⟨r,doneD d r⟩ = d.flights.take (d.flights.takeWhile fun f=>decide (f.done <= doneD d r)).length ++ ⟨r,doneD d r⟩ :: d.flights.drop (d.flights.takeWhile fun f=>decide (f.done <= doneD d r)).length:=by rw [htd.1,htd.2]; rfl
  generalize hN : (d.flights.takeWhile fun f=>decide (f.done <= doneD d r)).length = N at hse htl hNl hin
  have r5 : mBoxG t (beginD t d g r v) (.fresh 2 (v.map Ch.pv)) 1 1 = Ob.box [.p (.int .i64 d.m.rb),.p (.int .i64 d.m.rp),.p (.int .i64 d.m.wb),.p (.int .i64 d.m.wp),.p (.int .i64 d.m.seek),.p (.int .i64 d.speed),.p (.int .i64 d.margin),.p (.int .i64 d.now),.p (.int .i64 (freeD d r)),.p (.int .i64 (r.at_ + r.pages)),VVal.own (Id.arg 1 0) 0 0 d.weights.length,VVal.own (Id.arg 2 0) 0 0 d.buckets.length,VVal.own (Id.arg 3 0) 0 0 d.depths.length,.fresh 2 (v.map Ch.pv),VVal.own (Id.arg 4 0) 1 0 (remQ d.queue g).length,VVal.own (Id.arg 5 0) 1 0 (d.flights.length + 1),.p (nodesP t.nodes),.p (.int .i64 t.next)]:=by
   unfold mBoxG
   simp only [beginD,insF_len,hM]
  rw [r5,hin]
  have i7:=fun (m : Nat) (hm : m <= d.flights.length)=>insF_x (xs:=d.flights.map Fl.pv) (x:=Fl.pv ⟨r,doneD d r⟩) (i:=m) (by rw [llm]; omega) (by omega) (by rw [llm]; omega)
  simp only [llm,Int.toNat_natCast] at i7
  simp only [Fl.pv] at i7
  obtain ⟨A,hA⟩ : ∃ I : Nat -> St -> Prop,∀ k s,I k s ↔ ∃ (m : Nat),m + k = d.flights.length /\ s.pe 0 = .ptr (Id.arg 0 0) 0 0 /\ s.pe 6 = .ptr (.slot 6 0) 0 0 /\ s.pe 13 = .p (.int .i64 (doneD d r)) /\ s.pe 14 = .p (.int .i64 (m : Int)) /\ s.h (.arg 0 0) = some (0,Ob.box [.p (.int .i64 d.m.rb),.p (.int .i64 d.m.rp),.p (.int .i64 d.m.wb),.p (.int .i64 d.m.wp),.p (.int .i64 d.m.seek),.p (.int .i64 d.speed),.p (.int .i64 d.margin),.p (.int .i64 d.now),.p (.int .i64 (freeD d r)),.p (.int .i64 (r.at_ + r.pages)),VVal.own (Id.arg 1 0) 0 0 d.weights.length,VVal.own (Id.arg 2 0) 0 0 d.buckets.length,VVal.own (Id.arg 3 0) 0 0 d.depths.length,.own (.slot 95 1) 0 0 v.length,VVal.own (Id.arg 4 0) 1 0 (remQ d.queue g).length,VVal.own (Id.arg 5 0) 0 0 d.flights.length,.p (nodesP t.nodes),.p (.int .i64 t.next)]) /\ s.h (.arg 1 0) = some (0,Ob.arr 2 (List.map Ch.pv d.weights)) /\ s.h (.arg 2 0) = some (0,Ob.arr 21 (List.map Cp.pv (spendD t d.buckets r))) /\ s.h (.arg 3 0) = some (0,Ob.arr 3 (List.map Dp.pv d.depths)) /\ s.h (.arg 4 0) = some (1,Ob.arr 6 (List.map Rq.pv (remQ d.queue g))) /\ s.h (.arg 5 0) = some (0,Ob.arr 7 (List.map Fl.pv d.flights)) /\ s.h (.slot 6 0) = some (0,Ob.box [.p (.int .i64 r.task),.p (.int .i64 r.group),.p (.int .i64 r.at_),.p (.int .i64 r.pages),.p (.bool r.write),.p (.int .i64 r.time)]) /\ s.h (.slot 95 1) = some (0,Ob.arr 2 (List.map Ch.pv v)):=⟨_,fun _ _=>Iff.rfl⟩
  refine wp_count ((d.flights.length - N)) A ?_ ?_
  ·refine (hA _ _).2 ⟨d.flights.length,?_,?_,?_,?_,?_,?_,?_,?_,?_,?_,?_,?_,?_⟩
   ·exact cl3
   all_goals first | exact cl0 | (simp -implicitDefEqProofs (disch:=omega) only [lma,go_sem,↓reduceIte,rA,rS,rE,rL,reduceCtorEq] <;> first | (simp [mBox]; done) | (simp [mBox]; omega))
  intro k s hk hAk
  obtain ⟨m,hmk,h0,h6,h13,h14,ha0,ha1,ha2,ha3,ha4,ha5,hh6_0,hh95_1⟩:=(hA _ _).1 hAk
  clear hAk
  by_cases hkN : k < d.flights.length - N
  ·have hfm : d.flights[m - 1]? = some d.flights[m - 1]:=lgg (by omega)
   have hd:=hse (m - 1) _ (by omega) hfm
   generalize d.flights[m - 1] = f at hfm hd
   have hm0 : (0 : Int) < m:=by omega
   have hm1 : (0 : Int) <= (m : Int) - 1:=by omega
   have hm2 : ((m : Int) - 1).toNat = m - 1:=by omega
   have hm3 : m - 1 < d.flights.length:=by omega
   simp -implicitDefEqProofs (disch:=omega) only [h0,h6,h13,h14,ha0,ha1,ha2,ha3,ha4,ha5,hh6_0,hh95_1,hm0,hm1,hm2,hm3,hfm,hd,go_sem,↓reduceIte,rA,rS,rE,rL,reduceCtorEq]
   try refine And.intro (by omega) ?_
   refine (hA _ _).2 ⟨m - 1,?_,?_,?_,?_,?_,?_,?_,?_,?_,?_,?_,?_,?_⟩
   ·omega
   all_goals first | exact cl0 | (simp -implicitDefEqProofs (disch:=omega) only [h0,h6,h13,h14,ha0,ha1,ha2,ha3,ha4,ha5,hh6_0,hh95_1,lma,go_sem,↓reduceIte,rA,rS,rE,rL,reduceCtorEq] <;> first | (simp [mBox]; done) | (simp [mBox]; omega))
  ·have hmN : m = N:=by omega
   subst hmN
   by_cases hm00 : m = 0
   ·have hm0 : ¬ (0 : Int) < m:=by omega
    simp -implicitDefEqProofs (disch:=omega) only [h0,h6,h13,h14,ha0,ha1,ha2,ha3,ha4,ha5,hh6_0,hh95_1,hm0,i7,lma,lpc,List.map_take,List.map_drop,go_sem,↓reduceIte,rA,rS,rE,rL,reduceCtorEq]
   ·obtain ⟨f,hfm,hpf⟩:=htl (m - 1) (by omega)
    have hd : ¬ doneD d r < f.done:=by have:=of_decide_eq_true hpf; omega
    have hm0 : (0 : Int) < m:=by omega
    have hm1 : (0 : Int) <= (m : Int) - 1:=by omega
    have hm2 : ((m : Int) - 1).toNat = m - 1:=by omega
    have hm3 : m - 1 < d.flights.length:=by omega
    simp -implicitDefEqProofs (disch:=omega) only [h0,h6,h13,h14,ha0,ha1,ha2,ha3,ha4,ha5,hh6_0,hh95_1,hm0,hm1,hm2,hm3,hfm,hd,i7,lma,lpc,List.map_take,List.map_drop,go_sem,↓reduceIte,rA,rS,rE,rL,reduceCtorEq]
 ·rw [if_neg he]
  simp -implicitDefEqProofs (disch:=omega) only [vf55,vb55,i0,hil,hir,i1,i2,i3,hcd,i4,he,go_sem,↓reduceIte,rA,rS,rE,rL,reduceCtorEq]
abbrev dvF (d : Dv) (v : VVal) : VVal:=.agg [.p (.int .i64 d.m.rb),.p (.int .i64 d.m.rp),.p (.int .i64 d.m.wb),.p (.int .i64 d.m.wp),.p (.int .i64 d.m.seek),.p (.int .i64 d.speed),.p (.int .i64 d.margin),.p (.int .i64 d.now),.p (.int .i64 d.free),.p (.int .i64 d.head),.fresh 2 (d.weights.map Ch.pv),.fresh 21 (d.buckets.map Cp.pv),.fresh 3 (d.depths.map Dp.pv),v,.fresh 6 (d.queue.map Rq.pv),.fresh 7 (d.flights.map Fl.pv)]
abbrev newD (m : Mdl) (speed margin : Int) : Dv:=⟨m,speed,margin,0,0,0,[],[],[],[],[],[]⟩
theorem dnew_eq (m : Mdl) (speed margin : Int) (h : configOk m speed margin = true) : V 28 [cfgV m speed margin] [] = some (.tup [dvF (newD m speed margin) (.fresh 2 []),.p (.int .i64 0)],[]):=by
 refine V_wp (vf:=vf28) rfl ?_
 have i0:=dconfig_eq m speed margin
 rw [h] at i0
 simp -implicitDefEqProofs (disch:=omega) only [vf28,vb28,i0,go_sem,↓reduceIte,rA,rS,rE,rL,reduceCtorEq]
 rfl
set_option maxHeartbeats 1000000 in
theorem open_eq (t : Tr) (d : Dv) (hs : d.Small) : V 50 [t.vv,d.vv] [] = some (.boxed [.p (.int .i64 d.m.rb),.p (.int .i64 d.m.rp),.p (.int .i64 d.m.wb),.p (.int .i64 d.m.wp),.p (.int .i64 d.m.seek),.p (.int .i64 d.speed),.p (.int .i64 d.margin),.p (.int .i64 d.now),.p (.int .i64 d.free),.p (.int .i64 d.head),.fresh 2 (d.weights.map Ch.pv),.fresh 21 (d.buckets.map Cp.pv),.fresh 3 (d.depths.map Dp.pv),.p (chsP d.v),.fresh 6 (d.queue.map Rq.pv),.fresh 7 (d.flights.map Fl.pv),.p (nodesP t.nodes),.p (.int .i64 t.next)],[]):=by
 refine V_wp (vf:=vf50) rfl ?_
 obtain ⟨hs1,hs2,hs3,hs4,hs5,hs6⟩:=hs
 have c1:=cloneW_x (xs:=d.weights.map Ch.pv) (by simpa using hs1)
 have c2:=cloneC_x (xs:=d.buckets.map Cp.pv) (by simpa using hs2)
 have c3:=cloneD_x (xs:=d.depths.map Dp.pv) (by simpa using hs3)
 have c4:=cloneA_x (xs:=d.v.map Ch.pv) (by simpa using hs4)
 have c5:=cloneQ_x (xs:=d.queue.map Rq.pv) (by simpa using hs5)
 have c6:=cloneF_x (xs:=d.flights.map Fl.pv) (by simpa using hs6)
 simp -implicitDefEqProofs (disch:=omega) only [vf50,vb50,c1,c2,c3,c4,c5,c6,go_sem,↓reduceIte,rA,rS,rE,rL,reduceCtorEq]
theorem check_eq (t : Tr) (d : Dv) (r : Rq) (h : DvOk t d) (hs : d.Small) (hr : soundR { r with time:=0 } = true) (hk : knownN t.nodes r.group = true) : V 49 [t.vv,d.vv,r.vv] [] = some (.p (.int .i64 0),[]):=by
 refine V_wp (vf:=vf49) rfl ?_
 have hlen:=h.tree.len
 have i0:=dvalid_eq t d h.tree.fits (by omega) hs
 rw [dvOk_iff.2 h] at i0
 have i1:=csound_eq { r with time:=0 }
 rw [hr] at i1
 have i2:=dknown_eq t r.group (by omega)
 rw [hk] at i2
 simp -implicitDefEqProofs (disch:=omega) only [vf49,vb49,i0,i1,i2,go_sem,↓reduceIte,rA,rS,rE,rL,reduceCtorEq]
abbrev subD (d : Dv) (r : Rq) : Dv:={ d with queue:=d.queue ++ [{ r with time:=d.now }] }
set_option maxHeartbeats 1000000 in
theorem submit_eq (t : Tr) (d : Dv) (r : Rq) (h : DvOk t d) (hs : d.Small) (hr : soundR { r with time:=0 } = true) (hk : knownN t.nodes r.group = true) (hl : d.queue.length + d.flights.length < 256) : V 17 [t.vv,d.vv,r.vv] [] = some (.tup [dvF (subD d r) (.p (chsP d.v)),.p (.int .i64 0)],[]):=by
 refine V_wp (vf:=vf17) rfl ?_
 have i0:=check_eq t d r h hs hr hk
 have i1:=open_eq t d hs
 have hn : ¬ (d.queue.length : Int) + d.flights.length = 256:=by omega
 simp -implicitDefEqProofs (disch:=omega) only [vf17,vb17,llm,i0,i1,hn,go_sem,↓reduceIte,rA,rS,rE,rL,reduceCtorEq]
 simp only [dvF,subD,lma,lpc,lpn,Rq.pv]
theorem asc_len {t : Tr} (h : TreeOk t) {lo hi : Int} {l : List Ch} (hl : AscOk (knownN t.nodes) lo hi l) : l.length < 1000000:=by
 have:=asc_length hl
 have:=h.len
 omega
theorem inc_len {t : Tr} {l : List Int} (hp : l.Pairwise fun a b=>a < b) (hk : ∀ x ∈ l,knownN t.nodes x = true) : l.length <= t.nodes.length:=by
 have:=nodup_length_le l (t.nodes.map (·.id)) (hp.imp fun h e=>by omega) fun x hx=>by
  obtain ⟨n,hn,rfl⟩:=findN_some (hk x hx)
  exact List.mem_map_of_mem hn
 simpa using this
theorem ascD_iff {kn : Int -> Bool} : ∀ {l : List Dp} {p : Option Int},ascD kn p l = true -> (∀ c ∈ l,kn c.group = true) /\ l.Pairwise (fun a b=>a.group < b.group) /\ ∀ q,p = some q -> ∀ c ∈ l,q < c.group
 | [],p,_=>⟨by simp,List.Pairwise.nil,by simp⟩
 | c :: l,p,h=>by
  simp only [ascD,bat,prevOk_iff] at h
  obtain ⟨⟨⟨h1,h2⟩,_⟩,h4⟩:=h
  obtain ⟨e1,e2,e3⟩:=ascD_iff h4
  refine ⟨fun x hx=>?_,lpw.2 ⟨fun b hb=>e3 _ rfl b hb,e2⟩,fun q hq x hx=>?_⟩
  ·rcases lmk.1 hx with rfl | hx
   .exact h1
   .exact e1 x hx
  ·rcases lmk.1 hx with rfl | hx
   .exact h2 q hq
   .exact Int.lt_trans (h2 q hq) (e3 _ rfl x hx)
theorem ok_small {t : Tr} {d : Dv} (h : DvOk t d) : d.Small:=by
 have hq:=h.len
 have ht:=h.tree.len
 obtain ⟨b1,b2,_⟩:=ascB_iff.1 h.bk
 obtain ⟨d1,d2,_⟩:=ascD_iff h.dp
 have e1:=inc_len (t:=t) (l:=d.buckets.map (·.group)) (List.pairwise_map.2 b2) (fun x hx=>by obtain ⟨c,hc,rfl⟩:=lmm.1 hx; exact (b1 c hc).1)
 have e2:=inc_len (t:=t) (l:=d.depths.map (·.group)) (List.pairwise_map.2 d2) (fun x hx=>by obtain ⟨c,hc,rfl⟩:=lmm.1 hx; exact d1 c hc)
 rw [llm] at e1 e2
 exact ⟨asc_len h.tree h.w,by omega,by omega,asc_len h.tree h.v,by omega,by omega⟩
set_option maxHeartbeats 8000000 in
theorem tick_eq {t : Tr} {d : Dv} (h : DvOk t d) (hs : d.Small) (hnow : d.now < 1048576) : V 19 [t.vv,d.vv] [] = some (.tup [dvF (tickD t d) (.p (chsP (tickD t d).v)),.fresh 7 ((endedD d).map Fl.pv),.p (.int .i64 0)],[]):=by
 refine V_wp (vf:=vf19) rfl ?_
 have hlen:=h.tree.len
 have i0:=dvalid_eq t d h.tree.fits (by omega) hs
 rw [dvOk_iff.2 h] at i0
 have i1:=open_eq t d hs
 have i2:=advance_eq h hs hnow
 have hne : ¬ d.now = 1048576:=by omega
 have ha:=advD_ok h hnow
 have hbr:=busy_range ha
 simp -implicitDefEqProofs (disch:=omega) only [vf19,vb19,i0,i1,i2,hne,go_sem,↓reduceIte,rA,rS,rE,rL,reduceCtorEq]
 obtain ⟨I,hI⟩ : ∃ I : Nat -> St -> Prop,∀ k s,I k s ↔ ∃ (x : Dv) (q1 : Nat) (f1 : Nat),DvOk t x /\ tickD t d = loopD t (d.queue.length + 1 - k) x /\ x.queue.length + k = d.queue.length /\ s.pe 2 = .ptr (.slot 2 0) 0 0 /\ s.pe 4 = .ptr (.slot 4 0) 0 0 /\ s.pe 7 = .ptr (.slot 23 1) 0 0 /\ s.pe 8 = .own (.slot 25 1) 0 0 (endedD d).length /\ s.pe 9 = .p (.int .i64 (x.now * x.speed)) /\ s.h (.slot 2 0) = some (0,Ob.box [.p (nodesP t.nodes),.p (.int .i64 t.next)]) /\ s.h (.slot 4 0) = some (0,Ob.box [.p (.int .i64 0),.p (.int .i64 0),.p (.int .i64 0),.p (.int .i64 0),.p (.int .i64 0),.p (.int .i64 0),.p (.int .i64 0),.p (.int .i64 0),.p (.int .i64 0),.p (.int .i64 0),.own (.slot 4 11) 0 0 0,.own (.slot 4 12) 0 0 0,.own (.slot 4 13) 0 0 0,.own (.slot 4 14) 0 0 0,.own (.slot 4 15) 0 0 0,.own (.slot 4 16) 0 0 0]) /\ s.h (.slot 4 11) = some (0,Ob.arr 2 []) /\ s.h (.slot 4 12) = some (0,Ob.arr 21 []) /\ s.h (.slot 4 13) = some (0,Ob.arr 3 []) /\ s.h (.slot 4 14) = some (0,Ob.arr 2 []) /\ s.h (.slot 4 15) = some (0,Ob.arr 6 []) /\ s.h (.slot 4 16) = some (0,Ob.arr 7 []) /\ s.h (.slot 23 12) = some (0,Ob.arr 2 (List.map Ch.pv x.weights)) /\ s.h (.slot 23 13) = some (0,Ob.arr 21 (List.map Cp.pv x.buckets)) /\ s.h (.slot 23 14) = some (0,Ob.arr 3 (List.map Dp.pv x.depths)) /\ s.h (.slot 23 16) = some (q1,Ob.arr 6 (List.map Rq.pv x.queue)) /\ s.h (.slot 23 17) = some (f1,Ob.arr 7 (List.map Fl.pv x.flights)) /\ s.h (.slot 25 1) = some (0,Ob.arr 7 (List.map Fl.pv (endedD d))) /\ ∃ X,s.h (.slot 23 1) = some (0,Ob.box [.p (.int .i64 x.m.rb),.p (.int .i64 x.m.rp),.p (.int .i64 x.m.wb),.p (.int .i64 x.m.wp),.p (.int .i64 x.m.seek),.p (.int .i64 x.speed),.p (.int .i64 x.margin),.p (.int .i64 x.now),.p (.int .i64 x.free),.p (.int .i64 x.head),.own (.slot 23 12) 0 0 x.weights.length,.own (.slot 23 13) 0 0 x.buckets.length,.own (.slot 23 14) 0 0 x.depths.length,X,.own (.slot 23 16) q1 0 x.queue.length,.own (.slot 23 17) f1 0 x.flights.length,.p (nodesP t.nodes),.p (.int .i64 t.next)]) /\ fz0 [53,63] s.h X = .p (chsP x.v):=⟨_,fun _ _=>Iff.rfl⟩
 refine wp_count ((d.queue.length + 1)) I ?_ ?_
 ·refine (hI _ _).2 ⟨advD d,0,1,?_,?_,?_,?_,?_,?_,?_,?_,?_,?_,?_,?_,?_,?_,?_,?_,?_,?_,?_,?_,?_,?_,?_⟩
  ·exact ha
  ·rfl
  ·rfl
  all_goals first | exact cl0 | (simp -implicitDefEqProofs (disch:=omega) only [lma,go_sem,↓reduceIte,rA,rS,rE,rL,reduceCtorEq] <;> first | (simp [mBox]; done) | (simp [mBox]; omega)) | (simp -implicitDefEqProofs (disch:=omega) only [lma,go_sem,↓reduceIte,rA,rS,rE,rL,reduceCtorEq] <;> (refine ⟨_,rfl,?_⟩; first | rfl | (simp -implicitDefEqProofs (disch:=omega) only [lma,go_sem,↓reduceIte,rA,rS,rE,rL,reduceCtorEq]; done) | (simp -implicitDefEqProofs (disch:=omega) only [lma,go_sem,↓reduceIte,rA,rS,rE,rL,reduceCtorEq]; rfl)))
 intro k s hk hIk
 obtain ⟨x,q1,f1,hx,hT,hql,h2,h4,h7,h8,h9,hh2_0,hh4_0,hh4_11,hh4_12,hh4_13,hh4_14,hh4_15,hh4_16,hh23_12,hh23_13,hh23_14,hh23_16,hh23_17,hh25_1,hX⟩:=(hI _ _).1 hIk
 clear hIk
 obtain ⟨X,hh23,hX⟩:=hX
 have hxs : x.Small:=ok_small hx
 have hbx:=busy_range hx
 have hql2:=hx.len
 obtain ⟨fu,hfu⟩ : ∃ fu,d.queue.length + 1 - k = fu + 1:=⟨d.queue.length - k,by omega⟩
 rw [hfu] at hT
 have i3:=ready_eq hx hxs
 have hrl:=readyL_len t x x.queue []
 have hml:=msort_length (readyL t x [] x.queue)
 have i4:=inextA_eq t x.v (msort (readyL t x [] x.queue)) (x.now * x.speed) hx.tree.fits (by omega) hxs.v (by omega)
 rcases loopD_succ t fu x with ⟨hend,hS⟩ | ⟨g,r,v,hst,hS⟩
 ·rw [hS] at hT
  rw [hT]
  unfold EndD at hend
  generalize hg : nxtA t x.v (x.now * x.speed) 0 (msort (readyL t x [] x.queue)) = g at i4 hend
  by_cases hb : x.now * x.speed <= x.free
  ·have hb' : ¬ x.free < x.now * x.speed:=by omega
   simp -implicitDefEqProofs (disch:=omega) only [h2,h4,h7,h8,h9,hh2_0,hh4_0,hh4_11,hh4_12,hh4_13,hh4_14,hh4_15,hh4_16,hh23_12,hh23_13,hh23_14,hh23_16,hh23_17,hh25_1,hX,hh23,hb',go_sem,↓reduceIte,rA,rS,rE,rL,reduceCtorEq]
  ·have hb' : x.free < x.now * x.speed:=by omega
   by_cases hg0 : g = 0
   ·simp -implicitDefEqProofs (disch:=omega) only [h2,h4,h7,h8,h9,hh2_0,hh4_0,hh4_11,hh4_12,hh4_13,hh4_14,hh4_15,hh4_16,hh23_12,hh23_13,hh23_14,hh23_16,hh23_17,hh25_1,hX,hh23,hb',i3,i4,hg0,go_sem,↓reduceIte,rA,rS,rE,rL,reduceCtorEq]
   ·obtain ⟨r,hr,he⟩ : ∃ r,firstQ x.queue g = some r /\ (IssueA t x.v g (shareD t x g) (costD x r) (x.now * x.speed) x.margin).2 ≠ 0:=by
     rcases hend with e | e | e | e
     ·exact absurd e hb
     ·exact absurd e hg0
     ·obtain ⟨r,h1,_⟩:=next_first (t:=t) (d:=x) (by rw [hg]; exact hg0)
      rw [hg,e] at h1
      cases h1
     .exact e
    generalize hi : IssueA t x.v g (shareD t x g) (costD x r) (x.now * x.speed) x.margin = ve at he
    obtain ⟨v,e⟩:=ve
    have i5:=begin_eq hx hxs hb hr hi
    rw [if_neg he] at i5
    simp -implicitDefEqProofs (disch:=omega) only [h2,h4,h7,h8,h9,hh2_0,hh4_0,hh4_11,hh4_12,hh4_13,hh4_14,hh4_15,hh4_16,hh23_12,hh23_13,hh23_14,hh23_16,hh23_17,hh25_1,hX,hh23,hb',i3,i4,hg0,i5,go_sem,↓reduceIte,rA,rS,rE,rL,reduceCtorEq]
 ·rw [hS] at hT
  have hb:=hst.busy
  have hg:=hst.next
  have hg0:=hst.pos
  have i5:=begin_eq hx hxs hb hst.first hst.issue
  rw [if_pos rfl] at i5
  have hb' : x.free < x.now * x.speed:=by omega
  rw [<- hg] at i4
  have hok:=step_ok hx hst
  have hrq:=remQ_len hst.first
  simp -implicitDefEqProofs (disch:=omega) only [h2,h4,h7,h8,h9,hh2_0,hh4_0,hh4_11,hh4_12,hh4_13,hh4_14,hh4_15,hh4_16,hh23_12,hh23_13,hh23_14,hh23_16,hh23_17,hh25_1,hX,hh23,hb',i3,i4,hg0,i5,go_sem,↓reduceIte,rA,rS,rE,rL,reduceCtorEq]
  try refine And.intro (by omega) ?_
  refine (hI _ _).2 ⟨beginD t x g r v,q1 + 1,f1 + 1,?_,?_,?_,?_,?_,?_,?_,?_,?_,?_,?_,?_,?_,?_,?_,?_,?_,?_,?_,?_,?_,?_,?_⟩
  .exact hok
  .exact by rw [hT,show d.queue.length + 1 - (k + 1) = fu by omega]
  .exact by show (remQ x.queue g).length + (k + 1) = _; omega
  all_goals first | exact cl0 | (simp -implicitDefEqProofs (disch:=omega) only [h2,h4,h7,h8,h9,hh2_0,hh4_0,hh4_11,hh4_12,hh4_13,hh4_14,hh4_15,hh4_16,hh23_12,hh23_13,hh23_14,hh23_16,hh23_17,hh25_1,hX,lma,go_sem,↓reduceIte,rA,rS,rE,rL,reduceCtorEq] <;> first | (simp [mBox]; done) | (simp [mBox]; omega)) | (simp -implicitDefEqProofs (disch:=omega) only [h2,h4,h7,h8,h9,hh2_0,hh4_0,hh4_11,hh4_12,hh4_13,hh4_14,hh4_15,hh4_16,hh23_12,hh23_13,hh23_14,hh23_16,hh23_17,hh25_1,hX,lma,go_sem,↓reduceIte,rA,rS,rE,rL,reduceCtorEq] <;> (refine ⟨_,rfl,?_⟩; first | rfl | (simp -implicitDefEqProofs (disch:=omega) only [h2,h4,h7,h8,h9,hh2_0,hh4_0,hh4_11,hh4_12,hh4_13,hh4_14,hh4_15,hh4_16,hh23_12,hh23_13,hh23_14,hh23_16,hh23_17,hh25_1,hX,lma,go_sem,↓reduceIte,rA,rS,rE,rL,reduceCtorEq]; done) | (simp -implicitDefEqProofs (disch:=omega) only [h2,h4,h7,h8,h9,hh2_0,hh4_0,hh4_11,hh4_12,hh4_13,hh4_14,hh4_15,hh4_16,hh23_12,hh23_13,hh23_14,hh23_16,hh23_17,hh25_1,hX,lma,go_sem,↓reduceIte,rA,rS,rE,rL,reduceCtorEq]; rfl)))
structure Sg where
 weight : Int
 rp : Int
 wp : Int
 ro : Int
 wo : Int
 target : Int
abbrev Sg.vv (s : Sg) (dev : Int) : VVal:=.agg [.p (.int .i64 dev),.p (.int .i64 s.weight),.p (.int .i64 s.rp),.p (.int .i64 s.wp),.p (.int .i64 s.ro),.p (.int .i64 s.wo),.p (.int .i64 s.target)]
def amtOk (n : Int) : Prop:=(1 <= n /\ n <= 1073741824) \/ n = maxR
structure SgOk (s : Sg) : Prop where
 w : 1 <= s.weight /\ s.weight <= 10000
 rp : amtOk s.rp
 wp : amtOk s.wp
 ro : amtOk s.ro
 wo : amtOk s.wo
 t : 0 <= s.target /\ s.target <= 1048576
def newB (rate least now : Int) : Bk:=if rate = maxR then ⟨maxR,100,0,0,now⟩ else ⟨rate,100,max rate least,max rate least * 100,now⟩
theorem newB_ok {rate least now : Int} (h : amtOk rate) (hl : 0 <= least /\ least <= 4096) (hn : 0 <= now /\ now <= 1048576) : soundB now (newB rate least now) = true:=by
 have hmx : maxR = 4611686018427387904:=rfl
 rw [soundB_iff,bkOk_iff]
 unfold newB
 rcases h with h | h
 ·have hne : ¬ rate = maxR:=by omega
  rw [if_neg hne]
  exact ⟨⟨by simp,hn,.inr ⟨hne,by simp only; omega,by simp only; omega,by simp only; omega⟩⟩,rfl,rfl⟩
 ·rw [if_pos h]
  exact ⟨⟨by simp,hn,.inl ⟨rfl,rfl,rfl⟩⟩,rfl,rfl⟩
theorem bmade_eq (rate least now : Int) (h : amtOk rate) (hl : 0 <= least /\ least <= 4096) (hn : 0 <= now /\ now <= 1048576) : V 244 [.p (.int .i64 rate),.p (.int .i64 100),.p (.int .i64 (if rate = maxR then 0 else max rate least)),.p (.int .i64 now),.p (.int .i64 1073741824)] [] = some (.tup [(newB rate least now).vv,.p (.int .i64 0)],[]):=by
 refine V_wp (vf:=vf244) rfl ?_
 have hmx : maxR = 4611686018427387904:=rfl
 rcases h with h | h
 ·have hne : ¬ rate = maxR:=by omega
  have op:=bopen_eq ⟨rate,100,max rate least,0,now⟩
  have bv:=bvalid_eq ⟨rate,100,max rate least,0,now⟩
  rw [show bkOk ⟨rate,100,max rate least,0,now⟩ = true from bkOk_iff.2 ⟨by simp,hn,.inr ⟨hne,by simp only; omega,by simp only; omega,by simp only; omega⟩⟩] at bv
  rw [decide_eq_false hne] at op
  have hN : newB rate least now = ⟨rate,100,max rate least,max rate least * 100,now⟩:=by unfold newB; rw [if_neg hne]
  rw [if_neg hne,hN]
  have hm : min 1073741824 (max rate least) = max rate least:=by omega
  have hb : 0 <= max rate least /\ max rate least <= 1073741824:=by omega
  generalize max rate least = b at op bv hm hb
  simp -implicitDefEqProofs (disch:=omega) only [vf244,vb244,op,bv,hm,go_sem,↓reduceIte,rA,rS,rE,rL,reduceCtorEq]
 ·have op:=bopen_eq ⟨rate,100,0,0,now⟩
  have bv:=bvalid_eq ⟨rate,100,0,0,now⟩
  rw [show bkOk ⟨rate,100,0,0,now⟩ = true from bkOk_iff.2 ⟨by simp,hn,.inl ⟨h,rfl,rfl⟩⟩] at bv
  rw [decide_eq_true h] at op
  have hN : newB rate least now = ⟨rate,100,0,0,now⟩:=by unfold newB; rw [if_pos h,h]
  rw [if_pos h,hN]
  have hm : min (1073741824 : Int) 0 = 0:=by omega
  simp -implicitDefEqProofs (disch:=omega) only [vf244,vb244,op,bv,hm,Int.zero_mul,go_sem,↓reduceIte,rA,rS,rE,rL,reduceCtorEq]
theorem renewed_eq (t : Tr) (d : Dv) (old : Bk) (rate least : Int) (h : amtOk rate) (hl : 0 <= least /\ least <= 4096) (hn : 0 <= d.now /\ d.now <= 1048576) : V 161 [.ptr (.arg 0 0) 0 0,old.vv,.p (.bool false),.p (.int .i64 rate),.p (.int .i64 least)] (mH t d) = some ((newB rate least d.now).vv,mH t d):=by
 refine V_wp (vf:=vf161) rfl ?_
 have i0 : V 206 [.p (.int .i64 rate),.p (.int .i64 100),.p (.int .i64 (if rate = maxR then 0 else max rate least)),.p (.int .i64 d.now)] [] = some (.tup [(newB rate least d.now).vv,.p (.int .i64 0)],[]):=by
  refine V_wp (vf:=vf206) rfl ?_
  have i1:=bmade_eq rate least d.now h hl hn
  simp -implicitDefEqProofs (disch:=omega) only [vf206,vb206,i1,go_sem,↓reduceIte,rA,rS,rE,rL,reduceCtorEq]
 by_cases hr : rate = maxR
 ·rw [if_pos hr] at i0
  have hr' : decide (rate = 4611686018427387904) = true:=decide_eq_true hr
  simp -implicitDefEqProofs (disch:=omega) only [vf161,vb161,hr',i0,go_sem,↓reduceIte,rA,rS,rE,rL,reduceCtorEq]
 ·rw [if_neg hr] at i0
  simp -implicitDefEqProofs (disch:=omega) only [vf161,vb161,hr,i0,go_sem,↓reduceIte,rA,rS,rE,rL,reduceCtorEq]
theorem amount_eq (n : Int) (h : amtOk n) : V 155 [.p (.int .i64 n),.p (.int .i64 1),.p (.int .i64 1073741824)] [] = some (.p (.bool true),[]):=by
 refine V_wp (vf:=vf155) rfl ?_
 have hmx : maxR = 4611686018427387904:=rfl
 rcases h with ⟨h1,h2⟩ | h
 ·simp -implicitDefEqProofs (disch:=omega) only [vf155,vb155,h1,h2,go_sem,↓reduceIte,rA,rS,rE,rL,reduceCtorEq]
 ·have h1 : 1 <= n:=by omega
  have h2 : ¬ n <= 1073741824:=by omega
  have h' : decide (n = 4611686018427387904) = true:=decide_eq_true h
  simp -implicitDefEqProofs (disch:=omega) only [vf155,vb155,h1,h2,h',go_sem,↓reduceIte,rA,rS,rE,rL,reduceCtorEq]
theorem checkS_eq (u : Sg) (h : SgOk u) : V 85 [.p (.slice 7 [.agg [.int .i64 0,.int .i64 u.weight,.int .i64 u.rp,.int .i64 u.wp,.int .i64 u.ro,.int .i64 u.wo,.int .i64 u.target]])] [] = some (.p (.bool true),[]):=by
 refine V_wp (vf:=vf85) rfl ?_
 have a1:=amount_eq u.rp h.rp
 have a2:=amount_eq u.wp h.wp
 have a3:=amount_eq u.ro h.ro
 have a4:=amount_eq u.wo h.wo
 have b1 : ¬ u.weight < 1:=by have:=h.w; omega
 have b2 : ¬ 10000 < u.weight:=by have:=h.w; omega
 have b3 : ¬ u.target < 0:=by have:=h.t; omega
 have b4 : ¬ 1048576 < u.target:=by have:=h.t; omega
 simp -implicitDefEqProofs (disch:=omega) only [vf85,vb85,go_sem,↓reduceIte,rA,rS,rE,rL,reduceCtorEq]
 obtain ⟨I,hI⟩ : ∃ I : Nat -> St -> Prop,∀ k s,I k s ↔ s.pe 0 = .p (PV.slice 7 [PV.agg [PV.int IntKind.i64 0,PV.int IntKind.i64 u.weight,PV.int IntKind.i64 u.rp,PV.int IntKind.i64 u.wp,PV.int IntKind.i64 u.ro,PV.int IntKind.i64 u.wo,PV.int IntKind.i64 u.target]]) /\ s.pe 3 = .p (.int .i64 k):=⟨_,fun _ _=>Iff.rfl⟩
 refine wp_count (1) I ?_ ?_
 ·refine (hI _ _).2 ⟨?_,?_⟩
  all_goals first | exact cl0 | (simp -implicitDefEqProofs (disch:=omega) only [lma,go_sem,↓reduceIte,rA,rS,rE,rL,reduceCtorEq] <;> first | (simp [mBox]; done) | (simp [mBox]; omega))
 intro k s hk hIk
 obtain ⟨h0,h3⟩:=(hI _ _).1 hIk
 clear hIk
 simp -implicitDefEqProofs (disch:=omega) only [h0,h3,go_sem,↓reduceIte,rA,rS,rE,rL,reduceCtorEq]
 refine wp_if_d (fun hlt=>?_) (fun hge=>?_)
 ·have hk : k = 0:=by omega
  have hg : ∀ x : PV,([x] : List PV)[k]? = some x:=fun x=>by rw [hk]; rfl
  have hk0 : ¬ (0 : Int) < k:=by omega
  have hd : decide ((0 : Int) < 0) = false:=rfl
  have hd8 : decide ((8 : Int) <= 0) = false:=rfl
  have hlt' : k < 1:=by omega
  simp -implicitDefEqProofs (disch:=omega) only [h0,h3,hlt,hlt',hg,hk0,hd,hd8,a1,a2,a3,a4,b1,b2,b3,b4,go_sem,↓reduceIte,rA,rS,rE,rL,reduceCtorEq]
  try refine And.intro (by omega) ?_
  refine (hI _ _).2 ⟨?_,?_⟩
  all_goals first | exact cl0 | (simp -implicitDefEqProofs (disch:=omega) only [h0,h3,lma,go_sem,↓reduceIte,rA,rS,rE,rL,reduceCtorEq] <;> first | (simp [mBox]; done) | (simp [mBox]; omega))
 ·have hd1 : decide (((1 : Nat) : Int) <= 8) = true:=rfl
  simp -implicitDefEqProofs (disch:=omega) only [h0,h3,hge,hd1,go_sem,↓reduceIte,rA,rS,rE,rL,reduceCtorEq]
theorem idx0W_eq (id : Int) : V 144 [.p (.slice 2 []),.fn 156 [.ptr (.arg 0 0) 0 0]] [.box [.p (.int .i64 id)]] = some (.p (.int .i64 (-1)),[.box [.p (.int .i64 id)]]):=by
 refine V_wp (vf:=vf144) rfl ?_
 simp -implicitDefEqProofs (disch:=omega) only [vf144,vb144,go_sem,↓reduceIte,rA,rS,rE,rL,reduceCtorEq]
 obtain ⟨I,hI⟩ : ∃ I : Nat -> St -> Prop,∀ k s,I k s ↔ s.pe 0 = .p (PV.slice 2 []) /\ s.pe 1 = VVal.fn 156 [.ptr (Id.arg 0 0) 0 0] /\ s.pe 7 = .p (.int .i64 ((0 : Nat) : Int)) /\ s.pe 8 = .p (.int .i64 k) /\ s.h (.arg 0 0) = some (0,Ob.box [.p (.int .i64 id)]):=⟨_,fun _ _=>Iff.rfl⟩
 refine wp_count (0) I ?_ ?_
 ·refine (hI _ _).2 ⟨?_,?_,?_,?_,?_⟩
  all_goals first | exact cl0 | (simp -implicitDefEqProofs (disch:=omega) only [h0,h3,lma,go_sem,↓reduceIte,rA,rS,rE,rL,reduceCtorEq] <;> first | (simp [mBox]; done) | (simp [mBox]; omega))
 intro k s hk hIk
 obtain ⟨h0,h1,h7,h8,ha0⟩:=(hI _ _).1 hIk
 clear hIk
 simp -implicitDefEqProofs (disch:=omega) only [h0,h1,h7,h8,ha0,go_sem,↓reduceIte,rA,rS,rE,rL,reduceCtorEq]
 refine wp_if_d (fun hlt=>?_) (fun hge=>?_)
 .omega
 .simp -implicitDefEqProofs (disch:=omega) only [h0,h1,h7,h8,ha0,hge,go_sem,↓reduceIte,rA,rS,rE,rL,reduceCtorEq]
theorem idx0D_eq (id : Int) : V 147 [.p (.slice 3 []),.fn 165 [.ptr (.arg 0 0) 0 0]] [.box [.p (.int .i64 id)]] = some (.p (.int .i64 (-1)),[.box [.p (.int .i64 id)]]):=by
 refine V_wp (vf:=vf147) rfl ?_
 simp -implicitDefEqProofs (disch:=omega) only [vf147,vb147,go_sem,↓reduceIte,rA,rS,rE,rL,reduceCtorEq]
 obtain ⟨I,hI⟩ : ∃ I : Nat -> St -> Prop,∀ k s,I k s ↔ s.pe 0 = .p (PV.slice 3 []) /\ s.pe 1 = VVal.fn 165 [.ptr (Id.arg 0 0) 0 0] /\ s.pe 7 = .p (.int .i64 ((0 : Nat) : Int)) /\ s.pe 8 = .p (.int .i64 k) /\ s.h (.arg 0 0) = some (0,Ob.box [.p (.int .i64 id)]):=⟨_,fun _ _=>Iff.rfl⟩
 refine wp_count (0) I ?_ ?_
 ·refine (hI _ _).2 ⟨?_,?_,?_,?_,?_⟩
  all_goals first | exact cl0 | (simp -implicitDefEqProofs (disch:=omega) only [h0,h1,h7,h8,ha0,lma,go_sem,↓reduceIte,rA,rS,rE,rL,reduceCtorEq] <;> first | (simp [mBox]; done) | (simp [mBox]; omega))
 intro k s hk hIk
 obtain ⟨h0,h1,h7,h8,ha0⟩:=(hI _ _).1 hIk
 clear hIk
 simp -implicitDefEqProofs (disch:=omega) only [h0,h1,h7,h8,ha0,go_sem,↓reduceIte,rA,rS,rE,rL,reduceCtorEq]
 refine wp_if_d (fun hlt=>?_) (fun hge=>?_)
 .omega
 .simp -implicitDefEqProofs (disch:=omega) only [h0,h1,h7,h8,ha0,hge,go_sem,↓reduceIte,rA,rS,rE,rL,reduceCtorEq]
theorem del0W_eq (id : Int) : V 71 [.own (.arg 0 0) 0 0 0,.fn 156 [.ptr (.arg 1 0) 0 0]] [.arr 2 [],.box [.p (.int .i64 id)]] = some (.own (.arg 0 0) 0 0 0,[.arr 2 [],.box [.p (.int .i64 id)]]):=by
 refine V_wp (vf:=vf71) rfl ?_
 have i0:=idx0W_eq id
 have hd : decide ((-1 : Int) = -1) = true:=rfl
 simp -implicitDefEqProofs (disch:=omega) only [vf71,vb71,i0,hd,go_sem,↓reduceIte,rA,rS,rE,rL,reduceCtorEq]
theorem del0D_eq (id : Int) : V 76 [.own (.arg 0 0) 0 0 0,.fn 165 [.ptr (.arg 1 0) 0 0]] [.arr 3 [],.box [.p (.int .i64 id)]] = some (.own (.arg 0 0) 0 0 0,[.arr 3 [],.box [.p (.int .i64 id)]]):=by
 refine V_wp (vf:=vf76) rfl ?_
 have i0:=idx0D_eq id
 have hd : decide ((-1 : Int) = -1) = true:=rfl
 simp -implicitDefEqProofs (disch:=omega) only [vf76,vb76,i0,hd,go_sem,↓reduceIte,rA,rS,rE,rL,reduceCtorEq]
abbrev wgD (d : Dv) (id w : Int) : Dv:={ d with weights:=if w = 100 then [] else [⟨id,w⟩] }
abbrev bkD (d : Dv) (id : Int) (s : Sg) : Dv:={ d with buckets:=if s.rp = maxR /\ s.wp = maxR /\ s.ro = maxR /\ s.wo = maxR then [] else [⟨id,newB s.rp 4096 d.now,newB s.wp 4096 d.now,newB s.ro 0 d.now,newB s.wo 0 d.now⟩] }
abbrev dpD (d : Dv) (id tg : Int) : Dv:={ d with depths:=if tg = 0 then [] else [⟨id,tg,256⟩] }
abbrev mBoxL (t : Tr) (d : Dv) (a b c : Nat) : Ob:=.box [.p (.int .i64 d.m.rb),.p (.int .i64 d.m.rp),.p (.int .i64 d.m.wb),.p (.int .i64 d.m.wp),.p (.int .i64 d.m.seek),.p (.int .i64 d.speed),.p (.int .i64 d.margin),.p (.int .i64 d.now),.p (.int .i64 d.free),.p (.int .i64 d.head),.own (.arg 1 0) a 0 d.weights.length,.own (.arg 2 0) b 0 d.buckets.length,.own (.arg 3 0) c 0 d.depths.length,.p (chsP d.v),.own (.arg 4 0) 0 0 d.queue.length,.own (.arg 5 0) 0 0 d.flights.length,.p (nodesP t.nodes),.p (.int .i64 t.next)]
end Go.V
