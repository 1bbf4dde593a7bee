/- Part 3 of the proof. -/
import Derived.Test.YtekkdllchjmhdaaGreatB2
set_option linter.unusedSectionVars false
set_option linter.unusedSimpArgs false
set_option linter.unusedVariables false
open Nat renaming reduceAdd → rAz, reduceSub → rS, reduceEqDiff → rE, reduceLeDiff → rL, le_refl → lrf
open List renaming getElem?_eq_getElem → lgg, getElem?_eq_some_iff → lgs, mem_of_getElem? → lmg, drop_eq_getElem_cons → ldg, mem_cons_of_mem → lmc, map_cons → lpc, nil_append → lna, append_assoc → laa, append_nil → lan, mem_map → lmm, mem_cons_self → lms, map_append → lma, take_of_length_le → ltl, getElem?_of_mem → lgm, length_cons → llc, length_append → lla, mem_cons → lmk, map_nil → lpn, length_nil → lln, mem_append → lmp, length_map → llm, length_take → llt, length_drop → lld, pairwise_cons → lpw, cons_append → lca, foldl_append → lfa, filter_cons → lfl
open Option renaming some.injEq → osi
open Bool renaming and_eq_true → bat, false_and → bfa, false_eq_true → bft, true_and → bta, and_true → bau
open Prod renaming mk.injEq → pmi
namespace Go.V
theorem lin_eq (n lo hi : Int) : V 173 [.p (.int .i64 n),.p (.int .i64 lo),.p (.int .i64 hi)] [] = some (.p (.bool (inZ n lo hi)),[]):=by
 refine V_wp (vf:=vf173) rfl ?_
 unfold inZ
 by_cases h1 : lo <= n
 ·by_cases h2 : n <= hi
  ·rw [decide_eq_true ⟨h1,h2⟩]
   simp -implicitDefEqProofs (disch:=omega) only [vf173,vb173,h1,h2,go_sem,↓reduceIte,rAz,rS,rE,rL,reduceCtorEq]
  ·rw [decide_eq_false (fun h=>h2 h.2)]
   simp -implicitDefEqProofs (disch:=omega) only [vf173,vb173,h1,h2,go_sem,↓reduceIte,rAz,rS,rE,rL,reduceCtorEq]
 ·rw [decide_eq_false (fun h=>h1 h.1)]
  simp -implicitDefEqProofs (disch:=omega) only [vf173,vb173,h1,go_sem,↓reduceIte,rAz,rS,rE,rL,reduceCtorEq]
theorem lnone_eq (id : Int) : V 208 [.p (.int .i64 id)] [] = some (.agg [.p (.int .i64 id),.p (.int .i64 0),.p (.int .i64 256)],[]):=by
 refine V_wp (vf:=vf208) rfl ?_
 simp -implicitDefEqProofs (disch:=omega) only [vf208,vb208,go_sem,↓reduceIte,rAz,rS,rE,rL,reduceCtorEq]
abbrev dpsP (l : List Dp) : PV:=.slice 3 (l.map Dp.pv)
abbrev Dp.vv (d : Dp) : VVal:=.agg [.p (.int .i64 d.group),.p (.int .i64 d.target),.p (.int .i64 d.depth)]
def prevD (l : List Dp) : Nat -> Option Int
 | 0=>none
 | k + 1=>l[k]?.map Dp.group
theorem ascD_step {kn : Int -> Bool} {l : List Dp} {k : Nat} {c : Dp} (hm : l[k]? = some c) : ascD kn (prevD l k) (l.drop k) = (kn c.group && prevOk (prevD l k) c.group && (inZ c.target 0 1048576 && inZ c.depth 1 256) && ascD kn (prevD l (k + 1)) (l.drop (k + 1))):=by
 have hk:=(lgs.1 hm).1
 rw [ldg hk]
 have e : l[k] = c:=by rw [lgg hk] at hm; exact Option.some.inj hm
 rw [e,ascD]
 simp [prevD,hm]
set_option maxHeartbeats 1000000 in
theorem lvalid_eq (t : Tr) (l : List Dp) (hf : t.Fits) (hn : t.nodes.length < 1000000) (hl : l.length < 1000000) : V 111 [t.vv,.p (dpsP l)] [] = some (.p (.bool (treeOk t && ascD (knownN t.nodes) none l)),[]):=by
 refine V_wp (vf:=vf111) rfl ?_
 have hc:=tcheck_eq t hf hn
 cases ht : treeOk t with
 | false =>
  rw [ht] at hc
  simp -implicitDefEqProofs (disch:=omega) only [vf111,vb111,hc,bfa,go_sem,↓reduceIte,rAz,rS,rE,rL,reduceCtorEq]
 | true =>
  rw [ht] at hc
  rw [Bool.true_and]
  simp -implicitDefEqProofs (disch:=omega) only [vf111,vb111,hc,go_sem,↓reduceIte,rAz,rS,rE,rL,reduceCtorEq]
  obtain ⟨I,hI⟩ : ∃ I : Nat -> St -> Prop,∀ k s,I k s ↔ ascD (knownN t.nodes) none l = ascD (knownN t.nodes) (prevD l k) (l.drop k) /\ s.pe 1 = .p (dpsP l) /\ s.pe 2 = .ptr (.slot 2 0) 0 0 /\ s.pe 12 = .p (dpsP l) /\ s.pe 13 = .p (.int .i64 l.length) /\ s.pe 14 = .p (.int .i64 k) /\ s.h (.slot 2 0) = some (0,.box [.p (nodesP t.nodes),.p (.int .i64 t.next)]):=⟨_,fun _ _=>Iff.rfl⟩
  refine wp_count (l.length) I ?_ ?_
  ·refine (hI _ _).2 ⟨?_,?_,?_,?_,?_,?_,?_⟩
   ·exact cl3
   all_goals exact cl0
  intro k s hk hIk
  obtain ⟨hq,h1,h2,h12,h13,h14,hh2_0⟩:=(hI _ _).1 hIk
  clear hIk
  simp -implicitDefEqProofs (disch:=omega) only [h1,h2,h12,h13,h14,hh2_0,go_sem,↓reduceIte,rAz,rS,rE,rL,reduceCtorEq]
  refine wp_if_d (fun hlt=>?_) (fun hge=>?_)
  ·have hm : l[k]? = some l[k]:=lgg hlt
   generalize l[k] = c at hm
   rw [ascD_step hm] at hq
   have hfi:=ffind_eq t c.group hn
   have hkn : knownN t.nodes c.group = (findN t.nodes c.group).isSome:=rfl
   generalize (findN t.nodes c.group).getD zeroNd = nd at hfi
   rw [← hkn] at hfi
   have i1:=lin_eq c.target 0 1048576
   have i2:=lin_eq c.depth 1 256
   cases hA : knownN t.nodes c.group with
   | false =>
    rw [hA] at hfi hq
    simp -implicitDefEqProofs (disch:=omega) only [h1,h2,h12,h13,h14,hh2_0,hlt,hm,hfi,hq,Nd.vv,bfa,go_sem,↓reduceIte,rAz,rS,rE,rL,reduceCtorEq]
   | true =>
    rw [hA,bta] at hq
    rw [hA] at hfi
    have ord : (∃ e : Dp,0 < k /\ l[k - 1]? = some e /\ (prevOk (prevD l k) c.group = decide (e.group < c.group))) \/ (k = 0 /\ prevOk (prevD l k) c.group = true):=by
     cases k with
     | zero=>exact .inr ⟨rfl,rfl⟩
     | succ k' =>
      have hk' : k' < l.length:=by omega
      refine .inl ⟨l[k'],by omega,by simp,?_⟩
      simp [prevD,lgg hk',prevOk]
    rcases ord with ⟨e,hk0,he,hpo⟩ | ⟨hk0,hpo⟩
    ·have hk0' : (0 : Int) < k:=by omega
     have hk1 : (0 : Int) <= (k : Int) - 1:=by omega
     have hk2 : ((k : Int) - 1).toNat = k - 1:=by omega
     rw [hpo] at hq
     by_cases hB : e.group < c.group
     ·rw [decide_eq_true hB,bta] at hq
      have hB' : ¬ c.group <= e.group:=by omega
      cases hC : inZ c.target 0 1048576 with
      | false =>
       rw [hC] at i1 hq
       simp -implicitDefEqProofs (disch:=omega) only [h1,h2,h12,h13,h14,hh2_0,hlt,hm,hfi,hq,Nd.vv,hk0',hk1,hk2,he,hB',i1,bfa,go_sem,↓reduceIte,rAz,rS,rE,rL,reduceCtorEq]
      | true =>
       rw [hC] at i1 hq
       cases hD : inZ c.depth 1 256 with
       | false =>
        rw [hD] at i2 hq
        simp -implicitDefEqProofs (disch:=omega) only [h1,h2,h12,h13,h14,hh2_0,hlt,hm,hfi,hq,Nd.vv,hk0',hk1,hk2,he,hB',i1,i2,bfa,Bool.and_false,go_sem,↓reduceIte,rAz,rS,rE,rL,reduceCtorEq]
       | true =>
        rw [hD] at i2 hq
        simp -implicitDefEqProofs (disch:=omega) only [h1,h2,h12,h13,h14,hh2_0,hlt,hm,hfi,Nd.vv,hk0',hk1,hk2,he,hB',i1,i2,go_sem,↓reduceIte,rAz,rS,rE,rL,reduceCtorEq]
        try refine And.intro (by omega) ?_
        refine (hI _ _).2 ⟨?_,?_,?_,?_,?_,?_,?_⟩
        .exact by simpa using hq
        all_goals exact cl0
     ·rw [decide_eq_false hB,bfa,bfa] at hq
      have hB' : c.group <= e.group:=by omega
      simp -implicitDefEqProofs (disch:=omega) only [h1,h2,h12,h13,h14,hh2_0,hlt,hm,hfi,hq,Nd.vv,hk0',hk1,hk2,he,hB',go_sem,↓reduceIte,rAz,rS,rE,rL,reduceCtorEq]
    ·have hk0' : ¬ (0 : Int) < k:=by omega
     rw [hpo,bta] at hq
     cases hC : inZ c.target 0 1048576 with
     | false =>
      rw [hC] at i1 hq
      simp -implicitDefEqProofs (disch:=omega) only [h1,h2,h12,h13,h14,hh2_0,hlt,hm,hfi,hq,Nd.vv,hk0',i1,bfa,go_sem,↓reduceIte,rAz,rS,rE,rL,reduceCtorEq]
     | true =>
      rw [hC] at i1 hq
      cases hD : inZ c.depth 1 256 with
      | false =>
       rw [hD] at i2 hq
       simp -implicitDefEqProofs (disch:=omega) only [h1,h2,h12,h13,h14,hh2_0,hlt,hm,hfi,hq,Nd.vv,hk0',i1,i2,bfa,Bool.and_false,go_sem,↓reduceIte,rAz,rS,rE,rL,reduceCtorEq]
      | true =>
       rw [hD] at i2 hq
       simp -implicitDefEqProofs (disch:=omega) only [h1,h2,h12,h13,h14,hh2_0,hlt,hm,hfi,Nd.vv,hk0',i1,i2,go_sem,↓reduceIte,rAz,rS,rE,rL,reduceCtorEq]
       try refine And.intro (by omega) ?_
       refine (hI _ _).2 ⟨?_,?_,?_,?_,?_,?_,?_⟩
       .exact by simpa using hq
       all_goals exact cl0
  ·have hT : ascD (knownN t.nodes) none l = true:=by
    rw [hq,List.drop_eq_nil_of_le (by omega)]
    rfl
   simp -implicitDefEqProofs (disch:=omega) only [h1,h2,h12,h13,h14,hh2_0,hge,hT,go_sem,↓reduceIte,rAz,rS,rE,rL,reduceCtorEq]
theorem dknown_eq (t : Tr) (id : Int) (hn : t.nodes.length < 1000000) : V 73 [t.vv,.p (.int .i64 id)] [] = some (.p (.bool (knownN t.nodes id)),[]):=by
 refine V_wp (vf:=vf73) rfl ?_
 have hfi:=ffind_eq t id hn
 unfold knownN
 generalize (findN t.nodes id).getD zeroNd = nd at hfi
 generalize (findN t.nodes id).isSome = b at hfi
 simp -implicitDefEqProofs (disch:=omega) only [vf73,vb73,hfi,Nd.vv,go_sem,↓reduceIte,rAz,rS,rE,rL,reduceCtorEq]
abbrev cfgV (m : Mdl) (speed margin : Int) : VVal:=.agg [.p (.int .i64 m.rb),.p (.int .i64 m.rp),.p (.int .i64 m.wb),.p (.int .i64 m.wp),.p (.int .i64 m.seek),.p (.int .i64 speed),.p (.int .i64 margin)]
theorem dconfig_eq (m : Mdl) (speed margin : Int) : V 63 [cfgV m speed margin] [] = some (.p (.bool (configOk m speed margin)),[]):=by
 refine V_wp (vf:=vf63) rfl ?_
 have i0:=cvalidM_eq m
 have i1:=din_eq speed 1 1000000
 have i2:=din_eq margin 0 1073741824
 unfold configOk
 cases h0 : modelOk m with
 | false =>
  rw [h0] at i0
  simp -implicitDefEqProofs (disch:=omega) only [vf63,vb63,i0,bfa,go_sem,↓reduceIte,rAz,rS,rE,rL,reduceCtorEq]
 | true =>
  rw [h0] at i0
  cases h1 : inZ speed 1 1000000 with
  | false =>
   rw [h1] at i1
   simp -implicitDefEqProofs (disch:=omega) only [vf63,vb63,i0,i1,bfa,bta,go_sem,↓reduceIte,rAz,rS,rE,rL,reduceCtorEq]
  | true =>
   rw [h1] at i1
   simp -implicitDefEqProofs (disch:=omega) only [vf63,vb63,i0,i1,i2,bta,go_sem,↓reduceIte,rAz,rS,rE,rL,reduceCtorEq]
theorem dsound_eq (b : Bk) (now : Int) : V 113 [b.vv,.p (.int .i64 now)] [] = some (.p (.bool (soundB now b)),[]):=by
 refine V_wp (vf:=vf113) rfl ?_
 have i0:=bvalid_eq b
 unfold soundB
 cases h0 : bkOk b with
 | false =>
  rw [h0] at i0
  simp -implicitDefEqProofs (disch:=omega) only [vf113,vb113,i0,bfa,go_sem,↓reduceIte,rAz,rS,rE,rL,reduceCtorEq]
 | true =>
  rw [h0] at i0
  cases h1 : decide (b.per = 100) with
  | false=>simp -implicitDefEqProofs (disch:=omega) only [vf113,vb113,i0,h1,bfa,bta,go_sem,↓reduceIte,rAz,rS,rE,rL,reduceCtorEq]
  | true=>simp -implicitDefEqProofs (disch:=omega) only [vf113,vb113,i0,h1,bta,go_sem,↓reduceIte,rAz,rS,rE,rL,reduceCtorEq]
theorem drequest_eq (t : Tr) (r : Rq) (hn : t.nodes.length < 1000000) : V 114 [t.vv,r.vv] [] = some (.p (.bool (soundR r && knownN t.nodes r.group)),[]):=by
 refine V_wp (vf:=vf114) rfl ?_
 have i0:=csound_eq r
 have i1:=dknown_eq t r.group hn
 cases h0 : soundR r with
 | false =>
  rw [h0] at i0
  simp -implicitDefEqProofs (disch:=omega) only [vf114,vb114,i0,bfa,go_sem,↓reduceIte,rAz,rS,rE,rL,reduceCtorEq]
 | true =>
  rw [h0] at i0
  simp -implicitDefEqProofs (disch:=omega) only [vf114,vb114,i0,i1,bta,go_sem,↓reduceIte,rAz,rS,rE,rL,reduceCtorEq]
abbrev cpsP (l : List Cp) : PV:=.slice 21 (l.map Cp.pv)
abbrev rqsP (l : List Rq) : PV:=.slice 6 (l.map Rq.pv)
abbrev flsP (l : List Fl) : PV:=.slice 7 (l.map Fl.pv)
abbrev Dv.vv (d : Dv) : VVal:=.agg [.p (.int .i64 d.m.rb),.p (.int .i64 d.m.rp),.p (.int .i64 d.m.wb),.p (.int .i64 d.m.wp),.p (.int .i64 d.m.seek),.p (.int .i64 d.speed),.p (.int .i64 d.margin),.p (.int .i64 d.now),.p (.int .i64 d.free),.p (.int .i64 d.head),.p (chsP d.weights),.p (cpsP d.buckets),.p (dpsP d.depths),.p (chsP d.v),.p (rqsP d.queue),.p (flsP d.flights)]
structure Dv.Small (d : Dv) : Prop where
 w : d.weights.length < 1000000
 b : d.buckets.length < 1000000
 p : d.depths.length < 1000000
 v : d.v.length < 1000000
 q : d.queue.length < 1000000
 f : d.flights.length < 1000000
def prevC (l : List Cp) : Nat -> Option Int
 | 0=>none
 | k + 1=>l[k]?.map Cp.group
theorem ascB_step {kn : Int -> Bool} {ok : Cp -> Bool} {l : List Cp} {k : Nat} {c : Cp} (hm : l[k]? = some c) : ascB kn ok (prevC l k) (l.drop k) = (kn c.group && prevOk (prevC l k) c.group && ok c && ascB kn ok (prevC l (k + 1)) (l.drop (k + 1))):=by
 have hk:=(lgs.1 hm).1
 rw [ldg hk]
 have e : l[k] = c:=by rw [lgg hk] at hm; exact Option.some.inj hm
 rw [e,ascB]
 simp [prevC,hm]
def prevF (l : List Fl) : Nat -> Option Int
 | 0=>none
 | k + 1=>l[k]?.map Fl.done
theorem flOk_step {kn : Int -> Bool} {l : List Fl} {k : Nat} {c : Fl} (hm : l[k]? = some c) : flOk kn (prevF l k) (l.drop k) = ((soundR c.r && kn c.r.group) && inZ c.done 0 1125899906842624 && prevLe (prevF l k) c.done && flOk kn (prevF l (k + 1)) (l.drop (k + 1))):=by
 have hk:=(lgs.1 hm).1
 rw [ldg hk]
 have e : l[k] = c:=by rw [lgg hk] at hm; exact Option.some.inj hm
 rw [e,flOk]
 simp [prevF,hm]
def idxP {α : Type} (p : α -> Bool) (l : List α) : Int:=match l.findIdx? p with
 | some i=>i
 | none=>-1
theorem idxP_at {α : Type} {p : α -> Bool} {l : List α} {k : Nat} {m : α} (hm : l[k]? = some m) (h : ∀ (i : Nat) (n : α),i < k -> l[i]? = some n -> p n = false) (he : p m = true) : idxP p l = k:=by
 unfold idxP
 have : l.findIdx? p = some k:=by
  rw [List.findIdx?_eq_some_iff_getElem]
  refine ⟨(lgs.1 hm).1,by rw [(lgs.1 hm).2]; exact he,fun j hj=>?_⟩
  have hl : j < l.length:=Nat.lt_trans hj (lgs.1 hm).1
  simpa using h j l[j] hj (lgg hl)
 rw [this]
theorem idxP_none {α : Type} {p : α -> Bool} {l : List α} (h : ∀ n ∈ l,p n = false) : idxP p l = -1:=by
 unfold idxP
 have : l.findIdx? p = none:=by
  rw [List.findIdx?_eq_none_iff]
  intro x hx
  simpa using h x hx
 rw [this]
theorem idxP_cases {α : Type} (p : α -> Bool) (l : List α) : (idxP p l = -1 /\ ∀ n ∈ l,p n = false) \/ ∃ (k : Nat) (m : α),idxP p l = k /\ l[k]? = some m /\ p m = true /\ ∀ (i : Nat) (n : α),i < k -> l[i]? = some n -> p n = false:=by
 unfold idxP
 cases h : l.findIdx? p with
 | none =>
  left
  rw [List.findIdx?_eq_none_iff] at h
  exact ⟨rfl,fun n hn=>by simpa using h n hn⟩
 | some k =>
  right
  rw [List.findIdx?_eq_some_iff_getElem] at h
  obtain ⟨h1,h2,h3⟩:=h
  refine ⟨k,l[k],rfl,lgg h1,h2,fun i n hi hn=>?_⟩
  have:=h3 i hi
  rw [<- (lgs.1 hn).2]
  simpa using this
theorem succ_P {α : Type} {p : α -> Bool} {l : List α} {k : Nat} {m : α} (hm : l[k]? = some m) (h : ∀ (i : Nat) (n : α),i < k -> l[i]? = some n -> p n = false) (he : p m = false) : ∀ (i : Nat) (n : α),i < k + 1 -> l[i]? = some n -> p n = false:=fun i n hi hn=>by
 by_cases hk : i = k
 ·subst hk
  rw [hm] at hn
  cases hn
  exact he
 .exact h i n (by omega) hn
theorem caps1_eq (c : Cp) (id : Int) : V 204 [.agg (c.pv.cells.map .p),.ptr (.arg 0 0) 0 0] [.box [.p (.int .i64 id)]] = some (.p (.bool (decide (c.group = id))),[.box [.p (.int .i64 id)]]):=by
 refine V_wp (vf:=vf204) rfl ?_
 simp -implicitDefEqProofs (disch:=omega) only [vf204,vb204,Cp.pv,PV.cells,go_sem,↓reduceIte,rAz,rS,rE,rL,reduceCtorEq]
theorem begin1_eq (r : Rq) (id : Int) : V 122 [r.vv,.ptr (.arg 0 0) 0 0] [.box [.p (.int .i64 id)]] = some (.p (.bool (decide (r.group = id))),[.box [.p (.int .i64 id)]]):=by
 refine V_wp (vf:=vf122) rfl ?_
 simp -implicitDefEqProofs (disch:=omega) only [vf122,vb122,go_sem,↓reduceIte,rAz,rS,rE,rL,reduceCtorEq]
theorem check1_eq (r : Rq) : V 225 [r.vv] [] = some (.p (.bool (!soundR r)),[]):=by
 refine V_wp (vf:=vf225) rfl ?_
 have i0:=csound_eq r
 simp -implicitDefEqProofs (disch:=omega) only [vf225,vb225,i0,go_sem,↓reduceIte,rAz,rS,rE,rL,reduceCtorEq]
theorem idxC_eq (ns : List Cp) (id : Int) (hl : ns.length < 1000000) : V 146 [.p (cpsP ns),.fn 204 [.ptr (.arg 0 0) 0 0]] [.box [.p (.int .i64 id)]] = some (.p (.int .i64 (idxP (fun c=>decide (c.group = id)) ns)),[.box [.p (.int .i64 id)]]):=by
 refine V_wp (vf:=vf146) rfl ?_
 simp -implicitDefEqProofs (disch:=omega) only [vf146,vb146,go_sem,↓reduceIte,rAz,rS,rE,rL,reduceCtorEq]
 refine wp_count ns.length (fun k s=>(∀ (i : Nat) (n : Cp),i < k -> ns[i]? = some n -> decide (n.group = id) = false) /\ s.pe 0 = .p (cpsP ns) /\ s.pe 1 = .fn 204 [.ptr (.arg 0 0) 0 0] /\ s.pe 7 = .p (.int .i64 ns.length) /\ s.pe 8 = .p (.int .i64 k) /\ s.h (.arg 0 0) = some (0,.box [.p (.int .i64 id)])) ?_ ?_
 ·exact ⟨by omega,rfl,rfl,rfl,rfl,rfl⟩
 ·rintro k s hk ⟨hall,h0,h1,h7,h8,hh⟩
  simp -implicitDefEqProofs (disch:=omega) only [h0,h1,h7,h8,hh,go_sem,↓reduceIte,rAz,rS,rE,rL,reduceCtorEq]
  refine wp_if_d (fun hlt=>?_) (fun hge=>?_)
  ·have hm : ns[k]? = some ns[k]:=lgg hlt
   generalize ns[k] = m at hm
   have hc:=caps1_eq m id
   simp only [Cp.pv,PV.cells,lpc,lpn] at hc
   cases hb : decide (m.group = id) with
   | true =>
    rw [hb] at hc
    simp -implicitDefEqProofs (disch:=omega) only [h0,h1,h7,h8,hh,hm,hc,Cp.pv,go_sem,↓reduceIte,rAz,rS,rE,rL,reduceCtorEq]
    rw [idxP_at hm hall hb]
   | false =>
    rw [hb] at hc
    simp -implicitDefEqProofs (disch:=omega) only [h0,h1,h7,h8,hh,hm,hc,Cp.pv,go_sem,↓reduceIte,rAz,rS,rE,rL,reduceCtorEq]
    exact ⟨hlt,succ_P hm hall hb,by simp only [Int.natCast_add,Int.natCast_one]⟩
  ·simp -implicitDefEqProofs (disch:=omega) only [h0,h1,h7,h8,hh,hge,go_sem,↓reduceIte,rAz,rS,rE,rL,reduceCtorEq]
   rw [idxP_none]
   intro n hn
   obtain ⟨i,hi⟩:=lgm hn
   exact hall i n (by have:=(lgs.1 hi).1; omega) hi
theorem idxQ_eq (ns : List Rq) (id : Int) (hl : ns.length < 1000000) : V 121 [.p (rqsP ns),.fn 122 [.ptr (.arg 0 0) 0 0]] [.box [.p (.int .i64 id)]] = some (.p (.int .i64 (idxP (fun c=>decide (c.group = id)) ns)),[.box [.p (.int .i64 id)]]):=by
 refine V_wp (vf:=vf121) rfl ?_
 simp -implicitDefEqProofs (disch:=omega) only [vf121,vb121,go_sem,↓reduceIte,rAz,rS,rE,rL,reduceCtorEq]
 refine wp_count ns.length (fun k s=>(∀ (i : Nat) (n : Rq),i < k -> ns[i]? = some n -> decide (n.group = id) = false) /\ s.pe 0 = .p (rqsP ns) /\ s.pe 1 = .fn 122 [.ptr (.arg 0 0) 0 0] /\ s.pe 7 = .p (.int .i64 ns.length) /\ s.pe 8 = .p (.int .i64 k) /\ s.h (.arg 0 0) = some (0,.box [.p (.int .i64 id)])) ?_ ?_
 ·exact ⟨by omega,rfl,rfl,rfl,rfl,rfl⟩
 ·rintro k s hk ⟨hall,h0,h1,h7,h8,hh⟩
  simp -implicitDefEqProofs (disch:=omega) only [h0,h1,h7,h8,hh,go_sem,↓reduceIte,rAz,rS,rE,rL,reduceCtorEq]
  refine wp_if_d (fun hlt=>?_) (fun hge=>?_)
  ·have hm : ns[k]? = some ns[k]:=lgg hlt
   generalize ns[k] = m at hm
   have hc:=begin1_eq m id
   cases hb : decide (m.group = id) with
   | true =>
    rw [hb] at hc
    simp -implicitDefEqProofs (disch:=omega) only [h0,h1,h7,h8,hh,hm,hc,go_sem,↓reduceIte,rAz,rS,rE,rL,reduceCtorEq]
    rw [idxP_at hm hall hb]
   | false =>
    rw [hb] at hc
    simp -implicitDefEqProofs (disch:=omega) only [h0,h1,h7,h8,hh,hm,hc,go_sem,↓reduceIte,rAz,rS,rE,rL,reduceCtorEq]
    exact ⟨hlt,succ_P hm hall hb,by simp only [Int.natCast_add,Int.natCast_one]⟩
  ·simp -implicitDefEqProofs (disch:=omega) only [h0,h1,h7,h8,hh,hge,go_sem,↓reduceIte,rAz,rS,rE,rL,reduceCtorEq]
   rw [idxP_none]
   intro n hn
   obtain ⟨i,hi⟩:=lgm hn
   exact hall i n (by have:=(lgs.1 hi).1; omega) hi
theorem idxS_eq (ns : List Rq) (hl : ns.length < 1000000) : V 121 [.p (rqsP ns),.p (.fn 225)] [] = some (.p (.int .i64 (idxP (fun c=>!soundR c) ns)),[]):=by
 refine V_wp (vf:=vf121) rfl ?_
 simp -implicitDefEqProofs (disch:=omega) only [vf121,vb121,go_sem,↓reduceIte,rAz,rS,rE,rL,reduceCtorEq]
 refine wp_count ns.length (fun k s=>(∀ (i : Nat) (n : Rq),i < k -> ns[i]? = some n -> (!soundR n) = false) /\ s.pe 0 = .p (rqsP ns) /\ s.pe 1 = .p (.fn 225) /\ s.pe 7 = .p (.int .i64 ns.length) /\ s.pe 8 = .p (.int .i64 k)) ?_ ?_
 ·exact ⟨by omega,rfl,rfl,rfl,rfl⟩
 ·rintro k s hk ⟨hall,h0,h1,h7,h8⟩
  simp -implicitDefEqProofs (disch:=omega) only [h0,h1,h7,h8,go_sem,↓reduceIte,rAz,rS,rE,rL,reduceCtorEq]
  refine wp_if_d (fun hlt=>?_) (fun hge=>?_)
  ·have hm : ns[k]? = some ns[k]:=lgg hlt
   generalize ns[k] = m at hm
   have hc:=check1_eq m
   cases hb : !soundR m with
   | true =>
    rw [hb] at hc
    simp -implicitDefEqProofs (disch:=omega) only [h0,h1,h7,h8,hm,hc,go_sem,↓reduceIte,rAz,rS,rE,rL,reduceCtorEq]
    rw [idxP_at hm hall hb]
   | false =>
    rw [hb] at hc
    simp -implicitDefEqProofs (disch:=omega) only [h0,h1,h7,h8,hm,hc,go_sem,↓reduceIte,rAz,rS,rE,rL,reduceCtorEq]
    exact ⟨hlt,succ_P hm hall hb,by simp only [Int.natCast_add,Int.natCast_one]⟩
  ·simp -implicitDefEqProofs (disch:=omega) only [h0,h1,h7,h8,hge,go_sem,↓reduceIte,rAz,rS,rE,rL,reduceCtorEq]
   rw [idxP_none]
   intro n hn
   obtain ⟨i,hi⟩:=lgm hn
   exact hall i n (by have:=(lgs.1 hi).1; omega) hi
theorem ccheck_eq (m : Mdl) (r : Rq) (head : Int) (hm : modelOk m = true) (hr : soundR r = true) (hh : 0 <= head /\ head <= 16777216) : V 184 [m.vv,.p (rqsP [r]),.p (.int .i64 head)] [] = some (.p (.int .i64 0),[]):=by
 refine V_wp (vf:=vf184) rfl ?_
 have i0:=cvalidM_eq m
 rw [hm] at i0
 have hc : V 224 [.p (rqsP [r]),.p (.fn 225)] [] = some (.p (.bool false),[]):=by
  refine V_wp (vf:=vf224) rfl ?_
  have hi:=idxS_eq [r] (by simp)
  rw [idxP_none (fun n hn=>by rw [List.mem_singleton] at hn; subst hn; rw [hr]; rfl)] at hi
  have hd : decide ((0 : Int) <= -1) = false:=rfl
  simp -implicitDefEqProofs (disch:=omega) only [vf224,vb224,hi,hd,go_sem,↓reduceIte,rAz,rS,rE,rL,reduceCtorEq]
 have i1:=cin_eq head 0 16777216
 rw [show inZ head 0 16777216 = true from inZ_iff.2 hh] at i1
 simp -implicitDefEqProofs (disch:=omega) only [vf184,vb184,i0,hc,i1,go_sem,↓reduceIte,rAz,rS,rE,rL,reduceCtorEq]
theorem ccost_eq (m : Mdl) (r : Rq) (head : Int) (hm : modelOk m = true) (hr : soundR r = true) : V 185 [m.vv,r.vv,.p (.int .i64 head)] [] = some (.p (.int .i64 (costR m r head)),[]):=by
 refine V_wp (vf:=vf185) rfl ?_
 rw [modelOk_iff] at hm
 rw [soundR_iff] at hr
 have h1:=mul_range (a:=m.rp) (b:=r.pages) (A:=1000000) (B:=4096) hm.2.1.1 hm.2.1.2 (by omega) (by omega)
 have h2:=mul_range (a:=m.wp) (b:=r.pages) (A:=1000000) (B:=4096) hm.2.2.2.1.1 hm.2.2.2.1.2 (by omega) (by omega)
 have e1 : ([.p (.int .i64 m.rb),.p (.int .i64 m.wb)] : List VVal)[Int.toNat 0 * 1]? = some (.p (.int .i64 m.rb)):=rfl
 have e2 : ([.p (.int .i64 m.rb),.p (.int .i64 m.wb)] : List VVal)[Int.toNat 1 * 1]? = some (.p (.int .i64 m.wb)):=rfl
 have e3 : ([.p (.int .i64 m.rp),.p (.int .i64 m.wp)] : List VVal)[Int.toNat 0 * 1]? = some (.p (.int .i64 m.rp)):=rfl
 have e4 : ([.p (.int .i64 m.rp),.p (.int .i64 m.wp)] : List VVal)[Int.toNat 1 * 1]? = some (.p (.int .i64 m.wp)):=rfl
 unfold costR
 cases hw : r.write with
 | false =>
  by_cases ha : r.at_ = head
  .simp -implicitDefEqProofs (disch:=omega) only [vf185,vb185,hw,ha,e1,e2,e3,e4,Int.add_zero,go_sem,↓reduceIte,rAz,rS,rE,rL,reduceCtorEq]
  .simp -implicitDefEqProofs (disch:=omega) only [vf185,vb185,hw,ha,e1,e2,e3,e4,go_sem,↓reduceIte,rAz,rS,rE,rL,reduceCtorEq]
 | true =>
  by_cases ha : r.at_ = head
  .simp -implicitDefEqProofs (disch:=omega) only [vf185,vb185,hw,ha,e1,e2,e3,e4,Int.add_zero,go_sem,↓reduceIte,rAz,rS,rE,rL,reduceCtorEq]
  .simp -implicitDefEqProofs (disch:=omega) only [vf185,vb185,hw,ha,e1,e2,e3,e4,go_sem,↓reduceIte,rAz,rS,rE,rL,reduceCtorEq]
theorem cost_eq (m : Mdl) (r : Rq) (head : Int) (hm : modelOk m = true) (hr : soundR r = true) (hh : 0 <= head /\ head <= 16777216) : V 123 [m.vv,r.vv,.p (.int .i64 head)] [] = some (.tup [.p (.int .i64 (costR m r head)),.p (.int .i64 0)],[]):=by
 refine V_wp (vf:=vf123) rfl ?_
 have i0:=ccheck_eq m r head hm hr hh
 have i0 : V 184 [.agg m.cs,.p (.slice 6 [r.pv]),.p (.int .i64 head)] [] = some (.p (.int .i64 0),[]):=i0
 simp only [Rq.pv] at i0
 have i1:=ccost_eq m r head hm hr
 simp -implicitDefEqProofs (disch:=omega) only [vf123,vb123,i0,i1,go_sem,↓reduceIte,rAz,rS,rE,rL,reduceCtorEq]
set_option maxHeartbeats 4000000 in
theorem dvalid_eq (t : Tr) (d : Dv) (hf : t.Fits) (hn : t.nodes.length < 1000000) (hs : d.Small) : V 51 [t.vv,d.vv] [] = some (.p (.bool (validDv t d)),[]):=by
 refine V_wp (vf := vf51) rfl ?_
 obtain ⟨hs1, hs2, hs3, hs4, hs5, hs6⟩:=hs
 have j0 := tcheck_eq t hf hn
 have j1 := dconfig_eq d.m d.speed d.margin
 have j2 := din_eq d.now 0 1048576
 have j3 := din_eq d.free 0 1125899906842624
 have j4 := din_eq d.head 0 16777216
 have j5 := ivalid_eq t d.weights hf hn hs1
 have j6 := lvalid_eq t d.depths hf hn hs3
 have j7 := icheck_eq t d.v hf hn hs4
 obtain ⟨X, hX⟩ : ∃ X, validDv t d = X:=⟨_, rfl⟩
 rw [hX]
 unfold validDv at hX
 cases c0 : treeOk t with
 | false =>
  rw [c0] at j0
  have hF : X = false:=by
   rw [← hX]
   simp [c0, ]
  simp -implicitDefEqProofs (disch:=omega) only [vf51,vb51,llm,j0,hF,go_sem,↓reduceIte,rAz,rS,rE,rL,reduceCtorEq]
 | true =>
  rw [c0] at j0
  rw [c0, Bool.true_and] at j6
  cases c1 : configOk d.m d.speed d.margin with
  | false =>
   rw [c1] at j1
   have hF : X = false:=by
    rw [← hX]
    simp [c0, c1, ]
   simp -implicitDefEqProofs (disch:=omega) only [vf51,vb51,llm,j0,j1,hF,go_sem,↓reduceIte,rAz,rS,rE,rL,reduceCtorEq]
  | true =>
   rw [c1] at j1
   cases c2 : inZ d.now 0 1048576 with
   | false =>
    rw [c2] at j2
    have hF : X = false:=by
     rw [← hX]
     simp [c0, c1, c2, ]
    simp -implicitDefEqProofs (disch:=omega) only [vf51,vb51,llm,j0,j1,j2,hF,go_sem,↓reduceIte,rAz,rS,rE,rL,reduceCtorEq]
   | true =>
    rw [c2] at j2
    cases c3 : inZ d.free 0 1125899906842624 with
    | false =>
     rw [c3] at j3
     have hF : X = false:=by
      rw [← hX]
      simp [c0, c1, c2, c3, ]
     simp -implicitDefEqProofs (disch:=omega) only [vf51,vb51,llm,j0,j1,j2,j3,hF,go_sem,↓reduceIte,rAz,rS,rE,rL,reduceCtorEq]
    | true =>
     rw [c3] at j3
     cases c4 : inZ d.head 0 16777216 with
     | false =>
      rw [c4] at j4
      have hF : X = false:=by
       rw [← hX]
       simp [c0, c1, c2, c3, c4, ]
      simp -implicitDefEqProofs (disch:=omega) only [vf51,vb51,llm,j0,j1,j2,j3,j4,hF,go_sem,↓reduceIte,rAz,rS,rE,rL,reduceCtorEq]
     | true =>
      rw [c4] at j4
      cases c5 : validW t d.weights with
      | false =>
       rw [c5] at j5
       have hF : X = false:=by
        rw [← hX]
        simp [c0, c1, c2, c3, c4, c5, ]
       simp -implicitDefEqProofs (disch:=omega) only [vf51,vb51,llm,j0,j1,j2,j3,j4,j5,hF,go_sem,↓reduceIte,rAz,rS,rE,rL,reduceCtorEq]
      | true =>
       rw [c5] at j5
       cases c6 : ascD (knownN t.nodes) none d.depths with
       | false =>
        rw [c6] at j6
        have hF : X = false:=by
         rw [← hX]
         simp [c0, c1, c2, c3, c4, c5, c6, ]
        simp -implicitDefEqProofs (disch:=omega) only [vf51,vb51,llm,j0,j1,j2,j3,j4,j5,j6,hF,go_sem,↓reduceIte,rAz,rS,rE,rL,reduceCtorEq]
       | true =>
        rw [c6] at j6
        cases c7 : checkA t d.v with
        | false =>
         rw [c7] at j7
         have hF : X = false:=by
          rw [← hX]
          simp [c0, c1, c2, c3, c4, c5, c6, c7, ]
         simp -implicitDefEqProofs (disch:=omega) only [vf51,vb51,llm,j0,j1,j2,j3,j4,j5,j6,j7,hF,go_sem,↓reduceIte,rAz,rS,rE,rL,reduceCtorEq]
        | true =>
         rw [c7] at j7
         by_cases c8 : d.queue.length + d.flights.length <= 256
         ·have c8a : ¬ (256 : Int) < (d.queue.length : Int) + (d.flights.length : Int):=by omega
          have hY : X = (ascB (knownN t.nodes) (capsB d.now) none d.buckets && d.queue.all (fun r=>soundR r && knownN t.nodes r.group) && flOk (knownN t.nodes) none d.flights):=by
           rw [← hX]
           simp [c0,c1,c2,c3,c4,c5,c6,c7,c8,Bool.and_assoc]
          simp -implicitDefEqProofs (disch:=omega) only [vf51,vb51,j0,j1,j2,j3,j4,j5,j6,j7,c8a,go_sem,↓reduceIte,rAz,rS,rE,rL,reduceCtorEq]
          obtain ⟨I,hI⟩ : ∃ I : Nat -> St -> Prop,∀ k s,I k s ↔ ascB (knownN t.nodes) (capsB d.now) none d.buckets = ascB (knownN t.nodes) (capsB d.now) (prevC d.buckets k) (d.buckets.drop k) /\ s.pe 2 = .ptr (.slot 2 0) 0 0 /\ s.pe 3 = .ptr (.slot 3 0) 0 0 /\ s.pe 68 = .p (cpsP d.buckets) /\ s.pe 69 = .p (.int .i64 d.buckets.length) /\ s.pe 70 = .p (.int .i64 k) /\ s.h (.slot 2 0) = some (0,.box [.p (nodesP t.nodes),.p (.int .i64 t.next)]) /\ s.h (.slot 3 0) = some (0,.box [.p (.int .i64 d.m.rb),.p (.int .i64 d.m.rp),.p (.int .i64 d.m.wb),.p (.int .i64 d.m.wp),.p (.int .i64 d.m.seek),.p (.int .i64 d.speed),.p (.int .i64 d.margin),.p (.int .i64 d.now),.p (.int .i64 d.free),.p (.int .i64 d.head),.p (chsP d.weights),.p (cpsP d.buckets),.p (dpsP d.depths),.p (chsP d.v),.p (rqsP d.queue),.p (flsP d.flights)]):=⟨_,fun _ _=>Iff.rfl⟩
          refine wp_count (d.buckets.length) I ?_ ?_
          ·refine (hI _ _).2 ⟨?_,?_,?_,?_,?_,?_,?_,?_⟩
           ·exact cl3
           all_goals exact cl0
          intro k s hk hIk
          obtain ⟨hq,h2,h3,h68,h69,h70,hh2_0,hh3_0⟩:=(hI _ _).1 hIk
          clear hIk
          simp -implicitDefEqProofs (disch:=omega) only [h2,h3,h68,h69,h70,hh2_0,hh3_0,go_sem,↓reduceIte,rAz,rS,rE,rL,reduceCtorEq]
          refine wp_if_d (fun hlt=>?_) (fun hge=>?_)
          ·have hm : d.buckets[k]? = some d.buckets[k]:=lgg hlt
           generalize d.buckets[k] = c at hm
           rw [ascB_step hm] at hq
           have k0 := dknown_eq t c.group hn
           have k1 := dsound_eq c.rp d.now
           have k2 := dsound_eq c.wp d.now
           have k3 := dsound_eq c.ro d.now
           have k4 := dsound_eq c.wo d.now
           have ord : (∃ e,0 < k /\ d.buckets[k - 1]? = some e /\ (prevOk (prevC d.buckets k) c.group = decide (e.group < c.group))) \/ (k = 0 /\ prevOk (prevC d.buckets k) c.group = true):=by
            cases k with
            | zero => exact .inr ⟨rfl,rfl⟩
            | succ k' =>
             have hk' : k' < d.buckets.length:=by omega
             refine .inl ⟨d.buckets[k'],by omega,by simp,?_⟩
             simp [prevC,lgg hk',prevOk]
           rcases ord with ⟨e,hk0,he,hpo⟩ | ⟨hk0,hpo⟩
           ·have hk0' : (0 : Int) < k:=by omega
            have hk1 : (0 : Int) <= (k : Int) - 1:=by omega
            have hk2 : ((k : Int) - 1).toNat = k - 1:=by omega
            cases b0 : knownN t.nodes c.group with
            | false =>
             rw [b0] at k0
             have hF : X = false:=by rw [hY,hq]; simp [b0]
             simp -implicitDefEqProofs (disch:=omega) only [h2,h3,h68,h69,h70,hh2_0,hh3_0,hlt,hm,Cp.pv,hk0',hk1,hk2,he,k0,hF,go_sem,↓reduceIte,rAz,rS,rE,rL,reduceCtorEq]
            | true =>
             rw [b0] at k0
             by_cases hR' : e.group < c.group
             ·have hR : ¬ c.group <= e.group:=by omega
              cases c0 : soundB d.now c.rp with
              | false =>
               rw [c0] at k1
               have hF : X = false:=by
                rw [hY,hq]
                simp [c0,capsB,b0]
               simp -implicitDefEqProofs (disch:=omega) only [h2,h3,h68,h69,h70,hh2_0,hh3_0,hlt,hm,Cp.pv,hk0',hk1,hk2,he,k0,hR,k1,hF,go_sem,↓reduceIte,rAz,rS,rE,rL,reduceCtorEq]
              | true =>
               rw [c0] at k1
               cases c1 : soundB d.now c.wp with
               | false =>
                rw [c1] at k2
                have hF : X = false:=by
                 rw [hY,hq]
                 simp [c0,c1,capsB,b0]
                simp -implicitDefEqProofs (disch:=omega) only [h2,h3,h68,h69,h70,hh2_0,hh3_0,hlt,hm,Cp.pv,hk0',hk1,hk2,he,k0,hR,k1,k2,hF,go_sem,↓reduceIte,rAz,rS,rE,rL,reduceCtorEq]
               | true =>
                rw [c1] at k2
                cases c2 : soundB d.now c.ro with
                | false =>
                 rw [c2] at k3
                 have hF : X = false:=by
                  rw [hY,hq]
                  simp [c0,c1,c2,capsB,b0]
                 simp -implicitDefEqProofs (disch:=omega) only [h2,h3,h68,h69,h70,hh2_0,hh3_0,hlt,hm,Cp.pv,hk0',hk1,hk2,he,k0,hR,k1,k2,k3,hF,go_sem,↓reduceIte,rAz,rS,rE,rL,reduceCtorEq]
                | true =>
                 rw [c2] at k3
                 cases c3 : soundB d.now c.wo with
                 | false =>
                  rw [c3] at k4
                  have hF : X = false:=by
                   rw [hY,hq]
                   simp [c0,c1,c2,c3,capsB,b0]
                  simp -implicitDefEqProofs (disch:=omega) only [h2,h3,h68,h69,h70,hh2_0,hh3_0,hlt,hm,Cp.pv,hk0',hk1,hk2,he,k0,hR,k1,k2,k3,k4,hF,go_sem,↓reduceIte,rAz,rS,rE,rL,reduceCtorEq]
                 | true =>
                  rw [c3] at k4
                  simp -implicitDefEqProofs (disch:=omega) only [h2,h3,h68,h69,h70,hh2_0,hh3_0,hlt,hm,Cp.pv,hk0',hk1,hk2,he,k0,hR,k1,k2,k3,k4,go_sem,↓reduceIte,rAz,rS,rE,rL,reduceCtorEq]
                  try refine And.intro (by omega) ?_
                  refine (hI _ _).2 ⟨?_,?_,?_,?_,?_,?_,?_,?_⟩
                  .exact by rw [hq]; simp [capsB,b0,c0,c1,c2,c3,hpo,hR']
                  all_goals exact cl0
             ·have hR : c.group <= e.group:=by omega
              have hF : X = false:=by rw [hY,hq,hpo]; simp [b0,hR']
              simp -implicitDefEqProofs (disch:=omega) only [h2,h3,h68,h69,h70,hh2_0,hh3_0,hlt,hm,Cp.pv,hk0',hk1,hk2,he,k0,hR,hF,go_sem,↓reduceIte,rAz,rS,rE,rL,reduceCtorEq]
           ·have hk0' : ¬ (0 : Int) < k:=by omega
            cases b0 : knownN t.nodes c.group with
            | false =>
             rw [b0] at k0
             have hF : X = false:=by rw [hY,hq]; simp [b0]
             simp -implicitDefEqProofs (disch:=omega) only [h2,h3,h68,h69,h70,hh2_0,hh3_0,hlt,hm,Cp.pv,hk0',k0,hF,go_sem,↓reduceIte,rAz,rS,rE,rL,reduceCtorEq]
            | true =>
             rw [b0] at k0
             cases c0 : soundB d.now c.rp with
             | false =>
              rw [c0] at k1
              have hF : X = false:=by
               rw [hY,hq]
               simp [c0,capsB,b0]
              simp -implicitDefEqProofs (disch:=omega) only [h2,h3,h68,h69,h70,hh2_0,hh3_0,hlt,hm,Cp.pv,hk0',k0,k1,hF,go_sem,↓reduceIte,rAz,rS,rE,rL,reduceCtorEq]
             | true =>
              rw [c0] at k1
              cases c1 : soundB d.now c.wp with
              | false =>
               rw [c1] at k2
               have hF : X = false:=by
                rw [hY,hq]
                simp [c0,c1,capsB,b0]
               simp -implicitDefEqProofs (disch:=omega) only [h2,h3,h68,h69,h70,hh2_0,hh3_0,hlt,hm,Cp.pv,hk0',k0,k1,k2,hF,go_sem,↓reduceIte,rAz,rS,rE,rL,reduceCtorEq]
              | true =>
               rw [c1] at k2
               cases c2 : soundB d.now c.ro with
               | false =>
                rw [c2] at k3
                have hF : X = false:=by
                 rw [hY,hq]
                 simp [c0,c1,c2,capsB,b0]
                simp -implicitDefEqProofs (disch:=omega) only [h2,h3,h68,h69,h70,hh2_0,hh3_0,hlt,hm,Cp.pv,hk0',k0,k1,k2,k3,hF,go_sem,↓reduceIte,rAz,rS,rE,rL,reduceCtorEq]
               | true =>
                rw [c2] at k3
                cases c3 : soundB d.now c.wo with
                | false =>
                 rw [c3] at k4
                 have hF : X = false:=by
                  rw [hY,hq]
                  simp [c0,c1,c2,c3,capsB,b0]
                 simp -implicitDefEqProofs (disch:=omega) only [h2,h3,h68,h69,h70,hh2_0,hh3_0,hlt,hm,Cp.pv,hk0',k0,k1,k2,k3,k4,hF,go_sem,↓reduceIte,rAz,rS,rE,rL,reduceCtorEq]
                | true =>
                 rw [c3] at k4
                 simp -implicitDefEqProofs (disch:=omega) only [h2,h3,h68,h69,h70,hh2_0,hh3_0,hlt,hm,Cp.pv,hk0',k0,k1,k2,k3,k4,go_sem,↓reduceIte,rAz,rS,rE,rL,reduceCtorEq]
                 try refine And.intro (by omega) ?_
                 refine (hI _ _).2 ⟨?_,?_,?_,?_,?_,?_,?_,?_⟩
                 .exact by rw [hq]; simp [capsB,b0,c0,c1,c2,c3,hpo]
                 all_goals exact cl0
          ·have hT : ascB (knownN t.nodes) (capsB d.now) none d.buckets = true:=by
            rw [hq,List.drop_eq_nil_of_le (by omega)]; rfl
           rw [hT,bta] at hY
           simp -implicitDefEqProofs (disch:=omega) only [h2,h3,h68,h69,h70,hh2_0,hh3_0,hge,go_sem,↓reduceIte,rAz,rS,rE,rL,reduceCtorEq]
           obtain ⟨A,hA⟩ : ∃ I : Nat -> St -> Prop,∀ k s,I k s ↔ d.queue.all (fun r=>soundR r && knownN t.nodes r.group) = (d.queue.drop k).all (fun r=>soundR r && knownN t.nodes r.group) /\ s.pe 2 = .ptr (.slot 2 0) 0 0 /\ s.pe 3 = .ptr (.slot 3 0) 0 0 /\ s.pe 130 = .p (rqsP d.queue) /\ s.pe 131 = .p (.int .i64 d.queue.length) /\ s.pe 132 = .p (.int .i64 k) /\ s.h (.slot 2 0) = some (0,.box [.p (nodesP t.nodes),.p (.int .i64 t.next)]) /\ s.h (.slot 3 0) = some (0,.box [.p (.int .i64 d.m.rb),.p (.int .i64 d.m.rp),.p (.int .i64 d.m.wb),.p (.int .i64 d.m.wp),.p (.int .i64 d.m.seek),.p (.int .i64 d.speed),.p (.int .i64 d.margin),.p (.int .i64 d.now),.p (.int .i64 d.free),.p (.int .i64 d.head),.p (chsP d.weights),.p (cpsP d.buckets),.p (dpsP d.depths),.p (chsP d.v),.p (rqsP d.queue),.p (flsP d.flights)]):=⟨_,fun _ _=>Iff.rfl⟩
           refine wp_count (d.queue.length) A ?_ ?_
           ·refine (hA _ _).2 ⟨?_,?_,?_,?_,?_,?_,?_,?_⟩
            ·exact cl3
            all_goals exact cl0
           intro k s hk hAk
           obtain ⟨hq,h2,h3,h130,h131,h132,hh2_0,hh3_0⟩:=(hA _ _).1 hAk
           clear hAk
           simp -implicitDefEqProofs (disch:=omega) only [h2,h3,h130,h131,h132,hh2_0,hh3_0,go_sem,↓reduceIte,rAz,rS,rE,rL,reduceCtorEq]
           refine wp_if_d (fun hlt=>?_) (fun hge=>?_)
           ·have hm : d.queue[k]? = some d.queue[k]:=lgg hlt
            have hlt2 : k < d.queue.length:=by omega
            have hd : (d.queue.drop k).all (fun r=>soundR r && knownN t.nodes r.group) = ((soundR d.queue[k] && knownN t.nodes d.queue[k].group) && (d.queue.drop (k + 1)).all (fun r=>soundR r && knownN t.nodes r.group)):=by
             rw [ldg (by omega),List.all_cons]
            generalize d.queue[k] = c at hm hd
            rw [hd] at hq
            have k0:=drequest_eq t c hn
            cases b0 : soundR c && knownN t.nodes c.group with
            | false =>
             rw [b0] at k0 hq
             have hF : X = false:=by rw [hY,hq,bfa,bfa]
             simp -implicitDefEqProofs (disch:=omega) only [h2,h3,h130,h131,h132,hh2_0,hh3_0,hlt,hm,k0,hF,go_sem,↓reduceIte,rAz,rS,rE,rL,reduceCtorEq]
            | true =>
             rw [b0] at k0 hq
             simp -implicitDefEqProofs (disch:=omega) only [h2,h3,h130,h131,h132,hh2_0,hh3_0,hlt,hm,k0,go_sem,↓reduceIte,rAz,rS,rE,rL,reduceCtorEq]
             try refine And.intro (by omega) ?_
             refine (hA _ _).2 ⟨?_,?_,?_,?_,?_,?_,?_,?_⟩
             ·exact hq.trans (bta _)
             all_goals exact cl0
           ·have hT : d.queue.all (fun r=>soundR r && knownN t.nodes r.group) = true:=by
             rw [hq,List.drop_eq_nil_of_le (by omega)]; rfl
            rw [hT,bta] at hY
            simp -implicitDefEqProofs (disch:=omega) only [h2,h3,h130,h131,h132,hh2_0,hh3_0,hge,go_sem,↓reduceIte,rAz,rS,rE,rL,reduceCtorEq]
            obtain ⟨B,hB⟩ : ∃ I : Nat -> St -> Prop,∀ k s,I k s ↔ flOk (knownN t.nodes) none d.flights = flOk (knownN t.nodes) (prevF d.flights k) (d.flights.drop k) /\ s.pe 2 = .ptr (.slot 2 0) 0 0 /\ s.pe 3 = .ptr (.slot 3 0) 0 0 /\ s.pe 142 = .p (flsP d.flights) /\ s.pe 143 = .p (.int .i64 d.flights.length) /\ s.pe 144 = .p (.int .i64 k) /\ s.h (.slot 2 0) = some (0,.box [.p (nodesP t.nodes),.p (.int .i64 t.next)]) /\ s.h (.slot 3 0) = some (0,.box [.p (.int .i64 d.m.rb),.p (.int .i64 d.m.rp),.p (.int .i64 d.m.wb),.p (.int .i64 d.m.wp),.p (.int .i64 d.m.seek),.p (.int .i64 d.speed),.p (.int .i64 d.margin),.p (.int .i64 d.now),.p (.int .i64 d.free),.p (.int .i64 d.head),.p (chsP d.weights),.p (cpsP d.buckets),.p (dpsP d.depths),.p (chsP d.v),.p (rqsP d.queue),.p (flsP d.flights)]):=⟨_,fun _ _=>Iff.rfl⟩
            refine wp_count (d.flights.length) B ?_ ?_
            ·refine (hB _ _).2 ⟨?_,?_,?_,?_,?_,?_,?_,?_⟩
             ·exact cl3
             all_goals exact cl0
            intro k s hk hBk
            obtain ⟨hq,h2,h3,h142,h143,h144,hh2_0,hh3_0⟩:=(hB _ _).1 hBk
            clear hBk
            simp -implicitDefEqProofs (disch:=omega) only [h2,h3,h142,h143,h144,hh2_0,hh3_0,go_sem,↓reduceIte,rAz,rS,rE,rL,reduceCtorEq]
            refine wp_if_d (fun hlt=>?_) (fun hge=>?_)
            ·have hm : d.flights[k]? = some d.flights[k]:=lgg hlt
             generalize d.flights[k] = c at hm
             rw [flOk_step hm] at hq
             have k0:=drequest_eq t c.r hn
             have k1:=din_eq c.done 0 1125899906842624
             have ord : (∃ e,0 < k /\ d.flights[k - 1]? = some e /\ (prevLe (prevF d.flights k) c.done = decide (e.done <= c.done))) \/ (k = 0 /\ prevLe (prevF d.flights k) c.done = true):=by
              cases k with
              | zero=>exact .inr ⟨rfl,rfl⟩
              | succ k' =>
               have hk' : k' < d.flights.length:=by omega
               refine .inl ⟨d.flights[k'],by omega,by simp,?_⟩
               simp [prevF,lgg hk',prevLe]
             rcases ord with ⟨e,hk0,he,hpo⟩ | ⟨hk0,hpo⟩
             ·have hk0' : (0 : Int) < k:=by omega
              have hk1 : (0 : Int) <= (k : Int) - 1:=by omega
              have hk2 : ((k : Int) - 1).toNat = k - 1:=by omega
              cases b0 : soundR c.r && knownN t.nodes c.r.group with
              | false =>
               rw [b0] at k0 hq
               have hF : X = false:=by rw [hY,hq,bfa,bfa,bfa]
               simp -implicitDefEqProofs (disch:=omega) only [h2,h3,h142,h143,h144,hh2_0,hh3_0,hlt,hm,hk0',hk1,hk2,he,k0,hF,go_sem,↓reduceIte,rAz,rS,rE,rL,reduceCtorEq]
              | true =>
               rw [b0] at k0 hq
               cases b1 : inZ c.done 0 1125899906842624 with
               | false =>
                rw [b1] at k1 hq
                have hF : X = false:=by rw [hY,hq]; rfl
                simp -implicitDefEqProofs (disch:=omega) only [h2,h3,h142,h143,h144,hh2_0,hh3_0,hlt,hm,hk0',hk1,hk2,he,k0,k1,hF,go_sem,↓reduceIte,rAz,rS,rE,rL,reduceCtorEq]
               | true =>
                rw [b1,hpo] at hq
                rw [b1] at k1
                by_cases hR' : e.done <= c.done
                ·have hR : ¬ c.done < e.done:=by omega
                 rw [decide_eq_true hR'] at hq
                 simp -implicitDefEqProofs (disch:=omega) only [h2,h3,h142,h143,h144,hh2_0,hh3_0,hlt,hm,hk0',hk1,hk2,he,k0,k1,hR,go_sem,↓reduceIte,rAz,rS,rE,rL,reduceCtorEq]
                 try refine And.intro (by omega) ?_
                 refine (hB _ _).2 ⟨?_,?_,?_,?_,?_,?_,?_,?_⟩
                 .exact by simpa using hq
                 all_goals exact cl0
                ·have hR : c.done < e.done:=by omega
                 rw [decide_eq_false hR'] at hq
                 have hF : X = false:=by rw [hY,hq]; rfl
                 simp -implicitDefEqProofs (disch:=omega) only [h2,h3,h142,h143,h144,hh2_0,hh3_0,hlt,hm,hk0',hk1,hk2,he,k0,k1,hR,hF,go_sem,↓reduceIte,rAz,rS,rE,rL,reduceCtorEq]
             ·have hk0' : ¬ (0 : Int) < k:=by omega
              cases b0 : soundR c.r && knownN t.nodes c.r.group with
              | false =>
               rw [b0] at k0 hq
               have hF : X = false:=by rw [hY,hq,bfa,bfa,bfa]
               simp -implicitDefEqProofs (disch:=omega) only [h2,h3,h142,h143,h144,hh2_0,hh3_0,hlt,hm,hk0',k0,hF,go_sem,↓reduceIte,rAz,rS,rE,rL,reduceCtorEq]
              | true =>
               rw [b0] at k0 hq
               cases b1 : inZ c.done 0 1125899906842624 with
               | false =>
                rw [b1] at k1 hq
                have hF : X = false:=by rw [hY,hq]; rfl
                simp -implicitDefEqProofs (disch:=omega) only [h2,h3,h142,h143,h144,hh2_0,hh3_0,hlt,hm,hk0',k0,k1,hF,go_sem,↓reduceIte,rAz,rS,rE,rL,reduceCtorEq]
               | true =>
                rw [b1,hpo] at hq
                rw [b1] at k1
                simp -implicitDefEqProofs (disch:=omega) only [h2,h3,h142,h143,h144,hh2_0,hh3_0,hlt,hm,hk0',k0,k1,go_sem,↓reduceIte,rAz,rS,rE,rL,reduceCtorEq]
                try refine And.intro (by omega) ?_
                refine (hB _ _).2 ⟨?_,?_,?_,?_,?_,?_,?_,?_⟩
                .exact by simpa using hq
                all_goals exact cl0
            ·have hT : flOk (knownN t.nodes) none d.flights = true:=by
              rw [hq,List.drop_eq_nil_of_le (by omega)]; rfl
             rw [hT] at hY
             simp -implicitDefEqProofs (disch:=omega) only [h2,h3,h142,h143,h144,hh2_0,hh3_0,hge,hY,go_sem,↓reduceIte,rAz,rS,rE,rL,reduceCtorEq]
         ·have c8a : (256 : Int) < (d.queue.length : Int) + (d.flights.length : Int):=by omega
          have hF : X = false:=by
           rw [<- hX]
           simp [c8]
          simp -implicitDefEqProofs (disch:=omega) only [vf51,vb51,j0,j1,j2,j3,j4,j5,j6,j7,c8a,hF,go_sem,↓reduceIte,rAz,rS,rE,rL,reduceCtorEq]
theorem adv_same {b : Bk} (h : bkOk b = true) : advB b b.now = b:=by
 rw [bkOk_iff] at h
 obtain ⟨_,_,hc⟩:=h
 unfold advB
 rcases hc with ⟨e,_,_⟩ | ⟨e,hr,hb,hl⟩
 .rw [if_pos e]
 .rw [if_neg e,Int.sub_self,Int.mul_zero,Int.add_zero,show min b.level (b.burst * b.per) = b.level by omega]
theorem btake_eq (b : Bk) (n : Int) (h : bkOk b = true) (hn : 0 <= n /\ n <= tokB b) : V 188 [b.vv,.p (.int .i64 b.now),.p (.int .i64 n)] [] = some (.tup [(takB b n).vv,.p (.int .i64 0)],[]):=by
 refine V_wp (vf:=vf188) rfl ?_
 have hw:=((bkOk_iff.1 h).2.1)
 have i0:=badv_eq b b.now h (Int.le_refl _) hw.2
 rw [adv_same h] at i0
 have i1:=btok_eq b h
 have op:=bopen_eq b
 have hlt : ¬ tokB b < n:=by omega
 have ht : tokB b <= 1073741824:=by
  unfold tokB
  split
  ·omega
  ·rename_i e
   rcases (bkOk_iff.1 h).2.2 with ⟨e',_⟩ | ⟨_,hr,hb,hl⟩
   ·exact absurd e' e
   ·have h1:=Int.ediv_le_ediv (show 0 < b.per by have:=(bkOk_iff.1 h).1; omega) hl.2
    rw [Int.mul_ediv_cancel _ (show b.per ≠ 0 by have:=(bkOk_iff.1 h).1; omega)] at h1
    omega
 have i2:=bin_eq n 0 1073741824
 rw [show inZ n 0 1073741824 = true from inZ_iff.2 ⟨hn.1,by omega⟩] at i2
 unfold takB
 by_cases e : b.rate = maxR
 ·rw [if_pos e]
  rw [decide_eq_true e] at op
  simp -implicitDefEqProofs (disch:=omega) only [vf188,vb188,i0,i1,i2,op,hlt,go_sem,↓reduceIte,rAz,rS,rE,rL,reduceCtorEq]
 ·rw [if_neg e]
  rw [decide_eq_false e] at op
  have e2 : tokB b = b.level / b.per:=by unfold tokB; rw [if_neg e]
  rw [if_neg (by omega)]
  rcases (bkOk_iff.1 h).2.2 with ⟨e',_⟩ | ⟨_,hr,hb,hl⟩
  ·exact absurd e' e
  ·have hp:=(bkOk_iff.1 h).1
   have hk : n * b.per <= b.level:=by
    have:=Int.mul_le_mul_of_nonneg_right (show n <= b.level / b.per by omega) (show 0 <= b.per by omega)
    have h9:=Int.ediv_mul_le b.level (show b.per ≠ 0 by omega)
    omega
   have hk0 : 0 <= n * b.per:=Int.mul_nonneg hn.1 (by omega)
   have hl1:=mul_range hb.1 hb.2 (show 0 <= b.per by omega) hp.2
   simp -implicitDefEqProofs (disch:=omega) only [vf188,vb188,i0,i1,i2,op,hlt,go_sem,↓reduceIte,rAz,rS,rE,rL,reduceCtorEq]
abbrev mBox (t : Tr) (d : Dv) : Ob:=.box [.p (.int .i64 d.m.rb),.p (.int .i64 d.m.rp),.p (.int .i64 d.m.wb),.p (.int .i64 d.m.wp),.p (.int .i64 d.m.seek),.p (.int .i64 d.speed),.p (.int .i64 d.margin),.p (.int .i64 d.now),.p (.int .i64 d.free),.p (.int .i64 d.head),.own (.arg 1 0) 0 0 d.weights.length,.own (.arg 2 0) 0 0 d.buckets.length,.own (.arg 3 0) 0 0 d.depths.length,.p (chsP d.v),.own (.arg 4 0) 0 0 d.queue.length,.own (.arg 5 0) 0 0 d.flights.length,.p (nodesP t.nodes),.p (.int .i64 t.next)]
abbrev mH (t : Tr) (d : Dv) : List Ob:=[mBox t d,.arr 2 (d.weights.map Ch.pv),.arr 21 (d.buckets.map Cp.pv),.arr 3 (d.depths.map Dp.pv),.arr 6 (d.queue.map Rq.pv),.arr 7 (d.flights.map Fl.pv)]
theorem mcaps_eq (t : Tr) (d : Dv) (id : Int) (hb : d.buckets.length < 1000000) : V 159 [.ptr (.arg 0 0) 0 0,.p (.int .i64 id)] (mH t d) = some (.p (.int .i64 (idxP (fun c=>decide (c.group = id)) d.buckets)),mH t d):=by
 refine V_wp (vf:=vf159) rfl ?_
 have i0:=idxC_eq d.buckets id hb
 simp -implicitDefEqProofs (disch:=omega) only [vf159,vb159,i0,go_sem,↓reduceIte,rAz,rS,rE,rL,reduceCtorEq]
theorem kinds_eq (xs : List PV) (i : Nat) (w : Bool) : V 180 [.eptr (.arg 0 0) 0 i 0,.p (.bool w)] [.arr 21 xs] = some (.tup [.eptr (.arg 0 0) 0 i (if w then 6 else 1),.eptr (.arg 0 0) 0 i (if w then 16 else 11)],[.arr 21 xs]):=by
 refine V_wp (vf:=vf180) rfl ?_
 cases w with
 | false=>simp -implicitDefEqProofs (disch:=omega) only [vf180,vb180,go_sem,↓reduceIte,rAz,rS,rE,rL,reduceCtorEq]
 | true=>simp -implicitDefEqProofs (disch:=omega) only [vf180,vb180,go_sem,↓reduceIte,rAz,rS,rE,rL,reduceCtorEq]
set_option maxHeartbeats 1000000 in
theorem active_eq (t : Tr) (d : Dv) (hq : d.queue.length < 1000000) (hf : d.flights.length < 1000000) : V 125 [.ptr (.arg 0 0) 0 0] (mH t d) = some (.fresh 1 ((actL d).map (.int .i64)),mH t d):=by
 refine V_wp (vf:=vf125) rfl ?_
 simp -implicitDefEqProofs (disch:=omega) only [vf125,vb125,go_sem,↓reduceIte,rAz,rS,rE,rL,reduceCtorEq]
 refine wp_count d.queue.length (fun k s=>∃ (acc : List Int) (v : Nat),acc = (d.queue.take k).map (·.group) /\ acc.length = k /\ s.pe 0 = .ptr (.arg 0 0) 0 0 /\ s.pe 3 = .own (.slot 3 0) v 0 acc.length /\ s.pe 12 = .own (.arg 4 0) 0 0 d.queue.length /\ s.pe 13 = .p (.int .i64 d.queue.length) /\ s.pe 14 = .p (.int .i64 k) /\ s.h (.slot 3 0) = some (v,.arr 1 (acc.map (.int .i64))) /\ s.h (.arg 0 0) = some (0,mBox t d) /\ s.h (.arg 1 0) = some (0,.arr 2 (d.weights.map Ch.pv)) /\ s.h (.arg 2 0) = some (0,.arr 21 (d.buckets.map Cp.pv)) /\ s.h (.arg 3 0) = some (0,.arr 3 (d.depths.map Dp.pv)) /\ s.h (.arg 4 0) = some (0,.arr 6 (d.queue.map Rq.pv)) /\ s.h (.arg 5 0) = some (0,.arr 7 (d.flights.map Fl.pv))) ?_ ?_
 ·exact ⟨[],0,rfl,rfl,rfl,rfl,rfl,rfl,rfl,rfl,rfl,rfl,rfl,rfl,rfl,rfl⟩
 ·rintro k s hk ⟨acc,v,hacc,hlen,h0,h3,h12,h13,h14,g3,a0,a1,a2,a3,a4,a5⟩
  simp -implicitDefEqProofs (disch:=omega) only [h0,h3,h12,h13,h14,g3,a0,a1,a2,a3,a4,a5,go_sem,↓reduceIte,rAz,rS,rE,rL,reduceCtorEq]
  refine wp_if_d (fun hlt=>?_) (fun hge=>?_)
  ·have hm : d.queue[k]? = some d.queue[k]:=lgg hlt
   have htk : (d.queue.take (k + 1)).map (·.group) = (d.queue.take k).map (·.group) ++ [d.queue[k].group]:=by
    rw [List.take_add_one,hm,lma]; rfl
   generalize d.queue[k] = m at hm htk
   simp -implicitDefEqProofs (disch:=omega) only [h0,h3,h12,h13,h14,g3,a0,a1,a2,a3,a4,a5,hm,hlt,go_sem,↓reduceIte,rAz,rS,rE,rL,reduceCtorEq]
   refine ⟨acc ++ [m.group],v + 1,by rw [htk,hacc],by simp [hlen],?_⟩
   simp [h0,h3,h12,h13,h14,g3,a0,a1,a2,a3,a4,a5]
  ·simp -implicitDefEqProofs (disch:=omega) only [h0,h3,h12,h13,h14,g3,a0,a1,a2,a3,a4,a5,hge,go_sem,↓reduceIte,rAz,rS,rE,rL,reduceCtorEq]
   rw [ltl (by omega)] at hacc
   refine wp_count d.flights.length (fun k s=>∃ (acc : List Int) (v : Nat),acc = d.queue.map (·.group) ++ (d.flights.take k).map (·.r.group) /\ acc.length = d.queue.length + k /\ s.pe 0 = .ptr (.arg 0 0) 0 0 /\ s.pe 3 = .own (.slot 3 0) v 0 acc.length /\ s.pe 28 = .own (.arg 5 0) 0 0 d.flights.length /\ s.pe 29 = .p (.int .i64 d.flights.length) /\ s.pe 30 = .p (.int .i64 k) /\ s.h (.slot 3 0) = some (v,.arr 1 (acc.map (.int .i64))) /\ s.h (.arg 0 0) = some (0,mBox t d) /\ s.h (.arg 1 0) = some (0,.arr 2 (d.weights.map Ch.pv)) /\ s.h (.arg 2 0) = some (0,.arr 21 (d.buckets.map Cp.pv)) /\ s.h (.arg 3 0) = some (0,.arr 3 (d.depths.map Dp.pv)) /\ s.h (.arg 4 0) = some (0,.arr 6 (d.queue.map Rq.pv)) /\ s.h (.arg 5 0) = some (0,.arr 7 (d.flights.map Fl.pv))) ?_ ?_
   ·exact ⟨acc,v,by simpa using hacc,by rw [hacc]; simp,by simp [go_sem,h0],by simp [go_sem,h3],by simp [go_sem],by simp [go_sem],by simp [go_sem],by simp [g3],by simp [a0],by simp [a1],by simp [a2],by simp [a3],by simp [a4],by simp [a5]⟩
   ·clear hacc hlen h0 h3 h12 h13 h14 g3 a0 a1 a2 a3 a4 a5 hge hk
    rintro k s hk ⟨acc,v,hacc,hlen,h0,h3,h12,h13,h14,g3,a0,a1,a2,a3,a4,a5⟩
    simp -implicitDefEqProofs (disch:=omega) only [h0,h3,h12,h13,h14,g3,a0,a1,a2,a3,a4,a5,go_sem,↓reduceIte,rAz,rS,rE,rL,reduceCtorEq]
    refine wp_if_d (fun hlt=>?_) (fun hge=>?_)
    ·have hm : d.flights[k]? = some d.flights[k]:=lgg hlt
     have htk : (d.flights.take (k + 1)).map (·.r.group) = (d.flights.take k).map (·.r.group) ++ [d.flights[k].r.group]:=by
      rw [List.take_add_one,hm,lma]; rfl
     generalize d.flights[k] = m at hm htk
     simp -implicitDefEqProofs (disch:=omega) only [h0,h3,h12,h13,h14,g3,a0,a1,a2,a3,a4,a5,hm,hlt,go_sem,↓reduceIte,rAz,rS,rE,rL,reduceCtorEq]
     refine ⟨acc ++ [m.r.group],v + 1,by rw [htk,hacc,laa],by simp [hlen]; omega,?_⟩
     simp [h0,h3,h12,h13,h14,g3,a0,a1,a2,a3,a4,a5]
    ·rw [ltl (by omega)] at hacc
     have hA : actL d = acc:=by rw [hacc]; rfl
     rw [hA]
     simp -implicitDefEqProofs (disch:=omega) only [h0,h3,h12,h13,h14,g3,a0,a1,a2,a3,a4,a5,hge,go_sem,↓reduceIte,rAz,rS,rE,rL,reduceCtorEq]
def RepM (ks : List MKey) (vs : List PV) (f : Int -> Int) : Prop:=∀ id,(mget ks vs (.int id)).getD (.int .i64 0) = .int .i64 (f id)
theorem RepM.put {ks : List MKey} {vs : List PV} {f : Int -> Int} (h : RepM ks vs f) (g v : Int) : RepM (mput ks vs (.int g) (.int .i64 v)).1 (mput ks vs (.int g) (.int .i64 v)).2 (fun x=>if x = g then v else f x):=by
 intro id
 rw [mget_mput]
 by_cases hg : id = g
 ·subst hg
  simp
 ·simp [hg]
  exact h id
theorem RepM.congr {ks : List MKey} {vs : List PV} {f g : Int -> Int} (h : RepM ks vs f) (he : ∀ x,f x = g x) : RepM ks vs g:=fun id=>by rw [<- he]; exact h id
theorem RepM.nil : RepM [] [] fun _=>0:=fun _=>rfl
def flyL (t : Tr) (fs : List Fl) : List Ch:=(t.nodes.filter fun n=>decide (0 < cntF fs n.id)).map fun n=>⟨n.id,cntF fs n.id⟩
theorem cntF_nonneg (fs : List Fl) (id : Int) : 0 <= cntF fs id:=by unfold cntF; omega
theorem cntF_le (fs : List Fl) (id : Int) : cntF fs id <= fs.length:=by
 unfold cntF
 have:=List.length_filter_le (fun f : Fl=>decide (f.r.group = id)) fs
 omega
theorem own_pos {f : Int -> Int} (h0 : ∀ x,0 <= f x) : ∀ {L : List Nd},(L.Pairwise fun a b=>a.id < b.id) -> ∀ n ∈ L,ownC ((L.filter fun n=>decide (0 < f n.id)).map fun n=>(⟨n.id,f n.id⟩ : Ch)) n.id = f n.id
 | [],_,n,hn=>by cases hn
 | x :: L,hp,n,hn=>by
  rw [lpw] at hp
  have ih:=own_pos h0 hp.2
  by_cases hx : 0 < f x.id
  ·rw [List.filter_cons_of_pos (by simpa using hx),lpc,ownC_cons]
   rcases lmk.1 hn with rfl | hn
   ·simp
   ·have:=hp.1 n hn
    simp only
    rw [if_neg (by omega)]
    exact ih n hn
  ·rw [List.filter_cons_of_neg (by simpa using hx)]
   rcases lmk.1 hn with rfl | hn
   ·have:=h0 n.id
    rw [ownC_zero]
    ·omega
    ·intro c hc
     obtain ⟨m,hm,rfl⟩:=lmm.1 hc
     have:=hp.1 m (List.mem_filter.1 hm).1
     simp only
     omega
   .exact ih n hn
theorem flyL_own {t : Tr} (h : TreeOk t) (fs : List Fl) {n : Nd} (hn : n ∈ t.nodes) : ownC (flyL t fs) n.id = cntF fs n.id:=own_pos (cntF_nonneg fs) h.inc n hn
theorem flyL_inc {t : Tr} (h : TreeOk t) (fs : List Fl) : (flyL t fs).Pairwise fun a b=>a.group < b.group:=by
 unfold flyL
 rw [List.pairwise_map]
 exact h.inc.filter _
theorem flyL_mem {t : Tr} {fs : List Fl} {c : Ch} (hc : c ∈ flyL t fs) : ∃ n ∈ t.nodes,c.group = n.id /\ c.own = cntF fs n.id:=by
 unfold flyL at hc
 obtain ⟨n,hn,rfl⟩:=lmm.1 hc
 exact ⟨n,(List.mem_filter.1 hn).1,rfl,rfl⟩
theorem flyL_len (t : Tr) (fs : List Fl) : (flyL t fs).length <= t.nodes.length:=by
 unfold flyL
 rw [llm]
 exact List.length_filter_le _ _
theorem known_mem {t : Tr} (h : TreeOk t) {n : Nd} (hn : n ∈ t.nodes) : findN t.nodes n.id = some n:=by
 obtain ⟨i,hi⟩:=lgm hn
 exact findN_unique h.inc hi
theorem sumF_fly {t : Tr} (h : TreeOk t) (fs : List Fl) {g : Int} (hg : knownN t.nodes g = true) : (subT t g).map (ownC (flyL t fs)) = (subF t.nodes t.nodes.length g).map (cntF fs) /\ subT t g = subF t.nodes t.nodes.length g:=by
 obtain ⟨n,hn,rfl⟩:=findN_some hg
 obtain ⟨i,hi⟩:=lgm hn
 have e : subT t n.id = subF t.nodes t.nodes.length n.id:=by
  unfold subT
  rw [if_pos (by rw [findT,if_pos ((treeOk_iff t).2 h),known_mem h hn]; rfl)]
 refine ⟨?_,e⟩
 rw [e]
 refine List.map_congr_left fun x hx=>?_
 obtain ⟨j,m,hm,rfl,_⟩:=(mem_subF h t.nodes.length i n hi (by omega) x).1 hx
 exact flyL_own h fs (lmg hm)
theorem anc_known {t : Tr} (h : TreeOk t) {id : Int} (hid : knownN t.nodes id = true) : ∀ g ∈ ancF t.nodes t.nodes.length id,knownN t.nodes g = true:=by
 intro g hg
 obtain ⟨n,hn,rfl⟩:=findN_some hid
 obtain ⟨i,hi⟩:=lgm hn
 obtain ⟨j,m,_,hm,rfl⟩:=anc_le h i n hi g hg
 unfold knownN
 rw [known_mem h (lmg hm)]
 rfl
theorem ownC_bound {l : List Ch} (h : ∀ c ∈ l,0 <= c.own /\ c.own <= 256) (x : Int) : 0 <= ownC l x /\ ownC l x <= 256:=by
 induction l with
 | nil=>exact ⟨Int.le_refl _,by show (0 : Int) <= 256; omega⟩
 | cons c l ih =>
  rw [ownC_cons]
  simp only
  split
  .exact h c (lms ..)
  .exact ih fun d hd=>h d (lmc _ hd)
theorem sumb_256 {f : Int -> Int} (h : ∀ x,0 <= f x /\ f x <= 256) : ∀ l : List Int,0 <= sumI (l.map f) /\ sumI (l.map f) <= 256 * l.length
 | []=>by simp [sumI]
 | x :: l=>by
  have:=sumb_256 h l
  have:=h x
  simp only [lpc,sumI,llc,Int.natCast_add,Int.natCast_one]
  omega
set_option maxHeartbeats 1000000 in
theorem lget_eq (l : List Dp) (id : Int) (hl : l.length < 1000000) : V 164 [.p (dpsP l),.p (.int .i64 id)] [] = some ((getD l id).vv,[]):=by
 refine V_wp (vf:=vf164) rfl ?_
 have i0:=lnone_eq id
 simp -implicitDefEqProofs (disch:=omega) only [vf164,vb164,go_sem,↓reduceIte,rAz,rS,rE,rL,reduceCtorEq]
 obtain ⟨I,hI⟩ : ∃ I : Nat -> St -> Prop,∀ k s,I k s ↔ getD l id = getD (l.drop k) id /\ s.pe 1 = .p (.int .i64 id) /\ s.pe 4 = .ptr (.slot 4 0) 0 0 /\ s.pe 7 = .p (dpsP l) /\ s.pe 8 = .p (.int .i64 ↑l.length) /\ s.pe 9 = .p (.int .i64 k) /\ s.h (.slot 4 0) = some (0,Ob.box [.p (.int .i64 0),.p (.int .i64 0),.p (.int .i64 0)]):=⟨_,fun _ _=>Iff.rfl⟩
 refine wp_count (l.length) I ?_ ?_
 ·refine (hI _ _).2 ⟨?_,?_,?_,?_,?_,?_,?_⟩
  ·exact cl3
  all_goals first | exact cl0 | (simp -implicitDefEqProofs (disch:=omega) only [lma,go_sem,↓reduceIte,rAz,rS,rE,rL,reduceCtorEq] <;> first | (simp [sumI]; done) | (simp [sumI]; omega))
 intro k s hk hIk
 obtain ⟨hq,h1,h4,h7,h8,h9,hh4_0⟩:=(hI _ _).1 hIk
 clear hIk
 simp -implicitDefEqProofs (disch:=omega) only [h1,h4,h7,h8,h9,hh4_0,go_sem,↓reduceIte,rAz,rS,rE,rL,reduceCtorEq]
 refine wp_if_d (fun hlt=>?_) (fun hge=>?_)
 ·have hm : l[k]? = some l[k]:=lgg hlt
  rw [ldg hlt,getD] at hq
  generalize l[k] = c at hm hq
  by_cases hc : c.group = id
  ·rw [if_pos hc] at hq
   subst hc
   simp -implicitDefEqProofs (disch:=omega) only [h1,h4,h7,h8,h9,hh4_0,hlt,hm,hq,go_sem,↓reduceIte,rAz,rS,rE,rL,reduceCtorEq]
  ·rw [if_neg hc] at hq
   simp -implicitDefEqProofs (disch:=omega) only [h1,h4,h7,h8,h9,hh4_0,hlt,hm,hc,go_sem,↓reduceIte,rAz,rS,rE,rL,reduceCtorEq]
   try refine And.intro (by omega) ?_
   refine (hI _ _).2 ⟨?_,?_,?_,?_,?_,?_,?_⟩
   .exact hq
   all_goals first | exact cl0 | (simp -implicitDefEqProofs (disch:=omega) only [h1,h4,h7,h8,h9,hh4_0,lma,go_sem,↓reduceIte,rAz,rS,rE,rL,reduceCtorEq] <;> first | (simp [sumI]; done) | (simp [sumI]; omega))
 ·have hq' : getD l id = ⟨id,0,256⟩:=by
   rw [hq,List.drop_eq_nil_of_le (by omega)]
   rfl
  simp -implicitDefEqProofs (disch:=omega) only [h1,h4,h7,h8,h9,hh4_0,hge,i0,hq',go_sem,↓reduceIte,rAz,rS,rE,rL,reduceCtorEq]
set_option maxHeartbeats 4000000 in
theorem lallow_eq {t : Tr} (h : TreeOk t) (ds : List Dp) (fs : List Fl) (id : Int) (hds : ascD (knownN t.nodes) none ds = true) (hdl : ds.length < 1000000) (hfl : fs.length <= 256) (hid : knownN t.nodes id = true) :
  V 177 [t.vv,.p (dpsP ds),.p (chsP (flyL t fs)),.p (.int .i64 id)] [] = some (.tup [.p (.bool (allowF t ds fs id)),.p (.int .i64 0)],[]):=by
 refine V_wp (vf:=vf177) rfl ?_
 have hlen:=h.len
 have j0:=lvalid_eq t ds h.fits (by omega) hdl
 rw [(treeOk_iff t).2 h,hds,bta] at j0
 have hL1:=flyL_inc h fs
 have hL2:=fun c=>flyL_mem (t:=t) (fs:=fs) (c:=c)
 have hL3:=flyL_len t fs
 have hL4 : ∀ c ∈ flyL t fs,0 <= c.own /\ c.own <= 256:=fun c hc=>by
  obtain ⟨n,hn,_,e⟩:=hL2 c hc
  rw [e]
  have:=cntF_nonneg fs n.id
  have:=cntF_le fs n.id
  omega
 have hAl : allowF t ds fs id = (ancF t.nodes t.nodes.length id).all fun g=>decide (sumI ((subT t g).map (ownC (flyL t fs))) < (getD ds g).depth):=by
  unfold allowF sumF
  rw [Bool.eq_iff_iff,List.all_eq_true,List.all_eq_true]
  refine forall_congr' fun g=>forall_congr' fun hg=>?_
  rw [(sumF_fly h fs (anc_known h hid g hg)).1]
 have hKn : ∀ c ∈ flyL t fs,(findN t.nodes c.group).isSome = true:=fun c hc=>by
  obtain ⟨n,hn,e,_⟩:=hL2 c hc
  rw [e,known_mem h hn]
  rfl
 rw [hAl]
 generalize flyL t fs = l at hL1 hL2 hL3 hL4 hKn
 simp -implicitDefEqProofs (disch:=omega) only [vf177,vb177,j0,go_sem,↓reduceIte,rAz,rS,rE,rL,reduceCtorEq]
 obtain ⟨I,hI⟩ : ∃ I : Nat -> St -> Prop,∀ k s,I k s ↔ ∃ (ks : List MKey) (vs : List PV),RepM ks vs (ownC (l.take k)) /\ s.pe 1 = .p (dpsP ds) /\ s.pe 2 = .p (chsP l) /\ s.pe 3 = .p (.int .i64 id) /\ s.pe 4 = .ptr (.slot 4 0) 0 0 /\ s.pe 10 = .mref (.slot 26 0) 0 /\ s.pe 27 = .p (chsP l) /\ s.pe 28 = .p (.int .i64 ↑l.length) /\ s.pe 29 = .p (.int .i64 k) /\ s.h (.slot 4 0) = some (0,Ob.box [.p (nodesP t.nodes),.p (.int .i64 t.next)]) /\ s.h (.slot 26 0) = some (0,Ob.map (KT.int IntKind.i64) ks vs):=⟨_,fun _ _=>Iff.rfl⟩
 refine wp_count (l.length) I ?_ ?_
 ·refine (hI _ _).2 ⟨[],[],?_,?_,?_,?_,?_,?_,?_,?_,?_,?_,?_⟩
  ·exact RepM.nil
  all_goals first | exact cl0 | (simp -implicitDefEqProofs (disch:=omega) only [h1,h4,h7,h8,h9,hh4_0,lma,go_sem,↓reduceIte,rAz,rS,rE,rL,reduceCtorEq] <;> first | (simp [sumI]; done) | (simp [sumI]; omega))
 intro k s hk hIk
 obtain ⟨ks,vs,hrep,h1,h2,h3,h4,h10,h27,h28,h29,hh4_0,hh26_0⟩:=(hI _ _).1 hIk
 clear hIk
 simp -implicitDefEqProofs (disch:=omega) only [h1,h2,h3,h4,h10,h27,h28,h29,hh4_0,hh26_0,go_sem,↓reduceIte,rAz,rS,rE,rL,reduceCtorEq]
 refine wp_if_d (fun hlt=>?_) (fun hge=>?_)
 ·have hm : l[k]? = some l[k]:=lgg hlt
  have htk:=take_snoc hm
  have hfr:=fresh_at hL1 hm
  generalize l[k] = c at hm htk hfr
  have hcm:=lmg hm
  have hnew:=(hrep.put c.group c.own).congr (g:=ownC (l.take (k + 1))) fun x=>by
   rw [htk,ownC_snoc c x _ hfr]
  have hfi:=ffind_eq t c.group (by omega)
  rw [hKn c hcm] at hfi
  generalize (findN t.nodes c.group).getD zeroNd = nd at hfi
  have i1:=lin_eq c.own 0 256
  rw [show inZ c.own 0 256 = true from inZ_iff.2 (hL4 c hcm)] at i1
  by_cases hk0 : k = 0
  ·have hk0' : ¬ (0 : Int) < k:=by omega
   simp -implicitDefEqProofs (disch:=omega) only [h1,h2,h3,h4,h10,h27,h28,h29,hh4_0,hh26_0,hlt,hm,hfi,Nd.vv,hk0',i1,go_sem,↓reduceIte,rAz,rS,rE,rL,reduceCtorEq]
   try refine And.intro (by omega) ?_
   refine (hI _ _).2 ⟨(mput ks vs (.int c.group) (.int .i64 c.own)).1,(mput ks vs (.int c.group) (.int .i64 c.own)).2,?_,?_,?_,?_,?_,?_,?_,?_,?_,?_,?_⟩
   ·exact hnew
   all_goals first | exact cl0 | (simp -implicitDefEqProofs (disch:=omega) only [h1,h2,h3,h4,h10,h27,h28,h29,hh4_0,hh26_0,lma,go_sem,↓reduceIte,rAz,rS,rE,rL,reduceCtorEq] <;> first | (simp [sumI]; done) | (simp [sumI]; omega))
  ·have hpk : l[k - 1]? = some l[k - 1]:=lgg (by omega)
   have hpl : l[k - 1].group < c.group:=by
    have:=List.pairwise_iff_getElem.1 hL1 (k - 1) k (by omega) hlt (by omega)
    rw [(lgs.1 hm).2] at this
    exact this
   generalize l[k - 1] = p at hpk hpl
   have hk0' : (0 : Int) < k:=by omega
   have hk1 : (0 : Int) <= (k : Int) - 1:=by omega
   have hk2 : ((k : Int) - 1).toNat = k - 1:=by omega
   have hpg : ¬ c.group <= p.group:=by omega
   simp -implicitDefEqProofs (disch:=omega) only [h1,h2,h3,h4,h10,h27,h28,h29,hh4_0,hh26_0,hlt,hm,hfi,Nd.vv,hk0',hk1,hk2,hpk,hpg,i1,go_sem,↓reduceIte,rAz,rS,rE,rL,reduceCtorEq]
   try refine And.intro (by omega) ?_
   refine (hI _ _).2 ⟨(mput ks vs (.int c.group) (.int .i64 c.own)).1,(mput ks vs (.int c.group) (.int .i64 c.own)).2,?_,?_,?_,?_,?_,?_,?_,?_,?_,?_,?_⟩
   ·exact hnew
   all_goals first | exact cl0 | (simp -implicitDefEqProofs (disch:=omega) only [h1,h2,h3,h4,h10,h27,h28,h29,hh4_0,hh26_0,lma,go_sem,↓reduceIte,rAz,rS,rE,rL,reduceCtorEq] <;> first | (simp [sumI]; done) | (simp [sumI]; omega))
 ·rw [ltl (by omega)] at hrep
  have hfi:=ffind_eq t id (by omega)
  have hid' : (findN t.nodes id).isSome = true:=hid
  rw [hid'] at hfi
  generalize (findN t.nodes id).getD zeroNd = nd at hfi
  have c1:=fanc_eq t id (by omega)
  have hal:=ancF_length t.nodes t.nodes.length id
  have hA : ∀ g ∈ ancF t.nodes t.nodes.length id,True:=fun _ _=>trivial
  have hob:=ownC_bound hL4
  generalize ancF t.nodes t.nodes.length id = A at c1 hal hA
  simp -implicitDefEqProofs (disch:=omega) only [h1,h2,h3,h4,h10,h27,h28,h29,hh4_0,hh26_0,hge,hfi,Nd.vv,c1,go_sem,↓reduceIte,rAz,rS,rE,rL,reduceCtorEq]
  obtain ⟨J,hJ⟩ : ∃ I : Nat -> St -> Prop,∀ j s,I j s ↔ ∃ (v80_1 : Nat),(A.all fun g=>decide (sumI ((subT t g).map (ownC l)) < (getD ds g).depth)) = ((A.drop j).all fun g=>decide (sumI ((subT t g).map (ownC l)) < (getD ds g).depth)) /\ s.pe 1 = .p (dpsP ds) /\ s.pe 4 = .ptr (.slot 4 0) 0 0 /\ s.pe 10 = .mref (.slot 26 0) 0 /\ s.pe 80 = .own (.slot 80 1) v80_1 0 A.length /\ s.pe 81 = .p (.int .i64 ↑A.length) /\ s.pe 82 = .p (.int .i64 j) /\ s.h (.slot 4 0) = some (0,Ob.box [.p (nodesP t.nodes),.p (.int .i64 t.next)]) /\ s.h (.slot 26 0) = some (0,Ob.map (KT.int IntKind.i64) ks vs) /\ s.h (.slot 80 1) = some (v80_1,Ob.arr 1 (List.map (.int .i64) A)):=⟨_,fun _ _=>Iff.rfl⟩
  refine wp_count (A.length) J ?_ ?_
  ·refine (hJ _ _).2 ⟨nv (s.h (.slot 80 1)),?_,?_,?_,?_,?_,?_,?_,?_,?_,?_⟩
   ·exact cl3
   all_goals first | exact cl0 | (simp -implicitDefEqProofs (disch:=omega) only [h1,h2,h3,h4,h10,h27,h28,h29,hh4_0,hh26_0,lma,go_sem,↓reduceIte,rAz,rS,rE,rL,reduceCtorEq] <;> first | (simp [sumI]; done) | (simp [sumI]; omega))
  intro j s hj hJk
  obtain ⟨v80_1,hq,h1,h4,h10,h80,h81,h82,hh4_0,hh26_0,hh80_1⟩:=(hJ _ _).1 hJk
  clear hJk
  simp -implicitDefEqProofs (disch:=omega) only [h1,h4,h10,h80,h81,h82,hh4_0,hh26_0,hh80_1,go_sem,↓reduceIte,rAz,rS,rE,rL,reduceCtorEq]
  refine wp_if_d (fun hjl=>?_) (fun hjg=>?_)
  ·have hx : A[j]? = some A[j]:=lgg hjl
   rw [ldg hjl,List.all_cons] at hq
   generalize A[j] = g at hx hq
   have hsu:=fsub_eq g h
   have hsl:=subT_len h g
   have hgd:=lget_eq ds g hdl
   have hsb:=sumb_256 hob (subT t g)
   generalize subT t g = S at hsu hsl hq hsb
   simp -implicitDefEqProofs (disch:=omega) only [h1,h4,h10,h80,h81,h82,hh4_0,hh26_0,hh80_1,hjl,hx,hsu,go_sem,↓reduceIte,rAz,rS,rE,rL,reduceCtorEq]
   obtain ⟨M,hM⟩ : ∃ I : Nat -> St -> Prop,∀ m s,I m s ↔ ∃ (v88_1 : Nat),s.pe 1 = .p (dpsP ds) /\ s.pe 4 = .ptr (.slot 4 0) 0 0 /\ s.pe 10 = .mref (.slot 26 0) 0 /\ s.pe 18 = .p (.int .i64 g) /\ s.pe 19 = .p (.int .i64 (sumI ((S.take m).map (ownC l)))) /\ s.pe 80 = .own (.slot 80 1) v80_1 0 A.length /\ s.pe 81 = .p (.int .i64 ↑A.length) /\ s.pe 82 = .p (.int .i64 ↑j) /\ s.pe 88 = .own (.slot 88 1) v88_1 0 S.length /\ s.pe 89 = .p (.int .i64 ↑S.length) /\ s.pe 90 = .p (.int .i64 m) /\ s.h (.slot 4 0) = some (0,Ob.box [.p (nodesP t.nodes),.p (.int .i64 t.next)]) /\ s.h (.slot 26 0) = some (0,Ob.map (KT.int IntKind.i64) ks vs) /\ s.h (.slot 80 1) = some (v80_1,Ob.arr 1 (List.map (.int .i64) A)) /\ s.h (.slot 88 1) = some (v88_1,Ob.arr 1 (List.map (.int .i64) S)):=⟨_,fun _ _=>Iff.rfl⟩
   refine wp_count (S.length) M ?_ ?_
   ·refine (hM _ _).2 ⟨nv (fzOb [88] s.h (.slot 88 1)),?_,?_,?_,?_,?_,?_,?_,?_,?_,?_,?_,?_,?_,?_,?_⟩
    all_goals first | exact cl0 | (simp -implicitDefEqProofs (disch:=omega) only [h1,h4,h10,h80,h81,h82,hh4_0,hh26_0,hh80_1,lma,go_sem,↓reduceIte,rAz,rS,rE,rL,reduceCtorEq] <;> first | (simp [sumI]; done) | (simp [sumI]; omega))
   intro m s hm hMk
   obtain ⟨v88_1,h1,h4,h10,h18,h19,h80,h81,h82,h88,h89,h90,hh4_0,hh26_0,hh80_1,hh88_1⟩:=(hM _ _).1 hMk
   clear hMk
   simp -implicitDefEqProofs (disch:=omega) only [h1,h4,h10,h18,h19,h80,h81,h82,h88,h89,h90,hh4_0,hh26_0,hh80_1,hh88_1,go_sem,↓reduceIte,rAz,rS,rE,rL,reduceCtorEq]
   refine wp_if_d (fun hml=>?_) (fun hmg=>?_)
   ·have hy : S[m]? = some S[m]:=lgg hml
    have hst:=sumI_take_succ (f:=ownC l) hy
    have hb1:=sumb_256 hob (S.take m)
    have hb2:=hob S[m]
    have hr:=hrep S[m]
    generalize S[m] = y at hy hst hb2 hr
    have hml' : (S.take m).length <= S.length:=by rw [llt]; omega
    generalize sumI ((S.take m).map (ownC l)) = X at h19 hst hb1
    simp -implicitDefEqProofs (disch:=omega) only [h1,h4,h10,h18,h19,h80,h81,h82,h88,h89,h90,hh4_0,hh26_0,hh80_1,hh88_1,hml,hy,hr,go_sem,↓reduceIte,rAz,rS,rE,rL,reduceCtorEq]
    try refine And.intro (by omega) ?_
    refine (hM _ _).2 ⟨v88_1,?_,?_,?_,?_,?_,?_,?_,?_,?_,?_,?_,?_,?_,?_,?_⟩
    all_goals first | exact cl0 | (simp -implicitDefEqProofs (disch:=omega) only [h1,h4,h10,h18,h19,h80,h81,h82,h88,h89,h90,hh4_0,hh26_0,hh80_1,hh88_1,hst,lma,go_sem,↓reduceIte,rAz,rS,rE,rL,reduceCtorEq] <;> first | (simp [sumI]; done) | (simp [sumI]; omega))
   ·rw [ltl (by omega)] at h19
    generalize sumI (S.map (ownC l)) = X at h19 hq
    by_cases hc : X < (getD ds g).depth
    ·have hc' : ¬ (getD ds g).depth <= X:=by omega
     rw [decide_eq_true hc,bta] at hq
     simp -implicitDefEqProofs (disch:=omega) only [h1,h4,h10,h18,h19,h80,h81,h82,h88,h89,h90,hh4_0,hh26_0,hh80_1,hh88_1,hmg,hgd,hc',go_sem,↓reduceIte,rAz,rS,rE,rL,reduceCtorEq]
     try refine And.intro (by omega) ?_
     refine (hJ _ _).2 ⟨v80_1,?_,?_,?_,?_,?_,?_,?_,?_,?_,?_⟩
     .exact hq
     all_goals first | exact cl0 | (simp -implicitDefEqProofs (disch:=omega) only [h1,h4,h10,h80,h81,h82,hh4_0,hh26_0,hh80_1,lma,go_sem,↓reduceIte,rAz,rS,rE,rL,reduceCtorEq] <;> first | (simp [sumI]; done) | (simp [sumI]; omega))
    ·have hc' : (getD ds g).depth <= X:=by omega
     rw [decide_eq_false hc,bfa] at hq
     simp -implicitDefEqProofs (disch:=omega) only [h1,h4,h10,h18,h19,h80,h81,h82,h88,h89,h90,hh4_0,hh26_0,hh80_1,hh88_1,hmg,hgd,hc',hq,go_sem,↓reduceIte,rAz,rS,rE,rL,reduceCtorEq]
  ·rw [List.drop_eq_nil_of_le (by omega),List.all_nil] at hq
   simp -implicitDefEqProofs (disch:=omega) only [h1,h4,h10,h80,h81,h82,hh4_0,hh26_0,hh80_1,hjg,hq,go_sem,↓reduceIte,rAz,rS,rE,rL,reduceCtorEq]
theorem cntF_take {fs : List Fl} {k : Nat} {f : Fl} (hm : fs[k]? = some f) (x : Int) : cntF (fs.take (k + 1)) x = if x = f.r.group then cntF (fs.take k) f.r.group + 1 else cntF (fs.take k) x:=by
 rw [take_snoc hm]
 unfold cntF
 rw [List.filter_append,lla]
 by_cases h : x = f.r.group
 ·subst h
  rw [if_pos rfl]
  simp
 ·rw [if_neg h,List.filter_cons_of_neg (by simpa using fun e=>h e.symm)]
  simp
theorem flyN_take {ns : List Nd} {fs : List Fl} {k : Nat} {n : Nd} (hm : ns[k]? = some n) : ((ns.take (k + 1)).filter fun n=>decide (0 < cntF fs n.id)).map (fun n=>(⟨n.id,cntF fs n.id⟩ : Ch)) = ((ns.take k).filter fun n=>decide (0 < cntF fs n.id)).map (fun n=>(⟨n.id,cntF fs n.id⟩ : Ch)) ++ if 0 < cntF fs n.id then [⟨n.id,cntF fs n.id⟩] else []:=by
 rw [take_snoc hm,List.filter_append,lma]
 by_cases h : 0 < cntF fs n.id
 ·rw [if_pos h,List.filter_cons_of_pos (by simpa using h)]
  rfl
 ·rw [if_neg h,List.filter_cons_of_neg (by simpa using h)]
  rfl
set_option maxHeartbeats 2000000 in
theorem flying_eq (t : Tr) (d : Dv) (hn : t.nodes.length < 1000000) (hf : d.flights.length <= 256) : V 178 [.ptr (.arg 0 0) 0 0] (mH t d) = some (.fresh 2 ((flyL t d.flights).map Ch.pv),mH t d):=by
 refine V_wp (vf:=vf178) rfl ?_
 simp -implicitDefEqProofs (disch:=omega) only [vf178,vb178,go_sem,↓reduceIte,rAz,rS,rE,rL,reduceCtorEq]
 obtain ⟨I,hI⟩ : ∃ I : Nat -> St -> Prop,∀ k s,I k s ↔ ∃ (ks : List MKey) (vs : List PV),RepM ks vs (cntF (d.flights.take k)) /\ s.pe 0 = .ptr (Id.arg 0 0) 0 0 /\ s.pe 3 = .mref (.slot 9 0) 0 /\ s.pe 14 = VVal.own (Id.arg 5 0) 0 0 d.flights.length /\ s.pe 15 = .p (.int .i64 ↑d.flights.length) /\ s.pe 16 = .p (.int .i64 k) /\ s.h (.slot 9 0) = some (0,Ob.map (KT.int IntKind.i64) ks vs) /\ s.h (.arg 0 0) = some (0,mBox t d) /\ s.h (.arg 1 0) = some (0,.arr 2 (d.weights.map Ch.pv)) /\ s.h (.arg 2 0) = some (0,.arr 21 (d.buckets.map Cp.pv)) /\ s.h (.arg 3 0) = some (0,.arr 3 (d.depths.map Dp.pv)) /\ s.h (.arg 4 0) = some (0,.arr 6 (d.queue.map Rq.pv)) /\ s.h (.arg 5 0) = some (0,.arr 7 (d.flights.map Fl.pv)):=⟨_,fun _ _=>Iff.rfl⟩
 refine wp_count (d.flights.length) I ?_ ?_
 ·refine (hI _ _).2 ⟨[],[],?_,?_,?_,?_,?_,?_,?_,?_,?_,?_,?_,?_,?_⟩
  ·exact RepM.nil
  all_goals first | exact cl0 | (simp -implicitDefEqProofs (disch:=omega) only [lma,go_sem,↓reduceIte,rAz,rS,rE,rL,reduceCtorEq] <;> first | (simp [mBox]; done) | (simp [mBox]; omega))
 intro k s hk hIk
 obtain ⟨ks,vs,hrep,h0,h3,h14,h15,h16,hh9_0,ha0,ha1,ha2,ha3,ha4,ha5⟩:=(hI _ _).1 hIk
 clear hIk
 simp -implicitDefEqProofs (disch:=omega) only [h0,h3,h14,h15,h16,hh9_0,ha0,ha1,ha2,ha3,ha4,ha5,go_sem,↓reduceIte,rAz,rS,rE,rL,reduceCtorEq]
 refine wp_if_d (fun hlt=>?_) (fun hge=>?_)
 ·have hm : d.flights[k]? = some d.flights[k]:=lgg hlt
  have hct:=cntF_take hm
  generalize d.flights[k] = f at hm hct
  have hb:=cntF_le (d.flights.take k) f.r.group
  have hb0:=cntF_nonneg (d.flights.take k) f.r.group
  have htl : (d.flights.take k).length <= k:=List.length_take_le ..
  have hr:=hrep f.r.group
  have hnew:=(hrep.put f.r.group (cntF (d.flights.take k) f.r.group + 1)).congr (g:=cntF (d.flights.take (k + 1))) fun x=>(hct x).symm
  simp -implicitDefEqProofs (disch:=omega) only [h0,h3,h14,h15,h16,hh9_0,ha0,ha1,ha2,ha3,ha4,ha5,hlt,hm,hr,go_sem,↓reduceIte,rAz,rS,rE,rL,reduceCtorEq]
  try refine And.intro (by omega) ?_
  refine (hI _ _).2 ⟨(mput ks vs (.int f.r.group) (.int .i64 (cntF (d.flights.take k) f.r.group + 1))).1,(mput ks vs (.int f.r.group) (.int .i64 (cntF (d.flights.take k) f.r.group + 1))).2,?_,?_,?_,?_,?_,?_,?_,?_,?_,?_,?_,?_,?_⟩
  ·exact hnew
  all_goals first | exact cl0 | (simp -implicitDefEqProofs (disch:=omega) only [h0,h3,h14,h15,h16,hh9_0,ha0,ha1,ha2,ha3,ha4,ha5,lma,go_sem,↓reduceIte,rAz,rS,rE,rL,reduceCtorEq] <;> first | (simp [mBox]; done) | (simp [mBox]; omega))
 ·rw [ltl (by omega)] at hrep
  simp -implicitDefEqProofs (disch:=omega) only [h0,h3,h14,h15,h16,hh9_0,ha0,ha1,ha2,ha3,ha4,ha5,hge,go_sem,↓reduceIte,rAz,rS,rE,rL,reduceCtorEq]
  obtain ⟨J,hJ⟩ : ∃ I : Nat -> St -> Prop,∀ j s,I j s ↔ ∃ (acc : List Ch) (v60 : Nat),acc = (((t.nodes.take j).filter fun n=>decide (0 < cntF d.flights n.id)).map fun n=>(⟨n.id,cntF d.flights n.id⟩ : Ch)) /\ acc.length <= j /\ s.pe 3 = .mref (.slot 9 0) 0 /\ s.pe 6 = .own (.slot 6 0) v60 0 acc.length /\ s.pe 31 = .p (nodesP t.nodes) /\ s.pe 32 = .p (.int .i64 ↑t.nodes.length) /\ s.pe 33 = .p (.int .i64 j) /\ s.h (.slot 6 0) = some (v60,Ob.arr 2 (acc.map Ch.pv)) /\ s.h (.slot 9 0) = some (0,Ob.map (KT.int IntKind.i64) ks vs) /\ s.h (.arg 0 0) = some (0,mBox t d) /\ s.h (.arg 1 0) = some (0,.arr 2 (d.weights.map Ch.pv)) /\ s.h (.arg 2 0) = some (0,.arr 21 (d.buckets.map Cp.pv)) /\ s.h (.arg 3 0) = some (0,.arr 3 (d.depths.map Dp.pv)) /\ s.h (.arg 4 0) = some (0,.arr 6 (d.queue.map Rq.pv)) /\ s.h (.arg 5 0) = some (0,.arr 7 (d.flights.map Fl.pv)):=⟨_,fun _ _=>Iff.rfl⟩
  refine wp_count (t.nodes.length) J ?_ ?_
  ·refine (hJ _ _).2 ⟨[],nv (s.h (.slot 6 0)),?_,?_,?_,?_,?_,?_,?_,?_,?_,?_,?_,?_,?_,?_,?_⟩
   ·exact cl3
   ·exact cl3
   all_goals first | exact cl0 | (simp -implicitDefEqProofs (disch:=omega) only [h0,h3,h14,h15,h16,hh9_0,ha0,ha1,ha2,ha3,ha4,ha5,lma,go_sem,↓reduceIte,rAz,rS,rE,rL,reduceCtorEq] <;> first | (simp [mBox]; done) | (simp [mBox]; omega))
  intro j s hj hJk
  obtain ⟨acc,v60,hacc,hal,h3,h6,h31,h32,h33,hh6_0,hh9_0,ha0,ha1,ha2,ha3,ha4,ha5⟩:=(hJ _ _).1 hJk
  clear hJk
  simp -implicitDefEqProofs (disch:=omega) only [h3,h6,h31,h32,h33,hh6_0,hh9_0,ha0,ha1,ha2,ha3,ha4,ha5,go_sem,↓reduceIte,rAz,rS,rE,rL,reduceCtorEq]
  refine wp_if_d (fun hjl=>?_) (fun hjg=>?_)
  ·have hx : t.nodes[j]? = some t.nodes[j]:=lgg hjl
   have hst:=flyN_take (fs:=d.flights) hx
   generalize t.nodes[j] = n at hx hst
   have hr:=hrep n.id
   by_cases hp : 0 < cntF d.flights n.id
   ·rw [if_pos hp,<- hacc] at hst
    generalize cntF d.flights n.id = c at hr hst hp
    simp -implicitDefEqProofs (disch:=omega) only [h3,h6,h31,h32,h33,hh6_0,hh9_0,ha0,ha1,ha2,ha3,ha4,ha5,hjl,hx,hr,hp,go_sem,↓reduceIte,rAz,rS,rE,rL,reduceCtorEq]
    try refine And.intro (by omega) ?_
    refine (hJ _ _).2 ⟨acc ++ [⟨n.id,c⟩],v60 + 1,?_,?_,?_,?_,?_,?_,?_,?_,?_,?_,?_,?_,?_,?_,?_⟩
    .exact hst.symm
    .exact by simp; omega
    all_goals first | exact cl0 | (simp -implicitDefEqProofs (disch:=omega) only [h3,h6,h31,h32,h33,hh6_0,hh9_0,ha0,ha1,ha2,ha3,ha4,ha5,lma,go_sem,↓reduceIte,rAz,rS,rE,rL,reduceCtorEq] <;> first | (simp [mBox]; done) | (simp [mBox]; omega))
   ·rw [if_neg hp,<- hacc,lan] at hst
    generalize cntF d.flights n.id = c at hr hst hp
    simp -implicitDefEqProofs (disch:=omega) only [h3,h6,h31,h32,h33,hh6_0,hh9_0,ha0,ha1,ha2,ha3,ha4,ha5,hjl,hx,hr,hp,go_sem,↓reduceIte,rAz,rS,rE,rL,reduceCtorEq]
    try refine And.intro (by omega) ?_
    refine (hJ _ _).2 ⟨acc,v60,?_,?_,?_,?_,?_,?_,?_,?_,?_,?_,?_,?_,?_,?_,?_⟩
    .exact hst.symm
    .omega
    all_goals first | exact cl0 | (simp -implicitDefEqProofs (disch:=omega) only [h3,h6,h31,h32,h33,hh6_0,hh9_0,ha0,ha1,ha2,ha3,ha4,ha5,lma,go_sem,↓reduceIte,rAz,rS,rE,rL,reduceCtorEq] <;> first | (simp [mBox]; done) | (simp [mBox]; omega))
  ·rw [ltl (by omega)] at hacc
   have hA : flyL t d.flights = acc:=by rw [hacc]; rfl
   rw [hA]
   simp -implicitDefEqProofs (disch:=omega) only [h3,h6,h31,h32,h33,hh6_0,hh9_0,ha0,ha1,ha2,ha3,ha4,ha5,hjg,go_sem,↓reduceIte,rAz,rS,rE,rL,reduceCtorEq]
set_option maxHeartbeats 2000000 in
theorem inextA_eq (t : Tr) (a : List Ch) (list : List Int) (now : Int) (hf : t.Fits) (hn : t.nodes.length < 1000000) (ha : a.length < 1000000) (hl : list.length < 1000000) : V 53 [t.vv,.p (chsP a),.p (intsP list),.p (.int .i64 now)] [] = some (.tup [.p (.int .i64 (nxtA t a now 0 list)),.p (.bool (!decide (nxtA t a now 0 list = 0)))],[]):=by
 refine V_wp (vf:=vf53) rfl ?_
 simp -implicitDefEqProofs (disch:=omega) only [vf53,vb53,go_sem,↓reduceIte,rAz,rS,rE,rL,reduceCtorEq]
 obtain ⟨I,hI⟩ : ∃ I : Nat -> St -> Prop,∀ k s,I k s ↔ ∃ (best : Int),nxtA t a now 0 list = nxtA t a now best (list.drop k) /\ s.pe 1 = .p (chsP a) /\ s.pe 3 = .p (.int .i64 now) /\ s.pe 4 = .ptr (.slot 4 0) 0 0 /\ s.pe 10 = .p (.int .i64 best) /\ s.pe 15 = .p (intsP list) /\ s.pe 16 = .p (.int .i64 ↑list.length) /\ s.pe 17 = .p (.int .i64 k) /\ s.h (.slot 4 0) = some (0,Ob.box [.p (nodesP t.nodes),.p (.int .i64 t.next)]):=⟨_,fun _ _=>Iff.rfl⟩
 refine wp_count (list.length) I ?_ ?_
 ·refine (hI _ _).2 ⟨0,?_,?_,?_,?_,?_,?_,?_,?_,?_⟩
  ·exact cl3
  all_goals first | exact cl0 | (simp -implicitDefEqProofs (disch:=omega) only [lma,go_sem,↓reduceIte,rAz,rS,rE,rL,reduceCtorEq] <;> first | (simp [mBox]; done) | (simp [mBox]; omega))
 intro k s hk hIk
 obtain ⟨best,hN,h1,h3,h4,h10,h15,h16,h17,hh4_0⟩:=(hI _ _).1 hIk
 clear hIk
 simp -implicitDefEqProofs (disch:=omega) only [h1,h3,h4,h10,h15,h16,h17,hh4_0,go_sem,↓reduceIte,rAz,rS,rE,rL,reduceCtorEq]
 refine wp_if_d (fun hlt=>?_) (fun hge=>?_)
 ·have hm : list[k]? = some list[k]:=lgg hlt
  rw [ldg hlt,nxtA] at hN
  generalize list[k] = x at hm hN
  have d1:=may_eq t a x now hf hn ha
  have d2:=get_eq a x ha
  have d3:=get_eq a best ha
  cases hmay : mayA t a x now with
  | false =>
   rw [hmay] at d1
   rw [if_neg (by rw [hmay]; exact fun h=>absurd h.1 (by decide))] at hN
   simp -implicitDefEqProofs (disch:=omega) only [h1,h3,h4,h10,h15,h16,h17,hh4_0,hlt,hm,d1,go_sem,↓reduceIte,rAz,rS,rE,rL,reduceCtorEq]
   try refine And.intro (by omega) ?_
   refine (hI _ _).2 ⟨best,?_,?_,?_,?_,?_,?_,?_,?_,?_⟩
   ·exact hN
   all_goals first | exact cl0 | (simp -implicitDefEqProofs (disch:=omega) only [h1,h3,h4,h10,h15,h16,h17,hh4_0,lma,go_sem,↓reduceIte,rAz,rS,rE,rL,reduceCtorEq] <;> first | (simp [mBox]; done) | (simp [mBox]; omega))
  | true =>
   rw [hmay] at d1
   by_cases hb : best = 0 \/ ownC a x < ownC a best \/ (ownC a x = ownC a best /\ x < best)
   ·rw [if_pos ⟨hmay,hb⟩] at hN
    generalize ownC a x = p at d2 hb
    generalize ownC a best = q at d3 hb
    by_cases b1 : best = 0
    ·subst b1
     simp -implicitDefEqProofs (disch:=omega) only [h1,h3,h4,h10,h15,h16,h17,hh4_0,hlt,hm,d1,d2,d3,go_sem,↓reduceIte,rAz,rS,rE,rL,reduceCtorEq]
     try refine And.intro (by omega) ?_
     refine (hI _ _).2 ⟨x,?_,?_,?_,?_,?_,?_,?_,?_,?_⟩
     ·exact hN
     all_goals first | exact cl0 | (simp -implicitDefEqProofs (disch:=omega) only [h1,h3,h4,h10,h15,h16,h17,hh4_0,lma,go_sem,↓reduceIte,rAz,rS,rE,rL,reduceCtorEq] <;> first | (simp [mBox]; done) | (simp [mBox]; omega))
    ·by_cases b2 : p < q
     ·simp -implicitDefEqProofs (disch:=omega) only [h1,h3,h4,h10,h15,h16,h17,hh4_0,hlt,hm,d1,d2,d3,b1,b2,go_sem,↓reduceIte,rAz,rS,rE,rL,reduceCtorEq]
      try refine And.intro (by omega) ?_
      refine (hI _ _).2 ⟨x,?_,?_,?_,?_,?_,?_,?_,?_,?_⟩
      .exact hN
      all_goals first | exact cl0 | (simp -implicitDefEqProofs (disch:=omega) only [h1,h3,h4,h10,h15,h16,h17,hh4_0,lma,go_sem,↓reduceIte,rAz,rS,rE,rL,reduceCtorEq] <;> first | (simp [mBox]; done) | (simp [mBox]; omega))
     ·have b3 : p = q:=by omega
      have b4 : x < best:=by omega
      simp -implicitDefEqProofs (disch:=omega) only [h1,h3,h4,h10,h15,h16,h17,hh4_0,hlt,hm,d1,d2,d3,b1,b2,b3,b4,Int.lt_irrefl,go_sem,↓reduceIte,rAz,rS,rE,rL,reduceCtorEq]
      try refine And.intro (by omega) ?_
      refine (hI _ _).2 ⟨x,?_,?_,?_,?_,?_,?_,?_,?_,?_⟩
      .exact hN
      all_goals first | exact cl0 | (simp -implicitDefEqProofs (disch:=omega) only [h1,h3,h4,h10,h15,h16,h17,hh4_0,lma,go_sem,↓reduceIte,rAz,rS,rE,rL,reduceCtorEq] <;> first | (simp [mBox]; done) | (simp [mBox]; omega))
   ·rw [if_neg (fun h=>hb h.2)] at hN
    generalize ownC a x = p at d2 hb
    generalize ownC a best = q at d3 hb
    have b1 : ¬ best = 0:=by omega
    have b2 : ¬ p < q:=by omega
    by_cases b3 : p = q
    ·have b4 : ¬ x < best:=by omega
     simp -implicitDefEqProofs (disch:=omega) only [h1,h3,h4,h10,h15,h16,h17,hh4_0,hlt,hm,d1,d2,d3,b1,b3,b4,Int.lt_irrefl,go_sem,↓reduceIte,rAz,rS,rE,rL,reduceCtorEq]
     try refine And.intro (by omega) ?_
     refine (hI _ _).2 ⟨best,?_,?_,?_,?_,?_,?_,?_,?_,?_⟩
     .exact hN
     all_goals first | exact cl0 | (simp -implicitDefEqProofs (disch:=omega) only [h1,h3,h4,h10,h15,h16,h17,hh4_0,lma,go_sem,↓reduceIte,rAz,rS,rE,rL,reduceCtorEq] <;> first | (simp [mBox]; done) | (simp [mBox]; omega))
    ·simp -implicitDefEqProofs (disch:=omega) only [h1,h3,h4,h10,h15,h16,h17,hh4_0,hlt,hm,d1,d2,d3,b1,b2,b3,go_sem,↓reduceIte,rAz,rS,rE,rL,reduceCtorEq]
     try refine And.intro (by omega) ?_
     refine (hI _ _).2 ⟨best,?_,?_,?_,?_,?_,?_,?_,?_,?_⟩
     .exact hN
     all_goals first | exact cl0 | (simp -implicitDefEqProofs (disch:=omega) only [h1,h3,h4,h10,h15,h16,h17,hh4_0,lma,go_sem,↓reduceIte,rAz,rS,rE,rL,reduceCtorEq] <;> first | (simp [mBox]; done) | (simp [mBox]; omega))
 ·rw [List.drop_eq_nil_of_le (by omega),nxtA] at hN
  rw [hN]
  simp -implicitDefEqProofs (disch:=omega) only [h1,h3,h4,h10,h15,h16,h17,hh4_0,hge,go_sem,↓reduceIte,rAz,rS,rE,rL,reduceCtorEq]
theorem capOf_none {l : List Cp} {id : Int} (h : ∀ c ∈ l,decide (c.group = id) = false) : capOf l id = none:=by
 induction l with
 | nil=>rfl
 | cons c l ih =>
  have:=h c (lms ..)
  rw [capOf,if_neg (by simpa using this)]
  exact ih fun x hx=>h x (lmc _ hx)
theorem capOf_at {id : Int} : ∀ {l : List Cp} {k : Nat} {m : Cp},l[k]? = some m -> decide (m.group = id) = true -> (∀ (i : Nat) (n : Cp),i < k -> l[i]? = some n -> decide (n.group = id) = false) -> capOf l id = some m
 | [],k,m,hm,_,_=>by simp at hm
 | c :: l,0,m,hm,hg,_=>by
  simp only [List.getElem?_cons_zero,osi] at hm
  subst hm
  rw [capOf,if_pos (by simpa using hg)]
 | c :: l,k + 1,m,hm,hg,ho=>by
  have h0:=ho 0 c (by omega) rfl
  rw [capOf,if_neg (by simpa using h0)]
  exact capOf_at (by simpa using hm) hg fun i n hi hn=>ho (i + 1) n (by omega) (by simpa using hn)
set_option maxHeartbeats 4000000 in
theorem passes_eq {t : Tr} {d : Dv} (h : DvOk t d) (r : Rq) (hs : d.Small) (hk : knownN t.nodes r.group = true) : V 119 [.ptr (.arg 0 0) 0 0,r.vv] (mH t d) = some (.p (.bool (passD t d r)),mH t d):=by
 refine V_wp (vf:=vf119) rfl ?_
 have hlen:=h.tree.len
 have hq:=h.len
 have j0:=flying_eq t d (by omega) (by omega)
 have j1:=lallow_eq h.tree d.depths d.flights r.group h.dp hs.p (by omega) hk
 have c1:=fanc_eq t r.group (by omega)
 have hal:=ancF_length t.nodes t.nodes.length r.group
 have hbk:=(ascB_iff.1 h.bk).1
 unfold passD
 cases hA : allowF t d.depths d.flights r.group with
 | false =>
  rw [hA] at j1
  simp -implicitDefEqProofs (disch:=omega) only [vf119,vb119,j0,j1,bfa,go_sem,↓reduceIte,rAz,rS,rE,rL,reduceCtorEq]
 | true =>
  rw [hA] at j1
  rw [Bool.true_and]
  generalize ancF t.nodes t.nodes.length r.group = A at c1 hal
  simp -implicitDefEqProofs (disch:=omega) only [vf119,vb119,j0,j1,c1,go_sem,↓reduceIte,rAz,rS,rE,rL,reduceCtorEq]
  obtain ⟨I,hI⟩ : ∃ I : Nat -> St -> Prop,∀ k s,I k s ↔ A.all (roomC d.buckets r) = (A.drop k).all (roomC d.buckets r) /\ s.pe 0 = .ptr (Id.arg 0 0) 0 0 /\ s.pe 3 = .ptr (.slot 3 0) 0 0 /\ s.pe 37 = .own (.slot 37 1) 0 0 A.length /\ s.pe 38 = .p (.int .i64 ↑A.length) /\ s.pe 39 = .p (.int .i64 k) /\ s.h (.slot 3 0) = some (0,Ob.box [.p (.int .i64 r.task),.p (.int .i64 r.group),.p (.int .i64 r.at_),.p (.int .i64 r.pages),.p (.bool r.write),.p (.int .i64 r.time)]) /\ s.h (.slot 37 1) = some (0,Ob.arr 1 (List.map (.int .i64) A)) /\ s.h (.arg 0 0) = some (0,mBox t d) /\ s.h (.arg 1 0) = some (0,.arr 2 (d.weights.map Ch.pv)) /\ s.h (.arg 2 0) = some (0,.arr 21 (d.buckets.map Cp.pv)) /\ s.h (.arg 3 0) = some (0,.arr 3 (d.depths.map Dp.pv)) /\ s.h (.arg 4 0) = some (0,.arr 6 (d.queue.map Rq.pv)) /\ s.h (.arg 5 0) = some (0,.arr 7 (d.flights.map Fl.pv)):=⟨_,fun _ _=>Iff.rfl⟩
  refine wp_count (A.length) I ?_ ?_
  ·refine (hI _ _).2 ⟨?_,?_,?_,?_,?_,?_,?_,?_,?_,?_,?_,?_,?_,?_⟩
   ·exact cl3
   all_goals first | exact cl0 | (simp -implicitDefEqProofs (disch:=omega) only [lma,go_sem,↓reduceIte,rAz,rS,rE,rL,reduceCtorEq] <;> first | (simp [mBox]; done) | (simp [mBox]; omega))
  intro k s hk hIk
  obtain ⟨hq,h0,h3,h37,h38,h39,hh3_0,hh37_1,ha0,ha1,ha2,ha3,ha4,ha5⟩:=(hI _ _).1 hIk
  clear hIk
  simp -implicitDefEqProofs (disch:=omega) only [h0,h3,h37,h38,h39,hh3_0,hh37_1,ha0,ha1,ha2,ha3,ha4,ha5,go_sem,↓reduceIte,rAz,rS,rE,rL,reduceCtorEq]
  refine wp_if_d (fun hlt=>?_) (fun hge=>?_)
  ·have hm : A[k]? = some A[k]:=lgg hlt
   rw [ldg hlt,List.all_cons] at hq
   generalize A[k] = g at hm hq
   have k0:=mcaps_eq t d g hs.b
   rcases idxP_cases (fun c : Cp=>decide (c.group = g)) d.buckets with ⟨e,hno⟩ | ⟨i,m,e,hmi,hmg,hbe⟩
   ·have hR : roomC d.buckets r g = true:=by unfold roomC; rw [capOf_none hno]
    rw [hR,bta] at hq
    rw [e] at k0
    have hd : decide ((0 : Int) <= -1) = false:=rfl
    simp -implicitDefEqProofs (disch:=omega) only [h0,h3,h37,h38,h39,hh3_0,hh37_1,ha0,ha1,ha2,ha3,ha4,ha5,hlt,hm,k0,hd,go_sem,↓reduceIte,rAz,rS,rE,rL,reduceCtorEq]
    try refine And.intro (by omega) ?_
    refine (hI _ _).2 ⟨?_,?_,?_,?_,?_,?_,?_,?_,?_,?_,?_,?_,?_,?_⟩
    ·exact hq
    all_goals first | exact cl0 | (simp -implicitDefEqProofs (disch:=omega) only [h0,h3,h37,h38,h39,hh3_0,hh37_1,ha0,ha1,ha2,ha3,ha4,ha5,lma,go_sem,↓reduceIte,rAz,rS,rE,rL,reduceCtorEq] <;> first | (simp [mBox]; done) | (simp [mBox]; omega))
   ·have hR : roomC d.buckets r g = (decide (r.pages <= tokB (kpB m r.write)) && decide (1 <= tokB (koB m r.write))):=by unfold roomC; rw [capOf_at hmi hmg hbe]
    rw [e] at k0
    have hil:=(lgs.1 hmi).1
    have hcb:=capsB_iff.1 (hbk m (lmg hmi)).2
    have k1:=kinds_eq (d.buckets.map Cp.pv) i r.write
    have k2 : V 181 [(kpB m r.write).vv] [] = some (.p (.int .i64 (tokB (kpB m r.write))),[]):=btok_eq _ (by unfold kpB; split; exact (soundB_iff.1 hcb.2.1).1; exact (soundB_iff.1 hcb.1).1)
    have k3 : V 181 [(koB m r.write).vv] [] = some (.p (.int .i64 (tokB (koB m r.write))),[]):=btok_eq _ (by unfold koB; split; exact (soundB_iff.1 hcb.2.2.2).1; exact (soundB_iff.1 hcb.2.2.1).1)
    cases hw : r.write with
    | false =>
     rw [hw] at k1 k2 k3 hR
     simp only [kpB,koB,bft,if_false] at k1 k2 k3 hR
     by_cases b1 : r.pages <= tokB m.rp
     ·have b1' : ¬ tokB m.rp < r.pages:=by omega
      by_cases b2 : 1 <= tokB m.ro
      ·have b2' : ¬ tokB m.ro < 1:=by omega
       rw [hR,decide_eq_true b1,decide_eq_true b2,bta,bta] at hq
       simp -implicitDefEqProofs (disch:=omega) only [h0,h3,h37,h38,h39,hh3_0,hh37_1,ha0,ha1,ha2,ha3,ha4,ha5,hlt,hm,k0,hil,hmi,hw,k1,Cp.pv,PV.cells,k2,k3,b1',b2',go_sem,↓reduceIte,rAz,rS,rE,rL,reduceCtorEq]
       try refine And.intro (by omega) ?_
       refine (hI _ _).2 ⟨?_,?_,?_,?_,?_,?_,?_,?_,?_,?_,?_,?_,?_,?_⟩
       .exact hq
       all_goals first | exact cl0 | (simp -implicitDefEqProofs (disch:=omega) only [h0,h3,h37,h38,h39,hh3_0,hh37_1,ha0,ha1,ha2,ha3,ha4,ha5,lma,go_sem,↓reduceIte,rAz,rS,rE,rL,reduceCtorEq] <;> first | (simp [mBox]; done) | (simp [mBox]; omega))
      ·have b2' : tokB m.ro < 1:=by omega
       rw [hR,decide_eq_true b1,decide_eq_false b2,bta,bfa] at hq
       simp -implicitDefEqProofs (disch:=omega) only [h0,h3,h37,h38,h39,hh3_0,hh37_1,ha0,ha1,ha2,ha3,ha4,ha5,hlt,hm,k0,hil,hmi,hw,k1,Cp.pv,PV.cells,k2,k3,b1',b2',hq,go_sem,↓reduceIte,rAz,rS,rE,rL,reduceCtorEq]
     ·have b1' : tokB m.rp < r.pages:=by omega
      rw [hR,decide_eq_false b1,bfa,bfa] at hq
      simp -implicitDefEqProofs (disch:=omega) only [h0,h3,h37,h38,h39,hh3_0,hh37_1,ha0,ha1,ha2,ha3,ha4,ha5,hlt,hm,k0,hil,hmi,hw,k1,Cp.pv,PV.cells,k2,k3,b1',hq,go_sem,↓reduceIte,rAz,rS,rE,rL,reduceCtorEq]
    | true =>
     rw [hw] at k1 k2 k3 hR
     simp only [kpB,koB,if_true] at k1 k2 k3 hR
     by_cases b1 : r.pages <= tokB m.wp
     ·have b1' : ¬ tokB m.wp < r.pages:=by omega
      by_cases b2 : 1 <= tokB m.wo
      ·have b2' : ¬ tokB m.wo < 1:=by omega
       rw [hR,decide_eq_true b1,decide_eq_true b2,bta,bta] at hq
       simp -implicitDefEqProofs (disch:=omega) only [h0,h3,h37,h38,h39,hh3_0,hh37_1,ha0,ha1,ha2,ha3,ha4,ha5,hlt,hm,k0,hil,hmi,hw,k1,Cp.pv,PV.cells,k2,k3,b1',b2',go_sem,↓reduceIte,rAz,rS,rE,rL,reduceCtorEq]
       try refine And.intro (by omega) ?_
       refine (hI _ _).2 ⟨?_,?_,?_,?_,?_,?_,?_,?_,?_,?_,?_,?_,?_,?_⟩
       .exact hq
       all_goals first | exact cl0 | (simp -implicitDefEqProofs (disch:=omega) only [h0,h3,h37,h38,h39,hh3_0,hh37_1,ha0,ha1,ha2,ha3,ha4,ha5,lma,go_sem,↓reduceIte,rAz,rS,rE,rL,reduceCtorEq] <;> first | (simp [mBox]; done) | (simp [mBox]; omega))
      ·have b2' : tokB m.wo < 1:=by omega
       rw [hR,decide_eq_true b1,decide_eq_false b2,bta,bfa] at hq
       simp -implicitDefEqProofs (disch:=omega) only [h0,h3,h37,h38,h39,hh3_0,hh37_1,ha0,ha1,ha2,ha3,ha4,ha5,hlt,hm,k0,hil,hmi,hw,k1,Cp.pv,PV.cells,k2,k3,b1',b2',hq,go_sem,↓reduceIte,rAz,rS,rE,rL,reduceCtorEq]
     ·have b1' : tokB m.wp < r.pages:=by omega
      rw [hR,decide_eq_false b1,bfa,bfa] at hq
      simp -implicitDefEqProofs (disch:=omega) only [h0,h3,h37,h38,h39,hh3_0,hh37_1,ha0,ha1,ha2,ha3,ha4,ha5,hlt,hm,k0,hil,hmi,hw,k1,Cp.pv,PV.cells,k2,k3,b1',hq,go_sem,↓reduceIte,rAz,rS,rE,rL,reduceCtorEq]
  ·rw [List.drop_eq_nil_of_le (by omega),List.all_nil] at hq
   simp -implicitDefEqProofs (disch:=omega) only [h0,h3,h37,h38,h39,hh3_0,hh37_1,ha0,ha1,ha2,ha3,ha4,ha5,hge,hq,go_sem,↓reduceIte,rAz,rS,rE,rL,reduceCtorEq]
set_option maxHeartbeats 4000000 in
theorem ready_eq {t : Tr} {d : Dv} (h : DvOk t d) (hs : d.Small) : V 54 [.ptr (.arg 0 0) 0 0] (mH t d) = some (.fresh 1 ((msort (readyL t d [] d.queue)).map (.int .i64)),mH t d):=by
 refine V_wp (vf:=vf54) rfl ?_
 have hq:=h.len
 simp -implicitDefEqProofs (disch:=omega) only [vf54,vb54,go_sem,↓reduceIte,rAz,rS,rE,rL,reduceCtorEq]
 obtain ⟨I,hI⟩ : ∃ I : Nat -> St -> Prop,∀ k s,I k s ↔ ∃ (acc : List Int) (w : Nat) (S : List Int) (ks : List MKey) (vs : List PV),readyL t d [] d.queue = acc ++ readyL t d S (d.queue.drop k) /\ acc.length <= k /\ Rep3 ks vs (fun x=>decide (x ∈ S)) /\ s.pe 0 = .ptr (Id.arg 0 0) 0 0 /\ s.pe 3 = .mref (.slot 7 0) 0 /\ s.pe 4 = .own (.slot 4 0) w 0 acc.length /\ s.pe 12 = VVal.own (Id.arg 4 0) 0 0 d.queue.length /\ s.pe 13 = .p (.int .i64 ↑d.queue.length) /\ s.pe 14 = .p (.int .i64 k) /\ s.h (.slot 4 0) = some (w,Ob.arr 1 (acc.map (.int .i64))) /\ s.h (.slot 7 0) = some (0,Ob.map (KT.int IntKind.i64) ks vs) /\ s.h (.arg 0 0) = some (0,mBox t d) /\ s.h (.arg 1 0) = some (0,.arr 2 (d.weights.map Ch.pv)) /\ s.h (.arg 2 0) = some (0,.arr 21 (d.buckets.map Cp.pv)) /\ s.h (.arg 3 0) = some (0,.arr 3 (d.depths.map Dp.pv)) /\ s.h (.arg 4 0) = some (0,.arr 6 (d.queue.map Rq.pv)) /\ s.h (.arg 5 0) = some (0,.arr 7 (d.flights.map Fl.pv)):=⟨_,fun _ _=>Iff.rfl⟩
 refine wp_count (d.queue.length) I ?_ ?_
 ·refine (hI _ _).2 ⟨[],0,[],[],[],?_,?_,?_,?_,?_,?_,?_,?_,?_,?_,?_,?_,?_,?_,?_,?_,?_⟩
  ·exact by simp
  ·exact cl3
  ·exact fun _=>rfl
  all_goals first | exact cl0 | (simp -implicitDefEqProofs (disch:=omega) only [lma,go_sem,↓reduceIte,rAz,rS,rE,rL,reduceCtorEq] <;> first | (simp [mBox]; done) | (simp [mBox]; omega))
 intro k s hk hIk
 obtain ⟨acc,w,S,ks,vs,hr,hal,hrep,h0,h3,h4,h12,h13,h14,hh4_0,hh7_0,ha0,ha1,ha2,ha3,ha4,ha5⟩:=(hI _ _).1 hIk
 clear hIk
 simp -implicitDefEqProofs (disch:=omega) only [h0,h3,h4,h12,h13,h14,hh4_0,hh7_0,ha0,ha1,ha2,ha3,ha4,ha5,go_sem,↓reduceIte,rAz,rS,rE,rL,reduceCtorEq]
 refine wp_if_d (fun hlt=>?_) (fun hge=>?_)
 ·have hm : d.queue[k]? = some d.queue[k]:=lgg hlt
  rw [ldg hlt,readyL] at hr
  have hrk:=(h.q d.queue[k] (lmg hm)).2
  generalize d.queue[k] = r at hm hr hrk
  have k0:=passes_eq h r hs hrk
  have hg:=hrep r.group
  have hnx:=(hrep.put r.group).congr (on':=fun x=>decide (x ∈ r.group :: S)) fun x=>by
   by_cases hx : x = r.group <;> simp [hx]
  by_cases hin : r.group ∈ S
  ·rw [if_pos hin,lna] at hr
   simp only [hin,decide_true,if_true] at hg
   have hg : (mget ks vs (.int r.group)).getD (.bool false) = .bool true:=by rw [hg]; rfl
   simp -implicitDefEqProofs (disch:=omega) only [h0,h3,h4,h12,h13,h14,hh4_0,hh7_0,ha0,ha1,ha2,ha3,ha4,ha5,hlt,hm,hg,go_sem,↓reduceIte,rAz,rS,rE,rL,reduceCtorEq]
   try refine And.intro (by omega) ?_
   refine (hI _ _).2 ⟨acc,w,r.group :: S,(mput ks vs (.int r.group) (.bool true)).1,(mput ks vs (.int r.group) (.bool true)).2,?_,?_,?_,?_,?_,?_,?_,?_,?_,?_,?_,?_,?_,?_,?_,?_,?_⟩
   ·exact hr
   ·omega
   ·exact hnx
   all_goals first | exact cl0 | (simp -implicitDefEqProofs (disch:=omega) only [h0,h3,h4,h12,h13,h14,hh4_0,hh7_0,ha0,ha1,ha2,ha3,ha4,ha5,lma,go_sem,↓reduceIte,rAz,rS,rE,rL,reduceCtorEq] <;> first | (simp [mBox]; done) | (simp [mBox]; omega))
  ·rw [if_neg hin] at hr
   simp only [hin,decide_false,bft,if_false] at hg
   have hg : (mget ks vs (.int r.group)).getD (.bool false) = .bool false:=by rw [hg]; rfl
   cases hp : passD t d r with
   | false =>
    rw [hp] at k0 hr
    simp only [bft,if_false,lna] at hr
    simp -implicitDefEqProofs (disch:=omega) only [h0,h3,h4,h12,h13,h14,hh4_0,hh7_0,ha0,ha1,ha2,ha3,ha4,ha5,hlt,hm,hg,k0,go_sem,↓reduceIte,rAz,rS,rE,rL,reduceCtorEq]
    try refine And.intro (by omega) ?_
    refine (hI _ _).2 ⟨acc,w,r.group :: S,(mput ks vs (.int r.group) (.bool true)).1,(mput ks vs (.int r.group) (.bool true)).2,?_,?_,?_,?_,?_,?_,?_,?_,?_,?_,?_,?_,?_,?_,?_,?_,?_⟩
    .exact hr
    .omega
    .exact hnx
    all_goals first | exact cl0 | (simp -implicitDefEqProofs (disch:=omega) only [h0,h3,h4,h12,h13,h14,hh4_0,hh7_0,ha0,ha1,ha2,ha3,ha4,ha5,lma,go_sem,↓reduceIte,rAz,rS,rE,rL,reduceCtorEq] <;> first | (simp [mBox]; done) | (simp [mBox]; omega))
   | true =>
    rw [hp] at k0 hr
    simp only [if_true] at hr
    simp -implicitDefEqProofs (disch:=omega) only [h0,h3,h4,h12,h13,h14,hh4_0,hh7_0,ha0,ha1,ha2,ha3,ha4,ha5,hlt,hm,hg,k0,go_sem,↓reduceIte,rAz,rS,rE,rL,reduceCtorEq]
    try refine And.intro (by omega) ?_
    refine (hI _ _).2 ⟨acc ++ [r.group],w + 1,r.group :: S,(mput ks vs (.int r.group) (.bool true)).1,(mput ks vs (.int r.group) (.bool true)).2,?_,?_,?_,?_,?_,?_,?_,?_,?_,?_,?_,?_,?_,?_,?_,?_,?_⟩
    .exact by rw [hr,laa]
    .exact by simp; omega
    .exact hnx
    all_goals first | exact cl0 | (simp -implicitDefEqProofs (disch:=omega) only [h0,h3,h4,h12,h13,h14,hh4_0,hh7_0,ha0,ha1,ha2,ha3,ha4,ha5,lma,go_sem,↓reduceIte,rAz,rS,rE,rL,reduceCtorEq] <;> first | (simp [mBox]; done) | (simp [mBox]; omega))
 ·rw [List.drop_eq_nil_of_le (by omega),readyL,lan] at hr
  rw [hr]
  have hso:=sort_eq acc (by omega)
  have hml:=msort_length acc
  have htk : (List.map (PV.int .i64) (msort acc)).take acc.length = List.map (PV.int .i64) (msort acc):=ltl (by rw [llm]; omega)
  simp -implicitDefEqProofs (disch:=omega) only [h0,h3,h4,h12,h13,h14,hh4_0,hh7_0,ha0,ha1,ha2,ha3,ha4,ha5,hge,hso,htk,go_sem,↓reduceIte,rAz,rS,rE,rL,reduceCtorEq]
abbrev mBoxG (t : Tr) (d : Dv) (v : VVal) (q f : Nat) : Ob:=.box [.p (.int .i64 d.m.rb),.p (.int .i64 d.m.rp),.p (.int .i64 d.m.wb),.p (.int .i64 d.m.wp),.p (.int .i64 d.m.seek),.p (.int .i64 d.speed),.p (.int .i64 d.margin),.p (.int .i64 d.now),.p (.int .i64 d.free),.p (.int .i64 d.head),.own (.arg 1 0) 0 0 d.weights.length,.own (.arg 2 0) 0 0 d.buckets.length,.own (.arg 3 0) 0 0 d.depths.length,v,.own (.arg 4 0) q 0 d.queue.length,.own (.arg 5 0) f 0 d.flights.length,.p (nodesP t.nodes),.p (.int .i64 t.next)]
def advP (n : Int) (c : Cp) (j : Nat) : Cp:=⟨c.group,if 0 < j then advB c.rp n else c.rp,if 1 < j then advB c.wp n else c.wp,if 2 < j then advB c.ro n else c.ro,if 3 < j then advB c.wo n else c.wo⟩
theorem advP_four (n : Int) (c : Cp) : advP n c 4 = advC n c:=rfl
theorem advP_zero (n : Int) (c : Cp) : advP n c 0 = c:=rfl
theorem mid_at {α : Type} {a b : List α} {x : α} {k : Nat} (h : a.length = k) : (a ++ x :: b)[k]? = some x:=by subst h; simp
theorem mid_set {α : Type} {a b : List α} {x y : α} {k : Nat} (h : a.length = k) : (a ++ x :: b).set k y = a ++ y :: b:=by subst h; simp
theorem tw_lt {α : Type} {p : α -> Bool} : ∀ {l : List α} {k : Nat},k < (l.takeWhile p).length -> ∃ f,l[k]? = some f /\ p f = true
 | [],k,h=>by simp at h
 | x :: l,k,h=>by
  by_cases hx : p x = true
  ·rw [List.takeWhile_cons_of_pos hx] at h
   cases k with
   | zero=>exact ⟨x,rfl,hx⟩
   | succ k=>exact tw_lt (l:=l) (k:=k) (by simpa using h)
  ·rw [List.takeWhile_cons_of_neg hx] at h
   simp at h
theorem tw_end {α : Type} {p : α -> Bool} : ∀ {l : List α},(l.takeWhile p).length = l.length \/ ∃ f,l[(l.takeWhile p).length]? = some f /\ p f = false
 | []=>.inl rfl
 | x :: l=>by
  by_cases hx : p x = true
  ·rw [List.takeWhile_cons_of_pos hx]
   rcases tw_end (p:=p) (l:=l) with h | ⟨f,h1,h2⟩
   .exact .inl (by simp [h])
   .exact .inr ⟨f,by simpa using h1,h2⟩
  ·rw [List.takeWhile_cons_of_neg hx]
   exact .inr ⟨x,rfl,by simpa using hx⟩
theorem tw_take {α : Type} {p : α -> Bool} : ∀ {l : List α},l.take (l.takeWhile p).length = l.takeWhile p /\ l.drop (l.takeWhile p).length = l.dropWhile p
 | []=>⟨rfl,rfl⟩
 | x :: l=>by
  by_cases hx : p x = true
  ·rw [List.takeWhile_cons_of_pos hx,List.dropWhile_cons_of_pos hx,llc,List.take_succ_cons,List.drop_succ_cons,tw_take.1,tw_take.2]
   exact ⟨rfl,rfl⟩
  ·rw [List.takeWhile_cons_of_neg hx,List.dropWhile_cons_of_neg hx]
   exact ⟨rfl,rfl⟩
set_option maxHeartbeats 8000000 in
theorem advance_eq {t : Tr} {d : Dv} (h : DvOk t d) (hs : d.Small) (hnow : d.now < 1048576) : V 52 [.ptr (.arg 0 0) 0 0] (mH t d) = some (.fresh 7 ((endedD d).map Fl.pv),[mBoxG t (advD d) (.p (chsP d.v)) 0 1,.arr 2 (d.weights.map Ch.pv),.arr 21 ((advD d).buckets.map Cp.pv),.arr 3 (d.depths.map Dp.pv),.arr 6 (d.queue.map Rq.pv),.box [.undef,.fresh 7 ((advD d).flights.map Fl.pv)]]):=by
 refine V_wp (vf:=vf52) rfl ?_
 have hq:=h.len
 have hn:=h.now
 have hbk:=(ascB_iff.1 h.bk).1
 have hbl:=hs.b
 simp -implicitDefEqProofs (disch:=omega) only [vf52,vb52,go_sem,↓reduceIte,rAz,rS,rE,rL,reduceCtorEq]
 obtain ⟨I,hI⟩ : ∃ I : Nat -> St -> Prop,∀ k s,I k s ↔ ∃ (M : List Cp),M = (d.buckets.take k).map (advC (d.now + 1)) ++ d.buckets.drop k /\ M.length = d.buckets.length /\ s.pe 0 = .ptr (Id.arg 0 0) 0 0 /\ s.pe 23 = .p (.int .i64 ↑d.buckets.length) /\ s.pe 24 = .p (.int .i64 k) /\ s.h (.arg 0 0) = some (0,Ob.box [.p (.int .i64 d.m.rb),.p (.int .i64 d.m.rp),.p (.int .i64 d.m.wb),.p (.int .i64 d.m.wp),.p (.int .i64 d.m.seek),.p (.int .i64 d.speed),.p (.int .i64 d.margin),.p (.int .i64 (d.now + 1)),.p (.int .i64 d.free),.p (.int .i64 d.head),VVal.own (Id.arg 1 0) 0 0 d.weights.length,VVal.own (Id.arg 2 0) 0 0 d.buckets.length,VVal.own (Id.arg 3 0) 0 0 d.depths.length,.p (chsP d.v),VVal.own (Id.arg 4 0) 0 0 d.queue.length,VVal.own (Id.arg 5 0) 0 0 d.flights.length,.p (nodesP t.nodes),.p (.int .i64 t.next)]) /\ s.h (.arg 1 0) = some (0,.arr 2 (d.weights.map Ch.pv)) /\ s.h (.arg 2 0) = some (0,.arr 21 (M.map Cp.pv)) /\ s.h (.arg 3 0) = some (0,.arr 3 (d.depths.map Dp.pv)) /\ s.h (.arg 4 0) = some (0,.arr 6 (d.queue.map Rq.pv)) /\ s.h (.arg 5 0) = some (0,.arr 7 (d.flights.map Fl.pv)):=⟨_,fun _ _=>Iff.rfl⟩
 refine wp_count (d.buckets.length) I ?_ ?_
 ·refine (hI _ _).2 ⟨d.buckets,?_,?_,?_,?_,?_,?_,?_,?_,?_,?_,?_⟩
  ·exact cl3
  ·exact cl3
  all_goals first | exact cl0 | (simp -implicitDefEqProofs (disch:=omega) only [lma,go_sem,↓reduceIte,rAz,rS,rE,rL,reduceCtorEq] <;> first | (simp [mBox,List.map_set,Cp.pv]; done) | (simp [mBox,List.map_set,Cp.pv]; omega))
 intro k s hk hIk
 obtain ⟨M,hM,hMl,h0,h23,h24,ha0,ha1,ha2,ha3,ha4,ha5⟩:=(hI _ _).1 hIk
 clear hIk
 simp -implicitDefEqProofs (disch:=omega) only [h0,h23,h24,ha0,ha1,ha2,ha3,ha4,ha5,go_sem,↓reduceIte,rAz,rS,rE,rL,reduceCtorEq]
 refine wp_if_d (fun hlt=>?_) (fun hge=>?_)
 ·have hm : d.buckets[k]? = some d.buckets[k]:=lgg hlt
  rw [ldg hlt] at hM
  have htk:=take_snoc hm
  generalize d.buckets[k] = c at hm hM htk
  have hcb:=capsB_iff.1 (hbk c (lmg hm)).2
  have hlk : ((d.buckets.take k).map (advC (d.now + 1))).length = k:=by rw [llm,llt]; omega
  simp -implicitDefEqProofs (disch:=omega) only [h0,h23,h24,ha0,ha1,ha2,ha3,ha4,ha5,hlt,hMl,go_sem,↓reduceIte,rAz,rS,rE,rL,reduceCtorEq]
  obtain ⟨J,hJ⟩ : ∃ I : Nat -> St -> Prop,∀ j s,I j s ↔ ∃ (M : List Cp),M = (d.buckets.take k).map (advC (d.now + 1)) ++ advP (d.now + 1) c j :: d.buckets.drop (k + 1) /\ M.length = d.buckets.length /\ s.pe 0 = .ptr (Id.arg 0 0) 0 0 /\ s.pe 23 = .p (.int .i64 ↑d.buckets.length) /\ s.pe 24 = .p (.int .i64 ↑k) /\ s.pe 46 = .plist [VVal.eptr (Id.arg 2 0) 0 k 1,VVal.eptr (Id.arg 2 0) 0 k 6,VVal.eptr (Id.arg 2 0) 0 k 11,VVal.eptr (Id.arg 2 0) 0 k 16] /\ s.pe 47 = .p (.int .i64 ((4 : Nat) : Int)) /\ s.pe 48 = .p (.int .i64 j) /\ s.h (.arg 0 0) = some (0,Ob.box [.p (.int .i64 d.m.rb),.p (.int .i64 d.m.rp),.p (.int .i64 d.m.wb),.p (.int .i64 d.m.wp),.p (.int .i64 d.m.seek),.p (.int .i64 d.speed),.p (.int .i64 d.margin),.p (.int .i64 (d.now + 1)),.p (.int .i64 d.free),.p (.int .i64 d.head),VVal.own (Id.arg 1 0) 0 0 d.weights.length,VVal.own (Id.arg 2 0) 0 0 d.buckets.length,VVal.own (Id.arg 3 0) 0 0 d.depths.length,.p (chsP d.v),VVal.own (Id.arg 4 0) 0 0 d.queue.length,VVal.own (Id.arg 5 0) 0 0 d.flights.length,.p (nodesP t.nodes),.p (.int .i64 t.next)]) /\ s.h (.arg 1 0) = some (0,.arr 2 (d.weights.map Ch.pv)) /\ s.h (.arg 2 0) = some (0,.arr 21 (M.map Cp.pv)) /\ s.h (.arg 3 0) = some (0,.arr 3 (d.depths.map Dp.pv)) /\ s.h (.arg 4 0) = some (0,.arr 6 (d.queue.map Rq.pv)) /\ s.h (.arg 5 0) = some (0,.arr 7 (d.flights.map Fl.pv)):=⟨_,fun _ _=>Iff.rfl⟩
  refine wp_count (4) J ?_ ?_
  ·refine (hJ _ _).2 ⟨M,?_,?_,?_,?_,?_,?_,?_,?_,?_,?_,?_,?_,?_,?_⟩
   ·exact by rw [advP_zero]; exact hM
   ·exact hMl
   all_goals first | exact cl0 | (simp -implicitDefEqProofs (disch:=omega) only [h0,h23,h24,ha0,ha1,ha2,ha3,ha4,ha5,lma,go_sem,↓reduceIte,rAz,rS,rE,rL,reduceCtorEq] <;> first | (simp [mBox,List.map_set,Cp.pv]; done) | (simp [mBox,List.map_set,Cp.pv]; omega))
  intro j s hj hJk
  obtain ⟨M,hN,hNl,h0,h23,h24,h46,h47,h48,ha0,ha1,ha2,ha3,ha4,ha5⟩:=(hJ _ _).1 hJk
  clear hJk
  simp -implicitDefEqProofs (disch:=omega) only [h0,h23,h24,h46,h47,h48,ha0,ha1,ha2,ha3,ha4,ha5,go_sem,↓reduceIte,rAz,rS,rE,rL,reduceCtorEq]
  refine wp_if_d (fun hjl=>?_) (fun hjg=>?_)
  ·have hmid : M[k]? = some (advP (d.now + 1) c j):=by rw [hN]; exact mid_at hlk
   have hset : ∀ y,M.set k y = (d.buckets.take k).map (advC (d.now + 1)) ++ y :: d.buckets.drop (k + 1):=fun y=>by rw [hN]; exact mid_set hlk
   have hj : j = 0 \/ j = 1 \/ j = 2 \/ j = 3:=by omega
   rcases hj with hj | hj | hj | hj
   ·have hb : ([VVal.eptr (Id.arg 2 0) 0 k 1,VVal.eptr (Id.arg 2 0) 0 k 6,VVal.eptr (Id.arg 2 0) 0 k 11,VVal.eptr (Id.arg 2 0) 0 k 16] : List VVal)[j]? = some (VVal.eptr (Id.arg 2 0) 0 k 1):=by rw [hj]; rfl
    have hb2:=badv_eq c.rp (d.now + 1) (soundB_iff.1 hcb.1).1 (by have:=(soundB_iff.1 hcb.1).2.2; omega) (by omega)
    have e0 : advP (d.now + 1) c j = ⟨c.group,c.rp,c.wp,c.ro,c.wo⟩:=by rw [hj]; rfl
    rw [e0] at hmid
    simp -implicitDefEqProofs (disch:=omega) only [h0,h23,h24,h46,h47,h48,ha0,ha1,ha2,ha3,ha4,ha5,hjl,hb,hmid,Cp.pv,PV.cells,hb2,go_sem,↓reduceIte,rAz,rS,rE,rL,reduceCtorEq]
    try refine And.intro (by omega) ?_
    refine (hJ _ _).2 ⟨M.set k ⟨c.group,advB c.rp (d.now + 1),c.wp,c.ro,c.wo⟩,?_,?_,?_,?_,?_,?_,?_,?_,?_,?_,?_,?_,?_,?_⟩
    .exact by rw [hset,hj]; rfl
    .exact by rw [List.length_set]; exact hNl
    all_goals first | exact cl0 | (simp -implicitDefEqProofs (disch:=omega) only [h0,h23,h24,h46,h47,h48,ha0,ha1,ha2,ha3,ha4,ha5,lma,go_sem,↓reduceIte,rAz,rS,rE,rL,reduceCtorEq] <;> first | (simp [mBox,List.map_set,Cp.pv]; done) | (simp [mBox,List.map_set,Cp.pv]; omega))
   ·have hb : ([VVal.eptr (Id.arg 2 0) 0 k 1,VVal.eptr (Id.arg 2 0) 0 k 6,VVal.eptr (Id.arg 2 0) 0 k 11,VVal.eptr (Id.arg 2 0) 0 k 16] : List VVal)[j]? = some (VVal.eptr (Id.arg 2 0) 0 k 6):=by rw [hj]; rfl
    have hb2:=badv_eq c.wp (d.now + 1) (soundB_iff.1 hcb.2.1).1 (by have:=(soundB_iff.1 hcb.2.1).2.2; omega) (by omega)
    have e0 : advP (d.now + 1) c j = ⟨c.group,advB c.rp (d.now + 1),c.wp,c.ro,c.wo⟩:=by rw [hj]; rfl
    rw [e0] at hmid
    simp -implicitDefEqProofs (disch:=omega) only [h0,h23,h24,h46,h47,h48,ha0,ha1,ha2,ha3,ha4,ha5,hjl,hb,hmid,Cp.pv,PV.cells,hb2,go_sem,↓reduceIte,rAz,rS,rE,rL,reduceCtorEq]
    try refine And.intro (by omega) ?_
    refine (hJ _ _).2 ⟨M.set k ⟨c.group,advB c.rp (d.now + 1),advB c.wp (d.now + 1),c.ro,c.wo⟩,?_,?_,?_,?_,?_,?_,?_,?_,?_,?_,?_,?_,?_,?_⟩
    .exact by rw [hset,hj]; rfl
    .exact by rw [List.length_set]; exact hNl
    all_goals first | exact cl0 | (simp -implicitDefEqProofs (disch:=omega) only [h0,h23,h24,h46,h47,h48,ha0,ha1,ha2,ha3,ha4,ha5,lma,go_sem,↓reduceIte,rAz,rS,rE,rL,reduceCtorEq] <;> first | (simp [mBox,List.map_set,Cp.pv]; done) | (simp [mBox,List.map_set,Cp.pv]; omega))
   ·have hb : ([VVal.eptr (Id.arg 2 0) 0 k 1,VVal.eptr (Id.arg 2 0) 0 k 6,VVal.eptr (Id.arg 2 0) 0 k 11,VVal.eptr (Id.arg 2 0) 0 k 16] : List VVal)[j]? = some (VVal.eptr (Id.arg 2 0) 0 k 11):=by rw [hj]; rfl
    have hb2:=badv_eq c.ro (d.now + 1) (soundB_iff.1 hcb.2.2.1).1 (by have:=(soundB_iff.1 hcb.2.2.1).2.2; omega) (by omega)
    have e0 : advP (d.now + 1) c j = ⟨c.group,advB c.rp (d.now + 1),advB c.wp (d.now + 1),c.ro,c.wo⟩:=by rw [hj]; rfl
    rw [e0] at hmid
    simp -implicitDefEqProofs (disch:=omega) only [h0,h23,h24,h46,h47,h48,ha0,ha1,ha2,ha3,ha4,ha5,hjl,hb,hmid,Cp.pv,PV.cells,hb2,go_sem,↓reduceIte,rAz,rS,rE,rL,reduceCtorEq]
    try refine And.intro (by omega) ?_
    refine (hJ _ _).2 ⟨M.set k ⟨c.group,advB c.rp (d.now + 1),advB c.wp (d.now + 1),advB c.ro (d.now + 1),c.wo⟩,?_,?_,?_,?_,?_,?_,?_,?_,?_,?_,?_,?_,?_,?_⟩
    .exact by rw [hset,hj]; rfl
    .exact by rw [List.length_set]; exact hNl
    all_goals first | exact cl0 | (simp -implicitDefEqProofs (disch:=omega) only [h0,h23,h24,h46,h47,h48,ha0,ha1,ha2,ha3,ha4,ha5,lma,go_sem,↓reduceIte,rAz,rS,rE,rL,reduceCtorEq] <;> first | (simp [mBox,List.map_set,Cp.pv]; done) | (simp [mBox,List.map_set,Cp.pv]; omega))
   ·have hb : ([VVal.eptr (Id.arg 2 0) 0 k 1,VVal.eptr (Id.arg 2 0) 0 k 6,VVal.eptr (Id.arg 2 0) 0 k 11,VVal.eptr (Id.arg 2 0) 0 k 16] : List VVal)[j]? = some (VVal.eptr (Id.arg 2 0) 0 k 16):=by rw [hj]; rfl
    have hb2:=badv_eq c.wo (d.now + 1) (soundB_iff.1 hcb.2.2.2).1 (by have:=(soundB_iff.1 hcb.2.2.2).2.2; omega) (by omega)
    have e0 : advP (d.now + 1) c j = ⟨c.group,advB c.rp (d.now + 1),advB c.wp (d.now + 1),advB c.ro (d.now + 1),c.wo⟩:=by rw [hj]; rfl
    rw [e0] at hmid
    simp -implicitDefEqProofs (disch:=omega) only [h0,h23,h24,h46,h47,h48,ha0,ha1,ha2,ha3,ha4,ha5,hjl,hb,hmid,Cp.pv,PV.cells,hb2,go_sem,↓reduceIte,rAz,rS,rE,rL,reduceCtorEq]
    try refine And.intro (by omega) ?_
    refine (hJ _ _).2 ⟨M.set k ⟨c.group,advB c.rp (d.now + 1),advB c.wp (d.now + 1),advB c.ro (d.now + 1),advB c.wo (d.now + 1)⟩,?_,?_,?_,?_,?_,?_,?_,?_,?_,?_,?_,?_,?_,?_⟩
    .exact by rw [hset,hj]; rfl
    .exact by rw [List.length_set]; exact hNl
    all_goals first | exact cl0 | (simp -implicitDefEqProofs (disch:=omega) only [h0,h23,h24,h46,h47,h48,ha0,ha1,ha2,ha3,ha4,ha5,lma,go_sem,↓reduceIte,rAz,rS,rE,rL,reduceCtorEq] <;> first | (simp [mBox,List.map_set,Cp.pv]; done) | (simp [mBox,List.map_set,Cp.pv]; omega))
  ·rw [show j = 4 by omega,advP_four] at hN
   simp -implicitDefEqProofs (disch:=omega) only [h0,h23,h24,h46,h47,h48,ha0,ha1,ha2,ha3,ha4,ha5,hjg,go_sem,↓reduceIte,rAz,rS,rE,rL,reduceCtorEq]
   try refine And.intro (by omega) ?_
   refine (hI _ _).2 ⟨M,?_,?_,?_,?_,?_,?_,?_,?_,?_,?_,?_⟩
   ·exact by rw [hN,htk,lma,laa]; rfl
   ·exact hNl
   all_goals first | exact cl0 | (simp -implicitDefEqProofs (disch:=omega) only [h0,h23,h24,ha0,ha1,ha2,ha3,ha4,ha5,lma,go_sem,↓reduceIte,rAz,rS,rE,rL,reduceCtorEq] <;> first | (simp [mBox,List.map_set,Cp.pv]; done) | (simp [mBox,List.map_set,Cp.pv]; omega))
 ·rw [ltl (by omega),List.drop_eq_nil_of_le (by omega),lan] at hM
  simp -implicitDefEqProofs (disch:=omega) only [h0,h23,h24,ha0,ha1,ha2,ha3,ha4,ha5,hge,go_sem,↓reduceIte,rAz,rS,rE,rL,reduceCtorEq]
  obtain ⟨p,hp⟩ : ∃ p : Fl -> Bool,p = fun f=>decide (f.done <= d.now + 1):=⟨_,rfl⟩
  have hE : endedD d = d.flights.takeWhile p:=by rw [hp]; rfl
  have hF : (advD d).flights = d.flights.dropWhile p:=by rw [hp]; rfl
  have hNle : (d.flights.takeWhile p).length <= d.flights.length:=(List.takeWhile_sublist p).length_le
  have htd:=tw_take (p:=p) (l:=d.flights)
  have hlt:=fun k=>tw_lt (p:=p) (l:=d.flights) (k:=k)
  have hen:=tw_end (p:=p) (l:=d.flights)
  generalize hN : (d.flights.takeWhile p).length = N at hNle htd hlt hen
  have r1 : (endedD d).map Fl.pv = (d.flights.take N).map Fl.pv:=by rw [hE,<- htd.1]
  have r2 : (advD d).flights.map Fl.pv = List.drop N (d.flights.map Fl.pv):=by rw [hF,<- htd.2,List.map_drop]
  have r3 : (advD d).flights.length = d.flights.length - N:=by rw [hF,<- htd.2,lld]
  have r4 : (advD d).buckets = M:=hM.symm
  have r5 : mBoxG t (advD d) (.p (chsP d.v)) 0 1 = Ob.box [.p (.int .i64 d.m.rb),.p (.int .i64 d.m.rp),.p (.int .i64 d.m.wb),.p (.int .i64 d.m.wp),.p (.int .i64 d.m.seek),.p (.int .i64 d.speed),.p (.int .i64 d.margin),.p (.int .i64 (d.now + 1)),.p (.int .i64 d.free),.p (.int .i64 d.head),VVal.own (Id.arg 1 0) 0 0 d.weights.length,VVal.own (Id.arg 2 0) 0 0 d.buckets.length,VVal.own (Id.arg 3 0) 0 0 d.depths.length,.p (chsP d.v),VVal.own (Id.arg 4 0) 0 0 d.queue.length,VVal.own (Id.arg 5 0) 1 0 (d.flights.length - N),.p (nodesP t.nodes),.p (.int .i64 t.next)]:=by
   unfold mBoxG
   rw [r3,r4,hMl]
   rfl
  rw [r1,r2,r4,r5]
  have hcl:=cloneF_x (xs:=(d.flights.take N).map Fl.pv) (by rw [llm,llt]; omega)
  have htt : (d.flights.take N).take (min N d.flights.length) = d.flights.take N:=by rw [List.take_take,show min (min N d.flights.length) N = N by omega]
  have hde:=delF_x (xs:=d.flights.map Fl.pv) (i:=0) (j:=N) (by rw [llm]; omega) (Int.le_refl _) (by omega) (by rw [llm]; omega)
  rw [llm,Int.toNat_natCast,show Int.toNat 0 = 0 from rfl,List.take_zero,lna,Nat.sub_zero] at hde
  obtain ⟨A,hA⟩ : ∃ I : Nat -> St -> Prop,∀ k s,I k s ↔ s.pe 0 = .ptr (Id.arg 0 0) 0 0 /\ s.pe 7 = .p (.int .i64 k) /\ s.h (.arg 0 0) = some (0,Ob.box [.p (.int .i64 d.m.rb),.p (.int .i64 d.m.rp),.p (.int .i64 d.m.wb),.p (.int .i64 d.m.wp),.p (.int .i64 d.m.seek),.p (.int .i64 d.speed),.p (.int .i64 d.margin),.p (.int .i64 (d.now + 1)),.p (.int .i64 d.free),.p (.int .i64 d.head),VVal.own (Id.arg 1 0) 0 0 d.weights.length,VVal.own (Id.arg 2 0) 0 0 d.buckets.length,VVal.own (Id.arg 3 0) 0 0 d.depths.length,.p (chsP d.v),VVal.own (Id.arg 4 0) 0 0 d.queue.length,VVal.own (Id.arg 5 0) 0 0 d.flights.length,.p (nodesP t.nodes),.p (.int .i64 t.next)]) /\ s.h (.arg 1 0) = some (0,.arr 2 (d.weights.map Ch.pv)) /\ s.h (.arg 2 0) = some (0,.arr 21 (M.map Cp.pv)) /\ s.h (.arg 3 0) = some (0,.arr 3 (d.depths.map Dp.pv)) /\ s.h (.arg 4 0) = some (0,.arr 6 (d.queue.map Rq.pv)) /\ s.h (.arg 5 0) = some (0,.arr 7 (d.flights.map Fl.pv)):=⟨_,fun _ _=>Iff.rfl⟩
  refine wp_count (N) A ?_ ?_
  ·refine (hA _ _).2 ⟨?_,?_,?_,?_,?_,?_,?_,?_⟩
   all_goals first | exact cl0 | (simp -implicitDefEqProofs (disch:=omega) only [h0,h23,h24,ha0,ha1,ha2,ha3,ha4,ha5,lma,go_sem,↓reduceIte,rAz,rS,rE,rL,reduceCtorEq] <;> first | (simp [mBox,List.map_set,Cp.pv]; done) | (simp [mBox,List.map_set,Cp.pv]; omega))
  intro k s hk hAk
  obtain ⟨h0,h7,ha0,ha1,ha2,ha3,ha4,ha5⟩:=(hA _ _).1 hAk
  clear hAk
  by_cases hkN : k < N
  ·obtain ⟨f,hf,hpf⟩:=hlt k hkN
   rw [hp] at hpf
   have hd : f.done <= d.now + 1:=of_decide_eq_true hpf
   have hkl:=(lgs.1 hf).1
   simp -implicitDefEqProofs (disch:=omega) only [h0,h7,ha0,ha1,ha2,ha3,ha4,ha5,hkl,hf,hd,go_sem,↓reduceIte,rAz,rS,rE,rL,reduceCtorEq]
   try refine And.intro (by omega) ?_
   refine (hA _ _).2 ⟨?_,?_,?_,?_,?_,?_,?_,?_⟩
   all_goals first | exact cl0 | (simp -implicitDefEqProofs (disch:=omega) only [h0,h7,ha0,ha1,ha2,ha3,ha4,ha5,lma,go_sem,↓reduceIte,rAz,rS,rE,rL,reduceCtorEq] <;> first | (simp [mBox,List.map_set,Cp.pv]; done) | (simp [mBox,List.map_set,Cp.pv]; omega))
  ·have hkE : k = N:=by omega
   subst hkE
   rcases hen with e | ⟨f,hf,hpf⟩
   ·have hkl : ¬ k < d.flights.length:=by omega
    simp -implicitDefEqProofs (disch:=omega) only [h0,h7,ha0,ha1,ha2,ha3,ha4,ha5,hkl,hcl,hde,htt,Nat.sub_zero,<- List.map_take,go_sem,↓reduceIte,rAz,rS,rE,rL,reduceCtorEq]
   ·rw [hp] at hpf
    have hd : ¬ f.done <= d.now + 1:=of_decide_eq_false hpf
    have hkl:=(lgs.1 hf).1
    simp -implicitDefEqProofs (disch:=omega) only [h0,h7,ha0,ha1,ha2,ha3,ha4,ha5,hkl,hf,hd,hcl,hde,htt,Nat.sub_zero,<- List.map_take,go_sem,↓reduceIte,rAz,rS,rE,rL,reduceCtorEq]
abbrev mBoxS (t : Tr) (d : Dv) (n : Nat) : Ob:=.box [.p (.int .i64 d.m.rb),.p (.int .i64 d.m.rp),.p (.int .i64 d.m.wb),.p (.int .i64 d.m.wp),.p (.int .i64 d.m.seek),.p (.int .i64 d.speed),.p (.int .i64 d.margin),.p (.int .i64 d.now),.p (.int .i64 d.free),.p (.int .i64 d.head),.own (.arg 1 0) 0 0 d.weights.length,.own (.arg 2 0) 0 0 d.buckets.length,.own (.arg 3 0) 0 0 d.depths.length,.own (.arg 4 0) 0 0 n,.own (.arg 5 0) 0 0 d.queue.length,.own (.arg 6 0) 0 0 d.flights.length,.p (nodesP t.nodes),.p (.int .i64 t.next)]
abbrev mHS (t : Tr) (d : Dv) (v : List Ch) (M : List Cp) : List Ob:=[mBoxS t d v.length,.arr 2 (d.weights.map Ch.pv),.arr 21 (M.map Cp.pv),.arr 3 (d.depths.map Dp.pv),.arr 2 (v.map Ch.pv),.arr 6 (d.queue.map Rq.pv),.arr 7 (d.flights.map Fl.pv)]
theorem mcapsS_eq (t : Tr) (d : Dv) (v : List Ch) (M : List Cp) (hM : M.length = d.buckets.length) (id : Int) (hb : d.buckets.length < 1000000) : V 159 [.ptr (.arg 0 0) 0 0,.p (.int .i64 id)] (mHS t d v M) = some (.p (.int .i64 (idxP (fun c=>decide (c.group = id)) M)),mHS t d v M):=by
 refine V_wp (vf:=vf159) rfl ?_
 have i0:=idxC_eq M id (by omega)
 have htk : List.take d.buckets.length (List.map Cp.pv M) = List.map Cp.pv M:=ltl (by rw [llm]; omega)
 simp -implicitDefEqProofs (disch:=omega) only [vf159,vb159,i0,htk,go_sem,↓reduceIte,rAz,rS,rE,rL,reduceCtorEq]
theorem btake_any (b : Bk) (n : Int) (h : bkOk b = true) (hn : 0 <= n /\ n <= 1073741824) : ∃ e,V 188 [b.vv,.p (.int .i64 b.now),.p (.int .i64 n)] [] = some (.tup [(takB b n).vv,.p (.int .i64 e)],[]):=by
 by_cases hle : n <= tokB b
 ·exact ⟨0,btake_eq b n h ⟨hn.1,hle⟩⟩
 ·refine ⟨11,V_wp (vf:=vf188) rfl ?_⟩
  have hw:=((bkOk_iff.1 h).2.1)
  have i0:=badv_eq b b.now h (Int.le_refl _) hw.2
  rw [adv_same h] at i0
  have i1:=btok_eq b h
  have op:=bopen_eq b
  have hlt : tokB b < n:=by omega
  have i2:=bin_eq n 0 1073741824
  rw [show inZ n 0 1073741824 = true from inZ_iff.2 hn] at i2
  have e : takB b n = b:=by
   unfold takB
   unfold tokB at hlt
   by_cases e : b.rate = maxR
   ·rw [if_pos e]
   ·rw [if_neg e] at hlt ⊢
    rw [if_pos hlt]
  rw [e]
  simp -implicitDefEqProofs (disch:=omega) only [vf188,vb188,i0,i1,i2,op,hlt,go_sem,↓reduceIte,rAz,rS,rE,rL,reduceCtorEq]
theorem setC_none {id : Int} {f : Cp -> Cp} : ∀ {l : List Cp},(∀ c ∈ l,decide (c.group = id) = false) -> setC l id f = l
 | [],_=>rfl
 | c :: l,h=>by
  have:=h c (lms ..)
  rw [setC,if_neg (by simpa using this),setC_none fun x hx=>h x (lmc _ hx)]
theorem setC_at {id : Int} {f : Cp -> Cp} : ∀ {l : List Cp} {k : Nat} {m : Cp},l[k]? = some m -> decide (m.group = id) = true -> (∀ (i : Nat) (n : Cp),i < k -> l[i]? = some n -> decide (n.group = id) = false) -> setC l id f = l.set k (f m)
 | [],k,m,hm,_,_=>by simp at hm
 | c :: l,0,m,hm,hg,_=>by
  simp only [List.getElem?_cons_zero,osi] at hm
  subst hm
  rw [setC,if_pos (by simpa using hg)]
  rfl
 | c :: l,k + 1,m,hm,hg,ho=>by
  have h0:=ho 0 c (by omega) rfl
  rw [setC,if_neg (by simpa using h0),setC_at (by simpa using hm) hg fun i n hi hn=>ho (i + 1) n (by omega) (by simpa using hn)]
  rfl
set_option maxHeartbeats 8000000 in
theorem spend_eq {t : Tr} {d : Dv} (h : DvOk t d) (hs : d.Small) (v : List Ch) (r : Rq) (hr : soundR r = true) : V 127 [.ptr (.arg 0 0) 0 0,r.vv] (mHS t d v d.buckets) = some (.tup [],mHS t d v (spendD t d.buckets r)):=by
 refine V_wp (vf:=vf127) rfl ?_
 have hlen:=h.tree.len
 have c1:=fanc_eq t r.group (by omega)
 have hal:=ancF_length t.nodes t.nodes.length r.group
 have hsr:=soundR_iff.1 hr
 have hbl:=hs.b
 have hSp : spendD t d.buckets r = (ancF t.nodes t.nodes.length r.group).foldl (fun l g=>setC l g fun c=>spendC c r) d.buckets:=rfl
 rw [hSp]
 have hok:=fun gs=>spendD_ok (t:=t) (r:=r) (by omega) gs d.buckets h.bk
 generalize ancF t.nodes t.nodes.length r.group = A at c1 hal
 simp -implicitDefEqProofs (disch:=omega) only [vf127,vb127,c1,go_sem,↓reduceIte,rAz,rS,rE,rL,reduceCtorEq]
 obtain ⟨I,hI⟩ : ∃ I : Nat -> St -> Prop,∀ k s,I k s ↔ ∃ (M : List Cp),M = (A.take k).foldl (fun l g=>setC l g fun c=>spendC c r) d.buckets /\ M.length = d.buckets.length /\ s.pe 0 = .ptr (Id.arg 0 0) 0 0 /\ s.pe 3 = .ptr (.slot 3 0) 0 0 /\ s.pe 15 = .own (.slot 15 1) 0 0 A.length /\ s.pe 16 = .p (.int .i64 ↑A.length) /\ s.pe 17 = .p (.int .i64 k) /\ s.h (.slot 3 0) = some (0,Ob.box [.p (.int .i64 r.task),.p (.int .i64 r.group),.p (.int .i64 r.at_),.p (.int .i64 r.pages),.p (.bool r.write),.p (.int .i64 r.time)]) /\ s.h (.slot 15 1) = some (0,Ob.arr 1 (List.map (.int .i64) A)) /\ s.h (.arg 0 0) = some (0,mBoxS t d v.length) /\ s.h (.arg 1 0) = some (0,.arr 2 (d.weights.map Ch.pv)) /\ s.h (.arg 2 0) = some (0,.arr 21 (M.map Cp.pv)) /\ s.h (.arg 3 0) = some (0,.arr 3 (d.depths.map Dp.pv)) /\ s.h (.arg 4 0) = some (0,.arr 2 (v.map Ch.pv)) /\ s.h (.arg 5 0) = some (0,.arr 6 (d.queue.map Rq.pv)) /\ s.h (.arg 6 0) = some (0,.arr 7 (d.flights.map Fl.pv)):=⟨_,fun _ _=>Iff.rfl⟩
 refine wp_count (A.length) I ?_ ?_
 ·refine (hI _ _).2 ⟨d.buckets,?_,?_,?_,?_,?_,?_,?_,?_,?_,?_,?_,?_,?_,?_,?_,?_⟩
  ·exact cl3
  ·exact cl3
  all_goals first | exact cl0 | (simp -implicitDefEqProofs (disch:=omega) only [lma,go_sem,↓reduceIte,rAz,rS,rE,rL,reduceCtorEq] <;> first | (simp [mBox,List.map_set,List.set_set,Cp.pv]; done) | (simp [mBox,List.map_set,List.set_set,Cp.pv]; omega))
 intro k s hk hIk
 obtain ⟨M,hM,hMl,h0,h3,h15,h16,h17,hh3_0,hh15_1,ha0,ha1,ha2,ha3,ha4,ha5,ha6⟩:=(hI _ _).1 hIk
 clear hIk
 have hbkM:=(ascB_iff.1 (hok (A.take k))).1
 rw [<- hM] at hbkM
 simp -implicitDefEqProofs (disch:=omega) only [h0,h3,h15,h16,h17,hh3_0,hh15_1,ha0,ha1,ha2,ha3,ha4,ha5,ha6,go_sem,↓reduceIte,rAz,rS,rE,rL,reduceCtorEq]
 refine wp_if_d (fun hlt=>?_) (fun hge=>?_)
 ·have hm : A[k]? = some A[k]:=lgg hlt
  have htk:=take_snoc hm
  generalize A[k] = g at hm htk
  have k0:=mcapsS_eq t d v M hMl g hbl
  rcases idxP_cases (fun c : Cp=>decide (c.group = g)) M with ⟨e,hno⟩ | ⟨i,m,e,hmi,hmg,hbe⟩
  ·have hst : setC M g (fun c=>spendC c r) = M:=setC_none hno
   rw [e] at k0
   have hd : decide ((0 : Int) <= -1) = false:=rfl
   simp -implicitDefEqProofs (disch:=omega) only [h0,h3,h15,h16,h17,hh3_0,hh15_1,ha0,ha1,ha2,ha3,ha4,ha5,ha6,hlt,hm,k0,hd,go_sem,↓reduceIte,rAz,rS,rE,rL,reduceCtorEq]
   try refine And.intro (by omega) ?_
   refine (hI _ _).2 ⟨M,?_,?_,?_,?_,?_,?_,?_,?_,?_,?_,?_,?_,?_,?_,?_,?_⟩
   ·exact by rw [htk,lfa,<- hM]; exact hst.symm
   ·exact hMl
   all_goals first | exact cl0 | (simp -implicitDefEqProofs (disch:=omega) only [h0,h3,h15,h16,h17,hh3_0,hh15_1,ha0,ha1,ha2,ha3,ha4,ha5,ha6,lma,go_sem,↓reduceIte,rAz,rS,rE,rL,reduceCtorEq] <;> first | (simp [mBox,List.map_set,List.set_set,Cp.pv]; done) | (simp [mBox,List.map_set,List.set_set,Cp.pv]; omega))
  ·have hst : setC M g (fun c=>spendC c r) = M.set i (spendC m r):=setC_at hmi hmg hbe
   rw [e] at k0
   have hil:=(lgs.1 hmi).1
   have hcb:=capsB_iff.1 (hbkM m (lmg hmi)).2
   have k1:=fun xs=>kinds_eq xs i r.write
   have hgs : ∀ x,((M.map Cp.pv).set i x)[i]? = some x:=fun x=>List.getElem?_set_self (by rw [llm]; exact hil)
   rw [hMl] at hil
   cases hw : r.write with
   | false =>
    rw [hw] at k1
    simp only [bft,if_false] at k1
    have hsp : spendC m r = ⟨m.group,takB m.rp r.pages,m.wp,takB m.ro 1,m.wo⟩:=by unfold spendC; rw [hw]; rfl
    rw [hsp] at hst
    obtain ⟨e1,k2⟩:=btake_any m.rp r.pages (soundB_iff.1 hcb.1).1 (by omega)
    obtain ⟨e2,k3⟩:=btake_any m.ro 1 (soundB_iff.1 hcb.2.2.1).1 (by omega)
    rw [(soundB_iff.1 hcb.1).2.2] at k2
    rw [(soundB_iff.1 hcb.2.2.1).2.2] at k3
    simp -implicitDefEqProofs (disch:=omega) only [h0,h3,h15,h16,h17,hh3_0,hh15_1,ha0,ha1,ha2,ha3,ha4,ha5,ha6,hlt,hm,k0,hil,hmi,hw,k1,Cp.pv,PV.cells,k2,k3,hgs,go_sem,↓reduceIte,rAz,rS,rE,rL,reduceCtorEq]
    try refine And.intro (by omega) ?_
    refine (hI _ _).2 ⟨M.set i ⟨m.group,takB m.rp r.pages,m.wp,takB m.ro 1,m.wo⟩,?_,?_,?_,?_,?_,?_,?_,?_,?_,?_,?_,?_,?_,?_,?_,?_⟩
    .exact by rw [htk,lfa,<- hM]; exact hst.symm
    .exact by rw [List.length_set]; exact hMl
    all_goals first | exact cl0 | (simp -implicitDefEqProofs (disch:=omega) only [h0,h3,h15,h16,h17,hh3_0,hh15_1,ha0,ha1,ha2,ha3,ha4,ha5,ha6,lma,go_sem,↓reduceIte,rAz,rS,rE,rL,reduceCtorEq] <;> first | (simp [mBox,List.map_set,List.set_set,Cp.pv]; done) | (simp [mBox,List.map_set,List.set_set,Cp.pv]; omega))
   | true =>
    rw [hw] at k1
    simp only [if_true] at k1
    have hsp : spendC m r = ⟨m.group,m.rp,takB m.wp r.pages,m.ro,takB m.wo 1⟩:=by unfold spendC; rw [hw]; rfl
    rw [hsp] at hst
    obtain ⟨e1,k2⟩:=btake_any m.wp r.pages (soundB_iff.1 hcb.2.1).1 (by omega)
    obtain ⟨e2,k3⟩:=btake_any m.wo 1 (soundB_iff.1 hcb.2.2.2).1 (by omega)
    rw [(soundB_iff.1 hcb.2.1).2.2] at k2
    rw [(soundB_iff.1 hcb.2.2.2).2.2] at k3
    simp -implicitDefEqProofs (disch:=omega) only [h0,h3,h15,h16,h17,hh3_0,hh15_1,ha0,ha1,ha2,ha3,ha4,ha5,ha6,hlt,hm,k0,hil,hmi,hw,k1,Cp.pv,PV.cells,k2,k3,hgs,go_sem,↓reduceIte,rAz,rS,rE,rL,reduceCtorEq]
    try refine And.intro (by omega) ?_
    refine (hI _ _).2 ⟨M.set i ⟨m.group,m.rp,takB m.wp r.pages,m.ro,takB m.wo 1⟩,?_,?_,?_,?_,?_,?_,?_,?_,?_,?_,?_,?_,?_,?_,?_,?_⟩
    .exact by rw [htk,lfa,<- hM]; exact hst.symm
    .exact by rw [List.length_set]; exact hMl
    all_goals first | exact cl0 | (simp -implicitDefEqProofs (disch:=omega) only [h0,h3,h15,h16,h17,hh3_0,hh15_1,ha0,ha1,ha2,ha3,ha4,ha5,ha6,lma,go_sem,↓reduceIte,rAz,rS,rE,rL,reduceCtorEq] <;> first | (simp [mBox,List.map_set,List.set_set,Cp.pv]; done) | (simp [mBox,List.map_set,List.set_set,Cp.pv]; omega))
 ·rw [ltl (by omega)] at hM
  rw [<- hM]
  simp -implicitDefEqProofs (disch:=omega) only [h0,h3,h15,h16,h17,hh3_0,hh15_1,ha0,ha1,ha2,ha3,ha4,ha5,ha6,hge,go_sem,↓reduceIte,rAz,rS,rE,rL,reduceCtorEq]
theorem cost_pos {t : Tr} {d : Dv} (h : DvOk t d) {r : Rq} (hr : soundR r = true) : 1 <= costD d r /\ costD d r <= 4098000000:=by
 have:=cost_range (configOk_iff.1 h.cfg).1 hr d.head
 unfold costD
 omega
theorem busy_range {t : Tr} {d : Dv} (h : DvOk t d) : 0 <= d.now * d.speed /\ d.now * d.speed <= 1048576 * 1000000:=by
 obtain ⟨_,h1,_⟩:=configOk_iff.1 h.cfg
 exact mul_range h.now.1 h.now.2 (by omega) h1.2
theorem free_range {t : Tr} {d : Dv} (h : DvOk t d) (hb : ¬ d.now * d.speed <= d.free) {r : Rq} (hr : soundR r = true) : 1 <= freeD d r /\ freeD d r <= 1052674000000 /\ d.free < freeD d r:=by
 have h1:=cost_pos h hr
 have h2:=busy_range h
 obtain ⟨_,h3,_⟩:=configOk_iff.1 h.cfg
 have h4:=h.free
 have h5 : (d.now - 1) * d.speed = d.now * d.speed - d.speed:=by rw [Int.sub_mul,Int.one_mul]
 unfold freeD
 rw [h5]
 omega
theorem done_range {t : Tr} {d : Dv} (h : DvOk t d) (hb : ¬ d.now * d.speed <= d.free) {r : Rq} (hr : soundR r = true) : d.now + 1 <= doneD d r /\ doneD d r <= 1125899906842624:=by
 obtain ⟨h1,h2,_⟩:=free_range h hb hr
 obtain ⟨_,h3,_⟩:=configOk_iff.1 h.cfg
 have h4:=h.now
 have h5 : (freeD d r + d.speed - 1) / d.speed <= freeD d r + d.speed - 1:=Int.ediv_le_self _ (by omega)
 unfold doneD
 omega
theorem beginD_ok {t : Tr} {d : Dv} (h : DvOk t d) (hb : ¬ d.now * d.speed <= d.free) {g : Int} {r : Rq} (hq : firstQ d.queue g = some r) {v : List Ch} (hv : AscOk (knownN t.nodes) 0 1152921504606846976 v) : DvOk t (beginD t d g r v):=by
 obtain ⟨hm,hg⟩:=firstQ_mem hq
 obtain ⟨hs,hk⟩:=h.q r hm
 have hs':=soundR_iff.1 hs
 have hf:=free_range h hb hs
 have hd:=done_range h hb hs
 have hfl:=flOk_iff.1 h.fl
 have hn:=h.now
 refine ⟨h.tree,h.cfg,h.now,?_,?_,h.w,h.dp,hv,?_,spendD_ok (t:=t) (by omega) _ _ h.bk,fun x hx=>h.q x ((remQ_sub g d.queue).subset hx),flOk_iff.2 ⟨fun x hx=>?_,insF_sorted _ hfl.2.1,fun q hq=>by cases hq⟩⟩
 ·show 0 <= freeD d r /\ freeD d r <= _; omega
 ·show 0 <= r.at_ + r.pages /\ r.at_ + r.pages <= _; omega
 ·have h1:=remQ_len hq
  have h2:=h.len
  show (remQ d.queue g).length + (insF d.flights _).length <= 256
  rw [insF_len]
  omega
 ·rcases insF_mem.1 hx with rfl | hx
  .exact ⟨⟨hs,hk⟩,by simp only; omega,hd.2⟩
  .exact hfl.1 x hx
structure StepD (t : Tr) (d : Dv) (g : Int) (r : Rq) (v : List Ch) : Prop where
 busy : ¬ d.now * d.speed <= d.free
 next : g = nxtA t d.v (d.now * d.speed) 0 (msort (readyL t d [] d.queue))
 pos : g ≠ 0
 first : firstQ d.queue g = some r
 issue : IssueA t d.v g (shareD t d g) (costD d r) (d.now * d.speed) d.margin = (v,0)
def EndD (t : Tr) (d : Dv) : Prop:=d.now * d.speed <= d.free \/ nxtA t d.v (d.now * d.speed) 0 (msort (readyL t d [] d.queue)) = 0 \/
 firstQ d.queue (nxtA t d.v (d.now * d.speed) 0 (msort (readyL t d [] d.queue))) = none \/
 ∃ r,firstQ d.queue (nxtA t d.v (d.now * d.speed) 0 (msort (readyL t d [] d.queue))) = some r /\ (IssueA t d.v (nxtA t d.v (d.now * d.speed) 0 (msort (readyL t d [] d.queue))) (shareD t d (nxtA t d.v (d.now * d.speed) 0 (msort (readyL t d [] d.queue)))) (costD d r) (d.now * d.speed) d.margin).2 ≠ 0
theorem loopD_succ (t : Tr) (k : Nat) (d : Dv) : (EndD t d /\ loopD t (k + 1) d = d) \/ ∃ g r v,StepD t d g r v /\ loopD t (k + 1) d = loopD t k (beginD t d g r v):=by
 unfold EndD
 rw [loopD]
 by_cases h1 : d.now * d.speed <= d.free
 ·rw [if_pos h1]; exact .inl ⟨.inl h1,rfl⟩
 rw [if_neg h1]
 simp only
 generalize hg : nxtA t d.v (d.now * d.speed) 0 (msort (readyL t d [] d.queue)) = g
 by_cases h2 : g = 0
 ·rw [if_pos h2]; exact .inl ⟨.inr (.inl h2),rfl⟩
 rw [if_neg h2]
 cases h3 : firstQ d.queue g with
 | none=>exact .inl ⟨.inr (.inr (.inl rfl)),rfl⟩
 | some r =>
  simp only
  generalize hi : IssueA t d.v g (shareD t d g) (costD d r) (d.now * d.speed) d.margin = i
  obtain ⟨v,e⟩:=i
  by_cases h4 : e = 0
  ·subst h4
   rw [if_neg (fun h=>h rfl)]
   exact .inr ⟨g,r,v,⟨h1,hg.symm,h2,h3,hi⟩,rfl⟩
  ·rw [if_pos h4]
   exact .inl ⟨.inr (.inr (.inr ⟨r,rfl,by rw [hi]; exact h4⟩)),rfl⟩
theorem loopD_ind {t : Tr} {P : Dv -> Prop} (hs : ∀ d g r v,P d -> StepD t d g r v -> P (beginD t d g r v)) : ∀ (k : Nat) (d : Dv),P d -> P (loopD t k d)
 | 0,d,h=>h
 | k + 1,d,h=>by
  rcases loopD_succ t k d with ⟨_,e⟩ | ⟨g,r,v,st,e⟩
  .rw [e]; exact h
  .rw [e]; exact loopD_ind hs k _ (hs d g r v h st)
theorem loopD_end (t : Tr) : ∀ (k : Nat) (d : Dv),d.queue.length < k -> EndD t (loopD t k d)
 | 0,d,h=>by omega
 | k + 1,d,h=>by
  rcases loopD_succ t k d with ⟨he,e⟩ | ⟨g,r,v,st,e⟩
  ·rw [e]; exact he
  ·rw [e]
   refine loopD_end t k _ ?_
   have:=remQ_len st.first
   show (remQ d.queue g).length < k
   omega
theorem step_ok {t : Tr} {d : Dv} {g : Int} {r : Rq} {v : List Ch} (h : DvOk t d) (st : StepD t d g r v) : DvOk t (beginD t d g r v):=by
 refine beginD_ok h st.busy st.first ?_
 have:=IssueA_asc (t:=t) (a:=d.v) (id:=g) (share:=shareD t d g) (cost:=costD d r) (now:=d.now * d.speed) (margin:=d.margin) (by rw [st.issue])
 rw [st.issue] at this
 exact this
theorem tickD_end (t : Tr) (d : Dv) : EndD t (tickD t d):=loopD_end t _ _ (Nat.lt_succ_self _)
theorem mem_readyL {t : Tr} {d : Dv} {x : Int} : ∀ {q : List Rq} {seen : List Int},x ∈ readyL t d seen q ↔ x ∉ seen /\ ∃ r,firstQ q x = some r /\ passD t d r = true
 | [], seen=>by simp [readyL, firstQ]
 | r :: q,seen=>by
  rw [readyL,lmp,mem_readyL (q:=q)]
  rw [show firstQ (r :: q) x = if r.group = x then some r else firstQ q x from rfl]
  by_cases hx : r.group = x
  ·subst hx
   simp only [if_true,lmk,true_or,not_true_eq_false,false_and,or_false,osi,exists_eq_left']
   by_cases hs : r.group ∈ seen
   ·simp [hs]
   ·by_cases hp : passD t d r = true <;> simp [hs,hp]
  ·have hx' : ¬ x = r.group:=fun e=>hx e.symm
   simp only [if_neg hx,lmk,hx',false_or]
   constructor
   ·rintro (h | h)
    ·exfalso
     split at h
     ·cases h
     ·split at h
      .rw [List.mem_singleton] at h; exact hx' h
      .cases h
    .exact h
   .exact fun h=>.inr h
theorem readyL_len (t : Tr) (d : Dv) : ∀ (q : List Rq) (seen : List Int),(readyL t d seen q).length <= q.length
 | [],seen=>lrf _
 | r :: q,seen=>by
  have:=readyL_len t d q (r.group :: seen)
  rw [readyL,lla,llc]
  split
  .simp; omega
  .split <;> simp <;> omega
theorem nxt_inv {t : Tr} {a : List Ch} {now : Int} : ∀ (l pre : List Int) (best : Int),NInv t a now pre best -> NInv t a now (pre ++ l) (nxtA t a now best l)
 | [],pre,best,h=>by rw [lan]; exact h
 | x :: l,pre,best,h=>by
  rw [nxtA,show pre ++ x :: l = (pre ++ [x]) ++ l by simp]
  refine nxt_inv l _ _ ?_
  by_cases hm : mayA t a x now = true
  ·by_cases hb : best = 0 \/ ownC a x < ownC a best \/ (ownC a x = ownC a best /\ x < best)
   ·rw [if_pos ⟨hm,hb⟩]
    exact h.take hm (may_pos hm) hb
   ·rw [if_neg (fun h=>hb h.2)]
    exact h.keep hb
  ·rw [if_neg (fun h=>hm h.1)]
   exact h.skip (by simpa using hm)
theorem nxt_inv0 (t : Tr) (a : List Ch) (now : Int) (l : List Int) : NInv t a now l (nxtA t a now 0 l):=by
 have:=nxt_inv l [] 0 (t:=t) (a:=a) (now:=now) (Or.inl ⟨rfl,fun x hx=>by cases hx⟩)
 rwa [lna] at this
theorem nxt_zero {t : Tr} {a : List Ch} {now : Int} {l : List Int} (h : nxtA t a now 0 l = 0) : ∀ x ∈ l,mayA t a x now = false:=by
 rcases nxt_inv0 t a now l with ⟨_,h2⟩ | ⟨h1,_⟩
 .exact h2
 .exact absurd h h1
theorem nxt_mem {t : Tr} {a : List Ch} {now : Int} {l : List Int} (h : nxtA t a now 0 l ≠ 0) : nxtA t a now 0 l ∈ l /\ mayA t a (nxtA t a now 0 l) now = true:=by
 rcases nxt_inv0 t a now l with ⟨h1,_⟩ | ⟨_,h2,h3,_⟩
 .exact absurd h1 h
 .exact ⟨h2,h3⟩
theorem mem_msort {l : List Int} {x : Int} : x ∈ msort l ↔ x ∈ l:=(List.mergeSort_perm _ _).mem_iff
theorem next_first {t : Tr} {d : Dv} (h : nxtA t d.v (d.now * d.speed) 0 (msort (readyL t d [] d.queue)) ≠ 0) : ∃ r,firstQ d.queue (nxtA t d.v (d.now * d.speed) 0 (msort (readyL t d [] d.queue))) = some r /\ passD t d r = true:=by
 have:=(mem_readyL.1 (mem_msort.1 (nxt_mem h).1)).2
 exact this
theorem firstQ_idx {g : Int} {l : List Rq} {r : Rq} (h : firstQ l g = some r) : ∃ i : Nat,idxP (fun c : Rq=>decide (c.group = g)) l = i /\ l[i]? = some r /\ remQ l g = l.take i ++ l.drop (i + 1):=by
 have key : ∀ (l : List Rq),firstQ l g = some r -> ∃ i : Nat,l[i]? = some r /\ r.group = g /\ (∀ (j : Nat) (n : Rq),j < i -> l[j]? = some n -> decide (n.group = g) = false) /\ remQ l g = l.take i ++ l.drop (i + 1):=by
  intro l
  induction l with
  | nil=>intro h; cases h
  | cons x l ih =>
   intro h
   unfold firstQ at h
   by_cases hx : x.group = g
   ·rw [if_pos hx] at h
    cases h
    exact ⟨0,rfl,hx,by omega,by simp [remQ,hx]⟩
   ·rw [if_neg hx] at h
    obtain ⟨i,h1,h2,h3,h4⟩:=ih h
    refine ⟨i + 1,by simpa using h1,h2,fun j n hj hn=>?_,by simp [remQ,hx,h4]⟩
    cases j with
    | zero=>simp at hn; subst hn; simpa using hx
    | succ j=>exact h3 j n (by omega) (by simpa using hn)
 obtain ⟨i,h1,h2,h3,h4⟩:=key l h
 exact ⟨i,idxP_at h1 h3 (by simpa using h2),h1,h4⟩
theorem sorted_end {l : List Fl} (hs : l.Pairwise fun a b=>a.done <= b.done) (x : Int) : ∀ (j : Nat) (f : Fl),(l.takeWhile fun f=>decide (f.done <= x)).length <= j -> l[j]? = some f -> x < f.done:=by
 induction l with
 | nil=>intro j f _ hf; simp at hf
 | cons a l ih =>
  rw [lpw] at hs
  intro j f hj hf
  by_cases ha : a.done <= x
  ·rw [List.takeWhile_cons_of_pos (by simpa using ha),llc] at hj
   cases j with
   | zero=>omega
   | succ j=>exact ih hs.2 j f (by omega) (by simpa using hf)
  ·cases j with
   | zero=>simp at hf; subst hf; omega
   | succ j =>
    have:=hs.1 f (lmg (by simpa using hf))
    omega
theorem setC_len (f : Cp -> Cp) (id : Int) : ∀ l : List Cp,(setC l id f).length = l.length
 | []=>rfl
 | c :: l=>by
  unfold setC
  split
  .rfl
  .simp [setC_len f id l]
theorem spendD_len (t : Tr) (l : List Cp) (r : Rq) : (spendD t l r).length = l.length:=by
 unfold spendD
 generalize ancF t.nodes t.nodes.length r.group = A
 induction A generalizing l with
 | nil=>rfl
 | cons g A ih=>rw [List.foldl_cons,ih,setC_len]
set_option maxHeartbeats 8000000 in
theorem begin_eq {t : Tr} {d : Dv} (h : DvOk t d) (hs : d.Small) (hb : ¬ d.now * d.speed <= d.free) {g : Int} {r : Rq} (hq : firstQ d.queue g = some r) {v : List Ch} {e : Int} (hi : IssueA t d.v g (shareD t d g) (costD d r) (d.now * d.speed) d.margin = (v,e)) :
  V 55 [.ptr (.arg 0 0) 0 0,.p (.int .i64 g)] (mH t d) = some (if e = 0 then (.p (.bool true),[mBoxG t (beginD t d g r v) (.fresh 2 (v.map Ch.pv)) 1 1,.arr 2 (d.weights.map Ch.pv),.arr 21 ((spendD t d.buckets r).map Cp.pv),.arr 3 (d.depths.map Dp.pv),.box [.undef,.fresh 6 ((remQ d.queue g).map Rq.pv)],.box [.undef,.fresh 7 ((insF d.flights ⟨r,doneD d r⟩).map Fl.pv)]]) else (.p (.bool false),mH t d)):=by
 refine V_wp (vf:=vf55) rfl ?_
 have hlen:=h.tree.len
 have hql:=h.len
 obtain ⟨hs1,hs2,hs3,hs4,hs5,hs6⟩:=id hs
 obtain ⟨hmem,hgr⟩:=firstQ_mem hq
 obtain ⟨hsr,hkn⟩:=h.q r hmem
 rw [hgr] at hkn
 obtain ⟨n,hn,hid⟩:=findN_some hkn
 obtain ⟨ni,hni⟩:=lgm hn
 obtain ⟨hmd,hsp,hmg⟩:=configOk_iff.1 h.cfg
 have i0:=idxQ_eq d.queue g hs5
 obtain ⟨i,hix,hir,hrem⟩:=firstQ_idx hq
 rw [hix] at i0
 have hil:=(lgs.1 hir).1
 have i1:=cost_eq d.m r d.head hmd hsr h.head
 have i2:=active_eq t d hs5 hs6
 have hact : (actL d).length < 1000000:=by
  unfold actL
  rw [lla,llm,llm]
  omega
 have i3:=share_at h.tree h.w (actL d) hact hni
 rw [hid] at i3
 have hsh : shr t (wtOf d.weights) (onB t (actL d)) g = shareD t d g:=rfl
 rw [hsh] at i3
 have i4:=issue_eq t d.v g (shareD t d g) (costD d r) (d.now * d.speed) d.margin h.tree.fits (by omega) hs4
 rw [hi] at i4
 simp only at i4
 have hco:=cost_pos h hsr
 have hcd : max (costR d.m r d.head) 1 = costD d r:=rfl
 have hbr:=busy_range h
 generalize shareD t d g = share at i3 i4 hi
 by_cases he : e = 0
 ·rw [if_pos he]
  subst he
  have i5:=spend_eq h hs v r hsr
  have hM:=spendD_len t d.buckets r
  have i6 : V 128 [.own (.arg 0 0) 0 0 d.queue.length,.p (.int .i64 i),.p (.int .i64 ((i : Int) + 1))] [.arr 6 (d.queue.map Rq.pv)] = some (.own (.arg 0 0) 1 0 (remQ d.queue g).length,[.box [.undef,.fresh 6 ((remQ d.queue g).map Rq.pv)]]):=by
   have:=delQ_x (xs:=d.queue.map Rq.pv) (i:=i) (j:=(i : Int) + 1) (by rw [llm]; omega) (by omega) (by omega) (by rw [llm]; omega)
   rw [llm,Int.toNat_natCast,show ((i : Int) + 1).toNat = i + 1 by omega,show d.queue.length - (i + 1 - i) = (remQ d.queue g).length by have:=remQ_len hq; omega] at this
   rw [this,hrem,lma,List.map_take,List.map_drop]
  have hrl:=remQ_len hq
  have hfr:=free_range h hb hsr
  have hdn:=done_range h hb hsr
  have hsr':=soundR_iff.1 hsr
  have hnw:=h.now
  have hn1 : (d.now - 1) * d.speed = d.now * d.speed - d.speed:=by rw [Int.sub_mul,Int.one_mul]
  have hf0:=h.free
  have hfd : max d.free ((d.now - 1) * d.speed) + costD d r = freeD d r:=rfl
  have hdd : max (d.now + 1) ((freeD d r + d.speed - 1) / d.speed) = doneD d r:=rfl
  have hqu : (freeD d r + d.speed - 1).tdiv d.speed = (freeD d r + d.speed - 1) / d.speed:=Int.tdiv_eq_ediv_of_nonneg (by omega)
  have hq0 : 0 <= (freeD d r + d.speed - 1) / d.speed:=Int.ediv_nonneg (by omega) (by omega)
  have hq1 : (freeD d r + d.speed - 1) / d.speed <= freeD d r + d.speed - 1:=Int.ediv_le_self _ (by omega)
  have hsp0 : ¬ d.speed = 0:=by omega
  simp -implicitDefEqProofs (disch:=omega) only [vf55,vb55,i0,hil,hir,i1,i2,i3,hcd,i4,i5,i6,hfd,hqu,hsp0,hdd,go_sem,↓reduceIte,rAz,rS,rE,rL,reduceCtorEq]
  have hso:=(flOk_iff.1 h.fl).2.1
  have hse:=sorted_end hso (doneD d r)
  have htl:=fun k=>tw_lt (p:=fun f : Fl=>decide (f.done <= doneD d r)) (l:=d.flights) (k:=k)
  have hNl : (d.flights.takeWhile fun f=>decide (f.done <= doneD d r)).length <= d.flights.length:=(List.takeWhile_sublist _).length_le
  have htd:=tw_take (p:=fun f : Fl=>decide (f.done <= doneD d r)) (l:=d.flights)
  have hin : insF d.flights ⟨r,doneD d r⟩ = d.flights.take (d.flights.takeWhile fun f=>decide (f.done <= doneD d r)).length ++ ⟨r,doneD d r⟩ :: d.flights.drop (d.flights.takeWhile fun f=>decide (f.done <= doneD d r)).length:=by rw [htd.1,htd.2]; rfl
  generalize hN : (d.flights.takeWhile fun f=>decide (f.done <= doneD d r)).length = N at hse htl hNl hin
  have r5 : mBoxG t (beginD t d g r v) (.fresh 2 (v.map Ch.pv)) 1 1 = Ob.box [.p (.int .i64 d.m.rb),.p (.int .i64 d.m.rp),.p (.int .i64 d.m.wb),.p (.int .i64 d.m.wp),.p (.int .i64 d.m.seek),.p (.int .i64 d.speed),.p (.int .i64 d.margin),.p (.int .i64 d.now),.p (.int .i64 (freeD d r)),.p (.int .i64 (r.at_ + r.pages)),VVal.own (Id.arg 1 0) 0 0 d.weights.length,VVal.own (Id.arg 2 0) 0 0 d.buckets.length,VVal.own (Id.arg 3 0) 0 0 d.depths.length,.fresh 2 (v.map Ch.pv),VVal.own (Id.arg 4 0) 1 0 (remQ d.queue g).length,VVal.own (Id.arg 5 0) 1 0 (d.flights.length + 1),.p (nodesP t.nodes),.p (.int .i64 t.next)]:=by
   unfold mBoxG
   simp only [beginD,insF_len,hM]
  rw [r5,hin]
  have i7:=fun (m : Nat) (hm : m <= d.flights.length)=>insF_x (xs:=d.flights.map Fl.pv) (x:=Fl.pv ⟨r,doneD d r⟩) (i:=m) (by rw [llm]; omega) (by omega) (by rw [llm]; omega)
  simp only [llm,Int.toNat_natCast] at i7
  simp only [Fl.pv] at i7
  obtain ⟨A,hA⟩ : ∃ I : Nat -> St -> Prop,∀ k s,I k s ↔ ∃ (m : Nat),m + k = d.flights.length /\ s.pe 0 = .ptr (Id.arg 0 0) 0 0 /\ s.pe 6 = .ptr (.slot 6 0) 0 0 /\ s.pe 13 = .p (.int .i64 (doneD d r)) /\ s.pe 14 = .p (.int .i64 (m : Int)) /\ s.h (.arg 0 0) = some (0,Ob.box [.p (.int .i64 d.m.rb),.p (.int .i64 d.m.rp),.p (.int .i64 d.m.wb),.p (.int .i64 d.m.wp),.p (.int .i64 d.m.seek),.p (.int .i64 d.speed),.p (.int .i64 d.margin),.p (.int .i64 d.now),.p (.int .i64 (freeD d r)),.p (.int .i64 (r.at_ + r.pages)),VVal.own (Id.arg 1 0) 0 0 d.weights.length,VVal.own (Id.arg 2 0) 0 0 d.buckets.length,VVal.own (Id.arg 3 0) 0 0 d.depths.length,.own (.slot 95 1) 0 0 v.length,VVal.own (Id.arg 4 0) 1 0 (remQ d.queue g).length,VVal.own (Id.arg 5 0) 0 0 d.flights.length,.p (nodesP t.nodes),.p (.int .i64 t.next)]) /\ s.h (.arg 1 0) = some (0,Ob.arr 2 (List.map Ch.pv d.weights)) /\ s.h (.arg 2 0) = some (0,Ob.arr 21 (List.map Cp.pv (spendD t d.buckets r))) /\ s.h (.arg 3 0) = some (0,Ob.arr 3 (List.map Dp.pv d.depths)) /\ s.h (.arg 4 0) = some (1,Ob.arr 6 (List.map Rq.pv (remQ d.queue g))) /\ s.h (.arg 5 0) = some (0,Ob.arr 7 (List.map Fl.pv d.flights)) /\ s.h (.slot 6 0) = some (0,Ob.box [.p (.int .i64 r.task),.p (.int .i64 r.group),.p (.int .i64 r.at_),.p (.int .i64 r.pages),.p (.bool r.write),.p (.int .i64 r.time)]) /\ s.h (.slot 95 1) = some (0,Ob.arr 2 (List.map Ch.pv v)):=⟨_,fun _ _=>Iff.rfl⟩
  refine wp_count ((d.flights.length - N)) A ?_ ?_
  ·refine (hA _ _).2 ⟨d.flights.length,?_,?_,?_,?_,?_,?_,?_,?_,?_,?_,?_,?_,?_⟩
   ·exact cl3
   all_goals first | exact cl0 | (simp -implicitDefEqProofs (disch:=omega) only [lma,go_sem,↓reduceIte,rAz,rS,rE,rL,reduceCtorEq] <;> first | (simp [mBox]; done) | (simp [mBox]; omega))
  intro k s hk hAk
  obtain ⟨m,hmk,h0,h6,h13,h14,ha0,ha1,ha2,ha3,ha4,ha5,hh6_0,hh95_1⟩:=(hA _ _).1 hAk
  clear hAk
  by_cases hkN : k < d.flights.length - N
  ·have hfm : d.flights[m - 1]? = some d.flights[m - 1]:=lgg (by omega)
   have hd:=hse (m - 1) _ (by omega) hfm
   generalize d.flights[m - 1] = f at hfm hd
   have hm0 : (0 : Int) < m:=by omega
   have hm1 : (0 : Int) <= (m : Int) - 1:=by omega
   have hm2 : ((m : Int) - 1).toNat = m - 1:=by omega
   have hm3 : m - 1 < d.flights.length:=by omega
   simp -implicitDefEqProofs (disch:=omega) only [h0,h6,h13,h14,ha0,ha1,ha2,ha3,ha4,ha5,hh6_0,hh95_1,hm0,hm1,hm2,hm3,hfm,hd,go_sem,↓reduceIte,rAz,rS,rE,rL,reduceCtorEq]
   try refine And.intro (by omega) ?_
   refine (hA _ _).2 ⟨m - 1,?_,?_,?_,?_,?_,?_,?_,?_,?_,?_,?_,?_,?_⟩
   ·omega
   all_goals first | exact cl0 | (simp -implicitDefEqProofs (disch:=omega) only [h0,h6,h13,h14,ha0,ha1,ha2,ha3,ha4,ha5,hh6_0,hh95_1,lma,go_sem,↓reduceIte,rAz,rS,rE,rL,reduceCtorEq] <;> first | (simp [mBox]; done) | (simp [mBox]; omega))
  ·have hmN : m = N:=by omega
   subst hmN
   by_cases hm00 : m = 0
   ·have hm0 : ¬ (0 : Int) < m:=by omega
    simp -implicitDefEqProofs (disch:=omega) only [h0,h6,h13,h14,ha0,ha1,ha2,ha3,ha4,ha5,hh6_0,hh95_1,hm0,i7,lma,lpc,List.map_take,List.map_drop,go_sem,↓reduceIte,rAz,rS,rE,rL,reduceCtorEq]
   ·obtain ⟨f,hfm,hpf⟩:=htl (m - 1) (by omega)
    have hd : ¬ doneD d r < f.done:=by have:=of_decide_eq_true hpf; omega
    have hm0 : (0 : Int) < m:=by omega
    have hm1 : (0 : Int) <= (m : Int) - 1:=by omega
    have hm2 : ((m : Int) - 1).toNat = m - 1:=by omega
    have hm3 : m - 1 < d.flights.length:=by omega
    simp -implicitDefEqProofs (disch:=omega) only [h0,h6,h13,h14,ha0,ha1,ha2,ha3,ha4,ha5,hh6_0,hh95_1,hm0,hm1,hm2,hm3,hfm,hd,i7,lma,lpc,List.map_take,List.map_drop,go_sem,↓reduceIte,rAz,rS,rE,rL,reduceCtorEq]
 ·rw [if_neg he]
  simp -implicitDefEqProofs (disch:=omega) only [vf55,vb55,i0,hil,hir,i1,i2,i3,hcd,i4,he,go_sem,↓reduceIte,rAz,rS,rE,rL,reduceCtorEq]
abbrev dvF (d : Dv) (v : VVal) : VVal:=.agg [.p (.int .i64 d.m.rb),.p (.int .i64 d.m.rp),.p (.int .i64 d.m.wb),.p (.int .i64 d.m.wp),.p (.int .i64 d.m.seek),.p (.int .i64 d.speed),.p (.int .i64 d.margin),.p (.int .i64 d.now),.p (.int .i64 d.free),.p (.int .i64 d.head),.fresh 2 (d.weights.map Ch.pv),.fresh 21 (d.buckets.map Cp.pv),.fresh 3 (d.depths.map Dp.pv),v,.fresh 6 (d.queue.map Rq.pv),.fresh 7 (d.flights.map Fl.pv)]
abbrev newD (m : Mdl) (speed margin : Int) : Dv:=⟨m,speed,margin,0,0,0,[],[],[],[],[],[]⟩
theorem dnew_eq (m : Mdl) (speed margin : Int) (h : configOk m speed margin = true) : V 28 [cfgV m speed margin] [] = some (.tup [dvF (newD m speed margin) (.fresh 2 []),.p (.int .i64 0)],[]):=by
 refine V_wp (vf:=vf28) rfl ?_
 have i0:=dconfig_eq m speed margin
 rw [h] at i0
 simp -implicitDefEqProofs (disch:=omega) only [vf28,vb28,i0,go_sem,↓reduceIte,rAz,rS,rE,rL,reduceCtorEq]
 rfl
set_option maxHeartbeats 1000000 in
theorem open_eq (t : Tr) (d : Dv) (hs : d.Small) : V 50 [t.vv,d.vv] [] = some (.boxed [.p (.int .i64 d.m.rb),.p (.int .i64 d.m.rp),.p (.int .i64 d.m.wb),.p (.int .i64 d.m.wp),.p (.int .i64 d.m.seek),.p (.int .i64 d.speed),.p (.int .i64 d.margin),.p (.int .i64 d.now),.p (.int .i64 d.free),.p (.int .i64 d.head),.fresh 2 (d.weights.map Ch.pv),.fresh 21 (d.buckets.map Cp.pv),.fresh 3 (d.depths.map Dp.pv),.p (chsP d.v),.fresh 6 (d.queue.map Rq.pv),.fresh 7 (d.flights.map Fl.pv),.p (nodesP t.nodes),.p (.int .i64 t.next)],[]):=by
 refine V_wp (vf:=vf50) rfl ?_
 obtain ⟨hs1,hs2,hs3,hs4,hs5,hs6⟩:=hs
 have c1:=cloneW_x (xs:=d.weights.map Ch.pv) (by simpa using hs1)
 have c2:=cloneC_x (xs:=d.buckets.map Cp.pv) (by simpa using hs2)
 have c3:=cloneD_x (xs:=d.depths.map Dp.pv) (by simpa using hs3)
 have c4:=cloneA_x (xs:=d.v.map Ch.pv) (by simpa using hs4)
 have c5:=cloneQ_x (xs:=d.queue.map Rq.pv) (by simpa using hs5)
 have c6:=cloneF_x (xs:=d.flights.map Fl.pv) (by simpa using hs6)
 simp -implicitDefEqProofs (disch:=omega) only [vf50,vb50,c1,c2,c3,c4,c5,c6,go_sem,↓reduceIte,rAz,rS,rE,rL,reduceCtorEq]
theorem check_eq (t : Tr) (d : Dv) (r : Rq) (h : DvOk t d) (hs : d.Small) (hr : soundR { r with time:=0 } = true) (hk : knownN t.nodes r.group = true) : V 49 [t.vv,d.vv,r.vv] [] = some (.p (.int .i64 0),[]):=by
 refine V_wp (vf:=vf49) rfl ?_
 have hlen:=h.tree.len
 have i0:=dvalid_eq t d h.tree.fits (by omega) hs
 rw [dvOk_iff.2 h] at i0
 have i1:=csound_eq { r with time:=0 }
 rw [hr] at i1
 have i2:=dknown_eq t r.group (by omega)
 rw [hk] at i2
 simp -implicitDefEqProofs (disch:=omega) only [vf49,vb49,i0,i1,i2,go_sem,↓reduceIte,rAz,rS,rE,rL,reduceCtorEq]
abbrev subD (d : Dv) (r : Rq) : Dv:={ d with queue:=d.queue ++ [{ r with time:=d.now }] }
set_option maxHeartbeats 1000000 in
theorem submit_eq (t : Tr) (d : Dv) (r : Rq) (h : DvOk t d) (hs : d.Small) (hr : soundR { r with time:=0 } = true) (hk : knownN t.nodes r.group = true) (hl : d.queue.length + d.flights.length < 256) : V 17 [t.vv,d.vv,r.vv] [] = some (.tup [dvF (subD d r) (.p (chsP d.v)),.p (.int .i64 0)],[]):=by
 refine V_wp (vf:=vf17) rfl ?_
 have i0:=check_eq t d r h hs hr hk
 have i1:=open_eq t d hs
 have hn : ¬ (d.queue.length : Int) + d.flights.length = 256:=by omega
 simp -implicitDefEqProofs (disch:=omega) only [vf17,vb17,llm,i0,i1,hn,go_sem,↓reduceIte,rAz,rS,rE,rL,reduceCtorEq]
 simp only [dvF,subD,lma,lpc,lpn,Rq.pv]
theorem asc_len {t : Tr} (h : TreeOk t) {lo hi : Int} {l : List Ch} (hl : AscOk (knownN t.nodes) lo hi l) : l.length < 1000000:=by
 have:=asc_length hl
 have:=h.len
 omega
theorem inc_len {t : Tr} {l : List Int} (hp : l.Pairwise fun a b=>a < b) (hk : ∀ x ∈ l,knownN t.nodes x = true) : l.length <= t.nodes.length:=by
 have:=nodup_length_le l (t.nodes.map (·.id)) (hp.imp fun h e=>by omega) fun x hx=>by
  obtain ⟨n,hn,rfl⟩:=findN_some (hk x hx)
  exact List.mem_map_of_mem hn
 simpa using this
theorem ascD_iff {kn : Int -> Bool} : ∀ {l : List Dp} {p : Option Int},ascD kn p l = true -> (∀ c ∈ l,kn c.group = true) /\ l.Pairwise (fun a b=>a.group < b.group) /\ ∀ q,p = some q -> ∀ c ∈ l,q < c.group
 | [],p,_=>⟨by simp,List.Pairwise.nil,by simp⟩
 | c :: l,p,h=>by
  simp only [ascD,bat,prevOk_iff] at h
  obtain ⟨⟨⟨h1,h2⟩,_⟩,h4⟩:=h
  obtain ⟨e1,e2,e3⟩:=ascD_iff h4
  refine ⟨fun x hx=>?_,lpw.2 ⟨fun b hb=>e3 _ rfl b hb,e2⟩,fun q hq x hx=>?_⟩
  ·rcases lmk.1 hx with rfl | hx
   .exact h1
   .exact e1 x hx
  ·rcases lmk.1 hx with rfl | hx
   .exact h2 q hq
   .exact Int.lt_trans (h2 q hq) (e3 _ rfl x hx)
theorem ok_small {t : Tr} {d : Dv} (h : DvOk t d) : d.Small:=by
 have hq:=h.len
 have ht:=h.tree.len
 obtain ⟨b1,b2,_⟩:=ascB_iff.1 h.bk
 obtain ⟨d1,d2,_⟩:=ascD_iff h.dp
 have e1:=inc_len (t:=t) (l:=d.buckets.map (·.group)) (List.pairwise_map.2 b2) (fun x hx=>by obtain ⟨c,hc,rfl⟩:=lmm.1 hx; exact (b1 c hc).1)
 have e2:=inc_len (t:=t) (l:=d.depths.map (·.group)) (List.pairwise_map.2 d2) (fun x hx=>by obtain ⟨c,hc,rfl⟩:=lmm.1 hx; exact d1 c hc)
 rw [llm] at e1 e2
 exact ⟨asc_len h.tree h.w,by omega,by omega,asc_len h.tree h.v,by omega,by omega⟩
set_option maxHeartbeats 8000000 in
theorem tick_eq {t : Tr} {d : Dv} (h : DvOk t d) (hs : d.Small) (hnow : d.now < 1048576) : V 19 [t.vv,d.vv] [] = some (.tup [dvF (tickD t d) (.p (chsP (tickD t d).v)),.fresh 7 ((endedD d).map Fl.pv),.p (.int .i64 0)],[]):=by
 refine V_wp (vf:=vf19) rfl ?_
 have hlen:=h.tree.len
 have i0:=dvalid_eq t d h.tree.fits (by omega) hs
 rw [dvOk_iff.2 h] at i0
 have i1:=open_eq t d hs
 have i2:=advance_eq h hs hnow
 have hne : ¬ d.now = 1048576:=by omega
 have ha:=advD_ok h hnow
 have hbr:=busy_range ha
 simp -implicitDefEqProofs (disch:=omega) only [vf19,vb19,i0,i1,i2,hne,go_sem,↓reduceIte,rAz,rS,rE,rL,reduceCtorEq]
 obtain ⟨I,hI⟩ : ∃ I : Nat -> St -> Prop,∀ k s,I k s ↔ ∃ (x : Dv) (q1 : Nat) (f1 : Nat),DvOk t x /\ tickD t d = loopD t (d.queue.length + 1 - k) x /\ x.queue.length + k = d.queue.length /\ s.pe 2 = .ptr (.slot 2 0) 0 0 /\ s.pe 4 = .ptr (.slot 4 0) 0 0 /\ s.pe 7 = .ptr (.slot 23 1) 0 0 /\ s.pe 8 = .own (.slot 25 1) 0 0 (endedD d).length /\ s.pe 9 = .p (.int .i64 (x.now * x.speed)) /\ s.h (.slot 2 0) = some (0,Ob.box [.p (nodesP t.nodes),.p (.int .i64 t.next)]) /\ s.h (.slot 4 0) = some (0,Ob.box [.p (.int .i64 0),.p (.int .i64 0),.p (.int .i64 0),.p (.int .i64 0),.p (.int .i64 0),.p (.int .i64 0),.p (.int .i64 0),.p (.int .i64 0),.p (.int .i64 0),.p (.int .i64 0),.own (.slot 4 11) 0 0 0,.own (.slot 4 12) 0 0 0,.own (.slot 4 13) 0 0 0,.own (.slot 4 14) 0 0 0,.own (.slot 4 15) 0 0 0,.own (.slot 4 16) 0 0 0]) /\ s.h (.slot 4 11) = some (0,Ob.arr 2 []) /\ s.h (.slot 4 12) = some (0,Ob.arr 21 []) /\ s.h (.slot 4 13) = some (0,Ob.arr 3 []) /\ s.h (.slot 4 14) = some (0,Ob.arr 2 []) /\ s.h (.slot 4 15) = some (0,Ob.arr 6 []) /\ s.h (.slot 4 16) = some (0,Ob.arr 7 []) /\ s.h (.slot 23 12) = some (0,Ob.arr 2 (List.map Ch.pv x.weights)) /\ s.h (.slot 23 13) = some (0,Ob.arr 21 (List.map Cp.pv x.buckets)) /\ s.h (.slot 23 14) = some (0,Ob.arr 3 (List.map Dp.pv x.depths)) /\ s.h (.slot 23 16) = some (q1,Ob.arr 6 (List.map Rq.pv x.queue)) /\ s.h (.slot 23 17) = some (f1,Ob.arr 7 (List.map Fl.pv x.flights)) /\ s.h (.slot 25 1) = some (0,Ob.arr 7 (List.map Fl.pv (endedD d))) /\ ∃ X,s.h (.slot 23 1) = some (0,Ob.box [.p (.int .i64 x.m.rb),.p (.int .i64 x.m.rp),.p (.int .i64 x.m.wb),.p (.int .i64 x.m.wp),.p (.int .i64 x.m.seek),.p (.int .i64 x.speed),.p (.int .i64 x.margin),.p (.int .i64 x.now),.p (.int .i64 x.free),.p (.int .i64 x.head),.own (.slot 23 12) 0 0 x.weights.length,.own (.slot 23 13) 0 0 x.buckets.length,.own (.slot 23 14) 0 0 x.depths.length,X,.own (.slot 23 16) q1 0 x.queue.length,.own (.slot 23 17) f1 0 x.flights.length,.p (nodesP t.nodes),.p (.int .i64 t.next)]) /\ fz0 [53,63] s.h X = .p (chsP x.v):=⟨_,fun _ _=>Iff.rfl⟩
 refine wp_count ((d.queue.length + 1)) I ?_ ?_
 ·refine (hI _ _).2 ⟨advD d,0,1,?_,?_,?_,?_,?_,?_,?_,?_,?_,?_,?_,?_,?_,?_,?_,?_,?_,?_,?_,?_,?_,?_,?_⟩
  ·exact ha
  ·rfl
  ·rfl
  all_goals first | exact cl0 | (simp -implicitDefEqProofs (disch:=omega) only [lma,go_sem,↓reduceIte,rAz,rS,rE,rL,reduceCtorEq] <;> first | (simp [mBox]; done) | (simp [mBox]; omega)) | (simp -implicitDefEqProofs (disch:=omega) only [lma,go_sem,↓reduceIte,rAz,rS,rE,rL,reduceCtorEq] <;> (refine ⟨_,rfl,?_⟩; first | rfl | (simp -implicitDefEqProofs (disch:=omega) only [lma,go_sem,↓reduceIte,rAz,rS,rE,rL,reduceCtorEq]; done) | (simp -implicitDefEqProofs (disch:=omega) only [lma,go_sem,↓reduceIte,rAz,rS,rE,rL,reduceCtorEq]; rfl)))
 intro k s hk hIk
 obtain ⟨x,q1,f1,hx,hT,hql,h2,h4,h7,h8,h9,hh2_0,hh4_0,hh4_11,hh4_12,hh4_13,hh4_14,hh4_15,hh4_16,hh23_12,hh23_13,hh23_14,hh23_16,hh23_17,hh25_1,hX⟩:=(hI _ _).1 hIk
 clear hIk
 obtain ⟨X,hh23,hX⟩:=hX
 have hxs : x.Small:=ok_small hx
 have hbx:=busy_range hx
 have hql2:=hx.len
 obtain ⟨fu,hfu⟩ : ∃ fu,d.queue.length + 1 - k = fu + 1:=⟨d.queue.length - k,by omega⟩
 rw [hfu] at hT
 have i3:=ready_eq hx hxs
 have hrl:=readyL_len t x x.queue []
 have hml:=msort_length (readyL t x [] x.queue)
 have i4:=inextA_eq t x.v (msort (readyL t x [] x.queue)) (x.now * x.speed) hx.tree.fits (by omega) hxs.v (by omega)
 rcases loopD_succ t fu x with ⟨hend,hS⟩ | ⟨g,r,v,hst,hS⟩
 ·rw [hS] at hT
  rw [hT]
  unfold EndD at hend
  generalize hg : nxtA t x.v (x.now * x.speed) 0 (msort (readyL t x [] x.queue)) = g at i4 hend
  by_cases hb : x.now * x.speed <= x.free
  ·have hb' : ¬ x.free < x.now * x.speed:=by omega
   simp -implicitDefEqProofs (disch:=omega) only [h2,h4,h7,h8,h9,hh2_0,hh4_0,hh4_11,hh4_12,hh4_13,hh4_14,hh4_15,hh4_16,hh23_12,hh23_13,hh23_14,hh23_16,hh23_17,hh25_1,hX,hh23,hb',go_sem,↓reduceIte,rAz,rS,rE,rL,reduceCtorEq]
  ·have hb' : x.free < x.now * x.speed:=by omega
   by_cases hg0 : g = 0
   ·simp -implicitDefEqProofs (disch:=omega) only [h2,h4,h7,h8,h9,hh2_0,hh4_0,hh4_11,hh4_12,hh4_13,hh4_14,hh4_15,hh4_16,hh23_12,hh23_13,hh23_14,hh23_16,hh23_17,hh25_1,hX,hh23,hb',i3,i4,hg0,go_sem,↓reduceIte,rAz,rS,rE,rL,reduceCtorEq]
   ·obtain ⟨r,hr,he⟩ : ∃ r,firstQ x.queue g = some r /\ (IssueA t x.v g (shareD t x g) (costD x r) (x.now * x.speed) x.margin).2 ≠ 0:=by
     rcases hend with e | e | e | e
     ·exact absurd e hb
     ·exact absurd e hg0
     ·obtain ⟨r,h1,_⟩:=next_first (t:=t) (d:=x) (by rw [hg]; exact hg0)
      rw [hg,e] at h1
      cases h1
     .exact e
    generalize hi : IssueA t x.v g (shareD t x g) (costD x r) (x.now * x.speed) x.margin = ve at he
    obtain ⟨v,e⟩:=ve
    have i5:=begin_eq hx hxs hb hr hi
    rw [if_neg he] at i5
    simp -implicitDefEqProofs (disch:=omega) only [h2,h4,h7,h8,h9,hh2_0,hh4_0,hh4_11,hh4_12,hh4_13,hh4_14,hh4_15,hh4_16,hh23_12,hh23_13,hh23_14,hh23_16,hh23_17,hh25_1,hX,hh23,hb',i3,i4,hg0,i5,go_sem,↓reduceIte,rAz,rS,rE,rL,reduceCtorEq]
 ·rw [hS] at hT
  have hb:=hst.busy
  have hg:=hst.next
  have hg0:=hst.pos
  have i5:=begin_eq hx hxs hb hst.first hst.issue
  rw [if_pos rfl] at i5
  have hb' : x.free < x.now * x.speed:=by omega
  rw [<- hg] at i4
  have hok:=step_ok hx hst
  have hrq:=remQ_len hst.first
  simp -implicitDefEqProofs (disch:=omega) only [h2,h4,h7,h8,h9,hh2_0,hh4_0,hh4_11,hh4_12,hh4_13,hh4_14,hh4_15,hh4_16,hh23_12,hh23_13,hh23_14,hh23_16,hh23_17,hh25_1,hX,hh23,hb',i3,i4,hg0,i5,go_sem,↓reduceIte,rAz,rS,rE,rL,reduceCtorEq]
  try refine And.intro (by omega) ?_
  refine (hI _ _).2 ⟨beginD t x g r v,q1 + 1,f1 + 1,?_,?_,?_,?_,?_,?_,?_,?_,?_,?_,?_,?_,?_,?_,?_,?_,?_,?_,?_,?_,?_,?_,?_⟩
  .exact hok
  .exact by rw [hT,show d.queue.length + 1 - (k + 1) = fu by omega]
  .exact by show (remQ x.queue g).length + (k + 1) = _; omega
  all_goals first | exact cl0 | (simp -implicitDefEqProofs (disch:=omega) only [h2,h4,h7,h8,h9,hh2_0,hh4_0,hh4_11,hh4_12,hh4_13,hh4_14,hh4_15,hh4_16,hh23_12,hh23_13,hh23_14,hh23_16,hh23_17,hh25_1,hX,lma,go_sem,↓reduceIte,rAz,rS,rE,rL,reduceCtorEq] <;> first | (simp [mBox]; done) | (simp [mBox]; omega)) | (simp -implicitDefEqProofs (disch:=omega) only [h2,h4,h7,h8,h9,hh2_0,hh4_0,hh4_11,hh4_12,hh4_13,hh4_14,hh4_15,hh4_16,hh23_12,hh23_13,hh23_14,hh23_16,hh23_17,hh25_1,hX,lma,go_sem,↓reduceIte,rAz,rS,rE,rL,reduceCtorEq] <;> (refine ⟨_,rfl,?_⟩; first | rfl | (simp -implicitDefEqProofs (disch:=omega) only [h2,h4,h7,h8,h9,hh2_0,hh4_0,hh4_11,hh4_12,hh4_13,hh4_14,hh4_15,hh4_16,hh23_12,hh23_13,hh23_14,hh23_16,hh23_17,hh25_1,hX,lma,go_sem,↓reduceIte,rAz,rS,rE,rL,reduceCtorEq]; done) | (simp -implicitDefEqProofs (disch:=omega) only [h2,h4,h7,h8,h9,hh2_0,hh4_0,hh4_11,hh4_12,hh4_13,hh4_14,hh4_15,hh4_16,hh23_12,hh23_13,hh23_14,hh23_16,hh23_17,hh25_1,hX,lma,go_sem,↓reduceIte,rAz,rS,rE,rL,reduceCtorEq]; rfl)))
structure Sg where
 weight : Int
 rp : Int
 wp : Int
 ro : Int
 wo : Int
 target : Int
abbrev Sg.vv (s : Sg) (dev : Int) : VVal:=.agg [.p (.int .i64 dev),.p (.int .i64 s.weight),.p (.int .i64 s.rp),.p (.int .i64 s.wp),.p (.int .i64 s.ro),.p (.int .i64 s.wo),.p (.int .i64 s.target)]
def amtOk (n : Int) : Prop:=(1 <= n /\ n <= 1073741824) \/ n = maxR
structure SgOk (s : Sg) : Prop where
 w : 1 <= s.weight /\ s.weight <= 10000
 rp : amtOk s.rp
 wp : amtOk s.wp
 ro : amtOk s.ro
 wo : amtOk s.wo
 t : 0 <= s.target /\ s.target <= 1048576
def newB (rate least now : Int) : Bk:=if rate = maxR then ⟨maxR,100,0,0,now⟩ else ⟨rate,100,max rate least,max rate least * 100,now⟩
theorem bmade_eq (rate least now : Int) (h : amtOk rate) (hl : 0 <= least /\ least <= 4096) (hn : 0 <= now /\ now <= 1048576) : V 244 [.p (.int .i64 rate),.p (.int .i64 100),.p (.int .i64 (if rate = maxR then 0 else max rate least)),.p (.int .i64 now),.p (.int .i64 1073741824)] [] = some (.tup [(newB rate least now).vv,.p (.int .i64 0)],[]):=by
 refine V_wp (vf:=vf244) rfl ?_
 have hmx : maxR = 4611686018427387904:=rfl
 rcases h with h | h
 ·have hne : ¬ rate = maxR:=by omega
  have op:=bopen_eq ⟨rate,100,max rate least,0,now⟩
  have bv:=bvalid_eq ⟨rate,100,max rate least,0,now⟩
  rw [show bkOk ⟨rate,100,max rate least,0,now⟩ = true from bkOk_iff.2 ⟨by simp,hn,.inr ⟨hne,by simp only; omega,by simp only; omega,by simp only; omega⟩⟩] at bv
  rw [decide_eq_false hne] at op
  have hN : newB rate least now = ⟨rate,100,max rate least,max rate least * 100,now⟩:=by unfold newB; rw [if_neg hne]
  rw [if_neg hne,hN]
  have hm : min 1073741824 (max rate least) = max rate least:=by omega
  have hb : 0 <= max rate least /\ max rate least <= 1073741824:=by omega
  generalize max rate least = b at op bv hm hb
  simp -implicitDefEqProofs (disch:=omega) only [vf244,vb244,op,bv,hm,go_sem,↓reduceIte,rAz,rS,rE,rL,reduceCtorEq]
 ·have op:=bopen_eq ⟨rate,100,0,0,now⟩
  have bv:=bvalid_eq ⟨rate,100,0,0,now⟩
  rw [show bkOk ⟨rate,100,0,0,now⟩ = true from bkOk_iff.2 ⟨by simp,hn,.inl ⟨h,rfl,rfl⟩⟩] at bv
  rw [decide_eq_true h] at op
  have hN : newB rate least now = ⟨rate,100,0,0,now⟩:=by unfold newB; rw [if_pos h,h]
  rw [if_pos h,hN]
  have hm : min (1073741824 : Int) 0 = 0:=by omega
  simp -implicitDefEqProofs (disch:=omega) only [vf244,vb244,op,bv,hm,Int.zero_mul,go_sem,↓reduceIte,rAz,rS,rE,rL,reduceCtorEq]
theorem renewed_eq (t : Tr) (d : Dv) (old : Bk) (rate least : Int) (h : amtOk rate) (hl : 0 <= least /\ least <= 4096) (hn : 0 <= d.now /\ d.now <= 1048576) : V 161 [.ptr (.arg 0 0) 0 0,old.vv,.p (.bool false),.p (.int .i64 rate),.p (.int .i64 least)] (mH t d) = some ((newB rate least d.now).vv,mH t d):=by
 refine V_wp (vf:=vf161) rfl ?_
 have i0 : V 206 [.p (.int .i64 rate),.p (.int .i64 100),.p (.int .i64 (if rate = maxR then 0 else max rate least)),.p (.int .i64 d.now)] [] = some (.tup [(newB rate least d.now).vv,.p (.int .i64 0)],[]):=by
  refine V_wp (vf:=vf206) rfl ?_
  have i1:=bmade_eq rate least d.now h hl hn
  simp -implicitDefEqProofs (disch:=omega) only [vf206,vb206,i1,go_sem,↓reduceIte,rAz,rS,rE,rL,reduceCtorEq]
 by_cases hr : rate = maxR
 ·rw [if_pos hr] at i0
  have hr' : decide (rate = 4611686018427387904) = true:=decide_eq_true hr
  simp -implicitDefEqProofs (disch:=omega) only [vf161,vb161,hr',i0,go_sem,↓reduceIte,rAz,rS,rE,rL,reduceCtorEq]
 ·rw [if_neg hr] at i0
  simp -implicitDefEqProofs (disch:=omega) only [vf161,vb161,hr,i0,go_sem,↓reduceIte,rAz,rS,rE,rL,reduceCtorEq]
theorem amount_eq (n : Int) (h : amtOk n) : V 155 [.p (.int .i64 n),.p (.int .i64 1),.p (.int .i64 1073741824)] [] = some (.p (.bool true),[]):=by
 refine V_wp (vf:=vf155) rfl ?_
 have hmx : maxR = 4611686018427387904:=rfl
 rcases h with ⟨h1,h2⟩ | h
 ·simp -implicitDefEqProofs (disch:=omega) only [vf155,vb155,h1,h2,go_sem,↓reduceIte,rAz,rS,rE,rL,reduceCtorEq]
 ·have h1 : 1 <= n:=by omega
  have h2 : ¬ n <= 1073741824:=by omega
  have h' : decide (n = 4611686018427387904) = true:=decide_eq_true h
  simp -implicitDefEqProofs (disch:=omega) only [vf155,vb155,h1,h2,h',go_sem,↓reduceIte,rAz,rS,rE,rL,reduceCtorEq]
theorem checkS_eq (u : Sg) (h : SgOk u) : V 85 [.p (.slice 7 [.agg [.int .i64 0,.int .i64 u.weight,.int .i64 u.rp,.int .i64 u.wp,.int .i64 u.ro,.int .i64 u.wo,.int .i64 u.target]])] [] = some (.p (.bool true),[]):=by
 refine V_wp (vf:=vf85) rfl ?_
 have a1:=amount_eq u.rp h.rp
 have a2:=amount_eq u.wp h.wp
 have a3:=amount_eq u.ro h.ro
 have a4:=amount_eq u.wo h.wo
 have b1 : ¬ u.weight < 1:=by have:=h.w; omega
 have b2 : ¬ 10000 < u.weight:=by have:=h.w; omega
 have b3 : ¬ u.target < 0:=by have:=h.t; omega
 have b4 : ¬ 1048576 < u.target:=by have:=h.t; omega
 simp -implicitDefEqProofs (disch:=omega) only [vf85,vb85,go_sem,↓reduceIte,rAz,rS,rE,rL,reduceCtorEq]
 obtain ⟨I,hI⟩ : ∃ I : Nat -> St -> Prop,∀ k s,I k s ↔ s.pe 0 = .p (PV.slice 7 [PV.agg [PV.int IntKind.i64 0,PV.int IntKind.i64 u.weight,PV.int IntKind.i64 u.rp,PV.int IntKind.i64 u.wp,PV.int IntKind.i64 u.ro,PV.int IntKind.i64 u.wo,PV.int IntKind.i64 u.target]]) /\ s.pe 3 = .p (.int .i64 k):=⟨_,fun _ _=>Iff.rfl⟩
 refine wp_count (1) I ?_ ?_
 ·refine (hI _ _).2 ⟨?_,?_⟩
  all_goals first | exact cl0 | (simp -implicitDefEqProofs (disch:=omega) only [lma,go_sem,↓reduceIte,rAz,rS,rE,rL,reduceCtorEq] <;> first | (simp [mBox]; done) | (simp [mBox]; omega))
 intro k s hk hIk
 obtain ⟨h0,h3⟩:=(hI _ _).1 hIk
 clear hIk
 simp -implicitDefEqProofs (disch:=omega) only [h0,h3,go_sem,↓reduceIte,rAz,rS,rE,rL,reduceCtorEq]
 refine wp_if_d (fun hlt=>?_) (fun hge=>?_)
 ·have hk : k = 0:=by omega
  have hg : ∀ x : PV,([x] : List PV)[k]? = some x:=fun x=>by rw [hk]; rfl
  have hk0 : ¬ (0 : Int) < k:=by omega
  have hd : decide ((0 : Int) < 0) = false:=rfl
  have hd8 : decide ((8 : Int) <= 0) = false:=rfl
  have hlt' : k < 1:=by omega
  simp -implicitDefEqProofs (disch:=omega) only [h0,h3,hlt,hlt',hg,hk0,hd,hd8,a1,a2,a3,a4,b1,b2,b3,b4,go_sem,↓reduceIte,rAz,rS,rE,rL,reduceCtorEq]
  try refine And.intro (by omega) ?_
  refine (hI _ _).2 ⟨?_,?_⟩
  all_goals first | exact cl0 | (simp -implicitDefEqProofs (disch:=omega) only [h0,h3,lma,go_sem,↓reduceIte,rAz,rS,rE,rL,reduceCtorEq] <;> first | (simp [mBox]; done) | (simp [mBox]; omega))
 ·have hd1 : decide (((1 : Nat) : Int) <= 8) = true:=rfl
  simp -implicitDefEqProofs (disch:=omega) only [h0,h3,hge,hd1,go_sem,↓reduceIte,rAz,rS,rE,rL,reduceCtorEq]
theorem idx0W_eq (id : Int) : V 144 [.p (.slice 2 []),.fn 156 [.ptr (.arg 0 0) 0 0]] [.box [.p (.int .i64 id)]] = some (.p (.int .i64 (-1)),[.box [.p (.int .i64 id)]]):=by
 refine V_wp (vf:=vf144) rfl ?_
 simp -implicitDefEqProofs (disch:=omega) only [vf144,vb144,go_sem,↓reduceIte,rAz,rS,rE,rL,reduceCtorEq]
 obtain ⟨I,hI⟩ : ∃ I : Nat -> St -> Prop,∀ k s,I k s ↔ s.pe 0 = .p (PV.slice 2 []) /\ s.pe 1 = VVal.fn 156 [.ptr (Id.arg 0 0) 0 0] /\ s.pe 7 = .p (.int .i64 ((0 : Nat) : Int)) /\ s.pe 8 = .p (.int .i64 k) /\ s.h (.arg 0 0) = some (0,Ob.box [.p (.int .i64 id)]):=⟨_,fun _ _=>Iff.rfl⟩
 refine wp_count (0) I ?_ ?_
 ·refine (hI _ _).2 ⟨?_,?_,?_,?_,?_⟩
  all_goals first | exact cl0 | (simp -implicitDefEqProofs (disch:=omega) only [h0,h3,lma,go_sem,↓reduceIte,rAz,rS,rE,rL,reduceCtorEq] <;> first | (simp [mBox]; done) | (simp [mBox]; omega))
 intro k s hk hIk
 obtain ⟨h0,h1,h7,h8,ha0⟩:=(hI _ _).1 hIk
 clear hIk
 simp -implicitDefEqProofs (disch:=omega) only [h0,h1,h7,h8,ha0,go_sem,↓reduceIte,rAz,rS,rE,rL,reduceCtorEq]
 refine wp_if_d (fun hlt=>?_) (fun hge=>?_)
 .omega
 .simp -implicitDefEqProofs (disch:=omega) only [h0,h1,h7,h8,ha0,hge,go_sem,↓reduceIte,rAz,rS,rE,rL,reduceCtorEq]
theorem idx0D_eq (id : Int) : V 147 [.p (.slice 3 []),.fn 165 [.ptr (.arg 0 0) 0 0]] [.box [.p (.int .i64 id)]] = some (.p (.int .i64 (-1)),[.box [.p (.int .i64 id)]]):=by
 refine V_wp (vf:=vf147) rfl ?_
 simp -implicitDefEqProofs (disch:=omega) only [vf147,vb147,go_sem,↓reduceIte,rAz,rS,rE,rL,reduceCtorEq]
 obtain ⟨I,hI⟩ : ∃ I : Nat -> St -> Prop,∀ k s,I k s ↔ s.pe 0 = .p (PV.slice 3 []) /\ s.pe 1 = VVal.fn 165 [.ptr (Id.arg 0 0) 0 0] /\ s.pe 7 = .p (.int .i64 ((0 : Nat) : Int)) /\ s.pe 8 = .p (.int .i64 k) /\ s.h (.arg 0 0) = some (0,Ob.box [.p (.int .i64 id)]):=⟨_,fun _ _=>Iff.rfl⟩
 refine wp_count (0) I ?_ ?_
 ·refine (hI _ _).2 ⟨?_,?_,?_,?_,?_⟩
  all_goals first | exact cl0 | (simp -implicitDefEqProofs (disch:=omega) only [h0,h1,h7,h8,ha0,lma,go_sem,↓reduceIte,rAz,rS,rE,rL,reduceCtorEq] <;> first | (simp [mBox]; done) | (simp [mBox]; omega))
 intro k s hk hIk
 obtain ⟨h0,h1,h7,h8,ha0⟩:=(hI _ _).1 hIk
 clear hIk
 simp -implicitDefEqProofs (disch:=omega) only [h0,h1,h7,h8,ha0,go_sem,↓reduceIte,rAz,rS,rE,rL,reduceCtorEq]
 refine wp_if_d (fun hlt=>?_) (fun hge=>?_)
 .omega
 .simp -implicitDefEqProofs (disch:=omega) only [h0,h1,h7,h8,ha0,hge,go_sem,↓reduceIte,rAz,rS,rE,rL,reduceCtorEq]
theorem del0W_eq (id : Int) : V 71 [.own (.arg 0 0) 0 0 0,.fn 156 [.ptr (.arg 1 0) 0 0]] [.arr 2 [],.box [.p (.int .i64 id)]] = some (.own (.arg 0 0) 0 0 0,[.arr 2 [],.box [.p (.int .i64 id)]]):=by
 refine V_wp (vf:=vf71) rfl ?_
 have i0:=idx0W_eq id
 have hd : decide ((-1 : Int) = -1) = true:=rfl
 simp -implicitDefEqProofs (disch:=omega) only [vf71,vb71,i0,hd,go_sem,↓reduceIte,rAz,rS,rE,rL,reduceCtorEq]
theorem del0D_eq (id : Int) : V 76 [.own (.arg 0 0) 0 0 0,.fn 165 [.ptr (.arg 1 0) 0 0]] [.arr 3 [],.box [.p (.int .i64 id)]] = some (.own (.arg 0 0) 0 0 0,[.arr 3 [],.box [.p (.int .i64 id)]]):=by
 refine V_wp (vf:=vf76) rfl ?_
 have i0:=idx0D_eq id
 have hd : decide ((-1 : Int) = -1) = true:=rfl
 simp -implicitDefEqProofs (disch:=omega) only [vf76,vb76,i0,hd,go_sem,↓reduceIte,rAz,rS,rE,rL,reduceCtorEq]
abbrev wgD (d : Dv) (id w : Int) : Dv:={ d with weights:=if w = 100 then [] else [⟨id,w⟩] }
abbrev bkD (d : Dv) (id : Int) (s : Sg) : Dv:={ d with buckets:=if s.rp = maxR /\ s.wp = maxR /\ s.ro = maxR /\ s.wo = maxR then [] else [⟨id,newB s.rp 4096 d.now,newB s.wp 4096 d.now,newB s.ro 0 d.now,newB s.wo 0 d.now⟩] }
abbrev dpD (d : Dv) (id tg : Int) : Dv:={ d with depths:=if tg = 0 then [] else [⟨id,tg,256⟩] }
abbrev mBoxL (t : Tr) (d : Dv) (a b c : Nat) : Ob:=.box [.p (.int .i64 d.m.rb),.p (.int .i64 d.m.rp),.p (.int .i64 d.m.wb),.p (.int .i64 d.m.wp),.p (.int .i64 d.m.seek),.p (.int .i64 d.speed),.p (.int .i64 d.margin),.p (.int .i64 d.now),.p (.int .i64 d.free),.p (.int .i64 d.head),.own (.arg 1 0) a 0 d.weights.length,.own (.arg 2 0) b 0 d.buckets.length,.own (.arg 3 0) c 0 d.depths.length,.p (chsP d.v),.own (.arg 4 0) 0 0 d.queue.length,.own (.arg 5 0) 0 0 d.flights.length,.p (nodesP t.nodes),.p (.int .i64 t.next)]
set_option maxHeartbeats 2000000 in
theorem weigh_eq (t : Tr) (d : Dv) (id w : Int) (h0 : d.weights = []) : V 86 [.ptr (.arg 0 0) 0 0,.p (.int .i64 id),.p (.int .i64 w)] (mH t d) = some (.tup [],if w = 100 then mH t d else [mBoxL t (wgD d id w) 1 0 0,.box [.undef,.fresh 2 [Ch.pv ⟨id,w⟩]],.arr 21 (d.buckets.map Cp.pv),.arr 3 (d.depths.map Dp.pv),.arr 6 (d.queue.map Rq.pv),.arr 7 (d.flights.map Fl.pv)]):=by
 refine V_wp (vf:=vf86) rfl ?_
 have i0:=del0W_eq id
 have i1:=oneW_x (x:=.agg [.int .i64 id,.int .i64 w]) (g:=158)
 obtain ⟨m,speed,margin,now,free,head,weights,buckets,depths,v,queue,flights⟩:=d
 simp only at h0
 subst h0
 by_cases hw : w = 100
 ·rw [if_pos hw]
  simp -implicitDefEqProofs (disch:=omega) only [vf86,vb86,i0,hw,lpn,lln,go_sem,↓reduceIte,rAz,rS,rE,rL,reduceCtorEq]
  rfl
 ·rw [if_neg hw]
  have e : mBoxL t (wgD ⟨m,speed,margin,now,free,head,[],buckets,depths,v,queue,flights⟩ id w) 1 0 0 = mBoxL t ⟨m,speed,margin,now,free,head,[⟨id,w⟩],buckets,depths,v,queue,flights⟩ 1 0 0:=by
   unfold wgD
   simp only
   rw [if_neg hw]
  rw [e]
  simp -implicitDefEqProofs (disch:=omega) only [vf86,vb86,i0,hw,i1,lpn,lln,lna,go_sem,↓reduceIte,rAz,rS,rE,rL,reduceCtorEq]
  rfl
set_option maxHeartbeats 4000000 in
theorem limit_eq (t : Tr) (d : Dv) (id : Int) (s : Sg) (dev : Int) (h0 : d.buckets = []) (hs : SgOk s) (hn : 0 <= d.now /\ d.now <= 1048576) : V 87 [.ptr (.arg 0 0) 0 0,.p (.int .i64 id),s.vv dev] (mH t d) = some (.tup [],if s.rp = maxR /\ s.wp = maxR /\ s.ro = maxR /\ s.wo = maxR then mH t d else [mBoxL t (bkD d id s) 0 1 0,.arr 2 (d.weights.map Ch.pv),.box [.undef,.fresh 21 [Cp.pv ⟨id,newB s.rp 4096 d.now,newB s.wp 4096 d.now,newB s.ro 0 d.now,newB s.wo 0 d.now⟩]],.arr 3 (d.depths.map Dp.pv),.arr 6 (d.queue.map Rq.pv),.arr 7 (d.flights.map Fl.pv)]):=by
 refine V_wp (vf:=vf87) rfl ?_
 have k0:=mcaps_eq t d id (by rw [h0]; decide)
 rw [idxP_none (by rw [h0]; intro n hn; cases hn)] at k0
 have hd : decide ((0 : Int) <= -1) = false:=rfl
 have r1:=renewed_eq t d ⟨0,0,0,0,0⟩ s.rp 4096 hs.rp (by omega) hn
 have r2:=renewed_eq t d ⟨0,0,0,0,0⟩ s.wp 4096 hs.wp (by omega) hn
 have r3:=renewed_eq t d ⟨0,0,0,0,0⟩ s.ro 0 hs.ro (by omega) hn
 have r4:=renewed_eq t d ⟨0,0,0,0,0⟩ s.wo 0 hs.wo (by omega) hn
 by_cases hall : s.rp = maxR /\ s.wp = maxR /\ s.ro = maxR /\ s.wo = maxR
 ·rw [if_pos hall]
  have a1 : decide (s.rp = 4611686018427387904) = true:=decide_eq_true hall.1
  have a2 : decide (s.wp = 4611686018427387904) = true:=decide_eq_true hall.2.1
  have a3 : decide (s.ro = 4611686018427387904) = true:=decide_eq_true hall.2.2.1
  have a4 : decide (s.wo = 4611686018427387904) = true:=decide_eq_true hall.2.2.2
  simp -implicitDefEqProofs (disch:=omega) only [vf87,vb87,k0,hd,a1,a2,a3,a4,go_sem,↓reduceIte,rAz,rS,rE,rL,reduceCtorEq]
 ·rw [if_neg hall]
  have e : mBoxL t (bkD d id s) 0 1 0 = mBoxL t { d with buckets:=[⟨id,newB s.rp 4096 d.now,newB s.wp 4096 d.now,newB s.ro 0 d.now,newB s.wo 0 d.now⟩] } 0 1 0:=by
   unfold bkD
   rw [if_neg hall]
  rw [e]
  have i1 : ∀ x : PV,V 162 [.own (.arg 0 0) 0 0 (d.buckets.length + 1),.p (.fn 163)] [.arr 21 (d.buckets.map Cp.pv ++ [x])] = some (.tup [],[.arr 21 (d.buckets.map Cp.pv ++ [x])]):=fun x=>by
   rw [h0]
   exact oneC_x
  generalize newB s.rp 4096 d.now = b1 at r1
  generalize newB s.wp 4096 d.now = b2 at r2
  generalize newB s.ro 0 d.now = b3 at r3
  generalize newB s.wo 0 d.now = b4 at r4
  have hbl : d.buckets.length < 1000000:=by rw [h0]; decide
  by_cases a1 : s.rp = 4611686018427387904
  ·have a1':=decide_eq_true a1
   by_cases a2 : s.wp = 4611686018427387904
   ·have a2':=decide_eq_true a2
    by_cases a3 : s.ro = 4611686018427387904
    ·have a4 : ¬ s.wo = 4611686018427387904:=fun h=>hall ⟨a1,a2,a3,h⟩
     have a3':=decide_eq_true a3
     simp -implicitDefEqProofs (disch:=omega) only [vf87,vb87,k0,hd,a1',a2',a3',a4,r1,r2,r3,r4,i1,go_sem,↓reduceIte,rAz,rS,rE,rL,reduceCtorEq]
     simp only [h0,lpn,lna,lln]
     rfl
    ·simp -implicitDefEqProofs (disch:=omega) only [vf87,vb87,k0,hd,a1',a2',a3,r1,r2,r3,r4,i1,go_sem,↓reduceIte,rAz,rS,rE,rL,reduceCtorEq]
     simp only [h0,lpn,lna,lln]
     rfl
   ·simp -implicitDefEqProofs (disch:=omega) only [vf87,vb87,k0,hd,a1',a2,r1,r2,r3,r4,i1,go_sem,↓reduceIte,rAz,rS,rE,rL,reduceCtorEq]
    simp only [h0,lpn,lna,lln]
    rfl
  ·simp -implicitDefEqProofs (disch:=omega) only [vf87,vb87,k0,hd,a1,r1,r2,r3,r4,i1,go_sem,↓reduceIte,rAz,rS,rE,rL,reduceCtorEq]
   simp only [h0,lpn,lna,lln]
   rfl
set_option maxHeartbeats 2000000 in
theorem aim_eq (t : Tr) (d : Dv) (id tg : Int) (h0 : d.depths = []) : V 88 [.ptr (.arg 0 0) 0 0,.p (.int .i64 id),.p (.int .i64 tg)] (mH t d) = some (.tup [],if tg = 0 then mH t d else [mBoxL t (dpD d id tg) 0 0 1,.arr 2 (d.weights.map Ch.pv),.arr 21 (d.buckets.map Cp.pv),.box [.undef,.fresh 3 [Dp.pv ⟨id,tg,256⟩]],.arr 6 (d.queue.map Rq.pv),.arr 7 (d.flights.map Fl.pv)]):=by
 refine V_wp (vf:=vf88) rfl ?_
 have i0:=del0D_eq id
 have i1:=oneD_x (x:=.agg [.int .i64 id,.int .i64 tg,.int .i64 256]) (g:=167)
 have i2:=lget_eq [] id (by decide)
 have i2 : V 164 [.p (.slice 3 []),.p (.int .i64 id)] [] = some (.agg [.p (.int .i64 id),.p (.int .i64 0),.p (.int .i64 256)],[]):=i2
 obtain ⟨m,speed,margin,now,free,head,weights,buckets,depths,v,queue,flights⟩:=d
 simp only at h0
 subst h0
 by_cases hw : tg = 0
 ·rw [if_pos hw]
  have hd : decide ((0 : Int) = 0) = true:=rfl
  have hd2 : decide ((256 : Int) = 256) = true:=rfl
  simp -implicitDefEqProofs (disch:=omega) only [vf88,vb88,i0,i2,hw,hd,hd2,lpn,lln,go_sem,↓reduceIte,rAz,rS,rE,rL,reduceCtorEq]
  rfl
 ·rw [if_neg hw]
  have e : mBoxL t (dpD ⟨m,speed,margin,now,free,head,weights,buckets,[],v,queue,flights⟩ id tg) 0 0 1 = mBoxL t ⟨m,speed,margin,now,free,head,weights,buckets,[⟨id,tg,256⟩],v,queue,flights⟩ 0 0 1:=by
   unfold dpD
   simp only
   rw [if_neg hw]
  rw [e]
  simp -implicitDefEqProofs (disch:=omega) only [vf88,vb88,i0,i2,hw,i1,lpn,lln,lna,go_sem,↓reduceIte,rAz,rS,rE,rL,reduceCtorEq]
  rfl
abbrev setE (d : Dv) (id : Int) (s : Sg) : Dv:=dpD (bkD (wgD d id s.weight) id s) id s.target
theorem weigh_two (t : Tr) (d : Dv) (id w : Int) (h0 : d.weights = []) : ∃ d1,d1 = wgD d id w /\ (V 86 [.ptr (.arg 0 0) 0 0,.p (.int .i64 id),.p (.int .i64 w)] (mH t d) = some (.tup [],mH t d1) \/ V 86 [.ptr (.arg 0 0) 0 0,.p (.int .i64 id),.p (.int .i64 w)] (mH t d) = some (.tup [],[mBoxL t d1 1 0 0,.box [.undef,.fresh 2 (d1.weights.map Ch.pv)],.arr 21 (d1.buckets.map Cp.pv),.arr 3 (d1.depths.map Dp.pv),.arr 6 (d1.queue.map Rq.pv),.arr 7 (d1.flights.map Fl.pv)])):=by
 have h:=weigh_eq t d id w h0
 refine ⟨_,rfl,?_⟩
 by_cases hw : w = 100
 ·rw [if_pos hw] at h
  left
  rw [h,show wgD d id w = d by unfold wgD; rw [if_pos hw,<- h0]]
 ·rw [if_neg hw] at h
  right
  rw [h,show (wgD d id w).weights = [⟨id,w⟩] by unfold wgD; rw [if_neg hw]]
  rfl
theorem limit_two (t : Tr) (d : Dv) (id : Int) (s : Sg) (dev : Int) (h0 : d.buckets = []) (hs : SgOk s) (hn : 0 <= d.now /\ d.now <= 1048576) : ∃ d1,d1 = bkD d id s /\ (V 87 [.ptr (.arg 0 0) 0 0,.p (.int .i64 id),s.vv dev] (mH t d) = some (.tup [],mH t d1) \/ V 87 [.ptr (.arg 0 0) 0 0,.p (.int .i64 id),s.vv dev] (mH t d) = some (.tup [],[mBoxL t d1 0 1 0,.arr 2 (d1.weights.map Ch.pv),.box [.undef,.fresh 21 (d1.buckets.map Cp.pv)],.arr 3 (d1.depths.map Dp.pv),.arr 6 (d1.queue.map Rq.pv),.arr 7 (d1.flights.map Fl.pv)])):=by
 have h:=limit_eq t d id s dev h0 hs hn
 refine ⟨_,rfl,?_⟩
 by_cases hw : s.rp = maxR /\ s.wp = maxR /\ s.ro = maxR /\ s.wo = maxR
 ·rw [if_pos hw] at h
  left
  rw [h,show bkD d id s = d by unfold bkD; rw [if_pos hw,<- h0]]
 ·rw [if_neg hw] at h
  right
  rw [h,show (bkD d id s).buckets = [⟨id,newB s.rp 4096 d.now,newB s.wp 4096 d.now,newB s.ro 0 d.now,newB s.wo 0 d.now⟩] by unfold bkD; rw [if_neg hw]]
  rfl
theorem aim_two (t : Tr) (d : Dv) (id tg : Int) (h0 : d.depths = []) : ∃ d1,d1 = dpD d id tg /\ (V 88 [.ptr (.arg 0 0) 0 0,.p (.int .i64 id),.p (.int .i64 tg)] (mH t d) = some (.tup [],mH t d1) \/ V 88 [.ptr (.arg 0 0) 0 0,.p (.int .i64 id),.p (.int .i64 tg)] (mH t d) = some (.tup [],[mBoxL t d1 0 0 1,.arr 2 (d1.weights.map Ch.pv),.arr 21 (d1.buckets.map Cp.pv),.box [.undef,.fresh 3 (d1.depths.map Dp.pv)],.arr 6 (d1.queue.map Rq.pv),.arr 7 (d1.flights.map Fl.pv)])):=by
 have h:=aim_eq t d id tg h0
 refine ⟨_,rfl,?_⟩
 by_cases hw : tg = 0
 ·rw [if_pos hw] at h
  left
  rw [h,show dpD d id tg = d by unfold dpD; rw [if_pos hw,<- h0]]
 ·rw [if_neg hw] at h
  right
  rw [h,show (dpD d id tg).depths = [⟨id,tg,256⟩] by unfold dpD; rw [if_neg hw]]
  rfl
set_option maxHeartbeats 8000000 in
theorem set_eq {t : Tr} {d : Dv} (h : DvOk t d) (id : Int) (s : Sg) (hk : knownN t.nodes id = true) (hs : SgOk s) (dev : Int) (h1 : d.weights = []) (h2 : d.buckets = []) (h3 : d.depths = []) : V 34 [t.vv,d.vv,.p (.int .i64 id),s.vv dev] [] = some (.tup [dvF (setE d id s) (.p (chsP d.v)),.p (.int .i64 0)],[]):=by
 refine V_wp (vf:=vf34) rfl ?_
 have hlen:=h.tree.len
 have i0:=dvalid_eq t d h.tree.fits (by omega) (ok_small h)
 rw [dvOk_iff.2 h] at i0
 have i1:=dknown_eq t id (by omega)
 rw [hk] at i1
 have i2:=checkS_eq s hs
 have i3:=open_eq t d (ok_small h)
 obtain ⟨d1,e1,w1⟩:=weigh_two t d id s.weight h1
 have hb1 : d1.buckets = []:=by rw [e1]; exact h2
 have hn1 : 0 <= d1.now /\ d1.now <= 1048576:=by rw [e1]; exact h.now
 obtain ⟨d2,e2,w2⟩:=limit_two t d1 id s 0 hb1 hs hn1
 have hd2 : d2.depths = []:=by rw [e2,e1]; exact h3
 obtain ⟨d3,e3,w3⟩:=aim_two t d2 id s.target hd2
 have hv : d3.v = d.v:=by rw [e3,e2,e1]
 have hE : setE d id s = d3:=by rw [e3,e2,e1]
 rw [hE,<- hv]
 clear e1 e2 e3 hE hv hb1 hn1 hd2
 rcases w1 with w1 | w1 <;> rcases w2 with w2 | w2 <;> rcases w3 with w3 | w3 <;> simp -implicitDefEqProofs (disch:=omega) only [vf34,vb34,i0,i1,i2,i3,w1,w2,w3,go_sem,↓reduceIte,rAz,rS,rE,rL,reduceCtorEq]
theorem filt_take {α : Type} {p : α -> Bool} {l : List α} {k : Nat} {m : α} (hm : l[k]? = some m) : ((l.take (k + 1)).filter p).length = ((l.take k).filter p).length + if p m = true then 1 else 0:=by
 rw [take_snoc hm,List.filter_append,lla]
 by_cases h : p m = true
 .rw [if_pos h,List.filter_cons_of_pos h]; rfl
 .rw [if_neg h,List.filter_cons_of_neg h]; rfl
theorem filt_le {α : Type} (p : α -> Bool) (l : List α) (k : Nat) : ((l.take k).filter p).length <= l.length:=by
 have:=List.length_filter_le p (l.take k)
 rw [llt] at this
 omega
def pendD (d : Dv) (task : Int) : Nat:=(d.queue.filter fun r=>decide (r.task = task)).length + (d.flights.filter fun f=>decide (f.r.task = task)).length
set_option maxHeartbeats 2000000 in
theorem pending_eq (d : Dv) (task : Int) (hq : d.queue.length < 1000000) (hf : d.flights.length < 1000000) : V 41 [d.vv,.p (.int .i64 task)] [] = some (.p (.int .i64 (pendD d task : Nat)),[]):=by
 refine V_wp (vf:=vf41) rfl ?_
 simp -implicitDefEqProofs (disch:=omega) only [vf41,vb41,llm,go_sem,↓reduceIte,rAz,rS,rE,rL,reduceCtorEq]
 obtain ⟨I,hI⟩ : ∃ I : Nat -> St -> Prop,∀ k s,I k s ↔ s.pe 1 = .p (.int .i64 task) /\ s.pe 2 = .ptr (.slot 2 0) 0 0 /\ s.pe 5 = .p (.int .i64 (((d.queue.take k).filter fun r=>decide (r.task = task)).length : Nat)) /\ s.pe 11 = .p (rqsP d.queue) /\ s.pe 12 = .p (.int .i64 ↑d.queue.length) /\ s.pe 13 = .p (.int .i64 k) /\ s.h (.slot 2 0) = some (0,Ob.box [.p (.int .i64 d.m.rb),.p (.int .i64 d.m.rp),.p (.int .i64 d.m.wb),.p (.int .i64 d.m.wp),.p (.int .i64 d.m.seek),.p (.int .i64 d.speed),.p (.int .i64 d.margin),.p (.int .i64 d.now),.p (.int .i64 d.free),.p (.int .i64 d.head),.p (chsP d.weights),.p (cpsP d.buckets),.p (dpsP d.depths),.p (chsP d.v),.p (rqsP d.queue),.p (flsP d.flights)]):=⟨_,fun _ _=>Iff.rfl⟩
 refine wp_count (d.queue.length) I ?_ ?_
 ·refine (hI _ _).2 ⟨?_,?_,?_,?_,?_,?_,?_⟩
  all_goals first | exact cl0 | (simp -implicitDefEqProofs (disch:=omega) only [h1,h2,h3,h4,h10,h11,h12,hh4_0,lma,go_sem,↓reduceIte,rAz,rS,rE,rL,reduceCtorEq] <;> first | (simp [mBox]; done) | (simp [mBox]; omega))
 intro k s hk hIk
 obtain ⟨h1,h2,h5,h11,h12,h13,hh2_0⟩:=(hI _ _).1 hIk
 clear hIk
 simp -implicitDefEqProofs (disch:=omega) only [h1,h2,h5,h11,h12,h13,hh2_0,go_sem,↓reduceIte,rAz,rS,rE,rL,reduceCtorEq]
 refine wp_if_d (fun hlt=>?_) (fun hge=>?_)
 ·have hm : d.queue[k]? = some d.queue[k]:=lgg hlt
  have hst:=filt_take (p:=fun r : Rq=>decide (r.task = task)) hm
  have hle:=filt_le (fun r : Rq=>decide (r.task = task)) d.queue k
  generalize d.queue[k] = r at hm hst
  generalize ((d.queue.take k).filter fun r=>decide (r.task = task)).length = c at h5 hst hle
  by_cases hr : r.task = task
  ·rw [if_pos (decide_eq_true hr)] at hst
   simp -implicitDefEqProofs (disch:=omega) only [h1,h2,h5,h11,h12,h13,hh2_0,hlt,hm,hr,go_sem,↓reduceIte,rAz,rS,rE,rL,reduceCtorEq]
   try refine And.intro (by omega) ?_
   refine (hI _ _).2 ⟨?_,?_,?_,?_,?_,?_,?_⟩
   all_goals first | exact cl0 | (simp -implicitDefEqProofs (disch:=omega) only [h1,h2,h5,h11,h12,h13,hh2_0,hst,lma,go_sem,↓reduceIte,rAz,rS,rE,rL,reduceCtorEq] <;> first | (simp [mBox]; done) | (simp [mBox]; omega))
  ·rw [if_neg (by simpa using hr)] at hst
   simp -implicitDefEqProofs (disch:=omega) only [h1,h2,h5,h11,h12,h13,hh2_0,hlt,hm,hr,go_sem,↓reduceIte,rAz,rS,rE,rL,reduceCtorEq]
   try refine And.intro (by omega) ?_
   refine (hI _ _).2 ⟨?_,?_,?_,?_,?_,?_,?_⟩
   all_goals first | exact cl0 | (simp -implicitDefEqProofs (disch:=omega) only [h1,h2,h5,h11,h12,h13,hh2_0,hst,lma,go_sem,↓reduceIte,rAz,rS,rE,rL,reduceCtorEq] <;> first | (simp [mBox]; done) | (simp [mBox]; omega))
 ·rw [ltl (by omega)] at h5
  have hqf:=List.length_filter_le (fun r : Rq=>decide (r.task = task)) d.queue
  have hP : pendD d task = (d.queue.filter fun r=>decide (r.task = task)).length + (d.flights.filter fun f=>decide (f.r.task = task)).length:=rfl
  rw [hP]
  generalize (d.queue.filter fun r=>decide (r.task = task)).length = Q at h5 hqf
  simp -implicitDefEqProofs (disch:=omega) only [h1,h2,h5,h11,h12,h13,hh2_0,hge,go_sem,↓reduceIte,rAz,rS,rE,rL,reduceCtorEq]
  obtain ⟨J,hJ⟩ : ∃ I : Nat -> St -> Prop,∀ j s,I j s ↔ s.pe 1 = .p (.int .i64 task) /\ s.pe 2 = .ptr (.slot 2 0) 0 0 /\ s.pe 5 = .p (.int .i64 ((Q + ((d.flights.take j).filter fun f=>decide (f.r.task = task)).length : Nat) : Int)) /\ s.pe 25 = .p (flsP d.flights) /\ s.pe 26 = .p (.int .i64 ↑d.flights.length) /\ s.pe 27 = .p (.int .i64 j):=⟨_,fun _ _=>Iff.rfl⟩
  refine wp_count (d.flights.length) J ?_ ?_
  ·refine (hJ _ _).2 ⟨?_,?_,?_,?_,?_,?_⟩
   all_goals first | exact cl0 | (simp -implicitDefEqProofs (disch:=omega) only [h1,h2,h5,h11,h12,h13,hh2_0,lma,go_sem,↓reduceIte,rAz,rS,rE,rL,reduceCtorEq] <;> first | (simp [mBox]; done) | (simp [mBox]; omega))
  intro j s hj hJk
  obtain ⟨h1,h2,h5,h25,h26,h27⟩:=(hJ _ _).1 hJk
  clear hJk
  simp -implicitDefEqProofs (disch:=omega) only [h1,h2,h5,h25,h26,h27,go_sem,↓reduceIte,rAz,rS,rE,rL,reduceCtorEq]
  refine wp_if_d (fun hjl=>?_) (fun hjg=>?_)
  ·have hm : d.flights[j]? = some d.flights[j]:=lgg hjl
   have hst:=filt_take (p:=fun f : Fl=>decide (f.r.task = task)) hm
   have hle:=filt_le (fun f : Fl=>decide (f.r.task = task)) d.flights j
   generalize d.flights[j] = r at hm hst
   generalize ((d.flights.take j).filter fun f=>decide (f.r.task = task)).length = c at h5 hst hle
   by_cases hr : r.r.task = task
   ·rw [if_pos (decide_eq_true hr)] at hst
    simp -implicitDefEqProofs (disch:=omega) only [h1,h2,h5,h25,h26,h27,hjl,hm,hr,go_sem,↓reduceIte,rAz,rS,rE,rL,reduceCtorEq]
    try refine And.intro (by omega) ?_
    refine (hJ _ _).2 ⟨?_,?_,?_,?_,?_,?_⟩
    all_goals first | exact cl0 | (simp -implicitDefEqProofs (disch:=omega) only [h1,h2,h5,h25,h26,h27,hst,lma,go_sem,↓reduceIte,rAz,rS,rE,rL,reduceCtorEq] <;> first | (simp [mBox]; done) | (simp [mBox]; omega))
   ·rw [if_neg (by simpa using hr)] at hst
    simp -implicitDefEqProofs (disch:=omega) only [h1,h2,h5,h25,h26,h27,hjl,hm,hr,go_sem,↓reduceIte,rAz,rS,rE,rL,reduceCtorEq]
    try refine And.intro (by omega) ?_
    refine (hJ _ _).2 ⟨?_,?_,?_,?_,?_,?_⟩
    all_goals first | exact cl0 | (simp -implicitDefEqProofs (disch:=omega) only [h1,h2,h5,h25,h26,h27,hst,lma,go_sem,↓reduceIte,rAz,rS,rE,rL,reduceCtorEq] <;> first | (simp [mBox]; done) | (simp [mBox]; omega))
  ·rw [ltl (by omega)] at h5
   simp -implicitDefEqProofs (disch:=omega) only [h1,h2,h5,h25,h26,h27,hjg,go_sem,↓reduceIte,rAz,rS,rE,rL,reduceCtorEq]
theorem loopD_go {t : Tr} {k : Nat} {d : Dv} {l : List Int} {g : Int} {r : Rq} {v : List Ch} (h1 : ¬ d.now * d.speed <= d.free) (h2 : msort (readyL t d [] d.queue) = l) (h3 : nxtA t d.v (d.now * d.speed) 0 l = g) (h4 : g ≠ 0) (h5 : firstQ d.queue g = some r)
  (h6 : IssueA t d.v g (shareD t d g) (costD d r) (d.now * d.speed) d.margin = (v,0)) : loopD t (k + 1) d = loopD t k (beginD t d g r v):=by
 rw [loopD,if_neg h1]
 simp only [h2,h3]
 rw [if_neg h4]
 simp only [h5,h6]
 rw [if_neg (by simp)]
theorem loopD_stop {t : Tr} {k : Nat} {d : Dv} (h : d.now * d.speed <= d.free) : loopD t (k + 1) d = d:=by rw [loopD,if_pos h]
theorem msort_one (x : Int) : msort [x] = [x]:=List.mergeSort_of_pairwise (by simp)
abbrev prT : Tr:=⟨[⟨1,0,⟨#[]⟩,0,0,0⟩,⟨2,1,⟨#[97]⟩,0,0,0⟩],3⟩
theorem prT_ok : TreeOk prT:=(treeOk_iff _).1 (by rfl)
abbrev rA : Rq:=⟨0,2,0,3,false,0⟩
abbrev rB : Rq:=⟨0,2,3,1,false,0⟩
abbrev mdS : Mdl:=⟨0,10,0,10,0⟩
def sD : Nat -> Dv
 | 0=>⟨mdS,10,0,0,0,0,[],[],[],[],[rA,rB],[]⟩
 | 1=>⟨mdS,10,0,1,30,3,[],[],[],[⟨2,40⟩],[rB],[⟨rA,3⟩]⟩
 | 2=>⟨mdS,10,0,2,30,3,[],[],[],[⟨2,40⟩],[rB],[⟨rA,3⟩]⟩
 | 3=>⟨mdS,10,0,3,30,3,[],[],[],[⟨2,40⟩],[rB],[]⟩
 | _=>⟨mdS,10,0,4,40,4,[],[],[],[⟨2,50⟩],[],[⟨rB,5⟩]⟩
theorem sD_ok (k : Nat) (hk : k <= 4) : DvOk prT (sD k):=by
 have h : k = 0 \/ k = 1 \/ k = 2 \/ k = 3 \/ k = 4:=by omega
 rcases h with rfl | rfl | rfl | rfl | rfl <;> exact dvOk_iff.1 (by rfl)
theorem sD_small (k : Nat) (hk : k <= 4) : (sD k).Small:=ok_small (sD_ok k hk)
theorem sD_tick0 : tickD prT (sD 0) = sD 1:=by
 unfold tickD
 have e : (sD 0).queue.length + 1 = 2 + 1:=rfl
 rw [e,loopD_go (l:=[2]) (g:=2) (r:=rA) (v:=[⟨2,40⟩]) (by decide) (by rw [show readyL prT (advD (sD 0)) [] (advD (sD 0)).queue = [2] from rfl,msort_one]) rfl (by decide) rfl rfl,show (2 : Nat) = 1 + 1 from rfl,loopD_stop (by decide)]
 rfl
theorem sD_tick1 : tickD prT (sD 1) = sD 2:=by
 unfold tickD
 rw [loopD_stop (by decide)]
 rfl
theorem sD_tick2 : tickD prT (sD 2) = sD 3:=by
 unfold tickD
 rw [loopD_stop (by decide)]
 rfl
theorem sD_tick3 : tickD prT (sD 3) = sD 4:=by
 unfold tickD
 have e : (sD 3).queue.length + 1 = 1 + 1:=rfl
 rw [e,loopD_go (l:=[2]) (g:=2) (r:=rB) (v:=[⟨2,50⟩]) (by decide) (by rw [show readyL prT (advD (sD 3)) [] (advD (sD 3)).queue = [2] from rfl,msort_one]) rfl (by decide) rfl rfl,show (1 : Nat) = 0 + 1 from rfl,loopD_stop (by decide)]
 rfl
theorem sD_tick (k : Nat) (hk : k < 4) : tickD prT (sD k) = sD (k + 1):=by
 have h : k = 0 \/ k = 1 \/ k = 2 \/ k = 3:=by omega
 rcases h with rfl | rfl | rfl | rfl
 .exact sD_tick0
 .exact sD_tick1
 .exact sD_tick2
 .exact sD_tick3
theorem pair34_eq : V 33 [] [] = some (prT.fv,[]):=by
 refine V_wp (vf:=vf33) rfl ?_
 simp -implicitDefEqProofs (disch:=omega) only [vf33,vb33,go_sem,↓reduceIte,rAz,rS,rE,rL,reduceCtorEq]
 rfl
abbrev dvC (d : Dv) : List VVal:=[.p (.int .i64 d.m.rb),.p (.int .i64 d.m.rp),.p (.int .i64 d.m.wb),.p (.int .i64 d.m.wp),.p (.int .i64 d.m.seek),.p (.int .i64 d.speed),.p (.int .i64 d.margin),.p (.int .i64 d.now),.p (.int .i64 d.free),.p (.int .i64 d.head),.p (chsP d.weights),.p (cpsP d.buckets),.p (dpsP d.depths),.p (chsP d.v),.p (rqsP d.queue),.p (flsP d.flights)]
def eD : Nat -> List Fl
 | 0 | 1 | 2=>[]
 | _=>[⟨rA,3⟩]
set_option maxHeartbeats 8000000 in
theorem sane34_eq : V 11 [] [] = some (.p (.bool true),[]):=by
 refine V_wp (vf:=vf11) rfl ?_
 have c0:=pair34_eq
 have c1:=dnew_eq mdS 10 0 (by rfl)
 have ok0 : DvOk prT (newD mdS 10 0):=dvOk_iff.1 (by rfl)
 have ok1 : DvOk prT (subD (newD mdS 10 0) rA):=dvOk_iff.1 (by rfl)
 have c2:=submit_eq prT (newD mdS 10 0) rA ok0 (ok_small ok0) (by rfl) (by rfl) (by decide)
 have c3:=submit_eq prT (subD (newD mdS 10 0) rA) rB ok1 (ok_small ok1) (by rfl) (by rfl) (by decide)
 simp only [prT,Tr.vv,Tr.fv,nodesP,lpc,lpn,Nd.pv,dvF,newD,subD,cfgV,Dv.vv,Rq.vv,chsP,cpsP,dpsP,rqsP,flsP,lna,lca,Rq.pv] at c0 c1 c2 c3
 simp -implicitDefEqProofs (disch:=omega) only [vf11,vb11,c0,c1,c2,c3,go_sem,↓reduceIte,rAz,rS,rE,rL,reduceCtorEq]
 have ht : ∀ k,k < 4 -> V 19 [prT.vv,(sD k).vv] [] = some (.tup [dvF (sD (k + 1)) (.p (chsP (sD (k + 1)).v)),.fresh 7 ((endedD (sD k)).map Fl.pv),.p (.int .i64 0)],[]):=fun k hk=>by
  have:=tick_eq (sD_ok k (by omega)) (sD_small k (by omega)) (by
   have h : k = 0 \/ k = 1 \/ k = 2 \/ k = 3:=by omega
   rcases h with rfl | rfl | rfl | rfl <;> decide)
  rw [sD_tick k hk] at this
  exact this
 have hfr : (sD 1).free = 30:=rfl
 have hq3 : (sD 3).queue.length = 1:=rfl
 have hq4 : (sD 4).queue.length = 0:=rfl
 have he : ∀ k,k < 4 -> eD k ++ endedD (sD k) = eD (k + 1) /\ (k < 2 -> (endedD (sD k)).length = 0) /\ (endedD (sD k)).length <= 1 /\ (eD k).length <= 1:=fun k hk=>by
  have h : k = 0 \/ k = 1 \/ k = 2 \/ k = 3:=by omega
  rcases h with rfl | rfl | rfl | rfl <;> exact ⟨rfl,by decide,by decide,by decide⟩
 have hp:=pending_eq (sD 4) 0 (by decide) (by decide)
 rw [show pendD (sD 4) 0 = 1 from rfl] at hp
 have hsm:=fun k hk=>sD_small k hk
 obtain ⟨I,hI⟩ : ∃ I : Nat -> St -> Prop,∀ k s,I k s ↔ ∃ (w : Nat) (acc : List Fl),acc = eD k /\ s.pe 1 = .ptr (.slot 1 0) 0 0 /\ s.pe 2 = .ptr (.slot 2 0) 0 0 /\ s.pe 3 = .p (.int .i64 0) /\ s.pe 4 = .p (.int .i64 0) /\ s.pe 5 = .p (.int .i64 0) /\ s.pe 6 = .own (.slot 6 0) w 0 acc.length /\ s.pe 7 = .p (.int .i64 k) /\ s.h (.slot 1 0) = some (0,Ob.box [.p (nodesP prT.nodes),.p (.int .i64 prT.next)]) /\ s.h (.slot 6 0) = some (w,Ob.arr 7 (acc.map Fl.pv)) /\ ∃ X,s.h (.slot 2 0) = some (0,Ob.box X) /\ X.map (fz0 [8,29,39] s.h) = dvC (sD k):=⟨_,fun _ _=>Iff.rfl⟩
 refine wp_count (4) I ?_ ?_
 ·refine (hI _ _).2 ⟨0,[],?_,?_,?_,?_,?_,?_,?_,?_,?_,?_,?_⟩
  ·rfl
  all_goals first | exact cl0 | (simp -implicitDefEqProofs (disch:=omega) only [lma,go_sem,↓reduceIte,rAz,rS,rE,rL,reduceCtorEq] <;> first | (simp [mBox]; done) | (simp [mBox]; omega)) | (simp -implicitDefEqProofs (disch:=omega) only [lma,go_sem,↓reduceIte,rAz,rS,rE,rL,reduceCtorEq] <;> (refine ⟨_,rfl,?_⟩; first | rfl | (simp -implicitDefEqProofs (disch:=omega) only [lma,go_sem,↓reduceIte,rAz,rS,rE,rL,reduceCtorEq]; done) | (simp -implicitDefEqProofs (disch:=omega) only [lma,go_sem,↓reduceIte,rAz,rS,rE,rL,reduceCtorEq]; rfl)))
 intro k s hk hIk
 obtain ⟨w,acc,hacc,h1,h2,h3,h4,h5,h6,h7,hh1_0,hh6_0,hX⟩:=(hI _ _).1 hIk
 clear hIk
 clear c0 c1 c2 c3 ok0 ok1
 have l1 : decide ((0 : Int) < 2) = true:=rfl
 have l2 : decide ((0 : Int) < ((0 : Nat) : Int)) = false:=rfl
 have l3 : decide ((2 : Int) = 0) = false:=rfl
 have l4 : decide ((3 : Int) = 0) = false:=rfl
 have l5 : decide ((3 : Int) = 2) = false:=rfl
 have l6 : decide ((3 : Int) < 2) = false:=rfl
 have l7 : decide (((1 : Nat) : Int) = 1) = true:=rfl
 have l10 : decide ((0 : Int) = 2) = false:=rfl
 have l11 : decide ((0 : Int) = 3) = false:=rfl
 have l12 : decide ((2 : Int) = 3) = false:=rfl
 have l9 : ∀ x : PV,([x] : List PV)[Int.toNat 0]? = some x:=fun _=>rfl
 have l8 : decide (((0 : Nat) : Int) = 0) = true:=rfl
 obtain ⟨T,hT⟩ : ∃ T,T = prT:=⟨_,rfl⟩
 rw [<- hT] at ht hh1_0 hI
 generalize sD = D at *
 obtain ⟨X,hh2,hX⟩:=hX
 simp -implicitDefEqProofs (disch:=omega) only [h1,h2,h3,h4,h5,h6,h7,hh1_0,hh6_0,hX,hh2,go_sem,↓reduceIte,rAz,rS,rE,rL,reduceCtorEq]
 refine wp_if_d (fun hlt=>?_) (fun hge=>?_)
 ·have hk4 : k < 4:=by omega
  have htk:=ht k hk4
  obtain ⟨he1,he2,hel,hal⟩:=he k hk4
  have hf1 : k = 0 -> decide ((D (k + 1)).free = 30) = true:=fun h=>by subst h; exact decide_eq_true hfr
  have hq1 : k = 2 -> decide (((D (k + 1)).queue.length : Int) = 1) = true:=fun h=>by subst h; rw [hq3]; rfl
  have hq2 : k = 3 -> decide (((D (k + 1)).queue.length : Int) = 0) = true:=fun h=>by subst h; rw [hq4]; rfl
  rw [<- hacc] at he1 hal
  generalize endedD (D k) = e at htk he1 he2 hel
  generalize hy : D (k + 1) = y at htk hf1 hq1 hq2
  have h : k = 0 \/ k = 1 \/ k = 2 \/ k = 3:=by omega
  rcases h with hk0 | hk0 | hk0 | hk0
  ·have a1:=hf1 hk0
   have a2 : decide ((0 : Int) < (e.length : Int)) = false:=decide_eq_false (by have:=he2 (by omega); omega)
   have b1 : (k : Int) < 2:=by omega
   have b2 : (k : Int) = 0:=by omega
   have b3 : ¬ (k : Int) = 2:=by omega
   have b4 : ¬ (k : Int) = 3:=by omega
   simp -implicitDefEqProofs (disch:=omega) only [h1,h2,h3,h4,h5,h6,h7,hh1_0,hh6_0,hX,hh2,hlt,htk,a1,a2,b1,b2,b3,b4,llm,Int.lt_irrefl,l1,l2,l3,l4,l5,l6,l7,l8,l10,l11,l12,go_sem,↓reduceIte,rAz,rS,rE,rL,reduceCtorEq]
   try refine And.intro (by omega) ?_
   refine (hI _ _).2 ⟨w + 1,acc ++ e,?_,?_,?_,?_,?_,?_,?_,?_,?_,?_,?_⟩
   .exact he1
   all_goals first | exact cl0 | (simp -implicitDefEqProofs (disch:=omega) only [h1,h2,h3,h4,h5,h6,h7,hh1_0,hh6_0,hX,hy,lma,go_sem,↓reduceIte,rAz,rS,rE,rL,reduceCtorEq] <;> first | (simp [mBox]; done) | (simp [mBox]; omega)) | (simp -implicitDefEqProofs (disch:=omega) only [h1,h2,h3,h4,h5,h6,h7,hh1_0,hh6_0,hX,hy,lma,go_sem,↓reduceIte,rAz,rS,rE,rL,reduceCtorEq] <;> (refine ⟨_,rfl,?_⟩; first | rfl | (simp -implicitDefEqProofs (disch:=omega) only [h1,h2,h3,h4,h5,h6,h7,hh1_0,hh6_0,hX,hy,lma,go_sem,↓reduceIte,rAz,rS,rE,rL,reduceCtorEq]; done) | (simp -implicitDefEqProofs (disch:=omega) only [h1,h2,h3,h4,h5,h6,h7,hh1_0,hh6_0,hX,hy,lma,go_sem,↓reduceIte,rAz,rS,rE,rL,reduceCtorEq]; rfl)))
  ·have a2 : decide ((0 : Int) < (e.length : Int)) = false:=decide_eq_false (by have:=he2 (by omega); omega)
   have b1 : (k : Int) < 2:=by omega
   have b2 : ¬ (k : Int) = 0:=by omega
   have b3 : ¬ (k : Int) = 2:=by omega
   have b4 : ¬ (k : Int) = 3:=by omega
   simp -implicitDefEqProofs (disch:=omega) only [h1,h2,h3,h4,h5,h6,h7,hh1_0,hh6_0,hX,hh2,hlt,htk,a2,b1,b2,b3,b4,llm,Int.lt_irrefl,l1,l2,l3,l4,l5,l6,l7,l8,l10,l11,l12,go_sem,↓reduceIte,rAz,rS,rE,rL,reduceCtorEq]
   try refine And.intro (by omega) ?_
   refine (hI _ _).2 ⟨w + 1,acc ++ e,?_,?_,?_,?_,?_,?_,?_,?_,?_,?_,?_⟩
   .exact he1
   all_goals first | exact cl0 | (simp -implicitDefEqProofs (disch:=omega) only [h1,h2,h3,h4,h5,h6,h7,hh1_0,hh6_0,hX,hy,lma,go_sem,↓reduceIte,rAz,rS,rE,rL,reduceCtorEq] <;> first | (simp [mBox]; done) | (simp [mBox]; omega)) | (simp -implicitDefEqProofs (disch:=omega) only [h1,h2,h3,h4,h5,h6,h7,hh1_0,hh6_0,hX,hy,lma,go_sem,↓reduceIte,rAz,rS,rE,rL,reduceCtorEq] <;> (refine ⟨_,rfl,?_⟩; first | rfl | (simp -implicitDefEqProofs (disch:=omega) only [h1,h2,h3,h4,h5,h6,h7,hh1_0,hh6_0,hX,hy,lma,go_sem,↓reduceIte,rAz,rS,rE,rL,reduceCtorEq]; done) | (simp -implicitDefEqProofs (disch:=omega) only [h1,h2,h3,h4,h5,h6,h7,hh1_0,hh6_0,hX,hy,lma,go_sem,↓reduceIte,rAz,rS,rE,rL,reduceCtorEq]; rfl)))
  ·have a1:=hq1 hk0
   have b1 : ¬ (k : Int) < 2:=by omega
   have b2 : ¬ (k : Int) = 0:=by omega
   have b3 : (k : Int) = 2:=by omega
   have b4 : ¬ (k : Int) = 3:=by omega
   simp -implicitDefEqProofs (disch:=omega) only [h1,h2,h3,h4,h5,h6,h7,hh1_0,hh6_0,hX,hh2,hlt,htk,a1,b1,b2,b3,b4,llm,lpn,lln,Int.lt_irrefl,l1,l2,l3,l4,l5,l6,l7,l8,l10,l11,l12,go_sem,↓reduceIte,rAz,rS,rE,rL,reduceCtorEq]
   try refine And.intro (by omega) ?_
   refine (hI _ _).2 ⟨w + 1,acc ++ e,?_,?_,?_,?_,?_,?_,?_,?_,?_,?_,?_⟩
   .exact he1
   all_goals first | exact cl0 | (simp -implicitDefEqProofs (disch:=omega) only [h1,h2,h3,h4,h5,h6,h7,hh1_0,hh6_0,hX,hy,lma,go_sem,↓reduceIte,rAz,rS,rE,rL,reduceCtorEq] <;> first | (simp [mBox]; done) | (simp [mBox]; omega)) | (simp -implicitDefEqProofs (disch:=omega) only [h1,h2,h3,h4,h5,h6,h7,hh1_0,hh6_0,hX,hy,lma,go_sem,↓reduceIte,rAz,rS,rE,rL,reduceCtorEq] <;> (refine ⟨_,rfl,?_⟩; first | rfl | (simp -implicitDefEqProofs (disch:=omega) only [h1,h2,h3,h4,h5,h6,h7,hh1_0,hh6_0,hX,hy,lma,go_sem,↓reduceIte,rAz,rS,rE,rL,reduceCtorEq]; done) | (simp -implicitDefEqProofs (disch:=omega) only [h1,h2,h3,h4,h5,h6,h7,hh1_0,hh6_0,hX,hy,lma,go_sem,↓reduceIte,rAz,rS,rE,rL,reduceCtorEq]; rfl)))
  ·have a1:=hq2 hk0
   have b1 : ¬ (k : Int) < 2:=by omega
   have b2 : ¬ (k : Int) = 0:=by omega
   have b3 : ¬ (k : Int) = 2:=by omega
   have b4 : (k : Int) = 3:=by omega
   simp -implicitDefEqProofs (disch:=omega) only [h1,h2,h3,h4,h5,h6,h7,hh1_0,hh6_0,hX,hh2,hlt,htk,a1,b1,b2,b3,b4,llm,lpn,lln,Int.lt_irrefl,l1,l2,l3,l4,l5,l6,l7,l8,l10,l11,l12,go_sem,↓reduceIte,rAz,rS,rE,rL,reduceCtorEq]
   try refine And.intro (by omega) ?_
   refine (hI _ _).2 ⟨w + 1,acc ++ e,?_,?_,?_,?_,?_,?_,?_,?_,?_,?_,?_⟩
   .exact he1
   all_goals first | exact cl0 | (simp -implicitDefEqProofs (disch:=omega) only [h1,h2,h3,h4,h5,h6,h7,hh1_0,hh6_0,hX,hy,lma,go_sem,↓reduceIte,rAz,rS,rE,rL,reduceCtorEq] <;> first | (simp [mBox]; done) | (simp [mBox]; omega)) | (simp -implicitDefEqProofs (disch:=omega) only [h1,h2,h3,h4,h5,h6,h7,hh1_0,hh6_0,hX,hy,lma,go_sem,↓reduceIte,rAz,rS,rE,rL,reduceCtorEq] <;> (refine ⟨_,rfl,?_⟩; first | rfl | (simp -implicitDefEqProofs (disch:=omega) only [h1,h2,h3,h4,h5,h6,h7,hh1_0,hh6_0,hX,hy,lma,go_sem,↓reduceIte,rAz,rS,rE,rL,reduceCtorEq]; done) | (simp -implicitDefEqProofs (disch:=omega) only [h1,h2,h3,h4,h5,h6,h7,hh1_0,hh6_0,hX,hy,lma,go_sem,↓reduceIte,rAz,rS,rE,rL,reduceCtorEq]; rfl)))
 ·have hk : k = 4:=by omega
  subst hk
  have ha : acc = [⟨rA,3⟩]:=hacc
  subst ha
  simp -implicitDefEqProofs (disch:=omega) only [h1,h2,h3,h4,h5,h6,h7,hh1_0,hh6_0,hX,hh2,hX,hge,hp,l7,l9,go_sem,↓reduceIte,rAz,rS,rE,rL,reduceCtorEq]
theorem issue_fine {t : Tr} {d : Dv} (h : DvOk t d) {g : Int} {r : Rq} (hr : soundR r = true) (hm : mayA t d.v g (d.now * d.speed) = true) (hs : 8 <= shareD t d g /\ shareD t d g <= 1073741824) :
  (IssueA t d.v g (shareD t d g) (costD d r) (d.now * d.speed) d.margin).2 = 0:=by
 have hb:=busy_range h
 have hc:=cost_pos h hr
 obtain ⟨_,_,hmg⟩:=configOk_iff.1 h.cfg
 unfold mayA at hm
 simp only [bat,decide_eq_true_eq] at hm
 generalize d.now * d.speed = now at *
 generalize costD d r = c at *
 generalize shareD t d g = s at *
 have hv : issueV d.v g s c now d.margin <= 1152921504606846976:=by
  unfold issueV
  have h1 : (c * 1073741824 + s - 1) / s <= (c * 1073741824 + s - 1) / 8:=by
   have:=div_mono (a:=c * 1073741824 + s - 1) (b:=c * 1073741824 + s - 1) (W:=8) (W':=s) (by omega) (Int.le_refl _) (by omega) hs.1
   exact this
  omega
 unfold IssueA
 rw [if_pos hm.1.1,if_pos hm.1.2,if_pos ⟨⟨by omega,hs.2⟩,⟨hc.1,by omega⟩,⟨hb.1,by omega⟩,hmg⟩,if_neg (by omega),if_neg (by omega)]
theorem newD_ok {t : Tr} (h : TreeOk t) {m : Mdl} {speed margin : Int} (hc : configOk m speed margin = true) : DvOk t (newD m speed margin) :=
 ⟨h,hc,by simp,by simp,by simp,(ascOk_iff _ _ _ _).1 rfl,rfl,(ascOk_iff _ _ _ _).1 rfl,by simp,rfl,by simp,rfl⟩
def undF (t : Tr) (fs : List Fl) (id : Int) : Nat:=(fs.filter fun f=>decide (id ∈ ancF t.nodes t.nodes.length f.r.group)).length
theorem undF_cons (t : Tr) (f : Fl) (l : List Fl) (id : Int) : undF t (f :: l) id = (if id ∈ ancF t.nodes t.nodes.length f.r.group then 1 else 0) + undF t l id:=by
 unfold undF
 rw [lfl]
 split
 ·rename_i hc
  rw [if_pos (by simpa using hc),llc]; omega
 ·rename_i hc
  rw [if_neg (by simpa using hc)]; omega
theorem cntF_cons (f : Fl) (l : List Fl) (x : Int) : cntF (f :: l) x = (if f.r.group = x then 1 else 0) + cntF l x:=by
 unfold cntF
 rw [lfl]
 split
 ·rename_i hc
  rw [if_pos (by simpa using hc),llc]; omega
 ·rename_i hc
  rw [if_neg (by simpa using hc)]; omega
theorem sumI_ind {S : List Int} (hS : S.Nodup) (g : Int) : sumI (S.map fun x=>if g = x then 1 else 0) = if g ∈ S then 1 else 0:=by
 induction S with
 | nil=>rfl
 | cons y S ih =>
  rw [List.nodup_cons] at hS
  simp only [lpc,sumI,ih hS.2,lmk]
  by_cases h1 : g = y
  ·subst h1
   rw [if_pos rfl,if_neg hS.1,if_pos (.inl rfl)]
   rfl
  ·rw [if_neg h1]
   by_cases h2 : g ∈ S
   .rw [if_pos h2,if_pos (.inr h2)]; rfl
   .rw [if_neg h2,if_neg (by simp [h1,h2])]; rfl
theorem sumI_add {f g : Int -> Int} : ∀ l : List Int,sumI (l.map fun x=>f x + g x) = sumI (l.map f) + sumI (l.map g)
 | []=>rfl
 | x :: l=>by simp only [lpc,sumI,sumI_add l]; omega
theorem sumF_und {t : Tr} (h : TreeOk t) {i : Nat} {n : Nd} (hn : t.nodes[i]? = some n) : ∀ (fs : List Fl),(∀ f ∈ fs,knownN t.nodes f.r.group = true) -> sumF t fs n.id = (undF t fs n.id : Int)
 | [],_=>by
  unfold sumF
  have e : cntF [] = fun _=>0:=rfl
  rw [e,sumI_const0]
  rfl
 | f :: fs,hk=>by
  have ih:=sumF_und h hn fs fun x hx=>hk x (lmc _ hx)
  have hnd:=nodup_subF h t.nodes.length i n hn (by omega)
  have e : cntF (f :: fs) = fun x=>(if f.r.group = x then 1 else 0) + cntF fs x:=funext fun x=>cntF_cons f fs x
  unfold sumF at ih ⊢
  rw [e,sumI_add,sumI_ind hnd,ih,undF_cons]
  have hm : f.r.group ∈ subF t.nodes t.nodes.length n.id ↔ n.id ∈ ancF t.nodes t.nodes.length f.r.group:=by
   rw [mem_subF h t.nodes.length i n hn (by omega)]
   constructor
   ·rintro ⟨j,m,_,hm,ha⟩
    rw [<- hm]; exact ha
   ·intro ha
    obtain ⟨m,hm,hid⟩:=findN_some (hk f (lms ..))
    obtain ⟨j,hj⟩:=lgm hm
    exact ⟨j,m,hj,hid,by rw [hid]; exact ha⟩
  by_cases hg : n.id ∈ ancF t.nodes t.nodes.length f.r.group
  .rw [if_pos (hm.2 hg),if_pos hg]; omega
  .rw [if_neg (fun hx=>hg (hm.1 hx)),if_neg hg]; omega
where
 sumI_const0 : ∀ {l : List Int},sumI (l.map fun _=>(0 : Int)) = 0:=by
  intro l
  induction l with
  | nil=>rfl
  | cons x l ih=>simp only [lpc,sumI,ih]; omega
abbrev mdZ : Mdl:=⟨0,0,0,0,0⟩
abbrev limD (q : List Rq) : Dv:=⟨mdZ,1000000,1073741824,0,0,0,[],[⟨2,newB 1 4096 0,newB maxR 4096 0,newB maxR 0 0,newB maxR 0 0⟩],[],[],q,[]⟩
def rqL (n : Int) (i : Nat) : Rq:=⟨0,1 + (i : Int) % 2,i,n,false,0⟩
def qL (n : Int) (k : Nat) : List Rq:=(List.range k).map (rqL n)
def cnt2 (l : List Rq) : Nat:=(l.filter fun r=>decide (r.group = 2)).length
def cntF2 (l : List Fl) : Nat:=(l.filter fun f=>decide (f.r.group = 2)).length
theorem qL_len (n : Int) (k : Nat) : (qL n k).length = k:=by simp [qL]
theorem qL_succ (n : Int) (k : Nat) : qL n (k + 1) = qL n k ++ [rqL n k]:=by simp [qL,List.range_succ]
theorem cnt2_qL (n : Int) : ∀ k : Nat,cnt2 (qL n k) = k / 2
 | 0=>rfl
 | k + 1=>by
  have ih:=cnt2_qL n k
  unfold cnt2 at ih ⊢
  rw [qL_succ,List.filter_append,lla,ih]
  by_cases h : k % 2 = 1
  ·have hg : (rqL n k).group = 2:=by simp only [rqL]; omega
   rw [List.filter_cons_of_pos (by simpa using hg)]
   simp
   omega
  ·have hg : ¬ (rqL n k).group = 2:=by simp only [rqL]; omega
   rw [List.filter_cons_of_neg (by simpa using hg)]
   simp
   omega
theorem rqL_sound {n : Int} (hn : 1 <= n /\ n <= 4096) {i : Nat} (hi : i < 256) : soundR (rqL n i) = true:=by
 rw [soundR_iff]
 simp only [rqL]
 omega
theorem rqL_group (n : Int) (i : Nat) : (rqL n i).group = 1 \/ (rqL n i).group = 2:=by
 simp only [rqL]
 omega
theorem rqL_known (n : Int) (i : Nat) : knownN prT.nodes (rqL n i).group = true:=by
 rcases rqL_group n i with h | h <;> rw [h] <;> rfl
theorem limD_ok {n : Int} (hn : 1 <= n /\ n <= 4096) {k : Nat} (hk : k <= 256) : DvOk prT (limD (qL n k)):=by
 refine ⟨prT_ok,by rfl,by simp,by simp,by simp,(ascOk_iff _ _ _ _).1 rfl,rfl,(ascOk_iff _ _ _ _).1 rfl,?_,by rfl,fun r hr=>?_,rfl⟩
 ·show (qL n k).length + 0 <= 256
  rw [qL_len]
  omega
 ·obtain ⟨i,hi,rfl⟩:=lmm.1 hr
  exact ⟨rqL_sound hn (by have:=List.mem_range.1 hi; omega),rqL_known n i⟩
structure LimI (n : Int) (x : Dv) : Prop where
 ok : DvOk prT x
 m : x.m = mdZ
 now : x.now = 1
 speed : x.speed = 1000000
 margin : x.margin = 1073741824
 w : x.weights = []
 dp : x.depths = []
 len : x.queue.length + x.flights.length = 256
 free : x.free = x.flights.length
 q : ∀ r ∈ x.queue,r.pages = n /\ r.write = false /\ (r.group = 1 \/ r.group = 2)
 cnt : cnt2 x.queue + cntF2 x.flights = 128
 v : ∀ g,ownC x.v g <= x.flights.length
 room : n * (cntF2 x.flights : Int) <= 4096
 bk : x.buckets = [⟨2,⟨1,100,4096,409600 - 100 * (n * (cntF2 x.flights : Int)),1⟩,newB maxR 4096 1,newB maxR 0 1,newB maxR 0 1⟩]
theorem newB_adv (l : Int) : advB (newB maxR l 0) 1 = newB maxR l 1:=by
 unfold advB newB
 rw [if_pos rfl,if_pos rfl,if_pos rfl]
theorem lim_start {n : Int} (hn : 1 <= n /\ n <= 4096) : LimI n (advD (limD (qL n 256))) where
 ok:=advD_ok (limD_ok hn (lrf _)) (by show (0 : Int) < 1048576; decide)
 m := rfl
 now:=rfl
 speed:=rfl
 margin:=rfl
 w := rfl
 dp:=rfl
 len:=by show (qL n 256).length + 0 = 256; rw [qL_len]
 free:=rfl
 q := fun r hr=>by
  obtain ⟨i,_,rfl⟩:=lmm.1 (show r ∈ (List.range 256).map (rqL n) from hr)
  exact ⟨rfl,rfl,rqL_group n i⟩
 cnt:=by
  show cnt2 (qL n 256) + 0 = 128
  rw [cnt2_qL]
 v := fun g=>by show ownC [] g <= 0; exact Int.le_refl _
 room:=by show n * 0 <= 4096; omega
 bk:=by
  show [advC 1 ⟨2,newB 1 4096 0,newB maxR 4096 0,newB maxR 0 0,newB maxR 0 0⟩] = _
  unfold advC
  rw [newB_adv,newB_adv]
  have e : advB (newB 1 4096 0) 1 = ⟨1,100,4096,409600 - 100 * (n * ((cntF2 [] : Nat) : Int)),1⟩:=by
   have e0 : n * ((cntF2 [] : Nat) : Int) = 0:=Int.mul_zero n
   rw [e0]
   rfl
  show [(⟨2,advB (newB 1 4096 0) 1,newB maxR 4096 1,newB maxR 0 1,newB maxR 0 1⟩ : Cp)] = _
  rw [e]
  rfl
theorem ownC_put (a : List Ch) (id v x : Int) : ownC (putA a id v) x = if x = id then v else ownC a x:=by
 unfold putA
 rw [withGo_own]
 simp
theorem issue_val {t : Tr} {a : List Ch} {id share cost now margin : Int} {v : List Ch} (h : IssueA t a id share cost now margin = (v,0)) : v = putA a id (issueV a id share cost now margin):=by
 unfold IssueA at h
 repeat' split at h
 all_goals simp only [pmi] at h
 all_goals first | exact h.1.symm | (exfalso; have:=h.2; omega)
theorem lim_share {n : Int} {x : Dv} (h : LimI n x) {g : Int} {r : Rq} (hq : firstQ x.queue g = some r) : shareD prT x g = 1073741824:=by
 obtain ⟨hm,hg⟩:=firstQ_mem hq
 have hact : g ∈ actL x:=by
  unfold actL
  rw [<- hg]
  exact List.mem_append_left _ (List.mem_map_of_mem hm)
 unfold shareD
 rw [h.w]
 rcases (h.q r hm).2.2 with e | e
 ·rw [<- hg,e]
  exact shr_root prT prT_ok _ _
 ·have h2 : onB prT (actL x) 2 = true:=by
   unfold onB
   rw [List.any_eq_true]
   exact ⟨g,hact,by rw [<- hg,e]; rfl⟩
  have hs:=shr_step prT_ok (wtOf []) (onB prT (actL x)) (i:=1) (n:=⟨2,1,⟨#[97]⟩,0,0,0⟩) rfl (by decide)
  simp only [h2,if_true,shr_root prT prT_ok] at hs
  have hW : sumW prT (wtOf []) (onB prT (actL x)) 1 = 100:=by
   unfold sumW
   rw [show kidsN prT.nodes 1 = [2] from rfl,List.filter_cons_of_pos h2]
   rfl
  rw [hW] at hs
  rw [<- hg,e,hs]
  rfl
theorem lim_cost {n : Int} {x : Dv} (h : LimI n x) (r : Rq) : costD x r = 1:=by
 unfold costD costR
 rw [h.m]
 split <;> split <;> simp <;> rfl
theorem cnt2_rem {g : Int} : ∀ {l : List Rq} {r : Rq},firstQ l g = some r -> cnt2 (remQ l g) + (if g = 2 then 1 else 0) = cnt2 l
 | [],_,h=>by cases h
 | x :: l,r,h=>by
  unfold firstQ at h
  unfold remQ cnt2
  by_cases hx : x.group = g
  ·rw [if_pos hx]
   by_cases h2 : g = 2
   ·rw [if_pos h2,List.filter_cons_of_pos (by simp [hx,h2])]; rfl
   ·rw [if_neg h2,List.filter_cons_of_neg (by simp [hx,h2])]; rfl
  ·rw [if_neg hx] at h ⊢
   have ih:=cnt2_rem h
   unfold cnt2 at ih
   by_cases h2 : x.group = 2
   ·rw [List.filter_cons_of_pos (by simp [h2]),List.filter_cons_of_pos (by simp [h2]),llc,llc]
    omega
   ·rw [List.filter_cons_of_neg (by simp [h2]),List.filter_cons_of_neg (by simp [h2])]
    exact ih
theorem cntF2_ins (l : List Fl) (f : Fl) : cntF2 (insF l f) = cntF2 l + if f.r.group = 2 then 1 else 0:=by
 have h:=congrArg cntF2 (List.takeWhile_append_dropWhile (p:=fun x : Fl=>decide (x.done <= f.done)) (l:=l))
 unfold cntF2 at h ⊢
 unfold insF
 rw [List.filter_append,lla] at h ⊢
 by_cases h2 : f.r.group = 2
 ·rw [if_pos h2,List.filter_cons_of_pos (by simp [h2]),llc]
  omega
 ·rw [if_neg h2,List.filter_cons_of_neg (by simp [h2])]
  omega
theorem cntF2_le (l : List Fl) : cntF2 l <= l.length:=List.length_filter_le _ _
theorem undF_le (t : Tr) (fs : List Fl) (id : Int) : undF t fs id <= fs.length:=List.length_filter_le _ _
theorem lim_allow {n : Int} {x : Dv} (h : LimI n x) {r : Rq} (hr : r ∈ x.queue) : allowF prT x.depths x.flights r.group = true:=by
 have hl:=h.len
 have hpos : 0 < x.queue.length:=List.length_pos_of_mem hr
 have hkn : ∀ f ∈ x.flights,knownN prT.nodes f.r.group = true:=fun f hf=>((flOk_iff.1 h.ok.fl).1 f hf).1.2
 have key : ∀ (i : Nat) (nd : Nd),prT.nodes[i]? = some nd -> sumF prT x.flights nd.id < 256:=fun i nd hn=>by
  have:=sumF_und prT_ok hn x.flights hkn
  have:=undF_le prT x.flights nd.id
  omega
 unfold allowF
 rw [List.all_eq_true]
 intro g hg
 have hgc : g = 1 \/ g = 2:=by
  rcases (h.q r hr).2.2 with e | e
  ·rw [e,show ancF prT.nodes prT.nodes.length 1 = [1] from rfl] at hg
   simp at hg
   exact .inl hg
  ·rw [e,show ancF prT.nodes prT.nodes.length 2 = [2,1] from rfl] at hg
   simp at hg
   omega
 rw [h.dp]
 have hd : ∀ g,(getD [] g).depth = 256:=fun _=>rfl
 rw [hd]
 rcases hgc with rfl | rfl
 .exact decide_eq_true (key 0 ⟨1,0,⟨#[]⟩,0,0,0⟩ rfl)
 .exact decide_eq_true (key 1 ⟨2,1,⟨#[97]⟩,0,0,0⟩ rfl)
theorem lim_tok {n : Int} {f2 : Nat} (l : Int) (hl : l = 409600 - 100 * (n * (f2 : Int))) : tokB ⟨1,100,4096,l,1⟩ = 4096 - n * (f2 : Int):=by
 unfold tokB
 rw [if_neg (by show ¬ (1 : Int) = maxR; decide)]
 show l / 100 = _
 omega
theorem inf_tok (least : Int) : tokB (newB maxR least 1) = 1073741824:=by
 unfold tokB newB
 rw [if_pos rfl,if_pos rfl]
theorem lim_pass {n : Int} {x : Dv} (h : LimI n x) {r : Rq} (hr : r ∈ x.queue) : passD prT x r = true ↔ (r.group = 2 -> n * (cntF2 x.flights : Int) + n <= 4096):=by
 obtain ⟨hp,hw,hg⟩:=h.q r hr
 unfold passD
 rw [lim_allow h hr,bta,h.bk]
 rcases hg with e | e
 ·rw [e,show ancF prT.nodes prT.nodes.length 1 = [1] from rfl]
  simp [roomC,capOf]
 ·rw [e,show ancF prT.nodes prT.nodes.length 2 = [2,1] from rfl]
  have h1:=lim_tok (n:=n) (f2:=cntF2 x.flights) _ rfl
  have h2:=inf_tok 0
  simp only [List.all_cons,List.all_nil,roomC,capOf,if_true,hw,kpB,koB,bft,if_false,hp,h1,h2,show ¬ (2 : Int) = 1 by decide,bau,bat,decide_eq_true_eq]
  constructor
  ·intro h _; omega
  ·intro h
   have:=h trivial
   omega
theorem lim_step {n : Int} (hn : 1 <= n /\ n <= 4096) {x : Dv} (h : LimI n x) {g : Int} {r : Rq} {v : List Ch} (st : StepD prT x g r v) : LimI n (beginD prT x g r v):=by
 obtain ⟨hm,hg⟩:=firstQ_mem st.first
 obtain ⟨hp,hw,hgr⟩:=h.q r hm
 have hlen:=h.len
 have hrl:=remQ_len st.first
 have hc2:=cnt2_rem st.first
 have hci:=cntF2_ins x.flights ⟨r,doneD x r⟩
 have hcn:=h.cnt
 have hpass : passD prT x r = true:=by
  have h0:=st.pos
  rw [st.next] at h0
  obtain ⟨r',h1,h2⟩:=next_first h0
  rw [<- st.next,st.first] at h1
  cases h1
  exact h2
 have hroom:=(lim_pass h hm).1 hpass
 have hcost:=lim_cost h r
 have hfree : freeD x r = x.flights.length + 1:=by
  unfold freeD
  rw [hcost,h.free,h.now,h.speed]
  omega
 have hrm:=h.room
 refine ⟨step_ok h.ok st,h.m,h.now,h.speed,h.margin,h.w,h.dp,?_,?_,fun y hy=>h.q y ((remQ_sub g x.queue).subset hy),?_,fun y=>?_,?_,?_⟩
 ·show (remQ x.queue g).length + (insF x.flights _).length = 256
  rw [insF_len]
  omega
 ·show freeD x r = (insF x.flights _).length
  rw [hfree,insF_len]
  omega
 ·show cnt2 (remQ x.queue g) + cntF2 (insF x.flights _) = 128
  rw [hci]
  simp only
  rw [hg]
  by_cases h2 : g = 2
  ·rw [if_pos h2] at hc2 ⊢
   omega
  ·rw [if_neg h2] at hc2 ⊢
   omega
 ·show ownC v y <= (insF x.flights _).length
  have hi:=st.issue
  rw [lim_share h st.first,hcost] at hi
  rw [issue_val hi,ownC_put,insF_len]
  have h1:=h.v y
  have h2:=h.v g
  split
  ·unfold issueV
   rw [h.now,h.speed,h.margin]
   have : ((1 : Int) * 1073741824 + 1073741824 - 1) / 1073741824 = 1:=by decide
   rw [this]
   omega
  ·omega
 ·show n * (cntF2 (insF x.flights _) : Int) <= 4096
  rw [hci]
  simp only
  by_cases h2 : r.group = 2
  ·rw [if_pos h2]
   have:=hroom h2
   rw [Int.natCast_add,Int.mul_add]
   omega
  ·rw [if_neg h2]
   exact hrm
 ·show spendD prT x.buckets r = _
  show spendD prT x.buckets r = [⟨2,⟨1,100,4096,409600 - 100 * (n * (cntF2 (insF x.flights ⟨r,doneD x r⟩) : Int)),1⟩,newB maxR 4096 1,newB maxR 0 1,newB maxR 0 1⟩]
  rw [hci,h.bk]
  simp only
  unfold spendD
  rcases hgr with e | e
  ·rw [e,show ancF prT.nodes prT.nodes.length 1 = [1] from rfl,if_neg (by decide)]
   simp [setC]
  ·rw [e,show ancF prT.nodes prT.nodes.length 2 = [2,1] from rfl,if_pos rfl]
   have hr2:=hroom e
   have ht : takB ⟨1,100,4096,409600 - 100 * (n * (cntF2 x.flights : Int)),1⟩ n = ⟨1,100,4096,409600 - 100 * (n * ((cntF2 x.flights + 1 : Nat) : Int)),1⟩:=by
    unfold takB
    rw [if_neg (by show ¬ (1 : Int) = maxR; decide)]
    simp only
    rw [if_neg (by omega)]
    rw [Int.natCast_add,Int.mul_add]
    congr 1
    omega
   have hinf : takB (newB maxR 0 1) 1 = newB maxR 0 1:=by
    unfold takB newB
    rw [if_pos rfl,if_pos rfl]
   simp only [List.foldl_cons,List.foldl_nil,setC,if_true,spendC,hw,bft,if_false,hp,ht,hinf,show ¬ (2 : Int) = 1 by decide]
theorem firstQ_some {g : Int} : ∀ {l : List Rq} {r : Rq},r ∈ l -> r.group = g -> ∃ r',firstQ l g = some r'
 | x :: l,r,hr,hg=>by
  unfold firstQ
  by_cases hx : x.group = g
  ·exact ⟨x,by rw [if_pos hx]⟩
  ·rw [if_neg hx]
   rcases lmk.1 hr with rfl | hr
   .exact absurd hg hx
   .exact firstQ_some hr hg
theorem lim_may {n : Int} {x : Dv} (h : LimI n x) {g : Int} {r : Rq} (hq : firstQ x.queue g = some r) : mayA prT x.v g (x.now * x.speed) = true:=by
 obtain ⟨hm,hg⟩:=firstQ_mem hq
 have hkn:=(h.ok.q r hm).2
 rw [hg] at hkn
 have hv:=h.v g
 have hl:=h.len
 unfold mayA checkA
 rw [(ascOk_iff _ _ _ _).2 h.ok.v,(treeOk_iff prT).2 prT_ok,hkn,h.now,h.speed]
 simp only [bau,bta,decide_eq_true_eq]
 omega
theorem lim_end {n : Int} (hn : 1 <= n /\ n <= 4096) {x : Dv} (h : LimI n x) (he : EndD prT x) : (cntF2 x.flights : Int) = min (4096 / n) 128:=by
 have hl:=h.len
 have hcn:=h.cnt
 have hrm:=h.room
 have hz : nxtA prT x.v (x.now * x.speed) 0 (msort (readyL prT x [] x.queue)) = 0:=by
  rcases he with e | e | e | ⟨r,e1,e2⟩
  ·rw [h.now,h.speed,h.free] at e
   omega
  ·exact e
  ·by_cases h0 : nxtA prT x.v (x.now * x.speed) 0 (msort (readyL prT x [] x.queue)) = 0
   ·exact h0
   ·obtain ⟨r,h1,_⟩:=next_first h0
    rw [e] at h1
    cases h1
  ·by_cases h0 : nxtA prT x.v (x.now * x.speed) 0 (msort (readyL prT x [] x.queue)) = 0
   .exact h0
   .exact absurd (issue_fine h.ok (h.ok.q r (firstQ_mem e1).1).1 (nxt_mem h0).2 (by rw [lim_share h e1]; decide)) e2
 have hno : ∀ g r,firstQ x.queue g = some r -> ¬ passD prT x r = true:=fun g r hq hp=>by
  have hin : g ∈ readyL prT x [] x.queue:=mem_readyL.2 ⟨by simp,r,hq,hp⟩
  have:=nxt_zero hz g (mem_msort.2 hin)
  rw [lim_may h hq] at this
  cases this
 by_cases h2 : ∃ r ∈ x.queue,r.group = 2
 ·obtain ⟨r0,hr0,hg0⟩:=h2
  obtain ⟨r,hq⟩:=firstQ_some hr0 hg0
  obtain ⟨hm,hg⟩:=firstQ_mem hq
  have hnp:=hno 2 r hq
  rw [lim_pass h hm] at hnp
  have hb : 4096 < n * (cntF2 x.flights : Int) + n:=by
   by_cases hc : n * (cntF2 x.flights : Int) + n <= 4096
   .exact absurd (fun _=>hc) hnp
   .omega
  have hd : 4096 / n = (cntF2 x.flights : Int):=by
   have h1 : 4096 = n * (cntF2 x.flights : Int) + (4096 - n * (cntF2 x.flights : Int)):=by omega
   rw [h1,Int.add_comm,Int.add_mul_ediv_left _ _ (by omega),Int.ediv_eq_zero_of_lt (by omega) (by omega)]
   omega
  rw [hd]
  omega
 ·have hc0 : cnt2 x.queue = 0:=by
   unfold cnt2
   rw [List.length_eq_zero_iff,List.filter_eq_nil_iff]
   intro r hr hd
   exact h2 ⟨r,hr,by simpa using hd⟩
  have hf : (cntF2 x.flights : Int) = 128:=by omega
  rw [hf] at hrm ⊢
  have : 128 <= 4096 / n:=by
   rw [Int.le_ediv_iff_mul_le (by omega)]
   omega
  omega
theorem lim_final {n : Int} (hn : 1 <= n /\ n <= 4096) : LimI n (tickD prT (limD (qL n 256))) /\ (cntF2 (tickD prT (limD (qL n 256))).flights : Int) = min (4096 / n) 128:=by
 have h:=loopD_ind (t:=prT) (P:=LimI n) (fun x g r v hp st=>lim_step hn hp st) ((limD (qL n 256)).queue.length + 1) (advD (limD (qL n 256))) (lim_start hn)
 exact ⟨h,lim_end hn h (tickD_end prT _)⟩
set_option maxHeartbeats 1000000 in
theorem submit_full (t : Tr) (d : Dv) (r : Rq) (h : DvOk t d) (hs : d.Small) (hr : soundR { r with time:=0 } = true) (hk : knownN t.nodes r.group = true) (hl : d.queue.length + d.flights.length = 256) : V 17 [t.vv,d.vv,r.vv] [] = some (.tup [dvF (newD mdZ 0 0) (.fresh 2 []),.p (.int .i64 7)],[]):=by
 refine V_wp (vf:=vf17) rfl ?_
 have i0:=check_eq t d r h hs hr hk
 have hn : (d.queue.length : Int) + d.flights.length = 256:=by omega
 simp -implicitDefEqProofs (disch:=omega) only [vf17,vb17,llm,i0,hn,go_sem,↓reduceIte,rAz,rS,rE,rL,reduceCtorEq]
 rfl
theorem cntF2_take {l : List Fl} {k : Nat} {m : Fl} (hm : l[k]? = some m) : cntF2 (l.take (k + 1)) = cntF2 (l.take k) + if m.r.group = 2 then 1 else 0:=by
 unfold cntF2
 rw [filt_take hm]
 by_cases h : m.r.group = 2
 .rw [if_pos (decide_eq_true h),if_pos h]
 .rw [if_neg (by simpa using h),if_neg h]
abbrev sgL : Sg:=⟨100,1,maxR,maxR,maxR,0⟩
theorem sgL_ok : SgOk sgL:=⟨by decide,.inl (by decide),.inr rfl,.inr rfl,.inr rfl,by decide⟩
set_option maxHeartbeats 8000000 in
theorem deviceLimits_eq (n0 : Int) : V 7 [.p (.int .i64 n0)] [] = some (.p (.bool true),[]):=by
 refine V_wp (vf:=vf7) rfl ?_
 have c0:=pair34_eq
 have hro : V 12 [.p (.slice 1 [.int .i64 n0])] [] = some (.boxed [.p (.slice 1 [.int .i64 n0]),.p (.int .i64 0)],[]):=roll_eq [n0]
 have hnx : V 16 [.ptr (.arg 0 0) 0 0,.p (.int .i64 4096)] [.box [.p (.slice 1 [.int .i64 n0]),.p (.int .i64 0)]] = some (.p (.int .i64 (nextV [n0] 0 4096)),[.box [.p (.slice 1 [.int .i64 n0]),.p (.int .i64 (nextA [n0] 0 4096))]]):=next_eq [n0] 0 4096 (by show (1 : Nat) < _; decide) (by omega)
 have n1:=nextV_nonneg [n0] 0 4096
 have n2:=nextV_lt [n0] 0 (n:=4096) (by omega)
 generalize nextV [n0] 0 4096 = v at hnx n1 n2
 generalize nextA [n0] 0 4096 = av at hnx
 obtain ⟨n,hnv⟩ : ∃ n,n = 1 + v:=⟨_,rfl⟩
 have hn : 1 <= n /\ n <= 4096:=by omega
 have c1:=dnew_eq mdZ 1000000 1073741824 (by rfl)
 have okN : DvOk prT (newD mdZ 1000000 1073741824):=newD_ok prT_ok (by rfl)
 have c2:=set_eq okN 2 sgL (by rfl) sgL_ok 0 rfl rfl rfl
 have hS : setE (newD mdZ 1000000 1073741824) 2 sgL = limD (qL n 0):=rfl
 rw [hS] at c2
 have hsub : ∀ k,k < 256 -> V 17 [prT.vv,(limD (qL n k)).vv,.agg [.p (.int .i64 0),.p (.int .i64 (1 + (k : Int) % 2)),.p (.int .i64 k),.p (.int .i64 n),.p (.bool false),.p (.int .i64 0)]] [] = some (.tup [dvF (limD (qL n (k + 1))) (.p (chsP (limD (qL n (k + 1))).v)),.p (.int .i64 0)],[]):=fun k hk=>by
  have ok:=limD_ok hn (k:=k) (by omega)
  have:=submit_eq prT (limD (qL n k)) (rqL n k) ok (ok_small ok) (rqL_sound hn hk) (rqL_known n k) (by show (qL n k).length + 0 < 256; rw [qL_len]; omega)
  rw [show subD (limD (qL n k)) (rqL n k) = limD (qL n (k + 1)) by rw [show limD (qL n (k + 1)) = limD (qL n k ++ [rqL n k]) by rw [qL_succ]]; rfl] at this
  exact this
 have okF:=limD_ok hn (lrf 256)
 have hfull:=submit_full prT (limD (qL n 256)) ⟨0,1,0,1,false,0⟩ okF (ok_small okF) (by rfl) (by rfl) (by show (qL n 256).length + 0 = 256; rw [qL_len])
 have htick:=tick_eq okF (ok_small okF) (by show (0 : Int) < 1048576; decide)
 obtain ⟨hLim,hcnt⟩:=lim_final hn
 have hv0 : chsP (newD mdZ 1000000 1073741824).v = PV.slice 2 []:=rfl
 have hlen:=hLim.len
 generalize tickD prT (limD (qL n 256)) = z at htick hLim hcnt hlen
 generalize endedD (limD (qL n 256)) = e at htick
 obtain ⟨D,hD⟩ : ∃ D : Nat -> Dv,∀ k,D k = limD (qL n k):=⟨fun k=>limD (qL n k),fun _=>rfl⟩
 have hsub' : ∀ k,k < 256 -> V 17 [prT.vv,(D k).vv,.agg [.p (.int .i64 0),.p (.int .i64 (1 + (k : Int) % 2)),.p (.int .i64 k),.p (.int .i64 n),.p (.bool false),.p (.int .i64 0)]] [] = some (.tup [dvF (D (k + 1)) (.p (chsP (D (k + 1)).v)),.p (.int .i64 0)],[]):=fun k hk=>by
  rw [hD,hD]
  exact hsub k hk
 rw [<- hD 256] at hfull htick
 clear hsub
 have c2' : V 34 [prT.vv,(newD mdZ 1000000 1073741824).vv,.p (.int .i64 2),sgL.vv 0] [] = some (.tup [dvF (D 0) (.p (chsP (D 0).v)),.p (.int .i64 0)],[]):=by
  rw [hD]
  exact c2
 clear c2
 simp only [Tr.vv,Tr.fv,nodesP,lpc,lpn,Nd.pv] at c0
 simp only [prT,newD,sgL,Tr.vv,Dv.vv,cfgV,Sg.vv,chsP,cpsP,dpsP,rqsP,flsP,nodesP,lpc,lpn,Nd.pv,dvF] at c2'
 simp -implicitDefEqProofs (disch:=omega) only [vf7,vb7,c0,hro,hnx,<- hnv,c1,c2',go_sem,↓reduceIte,rAz,rS,rE,rL,reduceCtorEq]
 obtain ⟨I,hI⟩ : ∃ I : Nat -> St -> Prop,∀ k s,I k s ↔ s.pe 0 = .p (.int .i64 n) /\ s.pe 3 = .ptr (.slot 3 0) 0 0 /\ s.pe 4 = .ptr (.slot 4 0) 0 0 /\ s.pe 5 = .p (.int .i64 0) /\ s.pe 6 = .p (.int .i64 0) /\ s.pe 7 = .p (.int .i64 k) /\ s.h (.slot 3 0) = some (0,Ob.box [.p (nodesP prT.nodes),.p (.int .i64 prT.next)]) /\ ∃ X,s.h (.slot 4 0) = some (0,Ob.box X) /\ X.map (fz0 [8,32,48] s.h) = dvC (D k):=⟨_,fun _ _=>Iff.rfl⟩
 refine wp_count (256) I ?_ ?_
 ·refine (hI _ _).2 ⟨?_,?_,?_,?_,?_,?_,?_,?_⟩
  all_goals first | exact cl0 | (simp -implicitDefEqProofs (disch:=omega) only [lma,go_sem,↓reduceIte,rAz,rS,rE,rL,reduceCtorEq] <;> first | (simp [mBox]; done) | (simp [mBox]; omega)) | (simp -implicitDefEqProofs (disch:=omega) only [lma,go_sem,↓reduceIte,rAz,rS,rE,rL,reduceCtorEq] <;> (refine ⟨_,rfl,?_⟩; first | rfl | (simp -implicitDefEqProofs (disch:=omega) only [lma,go_sem,↓reduceIte,rAz,rS,rE,rL,reduceCtorEq]; done) | (simp -implicitDefEqProofs (disch:=omega) only [lma,go_sem,↓reduceIte,rAz,rS,rE,rL,reduceCtorEq]; rfl)))
 intro k s hk hIk
 obtain ⟨h0,h3,h4,h5,h6,h7,hh3_0,hX⟩:=(hI _ _).1 hIk
 clear hIk
 clear c0 c1 c2' okN hS hro hnx hD
 obtain ⟨T,hT⟩ : ∃ T,T = prT:=⟨_,rfl⟩
 rw [<- hT] at hh3_0 hfull htick
 simp only [<- hT] at hsub'
 obtain ⟨X,hX⟩:=hX
 simp -implicitDefEqProofs (disch:=omega) only [h0,h3,h4,h5,h6,h7,hh3_0,hX,go_sem,↓reduceIte,rAz,rS,rE,rL,reduceCtorEq]
 refine wp_if_d (fun hlt=>?_) (fun hge=>?_)
 ·have hk256 : k < 256:=by omega
  have e1:=hsub' k hk256
  have hrem : (k : Int).tmod 2 = (k : Int) % 2:=Int.tmod_eq_emod_of_nonneg (by omega)
  generalize hz : D (k + 1) = z1 at e1
  simp -implicitDefEqProofs (disch:=omega) only [h0,h3,h4,h5,h6,h7,hh3_0,hX,hlt,hrem,e1,go_sem,↓reduceIte,rAz,rS,rE,rL,reduceCtorEq]
  try refine And.intro (by omega) ?_
  refine (hI _ _).2 ⟨?_,?_,?_,?_,?_,?_,?_,?_⟩
  all_goals first | exact cl0 | (simp -implicitDefEqProofs (disch:=omega) only [h0,h3,h4,h5,h6,h7,hh3_0,hX,hz,lma,go_sem,↓reduceIte,rAz,rS,rE,rL,reduceCtorEq] <;> first | (simp [mBox]; done) | (simp [mBox]; omega)) | (simp -implicitDefEqProofs (disch:=omega) only [h0,h3,h4,h5,h6,h7,hh3_0,hX,hz,lma,go_sem,↓reduceIte,rAz,rS,rE,rL,reduceCtorEq] <;> (refine ⟨_,rfl,?_⟩; first | rfl | (simp -implicitDefEqProofs (disch:=omega) only [h0,h3,h4,h5,h6,h7,hh3_0,hX,hz,lma,go_sem,↓reduceIte,rAz,rS,rE,rL,reduceCtorEq]; done) | (simp -implicitDefEqProofs (disch:=omega) only [h0,h3,h4,h5,h6,h7,hh3_0,hX,hz,lma,go_sem,↓reduceIte,rAz,rS,rE,rL,reduceCtorEq]; rfl)))
 ·have hk : k = 256:=by omega
  subst hk
  have hzl : z.flights.length <= 256:=by omega
  have hcle : cntF2 z.flights <= 128:=by have:=hLim.cnt; omega
  have hq4 : (4096 : Int).tdiv n = 4096 / n:=Int.tdiv_eq_ediv_of_nonneg (by omega)
  have hn0 : ¬ n = 0:=by omega
  have hdv : 0 <= 4096 / n /\ 4096 / n <= 4096:=⟨Int.ediv_nonneg (by omega) (by omega),Int.ediv_le_self _ (by omega)⟩
  simp -implicitDefEqProofs (disch:=omega) only [h0,h3,h4,h5,h6,h7,hh3_0,hX,hge,hfull,htick,go_sem,↓reduceIte,rAz,rS,rE,rL,reduceCtorEq]
  obtain ⟨J,hJ⟩ : ∃ I : Nat -> St -> Prop,∀ j s,I j s ↔ ∃ (v12_0 : Nat) (v64_11 : Nat) (v64_12 : Nat) (v64_13 : Nat) (v64_15 : Nat) (v64_16 : Nat),s.pe 0 = .p (.int .i64 n) /\ s.pe 5 = .p (.int .i64 0) /\ s.pe 6 = .p (.int .i64 0) /\ s.pe 11 = .p (.int .i64 7) /\ s.pe 12 = .ptr (.slot 12 0) v12_0 0 /\ s.pe 14 = .p (.int .i64 0) /\ s.pe 15 = .p (.int .i64 (cntF2 (z.flights.take j) : Nat)) /\ s.pe 16 = .p (.int .i64 j) /\ s.h (.slot 12 0) = some (v12_0,Ob.box [.p (.int .i64 z.m.rb),.p (.int .i64 z.m.rp),.p (.int .i64 z.m.wb),.p (.int .i64 z.m.wp),.p (.int .i64 z.m.seek),.p (.int .i64 z.speed),.p (.int .i64 z.margin),.p (.int .i64 z.now),.p (.int .i64 z.free),.p (.int .i64 z.head),.own (.slot 64 11) v64_11 0 z.weights.length,.own (.slot 64 12) v64_12 0 z.buckets.length,.own (.slot 64 13) v64_13 0 z.depths.length,.p (chsP z.v),.own (.slot 64 15) v64_15 0 z.queue.length,.own (.slot 64 16) v64_16 0 z.flights.length]) /\ s.h (.slot 64 11) = some (v64_11,Ob.arr 2 (List.map Ch.pv z.weights)) /\ s.h (.slot 64 12) = some (v64_12,Ob.arr 21 (List.map Cp.pv z.buckets)) /\ s.h (.slot 64 13) = some (v64_13,Ob.arr 3 (List.map Dp.pv z.depths)) /\ s.h (.slot 64 15) = some (v64_15,Ob.arr 6 (List.map Rq.pv z.queue)) /\ s.h (.slot 64 16) = some (v64_16,Ob.arr 7 (List.map Fl.pv z.flights)):=⟨_,fun _ _=>Iff.rfl⟩
  refine wp_count (z.flights.length) J ?_ ?_
  ·refine (hJ _ _).2 ⟨nv (fzOb [8,32,48] s.h (.slot 12 0)),nv (fzOb [8,32,48] s.h (.slot 64 11)),nv (fzOb [8,32,48] s.h (.slot 64 12)),nv (fzOb [8,32,48] s.h (.slot 64 13)),nv (fzOb [8,32,48] s.h (.slot 64 15)),nv (fzOb [8,32,48] s.h (.slot 64 16)),?_,?_,?_,?_,?_,?_,?_,?_,?_,?_,?_,?_,?_,?_⟩
   all_goals first | exact cl0 | (simp -implicitDefEqProofs (disch:=omega) only [h0,h3,h4,h5,h6,h7,hh3_0,hX,lma,go_sem,↓reduceIte,rAz,rS,rE,rL,reduceCtorEq] <;> first | (simp [mBox]; done) | (simp [mBox]; omega))
  intro j s hj hJk
  obtain ⟨v12_0,v64_11,v64_12,v64_13,v64_15,v64_16,h0,h5,h6,h11,h12,h14,h15,h16,hh12_0,hh64_11,hh64_12,hh64_13,hh64_15,hh64_16⟩:=(hJ _ _).1 hJk
  clear hJk
  simp -implicitDefEqProofs (disch:=omega) only [h0,h5,h6,h11,h12,h14,h15,h16,hh12_0,hh64_11,hh64_12,hh64_13,hh64_15,hh64_16,go_sem,↓reduceIte,rAz,rS,rE,rL,reduceCtorEq]
  refine wp_if_d (fun hjl=>?_) (fun hjg=>?_)
  ·have hm : z.flights[j]? = some z.flights[j]:=lgg hjl
   have hst:=cntF2_take hm
   have hle : cntF2 (z.flights.take j) <= 256:=by have:=cntF2_le (z.flights.take j); rw [llt] at this; omega
   generalize z.flights[j] = f at hm hst
   generalize cntF2 (z.flights.take j) = c at h15 hst hle
   by_cases hg : f.r.group = 2
   ·rw [if_pos hg] at hst
    have hg':=decide_eq_true hg
    simp -implicitDefEqProofs (disch:=omega) only [h0,h5,h6,h11,h12,h14,h15,h16,hh12_0,hh64_11,hh64_12,hh64_13,hh64_15,hh64_16,hjl,hm,hg',go_sem,↓reduceIte,rAz,rS,rE,rL,reduceCtorEq]
    try refine And.intro (by omega) ?_
    refine (hJ _ _).2 ⟨v12_0,v64_11,v64_12,v64_13,v64_15,v64_16,?_,?_,?_,?_,?_,?_,?_,?_,?_,?_,?_,?_,?_,?_⟩
    all_goals first | exact cl0 | (simp -implicitDefEqProofs (disch:=omega) only [h0,h5,h6,h11,h12,h14,h15,h16,hh12_0,hh64_11,hh64_12,hh64_13,hh64_15,hh64_16,hst,lma,go_sem,↓reduceIte,rAz,rS,rE,rL,reduceCtorEq] <;> first | (simp [mBox]; done) | (simp [mBox]; omega))
   ·rw [if_neg hg] at hst
    simp -implicitDefEqProofs (disch:=omega) only [h0,h5,h6,h11,h12,h14,h15,h16,hh12_0,hh64_11,hh64_12,hh64_13,hh64_15,hh64_16,hjl,hm,hg,go_sem,↓reduceIte,rAz,rS,rE,rL,reduceCtorEq]
    try refine And.intro (by omega) ?_
    refine (hJ _ _).2 ⟨v12_0,v64_11,v64_12,v64_13,v64_15,v64_16,?_,?_,?_,?_,?_,?_,?_,?_,?_,?_,?_,?_,?_,?_⟩
    all_goals first | exact cl0 | (simp -implicitDefEqProofs (disch:=omega) only [h0,h5,h6,h11,h12,h14,h15,h16,hh12_0,hh64_11,hh64_12,hh64_13,hh64_15,hh64_16,hst,lma,go_sem,↓reduceIte,rAz,rS,rE,rL,reduceCtorEq] <;> first | (simp [mBox]; done) | (simp [mBox]; omega))
  ·rw [ltl (by omega)] at h15
   have l1 : decide ((0 : Int) = 0) = true:=rfl
   have l2 : decide ((7 : Int) = 7) = true:=rfl
   have h16' : decide ((z.queue.length : Int) + z.flights.length = 256) = true:=decide_eq_true (by omega)
   have hc' : decide ((cntF2 z.flights : Int) = min (4096 / n) 128) = true:=decide_eq_true hcnt
   simp -implicitDefEqProofs (disch:=omega) only [h0,h5,h6,h11,h12,h14,h15,h16,hh12_0,hh64_11,hh64_12,hh64_13,hh64_15,hh64_16,hjg,hq4,hn0,l1,l2,h16',hc',sane34_eq,go_sem,↓reduceIte,rAz,rS,rE,rL,reduceCtorEq]
end Go.V
