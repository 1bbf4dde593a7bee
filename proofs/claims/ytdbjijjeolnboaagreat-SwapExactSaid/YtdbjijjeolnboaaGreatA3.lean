/- Part 3 of the proof. -/
import Derived.Test.YtdbjijjeolnboaaGreatA2
set_option linter.unusedSectionVars false
set_option linter.unusedSimpArgs false
set_option linter.unusedVariables false
open Nat renaming reduceAdd → rA, reduceSub → rS, reduceEqDiff → rE, reduceLeDiff → rL, le_refl → lrf
open List renaming getElem?_eq_getElem → lgg, getElem?_eq_some_iff → lgs, mem_of_getElem? → lmg, drop_eq_getElem_cons → ldg, mem_cons_of_mem → lmc, map_cons → lpc, drop_of_length_le → ldl, nil_append → lna, append_assoc → laa, append_nil → lan, mem_map → lmm, mem_cons_self → lms, map_append → lma, take_of_length_le → ltl, getElem?_of_mem → lgm, length_cons → llc, length_append → lla, flatMap_cons → lfc, mem_cons → lmk, map_nil → lpn, length_nil → lln, mem_append → lmp, length_map → llm, eq_nil_of_length_eq_zero → lez, getElem_mem → lgk, pairwise_cons → lpw, cons_append → lca, filter_cons → lfl
open Option renaming some.injEq → osi
open Bool renaming and_eq_true → bat, false_and → bfa, false_eq_true → bft, true_and → bta, not_false → bnf, and_self → bas, or_eq_true → bot, and_true → bau
namespace Go.V
theorem findT_ok {t : Tr} (h : treeOk t = true) (id : Int) : findT t id = findN t.nodes id:=by simp [findT,h]
set_option maxHeartbeats 1000000 in
theorem rcharges_eq (t : Tr) (l : List Ch) (lo : Int) (ht : treeOk t = true) (hn : t.nodes.length < 1000000) (hl : l.length < 1000000) : V 154 [t.vv,.p (chsP l),.p (.int .i64 lo)] [] = some (.p (.bool (ascOk (knownN t.nodes) lo 16777216 none l)),[]):=by
 refine V_wp (vf:=vf154) rfl ?_
 simp -implicitDefEqProofs (disch:=omega) only [vf154,vb154,go_sem,↓reduceIte,rA,rS,rE,rL,reduceCtorEq]
 obtain ⟨I,hI⟩ : ∃ I : Nat -> St -> Prop,∀ k s,I k s ↔ ascOk (knownN t.nodes) lo 16777216 none l = ascOk (knownN t.nodes) lo 16777216 (prevG l k) (l.drop k) /\ s.pe 1 = .p (chsP l) /\ s.pe 2 = .p (.int .i64 lo) /\ s.pe 3 = .ptr (.slot 3 0) 0 0 /\ s.pe 7 = .p (.int .i64 k) /\ s.h (.slot 3 0) = some (0,Ob.box [.p (nodesP t.nodes),.p (.int .i64 t.next)]):=⟨_,fun _ _=>Iff.rfl⟩
 refine wp_count (l.length) I ?_ ?_
 ·refine (hI _ _).2 ⟨?_,?_,?_,?_,?_,?_⟩
  ·exact cl3
  all_goals exact cl0
 intro k s hk hIk
 obtain ⟨hq,h1,h2,h3,h7,hh3_0⟩:=(hI _ _).1 hIk
 clear hIk
 simp -implicitDefEqProofs (disch:=omega) only [h1,h2,h3,h7,hh3_0,go_sem,↓reduceIte,rA,rS,rE,rL,reduceCtorEq]
 refine wp_if_d (fun hlt=>?_) (fun hge=>?_)
 ·have hm : l[k]? = some l[k]:=lgg hlt
  generalize l[k] = c at hm
  have hg:=asc_good hq hm
  have hb':=asc_bad hq hm
  have hfi:=rhas_eq t c.group hn
  rw [findT_ok ht] at hfi
  have hkn : knownN t.nodes c.group = (findN t.nodes c.group).isSome:=rfl
  generalize (findN t.nodes c.group).isSome = kn at hfi hkn
  by_cases hk0 : (0 : Int) < k
  ·obtain ⟨e,he,he'⟩:=prev_at hm hk0
   have hk1 : (0 : Int) <= (k : Int) - 1:=by omega
   rw [ascAt_succ hk0 he,hkn] at hg hb'
   simp -implicitDefEqProofs (disch:=omega) only [h1,h2,h3,h7,hh3_0,hlt,hm,hfi,hk0,hk1,he',go_sem,↓reduceIte,rA,rS,rE,rL,reduceCtorEq]
   repeat' ((first | refine wp_grn_d (fun hb=>?_) (fun hb=>?_) | refine wp_gtn_d (fun hb=>?_) (fun hb=>?_) | refine wp_gr_d (fun hb=>?_) (fun hb=>?_) | refine wp_gt_d (fun hb=>?_) (fun hb=>?_) | refine wp_gr (fun hb=>?_) (fun hb=>?_) | refine wp_gt (fun hb=>?_) (fun hb=>?_) | refine wp_nt_d (fun hb=>?_) (fun hb=>?_) | refine wp_nt (fun hb=>?_) (fun hb=>?_) | refine wp_if_d (fun hb=>?_) (fun hb=>?_) | refine wp_if (fun hb=>?_) (fun hb=>?_)) <;> simp -implicitDefEqProofs (disch:=omega) only [hb,h1,h2,h3,h7,hh3_0,hlt,hm,hfi,hk0,hk1,he',go_sem,↓reduceIte,rA,rS,rE,rL,reduceCtorEq])
   all_goals first
    | (rw [hb' (by first | (rintro ⟨h1,h2,h3,h4⟩; omega) | simp_all)]; done)
    | skip
   try refine And.intro (by omega) ?_
   refine (hI _ _).2 ⟨?_,?_,?_,?_,?_,?_⟩
   ·exact hg ⟨by first | assumption | (cases kn <;> simp_all),by omega,by omega,by omega⟩
   all_goals exact cl0
  ·rw [ascAt_zero hk0,hkn] at hg hb'
   simp -implicitDefEqProofs (disch:=omega) only [h1,h2,h3,h7,hh3_0,hlt,hm,hfi,hk0,go_sem,↓reduceIte,rA,rS,rE,rL,reduceCtorEq]
   repeat' ((first | refine wp_grn_d (fun hb=>?_) (fun hb=>?_) | refine wp_gtn_d (fun hb=>?_) (fun hb=>?_) | refine wp_gr_d (fun hb=>?_) (fun hb=>?_) | refine wp_gt_d (fun hb=>?_) (fun hb=>?_) | refine wp_gr (fun hb=>?_) (fun hb=>?_) | refine wp_gt (fun hb=>?_) (fun hb=>?_) | refine wp_nt_d (fun hb=>?_) (fun hb=>?_) | refine wp_nt (fun hb=>?_) (fun hb=>?_) | refine wp_if_d (fun hb=>?_) (fun hb=>?_) | refine wp_if (fun hb=>?_) (fun hb=>?_)) <;> simp -implicitDefEqProofs (disch:=omega) only [hb,h1,h2,h3,h7,hh3_0,hlt,hm,hfi,hk0,go_sem,↓reduceIte,rA,rS,rE,rL,reduceCtorEq])
   all_goals first
    | (rw [hb' (by first | (rintro ⟨h1,h2,h3⟩; omega) | simp_all)]; done)
    | skip
   try refine And.intro (by omega) ?_
   refine (hI _ _).2 ⟨?_,?_,?_,?_,?_,?_⟩
   .exact hg ⟨by first | assumption | (cases kn <;> simp_all),by omega,by omega⟩
   all_goals exact cl0
 ·have hT:=asc_end hq (by omega)
  simp -implicitDefEqProofs (disch:=omega) only [h1,h2,h3,h7,hh3_0,hge,hT,go_sem,↓reduceIte,rA,rS,rE,rL,reduceCtorEq]
theorem nodup_groups {l : List Ch} (h : l.Pairwise fun a b=>a.group < b.group) : (l.map (·.group)).Nodup:=by
 rw [List.Nodup,List.pairwise_map]
 exact h.imp fun hab=>by omega
theorem asc_length {ns : List Nd} {lo hi : Int} {l : List Ch} (h : AscOk (knownN ns) lo hi l) : l.length <= ns.length:=by
 have:=nodup_length_le (l.map (·.group)) (ns.map (·.id)) (nodup_groups h.inc) (fun x hx=>by
  obtain ⟨c,hc,rfl⟩:=lmm.1 hx
  obtain ⟨n,hn,he⟩:=findN_some (h.known c hc)
  exact lmm.2 ⟨n,hn,he⟩)
 simpa using this
theorem sum_bound {hi : Int} : ∀ (l : List Ch),(∀ c ∈ l,0 <= c.own /\ c.own <= hi) -> 0 <= sumI (l.map (·.own)) /\ sumI (l.map (·.own)) <= l.length * hi
 | [],_=>by simp [sumI]
 | c :: l,h=>by
  have h0:=h c (lms ..)
  have h1:=sum_bound l fun d hd=>h d (lmc _ hd)
  simp only [lpc,sumI,llc,Int.natCast_add]
  have : ((l.length : Int) + (1 : Nat)) * hi = l.length * hi + hi:=by rw [Int.add_mul]; simp
  omega
theorem validK_asc (t : Tr) (l : List Ch) (ht : treeOk t = true) : validK t l = (ascOk (knownN t.nodes) 1 16777216 none l && decide (sumI (l.map (·.own)) <= 16777216)):=by
 rw [Bool.eq_iff_iff,bat,ascOk_iff,decide_eq_true_eq,validK_iff]
 constructor
 ·rintro ⟨_,h⟩
  refine ⟨⟨h.known,h.inc,fun c hc=>⟨h.pos c hc,?_⟩⟩,h.all⟩
  have:=ownC_le h.pos c.group
  have h3:=h.all
  have h4 : c.own <= sumI (l.map (·.own)):=by
   have:=sumI_mem_le' l h.pos c hc
   exact this
  omega
 ·rintro ⟨h,hs⟩
  exact ⟨(treeOk_iff t).1 ht,⟨h.known,h.inc,fun c hc=>(h.range c hc).1,hs⟩⟩
where
 sumI_mem_le' : ∀ (l : List Ch),(∀ c ∈ l,1 <= c.own) -> ∀ c ∈ l,c.own <= sumI (l.map (·.own))
 | [],_,_,h=>by cases h
 | d :: l,hp,c,h=>by
  have h0:=hp d (lms ..)
  have h1:=sumI_map_nonneg l (f:=(·.own)) fun z hz=>by have:=hp z (lmc _ hz); omega
  simp only [lpc,sumI]
  rcases lmk.1 h with rfl | h
  ·omega
  ·have:=sumI_mem_le' l (fun z hz=>hp z (lmc _ hz)) c h
   omega
set_option maxHeartbeats 1000000 in
theorem rvalidK_eq (t : Tr) (l : List Ch) (hn : t.nodes.length < 1000000) (hl : l.length < 1000000) : V 136 [t.vv,ctrV l] [] = some (.p (.bool (validK t l)),[]):=by
 refine V_wp (vf:=vf136) rfl ?_
 have hc:=rcheck_eq t hn
 cases ht : treeOk t with
 | false =>
  rw [ht] at hc
  have : validK t l = false:=by simp [validK,ht]
  simp -implicitDefEqProofs (disch:=omega) only [vf136,vb136,hc,this,go_sem,↓reduceIte,rA,rS,rE,rL,reduceCtorEq]
 | true =>
  rw [ht] at hc
  have hch:=rcharges_eq t l 1 ht hn hl
  rw [validK_asc t l ht]
  cases ha : ascOk (knownN t.nodes) 1 16777216 none l with
  | false =>
   rw [ha] at hch
   simp -implicitDefEqProofs (disch:=omega) only [vf136,vb136,hc,hch,bfa,go_sem,↓reduceIte,rA,rS,rE,rL,reduceCtorEq]
  | true =>
   rw [ha] at hch
   have hA:=(ascOk_iff _ _ _ _).1 ha
   have hlen:=asc_length hA
   have h64:=((treeOk_iff t).1 ht).len
   have hpre : ∀ k,0 <= sumI ((l.take k).map (·.own)) /\ sumI ((l.take k).map (·.own)) <= 64 * 16777216:=fun k=>by
    have h1:=sum_bound (hi:=16777216) (l.take k) fun c hc=>by have:=hA.range c (List.mem_of_mem_take hc); omega
    have h2 : ((l.take k).length : Int) * 16777216 <= 64 * 16777216:=Int.mul_le_mul_of_nonneg_right (by simp; omega) (by omega)
    omega
   simp -implicitDefEqProofs (disch:=omega) only [vf136,vb136,hc,hch,go_sem,↓reduceIte,rA,rS,rE,rL,reduceCtorEq]
   obtain ⟨I,hI⟩ : ∃ I : Nat -> St -> Prop,∀ k s,I k s ↔ s.pe 3 = .ptr (.slot 3 0) 0 0 /\ s.pe 5 = .p (.int .i64 (sumI ((l.take k).map (·.own)))) /\ s.pe 6 = .p (.int .i64 k) /\ s.h (.slot 3 0) = some (0,Ob.box [.p (chsP l)]):=⟨_,fun _ _=>Iff.rfl⟩
   refine wp_count (l.length) I ?_ ?_
   ·refine (hI _ _).2 ⟨?_,?_,?_,?_⟩
    all_goals exact cl0
   intro k s hk hIk
   obtain ⟨h3,h5,h6,hh3_0⟩:=(hI _ _).1 hIk
   clear hIk
   simp -implicitDefEqProofs (disch:=omega) only [h3,h5,h6,hh3_0,go_sem,↓reduceIte,rA,rS,rE,rL,reduceCtorEq]
   refine wp_if_d (fun hlt=>?_) (fun hge=>?_)
   ·have hm : l[k]? = some l[k]:=lgg hlt
    generalize l[k] = c at hm
    have hs:=sumI_take_succ (f:=(·.own)) hm
    have p1:=hpre (k + 1)
    have p0:=hpre k
    rw [hs] at p1
    generalize sumI ((l.take k).map (·.own)) = S at h5 hs p0 p1
    simp -implicitDefEqProofs (disch:=omega) only [h3,h5,h6,hh3_0,hlt,hm,go_sem,↓reduceIte,rA,rS,rE,rL,reduceCtorEq]
    try refine And.intro (by omega) ?_
    refine (hI _ _).2 ⟨?_,?_,?_,?_⟩
    all_goals exact cl0
   ·rw [ltl (by omega)] at h5
    simp -implicitDefEqProofs (disch:=omega) only [h3,h5,h6,hh3_0,hge,bta,go_sem,↓reduceIte,rA,rS,rE,rL,reduceCtorEq]
theorem subT_len {t : Tr} (h : TreeOk t) (id : Int) : (subT t id).length <= t.nodes.length:=by
 unfold subT
 split
 ·rename_i hs
  rw [findT_ok ((treeOk_iff t).2 h)] at hs
  obtain ⟨n,hn,rfl⟩:=findN_some hs
  obtain ⟨i,hi⟩:=lgm hn
  exact subF_length h hi (by omega)
 .exact Nat.zero_le _
set_option maxHeartbeats 1000000 in
theorem rsum_eq {t : Tr} (h : TreeOk t) {l : List Ch} (hl : ChOk t.nodes l) (hll : l.length < 1000000) {i : Nat} {n : Nd} (hi : t.nodes[i]? = some n) : V 144 [t.vv,ctrV l,.p (.int .i64 n.id)] [] = some (.p (.int .i64 (tot t (ownC l) n.id)),[]):=by
 refine V_wp (vf:=vf144) rfl ?_
 have hlen:=h.len
 have hs:=rsub_eq (t:=t) n.id (by omega)
 have hsl:=subT_len h n.id
 have hst : subT t n.id = subF t.nodes t.nodes.length n.id:=by
  rw [subT,findT_ok ((treeOk_iff t).2 h),findN_unique h.inc hi]; rfl
 have htot : tot t (ownC l) n.id = sumI ((subT t n.id).map (ownC l)):=by rw [hst]; rfl
 have hle:=tot_le h hl hi
 have hall:=hl.all
 rw [htot] at hle ⊢
 generalize subT t n.id = A at hs hsl hle
 simp -implicitDefEqProofs (disch:=omega) only [vf144,vb144,hs,go_sem,↓reduceIte,rA,rS,rE,rL,reduceCtorEq]
 obtain ⟨I,hI⟩ : ∃ I : Nat -> St -> Prop,∀ k s,I k s ↔ s.pe 4 = .ptr (.slot 4 0) 0 0 /\ s.pe 7 = .p (.int .i64 (sumI ((A.take k).map (ownC l)))) /\ s.pe 8 = .own (.slot 12 1) 0 0 A.length /\ s.pe 9 = .p (.int .i64 k) /\ s.h (.slot 4 0) = some (0,Ob.box [.p (chsP l)]) /\ s.h (.slot 12 1) = some (0,Ob.arr 1 (List.map (.int .i64) A)):=⟨_,fun _ _=>Iff.rfl⟩
 refine wp_count (A.length) I ?_ ?_
 ·refine (hI _ _).2 ⟨?_,?_,?_,?_,?_,?_⟩
  all_goals exact cl0
 intro k s hk hIk
 obtain ⟨h4,h7,h8,h9,hh4_0,hh12_1⟩:=(hI _ _).1 hIk
 clear hIk
 simp -implicitDefEqProofs (disch:=omega) only [h4,h7,h8,h9,hh4_0,hh12_1,go_sem,↓reduceIte,rA,rS,rE,rL,reduceCtorEq]
 refine wp_if_d (fun hlt=>?_) (fun hge=>?_)
 ·have hm : A[k]? = some A[k]:=lgg hlt
  generalize A[k] = g at hm
  have hst:=sumI_take_succ (f:=ownC l) hm
  have ho:=rown_eq l g hll
  have o0:=ownC_nonneg hl.pos g
  have p0:=sumI_map_nonneg (A.take k) (f:=ownC l) fun x _=>ownC_nonneg hl.pos x
  have p1:=sumI_take_le A (k + 1) (f:=ownC l) fun x _=>ownC_nonneg hl.pos x
  rw [hst] at p1
  generalize sumI ((A.take k).map (ownC l)) = S at h7 hst p0 p1
  generalize ownC l g = o at ho o0 hst p1
  simp -implicitDefEqProofs (disch:=omega) only [h4,h7,h8,h9,hh4_0,hh12_1,hlt,hm,ho,go_sem,↓reduceIte,rA,rS,rE,rL,reduceCtorEq]
  try refine And.intro (by omega) ?_
  refine (hI _ _).2 ⟨?_,?_,?_,?_,?_,?_⟩
  all_goals exact cl0
 ·rw [ltl (by omega)] at h7
  simp -implicitDefEqProofs (disch:=omega) only [h4,h7,h8,h9,hh4_0,hh12_1,hge,go_sem,↓reduceIte,rA,rS,rE,rL,reduceCtorEq]
def pickV (L : List Int) (a : Nat) (xs : List Int) : Int:=xs.getD (nextV L a xs.length).toNat 0
theorem pick_eq (L : List Int) (a : Nat) (xs : List Int) (hL : L.length < 4611686018427387904) (h0 : 1 <= xs.length) (h1 : xs.length < 1000000) : V 13 [.ptr (.arg 0 0) 0 0,.p (intsP xs)] [diceB L a] = some (.p (.int .i64 (pickV L a xs)),[diceB L (nextA L a xs.length)]):=by
 refine V_wp (vf:=vf13) rfl ?_
 have hn:=next_eq L a xs.length hL (by omega)
 have n0:=nextV_nonneg L a xs.length
 have n1:=nextV_lt L a (n:=xs.length) (by omega)
 unfold pickV
 generalize nextV L a xs.length = x at hn n0 n1
 generalize nextA L a xs.length = a' at hn
 have hm : xs[x.toNat]? = some (xs.getD x.toNat 0):=by
  rw [List.getD_eq_getElem?_getD,lgg (by omega)]; rfl
 generalize xs.getD x.toNat 0 = y at hm
 simp -implicitDefEqProofs (disch:=omega) only [vf13,vb13,hn,hm,go_sem,↓reduceIte,rA,rS,rE,rL,reduceCtorEq]
theorem pickV_mem (L : List Int) (a : Nat) {xs : List Int} (h0 : 1 <= xs.length) : pickV L a xs ∈ xs:=by
 have n0:=nextV_nonneg L a xs.length
 have n1:=nextV_lt L a (n:=xs.length) (by omega)
 unfold pickV
 rw [List.getD_eq_getElem?_getD,lgg (by omega)]
 exact lgk _
structure Pt where
 group : Int
 usage : Int
 protect : Int
 own : Int
 room : Int
 deriving DecidableEq
def Pt.pv (c : Pt) : PV:=.agg [.int .i64 c.group,.int .i64 c.usage,.int .i64 c.protect,.int .i64 c.own,.int .i64 c.room]
abbrev Pt.vv (c : Pt) : VVal:=.agg [.p (.int .i64 c.group),.p (.int .i64 c.usage),.p (.int .i64 c.protect),.p (.int .i64 c.own),.p (.int .i64 c.room)]
abbrev ptsP (l : List Pt) : PV:=.slice 5 (l.map Pt.pv)
attribute [go_sem] Pt.pv
theorem pts_flat (l : List Pt) : (l.map Pt.pv).all PV.flat = true:=by
 rw [List.all_eq_true]
 intro x hx
 obtain ⟨n,_,rfl⟩:=lmm.1 hx
 rfl
attribute [go_sem] pts_flat
def InN (ns : List Nd) (x : Int) : Prop:=∃ (i : Nat) (n : Nd),ns[i]? = some n /\ n.id = x
theorem subF_step {t : Tr} (h : TreeOk t) {x : Int} (hx : InN t.nodes x) : subF t.nodes t.nodes.length x = x :: (kidsN t.nodes x).flatMap (subF t.nodes t.nodes.length):=by
 obtain ⟨i,n,hn,rfl⟩:=hx
 have hi:=(lgs.1 hn).1
 obtain ⟨N,hN⟩ : ∃ N,t.nodes.length = N + 1:=⟨t.nodes.length - 1,by omega⟩
 have e1 : subF t.nodes t.nodes.length n.id = subF t.nodes (N + 1) n.id:=by rw [hN]
 rw [e1,subF]
 congr 1
 refine flatMap_congr_mem fun y hy=>?_
 obtain ⟨j,m,hm,hp,rfl⟩:=mem_kidsN.1 hy
 have:=h.kid hn hm hp
 exact subF_fuel h _ _ j m hm (by omega) (by omega)
theorem subF_mem {t : Tr} (h : TreeOk t) {x : Int} (hx : InN t.nodes x) : subF t.nodes t.nodes.length x ≠ []:=by
 rw [subF_step h hx]
 simp
theorem flat_len {t : Tr} (h : TreeOk t) : ∀ (l : List Int),(∀ x ∈ l,InN t.nodes x) -> l.length <= (l.flatMap (subF t.nodes t.nodes.length)).length
 | [],_=>by simp
 | x :: l,hl=>by
  have h1:=flat_len h l (fun y hy=>hl y (by simp [hy]))
  have h2:=List.length_pos_iff.2 (subF_mem h (hl x (by simp)))
  rw [lfc,lla,llc]
  omega
theorem kidsN_len (ns : List Nd) (x : Int) : (kidsN ns x).length <= ns.length:=by
 rw [kidsN,llm]
 exact List.length_filter_le _ _
set_option maxHeartbeats 2000000 in
theorem fsub_eq {t : Tr} (id : Int) (h : TreeOk t) : V 117 [t.vv,.p (.int .i64 id)] [] = some (.fresh 1 ((subT t id).map (.int .i64)),[]):=by
 refine V_wp (vf:=vf117) rfl ?_
 have hlen:=h.len
 have hat:=at_eq t id (by omega)
 by_cases hneg : idxOf t.nodes id < 0
 ·have hfn:=(idxOf_lt t.nodes id)
  have hemp : subT t id = []:=by
   rcases hfn with ⟨_,h2⟩ | ⟨k,_,h2,_⟩
   ·simp [subT,findT,h2]
   ·omega
  simp -implicitDefEqProofs (disch:=omega) only [vf117,vb117,hat,hneg,hemp,go_sem,↓reduceIte,rA,rS,rE,rL,reduceCtorEq]
 ·have hin : InN t.nodes id:=by
   obtain ⟨k,m,_,hkm,hfm,hme⟩:=(idxOf_lt t.nodes id).resolve_left (fun h=>hneg h.1)
   exact ⟨k,m,hkm,hme⟩
  have hsub : subT t id = subF t.nodes t.nodes.length id:=by
   obtain ⟨k,m,_,hkm,hfm,hme⟩:=(idxOf_lt t.nodes id).resolve_left (fun h=>hneg h.1)
   simp [subT,findT,(treeOk_iff t).2 h,hfm]
  have hsl:=subT_len h id
  rw [hsub] at hsl
  rw [hsub]
  simp -implicitDefEqProofs (disch:=omega) only [vf117,vb117,hat,hneg,go_sem,↓reduceIte,rA,rS,rE,rL,reduceCtorEq]
  obtain ⟨I,hI⟩ : ∃ I : Nat -> St -> Prop,∀ k s,I k s ↔ ∃ (out : List Int) (nx : List Int) (ww : Nat) (d : Nat) (e : Nat),out.length = k /\ (∀ x ∈ nx,InN t.nodes x) /\ out ++ nx.flatMap (subF t.nodes t.nodes.length) = subF t.nodes t.nodes.length id /\ ((d = 12 /\ e = 0) \/ (d = 34 /\ e = 1)) /\ s.pe 2 = .ptr (.slot 2 0) 0 0 /\ s.pe 5 = .own (.slot 5 0) ww 0 out.length /\ (∃ v,s.pe 6 = .own (.slot d e) v 0 (nx.length) /\ s.h (.slot d e) = some (v,Ob.arr 1 (nx.map (.int .i64)))) /\ s.h (.slot 2 0) = some (0,Ob.box [.p (nodesP t.nodes),.p (.int .i64 t.next)]) /\ s.h (.slot 5 0) = some (ww,Ob.arr 1 (out.map (.int .i64))):=⟨_,fun _ _=>Iff.rfl⟩
  refine wp_count (t.nodes.length) I ?_ ?_
  ·refine (hI _ _).2 ⟨[],[id],0,12,0,?_,?_,?_,?_,?_,?_,?_,?_,?_⟩
   ·rfl
   ·exact by simpa using hin
   ·exact by simp
   ·exact Or.inl ⟨rfl,rfl⟩
   all_goals first | exact cl0 | (simp -implicitDefEqProofs (disch:=omega) only [lma,go_sem,↓reduceIte,rA,rS,rE,rL,reduceCtorEq] <;> (refine ⟨_,rfl,?_⟩; first | rfl | (simp -implicitDefEqProofs (disch:=omega) only [lma,go_sem,↓reduceIte,rA,rS,rE,rL,reduceCtorEq]; done)))
  intro k s hk hIk
  obtain ⟨out,nx,ww,d,e,hol,hall,hall',hde,h2,h5,⟨v6,h6,hhd_e⟩,hh2_0,hh5_0⟩:=(hI _ _).1 hIk
  clear hIk
  rcases hde with ⟨rfl,rfl⟩ | ⟨rfl,rfl⟩
  ·rcases nx with - | ⟨x,rest⟩
   ·rw [List.flatMap_nil,lan] at hall'
    simp -implicitDefEqProofs (disch:=omega) only [h2,h5,h6,hhd_e,hh2_0,hh5_0,zero_lt_zero,go_sem,↓reduceIte,rA,rS,rE,rL,reduceCtorEq]
    rw [hall']
   have hpos : (0 : Int) < ((rest.length + 1 : Nat) : Int):=by omega
   by_cases hlt : out.length < t.nodes.length
   ·have hx:=hall x (by simp)
    have hkids:=fkids_eq t x (by omega)
    have hkl:=kidsN_len t.nodes x
    have hrl : rest.length <= 64:=by
     have h1:=congrArg List.length hall'
     have h2:=flat_len h (x :: rest) hall
     rw [lla] at h1
     rw [llc] at h2
     omega
    simp -implicitDefEqProofs (disch:=omega) only [h2,h5,h6,hhd_e,hh2_0,hh5_0,hlt,hkids,hpos,Int.toNat_zero,List.getElem?_cons_zero,Int.toNat_one,List.drop_succ_cons,List.drop_zero,llm,Nat.add_sub_cancel,Nat.min_self,go_sem,↓reduceIte,rA,rS,rE,rL,reduceCtorEq]
    have hnx : ∀ y ∈ kidsN t.nodes x ++ rest,InN t.nodes y:=by
     intro y hy
     rcases lmp.1 hy with hy | hy
     ·obtain ⟨j,m,hm,_,hme⟩:=mem_kidsN.1 hy
      exact ⟨j,m,hm,hme⟩
     ·exact hall y (by simp [hy])
    have hnx' : (out ++ [x]) ++ (kidsN t.nodes x ++ rest).flatMap (subF t.nodes t.nodes.length) = subF t.nodes t.nodes.length id:=by
     rw [<- hall',lfc,subF_step h hx,List.flatMap_append]
     simp
    try refine And.intro (by omega) ?_
    refine (hI _ _).2 ⟨out ++ [x],kidsN t.nodes x ++ rest,ww + 1,34,1,?_,?_,?_,?_,?_,?_,?_,?_,?_⟩
    ·exact by simp [hol]
    ·exact hnx
    ·exact hnx'
    ·exact Or.inr ⟨rfl,rfl⟩
    all_goals first | exact cl0 | (simp -implicitDefEqProofs (disch:=omega) only [h2,h5,h6,hhd_e,hh2_0,hh5_0,lma,go_sem,↓reduceIte,rA,rS,rE,rL,reduceCtorEq] <;> (refine ⟨_,rfl,?_⟩; first | rfl | (simp -implicitDefEqProofs (disch:=omega) only [h2,h5,h6,hhd_e,hh2_0,hh5_0,lma,go_sem,↓reduceIte,rA,rS,rE,rL,reduceCtorEq]; done)))
   ·have hz : (x :: rest).flatMap (subF t.nodes t.nodes.length) = []:=by
     have h1:=congrArg List.length hall'
     rw [lla] at h1
     exact lez (by omega)
    rw [hz,lan] at hall'
    simp -implicitDefEqProofs (disch:=omega) only [h2,h5,h6,hhd_e,hh2_0,hh5_0,hlt,hpos,go_sem,↓reduceIte,rA,rS,rE,rL,reduceCtorEq]
    rw [hall']
  ·rcases nx with - | ⟨x,rest⟩
   ·rw [List.flatMap_nil,lan] at hall'
    simp -implicitDefEqProofs (disch:=omega) only [h2,h5,h6,hhd_e,hh2_0,hh5_0,zero_lt_zero,go_sem,↓reduceIte,rA,rS,rE,rL,reduceCtorEq]
    rw [hall']
   have hpos : (0 : Int) < ((rest.length + 1 : Nat) : Int):=by omega
   by_cases hlt : out.length < t.nodes.length
   ·have hx:=hall x (by simp)
    have hkids:=fkids_eq t x (by omega)
    have hkl:=kidsN_len t.nodes x
    have hrl : rest.length <= 64:=by
     have h1:=congrArg List.length hall'
     have h2:=flat_len h (x :: rest) hall
     rw [lla] at h1
     rw [llc] at h2
     omega
    simp -implicitDefEqProofs (disch:=omega) only [h2,h5,h6,hhd_e,hh2_0,hh5_0,hlt,hkids,hpos,Int.toNat_zero,List.getElem?_cons_zero,Int.toNat_one,List.drop_succ_cons,List.drop_zero,llm,Nat.add_sub_cancel,Nat.min_self,go_sem,↓reduceIte,rA,rS,rE,rL,reduceCtorEq]
    have hnx : ∀ y ∈ kidsN t.nodes x ++ rest,InN t.nodes y:=by
     intro y hy
     rcases lmp.1 hy with hy | hy
     ·obtain ⟨j,m,hm,_,hme⟩:=mem_kidsN.1 hy
      exact ⟨j,m,hm,hme⟩
     .exact hall y (by simp [hy])
    have hnx' : (out ++ [x]) ++ (kidsN t.nodes x ++ rest).flatMap (subF t.nodes t.nodes.length) = subF t.nodes t.nodes.length id:=by
     rw [<- hall',lfc,subF_step h hx,List.flatMap_append]
     simp
    try refine And.intro (by omega) ?_
    refine (hI _ _).2 ⟨out ++ [x],kidsN t.nodes x ++ rest,ww + 1,34,1,?_,?_,?_,?_,?_,?_,?_,?_,?_⟩
    ·exact by simp [hol]
    ·exact hnx
    ·exact hnx'
    ·exact Or.inr ⟨rfl,rfl⟩
    all_goals first | exact cl0 | (simp -implicitDefEqProofs (disch:=omega) only [h2,h5,h6,hhd_e,hh2_0,hh5_0,lma,go_sem,↓reduceIte,rA,rS,rE,rL,reduceCtorEq] <;> (refine ⟨_,rfl,?_⟩; first | rfl | (simp -implicitDefEqProofs (disch:=omega) only [h2,h5,h6,hhd_e,hh2_0,hh5_0,lma,go_sem,↓reduceIte,rA,rS,rE,rL,reduceCtorEq]; done)))
   ·have hz : (x :: rest).flatMap (subF t.nodes t.nodes.length) = []:=by
     have h1:=congrArg List.length hall'
     rw [lla] at h1
     exact lez (by omega)
    rw [hz,lan] at hall'
    simp -implicitDefEqProofs (disch:=omega) only [h2,h5,h6,hhd_e,hh2_0,hh5_0,hlt,hpos,go_sem,↓reduceIte,rA,rS,rE,rL,reduceCtorEq]
    rw [hall']
def pagesB (n : Int) : Bool:=decide (0 <= n) && decide (n <= 16777216)
theorem pages_eq (n : Int) : V 120 [.p (.int .i64 n)] [] = some (.p (.bool (pagesB n)),[]):=by
 refine V_wp (vf:=vf120) rfl ?_
 by_cases h0 : 0 <= n
 ·by_cases h1 : n <= 16777216
  .simp -implicitDefEqProofs (disch:=omega) only [vf120,vb120,h0,h1,pagesB,decide_true,bas,ge_iff_le,go_sem,↓reduceIte,rA,rS,rE,rL,reduceCtorEq]
  .simp -implicitDefEqProofs (disch:=omega) only [vf120,vb120,h0,h1,pagesB,decide_true,decide_false,Bool.and_false,ge_iff_le,go_sem,↓reduceIte,rA,rS,rE,rL,reduceCtorEq]
 .simp -implicitDefEqProofs (disch:=omega) only [vf120,vb120,h0,pagesB,decide_false,bfa,ge_iff_le,go_sem,↓reduceIte,rA,rS,rE,rL,reduceCtorEq]
def msort (l : List Int) : List Int:=l.mergeSort fun x y=>decide (x <= y)
theorem mapO_unI : ∀ (l : List Int),mapO unI (l.map (.int .i64)) = some l
 | []=>rfl
 | x :: l=>by
  have:=mapO_unI l
  rw [lpc]
  show ob (some x) (fun y=>ob (mapO unI (List.map (PV.int .i64) l)) fun ys=>some (y :: ys)) = _
  rw [this,ob_some,ob_some]
theorem sort_eq (l : List Int) (hl : l.length < 1000000) : V 118 [.own (.arg 0 0) 0 0 l.length] [.arr 1 (l.map (.int .i64))] = some (.tup [],[.arr 1 ((msort l).map (.int .i64))]):=by
 refine V_x ?_
 have h1 : l.length = (l.map (PV.int .i64)).length:=by simp
 have h2 : l.length < 4611686018427387904:=by omega
 simp only [XS,if_pos,XI,gd,if_pos h1,if_pos h2,mapO_unI,ob_some,msort]
theorem msort_length (l : List Int) : (msort l).length = l.length:=List.length_mergeSort l
def partOk (x : Pt) (g : Int) : Bool:=decide (x.group = g) && pagesB x.usage && pagesB x.protect && pagesB x.own && (decide (0 <= x.room) && decide (x.room <= 4611686018427387904))
def partsOk : List Pt -> List Int -> Bool
 | [],[]=>true
 | x :: l,g :: gs=>partOk x g && partsOk l gs
 | _,_=>false
def validP (t : Tr) (l : List Pt) (root : Int) : Bool:=treeOk t && (!(subT t root).isEmpty && partsOk l (msort (subT t root)))
theorem partsOk_length : ∀ (l : List Pt) (g : List Int),partsOk l g = true -> l.length = g.length
 | [],[],_=>rfl
 | x :: l,y :: g,h=>by
  simp only [partsOk,bat] at h
  simp [partsOk_length l g h.2]
 | [],_ :: _,h=>by simp [partsOk] at h
 | _ :: _,[],h=>by simp [partsOk] at h
set_option maxHeartbeats 2000000 in
theorem pvalid_parts (t : Tr) (l : List Pt) (root : Int) (hf : t.Fits) (hn : t.nodes.length < 1000000) (hl : l.length < 1000000) : V 119 [t.vv,.p (ptsP l),.p (.int .i64 root)] [] = some (.p (.bool (validP t l root)),[]):=by
 refine V_wp (vf:=vf119) rfl ?_
 have htc := tcheck_eq t hf hn
 unfold validP
 by_cases ht : treeOk t = true
 ·have hT := (treeOk_iff t).1 ht
  have hsub := fsub_eq root hT
  have hsl := subT_len hT root
  have hlen := hT.len
  generalize subT t root = S at hsub hsl
  have hsort:=sort_eq S (by omega)
  have hml := msort_length S
  rw [ht] at htc ⊢
  generalize hG : msort S = G at hsort hml
  rw [Bool.true_and]
  rcases S with - | ⟨s0,S'⟩
  ·simp only [lpn,lln] at hsub hsort hml
   have hGn : G = []:=lez hml
   subst hGn
   have hz : ((0 : Nat) : Int) = 0:=rfl
   simp -implicitDefEqProofs (disch:=omega) only [vf119,vb119,htc,hsub,hsort,List.isEmpty_nil,Bool.not_true,bfa,hz,go_sem,↓reduceIte,rA,rS,rE,rL,reduceCtorEq]
  ·have hne : (!(s0 :: S').isEmpty) = true:=rfl
   rw [hne, bta]
   generalize s0 :: S' = S at hsub hsl hsort hml hne
   have hnz : ¬ ((S.length : Nat) : Int) = 0:=by
    intro h
    have : S = []:=lez (by omega)
    subst this
    simp at hne
   by_cases hlg : l.length = S.length
   ·simp -implicitDefEqProofs (disch:=omega) only [vf119,vb119,htc,hsub,hsort,hnz,hlg,go_sem,↓reduceIte,rA,rS,rE,rL,reduceCtorEq]
    obtain ⟨I,hI⟩ : ∃ I : Nat -> St -> Prop,∀ k s,I k s ↔ partsOk l G = partsOk (l.drop k) (G.drop k) /\ s.pe 7 = .own (.slot 15 1) 0 0 S.length /\ s.pe 28 = .p (ptsP l) /\ s.pe 29 = .p (.int .i64 ↑S.length) /\ s.pe 30 = .p (.int .i64 k) /\ s.h (.slot 15 1) = some (0,Ob.arr 1 (List.map (.int .i64) G)):=⟨_,fun _ _=>Iff.rfl⟩
    refine wp_count (S.length) I ?_ ?_
    ·refine (hI _ _).2 ⟨?_,?_,?_,?_,?_,?_⟩
     ·rfl
     all_goals exact cl0
    intro k s hk hIk
    obtain ⟨hp,h7,h28,h29,h30,hh15_1⟩:=(hI _ _).1 hIk
    clear hIk
    simp -implicitDefEqProofs (disch:=omega) only [h7,h28,h29,h30,hh15_1,go_sem,↓reduceIte,rA,rS,rE,rL,reduceCtorEq]
    refine wp_if_d (fun hlt=>?_) (fun hge=>?_)
    ·have hlt' : k < l.length:=by omega
     have hm : l[k]? = some l[k]:=lgg hlt'
     have hg : G[k]? = some G[k]:=lgg (by omega)
     have hdr : l.drop k = l[k] :: l.drop (k + 1):=ldg hlt'
     have hdg : G.drop k = G[k] :: G.drop (k + 1):=ldg (by omega)
     generalize l[k] = x at hm hdr
     generalize G[k] = y at hg hdg
     rw [hdr,hdg,partsOk] at hp
     by_cases hc1 : x.group = y
     ·have hq1:=pages_eq x.usage
      by_cases hc2 : pagesB x.usage = true
      ·rw [hc2] at hq1
       have hq2:=pages_eq x.protect
       by_cases hc3 : pagesB x.protect = true
       ·rw [hc3] at hq2
        have hq3:=pages_eq x.own
        by_cases hc4 : pagesB x.own = true
        ·rw [hc4] at hq3
         by_cases hc5 : 0 <= x.room
         ·have hc5' : ¬ x.room < 0:=by omega
          by_cases hc6 : x.room <= 4611686018427387904
          ·have hc6' : ¬ 4611686018427387904 < x.room:=by omega
           have hp' : partsOk l G = partsOk (l.drop (k + 1)) (G.drop (k + 1)):=by
            rw [hp]
            simp [partOk,hc1,hc2,hc3,hc4,hc5,hc6]
           simp -implicitDefEqProofs (disch:=omega) only [h7,h28,h29,h30,hh15_1,hlt',hlt,hm,hg,hc1,hq1,hq2,hq3,hc5,hc6,Bool.not_true,bnf,hc5',hc6',go_sem,↓reduceIte,rA,rS,rE,rL,reduceCtorEq]
           try refine And.intro (by omega) ?_
           refine (hI _ _).2 ⟨?_,?_,?_,?_,?_,?_⟩
           ·exact hp'
           all_goals exact cl0
          ·have hc6' : 4611686018427387904 < x.room:=by omega
           have hpf : partsOk l G = false:=by
            rw [hp]
            simp [partOk,hc6]
           simp -implicitDefEqProofs (disch:=omega) only [h7,h28,h29,h30,hh15_1,hlt',hlt,hm,hg,hc1,hq1,hq2,hq3,hc5,hc5',hc6',Bool.not_true,bnf,go_sem,↓reduceIte,rA,rS,rE,rL,reduceCtorEq]
           rw [hpf]
         ·have hc5' : x.room < 0:=by omega
          have hpf : partsOk l G = false:=by
           rw [hp]
           simp [partOk,hc5]
          simp -implicitDefEqProofs (disch:=omega) only [h7,h28,h29,h30,hh15_1,hlt',hlt,hm,hg,hc1,hq1,hq2,hq3,hc5',Bool.not_true,bnf,go_sem,↓reduceIte,rA,rS,rE,rL,reduceCtorEq]
          rw [hpf]
        ·have hc4' : pagesB x.own = false:=by simpa using hc4
         rw [hc4'] at hq3
         have hpf : partsOk l G = false:=by
          rw [hp]
          simp [partOk,hc4']
         simp -implicitDefEqProofs (disch:=omega) only [h7,h28,h29,h30,hh15_1,hlt',hlt,hm,hg,hc1,hq1,hq2,hq3,Bool.not_true,bnf,go_sem,↓reduceIte,rA,rS,rE,rL,reduceCtorEq]
         rw [hpf]
       ·have hc3' : pagesB x.protect = false:=by simpa using hc3
        rw [hc3'] at hq2
        have hpf : partsOk l G = false:=by
         rw [hp]
         simp [partOk,hc3']
        simp -implicitDefEqProofs (disch:=omega) only [h7,h28,h29,h30,hh15_1,hlt',hlt,hm,hg,hc1,hq1,hq2,Bool.not_true,bnf,go_sem,↓reduceIte,rA,rS,rE,rL,reduceCtorEq]
        rw [hpf]
      ·have hc2' : pagesB x.usage = false:=by simpa using hc2
       rw [hc2'] at hq1
       have hpf : partsOk l G = false:=by
        rw [hp]
        simp [partOk,hc2']
       simp -implicitDefEqProofs (disch:=omega) only [h7,h28,h29,h30,hh15_1,hlt',hlt,hm,hg,hc1,hq1,Bool.not_true,bnf,go_sem,↓reduceIte,rA,rS,rE,rL,reduceCtorEq]
       rw [hpf]
     ·have hpf : partsOk l G = false:=by
       rw [hp]
       simp [partOk,hc1]
      simp -implicitDefEqProofs (disch:=omega) only [h7,h28,h29,h30,hh15_1,hlt',hlt,hm,hg,hc1,Bool.not_true,bnf,go_sem,↓reduceIte,rA,rS,rE,rL,reduceCtorEq]
      rw [hpf]
    ·rw [ldl (by omega),ldl (by omega)] at hp
     rw [hp,partsOk]
     simp -implicitDefEqProofs (disch:=omega) only [h7,h28,h29,h30,hh15_1,hge,go_sem,↓reduceIte,rA,rS,rE,rL,reduceCtorEq]
   ·have hpf : partsOk l G = false:=by
     cases h : partsOk l G
     .rfl
     .exact absurd (partsOk_length _ _ h) (by omega)
    have hlg' : ¬ ((l.length : Nat) : Int) = ((S.length : Nat) : Int):=by omega
    simp -implicitDefEqProofs (disch:=omega) only [vf119,vb119,htc,hsub,hsort,hnz,hlg',hpf,go_sem,↓reduceIte,rA,rS,rE,rL,reduceCtorEq]
 ·have ht' : treeOk t = false:=by simpa using ht
  rw [ht'] at htc ⊢
  rw [bfa]
  simp -implicitDefEqProofs (disch:=omega) only [vf119,vb119,htc,go_sem,↓reduceIte,rA,rS,rE,rL,reduceCtorEq]
abbrev keysP (l : List Pt) : List MKey:=l.map fun x=>MKey.int x.group
abbrev mapP (l : List Pt) : PV:=.map (.int .i64) (keysP l) (l.map Pt.pv)
theorem mput_new (k : MKey) (v : PV) : ∀ (ks : List MKey) (vs : List PV),ks.length = vs.length -> k ∉ ks -> mput ks vs k v = (ks ++ [k],vs ++ [v])
 | [],[],_,_=>rfl
 | a :: ks,b :: vs,hl,hk=>by
  have:=mput_new k v ks vs (by simpa using hl) (fun h=>hk (by simp [h]))
  have hne : ¬ k = a:=fun h=>hk (by simp [h])
  simp [mput,hne,this]
 | [],_ :: _,h,_=>by simp at h
 | _ :: _,[],h,_=>by simp at h
set_option maxHeartbeats 2000000 in
theorem mparts_eq (l : List Pt) (hl : l.length < 1000000) (hnd : (l.map (·.group)).Nodup) : V 121 [.p (ptsP l)] [] = some (.p (mapP l),[]):=by
 refine V_wp (vf:=vf121) rfl ?_
 simp -implicitDefEqProofs (disch:=omega) only [vf121,vb121,go_sem,↓reduceIte,rA,rS,rE,rL,reduceCtorEq]
 obtain ⟨I,hI⟩ : ∃ I : Nat -> St -> Prop,∀ k s,I k s ↔ s.pe 3 = .mref (.slot 6 0) 0 /\ s.pe 7 = .p (ptsP l) /\ s.pe 8 = .p (.int .i64 ↑l.length) /\ s.pe 9 = .p (.int .i64 k) /\ s.h (.slot 6 0) = some (0,Ob.map (KT.int IntKind.i64) (keysP (l.take k)) ((l.take k).map Pt.pv)):=⟨_,fun _ _=>Iff.rfl⟩
 refine wp_count (l.length) I ?_ ?_
 ·refine (hI _ _).2 ⟨?_,?_,?_,?_,?_⟩
  all_goals exact cl0
 intro k s hk hIk
 obtain ⟨h3,h7,h8,h9,hh6_0⟩:=(hI _ _).1 hIk
 clear hIk
 simp -implicitDefEqProofs (disch:=omega) only [h3,h7,h8,h9,hh6_0,go_sem,↓reduceIte,rA,rS,rE,rL,reduceCtorEq]
 refine wp_if_d (fun hlt=>?_) (fun hge=>?_)
 ·have hm : l[k]? = some l[k]:=lgg hlt
  have htk:=take_snoc hm
  have hnew : MKey.int l[k].group ∉ keysP (l.take k):=by
   intro h
   obtain ⟨y,hy,he⟩:=lmm.1 h
   have he' : y.group = l[k].group:=by simpa using he
   obtain ⟨i,hi,rfl⟩:=List.mem_take_iff_getElem.1 hy
   have h1 : i < k:=by
    have:=(Nat.lt_min.1 hi).1
    exact this
   have hnd':=List.pairwise_iff_getElem.1 hnd i k (by simp; omega) (by simpa using hlt) h1
   simp only [List.getElem_map] at hnd'
   exact hnd' he'
  generalize l[k] = x at hm htk hnew
  have hput:=mput_new (MKey.int x.group) x.pv (keysP (l.take k)) ((l.take k).map Pt.pv) (by simp) hnew
  have e1 : keysP (l.take (k + 1)) = keysP (l.take k) ++ [MKey.int x.group]:=by rw [htk]; simp
  have e2 : (l.take (k + 1)).map Pt.pv = (l.take k).map Pt.pv ++ [x.pv]:=by rw [htk]; simp
  simp only [Pt.pv] at hput e2
  simp -implicitDefEqProofs (disch:=omega) only [h3,h7,h8,h9,hh6_0,hlt,hm,hput,go_sem,↓reduceIte,rA,rS,rE,rL,reduceCtorEq]
  try refine And.intro (by omega) ?_
  refine (hI _ _).2 ⟨?_,?_,?_,?_,?_⟩
  all_goals exact cl0
 ·simp -implicitDefEqProofs (disch:=omega) only [h3,h7,h8,h9,hh6_0,hge,go_sem,↓reduceIte,rA,rS,rE,rL,reduceCtorEq]
  rw [ltl (by omega)]
def zeroPt : Pt:=⟨0,0,0,0,0⟩
def partOf (l : List Pt) (g : Int) : Pt:=(l.find? fun x=>decide (x.group = g)).getD zeroPt
structure PtOk (x : Pt) : Prop where
 u0 : 0 <= x.usage
 u1 : x.usage <= 16777216
 p0 : 0 <= x.protect
 p1 : x.protect <= 16777216
 o0 : 0 <= x.own
 o1 : x.own <= 16777216
 r0 : 0 <= x.room
 r1 : x.room <= 4611686018427387904
theorem zeroPt_ok : PtOk zeroPt:=⟨by decide,by decide,by decide,by decide,by decide,by decide,by decide,by decide⟩
theorem partOf_ok {l : List Pt} (h : ∀ x ∈ l,PtOk x) (g : Int) : PtOk (partOf l g):=by
 unfold partOf
 cases he : l.find? fun x=>decide (x.group = g) with
 | none=>exact zeroPt_ok
 | some x=>exact h x (List.mem_of_find?_eq_some he)
theorem mget_parts (g : Int) : ∀ (l : List Pt),mget (keysP l) (l.map Pt.pv) (.int g) = (l.find? fun x=>decide (x.group = g)).map Pt.pv
 | []=>rfl
 | x :: l=>by
  have:=mget_parts g l
  by_cases he : x.group = g
  ·simp [mget,List.find?_cons,he]
  ·have he' : ¬ g = x.group:=fun h=>he h.symm
   simp only [lpc,mget,List.find?_cons,he,decide_false,MKey.int.injEq,he',if_false]
   exact this
theorem getD_parts (g : Int) (l : List Pt) : ((l.find? fun x=>decide (x.group = g)).map Pt.pv).getD (.agg [.int .i64 0,.int .i64 0,.int .i64 0,.int .i64 0,.int .i64 0]) = (partOf l g).pv:=by
 unfold partOf
 cases l.find? fun x=>decide (x.group = g) <;> rfl
def capN (ns : List Nd) (l : List Pt) : Nat -> Int -> Int
 | 0,_=>0
 | k + 1,g=>min (min (max 0 ((partOf l g).usage - (partOf l g).protect)) (partOf l g).room) ((partOf l g).own + sumI ((kidsN ns g).map (capN ns l k)))
theorem capN_bound {ns : List Nd} {l : List Pt} (h : ∀ x ∈ l,PtOk x) : ∀ (k : Nat) (g : Int),0 <= capN ns l k g /\ capN ns l k g <= 16777216
 | 0,_=>by simp [capN]
 | k + 1,g=>by
  have h1:=partOf_ok h g
  have h2:=sumI_nonneg ((kidsN ns g).map (capN ns l k)) (by
   intro x hx
   obtain ⟨y,_,rfl⟩:=lmm.1 hx
   exact (capN_bound h k y).1)
  have:=h1.u0; have:=h1.u1; have:=h1.p0; have:=h1.o0; have:=h1.r0
  simp only [capN]
  omega
set_option maxHeartbeats 2000000 in
theorem mcap_eq0 {t : Tr} (h : TreeOk t) {l : List Pt} (hp : ∀ x ∈ l,PtOk x) : ∀ (k i : Nat) (n : Nd),t.nodes[i]? = some n -> t.nodes.length <= i + k -> V 123 [t.vv,.p (mapP l),.p (.int .i64 n.id)] [] = some (.p (.int .i64 (capN t.nodes l k n.id)),[]):=by
 intro k
 induction k with
 | zero=>intro i n hn hk; have:=(lgs.1 hn).1; omega
 | succ k ih =>
  intro i n hn hk
  have hlen:=h.len
  refine V_wp (vf:=vf123) rfl ?_
  have hkd:=fkids_eq t n.id (by omega)
  have hkl:=kidsN_len t.nodes n.id
  have hkm : ∀ c ∈ kidsN t.nodes n.id,V 123 [t.vv,.p (mapP l),.p (.int .i64 c)] [] = some (.p (.int .i64 (capN t.nodes l k c)),[]):=by
   intro c hc
   obtain ⟨j,m,hj,hp,rfl⟩:=mem_kidsN.1 hc
   have hij:=h.kid hn hj hp
   exact ih j m hj (by omega)
  rw [show capN t.nodes l (k + 1) n.id = min (min (max 0 ((partOf l n.id).usage - (partOf l n.id).protect)) (partOf l n.id).room) ((partOf l n.id).own + sumI ((kidsN t.nodes n.id).map (capN t.nodes l k))) from rfl]
  have hx:=partOf_ok hp n.id
  have hu0:=hx.u0; have hu1:=hx.u1; have hp0:=hx.p0; have hp1:=hx.p1; have ho0:=hx.o0; have ho1:=hx.o1; have hr0:=hx.r0; have hr1:=hx.r1
  clear hx
  have hget:=mget_parts n.id l
  have hgd:=getD_parts n.id l
  generalize partOf l n.id = x at hgd hu0 hu1 hp0 hp1 ho0 ho1 hr0 hr1
  generalize kidsN t.nodes n.id = ks at hkd hkl hkm
  simp -implicitDefEqProofs (disch:=omega) only [vf123,vb123,hkd,hget,hgd,go_sem,↓reduceIte,rA,rS,rE,rL,reduceCtorEq]
  obtain ⟨J,hJ⟩ : ∃ I : Nat -> St -> Prop,∀ j s,I j s ↔ ∃ (s0 : Int),s0 = x.own + sumI ((ks.take j).map (capN t.nodes l k)) /\ 0 <= s0 /\ s0 <= 16777216 * (j + 1) /\ s.pe 1 = .p (mapP l) /\ s.pe 3 = .ptr (.slot 3 0) 0 0 /\ s.pe 7 = .ptr (.slot 7 0) 0 0 /\ s.pe 8 = .p (.int .i64 s0) /\ s.pe 18 = .own (.slot 18 1) 0 0 ks.length /\ s.pe 19 = .p (.int .i64 ↑ks.length) /\ s.pe 20 = .p (.int .i64 j) /\ s.h (.slot 3 0) = some (0,Ob.box [.p (nodesP t.nodes),.p (.int .i64 t.next)]) /\ s.h (.slot 7 0) = some (0,Ob.box [.p (.int .i64 x.group),.p (.int .i64 x.usage),.p (.int .i64 x.protect),.p (.int .i64 x.own),.p (.int .i64 x.room)]) /\ s.h (.slot 18 1) = some (0,Ob.arr 1 (List.map (.int .i64) ks)):=⟨_,fun _ _=>Iff.rfl⟩
  refine wp_count (ks.length) J ?_ ?_
  ·refine (hJ _ _).2 ⟨x.own,?_,?_,?_,?_,?_,?_,?_,?_,?_,?_,?_,?_,?_⟩
   .exact by simp [sumI]
   .exact cl3
   .exact cl3
   all_goals exact cl0
  intro j s hj hJk
  obtain ⟨s0,hs0,hs1,hs2,h1,h3,h7,h8,h18,h19,h20,hh3_0,hh7_0,hh18_1⟩:=(hJ _ _).1 hJk
  clear hJk
  simp -implicitDefEqProofs (disch:=omega) only [h1,h3,h7,h8,h18,h19,h20,hh3_0,hh7_0,hh18_1,go_sem,↓reduceIte,rA,rS,rE,rL,reduceCtorEq]
  refine wp_if_d (fun hlt=>?_) (fun hge=>?_)
  ·have hm : ks[j]? = some ks[j]:=lgg hlt
   have htk:=sumI_take_succ (f:=capN t.nodes l k) hm
   generalize ks[j] = c at hm htk
   have hc:=hkm c (lmg hm)
   have hb:=capN_bound (ns:=t.nodes) hp k c
   generalize capN t.nodes l k c = v at hc hb htk
   have hb0:=hb.1
   have hb1:=hb.2
   simp -implicitDefEqProofs (disch:=omega) only [h1,h3,h7,h8,h18,h19,h20,hh3_0,hh7_0,hh18_1,hlt,hm,hc,go_sem,↓reduceIte,rA,rS,rE,rL,reduceCtorEq]
   try refine And.intro (by omega) ?_
   refine (hJ _ _).2 ⟨s0 + v,?_,?_,?_,?_,?_,?_,?_,?_,?_,?_,?_,?_,?_⟩
   .exact by rw [htk,hs0]; omega
   .omega
   .omega
   all_goals exact cl0
  ·rw [ltl (by omega)] at hs0
   simp -implicitDefEqProofs (disch:=omega) only [h1,h3,h7,h8,h18,h19,h20,hh3_0,hh7_0,hh18_1,hge,go_sem,↓reduceIte,rA,rS,rE,rL,reduceCtorEq]
   rw [hs0]
def baseD (k y : Int) (w : List Int) : List Int:=w.map fun x=>k * x / y
def bumpD : Int -> List Int -> List Int -> List Int
 | left,o :: os,w :: ws=>if 0 < left /\ o < w then (o + 1) :: bumpD (left - 1) os ws else o :: bumpD left os ws
 | _,os,_=>os
def splitP (k : Int) (w : List Int) : List Int:=if sumI w = 0 then w.map (fun _=>0) else bumpD (k - sumI (baseD k (sumI w) w)) (baseD k (sumI w) w) w
theorem bumpD_length : ∀ (left : Int) (o w : List Int),(bumpD left o w).length = o.length
 | left,o :: os,w :: ws=>by
  have h1:=bumpD_length (left - 1) os ws
  have h2:=bumpD_length left os ws
  unfold bumpD
  split <;> simp [h1,h2]
 | _,[],_=>by unfold bumpD; rfl
 | _,_ :: _,[]=>by unfold bumpD; rfl
theorem splitP_length (k : Int) (w : List Int) : (splitP k w).length = w.length:=by
 unfold splitP
 split
 .simp
 .simp [bumpD_length,baseD]
theorem map_set_int (l : List Int) (i : Nat) (v : Int) : (List.map (PV.int .i64) l).set i (.int .i64 v) = List.map (PV.int .i64) (l.set i v):=List.map_set.symm
theorem map_get_int {l : List Int} {i : Nat} {v : Int} (h : l[i]? = some v) : (List.map (PV.int .i64) l)[i]? = some (.int .i64 v):=by rw [List.getElem?_map,h]; rfl
theorem zeros_map : ∀ (w : List Int),List.replicate w.length (PV.int .i64 0) = List.map (PV.int .i64) (w.map fun _=>0)
 | []=>rfl
 | x :: w=>by
  have:=zeros_map w
  simp only [llc,List.replicate_succ,lpc,this]
theorem take_set_succ {l : List Int} {i : Nat} {v : Int} (h : i < l.length) : (l.set i v).take (i + 1) = l.take i ++ [v]:=by
 rw [List.take_succ_eq_append_getElem (by simpa using h),List.take_set_of_le (lrf _)]
 simp
theorem sumI_snoc (l : List Int) (x : Int) : sumI (l ++ [x]) = sumI l + x:=by
 rw [sumI_append]
 simp [sumI]
set_option maxHeartbeats 4000000 in
theorem split_eq (K : Int) (w : List Int) (hk0 : 0 <= K) (hk1 : K <= 16777216) (hl : w.length < 1000) (hw : ∀ x ∈ w,0 <= x /\ x <= 16777216) : V 124 [.p (.int .i64 K),.p (intsP w)] [] = some (.fresh 1 ((splitP K w).map (.int .i64)),[]):=by
 refine V_wp (vf:=vf124) rfl ?_
 simp -implicitDefEqProofs (disch:=omega) only [vf124,vb124,go_sem,↓reduceIte,rA,rS,rE,rL,reduceCtorEq]
 obtain ⟨I,hI⟩ : ∃ I : Nat -> St -> Prop,∀ k s,I k s ↔ ∃ (y : Int),y = sumI (w.take k) /\ 0 <= y /\ y <= 16777216 * k /\ s.pe 0 = .p (.int .i64 K) /\ s.pe 1 = .p (intsP w) /\ s.pe 5 = .p (.int .i64 y) /\ s.pe 14 = .p (intsP w) /\ s.pe 15 = .p (.int .i64 ↑w.length) /\ s.pe 16 = .p (.int .i64 k):=⟨_,fun _ _=>Iff.rfl⟩
 refine wp_count (w.length) I ?_ ?_
 ·refine (hI _ _).2 ⟨0,?_,?_,?_,?_,?_,?_,?_,?_,?_⟩
  ·exact by simp [sumI]
  ·exact cl3
  ·exact cl3
  all_goals exact cl0
 intro k s hk hIk
 obtain ⟨y,hy,hy0,hy1,h0,h1,h5,h14,h15,h16⟩:=(hI _ _).1 hIk
 clear hIk
 simp -implicitDefEqProofs (disch:=omega) only [h0,h1,h5,h14,h15,h16,go_sem,↓reduceIte,rA,rS,rE,rL,reduceCtorEq]
 refine wp_if_d (fun hlt=>?_) (fun hge=>?_)
 ·have hm : w[k]? = some w[k]:=lgg hlt
  have htk:=sumI_take_succ (f:=fun x=>x) hm
  rw [List.map_id',List.map_id'] at htk
  have hb:=hw _ (lmg hm)
  generalize w[k] = x at hm htk hb
  have hb0:=hb.1
  have hb1:=hb.2
  simp -implicitDefEqProofs (disch:=omega) only [h0,h1,h5,h14,h15,h16,hlt,hm,go_sem,↓reduceIte,rA,rS,rE,rL,reduceCtorEq]
  try refine And.intro (by omega) ?_
  refine (hI _ _).2 ⟨y + x,?_,?_,?_,?_,?_,?_,?_,?_,?_⟩
  ·exact by rw [htk,hy]
  ·omega
  ·omega
  all_goals exact cl0
 ·rw [List.take_of_length_le (by omega)] at hy
  unfold splitP
  rw [← hy]
  by_cases hyz : y = 0
  ·rw [if_pos hyz]
   simp -implicitDefEqProofs (disch:=omega) only [h0,h1,h5,h14,h15,h16,hge,hyz,go_sem,↓reduceIte,rA,rS,rE,rL,reduceCtorEq]
   rw [ltl (by simp)]
   congr 2
   exact zeros_map w
  ·rw [if_neg hyz]
   simp -implicitDefEqProofs (disch:=omega) only [h0,h1,h5,h14,h15,h16,hge,hyz,zeros_map,go_sem,↓reduceIte,rA,rS,rE,rL,reduceCtorEq]
   obtain ⟨J,hJ⟩ : ∃ I : Nat -> St -> Prop,∀ j s,I j s ↔ ∃ (v26_0 : Nat) (arr : List Int) (left : Int),arr.length = w.length /\ arr.take j = baseD K y (w.take j) /\ left = K - sumI (arr.take j) /\ -(281474976710656 * j : Int) <= left /\ left <= 16777216 /\ s.pe 0 = .p (.int .i64 K) /\ s.pe 1 = .p (intsP w) /\ s.pe 5 = .p (.int .i64 y) /\ s.pe 8 = .own (.slot 26 0) v26_0 0 w.length /\ s.pe 9 = .p (.int .i64 left) /\ s.pe 31 = .p (intsP w) /\ s.pe 32 = .p (.int .i64 ↑w.length) /\ s.pe 33 = .p (.int .i64 j) /\ s.h (.slot 26 0) = some (v26_0,Ob.arr 1 (arr.map (.int .i64))):=⟨_,fun _ _=>Iff.rfl⟩
   refine wp_count (w.length) J ?_ ?_
   ·refine (hJ _ _).2 ⟨nv (s.h (.slot 26 0)),w.map fun _=>0,K,?_,?_,?_,?_,?_,?_,?_,?_,?_,?_,?_,?_,?_,?_⟩
    ·exact by simp
    ·rfl
    ·exact by simp [sumI]
    ·exact cl3
    ·exact cl3
    all_goals exact cl0
   intro j s hj hJk
   obtain ⟨v26_0,arr,left,harl,hpre,hlf,hl0,hl1,h0,h1,h5,h8,h9,h31,h32,h33,hh26_0⟩:=(hJ _ _).1 hJk
   clear hJk
   simp -implicitDefEqProofs (disch:=omega) only [h0,h1,h5,h8,h9,h31,h32,h33,hh26_0,go_sem,↓reduceIte,rA,rS,rE,rL,reduceCtorEq]
   refine wp_if_d (fun hlt=>?_) (fun hge=>?_)
   ·have hm : w[j]? = some w[j]:=lgg hlt
    have htk:=take_snoc hm
    have hb:=hw _ (lmg hm)
    generalize w[j] = x at hm htk hb
    have hb0:=hb.1
    have hb1:=hb.2
    have hm0 : 0 <= K * x:=Int.mul_nonneg hk0 hb0
    have hm1 : K * x <= 281474976710656:=by
     have:=Int.mul_le_mul hk1 hb1 hb0 (by omega)
     omega
    have hq : (K * x).tdiv y = K * x / y:=Int.tdiv_eq_ediv_of_nonneg hm0
    have hq0 : 0 <= K * x / y:=Int.ediv_nonneg hm0 hy0
    have hq1 : K * x / y <= K * x:=Int.ediv_le_self _ hm0
    have hbd : baseD K y (w.take (j + 1)) = baseD K y (w.take j) ++ [K * x / y]:=by rw [htk]; simp [baseD]
    generalize K * x / y = q at hq hq0 hq1 hbd
    obtain ⟨p,hp⟩ : ∃ p,K * x = p:=⟨_,rfl⟩
    rw [hp] at hm0 hm1 hq hq1
    have hset:=map_set_int arr j q
    have hget : (List.map (PV.int .i64) (arr.set j q))[j]? = some (.int .i64 q):=map_get_int (by rw [List.getElem?_set_self (by omega)])
    have hga : arr[j]? = some arr[j]:=lgg (by omega)
    generalize arr[j] = z at hga
    simp -implicitDefEqProofs (disch:=omega) only [h0,h1,h5,h8,h9,h31,h32,h33,hh26_0,hlt,hm,hyz,hp,hq,hset,hget,hga,List.headD_cons,go_sem,↓reduceIte,rA,rS,rE,rL,reduceCtorEq]
    try refine And.intro (by omega) ?_
    refine (hJ _ _).2 ⟨v26_0,arr.set j q,left - q,?_,?_,?_,?_,?_,?_,?_,?_,?_,?_,?_,?_,?_,?_⟩
    ·exact by rw [List.length_set,harl]
    ·exact by rw [take_set_succ (by omega),hpre,hbd]
    ·exact by rw [take_set_succ (by omega),sumI_snoc,hlf]; omega
    ·omega
    ·omega
    all_goals exact cl0
   ·have hjw : j = w.length:=by omega
    subst hjw
    rw [List.take_length] at hpre
    rw [ltl (by omega)] at hpre hlf
    rw [<- hpre,<- hlf]
    have hl0' : -(281474976710656000 : Int) <= left:=by omega
    clear hl0
    have hnn : ∀ o ∈ arr,0 <= o:=by
     rw [hpre]
     intro o ho
     obtain ⟨x,hx,rfl⟩:=lmm.1 ho
     exact Int.ediv_nonneg (Int.mul_nonneg hk0 (hw x hx).1) hy0
    simp -implicitDefEqProofs (disch:=omega) only [h0,h1,h5,h8,h9,h31,h32,h33,hh26_0,hge,go_sem,↓reduceIte,rA,rS,rE,rL,reduceCtorEq]
    obtain ⟨M,hM⟩ : ∃ I : Nat -> St -> Prop,∀ m s,I m s ↔ ∃ (a2 : List Int) (lf : Int),a2.length = w.length /\ a2.take m ++ bumpD lf (arr.drop m) (w.drop m) = bumpD left arr w /\ a2.drop m = arr.drop m /\ -(281474976710656000 : Int) - m <= lf /\ lf <= 16777216 /\ s.pe 8 = .own (.slot 26 0) v26_0 0 w.length /\ s.pe 9 = .p (.int .i64 lf) /\ s.pe 53 = .p (intsP w) /\ s.pe 54 = .p (.int .i64 ↑w.length) /\ s.pe 55 = .p (.int .i64 m) /\ s.h (.slot 26 0) = some (v26_0,Ob.arr 1 (a2.map (.int .i64))):=⟨_,fun _ _=>Iff.rfl⟩
    refine wp_count (w.length) M ?_ ?_
    ·refine (hM _ _).2 ⟨arr,left,?_,?_,?_,?_,?_,?_,?_,?_,?_,?_,?_⟩
     ·exact cl3
     ·exact by simp
     ·rfl
     ·exact cl3
     ·exact cl3
     all_goals exact cl0
    intro m s hm hMk
    obtain ⟨a2,lf,hal,hbp,hdd,hm0,hm1,h8,h9,h53,h54,h55,hh26_0⟩:=(hM _ _).1 hMk
    clear hMk
    simp -implicitDefEqProofs (disch:=omega) only [h8,h9,h53,h54,h55,hh26_0,go_sem,↓reduceIte,rA,rS,rE,rL,reduceCtorEq]
    refine wp_if_d (fun hlt=>?_) (fun hge=>?_)
    ·have hm : w[m]? = some w[m]:=lgg hlt
     have hga : arr[m]? = some arr[m]:=lgg (by omega)
     have hdw : w.drop m = w[m] :: w.drop (m + 1):=ldg hlt
     have hda : arr.drop m = arr[m] :: arr.drop (m + 1):=ldg (by omega)
     have hb:=hw _ (lmg hm)
     generalize w[m] = x at hm hdw hb
     generalize arr[m] = o at hga hda
     have hb1:=hb.2
     have hga2 : a2[m]? = some o:=by
      have : (a2.drop m)[0]? = (arr.drop m)[0]?:=by rw [hdd]
      rw [List.getElem?_drop,List.getElem?_drop] at this
      simpa [hga] using this
     have htk2:=take_snoc hga2
     have hdd' : a2.drop (m + 1) = arr.drop (m + 1):=by
      have:=congrArg (List.drop 1) hdd
      simpa [List.drop_drop,Nat.add_comm] using this
     rw [hdw,hda,bumpD] at hbp
     by_cases hlf0 : 0 < lf
     ·by_cases hox : o < x
      ·rw [if_pos ⟨hlf0,hox⟩] at hbp
       have ho0:=hnn o (lmg hga)
       have hset:=map_set_int a2 m (o + 1)
       simp -implicitDefEqProofs (disch:=omega) only [h8,h9,h53,h54,h55,hh26_0,hlt,hm,hga2,hlf0,hox,hset,List.headD_cons,go_sem,↓reduceIte,rA,rS,rE,rL,reduceCtorEq]
       try refine And.intro (by omega) ?_
       refine (hM _ _).2 ⟨a2.set m (o + 1),lf - 1,?_,?_,?_,?_,?_,?_,?_,?_,?_,?_,?_⟩
       .exact by rw [List.length_set,hal]
       .exact by rw [take_set_succ (by omega),laa]; exact hbp
       .exact by rw [List.drop_set_of_lt (by omega),hdd']
       .omega
       .omega
       all_goals exact cl0
      ·rw [if_neg (fun h=>hox h.2)] at hbp
       simp -implicitDefEqProofs (disch:=omega) only [h8,h9,h53,h54,h55,hh26_0,hlt,hm,hga2,hlf0,hox,go_sem,↓reduceIte,rA,rS,rE,rL,reduceCtorEq]
       try refine And.intro (by omega) ?_
       refine (hM _ _).2 ⟨a2,lf,?_,?_,?_,?_,?_,?_,?_,?_,?_,?_,?_⟩
       .exact hal
       .exact by rw [htk2,laa]; exact hbp
       .exact hdd'
       .omega
       .omega
       all_goals exact cl0
     ·rw [if_neg (fun h=>hlf0 h.1)] at hbp
      simp -implicitDefEqProofs (disch:=omega) only [h8,h9,h53,h54,h55,hh26_0,hlt,hm,hga2,hlf0,go_sem,↓reduceIte,rA,rS,rE,rL,reduceCtorEq]
      try refine And.intro (by omega) ?_
      refine (hM _ _).2 ⟨a2,lf,?_,?_,?_,?_,?_,?_,?_,?_,?_,?_,?_⟩
      .exact hal
      .exact by rw [htk2,laa]; exact hbp
      .exact hdd'
      .omega
      .omega
      all_goals exact cl0
    ·rw [ldl (by omega),ldl (by omega),ltl (by omega)] at hbp
     have hbn : bumpD lf [] [] = []:=by unfold bumpD; rfl
     rw [hbn,lan] at hbp
     simp -implicitDefEqProofs (disch:=omega) only [h8,h9,h53,h54,h55,hh26_0,hge,go_sem,↓reduceIte,rA,rS,rE,rL,reduceCtorEq]
     rw [ltl (by rw [llm]; omega),hbp]
theorem partOk_iff (x : Pt) (g : Int) : partOk x g = true ↔ x.group = g /\ PtOk x:=by
 simp only [partOk,pagesB,bat,decide_eq_true_eq]
 constructor
 ·rintro ⟨⟨⟨⟨h1,h2⟩,h3⟩,h4⟩,h5⟩
  exact ⟨h1,h2.1,h2.2,h3.1,h3.2,h4.1,h4.2,h5.1,h5.2⟩
 ·rintro ⟨h1,h⟩
  exact ⟨⟨⟨⟨h1,h.u0,h.u1⟩,h.p0,h.p1⟩,h.o0,h.o1⟩,h.r0,h.r1⟩
theorem partsOk_iff : ∀ (l : List Pt) (g : List Int),partsOk l g = true ↔ l.map (·.group) = g /\ ∀ x ∈ l,PtOk x
 | [],[]=>by simp [partsOk]
 | x :: l,y :: g=>by
  simp only [partsOk,bat,partOk_iff,partsOk_iff l g,lpc,List.cons.injEq,lmk,forall_eq_or_imp]
  constructor
  .rintro ⟨⟨a,b⟩,c,d⟩; exact ⟨⟨a,c⟩,b,d⟩
  .rintro ⟨⟨a,c⟩,b,d⟩; exact ⟨⟨a,b⟩,c,d⟩
 | [],_ :: _=>by simp [partsOk]
 | _ :: _,[]=>by simp [partsOk]
structure PartsOk (t : Tr) (l : List Pt) (root : Int) : Prop where
 tree : TreeOk t
 top : InN t.nodes root
 groups : l.map (·.group) = msort (subT t root)
 ok : ∀ x ∈ l,PtOk x
theorem subT_some {t : Tr} (h : TreeOk t) {i : Nat} {n : Nd} (hn : t.nodes[i]? = some n) : subT t n.id = subF t.nodes t.nodes.length n.id:=by
 rw [subT,if_pos]
 rw [findT_ok ((treeOk_iff t).2 h),findN_unique h.inc hn]
 rfl
theorem subT_ne {t : Tr} (h : TreeOk t) {root : Int} : subT t root ≠ [] ↔ InN t.nodes root:=by
 constructor
 ·intro hne
  unfold subT at hne
  by_cases hf : (findT t root).isSome = true
  ·rw [findT_ok ((treeOk_iff t).2 h)] at hf
   obtain ⟨n,hn,he⟩:=findN_some hf
   obtain ⟨i,hi⟩:=lgm hn
   exact ⟨i,n,hi,he⟩
  ·rw [if_neg hf] at hne
   exact absurd rfl hne
 ·rintro ⟨i,n,hn,rfl⟩
  rw [subT_some h hn]
  exact subF_mem h ⟨i,n,hn,rfl⟩
theorem validP_iff (t : Tr) (l : List Pt) (root : Int) : validP t l root = true ↔ PartsOk t l root:=by
 simp only [validP,bat,treeOk_iff,partsOk_iff,Bool.not_eq_true',List.isEmpty_eq_false_iff]
 constructor
 ·rintro ⟨h,h2,h3,h4⟩
  exact ⟨h,(subT_ne h).1 h2,h3,h4⟩
 ·rintro ⟨h1,h2,h3,h4⟩
  exact ⟨h1,(subT_ne h1).2 h2,h3,h4⟩
theorem msort_perm (l : List Int) : (msort l).Perm l:=List.mergeSort_perm _ _
theorem nodup_subT {t : Tr} (h : TreeOk t) (root : Int) : (subT t root).Nodup:=by
 by_cases hr : InN t.nodes root
 ·obtain ⟨i,n,hn,rfl⟩:=hr
  rw [subT_some h hn]
  exact nodup_subF h _ i n hn (by omega)
 ·have : subT t root = []:=by
   cases hs : subT t root with
   | nil=>rfl
   | cons a b=>exact absurd ((subT_ne h).1 (by rw [hs]; simp)) hr
  rw [this]
  exact List.nodup_nil
theorem PartsOk.nodup {t : Tr} {l : List Pt} {root : Int} (h : PartsOk t l root) : (l.map (·.group)).Nodup:=by
 rw [h.groups]
 exact (msort_perm _).nodup_iff.2 (nodup_subT h.tree root)
theorem PartsOk.length {t : Tr} {l : List Pt} {root : Int} (h : PartsOk t l root) : l.length <= 64:=by
 have h1:=congrArg List.length h.groups
 have h2:=subT_len h.tree root
 have h3:=h.tree.len
 rw [llm,msort_length] at h1
 omega
abbrev capR (t : Tr) (l : List Pt) (g : Int) : Int:=capN t.nodes l t.nodes.length g
theorem mcap_eq {t : Tr} (h : TreeOk t) {l : List Pt} (hp : ∀ x ∈ l,PtOk x) {g : Int} (hg : InN t.nodes g) : V 123 [t.vv,.p (mapP l),.p (.int .i64 g)] [] = some (.p (.int .i64 (capR t l g)),[]):=by
 obtain ⟨i,n,hn,rfl⟩:=hg
 exact mcap_eq0 h hp _ i n hn (by omega)
theorem bumpD_bound {B : Int} : ∀ (left : Int) (o w : List Int),(∀ z ∈ o,0 <= z /\ z <= B) -> (∀ x ∈ w,x <= B) -> ∀ z ∈ bumpD left o w,0 <= z /\ z <= B
 | left,o :: os,w :: ws,ho,hw,z,hz=>by
  have h1:=bumpD_bound (B:=B) (left - 1) os ws (fun z hz=>ho z (by simp [hz])) (fun z hz=>hw z (by simp [hz]))
  have h2:=bumpD_bound (B:=B) left os ws (fun z hz=>ho z (by simp [hz])) (fun z hz=>hw z (by simp [hz]))
  have h3:=ho o (by simp)
  have h4:=hw w (by simp)
  unfold bumpD at hz
  split at hz
  ·rename_i hc
   rcases lmk.1 hz with rfl | hz
   .omega
   .exact h1 z hz
  ·rcases lmk.1 hz with rfl | hz
   .exact h3
   .exact h2 z hz
 | left,[],w,ho,_,z,hz=>by unfold bumpD at hz; exact ho z hz
 | left,o :: os,[],ho,_,z,hz=>by unfold bumpD at hz; exact ho z hz
theorem mem_le_sumI {x : Int} : ∀ (l : List Int),(∀ y ∈ l,0 <= y) -> x ∈ l -> x <= sumI l
 | [],_,h=>by simp at h
 | y :: l,h,hx=>by
  have h1:=sumI_nonneg l (fun z hz=>h z (by simp [hz]))
  have h2:=h y (by simp)
  simp only [sumI]
  rcases lmk.1 hx with rfl | hx
  ·omega
  ·have:=mem_le_sumI l (fun z hz=>h z (by simp [hz])) hx
   omega
theorem splitP_bound {K : Int} {w : List Int} (h0 : 0 <= K) (h1 : K <= 16777216) (hw : ∀ x ∈ w,0 <= x /\ x <= 16777216) : ∀ z ∈ splitP K w,0 <= z /\ z <= 16777216:=by
 unfold splitP
 split
 ·intro z hz
  obtain ⟨_,_,rfl⟩:=lmm.1 hz
  omega
 ·rename_i hy
  have hs:=sumI_nonneg w (fun x hx=>(hw x hx).1)
  refine bumpD_bound _ _ _ (fun z hz=>?_) (fun x hx=>(hw x hx).2)
  obtain ⟨x,hx,rfl⟩:=lmm.1 hz
  have hxy:=mem_le_sumI w (fun x hx=>(hw x hx).1) hx
  refine ⟨Int.ediv_nonneg (Int.mul_nonneg h0 (hw x hx).1) hs,?_⟩
  have : K * x / sumI w <= K:=Int.ediv_le_of_le_mul (by omega) (Int.mul_le_mul_of_nonneg_left hxy h0)
  omega
def takeN (ns : List Nd) (l : List Pt) (cap : Int -> Int) : Nat -> Int -> Int -> List (Int × Int)
 | 0,_,_=>[]
 | k + 1,g,K=>(if 0 < (splitP K ((partOf l g).own :: (kidsN ns g).map cap)).headD 0 then [(g,(splitP K ((partOf l g).own :: (kidsN ns g).map cap)).headD 0)] else []) ++ ((kidsN ns g).zip (splitP K ((partOf l g).own :: (kidsN ns g).map cap)).tail).flatMap fun p=>if 0 < p.2 then takeN ns l cap k p.1 p.2 else []
theorem zip_flat_le {f : Int -> Int -> List (Int × Int)} {g : Int -> List Int} (h : ∀ a b,(f a b).length <= (g a).length) : ∀ (xs ys : List Int),((xs.zip ys).flatMap fun p=>if 0 < p.2 then f p.1 p.2 else []).length <= (xs.flatMap g).length
 | [],_=>by simp
 | _ :: _,[]=>by simp
 | x :: xs,y :: ys=>by
  have h1:=zip_flat_le h xs ys
  have h2:=h x y
  rw [List.zip_cons_cons,lfc,lfc,lla,lla]
  show (if 0 < y then f x y else []).length + _ <= _
  split
  ·omega
  ·simp only [lln]
   omega
theorem take_zip' : ∀ (m : Nat) (xs ys : List Int),(xs.zip ys).take m = (xs.take m).zip (ys.take m)
 | 0,_,_=>by simp
 | _ + 1,[],_=>by simp
 | _ + 1,_ :: _,[]=>by simp
 | m + 1,x :: xs,y :: ys=>by simp [take_zip' m xs ys]
theorem flat_take {f : Int -> List Int} {ks : List Int} {m : Nat} {c : Int} (h : ks[m]? = some c) : ((ks.take m).flatMap f).length + (f c).length <= (ks.flatMap f).length:=by
 have h1 : ks = ks.take (m + 1) ++ ks.drop (m + 1):=(List.take_append_drop _ _).symm
 have h2 : (ks.flatMap f).length = ((ks.take (m + 1)).flatMap f).length + ((ks.drop (m + 1)).flatMap f).length:=by
  rw [<- lla,<- List.flatMap_append,<- h1]
 rw [h2,take_snoc h,List.flatMap_append,lla,List.flatMap_singleton]
 omega
theorem takeN_length (ns : List Nd) (l : List Pt) (cap : Int -> Int) : ∀ (k : Nat) (g K : Int),(takeN ns l cap k g K).length <= (subF ns k g).length
 | 0,_,_=>by simp [takeN]
 | k + 1,g,K=>by
  have h1:=zip_flat_le (f:=takeN ns l cap k) (g:=subF ns k) (takeN_length ns l cap k) (kidsN ns g) (splitP K ((partOf l g).own :: (kidsN ns g).map cap)).tail
  rw [takeN,subF,lla,llc]
  split
  ·simp only [List.length_singleton]
   omega
  ·simp only [lln]
   omega
abbrev tkP (p : Int × Int) : PV:=.agg [.int .i64 p.1,.int .i64 p.2]
abbrev capsR : List VVal:=[.ptr (.arg 0 0) 0 0,.ptr (.arg 1 0) 0 0,.ptr (.arg 2 0) 0 0,.ptr (.arg 3 0) 0 0]
abbrev HR (t : Tr) (l : List Pt) (out : List (Int × Int)) : List Ob:=[.box [.p (nodesP t.nodes),.p (.int .i64 t.next)],.box [.p (mapP l)],.box [.own (.arg 4 0) 0 0 out.length],.box [.fn 122 capsR],.arr 2 (out.map tkP)]
def HR' (t : Tr) (l : List Pt) (out more : List (Int × Int)) : List Ob:=if more = [] then HR t l out else [.box [.p (nodesP t.nodes),.p (.int .i64 t.next)],.box [.p (mapP l)],.box [.own (.arg 4 0) 1 0 (out ++ more).length],.box [.fn 122 capsR],.box [.undef,.fresh 2 ((out ++ more).map tkP)]]
set_option maxHeartbeats 4000000 in
theorem take_eq0 {t : Tr} (h : TreeOk t) {l : List Pt} (hp : ∀ x ∈ l,PtOk x) : ∀ (k i : Nat) (n : Nd) (K : Int) (out : List (Int × Int)),t.nodes[i]? = some n -> t.nodes.length <= i + k -> 0 <= K -> K <= 16777216 -> out.length + (subF t.nodes k n.id).length <= 1000 ->
  V 122 ([.p (.int .i64 n.id),.p (.int .i64 K)] ++ capsR) (HR t l out) = some (.tup [],HR' t l out (takeN t.nodes l (capR t l) k n.id K)):=by
 intro k
 induction k with
 | zero => intro i n K out hn hk; have:=(lgs.1 hn).1; omega
 | succ k ih =>
  intro i n K out hn hk hK0 hK1 hol
  have hlen:=h.len
  refine V_wp (vf:=vf122) rfl ?_
  have hkd:=fkids_eq t n.id (by omega)
  have hkl:=kidsN_len t.nodes n.id
  have hkm : ∀ c ∈ kidsN t.nodes n.id,V 123 [t.vv,.p (mapP l),.p (.int .i64 c)] [] = some (.p (.int .i64 (capR t l c)),[]):=by
   intro c hc
   obtain ⟨j,m,hj,hp',rfl⟩:=mem_kidsN.1 hc
   exact mcap_eq h hp ⟨j,m,hj,rfl⟩
  have hcb : ∀ c,0 <= capR t l c /\ capR t l c <= 16777216:=fun c=>capN_bound hp _ c
  have hsl : (subF t.nodes (k + 1) n.id).length = 1 + ((kidsN t.nodes n.id).flatMap (subF t.nodes k)).length:=by rw [subF,llc]; omega
  rw [hsl] at hol
  have hrec : ∀ c ∈ kidsN t.nodes n.id,∀ (K' : Int) (out' : List (Int × Int)),0 <= K' -> K' <= 16777216 -> out'.length + (subF t.nodes k c).length <= 1000 -> V 122 ([.p (.int .i64 c),.p (.int .i64 K')] ++ capsR) (HR t l out') = some (.tup [],HR' t l out' (takeN t.nodes l (capR t l) k c K')):=by
   intro c hc K' out' h0 h1 h2
   obtain ⟨j,m,hj,hp',rfl⟩:=mem_kidsN.1 hc
   have hij:=h.kid hn hj hp'
   exact ih j m K' out' hj (by omega) h0 h1 h2
  rw [takeN]
  have hx:=partOf_ok hp n.id
  have hget:=mget_parts n.id l
  have hgd:=getD_parts n.id l
  generalize partOf l n.id = x at hgd hx
  generalize kidsN t.nodes n.id = ks at hkd hkl hkm hrec hol
  simp -implicitDefEqProofs (disch:=omega) only [vf122,vb122,hkd,hget,hgd,HR,capsR,lca,lna,go_sem,↓reduceIte,rA,rS,rE,rL,reduceCtorEq]
  obtain ⟨J,hJ⟩ : ∃ I : Nat -> St -> Prop,∀ j s,I j s ↔ ∃ (w : List Int) (ww : Nat),w = x.own :: (ks.take j).map (capR t l) /\ w.length = j + 1 /\ s.pe 0 = .p (.int .i64 n.id) /\ s.pe 1 = .p (.int .i64 K) /\ s.pe 2 = .ptr (Id.arg 0 0) 0 0 /\ s.pe 3 = .ptr (Id.arg 1 0) 0 0 /\ s.pe 4 = .ptr (Id.arg 2 0) 0 0 /\ s.pe 5 = .ptr (Id.arg 3 0) 0 0 /\ s.pe 8 = .own (.slot 17 1) 0 0 ks.length /\ s.pe 9 = .own (.slot 22 0) ww 0 w.length /\ s.pe 23 = .own (.slot 17 1) 0 0 ks.length /\ s.pe 24 = .p (.int .i64 ↑ks.length) /\ s.pe 25 = .p (.int .i64 j) /\ s.h (.arg 0 0) = some (0,Ob.box [.p (nodesP t.nodes),.p (.int .i64 t.next)]) /\ s.h (.arg 1 0) = some (0,Ob.box [.p (mapP l)]) /\ s.h (.arg 2 0) = some (0,Ob.box [VVal.own (Id.arg 4 0) 0 0 out.length]) /\ s.h (.arg 3 0) = some (0,Ob.box [VVal.fn 122 [.ptr (Id.arg 0 0) 0 0,.ptr (Id.arg 1 0) 0 0,.ptr (Id.arg 2 0) 0 0,.ptr (Id.arg 3 0) 0 0]]) /\ s.h (.arg 4 0) = some (0,Ob.arr 2 (List.map tkP out)) /\ s.h (.slot 17 1) = some (0,Ob.arr 1 (List.map (.int .i64) ks)) /\ s.h (.slot 22 0) = some (ww,Ob.arr 1 (w.map (.int .i64))):=⟨_,fun _ _=>Iff.rfl⟩
  refine wp_count (ks.length) J ?_ ?_
  ·refine (hJ _ _).2 ⟨[x.own],0,?_,?_,?_,?_,?_,?_,?_,?_,?_,?_,?_,?_,?_,?_,?_,?_,?_,?_,?_,?_⟩
   ·exact by simp
   ·rfl
   all_goals exact cl0
  intro j s hj hJk
  obtain ⟨w,ww,hw,hwl,h0,h1,h2,h3,h4,h5,h8,h9,h23,h24,h25,ha0,ha1,ha2,ha3,ha4,hh17_1,hh22_0⟩:=(hJ _ _).1 hJk
  clear hJk
  simp -implicitDefEqProofs (disch:=omega) only [h0,h1,h2,h3,h4,h5,h8,h9,h23,h24,h25,ha0,ha1,ha2,ha3,ha4,hh17_1,hh22_0,go_sem,↓reduceIte,rA,rS,rE,rL,reduceCtorEq]
  refine wp_if_d (fun hlt=>?_) (fun hge=>?_)
  ·have hm : ks[j]? = some ks[j]:=lgg hlt
   have htk:=take_snoc hm
   generalize ks[j] = c at hm htk
   have hc:=hkm c (lmg hm)
   simp -implicitDefEqProofs (disch:=omega) only [h0,h1,h2,h3,h4,h5,h8,h9,h23,h24,h25,ha0,ha1,ha2,ha3,ha4,hh17_1,hh22_0,hlt,hm,hc,go_sem,↓reduceIte,rA,rS,rE,rL,reduceCtorEq]
   try refine And.intro (by omega) ?_
   refine (hJ _ _).2 ⟨w ++ [capR t l c],ww + 1,?_,?_,?_,?_,?_,?_,?_,?_,?_,?_,?_,?_,?_,?_,?_,?_,?_,?_,?_,?_⟩
   ·exact by rw [hw,htk]; simp
   ·exact by simp [hwl]
   all_goals exact cl0
  ·have hjl : j = ks.length:=by omega
   subst hjl
   rw [List.take_length] at hw
   have hwb : ∀ x ∈ w,0 <= x /\ x <= 16777216:=by
    rw [hw]
    intro y hy
    rcases lmk.1 hy with rfl | hy
    ·exact ⟨hx.o0,hx.o1⟩
    ·obtain ⟨c,_,rfl⟩:=lmm.1 hy
     exact hcb c
   rw [← hw]
   have hsp:=split_eq K w hK0 hK1 (by omega) hwb
   have hgl:=splitP_length K w
   have hgb:=splitP_bound hK0 hK1 hwb
   generalize splitP K w = got at hsp hgl hgb
   rcases got with - | ⟨g0,gs⟩
   ·simp only [lln] at hgl
    omega
   have hgs : gs.length = ks.length:=by
    rw [llc] at hgl
    omega
   have hg00:=(hgb g0 (by simp)).1
   have hg01:=(hgb g0 (by simp)).2
   have hgb' : ∀ z ∈ gs,0 <= z /\ z <= 16777216:=fun z hz=>hgb z (by simp [hz])
   rw [List.headD_cons,List.tail_cons]
   obtain ⟨F,hFd⟩ : ∃ F : Int × Int -> List (Int × Int),F = fun p=>if 0 < p.2 then takeN t.nodes l (capR t l) k p.1 p.2 else []:=⟨_,rfl⟩
   have hF0 : ∀ a b,0 < b -> F (a,b) = takeN t.nodes l (capR t l) k a b:=fun a b hb=>by rw [hFd]; exact if_pos hb
   have hF1 : ∀ a b,¬ 0 < b -> F (a,b) = []:=fun a b hb=>by rw [hFd]; exact if_neg hb
   have hFl : ∀ (xs ys : List Int),((xs.zip ys).flatMap F).length <= (xs.flatMap (subF t.nodes k)).length:=by
    rw [hFd]
    exact zip_flat_le (f:=takeN t.nodes l (capR t l) k) (g:=subF t.nodes k) (takeN_length t.nodes l (capR t l) k)
   rw [← hFd]
   clear hFd
   by_cases hpos : 0 < g0
   ·rw [if_pos hpos]
    obtain ⟨res,hres⟩ : ∃ res,[(n.id,g0)] ++ (ks.zip gs).flatMap F = res:=⟨_,rfl⟩
    rw [hres]
    simp -implicitDefEqProofs (disch:=omega) only [h0,h1,h2,h3,h4,h5,h8,h9,h23,h24,h25,ha0,ha1,ha2,ha3,ha4,hh17_1,hh22_0,hge,hsp,hpos,Int.toNat_zero,List.getElem?_cons_zero,go_sem,↓reduceIte,rA,rS,rE,rL,reduceCtorEq]
    obtain ⟨M,hM⟩ : ∃ I : Nat -> St -> Prop,∀ m s,I m s ↔ ∃ (v39_1 : Nat) (acc : List (Int × Int)) (v : Nat) (cur : List (Int × Int)),cur = out ++ acc /\ acc = [(n.id,g0)] ++ ((ks.zip gs).take m).flatMap F /\ (v = 0 ↔ acc = []) /\ s.pe 5 = .ptr (Id.arg 3 0) 0 0 /\ s.pe 12 = .own (.slot 39 1) v39_1 0 (gs.length + 1) /\ s.pe 52 = .own (.slot 17 1) 0 0 ks.length /\ s.pe 53 = .p (.int .i64 ↑ks.length) /\ s.pe 54 = .p (.int .i64 m) /\ s.h (.arg 0 0) = some (0,Ob.box [.p (nodesP t.nodes),.p (.int .i64 t.next)]) /\ s.h (.arg 1 0) = some (0,Ob.box [.p (mapP l)]) /\ s.h (.arg 2 0) = some (0,Ob.box [VVal.own (Id.arg 4 0) v 0 cur.length]) /\ s.h (.arg 3 0) = some (0,Ob.box [VVal.fn 122 [.ptr (Id.arg 0 0) 0 0,.ptr (Id.arg 1 0) 0 0,.ptr (Id.arg 2 0) 0 0,.ptr (Id.arg 3 0) 0 0]]) /\ s.h (.arg 4 0) = some (v,Ob.arr 2 (List.map tkP cur)) /\ s.h (.slot 17 1) = some (0,Ob.arr 1 (List.map (.int .i64) ks)) /\ s.h (.slot 39 1) = some (v39_1,Ob.arr 1 (PV.int IntKind.i64 g0 :: List.map (.int .i64) gs)):=⟨_,fun _ _=>Iff.rfl⟩
    refine wp_count (ks.length) M ?_ ?_
    ·refine (hM _ _).2 ⟨nv (s.h (.slot 39 1)),[(n.id,g0)],1,out ++ [(n.id,g0)],?_,?_,?_,?_,?_,?_,?_,?_,?_,?_,?_,?_,?_,?_,?_⟩
     ·exact by simp
     ·exact by simp
     ·exact by simp
     all_goals exact cl0
    intro m s hm hMk
    obtain ⟨v39_1,acc,v,cur,hcur,hacc,hav,h5,h12,h52,h53,h54,ha0,ha1,ha2,ha3,ha4,hh17_1,hh39_1⟩:=(hM _ _).1 hMk
    clear hMk
    subst hcur
    simp -implicitDefEqProofs (disch:=omega) only [h5,h12,h52,h53,h54,ha0,ha1,ha2,ha3,ha4,hh17_1,hh39_1,go_sem,↓reduceIte,rA,rS,rE,rL,reduceCtorEq]
    refine wp_if_d (fun hlt=>?_) (fun hge=>?_)
    ·have hm : ks[m]? = some ks[m]:=lgg hlt
     have hgm : gs[m]? = some gs[m]:=lgg (by omega)
     have hzm : (ks.zip gs)[m]? = some (ks[m],gs[m]):=by rw [List.getElem?_zip_eq_some]; exact ⟨hm,hgm⟩
     have htz:=take_snoc hzm
     generalize ks[m] = c at hm htz hzm
     generalize gs[m] = gk at hgm htz hzm
     have hgk:=hgb' gk (lmg hgm)
     have hidx : (PV.int IntKind.i64 g0 :: List.map (PV.int .i64) gs)[(↑m + 1 : Int).toNat]? = some (.int .i64 gk):=by
      rw [show (↑m + 1 : Int).toNat = m + 1 by omega,List.getElem?_cons_succ]
      exact map_get_int hgm
     by_cases hk0 : 0 < gk
     ·have hlen' : (out ++ acc).length + (subF t.nodes k c).length <= 1000:=by
       have e1:=congrArg List.length hacc
       have e2:=hFl (ks.take m) (gs.take m)
       have e3:=flat_take (f:=subF t.nodes k) hm
       rw [<- take_zip'] at e2
       rw [lla] at e1 ⊢
       simp only [List.length_singleton] at e1
       omega
      have hr:=hrec c (lmg hm) gk (out ++ acc) hgk.1 hgk.2 hlen'
      have hF : F (c,gk) = takeN t.nodes l (capR t l) k c gk:=hF0 _ _ hk0
      generalize takeN t.nodes l (capR t l) k c gk = more at hr hF
      unfold HR' at hr
      by_cases hmore : more = []
      ·rw [if_pos hmore] at hr
       simp only [HR,capsR,lca,lna,lla] at hr
       have hacc' : acc = [(n.id,g0)] ++ ((ks.zip gs).take (m + 1)).flatMap F:=by
        rw [htz,List.flatMap_append,List.flatMap_singleton,hF,hmore,lan]
        exact hacc
       simp -implicitDefEqProofs (disch:=omega) only [h5,h12,h52,h53,h54,ha0,ha1,ha2,ha3,ha4,hh17_1,hh39_1,hlt,hm,hidx,hk0,hr,go_sem,↓reduceIte,rA,rS,rE,rL,reduceCtorEq]
       try refine And.intro (by omega) ?_
       refine (hM _ _).2 ⟨v39_1,acc,v,out ++ acc,?_,?_,?_,?_,?_,?_,?_,?_,?_,?_,?_,?_,?_,?_,?_⟩
       ·rfl
       ·exact hacc'
       ·exact hav
       all_goals exact cl0
      ·rw [if_neg hmore] at hr
       simp only [HR,capsR,lca,lna,lla] at hr
       have hacc' : acc ++ more = [(n.id,g0)] ++ ((ks.zip gs).take (m + 1)).flatMap F:=by
        rw [htz,List.flatMap_append,List.flatMap_singleton,hF,<- laa,<- hacc]
       have hass : out ++ acc ++ more = out ++ (acc ++ more):=laa _ _ _
       rw [hass] at hr
       simp -implicitDefEqProofs (disch:=omega) only [h5,h12,h52,h53,h54,ha0,ha1,ha2,ha3,ha4,hh17_1,hh39_1,hlt,hm,hidx,hk0,hr,go_sem,↓reduceIte,rA,rS,rE,rL,reduceCtorEq]
       try refine And.intro (by omega) ?_
       refine (hM _ _).2 ⟨v39_1,acc ++ more,v + 1,out ++ (acc ++ more),?_,?_,?_,?_,?_,?_,?_,?_,?_,?_,?_,?_,?_,?_,?_⟩
       ·rfl
       ·exact hacc'
       ·exact by simp [hmore]
       all_goals exact cl0
     ·have hF : F (c,gk) = []:=hF1 _ _ hk0
      have hacc' : acc = [(n.id,g0)] ++ ((ks.zip gs).take (m + 1)).flatMap F:=by
       rw [htz,List.flatMap_append,List.flatMap_singleton,hF,lan]
       exact hacc
      simp -implicitDefEqProofs (disch:=omega) only [h5,h12,h52,h53,h54,ha0,ha1,ha2,ha3,ha4,hh17_1,hh39_1,hlt,hm,hidx,hk0,go_sem,↓reduceIte,rA,rS,rE,rL,reduceCtorEq]
      try refine And.intro (by omega) ?_
      refine (hM _ _).2 ⟨v39_1,acc,v,out ++ acc,?_,?_,?_,?_,?_,?_,?_,?_,?_,?_,?_,?_,?_,?_,?_⟩
      ·rfl
      ·exact hacc'
      ·exact hav
      all_goals exact cl0
    ·rw [ltl (by rw [List.length_zip]; omega)] at hacc
     rw [hres] at hacc
     subst hacc
     by_cases hvz : v = 0
     ·have hn:=hav.1 hvz
      subst hvz
      subst hn
      simp -implicitDefEqProofs (disch:=omega) only [h5,h12,h52,h53,h54,ha0,ha1,ha2,ha3,ha4,hh17_1,hh39_1,hge,go_sem,↓reduceIte,rA,rS,rE,rL,reduceCtorEq]
      rw [HR',if_pos rfl]
     ·have hn : ¬ acc = []:=fun h=>hvz (hav.2 h)
      simp -implicitDefEqProofs (disch:=omega) only [h5,h12,h52,h53,h54,ha0,ha1,ha2,ha3,ha4,hh17_1,hh39_1,hge,hvz,go_sem,↓reduceIte,rA,rS,rE,rL,reduceCtorEq]
      rw [HR',if_neg hn,lla]
   ·rw [if_neg hpos]
    obtain ⟨res,hres⟩ : ∃ res,[] ++ (ks.zip gs).flatMap F = res:=⟨_,rfl⟩
    rw [hres]
    simp -implicitDefEqProofs (disch:=omega) only [h0,h1,h2,h3,h4,h5,h8,h9,h23,h24,h25,ha0,ha1,ha2,ha3,ha4,hh17_1,hh22_0,hge,hsp,hpos,Int.toNat_zero,List.getElem?_cons_zero,go_sem,↓reduceIte,rA,rS,rE,rL,reduceCtorEq]
    obtain ⟨M,hM⟩ : ∃ I : Nat -> St -> Prop,∀ m s,I m s ↔ ∃ (v39_1 : Nat) (acc : List (Int × Int)) (v : Nat) (cur : List (Int × Int)),cur = out ++ acc /\ acc = [] ++ ((ks.zip gs).take m).flatMap F /\ (v = 0 ↔ acc = []) /\ s.pe 5 = .ptr (Id.arg 3 0) 0 0 /\ s.pe 12 = .own (.slot 39 1) v39_1 0 (gs.length + 1) /\ s.pe 52 = .own (.slot 17 1) 0 0 ks.length /\ s.pe 53 = .p (.int .i64 ↑ks.length) /\ s.pe 54 = .p (.int .i64 m) /\ s.h (.arg 0 0) = some (0,Ob.box [.p (nodesP t.nodes),.p (.int .i64 t.next)]) /\ s.h (.arg 1 0) = some (0,Ob.box [.p (mapP l)]) /\ s.h (.arg 2 0) = some (0,Ob.box [VVal.own (Id.arg 4 0) v 0 cur.length]) /\ s.h (.arg 3 0) = some (0,Ob.box [VVal.fn 122 [.ptr (Id.arg 0 0) 0 0,.ptr (Id.arg 1 0) 0 0,.ptr (Id.arg 2 0) 0 0,.ptr (Id.arg 3 0) 0 0]]) /\ s.h (.arg 4 0) = some (v,Ob.arr 2 (List.map tkP cur)) /\ s.h (.slot 17 1) = some (0,Ob.arr 1 (List.map (.int .i64) ks)) /\ s.h (.slot 39 1) = some (v39_1,Ob.arr 1 (PV.int IntKind.i64 g0 :: List.map (.int .i64) gs)):=⟨_,fun _ _=>Iff.rfl⟩
    refine wp_count (ks.length) M ?_ ?_
    ·refine (hM _ _).2 ⟨nv (s.h (.slot 39 1)),[],0,out,?_,?_,?_,?_,?_,?_,?_,?_,?_,?_,?_,?_,?_,?_,?_⟩
     ·exact by simp
     ·exact by simp
     ·exact by simp
     all_goals exact cl0
    intro m s hm hMk
    obtain ⟨v39_1,acc,v,cur,hcur,hacc,hav,h5,h12,h52,h53,h54,ha0,ha1,ha2,ha3,ha4,hh17_1,hh39_1⟩:=(hM _ _).1 hMk
    clear hMk
    subst hcur
    simp -implicitDefEqProofs (disch:=omega) only [h5,h12,h52,h53,h54,ha0,ha1,ha2,ha3,ha4,hh17_1,hh39_1,go_sem,↓reduceIte,rA,rS,rE,rL,reduceCtorEq]
    refine wp_if_d (fun hlt=>?_) (fun hge=>?_)
    ·have hm : ks[m]? = some ks[m]:=lgg hlt
     have hgm : gs[m]? = some gs[m]:=lgg (by omega)
     have hzm : (ks.zip gs)[m]? = some (ks[m],gs[m]):=by rw [List.getElem?_zip_eq_some]; exact ⟨hm,hgm⟩
     have htz:=take_snoc hzm
     generalize ks[m] = c at hm htz hzm
     generalize gs[m] = gk at hgm htz hzm
     have hgk:=hgb' gk (lmg hgm)
     have hidx : (PV.int IntKind.i64 g0 :: List.map (PV.int .i64) gs)[(↑m + 1 : Int).toNat]? = some (.int .i64 gk):=by
      rw [show (↑m + 1 : Int).toNat = m + 1 by omega,List.getElem?_cons_succ]
      exact map_get_int hgm
     by_cases hk0 : 0 < gk
     ·have hlen' : (out ++ acc).length + (subF t.nodes k c).length <= 1000:=by
       have e1:=congrArg List.length hacc
       have e2:=hFl (ks.take m) (gs.take m)
       have e3:=flat_take (f:=subF t.nodes k) hm
       rw [<- take_zip'] at e2
       rw [lla] at e1 ⊢
       simp only [lln] at e1
       omega
      have hr:=hrec c (lmg hm) gk (out ++ acc) hgk.1 hgk.2 hlen'
      have hF : F (c,gk) = takeN t.nodes l (capR t l) k c gk:=hF0 _ _ hk0
      generalize takeN t.nodes l (capR t l) k c gk = more at hr hF
      unfold HR' at hr
      by_cases hmore : more = []
      ·rw [if_pos hmore] at hr
       simp only [HR,capsR,lca,lna,lla] at hr
       have hacc' : acc = [] ++ ((ks.zip gs).take (m + 1)).flatMap F:=by
        rw [htz,List.flatMap_append,List.flatMap_singleton,hF,hmore,lan]
        exact hacc
       simp -implicitDefEqProofs (disch:=omega) only [h5,h12,h52,h53,h54,ha0,ha1,ha2,ha3,ha4,hh17_1,hh39_1,hlt,hm,hidx,hk0,hr,go_sem,↓reduceIte,rA,rS,rE,rL,reduceCtorEq]
       try refine And.intro (by omega) ?_
       refine (hM _ _).2 ⟨v39_1,acc,v,out ++ acc,?_,?_,?_,?_,?_,?_,?_,?_,?_,?_,?_,?_,?_,?_,?_⟩
       ·rfl
       ·exact hacc'
       ·exact hav
       all_goals exact cl0
      ·rw [if_neg hmore] at hr
       simp only [HR,capsR,lca,lna,lla] at hr
       have hacc' : acc ++ more = [] ++ ((ks.zip gs).take (m + 1)).flatMap F:=by
        rw [htz,List.flatMap_append,List.flatMap_singleton,hF,<- laa,<- hacc]
       have hass : out ++ acc ++ more = out ++ (acc ++ more):=laa _ _ _
       rw [hass] at hr
       simp -implicitDefEqProofs (disch:=omega) only [h5,h12,h52,h53,h54,ha0,ha1,ha2,ha3,ha4,hh17_1,hh39_1,hlt,hm,hidx,hk0,hr,go_sem,↓reduceIte,rA,rS,rE,rL,reduceCtorEq]
       try refine And.intro (by omega) ?_
       refine (hM _ _).2 ⟨v39_1,acc ++ more,v + 1,out ++ (acc ++ more),?_,?_,?_,?_,?_,?_,?_,?_,?_,?_,?_,?_,?_,?_,?_⟩
       .rfl
       .exact hacc'
       .exact by simp [hmore]
       all_goals exact cl0
     ·have hF : F (c,gk) = []:=hF1 _ _ hk0
      have hacc' : acc = [] ++ ((ks.zip gs).take (m + 1)).flatMap F:=by
       rw [htz,List.flatMap_append,List.flatMap_singleton,hF,lan]
       exact hacc
      simp -implicitDefEqProofs (disch:=omega) only [h5,h12,h52,h53,h54,ha0,ha1,ha2,ha3,ha4,hh17_1,hh39_1,hlt,hm,hidx,hk0,go_sem,↓reduceIte,rA,rS,rE,rL,reduceCtorEq]
      try refine And.intro (by omega) ?_
      refine (hM _ _).2 ⟨v39_1,acc,v,out ++ acc,?_,?_,?_,?_,?_,?_,?_,?_,?_,?_,?_,?_,?_,?_,?_⟩
      .rfl
      .exact hacc'
      .exact hav
      all_goals exact cl0
    ·rw [ltl (by rw [List.length_zip]; omega)] at hacc
     rw [hres] at hacc
     subst hacc
     by_cases hvz : v = 0
     ·have hn:=hav.1 hvz
      subst hvz
      subst hn
      simp -implicitDefEqProofs (disch:=omega) only [h5,h12,h52,h53,h54,ha0,ha1,ha2,ha3,ha4,hh17_1,hh39_1,hge,go_sem,↓reduceIte,rA,rS,rE,rL,reduceCtorEq]
      rw [HR',if_pos rfl]
     ·have hn : ¬ acc = []:=fun h=>hvz (hav.2 h)
      simp -implicitDefEqProofs (disch:=omega) only [h5,h12,h52,h53,h54,ha0,ha1,ha2,ha3,ha4,hh17_1,hh39_1,hge,hvz,go_sem,↓reduceIte,rA,rS,rE,rL,reduceCtorEq]
      rw [HR',if_neg hn,lla]
theorem zip_sub {f : Int -> Int -> List (Int × Int)} {g : Int -> List Int} (h : ∀ a b,List.Sublist ((f a b).map Prod.fst) (g a)) : ∀ (xs ys : List Int),List.Sublist (((xs.zip ys).flatMap fun p=>if 0 < p.2 then f p.1 p.2 else []).map Prod.fst) (xs.flatMap g)
 | [],_=>by simp
 | _ :: _,[]=>by simp
 | x :: xs,y :: ys=>by
  have h1:=zip_sub h xs ys
  rw [List.zip_cons_cons,lfc,lfc,lma]
  refine List.Sublist.append ?_ h1
  show List.Sublist ((if 0 < y then f x y else []).map Prod.fst) (g x)
  split
  .exact h x y
  .simp
theorem takeN_sub (ns : List Nd) (l : List Pt) (cap : Int -> Int) : ∀ (k : Nat) (g K : Int),List.Sublist ((takeN ns l cap k g K).map Prod.fst) (subF ns k g)
 | 0,_,_=>by simp [takeN]
 | k + 1,g,K=>by
  have h1:=zip_sub (f:=takeN ns l cap k) (g:=subF ns k) (takeN_sub ns l cap k) (kidsN ns g) (splitP K ((partOf l g).own :: (kidsN ns g).map cap)).tail
  rw [takeN,subF,lma]
  split
  .exact List.Sublist.cons_cons _ h1
  .exact List.Sublist.cons _ h1
def tsort (ps : List (Int × Int)) : List (Int × Int):=ps.mergeSort fun x y=>decide (x.1 <= y.1)
theorem mapO_unPair : ∀ (l : List (Int × Int)),mapO unPair (l.map tkP) = some l
 | []=>rfl
 | x :: l=>by
  rw [lpc]
  show ob (some (x.1,x.2)) (fun y=>ob (mapO unPair (List.map tkP l)) fun ys=>some (y :: ys)) = _
  rw [mapO_unPair l,ob_some,ob_some]
theorem sortF_eq (l : List (Int × Int)) (hl : l.length < 1000000) (hb : ∀ p ∈ l,0 <= p.1 /\ p.1 < 4611686018427387904) (hn : (l.map Prod.fst).Nodup) : V 125 [.own (.arg 0 0) 0 0 l.length,.p (.fn 126)] [.arr 2 (l.map tkP)] = some (.tup [],[.arr 2 ((tsort l).map tkP)]):=by
 refine V_x ?_
 have h1 : l.length = (l.map tkP).length:=by simp
 have h2 : l.length < 4611686018427387904:=by omega
 have hne : ¬ 125 = 118:=by decide
 simp only [XS,if_neg hne,if_pos,XP,gd,if_pos h1,if_pos h2,mapO_unPair,ob_some,if_pos hb,if_pos hn,tsort]
abbrev takeR (t : Tr) (l : List Pt) (g K : Int) : List (Int × Int):=takeN t.nodes l (capR t l) t.nodes.length g K
def RoundP (t : Tr) (l : List Pt) (root n : Int) : List (Int × Int) × Int:=if validP t l root = true then (if pagesB n = true then (tsort (takeR t l root (min n (capR t l root))),0) else ([],3)) else ([],1)
theorem takeR_ok {t : Tr} (h : TreeOk t) {l : List Pt} {g : Int} (hg : InN t.nodes g) (K : Int) : (takeR t l g K).length <= 64 /\ (∀ p ∈ takeR t l g K,0 <= p.1 /\ p.1 < 4611686018427387904) /\ ((takeR t l g K).map Prod.fst).Nodup:=by
 obtain ⟨i,n,hn,rfl⟩:=hg
 have hs:=takeN_sub t.nodes l (capR t l) t.nodes.length n.id K
 have hl : (takeR t l n.id K).length <= _:=takeN_length t.nodes l (capR t l) t.nodes.length n.id K
 have hl2:=subF_length h hn (k:=t.nodes.length) (by omega)
 have hlen:=h.len
 refine ⟨by omega,fun p hp=>?_,hs.nodup (nodup_subF h _ i n hn (by omega))⟩
 have h1:=hs.subset (lmm.2 ⟨p,hp,rfl⟩)
 obtain ⟨j,m,hm,he,_⟩:=(mem_subF h _ i n hn (by omega) _).1 h1
 have hmm:=lmg hm
 have h2:=h.lt_next m hmm
 obtain ⟨_,_,_,h3⟩:=h.next
 have h4:=h.pos m hmm
 omega
set_option maxHeartbeats 4000000 in
theorem round_eq (t : Tr) (l : List Pt) (root n : Int) (hf : t.Fits) (hn : t.nodes.length < 1000000) (hl : l.length < 1000000) : V 72 [t.vv,.p (ptsP l),.p (.int .i64 root),.p (.int .i64 n)] [] = some (.tup [.fresh 2 ((RoundP t l root n).1.map tkP),.p (.int .i64 (RoundP t l root n).2)],[]):=by
 refine V_wp (vf:=vf72) rfl ?_
 have hv:=pvalid_parts t l root hf hn hl
 have hpg:=pages_eq n
 unfold RoundP
 by_cases h : validP t l root = true
 ·have hP:=(validP_iff t l root).1 h
  have hm:=mparts_eq l hl hP.nodup
  have hc:=mcap_eq hP.tree hP.ok hP.top
  rw [h] at hv
  rw [if_pos h]
  by_cases hpn : pagesB n = true
  ·rw [if_pos hpn]
   rw [hpn] at hpg
   have hnb : 0 <= n /\ n <= 16777216:=by simpa [pagesB] using hpn
   have hcb : 0 <= capR t l root /\ capR t l root <= 16777216:=capN_bound (ns:=t.nodes) hP.ok t.nodes.length root
   have htk : V 122 ([.p (.int .i64 root),.p (.int .i64 (min n (capR t l root)))] ++ capsR) (HR t l []) = some (.tup [],HR' t l [] (takeR t l root (min n (capR t l root)))):=by
    obtain ⟨i,r,hr,he⟩:=hP.top
    subst he
    have hl2:=subF_length hP.tree hr (k:=t.nodes.length) (by omega)
    have hlen:=hP.tree.len
    exact take_eq0 hP.tree hP.ok _ i r _ [] hr (by omega) (by omega) (by omega) (by simp only [lln]; omega)
   obtain ⟨hr1,hr2,hr3⟩:=takeR_ok (l:=l) hP.tree hP.top (min n (capR t l root))
   generalize takeR t l root (min n (capR t l root)) = res at htk hr1 hr2 hr3
   have hso:=sortF_eq res (by omega) hr2 hr3
   unfold HR' at htk
   by_cases hre : res = []
   ·rw [if_pos hre] at htk
    simp only [HR,capsR,lca,lna,lln,lpn] at htk
    subst hre
    simp only [lln,lpn] at hso
    simp -implicitDefEqProofs (disch:=omega) only [vf72,vb72,hv,hpg,hm,hc,htk,hso,go_sem,↓reduceIte,rA,rS,rE,rL,reduceCtorEq]
    simp [tsort]
   ·rw [if_neg hre] at htk
    simp only [HR,capsR,lca,lna,lln,lpn] at htk
    simp -implicitDefEqProofs (disch:=omega) only [vf72,vb72,hv,hpg,hm,hc,htk,hso,go_sem,↓reduceIte,rA,rS,rE,rL,reduceCtorEq]
    rw [ltl (by simp [tsort])]
  ·have hpn' : pagesB n = false:=by simpa using hpn
   rw [if_neg hpn]
   rw [hpn'] at hpg
   simp -implicitDefEqProofs (disch:=omega) only [vf72,vb72,hv,hpg,go_sem,↓reduceIte,rA,rS,rE,rL,reduceCtorEq]
 ·have h' : validP t l root = false:=by simpa using h
  rw [h'] at hv
  rw [if_neg h]
  simp -implicitDefEqProofs (disch:=omega) only [vf72,vb72,hv,go_sem,↓reduceIte,rA,rS,rE,rL,reduceCtorEq]
def takenP (t : Tr) (l : List (Int × Int)) (id : Int) : Int:=sumI (l.map fun p=>if id ∈ ancR t p.1 then p.2 else 0)
theorem ancR_len (t : Tr) (id : Int) : (ancR t id).length <= t.nodes.length:=by
 unfold ancR
 split
 ·unfold up
  have:=upR_length t.nodes.reverse id
  simpa using this
 .simp
def capF (x : Pt) (s : Int) : Int:=min (min (max 0 (x.usage - x.protect)) x.room) (x.own + s)
theorem capN_succ (ns : List Nd) (l : List Pt) (k : Nat) (g : Int) : capN ns l (k + 1) g = capF (partOf l g) (sumI ((kidsN ns g).map (capN ns l k))):=rfl
theorem inc_ext' : ∀ (a b : List Int),(a.Pairwise fun x y=>x < y) -> (b.Pairwise fun x y=>x < y) -> (∀ x,x ∈ a ↔ x ∈ b) -> a = b
 | [],[],_,_,_=>rfl
 | [],y :: b,_,_,h=>by have:=(h y).2 (lms ..); simp at this
 | x :: a,[],_,_,h=>by have:=(h x).1 (lms ..); simp at this
 | x :: a,y :: b,ha,hb,h=>by
  obtain ⟨ha1,ha2⟩:=lpw.1 ha
  obtain ⟨hb1,hb2⟩:=lpw.1 hb
  have hxy : x = y:=by
   rcases lmk.1 ((h x).1 (lms ..)) with h1 | h1
   ·exact h1
   ·rcases lmk.1 ((h y).2 (lms ..)) with h2 | h2
    ·exact h2.symm
    ·have:=hb1 x h1
     have:=ha1 y h2
     omega
  subst hxy
  refine congrArg (x :: ·) (inc_ext' a b ha2 hb2 fun z=>?_)
  constructor
  ·intro hz
   rcases lmk.1 ((h z).1 (lmc _ hz)) with h1 | h1
   ·subst h1
    have:=ha1 z hz
    omega
   ·exact h1
  ·intro hz
   rcases lmk.1 ((h z).2 (lmc _ hz)) with h1 | h1
   ·subst h1
    have:=hb1 z hz
    omega
   .exact h1
theorem msort_inc {S : List Int} (h : S.Nodup) : (msort S).Pairwise fun a b=>a < b:=by
 have h1 : (msort S).Pairwise fun a b=>decide (a <= b) = true:=List.pairwise_mergeSort (fun a b c h1 h2=>by simp only [decide_eq_true_eq] at *; omega) (fun a b=>by simp only [bot,decide_eq_true_eq]; omega) S
 have h2 : (msort S).Nodup:=(msort_perm S).nodup_iff.2 h
 refine (h1.and h2).imp ?_
 rintro a b ⟨h1,h2⟩
 simp only [decide_eq_true_eq] at h1
 omega
theorem sortU_msort {S : List Int} (h : S.Nodup) : sortU S = msort S :=
 inc_ext' _ _ (sortU_inc S) (msort_inc h) fun x=>by rw [mem_sortU,(msort_perm S).mem_iff]
def tS : Tr:=⟨[⟨1,0,⟨#[]⟩,0,0,0⟩,⟨2,1,⟨#[97]⟩,0,0,0⟩,⟨3,1,⟨#[98]⟩,0,0,0⟩],4⟩
theorem subT_S : subT tS 1 = [1,2,3]:=by decide
theorem msort_of {l : List Int} (h : l.Pairwise fun a b=>a <= b) : msort l = l:=List.mergeSort_of_pairwise (h.imp fun h=>decide_eq_true h)
theorem tsort_of {l : List (Int × Int)} (h : l.Pairwise fun a b=>a.1 <= b.1) : tsort l = l:=List.mergeSort_of_pairwise (h.imp fun h=>decide_eq_true h)
theorem PartsOk.set {t : Tr} {p : List Pt} {root : Int} (h : PartsOk t p root) {j : Nat} {x x' : Pt} (hj : p[j]? = some x) (hx : PtOk x') (hg : x'.group = x.group) : PartsOk t (p.set j x') root:=by
 refine ⟨h.tree,h.top,?_,fun y hy=>?_⟩
 ·rw [<- h.groups,List.map_set]
  apply List.ext_getElem?
  intro i
  rw [List.getElem?_set]
  split
  ·rename_i e
   subst e
   rw [llm,List.getElem?_map,hj]
   simp [hg,(lgs.1 hj).1]
  .rfl
 ·rcases List.mem_or_eq_of_mem_set hy with h1 | h1
  .exact h.ok y h1
  .rw [h1]; exact hx
def cntB : List Int -> List Int -> Int
 | o :: os,w :: ws=>(if o < w then 1 else 0) + cntB os ws
 | _,_=>0
theorem cntB_nonneg : ∀ (o w : List Int),0 <= cntB o w
 | o :: os,w :: ws=>by
  have:=cntB_nonneg os ws
  unfold cntB
  split <;> omega
 | [],_=>by unfold cntB; omega
 | _ :: _,[]=>by unfold cntB; omega
theorem bumpD_sum : ∀ (left : Int) (o w : List Int),0 <= left -> left <= cntB o w -> sumI (bumpD left o w) = sumI o + left
 | left,o :: os,w :: ws,h0,h1=>by
  have hc:=cntB_nonneg os ws
  unfold cntB at h1
  unfold bumpD
  by_cases h : 0 < left /\ o < w
  ·rw [if_pos h]
   rw [if_pos h.2] at h1
   have:=bumpD_sum (left - 1) os ws (by omega) (by omega)
   simp only [sumI,this]
   omega
  ·rw [if_neg h]
   have : left <= cntB os ws:=by
    by_cases h2 : o < w
    ·omega
    ·rw [if_neg h2] at h1
     omega
   have:=bumpD_sum left os ws h0 this
   simp only [sumI,this]
   omega
 | left,[],w,h0,h1=>by
  unfold cntB at h1
  unfold bumpD
  omega
 | left,o :: os,[],h0,h1=>by
  unfold cntB at h1
  unfold bumpD
  omega
theorem bumpD_at : ∀ (left : Int) (o w : List Int) (i : Nat) (a b : Int),o[i]? = some a -> w[i]? = some b -> ∃ z,(bumpD left o w)[i]? = some z /\ (z = a \/ (z = a + 1 /\ a < b))
 | left,o :: os,w :: ws,0,a,b,ha,hb=>by
  simp only [List.getElem?_cons_zero,osi] at ha hb
  subst ha
  subst hb
  unfold bumpD
  by_cases h : 0 < left /\ o < w
  ·rw [if_pos h]
   exact ⟨o + 1,rfl,Or.inr ⟨rfl,h.2⟩⟩
  ·rw [if_neg h]
   exact ⟨o,rfl,Or.inl rfl⟩
 | left,o :: os,w :: ws,i + 1,a,b,ha,hb=>by
  simp only [List.getElem?_cons_succ] at ha hb
  have h1:=bumpD_at (left - 1) os ws i a b ha hb
  have h2:=bumpD_at left os ws i a b ha hb
  unfold bumpD
  split
  .simpa using h1
  .simpa using h2
 | _,[],_,_,_,_,ha,_=>by simp at ha
 | _,_ :: _,[],_,_,_,_,hb=>by simp at hb
theorem base_sum (K y : Int) : ∀ (w : List Int),sumI (baseD K y w) * y + sumI (w.map fun x=>K * x % y) = K * sumI w
 | []=>by simp [baseD,sumI]
 | x :: w=>by
  have ih:=base_sum K y w
  have h:=Int.mul_ediv_add_emod (K * x) y
  have hc : y * (K * x / y) = K * x / y * y:=Int.mul_comm _ _
  simp only [baseD,lpc,sumI,Int.add_mul,Int.mul_add] at ih ⊢
  omega
theorem mod_sum {K y : Int} (hK : 0 <= K) (hy : K < y) : ∀ (w : List Int),(∀ x ∈ w,0 <= x) -> 0 <= sumI (w.map fun x=>K * x % y) /\ sumI (w.map fun x=>K * x % y) <= (y - 1) * cntB (baseD K y w) w
 | [],_=>by simp [sumI,baseD,cntB]
 | x :: w,hw=>by
  have ih:=mod_sum hK hy w (fun z hz=>hw z (by simp [hz]))
  have hx:=hw x (by simp)
  have h0:=Int.emod_nonneg (K * x) (show y ≠ 0 by omega)
  have h1:=Int.emod_lt_of_pos (K * x) (show 0 < y by omega)
  simp only [lpc,sumI,baseD,cntB] at ih ⊢
  refine ⟨by omega,?_⟩
  by_cases hx0 : x = 0
  ·subst hx0
   rw [Int.mul_zero,Int.zero_emod,Int.zero_ediv,if_neg (by omega),Int.zero_add,Int.zero_add]
   exact ih.2
  ·have hlt : K * x / y < x:=by
    refine Int.ediv_lt_of_lt_mul (by omega) ?_
    rw [Int.mul_comm K x]
    exact Int.mul_lt_mul_of_pos_left hy (by omega)
   rw [if_pos hlt,Int.mul_add,Int.mul_one]
   omega
theorem base_full {y : Int} (hy : 0 < y) (w : List Int) : baseD y y w = w:=by
 unfold baseD
 conv=>rhs; rw [<- List.map_id w]
 exact List.map_congr_left fun x _=>Int.mul_ediv_cancel_left x (by omega)
theorem sumI_zeros : ∀ (w : List Int),sumI (w.map fun _=>0) = 0
 | []=>rfl
 | x :: w=>by
  have:=sumI_zeros w
  simp only [lpc,sumI,this]
  omega
theorem split_sum {K : Int} {w : List Int} (hw : ∀ x ∈ w,0 <= x) (h0 : 0 <= K) (h1 : K <= sumI w) : sumI (splitP K w) = K:=by
 unfold splitP
 by_cases hz : sumI w = 0
 ·rw [if_pos hz,sumI_zeros]
  omega
 ·rw [if_neg hz]
  have hy : 0 < sumI w:=by
   have:=sumI_nonneg w hw
   omega
  have hb:=base_sum K (sumI w) w
  rw [bumpD_sum]
  ·omega
  ·by_cases hK : K < sumI w
   ·have hm:=(mod_sum h0 hK w hw).1
    have : sumI (baseD K (sumI w) w) * sumI w <= K * sumI w:=by omega
    have:=Int.le_of_mul_le_mul_right this hy
    omega
   ·have : K = sumI w:=by omega
    subst this
    rw [base_full hy]
    omega
  ·by_cases hK : K < sumI w
   ·have hm:=(mod_sum h0 hK w hw).2
    have hc:=cntB_nonneg (baseD K (sumI w) w) w
    generalize cntB (baseD K (sumI w) w) w = c at hm hc
    generalize sumI (baseD K (sumI w) w) = b at hb
    generalize sumI (w.map fun x=>K * x % sumI w) = m at hb hm
    generalize sumI w = y at hb hm hy
    refine Int.not_lt.1 fun hlt=>?_
    have h2 : y * (c + 1) <= y * (K - b):=Int.mul_le_mul_of_nonneg_left (by omega) (by omega)
    rw [Int.mul_add,Int.mul_one,Int.mul_sub,Int.mul_comm y b,Int.mul_comm y K] at h2
    rw [Int.sub_mul,Int.one_mul] at hm
    omega
   ·have : K = sumI w:=by omega
    subst this
    rw [base_full hy]
    have:=cntB_nonneg w w
    omega
theorem split_at {K : Int} {w : List Int} (hw : ∀ x ∈ w,0 <= x) (h0 : 0 <= K) (h1 : K <= sumI w) {i : Nat} {x : Int} (hi : w[i]? = some x) : ∃ z,(splitP K w)[i]? = some z /\ 0 <= z /\ z <= x /\ (0 < sumI w -> z * sumI w <= K * x + sumI w /\ K * x - sumI w + 1 <= z * sumI w):=by
 have hx:=hw x (lmg hi)
 unfold splitP
 by_cases hz : sumI w = 0
 ·rw [if_pos hz]
  refine ⟨0,by rw [List.getElem?_map,hi]; rfl,by omega,hx,fun h=>by omega⟩
 ·rw [if_neg hz]
  have hy : 0 < sumI w:=by
   have:=sumI_nonneg w hw
   omega
  obtain ⟨z,hz1,hz2⟩:=bumpD_at (K - sumI (baseD K (sumI w) w)) (baseD K (sumI w) w) w i (K * x / sumI w) x (by rw [baseD,List.getElem?_map,hi]; rfl) hi
  refine ⟨z,hz1,?_⟩
  generalize sumI w = y at hy h1 hz2
  have hKx : 0 <= K * x:=Int.mul_nonneg h0 hx
  have hq0 : 0 <= K * x / y:=Int.ediv_nonneg hKx (by omega)
  have hqx : K * x / y <= x:=by
   refine Int.ediv_le_of_le_mul hy ?_
   rw [Int.mul_comm K x]
   exact Int.mul_le_mul_of_nonneg_left h1 hx
  have hd:=Int.mul_ediv_add_emod (K * x) y
  have hm0:=Int.emod_nonneg (K * x) (show y ≠ 0 by omega)
  have hm1:=Int.emod_lt_of_pos (K * x) hy
  rw [Int.mul_comm] at hd
  generalize K * x / y = q at hz2 hq0 hqx hd
  generalize K * x % y = m at hd hm0 hm1
  rcases hz2 with rfl | ⟨rfl,hlt⟩
  ·refine ⟨hq0,hqx,fun _=>⟨by omega,by omega⟩⟩
  ·refine ⟨by omega,by omega,fun _=>?_⟩
   rw [Int.add_mul,Int.one_mul]
   omega
theorem up_anc' {t : Tr} (h : TreeOk t) : ∀ (i : Nat) (n : Nd),t.nodes[i]? = some n -> ∀ m,i < m -> m <= t.nodes.length -> upR ((t.nodes.take m).reverse) n.id = ancF t.nodes t.nodes.length n.id:=by
 intro i
 induction i using Nat.strongRecOn with
 | _ i ih =>
  intro n hn m
  induction m with
  | zero=>intro hi; omega
  | succ m ihm =>
   intro hi hm
   have hx : t.nodes[m]? = some t.nodes[m]:=lgg (by omega)
   have htk : t.nodes.take (m + 1) = t.nodes.take m ++ [t.nodes[m]]:=by rw [List.take_add_one,hx]; rfl
   generalize t.nodes[m] = x at hx htk
   rw [htk,List.reverse_append]
   simp only [List.reverse_cons,List.reverse_nil,lna,lca,upR]
   by_cases he : x.id = n.id
   ·obtain ⟨rfl,rfl⟩:=h.idx hx hn he
    rw [if_pos rfl,ancF_cons h hn]
    congr 1
    rcases h.nodeAt hn with ⟨h0,_⟩ | ⟨h0,_,j,p,hj,hp,hpe⟩
    ·subst h0
     simp [upR]
    ·rw [if_neg (by omega),<- hpe]
     exact ih j hj p hp m hj (by omega)
   ·rw [if_neg he]
    have : i ≠ m:=by
     rintro rfl
     rw [hx] at hn
     cases hn
     exact he rfl
    exact ihm (by omega) (by omega)
theorem ancR_anc {t : Tr} (h : TreeOk t) {i : Nat} {n : Nd} (hn : t.nodes[i]? = some n) : ancR t n.id = ancF t.nodes t.nodes.length n.id:=by
 rw [ancR,show findT t n.id = findN t.nodes n.id by simp [findT,(treeOk_iff t).2 h],findN_unique h.inc hn]
 simp only [Option.isSome_some,if_true]
 unfold up
 have:=up_anc' h i n hn t.nodes.length (lgs.1 hn).1 (lrf _)
 rwa [List.take_length] at this
theorem root_anc {t : Tr} (h : TreeOk t) : ∀ (j : Nat) (m : Nd),t.nodes[j]? = some m -> (1 : Int) ∈ ancF t.nodes t.nodes.length m.id:=by
 intro j
 induction j using Nat.strongRecOn with
 | _ j ih =>
  intro m hm
  rcases h.nodeAt hm with ⟨_,h1,_⟩ | ⟨_,_,i,p,hi,hp,hpe⟩
  .rw [<- h1]; exact anc_self h hm
  .exact (anc_iff h hm _).2 (Or.inr ⟨by omega,by rw [<- hpe]; exact ih i hi p hp⟩)
theorem capN_fuel {t : Tr} (h : TreeOk t) (l : List Pt) : ∀ (k k' i : Nat) (n : Nd),t.nodes[i]? = some n -> t.nodes.length <= i + k -> t.nodes.length <= i + k' -> capN t.nodes l k n.id = capN t.nodes l k' n.id:=by
 intro k
 induction k with
 | zero=>intro k' i n hn hk; have:=(lgs.1 hn).1; omega
 | succ k ih =>
  intro k' i n hn hk hk'
  cases k' with
  | zero=>have:=(lgs.1 hn).1; omega
  | succ k' =>
   rw [capN_succ,capN_succ]
   congr 1
   refine sumI_congr fun c hc=>?_
   obtain ⟨j,m,hj,hp,rfl⟩:=mem_kidsN.1 hc
   have hij:=h.kid hn hj hp
   exact ih k' j m hj (by omega) (by omega)
theorem anc_trans {t : Tr} (h : TreeOk t) : ∀ (i : Nat) (n : Nd),t.nodes[i]? = some n -> ∀ (j : Nat) (m : Nd),t.nodes[j]? = some m -> m.id ∈ ancF t.nodes t.nodes.length n.id -> ∀ c ∈ ancF t.nodes t.nodes.length m.id,c ∈ ancF t.nodes t.nodes.length n.id:=by
 intro i
 induction i using Nat.strongRecOn with
 | _ i ih =>
  intro n hn j m hm ha c hc
  rcases (anc_iff h hn m.id).1 ha with he | ⟨hi,ha⟩
  ·rw [he] at hc
   exact hc
  ·refine (anc_iff h hn c).2 (Or.inr ⟨hi,?_⟩)
   rcases h.nodeAt hn with ⟨h0,_⟩ | ⟨_,_,j',p,hj',hp,he⟩
   ·exact absurd h0 hi
   ·rw [<- he] at ha ⊢
    exact ih j' hj' p hp j m hm ha c hc
abbrev subA (t : Tr) (id : Int) : List Int:=subF t.nodes t.nodes.length id
theorem subA_in {t : Tr} (h : TreeOk t) {g x : Int} (hg : InN t.nodes g) (hx : x ∈ subA t g) : InN t.nodes x:=by
 obtain ⟨i,n,hn,rfl⟩:=hg
 obtain ⟨j,m,hj,he,_⟩:=(mem_subF h _ i n hn (by omega) x).1 hx
 exact ⟨j,m,hj,he⟩
theorem subA_self {t : Tr} (h : TreeOk t) {g : Int} (hg : InN t.nodes g) : g ∈ subA t g:=by
 rw [subA,subF_step h hg]
 simp
theorem subA_sub {t : Tr} (h : TreeOk t) {g c x : Int} (hg : InN t.nodes g) (hc : c ∈ subA t g) (hx : x ∈ subA t c) : x ∈ subA t g:=by
 obtain ⟨i,n,hn,rfl⟩:=hg
 obtain ⟨j,m,hj,rfl,ha⟩:=(mem_subF h _ i n hn (by omega) c).1 hc
 obtain ⟨j',m',hj',rfl,ha'⟩:=(mem_subF h _ j m hj (by omega) x).1 hx
 exact (mem_subF h _ i n hn (by omega) _).2 ⟨j',m',hj',rfl,anc_trans h j' m' hj' j m hj ha' _ ha⟩
theorem mem_anc {t : Tr} (h : TreeOk t) {g x : Int} (hg : InN t.nodes g) (hx : InN t.nodes x) : g ∈ ancR t x ↔ x ∈ subA t g:=by
 obtain ⟨i,n,hn,rfl⟩:=hg
 obtain ⟨j,m,hj,rfl⟩:=hx
 rw [ancR_anc h hj,mem_subF h _ i n hn (by omega)]
 constructor
 ·exact fun ha=>⟨j,m,hj,rfl,ha⟩
 ·rintro ⟨j',m',hj',he,ha⟩
  rw [<- he]
  exact ha
theorem kid_in {t : Tr} {g c : Int} (hc : c ∈ kidsN t.nodes g) : InN t.nodes c:=by
 obtain ⟨j,m,hj,_,rfl⟩:=mem_kidsN.1 hc
 exact ⟨j,m,hj,rfl⟩
theorem subA_cons {t : Tr} (h : TreeOk t) {g : Int} (hg : InN t.nodes g) : subA t g = g :: (kidsN t.nodes g).flatMap (subA t):=subF_step h hg
theorem subA_nodup {t : Tr} (h : TreeOk t) {g : Int} (hg : InN t.nodes g) : (subA t g).Nodup:=by
 obtain ⟨i,n,hn,rfl⟩:=hg
 exact nodup_subF h _ i n hn (by omega)
theorem capR_step {t : Tr} (h : TreeOk t) (l : List Pt) {g : Int} (hg : InN t.nodes g) : capR t l g = capF (partOf l g) (sumI ((kidsN t.nodes g).map (capR t l))):=by
 obtain ⟨i,n,hn,rfl⟩:=hg
 have hl:=(lgs.1 hn).1
 rw [capR,capN_fuel h l t.nodes.length (t.nodes.length + 1) i n hn (by omega) (by omega),capN_succ]
def sumOn (S : List Int) (l : List (Int × Int)) : Int:=sumI (l.map fun p=>if p.1 ∈ S then p.2 else 0)
theorem sumOn_append (S : List Int) (a b : List (Int × Int)) : sumOn S (a ++ b) = sumOn S a + sumOn S b:=by
 rw [sumOn,lma,sumI_append]
 rfl
theorem sumOn_zero {S : List Int} : ∀ {l : List (Int × Int)},(∀ q ∈ l,q.1 ∉ S) -> sumOn S l = 0
 | [],_=>rfl
 | q :: l,h=>by
  have ih:=sumOn_zero (l:=l) fun q hq=>h q (by simp [hq])
  have h1:=h q (by simp)
  rw [sumOn] at ih ⊢
  rw [lpc,if_neg h1,sumI,ih]
  rfl
theorem sumOn_all {S : List Int} : ∀ {l : List (Int × Int)},(∀ q ∈ l,q.1 ∈ S) -> sumOn S l = sumI (l.map Prod.snd)
 | [],_=>rfl
 | q :: l,h=>by
  have ih:=sumOn_all (l:=l) fun q hq=>h q (by simp [hq])
  have h1:=h q (by simp)
  rw [sumOn] at ih ⊢
  rw [lpc,if_pos h1,sumI,ih,lpc,sumI]
theorem sumI_perm {a b : List Int} (h : a.Perm b) : sumI a = sumI b:=by
 induction h with
 | nil=>rfl
 | cons x _ ih=>simp only [sumI,ih]
 | swap x y l=>simp only [sumI]; omega
 | trans _ _ ih1 ih2=>rw [ih1,ih2]
theorem sumOn_perm {S : List Int} {a b : List (Int × Int)} (h : a.Perm b) : sumOn S a = sumOn S b:=sumI_perm (h.map _)
theorem sumOn_nonneg {S : List Int} {l : List (Int × Int)} (h : ∀ q ∈ l,0 <= q.2) : 0 <= sumOn S l:=by
 refine sumI_map_nonneg _ fun q hq=>?_
 have:=h q hq
 split <;> omega
theorem sumOn_cons {x : Int} {S : List Int} (hx : x ∉ S) : ∀ (l : List (Int × Int)),sumOn (x :: S) l = sumOn [x] l + sumOn S l
 | []=>rfl
 | q :: l=>by
  have ih:=sumOn_cons hx l
  simp only [sumOn,lpc,sumI,lmk,List.not_mem_nil,or_false] at ih ⊢
  by_cases h1 : q.1 = x
  ·simp only [h1,true_or,if_true,if_neg hx] at ih ⊢
   omega
  ·simp only [h1,false_or,if_false] at ih ⊢
   omega
theorem zip_groups {F : Int × Int -> List (Int × Int)} {G : Int -> List Int} (hF : ∀ p,∀ q ∈ F p,q.1 ∈ G p.1) : ∀ (ks gs : List Int),∀ q ∈ (ks.zip gs).flatMap F,q.1 ∈ ks.flatMap G:=by
 intro ks gs q hq
 obtain ⟨p,hp,hq⟩:=List.mem_flatMap.1 hq
 exact List.mem_flatMap.2 ⟨p.1,(List.of_mem_zip hp).1,hF p q hq⟩
theorem sumOn_zip {S : List Int} {F : Int × Int -> List (Int × Int)} {G : Int -> List Int} (hF : ∀ p,∀ q ∈ F p,q.1 ∈ G p.1) : ∀ (ks gs : List Int) (j : Nat) (c gk : Int),(ks.flatMap G).Nodup -> ks[j]? = some c -> gs[j]? = some gk -> (∀ x ∈ S,x ∈ G c) -> sumOn S ((ks.zip gs).flatMap F) = sumOn S (F (c,gk))
 | [],_,_,_,_,_,h,_,_=>by simp at h
 | _ :: _,[],_,_,_,_,_,h,_=>by simp at h
 | k0 :: ks,g0 :: gs,0,c,gk,hn,hk,hg,hS=>by
  simp only [List.getElem?_cons_zero,osi] at hk hg
  subst hk
  subst hg
  rw [lfc] at hn
  obtain ⟨_,_,h3⟩:=List.nodup_append.1 hn
  rw [List.zip_cons_cons,lfc,sumOn_append,sumOn_zero (l:=(ks.zip gs).flatMap F),Int.add_zero]
  intro q hq hqS
  exact h3 q.1 (hS _ hqS) q.1 (zip_groups hF ks gs q hq) rfl
 | k0 :: ks,g0 :: gs,j + 1,c,gk,hn,hk,hg,hS=>by
  simp only [List.getElem?_cons_succ] at hk hg
  rw [lfc] at hn
  obtain ⟨_,h2,h3⟩:=List.nodup_append.1 hn
  rw [List.zip_cons_cons,lfc,sumOn_append,sumOn_zero (l:=F (k0,g0)),Int.zero_add]
  ·exact sumOn_zip hF ks gs j c gk h2 hk hg hS
  ·intro q hq hqS
   exact h3 q.1 (hF _ q hq) q.1 (List.mem_flatMap.2 ⟨c,lmg hk,hS _ hqS⟩) rfl
theorem zip_sum {F : Int × Int -> List (Int × Int)} : ∀ (ks gs : List Int),gs.length = ks.length -> (∀ (j : Nat) (c gk : Int),ks[j]? = some c -> gs[j]? = some gk -> sumI ((F (c,gk)).map Prod.snd) = gk) -> sumI (((ks.zip gs).flatMap F).map Prod.snd) = sumI gs
 | [],[],_,_=>rfl
 | [],_ :: _,h,_=>by simp at h
 | _ :: _,[],h,_=>by simp at h
 | k :: ks,g :: gs,hl,h=>by
  have ih:=zip_sum (F:=F) ks gs (by simpa using hl) fun j c gk hc hg=>h (j + 1) c gk (by simpa using hc) (by simpa using hg)
  have h0:=h 0 k g rfl rfl
  rw [List.zip_cons_cons,lfc,lma,sumI_append,ih,h0]
  rfl
structure TakeOk (t : Tr) (l : List Pt) (k : Nat) (g K : Int) : Prop where
 all : sumI ((takeN t.nodes l (capR t l) k g K).map Prod.snd) = K
 own : ∀ q ∈ takeN t.nodes l (capR t l) k g K,0 < q.2 /\ q.2 <= (partOf l q.1).own
 sub : ∀ c ∈ subF t.nodes k g,sumOn (subA t c) (takeN t.nodes l (capR t l) k g K) <= capR t l c
theorem cap_le_sum {t : Tr} (h : TreeOk t) {l : List Pt} {g : Int} (hg : InN t.nodes g) : capR t l g <= sumI ((partOf l g).own :: (kidsN t.nodes g).map (capR t l)):=by
 rw [capR_step h l hg,capF,sumI]
 omega
theorem shares_nonneg {t : Tr} {l : List Pt} (hp : ∀ x ∈ l,PtOk x) (g : Int) (ks : List Int) : ∀ x ∈ (partOf l g).own :: ks.map (capR t l),0 <= x:=by
 intro x hx
 rcases lmk.1 hx with rfl | hx
 ·exact (partOf_ok hp g).o0
 ·obtain ⟨c,_,rfl⟩:=lmm.1 hx
  exact (capN_bound (ns:=t.nodes) hp t.nodes.length c).1
theorem takeN_groups (ns : List Nd) (l : List Pt) (cap : Int -> Int) (k : Nat) (g K : Int) : ∀ q ∈ takeN ns l cap k g K,q.1 ∈ subF ns k g:=fun _ hq=>(takeN_sub ns l cap k g K).subset (lmm.2 ⟨_,hq,rfl⟩)
theorem take_main {t : Tr} (h : TreeOk t) {l : List Pt} (hp : ∀ x ∈ l,PtOk x) : ∀ (k i : Nat) (n : Nd) (K : Int),t.nodes[i]? = some n -> t.nodes.length <= i + k -> 0 <= K -> K <= capR t l n.id ->
  TakeOk t l k n.id K /\ ∀ (m k' : Nat) (c : Int),k = k' + 1 -> (kidsN t.nodes n.id)[m]? = some c -> ∃ z,(splitP K ((partOf l n.id).own :: (kidsN t.nodes n.id).map (capR t l)))[m + 1]? = some z /\ sumOn (subA t c) (takeN t.nodes l (capR t l) k n.id K) = z:=by
 intro k
 induction k with
 | zero=>intro i n K hn hk; have:=(lgs.1 hn).1; omega
 | succ k ih =>
  intro i n K hn hk h0 h1
  have hin : InN t.nodes n.id:=⟨i,n,hn,rfl⟩
  have hnn:=shares_nonneg (t:=t) hp n.id (kidsN t.nodes n.id)
  have hle:=Int.le_trans h1 (cap_le_sum h (l:=l) hin)
  have hsum:=split_sum hnn h0 hle
  have hat:=fun (j : Nat) (x : Int) hj=>split_at hnn h0 hle (i:=j) (x:=x) hj
  have hsl:=splitP_length K ((partOf l n.id).own :: (kidsN t.nodes n.id).map (capR t l))
  have hnd:=subA_nodup h hin
  rw [subA_cons h hin,List.nodup_cons] at hnd
  have hkf : ∀ c ∈ kidsN t.nodes n.id,subF t.nodes k c = subA t c:=by
   intro c hc
   obtain ⟨j,m,hj,hpar,rfl⟩:=mem_kidsN.1 hc
   have hij:=h.kid hn hj hpar
   exact subF_fuel h k t.nodes.length j m hj (by omega) (by omega)
  have hfl : (kidsN t.nodes n.id).flatMap (subF t.nodes k) = (kidsN t.nodes n.id).flatMap (subA t):=flatMap_congr_mem hkf
  have hrec : ∀ c ∈ kidsN t.nodes n.id,∀ K',0 <= K' -> K' <= capR t l c -> TakeOk t l k c K':=by
   intro c hc K' h0' h1'
   obtain ⟨j,m,hj,hpar,rfl⟩:=mem_kidsN.1 hc
   have hij:=h.kid hn hj hpar
   exact (ih j m K' hj (by omega) h0' h1').1
  generalize hsp : splitP K ((partOf l n.id).own :: (kidsN t.nodes n.id).map (capR t l)) = sp at hsum hat hsl
  rcases sp with - | ⟨g0,gs⟩
  ·simp at hsl
  have hgl : gs.length = (kidsN t.nodes n.id).length:=by simpa using hsl
  have hg0 : 0 <= g0 /\ g0 <= (partOf l n.id).own:=by
   obtain ⟨z,hz,a,b,_⟩:=hat 0 _ rfl
   have : g0 = z:=by simpa using hz
   subst this
   exact ⟨a,b⟩
  have hgs : ∀ (j : Nat) (c gk : Int),(kidsN t.nodes n.id)[j]? = some c -> gs[j]? = some gk -> 0 <= gk /\ gk <= capR t l c:=by
   intro j c gk hc hg
   obtain ⟨z,hz,a,b,_⟩:=hat (j + 1) (capR t l c) (by rw [List.getElem?_cons_succ,List.getElem?_map,hc]; rfl)
   rw [List.getElem?_cons_succ,hg] at hz
   simp only [osi] at hz
   subst hz
   exact ⟨a,b⟩
  have htk : takeN t.nodes l (capR t l) (k + 1) n.id K = (if 0 < g0 then [(n.id,g0)] else []) ++ ((kidsN t.nodes n.id).zip gs).flatMap fun p=>if 0 < p.2 then takeN t.nodes l (capR t l) k p.1 p.2 else []:=by
   rw [takeN,hsp]
   rfl
  obtain ⟨F,hF⟩ : ∃ F : Int × Int -> List (Int × Int),F = fun p=>if 0 < p.2 then takeN t.nodes l (capR t l) k p.1 p.2 else []:=⟨_,rfl⟩
  rw [<- hF] at htk
  have hFp : ∀ a b,0 < b -> F (a,b) = takeN t.nodes l (capR t l) k a b:=fun a b hb=>by rw [hF]; exact if_pos hb
  have hFn : ∀ a b,¬ 0 < b -> F (a,b) = []:=fun a b hb=>by rw [hF]; exact if_neg hb
  have hFg : ∀ p,∀ q ∈ F p,q.1 ∈ subF t.nodes k p.1:=by
   intro p q hq
   by_cases hb : 0 < p.2
   ·rw [hFp _ _ hb] at hq
    exact takeN_groups _ _ _ _ _ _ q hq
   ·rw [hFn _ _ hb] at hq
    simp at hq
  have hFs : ∀ (j : Nat) (c gk : Int),(kidsN t.nodes n.id)[j]? = some c -> gs[j]? = some gk -> sumI ((F (c,gk)).map Prod.snd) = gk:=by
   intro j c gk hc hg
   have hb:=hgs j c gk hc hg
   by_cases hpos : 0 < gk
   ·rw [hFp _ _ hpos]
    exact (hrec c (lmg hc) gk hb.1 hb.2).all
   ·rw [hFn _ _ hpos]
    simp only [lpn,sumI]
    omega
  have hgrp : ∀ q ∈ ((kidsN t.nodes n.id).zip gs).flatMap F,q.1 ∈ (kidsN t.nodes n.id).flatMap (subA t):=fun q hq=>hfl ▸ zip_groups hFg _ _ q hq
  have hz:=zip_sum (F:=F) _ _ hgl hFs
  have hhead : ∀ S : List Int,n.id ∉ S -> sumOn S (if 0 < g0 then [(n.id,g0)] else []) = 0:=fun S hS=>sumOn_zero fun q hq=>by
   split at hq
   ·have : q = (n.id,g0):=by simpa using hq
    rw [this]
    exact hS
   ·simp at hq
  have hone : ∀ (j : Nat) (c gk : Int),(kidsN t.nodes n.id)[j]? = some c -> gs[j]? = some gk -> ∀ S : List Int,(∀ x ∈ S,x ∈ subA t c) -> sumOn S (takeN t.nodes l (capR t l) (k + 1) n.id K) = sumOn S (F (c,gk)):=by
   intro j c gk hc hg S hS
   have hcm:=lmg hc
   rw [htk,sumOn_append,hhead S (fun hx=>hnd.1 (List.mem_flatMap.2 ⟨c,hcm,hS _ hx⟩)),Int.zero_add]
   exact sumOn_zip hFg _ _ j c gk (hfl ▸ hnd.2) hc hg (fun x hx=>by rw [hkf c hcm]; exact hS x hx)
  have hall : sumI ((takeN t.nodes l (capR t l) (k + 1) n.id K).map Prod.snd) = K:=by
   rw [htk,lma,sumI_append,hz]
   simp only [sumI] at hsum
   split
   ·simp only [lpc,lpn,sumI]
    omega
   ·simp only [lpn,sumI]
    omega
  refine ⟨⟨hall,fun q hq=>?_,fun c hc=>?_⟩,fun m k' c _ hc=>?_⟩
  ·rw [htk] at hq
   rcases lmp.1 hq with hq | hq
   ·split at hq
    ·have : q = (n.id,g0):=by simpa using hq
     subst this
     exact ⟨by assumption,hg0.2⟩
    ·simp at hq
   ·obtain ⟨p,hpz,hq⟩:=List.mem_flatMap.1 hq
    by_cases hb : 0 < p.2
    ·rw [hFp _ _ hb] at hq
     obtain ⟨j,hj⟩:=lgm hpz
     have hzz : (kidsN t.nodes n.id)[j]? = some p.1 /\ gs[j]? = some p.2:=by
      rw [List.getElem?_zip_eq_some] at hj
      exact hj
     have hb2:=hgs j _ _ hzz.1 hzz.2
     exact (hrec p.1 (lmg hzz.1) p.2 hb2.1 hb2.2).own q hq
    ·rw [hFn _ _ hb] at hq
     simp at hq
  ·rw [subF,lmk] at hc
   rcases hc with rfl | hc
   ·rw [sumOn_all (fun q hq=>?_),hall]
    ·exact h1
    ·rw [subA_cons h hin]
     have:=takeN_groups _ _ _ _ _ _ q hq
     rw [subF,hfl] at this
     exact this
   ·obtain ⟨d,hd,hc⟩:=List.mem_flatMap.1 hc
    obtain ⟨j,hj⟩:=lgm hd
    have hjl:=(lgs.1 hj).1
    have hg : gs[j]? = some gs[j]:=lgg (by omega)
    generalize gs[j] = gk at hg
    have hb:=hgs j d gk hj hg
    rw [hone j d gk hj hg _ (fun x hx=>subA_sub h (kid_in hd) (by rw [<- hkf d hd]; exact hc) hx)]
    by_cases hpos : 0 < gk
    ·rw [hFp _ _ hpos]
     exact (hrec d hd gk hb.1 hb.2).sub c hc
    ·rw [hFn _ _ hpos]
     exact (capN_bound (ns:=t.nodes) hp t.nodes.length c).1
  ·have hjl:=(lgs.1 hc).1
   have hg : gs[m]? = some gs[m]:=lgg (by omega)
   generalize gs[m] = gk at hg
   refine ⟨gk,by rw [List.getElem?_cons_succ,hg],?_⟩
   have hb:=hgs m c gk hc hg
   have hcm:=lmg hc
   rw [hone m c gk hc hg _ (fun x hx=>hx)]
   refine (sumOn_all fun q hq=>?_).trans (hFs m c gk hc hg)
   have:=hFg (c,gk) q hq
   rw [hkf c hcm] at this
   exact this
theorem tks_flat (l : List (Int × Int)) : (l.map tkP).all PV.flat = true:=by
 rw [List.all_eq_true]
 intro x hx
 obtain ⟨n,_,rfl⟩:=lmm.1 hx
 rfl
attribute [go_sem] tks_flat
structure RoundOk (t : Tr) (l : List Pt) (root K : Int) (a : List (Int × Int)) : Prop where
 groups : ∀ q ∈ a,q.1 ∈ subA t root
 pos : ∀ q ∈ a,0 < q.2 /\ q.2 <= (partOf l q.1).own
 inc : a.Pairwise fun x y=>x.1 < y.1
 len : a.length <= 64
 on : ∀ c,InN t.nodes c -> takenP t a c = sumOn (subA t c) a
 top : takenP t a root = K
 sub : ∀ c ∈ subA t root,takenP t a c <= capR t l c
 kid : ∀ (m : Nat) (c : Int),(kidsN t.nodes root)[m]? = some c -> ∃ z,(splitP K ((partOf l root).own :: (kidsN t.nodes root).map (capR t l)))[m + 1]? = some z /\ takenP t a c = z
theorem taken_on {t : Tr} (h : TreeOk t) {c : Int} (hc : InN t.nodes c) : ∀ {a : List (Int × Int)},(∀ q ∈ a,InN t.nodes q.1) -> takenP t a c = sumOn (subA t c) a:=by
 intro a ha
 refine sumI_congr fun q hq=>?_
 have:=mem_anc h hc (ha q hq)
 by_cases hh : c ∈ ancR t q.1
 .rw [if_pos hh,if_pos (this.1 hh)]
 .rw [if_neg hh,if_neg (fun x=>hh (this.2 x))]
theorem tsort_perm (l : List (Int × Int)) : (tsort l).Perm l:=List.mergeSort_perm _ _
theorem tsort_inc {l : List (Int × Int)} (h : (l.map Prod.fst).Nodup) : (tsort l).Pairwise fun x y=>x.1 < y.1:=by
 have h1 : (tsort l).Pairwise fun a b=>decide (a.1 <= b.1) = true:=List.pairwise_mergeSort (fun a b c h1 h2=>by simp only [decide_eq_true_eq] at *; omega) (fun a b=>by simp only [bot,decide_eq_true_eq]; omega) l
 have h2 : ((tsort l).map Prod.fst).Nodup:=((tsort_perm l).map _).nodup_iff.2 h
 have h3 : (tsort l).Pairwise fun a b=>a.1 ≠ b.1:=by
  rw [List.Nodup,List.pairwise_map] at h2
  exact h2
 refine (h1.and h3).imp ?_
 rintro a b ⟨h1,h2⟩
 simp only [decide_eq_true_eq] at h1
 omega
theorem round_ok {t : Tr} {l : List Pt} {root n : Int} (hP : PartsOk t l root) (h0 : 0 <= n) (h1 : n <= 16777216) : ∃ a,RoundP t l root n = (a,0) /\ RoundOk t l root (min n (capR t l root)) a:=by
 have hT:=hP.tree
 have hcb : 0 <= capR t l root /\ capR t l root <= 16777216:=capN_bound (ns:=t.nodes) hP.ok t.nodes.length root
 refine ⟨tsort (takeR t l root (min n (capR t l root))),by rw [RoundP,if_pos ((validP_iff t l root).2 hP),if_pos (by simp [pagesB,h0,h1])],?_⟩
 obtain ⟨hr1,hr2,hr3⟩:=takeR_ok (l:=l) hT hP.top (min n (capR t l root))
 obtain ⟨i,m,hm,he⟩:=hP.top
 have hin:=hP.top
 have hml:=(lgs.1 hm).1
 have hmain:=take_main hT hP.ok t.nodes.length i m (min n (capR t l root)) hm (by omega) (by have:=hcb.1; omega) (by rw [he]; omega)
 rw [he] at hmain
 obtain ⟨hM,hK⟩:=hmain
 have hg : ∀ q ∈ takeR t l root (min n (capR t l root)),q.1 ∈ subA t root:=takeN_groups _ _ _ _ _ _
 have hp:=tsort_perm (takeR t l root (min n (capR t l root)))
 have hg' : ∀ q ∈ tsort (takeR t l root (min n (capR t l root))),q.1 ∈ subA t root:=fun q hq=>hg q (hp.mem_iff.1 hq)
 have hon : ∀ c,InN t.nodes c -> takenP t (tsort (takeR t l root (min n (capR t l root)))) c = sumOn (subA t c) (tsort (takeR t l root (min n (capR t l root)))):=fun c hc=>taken_on hT hc fun q hq=>subA_in hT hin (hg' q hq)
 refine ⟨hg',fun q hq=>hM.own q (hp.mem_iff.1 hq),tsort_inc hr3,by rw [hp.length_eq]; exact hr1,hon,?_,fun c hc=>?_,fun j c hj=>?_⟩
 ·rw [hon root hin,sumOn_perm hp,sumOn_all hg]
  exact hM.all
 ·rw [hon c (subA_in hT hin hc),sumOn_perm hp]
  exact hM.sub c hc
 ·have hl : t.nodes.length = (t.nodes.length - 1) + 1:=by omega
  obtain ⟨z,hz1,hz2⟩:=hK j (t.nodes.length - 1) c hl hj
  exact ⟨z,hz1,by rw [hon c (kid_in (lmg hj)),sumOn_perm hp]; exact hz2⟩
theorem cap_le {t : Tr} (h : TreeOk t) {l : List Pt} {g : Int} (hg : InN t.nodes g) : capR t l g <= (partOf l g).room /\ capR t l g <= max 0 ((partOf l g).usage - (partOf l g).protect):=by
 rw [capR_step h l hg,capF]
 omega
theorem kids_in {t : Tr} (h : TreeOk t) {g : Int} (hg : InN t.nodes g) : kids t g = kidsN t.nodes g:=by
 obtain ⟨i,n,hn,rfl⟩:=hg
 refine kids_kidsN ?_
 rw [findT_ok ((treeOk_iff t).2 h),findN_unique h.inc hn]
 rfl
theorem sumOn_one {g : Int} : ∀ {a : List (Int × Int)},(a.Pairwise fun x y=>x.1 < y.1) -> sumOn [g] a = 0 \/ ∃ q ∈ a,q.1 = g /\ sumOn [g] a = q.2
 | [],_=>Or.inl rfl
 | p :: a,h=>by
  obtain ⟨h1,h2⟩:=lpw.1 h
  have hs : sumOn [g] (p :: a) = (if p.1 ∈ [g] then p.2 else 0) + sumOn [g] a:=rfl
  by_cases hp : p.1 = g
  ·have hz : sumOn [g] a = 0:=sumOn_zero fun q hq=>by
    have:=h1 q hq
    simp only [List.mem_singleton]
    omega
   rw [hs,hz,if_pos (by simp [hp])]
   exact Or.inr ⟨p,by simp,hp,by omega⟩
  ·rw [hs,if_neg (by simpa using hp),Int.zero_add]
   rcases sumOn_one (g:=g) h2 with h3 | ⟨q,hq,h3,h4⟩
   .exact Or.inl h3
   .exact Or.inr ⟨q,by simp [hq],h3,h4⟩
theorem own_taken {t : Tr} {l : List Pt} {root K : Int} {a : List (Int × Int)} (hl : ∀ x ∈ l,PtOk x) (h : RoundOk t l root K a) (g : Int) : 0 <= sumOn [g] a /\ sumOn [g] a <= (partOf l g).own:=by
 have h0:=(partOf_ok hl g).o0
 rcases sumOn_one (g:=g) h.inc with h1 | ⟨q,hq,h1,h2⟩
 ·omega
 ·have:=h.pos q hq
  rw [h1] at this
  omega
theorem sumOn_take {S : List Int} {a : List (Int × Int)} (h : ∀ q ∈ a,0 <= q.2) (j : Nat) : sumOn S (a.take j) <= sumOn S a:=by
 refine sumI_take_le a j fun q hq=>?_
 have:=h q hq
 split <;> omega
theorem has_part {t : Tr} {l : List Pt} {root : Int} (h : PartsOk t l root) {g : Int} (hg : g ∈ subA t root) : ∃ x ∈ l,x.group = g:=by
 obtain ⟨i,n,hn,he⟩:=h.top
 have hsr : subT t root = subA t root:=by rw [<- he]; exact subT_some h.tree hn
 have : g ∈ l.map (·.group):=by
  rw [h.groups,(msort_perm _).mem_iff,hsr]
  exact hg
 obtain ⟨y,hy,he⟩:=lmm.1 this
 exact ⟨y,hy,he⟩
theorem taken_nonneg {t : Tr} {l : List Pt} {root K : Int} {a : List (Int × Int)} (h : RoundOk t l root K a) (g : Int) : 0 <= takenP t a g:=sumI_map_nonneg _ fun q hq=>by
 have:=(h.pos q hq).1
 split <;> omega
theorem sumI_sub (f g : Int -> Int) : ∀ (ks : List Int),sumI (ks.map fun c=>f c - g c) = sumI (ks.map f) - sumI (ks.map g)
 | []=>rfl
 | c :: ks=>by
  have:=sumI_sub f g ks
  simp only [lpc,sumI,this]
  omega
def memF (l : List Hg) (g : Int) : Int:=(getS l g).file + (getS l g).anon
def swpF (l : List Hg) (g : Int) : Int:=(getS l g).swap
def cntS (l : List Hg) : List Ch:=(l.filter fun h=>decide (h.file + h.anon ≠ 0)).map fun h=>⟨h.group,h.file + h.anon⟩
theorem cntS_cons (h : Hg) (l : List Hg) : cntS (h :: l) = (if h.file + h.anon = 0 then [] else [⟨h.group,h.file + h.anon⟩]) ++ cntS l:=by
 unfold cntS
 by_cases hn : h.file + h.anon = 0
 ·rw [List.filter_cons_of_neg (by simpa using hn),if_pos hn]
  rfl
 ·rw [List.filter_cons_of_pos (by simpa using hn),if_neg hn]
  rfl
theorem cntS_own : ∀ {l : List Hg},(l.Pairwise fun a b=>a.group < b.group) -> ∀ g,ownC (cntS l) g = memF l g
 | [],_,g=>rfl
 | h :: l,hi,g=>by
  obtain ⟨h0,h1⟩:=lpw.1 hi
  have ih:=cntS_own h1 g
  have hz : h.group = g -> ownC (cntS l) g = 0:=fun e=>ownC_zero fun c hc=>by
   obtain ⟨x,hx,rfl⟩:=lmm.1 hc
   have:=h0 x (List.mem_filter.1 hx).1
   show x.group ≠ g
   omega
  have hm : memF (h :: l) g = if h.group = g then h.file + h.anon else memF l g:=by
   unfold memF
   rw [show getS (h :: l) g = if h.group = g then h else getS l g from rfl]
   split <;> rfl
  rw [cntS_cons,hm]
  by_cases hg : h.group = g
  ·rw [if_pos hg]
   by_cases hn : h.file + h.anon = 0
   .rw [if_pos hn,lna,hz hg,hn]
   .rw [if_neg hn,List.singleton_append,ownC,if_pos hg]
  ·rw [if_neg hg]
   by_cases hn : h.file + h.anon = 0
   .rw [if_pos hn,lna,ih]
   .rw [if_neg hn,List.singleton_append,ownC,if_neg hg,ih]
theorem cntS_sum : ∀ (l : List Hg),sumI ((cntS l).map (·.own)) = sumI (l.map fun h=>h.file + h.anon)
 | []=>rfl
 | h :: l=>by
  have ih:=cntS_sum l
  rw [cntS_cons,lma,sumI_append,ih,lpc,sumI]
  by_cases hn : h.file + h.anon = 0
  ·rw [if_pos hn]
   simp only [lpn,sumI]
   omega
  ·rw [if_neg hn]
   simp only [lpc,lpn,sumI]
   omega
theorem cntS_ok {ns : List Nd} {z : Int} {l : List Hg} (h : HgOk ns z l) : ChOk ns (cntS l):=by
 refine ⟨fun c hc=>?_,?_,fun c hc=>?_,by rw [cntS_sum]; exact h.mem⟩
 ·obtain ⟨x,hx,rfl⟩:=lmm.1 hc
  exact h.known x (List.mem_filter.1 hx).1
 ·unfold cntS
  rw [List.pairwise_map]
  exact h.inc.sublist List.filter_sublist
 ·obtain ⟨x,hx,rfl⟩:=lmm.1 hc
  obtain ⟨h1,h2⟩:=List.mem_filter.1 hx
  have:=(h.file x h1).1
  have:=(h.anon x h1).1
  simp only [decide_eq_true_eq] at h2
  show 1 <= x.file + x.anon
  omega
theorem cntS_len (l : List Hg) : (cntS l).length <= l.length:=by
 unfold cntS
 rw [llm]
 exact List.length_filter_le _ _
structure Sh where
 group : Int
 file : Int
 anon : Int
 low : Int
 deriving DecidableEq
def Sh.pv (h : Sh) : PV:=.agg [.int .i64 h.group,.int .i64 h.file,.int .i64 h.anon,.int .i64 h.low]
abbrev Sh.vv (h : Sh) : VVal:=.agg [.p (.int .i64 h.group),.p (.int .i64 h.file),.p (.int .i64 h.anon),.p (.int .i64 h.low)]
abbrev shsP (l : List Sh) : PV:=.slice 4 (l.map Sh.pv)
attribute [go_sem] Sh.pv
theorem shs_flat (l : List Sh) : (l.map Sh.pv).all PV.flat = true:=by
 rw [List.all_eq_true]
 intro x hx
 obtain ⟨n,_,rfl⟩:=lmm.1 hx
 rfl
attribute [go_sem] shs_flat
abbrev zeroSh : Sh:=⟨0,0,0,0⟩
def takeH (out : Bool) (h : Hg) (n : Int) : Hg:=if out then ⟨h.group,h.file,h.anon - n,h.swap + n⟩ else ⟨h.group,h.file - n,h.anon,h.swap⟩
def takeK (out low : Bool) (id : Int) (k : Sh) (n : Int) : Sh:=⟨id,if out then k.file else k.file + n,if out then k.anon + n else k.anon,if low then k.low + n else k.low⟩
def takeOne (out low : Bool) (s : List Hg × (Int -> Sh)) (q : Int × Int) : List Hg × (Int -> Sh):=(putS s.1 (takeH out (getS s.1 q.1) q.2),fun x=>if x = q.1 then takeK out low q.1 (s.2 q.1) q.2 else s.2 x)
def takeAll (out low : Bool) (s : List Hg × (Int -> Sh)) (a : List (Int × Int)) : List Hg × (Int -> Sh):=a.foldl (takeOne out low) s
theorem sumOn_cons1 (x : Int) (q : Int × Int) (a : List (Int × Int)) : sumOn [x] (q :: a) = (if q.1 = x then q.2 else 0) + sumOn [x] a:=by
 simp [sumOn,sumI]
theorem takeH_group (out : Bool) (h : Hg) (n : Int) : (takeH out h n).group = h.group:=by
 unfold takeH
 split <;> rfl
theorem takeAll_note (out low : Bool) (x : Int) : ∀ (a : List (Int × Int)) (s : List Hg × (Int -> Sh)),(takeAll out low s a).2 x = if x ∈ a.map Prod.fst then takeK out low x (s.2 x) (sumOn [x] a) else s.2 x
 | [],s=>by
  show s.2 x = _
  simp
 | q :: a,s=>by
  have ih:=takeAll_note out low x a (takeOne out low s q)
  show (takeAll out low (takeOne out low s q) a).2 x = _
  rw [ih,sumOn_cons1]
  simp only [lpc,lmk]
  show (if x ∈ a.map Prod.fst then takeK out low x (if x = q.1 then takeK out low q.1 (s.2 q.1) q.2 else s.2 x) (sumOn [x] a) else (if x = q.1 then takeK out low q.1 (s.2 q.1) q.2 else s.2 x)) = _
  by_cases hx : x = q.1
  ·subst hx
   rw [if_pos rfl,if_pos (Or.inl rfl),if_pos rfl]
   by_cases hm : q.1 ∈ a.map Prod.fst
   ·rw [if_pos hm]
    unfold takeK
    cases out <;> cases low <;> simp <;> omega
   ·have hz : sumOn [q.1] a = 0:=sumOn_zero fun r hr hrq=>hm (by
     have : r.1 = q.1:=by simpa using hrq
     rw [<- this]
     exact lmm.2 ⟨r,hr,rfl⟩)
    rw [if_neg hm,hz,Int.add_zero]
  ·have hx' : ¬ q.1 = x:=fun e=>hx e.symm
   rw [if_neg hx,if_neg hx',Int.zero_add]
   by_cases hm : x ∈ a.map Prod.fst
   .rw [if_pos hm,if_pos (Or.inr hm)]
   .rw [if_neg hm,if_neg (fun h=>h.elim hx hm)]
theorem takeAll_ok {ns : List Nd} {z : Int} (hzb : z <= 16777216) (out low : Bool) : ∀ (a : List (Int × Int)) (s : List Hg × (Int -> Sh)),HgOk ns z s.1 -> (∀ q ∈ a,0 < q.2 /\ (findN ns q.1).isSome = true) -> (∀ x,sumOn [x] a <= if out then (getS s.1 x).anon else (getS s.1 x).file) -> (out = true -> sumI (s.1.map (·.swap)) + sumI (a.map Prod.snd) <= z) ->
  HgOk ns z (takeAll out low s a).1 /\ sumI ((takeAll out low s a).1.map fun h=>h.file + h.anon) = sumI (s.1.map fun h=>h.file + h.anon) - sumI (a.map Prod.snd) /\ sumI ((takeAll out low s a).1.map (·.swap)) = sumI (s.1.map (·.swap)) + if out then sumI (a.map Prod.snd) else 0
 | [], s, h, _, _, _=>by
  refine ⟨h,?_,?_⟩
  ·show sumI (s.1.map _) = _ - 0
   omega
  ·show sumI (s.1.map _) = _ + (if out then 0 else 0)
   cases out <;> simp
 | q :: a,s,h,hq,hs,hz=>by
  obtain ⟨hq0,hqk⟩:=hq q (by simp)
  have hn : ∀ x,0 <= sumOn [x] a:=fun x=>sumOn_nonneg fun r hr=>by have:=(hq r (by simp [hr])).1; omega
  have hsa : 0 <= sumI (a.map Prod.snd):=sumI_map_nonneg _ fun r hr=>by have:=(hq r (by simp [hr])).1; omega
  obtain ⟨g1,g2,g3⟩:=h.get q.1
  have hsq:=hs q.1
  rw [sumOn_cons1,if_pos rfl] at hsq
  have hnq:=hn q.1
  simp only [lpc,sumI] at hz ⊢
  have hgg : (takeH out (getS s.1 q.1) q.2).group = q.1:=by rw [takeH_group,getS_group]
  have hsw:=h.out
  have hsn : (getS s.1 q.1).swap <= sumI (s.1.map (·.swap)):=by
   rcases getS_mem (l:=s.1) (id:=q.1) with he | he
   ·rw [he]
    exact sumI_map_nonneg _ fun x hx=>(h.swap x hx).1
   ·have h1 : ∀ y ∈ s.1.map (·.swap),0 <= y:=fun y hy=>by
     obtain ⟨x,hx,rfl⟩:=lmm.1 hy
     exact (h.swap x hx).1
    exact mem_le_sumI _ h1 (lmm.2 ⟨_,he,rfl⟩)
  have hmm:=h.mem
  unfold inPg at g1 g2 g3
  have h1 : HgOk ns z (putS s.1 (takeH out (getS s.1 q.1) q.2)) /\ sumI ((putS s.1 (takeH out (getS s.1 q.1) q.2)).map fun h=>h.file + h.anon) = sumI (s.1.map fun h=>h.file + h.anon) - q.2 /\ sumI ((putS s.1 (takeH out (getS s.1 q.1) q.2)).map (·.swap)) = sumI (s.1.map (·.swap)) + if out then q.2 else 0:=by
   have e1:=putS_sum (f:=fun h=>h.file + h.anon) (fun _=>rfl) h.inc (takeH out (getS s.1 q.1) q.2)
   have e2:=putS_sum (f:=fun h=>h.swap) (fun _=>rfl) h.inc (takeH out (getS s.1 q.1) q.2)
   rw [hgg] at e1 e2
   refine ⟨?_,?_,?_⟩
   ·refine h.put (by rw [hgg]; exact hqk) ?_ ?_ ?_ ?_ ?_
    ·cases out <;> simp [takeH,inPg] at hsq ⊢ <;> omega
    ·cases out <;> simp [takeH,inPg] at hsq ⊢ <;> omega
    ·cases out
     ·simp [takeH,inPg]
      omega
     ·have:=hz rfl
      simp [takeH,inPg] at hsq ⊢
      omega
    ·rw [hgg]
     cases out <;> simp [takeH] <;> omega
    ·rw [hgg]
     cases out
     ·simp [takeH]
      omega
     ·have:=hz rfl
      simp [takeH]
      omega
   ·rw [e1]
    cases out <;> simp [takeH] <;> omega
   ·rw [e2]
    cases out <;> simp [takeH] <;> omega
  obtain ⟨h1,h2,h3⟩:=h1
  have ih:=takeAll_ok hzb out low a (takeOne out low s q) h1 (fun r hr=>hq r (by simp [hr])) (fun x=>by
   have hsx:=hs x
   rw [sumOn_cons1] at hsx
   show sumOn [x] a <= if out then (getS (putS s.1 (takeH out (getS s.1 q.1) q.2)) x).anon else (getS (putS s.1 (takeH out (getS s.1 q.1) q.2)) x).file
   rw [putS_get,hgg]
   by_cases hx : x = q.1
   ·subst hx
    rw [if_pos rfl] at hsx ⊢
    cases out <;> simp [takeH] at hsx ⊢ <;> omega
   ·rw [if_neg (fun e=>hx e.symm)] at hsx
    rw [if_neg hx]
    omega) (fun ho=>by
   have:=hz ho
   show sumI ((putS s.1 (takeH out (getS s.1 q.1) q.2)).map (·.swap)) + _ <= z
   rw [h3,if_pos ho]
   omega)
  obtain ⟨i1,i2,i3⟩:=ih
  refine ⟨i1,?_,?_⟩
  ·show sumI ((takeAll out low (takeOne out low s q) a).1.map _) = _
   rw [i2]
   show sumI ((putS s.1 (takeH out (getS s.1 q.1) q.2)).map _) - _ = _
   rw [h2]
   omega
  ·show sumI ((takeAll out low (takeOne out low s q) a).1.map _) = _
   rw [i3]
   show sumI ((putS s.1 (takeH out (getS s.1 q.1) q.2)).map _) + _ = _
   rw [h3]
   cases out <;> simp <;> omega
theorem spages_eq (n : Int) : V 66 [.p (.int .i64 n)] [] = some (.p (.bool (pagesB n)),[]):=by
 refine V_wp (vf:=vf66) rfl ?_
 by_cases h0 : 0 <= n
 ·by_cases h1 : n <= 16777216
  .simp -implicitDefEqProofs (disch:=omega) only [vf66,vb66,h0,h1,pagesB,decide_true,bas,ge_iff_le,go_sem,↓reduceIte,rA,rS,rE,rL,reduceCtorEq]
  .simp -implicitDefEqProofs (disch:=omega) only [vf66,vb66,h0,h1,pagesB,decide_true,decide_false,Bool.and_false,ge_iff_le,go_sem,↓reduceIte,rA,rS,rE,rL,reduceCtorEq]
 .simp -implicitDefEqProofs (disch:=omega) only [vf66,vb66,h0,pagesB,decide_false,bfa,ge_iff_le,go_sem,↓reduceIte,rA,rS,rE,rL,reduceCtorEq]
theorem sget_eq (sw : Stk) (id : Int) (hl : sw.hs.length < 1000000) : V 36 [sw.vv,.p (.int .i64 id)] [] = some ((getS sw.hs id).vv,[]):=by
 refine V_wp (vf:=vf36) rfl ?_
 simp -implicitDefEqProofs (disch:=omega) only [vf36,vb36,go_sem,↓reduceIte,rA,rS,rE,rL,reduceCtorEq]
 obtain ⟨I,hI⟩ : ∃ I : Nat -> St -> Prop,∀ k s,I k s ↔ getS sw.hs id = getS (sw.hs.drop k) id /\ s.pe 1 = .p (.int .i64 id) /\ s.pe 4 = .ptr (.slot 4 0) 0 0 /\ s.pe 8 = .p (hgsP sw.hs) /\ s.pe 9 = .p (.int .i64 ↑sw.hs.length) /\ s.pe 10 = .p (.int .i64 k) /\ s.h (.slot 4 0) = some (0,Ob.box [.p (.int .i64 0),.p (.int .i64 0),.p (.int .i64 0),.p (.int .i64 0)]):=⟨_,fun _ _=>Iff.rfl⟩
 refine wp_count (sw.hs.length) I ?_ ?_
 ·refine (hI _ _).2 ⟨?_,?_,?_,?_,?_,?_,?_⟩
  ·rfl
  all_goals exact cl0
 intro k s hk hIk
 obtain ⟨ho,h1,h4,h8,h9,h10,hh4_0⟩:=(hI _ _).1 hIk
 clear hIk
 simp -implicitDefEqProofs (disch:=omega) only [h1,h4,h8,h9,h10,hh4_0,go_sem,↓reduceIte,rA,rS,rE,rL,reduceCtorEq]
 refine wp_if_d (fun hlt=>?_) (fun hge=>?_)
 ·have hm : sw.hs[k]? = some sw.hs[k]:=lgg hlt
  have hd : sw.hs.drop k = sw.hs[k] :: sw.hs.drop (k + 1):=ldg hlt
  generalize sw.hs[k] = c at hm hd
  rw [hd,getS] at ho
  by_cases he : c.group = id
  ·subst he
   rw [if_pos rfl] at ho
   simp -implicitDefEqProofs (disch:=omega) only [h1,h4,h8,h9,h10,hh4_0,hlt,hm,ho,go_sem,↓reduceIte,rA,rS,rE,rL,reduceCtorEq]
  ·rw [if_neg he] at ho
   simp -implicitDefEqProofs (disch:=omega) only [h1,h4,h8,h9,h10,hh4_0,hlt,hm,he,go_sem,↓reduceIte,rA,rS,rE,rL,reduceCtorEq]
   try refine And.intro (by omega) ?_
   refine (hI _ _).2 ⟨?_,?_,?_,?_,?_,?_,?_⟩
   .exact ho
   all_goals exact cl0
 ·rw [ldl (by omega),getS] at ho
  simp -implicitDefEqProofs (disch:=omega) only [h1,h4,h8,h9,h10,hh4_0,hge,ho,go_sem,↓reduceIte,rA,rS,rE,rL,reduceCtorEq]
theorem scounter_eq (sw : Stk) (hl : sw.hs.length < 1000000) (hb : ∀ h ∈ sw.hs,inPg h.file /\ inPg h.anon) : V 34 [sw.vv] [] = some (ctrF (cntS sw.hs),[]):=by
 refine V_wp (vf:=vf34) rfl ?_
 simp -implicitDefEqProofs (disch:=omega) only [vf34,vb34,go_sem,↓reduceIte,rA,rS,rE,rL,reduceCtorEq]
 obtain ⟨I,hI⟩ : ∃ I : Nat -> St -> Prop,∀ k s,I k s ↔ ∃ (acc : List Ch) (w : Nat),cntS sw.hs = acc ++ cntS (sw.hs.drop k) /\ acc.length <= k /\ s.pe 2 = .ptr (.slot 2 0) 0 0 /\ s.pe 3 = .ptr (.slot 3 0) 0 0 /\ s.pe 8 = .p (hgsP sw.hs) /\ s.pe 9 = .p (.int .i64 ↑sw.hs.length) /\ s.pe 10 = .p (.int .i64 k) /\ s.h (.slot 2 0) = some (0,Ob.box [.own (.slot 2 1) 0 0 0]) /\ s.h (.slot 2 1) = some (0,Ob.arr 2 []) /\ s.h (.slot 3 0) = some (0,Ob.box [.own (.slot 3 1) w 0 acc.length]) /\ s.h (.slot 3 1) = some (w,Ob.arr 2 (acc.map Ch.pv)):=⟨_,fun _ _=>Iff.rfl⟩
 refine wp_count (sw.hs.length) I ?_ ?_
 ·refine (hI _ _).2 ⟨[],0,?_,?_,?_,?_,?_,?_,?_,?_,?_,?_,?_⟩
  ·rfl
  ·exact lrf _
  all_goals exact cl0
 intro k s hk hIk
 obtain ⟨acc,w,ho,hal,h2,h3,h8,h9,h10,hh2_0,hh2_1,hh3_0,hh3_1⟩:=(hI _ _).1 hIk
 clear hIk
 simp -implicitDefEqProofs (disch:=omega) only [h2,h3,h8,h9,h10,hh2_0,hh2_1,hh3_0,hh3_1,go_sem,↓reduceIte,rA,rS,rE,rL,reduceCtorEq]
 refine wp_if_d (fun hlt=>?_) (fun hge=>?_)
 ·have hm : sw.hs[k]? = some sw.hs[k]:=lgg hlt
  have hd : sw.hs.drop k = sw.hs[k] :: sw.hs.drop (k + 1):=ldg hlt
  obtain ⟨⟨b1,b2⟩,b3,b4⟩:=hb _ (lmg hm)
  generalize sw.hs[k] = c at hm hd b1 b2 b3 b4
  rw [hd,cntS_cons] at ho
  by_cases he : c.file + c.anon = 0
  ·rw [if_pos he,lna] at ho
   simp -implicitDefEqProofs (disch:=omega) only [h2,h3,h8,h9,h10,hh2_0,hh2_1,hh3_0,hh3_1,hlt,hm,he,go_sem,↓reduceIte,rA,rS,rE,rL,reduceCtorEq]
   try refine And.intro (by omega) ?_
   refine (hI _ _).2 ⟨acc,w,?_,?_,?_,?_,?_,?_,?_,?_,?_,?_,?_⟩
   .exact ho
   .omega
   all_goals exact cl0
  ·rw [if_neg he,<- laa] at ho
   simp -implicitDefEqProofs (disch:=omega) only [h2,h3,h8,h9,h10,hh2_0,hh2_1,hh3_0,hh3_1,hlt,hm,he,go_sem,↓reduceIte,rA,rS,rE,rL,reduceCtorEq]
   try refine And.intro (by omega) ?_
   refine (hI _ _).2 ⟨acc ++ [⟨c.group,c.file + c.anon⟩],w + 1,?_,?_,?_,?_,?_,?_,?_,?_,?_,?_,?_⟩
   .exact ho
   .exact by simp; omega
   all_goals exact cl0
 ·rw [ldl (by omega)] at ho
  rw [show cntS [] = [] from rfl,lan] at ho
  simp -implicitDefEqProofs (disch:=omega) only [h2,h3,h8,h9,h10,hh2_0,hh2_1,hh3_0,hh3_1,hge,go_sem,↓reduceIte,rA,rS,rE,rL,reduceCtorEq]
  rw [ho]
set_option maxHeartbeats 1000000 in
theorem sput_eq (sw : Stk) (h : Hg) (hl : sw.hs.length < 1000000) : V 83 [sw.vv,h.vv] [] = some (Stk.fv ⟨putS sw.hs h,sw.size⟩,[]):=by
 refine V_wp (vf:=vf83) rfl ?_
 have hps : putS sw.hs h = putGo h (zeroH h) sw.hs:=rfl
 generalize putS sw.hs h = R at hps
 rcases Classical.propComplete (h.file = 0) with y1 | y1 <;> rcases Classical.propComplete (h.anon = 0) with y2 | y2 <;> rcases Classical.propComplete (h.swap = 0) with y3 | y3
 all_goals
  have hz : zeroH h = (decide (h.file = 0) && decide (h.anon = 0) && decide (h.swap = 0)):=rfl
  simp only [y1,y2,y3,decide_true,decide_false,bau,Bool.and_false] at hz
  simp -implicitDefEqProofs (disch:=omega) only [vf83,vb83,y1,y2,y3,go_sem,↓reduceIte,rA,rS,rE,rL,reduceCtorEq]
  obtain ⟨I,hI⟩ : ∃ I : Nat -> St -> Prop,∀ k s,I k s ↔ ∃ (acc : List Hg) (d : Bool) (w : Nat),R = acc ++ putGo h d (sw.hs.drop k) /\ acc.length <= 2 * k /\ s.pe 3 = .ptr (.slot 3 0) 0 0 /\ s.pe 4 = .ptr (.slot 4 0) 0 0 /\ s.pe 5 = .ptr (.slot 5 0) 0 0 /\ s.pe 6 = .p (.bool d) /\ s.pe 26 = .p (hgsP sw.hs) /\ s.pe 27 = .p (.int .i64 ↑sw.hs.length) /\ s.pe 28 = .p (.int .i64 k) /\ s.h (.slot 3 0) = some (0,Ob.box [.p (.int .i64 h.group),.p (.int .i64 h.file),.p (.int .i64 h.anon),.p (.int .i64 h.swap)]) /\ s.h (.slot 4 0) = some (0,Ob.box [.own (.slot 4 1) 0 0 0,.p (.int .i64 0)]) /\ s.h (.slot 4 1) = some (0,Ob.arr 4 []) /\ s.h (.slot 5 0) = some (0,Ob.box [.own (.slot 11 1) w 0 acc.length,.p (.int .i64 sw.size)]) /\ s.h (.slot 11 1) = some (w,Ob.arr 4 (acc.map Hg.pv)):=⟨_,fun _ _=>Iff.rfl⟩
  refine wp_count (sw.hs.length) I ?_ ?_
  ·refine (hI _ _).2 ⟨[],zeroH h,0,?_,?_,?_,?_,?_,?_,?_,?_,?_,?_,?_,?_,?_,?_⟩
   ·exact by rw [hps]; simp
   ·exact lrf _
   all_goals exact cl0
  intro k s hk hIk
  obtain ⟨acc,d,w,hw,hal,h3,h4,h5,h6,h26,h27,h28,hh3_0,hh4_0,hh4_1,hh5_0,hh11_1⟩:=(hI _ _).1 hIk
  clear hIk
  simp -implicitDefEqProofs (disch:=omega) only [h3,h4,h5,h6,h26,h27,h28,hh3_0,hh4_0,hh4_1,hh5_0,hh11_1,go_sem,↓reduceIte,rA,rS,rE,rL,reduceCtorEq]
  refine wp_if_d (fun hlt=>?_) (fun hge=>?_)
  ·have hm : sw.hs[k]? = some sw.hs[k]:=lgg hlt
   have hd : sw.hs.drop k = sw.hs[k] :: sw.hs.drop (k + 1):=ldg hlt
   generalize sw.hs[k] = c at hm hd
   rw [hd,putGo] at hw
   cases d with
   | true =>
    by_cases he : c.group = h.group
    ·simp only [he,Bool.not_true,bfa,bft,if_false,if_true,lna,lan,Bool.true_or] at hw
     simp -implicitDefEqProofs (disch:=omega) only [h3,h4,h5,h6,h26,h27,h28,hh3_0,hh4_0,hh4_1,hh5_0,hh11_1,hlt,hm,he,go_sem,↓reduceIte,rA,rS,rE,rL,reduceCtorEq]
     try refine And.intro (by omega) ?_
     refine (hI _ _).2 ⟨acc,true,w,?_,?_,?_,?_,?_,?_,?_,?_,?_,?_,?_,?_,?_,?_⟩
     ·exact hw
     ·omega
     all_goals exact cl0
    ·simp only [he,Bool.not_true,bfa,bft,if_false,lna,Bool.true_or,<- laa] at hw
     simp -implicitDefEqProofs (disch:=omega) only [h3,h4,h5,h6,h26,h27,h28,hh3_0,hh4_0,hh4_1,hh5_0,hh11_1,hlt,hm,he,go_sem,↓reduceIte,rA,rS,rE,rL,reduceCtorEq]
     try refine And.intro (by omega) ?_
     refine (hI _ _).2 ⟨acc ++ [c],true,w + 1,?_,?_,?_,?_,?_,?_,?_,?_,?_,?_,?_,?_,?_,?_⟩
     ·exact hw
     ·exact by simp; omega
     all_goals exact cl0
   | false =>
    by_cases hge : h.group <= c.group
    ·by_cases he : c.group = h.group
     ·simp only [he,Int.le_refl,decide_true,bnf,bas,if_true,lan,Bool.or_true,<- laa] at hw
      simp -implicitDefEqProofs (disch:=omega) only [h3,h4,h5,h6,h26,h27,h28,hh3_0,hh4_0,hh4_1,hh5_0,hh11_1,hlt,hm,hge,he,Int.le_refl,decide_true,go_sem,↓reduceIte,rA,rS,rE,rL,reduceCtorEq]
      try refine And.intro (by omega) ?_
      refine (hI _ _).2 ⟨acc ++ [h],true,w + 1,?_,?_,?_,?_,?_,?_,?_,?_,?_,?_,?_,?_,?_,?_⟩
      .exact hw
      .exact by simp; omega
      all_goals exact cl0
     ·simp only [he,hge,decide_true,bnf,bas,if_true,if_false,Bool.or_true,<- laa] at hw
      simp -implicitDefEqProofs (disch:=omega) only [h3,h4,h5,h6,h26,h27,h28,hh3_0,hh4_0,hh4_1,hh5_0,hh11_1,hlt,hm,hge,he,go_sem,↓reduceIte,rA,rS,rE,rL,reduceCtorEq]
      try refine And.intro (by omega) ?_
      refine (hI _ _).2 ⟨acc ++ [h] ++ [c],true,w + 1 + 1,?_,?_,?_,?_,?_,?_,?_,?_,?_,?_,?_,?_,?_,?_⟩
      .exact hw
      .exact by simp; omega
      all_goals exact cl0
    ·have he : ¬ c.group = h.group:=by omega
     simp only [he,hge,decide_false,bnf,Bool.and_false,bft,if_false,lna,Bool.or_false,<- laa] at hw
     simp -implicitDefEqProofs (disch:=omega) only [h3,h4,h5,h6,h26,h27,h28,hh3_0,hh4_0,hh4_1,hh5_0,hh11_1,hlt,hm,hge,he,go_sem,↓reduceIte,rA,rS,rE,rL,reduceCtorEq]
     try refine And.intro (by omega) ?_
     refine (hI _ _).2 ⟨acc ++ [c],false,w + 1,?_,?_,?_,?_,?_,?_,?_,?_,?_,?_,?_,?_,?_,?_⟩
     .exact hw
     .exact by simp; omega
     all_goals exact cl0
  ·rw [ldl (by omega),putGo] at hw
   cases d with
   | true =>
    simp only [if_true,lan] at hw
    simp -implicitDefEqProofs (disch:=omega) only [h3,h4,h5,h6,h26,h27,h28,hh3_0,hh4_0,hh4_1,hh5_0,hh11_1,hge,go_sem,↓reduceIte,rA,rS,rE,rL,reduceCtorEq]
    rw [hw]
   | false =>
    simp only [bft,if_false] at hw
    simp -implicitDefEqProofs (disch:=omega) only [h3,h4,h5,h6,h26,h27,h28,hh3_0,hh4_0,hh4_1,hh5_0,hh11_1,hge,go_sem,↓reduceIte,rA,rS,rE,rL,reduceCtorEq]
    rw [hw]
    simp [Hg.pv]
theorem sameH_ne {c d : Hg} (h : ¬ c = d) : (decide (c.group = d.group) && (decide (c.file = d.file) && (decide (c.anon = d.anon) && decide (c.swap = d.swap)))) = false:=by
 cases c; cases d
 simp only [Hg.mk.injEq] at h
 simp only [Bool.and_eq_false_iff,decide_eq_false_iff_not]
 omega
theorem sameH_eq (a b : List Hg) (hl : a.length < 1000000) : V 20 [.p (hgsP a),.p (hgsP b)] [] = some (.p (.bool (decide (a = b))),[]):=by
 refine V_wp (vf:=vf20) rfl ?_
 by_cases he : a.length = b.length
 ·have he' : ((a.length : Int) = b.length):=by omega
  simp -implicitDefEqProofs (disch:=omega) only [vf20,vb20,he',go_sem,↓reduceIte,rA,rS,rE,rL,reduceCtorEq]
  obtain ⟨I,hI⟩ : ∃ I : Nat -> St -> Prop,∀ k s,I k s ↔ a.take k = b.take k /\ s.pe 0 = .p (hgsP a) /\ s.pe 1 = .p (hgsP b) /\ s.pe 5 = .p (.int .i64 k):=⟨_,fun _ _=>Iff.rfl⟩
  refine wp_count (a.length) I ?_ ?_
  ·refine (hI _ _).2 ⟨?_,?_,?_,?_⟩
   ·exact cl3
   all_goals exact cl0
  intro k s hk hIk
  obtain ⟨ht,h0,h1,h5⟩:=(hI _ _).1 hIk
  clear hIk
  simp -implicitDefEqProofs (disch:=omega) only [h0,h1,h5,go_sem,↓reduceIte,rA,rS,rE,rL,reduceCtorEq]
  refine wp_if_d (fun hlt=>?_) (fun hge=>?_)
  ·have ha : a[k]? = some a[k]:=lgg hlt
   have hb : b[k]? = some b[k]:=lgg (by omega)
   generalize a[k] = c at ha
   generalize b[k] = d at hb
   by_cases hcd : c = d
   ·subst hcd
    simp -implicitDefEqProofs (disch:=omega) only [h0,h1,h5,hlt,ha,hb,Hg.pv,go_sem,↓reduceIte,rA,rS,rE,rL,reduceCtorEq]
    try refine And.intro (by omega) ?_
    refine (hI _ _).2 ⟨?_,?_,?_,?_⟩
    ·exact by rw [List.take_add_one,List.take_add_one,ha,hb,ht]
    all_goals exact cl0
   ·have hne : ¬ a = b:=by
     intro hab
     subst hab
     rw [ha] at hb
     cases hb
     exact hcd rfl
    have hx:=sameH_ne hcd
    simp -implicitDefEqProofs (disch:=omega) only [h0,h1,h5,hlt,ha,hb,hx,hne,decide_false,Hg.pv,go_sem,↓reduceIte,rA,rS,rE,rL,reduceCtorEq]
  ·have hab : a = b:=by
    rw [ltl (by omega),ltl (by omega)] at ht
    exact ht
   simp -implicitDefEqProofs (disch:=omega) only [h0,h1,h5,hge,hab,decide_true,go_sem,↓reduceIte,rA,rS,rE,rL,reduceCtorEq]
 ·have he' : ¬ ((a.length : Int) = b.length):=by omega
  have hne : ¬ a = b:=fun h=>he (by rw [h])
  simp -implicitDefEqProofs (disch:=omega) only [vf20,vb20,he',hne,decide_false,go_sem,↓reduceIte,rA,rS,rE,rL,reduceCtorEq]
theorem sameK_ne {c d : Sh} (h : ¬ c = d) : (decide (c.group = d.group) && (decide (c.file = d.file) && (decide (c.anon = d.anon) && decide (c.low = d.low)))) = false:=by
 cases c; cases d
 simp only [Sh.mk.injEq] at h
 simp only [Bool.and_eq_false_iff,decide_eq_false_iff_not]
 omega
theorem sameK_eq (a b : List Sh) (hl : a.length < 1000000) : V 21 [.p (shsP a),.p (shsP b)] [] = some (.p (.bool (decide (a = b))),[]):=by
 refine V_wp (vf:=vf21) rfl ?_
 by_cases he : a.length = b.length
 ·have he' : ((a.length : Int) = b.length):=by omega
  simp -implicitDefEqProofs (disch:=omega) only [vf21,vb21,he',go_sem,↓reduceIte,rA,rS,rE,rL,reduceCtorEq]
  obtain ⟨I,hI⟩ : ∃ I : Nat -> St -> Prop,∀ k s,I k s ↔ a.take k = b.take k /\ s.pe 0 = .p (shsP a) /\ s.pe 1 = .p (shsP b) /\ s.pe 5 = .p (.int .i64 k):=⟨_,fun _ _=>Iff.rfl⟩
  refine wp_count (a.length) I ?_ ?_
  ·refine (hI _ _).2 ⟨?_,?_,?_,?_⟩
   ·exact cl3
   all_goals exact cl0
  intro k s hk hIk
  obtain ⟨ht,h0,h1,h5⟩:=(hI _ _).1 hIk
  clear hIk
  simp -implicitDefEqProofs (disch:=omega) only [h0,h1,h5,go_sem,↓reduceIte,rA,rS,rE,rL,reduceCtorEq]
  refine wp_if_d (fun hlt=>?_) (fun hge=>?_)
  ·have ha : a[k]? = some a[k]:=lgg hlt
   have hb : b[k]? = some b[k]:=lgg (by omega)
   generalize a[k] = c at ha
   generalize b[k] = d at hb
   by_cases hcd : c = d
   ·subst hcd
    simp -implicitDefEqProofs (disch:=omega) only [h0,h1,h5,hlt,ha,hb,Sh.pv,go_sem,↓reduceIte,rA,rS,rE,rL,reduceCtorEq]
    try refine And.intro (by omega) ?_
    refine (hI _ _).2 ⟨?_,?_,?_,?_⟩
    ·exact by rw [List.take_add_one,List.take_add_one,ha,hb,ht]
    all_goals exact cl0
   ·have hne : ¬ a = b:=by
     intro hab
     subst hab
     rw [ha] at hb
     cases hb
     exact hcd rfl
    have hx:=sameK_ne hcd
    simp -implicitDefEqProofs (disch:=omega) only [h0,h1,h5,hlt,ha,hb,hx,hne,decide_false,Sh.pv,go_sem,↓reduceIte,rA,rS,rE,rL,reduceCtorEq]
  ·have hab : a = b:=by
    rw [ltl (by omega),ltl (by omega)] at ht
    exact ht
   simp -implicitDefEqProofs (disch:=omega) only [h0,h1,h5,hge,hab,decide_true,go_sem,↓reduceIte,rA,rS,rE,rL,reduceCtorEq]
 ·have he' : ¬ ((a.length : Int) = b.length):=by omega
  have hne : ¬ a = b:=fun h=>he (by rw [h])
  simp -implicitDefEqProofs (disch:=omega) only [vf21,vb21,he',hne,decide_false,go_sem,↓reduceIte,rA,rS,rE,rL,reduceCtorEq]
theorem pagesB_true {n : Int} (h : pagesB n = true) : 0 <= n /\ n <= 16777216:=by
 simpa [pagesB] using h
set_option maxHeartbeats 4000000 in
theorem svalid_eq (t : Tr) (sw : Stk) (hf : t.Fits) (hn : t.nodes.length < 1000000) (hl : sw.hs.length < 1000000) : V 31 [t.vv,sw.vv] [] = some (.p (.bool (validS t sw)),[]):=by
 refine V_wp (vf:=vf31) rfl ?_
 have hc := tcheck_eq t hf hn
 have hz := spages_eq sw.size
 unfold validS
 rw [show (decide (0 <= sw.size) && decide (sw.size <= 16777216)) = pagesB sw.size from rfl]
 by_cases ht : treeOk t = true
 ·rw [ht] at hc ⊢
  rw [Bool.true_and]
  by_cases hzz : pagesB sw.size = true
  ·rw [hzz] at hz ⊢
   rw [Bool.true_and]
   obtain ⟨z0,z1⟩:=pagesB_true hzz
   simp -implicitDefEqProofs (disch:=omega) only [vf31,vb31,hc,hz,go_sem,↓reduceIte,rA,rS,rE,rL,reduceCtorEq]
   obtain ⟨I, hI⟩ : ∃ I : Nat -> St -> Prop, ∀ k s, I k s ↔ ∃ (p : Option Int) (m : Int) (q : Int), hgOk t.nodes sw.size none 0 0 sw.hs = hgOk t.nodes sw.size p m q (sw.hs.drop k) /\ (k = 0 -> p = none) /\ (∀ j, k = j + 1 -> ∃ c, sw.hs[j]? = some c /\ p = some c.group) /\ 0 <= m /\ m <= 16777216 /\ 0 <= q /\ q <= sw.size /\ s.pe 2 = .ptr (.slot 2 0) 0 0 /\ s.pe 3 = .ptr (.slot 3 0) 0 0 /\ s.pe 5 = .p (.int .i64 m) /\ s.pe 6 = .p (.int .i64 q) /\ s.pe 21 = .p (hgsP sw.hs) /\ s.pe 22 = .p (.int .i64 ↑sw.hs.length) /\ s.pe 23 = .p (.int .i64 k) /\ s.h (.slot 2 0) = some (0, Ob.box [.p (nodesP t.nodes), .p (.int .i64 t.next)]) /\ s.h (.slot 3 0) = some (0, Ob.box [.p (hgsP sw.hs), .p (.int .i64 sw.size)]):=⟨_, fun _ _=>Iff.rfl⟩
   refine wp_count (sw.hs.length) I ?_ ?_
   ·refine (hI _ _).2 ⟨none,0,0,?_,?_,?_,?_,?_,?_,?_,?_,?_,?_,?_,?_,?_,?_,?_,?_⟩
    ·rfl
    ·exact fun _=>rfl
    ·exact fun j hj=>by omega
    ·omega
    ·omega
    ·omega
    ·omega
    all_goals exact cl0
   intro k s hk hIk
   obtain ⟨p, m, q, hq, hp0, hp1, m0, m1, q0, q1, h2, h3, h5, h6, h21, h22, h23, hh2_0, hh3_0⟩:=(hI _ _).1 hIk
   clear hIk
   simp -implicitDefEqProofs (disch:=omega) only [h2,h3,h5,h6,h21,h22,h23,hh2_0,hh3_0,go_sem,↓reduceIte,rA,rS,rE,rL,reduceCtorEq]
   refine wp_if_d (fun hlt=>?_) (fun hge=>?_)
   ·have hm : sw.hs[k]? = some sw.hs[k]:=lgg hlt
    have hd : sw.hs.drop k = sw.hs[k] :: sw.hs.drop (k + 1):=ldg hlt
    generalize sw.hs[k] = c at hm hd
    have hfi := ffind_eq t c.group hn
    have p1 := spages_eq c.file
    have p2 := spages_eq c.anon
    have p3 := spages_eq c.swap
    rw [hd, hgOk_cons] at hq
    rw [show (decide (0 <= c.file) && decide (c.file <= 16777216)) = pagesB c.file from rfl,show (decide (0 <= c.anon) && decide (c.anon <= 16777216)) = pagesB c.anon from rfl,show (decide (0 <= c.swap) && decide (c.swap <= 16777216)) = pagesB c.swap from rfl] at hq
    have hnx : ∀ j,k + 1 = j + 1 -> ∃ c',sw.hs[j]? = some c' /\ some c.group = some c'.group:=fun j hj=>⟨c,by rw [show j = k by omega]; exact hm,rfl⟩
    cases hfs : (findN t.nodes c.group).isSome with
    | false =>
     rw [hfs] at hfi
     simp only [hfs,bfa] at hq
     generalize (findN t.nodes c.group).getD zeroNd = nd at hfi
     simp -implicitDefEqProofs (disch:=omega) only [h2,h3,h5,h6,h21,h22,h23,hh2_0,hh3_0,hlt,hm,hfi,Nd.vv,hq,go_sem,↓reduceIte,rA,rS,rE,rL,reduceCtorEq]
    | true =>
     rw [hfs] at hfi
     rw [hfs, bta] at hq
     generalize (findN t.nodes c.group).getD zeroNd = nd at hfi
     by_cases hk0 : (0 : Int) < k
     ·obtain ⟨e,he,hpe⟩:=hp1 (k - 1) (by omega)
      have he' : sw.hs[((k : Int) - 1).toNat]? = some e:=by rw [show ((k : Int) - 1).toNat = k - 1 by omega]; exact he
      have hk1 : (0 : Int) <= (k : Int) - 1:=by omega
      subst hpe
      by_cases hle : c.group <= e.group
      ·rw [show prevOk (some e.group) c.group = false from decide_eq_false (by omega)] at hq
       simp only [bfa] at hq
       simp -implicitDefEqProofs (disch:=omega) only [h2,h3,h5,h6,h21,h22,h23,hh2_0,hh3_0,hlt,hm,hfi,Nd.vv,hk0,hk1,he',hle,hq,go_sem,↓reduceIte,rA,rS,rE,rL,reduceCtorEq]
      ·rw [show prevOk (some e.group) c.group = true from decide_eq_true (by omega),bta] at hq
       cases b1 : pagesB c.file with
       | false =>
        rw [b1] at p1 hq
        simp only [bfa] at hq
        simp -implicitDefEqProofs (disch:=omega) only [h2,h3,h5,h6,h21,h22,h23,hh2_0,hh3_0,hlt,hm,hfi,Nd.vv,hk0,hk1,he',hle,p1,hq,go_sem,↓reduceIte,rA,rS,rE,rL,reduceCtorEq]
       | true =>
        obtain ⟨b10,b11⟩:=pagesB_true b1
        rw [b1] at p1 hq
        rw [Bool.true_and] at hq
        cases b2 : pagesB c.anon with
        | false =>
         rw [b2] at p2 hq
         simp only [bfa] at hq
         simp -implicitDefEqProofs (disch:=omega) only [h2,h3,h5,h6,h21,h22,h23,hh2_0,hh3_0,hlt,hm,hfi,Nd.vv,hk0,hk1,he',hle,p1,p2,hq,go_sem,↓reduceIte,rA,rS,rE,rL,reduceCtorEq]
        | true =>
         obtain ⟨b20,b21⟩:=pagesB_true b2
         rw [b2] at p2 hq
         rw [bta] at hq
         cases b3 : pagesB c.swap with
         | false =>
          rw [b3] at p3 hq
          simp only [bfa] at hq
          simp -implicitDefEqProofs (disch:=omega) only [h2,h3,h5,h6,h21,h22,h23,hh2_0,hh3_0,hlt,hm,hfi,Nd.vv,hk0,hk1,he',hle,p1,p2,p3,hq,go_sem,↓reduceIte,rA,rS,rE,rL,reduceCtorEq]
         | true =>
          obtain ⟨b30,b31⟩:=pagesB_true b3
          rw [b3] at p3 hq
          rw [bta] at hq
          by_cases b4 : c.file + c.anon + c.swap = 0
          ·rw [decide_eq_false (show ¬ (c.file + c.anon + c.swap ≠ 0) from fun h=>h b4)] at hq
           simp only [bfa] at hq
           simp -implicitDefEqProofs (disch:=omega) only [h2,h3,h5,h6,h21,h22,h23,hh2_0,hh3_0,hlt,hm,hfi,Nd.vv,hk0,hk1,he',hle,p1,p2,p3,b4,hq,go_sem,↓reduceIte,rA,rS,rE,rL,reduceCtorEq]
          ·rw [decide_eq_true (show c.file + c.anon + c.swap ≠ 0 from b4),bta] at hq
           by_cases b5 : 16777216 < m + (c.file + c.anon)
           ·rw [decide_eq_false (show ¬ m + (c.file + c.anon) <= 16777216 by omega)] at hq
            simp only [bfa] at hq
            simp -implicitDefEqProofs (disch:=omega) only [h2,h3,h5,h6,h21,h22,h23,hh2_0,hh3_0,hlt,hm,hfi,Nd.vv,hk0,hk1,he',hle,p1,p2,p3,b4,b5,hq,go_sem,↓reduceIte,rA,rS,rE,rL,reduceCtorEq]
           ·rw [decide_eq_true (show m + (c.file + c.anon) <= 16777216 by omega),bta] at hq
            by_cases b6 : sw.size < q + c.swap
            ·rw [decide_eq_false (show ¬ q + c.swap <= sw.size by omega)] at hq
             simp only [bfa] at hq
             simp -implicitDefEqProofs (disch:=omega) only [h2,h3,h5,h6,h21,h22,h23,hh2_0,hh3_0,hlt,hm,hfi,Nd.vv,hk0,hk1,he',hle,p1,p2,p3,b4,b5,b6,hq,go_sem,↓reduceIte,rA,rS,rE,rL,reduceCtorEq]
            ·rw [decide_eq_true (show q + c.swap <= sw.size by omega),bta] at hq
             simp -implicitDefEqProofs (disch:=omega) only [h2,h3,h5,h6,h21,h22,h23,hh2_0,hh3_0,hlt,hm,hfi,Nd.vv,hk0,hk1,he',hle,p1,p2,p3,b4,b5,b6,go_sem,↓reduceIte,rA,rS,rE,rL,reduceCtorEq]
             try refine And.intro (by omega) ?_
             refine (hI _ _).2 ⟨some c.group,m + (c.file + c.anon),q + c.swap,?_,?_,?_,?_,?_,?_,?_,?_,?_,?_,?_,?_,?_,?_,?_,?_⟩
             .exact hq
             .exact by simp
             .exact hnx
             .omega
             .omega
             .omega
             .omega
             all_goals exact cl0
     ·have hpn:=hp0 (by omega)
      subst hpn
      rw [show prevOk none c.group = true from rfl,bta] at hq
      cases b1 : pagesB c.file with
      | false =>
       rw [b1] at p1 hq
       simp only [bfa] at hq
       simp -implicitDefEqProofs (disch:=omega) only [h2,h3,h5,h6,h21,h22,h23,hh2_0,hh3_0,hlt,hm,hfi,Nd.vv,hk0,p1,hq,go_sem,↓reduceIte,rA,rS,rE,rL,reduceCtorEq]
      | true =>
       obtain ⟨b10,b11⟩:=pagesB_true b1
       rw [b1] at p1 hq
       rw [Bool.true_and] at hq
       cases b2 : pagesB c.anon with
       | false =>
        rw [b2] at p2 hq
        simp only [bfa] at hq
        simp -implicitDefEqProofs (disch:=omega) only [h2,h3,h5,h6,h21,h22,h23,hh2_0,hh3_0,hlt,hm,hfi,Nd.vv,hk0,p1,p2,hq,go_sem,↓reduceIte,rA,rS,rE,rL,reduceCtorEq]
       | true =>
        obtain ⟨b20,b21⟩:=pagesB_true b2
        rw [b2] at p2 hq
        rw [bta] at hq
        cases b3 : pagesB c.swap with
        | false =>
         rw [b3] at p3 hq
         simp only [bfa] at hq
         simp -implicitDefEqProofs (disch:=omega) only [h2,h3,h5,h6,h21,h22,h23,hh2_0,hh3_0,hlt,hm,hfi,Nd.vv,hk0,p1,p2,p3,hq,go_sem,↓reduceIte,rA,rS,rE,rL,reduceCtorEq]
        | true =>
         obtain ⟨b30,b31⟩:=pagesB_true b3
         rw [b3] at p3 hq
         rw [bta] at hq
         by_cases b4 : c.file + c.anon + c.swap = 0
         ·rw [decide_eq_false (show ¬ (c.file + c.anon + c.swap ≠ 0) from fun h=>h b4)] at hq
          simp only [bfa] at hq
          simp -implicitDefEqProofs (disch:=omega) only [h2,h3,h5,h6,h21,h22,h23,hh2_0,hh3_0,hlt,hm,hfi,Nd.vv,hk0,p1,p2,p3,b4,hq,go_sem,↓reduceIte,rA,rS,rE,rL,reduceCtorEq]
         ·rw [decide_eq_true (show c.file + c.anon + c.swap ≠ 0 from b4),bta] at hq
          by_cases b5 : 16777216 < m + (c.file + c.anon)
          ·rw [decide_eq_false (show ¬ m + (c.file + c.anon) <= 16777216 by omega)] at hq
           simp only [bfa] at hq
           simp -implicitDefEqProofs (disch:=omega) only [h2,h3,h5,h6,h21,h22,h23,hh2_0,hh3_0,hlt,hm,hfi,Nd.vv,hk0,p1,p2,p3,b4,b5,hq,go_sem,↓reduceIte,rA,rS,rE,rL,reduceCtorEq]
          ·rw [decide_eq_true (show m + (c.file + c.anon) <= 16777216 by omega),bta] at hq
           by_cases b6 : sw.size < q + c.swap
           ·rw [decide_eq_false (show ¬ q + c.swap <= sw.size by omega)] at hq
            simp only [bfa] at hq
            simp -implicitDefEqProofs (disch:=omega) only [h2,h3,h5,h6,h21,h22,h23,hh2_0,hh3_0,hlt,hm,hfi,Nd.vv,hk0,p1,p2,p3,b4,b5,b6,hq,go_sem,↓reduceIte,rA,rS,rE,rL,reduceCtorEq]
           ·rw [decide_eq_true (show q + c.swap <= sw.size by omega),bta] at hq
            simp -implicitDefEqProofs (disch:=omega) only [h2,h3,h5,h6,h21,h22,h23,hh2_0,hh3_0,hlt,hm,hfi,Nd.vv,hk0,p1,p2,p3,b4,b5,b6,go_sem,↓reduceIte,rA,rS,rE,rL,reduceCtorEq]
            try refine And.intro (by omega) ?_
            refine (hI _ _).2 ⟨some c.group,m + (c.file + c.anon),q + c.swap,?_,?_,?_,?_,?_,?_,?_,?_,?_,?_,?_,?_,?_,?_,?_,?_⟩
            .exact hq
            .exact by simp
            .exact hnx
            .omega
            .omega
            .omega
            .omega
            all_goals exact cl0
   ·rw [ldl (by omega)] at hq
    simp only [hgOk] at hq
    simp -implicitDefEqProofs (disch:=omega) only [h2,h3,h5,h6,h21,h22,h23,hh2_0,hh3_0,hge,hq,go_sem,↓reduceIte,rA,rS,rE,rL,reduceCtorEq]
  ·have hzf : pagesB sw.size = false:=by simpa using hzz
   rw [hzf] at hz ⊢
   simp -implicitDefEqProofs (disch:=omega) only [vf31,vb31,hc,hz,bfa,go_sem,↓reduceIte,rA,rS,rE,rL,reduceCtorEq]
 ·have htf : treeOk t = false:=by simpa using ht
  rw [htf] at hc ⊢
  simp -implicitDefEqProofs (disch:=omega) only [vf31,vb31,hc,bfa,go_sem,↓reduceIte,rA,rS,rE,rL,reduceCtorEq]
structure Pr where
 group : Int
 least : Int
 low : Int
 deriving DecidableEq
def Pr.pv (h : Pr) : PV:=.agg [.int .i64 h.group,.int .i64 h.least,.int .i64 h.low]
abbrev Pr.vv (h : Pr) : VVal:=.agg [.p (.int .i64 h.group),.p (.int .i64 h.least),.p (.int .i64 h.low)]
abbrev prsP (l : List Pr) : PV:=.slice 3 (l.map Pr.pv)
attribute [go_sem] Pr.pv
theorem prs_flat (l : List Pr) : (l.map Pr.pv).all PV.flat = true:=by
 rw [List.all_eq_true]
 intro x hx
 obtain ⟨n,_,rfl⟩:=lmm.1 hx
 rfl
attribute [go_sem] prs_flat
abbrev amtB (n : Int) : Bool:=decide (0 <= n) && decide (n <= 4611686018427387904)
def prOk (ns : List Nd) : Option Int -> List Pr -> Bool
 | _,[]=>true
 | p,h :: l=>(findN ns h.group).isSome && prevOk p h.group && amtB h.least && amtB h.low && prOk ns (some h.group) l
def validPr (t : Tr) (l : List Pr) : Bool:=treeOk t && prOk t.nodes none l
structure PrOk (ns : List Nd) (l : List Pr) : Prop where
 known : ∀ h ∈ l,(findN ns h.group).isSome = true
 inc : l.Pairwise fun a b=>a.group < b.group
 least : ∀ h ∈ l,0 <= h.least /\ h.least <= 4611686018427387904
 low : ∀ h ∈ l,0 <= h.low /\ h.low <= 4611686018427387904
theorem prOk_iff' (ns : List Nd) : ∀ (l : List Pr) (p : Option Int),prOk ns p l = true ↔ PrOk ns l /\ ∀ q,p = some q -> ∀ h ∈ l,q < h.group
 | [],p=>by
  simp only [prOk,true_iff]
  exact ⟨⟨by simp,List.Pairwise.nil,by simp,by simp⟩,by simp⟩
 | h :: l,p=>by
  have ih:=prOk_iff' ns l (some h.group)
  have hp : prevOk p h.group = true ↔ ∀ q,p = some q -> q < h.group:=by cases p <;> simp [prevOk]
  simp only [prOk,amtB,bat,decide_eq_true_eq,hp,ih]
  constructor
  ·rintro ⟨⟨⟨⟨h1,h2⟩,h3⟩,h4⟩,⟨a1,a2,a3,a4⟩,h5⟩
   refine ⟨⟨?_,lpw.2 ⟨h5 _ rfl,a2⟩,?_,?_⟩,?_⟩
   ·simp only [lmk,forall_eq_or_imp]; exact ⟨h1,a1⟩
   ·simp only [lmk,forall_eq_or_imp]; exact ⟨h3,a3⟩
   ·simp only [lmk,forall_eq_or_imp]; exact ⟨h4,a4⟩
   ·intro q hq
    have:=h2 q hq
    simp only [lmk,forall_eq_or_imp]
    refine ⟨this,fun c hc=>?_⟩
    have:=h5 _ rfl c hc
    omega
  ·rintro ⟨⟨a1,a2,a3,a4⟩,h5⟩
   simp only [lmk,forall_eq_or_imp] at a1 a3 a4 h5
   obtain ⟨b1,b2⟩:=lpw.1 a2
   refine ⟨⟨⟨⟨a1.1,fun q hq=>(h5 q hq).1⟩,a3.1⟩,a4.1⟩,⟨a1.2,b2,a3.2,a4.2⟩,fun q hq=>?_⟩
   cases hq
   exact b1
theorem validPr_iff (t : Tr) (l : List Pr) : validPr t l = true ↔ TreeOk t /\ PrOk t.nodes l:=by
 simp only [validPr,bat,treeOk_iff,prOk_iff']
 constructor
 .rintro ⟨h1,h2,_⟩; exact ⟨h1,h2⟩
 .rintro ⟨h1,h2⟩; exact ⟨h1,h2,by simp⟩
set_option maxHeartbeats 4000000 in
theorem prvalid_eq (t : Tr) (l : List Pr) (hf : t.Fits) (hn : t.nodes.length < 1000000) (hl : l.length < 1000000) : V 63 [t.vv,.p (prsP l)] [] = some (.p (.bool (validPr t l)),[]):=by
 refine V_wp (vf:=vf63) rfl ?_
 have hc := tcheck_eq t hf hn
 unfold validPr
 by_cases ht : treeOk t = true
 ·rw [ht] at hc ⊢
  rw [Bool.true_and]
  simp -implicitDefEqProofs (disch:=omega) only [vf63,vb63,hc,go_sem,↓reduceIte,rA,rS,rE,rL,reduceCtorEq]
  obtain ⟨I,hI⟩ : ∃ I : Nat -> St -> Prop,∀ k s,I k s ↔ ∃ (p : Option Int),prOk t.nodes none l = prOk t.nodes p (l.drop k) /\ (k = 0 -> p = none) /\ (∀ j,k = j + 1 -> ∃ c,l[j]? = some c /\ p = some c.group) /\ s.pe 1 = .p (prsP l) /\ s.pe 2 = .ptr (.slot 2 0) 0 0 /\ s.pe 12 = .p (prsP l) /\ s.pe 13 = .p (.int .i64 ↑l.length) /\ s.pe 14 = .p (.int .i64 k) /\ s.h (.slot 2 0) = some (0,Ob.box [.p (nodesP t.nodes),.p (.int .i64 t.next)]):=⟨_,fun _ _=>Iff.rfl⟩
  refine wp_count (l.length) I ?_ ?_
  ·refine (hI _ _).2 ⟨none,?_,?_,?_,?_,?_,?_,?_,?_,?_⟩
   ·rfl
   ·exact fun _=>rfl
   ·exact fun j hj=>by omega
   all_goals exact cl0
  intro k s hk hIk
  obtain ⟨p,hq,hp0,hp1,h1,h2,h12,h13,h14,hh2_0⟩:=(hI _ _).1 hIk
  clear hIk
  simp -implicitDefEqProofs (disch:=omega) only [h1,h2,h12,h13,h14,hh2_0,go_sem,↓reduceIte,rA,rS,rE,rL,reduceCtorEq]
  refine wp_if_d (fun hlt=>?_) (fun hge=>?_)
  ·have hm : l[k]? = some l[k]:=lgg hlt
   have hd : l.drop k = l[k] :: l.drop (k + 1):=ldg hlt
   generalize l[k] = c at hm hd
   have hfi:=ffind_eq t c.group hn
   rw [hd, prOk] at hq
   have hnx : ∀ j,k + 1 = j + 1 -> ∃ c',l[j]? = some c' /\ some c.group = some c'.group:=fun j hj=>⟨c,by rw [show j = k by omega]; exact hm,rfl⟩
   cases hfs : (findN t.nodes c.group).isSome with
   | false =>
    rw [hfs] at hfi
    simp only [hfs,bfa] at hq
    generalize (findN t.nodes c.group).getD zeroNd = nd at hfi
    simp -implicitDefEqProofs (disch:=omega) only [h1,h2,h12,h13,h14,hh2_0,hlt,hm,hfi,Nd.vv,hq,go_sem,↓reduceIte,rA,rS,rE,rL,reduceCtorEq]
   | true =>
    rw [hfs] at hfi
    rw [hfs,bta] at hq
    generalize (findN t.nodes c.group).getD zeroNd = nd at hfi
    by_cases hk0 : (0 : Int) < k
    ·obtain ⟨e,he,hpe⟩:=hp1 (k - 1) (by omega)
     have he' : l[((k : Int) - 1).toNat]? = some e:=by rw [show ((k : Int) - 1).toNat = k - 1 by omega]; exact he
     have hk1 : (0 : Int) <= (k : Int) - 1:=by omega
     subst hpe
     by_cases hle : c.group <= e.group
     ·rw [show prevOk (some e.group) c.group = false from decide_eq_false (by omega)] at hq
      simp only [bfa] at hq
      simp -implicitDefEqProofs (disch:=omega) only [h1,h2,h12,h13,h14,hh2_0,hlt,hm,hfi,Nd.vv,hk0,hk1,he',hle,hq,go_sem,↓reduceIte,rA,rS,rE,rL,reduceCtorEq]
     ·rw [show prevOk (some e.group) c.group = true from decide_eq_true (by omega),bta] at hq
      by_cases b0 : c.least < 0
      ·rw [show amtB c.least = false by simp [amtB]; omega] at hq
       simp only [bfa] at hq
       simp -implicitDefEqProofs (disch:=omega) only [h1,h2,h12,h13,h14,hh2_0,hlt,hm,hfi,Nd.vv,hk0,hk1,he',hle,b0,hq,go_sem,↓reduceIte,rA,rS,rE,rL,reduceCtorEq]
      ·skip
       by_cases b1 : 4611686018427387904 < c.least
       ·rw [show amtB c.least = false by simp [amtB]; omega] at hq
        simp only [bfa] at hq
        simp -implicitDefEqProofs (disch:=omega) only [h1,h2,h12,h13,h14,hh2_0,hlt,hm,hfi,Nd.vv,hk0,hk1,he',hle,b0,b1,hq,go_sem,↓reduceIte,rA,rS,rE,rL,reduceCtorEq]
       ·rw [show amtB c.least = true by simp [amtB]; omega,bta] at hq
        by_cases b2 : c.low < 0
        ·rw [show amtB c.low = false by simp [amtB]; omega] at hq
         simp only [bfa] at hq
         simp -implicitDefEqProofs (disch:=omega) only [h1,h2,h12,h13,h14,hh2_0,hlt,hm,hfi,Nd.vv,hk0,hk1,he',hle,b0,b1,b2,hq,go_sem,↓reduceIte,rA,rS,rE,rL,reduceCtorEq]
        ·skip
         by_cases b3 : 4611686018427387904 < c.low
         ·rw [show amtB c.low = false by simp [amtB]; omega] at hq
          simp only [bfa] at hq
          simp -implicitDefEqProofs (disch:=omega) only [h1,h2,h12,h13,h14,hh2_0,hlt,hm,hfi,Nd.vv,hk0,hk1,he',hle,b0,b1,b2,b3,hq,go_sem,↓reduceIte,rA,rS,rE,rL,reduceCtorEq]
         ·rw [show amtB c.low = true by simp [amtB]; omega,bta] at hq
          simp -implicitDefEqProofs (disch:=omega) only [h1,h2,h12,h13,h14,hh2_0,hlt,hm,hfi,Nd.vv,hk0,hk1,he',hle,b0,b1,b2,b3,go_sem,↓reduceIte,rA,rS,rE,rL,reduceCtorEq]
          try refine And.intro (by omega) ?_
          refine (hI _ _).2 ⟨some c.group,?_,?_,?_,?_,?_,?_,?_,?_,?_⟩
          .exact hq
          .exact by simp
          .exact hnx
          all_goals exact cl0
    ·have hpn:=hp0 (by omega)
     subst hpn
     rw [show prevOk none c.group = true from rfl,bta] at hq
     by_cases b0 : c.least < 0
     ·rw [show amtB c.least = false by simp [amtB]; omega] at hq
      simp only [bfa] at hq
      simp -implicitDefEqProofs (disch:=omega) only [h1,h2,h12,h13,h14,hh2_0,hlt,hm,hfi,Nd.vv,hk0,b0,hq,go_sem,↓reduceIte,rA,rS,rE,rL,reduceCtorEq]
     ·skip
      by_cases b1 : 4611686018427387904 < c.least
      ·rw [show amtB c.least = false by simp [amtB]; omega] at hq
       simp only [bfa] at hq
       simp -implicitDefEqProofs (disch:=omega) only [h1,h2,h12,h13,h14,hh2_0,hlt,hm,hfi,Nd.vv,hk0,b0,b1,hq,go_sem,↓reduceIte,rA,rS,rE,rL,reduceCtorEq]
      ·rw [show amtB c.least = true by simp [amtB]; omega,bta] at hq
       by_cases b2 : c.low < 0
       ·rw [show amtB c.low = false by simp [amtB]; omega] at hq
        simp only [bfa] at hq
        simp -implicitDefEqProofs (disch:=omega) only [h1,h2,h12,h13,h14,hh2_0,hlt,hm,hfi,Nd.vv,hk0,b0,b1,b2,hq,go_sem,↓reduceIte,rA,rS,rE,rL,reduceCtorEq]
       ·skip
        by_cases b3 : 4611686018427387904 < c.low
        ·rw [show amtB c.low = false by simp [amtB]; omega] at hq
         simp only [bfa] at hq
         simp -implicitDefEqProofs (disch:=omega) only [h1,h2,h12,h13,h14,hh2_0,hlt,hm,hfi,Nd.vv,hk0,b0,b1,b2,b3,hq,go_sem,↓reduceIte,rA,rS,rE,rL,reduceCtorEq]
        ·rw [show amtB c.low = true by simp [amtB]; omega,bta] at hq
         simp -implicitDefEqProofs (disch:=omega) only [h1,h2,h12,h13,h14,hh2_0,hlt,hm,hfi,Nd.vv,hk0,b0,b1,b2,b3,go_sem,↓reduceIte,rA,rS,rE,rL,reduceCtorEq]
         try refine And.intro (by omega) ?_
         refine (hI _ _).2 ⟨some c.group,?_,?_,?_,?_,?_,?_,?_,?_,?_⟩
         .exact hq
         .exact by simp
         .exact hnx
         all_goals exact cl0
  ·rw [ldl (by omega)] at hq
   simp only [prOk] at hq
   simp -implicitDefEqProofs (disch:=omega) only [h1,h2,h12,h13,h14,hh2_0,hge,hq,go_sem,↓reduceIte,rA,rS,rE,rL,reduceCtorEq]
 ·have htf : treeOk t = false:=by simpa using ht
  rw [htf] at hc ⊢
  simp -implicitDefEqProofs (disch:=omega) only [vf63,vb63,hc,bfa,go_sem,↓reduceIte,rA,rS,rE,rL,reduceCtorEq]
abbrev setKs (l : List Pr) : List MKey:=l.map fun x=>MKey.int x.group
theorem leaF_eq (h : Pr) : V 115 [h.vv] [] = some (.p (.int .i64 h.least),[]):=by
 refine V_wp (vf:=vf115) rfl ?_
 simp -implicitDefEqProofs (disch:=omega) only [vf115,vb115,go_sem,↓reduceIte,rA,rS,rE,rL,reduceCtorEq]
abbrev leaP (l : List Pr) : PV:=.map (.int .i64) (setKs l) (l.map fun x=>PV.int .i64 (min x.least 16777216))
set_option maxHeartbeats 2000000 in
theorem lea_settings_eq (l : List Pr) (hl : l.length < 1000000) (hnd : (l.map (·.group)).Nodup) : V 114 [.p (prsP l),.p (.fn 115)] [] = some (.p (leaP l),[]):=by
 refine V_wp (vf:=vf114) rfl ?_
 simp -implicitDefEqProofs (disch:=omega) only [vf114,vb114,go_sem,↓reduceIte,rA,rS,rE,rL,reduceCtorEq]
 obtain ⟨I,hI⟩ : ∃ I : Nat -> St -> Prop,∀ k s,I k s ↔ s.pe 1 = .p (.fn 115) /\ s.pe 5 = .mref (.slot 8 0) 0 /\ s.pe 9 = .p (prsP l) /\ s.pe 10 = .p (.int .i64 ↑l.length) /\ s.pe 11 = .p (.int .i64 k) /\ s.h (.slot 8 0) = some (0,Ob.map (KT.int IntKind.i64) (setKs (l.take k)) ((l.take k).map fun x=>PV.int .i64 (min x.least 16777216))):=⟨_,fun _ _=>Iff.rfl⟩
 refine wp_count (l.length) I ?_ ?_
 ·refine (hI _ _).2 ⟨?_,?_,?_,?_,?_,?_⟩
  all_goals exact cl0
 intro k s hk hIk
 obtain ⟨h1,h5,h9,h10,h11,hh8_0⟩:=(hI _ _).1 hIk
 clear hIk
 simp -implicitDefEqProofs (disch:=omega) only [h1,h5,h9,h10,h11,hh8_0,go_sem,↓reduceIte,rA,rS,rE,rL,reduceCtorEq]
 refine wp_if_d (fun hlt=>?_) (fun hge=>?_)
 ·have hm : l[k]? = some l[k]:=lgg hlt
  have htk:=take_snoc hm
  have hnew : MKey.int l[k].group ∉ setKs (l.take k):=by
   intro h
   obtain ⟨y,hy,he⟩:=lmm.1 h
   have he' : y.group = l[k].group:=by simpa using he
   obtain ⟨i,hi,rfl⟩:=List.mem_take_iff_getElem.1 hy
   have h1 : i < k:=(Nat.lt_min.1 hi).1
   have hnd':=List.pairwise_iff_getElem.1 hnd i k (by simp; omega) (by simpa using hlt) h1
   simp only [List.getElem_map] at hnd'
   exact hnd' he'
  generalize l[k] = x at hm htk hnew
  have hput:=mput_new (MKey.int x.group) (PV.int .i64 (min x.least 16777216)) (setKs (l.take k)) ((l.take k).map fun x=>PV.int .i64 (min x.least 16777216)) (by simp) hnew
  have e1 : setKs (l.take (k + 1)) = setKs (l.take k) ++ [MKey.int x.group]:=by rw [htk]; simp
  have e2 : ((l.take (k + 1)).map fun x=>PV.int .i64 (min x.least 16777216)) = ((l.take k).map fun x=>PV.int .i64 (min x.least 16777216)) ++ [PV.int .i64 (min x.least 16777216)]:=by rw [htk]; simp
  have hfe:=leaF_eq x
  simp -implicitDefEqProofs (disch:=omega) only [h1,h5,h9,h10,h11,hh8_0,hlt,hm,hfe,hput,go_sem,↓reduceIte,rA,rS,rE,rL,reduceCtorEq]
  try refine And.intro (by omega) ?_
  refine (hI _ _).2 ⟨?_,?_,?_,?_,?_,?_⟩
  all_goals exact cl0
 ·simp -implicitDefEqProofs (disch:=omega) only [h1,h5,h9,h10,h11,hh8_0,hge,go_sem,↓reduceIte,rA,rS,rE,rL,reduceCtorEq]
  rw [ltl (by omega)]
theorem lowF_eq (h : Pr) : V 116 [h.vv] [] = some (.p (.int .i64 h.low),[]):=by
 refine V_wp (vf:=vf116) rfl ?_
 simp -implicitDefEqProofs (disch:=omega) only [vf116,vb116,go_sem,↓reduceIte,rA,rS,rE,rL,reduceCtorEq]
abbrev lowP (l : List Pr) : PV:=.map (.int .i64) (setKs l) (l.map fun x=>PV.int .i64 (min x.low 16777216))
set_option maxHeartbeats 2000000 in
theorem low_settings_eq (l : List Pr) (hl : l.length < 1000000) (hnd : (l.map (·.group)).Nodup) : V 114 [.p (prsP l),.p (.fn 116)] [] = some (.p (lowP l),[]):=by
 refine V_wp (vf:=vf114) rfl ?_
 simp -implicitDefEqProofs (disch:=omega) only [vf114,vb114,go_sem,↓reduceIte,rA,rS,rE,rL,reduceCtorEq]
 obtain ⟨I,hI⟩ : ∃ I : Nat -> St -> Prop,∀ k s,I k s ↔ s.pe 1 = .p (.fn 116) /\ s.pe 5 = .mref (.slot 8 0) 0 /\ s.pe 9 = .p (prsP l) /\ s.pe 10 = .p (.int .i64 ↑l.length) /\ s.pe 11 = .p (.int .i64 k) /\ s.h (.slot 8 0) = some (0,Ob.map (KT.int IntKind.i64) (setKs (l.take k)) ((l.take k).map fun x=>PV.int .i64 (min x.low 16777216))):=⟨_,fun _ _=>Iff.rfl⟩
 refine wp_count (l.length) I ?_ ?_
 ·refine (hI _ _).2 ⟨?_,?_,?_,?_,?_,?_⟩
  all_goals exact cl0
 intro k s hk hIk
 obtain ⟨h1,h5,h9,h10,h11,hh8_0⟩:=(hI _ _).1 hIk
 clear hIk
 simp -implicitDefEqProofs (disch:=omega) only [h1,h5,h9,h10,h11,hh8_0,go_sem,↓reduceIte,rA,rS,rE,rL,reduceCtorEq]
 refine wp_if_d (fun hlt=>?_) (fun hge=>?_)
 ·have hm : l[k]? = some l[k]:=lgg hlt
  have htk:=take_snoc hm
  have hnew : MKey.int l[k].group ∉ setKs (l.take k):=by
   intro h
   obtain ⟨y,hy,he⟩:=lmm.1 h
   have he' : y.group = l[k].group:=by simpa using he
   obtain ⟨i,hi,rfl⟩:=List.mem_take_iff_getElem.1 hy
   have h1 : i < k:=(Nat.lt_min.1 hi).1
   have hnd':=List.pairwise_iff_getElem.1 hnd i k (by simp; omega) (by simpa using hlt) h1
   simp only [List.getElem_map] at hnd'
   exact hnd' he'
  generalize l[k] = x at hm htk hnew
  have hput:=mput_new (MKey.int x.group) (PV.int .i64 (min x.low 16777216)) (setKs (l.take k)) ((l.take k).map fun x=>PV.int .i64 (min x.low 16777216)) (by simp) hnew
  have e1 : setKs (l.take (k + 1)) = setKs (l.take k) ++ [MKey.int x.group]:=by rw [htk]; simp
  have e2 : ((l.take (k + 1)).map fun x=>PV.int .i64 (min x.low 16777216)) = ((l.take k).map fun x=>PV.int .i64 (min x.low 16777216)) ++ [PV.int .i64 (min x.low 16777216)]:=by rw [htk]; simp
  have hfe:=lowF_eq x
  simp -implicitDefEqProofs (disch:=omega) only [h1,h5,h9,h10,h11,hh8_0,hlt,hm,hfe,hput,go_sem,↓reduceIte,rA,rS,rE,rL,reduceCtorEq]
  try refine And.intro (by omega) ?_
  refine (hI _ _).2 ⟨?_,?_,?_,?_,?_,?_⟩
  all_goals exact cl0
 ·simp -implicitDefEqProofs (disch:=omega) only [h1,h5,h9,h10,h11,hh8_0,hge,go_sem,↓reduceIte,rA,rS,rE,rL,reduceCtorEq]
  rw [ltl (by omega)]
def parN (ns : List Nd) (g : Int) : Int:=((findN ns g).getD zeroNd).parent
def effN (ns : List Nd) (cl : Int -> Int) (root : Int) : Nat -> Int -> Int
 | 0,_=>0
 | k + 1,g=>if g = root then 0 else if parN ns g = root then cl g else
   if sumI ((kidsN ns (parN ns g)).map cl) <= effN ns cl root k (parN ns g) then cl g else cl g * effN ns cl root k (parN ns g) / sumI ((kidsN ns (parN ns g)).map cl)
def effT (t : Tr) (cl : Int -> Int) (root g : Int) : Int:=effN t.nodes cl root t.nodes.length g
theorem parN_at {t : Tr} (h : TreeOk t) {i : Nat} {n : Nd} (hn : t.nodes[i]? = some n) : parN t.nodes n.id = n.parent:=by rw [parN,findN_unique h.inc hn]; rfl
theorem effN_fuel {t : Tr} (h : TreeOk t) (cl : Int -> Int) {root : Int} : ∀ (i : Nat) (n : Nd),t.nodes[i]? = some n -> root ∈ ancF t.nodes t.nodes.length n.id -> ∀ k k',i < k -> i < k' -> effN t.nodes cl root k n.id = effN t.nodes cl root k' n.id:=by
 intro i
 induction i using Nat.strongRecOn with
 | _ i ih =>
  intro n hn ha k k' hk hk'
  obtain ⟨k,rfl⟩ : ∃ m,k = m + 1:=⟨k - 1,by omega⟩
  obtain ⟨k',rfl⟩ : ∃ m,k' = m + 1:=⟨k' - 1,by omega⟩
  simp only [effN,parN_at h hn]
  by_cases h1 : n.id = root
  ·rw [if_pos h1,if_pos h1]
  ·rw [if_neg h1,if_neg h1]
   rcases (anc_iff h hn root).1 ha with h2 | ⟨hi,h2⟩
   ·exact absurd h2.symm h1
   ·rcases h.nodeAt hn with ⟨h3,_⟩ | ⟨_,_,j,p,hj,hpn,he⟩
    ·exact absurd h3 hi
    ·rw [<- he] at h2 ⊢
     rw [ih j (by omega) p hpn h2 k k' (by omega) (by omega)]
theorem effT_root {t : Tr} {cl : Int -> Int} {root : Int} : effT t cl root root = 0:=by
 unfold effT
 cases t.nodes.length with
 | zero=>rfl
 | succ k=>rw [effN,if_pos rfl]
theorem effT_step {t : Tr} (h : TreeOk t) (cl : Int -> Int) {root : Int} {i : Nat} {n : Nd} (hn : t.nodes[i]? = some n) {j : Nat} {p : Nd} (hp : t.nodes[j]? = some p) (he : p.id = n.parent) (ha : root ∈ ancF t.nodes t.nodes.length p.id) : effT t cl root n.id = if p.id = root then cl n.id else if sumI ((kidsN t.nodes p.id).map cl) <= effT t cl root p.id then cl n.id else cl n.id * effT t cl root p.id / sumI ((kidsN t.nodes p.id).map cl):=by
 have hij:=h.kid hp hn he.symm
 have hi:=(lgs.1 hn).1
 obtain ⟨N,hN⟩ : ∃ N,t.nodes.length = N + 1:=⟨t.nodes.length - 1,by omega⟩
 have hne : ¬ n.id = root:=by
  intro hr
  obtain ⟨q,m,hm,hme,hqj⟩:=ancUp h j p hp ha
  have:=(h.idx hm hn (by rw [hme,hr])).1
  omega
 have e1 : effT t cl root n.id = effN t.nodes cl root (N + 1) n.id:=by rw [effT,hN]
 have e2 : effT t cl root p.id = effN t.nodes cl root N p.id:=effN_fuel h cl j p hp ha _ _ (by omega) (by omega)
 rw [e1,effN,if_neg hne,parN_at h hn,<- he,e2]
where
 ancUp {t : Tr} (h : TreeOk t) {root : Int} : ∀ (j : Nat) (p : Nd),t.nodes[j]? = some p -> root ∈ ancF t.nodes t.nodes.length p.id -> ∃ (q : Nat) (m : Nd),t.nodes[q]? = some m /\ m.id = root /\ q <= j:=by
  intro j
  induction j using Nat.strongRecOn with
  | _ j ih =>
   intro p hp ha
   rcases (anc_iff h hp root).1 ha with h2 | ⟨hi,h2⟩
   ·exact ⟨j,p,hp,h2.symm,lrf _⟩
   ·rcases h.nodeAt hp with ⟨h3,_⟩ | ⟨_,_,i,q,hi2,hq,he⟩
    ·exact absurd h3 hi
    ·rw [<- he] at h2
     obtain ⟨a,b,c,d,e⟩:=ih i (by omega) q hq h2
     exact ⟨a,b,c,d,by omega⟩
theorem subF_pre (ns : List Nd) : ∀ (k : Nat) (l : List Int) (A : List Int) (x : Int) (B : List Int),l.flatMap (subF ns k) = A ++ x :: B -> x ∈ l \/ x ∈ A.flatMap (kidsN ns)
 | 0, l, A, x, B, he=>by
  exfalso
  have : l.flatMap (subF ns 0) = []:=by
   rw [List.flatMap_eq_nil_iff]
   intro y _
   rfl
  rw [this] at he
  simp at he
 | k + 1,[],A,x,B,he=>by simp at he
 | k + 1,y :: l,A,x,B,he=>by
  rw [lfc,subF,lca] at he
  cases A with
  | nil =>
   rw [lna,List.cons.injEq] at he
   exact Or.inl (by rw [<- he.1]; exact lms ..)
  | cons a A =>
   rw [lca,List.cons.injEq] at he
   obtain ⟨rfl,he⟩:=he
   rcases List.append_eq_append_iff.1 he with ⟨c,rfl,hc⟩ | ⟨c,hc1,hc2⟩
   ·rcases subF_pre ns (k + 1) l c x B hc with h | h
    ·exact Or.inl (lmc _ h)
    ·right
     rw [lfc,List.flatMap_append]
     simp [h]
   ·cases c with
    | nil =>
     rw [lna] at hc2
     rcases subF_pre ns (k + 1) l [] x B hc2.symm with h | h
     ·exact Or.inl (lmc _ h)
     ·simp at h
    | cons z c =>
     rw [lca,List.cons.injEq] at hc2
     obtain ⟨rfl,_⟩:=hc2
     rcases subF_pre ns k _ A x c hc1 with h | h
     ·right
      rw [lfc]
      simp [h]
     ·right
      rw [lfc]
      simp [h]
def RepD (ks : List MKey) (vs : List PV) (f : Int -> Int) : Prop:=∀ id,(mget ks vs (.int id)).getD (.int .i64 0) = .int .i64 (f id)
theorem RepD.put {ks : List MKey} {vs : List PV} {f : Int -> Int} (h : RepD ks vs f) (g v : Int) : RepD (mput ks vs (.int g) (.int .i64 v)).1 (mput ks vs (.int g) (.int .i64 v)).2 (fun x=>if x = g then v else f x):=by
 intro id
 rw [mget_mput]
 by_cases hg : id = g
 ·subst hg
  simp
 ·simp [hg]
  exact h id
theorem RepD.congr {ks : List MKey} {vs : List PV} {f g : Int -> Int} (h : RepD ks vs f) (he : ∀ x,f x = g x) : RepD ks vs g:=fun id=>by rw [<- he]; exact h id
theorem RepD.nil : RepD [] [] fun _=>0:=fun _=>rfl
theorem effN_bound (ns : List Nd) (cl : Int -> Int) (hb : ∀ x,0 <= cl x /\ cl x <= 16777216) (root : Int) : ∀ (k : Nat) (g : Int),0 <= effN ns cl root k g /\ effN ns cl root k g <= cl g
 | 0, g=>⟨Int.le_refl _, (hb g).1⟩
 | k + 1,g=>by
  have ih:=effN_bound ns cl hb root k (parN ns g)
  have hg:=hb g
  unfold effN
  split
  ·omega
  ·split
   ·omega
   ·split
    ·omega
    ·rename_i h1
     have hs : effN ns cl root k (parN ns g) < sumI ((kidsN ns (parN ns g)).map cl):=by omega
     generalize effN ns cl root k (parN ns g) = e at ih hs
     generalize sumI ((kidsN ns (parN ns g)).map cl) = s at hs
     generalize cl g = c at hg
     refine ⟨Int.ediv_nonneg (Int.mul_nonneg hg.1 ih.1) (by omega),?_⟩
     have h2 : c * e <= c * s:=Int.mul_le_mul_of_nonneg_left (by omega) hg.1
     refine Int.le_trans (Int.ediv_le_ediv (by omega) h2) ?_
     rw [Int.mul_ediv_cancel _ (by omega)]
     exact Int.le_refl _
theorem effT_bound (t : Tr) (cl : Int -> Int) (hb : ∀ x,0 <= cl x /\ cl x <= 16777216) (root g : Int) : 0 <= effT t cl root g /\ effT t cl root g <= 16777216:=by
 have:=effN_bound t.nodes cl hb root t.nodes.length g
 have:=hb g
 unfold effT
 omega
def onlyF (D : List Int) (f : Int -> Int) (x : Int) : Int:=if x ∈ D then f x else 0
set_option maxHeartbeats 4000000 in
theorem peff_eq {t : Tr} (h : TreeOk t) {root : Int} (hr : InN t.nodes root) {uk sk : List MKey} {uv sv : List PV} {u s0 : Int -> Int} (hu : RepD uk uv u) (hs : RepD sk sv s0) (hb : ∀ x,0 <= min (u x) (s0 x) /\ min (u x) (s0 x) <= 16777216) : ∃ ks vs,V 113 [t.vv,.mref (.arg 0 0) 0,.p (.map (.int .i64) sk sv),.p (.int .i64 root)] [.map (.int .i64) uk uv] = some (.p (.map (.int .i64) ks vs),[.map (.int .i64) uk uv]) /\ RepD ks vs (onlyF ((subT t root).flatMap (kidsN t.nodes)) (effT t (fun x=>min (u x) (s0 x)) root)):=by
 suffices hw : wp (callF V vf113 [t.vv,.mref (.arg 0 0) 0,.p (.map (.int .i64) sk sv),.p (.int .i64 root)] [.map (.int .i64) uk uv]) (fun r=>∃ ks vs,r = (.p (.map (.int .i64) ks vs),[.map (.int .i64) uk uv]) /\ RepD ks vs (onlyF ((subT t root).flatMap (kidsN t.nodes)) (effT t (fun x=>min (u x) (s0 x)) root))) by
  obtain ⟨r,hr,ks,vs,rfl,hrep⟩:=hw
  exact ⟨ks,vs,V_fix (vf:=vf113) rfl hr,hrep⟩
 have hsub:=fsub_eq root h
 have hsl:=subT_len h root
 have hlen:=h.len
 have hST : subT t root = subF t.nodes t.nodes.length root:=by
  obtain ⟨i,n,hn,rfl⟩:=hr
  simp [subT,findT_ok ((treeOk_iff t).2 h),findN_unique h.inc hn]
 have heff:=effT_bound t (fun x=>min (u x) (s0 x)) hb root
 generalize hS : subT t root = S at hsub hsl hST
 simp -implicitDefEqProofs (disch:=omega) only [vf113,vb113,hsub,go_sem,↓reduceIte,rA,rS,rE,rL,reduceCtorEq]
 obtain ⟨I,hI⟩ : ∃ I : Nat -> St -> Prop,∀ k s,I k s ↔ ∃ (ks : List MKey) (vs : List PV),RepD ks vs (onlyF ((S.take k).flatMap (kidsN t.nodes)) (effT t (fun x=>min (u x) (s0 x)) root)) /\ s.pe 1 = .mref (.arg 0 0) 0 /\ s.pe 2 = .p (PV.map (KT.int IntKind.i64) sk sv) /\ s.pe 3 = .p (.int .i64 root) /\ s.pe 4 = .ptr (.slot 4 0) 0 0 /\ s.pe 9 = .mref (.slot 18 0) 0 /\ s.pe 21 = .own (.slot 21 1) 0 0 S.length /\ s.pe 22 = .p (.int .i64 ↑S.length) /\ s.pe 23 = .p (.int .i64 k) /\ s.h (.arg 0 0) = some (0,Ob.map (KT.int IntKind.i64) uk uv) /\ s.h (.slot 4 0) = some (0,Ob.box [.p (nodesP t.nodes),.p (.int .i64 t.next)]) /\ s.h (.slot 18 0) = some (0,Ob.map (KT.int IntKind.i64) ks vs) /\ s.h (.slot 21 1) = some (0,Ob.arr 1 (List.map (.int .i64) S)):=⟨_,fun _ _=>Iff.rfl⟩
 refine wp_count (S.length) I ?_ ?_
 ·refine (hI _ _).2 ⟨[],[],?_,?_,?_,?_,?_,?_,?_,?_,?_,?_,?_,?_,?_⟩
  ·exact RepD.nil.congr fun x=>by simp [onlyF]
  all_goals exact cl0
 intro k s hk hIk
 obtain ⟨ks,vs,hrep,h1,h2,h3,h4,h9,h21,h22,h23,ha0,hh4_0,hh18_0,hh21_1⟩:=(hI _ _).1 hIk
 clear hIk
 simp -implicitDefEqProofs (disch:=omega) only [h1,h2,h3,h4,h9,h21,h22,h23,ha0,hh4_0,hh18_0,hh21_1,go_sem,↓reduceIte,rA,rS,rE,rL,reduceCtorEq]
 refine wp_if_d (fun hlt=>?_) (fun hge=>?_)
 ·have hm : S[k]? = some S[k]:=lgg hlt
  have htk:=take_snoc hm
  have hsp0 : S.take k ++ S[k] :: S.drop (k + 1) = S:=by rw [<- ldg hlt,List.take_append_drop]
  generalize S[k] = g at hm htk hsp0
  have hk:=fkids_eq t g (by omega)
  have hkl:=kidsN_len t.nodes g
  have hfm : (S.take (k + 1)).flatMap (kidsN t.nodes) = (S.take k).flatMap (kidsN t.nodes) ++ kidsN t.nodes g:=by rw [htk]; simp
  obtain ⟨ri,rn,hrn,hre⟩:=hr
  have hgS : g ∈ subF t.nodes t.nodes.length rn.id:=by rw [hre,<- hST]; exact lmg hm
  obtain ⟨gi,gn,hgn,hge',hga⟩:=(mem_subF h _ ri rn hrn (by omega) g).1 hgS
  rw [hre] at hga
  have hgD : ¬ g = root -> g ∈ (S.take k).flatMap (kidsN t.nodes):=by
   intro hne
   have hsp : [root].flatMap (subF t.nodes t.nodes.length) = S.take k ++ g :: S.drop (k + 1):=by
    rw [lfc,List.flatMap_nil,lan,<- hST]
    exact hsp0.symm
   rcases subF_pre t.nodes _ _ _ _ _ hsp with h1 | h1
   ·exact absurd (List.mem_singleton.1 h1) hne
   ·exact h1
  have hstep : ∀ x ∈ kidsN t.nodes g,¬ g = x /\ True /\ effT t (fun x=>min (u x) (s0 x)) root x = if g = root then min (u x) (s0 x) else if sumI ((kidsN t.nodes g).map fun x=>min (u x) (s0 x)) <= effT t (fun x=>min (u x) (s0 x)) root g then min (u x) (s0 x) else min (u x) (s0 x) * effT t (fun x=>min (u x) (s0 x)) root g / sumI ((kidsN t.nodes g).map fun x=>min (u x) (s0 x)):=by
   intro x hxk
   obtain ⟨xj,xm,hxm,hxp,rfl⟩:=mem_kidsN.1 hxk
   have hlt2:=h.kid hgn hxm (by rw [hxp,hge'])
   refine ⟨fun he=>?_,trivial,?_⟩
   ·have:=(h.idx hgn hxm (by rw [hge',he])).1
    omega
   ·have:=effT_step h (fun x=>min (u x) (s0 x)) (root:=root) hxm hgn (by rw [hge',hxp]) hga
    rw [hge'] at this
    exact this
  generalize hG : kidsN t.nodes g = G at hk hkl hfm hstep
  simp -implicitDefEqProofs (disch:=omega) only [h1,h2,h3,h4,h9,h21,h22,h23,ha0,hh4_0,hh18_0,hh21_1,hlt,hm,hk,go_sem,↓reduceIte,rA,rS,rE,rL,reduceCtorEq]
  obtain ⟨J,hJ⟩ : ∃ I : Nat -> St -> Prop,∀ j s,I j s ↔ ∃ (q : Int) (v29_1 : Nat),sumI (G.map fun x=>min (u x) (s0 x)) = q + sumI ((G.drop j).map fun x=>min (u x) (s0 x)) /\ 0 <= q /\ q <= 16777216 * j /\ s.pe 1 = .mref (.arg 0 0) 0 /\ s.pe 2 = .p (PV.map (KT.int IntKind.i64) sk sv) /\ s.pe 3 = .p (.int .i64 root) /\ s.pe 4 = .ptr (.slot 4 0) 0 0 /\ s.pe 9 = .mref (.slot 18 0) 0 /\ s.pe 11 = .p (.int .i64 g) /\ s.pe 12 = .own (.slot 29 1) v29_1 0 G.length /\ s.pe 13 = .p (.int .i64 q) /\ s.pe 21 = .own (.slot 21 1) 0 0 S.length /\ s.pe 22 = .p (.int .i64 ↑S.length) /\ s.pe 23 = .p (.int .i64 ↑k) /\ s.pe 30 = .own (.slot 29 1) v29_1 0 G.length /\ s.pe 31 = .p (.int .i64 ↑G.length) /\ s.pe 32 = .p (.int .i64 j) /\ s.h (.arg 0 0) = some (0,Ob.map (KT.int IntKind.i64) uk uv) /\ s.h (.slot 4 0) = some (0,Ob.box [.p (nodesP t.nodes),.p (.int .i64 t.next)]) /\ s.h (.slot 18 0) = some (0,Ob.map (KT.int IntKind.i64) ks vs) /\ s.h (.slot 21 1) = some (0,Ob.arr 1 (List.map (.int .i64) S)) /\ s.h (.slot 29 1) = some (v29_1,Ob.arr 1 (List.map (.int .i64) G)):=⟨_,fun _ _=>Iff.rfl⟩
  refine wp_count (G.length) J ?_ ?_
  ·refine (hJ _ _).2 ⟨0,nv (fzOb [29] s.h (.slot 29 1)),?_,?_,?_,?_,?_,?_,?_,?_,?_,?_,?_,?_,?_,?_,?_,?_,?_,?_,?_,?_,?_,?_⟩
   ·exact by simp
   ·omega
   ·omega
   all_goals exact cl0
  intro j s hj hJk
  obtain ⟨q,v29_1,hq,q0,q1,h1,h2,h3,h4,h9,h11,h12,h13,h21,h22,h23,h30,h31,h32,ha0,hh4_0,hh18_0,hh21_1,hh29_1⟩:=(hJ _ _).1 hJk
  clear hJk
  simp -implicitDefEqProofs (disch:=omega) only [h1,h2,h3,h4,h9,h11,h12,h13,h21,h22,h23,h30,h31,h32,ha0,hh4_0,hh18_0,hh21_1,hh29_1,go_sem,↓reduceIte,rA,rS,rE,rL,reduceCtorEq]
  refine wp_if_d (fun hjl=>?_) (fun hjg=>?_)
  ·have hx : G[j]? = some G[j]:=lgg hjl
   have hdr : G.drop j = G[j] :: G.drop (j + 1):=ldg hjl
   generalize G[j] = x at hx hdr
   rw [hdr,lpc,sumI,<- Int.add_assoc] at hq
   have hux:=hu x
   have hsx:=hs x
   obtain ⟨c0,c1⟩:=hb x
   simp -implicitDefEqProofs (disch:=omega) only [h1,h2,h3,h4,h9,h11,h12,h13,h21,h22,h23,h30,h31,h32,ha0,hh4_0,hh18_0,hh21_1,hh29_1,hjl,hx,hux,hsx,go_sem,↓reduceIte,rA,rS,rE,rL,reduceCtorEq]
   try refine And.intro (by omega) ?_
   refine (hJ _ _).2 ⟨q + min (u x) (s0 x),v29_1,?_,?_,?_,?_,?_,?_,?_,?_,?_,?_,?_,?_,?_,?_,?_,?_,?_,?_,?_,?_,?_,?_⟩
   ·exact hq
   ·omega
   ·exact by push_cast; omega
   all_goals exact cl0
  ·rw [ldl (by omega),lpn,sumI,Int.add_zero] at hq
   have hjG : j = G.length:=by omega
   simp -implicitDefEqProofs (disch:=omega) only [h1,h2,h3,h4,h9,h11,h12,h13,h21,h22,h23,h30,h31,h32,ha0,hh4_0,hh18_0,hh21_1,hh29_1,hjg,go_sem,↓reduceIte,rA,rS,rE,rL,reduceCtorEq]
   obtain ⟨P,hP⟩ : ∃ I : Nat -> St -> Prop,∀ p s,I p s ↔ ∃ (ks : List MKey) (vs : List PV),RepD ks vs (onlyF ((S.take k).flatMap (kidsN t.nodes) ++ G.take p) (effT t (fun x=>min (u x) (s0 x)) root)) /\ s.pe 1 = .mref (.arg 0 0) 0 /\ s.pe 2 = .p (PV.map (KT.int IntKind.i64) sk sv) /\ s.pe 3 = .p (.int .i64 root) /\ s.pe 4 = .ptr (.slot 4 0) 0 0 /\ s.pe 9 = .mref (.slot 18 0) 0 /\ s.pe 11 = .p (.int .i64 g) /\ s.pe 13 = .p (.int .i64 q) /\ s.pe 21 = .own (.slot 21 1) 0 0 S.length /\ s.pe 22 = .p (.int .i64 ↑S.length) /\ s.pe 23 = .p (.int .i64 ↑k) /\ s.pe 46 = .own (.slot 29 1) v29_1 0 G.length /\ s.pe 47 = .p (.int .i64 ↑G.length) /\ s.pe 48 = .p (.int .i64 p) /\ s.h (.arg 0 0) = some (0,Ob.map (KT.int IntKind.i64) uk uv) /\ s.h (.slot 4 0) = some (0,Ob.box [.p (nodesP t.nodes),.p (.int .i64 t.next)]) /\ s.h (.slot 18 0) = some (0,Ob.map (KT.int IntKind.i64) ks vs) /\ s.h (.slot 21 1) = some (0,Ob.arr 1 (List.map (.int .i64) S)) /\ s.h (.slot 29 1) = some (v29_1,Ob.arr 1 (List.map (.int .i64) G)):=⟨_,fun _ _=>Iff.rfl⟩
   refine wp_count (G.length) P ?_ ?_
   ·refine (hP _ _).2 ⟨ks,vs,?_,?_,?_,?_,?_,?_,?_,?_,?_,?_,?_,?_,?_,?_,?_,?_,?_,?_,?_⟩
    ·exact by simpa using hrep
    all_goals exact cl0
   intro p s hp hPk
   obtain ⟨ks,vs,hrp,h1,h2,h3,h4,h9,h11,h13,h21,h22,h23,h46,h47,h48,ha0,hh4_0,hh18_0,hh21_1,hh29_1⟩:=(hP _ _).1 hPk
   clear hPk
   simp -implicitDefEqProofs (disch:=omega) only [h1,h2,h3,h4,h9,h11,h13,h21,h22,h23,h46,h47,h48,ha0,hh4_0,hh18_0,hh21_1,hh29_1,go_sem,↓reduceIte,rA,rS,rE,rL,reduceCtorEq]
   refine wp_if_d (fun hpl=>?_) (fun hpg=>?_)
   ·have hx : G[p]? = some G[p]:=lgg hpl
    have htp:=take_snoc hx
    generalize G[p] = x at hx htp
    have hux:=hu x
    have hsx:=hs x
    obtain ⟨c0,c1⟩:=hb x
    obtain ⟨st1,st2,st3⟩:=hstep x (lmg hx)
    have hrx:=hrp.put x (min (u x) (s0 x))
    have lg:=hrx g
    have lx:=hrx x
    simp only [if_neg st1,if_pos] at lg lx
    have hnew : ∀ v,v = effT t (fun x=>min (u x) (s0 x)) root x -> ∀ y,(if y = x then v else onlyF ((S.take k).flatMap (kidsN t.nodes) ++ G.take p) (effT t (fun x=>min (u x) (s0 x)) root) y) = onlyF ((S.take k).flatMap (kidsN t.nodes) ++ G.take (p + 1)) (effT t (fun x=>min (u x) (s0 x)) root) y:=by
     intro v hv y
     unfold onlyF
     rw [htp,<- laa]
     by_cases hy : y = x
     ·subst hy
      simp [hv]
     ·simp [hy]
    by_cases hgr : g = root
    ·rw [if_pos hgr] at st3
     have hr2:=hrx.congr (hnew _ st3.symm)
     simp -implicitDefEqProofs (disch:=omega) only [h1,h2,h3,h4,h9,h11,h13,h21,h22,h23,h46,h47,h48,ha0,hh4_0,hh18_0,hh21_1,hh29_1,hpl,hx,hux,hsx,hgr,go_sem,↓reduceIte,rA,rS,rE,rL,reduceCtorEq]
     try refine And.intro (by omega) ?_
     refine (hP _ _).2 ⟨(mput ks vs (.int x) (.int .i64 (min (u x) (s0 x)))).1,(mput ks vs (.int x) (.int .i64 (min (u x) (s0 x)))).2,?_,?_,?_,?_,?_,?_,?_,?_,?_,?_,?_,?_,?_,?_,?_,?_,?_,?_,?_⟩
     ·exact hr2
     all_goals exact cl0
    ·rw [if_neg hgr] at st3
     have hgv : onlyF ((S.take k).flatMap (kidsN t.nodes) ++ G.take p) (effT t (fun x=>min (u x) (s0 x)) root) g = effT t (fun x=>min (u x) (s0 x)) root g:=by
      unfold onlyF
      rw [if_pos (lmp.2 (Or.inl (hgD hgr)))]
     rw [hgv] at lg
     have hqs : sumI (G.map fun x=>min (u x) (s0 x)) = q:=hq
     rw [hqs] at st3
     obtain ⟨e0,e1⟩:=heff g
     by_cases hle : q <= effT t (fun x=>min (u x) (s0 x)) root g
     ·rw [if_pos hle] at st3
      have hr2:=hrx.congr (hnew _ st3.symm)
      have hle' : ¬ effT t (fun x=>min (u x) (s0 x)) root g < q:=by omega
      simp -implicitDefEqProofs (disch:=omega) only [h1,h2,h3,h4,h9,h11,h13,h21,h22,h23,h46,h47,h48,ha0,hh4_0,hh18_0,hh21_1,hh29_1,hpl,hx,hux,hsx,hgr,lg,hle',go_sem,↓reduceIte,rA,rS,rE,rL,reduceCtorEq]
      try refine And.intro (by omega) ?_
      refine (hP _ _).2 ⟨(mput ks vs (.int x) (.int .i64 (min (u x) (s0 x)))).1,(mput ks vs (.int x) (.int .i64 (min (u x) (s0 x)))).2,?_,?_,?_,?_,?_,?_,?_,?_,?_,?_,?_,?_,?_,?_,?_,?_,?_,?_,?_⟩
      ·exact hr2
      all_goals exact cl0
     ·rw [if_neg hle] at st3
      have hle' : effT t (fun x=>min (u x) (s0 x)) root g < q:=by omega
      have m0 : 0 <= min (u x) (s0 x) * effT t (fun x=>min (u x) (s0 x)) root g:=Int.mul_nonneg c0 e0
      have m1 : min (u x) (s0 x) * effT t (fun x=>min (u x) (s0 x)) root g <= 16777216 * 16777216:=Int.mul_le_mul c1 e1 e0 (by omega)
      have m2 : (min (u x) (s0 x) * effT t (fun x=>min (u x) (s0 x)) root g).tdiv q = min (u x) (s0 x) * effT t (fun x=>min (u x) (s0 x)) root g / q:=Int.tdiv_eq_ediv_of_nonneg m0
      have m3 : 0 <= min (u x) (s0 x) * effT t (fun x=>min (u x) (s0 x)) root g / q:=Int.ediv_nonneg m0 (by omega)
      have m4 : min (u x) (s0 x) * effT t (fun x=>min (u x) (s0 x)) root g / q <= 16777216 * 16777216:=Int.le_trans (Int.ediv_le_self _ m0) m1
      have hrx2:=hrx.put x (min (u x) (s0 x) * effT t (fun x=>min (u x) (s0 x)) root g / q)
      have hr2:=hrx2.congr (g:=onlyF ((S.take k).flatMap (kidsN t.nodes) ++ G.take (p + 1)) (effT t (fun x=>min (u x) (s0 x)) root)) fun y=>by
       rw [<- hnew _ st3.symm y]
       by_cases hy : y = x <;> simp [hy]
      generalize hE : effT t (fun x=>min (u x) (s0 x)) root g = E at lg hle' m0 m1 m2 m3 m4 hr2
      simp -implicitDefEqProofs (disch:=omega) only [h1,h2,h3,h4,h9,h11,h13,h21,h22,h23,h46,h47,h48,ha0,hh4_0,hh18_0,hh21_1,hh29_1,hpl,hx,hux,hsx,hgr,lg,lx,hle',m2,go_sem,↓reduceIte,rA,rS,rE,rL,reduceCtorEq]
      try refine And.intro (by omega) ?_
      refine (hP _ _).2 ⟨(mput (mput ks vs (.int x) (.int .i64 (min (u x) (s0 x)))).1 (mput ks vs (.int x) (.int .i64 (min (u x) (s0 x)))).2 (.int x) (.int .i64 (min (u x) (s0 x) * E / q))).1,(mput (mput ks vs (.int x) (.int .i64 (min (u x) (s0 x)))).1 (mput ks vs (.int x) (.int .i64 (min (u x) (s0 x)))).2 (.int x) (.int .i64 (min (u x) (s0 x) * E / q))).2,?_,?_,?_,?_,?_,?_,?_,?_,?_,?_,?_,?_,?_,?_,?_,?_,?_,?_,?_⟩
      .exact hr2
      all_goals exact cl0
   ·have hz : G.take p = G:=ltl (by omega)
    rw [hz,<- hfm] at hrp
    simp -implicitDefEqProofs (disch:=omega) only [h1,h2,h3,h4,h9,h11,h13,h21,h22,h23,h46,h47,h48,ha0,hh4_0,hh18_0,hh21_1,hh29_1,hpg,go_sem,↓reduceIte,rA,rS,rE,rL,reduceCtorEq]
    try refine And.intro (by omega) ?_
    refine (hI _ _).2 ⟨ks,vs,?_,?_,?_,?_,?_,?_,?_,?_,?_,?_,?_,?_,?_⟩
    .exact hrp
    all_goals exact cl0
 ·simp -implicitDefEqProofs (disch:=omega) only [h1,h2,h3,h4,h9,h21,h22,h23,ha0,hh4_0,hh18_0,hh21_1,hge,go_sem,↓reduceIte,rA,rS,rE,rL,reduceCtorEq]
  rw [ltl (by omega)] at hrep
  exact ⟨ks,vs,rfl,hrep⟩
theorem ChOk.nil (ns : List Nd) : ChOk ns []:=⟨fun c h=>by simp at h,List.Pairwise.nil,fun c h=>by simp at h,by simp [sumI]⟩
theorem ChOk.length {t : Tr} {l : List Ch} (h : ChOk t.nodes l) : l.length <= t.nodes.length:=by
 have:=nodup_length_le (l.map (·.group)) (t.nodes.map (·.id)) (nodup_groups h.inc) (fun x hx=>by
  obtain ⟨c,hc,rfl⟩:=lmm.1 hx
  obtain ⟨n,hn,he⟩:=findN_some (h.known c hc)
  exact lmm.2 ⟨n,hn,he⟩)
 simpa using this
theorem filter_step {α : Type} {p : α -> Bool} {l : List α} {k : Nat} {m : α} (hm : l[k]? = some m) : (l.take (k + 1)).filter p = if p m = true then (l.take k).filter p ++ [m] else (l.take k).filter p:=by
 rw [List.take_add_one,hm]
 simp only [Option.toList,List.filter_append,lfl,List.filter_nil]
 split <;> simp
def totCh (t : Tr) (c : List Ch) (n : Nd) : Ch:=⟨n.id,tot t (ownC c) n.id⟩
def TotalsK (t : Tr) (c : List Ch) : List Ch × Int:=if validK t c = true then ((t.nodes.filter fun n=>decide (0 < tot t (ownC c) n.id)).map (totCh t c),0) else ([],1)
set_option maxHeartbeats 1000000 in
theorem totals_eq (t : Tr) (c : List Ch) (hf : t.Fits) (hn : t.nodes.length < 1000000) (hl : c.length < 1000000) : V 112 [t.vv,ctrV c] [] = some (.tup [.fresh 2 ((TotalsK t c).1.map Ch.pv),.p (.int .i64 (TotalsK t c).2)],[]):=by
 refine V_wp (vf:=vf112) rfl ?_
 have hv:=kvalid_eq t c hf hn hl
 unfold TotalsK
 cases hvv : validK t c with
 | false =>
  rw [hvv] at hv
  simp -implicitDefEqProofs (disch:=omega) only [vf112,vb112,hv,go_sem,↓reduceIte,rA,rS,rE,rL,reduceCtorEq]
  try rfl
 | true =>
  rw [hvv] at hv
  rw [if_pos rfl]
  obtain ⟨h1,h2⟩:=(validK_iff t c).1 hvv
  obtain ⟨ks,vs,hs,hg⟩:=sums_eq h1 h2 hn hl
  simp -implicitDefEqProofs (disch:=omega) only [vf112,vb112,hv,hs,go_sem,↓reduceIte,rA,rS,rE,rL,reduceCtorEq]
  obtain ⟨I,hI⟩ : ∃ I : Nat -> St -> Prop,∀ k s,I k s ↔ ∃ (acc : List Ch) (w : Nat),acc = ((t.nodes.take k).filter fun n=>decide (0 < tot t (ownC c) n.id)).map (totCh t c) /\ acc.length <= k /\ s.pe 6 = .own (.slot 6 0) w 0 acc.length /\ s.pe 7 = .p (PV.map (KT.int IntKind.i64) ks vs) /\ s.pe 18 = .p (nodesP t.nodes) /\ s.pe 19 = .p (.int .i64 ↑t.nodes.length) /\ s.pe 20 = .p (.int .i64 k) /\ s.h (.slot 6 0) = some (w,Ob.arr 2 (acc.map Ch.pv)):=⟨_,fun _ _=>Iff.rfl⟩
  refine wp_count (t.nodes.length) I ?_ ?_
  ·refine (hI _ _).2 ⟨[],0,?_,?_,?_,?_,?_,?_,?_,?_⟩
   ·exact cl3
   ·exact cl3
   all_goals first | exact cl0 | (simp -implicitDefEqProofs (disch:=omega) only [lma,go_sem,↓reduceIte,rA,rS,rE,rL,reduceCtorEq] <;> first | (simp [sumI]; done) | (simp [sumI]; omega))
  intro k s hk hIk
  obtain ⟨acc,w,hacc,hal,h6,h7,h18,h19,h20,hh6_0⟩:=(hI _ _).1 hIk
  clear hIk
  simp -implicitDefEqProofs (disch:=omega) only [h6,h7,h18,h19,h20,hh6_0,go_sem,↓reduceIte,rA,rS,rE,rL,reduceCtorEq]
  refine wp_if_d (fun hlt=>?_) (fun hge=>?_)
  ·have hm : t.nodes[k]? = some t.nodes[k]:=lgg hlt
   generalize t.nodes[k] = m at hm
   have hgm:=hg k m hm
   have hst:=filter_step (p:=fun n : Nd=>decide (0 < tot t (ownC c) n.id)) hm
   by_cases hp : 0 < tot t (ownC c) m.id
   ·simp only [hp,decide_true,if_true] at hst
    have htc : totCh t c m = ⟨m.id,tot t (ownC c) m.id⟩:=rfl
    generalize tot t (ownC c) m.id = T at hgm hp htc
    simp -implicitDefEqProofs (disch:=omega) only [h6,h7,h18,h19,h20,hh6_0,hlt,hm,hgm,hp,go_sem,↓reduceIte,rA,rS,rE,rL,reduceCtorEq]
    try refine And.intro (by omega) ?_
    refine (hI _ _).2 ⟨acc ++ [⟨m.id,T⟩],w + 1,?_,?_,?_,?_,?_,?_,?_,?_⟩
    .exact by rw [hst,lma,hacc,lpc,lpn,htc]
    .exact by simp; omega
    all_goals first | exact cl0 | (simp -implicitDefEqProofs (disch:=omega) only [h6,h7,h18,h19,h20,hh6_0,lma,go_sem,↓reduceIte,rA,rS,rE,rL,reduceCtorEq] <;> first | (simp [sumI]; done) | (simp [sumI]; omega))
   ·simp only [hp,decide_false,bft,if_false] at hst
    generalize tot t (ownC c) m.id = T at hgm hp
    simp -implicitDefEqProofs (disch:=omega) only [h6,h7,h18,h19,h20,hh6_0,hlt,hm,hgm,hp,go_sem,↓reduceIte,rA,rS,rE,rL,reduceCtorEq]
    try refine And.intro (by omega) ?_
    refine (hI _ _).2 ⟨acc,w,?_,?_,?_,?_,?_,?_,?_,?_⟩
    .exact by rw [hst,hacc]
    .omega
    all_goals first | exact cl0 | (simp -implicitDefEqProofs (disch:=omega) only [h6,h7,h18,h19,h20,hh6_0,lma,go_sem,↓reduceIte,rA,rS,rE,rL,reduceCtorEq] <;> first | (simp [sumI]; done) | (simp [sumI]; omega))
  ·rw [ltl (by omega)] at hacc
   rw [<- hacc]
   simp -implicitDefEqProofs (disch:=omega) only [h6,h7,h18,h19,h20,hh6_0,hge,go_sem,↓reduceIte,rA,rS,rE,rL,reduceCtorEq]
   try rfl
def mostK (l : List Ch) (id : Int) : Int:=(lookC l id).getD 4611686018427387904
theorem lookC_drop {l : List Ch} {k : Nat} {c : Ch} {id : Int} (hm : l[k]? = some c) (h : lookC l id = lookC (l.drop k) id) : lookC l id = if c.group = id then some c.own else lookC (l.drop (k + 1)) id:=by
 have hl:=(lgs.1 hm).1
 rw [h,ldg hl]
 rw [lgg hl] at hm
 cases hm
 rfl
theorem most_eq (l : List Ch) (id : Int) (hl : l.length < 1000000) : V 135 [.p (chsP l),.p (.int .i64 id)] [] = some (.p (.int .i64 (mostK l id)),[]):=by
 refine V_wp (vf:=vf135) rfl ?_
 unfold mostK
 simp -implicitDefEqProofs (disch:=omega) only [vf135,vb135,go_sem,↓reduceIte,rA,rS,rE,rL,reduceCtorEq]
 obtain ⟨I,hI⟩ : ∃ I : Nat -> St -> Prop,∀ k s,I k s ↔ lookC l id = lookC (l.drop k) id /\ s.pe 0 = .p (chsP l) /\ s.pe 1 = .p (.int .i64 id) /\ s.pe 5 = .p (.int .i64 k):=⟨_,fun _ _=>Iff.rfl⟩
 refine wp_count (l.length) I ?_ ?_
 ·refine (hI _ _).2 ⟨?_,?_,?_,?_⟩
  ·exact cl3
  all_goals first | exact cl0 | (simp -implicitDefEqProofs (disch:=omega) only [h6,h7,h18,h19,h20,hh6_0,lma,go_sem,↓reduceIte,rA,rS,rE,rL,reduceCtorEq] <;> first | (simp [sumI]; done) | (simp [sumI]; omega))
 intro k s hk hIk
 obtain ⟨hq,h0,h1,h5⟩:=(hI _ _).1 hIk
 clear hIk
 simp -implicitDefEqProofs (disch:=omega) only [h0,h1,h5,go_sem,↓reduceIte,rA,rS,rE,rL,reduceCtorEq]
 refine wp_if_d (fun hlt=>?_) (fun hge=>?_)
 ·have hm : l[k]? = some l[k]:=lgg hlt
  generalize l[k] = c at hm
  have hst:=lookC_drop hm hq
  by_cases hp : c.group = id
  ·rw [if_pos hp] at hst
   simp -implicitDefEqProofs (disch:=omega) only [h0,h1,h5,hlt,hm,hp,hst,Option.getD_some,go_sem,↓reduceIte,rA,rS,rE,rL,reduceCtorEq]
  ·rw [if_neg hp] at hst
   simp -implicitDefEqProofs (disch:=omega) only [h0,h1,h5,hlt,hm,hp,go_sem,↓reduceIte,rA,rS,rE,rL,reduceCtorEq]
   try refine And.intro (by omega) ?_
   refine (hI _ _).2 ⟨?_,?_,?_,?_⟩
   .exact hst
   all_goals first | exact cl0 | (simp -implicitDefEqProofs (disch:=omega) only [h0,h1,h5,lma,go_sem,↓reduceIte,rA,rS,rE,rL,reduceCtorEq] <;> first | (simp [sumI]; done) | (simp [sumI]; omega))
 ·rw [ldl (by omega)] at hq
  simp -implicitDefEqProofs (disch:=omega) only [h0,h1,h5,hge,hq,lookC,Option.getD_none,go_sem,↓reduceIte,rA,rS,rE,rL,reduceCtorEq]
def limPicks : List Int:=[0,10,60,150,1000,1099511627776,4611686018427387904]
def dLimits (L : List Int) : List Nd -> Nat -> List Ch × Nat
 | [],a=>([],a)
 | n :: ns,a=>if nextV L a 2 = 1 then (⟨n.id,pickV L (nextA L a 2) limPicks⟩ :: (dLimits L ns (nextA L (nextA L a 2) 7)).1,(dLimits L ns (nextA L (nextA L a 2) 7)).2) else dLimits L ns (nextA L a 2)
set_option maxHeartbeats 1000000 in
theorem dlimits_eq (L : List Int) (a : Nat) (t : Tr) (hL : L.length < 4611686018427387904) (hl : t.nodes.length < 1000000) : V 11 [.ptr (.arg 0 0) 0 0,t.vv] [diceB L a] = some (.fresh 2 ((dLimits L t.nodes a).1.map Ch.pv),[diceB L (dLimits L t.nodes a).2]):=by
 refine V_wp (vf:=vf11) rfl ?_
 simp -implicitDefEqProofs (disch:=omega) only [vf11,vb11,go_sem,↓reduceIte,rA,rS,rE,rL,reduceCtorEq]
 obtain ⟨I,hI⟩ : ∃ I : Nat -> St -> Prop,∀ k s,I k s ↔ ∃ (b : Nat) (acc : List Ch) (w : Nat),dLimits L t.nodes a = (acc ++ (dLimits L (t.nodes.drop k) b).1,(dLimits L (t.nodes.drop k) b).2) /\ acc.length <= k /\ s.pe 0 = .ptr (Id.arg 0 0) 0 0 /\ s.pe 3 = .ptr (.slot 3 0) 0 0 /\ s.pe 5 = .own (.slot 5 0) w 0 acc.length /\ s.pe 6 = .p (.int .i64 k) /\ s.h (.arg 0 0) = some (0,diceB L b) /\ s.h (.slot 3 0) = some (0,Ob.box [.p (nodesP t.nodes),.p (.int .i64 t.next)]) /\ s.h (.slot 5 0) = some (w,Ob.arr 2 (acc.map Ch.pv)):=⟨_,fun _ _=>Iff.rfl⟩
 refine wp_count (t.nodes.length) I ?_ ?_
 ·refine (hI _ _).2 ⟨a,[],0,?_,?_,?_,?_,?_,?_,?_,?_,?_⟩
  ·rfl
  ·exact cl3
  all_goals first | exact cl0 | (simp -implicitDefEqProofs (disch:=omega) only [h0,h1,h5,lma,go_sem,↓reduceIte,rA,rS,rE,rL,reduceCtorEq] <;> first | (simp [sumI]; done) | (simp [sumI]; omega))
 intro k s hk hIk
 obtain ⟨b,acc,w,hd,hal,h0,h3,h5,h6,ha0,hh3_0,hh5_0⟩:=(hI _ _).1 hIk
 clear hIk
 simp -implicitDefEqProofs (disch:=omega) only [h0,h3,h5,h6,ha0,hh3_0,hh5_0,go_sem,↓reduceIte,rA,rS,rE,rL,reduceCtorEq]
 refine wp_if_d (fun hlt=>?_) (fun hge=>?_)
 ·have hm : t.nodes[k]? = some t.nodes[k]:=lgg hlt
  have hdr : t.nodes.drop k = t.nodes[k] :: t.nodes.drop (k + 1):=ldg hlt
  generalize t.nodes[k] = m at hm hdr
  rw [hdr,dLimits] at hd
  have hb : V 25 [.ptr (.arg 0 0) 0 0,.p (.int .i64 2)] [diceB L b] = some (.p (.bool (decide (nextV L b 2 = 1))),[diceB L (nextA L b 2)]):=bool_eq L b 2 hL (by omega) (by omega)
  have hp:=pick_eq L (nextA L b 2) limPicks hL (by decide) (by decide)
  simp only [limPicks,intsP,llc,lln,rA,lpc,lpn] at hp
  rw [<- limPicks] at hp
  rw [show nextA L (nextA L b 2) ((7 : Nat) : Int) = nextA L (nextA L b 2) 7 from rfl] at hp
  generalize pickV L (nextA L b 2) limPicks = pv at hp hd
  generalize nextA L (nextA L b 2) 7 = b2 at hp hd
  generalize nextA L b 2 = b1 at hb hp hd
  by_cases hx : nextV L b 2 = 1
  ·rw [if_pos hx] at hd
   rw [hx] at hb
   simp -implicitDefEqProofs (disch:=omega) only [h0,h3,h5,h6,ha0,hh3_0,hh5_0,hlt,hm,hb,hp,decide_true,go_sem,↓reduceIte,rA,rS,rE,rL,reduceCtorEq]
   try refine And.intro (by omega) ?_
   refine (hI _ _).2 ⟨b2,acc ++ [⟨m.id,pv⟩],w + 1,?_,?_,?_,?_,?_,?_,?_,?_,?_⟩
   .exact by rw [hd]; simp
   .exact by simp; omega
   all_goals first | exact cl0 | (simp -implicitDefEqProofs (disch:=omega) only [h0,h3,h5,h6,ha0,hh3_0,hh5_0,lma,go_sem,↓reduceIte,rA,rS,rE,rL,reduceCtorEq] <;> first | (simp [sumI]; done) | (simp [sumI]; omega))
  ·rw [if_neg hx] at hd
   simp -implicitDefEqProofs (disch:=omega) only [h0,h3,h5,h6,ha0,hh3_0,hh5_0,hlt,hm,hb,hx,go_sem,↓reduceIte,rA,rS,rE,rL,reduceCtorEq]
   try refine And.intro (by omega) ?_
   refine (hI _ _).2 ⟨b1,acc,w,?_,?_,?_,?_,?_,?_,?_,?_,?_⟩
   .exact hd
   .omega
   all_goals first | exact cl0 | (simp -implicitDefEqProofs (disch:=omega) only [h0,h3,h5,h6,ha0,hh3_0,hh5_0,lma,go_sem,↓reduceIte,rA,rS,rE,rL,reduceCtorEq] <;> first | (simp [sumI]; done) | (simp [sumI]; omega))
 ·rw [ldl (by omega),dLimits] at hd
  rw [hd]
  simp -implicitDefEqProofs (disch:=omega) only [h0,h3,h5,h6,ha0,hh3_0,hh5_0,hge,go_sem,↓reduceIte,rA,rS,rE,rL,reduceCtorEq]
  try simp
def lookPr (f : Pr -> Int) : List Pr -> Int -> Int
 | [],_=>0
 | h :: l,id=>if h.group = id then min (f h) 16777216 else lookPr f l id
theorem set_rep (f : Pr -> Int) (l : List Pr) : RepD (setKs l) (l.map fun x=>PV.int .i64 (min (f x) 16777216)) (lookPr f l):=by
 intro id
 induction l with
 | nil=>rfl
 | cons h l ih =>
  simp only [setKs,lpc,mget,MKey.int.injEq,lookPr]
  by_cases he : h.group = id
  ·simp [he]
  ·have he' : ¬ id = h.group:=fun e=>he e.symm
   simp only [he,he',if_false]
   exact ih
theorem lookPr_bound (f : Pr -> Int) {l : List Pr} (h : ∀ x ∈ l,0 <= f x) (id : Int) : 0 <= lookPr f l id /\ lookPr f l id <= 16777216:=by
 induction l with
 | nil=>exact ⟨by simp [lookPr],by simp [lookPr]⟩
 | cons x l ih =>
  have:=h x (by simp)
  have:=ih fun y hy=>h y (by simp [hy])
  unfold lookPr
  split <;> omega
def usedF (t : Tr) (c : List Ch) (x : Int) : Int:=if (findN t.nodes x).isSome then tot t (ownC c) x else 0
theorem lookC_totals {t : Tr} (h : TreeOk t) {c : List Ch} (hc : ∀ x,0 <= ownC c x) (x : Int) : (lookC ((t.nodes.filter fun n=>decide (0 < tot t (ownC c) n.id)).map (totCh t c)) x).getD 0 = usedF t c x:=by
 have key : ∀ (l : List Nd),(lookC ((l.filter fun n=>decide (0 < tot t (ownC c) n.id)).map (totCh t c)) x).getD 0 = if (l.find? fun n=>decide (n.id = x)).isSome then tot t (ownC c) x else 0:=by
  intro l
  induction l with
  | nil=>rfl
  | cons n l ih =>
   have hn:=tot_nonneg t hc n.id
   by_cases hx : n.id = x
   ·subst hx
    by_cases hp : 0 < tot t (ownC c) n.id
    ·simp [lfl,hp,lookC,totCh]
    ·have hz : tot t (ownC c) n.id = 0:=by omega
     simp only [lfl,hp,decide_false,bft,if_false,ih]
     simp [hz]
   ·by_cases hp : 0 < tot t (ownC c) n.id
    ·simp only [lfl,hp,decide_true,if_true,lpc,lookC,totCh,hx,if_false,List.find?_cons,decide_false]
     exact ih
    ·simp only [lfl,hp,decide_false,bft,if_false,List.find?_cons,hx]
     exact ih
 exact key t.nodes
theorem onlyF_sub {t : Tr} (h : TreeOk t) {root : Int} (hr : InN t.nodes root) (cl : Int -> Int) {g : Int} (hg : g ∈ subT t root) : onlyF ((subT t root).flatMap (kidsN t.nodes)) (effT t cl root) g = effT t cl root g:=by
 unfold onlyF
 by_cases hD : g ∈ (subT t root).flatMap (kidsN t.nodes)
 ·rw [if_pos hD]
 ·rw [if_neg hD]
  have hST : subT t root = subF t.nodes t.nodes.length root:=by
   obtain ⟨i,n,hn,rfl⟩:=hr
   simp [subT,findT_ok ((treeOk_iff t).2 h),findN_unique h.inc hn]
  obtain ⟨A,B,hAB⟩:=List.append_of_mem hg
  have hsp : [root].flatMap (subF t.nodes t.nodes.length) = A ++ g :: B:=by
   rw [lfc,List.flatMap_nil,lan,<- hST,hAB]
  rcases subF_pre t.nodes _ _ _ _ _ hsp with h1 | h1
  ·rw [List.mem_singleton.1 h1,effT_root]
  ·exfalso
   apply hD
   rw [hAB,List.flatMap_append]
   exact lmp.2 (Or.inl h1)
def effPr (t : Tr) (c : List Ch) (l : List Pr) (root g : Int) : Pr:=⟨g,effT t (fun x=>min (usedF t c x) (lookPr (·.least) l x)) root g,effT t (fun x=>min (usedF t c x) (lookPr (·.low) l x)) root g⟩
set_option maxHeartbeats 4000000 in
theorem pEff_ok {t : Tr} {c : List Ch} {l : List Pr} {root : Int} (h : TreeOk t) (hc : ChOk t.nodes c) (hp : PrOk t.nodes l) (hr : InN t.nodes root) (hl : l.length < 1000000) : V 67 [t.vv,ctrV c,.p (prsP l),.p (.int .i64 root)] [] = some (.tup [.fresh 3 ((msort (subT t root)).map fun g=>(effPr t c l root g).pv),.p (.int .i64 0)],[]):=by
 refine V_wp (vf:=vf67) rfl ?_
 have hlen:=h.len
 have hcl:=hc.length
 have hv:=kvalid_eq t c h.fits (by omega) (by omega)
 rw [(validK_iff t c).2 ⟨h,hc⟩] at hv
 have hpv:=prvalid_eq t l h.fits (by omega) hl
 rw [(validPr_iff t l).2 ⟨h,hp⟩] at hpv
 have hfi:=ffind_eq t root (by omega)
 have hfs : (findN t.nodes root).isSome = true:=by
  obtain ⟨i,n,hn,rfl⟩:=hr
  rw [findN_unique h.inc hn]; rfl
 rw [hfs] at hfi
 generalize (findN t.nodes root).getD zeroNd = nd at hfi
 have htt:=totals_eq t c h.fits (by omega) (by omega)
 have hTK : TotalsK t c = ((t.nodes.filter fun n=>decide (0 < tot t (ownC c) n.id)).map (totCh t c),0):=by
  rw [TotalsK,if_pos ((validK_iff t c).2 ⟨h,hc⟩)]
 rw [hTK] at htt
 simp only at htt
 have hlk:=lookC_totals h (ownC_nonneg hc.pos)
 have htinc : (((t.nodes.filter fun n=>decide (0 < tot t (ownC c) n.id)).map (totCh t c))).Pairwise fun a b=>a.group < b.group:=by
  rw [List.pairwise_map]
  exact h.inc.filter _
 have htl : ((t.nodes.filter fun n=>decide (0 < tot t (ownC c) n.id)).map (totCh t c)).length <= t.nodes.length:=by
  rw [llm]; exact List.length_filter_le _ _
 generalize (t.nodes.filter fun n=>decide (0 < tot t (ownC c) n.id)).map (totCh t c) = T at htt hlk htinc htl
 simp -implicitDefEqProofs (disch:=omega) only [vf67,vb67,hv,hpv,hfi,Nd.vv,htt,go_sem,↓reduceIte,rA,rS,rE,rL,reduceCtorEq]
 obtain ⟨I,hI⟩ : ∃ I : Nat -> St -> Prop,∀ k s,I k s ↔ ∃ (ks : List MKey) (vs : List PV),RepD ks vs (fun x=>(lookC (T.take k) x).getD 0) /\ s.pe 2 = .p (prsP l) /\ s.pe 3 = .p (.int .i64 root) /\ s.pe 4 = .ptr (.slot 4 0) 0 0 /\ s.pe 12 = .mref (.slot 41 0) 0 /\ s.pe 48 = .own (.slot 45 1) 0 0 T.length /\ s.pe 49 = .p (.int .i64 ↑T.length) /\ s.pe 50 = .p (.int .i64 k) /\ s.h (.slot 4 0) = some (0,Ob.box [.p (nodesP t.nodes),.p (.int .i64 t.next)]) /\ s.h (.slot 41 0) = some (0,Ob.map (KT.int IntKind.i64) ks vs) /\ s.h (.slot 45 1) = some (0,Ob.arr 2 (List.map Ch.pv T)):=⟨_,fun _ _=>Iff.rfl⟩
 refine wp_count (T.length) I ?_ ?_
 ·refine (hI _ _).2 ⟨[],[],?_,?_,?_,?_,?_,?_,?_,?_,?_,?_,?_⟩
  ·exact RepD.nil.congr fun x=>by simp [lookC]
  all_goals exact cl0
 intro k s hk hIk
 obtain ⟨ks,vs,hrep,h2,h3,h4,h12,h48,h49,h50,hh4_0,hh41_0,hh45_1⟩:=(hI _ _).1 hIk
 clear hIk
 simp -implicitDefEqProofs (disch:=omega) only [h2,h3,h4,h12,h48,h49,h50,hh4_0,hh41_0,hh45_1,go_sem,↓reduceIte,rA,rS,rE,rL,reduceCtorEq]
 refine wp_if_d (fun hlt=>?_) (fun hge=>?_)
 ·have hm : T[k]? = some T[k]:=lgg hlt
  have htk:=take_snoc hm
  have hlt' : ∀ d ∈ T.take k,d.group ≠ T[k].group:=by
   intro d hd
   obtain ⟨j,hj,rfl⟩:=List.mem_take_iff_getElem.1 hd
   have:=List.pairwise_iff_getElem.1 htinc j k (by omega) hlt (by omega)
   omega
  generalize T[k] = c at hm htk hlt'
  have hnew:=(hrep.put c.group c.own).congr (g:=fun x=>(lookC (T.take (k + 1)) x).getD 0) fun x=>by
   rw [htk,lookC_snoc c x _ hlt']
   by_cases hx : x = c.group
   .simp [hx]
   .simp [hx]
  simp -implicitDefEqProofs (disch:=omega) only [h2,h3,h4,h12,h48,h49,h50,hh4_0,hh41_0,hh45_1,hlt,hm,Ch.pv,go_sem,↓reduceIte,rA,rS,rE,rL,reduceCtorEq]
  try refine And.intro (by omega) ?_
  refine (hI _ _).2 ⟨(mput ks vs (.int c.group) (.int .i64 c.own)).1,(mput ks vs (.int c.group) (.int .i64 c.own)).2,?_,?_,?_,?_,?_,?_,?_,?_,?_,?_,?_⟩
  ·exact hnew
  all_goals exact cl0
 ·rw [ltl (by omega)] at hrep
  have hrep:=hrep.congr hlk
  have hnd : (l.map (·.group)).Nodup:=by
   have:=hp.inc
   rw [List.nodup_iff_pairwise_ne,List.pairwise_map]
   exact this.imp fun h=>by omega
  have hs1:=lea_settings_eq l hl hnd
  have hs2:=low_settings_eq l hl hnd
  have hu0 : ∀ x,0 <= usedF t c x:=fun x=>by
   unfold usedF
   split
   .exact tot_nonneg t (ownC_nonneg hc.pos) x
   .exact Int.le_refl _
  have hb1 : ∀ x,0 <= min (usedF t c x) (lookPr (·.least) l x) /\ min (usedF t c x) (lookPr (·.least) l x) <= 16777216:=fun x=>by
   have:=lookPr_bound (·.least) (l:=l) (fun y hy=>(hp.least y hy).1) x
   have:=hu0 x
   omega
  have hb2 : ∀ x,0 <= min (usedF t c x) (lookPr (·.low) l x) /\ min (usedF t c x) (lookPr (·.low) l x) <= 16777216:=fun x=>by
   have:=lookPr_bound (·.low) (l:=l) (fun y hy=>(hp.low y hy).1) x
   have:=hu0 x
   omega
  obtain ⟨ks1,vs1,he1,hr1⟩:=peff_eq h hr hrep (set_rep (·.least) l) hb1
  obtain ⟨ks2,vs2,he2,hr2⟩:=peff_eq h hr hrep (set_rep (·.low) l) hb2
  have hsu:=fsub_eq root h
  have hsl:=subT_len h root
  have hso:=sort_eq (subT t root) (by omega)
  have hml:=msort_length (subT t root)
  have hG1 : ∀ g ∈ msort (subT t root),(mget ks1 vs1 (.int g)).getD (.int .i64 0) = .int .i64 (effPr t c l root g).least:=fun g hg=>by
   rw [hr1 g,onlyF_sub h hr _ ((msort_perm _).mem_iff.1 hg)]
   rfl
  have hG2 : ∀ g ∈ msort (subT t root),(mget ks2 vs2 (.int g)).getD (.int .i64 0) = .int .i64 (effPr t c l root g).low:=fun g hg=>by
   rw [hr2 g,onlyF_sub h hr _ ((msort_perm _).mem_iff.1 hg)]
   rfl
  have hGg : ∀ g,(effPr t c l root g).group = g:=fun g=>rfl
  generalize effPr t c l root = E at hG1 hG2 hGg
  generalize hG : msort (subT t root) = G at hso hml hG1 hG2
  generalize subT t root = S at hsu hsl hso hml
  simp -implicitDefEqProofs (disch:=omega) only [h2,h3,h4,h12,h48,h49,h50,hh4_0,hh41_0,hh45_1,hge,hs1,hs2,he1,he2,hsu,hso,go_sem,↓reduceIte,rA,rS,rE,rL,reduceCtorEq]
  obtain ⟨J,hJ⟩ : ∃ I : Nat -> St -> Prop,∀ j s,I j s ↔ ∃ (v74_1 : Nat) (acc : List Pr) (ww : Nat),acc = (G.take j).map E /\ acc.length <= j /\ s.pe 17 = .p (PV.map (KT.int IntKind.i64) ks1 vs1) /\ s.pe 18 = .p (PV.map (KT.int IntKind.i64) ks2 vs2) /\ s.pe 20 = .own (.slot 20 0) ww 0 acc.length /\ s.pe 77 = .own (.slot 74 1) v74_1 0 S.length /\ s.pe 78 = .p (.int .i64 ↑S.length) /\ s.pe 79 = .p (.int .i64 j) /\ s.h (.slot 20 0) = some (ww,Ob.arr 3 (acc.map Pr.pv)) /\ s.h (.slot 74 1) = some (v74_1,Ob.arr 1 (List.map (.int .i64) G)):=⟨_,fun _ _=>Iff.rfl⟩
  refine wp_count (G.length) J ?_ ?_
  ·refine (hJ _ _).2 ⟨nv (s.h (.slot 74 1)),[],nv (s.h (.slot 20 0)),?_,?_,?_,?_,?_,?_,?_,?_,?_,?_⟩
   .exact by simp
   .exact by simp
   all_goals exact cl0
  intro j s hj hJk
  obtain ⟨v74_1,acc,ww,hacc,hal,h17,h18,h20,h77,h78,h79,hh20_0,hh74_1⟩:=(hJ _ _).1 hJk
  clear hJk
  simp -implicitDefEqProofs (disch:=omega) only [h17,h18,h20,h77,h78,h79,hh20_0,hh74_1,go_sem,↓reduceIte,rA,rS,rE,rL,reduceCtorEq]
  refine wp_if_d (fun hjl=>?_) (fun hjg=>?_)
  ·have hx : G[j]? = some G[j]:=lgg (by omega)
   have htk:=take_snoc hx
   generalize G[j] = g at hx htk
   have hgm:=lmg hx
   have h1:=hG1 g hgm
   have h2:=hG2 g hgm
   simp -implicitDefEqProofs (disch:=omega) only [h17,h18,h20,h77,h78,h79,hh20_0,hh74_1,hjl,hx,h1,h2,go_sem,↓reduceIte,rA,rS,rE,rL,reduceCtorEq]
   try refine And.intro (by omega) ?_
   refine (hJ _ _).2 ⟨v74_1,acc ++ [E g],ww + 1,?_,?_,?_,?_,?_,?_,?_,?_,?_,?_⟩
   .exact by rw [hacc,htk]; simp
   .exact by simp; omega
   all_goals exact cl0
  ·rw [ltl (by omega)] at hacc
   simp -implicitDefEqProofs (disch:=omega) only [h17,h18,h20,h77,h78,h79,hh20_0,hh74_1,hjg,go_sem,↓reduceIte,rA,rS,rE,rL,reduceCtorEq]
   rw [hacc,List.map_map]
   rfl
def checkS (t : Tr) (sw : Stk) (id : Int) : Int:=if validS t sw then (if (findN t.nodes id).isSome then 0 else 4) else 1
theorem scheck_eq (t : Tr) (sw : Stk) (id : Int) (hf : t.Fits) (hn : t.nodes.length < 1000000) (hl : sw.hs.length < 1000000) : V 65 [t.vv,sw.vv,.p (.int .i64 id)] [] = some (.p (.int .i64 (checkS t sw id)),[]):=by
 refine V_wp (vf:=vf65) rfl ?_
 have hv:=svalid_eq t sw hf hn hl
 have hfi:=ffind_eq t id hn
 unfold checkS
 cases hvv : validS t sw with
 | false =>
  rw [hvv] at hv
  simp -implicitDefEqProofs (disch:=omega) only [vf65,vb65,hv,go_sem,↓reduceIte,rA,rS,rE,rL,reduceCtorEq]
 | true =>
  rw [hvv] at hv
  generalize (findN t.nodes id).getD zeroNd = nd at hfi
  cases hfs : (findN t.nodes id).isSome with
  | false =>
   rw [hfs] at hfi
   simp -implicitDefEqProofs (disch:=omega) only [vf65,vb65,hv,hfi,Nd.vv,go_sem,↓reduceIte,rA,rS,rE,rL,reduceCtorEq]
  | true =>
   rw [hfs] at hfi
   simp -implicitDefEqProofs (disch:=omega) only [vf65,vb65,hv,hfi,Nd.vv,go_sem,↓reduceIte,rA,rS,rE,rL,reduceCtorEq]
def swT (t : Tr) (hs : List Hg) (id : Int) : Int:=sumI ((subT t id).map (swpF hs))
theorem sumI_bound {f : Int -> Int} {B : Int} (h : ∀ x,0 <= f x /\ f x <= B) : ∀ (l : List Int),0 <= sumI (l.map f) /\ sumI (l.map f) <= B * l.length
 | []=>by simp [sumI]
 | x :: l=>by
  have:=sumI_bound h l
  have:=h x
  simp only [lpc,sumI,llc,Int.natCast_add,Int.natCast_one,Int.mul_add,Int.mul_one]
  omega
set_option maxHeartbeats 1000000 in
theorem sswapped_eq {t : Tr} (h : TreeOk t) (sw : Stk) (id : Int) (hl : sw.hs.length < 1000000) (hb : ∀ x,inPg (swpF sw.hs x)) : V 84 [t.vv,sw.vv,.p (.int .i64 id)] [] = some (.p (.int .i64 (swT t sw.hs id)),[]):=by
 refine V_wp (vf:=vf84) rfl ?_
 have hs:=fsub_eq id h
 have hsl:=subT_len h id
 have hlen:=h.len
 unfold swT
 generalize subT t id = S at hs hsl
 simp -implicitDefEqProofs (disch:=omega) only [vf84,vb84,hs,go_sem,↓reduceIte,rA,rS,rE,rL,reduceCtorEq]
 obtain ⟨I,hI⟩ : ∃ I : Nat -> St -> Prop,∀ k s,I k s ↔ ∃ (q : Int),sumI (S.map (swpF sw.hs)) = q + sumI ((S.drop k).map (swpF sw.hs)) /\ 0 <= q /\ q <= 16777216 * k /\ s.pe 4 = .ptr (.slot 4 0) 0 0 /\ s.pe 7 = .p (.int .i64 q) /\ s.pe 12 = .own (.slot 12 1) 0 0 S.length /\ s.pe 13 = .p (.int .i64 ↑S.length) /\ s.pe 14 = .p (.int .i64 k) /\ s.h (.slot 4 0) = some (0,Ob.box [.p (hgsP sw.hs),.p (.int .i64 sw.size)]) /\ s.h (.slot 12 1) = some (0,Ob.arr 1 (List.map (.int .i64) S)):=⟨_,fun _ _=>Iff.rfl⟩
 refine wp_count (S.length) I ?_ ?_
 ·refine (hI _ _).2 ⟨0,?_,?_,?_,?_,?_,?_,?_,?_,?_,?_⟩
  .exact by simp
  .omega
  .omega
  all_goals exact cl0
 intro k s hk hIk
 obtain ⟨q,ho,q0,q1,h4,h7,h12,h13,h14,hh4_0,hh12_1⟩:=(hI _ _).1 hIk
 clear hIk
 simp -implicitDefEqProofs (disch:=omega) only [h4,h7,h12,h13,h14,hh4_0,hh12_1,go_sem,↓reduceIte,rA,rS,rE,rL,reduceCtorEq]
 refine wp_if_d (fun hlt=>?_) (fun hge=>?_)
 ·have hm : S[k]? = some S[k]:=lgg hlt
  have hd : S.drop k = S[k] :: S.drop (k + 1):=ldg hlt
  generalize S[k] = x at hm hd
  have hg:=sget_eq sw x hl
  obtain ⟨b1,b2⟩:=hb x
  rw [hd,lpc,sumI,<- Int.add_assoc] at ho
  unfold swpF at b1 b2
  simp -implicitDefEqProofs (disch:=omega) only [h4,h7,h12,h13,h14,hh4_0,hh12_1,hlt,hm,hg,go_sem,↓reduceIte,rA,rS,rE,rL,reduceCtorEq]
  try refine And.intro (by omega) ?_
  refine (hI _ _).2 ⟨q + (getS sw.hs x).swap,?_,?_,?_,?_,?_,?_,?_,?_,?_,?_⟩
  .exact ho
  .omega
  .exact by push_cast; omega
  all_goals exact cl0
 ·rw [ldl (by omega),lpn,sumI,Int.add_zero] at ho
  simp -implicitDefEqProofs (disch:=omega) only [h4,h7,h12,h13,h14,hh4_0,hh12_1,hge,ho,go_sem,↓reduceIte,rA,rS,rE,rL,reduceCtorEq]
theorem checkS_zero {t : Tr} {sw : Stk} {id : Int} : checkS t sw id = 0 ↔ StkOk t sw /\ ∃ (i : Nat) (n : Nd),t.nodes[i]? = some n /\ n.id = id:=by
 unfold checkS
 rw [<- validS_iff]
 constructor
 ·intro h
  split at h
  ·rename_i hv
   refine ⟨hv,?_⟩
   split at h
   ·rename_i hs
    cases hf : findN t.nodes id with
    | none=>rw [hf] at hs; simp at hs
    | some n =>
     unfold findN at hf
     obtain ⟨i,hi⟩:=lgm (List.mem_of_find?_eq_some hf)
     have:=List.find?_some hf
     exact ⟨i,n,hi,by simpa using this⟩
   .omega
  .omega
 ·rintro ⟨hv,i,n,hi,rfl⟩
  rw [if_pos hv,findN_unique ((validS_iff t sw).1 hv).tree.inc hi]
  rfl
def addH (a b : Hg) : Hg:=⟨a.group,a.file + b.file,a.anon + b.anon,a.swap + b.swap⟩
def RemS (t : Tr) (sw : Stk) (id : Int) : Stk × Int :=
  if checkS t sw id = 0 then
    (if id = 1 then (⟨[],0⟩,3) else if kidsN t.nodes id ≠ [] then (⟨[],0⟩,6)
     else (⟨putS (putS sw.hs (noH id)) (addH (getS sw.hs ((findN t.nodes id).getD zeroNd).parent) (getS sw.hs id)),sw.size⟩,0))
  else (⟨[],0⟩,checkS t sw id)
set_option maxHeartbeats 1000000 in
theorem sremove_eq (t : Tr) (sw : Stk) (id : Int) (hf : t.Fits) (hn : t.nodes.length < 1000000) (hl : sw.hs.length < 900000) : V 42 [t.vv,sw.vv,.p (.int .i64 id)] [] = some (.tup [Stk.fv (RemS t sw id).1,.p (.int .i64 (RemS t sw id).2)],[]):=by
 refine V_wp (vf:=vf42) rfl ?_
 have hc:=scheck_eq t sw id hf hn (by omega)
 unfold RemS
 by_cases h0 : checkS t sw id = 0
 ·obtain ⟨h1,i,n,hi,rfl⟩:=checkS_zero.1 h0
  have hT:=h1.tree
  have hfi:=ffind_eq t n.id hn
  have hfu:=findN_unique hT.inc hi
  rw [hfu] at hfi ⊢
  simp only [Option.getD_some,Option.isSome_some] at hfi ⊢
  rw [h0] at hc
  rw [if_pos h0]
  by_cases hr : n.id = 1
  ·rw [if_pos hr]
   rw [hr] at hc ⊢
   simp -implicitDefEqProofs (disch:=omega) only [vf42,vb42,hc,go_sem,↓reduceIte,rA,rS,rE,rL,reduceCtorEq]
   try rfl
  ·rw [if_neg hr]
   have hk:=fkids_eq t n.id hn
   by_cases hz : kidsN t.nodes n.id = []
   ·rw [if_neg (by simp [hz])]
    rw [hz] at hk
    have g1:=sget_eq sw n.id (by omega)
    have g2:=sget_eq sw n.parent (by omega)
    obtain ⟨⟨a1,a2⟩,⟨a3,a4⟩,a5,a6⟩:=h1.hs.get n.id
    obtain ⟨⟨b1,b2⟩,⟨b3,b4⟩,b5,b6⟩:=h1.hs.get n.parent
    have hw0:=sput_eq sw (noH n.id) (by omega)
    have hwl:=putS_length sw.hs (noH n.id)
    have hw1:=sput_eq ⟨putS sw.hs (noH n.id),sw.size⟩ (addH (getS sw.hs n.parent) (getS sw.hs n.id)) (by simp only; omega)
    simp only [noH,addH] at hw0 hw1 ⊢
    generalize getS sw.hs n.id = x at g1 a1 a2 a3 a4 a5 a6 hw1
    generalize getS sw.hs n.parent = y at g2 b1 b2 b3 b4 b5 b6 hw1
    generalize putS sw.hs ⟨n.id,0,0,0⟩ = G at hw0 hw1 hwl
    generalize putS G ⟨y.group,y.file + x.file,y.anon + x.anon,y.swap + x.swap⟩ = G2 at hw1
    simp -implicitDefEqProofs (disch:=omega) only [vf42,vb42,hc,hr,hk,hfi,Nd.vv,g1,g2,hw0,hw1,zero_lt_zero,go_sem,↓reduceIte,rA,rS,rE,rL,reduceCtorEq]
   ·rw [if_pos hz]
    have hz' : (0 : Int) < ((kidsN t.nodes n.id).length : Int):=by
     have:=List.length_pos_iff.2 hz
     omega
    generalize kidsN t.nodes n.id = ks at hk hz'
    simp -implicitDefEqProofs (disch:=omega) only [vf42,vb42,hc,hr,hk,hz',go_sem,↓reduceIte,rA,rS,rE,rL,reduceCtorEq]
    try rfl
 ·rw [if_neg h0]
  generalize checkS t sw id = e at hc h0
  simp -implicitDefEqProofs (disch:=omega) only [vf42,vb42,hc,h0,go_sem,↓reduceIte,rA,rS,rE,rL,reduceCtorEq]
  try rfl
def leftS (W : Int -> Int) (l : List Ch) : List Int -> Int -> Int
 | [],a=>a
 | g :: gs,a=>leftS W l gs (min a (mostK l g - W g))
def roomS (t : Tr) (hs : List Hg) (z : Int) (l : List Ch) (id : Int) : Int:=max 0 (leftS (swT t hs) l (ancF t.nodes t.nodes.length id) (z - swT t hs 1))
theorem leftS_le (W : Int -> Int) (l : List Ch) : ∀ (gs : List Int) (a : Int),leftS W l gs a <= a
 | [],a=>Int.le_refl _
 | g :: gs,a=>by
  have:=leftS_le W l gs (min a (mostK l g - W g))
  unfold leftS
  omega
theorem lookC_none_of {l : List Ch} {g : Int} (h : ∀ x ∈ l,x.group ≠ g) : lookC l g = none:=by
 induction l with
 | nil=>rfl
 | cons x l ih =>
  rw [lookC,if_neg (h x (by simp)),ih fun y hy=>h y (by simp [hy])]
structure LimOk (l : List Ch) : Prop where
 inc : l.Pairwise fun a b=>a.group < b.group
 bound : ∀ x ∈ l,0 <= x.own /\ x.own <= 4611686018427387904
theorem LimOk.nil : LimOk []:=⟨List.Pairwise.nil,by simp⟩
theorem LimOk.most {l : List Ch} (h : LimOk l) (g : Int) : 0 <= mostK l g /\ mostK l g <= 4611686018427387904:=by
 unfold mostK
 cases hl : lookC l g with
 | none=>simp
 | some v =>
  obtain ⟨c,hc,_,rfl⟩:=lookC_mem hl
  exact h.bound c hc
set_option maxHeartbeats 4000000 in
theorem sroom_eq {t : Tr} (h : TreeOk t) (sw : Stk) (l : List Ch) (id : Int) (hs : sw.hs.length < 1000000) (hb : ∀ x,inPg (swpF sw.hs x)) (hz : inPg sw.size) (hl : LimOk l) (hll : l.length < 1000000) : V 88 [t.vv,sw.vv,.p (chsP l),.p (.int .i64 id)] [] = some (.p (.int .i64 (roomS t sw.hs sw.size l id)),[]):=by
 refine V_wp (vf:=vf88) rfl ?_
 have hlen:=h.len
 have han:=fanc_eq t id (by omega)
 have hal:=ancF_length t.nodes t.nodes.length id
 have hsw : ∀ g,V 84 [t.vv,sw.vv,.p (.int .i64 g)] [] = some (.p (.int .i64 (swT t sw.hs g)),[]):=fun g=>sswapped_eq h sw g hs hb
 have hWb : ∀ g,0 <= swT t sw.hs g /\ swT t sw.hs g <= 16777216 * 64:=fun g=>by
  have h1:=sumI_bound (f:=swpF sw.hs) (B:=16777216) hb (subT t g)
  have h2:=subT_len h g
  unfold swT
  omega
 have hmb:=hl.most
 unfold roomS
 obtain ⟨z0,z1⟩:=hz
 generalize swT t sw.hs = W at hsw hWb
 have h1:=hWb 1
 generalize ancF t.nodes t.nodes.length id = A at han hal
 simp -implicitDefEqProofs (disch:=omega) only [vf88,vb88,hsw 1,han,go_sem,↓reduceIte,rA,rS,rE,rL,reduceCtorEq]
 obtain ⟨I,hI⟩ : ∃ I : Nat -> St -> Prop,∀ k s,I k s ↔ ∃ (a : Int),leftS W l A (sw.size - W 1) = leftS W l (A.drop k) a /\ -16777216 * 64 <= a /\ a <= 16777216 /\ s.pe 2 = .p (chsP l) /\ s.pe 4 = .ptr (.slot 4 0) 0 0 /\ s.pe 5 = .ptr (.slot 5 0) 0 0 /\ s.pe 9 = .p (.int .i64 a) /\ s.pe 22 = .own (.slot 22 1) 0 0 A.length /\ s.pe 23 = .p (.int .i64 ↑A.length) /\ s.pe 24 = .p (.int .i64 k) /\ s.h (.slot 4 0) = some (0,Ob.box [.p (nodesP t.nodes),.p (.int .i64 t.next)]) /\ s.h (.slot 5 0) = some (0,Ob.box [.p (hgsP sw.hs),.p (.int .i64 sw.size)]) /\ s.h (.slot 22 1) = some (0,Ob.arr 1 (List.map (.int .i64) A)):=⟨_,fun _ _=>Iff.rfl⟩
 refine wp_count (A.length) I ?_ ?_
 ·refine (hI _ _).2 ⟨sw.size - W 1,?_,?_,?_,?_,?_,?_,?_,?_,?_,?_,?_,?_,?_⟩
  ·rfl
  ·omega
  ·omega
  all_goals exact cl0
 intro k s hk hIk
 obtain ⟨a,ha,a0,a1,h2,h4,h5,h9,h22,h23,h24,hh4_0,hh5_0,hh22_1⟩:=(hI _ _).1 hIk
 clear hIk
 simp -implicitDefEqProofs (disch:=omega) only [h2,h4,h5,h9,h22,h23,h24,hh4_0,hh5_0,hh22_1,go_sem,↓reduceIte,rA,rS,rE,rL,reduceCtorEq]
 refine wp_if_d (fun hlt=>?_) (fun hge=>?_)
 ·have hm : A[k]? = some A[k]:=lgg hlt
  have hdr : A.drop k = A[k] :: A.drop (k + 1):=ldg hlt
  generalize A[k] = g at hm hdr
  have hg:=hWb g
  have hmg:=hmb g
  rw [hdr,leftS] at ha
  simp -implicitDefEqProofs (disch:=omega) only [h2,h4,h5,h9,h22,h23,h24,hh4_0,hh5_0,hh22_1,hlt,hm,go_sem,↓reduceIte,rA,rS,rE,rL,reduceCtorEq]
  obtain ⟨J,hJ⟩ : ∃ I : Nat -> St -> Prop,∀ j s,I j s ↔ ∃ (b : Int),min a (mostK l g - W g) = min b ((lookC (l.drop j) g).getD 4611686018427387904 - W g) /\ -16777216 * 64 <= b /\ b <= 16777216 /\ s.pe 2 = .p (chsP l) /\ s.pe 4 = .ptr (.slot 4 0) 0 0 /\ s.pe 5 = .ptr (.slot 5 0) 0 0 /\ s.pe 9 = .p (.int .i64 b) /\ s.pe 11 = .p (.int .i64 g) /\ s.pe 22 = .own (.slot 22 1) 0 0 A.length /\ s.pe 23 = .p (.int .i64 ↑A.length) /\ s.pe 24 = .p (.int .i64 k) /\ s.pe 28 = .p (chsP l) /\ s.pe 29 = .p (.int .i64 l.length) /\ s.pe 30 = .p (.int .i64 j) /\ s.h (.slot 4 0) = some (0,Ob.box [.p (nodesP t.nodes),.p (.int .i64 t.next)]) /\ s.h (.slot 5 0) = some (0,Ob.box [.p (hgsP sw.hs),.p (.int .i64 sw.size)]) /\ s.h (.slot 22 1) = some (0,Ob.arr 1 (List.map (.int .i64) A)):=⟨_,fun _ _=>Iff.rfl⟩
  refine wp_count (l.length) J ?_ ?_
  ·refine (hJ _ _).2 ⟨a,?_,?_,?_,?_,?_,?_,?_,?_,?_,?_,?_,?_,?_,?_,?_,?_,?_⟩
   ·rfl
   ·omega
   ·omega
   all_goals exact cl0
  intro j s hj hJk
  obtain ⟨b,hb',b0,b1,h2,h4,h5,h9,h11,h22,h23,h24,h28,h29,h30,hh4_0,hh5_0,hh22_1⟩:=(hJ _ _).1 hJk
  clear hJk
  simp -implicitDefEqProofs (disch:=omega) only [h2,h4,h5,h9,h11,h22,h23,h24,h28,h29,h30,hh4_0,hh5_0,hh22_1,go_sem,↓reduceIte,rA,rS,rE,rL,reduceCtorEq]
  refine wp_if_d (fun hjl=>?_) (fun hjg=>?_)
  ·have hx : l[j]? = some l[j]:=lgg hjl
   have hdl : l.drop j = l[j] :: l.drop (j + 1):=ldg hjl
   have hinc:=hl.inc
   have hxb:=hl.bound l[j] (lgk _)
   have hrest : ∀ y ∈ l.drop (j + 1),y.group ≠ l[j].group:=by
    intro y hy
    rw [<- List.take_append_drop j l,hdl] at hinc
    have:=(lpw.1 (List.pairwise_append.1 hinc).2.1).1 y hy
    omega
   generalize l[j] = x at hx hdl hrest hxb
   rw [hdl,lookC] at hb'
   by_cases hxg : x.group = g
   ·rw [if_pos hxg] at hb'
    rw [hxg] at hrest
    have hn:=lookC_none_of hrest
    have hnew : min a (mostK l g - W g) = min (min b (x.own - W g)) ((lookC (l.drop (j + 1)) g).getD 4611686018427387904 - W g):=by
     rw [hb',hn]
     simp only [Option.getD_some,Option.getD_none]
     omega
    have hsg:=hsw g
    simp -implicitDefEqProofs (disch:=omega) only [h2,h4,h5,h9,h11,h22,h23,h24,h28,h29,h30,hh4_0,hh5_0,hh22_1,hjl,hx,hxg,hsg,Ch.pv,go_sem,↓reduceIte,rA,rS,rE,rL,reduceCtorEq]
    try refine And.intro (by omega) ?_
    refine (hJ _ _).2 ⟨min b (x.own - W g),?_,?_,?_,?_,?_,?_,?_,?_,?_,?_,?_,?_,?_,?_,?_,?_,?_⟩
    .exact hnew
    .omega
    .omega
    all_goals exact cl0
   ·rw [if_neg hxg] at hb'
    simp -implicitDefEqProofs (disch:=omega) only [h2,h4,h5,h9,h11,h22,h23,h24,h28,h29,h30,hh4_0,hh5_0,hh22_1,hjl,hx,hxg,Ch.pv,go_sem,↓reduceIte,rA,rS,rE,rL,reduceCtorEq]
    try refine And.intro (by omega) ?_
    refine (hJ _ _).2 ⟨b,?_,?_,?_,?_,?_,?_,?_,?_,?_,?_,?_,?_,?_,?_,?_,?_,?_⟩
    .exact hb'
    .exact b0
    .exact b1
    all_goals exact cl0
  ·have hjz : l.drop j = []:=ldl (by omega)
   rw [hjz] at hb'
   have he : min a (mostK l g - W g) = b:=by
    rw [hb']
    simp only [lookC,Option.getD_none]
    omega
   rw [he] at ha
   simp -implicitDefEqProofs (disch:=omega) only [h2,h4,h5,h9,h11,h22,h23,h24,h28,h29,h30,hh4_0,hh5_0,hh22_1,hjg,go_sem,↓reduceIte,rA,rS,rE,rL,reduceCtorEq]
   try refine And.intro (by omega) ?_
   refine (hI _ _).2 ⟨b,?_,?_,?_,?_,?_,?_,?_,?_,?_,?_,?_,?_,?_⟩
   .exact ha
   .exact b0
   .exact b1
   all_goals exact cl0
 ·rw [ldl (by omega),leftS] at ha
  simp -implicitDefEqProofs (disch:=omega) only [h2,h4,h5,h9,h22,h23,h24,hh4_0,hh5_0,hh22_1,hge,go_sem,↓reduceIte,rA,rS,rE,rL,reduceCtorEq]
  rw [ha]
  try rfl
theorem validLK_iff (t : Tr) (l : List Ch) : validLK t l = true ↔ TreeOk t /\ AscOk (knownN t.nodes) 0 4611686018427387904 l:=by
 rw [validLK,bat,treeOk_iff,ascOk_iff]
theorem LimOk.of {kn : Int -> Bool} {l : List Ch} (h : AscOk kn 0 4611686018427387904 l) : LimOk l:=⟨h.inc,h.range⟩
def RoomS (t : Tr) (sw : Stk) (l : List Ch) (id : Int) : Int × Int:=if validS t sw && validLK t l then (if (findN t.nodes id).isSome then (roomS t sw.hs sw.size l id,0) else (0,4)) else (0,1)
theorem StkOk.swp {t : Tr} {sw : Stk} (h : StkOk t sw) (x : Int) : inPg (swpF sw.hs x):=(h.hs.get x).2.2
set_option maxHeartbeats 2000000 in
theorem sRoom_eq (t : Tr) (sw : Stk) (l : List Ch) (id : Int) (hf : t.Fits) (hn : t.nodes.length < 1000000) (hl : sw.hs.length < 1000000) (hll : l.length < 1000000) : V 39 [t.vv,sw.vv,.p (chsP l),.p (.int .i64 id)] [] = some (.tup [.p (.int .i64 (RoomS t sw l id).1),.p (.int .i64 (RoomS t sw l id).2)],[]):=by
 refine V_wp (vf:=vf39) rfl ?_
 have hv:=svalid_eq t sw hf hn hl
 have hlv:=klimits_eq t l hf hn hll
 have hck:=scheck_eq t sw id hf hn hl
 unfold RoomS
 unfold checkS at hck
 have e4 : decide ((4 : Int) = 0) = false:=rfl
 have e1 : decide ((1 : Int) = 0) = false:=rfl
 by_cases h1 : validS t sw = true
 ·by_cases h2 : validLK t l = true
  ·have hS:=(validS_iff t sw).1 h1
   have hL:=LimOk.of ((validLK_iff t l).1 h2).2
   have hr:=sroom_eq hS.tree sw l id hl hS.swp ⟨hS.z0,hS.z1⟩ hL hll
   rw [h1] at hv hck ⊢
   rw [h2] at hlv ⊢
   by_cases h3 : (findN t.nodes id).isSome = true
   ·rw [h3] at hck ⊢
    simp -implicitDefEqProofs (disch:=omega) only [vf39,vb39,hv,hlv,hck,hr,go_sem,↓reduceIte,rA,rS,rE,rL,reduceCtorEq]
   ·have h3' : (findN t.nodes id).isSome = false:=by simpa using h3
    rw [h3'] at hck ⊢
    simp -implicitDefEqProofs (disch:=omega) only [vf39,vb39,hv,hlv,hck,e4,go_sem,↓reduceIte,rA,rS,rE,rL,reduceCtorEq]
  ·have h2' : validLK t l = false:=by simpa using h2
   rw [h1] at hv ⊢
   rw [h2'] at hlv ⊢
   simp -implicitDefEqProofs (disch:=omega) only [vf39,vb39,hv,hlv,go_sem,↓reduceIte,rA,rS,rE,rL,reduceCtorEq]
 ·have h1' : validS t sw = false:=by simpa using h1
  rw [h1'] at hv ⊢
  simp -implicitDefEqProofs (disch:=omega) only [vf39,vb39,hv,go_sem,↓reduceIte,rA,rS,rE,rL,reduceCtorEq]
def hgE (ns : List Nd) : Option Int -> List Hg -> Bool
 | _,[]=>true
 | p,h :: l=>(findN ns h.group).isSome && prevOk p h.group && (pagesB h.file && pagesB h.anon && pagesB h.swap) && decide (h.file + h.anon + h.swap ≠ 0) && hgE ns (some h.group) l
theorem hgE_sum {ns : List Nd} : ∀ {l : List Hg} {p : Option Int},hgE ns p l = true -> 0 <= sumI (l.map fun h=>h.file + h.anon) /\ 0 <= sumI (l.map (·.swap))
 | [],_,_=>by simp [sumI]
 | h :: l,p,he=>by
  simp only [hgE,bat] at he
  obtain ⟨⟨⟨_,⟨h1,h2⟩,h3⟩,_⟩,h4⟩:=he
  have:=hgE_sum h4
  have:=pagesB_true h1
  have:=pagesB_true h2
  have:=pagesB_true h3
  simp only [lpc,sumI]
  omega
theorem hgOk_split (ns : List Nd) (z : Int) : ∀ (l : List Hg) (p : Option Int) (m s : Int),m <= 16777216 -> s <= z -> hgOk ns z p m s l = (hgE ns p l && (decide (m + sumI (l.map fun h=>h.file + h.anon) <= 16777216) && decide (s + sumI (l.map (·.swap)) <= z)))
 | [], p, m, s, hm, hs=>by simp [hgOk, hgE, sumI, hm, hs]
 | h :: l,p,m,s,hm,hs=>by
  rw [hgOk_cons,hgE,show (decide (0 <= h.file) && decide (h.file <= 16777216)) = pagesB h.file from rfl,show (decide (0 <= h.anon) && decide (h.anon <= 16777216)) = pagesB h.anon from rfl,show (decide (0 <= h.swap) && decide (h.swap <= 16777216)) = pagesB h.swap from rfl]
  by_cases hE : ((findN ns h.group).isSome && prevOk p h.group && (pagesB h.file && pagesB h.anon && pagesB h.swap) && decide (h.file + h.anon + h.swap ≠ 0)) = true
  ·have hE' : ((findN ns h.group).isSome && prevOk p h.group && pagesB h.file && pagesB h.anon && pagesB h.swap && decide (h.file + h.anon + h.swap ≠ 0)) = true:=by
    rw [<- hE]
    simp only [Bool.and_assoc]
   rw [hE,hE',bta,bta]
   simp only [lpc,sumI]
   by_cases d1 : m + (h.file + h.anon) <= 16777216
   ·by_cases d2 : s + h.swap <= z
    ·rw [hgOk_split ns z l _ _ _ d1 d2,decide_eq_true d1,decide_eq_true d2,bta,bta,Int.add_assoc m (h.file + h.anon),Int.add_assoc s h.swap]
    ·rw [decide_eq_false d2,Bool.and_false,bfa]
     symm
     cases he : hgE ns (some h.group) l with
     | false=>rfl
     | true =>
      have:=hgE_sum he
      rw [decide_eq_false (show ¬ s + (h.swap + sumI (l.map (·.swap))) <= z by omega),Bool.and_false,Bool.and_false]
   ·rw [decide_eq_false d1,bfa,bfa]
    symm
    cases he : hgE ns (some h.group) l with
    | false=>rfl
    | true =>
     have:=hgE_sum he
     rw [decide_eq_false (show ¬ m + (h.file + h.anon + sumI (l.map fun h=>h.file + h.anon)) <= 16777216 by omega),bfa,Bool.and_false]
  ·have hE' : ¬ ((findN ns h.group).isSome && prevOk p h.group && pagesB h.file && pagesB h.anon && pagesB h.swap && decide (h.file + h.anon + h.swap ≠ 0)) = true:=by
    intro h'
    apply hE
    rw [<- h']
    simp only [Bool.and_assoc]
   simp only [Bool.not_eq_true] at hE hE'
   rw [hE,hE']
   simp only [bfa]
theorem validS_split (t : Tr) (sw : Stk) : validS t sw = (treeOk t && (pagesB sw.size && (hgE t.nodes none sw.hs && (decide (sumI (sw.hs.map fun h=>h.file + h.anon) <= 16777216) && decide (sumI (sw.hs.map (·.swap)) <= sw.size))))):=by
 unfold validS
 rw [show (decide (0 <= sw.size) && decide (sw.size <= 16777216)) = pagesB sw.size from rfl,Bool.and_assoc]
 cases hp : pagesB sw.size with
 | false=>simp only [bfa]
 | true =>
  rw [hgOk_split _ _ _ _ _ _ (by omega) (pagesB_true hp).1]
  simp only [Int.zero_add]
abbrev pagesH (h : Hg) : Bool:=pagesB h.file && pagesB h.anon && pagesB h.swap
theorem rpages_eq (h : Hg) : V 81 [h.vv] [] = some (.p (.bool (pagesH h)),[]):=by
 refine V_wp (vf:=vf81) rfl ?_
 unfold pagesH
 simp only [pagesB]
 by_cases x0 : 0 <= h.file
 ·by_cases x1 : h.file <= 16777216
  ·by_cases x2 : 0 <= h.anon
   ·by_cases x3 : h.anon <= 16777216
    ·by_cases x4 : 0 <= h.swap
     ·by_cases x5 : h.swap <= 16777216
      .simp -implicitDefEqProofs (disch:=omega) only [vf81,vb81,x0,x1,x2,x3,x4,x5,decide_true,bas,ge_iff_le,go_sem,↓reduceIte,rA,rS,rE,rL,reduceCtorEq]
      .simp -implicitDefEqProofs (disch:=omega) only [vf81,vb81,x0,x1,x2,x3,x4,x5,decide_true,decide_false,bas,Bool.and_false,bfa,bta,ge_iff_le,go_sem,↓reduceIte,rA,rS,rE,rL,reduceCtorEq]
     .simp -implicitDefEqProofs (disch:=omega) only [vf81,vb81,x0,x1,x2,x3,x4,decide_true,decide_false,bas,Bool.and_false,bfa,bta,ge_iff_le,go_sem,↓reduceIte,rA,rS,rE,rL,reduceCtorEq]
    .simp -implicitDefEqProofs (disch:=omega) only [vf81,vb81,x0,x1,x2,x3,decide_true,decide_false,bas,Bool.and_false,bfa,bta,ge_iff_le,go_sem,↓reduceIte,rA,rS,rE,rL,reduceCtorEq]
   .simp -implicitDefEqProofs (disch:=omega) only [vf81,vb81,x0,x1,x2,decide_true,decide_false,bas,Bool.and_false,bfa,bta,ge_iff_le,go_sem,↓reduceIte,rA,rS,rE,rL,reduceCtorEq]
  .simp -implicitDefEqProofs (disch:=omega) only [vf81,vb81,x0,x1,decide_true,decide_false,bas,Bool.and_false,bfa,bta,ge_iff_le,go_sem,↓reduceIte,rA,rS,rE,rL,reduceCtorEq]
 .simp -implicitDefEqProofs (disch:=omega) only [vf81,vb81,x0,decide_true,decide_false,bas,Bool.and_false,bfa,bta,ge_iff_le,go_sem,↓reduceIte,rA,rS,rE,rL,reduceCtorEq]
theorem rget_eq (sw : Stk) (id : Int) (hl : sw.hs.length < 1000000) : V 37 [sw.vv,.p (.int .i64 id)] [] = some ((getS sw.hs id).vv,[]):=by
 refine V_wp (vf:=vf37) rfl ?_
 simp -implicitDefEqProofs (disch:=omega) only [vf37,vb37,go_sem,↓reduceIte,rA,rS,rE,rL,reduceCtorEq]
 obtain ⟨I,hI⟩ : ∃ I : Nat -> St -> Prop,∀ k s,I k s ↔ getS sw.hs id = getS (sw.hs.drop k) id /\ s.pe 1 = .p (.int .i64 id) /\ s.pe 2 = .ptr (.slot 2 0) 0 0 /\ s.pe 4 = .ptr (.slot 4 0) 0 0 /\ s.pe 5 = .p (.int .i64 k) /\ s.h (.slot 2 0) = some (0,Ob.box [.p (hgsP sw.hs),.p (.int .i64 sw.size)]) /\ s.h (.slot 4 0) = some (0,Ob.box [.p (.int .i64 0),.p (.int .i64 0),.p (.int .i64 0),.p (.int .i64 0)]):=⟨_,fun _ _=>Iff.rfl⟩
 refine wp_count (sw.hs.length) I ?_ ?_
 ·refine (hI _ _).2 ⟨?_,?_,?_,?_,?_,?_,?_⟩
  ·rfl
  all_goals exact cl0
 intro k s hk hIk
 obtain ⟨ho,h1,h2,h4,h5,hh2_0,hh4_0⟩:=(hI _ _).1 hIk
 clear hIk
 simp -implicitDefEqProofs (disch:=omega) only [h1,h2,h4,h5,hh2_0,hh4_0,go_sem,↓reduceIte,rA,rS,rE,rL,reduceCtorEq]
 refine wp_if_d (fun hlt=>?_) (fun hge=>?_)
 ·have hm : sw.hs[k]? = some sw.hs[k]:=lgg hlt
  have hd : sw.hs.drop k = sw.hs[k] :: sw.hs.drop (k + 1):=ldg hlt
  generalize sw.hs[k] = c at hm hd
  rw [hd,getS] at ho
  by_cases he : c.group = id
  ·subst he
   rw [if_pos rfl] at ho
   simp -implicitDefEqProofs (disch:=omega) only [h1,h2,h4,h5,hh2_0,hh4_0,hlt,hm,ho,go_sem,↓reduceIte,rA,rS,rE,rL,reduceCtorEq]
  ·rw [if_neg he] at ho
   simp -implicitDefEqProofs (disch:=omega) only [h1,h2,h4,h5,hh2_0,hh4_0,hlt,hm,he,go_sem,↓reduceIte,rA,rS,rE,rL,reduceCtorEq]
   try refine And.intro (by omega) ?_
   refine (hI _ _).2 ⟨?_,?_,?_,?_,?_,?_,?_⟩
   .exact ho
   all_goals exact cl0
 ·rw [ldl (by omega),getS] at ho
  simp -implicitDefEqProofs (disch:=omega) only [h1,h2,h4,h5,hh2_0,hh4_0,hge,ho,go_sem,↓reduceIte,rA,rS,rE,rL,reduceCtorEq]
set_option maxHeartbeats 1000000 in
theorem rreplace_eq (sw : Stk) (h : Hg) (hl : sw.hs.length < 1000000) : V 82 [sw.vv,h.vv] [] = some (Stk.fv ⟨putS sw.hs h,sw.size⟩,[]):=by
 refine V_wp (vf:=vf82) rfl ?_
 have hps : putS sw.hs h = putGo h (zeroH h) sw.hs:=rfl
 generalize putS sw.hs h = R at hps
 rcases Classical.propComplete (h.file = 0) with y1 | y1 <;> rcases Classical.propComplete (h.anon = 0) with y2 | y2 <;> rcases Classical.propComplete (h.swap = 0) with y3 | y3
 all_goals
  have hz : zeroH h = (decide (h.file = 0) && decide (h.anon = 0) && decide (h.swap = 0)):=rfl
  simp only [y1,y2,y3,decide_true,decide_false,bau,Bool.and_false] at hz
  simp -implicitDefEqProofs (disch:=omega) only [vf82,vb82,y1,y2,y3,go_sem,↓reduceIte,rA,rS,rE,rL,reduceCtorEq]
  obtain ⟨I,hI⟩ : ∃ I : Nat -> St -> Prop,∀ k s,I k s ↔ ∃ (acc : List Hg) (d : Bool) (w : Nat),R = acc ++ putGo h d (sw.hs.drop k) /\ acc.length <= 2 * k /\ s.pe 2 = .ptr (.slot 2 0) 0 0 /\ s.pe 3 = .ptr (.slot 3 0) 0 0 /\ s.pe 4 = .ptr (.slot 4 0) 0 0 /\ s.pe 5 = .own (.slot 5 0) w 0 acc.length /\ s.pe 6 = .p (.bool d) /\ s.pe 7 = .p (.int .i64 k) /\ s.h (.slot 2 0) = some (0,Ob.box [.p (hgsP sw.hs),.p (.int .i64 sw.size)]) /\ s.h (.slot 3 0) = some (0,Ob.box [.p (.int .i64 h.group),.p (.int .i64 h.file),.p (.int .i64 h.anon),.p (.int .i64 h.swap)]) /\ s.h (.slot 4 0) = some (0,Ob.box [.own (.slot 4 1) 0 0 0,.p (.int .i64 0)]) /\ s.h (.slot 4 1) = some (0,Ob.arr 4 []) /\ s.h (.slot 5 0) = some (w,Ob.arr 4 (acc.map Hg.pv)):=⟨_,fun _ _=>Iff.rfl⟩
  refine wp_count (sw.hs.length) I ?_ ?_
  ·refine (hI _ _).2 ⟨[],zeroH h,0,?_,?_,?_,?_,?_,?_,?_,?_,?_,?_,?_,?_,?_⟩
   ·exact by rw [hps]; simp
   ·exact lrf _
   all_goals exact cl0
  intro k s hk hIk
  obtain ⟨acc,d,w,hw,hal,h2,h3,h4,h5,h6,h7,hh2_0,hh3_0,hh4_0,hh4_1,hh5_0⟩:=(hI _ _).1 hIk
  clear hIk
  simp -implicitDefEqProofs (disch:=omega) only [h2,h3,h4,h5,h6,h7,hh2_0,hh3_0,hh4_0,hh4_1,hh5_0,go_sem,↓reduceIte,rA,rS,rE,rL,reduceCtorEq]
  refine wp_if_d (fun hlt=>?_) (fun hge=>?_)
  ·have hm : sw.hs[k]? = some sw.hs[k]:=lgg hlt
   have hd : sw.hs.drop k = sw.hs[k] :: sw.hs.drop (k + 1):=ldg hlt
   generalize sw.hs[k] = c at hm hd
   rw [hd,putGo] at hw
   cases d with
   | true =>
    by_cases he : c.group = h.group
    ·simp only [he,Bool.not_true,bfa,bft,if_false,if_true,lna,lan,Bool.true_or] at hw
     simp -implicitDefEqProofs (disch:=omega) only [h2,h3,h4,h5,h6,h7,hh2_0,hh3_0,hh4_0,hh4_1,hh5_0,hlt,hm,he,go_sem,↓reduceIte,rA,rS,rE,rL,reduceCtorEq]
     try refine And.intro (by omega) ?_
     refine (hI _ _).2 ⟨acc,true,w,?_,?_,?_,?_,?_,?_,?_,?_,?_,?_,?_,?_,?_⟩
     ·exact hw
     ·omega
     all_goals exact cl0
    ·simp only [he,Bool.not_true,bfa,bft,if_false,lna,Bool.true_or,<- laa] at hw
     simp -implicitDefEqProofs (disch:=omega) only [h2,h3,h4,h5,h6,h7,hh2_0,hh3_0,hh4_0,hh4_1,hh5_0,hlt,hm,he,go_sem,↓reduceIte,rA,rS,rE,rL,reduceCtorEq]
     try refine And.intro (by omega) ?_
     refine (hI _ _).2 ⟨acc ++ [c],true,w + 1,?_,?_,?_,?_,?_,?_,?_,?_,?_,?_,?_,?_,?_⟩
     ·exact hw
     ·exact by simp; omega
     all_goals exact cl0
   | false =>
    by_cases hge : h.group <= c.group
    ·by_cases he : c.group = h.group
     ·simp only [he,Int.le_refl,decide_true,bnf,bas,if_true,lan,Bool.or_true,<- laa] at hw
      simp -implicitDefEqProofs (disch:=omega) only [h2,h3,h4,h5,h6,h7,hh2_0,hh3_0,hh4_0,hh4_1,hh5_0,hlt,hm,hge,he,Int.le_refl,decide_true,go_sem,↓reduceIte,rA,rS,rE,rL,reduceCtorEq]
      try refine And.intro (by omega) ?_
      refine (hI _ _).2 ⟨acc ++ [h],true,w + 1,?_,?_,?_,?_,?_,?_,?_,?_,?_,?_,?_,?_,?_⟩
      .exact hw
      .exact by simp; omega
      all_goals exact cl0
     ·simp only [he,hge,decide_true,bnf,bas,if_true,if_false,Bool.or_true,<- laa] at hw
      simp -implicitDefEqProofs (disch:=omega) only [h2,h3,h4,h5,h6,h7,hh2_0,hh3_0,hh4_0,hh4_1,hh5_0,hlt,hm,hge,he,go_sem,↓reduceIte,rA,rS,rE,rL,reduceCtorEq]
      try refine And.intro (by omega) ?_
      refine (hI _ _).2 ⟨acc ++ [h] ++ [c],true,w + 1 + 1,?_,?_,?_,?_,?_,?_,?_,?_,?_,?_,?_,?_,?_⟩
      .exact hw
      .exact by simp; omega
      all_goals exact cl0
    ·have he : ¬ c.group = h.group:=by omega
     simp only [he,hge,decide_false,bnf,Bool.and_false,bft,if_false,lna,Bool.or_false,<- laa] at hw
     simp -implicitDefEqProofs (disch:=omega) only [h2,h3,h4,h5,h6,h7,hh2_0,hh3_0,hh4_0,hh4_1,hh5_0,hlt,hm,hge,he,go_sem,↓reduceIte,rA,rS,rE,rL,reduceCtorEq]
     try refine And.intro (by omega) ?_
     refine (hI _ _).2 ⟨acc ++ [c],false,w + 1,?_,?_,?_,?_,?_,?_,?_,?_,?_,?_,?_,?_,?_⟩
     .exact hw
     .exact by simp; omega
     all_goals exact cl0
  ·rw [ldl (by omega),putGo] at hw
   cases d with
   | true =>
    simp only [if_true,lan] at hw
    simp -implicitDefEqProofs (disch:=omega) only [h2,h3,h4,h5,h6,h7,hh2_0,hh3_0,hh4_0,hh4_1,hh5_0,hge,go_sem,↓reduceIte,rA,rS,rE,rL,reduceCtorEq]
    rw [hw]
   | false =>
    simp only [bft,if_false] at hw
    simp -implicitDefEqProofs (disch:=omega) only [h2,h3,h4,h5,h6,h7,hh2_0,hh3_0,hh4_0,hh4_1,hh5_0,hge,go_sem,↓reduceIte,rA,rS,rE,rL,reduceCtorEq]
    rw [hw]
    simp [Hg.pv]
theorem rsvalid_eq (t : Tr) (sw : Stk) (hn : t.nodes.length < 1000000) (hl : sw.hs.length < 1000000) : V 32 [t.vv,sw.vv] [] = some (.p (.bool (validS t sw)),[]):=by
 refine V_wp (vf:=vf32) rfl ?_
 have hc := rcheck_eq t hn
 rw [validS_split]
 by_cases ht : treeOk t = true
 ·rw [ht] at hc ⊢
  rw [Bool.true_and]
  by_cases s0 : sw.size < 0
  ·have hp : pagesB sw.size = false:=by simp [pagesB]; omega
   rw [hp, bfa]
   simp -implicitDefEqProofs (disch:=omega) only [vf32,vb32,hc,s0,go_sem,↓reduceIte,rA,rS,rE,rL,reduceCtorEq]
  ·by_cases s1 : 16777216 < sw.size
   ·have hp : pagesB sw.size = false:=by simp [pagesB]; omega
    rw [hp,bfa]
    simp -implicitDefEqProofs (disch:=omega) only [vf32,vb32,hc,s0,s1,go_sem,↓reduceIte,rA,rS,rE,rL,reduceCtorEq]
   ·have hp : pagesB sw.size = true:=by simp [pagesB]; omega
    rw [hp,bta]
    simp -implicitDefEqProofs (disch:=omega) only [vf32,vb32,hc,s0,s1,go_sem,↓reduceIte,rA,rS,rE,rL,reduceCtorEq]
    obtain ⟨I,hI⟩ : ∃ I : Nat -> St -> Prop,∀ k s,I k s ↔ ∃ (p : Option Int) (m : Int) (q : Int),hgE t.nodes none sw.hs = hgE t.nodes p (sw.hs.drop k) /\ (k = 0 -> p = none) /\ (∀ j,k = j + 1 -> ∃ c,sw.hs[j]? = some c /\ p = some c.group) /\ 0 <= m /\ m <= 33554432 * k /\ 0 <= q /\ q <= 16777216 * k /\ sumI (sw.hs.map fun h=>h.file + h.anon) = m + sumI ((sw.hs.drop k).map fun h=>h.file + h.anon) /\ sumI (sw.hs.map (·.swap)) = q + sumI ((sw.hs.drop k).map (·.swap)) /\ s.pe 2 = .ptr (.slot 2 0) 0 0 /\ s.pe 3 = .ptr (.slot 3 0) 0 0 /\ s.pe 5 = .p (.int .i64 m) /\ s.pe 6 = .p (.int .i64 q) /\ s.pe 7 = .p (.int .i64 k) /\ s.h (.slot 2 0) = some (0,Ob.box [.p (nodesP t.nodes),.p (.int .i64 t.next)]) /\ s.h (.slot 3 0) = some (0,Ob.box [.p (hgsP sw.hs),.p (.int .i64 sw.size)]):=⟨_,fun _ _=>Iff.rfl⟩
    refine wp_count (sw.hs.length) I ?_ ?_
    ·refine (hI _ _).2 ⟨none,0,0,?_,?_,?_,?_,?_,?_,?_,?_,?_,?_,?_,?_,?_,?_,?_,?_⟩
     ·rfl
     ·exact fun _=>rfl
     ·exact fun j hj=>by omega
     ·omega
     ·omega
     ·omega
     ·omega
     ·exact by simp
     ·exact by simp
     all_goals exact cl0
    intro k s hk hIk
    obtain ⟨p,m,q,hq,hp0,hp1,m0,m1,q0,q1,sm,sq,h2,h3,h5,h6,h7,hh2_0,hh3_0⟩:=(hI _ _).1 hIk
    clear hIk
    simp -implicitDefEqProofs (disch:=omega) only [h2,h3,h5,h6,h7,hh2_0,hh3_0,go_sem,↓reduceIte,rA,rS,rE,rL,reduceCtorEq]
    refine wp_if_d (fun hlt=>?_) (fun hge=>?_)
    ·have hm : sw.hs[k]? = some sw.hs[k]:=lgg hlt
     have hd : sw.hs.drop k = sw.hs[k] :: sw.hs.drop (k + 1):=ldg hlt
     generalize sw.hs[k] = c at hm hd
     have hfi:=rhas_eq t c.group hn
     rw [findT_ok ht] at hfi
     have p1:=rpages_eq c
     rw [hd,hgE] at hq
     rw [hd,lpc,sumI,<- Int.add_assoc] at sm sq
     have hnx : ∀ j,k + 1 = j + 1 -> ∃ c',sw.hs[j]? = some c' /\ some c.group = some c'.group:=fun j hj=>⟨c,by rw [show j = k by omega]; exact hm,rfl⟩
     have hcv : c.vv = .agg [.p (.int .i64 c.group),.p (.int .i64 c.file),.p (.int .i64 c.anon),.p (.int .i64 c.swap)]:=rfl
     rw [hcv] at p1
     cases hfs : (findN t.nodes c.group).isSome with
     | false =>
      rw [hfs] at hfi
      simp only [hfs,bfa] at hq
      simp -implicitDefEqProofs (disch:=omega) only [h2,h3,h5,h6,h7,hh2_0,hh3_0,hlt,hm,hfi,hq,bfa,go_sem,↓reduceIte,rA,rS,rE,rL,reduceCtorEq]
     | true =>
      rw [hfs] at hfi
      rw [hfs,bta] at hq
      by_cases hk0 : (0 : Int) < k
      ·obtain ⟨e,he,hpe⟩:=hp1 (k - 1) (by omega)
       have he' : sw.hs[((k : Int) - 1).toNat]? = some e:=by rw [show ((k : Int) - 1).toNat = k - 1 by omega]; exact he
       have hk1 : (0 : Int) <= (k : Int) - 1:=by omega
       subst hpe
       by_cases hle : c.group <= e.group
       ·rw [show prevOk (some e.group) c.group = false from decide_eq_false (by omega)] at hq
        simp only [bfa] at hq
        simp -implicitDefEqProofs (disch:=omega) only [h2,h3,h5,h6,h7,hh2_0,hh3_0,hlt,hm,hfi,hk0,hk1,he',hle,hq,bfa,go_sem,↓reduceIte,rA,rS,rE,rL,reduceCtorEq]
       ·rw [show prevOk (some e.group) c.group = true from decide_eq_true (by omega),bta] at hq
        cases b1 : pagesH c with
        | false =>
         have hq2 : hgE t.nodes none sw.hs = false:=by rw [hq,show (pagesB c.file && pagesB c.anon && pagesB c.swap) = false from b1]; simp only [bfa]
         rw [b1] at p1
         simp -implicitDefEqProofs (disch:=omega) only [h2,h3,h5,h6,h7,hh2_0,hh3_0,hlt,hm,hfi,hk0,hk1,he',hle,p1,hq2,bfa,go_sem,↓reduceIte,rA,rS,rE,rL,reduceCtorEq]
        | true =>
         rw [show (pagesB c.file && pagesB c.anon && pagesB c.swap) = true from b1,bta] at hq
         rw [b1] at p1
         simp only [pagesH,bat] at b1
         obtain ⟨⟨b2,b3⟩,b5⟩:=b1
         have g2:=pagesB_true b2
         have g3:=pagesB_true b3
         have g5:=pagesB_true b5
         by_cases b4 : c.file + c.anon + c.swap = 0
         ·rw [decide_eq_false (show ¬ (c.file + c.anon + c.swap ≠ 0) from fun h=>h b4)] at hq
          simp only [bfa] at hq
          simp -implicitDefEqProofs (disch:=omega) only [h2,h3,h5,h6,h7,hh2_0,hh3_0,hlt,hm,hfi,hk0,hk1,he',hle,p1,b4,hq,bfa,go_sem,↓reduceIte,rA,rS,rE,rL,reduceCtorEq]
         ·rw [decide_eq_true (show c.file + c.anon + c.swap ≠ 0 from b4),bta] at hq
          simp -implicitDefEqProofs (disch:=omega) only [h2,h3,h5,h6,h7,hh2_0,hh3_0,hlt,hm,hfi,hk0,hk1,he',hle,p1,b4,go_sem,↓reduceIte,rA,rS,rE,rL,reduceCtorEq]
          try refine And.intro (by omega) ?_
          refine (hI _ _).2 ⟨some c.group,m + (c.file + c.anon),q + c.swap,?_,?_,?_,?_,?_,?_,?_,?_,?_,?_,?_,?_,?_,?_,?_,?_⟩
          .exact hq
          .exact by simp
          .exact hnx
          .omega
          .exact by push_cast; omega
          .omega
          .exact by push_cast; omega
          .exact sm
          .exact sq
          all_goals exact cl0
      ·have hpn:=hp0 (by omega)
       subst hpn
       rw [show prevOk none c.group = true from rfl,bta] at hq
       cases b1 : pagesH c with
       | false =>
        have hq2 : hgE t.nodes none sw.hs = false:=by rw [hq,show (pagesB c.file && pagesB c.anon && pagesB c.swap) = false from b1]; simp only [bfa]
        rw [b1] at p1
        simp -implicitDefEqProofs (disch:=omega) only [h2,h3,h5,h6,h7,hh2_0,hh3_0,hlt,hm,hfi,hk0,p1,hq2,bfa,go_sem,↓reduceIte,rA,rS,rE,rL,reduceCtorEq]
       | true =>
        rw [show (pagesB c.file && pagesB c.anon && pagesB c.swap) = true from b1,bta] at hq
        rw [b1] at p1
        simp only [pagesH,bat] at b1
        obtain ⟨⟨b2,b3⟩,b5⟩:=b1
        have g2:=pagesB_true b2
        have g3:=pagesB_true b3
        have g5:=pagesB_true b5
        by_cases b4 : c.file + c.anon + c.swap = 0
        ·rw [decide_eq_false (show ¬ (c.file + c.anon + c.swap ≠ 0) from fun h=>h b4)] at hq
         simp only [bfa] at hq
         simp -implicitDefEqProofs (disch:=omega) only [h2,h3,h5,h6,h7,hh2_0,hh3_0,hlt,hm,hfi,hk0,p1,b4,hq,bfa,go_sem,↓reduceIte,rA,rS,rE,rL,reduceCtorEq]
        ·rw [decide_eq_true (show c.file + c.anon + c.swap ≠ 0 from b4),bta] at hq
         simp -implicitDefEqProofs (disch:=omega) only [h2,h3,h5,h6,h7,hh2_0,hh3_0,hlt,hm,hfi,hk0,p1,b4,go_sem,↓reduceIte,rA,rS,rE,rL,reduceCtorEq]
         try refine And.intro (by omega) ?_
         refine (hI _ _).2 ⟨some c.group,m + (c.file + c.anon),q + c.swap,?_,?_,?_,?_,?_,?_,?_,?_,?_,?_,?_,?_,?_,?_,?_,?_⟩
         .exact hq
         .exact by simp
         .exact hnx
         .omega
         .exact by push_cast; omega
         .omega
         .exact by push_cast; omega
         .exact sm
         .exact sq
         all_goals exact cl0
    ·rw [ldl (by omega)] at hq sm sq
     simp only [hgE,lpn,sumI,Int.add_zero] at hq sm sq
     rw [sm,sq,hq,bta]
     by_cases f1 : m <= 16777216
     ·by_cases f2 : q <= sw.size
      .simp -implicitDefEqProofs (disch:=omega) only [h2,h3,h5,h6,h7,hh2_0,hh3_0,hge,f1,f2,decide_true,bas,go_sem,↓reduceIte,rA,rS,rE,rL,reduceCtorEq]
      .simp -implicitDefEqProofs (disch:=omega) only [h2,h3,h5,h6,h7,hh2_0,hh3_0,hge,f1,f2,decide_true,decide_false,Bool.and_false,go_sem,↓reduceIte,rA,rS,rE,rL,reduceCtorEq]
     .simp -implicitDefEqProofs (disch:=omega) only [h2,h3,h5,h6,h7,hh2_0,hh3_0,hge,f1,decide_false,bfa,go_sem,↓reduceIte,rA,rS,rE,rL,reduceCtorEq]
 ·have htf : treeOk t = false:=by simpa using ht
  rw [htf] at hc ⊢
  simp -implicitDefEqProofs (disch:=omega) only [vf32,vb32,hc,bfa,go_sem,↓reduceIte,rA,rS,rE,rL,reduceCtorEq]
end Go.V
