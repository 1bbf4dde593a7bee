/- Part 8 of the proof. -/
import Derived.Test.YtmfbifkaonehkaaGreatA5
import Derived.Test.YtmfbifkaonehkaaGreatA7
set_option linter.unusedSimpArgs false
set_option linter.unusedVariables false
open Nat (reduceAdd reduceSub reduceEqDiff reduceLeDiff)
namespace Go.V
set_option maxHeartbeats 8000000 in
theorem limitHolds_eq (L : List Int) (n0 : Int) : V 5 [.p (intsP L), .p (.int .i64 n0)] [] = some (.p (.bool true), []) := by
 refine V_wp (vf := vf5) rfl ?_
 have hli := light_eq (L.map (PV.int .i64))
 rw [List.length_map] at hli
 have hsane := sane26_eq
 by_cases hL : L.length ≤ 600
 ·rw [decide_eq_true hL] at hli
  have hro := roll_eq L
  obtain ⟨t, sw, l, j, m, a0, a1, a2, a3, hS, hM, hm, htr, hst, hme, hnx⟩ := trial26_eq L hL
  have hok := hS.tree
  have hlen := hok.len
  have hsl := hS.hs.length
  have hll := hM.length
  have hin : InN t.nodes m.id := ⟨j, m, hm, rfl⟩
  have hr2 := roll_eq [n0]
  have hn2 : V 15 [.ptr (.arg 0 0) 0 0, .p (.int .i64 200)] [.box [.p (intsP [n0]), .p (.int .i64 0)]] = some (.p (.int .i64 (nextV [n0] 0 200)), [diceB [n0] (nextA [n0] 0 200)]) := next_eq [n0] 0 200 (by simp) (by omega)
  simp only [intsP, List.map_cons, List.map_nil] at hr2 hn2
  have hd0 := nextV_nonneg [n0] 0 200
  have hd1 := nextV_lt [n0] 0 (n := 200) (by omega)
  generalize nextV [n0] 0 200 = n at hn2 hd0 hd1
  have hnf := next_eq L a3 (n + 1) (by omega) (by omega)
  have hf0 := nextV_nonneg L a3 (n + 1)
  have hf1 := nextV_lt L a3 (n := n + 1) (by omega)
  generalize nextV L a3 (n + 1) = fl at hnf hf0 hf1
  generalize nextA L a3 (n + 1) = a4 at hnf
  have hgr := grow_eq hS hM hin (file := fl) (anon := n) (by omega) (by omega) (by omega) (by omega)
  have hG := growG_ok hM (g := ⟨sw, [], [], [], 0⟩) hS hin (file := fl) (anon := n) (by omega) (by omega)
  have hgl := growG_len hM (g := ⟨sw, [], [], [], 0⟩) hS hin (file := fl) (anon := n) (by omega) (by omega)
  generalize growG t l ⟨sw, [], [], [], 0⟩ m.id fl n = r at hgr hG hgl
  obtain ⟨⟨⟨x, z⟩, shr, mx, hi, rf⟩, e⟩ := r
  simp only [List.length_nil, Nat.zero_add] at hgl
  have hanc := ranc_eq t m.id (by omega)
  have hal := ancR_len t m.id
  have hai : ∀ a ∈ ancR t m.id, InN t.nodes a := fun a h => anc_InN hok hin h
  generalize hwy : ancR t m.id = way at hanc hal hai hG
  have e20 : decide ((20 : Int) = 0) = false := rfl
  have e2a : decide ((20 : Int) = 20) = true := rfl
  have e2b : decide ((0 : Int) = 20) = false := rfl
  have e2c : (false == false) = true := rfl
  have e2d : (true == true) = true := rfl
  have e2e : (!false) = true := rfl
  have e2f : (!true) = false := rfl
  rcases hG with ⟨he, hG⟩ | ⟨he, _, hR⟩
  ·simp only at he hG
   subst he
   have hxl : x.length ≤ t.nodes.length := hG.stk.hs.length
   have hus := fun {i : Nat} {m : Nd} (hm : t.nodes[i]? = some m) => rusage_eq hok hG.stk.hs (by show x.length < _; omega) hm
   have hu0 := fun {i : Nat} {m : Nd} (hm : t.nodes[i]? = some m) => rusage_eq hok hS.hs (by omega) hm
   have hrf : rf = 0 := hG.refused
   subst hrf
   simp only [gwF, Stk.vv] at hgr hus hu0
   simp -implicitDefEqProofs (disch:=omega) only [vf5,vb5,hli,hro,htr,hst,hme,hnx,hm,hr2,hn2,hnf,hgr,hanc,e20,e2a,go_sem,↓reduceIte,reduceAdd,reduceSub,reduceEqDiff,reduceLeDiff,reduceCtorEq]
   obtain ⟨I, hI⟩ : ∃ I : Nat → St → Prop, ∀ k s, I k s ↔ s.pe 6 = .ptr (.slot 6 0) 0 0 ∧ s.pe 7 = .ptr (.slot 7 0) 0 0 ∧ s.pe 8 = .own (.slot 31 1) 0 0 l.length ∧ s.pe 10 = .ptr (.slot 10 0) 0 0 ∧ s.pe 11 = .p (.int .i64 0) ∧ s.pe 12 = .own (.slot 67 1) 0 0 way.length ∧ s.pe 13 = .p (.int .i64 k) ∧ s.h (.slot 6 0) = some (0, Ob.box [.p (nodesP t.nodes), .p (.int .i64 t.next)]) ∧ s.h (.slot 7 0) = some (0, Ob.box [.own (.slot 28 1) 0 0 sw.hs.length, .p (.int .i64 sw.size)]) ∧ s.h (.slot 10 0) = some (0, Ob.box [.own (.slot 56 1) 0 0 x.length, .p (.int .i64 z), .own (.slot 56 3) 0 0 shr.length, .own (.slot 56 4) 0 0 mx.length, .own (.slot 56 5) 0 0 hi.length, .p (.int .i64 0)]) ∧ s.h (.slot 28 1) = some (0, Ob.arr 4 (List.map Hg.pv sw.hs)) ∧ s.h (.slot 31 1) = some (0, Ob.arr 7 (List.map Mc.pv l)) ∧ s.h (.slot 56 1) = some (0, Ob.arr 4 (List.map Hg.pv x)) ∧ s.h (.slot 56 3) = some (0, Ob.arr 4 (List.map Sh.pv shr)) ∧ s.h (.slot 56 4) = some (0, Ob.arr 1 (List.map (.int .i64) mx)) ∧ s.h (.slot 56 5) = some (0, Ob.arr 1 (List.map (.int .i64) hi)) ∧ s.h (.slot 67 1) = some (0, Ob.arr 1 (List.map (.int .i64) way)) := ⟨_, fun _ _ => Iff.rfl⟩
   refine wp_count (t.nodes.length) I ?_ ?_
   ·refine (hI _ _).2 ⟨?_, ?_, ?_, ?_, ?_, ?_, ?_, ?_, ?_, ?_, ?_, ?_, ?_, ?_, ?_, ?_, ?_⟩
    all_goals exact cl0
   intro k s hk hIk
   obtain ⟨h6, h7, h8, h10, h11, h12, h13, hh6_0, hh7_0, hh10_0, hh28_1, hh31_1, hh56_1, hh56_3, hh56_4, hh56_5, hh67_1⟩ := (hI _ _).1 hIk
   clear hIk
   simp -implicitDefEqProofs (disch:=omega) only [h6,h7,h8,h10,h11,h12,h13,hh6_0,hh7_0,hh10_0,hh28_1,hh31_1,hh56_1,hh56_3,hh56_4,hh56_5,hh67_1,go_sem,↓reduceIte,reduceAdd,reduceSub,reduceEqDiff,reduceLeDiff,reduceCtorEq]
   refine wp_if_d (fun hlt => ?_) (fun hge => ?_)
   ·have hq : t.nodes[k]? = some t.nodes[k] := List.getElem?_eq_getElem hlt
    generalize t.nodes[k] = q at hq
    have hqi : InN t.nodes q.id := ⟨k, q, hq, rfl⟩
    have hu := hus hq
    have hv := hu0 hq
    have hmo := rmost26_eq l q.id (by omega)
    have hh := has3_eq way q.id (by omega)
    have hon := hG.on q.id
    have hoff := hG.off q.id hqi
    rw [hwy] at hon hoff
    have hon : q.id ∈ way → usedF t (cntS x) q.id ≤ mostM l q.id := hon
    have hoff : q.id ∉ way → usedF t (cntS x) q.id ≤ usedF t (cntS sw.hs) q.id := hoff
    generalize usedF t (cntS x) q.id = U at hu hon hoff
    generalize usedF t (cntS sw.hs) q.id = U0 at hv hoff
    generalize mostM l q.id = M at hmo hon
    by_cases hx : q.id ∈ way
    ·rw [decide_eq_true hx] at hh
     have n1 : ¬ M < U := by have := hon hx; omega
     by_cases hg : U0 < U
     ·simp -implicitDefEqProofs (disch:=omega) only [h6,h7,h8,h10,h11,h12,h13,hh6_0,hh7_0,hh10_0,hh28_1,hh31_1,hh56_1,hh56_3,hh56_4,hh56_5,hh67_1,hlt,hq,hu,hv,hh,hmo,n1,hg,go_sem,↓reduceIte,reduceAdd,reduceSub,reduceEqDiff,reduceLeDiff,reduceCtorEq]
      try refine And.intro (by omega) ?_
      refine (hI _ _).2 ⟨?_, ?_, ?_, ?_, ?_, ?_, ?_, ?_, ?_, ?_, ?_, ?_, ?_, ?_, ?_, ?_, ?_⟩
      all_goals exact cl0
     ·simp -implicitDefEqProofs (disch:=omega) only [h6,h7,h8,h10,h11,h12,h13,hh6_0,hh7_0,hh10_0,hh28_1,hh31_1,hh56_1,hh56_3,hh56_4,hh56_5,hh67_1,hlt,hq,hu,hv,hh,hmo,n1,hg,go_sem,↓reduceIte,reduceAdd,reduceSub,reduceEqDiff,reduceLeDiff,reduceCtorEq]
      try refine And.intro (by omega) ?_
      refine (hI _ _).2 ⟨?_, ?_, ?_, ?_, ?_, ?_, ?_, ?_, ?_, ?_, ?_, ?_, ?_, ?_, ?_, ?_, ?_⟩
      all_goals exact cl0
    ·rw [decide_eq_false hx] at hh
     have n1 : ¬ U0 < U := by have := hoff hx; omega
     simp -implicitDefEqProofs (disch:=omega) only [h6,h7,h8,h10,h11,h12,h13,hh6_0,hh7_0,hh10_0,hh28_1,hh31_1,hh56_1,hh56_3,hh56_4,hh56_5,hh67_1,hlt,hq,hu,hv,hh,hmo,n1,go_sem,↓reduceIte,reduceAdd,reduceSub,reduceEqDiff,reduceLeDiff,reduceCtorEq]
     try refine And.intro (by omega) ?_
     refine (hI _ _).2 ⟨?_, ?_, ?_, ?_, ?_, ?_, ?_, ?_, ?_, ?_, ?_, ?_, ?_, ?_, ?_, ?_, ?_⟩
     all_goals exact cl0
   ·simp -implicitDefEqProofs (disch:=omega) only [h6,h7,h8,h10,h11,h12,h13,hh6_0,hh7_0,hh10_0,hh28_1,hh31_1,hh56_1,hh56_3,hh56_4,hh56_5,hh67_1,hge,hsane,e2b,e2c,go_sem,↓reduceIte,reduceAdd,reduceSub,reduceEqDiff,reduceLeDiff,reduceCtorEq]
  ·simp only at he hR
   subst he
   have hxl : x.length ≤ t.nodes.length := hR.grw.stk.hs.length
   have hus := fun {i : Nat} {m : Nd} (hm : t.nodes[i]? = some m) => rusage_eq hok hR.grw.stk.hs (by show x.length < _; omega) hm
   have hu0 := fun {i : Nat} {m : Nd} (hm : t.nodes[i]? = some m) => rusage_eq hok hS.hs (by omega) hm
   simp only [gwF, Stk.vv] at hgr hus hu0
   simp -implicitDefEqProofs (disch:=omega) only [vf5,vb5,hli,hro,htr,hst,hme,hnx,hm,hr2,hn2,hnf,hgr,hanc,e20,e2a,go_sem,↓reduceIte,reduceAdd,reduceSub,reduceEqDiff,reduceLeDiff,reduceCtorEq]
   obtain ⟨I, hI⟩ : ∃ I : Nat → St → Prop, ∀ k s, I k s ↔ s.pe 6 = .ptr (.slot 6 0) 0 0 ∧ s.pe 7 = .ptr (.slot 7 0) 0 0 ∧ s.pe 8 = .own (.slot 31 1) 0 0 l.length ∧ s.pe 10 = .ptr (.slot 10 0) 0 0 ∧ s.pe 11 = .p (.int .i64 20) ∧ s.pe 12 = .own (.slot 67 1) 0 0 way.length ∧ s.pe 13 = .p (.int .i64 k) ∧ s.h (.slot 6 0) = some (0, Ob.box [.p (nodesP t.nodes), .p (.int .i64 t.next)]) ∧ s.h (.slot 7 0) = some (0, Ob.box [.own (.slot 28 1) 0 0 sw.hs.length, .p (.int .i64 sw.size)]) ∧ s.h (.slot 10 0) = some (0, Ob.box [.own (.slot 56 1) 0 0 x.length, .p (.int .i64 z), .own (.slot 56 3) 0 0 shr.length, .own (.slot 56 4) 0 0 mx.length, .own (.slot 56 5) 0 0 hi.length, .p (.int .i64 rf)]) ∧ s.h (.slot 28 1) = some (0, Ob.arr 4 (List.map Hg.pv sw.hs)) ∧ s.h (.slot 31 1) = some (0, Ob.arr 7 (List.map Mc.pv l)) ∧ s.h (.slot 56 1) = some (0, Ob.arr 4 (List.map Hg.pv x)) ∧ s.h (.slot 56 3) = some (0, Ob.arr 4 (List.map Sh.pv shr)) ∧ s.h (.slot 56 4) = some (0, Ob.arr 1 (List.map (.int .i64) mx)) ∧ s.h (.slot 56 5) = some (0, Ob.arr 1 (List.map (.int .i64) hi)) ∧ s.h (.slot 67 1) = some (0, Ob.arr 1 (List.map (.int .i64) way)) := ⟨_, fun _ _ => Iff.rfl⟩
   refine wp_count (t.nodes.length) I ?_ ?_
   ·refine (hI _ _).2 ⟨?_, ?_, ?_, ?_, ?_, ?_, ?_, ?_, ?_, ?_, ?_, ?_, ?_, ?_, ?_, ?_, ?_⟩
    all_goals exact cl0
   intro k s hk hIk
   obtain ⟨h6, h7, h8, h10, h11, h12, h13, hh6_0, hh7_0, hh10_0, hh28_1, hh31_1, hh56_1, hh56_3, hh56_4, hh56_5, hh67_1⟩ := (hI _ _).1 hIk
   clear hIk
   simp -implicitDefEqProofs (disch:=omega) only [h6,h7,h8,h10,h11,h12,h13,hh6_0,hh7_0,hh10_0,hh28_1,hh31_1,hh56_1,hh56_3,hh56_4,hh56_5,hh67_1,go_sem,↓reduceIte,reduceAdd,reduceSub,reduceEqDiff,reduceLeDiff,reduceCtorEq]
   refine wp_if_d (fun hlt => ?_) (fun hge => ?_)
   ·have hq : t.nodes[k]? = some t.nodes[k] := List.getElem?_eq_getElem hlt
    generalize t.nodes[k] = q at hq
    have hqi : InN t.nodes q.id := ⟨k, q, hq, rfl⟩
    have hu := hus hq
    have hv := hu0 hq
    have hh := has3_eq way q.id (by omega)
    have hle : usedF t (cntS x) q.id ≤ usedF t (cntS sw.hs) q.id := hR.grw.use hS hqi
    generalize usedF t (cntS x) q.id = U at hu hle
    generalize usedF t (cntS sw.hs) q.id = U0 at hv hle
    generalize decide (q.id ∈ way) = on at hh
    have n1 : ¬ U0 < U := by omega
    cases on with
    | true =>
     simp -implicitDefEqProofs (disch:=omega) only [h6,h7,h8,h10,h11,h12,h13,hh6_0,hh7_0,hh10_0,hh28_1,hh31_1,hh56_1,hh56_3,hh56_4,hh56_5,hh67_1,hlt,hq,hu,hv,hh,n1,e20,go_sem,↓reduceIte,reduceAdd,reduceSub,reduceEqDiff,reduceLeDiff,reduceCtorEq]
     try refine And.intro (by omega) ?_
     refine (hI _ _).2 ⟨?_, ?_, ?_, ?_, ?_, ?_, ?_, ?_, ?_, ?_, ?_, ?_, ?_, ?_, ?_, ?_, ?_⟩
     all_goals exact cl0
    | false =>
     simp -implicitDefEqProofs (disch:=omega) only [h6,h7,h8,h10,h11,h12,h13,hh6_0,hh7_0,hh10_0,hh28_1,hh31_1,hh56_1,hh56_3,hh56_4,hh56_5,hh67_1,hlt,hq,hu,hv,hh,n1,e20,go_sem,↓reduceIte,reduceAdd,reduceSub,reduceEqDiff,reduceLeDiff,reduceCtorEq]
     try refine And.intro (by omega) ?_
     refine (hI _ _).2 ⟨?_, ?_, ?_, ?_, ?_, ?_, ?_, ?_, ?_, ?_, ?_, ?_, ?_, ?_, ?_, ?_, ?_⟩
     all_goals exact cl0
   ·obtain ⟨_, r2, _, _⟩ : 20 = (20 : Int) ∧ rf ∈ way ∧ True ∧ True := by
     rcases hR.err with ⟨h1, _⟩ | ⟨_, h2, _⟩
     ·simp at h1
     ·simp only [hwy] at h2
      exact ⟨rfl, h2, trivial, trivial⟩
    have hh := has3_eq way rf (by omega)
    rw [decide_eq_true r2] at hh
    have hr0 : ¬ rf = 0 := by
     obtain ⟨i, q, hq, hqe⟩ := hai rf r2
     have := hok.pos q (List.mem_of_getElem? hq)
     omega
    simp -implicitDefEqProofs (disch:=omega) only [h6,h7,h8,h10,h11,h12,h13,hh6_0,hh7_0,hh10_0,hh28_1,hh31_1,hh56_1,hh56_3,hh56_4,hh56_5,hh67_1,hge,hsane,hh,hr0,e2a,e2d,go_sem,↓reduceIte,reduceAdd,reduceSub,reduceEqDiff,reduceLeDiff,reduceCtorEq]
 ·rw [decide_eq_false hL] at hli
  simp -implicitDefEqProofs (disch:=omega) only [vf5,vb5,hli,hsane,go_sem,↓reduceIte,reduceAdd,reduceSub,reduceEqDiff,reduceLeDiff,reduceCtorEq]
end Go.V
