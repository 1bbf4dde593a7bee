/- Part 6 of the proof. -/
import Derived.Test.YtmfbifkaonehkaaGreatA5
set_option linter.unusedSimpArgs false
set_option linter.unusedVariables false
open Nat (reduceAdd reduceSub reduceEqDiff reduceLeDiff)
namespace Go.V
set_option maxHeartbeats 8000000 in
theorem limitHighs_eq (L : List Int) (n0 : Int) : V 3 [.p (intsP L), .p (.int .i64 n0)] [] = some (.p (.bool true), []) := by
 refine V_wp (vf := vf3) rfl ?_
 have hli := light_eq (L.map (PV.int .i64))
 rw [List.length_map] at hli
 have hsane := sane26_eq
 by_cases hL : L.length ≤ 600
 ·rw [decide_eq_true hL] at hli
  have hro := roll_eq L
  obtain ⟨t, sw, l, j, m, a0, a1, a2, a3, hS, hM, hm, htr, hst, hme, hnx⟩ := trial26_eq L hL
  have hok := hS.tree
  have hlen := hok.len
  have hsl := hS.hs.length
  have hll := hM.length
  have hin : InN t.nodes m.id := ⟨j, m, hm, rfl⟩
  have hr2 := roll_eq [n0]
  have hn2 : V 15 [.ptr (.arg 0 0) 0 0, .p (.int .i64 120)] [.box [.p (intsP [n0]), .p (.int .i64 0)]] = some (.p (.int .i64 (nextV [n0] 0 120)), [diceB [n0] (nextA [n0] 0 120)]) := next_eq [n0] 0 120 (by simp) (by omega)
  simp only [intsP, List.map_cons, List.map_nil] at hr2 hn2
  have hd0 := nextV_nonneg [n0] 0 120
  have hd1 := nextV_lt [n0] 0 (n := 120) (by omega)
  generalize nextV [n0] 0 120 = n at hn2 hd0 hd1
  have hgr := grow_eq hS hM hin (file := 0) (anon := n) (by omega) (by omega) (by omega) (by omega)
  have hG := growG_ok hM (g := ⟨sw, [], [], [], 0⟩) hS hin (file := 0) (anon := n) (by omega) (by omega)
  have hgl := growG_len hM (g := ⟨sw, [], [], [], 0⟩) hS hin (file := 0) (anon := n) (by omega) (by omega)
  generalize growG t l ⟨sw, [], [], [], 0⟩ m.id 0 n = r at hgr hG hgl
  obtain ⟨⟨⟨x, z⟩, shr, mx, hi, rf⟩, e⟩ := r
  simp only [List.length_nil, Nat.zero_add] at hgl
  have hanc := ranc_eq t m.id (by omega)
  have hal := ancR_len t m.id
  have hai : ∀ a ∈ ancR t m.id, InN t.nodes a := fun a h => anc_InN hok hin h
  generalize hwy : ancR t m.id = way at hanc hal hai hG
  have e20 : decide ((20 : Int) = 0) = false := rfl
  rcases hG with ⟨he, hG⟩ | ⟨he, _, hR⟩
  ·simp only at he hG
   subst he
   have hxl : x.length ≤ t.nodes.length := hG.stk.hs.length
   obtain ⟨b, hb1, hb2, hb3⟩ := hG.highs
   simp only [List.nil_append] at hb1
   rw [hwy] at hb3
   simp only [hwy] at hb2
   subst hb1
   have hus := fun {i : Nat} {m : Nd} (hm : t.nodes[i]? = some m) => rusage_eq hok hG.stk.hs (by show x.length < _; omega) hm
   simp only [gwF, Stk.vv] at hgr hus
   simp -implicitDefEqProofs (disch:=omega) only [vf3,vb3,hli,hro,htr,hst,hme,hnx,hm,hr2,hn2,hgr,hanc,go_sem,↓reduceIte,reduceAdd,reduceSub,reduceEqDiff,reduceLeDiff,reduceCtorEq]
   obtain ⟨I, hI⟩ : ∃ I : Nat → St → Prop, ∀ k s, I k s ↔ s.pe 6 = .ptr (.slot 6 0) 0 0 ∧ s.pe 8 = .own (.slot 28 1) 0 0 l.length ∧ s.pe 10 = .ptr (.slot 10 0) 0 0 ∧ s.pe 12 = .own (.slot 66 1) 0 0 way.length ∧ s.pe 13 = .p (.int .i64 k) ∧ s.h (.slot 6 0) = some (0, Ob.box [.p (nodesP t.nodes), .p (.int .i64 t.next)]) ∧ s.h (.slot 10 0) = some (0, Ob.box [.own (.slot 48 1) 0 0 x.length, .p (.int .i64 z), .own (.slot 48 3) 0 0 shr.length, .own (.slot 48 4) 0 0 mx.length, .own (.slot 48 5) 0 0 hi.length, .p (.int .i64 rf)]) ∧ s.h (.slot 28 1) = some (0, Ob.arr 7 (List.map Mc.pv l)) ∧ s.h (.slot 48 1) = some (0, Ob.arr 4 (List.map Hg.pv x)) ∧ s.h (.slot 48 3) = some (0, Ob.arr 4 (List.map Sh.pv shr)) ∧ s.h (.slot 48 4) = some (0, Ob.arr 1 (List.map (.int .i64) mx)) ∧ s.h (.slot 48 5) = some (0, Ob.arr 1 (List.map (.int .i64) hi)) ∧ s.h (.slot 66 1) = some (0, Ob.arr 1 (List.map (.int .i64) way)) := ⟨_, fun _ _ => Iff.rfl⟩
   refine wp_count (way.length) I ?_ ?_
   ·refine (hI _ _).2 ⟨?_, ?_, ?_, ?_, ?_, ?_, ?_, ?_, ?_, ?_, ?_, ?_, ?_⟩
    all_goals exact cl0
   intro k s hk hIk
   obtain ⟨h6, h8, h10, h12, h13, hh6_0, hh10_0, hh28_1, hh48_1, hh48_3, hh48_4, hh48_5, hh66_1⟩ := (hI _ _).1 hIk
   clear hIk
   simp -implicitDefEqProofs (disch:=omega) only [h6,h8,h10,h12,h13,hh6_0,hh10_0,hh28_1,hh48_1,hh48_3,hh48_4,hh48_5,hh66_1,go_sem,↓reduceIte,reduceAdd,reduceSub,reduceEqDiff,reduceLeDiff,reduceCtorEq]
   refine wp_if_d (fun hlt => ?_) (fun hge => ?_)
   ·have ha : way[k]? = some way[k] := List.getElem?_eq_getElem hlt
    generalize way[k] = a at ha
    have haw := List.mem_of_getElem? ha
    have hh := has3_eq hi a (by omega)
    by_cases hx : a ∈ hi
    ·rw [decide_eq_true hx] at hh
     simp -implicitDefEqProofs (disch:=omega) only [h6,h8,h10,h12,h13,hh6_0,hh10_0,hh28_1,hh48_1,hh48_3,hh48_4,hh48_5,hh66_1,hlt,ha,hh,go_sem,↓reduceIte,reduceAdd,reduceSub,reduceEqDiff,reduceLeDiff,reduceCtorEq]
     try refine And.intro (by omega) ?_
     refine (hI _ _).2 ⟨?_, ?_, ?_, ?_, ?_, ?_, ?_, ?_, ?_, ?_, ?_, ?_, ?_⟩
     all_goals exact cl0
    ·rw [decide_eq_false hx] at hh
     obtain ⟨i, q, hq, hqe⟩ := hai a haw
     have hu := hus hq
     rw [hqe] at hu
     have hse := msettings_eq l a (by omega)
     have hle : usedF t (cntS x) a ≤ (getM l a).high := by
      rcases hb3 a haw with h | h
      ·exact absurd h hx
      ·exact h
     generalize usedF t (cntS x) a = U at hu hle
     generalize getM l a = M at hse hle
     have n1 : ¬ M.high < U := by omega
     simp -implicitDefEqProofs (disch:=omega) only [h6,h8,h10,h12,h13,hh6_0,hh10_0,hh28_1,hh48_1,hh48_3,hh48_4,hh48_5,hh66_1,hlt,ha,hh,hu,hse,n1,go_sem,↓reduceIte,reduceAdd,reduceSub,reduceEqDiff,reduceLeDiff,reduceCtorEq]
     try refine And.intro (by omega) ?_
     refine (hI _ _).2 ⟨?_, ?_, ?_, ?_, ?_, ?_, ?_, ?_, ?_, ?_, ?_, ?_, ?_⟩
     all_goals exact cl0
   ·simp -implicitDefEqProofs (disch:=omega) only [h6,h8,h10,h12,h13,hh6_0,hh10_0,hh28_1,hh48_1,hh48_3,hh48_4,hh48_5,hh66_1,hge,go_sem,↓reduceIte,reduceAdd,reduceSub,reduceEqDiff,reduceLeDiff,reduceCtorEq]
    obtain ⟨Q, hQ⟩ : ∃ I : Nat → St → Prop, ∀ q s, I q s ↔ s.pe 10 = .ptr (.slot 10 0) 0 0 ∧ s.pe 12 = .own (.slot 66 1) 0 0 way.length ∧ s.pe 14 = .p (.int .i64 q) ∧ s.h (.slot 10 0) = some (0, Ob.box [.own (.slot 48 1) 0 0 x.length, .p (.int .i64 z), .own (.slot 48 3) 0 0 shr.length, .own (.slot 48 4) 0 0 mx.length, .own (.slot 48 5) 0 0 hi.length, .p (.int .i64 rf)]) ∧ s.h (.slot 48 5) = some (0, Ob.arr 1 (List.map (.int .i64) hi)) ∧ s.h (.slot 66 1) = some (0, Ob.arr 1 (List.map (.int .i64) way)) := ⟨_, fun _ _ => Iff.rfl⟩
    refine wp_count (hi.length) Q ?_ ?_
    ·refine (hQ _ _).2 ⟨?_, ?_, ?_, ?_, ?_, ?_⟩
     all_goals exact cl0
    intro q s hq hQk
    obtain ⟨h10, h12, h14, hh10_0, hh48_5, hh66_1⟩ := (hQ _ _).1 hQk
    clear hQk
    simp -implicitDefEqProofs (disch:=omega) only [h10,h12,h14,hh10_0,hh48_5,hh66_1,go_sem,↓reduceIte,reduceAdd,reduceSub,reduceEqDiff,reduceLeDiff,reduceCtorEq]
    refine wp_if_d (fun hql => ?_) (fun hqg => ?_)
    ·have ha : hi[q]? = some hi[q] := List.getElem?_eq_getElem hql
     generalize hi[q] = a at ha
     have hh := has3_eq way a (by omega)
     rw [decide_eq_true (hb2 a (List.mem_of_getElem? ha))] at hh
     simp -implicitDefEqProofs (disch:=omega) only [h10,h12,h14,hh10_0,hh48_5,hh66_1,hql,ha,hh,go_sem,↓reduceIte,reduceAdd,reduceSub,reduceEqDiff,reduceLeDiff,reduceCtorEq]
     try refine And.intro (by omega) ?_
     refine (hQ _ _).2 ⟨?_, ?_, ?_, ?_, ?_, ?_⟩
     all_goals exact cl0
    ·simp -implicitDefEqProofs (disch:=omega) only [h10,h12,h14,hh10_0,hh48_5,hh66_1,hqg,hsane,go_sem,↓reduceIte,reduceAdd,reduceSub,reduceEqDiff,reduceLeDiff,reduceCtorEq]
  ·simp only at he
   subst he
   have hh : hi = [] := hR.highs
   subst hh
   simp only [gwF] at hgr
   simp -implicitDefEqProofs (disch:=omega) only [vf3,vb3,hli,hro,htr,hst,hme,hnx,hm,hr2,hn2,hgr,hsane,e20,Int.natCast_zero,go_sem,↓reduceIte,reduceAdd,reduceSub,reduceEqDiff,reduceLeDiff,reduceCtorEq]
 ·rw [decide_eq_false hL] at hli
  simp -implicitDefEqProofs (disch:=omega) only [vf3,vb3,hli,hsane,go_sem,↓reduceIte,reduceAdd,reduceSub,reduceEqDiff,reduceLeDiff,reduceCtorEq]
end Go.V
