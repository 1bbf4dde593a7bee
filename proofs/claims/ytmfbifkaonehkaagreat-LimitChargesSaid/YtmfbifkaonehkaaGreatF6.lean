/- Part 6 of the proof. -/
import Derived.Test.YtmfbifkaonehkaaGreatF5
set_option linter.unusedSimpArgs false
set_option linter.unusedVariables false
open Nat (reduceAdd reduceSub reduceEqDiff reduceLeDiff)
namespace Go.V
set_option maxHeartbeats 8000000 in
theorem limitCharges_eq (L : List Int) (n0 : Int) : V 6 [.p (intsP L), .p (.int .i64 n0)] [] = some (.p (.bool true), []) := by
 refine V_wp (vf := vf6) rfl ?_
 have hli := light_eq (L.map (PV.int .i64))
 rw [List.length_map] at hli
 have hsane := sane26_eq
 by_cases hL : L.length ≤ 600
 ·rw [decide_eq_true hL] at hli
  have hro := roll_eq L
  obtain ⟨t, sw, l, j, m, a0, a1, a2, a3, hS, hM, hm, htr, hst, hme, hnx⟩ := trial26_eq L hL
  have hok := hS.tree
  have hlen := hok.len
  have hsl := hS.hs.length
  have hll := hM.length
  have hin : InN t.nodes m.id := ⟨j, m, hm, rfl⟩
  have hr2 := roll_eq [n0]
  have hn2 : V 15 [.ptr (.arg 0 0) 0 0, .p (.int .i64 100)] [.box [.p (intsP [n0]), .p (.int .i64 0)]] = some (.p (.int .i64 (nextV [n0] 0 100)), [diceB [n0] (nextA [n0] 0 100)]) := next_eq [n0] 0 100 (by simp) (by omega)
  simp only [intsP, List.map_cons, List.map_nil] at hr2 hn2
  have hd0 := nextV_nonneg [n0] 0 100
  have hd1 := nextV_lt [n0] 0 (n := 100) (by omega)
  generalize nextV [n0] 0 100 = n at hn2 hd0 hd1
  have hnf : V 15 [.ptr (.arg 0 0) 0 0, .p (.int .i64 100)] [diceB L a3] = some (.p (.int .i64 (nextV L a3 100)), [diceB L (nextA L a3 100)]) := next_eq L a3 100 (by omega) (by omega)
  have hf0 := nextV_nonneg L a3 100
  have hf1 := nextV_lt L a3 (n := 100) (by omega)
  generalize nextV L a3 100 = an at hnf hf0 hf1
  generalize nextA L a3 100 = a4 at hnf
  have hgr := grow_eq hS hM hin (file := n) (anon := an) (by omega) (by omega) (by omega) (by omega)
  have hG := growG_ok hM (g := ⟨sw, [], [], [], 0⟩) hS hin (file := n) (anon := an) (by omega) (by omega)
  have hgl := growG_len hM (g := ⟨sw, [], [], [], 0⟩) hS hin (file := n) (anon := an) (by omega) (by omega)
  generalize growG t l ⟨sw, [], [], [], 0⟩ m.id n an = r at hgr hG hgl
  obtain ⟨⟨⟨x, z⟩, shr, mx, hi, rf⟩, e⟩ := r
  simp only [List.length_nil, Nat.zero_add] at hgl
  have hanc := ranc_eq t m.id (by omega)
  have hal := ancR_len t m.id
  have hai : ∀ a ∈ ancR t m.id, InN t.nodes a := fun a h => anc_InN hok hin h
  generalize hwy : ancR t m.id = way at hanc hal hai hG
  have e20 : decide ((20 : Int) = 0) = false := rfl
  have e2a : decide ((20 : Int) = 20) = true := rfl
  have e00 : decide ((0 : Int) = 0) = true := rfl
  rcases hG with ⟨he, hG⟩ | ⟨he, _, hR⟩
  ·simp only at he hG
   subst he
   have hxl : x.length ≤ t.nodes.length := hG.stk.hs.length
   have hxh : HgOk t.nodes z x := hG.stk.hs
   obtain ⟨a, ha1, hpos, hget⟩ := hG.shr
   simp only [List.nil_append] at ha1
   subst ha1
   simp only at hget
   simp only [gwF] at hgr
   simp -implicitDefEqProofs (disch:=omega) only [vf6,vb6,hli,hro,htr,hst,hme,hnx,hm,hr2,hn2,hnf,hgr,e20,e2a,go_sem,↓reduceIte,reduceAdd,reduceSub,reduceEqDiff,reduceLeDiff,reduceCtorEq]
   obtain ⟨I, hI⟩ : ∃ I : Nat → St → Prop, ∀ k s, I k s ↔ s.pe 6 = .ptr (.slot 6 0) 0 0 ∧ s.pe 7 = .ptr (.slot 7 0) 0 0 ∧ s.pe 9 = .p (.int .i64 m.id) ∧ s.pe 10 = .p (.int .i64 n) ∧ s.pe 11 = .p (.int .i64 an) ∧ s.pe 12 = .ptr (.slot 12 0) 0 0 ∧ s.pe 13 = .p (.int .i64 0) ∧ s.pe 14 = .p (.int .i64 k) ∧ s.h (.slot 6 0) = some (0, Ob.box [.p (nodesP t.nodes), .p (.int .i64 t.next)]) ∧ s.h (.slot 7 0) = some (0, Ob.box [.own (.slot 28 1) 0 0 sw.hs.length, .p (.int .i64 sw.size)]) ∧ s.h (.slot 12 0) = some (0, Ob.box [.own (.slot 55 1) 0 0 x.length, .p (.int .i64 z), .own (.slot 55 3) 0 0 shr.length, .own (.slot 55 4) 0 0 mx.length, .own (.slot 55 5) 0 0 hi.length, .p (.int .i64 rf)]) ∧ s.h (.slot 28 1) = some (0, Ob.arr 4 (List.map Hg.pv sw.hs)) ∧ s.h (.slot 55 1) = some (0, Ob.arr 4 (List.map Hg.pv x)) ∧ s.h (.slot 55 3) = some (0, Ob.arr 4 (List.map Sh.pv shr)) ∧ s.h (.slot 55 4) = some (0, Ob.arr 1 (List.map (.int .i64) mx)) ∧ s.h (.slot 55 5) = some (0, Ob.arr 1 (List.map (.int .i64) hi)) := ⟨_, fun _ _ => Iff.rfl⟩
   refine wp_count (t.nodes.length) I ?_ ?_
   ·refine (hI _ _).2 ⟨?_, ?_, ?_, ?_, ?_, ?_, ?_, ?_, ?_, ?_, ?_, ?_, ?_, ?_, ?_, ?_⟩
    all_goals exact cl0
   intro k s hk hIk
   obtain ⟨h6, h7, h9, h10, h11, h12, h13, h14, hh6_0, hh7_0, hh12_0, hh28_1, hh55_1, hh55_3, hh55_4, hh55_5⟩ := (hI _ _).1 hIk
   clear hIk
   simp -implicitDefEqProofs (disch:=omega) only [h6,h7,h9,h10,h11,h12,h13,h14,hh6_0,hh7_0,hh12_0,hh28_1,hh55_1,hh55_3,hh55_4,hh55_5,go_sem,↓reduceIte,reduceAdd,reduceSub,reduceEqDiff,reduceLeDiff,reduceCtorEq]
   refine wp_if_d (fun hlt => ?_) (fun hge => ?_)
   ·have hq : t.nodes[k]? = some t.nodes[k] := List.getElem?_eq_getElem hlt
    generalize t.nodes[k] = q at hq
    have hqi : InN t.nodes q.id := ⟨k, q, hq, rfl⟩
    have g1 := rget_eq sw q.id (by omega)
    have g2 := rget_eq ⟨x, z⟩ q.id (by show x.length < _; omega)
    have hxg := hget q.id
    have b1 := hS.hs.get q.id
    have b2 := hxh.get q.id
    have hgr1 := getS_group sw.hs q.id
    rw [hxg] at g2 b2
    generalize getS sw.hs q.id = b at g1 g2 b1 b2 hgr1
    obtain ⟨bg, bf, ba, bs⟩ := b
    simp only at hgr1
    subst hgr1
    simp only [inPg, Stk.vv, Hg.vv] at b1 b2 g1 g2
    obtain ⟨⟨p1, p2⟩, ⟨p3, p4⟩, p5, p6⟩ := b1
    obtain ⟨⟨q1, q2⟩, ⟨q3, q4⟩, q5, q6⟩ := b2
    by_cases hx : q.id = m.id
    ·simp only [if_pos hx] at g2 q1 q2 q3 q4
     have hx' : decide (q.id = m.id) = true := decide_eq_true hx
     simp -implicitDefEqProofs (disch:=omega) only [h6,h7,h9,h10,h11,h12,h13,h14,hh6_0,hh7_0,hh12_0,hh28_1,hh55_1,hh55_3,hh55_4,hh55_5,hlt,hq,g1,hx',e00,go_sem,↓reduceIte,reduceAdd,reduceSub,reduceEqDiff,reduceLeDiff,reduceCtorEq]
     obtain ⟨J, hJ⟩ : ∃ I : Nat → St → Prop, ∀ j s, I j s ↔ ∃ (v15_0 : Nat) (cf : Int) (ca : Int) (cw : Int), cf = (bf + n) - sumI ((shr.take j).map fun y => if y.group = q.id then y.file else 0) ∧ ca = (ba + an) - sumI ((shr.take j).map fun y => if y.group = q.id then y.anon else 0) ∧ cw = bs + sumI ((shr.take j).map fun y => if y.group = q.id then y.anon else 0) ∧ s.pe 6 = .ptr (.slot 6 0) 0 0 ∧ s.pe 7 = .ptr (.slot 7 0) 0 0 ∧ s.pe 9 = .p (.int .i64 m.id) ∧ s.pe 10 = .p (.int .i64 n) ∧ s.pe 11 = .p (.int .i64 an) ∧ s.pe 12 = .ptr (.slot 12 0) 0 0 ∧ s.pe 13 = .p (.int .i64 0) ∧ s.pe 14 = .p (.int .i64 ↑k) ∧ s.pe 15 = .ptr (.slot 15 0) v15_0 0 ∧ s.pe 16 = .p (.int .i64 j) ∧ s.h (.slot 6 0) = some (0, Ob.box [.p (nodesP t.nodes), .p (.int .i64 t.next)]) ∧ s.h (.slot 7 0) = some (0, Ob.box [.own (.slot 28 1) 0 0 sw.hs.length, .p (.int .i64 sw.size)]) ∧ s.h (.slot 12 0) = some (0, Ob.box [.own (.slot 55 1) 0 0 x.length, .p (.int .i64 z), .own (.slot 55 3) 0 0 shr.length, .own (.slot 55 4) 0 0 mx.length, .own (.slot 55 5) 0 0 hi.length, .p (.int .i64 rf)]) ∧ s.h (.slot 28 1) = some (0, Ob.arr 4 (List.map Hg.pv sw.hs)) ∧ s.h (.slot 55 1) = some (0, Ob.arr 4 (List.map Hg.pv x)) ∧ s.h (.slot 55 3) = some (0, Ob.arr 4 (List.map Sh.pv shr)) ∧ s.h (.slot 55 4) = some (0, Ob.arr 1 (List.map (.int .i64) mx)) ∧ s.h (.slot 55 5) = some (0, Ob.arr 1 (List.map (.int .i64) hi)) ∧ s.h (.slot 15 0) = some (v15_0, Ob.box [.p (.int .i64 q.id), .p (.int .i64 cf), .p (.int .i64 ca), .p (.int .i64 cw)]) := ⟨_, fun _ _ => Iff.rfl⟩
     refine wp_count (shr.length) J ?_ ?_
     ·refine (hJ _ _).2 ⟨nv (s.h (.slot 15 0)), (bf + n), (ba + an), bs, ?_, ?_, ?_, ?_, ?_, ?_, ?_, ?_, ?_, ?_, ?_, ?_, ?_, ?_, ?_, ?_, ?_, ?_, ?_, ?_, ?_, ?_⟩
      ·exact by simp [sumI]
      ·exact by simp [sumI]
      ·exact by simp [sumI]
      all_goals exact cl0
     intro j s hj hJk
     obtain ⟨v15_0, cf, ca, cw, hc1, hc2, hc3, h6, h7, h9, h10, h11, h12, h13, h14, h15, h16, hh6_0, hh7_0, hh12_0, hh28_1, hh55_1, hh55_3, hh55_4, hh55_5, hh15_0⟩ := (hJ _ _).1 hJk
     clear hJk
     simp -implicitDefEqProofs (disch:=omega) only [h6,h7,h9,h10,h11,h12,h13,h14,h15,h16,hh6_0,hh7_0,hh12_0,hh28_1,hh55_1,hh55_3,hh55_4,hh55_5,hh15_0,go_sem,↓reduceIte,reduceAdd,reduceSub,reduceEqDiff,reduceLeDiff,reduceCtorEq]
     refine wp_if_d (fun hjl => ?_) (fun hjg => ?_)
     ·have hy : shr[j]? = some shr[j] := List.getElem?_eq_getElem hjl
      have st1 := sumI_take_succ (f := fun y : Sh => if y.group = q.id then y.file else 0) hy
      have st2 := sumI_take_succ (f := fun y : Sh => if y.group = q.id then y.anon else 0) hy
      have po1 : ∀ y ∈ shr, 0 ≤ (if y.group = q.id then y.file else 0) := fun y hy => by
       have := (hpos y hy).1
       split <;> omega
      have po2 : ∀ y ∈ shr, 0 ≤ (if y.group = q.id then y.anon else 0) := fun y hy => by
       have := (hpos y hy).2
       split <;> omega
      have le1 : sumI ((shr.take (j + 1)).map fun y => if y.group = q.id then y.file else 0) ≤ sumT (·.file) shr q.id := sumI_take_le shr (j + 1) po1
      have le2 : sumI ((shr.take (j + 1)).map fun y => if y.group = q.id then y.anon else 0) ≤ sumT (·.anon) shr q.id := sumI_take_le shr (j + 1) po2
      have nn1 : 0 ≤ sumI ((shr.take j).map fun y => if y.group = q.id then y.file else 0) := sumI_map_nonneg _ fun y hy => po1 y (List.mem_of_mem_take hy)
      have nn2 : 0 ≤ sumI ((shr.take j).map fun y => if y.group = q.id then y.anon else 0) := sumI_map_nonneg _ fun y hy => po2 y (List.mem_of_mem_take hy)
      have hyp := hpos shr[j] (List.getElem_mem hjl)
      generalize shr[j] = y at hy st1 st2 hyp
      rw [st1] at le1
      rw [st2] at le2
      by_cases hyg : y.group = q.id
      ·rw [if_pos hyg] at st1 st2 le1 le2
       have hyd : decide (y.group = q.id) = true := decide_eq_true hyg
       simp -implicitDefEqProofs (disch:=omega) only [h6,h7,h9,h10,h11,h12,h13,h14,h15,h16,hh6_0,hh7_0,hh12_0,hh28_1,hh55_1,hh55_3,hh55_4,hh55_5,hh15_0,hjl,hy,hyd,go_sem,↓reduceIte,reduceAdd,reduceSub,reduceEqDiff,reduceLeDiff,reduceCtorEq]
       try refine And.intro (by omega) ?_
       refine (hJ _ _).2 ⟨v15_0, cf - y.file, ca - y.anon, cw + y.anon, ?_, ?_, ?_, ?_, ?_, ?_, ?_, ?_, ?_, ?_, ?_, ?_, ?_, ?_, ?_, ?_, ?_, ?_, ?_, ?_, ?_, ?_⟩
       ·exact by rw [st1, hc1]; omega
       ·exact by rw [st2, hc2]; omega
       ·exact by rw [st2, hc3]; omega
       all_goals exact cl0
      ·rw [if_neg hyg] at st1 st2 le1 le2
       simp -implicitDefEqProofs (disch:=omega) only [h6,h7,h9,h10,h11,h12,h13,h14,h15,h16,hh6_0,hh7_0,hh12_0,hh28_1,hh55_1,hh55_3,hh55_4,hh55_5,hh15_0,hjl,hy,hyg,go_sem,↓reduceIte,reduceAdd,reduceSub,reduceEqDiff,reduceLeDiff,reduceCtorEq]
       try refine And.intro (by omega) ?_
       refine (hJ _ _).2 ⟨v15_0, cf, ca, cw, ?_, ?_, ?_, ?_, ?_, ?_, ?_, ?_, ?_, ?_, ?_, ?_, ?_, ?_, ?_, ?_, ?_, ?_, ?_, ?_, ?_, ?_⟩
       ·exact by rw [st1, hc1]; omega
       ·exact by rw [st2, hc2]; omega
       ·exact by rw [st2, hc3]; omega
       all_goals exact cl0
     ·rw [List.take_of_length_le (by omega)] at hc1 hc2 hc3
      have k1 : (bf + n) - sumT (·.file) shr q.id = cf := hc1.symm
      have k2 : (ba + an) - sumT (·.anon) shr q.id = ca := hc2.symm
      have k3 : bs + sumT (·.anon) shr q.id = cw := hc3.symm
      rw [k1, k2, k3] at g2
      simp -implicitDefEqProofs (disch:=omega) only [h6,h7,h9,h10,h11,h12,h13,h14,h15,h16,hh6_0,hh7_0,hh12_0,hh28_1,hh55_1,hh55_3,hh55_4,hh55_5,hh15_0,hjg,hq,g2,go_sem,↓reduceIte,reduceAdd,reduceSub,reduceEqDiff,reduceLeDiff,reduceCtorEq]
      try refine And.intro (by omega) ?_
      refine (hI _ _).2 ⟨?_, ?_, ?_, ?_, ?_, ?_, ?_, ?_, ?_, ?_, ?_, ?_, ?_, ?_, ?_, ?_⟩
      all_goals exact cl0
    ·simp only [if_neg hx, Int.add_zero] at g2 q1 q2 q3 q4
     simp -implicitDefEqProofs (disch:=omega) only [h6,h7,h9,h10,h11,h12,h13,h14,hh6_0,hh7_0,hh12_0,hh28_1,hh55_1,hh55_3,hh55_4,hh55_5,hlt,hq,g1,hx,go_sem,↓reduceIte,reduceAdd,reduceSub,reduceEqDiff,reduceLeDiff,reduceCtorEq]
     obtain ⟨J, hJ⟩ : ∃ I : Nat → St → Prop, ∀ j s, I j s ↔ ∃ (v15_0 : Nat) (cf : Int) (ca : Int) (cw : Int), cf = bf - sumI ((shr.take j).map fun y => if y.group = q.id then y.file else 0) ∧ ca = ba - sumI ((shr.take j).map fun y => if y.group = q.id then y.anon else 0) ∧ cw = bs + sumI ((shr.take j).map fun y => if y.group = q.id then y.anon else 0) ∧ s.pe 6 = .ptr (.slot 6 0) 0 0 ∧ s.pe 7 = .ptr (.slot 7 0) 0 0 ∧ s.pe 9 = .p (.int .i64 m.id) ∧ s.pe 10 = .p (.int .i64 n) ∧ s.pe 11 = .p (.int .i64 an) ∧ s.pe 12 = .ptr (.slot 12 0) 0 0 ∧ s.pe 13 = .p (.int .i64 0) ∧ s.pe 14 = .p (.int .i64 ↑k) ∧ s.pe 15 = .ptr (.slot 15 0) v15_0 0 ∧ s.pe 16 = .p (.int .i64 j) ∧ s.h (.slot 6 0) = some (0, Ob.box [.p (nodesP t.nodes), .p (.int .i64 t.next)]) ∧ s.h (.slot 7 0) = some (0, Ob.box [.own (.slot 28 1) 0 0 sw.hs.length, .p (.int .i64 sw.size)]) ∧ s.h (.slot 12 0) = some (0, Ob.box [.own (.slot 55 1) 0 0 x.length, .p (.int .i64 z), .own (.slot 55 3) 0 0 shr.length, .own (.slot 55 4) 0 0 mx.length, .own (.slot 55 5) 0 0 hi.length, .p (.int .i64 rf)]) ∧ s.h (.slot 28 1) = some (0, Ob.arr 4 (List.map Hg.pv sw.hs)) ∧ s.h (.slot 55 1) = some (0, Ob.arr 4 (List.map Hg.pv x)) ∧ s.h (.slot 55 3) = some (0, Ob.arr 4 (List.map Sh.pv shr)) ∧ s.h (.slot 55 4) = some (0, Ob.arr 1 (List.map (.int .i64) mx)) ∧ s.h (.slot 55 5) = some (0, Ob.arr 1 (List.map (.int .i64) hi)) ∧ s.h (.slot 15 0) = some (v15_0, Ob.box [.p (.int .i64 q.id), .p (.int .i64 cf), .p (.int .i64 ca), .p (.int .i64 cw)]) := ⟨_, fun _ _ => Iff.rfl⟩
     refine wp_count (shr.length) J ?_ ?_
     ·refine (hJ _ _).2 ⟨nv (s.h (.slot 15 0)), bf, ba, bs, ?_, ?_, ?_, ?_, ?_, ?_, ?_, ?_, ?_, ?_, ?_, ?_, ?_, ?_, ?_, ?_, ?_, ?_, ?_, ?_, ?_, ?_⟩
      ·exact by simp [sumI]
      ·exact by simp [sumI]
      ·exact by simp [sumI]
      all_goals exact cl0
     intro j s hj hJk
     obtain ⟨v15_0, cf, ca, cw, hc1, hc2, hc3, h6, h7, h9, h10, h11, h12, h13, h14, h15, h16, hh6_0, hh7_0, hh12_0, hh28_1, hh55_1, hh55_3, hh55_4, hh55_5, hh15_0⟩ := (hJ _ _).1 hJk
     clear hJk
     simp -implicitDefEqProofs (disch:=omega) only [h6,h7,h9,h10,h11,h12,h13,h14,h15,h16,hh6_0,hh7_0,hh12_0,hh28_1,hh55_1,hh55_3,hh55_4,hh55_5,hh15_0,go_sem,↓reduceIte,reduceAdd,reduceSub,reduceEqDiff,reduceLeDiff,reduceCtorEq]
     refine wp_if_d (fun hjl => ?_) (fun hjg => ?_)
     ·have hy : shr[j]? = some shr[j] := List.getElem?_eq_getElem hjl
      have st1 := sumI_take_succ (f := fun y : Sh => if y.group = q.id then y.file else 0) hy
      have st2 := sumI_take_succ (f := fun y : Sh => if y.group = q.id then y.anon else 0) hy
      have po1 : ∀ y ∈ shr, 0 ≤ (if y.group = q.id then y.file else 0) := fun y hy => by
       have := (hpos y hy).1
       split <;> omega
      have po2 : ∀ y ∈ shr, 0 ≤ (if y.group = q.id then y.anon else 0) := fun y hy => by
       have := (hpos y hy).2
       split <;> omega
      have le1 : sumI ((shr.take (j + 1)).map fun y => if y.group = q.id then y.file else 0) ≤ sumT (·.file) shr q.id := sumI_take_le shr (j + 1) po1
      have le2 : sumI ((shr.take (j + 1)).map fun y => if y.group = q.id then y.anon else 0) ≤ sumT (·.anon) shr q.id := sumI_take_le shr (j + 1) po2
      have nn1 : 0 ≤ sumI ((shr.take j).map fun y => if y.group = q.id then y.file else 0) := sumI_map_nonneg _ fun y hy => po1 y (List.mem_of_mem_take hy)
      have nn2 : 0 ≤ sumI ((shr.take j).map fun y => if y.group = q.id then y.anon else 0) := sumI_map_nonneg _ fun y hy => po2 y (List.mem_of_mem_take hy)
      have hyp := hpos shr[j] (List.getElem_mem hjl)
      generalize shr[j] = y at hy st1 st2 hyp
      rw [st1] at le1
      rw [st2] at le2
      by_cases hyg : y.group = q.id
      ·rw [if_pos hyg] at st1 st2 le1 le2
       have hyd : decide (y.group = q.id) = true := decide_eq_true hyg
       simp -implicitDefEqProofs (disch:=omega) only [h6,h7,h9,h10,h11,h12,h13,h14,h15,h16,hh6_0,hh7_0,hh12_0,hh28_1,hh55_1,hh55_3,hh55_4,hh55_5,hh15_0,hjl,hy,hyd,go_sem,↓reduceIte,reduceAdd,reduceSub,reduceEqDiff,reduceLeDiff,reduceCtorEq]
       try refine And.intro (by omega) ?_
       refine (hJ _ _).2 ⟨v15_0, cf - y.file, ca - y.anon, cw + y.anon, ?_, ?_, ?_, ?_, ?_, ?_, ?_, ?_, ?_, ?_, ?_, ?_, ?_, ?_, ?_, ?_, ?_, ?_, ?_, ?_, ?_, ?_⟩
       ·exact by rw [st1, hc1]; omega
       ·exact by rw [st2, hc2]; omega
       ·exact by rw [st2, hc3]; omega
       all_goals exact cl0
      ·rw [if_neg hyg] at st1 st2 le1 le2
       simp -implicitDefEqProofs (disch:=omega) only [h6,h7,h9,h10,h11,h12,h13,h14,h15,h16,hh6_0,hh7_0,hh12_0,hh28_1,hh55_1,hh55_3,hh55_4,hh55_5,hh15_0,hjl,hy,hyg,go_sem,↓reduceIte,reduceAdd,reduceSub,reduceEqDiff,reduceLeDiff,reduceCtorEq]
       try refine And.intro (by omega) ?_
       refine (hJ _ _).2 ⟨v15_0, cf, ca, cw, ?_, ?_, ?_, ?_, ?_, ?_, ?_, ?_, ?_, ?_, ?_, ?_, ?_, ?_, ?_, ?_, ?_, ?_, ?_, ?_, ?_, ?_⟩
       ·exact by rw [st1, hc1]; omega
       ·exact by rw [st2, hc2]; omega
       ·exact by rw [st2, hc3]; omega
       all_goals exact cl0
     ·rw [List.take_of_length_le (by omega)] at hc1 hc2 hc3
      have k1 : bf - sumT (·.file) shr q.id = cf := hc1.symm
      have k2 : ba - sumT (·.anon) shr q.id = ca := hc2.symm
      have k3 : bs + sumT (·.anon) shr q.id = cw := hc3.symm
      rw [k1, k2, k3] at g2
      simp -implicitDefEqProofs (disch:=omega) only [h6,h7,h9,h10,h11,h12,h13,h14,h15,h16,hh6_0,hh7_0,hh12_0,hh28_1,hh55_1,hh55_3,hh55_4,hh55_5,hh15_0,hjg,hq,g2,go_sem,↓reduceIte,reduceAdd,reduceSub,reduceEqDiff,reduceLeDiff,reduceCtorEq]
      try refine And.intro (by omega) ?_
      refine (hI _ _).2 ⟨?_, ?_, ?_, ?_, ?_, ?_, ?_, ?_, ?_, ?_, ?_, ?_, ?_, ?_, ?_, ?_⟩
      all_goals exact cl0
   ·skip
    simp -implicitDefEqProofs (disch:=omega) only [h6,h7,h9,h10,h11,h12,h13,h14,hh6_0,hh7_0,hh12_0,hh28_1,hh55_1,hh55_3,hh55_4,hh55_5,hge,hsane,go_sem,↓reduceIte,reduceAdd,reduceSub,reduceEqDiff,reduceLeDiff,reduceCtorEq]
  ·simp only at he hR
   subst he
   have hxl : x.length ≤ t.nodes.length := hR.grw.stk.hs.length
   have hxh : HgOk t.nodes z x := hR.grw.stk.hs
   obtain ⟨a, ha1, hget, hpos⟩ := hR.grw.shr
   simp only [List.nil_append] at ha1
   subst ha1
   simp only [Acc] at hget
   simp only [gwF] at hgr
   simp -implicitDefEqProofs (disch:=omega) only [vf6,vb6,hli,hro,htr,hst,hme,hnx,hm,hr2,hn2,hnf,hgr,e20,e2a,go_sem,↓reduceIte,reduceAdd,reduceSub,reduceEqDiff,reduceLeDiff,reduceCtorEq]
   obtain ⟨I, hI⟩ : ∃ I : Nat → St → Prop, ∀ k s, I k s ↔ s.pe 6 = .ptr (.slot 6 0) 0 0 ∧ s.pe 7 = .ptr (.slot 7 0) 0 0 ∧ s.pe 9 = .p (.int .i64 m.id) ∧ s.pe 10 = .p (.int .i64 n) ∧ s.pe 11 = .p (.int .i64 an) ∧ s.pe 12 = .ptr (.slot 12 0) 0 0 ∧ s.pe 13 = .p (.int .i64 20) ∧ s.pe 14 = .p (.int .i64 k) ∧ s.h (.slot 6 0) = some (0, Ob.box [.p (nodesP t.nodes), .p (.int .i64 t.next)]) ∧ s.h (.slot 7 0) = some (0, Ob.box [.own (.slot 28 1) 0 0 sw.hs.length, .p (.int .i64 sw.size)]) ∧ s.h (.slot 12 0) = some (0, Ob.box [.own (.slot 55 1) 0 0 x.length, .p (.int .i64 z), .own (.slot 55 3) 0 0 shr.length, .own (.slot 55 4) 0 0 mx.length, .own (.slot 55 5) 0 0 hi.length, .p (.int .i64 rf)]) ∧ s.h (.slot 28 1) = some (0, Ob.arr 4 (List.map Hg.pv sw.hs)) ∧ s.h (.slot 55 1) = some (0, Ob.arr 4 (List.map Hg.pv x)) ∧ s.h (.slot 55 3) = some (0, Ob.arr 4 (List.map Sh.pv shr)) ∧ s.h (.slot 55 4) = some (0, Ob.arr 1 (List.map (.int .i64) mx)) ∧ s.h (.slot 55 5) = some (0, Ob.arr 1 (List.map (.int .i64) hi)) := ⟨_, fun _ _ => Iff.rfl⟩
   refine wp_count (t.nodes.length) I ?_ ?_
   ·refine (hI _ _).2 ⟨?_, ?_, ?_, ?_, ?_, ?_, ?_, ?_, ?_, ?_, ?_, ?_, ?_, ?_, ?_, ?_⟩
    all_goals exact cl0
   intro k s hk hIk
   obtain ⟨h6, h7, h9, h10, h11, h12, h13, h14, hh6_0, hh7_0, hh12_0, hh28_1, hh55_1, hh55_3, hh55_4, hh55_5⟩ := (hI _ _).1 hIk
   clear hIk
   simp -implicitDefEqProofs (disch:=omega) only [h6,h7,h9,h10,h11,h12,h13,h14,hh6_0,hh7_0,hh12_0,hh28_1,hh55_1,hh55_3,hh55_4,hh55_5,go_sem,↓reduceIte,reduceAdd,reduceSub,reduceEqDiff,reduceLeDiff,reduceCtorEq]
   refine wp_if_d (fun hlt => ?_) (fun hge => ?_)
   ·have hq : t.nodes[k]? = some t.nodes[k] := List.getElem?_eq_getElem hlt
    generalize t.nodes[k] = q at hq
    have hqi : InN t.nodes q.id := ⟨k, q, hq, rfl⟩
    have g1 := rget_eq sw q.id (by omega)
    have g2 := rget_eq ⟨x, z⟩ q.id (by show x.length < _; omega)
    have hxg := hget q.id
    have b1 := hS.hs.get q.id
    have b2 := hxh.get q.id
    have hgr1 := getS_group sw.hs q.id
    rw [hxg] at g2 b2
    generalize getS sw.hs q.id = b at g1 g2 b1 b2 hgr1
    obtain ⟨bg, bf, ba, bs⟩ := b
    simp only at hgr1
    subst hgr1
    simp only [inPg, Stk.vv, Hg.vv] at b1 b2 g1 g2
    obtain ⟨⟨p1, p2⟩, ⟨p3, p4⟩, p5, p6⟩ := b1
    obtain ⟨⟨q1, q2⟩, ⟨q3, q4⟩, q5, q6⟩ := b2
    by_cases hx : q.id = m.id
    ·have hx' : decide (q.id = m.id) = true := decide_eq_true hx
     simp -implicitDefEqProofs (disch:=omega) only [h6,h7,h9,h10,h11,h12,h13,h14,hh6_0,hh7_0,hh12_0,hh28_1,hh55_1,hh55_3,hh55_4,hh55_5,hlt,hq,g1,hx',e20,go_sem,↓reduceIte,reduceAdd,reduceSub,reduceEqDiff,reduceLeDiff,reduceCtorEq]
     obtain ⟨J, hJ⟩ : ∃ I : Nat → St → Prop, ∀ j s, I j s ↔ ∃ (v15_0 : Nat) (cf : Int) (ca : Int) (cw : Int), cf = bf - sumI ((shr.take j).map fun y => if y.group = q.id then y.file else 0) ∧ ca = ba - sumI ((shr.take j).map fun y => if y.group = q.id then y.anon else 0) ∧ cw = bs + sumI ((shr.take j).map fun y => if y.group = q.id then y.anon else 0) ∧ s.pe 6 = .ptr (.slot 6 0) 0 0 ∧ s.pe 7 = .ptr (.slot 7 0) 0 0 ∧ s.pe 9 = .p (.int .i64 m.id) ∧ s.pe 10 = .p (.int .i64 n) ∧ s.pe 11 = .p (.int .i64 an) ∧ s.pe 12 = .ptr (.slot 12 0) 0 0 ∧ s.pe 13 = .p (.int .i64 20) ∧ s.pe 14 = .p (.int .i64 ↑k) ∧ s.pe 15 = .ptr (.slot 15 0) v15_0 0 ∧ s.pe 16 = .p (.int .i64 j) ∧ s.h (.slot 6 0) = some (0, Ob.box [.p (nodesP t.nodes), .p (.int .i64 t.next)]) ∧ s.h (.slot 7 0) = some (0, Ob.box [.own (.slot 28 1) 0 0 sw.hs.length, .p (.int .i64 sw.size)]) ∧ s.h (.slot 12 0) = some (0, Ob.box [.own (.slot 55 1) 0 0 x.length, .p (.int .i64 z), .own (.slot 55 3) 0 0 shr.length, .own (.slot 55 4) 0 0 mx.length, .own (.slot 55 5) 0 0 hi.length, .p (.int .i64 rf)]) ∧ s.h (.slot 28 1) = some (0, Ob.arr 4 (List.map Hg.pv sw.hs)) ∧ s.h (.slot 55 1) = some (0, Ob.arr 4 (List.map Hg.pv x)) ∧ s.h (.slot 55 3) = some (0, Ob.arr 4 (List.map Sh.pv shr)) ∧ s.h (.slot 55 4) = some (0, Ob.arr 1 (List.map (.int .i64) mx)) ∧ s.h (.slot 55 5) = some (0, Ob.arr 1 (List.map (.int .i64) hi)) ∧ s.h (.slot 15 0) = some (v15_0, Ob.box [.p (.int .i64 q.id), .p (.int .i64 cf), .p (.int .i64 ca), .p (.int .i64 cw)]) := ⟨_, fun _ _ => Iff.rfl⟩
     refine wp_count (shr.length) J ?_ ?_
     ·refine (hJ _ _).2 ⟨nv (s.h (.slot 15 0)), bf, ba, bs, ?_, ?_, ?_, ?_, ?_, ?_, ?_, ?_, ?_, ?_, ?_, ?_, ?_, ?_, ?_, ?_, ?_, ?_, ?_, ?_, ?_, ?_⟩
      ·exact by simp [sumI]
      ·exact by simp [sumI]
      ·exact by simp [sumI]
      all_goals exact cl0
     intro j s hj hJk
     obtain ⟨v15_0, cf, ca, cw, hc1, hc2, hc3, h6, h7, h9, h10, h11, h12, h13, h14, h15, h16, hh6_0, hh7_0, hh12_0, hh28_1, hh55_1, hh55_3, hh55_4, hh55_5, hh15_0⟩ := (hJ _ _).1 hJk
     clear hJk
     simp -implicitDefEqProofs (disch:=omega) only [h6,h7,h9,h10,h11,h12,h13,h14,h15,h16,hh6_0,hh7_0,hh12_0,hh28_1,hh55_1,hh55_3,hh55_4,hh55_5,hh15_0,go_sem,↓reduceIte,reduceAdd,reduceSub,reduceEqDiff,reduceLeDiff,reduceCtorEq]
     refine wp_if_d (fun hjl => ?_) (fun hjg => ?_)
     ·have hy : shr[j]? = some shr[j] := List.getElem?_eq_getElem hjl
      have st1 := sumI_take_succ (f := fun y : Sh => if y.group = q.id then y.file else 0) hy
      have st2 := sumI_take_succ (f := fun y : Sh => if y.group = q.id then y.anon else 0) hy
      have po1 : ∀ y ∈ shr, 0 ≤ (if y.group = q.id then y.file else 0) := fun y hy => by
       have := (hpos y hy).1
       split <;> omega
      have po2 : ∀ y ∈ shr, 0 ≤ (if y.group = q.id then y.anon else 0) := fun y hy => by
       have := (hpos y hy).2
       split <;> omega
      have le1 : sumI ((shr.take (j + 1)).map fun y => if y.group = q.id then y.file else 0) ≤ sumT (·.file) shr q.id := sumI_take_le shr (j + 1) po1
      have le2 : sumI ((shr.take (j + 1)).map fun y => if y.group = q.id then y.anon else 0) ≤ sumT (·.anon) shr q.id := sumI_take_le shr (j + 1) po2
      have nn1 : 0 ≤ sumI ((shr.take j).map fun y => if y.group = q.id then y.file else 0) := sumI_map_nonneg _ fun y hy => po1 y (List.mem_of_mem_take hy)
      have nn2 : 0 ≤ sumI ((shr.take j).map fun y => if y.group = q.id then y.anon else 0) := sumI_map_nonneg _ fun y hy => po2 y (List.mem_of_mem_take hy)
      have hyp := hpos shr[j] (List.getElem_mem hjl)
      generalize shr[j] = y at hy st1 st2 hyp
      rw [st1] at le1
      rw [st2] at le2
      by_cases hyg : y.group = q.id
      ·rw [if_pos hyg] at st1 st2 le1 le2
       have hyd : decide (y.group = q.id) = true := decide_eq_true hyg
       simp -implicitDefEqProofs (disch:=omega) only [h6,h7,h9,h10,h11,h12,h13,h14,h15,h16,hh6_0,hh7_0,hh12_0,hh28_1,hh55_1,hh55_3,hh55_4,hh55_5,hh15_0,hjl,hy,hyd,go_sem,↓reduceIte,reduceAdd,reduceSub,reduceEqDiff,reduceLeDiff,reduceCtorEq]
       try refine And.intro (by omega) ?_
       refine (hJ _ _).2 ⟨v15_0, cf - y.file, ca - y.anon, cw + y.anon, ?_, ?_, ?_, ?_, ?_, ?_, ?_, ?_, ?_, ?_, ?_, ?_, ?_, ?_, ?_, ?_, ?_, ?_, ?_, ?_, ?_, ?_⟩
       ·exact by rw [st1, hc1]; omega
       ·exact by rw [st2, hc2]; omega
       ·exact by rw [st2, hc3]; omega
       all_goals exact cl0
      ·rw [if_neg hyg] at st1 st2 le1 le2
       simp -implicitDefEqProofs (disch:=omega) only [h6,h7,h9,h10,h11,h12,h13,h14,h15,h16,hh6_0,hh7_0,hh12_0,hh28_1,hh55_1,hh55_3,hh55_4,hh55_5,hh15_0,hjl,hy,hyg,go_sem,↓reduceIte,reduceAdd,reduceSub,reduceEqDiff,reduceLeDiff,reduceCtorEq]
       try refine And.intro (by omega) ?_
       refine (hJ _ _).2 ⟨v15_0, cf, ca, cw, ?_, ?_, ?_, ?_, ?_, ?_, ?_, ?_, ?_, ?_, ?_, ?_, ?_, ?_, ?_, ?_, ?_, ?_, ?_, ?_, ?_, ?_⟩
       ·exact by rw [st1, hc1]; omega
       ·exact by rw [st2, hc2]; omega
       ·exact by rw [st2, hc3]; omega
       all_goals exact cl0
     ·rw [List.take_of_length_le (by omega)] at hc1 hc2 hc3
      have k1 : bf - sumT (·.file) shr q.id = cf := hc1.symm
      have k2 : ba - sumT (·.anon) shr q.id = ca := hc2.symm
      have k3 : bs + sumT (·.anon) shr q.id = cw := hc3.symm
      rw [k1, k2, k3] at g2
      simp -implicitDefEqProofs (disch:=omega) only [h6,h7,h9,h10,h11,h12,h13,h14,h15,h16,hh6_0,hh7_0,hh12_0,hh28_1,hh55_1,hh55_3,hh55_4,hh55_5,hh15_0,hjg,hq,g2,go_sem,↓reduceIte,reduceAdd,reduceSub,reduceEqDiff,reduceLeDiff,reduceCtorEq]
      try refine And.intro (by omega) ?_
      refine (hI _ _).2 ⟨?_, ?_, ?_, ?_, ?_, ?_, ?_, ?_, ?_, ?_, ?_, ?_, ?_, ?_, ?_, ?_⟩
      all_goals exact cl0
    ·skip
     simp -implicitDefEqProofs (disch:=omega) only [h6,h7,h9,h10,h11,h12,h13,h14,hh6_0,hh7_0,hh12_0,hh28_1,hh55_1,hh55_3,hh55_4,hh55_5,hlt,hq,g1,hx,go_sem,↓reduceIte,reduceAdd,reduceSub,reduceEqDiff,reduceLeDiff,reduceCtorEq]
     obtain ⟨J, hJ⟩ : ∃ I : Nat → St → Prop, ∀ j s, I j s ↔ ∃ (v15_0 : Nat) (cf : Int) (ca : Int) (cw : Int), cf = bf - sumI ((shr.take j).map fun y => if y.group = q.id then y.file else 0) ∧ ca = ba - sumI ((shr.take j).map fun y => if y.group = q.id then y.anon else 0) ∧ cw = bs + sumI ((shr.take j).map fun y => if y.group = q.id then y.anon else 0) ∧ s.pe 6 = .ptr (.slot 6 0) 0 0 ∧ s.pe 7 = .ptr (.slot 7 0) 0 0 ∧ s.pe 9 = .p (.int .i64 m.id) ∧ s.pe 10 = .p (.int .i64 n) ∧ s.pe 11 = .p (.int .i64 an) ∧ s.pe 12 = .ptr (.slot 12 0) 0 0 ∧ s.pe 13 = .p (.int .i64 20) ∧ s.pe 14 = .p (.int .i64 ↑k) ∧ s.pe 15 = .ptr (.slot 15 0) v15_0 0 ∧ s.pe 16 = .p (.int .i64 j) ∧ s.h (.slot 6 0) = some (0, Ob.box [.p (nodesP t.nodes), .p (.int .i64 t.next)]) ∧ s.h (.slot 7 0) = some (0, Ob.box [.own (.slot 28 1) 0 0 sw.hs.length, .p (.int .i64 sw.size)]) ∧ s.h (.slot 12 0) = some (0, Ob.box [.own (.slot 55 1) 0 0 x.length, .p (.int .i64 z), .own (.slot 55 3) 0 0 shr.length, .own (.slot 55 4) 0 0 mx.length, .own (.slot 55 5) 0 0 hi.length, .p (.int .i64 rf)]) ∧ s.h (.slot 28 1) = some (0, Ob.arr 4 (List.map Hg.pv sw.hs)) ∧ s.h (.slot 55 1) = some (0, Ob.arr 4 (List.map Hg.pv x)) ∧ s.h (.slot 55 3) = some (0, Ob.arr 4 (List.map Sh.pv shr)) ∧ s.h (.slot 55 4) = some (0, Ob.arr 1 (List.map (.int .i64) mx)) ∧ s.h (.slot 55 5) = some (0, Ob.arr 1 (List.map (.int .i64) hi)) ∧ s.h (.slot 15 0) = some (v15_0, Ob.box [.p (.int .i64 q.id), .p (.int .i64 cf), .p (.int .i64 ca), .p (.int .i64 cw)]) := ⟨_, fun _ _ => Iff.rfl⟩
     refine wp_count (shr.length) J ?_ ?_
     ·refine (hJ _ _).2 ⟨nv (s.h (.slot 15 0)), bf, ba, bs, ?_, ?_, ?_, ?_, ?_, ?_, ?_, ?_, ?_, ?_, ?_, ?_, ?_, ?_, ?_, ?_, ?_, ?_, ?_, ?_, ?_, ?_⟩
      ·exact by simp [sumI]
      ·exact by simp [sumI]
      ·exact by simp [sumI]
      all_goals exact cl0
     intro j s hj hJk
     obtain ⟨v15_0, cf, ca, cw, hc1, hc2, hc3, h6, h7, h9, h10, h11, h12, h13, h14, h15, h16, hh6_0, hh7_0, hh12_0, hh28_1, hh55_1, hh55_3, hh55_4, hh55_5, hh15_0⟩ := (hJ _ _).1 hJk
     clear hJk
     simp -implicitDefEqProofs (disch:=omega) only [h6,h7,h9,h10,h11,h12,h13,h14,h15,h16,hh6_0,hh7_0,hh12_0,hh28_1,hh55_1,hh55_3,hh55_4,hh55_5,hh15_0,go_sem,↓reduceIte,reduceAdd,reduceSub,reduceEqDiff,reduceLeDiff,reduceCtorEq]
     refine wp_if_d (fun hjl => ?_) (fun hjg => ?_)
     ·have hy : shr[j]? = some shr[j] := List.getElem?_eq_getElem hjl
      have st1 := sumI_take_succ (f := fun y : Sh => if y.group = q.id then y.file else 0) hy
      have st2 := sumI_take_succ (f := fun y : Sh => if y.group = q.id then y.anon else 0) hy
      have po1 : ∀ y ∈ shr, 0 ≤ (if y.group = q.id then y.file else 0) := fun y hy => by
       have := (hpos y hy).1
       split <;> omega
      have po2 : ∀ y ∈ shr, 0 ≤ (if y.group = q.id then y.anon else 0) := fun y hy => by
       have := (hpos y hy).2
       split <;> omega
      have le1 : sumI ((shr.take (j + 1)).map fun y => if y.group = q.id then y.file else 0) ≤ sumT (·.file) shr q.id := sumI_take_le shr (j + 1) po1
      have le2 : sumI ((shr.take (j + 1)).map fun y => if y.group = q.id then y.anon else 0) ≤ sumT (·.anon) shr q.id := sumI_take_le shr (j + 1) po2
      have nn1 : 0 ≤ sumI ((shr.take j).map fun y => if y.group = q.id then y.file else 0) := sumI_map_nonneg _ fun y hy => po1 y (List.mem_of_mem_take hy)
      have nn2 : 0 ≤ sumI ((shr.take j).map fun y => if y.group = q.id then y.anon else 0) := sumI_map_nonneg _ fun y hy => po2 y (List.mem_of_mem_take hy)
      have hyp := hpos shr[j] (List.getElem_mem hjl)
      generalize shr[j] = y at hy st1 st2 hyp
      rw [st1] at le1
      rw [st2] at le2
      by_cases hyg : y.group = q.id
      ·rw [if_pos hyg] at st1 st2 le1 le2
       have hyd : decide (y.group = q.id) = true := decide_eq_true hyg
       simp -implicitDefEqProofs (disch:=omega) only [h6,h7,h9,h10,h11,h12,h13,h14,h15,h16,hh6_0,hh7_0,hh12_0,hh28_1,hh55_1,hh55_3,hh55_4,hh55_5,hh15_0,hjl,hy,hyd,go_sem,↓reduceIte,reduceAdd,reduceSub,reduceEqDiff,reduceLeDiff,reduceCtorEq]
       try refine And.intro (by omega) ?_
       refine (hJ _ _).2 ⟨v15_0, cf - y.file, ca - y.anon, cw + y.anon, ?_, ?_, ?_, ?_, ?_, ?_, ?_, ?_, ?_, ?_, ?_, ?_, ?_, ?_, ?_, ?_, ?_, ?_, ?_, ?_, ?_, ?_⟩
       ·exact by rw [st1, hc1]; omega
       ·exact by rw [st2, hc2]; omega
       ·exact by rw [st2, hc3]; omega
       all_goals exact cl0
      ·rw [if_neg hyg] at st1 st2 le1 le2
       simp -implicitDefEqProofs (disch:=omega) only [h6,h7,h9,h10,h11,h12,h13,h14,h15,h16,hh6_0,hh7_0,hh12_0,hh28_1,hh55_1,hh55_3,hh55_4,hh55_5,hh15_0,hjl,hy,hyg,go_sem,↓reduceIte,reduceAdd,reduceSub,reduceEqDiff,reduceLeDiff,reduceCtorEq]
       try refine And.intro (by omega) ?_
       refine (hJ _ _).2 ⟨v15_0, cf, ca, cw, ?_, ?_, ?_, ?_, ?_, ?_, ?_, ?_, ?_, ?_, ?_, ?_, ?_, ?_, ?_, ?_, ?_, ?_, ?_, ?_, ?_, ?_⟩
       ·exact by rw [st1, hc1]; omega
       ·exact by rw [st2, hc2]; omega
       ·exact by rw [st2, hc3]; omega
       all_goals exact cl0
     ·rw [List.take_of_length_le (by omega)] at hc1 hc2 hc3
      have k1 : bf - sumT (·.file) shr q.id = cf := hc1.symm
      have k2 : ba - sumT (·.anon) shr q.id = ca := hc2.symm
      have k3 : bs + sumT (·.anon) shr q.id = cw := hc3.symm
      rw [k1, k2, k3] at g2
      simp -implicitDefEqProofs (disch:=omega) only [h6,h7,h9,h10,h11,h12,h13,h14,h15,h16,hh6_0,hh7_0,hh12_0,hh28_1,hh55_1,hh55_3,hh55_4,hh55_5,hh15_0,hjg,hq,g2,go_sem,↓reduceIte,reduceAdd,reduceSub,reduceEqDiff,reduceLeDiff,reduceCtorEq]
      try refine And.intro (by omega) ?_
      refine (hI _ _).2 ⟨?_, ?_, ?_, ?_, ?_, ?_, ?_, ?_, ?_, ?_, ?_, ?_, ?_, ?_, ?_, ?_⟩
      all_goals exact cl0
   ·skip
    simp -implicitDefEqProofs (disch:=omega) only [h6,h7,h9,h10,h11,h12,h13,h14,hh6_0,hh7_0,hh12_0,hh28_1,hh55_1,hh55_3,hh55_4,hh55_5,hge,hsane,go_sem,↓reduceIte,reduceAdd,reduceSub,reduceEqDiff,reduceLeDiff,reduceCtorEq]
 ·rw [decide_eq_false hL] at hli
  simp -implicitDefEqProofs (disch:=omega) only [vf6,vb6,hli,hsane,go_sem,↓reduceIte,reduceAdd,reduceSub,reduceEqDiff,reduceLeDiff,reduceCtorEq]
end Go.V
