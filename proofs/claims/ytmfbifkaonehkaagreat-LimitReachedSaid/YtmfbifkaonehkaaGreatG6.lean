/- Part 6 of the proof. -/
import Derived.Test.YtmfbifkaonehkaaGreatG5
set_option linter.unusedSimpArgs false
set_option linter.unusedVariables false
open Nat (reduceAdd reduceSub reduceEqDiff reduceLeDiff)
namespace Go.V
set_option maxHeartbeats 1000000 in
theorem samei_eq (a b : List Int) (hl : a.length < 1000000) : V 23 [.p (intsP a), .p (intsP b)] [] = some (.p (.bool (decide (a = b))), []) := by
 refine V_wp (vf := vf23) rfl ?_
 by_cases hlen : a.length = b.length
 ·simp -implicitDefEqProofs (disch:=omega) only [vf23,vb23,hlen,bne_self_eq_false,go_sem,↓reduceIte,reduceAdd,reduceSub,reduceEqDiff,reduceLeDiff,reduceCtorEq]
  obtain ⟨I, hI⟩ : ∃ I : Nat → St → Prop, ∀ k s, I k s ↔ a.take k = b.take k ∧ s.pe 0 = .p (intsP a) ∧ s.pe 1 = .p (intsP b) ∧ s.pe 5 = .p (.int .i64 k) := ⟨_, fun _ _ => Iff.rfl⟩
  refine wp_count (a.length) I ?_ ?_
  ·refine (hI _ _).2 ⟨?_, ?_, ?_, ?_⟩
   ·exact cl3
   all_goals exact cl0
  intro k s hk hIk
  obtain ⟨hq, h0, h1, h5⟩ := (hI _ _).1 hIk
  clear hIk
  simp -implicitDefEqProofs (disch:=omega) only [h0,h1,h5,go_sem,↓reduceIte,reduceAdd,reduceSub,reduceEqDiff,reduceLeDiff,reduceCtorEq]
  refine wp_if_d (fun hlt => ?_) (fun hge => ?_)
  ·have hm : a[k]? = some a[k] := List.getElem?_eq_getElem hlt
   have hm' : b[k]? = some b[k] := List.getElem?_eq_getElem (by omega)
   have t1 := take_snoc hm
   have t2 := take_snoc hm'
   generalize a[k] = x at hm t1
   generalize b[k] = y at hm' t2
   by_cases he : x = y
   ·subst he
    simp -implicitDefEqProofs (disch:=omega) only [h0,h1,h5,hlt,hm,hm',bne_self_eq_false,go_sem,↓reduceIte,reduceAdd,reduceSub,reduceEqDiff,reduceLeDiff,reduceCtorEq]
    try refine And.intro (by omega) ?_
    refine (hI _ _).2 ⟨?_, ?_, ?_, ?_⟩
    ·exact by rw [t1, t2, hq]
    all_goals exact cl0
   ·have hne : ¬ a = b := by
     rintro rfl
     rw [hm] at hm'
     exact he (Option.some.inj hm')
    simp -implicitDefEqProofs (disch:=omega) only [h0,h1,h5,hlt,hm,hm',he,hne,go_sem,↓reduceIte,reduceAdd,reduceSub,reduceEqDiff,reduceLeDiff,reduceCtorEq]
    try simp [he, hne]
  ·rw [List.take_of_length_le (by omega), List.take_of_length_le (by omega)] at hq
   subst hq
   simp -implicitDefEqProofs (disch:=omega) only [h0,h1,h5,hge,go_sem,↓reduceIte,reduceAdd,reduceSub,reduceEqDiff,reduceLeDiff,reduceCtorEq]
   try simp
 ·have hne : ¬ a = b := fun h => hlen (by rw [h])
  have hlen' : ¬ (a.length : Int) = b.length := by omega
  simp -implicitDefEqProofs (disch:=omega) only [vf23,vb23,hlen',hne,go_sem,↓reduceIte,reduceAdd,reduceSub,reduceEqDiff,reduceLeDiff,reduceCtorEq]
  try simp [hne, hlen']
set_option maxHeartbeats 1000000 in
theorem sameStock_eq (a b : Stk) (hl : a.hs.length < 1000000) : V 22 [a.vv, b.vv] [] = some (.p (.bool (decide (a.size = b.size) && decide (a.hs = b.hs))), []) := by
 refine V_wp (vf := vf22) rfl ?_
 have h := sameH_eq a.hs b.hs hl
 by_cases hz : a.size = b.size
 ·rw [decide_eq_true hz, Bool.true_and]
  simp -implicitDefEqProofs (disch:=omega) only [vf22,vb22,hz,h,go_sem,↓reduceIte,reduceAdd,reduceSub,reduceEqDiff,reduceLeDiff,reduceCtorEq]
 ·rw [decide_eq_false hz, Bool.false_and]
  simp -implicitDefEqProofs (disch:=omega) only [vf22,vb22,hz,go_sem,↓reduceIte,reduceAdd,reduceSub,reduceEqDiff,reduceLeDiff,reduceCtorEq]
set_option maxHeartbeats 8000000 in
theorem limitReached_eq (u0 m0 : Int) (b : Bool) : V 4 [.p (.int .i64 u0), .p (.int .i64 m0), .p (.bool b)] [] = some (.p (.bool true), []) := by
 refine V_wp (vf := vf4) rfl ?_
 have hsane := sane26_eq
 have hr1 := roll_eq [u0]
 have hn1 : V 15 [.ptr (.arg 0 0) 0 0, .p (.int .i64 1000)] [.box [.p (intsP [u0]), .p (.int .i64 0)]] = some (.p (.int .i64 (nextV [u0] 0 1000)), [diceB [u0] (nextA [u0] 0 1000)]) := next_eq [u0] 0 1000 (by simp) (by omega)
 have hr2 := roll_eq [m0]
 have hn2 : V 15 [.ptr (.arg 0 0) 0 0, .p (.int .i64 1000)] [.box [.p (intsP [m0]), .p (.int .i64 0)]] = some (.p (.int .i64 (nextV [m0] 0 1000)), [diceB [m0] (nextA [m0] 0 1000)]) := next_eq [m0] 0 1000 (by simp) (by omega)
 simp only [intsP, List.map_cons, List.map_nil] at hr1 hn1 hr2 hn2
 have ha0 := nextV_nonneg [u0] 0 1000
 have ha1 := nextV_lt [u0] 0 (n := 1000) (by omega)
 have hb0 := nextV_nonneg [m0] 0 1000
 have hb1 := nextV_lt [m0] 0 (n := 1000) (by omega)
 generalize nextV [u0] 0 1000 = a at hn1 ha0 ha1
 generalize nextV [m0] 0 1000 = m at hn2 hb0 hb1
 have hdf : V 21 [] [] = some (.agg [.p (.int .i64 0), .p (.int .i64 0), .p (.int .i64 4611686018427387904), .p (.int .i64 4611686018427387904), .p (.int .i64 4611686018427387904), .p (.bool false)], []) := by
  refine V_wp (vf := vf21) rfl ?_
  simp -implicitDefEqProofs (disch:=omega) only [vf21,vb21,go_sem,↓reduceIte,reduceAdd,reduceSub,reduceEqDiff,reduceLeDiff,reduceCtorEq]
 have hM := l2_ok (1 + a + m) 4611686018427387904 (by simp [amtM]; omega) (by decide)
 have e20 : decide ((20 : Int) = 0) = false := rfl
 have e2a : decide ((20 : Int) = 20) = true := rfl
 have n2 : t2.nodes[1]? = some ⟨2, 1, ⟨#[97]⟩, 0, 0, 0⟩ := rfl
 cases b with
 | false =>
  have hs := stR_ok (u := 1 + a) (w := 0) (z := 0) (by omega) (by omega) (by omega) (by omega) (by omega) (by omega)
  have c1 := grow_eq hs hM in_2 (file := 0) (anon := m) (by omega) (by omega) (by omega) (by omega)
  have c2 := grow_eq hs hM in_2 (file := 0) (anon := m + 1) (by omega) (by omega) (by omega) (by omega)
  rw [reach_a (u := 1 + a) (m := m) (z := 0) (by omega) (by omega) (by omega) (by omega)] at c1
  rw [reach_b (u := 1 + a) (m := m) (by omega) (by omega) (by omega) (by omega)] at c2
  have hx := stR_ok (u := 1 + a + m) (w := 0) (z := 0) (by omega) (by omega) (by omega) (by omega) (by omega) (by omega)
  have hu := rusage_eq t2_ok hx.hs (by simp) n2
  rw [(use_2 (1 + a + m) 0).1] at hu
  have hss := sameStock_eq (stR (1 + a) 0 0) (stR (1 + a) 0 0) (by simp)
  simp only [t2, Tr.vv, nodesP, hgsP, mcsP, l2, Stk.vv, g2, List.map_cons, List.map_nil, Nd.pv, Hg.pv, Mc.pv, Sh.pv, gwF, decide_true, Bool.and_self] at c1 c2 hu hss
  simp -implicitDefEqProofs (disch:=omega) only [vf4,vb4,hr1,hn1,hr2,hn2,hdf,c1,c2,hu,hss,hsane,e20,e2a,Int.natCast_zero,go_sem,↓reduceIte,reduceAdd,reduceSub,reduceEqDiff,reduceLeDiff,reduceCtorEq]
 | true =>
  have hs := stR_ok (u := 1 + a) (w := 0) (z := 1) (by omega) (by omega) (by omega) (by omega) (by omega) (by omega)
  have c1 := grow_eq hs hM in_2 (file := 0) (anon := m) (by omega) (by omega) (by omega) (by omega)
  have c2 := grow_eq hs hM in_2 (file := 0) (anon := m + 1) (by omega) (by omega) (by omega) (by omega)
  rw [reach_a (u := 1 + a) (m := m) (z := 1) (by omega) (by omega) (by omega) (by omega)] at c1
  rw [reach_c (u := 1 + a) (m := m) (by omega) (by omega) (by omega) (by omega)] at c2
  have hx := stR_ok (u := 1 + a + m) (w := 0) (z := 1) (by omega) (by omega) (by omega) (by omega) (by omega) (by omega)
  have hu := rusage_eq t2_ok hx.hs (by simp) n2
  rw [(use_2 (1 + a + m) 0).1] at hu
  have hy := stR_ok (u := 1 + a + m) (w := 1) (z := 1) (by omega) (by omega) (by omega) (by omega) (by omega) (by omega)
  have hv := rusage_eq t2_ok hy.hs (by simp) n2
  rw [(use_2 (1 + a + m) 1).1] at hv
  have s1 := samei_eq [2] [2] (by simp)
  have s2 := sameK_eq [⟨2, 0, 1, 0⟩] [⟨2, 0, 1, 0⟩] (by simp)
  simp only [t2, Tr.vv, nodesP, hgsP, shsP, intsP, mcsP, l2, Stk.vv, g2, List.map_cons, List.map_nil, Nd.pv, Hg.pv, Mc.pv, Sh.pv, gwF, decide_true] at c1 c2 hu hv s1 s2
  simp -implicitDefEqProofs (disch:=omega) only [vf4,vb4,hr1,hn1,hr2,hn2,hdf,c1,c2,hu,hv,s1,s2,hsane,e20,e2a,Int.natCast_zero,go_sem,↓reduceIte,reduceAdd,reduceSub,reduceEqDiff,reduceLeDiff,reduceCtorEq]
end Go.V
