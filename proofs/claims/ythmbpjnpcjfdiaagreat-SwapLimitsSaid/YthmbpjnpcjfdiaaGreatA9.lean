/- Part 9 of what the row stands on: the value machine and its walks. Nothing is assumed. -/
import Derived.Test.YthmbpjnpcjfdiaaGreatA7
set_option linter.unusedSimpArgs false
set_option linter.unusedVariables false
open Nat (reduceAdd reduceSub reduceEqDiff reduceLeDiff)
namespace Go.V
set_option maxHeartbeats 1000000 in
theorem sSwapped_ok {t : Tr} {sw : Stk} (h : StkOk t sw) (hl : sw.hs.length < 1000000) {i : Nat} {m : Nd} (hm : t.nodes[i]? = some m) : V 23 [t.vv, sw.vv, .p (.int .i64 m.id)] [] = some (.tup [.p (.int .i64 (swT t sw.hs m.id)), .p (.int .i64 0)], []) := by
 refine V_wp (vf := vf23) rfl ?_
 have hlen := h.tree.len
 have hck := scheck_eq t sw m.id h.tree.fits (by omega) hl
 rw [checkS_zero.2 ⟨h, i, m, hm, rfl⟩] at hck
 have hsw := sswapped_eq h.tree sw m.id hl h.swp
 simp -implicitDefEqProofs (disch := omega) only [vf23, vb23, hck, hsw, go_sem, ↓reduceIte, reduceAdd, reduceSub, reduceEqDiff, reduceLeDiff, reduceCtorEq]
set_option maxHeartbeats 8000000 in
theorem swapLimits_eq (L : List Int) (n0 : Int) : V 6 [.p (intsP L), .p (.int .i64 n0)] [] = some (.p (.bool true), []) := by
 refine V_wp (vf := vf6) rfl ?_
 have hli := light_eq (L.map (PV.int .i64))
 rw [List.length_map] at hli
 by_cases hL : L.length ≤ 600
 ·rw [decide_eq_true hL] at hli
  have hr2 := roll_eq [n0]
  have hn2 : V 13 [.ptr (.arg 0 0) 0 0, .p (.int .i64 600)] [.box [.p (intsP [n0]), .p (.int .i64 0)]] = some (.p (.int .i64 (nextV [n0] 0 600)), [diceB [n0] (nextA [n0] 0 600)]) := next_eq [n0] 0 600 (by simp) (by omega)
  simp only [intsP, List.map_cons, List.map_nil] at hr2 hn2
  have hd0 := nextV_nonneg [n0] 0 600
  have hd1 := nextV_lt [n0] 0 (n := 600) (by omega)
  generalize nextV [n0] 0 600 = n at hn2 hd0 hd1
  obtain ⟨t, sw, p, l, root, a4, hT, hsh⟩ := shrunk_eq L n hL
  rw [shrinkS_eq hT hd0 (by omega)] at hsh
  have hok := hT.stk.tree
  have hlen := hok.len
  have hsl := hT.stk.hs.length
  have hll := hT.lim.length
  have hpl := hT.pr.length
  have hLm := limits_ok hT hd0 (by omega)
  generalize (endS t sw p l root n 4).1 = x at hsh hLm
  generalize outL (endS t sw p l root n 4).2.1 (effP t sw p root) = a at hsh
  have hxl : x.length ≤ t.nodes.length := hLm.1.hs.length
  have hv := svalid_eq t ⟨x, sw.size⟩ hok.fits (by omega) (by show x.length < _; omega)
  rw [(validS_iff _ _).2 hLm.1] at hv
  simp only [Stk.fv, Stk.vv] at hsh hv
  simp -implicitDefEqProofs (disch := omega) only [vf6, vb6, hli, hr2, hn2, hsh, hv, go_sem, ↓reduceIte, reduceAdd, reduceSub, reduceEqDiff, reduceLeDiff, reduceCtorEq]
  obtain ⟨I, hI⟩ : ∃ I : Nat → St → Prop, ∀ k s, I k s ↔ s.pe 6 = .ptr (.slot 6 0) 0 0 ∧ s.pe 7 = .ptr (.slot 7 0) 0 0 ∧ s.pe 9 = .own (.slot 31 9) 0 0 l.length ∧ s.pe 11 = .ptr (.slot 11 0) 0 0 ∧ s.pe 14 = .p (.int .i64 k) ∧ s.h (.slot 6 0) = some (0, Ob.box [.p (nodesP t.nodes), .p (.int .i64 t.next)]) ∧ s.h (.slot 7 0) = some (0, Ob.box [.own (.slot 31 6) 0 0 sw.hs.length, .p (.int .i64 sw.size)]) ∧ s.h (.slot 11 0) = some (0, Ob.box [.own (.slot 31 11) 0 0 x.length, .p (.int .i64 sw.size)]) ∧ s.h (.slot 31 6) = some (0, Ob.arr 4 (List.map Hg.pv sw.hs)) ∧ s.h (.slot 31 9) = some (0, Ob.arr 2 (List.map Ch.pv l)) ∧ s.h (.slot 31 11) = some (0, Ob.arr 4 (List.map Hg.pv x)) := ⟨_, fun _ _ => Iff.rfl⟩
  refine wp_count (t.nodes.length) I ?_ ?_
  ·refine (hI _ _).2 ⟨?_, ?_, ?_, ?_, ?_, ?_, ?_, ?_, ?_, ?_, ?_⟩
   all_goals exact cl0
  intro k s hk hIk
  obtain ⟨h6, h7, h9, h11, h14, hh6_0, hh7_0, hh11_0, hh31_6, hh31_9, hh31_11⟩ := (hI _ _).1 hIk
  clear hIk
  simp -implicitDefEqProofs (disch := omega) only [h6, h7, h9, h11, h14, hh6_0, hh7_0, hh11_0, hh31_6, hh31_9, hh31_11, go_sem, ↓reduceIte, reduceAdd, reduceSub, reduceEqDiff, reduceLeDiff, reduceCtorEq]
  refine wp_if_d (fun hlt => ?_) (fun hge => ?_)
  ·have hm : t.nodes[k]? = some t.nodes[k] := List.getElem?_eq_getElem hlt
   generalize t.nodes[k] = m at hm
   have g1 := sSwapped_ok hT.stk (by omega) hm
   have g2 := sSwapped_ok hLm.1 (by show x.length < _; omega) hm
   obtain ⟨a1, a2⟩ := hLm.2 m.id ⟨k, m, hm, rfl⟩
   have hmo := most_eq l m.id (by omega)
   simp only [Stk.vv] at g1 g2
   generalize swT t sw.hs m.id = A at g1 a1 a2
   generalize swT t x m.id = B at g2 a1 a2
   generalize mostK l m.id = M at hmo a2
   have n1 : ¬ B < A := by omega
   have n2 : ¬ max A M < B := by omega
   simp -implicitDefEqProofs (disch := omega) only [h6, h7, h9, h11, h14, hh6_0, hh7_0, hh11_0, hh31_6, hh31_9, hh31_11, hlt, hm, g1, g2, hmo, n1, n2, go_sem, ↓reduceIte, reduceAdd, reduceSub, reduceEqDiff, reduceLeDiff, reduceCtorEq]
   try refine And.intro (by omega) ?_
   refine (hI _ _).2 ⟨?_, ?_, ?_, ?_, ?_, ?_, ?_, ?_, ?_, ?_, ?_⟩
   all_goals exact cl0
  ·simp -implicitDefEqProofs (disch := omega) only [h6, h7, h9, h11, h14, hh6_0, hh7_0, hh11_0, hh31_6, hh31_9, hh31_11, hge, sane25_eq, go_sem, ↓reduceIte, reduceAdd, reduceSub, reduceEqDiff, reduceLeDiff, reduceCtorEq]
 ·rw [decide_eq_false hL] at hli
  simp -implicitDefEqProofs (disch := omega) only [vf6, vb6, hli, sane25_eq, go_sem, ↓reduceIte, reduceAdd, reduceSub, reduceEqDiff, reduceLeDiff, reduceCtorEq]
end Go.V
