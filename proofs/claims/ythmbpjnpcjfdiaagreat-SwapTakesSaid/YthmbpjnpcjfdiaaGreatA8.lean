/- Part 8 of what the row stands on: the value machine and its walks. Nothing is assumed. -/
import Derived.Test.YthmbpjnpcjfdiaaGreatA7
set_option linter.unusedSimpArgs false
set_option linter.unusedVariables false
open Nat (reduceAdd reduceSub reduceEqDiff reduceLeDiff)
namespace Go.V
set_option maxHeartbeats 8000000 in
theorem swapTakes_eq (L : List Int) (n0 : Int) : V 5 [.p (intsP L), .p (.int .i64 n0)] [] = some (.p (.bool true), []) := by
 refine V_wp (vf := vf5) rfl ?_
 have hli := light_eq (L.map (PV.int .i64))
 rw [List.length_map] at hli
 by_cases hL : L.length ≤ 600
 ·rw [decide_eq_true hL] at hli
  have hr2 := roll_eq [n0]
  have hn2 : V 13 [.ptr (.arg 0 0) 0 0, .p (.int .i64 600)] [.box [.p (intsP [n0]), .p (.int .i64 0)]] = some (.p (.int .i64 (nextV [n0] 0 600)), [diceB [n0] (nextA [n0] 0 600)]) := next_eq [n0] 0 600 (by simp) (by omega)
  simp only [intsP, List.map_cons, List.map_nil] at hr2 hn2
  have hd0 := nextV_nonneg [n0] 0 600
  have hd1 := nextV_lt [n0] 0 (n := 600) (by omega)
  generalize nextV [n0] 0 600 = n at hn2 hd0 hd1
  obtain ⟨t, sw, p, l, root, a4, hT, hsh⟩ := shrunk_eq L n hL
  rw [shrinkS_eq hT hd0 (by omega)] at hsh
  have hok := hT.stk.tree
  have hlen := hok.len
  have hsl := hT.stk.hs.length
  have hll := hT.lim.length
  have hpl := hT.pr.length
  have hTk := takes_ok hT hd0 (by omega)
  generalize (endS t sw p l root n 4).1 = x at hsh hTk
  generalize outL (endS t sw p l root n 4).2.1 (effP t sw p root) = a at hsh hTk
  have hal := hTk.len
  have hxl := hTk.hg.length
  simp only [Stk.fv, Stk.vv] at hsh
  simp -implicitDefEqProofs (disch := omega) only [vf5, vb5, hli, hr2, hn2, hsh, go_sem, ↓reduceIte, reduceAdd, reduceSub, reduceEqDiff, reduceLeDiff, reduceCtorEq]
  obtain ⟨I, hI⟩ : ∃ I : Nat → St → Prop, ∀ k s, I k s ↔ ∃ (s0 : Int), s0 = sumI (((t.nodes.map (·.id)).take k).map fun id => (toldK a id).file + (toldK a id).anon) ∧ s.pe 1 = .p (.int .i64 n) ∧ s.pe 6 = .ptr (.slot 6 0) 0 0 ∧ s.pe 7 = .ptr (.slot 7 0) 0 0 ∧ s.pe 10 = .p (.int .i64 root) ∧ s.pe 11 = .ptr (.slot 11 0) 0 0 ∧ s.pe 12 = .own (.slot 32 13) 0 0 a.length ∧ s.pe 14 = .p (.int .i64 s0) ∧ s.pe 15 = .p (.int .i64 k) ∧ s.h (.slot 6 0) = some (0, Ob.box [.p (nodesP t.nodes), .p (.int .i64 t.next)]) ∧ s.h (.slot 7 0) = some (0, Ob.box [.own (.slot 32 6) 0 0 sw.hs.length, .p (.int .i64 sw.size)]) ∧ s.h (.slot 11 0) = some (0, Ob.box [.own (.slot 32 11) 0 0 x.length, .p (.int .i64 sw.size)]) ∧ s.h (.slot 32 6) = some (0, Ob.arr 4 (List.map Hg.pv sw.hs)) ∧ s.h (.slot 32 11) = some (0, Ob.arr 4 (List.map Hg.pv x)) ∧ s.h (.slot 32 13) = some (0, Ob.arr 4 (List.map Sh.pv a)) := ⟨_, fun _ _ => Iff.rfl⟩
  refine wp_count (t.nodes.length) I ?_ ?_
  ·refine (hI _ _).2 ⟨0, ?_, ?_, ?_, ?_, ?_, ?_, ?_, ?_, ?_, ?_, ?_, ?_, ?_, ?_, ?_⟩
   ·exact by simp [sumI]
   all_goals exact cl0
  intro k s hk hIk
  obtain ⟨s0, hs, h1, h6, h7, h10, h11, h12, h14, h15, hh6_0, hh7_0, hh11_0, hh32_6, hh32_11, hh32_13⟩ := (hI _ _).1 hIk
  clear hIk
  simp -implicitDefEqProofs (disch := omega) only [h1, h6, h7, h10, h11, h12, h14, h15, hh6_0, hh7_0, hh11_0, hh32_6, hh32_11, hh32_13, go_sem, ↓reduceIte, reduceAdd, reduceSub, reduceEqDiff, reduceLeDiff, reduceCtorEq]
  refine wp_if_d (fun hlt => ?_) (fun hge => ?_)
  ·have hm : t.nodes[k]? = some t.nodes[k] := List.getElem?_eq_getElem hlt
   generalize t.nodes[k] = m at hm
   have hin : InN t.nodes m.id := ⟨k, m, hm, rfl⟩
   have g1 := sget_eq sw m.id (by omega)
   have g2 := sget_eq ⟨x, sw.size⟩ m.id (by show x.length < _; omega)
   have b1 := hT.stk.hs.get m.id
   have b2 := hTk.hg.get m.id
   have hgt := hTk.get m.id hin
   have hnn := hTk.non m.id hin
   have hoff := hTk.off m.id hin
   have hanc := ranc_eq t m.id (by omega)
   have hal2 := ancR_len t m.id
   have hha := has3_eq (ancR t m.id) root (by omega)
   have hst := sumI_take_succ (l := t.nodes.map (·.id)) (f := fun id => (toldK a id).file + (toldK a id).anon) (k := k) (x := m.id) (by rw [List.getElem?_map, hm]; rfl)
   have hs1 := sumI_take_le (t.nodes.map (·.id)) (f := fun id => (toldK a id).file + (toldK a id).anon) (k + 1) fun id hid => by
    obtain ⟨m', hm', rfl⟩ := List.mem_map.1 hid
    obtain ⟨i', hi'⟩ := List.getElem?_of_mem hm'
    have := hTk.non m'.id ⟨i', m', hi', rfl⟩
    omega
   have hs2 := sumI_map_nonneg ((t.nodes.map (·.id)).take k) (f := fun id => (toldK a id).file + (toldK a id).anon) fun id hid => by
    obtain ⟨m', hm', rfl⟩ := List.mem_map.1 (List.mem_of_mem_take hid)
    obtain ⟨i', hi'⟩ := List.getElem?_of_mem hm'
    have := hTk.non m'.id ⟨i', m', hi', rfl⟩
    omega
   have hsum := hTk.sum
   rw [← hs] at hst hs2
   rw [hst] at hs1
   generalize sumI ((t.nodes.map (·.id)).map fun id => (toldK a id).file + (toldK a id).anon) = tot at hs1 hsum
   have hgr := getS_group sw.hs m.id
   rw [hgt] at g2 b2
   generalize getS sw.hs m.id = b at g1 g2 b1 b2 hgr
   generalize h0 : decide (root ∈ ancR t m.id) = anc at hha
   obtain ⟨bg, bf, ba, bs⟩ := b
   simp only at hgr
   subst hgr
   simp only [inPg] at b1 b2
   obtain ⟨⟨p1, p2⟩, ⟨p3, p4⟩, p5, p6⟩ := b1
   obtain ⟨⟨q1, q2⟩, ⟨q3, q4⟩, q5, q6⟩ := b2
   generalize hK : toldK a m.id = K at *
   simp only [Stk.vv, Hg.vv] at g1 g2
   simp -implicitDefEqProofs (disch := omega) only [h1, h6, h7, h10, h11, h12, h14, h15, hh6_0, hh7_0, hh11_0, hh32_6, hh32_11, hh32_13, hlt, hm, g1, g2, go_sem, ↓reduceIte, reduceAdd, reduceSub, reduceEqDiff, reduceLeDiff, reduceCtorEq]
   obtain ⟨J, hJ⟩ : ∃ I : Nat → St → Prop, ∀ j s, I j s ↔ ∃ (kk : Sh) (v17_0 : Nat) (v18_0 : Nat) (v19_0 : Nat), lastK (a.drop j) m.id kk = K ∧ s.pe 1 = .p (.int .i64 n) ∧ s.pe 6 = .ptr (.slot 6 0) 0 0 ∧ s.pe 7 = .ptr (.slot 7 0) 0 0 ∧ s.pe 10 = .p (.int .i64 root) ∧ s.pe 11 = .ptr (.slot 11 0) 0 0 ∧ s.pe 12 = .own (.slot 32 13) 0 0 a.length ∧ s.pe 14 = .p (.int .i64 s0) ∧ s.pe 15 = .p (.int .i64 ↑k) ∧ s.pe 16 = .p (.int .i64 m.id) ∧ s.pe 17 = .ptr (.slot 17 0) v17_0 0 ∧ s.pe 18 = .ptr (.slot 18 0) v18_0 0 ∧ s.pe 19 = .ptr (.slot 19 0) v19_0 0 ∧ s.pe 20 = .p (.int .i64 j) ∧ s.h (.slot 6 0) = some (0, Ob.box [.p (nodesP t.nodes), .p (.int .i64 t.next)]) ∧ s.h (.slot 7 0) = some (0, Ob.box [.own (.slot 32 6) 0 0 sw.hs.length, .p (.int .i64 sw.size)]) ∧ s.h (.slot 11 0) = some (0, Ob.box [.own (.slot 32 11) 0 0 x.length, .p (.int .i64 sw.size)]) ∧ s.h (.slot 32 6) = some (0, Ob.arr 4 (List.map Hg.pv sw.hs)) ∧ s.h (.slot 32 11) = some (0, Ob.arr 4 (List.map Hg.pv x)) ∧ s.h (.slot 17 0) = some (v17_0, Ob.box [.p (.int .i64 m.id), .p (.int .i64 bf), .p (.int .i64 ba), .p (.int .i64 bs)]) ∧ s.h (.slot 18 0) = some (v18_0, Ob.box [.p (.int .i64 m.id), .p (.int .i64 (bf - K.file)), .p (.int .i64 (ba - K.anon)), .p (.int .i64 (bs + K.anon))]) ∧ s.h (.slot 19 0) = some (v19_0, Ob.box [.p (.int .i64 kk.group), .p (.int .i64 kk.file), .p (.int .i64 kk.anon), .p (.int .i64 kk.low)]) ∧ s.h (.slot 32 13) = some (0, Ob.arr 4 (List.map Sh.pv a)) := ⟨_, fun _ _ => Iff.rfl⟩
   refine wp_count (a.length) J ?_ ?_
   ·refine (hJ _ _).2 ⟨⟨m.id, 0, 0, 0⟩, nv (fzOb [130] s.h (.slot 17 0)), nv (fzOb [130] s.h (.slot 18 0)), nv (fzOb [130] s.h (.slot 19 0)), ?_, ?_, ?_, ?_, ?_, ?_, ?_, ?_, ?_, ?_, ?_, ?_, ?_, ?_, ?_, ?_, ?_, ?_, ?_, ?_, ?_, ?_, ?_⟩
    ·exact hK
    all_goals exact cl0
   intro j s hj hJk
   obtain ⟨kk, v17_0, v18_0, v19_0, hl, h1, h6, h7, h10, h11, h12, h14, h15, h16, h17, h18, h19, h20, hh6_0, hh7_0, hh11_0, hh32_6, hh32_11, hh17_0, hh18_0, hh19_0, hh32_13⟩ := (hJ _ _).1 hJk
   clear hJk
   simp -implicitDefEqProofs (disch := omega) only [h1, h6, h7, h10, h11, h12, h14, h15, h16, h17, h18, h19, h20, hh6_0, hh7_0, hh11_0, hh32_6, hh32_11, hh17_0, hh18_0, hh19_0, hh32_13, go_sem, ↓reduceIte, reduceAdd, reduceSub, reduceEqDiff, reduceLeDiff, reduceCtorEq]
   refine wp_if_d (fun hjl => ?_) (fun hjg => ?_)
   ·have hx : a[j]? = some a[j] := List.getElem?_eq_getElem hjl
    have hdr : a.drop j = a[j] :: a.drop (j + 1) := List.drop_eq_getElem_cons hjl
    generalize a[j] = y at hx hdr
    rw [hdr] at hl
    by_cases hy : y.group = m.id
    ·have hl' : lastK (a.drop (j + 1)) m.id y = K := by rw [← hl, lastK, lastK, List.foldl_cons, if_pos hy]
     simp -implicitDefEqProofs (disch := omega) only [h1, h6, h7, h10, h11, h12, h14, h15, h16, h17, h18, h19, h20, hh6_0, hh7_0, hh11_0, hh32_6, hh32_11, hh17_0, hh18_0, hh19_0, hh32_13, hjl, hx, hy, go_sem, ↓reduceIte, reduceAdd, reduceSub, reduceEqDiff, reduceLeDiff, reduceCtorEq]
     try refine And.intro (by omega) ?_
     refine (hJ _ _).2 ⟨y, v17_0, v18_0, v19_0, ?_, ?_, ?_, ?_, ?_, ?_, ?_, ?_, ?_, ?_, ?_, ?_, ?_, ?_, ?_, ?_, ?_, ?_, ?_, ?_, ?_, ?_, ?_⟩
     ·exact hl'
     all_goals exact cl0
    ·have hl' : lastK (a.drop (j + 1)) m.id kk = K := by rw [← hl, lastK, lastK, List.foldl_cons, if_neg hy]
     simp -implicitDefEqProofs (disch := omega) only [h1, h6, h7, h10, h11, h12, h14, h15, h16, h17, h18, h19, h20, hh6_0, hh7_0, hh11_0, hh32_6, hh32_11, hh17_0, hh18_0, hh19_0, hh32_13, hjl, hx, hy, go_sem, ↓reduceIte, reduceAdd, reduceSub, reduceEqDiff, reduceLeDiff, reduceCtorEq]
     try refine And.intro (by omega) ?_
     refine (hJ _ _).2 ⟨kk, v17_0, v18_0, v19_0, ?_, ?_, ?_, ?_, ?_, ?_, ?_, ?_, ?_, ?_, ?_, ?_, ?_, ?_, ?_, ?_, ?_, ?_, ?_, ?_, ?_, ?_, ?_⟩
     ·exact hl'
     all_goals exact cl0
   ·rw [List.drop_of_length_le (by omega)] at hl
    have hl' : kk = K := hl
    subst hl'
    have n1 : ¬ kk.file < 0 := by omega
    have n2 : ¬ kk.anon < 0 := by omega
    cases anc with
    | true =>
     simp -implicitDefEqProofs (disch := omega) only [h1, h6, h7, h10, h11, h12, h14, h15, h16, h17, h18, h19, h20, hh6_0, hh7_0, hh11_0, hh32_6, hh32_11, hh17_0, hh18_0, hh19_0, hh32_13, hjg, hm, n1, n2, hanc, hha, go_sem, ↓reduceIte, reduceAdd, reduceSub, reduceEqDiff, reduceLeDiff, reduceCtorEq]
     try refine And.intro (by omega) ?_
     refine (hI _ _).2 ⟨s0 + (kk.file + kk.anon), ?_, ?_, ?_, ?_, ?_, ?_, ?_, ?_, ?_, ?_, ?_, ?_, ?_, ?_, ?_⟩
     ·exact by rw [hst]
     all_goals exact cl0
    | false =>
     have n3 : ¬ 0 < kk.file + kk.anon := by
      have := hoff (by simpa using h0)
      omega
     simp -implicitDefEqProofs (disch := omega) only [h1, h6, h7, h10, h11, h12, h14, h15, h16, h17, h18, h19, h20, hh6_0, hh7_0, hh11_0, hh32_6, hh32_11, hh17_0, hh18_0, hh19_0, hh32_13, hjg, hm, n1, n2, n3, hanc, hha, go_sem, ↓reduceIte, reduceAdd, reduceSub, reduceEqDiff, reduceLeDiff, reduceCtorEq]
     try refine And.intro (by omega) ?_
     refine (hI _ _).2 ⟨s0 + (kk.file + kk.anon), ?_, ?_, ?_, ?_, ?_, ?_, ?_, ?_, ?_, ?_, ?_, ?_, ?_, ?_, ?_⟩
     ·exact by rw [hst]
     all_goals exact cl0
  ·rw [List.take_of_length_le (by simp; omega)] at hs
   have hsum := hTk.sum
   rw [← hs] at hsum
   simp -implicitDefEqProofs (disch := omega) only [h1, h6, h7, h10, h11, h12, h14, h15, hh6_0, hh7_0, hh11_0, hh32_6, hh32_11, hh32_13, hge, hsum, sane25_eq, go_sem, ↓reduceIte, reduceAdd, reduceSub, reduceEqDiff, reduceLeDiff, reduceCtorEq]
 ·rw [decide_eq_false hL] at hli
  simp -implicitDefEqProofs (disch := omega) only [vf5, vb5, hli, sane25_eq, go_sem, ↓reduceIte, reduceAdd, reduceSub, reduceEqDiff, reduceLeDiff, reduceCtorEq]
end Go.V
