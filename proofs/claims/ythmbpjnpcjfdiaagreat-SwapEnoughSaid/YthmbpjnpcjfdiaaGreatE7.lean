/- Part 7 of what the row stands on: the value machine and its walks. Nothing is assumed. -/
import Derived.Test.YthmbpjnpcjfdiaaGreatE5
import Derived.Test.YthmbpjnpcjfdiaaGreatE6
set_option linter.unusedSimpArgs false
set_option linter.unusedVariables false
open Nat (reduceAdd reduceSub reduceEqDiff reduceLeDiff)
namespace Go.V
theorem sRoom_ok {t : Tr} {sw : Stk} {l : List Ch} (h : StkOk t sw) (hl : AscOk (knownN t.nodes) 0 4611686018427387904 l) (hsl : sw.hs.length < 1000000) (hll : l.length < 1000000) {i : Nat} {m : Nd} (hm : t.nodes[i]? = some m) : V 25 [t.vv, sw.vv, .p (chsP l), .p (.int .i64 m.id)] [] = some (.tup [.p (.int .i64 (roomS t sw.hs sw.size l m.id)), .p (.int .i64 0)], []) := by
 have hlen := h.tree.len
 have h1 := sRoom_eq t sw l m.id h.tree.fits (by omega) hsl hll
 unfold RoomS at h1
 rw [(validS_iff t sw).2 h, (validLK_iff t l).2 ⟨h.tree, hl⟩, findN_unique h.tree.inc hm] at h1
 exact h1
set_option maxHeartbeats 8000000 in
theorem swapEnough_eq (L : List Int) (n0 : Int) : V 7 [.p (intsP L), .p (.int .i64 n0)] [] = some (.p (.bool true), []) := by
 refine V_wp (vf := vf7) rfl ?_
 have hli := light_eq (L.map (PV.int .i64))
 rw [List.length_map] at hli
 by_cases hL : L.length ≤ 600
 ·rw [decide_eq_true hL] at hli
  have hr2 := roll_eq [n0]
  have hn2 : V 13 [.ptr (.arg 0 0) 0 0, .p (.int .i64 600)] [.box [.p (intsP [n0]), .p (.int .i64 0)]] = some (.p (.int .i64 (nextV [n0] 0 600)), [diceB [n0] (nextA [n0] 0 600)]) := next_eq [n0] 0 600 (by simp) (by omega)
  simp only [intsP, List.map_cons, List.map_nil] at hr2 hn2
  have hd0 := nextV_nonneg [n0] 0 600
  have hd1 := nextV_lt [n0] 0 (n := 600) (by omega)
  generalize nextV [n0] 0 600 = n at hn2 hd0 hd1
  obtain ⟨t, sw, p, l, root, a4, hT, hsh⟩ := shrunk_eq L n hL
  rw [shrinkS_eq hT hd0 (by omega)] at hsh
  have hok := hT.stk.tree
  have hlen := hok.len
  have hsl := hT.stk.hs.length
  have hll := hT.lim.length
  have hpl := hT.pr.length
  have hTk := takes_ok hT hd0 (by omega)
  have hEn := enough_ok hT hd0 (by omega)
  have hEf := hT.eff
  have hel := eff_len hok hT.root hEf
  have hef := rEff_ok hok (cntS_ok hT.stk.hs) hT.pr hT.root (by have := cntS_len sw.hs; omega) (by omega)
  rw [show effL t (cntS sw.hs) p root = effP t sw p root from rfl] at hef
  have hcn := rcounter25_eq sw (by omega) fun y hy => ⟨hT.stk.hs.file y hy, hT.stk.hs.anon y hy⟩
  have hin : ∀ e ∈ effP t sw p root, ∃ (i : Nat) (m : Nd), t.nodes[i]? = some m ∧ m.id = e.group := fun e he => subA_in hok hT.root ((effOk_mem hok hT.root hEf e.group).1 (List.mem_map.2 ⟨e, he, rfl⟩))
  have hxs := (limits_ok hT hd0 (by omega)).1
  generalize (endS t sw p l root n 4).1 = x at hsh hTk hEn hxs
  generalize outL (endS t sw p l root n 4).2.1 (effP t sw p root) = a at hsh hTk hEn
  generalize effP t sw p root = eff at hEn hEf hel hef hin
  have hal := hTk.len
  have hxl : x.length ≤ t.nodes.length := hTk.hg.length
  have hus := fun {i : Nat} {m : Nd} (hm : t.nodes[i]? = some m) => rusage_eq hok hTk.hg (by omega) hm
  have hgx := fun g => sget_eq ⟨x, sw.size⟩ g (by show x.length < _; omega)
  have hrm := fun {i : Nat} {m : Nd} (hm : t.nodes[i]? = some m) => sRoom_ok hxs hT.lim (by show x.length < _; omega) (by omega) hm
  simp only [Stk.fv, Stk.vv, ctrF, ctrV] at hsh hef hcn hus hgx hrm
  simp -implicitDefEqProofs (disch := omega) only [vf7, vb7, hli, hr2, hn2, hsh, go_sem, ↓reduceIte, reduceAdd, reduceSub, reduceEqDiff, reduceLeDiff, reduceCtorEq]
  obtain ⟨I, hI⟩ : ∃ I : Nat → St → Prop, ∀ k s, I k s ↔ ∃ (s0 : Int), s0 = sumI ((a.take k).map fun y => y.file + y.anon) ∧ 0 ≤ s0 ∧ s0 ≤ 1200 * k ∧ s.pe 1 = .p (.int .i64 n) ∧ s.pe 6 = .ptr (.slot 6 0) 0 0 ∧ s.pe 7 = .ptr (.slot 7 0) 0 0 ∧ s.pe 8 = .own (.slot 36 8) 0 0 p.length ∧ s.pe 9 = .own (.slot 36 9) 0 0 l.length ∧ s.pe 10 = .p (.int .i64 root) ∧ s.pe 11 = .ptr (.slot 11 0) 0 0 ∧ s.pe 12 = .own (.slot 36 13) 0 0 a.length ∧ s.pe 14 = .p (.int .i64 s0) ∧ s.pe 15 = .p (.int .i64 k) ∧ s.h (.slot 6 0) = some (0, Ob.box [.p (nodesP t.nodes), .p (.int .i64 t.next)]) ∧ s.h (.slot 7 0) = some (0, Ob.box [.own (.slot 36 6) 0 0 sw.hs.length, .p (.int .i64 sw.size)]) ∧ s.h (.slot 11 0) = some (0, Ob.box [.own (.slot 36 11) 0 0 x.length, .p (.int .i64 sw.size)]) ∧ s.h (.slot 36 6) = some (0, Ob.arr 4 (List.map Hg.pv sw.hs)) ∧ s.h (.slot 36 8) = some (0, Ob.arr 3 (List.map Pr.pv p)) ∧ s.h (.slot 36 9) = some (0, Ob.arr 2 (List.map Ch.pv l)) ∧ s.h (.slot 36 11) = some (0, Ob.arr 4 (List.map Hg.pv x)) ∧ s.h (.slot 36 13) = some (0, Ob.arr 4 (List.map Sh.pv a)) := ⟨_, fun _ _ => Iff.rfl⟩
  refine wp_count (a.length) I ?_ ?_
  ·refine (hI _ _).2 ⟨0, ?_, ?_, ?_, ?_, ?_, ?_, ?_, ?_, ?_, ?_, ?_, ?_, ?_, ?_, ?_, ?_, ?_, ?_, ?_, ?_, ?_⟩
   ·exact by simp [sumI]
   ·exact cl3
   ·exact cl3
   all_goals exact cl0
  intro k s hk hIk
  obtain ⟨s0, hs, hs0, hs1, h1, h6, h7, h8, h9, h10, h11, h12, h14, h15, hh6_0, hh7_0, hh11_0, hh36_6, hh36_8, hh36_9, hh36_11, hh36_13⟩ := (hI _ _).1 hIk
  clear hIk
  simp -implicitDefEqProofs (disch := omega) only [h1, h6, h7, h8, h9, h10, h11, h12, h14, h15, hh6_0, hh7_0, hh11_0, hh36_6, hh36_8, hh36_9, hh36_11, hh36_13, go_sem, ↓reduceIte, reduceAdd, reduceSub, reduceEqDiff, reduceLeDiff, reduceCtorEq]
  refine wp_if_d (fun hlt => ?_) (fun hge => ?_)
  ·have hm : a[k]? = some a[k] := List.getElem?_eq_getElem hlt
   have htk := sumI_take_succ (f := fun y => y.file + y.anon) hm
   generalize a[k] = y at hm htk
   obtain ⟨⟨e1, e2⟩, ⟨e3, e4⟩, ⟨e5, e6⟩, e7⟩ := hTk.each y (List.mem_of_getElem? hm)
   simp -implicitDefEqProofs (disch := omega) only [h1, h6, h7, h8, h9, h10, h11, h12, h14, h15, hh6_0, hh7_0, hh11_0, hh36_6, hh36_8, hh36_9, hh36_11, hh36_13, hlt, hm, go_sem, ↓reduceIte, reduceAdd, reduceSub, reduceEqDiff, reduceLeDiff, reduceCtorEq]
   try refine And.intro (by omega) ?_
   refine (hI _ _).2 ⟨s0 + (y.file + y.anon), ?_, ?_, ?_, ?_, ?_, ?_, ?_, ?_, ?_, ?_, ?_, ?_, ?_, ?_, ?_, ?_, ?_, ?_, ?_, ?_, ?_⟩
   ·exact by rw [htk, hs]
   ·omega
   ·exact by push_cast; omega
   all_goals exact cl0
  ·rw [List.take_of_length_le (by omega)] at hs
   rw [← hs] at hEn
   by_cases hz : s0 = n
   ·have hz' : decide (s0 = n) = true := decide_eq_true hz
    simp -implicitDefEqProofs (disch := omega) only [h1, h6, h7, h8, h9, h10, h11, h12, h14, h15, hh6_0, hh7_0, hh11_0, hh36_6, hh36_8, hh36_9, hh36_11, hh36_13, hge, hz', sane25_eq, go_sem, ↓reduceIte, reduceAdd, reduceSub, reduceEqDiff, reduceLeDiff, reduceCtorEq]
   ·have hE2 := hEn hz
    simp -implicitDefEqProofs (disch := omega) only [h1, h6, h7, h8, h9, h10, h11, h12, h14, h15, hh6_0, hh7_0, hh11_0, hh36_6, hh36_8, hh36_9, hh36_11, hh36_13, hge, hz, hcn, hef, go_sem, ↓reduceIte, reduceAdd, reduceSub, reduceEqDiff, reduceLeDiff, reduceCtorEq]
    obtain ⟨J, hJ⟩ : ∃ I : Nat → St → Prop, ∀ j s, I j s ↔ ∃ (v77_1 : Nat), s.pe 6 = .ptr (.slot 6 0) 0 0 ∧ s.pe 9 = .own (.slot 36 9) 0 0 l.length ∧ s.pe 10 = .p (.int .i64 root) ∧ s.pe 11 = .ptr (.slot 11 0) 0 0 ∧ s.pe 16 = .own (.slot 77 1) v77_1 0 eff.length ∧ s.pe 18 = .p (.int .i64 j) ∧ s.h (.slot 6 0) = some (0, Ob.box [.p (nodesP t.nodes), .p (.int .i64 t.next)]) ∧ s.h (.slot 11 0) = some (0, Ob.box [.own (.slot 36 11) 0 0 x.length, .p (.int .i64 sw.size)]) ∧ s.h (.slot 36 11) = some (0, Ob.arr 4 (List.map Hg.pv x)) ∧ s.h (.slot 36 9) = some (0, Ob.arr 2 (List.map Ch.pv l)) ∧ s.h (.slot 77 1) = some (v77_1, Ob.arr 3 (List.map Pr.pv eff)) := ⟨_, fun _ _ => Iff.rfl⟩
    refine wp_count (2) J ?_ ?_
    ·refine (hJ _ _).2 ⟨nv (s.h (.slot 77 1)), ?_, ?_, ?_, ?_, ?_, ?_, ?_, ?_, ?_, ?_, ?_⟩
     all_goals exact cl0
    intro j s hj hJk
    obtain ⟨v77_1, h6, h9, h10, h11, h16, h18, hh6_0, hh11_0, hh36_11, hh36_9, hh77_1⟩ := (hJ _ _).1 hJk
    clear hJk
    simp -implicitDefEqProofs (disch := omega) only [h6, h9, h10, h11, h16, h18, hh6_0, hh11_0, hh36_11, hh36_9, hh77_1, go_sem, ↓reduceIte, reduceAdd, reduceSub, reduceEqDiff, reduceLeDiff, reduceCtorEq]
    refine wp_if_d (fun hjl => ?_) (fun hjg => ?_)
    ·obtain ⟨out, ho⟩ : ∃ out, decide ((j : Int) = 1) = out := ⟨_, rfl⟩
     obtain ⟨hP, hc⟩ := hE2 out
     have hcap := rcapacity_eq t (partsS t sw.size l eff out true x) root (by omega) (by simp; omega)
     rw [CapP, if_pos ((validP_iff t _ _).2 hP), hc] at hcap
     simp -implicitDefEqProofs (disch := omega) only [h6, h9, h10, h11, h16, h18, hh6_0, hh11_0, hh36_11, hh36_9, hh77_1, hjl, go_sem, ↓reduceIte, reduceAdd, reduceSub, reduceEqDiff, reduceLeDiff, reduceCtorEq]
     obtain ⟨Q, hQ⟩ : ∃ I : Nat → St → Prop, ∀ q s, I q s ↔ ∃ (acc : List Pt) (w : Nat), acc = (eff.take q).map (prtS t x sw.size l (ownS out) (prS true) out) ∧ acc.length ≤ q ∧ s.pe 6 = .ptr (.slot 6 0) 0 0 ∧ s.pe 9 = .own (.slot 36 9) 0 0 l.length ∧ s.pe 10 = .p (.int .i64 root) ∧ s.pe 11 = .ptr (.slot 11 0) 0 0 ∧ s.pe 16 = .own (.slot 77 1) v77_1 0 eff.length ∧ s.pe 18 = .p (.int .i64 ↑j) ∧ s.pe 19 = .own (.slot 19 0) w 0 acc.length ∧ s.pe 20 = .p (.int .i64 q) ∧ s.h (.slot 6 0) = some (0, Ob.box [.p (nodesP t.nodes), .p (.int .i64 t.next)]) ∧ s.h (.slot 11 0) = some (0, Ob.box [.own (.slot 36 11) 0 0 x.length, .p (.int .i64 sw.size)]) ∧ s.h (.slot 36 11) = some (0, Ob.arr 4 (List.map Hg.pv x)) ∧ s.h (.slot 19 0) = some (w, Ob.arr 5 (acc.map Pt.pv)) ∧ s.h (.slot 36 9) = some (0, Ob.arr 2 (List.map Ch.pv l)) ∧ s.h (.slot 77 1) = some (v77_1, Ob.arr 3 (List.map Pr.pv eff)) := ⟨_, fun _ _ => Iff.rfl⟩
     refine wp_count (eff.length) Q ?_ ?_
     ·refine (hQ _ _).2 ⟨[], nv (fzOb [19] s.h (.slot 19 0)), ?_, ?_, ?_, ?_, ?_, ?_, ?_, ?_, ?_, ?_, ?_, ?_, ?_, ?_, ?_, ?_⟩
      ·rfl
      ·exact Nat.zero_le _
      all_goals exact cl0
     intro q s hq hQk
     obtain ⟨acc, w, hacc, hal2, h6, h9, h10, h11, h16, h18, h19, h20, hh6_0, hh11_0, hh36_11, hh19_0, hh36_9, hh77_1⟩ := (hQ _ _).1 hQk
     clear hQk
     simp -implicitDefEqProofs (disch := omega) only [h6, h9, h10, h11, h16, h18, h19, h20, hh6_0, hh11_0, hh36_11, hh19_0, hh36_9, hh77_1, go_sem, ↓reduceIte, reduceAdd, reduceSub, reduceEqDiff, reduceLeDiff, reduceCtorEq]
     refine wp_if_d (fun hql => ?_) (fun hqg => ?_)
     ·have hx : eff[q]? = some eff[q] := List.getElem?_eq_getElem hql
      have htk := take_snoc hx
      generalize eff[q] = e at hx htk
      obtain ⟨i, m, hmi, hme⟩ := hin e (List.mem_of_getElem? hx)
      have hu := hus hmi
      have hr := hrm hmi
      rw [hme] at hu hr
      have hg := hgx e.group
      obtain ⟨y, hy⟩ : ∃ y, y = prtS t x sw.size l (ownS out) (prS true) out e := ⟨_, rfl⟩
      have y0 : e.group = y.group := by rw [hy]; rfl
      have y1 : usedF t (cntS x) e.group = y.usage := by rw [hy]; rfl
      have y2 : e.least = y.protect := by rw [hy]; rfl
      rw [y1] at hu
      cases out with
      | false =>
       have y3 : (getS x e.group).file = y.own := by rw [hy]; rfl
       have y4 : y.room = 4611686018427387904 := by rw [hy]; rfl
       simp only [Hg.vv, y3] at hg
       simp -implicitDefEqProofs (disch := omega) only [h6, h9, h10, h11, h16, h18, h19, h20, hh6_0, hh11_0, hh36_11, hh19_0, hh36_9, hh77_1, hql, hx, hu, hg, y2, ho, go_sem, ↓reduceIte, reduceAdd, reduceSub, reduceEqDiff, reduceLeDiff, reduceCtorEq]
       try refine And.intro (by omega) ?_
       refine (hQ _ _).2 ⟨acc ++ [y], w + 1, ?_, ?_, ?_, ?_, ?_, ?_, ?_, ?_, ?_, ?_, ?_, ?_, ?_, ?_, ?_, ?_⟩
       ·exact by rw [htk, List.map_append, ← hacc, hy]; rfl
       ·exact by simp; omega
       all_goals exact cl0
      | true =>
       have y3 : (getS x e.group).anon = y.own := by rw [hy]; rfl
       have y4 : roomS t x sw.size l e.group = y.room := by rw [hy]; rfl
       rw [y4] at hr
       simp only [Hg.vv, y3] at hg
       simp -implicitDefEqProofs (disch := omega) only [h6, h9, h10, h11, h16, h18, h19, h20, hh6_0, hh11_0, hh36_11, hh19_0, hh36_9, hh77_1, hql, hx, hu, hg, y2, ho, hr, go_sem, ↓reduceIte, reduceAdd, reduceSub, reduceEqDiff, reduceLeDiff, reduceCtorEq]
       try refine And.intro (by omega) ?_
       refine (hQ _ _).2 ⟨acc ++ [y], w + 1, ?_, ?_, ?_, ?_, ?_, ?_, ?_, ?_, ?_, ?_, ?_, ?_, ?_, ?_, ?_, ?_⟩
       ·exact by rw [htk, List.map_append, ← hacc, hy]; rfl
       ·exact by simp; omega
       all_goals exact cl0
     ·rw [List.take_of_length_le (by omega)] at hacc
      rw [show partsS t sw.size l eff out true x = acc from hacc.symm] at hcap
      simp -implicitDefEqProofs (disch := omega) only [h6, h9, h10, h11, h16, h18, h19, h20, hh6_0, hh11_0, hh36_11, hh19_0, hh36_9, hh77_1, hqg, hcap, go_sem, ↓reduceIte, reduceAdd, reduceSub, reduceEqDiff, reduceLeDiff, reduceCtorEq]
      try refine And.intro (by omega) ?_
      refine (hJ _ _).2 ⟨v77_1, ?_, ?_, ?_, ?_, ?_, ?_, ?_, ?_, ?_, ?_, ?_⟩
      all_goals exact cl0
    ·simp -implicitDefEqProofs (disch := omega) only [h6, h9, h10, h11, h16, h18, hh6_0, hh11_0, hh36_11, hh36_9, hh77_1, hjg, sane25_eq, go_sem, ↓reduceIte, reduceAdd, reduceSub, reduceEqDiff, reduceLeDiff, reduceCtorEq]
 ·rw [decide_eq_false hL] at hli
  simp -implicitDefEqProofs (disch := omega) only [vf7, vb7, hli, sane25_eq, go_sem, ↓reduceIte, reduceAdd, reduceSub, reduceEqDiff, reduceLeDiff, reduceCtorEq]
end Go.V
