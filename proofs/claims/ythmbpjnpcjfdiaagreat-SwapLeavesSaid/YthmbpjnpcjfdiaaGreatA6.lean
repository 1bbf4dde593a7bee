/- Part 6 of what the row stands on: the value machine and its walks. Nothing is assumed. -/
import Derived.Test.YthmbpjnpcjfdiaaGreatA5
set_option linter.unusedSimpArgs false
set_option linter.unusedVariables false
open Nat (reduceAdd reduceSub reduceEqDiff reduceLeDiff)
namespace Go.V
def wantS (hs : List Hg) (id par g : Int) : Hg := if g = par then addH (getS hs g) (getS hs id) else if g = id then noH id else getS hs g
theorem rem_factsS {t : Tr} {sw : Stk} (h : StkOk t sw) {i : Nat} {m : Nd} (hm : t.nodes[i]? = some m) :
  ((RemS t sw m.id).2 ≠ 0 ∧ (m.id = 1 ∨ kidsN t.nodes m.id ≠ [])) ∨ ((RemS t sw m.id).2 = 0 ∧ m.parent ≠ m.id ∧ (RemS t sw m.id).1.hs.length < 1000 ∧ ∀ g, getS (RemS t sw m.id).1.hs g = wantS sw.hs m.id m.parent g) := by
 have hT := h.tree
 have hc : checkS t sw m.id = 0 := checkS_zero.2 ⟨h, i, m, hm, rfl⟩
 unfold RemS
 rw [if_pos hc]
 by_cases h1 : m.id = 1
 ·rw [if_pos h1]
  exact .inl ⟨by simp, .inl h1⟩
 ·rw [if_neg h1]
  by_cases h2 : kidsN t.nodes m.id = []
  ·rw [if_neg (by simp [h2])]
   right
   have hf := findN_unique hT.inc hm
   rw [hf, Option.getD_some]
   have hne : m.parent ≠ m.id := by
    rcases hT.nodeAt hm with ⟨h3, _⟩ | ⟨_, _, j, p, hj, hp, he⟩
    ·intro _
     subst h3
     obtain ⟨r, hr, hr1⟩ := root_at hT
     rw [hm] at hr
     cases hr
     exact h1 hr1
    ·intro he2
     have := (hT.idx hp hm (by rw [he, he2])).1
     omega
   have hlen := h.hs.length
   have htl := hT.len
   have l1 := putS_length sw.hs (noH m.id)
   have l2 := putS_length (putS sw.hs (noH m.id)) (addH (getS sw.hs m.parent) (getS sw.hs m.id))
   refine ⟨rfl, hne, by simp only; omega, fun g => ?_⟩
   show getS (putS (putS sw.hs (noH m.id)) (addH (getS sw.hs m.parent) (getS sw.hs m.id))) g = _
   rw [putS_get, putS_get]
   have hg : (addH (getS sw.hs m.parent) (getS sw.hs m.id)).group = m.parent := getS_group _ _
   rw [hg]
   unfold wantS
   by_cases hgp : g = m.parent
   ·rw [if_pos hgp, if_pos hgp, hgp]
   ·rw [if_neg hgp, if_neg hgp]
  ·rw [if_pos h2]
   exact .inl ⟨by simp, .inr h2⟩
set_option maxHeartbeats 4000000 in
theorem swapLeaves_eq (L : List Int) : V 8 [.p (intsP L)] [] = some (.p (.bool true), []) := by
 refine V_wp (vf := vf8) rfl ?_
 have hli := light_eq (L.map (PV.int .i64))
 rw [List.length_map] at hli
 by_cases hL : L.length ≤ 600
 ·rw [decide_eq_true hL] at hli
  have hro := roll_eq L
  have htr : V 26 [.ptr (.arg 0 0) 0 0, .p (.int .i64 6)] [.box [.p (intsP L), .p (.int .i64 0)]] = some ((dTree L 0 6).1.vv, [diceB L (dTree L 0 6).2]) := tree_eq L 0 6 (by omega) (by omega)
  have hok := dTree_ok L 0 6
  generalize dTree L 0 6 = ta at htr hok
  obtain ⟨t, a0⟩ := ta
  simp only at htr hok
  have hlen := hok.len
  have hst := stock_eq L a0 hok (by omega)
  have hso : StkOk t (madeS L a0 t).1 := dStock_ok L t _ _ _ (stock0_ok L a0 hok)
  generalize madeS L a0 t = sa at hst hso
  obtain ⟨sw, a1⟩ := sa
  simp only at hst hso
  have hsl := hso.hs.length
  simp -implicitDefEqProofs (disch := omega) only [vf8, vb8, hli, hro, htr, hst, go_sem, ↓reduceIte, reduceAdd, reduceSub, reduceEqDiff, reduceLeDiff, reduceCtorEq]
  obtain ⟨I, hI⟩ : ∃ I : Nat → St → Prop, ∀ k s, I k s ↔ s.pe 4 = .ptr (.slot 4 0) 0 0 ∧ s.pe 5 = .ptr (.slot 5 0) 0 0 ∧ s.pe 6 = .p (.int .i64 k) ∧ s.h (.slot 4 0) = some (0, Ob.box [.p (nodesP t.nodes), .p (.int .i64 t.next)]) ∧ s.h (.slot 5 0) = some (0, Ob.box [.own (.slot 23 1) 0 0 sw.hs.length, .p (.int .i64 sw.size)]) ∧ s.h (.slot 23 1) = some (0, Ob.arr 4 (List.map Hg.pv sw.hs)) := ⟨_, fun _ _ => Iff.rfl⟩
  refine wp_count (t.nodes.length) I ?_ ?_
  ·refine (hI _ _).2 ⟨?_, ?_, ?_, ?_, ?_, ?_⟩
   all_goals exact cl0
  intro k s hk hIk
  obtain ⟨h4, h5, h6, hh4_0, hh5_0, hh23_1⟩ := (hI _ _).1 hIk
  clear hIk
  simp -implicitDefEqProofs (disch := omega) only [h4, h5, h6, hh4_0, hh5_0, hh23_1, go_sem, ↓reduceIte, reduceAdd, reduceSub, reduceEqDiff, reduceLeDiff, reduceCtorEq]
  refine wp_if_d (fun hlt => ?_) (fun hge => ?_)
  ·have hm : t.nodes[k]? = some t.nodes[k] := List.getElem?_eq_getElem hlt
   generalize t.nodes[k] = m at hm
   have c1 := sremove_eq t sw m.id hok.fits (by omega) (by omega)
   have hkd := rkids_eq t m.id (by omega)
   rw [kids_in hok ⟨_, m, hm, rfl⟩] at hkd
   have hrf := rem_factsS hso hm
   generalize RemS t sw m.id = X at c1 hrf
   obtain ⟨⟨x, z⟩, e⟩ := X
   simp only at c1 hrf
   rcases hrf with ⟨he, hor⟩ | ⟨he, hne, hxl, hall⟩
   ·rcases hor with h1 | h1
    ·rw [h1] at c1
     simp -implicitDefEqProofs (disch := omega) only [h4, h5, h6, hh4_0, hh5_0, hh23_1, hlt, hm, c1, he, h1, go_sem, ↓reduceIte, reduceAdd, reduceSub, reduceEqDiff, reduceLeDiff, reduceCtorEq]
     try refine And.intro (by omega) ?_
     refine (hI _ _).2 ⟨?_, ?_, ?_, ?_, ?_, ?_⟩
     all_goals exact cl0
    ·have hz : ¬ ((kidsN t.nodes m.id).length : Int) = 0 := by
      have := List.length_pos_iff.2 h1
      omega
     generalize kidsN t.nodes m.id = ks at hkd hz
     by_cases h2 : m.id = 1
     ·rw [h2] at c1
      simp -implicitDefEqProofs (disch := omega) only [h4, h5, h6, hh4_0, hh5_0, hh23_1, hlt, hm, c1, he, h2, go_sem, ↓reduceIte, reduceAdd, reduceSub, reduceEqDiff, reduceLeDiff, reduceCtorEq]
      try refine And.intro (by omega) ?_
      refine (hI _ _).2 ⟨?_, ?_, ?_, ?_, ?_, ?_⟩
      all_goals exact cl0
     ·simp -implicitDefEqProofs (disch := omega) only [h4, h5, h6, hh4_0, hh5_0, hh23_1, hlt, hm, c1, he, h2, hkd, hz, go_sem, ↓reduceIte, reduceAdd, reduceSub, reduceEqDiff, reduceLeDiff, reduceCtorEq]
      try refine And.intro (by omega) ?_
      refine (hI _ _).2 ⟨?_, ?_, ?_, ?_, ?_, ?_⟩
      all_goals exact cl0
   ·subst he
    simp -implicitDefEqProofs (disch := omega) only [h4, h5, h6, hh4_0, hh5_0, hh23_1, hlt, hm, c1, go_sem, ↓reduceIte, reduceAdd, reduceSub, reduceEqDiff, reduceLeDiff, reduceCtorEq]
    obtain ⟨J, hJ⟩ : ∃ I : Nat → St → Prop, ∀ j s, I j s ↔ ∃ (v41_1 : Nat) (v8_0 : Nat), s.pe 4 = .ptr (.slot 4 0) 0 0 ∧ s.pe 5 = .ptr (.slot 5 0) 0 0 ∧ s.pe 6 = .p (.int .i64 ↑k) ∧ s.pe 7 = .p (.int .i64 m.id) ∧ s.pe 8 = .ptr (.slot 8 0) v8_0 0 ∧ s.pe 10 = .p (.int .i64 j) ∧ s.h (.slot 4 0) = some (0, Ob.box [.p (nodesP t.nodes), .p (.int .i64 t.next)]) ∧ s.h (.slot 5 0) = some (0, Ob.box [.own (.slot 23 1) 0 0 sw.hs.length, .p (.int .i64 sw.size)]) ∧ s.h (.slot 23 1) = some (0, Ob.arr 4 (List.map Hg.pv sw.hs)) ∧ s.h (.slot 8 0) = some (v8_0, Ob.box [.own (.slot 41 1) v41_1 0 x.length, .p (.int .i64 z)]) ∧ s.h (.slot 41 1) = some (v41_1, Ob.arr 4 (List.map Hg.pv x)) := ⟨_, fun _ _ => Iff.rfl⟩
    refine wp_count (t.nodes.length) J ?_ ?_
    ·refine (hJ _ _).2 ⟨nv (fzOb [8, 41, 51] s.h (.slot 41 1)), nv (fzOb [8, 41, 51] s.h (.slot 8 0)), ?_, ?_, ?_, ?_, ?_, ?_, ?_, ?_, ?_, ?_, ?_⟩
     all_goals exact cl0
    intro j s hj hJk
    obtain ⟨v41_1, v8_0, h4, h5, h6, h7, h8, h10, hh4_0, hh5_0, hh23_1, hh8_0, hh41_1⟩ := (hJ _ _).1 hJk
    clear hJk
    simp -implicitDefEqProofs (disch := omega) only [h4, h5, h6, h7, h8, h10, hh4_0, hh5_0, hh23_1, hh8_0, hh41_1, go_sem, ↓reduceIte, reduceAdd, reduceSub, reduceEqDiff, reduceLeDiff, reduceCtorEq]
    refine wp_if_d (fun hjl => ?_) (fun hjg => ?_)
    ·have hx : t.nodes[j]? = some t.nodes[j] := List.getElem?_eq_getElem hjl
     generalize t.nodes[j] = n at hx
     have g1 := sget_eq sw n.id (by omega)
     have g2 := sget_eq sw m.id (by omega)
     have g3 := sget_eq ⟨x, z⟩ n.id (by show x.length < _; omega)
     have hw := hall n.id
     have hb1 := hso.hs.get n.id
     have hb2 := hso.hs.get m.id
     have hg1 := getS_group sw.hs n.id
     simp only [Stk.vv] at g1 g2 g3
     unfold wantS at hw
     generalize getS x n.id = y at g3 hw
     generalize getS sw.hs n.id = a at g1 hw hb1 hg1
     generalize getS sw.hs m.id = b at g2 hw hb2
     obtain ⟨ag, af, aa, as_⟩ := a
     obtain ⟨bg, bf, ba, bs⟩ := b
     simp only [inPg] at hb1 hb2 hg1
     obtain ⟨⟨p1, p2⟩, ⟨p3, p4⟩, p5, p6⟩ := hb1
     obtain ⟨⟨q1, q2⟩, ⟨q3, q4⟩, q5, q6⟩ := hb2
     subst hg1
     by_cases h1 : n.id = m.parent
     ·rw [if_pos h1] at hw
      subst hw
      have h2 : ¬ m.parent = m.id := hne
      have h3 : ¬ n.id = m.id := fun e => hne (by rw [← h1, e])
      rw [h1] at g1 g3
      simp only [addH, Hg.vv] at g1 g2 g3
      simp -implicitDefEqProofs (disch := omega) only [h4, h5, h6, h7, h8, h10, hh4_0, hh5_0, hh23_1, hh8_0, hh41_1, hjl, hx, hm, g1, g2, g3, h1, h2, go_sem, ↓reduceIte, reduceAdd, reduceSub, reduceEqDiff, reduceLeDiff, reduceCtorEq]
      try refine And.intro (by omega) ?_
      refine (hJ _ _).2 ⟨v41_1, v8_0, ?_, ?_, ?_, ?_, ?_, ?_, ?_, ?_, ?_, ?_, ?_⟩
      all_goals exact cl0
     ·rw [if_neg h1] at hw
      by_cases h2 : n.id = m.id
      ·rw [if_pos h2] at hw
       subst hw
       rw [h2] at g1 g3
       simp only [noH, Hg.vv] at g1 g2 g3
       simp only [h2] at h1
       simp -implicitDefEqProofs (disch := omega) only [h4, h5, h6, h7, h8, h10, hh4_0, hh5_0, hh23_1, hh8_0, hh41_1, hjl, hx, hm, g1, g2, g3, h1, h2, go_sem, ↓reduceIte, reduceAdd, reduceSub, reduceEqDiff, reduceLeDiff, reduceCtorEq]
       try refine And.intro (by omega) ?_
       refine (hJ _ _).2 ⟨v41_1, v8_0, ?_, ?_, ?_, ?_, ?_, ?_, ?_, ?_, ?_, ?_, ?_⟩
       all_goals exact cl0
      ·rw [if_neg h2] at hw
       subst hw
       simp only [Hg.vv] at g1 g2 g3
       simp -implicitDefEqProofs (disch := omega) only [h4, h5, h6, h7, h8, h10, hh4_0, hh5_0, hh23_1, hh8_0, hh41_1, hjl, hx, hm, g1, g2, g3, h1, h2, go_sem, ↓reduceIte, reduceAdd, reduceSub, reduceEqDiff, reduceLeDiff, reduceCtorEq]
       try refine And.intro (by omega) ?_
       refine (hJ _ _).2 ⟨v41_1, v8_0, ?_, ?_, ?_, ?_, ?_, ?_, ?_, ?_, ?_, ?_, ?_⟩
       all_goals exact cl0
    ·simp -implicitDefEqProofs (disch := omega) only [h4, h5, h6, h7, h8, h10, hh4_0, hh5_0, hh23_1, hh8_0, hh41_1, hjg, go_sem, ↓reduceIte, reduceAdd, reduceSub, reduceEqDiff, reduceLeDiff, reduceCtorEq]
     try refine And.intro (by omega) ?_
     refine (hI _ _).2 ⟨?_, ?_, ?_, ?_, ?_, ?_⟩
     all_goals exact cl0
  ·simp -implicitDefEqProofs (disch := omega) only [h4, h5, h6, hh4_0, hh5_0, hh23_1, hge, sane25_eq, go_sem, ↓reduceIte, reduceAdd, reduceSub, reduceEqDiff, reduceLeDiff, reduceCtorEq]
 ·rw [decide_eq_false hL] at hli
  simp -implicitDefEqProofs (disch := omega) only [vf8, vb8, hli, sane25_eq, go_sem, ↓reduceIte, reduceAdd, reduceSub, reduceEqDiff, reduceLeDiff, reduceCtorEq]
end Go.V
