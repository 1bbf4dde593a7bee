/- The law ReclaimExact in the value machine. -/
import Derived.Test.YtdmghfmdcfagcaaVR29
import Derived.Test.YtdmghfmdcfagcaaVG3
set_option linter.unusedSimpArgs false
set_option linter.unusedVariables false
namespace Go.V

set_option maxHeartbeats 8000000 in
theorem exactLaw24_eq (L : List Int) (t : Tr) (p : List Pt) (root n : Int) (hf : t.Fits) : V 4 [.p (intsP L), t.vv, .p (ptsP p), .p (.int .i64 root), .p (.int .i64 n)] [] = some (.p (.bool true), []) := by
  refine V_wp (vf := vf4) rfl ?_
  have hli := light_eq (L.map (PV.int .i64))
  rw [List.length_map] at hli
  have hsane := sane_eq
  by_cases hL : L.length ≤ 600
  · rw [decide_eq_true hL] at hli
    have hro := roll_eq L
    simp -implicitDefEqProofs (disch := omega) only [vf4, vb4, hli, hro, go_sem, ↓reduceIte, Nat.reduceAdd, Nat.reduceSub, Nat.reduceEqDiff, Nat.reduceLeDiff, reduceCtorEq]
    obtain ⟨I, hI⟩ : ∃ I : Nat → St → Prop, ∀ k s, I k s ↔ ∃ (b : Nat), s.pe 2 = .p (ptsP p) ∧ s.pe 3 = .p (.int .i64 root) ∧ s.pe 4 = .p (.int .i64 n) ∧ s.pe 6 = .ptr (.slot 6 0) 0 0 ∧ s.pe 11 = .ptr (.slot 22 1) 0 0 ∧ s.pe 12 = .p (.int .i64 k) ∧ s.h (.slot 6 0) = some (0, Ob.box [.p (nodesP t.nodes), .p (.int .i64 t.next)]) ∧ s.h (.slot 22 1) = some (0, diceB L b) := ⟨_, fun _ _ => Iff.rfl⟩
    refine wp_count (3) I ?_ ?_
    · refine (hI _ _).2 ⟨0, ?_, ?_, ?_, ?_, ?_, ?_, ?_, ?_⟩
      all_goals first | with_reducible rfl | (simp -implicitDefEqProofs (disch := omega) only [List.map_append, go_sem, ↓reduceIte, Nat.reduceAdd, Nat.reduceSub, Nat.reduceEqDiff, Nat.reduceLeDiff, reduceCtorEq]; first | done | rfl | (simp; done) | (congr 2; omega) | (congr 1; omega) | (congr 3; omega) | (simp; omega) | (congr 2; simp; omega) | (refine ⟨_, rfl, ?_⟩; first | rfl | (simp -implicitDefEqProofs (disch := omega) only [List.map_append, go_sem, ↓reduceIte, Nat.reduceAdd, Nat.reduceSub, Nat.reduceEqDiff, Nat.reduceLeDiff, reduceCtorEq]; done))) | rfl | omega | (congr 2; omega)
    intro k s hk hIk
    obtain ⟨b, h2, h3, h4, h6, h11, h12, hh6_0, hh22_1⟩ := (hI _ _).1 hIk
    clear hIk
    simp -implicitDefEqProofs (disch := omega) only [h2, h3, h4, h6, h11, h12, hh6_0, hh22_1, go_sem, ↓reduceIte, Nat.reduceAdd, Nat.reduceSub, Nat.reduceEqDiff, Nat.reduceLeDiff, reduceCtorEq]
    refine wp_if_d (fun hlt => ?_) (fun hge => ?_)
    · have htr : V 11 [.ptr (.arg 0 0) 0 0, .p (.int .i64 7)] [diceB L b] = some ((dTree L b 7).1.vv, [diceB L (dTree L b 7).2]) := tree_eq L b 7 (by omega) (by omega)
      have hok := dTree_ok L b 7
      generalize dTree L b 7 = ta at htr hok
      obtain ⟨tk, b1⟩ := ta
      simp only at htr hok
      have hlen := hok.len
      have hgr := group_eq L b1 tk (by omega) (by omega)
      generalize groupD L b1 tk.nodes = gd1 at hgr
      obtain ⟨g, b2⟩ := gd1
      simp only at hgr
      have hpa := parts_eq L b2 g hok (by omega)
      have hpl := congrArg List.length (dParts_groups L (sortU (subT tk g)) b2)
      have hpl2 := sortU_length (subT tk g)
      have hpl3 := subT_len hok g
      have hps := dParts_ok L (sortU (subT tk g)) b2
      rw [List.length_map] at hpl
      generalize dParts L (sortU (subT tk g)) b2 = pa at hpa hpl hps
      obtain ⟨y, b3⟩ := pa
      simp only at hpa hpl hps
      have hyl : y.length < 1000000 := by omega
      by_cases hk2 : (k : Int) = 2
      · by_cases hy0 : 0 < y.length
        · have hy0' : (0 : Int) < (y.length : Int) := by omega
          have hnx := next_eq L b3 y.length (by omega) (by omega)
          have hj0 := nextV_nonneg L b3 y.length
          have hj1 := nextV_lt L b3 (n := (y.length : Int)) (by omega)
          obtain ⟨j, hj⟩ := Int.eq_ofNat_of_zero_le hj0
          rw [hj] at hnx hj1
          clear hj0 hj
          generalize nextA L b3 _ = b4 at hnx
          have hm : y[j]? = some y[j] := List.getElem?_eq_getElem (by omega)
          generalize y[j] = x at hm
          have hgd : (List.map Pt.pv y)[j]? = some (.agg [.int .i64 x.group, .int .i64 x.usage, .int .i64 x.protect, .int .i64 x.own, .int .i64 x.room]) := by rw [List.getElem?_map, hm]; rfl
          have c1 := pick_eq L b4 [x.group, 1, 9] (by omega) (by simp) (by simp)
          simp only [intsP, List.length_cons, List.length_nil, Nat.reduceAdd, List.map_cons, List.map_nil] at c1
          generalize pickV L b4 [x.group, 1, 9] = v1 at c1
          generalize nextA L b4 _ = b5 at c1
          have c2 := pick_eq L b5 [x.usage, -1, 16777217] (by omega) (by simp) (by simp)
          simp only [intsP, List.length_cons, List.length_nil, Nat.reduceAdd, List.map_cons, List.map_nil] at c2
          generalize pickV L b5 [x.usage, -1, 16777217] = v2 at c2
          generalize nextA L b5 _ = b6 at c2
          have c3 := pick_eq L b6 [x.room, -1, 0, 4611686018427387904] (by omega) (by simp) (by simp)
          simp only [intsP, List.length_cons, List.length_nil, Nat.reduceAdd, List.map_cons, List.map_nil] at c3
          generalize pickV L b6 [x.room, -1, 0, 4611686018427387904] = v3 at c3
          generalize nextA L b6 _ = b7 at c3
          have hset : ∀ (z : Pt) (ys : List Pt), (List.map Pt.pv ys).set j (.agg [.int .i64 z.group, .int .i64 z.usage, .int .i64 z.protect, .int .i64 z.own, .int .i64 z.room]) = List.map Pt.pv (ys.set j z) := fun z ys => by rw [List.map_set]; rfl
          have hget : ∀ z : Pt, (List.map Pt.pv (y.set j z))[j]? = some (.agg [.int .i64 z.group, .int .i64 z.usage, .int .i64 z.protect, .int .i64 z.own, .int .i64 z.room]) := fun z => by
            rw [List.getElem?_map, List.getElem?_set_self (by omega)]
            rfl
          have s1 := hset ⟨v1, x.usage, x.protect, x.own, x.room⟩ y
          have g1 := hget ⟨v1, x.usage, x.protect, x.own, x.room⟩
          have s2 := hset ⟨v1, v2, x.protect, x.own, x.room⟩ (y.set j ⟨v1, x.usage, x.protect, x.own, x.room⟩)
          have g2 := hget ⟨v1, v2, x.protect, x.own, x.room⟩
          have s3 := hset ⟨v1, v2, x.protect, x.own, v3⟩ (y.set j ⟨v1, v2, x.protect, x.own, x.room⟩)
          simp only [List.set_set] at s1 g1 s2 g2 s3
          generalize hY1 : y.set j ⟨v1, x.usage, x.protect, x.own, x.room⟩ = Y1 at *
          generalize hY2 : y.set j ⟨v1, v2, x.protect, x.own, x.room⟩ = Y2 at *
          have hYl : (y.set j ⟨v1, v2, x.protect, x.own, v3⟩).length = y.length := List.length_set
          generalize y.set j ⟨v1, v2, x.protect, x.own, v3⟩ = Y3 at *
          have c9 := pick_eq L b7 [0, 1, 10, 50, 100, 1000, -1, 16777216, 16777217] (by omega) (by simp) (by simp)
          simp only [intsP, List.length_cons, List.length_nil, Nat.reduceAdd, List.map_cons, List.map_nil] at c9
          generalize pickV L b7 [0, 1, 10, 50, 100, 1000, -1, 16777216, 16777217] = v9 at c9
          generalize nextA L b7 _ = b9 at c9
          have x1 := exact24_eq tk Y3 g v9 hok.fits (by omega) (by omega)
          have x2 := exact24_eq tk Y3 g n hok.fits (by omega) (by omega)
          have htk : List.take y.length (List.map Pt.pv Y3) = List.map Pt.pv Y3 := List.take_of_length_le (by simp; omega)
          simp -implicitDefEqProofs (disch := omega) only [h2, h3, h4, h6, h11, h12, hh6_0, hh22_1, hlt, htr, hgr, hpa, hk2, hy0', hnx, hgd, c1, c2, c3, s1, g1, s2, g2, s3, c9, htk, x1, x2, List.headD_cons, Int.toNat_natCast, go_sem, ↓reduceIte, Nat.reduceAdd, Nat.reduceSub, Nat.reduceEqDiff, Nat.reduceLeDiff, reduceCtorEq]
          try refine And.intro (by omega) ?_
          refine (hI _ _).2 ⟨b9, ?_, ?_, ?_, ?_, ?_, ?_, ?_, ?_⟩
          all_goals first | with_reducible rfl | (simp -implicitDefEqProofs (disch := omega) only [h2, h3, h4, h6, h11, h12, hh6_0, hh22_1, List.map_append, go_sem, ↓reduceIte, Nat.reduceAdd, Nat.reduceSub, Nat.reduceEqDiff, Nat.reduceLeDiff, reduceCtorEq]; first | done | rfl | (simp; done) | (congr 2; omega) | (congr 1; omega) | (congr 3; omega) | (simp; omega) | (congr 2; simp; omega) | (refine ⟨_, rfl, ?_⟩; first | rfl | (simp -implicitDefEqProofs (disch := omega) only [h2, h3, h4, h6, h11, h12, hh6_0, hh22_1, List.map_append, go_sem, ↓reduceIte, Nat.reduceAdd, Nat.reduceSub, Nat.reduceEqDiff, Nat.reduceLeDiff, reduceCtorEq]; done))) | rfl | omega | (congr 2; omega)
        · have hy0' : ¬ (0 : Int) < (y.length : Int) := by omega
          have c9 := pick_eq L b3 [0, 1, 10, 50, 100, 1000, -1, 16777216, 16777217] (by omega) (by simp) (by simp)
          simp only [intsP, List.length_cons, List.length_nil, Nat.reduceAdd, List.map_cons, List.map_nil] at c9
          generalize pickV L b3 [0, 1, 10, 50, 100, 1000, -1, 16777216, 16777217] = v9 at c9
          generalize nextA L b3 _ = b9 at c9
          have x1 := exact24_eq tk y g v9 hok.fits (by omega) hyl
          have x2 := exact24_eq tk y g n hok.fits (by omega) hyl
          simp -implicitDefEqProofs (disch := omega) only [h2, h3, h4, h6, h11, h12, hh6_0, hh22_1, hlt, htr, hgr, hpa, hk2, hy0', c9, x1, x2, go_sem, ↓reduceIte, Nat.reduceAdd, Nat.reduceSub, Nat.reduceEqDiff, Nat.reduceLeDiff, reduceCtorEq]
          try refine And.intro (by omega) ?_
          refine (hI _ _).2 ⟨b9, ?_, ?_, ?_, ?_, ?_, ?_, ?_, ?_⟩
          all_goals first | with_reducible rfl | (simp -implicitDefEqProofs (disch := omega) only [h2, h3, h4, h6, h11, h12, hh6_0, hh22_1, List.map_append, go_sem, ↓reduceIte, Nat.reduceAdd, Nat.reduceSub, Nat.reduceEqDiff, Nat.reduceLeDiff, reduceCtorEq]; first | done | rfl | (simp; done) | (congr 2; omega) | (congr 1; omega) | (congr 3; omega) | (simp; omega) | (congr 2; simp; omega) | (refine ⟨_, rfl, ?_⟩; first | rfl | (simp -implicitDefEqProofs (disch := omega) only [h2, h3, h4, h6, h11, h12, hh6_0, hh22_1, List.map_append, go_sem, ↓reduceIte, Nat.reduceAdd, Nat.reduceSub, Nat.reduceEqDiff, Nat.reduceLeDiff, reduceCtorEq]; done))) | rfl | omega | (congr 2; omega)
      · have c9 := pick_eq L b3 [0, 1, 10, 50, 100, 1000, -1, 16777216, 16777217] (by omega) (by simp) (by simp)
        simp only [intsP, List.length_cons, List.length_nil, Nat.reduceAdd, List.map_cons, List.map_nil] at c9
        generalize pickV L b3 [0, 1, 10, 50, 100, 1000, -1, 16777216, 16777217] = v9 at c9
        generalize nextA L b3 _ = b9 at c9
        have x1 := exact24_eq tk y g v9 hok.fits (by omega) hyl
        have x2 := exact24_eq tk y g n hok.fits (by omega) hyl
        simp -implicitDefEqProofs (disch := omega) only [h2, h3, h4, h6, h11, h12, hh6_0, hh22_1, hlt, htr, hgr, hpa, hk2, c9, x1, x2, go_sem, ↓reduceIte, Nat.reduceAdd, Nat.reduceSub, Nat.reduceEqDiff, Nat.reduceLeDiff, reduceCtorEq]
        try refine And.intro (by omega) ?_
        refine (hI _ _).2 ⟨b9, ?_, ?_, ?_, ?_, ?_, ?_, ?_, ?_⟩
        all_goals first | with_reducible rfl | (simp -implicitDefEqProofs (disch := omega) only [h2, h3, h4, h6, h11, h12, hh6_0, hh22_1, List.map_append, go_sem, ↓reduceIte, Nat.reduceAdd, Nat.reduceSub, Nat.reduceEqDiff, Nat.reduceLeDiff, reduceCtorEq]; first | done | rfl | (simp; done) | (congr 2; omega) | (congr 1; omega) | (congr 3; omega) | (simp; omega) | (congr 2; simp; omega) | (refine ⟨_, rfl, ?_⟩; first | rfl | (simp -implicitDefEqProofs (disch := omega) only [h2, h3, h4, h6, h11, h12, hh6_0, hh22_1, List.map_append, go_sem, ↓reduceIte, Nat.reduceAdd, Nat.reduceSub, Nat.reduceEqDiff, Nat.reduceLeDiff, reduceCtorEq]; done))) | rfl | omega | (congr 2; omega)
    · by_cases m1 : 40 < t.nodes.length
      · have m1' : (40 : Int) < (t.nodes.length : Int) := by omega
        simp -implicitDefEqProofs (disch := omega) only [h2, h3, h4, h6, h11, h12, hh6_0, hh22_1, hge, m1', go_sem, ↓reduceIte, Nat.reduceAdd, Nat.reduceSub, Nat.reduceEqDiff, Nat.reduceLeDiff, reduceCtorEq]
      · have m1' : ¬ (40 : Int) < (t.nodes.length : Int) := by omega
        by_cases m2 : 40 < p.length
        · have m2' : (40 : Int) < (p.length : Int) := by omega
          simp -implicitDefEqProofs (disch := omega) only [h2, h3, h4, h6, h11, h12, hh6_0, hh22_1, hge, m1', m2', go_sem, ↓reduceIte, Nat.reduceAdd, Nat.reduceSub, Nat.reduceEqDiff, Nat.reduceLeDiff, reduceCtorEq]
        · have m2' : ¬ (40 : Int) < (p.length : Int) := by omega
          have x3 := exact24_eq t p root n hf (by omega) (by omega)
          simp -implicitDefEqProofs (disch := omega) only [h2, h3, h4, h6, h11, h12, hh6_0, hh22_1, hge, m1', m2', x3, hsane, go_sem, ↓reduceIte, Nat.reduceAdd, Nat.reduceSub, Nat.reduceEqDiff, Nat.reduceLeDiff, reduceCtorEq]
  · rw [decide_eq_false hL] at hli
    simp -implicitDefEqProofs (disch := omega) only [vf4, vb4, hli, hsane, go_sem, ↓reduceIte, Nat.reduceAdd, Nat.reduceSub, Nat.reduceEqDiff, Nat.reduceLeDiff, reduceCtorEq]
end Go.V

