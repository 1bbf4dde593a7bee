/- The law CounterExact in the value machine: the walk. -/
import Derived.Test.YthmbpjnpcjfdiaaVN2
import Derived.Test.YthmbpjnpcjfdiaaVKX
import Derived.Test.YthmbpjnpcjfdiaaVG3
set_option linter.unusedSimpArgs false
set_option linter.unusedVariables false
namespace Go.V

theorem dLimits_len (L : List Int) : ∀ (ns : List Nd) (a : Nat), (dLimits L ns a).1.length ≤ ns.length
  | [], _ => by simp [dLimits]
  | n :: ns, a => by
    have h1 := dLimits_len L ns (nextA L (nextA L a 2) 7)
    have h2 := dLimits_len L ns (nextA L a 2)
    unfold dLimits
    split
    · simp only [List.length_cons]
      omega
    · simp only [List.length_cons]
      omega

set_option maxHeartbeats 8000000 in
theorem counterExact_eq (L : List Int) (t : Tr) (c l : List Ch) (id n : Int) (hf : t.Fits) : V 3 [.p (intsP L), t.vv, ctrV c, .p (chsP l), .p (.int .i64 id), .p (.int .i64 n)] [] = some (.p (.bool true), []) := by
  refine V_wp (vf := vf3) rfl ?_
  have hli := light_eq (L.map (PV.int .i64))
  rw [List.length_map] at hli
  have hsane := sane22_eq
  by_cases hL : L.length ≤ 600
  · rw [decide_eq_true hL] at hli
    have hro := roll_eq L
    simp -implicitDefEqProofs (disch := omega) only [vf3, vb3, hli, hro, go_sem, ↓reduceIte, Nat.reduceAdd, Nat.reduceSub, Nat.reduceEqDiff, Nat.reduceLeDiff, reduceCtorEq]
    obtain ⟨I, hI⟩ : ∃ I : Nat → St → Prop, ∀ k s, I k s ↔ ∃ (b : Nat), s.pe 3 = .p (chsP l) ∧ s.pe 4 = .p (.int .i64 id) ∧ s.pe 5 = .p (.int .i64 n) ∧ s.pe 7 = .ptr (.slot 7 0) 0 0 ∧ s.pe 8 = .ptr (.slot 8 0) 0 0 ∧ s.pe 13 = .ptr (.slot 24 1) 0 0 ∧ s.pe 14 = .p (.int .i64 k) ∧ s.h (.slot 7 0) = some (0, Ob.box [.p (nodesP t.nodes), .p (.int .i64 t.next)]) ∧ s.h (.slot 8 0) = some (0, Ob.box [.p (chsP c)]) ∧ s.h (.slot 24 1) = some (0, diceB L b) := ⟨_, fun _ _ => Iff.rfl⟩
    refine wp_count (3) I ?_ ?_
    · refine (hI _ _).2 ⟨0, ?_, ?_, ?_, ?_, ?_, ?_, ?_, ?_, ?_, ?_⟩
      all_goals first | with_reducible rfl | (simp -implicitDefEqProofs (disch := omega) only [List.map_append, go_sem, ↓reduceIte, Nat.reduceAdd, Nat.reduceSub, Nat.reduceEqDiff, Nat.reduceLeDiff, reduceCtorEq]; first | done | rfl | (simp; done) | (congr 2; omega) | (congr 1; omega) | (congr 3; omega) | (simp; omega) | (congr 2; simp; omega) | (refine ⟨_, rfl, ?_⟩; first | rfl | (simp -implicitDefEqProofs (disch := omega) only [List.map_append, go_sem, ↓reduceIte, Nat.reduceAdd, Nat.reduceSub, Nat.reduceEqDiff, Nat.reduceLeDiff, reduceCtorEq]; done))) | rfl | omega | (congr 2; omega)
    intro k s hk hIk
    obtain ⟨b, h3, h4, h5, h7, h8, h13, h14, hh7_0, hh8_0, hh24_1⟩ := (hI _ _).1 hIk
    clear hIk
    simp -implicitDefEqProofs (disch := omega) only [h3, h4, h5, h7, h8, h13, h14, hh7_0, hh8_0, hh24_1, go_sem, ↓reduceIte, Nat.reduceAdd, Nat.reduceSub, Nat.reduceEqDiff, Nat.reduceLeDiff, reduceCtorEq]
    refine wp_if_d (fun hlt => ?_) (fun hge => ?_)
    · have htr : V 7 [.ptr (.arg 0 0) 0 0, .p (.int .i64 6)] [diceB L b] = some ((dTree L b 6).1.vv, [diceB L (dTree L b 6).2]) := tree_eq L b 6 (by omega) (by omega)
      have hok := dTree_ok L b 6
      generalize dTree L b 6 = ta at htr hok
      obtain ⟨tk, b1⟩ := ta
      simp only at htr hok
      have hlen := hok.len
      have hco := counter_eq L b1 hok (by omega)
      have hcok := dCounter_ok L tk tk.nodes b1 [] (ChOk.nil _)
      generalize dCounter L tk tk.nodes b1 [] = ca at hco hcok
      obtain ⟨y, b2⟩ := ca
      simp only at hco hcok
      have hyl := hcok.length
      have hlm := dlimits_eq L b2 tk (by omega) (by omega)
      have hzl := dLimits_len L tk.nodes b2
      generalize dLimits L tk.nodes b2 = la at hlm hzl
      obtain ⟨z, b3⟩ := la
      simp only at hlm hzl
      by_cases hk2 : (k : Int) = 2
      · by_cases hy0 : 0 < y.length
        · have hy0' : (0 : Int) < (y.length : Int) := by omega
          have hnx := next_eq L b3 y.length (by omega) (by omega)
          have hj0 := nextV_nonneg L b3 y.length
          have hj1 := nextV_lt L b3 (n := (y.length : Int)) (by omega)
          obtain ⟨j, hj⟩ := Int.eq_ofNat_of_zero_le hj0
          rw [hj] at hnx hj1
          clear hj0 hj
          generalize nextA L b3 _ = b4 at hnx
          have hm : y[j]? = some y[j] := List.getElem?_eq_getElem (by omega)
          generalize y[j] = x at hm
          have hgd : (List.map Ch.pv y)[j]? = some (.agg [.int .i64 x.group, .int .i64 x.own]) := by rw [List.getElem?_map, hm]; rfl
          have p1 := pick_eq L b4 [x.group, 1, 9] (by omega) (by simp) (by simp)
          simp only [intsP, List.length_cons, List.length_nil, Nat.reduceAdd, List.map_cons, List.map_nil] at p1
          generalize pickV L b4 [x.group, 1, 9] = v1 at p1
          generalize nextA L b4 _ = b5 at p1
          have p2 := pick_eq L b5 [x.own, 0, -1, 16777216, 16777217] (by omega) (by simp) (by simp)
          simp only [intsP, List.length_cons, List.length_nil, Nat.reduceAdd, List.map_cons, List.map_nil] at p2
          generalize pickV L b5 [x.own, 0, -1, 16777216, 16777217] = v2 at p2
          generalize nextA L b5 _ = b6 at p2
          have p3 := pick_eq L b6 [1, 2, 9] (by omega) (by simp) (by simp)
          simp only [intsP, List.length_cons, List.length_nil, Nat.reduceAdd, List.map_cons, List.map_nil] at p3
          generalize pickV L b6 [1, 2, 9] = v3 at p3
          generalize nextA L b6 _ = b7 at p3
          have p4 := pick_eq L b7 [-1, 0, 4611686018427387904] (by omega) (by simp) (by simp)
          simp only [intsP, List.length_cons, List.length_nil, Nat.reduceAdd, List.map_cons, List.map_nil] at p4
          generalize pickV L b7 [-1, 0, 4611686018427387904] = v4 at p4
          generalize nextA L b7 _ = b8 at p4
          have hset : ∀ (q : Ch) (ys : List Ch), (List.map Ch.pv ys).set j (.agg [.int .i64 q.group, .int .i64 q.own]) = List.map Ch.pv (ys.set j q) := fun q ys => by rw [List.map_set]; rfl
          have hget : ∀ q : Ch, (List.map Ch.pv (y.set j q))[j]? = some (.agg [.int .i64 q.group, .int .i64 q.own]) := fun q => by
            rw [List.getElem?_map, List.getElem?_set_self (by omega)]
            rfl
          have s1 := hset ⟨v1, x.own⟩ y
          have q1 := hget ⟨v1, x.own⟩
          have s2 := hset ⟨v1, v2⟩ (y.set j ⟨v1, x.own⟩)
          simp only [List.set_set] at s1 q1 s2
          generalize y.set j ⟨v1, x.own⟩ = Y1 at *
          have hYl : (y.set j ⟨v1, v2⟩).length = y.length := List.length_set
          generalize y.set j ⟨v1, v2⟩ = Y2 at *
          have hZl : (z ++ [(⟨v3, v4⟩ : Ch)]).length = z.length + 1 := by simp
          have hZm : List.map Ch.pv z ++ [.agg [.int .i64 v3, .int .i64 v4]] = List.map Ch.pv (z ++ [⟨v3, v4⟩]) := by simp [Ch.pv]
          have gr1 := group_eq L b8 tk (by omega) (by omega)
          generalize groupD L b8 tk.nodes = gd1 at gr1
          obtain ⟨g1, c1⟩ := gd1
          simp only at gr1
          have pk := pick_eq L c1 [0, 1, 7, 50, -3, -1000, 16777216, 16777217] (by omega) (by simp) (by simp)
          simp only [intsP, List.length_cons, List.length_nil, Nat.reduceAdd, List.map_cons, List.map_nil] at pk
          generalize pickV L c1 [0, 1, 7, 50, -3, -1000, 16777216, 16777217] = v9 at pk
          generalize nextA L c1 _ = c2 at pk
          have gr2 := group_eq L c2 tk (by omega) (by omega)
          generalize groupD L c2 tk.nodes = gd2 at gr2
          obtain ⟨g2, c3⟩ := gd2
          simp only at gr2
          have x1 := exact22_eq tk Y2 (z ++ [⟨v3, v4⟩]) g1 v9 hok.fits (by omega) (by omega) (by omega)
          have x2 := exact22_eq tk Y2 (z ++ [⟨v3, v4⟩]) g2 n hok.fits (by omega) (by omega) (by omega)
          have htk1 : List.take y.length (List.map Ch.pv Y2) = List.map Ch.pv Y2 := List.take_of_length_le (by simp; omega)
          have htk2 : List.take (z.length + 1) (List.map Ch.pv (z ++ [⟨v3, v4⟩])) = List.map Ch.pv (z ++ [⟨v3, v4⟩]) := List.take_of_length_le (by simp)
          simp -implicitDefEqProofs (disch := omega) only [h3, h4, h5, h7, h8, h13, h14, hh7_0, hh8_0, hh24_1, hlt, htr, hco, hlm, hk2, hy0', hnx, hgd, p1, p2, p3, p4, s1, q1, s2, gr1, gr2, pk, hZm, htk1, htk2, x1, x2, List.headD_cons, Int.toNat_natCast, go_sem, ↓reduceIte, Nat.reduceAdd, Nat.reduceSub, Nat.reduceEqDiff, Nat.reduceLeDiff, reduceCtorEq]
          try refine And.intro (by omega) ?_
          refine (hI _ _).2 ⟨c3, ?_, ?_, ?_, ?_, ?_, ?_, ?_, ?_, ?_, ?_⟩
          all_goals first | with_reducible rfl | (simp -implicitDefEqProofs (disch := omega) only [h3, h4, h5, h7, h8, h13, h14, hh7_0, hh8_0, hh24_1, List.map_append, go_sem, ↓reduceIte, Nat.reduceAdd, Nat.reduceSub, Nat.reduceEqDiff, Nat.reduceLeDiff, reduceCtorEq]; first | done | rfl | (simp; done) | (congr 2; omega) | (congr 1; omega) | (congr 3; omega) | (simp; omega) | (congr 2; simp; omega) | (refine ⟨_, rfl, ?_⟩; first | rfl | (simp -implicitDefEqProofs (disch := omega) only [h3, h4, h5, h7, h8, h13, h14, hh7_0, hh8_0, hh24_1, List.map_append, go_sem, ↓reduceIte, Nat.reduceAdd, Nat.reduceSub, Nat.reduceEqDiff, Nat.reduceLeDiff, reduceCtorEq]; done))) | rfl | omega | (congr 2; omega)
        · have hy0' : ¬ (0 : Int) < (y.length : Int) := by omega
          have gr1 := group_eq L b3 tk (by omega) (by omega)
          generalize groupD L b3 tk.nodes = gd1 at gr1
          obtain ⟨g1, c1⟩ := gd1
          simp only at gr1
          have pk := pick_eq L c1 [0, 1, 7, 50, -3, -1000, 16777216, 16777217] (by omega) (by simp) (by simp)
          simp only [intsP, List.length_cons, List.length_nil, Nat.reduceAdd, List.map_cons, List.map_nil] at pk
          generalize pickV L c1 [0, 1, 7, 50, -3, -1000, 16777216, 16777217] = v9 at pk
          generalize nextA L c1 _ = c2 at pk
          have gr2 := group_eq L c2 tk (by omega) (by omega)
          generalize groupD L c2 tk.nodes = gd2 at gr2
          obtain ⟨g2, c3⟩ := gd2
          simp only at gr2
          have x1 := exact22_eq tk y z g1 v9 hok.fits (by omega) (by omega) (by omega)
          have x2 := exact22_eq tk y z g2 n hok.fits (by omega) (by omega) (by omega)
          simp -implicitDefEqProofs (disch := omega) only [h3, h4, h5, h7, h8, h13, h14, hh7_0, hh8_0, hh24_1, hlt, htr, hco, hlm, hk2, hy0', gr1, gr2, pk, x1, x2, go_sem, ↓reduceIte, Nat.reduceAdd, Nat.reduceSub, Nat.reduceEqDiff, Nat.reduceLeDiff, reduceCtorEq]
          try refine And.intro (by omega) ?_
          refine (hI _ _).2 ⟨c3, ?_, ?_, ?_, ?_, ?_, ?_, ?_, ?_, ?_, ?_⟩
          all_goals first | with_reducible rfl | (simp -implicitDefEqProofs (disch := omega) only [h3, h4, h5, h7, h8, h13, h14, hh7_0, hh8_0, hh24_1, List.map_append, go_sem, ↓reduceIte, Nat.reduceAdd, Nat.reduceSub, Nat.reduceEqDiff, Nat.reduceLeDiff, reduceCtorEq]; first | done | rfl | (simp; done) | (congr 2; omega) | (congr 1; omega) | (congr 3; omega) | (simp; omega) | (congr 2; simp; omega) | (refine ⟨_, rfl, ?_⟩; first | rfl | (simp -implicitDefEqProofs (disch := omega) only [h3, h4, h5, h7, h8, h13, h14, hh7_0, hh8_0, hh24_1, List.map_append, go_sem, ↓reduceIte, Nat.reduceAdd, Nat.reduceSub, Nat.reduceEqDiff, Nat.reduceLeDiff, reduceCtorEq]; done))) | rfl | omega | (congr 2; omega)
      · have gr1 := group_eq L b3 tk (by omega) (by omega)
        generalize groupD L b3 tk.nodes = gd1 at gr1
        obtain ⟨g1, c1⟩ := gd1
        simp only at gr1
        have pk := pick_eq L c1 [0, 1, 7, 50, -3, -1000, 16777216, 16777217] (by omega) (by simp) (by simp)
        simp only [intsP, List.length_cons, List.length_nil, Nat.reduceAdd, List.map_cons, List.map_nil] at pk
        generalize pickV L c1 [0, 1, 7, 50, -3, -1000, 16777216, 16777217] = v9 at pk
        generalize nextA L c1 _ = c2 at pk
        have gr2 := group_eq L c2 tk (by omega) (by omega)
        generalize groupD L c2 tk.nodes = gd2 at gr2
        obtain ⟨g2, c3⟩ := gd2
        simp only at gr2
        have x1 := exact22_eq tk y z g1 v9 hok.fits (by omega) (by omega) (by omega)
        have x2 := exact22_eq tk y z g2 n hok.fits (by omega) (by omega) (by omega)
        simp -implicitDefEqProofs (disch := omega) only [h3, h4, h5, h7, h8, h13, h14, hh7_0, hh8_0, hh24_1, hlt, htr, hco, hlm, hk2, gr1, gr2, pk, x1, x2, go_sem, ↓reduceIte, Nat.reduceAdd, Nat.reduceSub, Nat.reduceEqDiff, Nat.reduceLeDiff, reduceCtorEq]
        try refine And.intro (by omega) ?_
        refine (hI _ _).2 ⟨c3, ?_, ?_, ?_, ?_, ?_, ?_, ?_, ?_, ?_, ?_⟩
        all_goals first | with_reducible rfl | (simp -implicitDefEqProofs (disch := omega) only [h3, h4, h5, h7, h8, h13, h14, hh7_0, hh8_0, hh24_1, List.map_append, go_sem, ↓reduceIte, Nat.reduceAdd, Nat.reduceSub, Nat.reduceEqDiff, Nat.reduceLeDiff, reduceCtorEq]; first | done | rfl | (simp; done) | (congr 2; omega) | (congr 1; omega) | (congr 3; omega) | (simp; omega) | (congr 2; simp; omega) | (refine ⟨_, rfl, ?_⟩; first | rfl | (simp -implicitDefEqProofs (disch := omega) only [h3, h4, h5, h7, h8, h13, h14, hh7_0, hh8_0, hh24_1, List.map_append, go_sem, ↓reduceIte, Nat.reduceAdd, Nat.reduceSub, Nat.reduceEqDiff, Nat.reduceLeDiff, reduceCtorEq]; done))) | rfl | omega | (congr 2; omega)
    · by_cases m1 : 70 < t.nodes.length
      · have m1' : (70 : Int) < (t.nodes.length : Int) := by omega
        simp -implicitDefEqProofs (disch := omega) only [h3, h4, h5, h7, h8, h13, h14, hh7_0, hh8_0, hh24_1, hge, m1', go_sem, ↓reduceIte, Nat.reduceAdd, Nat.reduceSub, Nat.reduceEqDiff, Nat.reduceLeDiff, reduceCtorEq]
      · have m1' : ¬ (70 : Int) < (t.nodes.length : Int) := by omega
        by_cases m2 : 70 < c.length
        · have m2' : (70 : Int) < (c.length : Int) := by omega
          simp -implicitDefEqProofs (disch := omega) only [h3, h4, h5, h7, h8, h13, h14, hh7_0, hh8_0, hh24_1, hge, m1', m2', go_sem, ↓reduceIte, Nat.reduceAdd, Nat.reduceSub, Nat.reduceEqDiff, Nat.reduceLeDiff, reduceCtorEq]
        · have m2' : ¬ (70 : Int) < (c.length : Int) := by omega
          by_cases m3 : 70 < l.length
          · have m3' : (70 : Int) < (l.length : Int) := by omega
            simp -implicitDefEqProofs (disch := omega) only [h3, h4, h5, h7, h8, h13, h14, hh7_0, hh8_0, hh24_1, hge, m1', m2', m3', go_sem, ↓reduceIte, Nat.reduceAdd, Nat.reduceSub, Nat.reduceEqDiff, Nat.reduceLeDiff, reduceCtorEq]
          · have m3' : ¬ (70 : Int) < (l.length : Int) := by omega
            have x3 := exact22_eq t c l id n hf (by omega) (by omega) (by omega)
            simp -implicitDefEqProofs (disch := omega) only [h3, h4, h5, h7, h8, h13, h14, hh7_0, hh8_0, hh24_1, hge, m1', m2', m3', x3, hsane, go_sem, ↓reduceIte, Nat.reduceAdd, Nat.reduceSub, Nat.reduceEqDiff, Nat.reduceLeDiff, reduceCtorEq]
  · rw [decide_eq_false hL] at hli
    simp -implicitDefEqProofs (disch := omega) only [vf3, vb3, hli, hsane, go_sem, ↓reduceIte, Nat.reduceAdd, Nat.reduceSub, Nat.reduceEqDiff, Nat.reduceLeDiff, reduceCtorEq]
end Go.V

