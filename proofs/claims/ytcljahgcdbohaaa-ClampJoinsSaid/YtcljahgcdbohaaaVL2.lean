/- The law ClampJoins in the value machine. -/
import Derived.Test.YtcljahgcdbohaaaVF10
set_option linter.unusedSimpArgs false
set_option linter.unusedVariables false
namespace Go.V

theorem foldMax_from {α : Type} {f : α → Int} : ∀ (ps : List α) (b : Int), 0 ≤ b → ps.foldl (fun m p => max m (f p)) b = max b (ps.foldl (fun m p => max m (f p)) 0)
  | [], b, h => by simp only [List.foldl_nil]; omega
  | p :: ps, b, h => by
    simp only [List.foldl_cons]
    rw [foldMax_from ps (max b (f p)) (by omega), foldMax_from ps (max 0 (f p)) (by omega)]
    omega
theorem capC_append (t : Tr) (l : List Cl) {g u h v : List Int} (h1 : g.length = u.length) (h2 : h.length = v.length) : capC t l (g ++ h) (u ++ v) = max (capC t l g u) (capC t l h v) := by
  unfold capC
  rw [if_pos h1, if_pos h2, if_pos (by simp [h1, h2]), List.zip_append h1]
  unfold capL
  rw [List.foldl_append, foldMax_from _ _ (foldMax_ge _ 0)]
theorem take_map_append {α β : Type} (f : α → β) (l m : List α) : List.take (l.length + m.length) (l.map f ++ m.map f) = l.map f ++ m.map f := by
  rw [List.take_of_length_le (by simp)]
attribute [go_sem] take_map_append
theorem capC_nil (t : Tr) (l : List Cl) : capC t l [] [] = 0 := rfl

set_option maxHeartbeats 4000000 in
theorem clampJoins_eq (L : List Int) : V 4 [.p (intsP L)] [] = some (.p (.bool true), []) := by
  refine V_wp (vf := vf4) rfl ?_
  have hli := light_eq (L.map (PV.int .i64))
  rw [List.length_map] at hli
  by_cases hL : L.length ≤ 600
  · rw [decide_eq_true hL] at hli
    have hro := roll_eq L
    have htr : V 23 [.ptr (.arg 0 0) 0 0, .p (.int .i64 7)] [.box [.p (intsP L), .p (.int .i64 0)]] = some ((dTree L 0 7).1.vv, [diceB L (dTree L 0 7).2]) := tree_eq L 0 7 (by omega) (by omega)
    have hok := dTree_ok L 0 7
    generalize dTree L 0 7 = ta at htr hok
    obtain ⟨t, a0⟩ := ta
    simp only at htr hok
    have hlen := hok.len
    have hcl := clamps_eq L a0 t (by omega) (by omega)
    have hcok := dClamps_ok L a0 hok
    have hclen := dClamps_length L t.nodes a0
    generalize dClamps L a0 t.nodes = la at hcl hcok hclen
    obtain ⟨l, a1⟩ := la
    simp only at hcl hcok hclen
    have hn5 := next_eq L a1 5 (by omega) (by omega)
    have r0 := nextV_nonneg L a1 5
    have r1 := nextV_lt L a1 (n := 5) (by omega)
    obtain ⟨N, hN⟩ : ∃ N : Nat, nextV L a1 5 = N := ⟨(nextV L a1 5).toNat, by omega⟩
    rw [hN] at hn5 r0 r1
    generalize nextA L a1 5 = a2 at hn5
    simp -implicitDefEqProofs (disch := omega) only [vf4, vb4, hli, hro, htr, hcl, hn5, go_sem, ↓reduceIte, Nat.reduceAdd, Nat.reduceSub, Nat.reduceEqDiff, Nat.reduceLeDiff, reduceCtorEq]
    refine wp_count N (fun k s => ∃ (g u h v : List Int) (b v6 v7 v8 v9 : Nat), g.length = k ∧ u.length = k ∧ h.length = k ∧ v.length = k ∧ s.pe 3 = .ptr (.slot 20 1) 0 0 ∧ s.pe 4 = .ptr (.slot 4 0) 0 0 ∧ s.pe 5 = .own (.slot 25 1) 0 0 l.length ∧ s.pe 6 = .own (.slot 6 0) v6 0 g.length ∧ s.pe 7 = .own (.slot 7 0) v7 0 u.length ∧ s.pe 8 = .own (.slot 8 0) v8 0 h.length ∧ s.pe 9 = .own (.slot 9 0) v9 0 v.length ∧ s.pe 10 = .p (.int .i64 ((N : Int) - k)) ∧ s.h (.slot 20 1) = some (0, diceB L b) ∧ s.h (.slot 4 0) = some (0, .box [.p (nodesP t.nodes), .p (.int .i64 t.next)]) ∧ s.h (.slot 25 1) = some (0, .arr 3 (l.map Cl.pv)) ∧ s.h (.slot 6 0) = some (v6, .arr 1 (g.map (.int .i64))) ∧ s.h (.slot 7 0) = some (v7, .arr 1 (u.map (.int .i64))) ∧ s.h (.slot 8 0) = some (v8, .arr 1 (h.map (.int .i64))) ∧ s.h (.slot 9 0) = some (v9, .arr 1 (v.map (.int .i64)))) ?_ ?_
    · exact ⟨[], [], [], [], a2, 0, 0, 0, 0, rfl, rfl, rfl, rfl, by simp -implicitDefEqProofs (disch := omega) only [go_sem, ↓reduceIte, Nat.reduceAdd, Nat.reduceSub, Nat.reduceEqDiff, Nat.reduceLeDiff, reduceCtorEq], by simp -implicitDefEqProofs (disch := omega) only [go_sem, ↓reduceIte, Nat.reduceAdd, Nat.reduceSub, Nat.reduceEqDiff, Nat.reduceLeDiff, reduceCtorEq], by simp -implicitDefEqProofs (disch := omega) only [go_sem, ↓reduceIte, Nat.reduceAdd, Nat.reduceSub, Nat.reduceEqDiff, Nat.reduceLeDiff, reduceCtorEq], by simp -implicitDefEqProofs (disch := omega) only [go_sem, ↓reduceIte, Nat.reduceAdd, Nat.reduceSub, Nat.reduceEqDiff, Nat.reduceLeDiff, reduceCtorEq], by simp -implicitDefEqProofs (disch := omega) only [go_sem, ↓reduceIte, Nat.reduceAdd, Nat.reduceSub, Nat.reduceEqDiff, Nat.reduceLeDiff, reduceCtorEq], by simp -implicitDefEqProofs (disch := omega) only [go_sem, ↓reduceIte, Nat.reduceAdd, Nat.reduceSub, Nat.reduceEqDiff, Nat.reduceLeDiff, reduceCtorEq], by simp -implicitDefEqProofs (disch := omega) only [go_sem, ↓reduceIte, Nat.reduceAdd, Nat.reduceSub, Nat.reduceEqDiff, Nat.reduceLeDiff, reduceCtorEq], by simp -implicitDefEqProofs (disch := omega) only [go_sem, ↓reduceIte, Nat.reduceAdd, Nat.reduceSub, Nat.reduceEqDiff, Nat.reduceLeDiff, reduceCtorEq]; simp, by simp -implicitDefEqProofs (disch := omega) only [go_sem, ↓reduceIte, Nat.reduceAdd, Nat.reduceSub, Nat.reduceEqDiff, Nat.reduceLeDiff, reduceCtorEq], by simp -implicitDefEqProofs (disch := omega) only [go_sem, ↓reduceIte, Nat.reduceAdd, Nat.reduceSub, Nat.reduceEqDiff, Nat.reduceLeDiff, reduceCtorEq], by simp -implicitDefEqProofs (disch := omega) only [go_sem, ↓reduceIte, Nat.reduceAdd, Nat.reduceSub, Nat.reduceEqDiff, Nat.reduceLeDiff, reduceCtorEq], by simp -implicitDefEqProofs (disch := omega) only [go_sem, ↓reduceIte, Nat.reduceAdd, Nat.reduceSub, Nat.reduceEqDiff, Nat.reduceLeDiff, reduceCtorEq], by simp -implicitDefEqProofs (disch := omega) only [go_sem, ↓reduceIte, Nat.reduceAdd, Nat.reduceSub, Nat.reduceEqDiff, Nat.reduceLeDiff, reduceCtorEq], by simp -implicitDefEqProofs (disch := omega) only [go_sem, ↓reduceIte, Nat.reduceAdd, Nat.reduceSub, Nat.reduceEqDiff, Nat.reduceLeDiff, reduceCtorEq], by simp -implicitDefEqProofs (disch := omega) only [go_sem, ↓reduceIte, Nat.reduceAdd, Nat.reduceSub, Nat.reduceEqDiff, Nat.reduceLeDiff, reduceCtorEq]⟩
    · rintro k s hk ⟨g, u, h, v, b, v6, v7, v8, v9, lg, lu, lh, lv, h3, h4, h5, h6, h7, h8, h9, h10, hh3, hh4, hh5, hh6, hh7, hh8, hh9⟩
      simp -implicitDefEqProofs (disch := omega) only [h3, h4, h5, h6, h7, h8, h9, h10, hh3, hh4, hh5, hh6, hh7, hh8, hh9, go_sem, ↓reduceIte, Nat.reduceAdd, Nat.reduceSub, Nat.reduceEqDiff, Nat.reduceLeDiff, reduceCtorEq]
      refine wp_if_d (fun hlt => ?_) (fun hge => ?_)
      · have c1 := group_eq L b t (by omega) (by omega)
        generalize groupD L b t.nodes = q1 at c1
        obtain ⟨g1, b1⟩ := q1
        simp only at c1
        have c2 := next_eq L b1 12000 (by omega) (by omega)
        have s1 := nextV_nonneg L b1 12000
        have s2 := nextV_lt L b1 (n := 12000) (by omega)
        generalize nextV L b1 12000 = x1 at c2 s1 s2
        generalize nextA L b1 12000 = b2 at c2
        have c3 := group_eq L b2 t (by omega) (by omega)
        generalize groupD L b2 t.nodes = q3 at c3
        obtain ⟨g3, b3⟩ := q3
        simp only at c3
        have c4 := next_eq L b3 12000 (by omega) (by omega)
        have s3 := nextV_nonneg L b3 12000
        have s4 := nextV_lt L b3 (n := 12000) (by omega)
        generalize nextV L b3 12000 = x2 at c4 s3 s4
        generalize nextA L b3 12000 = b4 at c4
        simp -implicitDefEqProofs (disch := omega) only [h3, h4, h5, h6, h7, h8, h9, h10, hh3, hh4, hh5, hh6, hh7, hh8, hh9, hlt, c1, c2, c3, c4, go_sem, ↓reduceIte, Nat.reduceAdd, Nat.reduceSub, Nat.reduceEqDiff, Nat.reduceLeDiff, reduceCtorEq]
        refine ⟨by omega, g ++ [g1], u ++ [x1 - 1000], h ++ [g3], v ++ [x2 - 1000], b4, v6 + 1, v7 + 1, v8 + 1, v9 + 1, by simp [lg], by simp [lu], by simp [lh], by simp [lv], ?_⟩
        simp [lg, lu, lh, lv]
        omega
      · have ca := ccap_eq t l g u hok.fits (by omega) (by omega)
        have cb := ccap_eq t l h v hok.fits (by omega) (by omega)
        have cc := ccap_eq t l (g ++ h) (u ++ v) hok.fits (by omega) (by simp; omega)
        have cd := ccap_eq t l (h ++ g) (v ++ u) hok.fits (by omega) (by simp; omega)
        have ce := ccap_eq t l [] [] hok.fits (by omega) (by simp)
        rw [capC_append t l (by omega) (by omega)] at cc cd
        simp only [intsP, List.map_append, List.map_nil] at ca cb cc cd ce
        have hcomm : max (capC t l h v) (capC t l g u) = max (capC t l g u) (capC t l h v) := by omega
        rw [hcomm] at cd
        rw [capC_nil] at ce
        simp -implicitDefEqProofs (disch := omega) only [h3, h4, h5, h6, h7, h8, h9, h10, hh3, hh4, hh5, hh6, hh7, hh8, hh9, hge, ca, cb, cc, cd, ce, sane_eq, go_sem, ↓reduceIte, Nat.reduceAdd, Nat.reduceSub, Nat.reduceEqDiff, Nat.reduceLeDiff, reduceCtorEq]
  · rw [decide_eq_false hL] at hli
    simp -implicitDefEqProofs (disch := omega) only [vf4, vb4, hli, sane_eq, go_sem, ↓reduceIte, Nat.reduceAdd, Nat.reduceSub, Nat.reduceEqDiff, Nat.reduceLeDiff, reduceCtorEq]
end Go.V
