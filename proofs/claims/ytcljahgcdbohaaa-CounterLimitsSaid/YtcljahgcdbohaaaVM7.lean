/- The law CounterLimits in the value machine: the walk. -/
import Derived.Test.YtcljahgcdbohaaaVM6
set_option linter.unusedSimpArgs false
set_option linter.unusedVariables false
namespace Go.V
-- closer: sumI

theorem ne11 : ¬ ((11 : Int) = 0) := by decide

set_option maxHeartbeats 8000000 in
theorem counterLimits_eq (L : List Int) : V 18 [.p (intsP L)] [] = some (.p (.bool true), []) := by
  refine V_wp (vf := vf18) rfl ?_
  have hli := light_eq (L.map (PV.int .i64))
  rw [List.length_map] at hli
  by_cases hL : L.length ≤ 600
  · rw [decide_eq_true hL] at hli
    have hro := roll_eq L
    have htr : V 23 [.ptr (.arg 0 0) 0 0, .p (.int .i64 6)] [.box [.p (intsP L), .p (.int .i64 0)]] = some ((dTree L 0 6).1.vv, [diceB L (dTree L 0 6).2]) := tree_eq L 0 6 (by omega) (by omega)
    have hok := dTree_ok L 0 6
    generalize dTree L 0 6 = ta at htr hok
    obtain ⟨t, a0⟩ := ta
    simp only at htr hok
    have hlen := hok.len
    have hdl := dlimits_eq L a0 t (by omega) (by omega)
    have hlo := dLimits_asc L hok a0
    generalize dLimits L t.nodes a0 = la at hdl hlo
    obtain ⟨l, a1⟩ := la
    simp only at hdl hlo
    have hll := asc_length hlo
    simp -implicitDefEqProofs (disch := omega) only [vf18, vb18, hli, hro, htr, hdl, go_sem, ↓reduceIte, Nat.reduceAdd, Nat.reduceSub, Nat.reduceEqDiff, Nat.reduceLeDiff, reduceCtorEq]
    obtain ⟨I, hI⟩ : ∃ I : Nat → St → Prop, ∀ k s, I k s ↔ ∃ (b : Nat) (c : List Ch), ChOk t.nodes c ∧ NoOver t c l ∧ sumI (c.map (·.own)) ≤ 100 * k ∧ s.pe 3 = .ptr (.slot 22 1) 0 0 ∧ s.pe 4 = .ptr (.slot 4 0) 0 0 ∧ s.pe 5 = .own (.slot 27 1) 0 0 l.length ∧ s.pe 6 = .ptr (.slot 6 0) 0 0 ∧ s.pe 7 = .p (.int .i64 k) ∧ s.h (.slot 4 0) = some (0, Ob.box [.p (nodesP t.nodes), .p (.int .i64 t.next)]) ∧ s.h (.slot 22 1) = some (0, diceB L b) ∧ s.h (.slot 27 1) = some (0, Ob.arr 2 (List.map Ch.pv l)) ∧ ∃ X, s.h (.slot 6 0) = some (0, Ob.box [X]) ∧ fz0 [6, 10, 55, 86, 95] s.h X = .p (chsP c) := ⟨_, fun _ _ => Iff.rfl⟩
    refine wp_count (20) I ?_ ?_
    · refine (hI _ _).2 ⟨a1, [], ?_, ?_, ?_, ?_, ?_, ?_, ?_, ?_, ?_, ?_, ?_, ?_⟩
      · exact ChOk.nil _
      · exact fun x hx => by have := (hlo.range x hx).1; simp only [tot]; rw [sum_own_nil]; exact this
      · exact by simp [sumI]
      all_goals first | with_reducible rfl | (simp -implicitDefEqProofs (disch := omega) only [List.map_append, go_sem, ↓reduceIte, Nat.reduceAdd, Nat.reduceSub, Nat.reduceEqDiff, Nat.reduceLeDiff, reduceCtorEq]; done) | (simp -implicitDefEqProofs (disch := omega) only [List.map_append, go_sem, ↓reduceIte, Nat.reduceAdd, Nat.reduceSub, Nat.reduceEqDiff, Nat.reduceLeDiff, reduceCtorEq]; first | rfl | (simp; done) | (congr 2; omega) | (congr 1; omega) | (congr 3; omega) | (simp; omega) | (congr 2; simp; omega) | (simp [sumI]; done) | (simp [sumI]; omega)) | rfl | omega | (congr 2; omega) | (simp -implicitDefEqProofs (disch := omega) only [List.map_append, go_sem, ↓reduceIte, Nat.reduceAdd, Nat.reduceSub, Nat.reduceEqDiff, Nat.reduceLeDiff, reduceCtorEq]; refine ⟨_, rfl, ?_⟩; first | (simp -implicitDefEqProofs (disch := omega) only [List.map_append, go_sem, ↓reduceIte, Nat.reduceAdd, Nat.reduceSub, Nat.reduceEqDiff, Nat.reduceLeDiff, reduceCtorEq]; done) | rfl) | (refine ⟨_, by simp -implicitDefEqProofs (disch := omega) only [List.map_append, go_sem, ↓reduceIte, Nat.reduceAdd, Nat.reduceSub, Nat.reduceEqDiff, Nat.reduceLeDiff, reduceCtorEq], ?_⟩; first | (simp -implicitDefEqProofs (disch := omega) only [List.map_append, go_sem, ↓reduceIte, Nat.reduceAdd, Nat.reduceSub, Nat.reduceEqDiff, Nat.reduceLeDiff, reduceCtorEq]; done) | rfl)
    intro k s hk hIk
    obtain ⟨b, c, hc, hno, hs, h3, h4, h5, h6, h7, hh4_0, hh22_1, hh27_1, hX⟩ := (hI _ _).1 hIk
    clear hIk
    obtain ⟨X, hh6, hX⟩ := hX
    have hcl := hc.length
    by_cases hk20 : (k : Int) < 20
    · have hle := left_eq L b
      by_cases hlf : (b : Int) < L.length
      · rw [decide_eq_true hlf] at hle
        have d1 := next_eq L b t.nodes.length (by omega) (by omega)
        have x0 := nextV_nonneg L b t.nodes.length
        have x1 := nextV_lt L b (n := t.nodes.length) (by omega)
        generalize nextV L b t.nodes.length = xi at d1 x0 x1
        generalize nextA L b t.nodes.length = b1 at d1
        have hm : t.nodes[xi.toNat]? = some t.nodes[xi.toNat] := List.getElem?_eq_getElem (by omega)
        generalize t.nodes[xi.toNat] = m at hm
        have d2 := pick_eq L b1 [0, 1, 4, 30, 100] (by omega) (by simp) (by simp)
        have hpm := pickV_mem L b1 (xs := [0, 1, 4, 30, 100]) (by simp)
        simp only [intsP, List.length_cons, List.length_nil, Nat.reduceAdd, List.map_cons, List.map_nil] at d2
        generalize pickV L b1 [0, 1, 4, 30, 100] = n at d2 hpm
        generalize nextA L b1 ((5 : Nat) : Int) = b2 at d2
        have hn : 0 ≤ n ∧ n ≤ 100 := by
          simp at hpm
          omega
        have d3 := charge_eq t c l m.id n hok.fits (by omega) (by omega) (by omega)
        rcases charge_step hok hc hlo hno hm hn.1 hn.2 (by omega) with ⟨x, e1, hx, hnx, hsx⟩ | ⟨g, j, q, e1, hg, hj, hje, hmost⟩
        · rw [e1] at d3
          simp only at d3
          have hxl := hx.length
          have d4 := over_eq t x l hok.fits (by omega) (by omega) (by omega)
          rw [noOver_nil hok hx hlo hnx] at d4
          simp only [List.map_nil] at d4
          simp -implicitDefEqProofs (disch := omega) only [h3, h4, h5, h6, h7, hh4_0, hh22_1, hh27_1, hX, hh6, hk20, hle, d1, hm, d2, d3, d4, zero_lt_zero, go_sem, ↓reduceIte, Nat.reduceAdd, Nat.reduceSub, Nat.reduceEqDiff, Nat.reduceLeDiff, reduceCtorEq]
          try refine And.intro (by omega) ?_
          refine (hI _ _).2 ⟨b2, x, ?_, ?_, ?_, ?_, ?_, ?_, ?_, ?_, ?_, ?_, ?_, ?_⟩
          · exact hx
          · exact hnx
          · exact by rw [hsx]; omega
          all_goals first | with_reducible rfl | (simp -implicitDefEqProofs (disch := omega) only [h3, h4, h5, h6, h7, hh4_0, hh22_1, hh27_1, hX, hh6, List.map_append, go_sem, ↓reduceIte, Nat.reduceAdd, Nat.reduceSub, Nat.reduceEqDiff, Nat.reduceLeDiff, reduceCtorEq]; done) | (simp -implicitDefEqProofs (disch := omega) only [h3, h4, h5, h6, h7, hh4_0, hh22_1, hh27_1, hX, hh6, List.map_append, go_sem, ↓reduceIte, Nat.reduceAdd, Nat.reduceSub, Nat.reduceEqDiff, Nat.reduceLeDiff, reduceCtorEq]; first | rfl | (simp; done) | (congr 2; omega) | (congr 1; omega) | (congr 3; omega) | (simp; omega) | (congr 2; simp; omega) | (simp [sumI]; done) | (simp [sumI]; omega)) | rfl | omega | (congr 2; omega) | (simp -implicitDefEqProofs (disch := omega) only [h3, h4, h5, h6, h7, hh4_0, hh22_1, hh27_1, hX, hh6, List.map_append, go_sem, ↓reduceIte, Nat.reduceAdd, Nat.reduceSub, Nat.reduceEqDiff, Nat.reduceLeDiff, reduceCtorEq]; refine ⟨_, rfl, ?_⟩; first | (simp -implicitDefEqProofs (disch := omega) only [h3, h4, h5, h6, h7, hh4_0, hh22_1, hh27_1, hX, hh6, List.map_append, go_sem, ↓reduceIte, Nat.reduceAdd, Nat.reduceSub, Nat.reduceEqDiff, Nat.reduceLeDiff, reduceCtorEq]; done) | rfl) | (refine ⟨_, by simp -implicitDefEqProofs (disch := omega) only [h3, h4, h5, h6, h7, hh4_0, hh22_1, hh27_1, hX, hh6, List.map_append, go_sem, ↓reduceIte, Nat.reduceAdd, Nat.reduceSub, Nat.reduceEqDiff, Nat.reduceLeDiff, reduceCtorEq], ?_⟩; first | (simp -implicitDefEqProofs (disch := omega) only [h3, h4, h5, h6, h7, hh4_0, hh22_1, hh27_1, hX, hh6, List.map_append, go_sem, ↓reduceIte, Nat.reduceAdd, Nat.reduceSub, Nat.reduceEqDiff, Nat.reduceLeDiff, reduceCtorEq]; done) | rfl)
        · rw [e1] at d3
          simp only at d3
          subst hje
          have d5 := total_at hok hc hj
          have d6 := most_eq l q.id (by omega)
          have d7 := ranc_eq t m.id (by omega)
          have hal := ancF_length t.nodes t.nodes.length m.id
          rw [ancR_anc hok hm] at d7
          have d8 := has3_eq (ancF t.nodes t.nodes.length m.id) q.id (by omega)
          rw [decide_eq_true hg] at d8
          have t0 := tot_nonneg t (fun x => ownC_nonneg hc.pos x) q.id
          have t1 := tot_le hok hc hj
          have t2 := hc.all
          have d4 := over_eq t c l hok.fits (by omega) (by omega) (by omega)
          rw [noOver_nil hok hc hlo hno] at d4
          simp only [List.map_nil] at d4
          generalize tot t (ownC c) q.id = T at d5 t0 t1 hmost
          generalize mostK l q.id = M at d6 hmost
          have hnle : ¬ (T + n ≤ M) := by omega
          generalize ancF t.nodes t.nodes.length m.id = A at d7 d8 hal
          simp -implicitDefEqProofs (disch := omega) only [h3, h4, h5, h6, h7, hh4_0, hh22_1, hh27_1, hX, hh6, hX, hk20, hle, d1, hm, d2, d3, d4, d5, d6, d7, d8, hnle, ne11, zero_lt_zero, go_sem, ↓reduceIte, Nat.reduceAdd, Nat.reduceSub, Nat.reduceEqDiff, Nat.reduceLeDiff, reduceCtorEq]
          try refine And.intro (by omega) ?_
          refine (hI _ _).2 ⟨b2, c, ?_, ?_, ?_, ?_, ?_, ?_, ?_, ?_, ?_, ?_, ?_, ?_⟩
          · exact hc
          · exact hno
          · exact by omega
          all_goals first | with_reducible rfl | (simp -implicitDefEqProofs (disch := omega) only [h3, h4, h5, h6, h7, hh4_0, hh22_1, hh27_1, hX, hh6, hX, List.map_append, go_sem, ↓reduceIte, Nat.reduceAdd, Nat.reduceSub, Nat.reduceEqDiff, Nat.reduceLeDiff, reduceCtorEq]; done) | (simp -implicitDefEqProofs (disch := omega) only [h3, h4, h5, h6, h7, hh4_0, hh22_1, hh27_1, hX, hh6, hX, List.map_append, go_sem, ↓reduceIte, Nat.reduceAdd, Nat.reduceSub, Nat.reduceEqDiff, Nat.reduceLeDiff, reduceCtorEq]; first | rfl | (simp; done) | (congr 2; omega) | (congr 1; omega) | (congr 3; omega) | (simp; omega) | (congr 2; simp; omega) | (simp [sumI]; done) | (simp [sumI]; omega)) | rfl | omega | (congr 2; omega) | (simp -implicitDefEqProofs (disch := omega) only [h3, h4, h5, h6, h7, hh4_0, hh22_1, hh27_1, hX, hh6, hX, List.map_append, go_sem, ↓reduceIte, Nat.reduceAdd, Nat.reduceSub, Nat.reduceEqDiff, Nat.reduceLeDiff, reduceCtorEq]; refine ⟨_, rfl, ?_⟩; first | (simp -implicitDefEqProofs (disch := omega) only [h3, h4, h5, h6, h7, hh4_0, hh22_1, hh27_1, hX, hh6, hX, List.map_append, go_sem, ↓reduceIte, Nat.reduceAdd, Nat.reduceSub, Nat.reduceEqDiff, Nat.reduceLeDiff, reduceCtorEq]; done) | rfl) | (refine ⟨_, by simp -implicitDefEqProofs (disch := omega) only [h3, h4, h5, h6, h7, hh4_0, hh22_1, hh27_1, hX, hh6, hX, List.map_append, go_sem, ↓reduceIte, Nat.reduceAdd, Nat.reduceSub, Nat.reduceEqDiff, Nat.reduceLeDiff, reduceCtorEq], ?_⟩; first | (simp -implicitDefEqProofs (disch := omega) only [h3, h4, h5, h6, h7, hh4_0, hh22_1, hh27_1, hX, hh6, hX, List.map_append, go_sem, ↓reduceIte, Nat.reduceAdd, Nat.reduceSub, Nat.reduceEqDiff, Nat.reduceLeDiff, reduceCtorEq]; done) | rfl)
      · rw [decide_eq_false hlf] at hle
        simp -implicitDefEqProofs (disch := omega) only [h3, h4, h5, h6, h7, hh4_0, hh22_1, hh27_1, hX, hh6, hk20, hle, sane22_eq, go_sem, ↓reduceIte, Nat.reduceAdd, Nat.reduceSub, Nat.reduceEqDiff, Nat.reduceLeDiff, reduceCtorEq]
    · simp -implicitDefEqProofs (disch := omega) only [h3, h4, h5, h6, h7, hh4_0, hh22_1, hh27_1, hX, hh6, hk20, sane22_eq, go_sem, ↓reduceIte, Nat.reduceAdd, Nat.reduceSub, Nat.reduceEqDiff, Nat.reduceLeDiff, reduceCtorEq]
  · rw [decide_eq_false hL] at hli
    simp -implicitDefEqProofs (disch := omega) only [vf18, vb18, hli, sane22_eq, go_sem, ↓reduceIte, Nat.reduceAdd, Nat.reduceSub, Nat.reduceEqDiff, Nat.reduceLeDiff, reduceCtorEq]
end Go.V

