/- The law ClampOrder in the value machine. -/
import Derived.Test.YtcljahgcdbohaaaVC19
set_option linter.unusedSimpArgs false
set_option linter.unusedVariables false
namespace Go.V

set_option maxHeartbeats 4000000 in
theorem clampOrder_eq (L : List Int) (a b : Int) : V 3 [.p (intsP L), .p (.int .i64 a), .p (.int .i64 b)] [] = some (.p (.bool true), []) := by
  refine V_wp (vf := vf3) rfl ?_
  have hli := light_eq (L.map (PV.int .i64))
  rw [List.length_map] at hli
  by_cases hL : L.length ≤ 600
  · rw [decide_eq_true hL] at hli
    have hro := roll_eq L
    have htr : V 23 [.ptr (.arg 0 0) 0 0, .p (.int .i64 7)] [.box [.p (intsP L), .p (.int .i64 0)]] = some ((dTree L 0 7).1.vv, [diceB L (dTree L 0 7).2]) := tree_eq L 0 7 (by omega) (by omega)
    have hok := dTree_ok L 0 7
    generalize dTree L 0 7 = ta at htr hok
    obtain ⟨t, a0⟩ := ta
    simp only at htr hok
    have hlen := hok.len
    have hcl := clamps_eq L a0 t (by omega) (by omega)
    have hcok := dClamps_ok L a0 hok
    have hclen := dClamps_length L t.nodes a0
    generalize dClamps L a0 t.nodes = la at hcl hcok hclen
    obtain ⟨l, a1⟩ := la
    simp only at hcl hcok hclen
    have heff := fun g => ceffective_eq t l g hok.fits (by omega)
    have happ := fun g u => cApply_eq t l g u hok.fits (by omega)
    simp -implicitDefEqProofs (disch := omega) only [vf3, vb3, hli, hro, htr, hcl, go_sem, ↓reduceIte, Nat.reduceAdd, Nat.reduceSub, Nat.reduceEqDiff, Nat.reduceLeDiff, reduceCtorEq]
    refine wp_if_d (fun hgt => ?_) (fun hle => ?_)
    all_goals
      simp -implicitDefEqProofs (disch := omega) only [go_sem, ↓reduceIte, Nat.reduceAdd, Nat.reduceSub, Nat.reduceEqDiff, Nat.reduceLeDiff, reduceCtorEq]
      refine wp_count t.nodes.length (fun k s => ∃ a' b' : Int, a' ≤ b' ∧ s.pe 1 = .p (.int .i64 a') ∧ s.pe 2 = .p (.int .i64 b') ∧ s.pe 8 = .ptr (.slot 8 0) 0 0 ∧ s.pe 9 = .own (.slot 28 1) 0 0 l.length ∧ s.pe 36 = .p (.int .i64 t.nodes.length) ∧ s.pe 37 = .p (.int .i64 k) ∧ s.h (.slot 8 0) = some (0, .box [.p (nodesP t.nodes), .p (.int .i64 t.next)]) ∧ s.h (.slot 28 1) = some (0, .arr 3 (l.map Cl.pv))) ?_ ?_
    · exact ⟨b, a, by omega, by simp -implicitDefEqProofs (disch := omega) only [go_sem, ↓reduceIte, Nat.reduceAdd, Nat.reduceSub, Nat.reduceEqDiff, Nat.reduceLeDiff, reduceCtorEq], by simp -implicitDefEqProofs (disch := omega) only [go_sem, ↓reduceIte, Nat.reduceAdd, Nat.reduceSub, Nat.reduceEqDiff, Nat.reduceLeDiff, reduceCtorEq], by simp -implicitDefEqProofs (disch := omega) only [go_sem, ↓reduceIte, Nat.reduceAdd, Nat.reduceSub, Nat.reduceEqDiff, Nat.reduceLeDiff, reduceCtorEq], by simp -implicitDefEqProofs (disch := omega) only [go_sem, ↓reduceIte, Nat.reduceAdd, Nat.reduceSub, Nat.reduceEqDiff, Nat.reduceLeDiff, reduceCtorEq], by simp -implicitDefEqProofs (disch := omega) only [go_sem, ↓reduceIte, Nat.reduceAdd, Nat.reduceSub, Nat.reduceEqDiff, Nat.reduceLeDiff, reduceCtorEq], rfl, by simp -implicitDefEqProofs (disch := omega) only [go_sem, ↓reduceIte, Nat.reduceAdd, Nat.reduceSub, Nat.reduceEqDiff, Nat.reduceLeDiff, reduceCtorEq], by simp -implicitDefEqProofs (disch := omega) only [go_sem, ↓reduceIte, Nat.reduceAdd, Nat.reduceSub, Nat.reduceEqDiff, Nat.reduceLeDiff, reduceCtorEq]⟩
    rotate_left
    · exact ⟨a, b, by omega, by simp -implicitDefEqProofs (disch := omega) only [go_sem, ↓reduceIte, Nat.reduceAdd, Nat.reduceSub, Nat.reduceEqDiff, Nat.reduceLeDiff, reduceCtorEq], by simp -implicitDefEqProofs (disch := omega) only [go_sem, ↓reduceIte, Nat.reduceAdd, Nat.reduceSub, Nat.reduceEqDiff, Nat.reduceLeDiff, reduceCtorEq], by simp -implicitDefEqProofs (disch := omega) only [go_sem, ↓reduceIte, Nat.reduceAdd, Nat.reduceSub, Nat.reduceEqDiff, Nat.reduceLeDiff, reduceCtorEq], by simp -implicitDefEqProofs (disch := omega) only [go_sem, ↓reduceIte, Nat.reduceAdd, Nat.reduceSub, Nat.reduceEqDiff, Nat.reduceLeDiff, reduceCtorEq], by simp -implicitDefEqProofs (disch := omega) only [go_sem, ↓reduceIte, Nat.reduceAdd, Nat.reduceSub, Nat.reduceEqDiff, Nat.reduceLeDiff, reduceCtorEq], rfl, by simp -implicitDefEqProofs (disch := omega) only [go_sem, ↓reduceIte, Nat.reduceAdd, Nat.reduceSub, Nat.reduceEqDiff, Nat.reduceLeDiff, reduceCtorEq], by simp -implicitDefEqProofs (disch := omega) only [go_sem, ↓reduceIte, Nat.reduceAdd, Nat.reduceSub, Nat.reduceEqDiff, Nat.reduceLeDiff, reduceCtorEq]⟩
    all_goals
      rintro k s hk ⟨a', b', hab, h1, h2, h8, h9, h36, h37, hh8, hh28⟩
      simp -implicitDefEqProofs (disch := omega) only [h1, h2, h8, h9, h36, h37, hh8, hh28, go_sem, ↓reduceIte, Nat.reduceAdd, Nat.reduceSub, Nat.reduceEqDiff, Nat.reduceLeDiff, reduceCtorEq]
      refine wp_if_d (fun hlt => ?_) (fun hge => ?_)
      · have hm : t.nodes[k]? = some t.nodes[k] := List.getElem?_eq_getElem hlt
        generalize t.nodes[k] = m at hm
        obtain ⟨f1, f2, f3, f4, f5, f6, f7, f8⟩ := order_facts hcok hm a' b' hab
        by_cases hid : m.id = 1
        · rw [hid] at f1 f2 f3 f5 f6 f7 f8
          simp -implicitDefEqProofs (disch := omega) only [h1, h2, h8, h9, h36, h37, hh8, hh28, hm, heff, happ, f1, f2, f3, f5, f6, f7, f8, hid, go_sem, ↓reduceIte, Nat.reduceAdd, Nat.reduceSub, Nat.reduceEqDiff, Nat.reduceLeDiff, reduceCtorEq]
          exact ⟨hlt, a', b', hab, rfl, rfl, rfl⟩
        · have f4' := f4 hid
          simp -implicitDefEqProofs (disch := omega) only [h1, h2, h8, h9, h36, h37, hh8, hh28, hm, heff, happ, f1, f2, f3, f4', f5, f6, f7, f8, hid, go_sem, ↓reduceIte, Nat.reduceAdd, Nat.reduceSub, Nat.reduceEqDiff, Nat.reduceLeDiff, reduceCtorEq]
          exact ⟨hlt, a', b', hab, rfl, rfl, rfl⟩
      · simp -implicitDefEqProofs (disch := omega) only [h1, h2, h8, h9, h36, h37, hh8, hh28, hge, sane_eq, go_sem, ↓reduceIte, Nat.reduceAdd, Nat.reduceSub, Nat.reduceEqDiff, Nat.reduceLeDiff, reduceCtorEq]
  · rw [decide_eq_false hL] at hli
    simp -implicitDefEqProofs (disch := omega) only [vf3, vb3, hli, sane_eq, go_sem, ↓reduceIte, Nat.reduceAdd, Nat.reduceSub, Nat.reduceEqDiff, Nat.reduceLeDiff, reduceCtorEq]
end Go.V
