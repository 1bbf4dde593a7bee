/- The law IofairNext in the value machine: the walk. -/
import Derived.Test.YtcljahgcdbohaaaVJ6
set_option linter.unusedSimpArgs false
set_option linter.unusedVariables false
namespace Go.V
-- closer: sumI

set_option maxHeartbeats 8000000 in
theorem iofairNext_eq (L : List Int) (now0 : Int) : V 16 [.p (intsP L), .p (.int .i64 now0)] [] = some (.p (.bool true), []) := by
  refine V_wp (vf := vf16) rfl ?_
  have hli := light_eq (L.map (PV.int .i64))
  rw [List.length_map] at hli
  by_cases hL : L.length ≤ 600
  · rw [decide_eq_true hL] at hli
    have hro := roll_eq L
    have htr : V 23 [.ptr (.arg 0 0) 0 0, .p (.int .i64 6)] [.box [.p (intsP L), .p (.int .i64 0)]] = some ((dTree L 0 6).1.vv, [diceB L (dTree L 0 6).2]) := tree_eq L 0 6 (by omega) (by omega)
    have hok := dTree_ok L 0 6
    generalize dTree L 0 6 = ta at htr hok
    obtain ⟨t, a0⟩ := ta
    simp only at htr hok
    have hlen := hok.len
    obtain ⟨ac, a1, hacc, hac⟩ := accounts_eq L a0 hok (by omega)
    have hal := asc_length hac
    have hso := some_eq L a1 (by omega)
    have hsl := dSome_len L a1
    generalize dSome L a1 = sa at hso hsl
    obtain ⟨list, a2⟩ := sa
    simp only at hso hsl
    have r1 := roll_eq [now0]
    have r2 : V 27 [.ptr (.arg 0 0) 0 0, .p (.int .i64 20000)] [.box [.p (intsP [now0]), .p (.int .i64 0)]] = some (.p (.int .i64 (nextV [now0] 0 20000)), [diceB [now0] (nextA [now0] 0 20000)]) := next_eq [now0] 0 20000 (by simp) (by omega)
    generalize nextV [now0] 0 20000 = now at r2
    generalize nextA [now0] 0 20000 = b0 at r2
    simp only [intsP, List.map_cons, List.map_nil] at r1 r2
    obtain ⟨best, hnx, hN⟩ := inext_eq t ac list now hok.fits (by omega) (by omega) (by omega)
    rcases hN with ⟨hb0, hall⟩ | ⟨hb0, hmem, hmay, hall⟩
    · subst hb0
      simp only [decide_true, Bool.not_true] at hnx
      simp -implicitDefEqProofs (disch := omega) only [vf16, vb16, hli, hro, htr, hacc, hso, r1, r2, hnx, go_sem, ↓reduceIte, Nat.reduceAdd, Nat.reduceSub, Nat.reduceEqDiff, Nat.reduceLeDiff, reduceCtorEq]
      obtain ⟨I, hI⟩ : ∃ I : Nat → St → Prop, ∀ k s, I k s ↔ s.pe 1 = .p (.int .i64 now) ∧ s.pe 6 = .ptr (.slot 6 0) 0 0 ∧ s.pe 7 = .p (chsP ac) ∧ s.pe 8 = .own (.slot 24 1) 0 0 list.length ∧ s.pe 9 = .p (.int .i64 0) ∧ s.pe 10 = .p (.bool false) ∧ s.pe 11 = .p (.int .i64 k) ∧ s.h (.slot 6 0) = some (0, Ob.box [.p (nodesP t.nodes), .p (.int .i64 t.next)]) ∧ s.h (.slot 24 1) = some (0, Ob.arr 1 (List.map (.int .i64) list)) := ⟨_, fun _ _ => Iff.rfl⟩
      refine wp_count (list.length) I ?_ ?_
      · refine (hI _ _).2 ⟨?_, ?_, ?_, ?_, ?_, ?_, ?_, ?_, ?_⟩
        all_goals first | with_reducible rfl | (simp -implicitDefEqProofs (disch := omega) only [List.map_append, go_sem, ↓reduceIte, Nat.reduceAdd, Nat.reduceSub, Nat.reduceEqDiff, Nat.reduceLeDiff, reduceCtorEq]; first | done | rfl | (simp; done) | (congr 2; omega) | (congr 1; omega) | (congr 3; omega) | (simp; omega) | (congr 2; simp; omega) | (simp [sumI]; done) | (simp [sumI]; omega) | (refine ⟨_, rfl, ?_⟩; first | rfl | (simp -implicitDefEqProofs (disch := omega) only [List.map_append, go_sem, ↓reduceIte, Nat.reduceAdd, Nat.reduceSub, Nat.reduceEqDiff, Nat.reduceLeDiff, reduceCtorEq]; done))) | rfl | omega | (congr 2; omega)
      intro k s hk hIk
      obtain ⟨h1, h6, h7, h8, h9, h10, h11, hh6_0, hh24_1⟩ := (hI _ _).1 hIk
      clear hIk
      simp -implicitDefEqProofs (disch := omega) only [h1, h6, h7, h8, h9, h10, h11, hh6_0, hh24_1, go_sem, ↓reduceIte, Nat.reduceAdd, Nat.reduceSub, Nat.reduceEqDiff, Nat.reduceLeDiff, reduceCtorEq]
      refine wp_if_d (fun hlt => ?_) (fun hge => ?_)
      · have hm : list[k]? = some list[k] := List.getElem?_eq_getElem hlt
        generalize list[k] = x at hm
        have d1 := may_eq t ac x now hok.fits (by omega) (by omega)
        rw [hall x (List.mem_of_getElem? hm)] at d1
        simp -implicitDefEqProofs (disch := omega) only [h1, h6, h7, h8, h9, h10, h11, hh6_0, hh24_1, hlt, hm, d1, go_sem, ↓reduceIte, Nat.reduceAdd, Nat.reduceSub, Nat.reduceEqDiff, Nat.reduceLeDiff, reduceCtorEq]
        try refine And.intro (by omega) ?_
        refine (hI _ _).2 ⟨?_, ?_, ?_, ?_, ?_, ?_, ?_, ?_, ?_⟩
        all_goals first | with_reducible rfl | (simp -implicitDefEqProofs (disch := omega) only [h1, h6, h7, h8, h9, h10, h11, hh6_0, hh24_1, List.map_append, go_sem, ↓reduceIte, Nat.reduceAdd, Nat.reduceSub, Nat.reduceEqDiff, Nat.reduceLeDiff, reduceCtorEq]; first | done | rfl | (simp; done) | (congr 2; omega) | (congr 1; omega) | (congr 3; omega) | (simp; omega) | (congr 2; simp; omega) | (simp [sumI]; done) | (simp [sumI]; omega) | (refine ⟨_, rfl, ?_⟩; first | rfl | (simp -implicitDefEqProofs (disch := omega) only [h1, h6, h7, h8, h9, h10, h11, hh6_0, hh24_1, List.map_append, go_sem, ↓reduceIte, Nat.reduceAdd, Nat.reduceSub, Nat.reduceEqDiff, Nat.reduceLeDiff, reduceCtorEq]; done))) | rfl | omega | (congr 2; omega)
      · simp -implicitDefEqProofs (disch := omega) only [h1, h6, h7, h8, h9, h10, h11, hh6_0, hh24_1, hge, sane32_eq, go_sem, ↓reduceIte, Nat.reduceAdd, Nat.reduceSub, Nat.reduceEqDiff, Nat.reduceLeDiff, reduceCtorEq]
    · have e1 := may_eq t ac best now hok.fits (by omega) (by omega)
      rw [hmay] at e1
      have e2 := has3_eq list best (by omega)
      rw [decide_eq_true hmem] at e2
      have e3 := get_eq ac best (by omega)
      rw [decide_eq_false hb0, Bool.not_false] at hnx
      simp -implicitDefEqProofs (disch := omega) only [vf16, vb16, hli, hro, htr, hacc, hso, r1, r2, hnx, hb0, e1, e2, go_sem, ↓reduceIte, Nat.reduceAdd, Nat.reduceSub, Nat.reduceEqDiff, Nat.reduceLeDiff, reduceCtorEq]
      obtain ⟨I, hI⟩ : ∃ I : Nat → St → Prop, ∀ k s, I k s ↔ s.pe 1 = .p (.int .i64 now) ∧ s.pe 6 = .ptr (.slot 6 0) 0 0 ∧ s.pe 7 = .p (chsP ac) ∧ s.pe 8 = .own (.slot 24 1) 0 0 list.length ∧ s.pe 9 = .p (.int .i64 best) ∧ s.pe 10 = .p (.bool true) ∧ s.pe 11 = .p (.int .i64 k) ∧ s.h (.slot 6 0) = some (0, Ob.box [.p (nodesP t.nodes), .p (.int .i64 t.next)]) ∧ s.h (.slot 24 1) = some (0, Ob.arr 1 (List.map (.int .i64) list)) := ⟨_, fun _ _ => Iff.rfl⟩
      refine wp_count (list.length) I ?_ ?_
      · refine (hI _ _).2 ⟨?_, ?_, ?_, ?_, ?_, ?_, ?_, ?_, ?_⟩
        all_goals first | with_reducible rfl | (simp -implicitDefEqProofs (disch := omega) only [h1, h6, h7, h8, h9, h10, h11, hh6_0, hh24_1, List.map_append, go_sem, ↓reduceIte, Nat.reduceAdd, Nat.reduceSub, Nat.reduceEqDiff, Nat.reduceLeDiff, reduceCtorEq]; first | done | rfl | (simp; done) | (congr 2; omega) | (congr 1; omega) | (congr 3; omega) | (simp; omega) | (congr 2; simp; omega) | (simp [sumI]; done) | (simp [sumI]; omega) | (refine ⟨_, rfl, ?_⟩; first | rfl | (simp -implicitDefEqProofs (disch := omega) only [h1, h6, h7, h8, h9, h10, h11, hh6_0, hh24_1, List.map_append, go_sem, ↓reduceIte, Nat.reduceAdd, Nat.reduceSub, Nat.reduceEqDiff, Nat.reduceLeDiff, reduceCtorEq]; done))) | rfl | omega | (congr 2; omega)
      intro k s hk hIk
      obtain ⟨h1, h6, h7, h8, h9, h10, h11, hh6_0, hh24_1⟩ := (hI _ _).1 hIk
      clear hIk
      simp -implicitDefEqProofs (disch := omega) only [h1, h6, h7, h8, h9, h10, h11, hh6_0, hh24_1, go_sem, ↓reduceIte, Nat.reduceAdd, Nat.reduceSub, Nat.reduceEqDiff, Nat.reduceLeDiff, reduceCtorEq]
      refine wp_if_d (fun hlt => ?_) (fun hge => ?_)
      · have hm : list[k]? = some list[k] := List.getElem?_eq_getElem hlt
        generalize list[k] = x at hm
        have d1 := may_eq t ac x now hok.fits (by omega) (by omega)
        have d2 := get_eq ac x (by omega)
        have hx := hall x (List.mem_of_getElem? hm)
        cases hmx : mayA t ac x now with
        | false =>
          rw [hmx] at d1
          simp -implicitDefEqProofs (disch := omega) only [h1, h6, h7, h8, h9, h10, h11, hh6_0, hh24_1, hlt, hm, d1, go_sem, ↓reduceIte, Nat.reduceAdd, Nat.reduceSub, Nat.reduceEqDiff, Nat.reduceLeDiff, reduceCtorEq]
          try refine And.intro (by omega) ?_
          refine (hI _ _).2 ⟨?_, ?_, ?_, ?_, ?_, ?_, ?_, ?_, ?_⟩
          all_goals first | with_reducible rfl | (simp -implicitDefEqProofs (disch := omega) only [h1, h6, h7, h8, h9, h10, h11, hh6_0, hh24_1, List.map_append, go_sem, ↓reduceIte, Nat.reduceAdd, Nat.reduceSub, Nat.reduceEqDiff, Nat.reduceLeDiff, reduceCtorEq]; first | done | rfl | (simp; done) | (congr 2; omega) | (congr 1; omega) | (congr 3; omega) | (simp; omega) | (congr 2; simp; omega) | (simp [sumI]; done) | (simp [sumI]; omega) | (refine ⟨_, rfl, ?_⟩; first | rfl | (simp -implicitDefEqProofs (disch := omega) only [h1, h6, h7, h8, h9, h10, h11, hh6_0, hh24_1, List.map_append, go_sem, ↓reduceIte, Nat.reduceAdd, Nat.reduceSub, Nat.reduceEqDiff, Nat.reduceLeDiff, reduceCtorEq]; done))) | rfl | omega | (congr 2; omega)
        | true =>
          rw [hmx] at d1
          have hx' := hx hmx
          generalize ownC ac x = p at d2 hx'
          generalize ownC ac best = q at e3 hx'
          have b2 : ¬ p < q := by omega
          by_cases b3 : p = q
          · have b4 : ¬ x < best := by omega
            simp -implicitDefEqProofs (disch := omega) only [h1, h6, h7, h8, h9, h10, h11, hh6_0, hh24_1, hlt, hm, d1, d2, e3, b3, b4, Int.lt_irrefl, go_sem, ↓reduceIte, Nat.reduceAdd, Nat.reduceSub, Nat.reduceEqDiff, Nat.reduceLeDiff, reduceCtorEq]
            try refine And.intro (by omega) ?_
            refine (hI _ _).2 ⟨?_, ?_, ?_, ?_, ?_, ?_, ?_, ?_, ?_⟩
            all_goals first | with_reducible rfl | (simp -implicitDefEqProofs (disch := omega) only [h1, h6, h7, h8, h9, h10, h11, hh6_0, hh24_1, List.map_append, go_sem, ↓reduceIte, Nat.reduceAdd, Nat.reduceSub, Nat.reduceEqDiff, Nat.reduceLeDiff, reduceCtorEq]; first | done | rfl | (simp; done) | (congr 2; omega) | (congr 1; omega) | (congr 3; omega) | (simp; omega) | (congr 2; simp; omega) | (simp [sumI]; done) | (simp [sumI]; omega) | (refine ⟨_, rfl, ?_⟩; first | rfl | (simp -implicitDefEqProofs (disch := omega) only [h1, h6, h7, h8, h9, h10, h11, hh6_0, hh24_1, List.map_append, go_sem, ↓reduceIte, Nat.reduceAdd, Nat.reduceSub, Nat.reduceEqDiff, Nat.reduceLeDiff, reduceCtorEq]; done))) | rfl | omega | (congr 2; omega)
          · simp -implicitDefEqProofs (disch := omega) only [h1, h6, h7, h8, h9, h10, h11, hh6_0, hh24_1, hlt, hm, d1, d2, e3, b2, b3, go_sem, ↓reduceIte, Nat.reduceAdd, Nat.reduceSub, Nat.reduceEqDiff, Nat.reduceLeDiff, reduceCtorEq]
            try refine And.intro (by omega) ?_
            refine (hI _ _).2 ⟨?_, ?_, ?_, ?_, ?_, ?_, ?_, ?_, ?_⟩
            all_goals first | with_reducible rfl | (simp -implicitDefEqProofs (disch := omega) only [h1, h6, h7, h8, h9, h10, h11, hh6_0, hh24_1, List.map_append, go_sem, ↓reduceIte, Nat.reduceAdd, Nat.reduceSub, Nat.reduceEqDiff, Nat.reduceLeDiff, reduceCtorEq]; first | done | rfl | (simp; done) | (congr 2; omega) | (congr 1; omega) | (congr 3; omega) | (simp; omega) | (congr 2; simp; omega) | (simp [sumI]; done) | (simp [sumI]; omega) | (refine ⟨_, rfl, ?_⟩; first | rfl | (simp -implicitDefEqProofs (disch := omega) only [h1, h6, h7, h8, h9, h10, h11, hh6_0, hh24_1, List.map_append, go_sem, ↓reduceIte, Nat.reduceAdd, Nat.reduceSub, Nat.reduceEqDiff, Nat.reduceLeDiff, reduceCtorEq]; done))) | rfl | omega | (congr 2; omega)
      · simp -implicitDefEqProofs (disch := omega) only [h1, h6, h7, h8, h9, h10, h11, hh6_0, hh24_1, hge, sane32_eq, go_sem, ↓reduceIte, Nat.reduceAdd, Nat.reduceSub, Nat.reduceEqDiff, Nat.reduceLeDiff, reduceCtorEq]
  · rw [decide_eq_false hL] at hli
    simp -implicitDefEqProofs (disch := omega) only [vf16, vb16, hli, sane32_eq, go_sem, ↓reduceIte, Nat.reduceAdd, Nat.reduceSub, Nat.reduceEqDiff, Nat.reduceLeDiff, reduceCtorEq]
end Go.V

