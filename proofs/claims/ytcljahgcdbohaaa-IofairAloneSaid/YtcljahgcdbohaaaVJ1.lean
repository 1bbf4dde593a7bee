/- The law IofairAlone in the value machine. -/
import Derived.Test.YtcljahgcdbohaaaVI5
import Derived.Test.YtcljahgcdbohaaaVG2
set_option linter.unusedSimpArgs false
set_option linter.unusedVariables false
namespace Go.V
-- closer: sumI

set_option maxHeartbeats 4000000 in
theorem iofairAlone_eq (L : List Int) : V 8 [.p (intsP L)] [] = some (.p (.bool true), []) := by
  refine V_wp (vf := vf8) rfl ?_
  have hli := light_eq (L.map (PV.int .i64))
  rw [List.length_map] at hli
  by_cases hL : L.length ≤ 600
  · rw [decide_eq_true hL] at hli
    have hro := roll_eq L
    have htr : V 23 [.ptr (.arg 0 0) 0 0, .p (.int .i64 8)] [.box [.p (intsP L), .p (.int .i64 0)]] = some ((dTree L 0 8).1.vv, [diceB L (dTree L 0 8).2]) := tree_eq L 0 8 (by omega) (by omega)
    have hok := dTree_ok L 0 8
    have hnx := dTree_next L 0 8
    generalize dTree L 0 8 = ta at htr hok hnx
    obtain ⟨t, a0⟩ := ta
    simp only at htr hok hnx
    have hlen := hok.len
    have hhe := heavy_eq L a0 t (by omega) (by omega)
    have hwa := dHeavy_asc L hok a0
    generalize dHeavy L t.nodes a0 = wa at hhe hwa
    obtain ⟨w, a1⟩ := wa
    simp only at hhe hwa
    have hwl := asc_length hwa
    have hne := next_eq L a1 t.nodes.length (by omega) (by omega)
    have x0 := nextV_nonneg L a1 t.nodes.length
    have x1 := nextV_lt L a1 (n := t.nodes.length) (by omega)
    generalize nextV L a1 t.nodes.length = xi at hne x0 x1
    generalize nextA L a1 t.nodes.length = a2 at hne
    have hm : t.nodes[xi.toNat]? = some t.nodes[xi.toNat] := List.getElem?_eq_getElem (by omega)
    generalize t.nodes[xi.toNat] = m at hm
    have hra := ranc_eq t m.id (by omega)
    rw [ancR_anc hok hm] at hra
    have hal := ancF_length t.nodes t.nodes.length m.id
    have h99 : findN t.nodes 99 = none := by
      cases hf : findN t.nodes 99 with
      | none => rfl
      | some y =>
        obtain ⟨z, hz, hze⟩ := findN_some (ns := t.nodes) (id := 99) (by rw [hf]; rfl)
        have := hok.lt_next z hz
        omega
    have hon : ∀ x, onB t [m.id, m.id, 99] x = true ↔ x ∈ ancF t.nodes t.nodes.length m.id := fun x => by
      simp [onB, ancF_none h99]
    have hw1 : ∀ x, 1 ≤ wtOf w x := fun x => (wtOf_range (fun c hc => hwa.range c hc) x).1
    have halone := alone hok hw1 hm hon
    generalize ancF t.nodes t.nodes.length m.id = A at hra hal halone
    simp -implicitDefEqProofs (disch := omega) only [vf8, vb8, hli, hro, htr, hhe, hne, hm, hra, go_sem, ↓reduceIte, Nat.reduceAdd, Nat.reduceSub, Nat.reduceEqDiff, Nat.reduceLeDiff, reduceCtorEq]
    obtain ⟨I, hI⟩ : ∃ I : Nat → St → Prop, ∀ k s, I k s ↔ s.pe 4 = .ptr (.slot 4 0) 0 0 ∧ s.pe 5 = .own (.slot 22 1) 0 0 w.length ∧ s.pe 6 = .p (.int .i64 m.id) ∧ s.pe 7 = .own (.slot 35 1) 0 0 A.length ∧ s.pe 8 = .p (.int .i64 k) ∧ s.h (.slot 4 0) = some (0, Ob.box [.p (nodesP t.nodes), .p (.int .i64 t.next)]) ∧ s.h (.slot 22 1) = some (0, Ob.arr 2 (List.map Ch.pv w)) ∧ s.h (.slot 35 1) = some (0, Ob.arr 1 (List.map (.int .i64) A)) := ⟨_, fun _ _ => Iff.rfl⟩
    refine wp_count (t.nodes.length) I ?_ ?_
    · refine (hI _ _).2 ⟨?_, ?_, ?_, ?_, ?_, ?_, ?_, ?_⟩
      all_goals first | with_reducible rfl | (simp -implicitDefEqProofs (disch := omega) only [List.map_append, go_sem, ↓reduceIte, Nat.reduceAdd, Nat.reduceSub, Nat.reduceEqDiff, Nat.reduceLeDiff, reduceCtorEq]; done) | (simp -implicitDefEqProofs (disch := omega) only [List.map_append, go_sem, ↓reduceIte, Nat.reduceAdd, Nat.reduceSub, Nat.reduceEqDiff, Nat.reduceLeDiff, reduceCtorEq]; first | rfl | (simp; done) | (congr 2; omega) | (congr 1; omega) | (congr 3; omega) | (simp; omega) | (congr 2; simp; omega) | (simp [sumI]; done) | (simp [sumI]; omega)) | rfl | omega | (congr 2; omega) | (simp -implicitDefEqProofs (disch := omega) only [List.map_append, go_sem, ↓reduceIte, Nat.reduceAdd, Nat.reduceSub, Nat.reduceEqDiff, Nat.reduceLeDiff, reduceCtorEq]; refine ⟨_, rfl, ?_⟩; first | (simp -implicitDefEqProofs (disch := omega) only [List.map_append, go_sem, ↓reduceIte, Nat.reduceAdd, Nat.reduceSub, Nat.reduceEqDiff, Nat.reduceLeDiff, reduceCtorEq]; done) | rfl) | (refine ⟨_, by simp -implicitDefEqProofs (disch := omega) only [List.map_append, go_sem, ↓reduceIte, Nat.reduceAdd, Nat.reduceSub, Nat.reduceEqDiff, Nat.reduceLeDiff, reduceCtorEq], ?_⟩; first | (simp -implicitDefEqProofs (disch := omega) only [List.map_append, go_sem, ↓reduceIte, Nat.reduceAdd, Nat.reduceSub, Nat.reduceEqDiff, Nat.reduceLeDiff, reduceCtorEq]; done) | rfl)
    intro k s hk hIk
    obtain ⟨h4, h5, h6, h7, h8, hh4_0, hh22_1, hh35_1⟩ := (hI _ _).1 hIk
    clear hIk
    simp -implicitDefEqProofs (disch := omega) only [h4, h5, h6, h7, h8, hh4_0, hh22_1, hh35_1, go_sem, ↓reduceIte, Nat.reduceAdd, Nat.reduceSub, Nat.reduceEqDiff, Nat.reduceLeDiff, reduceCtorEq]
    refine wp_if_d (fun hlt => ?_) (fun hge => ?_)
    · have hq : t.nodes[k]? = some t.nodes[k] := List.getElem?_eq_getElem hlt
      generalize t.nodes[k] = q at hq
      have d1 := share_at hok hwa [m.id, m.id, 99] (by simp) hq
      have d2 := has3_eq A q.id (by omega)
      simp only [intsP, List.map_cons, List.map_nil] at d1
      have hs := halone k q hq
      by_cases hin : q.id ∈ A
      · rw [if_pos (Or.inl hin)] at hs
        rw [hs] at d1
        simp -implicitDefEqProofs (disch := omega) only [h4, h5, h6, h7, h8, hh4_0, hh22_1, hh35_1, hlt, hq, d1, d2, hin, decide_true, go_sem, ↓reduceIte, Nat.reduceAdd, Nat.reduceSub, Nat.reduceEqDiff, Nat.reduceLeDiff, reduceCtorEq]
        try refine And.intro (by omega) ?_
        refine (hI _ _).2 ⟨?_, ?_, ?_, ?_, ?_, ?_, ?_, ?_⟩
        all_goals first | with_reducible rfl | (simp -implicitDefEqProofs (disch := omega) only [h4, h5, h6, h7, h8, hh4_0, hh22_1, hh35_1, List.map_append, go_sem, ↓reduceIte, Nat.reduceAdd, Nat.reduceSub, Nat.reduceEqDiff, Nat.reduceLeDiff, reduceCtorEq]; done) | (simp -implicitDefEqProofs (disch := omega) only [h4, h5, h6, h7, h8, hh4_0, hh22_1, hh35_1, List.map_append, go_sem, ↓reduceIte, Nat.reduceAdd, Nat.reduceSub, Nat.reduceEqDiff, Nat.reduceLeDiff, reduceCtorEq]; first | rfl | (simp; done) | (congr 2; omega) | (congr 1; omega) | (congr 3; omega) | (simp; omega) | (congr 2; simp; omega) | (simp [sumI]; done) | (simp [sumI]; omega)) | rfl | omega | (congr 2; omega) | (simp -implicitDefEqProofs (disch := omega) only [h4, h5, h6, h7, h8, hh4_0, hh22_1, hh35_1, List.map_append, go_sem, ↓reduceIte, Nat.reduceAdd, Nat.reduceSub, Nat.reduceEqDiff, Nat.reduceLeDiff, reduceCtorEq]; refine ⟨_, rfl, ?_⟩; first | (simp -implicitDefEqProofs (disch := omega) only [h4, h5, h6, h7, h8, hh4_0, hh22_1, hh35_1, List.map_append, go_sem, ↓reduceIte, Nat.reduceAdd, Nat.reduceSub, Nat.reduceEqDiff, Nat.reduceLeDiff, reduceCtorEq]; done) | rfl) | (refine ⟨_, by simp -implicitDefEqProofs (disch := omega) only [h4, h5, h6, h7, h8, hh4_0, hh22_1, hh35_1, List.map_append, go_sem, ↓reduceIte, Nat.reduceAdd, Nat.reduceSub, Nat.reduceEqDiff, Nat.reduceLeDiff, reduceCtorEq], ?_⟩; first | (simp -implicitDefEqProofs (disch := omega) only [h4, h5, h6, h7, h8, hh4_0, hh22_1, hh35_1, List.map_append, go_sem, ↓reduceIte, Nat.reduceAdd, Nat.reduceSub, Nat.reduceEqDiff, Nat.reduceLeDiff, reduceCtorEq]; done) | rfl)
      · by_cases h1 : q.id = 1
        · rw [if_pos (Or.inr h1)] at hs
          rw [hs] at d1
          rw [h1] at d1 d2 hin
          simp -implicitDefEqProofs (disch := omega) only [h4, h5, h6, h7, h8, hh4_0, hh22_1, hh35_1, hlt, hq, d1, d2, hin, h1, decide_false, go_sem, ↓reduceIte, Nat.reduceAdd, Nat.reduceSub, Nat.reduceEqDiff, Nat.reduceLeDiff, reduceCtorEq]
          try refine And.intro (by omega) ?_
          refine (hI _ _).2 ⟨?_, ?_, ?_, ?_, ?_, ?_, ?_, ?_⟩
          all_goals first | with_reducible rfl | (simp -implicitDefEqProofs (disch := omega) only [h4, h5, h6, h7, h8, hh4_0, hh22_1, hh35_1, List.map_append, go_sem, ↓reduceIte, Nat.reduceAdd, Nat.reduceSub, Nat.reduceEqDiff, Nat.reduceLeDiff, reduceCtorEq]; done) | (simp -implicitDefEqProofs (disch := omega) only [h4, h5, h6, h7, h8, hh4_0, hh22_1, hh35_1, List.map_append, go_sem, ↓reduceIte, Nat.reduceAdd, Nat.reduceSub, Nat.reduceEqDiff, Nat.reduceLeDiff, reduceCtorEq]; first | rfl | (simp; done) | (congr 2; omega) | (congr 1; omega) | (congr 3; omega) | (simp; omega) | (congr 2; simp; omega) | (simp [sumI]; done) | (simp [sumI]; omega)) | rfl | omega | (congr 2; omega) | (simp -implicitDefEqProofs (disch := omega) only [h4, h5, h6, h7, h8, hh4_0, hh22_1, hh35_1, List.map_append, go_sem, ↓reduceIte, Nat.reduceAdd, Nat.reduceSub, Nat.reduceEqDiff, Nat.reduceLeDiff, reduceCtorEq]; refine ⟨_, rfl, ?_⟩; first | (simp -implicitDefEqProofs (disch := omega) only [h4, h5, h6, h7, h8, hh4_0, hh22_1, hh35_1, List.map_append, go_sem, ↓reduceIte, Nat.reduceAdd, Nat.reduceSub, Nat.reduceEqDiff, Nat.reduceLeDiff, reduceCtorEq]; done) | rfl) | (refine ⟨_, by simp -implicitDefEqProofs (disch := omega) only [h4, h5, h6, h7, h8, hh4_0, hh22_1, hh35_1, List.map_append, go_sem, ↓reduceIte, Nat.reduceAdd, Nat.reduceSub, Nat.reduceEqDiff, Nat.reduceLeDiff, reduceCtorEq], ?_⟩; first | (simp -implicitDefEqProofs (disch := omega) only [h4, h5, h6, h7, h8, hh4_0, hh22_1, hh35_1, List.map_append, go_sem, ↓reduceIte, Nat.reduceAdd, Nat.reduceSub, Nat.reduceEqDiff, Nat.reduceLeDiff, reduceCtorEq]; done) | rfl)
        · rw [if_neg (fun hh => hh.elim hin h1)] at hs
          rw [hs] at d1
          simp -implicitDefEqProofs (disch := omega) only [h4, h5, h6, h7, h8, hh4_0, hh22_1, hh35_1, hlt, hq, d1, d2, hin, h1, decide_false, go_sem, ↓reduceIte, Nat.reduceAdd, Nat.reduceSub, Nat.reduceEqDiff, Nat.reduceLeDiff, reduceCtorEq]
          try refine And.intro (by omega) ?_
          refine (hI _ _).2 ⟨?_, ?_, ?_, ?_, ?_, ?_, ?_, ?_⟩
          all_goals first | with_reducible rfl | (simp -implicitDefEqProofs (disch := omega) only [h4, h5, h6, h7, h8, hh4_0, hh22_1, hh35_1, List.map_append, go_sem, ↓reduceIte, Nat.reduceAdd, Nat.reduceSub, Nat.reduceEqDiff, Nat.reduceLeDiff, reduceCtorEq]; done) | (simp -implicitDefEqProofs (disch := omega) only [h4, h5, h6, h7, h8, hh4_0, hh22_1, hh35_1, List.map_append, go_sem, ↓reduceIte, Nat.reduceAdd, Nat.reduceSub, Nat.reduceEqDiff, Nat.reduceLeDiff, reduceCtorEq]; first | rfl | (simp; done) | (congr 2; omega) | (congr 1; omega) | (congr 3; omega) | (simp; omega) | (congr 2; simp; omega) | (simp [sumI]; done) | (simp [sumI]; omega)) | rfl | omega | (congr 2; omega) | (simp -implicitDefEqProofs (disch := omega) only [h4, h5, h6, h7, h8, hh4_0, hh22_1, hh35_1, List.map_append, go_sem, ↓reduceIte, Nat.reduceAdd, Nat.reduceSub, Nat.reduceEqDiff, Nat.reduceLeDiff, reduceCtorEq]; refine ⟨_, rfl, ?_⟩; first | (simp -implicitDefEqProofs (disch := omega) only [h4, h5, h6, h7, h8, hh4_0, hh22_1, hh35_1, List.map_append, go_sem, ↓reduceIte, Nat.reduceAdd, Nat.reduceSub, Nat.reduceEqDiff, Nat.reduceLeDiff, reduceCtorEq]; done) | rfl) | (refine ⟨_, by simp -implicitDefEqProofs (disch := omega) only [h4, h5, h6, h7, h8, hh4_0, hh22_1, hh35_1, List.map_append, go_sem, ↓reduceIte, Nat.reduceAdd, Nat.reduceSub, Nat.reduceEqDiff, Nat.reduceLeDiff, reduceCtorEq], ?_⟩; first | (simp -implicitDefEqProofs (disch := omega) only [h4, h5, h6, h7, h8, hh4_0, hh22_1, hh35_1, List.map_append, go_sem, ↓reduceIte, Nat.reduceAdd, Nat.reduceSub, Nat.reduceEqDiff, Nat.reduceLeDiff, reduceCtorEq]; done) | rfl)
    · simp -implicitDefEqProofs (disch := omega) only [h4, h5, h6, h7, h8, hh4_0, hh22_1, hh35_1, hge, sane32_eq, go_sem, ↓reduceIte, Nat.reduceAdd, Nat.reduceSub, Nat.reduceEqDiff, Nat.reduceLeDiff, reduceCtorEq]
  · rw [decide_eq_false hL] at hli
    simp -implicitDefEqProofs (disch := omega) only [vf8, vb8, hli, sane32_eq, go_sem, ↓reduceIte, Nat.reduceAdd, Nat.reduceSub, Nat.reduceEqDiff, Nat.reduceLeDiff, reduceCtorEq]
end Go.V

