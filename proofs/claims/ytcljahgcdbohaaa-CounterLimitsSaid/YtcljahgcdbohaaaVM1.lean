/- The law CounterSums in the value machine. -/
import Derived.Test.YtcljahgcdbohaaaVKB
set_option linter.unusedSimpArgs false
set_option linter.unusedVariables false
namespace Go.V
-- closer: sumI

theorem total_at {t : Tr} (h : TreeOk t) {l : List Ch} (hl : ChOk t.nodes l) {i : Nat} {n : Nd} (hn : t.nodes[i]? = some n) : V 53 [t.vv, ctrV l, .p (.int .i64 n.id)] [] = some (.tup [.p (.int .i64 (tot t (ownC l) n.id)), .p (.int .i64 0)], []) := by
  have h0 : checkK t l n.id = 0 := checkK_zero.2 ⟨h, hl, i, n, hn, rfl⟩
  have hlen := h.len
  have hll := hl.length
  have := total_eq t l n.id h.fits (by omega) (by omega)
  rw [totK, if_pos h0, h0] at this
  exact this

set_option maxHeartbeats 4000000 in
theorem counterSums_eq (L : List Int) : V 12 [.p (intsP L)] [] = some (.p (.bool true), []) := by
  refine V_wp (vf := vf12) rfl ?_
  have hli := light_eq (L.map (PV.int .i64))
  rw [List.length_map] at hli
  by_cases hL : L.length ≤ 600
  · rw [decide_eq_true hL] at hli
    have hro := roll_eq L
    have htr : V 23 [.ptr (.arg 0 0) 0 0, .p (.int .i64 8)] [.box [.p (intsP L), .p (.int .i64 0)]] = some ((dTree L 0 8).1.vv, [diceB L (dTree L 0 8).2]) := tree_eq L 0 8 (by omega) (by omega)
    have hok := dTree_ok L 0 8
    generalize dTree L 0 8 = ta at htr hok
    obtain ⟨t, a0⟩ := ta
    simp only at htr hok
    have hlen := hok.len
    have hco := counter_eq L a0 hok (by omega)
    have hcok := dCounter_ok L t t.nodes a0 [] (ChOk.nil _)
    generalize dCounter L t t.nodes a0 [] = ca at hco hcok
    obtain ⟨c, a1⟩ := ca
    simp only at hco hcok
    have hcl := hcok.length
    have hpos := fun x => ownC_nonneg hcok.pos x
    simp -implicitDefEqProofs (disch := omega) only [vf12, vb12, hli, hro, htr, hco, go_sem, ↓reduceIte, Nat.reduceAdd, Nat.reduceSub, Nat.reduceEqDiff, Nat.reduceLeDiff, reduceCtorEq]
    obtain ⟨I, hI⟩ : ∃ I : Nat → St → Prop, ∀ k s, I k s ↔ s.pe 4 = .ptr (.slot 4 0) 0 0 ∧ s.pe 5 = .ptr (.slot 5 0) 0 0 ∧ s.pe 6 = .p (.int .i64 k) ∧ s.h (.slot 4 0) = some (0, Ob.box [.p (nodesP t.nodes), .p (.int .i64 t.next)]) ∧ s.h (.slot 5 0) = some (0, Ob.box [.p (chsP c)]) := ⟨_, fun _ _ => Iff.rfl⟩
    refine wp_count (t.nodes.length) I ?_ ?_
    · refine (hI _ _).2 ⟨?_, ?_, ?_, ?_, ?_⟩
      all_goals first | with_reducible rfl | (simp -implicitDefEqProofs (disch := omega) only [List.map_append, go_sem, ↓reduceIte, Nat.reduceAdd, Nat.reduceSub, Nat.reduceEqDiff, Nat.reduceLeDiff, reduceCtorEq]; done) | (simp -implicitDefEqProofs (disch := omega) only [List.map_append, go_sem, ↓reduceIte, Nat.reduceAdd, Nat.reduceSub, Nat.reduceEqDiff, Nat.reduceLeDiff, reduceCtorEq]; first | rfl | (simp; done) | (congr 2; omega) | (congr 1; omega) | (congr 3; omega) | (simp; omega) | (congr 2; simp; omega) | (simp [sumI]; done) | (simp [sumI]; omega)) | rfl | omega | (congr 2; omega) | (simp -implicitDefEqProofs (disch := omega) only [List.map_append, go_sem, ↓reduceIte, Nat.reduceAdd, Nat.reduceSub, Nat.reduceEqDiff, Nat.reduceLeDiff, reduceCtorEq]; refine ⟨_, rfl, ?_⟩; first | (simp -implicitDefEqProofs (disch := omega) only [List.map_append, go_sem, ↓reduceIte, Nat.reduceAdd, Nat.reduceSub, Nat.reduceEqDiff, Nat.reduceLeDiff, reduceCtorEq]; done) | rfl) | (refine ⟨_, by simp -implicitDefEqProofs (disch := omega) only [List.map_append, go_sem, ↓reduceIte, Nat.reduceAdd, Nat.reduceSub, Nat.reduceEqDiff, Nat.reduceLeDiff, reduceCtorEq], ?_⟩; first | (simp -implicitDefEqProofs (disch := omega) only [List.map_append, go_sem, ↓reduceIte, Nat.reduceAdd, Nat.reduceSub, Nat.reduceEqDiff, Nat.reduceLeDiff, reduceCtorEq]; done) | rfl)
    intro k s hk hIk
    obtain ⟨h4, h5, h6, hh4_0, hh5_0⟩ := (hI _ _).1 hIk
    clear hIk
    simp -implicitDefEqProofs (disch := omega) only [h4, h5, h6, hh4_0, hh5_0, go_sem, ↓reduceIte, Nat.reduceAdd, Nat.reduceSub, Nat.reduceEqDiff, Nat.reduceLeDiff, reduceCtorEq]
    refine wp_if_d (fun hlt => ?_) (fun hge => ?_)
    · have hm : t.nodes[k]? = some t.nodes[k] := List.getElem?_eq_getElem hlt
      generalize t.nodes[k] = m at hm
      have c1 := total_at hok hcok hm
      have c2 := own_eq c m.id (by omega)
      have c3 := rkids_eq t m.id (by omega)
      have hst := tot_step hok (ownC c) hm
      rw [kids_kidsN (by rw [findT_ok ((treeOk_iff t).2 hok), findN_unique hok.inc hm]; rfl)] at c3
      have hkid := fun x (hx : x ∈ kidsN t.nodes m.id) => mem_kidsN.1 hx
      have hkl : (kidsN t.nodes m.id).length ≤ t.nodes.length := by
        rw [kidsN, List.length_map]
        exact List.length_filter_le _ _
      have o0 := hpos m.id
      have b1 := tot_le hok hcok hm
      have b2 := hcok.all
      generalize kidsN t.nodes m.id = A at c3 hst hkid hkl
      generalize ownC c m.id = o at c2 hst o0
      generalize tot t (ownC c) m.id = T at c1 hst b1
      have hT0 : 0 ≤ sumI (A.map (tot t (ownC c))) := sumI_map_nonneg _ fun x _ => tot_nonneg t hpos x
      simp -implicitDefEqProofs (disch := omega) only [h4, h5, h6, hh4_0, hh5_0, hlt, hm, c1, c2, c3, go_sem, ↓reduceIte, Nat.reduceAdd, Nat.reduceSub, Nat.reduceEqDiff, Nat.reduceLeDiff, reduceCtorEq]
      obtain ⟨J, hJ⟩ : ∃ I : Nat → St → Prop, ∀ j s, I j s ↔ (∃ v, s.pe 10 = .own (.slot 54 1) v 0 (A.length) ∧ s.h (.slot 54 1) = some (v, Ob.arr 1 (List.map (.int .i64) A))) ∧ s.pe 4 = .ptr (.slot 4 0) 0 0 ∧ s.pe 5 = .ptr (.slot 5 0) 0 0 ∧ s.pe 6 = .p (.int .i64 ↑k) ∧ s.pe 8 = .p (.int .i64 (T - o - sumI ((A.take j).map (tot t (ownC c))))) ∧ s.pe 11 = .p (.int .i64 j) ∧ s.h (.slot 4 0) = some (0, Ob.box [.p (nodesP t.nodes), .p (.int .i64 t.next)]) ∧ s.h (.slot 5 0) = some (0, Ob.box [.p (chsP c)]) := ⟨_, fun _ _ => Iff.rfl⟩
      refine wp_count (A.length) J ?_ ?_
      · refine (hJ _ _).2 ⟨?_, ?_, ?_, ?_, ?_, ?_, ?_, ?_⟩
        all_goals first | with_reducible rfl | (simp -implicitDefEqProofs (disch := omega) only [h4, h5, h6, hh4_0, hh5_0, List.map_append, go_sem, ↓reduceIte, Nat.reduceAdd, Nat.reduceSub, Nat.reduceEqDiff, Nat.reduceLeDiff, reduceCtorEq]; done) | (simp -implicitDefEqProofs (disch := omega) only [h4, h5, h6, hh4_0, hh5_0, List.map_append, go_sem, ↓reduceIte, Nat.reduceAdd, Nat.reduceSub, Nat.reduceEqDiff, Nat.reduceLeDiff, reduceCtorEq]; first | rfl | (simp; done) | (congr 2; omega) | (congr 1; omega) | (congr 3; omega) | (simp; omega) | (congr 2; simp; omega) | (simp [sumI]; done) | (simp [sumI]; omega)) | rfl | omega | (congr 2; omega) | (simp -implicitDefEqProofs (disch := omega) only [h4, h5, h6, hh4_0, hh5_0, List.map_append, go_sem, ↓reduceIte, Nat.reduceAdd, Nat.reduceSub, Nat.reduceEqDiff, Nat.reduceLeDiff, reduceCtorEq]; refine ⟨_, rfl, ?_⟩; first | (simp -implicitDefEqProofs (disch := omega) only [h4, h5, h6, hh4_0, hh5_0, List.map_append, go_sem, ↓reduceIte, Nat.reduceAdd, Nat.reduceSub, Nat.reduceEqDiff, Nat.reduceLeDiff, reduceCtorEq]; done) | rfl) | (refine ⟨_, by simp -implicitDefEqProofs (disch := omega) only [h4, h5, h6, hh4_0, hh5_0, List.map_append, go_sem, ↓reduceIte, Nat.reduceAdd, Nat.reduceSub, Nat.reduceEqDiff, Nat.reduceLeDiff, reduceCtorEq], ?_⟩; first | (simp -implicitDefEqProofs (disch := omega) only [h4, h5, h6, hh4_0, hh5_0, List.map_append, go_sem, ↓reduceIte, Nat.reduceAdd, Nat.reduceSub, Nat.reduceEqDiff, Nat.reduceLeDiff, reduceCtorEq]; done) | rfl)
      intro j s hj hJk
      obtain ⟨⟨v10, h10, hh54_1⟩, h4, h5, h6, h8, h11, hh4_0, hh5_0⟩ := (hJ _ _).1 hJk
      clear hJk
      simp -implicitDefEqProofs (disch := omega) only [h10, hh54_1, h4, h5, h6, h8, h11, hh4_0, hh5_0, go_sem, ↓reduceIte, Nat.reduceAdd, Nat.reduceSub, Nat.reduceEqDiff, Nat.reduceLeDiff, reduceCtorEq]
      refine wp_if_d (fun hjl => ?_) (fun hjg => ?_)
      · have hx : A[j]? = some A[j] := List.getElem?_eq_getElem hjl
        generalize A[j] = x at hx
        obtain ⟨q, nq, hq, hqp, rfl⟩ := hkid x (List.mem_of_getElem? hx)
        have c4 := total_at hok hcok hq
        have hs := sumI_take_succ (f := tot t (ownC c)) hx
        have p0 := sumI_map_nonneg (A.take j) (f := tot t (ownC c)) fun x _ => tot_nonneg t hpos x
        have p1 := sumI_take_le A (j + 1) (f := tot t (ownC c)) fun x _ => tot_nonneg t hpos x
        have p2 := tot_nonneg t hpos nq.id
        rw [hs] at p1
        generalize sumI ((A.take j).map (tot t (ownC c))) = S at h8 hs p0 p1
        generalize tot t (ownC c) nq.id = Y at c4 hs p1 p2
        simp -implicitDefEqProofs (disch := omega) only [h10, hh54_1, h4, h5, h6, h8, h11, hh4_0, hh5_0, hjl, hx, c4, go_sem, ↓reduceIte, Nat.reduceAdd, Nat.reduceSub, Nat.reduceEqDiff, Nat.reduceLeDiff, reduceCtorEq]
        try refine And.intro (by omega) ?_
        refine (hJ _ _).2 ⟨?_, ?_, ?_, ?_, ?_, ?_, ?_, ?_⟩
        all_goals first | with_reducible rfl | (simp -implicitDefEqProofs (disch := omega) only [h10, hh54_1, h4, h5, h6, h8, h11, hh4_0, hh5_0, hs, Int.sub_sub, List.map_append, go_sem, ↓reduceIte, Nat.reduceAdd, Nat.reduceSub, Nat.reduceEqDiff, Nat.reduceLeDiff, reduceCtorEq]; done) | (simp -implicitDefEqProofs (disch := omega) only [h10, hh54_1, h4, h5, h6, h8, h11, hh4_0, hh5_0, hs, Int.sub_sub, List.map_append, go_sem, ↓reduceIte, Nat.reduceAdd, Nat.reduceSub, Nat.reduceEqDiff, Nat.reduceLeDiff, reduceCtorEq]; first | rfl | (simp; done) | (congr 2; omega) | (congr 1; omega) | (congr 3; omega) | (simp; omega) | (congr 2; simp; omega) | (simp [sumI]; done) | (simp [sumI]; omega)) | rfl | omega | (congr 2; omega) | (simp -implicitDefEqProofs (disch := omega) only [h10, hh54_1, h4, h5, h6, h8, h11, hh4_0, hh5_0, hs, Int.sub_sub, List.map_append, go_sem, ↓reduceIte, Nat.reduceAdd, Nat.reduceSub, Nat.reduceEqDiff, Nat.reduceLeDiff, reduceCtorEq]; refine ⟨_, rfl, ?_⟩; first | (simp -implicitDefEqProofs (disch := omega) only [h10, hh54_1, h4, h5, h6, h8, h11, hh4_0, hh5_0, hs, Int.sub_sub, List.map_append, go_sem, ↓reduceIte, Nat.reduceAdd, Nat.reduceSub, Nat.reduceEqDiff, Nat.reduceLeDiff, reduceCtorEq]; done) | rfl) | (refine ⟨_, by simp -implicitDefEqProofs (disch := omega) only [h10, hh54_1, h4, h5, h6, h8, h11, hh4_0, hh5_0, hs, Int.sub_sub, List.map_append, go_sem, ↓reduceIte, Nat.reduceAdd, Nat.reduceSub, Nat.reduceEqDiff, Nat.reduceLeDiff, reduceCtorEq], ?_⟩; first | (simp -implicitDefEqProofs (disch := omega) only [h10, hh54_1, h4, h5, h6, h8, h11, hh4_0, hh5_0, hs, Int.sub_sub, List.map_append, go_sem, ↓reduceIte, Nat.reduceAdd, Nat.reduceSub, Nat.reduceEqDiff, Nat.reduceLeDiff, reduceCtorEq]; done) | rfl)
      · rw [List.take_of_length_le (by omega)] at h8
        have hz : T - o - sumI (A.map (tot t (ownC c))) = 0 := by omega
        rw [hz] at h8
        simp -implicitDefEqProofs (disch := omega) only [h10, hh54_1, h4, h5, h6, h8, h11, hh4_0, hh5_0, hjg, go_sem, ↓reduceIte, Nat.reduceAdd, Nat.reduceSub, Nat.reduceEqDiff, Nat.reduceLeDiff, reduceCtorEq]
        try refine And.intro (by omega) ?_
        refine (hI _ _).2 ⟨?_, ?_, ?_, ?_, ?_⟩
        all_goals first | with_reducible rfl | (simp -implicitDefEqProofs (disch := omega) only [h4, h5, h6, hh4_0, hh5_0, List.map_append, go_sem, ↓reduceIte, Nat.reduceAdd, Nat.reduceSub, Nat.reduceEqDiff, Nat.reduceLeDiff, reduceCtorEq]; done) | (simp -implicitDefEqProofs (disch := omega) only [h4, h5, h6, hh4_0, hh5_0, List.map_append, go_sem, ↓reduceIte, Nat.reduceAdd, Nat.reduceSub, Nat.reduceEqDiff, Nat.reduceLeDiff, reduceCtorEq]; first | rfl | (simp; done) | (congr 2; omega) | (congr 1; omega) | (congr 3; omega) | (simp; omega) | (congr 2; simp; omega) | (simp [sumI]; done) | (simp [sumI]; omega)) | rfl | omega | (congr 2; omega) | (simp -implicitDefEqProofs (disch := omega) only [h4, h5, h6, hh4_0, hh5_0, List.map_append, go_sem, ↓reduceIte, Nat.reduceAdd, Nat.reduceSub, Nat.reduceEqDiff, Nat.reduceLeDiff, reduceCtorEq]; refine ⟨_, rfl, ?_⟩; first | (simp -implicitDefEqProofs (disch := omega) only [h4, h5, h6, hh4_0, hh5_0, List.map_append, go_sem, ↓reduceIte, Nat.reduceAdd, Nat.reduceSub, Nat.reduceEqDiff, Nat.reduceLeDiff, reduceCtorEq]; done) | rfl) | (refine ⟨_, by simp -implicitDefEqProofs (disch := omega) only [h4, h5, h6, hh4_0, hh5_0, List.map_append, go_sem, ↓reduceIte, Nat.reduceAdd, Nat.reduceSub, Nat.reduceEqDiff, Nat.reduceLeDiff, reduceCtorEq], ?_⟩; first | (simp -implicitDefEqProofs (disch := omega) only [h4, h5, h6, hh4_0, hh5_0, List.map_append, go_sem, ↓reduceIte, Nat.reduceAdd, Nat.reduceSub, Nat.reduceEqDiff, Nat.reduceLeDiff, reduceCtorEq]; done) | rfl)
    · simp -implicitDefEqProofs (disch := omega) only [h4, h5, h6, hh4_0, hh5_0, hge, sane22_eq, go_sem, ↓reduceIte, Nat.reduceAdd, Nat.reduceSub, Nat.reduceEqDiff, Nat.reduceLeDiff, reduceCtorEq]
  · rw [decide_eq_false hL] at hli
    simp -implicitDefEqProofs (disch := omega) only [vf12, vb12, hli, sane22_eq, go_sem, ↓reduceIte, Nat.reduceAdd, Nat.reduceSub, Nat.reduceEqDiff, Nat.reduceLeDiff, reduceCtorEq]
end Go.V

