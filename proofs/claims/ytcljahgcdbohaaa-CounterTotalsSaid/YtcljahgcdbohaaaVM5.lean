/- The law CounterTotals in the value machine. -/
import Derived.Test.YtcljahgcdbohaaaVKC
import Derived.Test.YtcljahgcdbohaaaVM4
set_option linter.unusedSimpArgs false
set_option linter.unusedVariables false
namespace Go.V
-- closer: sumI

theorem filter_at {α : Type} {p : α → Bool} {l : List α} {i : Nat} {m : α} (hm : l[i]? = some m) (hp : p m = true) : (l.filter p)[((l.take i).filter p).length]? = some m := by
  have hl := (List.getElem?_eq_some_iff.1 hm).1
  have hd : l.drop i = m :: l.drop (i + 1) := by
    rw [List.drop_eq_getElem_cons hl]
    rw [List.getElem?_eq_getElem hl] at hm
    cases hm
    rfl
  have : l.filter p = (l.take i).filter p ++ (l.drop i).filter p := by rw [← List.filter_append, List.take_append_drop]
  rw [this, List.getElem?_append_right (Nat.le_refl _), Nat.sub_self, hd, List.filter_cons, if_pos hp]
  rfl

set_option maxHeartbeats 4000000 in
theorem counterTotals_eq (L : List Int) : V 17 [.p (intsP L)] [] = some (.p (.bool true), []) := by
  refine V_wp (vf := vf17) rfl ?_
  have hli := light_eq (L.map (PV.int .i64))
  rw [List.length_map] at hli
  by_cases hL : L.length ≤ 600
  · rw [decide_eq_true hL] at hli
    have hro := roll_eq L
    have htr : V 23 [.ptr (.arg 0 0) 0 0, .p (.int .i64 8)] [.box [.p (intsP L), .p (.int .i64 0)]] = some ((dTree L 0 8).1.vv, [diceB L (dTree L 0 8).2]) := tree_eq L 0 8 (by omega) (by omega)
    have hok := dTree_ok L 0 8
    generalize dTree L 0 8 = ta at htr hok
    obtain ⟨t, a0⟩ := ta
    simp only at htr hok
    have hlen := hok.len
    have hco := counter_eq L a0 hok (by omega)
    have hcok := dCounter_ok L t t.nodes a0 [] (ChOk.nil _)
    generalize dCounter L t t.nodes a0 [] = ca at hco hcok
    obtain ⟨c, a1⟩ := ca
    simp only at hco hcok
    have hcl := hcok.length
    have hpos := fun x => ownC_nonneg hcok.pos x
    have hto := totals_eq t c hok.fits (by omega) (by omega)
    rw [TotalsK, if_pos ((validK_iff t c).2 ⟨hok, hcok⟩)] at hto
    simp only at hto
    obtain ⟨A, hA⟩ : ∃ A, A = (t.nodes.filter fun n => decide (0 < tot t (ownC c) n.id)).map (totCh t c) := ⟨_, rfl⟩
    rw [← hA] at hto
    have hAl : A.length = (t.nodes.filter fun n => decide (0 < tot t (ownC c) n.id)).length := by rw [hA, List.length_map]
    have hAle : A.length ≤ t.nodes.length := by rw [hAl]; exact List.length_filter_le _ _
    have hcn : ∀ x ∈ c, 0 ≤ x.own := fun x hx => by have := hcok.pos x hx; omega
    simp -implicitDefEqProofs (disch := omega) only [vf17, vb17, hli, hro, htr, hco, hto, go_sem, ↓reduceIte, Nat.reduceAdd, Nat.reduceSub, Nat.reduceEqDiff, Nat.reduceLeDiff, reduceCtorEq]
    obtain ⟨I, hI⟩ : ∃ I : Nat → St → Prop, ∀ k s, I k s ↔ s.pe 4 = .ptr (.slot 4 0) 0 0 ∧ s.pe 5 = .ptr (.slot 5 0) 0 0 ∧ s.pe 6 = .own (.slot 28 1) 0 0 A.length ∧ s.pe 7 = .p (.int .i64 0) ∧ s.pe 8 = .p (.int .i64 (sumI ((c.take k).map (·.own)))) ∧ s.pe 9 = .p (.int .i64 0) ∧ s.pe 10 = .p (.int .i64 k) ∧ s.h (.slot 4 0) = some (0, Ob.box [.p (nodesP t.nodes), .p (.int .i64 t.next)]) ∧ s.h (.slot 5 0) = some (0, Ob.box [.p (chsP c)]) ∧ s.h (.slot 28 1) = some (0, Ob.arr 2 (List.map Ch.pv A)) := ⟨_, fun _ _ => Iff.rfl⟩
    refine wp_count (c.length) I ?_ ?_
    · refine (hI _ _).2 ⟨?_, ?_, ?_, ?_, ?_, ?_, ?_, ?_, ?_, ?_⟩
      all_goals first | with_reducible rfl | (simp -implicitDefEqProofs (disch := omega) only [List.map_append, go_sem, ↓reduceIte, Nat.reduceAdd, Nat.reduceSub, Nat.reduceEqDiff, Nat.reduceLeDiff, reduceCtorEq]; done) | (simp -implicitDefEqProofs (disch := omega) only [List.map_append, go_sem, ↓reduceIte, Nat.reduceAdd, Nat.reduceSub, Nat.reduceEqDiff, Nat.reduceLeDiff, reduceCtorEq]; first | rfl | (simp; done) | (congr 2; omega) | (congr 1; omega) | (congr 3; omega) | (simp; omega) | (congr 2; simp; omega) | (simp [sumI]; done) | (simp [sumI]; omega)) | rfl | omega | (congr 2; omega) | (simp -implicitDefEqProofs (disch := omega) only [List.map_append, go_sem, ↓reduceIte, Nat.reduceAdd, Nat.reduceSub, Nat.reduceEqDiff, Nat.reduceLeDiff, reduceCtorEq]; refine ⟨_, rfl, ?_⟩; first | (simp -implicitDefEqProofs (disch := omega) only [List.map_append, go_sem, ↓reduceIte, Nat.reduceAdd, Nat.reduceSub, Nat.reduceEqDiff, Nat.reduceLeDiff, reduceCtorEq]; done) | rfl) | (refine ⟨_, by simp -implicitDefEqProofs (disch := omega) only [List.map_append, go_sem, ↓reduceIte, Nat.reduceAdd, Nat.reduceSub, Nat.reduceEqDiff, Nat.reduceLeDiff, reduceCtorEq], ?_⟩; first | (simp -implicitDefEqProofs (disch := omega) only [List.map_append, go_sem, ↓reduceIte, Nat.reduceAdd, Nat.reduceSub, Nat.reduceEqDiff, Nat.reduceLeDiff, reduceCtorEq]; done) | rfl)
    intro k s hk hIk
    obtain ⟨h4, h5, h6, h7, h8, h9, h10, hh4_0, hh5_0, hh28_1⟩ := (hI _ _).1 hIk
    clear hIk
    simp -implicitDefEqProofs (disch := omega) only [h4, h5, h6, h7, h8, h9, h10, hh4_0, hh5_0, hh28_1, go_sem, ↓reduceIte, Nat.reduceAdd, Nat.reduceSub, Nat.reduceEqDiff, Nat.reduceLeDiff, reduceCtorEq]
    refine wp_if_d (fun hlt => ?_) (fun hge => ?_)
    · have hm : c[k]? = some c[k] := List.getElem?_eq_getElem hlt
      generalize c[k] = d at hm
      have hs := sumI_take_succ (f := (·.own)) hm
      have p0 := sumI_map_nonneg (c.take k) (f := (·.own)) fun x hx => hcn x (List.mem_of_mem_take hx)
      have p1 := sumI_take_le c (k + 1) (f := (·.own)) hcn
      have p2 := hcn d (List.mem_of_getElem? hm)
      have p3 := hcok.all
      rw [hs] at p1
      generalize sumI ((c.take k).map (·.own)) = S at h8 hs p0 p1
      simp -implicitDefEqProofs (disch := omega) only [h4, h5, h6, h7, h8, h9, h10, hh4_0, hh5_0, hh28_1, hlt, hm, go_sem, ↓reduceIte, Nat.reduceAdd, Nat.reduceSub, Nat.reduceEqDiff, Nat.reduceLeDiff, reduceCtorEq]
      try refine And.intro (by omega) ?_
      refine (hI _ _).2 ⟨?_, ?_, ?_, ?_, ?_, ?_, ?_, ?_, ?_, ?_⟩
      all_goals first | with_reducible rfl | (simp -implicitDefEqProofs (disch := omega) only [h4, h5, h6, h7, h8, h9, h10, hh4_0, hh5_0, hh28_1, hs, List.map_append, go_sem, ↓reduceIte, Nat.reduceAdd, Nat.reduceSub, Nat.reduceEqDiff, Nat.reduceLeDiff, reduceCtorEq]; done) | (simp -implicitDefEqProofs (disch := omega) only [h4, h5, h6, h7, h8, h9, h10, hh4_0, hh5_0, hh28_1, hs, List.map_append, go_sem, ↓reduceIte, Nat.reduceAdd, Nat.reduceSub, Nat.reduceEqDiff, Nat.reduceLeDiff, reduceCtorEq]; first | rfl | (simp; done) | (congr 2; omega) | (congr 1; omega) | (congr 3; omega) | (simp; omega) | (congr 2; simp; omega) | (simp [sumI]; done) | (simp [sumI]; omega)) | rfl | omega | (congr 2; omega) | (simp -implicitDefEqProofs (disch := omega) only [h4, h5, h6, h7, h8, h9, h10, hh4_0, hh5_0, hh28_1, hs, List.map_append, go_sem, ↓reduceIte, Nat.reduceAdd, Nat.reduceSub, Nat.reduceEqDiff, Nat.reduceLeDiff, reduceCtorEq]; refine ⟨_, rfl, ?_⟩; first | (simp -implicitDefEqProofs (disch := omega) only [h4, h5, h6, h7, h8, h9, h10, hh4_0, hh5_0, hh28_1, hs, List.map_append, go_sem, ↓reduceIte, Nat.reduceAdd, Nat.reduceSub, Nat.reduceEqDiff, Nat.reduceLeDiff, reduceCtorEq]; done) | rfl) | (refine ⟨_, by simp -implicitDefEqProofs (disch := omega) only [h4, h5, h6, h7, h8, h9, h10, hh4_0, hh5_0, hh28_1, hs, List.map_append, go_sem, ↓reduceIte, Nat.reduceAdd, Nat.reduceSub, Nat.reduceEqDiff, Nat.reduceLeDiff, reduceCtorEq], ?_⟩; first | (simp -implicitDefEqProofs (disch := omega) only [h4, h5, h6, h7, h8, h9, h10, hh4_0, hh5_0, hh28_1, hs, List.map_append, go_sem, ↓reduceIte, Nat.reduceAdd, Nat.reduceSub, Nat.reduceEqDiff, Nat.reduceLeDiff, reduceCtorEq]; done) | rfl)
    · rw [List.take_of_length_le (by omega)] at h8
      have hroot := tot_root hok hcok
      generalize sumI (c.map (·.own)) = S at h8 hroot
      simp -implicitDefEqProofs (disch := omega) only [h4, h5, h6, h7, h8, h9, h10, hh4_0, hh5_0, hh28_1, hge, go_sem, ↓reduceIte, Nat.reduceAdd, Nat.reduceSub, Nat.reduceEqDiff, Nat.reduceLeDiff, reduceCtorEq]
      obtain ⟨J, hJ⟩ : ∃ I : Nat → St → Prop, ∀ j s, I j s ↔ s.pe 4 = .ptr (.slot 4 0) 0 0 ∧ s.pe 5 = .ptr (.slot 5 0) 0 0 ∧ s.pe 6 = .own (.slot 28 1) 0 0 A.length ∧ s.pe 7 = .p (.int .i64 0) ∧ s.pe 8 = .p (.int .i64 S) ∧ s.pe 9 = .p (.int .i64 (((t.nodes.take j).filter fun n => decide (0 < tot t (ownC c) n.id)).length : Nat)) ∧ s.pe 11 = .p (.int .i64 j) ∧ s.h (.slot 4 0) = some (0, Ob.box [.p (nodesP t.nodes), .p (.int .i64 t.next)]) ∧ s.h (.slot 5 0) = some (0, Ob.box [.p (chsP c)]) ∧ s.h (.slot 28 1) = some (0, Ob.arr 2 (List.map Ch.pv A)) := ⟨_, fun _ _ => Iff.rfl⟩
      refine wp_count (t.nodes.length) J ?_ ?_
      · refine (hJ _ _).2 ⟨?_, ?_, ?_, ?_, ?_, ?_, ?_, ?_, ?_, ?_⟩
        all_goals first | with_reducible rfl | (simp -implicitDefEqProofs (disch := omega) only [h4, h5, h6, h7, h8, h9, h10, hh4_0, hh5_0, hh28_1, List.map_append, go_sem, ↓reduceIte, Nat.reduceAdd, Nat.reduceSub, Nat.reduceEqDiff, Nat.reduceLeDiff, reduceCtorEq]; done) | (simp -implicitDefEqProofs (disch := omega) only [h4, h5, h6, h7, h8, h9, h10, hh4_0, hh5_0, hh28_1, List.map_append, go_sem, ↓reduceIte, Nat.reduceAdd, Nat.reduceSub, Nat.reduceEqDiff, Nat.reduceLeDiff, reduceCtorEq]; first | rfl | (simp; done) | (congr 2; omega) | (congr 1; omega) | (congr 3; omega) | (simp; omega) | (congr 2; simp; omega) | (simp [sumI]; done) | (simp [sumI]; omega)) | rfl | omega | (congr 2; omega) | (simp -implicitDefEqProofs (disch := omega) only [h4, h5, h6, h7, h8, h9, h10, hh4_0, hh5_0, hh28_1, List.map_append, go_sem, ↓reduceIte, Nat.reduceAdd, Nat.reduceSub, Nat.reduceEqDiff, Nat.reduceLeDiff, reduceCtorEq]; refine ⟨_, rfl, ?_⟩; first | (simp -implicitDefEqProofs (disch := omega) only [h4, h5, h6, h7, h8, h9, h10, hh4_0, hh5_0, hh28_1, List.map_append, go_sem, ↓reduceIte, Nat.reduceAdd, Nat.reduceSub, Nat.reduceEqDiff, Nat.reduceLeDiff, reduceCtorEq]; done) | rfl) | (refine ⟨_, by simp -implicitDefEqProofs (disch := omega) only [h4, h5, h6, h7, h8, h9, h10, hh4_0, hh5_0, hh28_1, List.map_append, go_sem, ↓reduceIte, Nat.reduceAdd, Nat.reduceSub, Nat.reduceEqDiff, Nat.reduceLeDiff, reduceCtorEq], ?_⟩; first | (simp -implicitDefEqProofs (disch := omega) only [h4, h5, h6, h7, h8, h9, h10, hh4_0, hh5_0, hh28_1, List.map_append, go_sem, ↓reduceIte, Nat.reduceAdd, Nat.reduceSub, Nat.reduceEqDiff, Nat.reduceLeDiff, reduceCtorEq]; done) | rfl)
      intro j s hj hJk
      obtain ⟨h4, h5, h6, h7, h8, h9, h11, hh4_0, hh5_0, hh28_1⟩ := (hJ _ _).1 hJk
      clear hJk
      have hJl := filter_len (p := fun n : Nd => decide (0 < tot t (ownC c) n.id)) t.nodes j
      simp -implicitDefEqProofs (disch := omega) only [h4, h5, h6, h7, h8, h9, h11, hh4_0, hh5_0, hh28_1, go_sem, ↓reduceIte, Nat.reduceAdd, Nat.reduceSub, Nat.reduceEqDiff, Nat.reduceLeDiff, reduceCtorEq]
      refine wp_if_d (fun hjl => ?_) (fun hjg => ?_)
      · have hq : t.nodes[j]? = some t.nodes[j] := List.getElem?_eq_getElem hjl
        generalize t.nodes[j] = q at hq
        have d1 := total_at hok hcok hq
        have t0 := tot_nonneg t hpos q.id
        have hst := filter_step (p := fun n : Nd => decide (0 < tot t (ownC c) n.id)) hq
        have hat := filter_at (p := fun n : Nd => decide (0 < tot t (ownC c) n.id)) hq
        have hj0 : (j : Int) = 0 → tot t (ownC c) q.id = S := fun hj => by
          obtain ⟨r, hr, hr1⟩ := root_at hok
          have : j = 0 := by omega
          subst this
          rw [hr] at hq
          cases hq
          rw [hr1]
          exact hroot
        by_cases hz : tot t (ownC c) q.id = 0
        · rw [hz] at d1 hj0
          simp only [hz, Int.lt_irrefl, decide_false, Bool.false_eq_true, if_false] at hst
          by_cases hj : (j : Int) = 0
          · have := hj0 hj
            subst this
            have hq0 : t.nodes[(0 : Int).toNat]? = some q := by
              have : j = 0 := by omega
              rw [this] at hq
              exact hq
            simp -implicitDefEqProofs (disch := omega) only [h4, h5, h6, h7, h8, h9, h11, hh4_0, hh5_0, hh28_1, hjl, hq, hq0, d1, hj, go_sem, ↓reduceIte, Nat.reduceAdd, Nat.reduceSub, Nat.reduceEqDiff, Nat.reduceLeDiff, reduceCtorEq]
            try refine And.intro (by omega) ?_
            refine (hJ _ _).2 ⟨?_, ?_, ?_, ?_, ?_, ?_, ?_, ?_, ?_, ?_⟩
            all_goals first | with_reducible rfl | (simp -implicitDefEqProofs (disch := omega) only [h4, h5, h6, h7, h8, h9, h11, hh4_0, hh5_0, hh28_1, hst, List.map_append, go_sem, ↓reduceIte, Nat.reduceAdd, Nat.reduceSub, Nat.reduceEqDiff, Nat.reduceLeDiff, reduceCtorEq]; done) | (simp -implicitDefEqProofs (disch := omega) only [h4, h5, h6, h7, h8, h9, h11, hh4_0, hh5_0, hh28_1, hst, List.map_append, go_sem, ↓reduceIte, Nat.reduceAdd, Nat.reduceSub, Nat.reduceEqDiff, Nat.reduceLeDiff, reduceCtorEq]; first | rfl | (simp; done) | (congr 2; omega) | (congr 1; omega) | (congr 3; omega) | (simp; omega) | (congr 2; simp; omega) | (simp [sumI]; done) | (simp [sumI]; omega)) | rfl | omega | (congr 2; omega) | (simp -implicitDefEqProofs (disch := omega) only [h4, h5, h6, h7, h8, h9, h11, hh4_0, hh5_0, hh28_1, hst, List.map_append, go_sem, ↓reduceIte, Nat.reduceAdd, Nat.reduceSub, Nat.reduceEqDiff, Nat.reduceLeDiff, reduceCtorEq]; refine ⟨_, rfl, ?_⟩; first | (simp -implicitDefEqProofs (disch := omega) only [h4, h5, h6, h7, h8, h9, h11, hh4_0, hh5_0, hh28_1, hst, List.map_append, go_sem, ↓reduceIte, Nat.reduceAdd, Nat.reduceSub, Nat.reduceEqDiff, Nat.reduceLeDiff, reduceCtorEq]; done) | rfl) | (refine ⟨_, by simp -implicitDefEqProofs (disch := omega) only [h4, h5, h6, h7, h8, h9, h11, hh4_0, hh5_0, hh28_1, hst, List.map_append, go_sem, ↓reduceIte, Nat.reduceAdd, Nat.reduceSub, Nat.reduceEqDiff, Nat.reduceLeDiff, reduceCtorEq], ?_⟩; first | (simp -implicitDefEqProofs (disch := omega) only [h4, h5, h6, h7, h8, h9, h11, hh4_0, hh5_0, hh28_1, hst, List.map_append, go_sem, ↓reduceIte, Nat.reduceAdd, Nat.reduceSub, Nat.reduceEqDiff, Nat.reduceLeDiff, reduceCtorEq]; done) | rfl)
          · simp -implicitDefEqProofs (disch := omega) only [h4, h5, h6, h7, h8, h9, h11, hh4_0, hh5_0, hh28_1, hjl, hq, d1, hj, go_sem, ↓reduceIte, Nat.reduceAdd, Nat.reduceSub, Nat.reduceEqDiff, Nat.reduceLeDiff, reduceCtorEq]
            try refine And.intro (by omega) ?_
            refine (hJ _ _).2 ⟨?_, ?_, ?_, ?_, ?_, ?_, ?_, ?_, ?_, ?_⟩
            all_goals first | with_reducible rfl | (simp -implicitDefEqProofs (disch := omega) only [h4, h5, h6, h7, h8, h9, h11, hh4_0, hh5_0, hh28_1, hst, List.map_append, go_sem, ↓reduceIte, Nat.reduceAdd, Nat.reduceSub, Nat.reduceEqDiff, Nat.reduceLeDiff, reduceCtorEq]; done) | (simp -implicitDefEqProofs (disch := omega) only [h4, h5, h6, h7, h8, h9, h11, hh4_0, hh5_0, hh28_1, hst, List.map_append, go_sem, ↓reduceIte, Nat.reduceAdd, Nat.reduceSub, Nat.reduceEqDiff, Nat.reduceLeDiff, reduceCtorEq]; first | rfl | (simp; done) | (congr 2; omega) | (congr 1; omega) | (congr 3; omega) | (simp; omega) | (congr 2; simp; omega) | (simp [sumI]; done) | (simp [sumI]; omega)) | rfl | omega | (congr 2; omega) | (simp -implicitDefEqProofs (disch := omega) only [h4, h5, h6, h7, h8, h9, h11, hh4_0, hh5_0, hh28_1, hst, List.map_append, go_sem, ↓reduceIte, Nat.reduceAdd, Nat.reduceSub, Nat.reduceEqDiff, Nat.reduceLeDiff, reduceCtorEq]; refine ⟨_, rfl, ?_⟩; first | (simp -implicitDefEqProofs (disch := omega) only [h4, h5, h6, h7, h8, h9, h11, hh4_0, hh5_0, hh28_1, hst, List.map_append, go_sem, ↓reduceIte, Nat.reduceAdd, Nat.reduceSub, Nat.reduceEqDiff, Nat.reduceLeDiff, reduceCtorEq]; done) | rfl) | (refine ⟨_, by simp -implicitDefEqProofs (disch := omega) only [h4, h5, h6, h7, h8, h9, h11, hh4_0, hh5_0, hh28_1, hst, List.map_append, go_sem, ↓reduceIte, Nat.reduceAdd, Nat.reduceSub, Nat.reduceEqDiff, Nat.reduceLeDiff, reduceCtorEq], ?_⟩; first | (simp -implicitDefEqProofs (disch := omega) only [h4, h5, h6, h7, h8, h9, h11, hh4_0, hh5_0, hh28_1, hst, List.map_append, go_sem, ↓reduceIte, Nat.reduceAdd, Nat.reduceSub, Nat.reduceEqDiff, Nat.reduceLeDiff, reduceCtorEq]; done) | rfl)
        · have hgt : 0 < tot t (ownC c) q.id := by omega
          have hat' := hat (decide_eq_true hgt)
          simp only [hgt, decide_true, if_true] at hst
          have hAt : A[((t.nodes.take j).filter fun n => decide (0 < tot t (ownC c) n.id)).length]? = some ⟨q.id, tot t (ownC c) q.id⟩ := by
            rw [hA, List.getElem?_map, hat']
            rfl
          have hKl := (List.getElem?_eq_some_iff.1 hAt).1
          have hsl := congrArg List.length hst
          rw [List.length_append, List.length_singleton] at hsl
          generalize ((t.nodes.take j).filter fun n => decide (0 < tot t (ownC c) n.id)).length = K at h9 hAt hKl hsl hJl
          generalize tot t (ownC c) q.id = T at d1 hj0 hz hAt
          have hnge : ¬ ((A.length : Int) ≤ K) := by omega
          by_cases hj : (j : Int) = 0
          · have := hj0 hj
            subst this
            have hq0 : t.nodes[(0 : Int).toNat]? = some q := by
              have : j = 0 := by omega
              rw [this] at hq
              exact hq
            simp -implicitDefEqProofs (disch := omega) only [h4, h5, h6, h7, h8, h9, h11, hh4_0, hh5_0, hh28_1, hjl, hq, hq0, d1, hj, hz, hAt, hnge, go_sem, ↓reduceIte, Nat.reduceAdd, Nat.reduceSub, Nat.reduceEqDiff, Nat.reduceLeDiff, reduceCtorEq]
            try refine And.intro (by omega) ?_
            refine (hJ _ _).2 ⟨?_, ?_, ?_, ?_, ?_, ?_, ?_, ?_, ?_, ?_⟩
            all_goals first | with_reducible rfl | (simp -implicitDefEqProofs (disch := omega) only [h4, h5, h6, h7, h8, h9, h11, hh4_0, hh5_0, hh28_1, hsl, List.map_append, go_sem, ↓reduceIte, Nat.reduceAdd, Nat.reduceSub, Nat.reduceEqDiff, Nat.reduceLeDiff, reduceCtorEq]; done) | (simp -implicitDefEqProofs (disch := omega) only [h4, h5, h6, h7, h8, h9, h11, hh4_0, hh5_0, hh28_1, hsl, List.map_append, go_sem, ↓reduceIte, Nat.reduceAdd, Nat.reduceSub, Nat.reduceEqDiff, Nat.reduceLeDiff, reduceCtorEq]; first | rfl | (simp; done) | (congr 2; omega) | (congr 1; omega) | (congr 3; omega) | (simp; omega) | (congr 2; simp; omega) | (simp [sumI]; done) | (simp [sumI]; omega)) | rfl | omega | (congr 2; omega) | (simp -implicitDefEqProofs (disch := omega) only [h4, h5, h6, h7, h8, h9, h11, hh4_0, hh5_0, hh28_1, hsl, List.map_append, go_sem, ↓reduceIte, Nat.reduceAdd, Nat.reduceSub, Nat.reduceEqDiff, Nat.reduceLeDiff, reduceCtorEq]; refine ⟨_, rfl, ?_⟩; first | (simp -implicitDefEqProofs (disch := omega) only [h4, h5, h6, h7, h8, h9, h11, hh4_0, hh5_0, hh28_1, hsl, List.map_append, go_sem, ↓reduceIte, Nat.reduceAdd, Nat.reduceSub, Nat.reduceEqDiff, Nat.reduceLeDiff, reduceCtorEq]; done) | rfl) | (refine ⟨_, by simp -implicitDefEqProofs (disch := omega) only [h4, h5, h6, h7, h8, h9, h11, hh4_0, hh5_0, hh28_1, hsl, List.map_append, go_sem, ↓reduceIte, Nat.reduceAdd, Nat.reduceSub, Nat.reduceEqDiff, Nat.reduceLeDiff, reduceCtorEq], ?_⟩; first | (simp -implicitDefEqProofs (disch := omega) only [h4, h5, h6, h7, h8, h9, h11, hh4_0, hh5_0, hh28_1, hsl, List.map_append, go_sem, ↓reduceIte, Nat.reduceAdd, Nat.reduceSub, Nat.reduceEqDiff, Nat.reduceLeDiff, reduceCtorEq]; done) | rfl)
          · simp -implicitDefEqProofs (disch := omega) only [h4, h5, h6, h7, h8, h9, h11, hh4_0, hh5_0, hh28_1, hjl, hq, d1, hj, hz, hAt, hnge, go_sem, ↓reduceIte, Nat.reduceAdd, Nat.reduceSub, Nat.reduceEqDiff, Nat.reduceLeDiff, reduceCtorEq]
            try refine And.intro (by omega) ?_
            refine (hJ _ _).2 ⟨?_, ?_, ?_, ?_, ?_, ?_, ?_, ?_, ?_, ?_⟩
            all_goals first | with_reducible rfl | (simp -implicitDefEqProofs (disch := omega) only [h4, h5, h6, h7, h8, h9, h11, hh4_0, hh5_0, hh28_1, hsl, List.map_append, go_sem, ↓reduceIte, Nat.reduceAdd, Nat.reduceSub, Nat.reduceEqDiff, Nat.reduceLeDiff, reduceCtorEq]; done) | (simp -implicitDefEqProofs (disch := omega) only [h4, h5, h6, h7, h8, h9, h11, hh4_0, hh5_0, hh28_1, hsl, List.map_append, go_sem, ↓reduceIte, Nat.reduceAdd, Nat.reduceSub, Nat.reduceEqDiff, Nat.reduceLeDiff, reduceCtorEq]; first | rfl | (simp; done) | (congr 2; omega) | (congr 1; omega) | (congr 3; omega) | (simp; omega) | (congr 2; simp; omega) | (simp [sumI]; done) | (simp [sumI]; omega)) | rfl | omega | (congr 2; omega) | (simp -implicitDefEqProofs (disch := omega) only [h4, h5, h6, h7, h8, h9, h11, hh4_0, hh5_0, hh28_1, hsl, List.map_append, go_sem, ↓reduceIte, Nat.reduceAdd, Nat.reduceSub, Nat.reduceEqDiff, Nat.reduceLeDiff, reduceCtorEq]; refine ⟨_, rfl, ?_⟩; first | (simp -implicitDefEqProofs (disch := omega) only [h4, h5, h6, h7, h8, h9, h11, hh4_0, hh5_0, hh28_1, hsl, List.map_append, go_sem, ↓reduceIte, Nat.reduceAdd, Nat.reduceSub, Nat.reduceEqDiff, Nat.reduceLeDiff, reduceCtorEq]; done) | rfl) | (refine ⟨_, by simp -implicitDefEqProofs (disch := omega) only [h4, h5, h6, h7, h8, h9, h11, hh4_0, hh5_0, hh28_1, hsl, List.map_append, go_sem, ↓reduceIte, Nat.reduceAdd, Nat.reduceSub, Nat.reduceEqDiff, Nat.reduceLeDiff, reduceCtorEq], ?_⟩; first | (simp -implicitDefEqProofs (disch := omega) only [h4, h5, h6, h7, h8, h9, h11, hh4_0, hh5_0, hh28_1, hsl, List.map_append, go_sem, ↓reduceIte, Nat.reduceAdd, Nat.reduceSub, Nat.reduceEqDiff, Nat.reduceLeDiff, reduceCtorEq]; done) | rfl)
      · rw [List.take_of_length_le (by omega), ← hAl] at h9
        simp -implicitDefEqProofs (disch := omega) only [h4, h5, h6, h7, h8, h9, h11, hh4_0, hh5_0, hh28_1, hjg, sane22_eq, go_sem, ↓reduceIte, Nat.reduceAdd, Nat.reduceSub, Nat.reduceEqDiff, Nat.reduceLeDiff, reduceCtorEq]
  · rw [decide_eq_false hL] at hli
    simp -implicitDefEqProofs (disch := omega) only [vf17, vb17, hli, sane22_eq, go_sem, ↓reduceIte, Nat.reduceAdd, Nat.reduceSub, Nat.reduceEqDiff, Nat.reduceLeDiff, reduceCtorEq]
end Go.V

