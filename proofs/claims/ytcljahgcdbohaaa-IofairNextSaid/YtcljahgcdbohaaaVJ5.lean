/- The value machine V at work: the reference's accounts. -/
import Derived.Test.YtcljahgcdbohaaaVI5
import Derived.Test.YtcljahgcdbohaaaVG3
set_option linter.unusedSimpArgs false
set_option linter.unusedVariables false
namespace Go.V

theorem rget_eq (l : List Ch) (id : Int) (hl : l.length < 1000000) : V 125 [.p (chsP l), .p (.int .i64 id)] [] = some (.p (.int .i64 (ownC l id)), []) := by
  refine V_wp (vf := vf125) rfl ?_
  simp -implicitDefEqProofs (disch := omega) only [vf125, vb125, go_sem, ↓reduceIte, Nat.reduceAdd, Nat.reduceSub, Nat.reduceEqDiff, Nat.reduceLeDiff, reduceCtorEq]
  obtain ⟨I, hI⟩ : ∃ I : Nat → St → Prop, ∀ k s, I k s ↔ ownC l id = ownC (l.drop k) id ∧ s.pe 0 = .p (chsP l) ∧ s.pe 1 = .p (.int .i64 id) ∧ s.pe 5 = .p (.int .i64 k) := ⟨_, fun _ _ => Iff.rfl⟩
  refine wp_count (l.length) I ?_ ?_
  · refine (hI _ _).2 ⟨?_, ?_, ?_, ?_⟩
    · exact by first | rfl | omega | (simp; done) | (simp; omega)
    all_goals first | with_reducible rfl | (simp -implicitDefEqProofs (disch := omega) only [List.map_append, go_sem, ↓reduceIte, Nat.reduceAdd, Nat.reduceSub, Nat.reduceEqDiff, Nat.reduceLeDiff, reduceCtorEq]; first | done | rfl | (simp; done) | (congr 2; omega) | (congr 1; omega) | (congr 3; omega) | (simp; omega) | (congr 2; simp; omega) | (refine ⟨_, rfl, ?_⟩; first | rfl | (simp -implicitDefEqProofs (disch := omega) only [List.map_append, go_sem, ↓reduceIte, Nat.reduceAdd, Nat.reduceSub, Nat.reduceEqDiff, Nat.reduceLeDiff, reduceCtorEq]; done))) | rfl | omega | (congr 2; omega)
  intro k s hk hIk
  obtain ⟨hq, h0, h1, h5⟩ := (hI _ _).1 hIk
  clear hIk
  simp -implicitDefEqProofs (disch := omega) only [h0, h1, h5, go_sem, ↓reduceIte, Nat.reduceAdd, Nat.reduceSub, Nat.reduceEqDiff, Nat.reduceLeDiff, reduceCtorEq]
  refine wp_if_d (fun hlt => ?_) (fun hge => ?_)
  · have hm : l[k]? = some l[k] := List.getElem?_eq_getElem hlt
    generalize l[k] = c at hm
    have hst := ownC_drop hm hq
    by_cases hp : c.group = id
    · rw [if_pos hp] at hst
      simp -implicitDefEqProofs (disch := omega) only [h0, h1, h5, hlt, hm, hp, hst, go_sem, ↓reduceIte, Nat.reduceAdd, Nat.reduceSub, Nat.reduceEqDiff, Nat.reduceLeDiff, reduceCtorEq]
    · rw [if_neg hp] at hst
      simp -implicitDefEqProofs (disch := omega) only [h0, h1, h5, hlt, hm, hp, go_sem, ↓reduceIte, Nat.reduceAdd, Nat.reduceSub, Nat.reduceEqDiff, Nat.reduceLeDiff, reduceCtorEq]
      try refine And.intro (by omega) ?_
      refine (hI _ _).2 ⟨?_, ?_, ?_, ?_⟩
      · exact hst
      all_goals first | with_reducible rfl | (simp -implicitDefEqProofs (disch := omega) only [h0, h1, h5, List.map_append, go_sem, ↓reduceIte, Nat.reduceAdd, Nat.reduceSub, Nat.reduceEqDiff, Nat.reduceLeDiff, reduceCtorEq]; first | done | rfl | (simp; done) | (congr 2; omega) | (congr 1; omega) | (congr 3; omega) | (simp; omega) | (congr 2; simp; omega) | (refine ⟨_, rfl, ?_⟩; first | rfl | (simp -implicitDefEqProofs (disch := omega) only [h0, h1, h5, List.map_append, go_sem, ↓reduceIte, Nat.reduceAdd, Nat.reduceSub, Nat.reduceEqDiff, Nat.reduceLeDiff, reduceCtorEq]; done))) | rfl | omega | (congr 2; omega)
  · rw [List.drop_of_length_le (by omega)] at hq
    simp -implicitDefEqProofs (disch := omega) only [h0, h1, h5, hge, hq, ownC, go_sem, ↓reduceIte, Nat.reduceAdd, Nat.reduceSub, Nat.reduceEqDiff, Nat.reduceLeDiff, reduceCtorEq]

set_option maxHeartbeats 1000000 in
theorem rcheckA_eq (t : Tr) (l : List Ch) (hn : t.nodes.length < 1000000) (hl : l.length < 1000000) : V 123 [t.vv, .p (chsP l)] [] = some (.p (.bool (checkA t l)), []) := by
  refine V_wp (vf := vf123) rfl ?_
  have hc := rcheck_eq t hn
  unfold checkA
  cases ht : treeOk t with
  | false =>
    rw [ht] at hc
    simp -implicitDefEqProofs (disch := omega) only [vf123, vb123, hc, Bool.false_and, go_sem, ↓reduceIte, Nat.reduceAdd, Nat.reduceSub, Nat.reduceEqDiff, Nat.reduceLeDiff, reduceCtorEq]
  | true =>
    rw [ht] at hc
    rw [Bool.true_and]
    simp -implicitDefEqProofs (disch := omega) only [vf123, vb123, hc, go_sem, ↓reduceIte, Nat.reduceAdd, Nat.reduceSub, Nat.reduceEqDiff, Nat.reduceLeDiff, reduceCtorEq]
    obtain ⟨I, hI⟩ : ∃ I : Nat → St → Prop, ∀ k s, I k s ↔ ascOk (knownN t.nodes) 0 1152921504606846976 none l = ascOk (knownN t.nodes) 0 1152921504606846976 (prevG l k) (l.drop k) ∧ s.pe 1 = .p (chsP l) ∧ s.pe 2 = .ptr (.slot 2 0) 0 0 ∧ s.pe 5 = .p (.int .i64 k) ∧ s.h (.slot 2 0) = some (0, Ob.box [.p (nodesP t.nodes), .p (.int .i64 t.next)]) := ⟨_, fun _ _ => Iff.rfl⟩
    refine wp_count (l.length) I ?_ ?_
    · refine (hI _ _).2 ⟨?_, ?_, ?_, ?_, ?_⟩
      · exact by first | rfl | omega | (simp; done) | (simp; omega)
      all_goals first | with_reducible rfl | (simp -implicitDefEqProofs (disch := omega) only [h0, h1, h5, List.map_append, go_sem, ↓reduceIte, Nat.reduceAdd, Nat.reduceSub, Nat.reduceEqDiff, Nat.reduceLeDiff, reduceCtorEq]; first | done | rfl | (simp; done) | (congr 2; omega) | (congr 1; omega) | (congr 3; omega) | (simp; omega) | (congr 2; simp; omega) | (refine ⟨_, rfl, ?_⟩; first | rfl | (simp -implicitDefEqProofs (disch := omega) only [h0, h1, h5, List.map_append, go_sem, ↓reduceIte, Nat.reduceAdd, Nat.reduceSub, Nat.reduceEqDiff, Nat.reduceLeDiff, reduceCtorEq]; done))) | rfl | omega | (congr 2; omega)
    intro k s hk hIk
    obtain ⟨hq, h1, h2, h5, hh2_0⟩ := (hI _ _).1 hIk
    clear hIk
    simp -implicitDefEqProofs (disch := omega) only [h1, h2, h5, hh2_0, go_sem, ↓reduceIte, Nat.reduceAdd, Nat.reduceSub, Nat.reduceEqDiff, Nat.reduceLeDiff, reduceCtorEq]
    refine wp_if_d (fun hlt => ?_) (fun hge => ?_)
    · have hm : l[k]? = some l[k] := List.getElem?_eq_getElem hlt
      generalize l[k] = c at hm
      have hg := asc_good hq hm
      have hb' := asc_bad hq hm
      have hfi := rhas_eq t c.group hn
      rw [findT_ok ht] at hfi
      have hkn : knownN t.nodes c.group = (findN t.nodes c.group).isSome := rfl
      generalize (findN t.nodes c.group).isSome = kn at hfi hkn
      by_cases hk0 : (0 : Int) < k
      · obtain ⟨e, he, he'⟩ := prev_at hm hk0
        have hk1 : (0 : Int) ≤ (k : Int) - 1 := by omega
        rw [ascAt_succ hk0 he, hkn] at hg hb'
        simp -implicitDefEqProofs (disch := omega) only [h1, h2, h5, hh2_0, hlt, hm, hfi, hk0, hk1, he', go_sem, ↓reduceIte, Nat.reduceAdd, Nat.reduceSub, Nat.reduceEqDiff, Nat.reduceLeDiff, reduceCtorEq]
        repeat' ((first | refine wp_grn_d (fun hb => ?_) (fun hb => ?_) | refine wp_gtn_d (fun hb => ?_) (fun hb => ?_) | refine wp_gr_d (fun hb => ?_) (fun hb => ?_) | refine wp_gt_d (fun hb => ?_) (fun hb => ?_) | refine wp_gr (fun hb => ?_) (fun hb => ?_) | refine wp_gt (fun hb => ?_) (fun hb => ?_) | refine wp_nt_d (fun hb => ?_) (fun hb => ?_) | refine wp_nt (fun hb => ?_) (fun hb => ?_) | refine wp_if_d (fun hb => ?_) (fun hb => ?_) | refine wp_if (fun hb => ?_) (fun hb => ?_)) <;> simp -implicitDefEqProofs (disch := omega) only [hb, h1, h2, h5, hh2_0, hlt, hm, hfi, hk0, hk1, he', go_sem, ↓reduceIte, Nat.reduceAdd, Nat.reduceSub, Nat.reduceEqDiff, Nat.reduceLeDiff, reduceCtorEq])
        all_goals first
          | (rw [hb' (by first | (rintro ⟨h1, h2, h3, h4⟩; omega) | simp_all)]; done)
          | skip
        try refine And.intro (by omega) ?_
        refine (hI _ _).2 ⟨?_, ?_, ?_, ?_, ?_⟩
        · exact hg ⟨by first | assumption | (cases kn <;> simp_all), by omega, by omega, by omega⟩
        all_goals first | with_reducible rfl | (simp -implicitDefEqProofs (disch := omega) only [h1, h2, h5, hh2_0, List.map_append, go_sem, ↓reduceIte, Nat.reduceAdd, Nat.reduceSub, Nat.reduceEqDiff, Nat.reduceLeDiff, reduceCtorEq]; first | done | rfl | (simp; done) | (congr 2; omega) | (congr 1; omega) | (congr 3; omega) | (simp; omega) | (congr 2; simp; omega) | (refine ⟨_, rfl, ?_⟩; first | rfl | (simp -implicitDefEqProofs (disch := omega) only [h1, h2, h5, hh2_0, List.map_append, go_sem, ↓reduceIte, Nat.reduceAdd, Nat.reduceSub, Nat.reduceEqDiff, Nat.reduceLeDiff, reduceCtorEq]; done))) | rfl | omega | (congr 2; omega)
      · rw [ascAt_zero hk0, hkn] at hg hb'
        simp -implicitDefEqProofs (disch := omega) only [h1, h2, h5, hh2_0, hlt, hm, hfi, hk0, go_sem, ↓reduceIte, Nat.reduceAdd, Nat.reduceSub, Nat.reduceEqDiff, Nat.reduceLeDiff, reduceCtorEq]
        repeat' ((first | refine wp_grn_d (fun hb => ?_) (fun hb => ?_) | refine wp_gtn_d (fun hb => ?_) (fun hb => ?_) | refine wp_gr_d (fun hb => ?_) (fun hb => ?_) | refine wp_gt_d (fun hb => ?_) (fun hb => ?_) | refine wp_gr (fun hb => ?_) (fun hb => ?_) | refine wp_gt (fun hb => ?_) (fun hb => ?_) | refine wp_nt_d (fun hb => ?_) (fun hb => ?_) | refine wp_nt (fun hb => ?_) (fun hb => ?_) | refine wp_if_d (fun hb => ?_) (fun hb => ?_) | refine wp_if (fun hb => ?_) (fun hb => ?_)) <;> simp -implicitDefEqProofs (disch := omega) only [hb, h1, h2, h5, hh2_0, hlt, hm, hfi, hk0, go_sem, ↓reduceIte, Nat.reduceAdd, Nat.reduceSub, Nat.reduceEqDiff, Nat.reduceLeDiff, reduceCtorEq])
        all_goals first
          | (rw [hb' (by first | (rintro ⟨h1, h2, h3⟩; omega) | simp_all)]; done)
          | skip
        try refine And.intro (by omega) ?_
        refine (hI _ _).2 ⟨?_, ?_, ?_, ?_, ?_⟩
        · exact hg ⟨by first | assumption | (cases kn <;> simp_all), by omega, by omega⟩
        all_goals first | with_reducible rfl | (simp -implicitDefEqProofs (disch := omega) only [h1, h2, h5, hh2_0, List.map_append, go_sem, ↓reduceIte, Nat.reduceAdd, Nat.reduceSub, Nat.reduceEqDiff, Nat.reduceLeDiff, reduceCtorEq]; first | done | rfl | (simp; done) | (congr 2; omega) | (congr 1; omega) | (congr 3; omega) | (simp; omega) | (congr 2; simp; omega) | (refine ⟨_, rfl, ?_⟩; first | rfl | (simp -implicitDefEqProofs (disch := omega) only [h1, h2, h5, hh2_0, List.map_append, go_sem, ↓reduceIte, Nat.reduceAdd, Nat.reduceSub, Nat.reduceEqDiff, Nat.reduceLeDiff, reduceCtorEq]; done))) | rfl | omega | (congr 2; omega)
    · have hT := asc_end hq (by omega)
      simp -implicitDefEqProofs (disch := omega) only [h1, h2, h5, hh2_0, hge, hT, go_sem, ↓reduceIte, Nat.reduceAdd, Nat.reduceSub, Nat.reduceEqDiff, Nat.reduceLeDiff, reduceCtorEq]

theorem rmay_eq (t : Tr) (a : List Ch) (id now : Int) (hn : t.nodes.length < 1000000) (hl : a.length < 1000000) : V 124 [t.vv, .p (chsP a), .p (.int .i64 id), .p (.int .i64 now)] [] = some (.p (.bool (mayA t a id now)), []) := by
  refine V_wp (vf := vf124) rfl ?_
  have h1 := rcheckA_eq t a hn hl
  have h2 := rhas_eq t id hn
  have h3 := rget_eq a id hl
  unfold mayA
  cases hc : checkA t a with
  | false =>
    rw [hc] at h1
    simp -implicitDefEqProofs (disch := omega) only [vf124, vb124, h1, Bool.false_and, go_sem, ↓reduceIte, Nat.reduceAdd, Nat.reduceSub, Nat.reduceEqDiff, Nat.reduceLeDiff, reduceCtorEq]
  | true =>
    rw [hc] at h1
    have htr : treeOk t = true := by
      unfold checkA at hc
      simp only [Bool.and_eq_true] at hc
      exact hc.1
    rw [findT_ok htr] at h2
    change V 76 _ _ = some (.p (.bool (knownN t.nodes id)), []) at h2
    cases hk : knownN t.nodes id with
    | false =>
      rw [hk] at h2
      simp -implicitDefEqProofs (disch := omega) only [vf124, vb124, h1, h2, Bool.false_and, Bool.true_and, go_sem, ↓reduceIte, Nat.reduceAdd, Nat.reduceSub, Nat.reduceEqDiff, Nat.reduceLeDiff, reduceCtorEq]
    | true =>
      rw [hk] at h2
      simp -implicitDefEqProofs (disch := omega) only [vf124, vb124, h1, h2, h3, Bool.true_and, go_sem, ↓reduceIte, Nat.reduceAdd, Nat.reduceSub, Nat.reduceEqDiff, Nat.reduceLeDiff, reduceCtorEq]


set_option maxHeartbeats 4000000 in
theorem rissue_eq (t : Tr) (a : List Ch) (id share cost now margin : Int) (hn : t.nodes.length < 1000000) (hl : a.length < 1000000) : V 100 [t.vv, .p (chsP a), .p (.int .i64 id), .p (.int .i64 share), .p (.int .i64 cost), .p (.int .i64 now), .p (.int .i64 margin)] [] = some (.tup [.fresh 2 ((IssueA t a id share cost now margin).1.map Ch.pv), .p (.int .i64 (IssueA t a id share cost now margin).2)], []) := by
  refine V_wp (vf := vf100) rfl ?_
  have h1 := rcheckA_eq t a hn hl
  have h2 := rhas_eq t id hn
  have h3 := rget_eq a id hl
  have h4 := rmay_eq t a id now hn hl
  unfold IssueA
  cases hc : checkA t a with
  | false =>
    rw [hc] at h1
    simp -implicitDefEqProofs (disch := omega) only [vf100, vb100, h1, go_sem, ↓reduceIte, Nat.reduceAdd, Nat.reduceSub, Nat.reduceEqDiff, Nat.reduceLeDiff, reduceCtorEq]
    try rfl
  | true =>
    rw [hc] at h1
    have hcc := hc
    unfold checkA at hcc
    simp only [Bool.and_eq_true] at hcc
    have hA : AscOk (knownN t.nodes) 0 1152921504606846976 a := (ascOk_iff _ _ _ _).1 hcc.2
    have hown := ownC_asc hA (by omega) (by omega) id
    rw [findT_ok hcc.1] at h2
    change V 76 _ _ = some (.p (.bool (knownN t.nodes id)), []) at h2
    rw [if_pos rfl]
    cases hk : knownN t.nodes id with
    | false =>
      rw [hk] at h2
      simp -implicitDefEqProofs (disch := omega) only [vf100, vb100, h1, h2, go_sem, ↓reduceIte, Nat.reduceAdd, Nat.reduceSub, Nat.reduceEqDiff, Nat.reduceLeDiff, reduceCtorEq]
      try rfl
    | true =>
      rw [hk] at h2
      rw [if_pos rfl]
      rw [mayA, hc, hk, Bool.true_and, Bool.true_and] at h4
      by_cases c1 : 1 ≤ share ∧ share ≤ 1073741824
      · have c1a : ¬ share < 1 := by omega
        have c1b : ¬ 1073741824 < share := by omega
        by_cases c2 : 1 ≤ cost ∧ cost ≤ 4294967296
        · have c2a : ¬ cost < 1 := by omega
          have c2b : ¬ 4294967296 < cost := by omega
          by_cases c3 : 0 ≤ now ∧ now ≤ 576460752303423488
          · have c3a : ¬ now < 0 := by omega
            have c3b : ¬ 576460752303423488 < now := by omega
            by_cases c4 : 0 ≤ margin ∧ margin ≤ 1073741824
            · have c4a : ¬ margin < 0 := by omega
              have c4b : ¬ 1073741824 < margin := by omega
              rw [if_pos ⟨c1, c2, c3, c4⟩]
              have hnn : 0 ≤ cost * 1073741824 + share - 1 := by omega
              have hq := Int.tdiv_eq_ediv_of_nonneg (b := share) hnn
              have hq1 : (cost * 1073741824 + share - 1) / share ≤ cost * 1073741824 + share - 1 := Int.ediv_le_self _ hnn
              have hq0 : 0 ≤ (cost * 1073741824 + share - 1) / share := Int.ediv_nonneg hnn (by omega)
              unfold issueV
              generalize ownC a id = o at h3 hown h4
              generalize (cost * 1073741824 + share - 1) / share = z at hq hq0 hq1
              by_cases c5 : now < o
              · rw [if_pos c5]
                rw [decide_eq_false (by omega)] at h4
                simp -implicitDefEqProofs (disch := omega) only [vf100, vb100, h1, h2, h3, h4, c1a, c1b, c2a, c2b, c3a, c3b, c4a, c4b, go_sem, ↓reduceIte, Nat.reduceAdd, Nat.reduceSub, Nat.reduceEqDiff, Nat.reduceLeDiff, reduceCtorEq]
                try rfl
              · rw [if_neg c5]
                rw [decide_eq_true (by omega)] at h4
                have hw1 : IntKind.i64.wrap (cost * 1073741824) = cost * 1073741824 := wrap64 (by omega) (by omega)
                have hne : share ≠ 0 := by omega
                generalize hm : max (max o (now - margin)) 0 = M
                have hM : 0 ≤ M ∧ M ≤ 1152921504606846976 := by omega
                by_cases c6 : 1152921504606846976 < M + z
                · rw [if_pos c6]
                  simp -implicitDefEqProofs (disch := omega) only [vf100, vb100, h1, h2, h3, h4, c1a, c1b, c2a, c2b, c3a, c3b, c4a, c4b, hw1, hne, hq, hm, c6, go_sem, ↓reduceIte, Nat.reduceAdd, Nat.reduceSub, Nat.reduceEqDiff, Nat.reduceLeDiff, reduceCtorEq]
                  try rfl
                · rw [if_neg c6]
                  unfold putA
                  simp -implicitDefEqProofs (disch := omega) only [vf100, vb100, h1, h2, h3, h4, c1a, c1b, c2a, c2b, c3a, c3b, c4a, c4b, hw1, hne, hq, hm, c6, go_sem, ↓reduceIte, Nat.reduceAdd, Nat.reduceSub, Nat.reduceEqDiff, Nat.reduceLeDiff, reduceCtorEq]
                  obtain ⟨I, hI⟩ : ∃ I : Nat → St → Prop, ∀ k s, I k s ↔ ∃ (acc : List Ch) (d : Bool) (w : Nat), withGo id (M + z) false a = acc ++ withGo id (M + z) d (a.drop k) ∧ acc.length ≤ 2 * k ∧ s.pe 1 = .p (chsP a) ∧ s.pe 2 = .p (.int .i64 id) ∧ s.pe 16 = .p (.int .i64 (M + z)) ∧ s.pe 17 = .own (.slot 17 0) w 0 acc.length ∧ s.pe 18 = .p (.bool d) ∧ s.pe 19 = .p (.int .i64 k) ∧ s.h (.slot 17 0) = some (w, Ob.arr 2 (acc.map Ch.pv)) := ⟨_, fun _ _ => Iff.rfl⟩
                  refine wp_count (a.length) I ?_ ?_
                  · refine (hI _ _).2 ⟨[], false, 0, ?_, ?_, ?_, ?_, ?_, ?_, ?_, ?_, ?_⟩
                    · exact rfl
                    · exact by first | rfl | omega | (simp; done) | (simp; omega)
                    all_goals first | with_reducible rfl | (simp -implicitDefEqProofs (disch := omega) only [h1, h2, h5, hh2_0, List.map_append, go_sem, ↓reduceIte, Nat.reduceAdd, Nat.reduceSub, Nat.reduceEqDiff, Nat.reduceLeDiff, reduceCtorEq]; first | done | rfl | (simp; done) | (congr 2; omega) | (congr 1; omega) | (congr 3; omega) | (simp; omega) | (congr 2; simp; omega) | (refine ⟨_, rfl, ?_⟩; first | rfl | (simp -implicitDefEqProofs (disch := omega) only [h1, h2, h5, hh2_0, List.map_append, go_sem, ↓reduceIte, Nat.reduceAdd, Nat.reduceSub, Nat.reduceEqDiff, Nat.reduceLeDiff, reduceCtorEq]; done))) | rfl | omega | (congr 2; omega)
                  intro k s hk hIk
                  obtain ⟨acc, d, w, hw, hal, h1, h2, h16, h17, h18, h19, hh17_0⟩ := (hI _ _).1 hIk
                  clear hIk
                  simp -implicitDefEqProofs (disch := omega) only [h1, h2, h16, h17, h18, h19, hh17_0, go_sem, ↓reduceIte, Nat.reduceAdd, Nat.reduceSub, Nat.reduceEqDiff, Nat.reduceLeDiff, reduceCtorEq]
                  refine wp_if_d (fun hlt => ?_) (fun hge => ?_)
                  · have hm : a[k]? = some a[k] := List.getElem?_eq_getElem hlt
                    have hd : a.drop k = a[k] :: a.drop (k + 1) := List.drop_eq_getElem_cons hlt
                    generalize a[k] = c at hm hd
                    rw [hd, withGo] at hw
                    cases d with
                    | true =>
                      by_cases he : c.group = id
                      · simp only [he, Bool.not_true, Bool.false_and, Bool.false_eq_true, if_false, if_true, List.nil_append, List.append_nil, Bool.true_or] at hw
                        simp -implicitDefEqProofs (disch := omega) only [h1, h2, h16, h17, h18, h19, hh17_0, hlt, hm, he, go_sem, ↓reduceIte, Nat.reduceAdd, Nat.reduceSub, Nat.reduceEqDiff, Nat.reduceLeDiff, reduceCtorEq]
                        try refine And.intro (by omega) ?_
                        refine (hI _ _).2 ⟨acc, true, w, ?_, ?_, ?_, ?_, ?_, ?_, ?_, ?_, ?_⟩
                        · exact hw
                        · exact by omega
                        all_goals first | with_reducible rfl | (simp -implicitDefEqProofs (disch := omega) only [h1, h2, h16, h17, h18, h19, hh17_0, List.map_append, go_sem, ↓reduceIte, Nat.reduceAdd, Nat.reduceSub, Nat.reduceEqDiff, Nat.reduceLeDiff, reduceCtorEq]; first | done | rfl | (simp; done) | (congr 2; omega) | (congr 1; omega) | (congr 3; omega) | (simp; omega) | (congr 2; simp; omega) | (refine ⟨_, rfl, ?_⟩; first | rfl | (simp -implicitDefEqProofs (disch := omega) only [h1, h2, h16, h17, h18, h19, hh17_0, List.map_append, go_sem, ↓reduceIte, Nat.reduceAdd, Nat.reduceSub, Nat.reduceEqDiff, Nat.reduceLeDiff, reduceCtorEq]; done))) | rfl | omega | (congr 2; omega)
                      · simp only [he, Bool.not_true, Bool.false_and, Bool.false_eq_true, if_false, List.nil_append, Bool.true_or, ← List.append_assoc] at hw
                        simp -implicitDefEqProofs (disch := omega) only [h1, h2, h16, h17, h18, h19, hh17_0, hlt, hm, he, go_sem, ↓reduceIte, Nat.reduceAdd, Nat.reduceSub, Nat.reduceEqDiff, Nat.reduceLeDiff, reduceCtorEq]
                        try refine And.intro (by omega) ?_
                        refine (hI _ _).2 ⟨acc ++ [c], true, w + 1, ?_, ?_, ?_, ?_, ?_, ?_, ?_, ?_, ?_⟩
                        · exact hw
                        · exact by simp; omega
                        all_goals first | with_reducible rfl | (simp -implicitDefEqProofs (disch := omega) only [h1, h2, h16, h17, h18, h19, hh17_0, List.map_append, go_sem, ↓reduceIte, Nat.reduceAdd, Nat.reduceSub, Nat.reduceEqDiff, Nat.reduceLeDiff, reduceCtorEq]; first | done | rfl | (simp; done) | (congr 2; omega) | (congr 1; omega) | (congr 3; omega) | (simp; omega) | (congr 2; simp; omega) | (refine ⟨_, rfl, ?_⟩; first | rfl | (simp -implicitDefEqProofs (disch := omega) only [h1, h2, h16, h17, h18, h19, hh17_0, List.map_append, go_sem, ↓reduceIte, Nat.reduceAdd, Nat.reduceSub, Nat.reduceEqDiff, Nat.reduceLeDiff, reduceCtorEq]; done))) | rfl | omega | (congr 2; omega)
                    | false =>
                      by_cases hge : id ≤ c.group
                      · by_cases he : c.group = id
                        · simp only [he, Int.le_refl, decide_true, Bool.not_false, Bool.and_self, if_true, List.append_nil, Bool.or_true, ← List.append_assoc] at hw
                          simp -implicitDefEqProofs (disch := omega) only [h1, h2, h16, h17, h18, h19, hh17_0, hlt, hm, hge, he, Int.le_refl, decide_true, go_sem, ↓reduceIte, Nat.reduceAdd, Nat.reduceSub, Nat.reduceEqDiff, Nat.reduceLeDiff, reduceCtorEq]
                          try refine And.intro (by omega) ?_
                          refine (hI _ _).2 ⟨acc ++ [⟨id, M + z⟩], true, w + 1, ?_, ?_, ?_, ?_, ?_, ?_, ?_, ?_, ?_⟩
                          · exact hw
                          · exact by simp; omega
                          all_goals first | with_reducible rfl | (simp -implicitDefEqProofs (disch := omega) only [h1, h2, h16, h17, h18, h19, hh17_0, List.map_append, go_sem, ↓reduceIte, Nat.reduceAdd, Nat.reduceSub, Nat.reduceEqDiff, Nat.reduceLeDiff, reduceCtorEq]; first | done | rfl | (simp; done) | (congr 2; omega) | (congr 1; omega) | (congr 3; omega) | (simp; omega) | (congr 2; simp; omega) | (refine ⟨_, rfl, ?_⟩; first | rfl | (simp -implicitDefEqProofs (disch := omega) only [h1, h2, h16, h17, h18, h19, hh17_0, List.map_append, go_sem, ↓reduceIte, Nat.reduceAdd, Nat.reduceSub, Nat.reduceEqDiff, Nat.reduceLeDiff, reduceCtorEq]; done))) | rfl | omega | (congr 2; omega)
                        · simp only [he, hge, decide_true, Bool.not_false, Bool.and_self, if_true, if_false, Bool.or_true, ← List.append_assoc] at hw
                          simp -implicitDefEqProofs (disch := omega) only [h1, h2, h16, h17, h18, h19, hh17_0, hlt, hm, hge, he, go_sem, ↓reduceIte, Nat.reduceAdd, Nat.reduceSub, Nat.reduceEqDiff, Nat.reduceLeDiff, reduceCtorEq]
                          try refine And.intro (by omega) ?_
                          refine (hI _ _).2 ⟨acc ++ [⟨id, M + z⟩] ++ [c], true, w + 1 + 1, ?_, ?_, ?_, ?_, ?_, ?_, ?_, ?_, ?_⟩
                          · exact hw
                          · exact by simp; omega
                          all_goals first | with_reducible rfl | (simp -implicitDefEqProofs (disch := omega) only [h1, h2, h16, h17, h18, h19, hh17_0, List.map_append, go_sem, ↓reduceIte, Nat.reduceAdd, Nat.reduceSub, Nat.reduceEqDiff, Nat.reduceLeDiff, reduceCtorEq]; first | done | rfl | (simp; done) | (congr 2; omega) | (congr 1; omega) | (congr 3; omega) | (simp; omega) | (congr 2; simp; omega) | (refine ⟨_, rfl, ?_⟩; first | rfl | (simp -implicitDefEqProofs (disch := omega) only [h1, h2, h16, h17, h18, h19, hh17_0, List.map_append, go_sem, ↓reduceIte, Nat.reduceAdd, Nat.reduceSub, Nat.reduceEqDiff, Nat.reduceLeDiff, reduceCtorEq]; done))) | rfl | omega | (congr 2; omega)
                      · have he : ¬ c.group = id := by omega
                        simp only [he, hge, decide_false, Bool.not_false, Bool.and_false, Bool.false_eq_true, if_false, List.nil_append, Bool.or_false, ← List.append_assoc] at hw
                        simp -implicitDefEqProofs (disch := omega) only [h1, h2, h16, h17, h18, h19, hh17_0, hlt, hm, hge, he, go_sem, ↓reduceIte, Nat.reduceAdd, Nat.reduceSub, Nat.reduceEqDiff, Nat.reduceLeDiff, reduceCtorEq]
                        try refine And.intro (by omega) ?_
                        refine (hI _ _).2 ⟨acc ++ [c], false, w + 1, ?_, ?_, ?_, ?_, ?_, ?_, ?_, ?_, ?_⟩
                        · exact hw
                        · exact by simp; omega
                        all_goals first | with_reducible rfl | (simp -implicitDefEqProofs (disch := omega) only [h1, h2, h16, h17, h18, h19, hh17_0, List.map_append, go_sem, ↓reduceIte, Nat.reduceAdd, Nat.reduceSub, Nat.reduceEqDiff, Nat.reduceLeDiff, reduceCtorEq]; first | done | rfl | (simp; done) | (congr 2; omega) | (congr 1; omega) | (congr 3; omega) | (simp; omega) | (congr 2; simp; omega) | (refine ⟨_, rfl, ?_⟩; first | rfl | (simp -implicitDefEqProofs (disch := omega) only [h1, h2, h16, h17, h18, h19, hh17_0, List.map_append, go_sem, ↓reduceIte, Nat.reduceAdd, Nat.reduceSub, Nat.reduceEqDiff, Nat.reduceLeDiff, reduceCtorEq]; done))) | rfl | omega | (congr 2; omega)
                  · rw [List.drop_of_length_le (by omega), withGo] at hw
                    cases d with
                    | true =>
                      simp only [if_true, List.append_nil] at hw
                      simp -implicitDefEqProofs (disch := omega) only [h1, h2, h16, h17, h18, h19, hh17_0, hge, go_sem, ↓reduceIte, Nat.reduceAdd, Nat.reduceSub, Nat.reduceEqDiff, Nat.reduceLeDiff, reduceCtorEq]
                      rw [hw]
                    | false =>
                      simp only [Bool.false_eq_true, if_false] at hw
                      simp -implicitDefEqProofs (disch := omega) only [h1, h2, h16, h17, h18, h19, hh17_0, hge, go_sem, ↓reduceIte, Nat.reduceAdd, Nat.reduceSub, Nat.reduceEqDiff, Nat.reduceLeDiff, reduceCtorEq]
                      rw [hw]
                      simp [Ch.pv]
            · rw [if_neg (fun h => c4 h.2.2.2)]
              by_cases c4a : margin < 0
              · simp -implicitDefEqProofs (disch := omega) only [vf100, vb100, h1, h2, c1a, c1b, c2a, c2b, c3a, c3b, c4a, go_sem, ↓reduceIte, Nat.reduceAdd, Nat.reduceSub, Nat.reduceEqDiff, Nat.reduceLeDiff, reduceCtorEq]
                try rfl
              · have c4b : 1073741824 < margin := by omega
                simp -implicitDefEqProofs (disch := omega) only [vf100, vb100, h1, h2, c1a, c1b, c2a, c2b, c3a, c3b, c4a, c4b, go_sem, ↓reduceIte, Nat.reduceAdd, Nat.reduceSub, Nat.reduceEqDiff, Nat.reduceLeDiff, reduceCtorEq]
                try rfl
          · rw [if_neg (fun h => c3 h.2.2.1)]
            by_cases c3a : now < 0
            · simp -implicitDefEqProofs (disch := omega) only [vf100, vb100, h1, h2, c1a, c1b, c2a, c2b, c3a, go_sem, ↓reduceIte, Nat.reduceAdd, Nat.reduceSub, Nat.reduceEqDiff, Nat.reduceLeDiff, reduceCtorEq]
              try rfl
            · have c3b : 576460752303423488 < now := by omega
              simp -implicitDefEqProofs (disch := omega) only [vf100, vb100, h1, h2, c1a, c1b, c2a, c2b, c3a, c3b, go_sem, ↓reduceIte, Nat.reduceAdd, Nat.reduceSub, Nat.reduceEqDiff, Nat.reduceLeDiff, reduceCtorEq]
              try rfl
        · rw [if_neg (fun h => c2 h.2.1)]
          by_cases c2a : cost < 1
          · simp -implicitDefEqProofs (disch := omega) only [vf100, vb100, h1, h2, c1a, c1b, c2a, go_sem, ↓reduceIte, Nat.reduceAdd, Nat.reduceSub, Nat.reduceEqDiff, Nat.reduceLeDiff, reduceCtorEq]
            try rfl
          · have c2b : 4294967296 < cost := by omega
            simp -implicitDefEqProofs (disch := omega) only [vf100, vb100, h1, h2, c1a, c1b, c2a, c2b, go_sem, ↓reduceIte, Nat.reduceAdd, Nat.reduceSub, Nat.reduceEqDiff, Nat.reduceLeDiff, reduceCtorEq]
            try rfl
      · rw [if_neg (fun h => c1 h.1)]
        by_cases c1a : share < 1
        · simp -implicitDefEqProofs (disch := omega) only [vf100, vb100, h1, h2, c1a, go_sem, ↓reduceIte, Nat.reduceAdd, Nat.reduceSub, Nat.reduceEqDiff, Nat.reduceLeDiff, reduceCtorEq]
          try rfl
        · have c1b : 1073741824 < share := by omega
          simp -implicitDefEqProofs (disch := omega) only [vf100, vb100, h1, h2, c1a, c1b, go_sem, ↓reduceIte, Nat.reduceAdd, Nat.reduceSub, Nat.reduceEqDiff, Nat.reduceLeDiff, reduceCtorEq]
          try rfl
end Go.V

