/- The value machine V at work: weights and accounts of a device. -/
import Derived.Test.YtcljahgcdbohaaaVI2
import Derived.Test.YtcljahgcdbohaaaVK9
set_option linter.unusedSimpArgs false
set_option linter.unusedVariables false
namespace Go.V

theorem in_eq (n lo hi : Int) : V 87 [.p (.int .i64 n), .p (.int .i64 lo), .p (.int .i64 hi)] [] = some (.p (.bool (decide (lo ≤ n ∧ n ≤ hi))), []) := by
  refine V_wp (vf := vf87) rfl ?_
  by_cases h1 : lo ≤ n
  · by_cases h2 : n ≤ hi
    · rw [decide_eq_true ⟨h1, h2⟩]
      simp -implicitDefEqProofs (disch := omega) only [vf87, vb87, h1, h2, go_sem, ↓reduceIte, Nat.reduceAdd, Nat.reduceSub, Nat.reduceEqDiff, Nat.reduceLeDiff, reduceCtorEq]
    · rw [decide_eq_false (fun h => h2 h.2)]
      simp -implicitDefEqProofs (disch := omega) only [vf87, vb87, h1, h2, go_sem, ↓reduceIte, Nat.reduceAdd, Nat.reduceSub, Nat.reduceEqDiff, Nat.reduceLeDiff, reduceCtorEq]
  · rw [decide_eq_false (fun h => h1 h.1)]
    simp -implicitDefEqProofs (disch := omega) only [vf87, vb87, h1, go_sem, ↓reduceIte, Nat.reduceAdd, Nat.reduceSub, Nat.reduceEqDiff, Nat.reduceLeDiff, reduceCtorEq]

theorem known_eq (t : Tr) (id : Int) (hn : t.nodes.length < 1000000) : V 84 [t.vv, .p (.int .i64 id)] [] = some (.p (.bool (knownN t.nodes id)), []) := by
  refine V_wp (vf := vf84) rfl ?_
  have hfi := ffind_eq t id hn
  unfold knownN
  generalize (findN t.nodes id).getD zeroNd = nd at hfi
  generalize (findN t.nodes id).isSome = b at hfi
  simp -implicitDefEqProofs (disch := omega) only [vf84, vb84, hfi, Nd.vv, go_sem, ↓reduceIte, Nat.reduceAdd, Nat.reduceSub, Nat.reduceEqDiff, Nat.reduceLeDiff, reduceCtorEq]

def validW (t : Tr) (l : List Ch) : Bool := treeOk t && ascOk (knownN t.nodes) 1 10000 none l
def checkA (t : Tr) (l : List Ch) : Bool := treeOk t && ascOk (knownN t.nodes) 0 1152921504606846976 none l

set_option maxHeartbeats 1000000 in
theorem ivalid_eq (t : Tr) (l : List Ch) (hf : t.Fits) (hn : t.nodes.length < 1000000) (hl : l.length < 1000000) : V 83 [t.vv, .p (chsP l)] [] = some (.p (.bool (validW t l)), []) := by
  refine V_wp (vf := vf83) rfl ?_
  have hc := tcheck_eq t hf hn
  unfold validW
  cases ht : treeOk t with
  | false =>
    rw [ht] at hc
    simp -implicitDefEqProofs (disch := omega) only [vf83, vb83, hc, Bool.false_and, go_sem, ↓reduceIte, Nat.reduceAdd, Nat.reduceSub, Nat.reduceEqDiff, Nat.reduceLeDiff, reduceCtorEq]
  | true =>
    rw [ht] at hc
    rw [Bool.true_and]
    simp -implicitDefEqProofs (disch := omega) only [vf83, vb83, hc, go_sem, ↓reduceIte, Nat.reduceAdd, Nat.reduceSub, Nat.reduceEqDiff, Nat.reduceLeDiff, reduceCtorEq]
    obtain ⟨I, hI⟩ : ∃ I : Nat → St → Prop, ∀ k s, I k s ↔ ascOk (knownN t.nodes) 1 10000 none l = ascOk (knownN t.nodes) 1 10000 (prevG l k) (l.drop k) ∧ s.pe 1 = .p (chsP l) ∧ s.pe 2 = .ptr (.slot 2 0) 0 0 ∧ s.pe 10 = .p (chsP l) ∧ s.pe 11 = .p (.int .i64 l.length) ∧ s.pe 12 = .p (.int .i64 k) ∧ s.h (.slot 2 0) = some (0, .box [.p (nodesP t.nodes), .p (.int .i64 t.next)]) := ⟨_, fun _ _ => Iff.rfl⟩
    refine wp_count (l.length) I ?_ ?_
    · refine (hI _ _).2 ⟨?_, ?_, ?_, ?_, ?_, ?_, ?_⟩
      · exact by first | rfl | omega | (simp; done) | (simp; omega)
      all_goals first | with_reducible rfl | (simp -implicitDefEqProofs (disch := omega) only [List.map_append, go_sem, ↓reduceIte, Nat.reduceAdd, Nat.reduceSub, Nat.reduceEqDiff, Nat.reduceLeDiff, reduceCtorEq]; first | done | rfl | (simp; done) | (congr 2; omega) | (congr 1; omega) | (congr 3; omega) | (simp; omega) | (congr 2; simp; omega) | (refine ⟨_, rfl, ?_⟩; first | rfl | (simp -implicitDefEqProofs (disch := omega) only [List.map_append, go_sem, ↓reduceIte, Nat.reduceAdd, Nat.reduceSub, Nat.reduceEqDiff, Nat.reduceLeDiff, reduceCtorEq]; done))) | rfl | omega | (congr 2; omega)
    intro k s hk hIk
    obtain ⟨hq, h1, h2, h10, h11, h12, hh2_0⟩ := (hI _ _).1 hIk
    clear hIk
    simp -implicitDefEqProofs (disch := omega) only [h1, h2, h10, h11, h12, hh2_0, go_sem, ↓reduceIte, Nat.reduceAdd, Nat.reduceSub, Nat.reduceEqDiff, Nat.reduceLeDiff, reduceCtorEq]
    refine wp_if_d (fun hlt => ?_) (fun hge => ?_)
    · have hm : l[k]? = some l[k] := List.getElem?_eq_getElem hlt
      generalize l[k] = c at hm
      have hg := asc_good hq hm
      have hb' := asc_bad hq hm
      have hfi := known_eq t c.group hn
      have hin := in_eq c.own 1 10000
      obtain ⟨kn, hkn⟩ : ∃ kn, knownN t.nodes c.group = kn := ⟨_, rfl⟩
      by_cases hk0 : (0 : Int) < k
      · obtain ⟨e, he, he'⟩ := prev_at hm hk0
        have hk1 : (0 : Int) ≤ (k : Int) - 1 := by omega
        rw [ascAt_succ hk0 he] at hg hb'
        rw [hkn] at hfi hg hb'
        simp -implicitDefEqProofs (disch := omega) only [h1, h2, h10, h11, h12, hh2_0, hlt, hm, hfi, hin, hk0, hk1, he', go_sem, ↓reduceIte, Nat.reduceAdd, Nat.reduceSub, Nat.reduceEqDiff, Nat.reduceLeDiff, reduceCtorEq]
        repeat' ((first | refine wp_grn_d (fun hb => ?_) (fun hb => ?_) | refine wp_gtn_d (fun hb => ?_) (fun hb => ?_) | refine wp_gr_d (fun hb => ?_) (fun hb => ?_) | refine wp_gt_d (fun hb => ?_) (fun hb => ?_) | refine wp_gr (fun hb => ?_) (fun hb => ?_) | refine wp_gt (fun hb => ?_) (fun hb => ?_) | refine wp_nt_d (fun hb => ?_) (fun hb => ?_) | refine wp_nt (fun hb => ?_) (fun hb => ?_) | refine wp_if_d (fun hb => ?_) (fun hb => ?_) | refine wp_if (fun hb => ?_) (fun hb => ?_)) <;> simp -implicitDefEqProofs (disch := omega) only [hb, h1, h2, h10, h11, h12, hh2_0, hlt, hm, hfi, hin, hk0, hk1, he', go_sem, ↓reduceIte, Nat.reduceAdd, Nat.reduceSub, Nat.reduceEqDiff, Nat.reduceLeDiff, reduceCtorEq])
        all_goals first
          | (rw [hb' (by first | (rintro ⟨h1, h2, h3, h4⟩; omega) | simp_all)]; done)
          | skip
        try refine And.intro (by omega) ?_
        refine (hI _ _).2 ⟨?_, ?_, ?_, ?_, ?_, ?_, ?_⟩
        · exact hg ⟨by first | assumption | (cases kn <;> simp_all), by omega, by omega, by omega⟩
        all_goals first | with_reducible rfl | (simp -implicitDefEqProofs (disch := omega) only [h1, h2, h10, h11, h12, hh2_0, List.map_append, go_sem, ↓reduceIte, Nat.reduceAdd, Nat.reduceSub, Nat.reduceEqDiff, Nat.reduceLeDiff, reduceCtorEq]; first | done | rfl | (simp; done) | (congr 2; omega) | (congr 1; omega) | (congr 3; omega) | (simp; omega) | (congr 2; simp; omega) | (refine ⟨_, rfl, ?_⟩; first | rfl | (simp -implicitDefEqProofs (disch := omega) only [h1, h2, h10, h11, h12, hh2_0, List.map_append, go_sem, ↓reduceIte, Nat.reduceAdd, Nat.reduceSub, Nat.reduceEqDiff, Nat.reduceLeDiff, reduceCtorEq]; done))) | rfl | omega | (congr 2; omega)
      · rw [ascAt_zero hk0] at hg hb'
        rw [hkn] at hfi hg hb'
        simp -implicitDefEqProofs (disch := omega) only [h1, h2, h10, h11, h12, hh2_0, hlt, hm, hfi, hin, hk0, go_sem, ↓reduceIte, Nat.reduceAdd, Nat.reduceSub, Nat.reduceEqDiff, Nat.reduceLeDiff, reduceCtorEq]
        repeat' ((first | refine wp_grn_d (fun hb => ?_) (fun hb => ?_) | refine wp_gtn_d (fun hb => ?_) (fun hb => ?_) | refine wp_gr_d (fun hb => ?_) (fun hb => ?_) | refine wp_gt_d (fun hb => ?_) (fun hb => ?_) | refine wp_gr (fun hb => ?_) (fun hb => ?_) | refine wp_gt (fun hb => ?_) (fun hb => ?_) | refine wp_nt_d (fun hb => ?_) (fun hb => ?_) | refine wp_nt (fun hb => ?_) (fun hb => ?_) | refine wp_if_d (fun hb => ?_) (fun hb => ?_) | refine wp_if (fun hb => ?_) (fun hb => ?_)) <;> simp -implicitDefEqProofs (disch := omega) only [hb, h1, h2, h10, h11, h12, hh2_0, hlt, hm, hfi, hin, hk0, go_sem, ↓reduceIte, Nat.reduceAdd, Nat.reduceSub, Nat.reduceEqDiff, Nat.reduceLeDiff, reduceCtorEq])
        all_goals first
          | (rw [hb' (by first | (rintro ⟨h1, h2, h3⟩; omega) | simp_all)]; done)
          | skip
        try refine And.intro (by omega) ?_
        refine (hI _ _).2 ⟨?_, ?_, ?_, ?_, ?_, ?_, ?_⟩
        · exact hg ⟨by first | assumption | (cases kn <;> simp_all), by omega, by omega⟩
        all_goals first | with_reducible rfl | (simp -implicitDefEqProofs (disch := omega) only [h1, h2, h10, h11, h12, hh2_0, List.map_append, go_sem, ↓reduceIte, Nat.reduceAdd, Nat.reduceSub, Nat.reduceEqDiff, Nat.reduceLeDiff, reduceCtorEq]; first | done | rfl | (simp; done) | (congr 2; omega) | (congr 1; omega) | (congr 3; omega) | (simp; omega) | (congr 2; simp; omega) | (refine ⟨_, rfl, ?_⟩; first | rfl | (simp -implicitDefEqProofs (disch := omega) only [h1, h2, h10, h11, h12, hh2_0, List.map_append, go_sem, ↓reduceIte, Nat.reduceAdd, Nat.reduceSub, Nat.reduceEqDiff, Nat.reduceLeDiff, reduceCtorEq]; done))) | rfl | omega | (congr 2; omega)
    · have hT := asc_end hq (by omega)
      simp -implicitDefEqProofs (disch := omega) only [h1, h2, h10, h11, h12, hh2_0, hge, hT, go_sem, ↓reduceIte, Nat.reduceAdd, Nat.reduceSub, Nat.reduceEqDiff, Nat.reduceLeDiff, reduceCtorEq]

set_option maxHeartbeats 1000000 in
theorem icheck_eq (t : Tr) (l : List Ch) (hf : t.Fits) (hn : t.nodes.length < 1000000) (hl : l.length < 1000000) : V 86 [t.vv, .p (chsP l)] [] = some (.p (.bool (checkA t l)), []) := by
  refine V_wp (vf := vf86) rfl ?_
  have hc := tcheck_eq t hf hn
  unfold checkA
  cases ht : treeOk t with
  | false =>
    rw [ht] at hc
    simp -implicitDefEqProofs (disch := omega) only [vf86, vb86, hc, Bool.false_and, go_sem, ↓reduceIte, Nat.reduceAdd, Nat.reduceSub, Nat.reduceEqDiff, Nat.reduceLeDiff, reduceCtorEq]
  | true =>
    rw [ht] at hc
    rw [Bool.true_and]
    simp -implicitDefEqProofs (disch := omega) only [vf86, vb86, hc, go_sem, ↓reduceIte, Nat.reduceAdd, Nat.reduceSub, Nat.reduceEqDiff, Nat.reduceLeDiff, reduceCtorEq]
    obtain ⟨I, hI⟩ : ∃ I : Nat → St → Prop, ∀ k s, I k s ↔ ascOk (knownN t.nodes) 0 1152921504606846976 none l = ascOk (knownN t.nodes) 0 1152921504606846976 (prevG l k) (l.drop k) ∧ s.pe 1 = .p (chsP l) ∧ s.pe 2 = .ptr (.slot 2 0) 0 0 ∧ s.pe 10 = .p (chsP l) ∧ s.pe 11 = .p (.int .i64 l.length) ∧ s.pe 12 = .p (.int .i64 k) ∧ s.h (.slot 2 0) = some (0, .box [.p (nodesP t.nodes), .p (.int .i64 t.next)]) := ⟨_, fun _ _ => Iff.rfl⟩
    refine wp_count (l.length) I ?_ ?_
    · refine (hI _ _).2 ⟨?_, ?_, ?_, ?_, ?_, ?_, ?_⟩
      · exact by first | rfl | omega | (simp; done) | (simp; omega)
      all_goals first | with_reducible rfl | (simp -implicitDefEqProofs (disch := omega) only [h1, h2, h10, h11, h12, hh2_0, List.map_append, go_sem, ↓reduceIte, Nat.reduceAdd, Nat.reduceSub, Nat.reduceEqDiff, Nat.reduceLeDiff, reduceCtorEq]; first | done | rfl | (simp; done) | (congr 2; omega) | (congr 1; omega) | (congr 3; omega) | (simp; omega) | (congr 2; simp; omega) | (refine ⟨_, rfl, ?_⟩; first | rfl | (simp -implicitDefEqProofs (disch := omega) only [h1, h2, h10, h11, h12, hh2_0, List.map_append, go_sem, ↓reduceIte, Nat.reduceAdd, Nat.reduceSub, Nat.reduceEqDiff, Nat.reduceLeDiff, reduceCtorEq]; done))) | rfl | omega | (congr 2; omega)
    intro k s hk hIk
    obtain ⟨hq, h1, h2, h10, h11, h12, hh2_0⟩ := (hI _ _).1 hIk
    clear hIk
    simp -implicitDefEqProofs (disch := omega) only [h1, h2, h10, h11, h12, hh2_0, go_sem, ↓reduceIte, Nat.reduceAdd, Nat.reduceSub, Nat.reduceEqDiff, Nat.reduceLeDiff, reduceCtorEq]
    refine wp_if_d (fun hlt => ?_) (fun hge => ?_)
    · have hm : l[k]? = some l[k] := List.getElem?_eq_getElem hlt
      generalize l[k] = c at hm
      have hg := asc_good hq hm
      have hb' := asc_bad hq hm
      have hfi := known_eq t c.group hn
      have hin := in_eq c.own 0 1152921504606846976
      obtain ⟨kn, hkn⟩ : ∃ kn, knownN t.nodes c.group = kn := ⟨_, rfl⟩
      by_cases hk0 : (0 : Int) < k
      · obtain ⟨e, he, he'⟩ := prev_at hm hk0
        have hk1 : (0 : Int) ≤ (k : Int) - 1 := by omega
        rw [ascAt_succ hk0 he] at hg hb'
        rw [hkn] at hfi hg hb'
        simp -implicitDefEqProofs (disch := omega) only [h1, h2, h10, h11, h12, hh2_0, hlt, hm, hfi, hin, hk0, hk1, he', go_sem, ↓reduceIte, Nat.reduceAdd, Nat.reduceSub, Nat.reduceEqDiff, Nat.reduceLeDiff, reduceCtorEq]
        repeat' ((first | refine wp_grn_d (fun hb => ?_) (fun hb => ?_) | refine wp_gtn_d (fun hb => ?_) (fun hb => ?_) | refine wp_gr_d (fun hb => ?_) (fun hb => ?_) | refine wp_gt_d (fun hb => ?_) (fun hb => ?_) | refine wp_gr (fun hb => ?_) (fun hb => ?_) | refine wp_gt (fun hb => ?_) (fun hb => ?_) | refine wp_nt_d (fun hb => ?_) (fun hb => ?_) | refine wp_nt (fun hb => ?_) (fun hb => ?_) | refine wp_if_d (fun hb => ?_) (fun hb => ?_) | refine wp_if (fun hb => ?_) (fun hb => ?_)) <;> simp -implicitDefEqProofs (disch := omega) only [hb, h1, h2, h10, h11, h12, hh2_0, hlt, hm, hfi, hin, hk0, hk1, he', go_sem, ↓reduceIte, Nat.reduceAdd, Nat.reduceSub, Nat.reduceEqDiff, Nat.reduceLeDiff, reduceCtorEq])
        all_goals first
          | (rw [hb' (by first | (rintro ⟨h1, h2, h3, h4⟩; omega) | simp_all)]; done)
          | skip
        try refine And.intro (by omega) ?_
        refine (hI _ _).2 ⟨?_, ?_, ?_, ?_, ?_, ?_, ?_⟩
        · exact hg ⟨by first | assumption | (cases kn <;> simp_all), by omega, by omega, by omega⟩
        all_goals first | with_reducible rfl | (simp -implicitDefEqProofs (disch := omega) only [h1, h2, h10, h11, h12, hh2_0, List.map_append, go_sem, ↓reduceIte, Nat.reduceAdd, Nat.reduceSub, Nat.reduceEqDiff, Nat.reduceLeDiff, reduceCtorEq]; first | done | rfl | (simp; done) | (congr 2; omega) | (congr 1; omega) | (congr 3; omega) | (simp; omega) | (congr 2; simp; omega) | (refine ⟨_, rfl, ?_⟩; first | rfl | (simp -implicitDefEqProofs (disch := omega) only [h1, h2, h10, h11, h12, hh2_0, List.map_append, go_sem, ↓reduceIte, Nat.reduceAdd, Nat.reduceSub, Nat.reduceEqDiff, Nat.reduceLeDiff, reduceCtorEq]; done))) | rfl | omega | (congr 2; omega)
      · rw [ascAt_zero hk0] at hg hb'
        rw [hkn] at hfi hg hb'
        simp -implicitDefEqProofs (disch := omega) only [h1, h2, h10, h11, h12, hh2_0, hlt, hm, hfi, hin, hk0, go_sem, ↓reduceIte, Nat.reduceAdd, Nat.reduceSub, Nat.reduceEqDiff, Nat.reduceLeDiff, reduceCtorEq]
        repeat' ((first | refine wp_grn_d (fun hb => ?_) (fun hb => ?_) | refine wp_gtn_d (fun hb => ?_) (fun hb => ?_) | refine wp_gr_d (fun hb => ?_) (fun hb => ?_) | refine wp_gt_d (fun hb => ?_) (fun hb => ?_) | refine wp_gr (fun hb => ?_) (fun hb => ?_) | refine wp_gt (fun hb => ?_) (fun hb => ?_) | refine wp_nt_d (fun hb => ?_) (fun hb => ?_) | refine wp_nt (fun hb => ?_) (fun hb => ?_) | refine wp_if_d (fun hb => ?_) (fun hb => ?_) | refine wp_if (fun hb => ?_) (fun hb => ?_)) <;> simp -implicitDefEqProofs (disch := omega) only [hb, h1, h2, h10, h11, h12, hh2_0, hlt, hm, hfi, hin, hk0, go_sem, ↓reduceIte, Nat.reduceAdd, Nat.reduceSub, Nat.reduceEqDiff, Nat.reduceLeDiff, reduceCtorEq])
        all_goals first
          | (rw [hb' (by first | (rintro ⟨h1, h2, h3⟩; omega) | simp_all)]; done)
          | skip
        try refine And.intro (by omega) ?_
        refine (hI _ _).2 ⟨?_, ?_, ?_, ?_, ?_, ?_, ?_⟩
        · exact hg ⟨by first | assumption | (cases kn <;> simp_all), by omega, by omega⟩
        all_goals first | with_reducible rfl | (simp -implicitDefEqProofs (disch := omega) only [h1, h2, h10, h11, h12, hh2_0, List.map_append, go_sem, ↓reduceIte, Nat.reduceAdd, Nat.reduceSub, Nat.reduceEqDiff, Nat.reduceLeDiff, reduceCtorEq]; first | done | rfl | (simp; done) | (congr 2; omega) | (congr 1; omega) | (congr 3; omega) | (simp; omega) | (congr 2; simp; omega) | (refine ⟨_, rfl, ?_⟩; first | rfl | (simp -implicitDefEqProofs (disch := omega) only [h1, h2, h10, h11, h12, hh2_0, List.map_append, go_sem, ↓reduceIte, Nat.reduceAdd, Nat.reduceSub, Nat.reduceEqDiff, Nat.reduceLeDiff, reduceCtorEq]; done))) | rfl | omega | (congr 2; omega)
    · have hT := asc_end hq (by omega)
      simp -implicitDefEqProofs (disch := omega) only [h1, h2, h10, h11, h12, hh2_0, hge, hT, go_sem, ↓reduceIte, Nat.reduceAdd, Nat.reduceSub, Nat.reduceEqDiff, Nat.reduceLeDiff, reduceCtorEq]

theorem wtOf_drop {l : List Ch} {k : Nat} {c : Ch} {id : Int} (hm : l[k]? = some c) (h : wtOf l id = wtOf (l.drop k) id) : wtOf l id = if c.group = id then c.own else wtOf (l.drop (k + 1)) id := by
  have hl := (List.getElem?_eq_some_iff.1 hm).1
  rw [h, List.drop_eq_getElem_cons hl]
  rw [List.getElem?_eq_getElem hl] at hm
  cases hm
  rfl

theorem ownC_drop {l : List Ch} {k : Nat} {c : Ch} {id : Int} (hm : l[k]? = some c) (h : ownC l id = ownC (l.drop k) id) : ownC l id = if c.group = id then c.own else ownC (l.drop (k + 1)) id := by
  have hl := (List.getElem?_eq_some_iff.1 hm).1
  rw [h, List.drop_eq_getElem_cons hl]
  rw [List.getElem?_eq_getElem hl] at hm
  cases hm
  rfl

theorem wt_eq (l : List Ch) (id : Int) (hl : l.length < 1000000) : V 129 [.p (chsP l), .p (.int .i64 id)] [] = some (.p (.int .i64 (wtOf l id)), []) := by
  refine V_wp (vf := vf129) rfl ?_
  simp -implicitDefEqProofs (disch := omega) only [vf129, vb129, go_sem, ↓reduceIte, Nat.reduceAdd, Nat.reduceSub, Nat.reduceEqDiff, Nat.reduceLeDiff, reduceCtorEq]
  obtain ⟨I, hI⟩ : ∃ I : Nat → St → Prop, ∀ k s, I k s ↔ wtOf l id = wtOf (l.drop k) id ∧ s.pe 1 = .p (.int .i64 id) ∧ s.pe 7 = .p (chsP l) ∧ s.pe 8 = .p (.int .i64 ↑l.length) ∧ s.pe 9 = .p (.int .i64 k) := ⟨_, fun _ _ => Iff.rfl⟩
  refine wp_count (l.length) I ?_ ?_
  · refine (hI _ _).2 ⟨?_, ?_, ?_, ?_, ?_⟩
    · exact by first | rfl | omega | (simp; done) | (simp; omega)
    all_goals first | with_reducible rfl | (simp -implicitDefEqProofs (disch := omega) only [h1, h2, h10, h11, h12, hh2_0, List.map_append, go_sem, ↓reduceIte, Nat.reduceAdd, Nat.reduceSub, Nat.reduceEqDiff, Nat.reduceLeDiff, reduceCtorEq]; first | done | rfl | (simp; done) | (congr 2; omega) | (congr 1; omega) | (congr 3; omega) | (simp; omega) | (congr 2; simp; omega) | (refine ⟨_, rfl, ?_⟩; first | rfl | (simp -implicitDefEqProofs (disch := omega) only [h1, h2, h10, h11, h12, hh2_0, List.map_append, go_sem, ↓reduceIte, Nat.reduceAdd, Nat.reduceSub, Nat.reduceEqDiff, Nat.reduceLeDiff, reduceCtorEq]; done))) | rfl | omega | (congr 2; omega)
  intro k s hk hIk
  obtain ⟨hq, h1, h7, h8, h9⟩ := (hI _ _).1 hIk
  clear hIk
  simp -implicitDefEqProofs (disch := omega) only [h1, h7, h8, h9, go_sem, ↓reduceIte, Nat.reduceAdd, Nat.reduceSub, Nat.reduceEqDiff, Nat.reduceLeDiff, reduceCtorEq]
  refine wp_if_d (fun hlt => ?_) (fun hge => ?_)
  · have hm : l[k]? = some l[k] := List.getElem?_eq_getElem hlt
    generalize l[k] = c at hm
    have hst := wtOf_drop hm hq
    by_cases hp : c.group = id
    · rw [if_pos hp] at hst
      simp -implicitDefEqProofs (disch := omega) only [h1, h7, h8, h9, hlt, hm, hp, hst, go_sem, ↓reduceIte, Nat.reduceAdd, Nat.reduceSub, Nat.reduceEqDiff, Nat.reduceLeDiff, reduceCtorEq]
    · rw [if_neg hp] at hst
      simp -implicitDefEqProofs (disch := omega) only [h1, h7, h8, h9, hlt, hm, hp, go_sem, ↓reduceIte, Nat.reduceAdd, Nat.reduceSub, Nat.reduceEqDiff, Nat.reduceLeDiff, reduceCtorEq]
      try refine And.intro (by omega) ?_
      refine (hI _ _).2 ⟨?_, ?_, ?_, ?_, ?_⟩
      · exact hst
      all_goals first | with_reducible rfl | (simp -implicitDefEqProofs (disch := omega) only [h1, h7, h8, h9, List.map_append, go_sem, ↓reduceIte, Nat.reduceAdd, Nat.reduceSub, Nat.reduceEqDiff, Nat.reduceLeDiff, reduceCtorEq]; first | done | rfl | (simp; done) | (congr 2; omega) | (congr 1; omega) | (congr 3; omega) | (simp; omega) | (congr 2; simp; omega) | (refine ⟨_, rfl, ?_⟩; first | rfl | (simp -implicitDefEqProofs (disch := omega) only [h1, h7, h8, h9, List.map_append, go_sem, ↓reduceIte, Nat.reduceAdd, Nat.reduceSub, Nat.reduceEqDiff, Nat.reduceLeDiff, reduceCtorEq]; done))) | rfl | omega | (congr 2; omega)
  · rw [List.drop_of_length_le (by omega)] at hq
    simp -implicitDefEqProofs (disch := omega) only [h1, h7, h8, h9, hge, hq, wtOf, go_sem, ↓reduceIte, Nat.reduceAdd, Nat.reduceSub, Nat.reduceEqDiff, Nat.reduceLeDiff, reduceCtorEq]

theorem rof_eq (l : List Ch) (id : Int) (hl : l.length < 1000000) : V 46 [.p (chsP l), .p (.int .i64 id)] [] = some (.p (.int .i64 (wtOf l id)), []) := by
  refine V_wp (vf := vf46) rfl ?_
  simp -implicitDefEqProofs (disch := omega) only [vf46, vb46, go_sem, ↓reduceIte, Nat.reduceAdd, Nat.reduceSub, Nat.reduceEqDiff, Nat.reduceLeDiff, reduceCtorEq]
  obtain ⟨I, hI⟩ : ∃ I : Nat → St → Prop, ∀ k s, I k s ↔ wtOf l id = wtOf (l.drop k) id ∧ s.pe 0 = .p (chsP l) ∧ s.pe 1 = .p (.int .i64 id) ∧ s.pe 5 = .p (.int .i64 k) := ⟨_, fun _ _ => Iff.rfl⟩
  refine wp_count (l.length) I ?_ ?_
  · refine (hI _ _).2 ⟨?_, ?_, ?_, ?_⟩
    · exact by first | rfl | omega | (simp; done) | (simp; omega)
    all_goals first | with_reducible rfl | (simp -implicitDefEqProofs (disch := omega) only [h1, h7, h8, h9, List.map_append, go_sem, ↓reduceIte, Nat.reduceAdd, Nat.reduceSub, Nat.reduceEqDiff, Nat.reduceLeDiff, reduceCtorEq]; first | done | rfl | (simp; done) | (congr 2; omega) | (congr 1; omega) | (congr 3; omega) | (simp; omega) | (congr 2; simp; omega) | (refine ⟨_, rfl, ?_⟩; first | rfl | (simp -implicitDefEqProofs (disch := omega) only [h1, h7, h8, h9, List.map_append, go_sem, ↓reduceIte, Nat.reduceAdd, Nat.reduceSub, Nat.reduceEqDiff, Nat.reduceLeDiff, reduceCtorEq]; done))) | rfl | omega | (congr 2; omega)
  intro k s hk hIk
  obtain ⟨hq, h0, h1, h5⟩ := (hI _ _).1 hIk
  clear hIk
  simp -implicitDefEqProofs (disch := omega) only [h0, h1, h5, go_sem, ↓reduceIte, Nat.reduceAdd, Nat.reduceSub, Nat.reduceEqDiff, Nat.reduceLeDiff, reduceCtorEq]
  refine wp_if_d (fun hlt => ?_) (fun hge => ?_)
  · have hm : l[k]? = some l[k] := List.getElem?_eq_getElem hlt
    generalize l[k] = c at hm
    have hst := wtOf_drop hm hq
    by_cases hp : c.group = id
    · rw [if_pos hp] at hst
      simp -implicitDefEqProofs (disch := omega) only [h0, h1, h5, hlt, hm, hp, hst, go_sem, ↓reduceIte, Nat.reduceAdd, Nat.reduceSub, Nat.reduceEqDiff, Nat.reduceLeDiff, reduceCtorEq]
    · rw [if_neg hp] at hst
      simp -implicitDefEqProofs (disch := omega) only [h0, h1, h5, hlt, hm, hp, go_sem, ↓reduceIte, Nat.reduceAdd, Nat.reduceSub, Nat.reduceEqDiff, Nat.reduceLeDiff, reduceCtorEq]
      try refine And.intro (by omega) ?_
      refine (hI _ _).2 ⟨?_, ?_, ?_, ?_⟩
      · exact hst
      all_goals first | with_reducible rfl | (simp -implicitDefEqProofs (disch := omega) only [h0, h1, h5, List.map_append, go_sem, ↓reduceIte, Nat.reduceAdd, Nat.reduceSub, Nat.reduceEqDiff, Nat.reduceLeDiff, reduceCtorEq]; first | done | rfl | (simp; done) | (congr 2; omega) | (congr 1; omega) | (congr 3; omega) | (simp; omega) | (congr 2; simp; omega) | (refine ⟨_, rfl, ?_⟩; first | rfl | (simp -implicitDefEqProofs (disch := omega) only [h0, h1, h5, List.map_append, go_sem, ↓reduceIte, Nat.reduceAdd, Nat.reduceSub, Nat.reduceEqDiff, Nat.reduceLeDiff, reduceCtorEq]; done))) | rfl | omega | (congr 2; omega)
  · rw [List.drop_of_length_le (by omega)] at hq
    simp -implicitDefEqProofs (disch := omega) only [h0, h1, h5, hge, hq, wtOf, go_sem, ↓reduceIte, Nat.reduceAdd, Nat.reduceSub, Nat.reduceEqDiff, Nat.reduceLeDiff, reduceCtorEq]

theorem get_eq (l : List Ch) (id : Int) (hl : l.length < 1000000) : V 62 [.p (chsP l), .p (.int .i64 id)] [] = some (.p (.int .i64 (ownC l id)), []) := by
  refine V_wp (vf := vf62) rfl ?_
  simp -implicitDefEqProofs (disch := omega) only [vf62, vb62, go_sem, ↓reduceIte, Nat.reduceAdd, Nat.reduceSub, Nat.reduceEqDiff, Nat.reduceLeDiff, reduceCtorEq]
  obtain ⟨I, hI⟩ : ∃ I : Nat → St → Prop, ∀ k s, I k s ↔ ownC l id = ownC (l.drop k) id ∧ s.pe 1 = .p (.int .i64 id) ∧ s.pe 7 = .p (chsP l) ∧ s.pe 8 = .p (.int .i64 ↑l.length) ∧ s.pe 9 = .p (.int .i64 k) := ⟨_, fun _ _ => Iff.rfl⟩
  refine wp_count (l.length) I ?_ ?_
  · refine (hI _ _).2 ⟨?_, ?_, ?_, ?_, ?_⟩
    · exact by first | rfl | omega | (simp; done) | (simp; omega)
    all_goals first | with_reducible rfl | (simp -implicitDefEqProofs (disch := omega) only [h0, h1, h5, List.map_append, go_sem, ↓reduceIte, Nat.reduceAdd, Nat.reduceSub, Nat.reduceEqDiff, Nat.reduceLeDiff, reduceCtorEq]; first | done | rfl | (simp; done) | (congr 2; omega) | (congr 1; omega) | (congr 3; omega) | (simp; omega) | (congr 2; simp; omega) | (refine ⟨_, rfl, ?_⟩; first | rfl | (simp -implicitDefEqProofs (disch := omega) only [h0, h1, h5, List.map_append, go_sem, ↓reduceIte, Nat.reduceAdd, Nat.reduceSub, Nat.reduceEqDiff, Nat.reduceLeDiff, reduceCtorEq]; done))) | rfl | omega | (congr 2; omega)
  intro k s hk hIk
  obtain ⟨hq, h1, h7, h8, h9⟩ := (hI _ _).1 hIk
  clear hIk
  simp -implicitDefEqProofs (disch := omega) only [h1, h7, h8, h9, go_sem, ↓reduceIte, Nat.reduceAdd, Nat.reduceSub, Nat.reduceEqDiff, Nat.reduceLeDiff, reduceCtorEq]
  refine wp_if_d (fun hlt => ?_) (fun hge => ?_)
  · have hm : l[k]? = some l[k] := List.getElem?_eq_getElem hlt
    generalize l[k] = c at hm
    have hst := ownC_drop hm hq
    by_cases hp : c.group = id
    · rw [if_pos hp] at hst
      simp -implicitDefEqProofs (disch := omega) only [h1, h7, h8, h9, hlt, hm, hp, hst, go_sem, ↓reduceIte, Nat.reduceAdd, Nat.reduceSub, Nat.reduceEqDiff, Nat.reduceLeDiff, reduceCtorEq]
    · rw [if_neg hp] at hst
      simp -implicitDefEqProofs (disch := omega) only [h1, h7, h8, h9, hlt, hm, hp, go_sem, ↓reduceIte, Nat.reduceAdd, Nat.reduceSub, Nat.reduceEqDiff, Nat.reduceLeDiff, reduceCtorEq]
      try refine And.intro (by omega) ?_
      refine (hI _ _).2 ⟨?_, ?_, ?_, ?_, ?_⟩
      · exact hst
      all_goals first | with_reducible rfl | (simp -implicitDefEqProofs (disch := omega) only [h1, h7, h8, h9, List.map_append, go_sem, ↓reduceIte, Nat.reduceAdd, Nat.reduceSub, Nat.reduceEqDiff, Nat.reduceLeDiff, reduceCtorEq]; first | done | rfl | (simp; done) | (congr 2; omega) | (congr 1; omega) | (congr 3; omega) | (simp; omega) | (congr 2; simp; omega) | (refine ⟨_, rfl, ?_⟩; first | rfl | (simp -implicitDefEqProofs (disch := omega) only [h1, h7, h8, h9, List.map_append, go_sem, ↓reduceIte, Nat.reduceAdd, Nat.reduceSub, Nat.reduceEqDiff, Nat.reduceLeDiff, reduceCtorEq]; done))) | rfl | omega | (congr 2; omega)
  · rw [List.drop_of_length_le (by omega)] at hq
    simp -implicitDefEqProofs (disch := omega) only [h1, h7, h8, h9, hge, hq, ownC, go_sem, ↓reduceIte, Nat.reduceAdd, Nat.reduceSub, Nat.reduceEqDiff, Nat.reduceLeDiff, reduceCtorEq]

theorem isame_eq (a b : List Ch) (hl : a.length < 1000000) : V 81 [.p (chsP a), .p (chsP b)] [] = some (.p (.bool (decide (a = b))), []) := by
  refine V_wp (vf := vf81) rfl ?_
  by_cases he : a.length = b.length
  · have he' : ((a.length : Int) = b.length) := by omega
    simp -implicitDefEqProofs (disch := omega) only [vf81, vb81, he', go_sem, ↓reduceIte, Nat.reduceAdd, Nat.reduceSub, Nat.reduceEqDiff, Nat.reduceLeDiff, reduceCtorEq]
    obtain ⟨I, hI⟩ : ∃ I : Nat → St → Prop, ∀ k s, I k s ↔ a.take k = b.take k ∧ s.pe 0 = .p (chsP a) ∧ s.pe 1 = .p (chsP b) ∧ s.pe 5 = .p (.int .i64 k) := ⟨_, fun _ _ => Iff.rfl⟩
    refine wp_count (a.length) I ?_ ?_
    · refine (hI _ _).2 ⟨?_, ?_, ?_, ?_⟩
      · exact by first | rfl | omega | (simp; done) | (simp; omega)
      all_goals first | with_reducible rfl | (simp -implicitDefEqProofs (disch := omega) only [h1, h7, h8, h9, List.map_append, go_sem, ↓reduceIte, Nat.reduceAdd, Nat.reduceSub, Nat.reduceEqDiff, Nat.reduceLeDiff, reduceCtorEq]; first | done | rfl | (simp; done) | (congr 2; omega) | (congr 1; omega) | (congr 3; omega) | (simp; omega) | (congr 2; simp; omega) | (refine ⟨_, rfl, ?_⟩; first | rfl | (simp -implicitDefEqProofs (disch := omega) only [h1, h7, h8, h9, List.map_append, go_sem, ↓reduceIte, Nat.reduceAdd, Nat.reduceSub, Nat.reduceEqDiff, Nat.reduceLeDiff, reduceCtorEq]; done))) | rfl | omega | (congr 2; omega)
    intro k s hk hIk
    obtain ⟨ht, h0, h1, h5⟩ := (hI _ _).1 hIk
    clear hIk
    simp -implicitDefEqProofs (disch := omega) only [h0, h1, h5, go_sem, ↓reduceIte, Nat.reduceAdd, Nat.reduceSub, Nat.reduceEqDiff, Nat.reduceLeDiff, reduceCtorEq]
    refine wp_if_d (fun hlt => ?_) (fun hge => ?_)
    · have ha : a[k]? = some a[k] := List.getElem?_eq_getElem hlt
      have hb : b[k]? = some b[k] := List.getElem?_eq_getElem (by omega)
      generalize a[k] = c at ha
      generalize b[k] = d at hb
      by_cases hcd : c = d
      · subst hcd
        simp -implicitDefEqProofs (disch := omega) only [h0, h1, h5, hlt, ha, hb, go_sem, ↓reduceIte, Nat.reduceAdd, Nat.reduceSub, Nat.reduceEqDiff, Nat.reduceLeDiff, reduceCtorEq]
        try refine And.intro (by omega) ?_
        refine (hI _ _).2 ⟨?_, ?_, ?_, ?_⟩
        · exact by rw [List.take_add_one, List.take_add_one, ha, hb, ht]
        all_goals first | with_reducible rfl | (simp -implicitDefEqProofs (disch := omega) only [h0, h1, h5, List.map_append, go_sem, ↓reduceIte, Nat.reduceAdd, Nat.reduceSub, Nat.reduceEqDiff, Nat.reduceLeDiff, reduceCtorEq]; first | done | rfl | (simp; done) | (congr 2; omega) | (congr 1; omega) | (congr 3; omega) | (simp; omega) | (congr 2; simp; omega) | (refine ⟨_, rfl, ?_⟩; first | rfl | (simp -implicitDefEqProofs (disch := omega) only [h0, h1, h5, List.map_append, go_sem, ↓reduceIte, Nat.reduceAdd, Nat.reduceSub, Nat.reduceEqDiff, Nat.reduceLeDiff, reduceCtorEq]; done))) | rfl | omega | (congr 2; omega)
      · have hne : ¬ a = b := by
          intro hab
          subst hab
          rw [ha] at hb
          cases hb
          exact hcd rfl
        have hx := ch_ne hcd
        simp -implicitDefEqProofs (disch := omega) only [h0, h1, h5, hlt, ha, hb, hx, hne, decide_false, go_sem, ↓reduceIte, Nat.reduceAdd, Nat.reduceSub, Nat.reduceEqDiff, Nat.reduceLeDiff, reduceCtorEq]
    · have hab : a = b := by
        rw [List.take_of_length_le (by omega), List.take_of_length_le (by omega)] at ht
        exact ht
      simp -implicitDefEqProofs (disch := omega) only [h0, h1, h5, hge, hab, decide_true, go_sem, ↓reduceIte, Nat.reduceAdd, Nat.reduceSub, Nat.reduceEqDiff, Nat.reduceLeDiff, reduceCtorEq]
  · have he' : ¬ ((a.length : Int) = b.length) := by omega
    have hne : ¬ a = b := fun h => he (by rw [h])
    simp -implicitDefEqProofs (disch := omega) only [vf81, vb81, he', hne, decide_false, go_sem, ↓reduceIte, Nat.reduceAdd, Nat.reduceSub, Nat.reduceEqDiff, Nat.reduceLeDiff, reduceCtorEq]


def putA (a : List Ch) (id v : Int) : List Ch := withGo id v false a
set_option maxHeartbeats 1000000 in
theorem iput_eq (l : List Ch) (id v : Int) (hl : l.length < 1000000) : V 88 [.p (chsP l), .p (.int .i64 id), .p (.int .i64 v)] [] = some (.fresh 2 ((putA l id v).map Ch.pv), []) := by
  refine V_wp (vf := vf88) rfl ?_
  unfold putA
  simp -implicitDefEqProofs (disch := omega) only [vf88, vb88, go_sem, ↓reduceIte, Nat.reduceAdd, Nat.reduceSub, Nat.reduceEqDiff, Nat.reduceLeDiff, reduceCtorEq]
  obtain ⟨I, hI⟩ : ∃ I : Nat → St → Prop, ∀ k s, I k s ↔ ∃ (acc : List Ch) (d : Bool) (w : Nat), withGo id v false l = acc ++ withGo id v d (l.drop k) ∧ acc.length ≤ 2 * k ∧ s.pe 1 = .p (.int .i64 id) ∧ s.pe 2 = .p (.int .i64 v) ∧ s.pe 7 = .own (.slot 7 0) w 0 acc.length ∧ s.pe 8 = .p (.bool d) ∧ s.pe 11 = .p (chsP l) ∧ s.pe 12 = .p (.int .i64 l.length) ∧ s.pe 13 = .p (.int .i64 k) ∧ s.h (.slot 7 0) = some (w, Ob.arr 2 (acc.map Ch.pv)) := ⟨_, fun _ _ => Iff.rfl⟩
  refine wp_count (l.length) I ?_ ?_
  · refine (hI _ _).2 ⟨[], false, 0, ?_, ?_, ?_, ?_, ?_, ?_, ?_, ?_, ?_, ?_⟩
    · exact rfl
    · exact by first | rfl | omega | (simp; done) | (simp; omega)
    all_goals first | with_reducible rfl | (simp -implicitDefEqProofs (disch := omega) only [h0, h1, h5, List.map_append, go_sem, ↓reduceIte, Nat.reduceAdd, Nat.reduceSub, Nat.reduceEqDiff, Nat.reduceLeDiff, reduceCtorEq]; first | done | rfl | (simp; done) | (congr 2; omega) | (congr 1; omega) | (congr 3; omega) | (simp; omega) | (congr 2; simp; omega) | (refine ⟨_, rfl, ?_⟩; first | rfl | (simp -implicitDefEqProofs (disch := omega) only [h0, h1, h5, List.map_append, go_sem, ↓reduceIte, Nat.reduceAdd, Nat.reduceSub, Nat.reduceEqDiff, Nat.reduceLeDiff, reduceCtorEq]; done))) | rfl | omega | (congr 2; omega)
  intro k s hk hIk
  obtain ⟨acc, d, w, hw, hal, h1, h2, h7, h8, h11, h12, h13, hh7_0⟩ := (hI _ _).1 hIk
  clear hIk
  simp -implicitDefEqProofs (disch := omega) only [h1, h2, h7, h8, h11, h12, h13, hh7_0, go_sem, ↓reduceIte, Nat.reduceAdd, Nat.reduceSub, Nat.reduceEqDiff, Nat.reduceLeDiff, reduceCtorEq]
  refine wp_if_d (fun hlt => ?_) (fun hge => ?_)
  · have hm : l[k]? = some l[k] := List.getElem?_eq_getElem hlt
    have hd : l.drop k = l[k] :: l.drop (k + 1) := List.drop_eq_getElem_cons hlt
    generalize l[k] = c at hm hd
    rw [hd, withGo] at hw
    cases d with
    | true =>
      by_cases he : c.group = id
      · simp only [he, Bool.not_true, Bool.false_and, Bool.false_eq_true, if_false, if_true, List.nil_append, List.append_nil, Bool.true_or] at hw
        simp -implicitDefEqProofs (disch := omega) only [h1, h2, h7, h8, h11, h12, h13, hh7_0, hlt, hm, he, go_sem, ↓reduceIte, Nat.reduceAdd, Nat.reduceSub, Nat.reduceEqDiff, Nat.reduceLeDiff, reduceCtorEq]
        try refine And.intro (by omega) ?_
        refine (hI _ _).2 ⟨acc, true, w, ?_, ?_, ?_, ?_, ?_, ?_, ?_, ?_, ?_, ?_⟩
        · exact hw
        · exact by omega
        all_goals first | with_reducible rfl | (simp -implicitDefEqProofs (disch := omega) only [h1, h2, h7, h8, h11, h12, h13, hh7_0, List.map_append, go_sem, ↓reduceIte, Nat.reduceAdd, Nat.reduceSub, Nat.reduceEqDiff, Nat.reduceLeDiff, reduceCtorEq]; first | done | rfl | (simp; done) | (congr 2; omega) | (congr 1; omega) | (congr 3; omega) | (simp; omega) | (congr 2; simp; omega) | (refine ⟨_, rfl, ?_⟩; first | rfl | (simp -implicitDefEqProofs (disch := omega) only [h1, h2, h7, h8, h11, h12, h13, hh7_0, List.map_append, go_sem, ↓reduceIte, Nat.reduceAdd, Nat.reduceSub, Nat.reduceEqDiff, Nat.reduceLeDiff, reduceCtorEq]; done))) | rfl | omega | (congr 2; omega)
      · simp only [he, Bool.not_true, Bool.false_and, Bool.false_eq_true, if_false, List.nil_append, Bool.true_or, ← List.append_assoc] at hw
        simp -implicitDefEqProofs (disch := omega) only [h1, h2, h7, h8, h11, h12, h13, hh7_0, hlt, hm, he, go_sem, ↓reduceIte, Nat.reduceAdd, Nat.reduceSub, Nat.reduceEqDiff, Nat.reduceLeDiff, reduceCtorEq]
        try refine And.intro (by omega) ?_
        refine (hI _ _).2 ⟨acc ++ [c], true, w + 1, ?_, ?_, ?_, ?_, ?_, ?_, ?_, ?_, ?_, ?_⟩
        · exact hw
        · exact by simp; omega
        all_goals first | with_reducible rfl | (simp -implicitDefEqProofs (disch := omega) only [h1, h2, h7, h8, h11, h12, h13, hh7_0, List.map_append, go_sem, ↓reduceIte, Nat.reduceAdd, Nat.reduceSub, Nat.reduceEqDiff, Nat.reduceLeDiff, reduceCtorEq]; first | done | rfl | (simp; done) | (congr 2; omega) | (congr 1; omega) | (congr 3; omega) | (simp; omega) | (congr 2; simp; omega) | (refine ⟨_, rfl, ?_⟩; first | rfl | (simp -implicitDefEqProofs (disch := omega) only [h1, h2, h7, h8, h11, h12, h13, hh7_0, List.map_append, go_sem, ↓reduceIte, Nat.reduceAdd, Nat.reduceSub, Nat.reduceEqDiff, Nat.reduceLeDiff, reduceCtorEq]; done))) | rfl | omega | (congr 2; omega)
    | false =>
      by_cases hge : id ≤ c.group
      · by_cases he : c.group = id
        · simp only [he, Int.le_refl, decide_true, Bool.not_false, Bool.and_self, if_true, List.append_nil, Bool.or_true, ← List.append_assoc] at hw
          simp -implicitDefEqProofs (disch := omega) only [h1, h2, h7, h8, h11, h12, h13, hh7_0, hlt, hm, hge, he, Int.le_refl, decide_true, go_sem, ↓reduceIte, Nat.reduceAdd, Nat.reduceSub, Nat.reduceEqDiff, Nat.reduceLeDiff, reduceCtorEq]
          try refine And.intro (by omega) ?_
          refine (hI _ _).2 ⟨acc ++ [⟨id, v⟩], true, w + 1, ?_, ?_, ?_, ?_, ?_, ?_, ?_, ?_, ?_, ?_⟩
          · exact hw
          · exact by simp; omega
          all_goals first | with_reducible rfl | (simp -implicitDefEqProofs (disch := omega) only [h1, h2, h7, h8, h11, h12, h13, hh7_0, List.map_append, go_sem, ↓reduceIte, Nat.reduceAdd, Nat.reduceSub, Nat.reduceEqDiff, Nat.reduceLeDiff, reduceCtorEq]; first | done | rfl | (simp; done) | (congr 2; omega) | (congr 1; omega) | (congr 3; omega) | (simp; omega) | (congr 2; simp; omega) | (refine ⟨_, rfl, ?_⟩; first | rfl | (simp -implicitDefEqProofs (disch := omega) only [h1, h2, h7, h8, h11, h12, h13, hh7_0, List.map_append, go_sem, ↓reduceIte, Nat.reduceAdd, Nat.reduceSub, Nat.reduceEqDiff, Nat.reduceLeDiff, reduceCtorEq]; done))) | rfl | omega | (congr 2; omega)
        · simp only [he, hge, decide_true, Bool.not_false, Bool.and_self, if_true, if_false, Bool.or_true, ← List.append_assoc] at hw
          simp -implicitDefEqProofs (disch := omega) only [h1, h2, h7, h8, h11, h12, h13, hh7_0, hlt, hm, hge, he, go_sem, ↓reduceIte, Nat.reduceAdd, Nat.reduceSub, Nat.reduceEqDiff, Nat.reduceLeDiff, reduceCtorEq]
          try refine And.intro (by omega) ?_
          refine (hI _ _).2 ⟨acc ++ [⟨id, v⟩] ++ [c], true, w + 1 + 1, ?_, ?_, ?_, ?_, ?_, ?_, ?_, ?_, ?_, ?_⟩
          · exact hw
          · exact by simp; omega
          all_goals first | with_reducible rfl | (simp -implicitDefEqProofs (disch := omega) only [h1, h2, h7, h8, h11, h12, h13, hh7_0, List.map_append, go_sem, ↓reduceIte, Nat.reduceAdd, Nat.reduceSub, Nat.reduceEqDiff, Nat.reduceLeDiff, reduceCtorEq]; first | done | rfl | (simp; done) | (congr 2; omega) | (congr 1; omega) | (congr 3; omega) | (simp; omega) | (congr 2; simp; omega) | (refine ⟨_, rfl, ?_⟩; first | rfl | (simp -implicitDefEqProofs (disch := omega) only [h1, h2, h7, h8, h11, h12, h13, hh7_0, List.map_append, go_sem, ↓reduceIte, Nat.reduceAdd, Nat.reduceSub, Nat.reduceEqDiff, Nat.reduceLeDiff, reduceCtorEq]; done))) | rfl | omega | (congr 2; omega)
      · have he : ¬ c.group = id := by omega
        simp only [he, hge, decide_false, Bool.not_false, Bool.and_false, Bool.false_eq_true, if_false, List.nil_append, Bool.or_false, ← List.append_assoc] at hw
        simp -implicitDefEqProofs (disch := omega) only [h1, h2, h7, h8, h11, h12, h13, hh7_0, hlt, hm, hge, he, go_sem, ↓reduceIte, Nat.reduceAdd, Nat.reduceSub, Nat.reduceEqDiff, Nat.reduceLeDiff, reduceCtorEq]
        try refine And.intro (by omega) ?_
        refine (hI _ _).2 ⟨acc ++ [c], false, w + 1, ?_, ?_, ?_, ?_, ?_, ?_, ?_, ?_, ?_, ?_⟩
        · exact hw
        · exact by simp; omega
        all_goals first | with_reducible rfl | (simp -implicitDefEqProofs (disch := omega) only [h1, h2, h7, h8, h11, h12, h13, hh7_0, List.map_append, go_sem, ↓reduceIte, Nat.reduceAdd, Nat.reduceSub, Nat.reduceEqDiff, Nat.reduceLeDiff, reduceCtorEq]; first | done | rfl | (simp; done) | (congr 2; omega) | (congr 1; omega) | (congr 3; omega) | (simp; omega) | (congr 2; simp; omega) | (refine ⟨_, rfl, ?_⟩; first | rfl | (simp -implicitDefEqProofs (disch := omega) only [h1, h2, h7, h8, h11, h12, h13, hh7_0, List.map_append, go_sem, ↓reduceIte, Nat.reduceAdd, Nat.reduceSub, Nat.reduceEqDiff, Nat.reduceLeDiff, reduceCtorEq]; done))) | rfl | omega | (congr 2; omega)
  · rw [List.drop_of_length_le (by omega), withGo] at hw
    cases d with
    | true =>
      simp only [if_true, List.append_nil] at hw
      simp -implicitDefEqProofs (disch := omega) only [h1, h2, h7, h8, h11, h12, h13, hh7_0, hge, go_sem, ↓reduceIte, Nat.reduceAdd, Nat.reduceSub, Nat.reduceEqDiff, Nat.reduceLeDiff, reduceCtorEq]
      rw [hw]
    | false =>
      simp only [Bool.false_eq_true, if_false] at hw
      simp -implicitDefEqProofs (disch := omega) only [h1, h2, h7, h8, h11, h12, h13, hh7_0, hge, go_sem, ↓reduceIte, Nat.reduceAdd, Nat.reduceSub, Nat.reduceEqDiff, Nat.reduceLeDiff, reduceCtorEq]
      rw [hw]
      simp [Ch.pv]


def mayA (t : Tr) (a : List Ch) (id now : Int) : Bool := checkA t a && knownN t.nodes id && decide (ownC a id ≤ now)
theorem may_eq (t : Tr) (a : List Ch) (id now : Int) (hf : t.Fits) (hn : t.nodes.length < 1000000) (hl : a.length < 1000000) : V 50 [t.vv, .p (chsP a), .p (.int .i64 id), .p (.int .i64 now)] [] = some (.p (.bool (mayA t a id now)), []) := by
  refine V_wp (vf := vf50) rfl ?_
  have h1 := icheck_eq t a hf hn hl
  have h2 := known_eq t id hn
  have h3 := get_eq a id hl
  unfold mayA
  cases hc : checkA t a with
  | false =>
    rw [hc] at h1
    simp -implicitDefEqProofs (disch := omega) only [vf50, vb50, h1, Bool.false_and, go_sem, ↓reduceIte, Nat.reduceAdd, Nat.reduceSub, Nat.reduceEqDiff, Nat.reduceLeDiff, reduceCtorEq]
  | true =>
    rw [hc] at h1
    cases hk : knownN t.nodes id with
    | false =>
      rw [hk] at h2
      simp -implicitDefEqProofs (disch := omega) only [vf50, vb50, h1, h2, Bool.false_and, Bool.true_and, go_sem, ↓reduceIte, Nat.reduceAdd, Nat.reduceSub, Nat.reduceEqDiff, Nat.reduceLeDiff, reduceCtorEq]
    | true =>
      rw [hk] at h2
      simp -implicitDefEqProofs (disch := omega) only [vf50, vb50, h1, h2, h3, Bool.true_and, go_sem, ↓reduceIte, Nat.reduceAdd, Nat.reduceSub, Nat.reduceEqDiff, Nat.reduceLeDiff, reduceCtorEq]

/-- What a request adds. -/
def issueV (a : List Ch) (id share cost now margin : Int) : Int := max (max (ownC a id) (now - margin)) 0 + (cost * 1073741824 + share - 1) / share
def IssueA (t : Tr) (a : List Ch) (id share cost now margin : Int) : List Ch × Int :=
  if checkA t a = true then
    (if knownN t.nodes id = true then
      (if (1 ≤ share ∧ share ≤ 1073741824) ∧ (1 ≤ cost ∧ cost ≤ 4294967296) ∧ (0 ≤ now ∧ now ≤ 576460752303423488) ∧ (0 ≤ margin ∧ margin ≤ 1073741824) then
        (if now < ownC a id then ([], 11) else if 1152921504606846976 < issueV a id share cost now margin then ([], 7) else (putA a id (issueV a id share cost now margin), 0))
       else ([], 3))
     else ([], 4))
  else ([], 1)

theorem ownC_asc {kn : Int → Bool} {lo hi : Int} {l : List Ch} (h : AscOk kn lo hi l) (h0 : lo ≤ 0) (h1 : 0 ≤ hi) (id : Int) : lo ≤ ownC l id ∧ ownC l id ≤ hi := by
  have hr := h.range
  clear h
  induction l with
  | nil => simp [ownC, h0, h1]
  | cons c l ih =>
    unfold ownC
    split
    · exact hr c (List.mem_cons_self ..)
    · exact ih fun d hd => hr d (List.mem_cons_of_mem _ hd)

set_option maxHeartbeats 2000000 in
theorem issue_eq (t : Tr) (a : List Ch) (id share cost now margin : Int) (hf : t.Fits) (hn : t.nodes.length < 1000000) (hl : a.length < 1000000) : V 49 [t.vv, .p (chsP a), .p (.int .i64 id), .p (.int .i64 share), .p (.int .i64 cost), .p (.int .i64 now), .p (.int .i64 margin)] [] = some (.tup [.fresh 2 ((IssueA t a id share cost now margin).1.map Ch.pv), .p (.int .i64 (IssueA t a id share cost now margin).2)], []) := by
  refine V_wp (vf := vf49) rfl ?_
  have h1 := icheck_eq t a hf hn hl
  have h2 := known_eq t id hn
  have h3 := get_eq a id hl
  have i1 := in_eq share 1 1073741824
  have i2 := in_eq cost 1 4294967296
  have i3 := in_eq now 0 576460752303423488
  have i4 := in_eq margin 0 1073741824
  unfold IssueA
  cases hc : checkA t a with
  | false =>
    rw [hc] at h1
    simp -implicitDefEqProofs (disch := omega) only [vf49, vb49, h1, go_sem, ↓reduceIte, Nat.reduceAdd, Nat.reduceSub, Nat.reduceEqDiff, Nat.reduceLeDiff, reduceCtorEq]
    try rfl
  | true =>
    rw [hc] at h1
    have hA : AscOk (knownN t.nodes) 0 1152921504606846976 a := (ascOk_iff _ _ _ _).1 (by
      unfold checkA at hc
      simp only [Bool.and_eq_true] at hc
      exact hc.2)
    have hown := ownC_asc hA (by omega) (by omega) id
    rw [if_pos rfl]
    cases hk : knownN t.nodes id with
    | false =>
      rw [hk] at h2
      simp -implicitDefEqProofs (disch := omega) only [vf49, vb49, h1, h2, go_sem, ↓reduceIte, Nat.reduceAdd, Nat.reduceSub, Nat.reduceEqDiff, Nat.reduceLeDiff, reduceCtorEq]
      try rfl
    | true =>
      rw [hk] at h2
      rw [if_pos rfl]
      by_cases c1 : 1 ≤ share ∧ share ≤ 1073741824
      · rw [decide_eq_true c1] at i1
        by_cases c2 : 1 ≤ cost ∧ cost ≤ 4294967296
        · rw [decide_eq_true c2] at i2
          by_cases c3 : 0 ≤ now ∧ now ≤ 576460752303423488
          · rw [decide_eq_true c3] at i3
            by_cases c4 : 0 ≤ margin ∧ margin ≤ 1073741824
            · rw [decide_eq_true c4] at i4
              rw [if_pos ⟨c1, c2, c3, c4⟩]
              have hp := iput_eq a id (issueV a id share cost now margin) hl
              have hnn : 0 ≤ cost * 1073741824 + share - 1 := by omega
              have hq := Int.tdiv_eq_ediv_of_nonneg (b := share) hnn
              have hq1 : (cost * 1073741824 + share - 1) / share ≤ cost * 1073741824 + share - 1 := Int.ediv_le_self _ hnn
              have hq0 : 0 ≤ (cost * 1073741824 + share - 1) / share := Int.ediv_nonneg hnn (by omega)
              unfold issueV at hp ⊢
              generalize ownC a id = o at h3 hown hp
              generalize (cost * 1073741824 + share - 1) / share = z at hq hq0 hq1 hp
              by_cases c5 : now < o
              · rw [if_pos c5]
                simp -implicitDefEqProofs (disch := omega) only [vf49, vb49, h1, h2, h3, i1, i2, i3, i4, c5, go_sem, ↓reduceIte, Nat.reduceAdd, Nat.reduceSub, Nat.reduceEqDiff, Nat.reduceLeDiff, reduceCtorEq]
                try rfl
              · rw [if_neg c5]
                have hw1 : IntKind.i64.wrap (cost * 1073741824) = cost * 1073741824 := wrap64 (by omega) (by omega)
                have hne : share ≠ 0 := by omega
                generalize hm : max (max o (now - margin)) 0 = M at hp
                have hM : 0 ≤ M ∧ M ≤ 1152921504606846976 := by omega
                by_cases c6 : 1152921504606846976 < M + z
                · rw [if_pos c6]
                  simp -implicitDefEqProofs (disch := omega) only [vf49, vb49, h1, h2, h3, i1, i2, i3, i4, c5, hw1, hne, hq, hm, c6, go_sem, ↓reduceIte, Nat.reduceAdd, Nat.reduceSub, Nat.reduceEqDiff, Nat.reduceLeDiff, reduceCtorEq]
                  try rfl
                · rw [if_neg c6]
                  generalize putA a id (M + z) = PA at hp
                  simp -implicitDefEqProofs (disch := omega) only [vf49, vb49, h1, h2, h3, i1, i2, i3, i4, c5, hw1, hne, hq, hm, c6, hp, go_sem, ↓reduceIte, Nat.reduceAdd, Nat.reduceSub, Nat.reduceEqDiff, Nat.reduceLeDiff, reduceCtorEq]
                  try rfl
            · rw [decide_eq_false c4] at i4
              rw [if_neg (fun h => c4 h.2.2.2)]
              simp -implicitDefEqProofs (disch := omega) only [vf49, vb49, h1, h2, i1, i2, i3, i4, go_sem, ↓reduceIte, Nat.reduceAdd, Nat.reduceSub, Nat.reduceEqDiff, Nat.reduceLeDiff, reduceCtorEq]
              try rfl
          · rw [decide_eq_false c3] at i3
            rw [if_neg (fun h => c3 h.2.2.1)]
            simp -implicitDefEqProofs (disch := omega) only [vf49, vb49, h1, h2, i1, i2, i3, go_sem, ↓reduceIte, Nat.reduceAdd, Nat.reduceSub, Nat.reduceEqDiff, Nat.reduceLeDiff, reduceCtorEq]
            try rfl
        · rw [decide_eq_false c2] at i2
          rw [if_neg (fun h => c2 h.2.1)]
          simp -implicitDefEqProofs (disch := omega) only [vf49, vb49, h1, h2, i1, i2, go_sem, ↓reduceIte, Nat.reduceAdd, Nat.reduceSub, Nat.reduceEqDiff, Nat.reduceLeDiff, reduceCtorEq]
          try rfl
      · rw [decide_eq_false c1] at i1
        rw [if_neg (fun h => c1 h.1)]
        simp -implicitDefEqProofs (disch := omega) only [vf49, vb49, h1, h2, i1, go_sem, ↓reduceIte, Nat.reduceAdd, Nat.reduceSub, Nat.reduceEqDiff, Nat.reduceLeDiff, reduceCtorEq]
        try rfl
end Go.V

