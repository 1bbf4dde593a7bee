/- The value machine V at work: all totals, groups above their limits; made limits. -/
import Derived.Test.YtcljahgcdbohaaaVKB
set_option linter.unusedSimpArgs false
set_option linter.unusedVariables false
namespace Go.V
-- closer: sumI

theorem filter_step {α : Type} {p : α → Bool} {l : List α} {k : Nat} {m : α} (hm : l[k]? = some m) : (l.take (k + 1)).filter p = if p m = true then (l.take k).filter p ++ [m] else (l.take k).filter p := by
  rw [List.take_add_one, hm]
  simp only [Option.toList, List.filter_append, List.filter_cons, List.filter_nil]
  split <;> simp
theorem filter_len {α : Type} {p : α → Bool} (l : List α) (k : Nat) : ((l.take k).filter p).length ≤ k := by
  have h1 := List.length_filter_le p (l.take k)
  rw [List.length_take] at h1
  omega

def totCh (t : Tr) (c : List Ch) (n : Nd) : Ch := ⟨n.id, tot t (ownC c) n.id⟩
def TotalsK (t : Tr) (c : List Ch) : List Ch × Int := if validK t c = true then ((t.nodes.filter fun n => decide (0 < tot t (ownC c) n.id)).map (totCh t c), 0) else ([], 1)

set_option maxHeartbeats 1000000 in
theorem totals_eq (t : Tr) (c : List Ch) (hf : t.Fits) (hn : t.nodes.length < 1000000) (hl : c.length < 1000000) : V 63 [t.vv, ctrV c] [] = some (.tup [.fresh 2 ((TotalsK t c).1.map Ch.pv), .p (.int .i64 (TotalsK t c).2)], []) := by
  refine V_wp (vf := vf63) rfl ?_
  have hv := kvalid_eq t c hf hn hl
  unfold TotalsK
  cases hvv : validK t c with
  | false =>
    rw [hvv] at hv
    simp -implicitDefEqProofs (disch := omega) only [vf63, vb63, hv, go_sem, ↓reduceIte, Nat.reduceAdd, Nat.reduceSub, Nat.reduceEqDiff, Nat.reduceLeDiff, reduceCtorEq]
    try rfl
  | true =>
    rw [hvv] at hv
    rw [if_pos rfl]
    obtain ⟨h1, h2⟩ := (validK_iff t c).1 hvv
    obtain ⟨ks, vs, hs, hg⟩ := sums_eq h1 h2 hn hl
    simp -implicitDefEqProofs (disch := omega) only [vf63, vb63, hv, hs, go_sem, ↓reduceIte, Nat.reduceAdd, Nat.reduceSub, Nat.reduceEqDiff, Nat.reduceLeDiff, reduceCtorEq]
    obtain ⟨I, hI⟩ : ∃ I : Nat → St → Prop, ∀ k s, I k s ↔ ∃ (acc : List Ch) (w : Nat), acc = ((t.nodes.take k).filter fun n => decide (0 < tot t (ownC c) n.id)).map (totCh t c) ∧ acc.length ≤ k ∧ s.pe 6 = .own (.slot 6 0) w 0 acc.length ∧ s.pe 7 = .p (PV.map (KT.int IntKind.i64) ks vs) ∧ s.pe 18 = .p (nodesP t.nodes) ∧ s.pe 19 = .p (.int .i64 ↑t.nodes.length) ∧ s.pe 20 = .p (.int .i64 k) ∧ s.h (.slot 6 0) = some (w, Ob.arr 2 (acc.map Ch.pv)) := ⟨_, fun _ _ => Iff.rfl⟩
    refine wp_count (t.nodes.length) I ?_ ?_
    · refine (hI _ _).2 ⟨[], 0, ?_, ?_, ?_, ?_, ?_, ?_, ?_, ?_⟩
      · exact by first | rfl | omega | (simp; done) | (simp; omega)
      · exact by first | rfl | omega | (simp; done) | (simp; omega)
      all_goals first | with_reducible rfl | (simp -implicitDefEqProofs (disch := omega) only [List.map_append, go_sem, ↓reduceIte, Nat.reduceAdd, Nat.reduceSub, Nat.reduceEqDiff, Nat.reduceLeDiff, reduceCtorEq]; done) | (simp -implicitDefEqProofs (disch := omega) only [List.map_append, go_sem, ↓reduceIte, Nat.reduceAdd, Nat.reduceSub, Nat.reduceEqDiff, Nat.reduceLeDiff, reduceCtorEq]; first | rfl | (simp; done) | (congr 2; omega) | (congr 1; omega) | (congr 3; omega) | (simp; omega) | (congr 2; simp; omega) | (simp [sumI]; done) | (simp [sumI]; omega)) | rfl | omega | (congr 2; omega) | (simp -implicitDefEqProofs (disch := omega) only [List.map_append, go_sem, ↓reduceIte, Nat.reduceAdd, Nat.reduceSub, Nat.reduceEqDiff, Nat.reduceLeDiff, reduceCtorEq]; refine ⟨_, rfl, ?_⟩; first | (simp -implicitDefEqProofs (disch := omega) only [List.map_append, go_sem, ↓reduceIte, Nat.reduceAdd, Nat.reduceSub, Nat.reduceEqDiff, Nat.reduceLeDiff, reduceCtorEq]; done) | rfl) | (refine ⟨_, by simp -implicitDefEqProofs (disch := omega) only [List.map_append, go_sem, ↓reduceIte, Nat.reduceAdd, Nat.reduceSub, Nat.reduceEqDiff, Nat.reduceLeDiff, reduceCtorEq], ?_⟩; first | (simp -implicitDefEqProofs (disch := omega) only [List.map_append, go_sem, ↓reduceIte, Nat.reduceAdd, Nat.reduceSub, Nat.reduceEqDiff, Nat.reduceLeDiff, reduceCtorEq]; done) | rfl)
    intro k s hk hIk
    obtain ⟨acc, w, hacc, hal, h6, h7, h18, h19, h20, hh6_0⟩ := (hI _ _).1 hIk
    clear hIk
    simp -implicitDefEqProofs (disch := omega) only [h6, h7, h18, h19, h20, hh6_0, go_sem, ↓reduceIte, Nat.reduceAdd, Nat.reduceSub, Nat.reduceEqDiff, Nat.reduceLeDiff, reduceCtorEq]
    refine wp_if_d (fun hlt => ?_) (fun hge => ?_)
    · have hm : t.nodes[k]? = some t.nodes[k] := List.getElem?_eq_getElem hlt
      generalize t.nodes[k] = m at hm
      have hgm := hg k m hm
      have hst := filter_step (p := fun n : Nd => decide (0 < tot t (ownC c) n.id)) hm
      by_cases hp : 0 < tot t (ownC c) m.id
      · simp only [hp, decide_true, if_true] at hst
        have htc : totCh t c m = ⟨m.id, tot t (ownC c) m.id⟩ := rfl
        generalize tot t (ownC c) m.id = T at hgm hp htc
        simp -implicitDefEqProofs (disch := omega) only [h6, h7, h18, h19, h20, hh6_0, hlt, hm, hgm, hp, go_sem, ↓reduceIte, Nat.reduceAdd, Nat.reduceSub, Nat.reduceEqDiff, Nat.reduceLeDiff, reduceCtorEq]
        try refine And.intro (by omega) ?_
        refine (hI _ _).2 ⟨acc ++ [⟨m.id, T⟩], w + 1, ?_, ?_, ?_, ?_, ?_, ?_, ?_, ?_⟩
        · exact by rw [hst, List.map_append, hacc, List.map_cons, List.map_nil, htc]
        · exact by simp; omega
        all_goals first | with_reducible rfl | (simp -implicitDefEqProofs (disch := omega) only [h6, h7, h18, h19, h20, hh6_0, List.map_append, go_sem, ↓reduceIte, Nat.reduceAdd, Nat.reduceSub, Nat.reduceEqDiff, Nat.reduceLeDiff, reduceCtorEq]; done) | (simp -implicitDefEqProofs (disch := omega) only [h6, h7, h18, h19, h20, hh6_0, List.map_append, go_sem, ↓reduceIte, Nat.reduceAdd, Nat.reduceSub, Nat.reduceEqDiff, Nat.reduceLeDiff, reduceCtorEq]; first | rfl | (simp; done) | (congr 2; omega) | (congr 1; omega) | (congr 3; omega) | (simp; omega) | (congr 2; simp; omega) | (simp [sumI]; done) | (simp [sumI]; omega)) | rfl | omega | (congr 2; omega) | (simp -implicitDefEqProofs (disch := omega) only [h6, h7, h18, h19, h20, hh6_0, List.map_append, go_sem, ↓reduceIte, Nat.reduceAdd, Nat.reduceSub, Nat.reduceEqDiff, Nat.reduceLeDiff, reduceCtorEq]; refine ⟨_, rfl, ?_⟩; first | (simp -implicitDefEqProofs (disch := omega) only [h6, h7, h18, h19, h20, hh6_0, List.map_append, go_sem, ↓reduceIte, Nat.reduceAdd, Nat.reduceSub, Nat.reduceEqDiff, Nat.reduceLeDiff, reduceCtorEq]; done) | rfl) | (refine ⟨_, by simp -implicitDefEqProofs (disch := omega) only [h6, h7, h18, h19, h20, hh6_0, List.map_append, go_sem, ↓reduceIte, Nat.reduceAdd, Nat.reduceSub, Nat.reduceEqDiff, Nat.reduceLeDiff, reduceCtorEq], ?_⟩; first | (simp -implicitDefEqProofs (disch := omega) only [h6, h7, h18, h19, h20, hh6_0, List.map_append, go_sem, ↓reduceIte, Nat.reduceAdd, Nat.reduceSub, Nat.reduceEqDiff, Nat.reduceLeDiff, reduceCtorEq]; done) | rfl)
      · simp only [hp, decide_false, Bool.false_eq_true, if_false] at hst
        generalize tot t (ownC c) m.id = T at hgm hp
        simp -implicitDefEqProofs (disch := omega) only [h6, h7, h18, h19, h20, hh6_0, hlt, hm, hgm, hp, go_sem, ↓reduceIte, Nat.reduceAdd, Nat.reduceSub, Nat.reduceEqDiff, Nat.reduceLeDiff, reduceCtorEq]
        try refine And.intro (by omega) ?_
        refine (hI _ _).2 ⟨acc, w, ?_, ?_, ?_, ?_, ?_, ?_, ?_, ?_⟩
        · exact by rw [hst, hacc]
        · exact by omega
        all_goals first | with_reducible rfl | (simp -implicitDefEqProofs (disch := omega) only [h6, h7, h18, h19, h20, hh6_0, List.map_append, go_sem, ↓reduceIte, Nat.reduceAdd, Nat.reduceSub, Nat.reduceEqDiff, Nat.reduceLeDiff, reduceCtorEq]; done) | (simp -implicitDefEqProofs (disch := omega) only [h6, h7, h18, h19, h20, hh6_0, List.map_append, go_sem, ↓reduceIte, Nat.reduceAdd, Nat.reduceSub, Nat.reduceEqDiff, Nat.reduceLeDiff, reduceCtorEq]; first | rfl | (simp; done) | (congr 2; omega) | (congr 1; omega) | (congr 3; omega) | (simp; omega) | (congr 2; simp; omega) | (simp [sumI]; done) | (simp [sumI]; omega)) | rfl | omega | (congr 2; omega) | (simp -implicitDefEqProofs (disch := omega) only [h6, h7, h18, h19, h20, hh6_0, List.map_append, go_sem, ↓reduceIte, Nat.reduceAdd, Nat.reduceSub, Nat.reduceEqDiff, Nat.reduceLeDiff, reduceCtorEq]; refine ⟨_, rfl, ?_⟩; first | (simp -implicitDefEqProofs (disch := omega) only [h6, h7, h18, h19, h20, hh6_0, List.map_append, go_sem, ↓reduceIte, Nat.reduceAdd, Nat.reduceSub, Nat.reduceEqDiff, Nat.reduceLeDiff, reduceCtorEq]; done) | rfl) | (refine ⟨_, by simp -implicitDefEqProofs (disch := omega) only [h6, h7, h18, h19, h20, hh6_0, List.map_append, go_sem, ↓reduceIte, Nat.reduceAdd, Nat.reduceSub, Nat.reduceEqDiff, Nat.reduceLeDiff, reduceCtorEq], ?_⟩; first | (simp -implicitDefEqProofs (disch := omega) only [h6, h7, h18, h19, h20, hh6_0, List.map_append, go_sem, ↓reduceIte, Nat.reduceAdd, Nat.reduceSub, Nat.reduceEqDiff, Nat.reduceLeDiff, reduceCtorEq]; done) | rfl)
    · rw [List.take_of_length_le (by omega)] at hacc
      rw [← hacc]
      simp -implicitDefEqProofs (disch := omega) only [h6, h7, h18, h19, h20, hh6_0, hge, go_sem, ↓reduceIte, Nat.reduceAdd, Nat.reduceSub, Nat.reduceEqDiff, Nat.reduceLeDiff, reduceCtorEq]
      try rfl

def OverK (t : Tr) (c l : List Ch) : List Int × Int := if validK t c = true ∧ validLK t l = true then ((l.filter fun x => decide (x.own < tot t (ownC c) x.group)).map (·.group), 0) else ([], 1)

set_option maxHeartbeats 1000000 in
theorem over_eq (t : Tr) (c l : List Ch) (hf : t.Fits) (hn : t.nodes.length < 1000000) (hc : c.length < 1000000) (hl : l.length < 1000000) : V 67 [t.vv, ctrV c, .p (chsP l)] [] = some (.tup [.fresh 1 ((OverK t c l).1.map (.int .i64)), .p (.int .i64 (OverK t c l).2)], []) := by
  refine V_wp (vf := vf67) rfl ?_
  have hv := kvalid_eq t c hf hn hc
  have hvl := klimits_eq t l hf hn hl
  unfold OverK
  cases hvv : validK t c with
  | false =>
    rw [hvv] at hv
    simp -implicitDefEqProofs (disch := omega) only [vf67, vb67, hv, go_sem, ↓reduceIte, Nat.reduceAdd, Nat.reduceSub, Nat.reduceEqDiff, Nat.reduceLeDiff, reduceCtorEq]
    try simp
  | true =>
    rw [hvv] at hv
    cases hvl' : validLK t l with
    | false =>
      rw [hvl'] at hvl
      simp -implicitDefEqProofs (disch := omega) only [vf67, vb67, hv, hvl, go_sem, ↓reduceIte, Nat.reduceAdd, Nat.reduceSub, Nat.reduceEqDiff, Nat.reduceLeDiff, reduceCtorEq]
      try simp
    | true =>
      rw [hvl'] at hvl
      rw [if_pos ⟨rfl, rfl⟩]
      obtain ⟨h1, h2⟩ := (validK_iff t c).1 hvv
      obtain ⟨ks, vs, hs, hg⟩ := sums_eq h1 h2 hn hc
      have hA := (ascOk_iff _ _ _ _).1 (show ascOk (knownN t.nodes) 0 4611686018427387904 none l = true by simpa [validLK, (treeOk_iff t).2 h1] using hvl')
      simp -implicitDefEqProofs (disch := omega) only [vf67, vb67, hv, hvl, hs, go_sem, ↓reduceIte, Nat.reduceAdd, Nat.reduceSub, Nat.reduceEqDiff, Nat.reduceLeDiff, reduceCtorEq]
      obtain ⟨I, hI⟩ : ∃ I : Nat → St → Prop, ∀ k s, I k s ↔ ∃ (acc : List Int) (w : Nat), acc = ((l.take k).filter fun x => decide (x.own < tot t (ownC c) x.group)).map (·.group) ∧ acc.length ≤ k ∧ s.pe 8 = .own (.slot 8 0) w 0 acc.length ∧ s.pe 9 = .p (PV.map (KT.int IntKind.i64) ks vs) ∧ s.pe 25 = .p (chsP l) ∧ s.pe 26 = .p (.int .i64 ↑l.length) ∧ s.pe 27 = .p (.int .i64 k) ∧ s.h (.slot 8 0) = some (w, Ob.arr 1 (acc.map (.int .i64))) := ⟨_, fun _ _ => Iff.rfl⟩
      refine wp_count (l.length) I ?_ ?_
      · refine (hI _ _).2 ⟨[], 0, ?_, ?_, ?_, ?_, ?_, ?_, ?_, ?_⟩
        · exact by first | rfl | omega | (simp; done) | (simp; omega)
        · exact by first | rfl | omega | (simp; done) | (simp; omega)
        all_goals first | with_reducible rfl | (simp -implicitDefEqProofs (disch := omega) only [h6, h7, h18, h19, h20, hh6_0, List.map_append, go_sem, ↓reduceIte, Nat.reduceAdd, Nat.reduceSub, Nat.reduceEqDiff, Nat.reduceLeDiff, reduceCtorEq]; done) | (simp -implicitDefEqProofs (disch := omega) only [h6, h7, h18, h19, h20, hh6_0, List.map_append, go_sem, ↓reduceIte, Nat.reduceAdd, Nat.reduceSub, Nat.reduceEqDiff, Nat.reduceLeDiff, reduceCtorEq]; first | rfl | (simp; done) | (congr 2; omega) | (congr 1; omega) | (congr 3; omega) | (simp; omega) | (congr 2; simp; omega) | (simp [sumI]; done) | (simp [sumI]; omega)) | rfl | omega | (congr 2; omega) | (simp -implicitDefEqProofs (disch := omega) only [h6, h7, h18, h19, h20, hh6_0, List.map_append, go_sem, ↓reduceIte, Nat.reduceAdd, Nat.reduceSub, Nat.reduceEqDiff, Nat.reduceLeDiff, reduceCtorEq]; refine ⟨_, rfl, ?_⟩; first | (simp -implicitDefEqProofs (disch := omega) only [h6, h7, h18, h19, h20, hh6_0, List.map_append, go_sem, ↓reduceIte, Nat.reduceAdd, Nat.reduceSub, Nat.reduceEqDiff, Nat.reduceLeDiff, reduceCtorEq]; done) | rfl) | (refine ⟨_, by simp -implicitDefEqProofs (disch := omega) only [h6, h7, h18, h19, h20, hh6_0, List.map_append, go_sem, ↓reduceIte, Nat.reduceAdd, Nat.reduceSub, Nat.reduceEqDiff, Nat.reduceLeDiff, reduceCtorEq], ?_⟩; first | (simp -implicitDefEqProofs (disch := omega) only [h6, h7, h18, h19, h20, hh6_0, List.map_append, go_sem, ↓reduceIte, Nat.reduceAdd, Nat.reduceSub, Nat.reduceEqDiff, Nat.reduceLeDiff, reduceCtorEq]; done) | rfl)
      intro k s hk hIk
      obtain ⟨acc, w, hacc, hal, h8, h9, h25, h26, h27, hh8_0⟩ := (hI _ _).1 hIk
      clear hIk
      simp -implicitDefEqProofs (disch := omega) only [h8, h9, h25, h26, h27, hh8_0, go_sem, ↓reduceIte, Nat.reduceAdd, Nat.reduceSub, Nat.reduceEqDiff, Nat.reduceLeDiff, reduceCtorEq]
      refine wp_if_d (fun hlt => ?_) (fun hge => ?_)
      · have hm : l[k]? = some l[k] := List.getElem?_eq_getElem hlt
        generalize l[k] = m at hm
        obtain ⟨nd, hnd, hne⟩ := findN_some (hA.known m (List.mem_of_getElem? hm))
        obtain ⟨i, hi⟩ := List.getElem?_of_mem hnd
        have hgm := hg i nd hi
        rw [hne] at hgm
        have hst := filter_step (p := fun x : Ch => decide (x.own < tot t (ownC c) x.group)) hm
        by_cases hp : m.own < tot t (ownC c) m.group
        · simp only [hp, decide_true, if_true] at hst
          generalize tot t (ownC c) m.group = T at hgm hp
          simp -implicitDefEqProofs (disch := omega) only [h8, h9, h25, h26, h27, hh8_0, hlt, hm, hgm, hp, go_sem, ↓reduceIte, Nat.reduceAdd, Nat.reduceSub, Nat.reduceEqDiff, Nat.reduceLeDiff, reduceCtorEq]
          try refine And.intro (by omega) ?_
          refine (hI _ _).2 ⟨acc ++ [m.group], w + 1, ?_, ?_, ?_, ?_, ?_, ?_, ?_, ?_⟩
          · exact by rw [hst, List.map_append, hacc]; rfl
          · exact by simp; omega
          all_goals first | with_reducible rfl | (simp -implicitDefEqProofs (disch := omega) only [h8, h9, h25, h26, h27, hh8_0, List.map_append, go_sem, ↓reduceIte, Nat.reduceAdd, Nat.reduceSub, Nat.reduceEqDiff, Nat.reduceLeDiff, reduceCtorEq]; done) | (simp -implicitDefEqProofs (disch := omega) only [h8, h9, h25, h26, h27, hh8_0, List.map_append, go_sem, ↓reduceIte, Nat.reduceAdd, Nat.reduceSub, Nat.reduceEqDiff, Nat.reduceLeDiff, reduceCtorEq]; first | rfl | (simp; done) | (congr 2; omega) | (congr 1; omega) | (congr 3; omega) | (simp; omega) | (congr 2; simp; omega) | (simp [sumI]; done) | (simp [sumI]; omega)) | rfl | omega | (congr 2; omega) | (simp -implicitDefEqProofs (disch := omega) only [h8, h9, h25, h26, h27, hh8_0, List.map_append, go_sem, ↓reduceIte, Nat.reduceAdd, Nat.reduceSub, Nat.reduceEqDiff, Nat.reduceLeDiff, reduceCtorEq]; refine ⟨_, rfl, ?_⟩; first | (simp -implicitDefEqProofs (disch := omega) only [h8, h9, h25, h26, h27, hh8_0, List.map_append, go_sem, ↓reduceIte, Nat.reduceAdd, Nat.reduceSub, Nat.reduceEqDiff, Nat.reduceLeDiff, reduceCtorEq]; done) | rfl) | (refine ⟨_, by simp -implicitDefEqProofs (disch := omega) only [h8, h9, h25, h26, h27, hh8_0, List.map_append, go_sem, ↓reduceIte, Nat.reduceAdd, Nat.reduceSub, Nat.reduceEqDiff, Nat.reduceLeDiff, reduceCtorEq], ?_⟩; first | (simp -implicitDefEqProofs (disch := omega) only [h8, h9, h25, h26, h27, hh8_0, List.map_append, go_sem, ↓reduceIte, Nat.reduceAdd, Nat.reduceSub, Nat.reduceEqDiff, Nat.reduceLeDiff, reduceCtorEq]; done) | rfl)
        · simp only [hp, decide_false, Bool.false_eq_true, if_false] at hst
          generalize tot t (ownC c) m.group = T at hgm hp
          simp -implicitDefEqProofs (disch := omega) only [h8, h9, h25, h26, h27, hh8_0, hlt, hm, hgm, hp, go_sem, ↓reduceIte, Nat.reduceAdd, Nat.reduceSub, Nat.reduceEqDiff, Nat.reduceLeDiff, reduceCtorEq]
          try refine And.intro (by omega) ?_
          refine (hI _ _).2 ⟨acc, w, ?_, ?_, ?_, ?_, ?_, ?_, ?_, ?_⟩
          · exact by rw [hst, hacc]
          · exact by omega
          all_goals first | with_reducible rfl | (simp -implicitDefEqProofs (disch := omega) only [h8, h9, h25, h26, h27, hh8_0, List.map_append, go_sem, ↓reduceIte, Nat.reduceAdd, Nat.reduceSub, Nat.reduceEqDiff, Nat.reduceLeDiff, reduceCtorEq]; done) | (simp -implicitDefEqProofs (disch := omega) only [h8, h9, h25, h26, h27, hh8_0, List.map_append, go_sem, ↓reduceIte, Nat.reduceAdd, Nat.reduceSub, Nat.reduceEqDiff, Nat.reduceLeDiff, reduceCtorEq]; first | rfl | (simp; done) | (congr 2; omega) | (congr 1; omega) | (congr 3; omega) | (simp; omega) | (congr 2; simp; omega) | (simp [sumI]; done) | (simp [sumI]; omega)) | rfl | omega | (congr 2; omega) | (simp -implicitDefEqProofs (disch := omega) only [h8, h9, h25, h26, h27, hh8_0, List.map_append, go_sem, ↓reduceIte, Nat.reduceAdd, Nat.reduceSub, Nat.reduceEqDiff, Nat.reduceLeDiff, reduceCtorEq]; refine ⟨_, rfl, ?_⟩; first | (simp -implicitDefEqProofs (disch := omega) only [h8, h9, h25, h26, h27, hh8_0, List.map_append, go_sem, ↓reduceIte, Nat.reduceAdd, Nat.reduceSub, Nat.reduceEqDiff, Nat.reduceLeDiff, reduceCtorEq]; done) | rfl) | (refine ⟨_, by simp -implicitDefEqProofs (disch := omega) only [h8, h9, h25, h26, h27, hh8_0, List.map_append, go_sem, ↓reduceIte, Nat.reduceAdd, Nat.reduceSub, Nat.reduceEqDiff, Nat.reduceLeDiff, reduceCtorEq], ?_⟩; first | (simp -implicitDefEqProofs (disch := omega) only [h8, h9, h25, h26, h27, hh8_0, List.map_append, go_sem, ↓reduceIte, Nat.reduceAdd, Nat.reduceSub, Nat.reduceEqDiff, Nat.reduceLeDiff, reduceCtorEq]; done) | rfl)
      · rw [List.take_of_length_le (by omega)] at hacc
        rw [← hacc]
        simp -implicitDefEqProofs (disch := omega) only [h8, h9, h25, h26, h27, hh8_0, hge, go_sem, ↓reduceIte, Nat.reduceAdd, Nat.reduceSub, Nat.reduceEqDiff, Nat.reduceLeDiff, reduceCtorEq]
        try rfl

def mostK (l : List Ch) (id : Int) : Int := (lookC l id).getD 4611686018427387904
theorem lookC_drop {l : List Ch} {k : Nat} {c : Ch} {id : Int} (hm : l[k]? = some c) (h : lookC l id = lookC (l.drop k) id) : lookC l id = if c.group = id then some c.own else lookC (l.drop (k + 1)) id := by
  have hl := (List.getElem?_eq_some_iff.1 hm).1
  rw [h, List.drop_eq_getElem_cons hl]
  rw [List.getElem?_eq_getElem hl] at hm
  cases hm
  rfl

theorem most_eq (l : List Ch) (id : Int) (hl : l.length < 1000000) : V 66 [.p (chsP l), .p (.int .i64 id)] [] = some (.p (.int .i64 (mostK l id)), []) := by
  refine V_wp (vf := vf66) rfl ?_
  unfold mostK
  simp -implicitDefEqProofs (disch := omega) only [vf66, vb66, go_sem, ↓reduceIte, Nat.reduceAdd, Nat.reduceSub, Nat.reduceEqDiff, Nat.reduceLeDiff, reduceCtorEq]
  obtain ⟨I, hI⟩ : ∃ I : Nat → St → Prop, ∀ k s, I k s ↔ lookC l id = lookC (l.drop k) id ∧ s.pe 0 = .p (chsP l) ∧ s.pe 1 = .p (.int .i64 id) ∧ s.pe 5 = .p (.int .i64 k) := ⟨_, fun _ _ => Iff.rfl⟩
  refine wp_count (l.length) I ?_ ?_
  · refine (hI _ _).2 ⟨?_, ?_, ?_, ?_⟩
    · exact by first | rfl | omega | (simp; done) | (simp; omega)
    all_goals first | with_reducible rfl | (simp -implicitDefEqProofs (disch := omega) only [h8, h9, h25, h26, h27, hh8_0, List.map_append, go_sem, ↓reduceIte, Nat.reduceAdd, Nat.reduceSub, Nat.reduceEqDiff, Nat.reduceLeDiff, reduceCtorEq]; done) | (simp -implicitDefEqProofs (disch := omega) only [h8, h9, h25, h26, h27, hh8_0, List.map_append, go_sem, ↓reduceIte, Nat.reduceAdd, Nat.reduceSub, Nat.reduceEqDiff, Nat.reduceLeDiff, reduceCtorEq]; first | rfl | (simp; done) | (congr 2; omega) | (congr 1; omega) | (congr 3; omega) | (simp; omega) | (congr 2; simp; omega) | (simp [sumI]; done) | (simp [sumI]; omega)) | rfl | omega | (congr 2; omega) | (simp -implicitDefEqProofs (disch := omega) only [h8, h9, h25, h26, h27, hh8_0, List.map_append, go_sem, ↓reduceIte, Nat.reduceAdd, Nat.reduceSub, Nat.reduceEqDiff, Nat.reduceLeDiff, reduceCtorEq]; refine ⟨_, rfl, ?_⟩; first | (simp -implicitDefEqProofs (disch := omega) only [h8, h9, h25, h26, h27, hh8_0, List.map_append, go_sem, ↓reduceIte, Nat.reduceAdd, Nat.reduceSub, Nat.reduceEqDiff, Nat.reduceLeDiff, reduceCtorEq]; done) | rfl) | (refine ⟨_, by simp -implicitDefEqProofs (disch := omega) only [h8, h9, h25, h26, h27, hh8_0, List.map_append, go_sem, ↓reduceIte, Nat.reduceAdd, Nat.reduceSub, Nat.reduceEqDiff, Nat.reduceLeDiff, reduceCtorEq], ?_⟩; first | (simp -implicitDefEqProofs (disch := omega) only [h8, h9, h25, h26, h27, hh8_0, List.map_append, go_sem, ↓reduceIte, Nat.reduceAdd, Nat.reduceSub, Nat.reduceEqDiff, Nat.reduceLeDiff, reduceCtorEq]; done) | rfl)
  intro k s hk hIk
  obtain ⟨hq, h0, h1, h5⟩ := (hI _ _).1 hIk
  clear hIk
  simp -implicitDefEqProofs (disch := omega) only [h0, h1, h5, go_sem, ↓reduceIte, Nat.reduceAdd, Nat.reduceSub, Nat.reduceEqDiff, Nat.reduceLeDiff, reduceCtorEq]
  refine wp_if_d (fun hlt => ?_) (fun hge => ?_)
  · have hm : l[k]? = some l[k] := List.getElem?_eq_getElem hlt
    generalize l[k] = c at hm
    have hst := lookC_drop hm hq
    by_cases hp : c.group = id
    · rw [if_pos hp] at hst
      simp -implicitDefEqProofs (disch := omega) only [h0, h1, h5, hlt, hm, hp, hst, Option.getD_some, go_sem, ↓reduceIte, Nat.reduceAdd, Nat.reduceSub, Nat.reduceEqDiff, Nat.reduceLeDiff, reduceCtorEq]
    · rw [if_neg hp] at hst
      simp -implicitDefEqProofs (disch := omega) only [h0, h1, h5, hlt, hm, hp, go_sem, ↓reduceIte, Nat.reduceAdd, Nat.reduceSub, Nat.reduceEqDiff, Nat.reduceLeDiff, reduceCtorEq]
      try refine And.intro (by omega) ?_
      refine (hI _ _).2 ⟨?_, ?_, ?_, ?_⟩
      · exact hst
      all_goals first | with_reducible rfl | (simp -implicitDefEqProofs (disch := omega) only [h0, h1, h5, List.map_append, go_sem, ↓reduceIte, Nat.reduceAdd, Nat.reduceSub, Nat.reduceEqDiff, Nat.reduceLeDiff, reduceCtorEq]; done) | (simp -implicitDefEqProofs (disch := omega) only [h0, h1, h5, List.map_append, go_sem, ↓reduceIte, Nat.reduceAdd, Nat.reduceSub, Nat.reduceEqDiff, Nat.reduceLeDiff, reduceCtorEq]; first | rfl | (simp; done) | (congr 2; omega) | (congr 1; omega) | (congr 3; omega) | (simp; omega) | (congr 2; simp; omega) | (simp [sumI]; done) | (simp [sumI]; omega)) | rfl | omega | (congr 2; omega) | (simp -implicitDefEqProofs (disch := omega) only [h0, h1, h5, List.map_append, go_sem, ↓reduceIte, Nat.reduceAdd, Nat.reduceSub, Nat.reduceEqDiff, Nat.reduceLeDiff, reduceCtorEq]; refine ⟨_, rfl, ?_⟩; first | (simp -implicitDefEqProofs (disch := omega) only [h0, h1, h5, List.map_append, go_sem, ↓reduceIte, Nat.reduceAdd, Nat.reduceSub, Nat.reduceEqDiff, Nat.reduceLeDiff, reduceCtorEq]; done) | rfl) | (refine ⟨_, by simp -implicitDefEqProofs (disch := omega) only [h0, h1, h5, List.map_append, go_sem, ↓reduceIte, Nat.reduceAdd, Nat.reduceSub, Nat.reduceEqDiff, Nat.reduceLeDiff, reduceCtorEq], ?_⟩; first | (simp -implicitDefEqProofs (disch := omega) only [h0, h1, h5, List.map_append, go_sem, ↓reduceIte, Nat.reduceAdd, Nat.reduceSub, Nat.reduceEqDiff, Nat.reduceLeDiff, reduceCtorEq]; done) | rfl)
  · rw [List.drop_of_length_le (by omega)] at hq
    simp -implicitDefEqProofs (disch := omega) only [h0, h1, h5, hge, hq, lookC, Option.getD_none, go_sem, ↓reduceIte, Nat.reduceAdd, Nat.reduceSub, Nat.reduceEqDiff, Nat.reduceLeDiff, reduceCtorEq]

theorem left_eq (L : List Int) (a : Nat) : V 65 [.ptr (.arg 0 0) 0 0] [diceB L a] = some (.p (.bool (decide ((a : Int) < L.length))), [diceB L a]) := by
  refine V_wp (vf := vf65) rfl ?_
  simp -implicitDefEqProofs (disch := omega) only [vf65, vb65, go_sem, ↓reduceIte, Nat.reduceAdd, Nat.reduceSub, Nat.reduceEqDiff, Nat.reduceLeDiff, reduceCtorEq]

def limPicks : List Int := [0, 10, 60, 150, 1000, 1099511627776, 4611686018427387904]
def dLimits (L : List Int) : List Nd → Nat → List Ch × Nat
  | [], a => ([], a)
  | n :: ns, a => if nextV L a 2 = 1 then (⟨n.id, pickV L (nextA L a 2) limPicks⟩ :: (dLimits L ns (nextA L (nextA L a 2) 7)).1, (dLimits L ns (nextA L (nextA L a 2) 7)).2) else dLimits L ns (nextA L a 2)

set_option maxHeartbeats 1000000 in
theorem dlimits_eq (L : List Int) (a : Nat) (t : Tr) (hL : L.length < 4611686018427387904) (hl : t.nodes.length < 1000000) : V 64 [.ptr (.arg 0 0) 0 0, t.vv] [diceB L a] = some (.fresh 2 ((dLimits L t.nodes a).1.map Ch.pv), [diceB L (dLimits L t.nodes a).2]) := by
  refine V_wp (vf := vf64) rfl ?_
  simp -implicitDefEqProofs (disch := omega) only [vf64, vb64, go_sem, ↓reduceIte, Nat.reduceAdd, Nat.reduceSub, Nat.reduceEqDiff, Nat.reduceLeDiff, reduceCtorEq]
  obtain ⟨I, hI⟩ : ∃ I : Nat → St → Prop, ∀ k s, I k s ↔ ∃ (b : Nat) (acc : List Ch) (w : Nat), dLimits L t.nodes a = (acc ++ (dLimits L (t.nodes.drop k) b).1, (dLimits L (t.nodes.drop k) b).2) ∧ acc.length ≤ k ∧ s.pe 0 = .ptr (Id.arg 0 0) 0 0 ∧ s.pe 3 = .ptr (.slot 3 0) 0 0 ∧ s.pe 5 = .own (.slot 5 0) w 0 acc.length ∧ s.pe 6 = .p (.int .i64 k) ∧ s.h (.arg 0 0) = some (0, diceB L b) ∧ s.h (.slot 3 0) = some (0, Ob.box [.p (nodesP t.nodes), .p (.int .i64 t.next)]) ∧ s.h (.slot 5 0) = some (w, Ob.arr 2 (acc.map Ch.pv)) := ⟨_, fun _ _ => Iff.rfl⟩
  refine wp_count (t.nodes.length) I ?_ ?_
  · refine (hI _ _).2 ⟨a, [], 0, ?_, ?_, ?_, ?_, ?_, ?_, ?_, ?_, ?_⟩
    · exact rfl
    · exact by first | rfl | omega | (simp; done) | (simp; omega)
    all_goals first | with_reducible rfl | (simp -implicitDefEqProofs (disch := omega) only [h0, h1, h5, List.map_append, go_sem, ↓reduceIte, Nat.reduceAdd, Nat.reduceSub, Nat.reduceEqDiff, Nat.reduceLeDiff, reduceCtorEq]; done) | (simp -implicitDefEqProofs (disch := omega) only [h0, h1, h5, List.map_append, go_sem, ↓reduceIte, Nat.reduceAdd, Nat.reduceSub, Nat.reduceEqDiff, Nat.reduceLeDiff, reduceCtorEq]; first | rfl | (simp; done) | (congr 2; omega) | (congr 1; omega) | (congr 3; omega) | (simp; omega) | (congr 2; simp; omega) | (simp [sumI]; done) | (simp [sumI]; omega)) | rfl | omega | (congr 2; omega) | (simp -implicitDefEqProofs (disch := omega) only [h0, h1, h5, List.map_append, go_sem, ↓reduceIte, Nat.reduceAdd, Nat.reduceSub, Nat.reduceEqDiff, Nat.reduceLeDiff, reduceCtorEq]; refine ⟨_, rfl, ?_⟩; first | (simp -implicitDefEqProofs (disch := omega) only [h0, h1, h5, List.map_append, go_sem, ↓reduceIte, Nat.reduceAdd, Nat.reduceSub, Nat.reduceEqDiff, Nat.reduceLeDiff, reduceCtorEq]; done) | rfl) | (refine ⟨_, by simp -implicitDefEqProofs (disch := omega) only [h0, h1, h5, List.map_append, go_sem, ↓reduceIte, Nat.reduceAdd, Nat.reduceSub, Nat.reduceEqDiff, Nat.reduceLeDiff, reduceCtorEq], ?_⟩; first | (simp -implicitDefEqProofs (disch := omega) only [h0, h1, h5, List.map_append, go_sem, ↓reduceIte, Nat.reduceAdd, Nat.reduceSub, Nat.reduceEqDiff, Nat.reduceLeDiff, reduceCtorEq]; done) | rfl)
  intro k s hk hIk
  obtain ⟨b, acc, w, hd, hal, h0, h3, h5, h6, ha0, hh3_0, hh5_0⟩ := (hI _ _).1 hIk
  clear hIk
  simp -implicitDefEqProofs (disch := omega) only [h0, h3, h5, h6, ha0, hh3_0, hh5_0, go_sem, ↓reduceIte, Nat.reduceAdd, Nat.reduceSub, Nat.reduceEqDiff, Nat.reduceLeDiff, reduceCtorEq]
  refine wp_if_d (fun hlt => ?_) (fun hge => ?_)
  · have hm : t.nodes[k]? = some t.nodes[k] := List.getElem?_eq_getElem hlt
    have hdr : t.nodes.drop k = t.nodes[k] :: t.nodes.drop (k + 1) := List.drop_eq_getElem_cons hlt
    generalize t.nodes[k] = m at hm hdr
    rw [hdr, dLimits] at hd
    have hb : V 72 [.ptr (.arg 0 0) 0 0, .p (.int .i64 2)] [diceB L b] = some (.p (.bool (decide (nextV L b 2 = 1))), [diceB L (nextA L b 2)]) := bool_eq L b 2 hL (by omega) (by omega)
    have hp := pick_eq L (nextA L b 2) limPicks hL (by decide) (by decide)
    simp only [limPicks, intsP, List.length_cons, List.length_nil, Nat.reduceAdd, List.map_cons, List.map_nil] at hp
    rw [← limPicks] at hp
    rw [show nextA L (nextA L b 2) ((7 : Nat) : Int) = nextA L (nextA L b 2) 7 from rfl] at hp
    generalize pickV L (nextA L b 2) limPicks = pv at hp hd
    generalize nextA L (nextA L b 2) 7 = b2 at hp hd
    generalize nextA L b 2 = b1 at hb hp hd
    by_cases hx : nextV L b 2 = 1
    · rw [if_pos hx] at hd
      rw [hx] at hb
      simp -implicitDefEqProofs (disch := omega) only [h0, h3, h5, h6, ha0, hh3_0, hh5_0, hlt, hm, hb, hp, decide_true, go_sem, ↓reduceIte, Nat.reduceAdd, Nat.reduceSub, Nat.reduceEqDiff, Nat.reduceLeDiff, reduceCtorEq]
      try refine And.intro (by omega) ?_
      refine (hI _ _).2 ⟨b2, acc ++ [⟨m.id, pv⟩], w + 1, ?_, ?_, ?_, ?_, ?_, ?_, ?_, ?_, ?_⟩
      · exact by rw [hd]; simp
      · exact by simp; omega
      all_goals first | with_reducible rfl | (simp -implicitDefEqProofs (disch := omega) only [h0, h3, h5, h6, ha0, hh3_0, hh5_0, List.map_append, go_sem, ↓reduceIte, Nat.reduceAdd, Nat.reduceSub, Nat.reduceEqDiff, Nat.reduceLeDiff, reduceCtorEq]; done) | (simp -implicitDefEqProofs (disch := omega) only [h0, h3, h5, h6, ha0, hh3_0, hh5_0, List.map_append, go_sem, ↓reduceIte, Nat.reduceAdd, Nat.reduceSub, Nat.reduceEqDiff, Nat.reduceLeDiff, reduceCtorEq]; first | rfl | (simp; done) | (congr 2; omega) | (congr 1; omega) | (congr 3; omega) | (simp; omega) | (congr 2; simp; omega) | (simp [sumI]; done) | (simp [sumI]; omega)) | rfl | omega | (congr 2; omega) | (simp -implicitDefEqProofs (disch := omega) only [h0, h3, h5, h6, ha0, hh3_0, hh5_0, List.map_append, go_sem, ↓reduceIte, Nat.reduceAdd, Nat.reduceSub, Nat.reduceEqDiff, Nat.reduceLeDiff, reduceCtorEq]; refine ⟨_, rfl, ?_⟩; first | (simp -implicitDefEqProofs (disch := omega) only [h0, h3, h5, h6, ha0, hh3_0, hh5_0, List.map_append, go_sem, ↓reduceIte, Nat.reduceAdd, Nat.reduceSub, Nat.reduceEqDiff, Nat.reduceLeDiff, reduceCtorEq]; done) | rfl) | (refine ⟨_, by simp -implicitDefEqProofs (disch := omega) only [h0, h3, h5, h6, ha0, hh3_0, hh5_0, List.map_append, go_sem, ↓reduceIte, Nat.reduceAdd, Nat.reduceSub, Nat.reduceEqDiff, Nat.reduceLeDiff, reduceCtorEq], ?_⟩; first | (simp -implicitDefEqProofs (disch := omega) only [h0, h3, h5, h6, ha0, hh3_0, hh5_0, List.map_append, go_sem, ↓reduceIte, Nat.reduceAdd, Nat.reduceSub, Nat.reduceEqDiff, Nat.reduceLeDiff, reduceCtorEq]; done) | rfl)
    · rw [if_neg hx] at hd
      simp -implicitDefEqProofs (disch := omega) only [h0, h3, h5, h6, ha0, hh3_0, hh5_0, hlt, hm, hb, hx, go_sem, ↓reduceIte, Nat.reduceAdd, Nat.reduceSub, Nat.reduceEqDiff, Nat.reduceLeDiff, reduceCtorEq]
      try refine And.intro (by omega) ?_
      refine (hI _ _).2 ⟨b1, acc, w, ?_, ?_, ?_, ?_, ?_, ?_, ?_, ?_, ?_⟩
      · exact hd
      · exact by omega
      all_goals first | with_reducible rfl | (simp -implicitDefEqProofs (disch := omega) only [h0, h3, h5, h6, ha0, hh3_0, hh5_0, List.map_append, go_sem, ↓reduceIte, Nat.reduceAdd, Nat.reduceSub, Nat.reduceEqDiff, Nat.reduceLeDiff, reduceCtorEq]; done) | (simp -implicitDefEqProofs (disch := omega) only [h0, h3, h5, h6, ha0, hh3_0, hh5_0, List.map_append, go_sem, ↓reduceIte, Nat.reduceAdd, Nat.reduceSub, Nat.reduceEqDiff, Nat.reduceLeDiff, reduceCtorEq]; first | rfl | (simp; done) | (congr 2; omega) | (congr 1; omega) | (congr 3; omega) | (simp; omega) | (congr 2; simp; omega) | (simp [sumI]; done) | (simp [sumI]; omega)) | rfl | omega | (congr 2; omega) | (simp -implicitDefEqProofs (disch := omega) only [h0, h3, h5, h6, ha0, hh3_0, hh5_0, List.map_append, go_sem, ↓reduceIte, Nat.reduceAdd, Nat.reduceSub, Nat.reduceEqDiff, Nat.reduceLeDiff, reduceCtorEq]; refine ⟨_, rfl, ?_⟩; first | (simp -implicitDefEqProofs (disch := omega) only [h0, h3, h5, h6, ha0, hh3_0, hh5_0, List.map_append, go_sem, ↓reduceIte, Nat.reduceAdd, Nat.reduceSub, Nat.reduceEqDiff, Nat.reduceLeDiff, reduceCtorEq]; done) | rfl) | (refine ⟨_, by simp -implicitDefEqProofs (disch := omega) only [h0, h3, h5, h6, ha0, hh3_0, hh5_0, List.map_append, go_sem, ↓reduceIte, Nat.reduceAdd, Nat.reduceSub, Nat.reduceEqDiff, Nat.reduceLeDiff, reduceCtorEq], ?_⟩; first | (simp -implicitDefEqProofs (disch := omega) only [h0, h3, h5, h6, ha0, hh3_0, hh5_0, List.map_append, go_sem, ↓reduceIte, Nat.reduceAdd, Nat.reduceSub, Nat.reduceEqDiff, Nat.reduceLeDiff, reduceCtorEq]; done) | rfl)
  · rw [List.drop_of_length_le (by omega), dLimits] at hd
    rw [hd]
    simp -implicitDefEqProofs (disch := omega) only [h0, h3, h5, h6, ha0, hh3_0, hh5_0, hge, go_sem, ↓reduceIte, Nat.reduceAdd, Nat.reduceSub, Nat.reduceEqDiff, Nat.reduceLeDiff, reduceCtorEq]
    try simp
end Go.V

