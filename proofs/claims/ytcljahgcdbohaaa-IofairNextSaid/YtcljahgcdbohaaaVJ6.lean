/- The law IofairNext in the value machine. -/
import Derived.Test.YtcljahgcdbohaaaVJ5
set_option linter.unusedSimpArgs false
set_option linter.unusedVariables false
namespace Go.V
-- closer: sumI

theorem putA_asc {kn : Int → Bool} {hi : Int} {a : List Ch} (h : AscOk kn 0 hi a) {id v : Int} (hk : kn id = true) (h0 : 0 ≤ v) (h1 : v ≤ hi) : AscOk kn 0 hi (putA a id v) := by
  unfold putA
  refine ⟨fun c hc => ?_, withGo_inc id v a false h.inc, fun c hc => ?_⟩
  · rcases withGo_mem id v a false c hc with ⟨_, rfl⟩ | ⟨hm, _⟩
    · exact hk
    · exact h.known c hm
  · rcases withGo_mem id v a false c hc with ⟨_, rfl⟩ | ⟨hm, _⟩
    · exact ⟨h0, h1⟩
    · exact h.range c hm

theorem IssueA_asc {t : Tr} {a : List Ch} {id share cost now margin : Int} (h : (IssueA t a id share cost now margin).2 = 0) : AscOk (knownN t.nodes) 0 1152921504606846976 (IssueA t a id share cost now margin).1 := by
  unfold IssueA at h ⊢
  split at h
  · rename_i hc
    rw [if_pos hc]
    unfold checkA at hc
    simp only [Bool.and_eq_true] at hc
    have hA := (ascOk_iff _ _ _ _).1 hc.2
    split at h
    · rename_i hk
      rw [if_pos hk]
      split at h
      · rename_i hr
        rw [if_pos hr]
        split at h
        · simp at h
        · rename_i hn
          rw [if_neg hn]
          split at h
          · simp at h
          · rename_i hv
            rw [if_neg hv]
            refine putA_asc hA hk ?_ (by omega)
            unfold issueV
            have : 0 ≤ (cost * 1073741824 + share - 1) / share := Int.ediv_nonneg (by omega) (by omega)
            omega
      · simp at h
    · simp at h
  · simp at h

/-- What Next has found among some groups. -/
def NInv (t : Tr) (a : List Ch) (now : Int) (pre : List Int) (best : Int) : Prop :=
  (best = 0 ∧ ∀ x ∈ pre, mayA t a x now = false) ∨
  (best ≠ 0 ∧ best ∈ pre ∧ mayA t a best now = true ∧ ∀ x ∈ pre, mayA t a x now = true → ownC a best < ownC a x ∨ (ownC a best = ownC a x ∧ best ≤ x))

theorem NInv.skip {t : Tr} {a : List Ch} {now : Int} {pre : List Int} {best x : Int} (h : NInv t a now pre best) (hx : mayA t a x now = false) : NInv t a now (pre ++ [x]) best := by
  rcases h with ⟨h1, h2⟩ | ⟨h1, h2, h3, h4⟩
  · refine Or.inl ⟨h1, fun y hy => ?_⟩
    rcases List.mem_append.1 hy with hy | hy
    · exact h2 y hy
    · rw [List.mem_singleton] at hy; subst hy; exact hx
  · refine Or.inr ⟨h1, List.mem_append_left _ h2, h3, fun y hy hm => ?_⟩
    rcases List.mem_append.1 hy with hy | hy
    · exact h4 y hy hm
    · rw [List.mem_singleton] at hy; subst hy; rw [hx] at hm; cases hm
theorem NInv.take {t : Tr} {a : List Ch} {now : Int} {pre : List Int} {best x : Int} (h : NInv t a now pre best) (hx : mayA t a x now = true) (h0 : x ≠ 0) (hb : best = 0 ∨ ownC a x < ownC a best ∨ (ownC a x = ownC a best ∧ x < best)) : NInv t a now (pre ++ [x]) x := by
  refine Or.inr ⟨h0, List.mem_append_right _ (List.mem_singleton.2 rfl), hx, fun y hy hm => ?_⟩
  rcases List.mem_append.1 hy with hy | hy
  · rcases h with ⟨h1, h2⟩ | ⟨h1, h2, h3, h4⟩
    · rw [h2 y hy] at hm; cases hm
    · have := h4 y hy hm
      omega
  · rw [List.mem_singleton] at hy; subst hy; exact Or.inr ⟨rfl, Int.le_refl _⟩
theorem NInv.keep {t : Tr} {a : List Ch} {now : Int} {pre : List Int} {best x : Int} (h : NInv t a now pre best) (hb : ¬ (best = 0 ∨ ownC a x < ownC a best ∨ (ownC a x = ownC a best ∧ x < best))) : NInv t a now (pre ++ [x]) best := by
  rcases h with ⟨h1, h2⟩ | ⟨h1, h2, h3, h4⟩
  · exact absurd (Or.inl h1) hb
  · refine Or.inr ⟨h1, List.mem_append_left _ h2, h3, fun y hy hm => ?_⟩
    rcases List.mem_append.1 hy with hy | hy
    · exact h4 y hy hm
    · rw [List.mem_singleton] at hy; subst hy; omega

theorem may_pos {t : Tr} {a : List Ch} {x now : Int} (h : mayA t a x now = true) : x ≠ 0 := by
  unfold mayA checkA at h
  simp only [Bool.and_eq_true] at h
  obtain ⟨n, hn, rfl⟩ := findN_some h.1.2
  have := ((treeOk_iff t).1 h.1.1.1).pos n hn
  omega

set_option maxHeartbeats 2000000 in
theorem inext_eq (t : Tr) (a : List Ch) (list : List Int) (now : Int) (hf : t.Fits) (hn : t.nodes.length < 1000000) (ha : a.length < 1000000) (hl : list.length < 1000000) : ∃ best, V 61 [t.vv, .p (chsP a), .p (intsP list), .p (.int .i64 now)] [] = some (.tup [.p (.int .i64 best), .p (.bool (!decide (best = 0)))], []) ∧ NInv t a now list best := by
  suffices hw : wp (callF V vf61 [t.vv, .p (chsP a), .p (intsP list), .p (.int .i64 now)] []) (fun r => ∃ best, r = (.tup [.p (.int .i64 best), .p (.bool (!decide (best = 0)))], []) ∧ NInv t a now list best) by
    obtain ⟨r, hr, best, rfl, hi⟩ := hw
    exact ⟨best, V_fix (vf := vf61) rfl hr, hi⟩
  simp -implicitDefEqProofs (disch := omega) only [vf61, vb61, go_sem, ↓reduceIte, Nat.reduceAdd, Nat.reduceSub, Nat.reduceEqDiff, Nat.reduceLeDiff, reduceCtorEq]
  obtain ⟨I, hI⟩ : ∃ I : Nat → St → Prop, ∀ k s, I k s ↔ ∃ (best : Int), NInv t a now (list.take k) best ∧ s.pe 1 = .p (chsP a) ∧ s.pe 3 = .p (.int .i64 now) ∧ s.pe 4 = .ptr (.slot 4 0) 0 0 ∧ s.pe 10 = .p (.int .i64 best) ∧ s.pe 15 = .p (intsP list) ∧ s.pe 16 = .p (.int .i64 ↑list.length) ∧ s.pe 17 = .p (.int .i64 k) ∧ s.h (.slot 4 0) = some (0, Ob.box [.p (nodesP t.nodes), .p (.int .i64 t.next)]) := ⟨_, fun _ _ => Iff.rfl⟩
  refine wp_count (list.length) I ?_ ?_
  · refine (hI _ _).2 ⟨0, ?_, ?_, ?_, ?_, ?_, ?_, ?_, ?_, ?_⟩
    · exact Or.inl ⟨rfl, fun x hx => by simp at hx⟩
    all_goals first | with_reducible rfl | (simp -implicitDefEqProofs (disch := omega) only [List.map_append, go_sem, ↓reduceIte, Nat.reduceAdd, Nat.reduceSub, Nat.reduceEqDiff, Nat.reduceLeDiff, reduceCtorEq]; first | done | rfl | (simp; done) | (congr 2; omega) | (congr 1; omega) | (congr 3; omega) | (simp; omega) | (congr 2; simp; omega) | (simp [sumI]; done) | (simp [sumI]; omega) | (refine ⟨_, rfl, ?_⟩; first | rfl | (simp -implicitDefEqProofs (disch := omega) only [List.map_append, go_sem, ↓reduceIte, Nat.reduceAdd, Nat.reduceSub, Nat.reduceEqDiff, Nat.reduceLeDiff, reduceCtorEq]; done))) | rfl | omega | (congr 2; omega)
  intro k s hk hIk
  obtain ⟨best, hN, h1, h3, h4, h10, h15, h16, h17, hh4_0⟩ := (hI _ _).1 hIk
  clear hIk
  simp -implicitDefEqProofs (disch := omega) only [h1, h3, h4, h10, h15, h16, h17, hh4_0, go_sem, ↓reduceIte, Nat.reduceAdd, Nat.reduceSub, Nat.reduceEqDiff, Nat.reduceLeDiff, reduceCtorEq]
  refine wp_if_d (fun hlt => ?_) (fun hge => ?_)
  · have hm : list[k]? = some list[k] := List.getElem?_eq_getElem hlt
    have htk : list.take (k + 1) = list.take k ++ [list[k]] := by rw [List.take_add_one, hm]; rfl
    generalize list[k] = x at hm htk
    have d1 := may_eq t a x now hf hn ha
    have d2 := get_eq a x ha
    have d3 := get_eq a best ha
    cases hmay : mayA t a x now with
    | false =>
      rw [hmay] at d1
      have hnx := hN.skip hmay
      rw [← htk] at hnx
      simp -implicitDefEqProofs (disch := omega) only [h1, h3, h4, h10, h15, h16, h17, hh4_0, hlt, hm, d1, go_sem, ↓reduceIte, Nat.reduceAdd, Nat.reduceSub, Nat.reduceEqDiff, Nat.reduceLeDiff, reduceCtorEq]
      try refine And.intro (by omega) ?_
      refine (hI _ _).2 ⟨best, ?_, ?_, ?_, ?_, ?_, ?_, ?_, ?_, ?_⟩
      · exact hnx
      all_goals first | with_reducible rfl | (simp -implicitDefEqProofs (disch := omega) only [h1, h3, h4, h10, h15, h16, h17, hh4_0, List.map_append, go_sem, ↓reduceIte, Nat.reduceAdd, Nat.reduceSub, Nat.reduceEqDiff, Nat.reduceLeDiff, reduceCtorEq]; first | done | rfl | (simp; done) | (congr 2; omega) | (congr 1; omega) | (congr 3; omega) | (simp; omega) | (congr 2; simp; omega) | (simp [sumI]; done) | (simp [sumI]; omega) | (refine ⟨_, rfl, ?_⟩; first | rfl | (simp -implicitDefEqProofs (disch := omega) only [h1, h3, h4, h10, h15, h16, h17, hh4_0, List.map_append, go_sem, ↓reduceIte, Nat.reduceAdd, Nat.reduceSub, Nat.reduceEqDiff, Nat.reduceLeDiff, reduceCtorEq]; done))) | rfl | omega | (congr 2; omega)
    | true =>
      rw [hmay] at d1
      have hx0 := may_pos hmay
      by_cases hb : best = 0 ∨ ownC a x < ownC a best ∨ (ownC a x = ownC a best ∧ x < best)
      · have hnx := hN.take hmay hx0 hb
        rw [← htk] at hnx
        generalize ownC a x = p at d2 hb
        generalize ownC a best = q at d3 hb
        by_cases b1 : best = 0
        · subst b1
          simp -implicitDefEqProofs (disch := omega) only [h1, h3, h4, h10, h15, h16, h17, hh4_0, hlt, hm, d1, d2, d3, go_sem, ↓reduceIte, Nat.reduceAdd, Nat.reduceSub, Nat.reduceEqDiff, Nat.reduceLeDiff, reduceCtorEq]
          try refine And.intro (by omega) ?_
          refine (hI _ _).2 ⟨x, ?_, ?_, ?_, ?_, ?_, ?_, ?_, ?_, ?_⟩
          · exact hnx
          all_goals first | with_reducible rfl | (simp -implicitDefEqProofs (disch := omega) only [h1, h3, h4, h10, h15, h16, h17, hh4_0, List.map_append, go_sem, ↓reduceIte, Nat.reduceAdd, Nat.reduceSub, Nat.reduceEqDiff, Nat.reduceLeDiff, reduceCtorEq]; first | done | rfl | (simp; done) | (congr 2; omega) | (congr 1; omega) | (congr 3; omega) | (simp; omega) | (congr 2; simp; omega) | (simp [sumI]; done) | (simp [sumI]; omega) | (refine ⟨_, rfl, ?_⟩; first | rfl | (simp -implicitDefEqProofs (disch := omega) only [h1, h3, h4, h10, h15, h16, h17, hh4_0, List.map_append, go_sem, ↓reduceIte, Nat.reduceAdd, Nat.reduceSub, Nat.reduceEqDiff, Nat.reduceLeDiff, reduceCtorEq]; done))) | rfl | omega | (congr 2; omega)
        · by_cases b2 : p < q
          · simp -implicitDefEqProofs (disch := omega) only [h1, h3, h4, h10, h15, h16, h17, hh4_0, hlt, hm, d1, d2, d3, b1, b2, go_sem, ↓reduceIte, Nat.reduceAdd, Nat.reduceSub, Nat.reduceEqDiff, Nat.reduceLeDiff, reduceCtorEq]
            try refine And.intro (by omega) ?_
            refine (hI _ _).2 ⟨x, ?_, ?_, ?_, ?_, ?_, ?_, ?_, ?_, ?_⟩
            · exact hnx
            all_goals first | with_reducible rfl | (simp -implicitDefEqProofs (disch := omega) only [h1, h3, h4, h10, h15, h16, h17, hh4_0, List.map_append, go_sem, ↓reduceIte, Nat.reduceAdd, Nat.reduceSub, Nat.reduceEqDiff, Nat.reduceLeDiff, reduceCtorEq]; first | done | rfl | (simp; done) | (congr 2; omega) | (congr 1; omega) | (congr 3; omega) | (simp; omega) | (congr 2; simp; omega) | (simp [sumI]; done) | (simp [sumI]; omega) | (refine ⟨_, rfl, ?_⟩; first | rfl | (simp -implicitDefEqProofs (disch := omega) only [h1, h3, h4, h10, h15, h16, h17, hh4_0, List.map_append, go_sem, ↓reduceIte, Nat.reduceAdd, Nat.reduceSub, Nat.reduceEqDiff, Nat.reduceLeDiff, reduceCtorEq]; done))) | rfl | omega | (congr 2; omega)
          · have b3 : p = q := by omega
            have b4 : x < best := by omega
            simp -implicitDefEqProofs (disch := omega) only [h1, h3, h4, h10, h15, h16, h17, hh4_0, hlt, hm, d1, d2, d3, b1, b2, b3, b4, Int.lt_irrefl, go_sem, ↓reduceIte, Nat.reduceAdd, Nat.reduceSub, Nat.reduceEqDiff, Nat.reduceLeDiff, reduceCtorEq]
            try refine And.intro (by omega) ?_
            refine (hI _ _).2 ⟨x, ?_, ?_, ?_, ?_, ?_, ?_, ?_, ?_, ?_⟩
            · exact hnx
            all_goals first | with_reducible rfl | (simp -implicitDefEqProofs (disch := omega) only [h1, h3, h4, h10, h15, h16, h17, hh4_0, List.map_append, go_sem, ↓reduceIte, Nat.reduceAdd, Nat.reduceSub, Nat.reduceEqDiff, Nat.reduceLeDiff, reduceCtorEq]; first | done | rfl | (simp; done) | (congr 2; omega) | (congr 1; omega) | (congr 3; omega) | (simp; omega) | (congr 2; simp; omega) | (simp [sumI]; done) | (simp [sumI]; omega) | (refine ⟨_, rfl, ?_⟩; first | rfl | (simp -implicitDefEqProofs (disch := omega) only [h1, h3, h4, h10, h15, h16, h17, hh4_0, List.map_append, go_sem, ↓reduceIte, Nat.reduceAdd, Nat.reduceSub, Nat.reduceEqDiff, Nat.reduceLeDiff, reduceCtorEq]; done))) | rfl | omega | (congr 2; omega)
      · have hnx := hN.keep hb
        rw [← htk] at hnx
        generalize ownC a x = p at d2 hb
        generalize ownC a best = q at d3 hb
        have b1 : ¬ best = 0 := by omega
        have b2 : ¬ p < q := by omega
        by_cases b3 : p = q
        · have b4 : ¬ x < best := by omega
          simp -implicitDefEqProofs (disch := omega) only [h1, h3, h4, h10, h15, h16, h17, hh4_0, hlt, hm, d1, d2, d3, b1, b3, b4, Int.lt_irrefl, go_sem, ↓reduceIte, Nat.reduceAdd, Nat.reduceSub, Nat.reduceEqDiff, Nat.reduceLeDiff, reduceCtorEq]
          try refine And.intro (by omega) ?_
          refine (hI _ _).2 ⟨best, ?_, ?_, ?_, ?_, ?_, ?_, ?_, ?_, ?_⟩
          · exact hnx
          all_goals first | with_reducible rfl | (simp -implicitDefEqProofs (disch := omega) only [h1, h3, h4, h10, h15, h16, h17, hh4_0, List.map_append, go_sem, ↓reduceIte, Nat.reduceAdd, Nat.reduceSub, Nat.reduceEqDiff, Nat.reduceLeDiff, reduceCtorEq]; first | done | rfl | (simp; done) | (congr 2; omega) | (congr 1; omega) | (congr 3; omega) | (simp; omega) | (congr 2; simp; omega) | (simp [sumI]; done) | (simp [sumI]; omega) | (refine ⟨_, rfl, ?_⟩; first | rfl | (simp -implicitDefEqProofs (disch := omega) only [h1, h3, h4, h10, h15, h16, h17, hh4_0, List.map_append, go_sem, ↓reduceIte, Nat.reduceAdd, Nat.reduceSub, Nat.reduceEqDiff, Nat.reduceLeDiff, reduceCtorEq]; done))) | rfl | omega | (congr 2; omega)
        · simp -implicitDefEqProofs (disch := omega) only [h1, h3, h4, h10, h15, h16, h17, hh4_0, hlt, hm, d1, d2, d3, b1, b2, b3, go_sem, ↓reduceIte, Nat.reduceAdd, Nat.reduceSub, Nat.reduceEqDiff, Nat.reduceLeDiff, reduceCtorEq]
          try refine And.intro (by omega) ?_
          refine (hI _ _).2 ⟨best, ?_, ?_, ?_, ?_, ?_, ?_, ?_, ?_, ?_⟩
          · exact hnx
          all_goals first | with_reducible rfl | (simp -implicitDefEqProofs (disch := omega) only [h1, h3, h4, h10, h15, h16, h17, hh4_0, List.map_append, go_sem, ↓reduceIte, Nat.reduceAdd, Nat.reduceSub, Nat.reduceEqDiff, Nat.reduceLeDiff, reduceCtorEq]; first | done | rfl | (simp; done) | (congr 2; omega) | (congr 1; omega) | (congr 3; omega) | (simp; omega) | (congr 2; simp; omega) | (simp [sumI]; done) | (simp [sumI]; omega) | (refine ⟨_, rfl, ?_⟩; first | rfl | (simp -implicitDefEqProofs (disch := omega) only [h1, h3, h4, h10, h15, h16, h17, hh4_0, List.map_append, go_sem, ↓reduceIte, Nat.reduceAdd, Nat.reduceSub, Nat.reduceEqDiff, Nat.reduceLeDiff, reduceCtorEq]; done))) | rfl | omega | (congr 2; omega)
  · rw [List.take_of_length_le (by omega)] at hN
    simp -implicitDefEqProofs (disch := omega) only [h1, h3, h4, h10, h15, h16, h17, hh4_0, hge, go_sem, ↓reduceIte, Nat.reduceAdd, Nat.reduceSub, Nat.reduceEqDiff, Nat.reduceLeDiff, reduceCtorEq]
    exact ⟨best, rfl, hN⟩

set_option maxHeartbeats 4000000 in
theorem accounts_eq (L : List Int) (a0 : Nat) {t : Tr} (h : TreeOk t) (hL : L.length < 4611686018427387904) : ∃ ac b, V 60 [.ptr (.arg 0 0) 0 0, t.vv] [diceB L a0] = some (.p (chsP ac), [diceB L b]) ∧ AscOk (knownN t.nodes) 0 1152921504606846976 ac := by
  suffices hw : wp (callF V vf60 [.ptr (.arg 0 0) 0 0, t.vv] [diceB L a0]) (fun r => ∃ ac b, r = (.p (chsP ac), [diceB L b]) ∧ AscOk (knownN t.nodes) 0 1152921504606846976 ac) by
    obtain ⟨r, hr, ac, b, rfl, hi⟩ := hw
    exact ⟨ac, b, V_fix (vf := vf60) rfl hr, hi⟩
  have hlen := h.len
  have h1 := next_eq L a0 8 hL (by omega)
  have n0 := nextV_nonneg L a0 8
  have n1 := nextV_lt L a0 (n := 8) (by omega)
  obtain ⟨N, hN⟩ : ∃ N : Nat, nextV L a0 8 = N := ⟨(nextV L a0 8).toNat, by omega⟩
  rw [hN] at h1 n1
  generalize nextA L a0 8 = a1 at h1
  simp -implicitDefEqProofs (disch := omega) only [vf60, vb60, h1, go_sem, ↓reduceIte, Nat.reduceAdd, Nat.reduceSub, Nat.reduceEqDiff, Nat.reduceLeDiff, reduceCtorEq]
  obtain ⟨I, hI⟩ : ∃ I : Nat → St → Prop, ∀ k s, I k s ↔ ∃ (b : Nat) (ac : List Ch), AscOk (knownN t.nodes) 0 1152921504606846976 ac ∧ s.pe 0 = .ptr (Id.arg 0 0) 0 0 ∧ s.pe 3 = .ptr (.slot 3 0) 0 0 ∧ s.pe 6 = .p (.int .i64 ((N : Int) - k)) ∧ s.h (.arg 0 0) = some (0, diceB L b) ∧ s.h (.slot 3 0) = some (0, Ob.box [.p (nodesP t.nodes), .p (.int .i64 t.next)]) ∧ fz1 [5, 33] s.h (s.pe 5) = .p (chsP ac) := ⟨_, fun _ _ => Iff.rfl⟩
  refine wp_count (N) I ?_ ?_
  · refine (hI _ _).2 ⟨a1, [], ?_, ?_, ?_, ?_, ?_, ?_, ?_⟩
    · exact ⟨fun c hc => by simp at hc, List.Pairwise.nil, fun c hc => by simp at hc⟩
    all_goals first | with_reducible rfl | (simp -implicitDefEqProofs (disch := omega) only [h1, h3, h4, h10, h15, h16, h17, hh4_0, List.map_append, go_sem, ↓reduceIte, Nat.reduceAdd, Nat.reduceSub, Nat.reduceEqDiff, Nat.reduceLeDiff, reduceCtorEq]; first | done | rfl | (simp; done) | (congr 2; omega) | (congr 1; omega) | (congr 3; omega) | (simp; omega) | (congr 2; simp; omega) | (simp [sumI]; done) | (simp [sumI]; omega) | (refine ⟨_, rfl, ?_⟩; first | rfl | (simp -implicitDefEqProofs (disch := omega) only [h1, h3, h4, h10, h15, h16, h17, hh4_0, List.map_append, go_sem, ↓reduceIte, Nat.reduceAdd, Nat.reduceSub, Nat.reduceEqDiff, Nat.reduceLeDiff, reduceCtorEq]; done))) | rfl | omega | (congr 2; omega)
  intro k s hk hIk
  obtain ⟨b, ac, hac, h0, h3, h6, ha0, hh3_0, hX⟩ := (hI _ _).1 hIk
  clear hIk
  have hal := asc_length hac
  simp -implicitDefEqProofs (disch := omega) only [h0, h3, h6, ha0, hh3_0, hX, go_sem, ↓reduceIte, Nat.reduceAdd, Nat.reduceSub, Nat.reduceEqDiff, Nat.reduceLeDiff, reduceCtorEq]
  refine wp_if_d (fun hlt => ?_) (fun hge => ?_)
  · have d1 := group_eq L b t hL (by omega)
    generalize groupD L b t.nodes = g0 at d1
    obtain ⟨g, b1⟩ := g0
    simp only at d1
    have d2 : V 48 [.ptr (.arg 0 0) 0 0, .p (intsP [1, 1000, 357913941, 1073741824])] [diceB L b1] = some (.p (.int .i64 (pickV L b1 [1, 1000, 357913941, 1073741824])), [diceB L (nextA L b1 4)]) := pick_eq L b1 _ hL (by simp) (by simp)
    generalize pickV L b1 [1, 1000, 357913941, 1073741824] = p2 at d2
    generalize nextA L b1 4 = b2 at d2
    have d3 : V 48 [.ptr (.arg 0 0) 0 0, .p (intsP [1, 10, 500])] [diceB L b2] = some (.p (.int .i64 (pickV L b2 [1, 10, 500])), [diceB L (nextA L b2 3)]) := pick_eq L b2 _ hL (by simp) (by simp)
    generalize pickV L b2 [1, 10, 500] = p3 at d3
    generalize nextA L b2 3 = b3 at d3
    have d4 : V 48 [.ptr (.arg 0 0) 0 0, .p (intsP [0, 100, 10000])] [diceB L b3] = some (.p (.int .i64 (pickV L b3 [0, 100, 10000])), [diceB L (nextA L b3 3)]) := pick_eq L b3 _ hL (by simp) (by simp)
    generalize pickV L b3 [0, 100, 10000] = p4 at d4
    generalize nextA L b3 3 = b4 at d4
    have d5 : V 48 [.ptr (.arg 0 0) 0 0, .p (intsP [0, 50])] [diceB L b4] = some (.p (.int .i64 (pickV L b4 [0, 50])), [diceB L (nextA L b4 2)]) := pick_eq L b4 _ hL (by simp) (by simp)
    generalize pickV L b4 [0, 50] = p5 at d5
    generalize nextA L b4 2 = b5 at d5
    simp only [intsP, List.map_cons, List.map_nil] at d2 d3 d4 d5
    have d6 := rissue_eq t ac g p2 p3 p4 p5 (by omega) (by omega)
    have hasc := IssueA_asc (t := t) (a := ac) (id := g) (share := p2) (cost := p3) (now := p4) (margin := p5)
    generalize IssueA t ac g p2 p3 p4 p5 = r at d6 hasc
    obtain ⟨rl, re⟩ := r
    simp only at d6 hasc
    by_cases he : re = 0
    · subst he
      simp -implicitDefEqProofs (disch := omega) only [h0, h3, h6, ha0, hh3_0, hX, hlt, d1, d2, d3, d4, d5, d6, go_sem, ↓reduceIte, Nat.reduceAdd, Nat.reduceSub, Nat.reduceEqDiff, Nat.reduceLeDiff, reduceCtorEq]
      try refine And.intro (by omega) ?_
      refine (hI _ _).2 ⟨b5, rl, ?_, ?_, ?_, ?_, ?_, ?_, ?_⟩
      · exact hasc rfl
      all_goals first | with_reducible rfl | (simp -implicitDefEqProofs (disch := omega) only [h0, h3, h6, ha0, hh3_0, hX, List.map_append, go_sem, ↓reduceIte, Nat.reduceAdd, Nat.reduceSub, Nat.reduceEqDiff, Nat.reduceLeDiff, reduceCtorEq]; first | done | rfl | (simp; done) | (congr 2; omega) | (congr 1; omega) | (congr 3; omega) | (simp; omega) | (congr 2; simp; omega) | (simp [sumI]; done) | (simp [sumI]; omega) | (refine ⟨_, rfl, ?_⟩; first | rfl | (simp -implicitDefEqProofs (disch := omega) only [h0, h3, h6, ha0, hh3_0, hX, List.map_append, go_sem, ↓reduceIte, Nat.reduceAdd, Nat.reduceSub, Nat.reduceEqDiff, Nat.reduceLeDiff, reduceCtorEq]; done))) | rfl | omega | (congr 2; omega)
    · simp -implicitDefEqProofs (disch := omega) only [h0, h3, h6, ha0, hh3_0, hX, hlt, d1, d2, d3, d4, d5, d6, he, go_sem, ↓reduceIte, Nat.reduceAdd, Nat.reduceSub, Nat.reduceEqDiff, Nat.reduceLeDiff, reduceCtorEq]
      try refine And.intro (by omega) ?_
      refine (hI _ _).2 ⟨b5, ac, ?_, ?_, ?_, ?_, ?_, ?_, ?_⟩
      · exact hac
      all_goals first | with_reducible rfl | (simp -implicitDefEqProofs (disch := omega) only [h0, h3, h6, ha0, hh3_0, hX, List.map_append, go_sem, ↓reduceIte, Nat.reduceAdd, Nat.reduceSub, Nat.reduceEqDiff, Nat.reduceLeDiff, reduceCtorEq]; first | done | rfl | (simp; done) | (congr 2; omega) | (congr 1; omega) | (congr 3; omega) | (simp; omega) | (congr 2; simp; omega) | (simp [sumI]; done) | (simp [sumI]; omega) | (refine ⟨_, rfl, ?_⟩; first | rfl | (simp -implicitDefEqProofs (disch := omega) only [h0, h3, h6, ha0, hh3_0, hX, List.map_append, go_sem, ↓reduceIte, Nat.reduceAdd, Nat.reduceSub, Nat.reduceEqDiff, Nat.reduceLeDiff, reduceCtorEq]; done))) | rfl | omega | (congr 2; omega)
  · simp -implicitDefEqProofs (disch := omega) only [h0, h3, h6, ha0, hh3_0, hX, hge, go_sem, ↓reduceIte, Nat.reduceAdd, Nat.reduceSub, Nat.reduceEqDiff, Nat.reduceLeDiff, reduceCtorEq]
    exact ⟨ac, b, rfl, hac⟩
end Go.V

