/- The value machine V at work: charges of a group itself. -/
import Derived.Test.YtcljahgcdbohaaaVK1
set_option linter.unusedSimpArgs false
set_option linter.unusedVariables false
namespace Go.V

abbrev ctrV (l : List Ch) : VVal := .agg [.p (chsP l)]
abbrev ctrF (l : List Ch) : VVal := .agg [.fresh 2 (l.map Ch.pv)]

theorem own_eq (l : List Ch) (id : Int) (hl : l.length < 1000000) : V 54 [ctrV l, .p (.int .i64 id)] [] = some (.p (.int .i64 (ownC l id)), []) := by
  refine V_wp (vf := vf54) rfl ?_
  simp -implicitDefEqProofs (disch := omega) only [vf54, vb54, go_sem, ↓reduceIte, Nat.reduceAdd, Nat.reduceSub, Nat.reduceEqDiff, Nat.reduceLeDiff, reduceCtorEq]
  refine wp_count l.length (fun k s => ownC l id = ownC (l.drop k) id ∧ s.pe 1 = .p (.int .i64 id) ∧ s.pe 8 = .p (chsP l) ∧ s.pe 9 = .p (.int .i64 l.length) ∧ s.pe 10 = .p (.int .i64 k)) ?_ ?_
  · exact ⟨rfl, rfl, rfl, rfl, rfl⟩
  · rintro k s hk ⟨ho, h1, h8, h9, h10⟩
    simp -implicitDefEqProofs (disch := omega) only [h1, h8, h9, h10, go_sem, ↓reduceIte, Nat.reduceAdd, Nat.reduceSub, Nat.reduceEqDiff, Nat.reduceLeDiff, reduceCtorEq]
    refine wp_if_d (fun hlt => ?_) (fun hge => ?_)
    · have hm : l[k]? = some l[k] := List.getElem?_eq_getElem hlt
      have hd : l.drop k = l[k] :: l.drop (k + 1) := List.drop_eq_getElem_cons hlt
      generalize l[k] = c at hm hd
      rw [hd, ownC] at ho
      by_cases he : c.group = id
      · rw [if_pos he] at ho
        simp -implicitDefEqProofs (disch := omega) only [h1, h8, h9, h10, hlt, hm, he, ho, go_sem, ↓reduceIte, Nat.reduceAdd, Nat.reduceSub, Nat.reduceEqDiff, Nat.reduceLeDiff, reduceCtorEq]
      · rw [if_neg he] at ho
        simp -implicitDefEqProofs (disch := omega) only [h1, h8, h9, h10, hlt, hm, he, go_sem, ↓reduceIte, Nat.reduceAdd, Nat.reduceSub, Nat.reduceEqDiff, Nat.reduceLeDiff, reduceCtorEq]
        exact ⟨ho, rfl⟩
    · rw [List.drop_of_length_le (by omega), ownC] at ho
      simp -implicitDefEqProofs (disch := omega) only [h1, h8, h9, h10, hge, ho, go_sem, ↓reduceIte, Nat.reduceAdd, Nat.reduceSub, Nat.reduceEqDiff, Nat.reduceLeDiff, reduceCtorEq]

theorem rown_eq (l : List Ch) (id : Int) (hl : l.length < 1000000) : V 104 [ctrV l, .p (.int .i64 id)] [] = some (.p (.int .i64 (ownC l id)), []) := by
  refine V_wp (vf := vf104) rfl ?_
  simp -implicitDefEqProofs (disch := omega) only [vf104, vb104, go_sem, ↓reduceIte, Nat.reduceAdd, Nat.reduceSub, Nat.reduceEqDiff, Nat.reduceLeDiff, reduceCtorEq]
  refine wp_count l.length (fun k s => ownC l id = ownC (l.drop k) id ∧ s.pe 1 = .p (.int .i64 id) ∧ s.pe 2 = .ptr (.slot 2 0) 0 0 ∧ s.pe 5 = .p (.int .i64 k) ∧ s.h (.slot 2 0) = some (0, .box [.p (chsP l)])) ?_ ?_
  · exact ⟨rfl, rfl, rfl, rfl, rfl⟩
  · rintro k s hk ⟨ho, h1, h2, h5, hh2⟩
    simp -implicitDefEqProofs (disch := omega) only [h1, h2, h5, hh2, go_sem, ↓reduceIte, Nat.reduceAdd, Nat.reduceSub, Nat.reduceEqDiff, Nat.reduceLeDiff, reduceCtorEq]
    refine wp_if_d (fun hlt => ?_) (fun hge => ?_)
    · have hm : l[k]? = some l[k] := List.getElem?_eq_getElem hlt
      have hd : l.drop k = l[k] :: l.drop (k + 1) := List.drop_eq_getElem_cons hlt
      generalize l[k] = c at hm hd
      rw [hd, ownC] at ho
      by_cases he : c.group = id
      · rw [if_pos he] at ho
        simp -implicitDefEqProofs (disch := omega) only [h1, h2, h5, hh2, hlt, hm, he, ho, go_sem, ↓reduceIte, Nat.reduceAdd, Nat.reduceSub, Nat.reduceEqDiff, Nat.reduceLeDiff, reduceCtorEq]
      · rw [if_neg he] at ho
        simp -implicitDefEqProofs (disch := omega) only [h1, h2, h5, hh2, hlt, hm, he, go_sem, ↓reduceIte, Nat.reduceAdd, Nat.reduceSub, Nat.reduceEqDiff, Nat.reduceLeDiff, reduceCtorEq]
        exact ⟨ho, rfl⟩
    · rw [List.drop_of_length_le (by omega), ownC] at ho
      simp -implicitDefEqProofs (disch := omega) only [h1, h2, h5, hh2, hge, ho, go_sem, ↓reduceIte, Nat.reduceAdd, Nat.reduceSub, Nat.reduceEqDiff, Nat.reduceLeDiff, reduceCtorEq]

set_option maxHeartbeats 1000000 in
theorem with_eq (l : List Ch) (id v : Int) (hl : l.length < 1000000) : V 94 [ctrV l, .p (.int .i64 id), .p (.int .i64 v)] [] = some (ctrF (withC l id v), []) := by
  refine V_wp (vf := vf94) rfl ?_
  simp -implicitDefEqProofs (disch := omega) only [vf94, vb94, go_sem, ↓reduceIte, Nat.reduceAdd, Nat.reduceSub, Nat.reduceEqDiff, Nat.reduceLeDiff, reduceCtorEq]
  refine wp_count l.length (fun k s => ∃ (acc : List Ch) (d : Bool) (w : Nat), withC l id v = acc ++ withGo id v d (l.drop k) ∧ acc.length ≤ 2 * k ∧ s.pe 1 = .p (.int .i64 id) ∧ s.pe 2 = .p (.int .i64 v) ∧ s.pe 6 = .ptr (.slot 6 0) 0 0 ∧ s.pe 7 = .ptr (.slot 7 0) 0 0 ∧ s.pe 8 = .p (.bool d) ∧ s.pe 14 = .p (chsP l) ∧ s.pe 15 = .p (.int .i64 l.length) ∧ s.pe 16 = .p (.int .i64 k) ∧ s.h (.slot 6 0) = some (0, .box [.own (.slot 6 1) 0 0 0]) ∧ s.h (.slot 7 0) = some (0, .box [.own (.slot 7 1) w 0 acc.length]) ∧ s.h (.slot 7 1) = some (w, .arr 2 (acc.map Ch.pv))) ?_ ?_
  · exact ⟨[], decide (v = 0), 0, rfl, Nat.le_refl _, rfl, rfl, rfl, rfl, by simp -implicitDefEqProofs (disch := omega) only [go_sem, ↓reduceIte, Nat.reduceAdd, Nat.reduceSub, Nat.reduceEqDiff, Nat.reduceLeDiff, reduceCtorEq], rfl, rfl, rfl, rfl, rfl, rfl⟩
  · rintro k s hk ⟨acc, d, w, hw, hal, h1, h2, h6, h7, h8, h14, h15, h16, hh6, hh7, hh71⟩
    simp -implicitDefEqProofs (disch := omega) only [h1, h2, h6, h7, h8, h14, h15, h16, hh6, hh7, hh71, go_sem, ↓reduceIte, Nat.reduceAdd, Nat.reduceSub, Nat.reduceEqDiff, Nat.reduceLeDiff, reduceCtorEq]
    refine wp_if_d (fun hlt => ?_) (fun hge => ?_)
    · have hm : l[k]? = some l[k] := List.getElem?_eq_getElem hlt
      have hd : l.drop k = l[k] :: l.drop (k + 1) := List.drop_eq_getElem_cons hlt
      generalize l[k] = c at hm hd
      rw [hd, withGo] at hw
      cases d with
      | true =>
        by_cases he : c.group = id
        · simp only [he, Bool.not_true, Bool.false_and, Bool.false_eq_true, if_false, if_true, List.nil_append, List.append_nil, Bool.true_or] at hw
          simp -implicitDefEqProofs (disch := omega) only [h1, h2, h6, h7, h8, h14, h15, h16, hh6, hh7, hh71, hlt, hm, he, go_sem, ↓reduceIte, Nat.reduceAdd, Nat.reduceSub, Nat.reduceEqDiff, Nat.reduceLeDiff, reduceCtorEq]
          refine ⟨acc, true, w, hw, by omega, ?_⟩
          simp
        · simp only [he, Bool.not_true, Bool.false_and, Bool.false_eq_true, if_false, List.nil_append, Bool.true_or, ← List.append_assoc] at hw
          simp -implicitDefEqProofs (disch := omega) only [h1, h2, h6, h7, h8, h14, h15, h16, hh6, hh7, hh71, hlt, hm, he, go_sem, ↓reduceIte, Nat.reduceAdd, Nat.reduceSub, Nat.reduceEqDiff, Nat.reduceLeDiff, reduceCtorEq]
          refine ⟨acc ++ [c], true, w + 1, hw, by simp; omega, rfl, rfl, ?_⟩
          simp [Ch.pv]
      | false =>
        by_cases hge : id ≤ c.group
        · by_cases he : c.group = id
          · simp only [he, Int.le_refl, decide_true, Bool.not_false, Bool.and_self, if_true, List.append_nil, Bool.or_true, ← List.append_assoc] at hw
            simp -implicitDefEqProofs (disch := omega) only [h1, h2, h6, h7, h8, h14, h15, h16, hh6, hh7, hh71, hlt, hm, hge, he, Int.le_refl, decide_true, go_sem, ↓reduceIte, Nat.reduceAdd, Nat.reduceSub, Nat.reduceEqDiff, Nat.reduceLeDiff, reduceCtorEq]
            refine ⟨acc ++ [⟨id, v⟩], true, w + 1, hw, by simp; omega, rfl, rfl, ?_⟩
            simp [Ch.pv]
          · simp only [he, hge, decide_true, Bool.not_false, Bool.and_self, if_true, if_false, Bool.or_true, ← List.append_assoc] at hw
            simp -implicitDefEqProofs (disch := omega) only [h1, h2, h6, h7, h8, h14, h15, h16, hh6, hh7, hh71, hlt, hm, hge, he, go_sem, ↓reduceIte, Nat.reduceAdd, Nat.reduceSub, Nat.reduceEqDiff, Nat.reduceLeDiff, reduceCtorEq]
            refine ⟨acc ++ [⟨id, v⟩] ++ [c], true, w + 1 + 1, hw, by simp; omega, rfl, rfl, ?_⟩
            simp [Ch.pv]
        · have he : ¬ c.group = id := by omega
          simp only [he, hge, decide_false, Bool.not_false, Bool.and_false, Bool.false_eq_true, if_false, List.nil_append, Bool.or_false, ← List.append_assoc] at hw
          simp -implicitDefEqProofs (disch := omega) only [h1, h2, h6, h7, h8, h14, h15, h16, hh6, hh7, hh71, hlt, hm, hge, he, go_sem, ↓reduceIte, Nat.reduceAdd, Nat.reduceSub, Nat.reduceEqDiff, Nat.reduceLeDiff, reduceCtorEq]
          refine ⟨acc ++ [c], false, w + 1, hw, by simp; omega, rfl, rfl, ?_⟩
          simp [Ch.pv]
    · rw [List.drop_of_length_le (by omega), withGo] at hw
      cases d with
      | true =>
        simp only [if_true, List.append_nil] at hw
        simp -implicitDefEqProofs (disch := omega) only [h1, h2, h6, h7, h8, h14, h15, h16, hh6, hh7, hh71, hge, go_sem, ↓reduceIte, Nat.reduceAdd, Nat.reduceSub, Nat.reduceEqDiff, Nat.reduceLeDiff, reduceCtorEq]
        rw [hw]
      | false =>
        simp only [Bool.false_eq_true, if_false] at hw
        simp -implicitDefEqProofs (disch := omega) only [h1, h2, h6, h7, h8, h14, h15, h16, hh6, hh7, hh71, hge, go_sem, ↓reduceIte, Nat.reduceAdd, Nat.reduceSub, Nat.reduceEqDiff, Nat.reduceLeDiff, reduceCtorEq]
        rw [hw]
        simp [Ch.pv]
end Go.V

