/- The value machine V at work: all functions of the counter against the reference's. -/
import Derived.Test.YthmbpjnpcjfdiaaVN1
set_option linter.unusedSimpArgs false
set_option linter.unusedVariables false
namespace Go.V

set_option maxHeartbeats 1000000 in
theorem samei_eq (a b : List Int) (hl : a.length < 1000000) : V 37 [.p (intsP a), .p (intsP b)] [] = some (.p (.bool (decide (a = b))), []) := by
  refine V_wp (vf := vf37) rfl ?_
  by_cases hlen : a.length = b.length
  · simp -implicitDefEqProofs (disch := omega) only [vf37, vb37, hlen, bne_self_eq_false, go_sem, ↓reduceIte, Nat.reduceAdd, Nat.reduceSub, Nat.reduceEqDiff, Nat.reduceLeDiff, reduceCtorEq]
    obtain ⟨I, hI⟩ : ∃ I : Nat → St → Prop, ∀ k s, I k s ↔ a.take k = b.take k ∧ s.pe 0 = .p (intsP a) ∧ s.pe 1 = .p (intsP b) ∧ s.pe 5 = .p (.int .i64 k) := ⟨_, fun _ _ => Iff.rfl⟩
    refine wp_count (a.length) I ?_ ?_
    · refine (hI _ _).2 ⟨?_, ?_, ?_, ?_⟩
      · exact by first | rfl | omega | (simp; done) | (simp; omega)
      all_goals first | with_reducible rfl | (simp -implicitDefEqProofs (disch := omega) only [List.map_append, go_sem, ↓reduceIte, Nat.reduceAdd, Nat.reduceSub, Nat.reduceEqDiff, Nat.reduceLeDiff, reduceCtorEq]; first | done | rfl | (simp; done) | (congr 2; omega) | (congr 1; omega) | (congr 3; omega) | (simp; omega) | (congr 2; simp; omega) | (refine ⟨_, rfl, ?_⟩; first | rfl | (simp -implicitDefEqProofs (disch := omega) only [List.map_append, go_sem, ↓reduceIte, Nat.reduceAdd, Nat.reduceSub, Nat.reduceEqDiff, Nat.reduceLeDiff, reduceCtorEq]; done))) | rfl | omega | (congr 2; omega)
    intro k s hk hIk
    obtain ⟨hq, h0, h1, h5⟩ := (hI _ _).1 hIk
    clear hIk
    simp -implicitDefEqProofs (disch := omega) only [h0, h1, h5, go_sem, ↓reduceIte, Nat.reduceAdd, Nat.reduceSub, Nat.reduceEqDiff, Nat.reduceLeDiff, reduceCtorEq]
    refine wp_if_d (fun hlt => ?_) (fun hge => ?_)
    · have hm : a[k]? = some a[k] := List.getElem?_eq_getElem hlt
      have hm' : b[k]? = some b[k] := List.getElem?_eq_getElem (by omega)
      have t1 := take_snoc hm
      have t2 := take_snoc hm'
      generalize a[k] = x at hm t1
      generalize b[k] = y at hm' t2
      by_cases he : x = y
      · subst he
        simp -implicitDefEqProofs (disch := omega) only [h0, h1, h5, hlt, hm, hm', bne_self_eq_false, go_sem, ↓reduceIte, Nat.reduceAdd, Nat.reduceSub, Nat.reduceEqDiff, Nat.reduceLeDiff, reduceCtorEq]
        try refine And.intro (by omega) ?_
        refine (hI _ _).2 ⟨?_, ?_, ?_, ?_⟩
        · exact by rw [t1, t2, hq]
        all_goals first | with_reducible rfl | (simp -implicitDefEqProofs (disch := omega) only [h0, h1, h5, List.map_append, go_sem, ↓reduceIte, Nat.reduceAdd, Nat.reduceSub, Nat.reduceEqDiff, Nat.reduceLeDiff, reduceCtorEq]; first | done | rfl | (simp; done) | (congr 2; omega) | (congr 1; omega) | (congr 3; omega) | (simp; omega) | (congr 2; simp; omega) | (refine ⟨_, rfl, ?_⟩; first | rfl | (simp -implicitDefEqProofs (disch := omega) only [h0, h1, h5, List.map_append, go_sem, ↓reduceIte, Nat.reduceAdd, Nat.reduceSub, Nat.reduceEqDiff, Nat.reduceLeDiff, reduceCtorEq]; done))) | rfl | omega | (congr 2; omega)
      · have hne : ¬ a = b := by
          rintro rfl
          rw [hm] at hm'
          exact he (Option.some.inj hm')
        simp -implicitDefEqProofs (disch := omega) only [h0, h1, h5, hlt, hm, hm', he, hne, go_sem, ↓reduceIte, Nat.reduceAdd, Nat.reduceSub, Nat.reduceEqDiff, Nat.reduceLeDiff, reduceCtorEq]
        try simp [he, hne]
    · rw [List.take_of_length_le (by omega), List.take_of_length_le (by omega)] at hq
      subst hq
      simp -implicitDefEqProofs (disch := omega) only [h0, h1, h5, hge, go_sem, ↓reduceIte, Nat.reduceAdd, Nat.reduceSub, Nat.reduceEqDiff, Nat.reduceLeDiff, reduceCtorEq]
      try simp
  · have hne : ¬ a = b := fun h => hlen (by rw [h])
    have hlen' : ¬ (a.length : Int) = b.length := by omega
    simp -implicitDefEqProofs (disch := omega) only [vf37, vb37, hlen', hne, go_sem, ↓reduceIte, Nat.reduceAdd, Nat.reduceSub, Nat.reduceEqDiff, Nat.reduceLeDiff, reduceCtorEq]
    try simp [hne, hlen']

theorem AddK_len (t : Tr) (c : List Ch) (id n : Int) : (AddK t c id n).1.length ≤ c.length + 1 := by
  have := withC_length c id (ownC c id + n)
  unfold AddK addK
  split
  · split
    · simp
    · split
      · simp
      · exact this
  · simp
theorem ChargeK_len (t : Tr) (c l : List Ch) (id n : Int) : (ChargeK t c l id n).1.length ≤ c.length + 1 := by
  have h : (addK t c id n).1.length ≤ c.length + 1 := by
    have := withC_length c id (ownC c id + n)
    unfold addK
    split
    · simp
    · split
      · simp
      · exact this
  unfold ChargeK
  split
  · split
    · split
      · simp
      · split
        · exact h
        · split
          · simp
          · exact h
    · simp
  · simp
theorem RemK_len (t : Tr) (c : List Ch) (id : Int) : (RemK t c id).1.length ≤ c.length + 2 := by
  have h := withC_length c id 0
  unfold RemK
  split
  · split
    · simp
    · split
      · simp
      · split
        · simp only; omega
        · have := withC_length (withC c id 0) ((findN t.nodes id).getD zeroNd).parent (ownC c ((findN t.nodes id).getD zeroNd).parent + ownC c id)
          simp only
          omega
  · simp
theorem TotalsK_len (t : Tr) (c : List Ch) : (TotalsK t c).1.length ≤ t.nodes.length := by
  unfold TotalsK
  split
  · simp only [List.length_map]
    exact List.length_filter_le _ _
  · simp
theorem OverK_len (t : Tr) (c l : List Ch) : (OverK t c l).1.length ≤ l.length := by
  unfold OverK
  split
  · simp only [List.length_map]
    exact List.length_filter_le _ _
  · simp

set_option maxHeartbeats 4000000 in
theorem exact22_eq (t : Tr) (c l : List Ch) (id n : Int) (hf : t.Fits) (hn : t.nodes.length < 1000000) (hc : c.length < 900000) (hl : l.length < 900000) : V 12 [t.vv, ctrV c, .p (chsP l), .p (.int .i64 id), .p (.int .i64 n)] [] = some (.p (.bool true), []) := by
  refine V_wp (vf := vf12) rfl ?_
  have a1 := total_eq t c id hf hn (by omega)
  have a2 := rtotal_eq t c id hn (by omega)
  have a3 := kvalid_eq t c hf hn (by omega)
  have a4 := rvalidK_eq t c hn (by omega)
  have a5 := klimits_eq t l hf hn (by omega)
  have a6 := rlimits_eq t l hn (by omega)
  have a7 := own_eq c id (by omega)
  have a8 := rown_eq c id (by omega)
  have a9 := Add_eq t c id n hf hn (by omega)
  have a10 := rAdd_eq t c id n hn (by omega)
  have a11 := charge_eq t c l id n hf hn (by omega) (by omega)
  have a12 := rcharge_eq t c l id n hn (by omega) (by omega)
  have l1 := AddK_len t c id n
  have l2 := ChargeK_len t c l id n
  have l3 := RemK_len t c id
  have l4 := TotalsK_len t c
  have l5 := OverK_len t c l
  have a13 := same_eq (AddK t c id n).1 (AddK t c id n).1 (by omega)
  have a14 := same_eq (ChargeK t c l id n).1 (ChargeK t c l id n).1 (by omega)
  have a15 := over_eq t c l hf hn (by omega) (by omega)
  have a16 := rover_eq t c l hn (by omega) (by omega)
  have a17 := totals_eq t c hf hn (by omega)
  have a18 := rtotals_eq t c hn (by omega)
  have a19 := samei_eq (OverK t c l).1 (OverK t c l).1 (by omega)
  have a20 := same_eq (TotalsK t c).1 (TotalsK t c).1 (by omega)
  have a21 := Rem_eq t c id hf hn hc
  have a22 := rRem_eq t c id hn hc
  have a23 := same_eq (RemK t c id).1 (RemK t c id).1 (by omega)
  rw [decide_eq_true rfl] at a13 a14 a19 a20 a23
  generalize totK t c id = g1 at *
  generalize checkK t c id = g2 at *
  generalize validK t c = g3 at *
  generalize validLK t l = g4 at *
  generalize ownC c id = g5 at *
  generalize AddK t c id n = g6 at *
  generalize ChargeK t c l id n = g7 at *
  generalize RemK t c id = g8 at *
  generalize TotalsK t c = g9 at *
  generalize OverK t c l = g10 at *
  simp -implicitDefEqProofs (disch := omega) only [vf12, vb12, a1, a2, a3, a4, a5, a6, a7, a8, a9, a10, a11, a12, a13, a14, a15, a16, a17, a18, a19, a20, a21, a22, a23, bne_self_eq_false, beq_self_eq_true, Bool.not_true, go_sem, ↓reduceIte, Nat.reduceAdd, Nat.reduceSub, Nat.reduceEqDiff, Nat.reduceLeDiff, reduceCtorEq]
  try simp
end Go.V

