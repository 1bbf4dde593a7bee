/- The value machine V at work: subtrees, and whether a list has a number. -/
import Derived.Test.YtcljahgcdbohaaaVSub
import Derived.Test.YtcljahgcdbohaaaVC19b
set_option linter.unusedSimpArgs false
set_option linter.unusedVariables false
namespace Go.V

theorem has3_eq (xs : List Int) (x : Int) (hl : xs.length < 1000000) : V 32 [.p (intsP xs), .p (.int .i64 x)] [] = some (.p (.bool (decide (x ∈ xs))), []) := by
  refine V_wp (vf := vf32) rfl ?_
  simp -implicitDefEqProofs (disch := omega) only [vf32, vb32, go_sem, ↓reduceIte, Nat.reduceAdd, Nat.reduceSub, Nat.reduceEqDiff, Nat.reduceLeDiff, reduceCtorEq]
  refine wp_count xs.length (fun k s => (∀ (i : Nat) (y : Int), i < k → xs[i]? = some y → ¬ y = x) ∧ s.pe 0 = .p (intsP xs) ∧ s.pe 1 = .p (.int .i64 x) ∧ s.pe 5 = .p (.int .i64 k)) ?_ ?_
  · exact ⟨fun i _ hi => absurd hi (Nat.not_lt_zero i), rfl, rfl, rfl⟩
  · rintro k s hk ⟨hno, h0, h1, h5⟩
    simp -implicitDefEqProofs (disch := omega) only [h0, h1, h5, go_sem, ↓reduceIte, Nat.reduceAdd, Nat.reduceSub, Nat.reduceEqDiff, Nat.reduceLeDiff, reduceCtorEq]
    refine wp_if_d (fun hlt => ?_) (fun hge => ?_)
    · have hm : xs[k]? = some xs[k] := List.getElem?_eq_getElem hlt
      generalize xs[k] = y at hm
      by_cases hy : y = x
      · have hin : decide (x ∈ xs) = true := decide_eq_true (hy ▸ List.mem_of_getElem? hm)
        simp -implicitDefEqProofs (disch := omega) only [h0, h1, h5, hm, hy, go_sem, ↓reduceIte, Nat.reduceAdd, Nat.reduceSub, Nat.reduceEqDiff, Nat.reduceLeDiff, reduceCtorEq]
        rw [hin]
      · simp -implicitDefEqProofs (disch := omega) only [h0, h1, h5, hm, hy, go_sem, ↓reduceIte, Nat.reduceAdd, Nat.reduceSub, Nat.reduceEqDiff, Nat.reduceLeDiff, reduceCtorEq]
        refine ⟨hlt, fun i z hi hz => ?_, rfl⟩
        rcases Nat.lt_succ_iff_lt_or_eq.1 hi with h | rfl
        · exact hno i z h hz
        · rw [hm] at hz; cases hz; exact hy
    · have hin : decide (x ∈ xs) = false := decide_eq_false fun h => by
        obtain ⟨i, hi⟩ := List.getElem?_of_mem h
        exact hno i x (by have := (List.getElem?_eq_some_iff.1 hi).1; omega) hi rfl
      simp -implicitDefEqProofs (disch := omega) only [h0, h1, h5, hge, go_sem, ↓reduceIte, Nat.reduceAdd, Nat.reduceSub, Nat.reduceEqDiff, Nat.reduceLeDiff, reduceCtorEq]
      rw [hin]

theorem kids_kidsN {t : Tr} {id : Int} (h : (findT t id).isSome = true) : kids t id = kidsN t.nodes id := by
  rw [kids, if_pos h]; rfl

set_option maxHeartbeats 2000000 in
theorem rsub_eq0 {t : Tr} (h : TreeOk t) : ∀ (k i : Nat) (n : Nd), t.nodes[i]? = some n → t.nodes.length ≤ i + k → V 33 [t.vv, .p (.int .i64 n.id)] [] = some (.fresh 1 ((subF t.nodes k n.id).map (.int .i64)), []) := by
  intro k
  induction k with
  | zero => intro i n hn hk; have := (List.getElem?_eq_some_iff.1 hn).1; omega
  | succ k ih =>
    intro i n hn hk
    have hlen := h.len
    have hft : (findT t n.id).isSome = true := by rw [findT, if_pos ((treeOk_iff t).2 h), findN_unique h.inc hn]; rfl
    refine V_wp (vf := vf33) rfl ?_
    have hh := rhas_eq t n.id (by omega)
    rw [hft] at hh
    have hkd := rkids_eq t n.id (by omega)
    rw [kids_kidsN hft] at hkd
    have hsl := subF_length h hn hk
    have hkl : (kidsN t.nodes n.id).length ≤ t.nodes.length := by
      have := List.length_filter_le (fun m : Nd => decide (m.parent = n.id)) t.nodes
      simpa [kidsN] using this
    have hsf : subF t.nodes (k + 1) n.id = n.id :: (kidsN t.nodes n.id).flatMap (subF t.nodes k) := rfl
    have hkm : ∀ c ∈ kidsN t.nodes n.id, V 33 [t.vv, .p (.int .i64 c)] [] = some (.fresh 1 ((subF t.nodes k c).map (.int .i64)), []) := by
      intro c hc
      obtain ⟨j, m, hj, hp, rfl⟩ := mem_kidsN.1 hc
      have hij := h.kid hn hj hp
      exact ih j m hj (by omega)
    rw [hsf] at hsl ⊢
    generalize kidsN t.nodes n.id = ks at hkd hkl hkm hsl
    simp -implicitDefEqProofs (disch := omega) only [vf33, vb33, hh, hkd, go_sem, ↓reduceIte, Nat.reduceAdd, Nat.reduceSub, Nat.reduceEqDiff, Nat.reduceLeDiff, reduceCtorEq]
    refine wp_count ks.length (fun j s => ∃ (acc : List Int) (v : Nat), acc = n.id :: (ks.take j).flatMap (subF t.nodes k) ∧ s.pe 2 = .ptr (.slot 2 0) 0 0 ∧ s.pe 5 = .own (.slot 13 0) v 0 acc.length ∧ s.pe 6 = .own (.slot 16 1) 0 0 ks.length ∧ s.pe 7 = .p (.int .i64 j) ∧ s.h (.slot 2 0) = some (0, .box [.p (nodesP t.nodes), .p (.int .i64 t.next)]) ∧ s.h (.slot 13 0) = some (v, .arr 1 (acc.map (.int .i64))) ∧ s.h (.slot 16 1) = some (0, .arr 1 (ks.map (.int .i64)))) ?_ ?_
    · exact ⟨[n.id], 0, rfl, by simp -implicitDefEqProofs (disch := omega) only [go_sem, ↓reduceIte, Nat.reduceAdd, Nat.reduceSub, Nat.reduceEqDiff, Nat.reduceLeDiff, reduceCtorEq], by simp -implicitDefEqProofs (disch := omega) only [go_sem, ↓reduceIte, Nat.reduceAdd, Nat.reduceSub, Nat.reduceEqDiff, Nat.reduceLeDiff, reduceCtorEq], by simp -implicitDefEqProofs (disch := omega) only [go_sem, ↓reduceIte, Nat.reduceAdd, Nat.reduceSub, Nat.reduceEqDiff, Nat.reduceLeDiff, reduceCtorEq], rfl, by simp -implicitDefEqProofs (disch := omega) only [go_sem, ↓reduceIte, Nat.reduceAdd, Nat.reduceSub, Nat.reduceEqDiff, Nat.reduceLeDiff, reduceCtorEq], by simp -implicitDefEqProofs (disch := omega) only [go_sem, ↓reduceIte, Nat.reduceAdd, Nat.reduceSub, Nat.reduceEqDiff, Nat.reduceLeDiff, reduceCtorEq], by simp -implicitDefEqProofs (disch := omega) only [go_sem, ↓reduceIte, Nat.reduceAdd, Nat.reduceSub, Nat.reduceEqDiff, Nat.reduceLeDiff, reduceCtorEq]⟩
    · rintro j s hj ⟨acc, v, hacc, h2, h5, h6, h7, hh2, hh13, hh16⟩
      have hal : acc.length + ((ks.drop j).flatMap (subF t.nodes k)).length ≤ t.nodes.length := by
        rw [hacc]
        have : ks.flatMap (subF t.nodes k) = (ks.take j).flatMap (subF t.nodes k) ++ (ks.drop j).flatMap (subF t.nodes k) := by
          rw [← List.flatMap_append, List.take_append_drop]
        rw [this] at hsl
        simp only [List.length_cons, List.length_append] at hsl ⊢
        omega
      simp -implicitDefEqProofs (disch := omega) only [h2, h5, h6, h7, hh2, hh13, hh16, go_sem, ↓reduceIte, Nat.reduceAdd, Nat.reduceSub, Nat.reduceEqDiff, Nat.reduceLeDiff, reduceCtorEq]
      refine wp_if_d (fun hlt => ?_) (fun hge => ?_)
      · have hm : ks[j]? = some ks[j] := List.getElem?_eq_getElem hlt
        have hdr : ks.drop j = ks[j] :: ks.drop (j + 1) := List.drop_eq_getElem_cons hlt
        generalize ks[j] = c at hm hdr
        have hc := hkm c (List.mem_of_getElem? hm)
        rw [hdr, List.flatMap_cons, List.length_append] at hal
        have htk : (ks.take (j + 1)).flatMap (subF t.nodes k) = (ks.take j).flatMap (subF t.nodes k) ++ subF t.nodes k c := by
          rw [take_snoc hm, List.flatMap_append]
          simp
        generalize subF t.nodes k c = sc at hc hal htk
        simp -implicitDefEqProofs (disch := omega) only [h2, h5, h6, h7, hh2, hh13, hh16, hm, hc, hlt, go_sem, ↓reduceIte, Nat.reduceAdd, Nat.reduceSub, Nat.reduceEqDiff, Nat.reduceLeDiff, reduceCtorEq]
        refine ⟨acc ++ sc, v + 1, by rw [htk, hacc]; simp, by simp, rfl, ?_⟩
        simp
      · rw [List.take_of_length_le (by omega)] at hacc
        simp -implicitDefEqProofs (disch := omega) only [h2, h5, h6, h7, hh2, hh13, hh16, hge, go_sem, ↓reduceIte, Nat.reduceAdd, Nat.reduceSub, Nat.reduceEqDiff, Nat.reduceLeDiff, reduceCtorEq]
        rw [hacc]
        rfl

theorem rsub_eq {t : Tr} (id : Int) (hl : t.nodes.length < 1000000) : V 33 [t.vv, .p (.int .i64 id)] [] = some (.fresh 1 ((subT t id).map (.int .i64)), []) := by
  cases hft : (findT t id).isSome with
  | false =>
    refine V_wp (vf := vf33) rfl ?_
    have hh := rhas_eq t id (by omega)
    rw [hft] at hh
    simp -implicitDefEqProofs (disch := omega) only [vf33, vb33, hh, go_sem, ↓reduceIte, Nat.reduceAdd, Nat.reduceSub, Nat.reduceEqDiff, Nat.reduceLeDiff, reduceCtorEq]
    simp [subT, hft]
  | true =>
    have hok : TreeOk t := by
      rw [findT] at hft
      split at hft
      · rename_i h; exact (treeOk_iff t).1 h
      · cases hft
    rw [findT, if_pos ((treeOk_iff t).2 hok)] at hft
    obtain ⟨n, hn, rfl⟩ := findN_some hft
    obtain ⟨i, hi⟩ := List.getElem?_of_mem hn
    rw [rsub_eq0 hok t.nodes.length i n hi (by omega), subT, findT, if_pos ((treeOk_iff t).2 hok), if_pos hft]
end Go.V
