/- The value machine V at work: trees out of dice. -/
import Derived.Test.YtcljahgcdbohaaaVTree
set_option linter.unusedSimpArgs false
set_option linter.unusedVariables false
namespace Go.V

/-- One step of the making of a tree. -/
def treeStep (L : List Int) (a : Nat) (t : Tr) : Tr × Nat :=
  let a1 := nextA L a t.nodes.length
  let p := ((t.nodes[(nextV L a t.nodes.length).toNat]?).map (·.id)).getD 0
  let r := addT t p (nameV L a1)
  let a2 := nextA L a1 6
  let t1 := if r.2.2 = 0 then r.1 else t
  let a3 := nextA L a2 6
  if nextV L a2 6 = 5 then
    let q := ((t1.nodes[(nextV L a3 t1.nodes.length).toNat]?).map (·.id)).getD 0
    let u := removeT t1 q
    (if u.2 = 0 then u.1 else t1, nextA L a3 t1.nodes.length)
  else (t1, a3)
def treeLoop (L : List Int) : Nat → Nat → Tr → Tr × Nat
  | 0, a, t => (t, a)
  | k + 1, a, t => treeLoop L k (treeStep L a t).2 (treeStep L a t).1
def dTree (L : List Int) (a : Nat) (n : Nat) : Tr × Nat := treeLoop L (nextV L a (n + 1)).toNat (nextA L a (n + 1)) newT

theorem treeStep_ok (L : List Int) (a : Nat) {t : Tr} (h : TreeOk t) : TreeOk (treeStep L a t).1 := by
  have h1 : ∀ p s, TreeOk (if (addT t p s).2.2 = 0 then (addT t p s).1 else t) := fun p s => by
    split
    · exact (addT_ok (by assumption)).2.1
    · exact h
  unfold treeStep
  simp only
  split
  · have h2 : ∀ (u : Tr) (q : Int), TreeOk u → TreeOk (if (removeT u q).2 = 0 then (removeT u q).1 else u) := fun u q hu => by
      split
      · exact (removeT_ok (by assumption)).2.1
      · exact hu
    exact h2 _ _ (h1 _ _)
  · exact h1 _ _
theorem treeLoop_ok (L : List Int) : ∀ (k a : Nat) {t : Tr}, TreeOk t → TreeOk (treeLoop L k a t).1
  | 0, _, _, h => h
  | k + 1, a, _, h => treeLoop_ok L k _ (treeStep_ok L a h)
theorem dTree_ok (L : List Int) (a n : Nat) : TreeOk (dTree L a n).1 := treeLoop_ok L _ _ newT_ok

set_option maxHeartbeats 4000000 in
theorem tree_eq (L : List Int) (a n : Nat) (hL : L.length < 4611686018427387904) (hn : n < 1000) : V 23 [.ptr (.arg 0 0) 0 0, .p (.int .i64 n)] [diceB L a] = some ((dTree L a n).1.vv, [diceB L (dTree L a n).2]) := by
  refine V_wp (vf := vf23) rfl ?_
  have hnx := next_eq L a ((n : Int) + 1) hL (by omega)
  have hn0 := nextV_nonneg L a ((n : Int) + 1)
  have hn1 := nextV_lt L a (n := (n : Int) + 1) (by omega)
  simp -implicitDefEqProofs (disch := omega) only [vf23, vb23, rnew_eq, hnx, go_sem, ↓reduceIte, Nat.reduceAdd, Nat.reduceSub, Nat.reduceEqDiff, Nat.reduceLeDiff, reduceCtorEq]
  refine wp_meas (σ := Nat × Nat × Tr) (fun x s => TreeOk x.2.2 ∧ x.1 < 1000 ∧ treeLoop L x.1 x.2.1 x.2.2 = dTree L a n ∧ s.pe 0 = .ptr (.arg 0 0) 0 0 ∧ s.pe 4 = .ptr (.slot 4 0) 0 0 ∧ s.pe 5 = .ptr (.slot 5 0) 0 0 ∧ s.pe 6 = .p (.int .i64 x.1) ∧ s.h (.arg 0 0) = some (0, diceB L x.2.1) ∧ s.h (.slot 4 0) = some (0, .box [.own (.slot 4 1) 0 0 0, .p (.int .i64 0)]) ∧
    ∃ X, s.h (.slot 5 0) = some (0, .box [X, .p (.int .i64 x.2.2.next)]) ∧ fz0 [8, 11, 13, 37, 58] s.h X = .p (nodesP x.2.2.nodes)) (fun x => x.1) ((nextV L a (n + 1)).toNat, nextA L a (n + 1), newT) ?_ ?_
  · refine ⟨newT_ok, by omega, rfl, ?_⟩
    simp -implicitDefEqProofs (disch := omega) only [Int.toNat_of_nonneg hn0, go_sem, ↓reduceIte, Nat.reduceAdd, Nat.reduceSub, Nat.reduceEqDiff, Nat.reduceLeDiff, reduceCtorEq]
    refine ⟨_, rfl, ?_⟩
    simp -implicitDefEqProofs (disch := omega) only [go_sem, ↓reduceIte, Nat.reduceAdd, Nat.reduceSub, Nat.reduceEqDiff, Nat.reduceLeDiff, reduceCtorEq]
  · rintro ⟨k, b, t⟩ s ⟨hok, hk, htl, h0, h4, h5, h6, hh0, hh4, X, hh5, hX⟩
    simp only at hok hk htl h6 hh0 hh5 hX
    simp -implicitDefEqProofs (disch := omega) only [h0, h4, h5, h6, hh0, hh4, hh5, hX, go_sem, ↓reduceIte, Nat.reduceAdd, Nat.reduceSub, Nat.reduceEqDiff, Nat.reduceLeDiff, reduceCtorEq]
    refine wp_if_d (fun hgt => ?_) (fun hle => ?_)
    · obtain ⟨k', rfl⟩ : ∃ k', k = k' + 1 := ⟨k - 1, by omega⟩
      have hlen := hok.len
      have c1 := next_eq L b t.nodes.length hL (by omega)
      have c2 := nextV_nonneg L b t.nodes.length
      have c3 := nextV_lt L b (n := t.nodes.length) (by omega)
      have hm : t.nodes[(nextV L b t.nodes.length).toNat]? = some t.nodes[(nextV L b t.nodes.length).toNat] := List.getElem?_eq_getElem (by omega)
      generalize t.nodes[(nextV L b t.nodes.length).toNat]'(by omega) = m at hm
      have c4 := name_eq L (nextA L b t.nodes.length) hL
      have c5 := radd_eq t m.id (nameV L (nextA L b t.nodes.length)) (by omega)
      have c6 : V 72 [.ptr (.arg 0 0) 0 0, .p (.int .i64 6)] [diceB L (nextA L (nextA L b t.nodes.length) 6)] = some (.p (.bool (decide (nextV L (nextA L (nextA L b t.nodes.length) 6) 6 = 5))), [diceB L (nextA L (nextA L (nextA L b t.nodes.length) 6) 6)]) := bool_eq L _ 6 hL (by omega) (by omega)
      have hst : treeLoop L k' (treeStep L b t).2 (treeStep L b t).1 = dTree L a n := htl
      have hstok := treeStep_ok L b hok
      obtain ⟨t1, ht1, h1ok⟩ : ∃ t1, t1 = (if (addT t m.id (nameV L (nextA L b t.nodes.length))).2.2 = 0 then (addT t m.id (nameV L (nextA L b t.nodes.length))).1 else t) ∧ TreeOk t1 := ⟨_, rfl, by
        split
        · exact (addT_ok (by assumption)).2.1
        · exact hok⟩
      have hlen1 := h1ok.len
      have d1 := next_eq L (nextA L (nextA L (nextA L b t.nodes.length) 6) 6) t1.nodes.length hL (by omega)
      have d2 := nextV_nonneg L (nextA L (nextA L (nextA L b t.nodes.length) 6) 6) t1.nodes.length
      have d3 := nextV_lt L (nextA L (nextA L (nextA L b t.nodes.length) 6) 6) (n := t1.nodes.length) (by omega)
      have hq : t1.nodes[(nextV L (nextA L (nextA L (nextA L b t.nodes.length) 6) 6) t1.nodes.length).toNat]? = some t1.nodes[(nextV L (nextA L (nextA L (nextA L b t.nodes.length) 6) 6) t1.nodes.length).toNat] := List.getElem?_eq_getElem (by omega)
      generalize t1.nodes[(nextV L (nextA L (nextA L (nextA L b t.nodes.length) 6) 6) t1.nodes.length).toNat]'(by omega) = q at hq
      have d4 := rremove_eq t1 q.id (by omega)
      have hstep : treeStep L b t = if nextV L (nextA L (nextA L b t.nodes.length) 6) 6 = 5 then (if (removeT t1 q.id).2 = 0 then (removeT t1 q.id).1 else t1, nextA L (nextA L (nextA L (nextA L b t.nodes.length) 6) 6) t1.nodes.length) else (t1, nextA L (nextA L (nextA L b t.nodes.length) 6) 6) := by
        simp only [treeStep, hm, Option.map_some, Option.getD_some, ← ht1, hq]
      rw [hstep] at hst hstok
      by_cases he : (addT t m.id (nameV L (nextA L b t.nodes.length))).2.2 = 0
      · rw [if_pos he] at ht1
        simp -implicitDefEqProofs (disch := omega) only [h0, h4, h5, h6, hh0, hh4, hh5, hX, c1, c2, hm, c4, c5, c6, he, ← ht1, go_sem, ↓reduceIte, Nat.reduceAdd, Nat.reduceSub, Nat.reduceEqDiff, Nat.reduceLeDiff, reduceCtorEq]
        refine wp_if_d (fun h5b => ?_) (fun h5b => ?_)
        · rw [if_pos h5b] at hst hstok
          by_cases hr : (removeT t1 q.id).2 = 0
          · rw [if_pos hr] at hst hstok
            simp -implicitDefEqProofs (disch := omega) only [h0, h4, h5, h6, hh0, hh4, hh5, hX, d1, d2, hq, d4, hr, go_sem, ↓reduceIte, Nat.reduceAdd, Nat.reduceSub, Nat.reduceEqDiff, Nat.reduceLeDiff, reduceCtorEq]
            refine ⟨(k', nextA L (nextA L (nextA L (nextA L b t.nodes.length) 6) 6) t1.nodes.length, (removeT t1 q.id).1), Nat.lt_succ_self _, hstok, by simp only; omega, hst, ?_⟩
            simp -implicitDefEqProofs (disch := omega) only [h0, h4, h5, h6, hh0, hh4, hh5, hX, go_sem, ↓reduceIte, Nat.reduceAdd, Nat.reduceSub, Nat.reduceEqDiff, Nat.reduceLeDiff, reduceCtorEq]
            refine ⟨by congr 2; omega, _, rfl, ?_⟩
            simp -implicitDefEqProofs (disch := omega) only [go_sem, ↓reduceIte, Nat.reduceAdd, Nat.reduceSub, Nat.reduceEqDiff, Nat.reduceLeDiff, reduceCtorEq]
          · rw [if_neg hr] at hst hstok
            simp -implicitDefEqProofs (disch := omega) only [h0, h4, h5, h6, hh0, hh4, hh5, hX, d1, d2, hq, d4, hr, go_sem, ↓reduceIte, Nat.reduceAdd, Nat.reduceSub, Nat.reduceEqDiff, Nat.reduceLeDiff, reduceCtorEq]
            refine ⟨(k', nextA L (nextA L (nextA L (nextA L b t.nodes.length) 6) 6) t1.nodes.length, t1), Nat.lt_succ_self _, hstok, by simp only; omega, hst, ?_⟩
            simp -implicitDefEqProofs (disch := omega) only [h0, h4, h5, h6, hh0, hh4, hh5, hX, go_sem, ↓reduceIte, Nat.reduceAdd, Nat.reduceSub, Nat.reduceEqDiff, Nat.reduceLeDiff, reduceCtorEq]
            refine ⟨by congr 2; omega, _, rfl, ?_⟩
            simp -implicitDefEqProofs (disch := omega) only [go_sem, ↓reduceIte, Nat.reduceAdd, Nat.reduceSub, Nat.reduceEqDiff, Nat.reduceLeDiff, reduceCtorEq]
        · rw [if_neg h5b] at hst hstok
          simp -implicitDefEqProofs (disch := omega) only [h0, h4, h5, h6, hh0, hh4, hh5, hX, go_sem, ↓reduceIte, Nat.reduceAdd, Nat.reduceSub, Nat.reduceEqDiff, Nat.reduceLeDiff, reduceCtorEq]
          refine ⟨(k', nextA L (nextA L (nextA L b t.nodes.length) 6) 6, t1), Nat.lt_succ_self _, hstok, by simp only; omega, hst, ?_⟩
          simp -implicitDefEqProofs (disch := omega) only [h0, h4, h5, h6, hh0, hh4, hh5, hX, go_sem, ↓reduceIte, Nat.reduceAdd, Nat.reduceSub, Nat.reduceEqDiff, Nat.reduceLeDiff, reduceCtorEq]
          refine ⟨by congr 2; omega, _, rfl, ?_⟩
          simp -implicitDefEqProofs (disch := omega) only [go_sem, ↓reduceIte, Nat.reduceAdd, Nat.reduceSub, Nat.reduceEqDiff, Nat.reduceLeDiff, reduceCtorEq]
      · rw [if_neg he] at ht1
        subst ht1
        simp -implicitDefEqProofs (disch := omega) only [h0, h4, h5, h6, hh0, hh4, hh5, hX, c1, c2, hm, c4, c5, c6, he, go_sem, ↓reduceIte, Nat.reduceAdd, Nat.reduceSub, Nat.reduceEqDiff, Nat.reduceLeDiff, reduceCtorEq]
        refine wp_if_d (fun h5b => ?_) (fun h5b => ?_)
        · rw [if_pos h5b] at hst hstok
          by_cases hr : (removeT t1 q.id).2 = 0
          · rw [if_pos hr] at hst hstok
            simp -implicitDefEqProofs (disch := omega) only [h0, h4, h5, h6, hh0, hh4, hh5, hX, d1, d2, hq, d4, hr, go_sem, ↓reduceIte, Nat.reduceAdd, Nat.reduceSub, Nat.reduceEqDiff, Nat.reduceLeDiff, reduceCtorEq]
            refine ⟨(k', nextA L (nextA L (nextA L (nextA L b t1.nodes.length) 6) 6) t1.nodes.length, (removeT t1 q.id).1), Nat.lt_succ_self _, hstok, by simp only; omega, hst, ?_⟩
            simp -implicitDefEqProofs (disch := omega) only [h0, h4, h5, h6, hh0, hh4, hh5, hX, go_sem, ↓reduceIte, Nat.reduceAdd, Nat.reduceSub, Nat.reduceEqDiff, Nat.reduceLeDiff, reduceCtorEq]
            refine ⟨by congr 2; omega, _, rfl, ?_⟩
            simp -implicitDefEqProofs (disch := omega) only [go_sem, ↓reduceIte, Nat.reduceAdd, Nat.reduceSub, Nat.reduceEqDiff, Nat.reduceLeDiff, reduceCtorEq]
          · rw [if_neg hr] at hst hstok
            simp -implicitDefEqProofs (disch := omega) only [h0, h4, h5, h6, hh0, hh4, hh5, hX, d1, d2, hq, d4, hr, go_sem, ↓reduceIte, Nat.reduceAdd, Nat.reduceSub, Nat.reduceEqDiff, Nat.reduceLeDiff, reduceCtorEq]
            refine ⟨(k', nextA L (nextA L (nextA L (nextA L b t1.nodes.length) 6) 6) t1.nodes.length, t1), Nat.lt_succ_self _, hstok, by simp only; omega, hst, ?_⟩
            simp -implicitDefEqProofs (disch := omega) only [h0, h4, h5, h6, hh0, hh4, hh5, hX, go_sem, ↓reduceIte, Nat.reduceAdd, Nat.reduceSub, Nat.reduceEqDiff, Nat.reduceLeDiff, reduceCtorEq]
            refine ⟨by congr 2; omega, _, rfl, ?_⟩
            simp -implicitDefEqProofs (disch := omega) only [go_sem, ↓reduceIte, Nat.reduceAdd, Nat.reduceSub, Nat.reduceEqDiff, Nat.reduceLeDiff, reduceCtorEq]
        · rw [if_neg h5b] at hst hstok
          simp -implicitDefEqProofs (disch := omega) only [h0, h4, h5, h6, hh0, hh4, hh5, hX, go_sem, ↓reduceIte, Nat.reduceAdd, Nat.reduceSub, Nat.reduceEqDiff, Nat.reduceLeDiff, reduceCtorEq]
          refine ⟨(k', nextA L (nextA L (nextA L b t1.nodes.length) 6) 6, t1), Nat.lt_succ_self _, hstok, by simp only; omega, hst, ?_⟩
          simp -implicitDefEqProofs (disch := omega) only [h0, h4, h5, h6, hh0, hh4, hh5, hX, go_sem, ↓reduceIte, Nat.reduceAdd, Nat.reduceSub, Nat.reduceEqDiff, Nat.reduceLeDiff, reduceCtorEq]
          refine ⟨by congr 2; omega, _, rfl, ?_⟩
          simp -implicitDefEqProofs (disch := omega) only [go_sem, ↓reduceIte, Nat.reduceAdd, Nat.reduceSub, Nat.reduceEqDiff, Nat.reduceLeDiff, reduceCtorEq]
    · have hk0 : k = 0 := by omega
      subst hk0
      simp only [treeLoop] at htl
      simp -implicitDefEqProofs (disch := omega) only [h0, h4, h5, h6, hh0, hh4, hh5, hX, go_sem, ↓reduceIte, Nat.reduceAdd, Nat.reduceSub, Nat.reduceEqDiff, Nat.reduceLeDiff, reduceCtorEq]
      rw [← htl]
end Go.V
