/- The value machine V at work: totals and additions. -/
import Derived.Test.YtcljahgcdbohaaaVK2
import Derived.Test.YtcljahgcdbohaaaVK3
import Derived.Test.YtcljahgcdbohaaaVK4
set_option linter.unusedSimpArgs false
set_option linter.unusedVariables false
namespace Go.V

def checkK (t : Tr) (l : List Ch) (id : Int) : Int := if validK t l = true then (if (findN t.nodes id).isSome = true then 0 else 4) else 1

theorem kcheck_eq (t : Tr) (l : List Ch) (id : Int) (hf : t.Fits) (hn : t.nodes.length < 1000000) (hl : l.length < 1000000) : V 90 [t.vv, ctrV l, .p (.int .i64 id)] [] = some (.p (.int .i64 (checkK t l id)), []) := by
  refine V_wp (vf := vf90) rfl ?_
  have hv := kvalid_eq t l hf hn hl
  have hfi := ffind_eq t id hn
  unfold checkK
  cases hvv : validK t l with
  | false =>
    rw [hvv] at hv
    simp -implicitDefEqProofs (disch := omega) only [vf90, vb90, hv, go_sem, ↓reduceIte, Nat.reduceAdd, Nat.reduceSub, Nat.reduceEqDiff, Nat.reduceLeDiff, reduceCtorEq]
    try rfl
  | true =>
    rw [hvv] at hv
    generalize (findN t.nodes id).getD zeroNd = nd at hfi
    cases hfs : (findN t.nodes id).isSome with
    | false =>
      rw [hfs] at hfi
      simp -implicitDefEqProofs (disch := omega) only [vf90, vb90, hv, hfi, Nd.vv, go_sem, ↓reduceIte, Nat.reduceAdd, Nat.reduceSub, Nat.reduceEqDiff, Nat.reduceLeDiff, reduceCtorEq]
      try rfl
    | true =>
      rw [hfs] at hfi
      simp -implicitDefEqProofs (disch := omega) only [vf90, vb90, hv, hfi, Nd.vv, go_sem, ↓reduceIte, Nat.reduceAdd, Nat.reduceSub, Nat.reduceEqDiff, Nat.reduceLeDiff, reduceCtorEq]
      try rfl

theorem validK_iff (t : Tr) (l : List Ch) : validK t l = true ↔ TreeOk t ∧ ChOk t.nodes l := by
  unfold validK
  rw [Bool.and_eq_true, treeOk_iff, chOk_iff]
theorem checkK_zero {t : Tr} {l : List Ch} {id : Int} : checkK t l id = 0 ↔ TreeOk t ∧ ChOk t.nodes l ∧ ∃ (i : Nat) (n : Nd), t.nodes[i]? = some n ∧ n.id = id := by
  unfold checkK
  by_cases hv : validK t l = true
  · rw [if_pos hv]
    obtain ⟨h1, h2⟩ := (validK_iff t l).1 hv
    by_cases hs : (findN t.nodes id).isSome = true
    · rw [if_pos hs]
      obtain ⟨n, hn, he⟩ := findN_some hs
      obtain ⟨i, hi⟩ := List.getElem?_of_mem hn
      exact ⟨fun _ => ⟨h1, h2, i, n, hi, he⟩, fun _ => rfl⟩
    · rw [if_neg hs]
      constructor
      · intro h; omega
      · rintro ⟨_, _, i, n, hi, rfl⟩
        rw [findN_unique h1.inc hi] at hs
        simp at hs
  · rw [if_neg hv]
    constructor
    · intro h; omega
    · rintro ⟨h1, h2, _⟩
      exact absurd ((validK_iff t l).2 ⟨h1, h2⟩) hv

def totK (t : Tr) (l : List Ch) (id : Int) : Int := if checkK t l id = 0 then tot t (ownC l) id else 0

theorem total_eq (t : Tr) (l : List Ch) (id : Int) (hf : t.Fits) (hn : t.nodes.length < 1000000) (hl : l.length < 1000000) : V 53 [t.vv, ctrV l, .p (.int .i64 id)] [] = some (.tup [.p (.int .i64 (totK t l id)), .p (.int .i64 (checkK t l id))], []) := by
  refine V_wp (vf := vf53) rfl ?_
  have hc := kcheck_eq t l id hf hn hl
  unfold totK
  by_cases h0 : checkK t l id = 0
  · obtain ⟨h1, h2, i, n, hi, rfl⟩ := checkK_zero.1 h0
    obtain ⟨ks, vs, hs, hg⟩ := sums_eq h1 h2 hn hl
    have hgi := hg i n hi
    rw [h0] at hc
    rw [if_pos h0]
    generalize tot t (ownC l) n.id = T at hgi
    simp -implicitDefEqProofs (disch := omega) only [vf53, vb53, hc, hs, hgi, go_sem, ↓reduceIte, Nat.reduceAdd, Nat.reduceSub, Nat.reduceEqDiff, Nat.reduceLeDiff, reduceCtorEq]
    rw [h0]
  · rw [if_neg h0]
    generalize checkK t l id = e at hc h0
    simp -implicitDefEqProofs (disch := omega) only [vf53, vb53, hc, h0, go_sem, ↓reduceIte, Nat.reduceAdd, Nat.reduceSub, Nat.reduceEqDiff, Nat.reduceLeDiff, reduceCtorEq]

def addK (t : Tr) (l : List Ch) (id n : Int) : List Ch × Int :=
  if n < -16777216 ∨ 16777216 < n ∨ ownC l id + n < 0 then ([], 3) else if 16777216 < tot t (ownC l) 1 + n then ([], 7) else (withC l id (ownC l id + n), 0)

theorem root_at {t : Tr} (h : TreeOk t) : ∃ r, t.nodes[0]? = some r ∧ r.id = 1 := by
  obtain ⟨r, ns, hr, h1, _⟩ := h.root
  exact ⟨r, by rw [hr]; rfl, h1⟩

set_option maxHeartbeats 1000000 in
theorem add_eq {t : Tr} {l : List Ch} (h : TreeOk t) (hc : ChOk t.nodes l) (id n : Int) (hn : t.nodes.length < 1000000) (hl : l.length < 1000000) : V 95 [t.vv, ctrV l, .p (.int .i64 id), .p (.int .i64 n)] [] = some (.tup [ctrF (addK t l id n).1, .p (.int .i64 (addK t l id n).2)], []) := by
  refine V_wp (vf := vf95) rfl ?_
  have ho := own_eq l id hl
  have o0 := ownC_nonneg hc.pos id
  have o1 := ownC_le hc.pos id
  have o2 := hc.all
  obtain ⟨r, hr, hr1⟩ := root_at h
  obtain ⟨ks, vs, hs, hg⟩ := sums_eq h hc hn hl
  have hg1 := hg 0 r hr
  have t0 := tot_nonneg t (ownC_nonneg hc.pos) r.id
  have t1 := tot_le h hc hr
  have hwi := with_eq l id (ownC l id + n) hl
  rw [hr1] at hg1 t0 t1
  unfold addK
  generalize ownC l id = o at ho o0 o1 hwi
  generalize tot t (ownC l) 1 = T at hg1 t0 t1
  generalize withC l id (o + n) = W at hwi
  by_cases n1 : n < -16777216
  · rw [if_pos (Or.inl n1)]
    simp -implicitDefEqProofs (disch := omega) only [vf95, vb95, n1, go_sem, ↓reduceIte, Nat.reduceAdd, Nat.reduceSub, Nat.reduceEqDiff, Nat.reduceLeDiff, reduceCtorEq]
    try rfl
  · by_cases n2 : 16777216 < n
    · rw [if_pos (Or.inr (Or.inl n2))]
      simp -implicitDefEqProofs (disch := omega) only [vf95, vb95, n1, n2, go_sem, ↓reduceIte, Nat.reduceAdd, Nat.reduceSub, Nat.reduceEqDiff, Nat.reduceLeDiff, reduceCtorEq]
      try rfl
    · by_cases n3 : o + n < 0
      · rw [if_pos (Or.inr (Or.inr n3))]
        simp -implicitDefEqProofs (disch := omega) only [vf95, vb95, n1, n2, n3, ho, go_sem, ↓reduceIte, Nat.reduceAdd, Nat.reduceSub, Nat.reduceEqDiff, Nat.reduceLeDiff, reduceCtorEq]
        try rfl
      · rw [if_neg (by omega)]
        by_cases n4 : 16777216 < T + n
        · rw [if_pos n4]
          simp -implicitDefEqProofs (disch := omega) only [vf95, vb95, n1, n2, n3, n4, ho, hs, hg1, go_sem, ↓reduceIte, Nat.reduceAdd, Nat.reduceSub, Nat.reduceEqDiff, Nat.reduceLeDiff, reduceCtorEq]
          try rfl
        · rw [if_neg n4]
          simp -implicitDefEqProofs (disch := omega) only [vf95, vb95, n1, n2, n3, n4, ho, hs, hg1, hwi, go_sem, ↓reduceIte, Nat.reduceAdd, Nat.reduceSub, Nat.reduceEqDiff, Nat.reduceLeDiff, reduceCtorEq]

def AddK (t : Tr) (l : List Ch) (id n : Int) : List Ch × Int := if checkK t l id = 0 then addK t l id n else ([], checkK t l id)

theorem Add_eq (t : Tr) (l : List Ch) (id n : Int) (hf : t.Fits) (hn : t.nodes.length < 1000000) (hl : l.length < 1000000) : V 57 [t.vv, ctrV l, .p (.int .i64 id), .p (.int .i64 n)] [] = some (.tup [ctrF (AddK t l id n).1, .p (.int .i64 (AddK t l id n).2)], []) := by
  refine V_wp (vf := vf57) rfl ?_
  have hc := kcheck_eq t l id hf hn hl
  unfold AddK
  by_cases h0 : checkK t l id = 0
  · obtain ⟨h1, h2, _⟩ := checkK_zero.1 h0
    have ha := add_eq h1 h2 id n hn hl
    rw [h0] at hc
    rw [if_pos h0]
    generalize addK t l id n = r at ha
    simp -implicitDefEqProofs (disch := omega) only [vf57, vb57, hc, ha, go_sem, ↓reduceIte, Nat.reduceAdd, Nat.reduceSub, Nat.reduceEqDiff, Nat.reduceLeDiff, reduceCtorEq]
  · rw [if_neg h0]
    generalize checkK t l id = e at hc h0
    simp -implicitDefEqProofs (disch := omega) only [vf57, vb57, hc, h0, go_sem, ↓reduceIte, Nat.reduceAdd, Nat.reduceSub, Nat.reduceEqDiff, Nat.reduceLeDiff, reduceCtorEq]
    try rfl
end Go.V

