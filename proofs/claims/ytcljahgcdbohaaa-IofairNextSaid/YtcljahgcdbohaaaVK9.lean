/- The value machine V at work: the reference's charges. -/
import Derived.Test.YtcljahgcdbohaaaVK8
set_option linter.unusedSimpArgs false
set_option linter.unusedVariables false
namespace Go.V

theorem findT_ok {t : Tr} (h : treeOk t = true) (id : Int) : findT t id = findN t.nodes id := by simp [findT, h]

set_option maxHeartbeats 1000000 in
theorem rcharges_eq (t : Tr) (l : List Ch) (lo : Int) (ht : treeOk t = true) (hn : t.nodes.length < 1000000) (hl : l.length < 1000000) : V 126 [t.vv, .p (chsP l), .p (.int .i64 lo)] [] = some (.p (.bool (ascOk (knownN t.nodes) lo 16777216 none l)), []) := by
  refine V_wp (vf := vf126) rfl ?_
  simp -implicitDefEqProofs (disch := omega) only [vf126, vb126, go_sem, ↓reduceIte, Nat.reduceAdd, Nat.reduceSub, Nat.reduceEqDiff, Nat.reduceLeDiff, reduceCtorEq]
  obtain ⟨I, hI⟩ : ∃ I : Nat → St → Prop, ∀ k s, I k s ↔ ascOk (knownN t.nodes) lo 16777216 none l = ascOk (knownN t.nodes) lo 16777216 (prevG l k) (l.drop k) ∧ s.pe 1 = .p (chsP l) ∧ s.pe 2 = .p (.int .i64 lo) ∧ s.pe 3 = .ptr (.slot 3 0) 0 0 ∧ s.pe 7 = .p (.int .i64 k) ∧ s.h (.slot 3 0) = some (0, Ob.box [.p (nodesP t.nodes), .p (.int .i64 t.next)]) := ⟨_, fun _ _ => Iff.rfl⟩
  refine wp_count (l.length) I ?_ ?_
  · refine (hI _ _).2 ⟨?_, ?_, ?_, ?_, ?_, ?_⟩
    · exact by first | rfl | omega | (simp; done) | (simp; omega)
    all_goals first | with_reducible rfl | (simp -implicitDefEqProofs (disch := omega) only [List.map_append, go_sem, ↓reduceIte, Nat.reduceAdd, Nat.reduceSub, Nat.reduceEqDiff, Nat.reduceLeDiff, reduceCtorEq]; first | done | rfl | (simp; done) | (congr 2; omega) | (congr 1; omega) | (congr 3; omega) | (simp; omega) | (congr 2; simp; omega) | (refine ⟨_, rfl, ?_⟩; first | rfl | (simp -implicitDefEqProofs (disch := omega) only [List.map_append, go_sem, ↓reduceIte, Nat.reduceAdd, Nat.reduceSub, Nat.reduceEqDiff, Nat.reduceLeDiff, reduceCtorEq]; done))) | rfl | omega | (congr 2; omega)
  intro k s hk hIk
  obtain ⟨hq, h1, h2, h3, h7, hh3_0⟩ := (hI _ _).1 hIk
  clear hIk
  simp -implicitDefEqProofs (disch := omega) only [h1, h2, h3, h7, hh3_0, go_sem, ↓reduceIte, Nat.reduceAdd, Nat.reduceSub, Nat.reduceEqDiff, Nat.reduceLeDiff, reduceCtorEq]
  refine wp_if_d (fun hlt => ?_) (fun hge => ?_)
  · have hm : l[k]? = some l[k] := List.getElem?_eq_getElem hlt
    generalize l[k] = c at hm
    have hg := asc_good hq hm
    have hb' := asc_bad hq hm
    have hfi := rhas_eq t c.group hn
    rw [findT_ok ht] at hfi
    have hkn : knownN t.nodes c.group = (findN t.nodes c.group).isSome := rfl
    generalize (findN t.nodes c.group).isSome = kn at hfi hkn
    by_cases hk0 : (0 : Int) < k
    · obtain ⟨e, he, he'⟩ := prev_at hm hk0
      have hk1 : (0 : Int) ≤ (k : Int) - 1 := by omega
      rw [ascAt_succ hk0 he, hkn] at hg hb'
      simp -implicitDefEqProofs (disch := omega) only [h1, h2, h3, h7, hh3_0, hlt, hm, hfi, hk0, hk1, he', go_sem, ↓reduceIte, Nat.reduceAdd, Nat.reduceSub, Nat.reduceEqDiff, Nat.reduceLeDiff, reduceCtorEq]
      repeat' ((first | refine wp_grn_d (fun hb => ?_) (fun hb => ?_) | refine wp_gtn_d (fun hb => ?_) (fun hb => ?_) | refine wp_gr_d (fun hb => ?_) (fun hb => ?_) | refine wp_gt_d (fun hb => ?_) (fun hb => ?_) | refine wp_gr (fun hb => ?_) (fun hb => ?_) | refine wp_gt (fun hb => ?_) (fun hb => ?_) | refine wp_nt_d (fun hb => ?_) (fun hb => ?_) | refine wp_nt (fun hb => ?_) (fun hb => ?_) | refine wp_if_d (fun hb => ?_) (fun hb => ?_) | refine wp_if (fun hb => ?_) (fun hb => ?_)) <;> simp -implicitDefEqProofs (disch := omega) only [hb, h1, h2, h3, h7, hh3_0, hlt, hm, hfi, hk0, hk1, he', go_sem, ↓reduceIte, Nat.reduceAdd, Nat.reduceSub, Nat.reduceEqDiff, Nat.reduceLeDiff, reduceCtorEq])
      all_goals first
        | (rw [hb' (by first | (rintro ⟨h1, h2, h3, h4⟩; omega) | simp_all)]; done)
        | skip
      try refine And.intro (by omega) ?_
      refine (hI _ _).2 ⟨?_, ?_, ?_, ?_, ?_, ?_⟩
      · exact hg ⟨by first | assumption | (cases kn <;> simp_all), by omega, by omega, by omega⟩
      all_goals first | with_reducible rfl | (simp -implicitDefEqProofs (disch := omega) only [h1, h2, h3, h7, hh3_0, List.map_append, go_sem, ↓reduceIte, Nat.reduceAdd, Nat.reduceSub, Nat.reduceEqDiff, Nat.reduceLeDiff, reduceCtorEq]; first | done | rfl | (simp; done) | (congr 2; omega) | (congr 1; omega) | (congr 3; omega) | (simp; omega) | (congr 2; simp; omega) | (refine ⟨_, rfl, ?_⟩; first | rfl | (simp -implicitDefEqProofs (disch := omega) only [h1, h2, h3, h7, hh3_0, List.map_append, go_sem, ↓reduceIte, Nat.reduceAdd, Nat.reduceSub, Nat.reduceEqDiff, Nat.reduceLeDiff, reduceCtorEq]; done))) | rfl | omega | (congr 2; omega)
    · rw [ascAt_zero hk0, hkn] at hg hb'
      simp -implicitDefEqProofs (disch := omega) only [h1, h2, h3, h7, hh3_0, hlt, hm, hfi, hk0, go_sem, ↓reduceIte, Nat.reduceAdd, Nat.reduceSub, Nat.reduceEqDiff, Nat.reduceLeDiff, reduceCtorEq]
      repeat' ((first | refine wp_grn_d (fun hb => ?_) (fun hb => ?_) | refine wp_gtn_d (fun hb => ?_) (fun hb => ?_) | refine wp_gr_d (fun hb => ?_) (fun hb => ?_) | refine wp_gt_d (fun hb => ?_) (fun hb => ?_) | refine wp_gr (fun hb => ?_) (fun hb => ?_) | refine wp_gt (fun hb => ?_) (fun hb => ?_) | refine wp_nt_d (fun hb => ?_) (fun hb => ?_) | refine wp_nt (fun hb => ?_) (fun hb => ?_) | refine wp_if_d (fun hb => ?_) (fun hb => ?_) | refine wp_if (fun hb => ?_) (fun hb => ?_)) <;> simp -implicitDefEqProofs (disch := omega) only [hb, h1, h2, h3, h7, hh3_0, hlt, hm, hfi, hk0, go_sem, ↓reduceIte, Nat.reduceAdd, Nat.reduceSub, Nat.reduceEqDiff, Nat.reduceLeDiff, reduceCtorEq])
      all_goals first
        | (rw [hb' (by first | (rintro ⟨h1, h2, h3⟩; omega) | simp_all)]; done)
        | skip
      try refine And.intro (by omega) ?_
      refine (hI _ _).2 ⟨?_, ?_, ?_, ?_, ?_, ?_⟩
      · exact hg ⟨by first | assumption | (cases kn <;> simp_all), by omega, by omega⟩
      all_goals first | with_reducible rfl | (simp -implicitDefEqProofs (disch := omega) only [h1, h2, h3, h7, hh3_0, List.map_append, go_sem, ↓reduceIte, Nat.reduceAdd, Nat.reduceSub, Nat.reduceEqDiff, Nat.reduceLeDiff, reduceCtorEq]; first | done | rfl | (simp; done) | (congr 2; omega) | (congr 1; omega) | (congr 3; omega) | (simp; omega) | (congr 2; simp; omega) | (refine ⟨_, rfl, ?_⟩; first | rfl | (simp -implicitDefEqProofs (disch := omega) only [h1, h2, h3, h7, hh3_0, List.map_append, go_sem, ↓reduceIte, Nat.reduceAdd, Nat.reduceSub, Nat.reduceEqDiff, Nat.reduceLeDiff, reduceCtorEq]; done))) | rfl | omega | (congr 2; omega)
  · have hT := asc_end hq (by omega)
    simp -implicitDefEqProofs (disch := omega) only [h1, h2, h3, h7, hh3_0, hge, hT, go_sem, ↓reduceIte, Nat.reduceAdd, Nat.reduceSub, Nat.reduceEqDiff, Nat.reduceLeDiff, reduceCtorEq]

/-! ### sums of charges -/

theorem nodup_groups {l : List Ch} (h : l.Pairwise fun a b => a.group < b.group) : (l.map (·.group)).Nodup := by
  rw [List.Nodup, List.pairwise_map]
  exact h.imp fun hab => by omega
theorem asc_length {ns : List Nd} {lo hi : Int} {l : List Ch} (h : AscOk (knownN ns) lo hi l) : l.length ≤ ns.length := by
  have := nodup_length_le (l.map (·.group)) (ns.map (·.id)) (nodup_groups h.inc) (fun x hx => by
    obtain ⟨c, hc, rfl⟩ := List.mem_map.1 hx
    obtain ⟨n, hn, he⟩ := findN_some (h.known c hc)
    exact List.mem_map.2 ⟨n, hn, he⟩)
  simpa using this
theorem sum_bound {hi : Int} : ∀ (l : List Ch), (∀ c ∈ l, 0 ≤ c.own ∧ c.own ≤ hi) → 0 ≤ sumI (l.map (·.own)) ∧ sumI (l.map (·.own)) ≤ l.length * hi
  | [], _ => by simp [sumI]
  | c :: l, h => by
    have h0 := h c (List.mem_cons_self ..)
    have h1 := sum_bound l fun d hd => h d (List.mem_cons_of_mem _ hd)
    simp only [List.map_cons, sumI, List.length_cons, Int.natCast_add]
    have : ((l.length : Int) + (1 : Nat)) * hi = l.length * hi + hi := by rw [Int.add_mul]; simp
    omega

theorem validK_asc (t : Tr) (l : List Ch) (ht : treeOk t = true) : validK t l = (ascOk (knownN t.nodes) 1 16777216 none l && decide (sumI (l.map (·.own)) ≤ 16777216)) := by
  rw [Bool.eq_iff_iff, Bool.and_eq_true, ascOk_iff, decide_eq_true_eq, validK_iff]
  constructor
  · rintro ⟨_, h⟩
    refine ⟨⟨h.known, h.inc, fun c hc => ⟨h.pos c hc, ?_⟩⟩, h.all⟩
    have := ownC_le h.pos c.group
    have h3 := h.all
    have h4 : c.own ≤ sumI (l.map (·.own)) := by
      have := sumI_mem_le' l h.pos c hc
      exact this
    omega
  · rintro ⟨h, hs⟩
    exact ⟨(treeOk_iff t).1 ht, ⟨h.known, h.inc, fun c hc => (h.range c hc).1, hs⟩⟩
where
  sumI_mem_le' : ∀ (l : List Ch), (∀ c ∈ l, 1 ≤ c.own) → ∀ c ∈ l, c.own ≤ sumI (l.map (·.own))
  | [], _, _, h => by cases h
  | d :: l, hp, c, h => by
    have h0 := hp d (List.mem_cons_self ..)
    have h1 := sumI_map_nonneg l (f := (·.own)) fun z hz => by have := hp z (List.mem_cons_of_mem _ hz); omega
    simp only [List.map_cons, sumI]
    rcases List.mem_cons.1 h with rfl | h
    · omega
    · have := sumI_mem_le' l (fun z hz => hp z (List.mem_cons_of_mem _ hz)) c h
      omega

set_option maxHeartbeats 1000000 in
theorem rvalidK_eq (t : Tr) (l : List Ch) (hn : t.nodes.length < 1000000) (hl : l.length < 1000000) : V 102 [t.vv, ctrV l] [] = some (.p (.bool (validK t l)), []) := by
  refine V_wp (vf := vf102) rfl ?_
  have hc := rcheck_eq t hn
  cases ht : treeOk t with
  | false =>
    rw [ht] at hc
    have : validK t l = false := by simp [validK, ht]
    simp -implicitDefEqProofs (disch := omega) only [vf102, vb102, hc, this, go_sem, ↓reduceIte, Nat.reduceAdd, Nat.reduceSub, Nat.reduceEqDiff, Nat.reduceLeDiff, reduceCtorEq]
  | true =>
    rw [ht] at hc
    have hch := rcharges_eq t l 1 ht hn hl
    rw [validK_asc t l ht]
    cases ha : ascOk (knownN t.nodes) 1 16777216 none l with
    | false =>
      rw [ha] at hch
      simp -implicitDefEqProofs (disch := omega) only [vf102, vb102, hc, hch, Bool.false_and, go_sem, ↓reduceIte, Nat.reduceAdd, Nat.reduceSub, Nat.reduceEqDiff, Nat.reduceLeDiff, reduceCtorEq]
    | true =>
      rw [ha] at hch
      have hA := (ascOk_iff _ _ _ _).1 ha
      have hlen := asc_length hA
      have h64 := ((treeOk_iff t).1 ht).len
      have hpre : ∀ k, 0 ≤ sumI ((l.take k).map (·.own)) ∧ sumI ((l.take k).map (·.own)) ≤ 64 * 16777216 := fun k => by
        have h1 := sum_bound (hi := 16777216) (l.take k) fun c hc => by have := hA.range c (List.mem_of_mem_take hc); omega
        have h2 : ((l.take k).length : Int) * 16777216 ≤ 64 * 16777216 := Int.mul_le_mul_of_nonneg_right (by simp; omega) (by omega)
        omega
      simp -implicitDefEqProofs (disch := omega) only [vf102, vb102, hc, hch, go_sem, ↓reduceIte, Nat.reduceAdd, Nat.reduceSub, Nat.reduceEqDiff, Nat.reduceLeDiff, reduceCtorEq]
      obtain ⟨I, hI⟩ : ∃ I : Nat → St → Prop, ∀ k s, I k s ↔ s.pe 3 = .ptr (.slot 3 0) 0 0 ∧ s.pe 5 = .p (.int .i64 (sumI ((l.take k).map (·.own)))) ∧ s.pe 6 = .p (.int .i64 k) ∧ s.h (.slot 3 0) = some (0, Ob.box [.p (chsP l)]) := ⟨_, fun _ _ => Iff.rfl⟩
      refine wp_count (l.length) I ?_ ?_
      · refine (hI _ _).2 ⟨?_, ?_, ?_, ?_⟩
        all_goals first | with_reducible rfl | (simp -implicitDefEqProofs (disch := omega) only [h1, h2, h3, h7, hh3_0, List.map_append, go_sem, ↓reduceIte, Nat.reduceAdd, Nat.reduceSub, Nat.reduceEqDiff, Nat.reduceLeDiff, reduceCtorEq]; first | done | rfl | (simp; done) | (congr 2; omega) | (congr 1; omega) | (congr 3; omega) | (simp; omega) | (congr 2; simp; omega) | (refine ⟨_, rfl, ?_⟩; first | rfl | (simp -implicitDefEqProofs (disch := omega) only [h1, h2, h3, h7, hh3_0, List.map_append, go_sem, ↓reduceIte, Nat.reduceAdd, Nat.reduceSub, Nat.reduceEqDiff, Nat.reduceLeDiff, reduceCtorEq]; done))) | rfl | omega | (congr 2; omega)
      intro k s hk hIk
      obtain ⟨h3, h5, h6, hh3_0⟩ := (hI _ _).1 hIk
      clear hIk
      simp -implicitDefEqProofs (disch := omega) only [h3, h5, h6, hh3_0, go_sem, ↓reduceIte, Nat.reduceAdd, Nat.reduceSub, Nat.reduceEqDiff, Nat.reduceLeDiff, reduceCtorEq]
      refine wp_if_d (fun hlt => ?_) (fun hge => ?_)
      · have hm : l[k]? = some l[k] := List.getElem?_eq_getElem hlt
        generalize l[k] = c at hm
        have hs := sumI_take_succ (f := (·.own)) hm
        have p1 := hpre (k + 1)
        have p0 := hpre k
        rw [hs] at p1
        generalize sumI ((l.take k).map (·.own)) = S at h5 hs p0 p1
        simp -implicitDefEqProofs (disch := omega) only [h3, h5, h6, hh3_0, hlt, hm, go_sem, ↓reduceIte, Nat.reduceAdd, Nat.reduceSub, Nat.reduceEqDiff, Nat.reduceLeDiff, reduceCtorEq]
        try refine And.intro (by omega) ?_
        refine (hI _ _).2 ⟨?_, ?_, ?_, ?_⟩
        all_goals first | with_reducible rfl | (simp -implicitDefEqProofs (disch := omega) only [h3, h5, h6, hh3_0, hs, List.map_append, go_sem, ↓reduceIte, Nat.reduceAdd, Nat.reduceSub, Nat.reduceEqDiff, Nat.reduceLeDiff, reduceCtorEq]; first | done | rfl | (simp; done) | (congr 2; omega) | (congr 1; omega) | (congr 3; omega) | (simp; omega) | (congr 2; simp; omega) | (refine ⟨_, rfl, ?_⟩; first | rfl | (simp -implicitDefEqProofs (disch := omega) only [h3, h5, h6, hh3_0, hs, List.map_append, go_sem, ↓reduceIte, Nat.reduceAdd, Nat.reduceSub, Nat.reduceEqDiff, Nat.reduceLeDiff, reduceCtorEq]; done))) | rfl | omega | (congr 2; omega)
      · rw [List.take_of_length_le (by omega)] at h5
        simp -implicitDefEqProofs (disch := omega) only [h3, h5, h6, hh3_0, hge, Bool.true_and, go_sem, ↓reduceIte, Nat.reduceAdd, Nat.reduceSub, Nat.reduceEqDiff, Nat.reduceLeDiff, reduceCtorEq]

theorem subT_len {t : Tr} (h : TreeOk t) (id : Int) : (subT t id).length ≤ t.nodes.length := by
  unfold subT
  split
  · rename_i hs
    rw [findT_ok ((treeOk_iff t).2 h)] at hs
    obtain ⟨n, hn, rfl⟩ := findN_some hs
    obtain ⟨i, hi⟩ := List.getElem?_of_mem hn
    exact subF_length h hi (by omega)
  · exact Nat.zero_le _

set_option maxHeartbeats 1000000 in
theorem rsum_eq {t : Tr} (h : TreeOk t) {l : List Ch} (hl : ChOk t.nodes l) (hll : l.length < 1000000) {i : Nat} {n : Nd} (hi : t.nodes[i]? = some n) : V 121 [t.vv, ctrV l, .p (.int .i64 n.id)] [] = some (.p (.int .i64 (tot t (ownC l) n.id)), []) := by
  refine V_wp (vf := vf121) rfl ?_
  have hlen := h.len
  have hs := rsub_eq (t := t) n.id (by omega)
  have hsl := subT_len h n.id
  have hst : subT t n.id = subF t.nodes t.nodes.length n.id := by
    rw [subT, findT_ok ((treeOk_iff t).2 h), findN_unique h.inc hi]; rfl
  have htot : tot t (ownC l) n.id = sumI ((subT t n.id).map (ownC l)) := by rw [hst]; rfl
  have hle := tot_le h hl hi
  have hall := hl.all
  rw [htot] at hle ⊢
  generalize subT t n.id = A at hs hsl hle
  simp -implicitDefEqProofs (disch := omega) only [vf121, vb121, hs, go_sem, ↓reduceIte, Nat.reduceAdd, Nat.reduceSub, Nat.reduceEqDiff, Nat.reduceLeDiff, reduceCtorEq]
  obtain ⟨I, hI⟩ : ∃ I : Nat → St → Prop, ∀ k s, I k s ↔ s.pe 4 = .ptr (.slot 4 0) 0 0 ∧ s.pe 7 = .p (.int .i64 (sumI ((A.take k).map (ownC l)))) ∧ s.pe 8 = .own (.slot 12 1) 0 0 A.length ∧ s.pe 9 = .p (.int .i64 k) ∧ s.h (.slot 4 0) = some (0, Ob.box [.p (chsP l)]) ∧ s.h (.slot 12 1) = some (0, Ob.arr 1 (List.map (.int .i64) A)) := ⟨_, fun _ _ => Iff.rfl⟩
  refine wp_count (A.length) I ?_ ?_
  · refine (hI _ _).2 ⟨?_, ?_, ?_, ?_, ?_, ?_⟩
    all_goals first | with_reducible rfl | (simp -implicitDefEqProofs (disch := omega) only [h3, h5, h6, hh3_0, List.map_append, go_sem, ↓reduceIte, Nat.reduceAdd, Nat.reduceSub, Nat.reduceEqDiff, Nat.reduceLeDiff, reduceCtorEq]; first | done | rfl | (simp; done) | (congr 2; omega) | (congr 1; omega) | (congr 3; omega) | (simp; omega) | (congr 2; simp; omega) | (refine ⟨_, rfl, ?_⟩; first | rfl | (simp -implicitDefEqProofs (disch := omega) only [h3, h5, h6, hh3_0, List.map_append, go_sem, ↓reduceIte, Nat.reduceAdd, Nat.reduceSub, Nat.reduceEqDiff, Nat.reduceLeDiff, reduceCtorEq]; done))) | rfl | omega | (congr 2; omega)
  intro k s hk hIk
  obtain ⟨h4, h7, h8, h9, hh4_0, hh12_1⟩ := (hI _ _).1 hIk
  clear hIk
  simp -implicitDefEqProofs (disch := omega) only [h4, h7, h8, h9, hh4_0, hh12_1, go_sem, ↓reduceIte, Nat.reduceAdd, Nat.reduceSub, Nat.reduceEqDiff, Nat.reduceLeDiff, reduceCtorEq]
  refine wp_if_d (fun hlt => ?_) (fun hge => ?_)
  · have hm : A[k]? = some A[k] := List.getElem?_eq_getElem hlt
    generalize A[k] = g at hm
    have hst := sumI_take_succ (f := ownC l) hm
    have ho := rown_eq l g hll
    have o0 := ownC_nonneg hl.pos g
    have p0 := sumI_map_nonneg (A.take k) (f := ownC l) fun x _ => ownC_nonneg hl.pos x
    have p1 := sumI_take_le A (k + 1) (f := ownC l) fun x _ => ownC_nonneg hl.pos x
    rw [hst] at p1
    generalize sumI ((A.take k).map (ownC l)) = S at h7 hst p0 p1
    generalize ownC l g = o at ho o0 hst p1
    simp -implicitDefEqProofs (disch := omega) only [h4, h7, h8, h9, hh4_0, hh12_1, hlt, hm, ho, go_sem, ↓reduceIte, Nat.reduceAdd, Nat.reduceSub, Nat.reduceEqDiff, Nat.reduceLeDiff, reduceCtorEq]
    try refine And.intro (by omega) ?_
    refine (hI _ _).2 ⟨?_, ?_, ?_, ?_, ?_, ?_⟩
    all_goals first | with_reducible rfl | (simp -implicitDefEqProofs (disch := omega) only [h4, h7, h8, h9, hh4_0, hh12_1, hst, List.map_append, go_sem, ↓reduceIte, Nat.reduceAdd, Nat.reduceSub, Nat.reduceEqDiff, Nat.reduceLeDiff, reduceCtorEq]; first | done | rfl | (simp; done) | (congr 2; omega) | (congr 1; omega) | (congr 3; omega) | (simp; omega) | (congr 2; simp; omega) | (refine ⟨_, rfl, ?_⟩; first | rfl | (simp -implicitDefEqProofs (disch := omega) only [h4, h7, h8, h9, hh4_0, hh12_1, hst, List.map_append, go_sem, ↓reduceIte, Nat.reduceAdd, Nat.reduceSub, Nat.reduceEqDiff, Nat.reduceLeDiff, reduceCtorEq]; done))) | rfl | omega | (congr 2; omega)
  · rw [List.take_of_length_le (by omega)] at h7
    simp -implicitDefEqProofs (disch := omega) only [h4, h7, h8, h9, hh4_0, hh12_1, hge, go_sem, ↓reduceIte, Nat.reduceAdd, Nat.reduceSub, Nat.reduceEqDiff, Nat.reduceLeDiff, reduceCtorEq]

set_option maxHeartbeats 1000000 in
theorem rput_eq (l : List Ch) (id v : Int) (hl : l.length < 1000000) : V 122 [ctrV l, .p (.int .i64 id), .p (.int .i64 v)] [] = some (ctrF (withC l id v), []) := by
  refine V_wp (vf := vf122) rfl ?_
  unfold withC
  simp -implicitDefEqProofs (disch := omega) only [vf122, vb122, go_sem, ↓reduceIte, Nat.reduceAdd, Nat.reduceSub, Nat.reduceEqDiff, Nat.reduceLeDiff, reduceCtorEq]
  obtain ⟨I, hI⟩ : ∃ I : Nat → St → Prop, ∀ k s, I k s ↔ ∃ (acc : List Ch) (d : Bool) (w : Nat), withGo id v (decide (v = 0)) l = acc ++ withGo id v d (l.drop k) ∧ acc.length ≤ 2 * k ∧ s.pe 1 = .p (.int .i64 id) ∧ s.pe 2 = .p (.int .i64 v) ∧ s.pe 3 = .ptr (.slot 3 0) 0 0 ∧ s.pe 6 = .ptr (.slot 6 0) 0 0 ∧ s.pe 7 = .own (.slot 7 0) w 0 acc.length ∧ s.pe 8 = .p (.bool d) ∧ s.pe 9 = .p (.int .i64 k) ∧ s.h (.slot 3 0) = some (0, Ob.box [.p (chsP l)]) ∧ s.h (.slot 6 0) = some (0, Ob.box [.own (.slot 6 1) 0 0 0]) ∧ s.h (.slot 6 1) = some (0, Ob.arr 2 []) ∧ s.h (.slot 7 0) = some (w, Ob.arr 2 (acc.map Ch.pv)) := ⟨_, fun _ _ => Iff.rfl⟩
  refine wp_count (l.length) I ?_ ?_
  · refine (hI _ _).2 ⟨[], decide (v = 0), 0, ?_, ?_, ?_, ?_, ?_, ?_, ?_, ?_, ?_, ?_, ?_, ?_, ?_⟩
    · exact rfl
    · exact by first | rfl | omega | (simp; done) | (simp; omega)
    all_goals first | with_reducible rfl | (simp -implicitDefEqProofs (disch := omega) only [h4, h7, h8, h9, hh4_0, hh12_1, List.map_append, go_sem, ↓reduceIte, Nat.reduceAdd, Nat.reduceSub, Nat.reduceEqDiff, Nat.reduceLeDiff, reduceCtorEq]; first | done | rfl | (simp; done) | (congr 2; omega) | (congr 1; omega) | (congr 3; omega) | (simp; omega) | (congr 2; simp; omega) | (refine ⟨_, rfl, ?_⟩; first | rfl | (simp -implicitDefEqProofs (disch := omega) only [h4, h7, h8, h9, hh4_0, hh12_1, List.map_append, go_sem, ↓reduceIte, Nat.reduceAdd, Nat.reduceSub, Nat.reduceEqDiff, Nat.reduceLeDiff, reduceCtorEq]; done))) | rfl | omega | (congr 2; omega)
  intro k s hk hIk
  obtain ⟨acc, d, w, hw, hal, h1, h2, h3, h6, h7, h8, h9, hh3_0, hh6_0, hh6_1, hh7_0⟩ := (hI _ _).1 hIk
  clear hIk
  simp -implicitDefEqProofs (disch := omega) only [h1, h2, h3, h6, h7, h8, h9, hh3_0, hh6_0, hh6_1, hh7_0, go_sem, ↓reduceIte, Nat.reduceAdd, Nat.reduceSub, Nat.reduceEqDiff, Nat.reduceLeDiff, reduceCtorEq]
  refine wp_if_d (fun hlt => ?_) (fun hge => ?_)
  · have hm : l[k]? = some l[k] := List.getElem?_eq_getElem hlt
    have hd : l.drop k = l[k] :: l.drop (k + 1) := List.drop_eq_getElem_cons hlt
    generalize l[k] = c at hm hd
    rw [hd, withGo] at hw
    cases d with
    | true =>
      by_cases he : c.group = id
      · simp only [he, Bool.not_true, Bool.false_and, Bool.false_eq_true, if_false, if_true, List.nil_append, List.append_nil, Bool.true_or] at hw
        simp -implicitDefEqProofs (disch := omega) only [h1, h2, h3, h6, h7, h8, h9, hh3_0, hh6_0, hh6_1, hh7_0, hlt, hm, he, go_sem, ↓reduceIte, Nat.reduceAdd, Nat.reduceSub, Nat.reduceEqDiff, Nat.reduceLeDiff, reduceCtorEq]
        try refine And.intro (by omega) ?_
        refine (hI _ _).2 ⟨acc, true, w, ?_, ?_, ?_, ?_, ?_, ?_, ?_, ?_, ?_, ?_, ?_, ?_, ?_⟩
        · exact hw
        · exact by omega
        all_goals first | with_reducible rfl | (simp -implicitDefEqProofs (disch := omega) only [h1, h2, h3, h6, h7, h8, h9, hh3_0, hh6_0, hh6_1, hh7_0, List.map_append, go_sem, ↓reduceIte, Nat.reduceAdd, Nat.reduceSub, Nat.reduceEqDiff, Nat.reduceLeDiff, reduceCtorEq]; first | done | rfl | (simp; done) | (congr 2; omega) | (congr 1; omega) | (congr 3; omega) | (simp; omega) | (congr 2; simp; omega) | (refine ⟨_, rfl, ?_⟩; first | rfl | (simp -implicitDefEqProofs (disch := omega) only [h1, h2, h3, h6, h7, h8, h9, hh3_0, hh6_0, hh6_1, hh7_0, List.map_append, go_sem, ↓reduceIte, Nat.reduceAdd, Nat.reduceSub, Nat.reduceEqDiff, Nat.reduceLeDiff, reduceCtorEq]; done))) | rfl | omega | (congr 2; omega)
      · simp only [he, Bool.not_true, Bool.false_and, Bool.false_eq_true, if_false, List.nil_append, Bool.true_or, ← List.append_assoc] at hw
        simp -implicitDefEqProofs (disch := omega) only [h1, h2, h3, h6, h7, h8, h9, hh3_0, hh6_0, hh6_1, hh7_0, hlt, hm, he, go_sem, ↓reduceIte, Nat.reduceAdd, Nat.reduceSub, Nat.reduceEqDiff, Nat.reduceLeDiff, reduceCtorEq]
        try refine And.intro (by omega) ?_
        refine (hI _ _).2 ⟨acc ++ [c], true, w + 1, ?_, ?_, ?_, ?_, ?_, ?_, ?_, ?_, ?_, ?_, ?_, ?_, ?_⟩
        · exact hw
        · exact by simp; omega
        all_goals first | with_reducible rfl | (simp -implicitDefEqProofs (disch := omega) only [h1, h2, h3, h6, h7, h8, h9, hh3_0, hh6_0, hh6_1, hh7_0, List.map_append, go_sem, ↓reduceIte, Nat.reduceAdd, Nat.reduceSub, Nat.reduceEqDiff, Nat.reduceLeDiff, reduceCtorEq]; first | done | rfl | (simp; done) | (congr 2; omega) | (congr 1; omega) | (congr 3; omega) | (simp; omega) | (congr 2; simp; omega) | (refine ⟨_, rfl, ?_⟩; first | rfl | (simp -implicitDefEqProofs (disch := omega) only [h1, h2, h3, h6, h7, h8, h9, hh3_0, hh6_0, hh6_1, hh7_0, List.map_append, go_sem, ↓reduceIte, Nat.reduceAdd, Nat.reduceSub, Nat.reduceEqDiff, Nat.reduceLeDiff, reduceCtorEq]; done))) | rfl | omega | (congr 2; omega)
    | false =>
      by_cases hge : id ≤ c.group
      · by_cases he : c.group = id
        · simp only [he, Int.le_refl, decide_true, Bool.not_false, Bool.and_self, if_true, List.append_nil, Bool.or_true, ← List.append_assoc] at hw
          simp -implicitDefEqProofs (disch := omega) only [h1, h2, h3, h6, h7, h8, h9, hh3_0, hh6_0, hh6_1, hh7_0, hlt, hm, hge, he, Int.le_refl, decide_true, go_sem, ↓reduceIte, Nat.reduceAdd, Nat.reduceSub, Nat.reduceEqDiff, Nat.reduceLeDiff, reduceCtorEq]
          try refine And.intro (by omega) ?_
          refine (hI _ _).2 ⟨acc ++ [⟨id, v⟩], true, w + 1, ?_, ?_, ?_, ?_, ?_, ?_, ?_, ?_, ?_, ?_, ?_, ?_, ?_⟩
          · exact hw
          · exact by simp; omega
          all_goals first | with_reducible rfl | (simp -implicitDefEqProofs (disch := omega) only [h1, h2, h3, h6, h7, h8, h9, hh3_0, hh6_0, hh6_1, hh7_0, List.map_append, go_sem, ↓reduceIte, Nat.reduceAdd, Nat.reduceSub, Nat.reduceEqDiff, Nat.reduceLeDiff, reduceCtorEq]; first | done | rfl | (simp; done) | (congr 2; omega) | (congr 1; omega) | (congr 3; omega) | (simp; omega) | (congr 2; simp; omega) | (refine ⟨_, rfl, ?_⟩; first | rfl | (simp -implicitDefEqProofs (disch := omega) only [h1, h2, h3, h6, h7, h8, h9, hh3_0, hh6_0, hh6_1, hh7_0, List.map_append, go_sem, ↓reduceIte, Nat.reduceAdd, Nat.reduceSub, Nat.reduceEqDiff, Nat.reduceLeDiff, reduceCtorEq]; done))) | rfl | omega | (congr 2; omega)
        · simp only [he, hge, decide_true, Bool.not_false, Bool.and_self, if_true, if_false, Bool.or_true, ← List.append_assoc] at hw
          simp -implicitDefEqProofs (disch := omega) only [h1, h2, h3, h6, h7, h8, h9, hh3_0, hh6_0, hh6_1, hh7_0, hlt, hm, hge, he, go_sem, ↓reduceIte, Nat.reduceAdd, Nat.reduceSub, Nat.reduceEqDiff, Nat.reduceLeDiff, reduceCtorEq]
          try refine And.intro (by omega) ?_
          refine (hI _ _).2 ⟨acc ++ [⟨id, v⟩] ++ [c], true, w + 1 + 1, ?_, ?_, ?_, ?_, ?_, ?_, ?_, ?_, ?_, ?_, ?_, ?_, ?_⟩
          · exact hw
          · exact by simp; omega
          all_goals first | with_reducible rfl | (simp -implicitDefEqProofs (disch := omega) only [h1, h2, h3, h6, h7, h8, h9, hh3_0, hh6_0, hh6_1, hh7_0, List.map_append, go_sem, ↓reduceIte, Nat.reduceAdd, Nat.reduceSub, Nat.reduceEqDiff, Nat.reduceLeDiff, reduceCtorEq]; first | done | rfl | (simp; done) | (congr 2; omega) | (congr 1; omega) | (congr 3; omega) | (simp; omega) | (congr 2; simp; omega) | (refine ⟨_, rfl, ?_⟩; first | rfl | (simp -implicitDefEqProofs (disch := omega) only [h1, h2, h3, h6, h7, h8, h9, hh3_0, hh6_0, hh6_1, hh7_0, List.map_append, go_sem, ↓reduceIte, Nat.reduceAdd, Nat.reduceSub, Nat.reduceEqDiff, Nat.reduceLeDiff, reduceCtorEq]; done))) | rfl | omega | (congr 2; omega)
      · have he : ¬ c.group = id := by omega
        simp only [he, hge, decide_false, Bool.not_false, Bool.and_false, Bool.false_eq_true, if_false, List.nil_append, Bool.or_false, ← List.append_assoc] at hw
        simp -implicitDefEqProofs (disch := omega) only [h1, h2, h3, h6, h7, h8, h9, hh3_0, hh6_0, hh6_1, hh7_0, hlt, hm, hge, he, go_sem, ↓reduceIte, Nat.reduceAdd, Nat.reduceSub, Nat.reduceEqDiff, Nat.reduceLeDiff, reduceCtorEq]
        try refine And.intro (by omega) ?_
        refine (hI _ _).2 ⟨acc ++ [c], false, w + 1, ?_, ?_, ?_, ?_, ?_, ?_, ?_, ?_, ?_, ?_, ?_, ?_, ?_⟩
        · exact hw
        · exact by simp; omega
        all_goals first | with_reducible rfl | (simp -implicitDefEqProofs (disch := omega) only [h1, h2, h3, h6, h7, h8, h9, hh3_0, hh6_0, hh6_1, hh7_0, List.map_append, go_sem, ↓reduceIte, Nat.reduceAdd, Nat.reduceSub, Nat.reduceEqDiff, Nat.reduceLeDiff, reduceCtorEq]; first | done | rfl | (simp; done) | (congr 2; omega) | (congr 1; omega) | (congr 3; omega) | (simp; omega) | (congr 2; simp; omega) | (refine ⟨_, rfl, ?_⟩; first | rfl | (simp -implicitDefEqProofs (disch := omega) only [h1, h2, h3, h6, h7, h8, h9, hh3_0, hh6_0, hh6_1, hh7_0, List.map_append, go_sem, ↓reduceIte, Nat.reduceAdd, Nat.reduceSub, Nat.reduceEqDiff, Nat.reduceLeDiff, reduceCtorEq]; done))) | rfl | omega | (congr 2; omega)
  · rw [List.drop_of_length_le (by omega), withGo] at hw
    cases d with
    | true =>
      simp only [if_true, List.append_nil] at hw
      simp -implicitDefEqProofs (disch := omega) only [h1, h2, h3, h6, h7, h8, h9, hh3_0, hh6_0, hh6_1, hh7_0, hge, go_sem, ↓reduceIte, Nat.reduceAdd, Nat.reduceSub, Nat.reduceEqDiff, Nat.reduceLeDiff, reduceCtorEq]
      rw [hw]
    | false =>
      simp only [Bool.false_eq_true, if_false] at hw
      simp -implicitDefEqProofs (disch := omega) only [h1, h2, h3, h6, h7, h8, h9, hh3_0, hh6_0, hh6_1, hh7_0, hge, go_sem, ↓reduceIte, Nat.reduceAdd, Nat.reduceSub, Nat.reduceEqDiff, Nat.reduceLeDiff, reduceCtorEq]
      rw [hw]
      simp [Ch.pv]

set_option maxHeartbeats 1000000 in
theorem rAdd_eq (t : Tr) (l : List Ch) (id n : Int) (hn : t.nodes.length < 1000000) (hl : l.length < 1000000) : V 89 [t.vv, ctrV l, .p (.int .i64 id), .p (.int .i64 n)] [] = some (.tup [ctrF (AddK t l id n).1, .p (.int .i64 (AddK t l id n).2)], []) := by
  refine V_wp (vf := vf89) rfl ?_
  have hv := rvalidK_eq t l hn hl
  have hh := rhas_eq t id hn
  unfold AddK checkK
  cases hvv : validK t l with
  | false =>
    rw [hvv] at hv
    simp -implicitDefEqProofs (disch := omega) only [vf89, vb89, hv, go_sem, ↓reduceIte, Nat.reduceAdd, Nat.reduceSub, Nat.reduceEqDiff, Nat.reduceLeDiff, reduceCtorEq]
    try rfl
  | true =>
    rw [hvv] at hv
    obtain ⟨h1, h2⟩ := (validK_iff t l).1 hvv
    rw [findT_ok ((treeOk_iff t).2 h1)] at hh
    cases hs : (findN t.nodes id).isSome with
    | false =>
      rw [hs] at hh
      simp -implicitDefEqProofs (disch := omega) only [vf89, vb89, hv, hh, go_sem, ↓reduceIte, Nat.reduceAdd, Nat.reduceSub, Nat.reduceEqDiff, Nat.reduceLeDiff, reduceCtorEq]
      try rfl
    | true =>
      rw [hs] at hh
      have ho := rown_eq l id hl
      have o0 := ownC_nonneg h2.pos id
      have o1 := ownC_le h2.pos id
      have o2 := h2.all
      obtain ⟨r, hr, hr1⟩ := root_at h1
      have hsum := rsum_eq h1 h2 hl hr
      have t0 := tot_nonneg t (ownC_nonneg h2.pos) r.id
      have t1 := tot_le h1 h2 hr
      have hwi := rput_eq l id (ownC l id + n) hl
      rw [hr1] at hsum t0 t1
      rw [if_pos (by simp)]
      unfold addK
      generalize ownC l id = o at ho o0 o1 hwi
      generalize tot t (ownC l) 1 = T at hsum t0 t1
      generalize withC l id (o + n) = W at hwi
      by_cases n1 : n < -16777216
      · rw [if_pos (Or.inl n1)]
        simp -implicitDefEqProofs (disch := omega) only [vf89, vb89, hv, hh, n1, go_sem, ↓reduceIte, Nat.reduceAdd, Nat.reduceSub, Nat.reduceEqDiff, Nat.reduceLeDiff, reduceCtorEq]
        try rfl
      · by_cases n2 : 16777216 < n
        · rw [if_pos (Or.inr (Or.inl n2))]
          simp -implicitDefEqProofs (disch := omega) only [vf89, vb89, hv, hh, n1, n2, go_sem, ↓reduceIte, Nat.reduceAdd, Nat.reduceSub, Nat.reduceEqDiff, Nat.reduceLeDiff, reduceCtorEq]
          try rfl
        · by_cases n3 : o + n < 0
          · rw [if_pos (Or.inr (Or.inr n3))]
            simp -implicitDefEqProofs (disch := omega) only [vf89, vb89, hv, hh, n1, n2, n3, ho, go_sem, ↓reduceIte, Nat.reduceAdd, Nat.reduceSub, Nat.reduceEqDiff, Nat.reduceLeDiff, reduceCtorEq]
            try rfl
          · rw [if_neg (by omega)]
            by_cases n4 : 16777216 < T + n
            · rw [if_pos n4]
              simp -implicitDefEqProofs (disch := omega) only [vf89, vb89, hv, hh, n1, n2, n3, n4, ho, hsum, go_sem, ↓reduceIte, Nat.reduceAdd, Nat.reduceSub, Nat.reduceEqDiff, Nat.reduceLeDiff, reduceCtorEq]
              try rfl
            · rw [if_neg n4]
              simp -implicitDefEqProofs (disch := omega) only [vf89, vb89, hv, hh, n1, n2, n3, n4, ho, hsum, hwi, go_sem, ↓reduceIte, Nat.reduceAdd, Nat.reduceSub, Nat.reduceEqDiff, Nat.reduceLeDiff, reduceCtorEq]

/-! ### made counters -/

def pickV (L : List Int) (a : Nat) (xs : List Int) : Int := xs.getD (nextV L a xs.length).toNat 0
theorem pick_eq (L : List Int) (a : Nat) (xs : List Int) (hL : L.length < 4611686018427387904) (h0 : 1 ≤ xs.length) (h1 : xs.length < 1000000) : V 48 [.ptr (.arg 0 0) 0 0, .p (intsP xs)] [diceB L a] = some (.p (.int .i64 (pickV L a xs)), [diceB L (nextA L a xs.length)]) := by
  refine V_wp (vf := vf48) rfl ?_
  have hn := next_eq L a xs.length hL (by omega)
  have n0 := nextV_nonneg L a xs.length
  have n1 := nextV_lt L a (n := xs.length) (by omega)
  unfold pickV
  generalize nextV L a xs.length = x at hn n0 n1
  generalize nextA L a xs.length = a' at hn
  have hm : xs[x.toNat]? = some (xs.getD x.toNat 0) := by
    rw [List.getD_eq_getElem?_getD, List.getElem?_eq_getElem (by omega)]; rfl
  generalize xs.getD x.toNat 0 = y at hm
  simp -implicitDefEqProofs (disch := omega) only [vf48, vb48, hn, hm, go_sem, ↓reduceIte, Nat.reduceAdd, Nat.reduceSub, Nat.reduceEqDiff, Nat.reduceLeDiff, reduceCtorEq]
theorem pickV_mem (L : List Int) (a : Nat) {xs : List Int} (h0 : 1 ≤ xs.length) : pickV L a xs ∈ xs := by
  have n0 := nextV_nonneg L a xs.length
  have n1 := nextV_lt L a (n := xs.length) (by omega)
  unfold pickV
  rw [List.getD_eq_getElem?_getD, List.getElem?_eq_getElem (by omega)]
  exact List.getElem_mem _

def dCounter (L : List Int) (t : Tr) : List Nd → Nat → List Ch → List Ch × Nat
  | [], a, c => (c, a)
  | n :: ns, a, c => dCounter L t ns (nextA L a 6) (if (AddK t c n.id (pickV L a [0, 1, 5, 40, 100, 1000])).2 = 0 then (AddK t c n.id (pickV L a [0, 1, 5, 40, 100, 1000])).1 else c)
end Go.V

