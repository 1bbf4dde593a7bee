/- The value machine V at work: the reference's totals, limits, charges, removals. -/
import Derived.Test.YthmbpjnpcjfdiaaVKX
set_option linter.unusedSimpArgs false
set_option linter.unusedVariables false
namespace Go.V

set_option maxHeartbeats 1000000 in
theorem rtotal_eq (t : Tr) (l : List Ch) (id : Int) (hn : t.nodes.length < 1000000) (hl : l.length < 1000000) : V 24 [t.vv, ctrV l, .p (.int .i64 id)] [] = some (.tup [.p (.int .i64 (totK t l id)), .p (.int .i64 (checkK t l id))], []) := by
  refine V_wp (vf := vf24) rfl ?_
  have hv := rvalidK_eq t l hn hl
  have hh := rhas_eq t id hn
  unfold totK checkK
  cases hvv : validK t l with
  | false =>
    rw [hvv] at hv
    simp -implicitDefEqProofs (disch := omega) only [vf24, vb24, hv, go_sem, ↓reduceIte, Nat.reduceAdd, Nat.reduceSub, Nat.reduceEqDiff, Nat.reduceLeDiff, reduceCtorEq]
    try rfl
  | true =>
    rw [hvv] at hv
    obtain ⟨h1, h2⟩ := (validK_iff t l).1 hvv
    rw [findT_ok ((treeOk_iff t).2 h1)] at hh
    cases hs : (findN t.nodes id).isSome with
    | false =>
      rw [hs] at hh
      simp -implicitDefEqProofs (disch := omega) only [vf24, vb24, hv, hh, go_sem, ↓reduceIte, Nat.reduceAdd, Nat.reduceSub, Nat.reduceEqDiff, Nat.reduceLeDiff, reduceCtorEq]
      try rfl
    | true =>
      rw [hs] at hh
      obtain ⟨n, hn', rfl⟩ := findN_some hs
      obtain ⟨i, hi⟩ := List.getElem?_of_mem hn'
      have hsum := rsum_eq h1 h2 hl hi
      generalize tot t (ownC l) n.id = T at hsum
      simp -implicitDefEqProofs (disch := omega) only [vf24, vb24, hv, hh, hsum, go_sem, ↓reduceIte, Nat.reduceAdd, Nat.reduceSub, Nat.reduceEqDiff, Nat.reduceLeDiff, reduceCtorEq]
      try rfl

set_option maxHeartbeats 1000000 in
theorem rlimits_eq (t : Tr) (l : List Ch) (hn : t.nodes.length < 1000000) (hl : l.length < 1000000) : V 28 [t.vv, .p (chsP l)] [] = some (.p (.bool (validLK t l)), []) := by
  refine V_wp (vf := vf28) rfl ?_
  have hc := rcheck_eq t hn
  unfold validLK
  cases ht : treeOk t with
  | false =>
    rw [ht] at hc
    simp -implicitDefEqProofs (disch := omega) only [vf28, vb28, hc, go_sem, ↓reduceIte, Nat.reduceAdd, Nat.reduceSub, Nat.reduceEqDiff, Nat.reduceLeDiff, reduceCtorEq]
    try rfl
  | true =>
    rw [ht] at hc
    rw [Bool.true_and]
    simp -implicitDefEqProofs (disch := omega) only [vf28, vb28, hc, go_sem, ↓reduceIte, Nat.reduceAdd, Nat.reduceSub, Nat.reduceEqDiff, Nat.reduceLeDiff, reduceCtorEq]
    obtain ⟨I, hI⟩ : ∃ I : Nat → St → Prop, ∀ k s, I k s ↔ ascOk (knownN t.nodes) 0 4611686018427387904 none l = ascOk (knownN t.nodes) 0 4611686018427387904 (prevG l k) (l.drop k) ∧ s.pe 1 = .p (chsP l) ∧ s.pe 2 = .ptr (.slot 2 0) 0 0 ∧ s.pe 5 = .p (.int .i64 k) ∧ s.h (.slot 2 0) = some (0, Ob.box [.p (nodesP t.nodes), .p (.int .i64 t.next)]) := ⟨_, fun _ _ => Iff.rfl⟩
    refine wp_count (l.length) I ?_ ?_
    · refine (hI _ _).2 ⟨?_, ?_, ?_, ?_, ?_⟩
      · exact by first | rfl | omega | (simp; done) | (simp; omega)
      all_goals first | with_reducible rfl | (simp -implicitDefEqProofs (disch := omega) only [List.map_append, go_sem, ↓reduceIte, Nat.reduceAdd, Nat.reduceSub, Nat.reduceEqDiff, Nat.reduceLeDiff, reduceCtorEq]; first | done | rfl | (simp; done) | (congr 2; omega) | (congr 1; omega) | (congr 3; omega) | (simp; omega) | (congr 2; simp; omega) | (refine ⟨_, rfl, ?_⟩; first | rfl | (simp -implicitDefEqProofs (disch := omega) only [List.map_append, go_sem, ↓reduceIte, Nat.reduceAdd, Nat.reduceSub, Nat.reduceEqDiff, Nat.reduceLeDiff, reduceCtorEq]; done))) | rfl | omega | (congr 2; omega)
    intro k s hk hIk
    obtain ⟨hq, h1, h2, h5, hh2_0⟩ := (hI _ _).1 hIk
    clear hIk
    simp -implicitDefEqProofs (disch := omega) only [h1, h2, h5, hh2_0, go_sem, ↓reduceIte, Nat.reduceAdd, Nat.reduceSub, Nat.reduceEqDiff, Nat.reduceLeDiff, reduceCtorEq]
    refine wp_if_d (fun hlt => ?_) (fun hge => ?_)
    · have hm : l[k]? = some l[k] := List.getElem?_eq_getElem hlt
      generalize l[k] = c at hm
      have hg := asc_good hq hm
      have hb' := asc_bad hq hm
      have hfi := rhas_eq t c.group hn
      rw [findT_ok ht] at hfi
      have hkn : knownN t.nodes c.group = (findN t.nodes c.group).isSome := rfl
      generalize (findN t.nodes c.group).isSome = kn at hfi hkn
      by_cases hk0 : (0 : Int) < k
      · obtain ⟨e, he, he'⟩ := prev_at hm hk0
        have hk1 : (0 : Int) ≤ (k : Int) - 1 := by omega
        rw [ascAt_succ hk0 he, hkn] at hg hb'
        simp -implicitDefEqProofs (disch := omega) only [h1, h2, h5, hh2_0, hlt, hm, hfi, hk0, hk1, he', go_sem, ↓reduceIte, Nat.reduceAdd, Nat.reduceSub, Nat.reduceEqDiff, Nat.reduceLeDiff, reduceCtorEq]
        repeat' ((first | refine wp_grn_d (fun hb => ?_) (fun hb => ?_) | refine wp_gtn_d (fun hb => ?_) (fun hb => ?_) | refine wp_gr_d (fun hb => ?_) (fun hb => ?_) | refine wp_gt_d (fun hb => ?_) (fun hb => ?_) | refine wp_gr (fun hb => ?_) (fun hb => ?_) | refine wp_gt (fun hb => ?_) (fun hb => ?_) | refine wp_nt_d (fun hb => ?_) (fun hb => ?_) | refine wp_nt (fun hb => ?_) (fun hb => ?_) | refine wp_if_d (fun hb => ?_) (fun hb => ?_) | refine wp_if (fun hb => ?_) (fun hb => ?_)) <;> simp -implicitDefEqProofs (disch := omega) only [hb, h1, h2, h5, hh2_0, hlt, hm, hfi, hk0, hk1, he', go_sem, ↓reduceIte, Nat.reduceAdd, Nat.reduceSub, Nat.reduceEqDiff, Nat.reduceLeDiff, reduceCtorEq])
        all_goals first
          | (rw [hb' (by first | (rintro ⟨h1, h2, h3, h4⟩; omega) | simp_all)]; done)
          | skip
        try refine And.intro (by omega) ?_
        refine (hI _ _).2 ⟨?_, ?_, ?_, ?_, ?_⟩
        · exact hg ⟨by first | assumption | (cases kn <;> simp_all), by omega, by omega, by omega⟩
        all_goals first | with_reducible rfl | (simp -implicitDefEqProofs (disch := omega) only [h1, h2, h5, hh2_0, List.map_append, go_sem, ↓reduceIte, Nat.reduceAdd, Nat.reduceSub, Nat.reduceEqDiff, Nat.reduceLeDiff, reduceCtorEq]; first | done | rfl | (simp; done) | (congr 2; omega) | (congr 1; omega) | (congr 3; omega) | (simp; omega) | (congr 2; simp; omega) | (refine ⟨_, rfl, ?_⟩; first | rfl | (simp -implicitDefEqProofs (disch := omega) only [h1, h2, h5, hh2_0, List.map_append, go_sem, ↓reduceIte, Nat.reduceAdd, Nat.reduceSub, Nat.reduceEqDiff, Nat.reduceLeDiff, reduceCtorEq]; done))) | rfl | omega | (congr 2; omega)
      · rw [ascAt_zero hk0, hkn] at hg hb'
        simp -implicitDefEqProofs (disch := omega) only [h1, h2, h5, hh2_0, hlt, hm, hfi, hk0, go_sem, ↓reduceIte, Nat.reduceAdd, Nat.reduceSub, Nat.reduceEqDiff, Nat.reduceLeDiff, reduceCtorEq]
        repeat' ((first | refine wp_grn_d (fun hb => ?_) (fun hb => ?_) | refine wp_gtn_d (fun hb => ?_) (fun hb => ?_) | refine wp_gr_d (fun hb => ?_) (fun hb => ?_) | refine wp_gt_d (fun hb => ?_) (fun hb => ?_) | refine wp_gr (fun hb => ?_) (fun hb => ?_) | refine wp_gt (fun hb => ?_) (fun hb => ?_) | refine wp_nt_d (fun hb => ?_) (fun hb => ?_) | refine wp_nt (fun hb => ?_) (fun hb => ?_) | refine wp_if_d (fun hb => ?_) (fun hb => ?_) | refine wp_if (fun hb => ?_) (fun hb => ?_)) <;> simp -implicitDefEqProofs (disch := omega) only [hb, h1, h2, h5, hh2_0, hlt, hm, hfi, hk0, go_sem, ↓reduceIte, Nat.reduceAdd, Nat.reduceSub, Nat.reduceEqDiff, Nat.reduceLeDiff, reduceCtorEq])
        all_goals first
          | (rw [hb' (by first | (rintro ⟨h1, h2, h3⟩; omega) | simp_all)]; done)
          | skip
        try refine And.intro (by omega) ?_
        refine (hI _ _).2 ⟨?_, ?_, ?_, ?_, ?_⟩
        · exact hg ⟨by first | assumption | (cases kn <;> simp_all), by omega, by omega⟩
        all_goals first | with_reducible rfl | (simp -implicitDefEqProofs (disch := omega) only [h1, h2, h5, hh2_0, List.map_append, go_sem, ↓reduceIte, Nat.reduceAdd, Nat.reduceSub, Nat.reduceEqDiff, Nat.reduceLeDiff, reduceCtorEq]; first | done | rfl | (simp; done) | (congr 2; omega) | (congr 1; omega) | (congr 3; omega) | (simp; omega) | (congr 2; simp; omega) | (refine ⟨_, rfl, ?_⟩; first | rfl | (simp -implicitDefEqProofs (disch := omega) only [h1, h2, h5, hh2_0, List.map_append, go_sem, ↓reduceIte, Nat.reduceAdd, Nat.reduceSub, Nat.reduceEqDiff, Nat.reduceLeDiff, reduceCtorEq]; done))) | rfl | omega | (congr 2; omega)
    · have hT := asc_end hq (by omega)
      simp -implicitDefEqProofs (disch := omega) only [h1, h2, h5, hh2_0, hge, hT, go_sem, ↓reduceIte, Nat.reduceAdd, Nat.reduceSub, Nat.reduceEqDiff, Nat.reduceLeDiff, reduceCtorEq]

set_option maxHeartbeats 1000000 in
theorem rtotals_eq (t : Tr) (c : List Ch) (hn : t.nodes.length < 1000000) (hl : c.length < 1000000) : V 36 [t.vv, ctrV c] [] = some (.tup [.fresh 2 ((TotalsK t c).1.map Ch.pv), .p (.int .i64 (TotalsK t c).2)], []) := by
  refine V_wp (vf := vf36) rfl ?_
  have hv := rvalidK_eq t c hn hl
  unfold TotalsK
  cases hvv : validK t c with
  | false =>
    rw [hvv] at hv
    simp -implicitDefEqProofs (disch := omega) only [vf36, vb36, hv, go_sem, ↓reduceIte, Nat.reduceAdd, Nat.reduceSub, Nat.reduceEqDiff, Nat.reduceLeDiff, reduceCtorEq]
    try rfl
  | true =>
    rw [hvv] at hv
    rw [if_pos rfl]
    obtain ⟨hT, hC⟩ := (validK_iff t c).1 hvv
    simp -implicitDefEqProofs (disch := omega) only [vf36, vb36, hv, go_sem, ↓reduceIte, Nat.reduceAdd, Nat.reduceSub, Nat.reduceEqDiff, Nat.reduceLeDiff, reduceCtorEq]
    obtain ⟨I, hI⟩ : ∃ I : Nat → St → Prop, ∀ k s, I k s ↔ ∃ (acc : List Ch) (w : Nat), acc = ((t.nodes.take k).filter fun n => decide (0 < tot t (ownC c) n.id)).map (totCh t c) ∧ acc.length ≤ k ∧ s.pe 2 = .ptr (.slot 2 0) 0 0 ∧ s.pe 3 = .ptr (.slot 3 0) 0 0 ∧ s.pe 6 = .own (.slot 6 0) w 0 acc.length ∧ s.pe 7 = .p (.int .i64 k) ∧ s.h (.slot 2 0) = some (0, Ob.box [.p (nodesP t.nodes), .p (.int .i64 t.next)]) ∧ s.h (.slot 3 0) = some (0, Ob.box [.p (chsP c)]) ∧ s.h (.slot 6 0) = some (w, Ob.arr 2 (acc.map Ch.pv)) := ⟨_, fun _ _ => Iff.rfl⟩
    refine wp_count (t.nodes.length) I ?_ ?_
    · refine (hI _ _).2 ⟨[], 0, ?_, ?_, ?_, ?_, ?_, ?_, ?_, ?_, ?_⟩
      · exact by first | rfl | omega | (simp; done) | (simp; omega)
      · exact by first | rfl | omega | (simp; done) | (simp; omega)
      all_goals first | with_reducible rfl | (simp -implicitDefEqProofs (disch := omega) only [h1, h2, h5, hh2_0, List.map_append, go_sem, ↓reduceIte, Nat.reduceAdd, Nat.reduceSub, Nat.reduceEqDiff, Nat.reduceLeDiff, reduceCtorEq]; first | done | rfl | (simp; done) | (congr 2; omega) | (congr 1; omega) | (congr 3; omega) | (simp; omega) | (congr 2; simp; omega) | (refine ⟨_, rfl, ?_⟩; first | rfl | (simp -implicitDefEqProofs (disch := omega) only [h1, h2, h5, hh2_0, List.map_append, go_sem, ↓reduceIte, Nat.reduceAdd, Nat.reduceSub, Nat.reduceEqDiff, Nat.reduceLeDiff, reduceCtorEq]; done))) | rfl | omega | (congr 2; omega)
    intro k s hk hIk
    obtain ⟨acc, w, hacc, hal, h2, h3, h6, h7, hh2_0, hh3_0, hh6_0⟩ := (hI _ _).1 hIk
    clear hIk
    simp -implicitDefEqProofs (disch := omega) only [h2, h3, h6, h7, hh2_0, hh3_0, hh6_0, go_sem, ↓reduceIte, Nat.reduceAdd, Nat.reduceSub, Nat.reduceEqDiff, Nat.reduceLeDiff, reduceCtorEq]
    refine wp_if_d (fun hlt => ?_) (fun hge => ?_)
    · have hm : t.nodes[k]? = some t.nodes[k] := List.getElem?_eq_getElem hlt
      generalize t.nodes[k] = m at hm
      have hgm := rsum_eq hT hC hl hm
      have hst := filter_step (p := fun n : Nd => decide (0 < tot t (ownC c) n.id)) hm
      by_cases hp : 0 < tot t (ownC c) m.id
      · simp only [hp, decide_true, if_true] at hst
        have htc : totCh t c m = ⟨m.id, tot t (ownC c) m.id⟩ := rfl
        generalize tot t (ownC c) m.id = T at hgm hp htc
        simp -implicitDefEqProofs (disch := omega) only [h2, h3, h6, h7, hh2_0, hh3_0, hh6_0, hlt, hm, hgm, hp, go_sem, ↓reduceIte, Nat.reduceAdd, Nat.reduceSub, Nat.reduceEqDiff, Nat.reduceLeDiff, reduceCtorEq]
        try refine And.intro (by omega) ?_
        refine (hI _ _).2 ⟨acc ++ [⟨m.id, T⟩], w + 1, ?_, ?_, ?_, ?_, ?_, ?_, ?_, ?_, ?_⟩
        · exact by rw [hst, List.map_append, hacc, List.map_cons, List.map_nil, htc]
        · exact by simp; omega
        all_goals first | with_reducible rfl | (simp -implicitDefEqProofs (disch := omega) only [h2, h3, h6, h7, hh2_0, hh3_0, hh6_0, List.map_append, go_sem, ↓reduceIte, Nat.reduceAdd, Nat.reduceSub, Nat.reduceEqDiff, Nat.reduceLeDiff, reduceCtorEq]; first | done | rfl | (simp; done) | (congr 2; omega) | (congr 1; omega) | (congr 3; omega) | (simp; omega) | (congr 2; simp; omega) | (refine ⟨_, rfl, ?_⟩; first | rfl | (simp -implicitDefEqProofs (disch := omega) only [h2, h3, h6, h7, hh2_0, hh3_0, hh6_0, List.map_append, go_sem, ↓reduceIte, Nat.reduceAdd, Nat.reduceSub, Nat.reduceEqDiff, Nat.reduceLeDiff, reduceCtorEq]; done))) | rfl | omega | (congr 2; omega)
      · simp only [hp, decide_false, Bool.false_eq_true, if_false] at hst
        generalize tot t (ownC c) m.id = T at hgm hp
        simp -implicitDefEqProofs (disch := omega) only [h2, h3, h6, h7, hh2_0, hh3_0, hh6_0, hlt, hm, hgm, hp, go_sem, ↓reduceIte, Nat.reduceAdd, Nat.reduceSub, Nat.reduceEqDiff, Nat.reduceLeDiff, reduceCtorEq]
        try refine And.intro (by omega) ?_
        refine (hI _ _).2 ⟨acc, w, ?_, ?_, ?_, ?_, ?_, ?_, ?_, ?_, ?_⟩
        · exact by rw [hst, hacc]
        · exact by omega
        all_goals first | with_reducible rfl | (simp -implicitDefEqProofs (disch := omega) only [h2, h3, h6, h7, hh2_0, hh3_0, hh6_0, List.map_append, go_sem, ↓reduceIte, Nat.reduceAdd, Nat.reduceSub, Nat.reduceEqDiff, Nat.reduceLeDiff, reduceCtorEq]; first | done | rfl | (simp; done) | (congr 2; omega) | (congr 1; omega) | (congr 3; omega) | (simp; omega) | (congr 2; simp; omega) | (refine ⟨_, rfl, ?_⟩; first | rfl | (simp -implicitDefEqProofs (disch := omega) only [h2, h3, h6, h7, hh2_0, hh3_0, hh6_0, List.map_append, go_sem, ↓reduceIte, Nat.reduceAdd, Nat.reduceSub, Nat.reduceEqDiff, Nat.reduceLeDiff, reduceCtorEq]; done))) | rfl | omega | (congr 2; omega)
    · rw [List.take_of_length_le (by omega)] at hacc
      rw [← hacc]
      simp -implicitDefEqProofs (disch := omega) only [h2, h3, h6, h7, hh2_0, hh3_0, hh6_0, hge, go_sem, ↓reduceIte, Nat.reduceAdd, Nat.reduceSub, Nat.reduceEqDiff, Nat.reduceLeDiff, reduceCtorEq]
      try rfl

/-! ### groups above their limits -/

/-- Two ascending lists with the same members are one. -/
theorem inc_ext : ∀ (a b : List Int), (a.Pairwise fun x y => x < y) → (b.Pairwise fun x y => x < y) → (∀ x, x ∈ a ↔ x ∈ b) → a = b
  | [], [], _, _, _ => rfl
  | [], y :: b, _, _, h => by have := (h y).2 (List.mem_cons_self ..); simp at this
  | x :: a, [], _, _, h => by have := (h x).1 (List.mem_cons_self ..); simp at this
  | x :: a, y :: b, ha, hb, h => by
    obtain ⟨ha1, ha2⟩ := List.pairwise_cons.1 ha
    obtain ⟨hb1, hb2⟩ := List.pairwise_cons.1 hb
    have hxy : x = y := by
      rcases List.mem_cons.1 ((h x).1 (List.mem_cons_self ..)) with h1 | h1
      · exact h1
      · rcases List.mem_cons.1 ((h y).2 (List.mem_cons_self ..)) with h2 | h2
        · exact h2.symm
        · have := hb1 x h1
          have := ha1 y h2
          omega
    subst hxy
    refine congrArg (x :: ·) (inc_ext a b ha2 hb2 fun z => ?_)
    constructor
    · intro hz
      rcases List.mem_cons.1 ((h z).1 (List.mem_cons_of_mem _ hz)) with h1 | h1
      · subst h1
        have := ha1 z hz
        omega
      · exact h1
    · intro hz
      rcases List.mem_cons.1 ((h z).2 (List.mem_cons_of_mem _ hz)) with h1 | h1
      · subst h1
        have := hb1 z hz
        omega
      · exact h1

theorem lookC_none {l : List Ch} {x : Int} (h : ∀ c ∈ l, c.group ≠ x) : lookC l x = none := by
  induction l with
  | nil => rfl
  | cons c l ih =>
    unfold lookC
    rw [if_neg (h c (List.mem_cons_self ..))]
    exact ih fun d hd => h d (List.mem_cons_of_mem _ hd)
theorem lookC_at {l : List Ch} (h : l.Pairwise fun a b => a.group < b.group) {c : Ch} (hc : c ∈ l) : lookC l c.group = some c.own := by
  induction l with
  | nil => simp at hc
  | cons d l ih =>
    obtain ⟨h1, h2⟩ := List.pairwise_cons.1 h
    unfold lookC
    rcases List.mem_cons.1 hc with rfl | hc
    · rw [if_pos rfl]
    · rw [if_neg (by have := h1 c hc; omega)]
      exact ih h2 hc

def OverR (t : Tr) (c l : List Ch) : List Int := (t.nodes.filter fun n => decide (mostK l n.id < tot t (ownC c) n.id)).map (·.id)
theorem overR_eq {t : Tr} {c l : List Ch} (h1 : TreeOk t) (h2 : ChOk t.nodes c) (h3 : AscOk (knownN t.nodes) 0 4611686018427387904 l) : OverR t c l = (l.filter fun x => decide (x.own < tot t (ownC c) x.group)).map (·.group) := by
  refine inc_ext _ _ ?_ ?_ fun x => ?_
  · unfold OverR
    rw [List.pairwise_map]
    exact h1.inc.filter _
  · rw [List.pairwise_map]
    exact h3.inc.filter _
  · unfold OverR
    simp only [List.mem_map, List.mem_filter, decide_eq_true_eq]
    constructor
    · rintro ⟨n, ⟨hn, hp⟩, rfl⟩
      obtain ⟨i, hi⟩ := List.getElem?_of_mem hn
      have := tot_le h1 h2 hi
      have := h2.all
      unfold mostK at hp
      cases hk : lookC l n.id with
      | none =>
        rw [hk] at hp
        simp only [Option.getD_none] at hp
        omega
      | some m =>
        rw [hk] at hp
        obtain ⟨d, hd, e1, e2⟩ := lookC_mem hk
        exact ⟨d, ⟨hd, by rw [e1, e2]; exact hp⟩, e1⟩
    · rintro ⟨d, ⟨hd, hp⟩, rfl⟩
      obtain ⟨n, hn, he⟩ := findN_some (h3.known d hd)
      refine ⟨n, ⟨hn, ?_⟩, he⟩
      rw [he, mostK, lookC_at h3.inc hd]
      exact hp

set_option maxHeartbeats 1000000 in
theorem rover_eq (t : Tr) (c l : List Ch) (hn : t.nodes.length < 1000000) (hc : c.length < 1000000) (hl : l.length < 1000000) : V 34 [t.vv, ctrV c, .p (chsP l)] [] = some (.tup [.fresh 1 ((OverK t c l).1.map (.int .i64)), .p (.int .i64 (OverK t c l).2)], []) := by
  refine V_wp (vf := vf34) rfl ?_
  have hv := rvalidK_eq t c hn hc
  have hvl := rlimits_eq t l hn hl
  unfold OverK
  cases hvv : validK t c with
  | false =>
    rw [hvv] at hv
    simp -implicitDefEqProofs (disch := omega) only [vf34, vb34, hv, go_sem, ↓reduceIte, Nat.reduceAdd, Nat.reduceSub, Nat.reduceEqDiff, Nat.reduceLeDiff, reduceCtorEq]
    try simp
  | true =>
    rw [hvv] at hv
    cases hvl' : validLK t l with
    | false =>
      rw [hvl'] at hvl
      simp -implicitDefEqProofs (disch := omega) only [vf34, vb34, hv, hvl, go_sem, ↓reduceIte, Nat.reduceAdd, Nat.reduceSub, Nat.reduceEqDiff, Nat.reduceLeDiff, reduceCtorEq]
      try simp
    | true =>
      rw [hvl'] at hvl
      rw [if_pos ⟨rfl, rfl⟩]
      obtain ⟨hT, hC⟩ := (validK_iff t c).1 hvv
      have hL : AscOk (knownN t.nodes) 0 4611686018427387904 l := (ascOk_iff _ _ _ _).1 (by simpa [validLK, (treeOk_iff t).2 hT] using hvl')
      rw [← overR_eq hT hC hL]
      simp -implicitDefEqProofs (disch := omega) only [vf34, vb34, hv, hvl, go_sem, ↓reduceIte, Nat.reduceAdd, Nat.reduceSub, Nat.reduceEqDiff, Nat.reduceLeDiff, reduceCtorEq]
      obtain ⟨I, hI⟩ : ∃ I : Nat → St → Prop, ∀ k s, I k s ↔ ∃ (acc : List Int) (w : Nat), acc = ((t.nodes.take k).filter fun n => decide (mostK l n.id < tot t (ownC c) n.id)).map (·.id) ∧ acc.length ≤ k ∧ s.pe 2 = .p (chsP l) ∧ s.pe 3 = .ptr (.slot 3 0) 0 0 ∧ s.pe 4 = .ptr (.slot 4 0) 0 0 ∧ s.pe 8 = .own (.slot 8 0) w 0 acc.length ∧ s.pe 9 = .p (.int .i64 k) ∧ s.h (.slot 3 0) = some (0, Ob.box [.p (nodesP t.nodes), .p (.int .i64 t.next)]) ∧ s.h (.slot 4 0) = some (0, Ob.box [.p (chsP c)]) ∧ s.h (.slot 8 0) = some (w, Ob.arr 1 (acc.map (.int .i64))) := ⟨_, fun _ _ => Iff.rfl⟩
      refine wp_count (t.nodes.length) I ?_ ?_
      · refine (hI _ _).2 ⟨[], 0, ?_, ?_, ?_, ?_, ?_, ?_, ?_, ?_, ?_, ?_⟩
        · exact by first | rfl | omega | (simp; done) | (simp; omega)
        · exact by first | rfl | omega | (simp; done) | (simp; omega)
        all_goals first | with_reducible rfl | (simp -implicitDefEqProofs (disch := omega) only [h2, h3, h6, h7, hh2_0, hh3_0, hh6_0, List.map_append, go_sem, ↓reduceIte, Nat.reduceAdd, Nat.reduceSub, Nat.reduceEqDiff, Nat.reduceLeDiff, reduceCtorEq]; first | done | rfl | (simp; done) | (congr 2; omega) | (congr 1; omega) | (congr 3; omega) | (simp; omega) | (congr 2; simp; omega) | (refine ⟨_, rfl, ?_⟩; first | rfl | (simp -implicitDefEqProofs (disch := omega) only [h2, h3, h6, h7, hh2_0, hh3_0, hh6_0, List.map_append, go_sem, ↓reduceIte, Nat.reduceAdd, Nat.reduceSub, Nat.reduceEqDiff, Nat.reduceLeDiff, reduceCtorEq]; done))) | rfl | omega | (congr 2; omega)
      intro k s hk hIk
      obtain ⟨acc, w, hacc, hal, h2, h3, h4, h8, h9, hh3_0, hh4_0, hh8_0⟩ := (hI _ _).1 hIk
      clear hIk
      simp -implicitDefEqProofs (disch := omega) only [h2, h3, h4, h8, h9, hh3_0, hh4_0, hh8_0, go_sem, ↓reduceIte, Nat.reduceAdd, Nat.reduceSub, Nat.reduceEqDiff, Nat.reduceLeDiff, reduceCtorEq]
      refine wp_if_d (fun hlt => ?_) (fun hge => ?_)
      · have hm : t.nodes[k]? = some t.nodes[k] := List.getElem?_eq_getElem hlt
        generalize t.nodes[k] = m at hm
        have hgm := rsum_eq hT hC hc hm
        have hmo := most_eq l m.id hl
        have hst := filter_step (p := fun n : Nd => decide (mostK l n.id < tot t (ownC c) n.id)) hm
        by_cases hp : mostK l m.id < tot t (ownC c) m.id
        · simp only [hp, decide_true, if_true] at hst
          generalize tot t (ownC c) m.id = T at hgm hp
          generalize mostK l m.id = M at hmo hp
          simp -implicitDefEqProofs (disch := omega) only [h2, h3, h4, h8, h9, hh3_0, hh4_0, hh8_0, hlt, hm, hgm, hmo, hp, go_sem, ↓reduceIte, Nat.reduceAdd, Nat.reduceSub, Nat.reduceEqDiff, Nat.reduceLeDiff, reduceCtorEq]
          try refine And.intro (by omega) ?_
          refine (hI _ _).2 ⟨acc ++ [m.id], w + 1, ?_, ?_, ?_, ?_, ?_, ?_, ?_, ?_, ?_, ?_⟩
          · exact by rw [hst, List.map_append, hacc, List.map_cons, List.map_nil]
          · exact by simp; omega
          all_goals first | with_reducible rfl | (simp -implicitDefEqProofs (disch := omega) only [h2, h3, h4, h8, h9, hh3_0, hh4_0, hh8_0, List.map_append, go_sem, ↓reduceIte, Nat.reduceAdd, Nat.reduceSub, Nat.reduceEqDiff, Nat.reduceLeDiff, reduceCtorEq]; first | done | rfl | (simp; done) | (congr 2; omega) | (congr 1; omega) | (congr 3; omega) | (simp; omega) | (congr 2; simp; omega) | (refine ⟨_, rfl, ?_⟩; first | rfl | (simp -implicitDefEqProofs (disch := omega) only [h2, h3, h4, h8, h9, hh3_0, hh4_0, hh8_0, List.map_append, go_sem, ↓reduceIte, Nat.reduceAdd, Nat.reduceSub, Nat.reduceEqDiff, Nat.reduceLeDiff, reduceCtorEq]; done))) | rfl | omega | (congr 2; omega)
        · simp only [hp, decide_false, Bool.false_eq_true, if_false] at hst
          generalize tot t (ownC c) m.id = T at hgm hp
          generalize mostK l m.id = M at hmo hp
          simp -implicitDefEqProofs (disch := omega) only [h2, h3, h4, h8, h9, hh3_0, hh4_0, hh8_0, hlt, hm, hgm, hmo, hp, go_sem, ↓reduceIte, Nat.reduceAdd, Nat.reduceSub, Nat.reduceEqDiff, Nat.reduceLeDiff, reduceCtorEq]
          try refine And.intro (by omega) ?_
          refine (hI _ _).2 ⟨acc, w, ?_, ?_, ?_, ?_, ?_, ?_, ?_, ?_, ?_, ?_⟩
          · exact by rw [hst, hacc]
          · exact by omega
          all_goals first | with_reducible rfl | (simp -implicitDefEqProofs (disch := omega) only [h2, h3, h4, h8, h9, hh3_0, hh4_0, hh8_0, List.map_append, go_sem, ↓reduceIte, Nat.reduceAdd, Nat.reduceSub, Nat.reduceEqDiff, Nat.reduceLeDiff, reduceCtorEq]; first | done | rfl | (simp; done) | (congr 2; omega) | (congr 1; omega) | (congr 3; omega) | (simp; omega) | (congr 2; simp; omega) | (refine ⟨_, rfl, ?_⟩; first | rfl | (simp -implicitDefEqProofs (disch := omega) only [h2, h3, h4, h8, h9, hh3_0, hh4_0, hh8_0, List.map_append, go_sem, ↓reduceIte, Nat.reduceAdd, Nat.reduceSub, Nat.reduceEqDiff, Nat.reduceLeDiff, reduceCtorEq]; done))) | rfl | omega | (congr 2; omega)
      · rw [List.take_of_length_le (by omega)] at hacc
        change acc = OverR t c l at hacc
        rw [← hacc]
        simp -implicitDefEqProofs (disch := omega) only [h2, h3, h4, h8, h9, hh3_0, hh4_0, hh8_0, hge, go_sem, ↓reduceIte, Nat.reduceAdd, Nat.reduceSub, Nat.reduceEqDiff, Nat.reduceLeDiff, reduceCtorEq]
        try rfl

/-! ### removals -/

def LeavesR (t : Tr) (id : Int) : Int × Int := if (findT t id).isSome = true then (if id = 1 then (0, 3) else if kids t id ≠ [] then (0, 6) else (((findT t id).getD zeroNd).parent, 0)) else (0, 4)
set_option maxHeartbeats 1000000 in
theorem rleaves_eq (t : Tr) (id : Int) (hn : t.nodes.length < 1000000) : V 59 [t.vv, .p (.int .i64 id)] [] = some (.tup [.p (.int .i64 (LeavesR t id).1), .p (.int .i64 (LeavesR t id).2)], []) := by
  refine V_wp (vf := vf59) rfl ?_
  have hfi := rfind_eq t id hn
  have hk := rkids_eq t id hn
  unfold LeavesR
  generalize (findT t id).getD zeroNd = nd at hfi ⊢
  cases hs : (findT t id).isSome with
  | false =>
    rw [hs] at hfi
    simp -implicitDefEqProofs (disch := omega) only [vf59, vb59, hfi, Nd.vv, go_sem, ↓reduceIte, Nat.reduceAdd, Nat.reduceSub, Nat.reduceEqDiff, Nat.reduceLeDiff, reduceCtorEq]
    try rfl
  | true =>
    rw [hs] at hfi
    by_cases h1 : id = 1
    · subst h1
      simp -implicitDefEqProofs (disch := omega) only [vf59, vb59, hfi, Nd.vv, go_sem, ↓reduceIte, Nat.reduceAdd, Nat.reduceSub, Nat.reduceEqDiff, Nat.reduceLeDiff, reduceCtorEq]
      try rfl
    · by_cases hz : kids t id = []
      · rw [hz] at hk
        simp -implicitDefEqProofs (disch := omega) only [vf59, vb59, hfi, Nd.vv, h1, hk, zero_lt_zero, go_sem, ↓reduceIte, Nat.reduceAdd, Nat.reduceSub, Nat.reduceEqDiff, Nat.reduceLeDiff, reduceCtorEq]
        simp [h1, hz]
      · have hz' : (0 : Int) < ((kids t id).length : Int) := by
          have := List.length_pos_iff.2 hz
          omega
        have hne : kids t id ≠ [] := hz
        rw [if_pos rfl, if_neg h1, if_pos hne]
        generalize kids t id = ks at hk hz'
        simp -implicitDefEqProofs (disch := omega) only [vf59, vb59, hfi, Nd.vv, h1, hk, hz', go_sem, ↓reduceIte, Nat.reduceAdd, Nat.reduceSub, Nat.reduceEqDiff, Nat.reduceLeDiff, reduceCtorEq]
        try rfl

theorem RemK_put {t : Tr} {l : List Ch} (h1 : TreeOk t) (h2 : ChOk t.nodes l) {i : Nat} {n : Nd} (hi : t.nodes[i]? = some n) (hr : n.id ≠ 1) (hz : ownC l n.id = 0) : withC (withC l n.id 0) n.parent (ownC l n.parent + ownC l n.id) = withC l n.id 0 := by
  have hk : ∀ {id : Int}, (∃ (j : Nat) (m : Nd), t.nodes[j]? = some m ∧ m.id = id) → (findN t.nodes id).isSome = true := by
    rintro id ⟨j, m, hm, rfl⟩
    rw [findN_unique h1.inc hm]; rfl
  have hw0 : ChOk t.nodes (withC l n.id 0) := h2.with (hk ⟨i, n, hi, rfl⟩) (by omega) (by rw [hz]; have := h2.all; omega)
  have hp : (findN t.nodes n.parent).isSome = true := by
    rcases h1.nodeAt hi with ⟨_, h, _⟩ | ⟨_, _, j, p, _, hj, he⟩
    · exact absurd h hr
    · exact hk ⟨j, p, hj, he⟩
  have hne : n.parent ≠ n.id := by
    rcases h1.nodeAt hi with ⟨_, h, _⟩ | ⟨_, _, j, p, hji, hj, he⟩
    · exact absurd h hr
    · intro hh
      have := (h1.idx hj hi (by rw [he, hh])).1
      omega
  have hpo : ownC (withC l n.id 0) n.parent = ownC l n.parent := by rw [withC_own, if_neg hne]
  have hv : ownC l n.parent + ownC l n.id = ownC l n.parent := by omega
  rw [hv]
  have hw1 : ChOk t.nodes (withC (withC l n.id 0) n.parent (ownC l n.parent)) := hw0.with hp (ownC_nonneg h2.pos _) (by rw [hpo]; have := hw0.all; omega)
  refine ch_ext _ _ hw1.inc hw0.inc hw1.pos hw0.pos fun x => ?_
  rw [withC_own]
  by_cases hx : x = n.parent
  · rw [if_pos hx, hx, hpo]
  · rw [if_neg hx]

theorem checkK_bad {t : Tr} {l : List Ch} (h : validK t l = false) (id : Int) : checkK t l id = 1 := by
  rw [checkK, h]
  rfl
theorem checkK_no {t : Tr} {l : List Ch} {id : Int} (h : validK t l = true) (hs : (findN t.nodes id).isSome = false) : checkK t l id = 4 := by
  rw [checkK, h, hs]
  rfl
theorem checkK_ok {t : Tr} {l : List Ch} {id : Int} (h : validK t l = true) (hs : (findN t.nodes id).isSome = true) : checkK t l id = 0 := by
  rw [checkK, h, hs]
  rfl

set_option maxHeartbeats 1000000 in
theorem rRem_eq (t : Tr) (l : List Ch) (id : Int) (hn : t.nodes.length < 1000000) (hl : l.length < 900000) : V 38 [t.vv, ctrV l, .p (.int .i64 id)] [] = some (.tup [ctrF (RemK t l id).1, .p (.int .i64 (RemK t l id).2)], []) := by
  refine V_wp (vf := vf38) rfl ?_
  have hv := rvalidK_eq t l hn (by omega)
  have hle := rleaves_eq t id hn
  have e40 : ¬ ((4 : Int) = 0) := by omega
  have e30 : ¬ ((3 : Int) = 0) := by omega
  have e60 : ¬ ((6 : Int) = 0) := by omega
  unfold RemK
  cases hvv : validK t l with
  | false =>
    rw [hvv] at hv
    rw [checkK_bad hvv, if_neg (by omega)]
    simp -implicitDefEqProofs (disch := omega) only [vf38, vb38, hv, go_sem, ↓reduceIte, Nat.reduceAdd, Nat.reduceSub, Nat.reduceEqDiff, Nat.reduceLeDiff, reduceCtorEq]
    try rfl
  | true =>
    rw [hvv] at hv
    obtain ⟨hT, hC⟩ := (validK_iff t l).1 hvv
    unfold LeavesR at hle
    rw [findT_ok ((treeOk_iff t).2 hT)] at hle
    cases hs : (findN t.nodes id).isSome with
    | false =>
      rw [hs, if_neg (by simp)] at hle
      rw [checkK_no hvv hs, if_neg (by omega)]
      simp -implicitDefEqProofs (disch := omega) only [vf38, vb38, hv, hle, e40, go_sem, ↓reduceIte, Nat.reduceAdd, Nat.reduceSub, Nat.reduceEqDiff, Nat.reduceLeDiff, reduceCtorEq]
      try rfl
    | true =>
      rw [hs, if_pos rfl] at hle
      rw [checkK_ok hvv hs, if_pos rfl]
      obtain ⟨n, hn', rfl⟩ := findN_some hs
      obtain ⟨i, hi⟩ := List.getElem?_of_mem hn'
      have hkk : kids t n.id = kidsN t.nodes n.id := kids_kidsN (by rw [findT_ok ((treeOk_iff t).2 hT)]; exact hs)
      rw [hkk, findN_unique hT.inc hi, Option.getD_some] at hle
      rw [findN_unique hT.inc hi, Option.getD_some]
      by_cases hr : n.id = 1
      · rw [if_pos hr] at hle ⊢
        simp -implicitDefEqProofs (disch := omega) only [vf38, vb38, hv, hle, e30, go_sem, ↓reduceIte, Nat.reduceAdd, Nat.reduceSub, Nat.reduceEqDiff, Nat.reduceLeDiff, reduceCtorEq]
        try rfl
      · rw [if_neg hr] at hle ⊢
        by_cases hz : kidsN t.nodes n.id = []
        · have hz2 : ¬ (kidsN t.nodes n.id ≠ []) := fun h => h hz
          rw [if_neg hz2] at hle ⊢
          have ho := rown_eq l n.id (by omega)
          have o0 := ownC_nonneg hC.pos n.id
          have o1 := ownC_le hC.pos n.id
          have o2 := hC.all
          have hop := rown_eq l n.parent (by omega)
          have p0 := ownC_nonneg hC.pos n.parent
          have p1 := ownC_le hC.pos n.parent
          have hw0 := rput_eq l n.id 0 (by omega)
          have hwl := withC_length l n.id 0
          have hw1 := rput_eq (withC l n.id 0) n.parent (ownC l n.parent + ownC l n.id) (by omega)
          have hfin : (if ownC l n.id = 0 then (withC l n.id 0, (0 : Int)) else (withC (withC l n.id 0) n.parent (ownC l n.parent + ownC l n.id), 0)) = (withC (withC l n.id 0) n.parent (ownC l n.parent + ownC l n.id), 0) := by
            split
            · rename_i hz0
              rw [RemK_put hT hC hi hr hz0]
            · rfl
          rw [hfin]
          generalize ownC l n.id = o at ho o0 o1 hw1
          generalize ownC l n.parent = p at hop p0 p1 hw1
          generalize hG : withC l n.id 0 = G at hw0 hw1 hwl
          generalize withC G n.parent (p + o) = G2 at hw1
          simp -implicitDefEqProofs (disch := omega) only [vf38, vb38, hv, hle, ho, hop, hw0, hw1, go_sem, ↓reduceIte, Nat.reduceAdd, Nat.reduceSub, Nat.reduceEqDiff, Nat.reduceLeDiff, reduceCtorEq]
        · rw [if_pos hz] at hle ⊢
          simp -implicitDefEqProofs (disch := omega) only [vf38, vb38, hv, hle, e60, go_sem, ↓reduceIte, Nat.reduceAdd, Nat.reduceSub, Nat.reduceEqDiff, Nat.reduceLeDiff, reduceCtorEq]
          try rfl

/-! ### charges below limits -/

theorem refuses_most {t : Tr} {c l : List Ch} (h1 : TreeOk t) (h2 : ChOk t.nodes c) {n : Int} (hn : n ≤ 16777216) {i : Nat} {m : Nd} (hi : t.nodes[i]? = some m) : refuses t c l n m.id = decide (mostK l m.id < tot t (ownC c) m.id + n) := by
  unfold refuses mostK
  have := tot_le h1 h2 hi
  have := h2.all
  cases hk : lookC l m.id with
  | none =>
    simp only [Option.getD_none]
    exact (decide_eq_false (by omega)).symm
  | some v => rfl

set_option maxHeartbeats 2000000 in
theorem rcharge_eq (t : Tr) (c l : List Ch) (id n : Int) (hn : t.nodes.length < 1000000) (hc : c.length < 1000000) (hl : l.length < 1000000) : V 32 [t.vv, ctrV c, .p (chsP l), .p (.int .i64 id), .p (.int .i64 n)] [] = some (.tup [ctrF (ChargeK t c l id n).1, .p (.int .i64 (ChargeK t c l id n).2.1), .p (.int .i64 (ChargeK t c l id n).2.2)], []) := by
  refine V_wp (vf := vf32) rfl ?_
  have hv := rvalidK_eq t c hn hc
  have hvl := rlimits_eq t l hn hl
  have hh := rhas_eq t id hn
  unfold ChargeK
  cases hvv : validK t c with
  | false =>
    rw [hvv] at hv
    rw [if_neg (by simp)]
    simp -implicitDefEqProofs (disch := omega) only [vf32, vb32, hv, go_sem, ↓reduceIte, Nat.reduceAdd, Nat.reduceSub, Nat.reduceEqDiff, Nat.reduceLeDiff, reduceCtorEq]
    try simp
  | true =>
    rw [hvv] at hv
    cases hvl' : validLK t l with
    | false =>
      rw [hvl'] at hvl
      rw [if_neg (by simp)]
      simp -implicitDefEqProofs (disch := omega) only [vf32, vb32, hv, hvl, go_sem, ↓reduceIte, Nat.reduceAdd, Nat.reduceSub, Nat.reduceEqDiff, Nat.reduceLeDiff, reduceCtorEq]
      try simp
    | true =>
      rw [hvl'] at hvl
      rw [if_pos ⟨rfl, rfl⟩]
      obtain ⟨hT, hC⟩ := (validK_iff t c).1 hvv
      rw [findT_ok ((treeOk_iff t).2 hT)] at hh
      cases hs : (findN t.nodes id).isSome with
      | false =>
        rw [hs] at hh
        rw [checkK_no hvv hs, if_neg (by omega)]
        simp -implicitDefEqProofs (disch := omega) only [vf32, vb32, hv, hvl, hh, go_sem, ↓reduceIte, Nat.reduceAdd, Nat.reduceSub, Nat.reduceEqDiff, Nat.reduceLeDiff, reduceCtorEq]
        try rfl
      | true =>
        rw [hs] at hh
        rw [checkK_ok hvv hs, if_pos rfl]
        obtain ⟨nd, hn', rfl⟩ := findN_some hs
        obtain ⟨i, hi⟩ := List.getElem?_of_mem hn'
        have ho := rown_eq c nd.id hc
        have o0 := ownC_nonneg hC.pos nd.id
        have o1 := ownC_le hC.pos nd.id
        have o2 := hC.all
        obtain ⟨r, hr, hr1⟩ := root_at hT
        have hsum := rsum_eq hT hC hc hr
        have t0 := tot_nonneg t (ownC_nonneg hC.pos) r.id
        have t1 := tot_le hT hC hr
        have hwi := rput_eq c nd.id (ownC c nd.id + n) hc
        rw [hr1] at hsum t0 t1
        by_cases n1 : n < 0
        · rw [if_pos n1]
          simp -implicitDefEqProofs (disch := omega) only [vf32, vb32, hv, hvl, hh, n1, go_sem, ↓reduceIte, Nat.reduceAdd, Nat.reduceSub, Nat.reduceEqDiff, Nat.reduceLeDiff, reduceCtorEq]
          try rfl
        · rw [if_neg n1]
          by_cases n2 : 16777216 < n
          · have hadd : addK t c nd.id n = ([], 3) := by rw [addK, if_pos (Or.inr (Or.inl n2))]
            rw [hadd, if_pos (Or.inl (by simp))]
            simp -implicitDefEqProofs (disch := omega) only [vf32, vb32, hv, hvl, hh, n1, n2, go_sem, ↓reduceIte, Nat.reduceAdd, Nat.reduceSub, Nat.reduceEqDiff, Nat.reduceLeDiff, reduceCtorEq]
            try simp
          · by_cases n4 : 16777216 < tot t (ownC c) 1 + n
            · have hadd : addK t c nd.id n = ([], 7) := by rw [addK, if_neg (by omega), if_pos n4]
              rw [hadd, if_pos (Or.inl (by simp))]
              generalize tot t (ownC c) 1 = T at hsum t0 t1 n4
              simp -implicitDefEqProofs (disch := omega) only [vf32, vb32, hv, hvl, hh, n1, n2, n4, hsum, go_sem, ↓reduceIte, Nat.reduceAdd, Nat.reduceSub, Nat.reduceEqDiff, Nat.reduceLeDiff, reduceCtorEq]
              try simp
            · have hadd : addK t c nd.id n = (withC c nd.id (ownC c nd.id + n), 0) := by rw [addK, if_neg (by omega), if_neg n4]
              rw [hadd]
              have hal := ancR_anc hT hi
              have ha := ranc_eq t nd.id hn
              rw [hal] at ha
              have hanc := anc_le hT i nd hi
              have hlen := ancF_length t.nodes t.nodes.length nd.id
              by_cases hz : n = 0
              · subst hz
                rw [if_pos (Or.inr rfl)]
                generalize tot t (ownC c) 1 = T at hsum t0 t1 n4
                generalize ownC c nd.id = o at ho o0 o1 hwi
                generalize withC c nd.id (o + 0) = W at hwi
                have e1 : ¬ (16777216 : Int) < T := by omega
                have e2 : ¬ (0 : Int) < 0 := by omega
                have hwi2 : V 54 [ctrV c, .p (.int .i64 nd.id), .p (.int .i64 o)] [] = some (ctrF W, []) := by rw [← hwi, Int.add_zero]
                generalize ancF t.nodes t.nodes.length nd.id = A at ha hanc hlen
                simp -implicitDefEqProofs (disch := omega) only [vf32, vb32, hv, hvl, hh, n1, n2, n4, hsum, ha, go_sem, ↓reduceIte, Nat.reduceAdd, Nat.reduceSub, Nat.reduceEqDiff, Nat.reduceLeDiff, reduceCtorEq]
                obtain ⟨I, hI⟩ : ∃ I : Nat → St → Prop, ∀ k s, I k s ↔ s.pe 2 = .p (chsP l) ∧ s.pe 3 = .p (.int .i64 nd.id) ∧ s.pe 4 = .p (.int .i64 0) ∧ s.pe 5 = .ptr (.slot 5 0) 0 0 ∧ s.pe 6 = .ptr (.slot 6 0) 0 0 ∧ s.pe 10 = .ptr (.slot 10 0) 0 0 ∧ s.pe 13 = .own (.slot 51 1) 0 0 A.length ∧ s.pe 14 = .p (.int .i64 k) ∧ s.h (.slot 5 0) = some (0, Ob.box [.p (nodesP t.nodes), .p (.int .i64 t.next)]) ∧ s.h (.slot 6 0) = some (0, Ob.box [.p (chsP c)]) ∧ s.h (.slot 10 0) = some (0, Ob.box [.own (.slot 10 1) 0 0 0]) ∧ s.h (.slot 10 1) = some (0, Ob.arr 2 []) ∧ s.h (.slot 51 1) = some (0, Ob.arr 1 (List.map (.int .i64) A)) := ⟨_, fun _ _ => Iff.rfl⟩
                refine wp_count (0) I ?_ ?_
                · refine (hI _ _).2 ⟨?_, ?_, ?_, ?_, ?_, ?_, ?_, ?_, ?_, ?_, ?_, ?_, ?_⟩
                  all_goals first | with_reducible rfl | (simp -implicitDefEqProofs (disch := omega) only [h2, h3, h4, h8, h9, hh3_0, hh4_0, hh8_0, List.map_append, go_sem, ↓reduceIte, Nat.reduceAdd, Nat.reduceSub, Nat.reduceEqDiff, Nat.reduceLeDiff, reduceCtorEq]; first | done | rfl | (simp; done) | (congr 2; omega) | (congr 1; omega) | (congr 3; omega) | (simp; omega) | (congr 2; simp; omega) | (refine ⟨_, rfl, ?_⟩; first | rfl | (simp -implicitDefEqProofs (disch := omega) only [h2, h3, h4, h8, h9, hh3_0, hh4_0, hh8_0, List.map_append, go_sem, ↓reduceIte, Nat.reduceAdd, Nat.reduceSub, Nat.reduceEqDiff, Nat.reduceLeDiff, reduceCtorEq]; done))) | rfl | omega | (congr 2; omega)
                intro k s hk hIk
                obtain ⟨h2, h3, h4, h5, h6, h10, h13, h14, hh5_0, hh6_0, hh10_0, hh10_1, hh51_1⟩ := (hI _ _).1 hIk
                clear hIk
                simp -implicitDefEqProofs (disch := omega) only [h2, h3, h4, h5, h6, h10, h13, h14, hh5_0, hh6_0, hh10_0, hh10_1, hh51_1, e2, ho, hwi2, Int.add_zero, go_sem, ↓reduceIte, Nat.reduceAdd, Nat.reduceSub, Nat.reduceEqDiff, Nat.reduceLeDiff, reduceCtorEq]
              · have hor : ¬ (((withC c nd.id (ownC c nd.id + n), (0 : Int)).2 ≠ 0) ∨ n = 0) := by simp [hz]
                rw [if_neg hor]
                have hz' : (0 : Int) < n := by omega
                generalize tot t (ownC c) 1 = T at hsum t0 t1 n4
                generalize ancF t.nodes t.nodes.length nd.id = A at ha hanc hlen
                simp -implicitDefEqProofs (disch := omega) only [vf32, vb32, hv, hvl, hh, n1, n2, n4, hsum, ha, go_sem, ↓reduceIte, Nat.reduceAdd, Nat.reduceSub, Nat.reduceEqDiff, Nat.reduceLeDiff, reduceCtorEq]
                obtain ⟨I, hI⟩ : ∃ I : Nat → St → Prop, ∀ k s, I k s ↔ A.find? (refuses t c l n) = (A.drop k).find? (refuses t c l n) ∧ s.pe 2 = .p (chsP l) ∧ s.pe 3 = .p (.int .i64 nd.id) ∧ s.pe 4 = .p (.int .i64 n) ∧ s.pe 5 = .ptr (.slot 5 0) 0 0 ∧ s.pe 6 = .ptr (.slot 6 0) 0 0 ∧ s.pe 10 = .ptr (.slot 10 0) 0 0 ∧ s.pe 13 = .own (.slot 51 1) 0 0 A.length ∧ s.pe 14 = .p (.int .i64 k) ∧ s.h (.slot 5 0) = some (0, Ob.box [.p (nodesP t.nodes), .p (.int .i64 t.next)]) ∧ s.h (.slot 6 0) = some (0, Ob.box [.p (chsP c)]) ∧ s.h (.slot 10 0) = some (0, Ob.box [.own (.slot 10 1) 0 0 0]) ∧ s.h (.slot 10 1) = some (0, Ob.arr 2 []) ∧ s.h (.slot 51 1) = some (0, Ob.arr 1 (List.map (.int .i64) A)) := ⟨_, fun _ _ => Iff.rfl⟩
                refine wp_count (A.length) I ?_ ?_
                · refine (hI _ _).2 ⟨?_, ?_, ?_, ?_, ?_, ?_, ?_, ?_, ?_, ?_, ?_, ?_, ?_, ?_⟩
                  · exact by first | rfl | omega | (simp; done) | (simp; omega)
                  all_goals first | with_reducible rfl | (simp -implicitDefEqProofs (disch := omega) only [h2, h3, h4, h5, h6, h10, h13, h14, hh5_0, hh6_0, hh10_0, hh10_1, hh51_1, List.map_append, go_sem, ↓reduceIte, Nat.reduceAdd, Nat.reduceSub, Nat.reduceEqDiff, Nat.reduceLeDiff, reduceCtorEq]; first | done | rfl | (simp; done) | (congr 2; omega) | (congr 1; omega) | (congr 3; omega) | (simp; omega) | (congr 2; simp; omega) | (refine ⟨_, rfl, ?_⟩; first | rfl | (simp -implicitDefEqProofs (disch := omega) only [h2, h3, h4, h5, h6, h10, h13, h14, hh5_0, hh6_0, hh10_0, hh10_1, hh51_1, List.map_append, go_sem, ↓reduceIte, Nat.reduceAdd, Nat.reduceSub, Nat.reduceEqDiff, Nat.reduceLeDiff, reduceCtorEq]; done))) | rfl | omega | (congr 2; omega)
                intro k s hk hIk
                obtain ⟨hq, h2, h3, h4, h5, h6, h10, h13, h14, hh5_0, hh6_0, hh10_0, hh10_1, hh51_1⟩ := (hI _ _).1 hIk
                clear hIk
                simp -implicitDefEqProofs (disch := omega) only [h2, h3, h4, h5, h6, h10, h13, h14, hh5_0, hh6_0, hh10_0, hh10_1, hh51_1, hz', go_sem, ↓reduceIte, Nat.reduceAdd, Nat.reduceSub, Nat.reduceEqDiff, Nat.reduceLeDiff, reduceCtorEq]
                refine wp_if_d (fun hlt => ?_) (fun hge => ?_)
                · have hm : A[k]? = some A[k] := List.getElem?_eq_getElem hlt
                  generalize A[k] = g at hm
                  obtain ⟨j, nj, _, hj, rfl⟩ := hanc g (List.mem_of_getElem? hm)
                  have hgj := rsum_eq hT hC hc hj
                  have hmj := most_eq l nj.id hl
                  have t2 := tot_nonneg t (ownC_nonneg hC.pos) nj.id
                  have t3 := tot_le hT hC hj
                  have hst := find_drop hm hq
                  rw [refuses_most hT hC (by omega) hj] at hst
                  generalize mostK l nj.id = M at hmj hst
                  generalize tot t (ownC c) nj.id = U at hgj t2 t3 hst
                  by_cases hb : M < U + n
                  · rw [if_pos (decide_eq_true hb)] at hst
                    simp -implicitDefEqProofs (disch := omega) only [h2, h3, h4, h5, h6, h10, h13, h14, hh5_0, hh6_0, hh10_0, hh10_1, hh51_1, hlt, hm, hmj, hgj, hb, hst, hz', go_sem, ↓reduceIte, Nat.reduceAdd, Nat.reduceSub, Nat.reduceEqDiff, Nat.reduceLeDiff, reduceCtorEq]
                    try rfl
                  · rw [if_neg (by simpa using hb)] at hst
                    simp -implicitDefEqProofs (disch := omega) only [h2, h3, h4, h5, h6, h10, h13, h14, hh5_0, hh6_0, hh10_0, hh10_1, hh51_1, hlt, hm, hmj, hgj, hb, hz', go_sem, ↓reduceIte, Nat.reduceAdd, Nat.reduceSub, Nat.reduceEqDiff, Nat.reduceLeDiff, reduceCtorEq]
                    try refine And.intro (by omega) ?_
                    refine (hI _ _).2 ⟨?_, ?_, ?_, ?_, ?_, ?_, ?_, ?_, ?_, ?_, ?_, ?_, ?_, ?_⟩
                    · exact hst
                    all_goals first | with_reducible rfl | (simp -implicitDefEqProofs (disch := omega) only [h2, h3, h4, h5, h6, h10, h13, h14, hh5_0, hh6_0, hh10_0, hh10_1, hh51_1, List.map_append, go_sem, ↓reduceIte, Nat.reduceAdd, Nat.reduceSub, Nat.reduceEqDiff, Nat.reduceLeDiff, reduceCtorEq]; first | done | rfl | (simp; done) | (congr 2; omega) | (congr 1; omega) | (congr 3; omega) | (simp; omega) | (congr 2; simp; omega) | (refine ⟨_, rfl, ?_⟩; first | rfl | (simp -implicitDefEqProofs (disch := omega) only [h2, h3, h4, h5, h6, h10, h13, h14, hh5_0, hh6_0, hh10_0, hh10_1, hh51_1, List.map_append, go_sem, ↓reduceIte, Nat.reduceAdd, Nat.reduceSub, Nat.reduceEqDiff, Nat.reduceLeDiff, reduceCtorEq]; done))) | rfl | omega | (congr 2; omega)
                · rw [List.drop_of_length_le (by omega)] at hq
                  rw [hq]
                  generalize ownC c nd.id = o at ho o0 o1 hwi
                  generalize withC c nd.id (o + n) = W at hwi
                  simp -implicitDefEqProofs (disch := omega) only [h2, h3, h4, h5, h6, h10, h13, h14, hh5_0, hh6_0, hh10_0, hh10_1, hh51_1, hge, hz', ho, hwi, go_sem, ↓reduceIte, Nat.reduceAdd, Nat.reduceSub, Nat.reduceEqDiff, Nat.reduceLeDiff, reduceCtorEq]
                  try rfl
end Go.V

