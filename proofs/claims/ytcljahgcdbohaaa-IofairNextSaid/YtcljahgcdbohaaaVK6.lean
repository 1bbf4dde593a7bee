/- The value machine V at work: lists that are the same, limits. -/
import Derived.Test.YtcljahgcdbohaaaVK5
import Derived.Test.YtcljahgcdbohaaaVG1
set_option linter.unusedSimpArgs false
set_option linter.unusedVariables false
namespace Go.V

theorem ch_ne {c d : Ch} (h : ¬ c = d) : (decide (c.group = d.group) && decide (c.own = d.own)) = false := by
  rw [Bool.eq_false_iff]
  intro hh
  simp at hh
  apply h
  cases c; cases d; simp_all

theorem same_eq (a b : List Ch) (hl : a.length < 1000000) : V 59 [.p (chsP a), .p (chsP b)] [] = some (.p (.bool (decide (a = b))), []) := by
  refine V_wp (vf := vf59) rfl ?_
  by_cases he : a.length = b.length
  · have he' : ((a.length : Int) = b.length) := by omega
    simp -implicitDefEqProofs (disch := omega) only [vf59, vb59, he', go_sem, ↓reduceIte, Nat.reduceAdd, Nat.reduceSub, Nat.reduceEqDiff, Nat.reduceLeDiff, reduceCtorEq]
    obtain ⟨I, hI⟩ : ∃ I : Nat → St → Prop, ∀ k s, I k s ↔ a.take k = b.take k ∧ s.pe 0 = .p (chsP a) ∧ s.pe 1 = .p (chsP b) ∧ s.pe 5 = .p (.int .i64 k) := ⟨_, fun _ _ => Iff.rfl⟩
    refine wp_count (a.length) I ?_ ?_
    · refine (hI _ _).2 ⟨?_, ?_, ?_, ?_⟩
      · exact by first | rfl | omega | (simp; done) | (simp; omega)
      all_goals first | with_reducible rfl | (simp -implicitDefEqProofs (disch := omega) only [List.map_append, go_sem, ↓reduceIte, Nat.reduceAdd, Nat.reduceSub, Nat.reduceEqDiff, Nat.reduceLeDiff, reduceCtorEq]; first | done | rfl | (simp; done) | (congr 2; omega) | (congr 1; omega) | (congr 3; omega) | (simp; omega) | (congr 2; simp; omega) | (refine ⟨_, rfl, ?_⟩; first | rfl | (simp -implicitDefEqProofs (disch := omega) only [List.map_append, go_sem, ↓reduceIte, Nat.reduceAdd, Nat.reduceSub, Nat.reduceEqDiff, Nat.reduceLeDiff, reduceCtorEq]; done))) | rfl | omega | (congr 2; omega)
    intro k s hk hIk
    obtain ⟨ht, h0, h1, h5⟩ := (hI _ _).1 hIk
    clear hIk
    simp -implicitDefEqProofs (disch := omega) only [h0, h1, h5, go_sem, ↓reduceIte, Nat.reduceAdd, Nat.reduceSub, Nat.reduceEqDiff, Nat.reduceLeDiff, reduceCtorEq]
    refine wp_if_d (fun hlt => ?_) (fun hge => ?_)
    · have ha : a[k]? = some a[k] := List.getElem?_eq_getElem hlt
      have hb : b[k]? = some b[k] := List.getElem?_eq_getElem (by omega)
      generalize a[k] = c at ha
      generalize b[k] = d at hb
      by_cases hcd : c = d
      · subst hcd
        simp -implicitDefEqProofs (disch := omega) only [h0, h1, h5, hlt, ha, hb, go_sem, ↓reduceIte, Nat.reduceAdd, Nat.reduceSub, Nat.reduceEqDiff, Nat.reduceLeDiff, reduceCtorEq]
        try refine And.intro (by omega) ?_
        refine (hI _ _).2 ⟨?_, ?_, ?_, ?_⟩
        · exact by rw [List.take_add_one, List.take_add_one, ha, hb, ht]
        all_goals first | with_reducible rfl | (simp -implicitDefEqProofs (disch := omega) only [h0, h1, h5, List.map_append, go_sem, ↓reduceIte, Nat.reduceAdd, Nat.reduceSub, Nat.reduceEqDiff, Nat.reduceLeDiff, reduceCtorEq]; first | done | rfl | (simp; done) | (congr 2; omega) | (congr 1; omega) | (congr 3; omega) | (simp; omega) | (congr 2; simp; omega) | (refine ⟨_, rfl, ?_⟩; first | rfl | (simp -implicitDefEqProofs (disch := omega) only [h0, h1, h5, List.map_append, go_sem, ↓reduceIte, Nat.reduceAdd, Nat.reduceSub, Nat.reduceEqDiff, Nat.reduceLeDiff, reduceCtorEq]; done))) | rfl | omega | (congr 2; omega)
      · have hne : ¬ a = b := by
          intro hab
          subst hab
          rw [ha] at hb
          cases hb
          exact hcd rfl
        have hx := ch_ne hcd
        simp -implicitDefEqProofs (disch := omega) only [h0, h1, h5, hlt, ha, hb, hx, hne, decide_false, go_sem, ↓reduceIte, Nat.reduceAdd, Nat.reduceSub, Nat.reduceEqDiff, Nat.reduceLeDiff, reduceCtorEq]
    · have hab : a = b := by
        rw [List.take_of_length_le (by omega), List.take_of_length_le (by omega)] at ht
        exact ht
      simp -implicitDefEqProofs (disch := omega) only [h0, h1, h5, hge, hab, decide_true, go_sem, ↓reduceIte, Nat.reduceAdd, Nat.reduceSub, Nat.reduceEqDiff, Nat.reduceLeDiff, reduceCtorEq]
  · have he' : ¬ ((a.length : Int) = b.length) := by omega
    have hne : ¬ a = b := fun h => he (by rw [h])
    simp -implicitDefEqProofs (disch := omega) only [vf59, vb59, he', hne, decide_false, go_sem, ↓reduceIte, Nat.reduceAdd, Nat.reduceSub, Nat.reduceEqDiff, Nat.reduceLeDiff, reduceCtorEq]

theorem fkids_eq (t : Tr) (id : Int) (hl : t.nodes.length < 1000000) : V 92 [t.vv, .p (.int .i64 id)] [] = some (.fresh 1 ((kidsN t.nodes id).map (.int .i64)), []) := by
  refine V_wp (vf := vf92) rfl ?_
  simp -implicitDefEqProofs (disch := omega) only [vf92, vb92, go_sem, ↓reduceIte, Nat.reduceAdd, Nat.reduceSub, Nat.reduceEqDiff, Nat.reduceLeDiff, reduceCtorEq]
  obtain ⟨I, hI⟩ : ∃ I : Nat → St → Prop, ∀ k s, I k s ↔ ∃ (acc : List Int) (w : Nat), acc = kidsN (t.nodes.take k) id ∧ acc.length ≤ k ∧ s.pe 1 = .p (.int .i64 id) ∧ s.pe 5 = .own (.slot 5 0) w 0 acc.length ∧ s.pe 9 = .p (nodesP t.nodes) ∧ s.pe 10 = .p (.int .i64 t.nodes.length) ∧ s.pe 11 = .p (.int .i64 k) ∧ s.h (.slot 5 0) = some (w, .arr 1 (acc.map (.int .i64))) := ⟨_, fun _ _ => Iff.rfl⟩
  refine wp_count (t.nodes.length) I ?_ ?_
  · refine (hI _ _).2 ⟨[], 0, ?_, ?_, ?_, ?_, ?_, ?_, ?_, ?_⟩
    · exact by first | rfl | omega | (simp; done) | (simp; omega)
    · exact by first | rfl | omega | (simp; done) | (simp; omega)
    all_goals first | with_reducible rfl | (simp -implicitDefEqProofs (disch := omega) only [h0, h1, h5, List.map_append, go_sem, ↓reduceIte, Nat.reduceAdd, Nat.reduceSub, Nat.reduceEqDiff, Nat.reduceLeDiff, reduceCtorEq]; first | done | rfl | (simp; done) | (congr 2; omega) | (congr 1; omega) | (congr 3; omega) | (simp; omega) | (congr 2; simp; omega) | (refine ⟨_, rfl, ?_⟩; first | rfl | (simp -implicitDefEqProofs (disch := omega) only [h0, h1, h5, List.map_append, go_sem, ↓reduceIte, Nat.reduceAdd, Nat.reduceSub, Nat.reduceEqDiff, Nat.reduceLeDiff, reduceCtorEq]; done))) | rfl | omega | (congr 2; omega)
  intro k s hk hIk
  obtain ⟨acc, w, hacc, hal, h1, h5, h9, h10, h11, hh5_0⟩ := (hI _ _).1 hIk
  clear hIk
  simp -implicitDefEqProofs (disch := omega) only [h1, h5, h9, h10, h11, hh5_0, go_sem, ↓reduceIte, Nat.reduceAdd, Nat.reduceSub, Nat.reduceEqDiff, Nat.reduceLeDiff, reduceCtorEq]
  refine wp_if_d (fun hlt => ?_) (fun hge => ?_)
  · have hm : t.nodes[k]? = some t.nodes[k] := List.getElem?_eq_getElem hlt
    generalize t.nodes[k] = m at hm
    have hst := filter_take (p := fun n : Nd => decide (n.parent = id)) hm
    by_cases hp : m.parent = id
    · simp only [hp, decide_true, if_true] at hst
      simp -implicitDefEqProofs (disch := omega) only [h1, h5, h9, h10, h11, hh5_0, hlt, hm, hp, go_sem, ↓reduceIte, Nat.reduceAdd, Nat.reduceSub, Nat.reduceEqDiff, Nat.reduceLeDiff, reduceCtorEq]
      try refine And.intro (by omega) ?_
      refine (hI _ _).2 ⟨acc ++ [m.id], w + 1, ?_, ?_, ?_, ?_, ?_, ?_, ?_, ?_⟩
      · exact by rw [kidsN, hst, List.map_append, hacc]; rfl
      · exact by simp; omega
      all_goals first | with_reducible rfl | (simp -implicitDefEqProofs (disch := omega) only [h1, h5, h9, h10, h11, hh5_0, List.map_append, go_sem, ↓reduceIte, Nat.reduceAdd, Nat.reduceSub, Nat.reduceEqDiff, Nat.reduceLeDiff, reduceCtorEq]; first | done | rfl | (simp; done) | (congr 2; omega) | (congr 1; omega) | (congr 3; omega) | (simp; omega) | (congr 2; simp; omega) | (refine ⟨_, rfl, ?_⟩; first | rfl | (simp -implicitDefEqProofs (disch := omega) only [h1, h5, h9, h10, h11, hh5_0, List.map_append, go_sem, ↓reduceIte, Nat.reduceAdd, Nat.reduceSub, Nat.reduceEqDiff, Nat.reduceLeDiff, reduceCtorEq]; done))) | rfl | omega | (congr 2; omega)
    · simp only [hp, decide_false, Bool.false_eq_true, if_false] at hst
      simp -implicitDefEqProofs (disch := omega) only [h1, h5, h9, h10, h11, hh5_0, hlt, hm, hp, go_sem, ↓reduceIte, Nat.reduceAdd, Nat.reduceSub, Nat.reduceEqDiff, Nat.reduceLeDiff, reduceCtorEq]
      try refine And.intro (by omega) ?_
      refine (hI _ _).2 ⟨acc, w, ?_, ?_, ?_, ?_, ?_, ?_, ?_, ?_⟩
      · exact by rw [kidsN, hst, hacc]; rfl
      · exact by omega
      all_goals first | with_reducible rfl | (simp -implicitDefEqProofs (disch := omega) only [h1, h5, h9, h10, h11, hh5_0, List.map_append, go_sem, ↓reduceIte, Nat.reduceAdd, Nat.reduceSub, Nat.reduceEqDiff, Nat.reduceLeDiff, reduceCtorEq]; first | done | rfl | (simp; done) | (congr 2; omega) | (congr 1; omega) | (congr 3; omega) | (simp; omega) | (congr 2; simp; omega) | (refine ⟨_, rfl, ?_⟩; first | rfl | (simp -implicitDefEqProofs (disch := omega) only [h1, h5, h9, h10, h11, hh5_0, List.map_append, go_sem, ↓reduceIte, Nat.reduceAdd, Nat.reduceSub, Nat.reduceEqDiff, Nat.reduceLeDiff, reduceCtorEq]; done))) | rfl | omega | (congr 2; omega)
  · rw [List.take_of_length_le (by omega)] at hacc
    simp -implicitDefEqProofs (disch := omega) only [h1, h5, h9, h10, h11, hh5_0, hge, hacc, go_sem, ↓reduceIte, Nat.reduceAdd, Nat.reduceSub, Nat.reduceEqDiff, Nat.reduceLeDiff, reduceCtorEq]

def RemK (t : Tr) (l : List Ch) (id : Int) : List Ch × Int :=
  if checkK t l id = 0 then
    (if id = 1 then ([], 3) else if kidsN t.nodes id ≠ [] then ([], 6)
     else if ownC l id = 0 then (withC l id 0, 0)
     else (withC (withC l id 0) ((findN t.nodes id).getD zeroNd).parent (ownC l ((findN t.nodes id).getD zeroNd).parent + ownC l id), 0))
  else ([], checkK t l id)

theorem withGo_length (id v : Int) : ∀ (l : List Ch) (d : Bool), (withGo id v d l).length ≤ l.length + (if d then 0 else 1)
  | [], d => by cases d <;> simp [withGo]
  | c :: l, d => by
    have ih := withGo_length id v l
    unfold withGo
    have h1 := ih true
    have h2 := ih false
    simp only [if_true, Bool.false_eq_true, if_false] at h1 h2
    cases d <;> by_cases hg : id ≤ c.group <;> by_cases he : c.group = id <;> simp [hg, he] <;> omega
theorem withC_length (l : List Ch) (id v : Int) : (withC l id v).length ≤ l.length + 1 := by
  have := withGo_length id v l (decide (v = 0))
  unfold withC
  split at this <;> omega

theorem zero_lt_zero : ¬ ((0 : Int) < ((0 : Nat) : Int)) := by omega

set_option maxHeartbeats 1000000 in
theorem Rem_eq (t : Tr) (l : List Ch) (id : Int) (hf : t.Fits) (hn : t.nodes.length < 1000000) (hl : l.length < 900000) : V 55 [t.vv, ctrV l, .p (.int .i64 id)] [] = some (.tup [ctrF (RemK t l id).1, .p (.int .i64 (RemK t l id).2)], []) := by
  refine V_wp (vf := vf55) rfl ?_
  have hc := kcheck_eq t l id hf hn (by omega)
  unfold RemK
  by_cases h0 : checkK t l id = 0
  · obtain ⟨h1, h2, i, n, hi, rfl⟩ := checkK_zero.1 h0
    have hfi := ffind_eq t n.id hn
    have hfu := findN_unique h1.inc hi
    rw [hfu] at hfi ⊢
    simp only [Option.getD_some, Option.isSome_some] at hfi ⊢
    rw [h0] at hc
    rw [if_pos h0]
    by_cases hr : n.id = 1
    · rw [if_pos hr]
      rw [hr] at hc ⊢
      simp -implicitDefEqProofs (disch := omega) only [vf55, vb55, hc, go_sem, ↓reduceIte, Nat.reduceAdd, Nat.reduceSub, Nat.reduceEqDiff, Nat.reduceLeDiff, reduceCtorEq]
      try rfl
    · rw [if_neg hr]
      have hk := fkids_eq t n.id hn
      by_cases hz : kidsN t.nodes n.id = []
      · rw [if_neg (by simp [hz])]
        rw [hz] at hk
        have ho := own_eq l n.id (by omega)
        have o0 := ownC_nonneg h2.pos n.id
        have o1 := ownC_le h2.pos n.id
        have o2 := h2.all
        have hw0 := with_eq l n.id 0 (by omega)
        have hwl := withC_length l n.id 0
        by_cases hoz : ownC l n.id = 0
        · rw [if_pos hoz]
          rw [hoz] at ho
          simp -implicitDefEqProofs (disch := omega) only [vf55, vb55, hc, hr, hk, hfi, Nd.vv, ho, hw0, zero_lt_zero, go_sem, ↓reduceIte, Nat.reduceAdd, Nat.reduceSub, Nat.reduceEqDiff, Nat.reduceLeDiff, reduceCtorEq]
        · rw [if_neg hoz]
          have hop := own_eq l n.parent (by omega)
          have p0 := ownC_nonneg h2.pos n.parent
          have p1 := ownC_le h2.pos n.parent
          have hw1 := with_eq (withC l n.id 0) n.parent (ownC l n.parent + ownC l n.id) (by omega)
          generalize ownC l n.id = o at ho o0 o1 hoz hw1
          generalize ownC l n.parent = p at hop p0 p1 hw1
          generalize hG : withC l n.id 0 = G at hw0 hw1 hwl
          generalize withC G n.parent (p + o) = G2 at hw1
          simp -implicitDefEqProofs (disch := omega) only [vf55, vb55, hc, hr, hk, hfi, Nd.vv, ho, hoz, hop, hw0, hw1, zero_lt_zero, go_sem, ↓reduceIte, Nat.reduceAdd, Nat.reduceSub, Nat.reduceEqDiff, Nat.reduceLeDiff, reduceCtorEq]
      · rw [if_pos hz]
        have hz' : (0 : Int) < ((kidsN t.nodes n.id).length : Int) := by
          have := List.length_pos_iff.2 hz
          omega
        generalize kidsN t.nodes n.id = ks at hk hz'
        simp -implicitDefEqProofs (disch := omega) only [vf55, vb55, hc, hr, hk, hz', go_sem, ↓reduceIte, Nat.reduceAdd, Nat.reduceSub, Nat.reduceEqDiff, Nat.reduceLeDiff, reduceCtorEq]
        try rfl
  · rw [if_neg h0]
    generalize checkK t l id = e at hc h0
    simp -implicitDefEqProofs (disch := omega) only [vf55, vb55, hc, h0, go_sem, ↓reduceIte, Nat.reduceAdd, Nat.reduceSub, Nat.reduceEqDiff, Nat.reduceLeDiff, reduceCtorEq]
    try rfl

/-! ### limits -/

def knownN (ns : List Nd) (g : Int) : Bool := (findN ns g).isSome
def validLK (t : Tr) (l : List Ch) : Bool := treeOk t && ascOk (knownN t.nodes) 0 4611686018427387904 none l

set_option maxHeartbeats 1000000 in
theorem klimits_eq (t : Tr) (l : List Ch) (hf : t.Fits) (hn : t.nodes.length < 1000000) (hl : l.length < 1000000) : V 97 [t.vv, .p (chsP l)] [] = some (.p (.bool (validLK t l)), []) := by
  refine V_wp (vf := vf97) rfl ?_
  have hc := tcheck_eq t hf hn
  unfold validLK
  cases ht : treeOk t with
  | false =>
    rw [ht] at hc
    simp -implicitDefEqProofs (disch := omega) only [vf97, vb97, hc, Bool.false_and, go_sem, ↓reduceIte, Nat.reduceAdd, Nat.reduceSub, Nat.reduceEqDiff, Nat.reduceLeDiff, reduceCtorEq]
  | true =>
    rw [ht] at hc
    rw [Bool.true_and]
    simp -implicitDefEqProofs (disch := omega) only [vf97, vb97, hc, go_sem, ↓reduceIte, Nat.reduceAdd, Nat.reduceSub, Nat.reduceEqDiff, Nat.reduceLeDiff, reduceCtorEq]
    obtain ⟨I, hI⟩ : ∃ I : Nat → St → Prop, ∀ k s, I k s ↔ ascOk (knownN t.nodes) 0 4611686018427387904 none l = ascOk (knownN t.nodes) 0 4611686018427387904 (prevG l k) (l.drop k) ∧ s.pe 1 = .p (chsP l) ∧ s.pe 2 = .ptr (.slot 2 0) 0 0 ∧ s.pe 12 = .p (chsP l) ∧ s.pe 13 = .p (.int .i64 l.length) ∧ s.pe 14 = .p (.int .i64 k) ∧ s.h (.slot 2 0) = some (0, .box [.p (nodesP t.nodes), .p (.int .i64 t.next)]) := ⟨_, fun _ _ => Iff.rfl⟩
    refine wp_count (l.length) I ?_ ?_
    · refine (hI _ _).2 ⟨?_, ?_, ?_, ?_, ?_, ?_, ?_⟩
      · exact by first | rfl | omega | (simp; done) | (simp; omega)
      all_goals first | with_reducible rfl | (simp -implicitDefEqProofs (disch := omega) only [h1, h5, h9, h10, h11, hh5_0, List.map_append, go_sem, ↓reduceIte, Nat.reduceAdd, Nat.reduceSub, Nat.reduceEqDiff, Nat.reduceLeDiff, reduceCtorEq]; first | done | rfl | (simp; done) | (congr 2; omega) | (congr 1; omega) | (congr 3; omega) | (simp; omega) | (congr 2; simp; omega) | (refine ⟨_, rfl, ?_⟩; first | rfl | (simp -implicitDefEqProofs (disch := omega) only [h1, h5, h9, h10, h11, hh5_0, List.map_append, go_sem, ↓reduceIte, Nat.reduceAdd, Nat.reduceSub, Nat.reduceEqDiff, Nat.reduceLeDiff, reduceCtorEq]; done))) | rfl | omega | (congr 2; omega)
    intro k s hk hIk
    obtain ⟨hq, h1, h2, h12, h13, h14, hh2_0⟩ := (hI _ _).1 hIk
    clear hIk
    simp -implicitDefEqProofs (disch := omega) only [h1, h2, h12, h13, h14, hh2_0, go_sem, ↓reduceIte, Nat.reduceAdd, Nat.reduceSub, Nat.reduceEqDiff, Nat.reduceLeDiff, reduceCtorEq]
    refine wp_if_d (fun hlt => ?_) (fun hge => ?_)
    · have hm : l[k]? = some l[k] := List.getElem?_eq_getElem hlt
      generalize l[k] = c at hm
      have hg := asc_good hq hm
      have hb' := asc_bad hq hm
      have hfi := ffind_eq t c.group hn
      have hkn : knownN t.nodes c.group = (findN t.nodes c.group).isSome := rfl
      generalize (findN t.nodes c.group).getD zeroNd = nd at hfi
      generalize (findN t.nodes c.group).isSome = kn at hfi hkn
      by_cases hk0 : (0 : Int) < k
      · obtain ⟨e, he, he'⟩ := prev_at hm hk0
        have hk1 : (0 : Int) ≤ (k : Int) - 1 := by omega
        rw [ascAt_succ hk0 he, hkn] at hg hb'
        simp -implicitDefEqProofs (disch := omega) only [h1, h2, h12, h13, h14, hh2_0, hlt, hm, hfi, Nd.vv, hk0, hk1, he', go_sem, ↓reduceIte, Nat.reduceAdd, Nat.reduceSub, Nat.reduceEqDiff, Nat.reduceLeDiff, reduceCtorEq]
        repeat' ((first | refine wp_grn_d (fun hb => ?_) (fun hb => ?_) | refine wp_gtn_d (fun hb => ?_) (fun hb => ?_) | refine wp_gr_d (fun hb => ?_) (fun hb => ?_) | refine wp_gt_d (fun hb => ?_) (fun hb => ?_) | refine wp_gr (fun hb => ?_) (fun hb => ?_) | refine wp_gt (fun hb => ?_) (fun hb => ?_) | refine wp_nt_d (fun hb => ?_) (fun hb => ?_) | refine wp_nt (fun hb => ?_) (fun hb => ?_) | refine wp_if_d (fun hb => ?_) (fun hb => ?_) | refine wp_if (fun hb => ?_) (fun hb => ?_)) <;> simp -implicitDefEqProofs (disch := omega) only [hb, h1, h2, h12, h13, h14, hh2_0, hlt, hm, hfi, Nd.vv, hk0, hk1, he', go_sem, ↓reduceIte, Nat.reduceAdd, Nat.reduceSub, Nat.reduceEqDiff, Nat.reduceLeDiff, reduceCtorEq])
        all_goals first
          | (rw [hb' (by first | (rintro ⟨h1, h2, h3, h4⟩; omega) | simp_all)]; done)
          | skip
        try refine And.intro (by omega) ?_
        refine (hI _ _).2 ⟨?_, ?_, ?_, ?_, ?_, ?_, ?_⟩
        · exact hg ⟨by first | assumption | (cases kn <;> simp_all), by omega, by omega, by omega⟩
        all_goals first | with_reducible rfl | (simp -implicitDefEqProofs (disch := omega) only [h1, h2, h12, h13, h14, hh2_0, List.map_append, go_sem, ↓reduceIte, Nat.reduceAdd, Nat.reduceSub, Nat.reduceEqDiff, Nat.reduceLeDiff, reduceCtorEq]; first | done | rfl | (simp; done) | (congr 2; omega) | (congr 1; omega) | (congr 3; omega) | (simp; omega) | (congr 2; simp; omega) | (refine ⟨_, rfl, ?_⟩; first | rfl | (simp -implicitDefEqProofs (disch := omega) only [h1, h2, h12, h13, h14, hh2_0, List.map_append, go_sem, ↓reduceIte, Nat.reduceAdd, Nat.reduceSub, Nat.reduceEqDiff, Nat.reduceLeDiff, reduceCtorEq]; done))) | rfl | omega | (congr 2; omega)
      · rw [ascAt_zero hk0, hkn] at hg hb'
        simp -implicitDefEqProofs (disch := omega) only [h1, h2, h12, h13, h14, hh2_0, hlt, hm, hfi, Nd.vv, hk0, go_sem, ↓reduceIte, Nat.reduceAdd, Nat.reduceSub, Nat.reduceEqDiff, Nat.reduceLeDiff, reduceCtorEq]
        repeat' ((first | refine wp_grn_d (fun hb => ?_) (fun hb => ?_) | refine wp_gtn_d (fun hb => ?_) (fun hb => ?_) | refine wp_gr_d (fun hb => ?_) (fun hb => ?_) | refine wp_gt_d (fun hb => ?_) (fun hb => ?_) | refine wp_gr (fun hb => ?_) (fun hb => ?_) | refine wp_gt (fun hb => ?_) (fun hb => ?_) | refine wp_nt_d (fun hb => ?_) (fun hb => ?_) | refine wp_nt (fun hb => ?_) (fun hb => ?_) | refine wp_if_d (fun hb => ?_) (fun hb => ?_) | refine wp_if (fun hb => ?_) (fun hb => ?_)) <;> simp -implicitDefEqProofs (disch := omega) only [hb, h1, h2, h12, h13, h14, hh2_0, hlt, hm, hfi, Nd.vv, hk0, go_sem, ↓reduceIte, Nat.reduceAdd, Nat.reduceSub, Nat.reduceEqDiff, Nat.reduceLeDiff, reduceCtorEq])
        all_goals first
          | (rw [hb' (by first | (rintro ⟨h1, h2, h3⟩; omega) | simp_all)]; done)
          | skip
        try refine And.intro (by omega) ?_
        refine (hI _ _).2 ⟨?_, ?_, ?_, ?_, ?_, ?_, ?_⟩
        · exact hg ⟨by first | assumption | (cases kn <;> simp_all), by omega, by omega⟩
        all_goals first | with_reducible rfl | (simp -implicitDefEqProofs (disch := omega) only [h1, h2, h12, h13, h14, hh2_0, List.map_append, go_sem, ↓reduceIte, Nat.reduceAdd, Nat.reduceSub, Nat.reduceEqDiff, Nat.reduceLeDiff, reduceCtorEq]; first | done | rfl | (simp; done) | (congr 2; omega) | (congr 1; omega) | (congr 3; omega) | (simp; omega) | (congr 2; simp; omega) | (refine ⟨_, rfl, ?_⟩; first | rfl | (simp -implicitDefEqProofs (disch := omega) only [h1, h2, h12, h13, h14, hh2_0, List.map_append, go_sem, ↓reduceIte, Nat.reduceAdd, Nat.reduceSub, Nat.reduceEqDiff, Nat.reduceLeDiff, reduceCtorEq]; done))) | rfl | omega | (congr 2; omega)
    · have hT := asc_end hq (by omega)
      simp -implicitDefEqProofs (disch := omega) only [h1, h2, h12, h13, h14, hh2_0, hge, hT, go_sem, ↓reduceIte, Nat.reduceAdd, Nat.reduceSub, Nat.reduceEqDiff, Nat.reduceLeDiff, reduceCtorEq]
end Go.V

