/- The value machine V at work: made counters; the examples of the chapter. -/
import Derived.Test.YtcljahgcdbohaaaVK9
set_option linter.unusedSimpArgs false
set_option linter.unusedVariables false
namespace Go.V

theorem AddK_ok {t : Tr} {c : List Ch} {id n : Int} (h : (AddK t c id n).2 = 0) : ChOk t.nodes (AddK t c id n).1 := by
  unfold AddK at h ⊢
  split at h
  · rename_i h0
    rw [if_pos h0]
    obtain ⟨h1, h2, i, nd, hi, rfl⟩ := checkK_zero.1 h0
    unfold addK at h ⊢
    split at h
    · simp at h
    · rename_i ha
      split at h
      · simp at h
      · rename_i hb
        rw [if_neg ha, if_neg hb]
        have o0 := ownC_nonneg h2.pos nd.id
        obtain ⟨r, hr, hr1⟩ := root_at h1
        have hT : tot t (ownC c) 1 = sumI (c.map (·.own)) := by
          rw [← hr1]
          refine sum_own_eq h2.inc _ (subF_nodup h1 hr) fun d hd => ?_
          obtain ⟨m, hm, he⟩ := findN_some (h2.known d hd)
          obtain ⟨j, hj⟩ := List.getElem?_of_mem hm
          rw [← he]
          exact (mem_sub h1 hr _).2 ⟨j, m, hj, rfl, by rw [hr1]; exact root_anc h1 j m hj⟩
        exact h2.with (by rw [findN_unique h1.inc hi]; rfl) (by omega) (by omega)
  · rename_i h0
    exact absurd h h0
where
  root_anc {t : Tr} (h : TreeOk t) : ∀ (j : Nat) (m : Nd), t.nodes[j]? = some m → (1 : Int) ∈ ancF t.nodes t.nodes.length m.id := by
    intro j
    induction j using Nat.strongRecOn with
    | _ j ih =>
      intro m hm
      rcases h.nodeAt hm with ⟨_, h1, _⟩ | ⟨_, _, i, p, hi, hp, hpe⟩
      · rw [← h1]; exact anc_self h hm
      · exact (anc_iff h hm _).2 (Or.inr ⟨by omega, by rw [← hpe]; exact ih i hi p hp⟩)

theorem ChOk.nil (ns : List Nd) : ChOk ns [] := ⟨fun c h => by simp at h, List.Pairwise.nil, fun c h => by simp at h, by simp [sumI]⟩
theorem ChOk.length {t : Tr} {l : List Ch} (h : ChOk t.nodes l) : l.length ≤ t.nodes.length := by
  have := nodup_length_le (l.map (·.group)) (t.nodes.map (·.id)) (nodup_groups h.inc) (fun x hx => by
    obtain ⟨c, hc, rfl⟩ := List.mem_map.1 hx
    obtain ⟨n, hn, he⟩ := findN_some (h.known c hc)
    exact List.mem_map.2 ⟨n, hn, he⟩)
  simpa using this

theorem dCounter_ok (L : List Int) (t : Tr) : ∀ (ns : List Nd) (a : Nat) (c : List Ch), ChOk t.nodes c → ChOk t.nodes (dCounter L t ns a c).1
  | [], _, _, h => h
  | n :: ns, a, c, h => by
    unfold dCounter
    refine dCounter_ok L t ns _ _ ?_
    split
    · rename_i h0; exact AddK_ok h0
    · exact h

theorem addStep_ok {L : List Int} {t : Tr} {a : Nat} {n : Nd} {c : List Ch} (h : ChOk t.nodes c) : ChOk t.nodes (if (AddK t c n.id (pickV L a [0, 1, 5, 40, 100, 1000])).2 = 0 then (AddK t c n.id (pickV L a [0, 1, 5, 40, 100, 1000])).1 else c) := by
  split
  · rename_i h0; exact AddK_ok h0
  · exact h

set_option maxHeartbeats 2000000 in
theorem counter_eq (L : List Int) (a : Nat) {t : Tr} (h : TreeOk t) (hL : L.length < 4611686018427387904) : V 52 [.ptr (.arg 0 0) 0 0, t.vv] [diceB L a] = some (ctrV (dCounter L t t.nodes a []).1, [diceB L (dCounter L t t.nodes a []).2]) := by
  refine V_wp (vf := vf52) rfl ?_
  have hlen := h.len
  simp -implicitDefEqProofs (disch := omega) only [vf52, vb52, go_sem, ↓reduceIte, Nat.reduceAdd, Nat.reduceSub, Nat.reduceEqDiff, Nat.reduceLeDiff, reduceCtorEq]
  obtain ⟨I, hI⟩ : ∃ I : Nat → St → Prop, ∀ k s, I k s ↔ ∃ (b : Nat) (c : List Ch), ChOk t.nodes c ∧ dCounter L t t.nodes a [] = dCounter L t (t.nodes.drop k) b c ∧ s.pe 0 = .ptr (Id.arg 0 0) 0 0 ∧ s.pe 3 = .ptr (.slot 3 0) 0 0 ∧ s.pe 4 = .ptr (.slot 4 0) 0 0 ∧ s.pe 5 = .ptr (.slot 5 0) 0 0 ∧ s.pe 6 = .p (.int .i64 k) ∧ s.h (.arg 0 0) = some (0, diceB L b) ∧ s.h (.slot 3 0) = some (0, Ob.box [.p (nodesP t.nodes), .p (.int .i64 t.next)]) ∧ s.h (.slot 4 0) = some (0, Ob.box [.own (.slot 4 1) 0 0 0]) ∧ s.h (.slot 4 1) = some (0, Ob.arr 2 []) ∧ ∃ X, s.h (.slot 5 0) = some (0, Ob.box [X]) ∧ fz0 [5, 7, 28] s.h X = .p (chsP c) := ⟨_, fun _ _ => Iff.rfl⟩
  refine wp_count (t.nodes.length) I ?_ ?_
  · refine (hI _ _).2 ⟨a, [], ?_, ?_, ?_, ?_, ?_, ?_, ?_, ?_, ?_, ?_, ?_, ?_⟩
    · exact ChOk.nil _
    · exact rfl
    all_goals first | with_reducible rfl | (simp -implicitDefEqProofs (disch := omega) only [List.map_append, go_sem, ↓reduceIte, Nat.reduceAdd, Nat.reduceSub, Nat.reduceEqDiff, Nat.reduceLeDiff, reduceCtorEq]; done) | (simp -implicitDefEqProofs (disch := omega) only [List.map_append, go_sem, ↓reduceIte, Nat.reduceAdd, Nat.reduceSub, Nat.reduceEqDiff, Nat.reduceLeDiff, reduceCtorEq]; first | rfl | (simp; done) | (congr 2; omega) | (congr 1; omega) | (congr 3; omega) | (simp; omega) | (congr 2; simp; omega)) | rfl | omega | (congr 2; omega) | (simp -implicitDefEqProofs (disch := omega) only [List.map_append, go_sem, ↓reduceIte, Nat.reduceAdd, Nat.reduceSub, Nat.reduceEqDiff, Nat.reduceLeDiff, reduceCtorEq]; refine ⟨_, rfl, ?_⟩; first | (simp -implicitDefEqProofs (disch := omega) only [List.map_append, go_sem, ↓reduceIte, Nat.reduceAdd, Nat.reduceSub, Nat.reduceEqDiff, Nat.reduceLeDiff, reduceCtorEq]; done) | rfl) | (refine ⟨_, by simp -implicitDefEqProofs (disch := omega) only [List.map_append, go_sem, ↓reduceIte, Nat.reduceAdd, Nat.reduceSub, Nat.reduceEqDiff, Nat.reduceLeDiff, reduceCtorEq], ?_⟩; first | (simp -implicitDefEqProofs (disch := omega) only [List.map_append, go_sem, ↓reduceIte, Nat.reduceAdd, Nat.reduceSub, Nat.reduceEqDiff, Nat.reduceLeDiff, reduceCtorEq]; done) | rfl)
  intro k s hk hIk
  obtain ⟨b, c, hc, hd, h0, h3, h4, h5, h6, ha0, hh3_0, hh4_0, hh4_1, hX⟩ := (hI _ _).1 hIk
  clear hIk
  have hcl := hc.length
  obtain ⟨X, hh5, hX⟩ := hX
  simp -implicitDefEqProofs (disch := omega) only [h0, h3, h4, h5, h6, ha0, hh3_0, hh4_0, hh4_1, hX, hh5, go_sem, ↓reduceIte, Nat.reduceAdd, Nat.reduceSub, Nat.reduceEqDiff, Nat.reduceLeDiff, reduceCtorEq]
  refine wp_if_d (fun hlt => ?_) (fun hge => ?_)
  · have hm : t.nodes[k]? = some t.nodes[k] := List.getElem?_eq_getElem hlt
    have hdr : t.nodes.drop k = t.nodes[k] :: t.nodes.drop (k + 1) := List.drop_eq_getElem_cons hlt
    generalize t.nodes[k] = m at hm hdr
    rw [hdr, dCounter] at hd
    have hp := pick_eq L b [0, 1, 5, 40, 100, 1000] hL (by simp) (by simp)
    have hadd := rAdd_eq t c m.id (pickV L b [0, 1, 5, 40, 100, 1000]) (by omega) (by omega)
    have hok := AddK_ok (t := t) (c := c) (id := m.id) (n := pickV L b [0, 1, 5, 40, 100, 1000])
    simp only [intsP, List.length_cons, List.length_nil, Nat.reduceAdd, List.map_cons, List.map_nil] at hp
    generalize pickV L b [0, 1, 5, 40, 100, 1000] = pv at hp hadd hok hd
    have hnA : nextA L b ((6 : Nat) : Int) = nextA L b 6 := rfl
    rw [hnA] at hp
    generalize nextA L b 6 = b' at hp hd
    generalize AddK t c m.id pv = r at hadd hok hd
    obtain ⟨rl, re⟩ := r
    simp only at hadd hok hd
    by_cases he : re = 0
    · subst he
      rw [if_pos rfl] at hd
      simp -implicitDefEqProofs (disch := omega) only [h0, h3, h4, h5, h6, ha0, hh3_0, hh4_0, hh4_1, hX, hh5, hlt, hm, hp, hadd, go_sem, ↓reduceIte, Nat.reduceAdd, Nat.reduceSub, Nat.reduceEqDiff, Nat.reduceLeDiff, reduceCtorEq]
      try refine And.intro (by omega) ?_
      refine (hI _ _).2 ⟨b', rl, ?_, ?_, ?_, ?_, ?_, ?_, ?_, ?_, ?_, ?_, ?_, ?_⟩
      · exact hok rfl
      · exact hd
      all_goals first | with_reducible rfl | (simp -implicitDefEqProofs (disch := omega) only [h0, h3, h4, h5, h6, ha0, hh3_0, hh4_0, hh4_1, hX, hh5, List.map_append, go_sem, ↓reduceIte, Nat.reduceAdd, Nat.reduceSub, Nat.reduceEqDiff, Nat.reduceLeDiff, reduceCtorEq]; done) | (simp -implicitDefEqProofs (disch := omega) only [h0, h3, h4, h5, h6, ha0, hh3_0, hh4_0, hh4_1, hX, hh5, List.map_append, go_sem, ↓reduceIte, Nat.reduceAdd, Nat.reduceSub, Nat.reduceEqDiff, Nat.reduceLeDiff, reduceCtorEq]; first | rfl | (simp; done) | (congr 2; omega) | (congr 1; omega) | (congr 3; omega) | (simp; omega) | (congr 2; simp; omega)) | rfl | omega | (congr 2; omega) | (simp -implicitDefEqProofs (disch := omega) only [h0, h3, h4, h5, h6, ha0, hh3_0, hh4_0, hh4_1, hX, hh5, List.map_append, go_sem, ↓reduceIte, Nat.reduceAdd, Nat.reduceSub, Nat.reduceEqDiff, Nat.reduceLeDiff, reduceCtorEq]; refine ⟨_, rfl, ?_⟩; first | (simp -implicitDefEqProofs (disch := omega) only [h0, h3, h4, h5, h6, ha0, hh3_0, hh4_0, hh4_1, hX, hh5, List.map_append, go_sem, ↓reduceIte, Nat.reduceAdd, Nat.reduceSub, Nat.reduceEqDiff, Nat.reduceLeDiff, reduceCtorEq]; done) | rfl) | (refine ⟨_, by simp -implicitDefEqProofs (disch := omega) only [h0, h3, h4, h5, h6, ha0, hh3_0, hh4_0, hh4_1, hX, hh5, List.map_append, go_sem, ↓reduceIte, Nat.reduceAdd, Nat.reduceSub, Nat.reduceEqDiff, Nat.reduceLeDiff, reduceCtorEq], ?_⟩; first | (simp -implicitDefEqProofs (disch := omega) only [h0, h3, h4, h5, h6, ha0, hh3_0, hh4_0, hh4_1, hX, hh5, List.map_append, go_sem, ↓reduceIte, Nat.reduceAdd, Nat.reduceSub, Nat.reduceEqDiff, Nat.reduceLeDiff, reduceCtorEq]; done) | rfl)
    · rw [if_neg he] at hd
      simp -implicitDefEqProofs (disch := omega) only [h0, h3, h4, h5, h6, ha0, hh3_0, hh4_0, hh4_1, hX, hh5, hlt, hm, hp, hadd, he, go_sem, ↓reduceIte, Nat.reduceAdd, Nat.reduceSub, Nat.reduceEqDiff, Nat.reduceLeDiff, reduceCtorEq]
      try refine And.intro (by omega) ?_
      refine (hI _ _).2 ⟨b', c, ?_, ?_, ?_, ?_, ?_, ?_, ?_, ?_, ?_, ?_, ?_, ?_⟩
      · exact hc
      · exact hd
      all_goals first | with_reducible rfl | (simp -implicitDefEqProofs (disch := omega) only [h0, h3, h4, h5, h6, ha0, hh3_0, hh4_0, hh4_1, hX, hh5, List.map_append, go_sem, ↓reduceIte, Nat.reduceAdd, Nat.reduceSub, Nat.reduceEqDiff, Nat.reduceLeDiff, reduceCtorEq]; done) | (simp -implicitDefEqProofs (disch := omega) only [h0, h3, h4, h5, h6, ha0, hh3_0, hh4_0, hh4_1, hX, hh5, List.map_append, go_sem, ↓reduceIte, Nat.reduceAdd, Nat.reduceSub, Nat.reduceEqDiff, Nat.reduceLeDiff, reduceCtorEq]; first | rfl | (simp; done) | (congr 2; omega) | (congr 1; omega) | (congr 3; omega) | (simp; omega) | (congr 2; simp; omega)) | rfl | omega | (congr 2; omega) | (simp -implicitDefEqProofs (disch := omega) only [h0, h3, h4, h5, h6, ha0, hh3_0, hh4_0, hh4_1, hX, hh5, List.map_append, go_sem, ↓reduceIte, Nat.reduceAdd, Nat.reduceSub, Nat.reduceEqDiff, Nat.reduceLeDiff, reduceCtorEq]; refine ⟨_, rfl, ?_⟩; first | (simp -implicitDefEqProofs (disch := omega) only [h0, h3, h4, h5, h6, ha0, hh3_0, hh4_0, hh4_1, hX, hh5, List.map_append, go_sem, ↓reduceIte, Nat.reduceAdd, Nat.reduceSub, Nat.reduceEqDiff, Nat.reduceLeDiff, reduceCtorEq]; done) | rfl) | (refine ⟨_, by simp -implicitDefEqProofs (disch := omega) only [h0, h3, h4, h5, h6, ha0, hh3_0, hh4_0, hh4_1, hX, hh5, List.map_append, go_sem, ↓reduceIte, Nat.reduceAdd, Nat.reduceSub, Nat.reduceEqDiff, Nat.reduceLeDiff, reduceCtorEq], ?_⟩; first | (simp -implicitDefEqProofs (disch := omega) only [h0, h3, h4, h5, h6, ha0, hh3_0, hh4_0, hh4_1, hX, hh5, List.map_append, go_sem, ↓reduceIte, Nat.reduceAdd, Nat.reduceSub, Nat.reduceEqDiff, Nat.reduceLeDiff, reduceCtorEq]; done) | rfl)
  · rw [List.drop_of_length_le (by omega), dCounter] at hd
    rw [hd]
    simp -implicitDefEqProofs (disch := omega) only [h0, h3, h4, h5, h6, ha0, hh3_0, hh4_0, hh4_1, hX, hh5, hge, go_sem, ↓reduceIte, Nat.reduceAdd, Nat.reduceSub, Nat.reduceEqDiff, Nat.reduceLeDiff, reduceCtorEq]
end Go.V

