/- The law CounterRemoves in the value machine. -/
import Derived.Test.YtcljahgcdbohaaaVM1
import Derived.Test.YtcljahgcdbohaaaVK7
set_option linter.unusedSimpArgs false
set_option linter.unusedVariables false
namespace Go.V

theorem own_at {l : List Ch} (h : l.Pairwise fun a b => a.group < b.group) {d : Ch} (hd : d ∈ l) : ownC l d.group = d.own := by
  induction l with
  | nil => cases hd
  | cons c l ih =>
    rw [List.pairwise_cons] at h
    unfold ownC
    rcases List.mem_cons.1 hd with rfl | hd
    · simp
    · have := h.1 d hd
      rw [if_neg (by omega)]
      exact ih h.2 hd

theorem mem_find {ns : List Nd} {n : Nd} (h : n ∈ ns) : (findN ns n.id).isSome = true := by
  rw [findN, List.find?_isSome]
  exact ⟨n, h, by simp⟩

theorem rem_facts {t : Tr} (h : TreeOk t) {c : List Ch} (hc : ChOk t.nodes c) {k : Nat} {m : Nd} (hm : t.nodes[k]? = some m) :
    ((RemK t c m.id).2 ≠ 0 ∧ (removeT t m.id).2 ≠ 0) ∨ ((RemK t c m.id).2 = 0 ∧ (removeT t m.id).2 = 0 ∧ TreeOk (removeT t m.id).1 ∧ ChOk (removeT t m.id).1.nodes (RemK t c m.id).1 ∧
      ∀ n ∈ (removeT t m.id).1.nodes, ∃ j : Nat, t.nodes[j]? = some n ∧ tot (removeT t m.id).1 (ownC (RemK t c m.id).1) n.id = tot t (ownC c) n.id) := by
  have h0 : checkK t c m.id = 0 := checkK_zero.2 ⟨h, hc, k, m, hm, rfl⟩
  have hf : findT t m.id = some m := by rw [findT_ok ((treeOk_iff t).2 h), findN_unique h.inc hm]
  have hkk : kids t m.id = kidsN t.nodes m.id := kids_kidsN (by rw [hf]; rfl)
  by_cases h1 : m.id = 1
  · left
    refine ⟨?_, ?_⟩
    · rw [h1] at h0 ⊢
      simp [RemK, h0]
    · rw [h1] at hf ⊢
      simp [removeT, (treeOk_iff t).2 h, hf]
  · by_cases hz : kidsN t.nodes m.id = []
    · right
      have hr2 : (removeT t m.id).2 = 0 := by simp [removeT, (treeOk_iff t).2 h, hf, h1, hkk, hz]
      obtain ⟨_, hu, hue⟩ := removeT_ok hr2
      have hk0 : k ≠ 0 := by
        rintro rfl
        rcases h.nodeAt hm with ⟨_, h2, _⟩ | ⟨h2, _⟩
        · exact h1 h2
        · omega
      obtain ⟨j0, p, hj0, hp, hpe⟩ : ∃ j p, j < k ∧ t.nodes[j]? = some p ∧ p.id = m.parent := by
        rcases h.nodeAt hm with ⟨h2, _⟩ | ⟨_, _, j, p, a, b, c⟩
        · exact absurd h2 hk0
        · exact ⟨j, p, a, b, c⟩
      have hpn : ¬ m.parent = m.id := fun he => by
        have := (h.idx hp hm (by rw [hpe, he])).1
        omega
      have o0 := ownC_nonneg hc.pos m.id
      have o1 := ownC_nonneg hc.pos m.parent
      have hrem : (RemK t c m.id).2 = 0 ∧ ownC (RemK t c m.id).1 = leftTo (ownC c) m.id m.parent ∧ ChOk t.nodes (RemK t c m.id).1 := by
        have w1 : ChOk t.nodes (withC c m.id 0) := hc.with (by rw [findN_unique h.inc hm]; rfl) (by omega) (by have := hc.all; omega)
        unfold RemK
        rw [if_pos h0, if_neg h1, if_neg (by simp [hz]), findN_unique h.inc hm]
        by_cases ho : ownC c m.id = 0
        · rw [if_pos ho]
          refine ⟨rfl, ?_, w1⟩
          funext x
          simp only [withC_own, leftTo, ho, Int.add_zero]
          by_cases hx : x = m.parent
          · subst hx; simp [hpn]
          · simp [hx]
        · rw [if_neg ho]
          refine ⟨rfl, ?_, ?_⟩
          · funext x
            simp only [withC_own, leftTo, Option.getD_some]
          · refine w1.with (by rw [Option.getD_some, ← hpe, findN_unique h.inc hp]; rfl) (by simp only [Option.getD_some]; omega) ?_
            simp only [Option.getD_some, withC_own, if_neg hpn, withC_sum hc.inc]
            have := hc.all
            omega
      obtain ⟨e1, e2, e3⟩ := hrem
      refine ⟨e1, hr2, hu, ?_, ?_⟩
      · rw [hue]
        refine ⟨fun d hd => ?_, e3.inc, e3.pos, e3.all⟩
        have hne : d.group ≠ m.id := by
          intro he
          have a1 := own_at e3.inc hd
          rw [e2, he] at a1
          have a2 := e3.pos d hd
          simp only [leftTo, fun he : m.id = m.parent => hpn he.symm, if_true] at a1
          rw [if_neg (fun he => hpn he.symm)] at a1
          omega
        obtain ⟨n, hn, he⟩ := findN_some (e3.known d hd)
        rw [← he]
        exact mem_find (List.mem_filter.2 ⟨hn, by rw [he]; simp [hne]⟩)
      · rw [hue, e2]
        intro n hn
        obtain ⟨hn1, hn2⟩ := List.mem_filter.1 hn
        obtain ⟨j, hj⟩ := List.getElem?_of_mem hn1
        have hne : n.id ≠ m.id := by simpa using hn2
        rw [hue] at hu
        exact ⟨j, hj, tot_remove h hm hk0 hz hu (ownC c) hj hne⟩
    · left
      exact ⟨by simp [RemK, h0, h1, hz], by simp [removeT, (treeOk_iff t).2 h, hf, h1, hkk, hz]⟩

set_option maxHeartbeats 4000000 in
theorem counterRemoves_eq (L : List Int) : V 13 [.p (intsP L)] [] = some (.p (.bool true), []) := by
  refine V_wp (vf := vf13) rfl ?_
  have hli := light_eq (L.map (PV.int .i64))
  rw [List.length_map] at hli
  by_cases hL : L.length ≤ 600
  · rw [decide_eq_true hL] at hli
    have hro := roll_eq L
    have htr : V 23 [.ptr (.arg 0 0) 0 0, .p (.int .i64 6)] [.box [.p (intsP L), .p (.int .i64 0)]] = some ((dTree L 0 6).1.vv, [diceB L (dTree L 0 6).2]) := tree_eq L 0 6 (by omega) (by omega)
    have hok := dTree_ok L 0 6
    generalize dTree L 0 6 = ta at htr hok
    obtain ⟨t, a0⟩ := ta
    simp only at htr hok
    have hlen := hok.len
    have hco := counter_eq L a0 hok (by omega)
    have hcok := dCounter_ok L t t.nodes a0 [] (ChOk.nil _)
    generalize dCounter L t t.nodes a0 [] = ca at hco hcok
    obtain ⟨c, a1⟩ := ca
    simp only at hco hcok
    have hcl := hcok.length
    simp -implicitDefEqProofs (disch := omega) only [vf13, vb13, hli, hro, htr, hco, go_sem, ↓reduceIte, Nat.reduceAdd, Nat.reduceSub, Nat.reduceEqDiff, Nat.reduceLeDiff, reduceCtorEq]
    obtain ⟨I, hI⟩ : ∃ I : Nat → St → Prop, ∀ k s, I k s ↔ s.pe 4 = .ptr (.slot 4 0) 0 0 ∧ s.pe 5 = .ptr (.slot 5 0) 0 0 ∧ s.pe 6 = .p (.int .i64 k) ∧ s.h (.slot 4 0) = some (0, Ob.box [.p (nodesP t.nodes), .p (.int .i64 t.next)]) ∧ s.h (.slot 5 0) = some (0, Ob.box [.p (chsP c)]) := ⟨_, fun _ _ => Iff.rfl⟩
    refine wp_count (t.nodes.length) I ?_ ?_
    · refine (hI _ _).2 ⟨?_, ?_, ?_, ?_, ?_⟩
      all_goals first | with_reducible rfl | (simp -implicitDefEqProofs (disch := omega) only [List.map_append, go_sem, ↓reduceIte, Nat.reduceAdd, Nat.reduceSub, Nat.reduceEqDiff, Nat.reduceLeDiff, reduceCtorEq]; done) | (simp -implicitDefEqProofs (disch := omega) only [List.map_append, go_sem, ↓reduceIte, Nat.reduceAdd, Nat.reduceSub, Nat.reduceEqDiff, Nat.reduceLeDiff, reduceCtorEq]; first | rfl | (simp; done) | (congr 2; omega) | (congr 1; omega) | (congr 3; omega) | (simp; omega) | (congr 2; simp; omega)) | rfl | omega | (congr 2; omega) | (simp -implicitDefEqProofs (disch := omega) only [List.map_append, go_sem, ↓reduceIte, Nat.reduceAdd, Nat.reduceSub, Nat.reduceEqDiff, Nat.reduceLeDiff, reduceCtorEq]; refine ⟨_, rfl, ?_⟩; first | (simp -implicitDefEqProofs (disch := omega) only [List.map_append, go_sem, ↓reduceIte, Nat.reduceAdd, Nat.reduceSub, Nat.reduceEqDiff, Nat.reduceLeDiff, reduceCtorEq]; done) | rfl) | (refine ⟨_, by simp -implicitDefEqProofs (disch := omega) only [List.map_append, go_sem, ↓reduceIte, Nat.reduceAdd, Nat.reduceSub, Nat.reduceEqDiff, Nat.reduceLeDiff, reduceCtorEq], ?_⟩; first | (simp -implicitDefEqProofs (disch := omega) only [List.map_append, go_sem, ↓reduceIte, Nat.reduceAdd, Nat.reduceSub, Nat.reduceEqDiff, Nat.reduceLeDiff, reduceCtorEq]; done) | rfl)
    intro k s hk hIk
    obtain ⟨h4, h5, h6, hh4_0, hh5_0⟩ := (hI _ _).1 hIk
    clear hIk
    simp -implicitDefEqProofs (disch := omega) only [h4, h5, h6, hh4_0, hh5_0, go_sem, ↓reduceIte, Nat.reduceAdd, Nat.reduceSub, Nat.reduceEqDiff, Nat.reduceLeDiff, reduceCtorEq]
    refine wp_if_d (fun hlt => ?_) (fun hge => ?_)
    · have hm : t.nodes[k]? = some t.nodes[k] := List.getElem?_eq_getElem hlt
      generalize t.nodes[k] = m at hm
      have c1 := Rem_eq t c m.id hok.fits (by omega) (by omega)
      have c2 := rremove_eq t m.id (by omega)
      have hrf := rem_facts hok hcok hm
      generalize RemK t c m.id = X at c1 hrf
      generalize removeT t m.id = U at c2 hrf
      obtain ⟨x, e⟩ := X
      obtain ⟨u, f⟩ := U
      simp only at c1 c2 hrf
      rcases hrf with ⟨he, hf⟩ | ⟨he, hf, huok, hxok, hall⟩
      · simp -implicitDefEqProofs (disch := omega) only [h4, h5, h6, hh4_0, hh5_0, hlt, hm, c1, c2, he, hf, go_sem, ↓reduceIte, Nat.reduceAdd, Nat.reduceSub, Nat.reduceEqDiff, Nat.reduceLeDiff, reduceCtorEq]
        try refine And.intro (by omega) ?_
        refine (hI _ _).2 ⟨?_, ?_, ?_, ?_, ?_⟩
        all_goals first | with_reducible rfl | (simp -implicitDefEqProofs (disch := omega) only [h4, h5, h6, hh4_0, hh5_0, List.map_append, go_sem, ↓reduceIte, Nat.reduceAdd, Nat.reduceSub, Nat.reduceEqDiff, Nat.reduceLeDiff, reduceCtorEq]; done) | (simp -implicitDefEqProofs (disch := omega) only [h4, h5, h6, hh4_0, hh5_0, List.map_append, go_sem, ↓reduceIte, Nat.reduceAdd, Nat.reduceSub, Nat.reduceEqDiff, Nat.reduceLeDiff, reduceCtorEq]; first | rfl | (simp; done) | (congr 2; omega) | (congr 1; omega) | (congr 3; omega) | (simp; omega) | (congr 2; simp; omega)) | rfl | omega | (congr 2; omega) | (simp -implicitDefEqProofs (disch := omega) only [h4, h5, h6, hh4_0, hh5_0, List.map_append, go_sem, ↓reduceIte, Nat.reduceAdd, Nat.reduceSub, Nat.reduceEqDiff, Nat.reduceLeDiff, reduceCtorEq]; refine ⟨_, rfl, ?_⟩; first | (simp -implicitDefEqProofs (disch := omega) only [h4, h5, h6, hh4_0, hh5_0, List.map_append, go_sem, ↓reduceIte, Nat.reduceAdd, Nat.reduceSub, Nat.reduceEqDiff, Nat.reduceLeDiff, reduceCtorEq]; done) | rfl) | (refine ⟨_, by simp -implicitDefEqProofs (disch := omega) only [h4, h5, h6, hh4_0, hh5_0, List.map_append, go_sem, ↓reduceIte, Nat.reduceAdd, Nat.reduceSub, Nat.reduceEqDiff, Nat.reduceLeDiff, reduceCtorEq], ?_⟩; first | (simp -implicitDefEqProofs (disch := omega) only [h4, h5, h6, hh4_0, hh5_0, List.map_append, go_sem, ↓reduceIte, Nat.reduceAdd, Nat.reduceSub, Nat.reduceEqDiff, Nat.reduceLeDiff, reduceCtorEq]; done) | rfl)
      · subst he
        subst hf
        have hul := huok.len
        simp -implicitDefEqProofs (disch := omega) only [h4, h5, h6, hh4_0, hh5_0, hlt, hm, c1, c2, go_sem, ↓reduceIte, Nat.reduceAdd, Nat.reduceSub, Nat.reduceEqDiff, Nat.reduceLeDiff, reduceCtorEq]
        obtain ⟨J, hJ⟩ : ∃ I : Nat → St → Prop, ∀ j s, I j s ↔ ∃ (v10_0 : Nat) (v45_1 : Nat) (v51_1 : Nat) (v8_0 : Nat), s.pe 4 = .ptr (.slot 4 0) 0 0 ∧ s.pe 5 = .ptr (.slot 5 0) 0 0 ∧ s.pe 6 = .p (.int .i64 ↑k) ∧ s.pe 8 = .ptr (.slot 8 0) v8_0 0 ∧ s.pe 10 = .ptr (.slot 10 0) v10_0 0 ∧ s.pe 12 = .p (.int .i64 j) ∧ s.h (.slot 4 0) = some (0, Ob.box [.p (nodesP t.nodes), .p (.int .i64 t.next)]) ∧ s.h (.slot 5 0) = some (0, Ob.box [.p (chsP c)]) ∧ s.h (.slot 8 0) = some (v8_0, Ob.box [.own (.slot 45 1) v45_1 0 x.length]) ∧ s.h (.slot 10 0) = some (v10_0, Ob.box [.own (.slot 51 1) v51_1 0 u.nodes.length, .p (.int .i64 u.next)]) ∧ s.h (.slot 45 1) = some (v45_1, Ob.arr 2 (List.map Ch.pv x)) ∧ s.h (.slot 51 1) = some (v51_1, Ob.arr 6 (List.map Nd.pv u.nodes)) := ⟨_, fun _ _ => Iff.rfl⟩
        refine wp_count (u.nodes.length) J ?_ ?_
        · refine (hJ _ _).2 ⟨nv (fzOb [8, 10, 45, 51] s.h (.slot 10 0)), nv (fzOb [8, 10, 45, 51] s.h (.slot 45 1)), nv (fzOb [8, 10, 45, 51] s.h (.slot 51 1)), nv (fzOb [8, 10, 45, 51] s.h (.slot 8 0)), ?_, ?_, ?_, ?_, ?_, ?_, ?_, ?_, ?_, ?_, ?_, ?_⟩
          all_goals first | with_reducible rfl | (simp -implicitDefEqProofs (disch := omega) only [h4, h5, h6, hh4_0, hh5_0, List.map_append, go_sem, ↓reduceIte, Nat.reduceAdd, Nat.reduceSub, Nat.reduceEqDiff, Nat.reduceLeDiff, reduceCtorEq]; done) | (simp -implicitDefEqProofs (disch := omega) only [h4, h5, h6, hh4_0, hh5_0, List.map_append, go_sem, ↓reduceIte, Nat.reduceAdd, Nat.reduceSub, Nat.reduceEqDiff, Nat.reduceLeDiff, reduceCtorEq]; first | rfl | (simp; done) | (congr 2; omega) | (congr 1; omega) | (congr 3; omega) | (simp; omega) | (congr 2; simp; omega)) | rfl | omega | (congr 2; omega) | (simp -implicitDefEqProofs (disch := omega) only [h4, h5, h6, hh4_0, hh5_0, List.map_append, go_sem, ↓reduceIte, Nat.reduceAdd, Nat.reduceSub, Nat.reduceEqDiff, Nat.reduceLeDiff, reduceCtorEq]; refine ⟨_, rfl, ?_⟩; first | (simp -implicitDefEqProofs (disch := omega) only [h4, h5, h6, hh4_0, hh5_0, List.map_append, go_sem, ↓reduceIte, Nat.reduceAdd, Nat.reduceSub, Nat.reduceEqDiff, Nat.reduceLeDiff, reduceCtorEq]; done) | rfl) | (refine ⟨_, by simp -implicitDefEqProofs (disch := omega) only [h4, h5, h6, hh4_0, hh5_0, List.map_append, go_sem, ↓reduceIte, Nat.reduceAdd, Nat.reduceSub, Nat.reduceEqDiff, Nat.reduceLeDiff, reduceCtorEq], ?_⟩; first | (simp -implicitDefEqProofs (disch := omega) only [h4, h5, h6, hh4_0, hh5_0, List.map_append, go_sem, ↓reduceIte, Nat.reduceAdd, Nat.reduceSub, Nat.reduceEqDiff, Nat.reduceLeDiff, reduceCtorEq]; done) | rfl)
        intro j s hj hJk
        obtain ⟨v10_0, v45_1, v51_1, v8_0, h4, h5, h6, h8, h10, h12, hh4_0, hh5_0, hh8_0, hh10_0, hh45_1, hh51_1⟩ := (hJ _ _).1 hJk
        clear hJk
        simp -implicitDefEqProofs (disch := omega) only [h4, h5, h6, h8, h10, h12, hh4_0, hh5_0, hh8_0, hh10_0, hh45_1, hh51_1, go_sem, ↓reduceIte, Nat.reduceAdd, Nat.reduceSub, Nat.reduceEqDiff, Nat.reduceLeDiff, reduceCtorEq]
        refine wp_if_d (fun hjl => ?_) (fun hjg => ?_)
        · have hx : u.nodes[j]? = some u.nodes[j] := List.getElem?_eq_getElem hjl
          generalize u.nodes[j] = n at hx
          obtain ⟨q, hq, htt⟩ := hall n (List.mem_of_getElem? hx)
          have d1 := total_at hok hcok hq
          have d2 := total_at huok hxok hx
          rw [htt] at d2
          simp -implicitDefEqProofs (disch := omega) only [h4, h5, h6, h8, h10, h12, hh4_0, hh5_0, hh8_0, hh10_0, hh45_1, hh51_1, hjl, hx, d1, d2, go_sem, ↓reduceIte, Nat.reduceAdd, Nat.reduceSub, Nat.reduceEqDiff, Nat.reduceLeDiff, reduceCtorEq]
          try refine And.intro (by omega) ?_
          refine (hJ _ _).2 ⟨v10_0, v45_1, v51_1, v8_0, ?_, ?_, ?_, ?_, ?_, ?_, ?_, ?_, ?_, ?_, ?_, ?_⟩
          all_goals first | with_reducible rfl | (simp -implicitDefEqProofs (disch := omega) only [h4, h5, h6, h8, h10, h12, hh4_0, hh5_0, hh8_0, hh10_0, hh45_1, hh51_1, List.map_append, go_sem, ↓reduceIte, Nat.reduceAdd, Nat.reduceSub, Nat.reduceEqDiff, Nat.reduceLeDiff, reduceCtorEq]; done) | (simp -implicitDefEqProofs (disch := omega) only [h4, h5, h6, h8, h10, h12, hh4_0, hh5_0, hh8_0, hh10_0, hh45_1, hh51_1, List.map_append, go_sem, ↓reduceIte, Nat.reduceAdd, Nat.reduceSub, Nat.reduceEqDiff, Nat.reduceLeDiff, reduceCtorEq]; first | rfl | (simp; done) | (congr 2; omega) | (congr 1; omega) | (congr 3; omega) | (simp; omega) | (congr 2; simp; omega)) | rfl | omega | (congr 2; omega) | (simp -implicitDefEqProofs (disch := omega) only [h4, h5, h6, h8, h10, h12, hh4_0, hh5_0, hh8_0, hh10_0, hh45_1, hh51_1, List.map_append, go_sem, ↓reduceIte, Nat.reduceAdd, Nat.reduceSub, Nat.reduceEqDiff, Nat.reduceLeDiff, reduceCtorEq]; refine ⟨_, rfl, ?_⟩; first | (simp -implicitDefEqProofs (disch := omega) only [h4, h5, h6, h8, h10, h12, hh4_0, hh5_0, hh8_0, hh10_0, hh45_1, hh51_1, List.map_append, go_sem, ↓reduceIte, Nat.reduceAdd, Nat.reduceSub, Nat.reduceEqDiff, Nat.reduceLeDiff, reduceCtorEq]; done) | rfl) | (refine ⟨_, by simp -implicitDefEqProofs (disch := omega) only [h4, h5, h6, h8, h10, h12, hh4_0, hh5_0, hh8_0, hh10_0, hh45_1, hh51_1, List.map_append, go_sem, ↓reduceIte, Nat.reduceAdd, Nat.reduceSub, Nat.reduceEqDiff, Nat.reduceLeDiff, reduceCtorEq], ?_⟩; first | (simp -implicitDefEqProofs (disch := omega) only [h4, h5, h6, h8, h10, h12, hh4_0, hh5_0, hh8_0, hh10_0, hh45_1, hh51_1, List.map_append, go_sem, ↓reduceIte, Nat.reduceAdd, Nat.reduceSub, Nat.reduceEqDiff, Nat.reduceLeDiff, reduceCtorEq]; done) | rfl)
        · simp -implicitDefEqProofs (disch := omega) only [h4, h5, h6, h8, h10, h12, hh4_0, hh5_0, hh8_0, hh10_0, hh45_1, hh51_1, hjg, go_sem, ↓reduceIte, Nat.reduceAdd, Nat.reduceSub, Nat.reduceEqDiff, Nat.reduceLeDiff, reduceCtorEq]
          try refine And.intro (by omega) ?_
          refine (hI _ _).2 ⟨?_, ?_, ?_, ?_, ?_⟩
          all_goals first | with_reducible rfl | (simp -implicitDefEqProofs (disch := omega) only [h4, h5, h6, hh4_0, hh5_0, List.map_append, go_sem, ↓reduceIte, Nat.reduceAdd, Nat.reduceSub, Nat.reduceEqDiff, Nat.reduceLeDiff, reduceCtorEq]; done) | (simp -implicitDefEqProofs (disch := omega) only [h4, h5, h6, hh4_0, hh5_0, List.map_append, go_sem, ↓reduceIte, Nat.reduceAdd, Nat.reduceSub, Nat.reduceEqDiff, Nat.reduceLeDiff, reduceCtorEq]; first | rfl | (simp; done) | (congr 2; omega) | (congr 1; omega) | (congr 3; omega) | (simp; omega) | (congr 2; simp; omega)) | rfl | omega | (congr 2; omega) | (simp -implicitDefEqProofs (disch := omega) only [h4, h5, h6, hh4_0, hh5_0, List.map_append, go_sem, ↓reduceIte, Nat.reduceAdd, Nat.reduceSub, Nat.reduceEqDiff, Nat.reduceLeDiff, reduceCtorEq]; refine ⟨_, rfl, ?_⟩; first | (simp -implicitDefEqProofs (disch := omega) only [h4, h5, h6, hh4_0, hh5_0, List.map_append, go_sem, ↓reduceIte, Nat.reduceAdd, Nat.reduceSub, Nat.reduceEqDiff, Nat.reduceLeDiff, reduceCtorEq]; done) | rfl) | (refine ⟨_, by simp -implicitDefEqProofs (disch := omega) only [h4, h5, h6, hh4_0, hh5_0, List.map_append, go_sem, ↓reduceIte, Nat.reduceAdd, Nat.reduceSub, Nat.reduceEqDiff, Nat.reduceLeDiff, reduceCtorEq], ?_⟩; first | (simp -implicitDefEqProofs (disch := omega) only [h4, h5, h6, hh4_0, hh5_0, List.map_append, go_sem, ↓reduceIte, Nat.reduceAdd, Nat.reduceSub, Nat.reduceEqDiff, Nat.reduceLeDiff, reduceCtorEq]; done) | rfl)
    · simp -implicitDefEqProofs (disch := omega) only [h4, h5, h6, hh4_0, hh5_0, hge, sane22_eq, go_sem, ↓reduceIte, Nat.reduceAdd, Nat.reduceSub, Nat.reduceEqDiff, Nat.reduceLeDiff, reduceCtorEq]
  · rw [decide_eq_false hL] at hli
    simp -implicitDefEqProofs (disch := omega) only [vf13, vb13, hli, sane22_eq, go_sem, ↓reduceIte, Nat.reduceAdd, Nat.reduceSub, Nat.reduceEqDiff, Nat.reduceLeDiff, reduceCtorEq]
end Go.V

