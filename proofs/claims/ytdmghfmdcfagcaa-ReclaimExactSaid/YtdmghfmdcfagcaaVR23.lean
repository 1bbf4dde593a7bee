/- The law ReclaimShares in the value machine. -/
import Derived.Test.YtdmghfmdcfagcaaVR22
set_option linter.unusedSimpArgs false
set_option linter.unusedVariables false
namespace Go.V

theorem sumI_le_len {B : Int} : ∀ (l : List Int), (∀ x ∈ l, x ≤ B) → sumI l ≤ B * l.length
  | [], _ => by simp [sumI]
  | x :: l, h => by
    have h1 := sumI_le_len l (fun y hy => h y (by simp [hy]))
    have h2 := h x (by simp)
    rw [sumI, List.length_cons, Int.natCast_add, Int.mul_add]
    omega
theorem mul_bound {a b A B : Int} (h0 : 0 ≤ a) (h1 : a ≤ A) (h2 : 0 ≤ b) (h3 : b ≤ B) : 0 ≤ a * b ∧ a * b ≤ A * B :=
  ⟨Int.mul_nonneg h0 h2, Int.le_trans (Int.mul_le_mul_of_nonneg_right h1 h2) (Int.mul_le_mul_of_nonneg_left h3 (by omega))⟩

set_option maxHeartbeats 4000000 in
theorem shares24_eq (L : List Int) (n : Int) : V 6 [.p (intsP L), .p (.int .i64 n)] [] = some (.p (.bool true), []) := by
  refine V_wp (vf := vf6) rfl ?_
  have hli := light_eq (L.map (PV.int .i64))
  rw [List.length_map] at hli
  have hsane := sane_eq
  by_cases hL : L.length ≤ 600
  · rw [decide_eq_true hL] at hli
    have hro := roll_eq L
    have htr : V 11 [.ptr (.arg 0 0) 0 0, .p (.int .i64 8)] [.box [.p (intsP L), .p (.int .i64 0)]] = some ((dTree L 0 8).1.vv, [diceB L (dTree L 0 8).2]) := tree_eq L 0 8 (by omega) (by omega)
    have hok := dTree_ok L 0 8
    generalize dTree L 0 8 = ta at htr hok
    obtain ⟨t, a0⟩ := ta
    simp only at htr hok
    have hlen := hok.len
    have hin : InN t.nodes 1 := by
      obtain ⟨r, ns, he, h1, _⟩ := hok.root
      exact ⟨0, r, by rw [he]; rfl, h1⟩
    have hpa := parts_eq L a0 1 hok (by omega)
    have hval := dParts_valid L a0 hok hin
    generalize dParts L (sortU (subT t 1)) a0 = pa at hpa hval
    obtain ⟨p, a2⟩ := pa
    simp only at hpa hval
    have hpl := hval.length
    have hr2 := roll_eq [n]
    have hn2 : V 14 [.ptr (.arg 0 0) 0 0, .p (.int .i64 800)] [.box [.p (intsP [n]), .p (.int .i64 0)]] = some (.p (.int .i64 (nextV [n] 0 800)), [diceB [n] (nextA [n] 0 800)]) := next_eq [n] 0 800 (by simp) (by omega)
    simp only [intsP, List.map_cons, List.map_nil] at hr2 hn2
    have hd0 := nextV_nonneg [n] 0 800
    have hd1 := nextV_lt [n] 0 (n := 800) (by omega)
    generalize nextV [n] 0 800 = d at hn2 hd0 hd1
    have hrd := round_eq t p 1 d hok.fits (by omega) (by omega)
    obtain ⟨a, hra, hR⟩ := round_ok hval hd0 (by omega)
    rw [hra] at hrd
    have hal := hR.len
    have hab : ∀ q ∈ a, 0 ≤ q.2 ∧ q.2 ≤ 4294967296 := fun q hq => by
      have h1 := hR.pos q hq
      have h2 := (partOf_ok hval.ok q.1).o1
      omega
    have hta := fun c => taken_eq t a c (by omega) (by omega) hab
    have htop := hR.top
    have ht0 := hta 1
    rw [htop] at ht0
    obtain ⟨x0, hx0, hg0⟩ := first_part hval
    have hpl0 : p.length ≠ 0 := by
      intro h0
      have := List.eq_nil_of_length_eq_zero h0
      rw [this] at hx0
      simp at hx0
    have hpo : partOf p 1 = x0 := by rw [← hg0]; exact partOf_at hval.nodup hx0
    have hx0k := hval.ok x0 (List.mem_of_getElem? hx0)
    have hxo0 := hx0k.o0
    have hxo1 := hx0k.o1
    have hcb : ∀ c, 0 ≤ capR t p c ∧ capR t p c ≤ 16777216 := fun c => capN_bound hval.ok _ c
    have hkd := rkids_eq t 1 (by omega)
    have hkid := hR.kid
    have hK0 : 0 ≤ min d (capR t p 1) := by have := hcb 1; omega
    have hK1 : min d (capR t p 1) ≤ 800 := by omega
    have hKs := Int.le_trans (Int.min_le_right d (capR t p 1)) (cap_le_sum hok (l := p) hin)
    have hnn := shares_nonneg (t := t) hval.ok 1 (kidsN t.nodes 1)
    rw [hpo] at hkid hKs hnn
    have hspl := fun (i : Nat) (x : Int) hi => split_at hnn hK0 hKs (i := i) (x := x) hi
    generalize min d (capR t p 1) = K at ht0 hkid hK0 hK1 hKs hspl
    have hks := fun c (hc : c ∈ kidsN t.nodes 1) => kid_sub hok hin hc
    have hkl := kidsN_len t.nodes 1
    rw [kids_in hok hin] at hkd
    generalize kidsN t.nodes 1 = ks at hkd hkid hKs hnn hspl hks hkl
    have hpz : ¬ (p.length : Int) = 0 := by omega
    simp -implicitDefEqProofs (disch := omega) only [vf6, vb6, hli, hro, htr, hpa, hr2, hn2, hrd, ht0, hpz, hkd, hx0, Int.toNat_zero, go_sem, ↓reduceIte, Nat.reduceAdd, Nat.reduceSub, Nat.reduceEqDiff, Nat.reduceLeDiff, reduceCtorEq]
    obtain ⟨I, hI⟩ : ∃ I : Nat → St → Prop, ∀ k s, I k s ↔ ∃ (w : List Int) (all : Int) (ww : Nat), w = (ks.take k).map (capR t p) ∧ w.length = k ∧ all = x0.own + sumI w ∧ 0 ≤ all ∧ all ≤ 16777216 * (k + 1) ∧ s.pe 6 = .ptr (.slot 6 0) 0 0 ∧ s.pe 7 = .own (.slot 31 1) 0 0 p.length ∧ s.pe 8 = .own (.slot 40 1) 0 0 a.length ∧ s.pe 10 = .p (.int .i64 K) ∧ s.pe 11 = .own (.slot 54 1) 0 0 ks.length ∧ s.pe 12 = .p (.int .i64 all) ∧ s.pe 13 = .own (.slot 13 0) ww 0 w.length ∧ s.pe 14 = .p (.int .i64 k) ∧ s.h (.slot 6 0) = some (0, Ob.box [.p (nodesP t.nodes), .p (.int .i64 t.next)]) ∧ s.h (.slot 13 0) = some (ww, Ob.arr 1 (w.map (.int .i64))) ∧ s.h (.slot 31 1) = some (0, Ob.arr 5 (List.map Pt.pv p)) ∧ s.h (.slot 40 1) = some (0, Ob.arr 2 (List.map tkP a)) ∧ s.h (.slot 54 1) = some (0, Ob.arr 1 (List.map (.int .i64) ks)) := ⟨_, fun _ _ => Iff.rfl⟩
    refine wp_count (ks.length) I ?_ ?_
    · refine (hI _ _).2 ⟨[], x0.own, 0, ?_, ?_, ?_, ?_, ?_, ?_, ?_, ?_, ?_, ?_, ?_, ?_, ?_, ?_, ?_, ?_, ?_, ?_⟩
      · exact by simp
      · exact rfl
      · exact by simp [sumI]
      · exact by first | rfl | omega | (simp; done) | (simp; omega)
      · exact by first | rfl | omega | (simp; done) | (simp; omega)
      all_goals first | with_reducible rfl | (simp -implicitDefEqProofs (disch := omega) only [List.map_append, go_sem, ↓reduceIte, Nat.reduceAdd, Nat.reduceSub, Nat.reduceEqDiff, Nat.reduceLeDiff, reduceCtorEq]; first | done | rfl | (simp; done) | (congr 2; omega) | (congr 1; omega) | (congr 3; omega) | (simp; omega) | (congr 2; simp; omega) | (refine ⟨_, rfl, ?_⟩; first | rfl | (simp -implicitDefEqProofs (disch := omega) only [List.map_append, go_sem, ↓reduceIte, Nat.reduceAdd, Nat.reduceSub, Nat.reduceEqDiff, Nat.reduceLeDiff, reduceCtorEq]; done))) | rfl | omega | (congr 2; omega)
    intro k s hk hIk
    obtain ⟨w, all, ww, hw, hwl, has, ha0, ha1, h6, h7, h8, h10, h11, h12, h13, h14, hh6_0, hh13_0, hh31_1, hh40_1, hh54_1⟩ := (hI _ _).1 hIk
    clear hIk
    simp -implicitDefEqProofs (disch := omega) only [h6, h7, h8, h10, h11, h12, h13, h14, hh6_0, hh13_0, hh31_1, hh40_1, hh54_1, go_sem, ↓reduceIte, Nat.reduceAdd, Nat.reduceSub, Nat.reduceEqDiff, Nat.reduceLeDiff, reduceCtorEq]
    refine wp_if_d (fun hlt => ?_) (fun hge => ?_)
    · have hmk : ks[k]? = some ks[k] := List.getElem?_eq_getElem hlt
      have htk := take_snoc hmk
      generalize ks[k] = c at hmk htk
      have hcm := List.mem_of_getElem? hmk
      have hcs := hks c hcm
      have hbk := below_ok hval hcs
      have hbl := hbk.length
      have hca := capacity_eq t (partsBelow t p c) c hok.fits (by omega) (by omega)
      rw [below_CapP hval hcs] at hca
      have hc0 := (hcb c).1
      have hc1 := (hcb c).2
      generalize hcp : capR t p c = v at hca hc0 hc1
      unfold partsBelow at hca hbl
      simp -implicitDefEqProofs (disch := omega) only [h6, h7, h8, h10, h11, h12, h13, h14, hh6_0, hh13_0, hh31_1, hh40_1, hh54_1, hlt, go_sem, ↓reduceIte, Nat.reduceAdd, Nat.reduceSub, Nat.reduceEqDiff, Nat.reduceLeDiff, reduceCtorEq]
      obtain ⟨J, hJ⟩ : ∃ I : Nat → St → Prop, ∀ j s, I j s ↔ ∃ (v15_0 : Nat) (q : List Pt), q = (p.take j).filter (fun x => decide (c ∈ ancR t x.group)) ∧ q.length ≤ j ∧ s.pe 6 = .ptr (.slot 6 0) 0 0 ∧ s.pe 7 = .own (.slot 31 1) 0 0 p.length ∧ s.pe 8 = .own (.slot 40 1) 0 0 a.length ∧ s.pe 10 = .p (.int .i64 K) ∧ s.pe 11 = .own (.slot 54 1) 0 0 ks.length ∧ s.pe 12 = .p (.int .i64 all) ∧ s.pe 13 = .own (.slot 13 0) ww 0 w.length ∧ s.pe 14 = .p (.int .i64 ↑k) ∧ s.pe 15 = .own (.slot 15 0) v15_0 0 q.length ∧ s.pe 16 = .p (.int .i64 j) ∧ s.h (.slot 6 0) = some (0, Ob.box [.p (nodesP t.nodes), .p (.int .i64 t.next)]) ∧ s.h (.slot 13 0) = some (ww, Ob.arr 1 (List.map (.int .i64) w)) ∧ s.h (.slot 15 0) = some (v15_0, Ob.arr 5 (List.map Pt.pv q)) ∧ s.h (.slot 31 1) = some (0, Ob.arr 5 (List.map Pt.pv p)) ∧ s.h (.slot 40 1) = some (0, Ob.arr 2 (List.map tkP a)) ∧ s.h (.slot 54 1) = some (0, Ob.arr 1 (List.map (.int .i64) ks)) := ⟨_, fun _ _ => Iff.rfl⟩
      refine wp_count (p.length) J ?_ ?_
      · refine (hJ _ _).2 ⟨nv (fzOb [15, 77] s.h (.slot 15 0)), [], ?_, ?_, ?_, ?_, ?_, ?_, ?_, ?_, ?_, ?_, ?_, ?_, ?_, ?_, ?_, ?_, ?_, ?_⟩
        · exact by simp
        · exact by first | rfl | omega | (simp; done) | (simp; omega)
        all_goals first | with_reducible rfl | (simp -implicitDefEqProofs (disch := omega) only [h6, h7, h8, h10, h11, h12, h13, h14, hh6_0, hh13_0, hh31_1, hh40_1, hh54_1, List.map_append, go_sem, ↓reduceIte, Nat.reduceAdd, Nat.reduceSub, Nat.reduceEqDiff, Nat.reduceLeDiff, reduceCtorEq]; first | done | rfl | (simp; done) | (congr 2; omega) | (congr 1; omega) | (congr 3; omega) | (simp; omega) | (congr 2; simp; omega) | (refine ⟨_, rfl, ?_⟩; first | rfl | (simp -implicitDefEqProofs (disch := omega) only [h6, h7, h8, h10, h11, h12, h13, h14, hh6_0, hh13_0, hh31_1, hh40_1, hh54_1, List.map_append, go_sem, ↓reduceIte, Nat.reduceAdd, Nat.reduceSub, Nat.reduceEqDiff, Nat.reduceLeDiff, reduceCtorEq]; done))) | rfl | omega | (congr 2; omega)
      intro j s hj hJk
      obtain ⟨v15_0, q, hq, hql, h6, h7, h8, h10, h11, h12, h13, h14, h15, h16, hh6_0, hh13_0, hh15_0, hh31_1, hh40_1, hh54_1⟩ := (hJ _ _).1 hJk
      clear hJk
      simp -implicitDefEqProofs (disch := omega) only [h6, h7, h8, h10, h11, h12, h13, h14, h15, h16, hh6_0, hh13_0, hh15_0, hh31_1, hh40_1, hh54_1, go_sem, ↓reduceIte, Nat.reduceAdd, Nat.reduceSub, Nat.reduceEqDiff, Nat.reduceLeDiff, reduceCtorEq]
      refine wp_if_d (fun hlt2 => ?_) (fun hge2 => ?_)
      · have hmj : p[j]? = some p[j] := List.getElem?_eq_getElem hlt2
        have htj := take_snoc hmj
        generalize p[j] = x at hmj htj
        have hra := ranc_eq t x.group (by omega)
        have hrl := ancR_len t x.group
        have hh := has3_eq (ancR t x.group) c (by omega)
        by_cases hcx : c ∈ ancR t x.group
        · rw [decide_eq_true hcx] at hh
          simp -implicitDefEqProofs (disch := omega) only [h6, h7, h8, h10, h11, h12, h13, h14, h15, h16, hh6_0, hh13_0, hh15_0, hh31_1, hh40_1, hh54_1, hlt2, hmj, hmk, hra, hh, go_sem, ↓reduceIte, Nat.reduceAdd, Nat.reduceSub, Nat.reduceEqDiff, Nat.reduceLeDiff, reduceCtorEq]
          try refine And.intro (by omega) ?_
          refine (hJ _ _).2 ⟨v15_0 + 1, q ++ [x], ?_, ?_, ?_, ?_, ?_, ?_, ?_, ?_, ?_, ?_, ?_, ?_, ?_, ?_, ?_, ?_, ?_, ?_⟩
          · exact by rw [htj, List.filter_append, hq]; simp [hcx]
          · exact by simp; omega
          all_goals first | with_reducible rfl | (simp -implicitDefEqProofs (disch := omega) only [h6, h7, h8, h10, h11, h12, h13, h14, h15, h16, hh6_0, hh13_0, hh15_0, hh31_1, hh40_1, hh54_1, List.map_append, go_sem, ↓reduceIte, Nat.reduceAdd, Nat.reduceSub, Nat.reduceEqDiff, Nat.reduceLeDiff, reduceCtorEq]; first | done | rfl | (simp; done) | (congr 2; omega) | (congr 1; omega) | (congr 3; omega) | (simp; omega) | (congr 2; simp; omega) | (refine ⟨_, rfl, ?_⟩; first | rfl | (simp -implicitDefEqProofs (disch := omega) only [h6, h7, h8, h10, h11, h12, h13, h14, h15, h16, hh6_0, hh13_0, hh15_0, hh31_1, hh40_1, hh54_1, List.map_append, go_sem, ↓reduceIte, Nat.reduceAdd, Nat.reduceSub, Nat.reduceEqDiff, Nat.reduceLeDiff, reduceCtorEq]; done))) | rfl | omega | (congr 2; omega)
        · rw [decide_eq_false hcx] at hh
          simp -implicitDefEqProofs (disch := omega) only [h6, h7, h8, h10, h11, h12, h13, h14, h15, h16, hh6_0, hh13_0, hh15_0, hh31_1, hh40_1, hh54_1, hlt2, hmj, hmk, hra, hh, go_sem, ↓reduceIte, Nat.reduceAdd, Nat.reduceSub, Nat.reduceEqDiff, Nat.reduceLeDiff, reduceCtorEq]
          try refine And.intro (by omega) ?_
          refine (hJ _ _).2 ⟨v15_0, q, ?_, ?_, ?_, ?_, ?_, ?_, ?_, ?_, ?_, ?_, ?_, ?_, ?_, ?_, ?_, ?_, ?_, ?_⟩
          · exact by rw [htj, List.filter_append, hq]; simp [hcx]
          · exact by omega
          all_goals first | with_reducible rfl | (simp -implicitDefEqProofs (disch := omega) only [h6, h7, h8, h10, h11, h12, h13, h14, h15, h16, hh6_0, hh13_0, hh15_0, hh31_1, hh40_1, hh54_1, List.map_append, go_sem, ↓reduceIte, Nat.reduceAdd, Nat.reduceSub, Nat.reduceEqDiff, Nat.reduceLeDiff, reduceCtorEq]; first | done | rfl | (simp; done) | (congr 2; omega) | (congr 1; omega) | (congr 3; omega) | (simp; omega) | (congr 2; simp; omega) | (refine ⟨_, rfl, ?_⟩; first | rfl | (simp -implicitDefEqProofs (disch := omega) only [h6, h7, h8, h10, h11, h12, h13, h14, h15, h16, hh6_0, hh13_0, hh15_0, hh31_1, hh40_1, hh54_1, List.map_append, go_sem, ↓reduceIte, Nat.reduceAdd, Nat.reduceSub, Nat.reduceEqDiff, Nat.reduceLeDiff, reduceCtorEq]; done))) | rfl | omega | (congr 2; omega)
      · rw [List.take_of_length_le (by omega)] at hq
        subst hq
        simp -implicitDefEqProofs (disch := omega) only [h6, h7, h8, h10, h11, h12, h13, h14, h15, h16, hh6_0, hh13_0, hh15_0, hh31_1, hh40_1, hh54_1, hge2, hmk, hca, List.take_of_length_le, List.length_map, go_sem, ↓reduceIte, Nat.reduceAdd, Nat.reduceSub, Nat.reduceEqDiff, Nat.reduceLeDiff, reduceCtorEq]
        try refine And.intro (by omega) ?_
        refine (hI _ _).2 ⟨w ++ [v], all + v, ww + 1, ?_, ?_, ?_, ?_, ?_, ?_, ?_, ?_, ?_, ?_, ?_, ?_, ?_, ?_, ?_, ?_, ?_, ?_⟩
        · exact by rw [hw, htk, List.map_append, List.map_singleton, hcp]
        · exact by rw [List.length_append, hwl]; rfl
        · exact by rw [has, sumI_snoc]; omega
        · exact by omega
        · exact by omega
        all_goals first | with_reducible rfl | (simp -implicitDefEqProofs (disch := omega) only [h6, h7, h8, h10, h11, h12, h13, h14, h15, h16, hh6_0, hh13_0, hh15_0, hh31_1, hh40_1, hh54_1, List.map_append, go_sem, ↓reduceIte, Nat.reduceAdd, Nat.reduceSub, Nat.reduceEqDiff, Nat.reduceLeDiff, reduceCtorEq]; first | done | rfl | (simp; done) | (congr 2; omega) | (congr 1; omega) | (congr 3; omega) | (simp; omega) | (congr 2; simp; omega) | (refine ⟨_, rfl, ?_⟩; first | rfl | (simp -implicitDefEqProofs (disch := omega) only [h6, h7, h8, h10, h11, h12, h13, h14, h15, h16, hh6_0, hh13_0, hh15_0, hh31_1, hh40_1, hh54_1, List.map_append, go_sem, ↓reduceIte, Nat.reduceAdd, Nat.reduceSub, Nat.reduceEqDiff, Nat.reduceLeDiff, reduceCtorEq]; done))) | rfl | omega | (congr 2; omega)
    · have hkk : k = ks.length := by omega
      subst hkk
      rw [List.take_length] at hw
      have hall : all = sumI (x0.own :: w) := by rw [has]; rfl
      rw [← hw] at hKs hspl hkid
      rw [← hall] at hKs hspl
      have hall1 : all ≤ 1090519040 := by omega
      clear ha1
      simp -implicitDefEqProofs (disch := omega) only [h6, h7, h8, h10, h11, h12, h13, h14, hh6_0, hh13_0, hh31_1, hh40_1, hh54_1, hge, go_sem, ↓reduceIte, Nat.reduceAdd, Nat.reduceSub, Nat.reduceEqDiff, Nat.reduceLeDiff, reduceCtorEq]
      obtain ⟨M, hM⟩ : ∃ I : Nat → St → Prop, ∀ m s, I m s ↔ s.pe 6 = .ptr (.slot 6 0) 0 0 ∧ s.pe 8 = .own (.slot 40 1) 0 0 a.length ∧ s.pe 10 = .p (.int .i64 K) ∧ s.pe 11 = .own (.slot 54 1) 0 0 ks.length ∧ s.pe 12 = .p (.int .i64 all) ∧ s.pe 13 = .own (.slot 13 0) ww 0 w.length ∧ s.pe 19 = .p (.int .i64 m) ∧ s.h (.slot 6 0) = some (0, Ob.box [.p (nodesP t.nodes), .p (.int .i64 t.next)]) ∧ s.h (.slot 13 0) = some (ww, Ob.arr 1 (List.map (.int .i64) w)) ∧ s.h (.slot 40 1) = some (0, Ob.arr 2 (List.map tkP a)) ∧ s.h (.slot 54 1) = some (0, Ob.arr 1 (List.map (.int .i64) ks)) := ⟨_, fun _ _ => Iff.rfl⟩
      refine wp_count (ks.length) M ?_ ?_
      · refine (hM _ _).2 ⟨?_, ?_, ?_, ?_, ?_, ?_, ?_, ?_, ?_, ?_, ?_⟩
        all_goals first | with_reducible rfl | (simp -implicitDefEqProofs (disch := omega) only [h6, h7, h8, h10, h11, h12, h13, h14, hh6_0, hh13_0, hh31_1, hh40_1, hh54_1, List.map_append, go_sem, ↓reduceIte, Nat.reduceAdd, Nat.reduceSub, Nat.reduceEqDiff, Nat.reduceLeDiff, reduceCtorEq]; first | done | rfl | (simp; done) | (congr 2; omega) | (congr 1; omega) | (congr 3; omega) | (simp; omega) | (congr 2; simp; omega) | (refine ⟨_, rfl, ?_⟩; first | rfl | (simp -implicitDefEqProofs (disch := omega) only [h6, h7, h8, h10, h11, h12, h13, h14, hh6_0, hh13_0, hh31_1, hh40_1, hh54_1, List.map_append, go_sem, ↓reduceIte, Nat.reduceAdd, Nat.reduceSub, Nat.reduceEqDiff, Nat.reduceLeDiff, reduceCtorEq]; done))) | rfl | omega | (congr 2; omega)
      intro m s hm hMk
      obtain ⟨h6, h8, h10, h11, h12, h13, h19, hh6_0, hh13_0, hh40_1, hh54_1⟩ := (hM _ _).1 hMk
      clear hMk
      simp -implicitDefEqProofs (disch := omega) only [h6, h8, h10, h11, h12, h13, h19, hh6_0, hh13_0, hh40_1, hh54_1, go_sem, ↓reduceIte, Nat.reduceAdd, Nat.reduceSub, Nat.reduceEqDiff, Nat.reduceLeDiff, reduceCtorEq]
      by_cases hlt2 : m < ks.length
      · have hmk : ks[m]? = some ks[m] := List.getElem?_eq_getElem hlt2
        have hwm : w[m]? = some w[m] := List.getElem?_eq_getElem (by omega)
        obtain ⟨z, hz1, hz2⟩ := hkid m ks[m] hmk
        obtain ⟨z', hz3, hz4, hz5, hz6⟩ := hspl (m + 1) w[m] (by rw [List.getElem?_cons_succ]; exact hwm)
        rw [hz1] at hz3
        have hzz : z = z' := by simpa using hz3
        subst hzz
        have hwb : 0 ≤ w[m] ∧ w[m] ≤ 16777216 := by
          have := List.mem_of_getElem? hwm
          generalize w[m] = v at this
          rw [hw] at this
          obtain ⟨c, _, hc⟩ := List.mem_map.1 this
          rw [← hc]
          exact hcb c
        generalize ks[m] = c at hmk hz2
        generalize w[m] = v at hwm hz5 hz6 hwb
        have htc := hta c
        rw [hz2] at htc
        have hm1 := mul_bound hz4 (Int.le_trans hz5 hwb.2) ha0 hall1
        have hm2 := mul_bound hK0 hK1 hwb.1 hwb.2
        by_cases hpos : 0 < all
        · have hb := hz6 hpos
          generalize hp1 : z * all = A at hm1 hb
          generalize hp2 : K * v = B at hm2 hb
          have hm1a := hm1.1
          have hm1b := hm1.2
          have hm2a := hm2.1
          have hm2b := hm2.2
          have e1 : ¬ B + all < A := by omega
          have e2 : ¬ A < B - all + 1 := by omega
          simp -implicitDefEqProofs (disch := omega) only [h6, h8, h10, h11, h12, h13, h19, hh6_0, hh13_0, hh40_1, hh54_1, hlt2, hpos, hmk, hwm, htc, hp1, hp2, e1, e2, go_sem, ↓reduceIte, Nat.reduceAdd, Nat.reduceSub, Nat.reduceEqDiff, Nat.reduceLeDiff, reduceCtorEq]
          try refine And.intro (by omega) ?_
          refine (hM _ _).2 ⟨?_, ?_, ?_, ?_, ?_, ?_, ?_, ?_, ?_, ?_, ?_⟩
          all_goals first | with_reducible rfl | (simp -implicitDefEqProofs (disch := omega) only [h6, h8, h10, h11, h12, h13, h19, hh6_0, hh13_0, hh40_1, hh54_1, List.map_append, go_sem, ↓reduceIte, Nat.reduceAdd, Nat.reduceSub, Nat.reduceEqDiff, Nat.reduceLeDiff, reduceCtorEq]; first | done | rfl | (simp; done) | (congr 2; omega) | (congr 1; omega) | (congr 3; omega) | (simp; omega) | (congr 2; simp; omega) | (refine ⟨_, rfl, ?_⟩; first | rfl | (simp -implicitDefEqProofs (disch := omega) only [h6, h8, h10, h11, h12, h13, h19, hh6_0, hh13_0, hh40_1, hh54_1, List.map_append, go_sem, ↓reduceIte, Nat.reduceAdd, Nat.reduceSub, Nat.reduceEqDiff, Nat.reduceLeDiff, reduceCtorEq]; done))) | rfl | omega | (congr 2; omega)
        · have hltI : (m : Int) < ks.length := by omega
          simp -implicitDefEqProofs (disch := omega) only [h6, h8, h10, h11, h12, h13, h19, hh6_0, hh13_0, hh40_1, hh54_1, hlt2, hpos, hsane, go_sem, ↓reduceIte, Nat.reduceAdd, Nat.reduceSub, Nat.reduceEqDiff, Nat.reduceLeDiff, reduceCtorEq]
      · have hltI : ¬ (m : Int) < ks.length := by omega
        simp -implicitDefEqProofs (disch := omega) only [h6, h8, h10, h11, h12, h13, h19, hh6_0, hh13_0, hh40_1, hh54_1, hlt2, hsane, go_sem, ↓reduceIte, Nat.reduceAdd, Nat.reduceSub, Nat.reduceEqDiff, Nat.reduceLeDiff, reduceCtorEq]
  · rw [decide_eq_false hL] at hli
    simp -implicitDefEqProofs (disch := omega) only [vf6, vb6, hli, hsane, go_sem, ↓reduceIte, Nat.reduceAdd, Nat.reduceSub, Nat.reduceEqDiff, Nat.reduceLeDiff, reduceCtorEq]
end Go.V

