/- The law ReclaimBounds in the value machine. -/
import Derived.Test.YtdmghfmdcfagcaaVR20
set_option linter.unusedSimpArgs false
set_option linter.unusedVariables false
namespace Go.V

set_option maxHeartbeats 4000000 in
theorem bounds24_eq (L : List Int) (n : Int) : V 5 [.p (intsP L), .p (.int .i64 n)] [] = some (.p (.bool true), []) := by
  refine V_wp (vf := vf5) rfl ?_
  have hli := light_eq (L.map (PV.int .i64))
  rw [List.length_map] at hli
  have hsane := sane_eq
  by_cases hL : L.length ≤ 600
  · rw [decide_eq_true hL] at hli
    have hro := roll_eq L
    have htr : V 11 [.ptr (.arg 0 0) 0 0, .p (.int .i64 8)] [.box [.p (intsP L), .p (.int .i64 0)]] = some ((dTree L 0 8).1.vv, [diceB L (dTree L 0 8).2]) := tree_eq L 0 8 (by omega) (by omega)
    have hok := dTree_ok L 0 8
    generalize dTree L 0 8 = ta at htr hok
    obtain ⟨t, a0⟩ := ta
    simp only at htr hok
    have hlen := hok.len
    have hne : 1 ≤ t.nodes.length := by
      obtain ⟨r, ns, he, _⟩ := hok.root
      rw [he, List.length_cons]
      omega
    have hn1 := next_eq L a0 t.nodes.length (by omega) (by omega)
    have hi0 := nextV_nonneg L a0 t.nodes.length
    have hi1 := nextV_lt L a0 (n := (t.nodes.length : Int)) (by omega)
    obtain ⟨i, hi⟩ := Int.eq_ofNat_of_zero_le hi0
    rw [hi] at hn1 hi1
    clear hi0 hi
    generalize nextA L a0 t.nodes.length = a1 at hn1
    have hm : t.nodes[i]? = some t.nodes[i] := List.getElem?_eq_getElem (by omega)
    generalize t.nodes[i] = r at hm
    have hin : InN t.nodes r.id := ⟨i, r, hm, rfl⟩
    have hpa := parts_eq L a1 r.id hok (by omega)
    have hval := dParts_valid L a1 hok hin
    generalize dParts L (sortU (subT t r.id)) a1 = pa at hpa hval
    obtain ⟨p, a2⟩ := pa
    simp only at hpa hval
    have hpl := hval.length
    have hca := capacity_eq t p r.id hok.fits (by omega) (by omega)
    have hcv : CapP t p r.id = (capR t p r.id, 0) := by rw [CapP, if_pos ((validP_iff t p _).2 hval)]
    rw [hcv] at hca
    have hr2 := roll_eq [n]
    have hn2 : V 14 [.ptr (.arg 0 0) 0 0, .p (.int .i64 800)] [.box [.p (intsP [n]), .p (.int .i64 0)]] = some (.p (.int .i64 (nextV [n] 0 800)), [diceB [n] (nextA [n] 0 800)]) := next_eq [n] 0 800 (by simp) (by omega)
    simp only [intsP, List.map_cons, List.map_nil] at hr2 hn2
    have hd0 := nextV_nonneg [n] 0 800
    have hd1 := nextV_lt [n] 0 (n := 800) (by omega)
    generalize nextV [n] 0 800 = d at hn2 hd0 hd1
    have hrd := round_eq t p r.id d hok.fits (by omega) (by omega)
    obtain ⟨a, hra, hR⟩ := round_ok hval hd0 (by omega)
    rw [hra] at hrd
    have hal := hR.len
    have hab : ∀ q ∈ a, 0 ≤ q.2 ∧ q.2 ≤ 4294967296 := fun q hq => by
      have h1 := hR.pos q hq
      have h2 := (partOf_ok hval.ok q.1).o1
      omega
    have hta := fun c => taken_eq t a c (by omega) (by omega) hab
    have htop := hR.top
    have ht0 := hta r.id
    rw [htop] at ht0
    simp -implicitDefEqProofs (disch := omega) only [vf5, vb5, hli, hro, htr, hn1, hm, hpa, hca, hr2, hn2, hrd, ht0, go_sem, ↓reduceIte, Nat.reduceAdd, Nat.reduceSub, Nat.reduceEqDiff, Nat.reduceLeDiff, reduceCtorEq]
    obtain ⟨I, hI⟩ : ∃ I : Nat → St → Prop, ∀ k s, I k s ↔ s.pe 6 = .ptr (.slot 6 0) 0 0 ∧ s.pe 8 = .own (.slot 39 1) 0 0 p.length ∧ s.pe 11 = .own (.slot 56 1) 0 0 a.length ∧ s.pe 13 = .p (.int .i64 k) ∧ s.h (.slot 6 0) = some (0, Ob.box [.p (nodesP t.nodes), .p (.int .i64 t.next)]) ∧ s.h (.slot 39 1) = some (0, Ob.arr 5 (List.map Pt.pv p)) ∧ s.h (.slot 56 1) = some (0, Ob.arr 2 (List.map tkP a)) := ⟨_, fun _ _ => Iff.rfl⟩
    refine wp_count (p.length) I ?_ ?_
    · refine (hI _ _).2 ⟨?_, ?_, ?_, ?_, ?_, ?_, ?_⟩
      all_goals first | with_reducible rfl | (simp -implicitDefEqProofs (disch := omega) only [List.map_append, go_sem, ↓reduceIte, Nat.reduceAdd, Nat.reduceSub, Nat.reduceEqDiff, Nat.reduceLeDiff, reduceCtorEq]; first | done | rfl | (simp; done) | (congr 2; omega) | (congr 1; omega) | (congr 3; omega) | (simp; omega) | (congr 2; simp; omega) | (refine ⟨_, rfl, ?_⟩; first | rfl | (simp -implicitDefEqProofs (disch := omega) only [List.map_append, go_sem, ↓reduceIte, Nat.reduceAdd, Nat.reduceSub, Nat.reduceEqDiff, Nat.reduceLeDiff, reduceCtorEq]; done))) | rfl | omega | (congr 2; omega)
    intro k s hk hIk
    obtain ⟨h6, h8, h11, h13, hh6_0, hh39_1, hh56_1⟩ := (hI _ _).1 hIk
    clear hIk
    simp -implicitDefEqProofs (disch := omega) only [h6, h8, h11, h13, hh6_0, hh39_1, hh56_1, go_sem, ↓reduceIte, Nat.reduceAdd, Nat.reduceSub, Nat.reduceEqDiff, Nat.reduceLeDiff, reduceCtorEq]
    refine wp_if_d (fun hlt => ?_) (fun hge => ?_)
    · have hmk : p[k]? = some p[k] := List.getElem?_eq_getElem hlt
      generalize p[k] = x at hmk
      have hxm := List.mem_of_getElem? hmk
      have hx := hval.ok x hxm
      have hu0 := hx.u0
      have hu1 := hx.u1
      have hq0 := hx.p0
      have hq1 := hx.p1
      have ho0 := hx.o0
      have hr0 := hx.r0
      have hxi := hval.part_in hxm
      have hpo : partOf p x.group = x := partOf_at hval.nodup hmk
      have htx := hta x.group
      have hts := hR.sub _ hxi
      have htc := cap_le hok (l := p) (subA_in hok hin hxi)
      rw [hpo] at htc
      have htr0 := htc.1
      have htu0 := htc.2
      have htn : 0 ≤ takenP t a x.group := by
        rw [hR.on _ (subA_in hok hin hxi)]
        exact sumOn_nonneg fun q hq => (hab q hq).1
      generalize takenP t a x.group = T at htx hts htn
      simp -implicitDefEqProofs (disch := omega) only [h6, h8, h11, h13, hh6_0, hh39_1, hh56_1, hlt, go_sem, ↓reduceIte, Nat.reduceAdd, Nat.reduceSub, Nat.reduceEqDiff, Nat.reduceLeDiff, reduceCtorEq]
      obtain ⟨J, hJ⟩ : ∃ I : Nat → St → Prop, ∀ j s, I j s ↔ ∃ (own : Int), 0 ≤ own ∧ own ≤ x.own ∧ s.pe 6 = .ptr (.slot 6 0) 0 0 ∧ s.pe 8 = .own (.slot 39 1) 0 0 p.length ∧ s.pe 11 = .own (.slot 56 1) 0 0 a.length ∧ s.pe 13 = .p (.int .i64 ↑k) ∧ s.pe 14 = .p (.int .i64 own) ∧ s.pe 15 = .p (.int .i64 j) ∧ s.h (.slot 6 0) = some (0, Ob.box [.p (nodesP t.nodes), .p (.int .i64 t.next)]) ∧ s.h (.slot 39 1) = some (0, Ob.arr 5 (List.map Pt.pv p)) ∧ s.h (.slot 56 1) = some (0, Ob.arr 2 (List.map tkP a)) := ⟨_, fun _ _ => Iff.rfl⟩
      refine wp_count (a.length) J ?_ ?_
      · refine (hJ _ _).2 ⟨0, ?_, ?_, ?_, ?_, ?_, ?_, ?_, ?_, ?_, ?_, ?_⟩
        · exact by first | rfl | omega | (simp; done) | (simp; omega)
        · exact by first | rfl | omega | (simp; done) | (simp; omega)
        all_goals first | with_reducible rfl | (simp -implicitDefEqProofs (disch := omega) only [h6, h8, h11, h13, hh6_0, hh39_1, hh56_1, List.map_append, go_sem, ↓reduceIte, Nat.reduceAdd, Nat.reduceSub, Nat.reduceEqDiff, Nat.reduceLeDiff, reduceCtorEq]; first | done | rfl | (simp; done) | (congr 2; omega) | (congr 1; omega) | (congr 3; omega) | (simp; omega) | (congr 2; simp; omega) | (refine ⟨_, rfl, ?_⟩; first | rfl | (simp -implicitDefEqProofs (disch := omega) only [h6, h8, h11, h13, hh6_0, hh39_1, hh56_1, List.map_append, go_sem, ↓reduceIte, Nat.reduceAdd, Nat.reduceSub, Nat.reduceEqDiff, Nat.reduceLeDiff, reduceCtorEq]; done))) | rfl | omega | (congr 2; omega)
      intro j s hj hJk
      obtain ⟨own, hw0, hw1, h6, h8, h11, h13, h14, h15, hh6_0, hh39_1, hh56_1⟩ := (hJ _ _).1 hJk
      clear hJk
      simp -implicitDefEqProofs (disch := omega) only [h6, h8, h11, h13, h14, h15, hh6_0, hh39_1, hh56_1, go_sem, ↓reduceIte, Nat.reduceAdd, Nat.reduceSub, Nat.reduceEqDiff, Nat.reduceLeDiff, reduceCtorEq]
      refine wp_if_d (fun hlt2 => ?_) (fun hge2 => ?_)
      · have hmj : a[j]? = some a[j] := List.getElem?_eq_getElem hlt2
        generalize a[j] = y at hmj
        have hyb := hR.pos y (List.mem_of_getElem? hmj)
        have hy0 := hyb.1
        have hy1 := hyb.2
        by_cases hyx : y.1 = x.group
        · rw [hyx, hpo] at hy1
          simp -implicitDefEqProofs (disch := omega) only [h6, h8, h11, h13, h14, h15, hh6_0, hh39_1, hh56_1, hlt2, hmj, hmk, hyx, go_sem, ↓reduceIte, Nat.reduceAdd, Nat.reduceSub, Nat.reduceEqDiff, Nat.reduceLeDiff, reduceCtorEq]
          try refine And.intro (by omega) ?_
          refine (hJ _ _).2 ⟨y.2, ?_, ?_, ?_, ?_, ?_, ?_, ?_, ?_, ?_, ?_, ?_⟩
          · exact by omega
          · exact hy1
          all_goals first | with_reducible rfl | (simp -implicitDefEqProofs (disch := omega) only [h6, h8, h11, h13, h14, h15, hh6_0, hh39_1, hh56_1, List.map_append, go_sem, ↓reduceIte, Nat.reduceAdd, Nat.reduceSub, Nat.reduceEqDiff, Nat.reduceLeDiff, reduceCtorEq]; first | done | rfl | (simp; done) | (congr 2; omega) | (congr 1; omega) | (congr 3; omega) | (simp; omega) | (congr 2; simp; omega) | (refine ⟨_, rfl, ?_⟩; first | rfl | (simp -implicitDefEqProofs (disch := omega) only [h6, h8, h11, h13, h14, h15, hh6_0, hh39_1, hh56_1, List.map_append, go_sem, ↓reduceIte, Nat.reduceAdd, Nat.reduceSub, Nat.reduceEqDiff, Nat.reduceLeDiff, reduceCtorEq]; done))) | rfl | omega | (congr 2; omega)
        · simp -implicitDefEqProofs (disch := omega) only [h6, h8, h11, h13, h14, h15, hh6_0, hh39_1, hh56_1, hlt2, hmj, hmk, hyx, go_sem, ↓reduceIte, Nat.reduceAdd, Nat.reduceSub, Nat.reduceEqDiff, Nat.reduceLeDiff, reduceCtorEq]
          try refine And.intro (by omega) ?_
          refine (hJ _ _).2 ⟨own, ?_, ?_, ?_, ?_, ?_, ?_, ?_, ?_, ?_, ?_, ?_⟩
          · exact hw0
          · exact hw1
          all_goals first | with_reducible rfl | (simp -implicitDefEqProofs (disch := omega) only [h6, h8, h11, h13, h14, h15, hh6_0, hh39_1, hh56_1, List.map_append, go_sem, ↓reduceIte, Nat.reduceAdd, Nat.reduceSub, Nat.reduceEqDiff, Nat.reduceLeDiff, reduceCtorEq]; first | done | rfl | (simp; done) | (congr 2; omega) | (congr 1; omega) | (congr 3; omega) | (simp; omega) | (congr 2; simp; omega) | (refine ⟨_, rfl, ?_⟩; first | rfl | (simp -implicitDefEqProofs (disch := omega) only [h6, h8, h11, h13, h14, h15, hh6_0, hh39_1, hh56_1, List.map_append, go_sem, ↓reduceIte, Nat.reduceAdd, Nat.reduceSub, Nat.reduceEqDiff, Nat.reduceLeDiff, reduceCtorEq]; done))) | rfl | omega | (congr 2; omega)
      · have e1 : ¬ x.own < own := by omega
        have e2 : ¬ x.room < T := by omega
        have e3 : ¬ max 0 (x.usage - x.protect) < T := by omega
        simp -implicitDefEqProofs (disch := omega) only [h6, h8, h11, h13, h14, h15, hh6_0, hh39_1, hh56_1, hge2, hmk, htx, e1, e2, e3, go_sem, ↓reduceIte, Nat.reduceAdd, Nat.reduceSub, Nat.reduceEqDiff, Nat.reduceLeDiff, reduceCtorEq]
        try refine And.intro (by omega) ?_
        refine (hI _ _).2 ⟨?_, ?_, ?_, ?_, ?_, ?_, ?_⟩
        all_goals first | with_reducible rfl | (simp -implicitDefEqProofs (disch := omega) only [h6, h8, h11, h13, h14, h15, hh6_0, hh39_1, hh56_1, List.map_append, go_sem, ↓reduceIte, Nat.reduceAdd, Nat.reduceSub, Nat.reduceEqDiff, Nat.reduceLeDiff, reduceCtorEq]; first | done | rfl | (simp; done) | (congr 2; omega) | (congr 1; omega) | (congr 3; omega) | (simp; omega) | (congr 2; simp; omega) | (refine ⟨_, rfl, ?_⟩; first | rfl | (simp -implicitDefEqProofs (disch := omega) only [h6, h8, h11, h13, h14, h15, hh6_0, hh39_1, hh56_1, List.map_append, go_sem, ↓reduceIte, Nat.reduceAdd, Nat.reduceSub, Nat.reduceEqDiff, Nat.reduceLeDiff, reduceCtorEq]; done))) | rfl | omega | (congr 2; omega)
    · simp -implicitDefEqProofs (disch := omega) only [h6, h8, h11, h13, hh6_0, hh39_1, hh56_1, hge, go_sem, ↓reduceIte, Nat.reduceAdd, Nat.reduceSub, Nat.reduceEqDiff, Nat.reduceLeDiff, reduceCtorEq]
      obtain ⟨M, hM⟩ : ∃ I : Nat → St → Prop, ∀ m s, I m s ↔ s.pe 11 = .own (.slot 56 1) 0 0 a.length ∧ s.pe 17 = .p (.int .i64 m) ∧ s.h (.slot 56 1) = some (0, Ob.arr 2 (List.map tkP a)) := ⟨_, fun _ _ => Iff.rfl⟩
      refine wp_count (a.length) M ?_ ?_
      · refine (hM _ _).2 ⟨?_, ?_, ?_⟩
        all_goals first | with_reducible rfl | (simp -implicitDefEqProofs (disch := omega) only [h6, h8, h11, h13, hh6_0, hh39_1, hh56_1, List.map_append, go_sem, ↓reduceIte, Nat.reduceAdd, Nat.reduceSub, Nat.reduceEqDiff, Nat.reduceLeDiff, reduceCtorEq]; first | done | rfl | (simp; done) | (congr 2; omega) | (congr 1; omega) | (congr 3; omega) | (simp; omega) | (congr 2; simp; omega) | (refine ⟨_, rfl, ?_⟩; first | rfl | (simp -implicitDefEqProofs (disch := omega) only [h6, h8, h11, h13, hh6_0, hh39_1, hh56_1, List.map_append, go_sem, ↓reduceIte, Nat.reduceAdd, Nat.reduceSub, Nat.reduceEqDiff, Nat.reduceLeDiff, reduceCtorEq]; done))) | rfl | omega | (congr 2; omega)
      intro m s hm hMk
      obtain ⟨h11, h17, hh56_1⟩ := (hM _ _).1 hMk
      clear hMk
      simp -implicitDefEqProofs (disch := omega) only [h11, h17, hh56_1, go_sem, ↓reduceIte, Nat.reduceAdd, Nat.reduceSub, Nat.reduceEqDiff, Nat.reduceLeDiff, reduceCtorEq]
      refine wp_if_d (fun hlt2 => ?_) (fun hge2 => ?_)
      · have hmj : a[m]? = some a[m] := List.getElem?_eq_getElem hlt2
        have hinc := hR.inc
        by_cases hm0 : m = 0
        · subst hm0
          generalize a[0] = y at hmj
          have hyb := hR.pos y (List.mem_of_getElem? hmj)
          have hy0 : ¬ y.2 < 1 := by omega
          have hz : ¬ (0 : Int) < ((0 : Nat) : Int) := by omega
          simp -implicitDefEqProofs (disch := omega) only [h11, h17, hh56_1, hlt2, hmj, hy0, hz, go_sem, ↓reduceIte, Nat.reduceAdd, Nat.reduceSub, Nat.reduceEqDiff, Nat.reduceLeDiff, reduceCtorEq]
          try refine And.intro (by omega) ?_
          refine (hM _ _).2 ⟨?_, ?_, ?_⟩
          all_goals first | with_reducible rfl | (simp -implicitDefEqProofs (disch := omega) only [h11, h17, hh56_1, List.map_append, go_sem, ↓reduceIte, Nat.reduceAdd, Nat.reduceSub, Nat.reduceEqDiff, Nat.reduceLeDiff, reduceCtorEq]; first | done | rfl | (simp; done) | (congr 2; omega) | (congr 1; omega) | (congr 3; omega) | (simp; omega) | (congr 2; simp; omega) | (refine ⟨_, rfl, ?_⟩; first | rfl | (simp -implicitDefEqProofs (disch := omega) only [h11, h17, hh56_1, List.map_append, go_sem, ↓reduceIte, Nat.reduceAdd, Nat.reduceSub, Nat.reduceEqDiff, Nat.reduceLeDiff, reduceCtorEq]; done))) | rfl | omega | (congr 2; omega)
        · have hmp : a[m - 1]? = some a[m - 1] := List.getElem?_eq_getElem (by omega)
          have hlt3 : a[m - 1].1 < a[m].1 := List.pairwise_iff_getElem.1 hinc (m - 1) m (by omega) hlt2 (by omega)
          generalize a[m - 1] = z at hmp hlt3
          generalize a[m] = y at hmj hlt3
          have hyb := hR.pos y (List.mem_of_getElem? hmj)
          have hy0 : ¬ y.2 < 1 := by omega
          have hz : (0 : Int) < (m : Int) := by omega
          have hmp' : a[((m : Int) - 1).toNat]? = some z := by rw [← hmp]; congr 1; omega
          have hle : ¬ y.1 ≤ z.1 := by omega
          have hge0 : (0 : Int) ≤ (m : Int) - 1 := by omega
          simp -implicitDefEqProofs (disch := omega) only [h11, h17, hh56_1, hlt2, hmj, hy0, hz, hmp', hle, hge0, go_sem, ↓reduceIte, Nat.reduceAdd, Nat.reduceSub, Nat.reduceEqDiff, Nat.reduceLeDiff, reduceCtorEq]
          try refine And.intro (by omega) ?_
          refine (hM _ _).2 ⟨?_, ?_, ?_⟩
          all_goals first | with_reducible rfl | (simp -implicitDefEqProofs (disch := omega) only [h11, h17, hh56_1, List.map_append, go_sem, ↓reduceIte, Nat.reduceAdd, Nat.reduceSub, Nat.reduceEqDiff, Nat.reduceLeDiff, reduceCtorEq]; first | done | rfl | (simp; done) | (congr 2; omega) | (congr 1; omega) | (congr 3; omega) | (simp; omega) | (congr 2; simp; omega) | (refine ⟨_, rfl, ?_⟩; first | rfl | (simp -implicitDefEqProofs (disch := omega) only [h11, h17, hh56_1, List.map_append, go_sem, ↓reduceIte, Nat.reduceAdd, Nat.reduceSub, Nat.reduceEqDiff, Nat.reduceLeDiff, reduceCtorEq]; done))) | rfl | omega | (congr 2; omega)
      · simp -implicitDefEqProofs (disch := omega) only [h11, h17, hh56_1, hge2, hsane, go_sem, ↓reduceIte, Nat.reduceAdd, Nat.reduceSub, Nat.reduceEqDiff, Nat.reduceLeDiff, reduceCtorEq]
  · rw [decide_eq_false hL] at hli
    simp -implicitDefEqProofs (disch := omega) only [vf5, vb5, hli, hsane, go_sem, ↓reduceIte, Nat.reduceAdd, Nat.reduceSub, Nat.reduceEqDiff, Nat.reduceLeDiff, reduceCtorEq]
end Go.V

