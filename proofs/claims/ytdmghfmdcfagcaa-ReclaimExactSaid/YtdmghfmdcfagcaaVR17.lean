/- The law ReclaimGrows in the value machine. -/
import Derived.Test.YtdmghfmdcfagcaaVRB
set_option linter.unusedSimpArgs false
set_option linter.unusedVariables false
namespace Go.V

theorem dPart_small (L : List Int) (x : Int) (a : Nat) : (dPart L x a).1.usage ≤ 300 ∧ (dPart L x a).1.own ≤ 100 := by
  have h1 := pickV_mem L a (xs := [0, 7, 60, 100, 300]) (by simp)
  have h3 := pickV_mem L (nextA L (nextA L a 5) 5) (xs := [0, 1, 6, 40, 100]) (by simp)
  simp only [List.mem_cons, List.not_mem_nil, or_false] at h1 h3
  constructor <;> simp only [dPart] <;> omega
theorem dParts_small (L : List Int) : ∀ (ids : List Int) (a : Nat), ∀ x ∈ (dParts L ids a).1, x.usage ≤ 300 ∧ x.own ≤ 100
  | [], _, x, h => by simp [dParts] at h
  | y :: ids, a, x, h => by
    rw [dParts] at h
    rcases List.mem_cons.1 h with rfl | h
    · exact dPart_small L y a
    · exact dParts_small L ids _ x h
theorem partOf_at : ∀ {p : List Pt} {j : Nat} {x : Pt}, (p.map (·.group)).Nodup → p[j]? = some x → partOf p x.group = x
  | [], _, _, _, h => by simp at h
  | y :: p, 0, x, _, h => by
    have : y = x := by simpa using h
    subst this
    simp [partOf]
  | y :: p, j + 1, x, hn, h => by
    rw [List.map_cons, List.nodup_cons] at hn
    have h' : p[j]? = some x := by simpa using h
    have hne : ¬ y.group = x.group := fun e => hn.1 (e ▸ List.mem_map.2 ⟨x, List.mem_of_getElem? h', rfl⟩)
    have := partOf_at hn.2 h'
    simpa [partOf, List.find?_cons, hne] using this
theorem partOf_set_ne {x x' : Pt} (hg : x'.group = x.group) {g : Int} (h : g ≠ x.group) : ∀ {p : List Pt} {j : Nat}, p[j]? = some x → partOf (p.set j x') g = partOf p g
  | [], _, hj => by simp at hj
  | y :: p, 0, hj => by
    have : y = x := by simpa using hj
    subst this
    have h1 : ¬ x'.group = g := fun e => h (by omega)
    have h2 : ¬ y.group = g := fun e => h (by omega)
    simp [partOf, List.find?_cons, h1, h2]
  | y :: p, j + 1, hj => by
    have := partOf_set_ne hg h (p := p) (j := j) (by simpa using hj)
    rw [List.set_cons_succ]
    unfold partOf at this ⊢
    rw [List.find?_cons, List.find?_cons]
    split
    · rfl
    · exact this
theorem PartsOk.set {t : Tr} {p : List Pt} {root : Int} (h : PartsOk t p root) {j : Nat} {x x' : Pt} (hj : p[j]? = some x) (hx : PtOk x') (hg : x'.group = x.group) : PartsOk t (p.set j x') root := by
  refine ⟨h.tree, h.top, ?_, fun y hy => ?_⟩
  · rw [← h.groups, List.map_set]
    apply List.ext_getElem?
    intro i
    rw [List.getElem?_set]
    split
    · rename_i e
      subst e
      rw [List.length_map, List.getElem?_map, hj]
      simp [hg, (List.getElem?_eq_some_iff.1 hj).1]
    · rfl
  · rcases List.mem_or_eq_of_mem_set hy with h1 | h1
    · exact h.ok y h1
    · rw [h1]; exact hx

theorem grows_set {t : Tr} {p : List Pt} {root : Int} (h : PartsOk t p root) {j : Nat} {x x' : Pt} (hj : p[j]? = some x) (hg : x'.group = x.group) {d : Int} (hd : 0 ≤ d) (h1 : ∀ s, capF x s ≤ capF x' s) (h2 : ∀ s, capF x' s ≤ capF x s + d) : capR t p root ≤ capR t (p.set j x') root ∧ capR t (p.set j x') root ≤ capR t p root + d := by
  obtain ⟨i, m, hm, rfl⟩ := h.top
  have hjl := (List.getElem?_eq_some_iff.1 hj).1
  have e1 : partOf p x.group = x := partOf_at h.nodup hj
  have hn2 : ((p.set j x').map (·.group)).Nodup := by
    have : (p.set j x').map (·.group) = p.map (·.group) := by
      rw [List.map_set]
      apply List.ext_getElem?
      intro i
      rw [List.getElem?_set]
      split
      · rename_i e
        subst e
        rw [List.length_map, List.getElem?_map, hj]
        simp [hg, hjl]
      · rfl
    rw [this]
    exact h.nodup
  have e2 : partOf (p.set j x') x.group = x' := by
    rw [← hg]
    exact partOf_at hn2 (by rw [List.getElem?_set_self hjl])
  have hG : Grows p (p.set j x') x.group d := ⟨fun g hne => partOf_set_ne hg hne hj, fun s => by rw [e1, e2]; exact h1 s, fun s => by rw [e1, e2]; exact h2 s⟩
  have := capN_grows h.tree hd hG t.nodes.length i m hm (by omega)
  exact ⟨this.1, this.2.1⟩

set_option maxHeartbeats 4000000 in
theorem grows_eq (L : List Int) (n : Int) : V 3 [.p (intsP L), .p (.int .i64 n)] [] = some (.p (.bool true), []) := by
  refine V_wp (vf := vf3) rfl ?_
  have hli := light_eq (L.map (PV.int .i64))
  rw [List.length_map] at hli
  have hsane := sane_eq
  by_cases hL : L.length ≤ 600
  · rw [decide_eq_true hL] at hli
    have hro := roll_eq L
    have htr : V 11 [.ptr (.arg 0 0) 0 0, .p (.int .i64 7)] [.box [.p (intsP L), .p (.int .i64 0)]] = some ((dTree L 0 7).1.vv, [diceB L (dTree L 0 7).2]) := tree_eq L 0 7 (by omega) (by omega)
    have hok := dTree_ok L 0 7
    generalize dTree L 0 7 = ta at htr hok
    obtain ⟨t, a0⟩ := ta
    simp only at htr hok
    have hlen := hok.len
    have hpa := parts_eq L a0 1 hok (by omega)
    have htop : InN t.nodes 1 := by
      obtain ⟨r, ns, he, h1, _⟩ := hok.root
      exact ⟨0, r, by rw [he]; rfl, h1⟩
    have hval := dParts_valid L a0 hok htop
    have hlp : (dParts L (sortU (subT t 1)) a0).1.length = (sortU (subT t 1)).length := by
      have := congrArg List.length (dParts_groups L (sortU (subT t 1)) a0)
      rwa [List.length_map] at this
    have hsm := dParts_small L (sortU (subT t 1)) a0
    generalize dParts L (sortU (subT t 1)) a0 = pa at hpa hval hlp hsm
    obtain ⟨p, a1⟩ := pa
    simp only at hpa hval hlp hsm
    have hpl := hval.length
    have hca := capacity_eq t p 1 hok.fits (by omega) (by omega)
    have hcv : CapP t p 1 = (capR t p 1, 0) := by rw [CapP, if_pos ((validP_iff t p 1).2 hval)]
    rw [hcv] at hca
    have hr2 := roll_eq [n]
    have hn2 : V 14 [.ptr (.arg 0 0) 0 0, .p (.int .i64 100)] [.box [.p (intsP [n]), .p (.int .i64 0)]] = some (.p (.int .i64 (nextV [n] 0 100)), [diceB [n] (nextA [n] 0 100)]) := next_eq [n] 0 100 (by simp) (by omega)
    have hn3 := next_eq L a1 p.length (by omega) (by omega)
    simp only [intsP, List.map_cons, List.map_nil] at hr2 hn2
    have hp1 : 1 ≤ p.length := by
      rw [hlp, sortU_msort (nodup_subT hok 1), msort_length]
      exact List.length_pos_iff.2 ((subT_ne hok).2 htop)
    have hd0 := nextV_nonneg [n] 0 100
    have hd1 := nextV_lt [n] 0 (n := 100) (by omega)
    generalize nextV [n] 0 100 = d at hn2 hd0 hd1
    have hj0 := nextV_nonneg L a1 p.length
    have hj1 := nextV_lt L a1 (n := (p.length : Int)) (by omega)
    obtain ⟨j, hj⟩ := Int.eq_ofNat_of_zero_le hj0
    rw [hj] at hn3 hj1
    clear hj0
    have hm : p[j]? = some p[j] := List.getElem?_eq_getElem (by omega)
    generalize p[j] = x at hm
    have hx := hval.ok x (List.mem_of_getElem? hm)
    simp -implicitDefEqProofs (disch := omega) only [vf3, vb3, hli, hro, htr, hpa, hca, hr2, hn2, hn3, go_sem, ↓reduceIte, Nat.reduceAdd, Nat.reduceSub, Nat.reduceEqDiff, Nat.reduceLeDiff, reduceCtorEq]
    obtain ⟨I, hI⟩ : ∃ I : Nat → St → Prop, ∀ k s, I k s ↔ s.pe 1 = .p (.int .i64 d) ∧ s.pe 6 = .ptr (.slot 6 0) 0 0 ∧ s.pe 7 = .own (.slot 25 1) 0 0 p.length ∧ s.pe 8 = .p (.int .i64 (capR t p 1)) ∧ s.pe 9 = .p (.int .i64 0) ∧ s.pe 10 = .p (.int .i64 j) ∧ s.pe 11 = .p (.int .i64 k) ∧ s.h (.slot 6 0) = some (0, Ob.box [.p (nodesP t.nodes), .p (.int .i64 t.next)]) ∧ s.h (.slot 25 1) = some (0, Ob.arr 5 (List.map Pt.pv p)) := ⟨_, fun _ _ => Iff.rfl⟩
    refine wp_count (4) I ?_ ?_
    · refine (hI _ _).2 ⟨?_, ?_, ?_, ?_, ?_, ?_, ?_, ?_, ?_⟩
      all_goals first | with_reducible rfl | (simp -implicitDefEqProofs (disch := omega) only [List.map_append, go_sem, ↓reduceIte, Nat.reduceAdd, Nat.reduceSub, Nat.reduceEqDiff, Nat.reduceLeDiff, reduceCtorEq]; first | done | rfl | (simp; done) | (congr 2; omega) | (congr 1; omega) | (congr 3; omega) | (simp; omega) | (congr 2; simp; omega) | (refine ⟨_, rfl, ?_⟩; first | rfl | (simp -implicitDefEqProofs (disch := omega) only [List.map_append, go_sem, ↓reduceIte, Nat.reduceAdd, Nat.reduceSub, Nat.reduceEqDiff, Nat.reduceLeDiff, reduceCtorEq]; done))) | rfl | omega | (congr 2; omega)
    intro k s hk hIk
    obtain ⟨h1, h6, h7, h8, h9, h10, h11, hh6_0, hh25_1⟩ := (hI _ _).1 hIk
    clear hIk
    have hs1 := (hsm x (List.mem_of_getElem? hm)).1
    have hs2 := (hsm x (List.mem_of_getElem? hm)).2
    have hu0 := hx.u0
    have hu1 := hx.u1
    have hp0 := hx.p0
    have hp1' := hx.p1
    have ho0 := hx.o0
    have ho1 := hx.o1
    have hr0 := hx.r0
    have hr1 := hx.r1
    have hgd : (List.map Pt.pv p)[j]? = some x.pv := by rw [List.getElem?_map, hm]; rfl
    simp only [Pt.pv] at hgd
    obtain hk | hk | hk | hk | hk : k = 0 ∨ k = 1 ∨ k = 2 ∨ k = 3 ∨ k = 4 := by omega
    · subst hk
      have hk0 : ((0 : Nat) : Int) = 0 := rfl
      have h04 : (0 : Int) < 4 := by decide
      obtain ⟨x', hx'⟩ : ∃ x' : Pt, x' = ⟨x.group, x.usage, x.protect, x.own + d, x.room⟩ := ⟨_, rfl⟩
      have hxok : PtOk x' := by
        subst hx'
        exact ⟨hu0, hu1, hp0, hp1', by show 0 ≤ x.own + d; omega, by show x.own + d ≤ 16777216; omega, hr0, hr1⟩
      have hset : (List.map Pt.pv p).set j (.agg [.int .i64 x.group, .int .i64 (x.usage), .int .i64 (x.protect), .int .i64 (x.own + d), .int .i64 (x.room)]) = List.map Pt.pv (p.set j x') := by rw [List.map_set, hx']; rfl
      have htk : List.take p.length (List.map Pt.pv (p.set j x')) = List.map Pt.pv (p.set j x') := List.take_of_length_le (by simp)
      have hq := hval.set hm hxok (by rw [hx'])
      have hcq := capacity_eq t (p.set j x') 1 hok.fits (by omega) (by rw [List.length_set]; omega)
      have hqv : CapP t (p.set j x') 1 = (capR t (p.set j x') 1, 0) := by rw [CapP, if_pos ((validP_iff t _ 1).2 hq)]
      rw [hqv] at hcq
      have hgr := grows_set hval hm (x' := x') (by rw [hx']) hd0 (fun s => by subst hx'; unfold capF; simp only; omega) (fun s => by subst hx'; unfold capF; simp only; omega)
      have hg1 : ¬ capR t (p.set j x') 1 < capR t p 1 := by omega
      have hg2 : ¬ capR t p 1 + d < capR t (p.set j x') 1 := by omega
      have hcb : 0 ≤ capR t p 1 ∧ capR t p 1 ≤ 16777216 := capN_bound (ns := t.nodes) hval.ok t.nodes.length 1
      have hcb0 := hcb.1
      have hcb1 := hcb.2
      simp -implicitDefEqProofs (disch := omega) only [h1, h6, h7, h8, h9, h10, h11, hh6_0, hh25_1, hm, hgd, hk0, h04, hset, htk, hcq, hg1, hg2, List.headD_cons, Int.toNat_natCast, go_sem, ↓reduceIte, Nat.reduceAdd, Nat.reduceSub, Nat.reduceEqDiff, Nat.reduceLeDiff, reduceCtorEq]
      try refine And.intro (by omega) ?_
      refine (hI _ _).2 ⟨?_, ?_, ?_, ?_, ?_, ?_, ?_, ?_, ?_⟩
      all_goals first | with_reducible rfl | (simp -implicitDefEqProofs (disch := omega) only [h1, h6, h7, h8, h9, h10, h11, hh6_0, hh25_1, List.map_append, go_sem, ↓reduceIte, Nat.reduceAdd, Nat.reduceSub, Nat.reduceEqDiff, Nat.reduceLeDiff, reduceCtorEq]; first | done | rfl | (simp; done) | (congr 2; omega) | (congr 1; omega) | (congr 3; omega) | (simp; omega) | (congr 2; simp; omega) | (refine ⟨_, rfl, ?_⟩; first | rfl | (simp -implicitDefEqProofs (disch := omega) only [h1, h6, h7, h8, h9, h10, h11, hh6_0, hh25_1, List.map_append, go_sem, ↓reduceIte, Nat.reduceAdd, Nat.reduceSub, Nat.reduceEqDiff, Nat.reduceLeDiff, reduceCtorEq]; done))) | rfl | omega | (congr 2; omega)
    · subst hk
      have hk0 : ((1 : Nat) : Int) = 1 := rfl
      have h04 : (1 : Int) < 4 := by decide
      have q10 : ¬ (1 : Int) = 0 := by decide
      obtain ⟨x', hx'⟩ : ∃ x' : Pt, x' = ⟨x.group, x.usage + d, x.protect, x.own, x.room⟩ := ⟨_, rfl⟩
      have hxok : PtOk x' := by
        subst hx'
        exact ⟨by show 0 ≤ x.usage + d; omega, by show x.usage + d ≤ 16777216; omega, hp0, hp1', ho0, ho1, hr0, hr1⟩
      have hset : (List.map Pt.pv p).set j (.agg [.int .i64 x.group, .int .i64 (x.usage + d), .int .i64 (x.protect), .int .i64 (x.own), .int .i64 (x.room)]) = List.map Pt.pv (p.set j x') := by rw [List.map_set, hx']; rfl
      have htk : List.take p.length (List.map Pt.pv (p.set j x')) = List.map Pt.pv (p.set j x') := List.take_of_length_le (by simp)
      have hq := hval.set hm hxok (by rw [hx'])
      have hcq := capacity_eq t (p.set j x') 1 hok.fits (by omega) (by rw [List.length_set]; omega)
      have hqv : CapP t (p.set j x') 1 = (capR t (p.set j x') 1, 0) := by rw [CapP, if_pos ((validP_iff t _ 1).2 hq)]
      rw [hqv] at hcq
      have hgr := grows_set hval hm (x' := x') (by rw [hx']) hd0 (fun s => by subst hx'; unfold capF; simp only; omega) (fun s => by subst hx'; unfold capF; simp only; omega)
      have hg1 : ¬ capR t (p.set j x') 1 < capR t p 1 := by omega
      have hg2 : ¬ capR t p 1 + d < capR t (p.set j x') 1 := by omega
      have hcb : 0 ≤ capR t p 1 ∧ capR t p 1 ≤ 16777216 := capN_bound (ns := t.nodes) hval.ok t.nodes.length 1
      have hcb0 := hcb.1
      have hcb1 := hcb.2
      simp -implicitDefEqProofs (disch := omega) only [h1, h6, h7, h8, h9, h10, h11, hh6_0, hh25_1, hm, hgd, hk0, h04, q10, hset, htk, hcq, hg1, hg2, List.headD_cons, Int.toNat_natCast, go_sem, ↓reduceIte, Nat.reduceAdd, Nat.reduceSub, Nat.reduceEqDiff, Nat.reduceLeDiff, reduceCtorEq]
      try refine And.intro (by omega) ?_
      refine (hI _ _).2 ⟨?_, ?_, ?_, ?_, ?_, ?_, ?_, ?_, ?_⟩
      all_goals first | with_reducible rfl | (simp -implicitDefEqProofs (disch := omega) only [h1, h6, h7, h8, h9, h10, h11, hh6_0, hh25_1, List.map_append, go_sem, ↓reduceIte, Nat.reduceAdd, Nat.reduceSub, Nat.reduceEqDiff, Nat.reduceLeDiff, reduceCtorEq]; first | done | rfl | (simp; done) | (congr 2; omega) | (congr 1; omega) | (congr 3; omega) | (simp; omega) | (congr 2; simp; omega) | (refine ⟨_, rfl, ?_⟩; first | rfl | (simp -implicitDefEqProofs (disch := omega) only [h1, h6, h7, h8, h9, h10, h11, hh6_0, hh25_1, List.map_append, go_sem, ↓reduceIte, Nat.reduceAdd, Nat.reduceSub, Nat.reduceEqDiff, Nat.reduceLeDiff, reduceCtorEq]; done))) | rfl | omega | (congr 2; omega)
    · subst hk
      have hk0 : ((2 : Nat) : Int) = 2 := rfl
      have h04 : (2 : Int) < 4 := by decide
      have q20 : ¬ (2 : Int) = 0 := by decide
      have q21 : ¬ (2 : Int) = 1 := by decide
      obtain ⟨x', hx'⟩ : ∃ x' : Pt, x' = ⟨x.group, x.usage, x.protect, x.own, min 4611686018427387904 (x.room + d)⟩ := ⟨_, rfl⟩
      have hxok : PtOk x' := by
        subst hx'
        exact ⟨hu0, hu1, hp0, hp1', ho0, ho1, by show 0 ≤ min 4611686018427387904 (x.room + d); omega, by show min 4611686018427387904 (x.room + d) ≤ 4611686018427387904; omega⟩
      have hset : (List.map Pt.pv p).set j (.agg [.int .i64 x.group, .int .i64 (x.usage), .int .i64 (x.protect), .int .i64 (x.own), .int .i64 (min 4611686018427387904 (x.room + d))]) = List.map Pt.pv (p.set j x') := by rw [List.map_set, hx']; rfl
      have htk : List.take p.length (List.map Pt.pv (p.set j x')) = List.map Pt.pv (p.set j x') := List.take_of_length_le (by simp)
      have hq := hval.set hm hxok (by rw [hx'])
      have hcq := capacity_eq t (p.set j x') 1 hok.fits (by omega) (by rw [List.length_set]; omega)
      have hqv : CapP t (p.set j x') 1 = (capR t (p.set j x') 1, 0) := by rw [CapP, if_pos ((validP_iff t _ 1).2 hq)]
      rw [hqv] at hcq
      have hgr := grows_set hval hm (x' := x') (by rw [hx']) hd0 (fun s => by subst hx'; unfold capF; simp only; omega) (fun s => by subst hx'; unfold capF; simp only; omega)
      have hg1 : ¬ capR t (p.set j x') 1 < capR t p 1 := by omega
      have hg2 : ¬ capR t p 1 + d < capR t (p.set j x') 1 := by omega
      have hcb : 0 ≤ capR t p 1 ∧ capR t p 1 ≤ 16777216 := capN_bound (ns := t.nodes) hval.ok t.nodes.length 1
      have hcb0 := hcb.1
      have hcb1 := hcb.2
      simp -implicitDefEqProofs (disch := omega) only [h1, h6, h7, h8, h9, h10, h11, hh6_0, hh25_1, hm, hgd, hk0, h04, q20, q21, hset, htk, hcq, hg1, hg2, List.headD_cons, Int.toNat_natCast, go_sem, ↓reduceIte, Nat.reduceAdd, Nat.reduceSub, Nat.reduceEqDiff, Nat.reduceLeDiff, reduceCtorEq]
      try refine And.intro (by omega) ?_
      refine (hI _ _).2 ⟨?_, ?_, ?_, ?_, ?_, ?_, ?_, ?_, ?_⟩
      all_goals first | with_reducible rfl | (simp -implicitDefEqProofs (disch := omega) only [h1, h6, h7, h8, h9, h10, h11, hh6_0, hh25_1, List.map_append, go_sem, ↓reduceIte, Nat.reduceAdd, Nat.reduceSub, Nat.reduceEqDiff, Nat.reduceLeDiff, reduceCtorEq]; first | done | rfl | (simp; done) | (congr 2; omega) | (congr 1; omega) | (congr 3; omega) | (simp; omega) | (congr 2; simp; omega) | (refine ⟨_, rfl, ?_⟩; first | rfl | (simp -implicitDefEqProofs (disch := omega) only [h1, h6, h7, h8, h9, h10, h11, hh6_0, hh25_1, List.map_append, go_sem, ↓reduceIte, Nat.reduceAdd, Nat.reduceSub, Nat.reduceEqDiff, Nat.reduceLeDiff, reduceCtorEq]; done))) | rfl | omega | (congr 2; omega)
    · subst hk
      have hk0 : ((3 : Nat) : Int) = 3 := rfl
      have h04 : (3 : Int) < 4 := by decide
      have q30 : ¬ (3 : Int) = 0 := by decide
      have q31 : ¬ (3 : Int) = 1 := by decide
      have q32 : ¬ (3 : Int) = 2 := by decide
      obtain ⟨x', hx'⟩ : ∃ x' : Pt, x' = ⟨x.group, x.usage, max 0 (x.protect - d), x.own, x.room⟩ := ⟨_, rfl⟩
      have hxok : PtOk x' := by
        subst hx'
        exact ⟨hu0, hu1, by show 0 ≤ max 0 (x.protect - d); omega, by show max 0 (x.protect - d) ≤ 16777216; omega, ho0, ho1, hr0, hr1⟩
      have hset : (List.map Pt.pv p).set j (.agg [.int .i64 x.group, .int .i64 (x.usage), .int .i64 (max 0 (x.protect - d)), .int .i64 (x.own), .int .i64 (x.room)]) = List.map Pt.pv (p.set j x') := by rw [List.map_set, hx']; rfl
      have htk : List.take p.length (List.map Pt.pv (p.set j x')) = List.map Pt.pv (p.set j x') := List.take_of_length_le (by simp)
      have hq := hval.set hm hxok (by rw [hx'])
      have hcq := capacity_eq t (p.set j x') 1 hok.fits (by omega) (by rw [List.length_set]; omega)
      have hqv : CapP t (p.set j x') 1 = (capR t (p.set j x') 1, 0) := by rw [CapP, if_pos ((validP_iff t _ 1).2 hq)]
      rw [hqv] at hcq
      have hgr := grows_set hval hm (x' := x') (by rw [hx']) hd0 (fun s => by subst hx'; unfold capF; simp only; omega) (fun s => by subst hx'; unfold capF; simp only; omega)
      have hg1 : ¬ capR t (p.set j x') 1 < capR t p 1 := by omega
      have hg2 : ¬ capR t p 1 + d < capR t (p.set j x') 1 := by omega
      have hcb : 0 ≤ capR t p 1 ∧ capR t p 1 ≤ 16777216 := capN_bound (ns := t.nodes) hval.ok t.nodes.length 1
      have hcb0 := hcb.1
      have hcb1 := hcb.2
      simp -implicitDefEqProofs (disch := omega) only [h1, h6, h7, h8, h9, h10, h11, hh6_0, hh25_1, hm, hgd, hk0, h04, q30, q31, q32, hset, htk, hcq, hg1, hg2, List.headD_cons, Int.toNat_natCast, go_sem, ↓reduceIte, Nat.reduceAdd, Nat.reduceSub, Nat.reduceEqDiff, Nat.reduceLeDiff, reduceCtorEq]
      try refine And.intro (by omega) ?_
      refine (hI _ _).2 ⟨?_, ?_, ?_, ?_, ?_, ?_, ?_, ?_, ?_⟩
      all_goals first | with_reducible rfl | (simp -implicitDefEqProofs (disch := omega) only [h1, h6, h7, h8, h9, h10, h11, hh6_0, hh25_1, List.map_append, go_sem, ↓reduceIte, Nat.reduceAdd, Nat.reduceSub, Nat.reduceEqDiff, Nat.reduceLeDiff, reduceCtorEq]; first | done | rfl | (simp; done) | (congr 2; omega) | (congr 1; omega) | (congr 3; omega) | (simp; omega) | (congr 2; simp; omega) | (refine ⟨_, rfl, ?_⟩; first | rfl | (simp -implicitDefEqProofs (disch := omega) only [h1, h6, h7, h8, h9, h10, h11, hh6_0, hh25_1, List.map_append, go_sem, ↓reduceIte, Nat.reduceAdd, Nat.reduceSub, Nat.reduceEqDiff, Nat.reduceLeDiff, reduceCtorEq]; done))) | rfl | omega | (congr 2; omega)
    · subst hk
      have hk0 : ((4 : Nat) : Int) = 4 := rfl
      have h04 : ¬ (4 : Int) < 4 := by decide
      simp -implicitDefEqProofs (disch := omega) only [h1, h6, h7, h8, h9, h10, h11, hh6_0, hh25_1, hk0, h04, hsane, go_sem, ↓reduceIte, Nat.reduceAdd, Nat.reduceSub, Nat.reduceEqDiff, Nat.reduceLeDiff, reduceCtorEq]
  · rw [decide_eq_false hL] at hli
    simp -implicitDefEqProofs (disch := omega) only [vf3, vb3, hli, hsane, go_sem, ↓reduceIte, Nat.reduceAdd, Nat.reduceSub, Nat.reduceEqDiff, Nat.reduceLeDiff, reduceCtorEq]
end Go.V

