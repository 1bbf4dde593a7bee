/- The law ClampOpen in the value machine. -/
import Derived.Test.YtcljahgcdbohaaaVC19b
set_option linter.unusedSimpArgs false
set_option linter.unusedVariables false
namespace Go.V

set_option maxHeartbeats 8000000 in
theorem clampOpen_eq (L : List Int) (use : Int) (hu0 : 0 ≤ use) (hu1 : use < 65536) : V 5 [.p (intsP L), .p (.int .u16 use)] [] = some (.p (.bool true), []) := by
  refine V_wp (vf := vf5) rfl ?_
  have hli := light_eq (L.map (PV.int .i64))
  rw [List.length_map] at hli
  by_cases hL : L.length ≤ 600
  · rw [decide_eq_true hL] at hli
    have hro := roll_eq L
    have htr : V 23 [.ptr (.arg 0 0) 0 0, .p (.int .i64 7)] [.box [.p (intsP L), .p (.int .i64 0)]] = some ((dTree L 0 7).1.vv, [diceB L (dTree L 0 7).2]) := tree_eq L 0 7 (by omega) (by omega)
    have hok := dTree_ok L 0 7
    generalize dTree L 0 7 = ta at htr hok
    obtain ⟨t, a0⟩ := ta
    simp only at htr hok
    have hlen := hok.len
    have hcl := clamps_eq L a0 t (by omega) (by omega)
    have hcok := dClamps_ok L a0 hok
    have hclen := dClamps_length L t.nodes a0
    generalize dClamps L a0 t.nodes = la at hcl hcok hclen
    obtain ⟨l, a1⟩ := la
    simp only at hcl hcok hclen
    have hco := clamps_eq L a1 t (by omega) (by omega)
    have hook := dClamps_ok L a1 hok
    have holen := dClamps_length L t.nodes a1
    generalize dClamps L a1 t.nodes = lo at hco hook holen
    obtain ⟨o, a2⟩ := lo
    simp only at hco hook holen
    have u0 := Int.tmod_nonneg 10001 hu0
    have u1 := Int.tmod_lt_of_pos use (show (0 : Int) < 10001 by omega)
    simp -implicitDefEqProofs (disch := omega) only [vf5, vb5, hli, hro, htr, hcl, hco, go_sem, ↓reduceIte, Nat.reduceAdd, Nat.reduceSub, Nat.reduceEqDiff, Nat.reduceLeDiff, reduceCtorEq]
    refine wp_count o.length (fun k s => ∃ o' : List Cl, ClampsOk t o' ∧ o'.length = o.length ∧ (∀ (i : Nat) (c : Cl), i < k → o'[i]? = some c → c.min = 0 ∧ c.max = 10000) ∧ s.pe 1 = .p (.int .u16 use) ∧ s.pe 5 = .ptr (.slot 24 1) 0 0 ∧ s.pe 6 = .ptr (.slot 6 0) 0 0 ∧ s.pe 7 = .own (.slot 29 1) 0 0 l.length ∧ s.pe 8 = .own (.slot 32 1) 0 0 o.length ∧ s.pe 34 = .p (.int .i64 o.length) ∧ s.pe 35 = .p (.int .i64 k) ∧ s.h (.slot 24 1) = some (0, diceB L a2) ∧ s.h (.slot 6 0) = some (0, .box [.p (nodesP t.nodes), .p (.int .i64 t.next)]) ∧ s.h (.slot 29 1) = some (0, .arr 3 (l.map Cl.pv)) ∧ s.h (.slot 32 1) = some (0, .arr 3 (o'.map Cl.pv)) ∧ s.h (.slot 103 0) = none) ?_ ?_
    · exact ⟨o, hook, rfl, fun i c hi => absurd hi (Nat.not_lt_zero i), by simp -implicitDefEqProofs (disch := omega) only [go_sem, ↓reduceIte, Nat.reduceAdd, Nat.reduceSub, Nat.reduceEqDiff, Nat.reduceLeDiff, reduceCtorEq], by simp -implicitDefEqProofs (disch := omega) only [go_sem, ↓reduceIte, Nat.reduceAdd, Nat.reduceSub, Nat.reduceEqDiff, Nat.reduceLeDiff, reduceCtorEq], by simp -implicitDefEqProofs (disch := omega) only [go_sem, ↓reduceIte, Nat.reduceAdd, Nat.reduceSub, Nat.reduceEqDiff, Nat.reduceLeDiff, reduceCtorEq], by simp -implicitDefEqProofs (disch := omega) only [go_sem, ↓reduceIte, Nat.reduceAdd, Nat.reduceSub, Nat.reduceEqDiff, Nat.reduceLeDiff, reduceCtorEq], by simp -implicitDefEqProofs (disch := omega) only [go_sem, ↓reduceIte, Nat.reduceAdd, Nat.reduceSub, Nat.reduceEqDiff, Nat.reduceLeDiff, reduceCtorEq], by simp -implicitDefEqProofs (disch := omega) only [go_sem, ↓reduceIte, Nat.reduceAdd, Nat.reduceSub, Nat.reduceEqDiff, Nat.reduceLeDiff, reduceCtorEq], rfl, by simp -implicitDefEqProofs (disch := omega) only [go_sem, ↓reduceIte, Nat.reduceAdd, Nat.reduceSub, Nat.reduceEqDiff, Nat.reduceLeDiff, reduceCtorEq], by simp -implicitDefEqProofs (disch := omega) only [go_sem, ↓reduceIte, Nat.reduceAdd, Nat.reduceSub, Nat.reduceEqDiff, Nat.reduceLeDiff, reduceCtorEq], by simp -implicitDefEqProofs (disch := omega) only [go_sem, ↓reduceIte, Nat.reduceAdd, Nat.reduceSub, Nat.reduceEqDiff, Nat.reduceLeDiff, reduceCtorEq], by simp -implicitDefEqProofs (disch := omega) only [go_sem, ↓reduceIte, Nat.reduceAdd, Nat.reduceSub, Nat.reduceEqDiff, Nat.reduceLeDiff, reduceCtorEq], by simp -implicitDefEqProofs (disch := omega) only [go_sem, ↓reduceIte, Nat.reduceAdd, Nat.reduceSub, Nat.reduceEqDiff, Nat.reduceLeDiff, reduceCtorEq]⟩
    · rintro k s hk ⟨o', hook', holen', hall, h1, h5, h6, h7, h8, h34, h35, hh24, hh6, hh29, hh32, hh103⟩
      simp -implicitDefEqProofs (disch := omega) only [h1, h5, h6, h7, h8, h34, h35, hh24, hh6, hh29, hh32, hh103, go_sem, ↓reduceIte, Nat.reduceAdd, Nat.reduceSub, Nat.reduceEqDiff, Nat.reduceLeDiff, reduceCtorEq]
      refine wp_if_d (fun hlt => ?_) (fun hge => ?_)
      · have hm : o'[k]? = some o'[k] := List.getElem?_eq_getElem (by omega)
        generalize o'[k] = c at hm
        simp -implicitDefEqProofs (disch := omega) only [h1, h5, h6, h7, h8, h34, h35, hh24, hh6, hh29, hh32, hh103, hlt, hm, splice, setCells, List.getElem?_set_self, List.set_set, go_sem, ↓reduceIte, Nat.reduceAdd, Nat.reduceSub, Nat.reduceEqDiff, Nat.reduceLeDiff, reduceCtorEq]
        refine ⟨o'.set k ⟨c.group, 0, 10000⟩, hook'.set hm (by omega) (by omega) (by omega) (by omega), by rw [List.length_set, holen'], ?_, rfl, rfl⟩
        intro i d hi hd
        by_cases hik : k = i
        · subst hik
          rw [List.getElem?_set_self (by omega)] at hd
          cases hd
          exact ⟨rfl, rfl⟩
        · rw [List.getElem?_set_ne hik] at hd
          exact hall i d (by omega) hd
      · have hall' : ∀ c ∈ o', c.min = 0 ∧ c.max = 10000 := by
          intro c hc
          obtain ⟨i, hi⟩ := List.getElem?_of_mem hc
          exact hall i c (by have := (List.getElem?_eq_some_iff.1 hi).1; omega) hi
        have cv := cviol_eq t l hok.fits (by omega)
        have cn := next_eq L a2 l.length (by omega) (by omega)
        have n0 := nextV_nonneg L a2 l.length
        have n1 := nextV_lt L a2 (n := l.length) (by omega)
        obtain ⟨j, hj⟩ : ∃ j : Nat, nextV L a2 l.length = j := ⟨_, (Int.toNat_of_nonneg n0).symm⟩
        rw [hj] at cn n1
        generalize nextA L a2 l.length = a3 at cn
        have hjl : j < l.length := by omega
        have hcj : l[j]? = some l[j] := List.getElem?_eq_getElem hjl
        generalize l[j] = c at hcj
        have hnj : t.nodes[j]? = some t.nodes[j] := List.getElem?_eq_getElem (by omega)
        obtain ⟨_, b0, b1, b2, b3⟩ := hcok.each j _ c hnj hcj
        have cm := next_eq L a3 (c.min + 1) (by omega) (by omega)
        have m0 := nextV_nonneg L a3 (c.min + 1)
        have m1 := nextV_lt L a3 (n := c.min + 1) (by omega)
        generalize nextV L a3 (c.min + 1) = mn at cm m0 m1
        generalize nextA L a3 (c.min + 1) = a4 at cm
        have cw := cviol_eq t (l.set j ⟨c.group, mn, 10000⟩) hok.fits (by omega)
        have hvw := viol_wider hcok hcj (mn := mn) m0 (by omega)
        have hc0 : l[0]? = some l[0] := List.getElem?_eq_getElem (by omega)
        generalize l[0] = r0 at hc0
        have hn0 : t.nodes[0]? = some t.nodes[0] := List.getElem?_eq_getElem (by omega)
        obtain ⟨_, d0, d1, d2, d3⟩ := hcok.each 0 _ r0 hn0 hc0
        have hsok := hcok.set hc0 (mn := r0.min) (mx := 0) d0 (by omega) d2 (by omega)
        have hs0 : ∀ c, (l.set 0 ⟨r0.group, r0.min, 0⟩)[0]? = some c → c.max = 0 := by
          intro c hc
          rw [List.getElem?_set_self (by omega)] at hc
          cases hc
          rfl
        simp -implicitDefEqProofs (disch := omega) only [h1, h5, h6, h7, h8, h34, h35, hh24, hh6, hh29, hh32, hh103, hge, cv, cn, hcj, cm, cw, splice, setCells, List.getElem?_set_self, List.set_set, go_sem, ↓reduceIte, Nat.reduceAdd, Nat.reduceSub, Nat.reduceEqDiff, Nat.reduceLeDiff, reduceCtorEq]
        generalize hlen1 : (violC t l).length = len1
        generalize hlen2 : (violC t (l.set j ⟨c.group, mn, 10000⟩)).length = len2
        have hfin : len1 > 0 ∨ len2 = 0 := by
          rcases Nat.eq_zero_or_pos len1 with h | h
          · right
            rw [← hlen2, hvw (List.length_eq_zero_iff.1 (by omega))]
            rfl
          · exact Or.inl h
        refine wp_count t.nodes.length (fun k s => s.pe 6 = .ptr (.slot 6 0) 0 0 ∧ s.pe 7 = .own (.slot 29 1) 0 0 l.length ∧ s.pe 8 = .own (.slot 32 1) 0 0 o.length ∧ s.pe 10 = .p (.int .i64 (use.tmod 10001)) ∧ s.pe 11 = .p (.int .i64 len1) ∧ s.pe 14 = .p (.int .i64 len2) ∧ s.pe 84 = .p (.int .i64 t.nodes.length) ∧ s.pe 85 = .p (.int .i64 k) ∧ s.h (.slot 6 0) = some (0, .box [.p (nodesP t.nodes), .p (.int .i64 t.next)]) ∧ s.h (.slot 29 1) = some (0, .arr 3 (l.map Cl.pv)) ∧ s.h (.slot 32 1) = some (0, .arr 3 (o'.map Cl.pv)) ∧ s.h (.slot 103 0) = none) ?_ ?_
        · exact ⟨by simp -implicitDefEqProofs (disch := omega) only [h6, go_sem, ↓reduceIte, Nat.reduceAdd, Nat.reduceSub, Nat.reduceEqDiff, Nat.reduceLeDiff, reduceCtorEq], by simp -implicitDefEqProofs (disch := omega) only [h7, go_sem, ↓reduceIte, Nat.reduceAdd, Nat.reduceSub, Nat.reduceEqDiff, Nat.reduceLeDiff, reduceCtorEq], by simp -implicitDefEqProofs (disch := omega) only [h8, go_sem, ↓reduceIte, Nat.reduceAdd, Nat.reduceSub, Nat.reduceEqDiff, Nat.reduceLeDiff, reduceCtorEq], by simp -implicitDefEqProofs (disch := omega) only [go_sem, ↓reduceIte, Nat.reduceAdd, Nat.reduceSub, Nat.reduceEqDiff, Nat.reduceLeDiff, reduceCtorEq], by simp -implicitDefEqProofs (disch := omega) only [go_sem, ↓reduceIte, Nat.reduceAdd, Nat.reduceSub, Nat.reduceEqDiff, Nat.reduceLeDiff, reduceCtorEq], by simp -implicitDefEqProofs (disch := omega) only [go_sem, ↓reduceIte, Nat.reduceAdd, Nat.reduceSub, Nat.reduceEqDiff, Nat.reduceLeDiff, reduceCtorEq], by simp -implicitDefEqProofs (disch := omega) only [go_sem, ↓reduceIte, Nat.reduceAdd, Nat.reduceSub, Nat.reduceEqDiff, Nat.reduceLeDiff, reduceCtorEq], rfl, by simp -implicitDefEqProofs (disch := omega) only [hh6, go_sem, ↓reduceIte, Nat.reduceAdd, Nat.reduceSub, Nat.reduceEqDiff, Nat.reduceLeDiff, reduceCtorEq], by simp -implicitDefEqProofs (disch := omega) only [hh29, go_sem, ↓reduceIte, Nat.reduceAdd, Nat.reduceSub, Nat.reduceEqDiff, Nat.reduceLeDiff, reduceCtorEq], by simp -implicitDefEqProofs (disch := omega) only [hh32, go_sem, ↓reduceIte, Nat.reduceAdd, Nat.reduceSub, Nat.reduceEqDiff, Nat.reduceLeDiff, reduceCtorEq], by simp -implicitDefEqProofs (disch := omega) only [hh103, go_sem, ↓reduceIte, Nat.reduceAdd, Nat.reduceSub, Nat.reduceEqDiff, Nat.reduceLeDiff, reduceCtorEq]⟩
        · rintro k s hk ⟨h6, h7, h8, h10, h11, h14, h84, h85, hh6, hh29, hh32, hh103⟩
          simp -implicitDefEqProofs (disch := omega) only [h6, h7, h8, h10, h11, h14, h84, h85, hh6, hh29, hh32, hh103, go_sem, ↓reduceIte, Nat.reduceAdd, Nat.reduceSub, Nat.reduceEqDiff, Nat.reduceLeDiff, reduceCtorEq]
          refine wp_if_d (fun hlt => ?_) (fun hge => ?_)
          · have hm : t.nodes[k]? = some t.nodes[k] := List.getElem?_eq_getElem hlt
            generalize t.nodes[k] = m at hm
            have ca := cApply_eq t o' m.id (use.tmod 10001) hok.fits (by omega)
            rw [open_apply hook' hall' hm u0 (by omega)] at ca
            have hto : List.take o.length (o'.map Cl.pv) = o'.map Cl.pv := List.take_of_length_le (by simp; omega)
            simp -implicitDefEqProofs (disch := omega) only [h6, h7, h8, h10, h11, h14, h84, h85, hh6, hh29, hh32, hh103, hlt, hm, ca, hto, go_sem, ↓reduceIte, Nat.reduceAdd, Nat.reduceSub, Nat.reduceEqDiff, Nat.reduceLeDiff, reduceCtorEq]
            rfl
          · simp -implicitDefEqProofs (disch := omega) only [h6, h7, h8, h10, h11, h14, h84, h85, hh6, hh29, hh32, hh103, hge, hc0, Int.toNat_zero, splice, setCells, List.getElem?_set_self, List.set_set, go_sem, ↓reduceIte, Nat.reduceAdd, Nat.reduceSub, Nat.reduceEqDiff, Nat.reduceLeDiff, reduceCtorEq]
            refine wp_count t.nodes.length (fun k s => s.pe 6 = .ptr (.slot 6 0) 0 0 ∧ s.pe 10 = .p (.int .i64 (use.tmod 10001)) ∧ s.pe 11 = .p (.int .i64 len1) ∧ s.pe 14 = .p (.int .i64 len2) ∧ s.pe 17 = .own (.slot 103 0) 1 0 l.length ∧ s.pe 111 = .p (.int .i64 t.nodes.length) ∧ s.pe 112 = .p (.int .i64 k) ∧ s.h (.slot 6 0) = some (0, .box [.p (nodesP t.nodes), .p (.int .i64 t.next)]) ∧ s.h (.slot 103 0) = some (1, .arr 3 ((l.set 0 ⟨r0.group, r0.min, 0⟩).map Cl.pv))) ?_ ?_
            · exact ⟨by simp -implicitDefEqProofs (disch := omega) only [h6, go_sem, ↓reduceIte, Nat.reduceAdd, Nat.reduceSub, Nat.reduceEqDiff, Nat.reduceLeDiff, reduceCtorEq], by simp -implicitDefEqProofs (disch := omega) only [h10, go_sem, ↓reduceIte, Nat.reduceAdd, Nat.reduceSub, Nat.reduceEqDiff, Nat.reduceLeDiff, reduceCtorEq], by simp -implicitDefEqProofs (disch := omega) only [h11, go_sem, ↓reduceIte, Nat.reduceAdd, Nat.reduceSub, Nat.reduceEqDiff, Nat.reduceLeDiff, reduceCtorEq], by simp -implicitDefEqProofs (disch := omega) only [h14, go_sem, ↓reduceIte, Nat.reduceAdd, Nat.reduceSub, Nat.reduceEqDiff, Nat.reduceLeDiff, reduceCtorEq], by simp -implicitDefEqProofs (disch := omega) only [go_sem, ↓reduceIte, Nat.reduceAdd, Nat.reduceSub, Nat.reduceEqDiff, Nat.reduceLeDiff, reduceCtorEq], by simp -implicitDefEqProofs (disch := omega) only [go_sem, ↓reduceIte, Nat.reduceAdd, Nat.reduceSub, Nat.reduceEqDiff, Nat.reduceLeDiff, reduceCtorEq], rfl, by simp -implicitDefEqProofs (disch := omega) only [hh6, go_sem, ↓reduceIte, Nat.reduceAdd, Nat.reduceSub, Nat.reduceEqDiff, Nat.reduceLeDiff, reduceCtorEq], by simp -implicitDefEqProofs (disch := omega) only [go_sem, ↓reduceIte, Nat.reduceAdd, Nat.reduceSub, Nat.reduceEqDiff, Nat.reduceLeDiff, reduceCtorEq]⟩
            · rintro k s hk ⟨h6, h10, h11, h14, h17, h111, h112, hh6, hh103⟩
              simp -implicitDefEqProofs (disch := omega) only [h6, h10, h11, h14, h17, h111, h112, hh6, hh103, go_sem, ↓reduceIte, Nat.reduceAdd, Nat.reduceSub, Nat.reduceEqDiff, Nat.reduceLeDiff, reduceCtorEq]
              refine wp_if_d (fun hlt => ?_) (fun hge => ?_)
              · have hm : t.nodes[k]? = some t.nodes[k] := List.getElem?_eq_getElem hlt
                generalize t.nodes[k] = m at hm
                have ca := cApply_eq t (l.set 0 ⟨r0.group, r0.min, 0⟩) m.id (use.tmod 10001) hok.fits (by omega)
                rw [shut_apply hsok hs0 hm] at ca
                have hto : List.take l.length ((l.set 0 ⟨r0.group, r0.min, 0⟩).map Cl.pv) = (l.set 0 ⟨r0.group, r0.min, 0⟩).map Cl.pv := List.take_of_length_le (by simp)
                have cb := ranc_eq t m.id (by omega)
                have hp : ¬ ((ancR t m.id).length : Int) = 0 := by have := ancR_pos hok hm; omega
                simp -implicitDefEqProofs (disch := omega) only [h6, h10, h11, h14, h17, h111, h112, hh6, hh103, hlt, hm, ca, cb, hto, hp, go_sem, ↓reduceIte, Nat.reduceAdd, Nat.reduceSub, Nat.reduceEqDiff, Nat.reduceLeDiff, reduceCtorEq]
                rfl
              · by_cases hp : (0 : Int) < len1
                · simp -implicitDefEqProofs (disch := omega) only [h6, h10, h11, h14, h17, h111, h112, hh6, hh103, hge, hp, sane_eq, go_sem, ↓reduceIte, Nat.reduceAdd, Nat.reduceSub, Nat.reduceEqDiff, Nat.reduceLeDiff, reduceCtorEq]
                · have hz : (len2 : Int) = 0 := by omega
                  simp -implicitDefEqProofs (disch := omega) only [h6, h10, h11, h14, h17, h111, h112, hh6, hh103, hge, hp, hz, sane_eq, go_sem, ↓reduceIte, Nat.reduceAdd, Nat.reduceSub, Nat.reduceEqDiff, Nat.reduceLeDiff, reduceCtorEq]
  · rw [decide_eq_false hL] at hli
    simp -implicitDefEqProofs (disch := omega) only [vf5, vb5, hli, sane_eq, go_sem, ↓reduceIte, Nat.reduceAdd, Nat.reduceSub, Nat.reduceEqDiff, Nat.reduceLeDiff, reduceCtorEq]
end Go.V
