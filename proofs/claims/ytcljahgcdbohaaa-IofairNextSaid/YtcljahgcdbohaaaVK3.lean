/- The value machine V at work: the check of charges. -/
import Derived.Test.YtcljahgcdbohaaaVK1
set_option linter.unusedSimpArgs false
set_option linter.unusedVariables false
namespace Go.V

def validK (t : Tr) (l : List Ch) : Bool := treeOk t && chOk t.nodes none 0 l

set_option maxHeartbeats 1000000 in
theorem kvalid_eq (t : Tr) (l : List Ch) (hf : t.Fits) (hn : t.nodes.length < 1000000) (hl : l.length < 1000000) : V 96 [t.vv, .agg [.p (chsP l)]] [] = some (.p (.bool (validK t l)), []) := by
  refine V_wp (vf := vf96) rfl ?_
  have hc := tcheck_eq t hf hn
  unfold validK
  cases ht : treeOk t with
  | false =>
    rw [ht] at hc
    simp -implicitDefEqProofs (disch := omega) only [vf96, vb96, hc, Bool.false_and, go_sem, ↓reduceIte, Nat.reduceAdd, Nat.reduceSub, Nat.reduceEqDiff, Nat.reduceLeDiff, reduceCtorEq]
  | true =>
    rw [ht] at hc
    simp -implicitDefEqProofs (disch := omega) only [vf96, vb96, hc, go_sem, ↓reduceIte, Nat.reduceAdd, Nat.reduceSub, Nat.reduceEqDiff, Nat.reduceLeDiff, reduceCtorEq]
    rw [Bool.true_and]
    refine wp_count l.length (fun k s => ∃ (p : Option Int) (q : Int), chOk t.nodes none 0 l = chOk t.nodes p q (l.drop k) ∧ (k = 0 → p = none) ∧ (∀ j, k = j + 1 → ∃ c, l[j]? = some c ∧ p = some c.group) ∧ 0 ≤ q ∧ q ≤ 16777216 ∧ s.pe 2 = .ptr (.slot 2 0) 0 0 ∧ s.pe 3 = .ptr (.slot 3 0) 0 0 ∧ s.pe 5 = .p (.int .i64 q) ∧ s.pe 14 = .p (chsP l) ∧ s.pe 15 = .p (.int .i64 l.length) ∧ s.pe 16 = .p (.int .i64 k) ∧ s.h (.slot 2 0) = some (0, .box [.p (nodesP t.nodes), .p (.int .i64 t.next)]) ∧ s.h (.slot 3 0) = some (0, .box [.p (chsP l)])) ?_ ?_
    · exact ⟨none, 0, rfl, fun _ => rfl, fun j hj => by omega, by omega, by omega, rfl, rfl, rfl, rfl, rfl, rfl, rfl, rfl⟩
    · rintro k s hk ⟨p, q, hq, hp0, hp1, q0, q1, h2, h3, h5, h14, h15, h16, hh2, hh3⟩
      simp -implicitDefEqProofs (disch := omega) only [h2, h3, h5, h14, h15, h16, hh2, hh3, go_sem, ↓reduceIte, Nat.reduceAdd, Nat.reduceSub, Nat.reduceEqDiff, Nat.reduceLeDiff, reduceCtorEq]
      refine wp_if_d (fun hlt => ?_) (fun hge => ?_)
      · have hm : l[k]? = some l[k] := List.getElem?_eq_getElem hlt
        have hd : l.drop k = l[k] :: l.drop (k + 1) := List.drop_eq_getElem_cons hlt
        generalize l[k] = c at hm hd
        have hfi := ffind_eq t c.group hn
        rw [hd, chOk_cons] at hq
        cases hfs : (findN t.nodes c.group).isSome with
        | false =>
          rw [hfs] at hfi
          simp only [hfs, Bool.false_and] at hq
          generalize (findN t.nodes c.group).getD zeroNd = nd at hfi
          simp -implicitDefEqProofs (disch := omega) only [h2, h3, h5, h14, h15, h16, hh2, hh3, hlt, hm, hfi, Nd.vv, hq, go_sem, ↓reduceIte, Nat.reduceAdd, Nat.reduceSub, Nat.reduceEqDiff, Nat.reduceLeDiff, reduceCtorEq]
        | true =>
          rw [hfs] at hfi
          generalize (findN t.nodes c.group).getD zeroNd = nd at hfi
          have hfin : ∀ (hpc : prevOk p c.group = true) (ho1 : ¬ c.own < 1) (ho2 : ¬ 16777216 - q < c.own), chOk t.nodes none 0 l = chOk t.nodes (some c.group) (q + c.own) (l.drop (k + 1)) := by
            intro hpc ho1 ho2
            rw [hq, hfs, hpc, decide_eq_true (show 1 ≤ c.own by omega), decide_eq_true (show c.own ≤ 16777216 - q by omega)]
            rfl
          have hbad : ∀ (hb : prevOk p c.group = false ∨ c.own < 1 ∨ 16777216 - q < c.own), chOk t.nodes none 0 l = false := by
            rintro (hb | hb | hb)
            · rw [hq, hb]; simp
            · rw [hq, decide_eq_false (show ¬ 1 ≤ c.own by omega)]; simp
            · rw [hq, decide_eq_false (show ¬ c.own ≤ 16777216 - q by omega)]; simp
          have hnx : ∀ j, k + 1 = j + 1 → ∃ c', l[j]? = some c' ∧ some c.group = some c'.group := fun j hj => ⟨c, by rw [show j = k by omega]; exact hm, rfl⟩
          by_cases ho1 : c.own < 1
          · have hb := hbad (Or.inr (Or.inl ho1))
            by_cases hk0 : (0 : Int) < k
            · obtain ⟨e, he, hpe⟩ := hp1 (k - 1) (by omega)
              have he' : l[((k : Int) - 1).toNat]? = some e := by rw [show ((k : Int) - 1).toNat = k - 1 by omega]; exact he
              have hk1 : (0 : Int) ≤ (k : Int) - 1 := by omega
              by_cases hle : c.group ≤ e.group
              · simp -implicitDefEqProofs (disch := omega) only [h2, h3, h5, h14, h15, h16, hh2, hh3, hlt, hm, hfi, Nd.vv, hk0, hk1, he', hle, hb, go_sem, ↓reduceIte, Nat.reduceAdd, Nat.reduceSub, Nat.reduceEqDiff, Nat.reduceLeDiff, reduceCtorEq]
              · simp -implicitDefEqProofs (disch := omega) only [h2, h3, h5, h14, h15, h16, hh2, hh3, hlt, hm, hfi, Nd.vv, hk0, hk1, he', hle, ho1, hb, go_sem, ↓reduceIte, Nat.reduceAdd, Nat.reduceSub, Nat.reduceEqDiff, Nat.reduceLeDiff, reduceCtorEq]
            · simp -implicitDefEqProofs (disch := omega) only [h2, h3, h5, h14, h15, h16, hh2, hh3, hlt, hm, hfi, Nd.vv, hk0, ho1, hb, go_sem, ↓reduceIte, Nat.reduceAdd, Nat.reduceSub, Nat.reduceEqDiff, Nat.reduceLeDiff, reduceCtorEq]
          · by_cases ho2 : 16777216 - q < c.own
            · have hb := hbad (Or.inr (Or.inr ho2))
              by_cases hk0 : (0 : Int) < k
              · obtain ⟨e, he, hpe⟩ := hp1 (k - 1) (by omega)
                have he' : l[((k : Int) - 1).toNat]? = some e := by rw [show ((k : Int) - 1).toNat = k - 1 by omega]; exact he
                have hk1 : (0 : Int) ≤ (k : Int) - 1 := by omega
                by_cases hle : c.group ≤ e.group
                · simp -implicitDefEqProofs (disch := omega) only [h2, h3, h5, h14, h15, h16, hh2, hh3, hlt, hm, hfi, Nd.vv, hk0, hk1, he', hle, hb, go_sem, ↓reduceIte, Nat.reduceAdd, Nat.reduceSub, Nat.reduceEqDiff, Nat.reduceLeDiff, reduceCtorEq]
                · simp -implicitDefEqProofs (disch := omega) only [h2, h3, h5, h14, h15, h16, hh2, hh3, hlt, hm, hfi, Nd.vv, hk0, hk1, he', hle, ho1, ho2, hb, go_sem, ↓reduceIte, Nat.reduceAdd, Nat.reduceSub, Nat.reduceEqDiff, Nat.reduceLeDiff, reduceCtorEq]
              · simp -implicitDefEqProofs (disch := omega) only [h2, h3, h5, h14, h15, h16, hh2, hh3, hlt, hm, hfi, Nd.vv, hk0, ho1, ho2, hb, go_sem, ↓reduceIte, Nat.reduceAdd, Nat.reduceSub, Nat.reduceEqDiff, Nat.reduceLeDiff, reduceCtorEq]
            · by_cases hk0 : (0 : Int) < k
              · obtain ⟨e, he, hpe⟩ := hp1 (k - 1) (by omega)
                have he' : l[((k : Int) - 1).toNat]? = some e := by rw [show ((k : Int) - 1).toNat = k - 1 by omega]; exact he
                have hk1 : (0 : Int) ≤ (k : Int) - 1 := by omega
                subst hpe
                by_cases hle : c.group ≤ e.group
                · have hb := hbad (Or.inl (decide_eq_false (by omega)))
                  simp -implicitDefEqProofs (disch := omega) only [h2, h3, h5, h14, h15, h16, hh2, hh3, hlt, hm, hfi, Nd.vv, hk0, hk1, he', hle, hb, go_sem, ↓reduceIte, Nat.reduceAdd, Nat.reduceSub, Nat.reduceEqDiff, Nat.reduceLeDiff, reduceCtorEq]
                · have hg := hfin (decide_eq_true (by omega)) ho1 ho2
                  simp -implicitDefEqProofs (disch := omega) only [h2, h3, h5, h14, h15, h16, hh2, hh3, hlt, hm, hfi, Nd.vv, hk0, hk1, he', hle, ho1, ho2, go_sem, ↓reduceIte, Nat.reduceAdd, Nat.reduceSub, Nat.reduceEqDiff, Nat.reduceLeDiff, reduceCtorEq]
                  exact ⟨some c.group, q + c.own, hg, by simp, fun j hj => ⟨c, hj ▸ hm, rfl⟩, by omega, by omega, rfl, rfl⟩
              · have hpn := hp0 (by omega)
                subst hpn
                have hg := hfin rfl ho1 ho2
                simp -implicitDefEqProofs (disch := omega) only [h2, h3, h5, h14, h15, h16, hh2, hh3, hlt, hm, hfi, Nd.vv, hk0, ho1, ho2, go_sem, ↓reduceIte, Nat.reduceAdd, Nat.reduceSub, Nat.reduceEqDiff, Nat.reduceLeDiff, reduceCtorEq]
                exact ⟨some c.group, q + c.own, hg, by simp, fun j hj => ⟨c, hj ▸ hm, rfl⟩, by omega, by omega, rfl, rfl⟩
      · rw [List.drop_of_length_le (by omega), chOk_nil] at hq
        simp -implicitDefEqProofs (disch := omega) only [h2, h3, h5, h14, h15, h16, hh2, hh3, hge, hq, go_sem, ↓reduceIte, Nat.reduceAdd, Nat.reduceSub, Nat.reduceEqDiff, Nat.reduceLeDiff, reduceCtorEq]
end Go.V

