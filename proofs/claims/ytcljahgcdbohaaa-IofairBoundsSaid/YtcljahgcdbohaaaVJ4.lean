/- The law IofairBounds in the value machine. -/
import Derived.Test.YtcljahgcdbohaaaVI5
set_option linter.unusedSimpArgs false
set_option linter.unusedVariables false
namespace Go.V
-- closer: sumI

/-- What holds behind any requests: what was issued is paid for. -/
structure BInv (S M st now sum last v : Int) (a : List Ch) : Prop where
  form : (a = [] ∧ v = 0 ∧ sum = 0) ∨ (a = [⟨2, v⟩] ∧ sum * 1073741824 ≤ S * (v - max (st - M) 0))
  done : (sum - last) * 1073741824 ≤ S * (now - max (st - M) 0)

theorem BInv.later {S M st now sum last v : Int} {a : List Ch} (h : BInv S M st now sum last v a) (hS : 0 ≤ S) {now' : Int} (hn : now ≤ now') : BInv S M st now' sum last v a :=
  ⟨h.form, by
    have := h.done
    have h2 : S * (now - max (st - M) 0) ≤ S * (now' - max (st - M) 0) := Int.mul_le_mul_of_nonneg_left (by omega) hS
    omega⟩

theorem BInv.issue {S M st now sum last v : Int} {a : List Ch} (h : BInv S M st now sum last v a) (hS : 1 ≤ S) (hM : 0 ≤ M) (hst : 0 ≤ st) (hnow : st ≤ now) (hv : v ≤ now) (n : Int) :
    BInv S M st now (sum + n) n (max (max v (now - M)) 0 + (n * 1073741824 + S - 1) / S) [⟨2, max (max v (now - M)) 0 + (n * 1073741824 + S - 1) / S⟩] := by
  have hz := Int.lt_mul_ediv_self_add (x := n * 1073741824 + S - 1) (k := S) (by omega)
  generalize (n * 1073741824 + S - 1) / S = z at hz
  generalize hb : max (st - M) 0 = base
  generalize hu : max (max v (now - M)) 0 = u
  have f := h.form
  rw [hb] at f
  have key : sum * 1073741824 ≤ S * (u - base) ∧ sum * 1073741824 ≤ S * (now - base) := by
    rcases f with ⟨_, _, h0⟩ | ⟨_, h1⟩
    · have e1 : 0 ≤ S * (u - base) := Int.mul_nonneg (by omega) (by omega)
      have e2 : 0 ≤ S * (now - base) := Int.mul_nonneg (by omega) (by omega)
      omega
    · have e1 : S * (v - base) ≤ S * (u - base) := Int.mul_le_mul_of_nonneg_left (by omega) (by omega)
      have e2 : S * (v - base) ≤ S * (now - base) := Int.mul_le_mul_of_nonneg_left (by omega) (by omega)
      omega
  refine ⟨Or.inr ⟨rfl, ?_⟩, ?_⟩
  · rw [hb, show u + z - base = (u - base) + z by omega, Int.mul_add]
    omega
  · rw [hb]
    omega

theorem BInv.check {S M st now sum last v : Int} {a : List Ch} (h : BInv S M st now sum last v a) (hS : 0 ≤ S) : ¬ S * (now - st + M) < (sum - last) * 1073741824 := by
  have := h.done
  have h2 : S * (now - max (st - M) 0) ≤ S * (now - st + M) := Int.mul_le_mul_of_nonneg_left (by omega) hS
  omega

theorem BInv.own {S M st now sum last v : Int} {a : List Ch} (h : BInv S M st now sum last v a) : ownC a 2 = v := by
  rcases h.form with ⟨rfl, rfl, _⟩ | ⟨rfl, _⟩
  · rfl
  · simp [ownC]
theorem BInv.put {S M st now sum last v : Int} {a : List Ch} (h : BInv S M st now sum last v a) (x : Int) : putA a 2 x = [⟨2, x⟩] := by
  rcases h.form with ⟨rfl, rfl, _⟩ | ⟨rfl, _⟩
  · rfl
  · rfl
theorem BInv.check2 {S M st now sum last v : Int} {a : List Ch} (h : BInv S M st now sum last v a) (h0 : 0 ≤ v) (h1 : v ≤ 1152921504606846976) : checkA pairT a = true := by
  unfold checkA
  rw [(treeOk_iff _).2 pairT_ok, Bool.true_and]
  rcases h.form with ⟨rfl, rfl, _⟩ | ⟨rfl, _⟩
  · rfl
  · have hk : knownN pairT.nodes 2 = true := rfl
    simp only [ascOk, hk, prevOk, Bool.true_and, Bool.and_true]
    exact decide_eq_true ⟨h0, h1⟩
theorem BInv.len {S M st now sum last v : Int} {a : List Ch} (h : BInv S M st now sum last v a) : a.length ≤ 1 := by
  rcases h.form with ⟨rfl, _⟩ | ⟨rfl, _⟩ <;> simp

theorem ne11b : ¬ ((11 : Int) = 0) := by decide

set_option maxHeartbeats 8000000 in
theorem iofairBounds_eq (L : List Int) : V 11 [.p (intsP L)] [] = some (.p (.bool true), []) := by
  refine V_wp (vf := vf11) rfl ?_
  have hli := light_eq (L.map (PV.int .i64))
  rw [List.length_map] at hli
  by_cases hL : L.length ≤ 600
  · rw [decide_eq_true hL] at hli
    have hro := roll_eq L
    have hpa := pair_eq
    have p1 : V 48 [.ptr (.arg 0 0) 0 0, .p (intsP [1073741824, 536870912, 268435456, 107374182, 1000])] [.box [.p (intsP L), .p (.int .i64 0)]] = some (.p (.int .i64 (pickV L 0 [1073741824, 536870912, 268435456, 107374182, 1000])), [diceB L (nextA L 0 5)]) := pick_eq L 0 _ (by omega) (by simp) (by simp)
    have m1 := pickV_mem L 0 (xs := [1073741824, 536870912, 268435456, 107374182, 1000]) (by simp)
    generalize pickV L 0 [1073741824, 536870912, 268435456, 107374182, 1000] = S at p1 m1
    generalize nextA L 0 5 = a1 at p1
    have p2 : V 48 [.ptr (.arg 0 0) 0 0, .p (intsP [0, 10, 200])] [diceB L a1] = some (.p (.int .i64 (pickV L a1 [0, 10, 200])), [diceB L (nextA L a1 3)]) := pick_eq L a1 _ (by omega) (by simp) (by simp)
    have m2 := pickV_mem L a1 (xs := [0, 10, 200]) (by simp)
    generalize pickV L a1 [0, 10, 200] = M at p2 m2
    generalize nextA L a1 3 = a2 at p2
    simp only [intsP, List.map_cons, List.map_nil] at p1 p2
    have hS : 1000 ≤ S ∧ S ≤ 1073741824 := by
      simp at m1
      omega
    have hM : 0 ≤ M ∧ M ≤ 200 := by
      simp at m2
      omega
    have p3 := next_eq L a2 300 (by omega) (by omega)
    have st0 := nextV_nonneg L a2 300
    have st1 := nextV_lt L a2 (n := 300) (by omega)
    generalize nextV L a2 300 = st at p3 st0 st1
    generalize nextA L a2 300 = a3 at p3
    have hinit : BInv S M st st 0 0 0 [] := ⟨Or.inl ⟨rfl, rfl, rfl⟩, by
      have : 0 ≤ S * (st - max (st - M) 0) := Int.mul_nonneg (by omega) (by omega)
      omega⟩
    simp -implicitDefEqProofs (disch := omega) only [vf11, vb11, hli, hro, hpa, p1, p2, p3, go_sem, ↓reduceIte, Nat.reduceAdd, Nat.reduceSub, Nat.reduceEqDiff, Nat.reduceLeDiff, reduceCtorEq]
    obtain ⟨I, hI⟩ : ∃ I : Nat → St → Prop, ∀ k s, I k s ↔ ∃ (b : Nat) (now : Int) (sum : Int) (last : Int) (v : Int) (a : List Ch), BInv S M st now sum last v a ∧ (st ≤ now ∧ now ≤ st + 40 * k) ∧ (0 ≤ last ∧ last ≤ sum ∧ sum ≤ 30 * k) ∧ (0 ≤ v ∧ v ≤ 1152921504606846976) ∧ s.pe 3 = .ptr (.slot 21 1) 0 0 ∧ s.pe 4 = .ptr (.slot 4 0) 0 0 ∧ s.pe 5 = .p (.int .i64 S) ∧ s.pe 6 = .p (.int .i64 M) ∧ s.pe 7 = .p (.int .i64 st) ∧ s.pe 8 = .p (.int .i64 now) ∧ s.pe 9 = .p (.int .i64 sum) ∧ s.pe 10 = .p (.int .i64 last) ∧ s.pe 12 = .p (.int .i64 k) ∧ s.h (.slot 4 0) = some (0, Ob.box [.own (.slot 22 1) 0 0 pairT.nodes.length, .p (.int .i64 pairT.next)]) ∧ s.h (.slot 21 1) = some (0, diceB L b) ∧ s.h (.slot 22 1) = some (0, Ob.arr 6 (List.map Nd.pv pairT.nodes)) ∧ fz1 [11, 50] s.h (s.pe 11) = .p (chsP a) := ⟨_, fun _ _ => Iff.rfl⟩
    refine wp_count (25) I ?_ ?_
    · refine (hI _ _).2 ⟨a3, st, 0, 0, 0, [], ?_, ?_, ?_, ?_, ?_, ?_, ?_, ?_, ?_, ?_, ?_, ?_, ?_, ?_, ?_, ?_, ?_⟩
      · exact hinit
      · exact by first | rfl | omega | (simp; done) | (simp; omega)
      · exact by first | rfl | omega | (simp; done) | (simp; omega)
      · exact by first | rfl | omega | (simp; done) | (simp; omega)
      all_goals first | with_reducible rfl | (simp -implicitDefEqProofs (disch := omega) only [List.map_append, go_sem, ↓reduceIte, Nat.reduceAdd, Nat.reduceSub, Nat.reduceEqDiff, Nat.reduceLeDiff, reduceCtorEq]; done) | (simp -implicitDefEqProofs (disch := omega) only [List.map_append, go_sem, ↓reduceIte, Nat.reduceAdd, Nat.reduceSub, Nat.reduceEqDiff, Nat.reduceLeDiff, reduceCtorEq]; first | rfl | (simp; done) | (congr 2; omega) | (congr 1; omega) | (congr 3; omega) | (simp; omega) | (congr 2; simp; omega) | (simp [sumI]; done) | (simp [sumI]; omega)) | rfl | omega | (congr 2; omega) | (simp -implicitDefEqProofs (disch := omega) only [List.map_append, go_sem, ↓reduceIte, Nat.reduceAdd, Nat.reduceSub, Nat.reduceEqDiff, Nat.reduceLeDiff, reduceCtorEq]; refine ⟨_, rfl, ?_⟩; first | (simp -implicitDefEqProofs (disch := omega) only [List.map_append, go_sem, ↓reduceIte, Nat.reduceAdd, Nat.reduceSub, Nat.reduceEqDiff, Nat.reduceLeDiff, reduceCtorEq]; done) | rfl) | (refine ⟨_, by simp -implicitDefEqProofs (disch := omega) only [List.map_append, go_sem, ↓reduceIte, Nat.reduceAdd, Nat.reduceSub, Nat.reduceEqDiff, Nat.reduceLeDiff, reduceCtorEq], ?_⟩; first | (simp -implicitDefEqProofs (disch := omega) only [List.map_append, go_sem, ↓reduceIte, Nat.reduceAdd, Nat.reduceSub, Nat.reduceEqDiff, Nat.reduceLeDiff, reduceCtorEq]; done) | rfl)
    intro k s hk hIk
    obtain ⟨b, now, sum, last, v, a, hB, hnow, hsum, hv0, h3, h4, h5, h6, h7, h8, h9, h10, h12, hh4_0, hh21_1, hh22_1, hX⟩ := (hI _ _).1 hIk
    clear hIk
    have hal := hB.len
    simp -implicitDefEqProofs (disch := omega) only [h3, h4, h5, h6, h7, h8, h9, h10, h12, hh4_0, hh21_1, hh22_1, hX, go_sem, ↓reduceIte, Nat.reduceAdd, Nat.reduceSub, Nat.reduceEqDiff, Nat.reduceLeDiff, reduceCtorEq]
    refine wp_if_d (fun hlt => ?_) (fun hge => ?_)
    · have d1 := next_eq L b 40 (by omega) (by omega)
      have x0 := nextV_nonneg L b 40
      have x1 := nextV_lt L b (n := 40) (by omega)
      generalize nextV L b 40 = dn at d1 x0 x1
      generalize nextA L b 40 = b1 at d1
      have d2 := next_eq L b1 30 (by omega) (by omega)
      have y0 := nextV_nonneg L b1 30
      have y1 := nextV_lt L b1 (n := 30) (by omega)
      generalize nextV L b1 30 = n0 at d2 y0 y1
      generalize nextA L b1 30 = b2 at d2
      have hB' := hB.later (by omega) (show now ≤ now + dn by omega)
      have d3 := issue_eq pairT a 2 S (1 + n0) (now + dn) M pairT_ok.fits (by decide) (by omega)
      have d4 := may_eq pairT a 2 (now + dn) pairT_ok.fits (by decide) (by omega)
      have hck := hB.check2 hv0.1 hv0.2
      have hkn : knownN pairT.nodes 2 = true := rfl
      have hown := hB.own
      unfold IssueA at d3
      rw [if_pos hck, if_pos hkn, if_pos ⟨⟨by omega, by omega⟩, ⟨by omega, by omega⟩, ⟨by omega, by omega⟩, ⟨by omega, by omega⟩⟩, issueV, hown, hB.put] at d3
      unfold mayA at d4
      rw [hck, hkn, hown, Bool.true_and, Bool.true_and] at d4
      have hwr : ∀ q : Int, st ≤ q → q ≤ st + 2000 → IntKind.i64.wrap (S * (q - st + M)) = S * (q - st + M) := fun q hq1 hq2 => by
        have e1 : 0 ≤ S * (q - st + M) := Int.mul_nonneg (by omega) (by omega)
        have e2 : S * (q - st + M) ≤ 1073741824 * 2200 := Int.mul_le_mul hS.2 (by omega) (by omega) (by omega)
        exact wrap64 (by omega) (by omega)
      have hw1 := hwr (now + dn) (by omega) (by omega)
      by_cases hv : v ≤ now + dn
      · have hnv : ¬ (now + dn < v) := by omega
        have hB2 := hB'.issue (by omega) hM.1 st0 (by omega) hv (1 + n0)
        have hnn : 0 ≤ (1 + n0) * 1073741824 + S - 1 := by omega
        have hq1 : ((1 + n0) * 1073741824 + S - 1) / S ≤ (1 + n0) * 1073741824 + S - 1 := Int.ediv_le_self _ hnn
        have hq0 : 0 ≤ ((1 + n0) * 1073741824 + S - 1) / S := Int.ediv_nonneg hnn (by omega)
        generalize ((1 + n0) * 1073741824 + S - 1) / S = z at d3 hB2 hq0 hq1
        generalize hu : max (max v (now + dn - M)) 0 + z = v' at d3 hB2
        have hv' : 0 ≤ v' ∧ v' ≤ 1152921504606846976 := by omega
        rw [if_neg hnv, if_neg (by omega)] at d3
        rw [decide_eq_true hv] at d4
        have hc := hB2.check (by omega)
        simp only [List.map_cons, List.map_nil] at d3
        simp -implicitDefEqProofs (disch := omega) only [h3, h4, h5, h6, h7, h8, h9, h10, h12, hh4_0, hh21_1, hh22_1, hX, hlt, d1, d2, d3, d4, hw1, hc, go_sem, ↓reduceIte, Nat.reduceAdd, Nat.reduceSub, Nat.reduceEqDiff, Nat.reduceLeDiff, reduceCtorEq]
        try refine And.intro (by omega) ?_
        refine (hI _ _).2 ⟨b2, now + dn, sum + (1 + n0), 1 + n0, v', [⟨2, v'⟩], ?_, ?_, ?_, ?_, ?_, ?_, ?_, ?_, ?_, ?_, ?_, ?_, ?_, ?_, ?_, ?_, ?_⟩
        · exact hB2
        · exact by omega
        · exact by omega
        · exact hv'
        all_goals first | with_reducible rfl | (simp -implicitDefEqProofs (disch := omega) only [h3, h4, h5, h6, h7, h8, h9, h10, h12, hh4_0, hh21_1, hh22_1, hX, List.map_append, go_sem, ↓reduceIte, Nat.reduceAdd, Nat.reduceSub, Nat.reduceEqDiff, Nat.reduceLeDiff, reduceCtorEq]; done) | (simp -implicitDefEqProofs (disch := omega) only [h3, h4, h5, h6, h7, h8, h9, h10, h12, hh4_0, hh21_1, hh22_1, hX, List.map_append, go_sem, ↓reduceIte, Nat.reduceAdd, Nat.reduceSub, Nat.reduceEqDiff, Nat.reduceLeDiff, reduceCtorEq]; first | rfl | (simp; done) | (congr 2; omega) | (congr 1; omega) | (congr 3; omega) | (simp; omega) | (congr 2; simp; omega) | (simp [sumI]; done) | (simp [sumI]; omega)) | rfl | omega | (congr 2; omega) | (simp -implicitDefEqProofs (disch := omega) only [h3, h4, h5, h6, h7, h8, h9, h10, h12, hh4_0, hh21_1, hh22_1, hX, List.map_append, go_sem, ↓reduceIte, Nat.reduceAdd, Nat.reduceSub, Nat.reduceEqDiff, Nat.reduceLeDiff, reduceCtorEq]; refine ⟨_, rfl, ?_⟩; first | (simp -implicitDefEqProofs (disch := omega) only [h3, h4, h5, h6, h7, h8, h9, h10, h12, hh4_0, hh21_1, hh22_1, hX, List.map_append, go_sem, ↓reduceIte, Nat.reduceAdd, Nat.reduceSub, Nat.reduceEqDiff, Nat.reduceLeDiff, reduceCtorEq]; done) | rfl) | (refine ⟨_, by simp -implicitDefEqProofs (disch := omega) only [h3, h4, h5, h6, h7, h8, h9, h10, h12, hh4_0, hh21_1, hh22_1, hX, List.map_append, go_sem, ↓reduceIte, Nat.reduceAdd, Nat.reduceSub, Nat.reduceEqDiff, Nat.reduceLeDiff, reduceCtorEq], ?_⟩; first | (simp -implicitDefEqProofs (disch := omega) only [h3, h4, h5, h6, h7, h8, h9, h10, h12, hh4_0, hh21_1, hh22_1, hX, List.map_append, go_sem, ↓reduceIte, Nat.reduceAdd, Nat.reduceSub, Nat.reduceEqDiff, Nat.reduceLeDiff, reduceCtorEq]; done) | rfl)
      · have hnv : now + dn < v := by omega
        rw [if_pos hnv] at d3
        rw [decide_eq_false hv] at d4
        have hc := hB'.check (by omega)
        simp only [List.map_nil] at d3
        simp -implicitDefEqProofs (disch := omega) only [h3, h4, h5, h6, h7, h8, h9, h10, h12, hh4_0, hh21_1, hh22_1, hX, hlt, d1, d2, d3, d4, hw1, hc, ne11b, go_sem, ↓reduceIte, Nat.reduceAdd, Nat.reduceSub, Nat.reduceEqDiff, Nat.reduceLeDiff, reduceCtorEq]
        try refine And.intro (by omega) ?_
        refine (hI _ _).2 ⟨b2, now + dn, sum, last, v, a, ?_, ?_, ?_, ?_, ?_, ?_, ?_, ?_, ?_, ?_, ?_, ?_, ?_, ?_, ?_, ?_, ?_⟩
        · exact hB'
        · exact by omega
        · exact by omega
        · exact hv0
        all_goals first | with_reducible rfl | (simp -implicitDefEqProofs (disch := omega) only [h3, h4, h5, h6, h7, h8, h9, h10, h12, hh4_0, hh21_1, hh22_1, hX, List.map_append, go_sem, ↓reduceIte, Nat.reduceAdd, Nat.reduceSub, Nat.reduceEqDiff, Nat.reduceLeDiff, reduceCtorEq]; done) | (simp -implicitDefEqProofs (disch := omega) only [h3, h4, h5, h6, h7, h8, h9, h10, h12, hh4_0, hh21_1, hh22_1, hX, List.map_append, go_sem, ↓reduceIte, Nat.reduceAdd, Nat.reduceSub, Nat.reduceEqDiff, Nat.reduceLeDiff, reduceCtorEq]; first | rfl | (simp; done) | (congr 2; omega) | (congr 1; omega) | (congr 3; omega) | (simp; omega) | (congr 2; simp; omega) | (simp [sumI]; done) | (simp [sumI]; omega)) | rfl | omega | (congr 2; omega) | (simp -implicitDefEqProofs (disch := omega) only [h3, h4, h5, h6, h7, h8, h9, h10, h12, hh4_0, hh21_1, hh22_1, hX, List.map_append, go_sem, ↓reduceIte, Nat.reduceAdd, Nat.reduceSub, Nat.reduceEqDiff, Nat.reduceLeDiff, reduceCtorEq]; refine ⟨_, rfl, ?_⟩; first | (simp -implicitDefEqProofs (disch := omega) only [h3, h4, h5, h6, h7, h8, h9, h10, h12, hh4_0, hh21_1, hh22_1, hX, List.map_append, go_sem, ↓reduceIte, Nat.reduceAdd, Nat.reduceSub, Nat.reduceEqDiff, Nat.reduceLeDiff, reduceCtorEq]; done) | rfl) | (refine ⟨_, by simp -implicitDefEqProofs (disch := omega) only [h3, h4, h5, h6, h7, h8, h9, h10, h12, hh4_0, hh21_1, hh22_1, hX, List.map_append, go_sem, ↓reduceIte, Nat.reduceAdd, Nat.reduceSub, Nat.reduceEqDiff, Nat.reduceLeDiff, reduceCtorEq], ?_⟩; first | (simp -implicitDefEqProofs (disch := omega) only [h3, h4, h5, h6, h7, h8, h9, h10, h12, hh4_0, hh21_1, hh22_1, hX, List.map_append, go_sem, ↓reduceIte, Nat.reduceAdd, Nat.reduceSub, Nat.reduceEqDiff, Nat.reduceLeDiff, reduceCtorEq]; done) | rfl)
    · simp -implicitDefEqProofs (disch := omega) only [h3, h4, h5, h6, h7, h8, h9, h10, h12, hh4_0, hh21_1, hh22_1, hX, hge, sane32_eq, go_sem, ↓reduceIte, Nat.reduceAdd, Nat.reduceSub, Nat.reduceEqDiff, Nat.reduceLeDiff, reduceCtorEq]
  · rw [decide_eq_false hL] at hli
    simp -implicitDefEqProofs (disch := omega) only [vf11, vb11, hli, sane32_eq, go_sem, ↓reduceIte, Nat.reduceAdd, Nat.reduceSub, Nat.reduceEqDiff, Nat.reduceLeDiff, reduceCtorEq]
end Go.V

