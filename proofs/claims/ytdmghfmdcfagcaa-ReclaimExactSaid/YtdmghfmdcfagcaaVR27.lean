/- The value machine V at work: the reference's capacities and divisions. -/
import Derived.Test.YtdmghfmdcfagcaaVR26
set_option linter.unusedSimpArgs false
set_option linter.unusedVariables false
namespace Go.V

set_option maxHeartbeats 2000000 in
theorem rcap24_eq0 {t : Tr} (h : TreeOk t) {l : List Pt} (hl : l.length < 1000000) (hp : ∀ x ∈ l, PtOk x) : ∀ (k i : Nat) (n : Nd), t.nodes[i]? = some n → t.nodes.length ≤ i + k → V 52 [t.vv, .p (ptsP l), .p (.int .i64 n.id)] [] = some (.p (.int .i64 (capN t.nodes l k n.id)), []) := by
  intro k
  induction k with
  | zero => intro i n hn hk; have := (List.getElem?_eq_some_iff.1 hn).1; omega
  | succ k ih =>
    intro i n hn hk
    have hlen := h.len
    refine V_wp (vf := vf52) rfl ?_
    have hkd := rkids_eq t n.id (by omega)
    rw [kids_in h ⟨i, n, hn, rfl⟩] at hkd
    have hkl := kidsN_len t.nodes n.id
    have hkm : ∀ c ∈ kidsN t.nodes n.id, V 52 [t.vv, .p (ptsP l), .p (.int .i64 c)] [] = some (.p (.int .i64 (capN t.nodes l k c)), []) := by
      intro c hc
      obtain ⟨j, m, hj, hp, rfl⟩ := mem_kidsN.1 hc
      have hij := h.kid hn hj hp
      exact ih j m hj (by omega)
    rw [capN_succ, capF]
    have hx := partOf_ok hp n.id
    have hu0 := hx.u0; have hu1 := hx.u1; have hp0 := hx.p0; have hp1 := hx.p1; have ho0 := hx.o0; have ho1 := hx.o1; have hr0 := hx.r0; have hr1 := hx.r1
    clear hx
    have hpt := rpart_eq l n.id hl
    generalize partOf l n.id = x at hpt hu0 hu1 hp0 hp1 ho0 ho1 hr0 hr1
    generalize kidsN t.nodes n.id = ks at hkd hkl hkm
    simp only [Pt.vv] at hpt
    simp -implicitDefEqProofs (disch := omega) only [vf52, vb52, hkd, hpt, go_sem, ↓reduceIte, Nat.reduceAdd, Nat.reduceSub, Nat.reduceEqDiff, Nat.reduceLeDiff, reduceCtorEq]
    obtain ⟨J, hJ⟩ : ∃ I : Nat → St → Prop, ∀ j s, I j s ↔ ∃ (s0 : Int), s0 = x.own + sumI ((ks.take j).map (capN t.nodes l k)) ∧ 0 ≤ s0 ∧ s0 ≤ 16777216 * (j + 1) ∧ s.pe 1 = .p (ptsP l) ∧ s.pe 3 = .ptr (.slot 3 0) 0 0 ∧ s.pe 7 = .ptr (.slot 7 0) 0 0 ∧ s.pe 8 = .p (.int .i64 s0) ∧ s.pe 9 = .own (.slot 18 1) 0 0 ks.length ∧ s.pe 10 = .p (.int .i64 j) ∧ s.h (.slot 3 0) = some (0, Ob.box [.p (nodesP t.nodes), .p (.int .i64 t.next)]) ∧ s.h (.slot 7 0) = some (0, Ob.box [.p (.int .i64 x.group), .p (.int .i64 x.usage), .p (.int .i64 x.protect), .p (.int .i64 x.own), .p (.int .i64 x.room)]) ∧ s.h (.slot 18 1) = some (0, Ob.arr 1 (List.map (.int .i64) ks)) := ⟨_, fun _ _ => Iff.rfl⟩
    refine wp_count (ks.length) J ?_ ?_
    · refine (hJ _ _).2 ⟨x.own, ?_, ?_, ?_, ?_, ?_, ?_, ?_, ?_, ?_, ?_, ?_, ?_⟩
      · exact by simp [sumI]
      · exact by first | rfl | omega | (simp; done) | (simp; omega)
      · exact by first | rfl | omega | (simp; done) | (simp; omega)
      all_goals first | with_reducible rfl | (simp -implicitDefEqProofs (disch := omega) only [List.map_append, go_sem, ↓reduceIte, Nat.reduceAdd, Nat.reduceSub, Nat.reduceEqDiff, Nat.reduceLeDiff, reduceCtorEq]; first | done | rfl | (simp; done) | (congr 2; omega) | (congr 1; omega) | (congr 3; omega) | (simp; omega) | (congr 2; simp; omega) | (refine ⟨_, rfl, ?_⟩; first | rfl | (simp -implicitDefEqProofs (disch := omega) only [List.map_append, go_sem, ↓reduceIte, Nat.reduceAdd, Nat.reduceSub, Nat.reduceEqDiff, Nat.reduceLeDiff, reduceCtorEq]; done))) | rfl | omega | (congr 2; omega)
    intro j s hj hJk
    obtain ⟨s0, hs0, hs1, hs2, h1, h3, h7, h8, h9, h10, hh3_0, hh7_0, hh18_1⟩ := (hJ _ _).1 hJk
    clear hJk
    simp -implicitDefEqProofs (disch := omega) only [h1, h3, h7, h8, h9, h10, hh3_0, hh7_0, hh18_1, go_sem, ↓reduceIte, Nat.reduceAdd, Nat.reduceSub, Nat.reduceEqDiff, Nat.reduceLeDiff, reduceCtorEq]
    refine wp_if_d (fun hlt => ?_) (fun hge => ?_)
    · have hm : ks[j]? = some ks[j] := List.getElem?_eq_getElem hlt
      have htk := sumI_take_succ (f := capN t.nodes l k) hm
      generalize ks[j] = c at hm htk
      have hc := hkm c (List.mem_of_getElem? hm)
      have hb := capN_bound (ns := t.nodes) hp k c
      generalize capN t.nodes l k c = v at hc hb htk
      have hb0 := hb.1
      have hb1 := hb.2
      simp -implicitDefEqProofs (disch := omega) only [h1, h3, h7, h8, h9, h10, hh3_0, hh7_0, hh18_1, hlt, hm, hc, go_sem, ↓reduceIte, Nat.reduceAdd, Nat.reduceSub, Nat.reduceEqDiff, Nat.reduceLeDiff, reduceCtorEq]
      try refine And.intro (by omega) ?_
      refine (hJ _ _).2 ⟨s0 + v, ?_, ?_, ?_, ?_, ?_, ?_, ?_, ?_, ?_, ?_, ?_, ?_⟩
      · exact by rw [htk, hs0]; omega
      · exact by omega
      · exact by omega
      all_goals first | with_reducible rfl | (simp -implicitDefEqProofs (disch := omega) only [h1, h3, h7, h8, h9, h10, hh3_0, hh7_0, hh18_1, List.map_append, go_sem, ↓reduceIte, Nat.reduceAdd, Nat.reduceSub, Nat.reduceEqDiff, Nat.reduceLeDiff, reduceCtorEq]; first | done | rfl | (simp; done) | (congr 2; omega) | (congr 1; omega) | (congr 3; omega) | (simp; omega) | (congr 2; simp; omega) | (refine ⟨_, rfl, ?_⟩; first | rfl | (simp -implicitDefEqProofs (disch := omega) only [h1, h3, h7, h8, h9, h10, hh3_0, hh7_0, hh18_1, List.map_append, go_sem, ↓reduceIte, Nat.reduceAdd, Nat.reduceSub, Nat.reduceEqDiff, Nat.reduceLeDiff, reduceCtorEq]; done))) | rfl | omega | (congr 2; omega)
    · rw [List.take_of_length_le (by omega)] at hs0
      have hmm : min (min (max 0 (x.usage - x.protect)) x.room) (x.own + sumI (ks.map (capN t.nodes l k))) = min (min s0 x.room) (max 0 (x.usage - x.protect)) := by omega
      simp -implicitDefEqProofs (disch := omega) only [h1, h3, h7, h8, h9, h10, hh3_0, hh7_0, hh18_1, hge, hmm, go_sem, ↓reduceIte, Nat.reduceAdd, Nat.reduceSub, Nat.reduceEqDiff, Nat.reduceLeDiff, reduceCtorEq]
theorem rcap24_eq {t : Tr} (h : TreeOk t) {l : List Pt} (hl : l.length < 1000000) (hp : ∀ x ∈ l, PtOk x) {g : Int} (hg : InN t.nodes g) : V 52 [t.vv, .p (ptsP l), .p (.int .i64 g)] [] = some (.p (.int .i64 (capR t l g)), []) := by
  obtain ⟨i, n, hn, rfl⟩ := hg
  exact rcap24_eq0 h hl hp _ i n hn (by omega)

theorem bumpD_stop : ∀ (left : Int) (o w : List Int), left ≤ 0 → bumpD left o w = o
  | left, o :: os, w :: ws, h => by
    unfold bumpD
    rw [if_neg (fun hh => by omega), bumpD_stop left os ws h]
  | _, [], _, _ => by unfold bumpD; rfl
  | _, _ :: _, [], _ => by unfold bumpD; rfl
theorem bumpD_zeros : ∀ (left : Int) (w : List Int), (∀ x ∈ w, x = 0) → bumpD left (w.map fun _ => 0) w = w.map fun _ => 0
  | left, w :: ws, h => by
    have := h w (by simp)
    subst this
    rw [List.map_cons]
    unfold bumpD
    rw [if_neg (fun hh => by omega), bumpD_zeros left ws (fun x hx => h x (by simp [hx]))]
  | _, [], _ => by unfold bumpD; rfl
theorem sum_zero_all : ∀ (w : List Int), (∀ x ∈ w, 0 ≤ x) → sumI w = 0 → ∀ x ∈ w, x = 0
  | [], _, _, x, hx => by simp at hx
  | y :: w, h, hs, x, hx => by
    have h1 := h y (by simp)
    have h2 := sumI_nonneg w (fun z hz => h z (by simp [hz]))
    simp only [sumI] at hs
    rcases List.mem_cons.1 hx with rfl | hx
    · omega
    · exact sum_zero_all w (fun z hz => h z (by simp [hz])) (by omega) x hx

set_option maxHeartbeats 4000000 in
theorem rdivide_eq (K : Int) (w : List Int) (hk0 : 0 ≤ K) (hk1 : K ≤ 16777216) (hl : w.length < 1000) (hw : ∀ x ∈ w, 0 ≤ x ∧ x ≤ 16777216) : V 63 [.p (.int .i64 K), .p (intsP w)] [] = some (.fresh 1 ((splitP K w).map (.int .i64)), []) := by
  refine V_wp (vf := vf63) rfl ?_
  simp -implicitDefEqProofs (disch := omega) only [vf63, vb63, go_sem, ↓reduceIte, Nat.reduceAdd, Nat.reduceSub, Nat.reduceEqDiff, Nat.reduceLeDiff, reduceCtorEq]
  obtain ⟨I, hI⟩ : ∃ I : Nat → St → Prop, ∀ k s, I k s ↔ ∃ (y : Int), y = sumI (w.take k) ∧ 0 ≤ y ∧ y ≤ 16777216 * k ∧ s.pe 0 = .p (.int .i64 K) ∧ s.pe 1 = .p (intsP w) ∧ s.pe 5 = .p (.int .i64 y) ∧ s.pe 6 = .p (.int .i64 k) := ⟨_, fun _ _ => Iff.rfl⟩
  refine wp_count (w.length) I ?_ ?_
  · refine (hI _ _).2 ⟨0, ?_, ?_, ?_, ?_, ?_, ?_, ?_⟩
    · exact by simp [sumI]
    · exact by first | rfl | omega | (simp; done) | (simp; omega)
    · exact by first | rfl | omega | (simp; done) | (simp; omega)
    all_goals first | with_reducible rfl | (simp -implicitDefEqProofs (disch := omega) only [h1, h3, h7, h8, h9, h10, hh3_0, hh7_0, hh18_1, List.map_append, go_sem, ↓reduceIte, Nat.reduceAdd, Nat.reduceSub, Nat.reduceEqDiff, Nat.reduceLeDiff, reduceCtorEq]; first | done | rfl | (simp; done) | (congr 2; omega) | (congr 1; omega) | (congr 3; omega) | (simp; omega) | (congr 2; simp; omega) | (refine ⟨_, rfl, ?_⟩; first | rfl | (simp -implicitDefEqProofs (disch := omega) only [h1, h3, h7, h8, h9, h10, hh3_0, hh7_0, hh18_1, List.map_append, go_sem, ↓reduceIte, Nat.reduceAdd, Nat.reduceSub, Nat.reduceEqDiff, Nat.reduceLeDiff, reduceCtorEq]; done))) | rfl | omega | (congr 2; omega)
  intro k s hk hIk
  obtain ⟨y, hy, hy0, hy1, h0, h1, h5, h6⟩ := (hI _ _).1 hIk
  clear hIk
  simp -implicitDefEqProofs (disch := omega) only [h0, h1, h5, h6, go_sem, ↓reduceIte, Nat.reduceAdd, Nat.reduceSub, Nat.reduceEqDiff, Nat.reduceLeDiff, reduceCtorEq]
  refine wp_if_d (fun hlt => ?_) (fun hge => ?_)
  · have hm : w[k]? = some w[k] := List.getElem?_eq_getElem hlt
    have htk := sumI_take_succ (f := fun x => x) hm
    rw [List.map_id', List.map_id'] at htk
    have hb := hw _ (List.mem_of_getElem? hm)
    generalize w[k] = x at hm htk hb
    have hb0 := hb.1
    have hb1 := hb.2
    simp -implicitDefEqProofs (disch := omega) only [h0, h1, h5, h6, hlt, hm, go_sem, ↓reduceIte, Nat.reduceAdd, Nat.reduceSub, Nat.reduceEqDiff, Nat.reduceLeDiff, reduceCtorEq]
    try refine And.intro (by omega) ?_
    refine (hI _ _).2 ⟨y + x, ?_, ?_, ?_, ?_, ?_, ?_, ?_⟩
    · exact by rw [htk, hy]
    · exact by omega
    · exact by omega
    all_goals first | with_reducible rfl | (simp -implicitDefEqProofs (disch := omega) only [h0, h1, h5, h6, List.map_append, go_sem, ↓reduceIte, Nat.reduceAdd, Nat.reduceSub, Nat.reduceEqDiff, Nat.reduceLeDiff, reduceCtorEq]; first | done | rfl | (simp; done) | (congr 2; omega) | (congr 1; omega) | (congr 3; omega) | (simp; omega) | (congr 2; simp; omega) | (refine ⟨_, rfl, ?_⟩; first | rfl | (simp -implicitDefEqProofs (disch := omega) only [h0, h1, h5, h6, List.map_append, go_sem, ↓reduceIte, Nat.reduceAdd, Nat.reduceSub, Nat.reduceEqDiff, Nat.reduceLeDiff, reduceCtorEq]; done))) | rfl | omega | (congr 2; omega)
  · rw [List.take_of_length_le (by omega)] at hy
    have hkw : k = w.length := by omega
    subst hkw
    obtain ⟨B, hB⟩ : ∃ B : List Int, B = if y = 0 then w.map (fun _ => 0) else baseD K y w := ⟨_, rfl⟩
    have hBl : B.length = w.length := by rw [hB]; split <;> simp [baseD]
    have hsp : splitP K w = bumpD (K - sumI B) B w := by
      unfold splitP
      rw [← hy, hB]
      by_cases hz : y = 0
      · rw [if_pos hz, if_pos hz]
        exact (bumpD_zeros _ w (sum_zero_all w (fun x hx => (hw x hx).1) (by rw [← hy]; exact hz))).symm
      · rw [if_neg hz, if_neg hz]
    rw [hsp]
    have hBn : ∀ o ∈ B, 0 ≤ o := by
      rw [hB]
      intro o ho
      split at ho
      · obtain ⟨_, _, rfl⟩ := List.mem_map.1 ho
        omega
      · obtain ⟨x, hx, rfl⟩ := List.mem_map.1 ho
        exact Int.ediv_nonneg (Int.mul_nonneg hk0 (hw x hx).1) hy0
    simp -implicitDefEqProofs (disch := omega) only [h0, h1, h5, h6, hge, zeros_map, go_sem, ↓reduceIte, Nat.reduceAdd, Nat.reduceSub, Nat.reduceEqDiff, Nat.reduceLeDiff, reduceCtorEq]
    obtain ⟨J, hJ⟩ : ∃ I : Nat → St → Prop, ∀ j s, I j s ↔ ∃ (v25_0 : Nat) (arr : List Int) (left : Int), (y = 0 → j = 0) ∧ arr.length = w.length ∧ arr.drop j = ((w.drop j).map fun _ => (0 : Int)) ∧ arr.take j = B.take j ∧ left = K - sumI (arr.take j) ∧ -(281474976710656 * j : Int) ≤ left ∧ left ≤ 16777216 ∧ s.pe 0 = .p (.int .i64 K) ∧ s.pe 1 = .p (intsP w) ∧ s.pe 5 = .p (.int .i64 y) ∧ s.pe 7 = .own (.slot 25 0) v25_0 0 w.length ∧ s.pe 8 = .p (.int .i64 left) ∧ s.pe 9 = .p (.int .i64 j) ∧ s.h (.slot 25 0) = some (v25_0, Ob.arr 1 (arr.map (.int .i64))) := ⟨_, fun _ _ => Iff.rfl⟩
    refine wp_count (w.length) J ?_ ?_
    · refine (hJ _ _).2 ⟨nv (s.h (.slot 25 0)), w.map fun _ => 0, K, ?_, ?_, ?_, ?_, ?_, ?_, ?_, ?_, ?_, ?_, ?_, ?_, ?_, ?_⟩
      · exact by first | rfl | omega | (simp; done) | (simp; omega)
      · exact by simp
      · exact by simp
      · exact rfl
      · exact by simp [sumI]
      · exact by first | rfl | omega | (simp; done) | (simp; omega)
      · exact by first | rfl | omega | (simp; done) | (simp; omega)
      all_goals first | with_reducible rfl | (simp -implicitDefEqProofs (disch := omega) only [h0, h1, h5, h6, List.map_append, go_sem, ↓reduceIte, Nat.reduceAdd, Nat.reduceSub, Nat.reduceEqDiff, Nat.reduceLeDiff, reduceCtorEq]; first | done | rfl | (simp; done) | (congr 2; omega) | (congr 1; omega) | (congr 3; omega) | (simp; omega) | (congr 2; simp; omega) | (refine ⟨_, rfl, ?_⟩; first | rfl | (simp -implicitDefEqProofs (disch := omega) only [h0, h1, h5, h6, List.map_append, go_sem, ↓reduceIte, Nat.reduceAdd, Nat.reduceSub, Nat.reduceEqDiff, Nat.reduceLeDiff, reduceCtorEq]; done))) | rfl | omega | (congr 2; omega)
    intro j s hj hJk
    obtain ⟨v25_0, arr, left, hj0, harl, hdz, hpre, hlf, hl0, hl1, h0, h1, h5, h7, h8, h9, hh25_0⟩ := (hJ _ _).1 hJk
    clear hJk
    simp -implicitDefEqProofs (disch := omega) only [h0, h1, h5, h7, h8, h9, hh25_0, go_sem, ↓reduceIte, Nat.reduceAdd, Nat.reduceSub, Nat.reduceEqDiff, Nat.reduceLeDiff, reduceCtorEq]
    by_cases hyz : 0 < y ∧ j < w.length
    · have hyp := hyz.1
      have hlt := hyz.2
      have hyne : ¬ y = 0 := by omega
      have hm : w[j]? = some w[j] := List.getElem?_eq_getElem hlt
      have htk := take_snoc hm
      have hb := hw _ (List.mem_of_getElem? hm)
      generalize w[j] = x at hm htk hb
      have hb0 := hb.1
      have hb1 := hb.2
      have hm0 : 0 ≤ K * x := Int.mul_nonneg hk0 hb0
      have hm1 : K * x ≤ 281474976710656 := by
        have := Int.mul_le_mul hk1 hb1 hb0 (by omega)
        omega
      have hq : (K * x).tdiv y = K * x / y := Int.tdiv_eq_ediv_of_nonneg hm0
      have hq0 : 0 ≤ K * x / y := Int.ediv_nonneg hm0 hy0
      have hq1 : K * x / y ≤ K * x := Int.ediv_le_self _ hm0
      have hbd : B.take (j + 1) = B.take j ++ [K * x / y] := by
        rw [hB, if_neg hyne, baseD, ← List.map_take, ← List.map_take, htk, List.map_append]
        rfl
      generalize K * x / y = q at hq hq0 hq1 hbd
      obtain ⟨p, hp⟩ : ∃ p, K * x = p := ⟨_, rfl⟩
      rw [hp] at hm0 hm1 hq hq1
      have hset := map_set_int arr j q
      have hget : (List.map (PV.int .i64) (arr.set j q))[j]? = some (.int .i64 q) := map_get_int (by rw [List.getElem?_set_self (by omega)])
      have hga : arr[j]? = some arr[j] := List.getElem?_eq_getElem (by omega)
      generalize arr[j] = z at hga
      have hdz' : (arr.set j q).drop (j + 1) = (w.drop (j + 1)).map fun _ => 0 := by
        rw [List.drop_set_of_lt (by omega)]
        have := congrArg (List.drop 1) hdz
        rw [← List.map_drop, List.drop_drop, List.drop_drop] at this
        exact this
      simp -implicitDefEqProofs (disch := omega) only [h0, h1, h5, h7, h8, h9, hh25_0, hyp, hyne, hlt, hm, hp, hq, hset, hget, hga, List.headD_cons, go_sem, ↓reduceIte, Nat.reduceAdd, Nat.reduceSub, Nat.reduceEqDiff, Nat.reduceLeDiff, reduceCtorEq]
      try refine And.intro (by omega) ?_
      refine (hJ _ _).2 ⟨v25_0, arr.set j q, left - q, ?_, ?_, ?_, ?_, ?_, ?_, ?_, ?_, ?_, ?_, ?_, ?_, ?_, ?_⟩
      · exact fun h => absurd h hyne
      · exact by rw [List.length_set, harl]
      · exact hdz'
      · exact by rw [take_set_succ (by omega), hpre, hbd]
      · exact by rw [take_set_succ (by omega), sumI_snoc, hlf]; omega
      · exact by omega
      · exact by omega
      all_goals first | with_reducible rfl | (simp -implicitDefEqProofs (disch := omega) only [h0, h1, h5, h7, h8, h9, hh25_0, List.map_append, go_sem, ↓reduceIte, Nat.reduceAdd, Nat.reduceSub, Nat.reduceEqDiff, Nat.reduceLeDiff, reduceCtorEq]; first | done | rfl | (simp; done) | (congr 2; omega) | (congr 1; omega) | (congr 3; omega) | (simp; omega) | (congr 2; simp; omega) | (refine ⟨_, rfl, ?_⟩; first | rfl | (simp -implicitDefEqProofs (disch := omega) only [h0, h1, h5, h7, h8, h9, hh25_0, List.map_append, go_sem, ↓reduceIte, Nat.reduceAdd, Nat.reduceSub, Nat.reduceEqDiff, Nat.reduceLeDiff, reduceCtorEq]; done))) | rfl | omega | (congr 2; omega)
    · have harB : arr = B := by
        by_cases hy' : y = 0
        · have := hj0 hy'
          subst this
          rw [List.drop_zero, List.drop_zero] at hdz
          rw [hdz, hB, if_pos hy']
        · have : j = w.length := by omega
          subst this
          rw [List.take_of_length_le (by omega), List.take_of_length_le (by omega)] at hpre
          exact hpre
      have hlB : left = K - sumI B := by
        by_cases hy' : y = 0
        · have := hj0 hy'
          subst this
          rw [List.take_zero] at hlf
          rw [hlf, hB, if_pos hy', sumI_zeros]
          rfl
        · have : j = w.length := by omega
          subst this
          rw [List.take_of_length_le (by omega), harB] at hlf
          exact hlf
      rw [← harB] at hBl hBn
      rw [← hlB, ← harB]
      have hl0' : -(281474976710656000 : Int) ≤ left := by omega
      clear hl0
      by_cases hyp : 0 < y
      · have hyne : ¬ y = 0 := by omega
        have hge2 : ¬ j < w.length := fun h => hyz ⟨hyp, h⟩
        simp -implicitDefEqProofs (disch := omega) only [h0, h1, h5, h7, h8, h9, hh25_0, hyp, hge2, go_sem, ↓reduceIte, Nat.reduceAdd, Nat.reduceSub, Nat.reduceEqDiff, Nat.reduceLeDiff, reduceCtorEq]
        obtain ⟨M, hM⟩ : ∃ I : Nat → St → Prop, ∀ m s, I m s ↔ ∃ (a2 : List Int) (lf : Int), a2.length = w.length ∧ a2.take m ++ bumpD lf (arr.drop m) (w.drop m) = bumpD left arr w ∧ a2.drop m = arr.drop m ∧ -(281474976710656000 : Int) - m ≤ lf ∧ lf ≤ 16777216 ∧ s.pe 1 = .p (intsP w) ∧ s.pe 7 = .own (.slot 25 0) v25_0 0 w.length ∧ s.pe 8 = .p (.int .i64 lf) ∧ s.pe 10 = .p (.int .i64 m) ∧ s.h (.slot 25 0) = some (v25_0, Ob.arr 1 (a2.map (.int .i64))) := ⟨_, fun _ _ => Iff.rfl⟩
        refine wp_count (w.length) M ?_ ?_
        · refine (hM _ _).2 ⟨arr, left, ?_, ?_, ?_, ?_, ?_, ?_, ?_, ?_, ?_, ?_⟩
          · exact by first | rfl | omega | (simp; done) | (simp; omega)
          · exact by simp
          · exact rfl
          · exact by first | rfl | omega | (simp; done) | (simp; omega)
          · exact by first | rfl | omega | (simp; done) | (simp; omega)
          all_goals first | with_reducible rfl | (simp -implicitDefEqProofs (disch := omega) only [h0, h1, h5, h7, h8, h9, hh25_0, List.map_append, go_sem, ↓reduceIte, Nat.reduceAdd, Nat.reduceSub, Nat.reduceEqDiff, Nat.reduceLeDiff, reduceCtorEq]; first | done | rfl | (simp; done) | (congr 2; omega) | (congr 1; omega) | (congr 3; omega) | (simp; omega) | (congr 2; simp; omega) | (refine ⟨_, rfl, ?_⟩; first | rfl | (simp -implicitDefEqProofs (disch := omega) only [h0, h1, h5, h7, h8, h9, hh25_0, List.map_append, go_sem, ↓reduceIte, Nat.reduceAdd, Nat.reduceSub, Nat.reduceEqDiff, Nat.reduceLeDiff, reduceCtorEq]; done))) | rfl | omega | (congr 2; omega)
        intro m s hm hMk
        obtain ⟨a2, lf, hal, hbp, hdd, hm0, hm1, h1, h7, h8, h10, hh25_0⟩ := (hM _ _).1 hMk
        clear hMk
        simp -implicitDefEqProofs (disch := omega) only [h1, h7, h8, h10, hh25_0, go_sem, ↓reduceIte, Nat.reduceAdd, Nat.reduceSub, Nat.reduceEqDiff, Nat.reduceLeDiff, reduceCtorEq]
        by_cases hlt : m < w.length
        · have hm : w[m]? = some w[m] := List.getElem?_eq_getElem hlt
          have hga : arr[m]? = some arr[m] := List.getElem?_eq_getElem (by omega)
          have hdw : w.drop m = w[m] :: w.drop (m + 1) := List.drop_eq_getElem_cons hlt
          have hda : arr.drop m = arr[m] :: arr.drop (m + 1) := List.drop_eq_getElem_cons (by omega)
          have hb := hw _ (List.mem_of_getElem? hm)
          by_cases hlf0 : 0 < lf
          · generalize w[m] = x at hm hdw hb
            generalize arr[m] = o at hga hda
            have hb1 := hb.2
            have hga2 : a2[m]? = some o := by
              have : (a2.drop m)[0]? = (arr.drop m)[0]? := by rw [hdd]
              rw [List.getElem?_drop, List.getElem?_drop] at this
              simpa [hga] using this
            have htk2 := take_snoc hga2
            have hdd' : a2.drop (m + 1) = arr.drop (m + 1) := by
              have := congrArg (List.drop 1) hdd
              simpa [List.drop_drop, Nat.add_comm] using this
            rw [hdw, hda, bumpD] at hbp
            by_cases hox : o < x
            · rw [if_pos ⟨hlf0, hox⟩] at hbp
              have ho0 := hBn o (List.mem_of_getElem? hga)
              have hset := map_set_int a2 m (o + 1)
              simp -implicitDefEqProofs (disch := omega) only [h1, h7, h8, h10, hh25_0, hlt, hm, hga2, hlf0, hox, hset, List.headD_cons, go_sem, ↓reduceIte, Nat.reduceAdd, Nat.reduceSub, Nat.reduceEqDiff, Nat.reduceLeDiff, reduceCtorEq]
              try refine And.intro (by omega) ?_
              refine (hM _ _).2 ⟨a2.set m (o + 1), lf - 1, ?_, ?_, ?_, ?_, ?_, ?_, ?_, ?_, ?_, ?_⟩
              · exact by rw [List.length_set, hal]
              · exact by rw [take_set_succ (by omega), List.append_assoc]; exact hbp
              · exact by rw [List.drop_set_of_lt (by omega), hdd']
              · exact by omega
              · exact by omega
              all_goals first | with_reducible rfl | (simp -implicitDefEqProofs (disch := omega) only [h1, h7, h8, h10, hh25_0, List.map_append, go_sem, ↓reduceIte, Nat.reduceAdd, Nat.reduceSub, Nat.reduceEqDiff, Nat.reduceLeDiff, reduceCtorEq]; first | done | rfl | (simp; done) | (congr 2; omega) | (congr 1; omega) | (congr 3; omega) | (simp; omega) | (congr 2; simp; omega) | (refine ⟨_, rfl, ?_⟩; first | rfl | (simp -implicitDefEqProofs (disch := omega) only [h1, h7, h8, h10, hh25_0, List.map_append, go_sem, ↓reduceIte, Nat.reduceAdd, Nat.reduceSub, Nat.reduceEqDiff, Nat.reduceLeDiff, reduceCtorEq]; done))) | rfl | omega | (congr 2; omega)
            · rw [if_neg (fun h => hox h.2)] at hbp
              simp -implicitDefEqProofs (disch := omega) only [h1, h7, h8, h10, hh25_0, hlt, hm, hga2, hlf0, hox, go_sem, ↓reduceIte, Nat.reduceAdd, Nat.reduceSub, Nat.reduceEqDiff, Nat.reduceLeDiff, reduceCtorEq]
              try refine And.intro (by omega) ?_
              refine (hM _ _).2 ⟨a2, lf, ?_, ?_, ?_, ?_, ?_, ?_, ?_, ?_, ?_, ?_⟩
              · exact hal
              · exact by rw [htk2, List.append_assoc]; exact hbp
              · exact hdd'
              · exact by omega
              · exact by omega
              all_goals first | with_reducible rfl | (simp -implicitDefEqProofs (disch := omega) only [h1, h7, h8, h10, hh25_0, List.map_append, go_sem, ↓reduceIte, Nat.reduceAdd, Nat.reduceSub, Nat.reduceEqDiff, Nat.reduceLeDiff, reduceCtorEq]; first | done | rfl | (simp; done) | (congr 2; omega) | (congr 1; omega) | (congr 3; omega) | (simp; omega) | (congr 2; simp; omega) | (refine ⟨_, rfl, ?_⟩; first | rfl | (simp -implicitDefEqProofs (disch := omega) only [h1, h7, h8, h10, hh25_0, List.map_append, go_sem, ↓reduceIte, Nat.reduceAdd, Nat.reduceSub, Nat.reduceEqDiff, Nat.reduceLeDiff, reduceCtorEq]; done))) | rfl | omega | (congr 2; omega)
          · rw [bumpD_stop _ _ _ (by omega), ← hdd, List.take_append_drop] at hbp
            simp -implicitDefEqProofs (disch := omega) only [h1, h7, h8, h10, hh25_0, hlt, hlf0, go_sem, ↓reduceIte, Nat.reduceAdd, Nat.reduceSub, Nat.reduceEqDiff, Nat.reduceLeDiff, reduceCtorEq]
            rw [List.take_of_length_le (by rw [List.length_map]; omega), hbp]
        · rw [List.drop_of_length_le (by omega), List.drop_of_length_le (by omega), List.take_of_length_le (by omega)] at hbp
          have hbn : bumpD lf [] [] = [] := by unfold bumpD; rfl
          rw [hbn, List.append_nil] at hbp
          simp -implicitDefEqProofs (disch := omega) only [h1, h7, h8, h10, hh25_0, hlt, go_sem, ↓reduceIte, Nat.reduceAdd, Nat.reduceSub, Nat.reduceEqDiff, Nat.reduceLeDiff, reduceCtorEq]
          rw [List.take_of_length_le (by rw [List.length_map]; omega), hbp]

      · have hyne : y = 0 := by omega
        simp -implicitDefEqProofs (disch := omega) only [h0, h1, h5, h7, h8, h9, hh25_0, hyp, go_sem, ↓reduceIte, Nat.reduceAdd, Nat.reduceSub, Nat.reduceEqDiff, Nat.reduceLeDiff, reduceCtorEq]
        obtain ⟨N, hN⟩ : ∃ I : Nat → St → Prop, ∀ n s, I n s ↔ ∃ (a2 : List Int) (lf : Int), a2.length = w.length ∧ a2.take n ++ bumpD lf (arr.drop n) (w.drop n) = bumpD left arr w ∧ a2.drop n = arr.drop n ∧ -(281474976710656000 : Int) - n ≤ lf ∧ lf ≤ 16777216 ∧ s.pe 1 = .p (intsP w) ∧ s.pe 7 = .own (.slot 25 0) v25_0 0 w.length ∧ s.pe 8 = .p (.int .i64 lf) ∧ s.pe 10 = .p (.int .i64 n) ∧ s.h (.slot 25 0) = some (v25_0, Ob.arr 1 (a2.map (.int .i64))) := ⟨_, fun _ _ => Iff.rfl⟩
        refine wp_count (w.length) N ?_ ?_
        · refine (hN _ _).2 ⟨arr, left, ?_, ?_, ?_, ?_, ?_, ?_, ?_, ?_, ?_, ?_⟩
          · exact by first | rfl | omega | (simp; done) | (simp; omega)
          · exact by simp
          · exact rfl
          · exact by first | rfl | omega | (simp; done) | (simp; omega)
          · exact by first | rfl | omega | (simp; done) | (simp; omega)
          all_goals first | with_reducible rfl | (simp -implicitDefEqProofs (disch := omega) only [h0, h1, h5, h7, h8, h9, hh25_0, List.map_append, go_sem, ↓reduceIte, Nat.reduceAdd, Nat.reduceSub, Nat.reduceEqDiff, Nat.reduceLeDiff, reduceCtorEq]; first | done | rfl | (simp; done) | (congr 2; omega) | (congr 1; omega) | (congr 3; omega) | (simp; omega) | (congr 2; simp; omega) | (refine ⟨_, rfl, ?_⟩; first | rfl | (simp -implicitDefEqProofs (disch := omega) only [h0, h1, h5, h7, h8, h9, hh25_0, List.map_append, go_sem, ↓reduceIte, Nat.reduceAdd, Nat.reduceSub, Nat.reduceEqDiff, Nat.reduceLeDiff, reduceCtorEq]; done))) | rfl | omega | (congr 2; omega)
        intro n s hn hNk
        obtain ⟨a2, lf, hal, hbp, hdd, hm0, hm1, h1, h7, h8, h10, hh25_0⟩ := (hN _ _).1 hNk
        clear hNk
        simp -implicitDefEqProofs (disch := omega) only [h1, h7, h8, h10, hh25_0, go_sem, ↓reduceIte, Nat.reduceAdd, Nat.reduceSub, Nat.reduceEqDiff, Nat.reduceLeDiff, reduceCtorEq]
        by_cases hlt : n < w.length
        · have hm : w[n]? = some w[n] := List.getElem?_eq_getElem hlt
          have hga : arr[n]? = some arr[n] := List.getElem?_eq_getElem (by omega)
          have hdw : w.drop n = w[n] :: w.drop (n + 1) := List.drop_eq_getElem_cons hlt
          have hda : arr.drop n = arr[n] :: arr.drop (n + 1) := List.drop_eq_getElem_cons (by omega)
          have hb := hw _ (List.mem_of_getElem? hm)
          by_cases hlf0 : 0 < lf
          · generalize w[n] = x at hm hdw hb
            generalize arr[n] = o at hga hda
            have hb1 := hb.2
            have hga2 : a2[n]? = some o := by
              have : (a2.drop n)[0]? = (arr.drop n)[0]? := by rw [hdd]
              rw [List.getElem?_drop, List.getElem?_drop] at this
              simpa [hga] using this
            have htk2 := take_snoc hga2
            have hdd' : a2.drop (n + 1) = arr.drop (n + 1) := by
              have := congrArg (List.drop 1) hdd
              simpa [List.drop_drop, Nat.add_comm] using this
            rw [hdw, hda, bumpD] at hbp
            by_cases hox : o < x
            · rw [if_pos ⟨hlf0, hox⟩] at hbp
              have ho0 := hBn o (List.mem_of_getElem? hga)
              have hset := map_set_int a2 n (o + 1)
              simp -implicitDefEqProofs (disch := omega) only [h1, h7, h8, h10, hh25_0, hlt, hm, hga2, hlf0, hox, hset, List.headD_cons, go_sem, ↓reduceIte, Nat.reduceAdd, Nat.reduceSub, Nat.reduceEqDiff, Nat.reduceLeDiff, reduceCtorEq]
              try refine And.intro (by omega) ?_
              refine (hN _ _).2 ⟨a2.set n (o + 1), lf - 1, ?_, ?_, ?_, ?_, ?_, ?_, ?_, ?_, ?_, ?_⟩
              · exact by rw [List.length_set, hal]
              · exact by rw [take_set_succ (by omega), List.append_assoc]; exact hbp
              · exact by rw [List.drop_set_of_lt (by omega), hdd']
              · exact by omega
              · exact by omega
              all_goals first | with_reducible rfl | (simp -implicitDefEqProofs (disch := omega) only [h1, h7, h8, h10, hh25_0, List.map_append, go_sem, ↓reduceIte, Nat.reduceAdd, Nat.reduceSub, Nat.reduceEqDiff, Nat.reduceLeDiff, reduceCtorEq]; first | done | rfl | (simp; done) | (congr 2; omega) | (congr 1; omega) | (congr 3; omega) | (simp; omega) | (congr 2; simp; omega) | (refine ⟨_, rfl, ?_⟩; first | rfl | (simp -implicitDefEqProofs (disch := omega) only [h1, h7, h8, h10, hh25_0, List.map_append, go_sem, ↓reduceIte, Nat.reduceAdd, Nat.reduceSub, Nat.reduceEqDiff, Nat.reduceLeDiff, reduceCtorEq]; done))) | rfl | omega | (congr 2; omega)
            · rw [if_neg (fun h => hox h.2)] at hbp
              simp -implicitDefEqProofs (disch := omega) only [h1, h7, h8, h10, hh25_0, hlt, hm, hga2, hlf0, hox, go_sem, ↓reduceIte, Nat.reduceAdd, Nat.reduceSub, Nat.reduceEqDiff, Nat.reduceLeDiff, reduceCtorEq]
              try refine And.intro (by omega) ?_
              refine (hN _ _).2 ⟨a2, lf, ?_, ?_, ?_, ?_, ?_, ?_, ?_, ?_, ?_, ?_⟩
              · exact hal
              · exact by rw [htk2, List.append_assoc]; exact hbp
              · exact hdd'
              · exact by omega
              · exact by omega
              all_goals first | with_reducible rfl | (simp -implicitDefEqProofs (disch := omega) only [h1, h7, h8, h10, hh25_0, List.map_append, go_sem, ↓reduceIte, Nat.reduceAdd, Nat.reduceSub, Nat.reduceEqDiff, Nat.reduceLeDiff, reduceCtorEq]; first | done | rfl | (simp; done) | (congr 2; omega) | (congr 1; omega) | (congr 3; omega) | (simp; omega) | (congr 2; simp; omega) | (refine ⟨_, rfl, ?_⟩; first | rfl | (simp -implicitDefEqProofs (disch := omega) only [h1, h7, h8, h10, hh25_0, List.map_append, go_sem, ↓reduceIte, Nat.reduceAdd, Nat.reduceSub, Nat.reduceEqDiff, Nat.reduceLeDiff, reduceCtorEq]; done))) | rfl | omega | (congr 2; omega)
          · rw [bumpD_stop _ _ _ (by omega), ← hdd, List.take_append_drop] at hbp
            simp -implicitDefEqProofs (disch := omega) only [h1, h7, h8, h10, hh25_0, hlt, hlf0, go_sem, ↓reduceIte, Nat.reduceAdd, Nat.reduceSub, Nat.reduceEqDiff, Nat.reduceLeDiff, reduceCtorEq]
            rw [List.take_of_length_le (by rw [List.length_map]; omega), hbp]
        · rw [List.drop_of_length_le (by omega), List.drop_of_length_le (by omega), List.take_of_length_le (by omega)] at hbp
          have hbn : bumpD lf [] [] = [] := by unfold bumpD; rfl
          rw [hbn, List.append_nil] at hbp
          simp -implicitDefEqProofs (disch := omega) only [h1, h7, h8, h10, hh25_0, hlt, go_sem, ↓reduceIte, Nat.reduceAdd, Nat.reduceSub, Nat.reduceEqDiff, Nat.reduceLeDiff, reduceCtorEq]
          rw [List.take_of_length_le (by rw [List.length_map]; omega), hbp]

end Go.V

