/- The value machine V at work: the reference's round. -/
import Derived.Test.YtdmghfmdcfagcaaVR27
set_option linter.unusedSimpArgs false
set_option linter.unusedVariables false
namespace Go.V

theorem splitP_zero (w : List Int) : splitP 0 w = w.map fun _ => 0 := by
  unfold splitP
  by_cases hz : sumI w = 0
  · rw [if_pos hz]
  · rw [if_neg hz]
    have hb : baseD 0 (sumI w) w = w.map fun _ => 0 := by
      unfold baseD
      exact List.map_congr_left fun x _ => by rw [Int.zero_mul, Int.zero_ediv]
    rw [hb, sumI_zeros, bumpD_stop _ _ _ (by omega)]
theorem takeN_zero (ns : List Nd) (l : List Pt) (cap : Int → Int) : ∀ (k : Nat) (g : Int), takeN ns l cap k g 0 = []
  | 0, _ => rfl
  | k + 1, g => by
    rw [takeN, splitP_zero, List.map_cons, List.headD_cons, List.tail_cons, if_neg (by omega), List.nil_append, List.flatMap_eq_nil_iff]
    intro p hp
    have := (List.of_mem_zip hp).2
    obtain ⟨_, _, h0⟩ := List.mem_map.1 this
    rw [if_neg (by omega)]
theorem flat_nodup_at {G : Int → List Int} {ks : List Int} {j : Nat} {c x : Int} (hn : (ks.flatMap G).Nodup) (hj : ks[j]? = some c) (hx : x ∈ G c) : x ∉ (ks.take j).flatMap G := by
  intro hx'
  have h1 : ks = ks.take j ++ c :: ks.drop (j + 1) := by
    have hl := (List.getElem?_eq_some_iff.1 hj).1
    have : ks.drop j = c :: ks.drop (j + 1) := by rw [List.drop_eq_getElem_cons hl, (List.getElem?_eq_some_iff.1 hj).2]
    rw [← this, List.take_append_drop]
  rw [h1, List.flatMap_append, List.flatMap_cons] at hn
  exact (List.nodup_append.1 hn).2.2 x hx' x (List.mem_append_left _ hx) rfl
theorem Rep.congr {ks : List MKey} {vs : List PV} {f g : Int → Int} (h : Rep ks vs f) (hfg : ∀ x, f x = g x) : Rep ks vs g := fun id => by rw [h id, hfg]

set_option maxHeartbeats 4000000 in
theorem rtake_eq0 {t : Tr} (h : TreeOk t) {l : List Pt} (hl : l.length < 1000000) (hp : ∀ x ∈ l, PtOk x) : ∀ (k i : Nat) (n : Nd) (K : Int) (ks0 : List MKey) (vs0 : List PV) (f : Int → Int), t.nodes[i]? = some n → t.nodes.length ≤ i + k → 0 ≤ K → K ≤ 16777216 → Rep ks0 vs0 f → (∀ x ∈ subF t.nodes k n.id, f x = 0) →
    ∃ ks vs, V 53 [t.vv, .p (ptsP l), .p (.int .i64 n.id), .p (.int .i64 K), .mref (.arg 0 0) 0] [.map (.int .i64) ks0 vs0] = some (.tup [], [.map (.int .i64) ks vs]) ∧ Rep ks vs (fun x => f x + sumOn [x] (takeN t.nodes l (capR t l) k n.id K)) := by
  intro k
  induction k with
  | zero => intro i n K ks0 vs0 f hn hk; have := (List.getElem?_eq_some_iff.1 hn).1; omega
  | succ k ih =>
    intro i n K ks0 vs0 f hn hk hK0 hK1 hrep0 hf0
    suffices hw : wp (callF V vf53 [t.vv, .p (ptsP l), .p (.int .i64 n.id), .p (.int .i64 K), .mref (.arg 0 0) 0] [.map (.int .i64) ks0 vs0]) (fun r => ∃ ks vs, r = (.tup [], [.map (.int .i64) ks vs]) ∧ Rep ks vs (fun x => f x + sumOn [x] (takeN t.nodes l (capR t l) (k + 1) n.id K))) by
      obtain ⟨r, hr, ks, vs, rfl, hrep⟩ := hw
      exact ⟨ks, vs, V_fix (vf := vf53) rfl hr, hrep⟩
    have hlen := h.len
    have hin : InN t.nodes n.id := ⟨i, n, hn, rfl⟩
    have hkd := rkids_eq t n.id (by omega)
    rw [kids_in h hin] at hkd
    have hkl := kidsN_len t.nodes n.id
    have hkm : ∀ c ∈ kidsN t.nodes n.id, V 52 [t.vv, .p (ptsP l), .p (.int .i64 c)] [] = some (.p (.int .i64 (capR t l c)), []) := fun c hc => rcap24_eq h hl hp (kid_in hc)
    have hcb : ∀ c, 0 ≤ capR t l c ∧ capR t l c ≤ 16777216 := fun c => capN_bound hp _ c
    have hnd : (subF t.nodes (k + 1) n.id).Nodup := nodup_subF h (k + 1) i n hn hk
    rw [subF, List.nodup_cons] at hnd
    have hf0n : f n.id = 0 := hf0 _ (by rw [subF]; simp)
    have hf0k : ∀ x ∈ (kidsN t.nodes n.id).flatMap (subF t.nodes k), f x = 0 := fun x hx => hf0 x (by rw [subF]; exact List.mem_cons_of_mem _ hx)
    have hrec : ∀ c ∈ kidsN t.nodes n.id, ∀ (K' : Int) (ks1 : List MKey) (vs1 : List PV) (f' : Int → Int), 0 ≤ K' → K' ≤ 16777216 → Rep ks1 vs1 f' → (∀ x ∈ subF t.nodes k c, f' x = 0) → ∃ ks vs, V 53 [t.vv, .p (ptsP l), .p (.int .i64 c), .p (.int .i64 K'), .mref (.arg 0 0) 0] [.map (.int .i64) ks1 vs1] = some (.tup [], [.map (.int .i64) ks vs]) ∧ Rep ks vs (fun x => f' x + sumOn [x] (takeN t.nodes l (capR t l) k c K')) := by
      intro c hc K' ks1 vs1 f' h0 h1 h2 h3
      obtain ⟨j, m, hj, hpar, rfl⟩ := mem_kidsN.1 hc
      have hij := h.kid hn hj hpar
      exact ih j m K' ks1 vs1 f' hj (by omega) h0 h1 h2 h3
    have hx := partOf_ok hp n.id
    have hpt := rpart_eq l n.id hl
    rw [takeN]
    generalize partOf l n.id = x at hpt hx
    generalize kidsN t.nodes n.id = ks at hkd hkl hkm hrec hnd hf0k
    simp only [Pt.vv] at hpt
    simp -implicitDefEqProofs (disch := omega) only [vf53, vb53, hkd, hpt, go_sem, ↓reduceIte, Nat.reduceAdd, Nat.reduceSub, Nat.reduceEqDiff, Nat.reduceLeDiff, reduceCtorEq]
    obtain ⟨J, hJ⟩ : ∃ I : Nat → St → Prop, ∀ j s, I j s ↔ ∃ (w : List Int) (ww : Nat), w = x.own :: (ks.take j).map (capR t l) ∧ w.length = j + 1 ∧ s.pe 1 = .p (ptsP l) ∧ s.pe 2 = .p (.int .i64 n.id) ∧ s.pe 3 = .p (.int .i64 K) ∧ s.pe 4 = .mref (.arg 0 0) 0 ∧ s.pe 5 = .ptr (.slot 5 0) 0 0 ∧ s.pe 10 = .own (.slot 17 1) 0 0 ks.length ∧ s.pe 11 = .own (.slot 22 0) ww 0 w.length ∧ s.pe 12 = .p (.int .i64 j) ∧ s.h (.arg 0 0) = some (0, Ob.map (.int .i64) ks0 vs0) ∧ s.h (.slot 5 0) = some (0, Ob.box [.p (nodesP t.nodes), .p (.int .i64 t.next)]) ∧ s.h (.slot 17 1) = some (0, Ob.arr 1 (List.map (.int .i64) ks)) ∧ s.h (.slot 22 0) = some (ww, Ob.arr 1 (w.map (.int .i64))) := ⟨_, fun _ _ => Iff.rfl⟩
    refine wp_count (ks.length) J ?_ ?_
    · refine (hJ _ _).2 ⟨[x.own], 0, ?_, ?_, ?_, ?_, ?_, ?_, ?_, ?_, ?_, ?_, ?_, ?_, ?_, ?_⟩
      · exact by simp
      · exact rfl
      all_goals first | with_reducible rfl | (simp -implicitDefEqProofs (disch := omega) only [List.map_append, go_sem, ↓reduceIte, Nat.reduceAdd, Nat.reduceSub, Nat.reduceEqDiff, Nat.reduceLeDiff, reduceCtorEq]; first | done | rfl | (simp; done) | (congr 2; omega) | (congr 1; omega) | (congr 3; omega) | (simp; omega) | (congr 2; simp; omega) | (refine ⟨_, rfl, ?_⟩; first | rfl | (simp -implicitDefEqProofs (disch := omega) only [List.map_append, go_sem, ↓reduceIte, Nat.reduceAdd, Nat.reduceSub, Nat.reduceEqDiff, Nat.reduceLeDiff, reduceCtorEq]; done))) | rfl | omega | (congr 2; omega)
    intro j s hj hJk
    obtain ⟨w, ww, hw, hwl, h1, h2, h3, h4, h5, h10, h11, h12, ha0, hh5_0, hh17_1, hh22_0⟩ := (hJ _ _).1 hJk
    clear hJk
    simp -implicitDefEqProofs (disch := omega) only [h1, h2, h3, h4, h5, h10, h11, h12, ha0, hh5_0, hh17_1, hh22_0, go_sem, ↓reduceIte, Nat.reduceAdd, Nat.reduceSub, Nat.reduceEqDiff, Nat.reduceLeDiff, reduceCtorEq]
    refine wp_if_d (fun hlt => ?_) (fun hge => ?_)
    · have hm : ks[j]? = some ks[j] := List.getElem?_eq_getElem hlt
      have htk := take_snoc hm
      generalize ks[j] = c at hm htk
      have hc := hkm c (List.mem_of_getElem? hm)
      simp -implicitDefEqProofs (disch := omega) only [h1, h2, h3, h4, h5, h10, h11, h12, ha0, hh5_0, hh17_1, hh22_0, hlt, hm, hc, go_sem, ↓reduceIte, Nat.reduceAdd, Nat.reduceSub, Nat.reduceEqDiff, Nat.reduceLeDiff, reduceCtorEq]
      try refine And.intro (by omega) ?_
      refine (hJ _ _).2 ⟨w ++ [capR t l c], ww + 1, ?_, ?_, ?_, ?_, ?_, ?_, ?_, ?_, ?_, ?_, ?_, ?_, ?_, ?_⟩
      · exact by rw [hw, htk]; simp
      · exact by simp [hwl]
      all_goals first | with_reducible rfl | (simp -implicitDefEqProofs (disch := omega) only [h1, h2, h3, h4, h5, h10, h11, h12, ha0, hh5_0, hh17_1, hh22_0, List.map_append, go_sem, ↓reduceIte, Nat.reduceAdd, Nat.reduceSub, Nat.reduceEqDiff, Nat.reduceLeDiff, reduceCtorEq]; first | done | rfl | (simp; done) | (congr 2; omega) | (congr 1; omega) | (congr 3; omega) | (simp; omega) | (congr 2; simp; omega) | (refine ⟨_, rfl, ?_⟩; first | rfl | (simp -implicitDefEqProofs (disch := omega) only [h1, h2, h3, h4, h5, h10, h11, h12, ha0, hh5_0, hh17_1, hh22_0, List.map_append, go_sem, ↓reduceIte, Nat.reduceAdd, Nat.reduceSub, Nat.reduceEqDiff, Nat.reduceLeDiff, reduceCtorEq]; done))) | rfl | omega | (congr 2; omega)
    · have hjl : j = ks.length := by omega
      subst hjl
      rw [List.take_length] at hw
      have hwb : ∀ x ∈ w, 0 ≤ x ∧ x ≤ 16777216 := by
        rw [hw]
        intro y hy
        rcases List.mem_cons.1 hy with rfl | hy
        · exact ⟨hx.o0, hx.o1⟩
        · obtain ⟨c, _, rfl⟩ := List.mem_map.1 hy
          exact hcb c
      rw [← hw]
      have hsp := rdivide_eq K w hK0 hK1 (by omega) hwb
      have hgl := splitP_length K w
      have hgb := splitP_bound hK0 hK1 hwb
      generalize splitP K w = got at hsp hgl hgb
      rcases got with - | ⟨g0, gs⟩
      · simp only [List.length_nil] at hgl
        omega
      have hgs : gs.length = ks.length := by
        rw [List.length_cons] at hgl
        omega
      have hg00 := (hgb g0 (by simp)).1
      have hg01 := (hgb g0 (by simp)).2
      have hgb' : ∀ z ∈ gs, 0 ≤ z ∧ z ≤ 16777216 := fun z hz => hgb z (by simp [hz])
      rw [List.headD_cons, List.tail_cons]
      obtain ⟨F, hFd⟩ : ∃ F : Int × Int → List (Int × Int), F = fun p => if 0 < p.2 then takeN t.nodes l (capR t l) k p.1 p.2 else [] := ⟨_, rfl⟩
      have hF0 : ∀ a b, 0 ≤ b → F (a, b) = takeN t.nodes l (capR t l) k a b := fun a b hb => by
        rw [hFd]
        show (if 0 < b then _ else _) = _
        by_cases hb0 : 0 < b
        · rw [if_pos hb0]
        · have : b = 0 := by omega
          subst this
          rw [if_neg hb0, takeN_zero]
      have hFg : ∀ p, ∀ q ∈ F p, q.1 ∈ subF t.nodes k p.1 := by
        intro p q hq
        rw [hFd] at hq
        replace hq : q ∈ (if 0 < p.2 then takeN t.nodes l (capR t l) k p.1 p.2 else []) := hq
        split at hq
        · exact takeN_groups _ _ _ _ _ _ q hq
        · simp at hq
      rw [← hFd]
      clear hFd
      obtain ⟨hd, hhd⟩ : ∃ hd : List (Int × Int), hd = if 0 < g0 then [(n.id, g0)] else [] := ⟨_, rfl⟩
      rw [← hhd]
      have hhs : ∀ x, sumOn [x] hd = if x = n.id then g0 else 0 := fun x => by
        rw [hhd]
        by_cases hg : 0 < g0
        · rw [if_pos hg]
          by_cases hxn : x = n.id
          · simp [sumOn, sumI, hxn]
          · have : ¬ n.id = x := fun e => hxn e.symm
            simp [sumOn, sumI, hxn, this]
        · have : g0 = 0 := by omega
          rw [if_neg hg, this]
          simp [sumOn, sumI]
      have hlk := hrep0 n.id
      rw [hf0n] at hlk
      have hput := hrep0.put n.id g0
      simp -implicitDefEqProofs (disch := omega) only [h1, h2, h3, h4, h5, h10, h11, h12, ha0, hh5_0, hh17_1, hh22_0, hge, hsp, hlk, Int.toNat_zero, List.getElem?_cons_zero, go_sem, ↓reduceIte, Nat.reduceAdd, Nat.reduceSub, Nat.reduceEqDiff, Nat.reduceLeDiff, reduceCtorEq]
      obtain ⟨M, hM⟩ : ∃ I : Nat → St → Prop, ∀ m s, I m s ↔ ∃ (v41_1 : Nat) (km : List MKey) (vm : List PV), Rep km vm (fun x => f x + sumOn [x] (hd ++ ((ks.zip gs).take m).flatMap F)) ∧ s.pe 1 = .p (ptsP l) ∧ s.pe 4 = .mref (.arg 0 0) 0 ∧ s.pe 5 = .ptr (.slot 5 0) 0 0 ∧ s.pe 10 = .own (.slot 17 1) 0 0 ks.length ∧ s.pe 13 = .own (.slot 41 1) v41_1 0 (gs.length + 1) ∧ s.pe 14 = .p (.int .i64 m) ∧ s.h (.arg 0 0) = some (0, Ob.map (.int .i64) km vm) ∧ s.h (.slot 5 0) = some (0, Ob.box [.p (nodesP t.nodes), .p (.int .i64 t.next)]) ∧ s.h (.slot 17 1) = some (0, Ob.arr 1 (List.map (.int .i64) ks)) ∧ s.h (.slot 41 1) = some (v41_1, Ob.arr 1 (PV.int IntKind.i64 g0 :: List.map (.int .i64) gs)) := ⟨_, fun _ _ => Iff.rfl⟩
      refine wp_count (ks.length) M ?_ ?_
      · refine (hM _ _).2 ⟨nv (s.h (.slot 41 1)), (mput ks0 vs0 (.int n.id) (.int .i64 g0)).1, (mput ks0 vs0 (.int n.id) (.int .i64 g0)).2, ?_, ?_, ?_, ?_, ?_, ?_, ?_, ?_, ?_, ?_, ?_⟩
        · exact hput.congr (fun x => by
          rw [List.take_zero, List.flatMap_nil, List.append_nil, hhs]
          by_cases hxn : x = n.id
          · rw [if_pos hxn, if_pos hxn, hxn, hf0n]; omega
          · rw [if_neg hxn, if_neg hxn]; omega)
        all_goals first | with_reducible rfl | (simp -implicitDefEqProofs (disch := omega) only [h1, h2, h3, h4, h5, h10, h11, h12, ha0, hh5_0, hh17_1, hh22_0, List.map_append, go_sem, ↓reduceIte, Nat.reduceAdd, Nat.reduceSub, Nat.reduceEqDiff, Nat.reduceLeDiff, reduceCtorEq]; first | done | rfl | (simp; done) | (congr 2; omega) | (congr 1; omega) | (congr 3; omega) | (simp; omega) | (congr 2; simp; omega) | (refine ⟨_, rfl, ?_⟩; first | rfl | (simp -implicitDefEqProofs (disch := omega) only [h1, h2, h3, h4, h5, h10, h11, h12, ha0, hh5_0, hh17_1, hh22_0, List.map_append, go_sem, ↓reduceIte, Nat.reduceAdd, Nat.reduceSub, Nat.reduceEqDiff, Nat.reduceLeDiff, reduceCtorEq]; done))) | rfl | omega | (congr 2; omega)
      intro m s hm hMk
      obtain ⟨v41_1, km, vm, hrep, h1, h4, h5, h10, h13, h14, ha0, hh5_0, hh17_1, hh41_1⟩ := (hM _ _).1 hMk
      clear hMk
      simp -implicitDefEqProofs (disch := omega) only [h1, h4, h5, h10, h13, h14, ha0, hh5_0, hh17_1, hh41_1, go_sem, ↓reduceIte, Nat.reduceAdd, Nat.reduceSub, Nat.reduceEqDiff, Nat.reduceLeDiff, reduceCtorEq]
      refine wp_if_d (fun hlt => ?_) (fun hge2 => ?_)
      · have hm : ks[m]? = some ks[m] := List.getElem?_eq_getElem hlt
        have hgm : gs[m]? = some gs[m] := List.getElem?_eq_getElem (by omega)
        have hzm : (ks.zip gs)[m]? = some (ks[m], gs[m]) := by rw [List.getElem?_zip_eq_some]; exact ⟨hm, hgm⟩
        have htz := take_snoc hzm
        generalize ks[m] = c at hm htz hzm
        generalize gs[m] = gk at hgm htz hzm
        have hgk := hgb' gk (List.mem_of_getElem? hgm)
        have hidx : (PV.int IntKind.i64 g0 :: List.map (PV.int .i64) gs)[(↑m + 1 : Int).toNat]? = some (.int .i64 gk) := by
          rw [show (↑m + 1 : Int).toNat = m + 1 by omega, List.getElem?_cons_succ]
          exact map_get_int hgm
        have hcm := List.mem_of_getElem? hm
        have hzero : ∀ x ∈ subF t.nodes k c, f x + sumOn [x] (hd ++ ((ks.zip gs).take m).flatMap F) = 0 := by
          intro x hx
          have hxf : x ∈ ks.flatMap (subF t.nodes k) := List.mem_flatMap.2 ⟨c, hcm, hx⟩
          have hxn : x ≠ n.id := fun e => hnd.1 (by rw [← e]; exact hxf)
          rw [hf0k x hxf, sumOn_append, hhs, if_neg hxn, sumOn_zero (fun q hq hqx => ?_)]
          · rfl
          · rw [take_zip'] at hq
            have hq1 := zip_groups hFg _ _ q hq
            have : q.1 = x := by simpa using hqx
            rw [this] at hq1
            exact flat_nodup_at hnd.2 hm hx hq1
        obtain ⟨k1, v1, hr, hrep1⟩ := hrec c hcm gk km vm _ hgk.1 hgk.2 hrep hzero
        have hrep2 : Rep k1 v1 (fun x => f x + sumOn [x] (hd ++ ((ks.zip gs).take (m + 1)).flatMap F)) := hrep1.congr fun x => by
          rw [htz, List.flatMap_append, List.flatMap_singleton, ← List.append_assoc, sumOn_append _ (hd ++ _), hF0 c gk hgk.1]
          omega
        simp -implicitDefEqProofs (disch := omega) only [h1, h4, h5, h10, h13, h14, ha0, hh5_0, hh17_1, hh41_1, hlt, hm, hidx, hr, go_sem, ↓reduceIte, Nat.reduceAdd, Nat.reduceSub, Nat.reduceEqDiff, Nat.reduceLeDiff, reduceCtorEq]
        try refine And.intro (by omega) ?_
        refine (hM _ _).2 ⟨v41_1, k1, v1, ?_, ?_, ?_, ?_, ?_, ?_, ?_, ?_, ?_, ?_, ?_⟩
        · exact hrep2
        all_goals first | with_reducible rfl | (simp -implicitDefEqProofs (disch := omega) only [h1, h4, h5, h10, h13, h14, ha0, hh5_0, hh17_1, hh41_1, List.map_append, go_sem, ↓reduceIte, Nat.reduceAdd, Nat.reduceSub, Nat.reduceEqDiff, Nat.reduceLeDiff, reduceCtorEq]; first | done | rfl | (simp; done) | (congr 2; omega) | (congr 1; omega) | (congr 3; omega) | (simp; omega) | (congr 2; simp; omega) | (refine ⟨_, rfl, ?_⟩; first | rfl | (simp -implicitDefEqProofs (disch := omega) only [h1, h4, h5, h10, h13, h14, ha0, hh5_0, hh17_1, hh41_1, List.map_append, go_sem, ↓reduceIte, Nat.reduceAdd, Nat.reduceSub, Nat.reduceEqDiff, Nat.reduceLeDiff, reduceCtorEq]; done))) | rfl | omega | (congr 2; omega)
      · rw [List.take_of_length_le (by rw [List.length_zip]; omega)] at hrep
        simp -implicitDefEqProofs (disch := omega) only [h1, h4, h5, h10, h13, h14, ha0, hh5_0, hh17_1, hh41_1, hge2, go_sem, ↓reduceIte, Nat.reduceAdd, Nat.reduceSub, Nat.reduceEqDiff, Nat.reduceLeDiff, reduceCtorEq]
        exact ⟨_, _, rfl, hrep⟩
end Go.V

