/- The law ReclaimEmpties in the value machine. -/
import Derived.Test.YtdmghfmdcfagcaaVR24
import Derived.Test.YtdmghfmdcfagcaaVR23
set_option linter.unusedSimpArgs false
set_option linter.unusedVariables false
namespace Go.V

set_option maxHeartbeats 4000000 in
theorem empties24_eq (L : List Int) : V 7 [.p (intsP L)] [] = some (.p (.bool true), []) := by
  refine V_wp (vf := vf7) rfl ?_
  have hli := light_eq (L.map (PV.int .i64))
  rw [List.length_map] at hli
  have hsane := sane_eq
  by_cases hL : L.length ≤ 600
  · rw [decide_eq_true hL] at hli
    have hro := roll_eq L
    have htr : V 11 [.ptr (.arg 0 0) 0 0, .p (.int .i64 7)] [.box [.p (intsP L), .p (.int .i64 0)]] = some ((dTree L 0 7).1.vv, [diceB L (dTree L 0 7).2]) := tree_eq L 0 7 (by omega) (by omega)
    have hok := dTree_ok L 0 7
    generalize dTree L 0 7 = ta at htr hok
    obtain ⟨t, a0⟩ := ta
    simp only at htr hok
    have hlen := hok.len
    have hin : InN t.nodes 1 := by
      obtain ⟨r, ns, he, h1, _⟩ := hok.root
      exact ⟨0, r, by rw [he]; rfl, h1⟩
    have hpa := parts_eq L a0 1 hok (by omega)
    have hval := dParts_valid L a0 hok hin
    generalize dParts L (sortU (subT t 1)) a0 = pa at hpa hval
    obtain ⟨p, a2⟩ := pa
    simp only at hpa hval
    have hpl := hval.length
    have hca := capacity_eq t p 1 hok.fits (by omega) (by omega)
    have hcv : CapP t p 1 = (capR t p 1, 0) := by rw [CapP, if_pos ((validP_iff t p 1).2 hval)]
    rw [hcv] at hca
    have hcb : ∀ c, 0 ≤ capR t p c ∧ capR t p c ≤ 16777216 := fun c => capN_bound hval.ok _ c
    have hrd := round_eq t p 1 (capR t p 1) hok.fits (by omega) (by omega)
    obtain ⟨a, hra, hR⟩ := round_ok hval (hcb 1).1 (hcb 1).2
    rw [Int.min_self] at hR
    rw [hra] at hrd
    have hal := hR.len
    have hab : ∀ q ∈ a, 0 ≤ q.2 ∧ q.2 ≤ 4294967296 := fun q hq => by
      have h1 := hR.pos q hq
      have h2 := (partOf_ok hval.ok q.1).o1
      omega
    have hta := fun c => taken_eq t a c (by omega) (by omega) hab
    have hz := left_zero hval hR
    have hcq := capacity_eq t (p.map (leftPt t a)) 1 hok.fits (by omega) (by rw [List.length_map]; omega)
    rw [hz] at hcq
    generalize capR t p 1 = most at hca hrd hR
    simp -implicitDefEqProofs (disch := omega) only [vf7, vb7, hli, hro, htr, hpa, hca, hrd, go_sem, ↓reduceIte, Nat.reduceAdd, Nat.reduceSub, Nat.reduceEqDiff, Nat.reduceLeDiff, reduceCtorEq]
    obtain ⟨I, hI⟩ : ∃ I : Nat → St → Prop, ∀ k s, I k s ↔ ∃ (arr : List Pt), arr = (p.take k).map (leftPt t a) ++ p.drop k ∧ arr.length = p.length ∧ s.pe 4 = .ptr (.slot 4 0) 0 0 ∧ s.pe 8 = .own (.slot 37 1) 0 0 a.length ∧ s.pe 10 = .own (.slot 47 0) 0 0 p.length ∧ s.pe 11 = .p (.int .i64 k) ∧ s.h (.slot 4 0) = some (0, Ob.box [.p (nodesP t.nodes), .p (.int .i64 t.next)]) ∧ s.h (.slot 37 1) = some (0, Ob.arr 2 (List.map tkP a)) ∧ s.h (.slot 47 0) = some (0, Ob.arr 5 (List.map Pt.pv arr)) := ⟨_, fun _ _ => Iff.rfl⟩
    refine wp_count (p.length) I ?_ ?_
    · refine (hI _ _).2 ⟨p, ?_, ?_, ?_, ?_, ?_, ?_, ?_, ?_, ?_⟩
      · exact by simp
      · exact rfl
      all_goals first | with_reducible rfl | (simp -implicitDefEqProofs (disch := omega) only [List.map_append, go_sem, ↓reduceIte, Nat.reduceAdd, Nat.reduceSub, Nat.reduceEqDiff, Nat.reduceLeDiff, reduceCtorEq]; first | done | rfl | (simp; done) | (congr 2; omega) | (congr 1; omega) | (congr 3; omega) | (simp; omega) | (congr 2; simp; omega) | (refine ⟨_, rfl, ?_⟩; first | rfl | (simp -implicitDefEqProofs (disch := omega) only [List.map_append, go_sem, ↓reduceIte, Nat.reduceAdd, Nat.reduceSub, Nat.reduceEqDiff, Nat.reduceLeDiff, reduceCtorEq]; done))) | rfl | omega | (congr 2; omega)
    intro k s hk hIk
    obtain ⟨arr, harr, hlen2, h4, h8, h10, h11, hh4_0, hh37_1, hh47_0⟩ := (hI _ _).1 hIk
    clear hIk
    simp -implicitDefEqProofs (disch := omega) only [h4, h8, h10, h11, hh4_0, hh37_1, hh47_0, go_sem, ↓reduceIte, Nat.reduceAdd, Nat.reduceSub, Nat.reduceEqDiff, Nat.reduceLeDiff, reduceCtorEq]
    refine wp_if_d (fun hlt => ?_) (fun hge => ?_)
    · have hmk : p[k]? = some p[k] := List.getElem?_eq_getElem hlt
      have hdk : p.drop k = p[k] :: p.drop (k + 1) := List.drop_eq_getElem_cons hlt
      have htk := take_snoc hmk
      generalize p[k] = x at hmk hdk htk
      have hma : arr[k]? = some x := by
        rw [harr, List.getElem?_append_right (by simp; omega), hdk]
        simp [Nat.min_eq_left (Nat.le_of_lt hlt)]
      have hsetA : ∀ y : Pt, arr.set k y = (p.take k).map (leftPt t a) ++ y :: p.drop (k + 1) := by
        intro y
        rw [harr, hdk, List.set_append_right _ _ (by simp; omega)]
        simp [Nat.min_eq_left (Nat.le_of_lt hlt)]
      have hkl : k < arr.length := by omega
      have hxm := List.mem_of_getElem? hmk
      have hx := hval.ok x hxm
      have hu0 := hx.u0
      have hu1 := hx.u1
      have hq0 := hx.p0
      have hq1 := hx.p1
      have ho0 := hx.o0
      have ho1 := hx.o1
      have hr0 := hx.r0
      have hr1 := hx.r1
      have hxi := hval.part_in hxm
      have hpo : partOf p x.group = x := partOf_at hval.nodup hmk
      have htx := hta x.group
      have hts := hR.sub _ hxi
      have hts1 := (hcb x.group).2
      have htn := taken_nonneg hR x.group
      have hown := own_taken hval.ok hR x.group
      rw [hpo] at hown
      have hown0 := hown.1
      have hown1 := hown.2
      have hF : leftPt t a x = ⟨x.group, max 0 (x.usage - takenP t a x.group), x.protect, x.own - sumOn [x.group] a, if x.room = 4611686018427387904 then x.room else max 0 (x.room - takenP t a x.group)⟩ := rfl
      generalize takenP t a x.group = T at htx hts htn hF
      have hset : ∀ (b : List Pt) (y : Pt), (List.map Pt.pv b).set k (.agg [.int .i64 y.group, .int .i64 y.usage, .int .i64 y.protect, .int .i64 y.own, .int .i64 y.room]) = List.map Pt.pv (b.set k y) := fun b y => by rw [List.map_set]; rfl
      have hget : ∀ y : Pt, (List.map Pt.pv (arr.set k y))[k]? = some (.agg [.int .i64 y.group, .int .i64 y.usage, .int .i64 y.protect, .int .i64 y.own, .int .i64 y.room]) := fun y => by
        rw [List.getElem?_map, List.getElem?_set_self hkl]
        rfl
      have hgd : (List.map Pt.pv arr)[k]? = some (.agg [.int .i64 x.group, .int .i64 x.usage, .int .i64 x.protect, .int .i64 x.own, .int .i64 x.room]) := by rw [List.getElem?_map, hma]; rfl
      obtain ⟨x1, hx1⟩ : ∃ y : Pt, y = ⟨x.group, max 0 (x.usage - T), x.protect, x.own, x.room⟩ := ⟨_, rfl⟩
      have hset1 : (List.map Pt.pv arr).set k (.agg [.int .i64 x.group, .int .i64 (max 0 (x.usage - T)), .int .i64 x.protect, .int .i64 x.own, .int .i64 x.room]) = List.map Pt.pv (arr.set k x1) := by rw [hx1]; exact hset arr ⟨x.group, max 0 (x.usage - T), x.protect, x.own, x.room⟩
      have hget1 : (List.map Pt.pv (arr.set k x1))[k]? = some (.agg [.int .i64 x.group, .int .i64 (max 0 (x.usage - T)), .int .i64 x.protect, .int .i64 x.own, .int .i64 x.room]) := by rw [hx1]; exact hget ⟨x.group, max 0 (x.usage - T), x.protect, x.own, x.room⟩
      have htake : ∀ j, (hj : j < a.length) → sumOn [x.group] (a.take (j + 1)) = sumOn [x.group] (a.take j) + (if a[j].1 = x.group then a[j].2 else 0) := fun j hj => by
        rw [take_snoc (List.getElem?_eq_getElem hj), sumOn_append]
        simp [sumOn, sumI]
      have htle : ∀ j, sumOn [x.group] (a.take j) ≤ sumOn [x.group] a := fun j => sumOn_take (fun q hq => (hab q hq).1) j
      have htge : ∀ j, 0 ≤ sumOn [x.group] (a.take j) := fun j => sumOn_nonneg fun q hq => (hab q (List.mem_of_mem_take hq)).1
      have hdone : ∀ y : Pt, y = leftPt t a x → arr.set k y = (p.take (k + 1)).map (leftPt t a) ++ p.drop (k + 1) := fun y hy => by
        rw [hsetA, htk, List.map_append, List.append_assoc, hy]
        rfl
      by_cases hrm : x.room = 4611686018427387904
      · obtain ⟨Y, hY⟩ : ∃ Y : Int → Pt, Y = fun o => ⟨x.group, max 0 (x.usage - T), x.protect, o, x.room⟩ := ⟨_, rfl⟩
        have hsetY : ∀ o o', (List.map Pt.pv (arr.set k (Y o))).set k (.agg [.int .i64 x.group, .int .i64 (max 0 (x.usage - T)), .int .i64 x.protect, .int .i64 o', .int .i64 x.room]) = List.map Pt.pv (arr.set k (Y o')) := fun o o' => by
          rw [hset _ ⟨x.group, max 0 (x.usage - T), x.protect, o', x.room⟩, List.set_set, hY]
        have hgetY : ∀ o, (List.map Pt.pv (arr.set k (Y o)))[k]? = some (.agg [.int .i64 x.group, .int .i64 (max 0 (x.usage - T)), .int .i64 x.protect, .int .i64 o, .int .i64 x.room]) := fun o => by rw [hY]; exact hget ⟨x.group, max 0 (x.usage - T), x.protect, o, x.room⟩
        have hx1Y : x1 = Y x.own := by rw [hx1, hY]
        have hrd : decide (x.room = 4611686018427387904) = true := decide_eq_true hrm
        simp -implicitDefEqProofs (disch := omega) only [h4, h8, h10, h11, hh4_0, hh37_1, hh47_0, hlt, hgd, htx, hset1, hget1, List.headD_cons, hrd, hx1Y, hgetY, go_sem, ↓reduceIte, Nat.reduceAdd, Nat.reduceSub, Nat.reduceEqDiff, Nat.reduceLeDiff, reduceCtorEq]
        obtain ⟨J, hJ⟩ : ∃ I : Nat → St → Prop, ∀ j s, I j s ↔ ∃ (o : Int), o = x.own - sumOn [x.group] (a.take j) ∧ s.pe 4 = .ptr (.slot 4 0) 0 0 ∧ s.pe 8 = .own (.slot 37 1) 0 0 a.length ∧ s.pe 10 = .own (.slot 47 0) 0 0 p.length ∧ s.pe 11 = .p (.int .i64 ↑k) ∧ s.pe 13 = .p (.int .i64 j) ∧ s.h (.slot 4 0) = some (0, Ob.box [.p (nodesP t.nodes), .p (.int .i64 t.next)]) ∧ s.h (.slot 37 1) = some (0, Ob.arr 2 (List.map tkP a)) ∧ s.h (.slot 47 0) = some (0, Ob.arr 5 (List.map Pt.pv (arr.set k (Y o)))) := ⟨_, fun _ _ => Iff.rfl⟩
        refine wp_count (a.length) J ?_ ?_
        · refine (hJ _ _).2 ⟨x.own, ?_, ?_, ?_, ?_, ?_, ?_, ?_, ?_, ?_⟩
          · exact by simp [sumOn, sumI]
          all_goals first | with_reducible rfl | (simp -implicitDefEqProofs (disch := omega) only [h4, h8, h10, h11, hh4_0, hh37_1, hh47_0, List.map_append, go_sem, ↓reduceIte, Nat.reduceAdd, Nat.reduceSub, Nat.reduceEqDiff, Nat.reduceLeDiff, reduceCtorEq]; first | done | rfl | (simp; done) | (congr 2; omega) | (congr 1; omega) | (congr 3; omega) | (simp; omega) | (congr 2; simp; omega) | (refine ⟨_, rfl, ?_⟩; first | rfl | (simp -implicitDefEqProofs (disch := omega) only [h4, h8, h10, h11, hh4_0, hh37_1, hh47_0, List.map_append, go_sem, ↓reduceIte, Nat.reduceAdd, Nat.reduceSub, Nat.reduceEqDiff, Nat.reduceLeDiff, reduceCtorEq]; done))) | rfl | omega | (congr 2; omega)
        intro j s hj hJk
        obtain ⟨o, ho, h4, h8, h10, h11, h13, hh4_0, hh37_1, hh47_0⟩ := (hJ _ _).1 hJk
        clear hJk
        have ht1 := htle j
        have ht2 := htge j
        simp -implicitDefEqProofs (disch := omega) only [h4, h8, h10, h11, h13, hh4_0, hh37_1, hh47_0, go_sem, ↓reduceIte, Nat.reduceAdd, Nat.reduceSub, Nat.reduceEqDiff, Nat.reduceLeDiff, reduceCtorEq]
        refine wp_if_d (fun hlt2 => ?_) (fun hge2 => ?_)
        · have hmj : a[j]? = some a[j] := List.getElem?_eq_getElem hlt2
          have htj := htake j hlt2
          have ht3 := htle (j + 1)
          have hqb := hab _ (List.mem_of_getElem? hmj)
          generalize a[j] = q at hmj htj hqb
          have hq20 := hqb.1
          have hq21 := hqb.2
          by_cases hqx : q.1 = x.group
          · rw [if_pos hqx] at htj
            have hmx : max 0 (o - q.2) = o - q.2 := by omega
            simp -implicitDefEqProofs (disch := omega) only [h4, h8, h10, h11, h13, hh4_0, hh37_1, hh47_0, hlt2, hmj, hgetY, hqx, hsetY, hmx, List.headD_cons, go_sem, ↓reduceIte, Nat.reduceAdd, Nat.reduceSub, Nat.reduceEqDiff, Nat.reduceLeDiff, reduceCtorEq]
            try refine And.intro (by omega) ?_
            refine (hJ _ _).2 ⟨o - q.2, ?_, ?_, ?_, ?_, ?_, ?_, ?_, ?_, ?_⟩
            · exact by omega
            all_goals first | with_reducible rfl | (simp -implicitDefEqProofs (disch := omega) only [h4, h8, h10, h11, h13, hh4_0, hh37_1, hh47_0, List.map_append, go_sem, ↓reduceIte, Nat.reduceAdd, Nat.reduceSub, Nat.reduceEqDiff, Nat.reduceLeDiff, reduceCtorEq]; first | done | rfl | (simp; done) | (congr 2; omega) | (congr 1; omega) | (congr 3; omega) | (simp; omega) | (congr 2; simp; omega) | (refine ⟨_, rfl, ?_⟩; first | rfl | (simp -implicitDefEqProofs (disch := omega) only [h4, h8, h10, h11, h13, hh4_0, hh37_1, hh47_0, List.map_append, go_sem, ↓reduceIte, Nat.reduceAdd, Nat.reduceSub, Nat.reduceEqDiff, Nat.reduceLeDiff, reduceCtorEq]; done))) | rfl | omega | (congr 2; omega)
          · rw [if_neg hqx] at htj
            simp -implicitDefEqProofs (disch := omega) only [h4, h8, h10, h11, h13, hh4_0, hh37_1, hh47_0, hlt2, hmj, hgetY, hqx, go_sem, ↓reduceIte, Nat.reduceAdd, Nat.reduceSub, Nat.reduceEqDiff, Nat.reduceLeDiff, reduceCtorEq]
            try refine And.intro (by omega) ?_
            refine (hJ _ _).2 ⟨o, ?_, ?_, ?_, ?_, ?_, ?_, ?_, ?_, ?_⟩
            · exact by omega
            all_goals first | with_reducible rfl | (simp -implicitDefEqProofs (disch := omega) only [h4, h8, h10, h11, h13, hh4_0, hh37_1, hh47_0, List.map_append, go_sem, ↓reduceIte, Nat.reduceAdd, Nat.reduceSub, Nat.reduceEqDiff, Nat.reduceLeDiff, reduceCtorEq]; first | done | rfl | (simp; done) | (congr 2; omega) | (congr 1; omega) | (congr 3; omega) | (simp; omega) | (congr 2; simp; omega) | (refine ⟨_, rfl, ?_⟩; first | rfl | (simp -implicitDefEqProofs (disch := omega) only [h4, h8, h10, h11, h13, hh4_0, hh37_1, hh47_0, List.map_append, go_sem, ↓reduceIte, Nat.reduceAdd, Nat.reduceSub, Nat.reduceEqDiff, Nat.reduceLeDiff, reduceCtorEq]; done))) | rfl | omega | (congr 2; omega)
        · rw [List.take_of_length_le (by omega)] at ho
          have hyo : Y o = leftPt t a x := by rw [hY, hF, ho, if_pos hrm]
          simp -implicitDefEqProofs (disch := omega) only [h4, h8, h10, h11, h13, hh4_0, hh37_1, hh47_0, hge2, go_sem, ↓reduceIte, Nat.reduceAdd, Nat.reduceSub, Nat.reduceEqDiff, Nat.reduceLeDiff, reduceCtorEq]
          try refine And.intro (by omega) ?_
          refine (hI _ _).2 ⟨arr.set k (Y o), ?_, ?_, ?_, ?_, ?_, ?_, ?_, ?_, ?_⟩
          · exact hdone _ hyo
          · exact by rw [List.length_set, hlen2]
          all_goals first | with_reducible rfl | (simp -implicitDefEqProofs (disch := omega) only [h4, h8, h10, h11, h13, hh4_0, hh37_1, hh47_0, List.map_append, go_sem, ↓reduceIte, Nat.reduceAdd, Nat.reduceSub, Nat.reduceEqDiff, Nat.reduceLeDiff, reduceCtorEq]; first | done | rfl | (simp; done) | (congr 2; omega) | (congr 1; omega) | (congr 3; omega) | (simp; omega) | (congr 2; simp; omega) | (refine ⟨_, rfl, ?_⟩; first | rfl | (simp -implicitDefEqProofs (disch := omega) only [h4, h8, h10, h11, h13, hh4_0, hh37_1, hh47_0, List.map_append, go_sem, ↓reduceIte, Nat.reduceAdd, Nat.reduceSub, Nat.reduceEqDiff, Nat.reduceLeDiff, reduceCtorEq]; done))) | rfl | omega | (congr 2; omega)
      · obtain ⟨Y, hY⟩ : ∃ Y : Int → Pt, Y = fun o => ⟨x.group, max 0 (x.usage - T), x.protect, o, (max 0 (x.room - T))⟩ := ⟨_, rfl⟩
        have hsetY : ∀ o o', (List.map Pt.pv (arr.set k (Y o))).set k (.agg [.int .i64 x.group, .int .i64 (max 0 (x.usage - T)), .int .i64 x.protect, .int .i64 o', .int .i64 (max 0 (x.room - T))]) = List.map Pt.pv (arr.set k (Y o')) := fun o o' => by
          rw [hset _ ⟨x.group, max 0 (x.usage - T), x.protect, o', (max 0 (x.room - T))⟩, List.set_set, hY]
        have hgetY : ∀ o, (List.map Pt.pv (arr.set k (Y o)))[k]? = some (.agg [.int .i64 x.group, .int .i64 (max 0 (x.usage - T)), .int .i64 x.protect, .int .i64 o, .int .i64 (max 0 (x.room - T))]) := fun o => by rw [hY]; exact hget ⟨x.group, max 0 (x.usage - T), x.protect, o, (max 0 (x.room - T))⟩
        have hset2 : (List.map Pt.pv (arr.set k x1)).set k (.agg [.int .i64 x.group, .int .i64 (max 0 (x.usage - T)), .int .i64 x.protect, .int .i64 x.own, .int .i64 (max 0 (x.room - T))]) = List.map Pt.pv (arr.set k (Y x.own)) := by
          rw [hset _ ⟨x.group, max 0 (x.usage - T), x.protect, x.own, max 0 (x.room - T)⟩, List.set_set, hY]
        simp -implicitDefEqProofs (disch := omega) only [h4, h8, h10, h11, hh4_0, hh37_1, hh47_0, hlt, hgd, htx, hset1, hget1, List.headD_cons, hrm, hset2, hgetY, go_sem, ↓reduceIte, Nat.reduceAdd, Nat.reduceSub, Nat.reduceEqDiff, Nat.reduceLeDiff, reduceCtorEq]
        obtain ⟨M, hM⟩ : ∃ I : Nat → St → Prop, ∀ m s, I m s ↔ ∃ (o : Int), o = x.own - sumOn [x.group] (a.take m) ∧ s.pe 4 = .ptr (.slot 4 0) 0 0 ∧ s.pe 8 = .own (.slot 37 1) 0 0 a.length ∧ s.pe 10 = .own (.slot 47 0) 0 0 p.length ∧ s.pe 11 = .p (.int .i64 ↑k) ∧ s.pe 13 = .p (.int .i64 m) ∧ s.h (.slot 4 0) = some (0, Ob.box [.p (nodesP t.nodes), .p (.int .i64 t.next)]) ∧ s.h (.slot 37 1) = some (0, Ob.arr 2 (List.map tkP a)) ∧ s.h (.slot 47 0) = some (0, Ob.arr 5 (List.map Pt.pv (arr.set k (Y o)))) := ⟨_, fun _ _ => Iff.rfl⟩
        refine wp_count (a.length) M ?_ ?_
        · refine (hM _ _).2 ⟨x.own, ?_, ?_, ?_, ?_, ?_, ?_, ?_, ?_, ?_⟩
          · exact by simp [sumOn, sumI]
          all_goals first | with_reducible rfl | (simp -implicitDefEqProofs (disch := omega) only [h4, h8, h10, h11, hh4_0, hh37_1, hh47_0, List.map_append, go_sem, ↓reduceIte, Nat.reduceAdd, Nat.reduceSub, Nat.reduceEqDiff, Nat.reduceLeDiff, reduceCtorEq]; first | done | rfl | (simp; done) | (congr 2; omega) | (congr 1; omega) | (congr 3; omega) | (simp; omega) | (congr 2; simp; omega) | (refine ⟨_, rfl, ?_⟩; first | rfl | (simp -implicitDefEqProofs (disch := omega) only [h4, h8, h10, h11, hh4_0, hh37_1, hh47_0, List.map_append, go_sem, ↓reduceIte, Nat.reduceAdd, Nat.reduceSub, Nat.reduceEqDiff, Nat.reduceLeDiff, reduceCtorEq]; done))) | rfl | omega | (congr 2; omega)
        intro m s hm hMk
        obtain ⟨o, ho, h4, h8, h10, h11, h13, hh4_0, hh37_1, hh47_0⟩ := (hM _ _).1 hMk
        clear hMk
        have ht1 := htle m
        have ht2 := htge m
        simp -implicitDefEqProofs (disch := omega) only [h4, h8, h10, h11, h13, hh4_0, hh37_1, hh47_0, go_sem, ↓reduceIte, Nat.reduceAdd, Nat.reduceSub, Nat.reduceEqDiff, Nat.reduceLeDiff, reduceCtorEq]
        refine wp_if_d (fun hlt2 => ?_) (fun hge2 => ?_)
        · have hmj : a[m]? = some a[m] := List.getElem?_eq_getElem hlt2
          have htj := htake m hlt2
          have ht3 := htle (m + 1)
          have hqb := hab _ (List.mem_of_getElem? hmj)
          generalize a[m] = q at hmj htj hqb
          have hq20 := hqb.1
          have hq21 := hqb.2
          by_cases hqx : q.1 = x.group
          · rw [if_pos hqx] at htj
            have hmx : max 0 (o - q.2) = o - q.2 := by omega
            simp -implicitDefEqProofs (disch := omega) only [h4, h8, h10, h11, h13, hh4_0, hh37_1, hh47_0, hlt2, hmj, hgetY, hqx, hsetY, hmx, List.headD_cons, go_sem, ↓reduceIte, Nat.reduceAdd, Nat.reduceSub, Nat.reduceEqDiff, Nat.reduceLeDiff, reduceCtorEq]
            try refine And.intro (by omega) ?_
            refine (hM _ _).2 ⟨o - q.2, ?_, ?_, ?_, ?_, ?_, ?_, ?_, ?_, ?_⟩
            · exact by omega
            all_goals first | with_reducible rfl | (simp -implicitDefEqProofs (disch := omega) only [h4, h8, h10, h11, h13, hh4_0, hh37_1, hh47_0, List.map_append, go_sem, ↓reduceIte, Nat.reduceAdd, Nat.reduceSub, Nat.reduceEqDiff, Nat.reduceLeDiff, reduceCtorEq]; first | done | rfl | (simp; done) | (congr 2; omega) | (congr 1; omega) | (congr 3; omega) | (simp; omega) | (congr 2; simp; omega) | (refine ⟨_, rfl, ?_⟩; first | rfl | (simp -implicitDefEqProofs (disch := omega) only [h4, h8, h10, h11, h13, hh4_0, hh37_1, hh47_0, List.map_append, go_sem, ↓reduceIte, Nat.reduceAdd, Nat.reduceSub, Nat.reduceEqDiff, Nat.reduceLeDiff, reduceCtorEq]; done))) | rfl | omega | (congr 2; omega)
          · rw [if_neg hqx] at htj
            simp -implicitDefEqProofs (disch := omega) only [h4, h8, h10, h11, h13, hh4_0, hh37_1, hh47_0, hlt2, hmj, hgetY, hqx, go_sem, ↓reduceIte, Nat.reduceAdd, Nat.reduceSub, Nat.reduceEqDiff, Nat.reduceLeDiff, reduceCtorEq]
            try refine And.intro (by omega) ?_
            refine (hM _ _).2 ⟨o, ?_, ?_, ?_, ?_, ?_, ?_, ?_, ?_, ?_⟩
            · exact by omega
            all_goals first | with_reducible rfl | (simp -implicitDefEqProofs (disch := omega) only [h4, h8, h10, h11, h13, hh4_0, hh37_1, hh47_0, List.map_append, go_sem, ↓reduceIte, Nat.reduceAdd, Nat.reduceSub, Nat.reduceEqDiff, Nat.reduceLeDiff, reduceCtorEq]; first | done | rfl | (simp; done) | (congr 2; omega) | (congr 1; omega) | (congr 3; omega) | (simp; omega) | (congr 2; simp; omega) | (refine ⟨_, rfl, ?_⟩; first | rfl | (simp -implicitDefEqProofs (disch := omega) only [h4, h8, h10, h11, h13, hh4_0, hh37_1, hh47_0, List.map_append, go_sem, ↓reduceIte, Nat.reduceAdd, Nat.reduceSub, Nat.reduceEqDiff, Nat.reduceLeDiff, reduceCtorEq]; done))) | rfl | omega | (congr 2; omega)
        · rw [List.take_of_length_le (by omega)] at ho
          have hyo : Y o = leftPt t a x := by rw [hY, hF, ho, if_neg hrm]
          simp -implicitDefEqProofs (disch := omega) only [h4, h8, h10, h11, h13, hh4_0, hh37_1, hh47_0, hge2, go_sem, ↓reduceIte, Nat.reduceAdd, Nat.reduceSub, Nat.reduceEqDiff, Nat.reduceLeDiff, reduceCtorEq]
          try refine And.intro (by omega) ?_
          refine (hI _ _).2 ⟨arr.set k (Y o), ?_, ?_, ?_, ?_, ?_, ?_, ?_, ?_, ?_⟩
          · exact hdone _ hyo
          · exact by rw [List.length_set, hlen2]
          all_goals first | with_reducible rfl | (simp -implicitDefEqProofs (disch := omega) only [h4, h8, h10, h11, h13, hh4_0, hh37_1, hh47_0, List.map_append, go_sem, ↓reduceIte, Nat.reduceAdd, Nat.reduceSub, Nat.reduceEqDiff, Nat.reduceLeDiff, reduceCtorEq]; first | done | rfl | (simp; done) | (congr 2; omega) | (congr 1; omega) | (congr 3; omega) | (simp; omega) | (congr 2; simp; omega) | (refine ⟨_, rfl, ?_⟩; first | rfl | (simp -implicitDefEqProofs (disch := omega) only [h4, h8, h10, h11, h13, hh4_0, hh37_1, hh47_0, List.map_append, go_sem, ↓reduceIte, Nat.reduceAdd, Nat.reduceSub, Nat.reduceEqDiff, Nat.reduceLeDiff, reduceCtorEq]; done))) | rfl | omega | (congr 2; omega)
    · have hkk : k = p.length := by omega
      subst hkk
      rw [List.take_length, List.drop_length, List.append_nil] at harr
      subst harr
      have htk : List.take p.length (List.map Pt.pv (p.map (leftPt t a))) = List.map Pt.pv (p.map (leftPt t a)) := List.take_of_length_le (by simp)
      simp -implicitDefEqProofs (disch := omega) only [h4, h8, h10, h11, hh4_0, hh37_1, hh47_0, hge, htk, hcq, hsane, go_sem, ↓reduceIte, Nat.reduceAdd, Nat.reduceSub, Nat.reduceEqDiff, Nat.reduceLeDiff, reduceCtorEq]
  · rw [decide_eq_false hL] at hli
    simp -implicitDefEqProofs (disch := omega) only [vf7, vb7, hli, hsane, go_sem, ↓reduceIte, Nat.reduceAdd, Nat.reduceSub, Nat.reduceEqDiff, Nat.reduceLeDiff, reduceCtorEq]
end Go.V

