/- The law IofairDivides in the value machine. -/
import Derived.Test.YtcljahgcdbohaaaVI5
set_option linter.unusedSimpArgs false
set_option linter.unusedVariables false
namespace Go.V
-- closer: sumI

theorem filter_length_le' (p : Int → Bool) (l : List Int) (k : Nat) : ((l.take k).filter p).length ≤ k := by
  have h1 := List.length_filter_le p (l.take k)
  rw [List.length_take] at h1
  omega

set_option maxHeartbeats 4000000 in
theorem iofairDivides_eq (L : List Int) : V 9 [.p (intsP L)] [] = some (.p (.bool true), []) := by
  refine V_wp (vf := vf9) rfl ?_
  have hli := light_eq (L.map (PV.int .i64))
  rw [List.length_map] at hli
  by_cases hL : L.length ≤ 600
  · rw [decide_eq_true hL] at hli
    have hro := roll_eq L
    have htr : V 23 [.ptr (.arg 0 0) 0 0, .p (.int .i64 9)] [.box [.p (intsP L), .p (.int .i64 0)]] = some ((dTree L 0 9).1.vv, [diceB L (dTree L 0 9).2]) := tree_eq L 0 9 (by omega) (by omega)
    have hok := dTree_ok L 0 9
    generalize dTree L 0 9 = ta at htr hok
    obtain ⟨t, a0⟩ := ta
    simp only at htr hok
    have hlen := hok.len
    have hhe := heavy_eq L a0 t (by omega) (by omega)
    have hwa := dHeavy_asc L hok a0
    generalize dHeavy L t.nodes a0 = wa at hhe hwa
    obtain ⟨w, a1⟩ := wa
    simp only at hhe hwa
    have hwl := asc_length hwa
    have hso := some_eq L a1 (by omega)
    have hsl := dSome_len L a1
    generalize dSome L a1 = sa at hso hsl
    obtain ⟨act, a2⟩ := sa
    simp only at hso hsl
    have hw1 : ∀ x, 1 ≤ wtOf w x := fun x => (wtOf_range (fun c hc => hwa.range c hc) x).1
    have hu := onB_up hok act
    have hrange := shr_range hok hw1 hu
    simp -implicitDefEqProofs (disch := omega) only [vf9, vb9, hli, hro, htr, hhe, hso, go_sem, ↓reduceIte, Nat.reduceAdd, Nat.reduceSub, Nat.reduceEqDiff, Nat.reduceLeDiff, reduceCtorEq]
    obtain ⟨I, hI⟩ : ∃ I : Nat → St → Prop, ∀ k s, I k s ↔ s.pe 4 = .ptr (.slot 4 0) 0 0 ∧ s.pe 5 = .own (.slot 27 1) 0 0 w.length ∧ s.pe 6 = .own (.slot 29 1) 0 0 act.length ∧ s.pe 7 = .p (.int .i64 k) ∧ s.h (.slot 4 0) = some (0, Ob.box [.p (nodesP t.nodes), .p (.int .i64 t.next)]) ∧ s.h (.slot 27 1) = some (0, Ob.arr 2 (List.map Ch.pv w)) ∧ s.h (.slot 29 1) = some (0, Ob.arr 1 (List.map (.int .i64) act)) := ⟨_, fun _ _ => Iff.rfl⟩
    refine wp_count (t.nodes.length) I ?_ ?_
    · refine (hI _ _).2 ⟨?_, ?_, ?_, ?_, ?_, ?_, ?_⟩
      all_goals first | with_reducible rfl | (simp -implicitDefEqProofs (disch := omega) only [List.map_append, go_sem, ↓reduceIte, Nat.reduceAdd, Nat.reduceSub, Nat.reduceEqDiff, Nat.reduceLeDiff, reduceCtorEq]; done) | (simp -implicitDefEqProofs (disch := omega) only [List.map_append, go_sem, ↓reduceIte, Nat.reduceAdd, Nat.reduceSub, Nat.reduceEqDiff, Nat.reduceLeDiff, reduceCtorEq]; first | rfl | (simp; done) | (congr 2; omega) | (congr 1; omega) | (congr 3; omega) | (simp; omega) | (congr 2; simp; omega) | (simp [sumI]; done) | (simp [sumI]; omega)) | rfl | omega | (congr 2; omega) | (simp -implicitDefEqProofs (disch := omega) only [List.map_append, go_sem, ↓reduceIte, Nat.reduceAdd, Nat.reduceSub, Nat.reduceEqDiff, Nat.reduceLeDiff, reduceCtorEq]; refine ⟨_, rfl, ?_⟩; first | (simp -implicitDefEqProofs (disch := omega) only [List.map_append, go_sem, ↓reduceIte, Nat.reduceAdd, Nat.reduceSub, Nat.reduceEqDiff, Nat.reduceLeDiff, reduceCtorEq]; done) | rfl) | (refine ⟨_, by simp -implicitDefEqProofs (disch := omega) only [List.map_append, go_sem, ↓reduceIte, Nat.reduceAdd, Nat.reduceSub, Nat.reduceEqDiff, Nat.reduceLeDiff, reduceCtorEq], ?_⟩; first | (simp -implicitDefEqProofs (disch := omega) only [List.map_append, go_sem, ↓reduceIte, Nat.reduceAdd, Nat.reduceSub, Nat.reduceEqDiff, Nat.reduceLeDiff, reduceCtorEq]; done) | rfl)
    intro k s hk hIk
    obtain ⟨h4, h5, h6, h7, hh4_0, hh27_1, hh29_1⟩ := (hI _ _).1 hIk
    clear hIk
    simp -implicitDefEqProofs (disch := omega) only [h4, h5, h6, h7, hh4_0, hh27_1, hh29_1, go_sem, ↓reduceIte, Nat.reduceAdd, Nat.reduceSub, Nat.reduceEqDiff, Nat.reduceLeDiff, reduceCtorEq]
    refine wp_if_d (fun hlt => ?_) (fun hge => ?_)
    · have hq : t.nodes[k]? = some t.nodes[k] := List.getElem?_eq_getElem hlt
      generalize t.nodes[k] = q at hq
      have d1 := share_at hok hwa act (by omega) hq
      have c3 := rkids_eq t q.id (by omega)
      rw [kids_kidsN (by rw [findT_ok ((treeOk_iff t).2 hok), findN_unique hok.inc hq]; rfl)] at c3
      have hkid := fun x (hx : x ∈ kidsN t.nodes q.id) => mem_kidsN.1 hx
      have hkl : (kidsN t.nodes q.id).length ≤ t.nodes.length := by
        rw [kidsN, List.length_map]
        exact List.length_filter_le _ _
      obtain ⟨v1, v2⟩ := divides hok hw1 hu hq
      have hrq := hrange k q hq
      have hfl := fun k => filter_length_le' (fun x => decide (0 < shr t (wtOf w) (onB t act) x)) (kidsN t.nodes q.id) k
      generalize shr t (wtOf w) (onB t act) q.id = own at d1 v1 v2 hrq
      generalize kidsN t.nodes q.id = A at c3 hkid hkl v1 v2 hfl
      have hkr : ∀ x ∈ A, 0 ≤ shr t (wtOf w) (onB t act) x ∧ shr t (wtOf w) (onB t act) x ≤ 1073741824 := fun x hx => by
        obtain ⟨j, n, hn, _, rfl⟩ := hkid x hx
        exact ⟨(hrange j n hn).1, (hrange j n hn).2.1⟩
      have hps : ∀ k, 0 ≤ sumI ((A.take k).map (shr t (wtOf w) (onB t act))) ∧ sumI ((A.take k).map (shr t (wtOf w) (onB t act))) ≤ 64 * 1073741824 := fun k => by
        have key : ∀ (l : List Int), (∀ x ∈ l, x ∈ A) → 0 ≤ sumI (l.map (shr t (wtOf w) (onB t act))) ∧ sumI (l.map (shr t (wtOf w) (onB t act))) ≤ l.length * 1073741824 := by
          intro l
          induction l with
          | nil => intro _; simp [sumI]
          | cons x l ih =>
            intro hm
            have i1 := ih fun y hy => hm y (List.mem_cons_of_mem _ hy)
            have i2 := hkr x (hm x (List.mem_cons_self ..))
            simp only [List.map_cons, sumI, List.length_cons, Int.natCast_add]
            omega
        have h1 := key (A.take k) fun x hx => List.mem_of_mem_take hx
        have h2 : (A.take k).length ≤ 64 := by simp; omega
        omega
      simp -implicitDefEqProofs (disch := omega) only [h4, h5, h6, h7, hh4_0, hh27_1, hh29_1, hlt, hq, d1, c3, go_sem, ↓reduceIte, Nat.reduceAdd, Nat.reduceSub, Nat.reduceEqDiff, Nat.reduceLeDiff, reduceCtorEq]
      obtain ⟨J, hJ⟩ : ∃ I : Nat → St → Prop, ∀ j s, I j s ↔ ∃ (v53_1 : Nat), s.pe 4 = .ptr (.slot 4 0) 0 0 ∧ s.pe 5 = .own (.slot 27 1) 0 0 w.length ∧ s.pe 6 = .own (.slot 29 1) 0 0 act.length ∧ s.pe 7 = .p (.int .i64 ↑k) ∧ s.pe 9 = .p (.int .i64 own) ∧ s.pe 10 = .p (.int .i64 0) ∧ s.pe 11 = .p (.int .i64 (sumI ((A.take j).map (shr t (wtOf w) (onB t act))))) ∧ s.pe 12 = .p (.int .i64 (((A.take j).filter fun x => decide (0 < shr t (wtOf w) (onB t act) x)).length : Nat)) ∧ s.pe 13 = .own (.slot 53 1) v53_1 0 A.length ∧ s.pe 14 = .p (.int .i64 j) ∧ s.h (.slot 4 0) = some (0, Ob.box [.p (nodesP t.nodes), .p (.int .i64 t.next)]) ∧ s.h (.slot 27 1) = some (0, Ob.arr 2 (List.map Ch.pv w)) ∧ s.h (.slot 29 1) = some (0, Ob.arr 1 (List.map (.int .i64) act)) ∧ s.h (.slot 53 1) = some (v53_1, Ob.arr 1 (List.map (.int .i64) A)) := ⟨_, fun _ _ => Iff.rfl⟩
      refine wp_count (A.length) J ?_ ?_
      · refine (hJ _ _).2 ⟨nv (fzOb [53] s.h (.slot 53 1)), ?_, ?_, ?_, ?_, ?_, ?_, ?_, ?_, ?_, ?_, ?_, ?_, ?_, ?_⟩
        all_goals first | with_reducible rfl | (simp -implicitDefEqProofs (disch := omega) only [h4, h5, h6, h7, hh4_0, hh27_1, hh29_1, List.map_append, go_sem, ↓reduceIte, Nat.reduceAdd, Nat.reduceSub, Nat.reduceEqDiff, Nat.reduceLeDiff, reduceCtorEq]; done) | (simp -implicitDefEqProofs (disch := omega) only [h4, h5, h6, h7, hh4_0, hh27_1, hh29_1, List.map_append, go_sem, ↓reduceIte, Nat.reduceAdd, Nat.reduceSub, Nat.reduceEqDiff, Nat.reduceLeDiff, reduceCtorEq]; first | rfl | (simp; done) | (congr 2; omega) | (congr 1; omega) | (congr 3; omega) | (simp; omega) | (congr 2; simp; omega) | (simp [sumI]; done) | (simp [sumI]; omega)) | rfl | omega | (congr 2; omega) | (simp -implicitDefEqProofs (disch := omega) only [h4, h5, h6, h7, hh4_0, hh27_1, hh29_1, List.map_append, go_sem, ↓reduceIte, Nat.reduceAdd, Nat.reduceSub, Nat.reduceEqDiff, Nat.reduceLeDiff, reduceCtorEq]; refine ⟨_, rfl, ?_⟩; first | (simp -implicitDefEqProofs (disch := omega) only [h4, h5, h6, h7, hh4_0, hh27_1, hh29_1, List.map_append, go_sem, ↓reduceIte, Nat.reduceAdd, Nat.reduceSub, Nat.reduceEqDiff, Nat.reduceLeDiff, reduceCtorEq]; done) | rfl) | (refine ⟨_, by simp -implicitDefEqProofs (disch := omega) only [h4, h5, h6, h7, hh4_0, hh27_1, hh29_1, List.map_append, go_sem, ↓reduceIte, Nat.reduceAdd, Nat.reduceSub, Nat.reduceEqDiff, Nat.reduceLeDiff, reduceCtorEq], ?_⟩; first | (simp -implicitDefEqProofs (disch := omega) only [h4, h5, h6, h7, hh4_0, hh27_1, hh29_1, List.map_append, go_sem, ↓reduceIte, Nat.reduceAdd, Nat.reduceSub, Nat.reduceEqDiff, Nat.reduceLeDiff, reduceCtorEq]; done) | rfl)
      intro j s hj hJk
      obtain ⟨v53_1, h4, h5, h6, h7, h9, h10, h11, h12, h13, h14, hh4_0, hh27_1, hh29_1, hh53_1⟩ := (hJ _ _).1 hJk
      clear hJk
      have p0 := hps j
      have p1 := hps (j + 1)
      have p2 := hfl j
      simp -implicitDefEqProofs (disch := omega) only [h4, h5, h6, h7, h9, h10, h11, h12, h13, h14, hh4_0, hh27_1, hh29_1, hh53_1, go_sem, ↓reduceIte, Nat.reduceAdd, Nat.reduceSub, Nat.reduceEqDiff, Nat.reduceLeDiff, reduceCtorEq]
      refine wp_if_d (fun hjl => ?_) (fun hjg => ?_)
      · have hx : A[j]? = some A[j] := List.getElem?_eq_getElem hjl
        generalize A[j] = x at hx
        have hst := filter_stepI (p := fun x => decide (0 < shr t (wtOf w) (onB t act) x)) hx
        have hsum := sumI_take_succ (f := shr t (wtOf w) (onB t act)) hx
        have hxr := hkr x (List.mem_of_getElem? hx)
        obtain ⟨z, nz, hz, _, rfl⟩ := hkid x (List.mem_of_getElem? hx)
        have d2 := share_at hok hwa act (by omega) hz
        rw [hsum] at p1
        by_cases hp : 0 < shr t (wtOf w) (onB t act) nz.id
        · simp only [hp, decide_true, if_true] at hst
          have hfc := congrArg List.length hst
          rw [List.length_append, List.length_singleton] at hfc
          generalize sumI ((A.take j).map (shr t (wtOf w) (onB t act))) = S at h11 p0 p1 hsum
          generalize ((A.take j).filter fun x => decide (0 < shr t (wtOf w) (onB t act) x)).length = C at h12 p2 hfc
          generalize shr t (wtOf w) (onB t act) nz.id = Z at d2 hsum hxr p1 hp
          have hnn : ¬ Z < 0 := by omega
          simp -implicitDefEqProofs (disch := omega) only [h4, h5, h6, h7, h9, h10, h11, h12, h13, h14, hh4_0, hh27_1, hh29_1, hh53_1, hjl, hx, d2, hnn, hp, go_sem, ↓reduceIte, Nat.reduceAdd, Nat.reduceSub, Nat.reduceEqDiff, Nat.reduceLeDiff, reduceCtorEq]
          try refine And.intro (by omega) ?_
          refine (hJ _ _).2 ⟨v53_1, ?_, ?_, ?_, ?_, ?_, ?_, ?_, ?_, ?_, ?_, ?_, ?_, ?_, ?_⟩
          all_goals first | with_reducible rfl | (simp -implicitDefEqProofs (disch := omega) only [h4, h5, h6, h7, h9, h10, h11, h12, h13, h14, hh4_0, hh27_1, hh29_1, hh53_1, hsum, hfc, List.map_append, go_sem, ↓reduceIte, Nat.reduceAdd, Nat.reduceSub, Nat.reduceEqDiff, Nat.reduceLeDiff, reduceCtorEq]; done) | (simp -implicitDefEqProofs (disch := omega) only [h4, h5, h6, h7, h9, h10, h11, h12, h13, h14, hh4_0, hh27_1, hh29_1, hh53_1, hsum, hfc, List.map_append, go_sem, ↓reduceIte, Nat.reduceAdd, Nat.reduceSub, Nat.reduceEqDiff, Nat.reduceLeDiff, reduceCtorEq]; first | rfl | (simp; done) | (congr 2; omega) | (congr 1; omega) | (congr 3; omega) | (simp; omega) | (congr 2; simp; omega) | (simp [sumI]; done) | (simp [sumI]; omega)) | rfl | omega | (congr 2; omega) | (simp -implicitDefEqProofs (disch := omega) only [h4, h5, h6, h7, h9, h10, h11, h12, h13, h14, hh4_0, hh27_1, hh29_1, hh53_1, hsum, hfc, List.map_append, go_sem, ↓reduceIte, Nat.reduceAdd, Nat.reduceSub, Nat.reduceEqDiff, Nat.reduceLeDiff, reduceCtorEq]; refine ⟨_, rfl, ?_⟩; first | (simp -implicitDefEqProofs (disch := omega) only [h4, h5, h6, h7, h9, h10, h11, h12, h13, h14, hh4_0, hh27_1, hh29_1, hh53_1, hsum, hfc, List.map_append, go_sem, ↓reduceIte, Nat.reduceAdd, Nat.reduceSub, Nat.reduceEqDiff, Nat.reduceLeDiff, reduceCtorEq]; done) | rfl) | (refine ⟨_, by simp -implicitDefEqProofs (disch := omega) only [h4, h5, h6, h7, h9, h10, h11, h12, h13, h14, hh4_0, hh27_1, hh29_1, hh53_1, hsum, hfc, List.map_append, go_sem, ↓reduceIte, Nat.reduceAdd, Nat.reduceSub, Nat.reduceEqDiff, Nat.reduceLeDiff, reduceCtorEq], ?_⟩; first | (simp -implicitDefEqProofs (disch := omega) only [h4, h5, h6, h7, h9, h10, h11, h12, h13, h14, hh4_0, hh27_1, hh29_1, hh53_1, hsum, hfc, List.map_append, go_sem, ↓reduceIte, Nat.reduceAdd, Nat.reduceSub, Nat.reduceEqDiff, Nat.reduceLeDiff, reduceCtorEq]; done) | rfl)
        · simp only [hp, decide_false, Bool.false_eq_true, if_false] at hst
          generalize sumI ((A.take j).map (shr t (wtOf w) (onB t act))) = S at h11 p0 p1 hsum
          generalize shr t (wtOf w) (onB t act) nz.id = Z at d2 hsum hxr p1 hp
          have hnn : ¬ Z < 0 := by omega
          simp -implicitDefEqProofs (disch := omega) only [h4, h5, h6, h7, h9, h10, h11, h12, h13, h14, hh4_0, hh27_1, hh29_1, hh53_1, hjl, hx, d2, hnn, hp, go_sem, ↓reduceIte, Nat.reduceAdd, Nat.reduceSub, Nat.reduceEqDiff, Nat.reduceLeDiff, reduceCtorEq]
          try refine And.intro (by omega) ?_
          refine (hJ _ _).2 ⟨v53_1, ?_, ?_, ?_, ?_, ?_, ?_, ?_, ?_, ?_, ?_, ?_, ?_, ?_, ?_⟩
          all_goals first | with_reducible rfl | (simp -implicitDefEqProofs (disch := omega) only [h4, h5, h6, h7, h9, h10, h11, h12, h13, h14, hh4_0, hh27_1, hh29_1, hh53_1, hsum, hst, List.map_append, go_sem, ↓reduceIte, Nat.reduceAdd, Nat.reduceSub, Nat.reduceEqDiff, Nat.reduceLeDiff, reduceCtorEq]; done) | (simp -implicitDefEqProofs (disch := omega) only [h4, h5, h6, h7, h9, h10, h11, h12, h13, h14, hh4_0, hh27_1, hh29_1, hh53_1, hsum, hst, List.map_append, go_sem, ↓reduceIte, Nat.reduceAdd, Nat.reduceSub, Nat.reduceEqDiff, Nat.reduceLeDiff, reduceCtorEq]; first | rfl | (simp; done) | (congr 2; omega) | (congr 1; omega) | (congr 3; omega) | (simp; omega) | (congr 2; simp; omega) | (simp [sumI]; done) | (simp [sumI]; omega)) | rfl | omega | (congr 2; omega) | (simp -implicitDefEqProofs (disch := omega) only [h4, h5, h6, h7, h9, h10, h11, h12, h13, h14, hh4_0, hh27_1, hh29_1, hh53_1, hsum, hst, List.map_append, go_sem, ↓reduceIte, Nat.reduceAdd, Nat.reduceSub, Nat.reduceEqDiff, Nat.reduceLeDiff, reduceCtorEq]; refine ⟨_, rfl, ?_⟩; first | (simp -implicitDefEqProofs (disch := omega) only [h4, h5, h6, h7, h9, h10, h11, h12, h13, h14, hh4_0, hh27_1, hh29_1, hh53_1, hsum, hst, List.map_append, go_sem, ↓reduceIte, Nat.reduceAdd, Nat.reduceSub, Nat.reduceEqDiff, Nat.reduceLeDiff, reduceCtorEq]; done) | rfl) | (refine ⟨_, by simp -implicitDefEqProofs (disch := omega) only [h4, h5, h6, h7, h9, h10, h11, h12, h13, h14, hh4_0, hh27_1, hh29_1, hh53_1, hsum, hst, List.map_append, go_sem, ↓reduceIte, Nat.reduceAdd, Nat.reduceSub, Nat.reduceEqDiff, Nat.reduceLeDiff, reduceCtorEq], ?_⟩; first | (simp -implicitDefEqProofs (disch := omega) only [h4, h5, h6, h7, h9, h10, h11, h12, h13, h14, hh4_0, hh27_1, hh29_1, hh53_1, hsum, hst, List.map_append, go_sem, ↓reduceIte, Nat.reduceAdd, Nat.reduceSub, Nat.reduceEqDiff, Nat.reduceLeDiff, reduceCtorEq]; done) | rfl)
      · rw [List.take_of_length_le (by omega)] at h11 h12 p0 p2
        generalize sumI (A.map (shr t (wtOf w) (onB t act))) = S at h11 p0 v1 v2
        generalize (A.filter fun x => decide (0 < shr t (wtOf w) (onB t act) x)).length = C at h12 p2 v1 v2
        have w1 : ¬ own + C < S := by omega
        by_cases hC : (0 : Int) < C
        · obtain ⟨v3, w3⟩ := v2 (by omega)
          have w2 : ¬ S < own - C := by omega
          simp -implicitDefEqProofs (disch := omega) only [h4, h5, h6, h7, h9, h10, h11, h12, h13, h14, hh4_0, hh27_1, hh29_1, hh53_1, hjg, w1, hC, w2, w3, go_sem, ↓reduceIte, Nat.reduceAdd, Nat.reduceSub, Nat.reduceEqDiff, Nat.reduceLeDiff, reduceCtorEq]
          try refine And.intro (by omega) ?_
          refine (hI _ _).2 ⟨?_, ?_, ?_, ?_, ?_, ?_, ?_⟩
          all_goals first | with_reducible rfl | (simp -implicitDefEqProofs (disch := omega) only [h4, h5, h6, h7, hh4_0, hh27_1, hh29_1, List.map_append, go_sem, ↓reduceIte, Nat.reduceAdd, Nat.reduceSub, Nat.reduceEqDiff, Nat.reduceLeDiff, reduceCtorEq]; done) | (simp -implicitDefEqProofs (disch := omega) only [h4, h5, h6, h7, hh4_0, hh27_1, hh29_1, List.map_append, go_sem, ↓reduceIte, Nat.reduceAdd, Nat.reduceSub, Nat.reduceEqDiff, Nat.reduceLeDiff, reduceCtorEq]; first | rfl | (simp; done) | (congr 2; omega) | (congr 1; omega) | (congr 3; omega) | (simp; omega) | (congr 2; simp; omega) | (simp [sumI]; done) | (simp [sumI]; omega)) | rfl | omega | (congr 2; omega) | (simp -implicitDefEqProofs (disch := omega) only [h4, h5, h6, h7, hh4_0, hh27_1, hh29_1, List.map_append, go_sem, ↓reduceIte, Nat.reduceAdd, Nat.reduceSub, Nat.reduceEqDiff, Nat.reduceLeDiff, reduceCtorEq]; refine ⟨_, rfl, ?_⟩; first | (simp -implicitDefEqProofs (disch := omega) only [h4, h5, h6, h7, hh4_0, hh27_1, hh29_1, List.map_append, go_sem, ↓reduceIte, Nat.reduceAdd, Nat.reduceSub, Nat.reduceEqDiff, Nat.reduceLeDiff, reduceCtorEq]; done) | rfl) | (refine ⟨_, by simp -implicitDefEqProofs (disch := omega) only [h4, h5, h6, h7, hh4_0, hh27_1, hh29_1, List.map_append, go_sem, ↓reduceIte, Nat.reduceAdd, Nat.reduceSub, Nat.reduceEqDiff, Nat.reduceLeDiff, reduceCtorEq], ?_⟩; first | (simp -implicitDefEqProofs (disch := omega) only [h4, h5, h6, h7, hh4_0, hh27_1, hh29_1, List.map_append, go_sem, ↓reduceIte, Nat.reduceAdd, Nat.reduceSub, Nat.reduceEqDiff, Nat.reduceLeDiff, reduceCtorEq]; done) | rfl)
        · simp -implicitDefEqProofs (disch := omega) only [h4, h5, h6, h7, h9, h10, h11, h12, h13, h14, hh4_0, hh27_1, hh29_1, hh53_1, hjg, w1, hC, go_sem, ↓reduceIte, Nat.reduceAdd, Nat.reduceSub, Nat.reduceEqDiff, Nat.reduceLeDiff, reduceCtorEq]
          try refine And.intro (by omega) ?_
          refine (hI _ _).2 ⟨?_, ?_, ?_, ?_, ?_, ?_, ?_⟩
          all_goals first | with_reducible rfl | (simp -implicitDefEqProofs (disch := omega) only [h4, h5, h6, h7, hh4_0, hh27_1, hh29_1, List.map_append, go_sem, ↓reduceIte, Nat.reduceAdd, Nat.reduceSub, Nat.reduceEqDiff, Nat.reduceLeDiff, reduceCtorEq]; done) | (simp -implicitDefEqProofs (disch := omega) only [h4, h5, h6, h7, hh4_0, hh27_1, hh29_1, List.map_append, go_sem, ↓reduceIte, Nat.reduceAdd, Nat.reduceSub, Nat.reduceEqDiff, Nat.reduceLeDiff, reduceCtorEq]; first | rfl | (simp; done) | (congr 2; omega) | (congr 1; omega) | (congr 3; omega) | (simp; omega) | (congr 2; simp; omega) | (simp [sumI]; done) | (simp [sumI]; omega)) | rfl | omega | (congr 2; omega) | (simp -implicitDefEqProofs (disch := omega) only [h4, h5, h6, h7, hh4_0, hh27_1, hh29_1, List.map_append, go_sem, ↓reduceIte, Nat.reduceAdd, Nat.reduceSub, Nat.reduceEqDiff, Nat.reduceLeDiff, reduceCtorEq]; refine ⟨_, rfl, ?_⟩; first | (simp -implicitDefEqProofs (disch := omega) only [h4, h5, h6, h7, hh4_0, hh27_1, hh29_1, List.map_append, go_sem, ↓reduceIte, Nat.reduceAdd, Nat.reduceSub, Nat.reduceEqDiff, Nat.reduceLeDiff, reduceCtorEq]; done) | rfl) | (refine ⟨_, by simp -implicitDefEqProofs (disch := omega) only [h4, h5, h6, h7, hh4_0, hh27_1, hh29_1, List.map_append, go_sem, ↓reduceIte, Nat.reduceAdd, Nat.reduceSub, Nat.reduceEqDiff, Nat.reduceLeDiff, reduceCtorEq], ?_⟩; first | (simp -implicitDefEqProofs (disch := omega) only [h4, h5, h6, h7, hh4_0, hh27_1, hh29_1, List.map_append, go_sem, ↓reduceIte, Nat.reduceAdd, Nat.reduceSub, Nat.reduceEqDiff, Nat.reduceLeDiff, reduceCtorEq]; done) | rfl)
    · simp -implicitDefEqProofs (disch := omega) only [h4, h5, h6, h7, hh4_0, hh27_1, hh29_1, hge, sane32_eq, go_sem, ↓reduceIte, Nat.reduceAdd, Nat.reduceSub, Nat.reduceEqDiff, Nat.reduceLeDiff, reduceCtorEq]
  · rw [decide_eq_false hL] at hli
    simp -implicitDefEqProofs (disch := omega) only [vf9, vb9, hli, sane32_eq, go_sem, ↓reduceIte, Nat.reduceAdd, Nat.reduceSub, Nat.reduceEqDiff, Nat.reduceLeDiff, reduceCtorEq]
end Go.V

