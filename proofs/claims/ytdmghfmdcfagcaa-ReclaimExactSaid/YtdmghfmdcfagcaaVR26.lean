/- The value machine V at work: the reference's valid parts, capacities and divisions. -/
import Derived.Test.YtdmghfmdcfagcaaVR25
set_option linter.unusedSimpArgs false
set_option linter.unusedVariables false
namespace Go.V

set_option maxHeartbeats 4000000 in
theorem rvalid24_eq (t : Tr) (l : List Pt) (root : Int) (hn : t.nodes.length < 1000000) (hl : l.length < 1000000) : V 36 [t.vv, .p (ptsP l), .p (.int .i64 root)] [] = some (.p (.bool (validP t l root)), []) := by
  refine V_wp (vf := vf36) rfl ?_
  have htc := rcheck_eq t hn
  have hha := rhas_eq t root hn
  by_cases ht : treeOk t = true
  · have hT := (treeOk_iff t).1 ht
    rw [ht] at htc
    by_cases hh : (findT t root).isSome = true
    · rw [hh] at hha
      have hsub := rsub_eq (t := t) root hn
      have hsl := subT_len hT root
      have hlen := hT.len
      have hnd := nodup_subT hT root
      have hin : InN t.nodes root := by
        rw [findT_ok ht] at hh
        obtain ⟨n, hn, he⟩ := findN_some hh
        obtain ⟨i, hi⟩ := List.getElem?_of_mem hn
        exact ⟨i, n, hi, he⟩
      have hne := (subT_ne hT).2 hin
      have hv : validP t l root = partsOk l (sortU (subT t root)) := by
        rw [validP, ht, Bool.true_and, sortU_msort hnd]
        simp [hne]
      rw [hv]
      have hsu := rsorted_eq (subT t root) (by omega)
      have hsul := sortU_length (subT t root)
      generalize sortU (subT t root) = G at hsu hsul
      by_cases hlg : l.length = G.length
      · have hlg' : (l.length : Int) = G.length := by omega
        simp -implicitDefEqProofs (disch := omega) only [vf36, vb36, htc, hha, hsub, hsu, hlg', go_sem, ↓reduceIte, Nat.reduceAdd, Nat.reduceSub, Nat.reduceEqDiff, Nat.reduceLeDiff, reduceCtorEq]
        obtain ⟨I, hI⟩ : ∃ I : Nat → St → Prop, ∀ k s, I k s ↔ partsOk l G = partsOk (l.drop k) (G.drop k) ∧ s.pe 1 = .p (ptsP l) ∧ s.pe 7 = .own (.slot 22 1) 0 0 G.length ∧ s.pe 8 = .p (.int .i64 k) ∧ s.h (.slot 22 1) = some (0, Ob.arr 1 (List.map (.int .i64) G)) := ⟨_, fun _ _ => Iff.rfl⟩
        refine wp_count (l.length) I ?_ ?_
        · refine (hI _ _).2 ⟨?_, ?_, ?_, ?_, ?_⟩
          · exact rfl
          all_goals first | with_reducible rfl | (simp -implicitDefEqProofs (disch := omega) only [List.map_append, go_sem, ↓reduceIte, Nat.reduceAdd, Nat.reduceSub, Nat.reduceEqDiff, Nat.reduceLeDiff, reduceCtorEq]; first | done | rfl | (simp; done) | (congr 2; omega) | (congr 1; omega) | (congr 3; omega) | (simp; omega) | (congr 2; simp; omega) | (refine ⟨_, rfl, ?_⟩; first | rfl | (simp -implicitDefEqProofs (disch := omega) only [List.map_append, go_sem, ↓reduceIte, Nat.reduceAdd, Nat.reduceSub, Nat.reduceEqDiff, Nat.reduceLeDiff, reduceCtorEq]; done))) | rfl | omega | (congr 2; omega)
        intro k s hk hIk
        obtain ⟨hp, h1, h7, h8, hh22_1⟩ := (hI _ _).1 hIk
        clear hIk
        simp -implicitDefEqProofs (disch := omega) only [h1, h7, h8, hh22_1, go_sem, ↓reduceIte, Nat.reduceAdd, Nat.reduceSub, Nat.reduceEqDiff, Nat.reduceLeDiff, reduceCtorEq]
        refine wp_if_d (fun hlt => ?_) (fun hge => ?_)
        · have hm : l[k]? = some l[k] := List.getElem?_eq_getElem hlt
          have hg : G[k]? = some G[k] := List.getElem?_eq_getElem (by omega)
          have hdr : l.drop k = l[k] :: l.drop (k + 1) := List.drop_eq_getElem_cons hlt
          have hdg : G.drop k = G[k] :: G.drop (k + 1) := List.drop_eq_getElem_cons (by omega)
          generalize l[k] = x at hm hdr
          generalize G[k] = y at hg hdg
          rw [hdr, hdg, partsOk] at hp
          have hbad : ¬ (x.group = y ∧ PtOk x) → partsOk l G = false := fun h => by
            rw [hp, show partOk x y = false from Bool.eq_false_iff.2 fun h2 => h ((partOk_iff x y).1 h2), Bool.false_and]
          have hgood : (x.group = y ∧ PtOk x) → partsOk l G = partsOk (l.drop (k + 1)) (G.drop (k + 1)) := fun h => by
            rw [hp, (partOk_iff x y).2 h, Bool.true_and]
          by_cases hc0 : x.group = y
          · by_cases hc1 : x.usage < 0
            · have hb := hbad (fun h => by have := h.2.u0; omega)
              simp -implicitDefEqProofs (disch := omega) only [h1, h7, h8, hh22_1, hlt, hm, hg, hc0, hc1, hb, go_sem, ↓reduceIte, Nat.reduceAdd, Nat.reduceSub, Nat.reduceEqDiff, Nat.reduceLeDiff, reduceCtorEq]
            · by_cases hc2 : 16777216 < x.usage
              · have hb := hbad (fun h => by have := h.2.u1; omega)
                simp -implicitDefEqProofs (disch := omega) only [h1, h7, h8, hh22_1, hlt, hm, hg, hc0, hc1, hc2, hb, go_sem, ↓reduceIte, Nat.reduceAdd, Nat.reduceSub, Nat.reduceEqDiff, Nat.reduceLeDiff, reduceCtorEq]
              · by_cases hc3 : x.protect < 0
                · have hb := hbad (fun h => by have := h.2.p0; omega)
                  simp -implicitDefEqProofs (disch := omega) only [h1, h7, h8, hh22_1, hlt, hm, hg, hc0, hc1, hc2, hc3, hb, go_sem, ↓reduceIte, Nat.reduceAdd, Nat.reduceSub, Nat.reduceEqDiff, Nat.reduceLeDiff, reduceCtorEq]
                · by_cases hc4 : 16777216 < x.protect
                  · have hb := hbad (fun h => by have := h.2.p1; omega)
                    simp -implicitDefEqProofs (disch := omega) only [h1, h7, h8, hh22_1, hlt, hm, hg, hc0, hc1, hc2, hc3, hc4, hb, go_sem, ↓reduceIte, Nat.reduceAdd, Nat.reduceSub, Nat.reduceEqDiff, Nat.reduceLeDiff, reduceCtorEq]
                  · by_cases hc5 : x.own < 0
                    · have hb := hbad (fun h => by have := h.2.o0; omega)
                      simp -implicitDefEqProofs (disch := omega) only [h1, h7, h8, hh22_1, hlt, hm, hg, hc0, hc1, hc2, hc3, hc4, hc5, hb, go_sem, ↓reduceIte, Nat.reduceAdd, Nat.reduceSub, Nat.reduceEqDiff, Nat.reduceLeDiff, reduceCtorEq]
                    · by_cases hc6 : 16777216 < x.own
                      · have hb := hbad (fun h => by have := h.2.o1; omega)
                        simp -implicitDefEqProofs (disch := omega) only [h1, h7, h8, hh22_1, hlt, hm, hg, hc0, hc1, hc2, hc3, hc4, hc5, hc6, hb, go_sem, ↓reduceIte, Nat.reduceAdd, Nat.reduceSub, Nat.reduceEqDiff, Nat.reduceLeDiff, reduceCtorEq]
                      · by_cases hc7 : x.room < 0
                        · have hb := hbad (fun h => by have := h.2.r0; omega)
                          simp -implicitDefEqProofs (disch := omega) only [h1, h7, h8, hh22_1, hlt, hm, hg, hc0, hc1, hc2, hc3, hc4, hc5, hc6, hc7, hb, go_sem, ↓reduceIte, Nat.reduceAdd, Nat.reduceSub, Nat.reduceEqDiff, Nat.reduceLeDiff, reduceCtorEq]
                        · by_cases hc8 : 4611686018427387904 < x.room
                          · have hb := hbad (fun h => by have := h.2.r1; omega)
                            simp -implicitDefEqProofs (disch := omega) only [h1, h7, h8, hh22_1, hlt, hm, hg, hc0, hc1, hc2, hc3, hc4, hc5, hc6, hc7, hc8, hb, go_sem, ↓reduceIte, Nat.reduceAdd, Nat.reduceSub, Nat.reduceEqDiff, Nat.reduceLeDiff, reduceCtorEq]
                          · have hg0 : partsOk l G = partsOk (l.drop (k + 1)) (G.drop (k + 1)) := hgood ⟨by omega, ⟨by omega, by omega, by omega, by omega, by omega, by omega, by omega, by omega⟩⟩
                            simp -implicitDefEqProofs (disch := omega) only [h1, h7, h8, hh22_1, hlt, hm, hg, hc0, hc1, hc2, hc3, hc4, hc5, hc6, hc7, hc8, go_sem, ↓reduceIte, Nat.reduceAdd, Nat.reduceSub, Nat.reduceEqDiff, Nat.reduceLeDiff, reduceCtorEq]
                            try refine And.intro (by omega) ?_
                            refine (hI _ _).2 ⟨?_, ?_, ?_, ?_, ?_⟩
                            · exact hg0
                            all_goals first | with_reducible rfl | (simp -implicitDefEqProofs (disch := omega) only [h1, h7, h8, hh22_1, List.map_append, go_sem, ↓reduceIte, Nat.reduceAdd, Nat.reduceSub, Nat.reduceEqDiff, Nat.reduceLeDiff, reduceCtorEq]; first | done | rfl | (simp; done) | (congr 2; omega) | (congr 1; omega) | (congr 3; omega) | (simp; omega) | (congr 2; simp; omega) | (refine ⟨_, rfl, ?_⟩; first | rfl | (simp -implicitDefEqProofs (disch := omega) only [h1, h7, h8, hh22_1, List.map_append, go_sem, ↓reduceIte, Nat.reduceAdd, Nat.reduceSub, Nat.reduceEqDiff, Nat.reduceLeDiff, reduceCtorEq]; done))) | rfl | omega | (congr 2; omega)
          · have hb := hbad (fun h => hc0 h.1)
            simp -implicitDefEqProofs (disch := omega) only [h1, h7, h8, hh22_1, hlt, hm, hg, hc0, hb, go_sem, ↓reduceIte, Nat.reduceAdd, Nat.reduceSub, Nat.reduceEqDiff, Nat.reduceLeDiff, reduceCtorEq]
        · rw [List.drop_of_length_le (by omega), List.drop_of_length_le (by omega), partsOk] at hp
          simp -implicitDefEqProofs (disch := omega) only [h1, h7, h8, hh22_1, hge, hp, go_sem, ↓reduceIte, Nat.reduceAdd, Nat.reduceSub, Nat.reduceEqDiff, Nat.reduceLeDiff, reduceCtorEq]
      · have hlg' : ¬ (l.length : Int) = G.length := by omega
        have hpf : partsOk l G = false := Bool.eq_false_iff.2 fun h => hlg (partsOk_length l G h)
        simp -implicitDefEqProofs (disch := omega) only [vf36, vb36, htc, hha, hsub, hsu, hlg', hpf, go_sem, ↓reduceIte, Nat.reduceAdd, Nat.reduceSub, Nat.reduceEqDiff, Nat.reduceLeDiff, reduceCtorEq]
    · have hh' : (findT t root).isSome = false := by simpa using hh
      rw [hh'] at hha
      have hv : validP t l root = false := Bool.eq_false_iff.2 fun h => by
        obtain ⟨i, n, hi, he⟩ := ((validP_iff t l root).1 h).top
        rw [findT_ok ht, ← he, findN_unique hT.inc hi] at hh'
        simp at hh'
      simp -implicitDefEqProofs (disch := omega) only [vf36, vb36, htc, hha, hv, go_sem, ↓reduceIte, Nat.reduceAdd, Nat.reduceSub, Nat.reduceEqDiff, Nat.reduceLeDiff, reduceCtorEq]
  · have ht' : treeOk t = false := by simpa using ht
    rw [ht'] at htc
    have hv : validP t l root = false := by rw [validP, ht', Bool.false_and]
    simp -implicitDefEqProofs (disch := omega) only [vf36, vb36, htc, hv, go_sem, ↓reduceIte, Nat.reduceAdd, Nat.reduceSub, Nat.reduceEqDiff, Nat.reduceLeDiff, reduceCtorEq]

theorem partOf_cons (x : Pt) (l : List Pt) (g : Int) : partOf (x :: l) g = if x.group = g then x else partOf l g := by
  unfold partOf
  rw [List.find?_cons]
  by_cases h : x.group = g <;> simp [h]
set_option maxHeartbeats 2000000 in
theorem rpart_eq (l : List Pt) (g : Int) (hl : l.length < 1000000) : V 62 [.p (ptsP l), .p (.int .i64 g)] [] = some ((partOf l g).vv, []) := by
  refine V_wp (vf := vf62) rfl ?_
  simp -implicitDefEqProofs (disch := omega) only [vf62, vb62, go_sem, ↓reduceIte, Nat.reduceAdd, Nat.reduceSub, Nat.reduceEqDiff, Nat.reduceLeDiff, reduceCtorEq]
  obtain ⟨I, hI⟩ : ∃ I : Nat → St → Prop, ∀ k s, I k s ↔ partOf l g = partOf (l.drop k) g ∧ s.pe 0 = .p (ptsP l) ∧ s.pe 1 = .p (.int .i64 g) ∧ s.pe 4 = .ptr (.slot 4 0) 0 0 ∧ s.pe 5 = .p (.int .i64 k) ∧ s.h (.slot 4 0) = some (0, Ob.box [.p (.int .i64 0), .p (.int .i64 0), .p (.int .i64 0), .p (.int .i64 0), .p (.int .i64 0)]) := ⟨_, fun _ _ => Iff.rfl⟩
  refine wp_count (l.length) I ?_ ?_
  · refine (hI _ _).2 ⟨?_, ?_, ?_, ?_, ?_, ?_⟩
    · exact rfl
    all_goals first | with_reducible rfl | (simp -implicitDefEqProofs (disch := omega) only [h1, h7, h8, hh22_1, List.map_append, go_sem, ↓reduceIte, Nat.reduceAdd, Nat.reduceSub, Nat.reduceEqDiff, Nat.reduceLeDiff, reduceCtorEq]; first | done | rfl | (simp; done) | (congr 2; omega) | (congr 1; omega) | (congr 3; omega) | (simp; omega) | (congr 2; simp; omega) | (refine ⟨_, rfl, ?_⟩; first | rfl | (simp -implicitDefEqProofs (disch := omega) only [h1, h7, h8, hh22_1, List.map_append, go_sem, ↓reduceIte, Nat.reduceAdd, Nat.reduceSub, Nat.reduceEqDiff, Nat.reduceLeDiff, reduceCtorEq]; done))) | rfl | omega | (congr 2; omega)
  intro k s hk hIk
  obtain ⟨hp, h0, h1, h4, h5, hh4_0⟩ := (hI _ _).1 hIk
  clear hIk
  simp -implicitDefEqProofs (disch := omega) only [h0, h1, h4, h5, hh4_0, go_sem, ↓reduceIte, Nat.reduceAdd, Nat.reduceSub, Nat.reduceEqDiff, Nat.reduceLeDiff, reduceCtorEq]
  refine wp_if_d (fun hlt => ?_) (fun hge => ?_)
  · have hm : l[k]? = some l[k] := List.getElem?_eq_getElem hlt
    have hdr : l.drop k = l[k] :: l.drop (k + 1) := List.drop_eq_getElem_cons hlt
    generalize l[k] = x at hm hdr
    rw [hdr, partOf_cons] at hp
    by_cases hx : x.group = g
    · rw [if_pos hx] at hp
      subst hx
      simp -implicitDefEqProofs (disch := omega) only [h0, h1, h4, h5, hh4_0, hlt, hm, hp, go_sem, ↓reduceIte, Nat.reduceAdd, Nat.reduceSub, Nat.reduceEqDiff, Nat.reduceLeDiff, reduceCtorEq]
      try rfl
    · rw [if_neg hx] at hp
      simp -implicitDefEqProofs (disch := omega) only [h0, h1, h4, h5, hh4_0, hlt, hm, hx, go_sem, ↓reduceIte, Nat.reduceAdd, Nat.reduceSub, Nat.reduceEqDiff, Nat.reduceLeDiff, reduceCtorEq]
      try refine And.intro (by omega) ?_
      refine (hI _ _).2 ⟨?_, ?_, ?_, ?_, ?_, ?_⟩
      · exact hp
      all_goals first | with_reducible rfl | (simp -implicitDefEqProofs (disch := omega) only [h0, h1, h4, h5, hh4_0, List.map_append, go_sem, ↓reduceIte, Nat.reduceAdd, Nat.reduceSub, Nat.reduceEqDiff, Nat.reduceLeDiff, reduceCtorEq]; first | done | rfl | (simp; done) | (congr 2; omega) | (congr 1; omega) | (congr 3; omega) | (simp; omega) | (congr 2; simp; omega) | (refine ⟨_, rfl, ?_⟩; first | rfl | (simp -implicitDefEqProofs (disch := omega) only [h0, h1, h4, h5, hh4_0, List.map_append, go_sem, ↓reduceIte, Nat.reduceAdd, Nat.reduceSub, Nat.reduceEqDiff, Nat.reduceLeDiff, reduceCtorEq]; done))) | rfl | omega | (congr 2; omega)
  · rw [List.drop_of_length_le (by omega)] at hp
    simp -implicitDefEqProofs (disch := omega) only [h0, h1, h4, h5, hh4_0, hge, hp, go_sem, ↓reduceIte, Nat.reduceAdd, Nat.reduceSub, Nat.reduceEqDiff, Nat.reduceLeDiff, reduceCtorEq]
    rfl
end Go.V

