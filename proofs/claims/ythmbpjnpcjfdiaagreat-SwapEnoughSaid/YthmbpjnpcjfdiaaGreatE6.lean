/- Part 6 of what the row stands on: the value machine and its walks. Nothing is assumed. -/
import Derived.Test.YthmbpjnpcjfdiaaGreatE4
set_option linter.unusedSimpArgs false
set_option linter.unusedVariables false
open Nat (reduceAdd reduceSub reduceEqDiff reduceLeDiff)
namespace Go.V
set_option maxHeartbeats 4000000 in
theorem rvalid24_eq (t : Tr) (l : List Pt) (root : Int) (hn : t.nodes.length < 1000000) (hl : l.length < 1000000) : V 45 [t.vv, .p (ptsP l), .p (.int .i64 root)] [] = some (.p (.bool (validP t l root)), []) := by
 refine V_wp (vf := vf45) rfl ?_
 have htc := rcheck_eq t hn
 have hha := rhas_eq t root hn
 by_cases ht : treeOk t = true
 ·have hT := (treeOk_iff t).1 ht
  rw [ht] at htc
  by_cases hh : (findT t root).isSome = true
  ·rw [hh] at hha
   have hsub := rsub_eq (t := t) root hn
   have hsl := subT_len hT root
   have hlen := hT.len
   have hnd := nodup_subT hT root
   have hin : InN t.nodes root := by
    rw [findT_ok ht] at hh
    obtain ⟨n, hn, he⟩ := findN_some hh
    obtain ⟨i, hi⟩ := List.getElem?_of_mem hn
    exact ⟨i, n, hi, he⟩
   have hne := (subT_ne hT).2 hin
   have hv : validP t l root = partsOk l (sortU (subT t root)) := by
    rw [validP, ht, Bool.true_and, sortU_msort hnd]
    simp [hne]
   rw [hv]
   have hsu := rsorted_eq (subT t root) (by omega)
   have hsul := sortU_length (subT t root)
   generalize sortU (subT t root) = G at hsu hsul
   by_cases hlg : l.length = G.length
   ·have hlg' : (l.length : Int) = G.length := by omega
    simp -implicitDefEqProofs (disch := omega) only [vf45, vb45, htc, hha, hsub, hsu, hlg', go_sem, ↓reduceIte, reduceAdd, reduceSub, reduceEqDiff, reduceLeDiff, reduceCtorEq]
    obtain ⟨I, hI⟩ : ∃ I : Nat → St → Prop, ∀ k s, I k s ↔ partsOk l G = partsOk (l.drop k) (G.drop k) ∧ s.pe 1 = .p (ptsP l) ∧ s.pe 7 = .own (.slot 22 1) 0 0 G.length ∧ s.pe 8 = .p (.int .i64 k) ∧ s.h (.slot 22 1) = some (0, Ob.arr 1 (List.map (.int .i64) G)) := ⟨_, fun _ _ => Iff.rfl⟩
    refine wp_count (l.length) I ?_ ?_
    ·refine (hI _ _).2 ⟨?_, ?_, ?_, ?_, ?_⟩
     ·rfl
     all_goals exact cl0
    intro k s hk hIk
    obtain ⟨hp, h1, h7, h8, hh22_1⟩ := (hI _ _).1 hIk
    clear hIk
    simp -implicitDefEqProofs (disch := omega) only [h1, h7, h8, hh22_1, go_sem, ↓reduceIte, reduceAdd, reduceSub, reduceEqDiff, reduceLeDiff, reduceCtorEq]
    refine wp_if_d (fun hlt => ?_) (fun hge => ?_)
    ·have hm : l[k]? = some l[k] := List.getElem?_eq_getElem hlt
     have hg : G[k]? = some G[k] := List.getElem?_eq_getElem (by omega)
     have hdr : l.drop k = l[k] :: l.drop (k + 1) := List.drop_eq_getElem_cons hlt
     have hdg : G.drop k = G[k] :: G.drop (k + 1) := List.drop_eq_getElem_cons (by omega)
     generalize l[k] = x at hm hdr
     generalize G[k] = y at hg hdg
     rw [hdr, hdg, partsOk] at hp
     have hbad : ¬ (x.group = y ∧ PtOk x) → partsOk l G = false := fun h => by
      rw [hp, show partOk x y = false from Bool.eq_false_iff.2 fun h2 => h ((partOk_iff x y).1 h2), Bool.false_and]
     have hgood : (x.group = y ∧ PtOk x) → partsOk l G = partsOk (l.drop (k + 1)) (G.drop (k + 1)) := fun h => by
      rw [hp, (partOk_iff x y).2 h, Bool.true_and]
     by_cases hc0 : x.group = y
     ·by_cases hc1 : x.usage < 0
      ·have hb := hbad (fun h => by have := h.2.u0; omega)
       simp -implicitDefEqProofs (disch := omega) only [h1, h7, h8, hh22_1, hlt, hm, hg, hc0, hc1, hb, go_sem, ↓reduceIte, reduceAdd, reduceSub, reduceEqDiff, reduceLeDiff, reduceCtorEq]
      ·by_cases hc2 : 16777216 < x.usage
       ·have hb := hbad (fun h => by have := h.2.u1; omega)
        simp -implicitDefEqProofs (disch := omega) only [h1, h7, h8, hh22_1, hlt, hm, hg, hc0, hc1, hc2, hb, go_sem, ↓reduceIte, reduceAdd, reduceSub, reduceEqDiff, reduceLeDiff, reduceCtorEq]
       ·by_cases hc3 : x.protect < 0
        ·have hb := hbad (fun h => by have := h.2.p0; omega)
         simp -implicitDefEqProofs (disch := omega) only [h1, h7, h8, hh22_1, hlt, hm, hg, hc0, hc1, hc2, hc3, hb, go_sem, ↓reduceIte, reduceAdd, reduceSub, reduceEqDiff, reduceLeDiff, reduceCtorEq]
        ·by_cases hc4 : 16777216 < x.protect
         ·have hb := hbad (fun h => by have := h.2.p1; omega)
          simp -implicitDefEqProofs (disch := omega) only [h1, h7, h8, hh22_1, hlt, hm, hg, hc0, hc1, hc2, hc3, hc4, hb, go_sem, ↓reduceIte, reduceAdd, reduceSub, reduceEqDiff, reduceLeDiff, reduceCtorEq]
         ·by_cases hc5 : x.own < 0
          ·have hb := hbad (fun h => by have := h.2.o0; omega)
           simp -implicitDefEqProofs (disch := omega) only [h1, h7, h8, hh22_1, hlt, hm, hg, hc0, hc1, hc2, hc3, hc4, hc5, hb, go_sem, ↓reduceIte, reduceAdd, reduceSub, reduceEqDiff, reduceLeDiff, reduceCtorEq]
          ·by_cases hc6 : 16777216 < x.own
           ·have hb := hbad (fun h => by have := h.2.o1; omega)
            simp -implicitDefEqProofs (disch := omega) only [h1, h7, h8, hh22_1, hlt, hm, hg, hc0, hc1, hc2, hc3, hc4, hc5, hc6, hb, go_sem, ↓reduceIte, reduceAdd, reduceSub, reduceEqDiff, reduceLeDiff, reduceCtorEq]
           ·by_cases hc7 : x.room < 0
            ·have hb := hbad (fun h => by have := h.2.r0; omega)
             simp -implicitDefEqProofs (disch := omega) only [h1, h7, h8, hh22_1, hlt, hm, hg, hc0, hc1, hc2, hc3, hc4, hc5, hc6, hc7, hb, go_sem, ↓reduceIte, reduceAdd, reduceSub, reduceEqDiff, reduceLeDiff, reduceCtorEq]
            ·by_cases hc8 : 4611686018427387904 < x.room
             ·have hb := hbad (fun h => by have := h.2.r1; omega)
              simp -implicitDefEqProofs (disch := omega) only [h1, h7, h8, hh22_1, hlt, hm, hg, hc0, hc1, hc2, hc3, hc4, hc5, hc6, hc7, hc8, hb, go_sem, ↓reduceIte, reduceAdd, reduceSub, reduceEqDiff, reduceLeDiff, reduceCtorEq]
             ·have hg0 : partsOk l G = partsOk (l.drop (k + 1)) (G.drop (k + 1)) := hgood ⟨by omega, ⟨by omega, by omega, by omega, by omega, by omega, by omega, by omega, by omega⟩⟩
              simp -implicitDefEqProofs (disch := omega) only [h1, h7, h8, hh22_1, hlt, hm, hg, hc0, hc1, hc2, hc3, hc4, hc5, hc6, hc7, hc8, go_sem, ↓reduceIte, reduceAdd, reduceSub, reduceEqDiff, reduceLeDiff, reduceCtorEq]
              try refine And.intro (by omega) ?_
              refine (hI _ _).2 ⟨?_, ?_, ?_, ?_, ?_⟩
              ·exact hg0
              all_goals exact cl0
     ·have hb := hbad (fun h => hc0 h.1)
      simp -implicitDefEqProofs (disch := omega) only [h1, h7, h8, hh22_1, hlt, hm, hg, hc0, hb, go_sem, ↓reduceIte, reduceAdd, reduceSub, reduceEqDiff, reduceLeDiff, reduceCtorEq]
    ·rw [List.drop_of_length_le (by omega), List.drop_of_length_le (by omega), partsOk] at hp
     simp -implicitDefEqProofs (disch := omega) only [h1, h7, h8, hh22_1, hge, hp, go_sem, ↓reduceIte, reduceAdd, reduceSub, reduceEqDiff, reduceLeDiff, reduceCtorEq]
   ·have hlg' : ¬ (l.length : Int) = G.length := by omega
    have hpf : partsOk l G = false := Bool.eq_false_iff.2 fun h => hlg (partsOk_length l G h)
    simp -implicitDefEqProofs (disch := omega) only [vf45, vb45, htc, hha, hsub, hsu, hlg', hpf, go_sem, ↓reduceIte, reduceAdd, reduceSub, reduceEqDiff, reduceLeDiff, reduceCtorEq]
  ·have hh' : (findT t root).isSome = false := by simpa using hh
   rw [hh'] at hha
   have hv : validP t l root = false := Bool.eq_false_iff.2 fun h => by
    obtain ⟨i, n, hi, he⟩ := ((validP_iff t l root).1 h).top
    rw [findT_ok ht, ← he, findN_unique hT.inc hi] at hh'
    simp at hh'
   simp -implicitDefEqProofs (disch := omega) only [vf45, vb45, htc, hha, hv, go_sem, ↓reduceIte, reduceAdd, reduceSub, reduceEqDiff, reduceLeDiff, reduceCtorEq]
 ·have ht' : treeOk t = false := by simpa using ht
  rw [ht'] at htc
  have hv : validP t l root = false := by rw [validP, ht', Bool.false_and]
  simp -implicitDefEqProofs (disch := omega) only [vf45, vb45, htc, hv, go_sem, ↓reduceIte, reduceAdd, reduceSub, reduceEqDiff, reduceLeDiff, reduceCtorEq]
theorem partOf_cons (x : Pt) (l : List Pt) (g : Int) : partOf (x :: l) g = if x.group = g then x else partOf l g := by
 unfold partOf
 rw [List.find?_cons]
 by_cases h : x.group = g <;> simp [h]
set_option maxHeartbeats 2000000 in
theorem rpart_eq (l : List Pt) (g : Int) (hl : l.length < 1000000) : V 87 [.p (ptsP l), .p (.int .i64 g)] [] = some ((partOf l g).vv, []) := by
 refine V_wp (vf := vf87) rfl ?_
 simp -implicitDefEqProofs (disch := omega) only [vf87, vb87, go_sem, ↓reduceIte, reduceAdd, reduceSub, reduceEqDiff, reduceLeDiff, reduceCtorEq]
 obtain ⟨I, hI⟩ : ∃ I : Nat → St → Prop, ∀ k s, I k s ↔ partOf l g = partOf (l.drop k) g ∧ s.pe 0 = .p (ptsP l) ∧ s.pe 1 = .p (.int .i64 g) ∧ s.pe 4 = .ptr (.slot 4 0) 0 0 ∧ s.pe 5 = .p (.int .i64 k) ∧ s.h (.slot 4 0) = some (0, Ob.box [.p (.int .i64 0), .p (.int .i64 0), .p (.int .i64 0), .p (.int .i64 0), .p (.int .i64 0)]) := ⟨_, fun _ _ => Iff.rfl⟩
 refine wp_count (l.length) I ?_ ?_
 ·refine (hI _ _).2 ⟨?_, ?_, ?_, ?_, ?_, ?_⟩
  ·rfl
  all_goals exact cl0
 intro k s hk hIk
 obtain ⟨hp, h0, h1, h4, h5, hh4_0⟩ := (hI _ _).1 hIk
 clear hIk
 simp -implicitDefEqProofs (disch := omega) only [h0, h1, h4, h5, hh4_0, go_sem, ↓reduceIte, reduceAdd, reduceSub, reduceEqDiff, reduceLeDiff, reduceCtorEq]
 refine wp_if_d (fun hlt => ?_) (fun hge => ?_)
 ·have hm : l[k]? = some l[k] := List.getElem?_eq_getElem hlt
  have hdr : l.drop k = l[k] :: l.drop (k + 1) := List.drop_eq_getElem_cons hlt
  generalize l[k] = x at hm hdr
  rw [hdr, partOf_cons] at hp
  by_cases hx : x.group = g
  ·rw [if_pos hx] at hp
   subst hx
   simp -implicitDefEqProofs (disch := omega) only [h0, h1, h4, h5, hh4_0, hlt, hm, hp, go_sem, ↓reduceIte, reduceAdd, reduceSub, reduceEqDiff, reduceLeDiff, reduceCtorEq]
   try rfl
  ·rw [if_neg hx] at hp
   simp -implicitDefEqProofs (disch := omega) only [h0, h1, h4, h5, hh4_0, hlt, hm, hx, go_sem, ↓reduceIte, reduceAdd, reduceSub, reduceEqDiff, reduceLeDiff, reduceCtorEq]
   try refine And.intro (by omega) ?_
   refine (hI _ _).2 ⟨?_, ?_, ?_, ?_, ?_, ?_⟩
   ·exact hp
   all_goals exact cl0
 ·rw [List.drop_of_length_le (by omega)] at hp
  simp -implicitDefEqProofs (disch := omega) only [h0, h1, h4, h5, hh4_0, hge, hp, go_sem, ↓reduceIte, reduceAdd, reduceSub, reduceEqDiff, reduceLeDiff, reduceCtorEq]
  rfl
set_option maxHeartbeats 2000000 in
theorem rcap24_eq0 {t : Tr} (h : TreeOk t) {l : List Pt} (hl : l.length < 1000000) (hp : ∀ x ∈ l, PtOk x) : ∀ (k i : Nat) (n : Nd), t.nodes[i]? = some n → t.nodes.length ≤ i + k → V 46 [t.vv, .p (ptsP l), .p (.int .i64 n.id)] [] = some (.p (.int .i64 (capN t.nodes l k n.id)), []) := by
 intro k
 induction k with
 | zero => intro i n hn hk; have := (List.getElem?_eq_some_iff.1 hn).1; omega
 | succ k ih =>
  intro i n hn hk
  have hlen := h.len
  refine V_wp (vf := vf46) rfl ?_
  have hkd := rkids_eq t n.id (by omega)
  rw [kids_in h ⟨i, n, hn, rfl⟩] at hkd
  have hkl := kidsN_len t.nodes n.id
  have hkm : ∀ c ∈ kidsN t.nodes n.id, V 46 [t.vv, .p (ptsP l), .p (.int .i64 c)] [] = some (.p (.int .i64 (capN t.nodes l k c)), []) := by
   intro c hc
   obtain ⟨j, m, hj, hp, rfl⟩ := mem_kidsN.1 hc
   have hij := h.kid hn hj hp
   exact ih j m hj (by omega)
  rw [capN_succ, capF]
  have hx := partOf_ok hp n.id
  have hu0 := hx.u0; have hu1 := hx.u1; have hp0 := hx.p0; have hp1 := hx.p1; have ho0 := hx.o0; have ho1 := hx.o1; have hr0 := hx.r0; have hr1 := hx.r1
  clear hx
  have hpt := rpart_eq l n.id hl
  generalize partOf l n.id = x at hpt hu0 hu1 hp0 hp1 ho0 ho1 hr0 hr1
  generalize kidsN t.nodes n.id = ks at hkd hkl hkm
  simp only [Pt.vv] at hpt
  simp -implicitDefEqProofs (disch := omega) only [vf46, vb46, hkd, hpt, go_sem, ↓reduceIte, reduceAdd, reduceSub, reduceEqDiff, reduceLeDiff, reduceCtorEq]
  obtain ⟨J, hJ⟩ : ∃ I : Nat → St → Prop, ∀ j s, I j s ↔ ∃ (s0 : Int), s0 = x.own + sumI ((ks.take j).map (capN t.nodes l k)) ∧ 0 ≤ s0 ∧ s0 ≤ 16777216 * (j + 1) ∧ s.pe 1 = .p (ptsP l) ∧ s.pe 3 = .ptr (.slot 3 0) 0 0 ∧ s.pe 7 = .ptr (.slot 7 0) 0 0 ∧ s.pe 8 = .p (.int .i64 s0) ∧ s.pe 9 = .own (.slot 18 1) 0 0 ks.length ∧ s.pe 10 = .p (.int .i64 j) ∧ s.h (.slot 3 0) = some (0, Ob.box [.p (nodesP t.nodes), .p (.int .i64 t.next)]) ∧ s.h (.slot 7 0) = some (0, Ob.box [.p (.int .i64 x.group), .p (.int .i64 x.usage), .p (.int .i64 x.protect), .p (.int .i64 x.own), .p (.int .i64 x.room)]) ∧ s.h (.slot 18 1) = some (0, Ob.arr 1 (List.map (.int .i64) ks)) := ⟨_, fun _ _ => Iff.rfl⟩
  refine wp_count (ks.length) J ?_ ?_
  ·refine (hJ _ _).2 ⟨x.own, ?_, ?_, ?_, ?_, ?_, ?_, ?_, ?_, ?_, ?_, ?_, ?_⟩
   ·exact by simp [sumI]
   ·exact cl3
   ·exact cl3
   all_goals exact cl0
  intro j s hj hJk
  obtain ⟨s0, hs0, hs1, hs2, h1, h3, h7, h8, h9, h10, hh3_0, hh7_0, hh18_1⟩ := (hJ _ _).1 hJk
  clear hJk
  simp -implicitDefEqProofs (disch := omega) only [h1, h3, h7, h8, h9, h10, hh3_0, hh7_0, hh18_1, go_sem, ↓reduceIte, reduceAdd, reduceSub, reduceEqDiff, reduceLeDiff, reduceCtorEq]
  refine wp_if_d (fun hlt => ?_) (fun hge => ?_)
  ·have hm : ks[j]? = some ks[j] := List.getElem?_eq_getElem hlt
   have htk := sumI_take_succ (f := capN t.nodes l k) hm
   generalize ks[j] = c at hm htk
   have hc := hkm c (List.mem_of_getElem? hm)
   have hb := capN_bound (ns := t.nodes) hp k c
   generalize capN t.nodes l k c = v at hc hb htk
   have hb0 := hb.1
   have hb1 := hb.2
   simp -implicitDefEqProofs (disch := omega) only [h1, h3, h7, h8, h9, h10, hh3_0, hh7_0, hh18_1, hlt, hm, hc, go_sem, ↓reduceIte, reduceAdd, reduceSub, reduceEqDiff, reduceLeDiff, reduceCtorEq]
   try refine And.intro (by omega) ?_
   refine (hJ _ _).2 ⟨s0 + v, ?_, ?_, ?_, ?_, ?_, ?_, ?_, ?_, ?_, ?_, ?_, ?_⟩
   ·exact by rw [htk, hs0]; omega
   ·omega
   ·omega
   all_goals exact cl0
  ·rw [List.take_of_length_le (by omega)] at hs0
   have hmm : min (min (max 0 (x.usage - x.protect)) x.room) (x.own + sumI (ks.map (capN t.nodes l k))) = min (min s0 x.room) (max 0 (x.usage - x.protect)) := by omega
   simp -implicitDefEqProofs (disch := omega) only [h1, h3, h7, h8, h9, h10, hh3_0, hh7_0, hh18_1, hge, hmm, go_sem, ↓reduceIte, reduceAdd, reduceSub, reduceEqDiff, reduceLeDiff, reduceCtorEq]
theorem rcap24_eq {t : Tr} (h : TreeOk t) {l : List Pt} (hl : l.length < 1000000) (hp : ∀ x ∈ l, PtOk x) {g : Int} (hg : InN t.nodes g) : V 46 [t.vv, .p (ptsP l), .p (.int .i64 g)] [] = some (.p (.int .i64 (capR t l g)), []) := by
 obtain ⟨i, n, hn, rfl⟩ := hg
 exact rcap24_eq0 h hl hp _ i n hn (by omega)
theorem Rep.congr {ks : List MKey} {vs : List PV} {f g : Int → Int} (h : Rep ks vs f) (hfg : ∀ x, f x = g x) : Rep ks vs g := fun id => by rw [h id, hfg]
theorem rcapacity_eq (t : Tr) (l : List Pt) (root : Int) (hn : t.nodes.length < 1000000) (hl : l.length < 1000000) : V 19 [t.vv, .p (ptsP l), .p (.int .i64 root)] [] = some (.tup [.p (.int .i64 (CapP t l root).1), .p (.int .i64 (CapP t l root).2)], []) := by
 refine V_wp (vf := vf19) rfl ?_
 have hv := rvalid24_eq t l root hn hl
 unfold CapP
 by_cases h : validP t l root = true
 ·have hP := (validP_iff t l root).1 h
  have hc := rcap24_eq hP.tree hl hP.ok hP.top
  rw [h] at hv
  rw [if_pos h]
  simp -implicitDefEqProofs (disch := omega) only [vf19, vb19, hv, hc, go_sem, ↓reduceIte, reduceAdd, reduceSub, reduceEqDiff, reduceLeDiff, reduceCtorEq]
 ·have h' : validP t l root = false := by simpa using h
  rw [h'] at hv
  rw [if_neg h]
  simp -implicitDefEqProofs (disch := omega) only [vf19, vb19, hv, go_sem, ↓reduceIte, reduceAdd, reduceSub, reduceEqDiff, reduceLeDiff, reduceCtorEq]
end Go.V
