/- Part 5 of the proof. -/
import Derived.Test.YtmfbifkaonehkaaGreatG4
set_option linter.unusedSimpArgs false
set_option linter.unusedVariables false
open Nat (reduceAdd reduceSub reduceEqDiff reduceLeDiff)
namespace Go.V
abbrev movH (t : Tr) (l : List Mc) (g g' : Gw) : List Ob := [grwC t l (.fresh 4 (g'.stk.hs.map Hg.pv)) g'.stk.size (.own (.arg 2 0) 1 0 g'.shr.length) (.own (.arg 3 0) 1 0 g'.maxes.length) (.own (.arg 4 0) 0 0 g.highs.length) g'.refused, .arr 4 (g.stk.hs.map Hg.pv), .box [.undef, .fresh 4 (g'.shr.map Sh.pv)], .box [.undef, .fresh 1 (g'.maxes.map (.int .i64))], .arr 1 (g.highs.map (.int .i64))]
theorem shrG_len {t : Tr} {l : List Mc} {g : Gw} (hg : StkOk t g.stk) (hl : McOk t.nodes l) {a n : Int} (ha : InN t.nodes a) (hn : 0 ≤ n) : (shrG t l g a n).shr.length ≤ g.shr.length + 64 := by
 have h := (shk_ok (t := t) (sw := g.stk) (p := prsM l) (l := chsM l) (root := a) (n := min n 16777216) ⟨hg, prsM_ok hl, chsM_ok hl, ha⟩ (by omega) (by omega)).1.len
 unfold shrG
 simp only [List.length_append]
 omega
theorem useG_bound {t : Tr} {g : Gw} (hg : StkOk t g.stk) (a : Int) : 0 ≤ useG t g a ∧ useG t g a ≤ 16777216 := usedF_bound hg.tree (cntS_ok hg.hs) a
theorem mostM_bound {ns : List Nd} {l : List Mc} (hl : McOk ns l) (a : Int) : 0 ≤ mostM l a ∧ mostM l a ≤ 4611686018427387904 := by
 have := amtM_bound (getM_amt hl a).2
 unfold mostM
 split <;> omega
theorem room_step {t : Tr} {l : List Mc} {n : Int} {g : Gw} (hS : StkOk t g.stk) (hl : McOk t.nodes l) {a : Int} (ha : InN t.nodes a) (hsl : g.shr.length < 100000) (hn1 : n ≤ 16777216) (ho : 0 < overG t l n g a) : ∃ s1 r1, StkOk t s1 ∧ shrG t l (maxG g a) a (overG t l n g a) = ⟨s1, r1, g.maxes ++ [a], g.highs, g.refused⟩ ∧ r1.length ≤ g.shr.length + 64 ∧
  V 57 [.ptr (.arg 0 0) 0 0, .p (.int .i64 a), .p (.int .i64 (overG t l n g a))] (grwH t l ⟨g.stk, g.shr, g.maxes ++ [a], g.highs, g.refused⟩) = some (.tup [], [grwC t l (.fresh 4 (s1.hs.map Hg.pv)) s1.size (.own (.arg 2 0) 1 0 r1.length) (.own (.arg 3 0) 0 0 (g.maxes ++ [a]).length) (.own (.arg 4 0) 0 0 g.highs.length) g.refused, .arr 4 (g.stk.hs.map Hg.pv), .box [.undef, .fresh 4 (r1.map Sh.pv)], .arr 1 ((g.maxes ++ [a]).map (.int .i64)), .arr 1 (g.highs.map (.int .i64))]) ∧
  V 55 [.ptr (.arg 0 0) 0 0, .p (.int .i64 a)] (grwH t l ⟨s1, r1, g.maxes ++ [a], g.highs, g.refused⟩) = some (.p (.int .i64 (useG t ⟨s1, r1, g.maxes ++ [a], g.highs, g.refused⟩ a)), grwH t l ⟨s1, r1, g.maxes ++ [a], g.highs, g.refused⟩) := by
 have hb := useG_bound hS a
 have hM := mostM_bound hl a
 have h1 := shrG_ok (g := maxG g a) hS hl ha (n := overG t l n g a) (by omega)
 have h2 := shrG_len (g := maxG g a) hS hl ha (n := overG t l n g a) (by omega)
 have h3 := gshrink_eq (g := maxG g a) hS hl ha (n := overG t l n g a) (by omega) (by unfold overG; omega) (by show g.shr.length < _; omega)
 have h4 := gusage_eq l (g := shrG t l (maxG g a) a (overG t l n g a)) h1.stk ha
 exact ⟨(shrG t l (maxG g a) a (overG t l n g a)).stk, (shrG t l (maxG g a) a (overG t l n g a)).shr, h1.stk, rfl, h2, h3, h4⟩
set_option maxHeartbeats 8000000 in
theorem groom_eq {t : Tr} {l : List Mc} {g0 : Gw} (hg0 : StkOk t g0.stk) (hl : McOk t.nodes l) {id n : Int} (hid : InN t.nodes id) (hn : 0 ≤ n) (hn1 : n ≤ 16777216) (hsl : g0.shr.length < 1000) (hml : g0.maxes.length < 1000) :
  (roomG t l n (ancR t id) g0 = (g0, 0) ∧ V 67 [.ptr (.arg 0 0) 0 0, .p (.int .i64 id), .p (.int .i64 n)] (grwH t l g0) = some (.p (.int .i64 0), grwH t l g0)) ∨
  V 67 [.ptr (.arg 0 0) 0 0, .p (.int .i64 id), .p (.int .i64 n)] (grwH t l g0) = some (.p (.int .i64 (roomG t l n (ancR t id) g0).2), movH t l g0 (roomG t l n (ancR t id) g0).1) := by
 suffices hw : wp (callF V vf67 [.ptr (.arg 0 0) 0 0, .p (.int .i64 id), .p (.int .i64 n)] (grwH t l g0)) (fun r => (roomG t l n (ancR t id) g0 = (g0, 0) ∧ r = (.p (.int .i64 0), grwH t l g0)) ∨ r = (.p (.int .i64 (roomG t l n (ancR t id) g0).2), movH t l g0 (roomG t l n (ancR t id) g0).1)) by
  obtain ⟨r, hr, hr2⟩ := hw
  have hV := V_fix (f := 67) (vf := vf67) rfl hr
  rcases hr2 with ⟨h1, rfl⟩ | rfl
  ·exact .inl ⟨h1, hV⟩
  ·exact .inr hV
 have hlen := hg0.tree.len
 have hll := hl.length
 have hanc := fanc_eq t id (by omega)
 rw [← ancR_in hg0.tree hid] at hanc
 have hal := ancR_len t id
 have hai : ∀ a ∈ ancR t id, InN t.nodes a := fun a h => anc_InN hg0.tree hid h
 generalize ancR t id = W at hanc hal hai ⊢
 obtain ⟨A, hA⟩ : ∃ I : Nat → St → Prop, ∀ k s, I k s ↔ roomG t l n W g0 = roomG t l n (W.drop k) g0 ∧ s.pe 0 = .ptr (.arg 0 0) 0 0 ∧ s.pe 2 = .p (.int .i64 n) ∧ s.pe 16 = .own (.slot 16 1) 0 0 W.length ∧ s.pe 17 = .p (.int .i64 ↑W.length) ∧ s.pe 18 = .p (.int .i64 k) ∧ s.h (.arg 0 0) = some (0, grwB t l g0.stk.hs.length g0.stk.size g0.shr.length g0.maxes.length g0.highs.length g0.refused) ∧ s.h (.arg 1 0) = some (0, Ob.arr 4 (g0.stk.hs.map Hg.pv)) ∧ s.h (.arg 2 0) = some (0, Ob.arr 4 (g0.shr.map Sh.pv)) ∧ s.h (.arg 3 0) = some (0, Ob.arr 1 (g0.maxes.map (.int .i64))) ∧ s.h (.arg 4 0) = some (0, Ob.arr 1 (g0.highs.map (.int .i64))) ∧ s.h (.slot 16 1) = some (0, Ob.arr 1 (List.map (.int .i64) W)) := ⟨_, fun _ _ => Iff.rfl⟩
 obtain ⟨B, hB⟩ : ∃ I : Nat → St → Prop, ∀ k s, I k s ↔ ∃ (s1 : Stk) (r1 : List Sh) (m1 : List Int) (w : Nat) (w2 : Nat) (w3 : Nat), roomG t l n W g0 = roomG t l n (W.drop k) ⟨s1, r1, m1, g0.highs, g0.refused⟩ ∧ StkOk t s1 ∧ r1.length ≤ 1000 + 64 * k ∧ m1.length ≤ 1000 + k ∧ w2 ≠ 0 ∧ w3 ≠ 0 ∧ s.pe 0 = .ptr (.arg 0 0) 0 0 ∧ s.pe 2 = .p (.int .i64 n) ∧ s.pe 16 = .own (.slot 16 1) 0 0 W.length ∧ s.pe 17 = .p (.int .i64 ↑W.length) ∧ s.pe 18 = .p (.int .i64 k) ∧ s.h (.arg 0 0) = some (0, grwC t l (.own (.slot 49 1004) w 0 s1.hs.length) s1.size (.own (.arg 2 0) w2 0 r1.length) (.own (.arg 3 0) w3 0 m1.length) (.own (.arg 4 0) 0 0 g0.highs.length) g0.refused) ∧ s.h (.arg 1 0) = some (0, Ob.arr 4 (g0.stk.hs.map Hg.pv)) ∧ s.h (.arg 2 0) = some (w2, Ob.arr 4 (r1.map Sh.pv)) ∧ s.h (.arg 3 0) = some (w3, Ob.arr 1 (m1.map (.int .i64))) ∧ s.h (.arg 4 0) = some (0, Ob.arr 1 (g0.highs.map (.int .i64))) ∧ s.h (.slot 16 1) = some (0, Ob.arr 1 (List.map (.int .i64) W)) ∧ s.h (.slot 49 1004) = some (w, Ob.arr 4 (s1.hs.map Hg.pv)) := ⟨_, fun _ _ => Iff.rfl⟩
 obtain ⟨hs0, shr0, mx0, hi0, rf0⟩ := g0
 simp only [grwH, grwB, grwC, movH] at *
 simp -implicitDefEqProofs (disch:=omega) only [vf67,vb67,hanc,go_sem,↓reduceIte,reduceAdd,reduceSub,reduceEqDiff,reduceLeDiff,reduceCtorEq]
 refine wp_count W.length (fun k s => A k s ∨ B k s) ?_ ?_
 ·left
  try refine And.intro (by omega) ?_
  refine (hA _ _).2 ⟨?_, ?_, ?_, ?_, ?_, ?_, ?_, ?_, ?_, ?_, ?_, ?_⟩
  ·rfl
  all_goals exact cl0
 intro k s hk hAB
 rcases hAB with hAk | hBk
 ·skip
  obtain ⟨hr, h0, h2, h16, h17, h18, ha0, ha1, ha2, ha3, ha4, hh16_1⟩ := (hA _ _).1 hAk
  clear hAk
  simp -implicitDefEqProofs (disch:=omega) only [h0,h2,h16,h17,h18,ha0,ha1,ha2,ha3,ha4,hh16_1,go_sem,↓reduceIte,reduceAdd,reduceSub,reduceEqDiff,reduceLeDiff,reduceCtorEq]
  refine wp_if_d (fun hlt => ?_) (fun hge => ?_)
  ·have hm : W[k]? = some W[k] := List.getElem?_eq_getElem hlt
   have hdr : W.drop k = W[k] :: W.drop (k + 1) := List.drop_eq_getElem_cons hlt
   generalize W[k] = a at hm hdr
   have ha := hai a (List.mem_of_getElem? hm)
   rw [hdr, roomG] at hr
   have hq1 := gmost_eq t l ⟨hs0, shr0, mx0, hi0, rf0⟩ a (by omega)
   have hq2 := gusage_eq l (g := ⟨hs0, shr0, mx0, hi0, rf0⟩) hg0 ha
   have hU := useG_bound (g := ⟨hs0, shr0, mx0, hi0, rf0⟩) hg0 a
   have hM := mostM_bound hl a
   have hst := room_step (n := n) (g := ⟨hs0, shr0, mx0, hi0, rf0⟩) hg0 hl ha (by simp only at hsl ⊢; omega) hn1
   unfold overG at hr hst
   generalize hu0 : useG t ⟨hs0, shr0, mx0, hi0, rf0⟩ a = U at *
   generalize mostM l a = M at *
   by_cases ho : 0 < U + n - M
   ·rw [if_pos ho] at hr
    obtain ⟨s1, r1, hS1, he1, hl1, hV1, hV2⟩ := hst ho
    have hU1 := useG_bound (g := ⟨s1, r1, mx0 ++ [a], hi0, rf0⟩) hS1 a
    rw [he1] at hr
    generalize useG t ⟨s1, r1, mx0 ++ [a], hi0, rf0⟩ a = U1 at *
    simp only [grwH, grwB, grwC, List.map_append, List.map_cons, List.map_nil, List.length_append, List.length_cons, List.length_nil, Nat.reduceAdd] at hq1 hq2 hV1 hV2
    by_cases hu : M < U1 + n
    ·rw [if_pos hu] at hr
     simp -implicitDefEqProofs (disch:=omega) only [h0,h2,h16,h17,h18,ha0,ha1,ha2,ha3,ha4,hh16_1,hlt,hm,hq1,hq2,ho,hV1,hV2,hu,go_sem,↓reduceIte,reduceAdd,reduceSub,reduceEqDiff,reduceLeDiff,reduceCtorEq]
     right
     rw [hr]
     simp [refG]
    ·rw [if_neg hu] at hr
     simp -implicitDefEqProofs (disch:=omega) only [h0,h2,h16,h17,h18,ha0,ha1,ha2,ha3,ha4,hh16_1,hlt,hm,hq1,hq2,ho,hV1,hV2,hu,go_sem,↓reduceIte,reduceAdd,reduceSub,reduceEqDiff,reduceLeDiff,reduceCtorEq]
     try refine And.intro (by omega) ?_
     right
     refine (hB _ _).2 ⟨s1, r1, mx0 ++ [a], nv (s.h (.slot 49 1004)) + 1, 1, 1, ?_, ?_, ?_, ?_, ?_, ?_, ?_, ?_, ?_, ?_, ?_, ?_, ?_, ?_, ?_, ?_, ?_, ?_⟩
     ·exact hr
     ·exact hS1
     ·exact by first | omega | (simp only at hl1; omega)
     ·exact by first | (simp; omega) | (simp; simp only at hml; omega)
     ·omega
     ·omega
     all_goals exact cl0
   ·rw [if_neg ho] at hr
    simp only [grwH, grwB, grwC] at hq1 hq2
    simp -implicitDefEqProofs (disch:=omega) only [h0,h2,h16,h17,h18,ha0,ha1,ha2,ha3,ha4,hh16_1,hlt,hm,hq1,hq2,ho,go_sem,↓reduceIte,reduceAdd,reduceSub,reduceEqDiff,reduceLeDiff,reduceCtorEq]
    try refine And.intro (by omega) ?_
    left
    refine (hA _ _).2 ⟨?_, ?_, ?_, ?_, ?_, ?_, ?_, ?_, ?_, ?_, ?_, ?_⟩
    ·exact hr
    all_goals exact cl0
  ·rw [List.drop_of_length_le (by omega), roomG] at hr
   simp -implicitDefEqProofs (disch:=omega) only [h0,h2,h16,h17,h18,ha0,ha1,ha2,ha3,ha4,hh16_1,hge,go_sem,↓reduceIte,reduceAdd,reduceSub,reduceEqDiff,reduceLeDiff,reduceCtorEq]
   left
   first | exact hr | exact ⟨hr, rfl⟩
 ·skip
  obtain ⟨s1, r1, m1, w, w2, w3, hr, hS, hb1, hb2, hw2, hw3, h0, h2, h16, h17, h18, ha0, ha1, ha2, ha3, ha4, hh16_1, hh49_1004⟩ := (hB _ _).1 hBk
  clear hBk
  simp -implicitDefEqProofs (disch:=omega) only [h0,h2,h16,h17,h18,ha0,ha1,ha2,ha3,ha4,hh16_1,hh49_1004,go_sem,↓reduceIte,reduceAdd,reduceSub,reduceEqDiff,reduceLeDiff,reduceCtorEq]
  refine wp_if_d (fun hlt => ?_) (fun hge => ?_)
  ·have hm : W[k]? = some W[k] := List.getElem?_eq_getElem hlt
   have hdr : W.drop k = W[k] :: W.drop (k + 1) := List.drop_eq_getElem_cons hlt
   generalize W[k] = a at hm hdr
   have ha := hai a (List.mem_of_getElem? hm)
   rw [hdr, roomG] at hr
   have hq1 := gmost_eq t l ⟨s1, r1, m1, hi0, rf0⟩ a (by omega)
   have hq2 := gusage_eq l (g := ⟨s1, r1, m1, hi0, rf0⟩) hS ha
   have hU := useG_bound (g := ⟨s1, r1, m1, hi0, rf0⟩) hS a
   have hM := mostM_bound hl a
   have hst := room_step (n := n) (g := ⟨s1, r1, m1, hi0, rf0⟩) hS hl ha (by simp only; omega) hn1
   unfold overG at hr hst
   generalize hu0 : useG t ⟨s1, r1, m1, hi0, rf0⟩ a = U at *
   generalize mostM l a = M at *
   by_cases ho : 0 < U + n - M
   ·rw [if_pos ho] at hr
    obtain ⟨s2, r2, hS2, he2, hl2, hV1, hV2⟩ := hst ho
    have hU1 := useG_bound (g := ⟨s2, r2, m1 ++ [a], hi0, rf0⟩) hS2 a
    rw [he2] at hr
    generalize useG t ⟨s2, r2, m1 ++ [a], hi0, rf0⟩ a = U1 at *
    simp only [grwH, grwB, grwC, List.map_append, List.map_cons, List.map_nil, List.length_append, List.length_cons, List.length_nil, Nat.reduceAdd] at hq1 hq2 hV1 hV2
    by_cases hu : M < U1 + n
    ·rw [if_pos hu] at hr
     simp -implicitDefEqProofs (disch:=omega) only [h0,h2,h16,h17,h18,ha0,ha1,ha2,ha3,ha4,hh16_1,hh49_1004,hlt,hm,hq1,hq2,ho,hV1,hV2,hu,go_sem,↓reduceIte,reduceAdd,reduceSub,reduceEqDiff,reduceLeDiff,reduceCtorEq]
     right
     rw [hr]
     simp [refG]
    ·rw [if_neg hu] at hr
     simp -implicitDefEqProofs (disch:=omega) only [h0,h2,h16,h17,h18,ha0,ha1,ha2,ha3,ha4,hh16_1,hh49_1004,hlt,hm,hq1,hq2,ho,hV1,hV2,hu,go_sem,↓reduceIte,reduceAdd,reduceSub,reduceEqDiff,reduceLeDiff,reduceCtorEq]
     try refine And.intro (by omega) ?_
     right
     refine (hB _ _).2 ⟨s2, r2, m1 ++ [a], w + 1 + 1, w2 + 1, w3 + 1, ?_, ?_, ?_, ?_, ?_, ?_, ?_, ?_, ?_, ?_, ?_, ?_, ?_, ?_, ?_, ?_, ?_, ?_⟩
     ·exact hr
     ·exact hS2
     ·exact by first | omega | (simp only at hl2; omega)
     ·exact by simp; omega
     ·omega
     ·omega
     all_goals exact cl0
   ·rw [if_neg ho] at hr
    simp only [grwH, grwB, grwC] at hq1 hq2
    simp -implicitDefEqProofs (disch:=omega) only [h0,h2,h16,h17,h18,ha0,ha1,ha2,ha3,ha4,hh16_1,hh49_1004,hlt,hm,hq1,hq2,ho,go_sem,↓reduceIte,reduceAdd,reduceSub,reduceEqDiff,reduceLeDiff,reduceCtorEq]
    try refine And.intro (by omega) ?_
    right
    refine (hB _ _).2 ⟨s1, r1, m1, w, w2, w3, ?_, ?_, ?_, ?_, ?_, ?_, ?_, ?_, ?_, ?_, ?_, ?_, ?_, ?_, ?_, ?_, ?_, ?_⟩
    ·exact hr
    ·exact hS
    ·omega
    ·omega
    ·exact hw2
    ·exact hw3
    all_goals exact cl0
  ·rw [List.drop_of_length_le (by omega), roomG] at hr
   simp -implicitDefEqProofs (disch:=omega) only [h0,h2,h16,h17,h18,ha0,ha1,ha2,ha3,ha4,hh16_1,hh49_1004,hge,go_sem,↓reduceIte,reduceAdd,reduceSub,reduceEqDiff,reduceLeDiff,reduceCtorEq]
   right
   rw [hr]
   simp [hw2, hw3]
abbrev cV (b : Bool) (i n : Nat) : VVal := .own (.arg i 0) (if b then 1 else 0) 0 n
abbrev obV (b : Bool) (sz : Nat) (xs : List PV) : Ob := if b then .box [.undef, .fresh sz xs] else .arr sz xs
abbrev growH (t : Tr) (l : List Mc) (s m h : Bool) (g g' : Gw) : List Ob := [grwC t l (.fresh 4 (g'.stk.hs.map Hg.pv)) g'.stk.size (cV s 2 g'.shr.length) (cV m 3 g'.maxes.length) (cV h 4 g'.highs.length) g'.refused, .arr 4 (g.stk.hs.map Hg.pv), obV s 4 (g'.shr.map Sh.pv), obV m 1 (g'.maxes.map (.int .i64)), obV h 1 (g'.highs.map (.int .i64))]
theorem set_step {t : Tr} {l : List Mc} {g : Gw} (hS : StkOk t g.stk) (hl : McOk t.nodes l) {a : Int} (ha : InN t.nodes a) (hsl : g.shr.length < 100000) (ho : 0 < useG t g a - (getM l a).high) : ∃ s1 r1, StkOk t s1 ∧ shrG t l g a (useG t g a - (getM l a).high) = ⟨s1, r1, g.maxes, g.highs, g.refused⟩ ∧ r1.length ≤ g.shr.length + 64 ∧
  V 57 [.ptr (.arg 0 0) 0 0, .p (.int .i64 a), .p (.int .i64 (useG t g a - (getM l a).high))] (grwH t l g) = some (.tup [], [grwC t l (.fresh 4 (s1.hs.map Hg.pv)) s1.size (.own (.arg 2 0) 1 0 r1.length) (.own (.arg 3 0) 0 0 g.maxes.length) (.own (.arg 4 0) 0 0 g.highs.length) g.refused, .arr 4 (g.stk.hs.map Hg.pv), .box [.undef, .fresh 4 (r1.map Sh.pv)], .arr 1 (g.maxes.map (.int .i64)), .arr 1 (g.highs.map (.int .i64))]) ∧
  V 55 [.ptr (.arg 0 0) 0 0, .p (.int .i64 a)] (grwH t l ⟨s1, r1, g.maxes, g.highs, g.refused⟩) = some (.p (.int .i64 (useG t ⟨s1, r1, g.maxes, g.highs, g.refused⟩ a)), grwH t l ⟨s1, r1, g.maxes, g.highs, g.refused⟩) := by
 have hb := useG_bound hS a
 have hM := amtM_bound (getM_amt hl a).1
 have h1 := shrG_ok hS hl ha (n := useG t g a - (getM l a).high) (by omega)
 have h2 := shrG_len hS hl ha (n := useG t g a - (getM l a).high) (by omega)
 have h3 := gshrink_eq hS hl ha (n := useG t g a - (getM l a).high) (by omega) (by omega) (by omega)
 have h4 := gusage_eq l (g := shrG t l g a (useG t g a - (getM l a).high)) h1.stk ha
 exact ⟨(shrG t l g a (useG t g a - (getM l a).high)).stk, (shrG t l g a (useG t g a - (getM l a).high)).shr, h1.stk, rfl, h2, h3, h4⟩
set_option maxHeartbeats 8000000 in
theorem gsettle_eq {t : Tr} {l : List Mc} {g0 : Gw} (hg0 : StkOk t g0.stk) (hl : McOk t.nodes l) {id : Int} (hid : InN t.nodes id) (hsl : g0.shr.length < 10000) (hml : g0.highs.length < 1000) :
  (settleG t l (ancR t id) g0 = g0 ∧ V 68 [.ptr (.arg 0 0) 0 0, .p (.int .i64 id)] (grwH t l g0) = some (.tup [], grwH t l g0)) ∨
  ∃ h, (settleG t l (ancR t id) g0).maxes = g0.maxes ∧ V 68 [.ptr (.arg 0 0) 0 0, .p (.int .i64 id)] (grwH t l g0) = some (.tup [], growH t l true false h g0 (settleG t l (ancR t id) g0)) := by
 have hset := settleG_ok hl (ancR t id) g0 (fun a h => anc_InN hg0.tree hid h) hg0
 suffices hw : wp (callF V vf68 [.ptr (.arg 0 0) 0 0, .p (.int .i64 id)] (grwH t l g0)) (fun r => (settleG t l (ancR t id) g0 = g0 ∧ r = (.tup [], grwH t l g0)) ∨ ∃ h, r = (.tup [], growH t l true false h g0 (settleG t l (ancR t id) g0))) by
  obtain ⟨r, hr, hr2⟩ := hw
  have hV := V_fix (f := 68) (vf := vf68) rfl hr
  rcases hr2 with ⟨h1, rfl⟩ | ⟨h, rfl⟩
  ·exact .inl ⟨h1, hV⟩
  ·exact .inr ⟨h, hset.maxes, hV⟩
 clear hset
 have hlen := hg0.tree.len
 have hll := hl.length
 have hanc := fanc_eq t id (by omega)
 rw [← ancR_in hg0.tree hid] at hanc
 have hal := ancR_len t id
 have hai : ∀ a ∈ ancR t id, InN t.nodes a := fun a h => anc_InN hg0.tree hid h
 generalize ancR t id = W at hanc hal hai ⊢
 obtain ⟨A, hA⟩ : ∃ I : Nat → St → Prop, ∀ k s, I k s ↔ settleG t l W g0 = settleG t l (W.drop k) g0 ∧ s.pe 0 = .ptr (.arg 0 0) 0 0 ∧ s.pe 13 = .own (.slot 13 1) 0 0 W.length ∧ s.pe 14 = .p (.int .i64 ↑W.length) ∧ s.pe 15 = .p (.int .i64 k) ∧ s.h (.arg 0 0) = some (0, grwB t l g0.stk.hs.length g0.stk.size g0.shr.length g0.maxes.length g0.highs.length g0.refused) ∧ s.h (.arg 1 0) = some (0, Ob.arr 4 (g0.stk.hs.map Hg.pv)) ∧ s.h (.arg 2 0) = some (0, Ob.arr 4 (g0.shr.map Sh.pv)) ∧ s.h (.arg 3 0) = some (0, Ob.arr 1 (g0.maxes.map (.int .i64))) ∧ s.h (.arg 4 0) = some (0, Ob.arr 1 (g0.highs.map (.int .i64))) ∧ s.h (.slot 13 1) = some (0, Ob.arr 1 (List.map (.int .i64) W)) := ⟨_, fun _ _ => Iff.rfl⟩
 obtain ⟨B, hB⟩ : ∃ I : Nat → St → Prop, ∀ k s, I k s ↔ ∃ (s1 : Stk) (r1 : List Sh) (q1 : List Int) (w : Nat) (w2 : Nat) (w4 : Nat), settleG t l W g0 = settleG t l (W.drop k) ⟨s1, r1, g0.maxes, q1, g0.refused⟩ ∧ StkOk t s1 ∧ r1.length ≤ 10000 + 64 * k ∧ q1.length ≤ 1000 + k ∧ w2 ≠ 0 ∧ s.pe 0 = .ptr (.arg 0 0) 0 0 ∧ s.pe 13 = .own (.slot 13 1) 0 0 W.length ∧ s.pe 14 = .p (.int .i64 ↑W.length) ∧ s.pe 15 = .p (.int .i64 k) ∧ s.h (.arg 0 0) = some (0, grwC t l (.own (.slot 36 1004) w 0 s1.hs.length) s1.size (.own (.arg 2 0) w2 0 r1.length) (.own (.arg 3 0) 0 0 g0.maxes.length) (.own (.arg 4 0) w4 0 q1.length) g0.refused) ∧ s.h (.arg 1 0) = some (0, Ob.arr 4 (g0.stk.hs.map Hg.pv)) ∧ s.h (.arg 2 0) = some (w2, Ob.arr 4 (r1.map Sh.pv)) ∧ s.h (.arg 3 0) = some (0, Ob.arr 1 (g0.maxes.map (.int .i64))) ∧ s.h (.arg 4 0) = some (w4, Ob.arr 1 (q1.map (.int .i64))) ∧ s.h (.slot 13 1) = some (0, Ob.arr 1 (List.map (.int .i64) W)) ∧ s.h (.slot 36 1004) = some (w, Ob.arr 4 (s1.hs.map Hg.pv)) := ⟨_, fun _ _ => Iff.rfl⟩
 obtain ⟨hs0, shr0, mx0, hi0, rf0⟩ := g0
 simp only [grwH, grwB, grwC, growH] at *
 simp -implicitDefEqProofs (disch:=omega) only [vf68,vb68,hanc,go_sem,↓reduceIte,reduceAdd,reduceSub,reduceEqDiff,reduceLeDiff,reduceCtorEq]
 refine wp_count W.length (fun k s => A k s ∨ B k s) ?_ ?_
 ·left
  try refine And.intro (by omega) ?_
  refine (hA _ _).2 ⟨?_, ?_, ?_, ?_, ?_, ?_, ?_, ?_, ?_, ?_, ?_⟩
  ·rfl
  all_goals exact cl0
 intro k s hk hAB
 rcases hAB with hAk | hBk
 ·skip
  obtain ⟨hr, h0, h13, h14, h15, ha0, ha1, ha2, ha3, ha4, hh13_1⟩ := (hA _ _).1 hAk
  clear hAk
  simp -implicitDefEqProofs (disch:=omega) only [h0,h13,h14,h15,ha0,ha1,ha2,ha3,ha4,hh13_1,go_sem,↓reduceIte,reduceAdd,reduceSub,reduceEqDiff,reduceLeDiff,reduceCtorEq]
  refine wp_if_d (fun hlt => ?_) (fun hge => ?_)
  ·have hm : W[k]? = some W[k] := List.getElem?_eq_getElem hlt
   have hdr : W.drop k = W[k] :: W.drop (k + 1) := List.drop_eq_getElem_cons hlt
   generalize W[k] = a at hm hdr
   have ha := hai a (List.mem_of_getElem? hm)
   rw [hdr, settleG] at hr
   have hq1 := msettings_eq l a (by omega)
   have hq2 := gusage_eq l (g := ⟨hs0, shr0, mx0, hi0, rf0⟩) hg0 ha
   have hU := useG_bound (g := ⟨hs0, shr0, mx0, hi0, rf0⟩) hg0 a
   have hM := amtM_bound (getM_amt hl a).1
   have hst := set_step (g := ⟨hs0, shr0, mx0, hi0, rf0⟩) hg0 hl ha (by simp only at hsl ⊢; omega)
   generalize useG t ⟨hs0, shr0, mx0, hi0, rf0⟩ a = U at *
   generalize getM l a = M at *
   by_cases ho : 0 < U - M.high
   ·rw [if_pos ho] at hr
    obtain ⟨s1, r1, hS1, he1, hl1, hV1, hV2⟩ := hst ho
    have hU1 := useG_bound (g := ⟨s1, r1, mx0, hi0, rf0⟩) hS1 a
    rw [he1] at hr
    generalize useG t ⟨s1, r1, mx0, hi0, rf0⟩ a = U1 at *
    simp only [grwH, grwB, grwC] at hq1 hq2 hV1 hV2
    by_cases hu : M.high < U1
    ·rw [if_pos hu] at hr
     simp -implicitDefEqProofs (disch:=omega) only [h0,h13,h14,h15,ha0,ha1,ha2,ha3,ha4,hh13_1,hlt,hm,hq1,hq2,ho,hV1,hV2,hu,go_sem,↓reduceIte,reduceAdd,reduceSub,reduceEqDiff,reduceLeDiff,reduceCtorEq]
     try refine And.intro (by omega) ?_
     right
     refine (hB _ _).2 ⟨s1, r1, hi0 ++ [a], nv (s.h (.slot 36 1004)) + 1, 1, 1, ?_, ?_, ?_, ?_, ?_, ?_, ?_, ?_, ?_, ?_, ?_, ?_, ?_, ?_, ?_, ?_⟩
     ·exact hr
     ·exact hS1
     ·exact by first | omega | (simp only at hl1 hsl; omega)
     ·exact by first | (simp; omega) | (simp; simp only at hml; omega)
     ·omega
     all_goals exact cl0
    ·rw [if_neg hu] at hr
     simp -implicitDefEqProofs (disch:=omega) only [h0,h13,h14,h15,ha0,ha1,ha2,ha3,ha4,hh13_1,hlt,hm,hq1,hq2,ho,hV1,hV2,hu,go_sem,↓reduceIte,reduceAdd,reduceSub,reduceEqDiff,reduceLeDiff,reduceCtorEq]
     try refine And.intro (by omega) ?_
     right
     refine (hB _ _).2 ⟨s1, r1, hi0, nv (s.h (.slot 36 1004)) + 1, 1, 0, ?_, ?_, ?_, ?_, ?_, ?_, ?_, ?_, ?_, ?_, ?_, ?_, ?_, ?_, ?_, ?_⟩
     ·exact hr
     ·exact hS1
     ·exact by first | omega | (simp only at hl1 hsl; omega)
     ·exact by first | omega | (simp only at hml; omega)
     ·omega
     all_goals exact cl0
   ·rw [if_neg ho] at hr
    simp only [grwH, grwB, grwC] at hq1 hq2
    simp -implicitDefEqProofs (disch:=omega) only [h0,h13,h14,h15,ha0,ha1,ha2,ha3,ha4,hh13_1,hlt,hm,hq1,hq2,ho,go_sem,↓reduceIte,reduceAdd,reduceSub,reduceEqDiff,reduceLeDiff,reduceCtorEq]
    try refine And.intro (by omega) ?_
    left
    refine (hA _ _).2 ⟨?_, ?_, ?_, ?_, ?_, ?_, ?_, ?_, ?_, ?_, ?_⟩
    ·exact hr
    all_goals exact cl0
  ·rw [List.drop_of_length_le (by omega), settleG] at hr
   simp -implicitDefEqProofs (disch:=omega) only [h0,h13,h14,h15,ha0,ha1,ha2,ha3,ha4,hh13_1,hge,go_sem,↓reduceIte,reduceAdd,reduceSub,reduceEqDiff,reduceLeDiff,reduceCtorEq]
   left
   first | exact hr | exact ⟨hr, rfl⟩
 ·skip
  obtain ⟨s1, r1, q1, w, w2, w4, hr, hS, hb1, hb2, hw2, h0, h13, h14, h15, ha0, ha1, ha2, ha3, ha4, hh13_1, hh36_1004⟩ := (hB _ _).1 hBk
  clear hBk
  simp -implicitDefEqProofs (disch:=omega) only [h0,h13,h14,h15,ha0,ha1,ha2,ha3,ha4,hh13_1,hh36_1004,go_sem,↓reduceIte,reduceAdd,reduceSub,reduceEqDiff,reduceLeDiff,reduceCtorEq]
  refine wp_if_d (fun hlt => ?_) (fun hge => ?_)
  ·have hm : W[k]? = some W[k] := List.getElem?_eq_getElem hlt
   have hdr : W.drop k = W[k] :: W.drop (k + 1) := List.drop_eq_getElem_cons hlt
   generalize W[k] = a at hm hdr
   have ha := hai a (List.mem_of_getElem? hm)
   rw [hdr, settleG] at hr
   have hq1 := msettings_eq l a (by omega)
   have hq2 := gusage_eq l (g := ⟨s1, r1, mx0, q1, rf0⟩) hS ha
   have hU := useG_bound (g := ⟨s1, r1, mx0, q1, rf0⟩) hS a
   have hM := amtM_bound (getM_amt hl a).1
   have hst := set_step (g := ⟨s1, r1, mx0, q1, rf0⟩) hS hl ha (by simp only; omega)
   generalize useG t ⟨s1, r1, mx0, q1, rf0⟩ a = U at *
   generalize getM l a = M at *
   by_cases ho : 0 < U - M.high
   ·rw [if_pos ho] at hr
    obtain ⟨s2, r2, hS2, he2, hl2, hV1, hV2⟩ := hst ho
    have hU1 := useG_bound (g := ⟨s2, r2, mx0, q1, rf0⟩) hS2 a
    rw [he2] at hr
    generalize useG t ⟨s2, r2, mx0, q1, rf0⟩ a = U1 at *
    simp only [grwH, grwB, grwC] at hq1 hq2 hV1 hV2
    by_cases hu : M.high < U1
    ·rw [if_pos hu] at hr
     simp -implicitDefEqProofs (disch:=omega) only [h0,h13,h14,h15,ha0,ha1,ha2,ha3,ha4,hh13_1,hh36_1004,hlt,hm,hq1,hq2,ho,hV1,hV2,hu,go_sem,↓reduceIte,reduceAdd,reduceSub,reduceEqDiff,reduceLeDiff,reduceCtorEq]
     try refine And.intro (by omega) ?_
     right
     refine (hB _ _).2 ⟨s2, r2, q1 ++ [a], w + 1 + 1, w2 + 1, w4 + 1, ?_, ?_, ?_, ?_, ?_, ?_, ?_, ?_, ?_, ?_, ?_, ?_, ?_, ?_, ?_, ?_⟩
     ·exact hr
     ·exact hS2
     ·exact by first | omega | (simp only at hl2; omega)
     ·exact by simp; omega
     ·omega
     all_goals exact cl0
    ·rw [if_neg hu] at hr
     simp -implicitDefEqProofs (disch:=omega) only [h0,h13,h14,h15,ha0,ha1,ha2,ha3,ha4,hh13_1,hh36_1004,hlt,hm,hq1,hq2,ho,hV1,hV2,hu,go_sem,↓reduceIte,reduceAdd,reduceSub,reduceEqDiff,reduceLeDiff,reduceCtorEq]
     try refine And.intro (by omega) ?_
     right
     refine (hB _ _).2 ⟨s2, r2, q1, w + 1 + 1, w2 + 1, w4, ?_, ?_, ?_, ?_, ?_, ?_, ?_, ?_, ?_, ?_, ?_, ?_, ?_, ?_, ?_, ?_⟩
     ·exact hr
     ·exact hS2
     ·exact by first | omega | (simp only at hl2; omega)
     ·omega
     ·omega
     all_goals exact cl0
   ·rw [if_neg ho] at hr
    simp only [grwH, grwB, grwC] at hq1 hq2
    simp -implicitDefEqProofs (disch:=omega) only [h0,h13,h14,h15,ha0,ha1,ha2,ha3,ha4,hh13_1,hh36_1004,hlt,hm,hq1,hq2,ho,go_sem,↓reduceIte,reduceAdd,reduceSub,reduceEqDiff,reduceLeDiff,reduceCtorEq]
    try refine And.intro (by omega) ?_
    right
    refine (hB _ _).2 ⟨s1, r1, q1, w, w2, w4, ?_, ?_, ?_, ?_, ?_, ?_, ?_, ?_, ?_, ?_, ?_, ?_, ?_, ?_, ?_, ?_⟩
    ·exact hr
    ·exact hS
    ·omega
    ·omega
    ·exact hw2
    all_goals exact cl0
  ·rw [List.drop_of_length_le (by omega), settleG] at hr
   by_cases hw4 : w4 = 0
   ·subst hw4
    simp -implicitDefEqProofs (disch:=omega) only [h0,h13,h14,h15,ha0,ha1,ha2,ha3,ha4,hh13_1,hh36_1004,hge,go_sem,↓reduceIte,reduceAdd,reduceSub,reduceEqDiff,reduceLeDiff,reduceCtorEq]
    right
    refine ⟨false, ?_⟩
    rw [hr]
    simp [hw2, obV]
   ·simp -implicitDefEqProofs (disch:=omega) only [h0,h13,h14,h15,ha0,ha1,ha2,ha3,ha4,hh13_1,hh36_1004,hge,go_sem,↓reduceIte,reduceAdd,reduceSub,reduceEqDiff,reduceLeDiff,reduceCtorEq]
    right
    refine ⟨true, ?_⟩
    rw [hr]
    simp [hw2, hw4, obV]
set_option maxHeartbeats 8000000 in
theorem ggrow_eq {t : Tr} {l : List Mc} {g0 : Gw} (hg0 : StkOk t g0.stk) (hl : McOk t.nodes l) {id file anon : Int} (hid : InN t.nodes id) (hf : 0 ≤ file) (ha : 0 ≤ anon) (hfa : file + anon ≤ 16777216) (hsl : g0.shr.length < 1000) (hml : g0.maxes.length < 1000) (hhl : g0.highs.length < 1000) :
  ∃ s m h, V 43 [.ptr (.arg 0 0) 0 0, .p (.int .i64 id), .p (.int .i64 file), .p (.int .i64 anon)] (grwH t l g0) = some (.p (.int .i64 (growG t l g0 id file anon).2), growH t l s m h g0 (growG t l g0 id file anon).1) := by
 have hT := hg0.tree
 have hlen := hT.len
 have hin : ∀ a ∈ ancR t id, InN t.nodes a := fun a h => anc_InN hT hid h
 have hal := ancR_len t id
 have hR := roomG_ok hl (file + anon) (ancR t id) g0 hin hg0
 have hrm := groom_eq hg0 hl hid (n := file + anon) (by omega) hfa hsl hml
 have hrl : (roomG t l (file + anon) (ancR t id) g0).1.shr.length ≤ g0.shr.length + 64 * (ancR t id).length := roomG_len hl (file + anon) (ancR t id) g0 hin hg0
 unfold growG
 generalize roomG t l (file + anon) (ancR t id) g0 = r at hR hrm hrl ⊢
 obtain ⟨r, e⟩ := r
 have hSr : StkOk t r.stk := hR.grw.stk
 by_cases he : e = 0
 ·subst he
  simp only [if_true]
  have hp := put_ok hSr hid hf ha (by
   rcases hR.err with ⟨_, _, h3⟩ | ⟨h1, _⟩
   ·have h1 := h3 1 (root_in_anc hT hid)
    have h2 : mostM l 1 ≤ 16777216 := by
     unfold mostM
     rw [if_pos rfl]
     omega
    have h4 : usedF t (cntS r.stk.hs) 1 = useG t r 1 := rfl
    simp only at h1
    omega
   ·simp at h1)
  obtain ⟨p1, p2, p3⟩ := hp
  have hgm : (moreH (getS r.stk.hs id) file anon).group = id := getS_group _ _
  have hrs := hSr.hs.length
  have hget := sget_eq r.stk id (by omega)
  have hput := sPut_ok hSr (h := moreH (getS r.stk.hs id) file anon) (by rw [hgm]; exact hid) p2 p3 (hSr.hs.get id).2.2 p1
  have hb := hSr.hs.get id
  have hgr := getS_group r.stk.hs id
  have hset := gsettle_eq (g0 := putG r (moreH (getS r.stk.hs id) file anon)) p1 hl hid (by show r.shr.length < _; simp only at hrl; omega) (by show r.highs.length < _; rw [show r.highs = g0.highs from hR.highs]; exact hhl)
  have hq1 : (putG r (moreH (getS r.stk.hs id) file anon)).stk = ⟨putS r.stk.hs (moreH (getS r.stk.hs id) file anon), r.stk.size⟩ := rfl
  have hq : putG r (moreH (getS r.stk.hs id) file anon) = ⟨⟨putS r.stk.hs (moreH (getS r.stk.hs id) file anon), r.stk.size⟩, r.shr, r.maxes, r.highs, r.refused⟩ := rfl
  rw [hq] at hset ⊢
  clear hq hq1
  unfold moreH at hput hset ⊢
  generalize hG : getS r.stk.hs id = b at *
  obtain ⟨bg, bf, ba, bs⟩ := b
  simp only at hgr hb
  subst hgr
  simp only [inPg] at hb
  obtain ⟨⟨c1, c2⟩, ⟨c3, c4⟩, c5⟩ := hb
  generalize putS r.stk.hs ⟨bg, bf + file, ba + anon, bs⟩ = y at *
  simp only [inPg] at p2 p3
  rcases hrm with ⟨h1, hV⟩ | hV
  ·have hrg : r = g0 := congrArg Prod.fst h1
   subst hrg
   obtain ⟨⟨hs0, z0⟩, shr0, mx0, hi0, rf0⟩ := r
   simp only [Stk.vv, Stk.fv, Hg.vv, grwH, grwB, grwC, growH] at hget hput hset hV ⊢
   rcases hset with ⟨e1, hV2⟩ | ⟨h, e2, hV2⟩
   ·rw [e1]
    refine ⟨false, false, false, V_wp (vf := vf43) rfl ?_⟩
    simp -implicitDefEqProofs (disch:=omega) only [vf43,vb43,hV,hget,hput,hV2,go_sem,↓reduceIte,reduceAdd,reduceSub,reduceEqDiff,reduceLeDiff,reduceCtorEq]
    all_goals exact cl0
   ·generalize settleG t l (ancR t bg) _ = q at e2 hV2 ⊢
    obtain ⟨⟨qs, qz⟩, qr, qm, qh, qf⟩ := q
    simp only at e2 hV2 ⊢
    subst e2
    refine ⟨true, false, h, V_wp (vf := vf43) rfl ?_⟩
    cases h <;> (simp only [cV,obV,if_true,if_false,Bool.false_eq_true] at hV2 ⊢; simp -implicitDefEqProofs (disch:=omega) only [vf43,vb43,hV,hget,hput,hV2,go_sem,↓reduceIte,reduceAdd,reduceSub,reduceEqDiff,reduceLeDiff,reduceCtorEq]; all_goals exact cl0)
  ·obtain ⟨⟨hs0, z0⟩, shr0, mx0, hi0, rf0⟩ := g0
   obtain ⟨⟨hs1, z1⟩, shr1, mx1, hi1, rf1⟩ := r
   have hhi : hi1 = hi0 := hR.highs
   subst hhi
   simp only [Stk.vv, Stk.fv, Hg.vv, grwH, grwB, grwC, growH, movH] at hget hput hset hV ⊢
   rcases hset with ⟨e1, hV2⟩ | ⟨h, e2, hV2⟩
   ·rw [e1]
    refine ⟨true, true, false, V_wp (vf := vf43) rfl ?_⟩
    simp -implicitDefEqProofs (disch:=omega) only [vf43,vb43,hV,hget,hput,hV2,go_sem,↓reduceIte,reduceAdd,reduceSub,reduceEqDiff,reduceLeDiff,reduceCtorEq]
    all_goals exact cl0
   ·generalize settleG t l (ancR t bg) _ = q at e2 hV2 ⊢
    obtain ⟨⟨qs, qz⟩, qr, qm, qh, qf⟩ := q
    simp only at e2 hV2 ⊢
    subst e2
    refine ⟨true, true, h, V_wp (vf := vf43) rfl ?_⟩
    cases h <;> (simp only [cV,obV,if_true,if_false,Bool.false_eq_true] at hV2 ⊢; simp -implicitDefEqProofs (disch:=omega) only [vf43,vb43,hV,hget,hput,hV2,go_sem,↓reduceIte,reduceAdd,reduceSub,reduceEqDiff,reduceLeDiff,reduceCtorEq]; all_goals exact cl0)
 ·rcases hrm with ⟨h1, _⟩ | hV
  ·exact absurd (congrArg Prod.snd h1) he
  ·simp only [if_neg he]
   refine ⟨true, true, false, V_wp (vf := vf43) rfl ?_⟩
   obtain ⟨⟨hs0, z0⟩, shr0, mx0, hi0, rf0⟩ := g0
   obtain ⟨⟨hs1, z1⟩, shr1, mx1, hi1, rf1⟩ := r
   have hhi : hi1 = hi0 := hR.highs
   subst hhi
   simp only [grwH, grwB, grwC, growH, movH] at hV ⊢
   simp -implicitDefEqProofs (disch:=omega) only [vf43,vb43,hV,he,go_sem,↓reduceIte,reduceAdd,reduceSub,reduceEqDiff,reduceLeDiff,reduceCtorEq]
   all_goals exact cl0
where
 roomG_len {t : Tr} {l : List Mc} (hl : McOk t.nodes l) (n : Int) : ∀ (as_ : List Int) (g : Gw), (∀ a ∈ as_, InN t.nodes a) → StkOk t g.stk → (roomG t l n as_ g).1.shr.length ≤ g.shr.length + 64 * as_.length
  | [], g, _, _ => by simp [roomG]
  | a :: as_, g, has, hg => by
   have ha := has a (by simp)
   have has' : ∀ x ∈ as_, InN t.nodes x := fun x hx => has x (by simp [hx])
   unfold roomG
   by_cases ho : 0 < overG t l n g a
   ·rw [if_pos ho]
    have h1 : Grw t g (shrG t l (maxG g a) a (overG t l n g a)) := grw_max a (shrG_ok (g := maxG g a) hg hl ha (by omega))
    have h2 := shrG_len (g := maxG g a) hg hl ha (n := overG t l n g a) (by omega)
    have h3 : (maxG g a).shr = g.shr := rfl
    rw [h3] at h2
    split
    ·show (shrG t l (maxG g a) a (overG t l n g a)).shr.length ≤ _
     rw [List.length_cons]
     omega
    ·have := roomG_len hl n as_ _ has' h1.stk
     rw [List.length_cons]
     omega
   ·rw [if_neg ho]
    have := roomG_len hl n as_ g has' hg
    rw [List.length_cons]
    omega
abbrev gwF (g : Gw) : VVal := .agg [.fresh 4 (g.stk.hs.map Hg.pv), .p (.int .i64 g.stk.size), .fresh 4 (g.shr.map Sh.pv), .fresh 1 (g.maxes.map (.int .i64)), .fresh 1 (g.highs.map (.int .i64)), .p (.int .i64 g.refused)]
set_option maxHeartbeats 2000000 in
theorem mbegin_eq (t : Tr) (sw : Stk) (l : List Mc) (hsl : sw.hs.length < 1000000) : V 42 [t.vv, sw.vv, .p (mcsP l)] [] = some (.boxed [.p (nodesP t.nodes), .p (.int .i64 t.next), .p (mcsP l), .fresh 4 (sw.hs.map Hg.pv), .p (.int .i64 sw.size), .fresh 4 [], .fresh 1 [], .fresh 1 [], .p (.int .i64 0)], []) := by
 refine V_wp (vf := vf42) rfl ?_
 simp -implicitDefEqProofs (disch:=omega) only [vf42,vb42,List.length_map,go_sem,↓reduceIte,reduceAdd,reduceSub,reduceEqDiff,reduceLeDiff,reduceCtorEq]
set_option maxHeartbeats 8000000 in
theorem grow_eq {t : Tr} {sw : Stk} {l : List Mc} (hs : StkOk t sw) (hl : McOk t.nodes l) {id file anon : Int} (hid : InN t.nodes id) (hf : 0 ≤ file) (hf1 : file ≤ 16777216) (ha : 0 ≤ anon) (ha1 : anon ≤ 16777216 - file) : V 16 [t.vv, sw.vv, .p (mcsP l), .p (.int .i64 id), .p (.int .i64 file), .p (.int .i64 anon)] [] = some (.tup [gwF (growG t l ⟨sw, [], [], [], 0⟩ id file anon).1, .p (.int .i64 (growG t l ⟨sw, [], [], [], 0⟩ id file anon).2)], []) := by
 refine V_wp (vf := vf16) rfl ?_
 have h1 := mcheck_ok hs hl hid
 have hsl := hs.hs.length
 have hlen := hs.tree.len
 have h2 := mbegin_eq t sw l (by omega)
 obtain ⟨s, m, h, hV⟩ := ggrow_eq (g0 := ⟨sw, [], [], [], 0⟩) hs hl hid hf ha (by omega) (by simp) (by simp) (by simp)
 have n1 : ¬ file < 0 := by omega
 have n2 : ¬ 16777216 < file := by omega
 have n3 : ¬ anon < 0 := by omega
 have n4 : ¬ 16777216 - file < anon := by omega
 generalize growG t l ⟨sw, [], [], [], 0⟩ id file anon = r at hV ⊢
 obtain ⟨⟨⟨x, z⟩, shr, mx, hi, rf⟩, e⟩ := r
 obtain ⟨hs0, z0⟩ := sw
 simp only [Stk.vv, Stk.fv, grwH, grwB, grwC, growH, List.map_nil, List.length_nil] at h1 h2 hV ⊢
 cases s <;> cases m <;> cases h <;> (simp only [cV,obV,if_true,if_false,Bool.false_eq_true] at hV; simp -implicitDefEqProofs (disch:=omega) only [vf16,vb16,h1,h2,n1,n2,n3,n4,hV,go_sem,↓reduceIte,reduceAdd,reduceSub,reduceEqDiff,reduceLeDiff,reduceCtorEq])
theorem lone_round {t : Tr} {l : List Pt} {root K : Int} {a : List (Int × Int)} (hs : subA t root = [root]) (h : RoundOk t l root K a) (hsum : sumI (a.map Prod.snd) = K) : a = if K = 0 then [] else [(root, K)] := by
 have hg : ∀ q ∈ a, q.1 = root := fun q hq => by
  have := h.groups q hq
  rw [hs] at this
  simpa using this
 cases a with
 | nil =>
  have : K = 0 := hsum.symm
  rw [if_pos this]
 | cons q a =>
  cases a with
  | nil =>
   have h1 := (h.pos q (by simp)).1
   have h2 := hg q (by simp)
   have h3 : K = q.2 := by rw [← hsum]; simp [sumI]
   rw [if_neg (by omega), h3]
   obtain ⟨x, y⟩ := q
   simp only at h2
   rw [h2]
  | cons r a =>
   have h1 := (List.pairwise_cons.1 h.inc).1 r (by simp)
   rw [hg q (by simp), hg r (by simp)] at h1
   omega
theorem lone_cap {t : Tr} (h : TreeOk t) {l : List Pt} {g : Int} (hg : InN t.nodes g) (hk : kidsN t.nodes g = []) : capR t l g = capF (partOf l g) 0 := by
 rw [capR_step h l hg, hk]
 rfl
structure Lone (t : Tr) (sw : Stk) (root : Int) (l : List Ch) : Prop where
 trial : TrialOk t sw [] l root
 sub : subA t root = [root]
 kids : kidsN t.nodes root = []
 file : (getS sw.hs root).file = 0
section
variable {t : Tr} {sw : Stk} {root n : Int} {l : List Ch}
theorem Lone.eff (h : Lone t sw root l) : effP t sw [] root = [⟨root, 0, 0⟩] := by
 obtain ⟨i, m, hm, hme⟩ := h.trial.root
 unfold effP effL
 rw [show subT t root = [root] by rw [← hme, subT_some h.trial.stk.tree hm, hme]; exact h.sub, show msort [root] = [root] from by simp [msort]]
 simp only [List.map_cons, List.map_nil, effPr, effT_root]
theorem lone_takes (h : Lone t sw root l) (hn0 : 0 ≤ n) (hn : n ≤ 16777216) (k : Nat) : takesS t sw.size l (effP t sw [] root) root (outR k) (lowR k) (endS t sw [] l root n k) = (if min (endS t sw [] l root n k).2.2 (capR t (partsS t sw.size l (effP t sw [] root) (outR k) (lowR k) (endS t sw [] l root n k).1) root) = 0 then [] else [(root, min (endS t sw [] l root n k).2.2 (capR t (partsS t sw.size l (effP t sw [] root) (outR k) (lowR k) (endS t sw [] l root n k).1) root))]) := by
 have hS := end_step h.trial hn0 hn k
 exact lone_round h.sub hS.rnd hS.sum
theorem lone_cap' (h : Lone t sw root l) (out low : Bool) (hs : List Hg) : capR t (partsS t sw.size l (effP t sw [] root) out low hs) root = min (min (max 0 (usedF t (cntS hs) root)) (if out then roomS t hs sw.size l root else 4611686018427387904)) (ownS out (getS hs root)) := by
 rw [lone_cap h.trial.stk.tree h.trial.root h.kids, h.eff]
 have hp : partOf (partsS t sw.size l [⟨root, 0, 0⟩] out low hs) root = prtS t hs sw.size l (ownS out) (prS low) out ⟨root, 0, 0⟩ := by
  unfold partOf
  simp [partsS, prtS]
 rw [hp]
 unfold capF prtS
 have hz : prS low ⟨root, 0, 0⟩ = 0 := by cases low <;> simp [prS]
 simp only [hz, Int.sub_zero, Int.add_zero]
theorem takeSt_nil (out low : Bool) (s : ShSt) : takeSt out low s [] = s := by
 obtain ⟨a, b, c⟩ := s
 show (a, b, c - 0) = (a, b, c)
 rw [Int.sub_zero]
theorem end_succ (t : Tr) (sw : Stk) (p : List Pr) (l : List Ch) (root n : Int) (k : Nat) : endS t sw p l root n (k + 1) = takeSt (outR k) (lowR k) (endS t sw p l root n k) (takesS t sw.size l (effP t sw p root) root (outR k) (lowR k) (endS t sw p l root n k)) := rfl
theorem lone_full (h : Lone t sw root l) (hn0 : 0 ≤ n) (hn : n ≤ 16777216) (hr : roomS t sw.hs sw.size l root = 0) : ∀ k, endS t sw [] l root n k = (sw.hs, (fun _ => zeroSh), n)
 | 0 => rfl
 | k + 1 => by
  have ih := lone_full h hn0 hn hr k
  have h1 := lone_takes h hn0 hn k
  rw [ih] at h1
  rw [lone_cap' h] at h1
  have h2 := (h.trial.stk.hs.get root).2.1.1
  have hz : min n (min (min (max 0 (usedF t (cntS sw.hs) root)) (if outR k then roomS t sw.hs sw.size l root else 4611686018427387904)) (ownS (outR k) (getS sw.hs root))) = 0 := by
   cases ho : outR k with
   | true =>
    simp only [if_true, hr, ownS]
    omega
   | false =>
    simp only [Bool.false_eq_true, if_false, ownS, h.file]
    omega
  rw [if_pos hz] at h1
  rw [end_succ, ih, h1, takeSt_nil]
theorem lone_full_eq (h : Lone t sw root l) (hn0 : 0 ≤ n) (hn : n ≤ 16777216) (hr : roomS t sw.hs sw.size l root = 0) : ShrinkS t sw [] l root n = (sw, [], 0) := by
 rw [shrinkS_eq h.trial hn0 hn, lone_full h hn0 hn hr 4, h.eff]
 rfl
theorem lone_one_eq (h : Lone t sw root l) (hr : 1 ≤ roomS t sw.hs sw.size l root) (ha : 1 ≤ (getS sw.hs root).anon) (hu : 1 ≤ usedF t (cntS sw.hs) root) : ShrinkS t sw [] l root 1 = (⟨putS sw.hs (takeH true (getS sw.hs root) 1), sw.size⟩, [⟨root, 0, 1, 0⟩], 0) := by
 have h0 : (0 : Int) ≤ 1 := by omega
 have hn : (1 : Int) ≤ 16777216 := by omega
 have e1 : endS t sw [] l root 1 1 = (sw.hs, (fun _ => zeroSh), 1) := by
  have h1 := lone_takes h h0 hn 0
  rw [show endS t sw [] l root 1 0 = (sw.hs, (fun _ => zeroSh), 1) from rfl, lone_cap' h] at h1
  rw [if_pos (by
   simp only [show outR 0 = false from rfl, Bool.false_eq_true, if_false, ownS, h.file]
   omega)] at h1
  rw [end_succ, show endS t sw [] l root 1 0 = (sw.hs, (fun _ => zeroSh), 1) from rfl, h1, takeSt_nil]
 have e2 : endS t sw [] l root 1 2 = takeSt true false (sw.hs, (fun _ => zeroSh), 1) [(root, 1)] := by
  have h1 := lone_takes h h0 hn 1
  rw [e1, lone_cap' h] at h1
  have hk : min (1 : Int) (min (min (max 0 (usedF t (cntS sw.hs) root)) (if outR 1 then roomS t sw.hs sw.size l root else 4611686018427387904)) (ownS (outR 1) (getS sw.hs root))) = 1 := by
   simp only [show outR 1 = true from rfl, if_true, ownS]
   omega
  simp only [hk] at h1
  rw [if_neg (by decide)] at h1
  rw [end_succ, e1, h1]
  rfl
 have rest : ∀ k, 2 ≤ k → endS t sw [] l root 1 k = endS t sw [] l root 1 2 → endS t sw [] l root 1 (k + 1) = endS t sw [] l root 1 2 := by
  intro k _ ih
  have h1 := lone_takes h h0 hn k
  have hc := capR_nonneg (t := t) (end_step h.trial h0 hn k).parts.ok root
  have hl : (endS t sw [] l root 1 k).2.2 = 0 := by
   rw [ih, e2]
   rfl
  rw [if_pos (by rw [hl]; omega)] at h1
  rw [end_succ, h1, takeSt_nil, ih]
 have e4 := rest 3 (by omega) (rest 2 (by omega) rfl)
 rw [shrinkS_eq h.trial h0 hn, h.eff, e4, e2]
 have hx : (takeSt true false (sw.hs, (fun _ => zeroSh), 1) [(root, 1)]).2.1 root = ⟨root, 0, 1, 0⟩ := by
  show (if root = root then _ else _) = _
  rw [if_pos rfl]
  rfl
 have hr0 : root ≠ 0 := by
  obtain ⟨i, m, hm, hme⟩ := h.trial.root
  have := h.trial.stk.tree.pos m (List.mem_of_getElem? hm)
  omega
 have ho : outL (takeSt true false (sw.hs, (fun _ => zeroSh), 1) [(root, 1)]).2.1 [⟨root, 0, 0⟩] = [⟨root, 0, 1, 0⟩] := by
  unfold outL
  rw [List.map_cons, List.map_nil, hx, List.filter_cons_of_pos (by simpa using hr0)]
  rfl
 rw [ho]
 rfl
end
def t2 : Tr := ⟨[⟨1, 0, ⟨#[]⟩, 0, 0, 0⟩, ⟨2, 1, ⟨#[97]⟩, 0, 0, 0⟩], 3⟩
theorem subT_2 : subT t2 2 = [2] := by decide
theorem msort_2 : msort (subT t2 2) = [2] := by rw [subT_2, msort_of (by decide)]
theorem calc_2 {sw : Stk} {n : Int} {s : ShSt} {x : List Hg} {o : List Sh} (hz : pagesB sw.size = true) (hn : pagesB n = true) (he : effL t2 (cntS sw.hs) [] 2 = [⟨2, 0, 0⟩]) (h : shrS t2 sw.size [] [⟨2, 0, 0⟩] 2 (sw.hs, (fun _ => zeroSh), n) 4 = s) (h1 : s.1 = x) (h2 : outL s.2.1 [⟨2, 0, 0⟩] = o) (hv : validS t2 sw = true) : ShrinkS t2 sw [] [] 2 n = (⟨x, sw.size⟩, o, 0) := by
 have h3 : (validS t2 sw && validPr t2 [] && validLK t2 []) = true := by rw [hv]; decide
 have h4 : (findN t2.nodes 2).isSome = true := by decide
 rw [ShrinkS, if_pos h3, if_pos h4, if_pos hn]
 simp only [he]
 rw [h, h1, h2]
theorem shrink_21 : ShrinkS t2 ⟨[⟨2, 15, 0, 0⟩], 0⟩ [] [] 2 5 = (⟨[⟨2, 10, 0, 0⟩], 0⟩, [⟨2, 5, 0, 0⟩], 0) := calc_2 (by decide) (by decide) (by unfold effL; rw [msort_2]; decide) (s := takeSt true true (takeSt false true (takeSt true false (takeSt false false ([⟨2, 15, 0, 0⟩], (fun _ => zeroSh), 5) [(2, 5)]) []) []) []) (shr_calc (rnd_calc msort_2 rfl (by decide) (by decide) (by decide) (by decide)) (rnd_calc msort_2 rfl (by decide) (by decide) (by decide) (by decide)) (rnd_calc msort_2 rfl (by decide) (by decide) (by decide) (by decide)) (rnd_calc msort_2 rfl (by decide) (by decide) (by decide) (by decide))) (by decide) (by decide) (by decide)
theorem shrink_22 : ShrinkS t2 ⟨[⟨2, 15, 0, 0⟩], 0⟩ [] [] 2 25 = (⟨[], 0⟩, [⟨2, 15, 0, 0⟩], 0) := calc_2 (by decide) (by decide) (by unfold effL; rw [msort_2]; decide) (s := takeSt true true (takeSt false true (takeSt true false (takeSt false false ([⟨2, 15, 0, 0⟩], (fun _ => zeroSh), 25) [(2, 15)]) []) []) []) (shr_calc (rnd_calc msort_2 rfl (by decide) (by decide) (by decide) (by decide)) (rnd_calc msort_2 rfl (by decide) (by decide) (by decide) (by decide)) (rnd_calc msort_2 rfl (by decide) (by decide) (by decide) (by decide)) (rnd_calc msort_2 rfl (by decide) (by decide) (by decide) (by decide))) (by decide) (by decide) (by decide)
theorem shrink_23 : ShrinkS t2 ⟨[⟨2, 10, 10, 0⟩], 0⟩ [] [] 2 8 = (⟨[⟨2, 2, 10, 0⟩], 0⟩, [⟨2, 8, 0, 0⟩], 0) := calc_2 (by decide) (by decide) (by unfold effL; rw [msort_2]; decide) (s := takeSt true true (takeSt false true (takeSt true false (takeSt false false ([⟨2, 10, 10, 0⟩], (fun _ => zeroSh), 8) [(2, 8)]) []) []) []) (shr_calc (rnd_calc msort_2 rfl (by decide) (by decide) (by decide) (by decide)) (rnd_calc msort_2 rfl (by decide) (by decide) (by decide) (by decide)) (rnd_calc msort_2 rfl (by decide) (by decide) (by decide) (by decide)) (rnd_calc msort_2 rfl (by decide) (by decide) (by decide) (by decide))) (by decide) (by decide) (by decide)
abbrev g2 (s : Stk) : Gw := ⟨s, [], [], [], 0⟩
abbrev l2 (most high : Int) : List Mc := [⟨2, 0, 0, high, most, 4611686018427387904, false⟩]
theorem grow_21 : growG t2 (l2 20 4611686018427387904) (g2 ⟨[⟨2, 15, 0, 0⟩], 0⟩) 2 0 10 = (⟨⟨[⟨2, 10, 10, 0⟩], 0⟩, [⟨2, 5, 0, 0⟩], [2], [], 0⟩, 0) := by
 have hs : shrG t2 (l2 20 4611686018427387904) (maxG (g2 ⟨[⟨2, 15, 0, 0⟩], 0⟩) 2) 2 5 = ⟨⟨[⟨2, 10, 0, 0⟩], 0⟩, [⟨2, 5, 0, 0⟩], [2], [], 0⟩ := by
  unfold shrG
  rw [show prsM (l2 20 4611686018427387904) = [] from by decide, show chsM (l2 20 4611686018427387904) = [] from by decide, show min (5 : Int) 16777216 = 5 from by decide, show (maxG (g2 ⟨[⟨2, 15, 0, 0⟩], 0⟩) 2).stk = ⟨[⟨2, 15, 0, 0⟩], 0⟩ from rfl, shrink_21]
  rfl
 have hr : roomG t2 (l2 20 4611686018427387904) 10 [2, 1] (g2 ⟨[⟨2, 15, 0, 0⟩], 0⟩) = (⟨⟨[⟨2, 10, 0, 0⟩], 0⟩, [⟨2, 5, 0, 0⟩], [2], [], 0⟩, 0) := by
  unfold roomG
  rw [show overG t2 (l2 20 4611686018427387904) 10 (g2 ⟨[⟨2, 15, 0, 0⟩], 0⟩) 2 = 5 from by decide, if_pos (by decide), hs, if_neg (by decide)]
  unfold roomG
  rw [if_neg (by decide)]
  rfl
 unfold growG
 rw [show ancR t2 2 = [2, 1] from by decide]
 have hp : putG ⟨⟨[⟨2, 10, 0, 0⟩], 0⟩, [⟨2, 5, 0, 0⟩], [2], [], 0⟩ (moreH (getS [⟨2, 10, 0, 0⟩] 2) 0 10) = ⟨⟨[⟨2, 10, 10, 0⟩], 0⟩, [⟨2, 5, 0, 0⟩], [2], [], 0⟩ := by rfl
 have hst : settleG t2 (l2 20 4611686018427387904) [2, 1] ⟨⟨[⟨2, 10, 10, 0⟩], 0⟩, [⟨2, 5, 0, 0⟩], [2], [], 0⟩ = ⟨⟨[⟨2, 10, 10, 0⟩], 0⟩, [⟨2, 5, 0, 0⟩], [2], [], 0⟩ := by
  unfold settleG
  rw [if_neg (by decide)]
  unfold settleG
  rw [if_neg (by decide)]
  rfl
 simp only [Int.zero_add, hr, if_true, hp, hst]
theorem grow_22 : growG t2 (l2 20 4611686018427387904) (g2 ⟨[⟨2, 15, 0, 0⟩], 0⟩) 2 0 30 = (⟨⟨[], 0⟩, [⟨2, 15, 0, 0⟩], [2], [], 2⟩, 20) := by
 have hs : shrG t2 (l2 20 4611686018427387904) (maxG (g2 ⟨[⟨2, 15, 0, 0⟩], 0⟩) 2) 2 25 = ⟨⟨[], 0⟩, [⟨2, 15, 0, 0⟩], [2], [], 0⟩ := by
  unfold shrG
  rw [show prsM (l2 20 4611686018427387904) = [] from by decide, show chsM (l2 20 4611686018427387904) = [] from by decide, show min (25 : Int) 16777216 = 25 from by decide, show (maxG (g2 ⟨[⟨2, 15, 0, 0⟩], 0⟩) 2).stk = ⟨[⟨2, 15, 0, 0⟩], 0⟩ from rfl, shrink_22]
  rfl
 have hr : roomG t2 (l2 20 4611686018427387904) 30 [2, 1] (g2 ⟨[⟨2, 15, 0, 0⟩], 0⟩) = (⟨⟨[], 0⟩, [⟨2, 15, 0, 0⟩], [2], [], 2⟩, 20) := by
  unfold roomG
  rw [show overG t2 (l2 20 4611686018427387904) 30 (g2 ⟨[⟨2, 15, 0, 0⟩], 0⟩) 2 = 25 from by decide, if_pos (by decide), hs, if_pos (by decide)]
  rfl
 unfold growG
 rw [show ancR t2 2 = [2, 1] from by decide]
 simp only [Int.zero_add, hr]
 rw [if_neg (by decide)]
theorem grow_23 : growG t2 (l2 20 12) (g2 ⟨[⟨2, 15, 0, 0⟩], 0⟩) 2 0 10 = (⟨⟨[⟨2, 2, 10, 0⟩], 0⟩, [⟨2, 5, 0, 0⟩, ⟨2, 8, 0, 0⟩], [2], [], 0⟩, 0) := by
 have hs : shrG t2 (l2 20 12) (maxG (g2 ⟨[⟨2, 15, 0, 0⟩], 0⟩) 2) 2 5 = ⟨⟨[⟨2, 10, 0, 0⟩], 0⟩, [⟨2, 5, 0, 0⟩], [2], [], 0⟩ := by
  unfold shrG
  rw [show prsM (l2 20 12) = [] from by decide, show chsM (l2 20 12) = [] from by decide, show min (5 : Int) 16777216 = 5 from by decide, show (maxG (g2 ⟨[⟨2, 15, 0, 0⟩], 0⟩) 2).stk = ⟨[⟨2, 15, 0, 0⟩], 0⟩ from rfl, shrink_21]
  rfl
 have hr : roomG t2 (l2 20 12) 10 [2, 1] (g2 ⟨[⟨2, 15, 0, 0⟩], 0⟩) = (⟨⟨[⟨2, 10, 0, 0⟩], 0⟩, [⟨2, 5, 0, 0⟩], [2], [], 0⟩, 0) := by
  unfold roomG
  rw [show overG t2 (l2 20 12) 10 (g2 ⟨[⟨2, 15, 0, 0⟩], 0⟩) 2 = 5 from by decide, if_pos (by decide), hs, if_neg (by decide)]
  unfold roomG
  rw [if_neg (by decide)]
  rfl
 have hp : putG ⟨⟨[⟨2, 10, 0, 0⟩], 0⟩, [⟨2, 5, 0, 0⟩], [2], [], 0⟩ (moreH (getS [⟨2, 10, 0, 0⟩] 2) 0 10) = ⟨⟨[⟨2, 10, 10, 0⟩], 0⟩, [⟨2, 5, 0, 0⟩], [2], [], 0⟩ := by rfl
 have hs2 : shrG t2 (l2 20 12) ⟨⟨[⟨2, 10, 10, 0⟩], 0⟩, [⟨2, 5, 0, 0⟩], [2], [], 0⟩ 2 8 = ⟨⟨[⟨2, 2, 10, 0⟩], 0⟩, [⟨2, 5, 0, 0⟩, ⟨2, 8, 0, 0⟩], [2], [], 0⟩ := by
  unfold shrG
  rw [show prsM (l2 20 12) = [] from by decide, show chsM (l2 20 12) = [] from by decide, show min (8 : Int) 16777216 = 8 from by decide, shrink_23]
  rfl
 have hst : settleG t2 (l2 20 12) [2, 1] ⟨⟨[⟨2, 10, 10, 0⟩], 0⟩, [⟨2, 5, 0, 0⟩], [2], [], 0⟩ = ⟨⟨[⟨2, 2, 10, 0⟩], 0⟩, [⟨2, 5, 0, 0⟩, ⟨2, 8, 0, 0⟩], [2], [], 0⟩ := by
  unfold settleG
  rw [show useG t2 ⟨⟨[⟨2, 10, 10, 0⟩], 0⟩, [⟨2, 5, 0, 0⟩], [2], [], 0⟩ 2 - (getM (l2 20 12) 2).high = 8 from by decide, if_pos (by decide), hs2, if_neg (by decide)]
  unfold settleG
  rw [if_neg (by decide)]
  rfl
 unfold growG
 rw [show ancR t2 2 = [2, 1] from by decide]
 simp only [Int.zero_add, hr, if_true, hp, hst]
theorem t2_ok : TreeOk t2 := (treeOk_iff t2).1 (by decide)
theorem in_2 : InN t2.nodes 2 := ⟨1, ⟨2, 1, ⟨#[97]⟩, 0, 0, 0⟩, rfl, rfl⟩
theorem l2_ok (a b : Int) (ha : amtM a = true) (hb : amtM b = true) : McOk t2.nodes (l2 a b) := by
 refine ⟨?_, by simp, ?_⟩
 ·intro m hm
  simp only [List.mem_singleton] at hm
  subst hm
  show (findN t2.nodes 2).isSome = true
  decide
 ·intro m hm
  simp only [List.mem_singleton] at hm
  subst hm
  exact ⟨rfl, rfl, hb, ha, rfl⟩
theorem stk_2 {s : Stk} (h : validS t2 s = true) : StkOk t2 s := (validS_iff t2 s).1 h
set_option maxHeartbeats 8000000 in
theorem sane26_eq : V 10 [] [] = some (.p (.bool true), []) := by
 have hs := stk_2 (s := ⟨[⟨2, 15, 0, 0⟩], 0⟩) (by decide)
 have c1 := grow_eq hs (l2_ok 20 4611686018427387904 (by decide) (by decide)) in_2 (file := 0) (anon := 10) (by omega) (by omega) (by omega) (by omega)
 have c2 := grow_eq hs (l2_ok 20 4611686018427387904 (by decide) (by decide)) in_2 (file := 0) (anon := 30) (by omega) (by omega) (by omega) (by omega)
 have c3 := grow_eq hs (l2_ok 20 12 (by decide) (by decide)) in_2 (file := 0) (anon := 10) (by omega) (by omega) (by omega) (by omega)
 rw [grow_21] at c1
 rw [grow_22] at c2
 rw [grow_23] at c3
 have hdf : V 21 [] [] = some (.agg [.p (.int .i64 0), .p (.int .i64 0), .p (.int .i64 4611686018427387904), .p (.int .i64 4611686018427387904), .p (.int .i64 4611686018427387904), .p (.bool false)], []) := by
  refine V_wp (vf := vf21) rfl ?_
  simp -implicitDefEqProofs (disch:=omega) only [vf21,vb21,go_sem,↓reduceIte,reduceAdd,reduceSub,reduceEqDiff,reduceLeDiff,reduceCtorEq]
 have s1 := sameH_eq [⟨2, 10, 10, 0⟩] [⟨2, 10, 10, 0⟩] (by simp)
 have s2 := sameH_eq [⟨2, 2, 10, 0⟩] [⟨2, 2, 10, 0⟩] (by simp)
 simp only [t2, Tr.vv, nodesP, hgsP, mcsP, l2, Stk.vv, g2, List.map_cons, List.map_nil, Nd.pv, Hg.pv, Mc.pv, Sh.pv, gwF, decide_true] at c1 c2 c3 s1 s2
 refine V_wp (vf := vf10) rfl ?_
 simp -implicitDefEqProofs (disch:=omega) only [vf10,vb10,hdf,c1,c2,c3,s1,s2,Int.toNat_zero,List.getElem?_cons_zero,List.set_cons_zero,Int.natCast_zero,go_sem,↓reduceIte,reduceAdd,reduceSub,reduceEqDiff,reduceLeDiff,reduceCtorEq]
abbrev stR (u w z : Int) : Stk := ⟨[⟨2, 0, u, w⟩], z⟩
theorem subF_2 : subF t2.nodes t2.nodes.length 2 = [2] := by decide
theorem subF_1 : subF t2.nodes t2.nodes.length 1 = [1, 2] := by decide
theorem use_2 (a w : Int) : usedF t2 (cntS [⟨2, 0, a, w⟩]) 2 = a ∧ usedF t2 (cntS [⟨2, 0, a, w⟩]) 1 = a := by
 have h0 : ∀ x, ownC (cntS [⟨2, 0, a, w⟩]) x = memF [⟨2, 0, a, w⟩] x := cntS_own (by simp)
 have m2 : memF [⟨2, 0, a, w⟩] 2 = a := by simp [memF, getS]
 have m1 : memF [⟨2, 0, a, w⟩] 1 = 0 := by simp [memF, getS]
 constructor
 ·unfold usedF tot
  rw [if_pos (by decide), subF_2]
  simp only [List.map_cons, List.map_nil, sumI, h0, m2]
  omega
 ·unfold usedF tot
  rw [if_pos (by decide), subF_1]
  simp only [List.map_cons, List.map_nil, sumI, h0, m1, m2]
  omega
theorem put_2 {f a w f' a' w' : Int} (h : f' ≠ 0 ∨ a' ≠ 0 ∨ w' ≠ 0) : putS [⟨2, f, a, w⟩] ⟨2, f', a', w'⟩ = [⟨2, f', a', w'⟩] := by
 have hz : zeroH ⟨2, f', a', w'⟩ = false := by
  simp only [zeroH, Bool.and_eq_false_iff, decide_eq_false_iff_not]
  omega
 unfold putS
 rw [hz]
 simp [putGo]
theorem stR_ok {u w z : Int} (hu : 0 ≤ u) (hu1 : u ≤ 3000) (hw : 0 ≤ w) (hwz : w ≤ z) (hz : z ≤ 1) (h1 : u + w ≠ 0) : StkOk t2 (stR u w z) := by
 refine ⟨t2_ok, by show 0 ≤ z; omega, by show z ≤ _; omega, ⟨?_, by simp, ?_, ?_, ?_, ?_, ?_, ?_⟩⟩
 ·intro h hh
  simp only [List.mem_singleton] at hh
  subst hh
  show (findN t2.nodes 2).isSome = true
  decide
 ·intro h hh
  simp only [List.mem_singleton] at hh
  subst hh
  simp [inPg]
 ·intro h hh
  simp only [List.mem_singleton] at hh
  subst hh
  simp only [inPg]
  omega
 ·intro h hh
  simp only [List.mem_singleton] at hh
  subst hh
  simp only [inPg]
  omega
 ·intro h hh
  simp only [List.mem_singleton] at hh
  subst hh
  simp only
  omega
 ·simp [sumI]
  omega
 ·simp only [List.map_cons, List.map_nil, sumI]
  omega
theorem lone_2 {u z : Int} (hu : 1 ≤ u) (hu1 : u ≤ 3000) (hz0 : 0 ≤ z) (hz : z ≤ 1) : Lone t2 (stR u 0 z) 2 [] := by
 refine ⟨⟨stR_ok (by omega) hu1 (by omega) hz0 hz (by omega), ⟨by simp, by simp, by simp, by simp⟩, ⟨by simp, by simp, by simp⟩, in_2⟩, by decide, by decide, by simp [getS]⟩
theorem room_2 {u z : Int} (hz0 : 0 ≤ z) (hz : z ≤ 1) : roomS t2 [⟨2, 0, u, 0⟩] z [] 2 = z := by
 have s2 : swT t2 [⟨2, 0, u, 0⟩] 2 = 0 := by
  unfold swT
  rw [show subT t2 2 = [2] by decide]
  simp [sumI, swpF, getS]
 have s1 : swT t2 [⟨2, 0, u, 0⟩] 1 = 0 := by
  unfold swT
  rw [show subT t2 1 = [1, 2] by decide]
  simp [sumI, swpF, getS]
 unfold roomS
 rw [show ancF t2.nodes t2.nodes.length 2 = [2, 1] by decide]
 simp only [leftS, s1, s2, show ∀ g, mostK [] g = 4611686018427387904 from fun _ => rfl]
 omega
theorem most_2 (a b : Int) : mostM (l2 a b) 2 = a ∧ mostM (l2 a b) 1 = 16777216 := by
 constructor
 ·simp [mostM, getM]
 ·show (if (1 : Int) = 1 then min (getM (l2 a b) 1).most 16777216 else _) = _
  rw [if_pos rfl]
  rfl
theorem high_2 (a : Int) : (getM (l2 a 4611686018427387904) 2).high = 4611686018427387904 ∧ (getM (l2 a 4611686018427387904) 1).high = 4611686018427387904 := by
 constructor
 ·simp [getM]
 ·simp [getM]
theorem settle_2 {u w z M : Int} {sh : List Sh} {mx : List Int} (hu : u ≤ 3000) : settleG t2 (l2 M 4611686018427387904) [2, 1] ⟨stR u w z, sh, mx, [], 0⟩ = ⟨stR u w z, sh, mx, [], 0⟩ := by
 have h := use_2 u w
 unfold settleG
 rw [(high_2 M).1, if_neg (by show ¬ 0 < usedF t2 (cntS [⟨2, 0, u, w⟩]) 2 - _; omega)]
 unfold settleG
 rw [(high_2 M).2, if_neg (by show ¬ 0 < usedF t2 (cntS [⟨2, 0, u, w⟩]) 1 - _; omega)]
 rfl
theorem reach_a {u m z : Int} (hu : 1 ≤ u) (hu1 : u ≤ 1000) (hm : 0 ≤ m) (hm1 : m ≤ 1000) : growG t2 (l2 (u + m) 4611686018427387904) (g2 (stR u 0 z)) 2 0 m = (⟨stR (u + m) 0 z, [], [], [], 0⟩, 0) := by
 have h := use_2 u 0
 have hr : roomG t2 (l2 (u + m) 4611686018427387904) m [2, 1] (g2 (stR u 0 z)) = (g2 (stR u 0 z), 0) := by
  unfold roomG
  rw [if_neg (by unfold overG; rw [(most_2 _ _).1]; show ¬ 0 < usedF t2 (cntS [⟨2, 0, u, 0⟩]) 2 + _ - _; omega)]
  unfold roomG
  rw [if_neg (by unfold overG; rw [(most_2 _ _).2]; show ¬ 0 < usedF t2 (cntS [⟨2, 0, u, 0⟩]) 1 + _ - _; omega)]
  rfl
 have hp : putG (g2 (stR u 0 z)) (moreH (getS (stR u 0 z).hs 2) 0 m) = ⟨stR (u + m) 0 z, [], [], [], 0⟩ := by
  have hg : moreH (getS (stR u 0 z).hs 2) 0 m = ⟨2, 0, u + m, 0⟩ := by simp [moreH, getS]
  rw [hg]
  unfold putG
  rw [show putS (g2 (stR u 0 z)).stk.hs ⟨2, 0, u + m, 0⟩ = [⟨2, 0, u + m, 0⟩] from put_2 (by omega)]
 unfold growG
 rw [show ancR t2 2 = [2, 1] from by decide]
 simp only [Int.zero_add, hr, if_true]
 rw [show putG (g2 (stR u 0 z)) (moreH (getS (g2 (stR u 0 z)).stk.hs 2) 0 m) = ⟨stR (u + m) 0 z, [], [], [], 0⟩ from hp, settle_2 (by omega)]
theorem reach_b {u m : Int} (hu : 1 ≤ u) (hu1 : u ≤ 1000) (hm : 0 ≤ m) (hm1 : m ≤ 1000) : growG t2 (l2 (u + m) 4611686018427387904) (g2 (stR u 0 0)) 2 0 (m + 1) = (⟨stR u 0 0, [], [2], [], 2⟩, 20) := by
 have h := use_2 u 0
 have ho : overG t2 (l2 (u + m) 4611686018427387904) (m + 1) (g2 (stR u 0 0)) 2 = 1 := by
  unfold overG
  rw [(most_2 _ _).1]
  show usedF t2 (cntS [⟨2, 0, u, 0⟩]) 2 + _ - _ = _
  omega
 have hs : shrG t2 (l2 (u + m) 4611686018427387904) (maxG (g2 (stR u 0 0)) 2) 2 1 = ⟨stR u 0 0, [], [2], [], 0⟩ := by
  unfold shrG
  rw [show prsM (l2 (u + m) 4611686018427387904) = [] from rfl, show chsM (l2 (u + m) 4611686018427387904) = [] from rfl, show min (1 : Int) 16777216 = 1 from by decide]
  rw [show (maxG (g2 (stR u 0 0)) 2).stk = stR u 0 0 from rfl, lone_full_eq (n := 1) (lone_2 (u := u) (z := 0) hu (by omega) (by omega) (by omega)) (by omega) (by omega) (room_2 (u := u) (z := 0) (by omega) (by omega))]
  rfl
 have hr : roomG t2 (l2 (u + m) 4611686018427387904) (m + 1) [2, 1] (g2 (stR u 0 0)) = (⟨stR u 0 0, [], [2], [], 2⟩, 20) := by
  unfold roomG
  rw [ho, if_pos (by decide), hs, (most_2 _ _).1, if_pos (by show u + m < usedF t2 (cntS [⟨2, 0, u, 0⟩]) 2 + _; omega)]
  rfl
 unfold growG
 rw [show ancR t2 2 = [2, 1] from by decide]
 simp only [Int.zero_add, hr]
 rw [if_neg (by decide)]
theorem reach_c {u m : Int} (hu : 1 ≤ u) (hu1 : u ≤ 1000) (hm : 0 ≤ m) (hm1 : m ≤ 1000) : growG t2 (l2 (u + m) 4611686018427387904) (g2 (stR u 0 1)) 2 0 (m + 1) = (⟨stR (u + m) 1 1, [⟨2, 0, 1, 0⟩], [2], [], 0⟩, 0) := by
 have h := use_2 u 0
 have h' := use_2 (u - 1) 1
 have ho : overG t2 (l2 (u + m) 4611686018427387904) (m + 1) (g2 (stR u 0 1)) 2 = 1 := by
  unfold overG
  rw [(most_2 _ _).1]
  show usedF t2 (cntS [⟨2, 0, u, 0⟩]) 2 + _ - _ = _
  omega
 have hs : shrG t2 (l2 (u + m) 4611686018427387904) (maxG (g2 (stR u 0 1)) 2) 2 1 = ⟨stR (u - 1) 1 1, [⟨2, 0, 1, 0⟩], [2], [], 0⟩ := by
  unfold shrG
  rw [show prsM (l2 (u + m) 4611686018427387904) = [] from rfl, show chsM (l2 (u + m) 4611686018427387904) = [] from rfl, show min (1 : Int) 16777216 = 1 from by decide]
  rw [show (maxG (g2 (stR u 0 1)) 2).stk = stR u 0 1 from rfl, lone_one_eq (lone_2 (z := 1) hu (by omega) (by omega) (by omega)) (by rw [room_2 (u := u) (z := 1) (by omega) (by omega)]; exact Int.le_refl _) (by simp [getS]; omega) (by rw [h.1]; exact hu)]
  have hg : takeH true (getS (stR u 0 1).hs 2) 1 = ⟨2, 0, u - 1, 1⟩ := by simp [takeH, getS]
  rw [hg, show putS (stR u 0 1).hs ⟨2, 0, u - 1, 1⟩ = [⟨2, 0, u - 1, 1⟩] from put_2 (by omega)]
  rfl
 have hr : roomG t2 (l2 (u + m) 4611686018427387904) (m + 1) [2, 1] (g2 (stR u 0 1)) = (⟨stR (u - 1) 1 1, [⟨2, 0, 1, 0⟩], [2], [], 0⟩, 0) := by
  unfold roomG
  rw [ho, if_pos (by decide), hs, (most_2 _ _).1, if_neg (by show ¬ u + m < usedF t2 (cntS [⟨2, 0, u - 1, 1⟩]) 2 + _; omega)]
  unfold roomG
  rw [if_neg (by unfold overG; rw [(most_2 _ _).2]; show ¬ 0 < usedF t2 (cntS [⟨2, 0, u - 1, 1⟩]) 1 + _ - _; omega)]
  rfl
 have hp : putG ⟨stR (u - 1) 1 1, [⟨2, 0, 1, 0⟩], [2], [], 0⟩ (moreH (getS (stR (u - 1) 1 1).hs 2) 0 (m + 1)) = ⟨stR (u + m) 1 1, [⟨2, 0, 1, 0⟩], [2], [], 0⟩ := by
  have hg : moreH (getS (stR (u - 1) 1 1).hs 2) 0 (m + 1) = ⟨2, 0, u + m, 1⟩ := by
   simp [moreH, getS]
   omega
  rw [hg]
  unfold putG
  rw [show putS (stR (u - 1) 1 1).hs ⟨2, 0, u + m, 1⟩ = [⟨2, 0, u + m, 1⟩] from put_2 (by omega)]
 unfold growG
 rw [show ancR t2 2 = [2, 1] from by decide]
 simp only [Int.zero_add, hr, if_true]
 rw [hp, settle_2 (by omega)]
end Go.V
