/- The value machine V at work: the reference's round is the program's. -/
import Derived.Test.YtdmghfmdcfagcaaVR28
set_option linter.unusedSimpArgs false
set_option linter.unusedVariables false
namespace Go.V

theorem pairs_ext : ∀ (a b : List (Int × Int)), (a.Pairwise fun x y => x.1 < y.1) → (b.Pairwise fun x y => x.1 < y.1) → (∀ x, x ∈ a ↔ x ∈ b) → a = b
  | [], [], _, _, _ => rfl
  | [], y :: b, _, _, h => by have := (h y).2 (List.mem_cons_self ..); simp at this
  | x :: a, [], _, _, h => by have := (h x).1 (List.mem_cons_self ..); simp at this
  | x :: a, y :: b, ha, hb, h => by
    obtain ⟨ha1, ha2⟩ := List.pairwise_cons.1 ha
    obtain ⟨hb1, hb2⟩ := List.pairwise_cons.1 hb
    have hxy : x = y := by
      rcases List.mem_cons.1 ((h x).1 (List.mem_cons_self ..)) with h1 | h1
      · exact h1
      · rcases List.mem_cons.1 ((h y).2 (List.mem_cons_self ..)) with h2 | h2
        · exact h2.symm
        · have := hb1 x h1
          have := ha1 y h2
          omega
    subst hxy
    refine congrArg (x :: ·) (pairs_ext a b ha2 hb2 fun z => ?_)
    constructor
    · intro hz
      rcases List.mem_cons.1 ((h z).1 (List.mem_cons_of_mem _ hz)) with h1 | h1
      · subst h1
        have := ha1 z hz
        omega
      · exact h1
    · intro hz
      rcases List.mem_cons.1 ((h z).2 (List.mem_cons_of_mem _ hz)) with h1 | h1
      · subst h1
        have := hb1 z hz
        omega
      · exact h1
theorem sumOn_mem : ∀ {a : List (Int × Int)}, (a.Pairwise fun x y => x.1 < y.1) → ∀ q ∈ a, sumOn [q.1] a = q.2
  | [], _, q, hq => by simp at hq
  | p :: a, h, q, hq => by
    obtain ⟨h1, h2⟩ := List.pairwise_cons.1 h
    have hs : sumOn [q.1] (p :: a) = (if p.1 ∈ [q.1] then p.2 else 0) + sumOn [q.1] a := rfl
    rcases List.mem_cons.1 hq with rfl | hq
    · rw [hs, if_pos (by simp), sumOn_zero (fun r hr => by
        have := h1 r hr
        simp only [List.mem_singleton]
        omega)]
      omega
    · have := h1 q hq
      rw [hs, if_neg (by simp only [List.mem_singleton]; omega), sumOn_mem h2 q hq]
      omega
/-- What the reference lists. -/
def listR (l : List Pt) (f : Int → Int) : List (Int × Int) := l.filterMap fun x => if 0 < f x.group then some (x.group, f x.group) else none
theorem listR_snoc (l : List Pt) (f : Int → Int) (x : Pt) : listR (l ++ [x]) f = listR l f ++ if 0 < f x.group then [(x.group, f x.group)] else [] := by
  unfold listR
  rw [List.filterMap_append]
  congr 1
  by_cases h : 0 < f x.group <;> simp [h]
theorem listR_len (l : List Pt) (f : Int → Int) : (listR l f).length ≤ l.length := List.length_filterMap_le _ _
theorem listR_eq {t : Tr} {l : List Pt} {root K : Int} {a : List (Int × Int)} (hP : PartsOk t l root) (h : RoundOk t l root K a) : listR l (fun x => sumOn [x] a) = a := by
  refine pairs_ext _ _ ?_ h.inc fun q => ?_
  · have : (l.map (·.group)).Pairwise fun a b => a < b := hP.groups ▸ msort_inc (nodup_subT hP.tree root)
    rw [List.pairwise_map] at this
    unfold listR
    rw [List.pairwise_filterMap]
    refine this.imp fun {x y} hxy p hp q hq => ?_
    split at hp <;> simp at hp
    split at hq <;> simp at hq
    subst hp
    subst hq
    exact hxy
  · unfold listR
    rw [List.mem_filterMap]
    constructor
    · rintro ⟨x, hx, hq⟩
      split at hq <;> simp at hq
      rename_i hpos
      replace hpos : 0 < sumOn [x.group] a := hpos
      subst hq
      rcases sumOn_one (g := x.group) h.inc with h1 | ⟨r, hr, h1, h2⟩
      · omega
      · show (x.group, sumOn [x.group] a) ∈ a
        rw [h2]
        have : (x.group, r.2) = r := by rw [← h1]
        rw [this]
        exact hr
    · intro hq
      obtain ⟨x, hx, hg⟩ := has_part hP (h.groups q hq)
      have hs := sumOn_mem h.inc q hq
      have hp := (h.pos q hq).1
      refine ⟨x, hx, ?_⟩
      show (if 0 < sumOn [x.group] a then some (x.group, sumOn [x.group] a) else none) = some q
      rw [hg, hs, if_pos hp]

set_option maxHeartbeats 4000000 in
theorem rround_eq (t : Tr) (l : List Pt) (root n : Int) (hn : t.nodes.length < 1000000) (hl : l.length < 1000000) : V 35 [t.vv, .p (ptsP l), .p (.int .i64 root), .p (.int .i64 n)] [] = some (.tup [.fresh 2 ((RoundP t l root n).1.map tkP), .p (.int .i64 (RoundP t l root n).2)], []) := by
  refine V_wp (vf := vf35) rfl ?_
  have hv := rvalid24_eq t l root hn hl
  by_cases h : validP t l root = true
  · have hP := (validP_iff t l root).1 h
    rw [h] at hv
    by_cases hn0 : n < 0
    · have hrp : RoundP t l root n = ([], 3) := by
        rw [RoundP, if_pos h, if_neg (by simp [pagesB]; omega)]
      rw [hrp]
      simp -implicitDefEqProofs (disch := omega) only [vf35, vb35, hv, hn0, go_sem, ↓reduceIte, Nat.reduceAdd, Nat.reduceSub, Nat.reduceEqDiff, Nat.reduceLeDiff, reduceCtorEq]
    · by_cases hn1 : 16777216 < n
      · have hrp : RoundP t l root n = ([], 3) := by
          rw [RoundP, if_pos h, if_neg (by simp [pagesB]; omega)]
        rw [hrp]
        simp -implicitDefEqProofs (disch := omega) only [vf35, vb35, hv, hn0, hn1, go_sem, ↓reduceIte, Nat.reduceAdd, Nat.reduceSub, Nat.reduceEqDiff, Nat.reduceLeDiff, reduceCtorEq]
      · obtain ⟨a, hra, hR⟩ := round_ok hP (show 0 ≤ n by omega) (by omega)
        have hlist := listR_eq hP hR
        have hcap := rcap24_eq hP.tree hl hP.ok hP.top
        have hcb : 0 ≤ capR t l root ∧ capR t l root ≤ 16777216 := capN_bound (ns := t.nodes) hP.ok t.nodes.length root
        have hrp : RoundP t l root n = (tsort (takeR t l root (min n (capR t l root))), 0) := by
          rw [RoundP, if_pos h, if_pos (by simp [pagesB]; omega)]
        have hat : a = tsort (takeR t l root (min n (capR t l root))) := by
          rw [hra] at hrp
          exact congrArg Prod.fst hrp
        have htk : ∃ ks vs, V 53 [t.vv, .p (ptsP l), .p (.int .i64 root), .p (.int .i64 (min n (capR t l root))), .mref (.arg 0 0) 0] [.map (.int .i64) [] []] = some (.tup [], [.map (.int .i64) ks vs]) ∧ Rep ks vs (fun x => 0 + sumOn [x] (takeR t l root (min n (capR t l root)))) := by
          obtain ⟨i, r, hr, he⟩ := hP.top
          subst he
          exact rtake_eq0 hP.tree hl hP.ok _ i r _ [] [] (fun _ => 0) hr (by omega) (by omega) (by omega) (fun id => rfl) (fun _ _ => rfl)
        obtain ⟨km, vm, htk, hrep⟩ := htk
        have hrep' : Rep km vm (fun x => sumOn [x] a) := hrep.congr fun x => by
          rw [hat, sumOn_perm (tsort_perm _)]
          omega
        have hab : ∀ x, 0 ≤ sumOn [x] a ∧ sumOn [x] a ≤ 16777216 := fun x => by
          have h1 := own_taken hP.ok hR x
          have h2 := (partOf_ok hP.ok x).o1
          omega
        rw [hra]
        obtain ⟨f, hf⟩ : ∃ f : Int → Int, f = fun x => sumOn [x] a := ⟨_, rfl⟩
        rw [← hf] at hrep' hlist
        have hab' : ∀ x, 0 ≤ f x ∧ f x ≤ 16777216 := fun x => by rw [hf]; exact hab x
        rw [← hlist]
        clear hab hrep hf hlist hat hrp hra hR
        simp -implicitDefEqProofs (disch := omega) only [vf35, vb35, hv, hn0, hn1, hcap, htk, go_sem, ↓reduceIte, Nat.reduceAdd, Nat.reduceSub, Nat.reduceEqDiff, Nat.reduceLeDiff, reduceCtorEq]
        obtain ⟨I, hI⟩ : ∃ I : Nat → St → Prop, ∀ k s, I k s ↔ ∃ (out : List (Int × Int)) (ww : Nat), out = listR (l.take k) f ∧ s.pe 1 = .p (ptsP l) ∧ s.pe 10 = .mref (.slot 25 0) 0 ∧ s.pe 11 = .own (.slot 11 0) ww 0 out.length ∧ s.pe 12 = .p (.int .i64 k) ∧ s.h (.slot 11 0) = some (ww, Ob.arr 2 (List.map tkP out)) ∧ s.h (.slot 25 0) = some (0, Ob.map (.int .i64) km vm) := ⟨_, fun _ _ => Iff.rfl⟩
        refine wp_count (l.length) I ?_ ?_
        · refine (hI _ _).2 ⟨[], 0, ?_, ?_, ?_, ?_, ?_, ?_, ?_⟩
          · exact by simp [listR]
          all_goals first | with_reducible rfl | (simp -implicitDefEqProofs (disch := omega) only [List.map_append, go_sem, ↓reduceIte, Nat.reduceAdd, Nat.reduceSub, Nat.reduceEqDiff, Nat.reduceLeDiff, reduceCtorEq]; first | done | rfl | (simp; done) | (congr 2; omega) | (congr 1; omega) | (congr 3; omega) | (simp; omega) | (congr 2; simp; omega) | (refine ⟨_, rfl, ?_⟩; first | rfl | (simp -implicitDefEqProofs (disch := omega) only [List.map_append, go_sem, ↓reduceIte, Nat.reduceAdd, Nat.reduceSub, Nat.reduceEqDiff, Nat.reduceLeDiff, reduceCtorEq]; done))) | rfl | omega | (congr 2; omega)
        intro k s hk hIk
        obtain ⟨out, ww, hout, h1, h10, h11, h12, hh11_0, hh25_0⟩ := (hI _ _).1 hIk
        clear hIk
        have hol := listR_len (l.take k) f
        rw [← hout, List.length_take] at hol
        simp -implicitDefEqProofs (disch := omega) only [h1, h10, h11, h12, hh11_0, hh25_0, go_sem, ↓reduceIte, Nat.reduceAdd, Nat.reduceSub, Nat.reduceEqDiff, Nat.reduceLeDiff, reduceCtorEq]
        refine wp_if_d (fun hlt => ?_) (fun hge => ?_)
        · have hm : l[k]? = some l[k] := List.getElem?_eq_getElem hlt
          have htk := take_snoc hm
          generalize l[k] = x at hm htk
          have hlk := hrep' x.group
          have hfx := hab' x.group
          have hstep := listR_snoc (l.take k) f x
          rw [← htk, ← hout] at hstep
          generalize f x.group = v at hlk hfx hstep
          have hv0 := hfx.1
          have hv1 := hfx.2
          by_cases hpos : 0 < v
          · rw [if_pos hpos] at hstep
            simp -implicitDefEqProofs (disch := omega) only [h1, h10, h11, h12, hh11_0, hh25_0, hlt, hm, hlk, hpos, go_sem, ↓reduceIte, Nat.reduceAdd, Nat.reduceSub, Nat.reduceEqDiff, Nat.reduceLeDiff, reduceCtorEq]
            try refine And.intro (by omega) ?_
            refine (hI _ _).2 ⟨out ++ [(x.group, v)], ww + 1, ?_, ?_, ?_, ?_, ?_, ?_, ?_⟩
            · exact hstep.symm
            all_goals first | with_reducible rfl | (simp -implicitDefEqProofs (disch := omega) only [h1, h10, h11, h12, hh11_0, hh25_0, List.map_append, go_sem, ↓reduceIte, Nat.reduceAdd, Nat.reduceSub, Nat.reduceEqDiff, Nat.reduceLeDiff, reduceCtorEq]; first | done | rfl | (simp; done) | (congr 2; omega) | (congr 1; omega) | (congr 3; omega) | (simp; omega) | (congr 2; simp; omega) | (refine ⟨_, rfl, ?_⟩; first | rfl | (simp -implicitDefEqProofs (disch := omega) only [h1, h10, h11, h12, hh11_0, hh25_0, List.map_append, go_sem, ↓reduceIte, Nat.reduceAdd, Nat.reduceSub, Nat.reduceEqDiff, Nat.reduceLeDiff, reduceCtorEq]; done))) | rfl | omega | (congr 2; omega)
          · rw [if_neg hpos, List.append_nil] at hstep
            simp -implicitDefEqProofs (disch := omega) only [h1, h10, h11, h12, hh11_0, hh25_0, hlt, hm, hlk, hpos, go_sem, ↓reduceIte, Nat.reduceAdd, Nat.reduceSub, Nat.reduceEqDiff, Nat.reduceLeDiff, reduceCtorEq]
            try refine And.intro (by omega) ?_
            refine (hI _ _).2 ⟨out, ww, ?_, ?_, ?_, ?_, ?_, ?_, ?_⟩
            · exact hstep.symm
            all_goals first | with_reducible rfl | (simp -implicitDefEqProofs (disch := omega) only [h1, h10, h11, h12, hh11_0, hh25_0, List.map_append, go_sem, ↓reduceIte, Nat.reduceAdd, Nat.reduceSub, Nat.reduceEqDiff, Nat.reduceLeDiff, reduceCtorEq]; first | done | rfl | (simp; done) | (congr 2; omega) | (congr 1; omega) | (congr 3; omega) | (simp; omega) | (congr 2; simp; omega) | (refine ⟨_, rfl, ?_⟩; first | rfl | (simp -implicitDefEqProofs (disch := omega) only [h1, h10, h11, h12, hh11_0, hh25_0, List.map_append, go_sem, ↓reduceIte, Nat.reduceAdd, Nat.reduceSub, Nat.reduceEqDiff, Nat.reduceLeDiff, reduceCtorEq]; done))) | rfl | omega | (congr 2; omega)
        · rw [List.take_of_length_le (by omega)] at hout
          simp -implicitDefEqProofs (disch := omega) only [h1, h10, h11, h12, hh11_0, hh25_0, hge, go_sem, ↓reduceIte, Nat.reduceAdd, Nat.reduceSub, Nat.reduceEqDiff, Nat.reduceLeDiff, reduceCtorEq]
          rw [hout]
  · have h' : validP t l root = false := by simpa using h
    rw [h'] at hv
    have hrp : RoundP t l root n = ([], 1) := by
      rw [RoundP, if_neg h]
    rw [hrp]
    simp -implicitDefEqProofs (disch := omega) only [vf35, vb35, hv, go_sem, ↓reduceIte, Nat.reduceAdd, Nat.reduceSub, Nat.reduceEqDiff, Nat.reduceLeDiff, reduceCtorEq]
theorem rcapacity_eq (t : Tr) (l : List Pt) (root : Int) (hn : t.nodes.length < 1000000) (hl : l.length < 1000000) : V 34 [t.vv, .p (ptsP l), .p (.int .i64 root)] [] = some (.tup [.p (.int .i64 (CapP t l root).1), .p (.int .i64 (CapP t l root).2)], []) := by
  refine V_wp (vf := vf34) rfl ?_
  have hv := rvalid24_eq t l root hn hl
  unfold CapP
  by_cases h : validP t l root = true
  · have hP := (validP_iff t l root).1 h
    have hc := rcap24_eq hP.tree hl hP.ok hP.top
    rw [h] at hv
    rw [if_pos h]
    simp -implicitDefEqProofs (disch := omega) only [vf34, vb34, hv, hc, go_sem, ↓reduceIte, Nat.reduceAdd, Nat.reduceSub, Nat.reduceEqDiff, Nat.reduceLeDiff, reduceCtorEq]
  · have h' : validP t l root = false := by simpa using h
    rw [h'] at hv
    rw [if_neg h]
    simp -implicitDefEqProofs (disch := omega) only [vf34, vb34, hv, go_sem, ↓reduceIte, Nat.reduceAdd, Nat.reduceSub, Nat.reduceEqDiff, Nat.reduceLeDiff, reduceCtorEq]
theorem RoundP_len (t : Tr) (l : List Pt) (root n : Int) : (RoundP t l root n).1.length < 1000000 := by
  by_cases h : validP t l root = true
  · have hP := (validP_iff t l root).1 h
    by_cases hpn : pagesB n = true
    · have hb : 0 ≤ n ∧ n ≤ 16777216 := by simpa [pagesB] using hpn
      obtain ⟨a, hra, hR⟩ := round_ok hP hb.1 hb.2
      have := hR.len
      rw [hra]
      show a.length < 1000000
      omega
    · rw [RoundP, if_pos h, if_neg hpn]
      simp
  · rw [RoundP, if_neg h]
    simp
set_option maxHeartbeats 4000000 in
theorem exact24_eq (t : Tr) (l : List Pt) (root n : Int) (hf : t.Fits) (hn : t.nodes.length < 1000000) (hl : l.length < 1000000) : V 17 [t.vv, .p (ptsP l), .p (.int .i64 root), .p (.int .i64 n)] [] = some (.p (.bool true), []) := by
  refine V_wp (vf := vf17) rfl ?_
  have a1 := capacity_eq t l root hf hn hl
  have a2 := rcapacity_eq t l root hn hl
  have a3 := round_eq t l root n hf hn hl
  have a4 := rround_eq t l root n hn hl
  have a5 := pvalid_parts t l root hf hn hl
  have a6 := rvalid24_eq t l root hn hl
  have a7 := sameT_eq (RoundP t l root n).1 (RoundP t l root n).1 (RoundP_len t l root n)
  rw [decide_eq_true rfl] at a7
  generalize CapP t l root = g1 at *
  generalize RoundP t l root n = g2 at *
  generalize validP t l root = g3 at *
  simp -implicitDefEqProofs (disch := omega) only [vf17, vb17, a1, a2, a3, a4, a5, a6, a7, beq_self_eq_true, go_sem, ↓reduceIte, Nat.reduceAdd, Nat.reduceSub, Nat.reduceEqDiff, Nat.reduceLeDiff, reduceCtorEq]
end Go.V

