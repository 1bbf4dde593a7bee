/- The value machine V at work: busy groups and their shares. -/
import Derived.Test.YtcljahgcdbohaaaVI3
set_option linter.unusedSimpArgs false
set_option linter.unusedVariables false
namespace Go.V
-- closer: sumI

def Rep3 (ks : List MKey) (vs : List PV) (on : Int → Bool) : Prop := ∀ id, mget ks vs (.int id) = if on id = true then some (.bool true) else none
theorem Rep3.put {ks : List MKey} {vs : List PV} {on : Int → Bool} (h : Rep3 ks vs on) (g : Int) : Rep3 (mput ks vs (.int g) (.bool true)).1 (mput ks vs (.int g) (.bool true)).2 (fun x => on x || decide (x = g)) := by
  intro id
  rw [mget_mput]
  by_cases hg : id = g
  · subst hg
    simp
  · simp [hg]
    exact h id
theorem Rep3.congr {ks : List MKey} {vs : List PV} {on on' : Int → Bool} (h : Rep3 ks vs on) (he : ∀ x, on x = on' x) : Rep3 ks vs on' := fun id => by rw [← he]; exact h id

set_option maxHeartbeats 1000000 in
theorem busy_eq (t : Tr) (active : List Int) (hn : t.nodes.length < 1000000) (ha : active.length < 1000000) : ∃ ks vs, V 120 [t.vv, .p (intsP active)] [] = some (.p (.map (.int .i64) ks vs), []) ∧ Rep3 ks vs (onB t active) := by
  suffices hw : wp (callF V vf120 [t.vv, .p (intsP active)] []) (fun r => ∃ ks vs, r = (.p (.map (.int .i64) ks vs), []) ∧ Rep3 ks vs (onB t active)) by
    obtain ⟨r, hr, ks, vs, rfl, hrep⟩ := hw
    exact ⟨ks, vs, V_fix (vf := vf120) rfl hr, hrep⟩
  simp -implicitDefEqProofs (disch := omega) only [vf120, vb120, go_sem, ↓reduceIte, Nat.reduceAdd, Nat.reduceSub, Nat.reduceEqDiff, Nat.reduceLeDiff, reduceCtorEq]
  obtain ⟨I, hI⟩ : ∃ I : Nat → St → Prop, ∀ k s, I k s ↔ ∃ (ks : List MKey) (vs : List PV), Rep3 ks vs (onB t (active.take k)) ∧ s.pe 2 = .ptr (.slot 2 0) 0 0 ∧ s.pe 5 = .mref (.slot 10 0) 0 ∧ s.pe 11 = .p (intsP active) ∧ s.pe 12 = .p (.int .i64 ↑active.length) ∧ s.pe 13 = .p (.int .i64 k) ∧ s.h (.slot 2 0) = some (0, Ob.box [.p (nodesP t.nodes), .p (.int .i64 t.next)]) ∧ s.h (.slot 10 0) = some (0, Ob.map (KT.int IntKind.i64) ks vs) := ⟨_, fun _ _ => Iff.rfl⟩
  refine wp_count (active.length) I ?_ ?_
  · refine (hI _ _).2 ⟨[], [], ?_, ?_, ?_, ?_, ?_, ?_, ?_, ?_⟩
    · exact fun id => rfl
    all_goals first | with_reducible rfl | (simp -implicitDefEqProofs (disch := omega) only [List.map_append, go_sem, ↓reduceIte, Nat.reduceAdd, Nat.reduceSub, Nat.reduceEqDiff, Nat.reduceLeDiff, reduceCtorEq]; first | done | rfl | (simp; done) | (congr 2; omega) | (congr 1; omega) | (congr 3; omega) | (simp; omega) | (congr 2; simp; omega) | (simp [sumI]; done) | (simp [sumI]; omega) | (refine ⟨_, rfl, ?_⟩; first | rfl | (simp -implicitDefEqProofs (disch := omega) only [List.map_append, go_sem, ↓reduceIte, Nat.reduceAdd, Nat.reduceSub, Nat.reduceEqDiff, Nat.reduceLeDiff, reduceCtorEq]; done))) | rfl | omega | (congr 2; omega)
  intro k s hk hIk
  obtain ⟨ks, vs, hrep, h2, h5, h11, h12, h13, hh2_0, hh10_0⟩ := (hI _ _).1 hIk
  clear hIk
  simp -implicitDefEqProofs (disch := omega) only [h2, h5, h11, h12, h13, hh2_0, hh10_0, go_sem, ↓reduceIte, Nat.reduceAdd, Nat.reduceSub, Nat.reduceEqDiff, Nat.reduceLeDiff, reduceCtorEq]
  refine wp_if_d (fun hlt => ?_) (fun hge => ?_)
  · have hm : active[k]? = some active[k] := List.getElem?_eq_getElem hlt
    generalize active[k] = g at hm
    have hst : ∀ x, onB t (active.take (k + 1)) x = (onB t (active.take k) x || decide (x ∈ ancF t.nodes t.nodes.length g)) := fun x => by
      unfold onB
      rw [any_take hm]
    have c1 := fanc_eq t g hn
    have hal := ancF_length t.nodes t.nodes.length g
    generalize ancF t.nodes t.nodes.length g = A at c1 hst hal
    simp -implicitDefEqProofs (disch := omega) only [h2, h5, h11, h12, h13, hh2_0, hh10_0, hlt, hm, c1, go_sem, ↓reduceIte, Nat.reduceAdd, Nat.reduceSub, Nat.reduceEqDiff, Nat.reduceLeDiff, reduceCtorEq]
    obtain ⟨J, hJ⟩ : ∃ I : Nat → St → Prop, ∀ j s, I j s ↔ ∃ (ks : List MKey) (vs : List PV) (v19_1 : Nat), Rep3 ks vs (fun x => onB t (active.take k) x || decide (x ∈ A.take j)) ∧ s.pe 2 = .ptr (.slot 2 0) 0 0 ∧ s.pe 5 = .mref (.slot 10 0) 0 ∧ s.pe 11 = .p (intsP active) ∧ s.pe 12 = .p (.int .i64 ↑active.length) ∧ s.pe 13 = .p (.int .i64 ↑k) ∧ s.pe 19 = .own (.slot 19 1) v19_1 0 A.length ∧ s.pe 20 = .p (.int .i64 ↑A.length) ∧ s.pe 21 = .p (.int .i64 j) ∧ s.h (.slot 2 0) = some (0, Ob.box [.p (nodesP t.nodes), .p (.int .i64 t.next)]) ∧ s.h (.slot 10 0) = some (0, Ob.map (KT.int IntKind.i64) ks vs) ∧ s.h (.slot 19 1) = some (v19_1, Ob.arr 1 (List.map (.int .i64) A)) := ⟨_, fun _ _ => Iff.rfl⟩
    refine wp_count (A.length) J ?_ ?_
    · refine (hJ _ _).2 ⟨ks, vs, nv (fzOb [19] s.h (.slot 19 1)), ?_, ?_, ?_, ?_, ?_, ?_, ?_, ?_, ?_, ?_, ?_, ?_⟩
      · exact hrep.congr fun x => by simp
      all_goals first | with_reducible rfl | (simp -implicitDefEqProofs (disch := omega) only [h2, h5, h11, h12, h13, hh2_0, hh10_0, List.map_append, go_sem, ↓reduceIte, Nat.reduceAdd, Nat.reduceSub, Nat.reduceEqDiff, Nat.reduceLeDiff, reduceCtorEq]; first | done | rfl | (simp; done) | (congr 2; omega) | (congr 1; omega) | (congr 3; omega) | (simp; omega) | (congr 2; simp; omega) | (simp [sumI]; done) | (simp [sumI]; omega) | (refine ⟨_, rfl, ?_⟩; first | rfl | (simp -implicitDefEqProofs (disch := omega) only [h2, h5, h11, h12, h13, hh2_0, hh10_0, List.map_append, go_sem, ↓reduceIte, Nat.reduceAdd, Nat.reduceSub, Nat.reduceEqDiff, Nat.reduceLeDiff, reduceCtorEq]; done))) | rfl | omega | (congr 2; omega)
    intro j s hj hJk
    obtain ⟨ks, vs, v19_1, hrepj, h2, h5, h11, h12, h13, h19, h20, h21, hh2_0, hh10_0, hh19_1⟩ := (hJ _ _).1 hJk
    clear hJk
    simp -implicitDefEqProofs (disch := omega) only [h2, h5, h11, h12, h13, h19, h20, h21, hh2_0, hh10_0, hh19_1, go_sem, ↓reduceIte, Nat.reduceAdd, Nat.reduceSub, Nat.reduceEqDiff, Nat.reduceLeDiff, reduceCtorEq]
    refine wp_if_d (fun hjl => ?_) (fun hjg => ?_)
    · have hx : A[j]? = some A[j] := List.getElem?_eq_getElem hjl
      have htk : A.take (j + 1) = A.take j ++ [A[j]] := by rw [List.take_add_one, hx]; rfl
      generalize A[j] = x at hx htk
      have hnext := hrepj.put x
      simp -implicitDefEqProofs (disch := omega) only [h2, h5, h11, h12, h13, h19, h20, h21, hh2_0, hh10_0, hh19_1, hjl, hx, go_sem, ↓reduceIte, Nat.reduceAdd, Nat.reduceSub, Nat.reduceEqDiff, Nat.reduceLeDiff, reduceCtorEq]
      try refine And.intro (by omega) ?_
      refine (hJ _ _).2 ⟨(mput ks vs (.int x) (.bool true)).1, (mput ks vs (.int x) (.bool true)).2, v19_1, ?_, ?_, ?_, ?_, ?_, ?_, ?_, ?_, ?_, ?_, ?_, ?_⟩
      · exact hnext.congr fun y => by rw [htk]; simp [Bool.or_assoc]
      all_goals first | with_reducible rfl | (simp -implicitDefEqProofs (disch := omega) only [h2, h5, h11, h12, h13, h19, h20, h21, hh2_0, hh10_0, hh19_1, List.map_append, go_sem, ↓reduceIte, Nat.reduceAdd, Nat.reduceSub, Nat.reduceEqDiff, Nat.reduceLeDiff, reduceCtorEq]; first | done | rfl | (simp; done) | (congr 2; omega) | (congr 1; omega) | (congr 3; omega) | (simp; omega) | (congr 2; simp; omega) | (simp [sumI]; done) | (simp [sumI]; omega) | (refine ⟨_, rfl, ?_⟩; first | rfl | (simp -implicitDefEqProofs (disch := omega) only [h2, h5, h11, h12, h13, h19, h20, h21, hh2_0, hh10_0, hh19_1, List.map_append, go_sem, ↓reduceIte, Nat.reduceAdd, Nat.reduceSub, Nat.reduceEqDiff, Nat.reduceLeDiff, reduceCtorEq]; done))) | rfl | omega | (congr 2; omega)
    · rw [show A.take j = A from List.take_of_length_le (by omega)] at hrepj
      simp -implicitDefEqProofs (disch := omega) only [h2, h5, h11, h12, h13, h19, h20, h21, hh2_0, hh10_0, hh19_1, hjg, go_sem, ↓reduceIte, Nat.reduceAdd, Nat.reduceSub, Nat.reduceEqDiff, Nat.reduceLeDiff, reduceCtorEq]
      try refine And.intro (by omega) ?_
      refine (hI _ _).2 ⟨ks, vs, ?_, ?_, ?_, ?_, ?_, ?_, ?_, ?_⟩
      · exact hrepj.congr fun y => (hst y).symm
      all_goals first | with_reducible rfl | (simp -implicitDefEqProofs (disch := omega) only [h2, h5, h11, h12, h13, hh2_0, hh10_0, List.map_append, go_sem, ↓reduceIte, Nat.reduceAdd, Nat.reduceSub, Nat.reduceEqDiff, Nat.reduceLeDiff, reduceCtorEq]; first | done | rfl | (simp; done) | (congr 2; omega) | (congr 1; omega) | (congr 3; omega) | (simp; omega) | (congr 2; simp; omega) | (simp [sumI]; done) | (simp [sumI]; omega) | (refine ⟨_, rfl, ?_⟩; first | rfl | (simp -implicitDefEqProofs (disch := omega) only [h2, h5, h11, h12, h13, hh2_0, hh10_0, List.map_append, go_sem, ↓reduceIte, Nat.reduceAdd, Nat.reduceSub, Nat.reduceEqDiff, Nat.reduceLeDiff, reduceCtorEq]; done))) | rfl | omega | (congr 2; omega)
  · rw [List.take_of_length_le (by omega)] at hrep
    simp -implicitDefEqProofs (disch := omega) only [h2, h5, h11, h12, h13, hh2_0, hh10_0, hge, go_sem, ↓reduceIte, Nat.reduceAdd, Nat.reduceSub, Nat.reduceEqDiff, Nat.reduceLeDiff, reduceCtorEq]
    exact ⟨_, _, rfl, hrep⟩

/-! ### shares -/

theorem length_flatMap_le {α β γ : Type} {f : α → List β} {g : α → List γ} : ∀ (l : List α), (∀ x ∈ l, (f x).length ≤ (g x).length) → (l.flatMap f).length ≤ (l.flatMap g).length
  | [], _ => Nat.le_refl _
  | x :: l, h => by
    have h1 := h x (List.mem_cons_self ..)
    have h2 := length_flatMap_le l fun y hy => h y (List.mem_cons_of_mem _ hy)
    simp only [List.flatMap_cons, List.length_append]
    omega
theorem sharesF_succ (t : Tr) (w : Int → Int) (on : Int → Bool) (k : Nat) (id s : Int) : sharesF t w on (k + 1) id s = if on id = true then ⟨id, s⟩ :: (kidsN t.nodes id).flatMap (fun c => if on c = true then sharesF t w on k c (max 1 (s * w c / sumW t w on id)) else []) else [] := rfl
theorem sharesF_len (t : Tr) (w : Int → Int) (on : Int → Bool) : ∀ (k : Nat) (id s : Int), (sharesF t w on k id s).length ≤ (subF t.nodes k id).length
  | 0, _, _ => Nat.le_refl _
  | k + 1, id, s => by
    unfold sharesF subF
    split
    · simp only [List.length_cons]
      have := length_flatMap_le (f := fun c => if on c = true then sharesF t w on k c (max 1 (s * w c / sumW t w on id)) else []) (g := subF t.nodes k) (kidsN t.nodes id) fun x _ => by
        split
        · exact sharesF_len t w on k x _
        · exact Nat.zero_le _
      omega
    · exact Nat.zero_le _

theorem filter_stepI {p : Int → Bool} {l : List Int} {k : Nat} {m : Int} (hm : l[k]? = some m) : (l.take (k + 1)).filter p = if p m = true then (l.take k).filter p ++ [m] else (l.take k).filter p := by
  rw [List.take_add_one, hm]
  simp only [Option.toList, List.filter_append, List.filter_cons, List.filter_nil]
  split <;> simp

set_option maxHeartbeats 4000000 in
theorem shares_eq0 {t : Tr} (h : TreeOk t) {l : List Ch} (hl : AscOk (knownN t.nodes) 1 10000 l) (hll : l.length < 1000000) {ks : List MKey} {vs : List PV} {on : Int → Bool} (hrep : Rep3 ks vs on) : ∀ (f i : Nat) (n : Nd) (u0 : Int), t.nodes[i]? = some n → t.nodes.length ≤ i + f → 0 ≤ u0 → u0 ≤ 1073741824 →
    V 119 [t.vv, .p (chsP l), .p (.map (.int .i64) ks vs), .p (.int .i64 n.id), .p (.int .i64 u0)] [] = some (.fresh 2 ((sharesF t (wtOf l) on f n.id u0).map Ch.pv), []) := by
  intro f
  induction f with
  | zero =>
    intro i n u0 hn hf
    have := (List.getElem?_eq_some_iff.1 hn).1
    omega
  | succ f ih =>
    intro i n u0 hn hf hs0 hs1
    refine V_wp (vf := vf119) rfl ?_
    have hlen := h.len
    have hr := hrep n.id
    have hw : WtOk l := fun c hc => hl.range c hc
    have hsub := subF_length h hn (k := f + 1) (by omega)
    have hsl := sharesF_len t (wtOf l) on (f + 1) n.id u0
    rw [sharesF_succ] at hsl ⊢
    cases hon : on n.id with
    | false =>
      simp only [hon, Bool.false_eq_true, if_false] at hr
      simp -implicitDefEqProofs (disch := omega) only [vf119, vb119, hr, Option.getD_none, go_sem, ↓reduceIte, Nat.reduceAdd, Nat.reduceSub, Nat.reduceEqDiff, Nat.reduceLeDiff, reduceCtorEq]
      try rfl
    | true =>
      simp only [hon, if_true] at hr hsl
      rw [if_pos rfl]
      have hkd := fkids_eq t n.id (by omega)
      have hkid := fun x (hx : x ∈ kidsN t.nodes n.id) => mem_kidsN.1 hx
      have hkl : (kidsN t.nodes n.id).length ≤ t.nodes.length := by
        rw [kidsN, List.length_map]
        exact List.length_filter_le _ _
      have hW : sumW t (wtOf l) on n.id = sumI (((kidsN t.nodes n.id).filter on).map (wtOf l)) := rfl
      generalize sumW t (wtOf l) on n.id = W at hsl hW
      generalize kidsN t.nodes n.id = A at hkd hkid hkl hW hsl
      have hbound : ∀ k, 0 ≤ sumI (((A.take k).filter on).map (wtOf l)) ∧ sumI (((A.take k).filter on).map (wtOf l)) ≤ k * 10000 := by
        intro k
        induction k with
        | zero => simp [sumI]
        | succ k ihk =>
          rcases Nat.lt_or_ge k A.length with hlt | hge
          · have hx : A[k]? = some A[k] := List.getElem?_eq_getElem hlt
            rw [filter_stepI hx]
            have := wtOf_range hw A[k]
            split
            · rw [List.map_append, sumI_append]
              simp only [List.map_cons, List.map_nil, sumI]
              omega
            · omega
          · rw [List.take_of_length_le (by omega)] at ihk ⊢
            omega
      simp -implicitDefEqProofs (disch := omega) only [vf119, vb119, hr, hkd, Option.getD_some, go_sem, ↓reduceIte, Nat.reduceAdd, Nat.reduceSub, Nat.reduceEqDiff, Nat.reduceLeDiff, reduceCtorEq]
      obtain ⟨I, hI⟩ : ∃ I : Nat → St → Prop, ∀ k s, I k s ↔ True ∧ s.pe 1 = .p (chsP l) ∧ s.pe 2 = .p (PV.map (KT.int IntKind.i64) ks vs) ∧ s.pe 3 = .p (.int .i64 n.id) ∧ s.pe 4 = .p (.int .i64 u0) ∧ s.pe 5 = .ptr (.slot 5 0) 0 0 ∧ s.pe 11 = .own (.slot 24 0) 0 0 1 ∧ s.pe 12 = .p (.int .i64 (sumI (((A.take k).filter on).map (wtOf l)))) ∧ s.pe 27 = .own (.slot 27 1) 0 0 A.length ∧ s.pe 28 = .p (.int .i64 ↑A.length) ∧ s.pe 29 = .p (.int .i64 k) ∧ s.h (.slot 5 0) = some (0, Ob.box [.p (nodesP t.nodes), .p (.int .i64 t.next)]) ∧ s.h (.slot 24 0) = some (0, Ob.arr 2 [PV.agg [PV.int IntKind.i64 n.id, PV.int IntKind.i64 u0]]) ∧ s.h (.slot 27 1) = some (0, Ob.arr 1 (List.map (.int .i64) A)) := ⟨_, fun _ _ => Iff.rfl⟩
      refine wp_count (A.length) I ?_ ?_
      · refine (hI _ _).2 ⟨?_, ?_, ?_, ?_, ?_, ?_, ?_, ?_, ?_, ?_, ?_, ?_, ?_, ?_⟩
        · exact trivial
        all_goals first | with_reducible rfl | (simp -implicitDefEqProofs (disch := omega) only [h2, h5, h11, h12, h13, hh2_0, hh10_0, List.map_append, go_sem, ↓reduceIte, Nat.reduceAdd, Nat.reduceSub, Nat.reduceEqDiff, Nat.reduceLeDiff, reduceCtorEq]; first | done | rfl | (simp; done) | (congr 2; omega) | (congr 1; omega) | (congr 3; omega) | (simp; omega) | (congr 2; simp; omega) | (simp [sumI]; done) | (simp [sumI]; omega) | (refine ⟨_, rfl, ?_⟩; first | rfl | (simp -implicitDefEqProofs (disch := omega) only [h2, h5, h11, h12, h13, hh2_0, hh10_0, List.map_append, go_sem, ↓reduceIte, Nat.reduceAdd, Nat.reduceSub, Nat.reduceEqDiff, Nat.reduceLeDiff, reduceCtorEq]; done))) | rfl | omega | (congr 2; omega)
      intro k s hk hIk
      obtain ⟨hdum, h1, h2, h3, h4, h5, h11, h12, h27, h28, h29, hh5_0, hh24_0, hh27_1⟩ := (hI _ _).1 hIk
      clear hIk
      have hb1 := hbound (k + 1)
      have hb0 := hbound k
      simp -implicitDefEqProofs (disch := omega) only [h1, h2, h3, h4, h5, h11, h12, h27, h28, h29, hh5_0, hh24_0, hh27_1, go_sem, ↓reduceIte, Nat.reduceAdd, Nat.reduceSub, Nat.reduceEqDiff, Nat.reduceLeDiff, reduceCtorEq]
      refine wp_if_d (fun hlt => ?_) (fun hge => ?_)
      · have hm : A[k]? = some A[k] := List.getElem?_eq_getElem hlt
        generalize A[k] = c at hm
        have hst := filter_stepI (p := on) hm
        have hrc := hrep c
        have hwt := wt_eq l c hll
        have hwr := wtOf_range hw c
        cases hoc : on c with
        | false =>
          simp only [hoc, Bool.false_eq_true, if_false] at hst hrc
          simp -implicitDefEqProofs (disch := omega) only [h1, h2, h3, h4, h5, h11, h12, h27, h28, h29, hh5_0, hh24_0, hh27_1, hlt, hm, hrc, Option.getD_none, go_sem, ↓reduceIte, Nat.reduceAdd, Nat.reduceSub, Nat.reduceEqDiff, Nat.reduceLeDiff, reduceCtorEq]
          try refine And.intro (by omega) ?_
          refine (hI _ _).2 ⟨?_, ?_, ?_, ?_, ?_, ?_, ?_, ?_, ?_, ?_, ?_, ?_, ?_, ?_⟩
          · exact trivial
          all_goals first | with_reducible rfl | (simp -implicitDefEqProofs (disch := omega) only [h1, h2, h3, h4, h5, h11, h12, h27, h28, h29, hh5_0, hh24_0, hh27_1, hst, List.map_append, go_sem, ↓reduceIte, Nat.reduceAdd, Nat.reduceSub, Nat.reduceEqDiff, Nat.reduceLeDiff, reduceCtorEq]; first | done | rfl | (simp; done) | (congr 2; omega) | (congr 1; omega) | (congr 3; omega) | (simp; omega) | (congr 2; simp; omega) | (simp [sumI]; done) | (simp [sumI]; omega) | (refine ⟨_, rfl, ?_⟩; first | rfl | (simp -implicitDefEqProofs (disch := omega) only [h1, h2, h3, h4, h5, h11, h12, h27, h28, h29, hh5_0, hh24_0, hh27_1, hst, List.map_append, go_sem, ↓reduceIte, Nat.reduceAdd, Nat.reduceSub, Nat.reduceEqDiff, Nat.reduceLeDiff, reduceCtorEq]; done))) | rfl | omega | (congr 2; omega)
        | true =>
          simp only [hoc, if_true] at hst hrc
          rw [hst, List.map_append, sumI_append] at hb1
          simp only [List.map_cons, List.map_nil, sumI, Int.add_zero] at hb1
          have hsum : sumI (((A.take (k + 1)).filter on).map (wtOf l)) = sumI (((A.take k).filter on).map (wtOf l)) + wtOf l c := by
            rw [hst, List.map_append, sumI_append]
            simp [sumI]
          generalize sumI (((A.take k).filter on).map (wtOf l)) = S at h12 hb0 hb1 hsum
          generalize wtOf l c = y at hwt hwr hb1 hsum
          simp -implicitDefEqProofs (disch := omega) only [h1, h2, h3, h4, h5, h11, h12, h27, h28, h29, hh5_0, hh24_0, hh27_1, hlt, hm, hrc, hwt, Option.getD_some, go_sem, ↓reduceIte, Nat.reduceAdd, Nat.reduceSub, Nat.reduceEqDiff, Nat.reduceLeDiff, reduceCtorEq]
          try refine And.intro (by omega) ?_
          refine (hI _ _).2 ⟨?_, ?_, ?_, ?_, ?_, ?_, ?_, ?_, ?_, ?_, ?_, ?_, ?_, ?_⟩
          · exact trivial
          all_goals first | with_reducible rfl | (simp -implicitDefEqProofs (disch := omega) only [h1, h2, h3, h4, h5, h11, h12, h27, h28, h29, hh5_0, hh24_0, hh27_1, hsum, List.map_append, go_sem, ↓reduceIte, Nat.reduceAdd, Nat.reduceSub, Nat.reduceEqDiff, Nat.reduceLeDiff, reduceCtorEq]; first | done | rfl | (simp; done) | (congr 2; omega) | (congr 1; omega) | (congr 3; omega) | (simp; omega) | (congr 2; simp; omega) | (simp [sumI]; done) | (simp [sumI]; omega) | (refine ⟨_, rfl, ?_⟩; first | rfl | (simp -implicitDefEqProofs (disch := omega) only [h1, h2, h3, h4, h5, h11, h12, h27, h28, h29, hh5_0, hh24_0, hh27_1, hsum, List.map_append, go_sem, ↓reduceIte, Nat.reduceAdd, Nat.reduceSub, Nat.reduceEqDiff, Nat.reduceLeDiff, reduceCtorEq]; done))) | rfl | omega | (congr 2; omega)
      · rw [List.take_of_length_le (by omega), ← hW] at h12
        rw [List.take_of_length_le (by omega), ← hW] at hb0
        obtain ⟨T, hT⟩ : ∃ T, T = (⟨n.id, u0⟩ : Ch) :: A.flatMap fun c => if on c = true then sharesF t (wtOf l) on f c (max 1 (u0 * wtOf l c / W)) else [] := ⟨_, rfl⟩
        rw [← hT] at hsl ⊢
        simp -implicitDefEqProofs (disch := omega) only [h1, h2, h3, h4, h5, h11, h12, h27, h28, h29, hh5_0, hh24_0, hh27_1, hge, hkd, go_sem, ↓reduceIte, Nat.reduceAdd, Nat.reduceSub, Nat.reduceEqDiff, Nat.reduceLeDiff, reduceCtorEq]
        obtain ⟨J, hJ⟩ : ∃ I : Nat → St → Prop, ∀ j s, I j s ↔ ∃ (acc : List Ch) (w : Nat) (v44_1 : Nat), (T = acc ++ (A.drop j).flatMap fun c => if on c = true then sharesF t (wtOf l) on f c (max 1 (u0 * wtOf l c / W)) else []) ∧ s.pe 1 = .p (chsP l) ∧ s.pe 2 = .p (PV.map (KT.int IntKind.i64) ks vs) ∧ s.pe 4 = .p (.int .i64 u0) ∧ s.pe 5 = .ptr (.slot 5 0) 0 0 ∧ s.pe 11 = .own (.slot 24 0) w 0 acc.length ∧ s.pe 12 = .p (.int .i64 W) ∧ s.pe 44 = .own (.slot 44 1) v44_1 0 A.length ∧ s.pe 45 = .p (.int .i64 ↑A.length) ∧ s.pe 46 = .p (.int .i64 j) ∧ s.h (.slot 5 0) = some (0, Ob.box [.p (nodesP t.nodes), .p (.int .i64 t.next)]) ∧ s.h (.slot 24 0) = some (w, Ob.arr 2 (acc.map Ch.pv)) ∧ s.h (.slot 44 1) = some (v44_1, Ob.arr 1 (List.map (.int .i64) A)) := ⟨_, fun _ _ => Iff.rfl⟩
        refine wp_count (A.length) J ?_ ?_
        · refine (hJ _ _).2 ⟨[⟨n.id, u0⟩], 0, nv (s.h (.slot 44 1)), ?_, ?_, ?_, ?_, ?_, ?_, ?_, ?_, ?_, ?_, ?_, ?_, ?_⟩
          · exact hT
          all_goals first | with_reducible rfl | (simp -implicitDefEqProofs (disch := omega) only [h1, h2, h3, h4, h5, h11, h12, h27, h28, h29, hh5_0, hh24_0, hh27_1, List.map_append, go_sem, ↓reduceIte, Nat.reduceAdd, Nat.reduceSub, Nat.reduceEqDiff, Nat.reduceLeDiff, reduceCtorEq]; first | done | rfl | (simp; done) | (congr 2; omega) | (congr 1; omega) | (congr 3; omega) | (simp; omega) | (congr 2; simp; omega) | (simp [sumI]; done) | (simp [sumI]; omega) | (refine ⟨_, rfl, ?_⟩; first | rfl | (simp -implicitDefEqProofs (disch := omega) only [h1, h2, h3, h4, h5, h11, h12, h27, h28, h29, hh5_0, hh24_0, hh27_1, List.map_append, go_sem, ↓reduceIte, Nat.reduceAdd, Nat.reduceSub, Nat.reduceEqDiff, Nat.reduceLeDiff, reduceCtorEq]; done))) | rfl | omega | (congr 2; omega)
        intro j s hj hJk
        obtain ⟨acc, w, v44_1, htj, h1, h2, h4, h5, h11, h12, h44, h45, h46, hh5_0, hh24_0, hh44_1⟩ := (hJ _ _).1 hJk
        clear hJk
        have hTl := congrArg List.length htj
        rw [List.length_append] at hTl
        simp -implicitDefEqProofs (disch := omega) only [h1, h2, h4, h5, h11, h12, h44, h45, h46, hh5_0, hh24_0, hh44_1, go_sem, ↓reduceIte, Nat.reduceAdd, Nat.reduceSub, Nat.reduceEqDiff, Nat.reduceLeDiff, reduceCtorEq]
        refine wp_if_d (fun hjl => ?_) (fun hjg => ?_)
        · have hx : A[j]? = some A[j] := List.getElem?_eq_getElem hjl
          have hd : A.drop j = A[j] :: A.drop (j + 1) := List.drop_eq_getElem_cons hjl
          generalize A[j] = c at hx hd
          have hrc := hrep c
          have hwt := wt_eq l c hll
          have hwr := wtOf_range hw c
          rw [hd, List.flatMap_cons] at htj
          cases hoc : on c with
          | false =>
            simp only [hoc, Bool.false_eq_true, if_false, List.nil_append] at htj hrc
            simp -implicitDefEqProofs (disch := omega) only [h1, h2, h4, h5, h11, h12, h44, h45, h46, hh5_0, hh24_0, hh44_1, hjl, hx, hrc, Option.getD_none, go_sem, ↓reduceIte, Nat.reduceAdd, Nat.reduceSub, Nat.reduceEqDiff, Nat.reduceLeDiff, reduceCtorEq]
            try refine And.intro (by omega) ?_
            refine (hJ _ _).2 ⟨acc, w, v44_1, ?_, ?_, ?_, ?_, ?_, ?_, ?_, ?_, ?_, ?_, ?_, ?_, ?_⟩
            · exact htj
            all_goals first | with_reducible rfl | (simp -implicitDefEqProofs (disch := omega) only [h1, h2, h4, h5, h11, h12, h44, h45, h46, hh5_0, hh24_0, hh44_1, List.map_append, go_sem, ↓reduceIte, Nat.reduceAdd, Nat.reduceSub, Nat.reduceEqDiff, Nat.reduceLeDiff, reduceCtorEq]; first | done | rfl | (simp; done) | (congr 2; omega) | (congr 1; omega) | (congr 3; omega) | (simp; omega) | (congr 2; simp; omega) | (simp [sumI]; done) | (simp [sumI]; omega) | (refine ⟨_, rfl, ?_⟩; first | rfl | (simp -implicitDefEqProofs (disch := omega) only [h1, h2, h4, h5, h11, h12, h44, h45, h46, hh5_0, hh24_0, hh44_1, List.map_append, go_sem, ↓reduceIte, Nat.reduceAdd, Nat.reduceSub, Nat.reduceEqDiff, Nat.reduceLeDiff, reduceCtorEq]; done))) | rfl | omega | (congr 2; omega)
          | true =>
            simp only [hoc, if_true] at htj hrc
            obtain ⟨q, m, hm, hmp, rfl⟩ := hkid c (List.mem_of_getElem? hx)
            have hlt := h.kid hn hm hmp
            have hWc : wtOf l m.id ≤ W := by
              rw [hW]
              exact sumI_mem_le _ (fun y _ => by have := wtOf_range hw y; omega) (List.mem_filter.2 ⟨List.mem_of_getElem? hx, hoc⟩)
            have hdv := div_le_self' (s := u0) (w := wtOf l m.id) (W := W) hs0 (by omega) hWc (by omega)
            have hd0 : 0 ≤ u0 * wtOf l m.id / W := Int.ediv_nonneg (Int.mul_nonneg hs0 (by omega)) (by omega)
            have hmul0 : 0 ≤ u0 * wtOf l m.id := Int.mul_nonneg hs0 (by omega)
            have hmul1 : u0 * wtOf l m.id ≤ 1073741824 * 10000 := Int.mul_le_mul hs1 hwr.2 (by omega) (by omega)
            have htd := Int.tdiv_eq_ediv_of_nonneg (b := W) hmul0
            have hrec := ih q m (max 1 (u0 * wtOf l m.id / W)) hm (by omega) (by omega) (by omega)
            have hwm : IntKind.i64.wrap (u0 * wtOf l m.id) = u0 * wtOf l m.id := wrap64 (by omega) (by omega)
            have hWne : W ≠ 0 := by omega
            rw [hd, List.flatMap_cons, hoc, if_pos rfl, List.length_append] at hTl
            generalize sharesF t (wtOf l) on f m.id (max 1 (u0 * wtOf l m.id / W)) = R at hrec htj hTl
            generalize wtOf l m.id = y at hwt hwm htd hrec hd0 hdv hmul0 hmul1
            have hwz : IntKind.i64.wrap (u0 * y / W) = u0 * y / W := by
              generalize u0 * y / W = z at hd0 hdv
              exact wrap64 (by omega) (by omega)
            simp -implicitDefEqProofs (disch := omega) only [h1, h2, h4, h5, h11, h12, h44, h45, h46, hh5_0, hh24_0, hh44_1, hjl, hx, hrc, hwt, hwm, htd, hwz, hWne, hrec, Option.getD_some, go_sem, ↓reduceIte, Nat.reduceAdd, Nat.reduceSub, Nat.reduceEqDiff, Nat.reduceLeDiff, reduceCtorEq]
            try refine And.intro (by omega) ?_
            refine (hJ _ _).2 ⟨acc ++ R, w + 1, v44_1, ?_, ?_, ?_, ?_, ?_, ?_, ?_, ?_, ?_, ?_, ?_, ?_, ?_⟩
            · exact by rw [htj]; simp
            all_goals first | with_reducible rfl | (simp -implicitDefEqProofs (disch := omega) only [h1, h2, h4, h5, h11, h12, h44, h45, h46, hh5_0, hh24_0, hh44_1, List.map_append, go_sem, ↓reduceIte, Nat.reduceAdd, Nat.reduceSub, Nat.reduceEqDiff, Nat.reduceLeDiff, reduceCtorEq]; first | done | rfl | (simp; done) | (congr 2; omega) | (congr 1; omega) | (congr 3; omega) | (simp; omega) | (congr 2; simp; omega) | (simp [sumI]; done) | (simp [sumI]; omega) | (refine ⟨_, rfl, ?_⟩; first | rfl | (simp -implicitDefEqProofs (disch := omega) only [h1, h2, h4, h5, h11, h12, h44, h45, h46, hh5_0, hh24_0, hh44_1, List.map_append, go_sem, ↓reduceIte, Nat.reduceAdd, Nat.reduceSub, Nat.reduceEqDiff, Nat.reduceLeDiff, reduceCtorEq]; done))) | rfl | omega | (congr 2; omega)
        · rw [List.drop_of_length_le (by omega)] at htj
          simp only [List.flatMap_nil, List.append_nil] at htj
          rw [htj]
          simp -implicitDefEqProofs (disch := omega) only [h1, h2, h4, h5, h11, h12, h44, h45, h46, hh5_0, hh24_0, hh44_1, hjg, go_sem, ↓reduceIte, Nat.reduceAdd, Nat.reduceSub, Nat.reduceEqDiff, Nat.reduceLeDiff, reduceCtorEq]
end Go.V

