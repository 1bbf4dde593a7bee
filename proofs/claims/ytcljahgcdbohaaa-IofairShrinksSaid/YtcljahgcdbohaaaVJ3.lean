/- The law IofairShrinks in the value machine. -/
import Derived.Test.YtcljahgcdbohaaaVI5
import Derived.Test.YtcljahgcdbohaaaVG3
set_option linter.unusedSimpArgs false
set_option linter.unusedVariables false
namespace Go.V
-- closer: sumI

theorem wtOf_none {l : List Ch} {x : Int} (h : ∀ c ∈ l, c.group ≠ x) : wtOf l x = 100 := by
  induction l with
  | nil => rfl
  | cons c l ih =>
    unfold wtOf
    rw [if_neg (h c (List.mem_cons_self ..))]
    exact ih fun d hd => h d (List.mem_cons_of_mem _ hd)
theorem wtOf_map {f : Int → Int} {x : Int} : ∀ (ns : List Nd), wtOf (ns.map fun n => (⟨n.id, f n.id⟩ : Ch)) x = if (ns.any fun n => decide (n.id = x)) = true then f x else 100
  | [] => rfl
  | n :: ns => by
    have ih := wtOf_map (f := f) (x := x) ns
    simp only [List.map_cons, wtOf, ih, List.any_cons]
    by_cases h : n.id = x
    · simp [h]
    · simp [h]

/-- All weights of a tree, with one of them greater. -/
def bumpW (t : Tr) (w : List Ch) (g v : Int) : List Ch := t.nodes.map fun n => (⟨n.id, (fun x => if x = g then v else wtOf w x) n.id⟩ : Ch)
theorem bumpW_wt {t : Tr} {w : List Ch} (hw : AscOk (knownN t.nodes) 1 10000 w) {k : Nat} {m : Nd} (hm : t.nodes[k]? = some m) (v : Int) : wtOf (bumpW t w m.id v) = fun x => if x = m.id then v else wtOf w x := by
  funext x
  rw [bumpW, wtOf_map (f := fun x => if x = m.id then v else wtOf w x)]
  by_cases hx : (t.nodes.any fun n => decide (n.id = x)) = true
  · rw [if_pos hx]
  · rw [if_neg hx]
    have hne : ∀ n ∈ t.nodes, n.id ≠ x := fun n hn he => hx (List.any_eq_true.2 ⟨n, hn, decide_eq_true he⟩)
    rw [if_neg (fun he => hne m (List.mem_of_getElem? hm) he.symm)]
    refine (wtOf_none fun c hc he => ?_).symm
    obtain ⟨n, hn, hne2⟩ := findN_some (hw.known c hc)
    exact hne n hn (by rw [hne2, he])
theorem bumpW_asc {t : Tr} (h : TreeOk t) {w : List Ch} (hw : AscOk (knownN t.nodes) 1 10000 w) {g v : Int} (h1 : 1 ≤ v) (h2 : v ≤ 10000) : AscOk (knownN t.nodes) 1 10000 (bumpW t w g v) := by
  refine ⟨fun c hc => ?_, ?_, fun c hc => ?_⟩
  · obtain ⟨n, hn, rfl⟩ := List.mem_map.1 hc
    show (findN t.nodes n.id).isSome = true
    rw [findN, List.find?_isSome]
    exact ⟨n, hn, by simp⟩
  · unfold bumpW
    rw [List.pairwise_map]
    exact h.inc
  · obtain ⟨n, hn, rfl⟩ := List.mem_map.1 hc
    show 1 ≤ (if n.id = g then v else wtOf w n.id) ∧ (if n.id = g then v else wtOf w n.id) ≤ 10000
    split
    · exact ⟨h1, h2⟩
    · exact wtOf_range (fun c hc => hw.range c hc) _

theorem onB_append (t : Tr) (a b : List Int) (x : Int) (h : onB t a x = true) : onB t (a ++ b) x = true := by
  unfold onB at h ⊢
  rw [List.any_append, h]
  rfl

set_option maxHeartbeats 8000000 in
theorem iofairShrinks_eq (L : List Int) (more : Int) : V 10 [.p (intsP L), .p (.int .i64 more)] [] = some (.p (.bool true), []) := by
  refine V_wp (vf := vf10) rfl ?_
  have hli := light_eq (L.map (PV.int .i64))
  rw [List.length_map] at hli
  by_cases hL : L.length ≤ 600
  · rw [decide_eq_true hL] at hli
    have hro := roll_eq L
    have htr : V 23 [.ptr (.arg 0 0) 0 0, .p (.int .i64 8)] [.box [.p (intsP L), .p (.int .i64 0)]] = some ((dTree L 0 8).1.vv, [diceB L (dTree L 0 8).2]) := tree_eq L 0 8 (by omega) (by omega)
    have hok := dTree_ok L 0 8
    generalize dTree L 0 8 = ta at htr hok
    obtain ⟨t, a0⟩ := ta
    simp only at htr hok
    have hlen := hok.len
    have hhe := heavy_eq L a0 t (by omega) (by omega)
    have hwa := dHeavy_asc L hok a0
    generalize dHeavy L t.nodes a0 = wa at hhe hwa
    obtain ⟨w, a1⟩ := wa
    simp only at hhe hwa
    have hwl := asc_length hwa
    have hso := some_eq L a1 (by omega)
    have hsl := dSome_len L a1
    generalize dSome L a1 = sa at hso hsl
    obtain ⟨act, a2⟩ := sa
    simp only at hso hsl
    have hne := next_eq L a2 t.nodes.length (by omega) (by omega)
    have x0 := nextV_nonneg L a2 t.nodes.length
    have x1 := nextV_lt L a2 (n := t.nodes.length) (by omega)
    generalize nextV L a2 t.nodes.length = xi at hne x0 x1
    generalize nextA L a2 t.nodes.length = a3 at hne
    have hm : t.nodes[xi.toNat]? = some t.nodes[xi.toNat] := List.getElem?_eq_getElem (by omega)
    generalize t.nodes[xi.toNat] = m at hm
    have hgr := group_eq L a3 t (by omega) (by omega)
    generalize groupD L a3 t.nodes = gd0 at hgr
    obtain ⟨g, a4⟩ := gd0
    simp only at hgr
    have hw1 : ∀ x, 1 ≤ wtOf w x := fun x => (wtOf_range (fun c hc => hwa.range c hc) x).1
    have hw2 := fun x => (wtOf_range (fun c hc => hwa.range c hc) x).2
    have c1 := share_at hok hwa (act ++ [m.id]) (by simp; omega) hm
    have c2 := share_at hok hwa (act ++ [m.id] ++ [g]) (by simp; omega) hm
    have hon : onB t (act ++ [m.id]) m.id = true := by
      unfold onB
      rw [List.any_append, Bool.or_eq_true]
      right
      simp [anc_self hok hm]
    have hu := onB_up hok (act ++ [m.id])
    have hu2 := onB_up hok (act ++ [m.id] ++ [g])
    have hba := shr_shrinks hok hw1 hu hu2 (fun x hx => onB_append t _ [g] x hx) xi.toNat m hm hon
    have hr := shr_range hok hw1 hu xi.toNat m hm
    have r1 := roll_eq [more]
    have r2 : V 27 [.ptr (.arg 0 0) 0 0, .p (.int .i64 500)] [.box [.p (intsP [more]), .p (.int .i64 0)]] = some (.p (.int .i64 (nextV [more] 0 500)), [diceB [more] (nextA [more] 0 500)]) := next_eq [more] 0 500 (by simp) (by omega)
    have n0 := nextV_nonneg [more] 0 500
    have n1 := nextV_lt [more] 0 (n := 500) (by omega)
    generalize nextV [more] 0 500 = p at r2 n0 n1
    generalize nextA [more] 0 500 = b0 at r2
    simp only [intsP, List.map_cons, List.map_nil] at r1 r2
    have hwm1 := hw1 m.id
    have hwm2 := hw2 m.id
    have hUasc := bumpW_asc hok hwa (g := m.id) (v := min 10000 (wtOf w m.id + p)) (by omega) (by omega)
    have c3 := share_at hok hUasc (act ++ [m.id]) (by simp; omega) hm
    have hgrow := shr_grows hok hw1 hu hm hon (v := min 10000 (wtOf w m.id + p)) (by omega)
    rw [bumpW_wt hwa hm] at c3
    have hpos := hr.2.2 (Or.inr hon)
    generalize shr t (wtOf w) (onB t (act ++ [m.id])) m.id = A at c1 hba hgrow hpos
    generalize shr t (wtOf w) (onB t (act ++ [m.id] ++ [g])) m.id = B at c2 hba
    generalize shr t (fun x => if x = m.id then min 10000 (wtOf w m.id + p) else wtOf w x) (onB t (act ++ [m.id])) m.id = C at c3 hgrow
    simp only [intsP, List.map_append, List.map_cons, List.map_nil] at c1 c2 c3
    have hpos' : (0 : Int) < A := by omega
    have tk2 : List.take (act.length + 1 + 1) (List.map (PV.int .i64) act ++ [PV.int .i64 m.id] ++ [PV.int .i64 g]) = List.map (PV.int .i64) act ++ [PV.int .i64 m.id] ++ [PV.int .i64 g] := List.take_of_length_le (by simp)
    simp -implicitDefEqProofs (disch := omega) only [vf10, vb10, hli, hro, htr, hhe, hso, hne, hm, c1, hgr, c2, tk2, go_sem, ↓reduceIte, Nat.reduceAdd, Nat.reduceSub, Nat.reduceEqDiff, Nat.reduceLeDiff, reduceCtorEq]
    obtain ⟨I, hI⟩ : ∃ I : Nat → St → Prop, ∀ k s, I k s ↔ ∃ (acc : List Ch) (ww : Nat), acc = ((t.nodes.take k).map fun n => (⟨n.id, (fun x => if x = m.id then min 10000 (wtOf w m.id + p) else wtOf w x) n.id⟩ : Ch)) ∧ s.pe 1 = .p (.int .i64 more) ∧ s.pe 6 = .ptr (.slot 6 0) 0 0 ∧ s.pe 7 = .own (.slot 29 1) 0 0 w.length ∧ s.pe 8 = .own (.slot 31 1) 1 0 (act.length + 1) ∧ s.pe 9 = .p (.int .i64 m.id) ∧ s.pe 10 = .p (.int .i64 A) ∧ s.pe 11 = .p (.int .i64 0) ∧ s.pe 12 = .p (.int .i64 B) ∧ s.pe 13 = .p (.int .i64 0) ∧ s.pe 14 = .own (.slot 14 0) ww 0 acc.length ∧ s.pe 15 = .p (.int .i64 k) ∧ s.h (.slot 6 0) = some (0, Ob.box [.p (nodesP t.nodes), .p (.int .i64 t.next)]) ∧ s.h (.slot 14 0) = some (ww, Ob.arr 2 (acc.map Ch.pv)) ∧ s.h (.slot 29 1) = some (0, Ob.arr 2 (List.map Ch.pv w)) ∧ s.h (.slot 31 1) = some (1, Ob.arr 1 (List.map (.int .i64) act ++ [PV.int IntKind.i64 m.id])) := ⟨_, fun _ _ => Iff.rfl⟩
    refine wp_count (t.nodes.length) I ?_ ?_
    · refine (hI _ _).2 ⟨[], 0, ?_, ?_, ?_, ?_, ?_, ?_, ?_, ?_, ?_, ?_, ?_, ?_, ?_, ?_, ?_, ?_⟩
      · exact by first | rfl | omega | (simp; done) | (simp; omega)
      all_goals first | with_reducible rfl | (simp -implicitDefEqProofs (disch := omega) only [List.map_append, go_sem, ↓reduceIte, Nat.reduceAdd, Nat.reduceSub, Nat.reduceEqDiff, Nat.reduceLeDiff, reduceCtorEq]; done) | (simp -implicitDefEqProofs (disch := omega) only [List.map_append, go_sem, ↓reduceIte, Nat.reduceAdd, Nat.reduceSub, Nat.reduceEqDiff, Nat.reduceLeDiff, reduceCtorEq]; first | rfl | (simp; done) | (congr 2; omega) | (congr 1; omega) | (congr 3; omega) | (simp; omega) | (congr 2; simp; omega) | (simp [sumI]; done) | (simp [sumI]; omega)) | rfl | omega | (congr 2; omega) | (simp -implicitDefEqProofs (disch := omega) only [List.map_append, go_sem, ↓reduceIte, Nat.reduceAdd, Nat.reduceSub, Nat.reduceEqDiff, Nat.reduceLeDiff, reduceCtorEq]; refine ⟨_, rfl, ?_⟩; first | (simp -implicitDefEqProofs (disch := omega) only [List.map_append, go_sem, ↓reduceIte, Nat.reduceAdd, Nat.reduceSub, Nat.reduceEqDiff, Nat.reduceLeDiff, reduceCtorEq]; done) | rfl) | (refine ⟨_, by simp -implicitDefEqProofs (disch := omega) only [List.map_append, go_sem, ↓reduceIte, Nat.reduceAdd, Nat.reduceSub, Nat.reduceEqDiff, Nat.reduceLeDiff, reduceCtorEq], ?_⟩; first | (simp -implicitDefEqProofs (disch := omega) only [List.map_append, go_sem, ↓reduceIte, Nat.reduceAdd, Nat.reduceSub, Nat.reduceEqDiff, Nat.reduceLeDiff, reduceCtorEq]; done) | rfl)
    intro k s hk hIk
    obtain ⟨acc, ww, hacc, h1, h6, h7, h8, h9, h10, h11, h12, h13, h14, h15, hh6_0, hh14_0, hh29_1, hh31_1⟩ := (hI _ _).1 hIk
    clear hIk
    have hal := congrArg List.length hacc
    rw [List.length_map, List.length_take] at hal
    simp -implicitDefEqProofs (disch := omega) only [h1, h6, h7, h8, h9, h10, h11, h12, h13, h14, h15, hh6_0, hh14_0, hh29_1, hh31_1, go_sem, ↓reduceIte, Nat.reduceAdd, Nat.reduceSub, Nat.reduceEqDiff, Nat.reduceLeDiff, reduceCtorEq]
    refine wp_if_d (fun hlt => ?_) (fun hge => ?_)
    · have hq : t.nodes[k]? = some t.nodes[k] := List.getElem?_eq_getElem hlt
      have htk : t.nodes.take (k + 1) = t.nodes.take k ++ [t.nodes[k]] := by rw [List.take_add_one, hq]; rfl
      generalize t.nodes[k] = q at hq htk
      have d1 := rof_eq w q.id (by omega)
      have hwq1 := hw1 q.id
      have hwq2 := hw2 q.id
      by_cases he : q.id = m.id
      · have hacc' : acc ++ [⟨q.id, min 10000 (wtOf w q.id + p)⟩] = (t.nodes.take (k + 1)).map fun n => (⟨n.id, (fun x => if x = m.id then min 10000 (wtOf w m.id + p) else wtOf w x) n.id⟩ : Ch) := by
          rw [htk, List.map_append, hacc]
          simp [he]
        generalize wtOf w q.id = y at d1 hwq1 hwq2 hacc'
        rw [he] at d1 hacc'
        simp -implicitDefEqProofs (disch := omega) only [h1, h6, h7, h8, h9, h10, h11, h12, h13, h14, h15, hh6_0, hh14_0, hh29_1, hh31_1, hlt, hq, d1, he, r1, r2, go_sem, ↓reduceIte, Nat.reduceAdd, Nat.reduceSub, Nat.reduceEqDiff, Nat.reduceLeDiff, reduceCtorEq]
        try refine And.intro (by omega) ?_
        refine (hI _ _).2 ⟨acc ++ [⟨m.id, min 10000 (y + p)⟩], ww + 1, ?_, ?_, ?_, ?_, ?_, ?_, ?_, ?_, ?_, ?_, ?_, ?_, ?_, ?_, ?_, ?_⟩
        · exact hacc'
        all_goals first | with_reducible rfl | (simp -implicitDefEqProofs (disch := omega) only [h1, h6, h7, h8, h9, h10, h11, h12, h13, h14, h15, hh6_0, hh14_0, hh29_1, hh31_1, List.map_append, go_sem, ↓reduceIte, Nat.reduceAdd, Nat.reduceSub, Nat.reduceEqDiff, Nat.reduceLeDiff, reduceCtorEq]; done) | (simp -implicitDefEqProofs (disch := omega) only [h1, h6, h7, h8, h9, h10, h11, h12, h13, h14, h15, hh6_0, hh14_0, hh29_1, hh31_1, List.map_append, go_sem, ↓reduceIte, Nat.reduceAdd, Nat.reduceSub, Nat.reduceEqDiff, Nat.reduceLeDiff, reduceCtorEq]; first | rfl | (simp; done) | (congr 2; omega) | (congr 1; omega) | (congr 3; omega) | (simp; omega) | (congr 2; simp; omega) | (simp [sumI]; done) | (simp [sumI]; omega)) | rfl | omega | (congr 2; omega) | (simp -implicitDefEqProofs (disch := omega) only [h1, h6, h7, h8, h9, h10, h11, h12, h13, h14, h15, hh6_0, hh14_0, hh29_1, hh31_1, List.map_append, go_sem, ↓reduceIte, Nat.reduceAdd, Nat.reduceSub, Nat.reduceEqDiff, Nat.reduceLeDiff, reduceCtorEq]; refine ⟨_, rfl, ?_⟩; first | (simp -implicitDefEqProofs (disch := omega) only [h1, h6, h7, h8, h9, h10, h11, h12, h13, h14, h15, hh6_0, hh14_0, hh29_1, hh31_1, List.map_append, go_sem, ↓reduceIte, Nat.reduceAdd, Nat.reduceSub, Nat.reduceEqDiff, Nat.reduceLeDiff, reduceCtorEq]; done) | rfl) | (refine ⟨_, by simp -implicitDefEqProofs (disch := omega) only [h1, h6, h7, h8, h9, h10, h11, h12, h13, h14, h15, hh6_0, hh14_0, hh29_1, hh31_1, List.map_append, go_sem, ↓reduceIte, Nat.reduceAdd, Nat.reduceSub, Nat.reduceEqDiff, Nat.reduceLeDiff, reduceCtorEq], ?_⟩; first | (simp -implicitDefEqProofs (disch := omega) only [h1, h6, h7, h8, h9, h10, h11, h12, h13, h14, h15, hh6_0, hh14_0, hh29_1, hh31_1, List.map_append, go_sem, ↓reduceIte, Nat.reduceAdd, Nat.reduceSub, Nat.reduceEqDiff, Nat.reduceLeDiff, reduceCtorEq]; done) | rfl)
      · have hacc' : acc ++ [⟨q.id, wtOf w q.id⟩] = (t.nodes.take (k + 1)).map fun n => (⟨n.id, (fun x => if x = m.id then min 10000 (wtOf w m.id + p) else wtOf w x) n.id⟩ : Ch) := by
          rw [htk, List.map_append, hacc]
          simp [he]
        generalize wtOf w q.id = y at d1 hwq1 hwq2 hacc'
        simp -implicitDefEqProofs (disch := omega) only [h1, h6, h7, h8, h9, h10, h11, h12, h13, h14, h15, hh6_0, hh14_0, hh29_1, hh31_1, hlt, hq, d1, he, go_sem, ↓reduceIte, Nat.reduceAdd, Nat.reduceSub, Nat.reduceEqDiff, Nat.reduceLeDiff, reduceCtorEq]
        try refine And.intro (by omega) ?_
        refine (hI _ _).2 ⟨acc ++ [⟨q.id, y⟩], ww + 1, ?_, ?_, ?_, ?_, ?_, ?_, ?_, ?_, ?_, ?_, ?_, ?_, ?_, ?_, ?_, ?_⟩
        · exact hacc'
        all_goals first | with_reducible rfl | (simp -implicitDefEqProofs (disch := omega) only [h1, h6, h7, h8, h9, h10, h11, h12, h13, h14, h15, hh6_0, hh14_0, hh29_1, hh31_1, List.map_append, go_sem, ↓reduceIte, Nat.reduceAdd, Nat.reduceSub, Nat.reduceEqDiff, Nat.reduceLeDiff, reduceCtorEq]; done) | (simp -implicitDefEqProofs (disch := omega) only [h1, h6, h7, h8, h9, h10, h11, h12, h13, h14, h15, hh6_0, hh14_0, hh29_1, hh31_1, List.map_append, go_sem, ↓reduceIte, Nat.reduceAdd, Nat.reduceSub, Nat.reduceEqDiff, Nat.reduceLeDiff, reduceCtorEq]; first | rfl | (simp; done) | (congr 2; omega) | (congr 1; omega) | (congr 3; omega) | (simp; omega) | (congr 2; simp; omega) | (simp [sumI]; done) | (simp [sumI]; omega)) | rfl | omega | (congr 2; omega) | (simp -implicitDefEqProofs (disch := omega) only [h1, h6, h7, h8, h9, h10, h11, h12, h13, h14, h15, hh6_0, hh14_0, hh29_1, hh31_1, List.map_append, go_sem, ↓reduceIte, Nat.reduceAdd, Nat.reduceSub, Nat.reduceEqDiff, Nat.reduceLeDiff, reduceCtorEq]; refine ⟨_, rfl, ?_⟩; first | (simp -implicitDefEqProofs (disch := omega) only [h1, h6, h7, h8, h9, h10, h11, h12, h13, h14, h15, hh6_0, hh14_0, hh29_1, hh31_1, List.map_append, go_sem, ↓reduceIte, Nat.reduceAdd, Nat.reduceSub, Nat.reduceEqDiff, Nat.reduceLeDiff, reduceCtorEq]; done) | rfl) | (refine ⟨_, by simp -implicitDefEqProofs (disch := omega) only [h1, h6, h7, h8, h9, h10, h11, h12, h13, h14, h15, hh6_0, hh14_0, hh29_1, hh31_1, List.map_append, go_sem, ↓reduceIte, Nat.reduceAdd, Nat.reduceSub, Nat.reduceEqDiff, Nat.reduceLeDiff, reduceCtorEq], ?_⟩; first | (simp -implicitDefEqProofs (disch := omega) only [h1, h6, h7, h8, h9, h10, h11, h12, h13, h14, h15, hh6_0, hh14_0, hh29_1, hh31_1, List.map_append, go_sem, ↓reduceIte, Nat.reduceAdd, Nat.reduceSub, Nat.reduceEqDiff, Nat.reduceLeDiff, reduceCtorEq]; done) | rfl)
    · rw [List.take_of_length_le (by omega)] at hacc
      have hU : acc = bumpW t w m.id (min 10000 (wtOf w m.id + p)) := hacc
      rw [← hU] at c3
      simp -implicitDefEqProofs (disch := omega) only [h1, h6, h7, h8, h9, h10, h11, h12, h13, h14, h15, hh6_0, hh14_0, hh29_1, hh31_1, hge, c3, hba, hgrow, hpos', sane32_eq, go_sem, ↓reduceIte, Nat.reduceAdd, Nat.reduceSub, Nat.reduceEqDiff, Nat.reduceLeDiff, reduceCtorEq]
  · rw [decide_eq_false hL] at hli
    simp -implicitDefEqProofs (disch := omega) only [vf10, vb10, hli, sane32_eq, go_sem, ↓reduceIte, Nat.reduceAdd, Nat.reduceSub, Nat.reduceEqDiff, Nat.reduceLeDiff, reduceCtorEq]
end Go.V

