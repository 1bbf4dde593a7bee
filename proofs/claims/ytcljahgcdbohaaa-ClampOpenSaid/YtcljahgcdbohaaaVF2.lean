/- The value machine V at work: the reference's trees. -/
import Derived.Test.YtcljahgcdbohaaaVF1
set_option linter.unusedSimpArgs false
set_option linter.unusedVariables false
namespace Go.V

/-- What a node must be, behind others. -/
def nodeOk (pre : List Nd) (n : Nd) : Bool :=
  decide (n.kind = 0 ∨ n.kind = 1) && decide (0 ≤ n.control ∧ n.control ≤ 31 ∧ 0 ≤ n.owner ∧ n.owner ≤ 1048576) &&
  (match pre.getLast? with
   | none => decide (n.id = 1 ∧ n.parent = 0 ∧ n.name = ⟨#[]⟩ ∧ n.kind = 0)
   | some l => decide (l.id < n.id) && validN n.name && !(pre.any fun x => decide (x.parent = n.parent ∧ x.name = n.name)) && pre.any fun x => decide (x.id = n.parent))

theorem any_take {α : Type} {p : α → Bool} {l : List α} {k : Nat} {x : α} (hx : l[k]? = some x) : (l.take (k + 1)).any p = ((l.take k).any p || p x) := by
  rw [List.take_add_one, hx]
  simp only [List.any_append, Option.toList, List.any_cons, List.any_nil, Bool.or_false]
theorem any_of_take {α : Type} {p : α → Bool} {l : List α} {k i : Nat} (h : k ≤ i) (hp : (l.take k).any p = true) : (l.take i).any p = true := by
  rw [List.any_eq_true] at hp ⊢
  obtain ⟨x, hx, h1⟩ := hp
  exact ⟨x, (List.take_sublist_take_left h).subset hx, h1⟩

set_option maxHeartbeats 2000000 in
theorem node_eq (t : Tr) (i : Nat) (n : Nd) (hn : t.nodes[i]? = some n) (hl : t.nodes.length < 1000000) : V 118 [t.vv, .p (.int .i64 i)] [] = some (.p (.bool (nodeOk (t.nodes.take i) n)), []) := by
  refine V_wp (vf := vf118) rfl ?_
  have hlt : i < t.nodes.length := (List.getElem?_eq_some_iff.1 hn).1
  by_cases hi : (i : Int) = 0
  · have hi' : i = 0 := by omega
    have hz : (0 : Int).toNat = 0 := rfl
    rw [hi'] at hn
    simp -implicitDefEqProofs (disch := omega) only [vf118, vb118, hi, hz, hn, go_sem, ↓reduceIte, Nat.reduceAdd, Nat.reduceSub, Nat.reduceEqDiff, Nat.reduceLeDiff, reduceCtorEq]
    repeat' (first | (refine wp_grn_d (fun hb => ?_) (fun hb => ?_) <;> simp -implicitDefEqProofs (disch := omega) only [hb, go_sem, ↓reduceIte, Nat.reduceAdd, Nat.reduceSub, Nat.reduceEqDiff, Nat.reduceLeDiff, reduceCtorEq]) | (refine wp_gtn_d (fun hb => ?_) (fun hb => ?_) <;> simp -implicitDefEqProofs (disch := omega) only [hb, go_sem, ↓reduceIte, Nat.reduceAdd, Nat.reduceSub, Nat.reduceEqDiff, Nat.reduceLeDiff, reduceCtorEq]) | (refine wp_gr_d (fun hb => ?_) (fun hb => ?_) <;> simp -implicitDefEqProofs (disch := omega) only [hb, go_sem, ↓reduceIte, Nat.reduceAdd, Nat.reduceSub, Nat.reduceEqDiff, Nat.reduceLeDiff, reduceCtorEq]) | (refine wp_gt_d (fun hb => ?_) (fun hb => ?_) <;> simp -implicitDefEqProofs (disch := omega) only [hb, go_sem, ↓reduceIte, Nat.reduceAdd, Nat.reduceSub, Nat.reduceEqDiff, Nat.reduceLeDiff, reduceCtorEq]) | (refine wp_gr (fun hb => ?_) (fun hb => ?_) <;> simp -implicitDefEqProofs (disch := omega) only [hb, go_sem, ↓reduceIte, Nat.reduceAdd, Nat.reduceSub, Nat.reduceEqDiff, Nat.reduceLeDiff, reduceCtorEq]) | (refine wp_gt (fun hb => ?_) (fun hb => ?_) <;> simp -implicitDefEqProofs (disch := omega) only [hb, go_sem, ↓reduceIte, Nat.reduceAdd, Nat.reduceSub, Nat.reduceEqDiff, Nat.reduceLeDiff, reduceCtorEq]) | (refine wp_nt_d (fun hb => ?_) (fun hb => ?_) <;> simp -implicitDefEqProofs (disch := omega) only [hb, go_sem, ↓reduceIte, Nat.reduceAdd, Nat.reduceSub, Nat.reduceEqDiff, Nat.reduceLeDiff, reduceCtorEq]) | (refine wp_nt (fun hb => ?_) (fun hb => ?_) <;> simp -implicitDefEqProofs (disch := omega) only [hb, go_sem, ↓reduceIte, Nat.reduceAdd, Nat.reduceSub, Nat.reduceEqDiff, Nat.reduceLeDiff, reduceCtorEq]) | (refine wp_if_d (fun hb => ?_) (fun hb => ?_) <;> simp -implicitDefEqProofs (disch := omega) only [hb, go_sem, ↓reduceIte, Nat.reduceAdd, Nat.reduceSub, Nat.reduceEqDiff, Nat.reduceLeDiff, reduceCtorEq]) | (refine wp_if (fun hb => ?_) (fun hb => ?_) <;> simp -implicitDefEqProofs (disch := omega) only [hb, go_sem, ↓reduceIte, Nat.reduceAdd, Nat.reduceSub, Nat.reduceEqDiff, Nat.reduceLeDiff, reduceCtorEq]))
    all_goals
      simp only [nodeOk, hi', List.take_zero, List.getLast?_nil, Prod.mk.injEq, VVal.p.injEq, PV.bool.injEq, and_true]
      rw [Bool.eq_iff_iff]
      simp only [Bool.and_eq_true, decide_eq_true_eq, true_iff, Bool.false_eq_true, false_iff]
      try simp only [*]
      first | omega | (simp; done) | (simp; omega)
  · obtain ⟨l, hlast⟩ : ∃ l, (t.nodes.take i).getLast? = some l := by
      cases hq : (t.nodes.take i).getLast? with
      | none =>
        rw [List.getLast?_eq_none_iff] at hq
        have := congrArg List.length hq
        rw [List.length_take, List.length_nil] at this
        omega
      | some l => exact ⟨l, rfl⟩
    have hpre : t.nodes[((i : Int) - 1).toNat]? = some l := by
      rw [List.getLast?_take, if_neg (by omega)] at hlast
      rw [show ((i : Int) - 1).toNat = i - 1 by omega]
      rw [List.getElem?_eq_getElem (by omega)] at hlast ⊢
      simpa using hlast
    simp -implicitDefEqProofs (disch := omega) only [vf118, vb118, hn, hi, go_sem, ↓reduceIte, Nat.reduceAdd, Nat.reduceSub, Nat.reduceEqDiff, Nat.reduceLeDiff, reduceCtorEq]
    repeat' (first | (refine wp_grn_d (fun hb => ?_) (fun hb => ?_) <;> simp -implicitDefEqProofs (disch := omega) only [hb, hn, hi, hpre, rvalid_eq, go_sem, ↓reduceIte, Nat.reduceAdd, Nat.reduceSub, Nat.reduceEqDiff, Nat.reduceLeDiff, reduceCtorEq]) | (refine wp_gtn_d (fun hb => ?_) (fun hb => ?_) <;> simp -implicitDefEqProofs (disch := omega) only [hb, hn, hi, hpre, rvalid_eq, go_sem, ↓reduceIte, Nat.reduceAdd, Nat.reduceSub, Nat.reduceEqDiff, Nat.reduceLeDiff, reduceCtorEq]) | (refine wp_gr_d (fun hb => ?_) (fun hb => ?_) <;> simp -implicitDefEqProofs (disch := omega) only [hb, hn, hi, hpre, rvalid_eq, go_sem, ↓reduceIte, Nat.reduceAdd, Nat.reduceSub, Nat.reduceEqDiff, Nat.reduceLeDiff, reduceCtorEq]) | (refine wp_gt_d (fun hb => ?_) (fun hb => ?_) <;> simp -implicitDefEqProofs (disch := omega) only [hb, hn, hi, hpre, rvalid_eq, go_sem, ↓reduceIte, Nat.reduceAdd, Nat.reduceSub, Nat.reduceEqDiff, Nat.reduceLeDiff, reduceCtorEq]) | (refine wp_gr (fun hb => ?_) (fun hb => ?_) <;> simp -implicitDefEqProofs (disch := omega) only [hb, hn, hi, hpre, rvalid_eq, go_sem, ↓reduceIte, Nat.reduceAdd, Nat.reduceSub, Nat.reduceEqDiff, Nat.reduceLeDiff, reduceCtorEq]) | (refine wp_gt (fun hb => ?_) (fun hb => ?_) <;> simp -implicitDefEqProofs (disch := omega) only [hb, hn, hi, hpre, rvalid_eq, go_sem, ↓reduceIte, Nat.reduceAdd, Nat.reduceSub, Nat.reduceEqDiff, Nat.reduceLeDiff, reduceCtorEq]) | (refine wp_nt_d (fun hb => ?_) (fun hb => ?_) <;> simp -implicitDefEqProofs (disch := omega) only [hb, hn, hi, hpre, rvalid_eq, go_sem, ↓reduceIte, Nat.reduceAdd, Nat.reduceSub, Nat.reduceEqDiff, Nat.reduceLeDiff, reduceCtorEq]) | (refine wp_nt (fun hb => ?_) (fun hb => ?_) <;> simp -implicitDefEqProofs (disch := omega) only [hb, hn, hi, hpre, rvalid_eq, go_sem, ↓reduceIte, Nat.reduceAdd, Nat.reduceSub, Nat.reduceEqDiff, Nat.reduceLeDiff, reduceCtorEq]) | (refine wp_if_d (fun hb => ?_) (fun hb => ?_) <;> simp -implicitDefEqProofs (disch := omega) only [hb, hn, hi, hpre, rvalid_eq, go_sem, ↓reduceIte, Nat.reduceAdd, Nat.reduceSub, Nat.reduceEqDiff, Nat.reduceLeDiff, reduceCtorEq]) | (refine wp_if (fun hb => ?_) (fun hb => ?_) <;> simp -implicitDefEqProofs (disch := omega) only [hb, hn, hi, hpre, rvalid_eq, go_sem, ↓reduceIte, Nat.reduceAdd, Nat.reduceSub, Nat.reduceEqDiff, Nat.reduceLeDiff, reduceCtorEq]))
    all_goals first
      | (simp only [nodeOk, hlast, Prod.mk.injEq, VVal.p.injEq, PV.bool.injEq, and_true]
         rw [Bool.eq_iff_iff]
         simp only [Bool.and_eq_true, decide_eq_true_eq, Bool.false_eq_true, false_iff]
         try simp only [*]
         first | omega | (simp; done) | (simp; omega))
      | skip
    all_goals
      refine wp_count i (fun k s => (t.nodes.take k).any (fun x => decide (x.parent = n.parent ∧ x.name = n.name)) = false ∧ s.pe 1 = .p (.int .i64 i) ∧ s.pe 2 = .ptr (.slot 2 0) 0 0 ∧ s.pe 5 = .ptr (.slot 5 0) 0 0 ∧ s.pe 6 = .p (.bool ((t.nodes.take k).any fun x => decide (x.id = n.parent))) ∧ s.pe 7 = .p (.int .i64 k) ∧
        s.h (.slot 2 0) = some (0, .box [.p (nodesP t.nodes), .p (.int .i64 t.next)]) ∧ s.h (.slot 5 0) = some (0, .box (n.pv.cells.map .p))) ?_ ?_
      · exact ⟨by simp, rfl, rfl, rfl, rfl, rfl, rfl, by simp -implicitDefEqProofs (disch := omega) only [go_sem, ↓reduceIte, Nat.reduceAdd, Nat.reduceSub, Nat.reduceEqDiff, Nat.reduceLeDiff, reduceCtorEq]; simp only [*]⟩
      · rintro k s hk ⟨hno, h1, h2, h5, h6, h7, hh2, hh5⟩
        simp only [Nd.pv, PV.cells, List.map_cons, List.map_nil] at hh5
        simp -implicitDefEqProofs (disch := omega) only [h1, h2, h5, h6, h7, hh2, hh5, go_sem, ↓reduceIte, Nat.reduceAdd, Nat.reduceSub, Nat.reduceEqDiff, Nat.reduceLeDiff, reduceCtorEq]
        refine wp_if_d (fun hki => ?_) (fun hge => ?_)
        · have hm : t.nodes[k]? = some t.nodes[k] := List.getElem?_eq_getElem (by omega)
          generalize t.nodes[k] = m at hm
          simp -implicitDefEqProofs (disch := omega) only [h1, h2, h5, h6, h7, hh2, hh5, hm, hki, go_sem, ↓reduceIte, Nat.reduceAdd, Nat.reduceSub, Nat.reduceEqDiff, Nat.reduceLeDiff, reduceCtorEq]
          repeat' (first | (refine wp_grn_d (fun hb => ?_) (fun hb => ?_) <;> simp -implicitDefEqProofs (disch := omega) only [hb, h1, h2, h5, h6, h7, hh2, hh5, hm, hki, go_sem, ↓reduceIte, Nat.reduceAdd, Nat.reduceSub, Nat.reduceEqDiff, Nat.reduceLeDiff, reduceCtorEq]) | (refine wp_gtn_d (fun hb => ?_) (fun hb => ?_) <;> simp -implicitDefEqProofs (disch := omega) only [hb, h1, h2, h5, h6, h7, hh2, hh5, hm, hki, go_sem, ↓reduceIte, Nat.reduceAdd, Nat.reduceSub, Nat.reduceEqDiff, Nat.reduceLeDiff, reduceCtorEq]) | (refine wp_gr_d (fun hb => ?_) (fun hb => ?_) <;> simp -implicitDefEqProofs (disch := omega) only [hb, h1, h2, h5, h6, h7, hh2, hh5, hm, hki, go_sem, ↓reduceIte, Nat.reduceAdd, Nat.reduceSub, Nat.reduceEqDiff, Nat.reduceLeDiff, reduceCtorEq]) | (refine wp_gt_d (fun hb => ?_) (fun hb => ?_) <;> simp -implicitDefEqProofs (disch := omega) only [hb, h1, h2, h5, h6, h7, hh2, hh5, hm, hki, go_sem, ↓reduceIte, Nat.reduceAdd, Nat.reduceSub, Nat.reduceEqDiff, Nat.reduceLeDiff, reduceCtorEq]) | (refine wp_gr (fun hb => ?_) (fun hb => ?_) <;> simp -implicitDefEqProofs (disch := omega) only [hb, h1, h2, h5, h6, h7, hh2, hh5, hm, hki, go_sem, ↓reduceIte, Nat.reduceAdd, Nat.reduceSub, Nat.reduceEqDiff, Nat.reduceLeDiff, reduceCtorEq]) | (refine wp_gt (fun hb => ?_) (fun hb => ?_) <;> simp -implicitDefEqProofs (disch := omega) only [hb, h1, h2, h5, h6, h7, hh2, hh5, hm, hki, go_sem, ↓reduceIte, Nat.reduceAdd, Nat.reduceSub, Nat.reduceEqDiff, Nat.reduceLeDiff, reduceCtorEq]) | (refine wp_nt_d (fun hb => ?_) (fun hb => ?_) <;> simp -implicitDefEqProofs (disch := omega) only [hb, h1, h2, h5, h6, h7, hh2, hh5, hm, hki, go_sem, ↓reduceIte, Nat.reduceAdd, Nat.reduceSub, Nat.reduceEqDiff, Nat.reduceLeDiff, reduceCtorEq]) | (refine wp_nt (fun hb => ?_) (fun hb => ?_) <;> simp -implicitDefEqProofs (disch := omega) only [hb, h1, h2, h5, h6, h7, hh2, hh5, hm, hki, go_sem, ↓reduceIte, Nat.reduceAdd, Nat.reduceSub, Nat.reduceEqDiff, Nat.reduceLeDiff, reduceCtorEq]) | (refine wp_if_d (fun hb => ?_) (fun hb => ?_) <;> simp -implicitDefEqProofs (disch := omega) only [hb, h1, h2, h5, h6, h7, hh2, hh5, hm, hki, go_sem, ↓reduceIte, Nat.reduceAdd, Nat.reduceSub, Nat.reduceEqDiff, Nat.reduceLeDiff, reduceCtorEq]) | (refine wp_if (fun hb => ?_) (fun hb => ?_) <;> simp -implicitDefEqProofs (disch := omega) only [hb, h1, h2, h5, h6, h7, hh2, hh5, hm, hki, go_sem, ↓reduceIte, Nat.reduceAdd, Nat.reduceSub, Nat.reduceEqDiff, Nat.reduceLeDiff, reduceCtorEq]))
          all_goals first
            | (have ha : ((t.nodes.take i).any fun x => decide (x.parent = n.parent ∧ x.name = n.name)) = true := by
                refine any_of_take (k := k + 1) (by omega) ?_
                rw [any_take hm]
                simp [*]
               simp only [nodeOk, hlast, ha, Bool.not_true, Bool.and_false, Bool.false_and]
               done)
            | exact ⟨by rw [any_take hm, hno]; simp [*], by rw [any_take hm]; simp [*], by simp only [Int.natCast_add, Int.natCast_one]⟩
        · simp -implicitDefEqProofs (disch := omega) only [h1, h2, h5, h6, h7, hh2, hh5, hge, go_sem, ↓reduceIte, Nat.reduceAdd, Nat.reduceSub, Nat.reduceEqDiff, Nat.reduceLeDiff, reduceCtorEq]
          have hki : k = i := by omega
          subst hki
          simp only [nodeOk, hlast, hno, Prod.mk.injEq, VVal.p.injEq, PV.bool.injEq, and_true]
          rw [Bool.eq_iff_iff]
          simp only [Bool.and_eq_true, decide_eq_true_eq, Bool.not_false, and_true, true_and]
          exact ⟨fun h => ⟨⟨by omega, by omega, by omega, by omega, by omega⟩, ⟨by omega, by assumption⟩, h⟩, fun h => h.2.2⟩

/-- The nodes from some place on, each behind those before it. -/
def nodesOk : List Nd → List Nd → Bool
  | _, [] => true
  | pre, n :: ns => nodeOk pre n && nodesOk (pre ++ [n]) ns

theorem nodesOk_iff : ∀ (ns pre : List Nd), nodesOk pre ns = true ↔ ∀ (i : Nat) (n : Nd), ns[i]? = some n → nodeOk (pre ++ ns.take i) n = true
  | [], pre => by simp [nodesOk]
  | n :: ns, pre => by
    simp only [nodesOk, Bool.and_eq_true]
    rw [nodesOk_iff ns (pre ++ [n])]
    constructor
    · rintro ⟨h1, h2⟩ i m hm
      cases i with
      | zero => simp at hm; subst hm; simpa using h1
      | succ i => simpa using h2 i m (by simpa using hm)
    · intro h
      exact ⟨by simpa using h 0 n rfl, fun i m hm => by simpa using h (i + 1) m (by simpa using hm)⟩

/-- A well-formed tree. -/
def treeOk (t : Tr) : Bool :=
  decide (1 ≤ t.nodes.length ∧ t.nodes.length ≤ 64) && nodesOk [] t.nodes && t.nodes.all (fun n => decide ((up t.nodes n.id).length ≤ 9)) &&
  (match t.nodes.getLast? with
   | none => false
   | some l => decide (l.id < t.next ∧ t.next ≤ 2147483648))

theorem rcheck_eq (t : Tr) (hl : t.nodes.length < 1000000) : V 79 [t.vv] [] = some (.p (.bool (treeOk t)), []) := by
  refine V_wp (vf := vf79) rfl ?_
  by_cases h1 : (t.nodes.length : Int) < 1
  · simp -implicitDefEqProofs (disch := omega) only [vf79, vb79, h1, go_sem, ↓reduceIte, Nat.reduceAdd, Nat.reduceSub, Nat.reduceEqDiff, Nat.reduceLeDiff, reduceCtorEq]
    simp [treeOk, show ¬ 1 ≤ t.nodes.length by omega]
  · by_cases h2 : 64 < (t.nodes.length : Int)
    · simp -implicitDefEqProofs (disch := omega) only [vf79, vb79, h1, h2, go_sem, ↓reduceIte, Nat.reduceAdd, Nat.reduceSub, Nat.reduceEqDiff, Nat.reduceLeDiff, reduceCtorEq]
      simp [treeOk, show ¬ t.nodes.length ≤ 64 by omega]
    · simp -implicitDefEqProofs (disch := omega) only [vf79, vb79, h1, h2, go_sem, ↓reduceIte, Nat.reduceAdd, Nat.reduceSub, Nat.reduceEqDiff, Nat.reduceLeDiff, reduceCtorEq]
      refine wp_count t.nodes.length (fun k s => (∀ (i : Nat) (n : Nd), i < k → t.nodes[i]? = some n → nodeOk (t.nodes.take i) n = true) ∧ s.pe 1 = .ptr (.slot 1 0) 0 0 ∧ s.pe 3 = .p (.int .i64 t.nodes.length) ∧ s.pe 4 = .p (.int .i64 k) ∧ s.h (.slot 1 0) = some (0, .box [.p (nodesP t.nodes), .p (.int .i64 t.next)])) ?_ ?_
      · exact ⟨by omega, rfl, rfl, rfl, rfl⟩
      · rintro k s hk ⟨hall, h3, h4, h5, hh⟩
        simp -implicitDefEqProofs (disch := omega) only [h3, h4, h5, hh, go_sem, ↓reduceIte, Nat.reduceAdd, Nat.reduceSub, Nat.reduceEqDiff, Nat.reduceLeDiff, reduceCtorEq]
        refine wp_if_d (fun hlt => ?_) (fun hge => ?_)
        · have hm : t.nodes[k]? = some t.nodes[k] := List.getElem?_eq_getElem hlt
          generalize t.nodes[k] = m at hm
          have hc := node_eq t k m hm hl
          simp -implicitDefEqProofs (disch := omega) only [h3, h4, h5, hh, hm, hc, hlt, go_sem, ↓reduceIte, Nat.reduceAdd, Nat.reduceSub, Nat.reduceEqDiff, Nat.reduceLeDiff, reduceCtorEq]
          repeat' (first | (refine wp_grn_d (fun hb => ?_) (fun hb => ?_) <;> simp -implicitDefEqProofs (disch := omega) only [hb, h3, h4, h5, hh, hm, hc, go_sem, ↓reduceIte, Nat.reduceAdd, Nat.reduceSub, Nat.reduceEqDiff, Nat.reduceLeDiff, reduceCtorEq]) | (refine wp_gtn_d (fun hb => ?_) (fun hb => ?_) <;> simp -implicitDefEqProofs (disch := omega) only [hb, h3, h4, h5, hh, hm, hc, go_sem, ↓reduceIte, Nat.reduceAdd, Nat.reduceSub, Nat.reduceEqDiff, Nat.reduceLeDiff, reduceCtorEq]) | (refine wp_gr_d (fun hb => ?_) (fun hb => ?_) <;> simp -implicitDefEqProofs (disch := omega) only [hb, h3, h4, h5, hh, hm, hc, go_sem, ↓reduceIte, Nat.reduceAdd, Nat.reduceSub, Nat.reduceEqDiff, Nat.reduceLeDiff, reduceCtorEq]) | (refine wp_gt_d (fun hb => ?_) (fun hb => ?_) <;> simp -implicitDefEqProofs (disch := omega) only [hb, h3, h4, h5, hh, hm, hc, go_sem, ↓reduceIte, Nat.reduceAdd, Nat.reduceSub, Nat.reduceEqDiff, Nat.reduceLeDiff, reduceCtorEq]) | (refine wp_gr (fun hb => ?_) (fun hb => ?_) <;> simp -implicitDefEqProofs (disch := omega) only [hb, h3, h4, h5, hh, hm, hc, go_sem, ↓reduceIte, Nat.reduceAdd, Nat.reduceSub, Nat.reduceEqDiff, Nat.reduceLeDiff, reduceCtorEq]) | (refine wp_gt (fun hb => ?_) (fun hb => ?_) <;> simp -implicitDefEqProofs (disch := omega) only [hb, h3, h4, h5, hh, hm, hc, go_sem, ↓reduceIte, Nat.reduceAdd, Nat.reduceSub, Nat.reduceEqDiff, Nat.reduceLeDiff, reduceCtorEq]) | (refine wp_nt_d (fun hb => ?_) (fun hb => ?_) <;> simp -implicitDefEqProofs (disch := omega) only [hb, h3, h4, h5, hh, hm, hc, go_sem, ↓reduceIte, Nat.reduceAdd, Nat.reduceSub, Nat.reduceEqDiff, Nat.reduceLeDiff, reduceCtorEq]) | (refine wp_nt (fun hb => ?_) (fun hb => ?_) <;> simp -implicitDefEqProofs (disch := omega) only [hb, h3, h4, h5, hh, hm, hc, go_sem, ↓reduceIte, Nat.reduceAdd, Nat.reduceSub, Nat.reduceEqDiff, Nat.reduceLeDiff, reduceCtorEq]) | (refine wp_if_d (fun hb => ?_) (fun hb => ?_) <;> simp -implicitDefEqProofs (disch := omega) only [hb, h3, h4, h5, hh, hm, hc, go_sem, ↓reduceIte, Nat.reduceAdd, Nat.reduceSub, Nat.reduceEqDiff, Nat.reduceLeDiff, reduceCtorEq]) | (refine wp_if (fun hb => ?_) (fun hb => ?_) <;> simp -implicitDefEqProofs (disch := omega) only [hb, h3, h4, h5, hh, hm, hc, go_sem, ↓reduceIte, Nat.reduceAdd, Nat.reduceSub, Nat.reduceEqDiff, Nat.reduceLeDiff, reduceCtorEq]))
          · have hf : nodesOk [] t.nodes = false := by
              rw [Bool.eq_false_iff]
              intro h0
              have := (nodesOk_iff _ _).1 h0 k m hm
              simp_all
            simp [treeOk, hf]
          · refine ⟨hlt, fun i n hi hn => ?_, by simp only [Int.natCast_add, Int.natCast_one]⟩
            rcases Nat.lt_or_ge i k with h0 | h0
            · exact hall i n h0 hn
            · have : i = k := by omega
              subst this
              rw [hm] at hn
              simp at hn
              subst hn
              assumption
        · have hok : nodesOk [] t.nodes = true := (nodesOk_iff _ _).2 fun i n hn => by simpa using hall i n (by have := (List.getElem?_eq_some_iff.1 hn).1; omega) hn
          simp -implicitDefEqProofs (disch := omega) only [h3, h4, h5, hh, hge, go_sem, ↓reduceIte, Nat.reduceAdd, Nat.reduceSub, Nat.reduceEqDiff, Nat.reduceLeDiff, reduceCtorEq]
          refine wp_count t.nodes.length (fun k s => (∀ (i : Nat) (n : Nd), i < k → t.nodes[i]? = some n → (up t.nodes n.id).length ≤ 9) ∧ s.pe 1 = .ptr (.slot 1 0) 0 0 ∧ s.pe 3 = .p (.int .i64 t.nodes.length) ∧ s.pe 5 = .p (.int .i64 k) ∧ s.h (.slot 1 0) = some (0, .box [.p (nodesP t.nodes), .p (.int .i64 t.next)])) ?_ ?_
          · simp -implicitDefEqProofs (disch := omega) only [h3, h4, h5, hh, go_sem, ↓reduceIte, Nat.reduceAdd, Nat.reduceSub, Nat.reduceEqDiff, Nat.reduceLeDiff, reduceCtorEq]
            simp
          · rintro k s hk ⟨hall2, h3, h4, h5, hh⟩
            simp -implicitDefEqProofs (disch := omega) only [h3, h4, h5, hh, go_sem, ↓reduceIte, Nat.reduceAdd, Nat.reduceSub, Nat.reduceEqDiff, Nat.reduceLeDiff, reduceCtorEq]
            refine wp_if_d (fun hlt => ?_) (fun hge => ?_)
            · have hm : t.nodes[k]? = some t.nodes[k] := List.getElem?_eq_getElem hlt
              generalize t.nodes[k] = m at hm
              have hc := up_eq t m.id hl
              simp -implicitDefEqProofs (disch := omega) only [h3, h4, h5, hh, hm, hc, hlt, go_sem, ↓reduceIte, Nat.reduceAdd, Nat.reduceSub, Nat.reduceEqDiff, Nat.reduceLeDiff, reduceCtorEq]
              repeat' (first | (refine wp_grn_d (fun hb => ?_) (fun hb => ?_) <;> simp -implicitDefEqProofs (disch := omega) only [hb, h3, h4, h5, hh, hm, hc, go_sem, ↓reduceIte, Nat.reduceAdd, Nat.reduceSub, Nat.reduceEqDiff, Nat.reduceLeDiff, reduceCtorEq]) | (refine wp_gtn_d (fun hb => ?_) (fun hb => ?_) <;> simp -implicitDefEqProofs (disch := omega) only [hb, h3, h4, h5, hh, hm, hc, go_sem, ↓reduceIte, Nat.reduceAdd, Nat.reduceSub, Nat.reduceEqDiff, Nat.reduceLeDiff, reduceCtorEq]) | (refine wp_gr_d (fun hb => ?_) (fun hb => ?_) <;> simp -implicitDefEqProofs (disch := omega) only [hb, h3, h4, h5, hh, hm, hc, go_sem, ↓reduceIte, Nat.reduceAdd, Nat.reduceSub, Nat.reduceEqDiff, Nat.reduceLeDiff, reduceCtorEq]) | (refine wp_gt_d (fun hb => ?_) (fun hb => ?_) <;> simp -implicitDefEqProofs (disch := omega) only [hb, h3, h4, h5, hh, hm, hc, go_sem, ↓reduceIte, Nat.reduceAdd, Nat.reduceSub, Nat.reduceEqDiff, Nat.reduceLeDiff, reduceCtorEq]) | (refine wp_gr (fun hb => ?_) (fun hb => ?_) <;> simp -implicitDefEqProofs (disch := omega) only [hb, h3, h4, h5, hh, hm, hc, go_sem, ↓reduceIte, Nat.reduceAdd, Nat.reduceSub, Nat.reduceEqDiff, Nat.reduceLeDiff, reduceCtorEq]) | (refine wp_gt (fun hb => ?_) (fun hb => ?_) <;> simp -implicitDefEqProofs (disch := omega) only [hb, h3, h4, h5, hh, hm, hc, go_sem, ↓reduceIte, Nat.reduceAdd, Nat.reduceSub, Nat.reduceEqDiff, Nat.reduceLeDiff, reduceCtorEq]) | (refine wp_nt_d (fun hb => ?_) (fun hb => ?_) <;> simp -implicitDefEqProofs (disch := omega) only [hb, h3, h4, h5, hh, hm, hc, go_sem, ↓reduceIte, Nat.reduceAdd, Nat.reduceSub, Nat.reduceEqDiff, Nat.reduceLeDiff, reduceCtorEq]) | (refine wp_nt (fun hb => ?_) (fun hb => ?_) <;> simp -implicitDefEqProofs (disch := omega) only [hb, h3, h4, h5, hh, hm, hc, go_sem, ↓reduceIte, Nat.reduceAdd, Nat.reduceSub, Nat.reduceEqDiff, Nat.reduceLeDiff, reduceCtorEq]) | (refine wp_if_d (fun hb => ?_) (fun hb => ?_) <;> simp -implicitDefEqProofs (disch := omega) only [hb, h3, h4, h5, hh, hm, hc, go_sem, ↓reduceIte, Nat.reduceAdd, Nat.reduceSub, Nat.reduceEqDiff, Nat.reduceLeDiff, reduceCtorEq]) | (refine wp_if (fun hb => ?_) (fun hb => ?_) <;> simp -implicitDefEqProofs (disch := omega) only [hb, h3, h4, h5, hh, hm, hc, go_sem, ↓reduceIte, Nat.reduceAdd, Nat.reduceSub, Nat.reduceEqDiff, Nat.reduceLeDiff, reduceCtorEq]))
              · rename_i hb
                have hf : t.nodes.all (fun n => decide ((up t.nodes n.id).length ≤ 9)) = false := by
                  rw [List.all_eq_false]
                  exact ⟨m, List.mem_of_getElem? hm, by simp; omega⟩
                simp [treeOk, hf]
              · rename_i hb
                refine ⟨hlt, fun i n hi hn => ?_, by simp only [Int.natCast_add, Int.natCast_one]⟩
                rcases Nat.lt_or_ge i k with h0 | h0
                · exact hall2 i n h0 hn
                · have : i = k := by omega
                  subst this
                  rw [hm] at hn
                  simp at hn
                  subst hn
                  omega
            · have hk2 : t.nodes.all (fun n => decide ((up t.nodes n.id).length ≤ 9)) = true := by
                rw [List.all_eq_true]
                intro n hn
                obtain ⟨i, hi⟩ := List.getElem?_of_mem hn
                have := hall2 i n (by have := (List.getElem?_eq_some_iff.1 hi).1; omega) hi
                simpa using this
              have hla : t.nodes[((t.nodes.length : Int) - 1).toNat]? = some t.nodes[t.nodes.length - 1] := by
                rw [show ((t.nodes.length : Int) - 1).toNat = t.nodes.length - 1 by omega]
                exact List.getElem?_eq_getElem (by omega)
              have hlast : t.nodes.getLast? = some t.nodes[t.nodes.length - 1] := by
                rw [List.getLast?_eq_getElem?]
                exact List.getElem?_eq_getElem (by omega)
              generalize t.nodes[t.nodes.length - 1] = l at hla hlast
              simp -implicitDefEqProofs (disch := omega) only [h3, h4, h5, hh, hge, hla, go_sem, ↓reduceIte, Nat.reduceAdd, Nat.reduceSub, Nat.reduceEqDiff, Nat.reduceLeDiff, reduceCtorEq]
              repeat' (first | (refine wp_grn_d (fun hb => ?_) (fun hb => ?_) <;> simp -implicitDefEqProofs (disch := omega) only [hb, h3, h4, h5, hh, hla, go_sem, ↓reduceIte, Nat.reduceAdd, Nat.reduceSub, Nat.reduceEqDiff, Nat.reduceLeDiff, reduceCtorEq]) | (refine wp_gtn_d (fun hb => ?_) (fun hb => ?_) <;> simp -implicitDefEqProofs (disch := omega) only [hb, h3, h4, h5, hh, hla, go_sem, ↓reduceIte, Nat.reduceAdd, Nat.reduceSub, Nat.reduceEqDiff, Nat.reduceLeDiff, reduceCtorEq]) | (refine wp_gr_d (fun hb => ?_) (fun hb => ?_) <;> simp -implicitDefEqProofs (disch := omega) only [hb, h3, h4, h5, hh, hla, go_sem, ↓reduceIte, Nat.reduceAdd, Nat.reduceSub, Nat.reduceEqDiff, Nat.reduceLeDiff, reduceCtorEq]) | (refine wp_gt_d (fun hb => ?_) (fun hb => ?_) <;> simp -implicitDefEqProofs (disch := omega) only [hb, h3, h4, h5, hh, hla, go_sem, ↓reduceIte, Nat.reduceAdd, Nat.reduceSub, Nat.reduceEqDiff, Nat.reduceLeDiff, reduceCtorEq]) | (refine wp_gr (fun hb => ?_) (fun hb => ?_) <;> simp -implicitDefEqProofs (disch := omega) only [hb, h3, h4, h5, hh, hla, go_sem, ↓reduceIte, Nat.reduceAdd, Nat.reduceSub, Nat.reduceEqDiff, Nat.reduceLeDiff, reduceCtorEq]) | (refine wp_gt (fun hb => ?_) (fun hb => ?_) <;> simp -implicitDefEqProofs (disch := omega) only [hb, h3, h4, h5, hh, hla, go_sem, ↓reduceIte, Nat.reduceAdd, Nat.reduceSub, Nat.reduceEqDiff, Nat.reduceLeDiff, reduceCtorEq]) | (refine wp_nt_d (fun hb => ?_) (fun hb => ?_) <;> simp -implicitDefEqProofs (disch := omega) only [hb, h3, h4, h5, hh, hla, go_sem, ↓reduceIte, Nat.reduceAdd, Nat.reduceSub, Nat.reduceEqDiff, Nat.reduceLeDiff, reduceCtorEq]) | (refine wp_nt (fun hb => ?_) (fun hb => ?_) <;> simp -implicitDefEqProofs (disch := omega) only [hb, h3, h4, h5, hh, hla, go_sem, ↓reduceIte, Nat.reduceAdd, Nat.reduceSub, Nat.reduceEqDiff, Nat.reduceLeDiff, reduceCtorEq]) | (refine wp_if_d (fun hb => ?_) (fun hb => ?_) <;> simp -implicitDefEqProofs (disch := omega) only [hb, h3, h4, h5, hh, hla, go_sem, ↓reduceIte, Nat.reduceAdd, Nat.reduceSub, Nat.reduceEqDiff, Nat.reduceLeDiff, reduceCtorEq]) | (refine wp_if (fun hb => ?_) (fun hb => ?_) <;> simp -implicitDefEqProofs (disch := omega) only [hb, h3, h4, h5, hh, hla, go_sem, ↓reduceIte, Nat.reduceAdd, Nat.reduceSub, Nat.reduceEqDiff, Nat.reduceLeDiff, reduceCtorEq]))
              all_goals
                simp only [treeOk, hok, hk2, hlast, show (1 ≤ t.nodes.length ∧ t.nodes.length ≤ 64) by omega, Prod.mk.injEq, VVal.p.injEq, PV.bool.injEq, and_true, decide_true, Bool.true_and]
                rw [Bool.eq_iff_iff]
                simp only [decide_eq_true_eq, Bool.false_eq_true, false_iff]
                omega
end Go.V
