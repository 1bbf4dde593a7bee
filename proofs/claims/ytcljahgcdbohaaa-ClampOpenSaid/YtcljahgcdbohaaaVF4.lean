/- The value machine V at work: the removal of a group. -/
import Derived.Test.YtcljahgcdbohaaaVF3
set_option linter.unusedSimpArgs false
set_option linter.unusedVariables false
namespace Go.V
set_option maxHeartbeats 2000000 in
theorem rremove_eq (t : Tr) (id : Int) (hl : t.nodes.length < 1000000) : V 56 [t.vv, .p (.int .i64 id)] [] = some (.tup [(removeT t id).1.fv, .p (.int .i64 (removeT t id).2)], []) := by
  refine V_wp (vf := vf56) rfl ?_
  have hc := rcheck_eq t hl
  have hh := rhas_eq t id hl
  have hk := rkids_eq t id hl
  cases hok : treeOk t with
  | false =>
    rw [hok] at hc
    simp -implicitDefEqProofs (disch := omega) only [vf56, vb56, hc, go_sem, ↓reduceIte, Nat.reduceAdd, Nat.reduceSub, Nat.reduceEqDiff, Nat.reduceLeDiff, reduceCtorEq]
    simp [removeT, hok]
  | true =>
    rw [hok] at hc
    cases hf : (findT t id).isSome with
    | false =>
      rw [hf] at hh
      simp -implicitDefEqProofs (disch := omega) only [vf56, vb56, hc, hh, go_sem, ↓reduceIte, Nat.reduceAdd, Nat.reduceSub, Nat.reduceEqDiff, Nat.reduceLeDiff, reduceCtorEq]
      simp [removeT, hok, hf]
    | true =>
      rw [hf] at hh
      by_cases h1 : id = 1
      · subst h1
        simp -implicitDefEqProofs (disch := omega) only [vf56, vb56, hc, hh, go_sem, ↓reduceIte, Nat.reduceAdd, Nat.reduceSub, Nat.reduceEqDiff, Nat.reduceLeDiff, reduceCtorEq]
        simp [removeT, hok, hf]
      · by_cases h2 : (0 : Int) < (kids t id).length
        · have h3 : kids t id ≠ [] := fun e => by rw [e] at h2; simp at h2
          simp -implicitDefEqProofs (disch := omega) only [vf56, vb56, hc, hh, hk, h1, h2, go_sem, ↓reduceIte, Nat.reduceAdd, Nat.reduceSub, Nat.reduceEqDiff, Nat.reduceLeDiff, reduceCtorEq]
          simp [removeT, hok, hf, h1, h3]
        · have h3 : kids t id = [] := List.length_eq_zero_iff.1 (by omega)
          simp -implicitDefEqProofs (disch := omega) only [vf56, vb56, hc, hh, hk, h1, h2, go_sem, ↓reduceIte, Nat.reduceAdd, Nat.reduceSub, Nat.reduceEqDiff, Nat.reduceLeDiff, reduceCtorEq]
          refine wp_count t.nodes.length (fun k s => ∃ (acc : List Nd) (v : Nat), acc = ((t.nodes.take k).filter fun n => !decide (n.id = id)) ∧ acc.length ≤ k ∧ s.pe 1 = .p (.int .i64 id) ∧ s.pe 2 = .ptr (.slot 2 0) 0 0 ∧ s.pe 4 = .ptr (.slot 4 0) 0 0 ∧ s.pe 6 = .ptr (.slot 6 0) 0 0 ∧ s.pe 7 = .p (.int .i64 k) ∧ s.h (.slot 2 0) = some (0, .box [.p (nodesP t.nodes), .p (.int .i64 t.next)]) ∧ s.h (.slot 4 0) = some (0, .box [.own (.slot 4 1) 0 0 0, .p (.int .i64 0)]) ∧
            s.h (.slot 6 0) = some (0, .box [.own (.slot 32 1) v 0 acc.length, .p (.int .i64 t.next)]) ∧ s.h (.slot 32 1) = some (v, .arr 6 (acc.map Nd.pv))) ?_ ?_
          · refine ⟨[], 0, rfl, by simp, ?_⟩
            simp -implicitDefEqProofs (disch := omega) only [go_sem, ↓reduceIte, Nat.reduceAdd, Nat.reduceSub, Nat.reduceEqDiff, Nat.reduceLeDiff, reduceCtorEq]
            rfl
          · rintro k s hk' ⟨acc, v, hacc, hlen, p1, p2, p4, p6, p7, hh2, hh4, hh6, hh32⟩
            simp -implicitDefEqProofs (disch := omega) only [p1, p2, p4, p6, p7, hh2, hh4, hh6, hh32, go_sem, ↓reduceIte, Nat.reduceAdd, Nat.reduceSub, Nat.reduceEqDiff, Nat.reduceLeDiff, reduceCtorEq]
            refine wp_if_d (fun hlt => ?_) (fun hge => ?_)
            · have hm : t.nodes[k]? = some t.nodes[k] := List.getElem?_eq_getElem hlt
              generalize t.nodes[k] = m at hm
              simp -implicitDefEqProofs (disch := omega) only [p1, p2, p4, p6, p7, hh2, hh4, hh6, hh32, hm, go_sem, ↓reduceIte, Nat.reduceAdd, Nat.reduceSub, Nat.reduceEqDiff, Nat.reduceLeDiff, reduceCtorEq]
              repeat' (first | (refine wp_grn_d (fun hb => ?_) (fun hb => ?_) <;> simp -implicitDefEqProofs (disch := omega) only [hb, p1, p2, p4, p6, p7, hh2, hh4, hh6, hh32, hm, go_sem, ↓reduceIte, Nat.reduceAdd, Nat.reduceSub, Nat.reduceEqDiff, Nat.reduceLeDiff, reduceCtorEq]) | (refine wp_gtn_d (fun hb => ?_) (fun hb => ?_) <;> simp -implicitDefEqProofs (disch := omega) only [hb, p1, p2, p4, p6, p7, hh2, hh4, hh6, hh32, hm, go_sem, ↓reduceIte, Nat.reduceAdd, Nat.reduceSub, Nat.reduceEqDiff, Nat.reduceLeDiff, reduceCtorEq]) | (refine wp_gr_d (fun hb => ?_) (fun hb => ?_) <;> simp -implicitDefEqProofs (disch := omega) only [hb, p1, p2, p4, p6, p7, hh2, hh4, hh6, hh32, hm, go_sem, ↓reduceIte, Nat.reduceAdd, Nat.reduceSub, Nat.reduceEqDiff, Nat.reduceLeDiff, reduceCtorEq]) | (refine wp_gt_d (fun hb => ?_) (fun hb => ?_) <;> simp -implicitDefEqProofs (disch := omega) only [hb, p1, p2, p4, p6, p7, hh2, hh4, hh6, hh32, hm, go_sem, ↓reduceIte, Nat.reduceAdd, Nat.reduceSub, Nat.reduceEqDiff, Nat.reduceLeDiff, reduceCtorEq]) | (refine wp_gr (fun hb => ?_) (fun hb => ?_) <;> simp -implicitDefEqProofs (disch := omega) only [hb, p1, p2, p4, p6, p7, hh2, hh4, hh6, hh32, hm, go_sem, ↓reduceIte, Nat.reduceAdd, Nat.reduceSub, Nat.reduceEqDiff, Nat.reduceLeDiff, reduceCtorEq]) | (refine wp_gt (fun hb => ?_) (fun hb => ?_) <;> simp -implicitDefEqProofs (disch := omega) only [hb, p1, p2, p4, p6, p7, hh2, hh4, hh6, hh32, hm, go_sem, ↓reduceIte, Nat.reduceAdd, Nat.reduceSub, Nat.reduceEqDiff, Nat.reduceLeDiff, reduceCtorEq]) | (refine wp_nt_d (fun hb => ?_) (fun hb => ?_) <;> simp -implicitDefEqProofs (disch := omega) only [hb, p1, p2, p4, p6, p7, hh2, hh4, hh6, hh32, hm, go_sem, ↓reduceIte, Nat.reduceAdd, Nat.reduceSub, Nat.reduceEqDiff, Nat.reduceLeDiff, reduceCtorEq]) | (refine wp_nt (fun hb => ?_) (fun hb => ?_) <;> simp -implicitDefEqProofs (disch := omega) only [hb, p1, p2, p4, p6, p7, hh2, hh4, hh6, hh32, hm, go_sem, ↓reduceIte, Nat.reduceAdd, Nat.reduceSub, Nat.reduceEqDiff, Nat.reduceLeDiff, reduceCtorEq]) | (refine wp_if_d (fun hb => ?_) (fun hb => ?_) <;> simp -implicitDefEqProofs (disch := omega) only [hb, p1, p2, p4, p6, p7, hh2, hh4, hh6, hh32, hm, go_sem, ↓reduceIte, Nat.reduceAdd, Nat.reduceSub, Nat.reduceEqDiff, Nat.reduceLeDiff, reduceCtorEq]) | (refine wp_if (fun hb => ?_) (fun hb => ?_) <;> simp -implicitDefEqProofs (disch := omega) only [hb, p1, p2, p4, p6, p7, hh2, hh4, hh6, hh32, hm, go_sem, ↓reduceIte, Nat.reduceAdd, Nat.reduceSub, Nat.reduceEqDiff, Nat.reduceLeDiff, reduceCtorEq]))
              · refine ⟨hlt, acc ++ [m], v + 1, ?_, by simp; omega, by simp, by simp, by simp [Nd.pv]⟩
                rw [filter_take hm, hacc]
                simp [hb]
              · refine ⟨hlt, acc, v, ?_, by omega, by simp, by simp, by simp⟩
                rw [filter_take hm, hacc]
                simp [hb]
            · rw [List.take_of_length_le (by omega)] at hacc
              simp -implicitDefEqProofs (disch := omega) only [p1, p2, p4, p6, p7, hh2, hh4, hh6, hh32, hge, go_sem, ↓reduceIte, Nat.reduceAdd, Nat.reduceSub, Nat.reduceEqDiff, Nat.reduceLeDiff, reduceCtorEq]
              simp [removeT, hok, hf, h1, h3, hacc]
end Go.V
