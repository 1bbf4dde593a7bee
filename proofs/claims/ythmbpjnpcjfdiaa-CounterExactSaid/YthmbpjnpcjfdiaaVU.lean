/- The value machine V at work: the program's own check of trees. -/
/- The value machine V at work: the program's own check of trees, as a whole. -/
/- Ways up in a tree, plainly. No program in sight. -/
/- Subtrees, plainly: what lies below a group, and how many groups. -/
/- The value machine V at work: subtrees, and whether a list has a number. -/
import Derived.Test.YthmbpjnpcjfdiaaVT
set_option linter.unusedSimpArgs false
set_option linter.unusedVariables false
namespace Go.V

theorem troot_eq (n : Nd) : V 65 [n.vv] [] = some (.p (.bool (decide (n.id = 1 ∧ n.parent = 0 ∧ n.name = ⟨#[]⟩ ∧ n.kind = 0))), []) := by
  refine V_wp (vf := vf65) rfl ?_
  simp -implicitDefEqProofs (disch := omega) only [vf65, vb65, go_sem, ↓reduceIte, Nat.reduceAdd, Nat.reduceSub, Nat.reduceEqDiff, Nat.reduceLeDiff, reduceCtorEq]
  repeat' ((first | refine wp_grn_d (fun hb => ?_) (fun hb => ?_) | refine wp_gtn_d (fun hb => ?_) (fun hb => ?_) | refine wp_gr_d (fun hb => ?_) (fun hb => ?_) | refine wp_gt_d (fun hb => ?_) (fun hb => ?_) | refine wp_gr (fun hb => ?_) (fun hb => ?_) | refine wp_gt (fun hb => ?_) (fun hb => ?_) | refine wp_nt_d (fun hb => ?_) (fun hb => ?_) | refine wp_nt (fun hb => ?_) (fun hb => ?_) | refine wp_if_d (fun hb => ?_) (fun hb => ?_) | refine wp_if (fun hb => ?_) (fun hb => ?_)) <;> simp -implicitDefEqProofs (disch := omega) only [hb, go_sem, ↓reduceIte, Nat.reduceAdd, Nat.reduceSub, Nat.reduceEqDiff, Nat.reduceLeDiff, reduceCtorEq])
  all_goals
    simp only [Prod.mk.injEq, VVal.p.injEq, PV.bool.injEq, and_true]
    rw [Bool.eq_iff_iff]
    simp only [decide_eq_true_eq, Bool.false_eq_true, false_iff]
    simp [*]

def fineB (pre : List Nd) (l n : Nd) : Bool := decide (l.id < n.id) && validN n.name && decide (n.kind = 0 ∨ n.kind = 1) && !(pre.any fun x => decide (x.parent = n.parent ∧ x.name = n.name)) && pre.any fun x => decide (x.id = n.parent)

set_option maxHeartbeats 2000000 in
theorem tfine_eq (pre : List Nd) (l n : Nd) (hl : pre.getLast? = some l) (hlen : pre.length < 1000000) (hs : n.name.size < 9223372036854775808) : V 66 [.p (nodesP pre), n.vv] [] = some (.p (.bool (fineB pre l n)), []) := by
  refine V_wp (vf := vf66) rfl ?_
  have hpre : pre[((pre.length : Int) - 1).toNat]? = some l := by
    rw [List.getLast?_eq_getElem?] at hl
    rw [show ((pre.length : Int) - 1).toNat = pre.length - 1 by omega]
    exact hl
  have hpos : 0 < pre.length := by
    have := (List.getElem?_eq_some_iff.1 hpre).1
    omega
  have hp0 : 0 ≤ (pre.length : Int) - 1 := by omega
  have hv := pvalid_eq n.name hs
  simp -implicitDefEqProofs (disch := omega) only [vf66, vb66, hpre, hp0, go_sem, ↓reduceIte, Nat.reduceAdd, Nat.reduceSub, Nat.reduceEqDiff, Nat.reduceLeDiff, reduceCtorEq]
  repeat' ((first | refine wp_grn_d (fun hb => ?_) (fun hb => ?_) | refine wp_gtn_d (fun hb => ?_) (fun hb => ?_) | refine wp_gr_d (fun hb => ?_) (fun hb => ?_) | refine wp_gt_d (fun hb => ?_) (fun hb => ?_) | refine wp_gr (fun hb => ?_) (fun hb => ?_) | refine wp_gt (fun hb => ?_) (fun hb => ?_) | refine wp_nt_d (fun hb => ?_) (fun hb => ?_) | refine wp_nt (fun hb => ?_) (fun hb => ?_) | refine wp_if_d (fun hb => ?_) (fun hb => ?_) | refine wp_if (fun hb => ?_) (fun hb => ?_)) <;> simp -implicitDefEqProofs (disch := omega) only [hb, hpre, hv, go_sem, ↓reduceIte, Nat.reduceAdd, Nat.reduceSub, Nat.reduceEqDiff, Nat.reduceLeDiff, reduceCtorEq])
  all_goals first
    | (simp only [fineB, Prod.mk.injEq, VVal.p.injEq, PV.bool.injEq, and_true]
       rw [Bool.eq_iff_iff]
       simp only [Bool.and_eq_true, decide_eq_true_eq, Bool.false_eq_true, false_iff]
       try simp only [*]
       first | omega | (simp; done) | (simp; omega))
    | (have hvf : validN n.name = false := by simpa using ‹(!validN n.name) = true›
       simp only [fineB, hvf, Bool.and_false, Bool.false_and]
       done)
    | skip
  all_goals
    have hvt : validN n.name = true := by simpa using ‹(!validN n.name) = false›
    refine wp_count pre.length (fun k s => ((pre.take k).any (fun x => decide (x.parent = n.parent ∧ x.name = n.name)) = false) ∧ s.pe 3 = .ptr (.slot 3 0) 0 0 ∧ s.pe 5 = .p (.bool ((pre.take k).any fun x => decide (x.id = n.parent))) ∧ s.pe 34 = .p (nodesP pre) ∧ s.pe 35 = .p (.int .i64 pre.length) ∧ s.pe 36 = .p (.int .i64 k) ∧ s.h (.slot 3 0) = some (0, .box (n.pv.cells.map .p))) ?_ ?_
    · exact ⟨by simp, rfl, rfl, rfl, rfl, rfl, by simp -implicitDefEqProofs (disch := omega) only [go_sem, ↓reduceIte, Nat.reduceAdd, Nat.reduceSub, Nat.reduceEqDiff, Nat.reduceLeDiff, reduceCtorEq]; simp only [*]⟩
    · rintro k s hk ⟨hno, h3, h5, h34, h35, h36, hh3⟩
      simp only [Nd.pv, PV.cells, List.map_cons, List.map_nil] at hh3
      simp -implicitDefEqProofs (disch := omega) only [h3, h5, h34, h35, h36, hh3, go_sem, ↓reduceIte, Nat.reduceAdd, Nat.reduceSub, Nat.reduceEqDiff, Nat.reduceLeDiff, reduceCtorEq]
      refine wp_if_d (fun hki => ?_) (fun hge => ?_)
      · have hm : pre[k]? = some pre[k] := List.getElem?_eq_getElem (by omega)
        generalize pre[k] = m at hm
        simp -implicitDefEqProofs (disch := omega) only [h3, h5, h34, h35, h36, hh3, hm, hki, go_sem, ↓reduceIte, Nat.reduceAdd, Nat.reduceSub, Nat.reduceEqDiff, Nat.reduceLeDiff, reduceCtorEq]
        repeat' ((first | refine wp_grn_d (fun hb => ?_) (fun hb => ?_) | refine wp_gtn_d (fun hb => ?_) (fun hb => ?_) | refine wp_gr_d (fun hb => ?_) (fun hb => ?_) | refine wp_gt_d (fun hb => ?_) (fun hb => ?_) | refine wp_gr (fun hb => ?_) (fun hb => ?_) | refine wp_gt (fun hb => ?_) (fun hb => ?_) | refine wp_nt_d (fun hb => ?_) (fun hb => ?_) | refine wp_nt (fun hb => ?_) (fun hb => ?_) | refine wp_if_d (fun hb => ?_) (fun hb => ?_) | refine wp_if (fun hb => ?_) (fun hb => ?_)) <;> simp -implicitDefEqProofs (disch := omega) only [hb, h3, h5, h34, h35, h36, hh3, hm, hki, go_sem, ↓reduceIte, Nat.reduceAdd, Nat.reduceSub, Nat.reduceEqDiff, Nat.reduceLeDiff, reduceCtorEq])
        all_goals first
          | (have ha : (pre.any fun x => decide (x.parent = n.parent ∧ x.name = n.name)) = true := by
              rw [List.any_eq_true]
              exact ⟨m, List.mem_of_getElem? hm, by simp [*]⟩
             simp only [fineB, ha, Bool.not_true, Bool.and_false, Bool.false_and]
             done)
          | exact ⟨by rw [any_take hm, hno]; simp [*], by rw [any_take hm]; simp [*], by simp only [Int.natCast_add, Int.natCast_one]⟩
      · simp -implicitDefEqProofs (disch := omega) only [h3, h5, h34, h35, h36, hh3, hge, go_sem, ↓reduceIte, Nat.reduceAdd, Nat.reduceSub, Nat.reduceEqDiff, Nat.reduceLeDiff, reduceCtorEq]
        have hki : k = pre.length := by omega
        subst hki
        rw [List.take_length] at hno ⊢
        simp only [fineB, hno, Prod.mk.injEq, VVal.p.injEq, PV.bool.injEq, and_true]
        rw [Bool.eq_iff_iff]
        simp only [Bool.and_eq_true, decide_eq_true_eq, Bool.not_false, and_true, true_and]
        exact ⟨fun h => ⟨⟨⟨by omega, hvt⟩, by omega⟩, h⟩, fun h => h.2⟩

theorem fineB_nodeOk {pre : List Nd} {l n : Nd} (hl : pre.getLast? = some l) : nodeOk pre n = (decide (0 ≤ n.control ∧ n.control ≤ 31 ∧ 0 ≤ n.owner ∧ n.owner ≤ 1048576) && fineB pre l n) := by
  rw [Bool.eq_iff_iff]
  simp only [nodeOk, hl, fineB, Bool.and_eq_true, decide_eq_true_eq]
  constructor
  · rintro ⟨⟨h1, h2⟩, ⟨⟨h3, h4⟩, h5⟩, h6⟩
    exact ⟨h2, ⟨⟨⟨h3, h4⟩, h1⟩, h5⟩, h6⟩
  · rintro ⟨h2, ⟨⟨⟨h3, h4⟩, h1⟩, h5⟩, h6⟩
    exact ⟨⟨h1, h2⟩, ⟨⟨h3, h4⟩, h5⟩, h6⟩

/-! ### bits -/

theorem andNot31 {a : Int} (h0 : 0 ≤ a) (h1 : a < 9223372036854775808) : (IntKind.i64.wrap ((BitVec.ofInt IntKind.i64.bits a &&& ~~~ BitVec.ofInt IntKind.i64.bits 31).toNat : Int) = 0) = (a ≤ 31) := by
  have e64 : IntKind.i64.bits = 64 := rfl
  rw [eq_iff_iff]
  generalize hx : BitVec.ofInt IntKind.i64.bits a = x
  generalize hy : (x &&& ~~~ BitVec.ofInt IntKind.i64.bits 31) = y
  have hxn : x.toNat = a.toNat := by
    rw [← hx, BitVec.toNat_ofInt]
    rw [e64]
    omega
  have hbit : ∀ i, y.getLsbD i = (x.getLsbD i && decide (5 ≤ i)) := fun i => by
    rw [← hy, BitVec.getLsbD_and, BitVec.getLsbD_not]
    have h31 : (BitVec.ofInt IntKind.i64.bits 31).getLsbD i = decide (i < 5) := by
      rw [show BitVec.ofInt IntKind.i64.bits 31 = BitVec.ofNat IntKind.i64.bits 31 from rfl, BitVec.getLsbD_ofNat]
      rw [show (31 : Nat) = 2 ^ 5 - 1 from rfl, Nat.testBit_two_pow_sub_one, e64]
      rw [Bool.eq_iff_iff]
      simp
      omega
    rw [h31]
    by_cases hi : i < IntKind.i64.bits
    · rw [Bool.eq_iff_iff]
      simp [hi]
    · have : x.getLsbD i = false := BitVec.getLsbD_of_ge x i (by omega)
      simp [this]
  have hyle : y.toNat ≤ x.toNat := by
    rw [← hy, BitVec.toNat_and]
    exact Nat.and_le_left
  have hw : IntKind.i64.wrap (y.toNat : Int) = y.toNat := wrap64 (by omega) (by omega)
  rw [hw]
  constructor
  · intro h
    have hy0 : y = 0#_ := BitVec.eq_of_toNat_eq (by simpa using h)
    have hlt : x.toNat < 2 ^ 5 := Nat.lt_pow_two_of_testBit _ fun i hi => by
      have := hbit i
      rw [hy0] at this
      simp only [BitVec.getLsbD_zero, decide_eq_true hi, Bool.and_true] at this
      exact this.symm
    omega
  · intro h
    have hlt : x.toNat < 2 ^ 5 := by omega
    have hy0 : y = 0#_ := BitVec.eq_of_getLsbD_eq fun i hi => by
      rw [hbit i]
      by_cases h5 : 5 ≤ i
      · have : x.getLsbD i = false := by
          rw [BitVec.getLsbD]
          exact Nat.testBit_lt_two_pow (Nat.lt_of_lt_of_le hlt (Nat.pow_le_pow_right (by omega) h5))
        simp [this]
      · simp [h5]
    rw [hy0]
    simp

/-! ### depths -/

theorem upR_append_skip {id : Int} : ∀ (a b : List Nd), (∀ x ∈ a, x.id ≠ id) → upR (a ++ b) id = upR b id
  | [], _, _ => rfl
  | x :: a, b, h => by
    rw [List.cons_append, upR, if_neg (h x (List.mem_cons_self ..)), upR_append_skip a b fun y hy => h y (List.mem_cons_of_mem _ hy)]
/-- Above a node behind others. -/
theorem up_snoc_eq (pre : List Nd) (m : Nd) : up (pre ++ [m]) m.id = m.id :: up pre m.parent := by
  unfold up
  rw [List.reverse_append]
  simp only [List.reverse_cons, List.reverse_nil, List.nil_append, List.cons_append, upR, if_true]
theorem up_snoc_ne (pre : List Nd) (m : Nd) {id : Int} (h : m.id ≠ id) : up (pre ++ [m]) id = up pre id := by
  unfold up
  rw [List.reverse_append]
  simp only [List.reverse_cons, List.reverse_nil, List.nil_append, List.cons_append, upR]
  rw [if_neg h]
theorem up_take {ns : List Nd} (hinc : ns.Pairwise fun a b => a.id < b.id) {k : Nat} {n : Nd} (hn : n ∈ ns.take k) : up ns n.id = up (ns.take k) n.id := by
  unfold up
  conv => lhs; rw [← List.take_append_drop k ns, List.reverse_append]
  refine upR_append_skip _ _ fun x hx => ?_
  rw [List.mem_reverse] at hx
  rw [← List.take_append_drop k ns, List.pairwise_append] at hinc
  have := hinc.2.2 n hn x hx
  omega

theorem mget_mput_same : ∀ (ks : List MKey) (vs : List PV) (k : MKey) (v : PV), mget (mput ks vs k v).1 (mput ks vs k v).2 k = some v
  | [], vs, k, v => by cases vs <;> simp [mput, mget]
  | x :: ks, [], k, v => by simp [mput, mget]
  | x :: ks, y :: vs, k, v => by
    unfold mput
    split
    · rename_i h
      simp [mget, h]
    · rename_i h
      simp only [mget, if_neg h]
      exact mget_mput_same ks vs k v
theorem mget_mput_other : ∀ (ks : List MKey) (vs : List PV) (k k' : MKey) (v : PV), ks.length = vs.length → k' ≠ k → mget (mput ks vs k v).1 (mput ks vs k v).2 k' = mget ks vs k'
  | [], [], k, k', v, _, h => by simp [mput, mget, h]
  | [], _ :: _, k, k', v, hl, h => by simp at hl
  | x :: ks, [], k, k', v, hl, h => by simp at hl
  | x :: ks, y :: vs, k, k', v, hl, h => by
    unfold mput
    split
    · rename_i e
      subst e
      simp [mget, h]
    · simp only [mget]
      split
      · rfl
      · exact mget_mput_other ks vs k k' v (by simpa using hl) h
theorem mput_len : ∀ (ks : List MKey) (vs : List PV) (k : MKey) (v : PV), ks.length = vs.length → (mput ks vs k v).1.length = (mput ks vs k v).2.length
  | [], [], _, _, _ => rfl
  | [], _ :: _, _, _, h => by simp at h
  | _ :: _, [], _, _, h => by simp at h
  | x :: ks, y :: vs, k, v, h => by
    unfold mput
    split
    · simpa using h
    · simp only [List.length_cons]
      rw [mput_len ks vs k v (by simpa using h)]

/-- What fits the machine's numbers. -/
structure Nd.Fits (n : Nd) : Prop where
  name : n.name.size < 9223372036854775808
  control : n.control < 9223372036854775808
def Tr.Fits (t : Tr) : Prop := ∀ n ∈ t.nodes, n.Fits

end Go.V

namespace Go.V

theorem treeOk_false_of_node {t : Tr} {k : Nat} {m : Nd} (hm : t.nodes[k]? = some m) (h : nodeOk (t.nodes.take k) m = false) : treeOk t = false := by
  rw [Bool.eq_false_iff]
  intro h0
  have := (nodesOk_iff _ _).1 ((treeOk_iff t).1 h0).nodes k m hm
  rw [List.nil_append, h] at this
  cases this

theorem treeOk_false_of_depth {t : Tr} {k : Nat} {m : Nd} (hm : t.nodes[k]? = some m) (h : 9 < (up (t.nodes.take (k + 1)) m.id).length) : treeOk t = false := by
  rw [Bool.eq_false_iff]
  intro h0
  have hok := (treeOk_iff t).1 h0
  have hin : m ∈ t.nodes.take (k + 1) := by
    have : (t.nodes.take (k + 1))[k]? = some m := by rw [List.getElem?_take, if_pos (by omega)]; exact hm
    exact List.mem_of_getElem? this
  have := hok.depth m (List.mem_of_getElem? hm)
  rw [up_take hok.inc hin] at this
  omega
theorem nodeOk_bad {pre : List Nd} {n : Nd} (h : ¬ (0 ≤ n.control ∧ n.control ≤ 31 ∧ 0 ≤ n.owner ∧ n.owner ≤ 1048576)) : nodeOk pre n = false := by
  simp only [nodeOk, decide_eq_false h, Bool.and_false, Bool.false_and]

theorem take_snoc {α : Type} {l : List α} {k : Nat} {x : α} (h : l[k]? = some x) : l.take (k + 1) = l.take k ++ [x] := by
  rw [List.take_add_one, h]
  rfl

set_option maxHeartbeats 4000000 in
theorem tcheck_eq (t : Tr) (hf : t.Fits) (hl : t.nodes.length < 1000000) : V 55 [t.vv] [] = some (.p (.bool (treeOk t)), []) := by
  refine V_wp (vf := vf55) rfl ?_
  by_cases h1 : (t.nodes.length : Int) < 1
  · simp -implicitDefEqProofs (disch := omega) only [vf55, vb55, h1, go_sem, ↓reduceIte, Nat.reduceAdd, Nat.reduceSub, Nat.reduceEqDiff, Nat.reduceLeDiff, reduceCtorEq]
    simp [treeOk, show ¬ 1 ≤ t.nodes.length by omega]
  by_cases h2 : 64 < (t.nodes.length : Int)
  · simp -implicitDefEqProofs (disch := omega) only [vf55, vb55, h1, h2, go_sem, ↓reduceIte, Nat.reduceAdd, Nat.reduceSub, Nat.reduceEqDiff, Nat.reduceLeDiff, reduceCtorEq]
    simp [treeOk, show ¬ t.nodes.length ≤ 64 by omega]
  have hz : (0 : Int).toNat = 0 := rfl
  have hr0 : t.nodes[0]? = some t.nodes[0] := List.getElem?_eq_getElem (by omega)
  generalize t.nodes[0] = r at hr0
  have hroot := troot_eq r
  by_cases hr : ¬ (r.id = 1 ∧ r.parent = 0 ∧ r.name = ⟨#[]⟩ ∧ r.kind = 0)
  · rw [decide_eq_false hr] at hroot
    unfold Nd.vv at hroot
    simp -implicitDefEqProofs (disch := omega) only [vf55, vb55, h1, h2, hz, hr0, hroot, go_sem, ↓reduceIte, Nat.reduceAdd, Nat.reduceSub, Nat.reduceEqDiff, Nat.reduceLeDiff, reduceCtorEq]
    rw [treeOk_false_of_node hr0]
    rw [Bool.eq_false_iff]
    intro h0
    exact hr (nodeOk_nil (by simpa using h0))
  have hr := Classical.not_not.1 hr
  rw [decide_eq_true hr] at hroot
  unfold Nd.vv at hroot
  simp -implicitDefEqProofs (disch := omega) only [vf55, vb55, h1, h2, hz, hr0, hroot, go_sem, ↓reduceIte, Nat.reduceAdd, Nat.reduceSub, Nat.reduceEqDiff, Nat.reduceLeDiff, reduceCtorEq]
  refine wp_count t.nodes.length (fun k s => ∃ (ks : List MKey) (vs : List PV), ks.length = vs.length ∧ (k = 0 → ks = [] ∧ vs = []) ∧ (∀ (i : Nat) (n : Nd), i < k → t.nodes[i]? = some n → (mget ks vs (.int n.id)).getD (.int .i64 0) = .int .i64 (((up (t.nodes.take k) n.id).length : Int) - 1)) ∧
    (∀ (i : Nat) (n : Nd), i < k → t.nodes[i]? = some n → nodeOk (t.nodes.take i) n = true) ∧ (∀ (i : Nat) (n : Nd), i < k → t.nodes[i]? = some n → (up (t.nodes.take k) n.id).length ≤ 9) ∧ s.pe 1 = .ptr (.slot 1 0) 0 0 ∧ s.pe 3 = .mref (.slot 24 0) 0 ∧ s.pe 26 = .p (nodesP t.nodes) ∧ s.pe 27 = .p (.int .i64 t.nodes.length) ∧ s.pe 28 = .p (.int .i64 k) ∧
    s.h (.slot 1 0) = some (0, .box [.p (nodesP t.nodes), .p (.int .i64 t.next)]) ∧ s.h (.slot 24 0) = some (0, .map (.int .i64) ks vs)) ?_ ?_
  · refine ⟨[], [], rfl, fun _ => ⟨rfl, rfl⟩, by omega, by omega, by omega, ?_⟩
    simp -implicitDefEqProofs (disch := omega) only [go_sem, ↓reduceIte, Nat.reduceAdd, Nat.reduceSub, Nat.reduceEqDiff, Nat.reduceLeDiff, reduceCtorEq]
    rfl
  · rintro k s hk ⟨ks, vs, hkl, hk0, hdep, hnok, hup, p1, p3, p26, p27, p28, hh1, hh24⟩
    simp -implicitDefEqProofs (disch := omega) only [p1, p3, p26, p27, p28, hh1, hh24, go_sem, ↓reduceIte, Nat.reduceAdd, Nat.reduceSub, Nat.reduceEqDiff, Nat.reduceLeDiff, reduceCtorEq]
    refine wp_if_d (fun hlt => ?_) (fun hge => ?_)
    · have hm : t.nodes[k]? = some t.nodes[k] := List.getElem?_eq_getElem hlt
      generalize t.nodes[k] = m at hm
      have hfit := hf m (List.mem_of_getElem? hm)
      have hctl := hfit.control
      by_cases hbad : 0 ≤ m.control ∧ m.control ≤ 31 ∧ 0 ≤ m.owner ∧ m.owner ≤ 1048576
      · have c1 : ¬ m.control < 0 := by omega
        have c2 : m.control ≤ 31 := by omega
        have c3 : ¬ m.owner < 0 := by omega
        have c4 : ¬ 1048576 < m.owner := by omega
        have hbits := andNot31 hbad.1 hctl
        by_cases hkp : 0 < (k : Int)
        · obtain ⟨l, hlast⟩ : ∃ l, (t.nodes.take k).getLast? = some l := by
            cases hq : (t.nodes.take k).getLast? with
            | none =>
              rw [List.getLast?_eq_none_iff] at hq
              have := congrArg List.length hq
              rw [List.length_take, List.length_nil] at this
              omega
            | some l => exact ⟨l, rfl⟩
          have hfine := tfine_eq (t.nodes.take k) l m hlast (by simp; omega) hfit.name
          unfold Nd.vv nodesP at hfine
          have hle : k ≤ t.nodes.length := hk
          cases hfb : fineB (t.nodes.take k) l m with
          | false =>
            rw [hfb] at hfine
            simp -implicitDefEqProofs (disch := omega) only [p1, p3, p26, p27, p28, hh1, hh24, hm, hbits, c1, c2, c3, c4, hkp, hle, Nat.sub_zero, ← List.map_take, hfine, go_sem, ↓reduceIte, Nat.reduceAdd, Nat.reduceSub, Nat.reduceEqDiff, Nat.reduceLeDiff, reduceCtorEq]
            rw [treeOk_false_of_node hm]
            rw [fineB_nodeOk hlast, hfb, Bool.and_false]
          | true =>
            rw [hfb] at hfine
            have hno : nodeOk (t.nodes.take k) m = true := by rw [fineB_nodeOk hlast, hfb, decide_eq_true hbad]; rfl
            obtain ⟨b1, b2, b3, b4, pn, hpn, hpe⟩ := (nodeOk_some hlast).1 hno
            obtain ⟨pi, hpi⟩ := List.getElem?_of_mem hpn
            have hpik : pi < k := by
              have := (List.getElem?_eq_some_iff.1 hpi).1
              simp at this
              omega
            rw [List.getElem?_take, if_pos hpik] at hpi
            have hd := hdep pi pn hpik hpi
            rw [hpe] at hd
            have hul := hup pi pn hpik hpi
            rw [hpe] at hul
            simp -implicitDefEqProofs (disch := omega) only [p1, p3, p26, p27, p28, hh1, hh24, hm, hbits, c1, c2, c3, c4, hkp, hle, Nat.sub_zero, ← List.map_take, hfine, hd, mget_mput_same, Option.getD_some, go_sem, ↓reduceIte, Nat.reduceAdd, Nat.reduceSub, Nat.reduceEqDiff, Nat.reduceLeDiff, reduceCtorEq]
            have htk : t.nodes.take (k + 1) = t.nodes.take k ++ [m] := take_snoc hm
            have hum : up (t.nodes.take (k + 1)) m.id = m.id :: up (t.nodes.take k) m.parent := by rw [htk]; exact up_snoc_eq _ _
            have hltm : ∀ (i : Nat) (n : Nd), i < k → t.nodes[i]? = some n → n.id < m.id := fun i n hi hn => by
              have hno' : nodesOk [] (t.nodes.take (k + 1)) = true := (nodesOk_iff _ _).2 fun j x hx => by
                have hjl := (List.getElem?_eq_some_iff.1 hx).1
                simp at hjl
                rw [List.getElem?_take, if_pos (by omega)] at hx
                rw [List.nil_append, List.take_take, Nat.min_eq_left (by omega)]
                rcases Nat.lt_or_ge j k with h0 | h0
                · exact hnok j x h0 hx
                · have : j = k := by omega
                  subst this
                  rw [hm] at hx
                  simp at hx
                  subst hx
                  exact hno
              have hinc := (ids_lt _ _ hno' (fun _ h => by simp at h)).2
              rw [htk, List.pairwise_append] at hinc
              refine hinc.2.2 n ?_ m (by simp)
              have : (t.nodes.take k)[i]? = some n := by rw [List.getElem?_take, if_pos hi]; exact hn
              exact List.mem_of_getElem? this
            have hun : ∀ (i : Nat) (n : Nd), i < k → t.nodes[i]? = some n → up (t.nodes.take (k + 1)) n.id = up (t.nodes.take k) n.id := fun i n hi hn => by
              rw [htk]
              exact up_snoc_ne _ _ (by have := hltm i n hi hn; omega)
            refine wp_if_d (fun hdeep => ?_) (fun hshal => ?_)
            · simp -implicitDefEqProofs (disch := omega) only [p1, p3, p26, p27, p28, hh1, hh24, go_sem, ↓reduceIte, Nat.reduceAdd, Nat.reduceSub, Nat.reduceEqDiff, Nat.reduceLeDiff, reduceCtorEq]
              rw [treeOk_false_of_depth hm]
              rw [hum, List.length_cons]
              omega
            · simp -implicitDefEqProofs (disch := omega) only [p1, p3, p26, p27, p28, hh1, hh24, go_sem, ↓reduceIte, Nat.reduceAdd, Nat.reduceSub, Nat.reduceEqDiff, Nat.reduceLeDiff, reduceCtorEq]
              refine ⟨hlt, (mput ks vs (.int m.id) (.int .i64 (((up (t.nodes.take k) m.parent).length : Int) - 1 + 1))).1, (mput ks vs (.int m.id) (.int .i64 (((up (t.nodes.take k) m.parent).length : Int) - 1 + 1))).2, mput_len _ _ _ _ hkl, fun h => h.elim, lt_succ_cases hm (fun i n hi hn => ?_) ?_, lt_succ_cases hm hnok hno, lt_succ_cases hm (fun i n hi hn => ?_) ?_, ?_, rfl⟩
              · rw [hun i n hi hn, mget_mput_other _ _ _ _ _ hkl (by have := hltm i n hi hn; simp; omega)]
                exact hdep i n hi hn
              · rw [mget_mput_same, hum]
                simp
              · rw [hun i n hi hn]
                exact hup i n hi hn
              · rw [hum, List.length_cons]
                omega
              · simp only [Int.natCast_add, Int.natCast_one]
        · have hk0' : k = 0 := by omega
          subst hk0'
          obtain ⟨rfl, rfl⟩ := hk0 rfl
          rw [hm] at hr0
          simp only [Option.some.injEq] at hr0
          subst hr0
          have hg : (mget [] [] (.int m.id)).getD (.int .i64 0) = .int .i64 0 := rfl
          have h80 : ¬ (8 : Int) < 0 := by omega
          simp -implicitDefEqProofs (disch := omega) only [p1, p3, p26, p27, p28, hh1, hh24, hm, hbits, c1, c2, c3, c4, hkp, hg, h80, go_sem, ↓reduceIte, Nat.reduceAdd, Nat.reduceSub, Nat.reduceEqDiff, Nat.reduceLeDiff, reduceCtorEq]
          have htk : t.nodes.take (0 + 1) = [m] := take_snoc hm
          have hum : up (t.nodes.take (0 + 1)) m.id = [m.id] := by rw [htk]; simp [up, upR]
          refine ⟨hlt, [], [], rfl, fun h => h.elim, lt_succ_cases hm (fun i n hi => absurd hi (by omega)) ?_, lt_succ_cases hm (fun i n hi => absurd hi (by omega)) ?_, lt_succ_cases hm (fun i n hi => absurd hi (by omega)) ?_, rfl, rfl⟩
          · rw [hum]
            rfl
          · simp only [nodeOk, List.take_zero, List.getLast?_nil, decide_eq_true hr, decide_eq_true hbad, Bool.and_true, decide_eq_true_eq]
            exact .inl hr.2.2.2
          · rw [hum]
            simp
      · simp -implicitDefEqProofs (disch := omega) only [p1, p3, p26, p27, p28, hh1, hh24, hm, go_sem, ↓reduceIte, Nat.reduceAdd, Nat.reduceSub, Nat.reduceEqDiff, Nat.reduceLeDiff, reduceCtorEq]
        repeat' ((first | refine wp_grn_d (fun hb => ?_) (fun hb => ?_) | refine wp_gtn_d (fun hb => ?_) (fun hb => ?_) | refine wp_gr_d (fun hb => ?_) (fun hb => ?_) | refine wp_gt_d (fun hb => ?_) (fun hb => ?_) | refine wp_gr (fun hb => ?_) (fun hb => ?_) | refine wp_gt (fun hb => ?_) (fun hb => ?_) | refine wp_nt_d (fun hb => ?_) (fun hb => ?_) | refine wp_nt (fun hb => ?_) (fun hb => ?_) | refine wp_if_d (fun hb => ?_) (fun hb => ?_) | refine wp_if (fun hb => ?_) (fun hb => ?_)) <;> simp -implicitDefEqProofs (disch := omega) only [hb, p1, p3, p26, p27, p28, hh1, hh24, hm, andNot31, go_sem, ↓reduceIte, Nat.reduceAdd, Nat.reduceSub, Nat.reduceEqDiff, Nat.reduceLeDiff, reduceCtorEq])
        all_goals first
          | (exfalso; omega)
          | (rw [treeOk_false_of_node hm (nodeOk_bad hbad)])
    · have hke : k = t.nodes.length := by omega
      subst hke
      rw [List.take_length] at hup
      have hla : t.nodes[((t.nodes.length : Int) - 1).toNat]? = some t.nodes[t.nodes.length - 1] := by
        rw [show ((t.nodes.length : Int) - 1).toNat = t.nodes.length - 1 by omega]
        exact List.getElem?_eq_getElem (by omega)
      have hlast : t.nodes.getLast? = some t.nodes[t.nodes.length - 1] := by
        rw [List.getLast?_eq_getElem?]
        exact List.getElem?_eq_getElem (by omega)
      generalize t.nodes[t.nodes.length - 1] = l at hla hlast
      have hok : nodesOk [] t.nodes = true := (nodesOk_iff _ _).2 fun i n hn => by simpa using hnok i n (List.getElem?_eq_some_iff.1 hn).1 hn
      have hk2 : t.nodes.all (fun n => decide ((up t.nodes n.id).length ≤ 9)) = true := by
        rw [List.all_eq_true]
        intro n hn
        obtain ⟨i, hi⟩ := List.getElem?_of_mem hn
        simpa using hup i n (List.getElem?_eq_some_iff.1 hi).1 hi
      have hp0 : 0 ≤ (t.nodes.length : Int) - 1 := by omega
      simp -implicitDefEqProofs (disch := omega) only [p1, p3, p26, p27, p28, hh1, hh24, hge, hla, hp0, go_sem, ↓reduceIte, Nat.reduceAdd, Nat.reduceSub, Nat.reduceEqDiff, Nat.reduceLeDiff, reduceCtorEq]
      repeat' ((first | refine wp_grn_d (fun hb => ?_) (fun hb => ?_) | refine wp_gtn_d (fun hb => ?_) (fun hb => ?_) | refine wp_gr_d (fun hb => ?_) (fun hb => ?_) | refine wp_gt_d (fun hb => ?_) (fun hb => ?_) | refine wp_gr (fun hb => ?_) (fun hb => ?_) | refine wp_gt (fun hb => ?_) (fun hb => ?_) | refine wp_nt_d (fun hb => ?_) (fun hb => ?_) | refine wp_nt (fun hb => ?_) (fun hb => ?_) | refine wp_if_d (fun hb => ?_) (fun hb => ?_) | refine wp_if (fun hb => ?_) (fun hb => ?_)) <;> simp -implicitDefEqProofs (disch := omega) only [hb, p1, p3, p26, p27, p28, hh1, hh24, hla, go_sem, ↓reduceIte, Nat.reduceAdd, Nat.reduceSub, Nat.reduceEqDiff, Nat.reduceLeDiff, reduceCtorEq])
      all_goals
        simp only [treeOk, hok, hk2, hlast, show (1 ≤ t.nodes.length ∧ t.nodes.length ≤ 64) by omega, Prod.mk.injEq, VVal.p.injEq, PV.bool.injEq, and_true, decide_true, Bool.true_and]
        rw [Bool.eq_iff_iff]
        simp only [decide_eq_true_eq, Bool.false_eq_true, false_iff]
        omega
end Go.V

namespace Go.V

/-! ### ways up -/

theorem findN_unique {ns : List Nd} (hinc : ns.Pairwise fun a b => a.id < b.id) {i : Nat} {n : Nd} (hn : ns[i]? = some n) : findN ns n.id = some n := by
  unfold findN
  refine find_take_none (k := i) (fun j m hj hm => ?_) hn (by simp)
  have hl := (List.getElem?_eq_some_iff.1 hn).1
  have := List.pairwise_iff_getElem.1 hinc j i (by omega) hl hj
  rw [(List.getElem?_eq_some_iff.1 hm).2, (List.getElem?_eq_some_iff.1 hn).2] at this
  simp
  omega

theorem TreeOk.pos {t : Tr} (h : TreeOk t) : ∀ n ∈ t.nodes, 1 ≤ n.id := nodesOk_pos t.nodes [] (by simp) h.nodes
theorem TreeOk.find0 {t : Tr} (h : TreeOk t) : findN t.nodes 0 = none := by
  unfold findN
  rw [List.find?_eq_none]
  intro n hn
  have := h.pos n hn
  simp
  omega
theorem TreeOk.nodeAt {t : Tr} (h : TreeOk t) {i : Nat} {n : Nd} (hn : t.nodes[i]? = some n) : (i = 0 ∧ n.id = 1 ∧ n.parent = 0) ∨ (0 < i ∧ 1 < n.id ∧ ∃ j p, j < i ∧ t.nodes[j]? = some p ∧ p.id = n.parent) := by
  have hok := (nodesOk_iff _ _).1 h.nodes i n hn
  rw [List.nil_append] at hok
  rcases Nat.eq_zero_or_pos i with rfl | hi
  · left
    rw [List.take_zero] at hok
    have := nodeOk_nil hok
    exact ⟨rfl, this.1, this.2.1⟩
  · right
    have hlt := (List.getElem?_eq_some_iff.1 hn).1
    cases hl : (t.nodes.take i).getLast? with
    | none =>
      rw [List.getLast?_eq_none_iff] at hl
      have := congrArg List.length hl
      rw [List.length_take, List.length_nil] at this
      omega
    | some l =>
      obtain ⟨_, h2, _, _, p, hp, he⟩ := (nodeOk_some hl).1 hok
      have h1 := h.pos l (List.mem_of_mem_take (List.mem_of_getLast? hl))
      obtain ⟨j, hj⟩ := List.getElem?_of_mem hp
      have hjl := (List.getElem?_eq_some_iff.1 hj).1
      simp at hjl
      rw [List.getElem?_take, if_pos (by omega)] at hj
      exact ⟨hi, by omega, j, p, by omega, hj, he⟩

/-- The way up of a group, one step. -/
theorem ancF_step {t : Tr} (h : TreeOk t) : ∀ (i : Nat) (n : Nd), t.nodes[i]? = some n → ∀ k k', i < k → i < k' → ancF t.nodes k n.id = ancF t.nodes k' n.id := by
  intro i
  induction i using Nat.strongRecOn with
  | _ i ih =>
    intro n hn k k' hk hk'
    obtain ⟨k, rfl⟩ : ∃ m, k = m + 1 := ⟨k - 1, by omega⟩
    obtain ⟨k', rfl⟩ : ∃ m, k' = m + 1 := ⟨k' - 1, by omega⟩
    have hf := findN_unique h.inc hn
    simp only [ancF, hf]
    congr 1
    rcases h.nodeAt hn with ⟨rfl, _, h0⟩ | ⟨hi, _, j, p, hj, hp, he⟩
    · rw [h0]
      have hz : ∀ m, ancF t.nodes m 0 = [] := fun m => by
        cases m with
        | zero => rfl
        | succ m => simp only [ancF, h.find0]
      rw [hz, hz]
    · rw [← he]
      exact ih j hj p hp k k' (by omega) (by omega)
theorem ancF_cons {t : Tr} (h : TreeOk t) {i : Nat} {n : Nd} (hn : t.nodes[i]? = some n) : ancF t.nodes t.nodes.length n.id = n.id :: (if i = 0 then [] else ancF t.nodes t.nodes.length n.parent) := by
  have hlt := (List.getElem?_eq_some_iff.1 hn).1
  obtain ⟨k, hk⟩ : ∃ m, t.nodes.length = m + 1 := ⟨t.nodes.length - 1, by omega⟩
  rw [hk]
  have hf := findN_unique h.inc hn
  conv => lhs; simp only [ancF, hf]
  congr 1
  rcases h.nodeAt hn with ⟨rfl, _, h0⟩ | ⟨hi, _, j, p, hj, hp, he⟩
  · rw [h0, if_pos rfl]
    cases k with
    | zero => rfl
    | succ m => simp only [ancF, h.find0]
  · rw [if_neg (by omega), ← he]
    exact ancF_step h j p hp _ _ (by omega) (by omega)

/-! ### least values -/

theorem TreeOk.fits {t : Tr} (h : TreeOk t) : t.Fits := by
  intro n hn
  obtain ⟨i, hi⟩ := List.getElem?_of_mem hn
  have hok := (nodesOk_iff _ _).1 h.nodes i n hi
  rw [List.nil_append] at hok
  unfold nodeOk at hok
  simp only [Bool.and_eq_true, decide_eq_true_eq] at hok
  refine ⟨?_, by omega⟩
  have h2 := hok.2
  split at h2
  · simp only [decide_eq_true_eq] at h2
    rw [h2.2.2.1]
    decide
  · simp only [Bool.and_eq_true] at h2
    have hv := h2.1.1.2
    simp only [validN, Bool.and_eq_true, decide_eq_true_eq] at hv
    omega


end Go.V

namespace Go.V

theorem TreeOk.idx {t : Tr} (h : TreeOk t) {i j : Nat} {n m : Nd} (hn : t.nodes[i]? = some n) (hm : t.nodes[j]? = some m) (he : n.id = m.id) : i = j ∧ n = m := by
  obtain ⟨hi, rfl⟩ := List.getElem?_eq_some_iff.1 hn
  obtain ⟨hj, rfl⟩ := List.getElem?_eq_some_iff.1 hm
  have hp := List.pairwise_iff_getElem.1 h.inc
  rcases Nat.lt_trichotomy i j with hlt | rfl | hlt
  · have := hp i j hi hj hlt; omega
  · exact ⟨rfl, rfl⟩
  · have := hp j i hj hi hlt; omega

/-- The ancestors of a node, one step. -/
theorem anc_iff {t : Tr} (h : TreeOk t) {i : Nat} {n : Nd} (hn : t.nodes[i]? = some n) (c : Int) : c ∈ ancF t.nodes t.nodes.length n.id ↔ c = n.id ∨ (i ≠ 0 ∧ c ∈ ancF t.nodes t.nodes.length n.parent) := by
  rw [ancF_cons h hn]
  by_cases hi : i = 0
  · simp [hi]
  · simp [hi]

theorem TreeOk.kid {t : Tr} (h : TreeOk t) {i j : Nat} {n m : Nd} (hn : t.nodes[i]? = some n) (hm : t.nodes[j]? = some m) (hp : m.parent = n.id) : i < j := by
  rcases h.nodeAt hm with ⟨_, _, h0⟩ | ⟨_, _, k, p, hk, hpk, hpe⟩
  · have := h.pos n (List.mem_of_getElem? hn); omega
  · have := (h.idx hpk hn (by omega)).1; omega

theorem anc_le {t : Tr} (h : TreeOk t) : ∀ (i : Nat) (n : Nd), t.nodes[i]? = some n → ∀ c ∈ ancF t.nodes t.nodes.length n.id, ∃ j m, j ≤ i ∧ t.nodes[j]? = some m ∧ m.id = c := by
  intro i
  induction i using Nat.strongRecOn with
  | _ i ih =>
    intro n hn c hc
    rcases (anc_iff h hn c).1 hc with rfl | ⟨h0, hc⟩
    · exact ⟨i, n, Nat.le_refl _, hn, rfl⟩
    · rcases h.nodeAt hn with ⟨h1, _⟩ | ⟨_, _, k, p, hk, hpk, hpe⟩
      · contradiction
      · rw [← hpe] at hc
        obtain ⟨j, m, hj, hm, he⟩ := ih k hk p hpk c hc
        exact ⟨j, m, by omega, hm, he⟩

theorem anc_self {t : Tr} (h : TreeOk t) {i : Nat} {n : Nd} (hn : t.nodes[i]? = some n) : n.id ∈ ancF t.nodes t.nodes.length n.id := (anc_iff h hn _).2 (Or.inl rfl)

theorem anc_parent {t : Tr} (h : TreeOk t) {k : Nat} {c : Nd} (hc : t.nodes[k]? = some c) (hk : k ≠ 0) : ∀ (i : Nat) (n : Nd), t.nodes[i]? = some n → c.id ∈ ancF t.nodes t.nodes.length n.id → c.parent ∈ ancF t.nodes t.nodes.length n.id := by
  intro i
  induction i using Nat.strongRecOn with
  | _ i ih =>
    intro n hn hm
    rcases (anc_iff h hn c.id).1 hm with he | ⟨h0, hm⟩
    · obtain ⟨rfl, rfl⟩ := h.idx hc hn he
      rcases h.nodeAt hn with ⟨h1, _⟩ | ⟨_, _, j, p, hj, hp, hpe⟩
      · contradiction
      · refine (anc_iff h hn _).2 (Or.inr ⟨hk, ?_⟩)
        rw [← hpe]
        exact anc_self h hp
    · refine (anc_iff h hn _).2 (Or.inr ⟨h0, ?_⟩)
      rcases h.nodeAt hn with ⟨h1, _⟩ | ⟨_, _, j, p, hj, hp, hpe⟩
      · contradiction
      · rw [← hpe] at hm ⊢
        exact ih j hj p hp hm

theorem anc_child {t : Tr} (h : TreeOk t) {c : Int} : ∀ (i : Nat) (n : Nd), t.nodes[i]? = some n → c ∈ ancF t.nodes t.nodes.length n.id → c ≠ n.id → ∃ (j : Nat) (m : Nd), t.nodes[j]? = some m ∧ m.parent = c ∧ m.id ∈ ancF t.nodes t.nodes.length n.id := by
  intro i
  induction i using Nat.strongRecOn with
  | _ i ih =>
    intro n hn hm hne
    rcases (anc_iff h hn c).1 hm with he | ⟨h0, hm⟩
    · contradiction
    · rcases h.nodeAt hn with ⟨h1, _⟩ | ⟨_, _, j, p, hj, hp, hpe⟩
      · contradiction
      · by_cases hcp : c = n.parent
        · exact ⟨i, n, hn, hcp.symm, anc_self h hn⟩
        · rw [← hpe] at hm
          obtain ⟨k, m, hk, hmp, hma⟩ := ih j hj p hp hm (by omega)
          rw [hpe] at hma
          exact ⟨k, m, hk, hmp, (anc_iff h hn _).2 (Or.inr ⟨h0, hma⟩)⟩

def kidsN (ns : List Nd) (id : Int) : List Int := (ns.filter fun n => decide (n.parent = id)).map (·.id)
def subF (ns : List Nd) : Nat → Int → List Int
  | 0, _ => []
  | k + 1, id => id :: (kidsN ns id).flatMap (subF ns k)

theorem mem_kidsN {ns : List Nd} {id x : Int} : x ∈ kidsN ns id ↔ ∃ (j : Nat) (m : Nd), ns[j]? = some m ∧ m.parent = id ∧ m.id = x := by
  simp only [kidsN, List.mem_map, List.mem_filter, decide_eq_true_eq]
  constructor
  · rintro ⟨m, ⟨hm, hp⟩, he⟩
    obtain ⟨j, hj⟩ := List.getElem?_of_mem hm
    exact ⟨j, m, hj, hp, he⟩
  · rintro ⟨j, m, hj, hp, he⟩
    exact ⟨m, ⟨List.mem_of_getElem? hj, hp⟩, he⟩

/-- The subtree: the groups that have the group among their ancestors. -/
theorem mem_subF {t : Tr} (h : TreeOk t) : ∀ (k i : Nat) (n : Nd), t.nodes[i]? = some n → t.nodes.length ≤ i + k → ∀ x, x ∈ subF t.nodes k n.id ↔ ∃ (j : Nat) (m : Nd), t.nodes[j]? = some m ∧ m.id = x ∧ n.id ∈ ancF t.nodes t.nodes.length m.id := by
  intro k
  induction k with
  | zero => intro i n hn hk; have := (List.getElem?_eq_some_iff.1 hn).1; omega
  | succ k ih =>
    intro i n hn hk x
    simp only [subF, List.mem_cons, List.mem_flatMap]
    constructor
    · rintro (rfl | ⟨c, hc, hx⟩)
      · exact ⟨i, n, hn, rfl, anc_self h hn⟩
      · obtain ⟨j, m, hj, hp, rfl⟩ := mem_kidsN.1 hc
        have hij := h.kid hn hj hp
        obtain ⟨q, y, hq, hy, hm⟩ := (ih j m hj (by omega) x).1 hx
        refine ⟨q, y, hq, hy, ?_⟩
        rw [← hp]
        exact anc_parent h hj (by omega) q y hq hm
    · rintro ⟨j, m, hj, rfl, hm⟩
      by_cases he : n.id = m.id
      · exact Or.inl he.symm
      · obtain ⟨q, y, hq, hy, hm'⟩ := anc_child h j m hj hm he
        have hiq := h.kid hn hq hy
        exact Or.inr ⟨y.id, mem_kidsN.2 ⟨q, y, hq, hy, rfl⟩, (ih q y hq (by omega) _).2 ⟨j, m, hj, rfl, hm'⟩⟩

theorem nodup_ids {t : Tr} (h : TreeOk t) : (t.nodes.map (·.id)).Nodup := by
  rw [List.Nodup, List.pairwise_map]
  exact List.Pairwise.imp_of_mem (fun _ _ hab => by omega) h.inc
theorem nodup_kidsN {t : Tr} (h : TreeOk t) (id : Int) : (kidsN t.nodes id).Nodup := by
  rw [kidsN, List.Nodup, List.pairwise_map]
  exact List.Pairwise.imp_of_mem (fun _ _ hab => by omega) (h.inc.filter _)

theorem nodup_subF {t : Tr} (h : TreeOk t) : ∀ (k i : Nat) (n : Nd), t.nodes[i]? = some n → t.nodes.length ≤ i + k → (subF t.nodes k n.id).Nodup := by
  intro k
  induction k with
  | zero => intro i n hn hk; have := (List.getElem?_eq_some_iff.1 hn).1; omega
  | succ k ih =>
    intro i n hn hk
    simp only [subF, List.nodup_cons]
    constructor
    · intro hx
      obtain ⟨c, hc, hx⟩ := List.mem_flatMap.1 hx
      obtain ⟨j, m, hj, hp, rfl⟩ := mem_kidsN.1 hc
      have hij := h.kid hn hj hp
      obtain ⟨q, y, hq, hy, hm⟩ := (mem_subF h k j m hj (by omega) n.id).1 hx
      obtain ⟨q', y', hle, hq', hy'⟩ := anc_le h q y hq m.id hm
      have h1 := (h.idx hq hn hy).1
      have h2 := (h.idx hq' hj hy').1
      omega
    · rw [List.Nodup, List.pairwise_flatMap]
      constructor
      · intro c hc
        obtain ⟨j, m, hj, hp, rfl⟩ := mem_kidsN.1 hc
        have hij := h.kid hn hj hp
        exact ih j m hj (by omega)
      · have hnd := nodup_kidsN h n.id
        refine List.Pairwise.imp_of_mem ?_ hnd
        intro c1 c2 hc1 hc2 hne x hx1 y hy2 hxy
        subst hxy
        obtain ⟨j1, m1, hj1, hp1, rfl⟩ := mem_kidsN.1 hc1
        obtain ⟨j2, m2, hj2, hp2, rfl⟩ := mem_kidsN.1 hc2
        have hij1 := h.kid hn hj1 hp1
        have hij2 := h.kid hn hj2 hp2
        obtain ⟨q, z, hq, hz, hm1⟩ := (mem_subF h k j1 m1 hj1 (by omega) x).1 hx1
        obtain ⟨q', z', hq', hz', hm2⟩ := (mem_subF h k j2 m2 hj2 (by omega) x).1 hy2
        obtain ⟨rfl, rfl⟩ := h.idx hq hq' (by omega)
        exact hne (sib h hn hj1 hj2 hp1 hp2 q z hq hm1 hm2)
where
  sib {t : Tr} (h : TreeOk t) {i j1 j2 : Nat} {n m1 m2 : Nd} (hn : t.nodes[i]? = some n) (hj1 : t.nodes[j1]? = some m1) (hj2 : t.nodes[j2]? = some m2) (hp1 : m1.parent = n.id) (hp2 : m2.parent = n.id) : ∀ (q : Nat) (z : Nd), t.nodes[q]? = some z → m1.id ∈ ancF t.nodes t.nodes.length z.id → m2.id ∈ ancF t.nodes t.nodes.length z.id → m1.id = m2.id := by
    intro q
    induction q using Nat.strongRecOn with
    | _ q ih =>
      intro z hz h1 h2
      have hij1 := h.kid hn hj1 hp1
      have hij2 := h.kid hn hj2 hp2
      rcases (anc_iff h hz _).1 h1 with e1 | ⟨h0, h1'⟩
      · rcases (anc_iff h hz _).1 h2 with e2 | ⟨_, h2'⟩
        · omega
        · obtain ⟨rfl, rfl⟩ := h.idx hj1 hz e1
          rw [hp1] at h2'
          obtain ⟨j, m, hle, hj, he⟩ := anc_le h i n hn _ h2'
          have := (h.idx hj hj2 he).1
          omega
      · rcases (anc_iff h hz _).1 h2 with e2 | ⟨_, h2'⟩
        · obtain ⟨rfl, rfl⟩ := h.idx hj2 hz e2
          rw [hp2] at h1'
          obtain ⟨j, m, hle, hj, he⟩ := anc_le h i n hn _ h1'
          have := (h.idx hj hj1 he).1
          omega
        · rcases h.nodeAt hz with ⟨hh, _⟩ | ⟨_, _, j, p, hj, hp, hpe⟩
          · contradiction
          · rw [← hpe] at h1' h2'
            exact ih j hj p hp h1' h2'

theorem nodup_length_le : ∀ (l m : List Int), l.Nodup → (∀ x ∈ l, x ∈ m) → l.length ≤ m.length
  | [], _, _, _ => Nat.zero_le _
  | x :: l, m, hn, hs => by
    rw [List.nodup_cons] at hn
    have hx : x ∈ m := hs x (List.mem_cons_self ..)
    have := nodup_length_le l (m.erase x) hn.2 fun y hy => (List.mem_erase_of_ne (fun e => hn.1 (by rw [← e]; exact hy))).2 (hs y (List.mem_cons_of_mem _ hy))
    rw [List.length_erase_of_mem hx] at this
    have := List.length_pos_of_mem hx
    simp only [List.length_cons]
    omega

theorem subF_length {t : Tr} (h : TreeOk t) {k i : Nat} {n : Nd} (hn : t.nodes[i]? = some n) (hk : t.nodes.length ≤ i + k) : (subF t.nodes k n.id).length ≤ t.nodes.length := by
  have := nodup_length_le _ (t.nodes.map (·.id)) (nodup_subF h k i n hn hk) fun x hx => by
    obtain ⟨j, m, hj, rfl, _⟩ := (mem_subF h k i n hn hk x).1 hx
    exact List.mem_map.2 ⟨m, List.mem_of_getElem? hj, rfl⟩
  simpa using this

theorem flatMap_congr_mem {α β : Type} {f g : α → List β} : ∀ {l : List α}, (∀ a ∈ l, f a = g a) → l.flatMap f = l.flatMap g
  | [], _ => rfl
  | a :: l, h => by
    rw [List.flatMap_cons, List.flatMap_cons, h a (List.mem_cons_self ..), flatMap_congr_mem fun b hb => h b (List.mem_cons_of_mem _ hb)]
theorem subF_fuel {t : Tr} (h : TreeOk t) : ∀ (k k' i : Nat) (n : Nd), t.nodes[i]? = some n → t.nodes.length ≤ i + k → t.nodes.length ≤ i + k' → subF t.nodes k n.id = subF t.nodes k' n.id := by
  intro k
  induction k with
  | zero => intro k' i n hn hk; have := (List.getElem?_eq_some_iff.1 hn).1; omega
  | succ k ih =>
    intro k' i n hn hk hk'
    cases k' with
    | zero => have := (List.getElem?_eq_some_iff.1 hn).1; omega
    | succ k' =>
      simp only [subF, List.cons.injEq, true_and]
      refine flatMap_congr_mem fun c hc => ?_
      obtain ⟨j, m, hj, hp, rfl⟩ := mem_kidsN.1 hc
      have hij := h.kid hn hj hp
      exact ih k' j m hj (by omega) (by omega)

def subT (t : Tr) (id : Int) : List Int := if (findT t id).isSome then subF t.nodes t.nodes.length id else []

end Go.V

namespace Go.V

theorem kids_kidsN {t : Tr} {id : Int} (h : (findT t id).isSome = true) : kids t id = kidsN t.nodes id := by
  rw [kids, if_pos h]; rfl

set_option maxHeartbeats 2000000 in
theorem rsub_eq0 {t : Tr} (h : TreeOk t) : ∀ (k i : Nat) (n : Nd), t.nodes[i]? = some n → t.nodes.length ≤ i + k → V 64 [t.vv, .p (.int .i64 n.id)] [] = some (.fresh 1 ((subF t.nodes k n.id).map (.int .i64)), []) := by
  intro k
  induction k with
  | zero => intro i n hn hk; have := (List.getElem?_eq_some_iff.1 hn).1; omega
  | succ k ih =>
    intro i n hn hk
    have hlen := h.len
    have hft : (findT t n.id).isSome = true := by rw [findT, if_pos ((treeOk_iff t).2 h), findN_unique h.inc hn]; rfl
    refine V_wp (vf := vf64) rfl ?_
    have hh := rhas_eq t n.id (by omega)
    rw [hft] at hh
    have hkd := rkids_eq t n.id (by omega)
    rw [kids_kidsN hft] at hkd
    have hsl := subF_length h hn hk
    have hkl : (kidsN t.nodes n.id).length ≤ t.nodes.length := by
      have := List.length_filter_le (fun m : Nd => decide (m.parent = n.id)) t.nodes
      simpa [kidsN] using this
    have hsf : subF t.nodes (k + 1) n.id = n.id :: (kidsN t.nodes n.id).flatMap (subF t.nodes k) := rfl
    have hkm : ∀ c ∈ kidsN t.nodes n.id, V 64 [t.vv, .p (.int .i64 c)] [] = some (.fresh 1 ((subF t.nodes k c).map (.int .i64)), []) := by
      intro c hc
      obtain ⟨j, m, hj, hp, rfl⟩ := mem_kidsN.1 hc
      have hij := h.kid hn hj hp
      exact ih j m hj (by omega)
    rw [hsf] at hsl ⊢
    generalize kidsN t.nodes n.id = ks at hkd hkl hkm hsl
    simp -implicitDefEqProofs (disch := omega) only [vf64, vb64, hh, hkd, go_sem, ↓reduceIte, Nat.reduceAdd, Nat.reduceSub, Nat.reduceEqDiff, Nat.reduceLeDiff, reduceCtorEq]
    refine wp_count ks.length (fun j s => ∃ (acc : List Int) (v : Nat), acc = n.id :: (ks.take j).flatMap (subF t.nodes k) ∧ s.pe 2 = .ptr (.slot 2 0) 0 0 ∧ s.pe 5 = .own (.slot 13 0) v 0 acc.length ∧ s.pe 6 = .own (.slot 16 1) 0 0 ks.length ∧ s.pe 7 = .p (.int .i64 j) ∧ s.h (.slot 2 0) = some (0, .box [.p (nodesP t.nodes), .p (.int .i64 t.next)]) ∧ s.h (.slot 13 0) = some (v, .arr 1 (acc.map (.int .i64))) ∧ s.h (.slot 16 1) = some (0, .arr 1 (ks.map (.int .i64)))) ?_ ?_
    · exact ⟨[n.id], 0, rfl, by simp -implicitDefEqProofs (disch := omega) only [go_sem, ↓reduceIte, Nat.reduceAdd, Nat.reduceSub, Nat.reduceEqDiff, Nat.reduceLeDiff, reduceCtorEq], by simp -implicitDefEqProofs (disch := omega) only [go_sem, ↓reduceIte, Nat.reduceAdd, Nat.reduceSub, Nat.reduceEqDiff, Nat.reduceLeDiff, reduceCtorEq], by simp -implicitDefEqProofs (disch := omega) only [go_sem, ↓reduceIte, Nat.reduceAdd, Nat.reduceSub, Nat.reduceEqDiff, Nat.reduceLeDiff, reduceCtorEq], rfl, by simp -implicitDefEqProofs (disch := omega) only [go_sem, ↓reduceIte, Nat.reduceAdd, Nat.reduceSub, Nat.reduceEqDiff, Nat.reduceLeDiff, reduceCtorEq], by simp -implicitDefEqProofs (disch := omega) only [go_sem, ↓reduceIte, Nat.reduceAdd, Nat.reduceSub, Nat.reduceEqDiff, Nat.reduceLeDiff, reduceCtorEq], by simp -implicitDefEqProofs (disch := omega) only [go_sem, ↓reduceIte, Nat.reduceAdd, Nat.reduceSub, Nat.reduceEqDiff, Nat.reduceLeDiff, reduceCtorEq]⟩
    · rintro j s hj ⟨acc, v, hacc, h2, h5, h6, h7, hh2, hh13, hh16⟩
      have hal : acc.length + ((ks.drop j).flatMap (subF t.nodes k)).length ≤ t.nodes.length := by
        rw [hacc]
        have : ks.flatMap (subF t.nodes k) = (ks.take j).flatMap (subF t.nodes k) ++ (ks.drop j).flatMap (subF t.nodes k) := by
          rw [← List.flatMap_append, List.take_append_drop]
        rw [this] at hsl
        simp only [List.length_cons, List.length_append] at hsl ⊢
        omega
      simp -implicitDefEqProofs (disch := omega) only [h2, h5, h6, h7, hh2, hh13, hh16, go_sem, ↓reduceIte, Nat.reduceAdd, Nat.reduceSub, Nat.reduceEqDiff, Nat.reduceLeDiff, reduceCtorEq]
      refine wp_if_d (fun hlt => ?_) (fun hge => ?_)
      · have hm : ks[j]? = some ks[j] := List.getElem?_eq_getElem hlt
        have hdr : ks.drop j = ks[j] :: ks.drop (j + 1) := List.drop_eq_getElem_cons hlt
        generalize ks[j] = c at hm hdr
        have hc := hkm c (List.mem_of_getElem? hm)
        rw [hdr, List.flatMap_cons, List.length_append] at hal
        have htk : (ks.take (j + 1)).flatMap (subF t.nodes k) = (ks.take j).flatMap (subF t.nodes k) ++ subF t.nodes k c := by
          rw [take_snoc hm, List.flatMap_append]
          simp
        generalize subF t.nodes k c = sc at hc hal htk
        simp -implicitDefEqProofs (disch := omega) only [h2, h5, h6, h7, hh2, hh13, hh16, hm, hc, hlt, go_sem, ↓reduceIte, Nat.reduceAdd, Nat.reduceSub, Nat.reduceEqDiff, Nat.reduceLeDiff, reduceCtorEq]
        refine ⟨acc ++ sc, v + 1, by rw [htk, hacc]; simp, by simp, rfl, ?_⟩
        simp
      · rw [List.take_of_length_le (by omega)] at hacc
        simp -implicitDefEqProofs (disch := omega) only [h2, h5, h6, h7, hh2, hh13, hh16, hge, go_sem, ↓reduceIte, Nat.reduceAdd, Nat.reduceSub, Nat.reduceEqDiff, Nat.reduceLeDiff, reduceCtorEq]
        rw [hacc]
        rfl

theorem rsub_eq {t : Tr} (id : Int) (hl : t.nodes.length < 1000000) : V 64 [t.vv, .p (.int .i64 id)] [] = some (.fresh 1 ((subT t id).map (.int .i64)), []) := by
  cases hft : (findT t id).isSome with
  | false =>
    refine V_wp (vf := vf64) rfl ?_
    have hh := rhas_eq t id (by omega)
    rw [hft] at hh
    simp -implicitDefEqProofs (disch := omega) only [vf64, vb64, hh, go_sem, ↓reduceIte, Nat.reduceAdd, Nat.reduceSub, Nat.reduceEqDiff, Nat.reduceLeDiff, reduceCtorEq]
    simp [subT, hft]
  | true =>
    have hok : TreeOk t := by
      rw [findT] at hft
      split at hft
      · rename_i h; exact (treeOk_iff t).1 h
      · cases hft
    rw [findT, if_pos ((treeOk_iff t).2 hok)] at hft
    obtain ⟨n, hn, rfl⟩ := findN_some hft
    obtain ⟨i, hi⟩ := List.getElem?_of_mem hn
    rw [rsub_eq0 hok t.nodes.length i n hi (by omega), subT, findT, if_pos ((treeOk_iff t).2 hok), if_pos hft]
end Go.V

