/- The value machine V at work: the program's own check of trees. -/
import Derived.Test.YtcljahgcdbohaaaVF6
set_option linter.unusedSimpArgs false
set_option linter.unusedVariables false
namespace Go.V

theorem troot_eq (n : Nd) : V 116 [n.vv] [] = some (.p (.bool (decide (n.id = 1 ∧ n.parent = 0 ∧ n.name = ⟨#[]⟩ ∧ n.kind = 0))), []) := by
  refine V_wp (vf := vf116) rfl ?_
  simp -implicitDefEqProofs (disch := omega) only [vf116, vb116, go_sem, ↓reduceIte, Nat.reduceAdd, Nat.reduceSub, Nat.reduceEqDiff, Nat.reduceLeDiff, reduceCtorEq]
  repeat' (first | (refine wp_grn_d (fun hb => ?_) (fun hb => ?_) <;> simp -implicitDefEqProofs (disch := omega) only [hb, go_sem, ↓reduceIte, Nat.reduceAdd, Nat.reduceSub, Nat.reduceEqDiff, Nat.reduceLeDiff, reduceCtorEq]) | (refine wp_gtn_d (fun hb => ?_) (fun hb => ?_) <;> simp -implicitDefEqProofs (disch := omega) only [hb, go_sem, ↓reduceIte, Nat.reduceAdd, Nat.reduceSub, Nat.reduceEqDiff, Nat.reduceLeDiff, reduceCtorEq]) | (refine wp_gr_d (fun hb => ?_) (fun hb => ?_) <;> simp -implicitDefEqProofs (disch := omega) only [hb, go_sem, ↓reduceIte, Nat.reduceAdd, Nat.reduceSub, Nat.reduceEqDiff, Nat.reduceLeDiff, reduceCtorEq]) | (refine wp_gt_d (fun hb => ?_) (fun hb => ?_) <;> simp -implicitDefEqProofs (disch := omega) only [hb, go_sem, ↓reduceIte, Nat.reduceAdd, Nat.reduceSub, Nat.reduceEqDiff, Nat.reduceLeDiff, reduceCtorEq]) | (refine wp_gr (fun hb => ?_) (fun hb => ?_) <;> simp -implicitDefEqProofs (disch := omega) only [hb, go_sem, ↓reduceIte, Nat.reduceAdd, Nat.reduceSub, Nat.reduceEqDiff, Nat.reduceLeDiff, reduceCtorEq]) | (refine wp_gt (fun hb => ?_) (fun hb => ?_) <;> simp -implicitDefEqProofs (disch := omega) only [hb, go_sem, ↓reduceIte, Nat.reduceAdd, Nat.reduceSub, Nat.reduceEqDiff, Nat.reduceLeDiff, reduceCtorEq]) | (refine wp_nt_d (fun hb => ?_) (fun hb => ?_) <;> simp -implicitDefEqProofs (disch := omega) only [hb, go_sem, ↓reduceIte, Nat.reduceAdd, Nat.reduceSub, Nat.reduceEqDiff, Nat.reduceLeDiff, reduceCtorEq]) | (refine wp_nt (fun hb => ?_) (fun hb => ?_) <;> simp -implicitDefEqProofs (disch := omega) only [hb, go_sem, ↓reduceIte, Nat.reduceAdd, Nat.reduceSub, Nat.reduceEqDiff, Nat.reduceLeDiff, reduceCtorEq]) | (refine wp_if_d (fun hb => ?_) (fun hb => ?_) <;> simp -implicitDefEqProofs (disch := omega) only [hb, go_sem, ↓reduceIte, Nat.reduceAdd, Nat.reduceSub, Nat.reduceEqDiff, Nat.reduceLeDiff, reduceCtorEq]) | (refine wp_if (fun hb => ?_) (fun hb => ?_) <;> simp -implicitDefEqProofs (disch := omega) only [hb, go_sem, ↓reduceIte, Nat.reduceAdd, Nat.reduceSub, Nat.reduceEqDiff, Nat.reduceLeDiff, reduceCtorEq]))
  all_goals
    simp only [Prod.mk.injEq, VVal.p.injEq, PV.bool.injEq, and_true]
    rw [Bool.eq_iff_iff]
    simp only [decide_eq_true_eq, Bool.false_eq_true, false_iff]
    simp [*]

def fineB (pre : List Nd) (l n : Nd) : Bool := decide (l.id < n.id) && validN n.name && decide (n.kind = 0 ∨ n.kind = 1) && !(pre.any fun x => decide (x.parent = n.parent ∧ x.name = n.name)) && pre.any fun x => decide (x.id = n.parent)

set_option maxHeartbeats 2000000 in
theorem tfine_eq (pre : List Nd) (l n : Nd) (hl : pre.getLast? = some l) (hlen : pre.length < 1000000) (hs : n.name.size < 4611686018427387904) : V 117 [.p (nodesP pre), n.vv] [] = some (.p (.bool (fineB pre l n)), []) := by
  refine V_wp (vf := vf117) rfl ?_
  have hpre : pre[((pre.length : Int) - 1).toNat]? = some l := by
    rw [List.getLast?_eq_getElem?] at hl
    rw [show ((pre.length : Int) - 1).toNat = pre.length - 1 by omega]
    exact hl
  have hpos : 0 < pre.length := by
    have := (List.getElem?_eq_some_iff.1 hpre).1
    omega
  have hp0 : 0 ≤ (pre.length : Int) - 1 := by omega
  have hv := pvalid_eq n.name hs
  simp -implicitDefEqProofs (disch := omega) only [vf117, vb117, hpre, hp0, go_sem, ↓reduceIte, Nat.reduceAdd, Nat.reduceSub, Nat.reduceEqDiff, Nat.reduceLeDiff, reduceCtorEq]
  repeat' (first | (refine wp_grn_d (fun hb => ?_) (fun hb => ?_) <;> simp -implicitDefEqProofs (disch := omega) only [hb, hpre, hv, go_sem, ↓reduceIte, Nat.reduceAdd, Nat.reduceSub, Nat.reduceEqDiff, Nat.reduceLeDiff, reduceCtorEq]) | (refine wp_gtn_d (fun hb => ?_) (fun hb => ?_) <;> simp -implicitDefEqProofs (disch := omega) only [hb, hpre, hv, go_sem, ↓reduceIte, Nat.reduceAdd, Nat.reduceSub, Nat.reduceEqDiff, Nat.reduceLeDiff, reduceCtorEq]) | (refine wp_gr_d (fun hb => ?_) (fun hb => ?_) <;> simp -implicitDefEqProofs (disch := omega) only [hb, hpre, hv, go_sem, ↓reduceIte, Nat.reduceAdd, Nat.reduceSub, Nat.reduceEqDiff, Nat.reduceLeDiff, reduceCtorEq]) | (refine wp_gt_d (fun hb => ?_) (fun hb => ?_) <;> simp -implicitDefEqProofs (disch := omega) only [hb, hpre, hv, go_sem, ↓reduceIte, Nat.reduceAdd, Nat.reduceSub, Nat.reduceEqDiff, Nat.reduceLeDiff, reduceCtorEq]) | (refine wp_gr (fun hb => ?_) (fun hb => ?_) <;> simp -implicitDefEqProofs (disch := omega) only [hb, hpre, hv, go_sem, ↓reduceIte, Nat.reduceAdd, Nat.reduceSub, Nat.reduceEqDiff, Nat.reduceLeDiff, reduceCtorEq]) | (refine wp_gt (fun hb => ?_) (fun hb => ?_) <;> simp -implicitDefEqProofs (disch := omega) only [hb, hpre, hv, go_sem, ↓reduceIte, Nat.reduceAdd, Nat.reduceSub, Nat.reduceEqDiff, Nat.reduceLeDiff, reduceCtorEq]) | (refine wp_nt_d (fun hb => ?_) (fun hb => ?_) <;> simp -implicitDefEqProofs (disch := omega) only [hb, hpre, hv, go_sem, ↓reduceIte, Nat.reduceAdd, Nat.reduceSub, Nat.reduceEqDiff, Nat.reduceLeDiff, reduceCtorEq]) | (refine wp_nt (fun hb => ?_) (fun hb => ?_) <;> simp -implicitDefEqProofs (disch := omega) only [hb, hpre, hv, go_sem, ↓reduceIte, Nat.reduceAdd, Nat.reduceSub, Nat.reduceEqDiff, Nat.reduceLeDiff, reduceCtorEq]) | (refine wp_if_d (fun hb => ?_) (fun hb => ?_) <;> simp -implicitDefEqProofs (disch := omega) only [hb, hpre, hv, go_sem, ↓reduceIte, Nat.reduceAdd, Nat.reduceSub, Nat.reduceEqDiff, Nat.reduceLeDiff, reduceCtorEq]) | (refine wp_if (fun hb => ?_) (fun hb => ?_) <;> simp -implicitDefEqProofs (disch := omega) only [hb, hpre, hv, go_sem, ↓reduceIte, Nat.reduceAdd, Nat.reduceSub, Nat.reduceEqDiff, Nat.reduceLeDiff, reduceCtorEq]))
  all_goals first
    | (simp only [fineB, Prod.mk.injEq, VVal.p.injEq, PV.bool.injEq, and_true]
       rw [Bool.eq_iff_iff]
       simp only [Bool.and_eq_true, decide_eq_true_eq, Bool.false_eq_true, false_iff]
       try simp only [*]
       first | omega | (simp; done) | (simp; omega))
    | (have hvf : validN n.name = false := by simpa using ‹(!validN n.name) = true›
       simp only [fineB, hvf, Bool.and_false, Bool.false_and]
       done)
    | skip
  all_goals
    have hvt : validN n.name = true := by simpa using ‹(!validN n.name) = false›
    refine wp_count pre.length (fun k s => ((pre.take k).any (fun x => decide (x.parent = n.parent ∧ x.name = n.name)) = false) ∧ s.pe 3 = .ptr (.slot 3 0) 0 0 ∧ s.pe 5 = .p (.bool ((pre.take k).any fun x => decide (x.id = n.parent))) ∧ s.pe 34 = .p (nodesP pre) ∧ s.pe 35 = .p (.int .i64 pre.length) ∧ s.pe 36 = .p (.int .i64 k) ∧ s.h (.slot 3 0) = some (0, .box (n.pv.cells.map .p))) ?_ ?_
    · exact ⟨by simp, rfl, rfl, rfl, rfl, rfl, by simp -implicitDefEqProofs (disch := omega) only [go_sem, ↓reduceIte, Nat.reduceAdd, Nat.reduceSub, Nat.reduceEqDiff, Nat.reduceLeDiff, reduceCtorEq]; simp only [*]⟩
    · rintro k s hk ⟨hno, h3, h5, h34, h35, h36, hh3⟩
      simp only [Nd.pv, PV.cells, List.map_cons, List.map_nil] at hh3
      simp -implicitDefEqProofs (disch := omega) only [h3, h5, h34, h35, h36, hh3, go_sem, ↓reduceIte, Nat.reduceAdd, Nat.reduceSub, Nat.reduceEqDiff, Nat.reduceLeDiff, reduceCtorEq]
      refine wp_if_d (fun hki => ?_) (fun hge => ?_)
      · have hm : pre[k]? = some pre[k] := List.getElem?_eq_getElem (by omega)
        generalize pre[k] = m at hm
        simp -implicitDefEqProofs (disch := omega) only [h3, h5, h34, h35, h36, hh3, hm, hki, go_sem, ↓reduceIte, Nat.reduceAdd, Nat.reduceSub, Nat.reduceEqDiff, Nat.reduceLeDiff, reduceCtorEq]
        repeat' (first | (refine wp_grn_d (fun hb => ?_) (fun hb => ?_) <;> simp -implicitDefEqProofs (disch := omega) only [hb, h3, h5, h34, h35, h36, hh3, hm, hki, go_sem, ↓reduceIte, Nat.reduceAdd, Nat.reduceSub, Nat.reduceEqDiff, Nat.reduceLeDiff, reduceCtorEq]) | (refine wp_gtn_d (fun hb => ?_) (fun hb => ?_) <;> simp -implicitDefEqProofs (disch := omega) only [hb, h3, h5, h34, h35, h36, hh3, hm, hki, go_sem, ↓reduceIte, Nat.reduceAdd, Nat.reduceSub, Nat.reduceEqDiff, Nat.reduceLeDiff, reduceCtorEq]) | (refine wp_gr_d (fun hb => ?_) (fun hb => ?_) <;> simp -implicitDefEqProofs (disch := omega) only [hb, h3, h5, h34, h35, h36, hh3, hm, hki, go_sem, ↓reduceIte, Nat.reduceAdd, Nat.reduceSub, Nat.reduceEqDiff, Nat.reduceLeDiff, reduceCtorEq]) | (refine wp_gt_d (fun hb => ?_) (fun hb => ?_) <;> simp -implicitDefEqProofs (disch := omega) only [hb, h3, h5, h34, h35, h36, hh3, hm, hki, go_sem, ↓reduceIte, Nat.reduceAdd, Nat.reduceSub, Nat.reduceEqDiff, Nat.reduceLeDiff, reduceCtorEq]) | (refine wp_gr (fun hb => ?_) (fun hb => ?_) <;> simp -implicitDefEqProofs (disch := omega) only [hb, h3, h5, h34, h35, h36, hh3, hm, hki, go_sem, ↓reduceIte, Nat.reduceAdd, Nat.reduceSub, Nat.reduceEqDiff, Nat.reduceLeDiff, reduceCtorEq]) | (refine wp_gt (fun hb => ?_) (fun hb => ?_) <;> simp -implicitDefEqProofs (disch := omega) only [hb, h3, h5, h34, h35, h36, hh3, hm, hki, go_sem, ↓reduceIte, Nat.reduceAdd, Nat.reduceSub, Nat.reduceEqDiff, Nat.reduceLeDiff, reduceCtorEq]) | (refine wp_nt_d (fun hb => ?_) (fun hb => ?_) <;> simp -implicitDefEqProofs (disch := omega) only [hb, h3, h5, h34, h35, h36, hh3, hm, hki, go_sem, ↓reduceIte, Nat.reduceAdd, Nat.reduceSub, Nat.reduceEqDiff, Nat.reduceLeDiff, reduceCtorEq]) | (refine wp_nt (fun hb => ?_) (fun hb => ?_) <;> simp -implicitDefEqProofs (disch := omega) only [hb, h3, h5, h34, h35, h36, hh3, hm, hki, go_sem, ↓reduceIte, Nat.reduceAdd, Nat.reduceSub, Nat.reduceEqDiff, Nat.reduceLeDiff, reduceCtorEq]) | (refine wp_if_d (fun hb => ?_) (fun hb => ?_) <;> simp -implicitDefEqProofs (disch := omega) only [hb, h3, h5, h34, h35, h36, hh3, hm, hki, go_sem, ↓reduceIte, Nat.reduceAdd, Nat.reduceSub, Nat.reduceEqDiff, Nat.reduceLeDiff, reduceCtorEq]) | (refine wp_if (fun hb => ?_) (fun hb => ?_) <;> simp -implicitDefEqProofs (disch := omega) only [hb, h3, h5, h34, h35, h36, hh3, hm, hki, go_sem, ↓reduceIte, Nat.reduceAdd, Nat.reduceSub, Nat.reduceEqDiff, Nat.reduceLeDiff, reduceCtorEq]))
        all_goals first
          | (have ha : (pre.any fun x => decide (x.parent = n.parent ∧ x.name = n.name)) = true := by
              rw [List.any_eq_true]
              exact ⟨m, List.mem_of_getElem? hm, by simp [*]⟩
             simp only [fineB, ha, Bool.not_true, Bool.and_false, Bool.false_and]
             done)
          | exact ⟨by rw [any_take hm, hno]; simp [*], by rw [any_take hm]; simp [*], by simp only [Int.natCast_add, Int.natCast_one]⟩
      · simp -implicitDefEqProofs (disch := omega) only [h3, h5, h34, h35, h36, hh3, hge, go_sem, ↓reduceIte, Nat.reduceAdd, Nat.reduceSub, Nat.reduceEqDiff, Nat.reduceLeDiff, reduceCtorEq]
        have hki : k = pre.length := by omega
        subst hki
        rw [List.take_length] at hno ⊢
        simp only [fineB, hno, Prod.mk.injEq, VVal.p.injEq, PV.bool.injEq, and_true]
        rw [Bool.eq_iff_iff]
        simp only [Bool.and_eq_true, decide_eq_true_eq, Bool.not_false, and_true, true_and]
        exact ⟨fun h => ⟨⟨⟨by omega, hvt⟩, by omega⟩, h⟩, fun h => h.2⟩

theorem fineB_nodeOk {pre : List Nd} {l n : Nd} (hl : pre.getLast? = some l) : nodeOk pre n = (decide (0 ≤ n.control ∧ n.control ≤ 31 ∧ 0 ≤ n.owner ∧ n.owner ≤ 1048576) && fineB pre l n) := by
  rw [Bool.eq_iff_iff]
  simp only [nodeOk, hl, fineB, Bool.and_eq_true, decide_eq_true_eq]
  constructor
  · rintro ⟨⟨h1, h2⟩, ⟨⟨h3, h4⟩, h5⟩, h6⟩
    exact ⟨h2, ⟨⟨⟨h3, h4⟩, h1⟩, h5⟩, h6⟩
  · rintro ⟨h2, ⟨⟨⟨h3, h4⟩, h1⟩, h5⟩, h6⟩
    exact ⟨⟨h1, h2⟩, ⟨⟨h3, h4⟩, h5⟩, h6⟩

/-! ### bits -/

theorem andNot31 {a : Int} (h0 : 0 ≤ a) (h1 : a < 9223372036854775808) : (IntKind.i64.wrap ((BitVec.ofInt IntKind.i64.bits a &&& ~~~ BitVec.ofInt IntKind.i64.bits 31).toNat : Int) = 0) = (a ≤ 31) := by
  have e64 : IntKind.i64.bits = 64 := rfl
  rw [eq_iff_iff]
  generalize hx : BitVec.ofInt IntKind.i64.bits a = x
  generalize hy : (x &&& ~~~ BitVec.ofInt IntKind.i64.bits 31) = y
  have hxn : x.toNat = a.toNat := by
    rw [← hx, BitVec.toNat_ofInt]
    rw [e64]
    omega
  have hbit : ∀ i, y.getLsbD i = (x.getLsbD i && decide (5 ≤ i)) := fun i => by
    rw [← hy, BitVec.getLsbD_and, BitVec.getLsbD_not]
    have h31 : (BitVec.ofInt IntKind.i64.bits 31).getLsbD i = decide (i < 5) := by
      rw [show BitVec.ofInt IntKind.i64.bits 31 = BitVec.ofNat IntKind.i64.bits 31 from rfl, BitVec.getLsbD_ofNat]
      rw [show (31 : Nat) = 2 ^ 5 - 1 from rfl, Nat.testBit_two_pow_sub_one, e64]
      rw [Bool.eq_iff_iff]
      simp
      omega
    rw [h31]
    by_cases hi : i < IntKind.i64.bits
    · rw [Bool.eq_iff_iff]
      simp [hi]
    · have : x.getLsbD i = false := BitVec.getLsbD_of_ge x i (by omega)
      simp [this]
  have hyle : y.toNat ≤ x.toNat := by
    rw [← hy, BitVec.toNat_and]
    exact Nat.and_le_left
  have hw : IntKind.i64.wrap (y.toNat : Int) = y.toNat := wrap64 (by omega) (by omega)
  rw [hw]
  constructor
  · intro h
    have hy0 : y = 0#_ := BitVec.eq_of_toNat_eq (by simpa using h)
    have hlt : x.toNat < 2 ^ 5 := Nat.lt_pow_two_of_testBit _ fun i hi => by
      have := hbit i
      rw [hy0] at this
      simp only [BitVec.getLsbD_zero, decide_eq_true hi, Bool.and_true] at this
      exact this.symm
    omega
  · intro h
    have hlt : x.toNat < 2 ^ 5 := by omega
    have hy0 : y = 0#_ := BitVec.eq_of_getLsbD_eq fun i hi => by
      rw [hbit i]
      by_cases h5 : 5 ≤ i
      · have : x.getLsbD i = false := by
          rw [BitVec.getLsbD]
          exact Nat.testBit_lt_two_pow (Nat.lt_of_lt_of_le hlt (Nat.pow_le_pow_right (by omega) h5))
        simp [this]
      · simp [h5]
    rw [hy0]
    simp

/-! ### depths -/

theorem upR_append_skip {id : Int} : ∀ (a b : List Nd), (∀ x ∈ a, x.id ≠ id) → upR (a ++ b) id = upR b id
  | [], _, _ => rfl
  | x :: a, b, h => by
    rw [List.cons_append, upR, if_neg (h x (List.mem_cons_self ..)), upR_append_skip a b fun y hy => h y (List.mem_cons_of_mem _ hy)]
/-- Above a node behind others. -/
theorem up_snoc_eq (pre : List Nd) (m : Nd) : up (pre ++ [m]) m.id = m.id :: up pre m.parent := by
  unfold up
  rw [List.reverse_append]
  simp only [List.reverse_cons, List.reverse_nil, List.nil_append, List.cons_append, upR, if_true]
theorem up_snoc_ne (pre : List Nd) (m : Nd) {id : Int} (h : m.id ≠ id) : up (pre ++ [m]) id = up pre id := by
  unfold up
  rw [List.reverse_append]
  simp only [List.reverse_cons, List.reverse_nil, List.nil_append, List.cons_append, upR]
  rw [if_neg h]
theorem up_take {ns : List Nd} (hinc : ns.Pairwise fun a b => a.id < b.id) {k : Nat} {n : Nd} (hn : n ∈ ns.take k) : up ns n.id = up (ns.take k) n.id := by
  unfold up
  conv => lhs; rw [← List.take_append_drop k ns, List.reverse_append]
  refine upR_append_skip _ _ fun x hx => ?_
  rw [List.mem_reverse] at hx
  rw [← List.take_append_drop k ns, List.pairwise_append] at hinc
  have := hinc.2.2 n hn x hx
  omega

theorem mget_mput_same : ∀ (ks : List MKey) (vs : List PV) (k : MKey) (v : PV), mget (mput ks vs k v).1 (mput ks vs k v).2 k = some v
  | [], vs, k, v => by cases vs <;> simp [mput, mget]
  | x :: ks, [], k, v => by simp [mput, mget]
  | x :: ks, y :: vs, k, v => by
    unfold mput
    split
    · rename_i h
      simp [mget, h]
    · rename_i h
      simp only [mget, if_neg h]
      exact mget_mput_same ks vs k v
theorem mget_mput_other : ∀ (ks : List MKey) (vs : List PV) (k k' : MKey) (v : PV), ks.length = vs.length → k' ≠ k → mget (mput ks vs k v).1 (mput ks vs k v).2 k' = mget ks vs k'
  | [], [], k, k', v, _, h => by simp [mput, mget, h]
  | [], _ :: _, k, k', v, hl, h => by simp at hl
  | x :: ks, [], k, k', v, hl, h => by simp at hl
  | x :: ks, y :: vs, k, k', v, hl, h => by
    unfold mput
    split
    · rename_i e
      subst e
      simp [mget, h]
    · simp only [mget]
      split
      · rfl
      · exact mget_mput_other ks vs k k' v (by simpa using hl) h
theorem mput_len : ∀ (ks : List MKey) (vs : List PV) (k : MKey) (v : PV), ks.length = vs.length → (mput ks vs k v).1.length = (mput ks vs k v).2.length
  | [], [], _, _, _ => rfl
  | [], _ :: _, _, _, h => by simp at h
  | _ :: _, [], _, _, h => by simp at h
  | x :: ks, y :: vs, k, v, h => by
    unfold mput
    split
    · simpa using h
    · simp only [List.length_cons]
      rw [mput_len ks vs k v (by simpa using h)]

/-- What fits the machine's numbers. -/
structure Nd.Fits (n : Nd) : Prop where
  name : n.name.size < 4611686018427387904
  control : n.control < 9223372036854775808
def Tr.Fits (t : Tr) : Prop := ∀ n ∈ t.nodes, n.Fits

end Go.V
