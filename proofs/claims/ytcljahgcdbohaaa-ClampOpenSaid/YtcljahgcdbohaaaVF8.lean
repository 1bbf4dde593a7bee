/- The value machine V at work: the program's own check of trees, as a whole. -/
import Derived.Test.YtcljahgcdbohaaaVF7
set_option linter.unusedSimpArgs false
set_option linter.unusedVariables false
namespace Go.V

theorem treeOk_false_of_node {t : Tr} {k : Nat} {m : Nd} (hm : t.nodes[k]? = some m) (h : nodeOk (t.nodes.take k) m = false) : treeOk t = false := by
  rw [Bool.eq_false_iff]
  intro h0
  have := (nodesOk_iff _ _).1 ((treeOk_iff t).1 h0).nodes k m hm
  rw [List.nil_append, h] at this
  cases this

theorem treeOk_false_of_depth {t : Tr} {k : Nat} {m : Nd} (hm : t.nodes[k]? = some m) (h : 9 < (up (t.nodes.take (k + 1)) m.id).length) : treeOk t = false := by
  rw [Bool.eq_false_iff]
  intro h0
  have hok := (treeOk_iff t).1 h0
  have hin : m ∈ t.nodes.take (k + 1) := by
    have : (t.nodes.take (k + 1))[k]? = some m := by rw [List.getElem?_take, if_pos (by omega)]; exact hm
    exact List.mem_of_getElem? this
  have := hok.depth m (List.mem_of_getElem? hm)
  rw [up_take hok.inc hin] at this
  omega
theorem nodeOk_bad {pre : List Nd} {n : Nd} (h : ¬ (0 ≤ n.control ∧ n.control ≤ 31 ∧ 0 ≤ n.owner ∧ n.owner ≤ 1048576)) : nodeOk pre n = false := by
  simp only [nodeOk, decide_eq_false h, Bool.and_false, Bool.false_and]

theorem take_snoc {α : Type} {l : List α} {k : Nat} {x : α} (h : l[k]? = some x) : l.take (k + 1) = l.take k ++ [x] := by
  rw [List.take_add_one, h]
  rfl

set_option maxHeartbeats 4000000 in
theorem tcheck_eq (t : Tr) (hf : t.Fits) (hl : t.nodes.length < 1000000) : V 78 [t.vv] [] = some (.p (.bool (treeOk t)), []) := by
  refine V_wp (vf := vf78) rfl ?_
  by_cases h1 : (t.nodes.length : Int) < 1
  · simp -implicitDefEqProofs (disch := omega) only [vf78, vb78, h1, go_sem, ↓reduceIte, Nat.reduceAdd, Nat.reduceSub, Nat.reduceEqDiff, Nat.reduceLeDiff, reduceCtorEq]
    simp [treeOk, show ¬ 1 ≤ t.nodes.length by omega]
  by_cases h2 : 64 < (t.nodes.length : Int)
  · simp -implicitDefEqProofs (disch := omega) only [vf78, vb78, h1, h2, go_sem, ↓reduceIte, Nat.reduceAdd, Nat.reduceSub, Nat.reduceEqDiff, Nat.reduceLeDiff, reduceCtorEq]
    simp [treeOk, show ¬ t.nodes.length ≤ 64 by omega]
  have hz : (0 : Int).toNat = 0 := rfl
  have hr0 : t.nodes[0]? = some t.nodes[0] := List.getElem?_eq_getElem (by omega)
  generalize t.nodes[0] = r at hr0
  have hroot := troot_eq r
  by_cases hr : ¬ (r.id = 1 ∧ r.parent = 0 ∧ r.name = ⟨#[]⟩ ∧ r.kind = 0)
  · rw [decide_eq_false hr] at hroot
    unfold Nd.vv at hroot
    simp -implicitDefEqProofs (disch := omega) only [vf78, vb78, h1, h2, hz, hr0, hroot, go_sem, ↓reduceIte, Nat.reduceAdd, Nat.reduceSub, Nat.reduceEqDiff, Nat.reduceLeDiff, reduceCtorEq]
    rw [treeOk_false_of_node hr0]
    rw [Bool.eq_false_iff]
    intro h0
    exact hr (nodeOk_nil (by simpa using h0))
  have hr := Classical.not_not.1 hr
  rw [decide_eq_true hr] at hroot
  unfold Nd.vv at hroot
  simp -implicitDefEqProofs (disch := omega) only [vf78, vb78, h1, h2, hz, hr0, hroot, go_sem, ↓reduceIte, Nat.reduceAdd, Nat.reduceSub, Nat.reduceEqDiff, Nat.reduceLeDiff, reduceCtorEq]
  refine wp_count t.nodes.length (fun k s => ∃ (ks : List MKey) (vs : List PV), ks.length = vs.length ∧ (k = 0 → ks = [] ∧ vs = []) ∧ (∀ (i : Nat) (n : Nd), i < k → t.nodes[i]? = some n → (mget ks vs (.int n.id)).getD (.int .i64 0) = .int .i64 (((up (t.nodes.take k) n.id).length : Int) - 1)) ∧
    (∀ (i : Nat) (n : Nd), i < k → t.nodes[i]? = some n → nodeOk (t.nodes.take i) n = true) ∧ (∀ (i : Nat) (n : Nd), i < k → t.nodes[i]? = some n → (up (t.nodes.take k) n.id).length ≤ 9) ∧ s.pe 1 = .ptr (.slot 1 0) 0 0 ∧ s.pe 3 = .mref (.slot 24 0) 0 ∧ s.pe 26 = .p (nodesP t.nodes) ∧ s.pe 27 = .p (.int .i64 t.nodes.length) ∧ s.pe 28 = .p (.int .i64 k) ∧
    s.h (.slot 1 0) = some (0, .box [.p (nodesP t.nodes), .p (.int .i64 t.next)]) ∧ s.h (.slot 24 0) = some (0, .map (.int .i64) ks vs)) ?_ ?_
  · refine ⟨[], [], rfl, fun _ => ⟨rfl, rfl⟩, by omega, by omega, by omega, ?_⟩
    simp -implicitDefEqProofs (disch := omega) only [go_sem, ↓reduceIte, Nat.reduceAdd, Nat.reduceSub, Nat.reduceEqDiff, Nat.reduceLeDiff, reduceCtorEq]
    rfl
  · rintro k s hk ⟨ks, vs, hkl, hk0, hdep, hnok, hup, p1, p3, p26, p27, p28, hh1, hh24⟩
    simp -implicitDefEqProofs (disch := omega) only [p1, p3, p26, p27, p28, hh1, hh24, go_sem, ↓reduceIte, Nat.reduceAdd, Nat.reduceSub, Nat.reduceEqDiff, Nat.reduceLeDiff, reduceCtorEq]
    refine wp_if_d (fun hlt => ?_) (fun hge => ?_)
    · have hm : t.nodes[k]? = some t.nodes[k] := List.getElem?_eq_getElem hlt
      generalize t.nodes[k] = m at hm
      have hfit := hf m (List.mem_of_getElem? hm)
      have hctl := hfit.control
      by_cases hbad : 0 ≤ m.control ∧ m.control ≤ 31 ∧ 0 ≤ m.owner ∧ m.owner ≤ 1048576
      · have c1 : ¬ m.control < 0 := by omega
        have c2 : m.control ≤ 31 := by omega
        have c3 : ¬ m.owner < 0 := by omega
        have c4 : ¬ 1048576 < m.owner := by omega
        have hbits := andNot31 hbad.1 hctl
        by_cases hkp : 0 < (k : Int)
        · obtain ⟨l, hlast⟩ : ∃ l, (t.nodes.take k).getLast? = some l := by
            cases hq : (t.nodes.take k).getLast? with
            | none =>
              rw [List.getLast?_eq_none_iff] at hq
              have := congrArg List.length hq
              rw [List.length_take, List.length_nil] at this
              omega
            | some l => exact ⟨l, rfl⟩
          have hfine := tfine_eq (t.nodes.take k) l m hlast (by simp; omega) hfit.name
          unfold Nd.vv nodesP at hfine
          have hle : k ≤ t.nodes.length := hk
          cases hfb : fineB (t.nodes.take k) l m with
          | false =>
            rw [hfb] at hfine
            simp -implicitDefEqProofs (disch := omega) only [p1, p3, p26, p27, p28, hh1, hh24, hm, hbits, c1, c2, c3, c4, hkp, hle, Nat.sub_zero, ← List.map_take, hfine, go_sem, ↓reduceIte, Nat.reduceAdd, Nat.reduceSub, Nat.reduceEqDiff, Nat.reduceLeDiff, reduceCtorEq]
            rw [treeOk_false_of_node hm]
            rw [fineB_nodeOk hlast, hfb, Bool.and_false]
          | true =>
            rw [hfb] at hfine
            have hno : nodeOk (t.nodes.take k) m = true := by rw [fineB_nodeOk hlast, hfb, decide_eq_true hbad]; rfl
            obtain ⟨b1, b2, b3, b4, pn, hpn, hpe⟩ := (nodeOk_some hlast).1 hno
            obtain ⟨pi, hpi⟩ := List.getElem?_of_mem hpn
            have hpik : pi < k := by
              have := (List.getElem?_eq_some_iff.1 hpi).1
              simp at this
              omega
            rw [List.getElem?_take, if_pos hpik] at hpi
            have hd := hdep pi pn hpik hpi
            rw [hpe] at hd
            have hul := hup pi pn hpik hpi
            rw [hpe] at hul
            simp -implicitDefEqProofs (disch := omega) only [p1, p3, p26, p27, p28, hh1, hh24, hm, hbits, c1, c2, c3, c4, hkp, hle, Nat.sub_zero, ← List.map_take, hfine, hd, mget_mput_same, Option.getD_some, go_sem, ↓reduceIte, Nat.reduceAdd, Nat.reduceSub, Nat.reduceEqDiff, Nat.reduceLeDiff, reduceCtorEq]
            have htk : t.nodes.take (k + 1) = t.nodes.take k ++ [m] := take_snoc hm
            have hum : up (t.nodes.take (k + 1)) m.id = m.id :: up (t.nodes.take k) m.parent := by rw [htk]; exact up_snoc_eq _ _
            have hltm : ∀ (i : Nat) (n : Nd), i < k → t.nodes[i]? = some n → n.id < m.id := fun i n hi hn => by
              have hno' : nodesOk [] (t.nodes.take (k + 1)) = true := (nodesOk_iff _ _).2 fun j x hx => by
                have hjl := (List.getElem?_eq_some_iff.1 hx).1
                simp at hjl
                rw [List.getElem?_take, if_pos (by omega)] at hx
                rw [List.nil_append, List.take_take, Nat.min_eq_left (by omega)]
                rcases Nat.lt_or_ge j k with h0 | h0
                · exact hnok j x h0 hx
                · have : j = k := by omega
                  subst this
                  rw [hm] at hx
                  simp at hx
                  subst hx
                  exact hno
              have hinc := (ids_lt _ _ hno' (fun _ h => by simp at h)).2
              rw [htk, List.pairwise_append] at hinc
              refine hinc.2.2 n ?_ m (by simp)
              have : (t.nodes.take k)[i]? = some n := by rw [List.getElem?_take, if_pos hi]; exact hn
              exact List.mem_of_getElem? this
            have hun : ∀ (i : Nat) (n : Nd), i < k → t.nodes[i]? = some n → up (t.nodes.take (k + 1)) n.id = up (t.nodes.take k) n.id := fun i n hi hn => by
              rw [htk]
              exact up_snoc_ne _ _ (by have := hltm i n hi hn; omega)
            refine wp_if_d (fun hdeep => ?_) (fun hshal => ?_)
            · simp -implicitDefEqProofs (disch := omega) only [p1, p3, p26, p27, p28, hh1, hh24, go_sem, ↓reduceIte, Nat.reduceAdd, Nat.reduceSub, Nat.reduceEqDiff, Nat.reduceLeDiff, reduceCtorEq]
              rw [treeOk_false_of_depth hm]
              rw [hum, List.length_cons]
              omega
            · simp -implicitDefEqProofs (disch := omega) only [p1, p3, p26, p27, p28, hh1, hh24, go_sem, ↓reduceIte, Nat.reduceAdd, Nat.reduceSub, Nat.reduceEqDiff, Nat.reduceLeDiff, reduceCtorEq]
              refine ⟨hlt, (mput ks vs (.int m.id) (.int .i64 (((up (t.nodes.take k) m.parent).length : Int) - 1 + 1))).1, (mput ks vs (.int m.id) (.int .i64 (((up (t.nodes.take k) m.parent).length : Int) - 1 + 1))).2, mput_len _ _ _ _ hkl, fun h => h.elim, lt_succ_cases hm (fun i n hi hn => ?_) ?_, lt_succ_cases hm hnok hno, lt_succ_cases hm (fun i n hi hn => ?_) ?_, ?_, rfl⟩
              · rw [hun i n hi hn, mget_mput_other _ _ _ _ _ hkl (by have := hltm i n hi hn; simp; omega)]
                exact hdep i n hi hn
              · rw [mget_mput_same, hum]
                simp
              · rw [hun i n hi hn]
                exact hup i n hi hn
              · rw [hum, List.length_cons]
                omega
              · simp only [Int.natCast_add, Int.natCast_one]
        · have hk0' : k = 0 := by omega
          subst hk0'
          obtain ⟨rfl, rfl⟩ := hk0 rfl
          rw [hm] at hr0
          simp only [Option.some.injEq] at hr0
          subst hr0
          have hg : (mget [] [] (.int m.id)).getD (.int .i64 0) = .int .i64 0 := rfl
          have h80 : ¬ (8 : Int) < 0 := by omega
          simp -implicitDefEqProofs (disch := omega) only [p1, p3, p26, p27, p28, hh1, hh24, hm, hbits, c1, c2, c3, c4, hkp, hg, h80, go_sem, ↓reduceIte, Nat.reduceAdd, Nat.reduceSub, Nat.reduceEqDiff, Nat.reduceLeDiff, reduceCtorEq]
          have htk : t.nodes.take (0 + 1) = [m] := take_snoc hm
          have hum : up (t.nodes.take (0 + 1)) m.id = [m.id] := by rw [htk]; simp [up, upR]
          refine ⟨hlt, [], [], rfl, fun h => h.elim, lt_succ_cases hm (fun i n hi => absurd hi (by omega)) ?_, lt_succ_cases hm (fun i n hi => absurd hi (by omega)) ?_, lt_succ_cases hm (fun i n hi => absurd hi (by omega)) ?_, rfl, rfl⟩
          · rw [hum]
            rfl
          · simp only [nodeOk, List.take_zero, List.getLast?_nil, decide_eq_true hr, decide_eq_true hbad, Bool.and_true, decide_eq_true_eq]
            exact .inl hr.2.2.2
          · rw [hum]
            simp
      · simp -implicitDefEqProofs (disch := omega) only [p1, p3, p26, p27, p28, hh1, hh24, hm, go_sem, ↓reduceIte, Nat.reduceAdd, Nat.reduceSub, Nat.reduceEqDiff, Nat.reduceLeDiff, reduceCtorEq]
        repeat' (first | (refine wp_grn_d (fun hb => ?_) (fun hb => ?_) <;> simp -implicitDefEqProofs (disch := omega) only [hb, p1, p3, p26, p27, p28, hh1, hh24, hm, andNot31, go_sem, ↓reduceIte, Nat.reduceAdd, Nat.reduceSub, Nat.reduceEqDiff, Nat.reduceLeDiff, reduceCtorEq]) | (refine wp_gtn_d (fun hb => ?_) (fun hb => ?_) <;> simp -implicitDefEqProofs (disch := omega) only [hb, p1, p3, p26, p27, p28, hh1, hh24, hm, andNot31, go_sem, ↓reduceIte, Nat.reduceAdd, Nat.reduceSub, Nat.reduceEqDiff, Nat.reduceLeDiff, reduceCtorEq]) | (refine wp_gr_d (fun hb => ?_) (fun hb => ?_) <;> simp -implicitDefEqProofs (disch := omega) only [hb, p1, p3, p26, p27, p28, hh1, hh24, hm, andNot31, go_sem, ↓reduceIte, Nat.reduceAdd, Nat.reduceSub, Nat.reduceEqDiff, Nat.reduceLeDiff, reduceCtorEq]) | (refine wp_gt_d (fun hb => ?_) (fun hb => ?_) <;> simp -implicitDefEqProofs (disch := omega) only [hb, p1, p3, p26, p27, p28, hh1, hh24, hm, andNot31, go_sem, ↓reduceIte, Nat.reduceAdd, Nat.reduceSub, Nat.reduceEqDiff, Nat.reduceLeDiff, reduceCtorEq]) | (refine wp_gr (fun hb => ?_) (fun hb => ?_) <;> simp -implicitDefEqProofs (disch := omega) only [hb, p1, p3, p26, p27, p28, hh1, hh24, hm, andNot31, go_sem, ↓reduceIte, Nat.reduceAdd, Nat.reduceSub, Nat.reduceEqDiff, Nat.reduceLeDiff, reduceCtorEq]) | (refine wp_gt (fun hb => ?_) (fun hb => ?_) <;> simp -implicitDefEqProofs (disch := omega) only [hb, p1, p3, p26, p27, p28, hh1, hh24, hm, andNot31, go_sem, ↓reduceIte, Nat.reduceAdd, Nat.reduceSub, Nat.reduceEqDiff, Nat.reduceLeDiff, reduceCtorEq]) | (refine wp_nt_d (fun hb => ?_) (fun hb => ?_) <;> simp -implicitDefEqProofs (disch := omega) only [hb, p1, p3, p26, p27, p28, hh1, hh24, hm, andNot31, go_sem, ↓reduceIte, Nat.reduceAdd, Nat.reduceSub, Nat.reduceEqDiff, Nat.reduceLeDiff, reduceCtorEq]) | (refine wp_nt (fun hb => ?_) (fun hb => ?_) <;> simp -implicitDefEqProofs (disch := omega) only [hb, p1, p3, p26, p27, p28, hh1, hh24, hm, andNot31, go_sem, ↓reduceIte, Nat.reduceAdd, Nat.reduceSub, Nat.reduceEqDiff, Nat.reduceLeDiff, reduceCtorEq]) | (refine wp_if_d (fun hb => ?_) (fun hb => ?_) <;> simp -implicitDefEqProofs (disch := omega) only [hb, p1, p3, p26, p27, p28, hh1, hh24, hm, andNot31, go_sem, ↓reduceIte, Nat.reduceAdd, Nat.reduceSub, Nat.reduceEqDiff, Nat.reduceLeDiff, reduceCtorEq]) | (refine wp_if (fun hb => ?_) (fun hb => ?_) <;> simp -implicitDefEqProofs (disch := omega) only [hb, p1, p3, p26, p27, p28, hh1, hh24, hm, andNot31, go_sem, ↓reduceIte, Nat.reduceAdd, Nat.reduceSub, Nat.reduceEqDiff, Nat.reduceLeDiff, reduceCtorEq]))
        all_goals first
          | (exfalso; omega)
          | (rw [treeOk_false_of_node hm (nodeOk_bad hbad)])
    · have hke : k = t.nodes.length := by omega
      subst hke
      rw [List.take_length] at hup
      have hla : t.nodes[((t.nodes.length : Int) - 1).toNat]? = some t.nodes[t.nodes.length - 1] := by
        rw [show ((t.nodes.length : Int) - 1).toNat = t.nodes.length - 1 by omega]
        exact List.getElem?_eq_getElem (by omega)
      have hlast : t.nodes.getLast? = some t.nodes[t.nodes.length - 1] := by
        rw [List.getLast?_eq_getElem?]
        exact List.getElem?_eq_getElem (by omega)
      generalize t.nodes[t.nodes.length - 1] = l at hla hlast
      have hok : nodesOk [] t.nodes = true := (nodesOk_iff _ _).2 fun i n hn => by simpa using hnok i n (List.getElem?_eq_some_iff.1 hn).1 hn
      have hk2 : t.nodes.all (fun n => decide ((up t.nodes n.id).length ≤ 9)) = true := by
        rw [List.all_eq_true]
        intro n hn
        obtain ⟨i, hi⟩ := List.getElem?_of_mem hn
        simpa using hup i n (List.getElem?_eq_some_iff.1 hi).1 hi
      have hp0 : 0 ≤ (t.nodes.length : Int) - 1 := by omega
      simp -implicitDefEqProofs (disch := omega) only [p1, p3, p26, p27, p28, hh1, hh24, hge, hla, hp0, go_sem, ↓reduceIte, Nat.reduceAdd, Nat.reduceSub, Nat.reduceEqDiff, Nat.reduceLeDiff, reduceCtorEq]
      repeat' (first | (refine wp_grn_d (fun hb => ?_) (fun hb => ?_) <;> simp -implicitDefEqProofs (disch := omega) only [hb, p1, p3, p26, p27, p28, hh1, hh24, hla, go_sem, ↓reduceIte, Nat.reduceAdd, Nat.reduceSub, Nat.reduceEqDiff, Nat.reduceLeDiff, reduceCtorEq]) | (refine wp_gtn_d (fun hb => ?_) (fun hb => ?_) <;> simp -implicitDefEqProofs (disch := omega) only [hb, p1, p3, p26, p27, p28, hh1, hh24, hla, go_sem, ↓reduceIte, Nat.reduceAdd, Nat.reduceSub, Nat.reduceEqDiff, Nat.reduceLeDiff, reduceCtorEq]) | (refine wp_gr_d (fun hb => ?_) (fun hb => ?_) <;> simp -implicitDefEqProofs (disch := omega) only [hb, p1, p3, p26, p27, p28, hh1, hh24, hla, go_sem, ↓reduceIte, Nat.reduceAdd, Nat.reduceSub, Nat.reduceEqDiff, Nat.reduceLeDiff, reduceCtorEq]) | (refine wp_gt_d (fun hb => ?_) (fun hb => ?_) <;> simp -implicitDefEqProofs (disch := omega) only [hb, p1, p3, p26, p27, p28, hh1, hh24, hla, go_sem, ↓reduceIte, Nat.reduceAdd, Nat.reduceSub, Nat.reduceEqDiff, Nat.reduceLeDiff, reduceCtorEq]) | (refine wp_gr (fun hb => ?_) (fun hb => ?_) <;> simp -implicitDefEqProofs (disch := omega) only [hb, p1, p3, p26, p27, p28, hh1, hh24, hla, go_sem, ↓reduceIte, Nat.reduceAdd, Nat.reduceSub, Nat.reduceEqDiff, Nat.reduceLeDiff, reduceCtorEq]) | (refine wp_gt (fun hb => ?_) (fun hb => ?_) <;> simp -implicitDefEqProofs (disch := omega) only [hb, p1, p3, p26, p27, p28, hh1, hh24, hla, go_sem, ↓reduceIte, Nat.reduceAdd, Nat.reduceSub, Nat.reduceEqDiff, Nat.reduceLeDiff, reduceCtorEq]) | (refine wp_nt_d (fun hb => ?_) (fun hb => ?_) <;> simp -implicitDefEqProofs (disch := omega) only [hb, p1, p3, p26, p27, p28, hh1, hh24, hla, go_sem, ↓reduceIte, Nat.reduceAdd, Nat.reduceSub, Nat.reduceEqDiff, Nat.reduceLeDiff, reduceCtorEq]) | (refine wp_nt (fun hb => ?_) (fun hb => ?_) <;> simp -implicitDefEqProofs (disch := omega) only [hb, p1, p3, p26, p27, p28, hh1, hh24, hla, go_sem, ↓reduceIte, Nat.reduceAdd, Nat.reduceSub, Nat.reduceEqDiff, Nat.reduceLeDiff, reduceCtorEq]) | (refine wp_if_d (fun hb => ?_) (fun hb => ?_) <;> simp -implicitDefEqProofs (disch := omega) only [hb, p1, p3, p26, p27, p28, hh1, hh24, hla, go_sem, ↓reduceIte, Nat.reduceAdd, Nat.reduceSub, Nat.reduceEqDiff, Nat.reduceLeDiff, reduceCtorEq]) | (refine wp_if (fun hb => ?_) (fun hb => ?_) <;> simp -implicitDefEqProofs (disch := omega) only [hb, p1, p3, p26, p27, p28, hh1, hh24, hla, go_sem, ↓reduceIte, Nat.reduceAdd, Nat.reduceSub, Nat.reduceEqDiff, Nat.reduceLeDiff, reduceCtorEq]))
      all_goals
        simp only [treeOk, hok, hk2, hlast, show (1 ≤ t.nodes.length ∧ t.nodes.length ≤ 64) by omega, Prod.mk.injEq, VVal.p.injEq, PV.bool.injEq, and_true, decide_true, Bool.true_and]
        rw [Bool.eq_iff_iff]
        simp only [decide_eq_true_eq, Bool.false_eq_true, false_iff]
        omega
end Go.V
