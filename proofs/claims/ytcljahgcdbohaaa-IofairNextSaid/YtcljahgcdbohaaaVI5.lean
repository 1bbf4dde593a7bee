/- The value machine V at work: the share of a group; made weights; the examples of chapter 32. -/
import Derived.Test.YtcljahgcdbohaaaVI4
import Derived.Test.YtcljahgcdbohaaaVG2
set_option linter.unusedSimpArgs false
set_option linter.unusedVariables false
namespace Go.V
-- closer: sumI

def Rep4 (ks : List MKey) (vs : List PV) (L : List Ch) (sh : Int → Int) : Prop := ∀ id, mget ks vs (.int id) = if (L.any fun x => decide (x.group = id)) = true then some (.int .i64 (sh id)) else none
theorem Rep4.put {ks : List MKey} {vs : List PV} {L : List Ch} {sh : Int → Int} (h : Rep4 ks vs L sh) {c : Ch} (hc : c.own = sh c.group) : Rep4 (mput ks vs (.int c.group) (.int .i64 c.own)).1 (mput ks vs (.int c.group) (.int .i64 c.own)).2 (L ++ [c]) sh := by
  intro id
  rw [mget_mput]
  by_cases hg : id = c.group
  · subst hg
    simp [hc]
  · have hg' : ¬ c.group = id := fun he => hg he.symm
    simp only [hg', MKey.int.injEq, hg, if_false, List.any_append, List.any_cons, List.any_nil, decide_false, Bool.or_false]
    exact h id

set_option maxHeartbeats 1000000 in
theorem of_eq {t : Tr} (h : TreeOk t) {l : List Ch} (hl : AscOk (knownN t.nodes) 1 10000 l) (hll : l.length < 1000000) (active : List Int) (ha : active.length < 1000000) : ∃ ks vs, V 85 [t.vv, .p (chsP l), .p (intsP active)] [] = some (.p (.map (.int .i64) ks vs), []) ∧
    ∀ (i : Nat) (n : Nd), t.nodes[i]? = some n → i ≠ 0 → (mget ks vs (.int n.id)).getD (.int .i64 0) = .int .i64 (shr t (wtOf l) (onB t active) n.id) := by
  have hlen := h.len
  obtain ⟨r, hr, hr1⟩ := root_at h
  have hu := onB_up h active
  obtain ⟨kb, vb, hb, hrep⟩ := busy_eq t active (by omega) ha
  have hsh := shares_eq0 h hl hll hrep t.nodes.length 0 r 1073741824 hr (by omega) (by omega) (by omega)
  have hroot := shr_root t h (wtOf l) (onB t active)
  have hval := sharesF_val h (wtOf l) (onB t active) t.nodes.length 0 r hr
  have hall := sharesF_all h (wtOf l) hu t.nodes.length 0 r 1073741824 hr (by omega)
  have hsub := subF_length h hr (k := t.nodes.length) (by omega)
  have hsl := sharesF_len t (wtOf l) (onB t active) t.nodes.length r.id 1073741824
  rw [hr1] at hsh hval hall hsl hsub
  rw [hroot] at hval
  generalize sharesF t (wtOf l) (onB t active) t.nodes.length 1 1073741824 = S at hsh hval hall hsl
  suffices hw : wp (callF V vf85 [t.vv, .p (chsP l), .p (intsP active)] []) (fun r => ∃ ks vs, r = (.p (.map (.int .i64) ks vs), []) ∧ Rep4 ks vs S (shr t (wtOf l) (onB t active))) by
    obtain ⟨q, hq, ks, vs, rfl, hrep4⟩ := hw
    refine ⟨ks, vs, V_fix (vf := vf85) rfl hq, fun i n hn hi => ?_⟩
    rw [hrep4 n.id]
    by_cases hon : onB t active n.id = true
    · obtain ⟨x, hx, hxe⟩ := hall i n hn hon (root_anc h i n hn)
      rw [if_pos (List.any_eq_true.2 ⟨x, hx, decide_eq_true hxe⟩)]
      rfl
    · rw [if_neg]
      · rw [shr_step h _ _ hn hi, if_neg hon]
        rfl
      · intro hany
        obtain ⟨x, hx, hxe⟩ := List.any_eq_true.1 hany
        have := (hval x hx).1
        rw [of_decide_eq_true hxe] at this
        exact hon this
  simp -implicitDefEqProofs (disch := omega) only [vf85, vb85, hb, hsh, go_sem, ↓reduceIte, Nat.reduceAdd, Nat.reduceSub, Nat.reduceEqDiff, Nat.reduceLeDiff, reduceCtorEq]
  obtain ⟨I, hI⟩ : ∃ I : Nat → St → Prop, ∀ k s, I k s ↔ ∃ (ks : List MKey) (vs : List PV), Rep4 ks vs (S.take k) (shr t (wtOf l) (onB t active)) ∧ s.pe 7 = .mref (.slot 10 0) 0 ∧ s.pe 16 = .own (.slot 16 1) 0 0 S.length ∧ s.pe 17 = .p (.int .i64 ↑S.length) ∧ s.pe 18 = .p (.int .i64 k) ∧ s.h (.slot 10 0) = some (0, Ob.map (KT.int IntKind.i64) ks vs) ∧ s.h (.slot 16 1) = some (0, Ob.arr 2 (List.map Ch.pv S)) := ⟨_, fun _ _ => Iff.rfl⟩
  refine wp_count (S.length) I ?_ ?_
  · refine (hI _ _).2 ⟨[], [], ?_, ?_, ?_, ?_, ?_, ?_, ?_⟩
    · exact fun id => rfl
    all_goals first | with_reducible rfl | (simp -implicitDefEqProofs (disch := omega) only [List.map_append, go_sem, ↓reduceIte, Nat.reduceAdd, Nat.reduceSub, Nat.reduceEqDiff, Nat.reduceLeDiff, reduceCtorEq]; first | done | rfl | (simp; done) | (congr 2; omega) | (congr 1; omega) | (congr 3; omega) | (simp; omega) | (congr 2; simp; omega) | (simp [sumI]; done) | (simp [sumI]; omega) | (refine ⟨_, rfl, ?_⟩; first | rfl | (simp -implicitDefEqProofs (disch := omega) only [List.map_append, go_sem, ↓reduceIte, Nat.reduceAdd, Nat.reduceSub, Nat.reduceEqDiff, Nat.reduceLeDiff, reduceCtorEq]; done))) | rfl | omega | (congr 2; omega)
  intro k s hk hIk
  obtain ⟨ks, vs, hrep4, h7, h16, h17, h18, hh10_0, hh16_1⟩ := (hI _ _).1 hIk
  clear hIk
  simp -implicitDefEqProofs (disch := omega) only [h7, h16, h17, h18, hh10_0, hh16_1, go_sem, ↓reduceIte, Nat.reduceAdd, Nat.reduceSub, Nat.reduceEqDiff, Nat.reduceLeDiff, reduceCtorEq]
  refine wp_if_d (fun hlt => ?_) (fun hge => ?_)
  · have hm : S[k]? = some S[k] := List.getElem?_eq_getElem hlt
    have htk : S.take (k + 1) = S.take k ++ [S[k]] := by rw [List.take_add_one, hm]; rfl
    generalize S[k] = c at hm htk
    have hnext := hrep4.put (hval c (List.mem_of_getElem? hm)).2
    rw [← htk] at hnext
    simp -implicitDefEqProofs (disch := omega) only [h7, h16, h17, h18, hh10_0, hh16_1, hlt, hm, go_sem, ↓reduceIte, Nat.reduceAdd, Nat.reduceSub, Nat.reduceEqDiff, Nat.reduceLeDiff, reduceCtorEq]
    try refine And.intro (by omega) ?_
    refine (hI _ _).2 ⟨(mput ks vs (.int c.group) (.int .i64 c.own)).1, (mput ks vs (.int c.group) (.int .i64 c.own)).2, ?_, ?_, ?_, ?_, ?_, ?_, ?_⟩
    · exact hnext
    all_goals first | with_reducible rfl | (simp -implicitDefEqProofs (disch := omega) only [h7, h16, h17, h18, hh10_0, hh16_1, List.map_append, go_sem, ↓reduceIte, Nat.reduceAdd, Nat.reduceSub, Nat.reduceEqDiff, Nat.reduceLeDiff, reduceCtorEq]; first | done | rfl | (simp; done) | (congr 2; omega) | (congr 1; omega) | (congr 3; omega) | (simp; omega) | (congr 2; simp; omega) | (simp [sumI]; done) | (simp [sumI]; omega) | (refine ⟨_, rfl, ?_⟩; first | rfl | (simp -implicitDefEqProofs (disch := omega) only [h7, h16, h17, h18, hh10_0, hh16_1, List.map_append, go_sem, ↓reduceIte, Nat.reduceAdd, Nat.reduceSub, Nat.reduceEqDiff, Nat.reduceLeDiff, reduceCtorEq]; done))) | rfl | omega | (congr 2; omega)
  · rw [List.take_of_length_le (by omega)] at hrep4
    simp -implicitDefEqProofs (disch := omega) only [h7, h16, h17, h18, hh10_0, hh16_1, hge, go_sem, ↓reduceIte, Nat.reduceAdd, Nat.reduceSub, Nat.reduceEqDiff, Nat.reduceLeDiff, reduceCtorEq]
    exact ⟨_, _, rfl, hrep4⟩

theorem validW_iff (t : Tr) (l : List Ch) : validW t l = true ↔ TreeOk t ∧ AscOk (knownN t.nodes) 1 10000 l := by
  unfold validW
  rw [Bool.and_eq_true, treeOk_iff, ascOk_iff]

theorem share_at {t : Tr} (h : TreeOk t) {l : List Ch} (hl : AscOk (knownN t.nodes) 1 10000 l) (active : List Int) (ha : active.length < 1000000) {i : Nat} {n : Nd} (hn : t.nodes[i]? = some n) : V 43 [t.vv, .p (chsP l), .p (intsP active), .p (.int .i64 n.id)] [] = some (.tup [.p (.int .i64 (shr t (wtOf l) (onB t active) n.id)), .p (.int .i64 0)], []) := by
  refine V_wp (vf := vf43) rfl ?_
  have hlen := h.len
  have hll := asc_length hl
  have h1 := ivalid_eq t l h.fits (by omega) (by omega)
  rw [(validW_iff t l).2 ⟨h, hl⟩] at h1
  have h2 := known_eq t n.id (by omega)
  rw [show knownN t.nodes n.id = true by rw [knownN, findN_unique h.inc hn]; rfl] at h2
  by_cases hr : n.id = 1
  · rw [hr] at h2 ⊢
    rw [shr_root t h]
    simp -implicitDefEqProofs (disch := omega) only [vf43, vb43, h1, h2, go_sem, ↓reduceIte, Nat.reduceAdd, Nat.reduceSub, Nat.reduceEqDiff, Nat.reduceLeDiff, reduceCtorEq]
  · obtain ⟨ks, vs, h3, hg⟩ := of_eq h hl (by omega) active ha
    have hi : i ≠ 0 := by
      rintro rfl
      rcases h.nodeAt hn with ⟨_, h4, _⟩ | ⟨h4, _⟩
      · exact hr h4
      · omega
    have hgn := hg i n hn hi
    generalize shr t (wtOf l) (onB t active) n.id = v at hgn
    simp -implicitDefEqProofs (disch := omega) only [vf43, vb43, h1, h2, hr, h3, hgn, go_sem, ↓reduceIte, Nat.reduceAdd, Nat.reduceSub, Nat.reduceEqDiff, Nat.reduceLeDiff, reduceCtorEq]

/-! ### made weights and lists -/

def wtPicks (x : Int) : List Int := [1, 100, 300, 10000, 50, 200, 7, 1 + x]
def weightV (L : List Int) (a : Nat) : Int := (wtPicks (nextV L a 1000)).getD (nextV L (nextA L a 1000) 8).toNat 0
theorem weight_eq (L : List Int) (a : Nat) (hL : L.length < 4611686018427387904) : V 82 [.ptr (.arg 0 0) 0 0] [diceB L a] = some (.p (.int .i64 (weightV L a)), [diceB L (nextA L (nextA L a 1000) 8)]) := by
  refine V_wp (vf := vf82) rfl ?_
  have h1 := next_eq L a 1000 hL (by omega)
  have a0 := nextV_nonneg L a 1000
  have a1 := nextV_lt L a (n := 1000) (by omega)
  have h2 := next_eq L (nextA L a 1000) 8 hL (by omega)
  have b0 := nextV_nonneg L (nextA L a 1000) 8
  have b1 := nextV_lt L (nextA L a 1000) (n := 8) (by omega)
  unfold weightV
  generalize nextV L a 1000 = x at h1 a0 a1
  generalize nextV L (nextA L a 1000) 8 = y at h2 b0 b1
  generalize nextA L (nextA L a 1000) 8 = a2 at h2
  generalize nextA L a 1000 = a1' at h1 h2
  have hm : (wtPicks x)[y.toNat]? = some ((wtPicks x).getD y.toNat 0) := by
    rw [List.getD_eq_getElem?_getD, List.getElem?_eq_getElem (by simp [wtPicks]; omega)]; rfl
  generalize (wtPicks x).getD y.toNat 0 = z at hm
  have hm' : ([PV.int .i64 1, .int .i64 100, .int .i64 300, .int .i64 10000, .int .i64 50, .int .i64 200, .int .i64 7, .int .i64 (1 + x)] : List PV)[y.toNat]? = some (.int .i64 z) := by
    have : ((wtPicks x).map (PV.int .i64))[y.toNat]? = some (.int .i64 z) := by rw [List.getElem?_map, hm]; rfl
    exact this
  have hlt : y.toNat < 8 := by omega
  simp -implicitDefEqProofs (disch := omega) only [vf82, vb82, h1, h2, hm', hlt, go_sem, ↓reduceIte, Nat.reduceAdd, Nat.reduceSub, Nat.reduceEqDiff, Nat.reduceLeDiff, reduceCtorEq]
theorem weightV_range (L : List Int) (a : Nat) : 1 ≤ weightV L a ∧ weightV L a ≤ 10000 := by
  have a0 := nextV_nonneg L a 1000
  have a1 := nextV_lt L a (n := 1000) (by omega)
  have b0 := nextV_nonneg L (nextA L a 1000) 8
  have b1 := nextV_lt L (nextA L a 1000) (n := 8) (by omega)
  unfold weightV
  generalize nextV L a 1000 = x at a0 a1
  generalize nextV L (nextA L a 1000) 8 = y at b0 b1
  have hmem : (wtPicks x).getD y.toNat 0 ∈ wtPicks x := by
    rw [List.getD_eq_getElem?_getD, List.getElem?_eq_getElem (by simp [wtPicks]; omega)]
    exact List.getElem_mem _
  generalize (wtPicks x).getD y.toNat 0 = z at hmem
  simp [wtPicks] at hmem
  omega

def dHeavy (L : List Int) : List Nd → Nat → List Ch × Nat
  | [], a => ([], a)
  | n :: ns, a => if nextV L a 2 = 1 then (⟨n.id, weightV L (nextA L a 2)⟩ :: (dHeavy L ns (nextA L (nextA L (nextA L a 2) 1000) 8)).1, (dHeavy L ns (nextA L (nextA L (nextA L a 2) 1000) 8)).2) else dHeavy L ns (nextA L a 2)

set_option maxHeartbeats 1000000 in
theorem heavy_eq (L : List Int) (a : Nat) (t : Tr) (hL : L.length < 4611686018427387904) (hl : t.nodes.length < 1000000) : V 42 [.ptr (.arg 0 0) 0 0, t.vv] [diceB L a] = some (.fresh 2 ((dHeavy L t.nodes a).1.map Ch.pv), [diceB L (dHeavy L t.nodes a).2]) := by
  refine V_wp (vf := vf42) rfl ?_
  simp -implicitDefEqProofs (disch := omega) only [vf42, vb42, go_sem, ↓reduceIte, Nat.reduceAdd, Nat.reduceSub, Nat.reduceEqDiff, Nat.reduceLeDiff, reduceCtorEq]
  obtain ⟨I, hI⟩ : ∃ I : Nat → St → Prop, ∀ k s, I k s ↔ ∃ (b : Nat) (acc : List Ch) (w : Nat), dHeavy L t.nodes a = (acc ++ (dHeavy L (t.nodes.drop k) b).1, (dHeavy L (t.nodes.drop k) b).2) ∧ acc.length ≤ k ∧ s.pe 0 = .ptr (Id.arg 0 0) 0 0 ∧ s.pe 3 = .ptr (.slot 3 0) 0 0 ∧ s.pe 5 = .own (.slot 5 0) w 0 acc.length ∧ s.pe 6 = .p (.int .i64 k) ∧ s.h (.arg 0 0) = some (0, diceB L b) ∧ s.h (.slot 3 0) = some (0, Ob.box [.p (nodesP t.nodes), .p (.int .i64 t.next)]) ∧ s.h (.slot 5 0) = some (w, Ob.arr 2 (acc.map Ch.pv)) := ⟨_, fun _ _ => Iff.rfl⟩
  refine wp_count (t.nodes.length) I ?_ ?_
  · refine (hI _ _).2 ⟨a, [], 0, ?_, ?_, ?_, ?_, ?_, ?_, ?_, ?_, ?_⟩
    · exact rfl
    · exact by first | rfl | omega | (simp; done) | (simp; omega)
    all_goals first | with_reducible rfl | (simp -implicitDefEqProofs (disch := omega) only [h7, h16, h17, h18, hh10_0, hh16_1, List.map_append, go_sem, ↓reduceIte, Nat.reduceAdd, Nat.reduceSub, Nat.reduceEqDiff, Nat.reduceLeDiff, reduceCtorEq]; first | done | rfl | (simp; done) | (congr 2; omega) | (congr 1; omega) | (congr 3; omega) | (simp; omega) | (congr 2; simp; omega) | (simp [sumI]; done) | (simp [sumI]; omega) | (refine ⟨_, rfl, ?_⟩; first | rfl | (simp -implicitDefEqProofs (disch := omega) only [h7, h16, h17, h18, hh10_0, hh16_1, List.map_append, go_sem, ↓reduceIte, Nat.reduceAdd, Nat.reduceSub, Nat.reduceEqDiff, Nat.reduceLeDiff, reduceCtorEq]; done))) | rfl | omega | (congr 2; omega)
  intro k s hk hIk
  obtain ⟨b, acc, w, hd, hal, h0, h3, h5, h6, ha0, hh3_0, hh5_0⟩ := (hI _ _).1 hIk
  clear hIk
  simp -implicitDefEqProofs (disch := omega) only [h0, h3, h5, h6, ha0, hh3_0, hh5_0, go_sem, ↓reduceIte, Nat.reduceAdd, Nat.reduceSub, Nat.reduceEqDiff, Nat.reduceLeDiff, reduceCtorEq]
  refine wp_if_d (fun hlt => ?_) (fun hge => ?_)
  · have hm : t.nodes[k]? = some t.nodes[k] := List.getElem?_eq_getElem hlt
    have hdr : t.nodes.drop k = t.nodes[k] :: t.nodes.drop (k + 1) := List.drop_eq_getElem_cons hlt
    generalize t.nodes[k] = m at hm hdr
    rw [hdr, dHeavy] at hd
    have hb : V 72 [.ptr (.arg 0 0) 0 0, .p (.int .i64 2)] [diceB L b] = some (.p (.bool (decide (nextV L b 2 = 1))), [diceB L (nextA L b 2)]) := bool_eq L b 2 hL (by omega) (by omega)
    have hp := weight_eq L (nextA L b 2) hL
    generalize weightV L (nextA L b 2) = pv at hp hd
    generalize nextA L (nextA L (nextA L b 2) 1000) 8 = b2 at hp hd
    generalize nextA L b 2 = b1 at hb hp hd
    by_cases hx : nextV L b 2 = 1
    · rw [if_pos hx] at hd
      rw [hx] at hb
      simp -implicitDefEqProofs (disch := omega) only [h0, h3, h5, h6, ha0, hh3_0, hh5_0, hlt, hm, hb, hp, decide_true, go_sem, ↓reduceIte, Nat.reduceAdd, Nat.reduceSub, Nat.reduceEqDiff, Nat.reduceLeDiff, reduceCtorEq]
      try refine And.intro (by omega) ?_
      refine (hI _ _).2 ⟨b2, acc ++ [⟨m.id, pv⟩], w + 1, ?_, ?_, ?_, ?_, ?_, ?_, ?_, ?_, ?_⟩
      · exact by rw [hd]; simp
      · exact by simp; omega
      all_goals first | with_reducible rfl | (simp -implicitDefEqProofs (disch := omega) only [h0, h3, h5, h6, ha0, hh3_0, hh5_0, List.map_append, go_sem, ↓reduceIte, Nat.reduceAdd, Nat.reduceSub, Nat.reduceEqDiff, Nat.reduceLeDiff, reduceCtorEq]; first | done | rfl | (simp; done) | (congr 2; omega) | (congr 1; omega) | (congr 3; omega) | (simp; omega) | (congr 2; simp; omega) | (simp [sumI]; done) | (simp [sumI]; omega) | (refine ⟨_, rfl, ?_⟩; first | rfl | (simp -implicitDefEqProofs (disch := omega) only [h0, h3, h5, h6, ha0, hh3_0, hh5_0, List.map_append, go_sem, ↓reduceIte, Nat.reduceAdd, Nat.reduceSub, Nat.reduceEqDiff, Nat.reduceLeDiff, reduceCtorEq]; done))) | rfl | omega | (congr 2; omega)
    · rw [if_neg hx] at hd
      simp -implicitDefEqProofs (disch := omega) only [h0, h3, h5, h6, ha0, hh3_0, hh5_0, hlt, hm, hb, hx, go_sem, ↓reduceIte, Nat.reduceAdd, Nat.reduceSub, Nat.reduceEqDiff, Nat.reduceLeDiff, reduceCtorEq]
      try refine And.intro (by omega) ?_
      refine (hI _ _).2 ⟨b1, acc, w, ?_, ?_, ?_, ?_, ?_, ?_, ?_, ?_, ?_⟩
      · exact hd
      · exact by omega
      all_goals first | with_reducible rfl | (simp -implicitDefEqProofs (disch := omega) only [h0, h3, h5, h6, ha0, hh3_0, hh5_0, List.map_append, go_sem, ↓reduceIte, Nat.reduceAdd, Nat.reduceSub, Nat.reduceEqDiff, Nat.reduceLeDiff, reduceCtorEq]; first | done | rfl | (simp; done) | (congr 2; omega) | (congr 1; omega) | (congr 3; omega) | (simp; omega) | (congr 2; simp; omega) | (simp [sumI]; done) | (simp [sumI]; omega) | (refine ⟨_, rfl, ?_⟩; first | rfl | (simp -implicitDefEqProofs (disch := omega) only [h0, h3, h5, h6, ha0, hh3_0, hh5_0, List.map_append, go_sem, ↓reduceIte, Nat.reduceAdd, Nat.reduceSub, Nat.reduceEqDiff, Nat.reduceLeDiff, reduceCtorEq]; done))) | rfl | omega | (congr 2; omega)
  · rw [List.drop_of_length_le (by omega), dHeavy] at hd
    rw [hd]
    simp -implicitDefEqProofs (disch := omega) only [h0, h3, h5, h6, ha0, hh3_0, hh5_0, hge, go_sem, ↓reduceIte, Nat.reduceAdd, Nat.reduceSub, Nat.reduceEqDiff, Nat.reduceLeDiff, reduceCtorEq]
    try simp

theorem dHeavy_asc (L : List Int) {t : Tr} (h : TreeOk t) (a : Nat) : AscOk (knownN t.nodes) 1 10000 (dHeavy L t.nodes a).1 := by
  have key : ∀ (ns : List Nd) (a : Nat), (ns.Pairwise fun x y => x.id < y.id) → (∀ n ∈ ns, n ∈ t.nodes) → AscOk (knownN t.nodes) 1 10000 (dHeavy L ns a).1 ∧ ∀ c ∈ (dHeavy L ns a).1, ∃ n ∈ ns, n.id = c.group := by
    intro ns
    induction ns with
    | nil =>
      intro a _ _
      exact ⟨⟨fun c hc => by simp [dHeavy] at hc, by simp [dHeavy], fun c hc => by simp [dHeavy] at hc⟩, fun c hc => by simp [dHeavy] at hc⟩
    | cons n ns ih =>
      intro a hp hm
      rw [List.pairwise_cons] at hp
      unfold dHeavy
      by_cases hx : nextV L a 2 = 1
      · rw [if_pos hx]
        obtain ⟨i1, i2⟩ := ih (nextA L (nextA L (nextA L a 2) 1000) 8) hp.2 fun x hx => hm x (List.mem_cons_of_mem _ hx)
        refine ⟨⟨fun c hc => ?_, ?_, fun c hc => ?_⟩, fun c hc => ?_⟩
        · rcases List.mem_cons.1 hc with rfl | hc
          · show (findN t.nodes n.id).isSome = true
            rw [findN, List.find?_isSome]
            exact ⟨n, hm n (List.mem_cons_self ..), by simp⟩
          · exact i1.known c hc
        · rw [List.pairwise_cons]
          refine ⟨fun c hc => ?_, i1.inc⟩
          obtain ⟨x, hx1, hx2⟩ := i2 c hc
          have := hp.1 x hx1
          show n.id < c.group
          omega
        · rcases List.mem_cons.1 hc with rfl | hc
          · exact weightV_range L _
          · exact i1.range c hc
        · rcases List.mem_cons.1 hc with rfl | hc
          · exact ⟨n, List.mem_cons_self .., rfl⟩
          · obtain ⟨x, hx1, hx2⟩ := i2 c hc
            exact ⟨x, List.mem_cons_of_mem _ hx1, hx2⟩
      · rw [if_neg hx]
        obtain ⟨i1, i2⟩ := ih (nextA L a 2) hp.2 fun x hx => hm x (List.mem_cons_of_mem _ hx)
        exact ⟨i1, fun c hc => by
          obtain ⟨x, hx1, hx2⟩ := i2 c hc
          exact ⟨x, List.mem_cons_of_mem _ hx1, hx2⟩⟩
  exact (key t.nodes a h.inc fun x hx => hx).1

def someL (L : List Int) : Nat → Nat → List Int × Nat
  | 0, a => ([], a)
  | k + 1, a => ((nextV L a 12 - 2) :: (someL L k (nextA L a 12)).1, (someL L k (nextA L a 12)).2)
def dSome (L : List Int) (a : Nat) : List Int × Nat := someL L (nextV L a 6).toNat (nextA L a 6)
theorem someL_len (L : List Int) : ∀ (k a : Nat), (someL L k a).1.length = k
  | 0, _ => rfl
  | k + 1, a => by simp [someL, someL_len L k]
theorem dSome_len (L : List Int) (a : Nat) : (dSome L a).1.length < 6 := by
  have := nextV_nonneg L a 6
  have := nextV_lt L a (n := 6) (by omega)
  rw [dSome, someL_len]
  omega

set_option maxHeartbeats 1000000 in
theorem some_eq (L : List Int) (a : Nat) (hL : L.length < 4611686018427387904) : V 44 [.ptr (.arg 0 0) 0 0] [diceB L a] = some (.fresh 1 ((dSome L a).1.map (.int .i64)), [diceB L (dSome L a).2]) := by
  refine V_wp (vf := vf44) rfl ?_
  have h1 := next_eq L a 6 hL (by omega)
  have a0 := nextV_nonneg L a 6
  have a1 := nextV_lt L a (n := 6) (by omega)
  unfold dSome
  obtain ⟨N, hN⟩ : ∃ N : Nat, nextV L a 6 = N := ⟨(nextV L a 6).toNat, by omega⟩
  rw [hN] at h1 a1 ⊢
  rw [Int.toNat_natCast]
  generalize nextA L a 6 = a' at h1
  simp -implicitDefEqProofs (disch := omega) only [vf44, vb44, h1, go_sem, ↓reduceIte, Nat.reduceAdd, Nat.reduceSub, Nat.reduceEqDiff, Nat.reduceLeDiff, reduceCtorEq]
  obtain ⟨I, hI⟩ : ∃ I : Nat → St → Prop, ∀ k s, I k s ↔ ∃ (b : Nat) (acc : List Int) (w : Nat), someL L N a' = (acc ++ (someL L (N - k) b).1, (someL L (N - k) b).2) ∧ acc.length ≤ k ∧ s.pe 0 = .ptr (Id.arg 0 0) 0 0 ∧ s.pe 3 = .own (.slot 3 0) w 0 acc.length ∧ s.pe 4 = .p (.int .i64 ((N : Int) - k)) ∧ s.h (.arg 0 0) = some (0, diceB L b) ∧ s.h (.slot 3 0) = some (w, Ob.arr 1 (acc.map (.int .i64))) := ⟨_, fun _ _ => Iff.rfl⟩
  refine wp_count (N) I ?_ ?_
  · refine (hI _ _).2 ⟨a', [], 0, ?_, ?_, ?_, ?_, ?_, ?_, ?_⟩
    · exact rfl
    · exact by first | rfl | omega | (simp; done) | (simp; omega)
    all_goals first | with_reducible rfl | (simp -implicitDefEqProofs (disch := omega) only [h0, h3, h5, h6, ha0, hh3_0, hh5_0, List.map_append, go_sem, ↓reduceIte, Nat.reduceAdd, Nat.reduceSub, Nat.reduceEqDiff, Nat.reduceLeDiff, reduceCtorEq]; first | done | rfl | (simp; done) | (congr 2; omega) | (congr 1; omega) | (congr 3; omega) | (simp; omega) | (congr 2; simp; omega) | (simp [sumI]; done) | (simp [sumI]; omega) | (refine ⟨_, rfl, ?_⟩; first | rfl | (simp -implicitDefEqProofs (disch := omega) only [h0, h3, h5, h6, ha0, hh3_0, hh5_0, List.map_append, go_sem, ↓reduceIte, Nat.reduceAdd, Nat.reduceSub, Nat.reduceEqDiff, Nat.reduceLeDiff, reduceCtorEq]; done))) | rfl | omega | (congr 2; omega)
  intro k s hk hIk
  obtain ⟨b, acc, w, hd, hal, h0, h3, h4, ha0, hh3_0⟩ := (hI _ _).1 hIk
  clear hIk
  simp -implicitDefEqProofs (disch := omega) only [h0, h3, h4, ha0, hh3_0, go_sem, ↓reduceIte, Nat.reduceAdd, Nat.reduceSub, Nat.reduceEqDiff, Nat.reduceLeDiff, reduceCtorEq]
  refine wp_if_d (fun hlt => ?_) (fun hge => ?_)
  · obtain ⟨r, hr⟩ : ∃ r, N - k = r + 1 := ⟨N - k - 1, by omega⟩
    rw [hr, someL] at hd
    have c1 := next_eq L b 12 hL (by omega)
    have x0 := nextV_nonneg L b 12
    have x1 := nextV_lt L b (n := 12) (by omega)
    generalize nextV L b 12 = x at c1 x0 x1 hd
    generalize nextA L b 12 = b1 at c1 hd
    simp -implicitDefEqProofs (disch := omega) only [h0, h3, h4, ha0, hh3_0, hlt, c1, go_sem, ↓reduceIte, Nat.reduceAdd, Nat.reduceSub, Nat.reduceEqDiff, Nat.reduceLeDiff, reduceCtorEq]
    try refine And.intro (by omega) ?_
    refine (hI _ _).2 ⟨b1, acc ++ [x - 2], w + 1, ?_, ?_, ?_, ?_, ?_, ?_, ?_⟩
    · exact by rw [hd, show N - (k + 1) = r by omega]; simp
    · exact by simp; omega
    all_goals first | with_reducible rfl | (simp -implicitDefEqProofs (disch := omega) only [h0, h3, h4, ha0, hh3_0, List.map_append, go_sem, ↓reduceIte, Nat.reduceAdd, Nat.reduceSub, Nat.reduceEqDiff, Nat.reduceLeDiff, reduceCtorEq]; first | done | rfl | (simp; done) | (congr 2; omega) | (congr 1; omega) | (congr 3; omega) | (simp; omega) | (congr 2; simp; omega) | (simp [sumI]; done) | (simp [sumI]; omega) | (refine ⟨_, rfl, ?_⟩; first | rfl | (simp -implicitDefEqProofs (disch := omega) only [h0, h3, h4, ha0, hh3_0, List.map_append, go_sem, ↓reduceIte, Nat.reduceAdd, Nat.reduceSub, Nat.reduceEqDiff, Nat.reduceLeDiff, reduceCtorEq]; done))) | rfl | omega | (congr 2; omega)
  · rw [show N - k = 0 by omega, someL] at hd
    rw [hd]
    simp -implicitDefEqProofs (disch := omega) only [h0, h3, h4, ha0, hh3_0, hge, go_sem, ↓reduceIte, Nat.reduceAdd, Nat.reduceSub, Nat.reduceEqDiff, Nat.reduceLeDiff, reduceCtorEq]
    try simp

/-! ### the examples of the chapter -/

def pairT : Tr := ⟨[⟨1, 0, ⟨#[]⟩, 0, 0, 0⟩, ⟨2, 1, ⟨#[97]⟩, 0, 0, 0⟩, ⟨3, 1, ⟨#[98]⟩, 0, 0, 0⟩], 4⟩
theorem pairT_ok : TreeOk pairT := (treeOk_iff _).1 (by rfl)
theorem pair_eq : V 47 [] [] = some (pairT.fv, []) := by
  refine V_wp (vf := vf47) rfl ?_
  simp -implicitDefEqProofs (disch := omega) only [vf47, vb47, go_sem, ↓reduceIte, Nat.reduceAdd, Nat.reduceSub, Nat.reduceEqDiff, Nat.reduceLeDiff, reduceCtorEq]
  rfl
theorem pw_asc : AscOk (knownN pairT.nodes) 1 10000 [⟨3, 300⟩] := (ascOk_iff _ _ _ _).1 (by rfl)
theorem px1 : shr pairT (wtOf [⟨3, 300⟩]) (onB pairT [2, 3]) 2 = 268435456 := by rfl
theorem px2 : shr pairT (wtOf [⟨3, 300⟩]) (onB pairT [3, 2]) 3 = 805306368 := by rfl
theorem px3 : shr pairT (wtOf [⟨3, 300⟩]) (onB pairT [2]) 2 = 1073741824 := by rfl
theorem px4 : IssueA pairT [] 2 268435456 10 0 0 = ([⟨2, 40⟩], 0) := by rfl
theorem px5 : mayA pairT [⟨2, 40⟩] 2 39 = false := by rfl
theorem px6 : mayA pairT [⟨2, 40⟩] 2 40 = true := by rfl

set_option maxHeartbeats 2000000 in
theorem sane32_eq : V 41 [] [] = some (.p (.bool true), []) := by
  refine V_wp (vf := vf41) rfl ?_
  have c0 := pair_eq
  have c1 := share_at pairT_ok pw_asc [2, 3] (by decide) (i := 1) (n := ⟨2, 1, ⟨#[97]⟩, 0, 0, 0⟩) rfl
  have c2 := share_at pairT_ok pw_asc [3, 2] (by decide) (i := 2) (n := ⟨3, 1, ⟨#[98]⟩, 0, 0, 0⟩) rfl
  have c3 := share_at pairT_ok pw_asc [2] (by decide) (i := 1) (n := ⟨2, 1, ⟨#[97]⟩, 0, 0, 0⟩) rfl
  have c4 := issue_eq pairT [] 2 268435456 10 0 0 pairT_ok.fits (by decide) (by decide)
  have c5 := isame_eq [⟨2, 40⟩] [⟨2, 40⟩] (by decide)
  have c6 := may_eq pairT [⟨2, 40⟩] 2 39 pairT_ok.fits (by decide) (by decide)
  have c7 := may_eq pairT [⟨2, 40⟩] 2 40 pairT_ok.fits (by decide) (by decide)
  rw [px1] at c1
  rw [px2] at c2
  rw [px3] at c3
  rw [px4] at c4
  rw [px5] at c6
  rw [px6] at c7
  simp only [pairT, Tr.vv, Tr.fv, nodesP, intsP, chsP, List.map_cons, List.map_nil, Nd.pv, Ch.pv, decide_true] at c0 c1 c2 c3 c4 c5 c6 c7
  simp -implicitDefEqProofs (disch := omega) only [vf41, vb41, c0, c1, c2, c3, c4, c5, c6, c7, go_sem, ↓reduceIte, Nat.reduceAdd, Nat.reduceSub, Nat.reduceEqDiff, Nat.reduceLeDiff, reduceCtorEq]
end Go.V

