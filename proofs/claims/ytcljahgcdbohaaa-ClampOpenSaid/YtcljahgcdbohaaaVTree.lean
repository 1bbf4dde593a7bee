/- Trees, plainly: what Add and Remove keep. No program in sight. -/
import Derived.Test.YtcljahgcdbohaaaVF4
set_option linter.unusedSimpArgs false
set_option linter.unusedVariables false
namespace Go.V

theorem nodesOk_append : ∀ (a pre b : List Nd), nodesOk pre (a ++ b) = (nodesOk pre a && nodesOk (pre ++ a) b)
  | [], pre, b => by simp [nodesOk]
  | n :: a, pre, b => by
    simp only [List.cons_append, nodesOk]
    rw [nodesOk_append a (pre ++ [n]) b]
    simp [Bool.and_assoc]

/-- What a good node says, plainly. -/
theorem nodeOk_nil {n : Nd} (h : nodeOk [] n = true) : n.id = 1 ∧ n.parent = 0 ∧ n.name = ⟨#[]⟩ ∧ n.kind = 0 := by
  simp only [nodeOk, List.getLast?_nil, Bool.and_eq_true, decide_eq_true_eq] at h
  exact h.2
theorem nodeOk_some {pre : List Nd} {l n : Nd} (hl : pre.getLast? = some l) : nodeOk pre n = true ↔ ((n.kind = 0 ∨ n.kind = 1) ∧ 0 ≤ n.control ∧ n.control ≤ 31 ∧ 0 ≤ n.owner ∧ n.owner ≤ 1048576) ∧ l.id < n.id ∧ validN n.name = true ∧ (∀ x ∈ pre, ¬ (x.parent = n.parent ∧ x.name = n.name)) ∧ ∃ x ∈ pre, x.id = n.parent := by
  simp only [nodeOk, hl, Bool.and_eq_true, decide_eq_true_eq, Bool.not_eq_true', List.any_eq_false, List.any_eq_true]
  constructor
  · rintro ⟨⟨h1, h2⟩, ⟨⟨h3, h4⟩, h5⟩, h6⟩
    exact ⟨⟨h1, h2⟩, h3, h4, h5, h6⟩
  · rintro ⟨⟨h1, h2⟩, h3, h4, h5, h6⟩
    exact ⟨⟨h1, h2⟩, ⟨⟨h3, h4⟩, h5⟩, h6⟩

/-- Ids grow. -/
theorem ids_lt : ∀ (ns pre : List Nd), nodesOk pre ns = true → (∀ (l : Nd), pre.getLast? = some l → ∀ x ∈ pre, x.id ≤ l.id) →
    (∀ x ∈ pre, ∀ n ∈ ns, x.id < n.id) ∧ ns.Pairwise fun a b => a.id < b.id
  | [], _, _, _ => ⟨fun _ _ _ h => (by cases h), List.Pairwise.nil⟩
  | m :: ns, pre, h, hp => by
    simp only [nodesOk, Bool.and_eq_true] at h
    have hm : ∀ x ∈ pre, x.id < m.id := fun x hx => by
      cases hl : pre.getLast? with
      | none => rw [List.getLast?_eq_none_iff] at hl; rw [hl] at hx; cases hx
      | some l =>
        have := ((nodeOk_some hl).1 h.1).2.1
        have := hp l hl x hx
        omega
    obtain ⟨h1, h2⟩ := ids_lt ns (pre ++ [m]) h.2 (fun l hl x hx => by
      simp at hl
      subst hl
      rcases List.mem_append.1 hx with hx | hx
      · exact Int.le_of_lt (hm x hx)
      · simp at hx; subst hx; exact Int.le_refl _)
    refine ⟨fun x hx n hn => ?_, List.pairwise_cons.2 ⟨fun n hn => h1 m (by simp) n hn, h2⟩⟩
    rcases List.mem_cons.1 hn with rfl | hn
    · exact hm x hx
    · exact h1 x (by simp [hx]) n hn

structure TreeOk (t : Tr) : Prop where
  len : 1 ≤ t.nodes.length ∧ t.nodes.length ≤ 64
  nodes : nodesOk [] t.nodes = true
  depth : ∀ n ∈ t.nodes, (up t.nodes n.id).length ≤ 9
  next : ∃ l, t.nodes.getLast? = some l ∧ l.id < t.next ∧ t.next ≤ 2147483648

theorem treeOk_iff (t : Tr) : treeOk t = true ↔ TreeOk t := by
  simp only [treeOk, Bool.and_eq_true, decide_eq_true_eq, List.all_eq_true]
  constructor
  · rintro ⟨⟨⟨h1, h2⟩, h3⟩, h4⟩
    cases hl : t.nodes.getLast? with
    | none => rw [hl] at h4; cases h4
    | some l =>
      rw [hl] at h4
      simp only [decide_eq_true_eq] at h4
      exact ⟨h1, h2, h3, l, hl, h4⟩
  · rintro ⟨h1, h2, h3, l, hl, h4⟩
    refine ⟨⟨⟨h1, h2⟩, h3⟩, ?_⟩
    rw [hl]
    simpa using h4

theorem TreeOk.inc {t : Tr} (h : TreeOk t) : t.nodes.Pairwise fun a b => a.id < b.id := (ids_lt t.nodes [] h.nodes (fun _ h => by simp at h)).2
theorem TreeOk.lt_next {t : Tr} (h : TreeOk t) : ∀ n ∈ t.nodes, n.id < t.next := by
  obtain ⟨l, hl, h1, _⟩ := h.next
  intro n hn
  obtain ⟨i, hi⟩ := List.getElem?_of_mem hn
  have hlt := (List.getElem?_eq_some_iff.1 hi).1
  rw [List.getLast?_eq_getElem?] at hl
  have hlt2 := (List.getElem?_eq_some_iff.1 hl).1
  have hinc := List.pairwise_iff_getElem.1 h.inc
  rcases Nat.lt_or_ge i (t.nodes.length - 1) with h2 | h2
  · have := hinc i (t.nodes.length - 1) hlt hlt2 h2
    rw [(List.getElem?_eq_some_iff.1 hi).2, (List.getElem?_eq_some_iff.1 hl).2] at this
    omega
  · have : i = t.nodes.length - 1 := by omega
    rw [this, hl] at hi
    simp at hi
    rw [← hi]
    exact h1
theorem TreeOk.root {t : Tr} (h : TreeOk t) : ∃ r ns, t.nodes = r :: ns ∧ r.id = 1 ∧ r.parent = 0 := by
  cases hn : t.nodes with
  | nil => have := h.len.1; rw [hn] at this; simp at this
  | cons r ns =>
    have := h.nodes
    rw [hn] at this
    simp only [nodesOk, Bool.and_eq_true] at this
    have := nodeOk_nil this.1
    exact ⟨r, ns, rfl, this.1, this.2.1⟩

theorem newT_ok : TreeOk newT := by
  refine ⟨by simp [newT], by decide, by decide, ⟨1, 0, ⟨#[]⟩, 0, 0, 0⟩, rfl, by decide, by decide⟩

theorem findN_some {ns : List Nd} {id : Int} (h : (findN ns id).isSome = true) : ∃ n ∈ ns, n.id = id := by
  unfold findN at h
  rw [List.find?_isSome] at h
  obtain ⟨n, hn, h⟩ := h
  exact ⟨n, hn, by simpa using h⟩

theorem upR_skip : ∀ (ns : List Nd) (id : Int), (∀ n ∈ ns, n.id ≠ id) → upR ns id = []
  | [], _, _ => rfl
  | n :: ns, id, h => by
    rw [upR, if_neg (h n (List.mem_cons_self ..)), upR_skip ns id fun m hm => h m (List.mem_cons_of_mem _ hm)]

theorem addT_ok {t : Tr} {p : Int} {s : ByteArray} (h0 : (addT t p s).2.2 = 0) : TreeOk t ∧ TreeOk (addT t p s).1 ∧ (addT t p s).1 = ⟨t.nodes ++ [⟨t.next, p, s, 0, 0, 0⟩], t.next + 1⟩ := by
  unfold addT at h0 ⊢
  split at h0 <;> try (simp at h0; done)
  rename_i h1
  split at h0 <;> try (simp at h0; done)
  rename_i h2
  split at h0 <;> try (simp at h0; done)
  rename_i h3
  split at h0 <;> try (simp at h0; done)
  rename_i h4
  rw [if_neg h1, if_neg h2, if_neg h3, if_neg h4]
  simp only [Bool.not_eq_false, Bool.and_eq_true] at h1
  simp only [Bool.not_eq_false] at h2
  have hok := (treeOk_iff t).1 h1.1
  refine ⟨hok, ?_, rfl⟩
  have hf : (findN t.nodes p).isSome = true := by
    unfold findT at h2
    rw [if_pos h1.1] at h2
    exact h2
  obtain ⟨l, hl, hl1, hl2⟩ := hok.next
  have hlt := hok.lt_next
  have hup : ∀ id, id ≠ t.next → up (t.nodes ++ [⟨t.next, p, s, 0, 0, 0⟩]) id = up t.nodes id := fun id hid => by
    unfold up
    rw [List.reverse_append]
    simp only [List.reverse_cons, List.reverse_nil, List.nil_append, List.cons_append, upR]
    rw [if_neg (Ne.symm hid)]
  refine ⟨by simp; omega, ?_, fun n hn => ?_, ⟨⟨t.next, p, s, 0, 0, 0⟩, by simp, by simp; omega, by simp; omega⟩⟩
  · rw [nodesOk_append, hok.nodes]
    simp only [List.nil_append, nodesOk, Bool.and_true, Bool.true_and]
    rw [nodeOk_some hl]
    refine ⟨by simp, hl1, h1.2, fun x hx hd => ?_, findN_some hf⟩
    apply h3
    rw [List.any_eq_true]
    exact ⟨x, hx, by simpa using hd⟩
  · simp only [List.mem_append, List.mem_singleton] at hn
    rcases hn with hn | rfl
    · rw [hup n.id (by have := hlt n hn; omega)]
      exact hok.depth n hn
    · have ha : ancR t p = up t.nodes p := by unfold ancR; rw [if_pos h2]
      rw [ha] at h4
      have : up (t.nodes ++ [⟨t.next, p, s, 0, 0, 0⟩]) t.next = t.next :: up t.nodes p := by
        unfold up
        rw [List.reverse_append]
        simp only [List.reverse_cons, List.reverse_nil, List.nil_append, List.cons_append, upR, if_true]
      simp only
      rw [this]
      simp only [List.length_cons]
      omega

theorem upR_filter {q : Int} : ∀ (ns : List Nd) (id : Int), id ≠ q → (∀ n ∈ ns, n.parent ≠ q) → upR (ns.filter fun n => !decide (n.id = q)) id = upR ns id
  | [], _, _, _ => rfl
  | n :: ns, id, hid, hp => by
    have hp' : ∀ m ∈ ns, m.parent ≠ q := fun m hm => hp m (List.mem_cons_of_mem _ hm)
    by_cases hq : n.id = q
    · have : n.id ≠ id := fun e => hid (e ▸ hq)
      rw [List.filter_cons_of_neg (by simp [hq]), upR, if_neg this, upR_filter ns id hid hp']
    · rw [List.filter_cons_of_pos (by simp [hq]), upR, upR]
      split
      · rw [upR_filter ns n.parent (hp n (List.mem_cons_self ..)) hp']
      · rw [upR_filter ns id hid hp']

theorem nodesOk_filter {q : Int} (hq1 : q ≠ 1) : ∀ (ns pre : List Nd), nodesOk pre ns = true → (∀ n ∈ ns, n.parent ≠ q) → (∀ (l : Nd), pre.getLast? = some l → ∀ x ∈ pre, x.id ≤ l.id) → (pre.filter (fun n => !decide (n.id = q)) = [] → pre = []) →
    nodesOk (pre.filter fun n => !decide (n.id = q)) (ns.filter fun n => !decide (n.id = q)) = true
  | [], _, _, _, _, _ => by simp [nodesOk]
  | n :: ns, pre, h, hp, hlast, hne => by
    simp only [nodesOk, Bool.and_eq_true] at h
    have hinc := ids_lt (n :: ns) pre (by simp only [nodesOk, Bool.and_eq_true]; exact h) hlast
    have hp' : ∀ m ∈ ns, m.parent ≠ q := fun m hm => hp m (List.mem_cons_of_mem _ hm)
    have hlast' : ∀ (l : Nd), (pre ++ [n]).getLast? = some l → ∀ x ∈ pre ++ [n], x.id ≤ l.id := fun l hl x hx => by
      simp at hl
      subst hl
      rcases List.mem_append.1 hx with hx | hx
      · exact Int.le_of_lt (hinc.1 x hx n (by simp))
      · simp at hx; subst hx; exact Int.le_refl _
    by_cases hq : n.id = q
    · have ih := nodesOk_filter hq1 ns (pre ++ [n]) h.2 hp' hlast' (fun e => by
        rw [List.filter_append, List.filter_cons_of_neg (by simp [hq]), List.filter_nil, List.append_nil] at e
        have := hne e
        subst this
        exact absurd ((nodeOk_nil h.1).1.symm.trans hq) (Ne.symm hq1))
      rw [List.filter_append, List.filter_cons_of_neg (by simp [hq]), List.filter_nil, List.append_nil] at ih
      rw [List.filter_cons_of_neg (by simp [hq])]
      exact ih
    · have ih := nodesOk_filter hq1 ns (pre ++ [n]) h.2 hp' hlast' (fun e => by
        rw [List.filter_append, List.filter_cons_of_pos (by simp [hq])] at e
        simp at e)
      rw [List.filter_append, List.filter_cons_of_pos (by simp [hq]), List.filter_nil] at ih
      rw [List.filter_cons_of_pos (by simp [hq])]
      simp only [nodesOk, Bool.and_eq_true]
      refine ⟨?_, ih⟩
      cases hl : pre.getLast? with
      | none =>
        rw [List.getLast?_eq_none_iff] at hl
        subst hl
        simpa using h.1
      | some l =>
        obtain ⟨b1, b2, b3, b4, x, hx, b5⟩ := (nodeOk_some hl).1 h.1
        have hin : x ∈ pre.filter fun n => !decide (n.id = q) := by
          rw [List.mem_filter]
          exact ⟨hx, by simpa using (fun e => hp n (by simp) (b5.symm.trans e))⟩
        cases hl2 : (pre.filter fun n => !decide (n.id = q)).getLast? with
        | none =>
          rw [List.getLast?_eq_none_iff] at hl2
          rw [hl2] at hin
          cases hin
        | some l2 =>
          have hl2m := List.mem_of_getLast? hl2
          rw [List.mem_filter] at hl2m
          rw [nodeOk_some hl2]
          exact ⟨b1, hinc.1 l2 hl2m.1 n (by simp), b3, fun y hy => b4 y (List.mem_filter.1 hy).1, x, hin, b5⟩

theorem removeT_ok {t : Tr} {q : Int} (h0 : (removeT t q).2 = 0) : TreeOk t ∧ TreeOk (removeT t q).1 ∧ (removeT t q).1 = ⟨t.nodes.filter fun n => !decide (n.id = q), t.next⟩ := by
  unfold removeT at h0 ⊢
  split at h0 <;> try (simp at h0; done)
  rename_i h1
  split at h0 <;> try (simp at h0; done)
  rename_i h2
  split at h0 <;> try (simp at h0; done)
  rename_i h3
  split at h0 <;> try (simp at h0; done)
  rename_i h4
  rw [if_neg h1, if_neg h2, if_neg h3, if_neg h4]
  simp only [Bool.not_eq_false] at h1 h2
  have hok := (treeOk_iff t).1 h1
  have hpar : ∀ n ∈ t.nodes, n.parent ≠ q := fun n hn e => by
    apply h4
    unfold kids
    rw [if_pos h2]
    intro e2
    have : n ∈ t.nodes.filter fun n => decide (n.parent = q) := by
      rw [List.mem_filter]
      exact ⟨hn, by simpa using e⟩
    have := List.mem_map_of_mem (f := (·.id)) this
    rw [e2] at this
    cases this
  refine ⟨hok, ?_, rfl⟩
  obtain ⟨r, ns, hr, hr1, _⟩ := hok.root
  have hrin : r ∈ t.nodes.filter fun n => !decide (n.id = q) := by
    rw [List.mem_filter, hr]
    exact ⟨by simp, by simp; intro e; exact h3 (e.symm.trans hr1)⟩
  have hnodes := nodesOk_filter h3 t.nodes [] hok.nodes hpar (fun _ h => by simp at h) (fun _ => rfl)
  refine ⟨⟨?_, ?_⟩, by simpa using hnodes, fun n hn => ?_, ?_⟩
  · exact List.length_pos_of_mem hrin
  · exact Nat.le_trans (List.length_filter_le _ _) hok.len.2
  · rw [List.mem_filter] at hn
    have hid : n.id ≠ q := by simpa using hn.2
    have : up (t.nodes.filter fun n => !decide (n.id = q)) n.id = up t.nodes n.id := by
      unfold up
      rw [← List.filter_reverse]
      exact upR_filter _ _ hid fun m hm => hpar m (by simpa using hm)
    simp only
    rw [this]
    exact hok.depth n hn.1
  · cases hl : (t.nodes.filter fun n => !decide (n.id = q)).getLast? with
    | none =>
      rw [List.getLast?_eq_none_iff] at hl
      rw [hl] at hrin
      cases hrin
    | some l =>
      have hm := (List.mem_filter.1 (List.mem_of_getLast? hl)).1
      obtain ⟨_, _, _, h5⟩ := hok.next
      exact ⟨l, rfl, hok.lt_next l hm, h5⟩

end Go.V
