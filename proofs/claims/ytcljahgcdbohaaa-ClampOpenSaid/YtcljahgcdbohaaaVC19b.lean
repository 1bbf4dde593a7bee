/- Clamps, plainly: open clamps, shut clamps, wider clamps. -/
import Derived.Test.YtcljahgcdbohaaaVF10
set_option linter.unusedSimpArgs false
set_option linter.unusedVariables false
namespace Go.V

theorem ClampsOk.at {t : Tr} {l : List Cl} (h : ClampsOk t l) {i : Nat} {n : Nd} (hn : t.nodes[i]? = some n) : l[i]? = some (Go.V.clAt t.nodes l n.id) := (h.clAt hn).1

theorem ClampsOk.set {t : Tr} {l : List Cl} (h : ClampsOk t l) {k : Nat} {c : Cl} (hc : l[k]? = some c) {mn mx : Int} (h0 : 0 ≤ mn) (h1 : 0 ≤ mx) (h2 : mn ≤ 10000) (h3 : mx ≤ 10000) : ClampsOk t (l.set k ⟨c.group, mn, mx⟩) := by
  refine ⟨h.tree, by rw [List.length_set]; exact h.len, fun i n d hn hd => ?_⟩
  by_cases hik : k = i
  · subst hik
    rw [List.getElem?_set_self (by have := (List.getElem?_eq_some_iff.1 hc).1; omega)] at hd
    cases hd
    exact ⟨(h.each k n c hn hc).1, h0, h1, h2, h3⟩
  · rw [List.getElem?_set_ne hik] at hd
    exact h.each i n d hn hd

theorem effMax_le_mono {ns : List Nd} {l l' : List Cl} (h : ∀ id, (clAt ns l id).max ≤ (clAt ns l' id).max) : ∀ (ids : List Int) (b b' : Int), b ≤ b' → ids.foldl (fun m id => min m (clAt ns l id).max) b ≤ ids.foldl (fun m id => min m (clAt ns l' id).max) b'
  | [], _, _, hb => hb
  | x :: ids, b, b', hb => by
    simp only [List.foldl_cons]
    have := h x
    exact effMax_le_mono h ids _ _ (by omega)

theorem clAt_set_ne {ns : List Nd} {l : List Cl} {k : Nat} {c : Cl} {id : Int} (h : (idxOf ns id).toNat ≠ k) : clAt ns (l.set k c) id = clAt ns l id := by
  unfold clAt
  rw [List.getElem?_set_ne (fun e => h e.symm)]
theorem clAt_set {ns : List Nd} {l : List Cl} {k : Nat} {c : Cl} {id : Int} (hk : k < l.length) (h : (idxOf ns id).toNat = k) : clAt ns (l.set k c) id = c := by
  unfold clAt
  rw [h, List.getElem?_set_self hk]
  rfl

/-- No violations. -/
theorem violC_nil {t : Tr} {l : List Cl} (h : ClampsOk t l) : violC t l = [] ↔ ∀ c ∈ l, c.min ≤ (effOf t l c.group).1 := by
  unfold violC
  rw [if_pos ((validC_iff t l).2 h), List.map_eq_nil_iff, List.filter_eq_nil_iff]
  constructor
  · intro hh c hc
    have := hh c hc
    simp only [decide_eq_true_eq] at this
    omega
  · intro hh c hc
    have := hh c hc
    simp only [decide_eq_true_eq]
    omega

theorem viol_wider {t : Tr} {l : List Cl} (h : ClampsOk t l) {k : Nat} {c : Cl} (hc : l[k]? = some c) {mn : Int} (h0 : 0 ≤ mn) (h1 : mn ≤ c.min) (hv : violC t l = []) : violC t (l.set k ⟨c.group, mn, 10000⟩) = [] := by
  have hk : k < l.length := (List.getElem?_eq_some_iff.1 hc).1
  have hkl : k < t.nodes.length := by rw [← h.len]; exact hk
  have hn : t.nodes[k]? = some t.nodes[k] := List.getElem?_eq_getElem hkl
  obtain ⟨hg, b0, b1, b2, b3⟩ := h.each k _ c hn hc
  have h' := h.set hc (mn := mn) (mx := 10000) h0 (by omega) (by omega) (by omega)
  rw [violC_nil h] at hv
  rw [violC_nil h']
  have hmx : ∀ id, (clAt t.nodes l id).max ≤ (clAt t.nodes (l.set k ⟨c.group, mn, 10000⟩) id).max := by
    intro id
    by_cases hi : (idxOf t.nodes id).toNat = k
    · rw [clAt_set hk hi]
      unfold clAt
      rw [hi, hc]
      exact b3
    · rw [clAt_set_ne hi]
      exact Int.le_refl _
  intro d hd
  obtain ⟨i, hi⟩ := List.getElem?_of_mem hd
  have hil : i < l.length := by have := (List.getElem?_eq_some_iff.1 hi).1; rwa [List.length_set] at this
  have hin : i < t.nodes.length := by rw [← h.len]; exact hil
  have hni : t.nodes[i]? = some t.nodes[i] := List.getElem?_eq_getElem hin
  generalize t.nodes[i] = ni at hni
  have hde := h'.each i _ d hni hi
  have hci := h.at hni
  have hci' := h'.at hni
  rw [hi] at hci'
  rw [hde.1]
  have hold := hv _ (List.mem_of_getElem? hci)
  have hgi : (clAt t.nodes l ni.id).group = ni.id := (h.each i _ _ hni hci).1
  rw [hgi] at hold
  generalize ni.id = g at *
  simp only [effOf] at hold ⊢
  have hm := effMax_le_mono hmx (ancF t.nodes t.nodes.length g) 10000 10000 (Int.le_refl _)
  have hdm : d.min ≤ (clAt t.nodes l g).min ∧ d = clAt t.nodes (l.set k ⟨c.group, mn, 10000⟩) g := by
    refine ⟨?_, by injection hci'⟩
    by_cases hik : k = i
    · subst hik
      rw [List.getElem?_set_self hk] at hi
      rw [hc] at hci
      cases hi
      cases hci
      exact h1
    · rw [List.getElem?_set_ne hik, hci] at hi
      cases hi
      exact Int.le_refl _
  unfold effMax at hold ⊢
  rw [← hdm.2]
  omega

/-- All clamps open. -/
theorem open_eff {t : Tr} {l : List Cl} (h : ClampsOk t l) (ho : ∀ c ∈ l, c.min = 0 ∧ c.max = 10000) {i : Nat} {n : Nd} (hn : t.nodes[i]? = some n) : effOf t l n.id = (0, 10000) := by
  have hall : ∀ x ∈ ancF t.nodes t.nodes.length n.id, (10000 : Int) ≤ (clAt t.nodes l x).max := by
    intro x hx
    obtain ⟨_, e2⟩ := clAt_some h.len (ancF_found t.nodes t.nodes.length n.id x hx)
    have := (ho _ (List.mem_of_getElem? e2)).2
    omega
  have h1 := foldMin_ge (f := fun id => (clAt t.nodes l id).max) (ancF t.nodes t.nodes.length n.id) 10000 (Int.le_refl _) hall
  have h2 := foldMin_le (f := fun id => (clAt t.nodes l id).max) (ancF t.nodes t.nodes.length n.id) 10000
  have h3 := (ho _ (List.mem_of_getElem? (h.at hn))).1
  have h4 : effMax t.nodes l (ancF t.nodes t.nodes.length n.id) = 10000 := by unfold effMax; omega
  unfold effOf
  rw [h4, h3]
  rfl
theorem open_apply {t : Tr} {l : List Cl} (h : ClampsOk t l) (ho : ∀ c ∈ l, c.min = 0 ∧ c.max = 10000) {i : Nat} {n : Nd} (hn : t.nodes[i]? = some n) {u : Int} (h0 : 0 ≤ u) (h1 : u ≤ 10000) : applyC t l n.id u = u := by
  rw [h.applyC (by rw [findN_unique h.tree.inc hn]; rfl), open_eff h ho hn]
  simp only [applyOf]
  omega

theorem foldMin_mem {f : Int → Int} {x : Int} : ∀ (ids : List Int) (b : Int), x ∈ ids → ids.foldl (fun m id => min m (f id)) b ≤ f x
  | [], _, h => by simp at h
  | y :: ids, b, h => by
    simp only [List.foldl_cons]
    rcases List.mem_cons.1 h with rfl | h
    · have := foldMin_le (f := f) ids (min b (f x))
      omega
    · exact foldMin_mem ids _ h

theorem root_mem {t : Tr} (h : TreeOk t) : ∀ (i : Nat) (n : Nd), t.nodes[i]? = some n → (1 : Int) ∈ ancF t.nodes t.nodes.length n.id := by
  intro i
  induction i using Nat.strongRecOn with
  | _ i ih =>
    intro n hn
    rw [ancF_cons h hn]
    rcases h.nodeAt hn with ⟨h0, h1, _⟩ | ⟨h0, _, j, p, hj, hp, hpe⟩
    · rw [h1]; exact List.mem_cons_self ..
    · rw [if_neg (by omega), ← hpe]
      exact List.mem_cons_of_mem _ (ih j hj p hp)

/-- The root shut. -/
theorem shut_apply {t : Tr} {l : List Cl} (h : ClampsOk t l) (hs : ∀ c, l[0]? = some c → c.max = 0) {i : Nat} {n : Nd} (hn : t.nodes[i]? = some n) (u : Int) : applyC t l n.id u = 0 := by
  have hr := root_mem h.tree i n hn
  have hi := foldMin_mem (f := fun id => (clAt t.nodes l id).max) _ 10000 hr
  have hb := h.eff hn
  obtain ⟨r, ns, hns, hr1, _⟩ := h.tree.root
  have h0 : t.nodes[0]? = some r := by rw [hns]; rfl
  have hx := hs _ (h.at h0)
  rw [hr1] at hx
  rw [h.applyC (by rw [findN_unique h.tree.inc hn]; rfl)]
  simp only [applyOf, effOf, effMax] at hb ⊢
  omega

theorem upR_ne_nil : ∀ (ns : List Nd) (id : Int), (∃ n ∈ ns, n.id = id) → upR ns id ≠ []
  | [], _, h => by simp at h
  | m :: ns, id, h => by
    unfold upR
    split
    · simp
    · obtain ⟨n, hn, he⟩ := h
      rcases List.mem_cons.1 hn with rfl | hn
      · contradiction
      · exact upR_ne_nil ns id ⟨n, hn, he⟩
theorem ancR_pos {t : Tr} (h : TreeOk t) {i : Nat} {n : Nd} (hn : t.nodes[i]? = some n) : ¬ (ancR t n.id).length = 0 := by
  have hf : (findT t n.id).isSome = true := by rw [findT, if_pos ((treeOk_iff t).2 h), findN_unique h.inc hn]; rfl
  rw [ancR, if_pos hf]
  have := upR_ne_nil t.nodes.reverse n.id ⟨n, List.mem_reverse.2 (List.mem_of_getElem? hn), rfl⟩
  intro h0
  exact this (List.length_eq_zero_iff.1 h0)

theorem cls_set (l : List Cl) (k : Nat) (g mn mx : Int) : (l.map Cl.pv).set k (.agg [.int .i64 g, .int .i64 mn, .int .i64 mx]) = (l.set k ⟨g, mn, mx⟩).map Cl.pv := by
  rw [List.map_set]; rfl
theorem take_set_map {α β : Type} (f : α → β) (l : List α) (j : Nat) (x : α) : List.take l.length ((l.set j x).map f) = (l.set j x).map f := List.take_of_length_le (by simp)
attribute [go_sem] cls_set List.length_set take_set_map
end Go.V
