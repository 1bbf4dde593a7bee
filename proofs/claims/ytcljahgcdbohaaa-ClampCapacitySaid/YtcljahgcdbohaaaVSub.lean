/- Subtrees, plainly: what lies below a group, and how many groups. -/
import Derived.Test.YtcljahgcdbohaaaVC19
set_option linter.unusedSimpArgs false
set_option linter.unusedVariables false
namespace Go.V

theorem TreeOk.idx {t : Tr} (h : TreeOk t) {i j : Nat} {n m : Nd} (hn : t.nodes[i]? = some n) (hm : t.nodes[j]? = some m) (he : n.id = m.id) : i = j ∧ n = m := by
  obtain ⟨hi, rfl⟩ := List.getElem?_eq_some_iff.1 hn
  obtain ⟨hj, rfl⟩ := List.getElem?_eq_some_iff.1 hm
  have hp := List.pairwise_iff_getElem.1 h.inc
  rcases Nat.lt_trichotomy i j with hlt | rfl | hlt
  · have := hp i j hi hj hlt; omega
  · exact ⟨rfl, rfl⟩
  · have := hp j i hj hi hlt; omega

/-- The ancestors of a node, one step. -/
theorem anc_iff {t : Tr} (h : TreeOk t) {i : Nat} {n : Nd} (hn : t.nodes[i]? = some n) (c : Int) : c ∈ ancF t.nodes t.nodes.length n.id ↔ c = n.id ∨ (i ≠ 0 ∧ c ∈ ancF t.nodes t.nodes.length n.parent) := by
  rw [ancF_cons h hn]
  by_cases hi : i = 0
  · simp [hi]
  · simp [hi]

theorem TreeOk.kid {t : Tr} (h : TreeOk t) {i j : Nat} {n m : Nd} (hn : t.nodes[i]? = some n) (hm : t.nodes[j]? = some m) (hp : m.parent = n.id) : i < j := by
  rcases h.nodeAt hm with ⟨_, _, h0⟩ | ⟨_, _, k, p, hk, hpk, hpe⟩
  · have := h.pos n (List.mem_of_getElem? hn); omega
  · have := (h.idx hpk hn (by omega)).1; omega

theorem anc_le {t : Tr} (h : TreeOk t) : ∀ (i : Nat) (n : Nd), t.nodes[i]? = some n → ∀ c ∈ ancF t.nodes t.nodes.length n.id, ∃ j m, j ≤ i ∧ t.nodes[j]? = some m ∧ m.id = c := by
  intro i
  induction i using Nat.strongRecOn with
  | _ i ih =>
    intro n hn c hc
    rcases (anc_iff h hn c).1 hc with rfl | ⟨h0, hc⟩
    · exact ⟨i, n, Nat.le_refl _, hn, rfl⟩
    · rcases h.nodeAt hn with ⟨h1, _⟩ | ⟨_, _, k, p, hk, hpk, hpe⟩
      · contradiction
      · rw [← hpe] at hc
        obtain ⟨j, m, hj, hm, he⟩ := ih k hk p hpk c hc
        exact ⟨j, m, by omega, hm, he⟩

theorem anc_self {t : Tr} (h : TreeOk t) {i : Nat} {n : Nd} (hn : t.nodes[i]? = some n) : n.id ∈ ancF t.nodes t.nodes.length n.id := (anc_iff h hn _).2 (Or.inl rfl)

theorem anc_parent {t : Tr} (h : TreeOk t) {k : Nat} {c : Nd} (hc : t.nodes[k]? = some c) (hk : k ≠ 0) : ∀ (i : Nat) (n : Nd), t.nodes[i]? = some n → c.id ∈ ancF t.nodes t.nodes.length n.id → c.parent ∈ ancF t.nodes t.nodes.length n.id := by
  intro i
  induction i using Nat.strongRecOn with
  | _ i ih =>
    intro n hn hm
    rcases (anc_iff h hn c.id).1 hm with he | ⟨h0, hm⟩
    · obtain ⟨rfl, rfl⟩ := h.idx hc hn he
      rcases h.nodeAt hn with ⟨h1, _⟩ | ⟨_, _, j, p, hj, hp, hpe⟩
      · contradiction
      · refine (anc_iff h hn _).2 (Or.inr ⟨hk, ?_⟩)
        rw [← hpe]
        exact anc_self h hp
    · refine (anc_iff h hn _).2 (Or.inr ⟨h0, ?_⟩)
      rcases h.nodeAt hn with ⟨h1, _⟩ | ⟨_, _, j, p, hj, hp, hpe⟩
      · contradiction
      · rw [← hpe] at hm ⊢
        exact ih j hj p hp hm

theorem anc_child {t : Tr} (h : TreeOk t) {c : Int} : ∀ (i : Nat) (n : Nd), t.nodes[i]? = some n → c ∈ ancF t.nodes t.nodes.length n.id → c ≠ n.id → ∃ (j : Nat) (m : Nd), t.nodes[j]? = some m ∧ m.parent = c ∧ m.id ∈ ancF t.nodes t.nodes.length n.id := by
  intro i
  induction i using Nat.strongRecOn with
  | _ i ih =>
    intro n hn hm hne
    rcases (anc_iff h hn c).1 hm with he | ⟨h0, hm⟩
    · contradiction
    · rcases h.nodeAt hn with ⟨h1, _⟩ | ⟨_, _, j, p, hj, hp, hpe⟩
      · contradiction
      · by_cases hcp : c = n.parent
        · exact ⟨i, n, hn, hcp.symm, anc_self h hn⟩
        · rw [← hpe] at hm
          obtain ⟨k, m, hk, hmp, hma⟩ := ih j hj p hp hm (by omega)
          rw [hpe] at hma
          exact ⟨k, m, hk, hmp, (anc_iff h hn _).2 (Or.inr ⟨h0, hma⟩)⟩

def kidsN (ns : List Nd) (id : Int) : List Int := (ns.filter fun n => decide (n.parent = id)).map (·.id)
def subF (ns : List Nd) : Nat → Int → List Int
  | 0, _ => []
  | k + 1, id => id :: (kidsN ns id).flatMap (subF ns k)

theorem mem_kidsN {ns : List Nd} {id x : Int} : x ∈ kidsN ns id ↔ ∃ (j : Nat) (m : Nd), ns[j]? = some m ∧ m.parent = id ∧ m.id = x := by
  simp only [kidsN, List.mem_map, List.mem_filter, decide_eq_true_eq]
  constructor
  · rintro ⟨m, ⟨hm, hp⟩, he⟩
    obtain ⟨j, hj⟩ := List.getElem?_of_mem hm
    exact ⟨j, m, hj, hp, he⟩
  · rintro ⟨j, m, hj, hp, he⟩
    exact ⟨m, ⟨List.mem_of_getElem? hj, hp⟩, he⟩

/-- The subtree: the groups that have the group among their ancestors. -/
theorem mem_subF {t : Tr} (h : TreeOk t) : ∀ (k i : Nat) (n : Nd), t.nodes[i]? = some n → t.nodes.length ≤ i + k → ∀ x, x ∈ subF t.nodes k n.id ↔ ∃ (j : Nat) (m : Nd), t.nodes[j]? = some m ∧ m.id = x ∧ n.id ∈ ancF t.nodes t.nodes.length m.id := by
  intro k
  induction k with
  | zero => intro i n hn hk; have := (List.getElem?_eq_some_iff.1 hn).1; omega
  | succ k ih =>
    intro i n hn hk x
    simp only [subF, List.mem_cons, List.mem_flatMap]
    constructor
    · rintro (rfl | ⟨c, hc, hx⟩)
      · exact ⟨i, n, hn, rfl, anc_self h hn⟩
      · obtain ⟨j, m, hj, hp, rfl⟩ := mem_kidsN.1 hc
        have hij := h.kid hn hj hp
        obtain ⟨q, y, hq, hy, hm⟩ := (ih j m hj (by omega) x).1 hx
        refine ⟨q, y, hq, hy, ?_⟩
        rw [← hp]
        exact anc_parent h hj (by omega) q y hq hm
    · rintro ⟨j, m, hj, rfl, hm⟩
      by_cases he : n.id = m.id
      · exact Or.inl he.symm
      · obtain ⟨q, y, hq, hy, hm'⟩ := anc_child h j m hj hm he
        have hiq := h.kid hn hq hy
        exact Or.inr ⟨y.id, mem_kidsN.2 ⟨q, y, hq, hy, rfl⟩, (ih q y hq (by omega) _).2 ⟨j, m, hj, rfl, hm'⟩⟩

theorem nodup_ids {t : Tr} (h : TreeOk t) : (t.nodes.map (·.id)).Nodup := by
  rw [List.Nodup, List.pairwise_map]
  exact List.Pairwise.imp_of_mem (fun _ _ hab => by omega) h.inc
theorem nodup_kidsN {t : Tr} (h : TreeOk t) (id : Int) : (kidsN t.nodes id).Nodup := by
  rw [kidsN, List.Nodup, List.pairwise_map]
  exact List.Pairwise.imp_of_mem (fun _ _ hab => by omega) (h.inc.filter _)

theorem nodup_subF {t : Tr} (h : TreeOk t) : ∀ (k i : Nat) (n : Nd), t.nodes[i]? = some n → t.nodes.length ≤ i + k → (subF t.nodes k n.id).Nodup := by
  intro k
  induction k with
  | zero => intro i n hn hk; have := (List.getElem?_eq_some_iff.1 hn).1; omega
  | succ k ih =>
    intro i n hn hk
    simp only [subF, List.nodup_cons]
    constructor
    · intro hx
      obtain ⟨c, hc, hx⟩ := List.mem_flatMap.1 hx
      obtain ⟨j, m, hj, hp, rfl⟩ := mem_kidsN.1 hc
      have hij := h.kid hn hj hp
      obtain ⟨q, y, hq, hy, hm⟩ := (mem_subF h k j m hj (by omega) n.id).1 hx
      obtain ⟨q', y', hle, hq', hy'⟩ := anc_le h q y hq m.id hm
      have h1 := (h.idx hq hn hy).1
      have h2 := (h.idx hq' hj hy').1
      omega
    · rw [List.Nodup, List.pairwise_flatMap]
      constructor
      · intro c hc
        obtain ⟨j, m, hj, hp, rfl⟩ := mem_kidsN.1 hc
        have hij := h.kid hn hj hp
        exact ih j m hj (by omega)
      · have hnd := nodup_kidsN h n.id
        refine List.Pairwise.imp_of_mem ?_ hnd
        intro c1 c2 hc1 hc2 hne x hx1 y hy2 hxy
        subst hxy
        obtain ⟨j1, m1, hj1, hp1, rfl⟩ := mem_kidsN.1 hc1
        obtain ⟨j2, m2, hj2, hp2, rfl⟩ := mem_kidsN.1 hc2
        have hij1 := h.kid hn hj1 hp1
        have hij2 := h.kid hn hj2 hp2
        obtain ⟨q, z, hq, hz, hm1⟩ := (mem_subF h k j1 m1 hj1 (by omega) x).1 hx1
        obtain ⟨q', z', hq', hz', hm2⟩ := (mem_subF h k j2 m2 hj2 (by omega) x).1 hy2
        obtain ⟨rfl, rfl⟩ := h.idx hq hq' (by omega)
        exact hne (sib h hn hj1 hj2 hp1 hp2 q z hq hm1 hm2)
where
  sib {t : Tr} (h : TreeOk t) {i j1 j2 : Nat} {n m1 m2 : Nd} (hn : t.nodes[i]? = some n) (hj1 : t.nodes[j1]? = some m1) (hj2 : t.nodes[j2]? = some m2) (hp1 : m1.parent = n.id) (hp2 : m2.parent = n.id) : ∀ (q : Nat) (z : Nd), t.nodes[q]? = some z → m1.id ∈ ancF t.nodes t.nodes.length z.id → m2.id ∈ ancF t.nodes t.nodes.length z.id → m1.id = m2.id := by
    intro q
    induction q using Nat.strongRecOn with
    | _ q ih =>
      intro z hz h1 h2
      have hij1 := h.kid hn hj1 hp1
      have hij2 := h.kid hn hj2 hp2
      rcases (anc_iff h hz _).1 h1 with e1 | ⟨h0, h1'⟩
      · rcases (anc_iff h hz _).1 h2 with e2 | ⟨_, h2'⟩
        · omega
        · obtain ⟨rfl, rfl⟩ := h.idx hj1 hz e1
          rw [hp1] at h2'
          obtain ⟨j, m, hle, hj, he⟩ := anc_le h i n hn _ h2'
          have := (h.idx hj hj2 he).1
          omega
      · rcases (anc_iff h hz _).1 h2 with e2 | ⟨_, h2'⟩
        · obtain ⟨rfl, rfl⟩ := h.idx hj2 hz e2
          rw [hp2] at h1'
          obtain ⟨j, m, hle, hj, he⟩ := anc_le h i n hn _ h1'
          have := (h.idx hj hj1 he).1
          omega
        · rcases h.nodeAt hz with ⟨hh, _⟩ | ⟨_, _, j, p, hj, hp, hpe⟩
          · contradiction
          · rw [← hpe] at h1' h2'
            exact ih j hj p hp h1' h2'

theorem nodup_length_le : ∀ (l m : List Int), l.Nodup → (∀ x ∈ l, x ∈ m) → l.length ≤ m.length
  | [], _, _, _ => Nat.zero_le _
  | x :: l, m, hn, hs => by
    rw [List.nodup_cons] at hn
    have hx : x ∈ m := hs x (List.mem_cons_self ..)
    have := nodup_length_le l (m.erase x) hn.2 fun y hy => (List.mem_erase_of_ne (fun e => hn.1 (by rw [← e]; exact hy))).2 (hs y (List.mem_cons_of_mem _ hy))
    rw [List.length_erase_of_mem hx] at this
    have := List.length_pos_of_mem hx
    simp only [List.length_cons]
    omega

theorem subF_length {t : Tr} (h : TreeOk t) {k i : Nat} {n : Nd} (hn : t.nodes[i]? = some n) (hk : t.nodes.length ≤ i + k) : (subF t.nodes k n.id).length ≤ t.nodes.length := by
  have := nodup_length_le _ (t.nodes.map (·.id)) (nodup_subF h k i n hn hk) fun x hx => by
    obtain ⟨j, m, hj, rfl, _⟩ := (mem_subF h k i n hn hk x).1 hx
    exact List.mem_map.2 ⟨m, List.mem_of_getElem? hj, rfl⟩
  simpa using this

theorem flatMap_congr_mem {α β : Type} {f g : α → List β} : ∀ {l : List α}, (∀ a ∈ l, f a = g a) → l.flatMap f = l.flatMap g
  | [], _ => rfl
  | a :: l, h => by
    rw [List.flatMap_cons, List.flatMap_cons, h a (List.mem_cons_self ..), flatMap_congr_mem fun b hb => h b (List.mem_cons_of_mem _ hb)]
theorem subF_fuel {t : Tr} (h : TreeOk t) : ∀ (k k' i : Nat) (n : Nd), t.nodes[i]? = some n → t.nodes.length ≤ i + k → t.nodes.length ≤ i + k' → subF t.nodes k n.id = subF t.nodes k' n.id := by
  intro k
  induction k with
  | zero => intro k' i n hn hk; have := (List.getElem?_eq_some_iff.1 hn).1; omega
  | succ k ih =>
    intro k' i n hn hk hk'
    cases k' with
    | zero => have := (List.getElem?_eq_some_iff.1 hn).1; omega
    | succ k' =>
      simp only [subF, List.cons.injEq, true_and]
      refine flatMap_congr_mem fun c hc => ?_
      obtain ⟨j, m, hj, hp, rfl⟩ := mem_kidsN.1 hc
      have hij := h.kid hn hj hp
      exact ih k' j m hj (by omega) (by omega)

def subT (t : Tr) (id : Int) : List Int := if (findT t id).isSome then subF t.nodes t.nodes.length id else []

end Go.V
