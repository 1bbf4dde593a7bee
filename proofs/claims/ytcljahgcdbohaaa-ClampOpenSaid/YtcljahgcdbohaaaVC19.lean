/- Clamps, plainly. No program in sight. -/
import Derived.Test.YtcljahgcdbohaaaVF9
set_option linter.unusedSimpArgs false
set_option linter.unusedVariables false
namespace Go.V

/-! ### ways up -/

theorem findN_unique {ns : List Nd} (hinc : ns.Pairwise fun a b => a.id < b.id) {i : Nat} {n : Nd} (hn : ns[i]? = some n) : findN ns n.id = some n := by
  unfold findN
  refine find_take_none (k := i) (fun j m hj hm => ?_) hn (by simp)
  have hl := (List.getElem?_eq_some_iff.1 hn).1
  have := List.pairwise_iff_getElem.1 hinc j i (by omega) hl hj
  rw [(List.getElem?_eq_some_iff.1 hm).2, (List.getElem?_eq_some_iff.1 hn).2] at this
  simp
  omega

theorem TreeOk.pos {t : Tr} (h : TreeOk t) : ∀ n ∈ t.nodes, 1 ≤ n.id := nodesOk_pos t.nodes [] (by simp) h.nodes
theorem TreeOk.find0 {t : Tr} (h : TreeOk t) : findN t.nodes 0 = none := by
  unfold findN
  rw [List.find?_eq_none]
  intro n hn
  have := h.pos n hn
  simp
  omega
theorem TreeOk.nodeAt {t : Tr} (h : TreeOk t) {i : Nat} {n : Nd} (hn : t.nodes[i]? = some n) : (i = 0 ∧ n.id = 1 ∧ n.parent = 0) ∨ (0 < i ∧ 1 < n.id ∧ ∃ j p, j < i ∧ t.nodes[j]? = some p ∧ p.id = n.parent) := by
  have hok := (nodesOk_iff _ _).1 h.nodes i n hn
  rw [List.nil_append] at hok
  rcases Nat.eq_zero_or_pos i with rfl | hi
  · left
    rw [List.take_zero] at hok
    have := nodeOk_nil hok
    exact ⟨rfl, this.1, this.2.1⟩
  · right
    have hlt := (List.getElem?_eq_some_iff.1 hn).1
    cases hl : (t.nodes.take i).getLast? with
    | none =>
      rw [List.getLast?_eq_none_iff] at hl
      have := congrArg List.length hl
      rw [List.length_take, List.length_nil] at this
      omega
    | some l =>
      obtain ⟨_, h2, _, _, p, hp, he⟩ := (nodeOk_some hl).1 hok
      have h1 := h.pos l (List.mem_of_mem_take (List.mem_of_getLast? hl))
      obtain ⟨j, hj⟩ := List.getElem?_of_mem hp
      have hjl := (List.getElem?_eq_some_iff.1 hj).1
      simp at hjl
      rw [List.getElem?_take, if_pos (by omega)] at hj
      exact ⟨hi, by omega, j, p, by omega, hj, he⟩

/-- The way up of a group, one step. -/
theorem ancF_step {t : Tr} (h : TreeOk t) : ∀ (i : Nat) (n : Nd), t.nodes[i]? = some n → ∀ k k', i < k → i < k' → ancF t.nodes k n.id = ancF t.nodes k' n.id := by
  intro i
  induction i using Nat.strongRecOn with
  | _ i ih =>
    intro n hn k k' hk hk'
    obtain ⟨k, rfl⟩ : ∃ m, k = m + 1 := ⟨k - 1, by omega⟩
    obtain ⟨k', rfl⟩ : ∃ m, k' = m + 1 := ⟨k' - 1, by omega⟩
    have hf := findN_unique h.inc hn
    simp only [ancF, hf]
    congr 1
    rcases h.nodeAt hn with ⟨rfl, _, h0⟩ | ⟨hi, _, j, p, hj, hp, he⟩
    · rw [h0]
      have hz : ∀ m, ancF t.nodes m 0 = [] := fun m => by
        cases m with
        | zero => rfl
        | succ m => simp only [ancF, h.find0]
      rw [hz, hz]
    · rw [← he]
      exact ih j hj p hp k k' (by omega) (by omega)
theorem ancF_cons {t : Tr} (h : TreeOk t) {i : Nat} {n : Nd} (hn : t.nodes[i]? = some n) : ancF t.nodes t.nodes.length n.id = n.id :: (if i = 0 then [] else ancF t.nodes t.nodes.length n.parent) := by
  have hlt := (List.getElem?_eq_some_iff.1 hn).1
  obtain ⟨k, hk⟩ : ∃ m, t.nodes.length = m + 1 := ⟨t.nodes.length - 1, by omega⟩
  rw [hk]
  have hf := findN_unique h.inc hn
  conv => lhs; simp only [ancF, hf]
  congr 1
  rcases h.nodeAt hn with ⟨rfl, _, h0⟩ | ⟨hi, _, j, p, hj, hp, he⟩
  · rw [h0, if_pos rfl]
    cases k with
    | zero => rfl
    | succ m => simp only [ancF, h.find0]
  · rw [if_neg (by omega), ← he]
    exact ancF_step h j p hp _ _ (by omega) (by omega)

/-! ### least values -/

theorem foldMin_le {f : Int → Int} : ∀ (ids : List Int) (b : Int), ids.foldl (fun m id => min m (f id)) b ≤ b
  | [], _ => Int.le_refl _
  | x :: ids, b => by
    simp only [List.foldl_cons]
    have := foldMin_le (f := f) ids (min b (f x))
    omega
theorem foldMin_mono {f : Int → Int} : ∀ (ids : List Int) (b b' : Int), b ≤ b' → ids.foldl (fun m id => min m (f id)) b ≤ ids.foldl (fun m id => min m (f id)) b'
  | [], _, _, h => h
  | x :: ids, b, b', h => by
    simp only [List.foldl_cons]
    exact foldMin_mono ids _ _ (by omega)
theorem foldMin_ge {f : Int → Int} {c : Int} : ∀ (ids : List Int) (b : Int), c ≤ b → (∀ x ∈ ids, c ≤ f x) → c ≤ ids.foldl (fun m id => min m (f id)) b
  | [], _, h, _ => h
  | x :: ids, b, h, hx => by
    simp only [List.foldl_cons]
    have := hx x (List.mem_cons_self ..)
    exact foldMin_ge ids _ (by omega) fun y hy => hx y (List.mem_cons_of_mem _ hy)

/-! ### clamps -/

structure ClampsOk (t : Tr) (l : List Cl) : Prop where
  tree : TreeOk t
  len : l.length = t.nodes.length
  each : ∀ (i : Nat) (n : Nd) (c : Cl), t.nodes[i]? = some n → l[i]? = some c → c.group = n.id ∧ 0 ≤ c.min ∧ 0 ≤ c.max ∧ c.min ≤ 10000 ∧ c.max ≤ 10000
theorem validC_iff (t : Tr) (l : List Cl) : validC t l = true ↔ ClampsOk t l := by
  simp only [validC, Bool.and_eq_true, decide_eq_true_eq, List.all_eq_true, treeOk_iff]
  constructor
  · rintro ⟨⟨h1, h2⟩, h3⟩
    refine ⟨h1, h2, fun i n c hn hc => ?_⟩
    have := h3 (n, c) (List.mem_of_getElem? (i := i) (by rw [List.getElem?_zip_eq_some]; exact ⟨hn, hc⟩))
    simpa [okC] using this
  · rintro ⟨h1, h2, h3⟩
    refine ⟨⟨h1, h2⟩, ?_⟩
    rintro ⟨n, c⟩ hp
    obtain ⟨i, hi⟩ := List.getElem?_of_mem hp
    rw [List.getElem?_zip_eq_some] at hi
    simpa [okC] using h3 i n c hi.1 hi.2

theorem dClamps_get (L : List Int) : ∀ (ns : List Nd) (a i : Nat) (n : Nd) (c : Cl), ns[i]? = some n → (dClamps L a ns).1[i]? = some c → c.group = n.id ∧ 0 ≤ c.min ∧ 0 ≤ c.max ∧ c.min ≤ 10000 ∧ c.max ≤ 10000
  | [], _, _, _, _, h, _ => by simp at h
  | m :: ns, a, i, n, c, hn, hc => by
    simp only [dClamps] at hc
    cases i with
    | zero =>
      simp at hn hc
      subst hn
      subst hc
      have h1 := nextV_nonneg L a 10001
      have h2 := nextV_lt L a (n := 10001) (by omega)
      have h3 := nextV_nonneg L (nextA L a 10001) 10001
      have h4 := nextV_lt L (nextA L a 10001) (n := 10001) (by omega)
      exact ⟨rfl, h1, h3, by simp only; omega, by simp only; omega⟩
    | succ i =>
      simp at hn hc
      exact dClamps_get L ns _ i n c hn hc
theorem dClamps_ok (L : List Int) (a : Nat) {t : Tr} (h : TreeOk t) : ClampsOk t (dClamps L a t.nodes).1 := ⟨h, dClamps_length L _ _, fun i n c hn hc => dClamps_get L _ _ i n c hn hc⟩

theorem ClampsOk.clAt {t : Tr} {l : List Cl} (h : ClampsOk t l) {i : Nat} {n : Nd} (hn : t.nodes[i]? = some n) : l[i]? = some (clAt t.nodes l n.id) ∧ 0 ≤ (Go.V.clAt t.nodes l n.id).min ∧ 0 ≤ (Go.V.clAt t.nodes l n.id).max ∧ (Go.V.clAt t.nodes l n.id).min ≤ 10000 ∧ (Go.V.clAt t.nodes l n.id).max ≤ 10000 := by
  have hlt := (List.getElem?_eq_some_iff.1 hn).1
  have hidx : idxOf t.nodes n.id = i := idxOf_at hn (fun j m hj hm => by
    have := List.pairwise_iff_getElem.1 h.tree.inc j i (by omega) hlt hj
    rw [(List.getElem?_eq_some_iff.1 hm).2, (List.getElem?_eq_some_iff.1 hn).2] at this
    omega) rfl
  have hl := h.len
  have hc : l[i]? = some (Go.V.clAt t.nodes l n.id) := by
    unfold Go.V.clAt
    rw [hidx, Int.toNat_natCast, List.getElem?_eq_getElem (by omega)]
    rfl
  exact ⟨hc, (h.each i n _ hn hc).2⟩

theorem ClampsOk.eff {t : Tr} {l : List Cl} (h : ClampsOk t l) {i : Nat} {n : Nd} (hn : t.nodes[i]? = some n) : 0 ≤ (effOf t l n.id).1 ∧ (effOf t l n.id).1 ≤ (effOf t l n.id).2 ∧ (effOf t l n.id).2 ≤ 10000 := by
  have h1 := h.clAt hn
  have h2 : effMax t.nodes l (ancF t.nodes t.nodes.length n.id) ≤ 10000 := foldMin_le _ _
  have h3 : 0 ≤ effMax t.nodes l (ancF t.nodes t.nodes.length n.id) := foldMin_ge _ _ (by omega) fun x hx => by
    obtain ⟨m, hm, he⟩ := findN_some (ancF_found _ _ _ x hx)
    obtain ⟨j, hj⟩ := List.getElem?_of_mem hm
    have := (h.clAt hj).2.2.1
    rw [he] at this
    exact this
  simp only [effOf]
  omega
theorem ClampsOk.eff_up {t : Tr} {l : List Cl} (h : ClampsOk t l) {i : Nat} {n : Nd} (hn : t.nodes[i]? = some n) (h1 : n.id ≠ 1) : (effOf t l n.id).2 ≤ (effOf t l n.parent).2 := by
  simp only [effOf]
  have hi : i ≠ 0 := fun e => by
    rcases h.tree.nodeAt hn with ⟨_, h0, _⟩ | ⟨h0, _⟩
    · exact h1 h0
    · omega
  rw [ancF_cons h.tree hn, if_neg hi]
  unfold effMax
  simp only [List.foldl_cons]
  exact foldMin_mono _ _ _ (by omega)

theorem ClampsOk.effC {t : Tr} {l : List Cl} (h : ClampsOk t l) {g : Int} (hg : (findN t.nodes g).isSome = true) : effC t l g = effOf t l g := by
  unfold Go.V.effC
  rw [if_pos ⟨(validC_iff t l).2 h, hg⟩]
theorem ClampsOk.applyC {t : Tr} {l : List Cl} (h : ClampsOk t l) {g u : Int} (hg : (findN t.nodes g).isSome = true) : applyC t l g u = applyOf (effOf t l g) u := by
  unfold Go.V.applyC
  rw [if_pos ⟨(validC_iff t l).2 h, hg⟩]

theorem TreeOk.fits {t : Tr} (h : TreeOk t) : t.Fits := by
  intro n hn
  obtain ⟨i, hi⟩ := List.getElem?_of_mem hn
  have hok := (nodesOk_iff _ _).1 h.nodes i n hi
  rw [List.nil_append] at hok
  unfold nodeOk at hok
  simp only [Bool.and_eq_true, decide_eq_true_eq] at hok
  refine ⟨?_, by omega⟩
  have h2 := hok.2
  split at h2
  · simp only [decide_eq_true_eq] at h2
    rw [h2.2.2.1]
    decide
  · simp only [Bool.and_eq_true] at h2
    have hv := h2.1.1.2
    simp only [validN, Bool.and_eq_true, decide_eq_true_eq] at hv
    omega

/-- What the law asks of a group. -/
theorem order_facts {t : Tr} {l : List Cl} (h : ClampsOk t l) {i : Nat} {n : Nd} (hn : t.nodes[i]? = some n) (a b : Int) (hab : a ≤ b) :
    ¬ (effC t l n.id).2 < (effC t l n.id).1 ∧ ¬ (effC t l n.id).1 < 0 ∧ ¬ 10000 < (effC t l n.id).2 ∧ (¬ n.id = 1 → ¬ (effC t l n.parent).2 < (effC t l n.id).2) ∧
    ¬ applyC t l n.id b < applyC t l n.id a ∧ ¬ applyC t l n.id a < (effC t l n.id).1 ∧ ¬ (effC t l n.id).2 < applyC t l n.id b ∧ applyC t l n.id (applyC t l n.id a) = applyC t l n.id a := by
  have hf : (findN t.nodes n.id).isSome = true := by rw [findN_unique h.tree.inc hn]; rfl
  have he := h.eff hn
  rw [h.effC hf, h.applyC hf, h.applyC hf, h.applyC hf]
  simp only [applyOf]
  refine ⟨by omega, by omega, by omega, fun h1 => ?_, by omega, by omega, by omega, by omega⟩
  have hp : (findN t.nodes n.parent).isSome = true := by
    rcases h.tree.nodeAt hn with ⟨_, h0, _⟩ | ⟨_, _, j, p, _, hp, hpe⟩
    · exact absurd h0 h1
    · rw [← hpe, findN_unique h.tree.inc hp]; rfl
  rw [h.effC hp]
  have := h.eff_up hn h1
  omega

end Go.V
