/- Shares of a device, plainly: how a group's share is made from its parent's; what that implies. No program in sight. -/
import Derived.Test.YtcljahgcdbohaaaVK1
set_option linter.unusedSimpArgs false
set_option linter.unusedVariables false
namespace Go.V

def wtOf : List Ch → Int → Int
  | [], _ => 100
  | c :: l, id => if c.group = id then c.own else wtOf l id

def WtOk (l : List Ch) : Prop := ∀ c ∈ l, 1 ≤ c.own ∧ c.own ≤ 10000
theorem wtOf_range {l : List Ch} (h : WtOk l) (id : Int) : 1 ≤ wtOf l id ∧ wtOf l id ≤ 10000 := by
  induction l with
  | nil => simp [wtOf]
  | cons c l ih =>
    unfold wtOf
    split
    · exact h c (List.mem_cons_self ..)
    · exact ih fun d hd => h d (List.mem_cons_of_mem _ hd)

def onB (t : Tr) (active : List Int) (g : Int) : Bool := active.any fun a => decide (g ∈ ancF t.nodes t.nodes.length a)

/-- The weights of the busy children of a group. -/
def sumW (t : Tr) (w : Int → Int) (on : Int → Bool) (p : Int) : Int := sumI (((kidsN t.nodes p).filter on).map w)

def shareU (t : Tr) (w : Int → Int) (on : Int → Bool) : Nat → Int → Int
  | 0, _ => 0
  | k + 1, id => if id = 1 then 1073741824 else if on id = true then
      max 1 (shareU t w on k ((findN t.nodes id).getD zeroNd).parent * w id / sumW t w on ((findN t.nodes id).getD zeroNd).parent) else 0
def shr (t : Tr) (w : Int → Int) (on : Int → Bool) (id : Int) : Int := shareU t w on t.nodes.length id

theorem shareU_fuel {t : Tr} (h : TreeOk t) (w : Int → Int) (on : Int → Bool) : ∀ (i : Nat) (n : Nd), t.nodes[i]? = some n → ∀ k k', i < k → i < k' → shareU t w on k n.id = shareU t w on k' n.id := by
  intro i
  induction i using Nat.strongRecOn with
  | _ i ih =>
    intro n hn k k' hk hk'
    obtain ⟨k, rfl⟩ : ∃ q, k = q + 1 := ⟨k - 1, by omega⟩
    obtain ⟨k', rfl⟩ : ∃ q, k' = q + 1 := ⟨k' - 1, by omega⟩
    simp only [shareU, findN_unique h.inc hn, Option.getD_some]
    rcases h.nodeAt hn with ⟨_, h1, _⟩ | ⟨_, _, j, p, hj, hp, hpe⟩
    · simp [h1]
    · rw [← hpe, ih j hj p hp k k' (by omega) (by omega)]

theorem shr_root (t : Tr) (h : TreeOk t) (w : Int → Int) (on : Int → Bool) : shr t w on 1 = 1073741824 := by
  have := h.len
  unfold shr
  obtain ⟨k, hk⟩ : ∃ q, t.nodes.length = q + 1 := ⟨t.nodes.length - 1, by omega⟩
  rw [hk]
  simp [shareU]

theorem shr_step {t : Tr} (h : TreeOk t) (w : Int → Int) (on : Int → Bool) {i : Nat} {n : Nd} (hn : t.nodes[i]? = some n) (hi : i ≠ 0) : shr t w on n.id = if on n.id = true then max 1 (shr t w on n.parent * w n.id / sumW t w on n.parent) else 0 := by
  have hl := (List.getElem?_eq_some_iff.1 hn).1
  rcases h.nodeAt hn with ⟨h0, _⟩ | ⟨_, h1, j, p, hj, hp, hpe⟩
  · omega
  · have hf := shareU_fuel h w on j p hp t.nodes.length (t.nodes.length - 1) (by omega) (by omega)
    rw [hpe] at hf
    unfold shr
    rw [hf]
    obtain ⟨k, hk⟩ : ∃ q, t.nodes.length = q + 1 := ⟨t.nodes.length - 1, by omega⟩
    rw [hk]
    simp only [shareU, findN_unique h.inc hn, Option.getD_some, Nat.add_sub_cancel, show ¬ n.id = 1 by omega, if_false]

/-- Busy groups: with a group its parent. -/
structure UpClosed (t : Tr) (on : Int → Bool) : Prop where
  up : ∀ (i : Nat) (n : Nd), t.nodes[i]? = some n → i ≠ 0 → on n.id = true → on n.parent = true

theorem onB_up {t : Tr} (h : TreeOk t) (active : List Int) : UpClosed t (onB t active) where
  up := fun i n hn hi hon => by
    simp only [onB, List.any_eq_true, decide_eq_true_eq] at hon ⊢
    obtain ⟨a, ha, hm⟩ := hon
    refine ⟨a, ha, ?_⟩
    cases hf : findN t.nodes a with
    | none =>
      have : ancF t.nodes t.nodes.length a = [] := by
        cases hl : t.nodes.length with
        | zero => rfl
        | succ k => unfold ancF; rw [hf]
      rw [this] at hm
      cases hm
    | some x =>
      obtain ⟨y, hy, hye⟩ := findN_some (ns := t.nodes) (id := a) (by rw [hf]; rfl)
      obtain ⟨j, hj⟩ := List.getElem?_of_mem hy
      rw [← hye] at hm ⊢
      exact anc_parent h hn hi j y hj hm

theorem mem_kids_filter {t : Tr} {on : Int → Bool} {p x : Int} : x ∈ (kidsN t.nodes p).filter on ↔ (∃ (j : Nat) (m : Nd), t.nodes[j]? = some m ∧ m.parent = p ∧ m.id = x) ∧ on x = true := by
  rw [List.mem_filter, mem_kidsN]

theorem sumI_mem_le {f : Int → Int} {x : Int} : ∀ (l : List Int), (∀ y ∈ l, 0 ≤ f y) → x ∈ l → f x ≤ sumI (l.map f)
  | [], _, h => by cases h
  | y :: l, h, hx => by
    have h0 := h y (List.mem_cons_self ..)
    have h1 := sumI_map_nonneg l (f := f) fun z hz => h z (List.mem_cons_of_mem _ hz)
    simp only [List.map_cons, sumI]
    rcases List.mem_cons.1 hx with rfl | hx
    · omega
    · have := sumI_mem_le l (fun z hz => h z (List.mem_cons_of_mem _ hz)) hx
      omega
theorem sumW_ge {t : Tr} {w : Int → Int} (hw : ∀ x, 1 ≤ w x) {on : Int → Bool} {i : Nat} {n : Nd} (hn : t.nodes[i]? = some n) (hon : on n.id = true) : w n.id ≤ sumW t w on n.parent :=
  sumI_mem_le _ (fun y _ => by have := hw y; omega) (mem_kids_filter.2 ⟨⟨i, n, hn, rfl, rfl⟩, hon⟩)

theorem div_le_self' {s w W : Int} (hs : 0 ≤ s) (hw : 0 ≤ w) (h : w ≤ W) (hW : 0 < W) : s * w / W ≤ s := by
  have h1 : s * w ≤ s * W := Int.mul_le_mul_of_nonneg_left h hs
  have h2 : s * w / W ≤ s * W / W := Int.ediv_le_ediv hW h1
  rwa [Int.mul_ediv_cancel _ (by omega)] at h2

theorem shr_range {t : Tr} (h : TreeOk t) {w : Int → Int} (hw : ∀ x, 1 ≤ w x) {on : Int → Bool} (hu : UpClosed t on) : ∀ (i : Nat) (n : Nd), t.nodes[i]? = some n → 0 ≤ shr t w on n.id ∧ shr t w on n.id ≤ 1073741824 ∧ (i = 0 ∨ on n.id = true → 1 ≤ shr t w on n.id) := by
  intro i
  induction i using Nat.strongRecOn with
  | _ i ih =>
    intro n hn
    by_cases hi : i = 0
    · rcases h.nodeAt hn with ⟨_, h1, _⟩ | ⟨h0, _⟩
      · rw [h1, shr_root t h]; omega
      · omega
    · rw [shr_step h w on hn hi]
      rcases h.nodeAt hn with ⟨h0, _⟩ | ⟨_, h1, j, p, hj, hp, hpe⟩
      · omega
      · by_cases hon : on n.id = true
        · rw [if_pos hon]
          have hpo := hu.up i n hn hi hon
          obtain ⟨a1, a2, a3⟩ := ih j hj p hp
          rw [hpe] at a1 a2 a3
          have a4 := a3 (Or.inr hpo)
          have hW := sumW_ge hw hn hon
          have hwn := hw n.id
          have := div_le_self' (s := shr t w on n.parent) (w := w n.id) (W := sumW t w on n.parent) a1 (by omega) hW (by omega)
          omega
        · rw [if_neg hon]
          exact ⟨by omega, by omega, fun hh => by rcases hh with hh | hh <;> contradiction⟩

/-! ### the shares of the children -/

theorem div_sum (s W : Int) (hW : 0 < W) : ∀ ws : List Int, W * sumI (ws.map fun w => s * w / W) ≤ s * sumI ws ∧ s * sumI ws ≤ W * sumI (ws.map fun w => s * w / W) + ws.length * (W - 1)
  | [] => by simp [sumI]
  | w :: ws => by
    obtain ⟨h1, h2⟩ := div_sum s W hW ws
    have e1 := Int.mul_ediv_self_le (x := s * w) (k := W) (by omega)
    have e2 := Int.lt_mul_ediv_self_add (x := s * w) (k := W) hW
    simp only [List.map_cons, sumI, List.length_cons]
    rw [Int.mul_add, Int.mul_add]
    constructor
    · omega
    · have : ((ws.length + 1 : Nat) : Int) * (W - 1) = ws.length * (W - 1) + (W - 1) := by
        rw [Int.natCast_add, Int.add_mul]; simp
      rw [this]
      omega
theorem max1_sum {f : Int → Int} (hf : ∀ w, 0 ≤ f w) : ∀ ws : List Int, sumI (ws.map f) ≤ sumI (ws.map fun w => max 1 (f w)) ∧ sumI (ws.map fun w => max 1 (f w)) ≤ sumI (ws.map f) + ws.length
  | [] => by simp [sumI]
  | w :: ws => by
    obtain ⟨h1, h2⟩ := max1_sum hf ws
    have := hf w
    simp only [List.map_cons, sumI, List.length_cons, Int.natCast_add]
    omega

theorem pos_sum : ∀ (ws : List Int), (∀ w ∈ ws, 1 ≤ w) → ws ≠ [] → 1 ≤ sumI ws
  | [], _, h => absurd rfl h
  | w :: ws, h, _ => by
    have h0 := h w (List.mem_cons_self ..)
    have := sumI_nonneg ws fun x hx => by have := h x (List.mem_cons_of_mem _ hx); omega
    simp only [sumI]
    omega

/-- The shares of the busy children, of a list of weights. -/
theorem divides_list {s : Int} (hs : 0 ≤ s) (ws : List Int) (hw : ∀ w ∈ ws, 1 ≤ w) :
    sumI (ws.map fun w => max 1 (s * w / sumI ws)) ≤ s + ws.length ∧ (ws ≠ [] → s - ws.length ≤ sumI (ws.map fun w => max 1 (s * w / sumI ws))) := by
  by_cases h0 : ws = []
  · subst h0
    simp [sumI]
    exact hs
  · have hW := pos_sum ws hw h0
    generalize hWe : sumI ws = W at hW
    have hm : ws.map (fun w => max 1 (s * w / W)) = (ws.map fun w => s * w / W).map (max 1) := by simp
    obtain ⟨h1, h2⟩ := div_sum s W (by omega) ws
    have hnn : ∀ w ∈ ws, 0 ≤ s * w / W := fun w hww => Int.ediv_nonneg (Int.mul_nonneg hs (by have := hw w hww; omega)) (by omega)
    have key : sumI (ws.map fun w => s * w / W) ≤ sumI (ws.map fun w => max 1 (s * w / W)) ∧ sumI (ws.map fun w => max 1 (s * w / W)) ≤ sumI (ws.map fun w => s * w / W) + ws.length := by
      clear h1 h2 hm hWe h0 hw
      induction ws with
      | nil => simp [sumI]
      | cons w ws ih =>
        obtain ⟨i1, i2⟩ := ih fun x hx => hnn x (List.mem_cons_of_mem _ hx)
        have := hnn w (List.mem_cons_self ..)
        simp only [List.map_cons, sumI, List.length_cons, Int.natCast_add]
        omega
    rw [hWe] at h1 h2
    generalize sumI (ws.map fun w => s * w / W) = S at h1 h2 key
    have hS : S ≤ s := by
      have : W * S ≤ W * s := by rw [Int.mul_comm W s]; exact h1
      exact Int.le_of_mul_le_mul_left this (by omega)
    have hS2 : s - ws.length ≤ S := by
      have hl : (ws.length : Int) * (W - 1) ≤ ws.length * W := Int.mul_le_mul_of_nonneg_left (by omega) (by omega)
      have : W * (s - ws.length) ≤ W * S := by
        rw [Int.mul_sub, Int.mul_comm W s, Int.mul_comm W ws.length]
        omega
      exact Int.le_of_mul_le_mul_left this (by omega)
    exact ⟨by omega, fun _ => by omega⟩

theorem sum_filter_if {f : Int → Int} {on : Int → Bool} : ∀ (l : List Int), sumI (l.map fun x => if on x = true then f x else 0) = sumI ((l.filter on).map f)
  | [] => rfl
  | x :: l => by
    have ih := sum_filter_if (f := f) (on := on) l
    by_cases hx : on x = true
    · simp [hx, sumI, ih]
    · simp [hx, sumI, ih]

theorem kid_shr {t : Tr} (h : TreeOk t) (w : Int → Int) (on : Int → Bool) {i : Nat} {n : Nd} (hn : t.nodes[i]? = some n) {x : Int} (hx : x ∈ kidsN t.nodes n.id) : shr t w on x = if on x = true then max 1 (shr t w on n.id * w x / sumW t w on n.id) else 0 := by
  obtain ⟨j, m, hm, hp, rfl⟩ := mem_kidsN.1 hx
  have := h.kid hn hm hp
  rw [shr_step h w on hm (by omega), hp]

/-- IofairDivides, plainly. -/
theorem divides {t : Tr} (h : TreeOk t) {w : Int → Int} (hw : ∀ x, 1 ≤ w x) {on : Int → Bool} (hu : UpClosed t on) {i : Nat} {n : Nd} (hn : t.nodes[i]? = some n) :
    sumI ((kidsN t.nodes n.id).map (shr t w on)) ≤ shr t w on n.id + ((kidsN t.nodes n.id).filter fun x => decide (0 < shr t w on x)).length ∧
    (0 < ((kidsN t.nodes n.id).filter fun x => decide (0 < shr t w on x)).length → shr t w on n.id - ((kidsN t.nodes n.id).filter fun x => decide (0 < shr t w on x)).length ≤ sumI ((kidsN t.nodes n.id).map (shr t w on)) ∧ shr t w on n.id ≠ 0) := by
  obtain ⟨a1, _, a3⟩ := shr_range h hw hu i n hn
  have hf : (kidsN t.nodes n.id).filter (fun x => decide (0 < shr t w on x)) = (kidsN t.nodes n.id).filter on := by
    apply List.filter_congr
    intro x hx
    rw [kid_shr h w on hn hx]
    by_cases hox : on x = true
    · simp only [hox, if_true]
      exact decide_eq_true (by omega)
    · simp [hox]
  have he : sumI ((kidsN t.nodes n.id).map (shr t w on)) = sumI (((kidsN t.nodes n.id).filter on).map fun x => max 1 (shr t w on n.id * w x / sumW t w on n.id)) := by
    rw [← sum_filter_if]
    exact sumI_congr fun x hx => kid_shr h w on hn hx
  rw [hf, he]
  obtain ⟨d1, d2⟩ := divides_list a1 (((kidsN t.nodes n.id).filter on).map w) (fun x hx => by
    obtain ⟨y, _, rfl⟩ := List.mem_map.1 hx
    exact hw y)
  rw [List.map_map, List.length_map] at d1 d2
  refine ⟨d1, fun hpos => ?_⟩
  have hne : (kidsN t.nodes n.id).filter on ≠ [] := by
    intro h0
    rw [h0] at hpos
    simp at hpos
  refine ⟨d2 (by simpa using hne), ?_⟩
  obtain ⟨x, hx⟩ := List.exists_mem_of_ne_nil _ hne
  obtain ⟨⟨j, m, hm, hp, rfl⟩, hon⟩ := mem_kids_filter.1 hx
  have hj := h.kid hn hm hp
  have := hu.up j m hm (by omega) hon
  rw [hp] at this
  have := a3 (Or.inr this)
  omega

/-! ### a group that is active alone -/

theorem anc_chain {t : Tr} (h : TreeOk t) {a b : Nat} {x y : Nd} (hx : t.nodes[a]? = some x) (hy : t.nodes[b]? = some y) (ha : a ≠ 0) (hp : x.parent = y.parent) : ∀ (i : Nat) (n : Nd), t.nodes[i]? = some n → x.id ∈ ancF t.nodes t.nodes.length n.id → y.id ∈ ancF t.nodes t.nodes.length n.id → x.id = y.id := by
  have hno : ∀ (c : Nat) (z : Nd), t.nodes[c]? = some z → c ≠ 0 → ¬ z.id ∈ ancF t.nodes t.nodes.length z.parent := by
    intro c z hz hc hin
    rcases h.nodeAt hz with ⟨h0, _⟩ | ⟨_, _, j, p, hj, hpj, hpe⟩
    · omega
    · rw [← hpe] at hin
      obtain ⟨j', m', hj', hm', he⟩ := anc_le h j p hpj z.id hin
      have := (h.idx hm' hz he).1
      omega
  have hb : b ≠ 0 := by
    rintro rfl
    rcases h.nodeAt hy with ⟨_, _, h0⟩ | ⟨h0, _⟩
    · rcases h.nodeAt hx with ⟨h1, _⟩ | ⟨_, _, j, p, _, hpj, hpe⟩
      · exact ha h1
      · have := h.pos p (List.mem_of_getElem? hpj)
        omega
    · omega
  intro i
  induction i using Nat.strongRecOn with
  | _ i ih =>
    intro n hn hxa hya
    rcases (anc_iff h hn _).1 hxa with e1 | ⟨hi, e1⟩
    · rcases (anc_iff h hn _).1 hya with e2 | ⟨_, e2⟩
      · rw [e1, e2]
      · exfalso
        have := (h.idx hx hn e1).2
        subst this
        rw [hp] at e2
        exact hno b y hy hb e2
    · rcases (anc_iff h hn _).1 hya with e2 | ⟨_, e2⟩
      · exfalso
        have := (h.idx hy hn e2).2
        subst this
        rw [← hp] at e1
        exact hno a x hx ha e1
      · rcases h.nodeAt hn with ⟨h0, _⟩ | ⟨_, _, j, p, hj, hpj, hpe⟩
        · omega
        · rw [← hpe] at e1 e2
          exact ih j hj p hpj e1 e2

theorem filter_single {on : Int → Bool} {x : Int} : ∀ (l : List Int), l.Nodup → x ∈ l → on x = true → (∀ y ∈ l, on y = true → y = x) → l.filter on = [x]
  | [], _, h, _, _ => by cases h
  | y :: l, hn, hx, hox, hu => by
    obtain ⟨hy, hn⟩ := List.nodup_cons.1 hn
    rcases List.mem_cons.1 hx with rfl | hx
    · rw [List.filter_cons, if_pos hox]
      congr 1
      rw [List.filter_eq_nil_iff]
      intro z hz hoz
      have := hu z (List.mem_cons_of_mem _ hz) hoz
      subst this
      exact hy hz
    · have hne : ¬ on y = true := fun hoy => by
        have := hu y (List.mem_cons_self ..) hoy
        subst this
        exact hy hx
      rw [List.filter_cons, if_neg hne]
      exact filter_single l hn hx hox fun z hz => hu z (List.mem_cons_of_mem _ hz)

/-- IofairAlone, plainly. -/
theorem alone {t : Tr} (h : TreeOk t) {w : Int → Int} (hw : ∀ x, 1 ≤ w x) {on : Int → Bool} {q : Nat} {a : Nd} (ha : t.nodes[q]? = some a) (hon : ∀ x, on x = true ↔ x ∈ ancF t.nodes t.nodes.length a.id) : ∀ (i : Nat) (n : Nd), t.nodes[i]? = some n →
    shr t w on n.id = if n.id ∈ ancF t.nodes t.nodes.length a.id ∨ n.id = 1 then 1073741824 else 0 := by
  intro i
  induction i using Nat.strongRecOn with
  | _ i ih =>
    intro n hn
    rcases h.nodeAt hn with ⟨_, h1, _⟩ | ⟨h0, h1, j, p, hj, hp, hpe⟩
    · rw [h1, shr_root t h]; simp
    · rw [shr_step h w on hn (by omega)]
      by_cases hin : n.id ∈ ancF t.nodes t.nodes.length a.id
      · rw [if_pos ((hon _).2 hin), if_pos (Or.inl hin)]
        have hpin := anc_parent h hn (by omega) q a ha hin
        have hsp := ih j hj p hp
        rw [hpe, if_pos (Or.inl hpin)] at hsp
        have hs : sumW t w on n.parent = w n.id := by
          unfold sumW
          rw [filter_single _ (nodup_kidsN h _) (mem_kidsN.2 ⟨i, n, hn, rfl, rfl⟩) ((hon _).2 hin) ?_]
          · simp [sumI]
          · intro y hy hoy
            obtain ⟨c, m, hm, hmp, rfl⟩ := mem_kidsN.1 hy
            exact (anc_chain h hn hm (by omega) hmp.symm q a ha hin ((hon _).1 hoy)).symm
        rw [hsp, hs, Int.mul_ediv_cancel _ (by have := hw n.id; omega)]
        rfl
      · rw [if_neg (fun hh => hin ((hon _).1 hh)), if_neg (fun hh => hh.elim hin (by omega))]
end Go.V

