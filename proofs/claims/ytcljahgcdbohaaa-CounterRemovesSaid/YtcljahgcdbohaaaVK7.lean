/- Charges, plainly: the removal of a group keeps the totals of the others. No program in sight. -/
import Derived.Test.YtcljahgcdbohaaaVK1
set_option linter.unusedSimpArgs false
set_option linter.unusedVariables false
namespace Go.V

theorem flatMap_filter {α : Type} {p : Int → Bool} (g : α → List Int) : ∀ (xs : List α), (xs.flatMap g).filter p = xs.flatMap fun x => (g x).filter p
  | [] => rfl
  | x :: xs => by simp only [List.flatMap_cons, List.filter_append, flatMap_filter g xs]
theorem flatMap_drop {α β : Type} {p : α → Bool} (g : α → List β) : ∀ (xs : List α), (∀ x ∈ xs, p x = false → g x = []) → (xs.filter p).flatMap g = xs.flatMap g
  | [], _ => rfl
  | x :: xs, h => by
    have ih := flatMap_drop g xs (fun y hy => h y (List.mem_cons_of_mem _ hy))
    by_cases hp : p x = true
    · simp only [List.filter_cons, hp, if_true, List.flatMap_cons, ih]
    · have hp' : p x = false := by simpa using hp
      simp only [List.filter_cons, hp', Bool.false_eq_true, if_false, List.flatMap_cons, ih, h x (List.mem_cons_self ..) hp', List.nil_append]

theorem kidsN_filter (ns : List Nd) (q id : Int) : kidsN (ns.filter fun n => !decide (n.id = q)) id = (kidsN ns id).filter fun x => !decide (x = q) := by
  unfold kidsN
  rw [List.filter_filter, List.filter_map, List.filter_filter]
  congr 1
  apply List.filter_congr
  intro n _
  simp only [Function.comp, Bool.and_comm]

theorem subF_filter {ns : List Nd} {q : Int} (hq : kidsN ns q = []) : ∀ (k : Nat) (id : Int), id ≠ q → subF (ns.filter fun n => !decide (n.id = q)) k id = (subF ns k id).filter fun x => !decide (x = q)
  | 0, _, _ => rfl
  | k + 1, id, hid => by
    simp only [subF, kidsN_filter, List.filter_cons, hid, decide_false, Bool.not_false, if_true]
    congr 1
    rw [flatMap_filter]
    have h1 : ((kidsN ns id).filter fun x => !decide (x = q)).flatMap (subF (ns.filter fun n => !decide (n.id = q)) k) = ((kidsN ns id).filter fun x => !decide (x = q)).flatMap fun x => (subF ns k x).filter fun x => !decide (x = q) := by
      apply flatMap_congr_mem
      intro x hx
      have := (List.mem_filter.1 hx).2
      exact subF_filter hq k x (by simpa using this)
    rw [h1]
    apply flatMap_drop
    intro x _ hx
    have hx' : x = q := by simpa using hx
    subst hx'
    cases k with
    | zero => rfl
    | succ k => simp [subF, hq]

theorem sumI_filter_zero {f : Int → Int} {q : Int} (h0 : f q = 0) : ∀ (xs : List Int), sumI ((xs.filter fun x => !decide (x = q)).map f) = sumI (xs.map f)
  | [] => rfl
  | x :: xs => by
    have ih := sumI_filter_zero h0 xs
    by_cases hx : x = q
    · subst hx
      simp [sumI, h0, ih]
    · simp [hx, sumI, ih]

/-- What is charged behind a removal. -/
def leftTo (f : Int → Int) (q p : Int) : Int → Int := fun x => if x = p then f p + f q else if x = q then 0 else f x

theorem tot_remove {t : Tr} (h : TreeOk t) {q : Nat} {n : Nd} (hn : t.nodes[q]? = some n) (hq : q ≠ 0) (hk : kidsN t.nodes n.id = []) (hu : TreeOk ⟨t.nodes.filter fun m => !decide (m.id = n.id), t.next⟩) (f : Int → Int) {i : Nat} {m : Nd} (hm : t.nodes[i]? = some m) (hne : m.id ≠ n.id) :
    tot ⟨t.nodes.filter fun m => !decide (m.id = n.id), t.next⟩ (leftTo f n.id n.parent) m.id = tot t f m.id := by
  have hmf : m ∈ t.nodes.filter fun m => !decide (m.id = n.id) := List.mem_filter.2 ⟨List.mem_of_getElem? hm, by simp [hne]⟩
  obtain ⟨j, hj⟩ := List.getElem?_of_mem hmf
  have hle := List.length_filter_le (fun m : Nd => !decide (m.id = n.id)) t.nodes
  unfold tot
  rw [show subF (⟨t.nodes.filter fun m => !decide (m.id = n.id), t.next⟩ : Tr).nodes (⟨t.nodes.filter fun m => !decide (m.id = n.id), t.next⟩ : Tr).nodes.length m.id = subF (t.nodes.filter fun m => !decide (m.id = n.id)) t.nodes.length m.id from subF_fuel hu _ _ j m hj (by simp) (by show (t.nodes.filter _).length ≤ _; omega)]
  rw [subF_filter hk _ _ hne]
  have hpn : n.parent ≠ n.id := by
    rcases h.nodeAt hn with ⟨h0, _⟩ | ⟨_, _, j, p, hj, hp, hpe⟩
    · omega
    · intro he
      have := (h.idx hp hn (by rw [hpe, he])).1
      omega
  have hpn' : ¬ n.id = n.parent := fun he => hpn he.symm
  rw [sumI_filter_zero (by simp [leftTo, hpn'])]
  have hnd := nodup_subF h t.nodes.length i m hm (by omega)
  have hmem : n.parent ∈ subF t.nodes t.nodes.length m.id ↔ n.id ∈ subF t.nodes t.nodes.length m.id := by
    rw [mem_subF h _ _ _ hm (by omega), mem_subF h _ _ _ hm (by omega)]
    rcases h.nodeAt hn with ⟨h0, _⟩ | ⟨_, _, j, p, hj, hp, hpe⟩
    · omega
    constructor
    · rintro ⟨j', p', hp', hpe', ha⟩
      refine ⟨q, n, hn, rfl, (anc_iff h hn _).2 (Or.inr ⟨hq, ?_⟩)⟩
      rw [← hpe']; exact ha
    · rintro ⟨j', n', hn', he, ha⟩
      rw [he] at ha
      rcases (anc_iff h hn _).1 ha with h1 | ⟨_, h1⟩
      · exact absurd h1 hne
      · exact ⟨j, p, hp, hpe, by rw [hpe]; exact h1⟩
  have e1 := sum_upd f n.id 0 (subF t.nodes t.nodes.length m.id) hnd
  have e2 := sum_upd (fun x => if x = n.id then 0 else f x) n.parent (f n.parent + f n.id) (subF t.nodes t.nodes.length m.id) hnd
  have e3 : (subF t.nodes t.nodes.length m.id).map (leftTo f n.id n.parent) = (subF t.nodes t.nodes.length m.id).map fun x => if x = n.parent then f n.parent + f n.id else (fun x => if x = n.id then 0 else f x) x := rfl
  rw [e3, e2, e1]
  by_cases hin : n.id ∈ subF t.nodes t.nodes.length m.id
  · simp [hin, hmem.2 hin, hpn]
    omega
  · have hin' : ¬ n.parent ∈ subF t.nodes t.nodes.length m.id := fun hh => hin (hmem.1 hh)
    simp [hin, hin']
end Go.V

