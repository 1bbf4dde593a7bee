/- The value machine V against the model: every order that may be drawn comes to the same. -/
import Derived.Test.YtcljahgcdbohaaaVRegD
import Derived.Still
set_option linter.unusedSimpArgs false
set_option linter.unusedVariables false
namespace Go.V
open Go.RowKit

theorem fold_bits {acc : Array Nat} {i : Nat} : ∀ (l : List Edge) (s : Nat), (l.foldl (fun s e => if Region.binds .any e then s ||| 2 ^ e.on ||| acc.getD e.on 0 else s) s).testBit i = true →
    s.testBit i = true ∨ ∃ e ∈ l, Region.binds .any e = true ∧ (i = e.on ∨ (acc.getD e.on 0).testBit i = true)
  | [], s, h => .inl h
  | e :: l, s, h => by
    simp only [List.foldl_cons] at h
    rcases fold_bits l _ h with h0 | ⟨e', he', hb, h1⟩
    · split at h0
      · rename_i hb
        simp only [Nat.testBit_or, Nat.testBit_two_pow, Bool.or_eq_true, decide_eq_true_eq] at h0
        rcases h0 with (h0 | h0) | h0
        · exact .inl h0
        · exact .inr ⟨e, List.mem_cons_self .., hb, .inl h0.symm⟩
        · exact .inr ⟨e, List.mem_cons_self .., hb, .inr h0⟩
      · exact .inl h0
    · exact .inr ⟨e', List.mem_cons_of_mem _ he', hb, h1⟩

def befStep (acc : Array Nat) (o : Oper) : Array Nat := acc.push (o.after.toList.foldl (fun s e => if Region.binds .any e then s ||| 2 ^ e.on ||| acc.getD e.on 0 else s) 0)

theorem getD_push_lt {acc : Array Nat} {x k : Nat} (h : k < acc.size) : (acc.push x).getD k 0 = acc.getD k 0 := by
  simp [Array.getD_eq_getD_getElem?, Array.getElem?_push, Nat.ne_of_lt h]
theorem getD_push_eq {acc : Array Nat} {x : Nat} : (acc.push x).getD acc.size 0 = x := by
  simp [Array.getD_eq_getD_getElem?]

theorem bef_fold : ∀ (l : List Oper) (acc : Array Nat), (∀ k, k < acc.size → (l.foldl befStep acc).getD k 0 = acc.getD k 0) ∧
    ∀ m o, l[m]? = some o → ∀ i, ((l.foldl befStep acc).getD (acc.size + m) 0).testBit i = true → ∃ e ∈ o.after, Region.binds .any e = true ∧ (i = e.on ∨ (e.on < acc.size + m ∧ ((l.foldl befStep acc).getD e.on 0).testBit i = true))
  | [], acc => ⟨fun _ _ => rfl, fun m o h => by simp at h⟩
  | o :: l, acc => by
    obtain ⟨h1, h2⟩ := bef_fold l (befStep acc o)
    have hs : (befStep acc o).size = acc.size + 1 := by simp [befStep]
    simp only [List.foldl_cons]
    have h1' : ∀ k, k < acc.size → (l.foldl befStep (befStep acc o)).getD k 0 = acc.getD k 0 := fun k hk => by
      rw [h1 k (by omega)]
      exact getD_push_lt hk
    refine ⟨h1', fun m o' ho i hi => ?_⟩
    cases m with
    | zero =>
      simp at ho
      subst ho
      rw [Nat.add_zero] at hi ⊢
      rw [h1 acc.size (by omega)] at hi
      rw [befStep, getD_push_eq] at hi
      rcases fold_bits _ _ hi with h0 | ⟨e, he, hb, h0⟩
      · simp at h0
      · refine ⟨e, by simpa using he, hb, ?_⟩
        rcases h0 with h0 | h0
        · exact .inl h0
        · right
          have hlt : e.on < acc.size := by
            rcases Nat.lt_or_ge e.on acc.size with h | h
            · exact h
            · simp [Array.getD_eq_getD_getElem?, Array.getElem?_eq_none h] at h0
          exact ⟨hlt, by rw [h1' _ hlt]; exact h0⟩
    | succ m =>
      simp at ho
      have := h2 m o' ho i (by rw [hs, show acc.size + 1 + m = acc.size + (m + 1) by omega]; exact hi)
      obtain ⟨e, he, hb, h0⟩ := this
      refine ⟨e, he, hb, ?_⟩
      rcases h0 with h0 | ⟨h3, h4⟩
      · exact .inl h0
      · exact .inr ⟨by omega, h4⟩

theorem before_eq (ops : Array Oper) : Region.before ops = ops.toList.foldl befStep #[] := by
  unfold Region.before
  rw [← Array.foldl_toList]
  congr 1
  funext acc o
  unfold befStep
  rw [← Array.foldl_toList]

theorem before_bits {ops : Array Oper} {j i : Nat} {o : Oper} (ho : ops[j]? = some o) (hi : ((Region.before ops).getD j 0).testBit i = true) : ∃ e ∈ o.after, Region.binds .any e = true ∧ (i = e.on ∨ (e.on < j ∧ ((Region.before ops).getD e.on 0).testBit i = true)) := by
  rw [before_eq] at hi ⊢
  have := (bef_fold ops.toList #[]).2 j o (by simpa using ho) i (by simpa using hi)
  simpa using this

/-- What comes before an operation is listed, once its own edges are. -/
theorem before_listed {ops : Array Oper} {listed : Array Bool} (hdown : ∀ (j : Nat) (o : Oper), ops[j]? = some o → listed.getD j false = true → ∀ e ∈ o.after, Region.binds .any e = true → listed.getD e.on false = true) :
    ∀ (j : Nat) (o : Oper), ops[j]? = some o → (∀ e ∈ o.after, Region.binds .any e = true → listed.getD e.on false = true) → ∀ i, ((Region.before ops).getD j 0).testBit i = true → listed.getD i false = true := by
  intro j
  induction j using Nat.strongRecOn with
  | _ j ih =>
    intro o ho hall i hi
    obtain ⟨e, he, hb, h0⟩ := before_bits ho hi
    rcases h0 with rfl | ⟨hlt, h0⟩
    · exact hall e he hb
    · have hj : j < ops.size := (Array.getElem?_eq_some_iff.1 ho).1
      have ho' : ops[e.on]? = some ops[e.on] := Array.getElem?_eq_getElem (by omega)
      exact ih e.on hlt _ ho' (hdown e.on _ ho' (hall e he hb)) i h0

theorem ready_iff {ops : Array Oper} {listed : Array Bool} {i : Nat} : i ∈ Region.ready .any ops listed ↔ listed.getD i true = false ∧ ∃ o, ops[i]? = some o ∧ ∀ e ∈ o.after, Region.binds .any e = true → listed.getD e.on false = true := mem_ready

theorem getD_tf {listed : Array Bool} {i : Nat} (h : i < listed.size) : listed.getD i true = listed.getD i false := by
  simp [Array.getD_eq_getD_getElem?, h]
theorem getD_false_lt {listed : Array Bool} {i : Nat} (h : listed.getD i false = true) : i < listed.size := by
  rcases Nat.lt_or_ge i listed.size with h' | h'
  · exact h'
  · simp [Array.getD_eq_getD_getElem?, Array.getElem?_eq_none h'] at h

section
variable {P : Program} {Γ : Sig} (hΓ : CallsSound P Γ) {vs : List Nat} {n : Nat}
include hΓ

theorem any_sound {ops : Array Oper} {Q : Exit → Act → World → Prop} (hedge : ∀ (j : Nat) (o : Oper), ops[j]? = some o → ∀ e ∈ o.after, Region.binds .any e = true → e.on < j) :
    ∀ (fuel : Nat) (listed : Array Bool) (L : List RE) (G : Gh) (r rn : RS) (a : Act) (w : World), L.length = fuel → listed.size = ops.size → (∀ i, i < ops.size → (listed.getD i true = false ↔ i ∈ L.map (·.1))) →
      (L.Pairwise fun x e => x.1 < e.1 ∧ (((Region.before ops).getD e.1 0).testBit x.1 = true ∨ Apart x.2.1 e.2.1 x.2.2 e.2.2)) →
      (∀ e ∈ L, ∃ o, ops[e.1]? = some o ∧ okOper P vs n ops o e.2.1 = true) →
      (∀ (j : Nat) (o : Oper), ops[j]? = some o → listed.getD j false = true → ∀ e ∈ o.after, Region.binds .any e = true → listed.getD e.on false = true) →
      RRel vs n G r a w → HeapInv G r.h w → Runs Γ L r rn → (∀ a' w' G', Step G r.h w G' rn.h w' → HeapInv G' rn.h w' → RRel vs n G' rn a' w' → Q .normal a' w') →
      wpAny P .any ops Q fuel listed a w
  | 0, listed, L, G, r, rn, a, w, hlen, hsz, hls, hpw, hok, hdn, hr, hi, hrun, hQ => by
    have hL : L = [] := List.length_eq_zero_iff.1 hlen
    subst hL
    simp only [Runs] at hrun
    subst hrun
    refine ⟨?_, hQ a w G (Step.refl _ _ _) hi hr⟩
    rw [List.eq_nil_iff_forall_not_mem]
    intro i hm
    obtain ⟨h1, o, ho, _⟩ := ready_iff.1 hm
    have hlt : i < ops.size := (Array.getElem?_eq_some_iff.1 ho).1
    have := (hls i hlt).1 h1
    simp at this
  | fuel + 1, listed, L, G, r, rn, a, w, hlen, hsz, hls, hpw, hok, hdn, hr, hi, hrun, hQ => by
    refine ⟨fun hnil => ?_, fun i hm => ?_⟩
    · exfalso
      obtain ⟨e0, L', rfl⟩ : ∃ e0 L', L = e0 :: L' := by
        cases L with
        | nil => simp at hlen
        | cons x xs => exact ⟨x, xs, rfl⟩
      obtain ⟨o, ho, _⟩ := hok e0 (List.mem_cons_self ..)
      have hlt : e0.1 < ops.size := (Array.getElem?_eq_some_iff.1 ho).1
      have : e0.1 ∈ Region.ready .any ops listed := by
        refine ready_iff.2 ⟨(hls _ hlt).2 (by simp), o, ho, fun e he hb => ?_⟩
        have hon := hedge _ o ho e he hb
        rw [← getD_tf (by omega)]
        cases hv : listed.getD e.on true with
        | true => rfl
        | false =>
          exfalso
          have := (hls e.on (by omega)).1 hv
          simp only [List.map_cons, List.mem_cons, List.mem_map] at this
          rcases this with h0 | ⟨x, hx, h0⟩
          · omega
          · have := ((List.pairwise_cons.1 hpw).1 x hx).1
            omega
      rw [hnil] at this
      cases this
    · obtain ⟨h1, o, ho, hall⟩ := ready_iff.1 hm
      have hlt : i < ops.size := (Array.getElem?_eq_some_iff.1 ho).1
      have hin := (hls i hlt).1 h1
      obtain ⟨e, he, hei⟩ := List.mem_map.1 hin
      obtain ⟨A, B, rfl⟩ := List.append_of_mem he
      have hpA : ∀ x ∈ A, x.1 < e.1 ∧ (((Region.before ops).getD e.1 0).testBit x.1 = true ∨ Apart x.2.1 e.2.1 x.2.2 e.2.2) := fun x hx =>
        (List.pairwise_append.1 hpw).2.2 x hx e (List.mem_cons_self ..)
      have hap : ∀ x ∈ A, Apart x.2.1 e.2.1 x.2.2 e.2.2 := fun x hx => by
        rcases (hpA x hx).2 with hb | hb
        · exfalso
          rw [hei] at hb
          have hl := before_listed hdn i o ho hall x.1 hb
          have hxl : x.1 < listed.size := getD_false_lt hl
          have := (hls x.1 (by omega)).2 (by simp; exact .inl ⟨_, _, hx⟩)
          rw [getD_tf hxl, hl] at this
          cases this
        · exact hb
      obtain ⟨ht, q, hq, hrun'⟩ := Runs.front A e B r rn hrun hap
      obtain ⟨o', ho', hok'⟩ := hok e (by simp)
      rw [hei, ho] at ho'
      simp at ho'
      subst ho'
      refine stepQ_sound hΓ hr hi hok' ho hq fun a' w' G' hs hinv hr' => ?_
      have hpw' := List.pairwise_append.1 hpw
      have hpB := List.pairwise_cons.1 hpw'.2.1
      refine any_sound hedge fuel _ (A ++ B) G' _ rn a' w' (by simp at hlen ⊢; omega) (by simp [hsz]) (fun k hk => ?_) ?_ (fun x hx => hok x ?_) ?_ hr' hinv hrun' fun a'' w'' G'' hs' hinv' hr'' => hQ a'' w'' G'' (hs.trans hs') hinv' hr''
      · by_cases hki : k = i
        · subst hki
          constructor
          · intro h0
            simp [Array.getD_eq_getD_getElem?, hsz, hk] at h0
          · intro h0
            exfalso
            simp only [List.map_append, List.mem_append, List.mem_map] at h0
            rcases h0 with ⟨x, hx, h0⟩ | ⟨x, hx, h0⟩
            · have := (hpA x hx).1
              omega
            · have := (hpB.1 x hx).1
              omega
        · have : (listed.setIfInBounds i true).getD k true = listed.getD k true := by
            simp [Array.getD_eq_getD_getElem?, Array.getElem?_setIfInBounds, Ne.symm hki]
          rw [this, hls k hk]
          simp only [List.map_append, List.map_cons, List.mem_append, List.mem_cons, hei]
          constructor
          · rintro (h0 | h0 | h0)
            · exact .inl h0
            · exact absurd h0 hki
            · exact .inr h0
          · rintro (h0 | h0)
            · exact .inl h0
            · exact .inr (.inr h0)
      · exact List.pairwise_append.2 ⟨hpw'.1, hpB.2, fun x hx y hy => hpw'.2.2 x hx y (List.mem_cons_of_mem _ hy)⟩
      · simp only [List.mem_append, List.mem_cons] at hx ⊢
        rcases hx with hx | hx
        · exact .inl hx
        · exact .inr (.inr hx)
      · intro j o2 ho2 hl e2 he2 hb2
        have mono : ∀ k, listed.getD k false = true → (listed.setIfInBounds i true).getD k false = true := fun k hk => by
          have hkl := getD_false_lt hk
          by_cases hik : i = k
          · subst hik; simp [Array.getD_eq_getD_getElem?, hkl]
          · simpa [Array.getD_eq_getD_getElem?, Array.getElem?_setIfInBounds, hik] using hk
        by_cases hji : j = i
        · subst hji
          rw [ho] at ho2
          simp at ho2
          subst ho2
          exact mono _ (hall e2 he2 hb2)
        · refine mono _ (hdn j o2 ho2 ?_ e2 he2 hb2)
          simpa [Array.getD_eq_getD_getElem?, Array.getElem?_setIfInBounds, Ne.symm hji] using hl
end

end Go.V
