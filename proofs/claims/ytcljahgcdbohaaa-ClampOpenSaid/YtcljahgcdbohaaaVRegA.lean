/- The value machine V against the model: one operation of a region, and regions in text order. -/
import Derived.Test.YtcljahgcdbohaaaVEval
import Derived.Orders
set_option linter.unusedSimpArgs false
set_option linter.unusedVariables false
namespace Go.V
open Go.RowKit

theorem getD_put {a : Act} {t s : Nat} {c : Value} (ht : t < a.tmps.size) : (a.put (some t) c).tmps.getD s Go.undef = if s = t then c else a.tmps.getD s Go.undef := by
  simp only [Act.put, Array.getD_eq_getD_getElem?, Array.getElem?_setIfInBounds]
  by_cases h : t = s
  · subst h; simp [ht]
  · simp [h, Ne.symm h]

theorem put_rel {vs : List Nat} {n : Nat} {G G' : Gh} {r : RS} {a : Act} {w w' : World} {h' : VHeap} (hr : RRel vs n G r a w) (hs : Step G r.h w G' h' w') {t : Option Tmp} {d : VDst} (hd : okDst vs n t d = true) {val : VVal} {c : Value} (hv : VRel G' h' w' val c) :
    RRel vs n G' { r.put d val with h := h' } (a.put t c) w' := by
  unfold okDst at hd
  split at hd
  · exact ⟨fun s hm => (hr.pe s hm).mono hs, fun s v hv => ⟨(hr.te s v hv).1, (hr.te s v hv).2.mono hs⟩, hr.defers, hr.size⟩
  · rename_i t s
    simp only [Bool.and_eq_true, beq_iff_eq, decide_eq_true_eq, List.contains_iff_mem] at hd
    obtain ⟨⟨rfl, hm⟩, hlt⟩ := hd
    have hlt' : t < a.tmps.size := Nat.lt_of_lt_of_le hlt hr.size
    refine ⟨fun s' hm' => ?_, fun s' v' hv' => ?_, hr.defers, by simp [Act.put]; exact hr.size⟩
    · rw [getD_put hlt']
      simp only [RS.put, updV]
      split
      · exact hv
      · exact (hr.pe s' hm').mono hs
    · simp only [RS.put] at hv'
      obtain ⟨h1, h2⟩ := hr.te s' v' hv'
      refine ⟨h1, ?_⟩
      rw [getD_put hlt', if_neg (fun e : s' = t => h1 (by rw [e]; exact hm))]
      exact h2.mono hs
  · rename_i t s
    simp only [Bool.and_eq_true, beq_iff_eq, decide_eq_true_eq, Bool.not_eq_true'] at hd
    obtain ⟨⟨rfl, hm⟩, hlt⟩ := hd
    have hm' : t ∉ vs := fun h => by rw [← List.contains_iff_mem, hm] at h; cases h
    have hlt' : t < a.tmps.size := Nat.lt_of_lt_of_le hlt hr.size
    refine ⟨fun s' hs' => ?_, fun s' v' hv' => ?_, hr.defers, by simp [Act.put]; exact hr.size⟩
    · rw [getD_put hlt', if_neg (fun e : s' = t => hm' (by rw [← e]; exact hs'))]
      exact (hr.pe s' hs').mono hs
    · simp only [RS.put, updT] at hv'
      rw [getD_put hlt']
      split at hv'
      · rename_i e
        subst e
        simp at hv'
        subst hv'
        simp only [if_true]
        exact ⟨hm', hv⟩
      · rename_i e
        rw [if_neg e]
        exact ⟨(hr.te s' v' hv').1, (hr.te s' v' hv').2.mono hs⟩
  · cases hd

/-- What an operation comes to: its value and what it changes; left out by its guard, nothing. -/
def stepF (Γ : Sig) (look : VArg → Option VVal) (h : VHeap) (o : VOper) : Option (VVal × List (Id × Nat × Ob)) :=
  match o.guard with
  | none => evalOp Γ look h o.dst.slot o.op
  | some (g, want) => match look g with
    | some (.p (.bool b)) => if b == want then evalOp Γ look h o.dst.slot o.op else some (.undef, [])
    | some .undef => some (.undef, [])
    | _ => none
abbrev stepQ (Γ : Sig) (o : VOper) (r : RS) : Option (VVal × List (Id × Nat × Ob)) := stepF Γ r.look r.h o
def RS.app (r : RS) (o : VOper) (q : VVal × List (Id × Nat × Ob)) : RS := { r.put o.dst q.1 with h := r.h.upds q.2 }

theorem put_h (r : RS) (d : VDst) (v : VVal) : (r.put d v).h = r.h := by cases d <;> rfl
theorem app_skip (r : RS) (o : VOper) : r.app o (.undef, []) = r.put o.dst .undef := by
  unfold RS.app
  simp only [VHeap.upds]
  cases o.dst <;> rfl

theorem stepO_eq {Γ : Sig} {o : VOper} {r r' : RS} (h : stepO Γ o r = some r') : ∃ q, stepQ Γ o r = some q ∧ r' = r.app o q := by
  unfold stepO at h
  unfold stepQ stepF
  cases hg : o.guard with
  | none =>
    rw [hg] at h
    obtain ⟨q, hq, h⟩ := ob_eq h
    simp at h
    exact ⟨q, hq, h.symm⟩
  | some gw =>
    obtain ⟨g, want⟩ := gw
    rw [hg] at h
    obtain ⟨gv, hgv, h⟩ := ob_eq h
    simp only [hgv]
    split at h
    · rename_i b
      cases hb : b == want with
      | true =>
        rw [hb, br_true] at h
        obtain ⟨q, hq, h⟩ := ob_eq h
        simp at h
        exact ⟨q, by simp only [hb, if_true]; exact hq, h.symm⟩
      | false =>
        rw [hb, br_false] at h
        simp at h
        exact ⟨(.undef, []), by simp only [hb, Bool.false_eq_true, if_false], by rw [app_skip]; exact h.symm⟩
    · simp at h
      exact ⟨(.undef, []), rfl, by rw [app_skip]; exact h.symm⟩
    · cases h

theorem okOpers_get {P : Program} {vs : List Nat} {n : Nat} {ops : Array Oper} : ∀ {os : List Oper} {us : List VOper}, okOpers P vs n ops os us = true → us.length = os.length ∧ ∀ (i : Nat) (o : Oper) (u : VOper), os[i]? = some o → us[i]? = some u → okOper P vs n ops o u = true
  | [], [], _ => ⟨rfl, fun i o u h => by simp at h⟩
  | o :: os, u :: us, h => by
    simp only [okOpers, Bool.and_eq_true] at h
    obtain ⟨h1, h2⟩ := okOpers_get h.2
    refine ⟨by simp [h1], fun i o' u' ho hu => ?_⟩
    cases i with
    | zero => simp at ho hu; subst ho; subst hu; exact h.1
    | succ i => simp at ho hu; exact h2 i o' u' ho hu
  | [], _ :: _, h => by simp [okOpers] at h
  | _ :: _, [], h => by simp [okOpers] at h

section
variable {P : Program} {Γ : Sig} (hΓ : CallsSound P Γ) {vs : List Nat} {n : Nat}
include hΓ

theorem stepQ_sound {G : Gh} {r : RS} {a : Act} {w : World} (hr : RRel vs n G r a w) (hi : HeapInv G r.h w) {ops : Array Oper} {o : Oper} {v : VOper} (hok : okOper P vs n ops o v = true) {i : Nat} (hoi : ops[i]? = some o)
    {q : VVal × List (Id × Nat × Ob)} (he : stepQ Γ v r = some q) {K : Act → World → Prop} {Q : Exit → Act → World → Prop}
    (hK : ∀ a' w' G', Step G r.h w G' (r.app v q).h w' → HeapInv G' (r.app v q).h w' → RRel vs n G' (r.app v q) a' w' → K a' w') : wpOp P ops Q i K a w := by
  simp only [okOper, Bool.and_eq_true] at hok
  obtain ⟨⟨hd, hg⟩, hop⟩ := hok
  unfold wpOp
  simp only [hoi]
  have run : evalOp Γ r.look r.h v.dst.slot v.op = some q → o.wp P a w K Q := fun hq => by
    refine evalOp_sound hΓ hr hi rfl hop (val := q.1) (us := q.2) hq K Q fun c w' G' hs hinv hv => ?_
    exact hK _ w' G' hs hinv (put_rel hr hs hd hv)
  have skip : q = (.undef, []) → K (a.put o.dst Go.undef) w := fun hq => by
    subst hq
    refine hK _ w G (Step.refl _ _ _) hi ?_
    exact put_rel hr (Step.refl _ _ _) hd .undef
  unfold stepQ stepF at he
  unfold okGuard at hg
  split at hg
  · rename_i h1 h2
    rw [h2] at he
    simp only at he
    rw [show Region.wanted o (yielded ops a.tmps) = true by simp [Region.wanted, h1]]
    exact .inl (run he)
  · rename_i j w0 g w1 h1 h2
    rw [h2] at he
    simp only [Bool.and_eq_true, beq_iff_eq] at hg
    obtain ⟨rfl, hg⟩ := hg
    split at hg <;> try (cases hg; done)
    rename_i t ht
    simp only at he
    split at he
    · rename_i b hb
      have hv := vrel_bool (look_rel hr hg hb)
      have hy : yielded ops a.tmps j = some b := by
        simp only [Act.eval] at hv
        unfold yielded
        rw [ht]
        simp only [Option.bind_some]
        cases hx : a.tmps[t]? with
        | none => simp [Array.getD_eq_getD_getElem?, hx, Go.undef] at hv
        | some x => simp [Array.getD_eq_getD_getElem?, hx] at hv; subst hv; rfl
      simp only [Region.wanted, h1, hy]
      split at he
      · rename_i e
        simp only [beq_iff_eq] at e
        subst e
        simp only [beq_self_eq_true, if_true]
        exact .inl (run he)
      · rename_i e
        have : (some b == some w0) = false := by simpa using e
        rw [this]
        simp at he
        exact skip he.symm
    · rename_i hb
      have hv := look_rel hr hg hb
      have hy : yielded ops a.tmps j = none := by
        simp only [Act.eval] at hv
        unfold yielded
        rw [ht]
        simp only [Option.bind_some]
        cases hx : a.tmps[t]? with
        | none => rfl
        | some x =>
          simp [Array.getD_eq_getD_getElem?, hx] at hv
          cases hv
          rfl
      simp only [Region.wanted, h1, hy]
      simp at he
      exact skip he.symm
    · cases he
  · cases hg

theorem runOps_sound {ops : Array Oper} {Q : Exit → Act → World → Prop} : ∀ (us : List VOper) (k : Nat) (G : Gh) (r rn : RS) (a : Act) (w : World), (∀ (j : Nat) (u : VOper), us[j]? = some u → ∃ o, ops[k + j]? = some o ∧ okOper P vs n ops o u = true) →
    RRel vs n G r a w → HeapInv G r.h w → runOps Γ us r = some rn → (∀ a' w' G', Step G r.h w G' rn.h w' → HeapInv G' rn.h w' → RRel vs n G' rn a' w' → Q .normal a' w') → wpOps P ops Q (List.range' k us.length) a w
  | [], k, G, r, rn, a, w, _, hr, hi, hrun, hQ => by
    simp [runOps] at hrun
    subst hrun
    simp only [List.length_nil, List.range'_zero, wpOps]
    exact hQ a w G (Step.refl _ _ _) hi hr
  | u :: us, k, G, r, rn, a, w, hok, hr, hi, hrun, hQ => by
    obtain ⟨r1, h1, hrun⟩ := ob_eq hrun
    obtain ⟨q, hq, rfl⟩ := stepO_eq h1
    obtain ⟨o, ho, hok0⟩ := hok 0 u rfl
    rw [Nat.add_zero] at ho
    simp only [List.length_cons, List.range'_succ]
    rw [wpOps_cons]
    refine stepQ_sound hΓ hr hi hok0 ho hq fun a' w' G' hs hinv hr' => ?_
    refine runOps_sound us (k + 1) G' _ rn a' w' (fun j u' hu' => ?_) hr' hinv hrun fun a'' w'' G'' hs' hinv' hr'' => hQ a'' w'' G'' (hs.trans hs') hinv' hr''
    obtain ⟨o', ho', hok'⟩ := hok (j + 1) u' (by simpa using hu')
    exact ⟨o', by rw [← ho']; congr 1; omega, hok'⟩
end

end Go.V
