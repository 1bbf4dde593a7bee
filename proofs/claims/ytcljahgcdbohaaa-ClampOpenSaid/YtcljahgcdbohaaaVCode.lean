/- The value machine V against the model: code, functions, calls. -/
import Derived.Test.YtcljahgcdbohaaaVFrz
set_option linter.unusedSimpArgs false
set_option linter.unusedVariables false
namespace Go.V
open Go.RowKit

def VExit.toExit : VExit → Exit
  | .normal => .normal
  | .exit id => .exit id
  | .ret => .ret

theorem iter_eq {b : St → Option (VExit × St)} {s : St} {r : VExit × St} (h : iter b s = some r) : ∃ n, iterN b n s = some r := by
  unfold iter at h
  split at h
  · rename_i hex
    have := Classical.choose_spec (Classical.choose_spec hex)
    simp only [Option.some.injEq] at h
    rw [h] at this
    exact ⟨_, this⟩
  · cases h

/-- Inside a loop, ahead of its body. -/
def LoopWp (P : Program) (c : Code) (Q : Exit → Act → World → Prop) (a : Act) (w : World) : Prop :=
  ∀ (b : Frame) (k : List Item) (cs : List Frame), ∃ e a' w', Q e a' w' ∧ Arrives P (lone (b.at a (.code c :: .inLoop c :: k)) cs w) b k cs e a' w'

theorem loopWp_round {P : Program} {c : Code} {Q : Exit → Act → World → Prop} {a : Act} {w : World} (h : c.wp P (Exit.then (LoopWp P c Q) Q) a w) : LoopWp P c Q a w := by
  intro b k cs
  obtain ⟨e, a₁, w₁, hq, harr⟩ := h b (.inLoop c :: k) cs
  cases e with
  | normal =>
    obtain ⟨e₂, a₂, w₂, hq₂, harr₂⟩ := hq b k cs
    exact ⟨e₂, a₂, w₂, hq₂, .of_steps (Steps.trans harr (.one step_inLoop)) harr₂⟩
  | exit id => exact ⟨_, a₁, w₁, hq, .pass (x := .inLoop c) rfl (fun _ _ => .inl (by simp)) harr⟩
  | goto l => exact ⟨_, a₁, w₁, hq, .pass (x := .inLoop c) rfl (fun _ _ => .inl (by simp)) harr⟩
  | ret => exact ⟨_, a₁, w₁, hq, .pass (x := .inLoop c) rfl (fun _ _ => .inl (by simp)) harr⟩
  | panic ch => exact ⟨_, a₁, w₁, hq, .pass (x := .inLoop c) rfl (fun _ _ => .inl (by simp)) harr⟩
  | outgrown => exact ⟨_, a₁, w₁, hq, .pass (x := .inLoop c) rfl (fun _ _ => .inl (by simp)) harr⟩
theorem wp_of_loopWp {P : Program} {c : Code} {Q : Exit → Act → World → Prop} {a : Act} {w : World} (h : LoopWp P c Q a w) : (Code.loop c).wp P Q a w := by
  intro b k cs
  obtain ⟨e, a', w', hq, harr⟩ := h b k cs
  exact ⟨e, a', w', hq, .of_steps (.one step_loop) harr⟩

section
variable {P : Program} {Γ : Sig} (hΓ : CallsSound P Γ) (hm : P.follows .mixedOrders = true) {vs : List Nat} {n : Nat}
include hΓ hm

theorem exec_sound : ∀ (vc : VCode) (c : Code) (G : Gh) (s s' : St) (a : Act) (w : World) (e : VExit) (Q : Exit → Act → World → Prop), okCode P vs n c vc = true → RRel vs n G s.rs a w → HeapInv G s.h w → exec Γ vc s = some (e, s') →
    (∀ a' w' G', Step G s.h w G' s'.h w' → HeapInv G' s'.h w' → RRel vs n G' s'.rs a' w' → Q e.toExit a' w') → c.wp P Q a w
  | .skip, c, G, s, s', a, w, e, Q, hok, hr, hi, he, hQ => by
    cases c <;> try (simp [okCode] at hok; done)
    rw [exec_skip] at he
    simp only [Option.some.injEq, Prod.mk.injEq] at he
    obtain ⟨rfl, rfl⟩ := he
    exact wp_skip (hQ a w G (Step.refl _ _ _) hi hr)
  | .region r, c, G, s, s', a, w, e, Q, hok, hr, hi, he, hQ => by
    cases c <;> try (simp [okCode] at hok; done)
    rename_i id ops draw
    simp only [okCode] at hok
    rw [exec_region] at he
    obtain ⟨s1, h1, he⟩ := ob_eq he
    simp only [Option.some.injEq, Prod.mk.injEq] at he
    obtain ⟨rfl, rfl⟩ := he
    exact execR_sound hΓ hm hok hr hi h1 hQ
  | .seq x y, c, G, s, s', a, w, e, Q, hok, hr, hi, he, hQ => by
    cases c <;> try (simp [okCode] at hok; done)
    rename_i cx cy
    simp only [okCode, Bool.and_eq_true] at hok
    rw [exec_seq] at he
    obtain ⟨⟨e1, s1⟩, h1, he⟩ := ob_eq he
    refine wp_seq (exec_sound x cx G s s1 a w e1 _ hok.1 hr hi h1 fun a' w' G' hs hinv hr' => ?_)
    cases e1 with
    | normal =>
      rw [thenE_normal] at he
      exact exec_sound y cy G' s1 s' a' w' e Q hok.2 hr' hinv he fun a'' w'' G'' hs' => hQ a'' w'' G'' (hs.trans hs')
    | exit id =>
      rw [thenE_exit] at he
      simp only [Option.some.injEq, Prod.mk.injEq] at he
      obtain ⟨rfl, rfl⟩ := he
      exact hQ a' w' G' hs hinv hr'
    | ret =>
      rw [thenE_ret] at he
      simp only [Option.some.injEq, Prod.mk.injEq] at he
      obtain ⟨rfl, rfl⟩ := he
      exact hQ a' w' G' hs hinv hr'
  | .cond t x y, c, G, s, s', a, w, e, Q, hok, hr, hi, he, hQ => by
    cases c <;> try (simp [okCode] at hok; done)
    rename_i co cx cy
    simp only [okCode, Bool.and_eq_true] at hok
    cases t with
    | v t =>
      rw [exec_cond] at he
      split at he
      · rename_i b hb
        have hv := vrel_bool (look_rel (r := s.rs) hr hok.1.1 (v := .p (.bool b)) (by simp [RS.look, hb]))
        cases b with
        | true =>
          rw [br_true] at he
          exact wp_cond_true hv (exec_sound x cx G s s' a w e Q hok.1.2 hr hi he hQ)
        | false =>
          rw [br_false] at he
          exact wp_cond_false hv (exec_sound y cy G s s' a w e Q hok.2 hr hi he hQ)
      · cases he
    | t t => simp [exec] at he
    | c d => simp [exec] at he
  | .block id x, c, G, s, s', a, w, e, Q, hok, hr, hi, he, hQ => by
    cases c <;> try (simp [okCode] at hok; done)
    rename_i id' cx
    simp only [okCode, Bool.and_eq_true, beq_iff_eq] at hok
    obtain ⟨rfl, hok⟩ := hok
    rw [exec_block] at he
    obtain ⟨⟨e1, s1⟩, h1, he⟩ := ob_eq he
    refine wp_block (exec_sound x cx G s s1 a w e1 _ hok hr hi h1 fun a' w' G' hs hinv hr' => ?_)
    cases e1 with
    | normal =>
      rw [inB_normal] at he
      simp only [Option.some.injEq, Prod.mk.injEq] at he
      obtain ⟨rfl, rfl⟩ := he
      exact hQ a' w' G' hs hinv hr'
    | ret =>
      rw [inB_ret] at he
      simp only [Option.some.injEq, Prod.mk.injEq] at he
      obtain ⟨rfl, rfl⟩ := he
      exact hQ a' w' G' hs hinv hr'
    | exit i =>
      rw [inB_exit] at he
      simp only [VExit.toExit, Exit.inBlock]
      split at he
      · rename_i hid
        simp only [Option.some.injEq, Prod.mk.injEq] at he
        obtain ⟨rfl, rfl⟩ := he
        rw [if_pos hid]
        exact hQ a' w' G' hs hinv hr'
      · rename_i hid
        simp only [Option.some.injEq, Prod.mk.injEq] at he
        obtain ⟨rfl, rfl⟩ := he
        rw [if_neg hid]
        exact hQ a' w' G' hs hinv hr'
  | .loop x, c, G, s, s', a, w, e, Q, hok, hr, hi, he, hQ => by
    cases c <;> try (simp [okCode] at hok; done)
    rename_i cx
    simp only [okCode] at hok
    rw [exec_loop] at he
    obtain ⟨k, hk⟩ := iter_eq he
    have key : ∀ (k : Nat) (G : Gh) (s : St) (a : Act) (w : World), RRel vs n G s.rs a w → HeapInv G s.h w → iterN (exec Γ x) k s = some (e, s') →
        (∀ a' w' G', Step G s.h w G' s'.h w' → HeapInv G' s'.h w' → RRel vs n G' s'.rs a' w' → Q e.toExit a' w') → LoopWp P cx Q a w := by
      intro k
      induction k with
      | zero => intro G s a w _ _ hk; simp [iterN] at hk
      | succ k ih =>
        intro G s a w hr hi hk hQ
        simp only [iterN] at hk
        obtain ⟨⟨e1, s1⟩, h1, hk⟩ := ob_eq hk
        refine loopWp_round (exec_sound x cx G s s1 a w e1 _ hok hr hi h1 fun a' w' G' hs hinv hr' => ?_)
        cases e1 with
        | normal => exact ih G' s1 a' w' hr' hinv hk fun a'' w'' G'' hs' => hQ a'' w'' G'' (hs.trans hs')
        | exit id =>
          simp only [Option.some.injEq, Prod.mk.injEq] at hk
          obtain ⟨rfl, rfl⟩ := hk
          exact hQ a' w' G' hs hinv hr'
        | ret =>
          simp only [Option.some.injEq, Prod.mk.injEq] at hk
          obtain ⟨rfl, rfl⟩ := hk
          exact hQ a' w' G' hs hinv hr'
    exact wp_of_loopWp (key k G s a w hr hi hk hQ)
  | .exit id, c, G, s, s', a, w, e, Q, hok, hr, hi, he, hQ => by
    cases c <;> try (simp [okCode] at hok; done)
    simp only [okCode, beq_iff_eq] at hok
    subst hok
    rw [exec_exit] at he
    simp only [Option.some.injEq, Prod.mk.injEq] at he
    obtain ⟨rfl, rfl⟩ := he
    exact wp_exit (hQ a w G (Step.refl _ _ _) hi hr)
  | .ret, c, G, s, s', a, w, e, Q, hok, hr, hi, he, hQ => by
    cases c <;> try (simp [okCode] at hok; done)
    rw [exec_ret] at he
    simp only [Option.some.injEq, Prod.mk.injEq] at he
    obtain ⟨rfl, rfl⟩ := he
    exact wp_ret (hQ a w G (Step.refl _ _ _) hi hr)
end

/-! ### functions -/

theorem okRets_get {P : Program} {vs : List Nat} : ∀ {rs : List ResultVar} {us : List VRet}, okRets P vs rs us = true → us.length = rs.length ∧ ∀ (i : Nat) (r : ResultVar) (u : VRet), rs[i]? = some r → us[i]? = some u → okRet P vs r u = true
  | [], [], _ => ⟨rfl, fun i o u h => by simp at h⟩
  | o :: os, u :: us, h => by
    simp only [okRets, Bool.and_eq_true] at h
    obtain ⟨h1, h2⟩ := okRets_get h.2
    refine ⟨by simp [h1], fun i o' u' ho hu => ?_⟩
    cases i with
    | zero => simp at ho hu; subst ho; subst hu; exact h.1
    | succ i => simp at ho hu; exact h2 i o' u' ho hu
  | [], _ :: _, h => by simp [okRets] at h
  | _ :: _, [], h => by simp [okRets] at h

/-- One result. -/
def resultOf (tmps : Array Value) : ResultVar → Sem Value
  | .tmp t => pure (tmps.getD t undef)
  | .cell a t => do loadVar t (← asAddr (tmps.getD a undef))

theorem ret_sound {P : Program} {vs : List Nat} {n : Nat} {G : Gh} {s : St} {a : Act} {w : World} (hr : RRel vs n G s.rs a w) (hi : HeapInv G s.h w) {rv : ResultVar} {u : VRet} (hok : okRet P vs rv u = true) {v : VVal} (hv : fetch s u = some v) :
    ∃ c, (resultOf a.tmps rv).run P w = .ok c w ∧ VRel G s.h w v c := by
  unfold okRet at hok
  split at hok
  · rename_i t t'
    simp only [Bool.and_eq_true, beq_iff_eq, List.contains_iff_mem] at hok
    obtain ⟨rfl, hmem⟩ := hok
    simp only [fetch, Option.some.injEq] at hv
    subst hv
    exact ⟨_, by simp [resultOf], hr.pe t hmem⟩
  · rename_i t ty t' agg
    simp only [Bool.and_eq_true, beq_iff_eq, List.contains_iff_mem] at hok
    obtain ⟨⟨rfl, hmem⟩, hagg⟩ := hok
    simp only [fetch, vload] at hv
    obtain ⟨⟨cs, off⟩, hrow, hv⟩ := ob_eq hv
    obtain ⟨ad, hp, hrr⟩ := vrow_sound hi (hr.pe t hmem) hrow
    obtain ⟨c, h1, h2⟩ := loadVar_sound (P := P) hrr hv hagg
    refine ⟨c, ?_, h2⟩
    simp [resultOf, hp, asAddr, h1]
  · cases hok

end Go.V
