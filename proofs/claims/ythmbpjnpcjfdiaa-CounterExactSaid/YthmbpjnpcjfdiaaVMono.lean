/- The value machine V: a call that is known stays known; the equation of a call. -/
import Derived.Test.YthmbpjnpcjfdiaaVExec
import Derived.Test.YthmbpjnpcjfdiaaVSim
set_option linter.unusedSimpArgs false
set_option linter.unusedVariables false
namespace Go.V

def Le (Γ Γ' : Sig) : Prop := ∀ f args H r, Γ f args H = some r → Γ' f args H = some r

theorem ob_ex {α β : Type} {x : Option α} {f : α → Option β} {u : Tok f} {b : β} (h : ob x f u = some b) : ∃ a, x = some a ∧ f a = some b := by
  cases x with
  | none => cases h
  | some a => exact ⟨a, rfl, h⟩

/-- A chain of signatures and its limit. -/
structure Chain (N : Nat → Sig) (Γ : Sig) : Prop where
  mono : ∀ n m, n ≤ m → Le (N n) (N m)
  lim : ∀ f args H r, Γ f args H = some r → ∃ n, N n f args H = some r

theorem vcallR_le {Γ Γ' : Sig} (hl : Le Γ Γ') {h : VHeap} {d : Nat} {f : FuncId} {args : List VVal} {R : List Id} {q : VVal × List (Id × Nat × Ob)} (he : vcallR Γ h d f args R = some q) : vcallR Γ' h d f args R = some q := by
  unfold vcallR at he ⊢
  obtain ⟨a', h1, he⟩ := ob_ex he
  obtain ⟨H, h2, he⟩ := ob_ex he
  obtain ⟨r, h3, he⟩ := ob_ex he
  rw [h1, ob_some, h2, ob_some, hl _ _ _ _ h3, ob_some]
  exact he
theorem vcallR_cont {N : Nat → Sig} {Γ : Sig} (hc : Chain N Γ) {h : VHeap} {d : Nat} {f : FuncId} {args : List VVal} {R : List Id} {q : VVal × List (Id × Nat × Ob)} (he : vcallR Γ h d f args R = some q) : ∃ n, vcallR (N n) h d f args R = some q := by
  unfold vcallR at he
  obtain ⟨a', h1, he⟩ := ob_ex he
  obtain ⟨H, h2, he⟩ := ob_ex he
  obtain ⟨r, h3, he⟩ := ob_ex he
  obtain ⟨n, hn⟩ := hc.lim _ _ _ _ h3
  refine ⟨n, ?_⟩
  unfold vcallR
  rw [h1, ob_some, h2, ob_some, hn, ob_some]
  exact he

theorem vcallRW_le {Γ Γ' : Sig} (hl : Le Γ Γ') {h : VHeap} {d : Nat} {f : FuncId} {args : List VVal} {R : List Id} {q : VVal × List (Id × Nat × Ob)} (he : vcallRW Γ h d f args R = some q) : vcallRW Γ' h d f args R = some q := by
  unfold vcallRW at he ⊢
  obtain ⟨a', h1, he⟩ := ob_ex he
  obtain ⟨H, h2, he⟩ := ob_ex he
  obtain ⟨r, h3, he⟩ := ob_ex he
  rw [h1, ob_some, h2, ob_some, hl _ _ _ _ h3, ob_some]
  exact he
theorem vcallRW_cont {N : Nat → Sig} {Γ : Sig} (hc : Chain N Γ) {h : VHeap} {d : Nat} {f : FuncId} {args : List VVal} {R : List Id} {q : VVal × List (Id × Nat × Ob)} (he : vcallRW Γ h d f args R = some q) : ∃ n, vcallRW (N n) h d f args R = some q := by
  unfold vcallRW at he
  obtain ⟨a', h1, he⟩ := ob_ex he
  obtain ⟨H, h2, he⟩ := ob_ex he
  obtain ⟨r, h3, he⟩ := ob_ex he
  obtain ⟨n, hn⟩ := hc.lim _ _ _ _ h3
  refine ⟨n, ?_⟩
  unfold vcallRW
  rw [h1, ob_some, h2, ob_some, hn, ob_some]
  exact he

def VOp.isCall : VOp → Bool
  | .call _ _ | .callv _ _ | .callW _ _ | .callvW _ _ => true
  | _ => false
theorem evalOp_nocall {Γ Γ' : Sig} {look : VArg → Option VVal} {h : VHeap} {d : Nat} {op : VOp} (ho : op.isCall = false) : evalOp Γ look h d op = evalOp Γ' look h d op := by
  cases op <;> first | rfl | (simp [VOp.isCall] at ho)

theorem evalOp_le {Γ Γ' : Sig} (hl : Le Γ Γ') {look : VArg → Option VVal} {h : VHeap} {d : Nat} {op : VOp} {q : VVal × List (Id × Nat × Ob)} (he : evalOp Γ look h d op = some q) : evalOp Γ' look h d op = some q := by
  by_cases ho : op.isCall = false
  · rw [← evalOp_nocall (Γ := Γ) ho]; exact he
  cases op <;> first | (simp [VOp.isCall] at ho; done) | skip
  · rw [evalOp_call] at he ⊢
    obtain ⟨vs, h1, he⟩ := ob_ex he
    rw [h1, ob_some]
    exact vcallR_le hl he
  · rw [evalOp_callv] at he ⊢
    obtain ⟨g, h0, he⟩ := ob_ex he
    obtain ⟨vs, h1, he⟩ := ob_ex he
    rw [h0, ob_some, h1, ob_some]
    split at he
    · exact vcallR_le hl he
    · exact vcallR_le hl he
    · cases he
  · rw [evalOp_callW] at he ⊢
    obtain ⟨vs, h1, he⟩ := ob_ex he
    rw [h1, ob_some]
    exact vcallRW_le hl he
  · rw [evalOp_callvW] at he ⊢
    obtain ⟨g, h0, he⟩ := ob_ex he
    obtain ⟨vs, h1, he⟩ := ob_ex he
    rw [h0, ob_some, h1, ob_some]
    split at he
    · exact vcallRW_le hl he
    · exact vcallRW_le hl he
    · cases he
theorem evalOp_cont {N : Nat → Sig} {Γ : Sig} (hc : Chain N Γ) {look : VArg → Option VVal} {h : VHeap} {d : Nat} {op : VOp} {q : VVal × List (Id × Nat × Ob)} (he : evalOp Γ look h d op = some q) : ∃ n, evalOp (N n) look h d op = some q := by
  by_cases ho : op.isCall = false
  · exact ⟨0, by rw [← evalOp_nocall (Γ := Γ) ho]; exact he⟩
  cases op <;> first | (simp [VOp.isCall] at ho; done) | skip
  · rw [evalOp_call] at he
    obtain ⟨vs, h1, he⟩ := ob_ex he
    obtain ⟨n, hn⟩ := vcallR_cont hc he
    refine ⟨n, ?_⟩
    rw [evalOp_call, h1, ob_some]
    exact hn
  · rw [evalOp_callv] at he
    obtain ⟨g, h0, he⟩ := ob_ex he
    obtain ⟨vs, h1, he⟩ := ob_ex he
    split at he
    · obtain ⟨n, hn⟩ := vcallR_cont hc he
      refine ⟨n, ?_⟩
      rw [evalOp_callv, h0, ob_some, h1, ob_some]
      exact hn
    · obtain ⟨n, hn⟩ := vcallR_cont hc he
      refine ⟨n, ?_⟩
      rw [evalOp_callv, h0, ob_some, h1, ob_some]
      exact hn
    · cases he
  · rw [evalOp_callW] at he
    obtain ⟨vs, h1, he⟩ := ob_ex he
    obtain ⟨n, hn⟩ := vcallRW_cont hc he
    refine ⟨n, ?_⟩
    rw [evalOp_callW, h1, ob_some]
    exact hn
  · rw [evalOp_callvW] at he
    obtain ⟨g, h0, he⟩ := ob_ex he
    obtain ⟨vs, h1, he⟩ := ob_ex he
    split at he
    · obtain ⟨n, hn⟩ := vcallRW_cont hc he
      refine ⟨n, ?_⟩
      rw [evalOp_callvW, h0, ob_some, h1, ob_some]
      exact hn
    · obtain ⟨n, hn⟩ := vcallRW_cont hc he
      refine ⟨n, ?_⟩
      rw [evalOp_callvW, h0, ob_some, h1, ob_some]
      exact hn
    · cases he

theorem stepO_le {Γ Γ' : Sig} (hl : Le Γ Γ') {o : VOper} {r r' : RS} (h : stepO Γ o r = some r') : stepO Γ' o r = some r' := by
  unfold stepO at h ⊢
  split
  · rename_i hg
    rw [hg] at h
    obtain ⟨q, hq, h⟩ := ob_ex h
    rw [evalOp_le hl hq, ob_some]
    exact h
  · rename_i g want hg
    rw [hg] at h
    obtain ⟨gv, hgv, h⟩ := ob_ex h
    rw [hgv, ob_some]
    split at h
    · unfold br at h ⊢
      split
      · rename_i hb
        rw [if_pos hb] at h
        obtain ⟨q, hq, h⟩ := ob_ex h
        rw [evalOp_le hl hq, ob_some]
        exact h
      · rename_i hb
        rw [if_neg hb] at h
        exact h
    · exact h
    · cases h
theorem stepO_cont {N : Nat → Sig} {Γ : Sig} (hc : Chain N Γ) {o : VOper} {r r' : RS} (h : stepO Γ o r = some r') : ∃ n, stepO (N n) o r = some r' := by
  unfold stepO at h
  split at h
  · rename_i hg
    obtain ⟨q, hq, h⟩ := ob_ex h
    obtain ⟨n, hn⟩ := evalOp_cont hc hq
    refine ⟨n, ?_⟩
    unfold stepO
    rw [hg]
    simp only [hn, ob_some]
    exact h
  · rename_i g want hg
    obtain ⟨gv, hgv, h⟩ := ob_ex h
    split at h
    · unfold br at h
      split at h
      · rename_i hb
        obtain ⟨q, hq, h⟩ := ob_ex h
        obtain ⟨n, hn⟩ := evalOp_cont hc hq
        refine ⟨n, ?_⟩
        unfold stepO
        rw [hg]
        simp only [hgv, ob_some]
        rw [hb, br_true, hn, ob_some]
        exact h
      · rename_i b hb
        refine ⟨0, ?_⟩
        unfold stepO
        rw [hg]
        simp only [hgv, ob_some]
        have : (b == want) = false := by simpa using hb
        rw [this, br_false]
        exact h
    · refine ⟨0, ?_⟩
      unfold stepO
      rw [hg]
      simp only [hgv, ob_some]
      exact h
    · cases h

theorem runOps_le {Γ Γ' : Sig} (hl : Le Γ Γ') : ∀ {os : List VOper} {r r' : RS}, runOps Γ os r = some r' → runOps Γ' os r = some r'
  | [], _, _, h => h
  | o :: os, r, r', h => by
    rw [runOps_cons] at h ⊢
    obtain ⟨r1, h1, h⟩ := ob_ex h
    rw [stepO_le hl h1, ob_some]
    exact runOps_le hl h
theorem runOps_cont {N : Nat → Sig} {Γ : Sig} (hc : Chain N Γ) : ∀ {os : List VOper} {r r' : RS}, runOps Γ os r = some r' → ∃ n, runOps (N n) os r = some r'
  | [], _, _, h => ⟨0, h⟩
  | o :: os, r, r', h => by
    rw [runOps_cons] at h
    obtain ⟨r1, h1, h⟩ := ob_ex h
    obtain ⟨n, hn⟩ := stepO_cont hc h1
    obtain ⟨m, hm⟩ := runOps_cont hc h
    refine ⟨max n m, ?_⟩
    rw [runOps_cons, stepO_le (hc.mono n _ (Nat.le_max_left ..)) hn, ob_some]
    exact runOps_le (hc.mono m _ (Nat.le_max_right ..)) hm
theorem gd_ex {α : Type} {c : Prop} [Decidable c] {x : Option α} {u : Tok x} {b : α} (h : gd c x u = some b) : c ∧ x = some b := by
  unfold gd at h
  split at h
  · exact ⟨by assumption, h⟩
  · cases h
theorem runFp_le {Γ Γ' : Sig} (hl : Le Γ Γ') {fp : List (Nat × Nat)} : ∀ {os : List VOper} {i : Nat} {r r' : RS} {acc : List (Nat × VOper × List Id)}, runFp Γ fp i os r acc = some r' → runFp Γ' fp i os r acc = some r'
  | [], _, _, _, _, h => h
  | o :: os, i, r, r', acc, h => by
    simp only [runFp] at h ⊢
    split
    · rename_i hf
      rw [if_pos hf] at h
      obtain ⟨hch, h⟩ := gd_ex h
      obtain ⟨r1, h1, h⟩ := ob_ex h
      rw [gd_pos _ _ hch, stepO_le hl h1, ob_some]
      exact runFp_le hl h
    · rename_i hf
      rw [if_neg hf] at h
      obtain ⟨r1, h1, h⟩ := ob_ex h
      rw [stepO_le hl h1, ob_some]
      exact runFp_le hl h
theorem runFp_cont {N : Nat → Sig} {Γ : Sig} (hc : Chain N Γ) {fp : List (Nat × Nat)} : ∀ {os : List VOper} {i : Nat} {r r' : RS} {acc : List (Nat × VOper × List Id)}, runFp Γ fp i os r acc = some r' → ∃ n, runFp (N n) fp i os r acc = some r'
  | [], _, _, _, _, h => ⟨0, h⟩
  | o :: os, i, r, r', acc, h => by
    simp only [runFp] at h
    split at h
    · rename_i hf
      obtain ⟨hch, h⟩ := gd_ex h
      obtain ⟨r1, h1, h⟩ := ob_ex h
      obtain ⟨n, hn⟩ := stepO_cont hc h1
      obtain ⟨m, hm⟩ := runFp_cont hc h
      refine ⟨max n m, ?_⟩
      simp only [runFp]
      rw [if_pos hf, gd_pos _ _ hch, stepO_le (hc.mono n _ (Nat.le_max_left ..)) hn, ob_some]
      exact runFp_le (hc.mono m _ (Nat.le_max_right ..)) hm
    · rename_i hf
      obtain ⟨r1, h1, h⟩ := ob_ex h
      obtain ⟨n, hn⟩ := stepO_cont hc h1
      obtain ⟨m, hm⟩ := runFp_cont hc h
      refine ⟨max n m, ?_⟩
      simp only [runFp]
      rw [if_neg hf, stepO_le (hc.mono n _ (Nat.le_max_left ..)) hn, ob_some]
      exact runFp_le (hc.mono m _ (Nat.le_max_right ..)) hm

theorem execR_le {Γ Γ' : Sig} (hl : Le Γ Γ') {vr : VRegion} {s s' : St} (h : execR Γ vr s = some s') : execR Γ' vr s = some s' := by
  unfold execR at h ⊢
  obtain ⟨q, hq, h⟩ := ob_ex h
  split at hq
  · rename_i hf
    rw [if_pos hf, runOps_le hl hq, ob_some]
    exact h
  · rename_i hf
    rw [if_neg hf, runFp_le hl hq, ob_some]
    exact h
theorem execR_cont {N : Nat → Sig} {Γ : Sig} (hc : Chain N Γ) {vr : VRegion} {s s' : St} (h : execR Γ vr s = some s') : ∃ n, execR (N n) vr s = some s' := by
  unfold execR at h
  obtain ⟨q, hq, h⟩ := ob_ex h
  split at hq
  · rename_i hf
    obtain ⟨n, hn⟩ := runOps_cont hc hq
    refine ⟨n, ?_⟩
    unfold execR
    rw [if_pos hf, hn, ob_some]
    exact h
  · rename_i hf
    obtain ⟨n, hn⟩ := runFp_cont hc hq
    refine ⟨n, ?_⟩
    unfold execR
    rw [if_neg hf, hn, ob_some]
    exact h

theorem iter_ex {b : St → Option (VExit × St)} {s : St} {r : VExit × St} (h : iter b s = some r) : ∃ n, iterN b n s = some r := by
  unfold iter at h
  split at h
  · rename_i hex
    have := Classical.choose_spec (Classical.choose_spec hex)
    simp only [Option.some.injEq] at h
    rw [h] at this
    exact ⟨_, this⟩
  · cases h

theorem iterN_le {b b' : St → Option (VExit × St)} (hb : ∀ s r, b s = some r → b' s = some r) : ∀ {k : Nat} {s : St} {r : VExit × St}, iterN b k s = some r → iterN b' k s = some r
  | 0, _, _, h => h
  | k + 1, s, r, h => by
    simp only [iterN] at h ⊢
    obtain ⟨r1, h1, h⟩ := ob_ex h
    rw [hb _ _ h1, ob_some]
    obtain ⟨e1, s1⟩ := r1
    cases e1 with
    | normal => exact iterN_le hb h
    | exit id => exact h
    | ret => exact h

theorem exec_le {Γ Γ' : Sig} (hl : Le Γ Γ') : ∀ (c : VCode) (s : St) (r : VExit × St), exec Γ c s = some r → exec Γ' c s = some r
  | .skip, s, r, h => by rw [exec_skip] at h ⊢; exact h
  | .region vr, s, r, h => by
    rw [exec_region] at h ⊢
    obtain ⟨s1, h1, h⟩ := ob_ex h
    rw [execR_le hl h1, ob_some]
    exact h
  | .seq x y, s, r, h => by
    rw [exec_seq] at h ⊢
    obtain ⟨⟨e1, s1⟩, h1, h⟩ := ob_ex h
    rw [exec_le hl x _ _ h1, ob_some]
    cases e1 with
    | normal => rw [thenE_normal] at h ⊢; exact exec_le hl y _ _ h
    | exit id => exact h
    | ret => exact h
  | .cond t x y, s, r, h => by
    cases t with
    | v t =>
      rw [exec_cond] at h ⊢
      split at h
      · rename_i b hb
        cases b with
        | true => rw [br_true] at h ⊢; exact exec_le hl x _ _ h
        | false => rw [br_false] at h ⊢; exact exec_le hl y _ _ h
      · cases h
    | t t => simp [exec] at h
    | c d => simp [exec] at h
  | .block id x, s, r, h => by
    rw [exec_block] at h ⊢
    obtain ⟨r1, h1, h⟩ := ob_ex h
    rw [exec_le hl x _ _ h1, ob_some]
    exact h
  | .loop x, s, r, h => by
    rw [exec_loop] at h ⊢
    obtain ⟨k, hk⟩ := iter_ex h
    exact iter_of (iterN_le (fun s r => exec_le hl x s r) hk)
  | .exit id, s, r, h => by rw [exec_exit] at h ⊢; exact h
  | .ret, s, r, h => by rw [exec_ret] at h ⊢; exact h
  | .mv a b x, s, r, h => by rw [exec_mv] at h ⊢; exact exec_le hl x _ _ h

theorem exec_cont {N : Nat → Sig} {Γ : Sig} (hc : Chain N Γ) : ∀ (c : VCode) (s : St) (r : VExit × St), exec Γ c s = some r → ∃ n, exec (N n) c s = some r
  | .skip, s, r, h => ⟨0, by rw [exec_skip] at h ⊢; exact h⟩
  | .region vr, s, r, h => by
    rw [exec_region] at h
    obtain ⟨s1, h1, h⟩ := ob_ex h
    obtain ⟨n, hn⟩ := execR_cont hc h1
    refine ⟨n, ?_⟩
    rw [exec_region, hn, ob_some]
    exact h
  | .seq x y, s, r, h => by
    rw [exec_seq] at h
    obtain ⟨⟨e1, s1⟩, h1, h⟩ := ob_ex h
    obtain ⟨n, hn⟩ := exec_cont hc x _ _ h1
    cases e1 with
    | normal =>
      rw [thenE_normal] at h
      obtain ⟨m, hm⟩ := exec_cont hc y _ _ h
      refine ⟨max n m, ?_⟩
      rw [exec_seq, exec_le (hc.mono n _ (Nat.le_max_left ..)) x _ _ hn, ob_some, thenE_normal]
      exact exec_le (hc.mono m _ (Nat.le_max_right ..)) y _ _ hm
    | exit id => exact ⟨n, by rw [exec_seq, hn, ob_some]; exact h⟩
    | ret => exact ⟨n, by rw [exec_seq, hn, ob_some]; exact h⟩
  | .cond t x y, s, r, h => by
    cases t with
    | v t =>
      rw [exec_cond] at h
      split at h
      · rename_i b hb
        cases b with
        | true =>
          rw [br_true] at h
          obtain ⟨n, hn⟩ := exec_cont hc x _ _ h
          exact ⟨n, by rw [exec_cond, hb]; simp only [br_true]; exact hn⟩
        | false =>
          rw [br_false] at h
          obtain ⟨n, hn⟩ := exec_cont hc y _ _ h
          exact ⟨n, by rw [exec_cond, hb]; simp only [br_false]; exact hn⟩
      · cases h
    | t t => simp [exec] at h
    | c d => simp [exec] at h
  | .block id x, s, r, h => by
    rw [exec_block] at h
    obtain ⟨r1, h1, h⟩ := ob_ex h
    obtain ⟨n, hn⟩ := exec_cont hc x _ _ h1
    exact ⟨n, by rw [exec_block, hn, ob_some]; exact h⟩
  | .loop x, s, r, h => by
    rw [exec_loop] at h
    obtain ⟨k, hk⟩ := iter_ex h
    have key : ∀ (k : Nat) (s : St), iterN (exec Γ x) k s = some r → ∃ n, iterN (exec (N n) x) k s = some r := by
      intro k
      induction k with
      | zero => intro s h; simp [iterN] at h
      | succ k ih =>
        intro s h
        simp only [iterN] at h
        obtain ⟨⟨e1, s1⟩, h1, h⟩ := ob_ex h
        obtain ⟨n, hn⟩ := exec_cont hc x _ _ h1
        cases e1 with
        | normal =>
          obtain ⟨m, hm⟩ := ih s1 h
          refine ⟨max n m, ?_⟩
          simp only [iterN]
          rw [exec_le (hc.mono n _ (Nat.le_max_left ..)) x _ _ hn, ob_some]
          exact iterN_le (fun s r => exec_le (hc.mono m _ (Nat.le_max_right ..)) x s r) hm
        | exit id => exact ⟨n, by simp only [iterN]; rw [hn, ob_some]; exact h⟩
        | ret => exact ⟨n, by simp only [iterN]; rw [hn, ob_some]; exact h⟩
    obtain ⟨n, hn⟩ := key k s hk
    exact ⟨n, by rw [exec_loop]; exact iter_of hn⟩
  | .exit id, s, r, h => ⟨0, by rw [exec_exit] at h ⊢; exact h⟩
  | .ret, s, r, h => ⟨0, by rw [exec_ret] at h ⊢; exact h⟩
  | .mv a b x, s, r, h => by
    rw [exec_mv] at h
    obtain ⟨n, hn⟩ := exec_cont hc x _ _ h
    exact ⟨n, by rw [exec_mv]; exact hn⟩

theorem callF_le {Γ Γ' : Sig} (hl : Le Γ Γ') {vf : VFunc} {args : List VVal} {H : List Ob} {r : VVal × List Ob} (h : callF Γ vf args H = some r) : callF Γ' vf args H = some r := by
  unfold callF at h ⊢
  obtain ⟨hn, h⟩ := gd_ex h
  obtain ⟨r1, h1, h⟩ := ob_ex h
  rw [gd_pos _ _ hn, exec_le hl _ _ _ h1, ob_some]
  exact h
theorem callF_cont {N : Nat → Sig} {Γ : Sig} (hc : Chain N Γ) {vf : VFunc} {args : List VVal} {H : List Ob} {r : VVal × List Ob} (h : callF Γ vf args H = some r) : ∃ n, callF (N n) vf args H = some r := by
  unfold callF at h
  obtain ⟨hn, h⟩ := gd_ex h
  obtain ⟨r1, h1, h⟩ := ob_ex h
  obtain ⟨n, h2⟩ := exec_cont hc _ _ _ h1
  refine ⟨n, ?_⟩
  unfold callF
  rw [gd_pos _ _ hn, h2, ob_some]
  exact h

section
variable {prog : FuncId → Option VFunc} {X : Sig}
theorem callN_le : ∀ n, Le (callN prog X n) (callN prog X (n + 1))
  | 0 => fun f args H r h => by
    simp only [callN] at h ⊢
    rw [h]
  | n + 1 => fun f args H r h => by
    have h' : (match X f args H with
      | some r => some r
      | none => match prog f with
        | some vf => callF (callN prog X n) vf args H
        | none => none) = some r := h
    show (match X f args H with
      | some r => some r
      | none => match prog f with
        | some vf => callF (callN prog X (n + 1)) vf args H
        | none => none) = some r
    cases hx : X f args H with
    | some r' =>
      rw [hx] at h'
      exact h'
    | none =>
      rw [hx] at h'
      cases hp : prog f with
      | none => rw [hp] at h'; cases h'
      | some vf =>
        rw [hp] at h'
        exact callF_le (callN_le n) h'
theorem callN_mono (n m : Nat) (h : n ≤ m) : Le (callN prog X n) (callN prog X m) := by
  induction m with
  | zero =>
    have : n = 0 := by omega
    subst this
    exact fun _ _ _ _ h => h
  | succ m ih =>
    rcases Nat.lt_or_ge m n with h1 | h1
    · have : n = m + 1 := by omega
      subst this
      exact fun _ _ _ _ h => h
    · exact fun f args H r hr => callN_le m f args H r (ih h1 f args H r hr)
theorem vcall_of {n : Nat} {f : FuncId} {args : List VVal} {H : List Ob} {r : VVal × List Ob} (h : callN prog X n f args H = some r) : vcall prog X f args H = some r := by
  unfold vcall
  have hex : ∃ n r, callN prog X n f args H = some r := ⟨n, r, h⟩
  rw [dif_pos hex]
  have h1 := Classical.choose_spec (Classical.choose_spec hex)
  have h2 := callN_mono _ (max n (Classical.choose hex)) (Nat.le_max_right ..) _ _ _ _ h1
  have h3 := callN_mono _ (max n (Classical.choose hex)) (Nat.le_max_left ..) _ _ _ _ h
  rw [h3] at h2
  exact h2.symm
theorem vcall_chain : Chain (callN prog X) (vcall prog X) where
  mono := callN_mono
  lim := fun f args H r h => by
    unfold vcall at h
    split at h
    · rename_i hex
      have := Classical.choose_spec (Classical.choose_spec hex)
      simp only [Option.some.injEq] at h
      rw [h] at this
      exact ⟨_, this⟩
    · cases h
/-- The equation of a call. -/
theorem vcall_fix {f : FuncId} {vf : VFunc} (hx : ∀ args H, X f args H = none) (hf : prog f = some vf) {args : List VVal} {H : List Ob} {r : VVal × List Ob} (h : callF (vcall prog X) vf args H = some r) : vcall prog X f args H = some r := by
  obtain ⟨n, hn⟩ := callF_cont vcall_chain h
  refine vcall_of (n := n + 1) ?_
  simp only [callN, hx, hf]
  exact hn
end

end Go.V

