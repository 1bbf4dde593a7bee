/- The value machine V against the model: a function of the machine that returns is a function of the model that returns. -/
import Derived.Test.YtcljahgcdbohaaaVCode
set_option linter.unusedSimpArgs false
set_option linter.unusedVariables false
namespace Go.V
open Go.RowKit

theorem mapM_run {P : Program} {w : World} {f : ResultVar → Sem Value} : ∀ (rs : List ResultVar) (vs : List Value), vs.length = rs.length → (∀ (j : Nat) (r : ResultVar) (v : Value), rs[j]? = some r → vs[j]? = some v → (f r).run P w = .ok v w) →
    (rs.mapM f).run P w = .ok vs w
  | [], vs, hl, _ => by
    have : vs = [] := List.length_eq_zero_iff.1 (by simpa using hl)
    subst this
    simp
  | r :: rs, vs, hl, hf => by
    obtain ⟨v, vs', rfl⟩ : ∃ v vs', vs = v :: vs' := by
      cases vs with
      | nil => simp at hl
      | cons v vs' => exact ⟨v, vs', rfl⟩
    have h0 := hf 0 r v rfl rfl
    have ih := mapM_run (P := P) (w := w) (f := f) rs vs' (by simpa using hl) (fun j r u hr hu => hf (j + 1) r u (by simpa using hr) (by simpa using hu))
    rw [List.mapM_cons]
    simp only [Sem.run_bind, h0, Result.andThen_ok, ih, Sem.run_pure]

/-- Results as one value. -/
def tupOf : List Value → Value
  | [v] => v
  | vs => .tuple vs.toArray
theorem results_run {P : Program} {fn : Func} {tmps : Array Value} {w : World} {vs : List Value} (hl : vs.length = fn.results.size) (h : ∀ (j : Nat) (r : ResultVar) (v : Value), fn.results[j]? = some r → vs[j]? = some v → (resultOf tmps r).run P w = .ok v w) :
    (results fn tmps).run P w = .ok (tupOf vs) w := by
  have hm : (fn.results.toList.mapM (resultOf tmps)).run P w = .ok vs w := mapM_run _ vs (by simpa using hl) (fun j r v hr hv => h j r v (by simpa using hr) hv)
  have e : results fn tmps = (do
      let vs ← fn.results.mapM (resultOf tmps)
      pure (if h : vs.size = 1 then vs[0] else .tuple vs)) := by
    unfold results
    congr 1
  rw [e, Array.mapM_eq_mapM_toList]
  simp only [map_eq_pure_bind, bind_assoc, pure_bind, Sem.run_bind, hm, Result.andThen_ok, Sem.run_pure]
  clear hl h hm
  match vs with
  | [] => simp [tupOf]
  | [v] => simp [tupOf]
  | _ :: _ :: _ => simp [tupOf]

theorem callF_sound {P : Program} {Γ : Sig} (hΓ : CallsSound P Γ) (hm : P.follows .mixedOrders = true) {f : FuncId} {vf : VFunc} (hok : okFunc P f vf = true) {args : List VVal} {H : List Ob} {res : VVal} {H' : List Ob} (he : callF Γ vf args H = some (res, H')) :
    hasBody P f = true ∧ CallOK P f args H res H' := by
  unfold okFunc at hok
  split at hok <;> try (cases hok; done)
  rename_i fn hfn
  split at hok <;> try (cases hok; done)
  rename_i c hc
  simp only [Bool.and_eq_true, decide_eq_true_eq] at hok
  obtain ⟨⟨⟨h1, h2⟩, h3⟩, h4⟩ := hok
  refine ⟨by simp [hasBody, hfn, hc, h1], fun G w cargs hinv hlen hargs hkind => ?_⟩
  unfold callF at he
  obtain ⟨hn, he⟩ := gd_eq he
  obtain ⟨⟨e, s'⟩, hex, he⟩ := ob_eq he
  refine calls_of_wp hfn hc (exec_sound hΓ hm (vs := vf.vs) (n := fn.ntmps) vf.body c G { pe := enterE args, h := enterH H } s' _ w e _ h2 ⟨fun s hs => ?_, fun _ _ e => (by cases e), rfl, (by simp; omega)⟩ hinv hex fun a' w' G' hs hinv' hr' => ?_)
  · simp only [enterE]
    by_cases hlt : s < args.length
    · have e1 : args[s]? = some args[s] := List.getElem?_eq_getElem hlt
      have e2 : cargs[s]? = some cargs[s] := Array.getElem?_eq_getElem (by omega)
      have := hargs s _ _ e1 e2
      rw [List.getD_eq_getElem?_getD, e1, Array.getD_eq_getD_getElem?, Array.getElem?_append_left (by omega), e2]
      exact this
    · rw [List.getD_eq_getElem?_getD, List.getElem?_eq_none (by omega), Array.getD_eq_getD_getElem?, Array.getElem?_append_right (by omega), Array.getElem?_replicate]
      split <;> exact .undef
  · have fin : ∀ (vs : List VVal), mapO (fetch s') vf.rets = some vs → ∃ v, (results fn a'.tmps).run P w' = .ok v w' ∧ RetRel G' s'.h w' vs v := fun vs hvs => by
      obtain ⟨r1, r2⟩ := okRets_get h3
      obtain ⟨l1, l2⟩ := mapO_get hvs
      have hex : ∀ k, k ≤ vs.length → ∃ cs : List Value, cs.length = k ∧ ∀ (j : Nat) (r : ResultVar) (v : VVal) (c : Value), fn.results[j]? = some r → vs[j]? = some v → cs[j]? = some c → (resultOf a'.tmps r).run P w' = .ok c w' ∧ VRel G' s'.h w' v c := by
        intro k
        induction k with
        | zero => exact fun _ => ⟨[], rfl, fun j r v c _ _ h => by simp at h⟩
        | succ k ih =>
          intro hk
          obtain ⟨cs, hcl, hcs⟩ := ih (by omega)
          have hlt : k < vs.length := by omega
          have hv : vs[k]? = some vs[k] := List.getElem?_eq_getElem hlt
          obtain ⟨u, hu, huv⟩ := l2 k _ hv
          have hrl : k < fn.results.toList.length := by omega
          have hrr : fn.results.toList[k]? = some fn.results.toList[k] := List.getElem?_eq_getElem hrl
          obtain ⟨c, hc1, hc2⟩ := ret_sound (s := s') hr' hinv' (r2 k _ u hrr hu) huv
          refine ⟨cs ++ [c], by simp [hcl], fun j r v c' hr hv' hc' => ?_⟩
          by_cases hjk : j < k
          · rw [List.getElem?_append_left (by omega)] at hc'
            exact hcs j r v c' hr hv' hc'
          · have hjk' : j = k := by
              have := (List.getElem?_eq_some_iff.1 hc').1
              simp at this
              omega
            subst hjk'
            rw [List.getElem?_append_right (by omega), hcl] at hc'
            simp at hc'
            subst hc'
            rw [hv] at hv'
            simp at hv'
            subst hv'
            have : fn.results.toList[j]? = some r := by simpa using hr
            rw [hrr] at this
            simp only [Option.some.injEq] at this
            rw [this] at hc1
            exact ⟨hc1, hc2⟩
      obtain ⟨cs, hcl, hcs⟩ := hex vs.length (Nat.le_refl _)
      have hsz : fn.results.size = vs.length := by simp at r1; omega
      refine ⟨_, results_run (vs := cs) (by omega) (fun j r c hr hc => ?_), ?_⟩
      · have hj : j < vs.length := by
          have := (List.getElem?_eq_some_iff.1 hc).1
          omega
        exact (hcs j r _ c hr (List.getElem?_eq_getElem hj) hc).1
      · have hrel : ∀ (j : Nat) (v : VVal) (c : Value), vs[j]? = some v → cs[j]? = some c → VRel G' s'.h w' v c := fun j v c hv hc => by
          have hj : j < fn.results.size := by
            have := (List.getElem?_eq_some_iff.1 hv).1
            omega
          exact (hcs j _ v c (Array.getElem?_eq_getElem hj) hv hc).2
        match vs, cs, hcl with
        | [], [], _ => exact ⟨#[], rfl, rfl, fun i v c h => by simp at h⟩
        | [v], [c], _ => exact hrel 0 v c rfl rfl
        | v :: v' :: vs, c :: c' :: cs, hcl => exact ⟨_, rfl, by simpa using hcl.symm, fun i u d hu hd => hrel i u d hu (by simpa using hd)⟩
    have done : ∀ r, (ob (mapO (fetch s') vf.rets) fun vs => ob (outs s'.h vs) fun v => ob (outH s'.h 0 H.length) fun H' => some (v, H')) = some r → r = (res, H') → a'.defers = [] ∧ ∃ v, (results fn a'.tmps).run P w' = .ok v w' ∧
        ∃ c G'' h' vs, Ending.returned v = .returned c ∧ Step G (enterH H) w G'' h' w' ∧ HeapInv G'' h' w' ∧ RetRel G'' h' w' vs c ∧ outs h' vs = some res ∧ outH h' 0 H.length = some H' := fun r he hr => by
      obtain ⟨vs, hvs, he⟩ := ob_eq he
      obtain ⟨v, hv, he⟩ := ob_eq he
      obtain ⟨H2, hH, he⟩ := ob_eq he
      simp only [Option.some.injEq] at he
      subst hr
      simp only [Prod.mk.injEq] at he
      obtain ⟨rfl, rfl⟩ := he
      obtain ⟨c, hc1, hc2⟩ := fin vs hvs
      exact ⟨hr'.defers, c, hc1, c, G', s'.h, vs, rfl, hs, hinv', hc2, hv, hH⟩
    cases e with
    | normal =>
      rw [leave_normal] at he
      exact done _ he rfl
    | ret =>
      rw [leave_ret] at he
      exact done _ he rfl
    | exit id => simp [leave] at he

theorem callN_sound {P : Program} {prog : FuncId → Option VFunc} {X : Sig} (hX : CallsSound P X) (hm : P.follows .mixedOrders = true) (hok : ∀ f vf, prog f = some vf → okFunc P f vf = true) : ∀ n, CallsSound P (callN prog X n)
  | 0 => hX
  | n + 1 => by
    intro f args H res H' he
    simp only [callN] at he
    split at he
    · rename_i r hr
      simp at he
      subst he
      exact hX _ _ _ _ _ hr
    · split at he
      · rename_i vf hvf
        exact callF_sound (callN_sound hX hm hok n) hm (hok f vf hvf) he
      · cases he

theorem vcall_eq {prog : FuncId → Option VFunc} {X : Sig} {f : FuncId} {args : List VVal} {H : List Ob} {r : VVal × List Ob} (h : vcall prog X f args H = some r) : ∃ n, callN prog X n f args H = some r := by
  unfold vcall at h
  split at h
  · rename_i hex
    have := Classical.choose_spec (Classical.choose_spec hex)
    simp only [Option.some.injEq] at h
    rw [h] at this
    exact ⟨_, this⟩
  · cases h

theorem vcall_sound {P : Program} {prog : FuncId → Option VFunc} {X : Sig} (hX : CallsSound P X) (hm : P.follows .mixedOrders = true) (hok : ∀ f vf, prog f = some vf → okFunc P f vf = true) : CallsSound P (vcall prog X) := by
  intro f args H res H' he
  obtain ⟨n, hn⟩ := vcall_eq he
  exact callN_sound hX hm hok n _ _ _ _ _ hn

end Go.V
