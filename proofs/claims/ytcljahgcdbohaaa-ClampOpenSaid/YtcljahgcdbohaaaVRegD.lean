/- The value machine V against the model: regions whose order is drawn. -/
import Derived.Test.YtcljahgcdbohaaaVRegC
set_option linter.unusedSimpArgs false
set_option linter.unusedVariables false
namespace Go.V

/-- The slots that an operation reads, with its guard. -/
def VOper.uses (o : VOper) : List VArg := o.op.args ++ (match o.guard with
  | some (g, _) => [g]
  | none => [])

theorem stepF_look {Γ : Sig} {look look' : VArg → Option VVal} {h : VHeap} {o : VOper} (hx : ∀ x ∈ o.uses, look' x = look x) : stepF Γ look' h o = stepF Γ look h o := by
  have ha : ∀ x ∈ o.op.args, look' x = look x := fun x hm => hx x (by simp [VOper.uses, hm])
  unfold stepF
  split
  · exact evalOp_look _ ha
  · rename_i g want hg
    have : look' g = look g := hx g (by simp [VOper.uses, hg])
    rw [this, evalOp_look _ ha]
theorem filterMap_same {α β : Type} {f g : α → Option β} : ∀ {l : List α}, (∀ x ∈ l, f x = g x) → l.filterMap f = l.filterMap g
  | [], _ => rfl
  | x :: xs, h => by
    rw [List.filterMap_cons, List.filterMap_cons, h x (List.mem_cons_self ..), filterMap_same fun y hy => h y (List.mem_cons_of_mem _ hy)]
theorem touchF_look {look look' : VArg → Option VVal} {h : VHeap} {o : VOper} (hx : ∀ x ∈ o.uses, look' x = look x) : touchF look' h o = touchF look h o := by
  have ha : o.op.args.filterMap look' = o.op.args.filterMap look := filterMap_same fun x hm => hx x (by simp [VOper.uses, hm])
  simp only [touchF, ha]

theorem mem_touch {look : VArg → Option VVal} {h : VHeap} {o : VOper} {x : VArg} (hx : x ∈ o.op.args) {v : VVal} (hv : look x = some v) {id : Id} (hi : id ∈ ids1 v) : id ∈ touchF look h o := by
  simp only [touchF, List.mem_append, List.mem_flatMap, List.mem_filterMap]
  exact .inl ⟨v, ⟨x, hx, hv⟩, hi⟩
theorem touch_writes {look : VArg → Option VVal} {h : VHeap} {o : VOper} (hw : o.op.writes = true) {id : Id} (hi : id ∈ (callArgs o.op (o.op.args.filterMap look)).flatMap ids1 ++ roots h (callArgs o.op (o.op.args.filterMap look))) : id ∈ touchF look h o := by
  simp only [touchF, hw, if_true]
  exact List.mem_append.2 (.inr hi)

theorem stepF_frame {Γ : Sig} {look : VArg → Option VVal} {h h' : VHeap} {o : VOper} (ht : ∀ id ∈ touchF look h o, h' id = h id) (hd : ∀ k, h' (.slot o.dst.slot k) = h (.slot o.dst.slot k)) :
    stepF Γ look h' o = stepF Γ look h o := by
  have := evalOp_frame (Γ := Γ) (look := look) (h := h) (h' := h') (d := o.dst.slot) o.op (fun x hx v hv id hi => ht id (mem_touch hx hv hi)) (fun hw id hi => ht id (touch_writes hw hi)) hd
  unfold stepF
  rw [this]
theorem touchF_frame {look : VArg → Option VVal} {h h' : VHeap} {o : VOper} (ht : ∀ id ∈ touchF look h o, h' id = h id) : touchF look h' o = touchF look h o := by
  simp only [touchF] at ht ⊢
  split
  · rename_i hw
    rw [if_pos hw] at ht
    rw [roots_frame fun id hi => ht id (by simp [hi])]
  · rfl
theorem stepF_silent {Γ : Sig} {look : VArg → Option VVal} {h h' : VHeap} {o : VOper} (hs : o.op.silent = true) : stepF Γ look h' o = stepF Γ look h o := by
  unfold stepF
  rw [evalOp_silent (h := h) (h' := h') hs]
theorem touchF_still {look : VArg → Option VVal} {h h' : VHeap} {o : VOper} (hs : o.op.silent = true) : touchF look h' o = touchF look h o := by
  have : o.op.writes = false := by cases ho : o.op <;> simp_all [VOp.silent, VOp.writes]
  simp [touchF, this]
theorem stepF_still {Γ : Sig} {look : VArg → Option VVal} {h : VHeap} {o : VOper} (hs : o.op.silent = true ∨ o.op.reader = true) {q : VVal × List (Id × Nat × Ob)} (he : stepF Γ look h o = some q) : q.2 = [] := by
  unfold stepF at he
  split at he
  · exact evalOp_still hs he
  · split at he
    · split at he
      · exact evalOp_still hs he
      · simp at he; subst he; rfl
    · simp at he; subst he; rfl
    · cases he
theorem stepF_keys {Γ : Sig} {look : VArg → Option VVal} {h : VHeap} {o : VOper} {q : VVal × List (Id × Nat × Ob)} (he : stepF Γ look h o = some q) : ∀ id ∈ q.2.map (·.1), (∃ k, id = .slot o.dst.slot k) ∨ (o.op.writes = true ∧ id ∈ touchF look h o) := by
  have main : evalOp Γ look h o.dst.slot o.op = some q → ∀ id ∈ q.2.map (·.1), (∃ k, id = .slot o.dst.slot k) ∨ (o.op.writes = true ∧ id ∈ touchF look h o) := fun he id hm => by
    obtain ⟨x, hx, rfl⟩ := List.mem_map.1 hm
    rcases evalOp_keys he x hx with h0 | ⟨h1, ⟨y, hy, v, hv, hi⟩ | h2⟩
    · exact .inl h0
    · exact .inr ⟨h1, mem_touch hy hv hi⟩
    · exact .inr ⟨h1, touch_writes h1 (List.mem_append.2 (.inr h2))⟩
  unfold stepF at he
  split at he
  · exact main he
  · split at he
    · split at he
      · exact main he
      · simp at he; subst he; simp
    · simp at he; subst he; simp
    · cases he

/-! ### swapping -/

theorem look_put {r : RS} {d : VDst} {v : VVal} {x : VArg} (h : d = .none ∨ d ∉ x.slot?) : (r.put d v).look x = r.look x := by
  cases d with
  | none => rfl
  | v s =>
    cases x <;> simp [RS.put, RS.look, VArg.slot?, updV] at h ⊢
    intro e; exact absurd e.symm h
  | t s =>
    cases x <;> simp [RS.put, RS.look, VArg.slot?, updT] at h ⊢
    intro e; exact absurd e.symm h
theorem look_app {r : RS} {o : VOper} {q : VVal × List (Id × Nat × Ob)} {x : VArg} (h : o.dst = .none ∨ o.dst ∉ x.slot?) : (r.app o q).look x = r.look x := by
  rw [← look_put (r := r) (v := q.1) h]
  cases x <;> rfl
theorem reads_uses {o : VOper} {d : VDst} (h : d ∉ o.reads) : ∀ x ∈ o.uses, d ∉ x.slot? := by
  intro x hx hd
  apply h
  simp only [VOper.reads, List.mem_append, List.mem_flatMap]
  simp only [VOper.uses, List.mem_append] at hx
  rcases hx with hx | hx
  · exact .inl ⟨x, hx, hd⟩
  · right
    split at hx
    · rename_i g w hg
      simp at hx
      subst hx
      rw [hg]
      exact hd
    · cases hx

/-- Two operations that do not meet. -/
def Apart (o o' : VOper) (t t' : List Id) : Prop :=
  slotsApart o o' = true ∧ (o.op.silent = true ∨ o'.op.silent = true ∨ (o.op.reader = true ∧ o'.op.reader = true) ∨ apartFp o o' t t' = true)

theorem put_comm (r : RS) {d d' : VDst} (v v' : VVal) (h : d = .none ∨ d ≠ d') : (r.put d v).put d' v' = (r.put d' v').put d v := by
  cases d <;> cases d' <;> simp only [RS.put]
  · rename_i s s'
    have : s ≠ s' := fun e => by simp [e] at h
    congr 1
    funext t
    simp only [updV]
    by_cases h1 : t = s <;> by_cases h2 : t = s' <;> simp [h1, h2]
    · exact absurd (h1.symm.trans h2) this
    · intro e; exact absurd e this
    · intro e; exact absurd e.symm this
  · rename_i s s'
    have : s ≠ s' := fun e => by simp [e] at h
    congr 1
    funext t
    simp only [updT]
    by_cases h1 : t = s <;> by_cases h2 : t = s' <;> simp [h1, h2]
    · exact absurd (h1.symm.trans h2) this
    · intro e; exact absurd e this
    · intro e; exact absurd e.symm this

theorem app_app (r : RS) (o o' : VOper) (q q' : VVal × List (Id × Nat × Ob)) : (r.app o q).app o' q' = { (r.put o.dst q.1).put o'.dst q'.1 with h := (r.h.upds q.2).upds q'.2 } := by
  unfold RS.app
  cases o'.dst <;> rfl

theorem swap {Γ : Sig} {r : RS} {o o' : VOper} {q q' : VVal × List (Id × Nat × Ob)} (h : stepQ Γ o r = some q) (h' : stepQ Γ o' (r.app o q) = some q') (ha : Apart o o' (touch r o) (touch (r.app o q) o')) :
    stepQ Γ o' r = some q' ∧ touch r o' = touch (r.app o q) o' ∧ stepQ Γ o (r.app o' q') = some q ∧ touch (r.app o' q') o = touch r o ∧ (r.app o' q').app o q = (r.app o q).app o' q' := by
  obtain ⟨hsl, hmem⟩ := ha
  simp only [slotsApart, Bool.and_eq_true, Bool.or_eq_true, beq_iff_eq, bne_iff_ne, Bool.not_eq_true', ← Bool.not_eq_true, List.contains_iff_mem] at hsl
  obtain ⟨hs1, hs2⟩ := hsl
  have L1 : ∀ x ∈ o'.uses, (r.app o q).look x = r.look x := fun x hx => look_app (by
    rcases hs1 with e | ⟨_, e⟩
    · exact .inl e
    · exact .inr (reads_uses e x hx))
  have L2 : ∀ x ∈ o.uses, (r.app o' q').look x = r.look x := fun x hx => look_app (by
    rcases hs2 with e | e
    · exact .inl e
    · exact .inr (reads_uses e x hx))
  have hput : (r.put o.dst q.1).put o'.dst q'.1 = (r.put o'.dst q'.1).put o.dst q.1 := put_comm r _ _ (by
    rcases hs1 with e | ⟨e, _⟩
    · exact .inl e
    · exact .inr e)
  have hh1 : (r.app o q).h = r.h.upds q.2 := rfl
  have hh2 : (r.app o' q').h = r.h.upds q'.2 := rfl
  -- what is to be shown of the memory
  have fin : stepF Γ (r.app o q).look r.h o' = stepF Γ (r.app o q).look (r.app o q).h o' → touchF (r.app o q).look r.h o' = touchF (r.app o q).look (r.app o q).h o' →
      (stepF Γ r.look r.h o' = some q' → touchF r.look r.h o' = touch (r.app o q) o' → stepF Γ r.look (r.app o' q').h o = stepF Γ r.look r.h o ∧ touchF r.look (r.app o' q').h o = touchF r.look r.h o ∧ (r.h.upds q.2).upds q'.2 = (r.h.upds q'.2).upds q.2) →
      stepQ Γ o' r = some q' ∧ touch r o' = touch (r.app o q) o' ∧ stepQ Γ o (r.app o' q') = some q ∧ touch (r.app o' q') o = touch r o ∧ (r.app o' q').app o q = (r.app o q).app o' q' := fun m1 m2 m3 => by
    have e1 : stepQ Γ o' r = some q' := by rw [← h', stepQ, stepQ, ← m1, stepF_look L1]
    have e2 : touch r o' = touch (r.app o q) o' := by rw [touch, touch, ← m2, touchF_look L1]
    obtain ⟨m4, m5, m6⟩ := m3 e1 e2
    refine ⟨e1, e2, ?_, ?_, ?_⟩
    · rw [stepQ, stepF_look L2, m4]; exact h
    · rw [touch, touchF_look L2, m5]; rfl
    · rw [app_app, app_app, hput, m6]
  by_cases hso : o.op.silent = true
  · have e : q.2 = [] := stepF_still (.inl hso) h
    have hr : (r.app o q).h = r.h := by rw [hh1, e]; rfl
    rw [hr] at fin
    refine fin rfl rfl fun _ _ => ⟨stepF_silent hso, touchF_still hso, ?_⟩
    rw [e]; rfl
  by_cases hso' : o'.op.silent = true
  · refine fin (stepF_silent hso') (touchF_still hso') fun he _ => ?_
    have e : q'.2 = [] := stepF_still (.inl hso') he
    have hr : (r.app o' q').h = r.h := by rw [hh2, e]; rfl
    rw [hr, e]
    exact ⟨rfl, rfl, rfl⟩
  by_cases hrd : o.op.reader = true ∧ o'.op.reader = true
  · have e : q.2 = [] := stepF_still (.inr hrd.1) h
    have hr : (r.app o q).h = r.h := by rw [hh1, e]; rfl
    rw [hr] at fin
    refine fin rfl rfl fun he _ => ?_
    have e' : q'.2 = [] := stepF_still (.inr hrd.2) he
    have hr' : (r.app o' q').h = r.h := by rw [hh2, e']; rfl
    rw [hr', e, e']
    exact ⟨rfl, rfl, rfl⟩
  have hfp : apartFp o o' (touch r o) (touch (r.app o q) o') = true := by
    rcases hmem with h0 | h0 | h0 | h0
    · exact absurd h0 hso
    · exact absurd h0 hso'
    · exact absurd h0 hrd
    · exact h0
  simp only [apartFp, Bool.and_eq_true, Bool.or_eq_true, Bool.not_eq_true', List.all_eq_true, bne_iff_ne, ← Bool.not_eq_true, List.contains_iff_mem] at hfp
  obtain ⟨⟨⟨⟨f1, f2⟩, f3⟩, f4⟩, f5⟩ := hfp
  have at_ : ∀ d k, (Id.slot d k).at d = true := fun d k => by simp [Id.at]
  have k1 := stepF_keys h
  have m1 : ∀ id ∈ touchF (r.app o q).look (r.app o q).h o', r.h id = (r.app o q).h id := fun id hm => by
    rw [hh1, upds_not]
    intro hk
    rcases k1 id hk with ⟨k, rfl⟩ | ⟨hw, ht⟩
    · exact f4 _ hm (at_ _ _)
    · rcases f1 with f1 | f1
      · exact f1 hw
      · exact f1 id ht hm
  refine fin (stepF_frame m1 fun k => ?_) (touchF_frame m1) fun he ht' => ?_
  · rw [hh1, upds_not]
    intro hk
    rcases k1 _ hk with ⟨k', e⟩ | ⟨hw, ht⟩
    · simp at e
      exact f5 e.1.symm
    · exact f3 _ ht (at_ _ _)
  · have k2 := stepF_keys he
    rw [ht'] at k2
    have m2 : ∀ id ∈ touchF r.look r.h o, (r.app o' q').h id = r.h id := fun id hm => by
      rw [hh2, upds_not]
      intro hk
      rcases k2 id hk with ⟨k, rfl⟩ | ⟨hw, ht⟩
      · exact f3 _ hm (at_ _ _)
      · rcases f2 with f2 | f2
        · exact f2 hw
        · exact f2 id ht hm
    refine ⟨stepF_frame m2 fun k => ?_, touchF_frame m2, upds_comm _ _ _ fun id h1 h2 => ?_⟩
    · rw [hh2, upds_not]
      intro hk
      rcases k2 _ hk with ⟨k', e⟩ | ⟨hw, ht⟩
      · simp at e
        exact f5 e.1
      · exact f4 _ ht (at_ _ _)
    · rcases k1 id h1 with ⟨k, rfl⟩ | ⟨hw, ht⟩
      · rcases k2 _ h2 with ⟨k', e⟩ | ⟨hw', ht''⟩
        · simp at e
          exact f5 e.1
        · exact f4 _ ht'' (at_ _ _)
      · rcases k2 _ h2 with ⟨k', rfl⟩ | ⟨hw', ht''⟩
        · exact f3 _ ht (at_ _ _)
        · rcases f1 with f1 | f1
          · exact f1 hw
          · exact f1 id ht ht''

/-! ### runs -/

abbrev RE := Nat × VOper × List Id

def Runs (Γ : Sig) : List RE → RS → RS → Prop
  | [], r, rn => r = rn
  | e :: L, r, rn => touch r e.2.1 = e.2.2 ∧ ∃ q, stepQ Γ e.2.1 r = some q ∧ Runs Γ L (r.app e.2.1 q) rn

theorem Runs.front {Γ : Sig} : ∀ (A : List RE) (e : RE) (B : List RE) (r rn : RS), Runs Γ (A ++ e :: B) r rn → (∀ x ∈ A, Apart x.2.1 e.2.1 x.2.2 e.2.2) → Runs Γ (e :: (A ++ B)) r rn
  | [], _, _, _, _, h, _ => h
  | x :: A, e, B, r, rn, h, ha => by
    obtain ⟨ht, q, hq, h⟩ := h
    obtain ⟨ht', q', hq', h⟩ := Runs.front A e B _ rn h fun y hy => ha y (List.mem_cons_of_mem _ hy)
    obtain ⟨s1, s2, s3, s4, s5⟩ := swap hq hq' (by rw [ht, ht']; exact ha x (List.mem_cons_self ..))
    refine ⟨by rw [s2, ht'], q', s1, by rw [s4, ht], q, s3, ?_⟩
    rw [s5]
    exact h

theorem runFp_runs {Γ : Sig} {fp : List (Nat × Nat)} : ∀ (os : List VOper) (i : Nat) (r rn : RS) (acc : List RE), runFp Γ fp i os r acc = some rn →
    ∃ L : List RE, L.map (·.2.1) = os ∧ L.map (·.1) = List.range' i os.length ∧ Runs Γ L r rn ∧ (∀ x ∈ acc, ∀ e ∈ L, fp.contains (x.1, e.1) = true → apartFp x.2.1 e.2.1 x.2.2 e.2.2 = true) ∧
      L.Pairwise fun x e => fp.contains (x.1, e.1) = true → apartFp x.2.1 e.2.1 x.2.2 e.2.2 = true
  | [], i, r, rn, acc, h => by
    simp [runFp] at h
    exact ⟨[], rfl, rfl, h, by simp, .nil⟩
  | o :: os, i, r, rn, acc, h => by
    have hchk : ∀ acc : List RE, checkFp fp i o (touch r o) acc = true → ∀ x ∈ acc, fp.contains (x.1, i) = true → apartFp x.2.1 o x.2.2 (touch r o) = true := by
      intro acc
      induction acc with
      | nil => intro _ x hx; cases hx
      | cons y ys ih =>
        intro hc x hx hf
        obtain ⟨a, o', t'⟩ := y
        simp only [checkFp] at hc
        rcases List.mem_cons.1 hx with rfl | hx
        · simp only at hf
          rw [if_pos hf] at hc
          simp only [Bool.and_eq_true] at hc
          exact hc.1
        · split at hc
          · simp only [Bool.and_eq_true] at hc
            exact ih hc.2 x hx hf
          · exact ih hc x hx hf
    have hmain : (fpR fp i = true → checkFp fp i o (touch r o) acc = true) ∧ (ob (stepO Γ o r) fun r' => runFp Γ fp (i + 1) os r' (noteFp fp i o r acc)) = some rn := by
      simp only [runFp] at h
      split at h
      · obtain ⟨hc, h⟩ := gd_eq h
        exact ⟨fun _ => hc, h⟩
      · rename_i hn
        exact ⟨fun e => absurd e hn, h⟩
    obtain ⟨hc, h⟩ := hmain
    obtain ⟨r1, h1, h⟩ := ob_eq h
    obtain ⟨q, hq, rfl⟩ := stepO_eq h1
    obtain ⟨L, l1, l2, l3, l4, l5⟩ := runFp_runs os (i + 1) _ rn _ h
    have hsub : ∀ x ∈ acc, x ∈ noteFp fp i o r acc := fun x hx => by
      unfold noteFp
      split
      · exact List.mem_cons_of_mem _ hx
      · exact hx
    have hin : ∀ b, fp.contains (i, b) = true → (i, o, touch r o) ∈ noteFp fp i o r acc := fun b hb => by
      unfold noteFp
      rw [if_pos]
      · exact List.mem_cons_self ..
      · simp only [fpL, List.any_eq_true]
        exact ⟨(i, b), List.contains_iff_mem.1 hb, by simp⟩
    refine ⟨(i, o, touch r o) :: L, by simp [l1], by simp [l2, List.range'_succ], ⟨rfl, q, hq, l3⟩, fun x hx e he => ?_, ?_⟩
    · rcases List.mem_cons.1 he with rfl | he
      · intro hf
        refine hchk acc (hc ?_) x hx hf
        simp only [fpR, List.any_eq_true]
        exact ⟨(x.1, i), List.contains_iff_mem.1 hf, by simp⟩
      · exact l4 x (hsub x hx) e he
    · refine List.pairwise_cons.2 ⟨fun e he hf => l4 (i, o, touch r o) (hin _ hf) e he hf, l5⟩

theorem runOps_runs {Γ : Sig} : ∀ (os : List VOper) (i : Nat) (r rn : RS), runOps Γ os r = some rn →
    ∃ L : List RE, L.map (·.2.1) = os ∧ L.map (·.1) = List.range' i os.length ∧ Runs Γ L r rn
  | [], i, r, rn, h => by
    simp [runOps] at h
    exact ⟨[], rfl, rfl, h⟩
  | o :: os, i, r, rn, h => by
    simp only [runOps] at h
    obtain ⟨r1, h1, h⟩ := ob_eq h
    obtain ⟨q, hq, rfl⟩ := stepO_eq h1
    obtain ⟨L, l1, l2, l3⟩ := runOps_runs os (i + 1) _ rn h
    exact ⟨(i, o, touch r o) :: L, by simp [l1], by simp [l2, List.range'_succ], ⟨rfl, q, hq, l3⟩⟩

end Go.V
