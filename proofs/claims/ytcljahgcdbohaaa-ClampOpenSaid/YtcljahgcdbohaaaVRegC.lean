/- The value machine V: operations that do not meet can be swapped. -/
import Derived.Test.YtcljahgcdbohaaaVRegB
set_option linter.unusedSimpArgs false
set_option linter.unusedVariables false
namespace Go.V

theorem mapO_filterMap {α β : Type} {f : α → Option β} : ∀ {l : List α} {ys : List β}, mapO f l = some ys → l.filterMap f = ys
  | [], ys, h => by simp [mapO] at h; subst h; rfl
  | x :: xs, ys, h => by
    obtain ⟨y, hy, h⟩ := ob_eq h
    obtain ⟨zs, hz, h⟩ := ob_eq h
    simp at h
    subst h
    rw [List.filterMap_cons, hy, mapO_filterMap hz]

theorem mapO_mem {α β : Type} {f : α → Option β} {l : List α} {ys : List β} (h : mapO f l = some ys) {y : β} (hy : y ∈ ys) : ∃ x ∈ l, f x = some y := by
  obtain ⟨i, hi⟩ := List.getElem?_of_mem hy
  obtain ⟨x, hx, he⟩ := (mapO_get h).2 i y hi
  exact ⟨x, List.mem_of_getElem? hx, he⟩

theorem bcells_look {look look' : VArg → Option VVal} {d : Nat} : ∀ (bs : List BC) (j : Nat) (h : VHeap), (∀ x i n, BC.a x i n ∈ bs → look' x = look x) → bcells look' d h j bs = bcells look d h j bs
  | [], _, _, _ => rfl
  | .z z :: bs, j, h, ha => by
    simp only [bcells]
    rw [bcells_look bs (j + 1) _ fun x i n hm => ha x i n (List.mem_cons_of_mem _ hm)]
  | .a x i n :: bs, j, h, ha => by
    simp only [bcells]
    rw [ha x i n (List.mem_cons_self ..), bcells_look bs (j + 1) _ fun x i n hm => ha x i n (List.mem_cons_of_mem _ hm)]

theorem optNat_look {look look' : VArg → Option VVal} {x : Option VArg} {k : Nat} (h : ∀ y, x = some y → look' y = look y) : optNat look' k x = optNat look k x := by
  cases x with
  | none => rfl
  | some y => simp only [optNat, h y rfl]

/-- An operation looks at its operands alone. -/
theorem evalOp_look {Γ : Sig} {look look' : VArg → Option VVal} {h : VHeap} {d : Nat} (op : VOp) (hx : ∀ x ∈ op.args, look' x = look x) : evalOp Γ look' h d op = evalOp Γ look h d op := by
  cases op <;> simp only [VOp.args, List.mem_cons, List.not_mem_nil, or_false, forall_eq_or_imp, forall_eq] at hx <;> simp only [evalOp]
  case pick => rw [hx.1, hx.2.1, hx.2.2]
  case build cs =>
    rw [bcells_look cs 0 h fun x i n hm => hx x (List.mem_filterMap.2 ⟨_, hm, rfl⟩)]
  case buildSlice sz ps =>
    rw [mapO_congr (f := fun x => ob (look' x) fun v => freezeP v) (g := fun x => ob (look x) fun v => freezeP v) fun x hm => by rw [hx x hm]]
  case slice str sz lo hi mx x =>
    rw [hx.1]
    cases look x with
    | none => simp only [ob_none]
    | some s =>
      simp only [ob_some]
      have e1 : ∀ k, optNat look' k lo = optNat look k lo := fun k => optNat_look fun y hy => hx.2 y (by simp [hy])
      have e2 : ∀ k, optNat look' k hi = optNat look k hi := fun k => optNat_look fun y hy => hx.2 y (by simp [hy])
      have e3 : ∀ sz l m s, vcut3 d h look' sz l m s mx = vcut3 d h look sz l m s mx := fun sz l m s => by
        cases mx with
        | none => rfl
        | some y => simp only [vcut3, hx.2 y (by simp)]
      have e4 : vsliceS look' lo hi s = vsliceS look lo hi s := by
        unfold vsliceS
        cases vlenS s with
        | none => simp only [ob_none]
        | some n =>
          simp only [ob_some]
          rw [e1, e2]
      have e5 : vslice d h look' sz lo hi mx s = vslice d h look sz lo hi mx s := by
        unfold vslice
        cases vlen s with
        | none => simp only [ob_none]
        | some n =>
          simp only [ob_some]
          rw [e1, e2]
          cases optNat look 0 lo with
          | none => simp only [ob_none]
          | some l =>
            simp only [ob_some]
            cases optNat look n hi with
            | none => simp only [ob_none]
            | some m =>
              simp only [ob_some]
              rw [e3]
      rw [e4, e5]
  case minmax => rw [mapO_congr hx]
  case makeFunc => rw [mapO_congr hx]
  case call => rw [mapO_congr hx]
  case callv => rw [hx.1, mapO_congr hx.2]
  all_goals first
    | done
    | rw [hx]
    | rw [hx.1, hx.2]
    | rw [hx.1, hx.2.1, hx.2.2]

theorem evalOp_silent {Γ : Sig} {look : VArg → Option VVal} {h h' : VHeap} {d : Nat} {op : VOp} (hs : op.silent = true) : evalOp Γ look h' d op = evalOp Γ look h d op := by
  cases op <;> first | rfl | (simp [VOp.silent] at hs)

theorem evalOp_still {Γ : Sig} {look : VArg → Option VVal} {h : VHeap} {d : Nat} {op : VOp} (hs : op.silent = true ∨ op.reader = true) {q : VVal × List (Id × Nat × Ob)} (he : evalOp Γ look h d op = some q) : q.2 = [] := by
  cases op <;> first | (simp [VOp.silent, VOp.reader] at hs; done) | skip
  all_goals simp only [evalOp] at he
  case move =>
    obtain ⟨_, _, he⟩ := ob_eq he
    simp only [Option.some.injEq] at he
    rw [← he]
  case pick =>
    obtain ⟨_, _, he⟩ := ob_eq he
    split at he <;> first | (cases he; done) | skip
    unfold br at he
    split at he
    · obtain ⟨_, _, he⟩ := ob_eq he
      simp only [Option.some.injEq] at he
      rw [← he]
    · obtain ⟨_, _, he⟩ := ob_eq he
      simp only [Option.some.injEq] at he
      rw [← he]
  case load =>
    obtain ⟨_, _, he⟩ := ob_eq he
    obtain ⟨_, _, he⟩ := ob_eq he
    simp only [Option.some.injEq] at he
    rw [← he]
  case fieldAddr =>
    obtain ⟨_, _, he⟩ := ob_eq he
    split at he <;> first | (cases he; done) | skip
    all_goals
      simp only [Option.some.injEq] at he
      rw [← he]
  case field =>
    obtain ⟨_, _, he⟩ := ob_eq he
    split at he <;> first | (cases he; done) | skip
    obtain ⟨_, _, he⟩ := ob_eq he
    simp only [Option.some.injEq] at he
    rw [← he]
  case indexAddr =>
    obtain ⟨_, _, he⟩ := ob_eq he
    obtain ⟨_, _, he⟩ := ob_eq he
    split at he <;> first | (cases he; done) | skip
    obtain ⟨_, _, he⟩ := ob_eq he
    simp only [Option.some.injEq] at he
    rw [← he]
  case indexStr =>
    obtain ⟨_, _, he⟩ := ob_eq he
    obtain ⟨_, _, he⟩ := ob_eq he
    split at he <;> first | (cases he; done) | skip
    obtain ⟨_, he⟩ := gd_eq he
    obtain ⟨_, _, he⟩ := ob_eq he
    simp only [Option.some.injEq] at he
    rw [← he]
  case bin =>
    obtain ⟨_, _, he⟩ := ob_eq he
    obtain ⟨_, _, he⟩ := ob_eq he
    obtain ⟨_, _, he⟩ := ob_eq he
    simp only [Option.some.injEq] at he
    rw [← he]
  case eqAgg =>
    obtain ⟨_, _, he⟩ := ob_eq he
    obtain ⟨_, _, he⟩ := ob_eq he
    split at he <;> first | (cases he; done) | skip
    obtain ⟨_, _, he⟩ := ob_eq he
    obtain ⟨_, _, he⟩ := ob_eq he
    obtain ⟨_, _, he⟩ := ob_eq he
    simp only [Option.some.injEq] at he
    rw [← he]
  case not =>
    obtain ⟨_, _, he⟩ := ob_eq he
    split at he <;> first | (cases he; done) | skip
    simp only [Option.some.injEq] at he
    rw [← he]
  case neg =>
    obtain ⟨_, _, he⟩ := ob_eq he
    split at he <;> first | (cases he; done) | skip
    simp only [Option.some.injEq] at he
    rw [← he]
  case len =>
    obtain ⟨_, _, he⟩ := ob_eq he
    obtain ⟨_, _, he⟩ := ob_eq he
    simp only [Option.some.injEq] at he
    rw [← he]
  case lenStr =>
    obtain ⟨_, _, he⟩ := ob_eq he
    obtain ⟨_, _, he⟩ := ob_eq he
    simp only [Option.some.injEq] at he
    rw [← he]
  case eqB =>
    obtain ⟨_, _, he⟩ := ob_eq he
    obtain ⟨_, _, he⟩ := ob_eq he
    split at he <;> first | (cases he; done) | skip
    simp only [Option.some.injEq] at he
    rw [← he]
  case lookup =>
    obtain ⟨_, _, he⟩ := ob_eq he
    obtain ⟨_, _, he⟩ := ob_eq he
    obtain ⟨_, _, he⟩ := ob_eq he
    obtain ⟨_, he⟩ := gd_eq he
    obtain ⟨_, _, he⟩ := ob_eq he
    simp only [Option.some.injEq] at he
    rw [← he]
  case mapLen =>
    obtain ⟨_, _, he⟩ := ob_eq he
    obtain ⟨_, _, he⟩ := ob_eq he
    simp only [Option.some.injEq] at he
    rw [← he]
  case extract =>
    obtain ⟨_, _, he⟩ := ob_eq he
    split at he <;> first | (cases he; done) | skip
    obtain ⟨_, _, he⟩ := ob_eq he
    simp only [Option.some.injEq] at he
    rw [← he]
  case minmax =>
    obtain ⟨_, _, he⟩ := ob_eq he
    obtain ⟨_, _, he⟩ := ob_eq he
    simp only [Option.some.injEq] at he
    rw [← he]
  case conv =>
    obtain ⟨_, _, he⟩ := ob_eq he
    split at he <;> first | (cases he; done) | skip
    simp only [Option.some.injEq] at he
    rw [← he]
  case nilCheck =>
    obtain ⟨_, _, he⟩ := ob_eq he
    split at he <;> first | (cases he; done) | skip
    all_goals
      simp only [Option.some.injEq] at he
      rw [← he]
  case makeFunc =>
    obtain ⟨_, _, he⟩ := ob_eq he
    simp only [Option.some.injEq] at he
    rw [← he]

/-- What an operation may look at in memory. -/
theorem evalOp_frame {Γ : Sig} {look : VArg → Option VVal} {h h' : VHeap} {d : Nat} (op : VOp) (h1 : ∀ x ∈ op.args, ∀ v, look x = some v → ∀ id ∈ ids1 v, h' id = h id)
    (h2 : op.writes = true → ∀ id ∈ (callArgs op (op.args.filterMap look)).flatMap ids1 ++ roots h (callArgs op (op.args.filterMap look)), h' id = h id) (hd : ∀ k, h' (.slot d k) = h (.slot d k)) :
    evalOp Γ look h' d op = evalOp Γ look h d op := by
  by_cases hsil : op.silent = true
  · exact evalOp_silent hsil
  cases op <;> first | (simp [VOp.silent] at hsil; done) | skip
  all_goals simp only [VOp.args, List.mem_cons, List.not_mem_nil, or_false, forall_eq_or_imp, forall_eq] at h1
  all_goals simp only [evalOp]
  case newArr => rw [hd]
  case alloc zs => rw [zcells_frame zs 0 h h' hd, agree_slot _ hd]
  case box => rw [hd]
  case build bs => rw [bcells_frame bs 0 h h' hd]
  case buildSlice => rw [hd]
  case load agg a =>
    cases hl : look a with
    | none => simp only [ob_none]
    | some p =>
      simp only [ob_some, vload]
      rw [vrow_frame fun id hm => h1 p hl id (ids0_sub hm)]
  case store n a x =>
    cases hl : look a with
    | none => simp only [ob_none]
    | some p =>
      simp only [ob_some]
      cases look x with
      | none => simp only [ob_none]
      | some v =>
        simp only [ob_some, vstore]
        rw [vstoreAt_frame fun id hm => h1.1 p hl id (ids0_sub hm)]
  case indexAddr sz x i =>
    cases hl : look x with
    | none => simp only [ob_none]
    | some p =>
      simp only [ob_some]
      cases look i with
      | none => simp only [ob_none]
      | some v =>
        simp only [ob_some]
        split
        · simp only [vindex]
          rw [vindexAt_frame fun id hm => h1.1 p hl id (ids0_sub hm)]
        · rfl
  case append sz bytes s x =>
    cases hl : look s with
    | none => simp only [ob_none]
    | some p =>
      simp only [ob_some]
      cases hx : look x with
      | none => simp only [ob_none]
      | some v =>
        simp only [ob_some]
        have e2 : velems h' v = velems h v := velems_frame fun id hm => h1.2 v hx id (ids0_sub hm)
        unfold vappend
        split
        · rename_i id ver len
          rw [h1.1 _ hl id (by simp [ids1, ids0]), e2]
        · rfl
  case appendNil sz bytes x =>
    cases hx : look x with
    | none => simp only [ob_none]
    | some v =>
      simp only [ob_some]
      have e2 : velems h' v = velems h v := velems_frame fun id hm => h1 v hx id (ids0_sub hm)
      unfold vappendNil
      rw [e2, hd]
  case slice str sz lo hi mx x =>
    cases hx : look x with
    | none => simp only [ob_none]
    | some s =>
      simp only [ob_some]
      have e3 : ∀ l m, vcut3 d h' look sz l m s mx = vcut3 d h look sz l m s mx := fun l m => by
        cases mx with
        | none => simp only [vcut3]; exact vcut_frame fun id hm => h1.1 s hx id (ids0_sub hm)
        | some y => simp only [vcut3, vcut0]; rw [hd]
      have e5 : vslice d h' look sz lo hi mx s = vslice d h look sz lo hi mx s := by
        unfold vslice
        cases vlen s with
        | none => simp only [ob_none]
        | some n =>
          simp only [ob_some]
          cases optNat look 0 lo with
          | none => simp only [ob_none]
          | some l =>
            simp only [ob_some]
            cases optNat look n hi with
            | none => simp only [ob_none]
            | some m =>
              simp only [ob_some]
              rw [e3]
      rw [e5]
  case lookup ok kt zero m k =>
    cases hm : look m with
    | none => simp only [ob_none]
    | some v =>
      simp only [ob_some]
      rw [ventries_frame fun id hi => h1.1 v hm id (ids0_sub hi)]
  case mapUpdate kt m k x =>
    cases hm : look m with
    | none => simp only [ob_none]
    | some v =>
      simp only [ob_some]
      have e : ∀ id ver, v = .mref id ver → h' id = h id := fun id ver e => h1.1 v hm id (by simp [e, ids1, ids0])
      cases look k with
      | none => simp only [ob_none]
      | some kv =>
        simp only [ob_some]
        cases look x with
        | none => simp only [ob_none]
        | some xv =>
          simp only [ob_some]
          cases mkey kt kv with
          | none => simp only [ob_none]
          | some kk =>
            simp only [ob_some]
            cases freezeP xv with
            | none => simp only [ob_none]
            | some xx =>
              simp only [ob_some]
              cases v <;> first | rfl | skip
              rename_i id ver
              simp only [e id ver rfl]
  case makeMap => rw [hd]
  case mapLen x =>
    cases hm : look x with
    | none => simp only [ob_none]
    | some v =>
      simp only [ob_some]
      rw [ventries_frame fun id hi => h1 v hm id (ids0_sub hi)]
  case call f args =>
    cases hm : mapO look args with
    | none => simp only [ob_none]
    | some vs =>
      simp only [ob_some]
      have h2' := h2 rfl
      simp only [VOp.args, mapO_filterMap hm, callArgs, List.mem_append, List.mem_flatMap] at h2'
      exact vcallOp_frame (fun v hv id hi => h2' id (.inl ⟨v, hv, hi⟩)) (fun id hi => h2' id (.inr hi)) hd
  case callv x args =>
    cases hx : look x with
    | none => simp only [ob_none]
    | some g =>
      simp only [ob_some]
      cases hm : mapO look args with
      | none => simp only [ob_none]
      | some vs =>
        simp only [ob_some]
        have h2' := h2 rfl
        simp only [VOp.args, List.filterMap_cons, hx, mapO_filterMap hm, List.mem_append, List.mem_flatMap] at h2'
        split
        · simp only [callArgs, List.mem_append] at h2'
          exact vcallOp_frame (fun v hv id hi => h2' id (.inl ⟨v, by simpa using hv, hi⟩)) (fun id hi => h2' id (.inr hi)) hd
        · simp only [callArgs] at h2'
          exact vcallOp_frame (fun v hv id hi => h2' id (.inl ⟨v, hv, hi⟩)) (fun id hi => h2' id (.inr hi)) hd
        · rfl

/-! ### what is changed -/

theorem zcell_keys {d j : Nat} {h : VHeap} {z : ZC} : ∀ x ∈ (zcell d h j z).2, ∃ k, x.1 = .slot d k := by
  cases z <;> simp [zcell]
theorem zcells_keys {d : Nat} : ∀ (zs : List ZC) (j : Nat) (h : VHeap), ∀ x ∈ (zcells d h j zs).2, ∃ k, x.1 = .slot d k
  | [], _, _, x, hx => by simp [zcells] at hx
  | z :: zs, j, h, x, hx => by
    simp only [zcells, List.mem_append] at hx
    rcases hx with hx | hx
    · exact zcell_keys x hx
    · exact zcells_keys zs _ _ x hx
theorem bcells_keys {look : VArg → Option VVal} {d : Nat} : ∀ (bs : List BC) (j : Nat) (h : VHeap) (q : List VVal × List (Id × Nat × Ob)), bcells look d h j bs = some q → ∀ x ∈ q.2, ∃ k, x.1 = .slot d k
  | [], _, _, q, he, x, hx => by simp [bcells] at he; subst he; simp at hx
  | .z z :: bs, j, h, q, he, x, hx => by
    simp only [bcells] at he
    obtain ⟨q', hq', he⟩ := ob_eq he
    simp only [Option.some.injEq] at he
    subst he
    simp only [List.mem_append] at hx
    rcases hx with hx | hx
    · exact zcell_keys x hx
    · exact bcells_keys bs _ _ q' hq' x hx
  | .a y i n :: bs, j, h, q, he, x, hx => by
    simp only [bcells] at he
    obtain ⟨v, _, he⟩ := ob_eq he
    obtain ⟨_, he⟩ := gd_eq he
    obtain ⟨c, _, he⟩ := ob_eq he
    obtain ⟨_, he⟩ := gd_eq he
    obtain ⟨q', hq', he⟩ := ob_eq he
    simp only [Option.some.injEq] at he
    subst he
    exact bcells_keys bs _ _ q' hq' x hx

section
variable {R : List Id} {h : VHeap} {d : Nat}
theorem in0_keys {j : Nat} {v : VVal} {q : VVal × List (Id × Nat × Ob)} (he : in0 R h d j v = some q) : ∀ x ∈ q.2, ∃ k, x.1 = .slot d k := by
  unfold in0 at he
  split at he
  · simp only [Option.some.injEq] at he
    subst he
    simp
  · obtain ⟨v', _, he1⟩ := ob_eq he
    simp only [Option.some.injEq] at he1
    subst he1
    simp
theorem inL_keys : ∀ {vs : List VVal} {j : Nat} {q : List VVal × List (Id × Nat × Ob)}, inL R h d j vs = some q → ∀ x ∈ q.2, ∃ k, x.1 = .slot d k
  | [], _, q, he, x, hx => by simp [inL] at he; subst he; simp at hx
  | v :: vs, j, q, he, x, hx => by
    simp only [inL] at he
    obtain ⟨q1, h1, he⟩ := ob_eq he
    obtain ⟨q2, h2, he⟩ := ob_eq he
    simp only [Option.some.injEq] at he
    subst he
    simp only [List.mem_append] at hx
    rcases hx with hx | hx
    · exact in0_keys h1 x hx
    · exact inL_keys h2 x hx
theorem in1_keys {j : Nat} {v : VVal} {q : VVal × List (Id × Nat × Ob)} (he : in1 R h d j v = some q) : ∀ x ∈ q.2, ∃ k, x.1 = .slot d k := by
  unfold in1 at he
  split at he
  · obtain ⟨q1, h1, he1⟩ := ob_eq he
    simp only [Option.some.injEq] at he1
    subst he1
    exact inL_keys h1
  · obtain ⟨q1, h1, he1⟩ := ob_eq he
    simp only [Option.some.injEq] at he1
    subst he1
    intro x hx
    simp only [List.mem_cons] at hx
    rcases hx with rfl | hx
    · exact ⟨_, rfl⟩
    · exact inL_keys h1 x hx
  · exact in0_keys he
theorem inT_keys : ∀ {vs : List VVal} {j : Nat} {q : List VVal × List (Id × Nat × Ob)}, inT R h d j vs = some q → ∀ x ∈ q.2, ∃ k, x.1 = .slot d k
  | [], _, q, he, x, hx => by simp [inT] at he; subst he; simp at hx
  | v :: vs, j, q, he, x, hx => by
    simp only [inT] at he
    obtain ⟨q1, h1, he⟩ := ob_eq he
    obtain ⟨q2, h2, he⟩ := ob_eq he
    simp only [Option.some.injEq] at he
    subst he
    simp only [List.mem_append] at hx
    rcases hx with hx | hx
    · exact in1_keys h1 x hx
    · exact inT_keys h2 x hx
theorem inRes_keys {v : VVal} {q : VVal × List (Id × Nat × Ob)} (he : inRes R h d v = some q) : ∀ x ∈ q.2, ∃ k, x.1 = .slot d k := by
  unfold inRes at he
  split at he
  · obtain ⟨q1, h1, he1⟩ := ob_eq he
    simp only [Option.some.injEq] at he1
    subst he1
    exact inT_keys h1
  · exact in1_keys he
end

theorem vcallOp_keys {Γ : Sig} {h : VHeap} {d : Nat} {f : FuncId} {args : List VVal} {q : VVal × List (Id × Nat × Ob)} (he : vcallOp Γ h d f args = some q) : ∀ x ∈ q.2, (∃ k, x.1 = .slot d k) ∨ x.1 ∈ roots h args := by
  unfold vcallOp vcallR at he
  obtain ⟨_, _, he⟩ := ob_eq he
  obtain ⟨_, _, he⟩ := ob_eq he
  obtain ⟨r, _, he⟩ := ob_eq he
  obtain ⟨_, he⟩ := gd_eq he
  obtain ⟨us, hus, he⟩ := ob_eq he
  obtain ⟨q1, hq, he⟩ := ob_eq he
  simp only [Option.some.injEq] at he
  subst he
  intro x hx
  simp only [List.mem_append] at hx
  rcases hx with hx | hx
  · right
    rw [← (backBoxes_get hus).1]
    exact List.mem_map_of_mem hx
  · exact .inl (inRes_keys hq x hx)

theorem evalOp_keys {Γ : Sig} {look : VArg → Option VVal} {h : VHeap} {d : Nat} {op : VOp} {q : VVal × List (Id × Nat × Ob)} (he : evalOp Γ look h d op = some q) : ∀ x ∈ q.2, (∃ k, x.1 = .slot d k) ∨
    (op.writes = true ∧ ((∃ y ∈ op.args, ∃ v, look y = some v ∧ x.1 ∈ ids1 v) ∨ x.1 ∈ roots h (callArgs op (op.args.filterMap look)))) := by
  by_cases hs : op.silent = true ∨ op.reader = true
  · intro x hx
    rw [evalOp_still hs he] at hx
    cases hx
  intro x hx
  cases op <;> first | (simp [VOp.silent, VOp.reader] at hs; done) | skip
  all_goals simp only [evalOp] at he
  case newArr => simp only [Option.some.injEq] at he; subst he; simp at hx; exact .inl ⟨_, by rw [hx]⟩
  case makeMap => simp only [Option.some.injEq] at he; subst he; simp at hx; exact .inl ⟨_, by rw [hx]⟩
  case alloc zs =>
    simp only [Option.some.injEq] at he
    subst he
    simp only [List.mem_append, List.mem_singleton] at hx
    rcases hx with hx | hx
    · exact .inl (zcells_keys zs _ _ x hx)
    · exact .inl ⟨_, by rw [hx]⟩
  case box =>
    obtain ⟨_, _, he⟩ := ob_eq he
    obtain ⟨_, he⟩ := gd_eq he
    obtain ⟨_, he⟩ := gd_eq he
    simp only [Option.some.injEq] at he; subst he; simp at hx; exact .inl ⟨_, by rw [hx]⟩
  case build bs =>
    obtain ⟨q', hq', he⟩ := ob_eq he
    simp only [Option.some.injEq] at he
    subst he
    exact .inl (bcells_keys bs _ _ q' hq' x hx)
  case buildSlice =>
    obtain ⟨_, _, he⟩ := ob_eq he
    obtain ⟨_, he⟩ := gd_eq he
    simp only [Option.some.injEq] at he; subst he; simp at hx; exact .inl ⟨_, by rw [hx]⟩
  case strBytes =>
    obtain ⟨_, _, he⟩ := ob_eq he
    split at he
    · simp only [Option.some.injEq] at he; subst he; simp at hx
    · cases he
  case store n a y =>
    obtain ⟨p, hp, he⟩ := ob_eq he
    obtain ⟨v, hv, he⟩ := ob_eq he
    obtain ⟨us, hus, he⟩ := ob_eq he
    simp only [Option.some.injEq] at he
    subst he
    obtain ⟨_, hus⟩ := gd_eq hus
    obtain ⟨_, hus⟩ := gd_eq hus
    refine .inr ⟨rfl, .inl ⟨a, by simp [VOp.args], p, hp, ?_⟩⟩
    unfold vstoreAt at hus
    split at hus
    · split at hus
      · obtain ⟨_, hus⟩ := gd_eq hus
        obtain ⟨_, hus⟩ := gd_eq hus
        simp only [Option.some.injEq] at hus
        subst hus
        simp at hx
        simp [hx, ids1, ids0]
      · cases hus
    · split at hus
      · obtain ⟨_, hus⟩ := gd_eq hus
        obtain ⟨_, _, hus⟩ := ob_eq hus
        obtain ⟨_, _, hus⟩ := ob_eq hus
        obtain ⟨_, hus⟩ := gd_eq hus
        simp only [Option.some.injEq] at hus
        subst hus
        simp at hx
        simp [hx, ids1, ids0]
      · cases hus
    · cases hus
  case append sz bytes s y =>
    obtain ⟨p, hp, he⟩ := ob_eq he
    obtain ⟨v, hv, he⟩ := ob_eq he
    refine .inr ⟨rfl, .inl ⟨s, by simp [VOp.args], p, hp, ?_⟩⟩
    unfold vappend at he
    split at he
    · split at he
      · obtain ⟨_, he⟩ := gd_eq he
        obtain ⟨_, he⟩ := gd_eq he
        obtain ⟨_, he⟩ := gd_eq he
        obtain ⟨_, _, he⟩ := ob_eq he
        obtain ⟨_, he⟩ := gd_eq he
        obtain ⟨_, he⟩ := gd_eq he
        obtain ⟨_, he⟩ := gd_eq he
        simp only [Option.some.injEq] at he
        subst he
        simp at hx
        simp [hx, ids1, ids0]
      · cases he
    · cases he
  case appendNil sz bytes y =>
    obtain ⟨v, hv, he⟩ := ob_eq he
    unfold vappendNil at he
    obtain ⟨_, _, he⟩ := ob_eq he
    obtain ⟨_, he⟩ := gd_eq he
    obtain ⟨_, he⟩ := gd_eq he
    obtain ⟨_, he⟩ := gd_eq he
    simp only [Option.some.injEq] at he
    subst he
    simp at hx
    exact .inl ⟨_, by rw [hx]⟩
  case slice str sz lo hi mx y =>
    obtain ⟨s, hs', he⟩ := ob_eq he
    unfold br at he
    split at he
    · unfold vsliceS at he
      obtain ⟨_, _, he⟩ := ob_eq he
      obtain ⟨_, _, he⟩ := ob_eq he
      obtain ⟨_, _, he⟩ := ob_eq he
      obtain ⟨_, he⟩ := gd_eq he
      obtain ⟨_, he⟩ := gd_eq he
      unfold vcutS at he
      split at he
      · simp only [Option.some.injEq] at he; subst he; simp at hx
      · cases he
    · unfold vslice at he
      obtain ⟨_, _, he⟩ := ob_eq he
      obtain ⟨_, _, he⟩ := ob_eq he
      obtain ⟨_, _, he⟩ := ob_eq he
      obtain ⟨_, he⟩ := gd_eq he
      obtain ⟨_, he⟩ := gd_eq he
      unfold vcut3 at he
      split at he
      · unfold vcut at he
        split at he
        · obtain ⟨_, he⟩ := gd_eq he
          simp only [Option.some.injEq] at he; subst he; simp at hx
        · split at he
          · obtain ⟨_, he⟩ := gd_eq he
            obtain ⟨_, he⟩ := gd_eq he
            simp only [Option.some.injEq] at he; subst he; simp at hx
          · cases he
        · cases he
      · obtain ⟨_, _, he⟩ := ob_eq he
        obtain ⟨_, _, he⟩ := ob_eq he
        obtain ⟨_, he⟩ := gd_eq he
        obtain ⟨_, he⟩ := gd_eq he
        simp only [vcut0, Option.some.injEq] at he
        subst he
        simp at hx
        exact .inl ⟨_, by rw [hx]⟩
  case mapUpdate kt m k y =>
    obtain ⟨mv, hm, he⟩ := ob_eq he
    obtain ⟨_, _, he⟩ := ob_eq he
    obtain ⟨_, _, he⟩ := ob_eq he
    obtain ⟨_, _, he⟩ := ob_eq he
    obtain ⟨_, _, he⟩ := ob_eq he
    refine .inr ⟨rfl, .inl ⟨m, by simp [VOp.args], mv, hm, ?_⟩⟩
    split at he
    · split at he
      · obtain ⟨_, he⟩ := gd_eq he
        obtain ⟨_, he⟩ := gd_eq he
        simp only [Option.some.injEq] at he
        subst he
        simp at hx
        simp [hx, ids1, ids0]
      · cases he
    · cases he
  case call f args =>
    obtain ⟨vs, hvs, he⟩ := ob_eq he
    rcases vcallOp_keys he x hx with h0 | h0
    · exact .inl h0
    · exact .inr ⟨rfl, .inr (by simpa only [VOp.args, mapO_filterMap hvs, callArgs] using h0)⟩
  case callv y args =>
    obtain ⟨g, hg, he⟩ := ob_eq he
    obtain ⟨vs, hvs, he⟩ := ob_eq he
    split at he
    · rcases vcallOp_keys he x hx with h0 | h0
      · exact .inl h0
      · exact .inr ⟨rfl, .inr (by simpa only [VOp.args, List.filterMap_cons, hg, mapO_filterMap hvs, callArgs] using h0)⟩
    · rcases vcallOp_keys he x hx with h0 | h0
      · exact .inl h0
      · exact .inr ⟨rfl, .inr (by simpa only [VOp.args, List.filterMap_cons, hg, mapO_filterMap hvs, callArgs] using h0)⟩
    · cases he

end Go.V
