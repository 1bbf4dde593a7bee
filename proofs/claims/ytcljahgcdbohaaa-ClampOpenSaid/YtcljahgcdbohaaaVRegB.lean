/- The value machine V: what an operation looks at and what it changes. -/
import Derived.Test.YtcljahgcdbohaaaVRegA
set_option linter.unusedSimpArgs false
set_option linter.unusedVariables false
namespace Go.V

/-- Two heaps that agree at some places. -/
def Agree (p : Id → Prop) (h h' : VHeap) : Prop := ∀ id, p id → h' id = h id

theorem Agree.upds {p : Id → Prop} : ∀ (us : List (Id × Nat × Ob)) {h h' : VHeap}, Agree p h h' → Agree p (h.upds us) (h'.upds us)
  | [], _, _, ha => ha
  | (id, o) :: us, _, _, ha => Agree.upds us fun i hi => by
    simp only [VHeap.upd]
    split
    · rfl
    · exact ha i hi

theorem upds_in : ∀ (us : List (Id × Nat × Ob)) (h h' : VHeap) (id : Id), id ∈ us.map (·.1) → h.upds us id = h'.upds us id
  | [], _, _, _, hm => by simp at hm
  | (i, o) :: us, h, h', id, hm => by
    simp only [VHeap.upds]
    by_cases hin : id ∈ us.map (·.1)
    · exact upds_in us _ _ id hin
    · rw [upds_not us _ id hin, upds_not us _ id hin]
      simp at hm
      rcases hm with rfl | hm
      · simp [VHeap.upd]
      · exact absurd (by simpa using hm) hin
theorem upds_comm (us us' : List (Id × Nat × Ob)) (h : VHeap) (hd : ∀ id, id ∈ us.map (·.1) → id ∈ us'.map (·.1) → False) : (h.upds us).upds us' = (h.upds us').upds us := by
  funext id
  by_cases h1 : id ∈ us'.map (·.1)
  · have h2 : id ∉ us.map (·.1) := fun h2 => hd id h2 h1
    rw [upds_in us' (h.upds us) h id h1, upds_not us _ id h2]
  · rw [upds_not us' _ id h1]
    by_cases h2 : id ∈ us.map (·.1)
    · rw [upds_in us (h.upds us') h id h2]
    · rw [upds_not us _ id h2, upds_not us _ id h2, upds_not us' _ id h1]

theorem mapO_congr {α β : Type} {f g : α → Option β} : ∀ {l : List α}, (∀ x ∈ l, f x = g x) → mapO f l = mapO g l
  | [], _ => rfl
  | x :: xs, h => by
    simp only [mapO]
    rw [h x (List.mem_cons_self ..), mapO_congr fun y hy => h y (List.mem_cons_of_mem _ hy)]

section
variable {p : Id → Prop} {h h' : VHeap}

theorem ids0_sub {v : VVal} {id : Id} (hm : id ∈ ids0 v) : id ∈ ids1 v := by
  cases v <;> simp_all [ids0, ids1]

theorem vrow_frame {v : VVal} (ha : ∀ id ∈ ids0 v, h' id = h id) : vrow h' v = vrow h v := by
  cases v with
  | ptr => simp only [vrow, ids0] at ha ⊢; rw [ha _ (List.mem_singleton_self _)]
  | eptr => simp only [vrow, ids0] at ha ⊢; rw [ha _ (List.mem_singleton_self _)]
  | _ => rfl
theorem velems_frame {v : VVal} (ha : ∀ id ∈ ids0 v, h' id = h id) : velems h' v = velems h v := by
  cases v with
  | p d => cases d <;> rfl
  | own => simp only [velems, ids0] at ha ⊢; rw [ha _ (List.mem_singleton_self _)]
  | _ => rfl
theorem ventries_frame {v : VVal} (ha : ∀ id ∈ ids0 v, h' id = h id) : ventries h' v = ventries h v := by
  cases v with
  | p d => cases d <;> rfl
  | mref => simp only [ventries, ids0] at ha ⊢; rw [ha _ (List.mem_singleton_self _)]
  | _ => rfl
theorem vstoreAt_frame {n : Nat} {vs : List VVal} {v : VVal} (ha : ∀ id ∈ ids0 v, h' id = h id) : vstoreAt h' n vs v = vstoreAt h n vs v := by
  cases v with
  | ptr => simp only [vstoreAt, ids0] at ha ⊢; rw [ha _ (List.mem_singleton_self _)]
  | eptr => simp only [vstoreAt, ids0] at ha ⊢; rw [ha _ (List.mem_singleton_self _)]
  | _ => rfl
theorem vindexAt_frame {sz i : Nat} {v : VVal} (ha : ∀ id ∈ ids0 v, h' id = h id) : vindexAt h' sz i v = vindexAt h sz i v := by
  cases v with
  | p d => cases d <;> rfl
  | own => simp only [vindexAt, ids0] at ha ⊢; rw [ha _ (List.mem_singleton_self _)]
  | _ => rfl
theorem vcut_frame {sz l m : Nat} {v : VVal} (ha : ∀ id ∈ ids0 v, h' id = h id) : vcut h' sz l m v = vcut h sz l m v := by
  cases v with
  | p d => cases d <;> rfl
  | own => simp only [vcut, ids0] at ha ⊢; rw [ha _ (List.mem_singleton_self _)]
  | _ => rfl

theorem zcell_frame {d j : Nat} {z : ZC} (ha : ∀ k, h' (.slot d k) = h (.slot d k)) : zcell d h' j z = zcell d h j z := by
  cases z <;> simp only [zcell, ha]
theorem agree_slot {d : Nat} (us : List (Id × Nat × Ob)) (ha : ∀ k, h' (.slot d k) = h (.slot d k)) : ∀ k, (h'.upds us) (.slot d k) = (h.upds us) (.slot d k) := fun k =>
  Agree.upds (p := fun id => ∃ k, id = .slot d k) us (fun _ ⟨k, e⟩ => e ▸ ha k) _ ⟨k, rfl⟩
end

theorem zcells_frame {d : Nat} : ∀ (zs : List ZC) (j : Nat) (h h' : VHeap), (∀ k, h' (.slot d k) = h (.slot d k)) → zcells d h' j zs = zcells d h j zs
  | [], _, _, _, _ => rfl
  | z :: zs, j, h, h', ha => by
    simp only [zcells]
    rw [zcell_frame ha, zcells_frame zs (j + 1) _ _ (agree_slot _ ha)]
theorem bcells_frame {look : VArg → Option VVal} {d : Nat} : ∀ (bs : List BC) (j : Nat) (h h' : VHeap), (∀ k, h' (.slot d k) = h (.slot d k)) → bcells look d h' j bs = bcells look d h j bs
  | [], _, _, _, _ => rfl
  | .z z :: bs, j, h, h', ha => by
    simp only [bcells]
    rw [zcell_frame ha, bcells_frame bs (j + 1) _ _ (agree_slot _ ha)]
  | .a x i n :: bs, j, h, h', ha => by
    simp only [bcells]
    rw [bcells_frame bs (j + 1) _ _ ha]

/-! ### calls -/

theorem addNew_sub : ∀ (l R : List Id) {i : Id}, i ∈ R → i ∈ addNew R l
  | [], _, _, h => h
  | x :: xs, R, i, h => by
    simp only [addNew]
    refine addNew_sub xs _ ?_
    split
    · exact h
    · exact List.mem_append.2 (.inl h)
theorem objPtrs_frame {h h' : VHeap} {l : List Id} (ha : ∀ id ∈ l, h' id = h id) : l.flatMap (objPtrs h') = l.flatMap (objPtrs h) := by
  induction l with
  | nil => rfl
  | cons x xs ih =>
    simp only [List.flatMap_cons]
    rw [ih fun id hm => ha id (List.mem_cons_of_mem _ hm)]
    simp only [objPtrs, ha x (List.mem_cons_self ..)]
theorem roots_frame {h h' : VHeap} {args : List VVal} (ha : ∀ id ∈ roots h args, h' id = h id) : roots h' args = roots h args := by
  simp only [roots] at ha ⊢
  split
  · rfl
  · rename_i hne
    rw [if_neg hne] at ha
    have h0 := objPtrs_frame (h := h) (h' := h') (l := addNew [] (args.flatMap ptrs1)) fun id hm => ha id (addNew_sub _ _ (addNew_sub _ _ hm))
    rw [h0]
    have h1 := objPtrs_frame (h := h) (h' := h') (l := addNew (addNew [] (args.flatMap ptrs1)) ((addNew [] (args.flatMap ptrs1)).flatMap (objPtrs h))) fun id hm => ha id (addNew_sub _ _ hm)
    rw [h1]

theorem alive_frame {h h' : VHeap} {id : Id} {ver : Nat} (ha : h' id = h id) : alive h' id ver = alive h id ver := by simp only [alive, ha]

theorem ext0_frame {R : List Id} {h h' : VHeap} {v : VVal} (ha : ∀ id ∈ ids0 v, h' id = h id) : ext0 R h' v = ext0 R h v := by
  cases v <;> simp only [ext0]
  case own => rw [velems_frame ha]
  case mref => rw [ventries_frame ha]
  case ptr => simp only [ids0] at ha; rw [alive_frame (ha _ (List.mem_singleton_self _))]
  case eptr => simp only [ids0] at ha; rw [ha _ (List.mem_singleton_self _)]
theorem ext1_frame {R : List Id} {h h' : VHeap} {v : VVal} (ha : ∀ id ∈ ids1 v, h' id = h id) : ext1 R h' v = ext1 R h v := by
  cases v <;> simp only [ext1] <;> try (exact ext0_frame fun id hm => ha id (ids0_sub hm))
  all_goals
    rw [mapO_congr fun x hx => ext0_frame fun id hm => ha id (by simp only [ids1, List.mem_flatMap]; exact ⟨x, hx, hm⟩)]

theorem posOf_not {R : List Id} {id : Id} (h : id ∉ R) : posOf R id = none := by
  cases hp : posOf R id with
  | none => simp only [ob_none]
  | some i => exact absurd (List.mem_of_getElem? (posOf_get hp)) h
theorem gd_none {α : Type} (c : Prop) [Decidable c] (u : Tok (none : Option α)) : gd c (none : Option α) u = none := by
  unfold gd
  split <;> rfl

/-- Inside a box that is handed on, what is looked at is handed on. -/
theorem ext0_box {R : List Id} {h h' : VHeap} {v : VVal} (ha : ∀ id ∈ R, h' id = h id) (hl : lends0 v = false) : ext0 R h' v = ext0 R h v := by
  cases v <;> simp only [ext0] <;> try (simp [lends0] at hl; done)
  rename_i id ver off
  by_cases hm : id ∈ R
  · rw [alive_frame (ha id hm)]
  · rw [posOf_not hm]
    simp only [ob_none, gd_none]
theorem ext1_box {R : List Id} {h h' : VHeap} {v : VVal} (ha : ∀ id ∈ R, h' id = h id) (hl : lends v = false) : ext1 R h' v = ext1 R h v := by
  cases v <;> simp only [ext1, lends] at hl ⊢ <;> try (exact ext0_box ha hl)
  all_goals
    rw [mapO_congr fun x hx => ext0_box ha (by
      rw [List.any_eq_false] at hl
      simpa using hl x hx)]
theorem extBox_frame {R : List Id} {h h' : VHeap} {id : Id} (hid : id ∈ R) (ha : ∀ id ∈ R, h' id = h id) : extBox R h' id = extBox R h id := by
  simp only [extBox, ha id hid]
  split
  · rename_i cs _
    by_cases hl : cs.any lends = false
    · simp only [gd, if_pos hl]
      rw [mapO_congr fun x hx => ext1_box ha (by
        rw [List.any_eq_false] at hl
        simpa using hl x hx)]
    · simp only [gd, if_neg hl]
  · rfl

section
variable {R : List Id} {h h' : VHeap} (ha : ∀ id ∈ R, h' id = h id)
include ha
theorem back0_frame (v : VVal) : back0 R h' v = back0 R h v := by
  unfold back0
  split
  · rfl
  · rename_i i off
    cases hi : R[i]? with
    | none => simp only [ob_none]
    | some id =>
      simp only [ob_some]
      rw [ha id (List.mem_of_getElem? hi)]
  · rfl
theorem back1_frame (v : VVal) : back1 R h' v = back1 R h v := by
  cases v <;> simp only [back1] <;> try (exact back0_frame ha _)
  rw [mapO_congr fun x _ => back0_frame ha x]
theorem backBoxes_frame : ∀ (ids : List Id) (os : List Ob), (∀ id ∈ ids, id ∈ R) → backBoxes R h' ids os = backBoxes R h ids os
  | [], [], _ => rfl
  | [], _ :: _, _ => rfl
  | _ :: _, [], _ => rfl
  | id :: ids, o :: os, hs => by
    cases o <;> simp only [backBoxes]
    rw [mapO_congr fun x _ => back1_frame ha x, ha id (hs id (List.mem_cons_self ..)), backBoxes_frame ids os fun i hi => hs i (List.mem_cons_of_mem _ hi)]
variable {d : Nat} (hd : ∀ k, h' (.slot d k) = h (.slot d k))
include hd
theorem in0_frame (j : Nat) (v : VVal) : in0 R h' d j v = in0 R h d j v := by
  unfold in0
  split
  · rw [hd]
  · rw [back0_frame ha]
theorem inL_frame : ∀ (j : Nat) (vs : List VVal), inL R h' d j vs = inL R h d j vs
  | _, [] => rfl
  | j, v :: vs => by
    simp only [inL]
    rw [in0_frame ha hd, inL_frame (j + 1) vs]
theorem in1_frame (j : Nat) (v : VVal) : in1 R h' d j v = in1 R h d j v := by
  unfold in1
  split
  · rw [inL_frame ha hd]
  · rw [inL_frame ha hd, hd]
  · rw [in0_frame ha hd]
theorem inT_frame : ∀ (j : Nat) (vs : List VVal), inT R h' d j vs = inT R h d j vs
  | _, [] => rfl
  | j, v :: vs => by
    simp only [inT]
    rw [in1_frame ha hd, inT_frame (j + width v) vs]
theorem inRes_frame (v : VVal) : inRes R h' d v = inRes R h d v := by
  unfold inRes
  split
  · rw [inT_frame ha hd]
  · rw [in1_frame ha hd]
end

theorem vcallR_frame {Γ : Sig} {h h' : VHeap} {d : Nat} {f : FuncId} {args : List VVal} {R : List Id} (h1 : ∀ v ∈ args, ∀ id ∈ ids1 v, h' id = h id) (h2 : ∀ id ∈ R, h' id = h id) (hd : ∀ k, h' (.slot d k) = h (.slot d k)) :
    vcallR Γ h' d f args R = vcallR Γ h d f args R := by
  unfold vcallR
  have e1 : mapO (ext1 R h') args = mapO (ext1 R h) args := mapO_congr fun x hx => ext1_frame (h1 x hx)
  have e2 : mapO (extBox R h') R = mapO (extBox R h) R := mapO_congr fun x hx => extBox_frame hx h2
  have e3 : ∀ os, backBoxes R h' R os = backBoxes R h R os := fun os => backBoxes_frame h2 R os fun _ h => h
  have e4 : ∀ v, inRes R h' d v = inRes R h d v := fun v => inRes_frame h2 hd v
  rw [e1, e2]
  cases mapO (ext1 R h) args with
  | none => simp only [ob_none]
  | some args' =>
    cases mapO (extBox R h) R with
    | none => simp only [ob_none]
    | some H =>
      cases hr : Γ f args' H with
      | none => simp only [ob_some, hr, ob_none]
      | some r =>
        simp only [ob_some, hr]
        rw [e3, e4]
theorem vcallOp_frame {Γ : Sig} {h h' : VHeap} {d : Nat} {f : FuncId} {args : List VVal} (h1 : ∀ v ∈ args, ∀ id ∈ ids1 v, h' id = h id) (h2 : ∀ id ∈ roots h args, h' id = h id) (hd : ∀ k, h' (.slot d k) = h (.slot d k)) :
    vcallOp Γ h' d f args = vcallOp Γ h d f args := by
  unfold vcallOp
  rw [roots_frame h2]
  exact vcallR_frame h1 h2 hd

end Go.V
