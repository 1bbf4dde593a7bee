/- The value machine V against the model: struct and slice literals. -/
import Derived.Test.YtcljahgcdbohaaaVOpsD
import Derived.Laws.Tables
set_option linter.unusedSimpArgs false
set_option linter.unusedVariables false
namespace Go.V
open Go.RowKit

/-- One cell of a value. -/
theorem vrel_cell {G : Gh} {h : VHeap} {w : World} {v : VVal} {c : Value} (hv : VRel G h w v c) {j : Nat} {u : VVal} (hu : (vcells v)[j]? = some u) (hs : solid u = true) :
    (vcells v).length = c.cells.size ∧ ∃ x, c.cells[j]? = some x ∧ VRel G h w u x ∧ x.oneCell' = true := by
  by_cases ha : ∃ cs, v = .agg cs
  · obtain ⟨cs, rfl⟩ := ha
    cases hv with
    | @agg _ arr hl h1 hr =>
      simp only [vcells, Value.cells] at hu ⊢
      have hlt : j < arr.size := by rw [← hl]; exact (List.getElem?_eq_some_iff.1 hu).1
      exact ⟨hl, arr[j], Array.getElem?_eq_getElem hlt, hr j u _ hu (Array.getElem?_eq_getElem hlt), h1 j _ (Array.getElem?_eq_getElem hlt)⟩
  · have hvc : vcells v = [v] := by cases v <;> simp_all [vcells]
    rw [hvc] at hu ⊢
    cases j with
    | succ j => simp at hu
    | zero =>
      simp at hu
      subst hu
      have h1 := vrel_one hv hs
      have hcc : c.cells = #[c] := by cases c <;> simp_all [Value.cells, Value.oneCell']
      rw [hcc]
      exact ⟨rfl, c, by simp, hv, h1⟩

/-! ### the model's 'fill' -/

theorem fill_cells (off : Nat) : ∀ (vs : List Value) (k0 : Nat) (cells : Array Value),
    ((vs.zipIdx k0).foldl (fun cs (p : Value × Nat) => cs.setIfInBounds (off + p.2) p.1) cells).size = cells.size ∧
    ∀ k, off + k0 + vs.length ≤ cells.size → ((vs.zipIdx k0).foldl (fun cs (p : Value × Nat) => cs.setIfInBounds (off + p.2) p.1) cells)[k]? = if off + k0 ≤ k ∧ k < off + k0 + vs.length then vs[k - (off + k0)]? else cells[k]?
  | [], k0, cells => ⟨rfl, fun k _ => by simp; omega⟩
  | v :: vs, k0, cells => by
    simp only [List.zipIdx_cons, List.foldl_cons]
    obtain ⟨h1, h2⟩ := fill_cells off vs (k0 + 1) (cells.setIfInBounds (off + k0) v)
    refine ⟨by rw [h1]; simp, fun k hk => ?_⟩
    simp only [List.length_cons] at hk
    rw [h2 k (by simp; omega)]
    by_cases hk0 : k = off + k0
    · subst hk0
      rw [if_neg (by omega), if_pos (by simp)]
      simp [show off + k0 < cells.size by omega]
    · by_cases hr : off + k0 ≤ k ∧ k < off + k0 + (vs.length + 1)
      · rw [if_pos (by omega), if_pos (by simpa using hr)]
        have : k - (off + k0) = (k - (off + (k0 + 1))) + 1 := by omega
        rw [this]
        simp
      · rw [if_neg (by omega), if_neg (by simpa using hr)]
        rw [Array.getElem?_setIfInBounds_ne (by omega)]

theorem fill_step (off : Nat) (v : Value) (cells : Array Value) (h : off + v.cells.size ≤ cells.size) :
    (v.cells.zipIdx.foldl (fun cs (c, j) => cs.setIfInBounds (off + j) c) cells).size = cells.size ∧
    ∀ k, (v.cells.zipIdx.foldl (fun cs (c, j) => cs.setIfInBounds (off + j) c) cells)[k]? = if off ≤ k ∧ k < off + v.cells.size then v.cells[k - off]? else cells[k]? := by
  have key := fill_cells off v.cells.toList 0 cells
  have he : v.cells.zipIdx.foldl (fun cs (c, j) => cs.setIfInBounds (off + j) c) cells = (v.cells.toList.zipIdx 0).foldl (fun cs (p : Value × Nat) => cs.setIfInBounds (off + p.2) p.1) cells := by
    rw [← Array.foldl_toList, Array.toList_zipIdx]
  rw [he]
  refine ⟨key.1, fun k => ?_⟩
  have := key.2 k (by simpa using h)
  simpa using this

/-- What a cell of a literal comes to. -/
def srcV (a : Act) : Value ⊕ (Operand × Nat) → Option Value
  | .inl v => some v
  | .inr (x, j) => (a.eval x).cells[j]?

theorem places_get {P : Program} : ∀ {fs : List Field} {places : List (Nat × Nat)}, fs.mapM (fun f => (P.info? f.type).map fun i => (f.offset, i.size)) = some places →
    ∀ i : Nat, places[i]? = (fs[i]?).bind fun (f : Field) => (P.info? f.type).map fun inf => (f.offset, inf.size)
  | [], places, h, i => by simp at h; subst h; simp
  | f :: fs, places, h, i => by
    simp only [List.mapM_cons, Option.bind_eq_bind, Option.pure_def] at h
    cases hi : P.info? f.type with
    | none => simp [hi] at h
    | some inf =>
      cases hr : fs.mapM (fun f => (P.info? f.type).map fun i => (f.offset, i.size)) with
      | none => simp [hi, hr] at h
      | some rest =>
        simp [hi, hr] at h
        subst h
        cases i with
        | zero => simp [hi]
        | succ i => simpa using places_get hr i

theorem fill_sound {P : Program} {vs : List Nat} {fs : Array Field} {a : Act} {places : List (Nat × Nat)} (hpl : fs.toList.mapM (fun f => (P.info? f.type).map fun i => (f.offset, i.size)) = some places) :
    ∀ (ps : List (Nat × Operand)) (cs cs' : List (Value ⊕ (Operand × Nat))) (cells : Array Value), overlay P vs fs cs ps = some cs' → cells.size = cs.length →
      (∀ (k : Nat) (s : Value ⊕ (Operand × Nat)), cs[k]? = some s → ∃ v, cells[k]? = some v ∧ srcV a s = some v) → (∀ (i : Nat) (x : Operand), (i, x) ∈ ps → ∀ (f : Field) (inf : TypeInfo), fs[i]? = some f → P.info? f.type = some inf → (a.eval x).cells.size = inf.size) →
      ∃ cells', Instr.fill (places.toArray[·]?) cells (ps.map fun (i, x) => (i, a.eval x)) = some cells' ∧ cells'.size = cs'.length ∧ ∀ (k : Nat) (s : Value ⊕ (Operand × Nat)), cs'[k]? = some s → ∃ v, cells'[k]? = some v ∧ srcV a s = some v
  | [], cs, cs', cells, ho, hsz, hc, _ => by
    simp [overlay] at ho
    subst ho
    exact ⟨cells, by simp [Instr.fill], hsz, hc⟩
  | (i, x) :: ps, cs, cs', cells, ho, hsz, hc, hs => by
    simp only [overlay] at ho
    cases hf : fs[i]? with
    | none => simp [hf] at ho
    | some f =>
      cases hinf : P.info? f.type with
      | none => simp [hf, hinf] at ho
      | some inf =>
        simp only [hf, hinf] at ho
        split at ho
        · rename_i hle
          have hx := hs i x (by simp) f inf hf hinf
          obtain ⟨q1, q2⟩ := fill_step f.offset (a.eval x) cells (by omega)
          obtain ⟨cells', r1, r2, r3⟩ := fill_sound hpl ps _ cs' _ ho (by rw [q1]; simp; omega) (fun k s hk => by
            rw [q2 k]
            have hto : (cs.take f.offset).length = f.offset := by simp; omega
            by_cases hk1 : k < f.offset
            · rw [List.append_assoc, List.getElem?_append_left (by omega), List.getElem?_take_of_lt hk1] at hk
              rw [if_neg (by omega)]
              exact hc k s hk
            · by_cases hk2 : k < f.offset + inf.size
              · rw [List.append_assoc, List.getElem?_append_right (by omega), List.getElem?_append_left (by simp; omega), hto] at hk
                rw [if_pos (by omega)]
                simp only [List.getElem?_map, List.getElem?_range (show k - f.offset < inf.size by omega), Option.map_some, Option.some.injEq] at hk
                subst hk
                have hlt : k - f.offset < (a.eval x).cells.size := by omega
                exact ⟨(a.eval x).cells[k - f.offset], Array.getElem?_eq_getElem hlt, by simp [srcV, Array.getElem?_eq_getElem hlt]⟩
              · rw [List.getElem?_append_right (by simp; omega)] at hk
                simp only [List.length_append, hto, List.length_map, List.length_range, List.getElem?_drop] at hk
                have he : f.offset + inf.size + (k - (f.offset + inf.size)) = k := by omega
                rw [he] at hk
                rw [if_neg (by omega)]
                exact hc k s hk) (fun i' x' hm => hs i' x' (by simp [hm]))
          refine ⟨cells', ?_, r2, r3⟩
          have hplace : places[i]? = some (f.offset, inf.size) := by
            rw [places_get hpl i]
            simp [hf, hinf]
          simp only [List.map_cons, Instr.fill, List.getElem?_toArray, hplace]
          rw [if_neg (by simp; omega)]
          simpa using r1
        · cases ho

theorem bcells_sound {vs : List Nat} {n : Nat} {G : Gh} {r : RS} {a : Act} {w : World} (hr : RRel vs n G r a w) (d : Nat) : ∀ (bs : List BC) (cs : List (Value ⊕ (Operand × Nat))) (G1 : Gh) (h1 : VHeap) (j : Nat) (us : List VVal) (ups : List (Id × Nat × Ob)),
    Step G r.h w G1 h1 w → HeapInv G1 h1 w → okBC vs cs bs = true → bcells r.look d h1 j bs = some (us, ups) →
    ∃ G', Step G1 h1 w G' (h1.upds ups) w ∧ HeapInv G' (h1.upds ups) w ∧ us.length = cs.length ∧
      (∀ (k : Nat) (s : Value ⊕ (Operand × Nat)) (u : VVal), cs[k]? = some s → us[k]? = some u → ∃ v, srcV a s = some v ∧ VRel G' (h1.upds ups) w u v ∧ v.oneCell' = true) ∧
      ∀ (y : VArg) (i m : Nat), BC.a y i m ∈ bs → ∀ x, okArg vs x y = true → (a.eval x).cells.size = m
  | [], [], G1, h1, j, us, ups, _, hi, _, hb => by
    simp [bcells] at hb
    obtain ⟨rfl, rfl⟩ := hb
    exact ⟨G1, Step.refl _ _ _, hi, rfl, fun k s u hs => by simp at hs, fun y i m h => by simp at h⟩
  | b :: bs, c :: cs, G1, h1, j, us, ups, s0, hi, hok, hb => by
    simp only [okBC, Bool.and_eq_true] at hok
    cases b with
    | z z =>
      simp only [bcells] at hb
      obtain ⟨⟨us', ups'⟩, hb', hb2⟩ := ob_eq hb
      simp at hb2
      obtain ⟨rfl, rfl⟩ := hb2
      have hzv : ∃ v, srcV a c = some v ∧ okZ1 v z = true := by
        have h1 := hok.1
        unfold okB1 at h1
        split at h1
        · rename_i v z' h2; cases h2; exact ⟨v, rfl, h1⟩
        · rename_i v z' h2
          cases h2
          refine ⟨v, ?_, h1⟩
          have ho : v.oneCell' = true := by
            unfold okZ1 at h1
            split at h1
            · rfl
            · exact (okConst_rel (fz := fun _ => True) (w := w) h1).2.1
            · cases h1
          have : v.cells = #[v] := by cases v <;> simp_all [Value.cells, Value.oneCell']
          simp [srcV, Act.eval, this]
        · rename_i h2; cases h2
        · cases h1
      obtain ⟨v, hsv, hz⟩ := hzv
      obtain ⟨G2, s1, i1, r1, o1⟩ := zcell_sound hi d j hz
      obtain ⟨G3, s2, i2, l2, r2, q2⟩ := bcells_sound hr d bs cs G2 _ (j + 1) us' ups' (s0.trans s1) i1 hok.2 hb'
      rw [upds_append]
      refine ⟨G3, s1.trans s2, i2, by simp [l2], fun k s u hs hu => ?_, fun y i m hm => ?_⟩
      · cases k with
        | zero => simp at hs hu; subst hs; subst hu; exact ⟨v, hsv, r1.mono s2, o1⟩
        | succ k => simp at hs hu; exact r2 k s u hs hu
      · simp at hm
        exact q2 y i m hm
    | a y i m =>
      simp only [bcells] at hb
      obtain ⟨v, hv, hb2⟩ := ob_eq hb
      obtain ⟨hlen, hb3⟩ := gd_eq hb2
      obtain ⟨u, hu, hb4⟩ := ob_eq hb3
      obtain ⟨hsol, hb5⟩ := gd_eq hb4
      obtain ⟨⟨us', ups'⟩, hb', hb6⟩ := ob_eq hb5
      simp at hb6
      obtain ⟨rfl, rfl⟩ := hb6
      obtain ⟨G3, s2, i2, l2, r2, q2⟩ := bcells_sound hr d bs cs G1 h1 (j + 1) us' ups' s0 hi hok.2 hb'
      have hcx : ∃ x, c = .inr (x, i) ∧ okArg vs x y = true := by
        have h1 := hok.1
        unfold okB1 at h1
        split at h1
        · rename_i h2; cases h2
        · rename_i h2; cases h2
        · rename_i x j' a' i' n' h2
          cases h2
          simp at h1
          obtain ⟨h3, rfl⟩ := h1
          exact ⟨x, rfl, h3⟩
        · cases h1
      obtain ⟨x, rfl, hx⟩ := hcx
      have hall : ∀ x, okArg vs x y = true → (a.eval x).cells.size = m ∧ ∃ cv, (a.eval x).cells[i]? = some cv ∧ VRel G r.h w u cv ∧ cv.oneCell' = true := by
        intro x hx
        obtain ⟨e1, cv, e2, e3, e4⟩ := vrel_cell (look_rel hr hx hv) hu hsol
        exact ⟨by omega, cv, e2, e3, e4⟩
      refine ⟨G3, s2, i2, by simp [l2], fun k s u' hs hu' => ?_, fun y' i' m' hm x' hx' => ?_⟩
      · cases k with
        | zero =>
          simp at hs hu'
          subst hs
          subst hu'
          obtain ⟨_, cv, e2, e3, e4⟩ := hall x hx
          exact ⟨cv, by simpa [srcV] using e2, (e3.mono s0).mono s2, e4⟩
        | succ k => simp at hs hu'; exact r2 k s u' hs hu'
      · simp at hm
        rcases hm with ⟨rfl, rfl, rfl⟩ | hm
        · exact (hall x' hx').1
        · exact q2 y' i' m' hm x' hx'
  | [], _ :: _, _, _, _, _, _, _, _, h, _ => by simp [okBC] at h
  | _ :: _, [], _, _, _, _, _, _, _, h, _ => by simp [okBC] at h

theorem op_build {P : Program} {vs : List Nat} {n : Nat} {G : Gh} {r : RS} {a : Act} {w : World} (hr : RRel vs n G r a w) (hi : HeapInv G r.h w) {o : Oper} (d : Nat) {t : TypeId} {ps : Array (Nat × Operand)} (ho : o.op = .build t ps) {fs : Array Field} {i : TypeInfo} {z : Value} {bs : List BC}
    {cs : List (Value ⊕ (Operand × Nat))} (hu : P.underlying t = some (.struct fs)) (hinf : P.info? t = some i) (hz : i.zero = some z) (hsz : okPartSizes P vs fs bs ps.toList = true)
    (hpl : (fs.toList.mapM (fun f => (P.info? f.type).map fun i => (f.offset, i.size))).isSome = true) (hov : overlay P vs fs (z.cells.toList.map Sum.inl) ps.toList = some cs) (hok : okBC vs cs bs = true)
    {us : List VVal} {ups : List (Id × Nat × Ob)} (hb : bcells r.look d r.h 0 bs = some (us, ups)) : OpWp P G r.h w a o (.agg us) ups := by
  obtain ⟨places, hpl⟩ := Option.isSome_iff_exists.1 hpl
  obtain ⟨G', s1, i1, l1, r1, q1⟩ := bcells_sound hr d bs cs G r.h 0 us ups (Step.refl _ _ _) hi hok hb
  have hparts : ∀ (l : List (Nat × Operand)), okPartSizes P vs fs bs l = true → ∀ (i : Nat) (x : Operand), (i, x) ∈ l → ∀ (f : Field) (inf : TypeInfo), fs[i]? = some f → P.info? f.type = some inf → (a.eval x).cells.size = inf.size := by
    intro l
    induction l with
    | nil => intro _ i x hm; simp at hm
    | cons p l ih =>
      obtain ⟨i0, x0⟩ := p
      intro hl i x hm f inf hf hin
      simp only [okPartSizes, Bool.and_eq_true] at hl
      simp at hm
      rcases hm with ⟨rfl, rfl⟩ | hm
      · have h1 := hl.1
        rw [hf] at h1
        simp only at h1
        split at h1
        · rename_i v
          simp only [Bool.and_eq_true, szIs, hin, beq_iff_eq] at h1
          rw [h1.1]
          cases v <;> simp_all [Act.eval, Value.cells]
        · simp only [List.any_eq_true] at h1
          obtain ⟨b, hb1, hb2⟩ := h1
          split at hb2
          · rename_i y j m
            simp only [Bool.and_eq_true, szIs, hin, beq_iff_eq] at hb2
            rw [hb2.2]
            exact q1 y j m hb1 _ hb2.1
          · cases hb2
      · exact ih hl.2 i x hm f inf hf hin
  obtain ⟨cells', f1, f2, f3⟩ := fill_sound (a := a) hpl ps.toList (z.cells.toList.map Sum.inl) cs z.cells hov (by simp) (fun k s hk => by
    simp only [List.getElem?_map, Option.map_eq_some_iff] at hk
    obtain ⟨v, hv, rfl⟩ := hk
    exact ⟨v, by simpa using hv, rfl⟩) (hparts _ hsz)
  have hbuilt : P.built t (ps.map fun (i, x) => (i, a.eval x)).toList = some cells' := by
    simp only [Program.built, hinf, hu, hz, hpl, Array.toList_map]
    exact f1
  refine opWp_value (G' := G') (c := .agg cells') (w' := w) ?_ s1 i1 (.agg (by omega) (fun k c hc => ?_) (fun k u c hu' hc => ?_))
  · simp only [execOp, ho, Sem.run_bind, run_build w t _ cells' hbuilt, Result.andThen_ok, Sem.run_pure]
  · have hlt : k < cs.length := by rw [← f2]; exact (Array.getElem?_eq_some_iff.1 hc).1
    obtain ⟨v, e1, e2⟩ := f3 k cs[k] (List.getElem?_eq_getElem hlt)
    obtain ⟨v', e3, _, e5⟩ := r1 k cs[k] (us[k]'(by omega)) (List.getElem?_eq_getElem hlt) (List.getElem?_eq_getElem (by omega))
    rw [e2] at e3
    rw [e1] at hc
    simp at e3 hc
    subst e3
    subst hc
    exact e5
  · have hlt : k < cs.length := by rw [← f2]; exact (Array.getElem?_eq_some_iff.1 hc).1
    obtain ⟨v, e1, e2⟩ := f3 k cs[k] (List.getElem?_eq_getElem hlt)
    obtain ⟨v', e3, e4, _⟩ := r1 k cs[k] u (List.getElem?_eq_getElem hlt) hu'
    rw [e2] at e3
    rw [e1] at hc
    simp at e3 hc
    subst e3
    subst hc
    exact e4

end Go.V
