/- The value machine V against the model: operands, silent operations, loads. -/
import Derived.Test.YtcljahgcdbohaaaVRel
import Derived.Test.YtcljahgcdbohaaaVCheck
import Derived.Test.YtcljahgcdbohaaaVSim
set_option linter.unusedSimpArgs false
set_option linter.unusedVariables false
namespace Go.V
open Go.RowKit

/-- The machine's slots against the frame's. -/
structure RRel (vs : List Nat) (n : Nat) (G : Gh) (r : RS) (a : Act) (w : World) : Prop where
  pe : ∀ s, s ∈ vs → VRel G r.h w (r.pe s) (a.tmps.getD s Go.undef)
  te : ∀ s v, r.te s = some v → s ∉ vs ∧ VRel G r.h w v (a.tmps.getD s Go.undef)
  defers : a.defers = []
  size : n ≤ a.tmps.size

theorem ob_eq {α β : Type} {x : Option α} {f : α → Option β} {u : Tok f} {b : β} (h : ob x f u = some b) : ∃ a, x = some a ∧ f a = some b := by
  cases x with
  | none => cases h
  | some a => exact ⟨a, rfl, h⟩
theorem gd_eq {α : Type} {c : Prop} [Decidable c] {x : Option α} {u : Tok x} {b : α} (h : gd c x u = some b) : c ∧ x = some b := by
  unfold gd at h
  split at h
  · exact ⟨by assumption, h⟩
  · cases h

theorem bytesEq_eq {a b : ByteArray} (h : bytesEq a b = true) : a = b := by
  unfold bytesEq at h
  have h' : a.data.toList = b.data.toList := by simpa using h
  cases a; cases b
  congr 1
  exact Array.toList_inj.1 h'

theorem prel_nil (fz : Nat → Prop) (w : World) (sz : Nat) : PRel fz w (.slice sz []) (.slice none 0 0) :=
  .slice ⟨0, 0, none⟩ (fun _ _ => Go.undef) rfl (Nat.le_refl _) (fun h => absurd h (by omega)) (fun _ h => by cases h) (fun i x j c h => by simp at h) (fun i x j c h => by simp at h) (fun i x j c h => by simp at h)

theorem okConst_rel {fz : Nat → Prop} {w : World} {v : Value} {d : PV} (h : okConst v d = true) : PRel fz w d v ∧ v.oneCell' = true ∧ thaw d = .p d := by
  unfold okConst at h
  split at h
  · simp at h; obtain ⟨rfl, rfl⟩ := h; exact ⟨.int _ _, rfl, rfl⟩
  · simp at h; subst h; exact ⟨.bool _, rfl, rfl⟩
  · have := bytesEq_eq h; subst this; exact ⟨.str _, rfl, rfl⟩
  · exact ⟨prel_nil _ _ _, rfl, rfl⟩
  · exact ⟨.mapNil _, rfl, rfl⟩
  · exact ⟨.nilp, rfl, rfl⟩
  · exact ⟨.nilFn, rfl, rfl⟩
  · cases h

theorem look_rel {vs : List Nat} {n : Nat} {G : Gh} {r : RS} {a : Act} {w : World} (hr : RRel vs n G r a w) {x : Operand} {y : VArg} (h : okArg vs x y = true) {v : VVal} (hl : r.look y = some v) :
    VRel G r.h w v (a.eval x) := by
  unfold okArg at h
  split at h
  · simp at h
    obtain ⟨rfl, h2⟩ := h
    simp [RS.look] at hl
    subst hl
    exact hr.pe _ h2
  · simp at h
    obtain ⟨rfl, h2⟩ := h
    exact (hr.te _ _ hl).2
  · obtain ⟨h1, h2, h3⟩ := okConst_rel (fz := fun b => G.kind b = .frozen) (w := w) h
    simp [RS.look, h3] at hl
    subst hl
    exact .p h1 h2
  · simp at h
    subst h
    simp [RS.look, thaw] at hl
    subst hl
    exact .p (.fn _) rfl
  · cases h

theorem looks_rel {vs : List Nat} {n : Nat} {G : Gh} {r : RS} {a : Act} {w : World} (hr : RRel vs n G r a w) : ∀ {xs : List Operand} {ys : List VArg} (_ : okArgs vs xs ys = true) {us : List VVal} (_ : mapO r.look ys = some us),
    us.length = xs.length ∧ ∀ (i : Nat) (u : VVal) (c : Value), us[i]? = some u → (xs.map a.eval)[i]? = some c → VRel G r.h w u c
  | [], [], _, us, hl => by
    simp [mapO] at hl
    subst hl
    exact ⟨rfl, fun i u c h => by simp at h⟩
  | x :: xs, y :: ys, h, us, hl => by
    simp [okArgs] at h
    obtain ⟨u, hu, hl⟩ := ob_eq hl
    obtain ⟨us', hus, hl⟩ := ob_eq hl
    simp at hl
    subst hl
    obtain ⟨h1, h2⟩ := looks_rel hr h.2 hus
    refine ⟨by simp [h1], fun i u' c hi hc => ?_⟩
    cases i with
    | zero => simp at hi hc; subst hi; subst hc; exact look_rel hr h.1 hu
    | succ i => simp at hi hc; exact h2 i u' c hi (by simpa using hc)
  | [], _ :: _, h, _, _ => by simp [okArgs] at h
  | _ :: _, [], h, _, _ => by simp [okArgs] at h

/-- What an operation must come to. -/
def OpWp (P : Program) (G : Gh) (h : VHeap) (w : World) (a : Act) (o : Oper) (val : VVal) (us : List (Id × Nat × Ob)) : Prop :=
  ∀ (K : Act → World → Prop) (Q : Exit → Act → World → Prop), (∀ c w' G', Step G h w G' (h.upds us) w' → HeapInv G' (h.upds us) w' → VRel G' (h.upds us) w' val c → K (a.put o.dst c) w') → o.wp P a w K Q

theorem opWp_value {P : Program} {G G' : Gh} {h : VHeap} {w w' : World} {a : Act} {o : Oper} {val : VVal} {us : List (Id × Nat × Ob)} {c : Value}
    (hrun : (execOp a.eval o).run P w = .ok (.value c) w') (hs : Step G h w G' (h.upds us) w') (hi : HeapInv G' (h.upds us) w') (hv : VRel G' (h.upds us) w' val c) : OpWp P G h w a o val us := by
  intro K Q hK
  unfold Oper.wp
  rw [hrun]
  exact hK c w' G' hs hi hv
theorem opWp_skip {P : Program} {G G' : Gh} {h : VHeap} {w w' : World} {a : Act} {o : Oper} {us : List (Id × Nat × Ob)}
    (hrun : (execOp a.eval o).run P w = .ok .skip w') (hs : Step G h w G' (h.upds us) w') (hi : HeapInv G' (h.upds us) w') : OpWp P G h w a o .undef us := by
  intro K Q hK
  unfold Oper.wp
  rw [hrun]
  exact hK Go.undef w' G' hs hi .undef
/-- An operation that leaves the memory alone. -/
theorem opWp_silent {P : Program} {G : Gh} {h : VHeap} {w : World} {a : Act} {o : Oper} {val : VVal} {c : Value}
    (hrun : (execOp a.eval o).run P w = .ok (.value c) w) (hi : HeapInv G h w) (hv : VRel G h w val c) : OpWp P G h w a o val [] :=
  opWp_value (G' := G) hrun (Step.refl _ _ _) hi hv

/-! ### loads -/

theorem run_isAgg {P : Program} {t : TypeId} {b : Bool} (h : isAggB P t = some b) (w : World) : (isAgg t).run P w = .ok b w := by
  unfold isAggB at h
  cases hu : P.underlying t with
  | none => simp [hu] at h
  | some d => cases d <;> simp [hu] at h <;> subst h <;> simp [isAgg, run_underlying hu]
theorem run_sizeOf {P : Program} {t : TypeId} {n : Nat} (h : szIs P t n = true) (w : World) : (sizeOf t).run P w = .ok n w := by
  unfold szIs at h
  cases hi : P.info? t with
  | none => simp [hi] at h
  | some i => simp [hi] at h; subst h; simp [sizeOf, typeInfo, hi]

/-- A row of cells at an address. -/
def RowRel (G : Gh) (h : VHeap) (w : World) (cs : List VVal) (ad : Addr) : Prop :=
  ∀ (j : Nat) (v : VVal), cs[j]? = some v → ∃ c, w.cell? (ad.add j) = some c ∧ c.oneCell' = true ∧ VRel G h w v c

theorem cell_block {w : World} {b o : Nat} {arr : Array Value} {t : TypeId} {fr : Nat × Nat} (h : w.heap[b]? = some (.cells arr t fr)) : w.cell? ⟨b, o, none⟩ = arr[o]? := by
  simp [World.cell?, h]

theorem vrow_sound {G : Gh} {h : VHeap} {w : World} (hi : HeapInv G h w) {p : VVal} {cp : Value} (hp : VRel G h w p cp) {cs : List VVal} {off : Nat} (hr : vrow h p = some (cs, off)) :
    ∃ ad : Addr, cp = .pointer (some (ad.add off)) ∧ RowRel G h w cs ad := by
  cases hp <;> simp only [vrow] at hr <;> try (cases hr; done)
  case ptr id ver off' a v o hh hv ho =>
    rw [hh] at hr
    cases o <;> simp only at hr <;> try (cases hr; done)
    rename_i cs'
    obtain ⟨rfl, hr⟩ := gd_eq hr
    simp at hr
    obtain ⟨rfl, rfl⟩ := hr
    obtain ⟨_, arr, t, hb, hl, h1, hc⟩ := hi _ _ _ hh
    refine ⟨⟨G.blk id, 0, none⟩, by rw [ho rfl, add_lit, Nat.zero_add], fun j v' hj => ?_⟩
    have hj' : j < arr.size := by rw [← hl]; exact (List.getElem?_eq_some_iff.1 hj).1
    have hg : arr[j]? = some arr[j] := Array.getElem?_eq_getElem hj'
    exact ⟨arr[j], by rw [add_lit, Nat.zero_add, cell_block hb, hg], h1 j _ hg, hc j v' _ hj hg⟩
  case vptr cs' off' a ad val ha hf hb h1 hc hr' =>
    simp at hr
    obtain ⟨rfl, rfl⟩ := hr
    refine ⟨ad, by rw [ha], fun j v' hj => ?_⟩
    simp only [List.getElem?_map, Option.map_eq_some_iff] at hj
    obtain ⟨c, hc', rfl⟩ := hj
    exact ⟨val j, hc j c hc', h1 j c hc', .p (hr' j c hc') (h1 j c hc')⟩
  case eptr id ver i off' a v o hh hv ho =>
    rw [hh] at hr
    cases o <;> simp only at hr <;> try (cases hr; done)
    rename_i sz xs
    obtain ⟨rfl, hr2⟩ := gd_eq hr
    obtain ⟨x, hx, hr3⟩ := ob_eq hr2
    simp at hr3
    obtain ⟨rfl, rfl⟩ := hr3
    obtain ⟨sz', xs', he, hlt, rfl⟩ := ho rfl
    simp at he
    obtain ⟨rfl, rfl⟩ := he
    obtain ⟨_, hm, hall⟩ := hi _ _ _ hh
    have hmine : G.kind (G.blk id) = .mine id := by
      rcases hm with h0 | h0
      · rw [h0] at hlt; simp at hlt
      · exact h0
    obtain ⟨_, arr, t, hb, _, hc⟩ := hall hmine
    refine ⟨⟨G.blk id, i * sz, none⟩, by rw [add_lit], fun j v' hj => ?_⟩
    simp only [List.getElem?_map, Option.map_eq_some_iff] at hj
    obtain ⟨c, hc', rfl⟩ := hj
    obtain ⟨cv, hg, h1, hp⟩ := hc i x j c hx hc'
    exact ⟨cv, by rw [add_lit, cell_block hb, hg], h1, .p hp h1⟩

theorem run_load {P : Program} {w : World} {a : Addr} {c : Value} (h : w.cell? a = some c) : (load a).run P w = .ok c w := by
  simp [load, Sem.run, h]

theorem loadVar_sound {P : Program} {G : Gh} {h : VHeap} {w : World} {cs : List VVal} {ad : Addr} (hrow : RowRel G h w cs ad) {agg : Option Nat} {off : Nat} {v : VVal} (hv : ofCells agg cs off = some v)
    {t : TypeId} (ht : aggIs P t agg = true) : ∃ c, (loadVar t (ad.add off)).run P w = .ok c w ∧ VRel G h w v c := by
  cases agg with
  | none =>
    simp only [ofCells] at hv
    simp only [aggIs, beq_iff_eq] at ht
    obtain ⟨c, hc, h1, hr⟩ := hrow off v hv
    exact ⟨c, by simp [loadVar, run_isAgg ht, hc], hr⟩
  | some n =>
    simp only [ofCells] at hv
    obtain ⟨hle, hv⟩ := gd_eq hv
    simp at hv
    subst hv
    simp only [aggIs, Bool.and_eq_true, beq_iff_eq] at ht
    have hex : ∀ k, k ≤ n → ∃ l : List Value, l.length = k ∧ ∀ j c, l[j]? = some c → w.cell? (ad.add (off + j)) = some c ∧ c.oneCell' = true ∧ ∀ v, cs[off + j]? = some v → VRel G h w v c := by
      intro k hk
      induction k with
      | zero => exact ⟨[], rfl, fun j c hj => by simp at hj⟩
      | succ k ih =>
        obtain ⟨l, hl, hlj⟩ := ih (by omega)
        have hlt : off + k < cs.length := by omega
        obtain ⟨c, hc, h1, hr⟩ := hrow (off + k) cs[off + k] (List.getElem?_eq_getElem hlt)
        refine ⟨l ++ [c], by simp [hl], fun j c' hj => ?_⟩
        by_cases hjk : j < k
        · rw [List.getElem?_append_left (by omega)] at hj
          exact hlj j c' hj
        · have hjk' : j = k := by
            have := (List.getElem?_eq_some_iff.1 hj).1
            simp at this
            omega
          subst hjk'
          rw [List.getElem?_append_right (by omega), hl] at hj
          simp at hj
          subst hj
          refine ⟨hc, h1, fun v hv => ?_⟩
          rw [List.getElem?_eq_getElem hlt] at hv
          simp at hv
          subst hv
          exact hr
    obtain ⟨l, hl, hlj⟩ := hex n (Nat.le_refl _)
    refine ⟨.agg l.toArray, ?_, .agg (by simp; omega) (fun i c hc => (hlj i c (by simpa using hc)).2.1) (fun i v c hv hc => ?_)⟩
    · have hlc := run_loadCells_list (P := P) w (ad.add off) l (fun j v hj => by rw [add_add]; exact (hlj j v hj).1)
      rw [hl] at hlc
      simp [loadVar, run_isAgg ht.1, run_sizeOf ht.2, hlc]
    · refine (hlj i c (by simpa using hc)).2.2 v ?_
      rw [List.getElem?_take] at hv
      split at hv
      · simpa using hv
      · cases hv

theorem op_load {P : Program} {vs : List Nat} {n : Nat} {G : Gh} {r : RS} {a : Act} {w : World} (hr : RRel vs n G r a w) (hi : HeapInv G r.h w) {o : Oper} {t : TypeId} {x : Operand} (ho : o.op = .load t x) {agg : Option Nat} {y : VArg}
    (hx : okArg vs x y = true) (ht : aggIs P t agg = true) {p v : VVal} (hl : r.look y = some p) (hv : vload r.h agg p = some v) : OpWp P G r.h w a o v [] := by
  obtain ⟨⟨cs, off⟩, hrow, hof⟩ := ob_eq hv
  obtain ⟨ad, hcp, hrr⟩ := vrow_sound hi (look_rel hr hx hl) hrow
  obtain ⟨c, hrun, hvc⟩ := loadVar_sound hrr hof ht
  refine opWp_silent (c := c) ?_ hi hvc
  simp [execOp, ho, Instr.loadAt, Instr.sureAddr, hcp, hrun]

end Go.V
