/- The value machine V against the model: slice literals, append, maps. -/
import Derived.Test.YtcljahgcdbohaaaVOpsE
set_option linter.unusedSimpArgs false
set_option linter.unusedVariables false
namespace Go.V
open Go.RowKit

/-- Frozen data out of a value. -/
theorem freeze_rel {G : Gh} {h : VHeap} {w : World} {v : VVal} {c : Value} (hv : VRel G h w v c) {x : PV} (hx : freezeP v = some x) :
    x.cells.length = c.cells.size ∧ (∀ (j : Nat) (y : PV), x.cells[j]? = some y → ∃ u, c.cells[j]? = some u ∧ u.oneCell' = true ∧ PRel (fun b => G.kind b = .frozen) w y u) ∧ PRel (fun b => G.kind b = .frozen) w x c := by
  by_cases ha : ∃ cs, v = .agg cs
  · obtain ⟨cs, rfl⟩ := ha
    simp only [freezeP] at hx
    obtain ⟨ds, hds, hx2⟩ := ob_eq hx
    simp at hx2
    subst hx2
    cases hv with
    | @agg _ arr hl h1 hr =>
      obtain ⟨e1, e2⟩ := mapO_get hds
      have key : ∀ (j : Nat) (y : PV) (hlt : j < arr.size), ds[j]? = some y → PRel (fun b => G.kind b = .frozen) w y arr[j] := fun j y hlt hj => by
        obtain ⟨u, hu, hun⟩ := e2 j y hj
        exact (unP_rel (hr j u _ hu (Array.getElem?_eq_getElem hlt)) hun).1
      have hsz : ds.length = arr.size := by omega
      refine ⟨by simpa [PV.cells, Value.cells] using hsz, fun j y hj => ?_, .agg hsz h1 fun j y u hj hu => ?_⟩
      · simp only [PV.cells] at hj
        have hlt : j < arr.size := by rw [← hsz]; exact (List.getElem?_eq_some_iff.1 hj).1
        exact ⟨arr[j], by simp [Value.cells, Array.getElem?_eq_getElem hlt], h1 j _ (Array.getElem?_eq_getElem hlt), key j y hlt hj⟩
      · have hlt : j < arr.size := (Array.getElem?_eq_some_iff.1 hu).1
        rw [Array.getElem?_eq_getElem hlt] at hu
        simp at hu
        subst hu
        exact key j y hlt hj
  · have hun : unP v = some x := by
      cases v <;> first | exact absurd ⟨_, rfl⟩ ha | exact hx
    obtain ⟨e1, e2⟩ := unP_rel hv hun
    have hxc : x.cells = [x] := by
      cases x <;> simp only [PV.cells]
      cases e1
      simp [Value.oneCell'] at e2
    have hcc : c.cells = #[c] := by cases c <;> simp_all [Value.cells, Value.oneCell']
    rw [hxc, hcc]
    refine ⟨rfl, fun j y hj => ?_, e1⟩
    cases j with
    | zero => simp at hj; subst hj; exact ⟨c, by simp, e2, e1⟩
    | succ j => simp at hj

theorem fillS_sound {a : Act} {vs : List Nat} {sz len : Nat} : ∀ (ps : List (Nat × Operand)) (as : List VArg) (i : Nat) (cells : Array Value), okParts vs i ps as = true → (∀ p ∈ ps, (a.eval p.2).cells.size = sz) → i + ps.length ≤ len → cells.size = len * sz →
    ∃ cells', Instr.fill (fun k => some (k * sz, sz)) cells (ps.map fun (i, x) => (i, a.eval x)) = some cells' ∧ cells'.size = cells.size ∧ (∀ k, k < i * sz → cells'[k]? = cells[k]?) ∧
      ∀ (q : Nat) (p : Nat × Operand) (j : Nat), ps[q]? = some p → j < sz → cells'[(i + q) * sz + j]? = (a.eval p.2).cells[j]?
  | [], [], i, cells, _, _, _, _ => ⟨cells, by simp [Instr.fill], rfl, fun _ _ => rfl, fun q p j h => by simp at h⟩
  | (i', x) :: ps, y :: as, i, cells, hok, hs, hle, hsz => by
    simp only [okParts, Bool.and_eq_true, beq_iff_eq] at hok
    obtain ⟨⟨hii, hx⟩, hok⟩ := hok
    subst hii
    have hxs : (a.eval x).cells.size = sz := hs (i, x) (by simp)
    have hle' : i + (ps.length + 1) ≤ len := hle
    have hfit : i * sz + sz ≤ cells.size := by
      rw [hsz]
      have := Nat.mul_le_mul_right sz (show i + 1 ≤ len by omega)
      rw [Nat.add_mul] at this
      omega
    obtain ⟨q1, q2⟩ := fill_step (i * sz) (a.eval x) cells (by omega)
    obtain ⟨cells', r1, r2, r3, r4⟩ := fillS_sound (a := a) (vs := vs) (sz := sz) (len := len) ps as (i + 1) _ hok (fun p hp => hs p (by simp [hp])) (by omega) (by rw [q1]; exact hsz)
    have hmul : (i + 1) * sz = i * sz + sz := by rw [Nat.add_mul, Nat.one_mul]
    refine ⟨cells', ?_, by rw [r2, q1], fun k hk => ?_, fun q p j hq hj => ?_⟩
    · simp only [List.map_cons, Instr.fill]
      rw [if_neg (by simp; omega)]
      exact r1
    · rw [r3 k (by omega), q2 k, if_neg (by omega)]
    · cases q with
      | zero =>
        simp at hq
        subst hq
        simp only [Nat.add_zero]
        rw [r3 _ (by omega), q2, if_pos (by omega)]
        congr 1
        omega
      | succ q =>
        simp at hq
        have := r4 q p j hq hj
        rw [← this]
        have he : i + (q + 1) = i + 1 + q := by omega
        rw [he]
  | [], _ :: _, _, _, h, _, _, _ => by simp [okParts] at h
  | _ :: _, [], _, _, h, _, _, _ => by simp [okParts] at h

theorem okParts_get {vs : List Nat} : ∀ {ps : List (Nat × Operand)} {as : List VArg} {i : Nat}, okParts vs i ps as = true → as.length = ps.length ∧ ∀ (q : Nat) (p : Nat × Operand) (y : VArg), ps[q]? = some p → as[q]? = some y → okArg vs p.2 y = true
  | [], [], _, _ => ⟨rfl, fun q p y h => by simp at h⟩
  | (j, x) :: ps, y :: as, i, h => by
    simp only [okParts, Bool.and_eq_true] at h
    obtain ⟨h1, h2⟩ := okParts_get h.2
    refine ⟨by simp [h1], fun q p y' hq hy => ?_⟩
    cases q with
    | zero => simp at hq hy; subst hq; subst hy; exact h.1.2
    | succ q => simp at hq hy; exact h2 q p y' hq hy
  | [], _ :: _, _, h => by simp [okParts] at h
  | _ :: _, [], _, h => by simp [okParts] at h

section
variable {P : Program} {vs : List Nat} {n : Nat} {G : Gh} {r : RS} {a : Act} {w : World} (hr : RRel vs n G r a w) (hi : HeapInv G r.h w) {o : Oper} (d : Nat)
include hr hi

theorem op_buildSlice {t e : TypeId} {len : Nat} {ps : Array (Nat × Operand)} (ho : o.op = .buildSlice t len ps) {sz : Nat} {as : List VArg} (hal : as.length = len) (hbig : len * sz ≤ 16777216) (hok : okParts vs 0 ps.toList as = true)
    (hu : P.underlying t = some (.slice e)) {i : TypeInfo} {z : Value} (hinf : P.info? e = some i) (his : i.size = sz) (hz : i.zero = some z) {xs : List PV}
    (hx : mapO (fun x => ob (r.look x) fun v => freezeP v) as = some xs) (hall : xs.all (fun x => decide (x.cells.length = sz)) = true) :
    OpWp P G r.h w a o (.own (.slot d 0) (nv (r.h (.slot d 0))) 0 as.length) [(.slot d 0, nv (r.h (.slot d 0)), .arr sz xs)] := by
  obtain ⟨hl1, hp1⟩ := okParts_get hok
  obtain ⟨hxl, hxg⟩ := mapO_get hx
  have hcs : ∀ x ∈ xs, x.cells.length = sz := fun x hx => by simpa using List.all_eq_true.1 hall x hx
  have hel : ∀ (q : Nat) (p : Nat × Operand), ps.toList[q]? = some p → ∃ x v, xs[q]? = some x ∧ VRel G r.h w v (a.eval p.2) ∧ freezeP v = some x := fun q p hq => by
    have hqlt : q < ps.toList.length := (List.getElem?_eq_some_iff.1 hq).1
    obtain ⟨y, hy, hf⟩ := hxg q (xs[q]'(by omega)) (List.getElem?_eq_getElem (by omega))
    obtain ⟨v, hv, hf2⟩ := ob_eq hf
    exact ⟨_, v, List.getElem?_eq_getElem (by omega), look_rel hr (hp1 q p y hq hy) hv, hf2⟩
  have hsizes : ∀ p ∈ ps.toList, (a.eval p.2).cells.size = sz := fun p hp => by
    obtain ⟨q, hq, rfl⟩ := List.getElem_of_mem hp
    obtain ⟨x, v, h1, h2, h3⟩ := hel q _ (List.getElem?_eq_getElem hq)
    rw [← (freeze_rel h2 h3).1]
    exact hcs x (List.mem_of_getElem? h1)
  have hrunAll : ∃ zc : Array Value, ∀ cells', Instr.fill (fun i => some (i * sz, sz)) ((Array.range (len * sz)).map (zc[· % zc.size]!)) (ps.map fun (i, x) => (i, a.eval x)).toList = some cells' →
      (execOp a.eval o).run P w = .ok (.value (.slice (some ⟨w.heap.size, 0, none⟩) len len)) (w.alloc (.cells cells' e)) := by
    have h24 : ¬ (2 ^ 24 < len * sz) := by omega
    have hszr := run_sizeOf (P := P) (show szIs P e sz = true by simp [szIs, hinf, his]) w
    by_cases hl0 : len * sz = 0
    · refine ⟨#[], fun cells' hf => ?_⟩
      simp only [hl0] at hf
      simp [execOp, ho, Instr.buildSlice, run_underlying hu, hszr, hl0]
      simp at hf
      simp [hf, newRow]
    · refine ⟨z.cells, fun cells' hf => ?_⟩
      simp at hf
      simp [execOp, ho, Instr.buildSlice, run_underlying hu, hszr, h24, hl0, zeroValue, typeInfo, hinf, hz, hf, newRow]
  obtain ⟨zc, hrunAll⟩ := hrunAll
  obtain ⟨cells', f1, f2, f3, f4⟩ := fillS_sound (a := a) (len := len) (sz := sz) ps.toList as 0 ((Array.range (len * sz)).map (zc[· % zc.size]!)) hok hsizes (by omega) (by simp)
  have hrun := hrunAll cells' (by rw [Array.toList_map]; exact f1)
  obtain ⟨G', s1, i1, v1⟩ := new_arr (w' := w.alloc (.cells cells' e)) hi (.slot d 0) sz xs len (arr := cells') (t := e) (by simp) (fun b hb => Below.heap_alloc w _ b hb) rfl rfl rfl (heap_alloc_new w _) hcs (by omega) (by rw [f2]; simp) (fun k x j c hk hj => by
    have hklt : k < ps.toList.length := by
      have := (List.getElem?_eq_some_iff.1 hk).1
      omega
    obtain ⟨x', v, h1, h2, h3⟩ := hel k _ (List.getElem?_eq_getElem hklt)
    rw [hk] at h1
    simp at h1
    subst h1
    obtain ⟨u, e1, e2, e3⟩ := (freeze_rel h2 h3).2.1 j c hj
    have hjlt : j < sz := by rw [← hcs x (List.mem_of_getElem? hk)]; exact (List.getElem?_eq_some_iff.1 hj).1
    have := f4 k _ j (List.getElem?_eq_getElem hklt) hjlt
    rw [Nat.zero_add] at this
    exact ⟨u, by rw [this, e1], e2, e3⟩)
  have hxs : xs.length = len := by omega
  rw [hxs] at v1
  rw [hal]
  exact opWp_value (G' := G') hrun s1 i1 v1
end

end Go.V
