/- The value machine V against the model: arguments of a law read as typed data. -/
import Derived.Test.YtdmghfmdcfagcaaVFit
import Derived.Test.YtdmghfmdcfagcaaVKX
import Derived.Test.YtdmghfmdcfagcaaVU
set_option linter.unusedSimpArgs false
set_option linter.unusedVariables false
namespace Go.V
open Go.RowKit

def structSpec (P : Program) (t : TypeId) : Option (List (TypeId × Nat)) := match P.underlying t with
  | some (.struct fs) => some (fs.toList.map fun f => (f.type, f.offset))
  | _ => none

theorem structSpec_some {P : Program} {t : TypeId} {sp : List (TypeId × Nat)} (h : structSpec P t = some sp) : ∃ fs, P.underlying t = some (.struct fs) ∧ sp = fs.toList.map fun f => (f.type, f.offset) := by
  unfold structSpec at h
  split at h
  · rename_i fs hu
    cases h
    exact ⟨fs, hu, rfl⟩
  · cases h

theorem FitC.int {P : Program} {k : Nat} {t : TypeId} {q : IntKind} {ds : List PV} (hu : P.underlying t = some (.int q)) (h : FitC P k t ds) : ∃ n, ds = [.int q n] ∧ (Lit.int q n).wf = true := by
  cases k with
  | zero => exact h.elim
  | succ k =>
    unfold FitC at h
    rw [hu] at h
    exact h
theorem FitC.str {P : Program} {k : Nat} {t : TypeId} {ds : List PV} (hu : P.underlying t = some .string) (h : FitC P k t ds) : ∃ s : ByteArray, ds = [.str s] ∧ s.size ≤ maxLen := by
  cases k with
  | zero => exact h.elim
  | succ k =>
    unfold FitC at h
    rw [hu] at h
    exact h
theorem FitC.bool {P : Program} {k : Nat} {t : TypeId} {ds : List PV} (hu : P.underlying t = some .bool) (h : FitC P k t ds) : ∃ b, ds = [.bool b] := by
  cases k with
  | zero => exact h.elim
  | succ k =>
    unfold FitC at h
    rw [hu] at h
    exact h
theorem FitC.struct {P : Program} {k : Nat} {t : TypeId} {sp : List (TypeId × Nat)} {ds : List PV} (hu : structSpec P t = some sp) (h : FitC P (k + 1) t ds) : ds.length = P.cellsOf t ∧ ∀ p ∈ sp, FitC P k p.1 ((ds.drop p.2).take (P.cellsOf p.1)) := by
  obtain ⟨fs, hu', rfl⟩ := structSpec_some hu
  unfold FitC at h
  rw [hu'] at h
  refine ⟨h.1, fun p hp => ?_⟩
  obtain ⟨f, hf, rfl⟩ := List.mem_map.1 hp
  obtain ⟨i, hi⟩ := List.getElem?_of_mem hf
  exact h.2 i f (by simpa using hi)

/-- A list of structs. -/
theorem FitC.list {α : Type} {P : Program} {k : Nat} {t e : TypeId} {n : Nat} {sp : List (TypeId × Nat)} {ds : List PV} {Q : α → Prop} {enc : α → PV} (hu : P.underlying t = some (.slice e)) (hs : structSpec P e = some sp) (hn : P.cellsOf e = n)
    (hd : ∀ x, FitC P k e x → ∃ a : α, PV.agg x = enc a ∧ Q a) (h : FitC P (k + 1) t ds) : ∃ l : List α, ds = [.slice n (l.map enc)] ∧ ∀ a ∈ l, Q a := by
  obtain ⟨fs, hse, _⟩ := structSpec_some hs
  unfold FitC at h
  rw [hu] at h
  obtain ⟨es, rfl, hall⟩ := h
  rw [hn]
  have hmk : mkEl P e = PV.agg := by funext x; unfold mkEl; rw [hse]
  rw [hmk]
  clear hu hs hn hse hmk
  have key : ∃ l : List α, es.map PV.agg = l.map enc ∧ ∀ a ∈ l, Q a := by
    induction es with
    | nil => exact ⟨[], rfl, fun a h => by simp at h⟩
    | cons x es ih =>
      obtain ⟨l, h1, h2⟩ := ih fun y hy => hall y (List.mem_cons_of_mem _ hy)
      obtain ⟨a, h3, h4⟩ := hd x (hall x (List.mem_cons_self ..))
      exact ⟨a :: l, by rw [List.map_cons, List.map_cons, h1, h3], fun b hb => by
        rcases List.mem_cons.1 hb with rfl | hb
        · exact h4
        · exact h2 b hb⟩
  obtain ⟨l, h1, h2⟩ := key
  exact ⟨l, by rw [h1], h2⟩

/-- A list of numbers. -/
theorem FitC.ints {P : Program} {k : Nat} {t e : TypeId} {q : IntKind} {ds : List PV} (hu : P.underlying t = some (.slice e)) (he : P.underlying e = some (.int q)) (hn : P.cellsOf e = 1) (h : FitC P (k + 1) t ds) : ∃ l : List Int, ds = [.slice 1 (l.map (.int q))] ∧ ∀ a ∈ l, (Lit.int q a).wf = true := by
  unfold FitC at h
  rw [hu] at h
  obtain ⟨es, rfl, hall⟩ := h
  rw [hn]
  have key : ∃ l : List Int, es.map (mkEl P e) = l.map (.int q) ∧ ∀ a ∈ l, (Lit.int q a).wf = true := by
    clear hu hn
    induction es with
    | nil => exact ⟨[], rfl, fun a h => by simp at h⟩
    | cons x es ih =>
      obtain ⟨l, h1, h2⟩ := ih fun y hy => hall y (List.mem_cons_of_mem _ hy)
      obtain ⟨a, rfl, h4⟩ := (hall x (List.mem_cons_self ..)).int he
      refine ⟨a :: l, ?_, fun b hb => ?_⟩
      · rw [List.map_cons, List.map_cons, h1, mkEl, he]; rfl
      · rcases List.mem_cons.1 hb with rfl | hb
        · exact h4
        · exact h2 b hb
  obtain ⟨l, h1, h2⟩ := key
  exact ⟨l, by rw [h1], h2⟩

theorem FitV.struct {P : Program} {k : Nat} {t : TypeId} {sp : List (TypeId × Nat)} {u : VVal} (hu : structSpec P t = some sp) (h : FitV P k t u) : ∃ ds : List PV, FitC P k t ds ∧ u = .agg (ds.map .p) := by
  obtain ⟨fs, hs, _⟩ := structSpec_some hu
  rcases h with ⟨ds, h1, h2, _⟩ | ⟨_, _, _, h3⟩
  · exact ⟨ds, h1, h2⟩
  · exact absurd hs (h3 fs)
theorem FitV.flat {P : Program} {k : Nat} {t : TypeId} {u : VVal} (hu : structSpec P t = none) (h : FitV P k t u) : ∃ d : PV, FitC P k t [d] ∧ u = .p d := by
  rcases h with ⟨_, _, _, fs, h3⟩ | ⟨d, h1, h2, _⟩
  · unfold structSpec at hu
    rw [h3] at hu
    cases hu
  · exact ⟨d, h1, h2⟩

/-! ### trees -/

theorem wf64 {n : Int} (h : (Lit.int .i64 n).wf = true) : -9223372036854775808 ≤ n ∧ n ≤ 9223372036854775807 := by
  simp [Lit.wf, IntKind.min, IntKind.max, IntKind.bits, IntKind.signed] at h
  omega

structure NodeT (P : Program) (tn ti ts : TypeId) : Prop where
  n : structSpec P tn = some [(ti, 0), (ti, 1), (ts, 2), (ti, 3), (ti, 4), (ti, 5)]
  nc : P.cellsOf tn = 6
  i : P.underlying ti = some (.int .i64)
  ic : P.cellsOf ti = 1
  s : P.underlying ts = some .string
  sc : P.cellsOf ts = 1

theorem FitC.node {P : Program} {k : Nat} {tn ti ts : TypeId} (h : NodeT P tn ti ts) {x : List PV} (hx : FitC P (k + 1) tn x) : ∃ n : Nd, PV.agg x = n.pv ∧ n.Fits := by
  obtain ⟨h1, h2⟩ := hx.struct h.n
  rw [h.nc] at h1
  match x, h1 with
  | [a, b, c, d, e, f], _ =>
    have q0 := h2 (ti, 0) (by simp)
    have q1 := h2 (ti, 1) (by simp)
    have q2 := h2 (ts, 2) (by simp)
    have q3 := h2 (ti, 3) (by simp)
    have q4 := h2 (ti, 4) (by simp)
    have q5 := h2 (ti, 5) (by simp)
    simp only [h.ic, h.sc, List.drop_zero, List.drop_succ_cons, List.take_succ_cons, List.take_zero] at q0 q1 q2 q3 q4 q5
    obtain ⟨x0, e0, w0⟩ := q0.int h.i
    obtain ⟨x1, e1, w1⟩ := q1.int h.i
    obtain ⟨x2, e2, w2⟩ := q2.str h.s
    obtain ⟨x3, e3, w3⟩ := q3.int h.i
    obtain ⟨x4, e4, w4⟩ := q4.int h.i
    obtain ⟨x5, e5, w5⟩ := q5.int h.i
    simp only [List.cons.injEq, and_true] at e0 e1 e2 e3 e4 e5
    subst e0 e1 e2 e3 e4 e5
    refine ⟨⟨x0, x1, x2, x3, x4, x5⟩, rfl, ?_, ?_⟩
    · unfold maxLen at w2
      simp only
      omega
    · have := wf64 w3
      simp only
      omega

structure TreeT (P : Program) (tt tns tn ti ts : TypeId) : Prop extends NodeT P tn ti ts where
  t : structSpec P tt = some [(tns, 0), (ti, 1)]
  tc : P.cellsOf tt = 2
  ns : P.underlying tns = some (.slice tn)
  nsc : P.cellsOf tns = 1

theorem FitC.tree {P : Program} {k : Nat} {tt tns tn ti ts : TypeId} (h : TreeT P tt tns tn ti ts) {x : List PV} (hx : FitC P (k + 3) tt x) : ∃ t : Tr, x = [.slice 6 (t.nodes.map Nd.pv), .int .i64 t.next] ∧ t.Fits := by
  obtain ⟨h1, h2⟩ := hx.struct h.t
  rw [h.tc] at h1
  match x, h1 with
  | [a, b], _ =>
    have q0 := h2 (tns, 0) (by simp)
    have q1 := h2 (ti, 1) (by simp)
    simp only [h.ic, h.nsc, List.drop_zero, List.drop_succ_cons, List.take_succ_cons, List.take_zero] at q0 q1
    obtain ⟨l, e0, w0⟩ := q0.list (enc := Nd.pv) (Q := Nd.Fits) h.ns h.n h.nc (fun x hx => hx.node h.toNodeT)
    obtain ⟨n, e1, w1⟩ := q1.int h.i
    simp only [List.cons.injEq, and_true] at e0 e1
    subst e0 e1
    exact ⟨⟨l, n⟩, rfl, w0⟩
theorem FitV.tree {P : Program} {k : Nat} {tt tns tn ti ts : TypeId} (h : TreeT P tt tns tn ti ts) {u : VVal} (hu : FitV P (k + 3) tt u) : ∃ t : Tr, u = t.vv ∧ t.Fits := by
  obtain ⟨ds, h1, rfl⟩ := hu.struct h.t
  obtain ⟨t, rfl, ht⟩ := h1.tree h
  exact ⟨t, rfl, ht⟩

/-! ### lists of pairs of numbers -/

structure PairT (P : Program) (ts tp ti : TypeId) : Prop where
  s : P.underlying ts = some (.slice tp)
  sc : P.cellsOf ts = 1
  p : structSpec P tp = some [(ti, 0), (ti, 1)]
  pc : P.cellsOf tp = 2
  i : P.underlying ti = some (.int .i64)
  ic : P.cellsOf ti = 1
theorem FitC.pairs {P : Program} {k : Nat} {ts tp ti : TypeId} (h : PairT P ts tp ti) {x : List PV} (hx : FitC P (k + 2) ts x) : ∃ l : List Ch, x = [chsP l] := by
  obtain ⟨l, e, _⟩ := hx.list (enc := Ch.pv) (Q := fun _ => True) h.s h.p h.pc (fun x hx => by
    obtain ⟨h1, h2⟩ := hx.struct h.p
    rw [h.pc] at h1
    match x, h1 with
    | [a, b], _ =>
      have q0 := h2 (ti, 0) (by simp)
      have q1 := h2 (ti, 1) (by simp)
      simp only [h.ic, List.drop_zero, List.drop_succ_cons, List.take_succ_cons, List.take_zero] at q0 q1
      obtain ⟨n0, e0, w0⟩ := q0.int h.i
      obtain ⟨n1, e1, w1⟩ := q1.int h.i
      simp only [List.cons.injEq, and_true] at e0 e1
      subst e0 e1
      exact ⟨⟨n0, n1⟩, rfl, trivial⟩)
  exact ⟨l, e⟩
theorem slice_no {P : Program} {t e : TypeId} (h : P.underlying t = some (.slice e)) : structSpec P t = none := by
  unfold structSpec
  rw [h]
theorem int_no {P : Program} {t : TypeId} {q : IntKind} (h : P.underlying t = some (.int q)) : structSpec P t = none := by
  unfold structSpec
  rw [h]
theorem FitV.pairs {P : Program} {k : Nat} {ts tp ti : TypeId} (h : PairT P ts tp ti) {u : VVal} (hu : FitV P (k + 2) ts u) : ∃ l : List Ch, u = .p (chsP l) := by
  obtain ⟨d, h1, rfl⟩ := hu.flat (slice_no h.s)
  obtain ⟨l, e⟩ := h1.pairs h
  simp only [List.cons.injEq, and_true] at e
  subst e
  exact ⟨l, rfl⟩
theorem FitV.int {P : Program} {k : Nat} {t : TypeId} {q : IntKind} (h : P.underlying t = some (.int q)) {u : VVal} (hu : FitV P k t u) : ∃ n, u = .p (.int q n) ∧ (Lit.int q n).wf = true := by
  obtain ⟨d, h1, rfl⟩ := hu.flat (int_no h)
  obtain ⟨n, e, w⟩ := h1.int h
  simp only [List.cons.injEq, and_true] at e
  subst e
  exact ⟨n, rfl, w⟩
theorem FitV.ints {P : Program} {k : Nat} {t e : TypeId} {q : IntKind} (h : P.underlying t = some (.slice e)) (he : P.underlying e = some (.int q)) (hn : P.cellsOf e = 1) {u : VVal} (hu : FitV P (k + 1) t u) : ∃ l : List Int, u = .p (.slice 1 (l.map (.int q))) ∧ ∀ a ∈ l, (Lit.int q a).wf = true := by
  obtain ⟨d, h1, rfl⟩ := hu.flat (slice_no h)
  obtain ⟨l, e1, w⟩ := h1.ints h he hn
  simp only [List.cons.injEq, and_true] at e1
  subst e1
  exact ⟨l, rfl, w⟩
theorem FitV.str {P : Program} {k : Nat} {t : TypeId} (h : P.underlying t = some .string) {u : VVal} (hu : FitV P k t u) : ∃ s : ByteArray, u = .p (.str s) ∧ s.size ≤ maxLen := by
  obtain ⟨d, h1, rfl⟩ := hu.flat (by unfold structSpec; rw [h])
  obtain ⟨s, e, w⟩ := h1.str h
  simp only [List.cons.injEq, and_true] at e
  subst e
  exact ⟨s, rfl, w⟩

/-- A struct of one list of pairs. -/
theorem FitV.ctr {P : Program} {k : Nat} {tc ts tp ti : TypeId} (h : PairT P ts tp ti) (hc : structSpec P tc = some [(ts, 0)]) (hn : P.cellsOf tc = 1) {u : VVal} (hu : FitV P (k + 3) tc u) : ∃ l : List Ch, u = ctrV l := by
  obtain ⟨ds, h1, rfl⟩ := hu.struct hc
  obtain ⟨h2, h3⟩ := h1.struct hc
  rw [hn] at h2
  match ds, h2 with
  | [a], _ =>
    have q0 := h3 (ts, 0) (by simp)
    simp only [h.sc, List.drop_zero, List.take_succ_cons, List.take_zero] at q0
    obtain ⟨l, e⟩ := q0.pairs h
    simp only [List.cons.injEq, and_true] at e
    subst e
    exact ⟨l, rfl⟩

end Go.V

