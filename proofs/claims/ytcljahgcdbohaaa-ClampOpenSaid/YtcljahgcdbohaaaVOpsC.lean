/- The value machine V against the model: comparisons of structs, indexes, slices, maps that are read. -/
import Derived.Test.YtcljahgcdbohaaaVOpsB
import Derived.Laws.StructEq
set_option linter.unusedSimpArgs false
set_option linter.unusedVariables false
namespace Go.V
open Go.RowKit

theorem ktIs_underlying {P : Program} {t : TypeId} {k : KT} (h : ktIs P t k = true) : (∀ i, k = .int i → P.underlying t = some (.int i)) ∧ (k = .str → P.underlying t = some .string) ∧ (k = .bool → P.underlying t = some .bool) := by
  cases k with
  | int i =>
    refine ⟨fun j hj => ?_, fun h => by simp at h, fun h => by simp at h⟩
    simp at hj
    subst hj
    simp only [ktIs] at h
    cases hu : P.underlying t with
    | none => simp [hu] at h
    | some d => cases d <;> simp [hu] at h; subst h; rfl
  | str =>
    refine ⟨fun j hj => by simp at hj, fun _ => ?_, fun h => by simp at h⟩
    simp only [ktIs] at h
    cases hu : P.underlying t with
    | none => simp [hu] at h
    | some d => cases d <;> simp [hu] at h; rfl
  | bool =>
    refine ⟨fun j hj => by simp at hj, fun h => by simp at h, fun _ => ?_⟩
    simp only [ktIs] at h
    cases hu : P.underlying t with
    | none => simp [hu] at h
    | some d => cases d <;> simp [hu] at h; rfl

theorem isAggB_kt {P : Program} {t : TypeId} {k : KT} (h : ktIs P t k = true) : isAggB P t = some false := by
  obtain ⟨h1, h2, h3⟩ := ktIs_underlying h
  cases k with
  | int i => simp [isAggB, h1 i rfl]
  | str => simp [isAggB, h2 rfl]
  | bool => simp [isAggB, h3 rfl]

theorem eqStr (m m' : ByteArray) : (m.toList == m'.toList) = decide (m = m') := by
  rw [Bool.eq_iff_iff]
  simp only [beq_iff_eq, decide_eq_true_eq]
  rw [ByteArray.toList_eq, ByteArray.toList_eq]
  exact ⟨fun h => WideShapes.bytes_inj h, fun h => by rw [h]⟩

/-- Two scalars. -/
theorem eq0_sound {P : Program} {w : World} {fz : Nat → Prop} {t : TypeId} {k : KT} (h : ktIs P t k = true) {x y : PV} {b : Bool} (hb : eq0 k x y = some b) {c c' : Value} (hx : PRel fz w x c) (hy : PRel fz w y c') (d : Nat) :
    (Op.equalIn (d + 1) t c c').run P w = .ok b w := by
  obtain ⟨h1, h2, h3⟩ := ktIs_underlying h
  unfold eq0 at hb
  split at hb
  · obtain ⟨rfl, hb2⟩ := gd_eq hb
    obtain ⟨rfl, hb3⟩ := gd_eq hb2
    simp at hb3
    subst hb3
    cases hx
    cases hy
    exact run_equalIn_int w d t _ _ _ _ (h1 _ rfl)
  · simp at hb
    subst hb
    cases hx
    cases hy
    exact run_equalIn_bool w d t _ _ (h3 rfl)
  · simp at hb
    subst hb
    cases hx
    cases hy
    rw [run_equalIn_string w d t _ _ (h2 rfl), eqStr]
  · cases hb

theorem unP_rel {G : Gh} {h : VHeap} {w : World} {v : VVal} {c : Value} (hv : VRel G h w v c) {d : PV} (hd : unP v = some d) : PRel (fun b => G.kind b = .frozen) w d c ∧ c.oneCell' = true := by
  unfold unP at hd
  split at hd
  · simp at hd; subst hd; cases hv with | p hp h1 => exact ⟨hp, h1⟩
  · simp at hd
    subst hd
    cases hv with
    | @fn _ _ arr hl hr =>
      have : arr = #[] := Array.eq_empty_of_size_eq_zero (by simpa using hl.symm)
      subst this
      exact ⟨.fn _, rfl⟩
  · cases hd

theorem mapO_get {α β : Type} {f : α → Option β} : ∀ {l : List α} {ys : List β}, mapO f l = some ys → ys.length = l.length ∧ ∀ (i : Nat) (y : β), ys[i]? = some y → ∃ x, l[i]? = some x ∧ f x = some y
  | [], ys, h => by
    simp [mapO] at h
    subst h
    exact ⟨rfl, fun i y h => by simp at h⟩
  | x :: xs, ys, h => by
    obtain ⟨y, hy, h⟩ := ob_eq h
    obtain ⟨ys', hys, h⟩ := ob_eq h
    simp at h
    subst h
    obtain ⟨h1, h2⟩ := mapO_get hys
    refine ⟨by simp [h1], fun i y' hi => ?_⟩
    cases i with
    | zero => simp at hi; subst hi; exact ⟨x, rfl, hy⟩
    | succ i => simp at hi; simpa using h2 i y' hi
theorem mapO_get' {α β : Type} {f : α → Option β} {l : List α} {ys : List β} (h : mapO f l = some ys) (i : Nat) (x : α) (hx : l[i]? = some x) : ∃ y, ys[i]? = some y ∧ f x = some y := by
  obtain ⟨h1, h2⟩ := mapO_get h
  have hlt : i < ys.length := by rw [h1]; exact (List.getElem?_eq_some_iff.1 hx).1
  obtain ⟨x', hx', hf⟩ := h2 i ys[i] (List.getElem?_eq_getElem hlt)
  rw [hx] at hx'
  simp at hx'
  subst hx'
  exact ⟨ys[i], List.getElem?_eq_getElem hlt, hf⟩

/-- The fields one by one. -/
theorem eqFields_sound {P : Program} {w : World} {fz : Nat → Prop} {arr arr' : Array Value} (d : Nat) : ∀ (fs : List Field) (ks : List KT) (i : Nat) (xs ys : List PV) (b : Bool), okFields P i fs ks = true → eqAll ks xs ys = some b →
    (∀ (j : Nat) (x : PV), xs[j]? = some x → ∃ c, arr[i + j]? = some c ∧ PRel fz w x c) → (∀ (j : Nat) (x : PV), ys[j]? = some x → ∃ c, arr'[i + j]? = some c ∧ PRel fz w x c) →
    (Op.eqFields (d + 1) arr arr' fs).run P w = .ok b w
  | [], [], i, xs, ys, b, _, hb, _, _ => by
    cases xs <;> cases ys <;> simp [eqAll] at hb
    subst hb
    simp [Op.eqFields]
  | f :: fs, k :: ks, i, xs, ys, b, hok, hb, hx, hy => by
    cases xs with
    | nil => simp [eqAll] at hb
    | cons x xs =>
      cases ys with
      | nil => simp [eqAll] at hb
      | cons y ys =>
        simp only [okFields, Bool.and_eq_true, beq_iff_eq, bne_iff_ne, ne_eq] at hok
        obtain ⟨⟨⟨h1, h2⟩, h3⟩, h4⟩ := hok
        simp only [eqAll] at hb
        obtain ⟨b1, hb1, hb⟩ := ob_eq hb
        obtain ⟨b2, hb2, hb⟩ := ob_eq hb
        simp at hb
        obtain ⟨c, hc, hpc⟩ := hx 0 x rfl
        obtain ⟨c', hc', hpc'⟩ := hy 0 y rfl
        simp only [Nat.add_zero] at hc hc'
        have e1 := eq0_sound h1 hb1 hpc hpc' d
        have ih := eqFields_sound d fs ks (i + 1) xs ys b2 h4 hb2 (fun j x hj => by
          obtain ⟨c, hc, hp⟩ := hx (j + 1) x (by simpa using hj)
          exact ⟨c, by rw [← hc]; congr 1; omega, hp⟩) (fun j x hj => by
          obtain ⟨c, hc, hp⟩ := hy (j + 1) x (by simpa using hj)
          exact ⟨c, by rw [← hc]; congr 1; omega, hp⟩)
        have hp1 : (part f.type arr f.offset).run P w = .ok c w := by simp [part, run_isAgg (isAggB_kt h1), h2, hc]
        have hp2 : (part f.type arr' f.offset).run P w = .ok c' w := by simp [part, run_isAgg (isAggB_kt h1), h2, hc']
        simp only [Op.eqFields, h3, ne_eq, not_false_eq_true, if_true, Sem.run_bind, hp1, hp2, Result.andThen_ok, e1]
        cases b1 with
        | true => simp at hb; subst hb; simpa using ih
        | false => simp at hb; subst hb; simp
  | [], _ :: _, _, _, _, _, h, _, _, _ => by simp [okFields] at h
  | _ :: _, [], _, _, _, _, h, _, _, _ => by simp [okFields] at h

section
variable {P : Program} {vs : List Nat} {n : Nat} {G : Gh} {r : RS} {a : Act} {w : World} (hr : RRel vs n G r a w) (hi : HeapInv G r.h w) {o : Oper}
include hr hi

theorem op_eqAgg {op : BinOp} {t t' : TypeId} {x y : Operand} (ho : o.op = .binOp op t x y t') {neg : Bool} (hop : op = .eql ∧ neg = false ∨ op = .neq ∧ neg = true) {kts : List KT} (hok : okEq P t kts = true) {x' y' : VArg} (hx : okArg vs x x' = true) (hy : okArg vs y y' = true)
    {cs cs' : List VVal} {xs ys : List PV} {b : Bool} (hl : r.look x' = some (.agg cs)) (hl' : r.look y' = some (.agg cs')) (h1 : mapO unP cs = some xs) (h2 : mapO unP cs' = some ys) (hb : eqAll kts xs ys = some b) : OpWp P G r.h w a o (.p (.bool (if neg then !b else b))) [] := by
  have e1 := look_rel hr hx hl
  have e2 := look_rel hr hy hl'
  generalize hc1 : a.eval x = c1 at e1
  generalize hc2 : a.eval y = c2 at e2
  cases e1 with
  | @agg _ arr hlen hone hrel =>
    cases e2 with
    | @agg _ arr' hlen' hone' hrel' =>
      refine opWp_silent (c := .bool (if neg then !b else b)) ?_ hi (vrel_mkBool _)
      unfold okEq at hok
      cases hu : P.underlying t with
      | none => simp [hu] at hok
      | some dsc =>
        cases dsc <;> simp [hu] at hok
        rename_i fs
        obtain ⟨⟨g1, g2⟩, g3⟩ := hok
        have hfo : P.fieldsOf t = fs := by simp [Program.fieldsOf, hu]
        have cellsOf : ∀ {cs : List VVal} {xs : List PV} {arr : Array Value}, mapO unP cs = some xs → cs.length = arr.size → (∀ (i : Nat) (v : VVal) (c : Value), cs[i]? = some v → arr[i]? = some c → VRel G r.h w v c) →
            ∀ (j : Nat) (x : PV), xs[j]? = some x → ∃ c, arr[0 + j]? = some c ∧ PRel (fun b => G.kind b = .frozen) w x c := by
          intro cs xs arr hm hl hrel j x hj
          obtain ⟨v, hv, hu⟩ := (mapO_get hm).2 j x hj
          have hlt : j < arr.size := by rw [← hl]; exact (List.getElem?_eq_some_iff.1 hv).1
          refine ⟨arr[j], by rw [Nat.zero_add]; exact Array.getElem?_eq_getElem hlt, (unP_rel (hrel j v _ hv (Array.getElem?_eq_getElem hlt)) hu).1⟩
        have key := eqFields_sound (P := P) (w := w) (arr := arr) (arr' := arr') 9998 fs.toList kts 0 xs ys b g3 hb (cellsOf h1 hlen hrel) (cellsOf h2 hlen' hrel')
        have hrun : (Op.equalIn 10000 t (.agg arr) (.agg arr')).run P w = .ok b w := by
          rw [run_equalIn_struct w 9999 t arr arr' (by rw [hfo]; exact hu) g1, hfo]
          exact key
        rcases hop with ⟨rfl, rfl⟩ | ⟨rfl, rfl⟩
        · simp [execOp, ho, hc1, hc2, run_eqGuard_agg w .eql t x y arr arr' g2, run_eql_struct, hrun]
        · simp [execOp, ho, hc1, hc2, run_eqGuard_agg w .neq t x y arr arr' g2, run_neq_struct, hrun]

theorem op_indexAddr {t e : TypeId} {x i : Operand} (ho : o.op = .indexAddr t x i) {y z : VArg} (hx : okArg vs x y = true) (hz : okArg vs i z = true) (hu : P.underlying t = some (.slice e)) {sz : Nat} (hsz : szIs P e sz = true) {s v : VVal} {k : IntKind} {m : Int}
    (hl : r.look y = some s) (hl' : r.look z = some (.p (.int k m))) (hv : vindex r.h sz s m = some v) : OpWp P G r.h w a o v [] := by
  have h1 := look_rel hr hx hl
  have h2 := vrel_int (look_rel hr hz hl')
  obtain ⟨h0, hv⟩ := gd_eq hv
  generalize hcp : a.eval x = cp at h1
  have key : ∀ ad len cap, cp = .slice (some ad) len cap → m < len → (execOp a.eval o).run P w = .ok (.value (.pointer (some (ad.add (m.toNat * sz))))) w := by
    intro ad len cap hc hlt
    subst hc
    simp [execOp, ho, Instr.indexAt, hcp, h2, asIntOf, run_underlying hu, h0, hlt, run_sizeOf hsz]
  cases h1 with
  | @p d c hp hone =>
    cases hp with
    | @slice sz' xs ad n' cap ad' val hn hcap ha hszs h1' hc hrel =>
    simp only [vindexAt] at hv
    obtain ⟨rfl, hv2⟩ := gd_eq hv
    obtain ⟨x0, hx0, hv3⟩ := ob_eq hv2
    simp at hv3
    subst hv3
    have hlt : m.toNat < xs.length := (List.getElem?_eq_some_iff.1 hx0).1
    obtain ⟨e1, e2, e3⟩ := ha (by omega)
    refine opWp_silent (c := .pointer (some (ad'.add (m.toNat * sz')))) (key ad' n' cap (by rw [e1]) (by omega)) hi (.vptr (ad'.add (m.toNat * sz')) (fun j => val m.toNat j) ?_ (by rw [add_block]; exact e2) (by rw [add_block]; exact e3) (fun j c hj => h1' _ _ j c hx0 hj) (fun j c hj => by rw [add_add]; exact hc _ _ j c hx0 hj) (fun j c hj => hrel _ _ j c hx0 hj))
    rw [add_add, Nat.add_zero]
    | _ => simp [vindexAt] at hv
  | @own id ver off len ad n' cap v' o' hn hcap hh hle hoo =>
    simp only [vindexAt] at hv
    rw [hh] at hv
    cases o' <;> simp only at hv <;> try (cases hv; done)
    rename_i sz' xs'
    obtain ⟨rfl, hv2⟩ := gd_eq hv
    obtain ⟨rfl, hv3⟩ := gd_eq hv2
    obtain ⟨hlt, hv4⟩ := gd_eq hv3
    simp at hv4
    subst hv4
    obtain ⟨sz2, xs, he, h3, h4⟩ := hoo rfl
    simp at he
    obtain ⟨rfl, rfl⟩ := he
    rcases h4 with ⟨h4, _⟩ | ⟨_, _, h4⟩
    · omega
    · have h5 := h4 (by omega)
      subst h5
      clear hoo
      have hmn : m < (n' : Int) := by omega
      refine opWp_silent (c := .pointer (some ((⟨G.blk id, off * sz', none⟩ : Addr).add (m.toNat * sz')))) (key _ n' cap rfl hmn) hi (.eptr hh hle fun _ => ⟨sz', xs', rfl, by omega, ?_⟩)
      rw [add_lit, Nat.add_mul, Nat.add_zero]
  | _ => simp [vindexAt] at hv
end

end Go.V
