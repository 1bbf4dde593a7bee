/- The value machine V against the model: operations that leave the memory alone. -/
import Derived.Test.YtcljahgcdbohaaaVOpsA
import Derived.Laws.Strings
import Derived.Laws.Small
import Derived.WideShapes
set_option linter.unusedSimpArgs false
set_option linter.unusedVariables false
namespace Go.V
open Go.RowKit

section
variable {G : Gh} {h : VHeap} {w : World}
theorem vrel_int {k : IntKind} {n : Int} {c : Value} (hv : VRel G h w (.p (.int k n)) c) : c = .int k n := by
  cases hv with | p hp _ => cases hp; rfl
theorem vrel_bool {b : Bool} {c : Value} (hv : VRel G h w (.p (.bool b)) c) : c = .bool b := by
  cases hv with | p hp _ => cases hp; rfl
theorem vrel_str {s : ByteArray} {c : Value} (hv : VRel G h w (.p (.str s)) c) : c = .string s := by
  cases hv with | p hp _ => cases hp; rfl
theorem vrel_mkInt (k : IntKind) (n : Int) : VRel G h w (.p (.int k n)) (.int k n) := .p (.int k n) rfl
theorem vrel_mkBool (b : Bool) : VRel G h w (.p (.bool b)) (.bool b) := .p (.bool b) rfl
theorem vrel_mkStr (s : ByteArray) : VRel G h w (.p (.str s)) (.string s) := .p (.str s) rfl
theorem vrel_one {v : VVal} {c : Value} (hv : VRel G h w v c) (hs : solid v = true) : c.oneCell' = true := by
  cases hv <;> simp [solid] at hs <;> first | assumption | rfl
/-- The cells of a value. -/
theorem vrel_cells {v : VVal} {c : Value} (hv : VRel G h w v c) (hs : (vcells v).all solid = true) : (vcells v).length = c.cells.size ∧
    (∀ (i : Nat) (x : Value), c.cells[i]? = some x → x.oneCell' = true) ∧ ∀ (i : Nat) (u : VVal) (x : Value), (vcells v)[i]? = some u → c.cells[i]? = some x → VRel G h w u x := by
  by_cases ha : ∃ cs, v = .agg cs
  · obtain ⟨cs, rfl⟩ := ha
    cases hv with
    | agg hl h1 hr => exact ⟨by simpa [vcells, Value.cells] using hl, by simpa [Value.cells] using h1, by simpa [vcells, Value.cells] using hr⟩
  · have hvc : vcells v = [v] := by cases v <;> simp_all [vcells]
    rw [hvc] at hs ⊢
    have h1 := vrel_one hv (by simpa using hs)
    have hcc : c.cells = #[c] := by cases c <;> simp_all [Value.cells, Value.oneCell']
    rw [hcc]
    refine ⟨rfl, fun i x hx => ?_, fun i u x hu hx => ?_⟩
    · cases i <;> simp at hx; subst hx; exact h1
    · cases i <;> simp at hx hu; subst hx; subst hu; exact hv
end

section
variable {P : Program} {vs : List Nat} {n : Nat} {G : Gh} {r : RS} {a : Act} {w : World} (hr : RRel vs n G r a w) (hi : HeapInv G r.h w) {o : Oper}
include hr hi

theorem op_move {x : Operand} (ho : o.op = .move x ∨ o.op = .assign x) {y : VArg} (hx : okArg vs x y = true) {v : VVal} (hl : r.look y = some v) : OpWp P G r.h w a o v [] := by
  refine opWp_silent (c := a.eval x) ?_ hi (look_rel hr hx hl)
  rcases ho with ho | ho <;> simp [execOp, ho]

theorem op_pick {c x y : Operand} (ho : o.op = .pick c x y) {c' x' y' : VArg} (hc : okArg vs c c' = true) (hx : okArg vs x x' = true) (hy : okArg vs y y' = true) {b : Bool} {v : VVal}
    (hlc : r.look c' = some (.p (.bool b))) (hlv : (if b then r.look x' else r.look y') = some v) : OpWp P G r.h w a o v [] := by
  have h1 := vrel_bool (look_rel hr hc hlc)
  cases b with
  | true =>
    refine opWp_silent (c := a.eval x) ?_ hi (look_rel hr hx (by simpa using hlv))
    simp [execOp, ho, h1, asBool]
  | false =>
    refine opWp_silent (c := a.eval y) ?_ hi (look_rel hr hy (by simpa using hlv))
    simp [execOp, ho, h1, asBool]

theorem op_fieldAddr {t : TypeId} {x : Operand} {f : Nat} (ho : o.op = .fieldAddr t x f) {y : VArg} (hx : okArg vs x y = true) {fs : Array Field} {fl : Field} {inf : TypeInfo} (hu : P.underlying t = some (.struct fs)) (hf : fs[f]? = some fl)
    (hinf : P.info? fl.type = some inf) (hsz : inf.size ≠ 0) {p v : VVal} (hl : r.look y = some p)
    (hv : (match p with
      | .ptr id ver o => some (.ptr id ver (o + fl.offset), ([] : List (Id × Nat × Ob)))
      | .vptr cs o => some (.vptr cs (o + fl.offset), [])
      | .eptr id ver i o => some (.eptr id ver i (o + fl.offset), [])
      | _ => none) = some (v, [])) : OpWp P G r.h w a o v [] := by
  have h1 := look_rel hr hx hl
  have key : ∀ ad, a.eval x = .pointer (some ad) → (execOp a.eval o).run P w = .ok (.value (.pointer (some (ad.add fl.offset)))) w := by
    intro ad had
    simp [execOp, ho, Instr.fieldAt, run_underlying hu, hf, Instr.sureAddr, had, fieldPlace, sizeOf, typeInfo, hinf, hsz]
  generalize hcp : a.eval x = cp at h1 key
  cases h1 <;> simp at hv
  case ptr id ver off ad v' o' hh hle hoo =>
    subst hv
    refine opWp_silent (c := .pointer (some (ad.add fl.offset))) (key _ rfl) hi (.ptr hh hle fun e => ?_)
    rw [hoo e, add_lit]
  case vptr cs off ad0 ad val ha hfz hb h1' hc hr' =>
    subst hv
    refine opWp_silent (c := .pointer (some (ad0.add fl.offset))) (key _ rfl) hi (.vptr ad val ?_ hfz hb h1' hc hr')
    rw [ha, add_add]
  case eptr id ver i off ad v' o' hh hle hoo =>
    subst hv
    refine opWp_silent (c := .pointer (some (ad.add fl.offset))) (key _ rfl) hi (.eptr hh hle fun e => ?_)
    obtain ⟨sz, xs, h1, h2, h3⟩ := hoo e
    refine ⟨sz, xs, h1, h2, ?_⟩
    rw [h3, add_lit, Nat.add_assoc]

theorem op_field {t : TypeId} {x : Operand} {f : Nat} (ho : o.op = .field t x f) {y : VArg} (hx : okArg vs x y = true) {fs : Array Field} {fl : Field} (hu : P.underlying t = some (.struct fs)) (hf : fs[f]? = some fl)
    {agg : Option Nat} (hagg : aggIs P fl.type agg = true) {cs : List VVal} {v : VVal} (hl : r.look y = some (.agg cs)) (hv : ofCells agg cs fl.offset = some v) : OpWp P G r.h w a o v [] := by
  have h1 := look_rel hr hx hl
  generalize hcp : a.eval x = cp at h1
  cases h1 with
  | @agg _ arr hlen hone hrel =>
    cases agg with
    | none =>
      simp only [ofCells] at hv
      simp only [aggIs, beq_iff_eq] at hagg
      have hlt : fl.offset < arr.size := by rw [← hlen]; exact (List.getElem?_eq_some_iff.1 hv).1
      have hg : arr[fl.offset]? = some arr[fl.offset] := Array.getElem?_eq_getElem hlt
      refine opWp_silent (c := arr[fl.offset]) ?_ hi (hrel _ _ _ hv hg)
      simp [execOp, ho, Instr.field, run_underlying hu, hf, hcp, asAgg, part, run_isAgg hagg, hg]
    | some m =>
      simp only [ofCells] at hv
      obtain ⟨hle, hv⟩ := gd_eq hv
      simp at hv
      subst hv
      simp only [aggIs, Bool.and_eq_true, beq_iff_eq] at hagg
      refine opWp_silent (c := .agg (arr.extract fl.offset (fl.offset + m))) ?_ hi (.agg ?_ ?_ ?_)
      · simp [execOp, ho, Instr.field, run_underlying hu, hf, hcp, asAgg, part, run_isAgg hagg.1, run_sizeOf hagg.2]
      · simp; omega
      · intro i c hc
        rw [Array.getElem?_extract] at hc
        split at hc
        · exact hone _ _ hc
        · cases hc
      · intro i u c hu' hc
        rw [Array.getElem?_extract] at hc
        rw [List.getElem?_take] at hu'
        split at hc
        · split at hu'
          · rw [List.getElem?_drop] at hu'
            exact hrel _ _ _ hu' hc
          · cases hu'
        · cases hc

theorem op_not {t : TypeId} {x : Operand} (ho : o.op = .unOp .not t x) {y : VArg} (hx : okArg vs x y = true) {b : Bool} (hl : r.look y = some (.p (.bool b))) : OpWp P G r.h w a o (.p (.bool (!b))) [] := by
  have h1 := vrel_bool (look_rel hr hx hl)
  refine opWp_silent (c := .bool (!b)) ?_ hi (vrel_mkBool _)
  simp [execOp, ho, h1, Op.unary]

theorem op_neg {t : TypeId} {x : Operand} (ho : o.op = .unOp .neg t x) {y : VArg} (hx : okArg vs x y = true) {k : IntKind} {m : Int} (hl : r.look y = some (.p (.int k m))) : OpWp P G r.h w a o (.p (.int k (k.wrap (0 - m)))) [] := by
  have h1 := vrel_int (look_rel hr hx hl)
  refine opWp_silent (c := .int k (k.wrap (0 - m))) ?_ hi (vrel_mkInt _ _)
  simp [execOp, ho, h1, Op.unary, Op.intArith]

theorem op_conv {s t : TypeId} {x : Operand} (ho : o.op = .convert s t x) {y : VArg} (hx : okArg vs x y = true) {k0 k : IntKind} (hs : P.underlying s = some (.int k0)) (ht : P.underlying t = some (.int k)) {k1 : IntKind} {m : Int} (hl : r.look y = some (.p (.int k1 m))) :
    OpWp P G r.h w a o (.p (.int k (k.wrap m))) [] := by
  have h1 := vrel_int (look_rel hr hx hl)
  refine opWp_silent (c := .int k (k.wrap m)) ?_ hi (vrel_mkInt _ _)
  simp [execOp, ho, h1, convert, run_underlying hs, run_underlying ht, Conv.intToInt]

theorem op_extract {x : Operand} {i : Nat} (ho : o.op = .extract x i) {y : VArg} (hx : okArg vs x y = true) {us : List VVal} {v : VVal} (hl : r.look y = some (.tup us)) (hv : us[i]? = some v) : OpWp P G r.h w a o v [] := by
  have h1 := look_rel hr hx hl
  generalize hcp : a.eval x = cp at h1
  cases h1 with
  | @tup _ arr hlen hrel =>
    have hlt : i < arr.size := by rw [← hlen]; exact (List.getElem?_eq_some_iff.1 hv).1
    have hg : arr[i]? = some arr[i] := Array.getElem?_eq_getElem hlt
    refine opWp_silent (c := arr[i]) ?_ hi (hrel _ _ _ hv hg)
    simp [execOp, ho, Instr.extract, hcp, hg]

end

theorem vlen_slice {G : Gh} {h : VHeap} {w : World} {v : VVal} {c : Value} {m : Nat} (h1 : VRel G h w v c) (hm : vlen v = some m) : ∃ ad cap, c = .slice ad m cap ∧ m ≤ cap := by
  cases h1 <;> simp [vlen] at hm
  case p d hp h1' =>
    cases hp <;> simp at hm
    rename_i hn hcap _ _ _ _ _
    subst hm
    exact ⟨_, _, by rw [hn], by omega⟩
  case own hn hcap _ _ _ =>
    subst hm
    exact ⟨_, _, by rw [hn], by omega⟩

section
variable {P : Program} {vs : List Nat} {n : Nat} {G : Gh} {r : RS} {a : Act} {w : World} (hr : RRel vs n G r a w) (hi : HeapInv G r.h w) {o : Oper}
include hr hi

theorem op_len {xs : Array Operand} {ts : Array TypeId} (ho : o.op = .call { callee := .builtin .len, args := xs, argTypes := ts }) {x : Operand} {t e : TypeId} (hxs : xs.toList = [x]) (hts : ts.toList = [t]) {y : VArg} (hx : okArg vs x y = true)
    (hu : P.underlying t = some (.slice e)) {v : VVal} {m : Nat} (hl : r.look y = some v) (hm : vlen v = some m) : OpWp P G r.h w a o (.p (.int .i64 m)) [] := by
  have h1 := look_rel hr hx hl
  obtain rfl : xs = #[x] := by rw [← Array.toList_inj]; simpa using hxs
  obtain rfl : ts = #[t] := by rw [← Array.toList_inj]; simpa using hts
  refine opWp_silent (c := .int .i64 m) ?_ hi (vrel_mkInt _ _)
  obtain ⟨ad, cap, hcp, _⟩ := vlen_slice h1 hm
  simp [execOp, ho, resolve, invoke, builtin, Builtin.len_, hcp, run_underlying hu, goInt]

theorem op_lenStr {xs : Array Operand} {ts : Array TypeId} (ho : o.op = .call { callee := .builtin .len, args := xs, argTypes := ts }) {x : Operand} {t : TypeId} (hxs : xs.toList = [x]) (hts : ts.toList = [t]) {y : VArg} (hx : okArg vs x y = true)
    (hu : P.underlying t = some .string) {s : ByteArray} (hl : r.look y = some (.p (.str s))) : OpWp P G r.h w a o (.p (.int .i64 s.size)) [] := by
  have h1 := vrel_str (look_rel hr hx hl)
  obtain rfl : xs = #[x] := by rw [← Array.toList_inj]; simpa using hxs
  obtain rfl : ts = #[t] := by rw [← Array.toList_inj]; simpa using hts
  refine opWp_silent (c := .int .i64 s.size) ?_ hi (vrel_mkInt _ _)
  simp [execOp, ho, resolve, invoke, builtin, Builtin.len_, h1, run_underlying hu, goInt]

theorem op_indexStr {t : TypeId} {x i : Operand} (ho : o.op = .index t x i) {y z : VArg} (hx : okArg vs x y = true) (hz : okArg vs i z = true) (hu : P.underlying t = some .string) {s : ByteArray} {k : IntKind} {m : Int} {b : UInt8}
    (hl : r.look y = some (.p (.str s))) (hl' : r.look z = some (.p (.int k m))) (h0 : 0 ≤ m) (hb : s[m.toNat]? = some b) : OpWp P G r.h w a o (.p (.int .u8 b.toNat)) [] := by
  have h1 := vrel_str (look_rel hr hx hl)
  have h2 := vrel_int (look_rel hr hz hl')
  refine opWp_silent (c := .int .u8 b.toNat) ?_ hi (vrel_mkInt _ _)
  simp [execOp, ho, Instr.index, h1, h2, asIntOf, run_underlying hu, h0, hb]

theorem op_nilCheck {x : Operand} (ho : o.op = .nilCheck x) {y : VArg} (hx : okArg vs x y = true) {v : VVal} (hl : r.look y = some v)
    (hv : (match v with | .ptr _ _ _ => true | .vptr _ _ => true | .eptr _ _ _ _ => true | .fn _ _ => true | _ => false) = true) : OpWp P G r.h w a o v [] := by
  have h1 := look_rel hr hx hl
  refine opWp_silent (c := a.eval x) ?_ hi h1
  generalize hcp : a.eval x = cp at h1
  cases h1 <;> simp at hv <;> simp [execOp, ho, hcp]

theorem op_makeFunc {f : FuncId} {first caps : Array Operand} (ho : o.op = .makeFunc (.func f) first caps) (hf : first = #[]) {ys : List VArg} (hx : okArgs vs caps.toList ys = true) {us : List VVal} (hl : mapO r.look ys = some us) : OpWp P G r.h w a o (.fn f us) [] := by
  obtain ⟨h1, h2⟩ := looks_rel hr hx hl
  subst hf
  refine opWp_silent (c := .func (.func f) #[] (caps.map a.eval)) ?_ hi (.fn (by simp [h1]) fun i u c hu hc => h2 i u c hu ?_)
  · simp [execOp, ho, Instr.makeFunc]
  · rw [← hc]
    simp

theorem op_bin_int {op : BinOp} {t t' : TypeId} {x y : Operand} (ho : o.op = .binOp op t x y t') (hb : bop op = true) {x' y' : VArg} (hx : okArg vs x x' = true) (hy : okArg vs y y' = true) {k : IntKind} {m m' : Int} {v : VVal}
    (hl : r.look x' = some (.p (.int k m))) (hl' : r.look y' = some (.p (.int k m'))) (hv : ibin k m m' op = some v) : OpWp P G r.h w a o v [] := by
  have h1 := vrel_int (look_rel hr hx hl)
  have h2 := vrel_int (look_rel hr hy hl')
  have key : ∃ c, VRel G r.h w v c ∧ (binOp op t (.int k m) (.int k m')).run P w = .ok c w := by
    cases op <;> simp [bop] at hb <;> simp only [ibin] at hv <;>
      first
      | (obtain ⟨h0, hv⟩ := gd_eq hv; simp at hv; subst hv; exact ⟨_, vrel_mkInt _ _, by simp [binOp, Op.intDiv, h0]⟩)
      | (simp at hv; subst hv; exact ⟨_, vrel_mkInt _ _, by simp [binOp, Op.intArith, Op.intBits]⟩)
      | (simp at hv; subst hv; exact ⟨_, vrel_mkBool _, by simp [binOp, Op.intCmp]⟩)
  obtain ⟨c, hc, hrun⟩ := key
  refine opWp_silent (c := c) ?_ hi hc
  simp [execOp, ho, h1, h2, eqGuard, hrun]

theorem op_bin_str {op : BinOp} {t t' : TypeId} {x y : Operand} (ho : o.op = .binOp op t x y t') {x' y' : VArg} (hx : okArg vs x x' = true) (hy : okArg vs y y' = true) {m m' : ByteArray} {v : VVal}
    (hl : r.look x' = some (.p (.str m))) (hl' : r.look y' = some (.p (.str m'))) (hv : sbin m m' op = some v) : OpWp P G r.h w a o v [] := by
  have h1 := vrel_str (look_rel hr hx hl)
  have h2 := vrel_str (look_rel hr hy hl')
  have heq : (m.toList == m'.toList) = decide (m = m') := by
    rw [Bool.eq_iff_iff]
    simp only [beq_iff_eq, decide_eq_true_eq]
    rw [ByteArray.toList_eq, ByteArray.toList_eq]
    exact ⟨fun h => WideShapes.bytes_inj h, fun h => by rw [h]⟩
  have key : ∃ c, VRel G r.h w v c ∧ (binOp op t (.string m) (.string m')).run P w = .ok c w := by
    cases op <;> simp only [sbin] at hv <;> try (cases hv; done)
    · obtain ⟨h0, hv⟩ := gd_eq hv
      simp at hv
      subst hv
      refine ⟨_, vrel_mkStr _, ?_⟩
      have h3 : ¬ ((m.size + m'.size : Nat) : Int) > IntKind.i64.max := by
        have : IntKind.i64.max = 9223372036854775807 := by decide
        rw [this]
        omega
      simp only [binOp, Op.stringOp, h3, if_false, Sem.run_pure]
    · simp at hv; subst hv; exact ⟨_, vrel_mkBool _, by simp only [binOp, Op.stringOp, heq, Sem.run_pure]⟩
    · simp at hv; subst hv; exact ⟨_, vrel_mkBool _, by simp only [binOp, Op.stringOp, heq, Sem.run_pure]⟩
  obtain ⟨c, hc, hrun⟩ := key
  refine opWp_silent (c := c) ?_ hi hc
  simp [execOp, ho, h1, h2, eqGuard, hrun]

theorem op_eqB {op : BinOp} {t t' : TypeId} {x y : Operand} (ho : o.op = .binOp op t x y t') {neg : Bool} (hop : op = .eql ∧ neg = false ∨ op = .neq ∧ neg = true) (hu : P.underlying t = some .bool) {x' y' : VArg} (hx : okArg vs x x' = true) (hy : okArg vs y y' = true) {m m' : Bool}
    (hl : r.look x' = some (.p (.bool m))) (hl' : r.look y' = some (.p (.bool m'))) : OpWp P G r.h w a o (.p (.bool (if neg then !(m == m') else m == m'))) [] := by
  have h1 := vrel_bool (look_rel hr hx hl)
  have h2 := vrel_bool (look_rel hr hy hl')
  refine opWp_silent (c := .bool (if neg then !(m == m') else m == m')) ?_ hi (vrel_mkBool _)
  rcases hop with ⟨rfl, rfl⟩ | ⟨rfl, rfl⟩ <;> simp [execOp, ho, h1, h2, eqGuard, binOp, run_equal_bool w t m m' hu]

theorem op_minmax {isMax : Bool} {xs : Array Operand} {ts : Array TypeId} (ho : o.op = .call { callee := .builtin (if isMax then .max else .min), args := xs, argTypes := ts }) {ys : List VArg} (hx : okArgs vs xs.toList ys = true) {us : List VVal} {v : VVal}
    (hl : mapO r.look ys = some us) (hv : minmaxI isMax us = some v) : OpWp P G r.h w a o v [] := by
  obtain ⟨h1, h2⟩ := looks_rel hr hx hl
  have key : ∀ (us : List VVal) (cs : List Value) (u : VVal) (c : Value), VRel G r.h w u c → us.length = cs.length → (∀ (i : Nat) (u : VVal) (c : Value), us[i]? = some u → cs[i]? = some c → VRel G r.h w u c) → ∀ v, mmL isMax u us = some v →
      ∃ c', VRel G r.h w v c' ∧ (cs.foldlM (if isMax then Builtin.max2 else Builtin.min2) c).run P w = .ok c' w := by
    intro us
    induction us with
    | nil =>
      intro cs u c hu hlen _ v hv
      have : cs = [] := List.eq_nil_of_length_eq_zero (by simpa using hlen.symm)
      subst this
      simp [mmL] at hv
      subst hv
      exact ⟨c, hu, by simp⟩
    | cons u1 us ih =>
      intro cs u c hu hlen hall v hv
      cases cs with
      | nil => simp at hlen
      | cons c1 cs =>
        simp only [mmL] at hv
        obtain ⟨u2, hm, hv⟩ := ob_eq hv
        have hu1 := hall 0 u1 c1 rfl rfl
        unfold mm2 at hm
        split at hm
        · rename_i k m k' m'
          obtain ⟨rfl, hm2⟩ := gd_eq hm
          simp at hm2
          subst hm2
          have e1 := vrel_int hu
          have e2 := vrel_int hu1
          subst e1
          subst e2
          obtain ⟨c', hc', hrun⟩ := ih cs _ _ (vrel_mkInt k (if isMax then max m m' else min m m')) (by simpa using hlen) (fun i u c hi hc => hall (i + 1) u c (by simpa using hi) (by simpa using hc)) v hv
          refine ⟨c', hc', ?_⟩
          cases isMax with
          | true =>
            simp only [if_true] at hrun ⊢
            have : (if m' > m then m' else m) = max m m' := by rw [Int.max_def]; split <;> split <;> omega
            simp [List.foldlM_cons, Builtin.max2, this, hrun]
          | false =>
            simp only [Bool.false_eq_true, if_false] at hrun ⊢
            have : (if m' < m then m' else m) = min m m' := by rw [Int.min_def]; split <;> split <;> omega
            simp [List.foldlM_cons, Builtin.min2, this, hrun]
        · cases hm
  cases us with
  | nil => simp [minmaxI] at hv
  | cons u us =>
    have hxs : ∃ x xs', xs.toList = x :: xs' := by
      cases hxl : xs.toList with
      | nil => rw [hxl] at h1; simp at h1
      | cons x xs' => exact ⟨x, xs', rfl⟩
    obtain ⟨x, xs', hxl⟩ := hxs
    rw [hxl] at h1 h2
    obtain ⟨c', hc', hrun⟩ := key us (xs'.map a.eval) u (a.eval x) (h2 0 u _ rfl (by simp)) (by simpa using h1) (fun i u c hi hc => h2 (i + 1) u c (by simpa using hi) (by simpa using hc)) v hv
    refine opWp_silent (c := c') ?_ hi hc'
    have hml : (xs.map a.eval).toList = a.eval x :: xs'.map a.eval := by simp [hxl]
    cases isMax with
    | true =>
      simp only [if_true] at ho hrun
      simp [execOp, ho, resolve, invoke, builtin, Builtin.max_, hxl, hrun]
    | false =>
      simp only [Bool.false_eq_true, if_false] at ho hrun
      simp [execOp, ho, resolve, invoke, builtin, Builtin.min_, hxl, hrun]
end

end Go.V
