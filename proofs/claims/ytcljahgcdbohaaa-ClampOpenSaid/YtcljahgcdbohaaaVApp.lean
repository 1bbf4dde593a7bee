/- The value machine V against the model: append. -/
import Derived.Test.YtcljahgcdbohaaaVOpsF
set_option linter.unusedSimpArgs false
set_option linter.unusedVariables false
namespace Go.V
open Go.RowKit

/-- The cells of a slice's elements, in a row. -/
structure RowOf (fz : Nat → Prop) (w : World) (sz : Nat) (ys : List PV) (ad : Option Addr) (news : List Value) : Prop where
  len : news.length = ys.length * sz
  cs : ∀ y ∈ ys, y.cells.length = sz
  at_ : 0 < ys.length → ∃ a, ad = some a ∧ ∀ (j : Nat) (u : Value), news[j]? = some u → w.cell? (a.add j) = some u
  one : ∀ u ∈ news, u.oneCell' = true
  rel : ∀ (i : Nat) (y : PV) (j : Nat) (c : PV), ys[i]? = some y → y.cells[j]? = some c → ∃ u, news[i * sz + j]? = some u ∧ PRel fz w c u

theorem div_lt_mul {k n sz : Nat} (h : k < n * sz) : k / sz < n ∧ k % sz < sz := by
  have hp : 0 < sz := by rcases Nat.eq_zero_or_pos sz with h0 | h0; · subst h0; simp at h
                         · exact h0
  exact ⟨Nat.div_lt_of_lt_mul (by rw [Nat.mul_comm]; exact h), Nat.mod_lt _ hp⟩
theorem mul_add_div' {i j sz : Nat} (h : j < sz) : (i * sz + j) / sz = i ∧ (i * sz + j) % sz = j := by
  have hp : 0 < sz := by omega
  refine ⟨?_, ?_⟩
  · rw [Nat.mul_comm, Nat.mul_add_div hp, Nat.div_eq_of_lt h, Nat.add_zero]
  · rw [Nat.mul_comm, Nat.mul_add_mod, Nat.mod_eq_of_lt h]
theorem mul_add_lt {i j n sz : Nat} (hi : i < n) (hj : j < sz) : i * sz + j < n * sz := by
  have := Nat.mul_le_mul_right sz (show i + 1 ≤ n from hi)
  rw [Nat.add_mul] at this
  omega

theorem elems_row {G : Gh} {h : VHeap} {w : World} (hi : HeapInv G h w) {x : VVal} {c : Value} (hx : VRel G h w x c) {sz : Nat} {ys : List PV} (hv : velems h x = some (sz, ys)) :
    ∃ ad cap news, c = .slice ad ys.length cap ∧ RowOf (fun b => G.kind b = .frozen) w sz ys ad news := by
  cases hx with
  | @p d c hp h1 =>
    cases hp with
    | @slice sz' xs a n cap ad val hn hcap ha hsz h1' hc hrel =>
      simp only [velems] at hv
      simp at hv
      obtain ⟨rfl, rfl⟩ := hv
      subst hn
      refine ⟨a, cap, (List.range (xs.length * sz')).map fun k => val (k / sz') (k % sz'), rfl, by simp, hsz, fun h0 => ?_, fun u hu => ?_, fun i y j cc hy hj => ?_⟩
      · obtain ⟨e1, e2, e3⟩ := ha h0
        refine ⟨ad, e1, fun k u hu => ?_⟩
        simp only [List.getElem?_map, Option.map_eq_some_iff] at hu
        obtain ⟨k', hk', rfl⟩ := hu
        have hklt : k < xs.length * sz' := by have := (List.getElem?_eq_some_iff.1 hk').1; simpa using this
        rw [List.getElem?_range hklt] at hk'
        simp at hk'
        subst hk'
        obtain ⟨h2, h3⟩ := div_lt_mul hklt
        have hy : xs[k / sz']? = some xs[k / sz'] := List.getElem?_eq_getElem h2
        have hlen := hsz _ (List.getElem_mem h2)
        have hcc : (xs[k / sz']).cells[k % sz']? = some ((xs[k / sz']).cells[k % sz']'(by omega)) := List.getElem?_eq_getElem (by omega)
        have := hc _ _ _ _ hy hcc
        rw [← this]
        congr 2
        rw [Nat.mul_comm]
        exact (Nat.div_add_mod k sz').symm
      · simp only [List.mem_map, List.mem_range] at hu
        obtain ⟨k, hk, rfl⟩ := hu
        obtain ⟨h2, h3⟩ := div_lt_mul hk
        have hlen := hsz _ (List.getElem_mem h2)
        exact h1' _ _ _ _ (List.getElem?_eq_getElem h2) (List.getElem?_eq_getElem (by omega))
      · have hjlt : j < sz' := by rw [← hsz y (List.mem_of_getElem? hy)]; exact (List.getElem?_eq_some_iff.1 hj).1
        have hilt : i < xs.length := (List.getElem?_eq_some_iff.1 hy).1
        refine ⟨val i j, ?_, hrel i y j cc hy hj⟩
        obtain ⟨e1, e2⟩ := mul_add_div' (i := i) hjlt
        rw [List.getElem?_map, List.getElem?_range (mul_add_lt hilt hjlt)]
        simp [e1, e2]
    | _ => simp [velems] at hv
  | @own id ver off len a n cap v o hn hcap hh hle hoo =>
    simp only [velems, hh] at hv
    cases o with
    | arr sz' xs =>
      simp only at hv
      obtain ⟨rfl, hv2⟩ := gd_eq hv
      simp at hv2
      obtain ⟨rfl, rfl⟩ := hv2
      obtain ⟨sz2, xs2, he, hlen, hreal⟩ := hoo rfl
      simp at he
      obtain ⟨rfl, rfl⟩ := he
      obtain ⟨hcs, _, hall⟩ := hi _ _ _ hh
      have hyl : ((xs.drop off).take len).length = len := by simp; omega
      subst hn
      by_cases h0 : n = 0
      · subst h0
        exact ⟨a, cap, [], by simp, by simp, by simp, fun h => by simp at h, by simp, fun i y j cc hy => by simp at hy⟩
      · rcases hreal with ⟨hc0, _⟩ | ⟨hm, hce, ha⟩
        · omega
        · obtain ⟨hxc, arr, t, hb, has, hcell⟩ := hall hm
          have hln : ∀ k, k < n * sz' → off * sz' + k < arr.size := fun k hk => by
            rw [has]
            have : (off + n) * sz' ≤ G.cap id * sz' := Nat.mul_le_mul_right _ (by omega)
            rw [Nat.add_mul] at this
            omega
          have hgk : ∀ (i : Nat) (y : PV) (j : Nat) (cc : PV), ((xs.drop off).take n)[i]? = some y → y.cells[j]? = some cc → xs[off + i]? = some y ∧ i < n := fun i y j cc hy _ => by
            rw [List.getElem?_take] at hy
            split at hy
            · rw [List.getElem?_drop] at hy; exact ⟨hy, by assumption⟩
            · cases hy
          refine ⟨a, cap, (List.range (n * sz')).map fun k => arr.getD (off * sz' + k) Go.undef, by rw [hyl], by simp [hyl], fun y hy => hcs y (List.mem_of_mem_drop (List.mem_of_mem_take hy)), fun _ => ⟨⟨G.blk id, off * sz', none⟩, ha (by omega), fun k u hu => ?_⟩, fun u hu => ?_, fun i y j cc hy hj => ?_⟩
          · simp only [List.getElem?_map, Option.map_eq_some_iff] at hu
            obtain ⟨k', hk', rfl⟩ := hu
            have hklt : k < n * sz' := by have := (List.getElem?_eq_some_iff.1 hk').1; simpa using this
            rw [List.getElem?_range hklt] at hk'
            simp at hk'
            subst hk'
            have := hln k hklt
            rw [add_lit, cell_block hb, Array.getElem?_eq_getElem this]
            simp [Array.getD, this]
          · simp only [List.mem_map, List.mem_range] at hu
            obtain ⟨k, hk, rfl⟩ := hu
            obtain ⟨h2, h3⟩ := div_lt_mul hk
            have hxlt : off + k / sz' < xs.length := by omega
            have hlen' := hcs _ (List.getElem_mem hxlt)
            obtain ⟨u, e1, e2, _⟩ := hcell (off + k / sz') _ (k % sz') _ (List.getElem?_eq_getElem hxlt) (List.getElem?_eq_getElem (by omega))
            have he : (off + k / sz') * sz' + k % sz' = off * sz' + k := by
              rw [Nat.add_mul, Nat.add_assoc, Nat.mul_comm (k / sz') sz', Nat.div_add_mod]
            rw [he] at e1
            have hlt := hln k hk
            rw [Array.getElem?_eq_getElem hlt] at e1
            simp at e1
            simp [Array.getD, hlt, e1, e2]
          · obtain ⟨hy', hin⟩ := hgk i y j cc hy hj
            have hjlt : j < sz' := by rw [← hcs y (List.mem_of_getElem? hy')]; exact (List.getElem?_eq_some_iff.1 hj).1
            obtain ⟨u, e1, e2, e3⟩ := hcell (off + i) y j cc hy' hj
            have he : (off + i) * sz' + j = off * sz' + (i * sz' + j) := by rw [Nat.add_mul, Nat.add_assoc]
            rw [he] at e1
            refine ⟨u, ?_, e3⟩
            have hlt := hln _ (mul_add_lt hin hjlt)
            rw [Array.getElem?_eq_getElem hlt] at e1
            simp at e1
            rw [List.getElem?_map, List.getElem?_range (mul_add_lt hin hjlt)]
            simp [Array.getD, hlt, e1]
    | _ => simp at hv
  | _ => simp [velems] at hv

/-! ### the model's append -/

section
variable {P : Program} (w : World)

theorem run_append_none (t ty e : TypeId) (i : TypeInfo) (ht : P.underlying t = some (.slice e)) (hi : P.info? e = some i) (b : Option Addr) (n cap : Nat) (hle : n ≤ cap) (ad : Option Addr) (c : Nat) :
    (Builtin.append_ #[t, t] ty #[.slice b n cap, .slice ad 0 c]).run P w = .ok (.slice b n cap) w := by
  cases ad <;> cases b <;> simp [Builtin.append_, run_underlying ht, sizeOf, typeInfo, hi, Builtin.lenOf, Builtin.firstCells, hle, storeCells, loadCells, loadCellsFrom]

theorem run_append_in (t ty e te : TypeId) (i : TypeInfo) (ht : P.underlying t = some (.slice e)) (hi : P.info? e = some i)
    (g sLen sCap : Nat) (cur : Array Value) (hg : w.heap[g]? = some (.cells cur te (0, 0)))
    (a : Addr) (m c : Nat) (news : List Value) (hl : news.length = m * i.size) (hnews : ∀ j u, news[j]? = some u → w.cell? (a.add j) = some u) (h1 : ∀ u ∈ news, u.oneCell' = true)
    (hroom : sLen + m ≤ sCap) (hfit : sLen * i.size + news.length ≤ cur.size) :
    (Builtin.append_ #[t, t] ty #[.slice (some ⟨g, 0, none⟩) sLen sCap, .slice (some a) m c]).run P w =
      .ok (.slice (some ⟨g, 0, none⟩) (sLen + m) sCap) (w.setRow g (splice cur.toList (sLen * i.size) news).toArray) := by
  have hf := run_firstCells_some (P := P) w i.size m a m c news hl hnews
  have hst := run_storeCells_at P g (sLen * i.size) te news 0 cur w hg (by simpa using hfit) h1
  simp only [Nat.add_zero] at hst
  simp [Builtin.append_, run_underlying ht, sizeOf, typeInfo, hi, Builtin.lenOf, hroom, hf, Addr.add_lit, hst, splice]
end

/-- A new version of an array in its own block. -/
theorem Step.bump {G : Gh} {h : VHeap} {w w' : World} (id : Id) {v : Nat} {o o' : Ob} (hh : h id = some (v, o)) (hsz : w.heap.size = w'.heap.size) (hblk : ∀ b, (G.kind b = .mine id → b ≠ G.blk id) → w'.heap[b]? = w.heap[b]?)
    (hos : w'.os = w.os) (htp : w'.tape = w.tape) (hout : w'.output = w.output) : Step G h w G (h.upd id (v + 1, o')) w' where
  frozen := fun b hb _ => ⟨hb, hblk b (fun e => by rw [e] at hb; cases hb)⟩
  other := fun b hb _ => ⟨hb, hblk b (fun e => by rw [e] at hb; cases hb)⟩
  mine := fun _ _ _ h => h
  frz := fun _ _ h => .inl h
  size := by omega
  os := hos
  tape := htp
  output := hout
  vers := fun i v' o2 hi => by
    by_cases he : i = id
    · subst he
      rw [hh] at hi
      simp at hi
      obtain ⟨rfl, rfl⟩ := hi
      exact ⟨v + 1, o', upd_same _ _ _, by omega, fun e => by omega⟩
    · exact ⟨v', o2, by rw [upd_other _ _ he]; exact hi, Nat.le_refl _, fun _ => ⟨rfl, rfl, by cases o2 <;> simp [SameOb], fun _ _ _ h => h⟩⟩

theorem HeapInv.bump {G : Gh} {h : VHeap} {w w' : World} (hinv : HeapInv G h w) (id : Id) {v : Nat} {o' : Ob} (hst : Step G h w G (h.upd id (v + 1, o')) w') (hblk : ∀ b, (G.kind b = .mine id → b ≠ G.blk id) → w'.heap[b]? = w.heap[b]?)
    (hnew : OBRel G (h.upd id (v + 1, o')) w' id o') : HeapInv G (h.upd id (v + 1, o')) w' := by
  intro i v' o2 hi
  by_cases he : i = id
  · subst he
    rw [upd_same] at hi
    simp at hi
    obtain ⟨_, rfl⟩ := hi
    exact hnew
  · rw [upd_other _ _ he] at hi
    refine OBRel.keep hst (hinv i v' o2 hi) rfl rfl (fun hm' => ⟨hm', hblk _ (fun e => ?_)⟩) (fun h => h)
    rw [hm'] at e
    simp at e
    exact absurd e he

/-- The elements of an array, one behind the other. -/
theorem row_append {fz : Nat → Prop} {w : World} {sz cap len : Nat} {xs ys : List PV} {arr N : Array Value} {news : List Value} (hlen : len ≤ xs.length) (has : arr.size = cap * sz) (hfit : len + ys.length ≤ cap)
    (hcs : ∀ x ∈ xs, x.cells.length = sz) (hcell : ∀ (i : Nat) (x : PV) (j : Nat) (c : PV), xs[i]? = some x → x.cells[j]? = some c → ∃ v, arr[i * sz + j]? = some v ∧ v.oneCell' = true ∧ PRel fz w c v)
    {ad : Option Addr} (hrow : RowOf fz w sz ys ad news) (hN : N = (splice arr.toList (len * sz) news).toArray) :
    N.size = cap * sz ∧ ∀ (i : Nat) (x : PV) (j : Nat) (c : PV), (xs.take len ++ ys)[i]? = some x → x.cells[j]? = some c → ∃ v, N[i * sz + j]? = some v ∧ v.oneCell' = true ∧ PRel fz w c v := by
  have hsp : len * sz + news.length ≤ arr.toList.length := by
    have hal : arr.toList.length = arr.size := by simp
    rw [hal, hrow.len, ← Nat.add_mul, has]
    exact Nat.mul_le_mul_right _ hfit
  have hNg : ∀ k : Nat, N[k]? = if len * sz ≤ k ∧ k < len * sz + news.length then news[k - len * sz]? else arr[k]? := fun k => by
    rw [hN, List.getElem?_toArray, splice_get _ _ _ hsp, Array.getElem?_toList (xs := arr)]
  refine ⟨by rw [hN, List.size_toArray, splice_length _ _ _ hsp, Array.length_toList, has], fun i x j c hx hj => ?_⟩
  have htl : (xs.take len).length = len := by simp; omega
  by_cases hil : i < len
  · rw [List.getElem?_append_left (by omega), List.getElem?_take_of_lt hil] at hx
    obtain ⟨v, e1, e2, e3⟩ := hcell i x j c hx hj
    have hjlt : j < sz := by rw [← hcs x (List.mem_of_getElem? hx)]; exact (List.getElem?_eq_some_iff.1 hj).1
    have := mul_add_lt (n := len) hil hjlt
    exact ⟨v, by rw [hNg, if_neg (by omega)]; exact e1, e2, e3⟩
  · rw [List.getElem?_append_right (by omega), htl] at hx
    obtain ⟨u, e1, e2⟩ := hrow.rel (i - len) x j c hx hj
    have hjlt : j < sz := by rw [← hrow.cs x (List.mem_of_getElem? hx)]; exact (List.getElem?_eq_some_iff.1 hj).1
    have hilt : i - len < ys.length := (List.getElem?_eq_some_iff.1 hx).1
    have h3 := mul_add_lt hilt hjlt
    have he : i * sz + j = len * sz + ((i - len) * sz + j) := by
      rw [← Nat.add_assoc, ← Nat.add_mul]
      congr 2
      omega
    have hnl := hrow.len
    refine ⟨u, ?_, hrow.one u (List.mem_of_getElem? e1), e2⟩
    rw [he, hNg, if_pos (by omega), ← e1]
    congr 1
    omega

/-- The elements of a new block. -/
theorem row_new {fz : Nat → Prop} {w : World} {sz : Nat} {xs ys : List PV} {olds news : List Value} {zs : Array Value} (hol : olds.length = xs.length * sz)
    (hold : ∀ (i : Nat) (x : PV) (j : Nat) (c : PV), xs[i]? = some x → x.cells[j]? = some c → ∃ v, olds[i * sz + j]? = some v ∧ v.oneCell' = true ∧ PRel fz w c v) {ad : Option Addr} (hrow : RowOf fz w sz ys ad news) :
    ∀ (i : Nat) (x : PV) (j : Nat) (c : PV), (xs ++ ys)[i]? = some x → x.cells[j]? = some c → ∃ v, (olds.toArray ++ news.toArray ++ zs)[i * sz + j]? = some v ∧ v.oneCell' = true ∧ PRel fz w c v := by
  intro i x j c hx hj
  have hnl := hrow.len
  by_cases hil : i < xs.length
  · rw [List.getElem?_append_left hil] at hx
    obtain ⟨v, e1, e2, e3⟩ := hold i x j c hx hj
    have hlt : i * sz + j < olds.length := (List.getElem?_eq_some_iff.1 e1).1
    refine ⟨v, ?_, e2, e3⟩
    rw [Array.append_assoc, Array.getElem?_append_left (by simpa using hlt)]
    simpa using e1
  · rw [List.getElem?_append_right (by omega)] at hx
    obtain ⟨u, e1, e2⟩ := hrow.rel (i - xs.length) x j c hx hj
    have hjlt : j < sz := by rw [← hrow.cs x (List.mem_of_getElem? hx)]; exact (List.getElem?_eq_some_iff.1 hj).1
    have hilt : i - xs.length < ys.length := (List.getElem?_eq_some_iff.1 hx).1
    have h3 := mul_add_lt hilt hjlt
    have he : i * sz + j = xs.length * sz + ((i - xs.length) * sz + j) := by
      rw [← Nat.add_assoc, ← Nat.add_mul]
      congr 2
      omega
    refine ⟨u, ?_, hrow.one u (List.mem_of_getElem? e1), e2⟩
    rw [he, Array.append_assoc, Array.getElem?_append_right (by simp; omega), Array.getElem?_append_left (by simp; omega)]
    simp only [List.size_toArray, hol, Nat.add_sub_cancel_left, List.getElem?_toArray]
    exact e1

section
variable {P : Program} {vs : List Nat} {n : Nat} {G : Gh} {r : RS} {a : Act} {w : World} (hr : RRel vs n G r a w) (hi : HeapInv G r.h w) {o : Oper}
include hr hi

theorem op_append {xs : Array Operand} {ts : Array TypeId} (ho : o.op = .call { callee := .builtin .append, args := xs, argTypes := ts }) {x y : Operand} {t e : TypeId} (hxs : xs.toList = [x, y]) (hts : ts.toList = [t, t]) {x' y' : VArg} (hx : okArg vs x x' = true) (hy : okArg vs y y' = true)
    (hu : P.underlying t = some (.slice e)) {i : TypeInfo} {z : Value} (hinf : P.info? e = some i) (hz : i.zero = some z) (hzs : z.cells.size = i.size) {s v val : VVal} {us : List (Id × Nat × Ob)} (hl : r.look x' = some s) (hl' : r.look y' = some v) (hv : vappend r.h i.size i.bytes s v = some (val, us)) :
    OpWp P G r.h w a o val us := by
  obtain rfl : xs = #[x, y] := by rw [← Array.toList_inj]; simpa using hxs
  obtain rfl : ts = #[t, t] := by rw [← Array.toList_inj]; simpa using hts
  have h1 := look_rel hr hx hl
  have h2 := look_rel hr hy hl'
  have hexec : ∀ c w', (Builtin.append_ #[t, t] o.type #[a.eval x, a.eval y]).run P w = .ok c w' → (execOp a.eval o).run P w = .ok (.value c) w' := fun c w' h => by
    simp [execOp, ho, resolve, invoke, builtin, h]
  generalize hcx : a.eval x = cx at h1 hexec
  generalize hcy : a.eval y = cy at h2 hexec
  cases s with
  | own id ver off len =>
    cases off with
    | succ off => simp [vappend] at hv
    | zero =>
      simp only [vappend] at hv
      cases h1 with
      | @own _ _ _ _ ad n' cap v' o' hn hcap hh hle hoo =>
        rw [hh] at hv
        cases o' with
        | arr sz xs =>
          simp only at hv
          obtain ⟨rfl, hv2⟩ := gd_eq hv
          obtain ⟨rfl, hv3⟩ := gd_eq hv2
          obtain ⟨hlx, hv4⟩ := gd_eq hv3
          obtain ⟨⟨sz2, ys⟩, hel, hv5⟩ := ob_eq hv4
          obtain ⟨hszy, hv6⟩ := gd_eq hv5
          obtain ⟨hby, hv7⟩ := gd_eq hv6
          obtain ⟨h63, hv8⟩ := gd_eq hv7
          simp only at hszy hby h63 hv8
          simp at hv8
          obtain ⟨rfl, rfl⟩ := hv8
          clear hv hv2 hv3 hv4 hv5 hv6 hv7
          subst hn
          obtain ⟨sz3, xs3, he, _, hreal⟩ := hoo rfl
          simp at he
          obtain ⟨rfl, rfl⟩ := he
          obtain ⟨ady, capy, news, rfl, hrow0⟩ := elems_row hi h2 hel
          have hrow : RowOf (fun b => G.kind b = .frozen) w i.size ys ady news := by
            rcases hszy with rfl | hys
            · exact hrow0
            · subst hys
              have : news = [] := List.eq_nil_of_length_eq_zero (by simpa using hrow0.len)
              subst this
              exact ⟨by simp, by simp, fun h => by simp at h, by simp, fun i y j c h => by simp at h⟩
          obtain ⟨hcs, hxm, hall⟩ := hi _ _ _ hh
          have hcs' : ∀ x ∈ xs.take n' ++ ys, x.cells.length = i.size := fun q hq => by
            rcases List.mem_append.1 hq with hq | hq
            · exact hcs q (List.mem_of_mem_take hq)
            · exact hrow.cs q hq
          by_cases hroom : n' + ys.length ≤ cap
          · -- there is room: in place
            have hstay : ∀ w', w.heap.size = w'.heap.size → (∀ b, (G.kind b = .mine id → b ≠ G.blk id) → w'.heap[b]? = w.heap[b]?) → w'.os = w.os → w'.tape = w.tape → w'.output = w.output →
                (Builtin.append_ #[t, t] o.type #[.slice ad n' cap, .slice ady ys.length capy]).run P w = .ok (.slice ad (n' + ys.length) cap) w' →
                (G.kind (G.blk id) = .mine id → ∃ N tt, w'.heap[G.blk id]? = some (.cells N tt (0, 0)) ∧ N.size = G.cap id * i.size ∧ ∀ (k : Nat) (x : PV) (j : Nat) (c : PV), (xs.take n' ++ ys)[k]? = some x → x.cells[j]? = some c → ∃ v, N[k * i.size + j]? = some v ∧ v.oneCell' = true ∧ PRel (fun b => G.kind b = .frozen) w c v) →
                (xs.take n' ++ ys = [] ∨ G.kind (G.blk id) = .mine id) → (G.kind (G.blk id) = .mine id → n' + ys.length ≤ G.cap id) →
                OpWp P G r.h w a o (.own id (v' + 1) 0 (n' + ys.length)) [(id, v' + 1, .arr i.size (xs.take n' ++ ys))] := by
              intro w' hsz hblk hos htp hout hrun hN hem hfit
              have hst := Step.bump (G := G) (w' := w') (o' := .arr i.size (xs.take n' ++ ys)) id hh hsz hblk hos htp hout
              have htl : (xs.take n' ++ ys).length = n' + ys.length := by simp; omega
              refine opWp_value (G' := G) (hexec _ _ hrun) hst (HeapInv.bump hi id hst hblk ⟨hcs', hem, fun hm => ⟨by rw [htl]; exact hfit hm, ?_⟩⟩) (.own rfl hroom (upd_same _ _ _) (Nat.le_refl _) fun _ => ⟨i.size, _, rfl, by omega, ?_⟩)
              · obtain ⟨N, tt, e1, e2, e3⟩ := hN hm
                refine ⟨N, tt, e1, e2, fun k x j c hk hj => ?_⟩
                obtain ⟨v, f1, f2, f3⟩ := e3 k x j c hk hj
                exact ⟨v, f1, f2, f3.mono hst.keeps hst.size⟩
              · rcases hreal with h | ⟨g1, g2, g3⟩
                · exact .inl h
                · exact .inr ⟨g1, g2, g3⟩
            by_cases hm0 : ys.length = 0
            · have hys : ys = [] := List.eq_nil_of_length_eq_zero hm0
              subst hys
              have hnn : news = [] := List.eq_nil_of_length_eq_zero (by simpa using hrow.len)
              refine hstay w rfl (fun _ _ => rfl) rfl rfl rfl (by simpa using run_append_none w t o.type e i hu hinf ad n' cap hcap ady capy) (fun hm => ?_) ?_ (fun hm => ?_)
              · obtain ⟨_, arr, tt, hb, has, hcell⟩ := hall hm
                refine ⟨arr, tt, hb, has, fun k x j c hk hj => ?_⟩
                simp only [List.append_nil] at hk
                rw [List.getElem?_take] at hk
                split at hk
                · exact hcell k x j c hk hj
                · cases hk
              · rcases hxm with h | h
                · exact .inl (by simp [h])
                · exact .inr h
              · have := (hall hm).1
                simp
                omega
            · have hcap0 : 0 < cap := by omega
              rcases hreal with ⟨h0, _⟩ | ⟨g1, g2, g3⟩
              · omega
              · have hadd := g3 hcap0
                simp only [Nat.zero_mul] at hadd
                subst hadd
                obtain ⟨hxc, arr, tt, hb, has, hcell⟩ := hall g1
                obtain ⟨ay, rfl, hay⟩ := hrow.at_ (by omega)
                have hcg : cap = G.cap id := by omega
                have hrun := run_append_in (P := P) w t o.type e tt i hu hinf (G.blk id) n' cap arr hb ay ys.length capy news hrow.len hay hrow.one hroom (by rw [hrow.len, ← Nat.add_mul, has]; exact Nat.mul_le_mul_right _ (by omega))
                generalize hN : (splice arr.toList (n' * i.size) news).toArray = N at hrun
                obtain ⟨q1, q2⟩ := row_append (N := N) (cap := G.cap id) hlx has (by omega) hcs hcell hrow hN.symm
                refine hstay (w.setRow (G.blk id) N) (by simp [World.setRow]) (fun b hb' => setRow_other w _ _ _ (fun e => hb' (by rw [e]; exact g1) e)) rfl rfl rfl hrun (fun _ => ⟨N, tt, setRow_heap w _ _ _ _ _ hb, q1, q2⟩) (.inr g1) (fun _ => by omega)
          · -- a new block
            have hm0 : 0 < ys.length := by omega
            obtain ⟨ay, rfl, hay⟩ := hrow.at_ hm0
            have htl : (xs.take n' ++ ys).length = n' + ys.length := by simp; omega
            -- the old cells
            have holds : ∃ olds : List Value, olds.length = (xs.take n').length * i.size ∧ (∀ (k : Nat) (x : PV) (j : Nat) (c : PV), (xs.take n')[k]? = some x → x.cells[j]? = some c → ∃ v, olds[k * i.size + j]? = some v ∧ v.oneCell' = true ∧ PRel (fun b => G.kind b = .frozen) w c v) ∧
                (Builtin.append_ #[t, t] o.type #[.slice ad n' cap, .slice (some ay) ys.length capy]).run P w = .ok (.slice (some ⟨w.heap.size, 0, none⟩) (n' + ys.length) (grownCap w (n' + ys.length) cap e))
                  (w.drew.alloc (.cells (olds.toArray ++ news.toArray ++ Builtin.zeroCells z.cells (grownCap w (n' + ys.length) cap e - (n' + ys.length))) e)) := by
              obtain ⟨ad0, cap0, olds, hoe, horow⟩ := elems_row hi (look_rel hr hx hl) (show velems r.h (.own id v' 0 n') = some (i.size, (xs.drop 0).take n') by simp [velems, hh, gd])
              simp only [List.drop_zero] at horow
              have hfit2 : Builtin.nextslicecap (n' + ys.length) cap * i.bytes ≤ 281474976710656 := growslice_fits (by omega) hby
              cases ad with
              | none =>
                have hn0 : n' = 0 := by
                  rcases hreal with ⟨h0, _⟩ | ⟨_, _, g3⟩
                  · omega
                  · rcases Nat.eq_zero_or_pos cap with h0 | h0
                    · omega
                    · have := g3 h0; simp at this
                have hc0 : cap = 0 := by
                  rcases hreal with ⟨h0, _⟩ | ⟨_, _, g3⟩
                  · omega
                  · rcases Nat.eq_zero_or_pos cap with h0 | h0
                    · exact h0
                    · have := g3 h0; simp at this
                subst hn0
                subst hc0
                refine ⟨[], by simp, fun k x j c hk => by simp at hk, ?_⟩
                have := run_append_nil (P := P) w t o.type e i z hu hinf hz ay ys.length capy news hrow.len hay hm0 (by omega) (by rw [Nat.zero_add] at hby; omega)
                simpa using this
              | some b =>
                have hob : ∀ (j : Nat) (u : Value), olds[j]? = some u → w.cell? (b.add j) = some u := fun j u hu' => by
                  have hpos : 0 < (xs.take n').length := by
                    rcases Nat.eq_zero_or_pos (xs.take n').length with h0 | h0
                    · have := horow.len
                      rw [h0] at this
                      simp at this
                      subst this
                      simp at hu'
                    · exact h0
                  obtain ⟨b', hb', hcell⟩ := horow.at_ hpos
                  rw [hcx] at hoe
                  simp at hoe
                  rw [← hoe.1] at hb'
                  simp at hb'
                  subst hb'
                  exact hcell j u hu'
                have hol : olds.length = n' * i.size := by rw [horow.len, List.length_take, Nat.min_eq_left hlx]
                refine ⟨olds, horow.len, fun k x j c hk hj => ?_, ?_⟩
                · obtain ⟨u, e1, e2⟩ := horow.rel k x j c hk hj
                  exact ⟨u, e1, horow.one u (List.mem_of_getElem? e1), e2⟩
                · exact run_append_grow (P := P) w t o.type e i z hu hinf hz b n' cap olds hol hob ay ys.length capy news hrow.len hay (by omega) (by omega) hfit2
            obtain ⟨olds, hol, hold, hrun⟩ := holds
            have hge := grownCap_ge w (n' + ys.length) cap e
            have hnv : nv (r.h id) = v' + 1 := nv_gt hh
            obtain ⟨G', s1, i1, v1⟩ := new_arr (w' := w.drew.alloc (.cells (olds.toArray ++ news.toArray ++ Builtin.zeroCells z.cells (grownCap w (n' + ys.length) cap e - (n' + ys.length))) e)) hi id i.size (xs.take n' ++ ys) (grownCap w (n' + ys.length) cap e) (arr := olds.toArray ++ news.toArray ++ Builtin.zeroCells z.cells (grownCap w (n' + ys.length) cap e - (n' + ys.length))) (t := e)
              (by simp) (fun b hb => Below.heap_alloc w.drew _ b hb) rfl rfl rfl (heap_alloc_new w.drew _) hcs' (by omega) (by
                have hnl := hrow.len
                simp only [Array.size_append, List.size_toArray, hol, hnl, size_zeroCells, hzs, ← Nat.add_mul]
                congr 1
                simp
                omega) (row_new hol hold hrow)
            rw [hnv, htl] at v1
            rw [hnv] at s1 i1
            exact opWp_value (G' := G') (hexec _ _ hrun) s1 i1 v1
        | _ => simp at hv
  | _ => simp [vappend] at hv
end

end Go.V
