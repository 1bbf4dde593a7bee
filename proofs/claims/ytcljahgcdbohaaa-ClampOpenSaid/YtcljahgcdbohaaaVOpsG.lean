/- The value machine V against the model: maps, slices of slices, bytes of a string. -/
import Derived.Test.YtcljahgcdbohaaaVApp
import Derived.MapKept
set_option linter.unusedSimpArgs false
set_option linter.unusedVariables false
namespace Go.V
open Go.RowKit Go.MapKept

section
variable {P : Program} {vs : List Nat} {n : Nat} {G : Gh} {r : RS} {a : Act} {w : World} (hr : RRel vs n G r a w) (hi : HeapInv G r.h w) {o : Oper} (d : Nat)
include hr hi

theorem op_appendNil {xs : Array Operand} {ts : Array TypeId} (ho : o.op = .call { callee := .builtin .append, args := xs, argTypes := ts }) {y : Operand} {t e : TypeId} (hxs : xs.toList = [.const (.slice none 0 0), y]) (hts : ts.toList = [t, t]) {y' : VArg} (hy : okArg vs y y' = true)
    (hu : P.underlying t = some (.slice e)) {i : TypeInfo} {z : Value} (hinf : P.info? e = some i) (hz : i.zero = some z) (hzs : z.cells.size = i.size) {v val : VVal} {us : List (Id × Nat × Ob)} (hl' : r.look y' = some v) (hv : vappendNil d r.h i.size i.bytes v = some (val, us)) :
    OpWp P G r.h w a o val us := by
  obtain rfl : xs = #[.const (.slice none 0 0), y] := by rw [← Array.toList_inj]; simpa using hxs
  obtain rfl : ts = #[t, t] := by rw [← Array.toList_inj]; simpa using hts
  have h2 := look_rel hr hy hl'
  have hexec : ∀ c w', (Builtin.append_ #[t, t] o.type #[.slice none 0 0, a.eval y]).run P w = .ok c w' → (execOp a.eval o).run P w = .ok (.value c) w' := fun c w' h => by
    simp [execOp, ho, resolve, invoke, builtin, Act.eval] at h ⊢
    rw [h]
    simp
  obtain ⟨⟨sz2, ys⟩, hel, hv5⟩ := ob_eq hv
  obtain ⟨hszy, hv6⟩ := gd_eq hv5
  obtain ⟨hby, hv7⟩ := gd_eq hv6
  obtain ⟨h63, hv8⟩ := gd_eq hv7
  simp only at hszy hby h63 hv8
  simp at hv8
  obtain ⟨rfl, rfl⟩ := hv8
  obtain ⟨ady, capy, news, hcy, hrow0⟩ := elems_row hi h2 hel
  have hrow : RowOf (fun b => G.kind b = .frozen) w i.size ys ady news := by
    rcases hszy with rfl | hys
    · exact hrow0
    · subst hys
      have : news = [] := List.eq_nil_of_length_eq_zero (by simpa using hrow0.len)
      subst this
      exact ⟨by simp, by simp, fun h => by simp at h, by simp, fun i y j c h => by simp at h⟩
  rw [hcy] at hexec
  by_cases hm0 : ys.length = 0
  · have hys : ys = [] := List.eq_nil_of_length_eq_zero hm0
    subst hys
    obtain ⟨G', s1, i1, v1⟩ := new_nil hi (.slot d 0) i.size none
    exact opWp_value (G' := G') (hexec _ _ (run_append_none w t o.type e i hu hinf none 0 0 (Nat.le_refl _) ady capy)) s1 i1 v1
  · obtain ⟨ay, rfl, hay⟩ := hrow.at_ (by omega)
    have hrun := run_append_nil (P := P) w t o.type e i z hu hinf hz ay ys.length capy news hrow.len hay (by omega) (by omega) (by omega)
    have hge := grownCap_ge w ys.length 0 e
    obtain ⟨G', s1, i1, v1⟩ := new_arr (w' := w.drew.alloc (.cells (news.toArray ++ Builtin.zeroCells z.cells (grownCap w ys.length 0 e - ys.length)) e)) hi (.slot d 0) i.size ys (grownCap w ys.length 0 e) (arr := news.toArray ++ Builtin.zeroCells z.cells (grownCap w ys.length 0 e - ys.length)) (t := e)
      (by simp) (fun b hb => Below.heap_alloc w.drew _ b hb) rfl rfl rfl (heap_alloc_new w.drew _) hrow.cs (by omega) (by
        have hnl := hrow.len
        simp only [Array.size_append, List.size_toArray, hnl, size_zeroCells, hzs, ← Nat.add_mul]
        congr 1
        omega) (by
        have := row_new (xs := []) (olds := []) (zs := Builtin.zeroCells z.cells (grownCap w ys.length 0 e - ys.length)) (fz := fun b => G.kind b = .frozen) (w := w) (sz := i.size) (by simp) (fun i x j c h => by simp at h) hrow
        simpa using this)
    exact opWp_value (G' := G') (hexec _ _ hrun) s1 i1 v1

omit hr in
theorem op_makeMap {t : TypeId} (ho : o.op = .makeMap t none) (kt : KT) : OpWp P G r.h w a o (.mref (.slot d 0) (nv (r.h (.slot d 0)))) [(.slot d 0, nv (r.h (.slot d 0)), .map kt [] [])] := by
  have hblk : ∀ b, b < w.heap.size → (w.alloc (.map #[] 0)).heap[b]? = w.heap[b]? := fun b hb => Below.heap_alloc w _ b hb
  have hst := Step.newOb (G := G) hi (.slot d 0) (.mine (.slot d 0)) 0 (.map kt [] []) (w' := w.alloc (.map #[] 0)) (by simp) hblk rfl rfl rfl
  refine opWp_value (c := .map (some w.heap.size)) (w' := w.alloc (.map #[] 0)) ?_ hst (HeapInv.newOb hi (.slot d 0) (.mine (.slot d 0)) 0 (.map kt [] []) (by simp) hblk rfl rfl rfl (.inr rfl) ⟨by simp [Gh.set], #[], 0, ?_, rfl, rfl, by simp, by simp⟩) (.mref (upd_same _ _ _) (Nat.le_refl _) fun _ => by simp [Gh.set])
  · simp [execOp, ho, Instr.makeMap]
  · simp only [Gh.set, if_true]
    exact heap_alloc_new w _

omit hr in
/-- The entries behind a map value. -/
theorem entries_sound {v : VVal} {c : Value} (hv : VRel G r.h w v c) {kt : KT} {ks : List MKey} {us : List PV} (he : ventries r.h v = some (kt, ks, us)) :
    (c = .map none ∧ ks = [] ∧ us = []) ∨ ∃ b es clock, c = .map (some b) ∧ w.heap[b]? = some (.map es clock) ∧ ks.length = es.size ∧ us.length = es.size ∧
      (∀ (i : Nat) (k : MKey) (e : MapEntry), ks[i]? = some k → es[i]? = some e → MKey.val kt k = some e.key) ∧ ∀ (i : Nat) (v : PV) (e : MapEntry), us[i]? = some v → es[i]? = some e → PRel (fun b => G.kind b = .frozen) w v e.val := by
  cases hv with
  | @p dd c hp h1 =>
    cases hp with
    | mapNil kt' => simp [ventries] at he; obtain ⟨rfl, rfl, rfl⟩ := he; exact .inl ⟨rfl, rfl, rfl⟩
    | @map kt' ks' vs' rr es clock hfz hw hk hv hkey hr' =>
      simp [ventries] at he
      obtain ⟨rfl, rfl, rfl⟩ := he
      exact .inr ⟨rr, es, clock, rfl, hw, hk, hv, hkey, hr'⟩
    | _ => simp [ventries] at he
  | @mref id ver rr v' o' hh hle hoo =>
    simp only [ventries, hh] at he
    cases o' with
    | map kt' ks' vs' =>
      simp only at he
      obtain ⟨rfl, he2⟩ := gd_eq he
      simp at he2
      obtain ⟨rfl, rfl, rfl⟩ := he2
      obtain ⟨_, es, clock, e1, e2, e3, e4, e5⟩ := hi _ _ _ hh
      have := hoo rfl
      subst this
      exact .inr ⟨_, es, clock, rfl, e1, e2, e3, e4, e5⟩
    | _ => simp at he
  | _ => simp [ventries] at he

theorem op_mapLen {xs : Array Operand} {ts : Array TypeId} (ho : o.op = .call { callee := .builtin .len, args := xs, argTypes := ts }) {x : Operand} {t k e : TypeId} (hxs : xs.toList = [x]) (hts : ts.toList = [t]) {y : VArg} (hx : okArg vs x y = true)
    (hu : P.underlying t = some (.map k e)) {v : VVal} {kt : KT} {ks : List MKey} {us : List PV} (hl : r.look y = some v) (he : ventries r.h v = some (kt, ks, us)) : OpWp P G r.h w a o (.p (.int .i64 ks.length)) [] := by
  obtain rfl : xs = #[x] := by rw [← Array.toList_inj]; simpa using hxs
  obtain rfl : ts = #[t] := by rw [← Array.toList_inj]; simpa using hts
  refine opWp_silent (c := .int .i64 ks.length) ?_ hi (vrel_mkInt _ _)
  rcases entries_sound hi (look_rel hr hx hl) he with ⟨hc, rfl, rfl⟩ | ⟨b, es, clock, hc, hw, hk, _⟩
  · simp [execOp, ho, resolve, invoke, builtin, Builtin.len_, hc, run_underlying hu, goInt]
  · simp [execOp, ho, resolve, invoke, builtin, Builtin.len_, hc, run_underlying hu, goInt, Go.MapKept.run_getObj_map (P := P) hw, hk]
end

/-- A key's kind. -/
theorem key_isKey {P : Program} {t : TypeId} {kt : KT} (h : ktIs P t kt = true) {k : MKey} {c : Value} (hc : MKey.val kt k = some c) : ∃ dsc, P.underlying t = some dsc ∧ IsKey dsc c := by
  obtain ⟨h1, h2, h3⟩ := ktIs_underlying h
  cases kt <;> cases k <;> simp [MKey.val] at hc <;> subst hc
  · exact ⟨_, h1 _ rfl, by simp [IsKey]⟩
  · exact ⟨_, h2 rfl, by simp [IsKey]⟩
  · exact ⟨_, h3 rfl, by simp [IsKey]⟩
theorem val_inj {kt : KT} {k k' : MKey} {c : Value} (h : MKey.val kt k = some c) (h' : MKey.val kt k' = some c) : k = k' := by
  cases kt <;> cases k <;> cases k' <;> simp_all [MKey.val] <;> (subst h; simp_all)

theorem mkey_val {G : Gh} {h : VHeap} {w : World} {kt : KT} {v : VVal} {k : MKey} {c : Value} (hk : mkey kt v = some k) (hv : VRel G h w v c) : MKey.val kt k = some c := by
  unfold mkey at hk
  split at hk
  · obtain ⟨rfl, hk2⟩ := gd_eq hk
    simp at hk2
    subst hk2
    rw [vrel_int hv]
    rfl
  · simp at hk; subst hk; rw [vrel_str hv]; rfl
  · simp at hk; subst hk; rw [vrel_bool hv]; rfl
  · cases hk

/-- The first entry with a key. -/
theorem mget_sound {P : Program} {w : World} {fz : Nat → Prop} {t : TypeId} {kt : KT} (hkt : ktIs P t kt = true) {k : MKey} {c : Value} (hc : MKey.val kt k = some c) {dsc : TypeDesc} (hd : P.underlying t = some dsc) :
    ∀ (es : List MapEntry) (ks : List MKey) (us : List PV) (i0 : Nat), ks.length = es.length → us.length = es.length → (∀ (i : Nat) (k : MKey) (e : MapEntry), ks[i]? = some k → es[i]? = some e → MKey.val kt k = some e.key) →
      (∀ (i : Nat) (v : PV) (e : MapEntry), us[i]? = some v → es[i]? = some e → PRel fz w v e.val) →
      (mget ks us k = none ∧ Instr.findNow dsc c es i0 = some none ∧ mput ks us k = (fun v => (ks ++ [k], us ++ [v]))) ∨
      ∃ (j : Nat) (e : MapEntry) (v : PV), mget ks us k = some v ∧ Instr.findNow dsc c es i0 = some (some (i0 + j, e.val)) ∧ es[j]? = some e ∧ e.key = c ∧ PRel fz w v e.val ∧ mput ks us k = (fun v' => (ks, us.set j v'))
  | [], ks, us, i0, h1, h2, _, _ => by
    have e1 : ks = [] := List.eq_nil_of_length_eq_zero (by simpa using h1)
    have e2 : us = [] := List.eq_nil_of_length_eq_zero (by simpa using h2)
    subst e1
    subst e2
    exact .inl ⟨rfl, rfl, rfl⟩
  | e :: es, ks, us, i0, h1, h2, h3, h4 => by
    cases ks with
    | nil => simp at h1
    | cons k0 ks =>
      cases us with
      | nil => simp at h2
      | cons u0 us =>
        have hk0 := h3 0 k0 e rfl rfl
        obtain ⟨dsc', hd', hkey⟩ := key_isKey hkt hc
        obtain ⟨dsc2, hd2, hkey0⟩ := key_isKey hkt hk0
        rw [hd] at hd' hd2
        simp at hd' hd2
        subst hd'
        subst hd2
        obtain ⟨rr, hsame, hiff⟩ := sameNow_of_keys hkey hkey0
        by_cases hkk : k = k0
        · subst hkk
          rw [hc] at hk0
          simp at hk0
          have hrt : rr = true := hiff.2 hk0
          subst hrt
          refine .inr ⟨0, e, u0, by simp [mget], by simp [Instr.findNow, hsame], rfl, hk0.symm, h4 0 u0 e rfl rfl, ?_⟩
          funext v'
          simp [mput]
        · have hrf : rr = false := by
            cases rr with
            | false => rfl
            | true =>
              have := hiff.1 rfl
              rw [← this] at hk0
              exact absurd (val_inj hc hk0) hkk
          subst hrf
          rcases mget_sound hkt hc hd es ks us (i0 + 1) (by simpa using h1) (by simpa using h2) (fun i k e hk he => h3 (i + 1) k e (by simpa using hk) (by simpa using he)) (fun i v e hv he => h4 (i + 1) v e (by simpa using hv) (by simpa using he)) with ⟨a1, a2, a3⟩ | ⟨j, e', v, a1, a2, a3, a4, a5, a6⟩
          · refine .inl ⟨by simp [mget, hkk, a1], by simp [Instr.findNow, hsame, a2], ?_⟩
            funext v'
            simp [mput, hkk, a3]
          · refine .inr ⟨j + 1, e', v, by simp [mget, hkk, a1], by simp [Instr.findNow, hsame, a2]; omega, by simpa using a3, a4, a5, ?_⟩
            funext v'
            simp [mput, hkk, a6]

theorem thaw_rel {G : Gh} {h : VHeap} {w : World} {x : PV} {c : Value} (hp : PRel (fun b => G.kind b = .frozen) w x c) : VRel G h w (thaw x) c := by
  by_cases ha : ∃ ds, x = .agg ds
  · obtain ⟨ds, rfl⟩ := ha
    cases hp with
    | @agg _ arr hl h1 hr =>
      refine .agg (by simpa using hl) h1 fun i v c hv hc => ?_
      simp only [List.getElem?_map, Option.map_eq_some_iff] at hv
      obtain ⟨dd, hd, rfl⟩ := hv
      exact .p (hr i dd c hd hc) (h1 i c hc)
  · have hne : ∀ ds, x ≠ .agg ds := fun ds e => ha ⟨ds, e⟩
    have : thaw x = .p x := by cases x <;> first | rfl | exact absurd rfl (hne _)
    rw [this]
    exact .p hp (hp.one hne)

theorem okZeroPV_rel {fz : Nat → Prop} {w : World} {v : Value} {x : PV} (h : okZeroPV v x = true) : PRel fz w x v := by
  unfold okZeroPV at h
  split at h
  · rename_i cs ds
    have key : ∀ (l : List Value) (ds : List PV), okZeroPV.okL l ds = true → ds.length = l.length ∧ (∀ (i : Nat) (c : Value), l[i]? = some c → c.oneCell' = true) ∧ ∀ (i : Nat) (d : PV) (c : Value), ds[i]? = some d → l[i]? = some c → PRel fz w d c := by
      intro l
      induction l with
      | nil =>
        intro ds h
        cases ds <;> simp [okZeroPV.okL] at h
        exact ⟨rfl, fun i c h => by simp at h, fun i d c h => by simp at h⟩
      | cons v l ih =>
        intro ds h
        cases ds with
        | nil => simp [okZeroPV.okL] at h
        | cons d ds =>
          simp only [okZeroPV.okL, Bool.and_eq_true] at h
          obtain ⟨h1, h2, h3⟩ := ih ds h.2
          obtain ⟨g1, g2, _⟩ := okConst_rel (fz := fz) (w := w) h.1
          refine ⟨by simp [h1], fun i c hc => ?_, fun i d' c hd hc => ?_⟩
          · cases i with
            | zero => simp at hc; subst hc; exact g2
            | succ i => simp at hc; exact h2 i c hc
          · cases i with
            | zero => simp at hd hc; subst hd; subst hc; exact g1
            | succ i => simp at hd hc; exact h3 i d' c hd hc
    obtain ⟨h1, h2, h3⟩ := key _ _ h
    exact .agg (by simpa using h1) (fun i c hc => h2 i c (by simpa using hc)) (fun i d c hd hc => h3 i d c hd (by simpa using hc))
  · exact (okConst_rel h).1

section
variable {P : Program} {vs : List Nat} {n : Nat} {G : Gh} {r : RS} {a : Act} {w : World} (hr : RRel vs n G r a w) (hi : HeapInv G r.h w) {o : Oper} (d : Nat)
include hr hi

theorem op_lookup {t key e : TypeId} {m k : Operand} {ok : Bool} (ho : o.op = .lookup t m k ok) {m' k' : VArg} (hm : okArg vs m m' = true) (hk : okArg vs k k' = true) (hu : P.underlying t = some (.map key e)) {kt : KT} (hkt : ktIs P key kt = true) {i : TypeInfo} {z : Value} (hinf : P.info? e = some i) (hz : i.zero = some z)
    {zero : PV} (hz0 : okZeroPV z zero = true) {mv kv : VVal} {kt' : KT} {ks : List MKey} {us : List PV} {kk : MKey} (hlm : r.look m' = some mv) (hlk : r.look k' = some kv) (he : ventries r.h mv = some (kt', ks, us)) (hkk : kt' = kt ∨ ks = []) (hmk : mkey kt kv = some kk) : OpWp P G r.h w a o (vlookup ok zero ks us kk) [] := by
  have hkc := mkey_val hmk (look_rel hr hk hlk)
  obtain ⟨dsc, hd, hkey⟩ := key_isKey hkt hkc
  have hck := fun (em : Bool) => run_checkKey (P := P) (w := w) hd hkey em 9999
  have hzr : (zeroValue e).run P w = .ok z w := by simp [zeroValue, typeInfo, hinf, hz]
  have hfin : ∀ (v : PV) (c : Value) (b : Bool), PRel (fun b => G.kind b = .frozen) w v c → VRel G r.h w (if ok then .tup [thaw v, .p (.bool b)] else thaw v) (if ok then .tuple #[c, .bool b] else c) := by
    intro v c b hp
    cases ok with
    | false => exact thaw_rel hp
    | true =>
      refine .tup rfl fun i u x hu hx => ?_
      match i with
      | 0 => simp at hu hx; subst hu; subst hx; exact thaw_rel hp
      | 1 => simp at hu hx; subst hu; subst hx; exact vrel_mkBool _
      | i + 2 => simp at hu
  have hempty : ks = [] → us = [] → vlookup ok zero ks us kk = (if ok then .tup [thaw zero, .p (.bool false)] else thaw zero) := by
    rintro rfl rfl
    simp [vlookup, mget]
  rcases entries_sound hi (look_rel hr hm hlm) he with ⟨hc, rfl, rfl⟩ | ⟨b, es, clock, hc, hw, hk1, hk2, hk3, hk4⟩
  · rw [hempty rfl rfl]
    refine opWp_silent (c := if ok then .tuple #[z, .bool false] else z) ?_ hi (hfin zero z false (okZeroPV_rel hz0))
    have hff := run_findKey (P := P) (w := w) (kt := key) (k := a.eval k) (l := []) hd (a := none) rfl
    have hce := hck true
    simp only [Nat.reduceAdd] at hce
    simp [execOp, ho, Instr.lookup, run_underlying hu, hc, hce, hff, hzr]
  · have hkt' : ∀ (i : Nat) (k : MKey) (e : MapEntry), ks[i]? = some k → es.toList[i]? = some e → MKey.val kt k = some e.key := by
      intro i k e h1 h2
      rcases hkk with rfl | rfl
      · exact hk3 i k e h1 (by simpa using h2)
      · simp at h1
    have hce := hck es.isEmpty
    simp only [Nat.reduceAdd] at hce
    rcases mget_sound (fz := fun b => G.kind b = .frozen) (w := w) hkt hkc hd es.toList ks us 0 (by simpa using hk1) (by simpa using hk2) hkt' (fun i v e hv he => hk4 i v e hv (by simpa using he)) with ⟨a1, a2, _⟩ | ⟨j, e', v, a1, a2, a3, a4, a5, _⟩
    · have hff := run_findKey (P := P) (w := w) hd a2
      have hvl : vlookup ok zero ks us kk = (if ok then .tup [thaw zero, .p (.bool false)] else thaw zero) := by simp [vlookup, a1]
      rw [hvl]
      refine opWp_silent (c := if ok then .tuple #[z, .bool false] else z) ?_ hi (hfin zero z false (okZeroPV_rel hz0))
      simp [execOp, ho, Instr.lookup, run_underlying hu, hc, Go.MapKept.run_getObj_map (P := P) hw, hce, hff, hzr]
    · have hff := run_findKey (P := P) (w := w) hd a2
      have hvl : vlookup ok zero ks us kk = (if ok then .tup [thaw v, .p (.bool true)] else thaw v) := by simp [vlookup, a1]
      rw [hvl]
      refine opWp_silent (c := if ok then .tuple #[e'.val, .bool true] else e'.val) ?_ hi (hfin v e'.val true a5)
      simp [execOp, ho, Instr.lookup, run_underlying hu, hc, Go.MapKept.run_getObj_map (P := P) hw, hce, hff]

theorem op_mapUpdate {t key e : TypeId} {m k x : Operand} (ho : o.op = .mapUpdate t m k x) {m' k' x' : VArg} (hm : okArg vs m m' = true) (hk : okArg vs k k' = true) (hx : okArg vs x x' = true) (hu : P.underlying t = some (.map key e)) {kt : KT} (hkt : ktIs P key kt = true)
    {id : Id} {ver : Nat} {kv xv : VVal} {ks : List MKey} {us : List PV} {kk : MKey} {xx : PV} (hlm : r.look m' = some (.mref id ver)) (hlk : r.look k' = some kv) (hlx : r.look x' = some xv) (hh : r.h id = some (ver, .map kt ks us)) (hmk : mkey kt kv = some kk) (hfx : freezeP xv = some xx) :
    OpWp P G r.h w a o .undef [(id, ver, .map kt (mput ks us kk xx).1 (mput ks us kk xx).2)] := by
  have hkc := mkey_val hmk (look_rel hr hk hlk)
  obtain ⟨dsc, hd, hkey⟩ := key_isKey hkt hkc
  have hce := run_checkKey (P := P) (w := w) hd hkey false 9999
  simp only [Nat.reduceAdd] at hce
  obtain ⟨hmine, es, clock, hb, hk1, hk2, hk3, hk4⟩ := hi _ _ _ hh
  have hmv := look_rel hr hm hlm
  have hc : a.eval m = .map (some (G.blk id)) := by
    generalize hcm : a.eval m = cm at hmv
    cases hmv with
    | mref hh' hle hoo =>
      rw [hh] at hh'
      simp at hh'
      rw [hoo hh'.1]
  have hxp := (freeze_rel (look_rel hr hx hlx) hfx).2.2
  have hget := Go.MapKept.run_getObj_map (P := P) hb
  have hlt : G.blk id < w.heap.size := (Array.getElem?_eq_some_iff.1 hb).1
  have hset : ∀ ob, (setObj (G.blk id) ob).run P w = .ok () { w with heap := w.heap.setIfInBounds (G.blk id) ob } := fun ob => Go.MapKept.run_setObj_map (P := P) ob hb
  have hfin : ∀ (es' : Array MapEntry) (clock' : Nat) (ks' : List MKey) (us' : List PV), (execOp a.eval o).run P w = .ok .skip { w with heap := w.heap.setIfInBounds (G.blk id) (.map es' clock') } → ks'.length = es'.size → us'.length = es'.size →
      (∀ (i : Nat) (k : MKey) (e : MapEntry), ks'[i]? = some k → es'[i]? = some e → MKey.val kt k = some e.key) → (∀ (i : Nat) (v : PV) (e : MapEntry), us'[i]? = some v → es'[i]? = some e → PRel (fun b => G.kind b = .frozen) w v e.val) →
      OpWp P G r.h w a o .undef [(id, ver, .map kt ks' us')] := by
    intro es' clock' ks' us' hrun h1 h2 h3 h4
    have hblk : ∀ b, b ≠ G.blk id → ({ w with heap := w.heap.setIfInBounds (G.blk id) (.map es' clock') } : World).heap[b]? = w.heap[b]? := fun b hne => by
      simp only [Array.getElem?_setIfInBounds]
      rw [if_neg (fun e => hne e.symm)]
    have hst := Step.write (G := G) (h := r.h) (w' := { w with heap := w.heap.setIfInBounds (G.blk id) (.map es' clock') }) id (o' := .map kt ks' us') hh hmine (by simp [SameOb]) (by simp) hblk rfl rfl rfl
    refine opWp_skip (G' := G) hrun hst (HeapInv.write hi id hst hmine hblk ⟨hmine, es', clock', ?_, h1, h2, h3, fun i v e hv he => (h4 i v e hv he).mono hst.keeps hst.size⟩)
    simp [hlt]
  rcases mget_sound (fz := fun b => G.kind b = .frozen) (w := w) hkt hkc hd es.toList ks us 0 (by simpa using hk1) (by simpa using hk2) (fun i k e h1 h2 => hk3 i k e h1 (by simpa using h2)) (fun i v e hv he => hk4 i v e hv (by simpa using he)) with ⟨a1, a2, a3⟩ | ⟨j, e', v, a1, a2, a3, a4, a5, a6⟩
  · have hff := run_findKey (P := P) (w := w) hd a2
    rw [a3]
    refine hfin (es.push { key := a.eval k, val := a.eval x, born := clock }) (clock + 1) _ _ ?_ (by simp [hk1]) (by simp [hk2]) (fun i k0 e0 h1 h2 => ?_) (fun i v0 e0 h1 h2 => ?_)
    · simp [execOp, ho, Instr.mapUpdate, run_underlying hu, hc, hget, hce, hff, hset]
    · rw [Array.getElem?_push] at h2
      by_cases hie : i = es.size
      · rw [if_pos hie] at h2
        simp at h2
        subst h2
        rw [List.getElem?_append_right (by omega)] at h1
        have : i - ks.length = 0 := by omega
        rw [this] at h1
        simp at h1
        subst h1
        exact hkc
      · rw [if_neg hie] at h2
        have := (Array.getElem?_eq_some_iff.1 h2).1
        rw [List.getElem?_append_left (by omega)] at h1
        exact hk3 i k0 e0 h1 h2
    · rw [Array.getElem?_push] at h2
      by_cases hie : i = es.size
      · rw [if_pos hie] at h2
        simp at h2
        subst h2
        rw [List.getElem?_append_right (by omega)] at h1
        have : i - us.length = 0 := by omega
        rw [this] at h1
        simp at h1
        subst h1
        exact hxp
      · rw [if_neg hie] at h2
        have := (Array.getElem?_eq_some_iff.1 h2).1
        rw [List.getElem?_append_left (by omega)] at h1
        exact hk4 i v0 e0 h1 h2
  · have hff := run_findKey (P := P) (w := w) hd a2
    rw [a6]
    simp only [Nat.zero_add] at hff
    have hje : es[j]? = some e' := by simpa using a3
    have hstay : (Instr.keyThatStays (((es[j]?).map (·.key)).getD (a.eval k)) (a.eval k)).run P w = .ok (a.eval k) w := by
      rw [hje]
      simp only [Option.map_some, Option.getD_some, a4, Instr.keyThatStays]
      have hsb : Instr.sameBits 10000 (a.eval k) (a.eval k) = true := by
        obtain ⟨_, _, _⟩ := ktIs_underlying hkt
        revert hkc
        cases kt <;> cases kk <;> simp [MKey.val] <;> (intro h; rw [← h]; simp [Instr.sameBits, beq_toListBytes])
      simp [hsb]
    refine hfin (es.modify j fun e => { e with key := a.eval k, val := a.eval x }) clock _ _ ?_ (by simp [hk1]) (by simp [hk2]) (fun i k0 e0 h1 h2 => ?_) (fun i v0 e0 h1 h2 => ?_)
    · rw [hje] at hstay
      simp only [Option.map_some, Option.getD_some] at hstay
      simp [execOp, ho, Instr.mapUpdate, run_underlying hu, hc, hget, hce, hff, hje, hstay, hset]
    · rw [Array.getElem?_modify] at h2
      by_cases hij : j = i
      · subst hij
        rw [if_pos rfl, hje] at h2
        simp at h2
        subst h2
        have := hk3 j k0 e' h1 hje
        rw [a4] at this
        exact this
      · rw [if_neg hij] at h2
        exact hk3 i k0 e0 h1 h2
    · rw [Array.getElem?_modify] at h2
      rw [List.getElem?_set] at h1
      by_cases hij : j = i
      · subst hij
        rw [if_pos rfl, hje] at h2
        simp at h2
        subst h2
        rw [if_pos rfl] at h1
        split at h1
        · simp at h1; subst h1; exact hxp
        · cases h1
      · rw [if_neg hij] at h1 h2
        exact hk4 i v0 e0 h1 h2
end

end Go.V
