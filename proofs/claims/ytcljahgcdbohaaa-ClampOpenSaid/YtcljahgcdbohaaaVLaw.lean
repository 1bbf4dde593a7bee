/- The value machine V against the model: a law that answers true in the machine answers true in the model, and its arguments read as before. -/
import Derived.Test.YtcljahgcdbohaaaVFun
import Derived.ProofKit
set_option linter.unusedSimpArgs false
set_option linter.unusedVariables false
namespace Go.V
open Go.RowKit Go.ChangeShapes Go.WideShapes Go.ChangeAt

/-- What an argument of a law may be. -/
inductive Fit (P : Program) : TypeId → VVal → Prop where
  | int {t : TypeId} {k : IntKind} {n : Int} (h : P.underlying t = some (.int k)) (hn : (Lit.int k n).wf = true) : Fit P t (.p (.int k n))
  | ints {t e : TypeId} {k : IntKind} {xs : List Int} (h : P.underlying t = some (.slice e)) (he : P.underlying e = some (.int k)) (hn : ∀ n ∈ xs, (Lit.int k n).wf = true) : Fit P t (.p (.slice 1 (xs.map (.int k))))

def fitB (P : Program) (t : TypeId) : Bool :=
  P.readableRec t && decide (t < P.types.size) && (match P.underlying t with
    | some (.int _) => true
    | some (.slice e) => P.cellsOf e == 1 && (match P.underlying e with
      | some (.int _) => true
      | _ => false)
    | _ => false)

theorem Fit.isInt {P : Program} {t : TypeId} {k : IntKind} {u : VVal} (h : P.underlying t = some (.int k)) (hf : Fit P t u) : ∃ n, u = .p (.int k n) ∧ (Lit.int k n).wf = true := by
  cases hf with
  | int h' hn =>
    rw [h] at h'
    simp at h'
    subst h'
    exact ⟨_, rfl, hn⟩
  | ints h' => rw [h] at h'; simp at h'
theorem Fit.isInts {P : Program} {t e : TypeId} {k : IntKind} {u : VVal} (h : P.underlying t = some (.slice e)) (he : P.underlying e = some (.int k)) (hf : Fit P t u) : ∃ xs : List Int, u = .p (.slice 1 (xs.map (.int k))) ∧ ∀ n ∈ xs, (Lit.int k n).wf = true := by
  cases hf with
  | int h' hn => rw [h] at h'; simp at h'
  | ints h' he' hn =>
    rw [h] at h'
    simp at h'
    subst h'
    rw [he] at he'
    simp at he'
    subst he'
    exact ⟨_, rfl, hn⟩

def allFz : Gh := { kind := fun _ => .frozen, blk := fun _ => 0, cap := fun _ => 0 }

section
variable {H : Type} {enc : TypeId × Value → H} {P : Program} {W : World}

theorem fit_arg {base : Nat} {t : TypeId} (ht : fitB P t = true) {v : Value} {d : DataW H} {ps : List MemPlace} (hval : Value.okWide P W .any base t v) (hd : DataW.Trod enc P W 0 (fun _ => true) true t v d ps) :
    ∃ u, Fit P t u ∧ VRel allFz (enterH []) W u v := by
  simp only [fitB, Bool.and_eq_true] at ht
  obtain ⟨⟨_, _⟩, ht⟩ := ht
  split at ht
  · rename_i k hu
    obtain ⟨n, rfl, rfl, rfl, hw⟩ := open_int hu hval hd
    exact ⟨_, .int hu hw, .p (.int k n) rfl⟩
  · rename_i e hu
    simp only [Bool.and_eq_true, beq_iff_eq] at ht
    obtain ⟨hc, ht⟩ := ht
    split at ht
    · rename_i k he
      obtain ⟨fuel, hf⟩ := hd
      have hv : ∃ a len cap, v = .slice a len cap := by
        simp only [Value.okWide, hu, Cell.okWide] at hval
        cases v <;> simp_all [Cell.ok]
      obtain ⟨a, len, cap, rfl⟩ := hv
      rcases Go.ChangeShapes.open_ints hu he hc hf with ⟨h0, _⟩ | ⟨ad, len', cap', zs, h0, _, hle, hm, hlen, hx, hcell, hwf⟩
      · simp [Value.cells] at h0
        obtain ⟨rfl, rfl, rfl⟩ := h0
        exact ⟨_, .ints (xs := []) hu he (by simp), .p (prel_nil _ _ _) rfl⟩
      · simp [Value.cells] at h0
        obtain ⟨rfl, rfl, rfl⟩ := h0
        simp at hlen
        have hget : ∀ (i : Nat) (x : PV), ((zs.take len).map (PV.int k))[i]? = some x → x = .int k (zs.getD i 0) ∧ W.cell? (ad.add i) = some (.int k (zs.getD i 0)) := fun i x hx => by
          obtain ⟨z, hz, rfl⟩ := map_get hx
          rw [List.getElem?_take] at hz
          split at hz
          · have hi := (List.getElem?_eq_some_iff.1 hz).1
            have : zs.getD i 0 = z := by simp [List.getD_eq_getElem?_getD, hz]
            rw [← this]
            exact ⟨rfl, hcell i hi⟩
          · cases hz
        have hcells : ∀ (i : Nat) (x : PV) (j : Nat) (c : PV), ((zs.take len).map (PV.int k))[i]? = some x → x.cells[j]? = some c → j = 0 ∧ c = .int k (zs.getD i 0) ∧ W.cell? (ad.add i) = some (.int k (zs.getD i 0)) := fun i x j c hx hj => by
          obtain ⟨rfl, h2⟩ := hget i x hx
          simp only [PV.cells] at hj
          cases j with
          | zero => simp at hj; exact ⟨rfl, hj.symm, h2⟩
          | succ j => simp at hj
        refine ⟨_, .ints (xs := zs.take len) hu he (fun n hn => hwf n (List.mem_of_mem_take hn)), .p (.slice ad (fun i _ => .int k (zs.getD i 0)) (by simp; omega) hle (fun h0 => ⟨rfl, rfl, ?_⟩) (fun x hx => ?_) (fun _ _ _ _ _ _ => rfl) (fun i x j c hx hj => ?_) (fun i x j c hx hj => ?_)) rfl⟩
        · have h1 := hcell 0 (by omega)
          simp only [World.cell?, add_block] at h1
          rcases Nat.lt_or_ge ad.block W.heap.size with h | h
          · exact h
          · rw [Array.getElem?_eq_none h] at h1; simp at h1
        · simp only [List.mem_map] at hx
          obtain ⟨n, _, rfl⟩ := hx
          rfl
        · obtain ⟨rfl, _, h2⟩ := hcells i x j c hx hj
          rw [Nat.mul_one, Nat.add_zero]
          exact h2
        · obtain ⟨rfl, rfl, _⟩ := hcells i x j c hx hj
          exact .int _ _
    · cases ht
  · cases ht

theorem fit_args {base : Nat} : ∀ {ts : List TypeId} {vs : List Value} {ds : List (DataW H)} {ps : List MemPlace}, ts.all (fitB P) = true → (∀ (j : Nat) t v, ts[j]? = some t → vs[j]? = some v → Value.okWide P W .any base t v) → DataW.TrodAll enc P W 0 (fun _ => true) true ts vs ds ps →
    ∃ us : List VVal, us.length = vs.length ∧ us.length = ts.length ∧ (∀ (i : Nat) (t : TypeId) (u : VVal), ts[i]? = some t → us[i]? = some u → Fit P t u) ∧ ∀ (i : Nat) (u : VVal) (c : Value), us[i]? = some u → vs[i]? = some c → VRel allFz (enterH []) W u c
  | [], vs, ds, ps, _, _, h => by
    obtain ⟨rfl, rfl, rfl⟩ := trodAll_nil h
    exact ⟨[], rfl, rfl, fun i t u h => by simp at h, fun i u c h => by simp at h⟩
  | t :: ts, vs, ds, ps, hfit, hval, h => by
    obtain ⟨v, vs1, d, ds1, a, b, rfl, rfl, rfl, h1, h2⟩ := trodAll_cons h
    simp only [List.all_cons, Bool.and_eq_true] at hfit
    obtain ⟨u, hu1, hu2⟩ := fit_arg hfit.1 (hval 0 t v rfl rfl) h1
    obtain ⟨us, e1, e2, e3, e4⟩ := fit_args hfit.2 (fun j t v ht hv => hval (j + 1) t v (by simpa using ht) (by simpa using hv)) h2
    refine ⟨u :: us, by simp [e1], by simp [e2], fun i t' u' ht hu => ?_, fun i u' c hu hc => ?_⟩
    · cases i with
      | zero => simp at ht hu; subst ht; subst hu; exact hu1
      | succ i => simp at ht hu; exact e3 i t' u' ht hu
    · cases i with
      | zero => simp at hu hc; subst hu; subst hc; exact hu2
      | succ i => simp at hu hc; exact e4 i u' c hu hc

theorem carry_args (hl : laidOutB P = true) {W' : World} (hb : Below W.heap.size W W') : ∀ {ts : List TypeId} {vs : List Value} {ds : List (DataW H)} {ps : List MemPlace}, ts.all (fitB P) = true → DataW.TrodAll enc P W 0 (fun _ => true) true ts vs ds ps → (∀ x ∈ ps, x.block < W.heap.size) →
    DataW.TrodAll enc P W' 0 (fun b => decide (b < W.heap.size)) true ts vs ds ps
  | [], vs, ds, ps, _, h, _ => by
    obtain ⟨rfl, rfl, rfl⟩ := trodAll_nil h
    rfl
  | t :: ts, vs, ds, ps, hfit, h, hlt => by
    obtain ⟨v, vs1, d, ds1, a, b, rfl, rfl, rfl, h1, h2⟩ := trodAll_cons h
    simp only [List.all_cons, Bool.and_eq_true] at hfit
    have hf := hfit.1
    simp only [fitB, Bool.and_eq_true, decide_eq_true_eq] at hf
    exact ⟨a, b, Below.trod hl hf.1.1 hf.1.2 h1 hb (fun x hx => hlt x (by simp [hx])), carry_args hl hb hfit.2 h2 (fun x hx => hlt x (by simp [hx])), rfl⟩

/-- The call of a law. -/
theorem law_calls {Γ : Sig} (hΓ : CallsSound P Γ) {base : Nat} {ts : List TypeId} {args : Array Value} {ds : List (DataW H)} {ps : List MemPlace} (hfit : ts.all (fitB P) = true) (hval : ∀ (j : Nat) t v, ts[j]? = some t → args[j]? = some v → Value.okWide P W .any base t v)
    (hA : DataW.TrodAll enc P W 0 (fun _ => true) true ts args.toList ds ps) {k : FuncId} (hcall : ∀ us : List VVal, us.length = ts.length → (∀ (i : Nat) (t : TypeId) (u : VVal), ts[i]? = some t → us[i]? = some u → Fit P t u) → Γ k us [] = some (.p (.bool true), [])) :
    Calls P k args W fun e W' => e = .returned (.bool true) ∧ Below W.heap.size W W' := by
  obtain ⟨us, e1, e2, e3, e4⟩ := fit_args (vs := args.toList) hfit (fun j t v ht hv => hval j t v ht (by simpa using hv)) hA
  obtain ⟨_, hok⟩ := hΓ _ _ _ _ _ (hcall us e2 e3)
  refine (hok allFz W args (fun id v o h => ?_) (by simpa using e1) (fun i u c hu hc => e4 i u c hu (by simpa using hc)) (fun b id h => by simp [allFz] at h)).mono fun e W' he => ?_
  · cases id with
    | slot s j => simp [enterH] at h
    | arg i j => cases j <;> simp [enterH] at h
  · obtain ⟨c, G', h', vs, rfl, hst, _, hret, hout, _⟩ := he
    have hb : Below W.heap.size W W' := ⟨hst.os, hst.tape, hst.output, hst.size, fun b hb => (hst.frozen b rfl hb).2⟩
    refine ⟨?_, hb⟩
    obtain ⟨_, hout⟩ := gd_eq hout
    have hone : ∃ v, vs = [v] := by
      by_cases h1 : ∃ v, vs = [v]
      · exact h1
      · exfalso
        unfold outsT at hout
        split at hout
        · exact h1 ⟨_, rfl⟩
        · obtain ⟨_, _, hout⟩ := ob_eq hout
          simp at hout
    obtain ⟨v, rfl⟩ := hone
    simp only [outsT] at hout
    have hv : v = .p (.bool true) := by
      unfold out1 at hout
      split at hout
      · obtain ⟨_, _, hout⟩ := ob_eq hout
        simp at hout
      · split at hout
        · obtain ⟨_, hout⟩ := gd_eq hout
          obtain ⟨_, _, hout⟩ := ob_eq hout
          simp at hout
        · cases hout
      · unfold out0 at hout
        split at hout
        · simp at hout; rw [hout]
        · obtain ⟨_, _, hout⟩ := ob_eq hout
          obtain ⟨_, hout⟩ := gd_eq hout
          simp at hout
        · obtain ⟨_, _, hout⟩ := ob_eq hout
          simp at hout
        · obtain ⟨_, hout⟩ := gd_eq hout
          simp at hout
        · simp at hout
        · cases hout
    subst hv
    simp only [RetRel] at hret
    rw [vrel_bool hret]

/-- What the row asks behind the call. -/
theorem law_post (hl : laidOutB P = true) {f : Func} {s : ChangeSpec} {fresh handsOn : Bool} {W' : World} {args : Array Value} {ds gs : List (DataW H)} {before p q : List MemPlace} (hW : DataW.Whole enc P f.params.toList s.vars false W args.toList ds gs before) (hvars : s.vars = [])
    (hfit : f.params.toList.all (fitB P) = true) (hA : DataW.TrodAll enc P W 0 (fun _ => true) true f.params.toList args.toList ds p) (hV : DataW.TrodVars enc P W (fun _ => true) s.vars gs q) (hbe : before = p ++ q) {t : TypeId} (hrt : f.resultTypes = #[t]) (ht : P.underlying t = some .bool)
    (hres : (s.fn H (ds ++ gs)).results = [.lit (.bool true)]) (hargs : (s.fn H (ds ++ gs)).args = ds) (hvr : (s.fn H (ds ++ gs)).vars = []) (hb : Below W.heap.size W W') : s.post enc P f false fresh handsOn false W args (.bool true) W' := by
  rw [hvars] at hV
  obtain ⟨rfl, rfl⟩ := trodVars_none hV
  rw [List.append_nil] at hbe
  subst hbe
  refine ⟨ds, [], before, [], before, [], hW, ?_, ?_, ?_, hb.frame _, fun h => by cases h⟩
  · rw [hres, hrt]
    exact trodAll_mk1 (shut_bool ht true)
  · rw [hargs]
    exact carry_args hl hb hfit hA (fun x hx => hW.lt x hx)
  · rw [hvars, hvr]
    rfl
end

end Go.V
