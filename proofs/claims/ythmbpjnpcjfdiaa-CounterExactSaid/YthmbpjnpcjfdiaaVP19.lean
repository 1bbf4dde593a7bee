/- CounterExact holds: for every input the call of the law returns true, and each argument reads afterwards as it read before. No conditions. -/
import Derived.Test.YthmbpjnpcjfdiaaRows
import Derived.Test.YthmbpjnpcjfdiaaVSeat
import Derived.Test.YthmbpjnpcjfdiaaVN3
import Derived.Test.YthmbpjnpcjfdiaaVHead
import Derived.Test.YthmbpjnpcjfdiaaVFF
import Derived.ProofKit
set_option linter.unusedSimpArgs false
set_option linter.unusedVariables false
namespace Go.Proofs.Ythmbpjnpcjfdiaa
open Go.ChangeShapes Go.WideShapes Go.ChangeAt Go.RowKit Go.V

theorem counterExact_fit : Try.f3.params.toList.all (fitB2 Try.prog 4) = true := by kernel_rfl

theorem counterExact_u22 : Try.prog.underlying 22 = some (.slice 3) := by kernel_rfl
theorem counterExact_u3 : Try.prog.underlying 3 = some (.int .i64) := by kernel_rfl
theorem counterExact_tree : TreeT Try.prog 25 23 48 3 9 := { n := by kernel_rfl, nc := by kernel_rfl, i := by kernel_rfl, ic := by kernel_rfl, s := by kernel_rfl, sc := by kernel_rfl, t := by kernel_rfl, tc := by kernel_rfl, ns := by kernel_rfl, nsc := by kernel_rfl }
theorem counterExact_ctr : PairT Try.prog 26 39 3 := { s := by kernel_rfl, sc := by kernel_rfl, p := by kernel_rfl, pc := by kernel_rfl, i := by kernel_rfl, ic := by kernel_rfl }
theorem counterExact_pairs : PairT Try.prog 29 43 3 := { s := by kernel_rfl, sc := by kernel_rfl, p := by kernel_rfl, pc := by kernel_rfl, i := by kernel_rfl, ic := by kernel_rfl }
theorem counterExact_call : ∀ us : List VVal, us.length = Try.f3.params.toList.length → (∀ (i : Nat) (t : TypeId) (u : VVal), Try.f3.params.toList[i]? = some t → us[i]? = some u → FitV Try.prog 4 t u) → V 3 us [] = some (.p (.bool true), []) := by
  intro us hlen hfit
  rw [Try.params3] at hlen hfit
  match us, hlen with
  | [x0, x1, x2, x3, x4, x5], _ =>
    obtain ⟨a0, rfl, w0⟩ := (hfit 0 22 x0 rfl rfl).ints counterExact_u22 counterExact_u3 (by kernel_rfl)
    obtain ⟨a1, rfl, w1⟩ := (hfit 1 25 x1 rfl rfl).tree (k := 1) counterExact_tree
    obtain ⟨a2, rfl⟩ := (hfit 2 28 x2 rfl rfl).ctr (k := 1) counterExact_ctr (by kernel_rfl) (by kernel_rfl)
    obtain ⟨a3, rfl⟩ := (hfit 3 29 x3 rfl rfl).pairs (k := 2) counterExact_pairs
    obtain ⟨a4, rfl, w4⟩ := (hfit 4 3 x4 rfl rfl).int counterExact_u3
    obtain ⟨a5, rfl, w5⟩ := (hfit 5 3 x5 rfl rfl).int counterExact_u3
    exact counterExact_eq a0 a1 a2 a3 a4 a5 w1

set_option maxRecDepth 100000 in
theorem counterExact_lifted (os : Os) (started : os.Started) (H : Type) (enc : TypeId × Value → H) :
    ReturnsInHanded {} Try.checked os 3 .any (Rows.counterExactSpec.pre6 enc Try.prog Try.f3 Rows.counterExactRow.domain false) (Rows.counterExactSpec.post enc Try.prog Try.f3 false true false false) := by
  refine returnsInHanded_of_change (C := Try.checked) own_try started (by kernel_rfl) Try.func3
    (ChangeSpec.witness6 (enc := enc) (C := Try.checked) false ⟨#[], #[.slice none 0 0, .agg #[.slice none 0 0, .int .i64 0], .agg #[.slice none 0 0], .slice none 0 0, .int .i64 0, .int .i64 0], []⟩ 8 (by kernel_rfl) (by kernel_rfl) (by kernel_rfl) (by kernel_rfl)) ?_
  intro W base args ds gs before hval0 hW _ _
  have hval : ∀ (j : Nat) t v, Try.f3.params[j]? = some t → args[j]? = some v → Value.okWide Try.prog W .any base t v := hval0
  have hW' := hW
  obtain ⟨p, q, hA0, hV, hbe, _, _⟩ := hW
  have hA : DataW.TrodAll enc Try.prog W 0 (fun _ => true) true Try.f3.params.toList args.toList ds p := hA0
  refine (law_calls2 V_sound counterExact_fit (fun j t v ht hv => hval j t v (by simpa using ht) hv) hA counterExact_call).mono fun e W' ⟨he, hb⟩ => ?_
  subst he
  have hlen := trodAll_len hA
  rw [Try.params3] at hlen
  obtain ⟨hgs, _⟩ := trodVars_none hV
  have hfn : ∀ ds : List (DataW H), ds.length = 6 → (Rows.counterExactSpec.fn H (ds ++ [])).results = [.lit (.bool true)] ∧ (Rows.counterExactSpec.fn H (ds ++ [])).args = ds ∧ (Rows.counterExactSpec.fn H (ds ++ [])).vars = [] := by
    intro ds hl
    match ds, hl with
    | [_, _, _, _, _, _], _ => exact ⟨rfl, rfl, rfl⟩
  obtain ⟨e1, e2, e3⟩ := hfn ds hlen
  exact ⟨_, rfl, law_post2 laid_try hW' rfl counterExact_fit hA hV hbe (t := 4) (by kernel_rfl) (by kernel_rfl) (by rw [hgs]; exact e1) (by rw [hgs]; exact e2) (by rw [hgs]; exact e3) hb⟩

theorem counterExact_k0 : (Rows.counterExactRow.wf (OpenSpec.ofChange Rows.counterExactSpec)) = true := by kernel_rfl
theorem counterExact_k1 : (laidOutB Try.prog) = true := by kernel_rfl
theorem counterExact_k2 : (mapsRowed Try.prog) = true := by kernel_rfl
theorem counterExact_k3 : (Try.f3.params.all (Try.prog.readableRec ·)) = true := by kernel_rfl
theorem counterExact_k4 : (namedTie Try.prog Rows.counterExactRow.named Rows.counterExactSpec.vars) = true := by kernel_rfl
theorem counterExact_k5 : ((Rows.counterExactRow.stops == [])) = true := by kernel_rfl
theorem counterExact_k6 : ((Try.prog.stops == [])) = true := by kernel_rfl
theorem counterExact_k7 : ((Rows.counterExactRow.knobs == [])) = true := by kernel_rfl
theorem counterExact_k8 : ((Try.prog.stopKnobs == [])) = true := by kernel_rfl
theorem counterExact_k9 : ((Rows.counterExactRow.inPlace == Try.prog.inPlace 3)) = true := by kernel_rfl
theorem counterExact_k10 : ((Rows.counterExactRow.unfollowed == Try.prog.unfollowed 3)) = true := by kernel_rfl
theorem counterExact_k11 : ((Rows.counterExactRow.recurses == Try.prog.recurses 3)) = true := by kernel_rfl
theorem counterExact_k12 : ((Rows.counterExactRow.named == Try.prog.varsNamed 3)) = true := by kernel_rfl
theorem counterExact_k13 : ((Rows.counterExactRow.maps == (Try.f3.params.toList ++ Rows.counterExactSpec.plain.varTypes Try.prog).any (Try.prog.mapsRec ·))) = true := by kernel_rfl
theorem counterExact_k14 : ((Rows.counterExactRow.ifaces == (Try.f3.params.toList ++ Rows.counterExactSpec.plain.varTypes Try.prog).any (Try.prog.ifacesRec ·))) = true := by kernel_rfl
theorem counterExact_k15 : ((Rows.counterExactRow.mapsOut == Try.prog.mapsAmong Try.f3.resultTypes.toList)) = true := by kernel_rfl
theorem counterExact_k16 : ((Rows.counterExactRow.loops == (Try.f3.params.toList ++ Rows.counterExactSpec.plain.varTypes Try.prog).any (Try.prog.loopsFrom ·))) = true := by kernel_rfl
theorem counterExact_k17 : ((Rows.counterExactRow.wideKeys == (Try.f3.params.toList ++ Rows.counterExactSpec.plain.varTypes Try.prog ++ Try.f3.resultTypes.toList).any (Try.prog.wideKeysFrom ·))) = true := by kernel_rfl
theorem counterExact_k18 : (Rows.counterExactSpec.vars.all (Try.prog.varReadable ·)) = true := by kernel_rfl
theorem counterExact_k19 : (Try.f3.resultTypes.all (fun t => Try.prog.readableRec t && decide (t < Try.prog.types.size))) = true := by kernel_rfl
theorem counterExact_k20 : ((Rows.counterExactRow.ifacesOut == Try.f3.resultTypes.toList.any (Try.prog.ifacesRec ·))) = true := by kernel_rfl
theorem counterExact_k21 : ((Rows.counterExactRow.loopsOut == Try.f3.resultTypes.toList.any (Try.prog.loopsFrom ·))) = true := by kernel_rfl
theorem counterExact_k22 : ((Rows.counterExactRow.plainKeys == Try.prog.plainKeys)) = true := by kernel_rfl
theorem counterExact_k23 : (Rows.counterExactRow.shortTexts.isNone) = true := by kernel_rfl
theorem counterExact_k24 : (Try.prog.stopsHeard) = true := by kernel_rfl
theorem counterExact_k25 : (Try.prog.mayEnter) = true := by exact try_mayEnter
theorem counterExact_k26 : ((Rows.counterExactRow.lifted == Try.prog.liftsFinal)) = true := by rw [try_lifts]; kernel_rfl
theorem counterExact_k27 : ((Try.prog.make == some Rows.counterExactRow.make)) = true := by rw [try_make]; kernel_rfl
theorem counterExact_k28 : ((Rows.counterExactRow.kinds == (if Rows.counterExactRow.domain.isEmpty then [] else Try.f3.params.toList.map fun t => match Try.prog.underlying t with | some (.int k) => some k | _ => none))) = true := by kernel_rfl
theorem counterExact_k29 : ((Rows.counterExactRow.pinned == Rows.counterExactRow.pinnedBy)) = true := by kernel_rfl
theorem counterExact_k30 : ((Rows.counterExactRow.veiled == (Try.f3.params.toList ++ Rows.counterExactSpec.plain.varTypes Try.prog ++ Try.f3.resultTypes.toList).any (Try.prog.veiledRec ·))) = true := by kernel_rfl
theorem counterExact_k31 : (Rows.counterExactRow.veiledFits Try.prog Try.f3.params.toList (Try.f3.params.toList ++ Rows.counterExactSpec.plain.varTypes Try.prog ++ Try.f3.resultTypes.toList)) = true := by kernel_rfl
set_option maxRecDepth 100000 in
theorem counterExact_closed : joinedFacts Try.prog 3 Try.f3 Rows.counterExactSpec Rows.counterExactRow = true := by
  unfold joinedFacts
  exact and_mk (and_mk (and_mk (and_mk (and_mk (and_mk (and_mk (and_mk (and_mk (and_mk (and_mk (and_mk (and_mk (and_mk (and_mk (and_mk (and_mk (and_mk (and_mk (and_mk (and_mk (and_mk (and_mk (and_mk (and_mk (and_mk (and_mk (and_mk (and_mk (and_mk (and_mk (counterExact_k0) counterExact_k1) counterExact_k2) counterExact_k3) counterExact_k4) counterExact_k5) counterExact_k6) counterExact_k7) counterExact_k8) counterExact_k9) counterExact_k10) counterExact_k11) counterExact_k12) counterExact_k13) counterExact_k14) counterExact_k15) counterExact_k16) counterExact_k17) counterExact_k18) counterExact_k19) counterExact_k20) counterExact_k21) counterExact_k22) counterExact_k23) counterExact_k24) counterExact_k25) counterExact_k26) counterExact_k27) counterExact_k28) counterExact_k29) counterExact_k30) counterExact_k31

theorem counterExact_holds : Rows.CounterExactSaid :=
  OpenClaim.holds_of_wide 3 Try.f3 rfl rfl rfl rfl rfl rfl rfl ⟨rfl, rfl, rfl, rfl, rfl⟩ rfl rfl rfl rfl rfl (by kernel_rfl) Try.func3 counterExact_closed
    (of_decide_eq_true (by kernel_rfl)) (by unfold Func.isWrapper; first | (rw [if_pos (by decide +kernel)]; kernel_rfl) | (rw [if_neg (by decide +kernel)]; exact ⟨rfl, rfl⟩))
    (fun os started H enc _ => counterExact_lifted os started H enc)

end Go.Proofs.Ythmbpjnpcjfdiaa

