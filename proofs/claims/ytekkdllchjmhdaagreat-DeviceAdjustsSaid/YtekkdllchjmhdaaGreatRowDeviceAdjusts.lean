/- DeviceAdjusts holds: for every input the call of the law returns true, and each argument reads afterwards as it read before. No conditions. -/
import Derived.Test.YtekkdllchjmhdaaGreatRows
import Derived.Test.YtekkdllchjmhdaaGreatE4
import Derived.Test.YtekkdllchjmhdaaGreatE16
import Derived.Test.YtekkdllchjmhdaaGreatE17
import Derived.Test.YtekkdllchjmhdaaGreatE18
import Derived.ProofKit
set_option linter.unusedSectionVars false
set_option linter.unusedSimpArgs false
set_option linter.unusedVariables false
set_option maxHeartbeats 32000000
namespace Go.Proofs.YtekkdllchjmhdaaGreat
open Go.ChangeShapes Go.WideShapes Go.ChangeAt Go.RowKit Go.V
theorem MM:Tryz.f6.params.toList.all (Fp Tryz.prog 4)=true:=by kernel_rfl
theorem S6:Tryz.prog.underlying 22=some (.slice 3):=by kernel_rfl
theorem TA:Tryz.prog.underlying 3=some (.int .i64):=by kernel_rfl
theorem Tu:CfgT Tryz.prog 34 32 3:={ c:=by kernel_rfl,cc:=by kernel_rfl,m:=by kernel_rfl,mc:=by kernel_rfl,i:=by kernel_rfl,ic:=by kernel_rfl }
theorem S4:∀ us:List VVal,us.length=Tryz.f6.params.toList.length->(∀ (i:Nat) (t:TypeId) (u:VVal),Tryz.f6.params.toList[i]?=some t->us[i]?=some u->FitV Tryz.prog 4 t u)->V 6 us []=some (.p (.bool true),[]):=by
 intro us hlen hfit
 rw [Tryz.params6] at hlen hfit
 match us,hlen with
 | [x0,x1],_ =>
  obtain ⟨a0,rfl,w0⟩:=(hfit 0 22 x0 rfl rfl).ints S6 TA (by kernel_rfl)
  obtain ⟨m1,p1,q1,rfl⟩:=(hfit 1 34 x1 rfl rfl).cfg (k:=2) Tu
  exact TL a0 m1 p1 q1
set_option maxRecDepth 100000 in
theorem S2 (os:Os) (started:os.Started) (H:Type) (enc:TypeId × Value->H) :
  ReturnsInHanded {} Tryz.checked os 6 .any (Rows.deviceAdjustsSpec.pre6 enc Tryz.prog Tryz.f6 Rows.deviceAdjustsRow.domain false) (Rows.deviceAdjustsSpec.post enc Tryz.prog Tryz.f6 false true false false):=by
 refine returnsInHanded_of_change (C:=Tryz.checked) zaf started (by kernel_rfl) Tryz.func6
  (ChangeSpec.witness6 (enc:=enc) (C:=Tryz.checked) false ⟨#[],#[.slice none 0 0,.agg #[.int .i64 0,.int .i64 0,.int .i64 0,.int .i64 0,.int .i64 0,.int .i64 0,.int .i64 0]],[]⟩ 8 (by kernel_rfl) (by kernel_rfl) (by kernel_rfl) (by kernel_rfl)) ?_
 intro W base args ds gs before hval0 hW _ _
 have hval:∀ (j:Nat) t v,Tryz.f6.params[j]?=some t->args[j]?=some v->Value.okWide Tryz.prog W .any base t v:=hval0
 have hW':=hW
 obtain ⟨p,q,hA0,hV,hbe,_,_⟩:=hW
 have hA:DataW.TrodAll enc Tryz.prog W 0 (fun _=>true) true Tryz.f6.params.toList args.toList ds p:=hA0
 letI:GK:=⟨fun _=>none⟩
 refine (Wl zaZ (fun b B h=>by cases h) MM (fun j t v ht hv=>hval j t v (by simpa using ht) hv) hA S4).mono fun e W' ⟨he,hb⟩=>?_
 subst he
 have hlen:=Nt hA
 rw [Tryz.params6] at hlen
 obtain ⟨hgs,_⟩:=trodVars_none hV
 have hfn:∀ ds:List (DataW H),ds.length=2->(Rows.deviceAdjustsSpec.fn H (ds++[])).results=[.lit (.bool true)]/\(Rows.deviceAdjustsSpec.fn H (ds++[])).args=ds/\(Rows.deviceAdjustsSpec.fn H (ds++[])).vars=[]:=by
  intro ds hl
  match ds,hl with
  | [_,_],_=>exact ⟨rfl,rfl,rfl⟩
 obtain ⟨e1,e2,e3⟩:=hfn ds hlen
 exact ⟨_,rfl,Xm Y2 hW' rfl MM hA hV hbe (t:=4) (by kernel_rfl) (by kernel_rfl) (by rw [hgs];exact e1) (by rw [hgs];exact e2) (by rw [hgs];exact e3) hb⟩
theorem TK:(Rows.deviceAdjustsRow.wf (OpenSpec.ofChange Rows.deviceAdjustsSpec))=true:=by kernel_rfl
theorem TJ:(laidOutB Tryz.prog)=true:=by kernel_rfl
theorem TI:(mapsRowed Tryz.prog)=true:=by kernel_rfl
theorem TH:(Tryz.f6.params.all (Tryz.prog.readableRec ·))=true:=by kernel_rfl
theorem TG:(namedTie Tryz.prog Rows.deviceAdjustsRow.named Rows.deviceAdjustsSpec.vars)=true:=by kernel_rfl
theorem TF:((Rows.deviceAdjustsRow.stops == []))=true:=by kernel_rfl
theorem TE:((Tryz.prog.stops == []))=true:=by kernel_rfl
theorem TD:((Rows.deviceAdjustsRow.knobs == []))=true:=by kernel_rfl
theorem TC:((Tryz.prog.stopKnobs == []))=true:=by kernel_rfl
theorem TB:((Rows.deviceAdjustsRow.inPlace == Tryz.prog.inPlace 6))=true:=by kernel_rfl
theorem Tt:((Rows.deviceAdjustsRow.unfollowed == Tryz.prog.unfollowed 6))=true:=by kernel_rfl
theorem Ts:((Rows.deviceAdjustsRow.recurses == Tryz.prog.recurses 6))=true:=by kernel_rfl
theorem Tq:((Rows.deviceAdjustsRow.named == Tryz.prog.varsNamed 6))=true:=by kernel_rfl
theorem Tp:((Rows.deviceAdjustsRow.maps == (Tryz.f6.params.toList++Rows.deviceAdjustsSpec.plain.varTypes Tryz.prog).any (Tryz.prog.mapsRec ·)))=true:=by kernel_rfl
theorem To:((Rows.deviceAdjustsRow.ifaces == (Tryz.f6.params.toList++Rows.deviceAdjustsSpec.plain.varTypes Tryz.prog).any (Tryz.prog.ifacesRec ·)))=true:=by kernel_rfl
theorem Tn:((Rows.deviceAdjustsRow.mapsOut == Tryz.prog.mapsAmong Tryz.f6.resultTypes.toList))=true:=by kernel_rfl
theorem Tm:((Rows.deviceAdjustsRow.loops == (Tryz.f6.params.toList++Rows.deviceAdjustsSpec.plain.varTypes Tryz.prog).any (Tryz.prog.loopsFrom ·)))=true:=by kernel_rfl
theorem Tl:((Rows.deviceAdjustsRow.wideKeys == (Tryz.f6.params.toList++Rows.deviceAdjustsSpec.plain.varTypes Tryz.prog++Tryz.f6.resultTypes.toList).any (Tryz.prog.wideKeysFrom ·)))=true:=by kernel_rfl
theorem Tk:(Rows.deviceAdjustsSpec.vars.all (Tryz.prog.varReadable ·))=true:=by kernel_rfl
theorem Tj:(Tryz.f6.resultTypes.all (fun t=>Tryz.prog.readableRec t && decide (t<Tryz.prog.types.size)))=true:=by kernel_rfl
theorem Ti:((Rows.deviceAdjustsRow.ifacesOut == Tryz.f6.resultTypes.toList.any (Tryz.prog.ifacesRec ·)))=true:=by kernel_rfl
theorem Th:((Rows.deviceAdjustsRow.loopsOut == Tryz.f6.resultTypes.toList.any (Tryz.prog.loopsFrom ·)))=true:=by kernel_rfl
theorem Tg:((Rows.deviceAdjustsRow.plainKeys == Tryz.prog.plainKeys))=true:=by kernel_rfl
theorem Tf:(Rows.deviceAdjustsRow.shortTexts.isNone)=true:=by kernel_rfl
theorem Te:(Tryz.prog.stopsHeard)=true:=by kernel_rfl
theorem Td:(Tryz.prog.mayEnter)=true:=by exact Ut
theorem Tc:((Rows.deviceAdjustsRow.lifted == Tryz.prog.liftsFinal))=true:=by rw [WQ];kernel_rfl
theorem Tb:((Tryz.prog.make == some Rows.deviceAdjustsRow.make))=true:=by rw [X3];kernel_rfl
theorem Ta:((Rows.deviceAdjustsRow.kinds == (if Rows.deviceAdjustsRow.domain.isEmpty then [] else Tryz.f6.params.toList.map fun t=>match Tryz.prog.underlying t with|some (.int k)=>some k|_=>none)))=true:=by kernel_rfl
theorem S9:((Rows.deviceAdjustsRow.pinned == Rows.deviceAdjustsRow.pinnedBy))=true:=by kernel_rfl
theorem S8:((Rows.deviceAdjustsRow.veiled == (Tryz.f6.params.toList++Rows.deviceAdjustsSpec.plain.varTypes Tryz.prog++Tryz.f6.resultTypes.toList).any (Tryz.prog.veiledRec ·)))=true:=by kernel_rfl
theorem S7:(Rows.deviceAdjustsRow.veiledFits Tryz.prog Tryz.f6.params.toList (Tryz.f6.params.toList++Rows.deviceAdjustsSpec.plain.varTypes Tryz.prog++Tryz.f6.resultTypes.toList))=true:=by kernel_rfl
set_option maxRecDepth 100000 in
theorem S3:joinedFacts Tryz.prog 6 Tryz.f6 Rows.deviceAdjustsSpec Rows.deviceAdjustsRow=true:=by
 unfold joinedFacts
 exact A9 (A9 (A9 (A9 (A9 (A9 (A9 (A9 (A9 (A9 (A9 (A9 (A9 (A9 (A9 (A9 (A9 (A9 (A9 (A9 (A9 (A9 (A9 (A9 (A9 (A9 (A9 (A9 (A9 (A9 (A9 (TK) TJ) TI) TH) TG) TF) TE) TD) TC) TB) Tt) Ts) Tq) Tp) To) Tn) Tm) Tl) Tk) Tj) Ti) Th) Tg) Tf) Te) Td) Tc) Tb) Ta) S9) S8) S7
theorem deviceAdjusts_holds:Rows.DeviceAdjustsSaid :=
 OpenClaim.holds_of_wide 6 Tryz.f6 rfl rfl rfl rfl rfl rfl rfl ⟨rfl,rfl,rfl,rfl,rfl⟩ rfl rfl rfl rfl rfl (by kernel_rfl) Tryz.func6 S3
  (of_decide_eq_true (by kernel_rfl)) (by unfold Func.isWrapper;first|(rw [if_pos (by decide +kernel)];kernel_rfl)|(rw [if_neg (by decide +kernel)];exact ⟨rfl,rfl⟩))
  (fun os started H enc _=>S2 os started H enc)
end Go.Proofs.YtekkdllchjmhdaaGreat
