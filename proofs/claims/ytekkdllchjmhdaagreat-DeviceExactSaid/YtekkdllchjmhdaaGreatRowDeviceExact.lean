/- DeviceExact holds: for every input the call of the law returns true, and each argument reads afterwards as it read before. No conditions. -/
import Derived.Test.YtekkdllchjmhdaaGreatRows
import Derived.Test.YtekkdllchjmhdaaGreatF4
import Derived.Test.YtekkdllchjmhdaaGreatF16
import Derived.Test.YtekkdllchjmhdaaGreatF17
import Derived.Test.YtekkdllchjmhdaaGreatF18
import Derived.ProofKit
set_option linter.unusedSectionVars false
set_option linter.unusedSimpArgs false
set_option linter.unusedVariables false
set_option maxHeartbeats 32000000
namespace Go.Proofs.YtekkdllchjmhdaaGreat
open Go.ChangeShapes Go.WideShapes Go.ChangeAt Go.RowKit Go.V
theorem MM:Tryz.f9.params.toList.all (Fx Tryz.prog 5)=true:=by kernel_rfl
theorem Up:Tryz.prog.underlying 22=some (.slice 3):=by kernel_rfl
theorem MT:Tryz.prog.underlying 3=some (.int .i64):=by kernel_rfl
theorem Uf:TreeT Tryz.prog 29 27 61 3 9:={ n:=by kernel_rfl,nc:=by kernel_rfl,i:=by kernel_rfl,ic:=by kernel_rfl,s:=by kernel_rfl,sc:=by kernel_rfl,t:=by kernel_rfl,tc:=by kernel_rfl,ns:=by kernel_rfl,nsc:=by kernel_rfl }
theorem Ug:∀ us:List VVal,us.length=Tryz.f9.params.toList.length->(∀ (i:Nat) (t:TypeId) (u:VVal),Tryz.f9.params.toList[i]?=some t->us[i]?=some u->FitV Tryz.prog 5 t u)->V 9 us []=some (.p (.bool true),[]):=by
 intro us hlen hfit
 rw [Tryz.params9] at hlen hfit
 match us,hlen with
 | [x0,x1,x2,x3,x4,x5],_ =>
  obtain ⟨a0,rfl,w0⟩:=(hfit 0 22 x0 rfl rfl).ints Up MT (by kernel_rfl)
  obtain ⟨a1,rfl,w1⟩:=(hfit 1 29 x1 rfl rfl).tree (k:=2) Uf
  obtain ⟨a2,rfl⟩:=(hfit 2 42 x2 rfl rfl).dev (k:=3) (tc:=34) (ti:=3) (by kernel_rfl) (by kernel_rfl) (by kernel_rfl) (by kernel_rfl) (by kernel_rfl) (by kernel_rfl) (⟨by kernel_rfl,by kernel_rfl,by kernel_rfl,by kernel_rfl,by kernel_rfl⟩:RowT Tryz.prog 3 35 112 2 [.i,.i]) (⟨by kernel_rfl,by kernel_rfl,by kernel_rfl,by kernel_rfl,by kernel_rfl⟩:RowT Tryz.prog 3 36 117 21 (List.replicate 21 .i)) (⟨by kernel_rfl,by kernel_rfl,by kernel_rfl,by kernel_rfl,by kernel_rfl⟩:RowT Tryz.prog 3 37 68 3 [.i,.i,.i]) (⟨by kernel_rfl,by kernel_rfl,by kernel_rfl,by kernel_rfl,by kernel_rfl⟩:RowT Tryz.prog 3 38 121 2 [.i,.i]) (⟨by kernel_rfl,by kernel_rfl,by kernel_rfl,by kernel_rfl,by kernel_rfl⟩:RowT Tryz.prog 3 39 50 6 [.i,.i,.i,.i,.b,.i]) (⟨by kernel_rfl,by kernel_rfl,by kernel_rfl,by kernel_rfl,by kernel_rfl⟩:RowT Tryz.prog 3 40 65 7 [.i,.i,.i,.i,.b,.i,.i])
  obtain ⟨a3,b3,rfl⟩:=(hfit 3 77 x3 rfl rfl).sgs (by kernel_rfl) (by kernel_rfl)
  obtain ⟨a4,rfl⟩:=(hfit 4 50 x4 rfl rfl).rq (by kernel_rfl) (by kernel_rfl)
  obtain ⟨a5,rfl,w5⟩:=(hfit 5 3 x5 rfl rfl).int MT
  exact Va a0 a1 w1 a2 a3 b3 a4 a5
set_option maxRecDepth 100000 in
theorem T7 (os:Os) (started:os.Started) (H:Type) (enc:TypeId × Value->H) :
  ReturnsInHanded {} Tryz.checked os 9 .any (Rows.deviceExactSpec.pre6 enc Tryz.prog Tryz.f9 Rows.deviceExactRow.domain false) (Rows.deviceExactSpec.post enc Tryz.prog Tryz.f9 false true false false):=by
 refine returnsInHanded_of_change (C:=Tryz.checked) zbt started (by kernel_rfl) Tryz.func9
  (ChangeSpec.witness6 (enc:=enc) (C:=Tryz.checked) false ⟨#[],#[.slice none 0 0,.agg #[.slice none 0 0,.int .i64 0],.agg #[.int .i64 0,.int .i64 0,.int .i64 0,.int .i64 0,.int .i64 0,.int .i64 0,.int .i64 0,.int .i64 0,.int .i64 0,.int .i64 0,.slice none 0 0,.slice none 0 0,.slice none 0 0,.slice none 0 0,.slice none 0 0,.slice none 0 0],.agg #[.int .i64 0,.int .i64 0,.int .i64 0,.int .i64 0,.int .i64 0,.int .i64 0,.int .i64 0],.agg #[.int .i64 0,.int .i64 0,.int .i64 0,.int .i64 0,.bool false,.int .i64 0],.int .i64 0],[]⟩ 8 (by kernel_rfl) (by kernel_rfl) (by kernel_rfl) (by kernel_rfl)) ?_
 intro W base args ds gs before hval0 hW _ _
 have hval:∀ (j:Nat) t v,Tryz.f9.params[j]?=some t->args[j]?=some v->Value.okWide Tryz.prog W .any base t v:=hval0
 have hW':=hW
 obtain ⟨p,q,hA0,hV,hbe,_,_⟩:=hW
 have hA:DataW.TrodAll enc Tryz.prog W 0 (fun _=>true) true Tryz.f9.params.toList args.toList ds p:=hA0
 letI:GK:=⟨fun _=>none⟩
 refine (Xp zcc (fun b B h=>by cases h) MM (fun j t v ht hv=>hval j t v (by simpa using ht) hv) hA Ug).mono fun e W' ⟨he,hb⟩=>?_
 subst he
 have hlen:=Nt hA
 rw [Tryz.params9] at hlen
 obtain ⟨hgs,_⟩:=trodVars_none hV
 have hfn:∀ ds:List (DataW H),ds.length=6->(Rows.deviceExactSpec.fn H (ds++[])).results=[.lit (.bool true)]/\(Rows.deviceExactSpec.fn H (ds++[])).args=ds/\(Rows.deviceExactSpec.fn H (ds++[])).vars=[]:=by
  intro ds hl
  match ds,hl with
  | [_,_,_,_,_,_],_=>exact ⟨rfl,rfl,rfl⟩
 obtain ⟨e1,e2,e3⟩:=hfn ds hlen
 exact ⟨_,rfl,Yy zad hW' rfl MM hA hV hbe (t:=4) (by kernel_rfl) (by kernel_rfl) (by rw [hgs];exact e1) (by rw [hgs];exact e2) (by rw [hgs];exact e3) hb⟩
theorem U9:(Rows.deviceExactRow.wf (OpenSpec.ofChange Rows.deviceExactSpec))=true:=by kernel_rfl
theorem U8:(laidOutB Tryz.prog)=true:=by kernel_rfl
theorem U7:(mapsRowed Tryz.prog)=true:=by kernel_rfl
theorem U6:(Tryz.f9.params.all (Tryz.prog.readableRec ·))=true:=by kernel_rfl
theorem U4:(namedTie Tryz.prog Rows.deviceExactRow.named Rows.deviceExactSpec.vars)=true:=by kernel_rfl
theorem U3:((Rows.deviceExactRow.stops == []))=true:=by kernel_rfl
theorem U2:((Tryz.prog.stops == []))=true:=by kernel_rfl
theorem U1:((Rows.deviceExactRow.knobs == []))=true:=by kernel_rfl
theorem U0:((Tryz.prog.stopKnobs == []))=true:=by kernel_rfl
theorem UZ:((Rows.deviceExactRow.inPlace == Tryz.prog.inPlace 9))=true:=by kernel_rfl
theorem UL:((Rows.deviceExactRow.unfollowed == Tryz.prog.unfollowed 9))=true:=by kernel_rfl
theorem UK:((Rows.deviceExactRow.recurses == Tryz.prog.recurses 9))=true:=by kernel_rfl
theorem UJ:((Rows.deviceExactRow.named == Tryz.prog.varsNamed 9))=true:=by kernel_rfl
theorem UI:((Rows.deviceExactRow.maps == (Tryz.f9.params.toList++Rows.deviceExactSpec.plain.varTypes Tryz.prog).any (Tryz.prog.mapsRec ·)))=true:=by kernel_rfl
theorem UH:((Rows.deviceExactRow.ifaces == (Tryz.f9.params.toList++Rows.deviceExactSpec.plain.varTypes Tryz.prog).any (Tryz.prog.ifacesRec ·)))=true:=by kernel_rfl
theorem UG:((Rows.deviceExactRow.mapsOut == Tryz.prog.mapsAmong Tryz.f9.resultTypes.toList))=true:=by kernel_rfl
theorem UF:((Rows.deviceExactRow.loops == (Tryz.f9.params.toList++Rows.deviceExactSpec.plain.varTypes Tryz.prog).any (Tryz.prog.loopsFrom ·)))=true:=by kernel_rfl
theorem UE:((Rows.deviceExactRow.wideKeys == (Tryz.f9.params.toList++Rows.deviceExactSpec.plain.varTypes Tryz.prog++Tryz.f9.resultTypes.toList).any (Tryz.prog.wideKeysFrom ·)))=true:=by kernel_rfl
theorem UD:(Rows.deviceExactSpec.vars.all (Tryz.prog.varReadable ·))=true:=by kernel_rfl
theorem UC:(Tryz.f9.resultTypes.all (fun t=>Tryz.prog.readableRec t && decide (t<Tryz.prog.types.size)))=true:=by kernel_rfl
theorem UB:((Rows.deviceExactRow.ifacesOut == Tryz.f9.resultTypes.toList.any (Tryz.prog.ifacesRec ·)))=true:=by kernel_rfl
theorem UA:((Rows.deviceExactRow.loopsOut == Tryz.f9.resultTypes.toList.any (Tryz.prog.loopsFrom ·)))=true:=by kernel_rfl
theorem Uz:((Rows.deviceExactRow.plainKeys == Tryz.prog.plainKeys))=true:=by kernel_rfl
theorem Uy:(Rows.deviceExactRow.shortTexts.isNone)=true:=by kernel_rfl
theorem Ux:(Tryz.prog.stopsHeard)=true:=by kernel_rfl
theorem Uw:(Tryz.prog.mayEnter)=true:=by exact Vx
theorem Uv:((Rows.deviceExactRow.lifted == Tryz.prog.liftsFinal))=true:=by rw [XZ];kernel_rfl
theorem Uu:((Tryz.prog.make == some Rows.deviceExactRow.make))=true:=by rw [Zf];kernel_rfl
theorem Ut:((Rows.deviceExactRow.kinds == (if Rows.deviceExactRow.domain.isEmpty then [] else Tryz.f9.params.toList.map fun t=>match Tryz.prog.underlying t with|some (.int k)=>some k|_=>none)))=true:=by kernel_rfl
theorem Us:((Rows.deviceExactRow.pinned == Rows.deviceExactRow.pinnedBy))=true:=by kernel_rfl
theorem Ur:((Rows.deviceExactRow.veiled == (Tryz.f9.params.toList++Rows.deviceExactSpec.plain.varTypes Tryz.prog++Tryz.f9.resultTypes.toList).any (Tryz.prog.veiledRec ·)))=true:=by kernel_rfl
theorem Uq:(Rows.deviceExactRow.veiledFits Tryz.prog Tryz.f9.params.toList (Tryz.f9.params.toList++Rows.deviceExactSpec.plain.varTypes Tryz.prog++Tryz.f9.resultTypes.toList))=true:=by kernel_rfl
set_option maxRecDepth 100000 in
theorem T8:joinedFacts Tryz.prog 9 Tryz.f9 Rows.deviceExactSpec Rows.deviceExactRow=true:=by
 unfold joinedFacts
 exact Bd (Bd (Bd (Bd (Bd (Bd (Bd (Bd (Bd (Bd (Bd (Bd (Bd (Bd (Bd (Bd (Bd (Bd (Bd (Bd (Bd (Bd (Bd (Bd (Bd (Bd (Bd (Bd (Bd (Bd (Bd (U9) U8) U7) U6) U4) U3) U2) U1) U0) UZ) UL) UK) UJ) UI) UH) UG) UF) UE) UD) UC) UB) UA) Uz) Uy) Ux) Uw) Uv) Uu) Ut) Us) Ur) Uq
theorem deviceExact_holds:Rows.DeviceExactSaid :=
 OpenClaim.holds_of_wide 9 Tryz.f9 rfl rfl rfl rfl rfl rfl rfl ⟨rfl,rfl,rfl,rfl,rfl⟩ rfl rfl rfl rfl rfl (by kernel_rfl) Tryz.func9 T8
  (of_decide_eq_true (by kernel_rfl)) (by unfold Func.isWrapper;first|(rw [if_pos (by decide +kernel)];kernel_rfl)|(rw [if_neg (by decide +kernel)];exact ⟨rfl,rfl⟩))
  (fun os started H enc _=>T7 os started H enc)
end Go.Proofs.YtekkdllchjmhdaaGreat
