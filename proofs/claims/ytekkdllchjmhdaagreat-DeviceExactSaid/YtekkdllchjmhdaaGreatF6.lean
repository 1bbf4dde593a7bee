/- Part 6 of the proof. -/
import Derived.Test.YtekkdllchjmhdaaGreatF1
import Derived.Test.YtekkdllchjmhdaaGreatF5
import Derived.Test.YtekkdllchjmhdaaGreatProg
import Derived.KernelRfl
set_option linter.unusedSectionVars false
set_option linter.unusedSimpArgs false
set_option linter.unusedVariables false
set_option maxHeartbeats 32000000
set_option maxHeartbeats 32000000
namespace Go.V
set_option maxRecDepth 100000 in
theorem ZP:∀ f vf,Mi f=some vf->Ha Go.Proofs.Tryz.prog f vf=true:=by
 intro f vf h
 unfold Mi at h
 split at h
 all_goals first|(cases h;done)|(cases h;kernel_rfl)
set_option maxRecDepth 100000 in
theorem zbs:∀ f vf,prog f=some vf->Ha Go.Proofs.Tryz.prog f vf=true:=by
 intro f vf h
 unfold prog at h
 split at h
 all_goals first|(cases h;kernel_rfl)|exact ZP _ _ h
end Go.V
