/- Part 6 of the proof. -/
import Derived.Test.YtekkdllchjmhdaaGreatE1
import Derived.Test.YtekkdllchjmhdaaGreatE5
import Derived.Test.YtekkdllchjmhdaaGreatProg
import Derived.KernelRfl
set_option linter.unusedSectionVars false
set_option linter.unusedSimpArgs false
set_option linter.unusedVariables false
set_option maxHeartbeats 32000000
namespace Go.V
set_option maxRecDepth 100000 in
theorem zae:∀ f vf,prog f=some vf->HU Go.Proofs.Tryz.prog f vf=true:=by
 intro f vf h
 unfold prog at h
 split at h
 all_goals first|(cases h;done)|(cases h;kernel_rfl)
end Go.V
