/- Part 6 of the proof. -/
import Derived.Test.YtekkdllchjmhdaaGreatD1
import Derived.Test.YtekkdllchjmhdaaGreatD5
import Derived.Test.YtekkdllchjmhdaaGreatProg
import Derived.KernelRfl
set_option linter.unusedSectionVars false
set_option linter.unusedSimpArgs false
set_option linter.unusedVariables false
set_option maxHeartbeats 32000000
namespace Go.V
theorem ZX : ∀ f vf,prog f = some vf -> Hv Go.Proofs.Tryz.prog f vf = true:=by
 intro f vf h
 unfold prog at h
 split at h
 all_goals first | (cases h; done) | (cases h; kernel_rfl)
end Go.V
