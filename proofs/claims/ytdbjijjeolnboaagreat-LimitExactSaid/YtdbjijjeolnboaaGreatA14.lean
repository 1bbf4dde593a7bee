import Derived.Test.YtdbjijjeolnboaaGreatA1
import Derived.Test.YtdbjijjeolnboaaGreatA13
import Derived.Test.YtdbjijjeolnboaaGreatProg
import Derived.KernelRfl
set_option linter.unusedSectionVars false
set_option linter.unusedSimpArgs false
set_option linter.unusedVariables false
set_option maxHeartbeats 32000000
namespace Go.V
theorem zbs : ∀ f vf,prog f = some vf -> Ix Go.Proofs.Tryz.prog f vf = true:=by
 intro f vf h
 unfold prog at h
 split at h
 all_goals first | (cases h; done) | (cases h; kernel_rfl)
end Go.V
