/- Part 6 of the proof. -/
import Derived.Test.YtekkdllchjmhdaaGreatC1
import Derived.Test.YtekkdllchjmhdaaGreatC5
import Derived.Test.YtekkdllchjmhdaaGreatProg
import Derived.KernelRfl
set_option linter.unusedSectionVars false
set_option linter.unusedSimpArgs false
set_option linter.unusedVariables false
namespace Go.V
theorem prog_ok : ∀ f vf,prog f = some vf -> okFunc Go.Proofs.Tryz.prog f vf = true:=by
 intro f vf h
 unfold prog at h
 split at h
 all_goals first | (cases h; done) | (cases h; kernel_rfl)
end Go.V
