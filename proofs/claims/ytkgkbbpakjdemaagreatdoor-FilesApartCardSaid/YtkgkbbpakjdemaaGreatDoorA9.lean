/- Part 9 of the proof. -/
import Derived.Test.YtkgkbbpakjdemaaGreatDoorA1
import Derived.Test.YtkgkbbpakjdemaaGreatDoorA8
import Derived.Test.YtkgkbbpakjdemaaGreatDoorProg
import Derived.KernelRfl
set_option linter.unusedSectionVars false
set_option linter.unusedSimpArgs false
set_option linter.unusedVariables false
namespace Go.V
theorem prog_ok : ∀ f vf,prog f = some vf -> okFunc Go.Proofs.Tryz.prog f vf = true:=by
 intro f vf h
 unfold prog at h
 split at h
 all_goals first | (cases h; done) | (cases h; kernel_rfl)
end Go.V
