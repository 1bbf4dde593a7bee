/- Part 9 of what the row stands on: the value machine and its walks. Nothing is assumed. -/
import Derived.Test.YthmbpjnpcjfdiaaGreatE1
import Derived.Test.YthmbpjnpcjfdiaaGreatE8
import Derived.Test.YthmbpjnpcjfdiaaGreatProg
import Derived.KernelRfl
set_option linter.unusedSimpArgs false
set_option linter.unusedVariables false
namespace Go.V
theorem prog_ok : ∀ f vf, prog f = some vf → okFunc Go.Proofs.Tryz.prog f vf = true := by
 intro f vf h
 unfold prog at h
 split at h
 all_goals first | (cases h; done) | (cases h; kernel_rfl)
end Go.V
