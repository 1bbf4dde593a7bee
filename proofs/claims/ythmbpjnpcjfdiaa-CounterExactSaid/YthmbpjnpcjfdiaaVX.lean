/- The seat's value machine: its functions. -/
import Derived.Test.YthmbpjnpcjfdiaaVProg
import Derived.Test.YthmbpjnpcjfdiaaVMono
set_option linter.unusedSimpArgs false
set_option linter.unusedVariables false
namespace Go.V

noncomputable def XS : Sig := fun _ _ _ => none
noncomputable abbrev V : Sig := vcall prog XS

theorem XS_none {f : FuncId} {vf : VFunc} (hf : prog f = some vf) (args : List VVal) (H : List Ob) : XS f args H = none := rfl

theorem V_fix {f : FuncId} {vf : VFunc} (hf : prog f = some vf) {args : List VVal} {H : List Ob} {r : VVal × List Ob} (h : callF V vf args H = some r) : V f args H = some r := vcall_fix (XS_none hf) hf h
theorem V_wp {f : FuncId} {vf : VFunc} (hf : prog f = some vf) {args : List VVal} {H : List Ob} {r : VVal × List Ob} (h : wp (callF V vf args H) (· = r)) : V f args H = some r := V_fix hf (eq_of_wp h)

end Go.V

