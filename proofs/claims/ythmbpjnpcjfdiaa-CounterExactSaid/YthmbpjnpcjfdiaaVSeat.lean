/- The seat's program and the value machine: its calls are the model's. -/
import Derived.Test.YthmbpjnpcjfdiaaVOk
import Derived.Test.YthmbpjnpcjfdiaaVD
import Derived.Test.YthmbpjnpcjfdiaaVT
set_option linter.unusedSimpArgs false
set_option linter.unusedVariables false
namespace Go.V
open Go.RowKit

theorem V_sound : CallsSound Go.Proofs.Try.prog V := vcall_sound (fun _ _ _ _ _ h => by cases h) (by kernel_rfl) prog_ok

theorem own_try : ownKnob Go.Proofs.Try.prog.godebug = none := by kernel_rfl
theorem laid_try : laidOutB Go.Proofs.Try.prog = true := by kernel_rfl

theorem trodAll_len {H : Type} {enc : TypeId × Value → H} {P : Program} {w : World} {base : Nat} {sp : Nat → Bool} {hd : Bool} : ∀ {ts : List TypeId} {vs : List Value} {ds : List (DataW H)} {ps : List MemPlace}, DataW.TrodAll enc P w base sp hd ts vs ds ps → ds.length = ts.length
  | [], _, _, _, h => by
    obtain ⟨rfl, rfl, rfl⟩ := ChangeShapes.trodAll_nil h
    rfl
  | _ :: _, _, _, _, h => by
    obtain ⟨v, vs1, d, ds1, a, b, rfl, rfl, rfl, _, h2⟩ := ChangeShapes.trodAll_cons h
    simp [trodAll_len h2]

end Go.V

