/-
  No cell of these rows narrows 'for every input' (looked for: loops, veiled, ifaces, maps, wideKeys, modest, calm, conditions, laid).
  DERIVED. THE GIVEN ROWS OF THIS SEAT. 7 by the template 'for every input the law returns true; each argument reads behind the call as it read before'; 0 by the template 'total and deterministic' (their statements: YtekkdllchjmhdaaGreatTotals.lean).
  GIVEN WITH THE SEED: the statements are not yours to turn. If you find one false, say at which input.
  Laid BY PROGRAM, IN A SANDBOX (cutbox-rows.mjs): the forced cells as the released guide's own fill.sh prints them over the translation c06aeef8c09e36b5… (all of the seat's roots in one cut). By AI agents, Wed Nov 11 2026. No macro, syntax, notation, axiom, sorry.
-/
import Derived.Test.YtekkdllchjmhdaaGreatChecked
import GoSem.Claim
import GoSem.ClaimJoined
import GoSem.ClaimMapViews
import Derived.JoinedTies
import Derived.KernelRfl
namespace Go.Proofs.YtekkdllchjmhdaaGreat
/- THE CELL 'sum', in the pinned program and in every row, IS THE sha256 OF THE DUMP (.gsa) THAT YtekkdllchjmhdaaGreatProg.lean LOADS. Nothing in Lean hashes anything: it is a label: what it is worth is what the hold of that sum in a sandbox is worth. -/
noncomputable def Tryz.pinned : Pinned := { name := "ytekkdllchjmhdaagreat", sum := "c06aeef8c09e36b5301098a03b6a1b6da864243bf9af6b35bb4d00ffe6d509a4", checked := Tryz.checked }
namespace Rows
def none {H : Type} : Left H := { results := [], args := [] }

/-- 'groupcontrollaw34.DeviceWorks': WHATEVER THE INPUT: true; the input reads as it did. -/
def deviceWorksSpec : ChangeSpec := { name := "deviceWorks", fn := fun _ => fun
  | [d] => { results := [.lit (.bool true)], args := [d] }
  | _ => none }
def deviceWorksRow : OpenClaim := { program := "ytekkdllchjmhdaagreat", sum := "c06aeef8c09e36b5301098a03b6a1b6da864243bf9af6b35bb4d00ffe6d509a4", func := "groupcontrol/groupcontrollaw34.DeviceWorks", spec := "deviceWorks", inPlace := ["slices.overlaps[groupcontrol/api.Flight]"], unfollowed := true, recurses := true, apart := false }
def DeviceWorksSaid : Prop := deviceWorksRow.holds Tryz.pinned (OpenSpec.ofChange deviceWorksSpec)

/-- ITS FALSE NEIGHBOUR: 'it returns false'. Refute it at one input. -/
def deviceWorksWrong : ChangeSpec := { name := "deviceWorks", fn := fun _ => fun
  | [d] => { results := [.lit (.bool false)], args := [d] }
  | _ => none }
def DeviceWorksWrongFalsely : Prop := deviceWorksRow.holds Tryz.pinned (OpenSpec.ofChange deviceWorksWrong)

/-- 'groupcontrollaw34.DeviceOrders': WHATEVER THE INPUT: true; the input reads as it did. -/
def deviceOrdersSpec : ChangeSpec := { name := "deviceOrders", fn := fun _ => fun
  | [d] => { results := [.lit (.bool true)], args := [d] }
  | _ => none }
def deviceOrdersRow : OpenClaim := { program := "ytekkdllchjmhdaagreat", sum := "c06aeef8c09e36b5301098a03b6a1b6da864243bf9af6b35bb4d00ffe6d509a4", func := "groupcontrol/groupcontrollaw34.DeviceOrders", spec := "deviceOrders", inPlace := ["slices.overlaps[groupcontrol/api.Flight]"], unfollowed := true, recurses := true, apart := false }
def DeviceOrdersSaid : Prop := deviceOrdersRow.holds Tryz.pinned (OpenSpec.ofChange deviceOrdersSpec)

/-- ITS FALSE NEIGHBOUR: 'it returns false'. Refute it at one input. -/
def deviceOrdersWrong : ChangeSpec := { name := "deviceOrders", fn := fun _ => fun
  | [d] => { results := [.lit (.bool false)], args := [d] }
  | _ => none }
def DeviceOrdersWrongFalsely : Prop := deviceOrdersRow.holds Tryz.pinned (OpenSpec.ofChange deviceOrdersWrong)

/-- 'groupcontrollaw34.DeviceDepths': WHATEVER THE INPUT: true; the input reads as it did. -/
def deviceDepthsSpec : ChangeSpec := { name := "deviceDepths", fn := fun _ => fun
  | [d] => { results := [.lit (.bool true)], args := [d] }
  | _ => none }
def deviceDepthsRow : OpenClaim := { program := "ytekkdllchjmhdaagreat", sum := "c06aeef8c09e36b5301098a03b6a1b6da864243bf9af6b35bb4d00ffe6d509a4", func := "groupcontrol/groupcontrollaw34.DeviceDepths", spec := "deviceDepths", inPlace := ["slices.overlaps[groupcontrol/api.Flight]"], unfollowed := true, recurses := true, apart := false }
def DeviceDepthsSaid : Prop := deviceDepthsRow.holds Tryz.pinned (OpenSpec.ofChange deviceDepthsSpec)

/-- ITS FALSE NEIGHBOUR: 'it returns false'. Refute it at one input. -/
def deviceDepthsWrong : ChangeSpec := { name := "deviceDepths", fn := fun _ => fun
  | [d] => { results := [.lit (.bool false)], args := [d] }
  | _ => none }
def DeviceDepthsWrongFalsely : Prop := deviceDepthsRow.holds Tryz.pinned (OpenSpec.ofChange deviceDepthsWrong)

/-- 'groupcontrollaw34.DeviceAdjusts': WHATEVER THE INPUT: true; the input reads as it did. -/
def deviceAdjustsSpec : ChangeSpec := { name := "deviceAdjusts", fn := fun _ => fun
  | [d1, d2] => { results := [.lit (.bool true)], args := [d1, d2] }
  | _ => none }
def deviceAdjustsRow : OpenClaim := { program := "ytekkdllchjmhdaagreat", sum := "c06aeef8c09e36b5301098a03b6a1b6da864243bf9af6b35bb4d00ffe6d509a4", func := "groupcontrol/groupcontrollaw34.DeviceAdjusts", spec := "deviceAdjusts", inPlace := ["slices.overlaps[groupcontrol/api.Flight]"], unfollowed := true, recurses := true, apart := false }
def DeviceAdjustsSaid : Prop := deviceAdjustsRow.holds Tryz.pinned (OpenSpec.ofChange deviceAdjustsSpec)

/-- ITS FALSE NEIGHBOUR: 'it returns false'. Refute it at one input. -/
def deviceAdjustsWrong : ChangeSpec := { name := "deviceAdjusts", fn := fun _ => fun
  | [d1, d2] => { results := [.lit (.bool false)], args := [d1, d2] }
  | _ => none }
def DeviceAdjustsWrongFalsely : Prop := deviceAdjustsRow.holds Tryz.pinned (OpenSpec.ofChange deviceAdjustsWrong)

/-- 'groupcontrollaw34.DeviceLimits': WHATEVER THE INPUT: true; the input reads as it did. -/
def deviceLimitsSpec : ChangeSpec := { name := "deviceLimits", fn := fun _ => fun
  | [d] => { results := [.lit (.bool true)], args := [d] }
  | _ => none }
def deviceLimitsRow : OpenClaim := { program := "ytekkdllchjmhdaagreat", sum := "c06aeef8c09e36b5301098a03b6a1b6da864243bf9af6b35bb4d00ffe6d509a4", func := "groupcontrol/groupcontrollaw34.DeviceLimits", spec := "deviceLimits", inPlace := ["slices.overlaps[groupcontrol/api.Flight]"], unfollowed := true, recurses := true, apart := false }
def DeviceLimitsSaid : Prop := deviceLimitsRow.holds Tryz.pinned (OpenSpec.ofChange deviceLimitsSpec)

/-- ITS FALSE NEIGHBOUR: 'it returns false'. Refute it at one input. -/
def deviceLimitsWrong : ChangeSpec := { name := "deviceLimits", fn := fun _ => fun
  | [d] => { results := [.lit (.bool false)], args := [d] }
  | _ => none }
def DeviceLimitsWrongFalsely : Prop := deviceLimitsRow.holds Tryz.pinned (OpenSpec.ofChange deviceLimitsWrong)

/-- 'groupcontrollaw34.DeviceCaps': WHATEVER THE INPUT: true; the input reads as it did. -/
def deviceCapsSpec : ChangeSpec := { name := "deviceCaps", fn := fun _ => fun
  | [d] => { results := [.lit (.bool true)], args := [d] }
  | _ => none }
def deviceCapsRow : OpenClaim := { program := "ytekkdllchjmhdaagreat", sum := "c06aeef8c09e36b5301098a03b6a1b6da864243bf9af6b35bb4d00ffe6d509a4", func := "groupcontrol/groupcontrollaw34.DeviceCaps", spec := "deviceCaps", inPlace := ["slices.overlaps[groupcontrol/api.Flight]"], unfollowed := true, recurses := true, apart := false }
def DeviceCapsSaid : Prop := deviceCapsRow.holds Tryz.pinned (OpenSpec.ofChange deviceCapsSpec)

/-- ITS FALSE NEIGHBOUR: 'it returns false'. Refute it at one input. -/
def deviceCapsWrong : ChangeSpec := { name := "deviceCaps", fn := fun _ => fun
  | [d] => { results := [.lit (.bool false)], args := [d] }
  | _ => none }
def DeviceCapsWrongFalsely : Prop := deviceCapsRow.holds Tryz.pinned (OpenSpec.ofChange deviceCapsWrong)

/-- 'groupcontrollaw34.DeviceExact': WHATEVER THE INPUT: true; the input reads as it did. -/
def deviceExactSpec : ChangeSpec := { name := "deviceExact", fn := fun _ => fun
  | [d1, d2, d3, d4, d5, d6] => { results := [.lit (.bool true)], args := [d1, d2, d3, d4, d5, d6] }
  | _ => none }
def deviceExactRow : OpenClaim := { program := "ytekkdllchjmhdaagreat", sum := "c06aeef8c09e36b5301098a03b6a1b6da864243bf9af6b35bb4d00ffe6d509a4", func := "groupcontrol/groupcontrollaw34.DeviceExact", spec := "deviceExact", inPlace := ["slices.overlaps[groupcontrol/api.Flight]"], unfollowed := true, recurses := true, apart := false }
def DeviceExactSaid : Prop := deviceExactRow.holds Tryz.pinned (OpenSpec.ofChange deviceExactSpec)

/-- ITS FALSE NEIGHBOUR: 'it returns false'. Refute it at one input. -/
def deviceExactWrong : ChangeSpec := { name := "deviceExact", fn := fun _ => fun
  | [d1, d2, d3, d4, d5, d6] => { results := [.lit (.bool false)], args := [d1, d2, d3, d4, d5, d6] }
  | _ => none }
def DeviceExactWrongFalsely : Prop := deviceExactRow.holds Tryz.pinned (OpenSpec.ofChange deviceExactWrong)

/- THE SECOND FORM. 'bulk': how many values and letters a reading holds, each counted each time it is reached (what is shared counts as often as it is met; a slice's spare places count too). A statement '..UptoSaid' is the law's where the arguments, and the package variables that the reading takes, are together of bulk at most 1048576: NARROWER than '..Said'. Prove '..Said' where nothing that the law and all that it calls make is longer than what came in: it says more and counts as full. Else prove '..UptoSaid'. A law counts once. -/
mutual
def uptoBulk {H : Type} : DataW H → Nat
  | .lit (.string bytes) => bytes.length + 1
  | .lit _ => 1
  | .nil => 1
  | .ptr d => uptoBulk d + 1
  | .slice elems spare => uptoBulkAll elems + uptoBulkAll spare + 1
  | .agg parts => uptoBulkAll parts + 1
  | .iface _ d => uptoBulk d + 1
  | .map entries => uptoBulkEntries entries + 1
  | .held _ => 1
def uptoBulkAll {H : Type} : List (DataW H) → Nat
  | [] => 0
  | d :: r => uptoBulk d + uptoBulkAll r
def uptoBulkEntries {H : Type} : List (Lit × DataW H) → Nat
  | [] => 0
  | x :: r => uptoBulkEntry x + uptoBulkEntries r
def uptoBulkEntry {H : Type} : Lit × DataW H → Nat
  | (.string bytes, d) => bytes.length + uptoBulk d + 1
  | (_, d) => uptoBulk d + 1
 end
def uptoSmall : (H : Type) → List (DataW H) → Bool := fun _ ds => decide (uptoBulkAll ds ≤ 1048576)
def OpenSpec.upto (s : _root_.Go.ChangeSpec) : _root_.Go.OpenSpec := { _root_.Go.OpenSpec.ofChange s with cond := some uptoSmall }

/-- 'groupcontrollaw34.DeviceWorks', WHERE WHAT IT READS IS OF BULK AT MOST 1048576: true; the input reads as it did. -/
def deviceWorksUptoRow : OpenClaim := { program := "ytekkdllchjmhdaagreat", sum := "c06aeef8c09e36b5301098a03b6a1b6da864243bf9af6b35bb4d00ffe6d509a4", func := "groupcontrol/groupcontrollaw34.DeviceWorks", spec := "deviceWorks", inPlace := ["slices.overlaps[groupcontrol/api.Flight]"], unfollowed := true, recurses := true, apart := false, narrowed := true }
def DeviceWorksUptoSaid : Prop := deviceWorksUptoRow.holds Tryz.pinned (OpenSpec.upto deviceWorksSpec)

/-- 'groupcontrollaw34.DeviceOrders', WHERE WHAT IT READS IS OF BULK AT MOST 1048576: true; the input reads as it did. -/
def deviceOrdersUptoRow : OpenClaim := { program := "ytekkdllchjmhdaagreat", sum := "c06aeef8c09e36b5301098a03b6a1b6da864243bf9af6b35bb4d00ffe6d509a4", func := "groupcontrol/groupcontrollaw34.DeviceOrders", spec := "deviceOrders", inPlace := ["slices.overlaps[groupcontrol/api.Flight]"], unfollowed := true, recurses := true, apart := false, narrowed := true }
def DeviceOrdersUptoSaid : Prop := deviceOrdersUptoRow.holds Tryz.pinned (OpenSpec.upto deviceOrdersSpec)

/-- 'groupcontrollaw34.DeviceDepths', WHERE WHAT IT READS IS OF BULK AT MOST 1048576: true; the input reads as it did. -/
def deviceDepthsUptoRow : OpenClaim := { program := "ytekkdllchjmhdaagreat", sum := "c06aeef8c09e36b5301098a03b6a1b6da864243bf9af6b35bb4d00ffe6d509a4", func := "groupcontrol/groupcontrollaw34.DeviceDepths", spec := "deviceDepths", inPlace := ["slices.overlaps[groupcontrol/api.Flight]"], unfollowed := true, recurses := true, apart := false, narrowed := true }
def DeviceDepthsUptoSaid : Prop := deviceDepthsUptoRow.holds Tryz.pinned (OpenSpec.upto deviceDepthsSpec)

/-- 'groupcontrollaw34.DeviceAdjusts', WHERE WHAT IT READS IS OF BULK AT MOST 1048576: true; the input reads as it did. -/
def deviceAdjustsUptoRow : OpenClaim := { program := "ytekkdllchjmhdaagreat", sum := "c06aeef8c09e36b5301098a03b6a1b6da864243bf9af6b35bb4d00ffe6d509a4", func := "groupcontrol/groupcontrollaw34.DeviceAdjusts", spec := "deviceAdjusts", inPlace := ["slices.overlaps[groupcontrol/api.Flight]"], unfollowed := true, recurses := true, apart := false, narrowed := true }
def DeviceAdjustsUptoSaid : Prop := deviceAdjustsUptoRow.holds Tryz.pinned (OpenSpec.upto deviceAdjustsSpec)

/-- 'groupcontrollaw34.DeviceLimits', WHERE WHAT IT READS IS OF BULK AT MOST 1048576: true; the input reads as it did. -/
def deviceLimitsUptoRow : OpenClaim := { program := "ytekkdllchjmhdaagreat", sum := "c06aeef8c09e36b5301098a03b6a1b6da864243bf9af6b35bb4d00ffe6d509a4", func := "groupcontrol/groupcontrollaw34.DeviceLimits", spec := "deviceLimits", inPlace := ["slices.overlaps[groupcontrol/api.Flight]"], unfollowed := true, recurses := true, apart := false, narrowed := true }
def DeviceLimitsUptoSaid : Prop := deviceLimitsUptoRow.holds Tryz.pinned (OpenSpec.upto deviceLimitsSpec)

/-- 'groupcontrollaw34.DeviceCaps', WHERE WHAT IT READS IS OF BULK AT MOST 1048576: true; the input reads as it did. -/
def deviceCapsUptoRow : OpenClaim := { program := "ytekkdllchjmhdaagreat", sum := "c06aeef8c09e36b5301098a03b6a1b6da864243bf9af6b35bb4d00ffe6d509a4", func := "groupcontrol/groupcontrollaw34.DeviceCaps", spec := "deviceCaps", inPlace := ["slices.overlaps[groupcontrol/api.Flight]"], unfollowed := true, recurses := true, apart := false, narrowed := true }
def DeviceCapsUptoSaid : Prop := deviceCapsUptoRow.holds Tryz.pinned (OpenSpec.upto deviceCapsSpec)

/-- 'groupcontrollaw34.DeviceExact', WHERE WHAT IT READS IS OF BULK AT MOST 1048576: true; the input reads as it did. -/
def deviceExactUptoRow : OpenClaim := { program := "ytekkdllchjmhdaagreat", sum := "c06aeef8c09e36b5301098a03b6a1b6da864243bf9af6b35bb4d00ffe6d509a4", func := "groupcontrol/groupcontrollaw34.DeviceExact", spec := "deviceExact", inPlace := ["slices.overlaps[groupcontrol/api.Flight]"], unfollowed := true, recurses := true, apart := false, narrowed := true }
def DeviceExactUptoSaid : Prop := deviceExactUptoRow.holds Tryz.pinned (OpenSpec.upto deviceExactSpec)

end Rows
end Go.Proofs.YtekkdllchjmhdaaGreat
