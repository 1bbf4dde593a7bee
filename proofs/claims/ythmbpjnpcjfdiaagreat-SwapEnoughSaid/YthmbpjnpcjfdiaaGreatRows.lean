/-
  No cell of these rows narrows 'for every input' (looked for: loops, veiled, ifaces, maps, wideKeys, modest, calm, conditions, laid).
  DERIVED. THE GIVEN ROWS OF THIS SEAT. 7 by the template 'for every input the law returns true; each argument reads behind the call as it read before'; 0 by the template 'total and deterministic' (their statements: YthmbpjnpcjfdiaaGreatTotals.lean).
  GIVEN WITH THE SEED: the statements are not yours to turn. If you find one false, say at which input.
  Laid BY PROGRAM, IN A SANDBOX (cutbox-rows.mjs): the forced cells as the released guide's own fill.sh prints them over the translation f99d6e706cdbc873… (all of the seat's roots in one cut). By AI agents, Wed Nov 11 2026. No macro, syntax, notation, axiom, sorry.
-/
import Derived.Test.YthmbpjnpcjfdiaaGreatChecked
import GoSem.Claim
import GoSem.ClaimJoined
import GoSem.ClaimMapViews
import Derived.JoinedTies
import Derived.KernelRfl
namespace Go.Proofs.YthmbpjnpcjfdiaaGreat
/- THE CELL 'sum', in the pinned program and in every row, IS THE sha256 OF THE DUMP (.gsa) THAT YthmbpjnpcjfdiaaGreatProg.lean LOADS. Nothing in Lean hashes anything: it is a label: what it is worth is what the hold of that sum in a sandbox is worth. -/
noncomputable def Tryz.pinned : Pinned := { name := "ythmbpjnpcjfdiaagreat", sum := "f99d6e706cdbc873306ea49afc0994b35fb48a9774d80922b81f340e3fc67d06", checked := Tryz.checked }
namespace Rows
def none {H : Type} : Left H := { results := [], args := [] }

/-- 'groupcontrollaw25.SwapFiles': WHATEVER THE INPUT: true; the input reads as it did. -/
def swapFilesSpec : ChangeSpec := { name := "swapFiles", fn := fun _ => fun
  | [d1, d2] => { results := [.lit (.bool true)], args := [d1, d2] }
  | _ => none }
def swapFilesRow : OpenClaim := { program := "ythmbpjnpcjfdiaagreat", sum := "f99d6e706cdbc873306ea49afc0994b35fb48a9774d80922b81f340e3fc67d06", func := "groupcontrol/groupcontrollaw25.SwapFiles", spec := "swapFiles", unfollowed := true, recurses := true, apart := false }
def SwapFilesSaid : Prop := swapFilesRow.holds Tryz.pinned (OpenSpec.ofChange swapFilesSpec)

/-- ITS FALSE NEIGHBOUR: 'it returns false'. Refute it at one input. -/
def swapFilesWrong : ChangeSpec := { name := "swapFiles", fn := fun _ => fun
  | [d1, d2] => { results := [.lit (.bool false)], args := [d1, d2] }
  | _ => none }
def SwapFilesWrongFalsely : Prop := swapFilesRow.holds Tryz.pinned (OpenSpec.ofChange swapFilesWrong)

/-- 'groupcontrollaw25.SwapProtects': WHATEVER THE INPUT: true; the input reads as it did. -/
def swapProtectsSpec : ChangeSpec := { name := "swapProtects", fn := fun _ => fun
  | [d1, d2] => { results := [.lit (.bool true)], args := [d1, d2] }
  | _ => none }
def swapProtectsRow : OpenClaim := { program := "ythmbpjnpcjfdiaagreat", sum := "f99d6e706cdbc873306ea49afc0994b35fb48a9774d80922b81f340e3fc67d06", func := "groupcontrol/groupcontrollaw25.SwapProtects", spec := "swapProtects", unfollowed := true, recurses := true, apart := false }
def SwapProtectsSaid : Prop := swapProtectsRow.holds Tryz.pinned (OpenSpec.ofChange swapProtectsSpec)

/-- ITS FALSE NEIGHBOUR: 'it returns false'. Refute it at one input. -/
def swapProtectsWrong : ChangeSpec := { name := "swapProtects", fn := fun _ => fun
  | [d1, d2] => { results := [.lit (.bool false)], args := [d1, d2] }
  | _ => none }
def SwapProtectsWrongFalsely : Prop := swapProtectsRow.holds Tryz.pinned (OpenSpec.ofChange swapProtectsWrong)

/-- 'groupcontrollaw25.SwapTakes': WHATEVER THE INPUT: true; the input reads as it did. -/
def swapTakesSpec : ChangeSpec := { name := "swapTakes", fn := fun _ => fun
  | [d1, d2] => { results := [.lit (.bool true)], args := [d1, d2] }
  | _ => none }
def swapTakesRow : OpenClaim := { program := "ythmbpjnpcjfdiaagreat", sum := "f99d6e706cdbc873306ea49afc0994b35fb48a9774d80922b81f340e3fc67d06", func := "groupcontrol/groupcontrollaw25.SwapTakes", spec := "swapTakes", unfollowed := true, recurses := true, apart := false }
def SwapTakesSaid : Prop := swapTakesRow.holds Tryz.pinned (OpenSpec.ofChange swapTakesSpec)

/-- ITS FALSE NEIGHBOUR: 'it returns false'. Refute it at one input. -/
def swapTakesWrong : ChangeSpec := { name := "swapTakes", fn := fun _ => fun
  | [d1, d2] => { results := [.lit (.bool false)], args := [d1, d2] }
  | _ => none }
def SwapTakesWrongFalsely : Prop := swapTakesRow.holds Tryz.pinned (OpenSpec.ofChange swapTakesWrong)

/-- 'groupcontrollaw25.SwapLimits': WHATEVER THE INPUT: true; the input reads as it did. -/
def swapLimitsSpec : ChangeSpec := { name := "swapLimits", fn := fun _ => fun
  | [d1, d2] => { results := [.lit (.bool true)], args := [d1, d2] }
  | _ => none }
def swapLimitsRow : OpenClaim := { program := "ythmbpjnpcjfdiaagreat", sum := "f99d6e706cdbc873306ea49afc0994b35fb48a9774d80922b81f340e3fc67d06", func := "groupcontrol/groupcontrollaw25.SwapLimits", spec := "swapLimits", unfollowed := true, recurses := true, apart := false }
def SwapLimitsSaid : Prop := swapLimitsRow.holds Tryz.pinned (OpenSpec.ofChange swapLimitsSpec)

/-- ITS FALSE NEIGHBOUR: 'it returns false'. Refute it at one input. -/
def swapLimitsWrong : ChangeSpec := { name := "swapLimits", fn := fun _ => fun
  | [d1, d2] => { results := [.lit (.bool false)], args := [d1, d2] }
  | _ => none }
def SwapLimitsWrongFalsely : Prop := swapLimitsRow.holds Tryz.pinned (OpenSpec.ofChange swapLimitsWrong)

/-- 'groupcontrollaw25.SwapEnough': WHATEVER THE INPUT: true; the input reads as it did. -/
def swapEnoughSpec : ChangeSpec := { name := "swapEnough", fn := fun _ => fun
  | [d1, d2] => { results := [.lit (.bool true)], args := [d1, d2] }
  | _ => none }
def swapEnoughRow : OpenClaim := { program := "ythmbpjnpcjfdiaagreat", sum := "f99d6e706cdbc873306ea49afc0994b35fb48a9774d80922b81f340e3fc67d06", func := "groupcontrol/groupcontrollaw25.SwapEnough", spec := "swapEnough", unfollowed := true, recurses := true, apart := false }
def SwapEnoughSaid : Prop := swapEnoughRow.holds Tryz.pinned (OpenSpec.ofChange swapEnoughSpec)

/-- ITS FALSE NEIGHBOUR: 'it returns false'. Refute it at one input. -/
def swapEnoughWrong : ChangeSpec := { name := "swapEnough", fn := fun _ => fun
  | [d1, d2] => { results := [.lit (.bool false)], args := [d1, d2] }
  | _ => none }
def SwapEnoughWrongFalsely : Prop := swapEnoughRow.holds Tryz.pinned (OpenSpec.ofChange swapEnoughWrong)

/-- 'groupcontrollaw25.SwapLeaves': WHATEVER THE INPUT: true; the input reads as it did. -/
def swapLeavesSpec : ChangeSpec := { name := "swapLeaves", fn := fun _ => fun
  | [d] => { results := [.lit (.bool true)], args := [d] }
  | _ => none }
def swapLeavesRow : OpenClaim := { program := "ythmbpjnpcjfdiaagreat", sum := "f99d6e706cdbc873306ea49afc0994b35fb48a9774d80922b81f340e3fc67d06", func := "groupcontrol/groupcontrollaw25.SwapLeaves", spec := "swapLeaves", unfollowed := true, recurses := true, apart := false }
def SwapLeavesSaid : Prop := swapLeavesRow.holds Tryz.pinned (OpenSpec.ofChange swapLeavesSpec)

/-- ITS FALSE NEIGHBOUR: 'it returns false'. Refute it at one input. -/
def swapLeavesWrong : ChangeSpec := { name := "swapLeaves", fn := fun _ => fun
  | [d] => { results := [.lit (.bool false)], args := [d] }
  | _ => none }
def SwapLeavesWrongFalsely : Prop := swapLeavesRow.holds Tryz.pinned (OpenSpec.ofChange swapLeavesWrong)

/-- 'groupcontrollaw25.SwapExact': WHATEVER THE INPUT: true; the input reads as it did. -/
def swapExactSpec : ChangeSpec := { name := "swapExact", fn := fun _ => fun
  | [d1, d2, d3, d4, d5, d6] => { results := [.lit (.bool true)], args := [d1, d2, d3, d4, d5, d6] }
  | _ => none }
def swapExactRow : OpenClaim := { program := "ythmbpjnpcjfdiaagreat", sum := "f99d6e706cdbc873306ea49afc0994b35fb48a9774d80922b81f340e3fc67d06", func := "groupcontrol/groupcontrollaw25.SwapExact", spec := "swapExact", unfollowed := true, recurses := true, apart := false }
def SwapExactSaid : Prop := swapExactRow.holds Tryz.pinned (OpenSpec.ofChange swapExactSpec)

/-- ITS FALSE NEIGHBOUR: 'it returns false'. Refute it at one input. -/
def swapExactWrong : ChangeSpec := { name := "swapExact", fn := fun _ => fun
  | [d1, d2, d3, d4, d5, d6] => { results := [.lit (.bool false)], args := [d1, d2, d3, d4, d5, d6] }
  | _ => none }
def SwapExactWrongFalsely : Prop := swapExactRow.holds Tryz.pinned (OpenSpec.ofChange swapExactWrong)

/- THE SECOND FORM. 'bulk': how many values and letters a reading holds, each counted each time it is reached (what is shared counts as often as it is met; a slice's spare places count too). A statement '..UptoSaid' is the law's where the arguments, and the package variables that the reading takes, are together of bulk at most 1048576: NARROWER than '..Said'. Prove '..Said' where nothing that the law and all that it calls make is longer than what came in: it says more and counts as full. Else prove '..UptoSaid'. A law counts once. -/
mutual
def uptoBulk {H : Type} : DataW H → Nat
  | .lit (.string bytes) => bytes.length + 1
  | .lit _ => 1
  | .nil => 1
  | .ptr d => uptoBulk d + 1
  | .slice elems spare => uptoBulkAll elems + uptoBulkAll spare + 1
  | .agg parts => uptoBulkAll parts + 1
  | .iface _ d => uptoBulk d + 1
  | .map entries => uptoBulkEntries entries + 1
  | .held _ => 1
def uptoBulkAll {H : Type} : List (DataW H) → Nat
  | [] => 0
  | d :: r => uptoBulk d + uptoBulkAll r
def uptoBulkEntries {H : Type} : List (Lit × DataW H) → Nat
  | [] => 0
  | x :: r => uptoBulkEntry x + uptoBulkEntries r
def uptoBulkEntry {H : Type} : Lit × DataW H → Nat
  | (.string bytes, d) => bytes.length + uptoBulk d + 1
  | (_, d) => uptoBulk d + 1
 end
def uptoSmall : (H : Type) → List (DataW H) → Bool := fun _ ds => decide (uptoBulkAll ds ≤ 1048576)
def OpenSpec.upto (s : _root_.Go.ChangeSpec) : _root_.Go.OpenSpec := { _root_.Go.OpenSpec.ofChange s with cond := some uptoSmall }

/-- 'groupcontrollaw25.SwapFiles', WHERE WHAT IT READS IS OF BULK AT MOST 1048576: true; the input reads as it did. -/
def swapFilesUptoRow : OpenClaim := { program := "ythmbpjnpcjfdiaagreat", sum := "f99d6e706cdbc873306ea49afc0994b35fb48a9774d80922b81f340e3fc67d06", func := "groupcontrol/groupcontrollaw25.SwapFiles", spec := "swapFiles", unfollowed := true, recurses := true, apart := false, narrowed := true }
def SwapFilesUptoSaid : Prop := swapFilesUptoRow.holds Tryz.pinned (OpenSpec.upto swapFilesSpec)

/-- 'groupcontrollaw25.SwapProtects', WHERE WHAT IT READS IS OF BULK AT MOST 1048576: true; the input reads as it did. -/
def swapProtectsUptoRow : OpenClaim := { program := "ythmbpjnpcjfdiaagreat", sum := "f99d6e706cdbc873306ea49afc0994b35fb48a9774d80922b81f340e3fc67d06", func := "groupcontrol/groupcontrollaw25.SwapProtects", spec := "swapProtects", unfollowed := true, recurses := true, apart := false, narrowed := true }
def SwapProtectsUptoSaid : Prop := swapProtectsUptoRow.holds Tryz.pinned (OpenSpec.upto swapProtectsSpec)

/-- 'groupcontrollaw25.SwapTakes', WHERE WHAT IT READS IS OF BULK AT MOST 1048576: true; the input reads as it did. -/
def swapTakesUptoRow : OpenClaim := { program := "ythmbpjnpcjfdiaagreat", sum := "f99d6e706cdbc873306ea49afc0994b35fb48a9774d80922b81f340e3fc67d06", func := "groupcontrol/groupcontrollaw25.SwapTakes", spec := "swapTakes", unfollowed := true, recurses := true, apart := false, narrowed := true }
def SwapTakesUptoSaid : Prop := swapTakesUptoRow.holds Tryz.pinned (OpenSpec.upto swapTakesSpec)

/-- 'groupcontrollaw25.SwapLimits', WHERE WHAT IT READS IS OF BULK AT MOST 1048576: true; the input reads as it did. -/
def swapLimitsUptoRow : OpenClaim := { program := "ythmbpjnpcjfdiaagreat", sum := "f99d6e706cdbc873306ea49afc0994b35fb48a9774d80922b81f340e3fc67d06", func := "groupcontrol/groupcontrollaw25.SwapLimits", spec := "swapLimits", unfollowed := true, recurses := true, apart := false, narrowed := true }
def SwapLimitsUptoSaid : Prop := swapLimitsUptoRow.holds Tryz.pinned (OpenSpec.upto swapLimitsSpec)

/-- 'groupcontrollaw25.SwapEnough', WHERE WHAT IT READS IS OF BULK AT MOST 1048576: true; the input reads as it did. -/
def swapEnoughUptoRow : OpenClaim := { program := "ythmbpjnpcjfdiaagreat", sum := "f99d6e706cdbc873306ea49afc0994b35fb48a9774d80922b81f340e3fc67d06", func := "groupcontrol/groupcontrollaw25.SwapEnough", spec := "swapEnough", unfollowed := true, recurses := true, apart := false, narrowed := true }
def SwapEnoughUptoSaid : Prop := swapEnoughUptoRow.holds Tryz.pinned (OpenSpec.upto swapEnoughSpec)

/-- 'groupcontrollaw25.SwapLeaves', WHERE WHAT IT READS IS OF BULK AT MOST 1048576: true; the input reads as it did. -/
def swapLeavesUptoRow : OpenClaim := { program := "ythmbpjnpcjfdiaagreat", sum := "f99d6e706cdbc873306ea49afc0994b35fb48a9774d80922b81f340e3fc67d06", func := "groupcontrol/groupcontrollaw25.SwapLeaves", spec := "swapLeaves", unfollowed := true, recurses := true, apart := false, narrowed := true }
def SwapLeavesUptoSaid : Prop := swapLeavesUptoRow.holds Tryz.pinned (OpenSpec.upto swapLeavesSpec)

/-- 'groupcontrollaw25.SwapExact', WHERE WHAT IT READS IS OF BULK AT MOST 1048576: true; the input reads as it did. -/
def swapExactUptoRow : OpenClaim := { program := "ythmbpjnpcjfdiaagreat", sum := "f99d6e706cdbc873306ea49afc0994b35fb48a9774d80922b81f340e3fc67d06", func := "groupcontrol/groupcontrollaw25.SwapExact", spec := "swapExact", unfollowed := true, recurses := true, apart := false, narrowed := true }
def SwapExactUptoSaid : Prop := swapExactUptoRow.holds Tryz.pinned (OpenSpec.upto swapExactSpec)

end Rows
end Go.Proofs.YthmbpjnpcjfdiaaGreat
