/-
  No cell of these rows narrows 'for every input' (looked for: loops, veiled, ifaces, maps, wideKeys, modest, calm, conditions, laid).
  DERIVED. THE GIVEN ROWS OF THIS SEAT. 5 by the template 'for every input the law returns true; each argument reads behind the call as it read before'; 0 by the template 'total and deterministic' (their statements: YtdmghfmdcfagcaaTotals.lean).
  GIVEN WITH THE SEED: the statements are not yours to turn. If you find one false, say at which input.
  Laid BY PROGRAM, IN A SANDBOX (cutbox-rows.mjs): the forced cells as the released guide's own fill.sh prints them over the translation f8206a58bc75c8e2… (all of the seat's roots in one cut). By AI agents, Wed Nov 11 2026. No macro, syntax, notation, axiom, sorry.
-/
import Derived.Test.YtdmghfmdcfagcaaChecked
import GoSem.Claim
import GoSem.ClaimJoined
import GoSem.ClaimMapViews
import Derived.JoinedTies
import Derived.KernelRfl
namespace Go.Proofs.Ytdmghfmdcfagcaa
/- THE CELL 'sum', in the pinned program and in every row, IS THE sha256 OF THE DUMP (.gsa) THAT YtdmghfmdcfagcaaProg.lean LOADS. Nothing in Lean hashes anything: it is a label: what it is worth is what the hold of that sum in a sandbox is worth. -/
noncomputable def Try.pinned : Pinned := { name := "ytdmghfmdcfagcaa", sum := "f8206a58bc75c8e258db8b88af779b56917909378862554f4203ff9ca3a75575", checked := Try.checked }
namespace Rows
def none {H : Type} : Left H := { results := [], args := [] }

/-- 'groupcontrollaw24.ReclaimGrows': WHATEVER THE INPUT: true; the input reads as it did. -/
def reclaimGrowsSpec : ChangeSpec := { name := "reclaimGrows", fn := fun _ => fun
  | [d1, d2] => { results := [.lit (.bool true)], args := [d1, d2] }
  | _ => none }
def reclaimGrowsRow : OpenClaim := { program := "ytdmghfmdcfagcaa", sum := "f8206a58bc75c8e258db8b88af779b56917909378862554f4203ff9ca3a75575", func := "groupcontrol/groupcontrollaw24.ReclaimGrows", spec := "reclaimGrows", unfollowed := true, recurses := true, apart := false }
def ReclaimGrowsSaid : Prop := reclaimGrowsRow.holds Try.pinned (OpenSpec.ofChange reclaimGrowsSpec)

/-- ITS FALSE NEIGHBOUR: 'it returns false'. Refute it at one input. -/
def reclaimGrowsWrong : ChangeSpec := { name := "reclaimGrows", fn := fun _ => fun
  | [d1, d2] => { results := [.lit (.bool false)], args := [d1, d2] }
  | _ => none }
def ReclaimGrowsWrongFalsely : Prop := reclaimGrowsRow.holds Try.pinned (OpenSpec.ofChange reclaimGrowsWrong)

/-- 'groupcontrollaw24.ReclaimExact': WHATEVER THE INPUT: true; the input reads as it did. -/
def reclaimExactSpec : ChangeSpec := { name := "reclaimExact", fn := fun _ => fun
  | [d1, d2, d3, d4, d5] => { results := [.lit (.bool true)], args := [d1, d2, d3, d4, d5] }
  | _ => none }
def reclaimExactRow : OpenClaim := { program := "ytdmghfmdcfagcaa", sum := "f8206a58bc75c8e258db8b88af779b56917909378862554f4203ff9ca3a75575", func := "groupcontrol/groupcontrollaw24.ReclaimExact", spec := "reclaimExact", unfollowed := true, recurses := true, apart := false }
def ReclaimExactSaid : Prop := reclaimExactRow.holds Try.pinned (OpenSpec.ofChange reclaimExactSpec)

/-- ITS FALSE NEIGHBOUR: 'it returns false'. Refute it at one input. -/
def reclaimExactWrong : ChangeSpec := { name := "reclaimExact", fn := fun _ => fun
  | [d1, d2, d3, d4, d5] => { results := [.lit (.bool false)], args := [d1, d2, d3, d4, d5] }
  | _ => none }
def ReclaimExactWrongFalsely : Prop := reclaimExactRow.holds Try.pinned (OpenSpec.ofChange reclaimExactWrong)

/-- 'groupcontrollaw24.ReclaimBounds': WHATEVER THE INPUT: true; the input reads as it did. -/
def reclaimBoundsSpec : ChangeSpec := { name := "reclaimBounds", fn := fun _ => fun
  | [d1, d2] => { results := [.lit (.bool true)], args := [d1, d2] }
  | _ => none }
def reclaimBoundsRow : OpenClaim := { program := "ytdmghfmdcfagcaa", sum := "f8206a58bc75c8e258db8b88af779b56917909378862554f4203ff9ca3a75575", func := "groupcontrol/groupcontrollaw24.ReclaimBounds", spec := "reclaimBounds", unfollowed := true, recurses := true, apart := false }
def ReclaimBoundsSaid : Prop := reclaimBoundsRow.holds Try.pinned (OpenSpec.ofChange reclaimBoundsSpec)

/-- ITS FALSE NEIGHBOUR: 'it returns false'. Refute it at one input. -/
def reclaimBoundsWrong : ChangeSpec := { name := "reclaimBounds", fn := fun _ => fun
  | [d1, d2] => { results := [.lit (.bool false)], args := [d1, d2] }
  | _ => none }
def ReclaimBoundsWrongFalsely : Prop := reclaimBoundsRow.holds Try.pinned (OpenSpec.ofChange reclaimBoundsWrong)

/-- 'groupcontrollaw24.ReclaimShares': WHATEVER THE INPUT: true; the input reads as it did. -/
def reclaimSharesSpec : ChangeSpec := { name := "reclaimShares", fn := fun _ => fun
  | [d1, d2] => { results := [.lit (.bool true)], args := [d1, d2] }
  | _ => none }
def reclaimSharesRow : OpenClaim := { program := "ytdmghfmdcfagcaa", sum := "f8206a58bc75c8e258db8b88af779b56917909378862554f4203ff9ca3a75575", func := "groupcontrol/groupcontrollaw24.ReclaimShares", spec := "reclaimShares", unfollowed := true, recurses := true, apart := false }
def ReclaimSharesSaid : Prop := reclaimSharesRow.holds Try.pinned (OpenSpec.ofChange reclaimSharesSpec)

/-- ITS FALSE NEIGHBOUR: 'it returns false'. Refute it at one input. -/
def reclaimSharesWrong : ChangeSpec := { name := "reclaimShares", fn := fun _ => fun
  | [d1, d2] => { results := [.lit (.bool false)], args := [d1, d2] }
  | _ => none }
def ReclaimSharesWrongFalsely : Prop := reclaimSharesRow.holds Try.pinned (OpenSpec.ofChange reclaimSharesWrong)

/-- 'groupcontrollaw24.ReclaimEmpties': WHATEVER THE INPUT: true; the input reads as it did. -/
def reclaimEmptiesSpec : ChangeSpec := { name := "reclaimEmpties", fn := fun _ => fun
  | [d] => { results := [.lit (.bool true)], args := [d] }
  | _ => none }
def reclaimEmptiesRow : OpenClaim := { program := "ytdmghfmdcfagcaa", sum := "f8206a58bc75c8e258db8b88af779b56917909378862554f4203ff9ca3a75575", func := "groupcontrol/groupcontrollaw24.ReclaimEmpties", spec := "reclaimEmpties", unfollowed := true, recurses := true, apart := false }
def ReclaimEmptiesSaid : Prop := reclaimEmptiesRow.holds Try.pinned (OpenSpec.ofChange reclaimEmptiesSpec)

/-- ITS FALSE NEIGHBOUR: 'it returns false'. Refute it at one input. -/
def reclaimEmptiesWrong : ChangeSpec := { name := "reclaimEmpties", fn := fun _ => fun
  | [d] => { results := [.lit (.bool false)], args := [d] }
  | _ => none }
def ReclaimEmptiesWrongFalsely : Prop := reclaimEmptiesRow.holds Try.pinned (OpenSpec.ofChange reclaimEmptiesWrong)

/- THE SECOND FORM. 'bulk': how many values and letters a reading holds, each counted each time it is reached (what is shared counts as often as it is met; a slice's spare places count too). A statement '..UptoSaid' is the law's where the arguments, and the package variables that the reading takes, are together of bulk at most 1048576: NARROWER than '..Said'. Prove '..Said' where nothing that the law and all that it calls make is longer than what came in: it says more and counts as full. Else prove '..UptoSaid'. A law counts once. -/
mutual
def uptoBulk {H : Type} : DataW H → Nat
  | .lit (.string bytes) => bytes.length + 1
  | .lit _ => 1
  | .nil => 1
  | .ptr d => uptoBulk d + 1
  | .slice elems spare => uptoBulkAll elems + uptoBulkAll spare + 1
  | .agg parts => uptoBulkAll parts + 1
  | .iface _ d => uptoBulk d + 1
  | .map entries => uptoBulkEntries entries + 1
  | .held _ => 1
def uptoBulkAll {H : Type} : List (DataW H) → Nat
  | [] => 0
  | d :: r => uptoBulk d + uptoBulkAll r
def uptoBulkEntries {H : Type} : List (Lit × DataW H) → Nat
  | [] => 0
  | x :: r => uptoBulkEntry x + uptoBulkEntries r
def uptoBulkEntry {H : Type} : Lit × DataW H → Nat
  | (.string bytes, d) => bytes.length + uptoBulk d + 1
  | (_, d) => uptoBulk d + 1
 end
def uptoSmall : (H : Type) → List (DataW H) → Bool := fun _ ds => decide (uptoBulkAll ds ≤ 1048576)
def OpenSpec.upto (s : _root_.Go.ChangeSpec) : _root_.Go.OpenSpec := { _root_.Go.OpenSpec.ofChange s with cond := some uptoSmall }

/-- 'groupcontrollaw24.ReclaimGrows', WHERE WHAT IT READS IS OF BULK AT MOST 1048576: true; the input reads as it did. -/
def reclaimGrowsUptoRow : OpenClaim := { program := "ytdmghfmdcfagcaa", sum := "f8206a58bc75c8e258db8b88af779b56917909378862554f4203ff9ca3a75575", func := "groupcontrol/groupcontrollaw24.ReclaimGrows", spec := "reclaimGrows", unfollowed := true, recurses := true, apart := false, narrowed := true }
def ReclaimGrowsUptoSaid : Prop := reclaimGrowsUptoRow.holds Try.pinned (OpenSpec.upto reclaimGrowsSpec)

/-- 'groupcontrollaw24.ReclaimExact', WHERE WHAT IT READS IS OF BULK AT MOST 1048576: true; the input reads as it did. -/
def reclaimExactUptoRow : OpenClaim := { program := "ytdmghfmdcfagcaa", sum := "f8206a58bc75c8e258db8b88af779b56917909378862554f4203ff9ca3a75575", func := "groupcontrol/groupcontrollaw24.ReclaimExact", spec := "reclaimExact", unfollowed := true, recurses := true, apart := false, narrowed := true }
def ReclaimExactUptoSaid : Prop := reclaimExactUptoRow.holds Try.pinned (OpenSpec.upto reclaimExactSpec)

/-- 'groupcontrollaw24.ReclaimBounds', WHERE WHAT IT READS IS OF BULK AT MOST 1048576: true; the input reads as it did. -/
def reclaimBoundsUptoRow : OpenClaim := { program := "ytdmghfmdcfagcaa", sum := "f8206a58bc75c8e258db8b88af779b56917909378862554f4203ff9ca3a75575", func := "groupcontrol/groupcontrollaw24.ReclaimBounds", spec := "reclaimBounds", unfollowed := true, recurses := true, apart := false, narrowed := true }
def ReclaimBoundsUptoSaid : Prop := reclaimBoundsUptoRow.holds Try.pinned (OpenSpec.upto reclaimBoundsSpec)

/-- 'groupcontrollaw24.ReclaimShares', WHERE WHAT IT READS IS OF BULK AT MOST 1048576: true; the input reads as it did. -/
def reclaimSharesUptoRow : OpenClaim := { program := "ytdmghfmdcfagcaa", sum := "f8206a58bc75c8e258db8b88af779b56917909378862554f4203ff9ca3a75575", func := "groupcontrol/groupcontrollaw24.ReclaimShares", spec := "reclaimShares", unfollowed := true, recurses := true, apart := false, narrowed := true }
def ReclaimSharesUptoSaid : Prop := reclaimSharesUptoRow.holds Try.pinned (OpenSpec.upto reclaimSharesSpec)

/-- 'groupcontrollaw24.ReclaimEmpties', WHERE WHAT IT READS IS OF BULK AT MOST 1048576: true; the input reads as it did. -/
def reclaimEmptiesUptoRow : OpenClaim := { program := "ytdmghfmdcfagcaa", sum := "f8206a58bc75c8e258db8b88af779b56917909378862554f4203ff9ca3a75575", func := "groupcontrol/groupcontrollaw24.ReclaimEmpties", spec := "reclaimEmpties", unfollowed := true, recurses := true, apart := false, narrowed := true }
def ReclaimEmptiesUptoSaid : Prop := reclaimEmptiesUptoRow.holds Try.pinned (OpenSpec.upto reclaimEmptiesSpec)

end Rows
end Go.Proofs.Ytdmghfmdcfagcaa
