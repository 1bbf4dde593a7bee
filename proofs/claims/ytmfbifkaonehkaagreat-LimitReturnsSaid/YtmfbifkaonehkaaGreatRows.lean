/-
  No cell of these rows narrows 'for every input' (looked for: loops, veiled, ifaces, maps, wideKeys, modest, calm, conditions, laid).
  DERIVED. THE GIVEN ROWS OF THIS SEAT. 6 by the template 'for every input the law returns true; each argument reads behind the call as it read before'; 0 by the template 'total and deterministic' (their statements: YtmfbifkaonehkaaGreatTotals.lean).
  GIVEN WITH THE SEED: the statements are not yours to turn. If you find one false, say at which input.
  Laid BY PROGRAM, IN A SANDBOX (cutbox-rows.mjs): the forced cells as the released guide's own fill.sh prints them over the translation 46eaf21ef59da5b9… (all of the seat's roots in one cut). By AI agents, Wed Nov 11 2026. No macro, syntax, notation, axiom, sorry.
-/
import Derived.Test.YtmfbifkaonehkaaGreatChecked
import GoSem.Claim
import GoSem.ClaimJoined
import GoSem.ClaimMapViews
import Derived.JoinedTies
import Derived.KernelRfl
namespace Go.Proofs.YtmfbifkaonehkaaGreat
/- THE CELL 'sum', in the pinned program and in every row, IS THE sha256 OF THE DUMP (.gsa) THAT YtmfbifkaonehkaaGreatProg.lean LOADS. Nothing in Lean hashes anything: it is a label: what it is worth is what the hold of that sum in a sandbox is worth. -/
noncomputable def Tryz.pinned : Pinned := { name := "ytmfbifkaonehkaagreat", sum := "46eaf21ef59da5b92f9cd79458a300940d7380da30612a5778773b83f5ad7555", checked := Tryz.checked }
namespace Rows
def none {H : Type} : Left H := { results := [], args := [] }

/-- 'groupcontrollaw26.LimitHighs': WHATEVER THE INPUT: true; the input reads as it did. -/
def limitHighsSpec : ChangeSpec := { name := "limitHighs", fn := fun _ => fun
  | [d1, d2] => { results := [.lit (.bool true)], args := [d1, d2] }
  | _ => none }
def limitHighsRow : OpenClaim := { program := "ytmfbifkaonehkaagreat", sum := "46eaf21ef59da5b92f9cd79458a300940d7380da30612a5778773b83f5ad7555", func := "groupcontrol/groupcontrollaw26.LimitHighs", spec := "limitHighs", unfollowed := true, recurses := true, apart := false }
def LimitHighsSaid : Prop := limitHighsRow.holds Tryz.pinned (OpenSpec.ofChange limitHighsSpec)

/-- ITS FALSE NEIGHBOUR: 'it returns false'. Refute it at one input. -/
def limitHighsWrong : ChangeSpec := { name := "limitHighs", fn := fun _ => fun
  | [d1, d2] => { results := [.lit (.bool false)], args := [d1, d2] }
  | _ => none }
def LimitHighsWrongFalsely : Prop := limitHighsRow.holds Tryz.pinned (OpenSpec.ofChange limitHighsWrong)

/-- 'groupcontrollaw26.LimitReached': WHATEVER THE INPUT: true; the input reads as it did. -/
def limitReachedSpec : ChangeSpec := { name := "limitReached", fn := fun _ => fun
  | [d1, d2, d3] => { results := [.lit (.bool true)], args := [d1, d2, d3] }
  | _ => none }
def limitReachedRow : OpenClaim := { program := "ytmfbifkaonehkaagreat", sum := "46eaf21ef59da5b92f9cd79458a300940d7380da30612a5778773b83f5ad7555", func := "groupcontrol/groupcontrollaw26.LimitReached", spec := "limitReached", unfollowed := true, recurses := true, apart := false }
def LimitReachedSaid : Prop := limitReachedRow.holds Tryz.pinned (OpenSpec.ofChange limitReachedSpec)

/-- ITS FALSE NEIGHBOUR: 'it returns false'. Refute it at one input. -/
def limitReachedWrong : ChangeSpec := { name := "limitReached", fn := fun _ => fun
  | [d1, d2, d3] => { results := [.lit (.bool false)], args := [d1, d2, d3] }
  | _ => none }
def LimitReachedWrongFalsely : Prop := limitReachedRow.holds Tryz.pinned (OpenSpec.ofChange limitReachedWrong)

/-- 'groupcontrollaw26.LimitHolds': WHATEVER THE INPUT: true; the input reads as it did. -/
def limitHoldsSpec : ChangeSpec := { name := "limitHolds", fn := fun _ => fun
  | [d1, d2] => { results := [.lit (.bool true)], args := [d1, d2] }
  | _ => none }
def limitHoldsRow : OpenClaim := { program := "ytmfbifkaonehkaagreat", sum := "46eaf21ef59da5b92f9cd79458a300940d7380da30612a5778773b83f5ad7555", func := "groupcontrol/groupcontrollaw26.LimitHolds", spec := "limitHolds", unfollowed := true, recurses := true, apart := false }
def LimitHoldsSaid : Prop := limitHoldsRow.holds Tryz.pinned (OpenSpec.ofChange limitHoldsSpec)

/-- ITS FALSE NEIGHBOUR: 'it returns false'. Refute it at one input. -/
def limitHoldsWrong : ChangeSpec := { name := "limitHolds", fn := fun _ => fun
  | [d1, d2] => { results := [.lit (.bool false)], args := [d1, d2] }
  | _ => none }
def LimitHoldsWrongFalsely : Prop := limitHoldsRow.holds Tryz.pinned (OpenSpec.ofChange limitHoldsWrong)

/-- 'groupcontrollaw26.LimitCharges': WHATEVER THE INPUT: true; the input reads as it did. -/
def limitChargesSpec : ChangeSpec := { name := "limitCharges", fn := fun _ => fun
  | [d1, d2] => { results := [.lit (.bool true)], args := [d1, d2] }
  | _ => none }
def limitChargesRow : OpenClaim := { program := "ytmfbifkaonehkaagreat", sum := "46eaf21ef59da5b92f9cd79458a300940d7380da30612a5778773b83f5ad7555", func := "groupcontrol/groupcontrollaw26.LimitCharges", spec := "limitCharges", unfollowed := true, recurses := true, apart := false }
def LimitChargesSaid : Prop := limitChargesRow.holds Tryz.pinned (OpenSpec.ofChange limitChargesSpec)

/-- ITS FALSE NEIGHBOUR: 'it returns false'. Refute it at one input. -/
def limitChargesWrong : ChangeSpec := { name := "limitCharges", fn := fun _ => fun
  | [d1, d2] => { results := [.lit (.bool false)], args := [d1, d2] }
  | _ => none }
def LimitChargesWrongFalsely : Prop := limitChargesRow.holds Tryz.pinned (OpenSpec.ofChange limitChargesWrong)

/-- 'groupcontrollaw26.LimitRefuses': WHATEVER THE INPUT: true; the input reads as it did. -/
def limitRefusesSpec : ChangeSpec := { name := "limitRefuses", fn := fun _ => fun
  | [d1, d2] => { results := [.lit (.bool true)], args := [d1, d2] }
  | _ => none }
def limitRefusesRow : OpenClaim := { program := "ytmfbifkaonehkaagreat", sum := "46eaf21ef59da5b92f9cd79458a300940d7380da30612a5778773b83f5ad7555", func := "groupcontrol/groupcontrollaw26.LimitRefuses", spec := "limitRefuses", unfollowed := true, recurses := true, apart := false }
def LimitRefusesSaid : Prop := limitRefusesRow.holds Tryz.pinned (OpenSpec.ofChange limitRefusesSpec)

/-- ITS FALSE NEIGHBOUR: 'it returns false'. Refute it at one input. -/
def limitRefusesWrong : ChangeSpec := { name := "limitRefuses", fn := fun _ => fun
  | [d1, d2] => { results := [.lit (.bool false)], args := [d1, d2] }
  | _ => none }
def LimitRefusesWrongFalsely : Prop := limitRefusesRow.holds Tryz.pinned (OpenSpec.ofChange limitRefusesWrong)

/-- 'groupcontrollaw26.LimitReturns': WHATEVER THE INPUT: true; the input reads as it did. -/
def limitReturnsSpec : ChangeSpec := { name := "limitReturns", fn := fun _ => fun
  | [d1, d2] => { results := [.lit (.bool true)], args := [d1, d2] }
  | _ => none }
def limitReturnsRow : OpenClaim := { program := "ytmfbifkaonehkaagreat", sum := "46eaf21ef59da5b92f9cd79458a300940d7380da30612a5778773b83f5ad7555", func := "groupcontrol/groupcontrollaw26.LimitReturns", spec := "limitReturns", unfollowed := true, recurses := true, apart := false }
def LimitReturnsSaid : Prop := limitReturnsRow.holds Tryz.pinned (OpenSpec.ofChange limitReturnsSpec)

/-- ITS FALSE NEIGHBOUR: 'it returns false'. Refute it at one input. -/
def limitReturnsWrong : ChangeSpec := { name := "limitReturns", fn := fun _ => fun
  | [d1, d2] => { results := [.lit (.bool false)], args := [d1, d2] }
  | _ => none }
def LimitReturnsWrongFalsely : Prop := limitReturnsRow.holds Tryz.pinned (OpenSpec.ofChange limitReturnsWrong)

/- THE SECOND FORM. 'bulk': how many values and letters a reading holds, each counted each time it is reached (what is shared counts as often as it is met; a slice's spare places count too). A statement '..UptoSaid' is the law's where the arguments, and the package variables that the reading takes, are together of bulk at most 1048576: NARROWER than '..Said'. Prove '..Said' where nothing that the law and all that it calls make is longer than what came in: it says more and counts as full. Else prove '..UptoSaid'. A law counts once. -/
mutual
def uptoBulk {H : Type} : DataW H → Nat
  | .lit (.string bytes) => bytes.length + 1
  | .lit _ => 1
  | .nil => 1
  | .ptr d => uptoBulk d + 1
  | .slice elems spare => uptoBulkAll elems + uptoBulkAll spare + 1
  | .agg parts => uptoBulkAll parts + 1
  | .iface _ d => uptoBulk d + 1
  | .map entries => uptoBulkEntries entries + 1
  | .held _ => 1
def uptoBulkAll {H : Type} : List (DataW H) → Nat
  | [] => 0
  | d :: r => uptoBulk d + uptoBulkAll r
def uptoBulkEntries {H : Type} : List (Lit × DataW H) → Nat
  | [] => 0
  | x :: r => uptoBulkEntry x + uptoBulkEntries r
def uptoBulkEntry {H : Type} : Lit × DataW H → Nat
  | (.string bytes, d) => bytes.length + uptoBulk d + 1
  | (_, d) => uptoBulk d + 1
 end
def uptoSmall : (H : Type) → List (DataW H) → Bool := fun _ ds => decide (uptoBulkAll ds ≤ 1048576)
def OpenSpec.upto (s : _root_.Go.ChangeSpec) : _root_.Go.OpenSpec := { _root_.Go.OpenSpec.ofChange s with cond := some uptoSmall }

/-- 'groupcontrollaw26.LimitHighs', WHERE WHAT IT READS IS OF BULK AT MOST 1048576: true; the input reads as it did. -/
def limitHighsUptoRow : OpenClaim := { program := "ytmfbifkaonehkaagreat", sum := "46eaf21ef59da5b92f9cd79458a300940d7380da30612a5778773b83f5ad7555", func := "groupcontrol/groupcontrollaw26.LimitHighs", spec := "limitHighs", unfollowed := true, recurses := true, apart := false, narrowed := true }
def LimitHighsUptoSaid : Prop := limitHighsUptoRow.holds Tryz.pinned (OpenSpec.upto limitHighsSpec)

/-- 'groupcontrollaw26.LimitReached', WHERE WHAT IT READS IS OF BULK AT MOST 1048576: true; the input reads as it did. -/
def limitReachedUptoRow : OpenClaim := { program := "ytmfbifkaonehkaagreat", sum := "46eaf21ef59da5b92f9cd79458a300940d7380da30612a5778773b83f5ad7555", func := "groupcontrol/groupcontrollaw26.LimitReached", spec := "limitReached", unfollowed := true, recurses := true, apart := false, narrowed := true }
def LimitReachedUptoSaid : Prop := limitReachedUptoRow.holds Tryz.pinned (OpenSpec.upto limitReachedSpec)

/-- 'groupcontrollaw26.LimitHolds', WHERE WHAT IT READS IS OF BULK AT MOST 1048576: true; the input reads as it did. -/
def limitHoldsUptoRow : OpenClaim := { program := "ytmfbifkaonehkaagreat", sum := "46eaf21ef59da5b92f9cd79458a300940d7380da30612a5778773b83f5ad7555", func := "groupcontrol/groupcontrollaw26.LimitHolds", spec := "limitHolds", unfollowed := true, recurses := true, apart := false, narrowed := true }
def LimitHoldsUptoSaid : Prop := limitHoldsUptoRow.holds Tryz.pinned (OpenSpec.upto limitHoldsSpec)

/-- 'groupcontrollaw26.LimitCharges', WHERE WHAT IT READS IS OF BULK AT MOST 1048576: true; the input reads as it did. -/
def limitChargesUptoRow : OpenClaim := { program := "ytmfbifkaonehkaagreat", sum := "46eaf21ef59da5b92f9cd79458a300940d7380da30612a5778773b83f5ad7555", func := "groupcontrol/groupcontrollaw26.LimitCharges", spec := "limitCharges", unfollowed := true, recurses := true, apart := false, narrowed := true }
def LimitChargesUptoSaid : Prop := limitChargesUptoRow.holds Tryz.pinned (OpenSpec.upto limitChargesSpec)

/-- 'groupcontrollaw26.LimitRefuses', WHERE WHAT IT READS IS OF BULK AT MOST 1048576: true; the input reads as it did. -/
def limitRefusesUptoRow : OpenClaim := { program := "ytmfbifkaonehkaagreat", sum := "46eaf21ef59da5b92f9cd79458a300940d7380da30612a5778773b83f5ad7555", func := "groupcontrol/groupcontrollaw26.LimitRefuses", spec := "limitRefuses", unfollowed := true, recurses := true, apart := false, narrowed := true }
def LimitRefusesUptoSaid : Prop := limitRefusesUptoRow.holds Tryz.pinned (OpenSpec.upto limitRefusesSpec)

/-- 'groupcontrollaw26.LimitReturns', WHERE WHAT IT READS IS OF BULK AT MOST 1048576: true; the input reads as it did. -/
def limitReturnsUptoRow : OpenClaim := { program := "ytmfbifkaonehkaagreat", sum := "46eaf21ef59da5b92f9cd79458a300940d7380da30612a5778773b83f5ad7555", func := "groupcontrol/groupcontrollaw26.LimitReturns", spec := "limitReturns", unfollowed := true, recurses := true, apart := false, narrowed := true }
def LimitReturnsUptoSaid : Prop := limitReturnsUptoRow.holds Tryz.pinned (OpenSpec.upto limitReturnsSpec)

end Rows
end Go.Proofs.YtmfbifkaonehkaaGreat
