/-
  No cell of these rows narrows 'for every input' (looked for: loops, veiled, ifaces, maps, wideKeys, modest, calm, conditions, laid).
  DERIVED. THE GIVEN ROWS OF THIS SEAT. 17 by the template 'for every input the law returns true; each argument reads behind the call as it read before'; 0 by the template 'total and deterministic' (their statements: YtcljahgcdbohaaaTotals.lean).
  GIVEN WITH THE SEED: the statements are not yours to turn. If you find one false, say at which input.
  Laid BY PROGRAM, IN A SANDBOX (cutbox-rows.mjs): the forced cells as the released guide's own fill.sh prints them over the translation 3bf893061fe40ffa… (all of the seat's roots in one cut). By AI agents, Wed Nov 11 2026. No macro, syntax, notation, axiom, sorry.
-/
import Derived.Test.YtcljahgcdbohaaaChecked
import GoSem.Claim
import GoSem.ClaimJoined
import GoSem.ClaimMapViews
import Derived.JoinedTies
import Derived.KernelRfl
namespace Go.Proofs.Ytcljahgcdbohaaa
/- THE CELL 'sum', in the pinned program and in every row, IS THE sha256 OF THE DUMP (.gsa) THAT YtcljahgcdbohaaaProg.lean LOADS. Nothing in Lean hashes anything: it is a label: what it is worth is what the hold of that sum in a sandbox is worth. -/
noncomputable def Try.pinned : Pinned := { name := "ytcljahgcdbohaaa", sum := "3bf893061fe40ffa6a2296bb94a953a680ef7cdcfbbb5069df197d94e717e4bb", checked := Try.checked }
namespace Rows
def none {H : Type} : Left H := { results := [], args := [] }

/-- 'groupcontrollaw19.ClampOrder': WHATEVER THE INPUT: true; the input reads as it did. -/
def clampOrderSpec : ChangeSpec := { name := "clampOrder", fn := fun _ => fun
  | [d1, d2, d3] => { results := [.lit (.bool true)], args := [d1, d2, d3] }
  | _ => none }
def clampOrderRow : OpenClaim := { program := "ytcljahgcdbohaaa", sum := "3bf893061fe40ffa6a2296bb94a953a680ef7cdcfbbb5069df197d94e717e4bb", func := "groupcontrol/groupcontrollaw19.ClampOrder", spec := "clampOrder", unfollowed := true, recurses := true, apart := false }
def ClampOrderSaid : Prop := clampOrderRow.holds Try.pinned (OpenSpec.ofChange clampOrderSpec)

/-- ITS FALSE NEIGHBOUR: 'it returns false'. Refute it at one input. -/
def clampOrderWrong : ChangeSpec := { name := "clampOrder", fn := fun _ => fun
  | [d1, d2, d3] => { results := [.lit (.bool false)], args := [d1, d2, d3] }
  | _ => none }
def ClampOrderWrongFalsely : Prop := clampOrderRow.holds Try.pinned (OpenSpec.ofChange clampOrderWrong)

/-- 'groupcontrollaw19.ClampJoins': WHATEVER THE INPUT: true; the input reads as it did. -/
def clampJoinsSpec : ChangeSpec := { name := "clampJoins", fn := fun _ => fun
  | [d] => { results := [.lit (.bool true)], args := [d] }
  | _ => none }
def clampJoinsRow : OpenClaim := { program := "ytcljahgcdbohaaa", sum := "3bf893061fe40ffa6a2296bb94a953a680ef7cdcfbbb5069df197d94e717e4bb", func := "groupcontrol/groupcontrollaw19.ClampJoins", spec := "clampJoins", unfollowed := true, recurses := true, apart := false }
def ClampJoinsSaid : Prop := clampJoinsRow.holds Try.pinned (OpenSpec.ofChange clampJoinsSpec)

/-- ITS FALSE NEIGHBOUR: 'it returns false'. Refute it at one input. -/
def clampJoinsWrong : ChangeSpec := { name := "clampJoins", fn := fun _ => fun
  | [d] => { results := [.lit (.bool false)], args := [d] }
  | _ => none }
def ClampJoinsWrongFalsely : Prop := clampJoinsRow.holds Try.pinned (OpenSpec.ofChange clampJoinsWrong)

/-- 'groupcontrollaw19.ClampOpen': WHATEVER THE INPUT: true; the input reads as it did. -/
def clampOpenSpec : ChangeSpec := { name := "clampOpen", fn := fun _ => fun
  | [d1, d2] => { results := [.lit (.bool true)], args := [d1, d2] }
  | _ => none }
def clampOpenRow : OpenClaim := { program := "ytcljahgcdbohaaa", sum := "3bf893061fe40ffa6a2296bb94a953a680ef7cdcfbbb5069df197d94e717e4bb", func := "groupcontrol/groupcontrollaw19.ClampOpen", spec := "clampOpen", unfollowed := true, recurses := true, apart := false }
def ClampOpenSaid : Prop := clampOpenRow.holds Try.pinned (OpenSpec.ofChange clampOpenSpec)

/-- ITS FALSE NEIGHBOUR: 'it returns false'. Refute it at one input. -/
def clampOpenWrong : ChangeSpec := { name := "clampOpen", fn := fun _ => fun
  | [d1, d2] => { results := [.lit (.bool false)], args := [d1, d2] }
  | _ => none }
def ClampOpenWrongFalsely : Prop := clampOpenRow.holds Try.pinned (OpenSpec.ofChange clampOpenWrong)

/-- 'groupcontrollaw19.ClampCapacity': WHATEVER THE INPUT: true; the input reads as it did. -/
def clampCapacitySpec : ChangeSpec := { name := "clampCapacity", fn := fun _ => fun
  | [d1, d2] => { results := [.lit (.bool true)], args := [d1, d2] }
  | _ => none }
def clampCapacityRow : OpenClaim := { program := "ytcljahgcdbohaaa", sum := "3bf893061fe40ffa6a2296bb94a953a680ef7cdcfbbb5069df197d94e717e4bb", func := "groupcontrol/groupcontrollaw19.ClampCapacity", spec := "clampCapacity", unfollowed := true, recurses := true, apart := false }
def ClampCapacitySaid : Prop := clampCapacityRow.holds Try.pinned (OpenSpec.ofChange clampCapacitySpec)

/-- ITS FALSE NEIGHBOUR: 'it returns false'. Refute it at one input. -/
def clampCapacityWrong : ChangeSpec := { name := "clampCapacity", fn := fun _ => fun
  | [d1, d2] => { results := [.lit (.bool false)], args := [d1, d2] }
  | _ => none }
def ClampCapacityWrongFalsely : Prop := clampCapacityRow.holds Try.pinned (OpenSpec.ofChange clampCapacityWrong)

/-- 'groupcontrollaw19.ClampAll': WHATEVER THE INPUT: true; the input reads as it did. -/
def clampAllSpec : ChangeSpec := { name := "clampAll", fn := fun _ => fun
  | [d1, d2, d3, d4, d5] => { results := [.lit (.bool true)], args := [d1, d2, d3, d4, d5] }
  | _ => none }
def clampAllRow : OpenClaim := { program := "ytcljahgcdbohaaa", sum := "3bf893061fe40ffa6a2296bb94a953a680ef7cdcfbbb5069df197d94e717e4bb", func := "groupcontrol/groupcontrollaw19.ClampAll", spec := "clampAll", unfollowed := true, recurses := true, apart := false }
def ClampAllSaid : Prop := clampAllRow.holds Try.pinned (OpenSpec.ofChange clampAllSpec)

/-- ITS FALSE NEIGHBOUR: 'it returns false'. Refute it at one input. -/
def clampAllWrong : ChangeSpec := { name := "clampAll", fn := fun _ => fun
  | [d1, d2, d3, d4, d5] => { results := [.lit (.bool false)], args := [d1, d2, d3, d4, d5] }
  | _ => none }
def ClampAllWrongFalsely : Prop := clampAllRow.holds Try.pinned (OpenSpec.ofChange clampAllWrong)

/-- 'groupcontrollaw32.IofairAlone': WHATEVER THE INPUT: true; the input reads as it did. -/
def iofairAloneSpec : ChangeSpec := { name := "iofairAlone", fn := fun _ => fun
  | [d] => { results := [.lit (.bool true)], args := [d] }
  | _ => none }
def iofairAloneRow : OpenClaim := { program := "ytcljahgcdbohaaa", sum := "3bf893061fe40ffa6a2296bb94a953a680ef7cdcfbbb5069df197d94e717e4bb", func := "groupcontrol/groupcontrollaw32.IofairAlone", spec := "iofairAlone", unfollowed := true, recurses := true, apart := false }
def IofairAloneSaid : Prop := iofairAloneRow.holds Try.pinned (OpenSpec.ofChange iofairAloneSpec)

/-- ITS FALSE NEIGHBOUR: 'it returns false'. Refute it at one input. -/
def iofairAloneWrong : ChangeSpec := { name := "iofairAlone", fn := fun _ => fun
  | [d] => { results := [.lit (.bool false)], args := [d] }
  | _ => none }
def IofairAloneWrongFalsely : Prop := iofairAloneRow.holds Try.pinned (OpenSpec.ofChange iofairAloneWrong)

/-- 'groupcontrollaw32.IofairDivides': WHATEVER THE INPUT: true; the input reads as it did. -/
def iofairDividesSpec : ChangeSpec := { name := "iofairDivides", fn := fun _ => fun
  | [d] => { results := [.lit (.bool true)], args := [d] }
  | _ => none }
def iofairDividesRow : OpenClaim := { program := "ytcljahgcdbohaaa", sum := "3bf893061fe40ffa6a2296bb94a953a680ef7cdcfbbb5069df197d94e717e4bb", func := "groupcontrol/groupcontrollaw32.IofairDivides", spec := "iofairDivides", unfollowed := true, recurses := true, apart := false }
def IofairDividesSaid : Prop := iofairDividesRow.holds Try.pinned (OpenSpec.ofChange iofairDividesSpec)

/-- ITS FALSE NEIGHBOUR: 'it returns false'. Refute it at one input. -/
def iofairDividesWrong : ChangeSpec := { name := "iofairDivides", fn := fun _ => fun
  | [d] => { results := [.lit (.bool false)], args := [d] }
  | _ => none }
def IofairDividesWrongFalsely : Prop := iofairDividesRow.holds Try.pinned (OpenSpec.ofChange iofairDividesWrong)

/-- 'groupcontrollaw32.IofairShrinks': WHATEVER THE INPUT: true; the input reads as it did. -/
def iofairShrinksSpec : ChangeSpec := { name := "iofairShrinks", fn := fun _ => fun
  | [d1, d2] => { results := [.lit (.bool true)], args := [d1, d2] }
  | _ => none }
def iofairShrinksRow : OpenClaim := { program := "ytcljahgcdbohaaa", sum := "3bf893061fe40ffa6a2296bb94a953a680ef7cdcfbbb5069df197d94e717e4bb", func := "groupcontrol/groupcontrollaw32.IofairShrinks", spec := "iofairShrinks", unfollowed := true, recurses := true, apart := false }
def IofairShrinksSaid : Prop := iofairShrinksRow.holds Try.pinned (OpenSpec.ofChange iofairShrinksSpec)

/-- ITS FALSE NEIGHBOUR: 'it returns false'. Refute it at one input. -/
def iofairShrinksWrong : ChangeSpec := { name := "iofairShrinks", fn := fun _ => fun
  | [d1, d2] => { results := [.lit (.bool false)], args := [d1, d2] }
  | _ => none }
def IofairShrinksWrongFalsely : Prop := iofairShrinksRow.holds Try.pinned (OpenSpec.ofChange iofairShrinksWrong)

/-- 'groupcontrollaw32.IofairBounds': WHATEVER THE INPUT: true; the input reads as it did. -/
def iofairBoundsSpec : ChangeSpec := { name := "iofairBounds", fn := fun _ => fun
  | [d] => { results := [.lit (.bool true)], args := [d] }
  | _ => none }
def iofairBoundsRow : OpenClaim := { program := "ytcljahgcdbohaaa", sum := "3bf893061fe40ffa6a2296bb94a953a680ef7cdcfbbb5069df197d94e717e4bb", func := "groupcontrol/groupcontrollaw32.IofairBounds", spec := "iofairBounds", unfollowed := true, recurses := true, apart := false }
def IofairBoundsSaid : Prop := iofairBoundsRow.holds Try.pinned (OpenSpec.ofChange iofairBoundsSpec)

/-- ITS FALSE NEIGHBOUR: 'it returns false'. Refute it at one input. -/
def iofairBoundsWrong : ChangeSpec := { name := "iofairBounds", fn := fun _ => fun
  | [d] => { results := [.lit (.bool false)], args := [d] }
  | _ => none }
def IofairBoundsWrongFalsely : Prop := iofairBoundsRow.holds Try.pinned (OpenSpec.ofChange iofairBoundsWrong)

/-- 'groupcontrollaw22.CounterSums': WHATEVER THE INPUT: true; the input reads as it did. -/
def counterSumsSpec : ChangeSpec := { name := "counterSums", fn := fun _ => fun
  | [d] => { results := [.lit (.bool true)], args := [d] }
  | _ => none }
def counterSumsRow : OpenClaim := { program := "ytcljahgcdbohaaa", sum := "3bf893061fe40ffa6a2296bb94a953a680ef7cdcfbbb5069df197d94e717e4bb", func := "groupcontrol/groupcontrollaw22.CounterSums", spec := "counterSums", unfollowed := true, recurses := true, apart := false }
def CounterSumsSaid : Prop := counterSumsRow.holds Try.pinned (OpenSpec.ofChange counterSumsSpec)

/-- ITS FALSE NEIGHBOUR: 'it returns false'. Refute it at one input. -/
def counterSumsWrong : ChangeSpec := { name := "counterSums", fn := fun _ => fun
  | [d] => { results := [.lit (.bool false)], args := [d] }
  | _ => none }
def CounterSumsWrongFalsely : Prop := counterSumsRow.holds Try.pinned (OpenSpec.ofChange counterSumsWrong)

/-- 'groupcontrollaw22.CounterRemoves': WHATEVER THE INPUT: true; the input reads as it did. -/
def counterRemovesSpec : ChangeSpec := { name := "counterRemoves", fn := fun _ => fun
  | [d] => { results := [.lit (.bool true)], args := [d] }
  | _ => none }
def counterRemovesRow : OpenClaim := { program := "ytcljahgcdbohaaa", sum := "3bf893061fe40ffa6a2296bb94a953a680ef7cdcfbbb5069df197d94e717e4bb", func := "groupcontrol/groupcontrollaw22.CounterRemoves", spec := "counterRemoves", unfollowed := true, recurses := true, apart := false }
def CounterRemovesSaid : Prop := counterRemovesRow.holds Try.pinned (OpenSpec.ofChange counterRemovesSpec)

/-- ITS FALSE NEIGHBOUR: 'it returns false'. Refute it at one input. -/
def counterRemovesWrong : ChangeSpec := { name := "counterRemoves", fn := fun _ => fun
  | [d] => { results := [.lit (.bool false)], args := [d] }
  | _ => none }
def CounterRemovesWrongFalsely : Prop := counterRemovesRow.holds Try.pinned (OpenSpec.ofChange counterRemovesWrong)

/-- 'groupcontrollaw22.CounterFull': WHATEVER THE INPUT: true; the input reads as it did. -/
def counterFullSpec : ChangeSpec := { name := "counterFull", fn := fun _ => fun
  | [d] => { results := [.lit (.bool true)], args := [d] }
  | _ => none }
def counterFullRow : OpenClaim := { program := "ytcljahgcdbohaaa", sum := "3bf893061fe40ffa6a2296bb94a953a680ef7cdcfbbb5069df197d94e717e4bb", func := "groupcontrol/groupcontrollaw22.CounterFull", spec := "counterFull", unfollowed := true, recurses := true, apart := false }
def CounterFullSaid : Prop := counterFullRow.holds Try.pinned (OpenSpec.ofChange counterFullSpec)

/-- ITS FALSE NEIGHBOUR: 'it returns false'. Refute it at one input. -/
def counterFullWrong : ChangeSpec := { name := "counterFull", fn := fun _ => fun
  | [d] => { results := [.lit (.bool false)], args := [d] }
  | _ => none }
def CounterFullWrongFalsely : Prop := counterFullRow.holds Try.pinned (OpenSpec.ofChange counterFullWrong)

/-- 'groupcontrollaw22.CounterAdds': WHATEVER THE INPUT: true; the input reads as it did. -/
def counterAddsSpec : ChangeSpec := { name := "counterAdds", fn := fun _ => fun
  | [d1, d2] => { results := [.lit (.bool true)], args := [d1, d2] }
  | _ => none }
def counterAddsRow : OpenClaim := { program := "ytcljahgcdbohaaa", sum := "3bf893061fe40ffa6a2296bb94a953a680ef7cdcfbbb5069df197d94e717e4bb", func := "groupcontrol/groupcontrollaw22.CounterAdds", spec := "counterAdds", unfollowed := true, recurses := true, apart := false }
def CounterAddsSaid : Prop := counterAddsRow.holds Try.pinned (OpenSpec.ofChange counterAddsSpec)

/-- ITS FALSE NEIGHBOUR: 'it returns false'. Refute it at one input. -/
def counterAddsWrong : ChangeSpec := { name := "counterAdds", fn := fun _ => fun
  | [d1, d2] => { results := [.lit (.bool false)], args := [d1, d2] }
  | _ => none }
def CounterAddsWrongFalsely : Prop := counterAddsRow.holds Try.pinned (OpenSpec.ofChange counterAddsWrong)

/-- 'groupcontrollaw32.IofairNext': WHATEVER THE INPUT: true; the input reads as it did. -/
def iofairNextSpec : ChangeSpec := { name := "iofairNext", fn := fun _ => fun
  | [d1, d2] => { results := [.lit (.bool true)], args := [d1, d2] }
  | _ => none }
def iofairNextRow : OpenClaim := { program := "ytcljahgcdbohaaa", sum := "3bf893061fe40ffa6a2296bb94a953a680ef7cdcfbbb5069df197d94e717e4bb", func := "groupcontrol/groupcontrollaw32.IofairNext", spec := "iofairNext", unfollowed := true, recurses := true, apart := false }
def IofairNextSaid : Prop := iofairNextRow.holds Try.pinned (OpenSpec.ofChange iofairNextSpec)

/-- ITS FALSE NEIGHBOUR: 'it returns false'. Refute it at one input. -/
def iofairNextWrong : ChangeSpec := { name := "iofairNext", fn := fun _ => fun
  | [d1, d2] => { results := [.lit (.bool false)], args := [d1, d2] }
  | _ => none }
def IofairNextWrongFalsely : Prop := iofairNextRow.holds Try.pinned (OpenSpec.ofChange iofairNextWrong)

/-- 'groupcontrollaw22.CounterTotals': WHATEVER THE INPUT: true; the input reads as it did. -/
def counterTotalsSpec : ChangeSpec := { name := "counterTotals", fn := fun _ => fun
  | [d] => { results := [.lit (.bool true)], args := [d] }
  | _ => none }
def counterTotalsRow : OpenClaim := { program := "ytcljahgcdbohaaa", sum := "3bf893061fe40ffa6a2296bb94a953a680ef7cdcfbbb5069df197d94e717e4bb", func := "groupcontrol/groupcontrollaw22.CounterTotals", spec := "counterTotals", unfollowed := true, recurses := true, apart := false }
def CounterTotalsSaid : Prop := counterTotalsRow.holds Try.pinned (OpenSpec.ofChange counterTotalsSpec)

/-- ITS FALSE NEIGHBOUR: 'it returns false'. Refute it at one input. -/
def counterTotalsWrong : ChangeSpec := { name := "counterTotals", fn := fun _ => fun
  | [d] => { results := [.lit (.bool false)], args := [d] }
  | _ => none }
def CounterTotalsWrongFalsely : Prop := counterTotalsRow.holds Try.pinned (OpenSpec.ofChange counterTotalsWrong)

/-- 'groupcontrollaw22.CounterLimits': WHATEVER THE INPUT: true; the input reads as it did. -/
def counterLimitsSpec : ChangeSpec := { name := "counterLimits", fn := fun _ => fun
  | [d] => { results := [.lit (.bool true)], args := [d] }
  | _ => none }
def counterLimitsRow : OpenClaim := { program := "ytcljahgcdbohaaa", sum := "3bf893061fe40ffa6a2296bb94a953a680ef7cdcfbbb5069df197d94e717e4bb", func := "groupcontrol/groupcontrollaw22.CounterLimits", spec := "counterLimits", unfollowed := true, recurses := true, apart := false }
def CounterLimitsSaid : Prop := counterLimitsRow.holds Try.pinned (OpenSpec.ofChange counterLimitsSpec)

/-- ITS FALSE NEIGHBOUR: 'it returns false'. Refute it at one input. -/
def counterLimitsWrong : ChangeSpec := { name := "counterLimits", fn := fun _ => fun
  | [d] => { results := [.lit (.bool false)], args := [d] }
  | _ => none }
def CounterLimitsWrongFalsely : Prop := counterLimitsRow.holds Try.pinned (OpenSpec.ofChange counterLimitsWrong)

/-- 'groupcontrollaw22.CounterExact': WHATEVER THE INPUT: true; the input reads as it did. -/
def counterExactSpec : ChangeSpec := { name := "counterExact", fn := fun _ => fun
  | [d1, d2, d3, d4, d5, d6] => { results := [.lit (.bool true)], args := [d1, d2, d3, d4, d5, d6] }
  | _ => none }
def counterExactRow : OpenClaim := { program := "ytcljahgcdbohaaa", sum := "3bf893061fe40ffa6a2296bb94a953a680ef7cdcfbbb5069df197d94e717e4bb", func := "groupcontrol/groupcontrollaw22.CounterExact", spec := "counterExact", unfollowed := true, recurses := true, apart := false }
def CounterExactSaid : Prop := counterExactRow.holds Try.pinned (OpenSpec.ofChange counterExactSpec)

/-- ITS FALSE NEIGHBOUR: 'it returns false'. Refute it at one input. -/
def counterExactWrong : ChangeSpec := { name := "counterExact", fn := fun _ => fun
  | [d1, d2, d3, d4, d5, d6] => { results := [.lit (.bool false)], args := [d1, d2, d3, d4, d5, d6] }
  | _ => none }
def CounterExactWrongFalsely : Prop := counterExactRow.holds Try.pinned (OpenSpec.ofChange counterExactWrong)

/- THE SECOND FORM. 'bulk': how many values and letters a reading holds, each counted each time it is reached (what is shared counts as often as it is met; a slice's spare places count too). A statement '..UptoSaid' is the law's where the arguments, and the package variables that the reading takes, are together of bulk at most 1048576: NARROWER than '..Said'. Prove '..Said' where nothing that the law and all that it calls make is longer than what came in: it says more and counts as full. Else prove '..UptoSaid'. A law counts once. -/
mutual
def uptoBulk {H : Type} : DataW H → Nat
  | .lit (.string bytes) => bytes.length + 1
  | .lit _ => 1
  | .nil => 1
  | .ptr d => uptoBulk d + 1
  | .slice elems spare => uptoBulkAll elems + uptoBulkAll spare + 1
  | .agg parts => uptoBulkAll parts + 1
  | .iface _ d => uptoBulk d + 1
  | .map entries => uptoBulkEntries entries + 1
  | .held _ => 1
def uptoBulkAll {H : Type} : List (DataW H) → Nat
  | [] => 0
  | d :: r => uptoBulk d + uptoBulkAll r
def uptoBulkEntries {H : Type} : List (Lit × DataW H) → Nat
  | [] => 0
  | x :: r => uptoBulkEntry x + uptoBulkEntries r
def uptoBulkEntry {H : Type} : Lit × DataW H → Nat
  | (.string bytes, d) => bytes.length + uptoBulk d + 1
  | (_, d) => uptoBulk d + 1
 end
def uptoSmall : (H : Type) → List (DataW H) → Bool := fun _ ds => decide (uptoBulkAll ds ≤ 1048576)
def OpenSpec.upto (s : _root_.Go.ChangeSpec) : _root_.Go.OpenSpec := { _root_.Go.OpenSpec.ofChange s with cond := some uptoSmall }

/-- 'groupcontrollaw19.ClampOrder', WHERE WHAT IT READS IS OF BULK AT MOST 1048576: true; the input reads as it did. -/
def clampOrderUptoRow : OpenClaim := { program := "ytcljahgcdbohaaa", sum := "3bf893061fe40ffa6a2296bb94a953a680ef7cdcfbbb5069df197d94e717e4bb", func := "groupcontrol/groupcontrollaw19.ClampOrder", spec := "clampOrder", unfollowed := true, recurses := true, apart := false, narrowed := true }
def ClampOrderUptoSaid : Prop := clampOrderUptoRow.holds Try.pinned (OpenSpec.upto clampOrderSpec)

/-- 'groupcontrollaw19.ClampJoins', WHERE WHAT IT READS IS OF BULK AT MOST 1048576: true; the input reads as it did. -/
def clampJoinsUptoRow : OpenClaim := { program := "ytcljahgcdbohaaa", sum := "3bf893061fe40ffa6a2296bb94a953a680ef7cdcfbbb5069df197d94e717e4bb", func := "groupcontrol/groupcontrollaw19.ClampJoins", spec := "clampJoins", unfollowed := true, recurses := true, apart := false, narrowed := true }
def ClampJoinsUptoSaid : Prop := clampJoinsUptoRow.holds Try.pinned (OpenSpec.upto clampJoinsSpec)

/-- 'groupcontrollaw19.ClampOpen', WHERE WHAT IT READS IS OF BULK AT MOST 1048576: true; the input reads as it did. -/
def clampOpenUptoRow : OpenClaim := { program := "ytcljahgcdbohaaa", sum := "3bf893061fe40ffa6a2296bb94a953a680ef7cdcfbbb5069df197d94e717e4bb", func := "groupcontrol/groupcontrollaw19.ClampOpen", spec := "clampOpen", unfollowed := true, recurses := true, apart := false, narrowed := true }
def ClampOpenUptoSaid : Prop := clampOpenUptoRow.holds Try.pinned (OpenSpec.upto clampOpenSpec)

/-- 'groupcontrollaw19.ClampCapacity', WHERE WHAT IT READS IS OF BULK AT MOST 1048576: true; the input reads as it did. -/
def clampCapacityUptoRow : OpenClaim := { program := "ytcljahgcdbohaaa", sum := "3bf893061fe40ffa6a2296bb94a953a680ef7cdcfbbb5069df197d94e717e4bb", func := "groupcontrol/groupcontrollaw19.ClampCapacity", spec := "clampCapacity", unfollowed := true, recurses := true, apart := false, narrowed := true }
def ClampCapacityUptoSaid : Prop := clampCapacityUptoRow.holds Try.pinned (OpenSpec.upto clampCapacitySpec)

/-- 'groupcontrollaw19.ClampAll', WHERE WHAT IT READS IS OF BULK AT MOST 1048576: true; the input reads as it did. -/
def clampAllUptoRow : OpenClaim := { program := "ytcljahgcdbohaaa", sum := "3bf893061fe40ffa6a2296bb94a953a680ef7cdcfbbb5069df197d94e717e4bb", func := "groupcontrol/groupcontrollaw19.ClampAll", spec := "clampAll", unfollowed := true, recurses := true, apart := false, narrowed := true }
def ClampAllUptoSaid : Prop := clampAllUptoRow.holds Try.pinned (OpenSpec.upto clampAllSpec)

/-- 'groupcontrollaw32.IofairAlone', WHERE WHAT IT READS IS OF BULK AT MOST 1048576: true; the input reads as it did. -/
def iofairAloneUptoRow : OpenClaim := { program := "ytcljahgcdbohaaa", sum := "3bf893061fe40ffa6a2296bb94a953a680ef7cdcfbbb5069df197d94e717e4bb", func := "groupcontrol/groupcontrollaw32.IofairAlone", spec := "iofairAlone", unfollowed := true, recurses := true, apart := false, narrowed := true }
def IofairAloneUptoSaid : Prop := iofairAloneUptoRow.holds Try.pinned (OpenSpec.upto iofairAloneSpec)

/-- 'groupcontrollaw32.IofairDivides', WHERE WHAT IT READS IS OF BULK AT MOST 1048576: true; the input reads as it did. -/
def iofairDividesUptoRow : OpenClaim := { program := "ytcljahgcdbohaaa", sum := "3bf893061fe40ffa6a2296bb94a953a680ef7cdcfbbb5069df197d94e717e4bb", func := "groupcontrol/groupcontrollaw32.IofairDivides", spec := "iofairDivides", unfollowed := true, recurses := true, apart := false, narrowed := true }
def IofairDividesUptoSaid : Prop := iofairDividesUptoRow.holds Try.pinned (OpenSpec.upto iofairDividesSpec)

/-- 'groupcontrollaw32.IofairShrinks', WHERE WHAT IT READS IS OF BULK AT MOST 1048576: true; the input reads as it did. -/
def iofairShrinksUptoRow : OpenClaim := { program := "ytcljahgcdbohaaa", sum := "3bf893061fe40ffa6a2296bb94a953a680ef7cdcfbbb5069df197d94e717e4bb", func := "groupcontrol/groupcontrollaw32.IofairShrinks", spec := "iofairShrinks", unfollowed := true, recurses := true, apart := false, narrowed := true }
def IofairShrinksUptoSaid : Prop := iofairShrinksUptoRow.holds Try.pinned (OpenSpec.upto iofairShrinksSpec)

/-- 'groupcontrollaw32.IofairBounds', WHERE WHAT IT READS IS OF BULK AT MOST 1048576: true; the input reads as it did. -/
def iofairBoundsUptoRow : OpenClaim := { program := "ytcljahgcdbohaaa", sum := "3bf893061fe40ffa6a2296bb94a953a680ef7cdcfbbb5069df197d94e717e4bb", func := "groupcontrol/groupcontrollaw32.IofairBounds", spec := "iofairBounds", unfollowed := true, recurses := true, apart := false, narrowed := true }
def IofairBoundsUptoSaid : Prop := iofairBoundsUptoRow.holds Try.pinned (OpenSpec.upto iofairBoundsSpec)

/-- 'groupcontrollaw22.CounterSums', WHERE WHAT IT READS IS OF BULK AT MOST 1048576: true; the input reads as it did. -/
def counterSumsUptoRow : OpenClaim := { program := "ytcljahgcdbohaaa", sum := "3bf893061fe40ffa6a2296bb94a953a680ef7cdcfbbb5069df197d94e717e4bb", func := "groupcontrol/groupcontrollaw22.CounterSums", spec := "counterSums", unfollowed := true, recurses := true, apart := false, narrowed := true }
def CounterSumsUptoSaid : Prop := counterSumsUptoRow.holds Try.pinned (OpenSpec.upto counterSumsSpec)

/-- 'groupcontrollaw22.CounterRemoves', WHERE WHAT IT READS IS OF BULK AT MOST 1048576: true; the input reads as it did. -/
def counterRemovesUptoRow : OpenClaim := { program := "ytcljahgcdbohaaa", sum := "3bf893061fe40ffa6a2296bb94a953a680ef7cdcfbbb5069df197d94e717e4bb", func := "groupcontrol/groupcontrollaw22.CounterRemoves", spec := "counterRemoves", unfollowed := true, recurses := true, apart := false, narrowed := true }
def CounterRemovesUptoSaid : Prop := counterRemovesUptoRow.holds Try.pinned (OpenSpec.upto counterRemovesSpec)

/-- 'groupcontrollaw22.CounterFull', WHERE WHAT IT READS IS OF BULK AT MOST 1048576: true; the input reads as it did. -/
def counterFullUptoRow : OpenClaim := { program := "ytcljahgcdbohaaa", sum := "3bf893061fe40ffa6a2296bb94a953a680ef7cdcfbbb5069df197d94e717e4bb", func := "groupcontrol/groupcontrollaw22.CounterFull", spec := "counterFull", unfollowed := true, recurses := true, apart := false, narrowed := true }
def CounterFullUptoSaid : Prop := counterFullUptoRow.holds Try.pinned (OpenSpec.upto counterFullSpec)

/-- 'groupcontrollaw22.CounterAdds', WHERE WHAT IT READS IS OF BULK AT MOST 1048576: true; the input reads as it did. -/
def counterAddsUptoRow : OpenClaim := { program := "ytcljahgcdbohaaa", sum := "3bf893061fe40ffa6a2296bb94a953a680ef7cdcfbbb5069df197d94e717e4bb", func := "groupcontrol/groupcontrollaw22.CounterAdds", spec := "counterAdds", unfollowed := true, recurses := true, apart := false, narrowed := true }
def CounterAddsUptoSaid : Prop := counterAddsUptoRow.holds Try.pinned (OpenSpec.upto counterAddsSpec)

/-- 'groupcontrollaw32.IofairNext', WHERE WHAT IT READS IS OF BULK AT MOST 1048576: true; the input reads as it did. -/
def iofairNextUptoRow : OpenClaim := { program := "ytcljahgcdbohaaa", sum := "3bf893061fe40ffa6a2296bb94a953a680ef7cdcfbbb5069df197d94e717e4bb", func := "groupcontrol/groupcontrollaw32.IofairNext", spec := "iofairNext", unfollowed := true, recurses := true, apart := false, narrowed := true }
def IofairNextUptoSaid : Prop := iofairNextUptoRow.holds Try.pinned (OpenSpec.upto iofairNextSpec)

/-- 'groupcontrollaw22.CounterTotals', WHERE WHAT IT READS IS OF BULK AT MOST 1048576: true; the input reads as it did. -/
def counterTotalsUptoRow : OpenClaim := { program := "ytcljahgcdbohaaa", sum := "3bf893061fe40ffa6a2296bb94a953a680ef7cdcfbbb5069df197d94e717e4bb", func := "groupcontrol/groupcontrollaw22.CounterTotals", spec := "counterTotals", unfollowed := true, recurses := true, apart := false, narrowed := true }
def CounterTotalsUptoSaid : Prop := counterTotalsUptoRow.holds Try.pinned (OpenSpec.upto counterTotalsSpec)

/-- 'groupcontrollaw22.CounterLimits', WHERE WHAT IT READS IS OF BULK AT MOST 1048576: true; the input reads as it did. -/
def counterLimitsUptoRow : OpenClaim := { program := "ytcljahgcdbohaaa", sum := "3bf893061fe40ffa6a2296bb94a953a680ef7cdcfbbb5069df197d94e717e4bb", func := "groupcontrol/groupcontrollaw22.CounterLimits", spec := "counterLimits", unfollowed := true, recurses := true, apart := false, narrowed := true }
def CounterLimitsUptoSaid : Prop := counterLimitsUptoRow.holds Try.pinned (OpenSpec.upto counterLimitsSpec)

/-- 'groupcontrollaw22.CounterExact', WHERE WHAT IT READS IS OF BULK AT MOST 1048576: true; the input reads as it did. -/
def counterExactUptoRow : OpenClaim := { program := "ytcljahgcdbohaaa", sum := "3bf893061fe40ffa6a2296bb94a953a680ef7cdcfbbb5069df197d94e717e4bb", func := "groupcontrol/groupcontrollaw22.CounterExact", spec := "counterExact", unfollowed := true, recurses := true, apart := false, narrowed := true }
def CounterExactUptoSaid : Prop := counterExactUptoRow.holds Try.pinned (OpenSpec.upto counterExactSpec)

end Rows
end Go.Proofs.Ytcljahgcdbohaaa
