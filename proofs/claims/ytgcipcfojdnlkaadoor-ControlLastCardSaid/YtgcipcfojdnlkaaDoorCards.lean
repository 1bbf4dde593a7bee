/-
  DERIVED. GIVEN WITH THE SEED: THE CARDS: each row of YtgcipcfojdnlkaaDoorRows.lean that lists a variable, with what it lists TIED to the program's text (the seventh form; the later family's looks); each row that meets fmt, with fmt's text TOLD by the authors' own Lean function (tested against real Go, not proved from fmt's source: count such statements apart). THE CARD IS WHAT COUNTS. Prove the row's statement (the work); the ties are given (YtgcipcfojdnlkaaDoorTie.lean); close each card by the builder's one call (the guide's Derived/Test/ToyasCard.lean, 'card_holds'). Laid BY PROGRAM, IN A SANDBOX (cutbox-door.mjs). By AI agents, Wed Nov 11 2026. No macro, syntax, notation, axiom, sorry.
-/
import Derived.Test.YtgcipcfojdnlkaaDoorRows
import GoSem.ClaimSeven
namespace Go.Proofs.YtgcipcfojdnlkaaDoor
namespace Rows

/-- THE TIED CARD OF 'groupcontrollaw7.ControlLast'. -/
def controlLastCard : Claim7 := { stood := { row := controlLastRow, standIns := [], harness := (true, "7cdfd295868f52c2d7f3da32aee2e2786319167e49add29f187cb03a04df62fe"), looks := false }, kinds := [], alts := [], laidByText := true, laidKinds := [.data, .data, .data, .pinned], laidTests := true, laidLooks := .later }
def ControlLastCardSaid : Prop := Claim7.holds Tryd.pinned (.plain (OpenSpec.ofChange controlLastSpec)) controlLastCard

/-- THE TIED CARD OF 'groupcontrollaw7.ControlBack'. -/
def controlBackCard : Claim7 := { stood := { row := controlBackRow, standIns := [], harness := (true, "7cdfd295868f52c2d7f3da32aee2e2786319167e49add29f187cb03a04df62fe"), looks := false }, kinds := [], alts := [], laidByText := true, laidKinds := [.data, .data, .data, .pinned], laidTests := true, laidLooks := .later }
def ControlBackCardSaid : Prop := Claim7.holds Tryd.pinned (.plain (OpenSpec.ofChange controlBackSpec)) controlBackCard

/-- THE SECOND FORM's CARD OF 'groupcontrollaw7.ControlLast'. -/
def controlLastUptoCard : Claim7 := { stood := { row := controlLastUptoRow, standIns := [], harness := (true, "7cdfd295868f52c2d7f3da32aee2e2786319167e49add29f187cb03a04df62fe"), looks := false }, kinds := [], alts := [], laidByText := true, laidKinds := [.data, .data, .data, .pinned], laidTests := true, laidLooks := .later }
def ControlLastUptoCardSaid : Prop := Claim7.holds Tryd.pinned (.plain (OpenSpec.upto controlLastSpec)) controlLastUptoCard

/-- THE SECOND FORM's CARD OF 'groupcontrollaw7.ControlBack'. -/
def controlBackUptoCard : Claim7 := { stood := { row := controlBackUptoRow, standIns := [], harness := (true, "7cdfd295868f52c2d7f3da32aee2e2786319167e49add29f187cb03a04df62fe"), looks := false }, kinds := [], alts := [], laidByText := true, laidKinds := [.data, .data, .data, .pinned], laidTests := true, laidLooks := .later }
def ControlBackUptoCardSaid : Prop := Claim7.holds Tryd.pinned (.plain (OpenSpec.upto controlBackSpec)) controlBackUptoCard
end Rows
end Go.Proofs.YtgcipcfojdnlkaaDoor
