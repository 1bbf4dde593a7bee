/-
  DERIVED. GIVEN WITH THE SEED: THE CARDS: each row of YtkgkbbpakjdemaaGreatDoorRows.lean that lists a variable, with what it lists TIED to the program's text (the seventh form; the later family's looks); each row that meets fmt, with fmt's text TOLD by the authors' own Lean function (tested against real Go, not proved from fmt's source: count such statements apart). THE CARD IS WHAT COUNTS. Prove the row's statement (the work); the ties are given (YtkgkbbpakjdemaaGreatDoorTie.lean); close each card by the builder's one call (the guide's Derived/Test/ToyasCard.lean, 'card_holds'). Laid BY PROGRAM, IN A SANDBOX (cutbox-door.mjs). By AI agents, Wed Nov 11 2026. No macro, syntax, notation, axiom, sorry.
-/
import Derived.Test.YtkgkbbpakjdemaaGreatDoorRows
import GoSem.ClaimSeven
namespace Go.Proofs.YtkgkbbpakjdemaaGreatDoor
namespace Rows

/-- THE TIED CARD OF 'groupcontrollaw12.FilesBandwidth'. -/
def filesBandwidthCard : Claim7 := { stood := { row := filesBandwidthRow, standIns := [], harness := (true, "d22ece83ffd4bb93c746edd569bb52ed6c5e8944e682289f75abaf0524d9bce1"), looks := false }, kinds := [], alts := [], laidByText := true, laidKinds := [.data, .data, .data, .data, .pinned], laidTests := true, laidLooks := .later }
def FilesBandwidthCardSaid : Prop := Claim7.holds Tryz.pinned (.plain (OpenSpec.ofChange filesBandwidthSpec)) filesBandwidthCard

/-- THE TIED CARD OF 'groupcontrollaw12.FilesApart'. -/
def filesApartCard : Claim7 := { stood := { row := filesApartRow, standIns := [], harness := (true, "d22ece83ffd4bb93c746edd569bb52ed6c5e8944e682289f75abaf0524d9bce1"), looks := false }, kinds := [], alts := [], laidByText := true, laidKinds := [.data, .data, .data, .data, .pinned], laidTests := true, laidLooks := .later }
def FilesApartCardSaid : Prop := Claim7.holds Tryz.pinned (.plain (OpenSpec.ofChange filesApartSpec)) filesApartCard

/-- THE TIED CARD OF 'groupcontrollaw12.FilesForms'. -/
def filesFormsCard : Claim7 := { stood := { row := filesFormsRow, standIns := [], harness := (true, "d22ece83ffd4bb93c746edd569bb52ed6c5e8944e682289f75abaf0524d9bce1"), looks := false }, kinds := [], alts := [], laidByText := true, laidKinds := [.data, .data, .data, .data, .pinned], laidTests := true, laidLooks := .later }
def FilesFormsCardSaid : Prop := Claim7.holds Tryz.pinned (.plain (OpenSpec.ofChange filesFormsSpec)) filesFormsCard

/-- THE TIED CARD OF 'groupcontrollaw12.FilesBack'. -/
def filesBackCard : Claim7 := { stood := { row := filesBackRow, standIns := [], harness := (true, "d22ece83ffd4bb93c746edd569bb52ed6c5e8944e682289f75abaf0524d9bce1"), looks := false }, kinds := [], alts := [], laidByText := true, laidKinds := [.data, .data, .data, .data, .pinned], laidTests := true, laidLooks := .later }
def FilesBackCardSaid : Prop := Claim7.holds Tryz.pinned (.plain (OpenSpec.ofChange filesBackSpec)) filesBackCard

/-- THE SECOND FORM's CARD OF 'groupcontrollaw12.FilesBandwidth'. -/
def filesBandwidthUptoCard : Claim7 := { stood := { row := filesBandwidthUptoRow, standIns := [], harness := (true, "d22ece83ffd4bb93c746edd569bb52ed6c5e8944e682289f75abaf0524d9bce1"), looks := false }, kinds := [], alts := [], laidByText := true, laidKinds := [.data, .data, .data, .data, .pinned], laidTests := true, laidLooks := .later }
def FilesBandwidthUptoCardSaid : Prop := Claim7.holds Tryz.pinned (.plain (OpenSpec.upto filesBandwidthSpec)) filesBandwidthUptoCard

/-- THE SECOND FORM's CARD OF 'groupcontrollaw12.FilesApart'. -/
def filesApartUptoCard : Claim7 := { stood := { row := filesApartUptoRow, standIns := [], harness := (true, "d22ece83ffd4bb93c746edd569bb52ed6c5e8944e682289f75abaf0524d9bce1"), looks := false }, kinds := [], alts := [], laidByText := true, laidKinds := [.data, .data, .data, .data, .pinned], laidTests := true, laidLooks := .later }
def FilesApartUptoCardSaid : Prop := Claim7.holds Tryz.pinned (.plain (OpenSpec.upto filesApartSpec)) filesApartUptoCard

/-- THE SECOND FORM's CARD OF 'groupcontrollaw12.FilesForms'. -/
def filesFormsUptoCard : Claim7 := { stood := { row := filesFormsUptoRow, standIns := [], harness := (true, "d22ece83ffd4bb93c746edd569bb52ed6c5e8944e682289f75abaf0524d9bce1"), looks := false }, kinds := [], alts := [], laidByText := true, laidKinds := [.data, .data, .data, .data, .pinned], laidTests := true, laidLooks := .later }
def FilesFormsUptoCardSaid : Prop := Claim7.holds Tryz.pinned (.plain (OpenSpec.upto filesFormsSpec)) filesFormsUptoCard

/-- THE SECOND FORM's CARD OF 'groupcontrollaw12.FilesBack'. -/
def filesBackUptoCard : Claim7 := { stood := { row := filesBackUptoRow, standIns := [], harness := (true, "d22ece83ffd4bb93c746edd569bb52ed6c5e8944e682289f75abaf0524d9bce1"), looks := false }, kinds := [], alts := [], laidByText := true, laidKinds := [.data, .data, .data, .data, .pinned], laidTests := true, laidLooks := .later }
def FilesBackUptoCardSaid : Prop := Claim7.holds Tryz.pinned (.plain (OpenSpec.upto filesBackSpec)) filesBackUptoCard
end Rows
end Go.Proofs.YtkgkbbpakjdemaaGreatDoor
