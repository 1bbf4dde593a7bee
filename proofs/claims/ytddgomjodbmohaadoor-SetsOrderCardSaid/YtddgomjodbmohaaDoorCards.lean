/-
  DERIVED. GIVEN WITH THE SEED: THE CARDS: each row of YtddgomjodbmohaaDoorRows.lean that lists a variable, with what it lists TIED to the program's text (the seventh form; the later family's looks); each row that meets fmt, with fmt's text TOLD by the authors' own Lean function (tested against real Go, not proved from fmt's source: count such statements apart). THE CARD IS WHAT COUNTS. Prove the row's statement (the work); the ties are given (YtddgomjodbmohaaDoorTie.lean); close each card by the builder's one call (the guide's Derived/Test/ToyasCard.lean, 'card_holds'). Laid BY PROGRAM, IN A SANDBOX (cutbox-door.mjs). By AI agents, Wed Nov 11 2026. No macro, syntax, notation, axiom, sorry.
-/
import Derived.Test.YtddgomjodbmohaaDoorRows
import GoSem.ClaimSeven
namespace Go.Proofs.YtddgomjodbmohaaDoor
namespace Rows

/-- THE TIED CARD OF 'groupcontrollaw3.SetsOrder'. -/
def setsOrderCard : Claim7 := { stood := { row := setsOrderRow, standIns := [], harness := (true, "d9f5f8146c21ea2a15f08488c43ea7b517f78a09222a8fee963bf58b8cab30db"), looks := false }, kinds := [], alts := [], laidByText := true, laidKinds := [.data, .data, .data, .data, .pinned], laidTests := true, laidLooks := .later }
def SetsOrderCardSaid : Prop := Claim7.holds Tryd.pinned (.plain (OpenSpec.ofChange setsOrderSpec)) setsOrderCard

/-- THE TIED CARD OF 'groupcontrollaw3.SetsShort'. -/
def setsShortCard : Claim7 := { stood := { row := setsShortRow, standIns := [], harness := (true, "d9f5f8146c21ea2a15f08488c43ea7b517f78a09222a8fee963bf58b8cab30db"), looks := false }, kinds := [], alts := [], laidByText := true, laidKinds := [.data, .data, .data, .data, .pinned], laidTests := true, laidLooks := .later }
def SetsShortCardSaid : Prop := Claim7.holds Tryd.pinned (.plain (OpenSpec.ofChange setsShortSpec)) setsShortCard

/-- THE TIED CARD OF 'groupcontrollaw3.SetsBack'. -/
def setsBackCard : Claim7 := { stood := { row := setsBackRow, standIns := [], harness := (true, "d9f5f8146c21ea2a15f08488c43ea7b517f78a09222a8fee963bf58b8cab30db"), looks := false }, kinds := [], alts := [], laidByText := true, laidKinds := [.data, .data, .data, .data, .pinned], laidTests := true, laidLooks := .later }
def SetsBackCardSaid : Prop := Claim7.holds Tryd.pinned (.plain (OpenSpec.ofChange setsBackSpec)) setsBackCard

/-- THE TIED CARD OF 'groupcontrollaw3.SetsTexts'. -/
def setsTextsCard : Claim7 := { stood := { row := setsTextsRow, standIns := [], harness := (true, "d9f5f8146c21ea2a15f08488c43ea7b517f78a09222a8fee963bf58b8cab30db"), looks := false }, kinds := [], alts := [], laidByText := true, laidKinds := [.data, .data, .data, .data, .pinned], laidTests := true, laidLooks := .later }
def SetsTextsCardSaid : Prop := Claim7.holds Tryd.pinned (.plain (OpenSpec.ofChange setsTextsSpec)) setsTextsCard

/-- THE SECOND FORM's CARD OF 'groupcontrollaw3.SetsOrder'. -/
def setsOrderUptoCard : Claim7 := { stood := { row := setsOrderUptoRow, standIns := [], harness := (true, "d9f5f8146c21ea2a15f08488c43ea7b517f78a09222a8fee963bf58b8cab30db"), looks := false }, kinds := [], alts := [], laidByText := true, laidKinds := [.data, .data, .data, .data, .pinned], laidTests := true, laidLooks := .later }
def SetsOrderUptoCardSaid : Prop := Claim7.holds Tryd.pinned (.plain (OpenSpec.upto setsOrderSpec)) setsOrderUptoCard

/-- THE SECOND FORM's CARD OF 'groupcontrollaw3.SetsShort'. -/
def setsShortUptoCard : Claim7 := { stood := { row := setsShortUptoRow, standIns := [], harness := (true, "d9f5f8146c21ea2a15f08488c43ea7b517f78a09222a8fee963bf58b8cab30db"), looks := false }, kinds := [], alts := [], laidByText := true, laidKinds := [.data, .data, .data, .data, .pinned], laidTests := true, laidLooks := .later }
def SetsShortUptoCardSaid : Prop := Claim7.holds Tryd.pinned (.plain (OpenSpec.upto setsShortSpec)) setsShortUptoCard

/-- THE SECOND FORM's CARD OF 'groupcontrollaw3.SetsBack'. -/
def setsBackUptoCard : Claim7 := { stood := { row := setsBackUptoRow, standIns := [], harness := (true, "d9f5f8146c21ea2a15f08488c43ea7b517f78a09222a8fee963bf58b8cab30db"), looks := false }, kinds := [], alts := [], laidByText := true, laidKinds := [.data, .data, .data, .data, .pinned], laidTests := true, laidLooks := .later }
def SetsBackUptoCardSaid : Prop := Claim7.holds Tryd.pinned (.plain (OpenSpec.upto setsBackSpec)) setsBackUptoCard

/-- THE SECOND FORM's CARD OF 'groupcontrollaw3.SetsTexts'. -/
def setsTextsUptoCard : Claim7 := { stood := { row := setsTextsUptoRow, standIns := [], harness := (true, "d9f5f8146c21ea2a15f08488c43ea7b517f78a09222a8fee963bf58b8cab30db"), looks := false }, kinds := [], alts := [], laidByText := true, laidKinds := [.data, .data, .data, .data, .pinned], laidTests := true, laidLooks := .later }
def SetsTextsUptoCardSaid : Prop := Claim7.holds Tryd.pinned (.plain (OpenSpec.upto setsTextsSpec)) setsTextsUptoCard
end Rows
end Go.Proofs.YtddgomjodbmohaaDoor
