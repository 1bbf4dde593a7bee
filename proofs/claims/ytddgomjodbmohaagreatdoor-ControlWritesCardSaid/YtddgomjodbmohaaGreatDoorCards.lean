/-
  DERIVED. GIVEN WITH THE SEED: THE CARDS: each row of YtddgomjodbmohaaGreatDoorRows.lean that lists a variable, with what it lists TIED to the program's text (the seventh form; the later family's looks); each row that meets fmt, with fmt's text TOLD by the authors' own Lean function (tested against real Go, not proved from fmt's source: count such statements apart). THE CARD IS WHAT COUNTS. Prove the row's statement (the work); the ties are given (YtddgomjodbmohaaGreatDoorTie.lean); close each card by the builder's one call (the guide's Derived/Test/ToyasCard.lean, 'card_holds'). Laid BY PROGRAM, IN A SANDBOX (cutbox-door.mjs). By AI agents, Wed Nov 11 2026. No macro, syntax, notation, axiom, sorry.
-/
import Derived.Test.YtddgomjodbmohaaGreatDoorRows
import GoSem.ClaimSeven
namespace Go.Proofs.YtddgomjodbmohaaGreatDoor
namespace Rows

/-- THE TIED CARD OF 'groupcontrollaw7.ControlChains'. -/
def controlChainsCard : Claim7 := { stood := { row := controlChainsRow, standIns := [], harness := (true, "fab88ffc968dae35e201604da2f10f9048f0d1afdbfd8d9a685f0984d096b58f"), looks := false }, kinds := [], alts := [], laidByText := true, laidKinds := [.data, .data, .data, .pinned], laidTests := true, laidLooks := .later }
def ControlChainsCardSaid : Prop := Claim7.holds Tryz.pinned (.plain (OpenSpec.ofChange controlChainsSpec)) controlChainsCard

/-- THE TIED CARD OF 'groupcontrollaw7.ControlWhole'. -/
def controlWholeCard : Claim7 := { stood := { row := controlWholeRow, standIns := [], harness := (true, "fab88ffc968dae35e201604da2f10f9048f0d1afdbfd8d9a685f0984d096b58f"), looks := false }, kinds := [], alts := [], laidByText := true, laidKinds := [.data, .data, .data, .pinned], laidTests := true, laidLooks := .later }
def ControlWholeCardSaid : Prop := Claim7.holds Tryz.pinned (.plain (OpenSpec.ofChange controlWholeSpec)) controlWholeCard

/-- THE TIED CARD OF 'groupcontrollaw7.ControlKeeps'. -/
def controlKeepsCard : Claim7 := { stood := { row := controlKeepsRow, standIns := [], harness := (true, "fab88ffc968dae35e201604da2f10f9048f0d1afdbfd8d9a685f0984d096b58f"), looks := false }, kinds := [], alts := [], laidByText := true, laidKinds := [.data, .data, .data, .pinned], laidTests := true, laidLooks := .later }
def ControlKeepsCardSaid : Prop := Claim7.holds Tryz.pinned (.plain (OpenSpec.ofChange controlKeepsSpec)) controlKeepsCard

/-- THE TIED CARD OF 'groupcontrollaw7.ControlWrites'. -/
def controlWritesCard : Claim7 := { stood := { row := controlWritesRow, standIns := [], harness := (true, "fab88ffc968dae35e201604da2f10f9048f0d1afdbfd8d9a685f0984d096b58f"), looks := false }, kinds := [], alts := [], laidByText := true, laidKinds := [.data, .data, .data, .pinned], laidTests := true, laidLooks := .later }
def ControlWritesCardSaid : Prop := Claim7.holds Tryz.pinned (.plain (OpenSpec.ofChange controlWritesSpec)) controlWritesCard

/-- THE TIED CARD OF 'groupcontrollaw3.SetsLaws'. -/
def setsLawsCard : Claim7 := { stood := { row := setsLawsRow, standIns := [], harness := (true, "fab88ffc968dae35e201604da2f10f9048f0d1afdbfd8d9a685f0984d096b58f"), looks := false }, kinds := [], alts := [], laidByText := true, laidKinds := [.data, .data, .data, .data, .pinned], laidTests := true, laidLooks := .later }
def SetsLawsCardSaid : Prop := Claim7.holds Tryz.pinned (.plain (OpenSpec.ofChange setsLawsSpec)) setsLawsCard

/-- THE SECOND FORM's CARD OF 'groupcontrollaw7.ControlChains'. -/
def controlChainsUptoCard : Claim7 := { stood := { row := controlChainsUptoRow, standIns := [], harness := (true, "fab88ffc968dae35e201604da2f10f9048f0d1afdbfd8d9a685f0984d096b58f"), looks := false }, kinds := [], alts := [], laidByText := true, laidKinds := [.data, .data, .data, .pinned], laidTests := true, laidLooks := .later }
def ControlChainsUptoCardSaid : Prop := Claim7.holds Tryz.pinned (.plain (OpenSpec.upto controlChainsSpec)) controlChainsUptoCard

/-- THE SECOND FORM's CARD OF 'groupcontrollaw7.ControlWhole'. -/
def controlWholeUptoCard : Claim7 := { stood := { row := controlWholeUptoRow, standIns := [], harness := (true, "fab88ffc968dae35e201604da2f10f9048f0d1afdbfd8d9a685f0984d096b58f"), looks := false }, kinds := [], alts := [], laidByText := true, laidKinds := [.data, .data, .data, .pinned], laidTests := true, laidLooks := .later }
def ControlWholeUptoCardSaid : Prop := Claim7.holds Tryz.pinned (.plain (OpenSpec.upto controlWholeSpec)) controlWholeUptoCard

/-- THE SECOND FORM's CARD OF 'groupcontrollaw7.ControlKeeps'. -/
def controlKeepsUptoCard : Claim7 := { stood := { row := controlKeepsUptoRow, standIns := [], harness := (true, "fab88ffc968dae35e201604da2f10f9048f0d1afdbfd8d9a685f0984d096b58f"), looks := false }, kinds := [], alts := [], laidByText := true, laidKinds := [.data, .data, .data, .pinned], laidTests := true, laidLooks := .later }
def ControlKeepsUptoCardSaid : Prop := Claim7.holds Tryz.pinned (.plain (OpenSpec.upto controlKeepsSpec)) controlKeepsUptoCard

/-- THE SECOND FORM's CARD OF 'groupcontrollaw7.ControlWrites'. -/
def controlWritesUptoCard : Claim7 := { stood := { row := controlWritesUptoRow, standIns := [], harness := (true, "fab88ffc968dae35e201604da2f10f9048f0d1afdbfd8d9a685f0984d096b58f"), looks := false }, kinds := [], alts := [], laidByText := true, laidKinds := [.data, .data, .data, .pinned], laidTests := true, laidLooks := .later }
def ControlWritesUptoCardSaid : Prop := Claim7.holds Tryz.pinned (.plain (OpenSpec.upto controlWritesSpec)) controlWritesUptoCard

/-- THE SECOND FORM's CARD OF 'groupcontrollaw3.SetsLaws'. -/
def setsLawsUptoCard : Claim7 := { stood := { row := setsLawsUptoRow, standIns := [], harness := (true, "fab88ffc968dae35e201604da2f10f9048f0d1afdbfd8d9a685f0984d096b58f"), looks := false }, kinds := [], alts := [], laidByText := true, laidKinds := [.data, .data, .data, .data, .pinned], laidTests := true, laidLooks := .later }
def SetsLawsUptoCardSaid : Prop := Claim7.holds Tryz.pinned (.plain (OpenSpec.upto setsLawsSpec)) setsLawsUptoCard
end Rows
end Go.Proofs.YtddgomjodbmohaaGreatDoor
