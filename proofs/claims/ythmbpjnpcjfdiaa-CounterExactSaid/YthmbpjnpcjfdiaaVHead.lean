/- The head line of the dump, as signs and words; what the row asks of it. -/
import Derived.Test.YthmbpjnpcjfdiaaRows
import Derived.ProofKit
set_option linter.unusedSimpArgs false
set_option linter.unusedVariables false
namespace Go.V
open Go.Proofs

def signs : List Char := [Char.ofNat 104, Char.ofNat 97, Char.ofNat 114, Char.ofNat 110, Char.ofNat 101, Char.ofNat 115, Char.ofNat 115, Char.ofNat 32, Char.ofNat 55, Char.ofNat 99, Char.ofNat 50, Char.ofNat 48, Char.ofNat 49, Char.ofNat 101, Char.ofNat 99, Char.ofNat 49, Char.ofNat 53, Char.ofNat 48, Char.ofNat 55, Char.ofNat 54, Char.ofNat 100, Char.ofNat 49, Char.ofNat 52, Char.ofNat 57, Char.ofNat 100, Char.ofNat 54, Char.ofNat 97, Char.ofNat 50, Char.ofNat 53, Char.ofNat 99, Char.ofNat 100, Char.ofNat 55, Char.ofNat 51, Char.ofNat 55, Char.ofNat 56, Char.ofNat 101, Char.ofNat 51, Char.ofNat 100, Char.ofNat 99, Char.ofNat 48, Char.ofNat 99, Char.ofNat 101, Char.ofNat 56, Char.ofNat 101, Char.ofNat 50, Char.ofNat 57, Char.ofNat 49, Char.ofNat 50, Char.ofNat 102, Char.ofNat 97, Char.ofNat 56, Char.ofNat 57, Char.ofNat 48, Char.ofNat 50, Char.ofNat 52, Char.ofNat 51, Char.ofNat 99, Char.ofNat 102, Char.ofNat 55, Char.ofNat 50, Char.ofNat 54, Char.ofNat 100, Char.ofNat 57, Char.ofNat 102, Char.ofNat 101, Char.ofNat 56, Char.ofNat 51, Char.ofNat 49, Char.ofNat 49, Char.ofNat 56, Char.ofNat 55, Char.ofNat 56, Char.ofNat 32, Char.ofNat 99, Char.ofNat 117, Char.ofNat 116, Char.ofNat 32, Char.ofNat 97, Char.ofNat 116, Char.ofNat 32, Char.ofNat 103, Char.ofNat 114, Char.ofNat 111, Char.ofNat 117, Char.ofNat 112, Char.ofNat 99, Char.ofNat 111, Char.ofNat 110, Char.ofNat 116, Char.ofNat 114, Char.ofNat 111, Char.ofNat 108, Char.ofNat 47, Char.ofNat 103, Char.ofNat 114, Char.ofNat 111, Char.ofNat 117, Char.ofNat 112, Char.ofNat 99, Char.ofNat 111, Char.ofNat 110, Char.ofNat 116, Char.ofNat 114, Char.ofNat 111, Char.ofNat 108, Char.ofNat 108, Char.ofNat 97, Char.ofNat 119, Char.ofNat 50, Char.ofNat 50, Char.ofNat 46, Char.ofNat 67, Char.ofNat 111, Char.ofNat 117, Char.ofNat 110, Char.ofNat 116, Char.ofNat 101, Char.ofNat 114, Char.ofNat 69, Char.ofNat 120, Char.ofNat 97, Char.ofNat 99, Char.ofNat 116]
def words : List (List Char) := [[Char.ofNat 99, Char.ofNat 117, Char.ofNat 116], [Char.ofNat 97, Char.ofNat 116], [Char.ofNat 103, Char.ofNat 114, Char.ofNat 111, Char.ofNat 117, Char.ofNat 112, Char.ofNat 99, Char.ofNat 111, Char.ofNat 110, Char.ofNat 116, Char.ofNat 114, Char.ofNat 111, Char.ofNat 108, Char.ofNat 47, Char.ofNat 103, Char.ofNat 114, Char.ofNat 111, Char.ofNat 117, Char.ofNat 112, Char.ofNat 99, Char.ofNat 111, Char.ofNat 110, Char.ofNat 116, Char.ofNat 114, Char.ofNat 111, Char.ofNat 108, Char.ofNat 108, Char.ofNat 97, Char.ofNat 119, Char.ofNat 50, Char.ofNat 50, Char.ofNat 46, Char.ofNat 67, Char.ofNat 111, Char.ofNat 117, Char.ofNat 110, Char.ofNat 116, Char.ofNat 101, Char.ofNat 114, Char.ofNat 69, Char.ofNat 120, Char.ofNat 97, Char.ofNat 99, Char.ofNat 116]]
theorem io0 : Try.prog.initOrder = String.ofList signs := by kernel_rfl
theorem io : Try.prog.initOrder.toList = signs := by rw [io0, String.toList_ofList]
theorem ws : wordsSigns signs = [Char.ofNat 104, Char.ofNat 97, Char.ofNat 114, Char.ofNat 110, Char.ofNat 101, Char.ofNat 115, Char.ofNat 115] :: [Char.ofNat 55, Char.ofNat 99, Char.ofNat 50, Char.ofNat 48, Char.ofNat 49, Char.ofNat 101, Char.ofNat 99, Char.ofNat 49, Char.ofNat 53, Char.ofNat 48, Char.ofNat 55, Char.ofNat 54, Char.ofNat 100, Char.ofNat 49, Char.ofNat 52, Char.ofNat 57, Char.ofNat 100, Char.ofNat 54, Char.ofNat 97, Char.ofNat 50, Char.ofNat 53, Char.ofNat 99, Char.ofNat 100, Char.ofNat 55, Char.ofNat 51, Char.ofNat 55, Char.ofNat 56, Char.ofNat 101, Char.ofNat 51, Char.ofNat 100, Char.ofNat 99, Char.ofNat 48, Char.ofNat 99, Char.ofNat 101, Char.ofNat 56, Char.ofNat 101, Char.ofNat 50, Char.ofNat 57, Char.ofNat 49, Char.ofNat 50, Char.ofNat 102, Char.ofNat 97, Char.ofNat 56, Char.ofNat 57, Char.ofNat 48, Char.ofNat 50, Char.ofNat 52, Char.ofNat 51, Char.ofNat 99, Char.ofNat 102, Char.ofNat 55, Char.ofNat 50, Char.ofNat 54, Char.ofNat 100, Char.ofNat 57, Char.ofNat 102, Char.ofNat 101, Char.ofNat 56, Char.ofNat 51, Char.ofNat 49, Char.ofNat 49, Char.ofNat 56, Char.ofNat 55, Char.ofNat 56] :: words := by kernel_rfl
theorem wb : behindMainWord (wordsSigns Try.prog.initOrder.toList) = words := by
  rw [io, ws]
  kernel_rfl
theorem hcut : "cut".toList = [Char.ofNat 99, Char.ofNat 117, Char.ofNat 116] := by
  rw [show "cut" = String.ofList [Char.ofNat 99, Char.ofNat 117, Char.ofNat 116] from by kernel_rfl, String.toList_ofList]
theorem make_cut {P : Program} {rest : List (List Char)} (h : behindMainWord (wordsSigns P.initOrder.toList) = [Char.ofNat 99, Char.ofNat 117, Char.ofNat 116] :: rest) : P.make = some .cut := by
  unfold Program.make
  rw [h]
  simp only [hcut]
  rw [if_neg (by rw [show ([Char.ofNat 99, Char.ofNat 117, Char.ofNat 116] == "gc".toList) = false from by kernel_rfl, show ([Char.ofNat 99, Char.ofNat 117, Char.ofNat 116] == "spec".toList) = false from by kernel_rfl]; decide)]
  rw [if_pos (by rw [show ([Char.ofNat 99, Char.ofNat 117, Char.ofNat 116] == [Char.ofNat 99, Char.ofNat 117, Char.ofNat 116]) = true from by kernel_rfl]; rfl)]
theorem mayEnter_cut {P : Program} {w : List (List Char)} (h : behindMainWord (wordsSigns P.initOrder.toList) = w) {c : List Char} {rest : List (List Char)} (hw : w = c :: rest) (hs : stripLifts liftWords (c :: rest) = ([], c :: rest)) (hc : ((c :: rest).head? == some "cut".toList) = true) (h1 : P.laysLater = false) (h2 : P.bearsReflect = false) (h3 : P.doorFits [] = true) : P.mayEnter = true := by
  unfold Program.mayEnter
  rw [h, hw]
  simp only [hs, h1, h2, h3, hc]
  simp
theorem try_make : Try.prog.make = some .cut := make_cut wb
theorem try_mayEnter : Try.prog.mayEnter = true := mayEnter_cut wb rfl (by kernel_rfl) (by rw [hcut]; kernel_rfl) (by kernel_rfl) (by kernel_rfl) (by kernel_rfl)
theorem try_lifts : Try.prog.liftsFinal = false := by
  unfold Program.liftsFinal Program.headLifts
  rw [io]
  kernel_rfl
theorem and_mk {a b : Bool} (ha : a = true) (hb : b = true) : (a && b) = true := by rw [ha, hb]; rfl

end Go.V

