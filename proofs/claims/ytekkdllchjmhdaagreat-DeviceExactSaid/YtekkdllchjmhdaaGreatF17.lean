/- Part 17 of the proof. -/
import Derived.Test.YtekkdllchjmhdaaGreatRows
import Derived.ProofKit
set_option linter.unusedSectionVars false
set_option linter.unusedSimpArgs false
set_option linter.unusedVariables false
set_option maxHeartbeats 32000000
open Char renaming ofNat → cN
namespace Go.V
open Go.Proofs
def signs:List Char:=[cN 104,cN 97,cN 114,cN 110,cN 101,cN 115,cN 115,cN 32,cN 48,cN 52,cN 100,cN 56,cN 49,cN 54,cN 55,cN 97,cN 98,cN 97,cN 98,cN 52,cN 52,cN 50,cN 52,cN 102,cN 97,cN 54,cN 50,cN 50,cN 49,cN 102,cN 51,cN 54,cN 97,cN 54,cN 101,cN 99,cN 57,cN 97,cN 99,cN 51,cN 53,cN 100,cN 48,cN 52,cN 54,cN 55,cN 51,cN 54,cN 50,cN 52,cN 101,cN 102,cN 50,cN 100,cN 100,cN 100,cN 52,cN 101,cN 52,cN 51,cN 98,cN 98,cN 97,cN 98,cN 54,cN 56,cN 51,cN 101,cN 52,cN 51,cN 57,cN 53,cN 32,cN 99,cN 117,cN 116,cN 32,cN 97,cN 116,cN 32,cN 103,cN 114,cN 111,cN 117,cN 112,cN 99,cN 111,cN 110,cN 116,cN 114,cN 111,cN 108,cN 47,cN 103,cN 114,cN 111,cN 117,cN 112,cN 99,cN 111,cN 110,cN 116,cN 114,cN 111,cN 108,cN 108,cN 97,cN 119,cN 51,cN 52,cN 46,cN 68,cN 101,cN 118,cN 105,cN 99,cN 101,cN 87,cN 111,cN 114,cN 107,cN 115,cN 32,cN 103,cN 114,cN 111,cN 117,cN 112,cN 99,cN 111,cN 110,cN 116,cN 114,cN 111,cN 108,cN 47,cN 103,cN 114,cN 111,cN 117,cN 112,cN 99,cN 111,cN 110,cN 116,cN 114,cN 111,cN 108,cN 108,cN 97,cN 119,cN 51,cN 52,cN 46,cN 68,cN 101,cN 118,cN 105,cN 99,cN 101,cN 79,cN 114,cN 100,cN 101,cN 114,cN 115,cN 32,cN 103,cN 114,cN 111,cN 117,cN 112,cN 99,cN 111,cN 110,cN 116,cN 114,cN 111,cN 108,cN 47,cN 103,cN 114,cN 111,cN 117,cN 112,cN 99,cN 111,cN 110,cN 116,cN 114,cN 111,cN 108,cN 108,cN 97,cN 119,cN 51,cN 52,cN 46,cN 68,cN 101,cN 118,cN 105,cN 99,cN 101,cN 68,cN 101,cN 112,cN 116,cN 104,cN 115,cN 32,cN 103,cN 114,cN 111,cN 117,cN 112,cN 99,cN 111,cN 110,cN 116,cN 114,cN 111,cN 108,cN 47,cN 103,cN 114,cN 111,cN 117,cN 112,cN 99,cN 111,cN 110,cN 116,cN 114,cN 111,cN 108,cN 108,cN 97,cN 119,cN 51,cN 52,cN 46,cN 68,cN 101,cN 118,cN 105,cN 99,cN 101,cN 65,cN 100,cN 106,cN 117,cN 115,cN 116,cN 115,cN 32,cN 103,cN 114,cN 111,cN 117,cN 112,cN 99,cN 111,cN 110,cN 116,cN 114,cN 111,cN 108,cN 47,cN 103,cN 114,cN 111,cN 117,cN 112,cN 99,cN 111,cN 110,cN 116,cN 114,cN 111,cN 108,cN 108,cN 97,cN 119,cN 51,cN 52,cN 46,cN 68,cN 101,cN 118,cN 105,cN 99,cN 101,cN 76,cN 105,cN 109,cN 105,cN 116,cN 115,cN 32,cN 103,cN 114,cN 111,cN 117,cN 112,cN 99,cN 111,cN 110,cN 116,cN 114,cN 111,cN 108,cN 47,cN 103,cN 114,cN 111,cN 117,cN 112,cN 99,cN 111,cN 110,cN 116,cN 114,cN 111,cN 108,cN 108,cN 97,cN 119,cN 51,cN 52,cN 46,cN 68,cN 101,cN 118,cN 105,cN 99,cN 101,cN 67,cN 97,cN 112,cN 115,cN 32,cN 103,cN 114,cN 111,cN 117,cN 112,cN 99,cN 111,cN 110,cN 116,cN 114,cN 111,cN 108,cN 47,cN 103,cN 114,cN 111,cN 117,cN 112,cN 99,cN 111,cN 110,cN 116,cN 114,cN 111,cN 108,cN 108,cN 97,cN 119,cN 51,cN 52,cN 46,cN 68,cN 101,cN 118,cN 105,cN 99,cN 101,cN 69,cN 120,cN 97,cN 99,cN 116]
def words:List (List Char):=[[cN 99,cN 117,cN 116],[cN 97,cN 116],[cN 103,cN 114,cN 111,cN 117,cN 112,cN 99,cN 111,cN 110,cN 116,cN 114,cN 111,cN 108,cN 47,cN 103,cN 114,cN 111,cN 117,cN 112,cN 99,cN 111,cN 110,cN 116,cN 114,cN 111,cN 108,cN 108,cN 97,cN 119,cN 51,cN 52,cN 46,cN 68,cN 101,cN 118,cN 105,cN 99,cN 101,cN 87,cN 111,cN 114,cN 107,cN 115],[cN 103,cN 114,cN 111,cN 117,cN 112,cN 99,cN 111,cN 110,cN 116,cN 114,cN 111,cN 108,cN 47,cN 103,cN 114,cN 111,cN 117,cN 112,cN 99,cN 111,cN 110,cN 116,cN 114,cN 111,cN 108,cN 108,cN 97,cN 119,cN 51,cN 52,cN 46,cN 68,cN 101,cN 118,cN 105,cN 99,cN 101,cN 79,cN 114,cN 100,cN 101,cN 114,cN 115],[cN 103,cN 114,cN 111,cN 117,cN 112,cN 99,cN 111,cN 110,cN 116,cN 114,cN 111,cN 108,cN 47,cN 103,cN 114,cN 111,cN 117,cN 112,cN 99,cN 111,cN 110,cN 116,cN 114,cN 111,cN 108,cN 108,cN 97,cN 119,cN 51,cN 52,cN 46,cN 68,cN 101,cN 118,cN 105,cN 99,cN 101,cN 68,cN 101,cN 112,cN 116,cN 104,cN 115],[cN 103,cN 114,cN 111,cN 117,cN 112,cN 99,cN 111,cN 110,cN 116,cN 114,cN 111,cN 108,cN 47,cN 103,cN 114,cN 111,cN 117,cN 112,cN 99,cN 111,cN 110,cN 116,cN 114,cN 111,cN 108,cN 108,cN 97,cN 119,cN 51,cN 52,cN 46,cN 68,cN 101,cN 118,cN 105,cN 99,cN 101,cN 65,cN 100,cN 106,cN 117,cN 115,cN 116,cN 115],[cN 103,cN 114,cN 111,cN 117,cN 112,cN 99,cN 111,cN 110,cN 116,cN 114,cN 111,cN 108,cN 47,cN 103,cN 114,cN 111,cN 117,cN 112,cN 99,cN 111,cN 110,cN 116,cN 114,cN 111,cN 108,cN 108,cN 97,cN 119,cN 51,cN 52,cN 46,cN 68,cN 101,cN 118,cN 105,cN 99,cN 101,cN 76,cN 105,cN 109,cN 105,cN 116,cN 115],[cN 103,cN 114,cN 111,cN 117,cN 112,cN 99,cN 111,cN 110,cN 116,cN 114,cN 111,cN 108,cN 47,cN 103,cN 114,cN 111,cN 117,cN 112,cN 99,cN 111,cN 110,cN 116,cN 114,cN 111,cN 108,cN 108,cN 97,cN 119,cN 51,cN 52,cN 46,cN 68,cN 101,cN 118,cN 105,cN 99,cN 101,cN 67,cN 97,cN 112,cN 115],[cN 103,cN 114,cN 111,cN 117,cN 112,cN 99,cN 111,cN 110,cN 116,cN 114,cN 111,cN 108,cN 47,cN 103,cN 114,cN 111,cN 117,cN 112,cN 99,cN 111,cN 110,cN 116,cN 114,cN 111,cN 108,cN 108,cN 97,cN 119,cN 51,cN 52,cN 46,cN 68,cN 101,cN 118,cN 105,cN 99,cN 101,cN 69,cN 120,cN 97,cN 99,cN 116]]
theorem io0:Tryz.prog.initOrder=String.ofList signs:=by kernel_rfl
theorem io:Tryz.prog.initOrder.toList=signs:=by rw [io0,String.toList_ofList]
theorem ws:wordsSigns signs=[cN 104,cN 97,cN 114,cN 110,cN 101,cN 115,cN 115]::[cN 48,cN 52,cN 100,cN 56,cN 49,cN 54,cN 55,cN 97,cN 98,cN 97,cN 98,cN 52,cN 52,cN 50,cN 52,cN 102,cN 97,cN 54,cN 50,cN 50,cN 49,cN 102,cN 51,cN 54,cN 97,cN 54,cN 101,cN 99,cN 57,cN 97,cN 99,cN 51,cN 53,cN 100,cN 48,cN 52,cN 54,cN 55,cN 51,cN 54,cN 50,cN 52,cN 101,cN 102,cN 50,cN 100,cN 100,cN 100,cN 52,cN 101,cN 52,cN 51,cN 98,cN 98,cN 97,cN 98,cN 54,cN 56,cN 51,cN 101,cN 52,cN 51,cN 57,cN 53]::words:=by kernel_rfl
theorem wb:behindMainWord (wordsSigns Tryz.prog.initOrder.toList)=words:=by
 rw [io,ws]
 kernel_rfl
theorem T3 : "cut".toList = [Char.ofNat 99, Char.ofNat 117, Char.ofNat 116] := by
 rw [show "cut" = String.ofList [Char.ofNat 99, Char.ofNat 117, Char.ofNat 116] from by kernel_rfl, String.toList_ofList]
theorem Z8 {P:Program} {rest:List (List Char)} (h:behindMainWord (wordsSigns P.initOrder.toList)=[cN 99,cN 117,cN 116]::rest):P.make=some .cut:=by
 unfold Program.make
 rw [h]
 simp only [T3]
 rw [if_neg (by rw [show ([Char.ofNat 99, Char.ofNat 117, Char.ofNat 116] == "gc".toList) = false from by kernel_rfl, show ([Char.ofNat 99, Char.ofNat 117, Char.ofNat 116] == "spec".toList) = false from by kernel_rfl]; decide)]
 rw [if_pos (by rw [show ([cN 99,cN 117,cN 116] == [cN 99,cN 117,cN 116])=true from by kernel_rfl];rfl)]
theorem VI {P : Program} {w : List (List Char)} (h : behindMainWord (wordsSigns P.initOrder.toList) = w) {c : List Char} {rest : List (List Char)} (hw : w = c :: rest) (hs : stripLifts liftWords (c :: rest) = ([], c :: rest)) (hc : ((c :: rest).head? == some "cut".toList) = true) (h1 : P.laysLater = false) (h2 : P.bearsReflect = false) (h3 : P.doorFits [] = true) : P.mayEnter = true := by
 unfold Program.mayEnter
 rw [h,hw]
 simp only [hs,h1,h2,h3,hc]
 simp
theorem Zf:Tryz.prog.make=some .cut:=Z8 wb
theorem Vx:Tryz.prog.mayEnter=true:=VI wb rfl (by kernel_rfl) (by rw [T3];kernel_rfl) (by kernel_rfl) (by kernel_rfl) (by kernel_rfl)
theorem XZ:Tryz.prog.liftsFinal=false:=by
 unfold Program.liftsFinal Program.headLifts
 rw [io]
 kernel_rfl
theorem Bd {a b:Bool} (ha:a=true) (hb:b=true):(a && b)=true:=by rw [ha,hb];rfl
end Go.V
