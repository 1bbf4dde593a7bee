/- Part 4 of the proof. -/
import Derived.Test.YtkgkbbpakjdemaaGreatDoorA1
import Derived.Lib.ItoaNum
import Derived.Lib.IndexMore
set_option linter.unusedSectionVars false
set_option linter.unusedSimpArgs false
set_option linter.unusedVariables false
namespace Go.V
abbrev itoaS (n : Int) : ByteArray:=⟨(Lib.itoa n).toArray⟩
def XItoa (args : List VVal) (H : List Ob) : Option (VVal × List Ob):=match args,H with
 | [.p (.int .i64 n)],[]=>gd (-9223372036854775808 <= n /\ n <= 9223372036854775807) <| some (.p (.str (itoaS n)),[])
 | _,_=>none
abbrev cutS (s sep : ByteArray) : List UInt8 × List UInt8 × Bool:=Lib.cut s.data.toList sep.data.toList
def XCut (args : List VVal) (H : List Ob) : Option (VVal × List Ob):=match args,H with
 | [.p (.str s),.p (.str sep)],[]=>gd (s.size < 4294967281) <| some (.tup [.p (.str ⟨(cutS s sep).1.toArray⟩),.p (.str ⟨(cutS s sep).2.1.toArray⟩),.p (.bool (cutS s sep).2.2)],[])
 | _,_=>none
end Go.V
