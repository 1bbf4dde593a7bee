/- Part 5 of the proof. -/
import Derived.Test.YtkgkbbpakjdemaaGreatDoorA1
import Derived.Lib.Bytealg
import Derived.Lib.Strings
set_option linter.unusedSectionVars false
set_option linter.unusedSimpArgs false
set_option linter.unusedVariables false
namespace Go.V
def XIdxB (args : List VVal) (H : List Ob) : Option (VVal × List Ob):=match args,H with
 | [.p (.str s),.p (.int .u8 c)],[]=>some (.p (.int .i64 (Lib.indexByte s.data.toList c.toNat.toUInt8)),[])
 | _,_=>none
def XTrim (args : List VVal) (H : List Ob) : Option (VVal × List Ob):=match args,H with
 | [.p (.str s),.p (.str p)],[]=>gd (s.size <= 9223372036854775807) <| some (.p (.str ⟨(Lib.trimSuffix s.data.toList p.data.toList).toArray⟩),[])
 | _,_=>none
end Go.V
