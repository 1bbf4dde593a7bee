/- Part 3 of the proof. -/
import Derived.Test.YtkgkbbpakjdemaaGreatDoorA1
import Derived.Lib.SplitLaws
import Derived.Lib.Join
import Derived.Lib.TrailingZeros
set_option linter.unusedSectionVars false
set_option linter.unusedSimpArgs false
set_option linter.unusedVariables false
namespace Go.V
def unS : PV -> Option ByteArray
 | .str s=>some s
 | _=>none
theorem unS_eq {x : PV} {s : ByteArray} (h : unS x = some s) : x = .str s:=by
 unfold unS at h
 split at h
 .simp at h; rw [h]
 .cases h
abbrev splitS (s sep : ByteArray) : List ByteArray:=Lib.splitB sep 0 (Lib.countB s sep) s
abbrev joinS (xs : List ByteArray) (sep : ByteArray) : ByteArray:=⟨(Lib.join (xs.map (·.data.toList)) sep.data.toList).toArray⟩
def XSplit (args : List VVal) (H : List Ob) : Option (VVal × List Ob):=match args,H with
 | [.p (.str s),.p (.str sep)],[]=>gd (s.size < 4294967281) <| gd (1 <= sep.size) <| some (.fresh 1 ((splitS s sep).map PV.str),[])
 | _,_=>none
def XJoin (args : List VVal) (H : List Ob) : Option (VVal × List Ob):=match args,H with
 | [.own (.arg 0 0) 0 0 n,.p (.str sep)],[.arr 1 xs]=>gd (n = xs.length) <| gd (n <= 140737488355328) <| ob (mapO unS xs) fun ss=>gd ((Lib.join (ss.map (·.data.toList)) sep.data.toList).length <= 140737488355328) <| some (.p (.str (joinS ss sep)),[.arr 1 xs])
 | _,_=>none
end Go.V
