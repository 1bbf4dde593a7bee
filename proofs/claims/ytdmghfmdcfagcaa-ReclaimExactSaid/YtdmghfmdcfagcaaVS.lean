/- The value machine V: what the library's sorts make of an array. -/
/- The seat's value machine: its functions, and the library's sorts. -/
import Derived.Test.YtdmghfmdcfagcaaVDef
import Derived.Test.YtdmghfmdcfagcaaVExec
import Derived.Test.YtdmghfmdcfagcaaVProg
import Derived.Test.YtdmghfmdcfagcaaVMono
set_option linter.unusedSimpArgs false
set_option linter.unusedVariables false
namespace Go.V

def unI : PV → Option Int
  | .int .i64 n => some n
  | _ => none
theorem unI_eq {x : PV} {n : Int} (h : unI x = some n) : x = .int .i64 n := by
  unfold unI at h
  split at h
  · simp at h; rw [h]
  · cases h

noncomputable def XI (args : List VVal) (H : List Ob) : Option (VVal × List Ob) := match args, H with
  | [.own (.arg 0 0) 0 0 n], [.arr 1 xs] => gd (n = xs.length) <| gd (n < 4611686018427387904) <| ob (mapO unI xs) fun zs => some (.tup [], [.arr 1 ((zs.mergeSort fun x y => decide (x ≤ y)).map (.int .i64))])
  | _, _ => none


def unPair : PV → Option (Int × Int)
  | .agg [.int .i64 a, .int .i64 b] => some (a, b)
  | _ => none
abbrev pairPV (p : Int × Int) : PV := .agg [.int .i64 p.1, .int .i64 p.2]
theorem unPair_eq {x : PV} {p : Int × Int} (h : unPair x = some p) : x = pairPV p := by
  unfold unPair at h
  split at h
  · simp at h; rw [← h]
  · cases h
/-- Pairs of numbers, sorted by the first ones, which differ. -/
noncomputable def XP (g : FuncId) (args : List VVal) (H : List Ob) : Option (VVal × List Ob) := match args, H with
  | [.own (.arg 0 0) 0 0 n, .p (.fn g')], [.arr 2 xs] => gd (g' = g) <| gd (n = xs.length) <| gd (n < 4611686018427387904) <| ob (mapO unPair xs) fun ps =>
      gd (∀ p ∈ ps, 0 ≤ p.1 ∧ p.1 < 4611686018427387904) <| gd ((ps.map Prod.fst).Nodup) (some (.tup [], [.arr 2 ((ps.mergeSort fun x y => decide (x.1 ≤ y.1)).map pairPV)]))
  | _, _ => none

end Go.V

namespace Go.V

noncomputable def XS : Sig := fun f args H => if f = 51 then XI args H else if f = 41 then XP 42 args H else none
noncomputable abbrev V : Sig := vcall prog XS

theorem XS_none {f : FuncId} {vf : VFunc} (hf : prog f = some vf) (args : List VVal) (H : List Ob) : XS f args H = none := by
  unfold XS
  by_cases h1 : f = 51
  · subst h1
    exact absurd hf (by simp [prog])
  · by_cases h2 : f = 41
    · subst h2
      exact absurd hf (by simp [prog])
    · rw [if_neg h1, if_neg h2]

theorem V_fix {f : FuncId} {vf : VFunc} (hf : prog f = some vf) {args : List VVal} {H : List Ob} {r : VVal × List Ob} (h : callF V vf args H = some r) : V f args H = some r := vcall_fix (XS_none hf) hf h
theorem V_wp {f : FuncId} {vf : VFunc} (hf : prog f = some vf) {args : List VVal} {H : List Ob} {r : VVal × List Ob} (h : wp (callF V vf args H) (· = r)) : V f args H = some r := V_fix hf (eq_of_wp h)
theorem V_x {f : FuncId} {args : List VVal} {H : List Ob} {r : VVal × List Ob} (h : XS f args H = some r) : V f args H = some r := vcall_of (n := 0) h

end Go.V

