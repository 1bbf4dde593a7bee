/- The functions of the seat in the form of the value machine, printed by program. -/
import Derived.Test.YtcljahgcdbohaaaVProgA
set_option linter.unusedSimpArgs false
set_option linter.unusedVariables false
namespace Go.V
/- groupcontrol.iofair.Get -/
def vb62 : VCode :=
    .seq (.region ⟨[
      { dst := .v 4, op := .move (.c (.int .i64 0)) }], [], []⟩) (.seq (.seq (.region ⟨[
      { dst := .v 7, op := .move (.v 0) },
      { dst := .v 8, op := .len (.v 7) },
      { dst := .v 9, op := .move (.c (.int .i64 0)) }], [], []⟩) (.block 0 (.loop (.seq (.region ⟨[
      { dst := .v 10, op := .bin .lss (.v 9) (.v 8) }], [], []⟩) (.seq (.cond (.v 10) (.skip) (.exit 0)) (.seq (.block 1 (.seq (.region ⟨[
      { dst := .t 11, op := .indexAddr 2 (.v 7) (.v 9) },
      { dst := .t 12, op := .load (some 2) (.t 11) },
      { dst := .v 6, op := .alloc [.c (.int .i64 0), .c (.int .i64 0)] },
      { dst := .none, op := .store 2 (.v 6) (.t 12) }], [], []⟩) (.seq (.region ⟨[
      { dst := .t 13, op := .fieldAddr 0 (.v 6) },
      { dst := .t 14, op := .load none (.t 13) },
      { dst := .t 15, op := .move (.v 1) },
      { dst := .v 16, op := .bin .eql (.t 14) (.t 15) }], [], []⟩) (.cond (.v 16) (.seq (.region ⟨[
      { dst := .t 17, op := .fieldAddr 1 (.v 6) },
      { dst := .t 18, op := .load none (.t 17) },
      { dst := .v 4, op := .move (.t 18) }], [], []⟩) (.ret)) (.skip))))) (.region ⟨[
      { dst := .t 19, op := .bin .add (.v 9) (.c (.int .i64 1)) },
      { dst := .v 9, op := .move (.t 19) }], [], []⟩))))))) (.seq (.region ⟨[
      { dst := .v 4, op := .move (.c (.int .i64 0)) }], [], []⟩) (.ret)))
def vf62 : VFunc := { vs := [0, 1, 4, 6, 7, 8, 9, 10, 16], nparams := 2, rets := [.tmp (.v 4)], body := vb62 }
/- groupcontrol.counter.Totals -/
def vb63 : VCode :=
    .seq (.region ⟨[
      { dst := .v 2, op := .box 2 (.v 0) },
      { dst := .v 3, op := .box 1 (.v 1) },
      { dst := .v 4, op := .newArr 2 },
      { dst := .v 5, op := .move (.c (.int .i64 0)) }], [], []⟩) (.seq (.seq (.region ⟨[
      { dst := .t 10, op := .load (some 2) (.v 2) },
      { dst := .t 11, op := .load (some 1) (.v 3) },
      { dst := .t 12, op := .call 96 [.t 10, .t 11] },
      { dst := .v 13, op := .not (.t 12) }], [], []⟩) (.cond (.v 13) (.seq (.region ⟨[
      { dst := .v 4, op := .newArr 2 },
      { dst := .v 5, op := .move (.c (.int .i64 1)) }], [], []⟩) (.ret)) (.skip))) (.seq (.region ⟨[
      { dst := .v 6, op := .newArr 2 }], [], []⟩) (.seq (.region ⟨[
      { dst := .t 14, op := .load (some 2) (.v 2) },
      { dst := .t 15, op := .load (some 1) (.v 3) },
      { dst := .t 16, op := .call 91 [.t 14, .t 15] },
      { dst := .v 7, op := .move (.t 16) }], [], []⟩) (.seq (.seq (.region ⟨[
      { dst := .t 17, op := .fieldAddr 0 (.v 2) },
      { dst := .v 18, op := .load none (.t 17) },
      { dst := .v 19, op := .len (.v 18) },
      { dst := .v 20, op := .move (.c (.int .i64 0)) }], [], []⟩) (.block 0 (.loop (.seq (.region ⟨[
      { dst := .v 21, op := .bin .lss (.v 20) (.v 19) }], [], []⟩) (.seq (.cond (.v 21) (.skip) (.exit 0)) (.seq (.block 1 (.seq (.region ⟨[
      { dst := .t 22, op := .indexAddr 6 (.v 18) (.v 20) },
      { dst := .t 23, op := .load (some 6) (.t 22) },
      { dst := .v 9, op := .alloc [.c (.int .i64 0), .c (.int .i64 0), .c (.str ⟨#[]⟩), .c (.int .i64 0), .c (.int .i64 0), .c (.int .i64 0)] },
      { dst := .none, op := .store 6 (.v 9) (.t 23) }], [], []⟩) (.seq (.region ⟨[
      { dst := .t 24, op := .move (.v 7) },
      { dst := .t 25, op := .fieldAddr 0 (.v 9) },
      { dst := .t 26, op := .load none (.t 25) },
      { dst := .t 27, op := .lookup false (.int .i64) (.int .i64 0) (.t 24) (.t 26) },
      { dst := .v 28, op := .bin .gtr (.t 27) (.c (.int .i64 0)) }], [], []⟩) (.cond (.v 28) (.region ⟨[
      { dst := .t 29, op := .move (.v 6) },
      { dst := .t 30, op := .fieldAddr 0 (.v 9) },
      { dst := .t 31, op := .load none (.t 30) },
      { dst := .t 32, op := .move (.v 7) },
      { dst := .t 33, op := .fieldAddr 0 (.v 9) },
      { dst := .t 34, op := .load none (.t 33) },
      { dst := .t 35, op := .lookup false (.int .i64) (.int .i64 0) (.t 32) (.t 34) },
      { dst := .t 36, op := .build [.a (.t 31) 0 1, .a (.t 35) 0 1] },
      { dst := .t 37, op := .buildSlice 2 [.t 36] },
      { dst := .t 38, op := .append 2 16 (.t 29) (.t 37) },
      { dst := .v 6, op := .move (.t 38) }], [], []⟩) (.skip))))) (.region ⟨[
      { dst := .t 39, op := .bin .add (.v 20) (.c (.int .i64 1)) },
      { dst := .v 20, op := .move (.t 39) }], [], []⟩))))))) (.seq (.region ⟨[
      { dst := .t 40, op := .move (.v 6) },
      { dst := .v 4, op := .move (.t 40) },
      { dst := .v 5, op := .move (.c (.int .i64 0)) }], [], []⟩) (.ret))))))
def vf63 : VFunc := { vs := [0, 1, 2, 3, 4, 5, 6, 7, 9, 13, 18, 19, 20, 21, 28], nparams := 2, rets := [.tmp (.v 4), .tmp (.v 5)], body := vb63 }
/- (*groupcontrol.groupcontrolmade.Dice).Limits -/
def vb64 : VCode :=
    .seq (.region ⟨[
      { dst := .v 3, op := .box 2 (.v 1) },
      { dst := .v 4, op := .newArr 2 }], [], []⟩) (.seq (.region ⟨[
      { dst := .v 5, op := .newArr 2 }], [], []⟩) (.seq (.seq (.region ⟨[
      { dst := .v 6, op := .move (.c (.int .i64 0)) }], [], []⟩) (.block 0 (.loop (.seq (.seq (.region ⟨[
      { dst := .t 7, op := .move (.v 6) },
      { dst := .t 8, op := .fieldAddr 0 (.v 3) },
      { dst := .t 9, op := .load none (.t 8) },
      { dst := .t 10, op := .len (.t 9) },
      { dst := .v 11, op := .bin .lss (.t 7) (.t 10) }], [], []⟩) (.cond (.v 11) (.skip) (.exit 0))) (.seq (.block 1 (.seq (.region ⟨[
      { dst := .t 14, op := .move (.v 0) },
      { dst := .v 15, op := .call 72 [.t 14, .c (.int .i64 2)] }], [], []⟩) (.cond (.v 15) (.region ⟨[
      { dst := .t 16, op := .move (.v 5) },
      { dst := .t 17, op := .fieldAddr 0 (.v 3) },
      { dst := .t 18, op := .load none (.t 17) },
      { dst := .t 19, op := .move (.v 6) },
      { dst := .t 20, op := .indexAddr 6 (.t 18) (.t 19) },
      { dst := .t 21, op := .fieldAddr 0 (.t 20) },
      { dst := .t 22, op := .load none (.t 21) },
      { dst := .t 23, op := .move (.v 0) },
      { dst := .t 24, op := .buildFz 1 [.c (.int .i64 0), .c (.int .i64 10), .c (.int .i64 60), .c (.int .i64 150), .c (.int .i64 1000), .c (.int .i64 1099511627776), .c (.int .i64 4611686018427387904)] },
      { dst := .t 25, op := .call 48 [.t 23, .t 24] },
      { dst := .t 26, op := .build [.a (.t 22) 0 1, .a (.t 25) 0 1] },
      { dst := .t 27, op := .buildSlice 2 [.t 26] },
      { dst := .t 28, op := .append 2 16 (.t 16) (.t 27) },
      { dst := .v 5, op := .move (.t 28) }], [], [(2, 9), (4, 9), (6, 9)]⟩) (.skip)))) (.region ⟨[
      { dst := .t 12, op := .move (.v 6) },
      { dst := .t 13, op := .bin .add (.t 12) (.c (.int .i64 1)) },
      { dst := .v 6, op := .move (.t 13) }], [], []⟩)))))) (.seq (.region ⟨[
      { dst := .t 29, op := .move (.v 5) },
      { dst := .v 4, op := .move (.t 29) }], [], []⟩) (.ret))))
def vf64 : VFunc := { vs := [0, 1, 3, 4, 5, 6, 11, 15], nparams := 2, rets := [.tmp (.v 4)], body := vb64 }
/- (*groupcontrol.groupcontrolmade.Dice).Left -/
def vb65 : VCode :=
    .seq (.region ⟨[
      { dst := .v 2, op := .move (.c (.bool false)) }], [], []⟩) (.seq (.region ⟨[
      { dst := .t 3, op := .move (.v 0) },
      { dst := .t 4, op := .nilCheck (.t 3) },
      { dst := .t 5, op := .fieldAddr 1 (.t 4) },
      { dst := .t 6, op := .load none (.t 5) },
      { dst := .t 7, op := .move (.v 0) },
      { dst := .t 8, op := .nilCheck (.t 7) },
      { dst := .t 9, op := .fieldAddr 0 (.t 8) },
      { dst := .t 10, op := .load none (.t 9) },
      { dst := .t 11, op := .len (.t 10) },
      { dst := .t 12, op := .bin .lss (.t 6) (.t 11) },
      { dst := .v 2, op := .move (.t 12) }], [], []⟩) (.ret))
def vf65 : VFunc := { vs := [0, 2], nparams := 1, rets := [.tmp (.v 2)], body := vb65 }
/- groupcontrol.groupcontrolref22.Most -/
def vb66 : VCode :=
    .seq (.region ⟨[
      { dst := .v 4, op := .move (.c (.int .i64 0)) }], [], []⟩) (.seq (.seq (.region ⟨[
      { dst := .v 5, op := .move (.c (.int .i64 0)) }], [], []⟩) (.block 0 (.loop (.seq (.seq (.region ⟨[
      { dst := .t 6, op := .move (.v 5) },
      { dst := .t 7, op := .move (.v 0) },
      { dst := .t 8, op := .len (.t 7) },
      { dst := .v 9, op := .bin .lss (.t 6) (.t 8) }], [], []⟩) (.cond (.v 9) (.skip) (.exit 0))) (.seq (.block 1 (.seq (.region ⟨[
      { dst := .t 12, op := .move (.v 0) },
      { dst := .t 13, op := .move (.v 5) },
      { dst := .t 14, op := .indexAddr 2 (.t 12) (.t 13) },
      { dst := .t 15, op := .fieldAddr 0 (.t 14) },
      { dst := .t 16, op := .load none (.t 15) },
      { dst := .t 17, op := .move (.v 1) },
      { dst := .v 18, op := .bin .eql (.t 16) (.t 17) }], [], []⟩) (.cond (.v 18) (.seq (.region ⟨[
      { dst := .t 19, op := .move (.v 0) },
      { dst := .t 20, op := .move (.v 5) },
      { dst := .t 21, op := .indexAddr 2 (.t 19) (.t 20) },
      { dst := .t 22, op := .fieldAddr 1 (.t 21) },
      { dst := .t 23, op := .load none (.t 22) },
      { dst := .v 4, op := .move (.t 23) }], [], []⟩) (.ret)) (.skip)))) (.region ⟨[
      { dst := .t 10, op := .move (.v 5) },
      { dst := .t 11, op := .bin .add (.t 10) (.c (.int .i64 1)) },
      { dst := .v 5, op := .move (.t 11) }], [], []⟩)))))) (.seq (.region ⟨[
      { dst := .v 4, op := .move (.c (.int .i64 4611686018427387904)) }], [], []⟩) (.ret)))
def vf66 : VFunc := { vs := [0, 1, 4, 5, 9, 18], nparams := 2, rets := [.tmp (.v 4)], body := vb66 }
/- groupcontrol.counter.Over -/
def vb67 : VCode :=
    .seq (.region ⟨[
      { dst := .v 3, op := .box 2 (.v 0) },
      { dst := .v 4, op := .box 1 (.v 1) },
      { dst := .v 6, op := .newArr 1 },
      { dst := .v 7, op := .move (.c (.int .i64 0)) }], [], []⟩) (.seq (.seq (.region ⟨[
      { dst := .t 12, op := .load (some 2) (.v 3) },
      { dst := .t 13, op := .load (some 1) (.v 4) },
      { dst := .t 14, op := .call 96 [.t 12, .t 13] },
      { dst := .t 15, op := .not (.t 14) },
      { dst := .t 16, op := .move (.t 15) },
      { dst := .t 17, op := .load (some 2) (.v 3), guard := some (.t 16, false) },
      { dst := .t 18, op := .move (.v 2), guard := some (.t 16, false) },
      { dst := .t 19, op := .call 97 [.t 17, .t 18], guard := some (.t 16, false) },
      { dst := .t 20, op := .not (.t 19), guard := some (.t 16, false) },
      { dst := .v 21, op := .pick (.t 16) (.c (.bool true)) (.t 20) }], [], []⟩) (.cond (.v 21) (.seq (.region ⟨[
      { dst := .v 6, op := .newArr 1 },
      { dst := .v 7, op := .move (.c (.int .i64 1)) }], [], []⟩) (.ret)) (.skip))) (.seq (.region ⟨[
      { dst := .v 8, op := .newArr 1 }], [], []⟩) (.seq (.region ⟨[
      { dst := .t 22, op := .load (some 2) (.v 3) },
      { dst := .t 23, op := .load (some 1) (.v 4) },
      { dst := .t 24, op := .call 91 [.t 22, .t 23] },
      { dst := .v 9, op := .move (.t 24) }], [], []⟩) (.seq (.seq (.region ⟨[
      { dst := .v 25, op := .move (.v 2) },
      { dst := .v 26, op := .len (.v 25) },
      { dst := .v 27, op := .move (.c (.int .i64 0)) }], [], []⟩) (.block 0 (.loop (.seq (.region ⟨[
      { dst := .v 28, op := .bin .lss (.v 27) (.v 26) }], [], []⟩) (.seq (.cond (.v 28) (.skip) (.exit 0)) (.seq (.block 1 (.seq (.region ⟨[
      { dst := .t 29, op := .indexAddr 2 (.v 25) (.v 27) },
      { dst := .t 30, op := .load (some 2) (.t 29) },
      { dst := .v 11, op := .alloc [.c (.int .i64 0), .c (.int .i64 0)] },
      { dst := .none, op := .store 2 (.v 11) (.t 30) }], [], []⟩) (.seq (.region ⟨[
      { dst := .t 31, op := .move (.v 9) },
      { dst := .t 32, op := .fieldAddr 0 (.v 11) },
      { dst := .t 33, op := .load none (.t 32) },
      { dst := .t 34, op := .lookup false (.int .i64) (.int .i64 0) (.t 31) (.t 33) },
      { dst := .t 35, op := .fieldAddr 1 (.v 11) },
      { dst := .t 36, op := .load none (.t 35) },
      { dst := .v 37, op := .bin .gtr (.t 34) (.t 36) }], [], []⟩) (.cond (.v 37) (.region ⟨[
      { dst := .t 38, op := .move (.v 8) },
      { dst := .t 39, op := .fieldAddr 0 (.v 11) },
      { dst := .t 40, op := .load none (.t 39) },
      { dst := .t 41, op := .buildSlice 1 [.t 40] },
      { dst := .t 42, op := .append 1 8 (.t 38) (.t 41) },
      { dst := .v 8, op := .move (.t 42) }], [], []⟩) (.skip))))) (.region ⟨[
      { dst := .t 43, op := .bin .add (.v 27) (.c (.int .i64 1)) },
      { dst := .v 27, op := .move (.t 43) }], [], []⟩))))))) (.seq (.region ⟨[
      { dst := .t 44, op := .move (.v 8) },
      { dst := .v 6, op := .move (.t 44) },
      { dst := .v 7, op := .move (.c (.int .i64 0)) }], [], []⟩) (.ret))))))
def vf67 : VFunc := { vs := [0, 1, 2, 3, 4, 6, 7, 8, 9, 11, 21, 25, 26, 27, 28, 37], nparams := 3, rets := [.tmp (.v 6), .tmp (.v 7)], body := vb67 }
/- groupcontrol.groupcontrolref5.Add -/
def vb69 : VCode :=
    .seq (.region ⟨[
      { dst := .v 3, op := .box 2 (.v 0) },
      { dst := .v 6, op := .alloc [.nil 6, .c (.int .i64 0)] },
      { dst := .v 7, op := .move (.c (.int .i64 0)) },
      { dst := .v 8, op := .move (.c (.int .i64 0)) }], [], []⟩) (.seq (.seq (.region ⟨[
      { dst := .t 11, op := .load (some 2) (.v 3) },
      { dst := .t 12, op := .call 79 [.t 11] },
      { dst := .t 13, op := .not (.t 12) },
      { dst := .t 14, op := .move (.t 13) },
      { dst := .t 15, op := .move (.v 2), guard := some (.t 14, false) },
      { dst := .t 16, op := .call 110 [.t 15], guard := some (.t 14, false) },
      { dst := .t 17, op := .not (.t 16), guard := some (.t 14, false) },
      { dst := .v 18, op := .pick (.t 14) (.c (.bool true)) (.t 17) }], [], []⟩) (.cond (.v 18) (.seq (.region ⟨[
      { dst := .t 19, op := .build [.z (.nil 6), .z (.c (.int .i64 0))] },
      { dst := .none, op := .store 2 (.v 6) (.t 19) },
      { dst := .v 7, op := .move (.c (.int .i64 0)) },
      { dst := .v 8, op := .move (.c (.int .i64 1)) }], [], []⟩) (.ret)) (.skip))) (.seq (.seq (.region ⟨[
      { dst := .t 20, op := .load (some 2) (.v 3) },
      { dst := .t 21, op := .move (.v 1) },
      { dst := .t 22, op := .call 76 [.t 20, .t 21] },
      { dst := .v 23, op := .not (.t 22) }], [], []⟩) (.cond (.v 23) (.seq (.region ⟨[
      { dst := .t 24, op := .build [.z (.nil 6), .z (.c (.int .i64 0))] },
      { dst := .none, op := .store 2 (.v 6) (.t 24) },
      { dst := .v 7, op := .move (.c (.int .i64 0)) },
      { dst := .v 8, op := .move (.c (.int .i64 4)) }], [], []⟩) (.ret)) (.skip))) (.seq (.seq (.region ⟨[
      { dst := .v 9, op := .move (.c (.int .i64 0)) }], [], []⟩) (.block 0 (.loop (.seq (.seq (.region ⟨[
      { dst := .t 25, op := .move (.v 9) },
      { dst := .t 26, op := .fieldAddr 0 (.v 3) },
      { dst := .t 27, op := .load none (.t 26) },
      { dst := .t 28, op := .len (.t 27) },
      { dst := .v 29, op := .bin .lss (.t 25) (.t 28) }], [50], []⟩) (.cond (.v 29) (.skip) (.exit 0))) (.seq (.block 1 (.seq (.region ⟨[
      { dst := .t 32, op := .fieldAddr 0 (.v 3) },
      { dst := .t 33, op := .load none (.t 32) },
      { dst := .t 34, op := .move (.v 9) },
      { dst := .t 35, op := .indexAddr 6 (.t 33) (.t 34) },
      { dst := .t 36, op := .fieldAddr 1 (.t 35) },
      { dst := .t 37, op := .load none (.t 36) },
      { dst := .t 38, op := .move (.v 1) },
      { dst := .t 39, op := .bin .eql (.t 37) (.t 38) },
      { dst := .t 40, op := .move (.t 39) },
      { dst := .t 41, op := .fieldAddr 0 (.v 3), guard := some (.t 40, true) },
      { dst := .t 42, op := .load none (.t 41), guard := some (.t 40, true) },
      { dst := .t 43, op := .move (.v 9), guard := some (.t 40, true) },
      { dst := .t 44, op := .indexAddr 6 (.t 42) (.t 43), guard := some (.t 40, true) },
      { dst := .t 45, op := .fieldAddr 2 (.t 44), guard := some (.t 40, true) },
      { dst := .t 46, op := .load none (.t 45), guard := some (.t 40, true) },
      { dst := .t 47, op := .move (.v 2), guard := some (.t 40, true) },
      { dst := .t 48, op := .bin .eql (.t 46) (.t 47), guard := some (.t 40, true) },
      { dst := .v 49, op := .pick (.t 40) (.t 48) (.c (.bool false)) }], [], []⟩) (.cond (.v 49) (.seq (.region ⟨[
      { dst := .t 50, op := .build [.z (.nil 6), .z (.c (.int .i64 0))] },
      { dst := .none, op := .store 2 (.v 6) (.t 50) },
      { dst := .v 7, op := .move (.c (.int .i64 0)) },
      { dst := .v 8, op := .move (.c (.int .i64 5)) }], [], []⟩) (.ret)) (.skip)))) (.region ⟨[
      { dst := .t 30, op := .move (.v 9) },
      { dst := .t 31, op := .bin .add (.t 30) (.c (.int .i64 1)) },
      { dst := .v 9, op := .move (.t 31) }], [], []⟩)))))) (.seq (.seq (.region ⟨[
      { dst := .t 51, op := .load (some 2) (.v 3) },
      { dst := .t 52, op := .move (.v 1) },
      { dst := .t 53, op := .call 111 [.t 51, .t 52] },
      { dst := .t 54, op := .bin .geq (.t 53) (.c (.int .i64 8)) },
      { dst := .t 55, op := .move (.t 54) },
      { dst := .t 56, op := .fieldAddr 0 (.v 3), guard := some (.t 55, false) },
      { dst := .t 57, op := .load none (.t 56), guard := some (.t 55, false) },
      { dst := .t 58, op := .len (.t 57), guard := some (.t 55, false) },
      { dst := .t 59, op := .bin .geq (.t 58) (.c (.int .i64 64)), guard := some (.t 55, false) },
      { dst := .t 60, op := .pick (.t 55) (.c (.bool true)) (.t 59) },
      { dst := .t 61, op := .move (.t 60) },
      { dst := .t 62, op := .fieldAddr 1 (.v 3), guard := some (.t 61, false) },
      { dst := .t 63, op := .load none (.t 62), guard := some (.t 61, false) },
      { dst := .t 64, op := .bin .gtr (.t 63) (.c (.int .i64 2147483647)), guard := some (.t 61, false) },
      { dst := .v 65, op := .pick (.t 61) (.c (.bool true)) (.t 64) }], [], []⟩) (.cond (.v 65) (.seq (.region ⟨[
      { dst := .t 66, op := .build [.z (.nil 6), .z (.c (.int .i64 0))] },
      { dst := .none, op := .store 2 (.v 6) (.t 66) },
      { dst := .v 7, op := .move (.c (.int .i64 0)) },
      { dst := .v 8, op := .move (.c (.int .i64 7)) }], [], []⟩) (.ret)) (.skip))) (.seq (.region ⟨[
      { dst := .t 67, op := .load (some 2) (.v 3) },
      { dst := .t 68, op := .call 112 [.t 67] },
      { dst := .v 10, op := .alloc [.nil 6, .c (.int .i64 0)] },
      { dst := .none, op := .store 2 (.v 10) (.t 68) }], [], []⟩) (.seq (.region ⟨[
      { dst := .t 69, op := .fieldAddr 0 (.v 10) },
      { dst := .t 70, op := .load none (.t 69) },
      { dst := .t 71, op := .fieldAddr 1 (.v 3) },
      { dst := .t 72, op := .load none (.t 71) },
      { dst := .t 73, op := .move (.v 1) },
      { dst := .t 74, op := .move (.v 2) },
      { dst := .t 75, op := .build [.a (.t 72) 0 1, .a (.t 73) 0 1, .a (.t 74) 0 1, .z (.c (.int .i64 0)), .z (.c (.int .i64 0)), .z (.c (.int .i64 0))] },
      { dst := .t 76, op := .buildSlice 6 [.t 75] },
      { dst := .t 77, op := .append 6 56 (.t 70) (.t 76) },
      { dst := .t 78, op := .fieldAddr 0 (.v 10) },
      { dst := .none, op := .store 1 (.t 78) (.t 77) }], [], []⟩) (.seq (.region ⟨[
      { dst := .t 79, op := .fieldAddr 1 (.v 10) },
      { dst := .t 80, op := .load none (.t 79) },
      { dst := .t 81, op := .bin .add (.t 80) (.c (.int .i64 1)) },
      { dst := .t 82, op := .fieldAddr 1 (.v 10) },
      { dst := .none, op := .store 1 (.t 82) (.t 81) }], [], []⟩) (.seq (.region ⟨[
      { dst := .t 83, op := .load (some 2) (.v 10) },
      { dst := .t 84, op := .fieldAddr 1 (.v 3) },
      { dst := .t 85, op := .load none (.t 84) },
      { dst := .none, op := .store 2 (.v 6) (.t 83) },
      { dst := .v 7, op := .move (.t 85) },
      { dst := .v 8, op := .move (.c (.int .i64 0)) }], [], [(2, 3)]⟩) (.ret)))))))))
def vf69 : VFunc := { vs := [0, 1, 2, 3, 6, 7, 8, 9, 10, 18, 23, 29, 49, 65], nparams := 3, rets := [.cell (.v 6) (some 2), .tmp (.v 7), .tmp (.v 8)], body := vb69 }
/- groupcontrol.groupcontrolref5.New -/
def vb70 : VCode :=
    .seq (.region ⟨[
      { dst := .v 0, op := .alloc [.nil 6, .c (.int .i64 0)] }], [], []⟩) (.seq (.region ⟨[
      { dst := .t 1, op := .build [.a (.c (.int .i64 1)) 0 1, .z (.c (.int .i64 0)), .z (.c (.str ⟨#[]⟩)), .z (.c (.int .i64 0)), .z (.c (.int .i64 0)), .z (.c (.int .i64 0))] },
      { dst := .t 2, op := .buildSlice 6 [.t 1] },
      { dst := .t 3, op := .build [.a (.t 2) 0 1, .a (.c (.int .i64 2)) 0 1] },
      { dst := .none, op := .store 2 (.v 0) (.t 3) }], [], []⟩) (.ret))
def vf70 : VFunc := { vs := [0], nparams := 0, rets := [.cell (.v 0) (some 2)], body := vb70 }
/- (*groupcontrol.groupcontrolmade.Dice).Name -/
def vb71 : VCode :=
    .seq (.region ⟨[
      { dst := .v 2, op := .move (.c (.str ⟨#[]⟩)) }], [], []⟩) (.seq (.region ⟨[
      { dst := .t 3, op := .buildSlice 1 [.c (.str ⟨#[97]⟩), .c (.str ⟨#[98]⟩), .c (.str ⟨#[99]⟩), .c (.str ⟨#[119, 101, 98]⟩), .c (.str ⟨#[100, 98, 45, 49]⟩), .c (.str ⟨#[88, 95, 57]⟩)] },
      { dst := .t 4, op := .move (.v 0) },
      { dst := .t 5, op := .call 27 [.t 4, .c (.int .i64 6)] },
      { dst := .t 6, op := .indexAddr 1 (.t 3) (.t 5) },
      { dst := .t 7, op := .load none (.t 6) },
      { dst := .v 2, op := .move (.t 7) }], [], []⟩) (.ret))
def vf71 : VFunc := { vs := [0, 2], nparams := 1, rets := [.tmp (.v 2)], body := vb71 }
/- (*groupcontrol.groupcontrolmade.Dice).Bool -/
def vb72 : VCode :=
    .seq (.region ⟨[
      { dst := .v 4, op := .move (.c (.bool false)) }], [], []⟩) (.seq (.region ⟨[
      { dst := .t 5, op := .move (.v 0) },
      { dst := .t 6, op := .move (.v 1) },
      { dst := .t 7, op := .call 27 [.t 5, .t 6] },
      { dst := .t 8, op := .move (.v 1) },
      { dst := .t 9, op := .bin .sub (.t 8) (.c (.int .i64 1)) },
      { dst := .t 10, op := .bin .eql (.t 7) (.t 9) },
      { dst := .v 4, op := .move (.t 10) }], [], []⟩) (.ret))
def vf72 : VFunc := { vs := [0, 1, 4], nparams := 2, rets := [.tmp (.v 4)], body := vb72 }
/- groupcontrol.forest.At -/
def vb73 : VCode :=
    .seq (.region ⟨[
      { dst := .v 2, op := .box 2 (.v 0) },
      { dst := .v 3, op := .box 1 (.v 1) },
      { dst := .v 4, op := .move (.c (.int .i64 0)) }], [], []⟩) (.seq (.region ⟨[
      { dst := .t 5, op := .fieldAddr 0 (.v 2) },
      { dst := .t 6, op := .load none (.t 5) },
      { dst := .t 7, op := .makeFunc 114 [.v 3] },
      { dst := .t 8, op := .call 113 [.t 6, .t 7] },
      { dst := .v 4, op := .move (.t 8) }], [], []⟩) (.ret))
def vf73 : VFunc := { vs := [0, 1, 2, 3, 4], nparams := 2, rets := [.tmp (.v 4)], body := vb73 }
/- groupcontrol.groupcontrolref5.Has -/
def vb76 : VCode :=
    .seq (.region ⟨[
      { dst := .v 2, op := .box 2 (.v 0) },
      { dst := .v 4, op := .move (.c (.bool false)) }], [], []⟩) (.seq (.region ⟨[
      { dst := .t 8, op := .load (some 2) (.v 2) },
      { dst := .t 9, op := .move (.v 1) },
      { dst := .t 10, op := .call 115 [.t 8, .t 9] },
      { dst := .t 7, op := .move (.t 10) },
      { dst := .t 11, op := .extract (.t 7) 0 },
      { dst := .t 12, op := .extract (.t 7) 1 },
      { dst := .t 5, op := .alloc [.c (.int .i64 0), .c (.int .i64 0), .c (.str ⟨#[]⟩), .c (.int .i64 0), .c (.int .i64 0), .c (.int .i64 0)] },
      { dst := .none, op := .store 6 (.t 5) (.t 11) },
      { dst := .v 6, op := .move (.t 12) }], [], []⟩) (.seq (.region ⟨[
      { dst := .t 13, op := .move (.v 6) },
      { dst := .v 4, op := .move (.t 13) }], [], []⟩) (.ret)))
def vf76 : VFunc := { vs := [0, 1, 2, 4, 6], nparams := 2, rets := [.tmp (.v 4)], body := vb76 }
/- groupcontrol.groupcontrolref5.up -/
def vb77 : VCode :=
    .seq (.region ⟨[
      { dst := .v 2, op := .box 2 (.v 0) },
      { dst := .v 4, op := .newArr 1 }], [], []⟩) (.seq (.region ⟨[
      { dst := .v 5, op := .newArr 1 }], [], []⟩) (.seq (.seq (.region ⟨[
      { dst := .t 7, op := .fieldAddr 0 (.v 2) },
      { dst := .t 8, op := .load none (.t 7) },
      { dst := .t 9, op := .len (.t 8) },
      { dst := .t 10, op := .bin .sub (.t 9) (.c (.int .i64 1)) },
      { dst := .v 6, op := .move (.t 10) }], [], []⟩) (.block 0 (.loop (.seq (.seq (.region ⟨[
      { dst := .t 11, op := .move (.v 6) },
      { dst := .v 12, op := .bin .geq (.t 11) (.c (.int .i64 0)) }], [], []⟩) (.cond (.v 12) (.skip) (.exit 0))) (.seq (.block 1 (.seq (.region ⟨[
      { dst := .t 15, op := .fieldAddr 0 (.v 2) },
      { dst := .t 16, op := .load none (.t 15) },
      { dst := .t 17, op := .move (.v 6) },
      { dst := .t 18, op := .indexAddr 6 (.t 16) (.t 17) },
      { dst := .t 19, op := .fieldAddr 0 (.t 18) },
      { dst := .t 20, op := .load none (.t 19) },
      { dst := .t 21, op := .move (.v 1) },
      { dst := .v 22, op := .bin .eql (.t 20) (.t 21) }], [], []⟩) (.cond (.v 22) (.seq (.region ⟨[
      { dst := .t 23, op := .move (.v 5) },
      { dst := .t 24, op := .move (.v 1) },
      { dst := .t 25, op := .buildSlice 1 [.t 24] },
      { dst := .t 26, op := .append 1 8 (.t 23) (.t 25) },
      { dst := .v 5, op := .move (.t 26) }], [], []⟩) (.region ⟨[
      { dst := .t 27, op := .fieldAddr 0 (.v 2) },
      { dst := .t 28, op := .load none (.t 27) },
      { dst := .t 29, op := .move (.v 6) },
      { dst := .t 30, op := .indexAddr 6 (.t 28) (.t 29) },
      { dst := .t 31, op := .fieldAddr 1 (.t 30) },
      { dst := .t 32, op := .load none (.t 31) },
      { dst := .v 1, op := .move (.t 32) }], [], []⟩)) (.skip)))) (.region ⟨[
      { dst := .t 13, op := .move (.v 6) },
      { dst := .t 14, op := .bin .sub (.t 13) (.c (.int .i64 1)) },
      { dst := .v 6, op := .move (.t 14) }], [], []⟩)))))) (.seq (.region ⟨[
      { dst := .t 33, op := .move (.v 5) },
      { dst := .v 4, op := .move (.t 33) }], [], []⟩) (.ret))))
def vf77 : VFunc := { vs := [0, 1, 2, 4, 5, 6, 12, 22], nparams := 2, rets := [.tmp (.v 4)], body := vb77 }
/- groupcontrol.tree.Check -/
def vb78 : VCode :=
    .seq (.region ⟨[
      { dst := .v 1, op := .box 2 (.v 0) },
      { dst := .v 2, op := .move (.c (.bool false)) }], [], []⟩) (.seq (.seq (.region ⟨[
      { dst := .t 6, op := .fieldAddr 0 (.v 1) },
      { dst := .t 7, op := .load none (.t 6) },
      { dst := .t 8, op := .len (.t 7) },
      { dst := .t 9, op := .bin .lss (.t 8) (.c (.int .i64 1)) },
      { dst := .t 10, op := .move (.t 9) },
      { dst := .t 11, op := .fieldAddr 0 (.v 1), guard := some (.t 10, false) },
      { dst := .t 12, op := .load none (.t 11), guard := some (.t 10, false) },
      { dst := .t 13, op := .len (.t 12), guard := some (.t 10, false) },
      { dst := .t 14, op := .bin .gtr (.t 13) (.c (.int .i64 64)), guard := some (.t 10, false) },
      { dst := .t 15, op := .pick (.t 10) (.c (.bool true)) (.t 14) },
      { dst := .t 16, op := .move (.t 15) },
      { dst := .t 17, op := .fieldAddr 0 (.v 1), guard := some (.t 16, false) },
      { dst := .t 18, op := .load none (.t 17), guard := some (.t 16, false) },
      { dst := .t 19, op := .indexAddr 6 (.t 18) (.c (.int .i64 0)), guard := some (.t 16, false) },
      { dst := .t 20, op := .load (some 6) (.t 19), guard := some (.t 16, false) },
      { dst := .t 21, op := .call 116 [.t 20], guard := some (.t 16, false) },
      { dst := .t 22, op := .not (.t 21), guard := some (.t 16, false) },
      { dst := .v 23, op := .pick (.t 16) (.c (.bool true)) (.t 22) }], [], []⟩) (.cond (.v 23) (.seq (.region ⟨[
      { dst := .v 2, op := .move (.c (.bool false)) }], [], []⟩) (.ret)) (.skip))) (.seq (.region ⟨[
      { dst := .t 24, op := .makeMap (.int .i64) },
      { dst := .v 3, op := .move (.t 24) }], [], []⟩) (.seq (.seq (.region ⟨[
      { dst := .t 25, op := .fieldAddr 0 (.v 1) },
      { dst := .v 26, op := .load none (.t 25) },
      { dst := .v 27, op := .len (.v 26) },
      { dst := .v 28, op := .move (.c (.int .i64 0)) }], [], []⟩) (.block 0 (.loop (.seq (.region ⟨[
      { dst := .v 29, op := .bin .lss (.v 28) (.v 27) }], [], []⟩) (.seq (.cond (.v 29) (.skip) (.exit 0)) (.seq (.block 1 (.seq (.region ⟨[
      { dst := .t 30, op := .move (.v 28) },
      { dst := .t 31, op := .indexAddr 6 (.v 26) (.v 28) },
      { dst := .t 32, op := .load (some 6) (.t 31) },
      { dst := .v 5, op := .alloc [.c (.int .i64 0), .c (.int .i64 0), .c (.str ⟨#[]⟩), .c (.int .i64 0), .c (.int .i64 0), .c (.int .i64 0)] },
      { dst := .v 4, op := .move (.t 30) },
      { dst := .none, op := .store 6 (.v 5) (.t 32) }], [], []⟩) (.seq (.seq (.region ⟨[
      { dst := .t 33, op := .fieldAddr 3 (.v 5) },
      { dst := .t 34, op := .load none (.t 33) },
      { dst := .t 35, op := .bin .lss (.t 34) (.c (.int .i64 0)) },
      { dst := .t 36, op := .move (.t 35) },
      { dst := .t 37, op := .fieldAddr 3 (.v 5), guard := some (.t 36, false) },
      { dst := .t 38, op := .load none (.t 37), guard := some (.t 36, false) },
      { dst := .t 39, op := .bin .andNot (.t 38) (.c (.int .i64 31)), guard := some (.t 36, false) },
      { dst := .t 40, op := .bin .neq (.t 39) (.c (.int .i64 0)), guard := some (.t 36, false) },
      { dst := .t 41, op := .pick (.t 36) (.c (.bool true)) (.t 40) },
      { dst := .t 42, op := .move (.t 41) },
      { dst := .t 43, op := .fieldAddr 5 (.v 5), guard := some (.t 42, false) },
      { dst := .t 44, op := .load none (.t 43), guard := some (.t 42, false) },
      { dst := .t 45, op := .bin .lss (.t 44) (.c (.int .i64 0)), guard := some (.t 42, false) },
      { dst := .t 46, op := .pick (.t 42) (.c (.bool true)) (.t 45) },
      { dst := .t 47, op := .move (.t 46) },
      { dst := .t 48, op := .fieldAddr 5 (.v 5), guard := some (.t 47, false) },
      { dst := .t 49, op := .load none (.t 48), guard := some (.t 47, false) },
      { dst := .t 50, op := .bin .gtr (.t 49) (.c (.int .i64 1048576)), guard := some (.t 47, false) },
      { dst := .t 51, op := .pick (.t 47) (.c (.bool true)) (.t 50) },
      { dst := .t 52, op := .move (.t 51) },
      { dst := .t 53, op := .move (.v 4), guard := some (.t 52, false) },
      { dst := .t 54, op := .bin .gtr (.t 53) (.c (.int .i64 0)), guard := some (.t 52, false) },
      { dst := .t 55, op := .move (.t 54), guard := some (.t 52, false) },
      { dst := .t 56, op := .fieldAddr 0 (.v 1), guard := some (.t 55, true) },
      { dst := .t 57, op := .load none (.t 56), guard := some (.t 55, true) },
      { dst := .t 58, op := .move (.v 4), guard := some (.t 55, true) },
      { dst := .t 59, op := .slice false 6 none (some (.t 58)) none (.t 57), guard := some (.t 55, true) },
      { dst := .t 60, op := .load (some 6) (.v 5), guard := some (.t 55, true) },
      { dst := .t 61, op := .call 117 [.t 59, .t 60], guard := some (.t 55, true) },
      { dst := .t 62, op := .not (.t 61), guard := some (.t 55, true) },
      { dst := .t 63, op := .pick (.t 55) (.t 62) (.c (.bool false)), guard := some (.t 52, false) },
      { dst := .v 64, op := .pick (.t 52) (.c (.bool true)) (.t 63) }], [], [(26, 27)]⟩) (.cond (.v 64) (.seq (.region ⟨[
      { dst := .v 2, op := .move (.c (.bool false)) }], [], []⟩) (.ret)) (.skip))) (.seq (.seq (.region ⟨[
      { dst := .t 65, op := .move (.v 4) },
      { dst := .v 66, op := .bin .gtr (.t 65) (.c (.int .i64 0)) }], [], []⟩) (.cond (.v 66) (.region ⟨[
      { dst := .t 67, op := .move (.v 3) },
      { dst := .t 68, op := .fieldAddr 0 (.v 5) },
      { dst := .t 69, op := .load none (.t 68) },
      { dst := .t 70, op := .move (.v 3) },
      { dst := .t 71, op := .fieldAddr 1 (.v 5) },
      { dst := .t 72, op := .load none (.t 71) },
      { dst := .t 73, op := .lookup false (.int .i64) (.int .i64 0) (.t 70) (.t 72) },
      { dst := .t 74, op := .bin .add (.t 73) (.c (.int .i64 1)) },
      { dst := .none, op := .mapUpdate (.int .i64) (.t 67) (.t 69) (.t 74) }], [], []⟩) (.skip))) (.seq (.region ⟨[
      { dst := .t 75, op := .move (.v 3) },
      { dst := .t 76, op := .fieldAddr 0 (.v 5) },
      { dst := .t 77, op := .load none (.t 76) },
      { dst := .t 78, op := .lookup false (.int .i64) (.int .i64 0) (.t 75) (.t 77) },
      { dst := .v 79, op := .bin .gtr (.t 78) (.c (.int .i64 8)) }], [], []⟩) (.cond (.v 79) (.seq (.region ⟨[
      { dst := .v 2, op := .move (.c (.bool false)) }], [], []⟩) (.ret)) (.skip))))))) (.region ⟨[
      { dst := .t 80, op := .bin .add (.v 28) (.c (.int .i64 1)) },
      { dst := .v 28, op := .move (.t 80) }], [], []⟩))))))) (.seq (.region ⟨[
      { dst := .t 81, op := .fieldAddr 1 (.v 1) },
      { dst := .t 82, op := .load none (.t 81) },
      { dst := .t 83, op := .fieldAddr 0 (.v 1) },
      { dst := .t 84, op := .load none (.t 83) },
      { dst := .t 85, op := .fieldAddr 0 (.v 1) },
      { dst := .t 86, op := .load none (.t 85) },
      { dst := .t 87, op := .len (.t 86) },
      { dst := .t 88, op := .bin .sub (.t 87) (.c (.int .i64 1)) },
      { dst := .t 89, op := .indexAddr 6 (.t 84) (.t 88) },
      { dst := .t 90, op := .fieldAddr 0 (.t 89) },
      { dst := .t 91, op := .load none (.t 90) },
      { dst := .t 92, op := .bin .gtr (.t 82) (.t 91) },
      { dst := .t 93, op := .move (.t 92) },
      { dst := .t 94, op := .fieldAddr 1 (.v 1), guard := some (.t 93, true) },
      { dst := .t 95, op := .load none (.t 94), guard := some (.t 93, true) },
      { dst := .t 96, op := .bin .leq (.t 95) (.c (.int .i64 2147483648)), guard := some (.t 93, true) },
      { dst := .t 97, op := .pick (.t 93) (.t 96) (.c (.bool false)) },
      { dst := .v 2, op := .move (.t 97) }], [], []⟩) (.ret)))))
def vf78 : VFunc := { vs := [0, 1, 2, 3, 4, 5, 23, 26, 27, 28, 29, 64, 66, 79], nparams := 1, rets := [.tmp (.v 2)], body := vb78 }
/- groupcontrol.groupcontrolref5.Check -/
def vb79 : VCode :=
    .seq (.region ⟨[
      { dst := .v 1, op := .box 2 (.v 0) },
      { dst := .v 2, op := .move (.c (.bool false)) }], [], []⟩) (.seq (.region ⟨[
      { dst := .t 6, op := .fieldAddr 0 (.v 1) },
      { dst := .t 7, op := .load none (.t 6) },
      { dst := .t 8, op := .len (.t 7) },
      { dst := .v 3, op := .move (.t 8) }], [], []⟩) (.seq (.seq (.region ⟨[
      { dst := .t 9, op := .move (.v 3) },
      { dst := .t 10, op := .bin .lss (.t 9) (.c (.int .i64 1)) },
      { dst := .t 11, op := .move (.t 10) },
      { dst := .t 12, op := .move (.v 3), guard := some (.t 11, false) },
      { dst := .t 13, op := .bin .gtr (.t 12) (.c (.int .i64 64)), guard := some (.t 11, false) },
      { dst := .v 14, op := .pick (.t 11) (.c (.bool true)) (.t 13) }], [], []⟩) (.cond (.v 14) (.seq (.region ⟨[
      { dst := .v 2, op := .move (.c (.bool false)) }], [], []⟩) (.ret)) (.skip))) (.seq (.seq (.region ⟨[
      { dst := .v 4, op := .move (.c (.int .i64 0)) }], [], []⟩) (.block 0 (.loop (.seq (.seq (.region ⟨[
      { dst := .t 15, op := .move (.v 4) },
      { dst := .t 16, op := .move (.v 3) },
      { dst := .v 17, op := .bin .lss (.t 15) (.t 16) }], [], []⟩) (.cond (.v 17) (.skip) (.exit 0))) (.seq (.block 1 (.seq (.region ⟨[
      { dst := .t 20, op := .load (some 2) (.v 1) },
      { dst := .t 21, op := .move (.v 4) },
      { dst := .t 22, op := .call 118 [.t 20, .t 21] },
      { dst := .v 23, op := .not (.t 22) }], [], []⟩) (.cond (.v 23) (.seq (.region ⟨[
      { dst := .v 2, op := .move (.c (.bool false)) }], [], []⟩) (.ret)) (.skip)))) (.region ⟨[
      { dst := .t 18, op := .move (.v 4) },
      { dst := .t 19, op := .bin .add (.t 18) (.c (.int .i64 1)) },
      { dst := .v 4, op := .move (.t 19) }], [], []⟩)))))) (.seq (.seq (.region ⟨[
      { dst := .v 5, op := .move (.c (.int .i64 0)) }], [], []⟩) (.block 2 (.loop (.seq (.seq (.region ⟨[
      { dst := .t 24, op := .move (.v 5) },
      { dst := .t 25, op := .move (.v 3) },
      { dst := .v 26, op := .bin .lss (.t 24) (.t 25) }], [36], []⟩) (.cond (.v 26) (.skip) (.exit 2))) (.seq (.block 3 (.seq (.region ⟨[
      { dst := .t 29, op := .load (some 2) (.v 1) },
      { dst := .t 30, op := .fieldAddr 0 (.v 1) },
      { dst := .t 31, op := .load none (.t 30) },
      { dst := .t 32, op := .move (.v 5) },
      { dst := .t 33, op := .indexAddr 6 (.t 31) (.t 32) },
      { dst := .t 34, op := .fieldAddr 0 (.t 33) },
      { dst := .t 35, op := .load none (.t 34) },
      { dst := .t 36, op := .call 77 [.t 29, .t 35] },
      { dst := .t 37, op := .len (.t 36) },
      { dst := .v 38, op := .bin .gtr (.t 37) (.c (.int .i64 9)) }], [], []⟩) (.cond (.v 38) (.seq (.region ⟨[
      { dst := .v 2, op := .move (.c (.bool false)) }], [], []⟩) (.ret)) (.skip)))) (.region ⟨[
      { dst := .t 27, op := .move (.v 5) },
      { dst := .t 28, op := .bin .add (.t 27) (.c (.int .i64 1)) },
      { dst := .v 5, op := .move (.t 28) }], [], []⟩)))))) (.seq (.region ⟨[
      { dst := .t 39, op := .fieldAddr 1 (.v 1) },
      { dst := .t 40, op := .load none (.t 39) },
      { dst := .t 41, op := .fieldAddr 0 (.v 1) },
      { dst := .t 42, op := .load none (.t 41) },
      { dst := .t 43, op := .move (.v 3) },
      { dst := .t 44, op := .bin .sub (.t 43) (.c (.int .i64 1)) },
      { dst := .t 45, op := .indexAddr 6 (.t 42) (.t 44) },
      { dst := .t 46, op := .fieldAddr 0 (.t 45) },
      { dst := .t 47, op := .load none (.t 46) },
      { dst := .t 48, op := .bin .gtr (.t 40) (.t 47) },
      { dst := .t 49, op := .move (.t 48) },
      { dst := .t 50, op := .fieldAddr 1 (.v 1), guard := some (.t 49, true) },
      { dst := .t 51, op := .load none (.t 50), guard := some (.t 49, true) },
      { dst := .t 52, op := .bin .leq (.t 51) (.c (.int .i64 2147483648)), guard := some (.t 49, true) },
      { dst := .t 53, op := .pick (.t 49) (.t 52) (.c (.bool false)) },
      { dst := .v 2, op := .move (.t 53) }], [], []⟩) (.ret))))))
def vf79 : VFunc := { vs := [0, 1, 2, 3, 4, 5, 14, 17, 23, 26, 38], nparams := 1, rets := [.tmp (.v 2)], body := vb79 }
/- groupcontrol.groupcontrolmade.Same[groupcontrol.api.Account] -/
def vb81 : VCode :=
    .seq (.region ⟨[
      { dst := .v 4, op := .move (.c (.bool false)) }], [], []⟩) (.seq (.seq (.region ⟨[
      { dst := .t 6, op := .move (.v 0) },
      { dst := .t 7, op := .len (.t 6) },
      { dst := .t 8, op := .move (.v 1) },
      { dst := .t 9, op := .len (.t 8) },
      { dst := .v 10, op := .bin .neq (.t 7) (.t 9) }], [], []⟩) (.cond (.v 10) (.seq (.region ⟨[
      { dst := .v 4, op := .move (.c (.bool false)) }], [], []⟩) (.ret)) (.skip))) (.seq (.seq (.region ⟨[
      { dst := .v 5, op := .move (.c (.int .i64 0)) }], [], []⟩) (.block 0 (.loop (.seq (.seq (.region ⟨[
      { dst := .t 11, op := .move (.v 5) },
      { dst := .t 12, op := .move (.v 0) },
      { dst := .t 13, op := .len (.t 12) },
      { dst := .v 14, op := .bin .lss (.t 11) (.t 13) }], [], []⟩) (.cond (.v 14) (.skip) (.exit 0))) (.seq (.block 1 (.seq (.region ⟨[
      { dst := .t 17, op := .move (.v 0) },
      { dst := .t 18, op := .move (.v 5) },
      { dst := .t 19, op := .indexAddr 2 (.t 17) (.t 18) },
      { dst := .t 20, op := .load (some 2) (.t 19) },
      { dst := .t 21, op := .move (.v 1) },
      { dst := .t 22, op := .move (.v 5) },
      { dst := .t 23, op := .indexAddr 2 (.t 21) (.t 22) },
      { dst := .t 24, op := .load (some 2) (.t 23) },
      { dst := .v 25, op := .eqAgg true [(.int .i64), (.int .i64)] (.t 20) (.t 24) }], [], []⟩) (.cond (.v 25) (.seq (.region ⟨[
      { dst := .v 4, op := .move (.c (.bool false)) }], [], []⟩) (.ret)) (.skip)))) (.region ⟨[
      { dst := .t 15, op := .move (.v 5) },
      { dst := .t 16, op := .bin .add (.t 15) (.c (.int .i64 1)) },
      { dst := .v 5, op := .move (.t 16) }], [], []⟩)))))) (.seq (.region ⟨[
      { dst := .v 4, op := .move (.c (.bool true)) }], [], []⟩) (.ret))))
def vf81 : VFunc := { vs := [0, 1, 4, 5, 10, 14, 25], nparams := 2, rets := [.tmp (.v 4)], body := vb81 }
/- (*groupcontrol.groupcontrolmade.Dice).Weight -/
def vb82 : VCode :=
    .seq (.region ⟨[
      { dst := .v 2, op := .move (.c (.int .i64 0)) }], [], []⟩) (.seq (.region ⟨[
      { dst := .t 3, op := .move (.v 0) },
      { dst := .t 4, op := .call 27 [.t 3, .c (.int .i64 1000)] },
      { dst := .t 5, op := .bin .add (.c (.int .i64 1)) (.t 4) },
      { dst := .t 6, op := .buildSlice 1 [.c (.int .i64 1), .c (.int .i64 100), .c (.int .i64 300), .c (.int .i64 10000), .c (.int .i64 50), .c (.int .i64 200), .c (.int .i64 7), .t 5] },
      { dst := .t 7, op := .move (.v 0) },
      { dst := .t 8, op := .call 27 [.t 7, .c (.int .i64 8)] },
      { dst := .t 9, op := .indexAddr 1 (.t 6) (.t 8) },
      { dst := .t 10, op := .load none (.t 9) },
      { dst := .v 2, op := .move (.t 10) }], [], []⟩) (.ret))
def vf82 : VFunc := { vs := [0, 2], nparams := 1, rets := [.tmp (.v 2)], body := vb82 }
/- groupcontrol.iofair.Valid -/
def vb83 : VCode :=
    .seq (.region ⟨[
      { dst := .v 2, op := .box 2 (.v 0) },
      { dst := .v 4, op := .move (.c (.bool false)) }], [], []⟩) (.seq (.seq (.region ⟨[
      { dst := .t 7, op := .load (some 2) (.v 2) },
      { dst := .t 8, op := .call 78 [.t 7] },
      { dst := .v 9, op := .not (.t 8) }], [], []⟩) (.cond (.v 9) (.seq (.region ⟨[
      { dst := .v 4, op := .move (.c (.bool false)) }], [], []⟩) (.ret)) (.skip))) (.seq (.seq (.region ⟨[
      { dst := .v 10, op := .move (.v 1) },
      { dst := .v 11, op := .len (.v 10) },
      { dst := .v 12, op := .move (.c (.int .i64 0)) }], [], []⟩) (.block 0 (.loop (.seq (.region ⟨[
      { dst := .v 13, op := .bin .lss (.v 12) (.v 11) }], [], []⟩) (.seq (.cond (.v 13) (.skip) (.exit 0)) (.seq (.block 1 (.seq (.region ⟨[
      { dst := .t 14, op := .move (.v 12) },
      { dst := .t 15, op := .indexAddr 2 (.v 10) (.v 12) },
      { dst := .t 16, op := .load (some 2) (.t 15) },
      { dst := .v 6, op := .alloc [.c (.int .i64 0), .c (.int .i64 0)] },
      { dst := .v 5, op := .move (.t 14) },
      { dst := .none, op := .store 2 (.v 6) (.t 16) }], [], []⟩) (.seq (.region ⟨[
      { dst := .t 17, op := .load (some 2) (.v 2) },
      { dst := .t 18, op := .fieldAddr 0 (.v 6) },
      { dst := .t 19, op := .load none (.t 18) },
      { dst := .t 20, op := .call 84 [.t 17, .t 19] },
      { dst := .t 21, op := .not (.t 20) },
      { dst := .t 22, op := .move (.t 21) },
      { dst := .t 23, op := .move (.v 5), guard := some (.t 22, false) },
      { dst := .t 24, op := .bin .gtr (.t 23) (.c (.int .i64 0)), guard := some (.t 22, false) },
      { dst := .t 25, op := .move (.t 24), guard := some (.t 22, false) },
      { dst := .t 26, op := .fieldAddr 0 (.v 6), guard := some (.t 25, true) },
      { dst := .t 27, op := .load none (.t 26), guard := some (.t 25, true) },
      { dst := .t 28, op := .move (.v 1), guard := some (.t 25, true) },
      { dst := .t 29, op := .move (.v 5), guard := some (.t 25, true) },
      { dst := .t 30, op := .bin .sub (.t 29) (.c (.int .i64 1)), guard := some (.t 25, true) },
      { dst := .t 31, op := .indexAddr 2 (.t 28) (.t 30), guard := some (.t 25, true) },
      { dst := .t 32, op := .fieldAddr 0 (.t 31), guard := some (.t 25, true) },
      { dst := .t 33, op := .load none (.t 32), guard := some (.t 25, true) },
      { dst := .t 34, op := .bin .leq (.t 27) (.t 33), guard := some (.t 25, true) },
      { dst := .t 35, op := .pick (.t 25) (.t 34) (.c (.bool false)), guard := some (.t 22, false) },
      { dst := .t 36, op := .pick (.t 22) (.c (.bool true)) (.t 35) },
      { dst := .t 37, op := .move (.t 36) },
      { dst := .t 38, op := .fieldAddr 1 (.v 6), guard := some (.t 37, false) },
      { dst := .t 39, op := .load none (.t 38), guard := some (.t 37, false) },
      { dst := .t 40, op := .call 87 [.t 39, .c (.int .i64 1), .c (.int .i64 10000)], guard := some (.t 37, false) },
      { dst := .t 41, op := .not (.t 40), guard := some (.t 37, false) },
      { dst := .v 42, op := .pick (.t 37) (.c (.bool true)) (.t 41) }], [], []⟩) (.cond (.v 42) (.seq (.region ⟨[
      { dst := .v 4, op := .move (.c (.bool false)) }], [], []⟩) (.ret)) (.skip))))) (.region ⟨[
      { dst := .t 43, op := .bin .add (.v 12) (.c (.int .i64 1)) },
      { dst := .v 12, op := .move (.t 43) }], [], []⟩))))))) (.seq (.region ⟨[
      { dst := .v 4, op := .move (.c (.bool true)) }], [], []⟩) (.ret))))
def vf83 : VFunc := { vs := [0, 1, 2, 4, 5, 6, 9, 10, 11, 12, 13, 42], nparams := 2, rets := [.tmp (.v 4)], body := vb83 }
/- groupcontrol.iofair.known -/
def vb84 : VCode :=
    .seq (.region ⟨[
      { dst := .v 2, op := .box 2 (.v 0) },
      { dst := .v 4, op := .move (.c (.bool false)) }], [], []⟩) (.seq (.region ⟨[
      { dst := .t 8, op := .load (some 2) (.v 2) },
      { dst := .t 9, op := .move (.v 1) },
      { dst := .t 10, op := .call 93 [.t 8, .t 9] },
      { dst := .t 7, op := .move (.t 10) },
      { dst := .t 11, op := .extract (.t 7) 0 },
      { dst := .t 12, op := .extract (.t 7) 1 },
      { dst := .t 5, op := .alloc [.c (.int .i64 0), .c (.int .i64 0), .c (.str ⟨#[]⟩), .c (.int .i64 0), .c (.int .i64 0), .c (.int .i64 0)] },
      { dst := .none, op := .store 6 (.t 5) (.t 11) },
      { dst := .v 6, op := .move (.t 12) }], [], []⟩) (.seq (.region ⟨[
      { dst := .t 13, op := .move (.v 6) },
      { dst := .v 4, op := .move (.t 13) }], [], []⟩) (.ret)))
def vf84 : VFunc := { vs := [0, 1, 2, 4, 6], nparams := 2, rets := [.tmp (.v 4)], body := vb84 }
/- groupcontrol.iofair.of -/
def vb85 : VCode :=
    .seq (.region ⟨[
      { dst := .v 3, op := .box 2 (.v 0) },
      { dst := .v 6, op := .move (.c (.map .bool [] [])) }], [], []⟩) (.seq (.region ⟨[
      { dst := .t 10, op := .makeMap (.int .i64) },
      { dst := .v 7, op := .move (.t 10) }], [], []⟩) (.seq (.seq (.region ⟨[
      { dst := .t 11, op := .load (some 2) (.v 3) },
      { dst := .t 12, op := .move (.v 1) },
      { dst := .t 13, op := .load (some 2) (.v 3) },
      { dst := .t 14, op := .move (.v 2) },
      { dst := .t 15, op := .call 120 [.t 13, .t 14] },
      { dst := .v 16, op := .call 119 [.t 11, .t 12, .t 15, .c (.int .i64 1), .c (.int .i64 1073741824)] },
      { dst := .v 17, op := .len (.v 16) },
      { dst := .v 18, op := .move (.c (.int .i64 0)) }], [], [(0, 4)]⟩) (.block 0 (.loop (.seq (.region ⟨[
      { dst := .v 19, op := .bin .lss (.v 18) (.v 17) }], [], []⟩) (.seq (.cond (.v 19) (.skip) (.exit 0)) (.seq (.block 1 (.seq (.region ⟨[
      { dst := .t 20, op := .indexAddr 2 (.v 16) (.v 18) },
      { dst := .t 21, op := .load (some 2) (.t 20) },
      { dst := .v 9, op := .alloc [.c (.int .i64 0), .c (.int .i64 0)] },
      { dst := .none, op := .store 2 (.v 9) (.t 21) }], [], []⟩) (.region ⟨[
      { dst := .t 22, op := .move (.v 7) },
      { dst := .t 23, op := .fieldAddr 0 (.v 9) },
      { dst := .t 24, op := .load none (.t 23) },
      { dst := .t 25, op := .fieldAddr 1 (.v 9) },
      { dst := .t 26, op := .load none (.t 25) },
      { dst := .none, op := .mapUpdate (.int .i64) (.t 22) (.t 24) (.t 26) }], [], []⟩))) (.region ⟨[
      { dst := .t 27, op := .bin .add (.v 18) (.c (.int .i64 1)) },
      { dst := .v 18, op := .move (.t 27) }], [], []⟩))))))) (.seq (.region ⟨[
      { dst := .t 28, op := .move (.v 7) },
      { dst := .v 6, op := .move (.t 28) }], [], []⟩) (.ret))))
def vf85 : VFunc := { vs := [0, 1, 2, 3, 6, 7, 9, 16, 17, 18, 19], nparams := 3, rets := [.tmp (.v 6)], body := vb85 }
/- groupcontrol.iofair.Check -/
def vb86 : VCode :=
    .seq (.region ⟨[
      { dst := .v 2, op := .box 2 (.v 0) },
      { dst := .v 4, op := .move (.c (.bool false)) }], [], []⟩) (.seq (.seq (.region ⟨[
      { dst := .t 7, op := .load (some 2) (.v 2) },
      { dst := .t 8, op := .call 78 [.t 7] },
      { dst := .v 9, op := .not (.t 8) }], [], []⟩) (.cond (.v 9) (.seq (.region ⟨[
      { dst := .v 4, op := .move (.c (.bool false)) }], [], []⟩) (.ret)) (.skip))) (.seq (.seq (.region ⟨[
      { dst := .v 10, op := .move (.v 1) },
      { dst := .v 11, op := .len (.v 10) },
      { dst := .v 12, op := .move (.c (.int .i64 0)) }], [], []⟩) (.block 0 (.loop (.seq (.region ⟨[
      { dst := .v 13, op := .bin .lss (.v 12) (.v 11) }], [], []⟩) (.seq (.cond (.v 13) (.skip) (.exit 0)) (.seq (.block 1 (.seq (.region ⟨[
      { dst := .t 14, op := .move (.v 12) },
      { dst := .t 15, op := .indexAddr 2 (.v 10) (.v 12) },
      { dst := .t 16, op := .load (some 2) (.t 15) },
      { dst := .v 6, op := .alloc [.c (.int .i64 0), .c (.int .i64 0)] },
      { dst := .v 5, op := .move (.t 14) },
      { dst := .none, op := .store 2 (.v 6) (.t 16) }], [], []⟩) (.seq (.region ⟨[
      { dst := .t 17, op := .load (some 2) (.v 2) },
      { dst := .t 18, op := .fieldAddr 0 (.v 6) },
      { dst := .t 19, op := .load none (.t 18) },
      { dst := .t 20, op := .call 84 [.t 17, .t 19] },
      { dst := .t 21, op := .not (.t 20) },
      { dst := .t 22, op := .move (.t 21) },
      { dst := .t 23, op := .move (.v 5), guard := some (.t 22, false) },
      { dst := .t 24, op := .bin .gtr (.t 23) (.c (.int .i64 0)), guard := some (.t 22, false) },
      { dst := .t 25, op := .move (.t 24), guard := some (.t 22, false) },
      { dst := .t 26, op := .fieldAddr 0 (.v 6), guard := some (.t 25, true) },
      { dst := .t 27, op := .load none (.t 26), guard := some (.t 25, true) },
      { dst := .t 28, op := .move (.v 1), guard := some (.t 25, true) },
      { dst := .t 29, op := .move (.v 5), guard := some (.t 25, true) },
      { dst := .t 30, op := .bin .sub (.t 29) (.c (.int .i64 1)), guard := some (.t 25, true) },
      { dst := .t 31, op := .indexAddr 2 (.t 28) (.t 30), guard := some (.t 25, true) },
      { dst := .t 32, op := .fieldAddr 0 (.t 31), guard := some (.t 25, true) },
      { dst := .t 33, op := .load none (.t 32), guard := some (.t 25, true) },
      { dst := .t 34, op := .bin .leq (.t 27) (.t 33), guard := some (.t 25, true) },
      { dst := .t 35, op := .pick (.t 25) (.t 34) (.c (.bool false)), guard := some (.t 22, false) },
      { dst := .t 36, op := .pick (.t 22) (.c (.bool true)) (.t 35) },
      { dst := .t 37, op := .move (.t 36) },
      { dst := .t 38, op := .fieldAddr 1 (.v 6), guard := some (.t 37, false) },
      { dst := .t 39, op := .load none (.t 38), guard := some (.t 37, false) },
      { dst := .t 40, op := .call 87 [.t 39, .c (.int .i64 0), .c (.int .i64 1152921504606846976)], guard := some (.t 37, false) },
      { dst := .t 41, op := .not (.t 40), guard := some (.t 37, false) },
      { dst := .v 42, op := .pick (.t 37) (.c (.bool true)) (.t 41) }], [], []⟩) (.cond (.v 42) (.seq (.region ⟨[
      { dst := .v 4, op := .move (.c (.bool false)) }], [], []⟩) (.ret)) (.skip))))) (.region ⟨[
      { dst := .t 43, op := .bin .add (.v 12) (.c (.int .i64 1)) },
      { dst := .v 12, op := .move (.t 43) }], [], []⟩))))))) (.seq (.region ⟨[
      { dst := .v 4, op := .move (.c (.bool true)) }], [], []⟩) (.ret))))
def vf86 : VFunc := { vs := [0, 1, 2, 4, 5, 6, 9, 10, 11, 12, 13, 42], nparams := 2, rets := [.tmp (.v 4)], body := vb86 }
/- groupcontrol.iofair.in -/
def vb87 : VCode :=
    .seq (.region ⟨[
      { dst := .v 6, op := .move (.c (.bool false)) }], [], []⟩) (.seq (.region ⟨[
      { dst := .t 7, op := .move (.v 0) },
      { dst := .t 8, op := .move (.v 1) },
      { dst := .t 9, op := .bin .geq (.t 7) (.t 8) },
      { dst := .t 10, op := .move (.t 9) },
      { dst := .t 11, op := .move (.v 0), guard := some (.t 10, true) },
      { dst := .t 12, op := .move (.v 2), guard := some (.t 10, true) },
      { dst := .t 13, op := .bin .leq (.t 11) (.t 12), guard := some (.t 10, true) },
      { dst := .t 14, op := .pick (.t 10) (.t 13) (.c (.bool false)) },
      { dst := .v 6, op := .move (.t 14) }], [], []⟩) (.ret))
def vf87 : VFunc := { vs := [0, 1, 2, 6], nparams := 3, rets := [.tmp (.v 6)], body := vb87 }
/- groupcontrol.iofair.put -/
def vb88 : VCode :=
    .seq (.region ⟨[
      { dst := .v 6, op := .newArr 2 }], [], []⟩) (.seq (.region ⟨[
      { dst := .v 7, op := .newArr 2 }], [], []⟩) (.seq (.region ⟨[
      { dst := .v 8, op := .move (.c (.bool false)) }], [], []⟩) (.seq (.seq (.region ⟨[
      { dst := .v 11, op := .move (.v 0) },
      { dst := .v 12, op := .len (.v 11) },
      { dst := .v 13, op := .move (.c (.int .i64 0)) }], [], []⟩) (.block 0 (.loop (.seq (.region ⟨[
      { dst := .v 14, op := .bin .lss (.v 13) (.v 12) }], [], []⟩) (.seq (.cond (.v 14) (.skip) (.exit 0)) (.seq (.block 1 (.seq (.region ⟨[
      { dst := .t 15, op := .indexAddr 2 (.v 11) (.v 13) },
      { dst := .t 16, op := .load (some 2) (.t 15) },
      { dst := .v 10, op := .alloc [.c (.int .i64 0), .c (.int .i64 0)] },
      { dst := .none, op := .store 2 (.v 10) (.t 16) }], [], []⟩) (.seq (.seq (.region ⟨[
      { dst := .t 17, op := .move (.v 8) },
      { dst := .t 18, op := .not (.t 17) },
      { dst := .t 19, op := .move (.t 18) },
      { dst := .t 20, op := .fieldAddr 0 (.v 10), guard := some (.t 19, true) },
      { dst := .t 21, op := .load none (.t 20), guard := some (.t 19, true) },
      { dst := .t 22, op := .move (.v 1), guard := some (.t 19, true) },
      { dst := .t 23, op := .bin .geq (.t 21) (.t 22), guard := some (.t 19, true) },
      { dst := .v 24, op := .pick (.t 19) (.t 23) (.c (.bool false)) }], [], []⟩) (.cond (.v 24) (.seq (.region ⟨[
      { dst := .t 25, op := .move (.v 7) },
      { dst := .t 26, op := .move (.v 1) },
      { dst := .t 27, op := .move (.v 2) },
      { dst := .t 28, op := .build [.a (.t 26) 0 1, .a (.t 27) 0 1] },
      { dst := .t 29, op := .buildSlice 2 [.t 28] },
      { dst := .t 30, op := .append 2 16 (.t 25) (.t 29) },
      { dst := .v 7, op := .move (.t 30) }], [], []⟩) (.region ⟨[
      { dst := .v 8, op := .move (.c (.bool true)) }], [], []⟩)) (.skip))) (.seq (.region ⟨[
      { dst := .t 31, op := .fieldAddr 0 (.v 10) },
      { dst := .t 32, op := .load none (.t 31) },
      { dst := .t 33, op := .move (.v 1) },
      { dst := .v 34, op := .bin .neq (.t 32) (.t 33) }], [], []⟩) (.cond (.v 34) (.region ⟨[
      { dst := .t 35, op := .move (.v 7) },
      { dst := .t 36, op := .load (some 2) (.v 10) },
      { dst := .t 37, op := .buildSlice 2 [.t 36] },
      { dst := .t 38, op := .append 2 16 (.t 35) (.t 37) },
      { dst := .v 7, op := .move (.t 38) }], [], []⟩) (.skip)))))) (.region ⟨[
      { dst := .t 39, op := .bin .add (.v 13) (.c (.int .i64 1)) },
      { dst := .v 13, op := .move (.t 39) }], [], []⟩))))))) (.seq (.seq (.region ⟨[
      { dst := .t 40, op := .move (.v 8) },
      { dst := .v 41, op := .not (.t 40) }], [], []⟩) (.cond (.v 41) (.region ⟨[
      { dst := .t 42, op := .move (.v 7) },
      { dst := .t 43, op := .move (.v 1) },
      { dst := .t 44, op := .move (.v 2) },
      { dst := .t 45, op := .build [.a (.t 43) 0 1, .a (.t 44) 0 1] },
      { dst := .t 46, op := .buildSlice 2 [.t 45] },
      { dst := .t 47, op := .append 2 16 (.t 42) (.t 46) },
      { dst := .v 7, op := .move (.t 47) }], [], []⟩) (.skip))) (.seq (.region ⟨[
      { dst := .t 48, op := .move (.v 7) },
      { dst := .v 6, op := .move (.t 48) }], [], []⟩) (.ret))))))
def vf88 : VFunc := { vs := [0, 1, 2, 6, 7, 8, 10, 11, 12, 13, 14, 24, 34, 41], nparams := 3, rets := [.tmp (.v 6)], body := vb88 }
/- groupcontrol.groupcontrolref22.Add -/
def vb89 : VCode :=
    .seq (.region ⟨[
      { dst := .v 4, op := .box 2 (.v 0) },
      { dst := .v 5, op := .box 1 (.v 1) },
      { dst := .v 8, op := .alloc [.nil 2] },
      { dst := .v 9, op := .move (.c (.int .i64 0)) }], [], []⟩) (.seq (.block 0 (.seq (.region ⟨[
      { dst := .t 11, op := .load (some 2) (.v 4) },
      { dst := .t 12, op := .load (some 1) (.v 5) },
      { dst := .t 13, op := .call 102 [.t 11, .t 12] },
      { dst := .t 14, op := .not (.t 13) },
      { dst := .v 10, op := .move (.t 14) }], [], []⟩) (.cond (.v 10) (.seq (.region ⟨[
      { dst := .t 15, op := .build [.z (.nil 2)] },
      { dst := .none, op := .store 1 (.v 8) (.t 15) },
      { dst := .v 9, op := .move (.c (.int .i64 1)) }], [], []⟩) (.ret)) (.seq (.region ⟨[
      { dst := .t 17, op := .load (some 2) (.v 4) },
      { dst := .t 18, op := .move (.v 2) },
      { dst := .t 19, op := .call 76 [.t 17, .t 18] },
      { dst := .t 20, op := .not (.t 19) },
      { dst := .v 16, op := .move (.t 20) }], [], []⟩) (.cond (.v 16) (.seq (.region ⟨[
      { dst := .t 21, op := .build [.z (.nil 2)] },
      { dst := .none, op := .store 1 (.v 8) (.t 21) },
      { dst := .v 9, op := .move (.c (.int .i64 4)) }], [], []⟩) (.ret)) (.seq (.region ⟨[
      { dst := .t 23, op := .move (.v 3) },
      { dst := .t 24, op := .bin .lss (.t 23) (.c (.int .i64 (-16777216))) },
      { dst := .t 25, op := .move (.t 24) },
      { dst := .t 26, op := .move (.v 3), guard := some (.t 25, false) },
      { dst := .t 27, op := .bin .gtr (.t 26) (.c (.int .i64 16777216)), guard := some (.t 25, false) },
      { dst := .t 28, op := .pick (.t 25) (.c (.bool true)) (.t 27) },
      { dst := .t 29, op := .move (.t 28) },
      { dst := .t 30, op := .load (some 1) (.v 5), guard := some (.t 29, false) },
      { dst := .t 31, op := .move (.v 2), guard := some (.t 29, false) },
      { dst := .t 32, op := .call 104 [.t 30, .t 31], guard := some (.t 29, false) },
      { dst := .t 33, op := .move (.v 3), guard := some (.t 29, false) },
      { dst := .t 34, op := .bin .add (.t 32) (.t 33), guard := some (.t 29, false) },
      { dst := .t 35, op := .bin .lss (.t 34) (.c (.int .i64 0)), guard := some (.t 29, false) },
      { dst := .t 36, op := .pick (.t 29) (.c (.bool true)) (.t 35) },
      { dst := .v 22, op := .move (.t 36) }], [], []⟩) (.cond (.v 22) (.seq (.region ⟨[
      { dst := .t 37, op := .build [.z (.nil 2)] },
      { dst := .none, op := .store 1 (.v 8) (.t 37) },
      { dst := .v 9, op := .move (.c (.int .i64 3)) }], [], []⟩) (.ret)) (.seq (.region ⟨[
      { dst := .t 39, op := .load (some 2) (.v 4) },
      { dst := .t 40, op := .load (some 1) (.v 5) },
      { dst := .t 41, op := .call 121 [.t 39, .t 40, .c (.int .i64 1)] },
      { dst := .t 42, op := .move (.v 3) },
      { dst := .t 43, op := .bin .add (.t 41) (.t 42) },
      { dst := .t 44, op := .bin .gtr (.t 43) (.c (.int .i64 16777216)) },
      { dst := .v 38, op := .move (.t 44) }], [], []⟩) (.cond (.v 38) (.seq (.region ⟨[
      { dst := .t 45, op := .build [.z (.nil 2)] },
      { dst := .none, op := .store 1 (.v 8) (.t 45) },
      { dst := .v 9, op := .move (.c (.int .i64 7)) }], [], []⟩) (.ret)) (.skip)))))))))) (.seq (.region ⟨[
      { dst := .t 46, op := .load (some 1) (.v 5) },
      { dst := .t 47, op := .move (.v 2) },
      { dst := .t 48, op := .load (some 1) (.v 5) },
      { dst := .t 49, op := .move (.v 2) },
      { dst := .t 50, op := .call 104 [.t 48, .t 49] },
      { dst := .t 51, op := .move (.v 3) },
      { dst := .t 52, op := .bin .add (.t 50) (.t 51) },
      { dst := .t 53, op := .call 122 [.t 46, .t 47, .t 52] },
      { dst := .none, op := .store 1 (.v 8) (.t 53) },
      { dst := .v 9, op := .move (.c (.int .i64 0)) }], [], [(0, 4)]⟩) (.ret)))
def vf89 : VFunc := { vs := [0, 1, 2, 3, 4, 5, 8, 9, 10, 16, 22, 38], nparams := 4, rets := [.cell (.v 8) (some 1), .tmp (.v 9)], body := vb89 }
/- groupcontrol.counter.check -/
def vb90 : VCode :=
    .seq (.region ⟨[
      { dst := .v 3, op := .box 2 (.v 0) },
      { dst := .v 4, op := .box 1 (.v 1) },
      { dst := .v 6, op := .move (.c (.int .i64 0)) }], [], []⟩) (.seq (.seq (.region ⟨[
      { dst := .t 9, op := .load (some 2) (.v 3) },
      { dst := .t 10, op := .load (some 1) (.v 4) },
      { dst := .t 11, op := .call 96 [.t 9, .t 10] },
      { dst := .v 12, op := .not (.t 11) }], [], []⟩) (.cond (.v 12) (.seq (.region ⟨[
      { dst := .v 6, op := .move (.c (.int .i64 1)) }], [], []⟩) (.ret)) (.skip))) (.seq (.seq (.region ⟨[
      { dst := .t 14, op := .load (some 2) (.v 3) },
      { dst := .t 15, op := .move (.v 2) },
      { dst := .t 16, op := .call 93 [.t 14, .t 15] },
      { dst := .t 13, op := .move (.t 16) },
      { dst := .t 17, op := .extract (.t 13) 0 },
      { dst := .t 18, op := .extract (.t 13) 1 },
      { dst := .t 7, op := .alloc [.c (.int .i64 0), .c (.int .i64 0), .c (.str ⟨#[]⟩), .c (.int .i64 0), .c (.int .i64 0), .c (.int .i64 0)] },
      { dst := .none, op := .store 6 (.t 7) (.t 17) },
      { dst := .v 8, op := .move (.t 18) }], [], []⟩) (.seq (.region ⟨[
      { dst := .t 19, op := .move (.v 8) },
      { dst := .v 20, op := .not (.t 19) }], [], []⟩) (.cond (.v 20) (.seq (.region ⟨[
      { dst := .v 6, op := .move (.c (.int .i64 4)) }], [], []⟩) (.ret)) (.skip)))) (.seq (.region ⟨[
      { dst := .v 6, op := .move (.c (.int .i64 0)) }], [], []⟩) (.ret))))
def vf90 : VFunc := { vs := [0, 1, 2, 3, 4, 6, 8, 12, 20], nparams := 3, rets := [.tmp (.v 6)], body := vb90 }
/- groupcontrol.counter.sums -/
def vb91 : VCode :=
    .seq (.region ⟨[
      { dst := .v 2, op := .box 2 (.v 0) },
      { dst := .v 3, op := .box 1 (.v 1) },
      { dst := .v 4, op := .move (.c (.map .bool [] [])) }], [], []⟩) (.seq (.region ⟨[
      { dst := .t 9, op := .makeMap (.int .i64) },
      { dst := .v 5, op := .move (.t 9) }], [], []⟩) (.seq (.seq (.region ⟨[
      { dst := .t 10, op := .fieldAddr 0 (.v 3) },
      { dst := .v 11, op := .load none (.t 10) },
      { dst := .v 12, op := .len (.v 11) },
      { dst := .v 13, op := .move (.c (.int .i64 0)) }], [], []⟩) (.block 0 (.loop (.seq (.region ⟨[
      { dst := .v 14, op := .bin .lss (.v 13) (.v 12) }], [], []⟩) (.seq (.cond (.v 14) (.skip) (.exit 0)) (.seq (.block 1 (.seq (.region ⟨[
      { dst := .t 15, op := .indexAddr 2 (.v 11) (.v 13) },
      { dst := .t 16, op := .load (some 2) (.t 15) },
      { dst := .v 7, op := .alloc [.c (.int .i64 0), .c (.int .i64 0)] },
      { dst := .none, op := .store 2 (.v 7) (.t 16) }], [], []⟩) (.region ⟨[
      { dst := .t 17, op := .move (.v 5) },
      { dst := .t 18, op := .fieldAddr 0 (.v 7) },
      { dst := .t 19, op := .load none (.t 18) },
      { dst := .t 20, op := .fieldAddr 1 (.v 7) },
      { dst := .t 21, op := .load none (.t 20) },
      { dst := .none, op := .mapUpdate (.int .i64) (.t 17) (.t 19) (.t 21) }], [], []⟩))) (.region ⟨[
      { dst := .t 22, op := .bin .add (.v 13) (.c (.int .i64 1)) },
      { dst := .v 13, op := .move (.t 22) }], [], []⟩))))))) (.seq (.seq (.region ⟨[
      { dst := .t 23, op := .fieldAddr 0 (.v 2) },
      { dst := .t 24, op := .load none (.t 23) },
      { dst := .t 25, op := .len (.t 24) },
      { dst := .t 26, op := .bin .sub (.t 25) (.c (.int .i64 1)) },
      { dst := .v 8, op := .move (.t 26) }], [], []⟩) (.block 2 (.loop (.seq (.seq (.region ⟨[
      { dst := .t 27, op := .move (.v 8) },
      { dst := .v 28, op := .bin .gtr (.t 27) (.c (.int .i64 0)) }], [], []⟩) (.cond (.v 28) (.skip) (.exit 2))) (.seq (.block 3 (.region ⟨[
      { dst := .t 31, op := .move (.v 5) },
      { dst := .t 32, op := .fieldAddr 0 (.v 2) },
      { dst := .t 33, op := .load none (.t 32) },
      { dst := .t 34, op := .move (.v 8) },
      { dst := .t 35, op := .indexAddr 6 (.t 33) (.t 34) },
      { dst := .t 36, op := .fieldAddr 1 (.t 35) },
      { dst := .t 37, op := .load none (.t 36) },
      { dst := .t 38, op := .lookup false (.int .i64) (.int .i64 0) (.t 31) (.t 37) },
      { dst := .t 39, op := .move (.v 5) },
      { dst := .t 40, op := .fieldAddr 0 (.v 2) },
      { dst := .t 41, op := .load none (.t 40) },
      { dst := .t 42, op := .move (.v 8) },
      { dst := .t 43, op := .indexAddr 6 (.t 41) (.t 42) },
      { dst := .t 44, op := .fieldAddr 0 (.t 43) },
      { dst := .t 45, op := .load none (.t 44) },
      { dst := .t 46, op := .lookup false (.int .i64) (.int .i64 0) (.t 39) (.t 45) },
      { dst := .t 47, op := .bin .add (.t 38) (.t 46) },
      { dst := .none, op := .mapUpdate (.int .i64) (.t 31) (.t 37) (.t 47) }], [], []⟩)) (.region ⟨[
      { dst := .t 29, op := .move (.v 8) },
      { dst := .t 30, op := .bin .sub (.t 29) (.c (.int .i64 1)) },
      { dst := .v 8, op := .move (.t 30) }], [], []⟩)))))) (.seq (.region ⟨[
      { dst := .t 48, op := .move (.v 5) },
      { dst := .v 4, op := .move (.t 48) }], [], []⟩) (.ret)))))
def vf91 : VFunc := { vs := [0, 1, 2, 3, 4, 5, 7, 8, 11, 12, 13, 14, 28], nparams := 2, rets := [.tmp (.v 4)], body := vb91 }
/- groupcontrol.forest.Children -/
def vb92 : VCode :=
    .seq (.region ⟨[
      { dst := .v 2, op := .box 2 (.v 0) },
      { dst := .v 4, op := .newArr 1 }], [], []⟩) (.seq (.region ⟨[
      { dst := .v 5, op := .newArr 1 }], [], []⟩) (.seq (.seq (.region ⟨[
      { dst := .t 8, op := .fieldAddr 0 (.v 2) },
      { dst := .v 9, op := .load none (.t 8) },
      { dst := .v 10, op := .len (.v 9) },
      { dst := .v 11, op := .move (.c (.int .i64 0)) }], [], []⟩) (.block 0 (.loop (.seq (.region ⟨[
      { dst := .v 12, op := .bin .lss (.v 11) (.v 10) }], [], []⟩) (.seq (.cond (.v 12) (.skip) (.exit 0)) (.seq (.block 1 (.seq (.region ⟨[
      { dst := .t 13, op := .indexAddr 6 (.v 9) (.v 11) },
      { dst := .t 14, op := .load (some 6) (.t 13) },
      { dst := .v 7, op := .alloc [.c (.int .i64 0), .c (.int .i64 0), .c (.str ⟨#[]⟩), .c (.int .i64 0), .c (.int .i64 0), .c (.int .i64 0)] },
      { dst := .none, op := .store 6 (.v 7) (.t 14) }], [], []⟩) (.seq (.region ⟨[
      { dst := .t 15, op := .fieldAddr 1 (.v 7) },
      { dst := .t 16, op := .load none (.t 15) },
      { dst := .t 17, op := .move (.v 1) },
      { dst := .v 18, op := .bin .eql (.t 16) (.t 17) }], [], []⟩) (.cond (.v 18) (.region ⟨[
      { dst := .t 19, op := .move (.v 5) },
      { dst := .t 20, op := .fieldAddr 0 (.v 7) },
      { dst := .t 21, op := .load none (.t 20) },
      { dst := .t 22, op := .buildSlice 1 [.t 21] },
      { dst := .t 23, op := .append 1 8 (.t 19) (.t 22) },
      { dst := .v 5, op := .move (.t 23) }], [], []⟩) (.skip))))) (.region ⟨[
      { dst := .t 24, op := .bin .add (.v 11) (.c (.int .i64 1)) },
      { dst := .v 11, op := .move (.t 24) }], [], []⟩))))))) (.seq (.region ⟨[
      { dst := .t 25, op := .move (.v 5) },
      { dst := .v 4, op := .move (.t 25) }], [], []⟩) (.ret))))
def vf92 : VFunc := { vs := [0, 1, 2, 4, 5, 7, 9, 10, 11, 12, 18], nparams := 2, rets := [.tmp (.v 4)], body := vb92 }
/- groupcontrol.forest.Find -/
def vb93 : VCode :=
    .seq (.region ⟨[
      { dst := .v 2, op := .box 2 (.v 0) },
      { dst := .v 4, op := .alloc [.c (.int .i64 0), .c (.int .i64 0), .c (.str ⟨#[]⟩), .c (.int .i64 0), .c (.int .i64 0), .c (.int .i64 0)] },
      { dst := .v 5, op := .move (.c (.bool false)) }], [], []⟩) (.seq (.region ⟨[
      { dst := .t 7, op := .load (some 2) (.v 2) },
      { dst := .t 8, op := .move (.v 1) },
      { dst := .t 9, op := .call 73 [.t 7, .t 8] },
      { dst := .v 6, op := .move (.t 9) }], [], []⟩) (.seq (.seq (.region ⟨[
      { dst := .t 10, op := .move (.v 6) },
      { dst := .v 11, op := .bin .lss (.t 10) (.c (.int .i64 0)) }], [], []⟩) (.cond (.v 11) (.seq (.region ⟨[
      { dst := .t 12, op := .build [.z (.c (.int .i64 0)), .z (.c (.int .i64 0)), .z (.c (.str ⟨#[]⟩)), .z (.c (.int .i64 0)), .z (.c (.int .i64 0)), .z (.c (.int .i64 0))] },
      { dst := .none, op := .store 6 (.v 4) (.t 12) },
      { dst := .v 5, op := .move (.c (.bool false)) }], [], []⟩) (.ret)) (.skip))) (.seq (.region ⟨[
      { dst := .t 13, op := .fieldAddr 0 (.v 2) },
      { dst := .t 14, op := .load none (.t 13) },
      { dst := .t 15, op := .move (.v 6) },
      { dst := .t 16, op := .indexAddr 6 (.t 14) (.t 15) },
      { dst := .t 17, op := .load (some 6) (.t 16) },
      { dst := .none, op := .store 6 (.v 4) (.t 17) },
      { dst := .v 5, op := .move (.c (.bool true)) }], [], []⟩) (.ret))))
def vf93 : VFunc := { vs := [0, 1, 2, 4, 5, 6, 11], nparams := 2, rets := [.cell (.v 4) (some 6), .tmp (.v 5)], body := vb93 }
/- groupcontrol.counter.with -/
def vb94 : VCode :=
    .seq (.region ⟨[
      { dst := .v 3, op := .box 1 (.v 0) },
      { dst := .v 6, op := .alloc [.nil 2] }], [], []⟩) (.seq (.region ⟨[
      { dst := .v 7, op := .alloc [.nil 2] }], [], []⟩) (.seq (.region ⟨[
      { dst := .t 11, op := .move (.v 2) },
      { dst := .t 12, op := .bin .eql (.t 11) (.c (.int .i64 0)) },
      { dst := .v 8, op := .move (.t 12) }], [], []⟩) (.seq (.seq (.region ⟨[
      { dst := .t 13, op := .fieldAddr 0 (.v 3) },
      { dst := .v 14, op := .load none (.t 13) },
      { dst := .v 15, op := .len (.v 14) },
      { dst := .v 16, op := .move (.c (.int .i64 0)) }], [], []⟩) (.block 0 (.loop (.seq (.region ⟨[
      { dst := .v 17, op := .bin .lss (.v 16) (.v 15) }], [], []⟩) (.seq (.cond (.v 17) (.skip) (.exit 0)) (.seq (.block 1 (.seq (.region ⟨[
      { dst := .t 18, op := .indexAddr 2 (.v 14) (.v 16) },
      { dst := .t 19, op := .load (some 2) (.t 18) },
      { dst := .v 10, op := .alloc [.c (.int .i64 0), .c (.int .i64 0)] },
      { dst := .none, op := .store 2 (.v 10) (.t 19) }], [], []⟩) (.seq (.seq (.region ⟨[
      { dst := .t 20, op := .move (.v 8) },
      { dst := .t 21, op := .not (.t 20) },
      { dst := .t 22, op := .move (.t 21) },
      { dst := .t 23, op := .fieldAddr 0 (.v 10), guard := some (.t 22, true) },
      { dst := .t 24, op := .load none (.t 23), guard := some (.t 22, true) },
      { dst := .t 25, op := .move (.v 1), guard := some (.t 22, true) },
      { dst := .t 26, op := .bin .geq (.t 24) (.t 25), guard := some (.t 22, true) },
      { dst := .v 27, op := .pick (.t 22) (.t 26) (.c (.bool false)) }], [], []⟩) (.cond (.v 27) (.seq (.region ⟨[
      { dst := .t 28, op := .fieldAddr 0 (.v 7) },
      { dst := .t 29, op := .load none (.t 28) },
      { dst := .t 30, op := .move (.v 1) },
      { dst := .t 31, op := .move (.v 2) },
      { dst := .t 32, op := .build [.a (.t 30) 0 1, .a (.t 31) 0 1] },
      { dst := .t 33, op := .buildSlice 2 [.t 32] },
      { dst := .t 34, op := .append 2 16 (.t 29) (.t 33) },
      { dst := .t 35, op := .fieldAddr 0 (.v 7) },
      { dst := .none, op := .store 1 (.t 35) (.t 34) }], [], []⟩) (.region ⟨[
      { dst := .v 8, op := .move (.c (.bool true)) }], [], []⟩)) (.skip))) (.seq (.region ⟨[
      { dst := .t 36, op := .fieldAddr 0 (.v 10) },
      { dst := .t 37, op := .load none (.t 36) },
      { dst := .t 38, op := .move (.v 1) },
      { dst := .v 39, op := .bin .neq (.t 37) (.t 38) }], [], []⟩) (.cond (.v 39) (.region ⟨[
      { dst := .t 40, op := .fieldAddr 0 (.v 7) },
      { dst := .t 41, op := .load none (.t 40) },
      { dst := .t 42, op := .load (some 2) (.v 10) },
      { dst := .t 43, op := .buildSlice 2 [.t 42] },
      { dst := .t 44, op := .append 2 16 (.t 41) (.t 43) },
      { dst := .t 45, op := .fieldAddr 0 (.v 7) },
      { dst := .none, op := .store 1 (.t 45) (.t 44) }], [], []⟩) (.skip)))))) (.region ⟨[
      { dst := .t 46, op := .bin .add (.v 16) (.c (.int .i64 1)) },
      { dst := .v 16, op := .move (.t 46) }], [], []⟩))))))) (.seq (.seq (.region ⟨[
      { dst := .t 47, op := .move (.v 8) },
      { dst := .v 48, op := .not (.t 47) }], [], []⟩) (.cond (.v 48) (.region ⟨[
      { dst := .t 49, op := .fieldAddr 0 (.v 7) },
      { dst := .t 50, op := .load none (.t 49) },
      { dst := .t 51, op := .move (.v 1) },
      { dst := .t 52, op := .move (.v 2) },
      { dst := .t 53, op := .build [.a (.t 51) 0 1, .a (.t 52) 0 1] },
      { dst := .t 54, op := .buildSlice 2 [.t 53] },
      { dst := .t 55, op := .append 2 16 (.t 50) (.t 54) },
      { dst := .t 56, op := .fieldAddr 0 (.v 7) },
      { dst := .none, op := .store 1 (.t 56) (.t 55) }], [], []⟩) (.skip))) (.seq (.region ⟨[
      { dst := .t 57, op := .load (some 1) (.v 7) },
      { dst := .none, op := .store 1 (.v 6) (.t 57) }], [], []⟩) (.ret))))))
def vf94 : VFunc := { vs := [0, 1, 2, 3, 6, 7, 8, 10, 14, 15, 16, 17, 27, 39, 48], nparams := 3, rets := [.cell (.v 6) (some 1)], body := vb94 }
/- groupcontrol.counter.add -/
def vb95 : VCode :=
    .seq (.region ⟨[
      { dst := .v 4, op := .box 2 (.v 0) },
      { dst := .v 5, op := .box 1 (.v 1) },
      { dst := .v 8, op := .alloc [.nil 2] },
      { dst := .v 9, op := .move (.c (.int .i64 0)) }], [], []⟩) (.seq (.seq (.region ⟨[
      { dst := .t 10, op := .move (.v 3) },
      { dst := .t 11, op := .bin .lss (.t 10) (.c (.int .i64 (-16777216))) },
      { dst := .t 12, op := .move (.t 11) },
      { dst := .t 13, op := .move (.v 3), guard := some (.t 12, false) },
      { dst := .t 14, op := .bin .gtr (.t 13) (.c (.int .i64 16777216)), guard := some (.t 12, false) },
      { dst := .t 15, op := .pick (.t 12) (.c (.bool true)) (.t 14) },
      { dst := .t 16, op := .move (.t 15) },
      { dst := .t 17, op := .load (some 1) (.v 5), guard := some (.t 16, false) },
      { dst := .t 18, op := .move (.v 2), guard := some (.t 16, false) },
      { dst := .t 19, op := .call 54 [.t 17, .t 18], guard := some (.t 16, false) },
      { dst := .t 20, op := .move (.v 3), guard := some (.t 16, false) },
      { dst := .t 21, op := .bin .add (.t 19) (.t 20), guard := some (.t 16, false) },
      { dst := .t 22, op := .bin .lss (.t 21) (.c (.int .i64 0)), guard := some (.t 16, false) },
      { dst := .v 23, op := .pick (.t 16) (.c (.bool true)) (.t 22) }], [], []⟩) (.cond (.v 23) (.seq (.region ⟨[
      { dst := .t 24, op := .build [.z (.nil 2)] },
      { dst := .none, op := .store 1 (.v 8) (.t 24) },
      { dst := .v 9, op := .move (.c (.int .i64 3)) }], [], []⟩) (.ret)) (.skip))) (.seq (.seq (.region ⟨[
      { dst := .t 25, op := .load (some 2) (.v 4) },
      { dst := .t 26, op := .load (some 1) (.v 5) },
      { dst := .t 27, op := .call 91 [.t 25, .t 26] },
      { dst := .t 28, op := .lookup false (.int .i64) (.int .i64 0) (.t 27) (.c (.int .i64 1)) },
      { dst := .t 29, op := .move (.v 3) },
      { dst := .t 30, op := .bin .add (.t 28) (.t 29) },
      { dst := .v 31, op := .bin .gtr (.t 30) (.c (.int .i64 16777216)) }], [], []⟩) (.cond (.v 31) (.seq (.region ⟨[
      { dst := .t 32, op := .build [.z (.nil 2)] },
      { dst := .none, op := .store 1 (.v 8) (.t 32) },
      { dst := .v 9, op := .move (.c (.int .i64 7)) }], [], []⟩) (.ret)) (.skip))) (.seq (.region ⟨[
      { dst := .t 33, op := .load (some 1) (.v 5) },
      { dst := .t 34, op := .move (.v 2) },
      { dst := .t 35, op := .load (some 1) (.v 5) },
      { dst := .t 36, op := .move (.v 2) },
      { dst := .t 37, op := .call 54 [.t 35, .t 36] },
      { dst := .t 38, op := .move (.v 3) },
      { dst := .t 39, op := .bin .add (.t 37) (.t 38) },
      { dst := .t 40, op := .call 94 [.t 33, .t 34, .t 39] },
      { dst := .none, op := .store 1 (.v 8) (.t 40) },
      { dst := .v 9, op := .move (.c (.int .i64 0)) }], [], [(0, 4)]⟩) (.ret))))
def vf95 : VFunc := { vs := [0, 1, 2, 3, 4, 5, 8, 9, 23, 31], nparams := 4, rets := [.cell (.v 8) (some 1), .tmp (.v 9)], body := vb95 }
/- groupcontrol.counter.Valid -/
def vb96 : VCode :=
    .seq (.region ⟨[
      { dst := .v 2, op := .box 2 (.v 0) },
      { dst := .v 3, op := .box 1 (.v 1) },
      { dst := .v 4, op := .move (.c (.bool false)) }], [], []⟩) (.seq (.seq (.region ⟨[
      { dst := .t 10, op := .load (some 2) (.v 2) },
      { dst := .t 11, op := .call 78 [.t 10] },
      { dst := .v 12, op := .not (.t 11) }], [], []⟩) (.cond (.v 12) (.seq (.region ⟨[
      { dst := .v 4, op := .move (.c (.bool false)) }], [], []⟩) (.ret)) (.skip))) (.seq (.region ⟨[
      { dst := .v 5, op := .move (.c (.int .i64 0)) }], [], []⟩) (.seq (.seq (.region ⟨[
      { dst := .t 13, op := .fieldAddr 0 (.v 3) },
      { dst := .v 14, op := .load none (.t 13) },
      { dst := .v 15, op := .len (.v 14) },
      { dst := .v 16, op := .move (.c (.int .i64 0)) }], [], []⟩) (.block 0 (.loop (.seq (.region ⟨[
      { dst := .v 17, op := .bin .lss (.v 16) (.v 15) }], [], []⟩) (.seq (.cond (.v 17) (.skip) (.exit 0)) (.seq (.block 1 (.seq (.region ⟨[
      { dst := .t 18, op := .move (.v 16) },
      { dst := .t 19, op := .indexAddr 2 (.v 14) (.v 16) },
      { dst := .t 20, op := .load (some 2) (.t 19) },
      { dst := .v 7, op := .alloc [.c (.int .i64 0), .c (.int .i64 0)] },
      { dst := .v 6, op := .move (.t 18) },
      { dst := .none, op := .store 2 (.v 7) (.t 20) }], [], []⟩) (.seq (.seq (.region ⟨[
      { dst := .t 22, op := .load (some 2) (.v 2) },
      { dst := .t 23, op := .fieldAddr 0 (.v 7) },
      { dst := .t 24, op := .load none (.t 23) },
      { dst := .t 25, op := .call 93 [.t 22, .t 24] },
      { dst := .t 21, op := .move (.t 25) },
      { dst := .t 26, op := .extract (.t 21) 0 },
      { dst := .t 27, op := .extract (.t 21) 1 },
      { dst := .t 8, op := .alloc [.c (.int .i64 0), .c (.int .i64 0), .c (.str ⟨#[]⟩), .c (.int .i64 0), .c (.int .i64 0), .c (.int .i64 0)] },
      { dst := .none, op := .store 6 (.t 8) (.t 26) },
      { dst := .v 9, op := .move (.t 27) }], [], []⟩) (.seq (.region ⟨[
      { dst := .t 28, op := .move (.v 9) },
      { dst := .t 29, op := .not (.t 28) },
      { dst := .t 30, op := .move (.t 29) },
      { dst := .t 31, op := .move (.v 6), guard := some (.t 30, false) },
      { dst := .t 32, op := .bin .gtr (.t 31) (.c (.int .i64 0)), guard := some (.t 30, false) },
      { dst := .t 33, op := .move (.t 32), guard := some (.t 30, false) },
      { dst := .t 34, op := .fieldAddr 0 (.v 7), guard := some (.t 33, true) },
      { dst := .t 35, op := .load none (.t 34), guard := some (.t 33, true) },
      { dst := .t 36, op := .fieldAddr 0 (.v 3), guard := some (.t 33, true) },
      { dst := .t 37, op := .load none (.t 36), guard := some (.t 33, true) },
      { dst := .t 38, op := .move (.v 6), guard := some (.t 33, true) },
      { dst := .t 39, op := .bin .sub (.t 38) (.c (.int .i64 1)), guard := some (.t 33, true) },
      { dst := .t 40, op := .indexAddr 2 (.t 37) (.t 39), guard := some (.t 33, true) },
      { dst := .t 41, op := .fieldAddr 0 (.t 40), guard := some (.t 33, true) },
      { dst := .t 42, op := .load none (.t 41), guard := some (.t 33, true) },
      { dst := .t 43, op := .bin .leq (.t 35) (.t 42), guard := some (.t 33, true) },
      { dst := .t 44, op := .pick (.t 33) (.t 43) (.c (.bool false)), guard := some (.t 30, false) },
      { dst := .t 45, op := .pick (.t 30) (.c (.bool true)) (.t 44) },
      { dst := .t 46, op := .move (.t 45) },
      { dst := .t 47, op := .fieldAddr 1 (.v 7), guard := some (.t 46, false) },
      { dst := .t 48, op := .load none (.t 47), guard := some (.t 46, false) },
      { dst := .t 49, op := .bin .lss (.t 48) (.c (.int .i64 1)), guard := some (.t 46, false) },
      { dst := .t 50, op := .pick (.t 46) (.c (.bool true)) (.t 49) },
      { dst := .t 51, op := .move (.t 50) },
      { dst := .t 52, op := .fieldAddr 1 (.v 7), guard := some (.t 51, false) },
      { dst := .t 53, op := .load none (.t 52), guard := some (.t 51, false) },
      { dst := .t 54, op := .move (.v 5), guard := some (.t 51, false) },
      { dst := .t 55, op := .bin .sub (.c (.int .i64 16777216)) (.t 54), guard := some (.t 51, false) },
      { dst := .t 56, op := .bin .gtr (.t 53) (.t 55), guard := some (.t 51, false) },
      { dst := .v 57, op := .pick (.t 51) (.c (.bool true)) (.t 56) }], [], []⟩) (.cond (.v 57) (.seq (.region ⟨[
      { dst := .v 4, op := .move (.c (.bool false)) }], [], []⟩) (.ret)) (.skip)))) (.region ⟨[
      { dst := .t 58, op := .move (.v 5) },
      { dst := .t 59, op := .fieldAddr 1 (.v 7) },
      { dst := .t 60, op := .load none (.t 59) },
      { dst := .t 61, op := .bin .add (.t 58) (.t 60) },
      { dst := .v 5, op := .move (.t 61) }], [], []⟩)))) (.region ⟨[
      { dst := .t 62, op := .bin .add (.v 16) (.c (.int .i64 1)) },
      { dst := .v 16, op := .move (.t 62) }], [], []⟩))))))) (.seq (.region ⟨[
      { dst := .v 4, op := .move (.c (.bool true)) }], [], []⟩) (.ret)))))
def vf96 : VFunc := { vs := [0, 1, 2, 3, 4, 5, 6, 7, 9, 12, 14, 15, 16, 17, 57], nparams := 2, rets := [.tmp (.v 4)], body := vb96 }
/- groupcontrol.counter.ValidLimits -/
def vb97 : VCode :=
    .seq (.region ⟨[
      { dst := .v 2, op := .box 2 (.v 0) },
      { dst := .v 4, op := .move (.c (.bool false)) }], [], []⟩) (.seq (.seq (.region ⟨[
      { dst := .t 9, op := .load (some 2) (.v 2) },
      { dst := .t 10, op := .call 78 [.t 9] },
      { dst := .v 11, op := .not (.t 10) }], [], []⟩) (.cond (.v 11) (.seq (.region ⟨[
      { dst := .v 4, op := .move (.c (.bool false)) }], [], []⟩) (.ret)) (.skip))) (.seq (.seq (.region ⟨[
      { dst := .v 12, op := .move (.v 1) },
      { dst := .v 13, op := .len (.v 12) },
      { dst := .v 14, op := .move (.c (.int .i64 0)) }], [], []⟩) (.block 0 (.loop (.seq (.region ⟨[
      { dst := .v 15, op := .bin .lss (.v 14) (.v 13) }], [], []⟩) (.seq (.cond (.v 15) (.skip) (.exit 0)) (.seq (.block 1 (.seq (.region ⟨[
      { dst := .t 16, op := .move (.v 14) },
      { dst := .t 17, op := .indexAddr 2 (.v 12) (.v 14) },
      { dst := .t 18, op := .load (some 2) (.t 17) },
      { dst := .v 6, op := .alloc [.c (.int .i64 0), .c (.int .i64 0)] },
      { dst := .v 5, op := .move (.t 16) },
      { dst := .none, op := .store 2 (.v 6) (.t 18) }], [], []⟩) (.seq (.region ⟨[
      { dst := .t 20, op := .load (some 2) (.v 2) },
      { dst := .t 21, op := .fieldAddr 0 (.v 6) },
      { dst := .t 22, op := .load none (.t 21) },
      { dst := .t 23, op := .call 93 [.t 20, .t 22] },
      { dst := .t 19, op := .move (.t 23) },
      { dst := .t 24, op := .extract (.t 19) 0 },
      { dst := .t 25, op := .extract (.t 19) 1 },
      { dst := .t 7, op := .alloc [.c (.int .i64 0), .c (.int .i64 0), .c (.str ⟨#[]⟩), .c (.int .i64 0), .c (.int .i64 0), .c (.int .i64 0)] },
      { dst := .none, op := .store 6 (.t 7) (.t 24) },
      { dst := .v 8, op := .move (.t 25) }], [], []⟩) (.seq (.region ⟨[
      { dst := .t 26, op := .move (.v 8) },
      { dst := .t 27, op := .not (.t 26) },
      { dst := .t 28, op := .move (.t 27) },
      { dst := .t 29, op := .move (.v 5), guard := some (.t 28, false) },
      { dst := .t 30, op := .bin .gtr (.t 29) (.c (.int .i64 0)), guard := some (.t 28, false) },
      { dst := .t 31, op := .move (.t 30), guard := some (.t 28, false) },
      { dst := .t 32, op := .fieldAddr 0 (.v 6), guard := some (.t 31, true) },
      { dst := .t 33, op := .load none (.t 32), guard := some (.t 31, true) },
      { dst := .t 34, op := .move (.v 1), guard := some (.t 31, true) },
      { dst := .t 35, op := .move (.v 5), guard := some (.t 31, true) },
      { dst := .t 36, op := .bin .sub (.t 35) (.c (.int .i64 1)), guard := some (.t 31, true) },
      { dst := .t 37, op := .indexAddr 2 (.t 34) (.t 36), guard := some (.t 31, true) },
      { dst := .t 38, op := .fieldAddr 0 (.t 37), guard := some (.t 31, true) },
      { dst := .t 39, op := .load none (.t 38), guard := some (.t 31, true) },
      { dst := .t 40, op := .bin .leq (.t 33) (.t 39), guard := some (.t 31, true) },
      { dst := .t 41, op := .pick (.t 31) (.t 40) (.c (.bool false)), guard := some (.t 28, false) },
      { dst := .t 42, op := .pick (.t 28) (.c (.bool true)) (.t 41) },
      { dst := .t 43, op := .move (.t 42) },
      { dst := .t 44, op := .fieldAddr 1 (.v 6), guard := some (.t 43, false) },
      { dst := .t 45, op := .load none (.t 44), guard := some (.t 43, false) },
      { dst := .t 46, op := .bin .lss (.t 45) (.c (.int .i64 0)), guard := some (.t 43, false) },
      { dst := .t 47, op := .pick (.t 43) (.c (.bool true)) (.t 46) },
      { dst := .t 48, op := .move (.t 47) },
      { dst := .t 49, op := .fieldAddr 1 (.v 6), guard := some (.t 48, false) },
      { dst := .t 50, op := .load none (.t 49), guard := some (.t 48, false) },
      { dst := .t 51, op := .bin .gtr (.t 50) (.c (.int .i64 4611686018427387904)), guard := some (.t 48, false) },
      { dst := .v 52, op := .pick (.t 48) (.c (.bool true)) (.t 51) }], [], []⟩) (.cond (.v 52) (.seq (.region ⟨[
      { dst := .v 4, op := .move (.c (.bool false)) }], [], []⟩) (.ret)) (.skip)))))) (.region ⟨[
      { dst := .t 53, op := .bin .add (.v 14) (.c (.int .i64 1)) },
      { dst := .v 14, op := .move (.t 53) }], [], []⟩))))))) (.seq (.region ⟨[
      { dst := .v 4, op := .move (.c (.bool true)) }], [], []⟩) (.ret))))
def vf97 : VFunc := { vs := [0, 1, 2, 4, 5, 6, 8, 11, 12, 13, 14, 15, 52], nparams := 2, rets := [.tmp (.v 4)], body := vb97 }
/- groupcontrol.counter.limits -/
def vb98 : VCode :=
    .seq (.region ⟨[
      { dst := .v 2, op := .move (.c (.map .bool [] [])) }], [], []⟩) (.seq (.region ⟨[
      { dst := .t 6, op := .makeMap (.int .i64) },
      { dst := .v 3, op := .move (.t 6) }], [], []⟩) (.seq (.seq (.region ⟨[
      { dst := .v 7, op := .move (.v 0) },
      { dst := .v 8, op := .len (.v 7) },
      { dst := .v 9, op := .move (.c (.int .i64 0)) }], [], []⟩) (.block 0 (.loop (.seq (.region ⟨[
      { dst := .v 10, op := .bin .lss (.v 9) (.v 8) }], [], []⟩) (.seq (.cond (.v 10) (.skip) (.exit 0)) (.seq (.block 1 (.seq (.region ⟨[
      { dst := .t 11, op := .indexAddr 2 (.v 7) (.v 9) },
      { dst := .t 12, op := .load (some 2) (.t 11) },
      { dst := .v 5, op := .alloc [.c (.int .i64 0), .c (.int .i64 0)] },
      { dst := .none, op := .store 2 (.v 5) (.t 12) }], [], []⟩) (.region ⟨[
      { dst := .t 13, op := .move (.v 3) },
      { dst := .t 14, op := .fieldAddr 0 (.v 5) },
      { dst := .t 15, op := .load none (.t 14) },
      { dst := .t 16, op := .fieldAddr 1 (.v 5) },
      { dst := .t 17, op := .load none (.t 16) },
      { dst := .none, op := .mapUpdate (.int .i64) (.t 13) (.t 15) (.t 17) }], [], []⟩))) (.region ⟨[
      { dst := .t 18, op := .bin .add (.v 9) (.c (.int .i64 1)) },
      { dst := .v 9, op := .move (.t 18) }], [], []⟩))))))) (.seq (.region ⟨[
      { dst := .t 19, op := .move (.v 3) },
      { dst := .v 2, op := .move (.t 19) }], [], []⟩) (.ret))))
def vf98 : VFunc := { vs := [0, 2, 3, 5, 7, 8, 9, 10], nparams := 1, rets := [.tmp (.v 2)], body := vb98 }
/- groupcontrol.forest.Ancestors -/
def vb99 : VCode :=
    .seq (.region ⟨[
      { dst := .v 2, op := .box 2 (.v 0) },
      { dst := .v 4, op := .newArr 1 }], [], []⟩) (.seq (.region ⟨[
      { dst := .v 5, op := .newArr 1 }], [], []⟩) (.seq (.seq (.region ⟨[
      { dst := .t 8, op := .fieldAddr 0 (.v 2) },
      { dst := .t 9, op := .load none (.t 8) },
      { dst := .v 10, op := .len (.t 9) },
      { dst := .v 11, op := .move (.c (.int .i64 0)) }], [], []⟩) (.block 0 (.loop (.seq (.region ⟨[
      { dst := .v 12, op := .bin .lss (.v 11) (.v 10) }], [], []⟩) (.seq (.cond (.v 12) (.skip) (.exit 0)) (.seq (.block 1 (.seq (.region ⟨[
      { dst := .t 14, op := .load (some 2) (.v 2) },
      { dst := .t 15, op := .move (.v 1) },
      { dst := .t 16, op := .call 93 [.t 14, .t 15] },
      { dst := .t 13, op := .move (.t 16) },
      { dst := .t 17, op := .extract (.t 13) 0 },
      { dst := .t 18, op := .extract (.t 13) 1 },
      { dst := .v 6, op := .alloc [.c (.int .i64 0), .c (.int .i64 0), .c (.str ⟨#[]⟩), .c (.int .i64 0), .c (.int .i64 0), .c (.int .i64 0)] },
      { dst := .none, op := .store 6 (.v 6) (.t 17) },
      { dst := .v 7, op := .move (.t 18) }], [], []⟩) (.seq (.seq (.region ⟨[
      { dst := .t 19, op := .move (.v 7) },
      { dst := .v 20, op := .not (.t 19) }], [], []⟩) (.cond (.v 20) (.exit 0) (.skip))) (.seq (.region ⟨[
      { dst := .t 21, op := .move (.v 5) },
      { dst := .t 22, op := .move (.v 1) },
      { dst := .t 23, op := .buildSlice 1 [.t 22] },
      { dst := .t 24, op := .append 1 8 (.t 21) (.t 23) },
      { dst := .v 5, op := .move (.t 24) }], [], []⟩) (.region ⟨[
      { dst := .t 25, op := .fieldAddr 1 (.v 6) },
      { dst := .t 26, op := .load none (.t 25) },
      { dst := .v 1, op := .move (.t 26) }], [], []⟩))))) (.region ⟨[
      { dst := .t 27, op := .bin .add (.v 11) (.c (.int .i64 1)) },
      { dst := .v 11, op := .move (.t 27) }], [], []⟩))))))) (.seq (.region ⟨[
      { dst := .t 28, op := .move (.v 5) },
      { dst := .v 4, op := .move (.t 28) }], [], []⟩) (.ret))))
def vf99 : VFunc := { vs := [0, 1, 2, 4, 5, 6, 7, 10, 11, 12, 20], nparams := 2, rets := [.tmp (.v 4)], body := vb99 }
/- groupcontrol.groupcontrolref32.Issue -/
def vb100 : VCode :=
    .seq (.region ⟨[
      { dst := .v 7, op := .box 2 (.v 0) },
      { dst := .v 14, op := .newArr 2 },
      { dst := .v 15, op := .move (.c (.int .i64 0)) }], [], []⟩) (.seq (.block 0 (.seq (.region ⟨[
      { dst := .t 21, op := .load (some 2) (.v 7) },
      { dst := .t 22, op := .move (.v 1) },
      { dst := .t 23, op := .call 123 [.t 21, .t 22] },
      { dst := .t 24, op := .not (.t 23) },
      { dst := .v 20, op := .move (.t 24) }], [], []⟩) (.cond (.v 20) (.seq (.region ⟨[
      { dst := .v 14, op := .newArr 2 },
      { dst := .v 15, op := .move (.c (.int .i64 1)) }], [], []⟩) (.ret)) (.seq (.region ⟨[
      { dst := .t 26, op := .load (some 2) (.v 7) },
      { dst := .t 27, op := .move (.v 2) },
      { dst := .t 28, op := .call 76 [.t 26, .t 27] },
      { dst := .t 29, op := .not (.t 28) },
      { dst := .v 25, op := .move (.t 29) }], [], []⟩) (.cond (.v 25) (.seq (.region ⟨[
      { dst := .v 14, op := .newArr 2 },
      { dst := .v 15, op := .move (.c (.int .i64 4)) }], [], []⟩) (.ret)) (.seq (.region ⟨[
      { dst := .t 31, op := .move (.v 3) },
      { dst := .t 32, op := .bin .lss (.t 31) (.c (.int .i64 1)) },
      { dst := .t 33, op := .move (.t 32) },
      { dst := .t 34, op := .move (.v 3), guard := some (.t 33, false) },
      { dst := .t 35, op := .bin .gtr (.t 34) (.c (.int .i64 1073741824)), guard := some (.t 33, false) },
      { dst := .t 36, op := .pick (.t 33) (.c (.bool true)) (.t 35) },
      { dst := .t 37, op := .move (.t 36) },
      { dst := .t 38, op := .move (.v 4), guard := some (.t 37, false) },
      { dst := .t 39, op := .bin .lss (.t 38) (.c (.int .i64 1)), guard := some (.t 37, false) },
      { dst := .t 40, op := .pick (.t 37) (.c (.bool true)) (.t 39) },
      { dst := .t 41, op := .move (.t 40) },
      { dst := .t 42, op := .move (.v 4), guard := some (.t 41, false) },
      { dst := .t 43, op := .bin .gtr (.t 42) (.c (.int .i64 4294967296)), guard := some (.t 41, false) },
      { dst := .t 44, op := .pick (.t 41) (.c (.bool true)) (.t 43) },
      { dst := .t 45, op := .move (.t 44) },
      { dst := .t 46, op := .move (.v 5), guard := some (.t 45, false) },
      { dst := .t 47, op := .bin .lss (.t 46) (.c (.int .i64 0)), guard := some (.t 45, false) },
      { dst := .t 48, op := .pick (.t 45) (.c (.bool true)) (.t 47) },
      { dst := .t 49, op := .move (.t 48) },
      { dst := .t 50, op := .move (.v 5), guard := some (.t 49, false) },
      { dst := .t 51, op := .bin .gtr (.t 50) (.c (.int .i64 576460752303423488)), guard := some (.t 49, false) },
      { dst := .t 52, op := .pick (.t 49) (.c (.bool true)) (.t 51) },
      { dst := .t 53, op := .move (.t 52) },
      { dst := .t 54, op := .move (.v 6), guard := some (.t 53, false) },
      { dst := .t 55, op := .bin .lss (.t 54) (.c (.int .i64 0)), guard := some (.t 53, false) },
      { dst := .t 56, op := .pick (.t 53) (.c (.bool true)) (.t 55) },
      { dst := .t 57, op := .move (.t 56) },
      { dst := .t 58, op := .move (.v 6), guard := some (.t 57, false) },
      { dst := .t 59, op := .bin .gtr (.t 58) (.c (.int .i64 1073741824)), guard := some (.t 57, false) },
      { dst := .t 60, op := .pick (.t 57) (.c (.bool true)) (.t 59) },
      { dst := .v 30, op := .move (.t 60) }], [], []⟩) (.cond (.v 30) (.seq (.region ⟨[
      { dst := .v 14, op := .newArr 2 },
      { dst := .v 15, op := .move (.c (.int .i64 3)) }], [], []⟩) (.ret)) (.seq (.region ⟨[
      { dst := .t 62, op := .load (some 2) (.v 7) },
      { dst := .t 63, op := .move (.v 1) },
      { dst := .t 64, op := .move (.v 2) },
      { dst := .t 65, op := .move (.v 5) },
      { dst := .t 66, op := .call 124 [.t 62, .t 63, .t 64, .t 65] },
      { dst := .t 67, op := .not (.t 66) },
      { dst := .v 61, op := .move (.t 67) }], [], []⟩) (.cond (.v 61) (.seq (.region ⟨[
      { dst := .v 14, op := .newArr 2 },
      { dst := .v 15, op := .move (.c (.int .i64 11)) }], [], []⟩) (.ret)) (.skip)))))))))) (.seq (.region ⟨[
      { dst := .t 68, op := .move (.v 1) },
      { dst := .t 69, op := .move (.v 2) },
      { dst := .t 70, op := .call 125 [.t 68, .t 69] },
      { dst := .t 71, op := .move (.v 5) },
      { dst := .t 72, op := .move (.v 6) },
      { dst := .t 73, op := .bin .sub (.t 71) (.t 72) },
      { dst := .t 74, op := .minmax true [.t 70, .t 73, .c (.int .i64 0)] },
      { dst := .t 75, op := .move (.v 4) },
      { dst := .t 76, op := .bin .mul (.t 75) (.c (.int .i64 1073741824)) },
      { dst := .t 77, op := .move (.v 3) },
      { dst := .t 78, op := .bin .add (.t 76) (.t 77) },
      { dst := .t 79, op := .bin .sub (.t 78) (.c (.int .i64 1)) },
      { dst := .t 80, op := .move (.v 3) },
      { dst := .t 81, op := .bin .quo (.t 79) (.t 80) },
      { dst := .t 82, op := .bin .add (.t 74) (.t 81) },
      { dst := .v 16, op := .move (.t 82) }], [], []⟩) (.seq (.seq (.region ⟨[
      { dst := .t 83, op := .move (.v 16) },
      { dst := .v 84, op := .bin .gtr (.t 83) (.c (.int .i64 1152921504606846976)) }], [], []⟩) (.cond (.v 84) (.seq (.region ⟨[
      { dst := .v 14, op := .newArr 2 },
      { dst := .v 15, op := .move (.c (.int .i64 7)) }], [], []⟩) (.ret)) (.skip))) (.seq (.region ⟨[
      { dst := .v 17, op := .newArr 2 }], [], []⟩) (.seq (.region ⟨[
      { dst := .v 18, op := .move (.c (.bool false)) }], [], []⟩) (.seq (.seq (.region ⟨[
      { dst := .v 19, op := .move (.c (.int .i64 0)) }], [], []⟩) (.block 1 (.loop (.seq (.seq (.region ⟨[
      { dst := .t 85, op := .move (.v 19) },
      { dst := .t 86, op := .move (.v 1) },
      { dst := .t 87, op := .len (.t 86) },
      { dst := .v 88, op := .bin .lss (.t 85) (.t 87) }], [], []⟩) (.cond (.v 88) (.skip) (.exit 1))) (.seq (.block 2 (.seq (.seq (.region ⟨[
      { dst := .t 91, op := .move (.v 18) },
      { dst := .t 92, op := .not (.t 91) },
      { dst := .t 93, op := .move (.t 92) },
      { dst := .t 94, op := .move (.v 1), guard := some (.t 93, true) },
      { dst := .t 95, op := .move (.v 19), guard := some (.t 93, true) },
      { dst := .t 96, op := .indexAddr 2 (.t 94) (.t 95), guard := some (.t 93, true) },
      { dst := .t 97, op := .fieldAddr 0 (.t 96), guard := some (.t 93, true) },
      { dst := .t 98, op := .load none (.t 97), guard := some (.t 93, true) },
      { dst := .t 99, op := .move (.v 2), guard := some (.t 93, true) },
      { dst := .t 100, op := .bin .geq (.t 98) (.t 99), guard := some (.t 93, true) },
      { dst := .v 101, op := .pick (.t 93) (.t 100) (.c (.bool false)) }], [], []⟩) (.cond (.v 101) (.region ⟨[
      { dst := .t 102, op := .move (.v 17) },
      { dst := .t 103, op := .move (.v 2) },
      { dst := .t 104, op := .move (.v 16) },
      { dst := .t 105, op := .build [.a (.t 103) 0 1, .a (.t 104) 0 1] },
      { dst := .t 106, op := .buildSlice 2 [.t 105] },
      { dst := .t 107, op := .append 2 16 (.t 102) (.t 106) },
      { dst := .v 17, op := .move (.t 107) },
      { dst := .v 18, op := .move (.c (.bool true)) }], [], []⟩) (.skip))) (.seq (.region ⟨[
      { dst := .t 108, op := .move (.v 1) },
      { dst := .t 109, op := .move (.v 19) },
      { dst := .t 110, op := .indexAddr 2 (.t 108) (.t 109) },
      { dst := .t 111, op := .fieldAddr 0 (.t 110) },
      { dst := .t 112, op := .load none (.t 111) },
      { dst := .t 113, op := .move (.v 2) },
      { dst := .v 114, op := .bin .neq (.t 112) (.t 113) }], [], []⟩) (.cond (.v 114) (.region ⟨[
      { dst := .t 115, op := .move (.v 17) },
      { dst := .t 116, op := .move (.v 1) },
      { dst := .t 117, op := .move (.v 19) },
      { dst := .t 118, op := .indexAddr 2 (.t 116) (.t 117) },
      { dst := .t 119, op := .load (some 2) (.t 118) },
      { dst := .t 120, op := .buildSlice 2 [.t 119] },
      { dst := .t 121, op := .append 2 16 (.t 115) (.t 120) },
      { dst := .v 17, op := .move (.t 121) }], [], []⟩) (.skip))))) (.region ⟨[
      { dst := .t 89, op := .move (.v 19) },
      { dst := .t 90, op := .bin .add (.t 89) (.c (.int .i64 1)) },
      { dst := .v 19, op := .move (.t 90) }], [], []⟩)))))) (.seq (.seq (.region ⟨[
      { dst := .t 122, op := .move (.v 18) },
      { dst := .v 123, op := .not (.t 122) }], [], []⟩) (.cond (.v 123) (.region ⟨[
      { dst := .t 124, op := .move (.v 17) },
      { dst := .t 125, op := .move (.v 2) },
      { dst := .t 126, op := .move (.v 16) },
      { dst := .t 127, op := .build [.a (.t 125) 0 1, .a (.t 126) 0 1] },
      { dst := .t 128, op := .buildSlice 2 [.t 127] },
      { dst := .t 129, op := .append 2 16 (.t 124) (.t 128) },
      { dst := .v 17, op := .move (.t 129) }], [], []⟩) (.skip))) (.seq (.region ⟨[
      { dst := .t 130, op := .move (.v 17) },
      { dst := .v 14, op := .move (.t 130) },
      { dst := .v 15, op := .move (.c (.int .i64 0)) }], [], []⟩) (.ret)))))))))
def vf100 : VFunc := { vs := [0, 1, 2, 3, 4, 5, 6, 7, 14, 15, 16, 17, 18, 19, 20, 25, 30, 61, 84, 88, 101, 114, 123], nparams := 7, rets := [.tmp (.v 14), .tmp (.v 15)], body := vb100 }
/- groupcontrol.groupcontrolref22.Valid -/
def vb102 : VCode :=
    .seq (.region ⟨[
      { dst := .v 2, op := .box 2 (.v 0) },
      { dst := .v 3, op := .box 1 (.v 1) },
      { dst := .v 4, op := .move (.c (.bool false)) }], [], []⟩) (.seq (.seq (.region ⟨[
      { dst := .t 7, op := .load (some 2) (.v 2) },
      { dst := .t 8, op := .call 79 [.t 7] },
      { dst := .t 9, op := .not (.t 8) },
      { dst := .t 10, op := .move (.t 9) },
      { dst := .t 11, op := .load (some 2) (.v 2), guard := some (.t 10, false) },
      { dst := .t 12, op := .fieldAddr 0 (.v 3), guard := some (.t 10, false) },
      { dst := .t 13, op := .load none (.t 12), guard := some (.t 10, false) },
      { dst := .t 14, op := .call 126 [.t 11, .t 13, .c (.int .i64 1)], guard := some (.t 10, false) },
      { dst := .t 15, op := .not (.t 14), guard := some (.t 10, false) },
      { dst := .v 16, op := .pick (.t 10) (.c (.bool true)) (.t 15) }], [], []⟩) (.cond (.v 16) (.seq (.region ⟨[
      { dst := .v 4, op := .move (.c (.bool false)) }], [], []⟩) (.ret)) (.skip))) (.seq (.region ⟨[
      { dst := .v 5, op := .move (.c (.int .i64 0)) }], [], []⟩) (.seq (.seq (.region ⟨[
      { dst := .v 6, op := .move (.c (.int .i64 0)) }], [], []⟩) (.block 0 (.loop (.seq (.seq (.region ⟨[
      { dst := .t 17, op := .move (.v 6) },
      { dst := .t 18, op := .fieldAddr 0 (.v 3) },
      { dst := .t 19, op := .load none (.t 18) },
      { dst := .t 20, op := .len (.t 19) },
      { dst := .v 21, op := .bin .lss (.t 17) (.t 20) }], [], []⟩) (.cond (.v 21) (.skip) (.exit 0))) (.seq (.block 1 (.region ⟨[
      { dst := .t 24, op := .move (.v 5) },
      { dst := .t 25, op := .fieldAddr 0 (.v 3) },
      { dst := .t 26, op := .load none (.t 25) },
      { dst := .t 27, op := .move (.v 6) },
      { dst := .t 28, op := .indexAddr 2 (.t 26) (.t 27) },
      { dst := .t 29, op := .fieldAddr 1 (.t 28) },
      { dst := .t 30, op := .load none (.t 29) },
      { dst := .t 31, op := .bin .add (.t 24) (.t 30) },
      { dst := .v 5, op := .move (.t 31) }], [], []⟩)) (.region ⟨[
      { dst := .t 22, op := .move (.v 6) },
      { dst := .t 23, op := .bin .add (.t 22) (.c (.int .i64 1)) },
      { dst := .v 6, op := .move (.t 23) }], [], []⟩)))))) (.seq (.region ⟨[
      { dst := .t 32, op := .move (.v 5) },
      { dst := .t 33, op := .bin .leq (.t 32) (.c (.int .i64 16777216)) },
      { dst := .v 4, op := .move (.t 33) }], [], []⟩) (.ret)))))
def vf102 : VFunc := { vs := [0, 1, 2, 3, 4, 5, 6, 16, 21], nparams := 2, rets := [.tmp (.v 4)], body := vb102 }
/- groupcontrol.groupcontrolref22.Own -/
def vb104 : VCode :=
    .seq (.region ⟨[
      { dst := .v 2, op := .box 1 (.v 0) },
      { dst := .v 4, op := .move (.c (.int .i64 0)) }], [], []⟩) (.seq (.seq (.region ⟨[
      { dst := .v 5, op := .move (.c (.int .i64 0)) }], [], []⟩) (.block 0 (.loop (.seq (.seq (.region ⟨[
      { dst := .t 6, op := .move (.v 5) },
      { dst := .t 7, op := .fieldAddr 0 (.v 2) },
      { dst := .t 8, op := .load none (.t 7) },
      { dst := .t 9, op := .len (.t 8) },
      { dst := .v 10, op := .bin .lss (.t 6) (.t 9) }], [], []⟩) (.cond (.v 10) (.skip) (.exit 0))) (.seq (.block 1 (.seq (.region ⟨[
      { dst := .t 13, op := .fieldAddr 0 (.v 2) },
      { dst := .t 14, op := .load none (.t 13) },
      { dst := .t 15, op := .move (.v 5) },
      { dst := .t 16, op := .indexAddr 2 (.t 14) (.t 15) },
      { dst := .t 17, op := .fieldAddr 0 (.t 16) },
      { dst := .t 18, op := .load none (.t 17) },
      { dst := .t 19, op := .move (.v 1) },
      { dst := .v 20, op := .bin .eql (.t 18) (.t 19) }], [], []⟩) (.cond (.v 20) (.seq (.region ⟨[
      { dst := .t 21, op := .fieldAddr 0 (.v 2) },
      { dst := .t 22, op := .load none (.t 21) },
      { dst := .t 23, op := .move (.v 5) },
      { dst := .t 24, op := .indexAddr 2 (.t 22) (.t 23) },
      { dst := .t 25, op := .fieldAddr 1 (.t 24) },
      { dst := .t 26, op := .load none (.t 25) },
      { dst := .v 4, op := .move (.t 26) }], [], []⟩) (.ret)) (.skip)))) (.region ⟨[
      { dst := .t 11, op := .move (.v 5) },
      { dst := .t 12, op := .bin .add (.t 11) (.c (.int .i64 1)) },
      { dst := .v 5, op := .move (.t 12) }], [], []⟩)))))) (.seq (.region ⟨[
      { dst := .v 4, op := .move (.c (.int .i64 0)) }], [], []⟩) (.ret)))
def vf104 : VFunc := { vs := [0, 1, 2, 4, 5, 10, 20], nparams := 2, rets := [.tmp (.v 4)], body := vb104 }
/- groupcontrol.groupcontrolref1.Valid -/
def vb110 : VCode :=
    .seq (.region ⟨[
      { dst := .v 2, op := .move (.c (.bool false)) }], [], []⟩) (.seq (.seq (.region ⟨[
      { dst := .t 5, op := .move (.v 0) },
      { dst := .t 6, op := .lenStr (.t 5) },
      { dst := .t 7, op := .bin .eql (.t 6) (.c (.int .i64 0)) },
      { dst := .t 8, op := .move (.t 7) },
      { dst := .t 9, op := .move (.v 0), guard := some (.t 8, false) },
      { dst := .t 10, op := .lenStr (.t 9), guard := some (.t 8, false) },
      { dst := .t 11, op := .bin .gtr (.t 10) (.c (.int .i64 32)), guard := some (.t 8, false) },
      { dst := .t 12, op := .pick (.t 8) (.c (.bool true)) (.t 11) },
      { dst := .t 13, op := .move (.t 12) },
      { dst := .t 14, op := .move (.v 0), guard := some (.t 13, false) },
      { dst := .t 15, op := .indexStr (.t 14) (.c (.int .i64 0)), guard := some (.t 13, false) },
      { dst := .t 16, op := .bin .eql (.t 15) (.c (.int .u8 45)), guard := some (.t 13, false) },
      { dst := .v 17, op := .pick (.t 13) (.c (.bool true)) (.t 16) }], [], []⟩) (.cond (.v 17) (.seq (.region ⟨[
      { dst := .v 2, op := .move (.c (.bool false)) }], [], []⟩) (.ret)) (.skip))) (.seq (.seq (.region ⟨[
      { dst := .v 3, op := .move (.c (.int .i64 0)) }], [], []⟩) (.block 0 (.loop (.seq (.seq (.region ⟨[
      { dst := .t 18, op := .move (.v 3) },
      { dst := .t 19, op := .move (.v 0) },
      { dst := .t 20, op := .lenStr (.t 19) },
      { dst := .v 21, op := .bin .lss (.t 18) (.t 20) }], [], []⟩) (.cond (.v 21) (.skip) (.exit 0))) (.seq (.block 1 (.seq (.region ⟨[
      { dst := .t 24, op := .move (.v 0) },
      { dst := .t 25, op := .move (.v 3) },
      { dst := .t 26, op := .indexStr (.t 24) (.t 25) },
      { dst := .v 4, op := .move (.t 26) }], [], []⟩) (.seq (.region ⟨[
      { dst := .t 27, op := .move (.v 4) },
      { dst := .t 28, op := .bin .geq (.t 27) (.c (.int .u8 97)) },
      { dst := .t 29, op := .move (.t 28) },
      { dst := .t 30, op := .move (.v 4), guard := some (.t 29, true) },
      { dst := .t 31, op := .bin .leq (.t 30) (.c (.int .u8 122)), guard := some (.t 29, true) },
      { dst := .t 32, op := .pick (.t 29) (.t 31) (.c (.bool false)) },
      { dst := .t 33, op := .move (.t 32) },
      { dst := .t 34, op := .move (.v 4), guard := some (.t 33, false) },
      { dst := .t 35, op := .bin .geq (.t 34) (.c (.int .u8 65)), guard := some (.t 33, false) },
      { dst := .t 36, op := .move (.t 35), guard := some (.t 33, false) },
      { dst := .t 37, op := .move (.v 4), guard := some (.t 36, true) },
      { dst := .t 38, op := .bin .leq (.t 37) (.c (.int .u8 90)), guard := some (.t 36, true) },
      { dst := .t 39, op := .pick (.t 36) (.t 38) (.c (.bool false)), guard := some (.t 33, false) },
      { dst := .t 40, op := .pick (.t 33) (.c (.bool true)) (.t 39) },
      { dst := .t 41, op := .move (.t 40) },
      { dst := .t 42, op := .move (.v 4), guard := some (.t 41, false) },
      { dst := .t 43, op := .bin .geq (.t 42) (.c (.int .u8 48)), guard := some (.t 41, false) },
      { dst := .t 44, op := .move (.t 43), guard := some (.t 41, false) },
      { dst := .t 45, op := .move (.v 4), guard := some (.t 44, true) },
      { dst := .t 46, op := .bin .leq (.t 45) (.c (.int .u8 57)), guard := some (.t 44, true) },
      { dst := .t 47, op := .pick (.t 44) (.t 46) (.c (.bool false)), guard := some (.t 41, false) },
      { dst := .t 48, op := .pick (.t 41) (.c (.bool true)) (.t 47) },
      { dst := .t 49, op := .move (.t 48) },
      { dst := .t 50, op := .move (.v 4), guard := some (.t 49, false) },
      { dst := .t 51, op := .bin .eql (.t 50) (.c (.int .u8 95)), guard := some (.t 49, false) },
      { dst := .t 52, op := .pick (.t 49) (.c (.bool true)) (.t 51) },
      { dst := .t 53, op := .move (.t 52) },
      { dst := .t 54, op := .move (.v 4), guard := some (.t 53, false) },
      { dst := .t 55, op := .bin .eql (.t 54) (.c (.int .u8 45)), guard := some (.t 53, false) },
      { dst := .t 56, op := .pick (.t 53) (.c (.bool true)) (.t 55) },
      { dst := .v 57, op := .not (.t 56) }], [], []⟩) (.cond (.v 57) (.seq (.region ⟨[
      { dst := .v 2, op := .move (.c (.bool false)) }], [], []⟩) (.ret)) (.skip))))) (.region ⟨[
      { dst := .t 22, op := .move (.v 3) },
      { dst := .t 23, op := .bin .add (.t 22) (.c (.int .i64 1)) },
      { dst := .v 3, op := .move (.t 23) }], [], []⟩)))))) (.seq (.region ⟨[
      { dst := .v 2, op := .move (.c (.bool true)) }], [], []⟩) (.ret))))
def vf110 : VFunc := { vs := [0, 2, 3, 4, 17, 21, 57], nparams := 1, rets := [.tmp (.v 2)], body := vb110 }
/- groupcontrol.groupcontrolref5.Depth -/
def vb111 : VCode :=
    .seq (.region ⟨[
      { dst := .v 2, op := .box 2 (.v 0) },
      { dst := .v 4, op := .move (.c (.int .i64 0)) }], [], []⟩) (.seq (.region ⟨[
      { dst := .t 5, op := .load (some 2) (.v 2) },
      { dst := .t 6, op := .move (.v 1) },
      { dst := .t 7, op := .call 31 [.t 5, .t 6] },
      { dst := .t 8, op := .len (.t 7) },
      { dst := .t 9, op := .bin .sub (.t 8) (.c (.int .i64 1)) },
      { dst := .v 4, op := .move (.t 9) }], [], []⟩) (.ret))
def vf111 : VFunc := { vs := [0, 1, 2, 4], nparams := 2, rets := [.tmp (.v 4)], body := vb111 }
/- groupcontrol.groupcontrolref5.Copy -/
def vb112 : VCode :=
    .seq (.region ⟨[
      { dst := .v 1, op := .box 2 (.v 0) },
      { dst := .v 2, op := .alloc [.nil 6, .c (.int .i64 0)] }], [], []⟩) (.seq (.region ⟨[
      { dst := .t 3, op := .fieldAddr 0 (.v 1) },
      { dst := .t 4, op := .load none (.t 3) },
      { dst := .t 5, op := .appendNil 6 56 (.t 4) },
      { dst := .t 6, op := .fieldAddr 1 (.v 1) },
      { dst := .t 7, op := .load none (.t 6) },
      { dst := .t 8, op := .build [.a (.t 5) 0 1, .a (.t 7) 0 1] },
      { dst := .none, op := .store 2 (.v 2) (.t 8) }], [], [(2, 4)]⟩) (.ret))
def vf112 : VFunc := { vs := [0, 1, 2], nparams := 1, rets := [.cell (.v 2) (some 2)], body := vb112 }
/- slices.IndexFunc[[]groupcontrol.api.Node,groupcontrol.api.Node] -/
def vb113 : VCode :=
    .seq (.region ⟨[
      { dst := .v 4, op := .move (.c (.int .i64 0)) }], [], []⟩) (.seq (.seq (.region ⟨[
      { dst := .t 6, op := .move (.v 0) },
      { dst := .v 7, op := .len (.t 6) },
      { dst := .v 8, op := .move (.c (.int .i64 0)) }], [], []⟩) (.block 0 (.loop (.seq (.region ⟨[
      { dst := .v 9, op := .bin .lss (.v 8) (.v 7) }], [], []⟩) (.seq (.cond (.v 9) (.skip) (.exit 0)) (.seq (.block 1 (.seq (.region ⟨[
      { dst := .t 10, op := .move (.v 8) },
      { dst := .v 5, op := .move (.t 10) }], [], []⟩) (.seq (.region ⟨[
      { dst := .t 11, op := .move (.v 1) },
      { dst := .t 12, op := .move (.v 0) },
      { dst := .t 13, op := .move (.v 5) },
      { dst := .t 14, op := .indexAddr 6 (.t 12) (.t 13) },
      { dst := .t 15, op := .load (some 6) (.t 14) },
      { dst := .v 16, op := .callv (.t 11) [.t 15] }], [], []⟩) (.cond (.v 16) (.seq (.region ⟨[
      { dst := .t 17, op := .move (.v 5) },
      { dst := .v 4, op := .move (.t 17) }], [], []⟩) (.ret)) (.skip))))) (.region ⟨[
      { dst := .t 18, op := .bin .add (.v 8) (.c (.int .i64 1)) },
      { dst := .v 8, op := .move (.t 18) }], [], []⟩))))))) (.seq (.region ⟨[
      { dst := .v 4, op := .move (.c (.int .i64 (-1))) }], [], []⟩) (.ret)))
def vf113 : VFunc := { vs := [0, 1, 4, 5, 7, 8, 9, 16], nparams := 2, rets := [.tmp (.v 4)], body := vb113 }
/- groupcontrol.forest.At$1 -/
def vb114 : VCode :=
    .seq (.region ⟨[
      { dst := .v 2, op := .box 6 (.v 0) },
      { dst := .v 3, op := .move (.c (.bool false)) }], [], []⟩) (.seq (.region ⟨[
      { dst := .t 4, op := .fieldAddr 0 (.v 2) },
      { dst := .t 5, op := .load none (.t 4) },
      { dst := .t 6, op := .load none (.v 1) },
      { dst := .t 7, op := .bin .eql (.t 5) (.t 6) },
      { dst := .v 3, op := .move (.t 7) }], [], []⟩) (.ret))
def vf114 : VFunc := { vs := [0, 1, 2, 3], nparams := 2, rets := [.tmp (.v 3)], body := vb114 }
/- groupcontrol.groupcontrolref5.Find -/
def vb115 : VCode :=
    .seq (.region ⟨[
      { dst := .v 2, op := .box 2 (.v 0) },
      { dst := .v 4, op := .alloc [.c (.int .i64 0), .c (.int .i64 0), .c (.str ⟨#[]⟩), .c (.int .i64 0), .c (.int .i64 0), .c (.int .i64 0)] },
      { dst := .v 5, op := .move (.c (.bool false)) }], [], []⟩) (.seq (.seq (.region ⟨[
      { dst := .t 7, op := .load (some 2) (.v 2) },
      { dst := .t 8, op := .call 79 [.t 7] },
      { dst := .v 9, op := .not (.t 8) }], [], []⟩) (.cond (.v 9) (.seq (.region ⟨[
      { dst := .t 10, op := .build [.z (.c (.int .i64 0)), .z (.c (.int .i64 0)), .z (.c (.str ⟨#[]⟩)), .z (.c (.int .i64 0)), .z (.c (.int .i64 0)), .z (.c (.int .i64 0))] },
      { dst := .none, op := .store 6 (.v 4) (.t 10) },
      { dst := .v 5, op := .move (.c (.bool false)) }], [], []⟩) (.ret)) (.skip))) (.seq (.seq (.region ⟨[
      { dst := .v 6, op := .move (.c (.int .i64 0)) }], [], []⟩) (.block 0 (.loop (.seq (.seq (.region ⟨[
      { dst := .t 11, op := .move (.v 6) },
      { dst := .t 12, op := .fieldAddr 0 (.v 2) },
      { dst := .t 13, op := .load none (.t 12) },
      { dst := .t 14, op := .len (.t 13) },
      { dst := .v 15, op := .bin .lss (.t 11) (.t 14) }], [], []⟩) (.cond (.v 15) (.skip) (.exit 0))) (.seq (.block 1 (.seq (.region ⟨[
      { dst := .t 18, op := .fieldAddr 0 (.v 2) },
      { dst := .t 19, op := .load none (.t 18) },
      { dst := .t 20, op := .move (.v 6) },
      { dst := .t 21, op := .indexAddr 6 (.t 19) (.t 20) },
      { dst := .t 22, op := .fieldAddr 0 (.t 21) },
      { dst := .t 23, op := .load none (.t 22) },
      { dst := .t 24, op := .move (.v 1) },
      { dst := .v 25, op := .bin .eql (.t 23) (.t 24) }], [], []⟩) (.cond (.v 25) (.seq (.region ⟨[
      { dst := .t 26, op := .fieldAddr 0 (.v 2) },
      { dst := .t 27, op := .load none (.t 26) },
      { dst := .t 28, op := .move (.v 6) },
      { dst := .t 29, op := .indexAddr 6 (.t 27) (.t 28) },
      { dst := .t 30, op := .load (some 6) (.t 29) },
      { dst := .none, op := .store 6 (.v 4) (.t 30) },
      { dst := .v 5, op := .move (.c (.bool true)) }], [], []⟩) (.ret)) (.skip)))) (.region ⟨[
      { dst := .t 16, op := .move (.v 6) },
      { dst := .t 17, op := .bin .add (.t 16) (.c (.int .i64 1)) },
      { dst := .v 6, op := .move (.t 17) }], [], []⟩)))))) (.seq (.region ⟨[
      { dst := .t 31, op := .build [.z (.c (.int .i64 0)), .z (.c (.int .i64 0)), .z (.c (.str ⟨#[]⟩)), .z (.c (.int .i64 0)), .z (.c (.int .i64 0)), .z (.c (.int .i64 0))] },
      { dst := .none, op := .store 6 (.v 4) (.t 31) },
      { dst := .v 5, op := .move (.c (.bool false)) }], [], []⟩) (.ret))))
def vf115 : VFunc := { vs := [0, 1, 2, 4, 5, 6, 9, 15, 25], nparams := 2, rets := [.cell (.v 4) (some 6), .tmp (.v 5)], body := vb115 }
/- groupcontrol.tree.root -/
def vb116 : VCode :=
    .seq (.region ⟨[
      { dst := .v 1, op := .box 6 (.v 0) },
      { dst := .v 2, op := .move (.c (.bool false)) }], [], []⟩) (.seq (.region ⟨[
      { dst := .t 3, op := .fieldAddr 0 (.v 1) },
      { dst := .t 4, op := .load none (.t 3) },
      { dst := .t 5, op := .bin .eql (.t 4) (.c (.int .i64 1)) },
      { dst := .t 6, op := .move (.t 5) },
      { dst := .t 7, op := .fieldAddr 1 (.v 1), guard := some (.t 6, true) },
      { dst := .t 8, op := .load none (.t 7), guard := some (.t 6, true) },
      { dst := .t 9, op := .bin .eql (.t 8) (.c (.int .i64 0)), guard := some (.t 6, true) },
      { dst := .t 10, op := .pick (.t 6) (.t 9) (.c (.bool false)) },
      { dst := .t 11, op := .move (.t 10) },
      { dst := .t 12, op := .fieldAddr 2 (.v 1), guard := some (.t 11, true) },
      { dst := .t 13, op := .load none (.t 12), guard := some (.t 11, true) },
      { dst := .t 14, op := .bin .eql (.t 13) (.c (.str ⟨#[]⟩)), guard := some (.t 11, true) },
      { dst := .t 15, op := .pick (.t 11) (.t 14) (.c (.bool false)) },
      { dst := .t 16, op := .move (.t 15) },
      { dst := .t 17, op := .fieldAddr 4 (.v 1), guard := some (.t 16, true) },
      { dst := .t 18, op := .load none (.t 17), guard := some (.t 16, true) },
      { dst := .t 19, op := .bin .eql (.t 18) (.c (.int .i64 0)), guard := some (.t 16, true) },
      { dst := .t 20, op := .pick (.t 16) (.t 19) (.c (.bool false)) },
      { dst := .v 2, op := .move (.t 20) }], [], []⟩) (.ret))
def vf116 : VFunc := { vs := [0, 1, 2], nparams := 1, rets := [.tmp (.v 2)], body := vb116 }
/- groupcontrol.tree.fine -/
def vb117 : VCode :=
    .seq (.region ⟨[
      { dst := .v 3, op := .box 6 (.v 1) },
      { dst := .v 4, op := .move (.c (.bool false)) }], [], []⟩) (.seq (.seq (.region ⟨[
      { dst := .t 8, op := .fieldAddr 0 (.v 3) },
      { dst := .t 9, op := .load none (.t 8) },
      { dst := .t 10, op := .move (.v 0) },
      { dst := .t 11, op := .move (.v 0) },
      { dst := .t 12, op := .len (.t 11) },
      { dst := .t 13, op := .bin .sub (.t 12) (.c (.int .i64 1)) },
      { dst := .t 14, op := .indexAddr 6 (.t 10) (.t 13) },
      { dst := .t 15, op := .fieldAddr 0 (.t 14) },
      { dst := .t 16, op := .load none (.t 15) },
      { dst := .t 17, op := .bin .leq (.t 9) (.t 16) },
      { dst := .t 18, op := .move (.t 17) },
      { dst := .t 19, op := .fieldAddr 2 (.v 3), guard := some (.t 18, false) },
      { dst := .t 20, op := .load none (.t 19), guard := some (.t 18, false) },
      { dst := .t 21, op := .call 128 [.t 20], guard := some (.t 18, false) },
      { dst := .t 22, op := .not (.t 21), guard := some (.t 18, false) },
      { dst := .t 23, op := .pick (.t 18) (.c (.bool true)) (.t 22) },
      { dst := .t 24, op := .move (.t 23) },
      { dst := .t 25, op := .fieldAddr 4 (.v 3), guard := some (.t 24, false) },
      { dst := .t 26, op := .load none (.t 25), guard := some (.t 24, false) },
      { dst := .t 27, op := .bin .neq (.t 26) (.c (.int .i64 0)), guard := some (.t 24, false) },
      { dst := .t 28, op := .move (.t 27), guard := some (.t 24, false) },
      { dst := .t 29, op := .fieldAddr 4 (.v 3), guard := some (.t 28, true) },
      { dst := .t 30, op := .load none (.t 29), guard := some (.t 28, true) },
      { dst := .t 31, op := .bin .neq (.t 30) (.c (.int .i64 1)), guard := some (.t 28, true) },
      { dst := .t 32, op := .pick (.t 28) (.t 31) (.c (.bool false)), guard := some (.t 24, false) },
      { dst := .v 33, op := .pick (.t 24) (.c (.bool true)) (.t 32) }], [], []⟩) (.cond (.v 33) (.seq (.region ⟨[
      { dst := .v 4, op := .move (.c (.bool false)) }], [], []⟩) (.ret)) (.skip))) (.seq (.region ⟨[
      { dst := .v 5, op := .move (.c (.bool false)) }], [], []⟩) (.seq (.seq (.region ⟨[
      { dst := .v 34, op := .move (.v 0) },
      { dst := .v 35, op := .len (.v 34) },
      { dst := .v 36, op := .move (.c (.int .i64 0)) }], [], []⟩) (.block 0 (.loop (.seq (.region ⟨[
      { dst := .v 37, op := .bin .lss (.v 36) (.v 35) }], [], []⟩) (.seq (.cond (.v 37) (.skip) (.exit 0)) (.seq (.block 1 (.seq (.region ⟨[
      { dst := .t 38, op := .indexAddr 6 (.v 34) (.v 36) },
      { dst := .t 39, op := .load (some 6) (.t 38) },
      { dst := .v 7, op := .alloc [.c (.int .i64 0), .c (.int .i64 0), .c (.str ⟨#[]⟩), .c (.int .i64 0), .c (.int .i64 0), .c (.int .i64 0)] },
      { dst := .none, op := .store 6 (.v 7) (.t 39) }], [], []⟩) (.seq (.region ⟨[
      { dst := .t 40, op := .move (.v 5) },
      { dst := .t 41, op := .move (.t 40) },
      { dst := .t 42, op := .fieldAddr 0 (.v 7), guard := some (.t 41, false) },
      { dst := .t 43, op := .load none (.t 42), guard := some (.t 41, false) },
      { dst := .t 44, op := .fieldAddr 1 (.v 3), guard := some (.t 41, false) },
      { dst := .t 45, op := .load none (.t 44), guard := some (.t 41, false) },
      { dst := .t 46, op := .bin .eql (.t 43) (.t 45), guard := some (.t 41, false) },
      { dst := .t 47, op := .pick (.t 41) (.c (.bool true)) (.t 46) },
      { dst := .v 5, op := .move (.t 47) }], [], []⟩) (.seq (.region ⟨[
      { dst := .t 48, op := .fieldAddr 1 (.v 7) },
      { dst := .t 49, op := .load none (.t 48) },
      { dst := .t 50, op := .fieldAddr 1 (.v 3) },
      { dst := .t 51, op := .load none (.t 50) },
      { dst := .t 52, op := .bin .eql (.t 49) (.t 51) },
      { dst := .t 53, op := .move (.t 52) },
      { dst := .t 54, op := .fieldAddr 2 (.v 7), guard := some (.t 53, true) },
      { dst := .t 55, op := .load none (.t 54), guard := some (.t 53, true) },
      { dst := .t 56, op := .fieldAddr 2 (.v 3), guard := some (.t 53, true) },
      { dst := .t 57, op := .load none (.t 56), guard := some (.t 53, true) },
      { dst := .t 58, op := .bin .eql (.t 55) (.t 57), guard := some (.t 53, true) },
      { dst := .v 59, op := .pick (.t 53) (.t 58) (.c (.bool false)) }], [], []⟩) (.cond (.v 59) (.seq (.region ⟨[
      { dst := .v 4, op := .move (.c (.bool false)) }], [], []⟩) (.ret)) (.skip)))))) (.region ⟨[
      { dst := .t 60, op := .bin .add (.v 36) (.c (.int .i64 1)) },
      { dst := .v 36, op := .move (.t 60) }], [], []⟩))))))) (.seq (.region ⟨[
      { dst := .t 61, op := .move (.v 5) },
      { dst := .v 4, op := .move (.t 61) }], [], []⟩) (.ret)))))
def vf117 : VFunc := { vs := [0, 1, 3, 4, 5, 7, 33, 34, 35, 36, 37, 59], nparams := 2, rets := [.tmp (.v 4)], body := vb117 }
/- groupcontrol.groupcontrolref5.node -/
def vb118 : VCode :=
    .seq (.region ⟨[
      { dst := .v 2, op := .box 2 (.v 0) },
      { dst := .v 4, op := .move (.c (.bool false)) }], [], []⟩) (.seq (.region ⟨[
      { dst := .t 8, op := .fieldAddr 0 (.v 2) },
      { dst := .t 9, op := .load none (.t 8) },
      { dst := .t 10, op := .move (.v 1) },
      { dst := .t 11, op := .indexAddr 6 (.t 9) (.t 10) },
      { dst := .t 12, op := .load (some 6) (.t 11) },
      { dst := .v 5, op := .alloc [.c (.int .i64 0), .c (.int .i64 0), .c (.str ⟨#[]⟩), .c (.int .i64 0), .c (.int .i64 0), .c (.int .i64 0)] },
      { dst := .none, op := .store 6 (.v 5) (.t 12) }], [], []⟩) (.seq (.seq (.region ⟨[
      { dst := .t 13, op := .fieldAddr 4 (.v 5) },
      { dst := .t 14, op := .load none (.t 13) },
      { dst := .t 15, op := .bin .neq (.t 14) (.c (.int .i64 0)) },
      { dst := .t 16, op := .move (.t 15) },
      { dst := .t 17, op := .fieldAddr 4 (.v 5), guard := some (.t 16, true) },
      { dst := .t 18, op := .load none (.t 17), guard := some (.t 16, true) },
      { dst := .t 19, op := .bin .neq (.t 18) (.c (.int .i64 1)), guard := some (.t 16, true) },
      { dst := .t 20, op := .pick (.t 16) (.t 19) (.c (.bool false)) },
      { dst := .t 21, op := .move (.t 20) },
      { dst := .t 22, op := .fieldAddr 3 (.v 5), guard := some (.t 21, false) },
      { dst := .t 23, op := .load none (.t 22), guard := some (.t 21, false) },
      { dst := .t 24, op := .bin .lss (.t 23) (.c (.int .i64 0)), guard := some (.t 21, false) },
      { dst := .t 25, op := .pick (.t 21) (.c (.bool true)) (.t 24) },
      { dst := .t 26, op := .move (.t 25) },
      { dst := .t 27, op := .fieldAddr 3 (.v 5), guard := some (.t 26, false) },
      { dst := .t 28, op := .load none (.t 27), guard := some (.t 26, false) },
      { dst := .t 29, op := .bin .gtr (.t 28) (.c (.int .i64 31)), guard := some (.t 26, false) },
      { dst := .t 30, op := .pick (.t 26) (.c (.bool true)) (.t 29) },
      { dst := .t 31, op := .move (.t 30) },
      { dst := .t 32, op := .fieldAddr 5 (.v 5), guard := some (.t 31, false) },
      { dst := .t 33, op := .load none (.t 32), guard := some (.t 31, false) },
      { dst := .t 34, op := .bin .lss (.t 33) (.c (.int .i64 0)), guard := some (.t 31, false) },
      { dst := .t 35, op := .pick (.t 31) (.c (.bool true)) (.t 34) },
      { dst := .t 36, op := .move (.t 35) },
      { dst := .t 37, op := .fieldAddr 5 (.v 5), guard := some (.t 36, false) },
      { dst := .t 38, op := .load none (.t 37), guard := some (.t 36, false) },
      { dst := .t 39, op := .bin .gtr (.t 38) (.c (.int .i64 1048576)), guard := some (.t 36, false) },
      { dst := .v 40, op := .pick (.t 36) (.c (.bool true)) (.t 39) }], [], []⟩) (.cond (.v 40) (.seq (.region ⟨[
      { dst := .v 4, op := .move (.c (.bool false)) }], [], []⟩) (.ret)) (.skip))) (.seq (.seq (.region ⟨[
      { dst := .t 41, op := .move (.v 1) },
      { dst := .v 42, op := .bin .eql (.t 41) (.c (.int .i64 0)) }], [], []⟩) (.cond (.v 42) (.seq (.region ⟨[
      { dst := .t 43, op := .fieldAddr 0 (.v 5) },
      { dst := .t 44, op := .load none (.t 43) },
      { dst := .t 45, op := .bin .eql (.t 44) (.c (.int .i64 1)) },
      { dst := .t 46, op := .move (.t 45) },
      { dst := .t 47, op := .fieldAddr 1 (.v 5), guard := some (.t 46, true) },
      { dst := .t 48, op := .load none (.t 47), guard := some (.t 46, true) },
      { dst := .t 49, op := .bin .eql (.t 48) (.c (.int .i64 0)), guard := some (.t 46, true) },
      { dst := .t 50, op := .pick (.t 46) (.t 49) (.c (.bool false)) },
      { dst := .t 51, op := .move (.t 50) },
      { dst := .t 52, op := .fieldAddr 2 (.v 5), guard := some (.t 51, true) },
      { dst := .t 53, op := .load none (.t 52), guard := some (.t 51, true) },
      { dst := .t 54, op := .bin .eql (.t 53) (.c (.str ⟨#[]⟩)), guard := some (.t 51, true) },
      { dst := .t 55, op := .pick (.t 51) (.t 54) (.c (.bool false)) },
      { dst := .t 56, op := .move (.t 55) },
      { dst := .t 57, op := .fieldAddr 4 (.v 5), guard := some (.t 56, true) },
      { dst := .t 58, op := .load none (.t 57), guard := some (.t 56, true) },
      { dst := .t 59, op := .bin .eql (.t 58) (.c (.int .i64 0)), guard := some (.t 56, true) },
      { dst := .t 60, op := .pick (.t 56) (.t 59) (.c (.bool false)) },
      { dst := .v 4, op := .move (.t 60) }], [], []⟩) (.ret)) (.skip))) (.seq (.seq (.region ⟨[
      { dst := .t 61, op := .fieldAddr 0 (.v 5) },
      { dst := .t 62, op := .load none (.t 61) },
      { dst := .t 63, op := .fieldAddr 0 (.v 2) },
      { dst := .t 64, op := .load none (.t 63) },
      { dst := .t 65, op := .move (.v 1) },
      { dst := .t 66, op := .bin .sub (.t 65) (.c (.int .i64 1)) },
      { dst := .t 67, op := .indexAddr 6 (.t 64) (.t 66) },
      { dst := .t 68, op := .fieldAddr 0 (.t 67) },
      { dst := .t 69, op := .load none (.t 68) },
      { dst := .t 70, op := .bin .leq (.t 62) (.t 69) },
      { dst := .t 71, op := .move (.t 70) },
      { dst := .t 72, op := .fieldAddr 2 (.v 5), guard := some (.t 71, false) },
      { dst := .t 73, op := .load none (.t 72), guard := some (.t 71, false) },
      { dst := .t 74, op := .call 110 [.t 73], guard := some (.t 71, false) },
      { dst := .t 75, op := .not (.t 74), guard := some (.t 71, false) },
      { dst := .v 76, op := .pick (.t 71) (.c (.bool true)) (.t 75) }], [], []⟩) (.cond (.v 76) (.seq (.region ⟨[
      { dst := .v 4, op := .move (.c (.bool false)) }], [], []⟩) (.ret)) (.skip))) (.seq (.region ⟨[
      { dst := .v 6, op := .move (.c (.bool false)) }], [], []⟩) (.seq (.seq (.region ⟨[
      { dst := .v 7, op := .move (.c (.int .i64 0)) }], [], []⟩) (.block 0 (.loop (.seq (.seq (.region ⟨[
      { dst := .t 77, op := .move (.v 7) },
      { dst := .t 78, op := .move (.v 1) },
      { dst := .v 79, op := .bin .lss (.t 77) (.t 78) }], [], []⟩) (.cond (.v 79) (.skip) (.exit 0))) (.seq (.block 1 (.seq (.region ⟨[
      { dst := .t 82, op := .move (.v 6) },
      { dst := .t 83, op := .move (.t 82) },
      { dst := .t 84, op := .fieldAddr 0 (.v 2), guard := some (.t 83, false) },
      { dst := .t 85, op := .load none (.t 84), guard := some (.t 83, false) },
      { dst := .t 86, op := .move (.v 7), guard := some (.t 83, false) },
      { dst := .t 87, op := .indexAddr 6 (.t 85) (.t 86), guard := some (.t 83, false) },
      { dst := .t 88, op := .fieldAddr 0 (.t 87), guard := some (.t 83, false) },
      { dst := .t 89, op := .load none (.t 88), guard := some (.t 83, false) },
      { dst := .t 90, op := .fieldAddr 1 (.v 5), guard := some (.t 83, false) },
      { dst := .t 91, op := .load none (.t 90), guard := some (.t 83, false) },
      { dst := .t 92, op := .bin .eql (.t 89) (.t 91), guard := some (.t 83, false) },
      { dst := .t 93, op := .pick (.t 83) (.c (.bool true)) (.t 92) },
      { dst := .v 6, op := .move (.t 93) }], [], []⟩) (.seq (.region ⟨[
      { dst := .t 94, op := .fieldAddr 0 (.v 2) },
      { dst := .t 95, op := .load none (.t 94) },
      { dst := .t 96, op := .move (.v 7) },
      { dst := .t 97, op := .indexAddr 6 (.t 95) (.t 96) },
      { dst := .t 98, op := .fieldAddr 1 (.t 97) },
      { dst := .t 99, op := .load none (.t 98) },
      { dst := .t 100, op := .fieldAddr 1 (.v 5) },
      { dst := .t 101, op := .load none (.t 100) },
      { dst := .t 102, op := .bin .eql (.t 99) (.t 101) },
      { dst := .t 103, op := .move (.t 102) },
      { dst := .t 104, op := .fieldAddr 0 (.v 2), guard := some (.t 103, true) },
      { dst := .t 105, op := .load none (.t 104), guard := some (.t 103, true) },
      { dst := .t 106, op := .move (.v 7), guard := some (.t 103, true) },
      { dst := .t 107, op := .indexAddr 6 (.t 105) (.t 106), guard := some (.t 103, true) },
      { dst := .t 108, op := .fieldAddr 2 (.t 107), guard := some (.t 103, true) },
      { dst := .t 109, op := .load none (.t 108), guard := some (.t 103, true) },
      { dst := .t 110, op := .fieldAddr 2 (.v 5), guard := some (.t 103, true) },
      { dst := .t 111, op := .load none (.t 110), guard := some (.t 103, true) },
      { dst := .t 112, op := .bin .eql (.t 109) (.t 111), guard := some (.t 103, true) },
      { dst := .v 113, op := .pick (.t 103) (.t 112) (.c (.bool false)) }], [], []⟩) (.cond (.v 113) (.seq (.region ⟨[
      { dst := .v 4, op := .move (.c (.bool false)) }], [], []⟩) (.ret)) (.skip))))) (.region ⟨[
      { dst := .t 80, op := .move (.v 7) },
      { dst := .t 81, op := .bin .add (.t 80) (.c (.int .i64 1)) },
      { dst := .v 7, op := .move (.t 81) }], [], []⟩)))))) (.seq (.region ⟨[
      { dst := .t 114, op := .move (.v 6) },
      { dst := .v 4, op := .move (.t 114) }], [], []⟩) (.ret))))))))
def vf118 : VFunc := { vs := [0, 1, 2, 4, 5, 6, 7, 40, 42, 76, 79, 113], nparams := 2, rets := [.tmp (.v 4)], body := vb118 }
/- groupcontrol.iofair.shares -/
def vb119 : VCode :=
    .seq (.region ⟨[
      { dst := .v 5, op := .box 2 (.v 0) },
      { dst := .v 10, op := .newArr 2 }], [], []⟩) (.seq (.seq (.region ⟨[
      { dst := .t 17, op := .move (.v 2) },
      { dst := .t 18, op := .move (.v 3) },
      { dst := .t 19, op := .lookup false (.int .i64) (.bool false) (.t 17) (.t 18) },
      { dst := .v 20, op := .not (.t 19) }], [], []⟩) (.cond (.v 20) (.seq (.region ⟨[
      { dst := .v 10, op := .newArr 2 }], [], []⟩) (.ret)) (.skip))) (.seq (.region ⟨[
      { dst := .t 21, op := .move (.v 3) },
      { dst := .t 22, op := .move (.v 4) },
      { dst := .t 23, op := .build [.a (.t 21) 0 1, .a (.t 22) 0 1] },
      { dst := .t 24, op := .buildSlice 2 [.t 23] },
      { dst := .v 11, op := .move (.t 24) }], [], []⟩) (.seq (.region ⟨[
      { dst := .v 12, op := .move (.c (.int .i64 0)) }], [], []⟩) (.seq (.seq (.region ⟨[
      { dst := .t 25, op := .load (some 2) (.v 5) },
      { dst := .t 26, op := .move (.v 3) },
      { dst := .v 27, op := .call 92 [.t 25, .t 26] },
      { dst := .v 28, op := .len (.v 27) },
      { dst := .v 29, op := .move (.c (.int .i64 0)) }], [], []⟩) (.block 0 (.loop (.seq (.region ⟨[
      { dst := .v 30, op := .bin .lss (.v 29) (.v 28) }], [], []⟩) (.seq (.cond (.v 30) (.skip) (.exit 0)) (.seq (.block 1 (.seq (.region ⟨[
      { dst := .t 31, op := .indexAddr 1 (.v 27) (.v 29) },
      { dst := .t 32, op := .load none (.t 31) },
      { dst := .v 14, op := .move (.t 32) }], [], []⟩) (.seq (.region ⟨[
      { dst := .t 33, op := .move (.v 2) },
      { dst := .t 34, op := .move (.v 14) },
      { dst := .v 35, op := .lookup false (.int .i64) (.bool false) (.t 33) (.t 34) }], [], []⟩) (.cond (.v 35) (.region ⟨[
      { dst := .t 36, op := .move (.v 12) },
      { dst := .t 37, op := .move (.v 1) },
      { dst := .t 38, op := .move (.v 14) },
      { dst := .t 39, op := .call 129 [.t 37, .t 38] },
      { dst := .t 40, op := .bin .add (.t 36) (.t 39) },
      { dst := .v 12, op := .move (.t 40) }], [], []⟩) (.skip))))) (.region ⟨[
      { dst := .t 41, op := .bin .add (.v 29) (.c (.int .i64 1)) },
      { dst := .v 29, op := .move (.t 41) }], [], []⟩))))))) (.seq (.seq (.region ⟨[
      { dst := .t 42, op := .load (some 2) (.v 5) },
      { dst := .t 43, op := .move (.v 3) },
      { dst := .v 44, op := .call 92 [.t 42, .t 43] },
      { dst := .v 45, op := .len (.v 44) },
      { dst := .v 46, op := .move (.c (.int .i64 0)) }], [], []⟩) (.block 2 (.loop (.seq (.region ⟨[
      { dst := .v 47, op := .bin .lss (.v 46) (.v 45) }], [66], []⟩) (.seq (.cond (.v 47) (.skip) (.exit 2)) (.seq (.block 3 (.seq (.region ⟨[
      { dst := .t 48, op := .indexAddr 1 (.v 44) (.v 46) },
      { dst := .t 49, op := .load none (.t 48) },
      { dst := .v 16, op := .move (.t 49) }], [], []⟩) (.seq (.region ⟨[
      { dst := .t 50, op := .move (.v 2) },
      { dst := .t 51, op := .move (.v 16) },
      { dst := .v 52, op := .lookup false (.int .i64) (.bool false) (.t 50) (.t 51) }], [], []⟩) (.cond (.v 52) (.region ⟨[
      { dst := .t 53, op := .move (.v 11) },
      { dst := .t 54, op := .load (some 2) (.v 5) },
      { dst := .t 55, op := .move (.v 1) },
      { dst := .t 56, op := .move (.v 2) },
      { dst := .t 57, op := .move (.v 16) },
      { dst := .t 58, op := .move (.v 4) },
      { dst := .t 59, op := .move (.v 1) },
      { dst := .t 60, op := .move (.v 16) },
      { dst := .t 61, op := .call 129 [.t 59, .t 60] },
      { dst := .t 62, op := .bin .mul (.t 58) (.t 61) },
      { dst := .t 63, op := .move (.v 12) },
      { dst := .t 64, op := .bin .quo (.t 62) (.t 63) },
      { dst := .t 65, op := .minmax true [.c (.int .i64 1), .t 64] },
      { dst := .t 66, op := .call 119 [.t 54, .t 55, .t 56, .t 57, .t 65] },
      { dst := .t 67, op := .append 2 16 (.t 53) (.t 66) },
      { dst := .v 11, op := .move (.t 67) }], [], [(1, 8)]⟩) (.skip))))) (.region ⟨[
      { dst := .t 68, op := .bin .add (.v 46) (.c (.int .i64 1)) },
      { dst := .v 46, op := .move (.t 68) }], [], []⟩))))))) (.seq (.region ⟨[
      { dst := .t 69, op := .move (.v 11) },
      { dst := .v 10, op := .move (.t 69) }], [], []⟩) (.ret)))))))
def vf119 : VFunc := { vs := [0, 1, 2, 3, 4, 5, 10, 11, 12, 14, 16, 20, 27, 28, 29, 30, 35, 44, 45, 46, 47, 52], nparams := 5, rets := [.tmp (.v 10)], body := vb119 }
/- groupcontrol.iofair.busy -/
def vb120 : VCode :=
    .seq (.region ⟨[
      { dst := .v 2, op := .box 2 (.v 0) },
      { dst := .v 4, op := .move (.c (.map .bool [] [])) }], [], []⟩) (.seq (.region ⟨[
      { dst := .t 10, op := .makeMap (.int .i64) },
      { dst := .v 5, op := .move (.t 10) }], [], []⟩) (.seq (.seq (.region ⟨[
      { dst := .v 11, op := .move (.v 1) },
      { dst := .v 12, op := .len (.v 11) },
      { dst := .v 13, op := .move (.c (.int .i64 0)) }], [], []⟩) (.block 0 (.loop (.seq (.region ⟨[
      { dst := .v 14, op := .bin .lss (.v 13) (.v 12) }], [19], []⟩) (.seq (.cond (.v 14) (.skip) (.exit 0)) (.seq (.block 1 (.seq (.region ⟨[
      { dst := .t 15, op := .indexAddr 1 (.v 11) (.v 13) },
      { dst := .t 16, op := .load none (.t 15) },
      { dst := .v 7, op := .move (.t 16) }], [], []⟩) (.seq (.region ⟨[
      { dst := .t 17, op := .load (some 2) (.v 2) },
      { dst := .t 18, op := .move (.v 7) },
      { dst := .v 19, op := .call 99 [.t 17, .t 18] },
      { dst := .v 20, op := .len (.v 19) },
      { dst := .v 21, op := .move (.c (.int .i64 0)) }], [], []⟩) (.block 2 (.loop (.seq (.region ⟨[
      { dst := .v 22, op := .bin .lss (.v 21) (.v 20) }], [], []⟩) (.seq (.cond (.v 22) (.skip) (.exit 2)) (.seq (.block 3 (.seq (.region ⟨[
      { dst := .t 23, op := .indexAddr 1 (.v 19) (.v 21) },
      { dst := .t 24, op := .load none (.t 23) },
      { dst := .v 9, op := .move (.t 24) }], [], []⟩) (.region ⟨[
      { dst := .t 25, op := .move (.v 5) },
      { dst := .t 26, op := .move (.v 9) },
      { dst := .none, op := .mapUpdate (.int .i64) (.t 25) (.t 26) (.c (.bool true)) }], [], []⟩))) (.region ⟨[
      { dst := .t 27, op := .bin .add (.v 21) (.c (.int .i64 1)) },
      { dst := .v 21, op := .move (.t 27) }], [], []⟩))))))))) (.region ⟨[
      { dst := .t 28, op := .bin .add (.v 13) (.c (.int .i64 1)) },
      { dst := .v 13, op := .move (.t 28) }], [], []⟩))))))) (.seq (.region ⟨[
      { dst := .t 29, op := .move (.v 5) },
      { dst := .v 4, op := .move (.t 29) }], [], []⟩) (.ret))))
def vf120 : VFunc := { vs := [0, 1, 2, 4, 5, 7, 9, 11, 12, 13, 14, 19, 20, 21, 22], nparams := 2, rets := [.tmp (.v 4)], body := vb120 }
/- groupcontrol.groupcontrolref22.Sum -/
def vb121 : VCode :=
    .seq (.region ⟨[
      { dst := .v 3, op := .box 2 (.v 0) },
      { dst := .v 4, op := .box 1 (.v 1) },
      { dst := .v 6, op := .move (.c (.int .i64 0)) }], [], []⟩) (.seq (.region ⟨[
      { dst := .v 7, op := .move (.c (.int .i64 0)) }], [], []⟩) (.seq (.region ⟨[
      { dst := .t 10, op := .load (some 2) (.v 3) },
      { dst := .t 11, op := .move (.v 2) },
      { dst := .t 12, op := .call 33 [.t 10, .t 11] },
      { dst := .v 8, op := .move (.t 12) }], [], []⟩) (.seq (.seq (.region ⟨[
      { dst := .v 9, op := .move (.c (.int .i64 0)) }], [], []⟩) (.block 0 (.loop (.seq (.seq (.region ⟨[
      { dst := .t 13, op := .move (.v 9) },
      { dst := .t 14, op := .move (.v 8) },
      { dst := .t 15, op := .len (.t 14) },
      { dst := .v 16, op := .bin .lss (.t 13) (.t 15) }], [], []⟩) (.cond (.v 16) (.skip) (.exit 0))) (.seq (.block 1 (.region ⟨[
      { dst := .t 19, op := .move (.v 7) },
      { dst := .t 20, op := .load (some 1) (.v 4) },
      { dst := .t 21, op := .move (.v 8) },
      { dst := .t 22, op := .move (.v 9) },
      { dst := .t 23, op := .indexAddr 1 (.t 21) (.t 22) },
      { dst := .t 24, op := .load none (.t 23) },
      { dst := .t 25, op := .call 104 [.t 20, .t 24] },
      { dst := .t 26, op := .bin .add (.t 19) (.t 25) },
      { dst := .v 7, op := .move (.t 26) }], [], []⟩)) (.region ⟨[
      { dst := .t 17, op := .move (.v 9) },
      { dst := .t 18, op := .bin .add (.t 17) (.c (.int .i64 1)) },
      { dst := .v 9, op := .move (.t 18) }], [], []⟩)))))) (.seq (.region ⟨[
      { dst := .t 27, op := .move (.v 7) },
      { dst := .v 6, op := .move (.t 27) }], [], []⟩) (.ret)))))
def vf121 : VFunc := { vs := [0, 1, 2, 3, 4, 6, 7, 8, 9, 16], nparams := 3, rets := [.tmp (.v 6)], body := vb121 }
/- groupcontrol.groupcontrolref22.put -/
def vb122 : VCode :=
    .seq (.region ⟨[
      { dst := .v 3, op := .box 1 (.v 0) },
      { dst := .v 6, op := .alloc [.nil 2] }], [], []⟩) (.seq (.region ⟨[
      { dst := .v 7, op := .newArr 2 }], [], []⟩) (.seq (.region ⟨[
      { dst := .t 11, op := .move (.v 2) },
      { dst := .t 12, op := .bin .eql (.t 11) (.c (.int .i64 0)) },
      { dst := .v 8, op := .move (.t 12) }], [], []⟩) (.seq (.seq (.region ⟨[
      { dst := .v 9, op := .move (.c (.int .i64 0)) }], [], []⟩) (.block 0 (.loop (.seq (.seq (.region ⟨[
      { dst := .t 13, op := .move (.v 9) },
      { dst := .t 14, op := .fieldAddr 0 (.v 3) },
      { dst := .t 15, op := .load none (.t 14) },
      { dst := .t 16, op := .len (.t 15) },
      { dst := .v 17, op := .bin .lss (.t 13) (.t 16) }], [], []⟩) (.cond (.v 17) (.skip) (.exit 0))) (.seq (.block 1 (.seq (.region ⟨[
      { dst := .t 20, op := .fieldAddr 0 (.v 3) },
      { dst := .t 21, op := .load none (.t 20) },
      { dst := .t 22, op := .move (.v 9) },
      { dst := .t 23, op := .indexAddr 2 (.t 21) (.t 22) },
      { dst := .t 24, op := .load (some 2) (.t 23) },
      { dst := .v 10, op := .alloc [.c (.int .i64 0), .c (.int .i64 0)] },
      { dst := .none, op := .store 2 (.v 10) (.t 24) }], [], []⟩) (.seq (.seq (.region ⟨[
      { dst := .t 25, op := .move (.v 8) },
      { dst := .t 26, op := .not (.t 25) },
      { dst := .t 27, op := .move (.t 26) },
      { dst := .t 28, op := .fieldAddr 0 (.v 10), guard := some (.t 27, true) },
      { dst := .t 29, op := .load none (.t 28), guard := some (.t 27, true) },
      { dst := .t 30, op := .move (.v 1), guard := some (.t 27, true) },
      { dst := .t 31, op := .bin .geq (.t 29) (.t 30), guard := some (.t 27, true) },
      { dst := .v 32, op := .pick (.t 27) (.t 31) (.c (.bool false)) }], [], []⟩) (.cond (.v 32) (.region ⟨[
      { dst := .t 33, op := .move (.v 7) },
      { dst := .t 34, op := .move (.v 1) },
      { dst := .t 35, op := .move (.v 2) },
      { dst := .t 36, op := .build [.a (.t 34) 0 1, .a (.t 35) 0 1] },
      { dst := .t 37, op := .buildSlice 2 [.t 36] },
      { dst := .t 38, op := .append 2 16 (.t 33) (.t 37) },
      { dst := .v 7, op := .move (.t 38) },
      { dst := .v 8, op := .move (.c (.bool true)) }], [], []⟩) (.skip))) (.seq (.region ⟨[
      { dst := .t 39, op := .fieldAddr 0 (.v 10) },
      { dst := .t 40, op := .load none (.t 39) },
      { dst := .t 41, op := .move (.v 1) },
      { dst := .v 42, op := .bin .neq (.t 40) (.t 41) }], [], []⟩) (.cond (.v 42) (.region ⟨[
      { dst := .t 43, op := .move (.v 7) },
      { dst := .t 44, op := .load (some 2) (.v 10) },
      { dst := .t 45, op := .buildSlice 2 [.t 44] },
      { dst := .t 46, op := .append 2 16 (.t 43) (.t 45) },
      { dst := .v 7, op := .move (.t 46) }], [], []⟩) (.skip)))))) (.region ⟨[
      { dst := .t 18, op := .move (.v 9) },
      { dst := .t 19, op := .bin .add (.t 18) (.c (.int .i64 1)) },
      { dst := .v 9, op := .move (.t 19) }], [], []⟩)))))) (.seq (.seq (.region ⟨[
      { dst := .t 47, op := .move (.v 8) },
      { dst := .v 48, op := .not (.t 47) }], [], []⟩) (.cond (.v 48) (.region ⟨[
      { dst := .t 49, op := .move (.v 7) },
      { dst := .t 50, op := .move (.v 1) },
      { dst := .t 51, op := .move (.v 2) },
      { dst := .t 52, op := .build [.a (.t 50) 0 1, .a (.t 51) 0 1] },
      { dst := .t 53, op := .buildSlice 2 [.t 52] },
      { dst := .t 54, op := .append 2 16 (.t 49) (.t 53) },
      { dst := .v 7, op := .move (.t 54) }], [], []⟩) (.skip))) (.seq (.region ⟨[
      { dst := .t 55, op := .move (.v 7) },
      { dst := .t 56, op := .build [.a (.t 55) 0 1] },
      { dst := .none, op := .store 1 (.v 6) (.t 56) }], [], []⟩) (.ret))))))
def vf122 : VFunc := { vs := [0, 1, 2, 3, 6, 7, 8, 9, 10, 17, 32, 42, 48], nparams := 3, rets := [.cell (.v 6) (some 1)], body := vb122 }
/- groupcontrol.groupcontrolref32.Check -/
def vb123 : VCode :=
    .seq (.region ⟨[
      { dst := .v 2, op := .box 2 (.v 0) },
      { dst := .v 4, op := .move (.c (.bool false)) }], [], []⟩) (.seq (.seq (.region ⟨[
      { dst := .t 6, op := .load (some 2) (.v 2) },
      { dst := .t 7, op := .call 79 [.t 6] },
      { dst := .v 8, op := .not (.t 7) }], [], []⟩) (.cond (.v 8) (.seq (.region ⟨[
      { dst := .v 4, op := .move (.c (.bool false)) }], [], []⟩) (.ret)) (.skip))) (.seq (.seq (.region ⟨[
      { dst := .v 5, op := .move (.c (.int .i64 0)) }], [], []⟩) (.block 0 (.loop (.seq (.seq (.region ⟨[
      { dst := .t 9, op := .move (.v 5) },
      { dst := .t 10, op := .move (.v 1) },
      { dst := .t 11, op := .len (.t 10) },
      { dst := .v 12, op := .bin .lss (.t 9) (.t 11) }], [], []⟩) (.cond (.v 12) (.skip) (.exit 0))) (.seq (.block 1 (.seq (.region ⟨[
      { dst := .t 15, op := .load (some 2) (.v 2) },
      { dst := .t 16, op := .move (.v 1) },
      { dst := .t 17, op := .move (.v 5) },
      { dst := .t 18, op := .indexAddr 2 (.t 16) (.t 17) },
      { dst := .t 19, op := .fieldAddr 0 (.t 18) },
      { dst := .t 20, op := .load none (.t 19) },
      { dst := .t 21, op := .call 76 [.t 15, .t 20] },
      { dst := .t 22, op := .not (.t 21) },
      { dst := .t 23, op := .move (.t 22) },
      { dst := .t 24, op := .move (.v 5), guard := some (.t 23, false) },
      { dst := .t 25, op := .bin .gtr (.t 24) (.c (.int .i64 0)), guard := some (.t 23, false) },
      { dst := .t 26, op := .move (.t 25), guard := some (.t 23, false) },
      { dst := .t 27, op := .move (.v 1), guard := some (.t 26, true) },
      { dst := .t 28, op := .move (.v 5), guard := some (.t 26, true) },
      { dst := .t 29, op := .indexAddr 2 (.t 27) (.t 28), guard := some (.t 26, true) },
      { dst := .t 30, op := .fieldAddr 0 (.t 29), guard := some (.t 26, true) },
      { dst := .t 31, op := .load none (.t 30), guard := some (.t 26, true) },
      { dst := .t 32, op := .move (.v 1), guard := some (.t 26, true) },
      { dst := .t 33, op := .move (.v 5), guard := some (.t 26, true) },
      { dst := .t 34, op := .bin .sub (.t 33) (.c (.int .i64 1)), guard := some (.t 26, true) },
      { dst := .t 35, op := .indexAddr 2 (.t 32) (.t 34), guard := some (.t 26, true) },
      { dst := .t 36, op := .fieldAddr 0 (.t 35), guard := some (.t 26, true) },
      { dst := .t 37, op := .load none (.t 36), guard := some (.t 26, true) },
      { dst := .t 38, op := .bin .leq (.t 31) (.t 37), guard := some (.t 26, true) },
      { dst := .t 39, op := .pick (.t 26) (.t 38) (.c (.bool false)), guard := some (.t 23, false) },
      { dst := .t 40, op := .pick (.t 23) (.c (.bool true)) (.t 39) },
      { dst := .t 41, op := .move (.t 40) },
      { dst := .t 42, op := .move (.v 1), guard := some (.t 41, false) },
      { dst := .t 43, op := .move (.v 5), guard := some (.t 41, false) },
      { dst := .t 44, op := .indexAddr 2 (.t 42) (.t 43), guard := some (.t 41, false) },
      { dst := .t 45, op := .fieldAddr 1 (.t 44), guard := some (.t 41, false) },
      { dst := .t 46, op := .load none (.t 45), guard := some (.t 41, false) },
      { dst := .t 47, op := .bin .lss (.t 46) (.c (.int .i64 0)), guard := some (.t 41, false) },
      { dst := .t 48, op := .pick (.t 41) (.c (.bool true)) (.t 47) },
      { dst := .t 49, op := .move (.t 48) },
      { dst := .t 50, op := .move (.v 1), guard := some (.t 49, false) },
      { dst := .t 51, op := .move (.v 5), guard := some (.t 49, false) },
      { dst := .t 52, op := .indexAddr 2 (.t 50) (.t 51), guard := some (.t 49, false) },
      { dst := .t 53, op := .fieldAddr 1 (.t 52), guard := some (.t 49, false) },
      { dst := .t 54, op := .load none (.t 53), guard := some (.t 49, false) },
      { dst := .t 55, op := .bin .gtr (.t 54) (.c (.int .i64 1152921504606846976)), guard := some (.t 49, false) },
      { dst := .v 56, op := .pick (.t 49) (.c (.bool true)) (.t 55) }], [], []⟩) (.cond (.v 56) (.seq (.region ⟨[
      { dst := .v 4, op := .move (.c (.bool false)) }], [], []⟩) (.ret)) (.skip)))) (.region ⟨[
      { dst := .t 13, op := .move (.v 5) },
      { dst := .t 14, op := .bin .add (.t 13) (.c (.int .i64 1)) },
      { dst := .v 5, op := .move (.t 14) }], [], []⟩)))))) (.seq (.region ⟨[
      { dst := .v 4, op := .move (.c (.bool true)) }], [], []⟩) (.ret))))
def vf123 : VFunc := { vs := [0, 1, 2, 4, 5, 8, 12, 56], nparams := 2, rets := [.tmp (.v 4)], body := vb123 }
/- groupcontrol.groupcontrolref32.May -/
def vb124 : VCode :=
    .seq (.region ⟨[
      { dst := .v 4, op := .box 2 (.v 0) },
      { dst := .v 8, op := .move (.c (.bool false)) }], [], []⟩) (.seq (.region ⟨[
      { dst := .t 9, op := .load (some 2) (.v 4) },
      { dst := .t 10, op := .move (.v 1) },
      { dst := .t 11, op := .call 123 [.t 9, .t 10] },
      { dst := .t 12, op := .move (.t 11) },
      { dst := .t 13, op := .load (some 2) (.v 4), guard := some (.t 12, true) },
      { dst := .t 14, op := .move (.v 2), guard := some (.t 12, true) },
      { dst := .t 15, op := .call 76 [.t 13, .t 14], guard := some (.t 12, true) },
      { dst := .t 16, op := .pick (.t 12) (.t 15) (.c (.bool false)) },
      { dst := .t 17, op := .move (.t 16) },
      { dst := .t 18, op := .move (.v 1), guard := some (.t 17, true) },
      { dst := .t 19, op := .move (.v 2), guard := some (.t 17, true) },
      { dst := .t 20, op := .call 125 [.t 18, .t 19], guard := some (.t 17, true) },
      { dst := .t 21, op := .move (.v 3), guard := some (.t 17, true) },
      { dst := .t 22, op := .bin .leq (.t 20) (.t 21), guard := some (.t 17, true) },
      { dst := .t 23, op := .pick (.t 17) (.t 22) (.c (.bool false)) },
      { dst := .v 8, op := .move (.t 23) }], [], []⟩) (.ret))
def vf124 : VFunc := { vs := [0, 1, 2, 3, 4, 8], nparams := 4, rets := [.tmp (.v 8)], body := vb124 }
/- groupcontrol.groupcontrolref32.Get -/
def vb125 : VCode :=
    .seq (.region ⟨[
      { dst := .v 4, op := .move (.c (.int .i64 0)) }], [], []⟩) (.seq (.seq (.region ⟨[
      { dst := .v 5, op := .move (.c (.int .i64 0)) }], [], []⟩) (.block 0 (.loop (.seq (.seq (.region ⟨[
      { dst := .t 6, op := .move (.v 5) },
      { dst := .t 7, op := .move (.v 0) },
      { dst := .t 8, op := .len (.t 7) },
      { dst := .v 9, op := .bin .lss (.t 6) (.t 8) }], [], []⟩) (.cond (.v 9) (.skip) (.exit 0))) (.seq (.block 1 (.seq (.region ⟨[
      { dst := .t 12, op := .move (.v 0) },
      { dst := .t 13, op := .move (.v 5) },
      { dst := .t 14, op := .indexAddr 2 (.t 12) (.t 13) },
      { dst := .t 15, op := .fieldAddr 0 (.t 14) },
      { dst := .t 16, op := .load none (.t 15) },
      { dst := .t 17, op := .move (.v 1) },
      { dst := .v 18, op := .bin .eql (.t 16) (.t 17) }], [], []⟩) (.cond (.v 18) (.seq (.region ⟨[
      { dst := .t 19, op := .move (.v 0) },
      { dst := .t 20, op := .move (.v 5) },
      { dst := .t 21, op := .indexAddr 2 (.t 19) (.t 20) },
      { dst := .t 22, op := .fieldAddr 1 (.t 21) },
      { dst := .t 23, op := .load none (.t 22) },
      { dst := .v 4, op := .move (.t 23) }], [], []⟩) (.ret)) (.skip)))) (.region ⟨[
      { dst := .t 10, op := .move (.v 5) },
      { dst := .t 11, op := .bin .add (.t 10) (.c (.int .i64 1)) },
      { dst := .v 5, op := .move (.t 11) }], [], []⟩)))))) (.seq (.region ⟨[
      { dst := .v 4, op := .move (.c (.int .i64 0)) }], [], []⟩) (.ret)))
def vf125 : VFunc := { vs := [0, 1, 4, 5, 9, 18], nparams := 2, rets := [.tmp (.v 4)], body := vb125 }
/- groupcontrol.groupcontrolref22.charges -/
def vb126 : VCode :=
    .seq (.region ⟨[
      { dst := .v 3, op := .box 2 (.v 0) },
      { dst := .v 6, op := .move (.c (.bool false)) }], [], []⟩) (.seq (.seq (.region ⟨[
      { dst := .v 7, op := .move (.c (.int .i64 0)) }], [], []⟩) (.block 0 (.loop (.seq (.seq (.region ⟨[
      { dst := .t 8, op := .move (.v 7) },
      { dst := .t 9, op := .move (.v 1) },
      { dst := .t 10, op := .len (.t 9) },
      { dst := .v 11, op := .bin .lss (.t 8) (.t 10) }], [], []⟩) (.cond (.v 11) (.skip) (.exit 0))) (.seq (.block 1 (.seq (.region ⟨[
      { dst := .t 14, op := .load (some 2) (.v 3) },
      { dst := .t 15, op := .move (.v 1) },
      { dst := .t 16, op := .move (.v 7) },
      { dst := .t 17, op := .indexAddr 2 (.t 15) (.t 16) },
      { dst := .t 18, op := .fieldAddr 0 (.t 17) },
      { dst := .t 19, op := .load none (.t 18) },
      { dst := .t 20, op := .call 76 [.t 14, .t 19] },
      { dst := .t 21, op := .not (.t 20) },
      { dst := .t 22, op := .move (.t 21) },
      { dst := .t 23, op := .move (.v 7), guard := some (.t 22, false) },
      { dst := .t 24, op := .bin .gtr (.t 23) (.c (.int .i64 0)), guard := some (.t 22, false) },
      { dst := .t 25, op := .move (.t 24), guard := some (.t 22, false) },
      { dst := .t 26, op := .move (.v 1), guard := some (.t 25, true) },
      { dst := .t 27, op := .move (.v 7), guard := some (.t 25, true) },
      { dst := .t 28, op := .indexAddr 2 (.t 26) (.t 27), guard := some (.t 25, true) },
      { dst := .t 29, op := .fieldAddr 0 (.t 28), guard := some (.t 25, true) },
      { dst := .t 30, op := .load none (.t 29), guard := some (.t 25, true) },
      { dst := .t 31, op := .move (.v 1), guard := some (.t 25, true) },
      { dst := .t 32, op := .move (.v 7), guard := some (.t 25, true) },
      { dst := .t 33, op := .bin .sub (.t 32) (.c (.int .i64 1)), guard := some (.t 25, true) },
      { dst := .t 34, op := .indexAddr 2 (.t 31) (.t 33), guard := some (.t 25, true) },
      { dst := .t 35, op := .fieldAddr 0 (.t 34), guard := some (.t 25, true) },
      { dst := .t 36, op := .load none (.t 35), guard := some (.t 25, true) },
      { dst := .t 37, op := .bin .leq (.t 30) (.t 36), guard := some (.t 25, true) },
      { dst := .t 38, op := .pick (.t 25) (.t 37) (.c (.bool false)), guard := some (.t 22, false) },
      { dst := .t 39, op := .pick (.t 22) (.c (.bool true)) (.t 38) },
      { dst := .t 40, op := .move (.t 39) },
      { dst := .t 41, op := .move (.v 1), guard := some (.t 40, false) },
      { dst := .t 42, op := .move (.v 7), guard := some (.t 40, false) },
      { dst := .t 43, op := .indexAddr 2 (.t 41) (.t 42), guard := some (.t 40, false) },
      { dst := .t 44, op := .fieldAddr 1 (.t 43), guard := some (.t 40, false) },
      { dst := .t 45, op := .load none (.t 44), guard := some (.t 40, false) },
      { dst := .t 46, op := .move (.v 2), guard := some (.t 40, false) },
      { dst := .t 47, op := .bin .lss (.t 45) (.t 46), guard := some (.t 40, false) },
      { dst := .t 48, op := .pick (.t 40) (.c (.bool true)) (.t 47) },
      { dst := .t 49, op := .move (.t 48) },
      { dst := .t 50, op := .move (.v 1), guard := some (.t 49, false) },
      { dst := .t 51, op := .move (.v 7), guard := some (.t 49, false) },
      { dst := .t 52, op := .indexAddr 2 (.t 50) (.t 51), guard := some (.t 49, false) },
      { dst := .t 53, op := .fieldAddr 1 (.t 52), guard := some (.t 49, false) },
      { dst := .t 54, op := .load none (.t 53), guard := some (.t 49, false) },
      { dst := .t 55, op := .bin .gtr (.t 54) (.c (.int .i64 16777216)), guard := some (.t 49, false) },
      { dst := .v 56, op := .pick (.t 49) (.c (.bool true)) (.t 55) }], [], []⟩) (.cond (.v 56) (.seq (.region ⟨[
      { dst := .v 6, op := .move (.c (.bool false)) }], [], []⟩) (.ret)) (.skip)))) (.region ⟨[
      { dst := .t 12, op := .move (.v 7) },
      { dst := .t 13, op := .bin .add (.t 12) (.c (.int .i64 1)) },
      { dst := .v 7, op := .move (.t 13) }], [], []⟩)))))) (.seq (.region ⟨[
      { dst := .v 6, op := .move (.c (.bool true)) }], [], []⟩) (.ret)))
def vf126 : VFunc := { vs := [0, 1, 2, 3, 6, 7, 11, 56], nparams := 3, rets := [.tmp (.v 6)], body := vb126 }
/- groupcontrol.name.Valid -/
def vb128 : VCode :=
    .seq (.region ⟨[
      { dst := .v 2, op := .move (.c (.bool false)) }], [], []⟩) (.seq (.seq (.region ⟨[
      { dst := .t 5, op := .move (.v 0) },
      { dst := .v 6, op := .strBytes (.t 5) },
      { dst := .v 7, op := .len (.v 6) },
      { dst := .v 8, op := .move (.c (.int .i64 0)) }], [], []⟩) (.block 0 (.loop (.seq (.region ⟨[
      { dst := .v 9, op := .bin .lss (.v 8) (.v 7) }], [], []⟩) (.seq (.cond (.v 9) (.skip) (.exit 0)) (.seq (.block 1 (.seq (.region ⟨[
      { dst := .t 10, op := .indexAddr 1 (.v 6) (.v 8) },
      { dst := .t 11, op := .load none (.t 10) },
      { dst := .v 4, op := .move (.t 11) }], [], []⟩) (.seq (.region ⟨[
      { dst := .t 12, op := .move (.v 4) },
      { dst := .t 13, op := .call 130 [.t 12] },
      { dst := .v 14, op := .not (.t 13) }], [], []⟩) (.cond (.v 14) (.seq (.region ⟨[
      { dst := .v 2, op := .move (.c (.bool false)) }], [], []⟩) (.ret)) (.skip))))) (.region ⟨[
      { dst := .t 15, op := .bin .add (.v 8) (.c (.int .i64 1)) },
      { dst := .v 8, op := .move (.t 15) }], [], []⟩))))))) (.seq (.region ⟨[
      { dst := .t 16, op := .move (.v 0) },
      { dst := .t 17, op := .bin .neq (.t 16) (.c (.str ⟨#[]⟩)) },
      { dst := .t 18, op := .move (.t 17) },
      { dst := .t 19, op := .move (.v 0), guard := some (.t 18, true) },
      { dst := .t 20, op := .lenStr (.t 19), guard := some (.t 18, true) },
      { dst := .t 21, op := .bin .leq (.t 20) (.c (.int .i64 32)), guard := some (.t 18, true) },
      { dst := .t 22, op := .pick (.t 18) (.t 21) (.c (.bool false)) },
      { dst := .t 23, op := .move (.t 22) },
      { dst := .t 24, op := .move (.v 0), guard := some (.t 23, true) },
      { dst := .t 25, op := .indexStr (.t 24) (.c (.int .i64 0)), guard := some (.t 23, true) },
      { dst := .t 26, op := .bin .neq (.t 25) (.c (.int .u8 45)), guard := some (.t 23, true) },
      { dst := .t 27, op := .pick (.t 23) (.t 26) (.c (.bool false)) },
      { dst := .v 2, op := .move (.t 27) }], [], []⟩) (.ret)))
def vf128 : VFunc := { vs := [0, 2, 4, 6, 7, 8, 9, 14], nparams := 1, rets := [.tmp (.v 2)], body := vb128 }
/- groupcontrol.iofair.weight -/
def vb129 : VCode :=
    .seq (.region ⟨[
      { dst := .v 4, op := .move (.c (.int .i64 0)) }], [], []⟩) (.seq (.seq (.region ⟨[
      { dst := .v 7, op := .move (.v 0) },
      { dst := .v 8, op := .len (.v 7) },
      { dst := .v 9, op := .move (.c (.int .i64 0)) }], [], []⟩) (.block 0 (.loop (.seq (.region ⟨[
      { dst := .v 10, op := .bin .lss (.v 9) (.v 8) }], [], []⟩) (.seq (.cond (.v 10) (.skip) (.exit 0)) (.seq (.block 1 (.seq (.region ⟨[
      { dst := .t 11, op := .indexAddr 2 (.v 7) (.v 9) },
      { dst := .t 12, op := .load (some 2) (.t 11) },
      { dst := .v 6, op := .alloc [.c (.int .i64 0), .c (.int .i64 0)] },
      { dst := .none, op := .store 2 (.v 6) (.t 12) }], [], []⟩) (.seq (.region ⟨[
      { dst := .t 13, op := .fieldAddr 0 (.v 6) },
      { dst := .t 14, op := .load none (.t 13) },
      { dst := .t 15, op := .move (.v 1) },
      { dst := .v 16, op := .bin .eql (.t 14) (.t 15) }], [], []⟩) (.cond (.v 16) (.seq (.region ⟨[
      { dst := .t 17, op := .fieldAddr 1 (.v 6) },
      { dst := .t 18, op := .load none (.t 17) },
      { dst := .v 4, op := .move (.t 18) }], [], []⟩) (.ret)) (.skip))))) (.region ⟨[
      { dst := .t 19, op := .bin .add (.v 9) (.c (.int .i64 1)) },
      { dst := .v 9, op := .move (.t 19) }], [], []⟩))))))) (.seq (.region ⟨[
      { dst := .v 4, op := .move (.c (.int .i64 100)) }], [], []⟩) (.ret)))
def vf129 : VFunc := { vs := [0, 1, 4, 6, 7, 8, 9, 10, 16], nparams := 2, rets := [.tmp (.v 4)], body := vb129 }
/- groupcontrol.name.inner -/
def vb130 : VCode :=
    .seq (.region ⟨[
      { dst := .v 2, op := .move (.c (.bool false)) }], [], []⟩) (.seq (.region ⟨[
      { dst := .t 3, op := .move (.v 0) },
      { dst := .t 4, op := .bin .geq (.t 3) (.c (.int .u8 97)) },
      { dst := .t 5, op := .move (.t 4) },
      { dst := .t 6, op := .move (.v 0), guard := some (.t 5, true) },
      { dst := .t 7, op := .bin .leq (.t 6) (.c (.int .u8 122)), guard := some (.t 5, true) },
      { dst := .t 8, op := .pick (.t 5) (.t 7) (.c (.bool false)) },
      { dst := .t 9, op := .move (.t 8) },
      { dst := .t 10, op := .move (.v 0), guard := some (.t 9, false) },
      { dst := .t 11, op := .bin .geq (.t 10) (.c (.int .u8 65)), guard := some (.t 9, false) },
      { dst := .t 12, op := .move (.t 11), guard := some (.t 9, false) },
      { dst := .t 13, op := .move (.v 0), guard := some (.t 12, true) },
      { dst := .t 14, op := .bin .leq (.t 13) (.c (.int .u8 90)), guard := some (.t 12, true) },
      { dst := .t 15, op := .pick (.t 12) (.t 14) (.c (.bool false)), guard := some (.t 9, false) },
      { dst := .t 16, op := .pick (.t 9) (.c (.bool true)) (.t 15) },
      { dst := .t 17, op := .move (.t 16) },
      { dst := .t 18, op := .move (.v 0), guard := some (.t 17, false) },
      { dst := .t 19, op := .bin .geq (.t 18) (.c (.int .u8 48)), guard := some (.t 17, false) },
      { dst := .t 20, op := .move (.t 19), guard := some (.t 17, false) },
      { dst := .t 21, op := .move (.v 0), guard := some (.t 20, true) },
      { dst := .t 22, op := .bin .leq (.t 21) (.c (.int .u8 57)), guard := some (.t 20, true) },
      { dst := .t 23, op := .pick (.t 20) (.t 22) (.c (.bool false)), guard := some (.t 17, false) },
      { dst := .t 24, op := .pick (.t 17) (.c (.bool true)) (.t 23) },
      { dst := .t 25, op := .move (.t 24) },
      { dst := .t 26, op := .move (.v 0), guard := some (.t 25, false) },
      { dst := .t 27, op := .bin .eql (.t 26) (.c (.int .u8 95)), guard := some (.t 25, false) },
      { dst := .t 28, op := .pick (.t 25) (.c (.bool true)) (.t 27) },
      { dst := .t 29, op := .move (.t 28) },
      { dst := .t 30, op := .move (.v 0), guard := some (.t 29, false) },
      { dst := .t 31, op := .bin .eql (.t 30) (.c (.int .u8 45)), guard := some (.t 29, false) },
      { dst := .t 32, op := .pick (.t 29) (.c (.bool true)) (.t 31) },
      { dst := .v 2, op := .move (.t 32) }], [], []⟩) (.ret))
def vf130 : VFunc := { vs := [0, 2], nparams := 1, rets := [.tmp (.v 2)], body := vb130 }

def prog : FuncId → Option VFunc
  | 8 => some vf8
  | 9 => some vf9
  | 10 => some vf10
  | 11 => some vf11
  | 12 => some vf12
  | 13 => some vf13
  | 14 => some vf14
  | 15 => some vf15
  | 16 => some vf16
  | 17 => some vf17
  | 18 => some vf18
  | 20 => some vf20
  | 22 => some vf22
  | 23 => some vf23
  | 27 => some vf27
  | 28 => some vf28
  | 31 => some vf31
  | 32 => some vf32
  | 33 => some vf33
  | 41 => some vf41
  | 42 => some vf42
  | 43 => some vf43
  | 44 => some vf44
  | 45 => some vf45
  | 46 => some vf46
  | 47 => some vf47
  | 48 => some vf48
  | 49 => some vf49
  | 50 => some vf50
  | 51 => some vf51
  | 52 => some vf52
  | 53 => some vf53
  | 54 => some vf54
  | 55 => some vf55
  | 56 => some vf56
  | 57 => some vf57
  | 58 => some vf58
  | 59 => some vf59
  | 60 => some vf60
  | 61 => some vf61
  | 62 => some vf62
  | 63 => some vf63
  | 64 => some vf64
  | 65 => some vf65
  | 66 => some vf66
  | 67 => some vf67
  | 69 => some vf69
  | 70 => some vf70
  | 71 => some vf71
  | 72 => some vf72
  | 73 => some vf73
  | 76 => some vf76
  | 77 => some vf77
  | 78 => some vf78
  | 79 => some vf79
  | 81 => some vf81
  | 82 => some vf82
  | 83 => some vf83
  | 84 => some vf84
  | 85 => some vf85
  | 86 => some vf86
  | 87 => some vf87
  | 88 => some vf88
  | 89 => some vf89
  | 90 => some vf90
  | 91 => some vf91
  | 92 => some vf92
  | 93 => some vf93
  | 94 => some vf94
  | 95 => some vf95
  | 96 => some vf96
  | 97 => some vf97
  | 98 => some vf98
  | 99 => some vf99
  | 100 => some vf100
  | 102 => some vf102
  | 104 => some vf104
  | 110 => some vf110
  | 111 => some vf111
  | 112 => some vf112
  | 113 => some vf113
  | 114 => some vf114
  | 115 => some vf115
  | 116 => some vf116
  | 117 => some vf117
  | 118 => some vf118
  | 119 => some vf119
  | 120 => some vf120
  | 121 => some vf121
  | 122 => some vf122
  | 123 => some vf123
  | 124 => some vf124
  | 125 => some vf125
  | 126 => some vf126
  | 128 => some vf128
  | 129 => some vf129
  | 130 => some vf130
  | _ => none

end Go.V

