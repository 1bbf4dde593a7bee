/- The functions of the seat in the form of the value machine, printed by program. -/
import Derived.Test.YtcljahgcdbohaaaVExec
set_option linter.unusedSimpArgs false
set_option linter.unusedVariables false
namespace Go.V

/- groupcontrol.groupcontrollaw32.IofairAlone -/
def vb8 : VCode :=
    .seq (.region ⟨[
      { dst := .v 2, op := .move (.c (.bool false)) }], [], []⟩) (.seq (.seq (.region ⟨[
      { dst := .t 12, op := .move (.v 0) },
      { dst := .t 13, op := .call 20 [.t 12] },
      { dst := .v 14, op := .not (.t 13) }], [], []⟩) (.cond (.v 14) (.seq (.region ⟨[
      { dst := .t 15, op := .call 41 [] },
      { dst := .v 2, op := .move (.t 15) }], [], []⟩) (.ret)) (.skip))) (.seq (.region ⟨[
      { dst := .t 16, op := .move (.v 0) },
      { dst := .t 17, op := .call 22 [.t 16] },
      { dst := .v 3, op := .move (.t 17) }], [], []⟩) (.seq (.region ⟨[
      { dst := .t 18, op := .move (.v 3) },
      { dst := .t 19, op := .call 23 [.t 18, .c (.int .i64 8)] },
      { dst := .v 4, op := .alloc [.nil 6, .c (.int .i64 0)] },
      { dst := .none, op := .store 2 (.v 4) (.t 19) }], [], []⟩) (.seq (.region ⟨[
      { dst := .t 20, op := .move (.v 3) },
      { dst := .t 21, op := .load (some 2) (.v 4) },
      { dst := .t 22, op := .call 42 [.t 20, .t 21] },
      { dst := .v 5, op := .move (.t 22) }], [], []⟩) (.seq (.region ⟨[
      { dst := .t 23, op := .fieldAddr 0 (.v 4) },
      { dst := .t 24, op := .load none (.t 23) },
      { dst := .t 25, op := .move (.v 3) },
      { dst := .t 26, op := .fieldAddr 0 (.v 4) },
      { dst := .t 27, op := .load none (.t 26) },
      { dst := .t 28, op := .len (.t 27) },
      { dst := .t 29, op := .call 27 [.t 25, .t 28] },
      { dst := .t 30, op := .indexAddr 6 (.t 24) (.t 29) },
      { dst := .t 31, op := .fieldAddr 0 (.t 30) },
      { dst := .t 32, op := .load none (.t 31) },
      { dst := .v 6, op := .move (.t 32) }], [], [(1, 6)]⟩) (.seq (.region ⟨[
      { dst := .t 33, op := .load (some 2) (.v 4) },
      { dst := .t 34, op := .move (.v 6) },
      { dst := .t 35, op := .call 31 [.t 33, .t 34] },
      { dst := .v 7, op := .move (.t 35) }], [], []⟩) (.seq (.seq (.region ⟨[
      { dst := .v 8, op := .move (.c (.int .i64 0)) }], [], []⟩) (.block 0 (.loop (.seq (.seq (.region ⟨[
      { dst := .t 36, op := .move (.v 8) },
      { dst := .t 37, op := .fieldAddr 0 (.v 4) },
      { dst := .t 38, op := .load none (.t 37) },
      { dst := .t 39, op := .len (.t 38) },
      { dst := .v 40, op := .bin .lss (.t 36) (.t 39) }], [], []⟩) (.cond (.v 40) (.skip) (.exit 0))) (.seq (.block 1 (.seq (.region ⟨[
      { dst := .t 44, op := .load (some 2) (.v 4) },
      { dst := .t 45, op := .move (.v 5) },
      { dst := .t 46, op := .move (.v 6) },
      { dst := .t 47, op := .move (.v 6) },
      { dst := .t 48, op := .buildFz 1 [.t 46, .t 47, .c (.int .i64 99)] },
      { dst := .t 49, op := .fieldAddr 0 (.v 4) },
      { dst := .t 50, op := .load none (.t 49) },
      { dst := .t 51, op := .move (.v 8) },
      { dst := .t 52, op := .indexAddr 6 (.t 50) (.t 51) },
      { dst := .t 53, op := .fieldAddr 0 (.t 52) },
      { dst := .t 54, op := .load none (.t 53) },
      { dst := .t 55, op := .call 43 [.t 44, .t 45, .t 48, .t 54] },
      { dst := .t 43, op := .move (.t 55) },
      { dst := .t 56, op := .extract (.t 43) 0 },
      { dst := .t 57, op := .extract (.t 43) 1 },
      { dst := .v 9, op := .move (.t 56) },
      { dst := .v 10, op := .move (.t 57) }], [], []⟩) (.seq (.region ⟨[
      { dst := .v 11, op := .move (.c (.int .i64 0)) }], [], []⟩) (.seq (.seq (.region ⟨[
      { dst := .t 58, op := .move (.v 7) },
      { dst := .t 59, op := .fieldAddr 0 (.v 4) },
      { dst := .t 60, op := .load none (.t 59) },
      { dst := .t 61, op := .move (.v 8) },
      { dst := .t 62, op := .indexAddr 6 (.t 60) (.t 61) },
      { dst := .t 63, op := .fieldAddr 0 (.t 62) },
      { dst := .t 64, op := .load none (.t 63) },
      { dst := .t 65, op := .call 32 [.t 58, .t 64] },
      { dst := .t 66, op := .move (.t 65) },
      { dst := .t 67, op := .fieldAddr 0 (.v 4), guard := some (.t 66, false) },
      { dst := .t 68, op := .load none (.t 67), guard := some (.t 66, false) },
      { dst := .t 69, op := .move (.v 8), guard := some (.t 66, false) },
      { dst := .t 70, op := .indexAddr 6 (.t 68) (.t 69), guard := some (.t 66, false) },
      { dst := .t 71, op := .fieldAddr 0 (.t 70), guard := some (.t 66, false) },
      { dst := .t 72, op := .load none (.t 71), guard := some (.t 66, false) },
      { dst := .t 73, op := .bin .eql (.t 72) (.c (.int .i64 1)), guard := some (.t 66, false) },
      { dst := .v 74, op := .pick (.t 66) (.c (.bool true)) (.t 73) }], [], []⟩) (.cond (.v 74) (.region ⟨[
      { dst := .v 11, op := .move (.c (.int .i64 1073741824)) }], [], []⟩) (.skip))) (.seq (.region ⟨[
      { dst := .t 75, op := .move (.v 10) },
      { dst := .t 76, op := .bin .neq (.t 75) (.c (.int .i64 0)) },
      { dst := .t 77, op := .move (.t 76) },
      { dst := .t 78, op := .move (.v 9), guard := some (.t 77, false) },
      { dst := .t 79, op := .move (.v 11), guard := some (.t 77, false) },
      { dst := .t 80, op := .bin .neq (.t 78) (.t 79), guard := some (.t 77, false) },
      { dst := .v 81, op := .pick (.t 77) (.c (.bool true)) (.t 80) }], [], []⟩) (.cond (.v 81) (.seq (.region ⟨[
      { dst := .v 2, op := .move (.c (.bool false)) }], [], []⟩) (.ret)) (.skip))))))) (.region ⟨[
      { dst := .t 41, op := .move (.v 8) },
      { dst := .t 42, op := .bin .add (.t 41) (.c (.int .i64 1)) },
      { dst := .v 8, op := .move (.t 42) }], [], []⟩)))))) (.seq (.region ⟨[
      { dst := .t 82, op := .call 41 [] },
      { dst := .v 2, op := .move (.t 82) }], [], []⟩) (.ret)))))))))
def vf8 : VFunc := { vs := [0, 2, 3, 4, 5, 6, 7, 8, 9, 10, 11, 14, 40, 74, 81], nparams := 1, rets := [.tmp (.v 2)], body := vb8 }
/- groupcontrol.groupcontrollaw32.IofairDivides -/
def vb9 : VCode :=
    .seq (.region ⟨[
      { dst := .v 2, op := .move (.c (.bool false)) }], [], []⟩) (.seq (.seq (.region ⟨[
      { dst := .t 17, op := .move (.v 0) },
      { dst := .t 18, op := .call 20 [.t 17] },
      { dst := .v 19, op := .not (.t 18) }], [], []⟩) (.cond (.v 19) (.seq (.region ⟨[
      { dst := .t 20, op := .call 41 [] },
      { dst := .v 2, op := .move (.t 20) }], [], []⟩) (.ret)) (.skip))) (.seq (.region ⟨[
      { dst := .t 21, op := .move (.v 0) },
      { dst := .t 22, op := .call 22 [.t 21] },
      { dst := .v 3, op := .move (.t 22) }], [], []⟩) (.seq (.region ⟨[
      { dst := .t 23, op := .move (.v 3) },
      { dst := .t 24, op := .call 23 [.t 23, .c (.int .i64 9)] },
      { dst := .v 4, op := .alloc [.nil 6, .c (.int .i64 0)] },
      { dst := .none, op := .store 2 (.v 4) (.t 24) }], [], []⟩) (.seq (.region ⟨[
      { dst := .t 25, op := .move (.v 3) },
      { dst := .t 26, op := .load (some 2) (.v 4) },
      { dst := .t 27, op := .call 42 [.t 25, .t 26] },
      { dst := .t 28, op := .move (.v 3) },
      { dst := .t 29, op := .call 44 [.t 28] },
      { dst := .v 5, op := .move (.t 27) },
      { dst := .v 6, op := .move (.t 29) }], [], []⟩) (.seq (.seq (.region ⟨[
      { dst := .v 7, op := .move (.c (.int .i64 0)) }], [], []⟩) (.block 0 (.loop (.seq (.seq (.region ⟨[
      { dst := .t 30, op := .move (.v 7) },
      { dst := .t 31, op := .fieldAddr 0 (.v 4) },
      { dst := .t 32, op := .load none (.t 31) },
      { dst := .t 33, op := .len (.t 32) },
      { dst := .v 34, op := .bin .lss (.t 30) (.t 33) }], [53], []⟩) (.cond (.v 34) (.skip) (.exit 0))) (.seq (.block 1 (.seq (.region ⟨[
      { dst := .t 37, op := .fieldAddr 0 (.v 4) },
      { dst := .t 38, op := .load none (.t 37) },
      { dst := .t 39, op := .move (.v 7) },
      { dst := .t 40, op := .indexAddr 6 (.t 38) (.t 39) },
      { dst := .t 41, op := .fieldAddr 0 (.t 40) },
      { dst := .t 42, op := .load none (.t 41) },
      { dst := .v 8, op := .move (.t 42) }], [], []⟩) (.seq (.region ⟨[
      { dst := .t 44, op := .load (some 2) (.v 4) },
      { dst := .t 45, op := .move (.v 5) },
      { dst := .t 46, op := .move (.v 6) },
      { dst := .t 47, op := .move (.v 8) },
      { dst := .t 48, op := .call 43 [.t 44, .t 45, .t 46, .t 47] },
      { dst := .t 43, op := .move (.t 48) },
      { dst := .t 49, op := .extract (.t 43) 0 },
      { dst := .t 50, op := .extract (.t 43) 1 },
      { dst := .v 9, op := .move (.t 49) },
      { dst := .v 10, op := .move (.t 50) }], [], []⟩) (.seq (.region ⟨[
      { dst := .v 11, op := .move (.c (.int .i64 0)) },
      { dst := .v 12, op := .move (.c (.int .i64 0)) }], [], []⟩) (.seq (.region ⟨[
      { dst := .t 51, op := .load (some 2) (.v 4) },
      { dst := .t 52, op := .move (.v 8) },
      { dst := .t 53, op := .call 45 [.t 51, .t 52] },
      { dst := .v 13, op := .move (.t 53) }], [], []⟩) (.seq (.seq (.region ⟨[
      { dst := .v 14, op := .move (.c (.int .i64 0)) }], [], []⟩) (.block 2 (.loop (.seq (.seq (.region ⟨[
      { dst := .t 54, op := .move (.v 14) },
      { dst := .t 55, op := .move (.v 13) },
      { dst := .t 56, op := .len (.t 55) },
      { dst := .v 57, op := .bin .lss (.t 54) (.t 56) }], [], []⟩) (.cond (.v 57) (.skip) (.exit 2))) (.seq (.block 3 (.seq (.region ⟨[
      { dst := .t 61, op := .load (some 2) (.v 4) },
      { dst := .t 62, op := .move (.v 5) },
      { dst := .t 63, op := .move (.v 6) },
      { dst := .t 64, op := .move (.v 13) },
      { dst := .t 65, op := .move (.v 14) },
      { dst := .t 66, op := .indexAddr 1 (.t 64) (.t 65) },
      { dst := .t 67, op := .load none (.t 66) },
      { dst := .t 68, op := .call 43 [.t 61, .t 62, .t 63, .t 67] },
      { dst := .t 60, op := .move (.t 68) },
      { dst := .t 69, op := .extract (.t 60) 0 },
      { dst := .t 70, op := .extract (.t 60) 1 },
      { dst := .v 15, op := .move (.t 69) },
      { dst := .v 16, op := .move (.t 70) }], [], []⟩) (.seq (.seq (.region ⟨[
      { dst := .t 71, op := .move (.v 16) },
      { dst := .t 72, op := .bin .neq (.t 71) (.c (.int .i64 0)) },
      { dst := .t 73, op := .move (.t 72) },
      { dst := .t 74, op := .move (.v 15), guard := some (.t 73, false) },
      { dst := .t 75, op := .bin .lss (.t 74) (.c (.int .i64 0)), guard := some (.t 73, false) },
      { dst := .v 76, op := .pick (.t 73) (.c (.bool true)) (.t 75) }], [], []⟩) (.cond (.v 76) (.seq (.region ⟨[
      { dst := .v 2, op := .move (.c (.bool false)) }], [], []⟩) (.ret)) (.skip))) (.seq (.seq (.region ⟨[
      { dst := .t 77, op := .move (.v 15) },
      { dst := .v 78, op := .bin .gtr (.t 77) (.c (.int .i64 0)) }], [], []⟩) (.cond (.v 78) (.region ⟨[
      { dst := .t 79, op := .move (.v 12) },
      { dst := .t 80, op := .bin .add (.t 79) (.c (.int .i64 1)) },
      { dst := .v 12, op := .move (.t 80) }], [], []⟩) (.skip))) (.region ⟨[
      { dst := .t 81, op := .move (.v 11) },
      { dst := .t 82, op := .move (.v 15) },
      { dst := .t 83, op := .bin .add (.t 81) (.t 82) },
      { dst := .v 11, op := .move (.t 83) }], [], []⟩))))) (.region ⟨[
      { dst := .t 58, op := .move (.v 14) },
      { dst := .t 59, op := .bin .add (.t 58) (.c (.int .i64 1)) },
      { dst := .v 14, op := .move (.t 59) }], [], []⟩)))))) (.seq (.region ⟨[
      { dst := .t 84, op := .move (.v 10) },
      { dst := .t 85, op := .bin .neq (.t 84) (.c (.int .i64 0)) },
      { dst := .t 86, op := .move (.t 85) },
      { dst := .t 87, op := .move (.v 11), guard := some (.t 86, false) },
      { dst := .t 88, op := .move (.v 9), guard := some (.t 86, false) },
      { dst := .t 89, op := .move (.v 12), guard := some (.t 86, false) },
      { dst := .t 90, op := .bin .add (.t 88) (.t 89), guard := some (.t 86, false) },
      { dst := .t 91, op := .bin .gtr (.t 87) (.t 90), guard := some (.t 86, false) },
      { dst := .t 92, op := .pick (.t 86) (.c (.bool true)) (.t 91) },
      { dst := .t 93, op := .move (.t 92) },
      { dst := .t 94, op := .move (.v 12), guard := some (.t 93, false) },
      { dst := .t 95, op := .bin .gtr (.t 94) (.c (.int .i64 0)), guard := some (.t 93, false) },
      { dst := .t 96, op := .move (.t 95), guard := some (.t 93, false) },
      { dst := .t 97, op := .move (.v 11), guard := some (.t 96, true) },
      { dst := .t 98, op := .move (.v 9), guard := some (.t 96, true) },
      { dst := .t 99, op := .move (.v 12), guard := some (.t 96, true) },
      { dst := .t 100, op := .bin .sub (.t 98) (.t 99), guard := some (.t 96, true) },
      { dst := .t 101, op := .bin .lss (.t 97) (.t 100), guard := some (.t 96, true) },
      { dst := .t 102, op := .pick (.t 96) (.t 101) (.c (.bool false)), guard := some (.t 93, false) },
      { dst := .t 103, op := .pick (.t 93) (.c (.bool true)) (.t 102) },
      { dst := .t 104, op := .move (.t 103) },
      { dst := .t 105, op := .move (.v 12), guard := some (.t 104, false) },
      { dst := .t 106, op := .bin .gtr (.t 105) (.c (.int .i64 0)), guard := some (.t 104, false) },
      { dst := .t 107, op := .move (.t 106), guard := some (.t 104, false) },
      { dst := .t 108, op := .move (.v 9), guard := some (.t 107, true) },
      { dst := .t 109, op := .bin .eql (.t 108) (.c (.int .i64 0)), guard := some (.t 107, true) },
      { dst := .t 110, op := .pick (.t 107) (.t 109) (.c (.bool false)), guard := some (.t 104, false) },
      { dst := .v 111, op := .pick (.t 104) (.c (.bool true)) (.t 110) }], [], []⟩) (.cond (.v 111) (.seq (.region ⟨[
      { dst := .v 2, op := .move (.c (.bool false)) }], [], []⟩) (.ret)) (.skip))))))))) (.region ⟨[
      { dst := .t 35, op := .move (.v 7) },
      { dst := .t 36, op := .bin .add (.t 35) (.c (.int .i64 1)) },
      { dst := .v 7, op := .move (.t 36) }], [], []⟩)))))) (.seq (.region ⟨[
      { dst := .t 112, op := .call 41 [] },
      { dst := .v 2, op := .move (.t 112) }], [], []⟩) (.ret)))))))
def vf9 : VFunc := { vs := [0, 2, 3, 4, 5, 6, 7, 8, 9, 10, 11, 12, 13, 14, 15, 16, 19, 34, 57, 76, 78, 111], nparams := 1, rets := [.tmp (.v 2)], body := vb9 }
/- groupcontrol.groupcontrollaw32.IofairShrinks -/
def vb10 : VCode :=
    .seq (.region ⟨[
      { dst := .v 4, op := .move (.c (.bool false)) }], [], []⟩) (.seq (.seq (.region ⟨[
      { dst := .t 19, op := .move (.v 0) },
      { dst := .t 20, op := .call 20 [.t 19] },
      { dst := .v 21, op := .not (.t 20) }], [], []⟩) (.cond (.v 21) (.seq (.region ⟨[
      { dst := .t 22, op := .call 41 [] },
      { dst := .v 4, op := .move (.t 22) }], [], []⟩) (.ret)) (.skip))) (.seq (.region ⟨[
      { dst := .t 23, op := .move (.v 0) },
      { dst := .t 24, op := .call 22 [.t 23] },
      { dst := .v 5, op := .move (.t 24) }], [], []⟩) (.seq (.region ⟨[
      { dst := .t 25, op := .move (.v 5) },
      { dst := .t 26, op := .call 23 [.t 25, .c (.int .i64 8)] },
      { dst := .v 6, op := .alloc [.nil 6, .c (.int .i64 0)] },
      { dst := .none, op := .store 2 (.v 6) (.t 26) }], [], []⟩) (.seq (.region ⟨[
      { dst := .t 27, op := .move (.v 5) },
      { dst := .t 28, op := .load (some 2) (.v 6) },
      { dst := .t 29, op := .call 42 [.t 27, .t 28] },
      { dst := .t 30, op := .move (.v 5) },
      { dst := .t 31, op := .call 44 [.t 30] },
      { dst := .v 7, op := .move (.t 29) },
      { dst := .v 8, op := .move (.t 31) }], [], []⟩) (.seq (.region ⟨[
      { dst := .t 32, op := .fieldAddr 0 (.v 6) },
      { dst := .t 33, op := .load none (.t 32) },
      { dst := .t 34, op := .move (.v 5) },
      { dst := .t 35, op := .fieldAddr 0 (.v 6) },
      { dst := .t 36, op := .load none (.t 35) },
      { dst := .t 37, op := .len (.t 36) },
      { dst := .t 38, op := .call 27 [.t 34, .t 37] },
      { dst := .t 39, op := .indexAddr 6 (.t 33) (.t 38) },
      { dst := .t 40, op := .fieldAddr 0 (.t 39) },
      { dst := .t 41, op := .load none (.t 40) },
      { dst := .v 9, op := .move (.t 41) }], [], [(1, 6)]⟩) (.seq (.region ⟨[
      { dst := .t 42, op := .move (.v 8) },
      { dst := .t 43, op := .move (.v 9) },
      { dst := .t 44, op := .buildSlice 1 [.t 43] },
      { dst := .t 45, op := .append 1 8 (.t 42) (.t 44) },
      { dst := .v 8, op := .move (.t 45) }], [], []⟩) (.seq (.region ⟨[
      { dst := .t 47, op := .load (some 2) (.v 6) },
      { dst := .t 48, op := .move (.v 7) },
      { dst := .t 49, op := .move (.v 8) },
      { dst := .t 50, op := .move (.v 9) },
      { dst := .t 51, op := .call 43 [.t 47, .t 48, .t 49, .t 50] },
      { dst := .t 46, op := .move (.t 51) },
      { dst := .t 52, op := .extract (.t 46) 0 },
      { dst := .t 53, op := .extract (.t 46) 1 },
      { dst := .v 10, op := .move (.t 52) },
      { dst := .v 11, op := .move (.t 53) }], [], []⟩) (.seq (.region ⟨[
      { dst := .t 55, op := .load (some 2) (.v 6) },
      { dst := .t 56, op := .move (.v 7) },
      { dst := .t 57, op := .move (.v 8) },
      { dst := .t 58, op := .appendNil 1 8 (.t 57) },
      { dst := .t 59, op := .move (.v 5) },
      { dst := .t 60, op := .load (some 2) (.v 6) },
      { dst := .t 61, op := .call 28 [.t 59, .t 60] },
      { dst := .t 62, op := .buildSlice 1 [.t 61] },
      { dst := .t 63, op := .append 1 8 (.t 58) (.t 62) },
      { dst := .t 64, op := .move (.v 9) },
      { dst := .t 65, op := .call 43 [.t 55, .t 56, .t 63, .t 64] },
      { dst := .t 54, op := .move (.t 65) },
      { dst := .t 66, op := .extract (.t 54) 0 },
      { dst := .t 67, op := .extract (.t 54) 1 },
      { dst := .v 12, op := .move (.t 66) },
      { dst := .v 13, op := .move (.t 67) }], [], [(0, 3), (3, 5), (0, 6), (0, 7), (0, 8)]⟩) (.seq (.region ⟨[
      { dst := .v 14, op := .newArr 2 }], [], []⟩) (.seq (.seq (.region ⟨[
      { dst := .v 15, op := .move (.c (.int .i64 0)) }], [], []⟩) (.block 0 (.loop (.seq (.seq (.region ⟨[
      { dst := .t 68, op := .move (.v 15) },
      { dst := .t 69, op := .fieldAddr 0 (.v 6) },
      { dst := .t 70, op := .load none (.t 69) },
      { dst := .t 71, op := .len (.t 70) },
      { dst := .v 72, op := .bin .lss (.t 68) (.t 71) }], [], []⟩) (.cond (.v 72) (.skip) (.exit 0))) (.seq (.block 1 (.seq (.region ⟨[
      { dst := .t 75, op := .fieldAddr 0 (.v 6) },
      { dst := .t 76, op := .load none (.t 75) },
      { dst := .t 77, op := .move (.v 15) },
      { dst := .t 78, op := .indexAddr 6 (.t 76) (.t 77) },
      { dst := .t 79, op := .fieldAddr 0 (.t 78) },
      { dst := .t 80, op := .load none (.t 79) },
      { dst := .t 81, op := .move (.v 7) },
      { dst := .t 82, op := .fieldAddr 0 (.v 6) },
      { dst := .t 83, op := .load none (.t 82) },
      { dst := .t 84, op := .move (.v 15) },
      { dst := .t 85, op := .indexAddr 6 (.t 83) (.t 84) },
      { dst := .t 86, op := .fieldAddr 0 (.t 85) },
      { dst := .t 87, op := .load none (.t 86) },
      { dst := .t 88, op := .call 46 [.t 81, .t 87] },
      { dst := .t 89, op := .build [.a (.t 80) 0 1, .a (.t 88) 0 1] },
      { dst := .v 16, op := .alloc [.c (.int .i64 0), .c (.int .i64 0)] },
      { dst := .none, op := .store 2 (.v 16) (.t 89) }], [], [(1, 13), (3, 13), (5, 13), (1, 15), (3, 15), (5, 15), (8, 15), (10, 15), (12, 15), (13, 15), (14, 15)]⟩) (.seq (.seq (.region ⟨[
      { dst := .t 90, op := .fieldAddr 0 (.v 16) },
      { dst := .t 91, op := .load none (.t 90) },
      { dst := .t 92, op := .move (.v 9) },
      { dst := .v 93, op := .bin .eql (.t 91) (.t 92) }], [], []⟩) (.cond (.v 93) (.region ⟨[
      { dst := .t 94, op := .fieldAddr 1 (.v 16) },
      { dst := .t 95, op := .load none (.t 94) },
      { dst := .t 96, op := .move (.v 1) },
      { dst := .t 97, op := .buildFz 1 [.t 96] },
      { dst := .t 98, op := .call 22 [.t 97] },
      { dst := .t 99, op := .call 27 [.t 98, .c (.int .i64 500)] },
      { dst := .t 100, op := .bin .add (.t 95) (.t 99) },
      { dst := .t 101, op := .minmax false [.c (.int .i64 10000), .t 100] },
      { dst := .t 102, op := .fieldAddr 1 (.v 16) },
      { dst := .none, op := .store 1 (.t 102) (.t 101) }], [], [(1, 4), (1, 5)]⟩) (.skip))) (.region ⟨[
      { dst := .t 103, op := .move (.v 14) },
      { dst := .t 104, op := .load (some 2) (.v 16) },
      { dst := .t 105, op := .buildSlice 2 [.t 104] },
      { dst := .t 106, op := .append 2 16 (.t 103) (.t 105) },
      { dst := .v 14, op := .move (.t 106) }], [], []⟩)))) (.region ⟨[
      { dst := .t 73, op := .move (.v 15) },
      { dst := .t 74, op := .bin .add (.t 73) (.c (.int .i64 1)) },
      { dst := .v 15, op := .move (.t 74) }], [], []⟩)))))) (.seq (.region ⟨[
      { dst := .t 108, op := .load (some 2) (.v 6) },
      { dst := .t 109, op := .move (.v 14) },
      { dst := .t 110, op := .move (.v 8) },
      { dst := .t 111, op := .move (.v 9) },
      { dst := .t 112, op := .call 43 [.t 108, .t 109, .t 110, .t 111] },
      { dst := .t 107, op := .move (.t 112) },
      { dst := .t 113, op := .extract (.t 107) 0 },
      { dst := .t 114, op := .extract (.t 107) 1 },
      { dst := .v 17, op := .move (.t 113) },
      { dst := .v 18, op := .move (.t 114) }], [], []⟩) (.seq (.region ⟨[
      { dst := .t 115, op := .move (.v 11) },
      { dst := .t 116, op := .bin .eql (.t 115) (.c (.int .i64 0)) },
      { dst := .t 117, op := .move (.t 116) },
      { dst := .t 118, op := .move (.v 13), guard := some (.t 117, true) },
      { dst := .t 119, op := .bin .eql (.t 118) (.c (.int .i64 0)), guard := some (.t 117, true) },
      { dst := .t 120, op := .pick (.t 117) (.t 119) (.c (.bool false)) },
      { dst := .t 121, op := .move (.t 120) },
      { dst := .t 122, op := .move (.v 18), guard := some (.t 121, true) },
      { dst := .t 123, op := .bin .eql (.t 122) (.c (.int .i64 0)), guard := some (.t 121, true) },
      { dst := .t 124, op := .pick (.t 121) (.t 123) (.c (.bool false)) },
      { dst := .t 125, op := .move (.t 124) },
      { dst := .t 126, op := .move (.v 12), guard := some (.t 125, true) },
      { dst := .t 127, op := .move (.v 10), guard := some (.t 125, true) },
      { dst := .t 128, op := .bin .leq (.t 126) (.t 127), guard := some (.t 125, true) },
      { dst := .t 129, op := .pick (.t 125) (.t 128) (.c (.bool false)) },
      { dst := .t 130, op := .move (.t 129) },
      { dst := .t 131, op := .move (.v 17), guard := some (.t 130, true) },
      { dst := .t 132, op := .move (.v 10), guard := some (.t 130, true) },
      { dst := .t 133, op := .bin .geq (.t 131) (.t 132), guard := some (.t 130, true) },
      { dst := .t 134, op := .pick (.t 130) (.t 133) (.c (.bool false)) },
      { dst := .t 135, op := .move (.t 134) },
      { dst := .t 136, op := .move (.v 10), guard := some (.t 135, true) },
      { dst := .t 137, op := .bin .gtr (.t 136) (.c (.int .i64 0)), guard := some (.t 135, true) },
      { dst := .t 138, op := .pick (.t 135) (.t 137) (.c (.bool false)) },
      { dst := .t 139, op := .move (.t 138) },
      { dst := .t 140, op := .call 41 [], guard := some (.t 139, true) },
      { dst := .t 141, op := .pick (.t 139) (.t 140) (.c (.bool false)) },
      { dst := .v 4, op := .move (.t 141) }], [], []⟩) (.ret)))))))))))))
def vf10 : VFunc := { vs := [0, 1, 4, 5, 6, 7, 8, 9, 10, 11, 12, 13, 14, 15, 16, 17, 18, 21, 72, 93], nparams := 2, rets := [.tmp (.v 4)], body := vb10 }
/- groupcontrol.groupcontrollaw32.IofairBounds -/
def vb11 : VCode :=
    .seq (.region ⟨[
      { dst := .v 2, op := .move (.c (.bool false)) }], [], []⟩) (.seq (.seq (.region ⟨[
      { dst := .t 16, op := .move (.v 0) },
      { dst := .t 17, op := .call 20 [.t 16] },
      { dst := .v 18, op := .not (.t 17) }], [], []⟩) (.cond (.v 18) (.seq (.region ⟨[
      { dst := .t 19, op := .call 41 [] },
      { dst := .v 2, op := .move (.t 19) }], [], []⟩) (.ret)) (.skip))) (.seq (.region ⟨[
      { dst := .t 20, op := .move (.v 0) },
      { dst := .t 21, op := .call 22 [.t 20] },
      { dst := .v 3, op := .move (.t 21) }], [], []⟩) (.seq (.region ⟨[
      { dst := .t 22, op := .call 47 [] },
      { dst := .v 4, op := .alloc [.nil 6, .c (.int .i64 0)] },
      { dst := .none, op := .store 2 (.v 4) (.t 22) }], [], []⟩) (.seq (.region ⟨[
      { dst := .t 23, op := .move (.v 3) },
      { dst := .t 24, op := .buildFz 1 [.c (.int .i64 1073741824), .c (.int .i64 536870912), .c (.int .i64 268435456), .c (.int .i64 107374182), .c (.int .i64 1000)] },
      { dst := .t 25, op := .call 48 [.t 23, .t 24] },
      { dst := .t 26, op := .move (.v 3) },
      { dst := .t 27, op := .buildFz 1 [.c (.int .i64 0), .c (.int .i64 10), .c (.int .i64 200)] },
      { dst := .t 28, op := .call 48 [.t 26, .t 27] },
      { dst := .v 5, op := .move (.t 25) },
      { dst := .v 6, op := .move (.t 28) }], [], []⟩) (.seq (.region ⟨[
      { dst := .t 29, op := .move (.v 3) },
      { dst := .t 30, op := .call 27 [.t 29, .c (.int .i64 300)] },
      { dst := .v 7, op := .move (.t 30) }], [], []⟩) (.seq (.region ⟨[
      { dst := .t 31, op := .move (.v 7) },
      { dst := .v 8, op := .move (.t 31) },
      { dst := .v 9, op := .move (.c (.int .i64 0)) },
      { dst := .v 10, op := .move (.c (.int .i64 0)) }], [], []⟩) (.seq (.region ⟨[
      { dst := .v 11, op := .newArr 2 }], [], []⟩) (.seq (.seq (.region ⟨[
      { dst := .v 12, op := .move (.c (.int .i64 0)) }], [], []⟩) (.block 0 (.loop (.seq (.seq (.region ⟨[
      { dst := .t 32, op := .move (.v 12) },
      { dst := .v 33, op := .bin .lss (.t 32) (.c (.int .i64 25)) }], [11, 50], []⟩) (.cond (.v 33) (.skip) (.exit 0))) (.seq (.block 1 (.seq (.region ⟨[
      { dst := .t 36, op := .move (.v 8) },
      { dst := .t 37, op := .move (.v 3) },
      { dst := .t 38, op := .call 27 [.t 37, .c (.int .i64 40)] },
      { dst := .t 39, op := .bin .add (.t 36) (.t 38) },
      { dst := .v 8, op := .move (.t 39) }], [], []⟩) (.seq (.region ⟨[
      { dst := .t 40, op := .move (.v 3) },
      { dst := .t 41, op := .call 27 [.t 40, .c (.int .i64 30)] },
      { dst := .t 42, op := .bin .add (.c (.int .i64 1)) (.t 41) },
      { dst := .v 13, op := .move (.t 42) }], [], []⟩) (.seq (.region ⟨[
      { dst := .t 44, op := .load (some 2) (.v 4) },
      { dst := .t 45, op := .move (.v 11) },
      { dst := .t 46, op := .move (.v 5) },
      { dst := .t 47, op := .move (.v 13) },
      { dst := .t 48, op := .move (.v 8) },
      { dst := .t 49, op := .move (.v 6) },
      { dst := .t 50, op := .call 49 [.t 44, .t 45, .c (.int .i64 2), .t 46, .t 47, .t 48, .t 49] },
      { dst := .t 43, op := .move (.t 50) },
      { dst := .t 51, op := .extract (.t 43) 0 },
      { dst := .t 52, op := .extract (.t 43) 1 },
      { dst := .v 14, op := .move (.t 51) },
      { dst := .v 15, op := .move (.t 52) }], [], []⟩) (.seq (.seq (.region ⟨[
      { dst := .t 53, op := .move (.v 15) },
      { dst := .t 54, op := .bin .eql (.t 53) (.c (.int .i64 0)) },
      { dst := .t 55, op := .load (some 2) (.v 4) },
      { dst := .t 56, op := .move (.v 11) },
      { dst := .t 57, op := .move (.v 8) },
      { dst := .t 58, op := .call 50 [.t 55, .t 56, .c (.int .i64 2), .t 57] },
      { dst := .t 59, op := .eqB true (.t 54) (.t 58) },
      { dst := .t 60, op := .move (.t 59) },
      { dst := .t 61, op := .move (.v 15), guard := some (.t 60, false) },
      { dst := .t 62, op := .bin .neq (.t 61) (.c (.int .i64 0)), guard := some (.t 60, false) },
      { dst := .t 63, op := .move (.t 62), guard := some (.t 60, false) },
      { dst := .t 64, op := .move (.v 15), guard := some (.t 63, true) },
      { dst := .t 65, op := .bin .neq (.t 64) (.c (.int .i64 11)), guard := some (.t 63, true) },
      { dst := .t 66, op := .pick (.t 63) (.t 65) (.c (.bool false)), guard := some (.t 60, false) },
      { dst := .v 67, op := .pick (.t 60) (.c (.bool true)) (.t 66) }], [], []⟩) (.cond (.v 67) (.seq (.region ⟨[
      { dst := .v 2, op := .move (.c (.bool false)) }], [], []⟩) (.ret)) (.skip))) (.seq (.seq (.region ⟨[
      { dst := .t 68, op := .move (.v 15) },
      { dst := .v 69, op := .bin .eql (.t 68) (.c (.int .i64 0)) }], [], []⟩) (.cond (.v 69) (.region ⟨[
      { dst := .t 70, op := .move (.v 14) },
      { dst := .t 71, op := .move (.v 9) },
      { dst := .t 72, op := .move (.v 13) },
      { dst := .t 73, op := .bin .add (.t 71) (.t 72) },
      { dst := .t 74, op := .move (.v 13) },
      { dst := .v 11, op := .move (.t 70) },
      { dst := .v 9, op := .move (.t 73) },
      { dst := .v 10, op := .move (.t 74) }], [], []⟩) (.skip))) (.seq (.region ⟨[
      { dst := .t 75, op := .move (.v 9) },
      { dst := .t 76, op := .move (.v 10) },
      { dst := .t 77, op := .bin .sub (.t 75) (.t 76) },
      { dst := .t 78, op := .bin .mul (.t 77) (.c (.int .i64 1073741824)) },
      { dst := .t 79, op := .move (.v 5) },
      { dst := .t 80, op := .move (.v 8) },
      { dst := .t 81, op := .move (.v 7) },
      { dst := .t 82, op := .bin .sub (.t 80) (.t 81) },
      { dst := .t 83, op := .move (.v 6) },
      { dst := .t 84, op := .bin .add (.t 82) (.t 83) },
      { dst := .t 85, op := .bin .mul (.t 79) (.t 84) },
      { dst := .v 86, op := .bin .gtr (.t 78) (.t 85) }], [], []⟩) (.cond (.v 86) (.seq (.region ⟨[
      { dst := .v 2, op := .move (.c (.bool false)) }], [], []⟩) (.ret)) (.skip))))))))) (.region ⟨[
      { dst := .t 34, op := .move (.v 12) },
      { dst := .t 35, op := .bin .add (.t 34) (.c (.int .i64 1)) },
      { dst := .v 12, op := .move (.t 35) }], [], []⟩)))))) (.seq (.region ⟨[
      { dst := .t 87, op := .call 41 [] },
      { dst := .v 2, op := .move (.t 87) }], [], []⟩) (.ret))))))))))
def vf11 : VFunc := { vs := [0, 2, 3, 4, 5, 6, 7, 8, 9, 10, 11, 12, 13, 14, 15, 18, 33, 67, 69, 86], nparams := 1, rets := [.tmp (.v 2)], body := vb11 }
/- groupcontrol.groupcontrollaw22.CounterSums -/
def vb12 : VCode :=
    .seq (.region ⟨[
      { dst := .v 2, op := .move (.c (.bool false)) }], [], []⟩) (.seq (.seq (.region ⟨[
      { dst := .t 14, op := .move (.v 0) },
      { dst := .t 15, op := .call 20 [.t 14] },
      { dst := .v 16, op := .not (.t 15) }], [], []⟩) (.cond (.v 16) (.seq (.region ⟨[
      { dst := .t 17, op := .call 51 [] },
      { dst := .v 2, op := .move (.t 17) }], [], []⟩) (.ret)) (.skip))) (.seq (.region ⟨[
      { dst := .t 18, op := .move (.v 0) },
      { dst := .t 19, op := .call 22 [.t 18] },
      { dst := .v 3, op := .move (.t 19) }], [], []⟩) (.seq (.region ⟨[
      { dst := .t 20, op := .move (.v 3) },
      { dst := .t 21, op := .call 23 [.t 20, .c (.int .i64 8)] },
      { dst := .v 4, op := .alloc [.nil 6, .c (.int .i64 0)] },
      { dst := .none, op := .store 2 (.v 4) (.t 21) }], [], []⟩) (.seq (.region ⟨[
      { dst := .t 22, op := .move (.v 3) },
      { dst := .t 23, op := .load (some 2) (.v 4) },
      { dst := .t 24, op := .call 52 [.t 22, .t 23] },
      { dst := .v 5, op := .alloc [.nil 2] },
      { dst := .none, op := .store 1 (.v 5) (.t 24) }], [], []⟩) (.seq (.seq (.region ⟨[
      { dst := .v 6, op := .move (.c (.int .i64 0)) }], [], []⟩) (.block 0 (.loop (.seq (.seq (.region ⟨[
      { dst := .t 25, op := .move (.v 6) },
      { dst := .t 26, op := .fieldAddr 0 (.v 4) },
      { dst := .t 27, op := .load none (.t 26) },
      { dst := .t 28, op := .len (.t 27) },
      { dst := .v 29, op := .bin .lss (.t 25) (.t 28) }], [54], []⟩) (.cond (.v 29) (.skip) (.exit 0))) (.seq (.block 1 (.seq (.region ⟨[
      { dst := .t 32, op := .fieldAddr 0 (.v 4) },
      { dst := .t 33, op := .load none (.t 32) },
      { dst := .t 34, op := .move (.v 6) },
      { dst := .t 35, op := .indexAddr 6 (.t 33) (.t 34) },
      { dst := .t 36, op := .fieldAddr 0 (.t 35) },
      { dst := .t 37, op := .load none (.t 36) },
      { dst := .v 7, op := .move (.t 37) }], [], []⟩) (.seq (.region ⟨[
      { dst := .t 39, op := .load (some 2) (.v 4) },
      { dst := .t 40, op := .load (some 1) (.v 5) },
      { dst := .t 41, op := .move (.v 7) },
      { dst := .t 42, op := .call 53 [.t 39, .t 40, .t 41] },
      { dst := .t 38, op := .move (.t 42) },
      { dst := .t 43, op := .extract (.t 38) 0 },
      { dst := .t 44, op := .extract (.t 38) 1 },
      { dst := .v 8, op := .move (.t 43) },
      { dst := .v 9, op := .move (.t 44) }], [], []⟩) (.seq (.seq (.region ⟨[
      { dst := .t 45, op := .move (.v 9) },
      { dst := .v 46, op := .bin .neq (.t 45) (.c (.int .i64 0)) }], [], []⟩) (.cond (.v 46) (.seq (.region ⟨[
      { dst := .v 2, op := .move (.c (.bool false)) }], [], []⟩) (.ret)) (.skip))) (.seq (.region ⟨[
      { dst := .t 47, op := .move (.v 8) },
      { dst := .t 48, op := .load (some 1) (.v 5) },
      { dst := .t 49, op := .move (.v 7) },
      { dst := .t 50, op := .call 54 [.t 48, .t 49] },
      { dst := .t 51, op := .bin .sub (.t 47) (.t 50) },
      { dst := .v 8, op := .move (.t 51) }], [], []⟩) (.seq (.region ⟨[
      { dst := .t 52, op := .load (some 2) (.v 4) },
      { dst := .t 53, op := .move (.v 7) },
      { dst := .t 54, op := .call 45 [.t 52, .t 53] },
      { dst := .v 10, op := .move (.t 54) }], [], []⟩) (.seq (.seq (.region ⟨[
      { dst := .v 11, op := .move (.c (.int .i64 0)) }], [], []⟩) (.block 2 (.loop (.seq (.seq (.region ⟨[
      { dst := .t 55, op := .move (.v 11) },
      { dst := .t 56, op := .move (.v 10) },
      { dst := .t 57, op := .len (.t 56) },
      { dst := .v 58, op := .bin .lss (.t 55) (.t 57) }], [], []⟩) (.cond (.v 58) (.skip) (.exit 2))) (.seq (.block 3 (.seq (.region ⟨[
      { dst := .t 62, op := .load (some 2) (.v 4) },
      { dst := .t 63, op := .load (some 1) (.v 5) },
      { dst := .t 64, op := .move (.v 10) },
      { dst := .t 65, op := .move (.v 11) },
      { dst := .t 66, op := .indexAddr 1 (.t 64) (.t 65) },
      { dst := .t 67, op := .load none (.t 66) },
      { dst := .t 68, op := .call 53 [.t 62, .t 63, .t 67] },
      { dst := .t 61, op := .move (.t 68) },
      { dst := .t 69, op := .extract (.t 61) 0 },
      { dst := .t 70, op := .extract (.t 61) 1 },
      { dst := .v 12, op := .move (.t 69) },
      { dst := .t 13, op := .move (.t 70) }], [], []⟩) (.region ⟨[
      { dst := .t 71, op := .move (.v 8) },
      { dst := .t 72, op := .move (.v 12) },
      { dst := .t 73, op := .bin .sub (.t 71) (.t 72) },
      { dst := .v 8, op := .move (.t 73) }], [], []⟩))) (.region ⟨[
      { dst := .t 59, op := .move (.v 11) },
      { dst := .t 60, op := .bin .add (.t 59) (.c (.int .i64 1)) },
      { dst := .v 11, op := .move (.t 60) }], [], []⟩)))))) (.seq (.region ⟨[
      { dst := .t 74, op := .move (.v 8) },
      { dst := .v 75, op := .bin .neq (.t 74) (.c (.int .i64 0)) }], [], []⟩) (.cond (.v 75) (.seq (.region ⟨[
      { dst := .v 2, op := .move (.c (.bool false)) }], [], []⟩) (.ret)) (.skip)))))))))) (.region ⟨[
      { dst := .t 30, op := .move (.v 6) },
      { dst := .t 31, op := .bin .add (.t 30) (.c (.int .i64 1)) },
      { dst := .v 6, op := .move (.t 31) }], [], []⟩)))))) (.seq (.region ⟨[
      { dst := .t 76, op := .call 51 [] },
      { dst := .v 2, op := .move (.t 76) }], [], []⟩) (.ret)))))))
def vf12 : VFunc := { vs := [0, 2, 3, 4, 5, 6, 7, 8, 9, 10, 11, 12, 16, 29, 46, 58, 75], nparams := 1, rets := [.tmp (.v 2)], body := vb12 }
/- groupcontrol.groupcontrollaw22.CounterRemoves -/
def vb13 : VCode :=
    .seq (.region ⟨[
      { dst := .v 2, op := .move (.c (.bool false)) }], [], []⟩) (.seq (.seq (.region ⟨[
      { dst := .t 17, op := .move (.v 0) },
      { dst := .t 18, op := .call 20 [.t 17] },
      { dst := .v 19, op := .not (.t 18) }], [], []⟩) (.cond (.v 19) (.seq (.region ⟨[
      { dst := .t 20, op := .call 51 [] },
      { dst := .v 2, op := .move (.t 20) }], [], []⟩) (.ret)) (.skip))) (.seq (.region ⟨[
      { dst := .t 21, op := .move (.v 0) },
      { dst := .t 22, op := .call 22 [.t 21] },
      { dst := .v 3, op := .move (.t 22) }], [], []⟩) (.seq (.region ⟨[
      { dst := .t 23, op := .move (.v 3) },
      { dst := .t 24, op := .call 23 [.t 23, .c (.int .i64 6)] },
      { dst := .v 4, op := .alloc [.nil 6, .c (.int .i64 0)] },
      { dst := .none, op := .store 2 (.v 4) (.t 24) }], [], []⟩) (.seq (.region ⟨[
      { dst := .t 25, op := .move (.v 3) },
      { dst := .t 26, op := .load (some 2) (.v 4) },
      { dst := .t 27, op := .call 52 [.t 25, .t 26] },
      { dst := .v 5, op := .alloc [.nil 2] },
      { dst := .none, op := .store 1 (.v 5) (.t 27) }], [], []⟩) (.seq (.seq (.region ⟨[
      { dst := .v 6, op := .move (.c (.int .i64 0)) }], [], []⟩) (.block 0 (.loop (.seq (.seq (.region ⟨[
      { dst := .t 28, op := .move (.v 6) },
      { dst := .t 29, op := .fieldAddr 0 (.v 4) },
      { dst := .t 30, op := .load none (.t 29) },
      { dst := .t 31, op := .len (.t 30) },
      { dst := .v 32, op := .bin .lss (.t 28) (.t 31) }], [8, 10, 45, 51], []⟩) (.cond (.v 32) (.skip) (.exit 0))) (.seq (.block 1 (.seq (.region ⟨[
      { dst := .t 35, op := .fieldAddr 0 (.v 4) },
      { dst := .t 36, op := .load none (.t 35) },
      { dst := .t 37, op := .move (.v 6) },
      { dst := .t 38, op := .indexAddr 6 (.t 36) (.t 37) },
      { dst := .t 39, op := .fieldAddr 0 (.t 38) },
      { dst := .t 40, op := .load none (.t 39) },
      { dst := .v 7, op := .move (.t 40) }], [], []⟩) (.seq (.region ⟨[
      { dst := .t 42, op := .load (some 2) (.v 4) },
      { dst := .t 43, op := .load (some 1) (.v 5) },
      { dst := .t 44, op := .move (.v 7) },
      { dst := .t 45, op := .call 55 [.t 42, .t 43, .t 44] },
      { dst := .t 41, op := .move (.t 45) },
      { dst := .t 46, op := .extract (.t 41) 0 },
      { dst := .t 47, op := .extract (.t 41) 1 },
      { dst := .v 8, op := .alloc [.nil 2] },
      { dst := .none, op := .store 1 (.v 8) (.t 46) },
      { dst := .v 9, op := .move (.t 47) }], [], []⟩) (.seq (.region ⟨[
      { dst := .t 49, op := .load (some 2) (.v 4) },
      { dst := .t 50, op := .move (.v 7) },
      { dst := .t 51, op := .call 56 [.t 49, .t 50] },
      { dst := .t 48, op := .move (.t 51) },
      { dst := .t 52, op := .extract (.t 48) 0 },
      { dst := .t 53, op := .extract (.t 48) 1 },
      { dst := .v 10, op := .alloc [.nil 6, .c (.int .i64 0)] },
      { dst := .none, op := .store 2 (.v 10) (.t 52) },
      { dst := .v 11, op := .move (.t 53) }], [], []⟩) (.seq (.seq (.region ⟨[
      { dst := .t 54, op := .move (.v 9) },
      { dst := .t 55, op := .bin .eql (.t 54) (.c (.int .i64 0)) },
      { dst := .t 56, op := .move (.v 11) },
      { dst := .t 57, op := .bin .eql (.t 56) (.c (.int .i64 0)) },
      { dst := .v 58, op := .eqB true (.t 55) (.t 57) }], [], []⟩) (.cond (.v 58) (.seq (.region ⟨[
      { dst := .v 2, op := .move (.c (.bool false)) }], [], []⟩) (.ret)) (.skip))) (.seq (.seq (.region ⟨[
      { dst := .t 59, op := .move (.v 9) },
      { dst := .v 60, op := .bin .neq (.t 59) (.c (.int .i64 0)) }], [], []⟩) (.cond (.v 60) (.exit 1) (.skip))) (.seq (.region ⟨[
      { dst := .v 12, op := .move (.c (.int .i64 0)) }], [], []⟩) (.block 2 (.loop (.seq (.seq (.region ⟨[
      { dst := .t 61, op := .move (.v 12) },
      { dst := .t 62, op := .fieldAddr 0 (.v 10) },
      { dst := .t 63, op := .load none (.t 62) },
      { dst := .t 64, op := .len (.t 63) },
      { dst := .v 65, op := .bin .lss (.t 61) (.t 64) }], [], []⟩) (.cond (.v 65) (.skip) (.exit 2))) (.seq (.block 3 (.seq (.region ⟨[
      { dst := .t 69, op := .load (some 2) (.v 4) },
      { dst := .t 70, op := .load (some 1) (.v 5) },
      { dst := .t 71, op := .fieldAddr 0 (.v 10) },
      { dst := .t 72, op := .load none (.t 71) },
      { dst := .t 73, op := .move (.v 12) },
      { dst := .t 74, op := .indexAddr 6 (.t 72) (.t 73) },
      { dst := .t 75, op := .fieldAddr 0 (.t 74) },
      { dst := .t 76, op := .load none (.t 75) },
      { dst := .t 77, op := .call 53 [.t 69, .t 70, .t 76] },
      { dst := .t 68, op := .move (.t 77) },
      { dst := .t 78, op := .extract (.t 68) 0 },
      { dst := .t 79, op := .extract (.t 68) 1 },
      { dst := .v 13, op := .move (.t 78) },
      { dst := .v 14, op := .move (.t 79) }], [], []⟩) (.seq (.region ⟨[
      { dst := .t 81, op := .load (some 2) (.v 10) },
      { dst := .t 82, op := .load (some 1) (.v 8) },
      { dst := .t 83, op := .fieldAddr 0 (.v 10) },
      { dst := .t 84, op := .load none (.t 83) },
      { dst := .t 85, op := .move (.v 12) },
      { dst := .t 86, op := .indexAddr 6 (.t 84) (.t 85) },
      { dst := .t 87, op := .fieldAddr 0 (.t 86) },
      { dst := .t 88, op := .load none (.t 87) },
      { dst := .t 89, op := .call 53 [.t 81, .t 82, .t 88] },
      { dst := .t 80, op := .move (.t 89) },
      { dst := .t 90, op := .extract (.t 80) 0 },
      { dst := .t 91, op := .extract (.t 80) 1 },
      { dst := .v 15, op := .move (.t 90) },
      { dst := .v 16, op := .move (.t 91) }], [], []⟩) (.seq (.region ⟨[
      { dst := .t 92, op := .move (.v 13) },
      { dst := .t 93, op := .move (.v 15) },
      { dst := .t 94, op := .bin .neq (.t 92) (.t 93) },
      { dst := .t 95, op := .move (.t 94) },
      { dst := .t 96, op := .move (.v 14), guard := some (.t 95, false) },
      { dst := .t 97, op := .bin .neq (.t 96) (.c (.int .i64 0)), guard := some (.t 95, false) },
      { dst := .t 98, op := .pick (.t 95) (.c (.bool true)) (.t 97) },
      { dst := .t 99, op := .move (.t 98) },
      { dst := .t 100, op := .move (.v 16), guard := some (.t 99, false) },
      { dst := .t 101, op := .bin .neq (.t 100) (.c (.int .i64 0)), guard := some (.t 99, false) },
      { dst := .v 102, op := .pick (.t 99) (.c (.bool true)) (.t 101) }], [], []⟩) (.cond (.v 102) (.seq (.region ⟨[
      { dst := .v 2, op := .move (.c (.bool false)) }], [], []⟩) (.ret)) (.skip)))))) (.region ⟨[
      { dst := .t 66, op := .move (.v 12) },
      { dst := .t 67, op := .bin .add (.t 66) (.c (.int .i64 1)) },
      { dst := .v 12, op := .move (.t 67) }], [], []⟩)))))))))))) (.region ⟨[
      { dst := .t 33, op := .move (.v 6) },
      { dst := .t 34, op := .bin .add (.t 33) (.c (.int .i64 1)) },
      { dst := .v 6, op := .move (.t 34) }], [], []⟩)))))) (.seq (.region ⟨[
      { dst := .t 103, op := .call 51 [] },
      { dst := .v 2, op := .move (.t 103) }], [], []⟩) (.ret)))))))
def vf13 : VFunc := { vs := [0, 2, 3, 4, 5, 6, 7, 8, 9, 10, 11, 12, 13, 14, 15, 16, 19, 32, 58, 60, 65, 102], nparams := 1, rets := [.tmp (.v 2)], body := vb13 }
/- groupcontrol.groupcontrollaw22.CounterFull -/
def vb14 : VCode :=
    .seq (.region ⟨[
      { dst := .v 2, op := .move (.c (.bool false)) }], [], []⟩) (.seq (.region ⟨[
      { dst := .t 21, op := .build [.a (.c (.int .i64 1)) 0 1, .z (.c (.int .i64 0)), .z (.c (.str ⟨#[]⟩)), .z (.c (.int .i64 0)), .z (.c (.int .i64 0)), .z (.c (.int .i64 0))] },
      { dst := .t 22, op := .build [.a (.c (.int .i64 2)) 0 1, .a (.c (.int .i64 1)) 0 1, .a (.c (.str ⟨#[97]⟩)) 0 1, .z (.c (.int .i64 0)), .z (.c (.int .i64 0)), .z (.c (.int .i64 0))] },
      { dst := .t 23, op := .buildSlice 6 [.t 21, .t 22] },
      { dst := .t 24, op := .build [.a (.t 23) 0 1, .a (.c (.int .i64 3)) 0 1] },
      { dst := .v 3, op := .alloc [.nil 6, .c (.int .i64 0)] },
      { dst := .none, op := .store 2 (.v 3) (.t 24) }], [], []⟩) (.seq (.region ⟨[
      { dst := .t 25, op := .move (.v 0) },
      { dst := .t 26, op := .buildFz 1 [.t 25] },
      { dst := .t 27, op := .call 22 [.t 26] },
      { dst := .t 28, op := .call 27 [.t 27, .c (.int .i64 16777212)] },
      { dst := .v 0, op := .move (.t 28) }], [], []⟩) (.seq (.region ⟨[
      { dst := .t 30, op := .load (some 2) (.v 3) },
      { dst := .t 31, op := .build [.z (.nil 2)] },
      { dst := .t 32, op := .move (.v 0) },
      { dst := .t 33, op := .call 57 [.t 30, .t 31, .c (.int .i64 2), .t 32] },
      { dst := .t 29, op := .move (.t 33) },
      { dst := .t 34, op := .extract (.t 29) 0 },
      { dst := .t 35, op := .extract (.t 29) 1 },
      { dst := .v 4, op := .alloc [.nil 2] },
      { dst := .none, op := .store 1 (.v 4) (.t 34) },
      { dst := .v 5, op := .move (.t 35) }], [], []⟩) (.seq (.region ⟨[
      { dst := .t 37, op := .load (some 2) (.v 3) },
      { dst := .t 38, op := .load (some 1) (.v 4) },
      { dst := .t 39, op := .move (.v 0) },
      { dst := .t 40, op := .bin .sub (.c (.int .i64 16777216)) (.t 39) },
      { dst := .t 41, op := .call 57 [.t 37, .t 38, .c (.int .i64 1), .t 40] },
      { dst := .t 36, op := .move (.t 41) },
      { dst := .t 42, op := .extract (.t 36) 0 },
      { dst := .t 43, op := .extract (.t 36) 1 },
      { dst := .v 6, op := .alloc [.nil 2] },
      { dst := .none, op := .store 1 (.v 6) (.t 42) },
      { dst := .v 7, op := .move (.t 43) }], [], []⟩) (.seq (.region ⟨[
      { dst := .t 45, op := .load (some 2) (.v 3) },
      { dst := .t 46, op := .load (some 1) (.v 6) },
      { dst := .t 47, op := .call 57 [.t 45, .t 46, .c (.int .i64 1), .c (.int .i64 1)] },
      { dst := .t 44, op := .move (.t 47) },
      { dst := .t 48, op := .extract (.t 44) 0 },
      { dst := .t 49, op := .extract (.t 44) 1 },
      { dst := .t 8, op := .alloc [.nil 2] },
      { dst := .none, op := .store 1 (.t 8) (.t 48) },
      { dst := .v 9, op := .move (.t 49) }], [], []⟩) (.seq (.region ⟨[
      { dst := .t 51, op := .load (some 2) (.v 3) },
      { dst := .t 52, op := .load (some 1) (.v 4) },
      { dst := .t 53, op := .move (.v 0) },
      { dst := .t 54, op := .bin .add (.t 53) (.c (.int .i64 3)) },
      { dst := .t 55, op := .build [.a (.c (.int .i64 1)) 0 1, .a (.t 54) 0 1] },
      { dst := .t 56, op := .buildFz 2 [.t 55] },
      { dst := .t 57, op := .call 58 [.t 51, .t 52, .t 56, .c (.int .i64 2), .c (.int .i64 3)] },
      { dst := .t 50, op := .move (.t 57) },
      { dst := .t 58, op := .extract (.t 50) 0 },
      { dst := .t 59, op := .extract (.t 50) 1 },
      { dst := .t 60, op := .extract (.t 50) 2 },
      { dst := .t 10, op := .alloc [.nil 2] },
      { dst := .none, op := .store 1 (.t 10) (.t 58) },
      { dst := .v 11, op := .move (.t 59) },
      { dst := .v 12, op := .move (.t 60) }], [], []⟩) (.seq (.region ⟨[
      { dst := .t 62, op := .load (some 2) (.v 3) },
      { dst := .t 63, op := .load (some 1) (.v 4) },
      { dst := .t 64, op := .move (.v 0) },
      { dst := .t 65, op := .bin .add (.t 64) (.c (.int .i64 3)) },
      { dst := .t 66, op := .build [.a (.c (.int .i64 1)) 0 1, .a (.t 65) 0 1] },
      { dst := .t 67, op := .build [.a (.c (.int .i64 2)) 0 1, .a (.c (.int .i64 4611686018427387904)) 0 1] },
      { dst := .t 68, op := .buildFz 2 [.t 66, .t 67] },
      { dst := .t 69, op := .call 58 [.t 62, .t 63, .t 68, .c (.int .i64 2), .c (.int .i64 4)] },
      { dst := .t 61, op := .move (.t 69) },
      { dst := .t 70, op := .extract (.t 61) 0 },
      { dst := .t 71, op := .extract (.t 61) 1 },
      { dst := .t 72, op := .extract (.t 61) 2 },
      { dst := .t 13, op := .alloc [.nil 2] },
      { dst := .none, op := .store 1 (.t 13) (.t 70) },
      { dst := .v 14, op := .move (.t 71) },
      { dst := .v 15, op := .move (.t 72) }], [], []⟩) (.seq (.region ⟨[
      { dst := .t 74, op := .load (some 2) (.v 3) },
      { dst := .t 75, op := .load (some 1) (.v 4) },
      { dst := .t 76, op := .build [.a (.c (.int .i64 1)) 0 1, .a (.c (.int .i64 0)) 0 1] },
      { dst := .t 77, op := .buildFz 2 [.t 76] },
      { dst := .t 78, op := .call 58 [.t 74, .t 75, .t 77, .c (.int .i64 2), .c (.int .i64 0)] },
      { dst := .t 73, op := .move (.t 78) },
      { dst := .t 79, op := .extract (.t 73) 0 },
      { dst := .t 80, op := .extract (.t 73) 1 },
      { dst := .t 81, op := .extract (.t 73) 2 },
      { dst := .v 16, op := .alloc [.nil 2] },
      { dst := .none, op := .store 1 (.v 16) (.t 79) },
      { dst := .v 17, op := .move (.t 80) },
      { dst := .v 18, op := .move (.t 81) }], [], []⟩) (.seq (.region ⟨[
      { dst := .t 83, op := .load (some 2) (.v 3) },
      { dst := .t 84, op := .load (some 1) (.v 4) },
      { dst := .t 85, op := .move (.v 0) },
      { dst := .t 86, op := .neg (.t 85) },
      { dst := .t 87, op := .bin .sub (.t 86) (.c (.int .i64 1)) },
      { dst := .t 88, op := .call 57 [.t 83, .t 84, .c (.int .i64 2), .t 87] },
      { dst := .t 82, op := .move (.t 88) },
      { dst := .t 89, op := .extract (.t 82) 0 },
      { dst := .t 90, op := .extract (.t 82) 1 },
      { dst := .t 19, op := .alloc [.nil 2] },
      { dst := .none, op := .store 1 (.t 19) (.t 89) },
      { dst := .v 20, op := .move (.t 90) }], [], []⟩) (.seq (.region ⟨[
      { dst := .t 91, op := .move (.v 5) },
      { dst := .t 92, op := .bin .eql (.t 91) (.c (.int .i64 0)) },
      { dst := .t 93, op := .move (.t 92) },
      { dst := .t 94, op := .move (.v 7), guard := some (.t 93, true) },
      { dst := .t 95, op := .bin .eql (.t 94) (.c (.int .i64 0)), guard := some (.t 93, true) },
      { dst := .t 96, op := .pick (.t 93) (.t 95) (.c (.bool false)) },
      { dst := .t 97, op := .move (.t 96) },
      { dst := .t 98, op := .load (some 1) (.v 6), guard := some (.t 97, true) },
      { dst := .t 99, op := .call 54 [.t 98, .c (.int .i64 1)], guard := some (.t 97, true) },
      { dst := .t 100, op := .move (.v 0), guard := some (.t 97, true) },
      { dst := .t 101, op := .bin .sub (.c (.int .i64 16777216)) (.t 100), guard := some (.t 97, true) },
      { dst := .t 102, op := .bin .eql (.t 99) (.t 101), guard := some (.t 97, true) },
      { dst := .t 103, op := .pick (.t 97) (.t 102) (.c (.bool false)) },
      { dst := .t 104, op := .move (.t 103) },
      { dst := .t 105, op := .move (.v 9), guard := some (.t 104, true) },
      { dst := .t 106, op := .bin .eql (.t 105) (.c (.int .i64 7)), guard := some (.t 104, true) },
      { dst := .t 107, op := .pick (.t 104) (.t 106) (.c (.bool false)) },
      { dst := .t 108, op := .move (.t 107) },
      { dst := .t 109, op := .move (.v 12), guard := some (.t 108, true) },
      { dst := .t 110, op := .bin .eql (.t 109) (.c (.int .i64 0)), guard := some (.t 108, true) },
      { dst := .t 111, op := .pick (.t 108) (.t 110) (.c (.bool false)) },
      { dst := .t 112, op := .move (.t 111) },
      { dst := .t 113, op := .move (.v 11), guard := some (.t 112, true) },
      { dst := .t 114, op := .bin .eql (.t 113) (.c (.int .i64 0)), guard := some (.t 112, true) },
      { dst := .t 115, op := .pick (.t 112) (.t 114) (.c (.bool false)) },
      { dst := .t 116, op := .move (.t 115) },
      { dst := .t 117, op := .move (.v 15), guard := some (.t 116, true) },
      { dst := .t 118, op := .bin .eql (.t 117) (.c (.int .i64 11)), guard := some (.t 116, true) },
      { dst := .t 119, op := .pick (.t 116) (.t 118) (.c (.bool false)) },
      { dst := .t 120, op := .move (.t 119) },
      { dst := .t 121, op := .move (.v 14), guard := some (.t 120, true) },
      { dst := .t 122, op := .bin .eql (.t 121) (.c (.int .i64 1)), guard := some (.t 120, true) },
      { dst := .t 123, op := .pick (.t 120) (.t 122) (.c (.bool false)) },
      { dst := .t 124, op := .move (.t 123) },
      { dst := .t 125, op := .move (.v 18), guard := some (.t 124, true) },
      { dst := .t 126, op := .bin .eql (.t 125) (.c (.int .i64 0)), guard := some (.t 124, true) },
      { dst := .t 127, op := .pick (.t 124) (.t 126) (.c (.bool false)) },
      { dst := .t 128, op := .move (.t 127) },
      { dst := .t 129, op := .move (.v 17), guard := some (.t 128, true) },
      { dst := .t 130, op := .bin .eql (.t 129) (.c (.int .i64 0)), guard := some (.t 128, true) },
      { dst := .t 131, op := .pick (.t 128) (.t 130) (.c (.bool false)) },
      { dst := .t 132, op := .move (.t 131) },
      { dst := .t 133, op := .fieldAddr 0 (.v 16), guard := some (.t 132, true) },
      { dst := .t 134, op := .load none (.t 133), guard := some (.t 132, true) },
      { dst := .t 135, op := .fieldAddr 0 (.v 4), guard := some (.t 132, true) },
      { dst := .t 136, op := .load none (.t 135), guard := some (.t 132, true) },
      { dst := .t 137, op := .call 59 [.t 134, .t 136], guard := some (.t 132, true) },
      { dst := .t 138, op := .pick (.t 132) (.t 137) (.c (.bool false)) },
      { dst := .t 139, op := .move (.t 138) },
      { dst := .t 140, op := .move (.v 20), guard := some (.t 139, true) },
      { dst := .t 141, op := .bin .eql (.t 140) (.c (.int .i64 3)), guard := some (.t 139, true) },
      { dst := .t 142, op := .pick (.t 139) (.t 141) (.c (.bool false)) },
      { dst := .t 143, op := .move (.t 142) },
      { dst := .t 144, op := .call 51 [], guard := some (.t 143, true) },
      { dst := .t 145, op := .pick (.t 143) (.t 144) (.c (.bool false)) },
      { dst := .v 2, op := .move (.t 145) }], [], []⟩) (.ret)))))))))))
def vf14 : VFunc := { vs := [0, 2, 3, 4, 5, 6, 7, 9, 11, 12, 14, 15, 16, 17, 18, 20], nparams := 1, rets := [.tmp (.v 2)], body := vb14 }
/- groupcontrol.groupcontrollaw22.CounterAdds -/
def vb15 : VCode :=
    .seq (.region ⟨[
      { dst := .v 4, op := .move (.c (.bool false)) }], [], []⟩) (.seq (.seq (.region ⟨[
      { dst := .t 18, op := .move (.v 0) },
      { dst := .t 19, op := .call 20 [.t 18] },
      { dst := .v 20, op := .not (.t 19) }], [], []⟩) (.cond (.v 20) (.seq (.region ⟨[
      { dst := .t 21, op := .call 51 [] },
      { dst := .v 4, op := .move (.t 21) }], [], []⟩) (.ret)) (.skip))) (.seq (.region ⟨[
      { dst := .t 22, op := .move (.v 0) },
      { dst := .t 23, op := .call 22 [.t 22] },
      { dst := .v 5, op := .move (.t 23) }], [], []⟩) (.seq (.region ⟨[
      { dst := .t 24, op := .move (.v 5) },
      { dst := .t 25, op := .call 23 [.t 24, .c (.int .i64 6)] },
      { dst := .v 6, op := .alloc [.nil 6, .c (.int .i64 0)] },
      { dst := .none, op := .store 2 (.v 6) (.t 25) }], [], []⟩) (.seq (.region ⟨[
      { dst := .t 26, op := .move (.v 5) },
      { dst := .t 27, op := .load (some 2) (.v 6) },
      { dst := .t 28, op := .call 52 [.t 26, .t 27] },
      { dst := .v 7, op := .alloc [.nil 2] },
      { dst := .none, op := .store 1 (.v 7) (.t 28) }], [], []⟩) (.seq (.region ⟨[
      { dst := .t 29, op := .fieldAddr 0 (.v 6) },
      { dst := .t 30, op := .load none (.t 29) },
      { dst := .t 31, op := .move (.v 5) },
      { dst := .t 32, op := .fieldAddr 0 (.v 6) },
      { dst := .t 33, op := .load none (.t 32) },
      { dst := .t 34, op := .len (.t 33) },
      { dst := .t 35, op := .call 27 [.t 31, .t 34] },
      { dst := .t 36, op := .indexAddr 6 (.t 30) (.t 35) },
      { dst := .t 37, op := .fieldAddr 0 (.t 36) },
      { dst := .t 38, op := .load none (.t 37) },
      { dst := .v 8, op := .move (.t 38) }], [], [(1, 6)]⟩) (.seq (.region ⟨[
      { dst := .t 39, op := .move (.v 1) },
      { dst := .t 40, op := .buildFz 1 [.t 39] },
      { dst := .t 41, op := .call 22 [.t 40] },
      { dst := .t 42, op := .call 27 [.t 41, .c (.int .i64 5000)] },
      { dst := .v 1, op := .move (.t 42) }], [], []⟩) (.seq (.region ⟨[
      { dst := .t 44, op := .load (some 2) (.v 6) },
      { dst := .t 45, op := .load (some 1) (.v 7) },
      { dst := .t 46, op := .move (.v 8) },
      { dst := .t 47, op := .move (.v 1) },
      { dst := .t 48, op := .call 57 [.t 44, .t 45, .t 46, .t 47] },
      { dst := .t 43, op := .move (.t 48) },
      { dst := .t 49, op := .extract (.t 43) 0 },
      { dst := .t 50, op := .extract (.t 43) 1 },
      { dst := .v 9, op := .alloc [.nil 2] },
      { dst := .none, op := .store 1 (.v 9) (.t 49) },
      { dst := .v 10, op := .move (.t 50) }], [], []⟩) (.seq (.region ⟨[
      { dst := .t 52, op := .load (some 2) (.v 6) },
      { dst := .t 53, op := .load (some 1) (.v 9) },
      { dst := .t 54, op := .move (.v 8) },
      { dst := .t 55, op := .move (.v 1) },
      { dst := .t 56, op := .neg (.t 55) },
      { dst := .t 57, op := .call 57 [.t 52, .t 53, .t 54, .t 56] },
      { dst := .t 51, op := .move (.t 57) },
      { dst := .t 58, op := .extract (.t 51) 0 },
      { dst := .t 59, op := .extract (.t 51) 1 },
      { dst := .v 11, op := .alloc [.nil 2] },
      { dst := .none, op := .store 1 (.v 11) (.t 58) },
      { dst := .v 12, op := .move (.t 59) }], [], []⟩) (.seq (.seq (.region ⟨[
      { dst := .t 60, op := .move (.v 10) },
      { dst := .t 61, op := .bin .neq (.t 60) (.c (.int .i64 0)) },
      { dst := .t 62, op := .move (.t 61) },
      { dst := .t 63, op := .move (.v 12), guard := some (.t 62, false) },
      { dst := .t 64, op := .bin .neq (.t 63) (.c (.int .i64 0)), guard := some (.t 62, false) },
      { dst := .t 65, op := .pick (.t 62) (.c (.bool true)) (.t 64) },
      { dst := .t 66, op := .move (.t 65) },
      { dst := .t 67, op := .fieldAddr 0 (.v 11), guard := some (.t 66, false) },
      { dst := .t 68, op := .load none (.t 67), guard := some (.t 66, false) },
      { dst := .t 69, op := .fieldAddr 0 (.v 7), guard := some (.t 66, false) },
      { dst := .t 70, op := .load none (.t 69), guard := some (.t 66, false) },
      { dst := .t 71, op := .call 59 [.t 68, .t 70], guard := some (.t 66, false) },
      { dst := .t 72, op := .not (.t 71), guard := some (.t 66, false) },
      { dst := .v 73, op := .pick (.t 66) (.c (.bool true)) (.t 72) }], [], []⟩) (.cond (.v 73) (.seq (.region ⟨[
      { dst := .v 4, op := .move (.c (.bool false)) }], [], []⟩) (.ret)) (.skip))) (.seq (.seq (.region ⟨[
      { dst := .v 13, op := .move (.c (.int .i64 0)) }], [], []⟩) (.block 0 (.loop (.seq (.seq (.region ⟨[
      { dst := .t 74, op := .move (.v 13) },
      { dst := .t 75, op := .fieldAddr 0 (.v 6) },
      { dst := .t 76, op := .load none (.t 75) },
      { dst := .t 77, op := .len (.t 76) },
      { dst := .v 78, op := .bin .lss (.t 74) (.t 77) }], [115], []⟩) (.cond (.v 78) (.skip) (.exit 0))) (.seq (.block 1 (.seq (.region ⟨[
      { dst := .t 82, op := .load (some 2) (.v 6) },
      { dst := .t 83, op := .load (some 1) (.v 7) },
      { dst := .t 84, op := .fieldAddr 0 (.v 6) },
      { dst := .t 85, op := .load none (.t 84) },
      { dst := .t 86, op := .move (.v 13) },
      { dst := .t 87, op := .indexAddr 6 (.t 85) (.t 86) },
      { dst := .t 88, op := .fieldAddr 0 (.t 87) },
      { dst := .t 89, op := .load none (.t 88) },
      { dst := .t 90, op := .call 53 [.t 82, .t 83, .t 89] },
      { dst := .t 81, op := .move (.t 90) },
      { dst := .t 91, op := .extract (.t 81) 0 },
      { dst := .t 92, op := .extract (.t 81) 1 },
      { dst := .v 14, op := .move (.t 91) },
      { dst := .t 15, op := .move (.t 92) }], [], []⟩) (.seq (.region ⟨[
      { dst := .t 94, op := .load (some 2) (.v 6) },
      { dst := .t 95, op := .load (some 1) (.v 9) },
      { dst := .t 96, op := .fieldAddr 0 (.v 6) },
      { dst := .t 97, op := .load none (.t 96) },
      { dst := .t 98, op := .move (.v 13) },
      { dst := .t 99, op := .indexAddr 6 (.t 97) (.t 98) },
      { dst := .t 100, op := .fieldAddr 0 (.t 99) },
      { dst := .t 101, op := .load none (.t 100) },
      { dst := .t 102, op := .call 53 [.t 94, .t 95, .t 101] },
      { dst := .t 93, op := .move (.t 102) },
      { dst := .t 103, op := .extract (.t 93) 0 },
      { dst := .t 104, op := .extract (.t 93) 1 },
      { dst := .v 16, op := .move (.t 103) },
      { dst := .t 17, op := .move (.t 104) }], [], []⟩) (.seq (.region ⟨[
      { dst := .t 105, op := .move (.v 16) },
      { dst := .t 106, op := .move (.v 14) },
      { dst := .t 107, op := .bin .sub (.t 105) (.t 106) },
      { dst := .t 108, op := .move (.v 1) },
      { dst := .t 109, op := .bin .eql (.t 107) (.t 108) },
      { dst := .t 110, op := .move (.v 1) },
      { dst := .t 111, op := .bin .eql (.t 110) (.c (.int .i64 0)) },
      { dst := .t 112, op := .move (.t 111) },
      { dst := .t 113, op := .load (some 2) (.v 6), guard := some (.t 112, false) },
      { dst := .t 114, op := .move (.v 8), guard := some (.t 112, false) },
      { dst := .t 115, op := .call 31 [.t 113, .t 114], guard := some (.t 112, false) },
      { dst := .t 116, op := .fieldAddr 0 (.v 6), guard := some (.t 112, false) },
      { dst := .t 117, op := .load none (.t 116), guard := some (.t 112, false) },
      { dst := .t 118, op := .move (.v 13), guard := some (.t 112, false) },
      { dst := .t 119, op := .indexAddr 6 (.t 117) (.t 118), guard := some (.t 112, false) },
      { dst := .t 120, op := .fieldAddr 0 (.t 119), guard := some (.t 112, false) },
      { dst := .t 121, op := .load none (.t 120), guard := some (.t 112, false) },
      { dst := .t 122, op := .call 32 [.t 115, .t 121], guard := some (.t 112, false) },
      { dst := .t 123, op := .pick (.t 112) (.c (.bool true)) (.t 122) },
      { dst := .t 124, op := .eqB true (.t 109) (.t 123) },
      { dst := .t 125, op := .move (.t 124) },
      { dst := .t 126, op := .move (.v 16), guard := some (.t 125, false) },
      { dst := .t 127, op := .move (.v 14), guard := some (.t 125, false) },
      { dst := .t 128, op := .bin .neq (.t 126) (.t 127), guard := some (.t 125, false) },
      { dst := .t 129, op := .move (.t 128), guard := some (.t 125, false) },
      { dst := .t 130, op := .move (.v 16), guard := some (.t 129, true) },
      { dst := .t 131, op := .move (.v 14), guard := some (.t 129, true) },
      { dst := .t 132, op := .bin .sub (.t 130) (.t 131), guard := some (.t 129, true) },
      { dst := .t 133, op := .move (.v 1), guard := some (.t 129, true) },
      { dst := .t 134, op := .bin .neq (.t 132) (.t 133), guard := some (.t 129, true) },
      { dst := .t 135, op := .pick (.t 129) (.t 134) (.c (.bool false)), guard := some (.t 125, false) },
      { dst := .v 136, op := .pick (.t 125) (.c (.bool true)) (.t 135) }], [], [(10, 12), (10, 14), (10, 16)]⟩) (.cond (.v 136) (.seq (.region ⟨[
      { dst := .v 4, op := .move (.c (.bool false)) }], [], []⟩) (.ret)) (.skip)))))) (.region ⟨[
      { dst := .t 79, op := .move (.v 13) },
      { dst := .t 80, op := .bin .add (.t 79) (.c (.int .i64 1)) },
      { dst := .v 13, op := .move (.t 80) }], [], []⟩)))))) (.seq (.region ⟨[
      { dst := .t 137, op := .call 51 [] },
      { dst := .v 4, op := .move (.t 137) }], [], []⟩) (.ret))))))))))))
def vf15 : VFunc := { vs := [0, 1, 4, 5, 6, 7, 8, 9, 10, 11, 12, 13, 14, 16, 20, 73, 78, 136], nparams := 2, rets := [.tmp (.v 4)], body := vb15 }
/- groupcontrol.groupcontrollaw32.IofairNext -/
def vb16 : VCode :=
    .seq (.region ⟨[
      { dst := .v 4, op := .move (.c (.bool false)) }], [], []⟩) (.seq (.seq (.region ⟨[
      { dst := .t 12, op := .move (.v 0) },
      { dst := .t 13, op := .call 20 [.t 12] },
      { dst := .v 14, op := .not (.t 13) }], [], []⟩) (.cond (.v 14) (.seq (.region ⟨[
      { dst := .t 15, op := .call 41 [] },
      { dst := .v 4, op := .move (.t 15) }], [], []⟩) (.ret)) (.skip))) (.seq (.region ⟨[
      { dst := .t 16, op := .move (.v 0) },
      { dst := .t 17, op := .call 22 [.t 16] },
      { dst := .v 5, op := .move (.t 17) }], [], []⟩) (.seq (.region ⟨[
      { dst := .t 18, op := .move (.v 5) },
      { dst := .t 19, op := .call 23 [.t 18, .c (.int .i64 6)] },
      { dst := .v 6, op := .alloc [.nil 6, .c (.int .i64 0)] },
      { dst := .none, op := .store 2 (.v 6) (.t 19) }], [], []⟩) (.seq (.region ⟨[
      { dst := .t 20, op := .move (.v 5) },
      { dst := .t 21, op := .load (some 2) (.v 6) },
      { dst := .t 22, op := .call 60 [.t 20, .t 21] },
      { dst := .t 23, op := .move (.v 5) },
      { dst := .t 24, op := .call 44 [.t 23] },
      { dst := .v 7, op := .move (.t 22) },
      { dst := .v 8, op := .move (.t 24) }], [], []⟩) (.seq (.region ⟨[
      { dst := .t 25, op := .move (.v 1) },
      { dst := .t 26, op := .buildFz 1 [.t 25] },
      { dst := .t 27, op := .call 22 [.t 26] },
      { dst := .t 28, op := .call 27 [.t 27, .c (.int .i64 20000)] },
      { dst := .v 1, op := .move (.t 28) }], [], []⟩) (.seq (.region ⟨[
      { dst := .t 30, op := .load (some 2) (.v 6) },
      { dst := .t 31, op := .move (.v 7) },
      { dst := .t 32, op := .move (.v 8) },
      { dst := .t 33, op := .move (.v 1) },
      { dst := .t 34, op := .call 61 [.t 30, .t 31, .t 32, .t 33] },
      { dst := .t 29, op := .move (.t 34) },
      { dst := .t 35, op := .extract (.t 29) 0 },
      { dst := .t 36, op := .extract (.t 29) 1 },
      { dst := .v 9, op := .move (.t 35) },
      { dst := .v 10, op := .move (.t 36) }], [], []⟩) (.seq (.seq (.region ⟨[
      { dst := .t 37, op := .move (.v 10) },
      { dst := .t 38, op := .move (.v 9) },
      { dst := .t 39, op := .bin .neq (.t 38) (.c (.int .i64 0)) },
      { dst := .t 40, op := .eqB true (.t 37) (.t 39) },
      { dst := .t 41, op := .move (.t 40) },
      { dst := .t 42, op := .move (.v 10), guard := some (.t 41, false) },
      { dst := .t 43, op := .move (.t 42), guard := some (.t 41, false) },
      { dst := .t 44, op := .load (some 2) (.v 6), guard := some (.t 43, true) },
      { dst := .t 45, op := .move (.v 7), guard := some (.t 43, true) },
      { dst := .t 46, op := .move (.v 9), guard := some (.t 43, true) },
      { dst := .t 47, op := .move (.v 1), guard := some (.t 43, true) },
      { dst := .t 48, op := .call 50 [.t 44, .t 45, .t 46, .t 47], guard := some (.t 43, true) },
      { dst := .t 49, op := .not (.t 48), guard := some (.t 43, true) },
      { dst := .t 50, op := .move (.t 49), guard := some (.t 43, true) },
      { dst := .t 51, op := .move (.v 8), guard := some (.t 50, false) },
      { dst := .t 52, op := .move (.v 9), guard := some (.t 50, false) },
      { dst := .t 53, op := .call 32 [.t 51, .t 52], guard := some (.t 50, false) },
      { dst := .t 54, op := .not (.t 53), guard := some (.t 50, false) },
      { dst := .t 55, op := .pick (.t 50) (.c (.bool true)) (.t 54), guard := some (.t 43, true) },
      { dst := .t 56, op := .pick (.t 43) (.t 55) (.c (.bool false)), guard := some (.t 41, false) },
      { dst := .v 57, op := .pick (.t 41) (.c (.bool true)) (.t 56) }], [], []⟩) (.cond (.v 57) (.seq (.region ⟨[
      { dst := .v 4, op := .move (.c (.bool false)) }], [], []⟩) (.ret)) (.skip))) (.seq (.seq (.region ⟨[
      { dst := .v 11, op := .move (.c (.int .i64 0)) }], [], []⟩) (.block 0 (.loop (.seq (.seq (.region ⟨[
      { dst := .t 58, op := .move (.v 11) },
      { dst := .t 59, op := .move (.v 8) },
      { dst := .t 60, op := .len (.t 59) },
      { dst := .v 61, op := .bin .lss (.t 58) (.t 60) }], [], []⟩) (.cond (.v 61) (.skip) (.exit 0))) (.seq (.block 1 (.seq (.seq (.region ⟨[
      { dst := .t 64, op := .load (some 2) (.v 6) },
      { dst := .t 65, op := .move (.v 7) },
      { dst := .t 66, op := .move (.v 8) },
      { dst := .t 67, op := .move (.v 11) },
      { dst := .t 68, op := .indexAddr 1 (.t 66) (.t 67) },
      { dst := .t 69, op := .load none (.t 68) },
      { dst := .t 70, op := .move (.v 1) },
      { dst := .t 71, op := .call 50 [.t 64, .t 65, .t 69, .t 70] },
      { dst := .v 72, op := .not (.t 71) }], [], []⟩) (.cond (.v 72) (.exit 1) (.skip))) (.seq (.region ⟨[
      { dst := .t 73, op := .move (.v 10) },
      { dst := .t 74, op := .not (.t 73) },
      { dst := .t 75, op := .move (.t 74) },
      { dst := .t 76, op := .move (.v 7), guard := some (.t 75, false) },
      { dst := .t 77, op := .move (.v 8), guard := some (.t 75, false) },
      { dst := .t 78, op := .move (.v 11), guard := some (.t 75, false) },
      { dst := .t 79, op := .indexAddr 1 (.t 77) (.t 78), guard := some (.t 75, false) },
      { dst := .t 80, op := .load none (.t 79), guard := some (.t 75, false) },
      { dst := .t 81, op := .call 62 [.t 76, .t 80], guard := some (.t 75, false) },
      { dst := .t 82, op := .move (.v 7), guard := some (.t 75, false) },
      { dst := .t 83, op := .move (.v 9), guard := some (.t 75, false) },
      { dst := .t 84, op := .call 62 [.t 82, .t 83], guard := some (.t 75, false) },
      { dst := .t 85, op := .bin .lss (.t 81) (.t 84), guard := some (.t 75, false) },
      { dst := .t 86, op := .pick (.t 75) (.c (.bool true)) (.t 85) },
      { dst := .t 87, op := .move (.t 86) },
      { dst := .t 88, op := .move (.v 7), guard := some (.t 87, false) },
      { dst := .t 89, op := .move (.v 8), guard := some (.t 87, false) },
      { dst := .t 90, op := .move (.v 11), guard := some (.t 87, false) },
      { dst := .t 91, op := .indexAddr 1 (.t 89) (.t 90), guard := some (.t 87, false) },
      { dst := .t 92, op := .load none (.t 91), guard := some (.t 87, false) },
      { dst := .t 93, op := .call 62 [.t 88, .t 92], guard := some (.t 87, false) },
      { dst := .t 94, op := .move (.v 7), guard := some (.t 87, false) },
      { dst := .t 95, op := .move (.v 9), guard := some (.t 87, false) },
      { dst := .t 96, op := .call 62 [.t 94, .t 95], guard := some (.t 87, false) },
      { dst := .t 97, op := .bin .eql (.t 93) (.t 96), guard := some (.t 87, false) },
      { dst := .t 98, op := .move (.t 97), guard := some (.t 87, false) },
      { dst := .t 99, op := .move (.v 8), guard := some (.t 98, true) },
      { dst := .t 100, op := .move (.v 11), guard := some (.t 98, true) },
      { dst := .t 101, op := .indexAddr 1 (.t 99) (.t 100), guard := some (.t 98, true) },
      { dst := .t 102, op := .load none (.t 101), guard := some (.t 98, true) },
      { dst := .t 103, op := .move (.v 9), guard := some (.t 98, true) },
      { dst := .t 104, op := .bin .lss (.t 102) (.t 103), guard := some (.t 98, true) },
      { dst := .t 105, op := .pick (.t 98) (.t 104) (.c (.bool false)), guard := some (.t 87, false) },
      { dst := .v 106, op := .pick (.t 87) (.c (.bool true)) (.t 105) }], [], []⟩) (.cond (.v 106) (.seq (.region ⟨[
      { dst := .v 4, op := .move (.c (.bool false)) }], [], []⟩) (.ret)) (.skip))))) (.region ⟨[
      { dst := .t 62, op := .move (.v 11) },
      { dst := .t 63, op := .bin .add (.t 62) (.c (.int .i64 1)) },
      { dst := .v 11, op := .move (.t 63) }], [], []⟩)))))) (.seq (.region ⟨[
      { dst := .t 107, op := .call 41 [] },
      { dst := .v 4, op := .move (.t 107) }], [], []⟩) (.ret))))))))))
def vf16 : VFunc := { vs := [0, 1, 4, 5, 6, 7, 8, 9, 10, 11, 14, 57, 61, 72, 106], nparams := 2, rets := [.tmp (.v 4)], body := vb16 }
/- groupcontrol.groupcontrollaw22.CounterTotals -/
def vb17 : VCode :=
    .seq (.region ⟨[
      { dst := .v 2, op := .move (.c (.bool false)) }], [], []⟩) (.seq (.seq (.region ⟨[
      { dst := .t 14, op := .move (.v 0) },
      { dst := .t 15, op := .call 20 [.t 14] },
      { dst := .v 16, op := .not (.t 15) }], [], []⟩) (.cond (.v 16) (.seq (.region ⟨[
      { dst := .t 17, op := .call 51 [] },
      { dst := .v 2, op := .move (.t 17) }], [], []⟩) (.ret)) (.skip))) (.seq (.region ⟨[
      { dst := .t 18, op := .move (.v 0) },
      { dst := .t 19, op := .call 22 [.t 18] },
      { dst := .v 3, op := .move (.t 19) }], [], []⟩) (.seq (.region ⟨[
      { dst := .t 20, op := .move (.v 3) },
      { dst := .t 21, op := .call 23 [.t 20, .c (.int .i64 8)] },
      { dst := .v 4, op := .alloc [.nil 6, .c (.int .i64 0)] },
      { dst := .none, op := .store 2 (.v 4) (.t 21) }], [], []⟩) (.seq (.region ⟨[
      { dst := .t 22, op := .move (.v 3) },
      { dst := .t 23, op := .load (some 2) (.v 4) },
      { dst := .t 24, op := .call 52 [.t 22, .t 23] },
      { dst := .v 5, op := .alloc [.nil 2] },
      { dst := .none, op := .store 1 (.v 5) (.t 24) }], [], []⟩) (.seq (.region ⟨[
      { dst := .t 26, op := .load (some 2) (.v 4) },
      { dst := .t 27, op := .load (some 1) (.v 5) },
      { dst := .t 28, op := .call 63 [.t 26, .t 27] },
      { dst := .t 25, op := .move (.t 28) },
      { dst := .t 29, op := .extract (.t 25) 0 },
      { dst := .t 30, op := .extract (.t 25) 1 },
      { dst := .v 6, op := .move (.t 29) },
      { dst := .v 7, op := .move (.t 30) }], [], []⟩) (.seq (.region ⟨[
      { dst := .v 8, op := .move (.c (.int .i64 0)) },
      { dst := .v 9, op := .move (.c (.int .i64 0)) }], [], []⟩) (.seq (.seq (.region ⟨[
      { dst := .v 10, op := .move (.c (.int .i64 0)) }], [], []⟩) (.block 0 (.loop (.seq (.seq (.region ⟨[
      { dst := .t 31, op := .move (.v 10) },
      { dst := .t 32, op := .fieldAddr 0 (.v 5) },
      { dst := .t 33, op := .load none (.t 32) },
      { dst := .t 34, op := .len (.t 33) },
      { dst := .v 35, op := .bin .lss (.t 31) (.t 34) }], [], []⟩) (.cond (.v 35) (.skip) (.exit 0))) (.seq (.block 1 (.region ⟨[
      { dst := .t 38, op := .move (.v 8) },
      { dst := .t 39, op := .fieldAddr 0 (.v 5) },
      { dst := .t 40, op := .load none (.t 39) },
      { dst := .t 41, op := .move (.v 10) },
      { dst := .t 42, op := .indexAddr 2 (.t 40) (.t 41) },
      { dst := .t 43, op := .fieldAddr 1 (.t 42) },
      { dst := .t 44, op := .load none (.t 43) },
      { dst := .t 45, op := .bin .add (.t 38) (.t 44) },
      { dst := .v 8, op := .move (.t 45) }], [], []⟩)) (.region ⟨[
      { dst := .t 36, op := .move (.v 10) },
      { dst := .t 37, op := .bin .add (.t 36) (.c (.int .i64 1)) },
      { dst := .v 10, op := .move (.t 37) }], [], []⟩)))))) (.seq (.seq (.region ⟨[
      { dst := .v 11, op := .move (.c (.int .i64 0)) }], [], []⟩) (.block 2 (.loop (.seq (.seq (.region ⟨[
      { dst := .t 46, op := .move (.v 11) },
      { dst := .t 47, op := .fieldAddr 0 (.v 4) },
      { dst := .t 48, op := .load none (.t 47) },
      { dst := .t 49, op := .len (.t 48) },
      { dst := .v 50, op := .bin .lss (.t 46) (.t 49) }], [], []⟩) (.cond (.v 50) (.skip) (.exit 2))) (.seq (.block 3 (.seq (.region ⟨[
      { dst := .t 54, op := .load (some 2) (.v 4) },
      { dst := .t 55, op := .load (some 1) (.v 5) },
      { dst := .t 56, op := .fieldAddr 0 (.v 4) },
      { dst := .t 57, op := .load none (.t 56) },
      { dst := .t 58, op := .move (.v 11) },
      { dst := .t 59, op := .indexAddr 6 (.t 57) (.t 58) },
      { dst := .t 60, op := .fieldAddr 0 (.t 59) },
      { dst := .t 61, op := .load none (.t 60) },
      { dst := .t 62, op := .call 53 [.t 54, .t 55, .t 61] },
      { dst := .t 53, op := .move (.t 62) },
      { dst := .t 63, op := .extract (.t 53) 0 },
      { dst := .t 64, op := .extract (.t 53) 1 },
      { dst := .v 12, op := .move (.t 63) },
      { dst := .v 13, op := .move (.t 64) }], [], []⟩) (.seq (.seq (.region ⟨[
      { dst := .t 65, op := .move (.v 13) },
      { dst := .t 66, op := .bin .neq (.t 65) (.c (.int .i64 0)) },
      { dst := .t 67, op := .move (.t 66) },
      { dst := .t 68, op := .move (.v 12), guard := some (.t 67, false) },
      { dst := .t 69, op := .bin .neq (.t 68) (.c (.int .i64 0)), guard := some (.t 67, false) },
      { dst := .t 70, op := .move (.t 69), guard := some (.t 67, false) },
      { dst := .t 71, op := .move (.v 9), guard := some (.t 70, true) },
      { dst := .t 72, op := .move (.v 6), guard := some (.t 70, true) },
      { dst := .t 73, op := .len (.t 72), guard := some (.t 70, true) },
      { dst := .t 74, op := .bin .geq (.t 71) (.t 73), guard := some (.t 70, true) },
      { dst := .t 75, op := .move (.t 74), guard := some (.t 70, true) },
      { dst := .t 76, op := .move (.v 6), guard := some (.t 75, false) },
      { dst := .t 77, op := .move (.v 9), guard := some (.t 75, false) },
      { dst := .t 78, op := .indexAddr 2 (.t 76) (.t 77), guard := some (.t 75, false) },
      { dst := .t 79, op := .load (some 2) (.t 78), guard := some (.t 75, false) },
      { dst := .t 80, op := .fieldAddr 0 (.v 4), guard := some (.t 75, false) },
      { dst := .t 81, op := .load none (.t 80), guard := some (.t 75, false) },
      { dst := .t 82, op := .move (.v 11), guard := some (.t 75, false) },
      { dst := .t 83, op := .indexAddr 6 (.t 81) (.t 82), guard := some (.t 75, false) },
      { dst := .t 84, op := .fieldAddr 0 (.t 83), guard := some (.t 75, false) },
      { dst := .t 85, op := .load none (.t 84), guard := some (.t 75, false) },
      { dst := .t 86, op := .move (.v 12), guard := some (.t 75, false) },
      { dst := .t 87, op := .build [.a (.t 85) 0 1, .a (.t 86) 0 1], guard := some (.t 75, false) },
      { dst := .t 88, op := .eqAgg true [(.int .i64), (.int .i64)] (.t 79) (.t 87), guard := some (.t 75, false) },
      { dst := .t 89, op := .pick (.t 75) (.c (.bool true)) (.t 88), guard := some (.t 70, true) },
      { dst := .t 90, op := .pick (.t 70) (.t 89) (.c (.bool false)), guard := some (.t 67, false) },
      { dst := .v 91, op := .pick (.t 67) (.c (.bool true)) (.t 90) }], [], [(13, 22), (14, 22)]⟩) (.cond (.v 91) (.seq (.region ⟨[
      { dst := .v 2, op := .move (.c (.bool false)) }], [], []⟩) (.ret)) (.skip))) (.seq (.seq (.region ⟨[
      { dst := .t 92, op := .move (.v 12) },
      { dst := .v 93, op := .bin .neq (.t 92) (.c (.int .i64 0)) }], [], []⟩) (.cond (.v 93) (.region ⟨[
      { dst := .t 94, op := .move (.v 9) },
      { dst := .t 95, op := .bin .add (.t 94) (.c (.int .i64 1)) },
      { dst := .v 9, op := .move (.t 95) }], [], []⟩) (.skip))) (.seq (.region ⟨[
      { dst := .t 96, op := .move (.v 11) },
      { dst := .t 97, op := .bin .eql (.t 96) (.c (.int .i64 0)) },
      { dst := .t 98, op := .move (.t 97) },
      { dst := .t 99, op := .move (.v 12), guard := some (.t 98, true) },
      { dst := .t 100, op := .move (.v 8), guard := some (.t 98, true) },
      { dst := .t 101, op := .bin .neq (.t 99) (.t 100), guard := some (.t 98, true) },
      { dst := .v 102, op := .pick (.t 98) (.t 101) (.c (.bool false)) }], [], []⟩) (.cond (.v 102) (.seq (.region ⟨[
      { dst := .v 2, op := .move (.c (.bool false)) }], [], []⟩) (.ret)) (.skip))))))) (.region ⟨[
      { dst := .t 51, op := .move (.v 11) },
      { dst := .t 52, op := .bin .add (.t 51) (.c (.int .i64 1)) },
      { dst := .v 11, op := .move (.t 52) }], [], []⟩)))))) (.seq (.region ⟨[
      { dst := .t 103, op := .move (.v 7) },
      { dst := .t 104, op := .bin .eql (.t 103) (.c (.int .i64 0)) },
      { dst := .t 105, op := .move (.t 104) },
      { dst := .t 106, op := .move (.v 9), guard := some (.t 105, true) },
      { dst := .t 107, op := .move (.v 6), guard := some (.t 105, true) },
      { dst := .t 108, op := .len (.t 107), guard := some (.t 105, true) },
      { dst := .t 109, op := .bin .eql (.t 106) (.t 108), guard := some (.t 105, true) },
      { dst := .t 110, op := .pick (.t 105) (.t 109) (.c (.bool false)) },
      { dst := .t 111, op := .move (.t 110) },
      { dst := .t 112, op := .call 51 [], guard := some (.t 111, true) },
      { dst := .t 113, op := .pick (.t 111) (.t 112) (.c (.bool false)) },
      { dst := .v 2, op := .move (.t 113) }], [], []⟩) (.ret))))))))))
def vf17 : VFunc := { vs := [0, 2, 3, 4, 5, 6, 7, 8, 9, 10, 11, 12, 13, 16, 35, 50, 91, 93, 102], nparams := 1, rets := [.tmp (.v 2)], body := vb17 }
/- groupcontrol.groupcontrollaw22.CounterLimits -/
def vb18 : VCode :=
    .seq (.region ⟨[
      { dst := .v 2, op := .move (.c (.bool false)) }], [], []⟩) (.seq (.seq (.region ⟨[
      { dst := .t 17, op := .move (.v 0) },
      { dst := .t 18, op := .call 20 [.t 17] },
      { dst := .v 19, op := .not (.t 18) }], [], []⟩) (.cond (.v 19) (.seq (.region ⟨[
      { dst := .t 20, op := .call 51 [] },
      { dst := .v 2, op := .move (.t 20) }], [], []⟩) (.ret)) (.skip))) (.seq (.region ⟨[
      { dst := .t 21, op := .move (.v 0) },
      { dst := .t 22, op := .call 22 [.t 21] },
      { dst := .v 3, op := .move (.t 22) }], [], []⟩) (.seq (.region ⟨[
      { dst := .t 23, op := .move (.v 3) },
      { dst := .t 24, op := .call 23 [.t 23, .c (.int .i64 6)] },
      { dst := .v 4, op := .alloc [.nil 6, .c (.int .i64 0)] },
      { dst := .none, op := .store 2 (.v 4) (.t 24) }], [], []⟩) (.seq (.region ⟨[
      { dst := .t 25, op := .move (.v 3) },
      { dst := .t 26, op := .load (some 2) (.v 4) },
      { dst := .t 27, op := .call 64 [.t 25, .t 26] },
      { dst := .v 5, op := .move (.t 27) }], [], []⟩) (.seq (.region ⟨[
      { dst := .v 6, op := .alloc [.nil 2] }], [], []⟩) (.seq (.seq (.region ⟨[
      { dst := .v 7, op := .move (.c (.int .i64 0)) }], [], []⟩) (.block 0 (.loop (.seq (.seq (.region ⟨[
      { dst := .t 28, op := .move (.v 7) },
      { dst := .t 29, op := .bin .lss (.t 28) (.c (.int .i64 20)) },
      { dst := .t 30, op := .move (.t 29) },
      { dst := .t 31, op := .move (.v 3), guard := some (.t 30, true) },
      { dst := .t 32, op := .call 65 [.t 31], guard := some (.t 30, true) },
      { dst := .v 33, op := .pick (.t 30) (.t 32) (.c (.bool false)) }], [6, 10, 55, 86, 95], []⟩) (.cond (.v 33) (.skip) (.exit 0))) (.seq (.block 1 (.seq (.region ⟨[
      { dst := .t 36, op := .fieldAddr 0 (.v 4) },
      { dst := .t 37, op := .load none (.t 36) },
      { dst := .t 38, op := .move (.v 3) },
      { dst := .t 39, op := .fieldAddr 0 (.v 4) },
      { dst := .t 40, op := .load none (.t 39) },
      { dst := .t 41, op := .len (.t 40) },
      { dst := .t 42, op := .call 27 [.t 38, .t 41] },
      { dst := .t 43, op := .indexAddr 6 (.t 37) (.t 42) },
      { dst := .t 44, op := .fieldAddr 0 (.t 43) },
      { dst := .t 45, op := .load none (.t 44) },
      { dst := .t 46, op := .move (.v 3) },
      { dst := .t 47, op := .buildFz 1 [.c (.int .i64 0), .c (.int .i64 1), .c (.int .i64 4), .c (.int .i64 30), .c (.int .i64 100)] },
      { dst := .t 48, op := .call 48 [.t 46, .t 47] },
      { dst := .v 8, op := .move (.t 45) },
      { dst := .v 9, op := .move (.t 48) }], [], [(1, 6), (1, 12), (7, 12), (9, 12)]⟩) (.seq (.region ⟨[
      { dst := .t 50, op := .load (some 2) (.v 4) },
      { dst := .t 51, op := .load (some 1) (.v 6) },
      { dst := .t 52, op := .move (.v 5) },
      { dst := .t 53, op := .move (.v 8) },
      { dst := .t 54, op := .move (.v 9) },
      { dst := .t 55, op := .call 58 [.t 50, .t 51, .t 52, .t 53, .t 54] },
      { dst := .t 49, op := .move (.t 55) },
      { dst := .t 56, op := .extract (.t 49) 0 },
      { dst := .t 57, op := .extract (.t 49) 1 },
      { dst := .t 58, op := .extract (.t 49) 2 },
      { dst := .v 10, op := .alloc [.nil 2] },
      { dst := .none, op := .store 1 (.v 10) (.t 56) },
      { dst := .v 11, op := .move (.t 57) },
      { dst := .v 12, op := .move (.t 58) }], [], []⟩) (.seq (.seq (.region ⟨[
      { dst := .v 59, op := .move (.v 12) }], [], []⟩) (.block 2 (.seq (.region ⟨[
      { dst := .t 61, op := .bin .eql (.v 59) (.c (.int .i64 0)) },
      { dst := .v 60, op := .move (.t 61) }], [], []⟩) (.cond (.v 60) (.region ⟨[
      { dst := .t 62, op := .load (some 1) (.v 10) },
      { dst := .none, op := .store 1 (.v 6) (.t 62) }], [], []⟩) (.seq (.region ⟨[
      { dst := .t 64, op := .bin .eql (.v 59) (.c (.int .i64 11)) },
      { dst := .v 63, op := .move (.t 64) }], [], []⟩) (.cond (.v 63) (.seq (.region ⟨[
      { dst := .t 66, op := .load (some 2) (.v 4) },
      { dst := .t 67, op := .load (some 1) (.v 6) },
      { dst := .t 68, op := .move (.v 11) },
      { dst := .t 69, op := .call 53 [.t 66, .t 67, .t 68] },
      { dst := .t 65, op := .move (.t 69) },
      { dst := .t 70, op := .extract (.t 65) 0 },
      { dst := .t 71, op := .extract (.t 65) 1 },
      { dst := .v 13, op := .move (.t 70) },
      { dst := .v 14, op := .move (.t 71) }], [], []⟩) (.seq (.region ⟨[
      { dst := .t 72, op := .move (.v 14) },
      { dst := .t 73, op := .bin .neq (.t 72) (.c (.int .i64 0)) },
      { dst := .t 74, op := .move (.t 73) },
      { dst := .t 75, op := .move (.v 13), guard := some (.t 74, false) },
      { dst := .t 76, op := .move (.v 9), guard := some (.t 74, false) },
      { dst := .t 77, op := .bin .add (.t 75) (.t 76), guard := some (.t 74, false) },
      { dst := .t 78, op := .move (.v 5), guard := some (.t 74, false) },
      { dst := .t 79, op := .move (.v 11), guard := some (.t 74, false) },
      { dst := .t 80, op := .call 66 [.t 78, .t 79], guard := some (.t 74, false) },
      { dst := .t 81, op := .bin .leq (.t 77) (.t 80), guard := some (.t 74, false) },
      { dst := .t 82, op := .pick (.t 74) (.c (.bool true)) (.t 81) },
      { dst := .t 83, op := .move (.t 82) },
      { dst := .t 84, op := .load (some 2) (.v 4), guard := some (.t 83, false) },
      { dst := .t 85, op := .move (.v 8), guard := some (.t 83, false) },
      { dst := .t 86, op := .call 31 [.t 84, .t 85], guard := some (.t 83, false) },
      { dst := .t 87, op := .move (.v 11), guard := some (.t 83, false) },
      { dst := .t 88, op := .call 32 [.t 86, .t 87], guard := some (.t 83, false) },
      { dst := .t 89, op := .not (.t 88), guard := some (.t 83, false) },
      { dst := .v 90, op := .pick (.t 83) (.c (.bool true)) (.t 89) }], [], []⟩) (.cond (.v 90) (.seq (.region ⟨[
      { dst := .v 2, op := .move (.c (.bool false)) }], [], []⟩) (.ret)) (.skip)))) (.seq (.region ⟨[
      { dst := .v 2, op := .move (.c (.bool false)) }], [], []⟩) (.ret)))))))) (.seq (.region ⟨[
      { dst := .t 92, op := .load (some 2) (.v 4) },
      { dst := .t 93, op := .load (some 1) (.v 6) },
      { dst := .t 94, op := .move (.v 5) },
      { dst := .t 95, op := .call 67 [.t 92, .t 93, .t 94] },
      { dst := .t 91, op := .move (.t 95) },
      { dst := .t 96, op := .extract (.t 91) 0 },
      { dst := .t 97, op := .extract (.t 91) 1 },
      { dst := .v 15, op := .move (.t 96) },
      { dst := .v 16, op := .move (.t 97) }], [], []⟩) (.seq (.region ⟨[
      { dst := .t 98, op := .move (.v 16) },
      { dst := .t 99, op := .bin .neq (.t 98) (.c (.int .i64 0)) },
      { dst := .t 100, op := .move (.t 99) },
      { dst := .t 101, op := .move (.v 15), guard := some (.t 100, false) },
      { dst := .t 102, op := .len (.t 101), guard := some (.t 100, false) },
      { dst := .t 103, op := .bin .gtr (.t 102) (.c (.int .i64 0)), guard := some (.t 100, false) },
      { dst := .v 104, op := .pick (.t 100) (.c (.bool true)) (.t 103) }], [], []⟩) (.cond (.v 104) (.seq (.region ⟨[
      { dst := .v 2, op := .move (.c (.bool false)) }], [], []⟩) (.ret)) (.skip)))))))) (.region ⟨[
      { dst := .t 34, op := .move (.v 7) },
      { dst := .t 35, op := .bin .add (.t 34) (.c (.int .i64 1)) },
      { dst := .v 7, op := .move (.t 35) }], [], []⟩)))))) (.seq (.region ⟨[
      { dst := .t 105, op := .call 51 [] },
      { dst := .v 2, op := .move (.t 105) }], [], []⟩) (.ret))))))))
def vf18 : VFunc := { vs := [0, 2, 3, 4, 5, 6, 7, 8, 9, 10, 11, 12, 13, 14, 15, 16, 19, 33, 59, 60, 63, 90, 104], nparams := 1, rets := [.tmp (.v 2)], body := vb18 }
/- groupcontrol.groupcontrolmade.Light -/
def vb20 : VCode :=
    .seq (.region ⟨[
      { dst := .v 2, op := .move (.c (.bool false)) }], [], []⟩) (.seq (.region ⟨[
      { dst := .t 3, op := .move (.v 0) },
      { dst := .t 4, op := .len (.t 3) },
      { dst := .t 5, op := .bin .leq (.t 4) (.c (.int .i64 600)) },
      { dst := .v 2, op := .move (.t 5) }], [], []⟩) (.ret))
def vf20 : VFunc := { vs := [0, 2], nparams := 1, rets := [.tmp (.v 2)], body := vb20 }
/- groupcontrol.groupcontrolmade.Roll -/
def vb22 : VCode :=
    .seq (.region ⟨[
      { dst := .v 2, op := .move (.c (.nilp)) }], [], []⟩) (.seq (.region ⟨[
      { dst := .t 3, op := .move (.v 0) },
      { dst := .t 4, op := .build [.a (.t 3) 0 1, .z (.c (.int .i64 0))] },
      { dst := .t 5, op := .box 2 (.t 4) },
      { dst := .v 2, op := .move (.t 5) }], [], []⟩) (.ret))
def vf22 : VFunc := { vs := [0, 2], nparams := 1, rets := [.tmp (.v 2)], body := vb22 }
/- (*groupcontrol.groupcontrolmade.Dice).Tree -/
def vb23 : VCode :=
    .seq (.region ⟨[
      { dst := .v 4, op := .alloc [.nil 6, .c (.int .i64 0)] }], [], []⟩) (.seq (.region ⟨[
      { dst := .t 13, op := .call 70 [] },
      { dst := .v 5, op := .alloc [.nil 6, .c (.int .i64 0)] },
      { dst := .none, op := .store 2 (.v 5) (.t 13) }], [], []⟩) (.seq (.seq (.region ⟨[
      { dst := .t 14, op := .move (.v 0) },
      { dst := .t 15, op := .move (.v 1) },
      { dst := .t 16, op := .bin .add (.t 15) (.c (.int .i64 1)) },
      { dst := .t 17, op := .call 27 [.t 14, .t 16] },
      { dst := .v 6, op := .move (.t 17) }], [], []⟩) (.block 0 (.loop (.seq (.seq (.region ⟨[
      { dst := .t 18, op := .move (.v 6) },
      { dst := .v 19, op := .bin .gtr (.t 18) (.c (.int .i64 0)) }], [8, 11, 13, 37, 58], []⟩) (.cond (.v 19) (.skip) (.exit 0))) (.seq (.block 1 (.seq (.region ⟨[
      { dst := .t 22, op := .fieldAddr 0 (.v 5) },
      { dst := .t 23, op := .load none (.t 22) },
      { dst := .t 24, op := .move (.v 0) },
      { dst := .t 25, op := .fieldAddr 0 (.v 5) },
      { dst := .t 26, op := .load none (.t 25) },
      { dst := .t 27, op := .len (.t 26) },
      { dst := .t 28, op := .call 27 [.t 24, .t 27] },
      { dst := .t 29, op := .indexAddr 6 (.t 23) (.t 28) },
      { dst := .t 30, op := .fieldAddr 0 (.t 29) },
      { dst := .t 31, op := .load none (.t 30) },
      { dst := .v 7, op := .move (.t 31) }], [], [(1, 6)]⟩) (.seq (.seq (.region ⟨[
      { dst := .t 33, op := .load (some 2) (.v 5) },
      { dst := .t 34, op := .move (.v 7) },
      { dst := .t 35, op := .move (.v 0) },
      { dst := .t 36, op := .call 71 [.t 35] },
      { dst := .t 37, op := .call 69 [.t 33, .t 34, .t 36] },
      { dst := .t 32, op := .move (.t 37) },
      { dst := .t 38, op := .extract (.t 32) 0 },
      { dst := .t 39, op := .extract (.t 32) 1 },
      { dst := .t 40, op := .extract (.t 32) 2 },
      { dst := .v 8, op := .alloc [.nil 6, .c (.int .i64 0)] },
      { dst := .none, op := .store 2 (.v 8) (.t 38) },
      { dst := .t 9, op := .move (.t 39) },
      { dst := .v 10, op := .move (.t 40) }], [], [(0, 3), (0, 9), (3, 9), (4, 9)]⟩) (.seq (.region ⟨[
      { dst := .t 41, op := .move (.v 10) },
      { dst := .v 42, op := .bin .eql (.t 41) (.c (.int .i64 0)) }], [], []⟩) (.cond (.v 42) (.region ⟨[
      { dst := .t 43, op := .load (some 2) (.v 8) },
      { dst := .none, op := .store 2 (.v 5) (.t 43) }], [], []⟩) (.skip)))) (.seq (.region ⟨[
      { dst := .t 44, op := .move (.v 0) },
      { dst := .v 45, op := .call 72 [.t 44, .c (.int .i64 6)] }], [], []⟩) (.cond (.v 45) (.seq (.region ⟨[
      { dst := .t 47, op := .load (some 2) (.v 5) },
      { dst := .t 48, op := .fieldAddr 0 (.v 5) },
      { dst := .t 49, op := .load none (.t 48) },
      { dst := .t 50, op := .move (.v 0) },
      { dst := .t 51, op := .fieldAddr 0 (.v 5) },
      { dst := .t 52, op := .load none (.t 51) },
      { dst := .t 53, op := .len (.t 52) },
      { dst := .t 54, op := .call 27 [.t 50, .t 53] },
      { dst := .t 55, op := .indexAddr 6 (.t 49) (.t 54) },
      { dst := .t 56, op := .fieldAddr 0 (.t 55) },
      { dst := .t 57, op := .load none (.t 56) },
      { dst := .t 58, op := .call 56 [.t 47, .t 57] },
      { dst := .t 46, op := .move (.t 58) },
      { dst := .t 59, op := .extract (.t 46) 0 },
      { dst := .t 60, op := .extract (.t 46) 1 },
      { dst := .v 11, op := .alloc [.nil 6, .c (.int .i64 0)] },
      { dst := .none, op := .store 2 (.v 11) (.t 59) },
      { dst := .v 12, op := .move (.t 60) }], [], [(0, 7), (2, 7), (0, 15), (2, 15), (5, 15), (7, 15), (8, 15), (10, 15), (11, 15)]⟩) (.seq (.region ⟨[
      { dst := .t 61, op := .move (.v 12) },
      { dst := .v 62, op := .bin .eql (.t 61) (.c (.int .i64 0)) }], [], []⟩) (.cond (.v 62) (.region ⟨[
      { dst := .t 63, op := .load (some 2) (.v 11) },
      { dst := .none, op := .store 2 (.v 5) (.t 63) }], [], []⟩) (.skip)))) (.skip)))))) (.region ⟨[
      { dst := .t 20, op := .move (.v 6) },
      { dst := .t 21, op := .bin .sub (.t 20) (.c (.int .i64 1)) },
      { dst := .v 6, op := .move (.t 21) }], [], []⟩)))))) (.seq (.region ⟨[
      { dst := .t 64, op := .load (some 2) (.v 5) },
      { dst := .none, op := .store 2 (.v 4) (.t 64) }], [], []⟩) (.ret))))
def vf23 : VFunc := { vs := [0, 1, 4, 5, 6, 7, 8, 10, 11, 12, 19, 42, 45, 62], nparams := 2, rets := [.cell (.v 4) (some 2)], body := vb23 }
/- (*groupcontrol.groupcontrolmade.Dice).Next -/
def vb27 : VCode :=
    .seq (.region ⟨[
      { dst := .v 4, op := .move (.c (.int .i64 0)) }], [], []⟩) (.seq (.seq (.region ⟨[
      { dst := .t 6, op := .move (.v 0) },
      { dst := .t 7, op := .nilCheck (.t 6) },
      { dst := .t 8, op := .fieldAddr 1 (.t 7) },
      { dst := .t 9, op := .load none (.t 8) },
      { dst := .t 10, op := .move (.v 0) },
      { dst := .t 11, op := .nilCheck (.t 10) },
      { dst := .t 12, op := .fieldAddr 0 (.t 11) },
      { dst := .t 13, op := .load none (.t 12) },
      { dst := .t 14, op := .len (.t 13) },
      { dst := .t 15, op := .bin .geq (.t 9) (.t 14) },
      { dst := .t 16, op := .move (.t 15) },
      { dst := .t 17, op := .move (.v 1), guard := some (.t 16, false) },
      { dst := .t 18, op := .bin .lss (.t 17) (.c (.int .i64 1)), guard := some (.t 16, false) },
      { dst := .v 19, op := .pick (.t 16) (.c (.bool true)) (.t 18) }], [], []⟩) (.cond (.v 19) (.seq (.region ⟨[
      { dst := .v 4, op := .move (.c (.int .i64 0)) }], [], []⟩) (.ret)) (.skip))) (.seq (.region ⟨[
      { dst := .t 20, op := .move (.v 0) },
      { dst := .t 21, op := .nilCheck (.t 20) },
      { dst := .t 22, op := .fieldAddr 1 (.t 21) },
      { dst := .t 23, op := .load none (.t 22) },
      { dst := .t 24, op := .bin .add (.t 23) (.c (.int .i64 1)) },
      { dst := .t 25, op := .nilCheck (.t 20) },
      { dst := .t 26, op := .fieldAddr 1 (.t 25) },
      { dst := .none, op := .store 1 (.t 26) (.t 24) }], [], []⟩) (.seq (.region ⟨[
      { dst := .t 27, op := .move (.v 0) },
      { dst := .t 28, op := .nilCheck (.t 27) },
      { dst := .t 29, op := .fieldAddr 0 (.t 28) },
      { dst := .t 30, op := .load none (.t 29) },
      { dst := .t 31, op := .move (.v 0) },
      { dst := .t 32, op := .nilCheck (.t 31) },
      { dst := .t 33, op := .fieldAddr 1 (.t 32) },
      { dst := .t 34, op := .load none (.t 33) },
      { dst := .t 35, op := .bin .sub (.t 34) (.c (.int .i64 1)) },
      { dst := .t 36, op := .indexAddr 1 (.t 30) (.t 35) },
      { dst := .t 37, op := .load none (.t 36) },
      { dst := .t 38, op := .move (.v 1) },
      { dst := .t 39, op := .bin .rem (.t 37) (.t 38) },
      { dst := .v 5, op := .move (.t 39) }], [], []⟩) (.seq (.seq (.region ⟨[
      { dst := .t 40, op := .move (.v 5) },
      { dst := .v 41, op := .bin .lss (.t 40) (.c (.int .i64 0)) }], [], []⟩) (.cond (.v 41) (.region ⟨[
      { dst := .t 42, op := .move (.v 5) },
      { dst := .t 43, op := .move (.v 1) },
      { dst := .t 44, op := .bin .add (.t 42) (.t 43) },
      { dst := .v 5, op := .move (.t 44) }], [], []⟩) (.skip))) (.seq (.region ⟨[
      { dst := .t 45, op := .move (.v 5) },
      { dst := .v 4, op := .move (.t 45) }], [], []⟩) (.ret))))))
def vf27 : VFunc := { vs := [0, 1, 4, 5, 19, 41], nparams := 2, rets := [.tmp (.v 4)], body := vb27 }
/- (*groupcontrol.groupcontrolmade.Dice).Group -/
def vb28 : VCode :=
    .seq (.region ⟨[
      { dst := .v 3, op := .box 2 (.v 1) },
      { dst := .v 4, op := .move (.c (.int .i64 0)) }], [], []⟩) (.seq (.seq (.region ⟨[
      { dst := .t 5, op := .move (.v 0) },
      { dst := .t 6, op := .call 72 [.t 5, .c (.int .i64 15)] },
      { dst := .t 7, op := .move (.t 6) },
      { dst := .t 8, op := .fieldAddr 0 (.v 3), guard := some (.t 7, false) },
      { dst := .t 9, op := .load none (.t 8), guard := some (.t 7, false) },
      { dst := .t 10, op := .len (.t 9), guard := some (.t 7, false) },
      { dst := .t 11, op := .bin .eql (.t 10) (.c (.int .i64 0)), guard := some (.t 7, false) },
      { dst := .v 12, op := .pick (.t 7) (.c (.bool true)) (.t 11) }], [], []⟩) (.cond (.v 12) (.seq (.region ⟨[
      { dst := .t 13, op := .move (.v 0) },
      { dst := .t 14, op := .call 27 [.t 13, .c (.int .i64 9)] },
      { dst := .t 15, op := .bin .sub (.t 14) (.c (.int .i64 1)) },
      { dst := .v 4, op := .move (.t 15) }], [], []⟩) (.ret)) (.skip))) (.seq (.region ⟨[
      { dst := .t 16, op := .fieldAddr 0 (.v 3) },
      { dst := .t 17, op := .load none (.t 16) },
      { dst := .t 18, op := .move (.v 0) },
      { dst := .t 19, op := .fieldAddr 0 (.v 3) },
      { dst := .t 20, op := .load none (.t 19) },
      { dst := .t 21, op := .len (.t 20) },
      { dst := .t 22, op := .call 27 [.t 18, .t 21] },
      { dst := .t 23, op := .indexAddr 6 (.t 17) (.t 22) },
      { dst := .t 24, op := .fieldAddr 0 (.t 23) },
      { dst := .t 25, op := .load none (.t 24) },
      { dst := .v 4, op := .move (.t 25) }], [], [(1, 6)]⟩) (.ret)))
def vf28 : VFunc := { vs := [0, 1, 3, 4, 12], nparams := 2, rets := [.tmp (.v 4)], body := vb28 }
/- groupcontrol.groupcontrolref5.Ancestors -/
def vb31 : VCode :=
    .seq (.region ⟨[
      { dst := .v 2, op := .box 2 (.v 0) },
      { dst := .v 4, op := .newArr 1 }], [], []⟩) (.seq (.seq (.region ⟨[
      { dst := .t 5, op := .load (some 2) (.v 2) },
      { dst := .t 6, op := .move (.v 1) },
      { dst := .t 7, op := .call 76 [.t 5, .t 6] },
      { dst := .v 8, op := .not (.t 7) }], [], []⟩) (.cond (.v 8) (.seq (.region ⟨[
      { dst := .v 4, op := .newArr 1 }], [], []⟩) (.ret)) (.skip))) (.seq (.region ⟨[
      { dst := .t 9, op := .load (some 2) (.v 2) },
      { dst := .t 10, op := .move (.v 1) },
      { dst := .t 11, op := .call 77 [.t 9, .t 10] },
      { dst := .v 4, op := .move (.t 11) }], [], []⟩) (.ret)))
def vf31 : VFunc := { vs := [0, 1, 2, 4, 8], nparams := 2, rets := [.tmp (.v 4)], body := vb31 }
/- groupcontrol.groupcontrolref3.Has -/
def vb32 : VCode :=
    .seq (.region ⟨[
      { dst := .v 4, op := .move (.c (.bool false)) }], [], []⟩) (.seq (.seq (.region ⟨[
      { dst := .v 5, op := .move (.c (.int .i64 0)) }], [], []⟩) (.block 0 (.loop (.seq (.seq (.region ⟨[
      { dst := .t 6, op := .move (.v 5) },
      { dst := .t 7, op := .move (.v 0) },
      { dst := .t 8, op := .len (.t 7) },
      { dst := .v 9, op := .bin .lss (.t 6) (.t 8) }], [], []⟩) (.cond (.v 9) (.skip) (.exit 0))) (.seq (.block 1 (.seq (.region ⟨[
      { dst := .t 12, op := .move (.v 0) },
      { dst := .t 13, op := .move (.v 5) },
      { dst := .t 14, op := .indexAddr 1 (.t 12) (.t 13) },
      { dst := .t 15, op := .load none (.t 14) },
      { dst := .t 16, op := .move (.v 1) },
      { dst := .v 17, op := .bin .eql (.t 15) (.t 16) }], [], []⟩) (.cond (.v 17) (.seq (.region ⟨[
      { dst := .v 4, op := .move (.c (.bool true)) }], [], []⟩) (.ret)) (.skip)))) (.region ⟨[
      { dst := .t 10, op := .move (.v 5) },
      { dst := .t 11, op := .bin .add (.t 10) (.c (.int .i64 1)) },
      { dst := .v 5, op := .move (.t 11) }], [], []⟩)))))) (.seq (.region ⟨[
      { dst := .v 4, op := .move (.c (.bool false)) }], [], []⟩) (.ret)))
def vf32 : VFunc := { vs := [0, 1, 4, 5, 9, 17], nparams := 2, rets := [.tmp (.v 4)], body := vb32 }
/- groupcontrol.groupcontrolref5.Subtree -/
def vb33 : VCode :=
    .seq (.region ⟨[
      { dst := .v 2, op := .box 2 (.v 0) },
      { dst := .v 4, op := .newArr 1 }], [], []⟩) (.seq (.seq (.region ⟨[
      { dst := .t 8, op := .load (some 2) (.v 2) },
      { dst := .t 9, op := .move (.v 1) },
      { dst := .t 10, op := .call 76 [.t 8, .t 9] },
      { dst := .v 11, op := .not (.t 10) }], [], []⟩) (.cond (.v 11) (.seq (.region ⟨[
      { dst := .v 4, op := .newArr 1 }], [], []⟩) (.ret)) (.skip))) (.seq (.region ⟨[
      { dst := .t 12, op := .move (.v 1) },
      { dst := .t 13, op := .buildSlice 1 [.t 12] },
      { dst := .v 5, op := .move (.t 13) }], [], []⟩) (.seq (.region ⟨[
      { dst := .t 14, op := .load (some 2) (.v 2) },
      { dst := .t 15, op := .move (.v 1) },
      { dst := .t 16, op := .call 45 [.t 14, .t 15] },
      { dst := .v 6, op := .move (.t 16) }], [], []⟩) (.seq (.seq (.region ⟨[
      { dst := .v 7, op := .move (.c (.int .i64 0)) }], [], []⟩) (.block 0 (.loop (.seq (.seq (.region ⟨[
      { dst := .t 17, op := .move (.v 7) },
      { dst := .t 18, op := .move (.v 6) },
      { dst := .t 19, op := .len (.t 18) },
      { dst := .v 20, op := .bin .lss (.t 17) (.t 19) }], [29], []⟩) (.cond (.v 20) (.skip) (.exit 0))) (.seq (.block 1 (.region ⟨[
      { dst := .t 23, op := .move (.v 5) },
      { dst := .t 24, op := .load (some 2) (.v 2) },
      { dst := .t 25, op := .move (.v 6) },
      { dst := .t 26, op := .move (.v 7) },
      { dst := .t 27, op := .indexAddr 1 (.t 25) (.t 26) },
      { dst := .t 28, op := .load none (.t 27) },
      { dst := .t 29, op := .call 33 [.t 24, .t 28] },
      { dst := .t 30, op := .append 1 8 (.t 23) (.t 29) },
      { dst := .v 5, op := .move (.t 30) }], [], []⟩)) (.region ⟨[
      { dst := .t 21, op := .move (.v 7) },
      { dst := .t 22, op := .bin .add (.t 21) (.c (.int .i64 1)) },
      { dst := .v 7, op := .move (.t 22) }], [], []⟩)))))) (.seq (.region ⟨[
      { dst := .t 31, op := .move (.v 5) },
      { dst := .v 4, op := .move (.t 31) }], [], []⟩) (.ret))))))
def vf33 : VFunc := { vs := [0, 1, 2, 4, 5, 6, 7, 11, 20], nparams := 2, rets := [.tmp (.v 4)], body := vb33 }
/- groupcontrol.groupcontrollaw32.sane -/
def vb41 : VCode :=
    .seq (.region ⟨[
      { dst := .v 0, op := .move (.c (.bool false)) }], [], []⟩) (.seq (.region ⟨[
      { dst := .t 11, op := .call 47 [] },
      { dst := .v 1, op := .alloc [.nil 6, .c (.int .i64 0)] },
      { dst := .none, op := .store 2 (.v 1) (.t 11) }], [], []⟩) (.seq (.region ⟨[
      { dst := .t 12, op := .build [.a (.c (.int .i64 3)) 0 1, .a (.c (.int .i64 300)) 0 1] },
      { dst := .t 13, op := .buildSlice 2 [.t 12] },
      { dst := .v 2, op := .move (.t 13) }], [], []⟩) (.seq (.region ⟨[
      { dst := .t 15, op := .load (some 2) (.v 1) },
      { dst := .t 16, op := .move (.v 2) },
      { dst := .t 17, op := .buildFz 1 [.c (.int .i64 2), .c (.int .i64 3)] },
      { dst := .t 18, op := .call 43 [.t 15, .t 16, .t 17, .c (.int .i64 2)] },
      { dst := .t 14, op := .move (.t 18) },
      { dst := .t 19, op := .extract (.t 14) 0 },
      { dst := .t 20, op := .extract (.t 14) 1 },
      { dst := .v 3, op := .move (.t 19) },
      { dst := .v 4, op := .move (.t 20) }], [], []⟩) (.seq (.region ⟨[
      { dst := .t 22, op := .load (some 2) (.v 1) },
      { dst := .t 23, op := .move (.v 2) },
      { dst := .t 24, op := .buildFz 1 [.c (.int .i64 3), .c (.int .i64 2)] },
      { dst := .t 25, op := .call 43 [.t 22, .t 23, .t 24, .c (.int .i64 3)] },
      { dst := .t 21, op := .move (.t 25) },
      { dst := .t 26, op := .extract (.t 21) 0 },
      { dst := .t 27, op := .extract (.t 21) 1 },
      { dst := .v 5, op := .move (.t 26) },
      { dst := .v 6, op := .move (.t 27) }], [], []⟩) (.seq (.region ⟨[
      { dst := .t 29, op := .load (some 2) (.v 1) },
      { dst := .t 30, op := .move (.v 2) },
      { dst := .t 31, op := .buildFz 1 [.c (.int .i64 2)] },
      { dst := .t 32, op := .call 43 [.t 29, .t 30, .t 31, .c (.int .i64 2)] },
      { dst := .t 28, op := .move (.t 32) },
      { dst := .t 33, op := .extract (.t 28) 0 },
      { dst := .t 34, op := .extract (.t 28) 1 },
      { dst := .v 7, op := .move (.t 33) },
      { dst := .v 8, op := .move (.t 34) }], [], []⟩) (.seq (.region ⟨[
      { dst := .t 36, op := .load (some 2) (.v 1) },
      { dst := .t 37, op := .call 49 [.t 36, .c (.slice 2 []), .c (.int .i64 2), .c (.int .i64 268435456), .c (.int .i64 10), .c (.int .i64 0), .c (.int .i64 0)] },
      { dst := .t 35, op := .move (.t 37) },
      { dst := .t 38, op := .extract (.t 35) 0 },
      { dst := .t 39, op := .extract (.t 35) 1 },
      { dst := .v 9, op := .move (.t 38) },
      { dst := .v 10, op := .move (.t 39) }], [], []⟩) (.seq (.region ⟨[
      { dst := .t 40, op := .move (.v 4) },
      { dst := .t 41, op := .bin .eql (.t 40) (.c (.int .i64 0)) },
      { dst := .t 42, op := .move (.t 41) },
      { dst := .t 43, op := .move (.v 3), guard := some (.t 42, true) },
      { dst := .t 44, op := .bin .eql (.t 43) (.c (.int .i64 268435456)), guard := some (.t 42, true) },
      { dst := .t 45, op := .pick (.t 42) (.t 44) (.c (.bool false)) },
      { dst := .t 46, op := .move (.t 45) },
      { dst := .t 47, op := .move (.v 6), guard := some (.t 46, true) },
      { dst := .t 48, op := .bin .eql (.t 47) (.c (.int .i64 0)), guard := some (.t 46, true) },
      { dst := .t 49, op := .pick (.t 46) (.t 48) (.c (.bool false)) },
      { dst := .t 50, op := .move (.t 49) },
      { dst := .t 51, op := .move (.v 5), guard := some (.t 50, true) },
      { dst := .t 52, op := .bin .eql (.t 51) (.c (.int .i64 805306368)), guard := some (.t 50, true) },
      { dst := .t 53, op := .pick (.t 50) (.t 52) (.c (.bool false)) },
      { dst := .t 54, op := .move (.t 53) },
      { dst := .t 55, op := .move (.v 8), guard := some (.t 54, true) },
      { dst := .t 56, op := .bin .eql (.t 55) (.c (.int .i64 0)), guard := some (.t 54, true) },
      { dst := .t 57, op := .pick (.t 54) (.t 56) (.c (.bool false)) },
      { dst := .t 58, op := .move (.t 57) },
      { dst := .t 59, op := .move (.v 7), guard := some (.t 58, true) },
      { dst := .t 60, op := .bin .eql (.t 59) (.c (.int .i64 1073741824)), guard := some (.t 58, true) },
      { dst := .t 61, op := .pick (.t 58) (.t 60) (.c (.bool false)) },
      { dst := .t 62, op := .move (.t 61) },
      { dst := .t 63, op := .move (.v 10), guard := some (.t 62, true) },
      { dst := .t 64, op := .bin .eql (.t 63) (.c (.int .i64 0)), guard := some (.t 62, true) },
      { dst := .t 65, op := .pick (.t 62) (.t 64) (.c (.bool false)) },
      { dst := .t 66, op := .move (.t 65) },
      { dst := .t 67, op := .move (.v 9), guard := some (.t 66, true) },
      { dst := .t 68, op := .build [.a (.c (.int .i64 2)) 0 1, .a (.c (.int .i64 40)) 0 1], guard := some (.t 66, true) },
      { dst := .t 69, op := .buildFz 2 [.t 68], guard := some (.t 66, true) },
      { dst := .t 70, op := .call 81 [.t 67, .t 69], guard := some (.t 66, true) },
      { dst := .t 71, op := .pick (.t 66) (.t 70) (.c (.bool false)) },
      { dst := .t 72, op := .move (.t 71) },
      { dst := .t 73, op := .load (some 2) (.v 1), guard := some (.t 72, true) },
      { dst := .t 74, op := .move (.v 9), guard := some (.t 72, true) },
      { dst := .t 75, op := .call 50 [.t 73, .t 74, .c (.int .i64 2), .c (.int .i64 39)], guard := some (.t 72, true) },
      { dst := .t 76, op := .not (.t 75), guard := some (.t 72, true) },
      { dst := .t 77, op := .pick (.t 72) (.t 76) (.c (.bool false)) },
      { dst := .t 78, op := .move (.t 77) },
      { dst := .t 79, op := .load (some 2) (.v 1), guard := some (.t 78, true) },
      { dst := .t 80, op := .move (.v 9), guard := some (.t 78, true) },
      { dst := .t 81, op := .call 50 [.t 79, .t 80, .c (.int .i64 2), .c (.int .i64 40)], guard := some (.t 78, true) },
      { dst := .t 82, op := .pick (.t 78) (.t 81) (.c (.bool false)) },
      { dst := .v 0, op := .move (.t 82) }], [], []⟩) (.ret))))))))
def vf41 : VFunc := { vs := [0, 1, 2, 3, 4, 5, 6, 7, 8, 9, 10], nparams := 0, rets := [.tmp (.v 0)], body := vb41 }
/- (*groupcontrol.groupcontrolmade.Dice).Heavy -/
def vb42 : VCode :=
    .seq (.region ⟨[
      { dst := .v 3, op := .box 2 (.v 1) },
      { dst := .v 4, op := .newArr 2 }], [], []⟩) (.seq (.region ⟨[
      { dst := .v 5, op := .newArr 2 }], [], []⟩) (.seq (.seq (.region ⟨[
      { dst := .v 6, op := .move (.c (.int .i64 0)) }], [], []⟩) (.block 0 (.loop (.seq (.seq (.region ⟨[
      { dst := .t 7, op := .move (.v 6) },
      { dst := .t 8, op := .fieldAddr 0 (.v 3) },
      { dst := .t 9, op := .load none (.t 8) },
      { dst := .t 10, op := .len (.t 9) },
      { dst := .v 11, op := .bin .lss (.t 7) (.t 10) }], [], []⟩) (.cond (.v 11) (.skip) (.exit 0))) (.seq (.block 1 (.seq (.region ⟨[
      { dst := .t 14, op := .move (.v 0) },
      { dst := .v 15, op := .call 72 [.t 14, .c (.int .i64 2)] }], [], []⟩) (.cond (.v 15) (.region ⟨[
      { dst := .t 16, op := .move (.v 5) },
      { dst := .t 17, op := .fieldAddr 0 (.v 3) },
      { dst := .t 18, op := .load none (.t 17) },
      { dst := .t 19, op := .move (.v 6) },
      { dst := .t 20, op := .indexAddr 6 (.t 18) (.t 19) },
      { dst := .t 21, op := .fieldAddr 0 (.t 20) },
      { dst := .t 22, op := .load none (.t 21) },
      { dst := .t 23, op := .move (.v 0) },
      { dst := .t 24, op := .call 82 [.t 23] },
      { dst := .t 25, op := .build [.a (.t 22) 0 1, .a (.t 24) 0 1] },
      { dst := .t 26, op := .buildSlice 2 [.t 25] },
      { dst := .t 27, op := .append 2 16 (.t 16) (.t 26) },
      { dst := .v 5, op := .move (.t 27) }], [], [(2, 8), (4, 8), (6, 8)]⟩) (.skip)))) (.region ⟨[
      { dst := .t 12, op := .move (.v 6) },
      { dst := .t 13, op := .bin .add (.t 12) (.c (.int .i64 1)) },
      { dst := .v 6, op := .move (.t 13) }], [], []⟩)))))) (.seq (.region ⟨[
      { dst := .t 28, op := .move (.v 5) },
      { dst := .v 4, op := .move (.t 28) }], [], []⟩) (.ret))))
def vf42 : VFunc := { vs := [0, 1, 3, 4, 5, 6, 11, 15], nparams := 2, rets := [.tmp (.v 4)], body := vb42 }
/- groupcontrol.iofair.Share -/
def vb43 : VCode :=
    .seq (.region ⟨[
      { dst := .v 4, op := .box 2 (.v 0) },
      { dst := .v 8, op := .move (.c (.int .i64 0)) },
      { dst := .v 9, op := .move (.c (.int .i64 0)) }], [], []⟩) (.seq (.seq (.region ⟨[
      { dst := .t 10, op := .load (some 2) (.v 4) },
      { dst := .t 11, op := .move (.v 1) },
      { dst := .t 12, op := .call 83 [.t 10, .t 11] },
      { dst := .v 13, op := .not (.t 12) }], [], []⟩) (.cond (.v 13) (.seq (.region ⟨[
      { dst := .v 8, op := .move (.c (.int .i64 0)) },
      { dst := .v 9, op := .move (.c (.int .i64 1)) }], [], []⟩) (.ret)) (.skip))) (.seq (.seq (.region ⟨[
      { dst := .t 14, op := .load (some 2) (.v 4) },
      { dst := .t 15, op := .move (.v 3) },
      { dst := .t 16, op := .call 84 [.t 14, .t 15] },
      { dst := .v 17, op := .not (.t 16) }], [], []⟩) (.cond (.v 17) (.seq (.region ⟨[
      { dst := .v 8, op := .move (.c (.int .i64 0)) },
      { dst := .v 9, op := .move (.c (.int .i64 4)) }], [], []⟩) (.ret)) (.skip))) (.seq (.seq (.region ⟨[
      { dst := .t 18, op := .move (.v 3) },
      { dst := .v 19, op := .bin .eql (.t 18) (.c (.int .i64 1)) }], [], []⟩) (.cond (.v 19) (.seq (.region ⟨[
      { dst := .v 8, op := .move (.c (.int .i64 1073741824)) },
      { dst := .v 9, op := .move (.c (.int .i64 0)) }], [], []⟩) (.ret)) (.skip))) (.seq (.region ⟨[
      { dst := .t 20, op := .load (some 2) (.v 4) },
      { dst := .t 21, op := .move (.v 1) },
      { dst := .t 22, op := .move (.v 2) },
      { dst := .t 23, op := .call 85 [.t 20, .t 21, .t 22] },
      { dst := .t 24, op := .move (.v 3) },
      { dst := .t 25, op := .lookup false (.int .i64) (.int .i64 0) (.t 23) (.t 24) },
      { dst := .v 8, op := .move (.t 25) },
      { dst := .v 9, op := .move (.c (.int .i64 0)) }], [], []⟩) (.ret)))))
def vf43 : VFunc := { vs := [0, 1, 2, 3, 4, 8, 9, 13, 17, 19], nparams := 4, rets := [.tmp (.v 8), .tmp (.v 9)], body := vb43 }
/- (*groupcontrol.groupcontrolmade.Dice).Some -/
def vb44 : VCode :=
    .seq (.region ⟨[
      { dst := .v 2, op := .newArr 1 }], [], []⟩) (.seq (.region ⟨[
      { dst := .v 3, op := .newArr 1 }], [], []⟩) (.seq (.seq (.region ⟨[
      { dst := .t 5, op := .move (.v 0) },
      { dst := .t 6, op := .call 27 [.t 5, .c (.int .i64 6)] },
      { dst := .v 4, op := .move (.t 6) }], [], []⟩) (.block 0 (.loop (.seq (.seq (.region ⟨[
      { dst := .t 7, op := .move (.v 4) },
      { dst := .v 8, op := .bin .gtr (.t 7) (.c (.int .i64 0)) }], [], []⟩) (.cond (.v 8) (.skip) (.exit 0))) (.seq (.block 1 (.region ⟨[
      { dst := .t 11, op := .move (.v 3) },
      { dst := .t 12, op := .move (.v 0) },
      { dst := .t 13, op := .call 27 [.t 12, .c (.int .i64 12)] },
      { dst := .t 14, op := .bin .sub (.t 13) (.c (.int .i64 2)) },
      { dst := .t 15, op := .buildSlice 1 [.t 14] },
      { dst := .t 16, op := .append 1 8 (.t 11) (.t 15) },
      { dst := .v 3, op := .move (.t 16) }], [], []⟩)) (.region ⟨[
      { dst := .t 9, op := .move (.v 4) },
      { dst := .t 10, op := .bin .sub (.t 9) (.c (.int .i64 1)) },
      { dst := .v 4, op := .move (.t 10) }], [], []⟩)))))) (.seq (.region ⟨[
      { dst := .t 17, op := .move (.v 3) },
      { dst := .v 2, op := .move (.t 17) }], [], []⟩) (.ret))))
def vf44 : VFunc := { vs := [0, 2, 3, 4, 8], nparams := 1, rets := [.tmp (.v 2)], body := vb44 }
/- groupcontrol.groupcontrolref5.Children -/
def vb45 : VCode :=
    .seq (.region ⟨[
      { dst := .v 2, op := .box 2 (.v 0) },
      { dst := .v 4, op := .newArr 1 }], [], []⟩) (.seq (.seq (.region ⟨[
      { dst := .t 7, op := .load (some 2) (.v 2) },
      { dst := .t 8, op := .move (.v 1) },
      { dst := .t 9, op := .call 76 [.t 7, .t 8] },
      { dst := .v 10, op := .not (.t 9) }], [], []⟩) (.cond (.v 10) (.seq (.region ⟨[
      { dst := .v 4, op := .newArr 1 }], [], []⟩) (.ret)) (.skip))) (.seq (.region ⟨[
      { dst := .v 5, op := .newArr 1 }], [], []⟩) (.seq (.seq (.region ⟨[
      { dst := .v 6, op := .move (.c (.int .i64 0)) }], [], []⟩) (.block 0 (.loop (.seq (.seq (.region ⟨[
      { dst := .t 11, op := .move (.v 6) },
      { dst := .t 12, op := .fieldAddr 0 (.v 2) },
      { dst := .t 13, op := .load none (.t 12) },
      { dst := .t 14, op := .len (.t 13) },
      { dst := .v 15, op := .bin .lss (.t 11) (.t 14) }], [], []⟩) (.cond (.v 15) (.skip) (.exit 0))) (.seq (.block 1 (.seq (.region ⟨[
      { dst := .t 18, op := .fieldAddr 0 (.v 2) },
      { dst := .t 19, op := .load none (.t 18) },
      { dst := .t 20, op := .move (.v 6) },
      { dst := .t 21, op := .indexAddr 6 (.t 19) (.t 20) },
      { dst := .t 22, op := .fieldAddr 1 (.t 21) },
      { dst := .t 23, op := .load none (.t 22) },
      { dst := .t 24, op := .move (.v 1) },
      { dst := .v 25, op := .bin .eql (.t 23) (.t 24) }], [], []⟩) (.cond (.v 25) (.region ⟨[
      { dst := .t 26, op := .move (.v 5) },
      { dst := .t 27, op := .fieldAddr 0 (.v 2) },
      { dst := .t 28, op := .load none (.t 27) },
      { dst := .t 29, op := .move (.v 6) },
      { dst := .t 30, op := .indexAddr 6 (.t 28) (.t 29) },
      { dst := .t 31, op := .fieldAddr 0 (.t 30) },
      { dst := .t 32, op := .load none (.t 31) },
      { dst := .t 33, op := .buildSlice 1 [.t 32] },
      { dst := .t 34, op := .append 1 8 (.t 26) (.t 33) },
      { dst := .v 5, op := .move (.t 34) }], [], []⟩) (.skip)))) (.region ⟨[
      { dst := .t 16, op := .move (.v 6) },
      { dst := .t 17, op := .bin .add (.t 16) (.c (.int .i64 1)) },
      { dst := .v 6, op := .move (.t 17) }], [], []⟩)))))) (.seq (.region ⟨[
      { dst := .t 35, op := .move (.v 5) },
      { dst := .v 4, op := .move (.t 35) }], [], []⟩) (.ret)))))
def vf45 : VFunc := { vs := [0, 1, 2, 4, 5, 6, 10, 15, 25], nparams := 2, rets := [.tmp (.v 4)], body := vb45 }
/- groupcontrol.groupcontrolref32.Of -/
def vb46 : VCode :=
    .seq (.region ⟨[
      { dst := .v 4, op := .move (.c (.int .i64 0)) }], [], []⟩) (.seq (.seq (.region ⟨[
      { dst := .v 5, op := .move (.c (.int .i64 0)) }], [], []⟩) (.block 0 (.loop (.seq (.seq (.region ⟨[
      { dst := .t 6, op := .move (.v 5) },
      { dst := .t 7, op := .move (.v 0) },
      { dst := .t 8, op := .len (.t 7) },
      { dst := .v 9, op := .bin .lss (.t 6) (.t 8) }], [], []⟩) (.cond (.v 9) (.skip) (.exit 0))) (.seq (.block 1 (.seq (.region ⟨[
      { dst := .t 12, op := .move (.v 0) },
      { dst := .t 13, op := .move (.v 5) },
      { dst := .t 14, op := .indexAddr 2 (.t 12) (.t 13) },
      { dst := .t 15, op := .fieldAddr 0 (.t 14) },
      { dst := .t 16, op := .load none (.t 15) },
      { dst := .t 17, op := .move (.v 1) },
      { dst := .v 18, op := .bin .eql (.t 16) (.t 17) }], [], []⟩) (.cond (.v 18) (.seq (.region ⟨[
      { dst := .t 19, op := .move (.v 0) },
      { dst := .t 20, op := .move (.v 5) },
      { dst := .t 21, op := .indexAddr 2 (.t 19) (.t 20) },
      { dst := .t 22, op := .fieldAddr 1 (.t 21) },
      { dst := .t 23, op := .load none (.t 22) },
      { dst := .v 4, op := .move (.t 23) }], [], []⟩) (.ret)) (.skip)))) (.region ⟨[
      { dst := .t 10, op := .move (.v 5) },
      { dst := .t 11, op := .bin .add (.t 10) (.c (.int .i64 1)) },
      { dst := .v 5, op := .move (.t 11) }], [], []⟩)))))) (.seq (.region ⟨[
      { dst := .v 4, op := .move (.c (.int .i64 100)) }], [], []⟩) (.ret)))
def vf46 : VFunc := { vs := [0, 1, 4, 5, 9, 18], nparams := 2, rets := [.tmp (.v 4)], body := vb46 }
/- groupcontrol.groupcontrollaw32.pair -/
def vb47 : VCode :=
    .seq (.region ⟨[
      { dst := .v 0, op := .alloc [.nil 6, .c (.int .i64 0)] }], [], []⟩) (.seq (.region ⟨[
      { dst := .t 1, op := .build [.a (.c (.int .i64 1)) 0 1, .z (.c (.int .i64 0)), .z (.c (.str ⟨#[]⟩)), .z (.c (.int .i64 0)), .z (.c (.int .i64 0)), .z (.c (.int .i64 0))] },
      { dst := .t 2, op := .build [.a (.c (.int .i64 2)) 0 1, .a (.c (.int .i64 1)) 0 1, .a (.c (.str ⟨#[97]⟩)) 0 1, .z (.c (.int .i64 0)), .z (.c (.int .i64 0)), .z (.c (.int .i64 0))] },
      { dst := .t 3, op := .build [.a (.c (.int .i64 3)) 0 1, .a (.c (.int .i64 1)) 0 1, .a (.c (.str ⟨#[98]⟩)) 0 1, .z (.c (.int .i64 0)), .z (.c (.int .i64 0)), .z (.c (.int .i64 0))] },
      { dst := .t 4, op := .buildSlice 6 [.t 1, .t 2, .t 3] },
      { dst := .t 5, op := .build [.a (.t 4) 0 1, .a (.c (.int .i64 4)) 0 1] },
      { dst := .none, op := .store 2 (.v 0) (.t 5) }], [], []⟩) (.ret))
def vf47 : VFunc := { vs := [0], nparams := 0, rets := [.cell (.v 0) (some 2)], body := vb47 }
/- (*groupcontrol.groupcontrolmade.Dice).Pick -/
def vb48 : VCode :=
    .seq (.region ⟨[
      { dst := .v 4, op := .move (.c (.int .i64 0)) }], [], []⟩) (.seq (.region ⟨[
      { dst := .t 5, op := .move (.v 1) },
      { dst := .t 6, op := .move (.v 0) },
      { dst := .t 7, op := .move (.v 1) },
      { dst := .t 8, op := .len (.t 7) },
      { dst := .t 9, op := .call 27 [.t 6, .t 8] },
      { dst := .t 10, op := .indexAddr 1 (.t 5) (.t 9) },
      { dst := .t 11, op := .load none (.t 10) },
      { dst := .v 4, op := .move (.t 11) }], [], []⟩) (.ret))
def vf48 : VFunc := { vs := [0, 1, 4], nparams := 2, rets := [.tmp (.v 4)], body := vb48 }
/- groupcontrol.iofair.Issue -/
def vb49 : VCode :=
    .seq (.region ⟨[
      { dst := .v 7, op := .box 2 (.v 0) },
      { dst := .v 14, op := .newArr 2 },
      { dst := .v 15, op := .move (.c (.int .i64 0)) }], [], []⟩) (.seq (.block 0 (.seq (.region ⟨[
      { dst := .t 18, op := .load (some 2) (.v 7) },
      { dst := .t 19, op := .move (.v 1) },
      { dst := .t 20, op := .call 86 [.t 18, .t 19] },
      { dst := .t 21, op := .not (.t 20) },
      { dst := .v 17, op := .move (.t 21) }], [], []⟩) (.cond (.v 17) (.seq (.region ⟨[
      { dst := .v 14, op := .newArr 2 },
      { dst := .v 15, op := .move (.c (.int .i64 1)) }], [], []⟩) (.ret)) (.seq (.region ⟨[
      { dst := .t 23, op := .load (some 2) (.v 7) },
      { dst := .t 24, op := .move (.v 2) },
      { dst := .t 25, op := .call 84 [.t 23, .t 24] },
      { dst := .t 26, op := .not (.t 25) },
      { dst := .v 22, op := .move (.t 26) }], [], []⟩) (.cond (.v 22) (.seq (.region ⟨[
      { dst := .v 14, op := .newArr 2 },
      { dst := .v 15, op := .move (.c (.int .i64 4)) }], [], []⟩) (.ret)) (.seq (.region ⟨[
      { dst := .t 28, op := .move (.v 3) },
      { dst := .t 29, op := .call 87 [.t 28, .c (.int .i64 1), .c (.int .i64 1073741824)] },
      { dst := .t 30, op := .not (.t 29) },
      { dst := .t 31, op := .move (.t 30) },
      { dst := .t 32, op := .move (.v 4), guard := some (.t 31, false) },
      { dst := .t 33, op := .call 87 [.t 32, .c (.int .i64 1), .c (.int .i64 4294967296)], guard := some (.t 31, false) },
      { dst := .t 34, op := .not (.t 33), guard := some (.t 31, false) },
      { dst := .t 35, op := .pick (.t 31) (.c (.bool true)) (.t 34) },
      { dst := .t 36, op := .move (.t 35) },
      { dst := .t 37, op := .move (.v 5), guard := some (.t 36, false) },
      { dst := .t 38, op := .call 87 [.t 37, .c (.int .i64 0), .c (.int .i64 576460752303423488)], guard := some (.t 36, false) },
      { dst := .t 39, op := .not (.t 38), guard := some (.t 36, false) },
      { dst := .t 40, op := .pick (.t 36) (.c (.bool true)) (.t 39) },
      { dst := .t 41, op := .move (.t 40) },
      { dst := .t 42, op := .move (.v 6), guard := some (.t 41, false) },
      { dst := .t 43, op := .call 87 [.t 42, .c (.int .i64 0), .c (.int .i64 1073741824)], guard := some (.t 41, false) },
      { dst := .t 44, op := .not (.t 43), guard := some (.t 41, false) },
      { dst := .t 45, op := .pick (.t 41) (.c (.bool true)) (.t 44) },
      { dst := .v 27, op := .move (.t 45) }], [], []⟩) (.cond (.v 27) (.seq (.region ⟨[
      { dst := .v 14, op := .newArr 2 },
      { dst := .v 15, op := .move (.c (.int .i64 3)) }], [], []⟩) (.ret)) (.seq (.region ⟨[
      { dst := .t 47, op := .move (.v 1) },
      { dst := .t 48, op := .move (.v 2) },
      { dst := .t 49, op := .call 62 [.t 47, .t 48] },
      { dst := .t 50, op := .move (.v 5) },
      { dst := .t 51, op := .bin .gtr (.t 49) (.t 50) },
      { dst := .v 46, op := .move (.t 51) }], [], []⟩) (.cond (.v 46) (.seq (.region ⟨[
      { dst := .v 14, op := .newArr 2 },
      { dst := .v 15, op := .move (.c (.int .i64 11)) }], [], []⟩) (.ret)) (.skip)))))))))) (.seq (.region ⟨[
      { dst := .t 52, op := .move (.v 1) },
      { dst := .t 53, op := .move (.v 2) },
      { dst := .t 54, op := .call 62 [.t 52, .t 53] },
      { dst := .t 55, op := .move (.v 5) },
      { dst := .t 56, op := .move (.v 6) },
      { dst := .t 57, op := .bin .sub (.t 55) (.t 56) },
      { dst := .t 58, op := .minmax true [.t 54, .t 57, .c (.int .i64 0)] },
      { dst := .t 59, op := .move (.v 4) },
      { dst := .t 60, op := .bin .mul (.t 59) (.c (.int .i64 1073741824)) },
      { dst := .t 61, op := .move (.v 3) },
      { dst := .t 62, op := .bin .add (.t 60) (.t 61) },
      { dst := .t 63, op := .bin .sub (.t 62) (.c (.int .i64 1)) },
      { dst := .t 64, op := .move (.v 3) },
      { dst := .t 65, op := .bin .quo (.t 63) (.t 64) },
      { dst := .t 66, op := .bin .add (.t 58) (.t 65) },
      { dst := .v 16, op := .move (.t 66) }], [], []⟩) (.seq (.seq (.region ⟨[
      { dst := .t 67, op := .move (.v 16) },
      { dst := .v 68, op := .bin .gtr (.t 67) (.c (.int .i64 1152921504606846976)) }], [], []⟩) (.cond (.v 68) (.seq (.region ⟨[
      { dst := .v 14, op := .newArr 2 },
      { dst := .v 15, op := .move (.c (.int .i64 7)) }], [], []⟩) (.ret)) (.skip))) (.seq (.region ⟨[
      { dst := .t 69, op := .move (.v 1) },
      { dst := .t 70, op := .move (.v 2) },
      { dst := .t 71, op := .move (.v 16) },
      { dst := .t 72, op := .call 88 [.t 69, .t 70, .t 71] },
      { dst := .v 14, op := .move (.t 72) },
      { dst := .v 15, op := .move (.c (.int .i64 0)) }], [], []⟩) (.ret)))))
def vf49 : VFunc := { vs := [0, 1, 2, 3, 4, 5, 6, 7, 14, 15, 16, 17, 22, 27, 46, 68], nparams := 7, rets := [.tmp (.v 14), .tmp (.v 15)], body := vb49 }
/- groupcontrol.iofair.May -/
def vb50 : VCode :=
    .seq (.region ⟨[
      { dst := .v 4, op := .box 2 (.v 0) },
      { dst := .v 8, op := .move (.c (.bool false)) }], [], []⟩) (.seq (.region ⟨[
      { dst := .t 9, op := .load (some 2) (.v 4) },
      { dst := .t 10, op := .move (.v 1) },
      { dst := .t 11, op := .call 86 [.t 9, .t 10] },
      { dst := .t 12, op := .move (.t 11) },
      { dst := .t 13, op := .load (some 2) (.v 4), guard := some (.t 12, true) },
      { dst := .t 14, op := .move (.v 2), guard := some (.t 12, true) },
      { dst := .t 15, op := .call 84 [.t 13, .t 14], guard := some (.t 12, true) },
      { dst := .t 16, op := .pick (.t 12) (.t 15) (.c (.bool false)) },
      { dst := .t 17, op := .move (.t 16) },
      { dst := .t 18, op := .move (.v 1), guard := some (.t 17, true) },
      { dst := .t 19, op := .move (.v 2), guard := some (.t 17, true) },
      { dst := .t 20, op := .call 62 [.t 18, .t 19], guard := some (.t 17, true) },
      { dst := .t 21, op := .move (.v 3), guard := some (.t 17, true) },
      { dst := .t 22, op := .bin .leq (.t 20) (.t 21), guard := some (.t 17, true) },
      { dst := .t 23, op := .pick (.t 17) (.t 22) (.c (.bool false)) },
      { dst := .v 8, op := .move (.t 23) }], [], []⟩) (.ret))
def vf50 : VFunc := { vs := [0, 1, 2, 3, 4, 8], nparams := 4, rets := [.tmp (.v 8)], body := vb50 }
/- groupcontrol.groupcontrollaw22.sane -/
def vb51 : VCode :=
    .seq (.region ⟨[
      { dst := .v 0, op := .move (.c (.bool false)) }], [], []⟩) (.seq (.region ⟨[
      { dst := .t 10, op := .build [.a (.c (.int .i64 1)) 0 1, .z (.c (.int .i64 0)), .z (.c (.str ⟨#[]⟩)), .z (.c (.int .i64 0)), .z (.c (.int .i64 0)), .z (.c (.int .i64 0))] },
      { dst := .t 11, op := .build [.a (.c (.int .i64 2)) 0 1, .a (.c (.int .i64 1)) 0 1, .a (.c (.str ⟨#[97]⟩)) 0 1, .z (.c (.int .i64 0)), .z (.c (.int .i64 0)), .z (.c (.int .i64 0))] },
      { dst := .t 12, op := .build [.a (.c (.int .i64 3)) 0 1, .a (.c (.int .i64 2)) 0 1, .a (.c (.str ⟨#[98]⟩)) 0 1, .z (.c (.int .i64 0)), .z (.c (.int .i64 0)), .z (.c (.int .i64 0))] },
      { dst := .t 13, op := .buildSlice 6 [.t 10, .t 11, .t 12] },
      { dst := .t 14, op := .build [.a (.t 13) 0 1, .a (.c (.int .i64 4)) 0 1] },
      { dst := .v 1, op := .alloc [.nil 6, .c (.int .i64 0)] },
      { dst := .none, op := .store 2 (.v 1) (.t 14) }], [], []⟩) (.seq (.region ⟨[
      { dst := .t 15, op := .build [.a (.c (.int .i64 2)) 0 1, .a (.c (.int .i64 5)) 0 1] },
      { dst := .t 16, op := .build [.a (.c (.int .i64 3)) 0 1, .a (.c (.int .i64 7)) 0 1] },
      { dst := .t 17, op := .buildSlice 2 [.t 15, .t 16] },
      { dst := .t 18, op := .build [.a (.t 17) 0 1] },
      { dst := .v 2, op := .alloc [.nil 2] },
      { dst := .none, op := .store 1 (.v 2) (.t 18) }], [], []⟩) (.seq (.region ⟨[
      { dst := .t 20, op := .load (some 2) (.v 1) },
      { dst := .t 21, op := .load (some 1) (.v 2) },
      { dst := .t 22, op := .call 53 [.t 20, .t 21, .c (.int .i64 2)] },
      { dst := .t 19, op := .move (.t 22) },
      { dst := .t 23, op := .extract (.t 19) 0 },
      { dst := .t 24, op := .extract (.t 19) 1 },
      { dst := .v 3, op := .move (.t 23) },
      { dst := .v 4, op := .move (.t 24) }], [], []⟩) (.seq (.region ⟨[
      { dst := .t 26, op := .load (some 2) (.v 1) },
      { dst := .t 27, op := .load (some 1) (.v 2) },
      { dst := .t 28, op := .build [.a (.c (.int .i64 1)) 0 1, .a (.c (.int .i64 100)) 0 1] },
      { dst := .t 29, op := .build [.a (.c (.int .i64 2)) 0 1, .a (.c (.int .i64 15)) 0 1] },
      { dst := .t 30, op := .buildFz 2 [.t 28, .t 29] },
      { dst := .t 31, op := .call 58 [.t 26, .t 27, .t 30, .c (.int .i64 3), .c (.int .i64 4)] },
      { dst := .t 25, op := .move (.t 31) },
      { dst := .t 32, op := .extract (.t 25) 0 },
      { dst := .t 33, op := .extract (.t 25) 1 },
      { dst := .t 34, op := .extract (.t 25) 2 },
      { dst := .t 5, op := .alloc [.nil 2] },
      { dst := .none, op := .store 1 (.t 5) (.t 32) },
      { dst := .v 6, op := .move (.t 33) },
      { dst := .v 7, op := .move (.t 34) }], [], []⟩) (.seq (.region ⟨[
      { dst := .t 36, op := .load (some 2) (.v 1) },
      { dst := .t 37, op := .load (some 1) (.v 2) },
      { dst := .t 38, op := .call 55 [.t 36, .t 37, .c (.int .i64 3)] },
      { dst := .t 35, op := .move (.t 38) },
      { dst := .t 39, op := .extract (.t 35) 0 },
      { dst := .t 40, op := .extract (.t 35) 1 },
      { dst := .v 8, op := .alloc [.nil 2] },
      { dst := .none, op := .store 1 (.v 8) (.t 39) },
      { dst := .v 9, op := .move (.t 40) }], [], []⟩) (.seq (.region ⟨[
      { dst := .t 41, op := .move (.v 4) },
      { dst := .t 42, op := .bin .eql (.t 41) (.c (.int .i64 0)) },
      { dst := .t 43, op := .move (.t 42) },
      { dst := .t 44, op := .move (.v 3), guard := some (.t 43, true) },
      { dst := .t 45, op := .bin .eql (.t 44) (.c (.int .i64 12)), guard := some (.t 43, true) },
      { dst := .t 46, op := .pick (.t 43) (.t 45) (.c (.bool false)) },
      { dst := .t 47, op := .move (.t 46) },
      { dst := .t 48, op := .move (.v 7), guard := some (.t 47, true) },
      { dst := .t 49, op := .bin .eql (.t 48) (.c (.int .i64 11)), guard := some (.t 47, true) },
      { dst := .t 50, op := .pick (.t 47) (.t 49) (.c (.bool false)) },
      { dst := .t 51, op := .move (.t 50) },
      { dst := .t 52, op := .move (.v 6), guard := some (.t 51, true) },
      { dst := .t 53, op := .bin .eql (.t 52) (.c (.int .i64 2)), guard := some (.t 51, true) },
      { dst := .t 54, op := .pick (.t 51) (.t 53) (.c (.bool false)) },
      { dst := .t 55, op := .move (.t 54) },
      { dst := .t 56, op := .move (.v 9), guard := some (.t 55, true) },
      { dst := .t 57, op := .bin .eql (.t 56) (.c (.int .i64 0)), guard := some (.t 55, true) },
      { dst := .t 58, op := .pick (.t 55) (.t 57) (.c (.bool false)) },
      { dst := .t 59, op := .move (.t 58) },
      { dst := .t 60, op := .fieldAddr 0 (.v 8), guard := some (.t 59, true) },
      { dst := .t 61, op := .load none (.t 60), guard := some (.t 59, true) },
      { dst := .t 62, op := .build [.a (.c (.int .i64 2)) 0 1, .a (.c (.int .i64 12)) 0 1], guard := some (.t 59, true) },
      { dst := .t 63, op := .buildFz 2 [.t 62], guard := some (.t 59, true) },
      { dst := .t 64, op := .call 59 [.t 61, .t 63], guard := some (.t 59, true) },
      { dst := .t 65, op := .pick (.t 59) (.t 64) (.c (.bool false)) },
      { dst := .v 0, op := .move (.t 65) }], [], []⟩) (.ret)))))))
def vf51 : VFunc := { vs := [0, 1, 2, 3, 4, 6, 7, 8, 9], nparams := 0, rets := [.tmp (.v 0)], body := vb51 }
/- (*groupcontrol.groupcontrolmade.Dice).Counter -/
def vb52 : VCode :=
    .seq (.region ⟨[
      { dst := .v 3, op := .box 2 (.v 1) },
      { dst := .v 4, op := .alloc [.nil 2] }], [], []⟩) (.seq (.region ⟨[
      { dst := .v 5, op := .alloc [.nil 2] }], [], []⟩) (.seq (.seq (.region ⟨[
      { dst := .v 6, op := .move (.c (.int .i64 0)) }], [], []⟩) (.block 0 (.loop (.seq (.seq (.region ⟨[
      { dst := .t 9, op := .move (.v 6) },
      { dst := .t 10, op := .fieldAddr 0 (.v 3) },
      { dst := .t 11, op := .load none (.t 10) },
      { dst := .t 12, op := .len (.t 11) },
      { dst := .v 13, op := .bin .lss (.t 9) (.t 12) }], [5, 7, 28], []⟩) (.cond (.v 13) (.skip) (.exit 0))) (.seq (.block 1 (.seq (.region ⟨[
      { dst := .t 17, op := .load (some 2) (.v 3) },
      { dst := .t 18, op := .load (some 1) (.v 5) },
      { dst := .t 19, op := .fieldAddr 0 (.v 3) },
      { dst := .t 20, op := .load none (.t 19) },
      { dst := .t 21, op := .move (.v 6) },
      { dst := .t 22, op := .indexAddr 6 (.t 20) (.t 21) },
      { dst := .t 23, op := .fieldAddr 0 (.t 22) },
      { dst := .t 24, op := .load none (.t 23) },
      { dst := .t 25, op := .move (.v 0) },
      { dst := .t 26, op := .buildFz 1 [.c (.int .i64 0), .c (.int .i64 1), .c (.int .i64 5), .c (.int .i64 40), .c (.int .i64 100), .c (.int .i64 1000)] },
      { dst := .t 27, op := .call 48 [.t 25, .t 26] },
      { dst := .t 28, op := .call 89 [.t 17, .t 18, .t 24, .t 27] },
      { dst := .t 16, op := .move (.t 28) },
      { dst := .t 29, op := .extract (.t 16) 0 },
      { dst := .t 30, op := .extract (.t 16) 1 },
      { dst := .v 7, op := .alloc [.nil 2] },
      { dst := .none, op := .store 1 (.v 7) (.t 29) },
      { dst := .v 8, op := .move (.t 30) }], [], [(0, 10), (1, 10), (3, 10), (5, 10), (7, 10), (0, 15), (1, 15), (3, 15), (5, 15), (7, 15), (10, 15), (11, 15)]⟩) (.seq (.region ⟨[
      { dst := .t 31, op := .move (.v 8) },
      { dst := .v 32, op := .bin .eql (.t 31) (.c (.int .i64 0)) }], [], []⟩) (.cond (.v 32) (.region ⟨[
      { dst := .t 33, op := .load (some 1) (.v 7) },
      { dst := .none, op := .store 1 (.v 5) (.t 33) }], [], []⟩) (.skip))))) (.region ⟨[
      { dst := .t 14, op := .move (.v 6) },
      { dst := .t 15, op := .bin .add (.t 14) (.c (.int .i64 1)) },
      { dst := .v 6, op := .move (.t 15) }], [], []⟩)))))) (.seq (.region ⟨[
      { dst := .t 34, op := .load (some 1) (.v 5) },
      { dst := .none, op := .store 1 (.v 4) (.t 34) }], [], []⟩) (.ret))))
def vf52 : VFunc := { vs := [0, 1, 3, 4, 5, 6, 7, 8, 13, 32], nparams := 2, rets := [.cell (.v 4) (some 1)], body := vb52 }
/- groupcontrol.counter.Total -/
def vb53 : VCode :=
    .seq (.region ⟨[
      { dst := .v 3, op := .box 2 (.v 0) },
      { dst := .v 4, op := .box 1 (.v 1) },
      { dst := .v 6, op := .move (.c (.int .i64 0)) },
      { dst := .v 7, op := .move (.c (.int .i64 0)) }], [], []⟩) (.seq (.seq (.region ⟨[
      { dst := .t 9, op := .load (some 2) (.v 3) },
      { dst := .t 10, op := .load (some 1) (.v 4) },
      { dst := .t 11, op := .move (.v 2) },
      { dst := .t 12, op := .call 90 [.t 9, .t 10, .t 11] },
      { dst := .v 8, op := .move (.t 12) }], [], []⟩) (.seq (.region ⟨[
      { dst := .t 13, op := .move (.v 8) },
      { dst := .v 14, op := .bin .neq (.t 13) (.c (.int .i64 0)) }], [], []⟩) (.cond (.v 14) (.seq (.region ⟨[
      { dst := .t 15, op := .move (.v 8) },
      { dst := .v 6, op := .move (.c (.int .i64 0)) },
      { dst := .v 7, op := .move (.t 15) }], [], []⟩) (.ret)) (.skip)))) (.seq (.region ⟨[
      { dst := .t 16, op := .load (some 2) (.v 3) },
      { dst := .t 17, op := .load (some 1) (.v 4) },
      { dst := .t 18, op := .call 91 [.t 16, .t 17] },
      { dst := .t 19, op := .move (.v 2) },
      { dst := .t 20, op := .lookup false (.int .i64) (.int .i64 0) (.t 18) (.t 19) },
      { dst := .v 6, op := .move (.t 20) },
      { dst := .v 7, op := .move (.c (.int .i64 0)) }], [], []⟩) (.ret)))
def vf53 : VFunc := { vs := [0, 1, 2, 3, 4, 6, 7, 8, 14], nparams := 3, rets := [.tmp (.v 6), .tmp (.v 7)], body := vb53 }
/- groupcontrol.counter.Own -/
def vb54 : VCode :=
    .seq (.region ⟨[
      { dst := .v 2, op := .box 1 (.v 0) },
      { dst := .v 4, op := .move (.c (.int .i64 0)) }], [], []⟩) (.seq (.seq (.region ⟨[
      { dst := .t 7, op := .fieldAddr 0 (.v 2) },
      { dst := .v 8, op := .load none (.t 7) },
      { dst := .v 9, op := .len (.v 8) },
      { dst := .v 10, op := .move (.c (.int .i64 0)) }], [], []⟩) (.block 0 (.loop (.seq (.region ⟨[
      { dst := .v 11, op := .bin .lss (.v 10) (.v 9) }], [], []⟩) (.seq (.cond (.v 11) (.skip) (.exit 0)) (.seq (.block 1 (.seq (.region ⟨[
      { dst := .t 12, op := .indexAddr 2 (.v 8) (.v 10) },
      { dst := .t 13, op := .load (some 2) (.t 12) },
      { dst := .v 6, op := .alloc [.c (.int .i64 0), .c (.int .i64 0)] },
      { dst := .none, op := .store 2 (.v 6) (.t 13) }], [], []⟩) (.seq (.region ⟨[
      { dst := .t 14, op := .fieldAddr 0 (.v 6) },
      { dst := .t 15, op := .load none (.t 14) },
      { dst := .t 16, op := .move (.v 1) },
      { dst := .v 17, op := .bin .eql (.t 15) (.t 16) }], [], []⟩) (.cond (.v 17) (.seq (.region ⟨[
      { dst := .t 18, op := .fieldAddr 1 (.v 6) },
      { dst := .t 19, op := .load none (.t 18) },
      { dst := .v 4, op := .move (.t 19) }], [], []⟩) (.ret)) (.skip))))) (.region ⟨[
      { dst := .t 20, op := .bin .add (.v 10) (.c (.int .i64 1)) },
      { dst := .v 10, op := .move (.t 20) }], [], []⟩))))))) (.seq (.region ⟨[
      { dst := .v 4, op := .move (.c (.int .i64 0)) }], [], []⟩) (.ret)))
def vf54 : VFunc := { vs := [0, 1, 2, 4, 6, 8, 9, 10, 11, 17], nparams := 2, rets := [.tmp (.v 4)], body := vb54 }
/- groupcontrol.counter.Remove -/
def vb55 : VCode :=
    .seq (.region ⟨[
      { dst := .v 3, op := .box 2 (.v 0) },
      { dst := .v 4, op := .box 1 (.v 1) },
      { dst := .v 6, op := .alloc [.nil 2] },
      { dst := .v 7, op := .move (.c (.int .i64 0)) }], [], []⟩) (.seq (.seq (.region ⟨[
      { dst := .t 12, op := .load (some 2) (.v 3) },
      { dst := .t 13, op := .load (some 1) (.v 4) },
      { dst := .t 14, op := .move (.v 2) },
      { dst := .t 15, op := .call 90 [.t 12, .t 13, .t 14] },
      { dst := .v 8, op := .move (.t 15) }], [], []⟩) (.seq (.region ⟨[
      { dst := .t 16, op := .move (.v 8) },
      { dst := .v 17, op := .bin .neq (.t 16) (.c (.int .i64 0)) }], [], []⟩) (.cond (.v 17) (.seq (.region ⟨[
      { dst := .t 18, op := .build [.z (.nil 2)] },
      { dst := .t 19, op := .move (.v 8) },
      { dst := .none, op := .store 1 (.v 6) (.t 18) },
      { dst := .v 7, op := .move (.t 19) }], [], []⟩) (.ret)) (.skip)))) (.seq (.seq (.region ⟨[
      { dst := .t 20, op := .move (.v 2) },
      { dst := .v 21, op := .bin .eql (.t 20) (.c (.int .i64 1)) }], [], []⟩) (.cond (.v 21) (.seq (.region ⟨[
      { dst := .t 22, op := .build [.z (.nil 2)] },
      { dst := .none, op := .store 1 (.v 6) (.t 22) },
      { dst := .v 7, op := .move (.c (.int .i64 3)) }], [], []⟩) (.ret)) (.skip))) (.seq (.seq (.region ⟨[
      { dst := .t 23, op := .load (some 2) (.v 3) },
      { dst := .t 24, op := .move (.v 2) },
      { dst := .t 25, op := .call 92 [.t 23, .t 24] },
      { dst := .t 26, op := .len (.t 25) },
      { dst := .v 27, op := .bin .gtr (.t 26) (.c (.int .i64 0)) }], [], []⟩) (.cond (.v 27) (.seq (.region ⟨[
      { dst := .t 28, op := .build [.z (.nil 2)] },
      { dst := .none, op := .store 1 (.v 6) (.t 28) },
      { dst := .v 7, op := .move (.c (.int .i64 6)) }], [], []⟩) (.ret)) (.skip))) (.seq (.region ⟨[
      { dst := .t 30, op := .load (some 2) (.v 3) },
      { dst := .t 31, op := .move (.v 2) },
      { dst := .t 32, op := .call 93 [.t 30, .t 31] },
      { dst := .t 29, op := .move (.t 32) },
      { dst := .t 33, op := .extract (.t 29) 0 },
      { dst := .t 34, op := .extract (.t 29) 1 },
      { dst := .v 9, op := .alloc [.c (.int .i64 0), .c (.int .i64 0), .c (.str ⟨#[]⟩), .c (.int .i64 0), .c (.int .i64 0), .c (.int .i64 0)] },
      { dst := .none, op := .store 6 (.v 9) (.t 33) },
      { dst := .t 10, op := .move (.t 34) }], [], []⟩) (.seq (.region ⟨[
      { dst := .t 35, op := .load (some 1) (.v 4) },
      { dst := .t 36, op := .move (.v 2) },
      { dst := .t 37, op := .call 54 [.t 35, .t 36] },
      { dst := .v 11, op := .move (.t 37) }], [], []⟩) (.seq (.seq (.region ⟨[
      { dst := .t 38, op := .move (.v 11) },
      { dst := .v 39, op := .bin .eql (.t 38) (.c (.int .i64 0)) }], [], []⟩) (.cond (.v 39) (.seq (.region ⟨[
      { dst := .t 40, op := .load (some 1) (.v 4) },
      { dst := .t 41, op := .move (.v 2) },
      { dst := .t 42, op := .call 94 [.t 40, .t 41, .c (.int .i64 0)] },
      { dst := .none, op := .store 1 (.v 6) (.t 42) },
      { dst := .v 7, op := .move (.c (.int .i64 0)) }], [], []⟩) (.ret)) (.skip))) (.seq (.region ⟨[
      { dst := .t 43, op := .load (some 1) (.v 4) },
      { dst := .t 44, op := .move (.v 2) },
      { dst := .t 45, op := .call 94 [.t 43, .t 44, .c (.int .i64 0)] },
      { dst := .t 46, op := .fieldAddr 1 (.v 9) },
      { dst := .t 47, op := .load none (.t 46) },
      { dst := .t 48, op := .load (some 1) (.v 4) },
      { dst := .t 49, op := .fieldAddr 1 (.v 9) },
      { dst := .t 50, op := .load none (.t 49) },
      { dst := .t 51, op := .call 54 [.t 48, .t 50] },
      { dst := .t 52, op := .move (.v 11) },
      { dst := .t 53, op := .bin .add (.t 51) (.t 52) },
      { dst := .t 54, op := .call 94 [.t 45, .t 47, .t 53] },
      { dst := .none, op := .store 1 (.v 6) (.t 54) },
      { dst := .v 7, op := .move (.c (.int .i64 0)) }], [], [(2, 4), (2, 5), (2, 7), (4, 8)]⟩) (.ret))))))))
def vf55 : VFunc := { vs := [0, 1, 2, 3, 4, 6, 7, 8, 9, 11, 17, 21, 27, 39], nparams := 3, rets := [.cell (.v 6) (some 1), .tmp (.v 7)], body := vb55 }
/- groupcontrol.groupcontrolref5.Remove -/
def vb56 : VCode :=
    .seq (.region ⟨[
      { dst := .v 2, op := .box 2 (.v 0) },
      { dst := .v 4, op := .alloc [.nil 6, .c (.int .i64 0)] },
      { dst := .v 5, op := .move (.c (.int .i64 0)) }], [], []⟩) (.seq (.block 0 (.seq (.region ⟨[
      { dst := .t 9, op := .load (some 2) (.v 2) },
      { dst := .t 10, op := .call 79 [.t 9] },
      { dst := .t 11, op := .not (.t 10) },
      { dst := .v 8, op := .move (.t 11) }], [], []⟩) (.cond (.v 8) (.seq (.region ⟨[
      { dst := .t 12, op := .build [.z (.nil 6), .z (.c (.int .i64 0))] },
      { dst := .none, op := .store 2 (.v 4) (.t 12) },
      { dst := .v 5, op := .move (.c (.int .i64 1)) }], [], []⟩) (.ret)) (.seq (.region ⟨[
      { dst := .t 14, op := .load (some 2) (.v 2) },
      { dst := .t 15, op := .move (.v 1) },
      { dst := .t 16, op := .call 76 [.t 14, .t 15] },
      { dst := .t 17, op := .not (.t 16) },
      { dst := .v 13, op := .move (.t 17) }], [], []⟩) (.cond (.v 13) (.seq (.region ⟨[
      { dst := .t 18, op := .build [.z (.nil 6), .z (.c (.int .i64 0))] },
      { dst := .none, op := .store 2 (.v 4) (.t 18) },
      { dst := .v 5, op := .move (.c (.int .i64 4)) }], [], []⟩) (.ret)) (.seq (.region ⟨[
      { dst := .t 20, op := .move (.v 1) },
      { dst := .t 21, op := .bin .eql (.t 20) (.c (.int .i64 1)) },
      { dst := .v 19, op := .move (.t 21) }], [], []⟩) (.cond (.v 19) (.seq (.region ⟨[
      { dst := .t 22, op := .build [.z (.nil 6), .z (.c (.int .i64 0))] },
      { dst := .none, op := .store 2 (.v 4) (.t 22) },
      { dst := .v 5, op := .move (.c (.int .i64 9)) }], [], []⟩) (.ret)) (.seq (.region ⟨[
      { dst := .t 24, op := .load (some 2) (.v 2) },
      { dst := .t 25, op := .move (.v 1) },
      { dst := .t 26, op := .call 45 [.t 24, .t 25] },
      { dst := .t 27, op := .len (.t 26) },
      { dst := .t 28, op := .bin .gtr (.t 27) (.c (.int .i64 0)) },
      { dst := .v 23, op := .move (.t 28) }], [], []⟩) (.cond (.v 23) (.seq (.region ⟨[
      { dst := .t 29, op := .build [.z (.nil 6), .z (.c (.int .i64 0))] },
      { dst := .none, op := .store 2 (.v 4) (.t 29) },
      { dst := .v 5, op := .move (.c (.int .i64 6)) }], [], []⟩) (.ret)) (.skip)))))))))) (.seq (.region ⟨[
      { dst := .t 30, op := .fieldAddr 1 (.v 2) },
      { dst := .t 31, op := .load none (.t 30) },
      { dst := .t 32, op := .build [.z (.nil 6), .a (.t 31) 0 1] },
      { dst := .v 6, op := .alloc [.nil 6, .c (.int .i64 0)] },
      { dst := .none, op := .store 2 (.v 6) (.t 32) }], [], []⟩) (.seq (.seq (.region ⟨[
      { dst := .v 7, op := .move (.c (.int .i64 0)) }], [], []⟩) (.block 1 (.loop (.seq (.seq (.region ⟨[
      { dst := .t 33, op := .move (.v 7) },
      { dst := .t 34, op := .fieldAddr 0 (.v 2) },
      { dst := .t 35, op := .load none (.t 34) },
      { dst := .t 36, op := .len (.t 35) },
      { dst := .v 37, op := .bin .lss (.t 33) (.t 36) }], [], []⟩) (.cond (.v 37) (.skip) (.exit 1))) (.seq (.block 2 (.seq (.region ⟨[
      { dst := .t 40, op := .fieldAddr 0 (.v 2) },
      { dst := .t 41, op := .load none (.t 40) },
      { dst := .t 42, op := .move (.v 7) },
      { dst := .t 43, op := .indexAddr 6 (.t 41) (.t 42) },
      { dst := .t 44, op := .fieldAddr 0 (.t 43) },
      { dst := .t 45, op := .load none (.t 44) },
      { dst := .t 46, op := .move (.v 1) },
      { dst := .v 47, op := .bin .neq (.t 45) (.t 46) }], [], []⟩) (.cond (.v 47) (.region ⟨[
      { dst := .t 48, op := .fieldAddr 0 (.v 6) },
      { dst := .t 49, op := .load none (.t 48) },
      { dst := .t 50, op := .fieldAddr 0 (.v 2) },
      { dst := .t 51, op := .load none (.t 50) },
      { dst := .t 52, op := .move (.v 7) },
      { dst := .t 53, op := .indexAddr 6 (.t 51) (.t 52) },
      { dst := .t 54, op := .load (some 6) (.t 53) },
      { dst := .t 55, op := .buildSlice 6 [.t 54] },
      { dst := .t 56, op := .append 6 56 (.t 49) (.t 55) },
      { dst := .t 57, op := .fieldAddr 0 (.v 6) },
      { dst := .none, op := .store 1 (.t 57) (.t 56) }], [], [(1, 7)]⟩) (.skip)))) (.region ⟨[
      { dst := .t 38, op := .move (.v 7) },
      { dst := .t 39, op := .bin .add (.t 38) (.c (.int .i64 1)) },
      { dst := .v 7, op := .move (.t 39) }], [], []⟩)))))) (.seq (.region ⟨[
      { dst := .t 58, op := .load (some 2) (.v 6) },
      { dst := .none, op := .store 2 (.v 4) (.t 58) },
      { dst := .v 5, op := .move (.c (.int .i64 0)) }], [], []⟩) (.ret)))))
def vf56 : VFunc := { vs := [0, 1, 2, 4, 5, 6, 7, 8, 13, 19, 23, 37, 47], nparams := 2, rets := [.cell (.v 4) (some 2), .tmp (.v 5)], body := vb56 }
/- groupcontrol.counter.Add -/
def vb57 : VCode :=
    .seq (.region ⟨[
      { dst := .v 4, op := .box 2 (.v 0) },
      { dst := .v 5, op := .box 1 (.v 1) },
      { dst := .v 8, op := .alloc [.nil 2] },
      { dst := .v 9, op := .move (.c (.int .i64 0)) }], [], []⟩) (.seq (.seq (.region ⟨[
      { dst := .t 11, op := .load (some 2) (.v 4) },
      { dst := .t 12, op := .load (some 1) (.v 5) },
      { dst := .t 13, op := .move (.v 2) },
      { dst := .t 14, op := .call 90 [.t 11, .t 12, .t 13] },
      { dst := .v 10, op := .move (.t 14) }], [], []⟩) (.seq (.region ⟨[
      { dst := .t 15, op := .move (.v 10) },
      { dst := .v 16, op := .bin .neq (.t 15) (.c (.int .i64 0)) }], [], []⟩) (.cond (.v 16) (.seq (.region ⟨[
      { dst := .t 17, op := .build [.z (.nil 2)] },
      { dst := .t 18, op := .move (.v 10) },
      { dst := .none, op := .store 1 (.v 8) (.t 17) },
      { dst := .v 9, op := .move (.t 18) }], [], []⟩) (.ret)) (.skip)))) (.seq (.region ⟨[
      { dst := .t 19, op := .load (some 2) (.v 4) },
      { dst := .t 20, op := .load (some 1) (.v 5) },
      { dst := .t 21, op := .move (.v 2) },
      { dst := .t 22, op := .move (.v 3) },
      { dst := .t 23, op := .call 95 [.t 19, .t 20, .t 21, .t 22] },
      { dst := .t 24, op := .extract (.t 23) 0 },
      { dst := .t 25, op := .extract (.t 23) 1 },
      { dst := .none, op := .store 1 (.v 8) (.t 24) },
      { dst := .v 9, op := .move (.t 25) }], [], []⟩) (.ret)))
def vf57 : VFunc := { vs := [0, 1, 2, 3, 4, 5, 8, 9, 10, 16], nparams := 4, rets := [.cell (.v 8) (some 1), .tmp (.v 9)], body := vb57 }
/- groupcontrol.counter.Charge -/
def vb58 : VCode :=
    .seq (.region ⟨[
      { dst := .v 5, op := .box 2 (.v 0) },
      { dst := .v 6, op := .box 1 (.v 1) },
      { dst := .v 10, op := .alloc [.nil 2] },
      { dst := .v 11, op := .move (.c (.int .i64 0)) },
      { dst := .v 12, op := .move (.c (.int .i64 0)) }], [], []⟩) (.seq (.seq (.region ⟨[
      { dst := .t 22, op := .load (some 2) (.v 5) },
      { dst := .t 23, op := .load (some 1) (.v 6) },
      { dst := .t 24, op := .call 96 [.t 22, .t 23] },
      { dst := .t 25, op := .not (.t 24) },
      { dst := .t 26, op := .move (.t 25) },
      { dst := .t 27, op := .load (some 2) (.v 5), guard := some (.t 26, false) },
      { dst := .t 28, op := .move (.v 2), guard := some (.t 26, false) },
      { dst := .t 29, op := .call 97 [.t 27, .t 28], guard := some (.t 26, false) },
      { dst := .t 30, op := .not (.t 29), guard := some (.t 26, false) },
      { dst := .v 31, op := .pick (.t 26) (.c (.bool true)) (.t 30) }], [], []⟩) (.cond (.v 31) (.seq (.region ⟨[
      { dst := .t 32, op := .build [.z (.nil 2)] },
      { dst := .none, op := .store 1 (.v 10) (.t 32) },
      { dst := .v 11, op := .move (.c (.int .i64 0)) },
      { dst := .v 12, op := .move (.c (.int .i64 1)) }], [], []⟩) (.ret)) (.skip))) (.seq (.seq (.region ⟨[
      { dst := .t 33, op := .load (some 2) (.v 5) },
      { dst := .t 34, op := .load (some 1) (.v 6) },
      { dst := .t 35, op := .move (.v 3) },
      { dst := .t 36, op := .call 90 [.t 33, .t 34, .t 35] },
      { dst := .v 13, op := .move (.t 36) }], [], []⟩) (.seq (.region ⟨[
      { dst := .t 37, op := .move (.v 13) },
      { dst := .v 38, op := .bin .neq (.t 37) (.c (.int .i64 0)) }], [], []⟩) (.cond (.v 38) (.seq (.region ⟨[
      { dst := .t 39, op := .build [.z (.nil 2)] },
      { dst := .t 40, op := .move (.v 13) },
      { dst := .none, op := .store 1 (.v 10) (.t 39) },
      { dst := .v 11, op := .move (.c (.int .i64 0)) },
      { dst := .v 12, op := .move (.t 40) }], [], []⟩) (.ret)) (.skip)))) (.seq (.seq (.region ⟨[
      { dst := .t 41, op := .move (.v 4) },
      { dst := .v 42, op := .bin .lss (.t 41) (.c (.int .i64 0)) }], [], []⟩) (.cond (.v 42) (.seq (.region ⟨[
      { dst := .t 43, op := .build [.z (.nil 2)] },
      { dst := .none, op := .store 1 (.v 10) (.t 43) },
      { dst := .v 11, op := .move (.c (.int .i64 0)) },
      { dst := .v 12, op := .move (.c (.int .i64 3)) }], [], []⟩) (.ret)) (.skip))) (.seq (.region ⟨[
      { dst := .t 45, op := .load (some 2) (.v 5) },
      { dst := .t 46, op := .load (some 1) (.v 6) },
      { dst := .t 47, op := .move (.v 3) },
      { dst := .t 48, op := .move (.v 4) },
      { dst := .t 49, op := .call 95 [.t 45, .t 46, .t 47, .t 48] },
      { dst := .t 44, op := .move (.t 49) },
      { dst := .t 50, op := .extract (.t 44) 0 },
      { dst := .t 51, op := .extract (.t 44) 1 },
      { dst := .v 14, op := .alloc [.nil 2] },
      { dst := .none, op := .store 1 (.v 14) (.t 50) },
      { dst := .v 15, op := .move (.t 51) }], [], []⟩) (.seq (.seq (.region ⟨[
      { dst := .t 52, op := .move (.v 15) },
      { dst := .t 53, op := .bin .neq (.t 52) (.c (.int .i64 0)) },
      { dst := .t 54, op := .move (.t 53) },
      { dst := .t 55, op := .move (.v 4), guard := some (.t 54, false) },
      { dst := .t 56, op := .bin .eql (.t 55) (.c (.int .i64 0)), guard := some (.t 54, false) },
      { dst := .v 57, op := .pick (.t 54) (.c (.bool true)) (.t 56) }], [], []⟩) (.cond (.v 57) (.seq (.region ⟨[
      { dst := .t 58, op := .load (some 1) (.v 14) },
      { dst := .t 59, op := .move (.v 15) },
      { dst := .none, op := .store 1 (.v 10) (.t 58) },
      { dst := .v 11, op := .move (.c (.int .i64 0)) },
      { dst := .v 12, op := .move (.t 59) }], [], []⟩) (.ret)) (.skip))) (.seq (.region ⟨[
      { dst := .t 60, op := .load (some 2) (.v 5) },
      { dst := .t 61, op := .load (some 1) (.v 6) },
      { dst := .t 62, op := .call 91 [.t 60, .t 61] },
      { dst := .t 63, op := .move (.v 2) },
      { dst := .t 64, op := .call 98 [.t 63] },
      { dst := .v 16, op := .move (.t 62) },
      { dst := .v 17, op := .move (.t 64) }], [], []⟩) (.seq (.seq (.region ⟨[
      { dst := .t 65, op := .load (some 2) (.v 5) },
      { dst := .t 66, op := .move (.v 3) },
      { dst := .v 67, op := .call 99 [.t 65, .t 66] },
      { dst := .v 68, op := .len (.v 67) },
      { dst := .v 69, op := .move (.c (.int .i64 0)) }], [], []⟩) (.block 0 (.loop (.seq (.region ⟨[
      { dst := .v 70, op := .bin .lss (.v 69) (.v 68) }], [89], []⟩) (.seq (.cond (.v 70) (.skip) (.exit 0)) (.seq (.block 1 (.seq (.region ⟨[
      { dst := .t 71, op := .indexAddr 1 (.v 67) (.v 69) },
      { dst := .t 72, op := .load none (.t 71) },
      { dst := .v 19, op := .move (.t 72) }], [], []⟩) (.seq (.region ⟨[
      { dst := .t 74, op := .move (.v 17) },
      { dst := .t 75, op := .move (.v 19) },
      { dst := .t 76, op := .lookup true (.int .i64) (.int .i64 0) (.t 74) (.t 75) },
      { dst := .t 73, op := .move (.t 76) },
      { dst := .t 77, op := .extract (.t 73) 0 },
      { dst := .t 78, op := .extract (.t 73) 1 },
      { dst := .v 20, op := .move (.t 77) },
      { dst := .v 21, op := .move (.t 78) }], [], []⟩) (.seq (.region ⟨[
      { dst := .t 79, op := .move (.v 21) },
      { dst := .t 80, op := .move (.t 79) },
      { dst := .t 81, op := .move (.v 16), guard := some (.t 80, true) },
      { dst := .t 82, op := .move (.v 19), guard := some (.t 80, true) },
      { dst := .t 83, op := .lookup false (.int .i64) (.int .i64 0) (.t 81) (.t 82), guard := some (.t 80, true) },
      { dst := .t 84, op := .move (.v 4), guard := some (.t 80, true) },
      { dst := .t 85, op := .bin .add (.t 83) (.t 84), guard := some (.t 80, true) },
      { dst := .t 86, op := .move (.v 20), guard := some (.t 80, true) },
      { dst := .t 87, op := .bin .gtr (.t 85) (.t 86), guard := some (.t 80, true) },
      { dst := .v 88, op := .pick (.t 80) (.t 87) (.c (.bool false)) }], [], []⟩) (.cond (.v 88) (.seq (.region ⟨[
      { dst := .t 89, op := .build [.z (.nil 2)] },
      { dst := .t 90, op := .move (.v 19) },
      { dst := .none, op := .store 1 (.v 10) (.t 89) },
      { dst := .v 11, op := .move (.t 90) },
      { dst := .v 12, op := .move (.c (.int .i64 11)) }], [], []⟩) (.ret)) (.skip)))))) (.region ⟨[
      { dst := .t 91, op := .bin .add (.v 69) (.c (.int .i64 1)) },
      { dst := .v 69, op := .move (.t 91) }], [], []⟩))))))) (.seq (.region ⟨[
      { dst := .t 92, op := .load (some 1) (.v 14) },
      { dst := .none, op := .store 1 (.v 10) (.t 92) },
      { dst := .v 11, op := .move (.c (.int .i64 0)) },
      { dst := .v 12, op := .move (.c (.int .i64 0)) }], [], []⟩) (.ret)))))))))
def vf58 : VFunc := { vs := [0, 1, 2, 3, 4, 5, 6, 10, 11, 12, 13, 14, 15, 16, 17, 19, 20, 21, 31, 38, 42, 57, 67, 68, 69, 70, 88], nparams := 5, rets := [.cell (.v 10) (some 1), .tmp (.v 11), .tmp (.v 12)], body := vb58 }
/- groupcontrol.groupcontrolmade.Same[groupcontrol.api.Charge] -/
def vb59 : VCode :=
    .seq (.region ⟨[
      { dst := .v 4, op := .move (.c (.bool false)) }], [], []⟩) (.seq (.seq (.region ⟨[
      { dst := .t 6, op := .move (.v 0) },
      { dst := .t 7, op := .len (.t 6) },
      { dst := .t 8, op := .move (.v 1) },
      { dst := .t 9, op := .len (.t 8) },
      { dst := .v 10, op := .bin .neq (.t 7) (.t 9) }], [], []⟩) (.cond (.v 10) (.seq (.region ⟨[
      { dst := .v 4, op := .move (.c (.bool false)) }], [], []⟩) (.ret)) (.skip))) (.seq (.seq (.region ⟨[
      { dst := .v 5, op := .move (.c (.int .i64 0)) }], [], []⟩) (.block 0 (.loop (.seq (.seq (.region ⟨[
      { dst := .t 11, op := .move (.v 5) },
      { dst := .t 12, op := .move (.v 0) },
      { dst := .t 13, op := .len (.t 12) },
      { dst := .v 14, op := .bin .lss (.t 11) (.t 13) }], [], []⟩) (.cond (.v 14) (.skip) (.exit 0))) (.seq (.block 1 (.seq (.region ⟨[
      { dst := .t 17, op := .move (.v 0) },
      { dst := .t 18, op := .move (.v 5) },
      { dst := .t 19, op := .indexAddr 2 (.t 17) (.t 18) },
      { dst := .t 20, op := .load (some 2) (.t 19) },
      { dst := .t 21, op := .move (.v 1) },
      { dst := .t 22, op := .move (.v 5) },
      { dst := .t 23, op := .indexAddr 2 (.t 21) (.t 22) },
      { dst := .t 24, op := .load (some 2) (.t 23) },
      { dst := .v 25, op := .eqAgg true [(.int .i64), (.int .i64)] (.t 20) (.t 24) }], [], []⟩) (.cond (.v 25) (.seq (.region ⟨[
      { dst := .v 4, op := .move (.c (.bool false)) }], [], []⟩) (.ret)) (.skip)))) (.region ⟨[
      { dst := .t 15, op := .move (.v 5) },
      { dst := .t 16, op := .bin .add (.t 15) (.c (.int .i64 1)) },
      { dst := .v 5, op := .move (.t 16) }], [], []⟩)))))) (.seq (.region ⟨[
      { dst := .v 4, op := .move (.c (.bool true)) }], [], []⟩) (.ret))))
def vf59 : VFunc := { vs := [0, 1, 4, 5, 10, 14, 25], nparams := 2, rets := [.tmp (.v 4)], body := vb59 }
/- groupcontrol.groupcontrollaw32.accounts -/
def vb60 : VCode :=
    .seq (.region ⟨[
      { dst := .v 3, op := .box 2 (.v 1) },
      { dst := .v 4, op := .newArr 2 }], [], []⟩) (.seq (.region ⟨[
      { dst := .v 5, op := .newArr 2 }], [], []⟩) (.seq (.seq (.region ⟨[
      { dst := .t 9, op := .move (.v 0) },
      { dst := .t 10, op := .call 27 [.t 9, .c (.int .i64 8)] },
      { dst := .v 6, op := .move (.t 10) }], [], []⟩) (.block 0 (.loop (.seq (.seq (.region ⟨[
      { dst := .t 11, op := .move (.v 6) },
      { dst := .v 12, op := .bin .gtr (.t 11) (.c (.int .i64 0)) }], [5, 33], []⟩) (.cond (.v 12) (.skip) (.exit 0))) (.seq (.block 1 (.seq (.region ⟨[
      { dst := .t 16, op := .load (some 2) (.v 3) },
      { dst := .t 17, op := .move (.v 5) },
      { dst := .t 18, op := .move (.v 0) },
      { dst := .t 19, op := .load (some 2) (.v 3) },
      { dst := .t 20, op := .call 28 [.t 18, .t 19] },
      { dst := .t 21, op := .move (.v 0) },
      { dst := .t 22, op := .buildFz 1 [.c (.int .i64 1), .c (.int .i64 1000), .c (.int .i64 357913941), .c (.int .i64 1073741824)] },
      { dst := .t 23, op := .call 48 [.t 21, .t 22] },
      { dst := .t 24, op := .move (.v 0) },
      { dst := .t 25, op := .buildFz 1 [.c (.int .i64 1), .c (.int .i64 10), .c (.int .i64 500)] },
      { dst := .t 26, op := .call 48 [.t 24, .t 25] },
      { dst := .t 27, op := .move (.v 0) },
      { dst := .t 28, op := .buildFz 1 [.c (.int .i64 0), .c (.int .i64 100), .c (.int .i64 10000)] },
      { dst := .t 29, op := .call 48 [.t 27, .t 28] },
      { dst := .t 30, op := .move (.v 0) },
      { dst := .t 31, op := .buildFz 1 [.c (.int .i64 0), .c (.int .i64 50)] },
      { dst := .t 32, op := .call 48 [.t 30, .t 31] },
      { dst := .t 33, op := .call 100 [.t 16, .t 17, .t 20, .t 23, .t 26, .t 29, .t 32] },
      { dst := .t 15, op := .move (.t 33) },
      { dst := .t 34, op := .extract (.t 15) 0 },
      { dst := .t 35, op := .extract (.t 15) 1 },
      { dst := .v 7, op := .move (.t 34) },
      { dst := .v 8, op := .move (.t 35) }], [], [(0, 4), (0, 7), (0, 10), (0, 13), (0, 16)]⟩) (.seq (.region ⟨[
      { dst := .t 36, op := .move (.v 8) },
      { dst := .v 37, op := .bin .eql (.t 36) (.c (.int .i64 0)) }], [], []⟩) (.cond (.v 37) (.region ⟨[
      { dst := .t 38, op := .move (.v 7) },
      { dst := .v 5, op := .move (.t 38) }], [], []⟩) (.skip))))) (.region ⟨[
      { dst := .t 13, op := .move (.v 6) },
      { dst := .t 14, op := .bin .sub (.t 13) (.c (.int .i64 1)) },
      { dst := .v 6, op := .move (.t 14) }], [], []⟩)))))) (.seq (.region ⟨[
      { dst := .t 39, op := .move (.v 5) },
      { dst := .v 4, op := .move (.t 39) }], [], []⟩) (.ret))))
def vf60 : VFunc := { vs := [0, 1, 3, 4, 5, 6, 7, 8, 12, 37], nparams := 2, rets := [.tmp (.v 4)], body := vb60 }
/- groupcontrol.iofair.Next -/
def vb61 : VCode :=
    .seq (.region ⟨[
      { dst := .v 4, op := .box 2 (.v 0) },
      { dst := .v 8, op := .move (.c (.int .i64 0)) },
      { dst := .v 9, op := .move (.c (.bool false)) }], [], []⟩) (.seq (.region ⟨[
      { dst := .v 10, op := .move (.c (.int .i64 0)) }], [], []⟩) (.seq (.seq (.region ⟨[
      { dst := .v 15, op := .move (.v 2) },
      { dst := .v 16, op := .len (.v 15) },
      { dst := .v 17, op := .move (.c (.int .i64 0)) }], [], []⟩) (.block 0 (.loop (.seq (.region ⟨[
      { dst := .v 18, op := .bin .lss (.v 17) (.v 16) }], [], []⟩) (.seq (.cond (.v 18) (.skip) (.exit 0)) (.seq (.block 1 (.seq (.region ⟨[
      { dst := .t 19, op := .indexAddr 1 (.v 15) (.v 17) },
      { dst := .t 20, op := .load none (.t 19) },
      { dst := .v 12, op := .move (.t 20) }], [], []⟩) (.seq (.seq (.region ⟨[
      { dst := .t 21, op := .load (some 2) (.v 4) },
      { dst := .t 22, op := .move (.v 1) },
      { dst := .t 23, op := .move (.v 12) },
      { dst := .t 24, op := .move (.v 3) },
      { dst := .t 25, op := .call 50 [.t 21, .t 22, .t 23, .t 24] },
      { dst := .v 26, op := .not (.t 25) }], [], []⟩) (.cond (.v 26) (.exit 1) (.skip))) (.seq (.region ⟨[
      { dst := .t 27, op := .move (.v 1) },
      { dst := .t 28, op := .move (.v 12) },
      { dst := .t 29, op := .call 62 [.t 27, .t 28] },
      { dst := .t 30, op := .move (.v 1) },
      { dst := .t 31, op := .move (.v 10) },
      { dst := .t 32, op := .call 62 [.t 30, .t 31] },
      { dst := .v 13, op := .move (.t 29) },
      { dst := .v 14, op := .move (.t 32) }], [], []⟩) (.seq (.region ⟨[
      { dst := .t 33, op := .move (.v 10) },
      { dst := .t 34, op := .bin .eql (.t 33) (.c (.int .i64 0)) },
      { dst := .t 35, op := .move (.t 34) },
      { dst := .t 36, op := .move (.v 13), guard := some (.t 35, false) },
      { dst := .t 37, op := .move (.v 14), guard := some (.t 35, false) },
      { dst := .t 38, op := .bin .lss (.t 36) (.t 37), guard := some (.t 35, false) },
      { dst := .t 39, op := .pick (.t 35) (.c (.bool true)) (.t 38) },
      { dst := .t 40, op := .move (.t 39) },
      { dst := .t 41, op := .move (.v 13), guard := some (.t 40, false) },
      { dst := .t 42, op := .move (.v 14), guard := some (.t 40, false) },
      { dst := .t 43, op := .bin .eql (.t 41) (.t 42), guard := some (.t 40, false) },
      { dst := .t 44, op := .move (.t 43), guard := some (.t 40, false) },
      { dst := .t 45, op := .move (.v 12), guard := some (.t 44, true) },
      { dst := .t 46, op := .move (.v 10), guard := some (.t 44, true) },
      { dst := .t 47, op := .bin .lss (.t 45) (.t 46), guard := some (.t 44, true) },
      { dst := .t 48, op := .pick (.t 44) (.t 47) (.c (.bool false)), guard := some (.t 40, false) },
      { dst := .v 49, op := .pick (.t 40) (.c (.bool true)) (.t 48) }], [], []⟩) (.cond (.v 49) (.region ⟨[
      { dst := .t 50, op := .move (.v 12) },
      { dst := .v 10, op := .move (.t 50) }], [], []⟩) (.skip))))))) (.region ⟨[
      { dst := .t 51, op := .bin .add (.v 17) (.c (.int .i64 1)) },
      { dst := .v 17, op := .move (.t 51) }], [], []⟩))))))) (.seq (.region ⟨[
      { dst := .t 52, op := .move (.v 10) },
      { dst := .t 53, op := .move (.v 10) },
      { dst := .t 54, op := .bin .neq (.t 53) (.c (.int .i64 0)) },
      { dst := .v 8, op := .move (.t 52) },
      { dst := .v 9, op := .move (.t 54) }], [], []⟩) (.ret))))
def vf61 : VFunc := { vs := [0, 1, 2, 3, 4, 8, 9, 10, 12, 13, 14, 15, 16, 17, 18, 26, 49], nparams := 4, rets := [.tmp (.v 8), .tmp (.v 9)], body := vb61 }

end Go.V

