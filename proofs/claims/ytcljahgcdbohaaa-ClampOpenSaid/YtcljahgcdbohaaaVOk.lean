/- Each function of the machine is the form of the model's function of that number, by evaluation. -/
import Derived.Test.YtcljahgcdbohaaaVProg
import Derived.Test.YtcljahgcdbohaaaVCheck
import Derived.Test.YtcljahgcdbohaaaProg
import Derived.KernelRfl
set_option linter.unusedSimpArgs false
set_option linter.unusedVariables false
namespace Go.V
theorem ok3 : okFunc Go.Proofs.Try.prog 3 vf3 = true := by kernel_rfl
theorem ok4 : okFunc Go.Proofs.Try.prog 4 vf4 = true := by kernel_rfl
theorem ok5 : okFunc Go.Proofs.Try.prog 5 vf5 = true := by kernel_rfl
theorem ok6 : okFunc Go.Proofs.Try.prog 6 vf6 = true := by kernel_rfl
theorem ok7 : okFunc Go.Proofs.Try.prog 7 vf7 = true := by kernel_rfl
theorem ok20 : okFunc Go.Proofs.Try.prog 20 vf20 = true := by kernel_rfl
theorem ok21 : okFunc Go.Proofs.Try.prog 21 vf21 = true := by kernel_rfl
theorem ok22 : okFunc Go.Proofs.Try.prog 22 vf22 = true := by kernel_rfl
theorem ok23 : okFunc Go.Proofs.Try.prog 23 vf23 = true := by kernel_rfl
theorem ok24 : okFunc Go.Proofs.Try.prog 24 vf24 = true := by kernel_rfl
theorem ok25 : okFunc Go.Proofs.Try.prog 25 vf25 = true := by kernel_rfl
theorem ok26 : okFunc Go.Proofs.Try.prog 26 vf26 = true := by kernel_rfl
theorem ok27 : okFunc Go.Proofs.Try.prog 27 vf27 = true := by kernel_rfl
theorem ok28 : okFunc Go.Proofs.Try.prog 28 vf28 = true := by kernel_rfl
theorem ok29 : okFunc Go.Proofs.Try.prog 29 vf29 = true := by kernel_rfl
theorem ok30 : okFunc Go.Proofs.Try.prog 30 vf30 = true := by kernel_rfl
theorem ok31 : okFunc Go.Proofs.Try.prog 31 vf31 = true := by kernel_rfl
theorem ok32 : okFunc Go.Proofs.Try.prog 32 vf32 = true := by kernel_rfl
theorem ok33 : okFunc Go.Proofs.Try.prog 33 vf33 = true := by kernel_rfl
theorem ok34 : okFunc Go.Proofs.Try.prog 34 vf34 = true := by kernel_rfl
theorem ok35 : okFunc Go.Proofs.Try.prog 35 vf35 = true := by kernel_rfl
theorem ok36 : okFunc Go.Proofs.Try.prog 36 vf36 = true := by kernel_rfl
theorem ok37 : okFunc Go.Proofs.Try.prog 37 vf37 = true := by kernel_rfl
theorem ok38 : okFunc Go.Proofs.Try.prog 38 vf38 = true := by kernel_rfl
theorem ok39 : okFunc Go.Proofs.Try.prog 39 vf39 = true := by kernel_rfl
theorem ok40 : okFunc Go.Proofs.Try.prog 40 vf40 = true := by kernel_rfl
theorem ok45 : okFunc Go.Proofs.Try.prog 45 vf45 = true := by kernel_rfl
theorem ok56 : okFunc Go.Proofs.Try.prog 56 vf56 = true := by kernel_rfl
theorem ok69 : okFunc Go.Proofs.Try.prog 69 vf69 = true := by kernel_rfl
theorem ok70 : okFunc Go.Proofs.Try.prog 70 vf70 = true := by kernel_rfl
theorem ok71 : okFunc Go.Proofs.Try.prog 71 vf71 = true := by kernel_rfl
theorem ok72 : okFunc Go.Proofs.Try.prog 72 vf72 = true := by kernel_rfl
theorem ok73 : okFunc Go.Proofs.Try.prog 73 vf73 = true := by kernel_rfl
theorem ok74 : okFunc Go.Proofs.Try.prog 74 vf74 = true := by kernel_rfl
theorem ok75 : okFunc Go.Proofs.Try.prog 75 vf75 = true := by kernel_rfl
theorem ok76 : okFunc Go.Proofs.Try.prog 76 vf76 = true := by kernel_rfl
theorem ok77 : okFunc Go.Proofs.Try.prog 77 vf77 = true := by kernel_rfl
theorem ok78 : okFunc Go.Proofs.Try.prog 78 vf78 = true := by kernel_rfl
theorem ok79 : okFunc Go.Proofs.Try.prog 79 vf79 = true := by kernel_rfl
theorem ok80 : okFunc Go.Proofs.Try.prog 80 vf80 = true := by kernel_rfl
theorem ok93 : okFunc Go.Proofs.Try.prog 93 vf93 = true := by kernel_rfl
theorem ok99 : okFunc Go.Proofs.Try.prog 99 vf99 = true := by kernel_rfl
theorem ok110 : okFunc Go.Proofs.Try.prog 110 vf110 = true := by kernel_rfl
theorem ok111 : okFunc Go.Proofs.Try.prog 111 vf111 = true := by kernel_rfl
theorem ok112 : okFunc Go.Proofs.Try.prog 112 vf112 = true := by kernel_rfl
theorem ok113 : okFunc Go.Proofs.Try.prog 113 vf113 = true := by kernel_rfl
theorem ok114 : okFunc Go.Proofs.Try.prog 114 vf114 = true := by kernel_rfl
theorem ok115 : okFunc Go.Proofs.Try.prog 115 vf115 = true := by kernel_rfl
theorem ok116 : okFunc Go.Proofs.Try.prog 116 vf116 = true := by kernel_rfl
theorem ok117 : okFunc Go.Proofs.Try.prog 117 vf117 = true := by kernel_rfl
theorem ok118 : okFunc Go.Proofs.Try.prog 118 vf118 = true := by kernel_rfl
theorem ok128 : okFunc Go.Proofs.Try.prog 128 vf128 = true := by kernel_rfl
theorem ok130 : okFunc Go.Proofs.Try.prog 130 vf130 = true := by kernel_rfl
theorem prog_ok : ∀ f vf, prog f = some vf → okFunc Go.Proofs.Try.prog f vf = true := by
  intro f vf h
  unfold prog at h
  split at h
  · cases h; exact ok3
  · cases h; exact ok4
  · cases h; exact ok5
  · cases h; exact ok6
  · cases h; exact ok7
  · cases h; exact ok20
  · cases h; exact ok21
  · cases h; exact ok22
  · cases h; exact ok23
  · cases h; exact ok24
  · cases h; exact ok25
  · cases h; exact ok26
  · cases h; exact ok27
  · cases h; exact ok28
  · cases h; exact ok29
  · cases h; exact ok30
  · cases h; exact ok31
  · cases h; exact ok32
  · cases h; exact ok33
  · cases h; exact ok34
  · cases h; exact ok35
  · cases h; exact ok36
  · cases h; exact ok37
  · cases h; exact ok38
  · cases h; exact ok39
  · cases h; exact ok40
  · cases h; exact ok45
  · cases h; exact ok56
  · cases h; exact ok69
  · cases h; exact ok70
  · cases h; exact ok71
  · cases h; exact ok72
  · cases h; exact ok73
  · cases h; exact ok74
  · cases h; exact ok75
  · cases h; exact ok76
  · cases h; exact ok77
  · cases h; exact ok78
  · cases h; exact ok79
  · cases h; exact ok80
  · cases h; exact ok93
  · cases h; exact ok99
  · cases h; exact ok110
  · cases h; exact ok111
  · cases h; exact ok112
  · cases h; exact ok113
  · cases h; exact ok114
  · cases h; exact ok115
  · cases h; exact ok116
  · cases h; exact ok117
  · cases h; exact ok118
  · cases h; exact ok128
  · cases h; exact ok130
  · cases h
end Go.V
