/- Each function of the machine is the form of the model's function of that number, by evaluation. -/
import Derived.Test.YthmbpjnpcjfdiaaVProg
import Derived.Test.YthmbpjnpcjfdiaaVCheck
import Derived.Test.YthmbpjnpcjfdiaaProg
import Derived.KernelRfl
set_option linter.unusedSimpArgs false
set_option linter.unusedVariables false
namespace Go.V
theorem ok3 : okFunc Go.Proofs.Try.prog 3 vf3 = true := by kernel_rfl
theorem ok4 : okFunc Go.Proofs.Try.prog 4 vf4 = true := by kernel_rfl
theorem ok5 : okFunc Go.Proofs.Try.prog 5 vf5 = true := by kernel_rfl
theorem ok6 : okFunc Go.Proofs.Try.prog 6 vf6 = true := by kernel_rfl
theorem ok7 : okFunc Go.Proofs.Try.prog 7 vf7 = true := by kernel_rfl
theorem ok8 : okFunc Go.Proofs.Try.prog 8 vf8 = true := by kernel_rfl
theorem ok9 : okFunc Go.Proofs.Try.prog 9 vf9 = true := by kernel_rfl
theorem ok10 : okFunc Go.Proofs.Try.prog 10 vf10 = true := by kernel_rfl
theorem ok11 : okFunc Go.Proofs.Try.prog 11 vf11 = true := by kernel_rfl
theorem ok12 : okFunc Go.Proofs.Try.prog 12 vf12 = true := by kernel_rfl
theorem ok13 : okFunc Go.Proofs.Try.prog 13 vf13 = true := by kernel_rfl
theorem ok14 : okFunc Go.Proofs.Try.prog 14 vf14 = true := by kernel_rfl
theorem ok15 : okFunc Go.Proofs.Try.prog 15 vf15 = true := by kernel_rfl
theorem ok16 : okFunc Go.Proofs.Try.prog 16 vf16 = true := by kernel_rfl
theorem ok17 : okFunc Go.Proofs.Try.prog 17 vf17 = true := by kernel_rfl
theorem ok18 : okFunc Go.Proofs.Try.prog 18 vf18 = true := by kernel_rfl
theorem ok19 : okFunc Go.Proofs.Try.prog 19 vf19 = true := by kernel_rfl
theorem ok20 : okFunc Go.Proofs.Try.prog 20 vf20 = true := by kernel_rfl
theorem ok21 : okFunc Go.Proofs.Try.prog 21 vf21 = true := by kernel_rfl
theorem ok22 : okFunc Go.Proofs.Try.prog 22 vf22 = true := by kernel_rfl
theorem ok23 : okFunc Go.Proofs.Try.prog 23 vf23 = true := by kernel_rfl
theorem ok24 : okFunc Go.Proofs.Try.prog 24 vf24 = true := by kernel_rfl
theorem ok25 : okFunc Go.Proofs.Try.prog 25 vf25 = true := by kernel_rfl
theorem ok26 : okFunc Go.Proofs.Try.prog 26 vf26 = true := by kernel_rfl
theorem ok27 : okFunc Go.Proofs.Try.prog 27 vf27 = true := by kernel_rfl
theorem ok28 : okFunc Go.Proofs.Try.prog 28 vf28 = true := by kernel_rfl
theorem ok29 : okFunc Go.Proofs.Try.prog 29 vf29 = true := by kernel_rfl
theorem ok30 : okFunc Go.Proofs.Try.prog 30 vf30 = true := by kernel_rfl
theorem ok31 : okFunc Go.Proofs.Try.prog 31 vf31 = true := by kernel_rfl
theorem ok32 : okFunc Go.Proofs.Try.prog 32 vf32 = true := by kernel_rfl
theorem ok33 : okFunc Go.Proofs.Try.prog 33 vf33 = true := by kernel_rfl
theorem ok34 : okFunc Go.Proofs.Try.prog 34 vf34 = true := by kernel_rfl
theorem ok35 : okFunc Go.Proofs.Try.prog 35 vf35 = true := by kernel_rfl
theorem ok36 : okFunc Go.Proofs.Try.prog 36 vf36 = true := by kernel_rfl
theorem ok37 : okFunc Go.Proofs.Try.prog 37 vf37 = true := by kernel_rfl
theorem ok38 : okFunc Go.Proofs.Try.prog 38 vf38 = true := by kernel_rfl
theorem ok39 : okFunc Go.Proofs.Try.prog 39 vf39 = true := by kernel_rfl
theorem ok40 : okFunc Go.Proofs.Try.prog 40 vf40 = true := by kernel_rfl
theorem ok41 : okFunc Go.Proofs.Try.prog 41 vf41 = true := by kernel_rfl
theorem ok42 : okFunc Go.Proofs.Try.prog 42 vf42 = true := by kernel_rfl
theorem ok43 : okFunc Go.Proofs.Try.prog 43 vf43 = true := by kernel_rfl
theorem ok44 : okFunc Go.Proofs.Try.prog 44 vf44 = true := by kernel_rfl
theorem ok45 : okFunc Go.Proofs.Try.prog 45 vf45 = true := by kernel_rfl
theorem ok46 : okFunc Go.Proofs.Try.prog 46 vf46 = true := by kernel_rfl
theorem ok47 : okFunc Go.Proofs.Try.prog 47 vf47 = true := by kernel_rfl
theorem ok48 : okFunc Go.Proofs.Try.prog 48 vf48 = true := by kernel_rfl
theorem ok49 : okFunc Go.Proofs.Try.prog 49 vf49 = true := by kernel_rfl
theorem ok50 : okFunc Go.Proofs.Try.prog 50 vf50 = true := by kernel_rfl
theorem ok51 : okFunc Go.Proofs.Try.prog 51 vf51 = true := by kernel_rfl
theorem ok52 : okFunc Go.Proofs.Try.prog 52 vf52 = true := by kernel_rfl
theorem ok53 : okFunc Go.Proofs.Try.prog 53 vf53 = true := by kernel_rfl
theorem ok54 : okFunc Go.Proofs.Try.prog 54 vf54 = true := by kernel_rfl
theorem ok55 : okFunc Go.Proofs.Try.prog 55 vf55 = true := by kernel_rfl
theorem ok56 : okFunc Go.Proofs.Try.prog 56 vf56 = true := by kernel_rfl
theorem ok57 : okFunc Go.Proofs.Try.prog 57 vf57 = true := by kernel_rfl
theorem ok58 : okFunc Go.Proofs.Try.prog 58 vf58 = true := by kernel_rfl
theorem ok59 : okFunc Go.Proofs.Try.prog 59 vf59 = true := by kernel_rfl
theorem ok60 : okFunc Go.Proofs.Try.prog 60 vf60 = true := by kernel_rfl
theorem ok61 : okFunc Go.Proofs.Try.prog 61 vf61 = true := by kernel_rfl
theorem ok62 : okFunc Go.Proofs.Try.prog 62 vf62 = true := by kernel_rfl
theorem ok63 : okFunc Go.Proofs.Try.prog 63 vf63 = true := by kernel_rfl
theorem ok64 : okFunc Go.Proofs.Try.prog 64 vf64 = true := by kernel_rfl
theorem ok65 : okFunc Go.Proofs.Try.prog 65 vf65 = true := by kernel_rfl
theorem ok66 : okFunc Go.Proofs.Try.prog 66 vf66 = true := by kernel_rfl
theorem ok67 : okFunc Go.Proofs.Try.prog 67 vf67 = true := by kernel_rfl
theorem ok68 : okFunc Go.Proofs.Try.prog 68 vf68 = true := by kernel_rfl
theorem ok69 : okFunc Go.Proofs.Try.prog 69 vf69 = true := by kernel_rfl
theorem ok70 : okFunc Go.Proofs.Try.prog 70 vf70 = true := by kernel_rfl
theorem prog_ok : ∀ f vf, prog f = some vf → okFunc Go.Proofs.Try.prog f vf = true := by
  intro f vf h
  unfold prog at h
  split at h
  · cases h; exact ok3
  · cases h; exact ok4
  · cases h; exact ok5
  · cases h; exact ok6
  · cases h; exact ok7
  · cases h; exact ok8
  · cases h; exact ok9
  · cases h; exact ok10
  · cases h; exact ok11
  · cases h; exact ok12
  · cases h; exact ok13
  · cases h; exact ok14
  · cases h; exact ok15
  · cases h; exact ok16
  · cases h; exact ok17
  · cases h; exact ok18
  · cases h; exact ok19
  · cases h; exact ok20
  · cases h; exact ok21
  · cases h; exact ok22
  · cases h; exact ok23
  · cases h; exact ok24
  · cases h; exact ok25
  · cases h; exact ok26
  · cases h; exact ok27
  · cases h; exact ok28
  · cases h; exact ok29
  · cases h; exact ok30
  · cases h; exact ok31
  · cases h; exact ok32
  · cases h; exact ok33
  · cases h; exact ok34
  · cases h; exact ok35
  · cases h; exact ok36
  · cases h; exact ok37
  · cases h; exact ok38
  · cases h; exact ok39
  · cases h; exact ok40
  · cases h; exact ok41
  · cases h; exact ok42
  · cases h; exact ok43
  · cases h; exact ok44
  · cases h; exact ok45
  · cases h; exact ok46
  · cases h; exact ok47
  · cases h; exact ok48
  · cases h; exact ok49
  · cases h; exact ok50
  · cases h; exact ok51
  · cases h; exact ok52
  · cases h; exact ok53
  · cases h; exact ok54
  · cases h; exact ok55
  · cases h; exact ok56
  · cases h; exact ok57
  · cases h; exact ok58
  · cases h; exact ok59
  · cases h; exact ok60
  · cases h; exact ok61
  · cases h; exact ok62
  · cases h; exact ok63
  · cases h; exact ok64
  · cases h; exact ok65
  · cases h; exact ok66
  · cases h; exact ok67
  · cases h; exact ok68
  · cases h; exact ok69
  · cases h; exact ok70
  · cases h
end Go.V

