/- Each function of the machine is the form of the model's function of that number, by evaluation. -/
import Derived.Test.YtcljahgcdbohaaaVProg
import Derived.Test.YtcljahgcdbohaaaVCheck
import Derived.Test.YtcljahgcdbohaaaProg
import Derived.KernelRfl
set_option linter.unusedSimpArgs false
set_option linter.unusedVariables false
namespace Go.V
theorem ok8 : okFunc Go.Proofs.Try.prog 8 vf8 = true := by kernel_rfl
theorem ok9 : okFunc Go.Proofs.Try.prog 9 vf9 = true := by kernel_rfl
theorem ok10 : okFunc Go.Proofs.Try.prog 10 vf10 = true := by kernel_rfl
theorem ok11 : okFunc Go.Proofs.Try.prog 11 vf11 = true := by kernel_rfl
theorem ok12 : okFunc Go.Proofs.Try.prog 12 vf12 = true := by kernel_rfl
theorem ok13 : okFunc Go.Proofs.Try.prog 13 vf13 = true := by kernel_rfl
theorem ok14 : okFunc Go.Proofs.Try.prog 14 vf14 = true := by kernel_rfl
theorem ok15 : okFunc Go.Proofs.Try.prog 15 vf15 = true := by kernel_rfl
theorem ok16 : okFunc Go.Proofs.Try.prog 16 vf16 = true := by kernel_rfl
theorem ok17 : okFunc Go.Proofs.Try.prog 17 vf17 = true := by kernel_rfl
theorem ok18 : okFunc Go.Proofs.Try.prog 18 vf18 = true := by kernel_rfl
theorem ok19 : okFunc Go.Proofs.Try.prog 19 vf19 = true := by kernel_rfl
theorem ok20 : okFunc Go.Proofs.Try.prog 20 vf20 = true := by kernel_rfl
theorem ok22 : okFunc Go.Proofs.Try.prog 22 vf22 = true := by kernel_rfl
theorem ok23 : okFunc Go.Proofs.Try.prog 23 vf23 = true := by kernel_rfl
theorem ok27 : okFunc Go.Proofs.Try.prog 27 vf27 = true := by kernel_rfl
theorem ok28 : okFunc Go.Proofs.Try.prog 28 vf28 = true := by kernel_rfl
theorem ok31 : okFunc Go.Proofs.Try.prog 31 vf31 = true := by kernel_rfl
theorem ok32 : okFunc Go.Proofs.Try.prog 32 vf32 = true := by kernel_rfl
theorem ok33 : okFunc Go.Proofs.Try.prog 33 vf33 = true := by kernel_rfl
theorem ok41 : okFunc Go.Proofs.Try.prog 41 vf41 = true := by kernel_rfl
theorem ok42 : okFunc Go.Proofs.Try.prog 42 vf42 = true := by kernel_rfl
theorem ok43 : okFunc Go.Proofs.Try.prog 43 vf43 = true := by kernel_rfl
theorem ok44 : okFunc Go.Proofs.Try.prog 44 vf44 = true := by kernel_rfl
theorem ok45 : okFunc Go.Proofs.Try.prog 45 vf45 = true := by kernel_rfl
theorem ok46 : okFunc Go.Proofs.Try.prog 46 vf46 = true := by kernel_rfl
theorem ok47 : okFunc Go.Proofs.Try.prog 47 vf47 = true := by kernel_rfl
theorem ok48 : okFunc Go.Proofs.Try.prog 48 vf48 = true := by kernel_rfl
theorem ok49 : okFunc Go.Proofs.Try.prog 49 vf49 = true := by kernel_rfl
theorem ok50 : okFunc Go.Proofs.Try.prog 50 vf50 = true := by kernel_rfl
theorem ok51 : okFunc Go.Proofs.Try.prog 51 vf51 = true := by kernel_rfl
theorem ok52 : okFunc Go.Proofs.Try.prog 52 vf52 = true := by kernel_rfl
theorem ok53 : okFunc Go.Proofs.Try.prog 53 vf53 = true := by kernel_rfl
theorem ok54 : okFunc Go.Proofs.Try.prog 54 vf54 = true := by kernel_rfl
theorem ok55 : okFunc Go.Proofs.Try.prog 55 vf55 = true := by kernel_rfl
theorem ok56 : okFunc Go.Proofs.Try.prog 56 vf56 = true := by kernel_rfl
theorem ok57 : okFunc Go.Proofs.Try.prog 57 vf57 = true := by kernel_rfl
theorem ok58 : okFunc Go.Proofs.Try.prog 58 vf58 = true := by kernel_rfl
theorem ok59 : okFunc Go.Proofs.Try.prog 59 vf59 = true := by kernel_rfl
theorem ok60 : okFunc Go.Proofs.Try.prog 60 vf60 = true := by kernel_rfl
theorem ok61 : okFunc Go.Proofs.Try.prog 61 vf61 = true := by kernel_rfl
theorem ok62 : okFunc Go.Proofs.Try.prog 62 vf62 = true := by kernel_rfl
theorem ok63 : okFunc Go.Proofs.Try.prog 63 vf63 = true := by kernel_rfl
theorem ok64 : okFunc Go.Proofs.Try.prog 64 vf64 = true := by kernel_rfl
theorem ok65 : okFunc Go.Proofs.Try.prog 65 vf65 = true := by kernel_rfl
theorem ok66 : okFunc Go.Proofs.Try.prog 66 vf66 = true := by kernel_rfl
theorem ok67 : okFunc Go.Proofs.Try.prog 67 vf67 = true := by kernel_rfl
theorem ok68 : okFunc Go.Proofs.Try.prog 68 vf68 = true := by kernel_rfl
theorem ok69 : okFunc Go.Proofs.Try.prog 69 vf69 = true := by kernel_rfl
theorem ok70 : okFunc Go.Proofs.Try.prog 70 vf70 = true := by kernel_rfl
theorem ok71 : okFunc Go.Proofs.Try.prog 71 vf71 = true := by kernel_rfl
theorem ok72 : okFunc Go.Proofs.Try.prog 72 vf72 = true := by kernel_rfl
theorem ok73 : okFunc Go.Proofs.Try.prog 73 vf73 = true := by kernel_rfl
theorem ok76 : okFunc Go.Proofs.Try.prog 76 vf76 = true := by kernel_rfl
theorem ok77 : okFunc Go.Proofs.Try.prog 77 vf77 = true := by kernel_rfl
theorem ok78 : okFunc Go.Proofs.Try.prog 78 vf78 = true := by kernel_rfl
theorem ok79 : okFunc Go.Proofs.Try.prog 79 vf79 = true := by kernel_rfl
theorem ok81 : okFunc Go.Proofs.Try.prog 81 vf81 = true := by kernel_rfl
theorem ok82 : okFunc Go.Proofs.Try.prog 82 vf82 = true := by kernel_rfl
theorem ok83 : okFunc Go.Proofs.Try.prog 83 vf83 = true := by kernel_rfl
theorem ok84 : okFunc Go.Proofs.Try.prog 84 vf84 = true := by kernel_rfl
theorem ok85 : okFunc Go.Proofs.Try.prog 85 vf85 = true := by kernel_rfl
theorem ok86 : okFunc Go.Proofs.Try.prog 86 vf86 = true := by kernel_rfl
theorem ok87 : okFunc Go.Proofs.Try.prog 87 vf87 = true := by kernel_rfl
theorem ok88 : okFunc Go.Proofs.Try.prog 88 vf88 = true := by kernel_rfl
theorem ok89 : okFunc Go.Proofs.Try.prog 89 vf89 = true := by kernel_rfl
theorem ok90 : okFunc Go.Proofs.Try.prog 90 vf90 = true := by kernel_rfl
theorem ok91 : okFunc Go.Proofs.Try.prog 91 vf91 = true := by kernel_rfl
theorem ok92 : okFunc Go.Proofs.Try.prog 92 vf92 = true := by kernel_rfl
theorem ok93 : okFunc Go.Proofs.Try.prog 93 vf93 = true := by kernel_rfl
theorem ok94 : okFunc Go.Proofs.Try.prog 94 vf94 = true := by kernel_rfl
theorem ok95 : okFunc Go.Proofs.Try.prog 95 vf95 = true := by kernel_rfl
theorem ok96 : okFunc Go.Proofs.Try.prog 96 vf96 = true := by kernel_rfl
theorem ok97 : okFunc Go.Proofs.Try.prog 97 vf97 = true := by kernel_rfl
theorem ok98 : okFunc Go.Proofs.Try.prog 98 vf98 = true := by kernel_rfl
theorem ok99 : okFunc Go.Proofs.Try.prog 99 vf99 = true := by kernel_rfl
theorem ok100 : okFunc Go.Proofs.Try.prog 100 vf100 = true := by kernel_rfl
theorem ok101 : okFunc Go.Proofs.Try.prog 101 vf101 = true := by kernel_rfl
theorem ok102 : okFunc Go.Proofs.Try.prog 102 vf102 = true := by kernel_rfl
theorem ok103 : okFunc Go.Proofs.Try.prog 103 vf103 = true := by kernel_rfl
theorem ok104 : okFunc Go.Proofs.Try.prog 104 vf104 = true := by kernel_rfl
theorem ok105 : okFunc Go.Proofs.Try.prog 105 vf105 = true := by kernel_rfl
theorem ok106 : okFunc Go.Proofs.Try.prog 106 vf106 = true := by kernel_rfl
theorem ok107 : okFunc Go.Proofs.Try.prog 107 vf107 = true := by kernel_rfl
theorem ok108 : okFunc Go.Proofs.Try.prog 108 vf108 = true := by kernel_rfl
theorem ok109 : okFunc Go.Proofs.Try.prog 109 vf109 = true := by kernel_rfl
theorem ok110 : okFunc Go.Proofs.Try.prog 110 vf110 = true := by kernel_rfl
theorem ok111 : okFunc Go.Proofs.Try.prog 111 vf111 = true := by kernel_rfl
theorem ok112 : okFunc Go.Proofs.Try.prog 112 vf112 = true := by kernel_rfl
theorem ok113 : okFunc Go.Proofs.Try.prog 113 vf113 = true := by kernel_rfl
theorem ok114 : okFunc Go.Proofs.Try.prog 114 vf114 = true := by kernel_rfl
theorem ok115 : okFunc Go.Proofs.Try.prog 115 vf115 = true := by kernel_rfl
theorem ok116 : okFunc Go.Proofs.Try.prog 116 vf116 = true := by kernel_rfl
theorem ok117 : okFunc Go.Proofs.Try.prog 117 vf117 = true := by kernel_rfl
theorem ok118 : okFunc Go.Proofs.Try.prog 118 vf118 = true := by kernel_rfl
theorem ok119 : okFunc Go.Proofs.Try.prog 119 vf119 = true := by kernel_rfl
theorem ok120 : okFunc Go.Proofs.Try.prog 120 vf120 = true := by kernel_rfl
theorem ok121 : okFunc Go.Proofs.Try.prog 121 vf121 = true := by kernel_rfl
theorem ok122 : okFunc Go.Proofs.Try.prog 122 vf122 = true := by kernel_rfl
theorem ok123 : okFunc Go.Proofs.Try.prog 123 vf123 = true := by kernel_rfl
theorem ok124 : okFunc Go.Proofs.Try.prog 124 vf124 = true := by kernel_rfl
theorem ok125 : okFunc Go.Proofs.Try.prog 125 vf125 = true := by kernel_rfl
theorem ok126 : okFunc Go.Proofs.Try.prog 126 vf126 = true := by kernel_rfl
theorem ok127 : okFunc Go.Proofs.Try.prog 127 vf127 = true := by kernel_rfl
theorem ok128 : okFunc Go.Proofs.Try.prog 128 vf128 = true := by kernel_rfl
theorem ok129 : okFunc Go.Proofs.Try.prog 129 vf129 = true := by kernel_rfl
theorem ok130 : okFunc Go.Proofs.Try.prog 130 vf130 = true := by kernel_rfl
theorem prog_ok : ∀ f vf, prog f = some vf → okFunc Go.Proofs.Try.prog f vf = true := by
  intro f vf h
  unfold prog at h
  split at h
  · cases h; exact ok8
  · cases h; exact ok9
  · cases h; exact ok10
  · cases h; exact ok11
  · cases h; exact ok12
  · cases h; exact ok13
  · cases h; exact ok14
  · cases h; exact ok15
  · cases h; exact ok16
  · cases h; exact ok17
  · cases h; exact ok18
  · cases h; exact ok19
  · cases h; exact ok20
  · cases h; exact ok22
  · cases h; exact ok23
  · cases h; exact ok27
  · cases h; exact ok28
  · cases h; exact ok31
  · cases h; exact ok32
  · cases h; exact ok33
  · cases h; exact ok41
  · cases h; exact ok42
  · cases h; exact ok43
  · cases h; exact ok44
  · cases h; exact ok45
  · cases h; exact ok46
  · cases h; exact ok47
  · cases h; exact ok48
  · cases h; exact ok49
  · cases h; exact ok50
  · cases h; exact ok51
  · cases h; exact ok52
  · cases h; exact ok53
  · cases h; exact ok54
  · cases h; exact ok55
  · cases h; exact ok56
  · cases h; exact ok57
  · cases h; exact ok58
  · cases h; exact ok59
  · cases h; exact ok60
  · cases h; exact ok61
  · cases h; exact ok62
  · cases h; exact ok63
  · cases h; exact ok64
  · cases h; exact ok65
  · cases h; exact ok66
  · cases h; exact ok67
  · cases h; exact ok68
  · cases h; exact ok69
  · cases h; exact ok70
  · cases h; exact ok71
  · cases h; exact ok72
  · cases h; exact ok73
  · cases h; exact ok76
  · cases h; exact ok77
  · cases h; exact ok78
  · cases h; exact ok79
  · cases h; exact ok81
  · cases h; exact ok82
  · cases h; exact ok83
  · cases h; exact ok84
  · cases h; exact ok85
  · cases h; exact ok86
  · cases h; exact ok87
  · cases h; exact ok88
  · cases h; exact ok89
  · cases h; exact ok90
  · cases h; exact ok91
  · cases h; exact ok92
  · cases h; exact ok93
  · cases h; exact ok94
  · cases h; exact ok95
  · cases h; exact ok96
  · cases h; exact ok97
  · cases h; exact ok98
  · cases h; exact ok99
  · cases h; exact ok100
  · cases h; exact ok101
  · cases h; exact ok102
  · cases h; exact ok103
  · cases h; exact ok104
  · cases h; exact ok105
  · cases h; exact ok106
  · cases h; exact ok107
  · cases h; exact ok108
  · cases h; exact ok109
  · cases h; exact ok110
  · cases h; exact ok111
  · cases h; exact ok112
  · cases h; exact ok113
  · cases h; exact ok114
  · cases h; exact ok115
  · cases h; exact ok116
  · cases h; exact ok117
  · cases h; exact ok118
  · cases h; exact ok119
  · cases h; exact ok120
  · cases h; exact ok121
  · cases h; exact ok122
  · cases h; exact ok123
  · cases h; exact ok124
  · cases h; exact ok125
  · cases h; exact ok126
  · cases h; exact ok127
  · cases h; exact ok128
  · cases h; exact ok129
  · cases h; exact ok130
  · cases h
end Go.V

