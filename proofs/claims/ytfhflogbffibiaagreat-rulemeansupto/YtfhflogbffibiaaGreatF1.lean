/-
  The loaded functions fit their abstract code. Printed by my program.
-/
import Derived.Test.YtfhflogbffibiaaGreatVX
import Derived.Test.YtfhflogbffibiaaGreatKZ
import Derived.Test.YtfhflogbffibiaaGreatProg
namespace Go.Proofs.YtfhflogbffibiaaGreat
open Go
set_option linter.unusedSimpArgs false
set_option linter.unusedVariables false

theorem fit63 : fitF Tryz.prog pures 63 k63 = true := by kernel_rfl
theorem fit64 : fitF Tryz.prog pures 64 k64 = true := by kernel_rfl
theorem fit65 : fitF Tryz.prog pures 65 k65 = true := by kernel_rfl
theorem fit66 : fitF Tryz.prog pures 66 k66 = true := by kernel_rfl
theorem fit67 : fitF Tryz.prog pures 67 k67 = true := by kernel_rfl
theorem fit68 : fitF Tryz.prog pures 68 k68 = true := by kernel_rfl
theorem fit69 : fitF Tryz.prog pures 69 k69 = true := by kernel_rfl
theorem fit70 : fitF Tryz.prog pures 70 k70 = true := by kernel_rfl
theorem fit71 : fitF Tryz.prog pures 71 k71 = true := by kernel_rfl
theorem fit72 : fitF Tryz.prog pures 72 k72 = true := by kernel_rfl
theorem fit73 : fitF Tryz.prog pures 73 k73 = true := by kernel_rfl
theorem fit74 : fitF Tryz.prog pures 74 k74 = true := by kernel_rfl
theorem fit75 : fitF Tryz.prog pures 75 k75 = true := by kernel_rfl
theorem fit76 : fitF Tryz.prog pures 76 k76 = true := by kernel_rfl
theorem fit77 : fitF Tryz.prog pures 77 k77 = true := by kernel_rfl
theorem fit78 : fitF Tryz.prog pures 78 k78 = true := by kernel_rfl
theorem fit79 : fitF Tryz.prog pures 79 k79 = true := by kernel_rfl
theorem fit80 : fitF Tryz.prog pures 80 k80 = true := by kernel_rfl
theorem fit81 : fitF Tryz.prog pures 81 k81 = true := by kernel_rfl
theorem fit82 : fitF Tryz.prog pures 82 k82 = true := by kernel_rfl
theorem fit83 : fitF Tryz.prog pures 83 k83 = true := by kernel_rfl
theorem fit84 : fitF Tryz.prog pures 84 k84 = true := by kernel_rfl
theorem fit85 : fitF Tryz.prog pures 85 k85 = true := by kernel_rfl
theorem fit86 : fitF Tryz.prog pures 86 k86 = true := by kernel_rfl
theorem fit87 : fitF Tryz.prog pures 87 k87 = true := by kernel_rfl
theorem fit88 : fitF Tryz.prog pures 88 k88 = true := by kernel_rfl
theorem fit89 : fitF Tryz.prog pures 89 k89 = true := by kernel_rfl
theorem fit90 : fitF Tryz.prog pures 90 k90 = true := by kernel_rfl
theorem fit91 : fitF Tryz.prog pures 91 k91 = true := by kernel_rfl
theorem fit92 : fitF Tryz.prog pures 92 k92 = true := by kernel_rfl
theorem fit93 : fitF Tryz.prog pures 93 k93 = true := by kernel_rfl
theorem fit94 : fitF Tryz.prog pures 94 k94 = true := by kernel_rfl
theorem fit95 : fitF Tryz.prog pures 95 k95 = true := by kernel_rfl
theorem fit96 : fitF Tryz.prog pures 96 k96 = true := by kernel_rfl
theorem fit97 : fitF Tryz.prog pures 97 k97 = true := by kernel_rfl
theorem fit98 : fitF Tryz.prog pures 98 k98 = true := by kernel_rfl
theorem fit99 : fitF Tryz.prog pures 99 k99 = true := by kernel_rfl
theorem fit100 : fitF Tryz.prog pures 100 k100 = true := by kernel_rfl
theorem fit101 : fitF Tryz.prog pures 101 k101 = true := by kernel_rfl
theorem fit102 : fitF Tryz.prog pures 102 k102 = true := by kernel_rfl
theorem fit103 : fitF Tryz.prog pures 103 k103 = true := by kernel_rfl
theorem fit104 : fitF Tryz.prog pures 104 k104 = true := by kernel_rfl
theorem fit105 : fitF Tryz.prog pures 105 k105 = true := by kernel_rfl
theorem fit106 : fitF Tryz.prog pures 106 k106 = true := by kernel_rfl
theorem fit107 : fitF Tryz.prog pures 107 k107 = true := by kernel_rfl
theorem fit108 : fitF Tryz.prog pures 108 k108 = true := by kernel_rfl
theorem fit109 : fitF Tryz.prog pures 109 k109 = true := by kernel_rfl
theorem fit110 : fitF Tryz.prog pures 110 k110 = true := by kernel_rfl
theorem fit111 : fitF Tryz.prog pures 111 k111 = true := by kernel_rfl
theorem fit112 : fitF Tryz.prog pures 112 k112 = true := by kernel_rfl
theorem fit113 : fitF Tryz.prog pures 113 k113 = true := by kernel_rfl
theorem fit114 : fitF Tryz.prog pures 114 k114 = true := by kernel_rfl
theorem fit115 : fitF Tryz.prog pures 115 k115 = true := by kernel_rfl
theorem fit116 : fitF Tryz.prog pures 116 k116 = true := by kernel_rfl
theorem fit117 : fitF Tryz.prog pures 117 k117 = true := by kernel_rfl
theorem fit118 : fitF Tryz.prog pures 118 k118 = true := by kernel_rfl
theorem fit119 : fitF Tryz.prog pures 119 k119 = true := by kernel_rfl
theorem fit120 : fitF Tryz.prog pures 120 k120 = true := by kernel_rfl
theorem fit121 : fitF Tryz.prog pures 121 k121 = true := by kernel_rfl
theorem fit122 : fitF Tryz.prog pures 122 k122 = true := by kernel_rfl

end Go.Proofs.YtfhflogbffibiaaGreat
