/-
  The loaded functions fit their abstract code. Printed by my program.
-/
import Derived.Test.YtfhflogbffibiaaGreatVX
import Derived.Test.YtfhflogbffibiaaGreatKZ
import Derived.Test.YtfhflogbffibiaaGreatProg
namespace Go.Proofs.YtfhflogbffibiaaGreat
open Go
set_option linter.unusedSimpArgs false
set_option linter.unusedVariables false

theorem fit3 : fitF Tryz.prog pures 3 k3 = true := by kernel_rfl
theorem fit4 : fitF Tryz.prog pures 4 k4 = true := by kernel_rfl
theorem fit5 : fitF Tryz.prog pures 5 k5 = true := by kernel_rfl
theorem fit6 : fitF Tryz.prog pures 6 k6 = true := by kernel_rfl
theorem fit7 : fitF Tryz.prog pures 7 k7 = true := by kernel_rfl
theorem fit8 : fitF Tryz.prog pures 8 k8 = true := by kernel_rfl
theorem fit9 : fitF Tryz.prog pures 9 k9 = true := by kernel_rfl
theorem fit10 : fitF Tryz.prog pures 10 k10 = true := by kernel_rfl
theorem fit11 : fitF Tryz.prog pures 11 k11 = true := by kernel_rfl
theorem fit12 : fitF Tryz.prog pures 12 k12 = true := by kernel_rfl
theorem fit13 : fitF Tryz.prog pures 13 k13 = true := by kernel_rfl
theorem fit14 : fitF Tryz.prog pures 14 k14 = true := by kernel_rfl
theorem fit15 : fitF Tryz.prog pures 15 k15 = true := by kernel_rfl
theorem fit16 : fitF Tryz.prog pures 16 k16 = true := by kernel_rfl
theorem fit17 : fitF Tryz.prog pures 17 k17 = true := by kernel_rfl
theorem fit18 : fitF Tryz.prog pures 18 k18 = true := by kernel_rfl
theorem fit19 : fitF Tryz.prog pures 19 k19 = true := by kernel_rfl
theorem fit20 : fitF Tryz.prog pures 20 k20 = true := by kernel_rfl
theorem fit21 : fitF Tryz.prog pures 21 k21 = true := by kernel_rfl
theorem fit22 : fitF Tryz.prog pures 22 k22 = true := by kernel_rfl
theorem fit23 : fitF Tryz.prog pures 23 k23 = true := by kernel_rfl
theorem fit24 : fitF Tryz.prog pures 24 k24 = true := by kernel_rfl
theorem fit25 : fitF Tryz.prog pures 25 k25 = true := by kernel_rfl
theorem fit26 : fitF Tryz.prog pures 26 k26 = true := by kernel_rfl
theorem fit27 : fitF Tryz.prog pures 27 k27 = true := by kernel_rfl
theorem fit28 : fitF Tryz.prog pures 28 k28 = true := by kernel_rfl
theorem fit29 : fitF Tryz.prog pures 29 k29 = true := by kernel_rfl
theorem fit30 : fitF Tryz.prog pures 30 k30 = true := by kernel_rfl
theorem fit31 : fitF Tryz.prog pures 31 k31 = true := by kernel_rfl
theorem fit32 : fitF Tryz.prog pures 32 k32 = true := by kernel_rfl
theorem fit33 : fitF Tryz.prog pures 33 k33 = true := by kernel_rfl
theorem fit34 : fitF Tryz.prog pures 34 k34 = true := by kernel_rfl
theorem fit35 : fitF Tryz.prog pures 35 k35 = true := by kernel_rfl
theorem fit36 : fitF Tryz.prog pures 36 k36 = true := by kernel_rfl
theorem fit37 : fitF Tryz.prog pures 37 k37 = true := by kernel_rfl
theorem fit38 : fitF Tryz.prog pures 38 k38 = true := by kernel_rfl
theorem fit39 : fitF Tryz.prog pures 39 k39 = true := by kernel_rfl
theorem fit40 : fitF Tryz.prog pures 40 k40 = true := by kernel_rfl
theorem fit41 : fitF Tryz.prog pures 41 k41 = true := by kernel_rfl
theorem fit42 : fitF Tryz.prog pures 42 k42 = true := by kernel_rfl
theorem fit43 : fitF Tryz.prog pures 43 k43 = true := by kernel_rfl
theorem fit44 : fitF Tryz.prog pures 44 k44 = true := by kernel_rfl
theorem fit45 : fitF Tryz.prog pures 45 k45 = true := by kernel_rfl
theorem fit46 : fitF Tryz.prog pures 46 k46 = true := by kernel_rfl
theorem fit47 : fitF Tryz.prog pures 47 k47 = true := by kernel_rfl
theorem fit48 : fitF Tryz.prog pures 48 k48 = true := by kernel_rfl
theorem fit49 : fitF Tryz.prog pures 49 k49 = true := by kernel_rfl
theorem fit50 : fitF Tryz.prog pures 50 k50 = true := by kernel_rfl
theorem fit51 : fitF Tryz.prog pures 51 k51 = true := by kernel_rfl
theorem fit52 : fitF Tryz.prog pures 52 k52 = true := by kernel_rfl
theorem fit53 : fitF Tryz.prog pures 53 k53 = true := by kernel_rfl
theorem fit54 : fitF Tryz.prog pures 54 k54 = true := by kernel_rfl
theorem fit55 : fitF Tryz.prog pures 55 k55 = true := by kernel_rfl
theorem fit56 : fitF Tryz.prog pures 56 k56 = true := by kernel_rfl
theorem fit57 : fitF Tryz.prog pures 57 k57 = true := by kernel_rfl
theorem fit58 : fitF Tryz.prog pures 58 k58 = true := by kernel_rfl
theorem fit59 : fitF Tryz.prog pures 59 k59 = true := by kernel_rfl
theorem fit60 : fitF Tryz.prog pures 60 k60 = true := by kernel_rfl
theorem fit61 : fitF Tryz.prog pures 61 k61 = true := by kernel_rfl
theorem fit62 : fitF Tryz.prog pures 62 k62 = true := by kernel_rfl

end Go.Proofs.YtfhflogbffibiaaGreat
