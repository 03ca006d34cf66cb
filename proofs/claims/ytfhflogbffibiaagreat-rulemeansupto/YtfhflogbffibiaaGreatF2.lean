/-
  The loaded functions fit their abstract code. Printed by my program.
-/
import Derived.Test.YtfhflogbffibiaaGreatVX
import Derived.Test.YtfhflogbffibiaaGreatKZ
import Derived.Test.YtfhflogbffibiaaGreatProg
namespace Go.Proofs.YtfhflogbffibiaaGreat
open Go
set_option linter.unusedSimpArgs false
set_option linter.unusedVariables false

theorem fit123 : fitF Tryz.prog pures 123 k123 = true := by kernel_rfl
theorem fit124 : fitF Tryz.prog pures 124 k124 = true := by kernel_rfl
theorem fit125 : fitF Tryz.prog pures 125 k125 = true := by kernel_rfl
theorem fit126 : fitF Tryz.prog pures 126 k126 = true := by kernel_rfl
theorem fit127 : fitF Tryz.prog pures 127 k127 = true := by kernel_rfl
theorem fit128 : fitF Tryz.prog pures 128 k128 = true := by kernel_rfl
theorem fit129 : fitF Tryz.prog pures 129 k129 = true := by kernel_rfl
theorem fit130 : fitF Tryz.prog pures 130 k130 = true := by kernel_rfl
theorem fit131 : fitF Tryz.prog pures 131 k131 = true := by kernel_rfl
theorem fit132 : fitF Tryz.prog pures 132 k132 = true := by kernel_rfl
theorem fit133 : fitF Tryz.prog pures 133 k133 = true := by kernel_rfl
theorem fit134 : fitF Tryz.prog pures 134 k134 = true := by kernel_rfl
theorem fit135 : fitF Tryz.prog pures 135 k135 = true := by kernel_rfl
theorem fit136 : fitF Tryz.prog pures 136 k136 = true := by kernel_rfl
theorem fit137 : fitF Tryz.prog pures 137 k137 = true := by kernel_rfl
theorem fit138 : fitF Tryz.prog pures 138 k138 = true := by kernel_rfl
theorem fit139 : fitF Tryz.prog pures 139 k139 = true := by kernel_rfl
theorem fit140 : fitF Tryz.prog pures 140 k140 = true := by kernel_rfl
theorem fit141 : fitF Tryz.prog pures 141 k141 = true := by kernel_rfl
theorem fit142 : fitF Tryz.prog pures 142 k142 = true := by kernel_rfl
theorem fit143 : fitF Tryz.prog pures 143 k143 = true := by kernel_rfl
theorem fit144 : fitF Tryz.prog pures 144 k144 = true := by kernel_rfl
theorem fit145 : fitF Tryz.prog pures 145 k145 = true := by kernel_rfl
theorem fit146 : fitF Tryz.prog pures 146 k146 = true := by kernel_rfl
theorem fit147 : fitF Tryz.prog pures 147 k147 = true := by kernel_rfl
theorem fit148 : fitF Tryz.prog pures 148 k148 = true := by kernel_rfl
theorem fit149 : fitF Tryz.prog pures 149 k149 = true := by kernel_rfl
theorem fit150 : fitF Tryz.prog pures 150 k150 = true := by kernel_rfl
theorem fit151 : fitF Tryz.prog pures 151 k151 = true := by kernel_rfl
theorem fit152 : fitF Tryz.prog pures 152 k152 = true := by kernel_rfl
theorem fit153 : fitF Tryz.prog pures 153 k153 = true := by kernel_rfl
theorem fit154 : fitF Tryz.prog pures 154 k154 = true := by kernel_rfl
theorem fit155 : fitF Tryz.prog pures 155 k155 = true := by kernel_rfl
theorem fit156 : fitF Tryz.prog pures 156 k156 = true := by kernel_rfl
theorem fit157 : fitF Tryz.prog pures 157 k157 = true := by kernel_rfl
theorem fit158 : fitF Tryz.prog pures 158 k158 = true := by kernel_rfl
theorem fit159 : fitF Tryz.prog pures 159 k159 = true := by kernel_rfl
theorem fit160 : fitF Tryz.prog pures 160 k160 = true := by kernel_rfl
theorem fit161 : fitF Tryz.prog pures 161 k161 = true := by kernel_rfl
theorem fit162 : fitF Tryz.prog pures 162 k162 = true := by kernel_rfl
theorem fit163 : fitF Tryz.prog pures 163 k163 = true := by kernel_rfl
theorem fit164 : fitF Tryz.prog pures 164 k164 = true := by kernel_rfl
theorem fit165 : fitF Tryz.prog pures 165 k165 = true := by kernel_rfl
theorem fit166 : fitF Tryz.prog pures 166 k166 = true := by kernel_rfl
theorem fit167 : fitF Tryz.prog pures 167 k167 = true := by kernel_rfl
theorem fit168 : fitF Tryz.prog pures 168 k168 = true := by kernel_rfl
theorem fit169 : fitF Tryz.prog pures 169 k169 = true := by kernel_rfl
theorem fit170 : fitF Tryz.prog pures 170 k170 = true := by kernel_rfl
theorem fit171 : fitF Tryz.prog pures 171 k171 = true := by kernel_rfl
theorem fit172 : fitF Tryz.prog pures 172 k172 = true := by kernel_rfl
theorem fit173 : fitF Tryz.prog pures 173 k173 = true := by kernel_rfl
theorem fit174 : fitF Tryz.prog pures 174 k174 = true := by kernel_rfl
theorem fit175 : fitF Tryz.prog pures 175 k175 = true := by kernel_rfl
theorem fit176 : fitF Tryz.prog pures 176 k176 = true := by kernel_rfl
theorem fit177 : fitF Tryz.prog pures 177 k177 = true := by kernel_rfl
theorem fit178 : fitF Tryz.prog pures 178 k178 = true := by kernel_rfl
theorem fit179 : fitF Tryz.prog pures 179 k179 = true := by kernel_rfl
theorem fit180 : fitF Tryz.prog pures 180 k180 = true := by kernel_rfl
theorem fit181 : fitF Tryz.prog pures 181 k181 = true := by kernel_rfl
theorem fit182 : fitF Tryz.prog pures 182 k182 = true := by kernel_rfl

end Go.Proofs.YtfhflogbffibiaaGreat
