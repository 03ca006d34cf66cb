/-
  The loaded functions fit their abstract code. Printed by my program.
-/
import Derived.Test.YtfhflogbffibiaaGreatVX
import Derived.Test.YtfhflogbffibiaaGreatKZ
import Derived.Test.YtfhflogbffibiaaGreatProg
namespace Go.Proofs.YtfhflogbffibiaaGreat
open Go
set_option linter.unusedSimpArgs false
set_option linter.unusedVariables false

theorem fit183 : fitF Tryz.prog pures 183 k183 = true := by kernel_rfl
theorem fit184 : fitF Tryz.prog pures 184 k184 = true := by kernel_rfl
theorem fit185 : fitF Tryz.prog pures 185 k185 = true := by kernel_rfl
theorem fit186 : fitF Tryz.prog pures 186 k186 = true := by kernel_rfl
theorem fit187 : fitF Tryz.prog pures 187 k187 = true := by kernel_rfl
theorem fit188 : fitF Tryz.prog pures 188 k188 = true := by kernel_rfl
theorem fit189 : fitF Tryz.prog pures 189 k189 = true := by kernel_rfl
theorem fit190 : fitF Tryz.prog pures 190 k190 = true := by kernel_rfl
theorem fit191 : fitF Tryz.prog pures 191 k191 = true := by kernel_rfl
theorem fit192 : fitF Tryz.prog pures 192 k192 = true := by kernel_rfl
theorem fit193 : fitF Tryz.prog pures 193 k193 = true := by kernel_rfl
theorem fit194 : fitF Tryz.prog pures 194 k194 = true := by kernel_rfl
theorem fit195 : fitF Tryz.prog pures 195 k195 = true := by kernel_rfl
theorem fit196 : fitF Tryz.prog pures 196 k196 = true := by kernel_rfl
theorem fit197 : fitF Tryz.prog pures 197 k197 = true := by kernel_rfl
theorem fit198 : fitF Tryz.prog pures 198 k198 = true := by kernel_rfl
theorem fit199 : fitF Tryz.prog pures 199 k199 = true := by kernel_rfl
theorem fit200 : fitF Tryz.prog pures 200 k200 = true := by kernel_rfl
theorem fit201 : fitF Tryz.prog pures 201 k201 = true := by kernel_rfl
theorem fit202 : fitF Tryz.prog pures 202 k202 = true := by kernel_rfl
theorem fit203 : fitF Tryz.prog pures 203 k203 = true := by kernel_rfl
theorem fit204 : fitF Tryz.prog pures 204 k204 = true := by kernel_rfl
theorem fit205 : fitF Tryz.prog pures 205 k205 = true := by kernel_rfl
theorem fit206 : fitF Tryz.prog pures 206 k206 = true := by kernel_rfl
theorem fit207 : fitF Tryz.prog pures 207 k207 = true := by kernel_rfl
theorem fit208 : fitF Tryz.prog pures 208 k208 = true := by kernel_rfl
theorem fit209 : fitF Tryz.prog pures 209 k209 = true := by kernel_rfl
theorem fit210 : fitF Tryz.prog pures 210 k210 = true := by kernel_rfl
theorem fit211 : fitF Tryz.prog pures 211 k211 = true := by kernel_rfl
theorem fit212 : fitF Tryz.prog pures 212 k212 = true := by kernel_rfl
theorem fit213 : fitF Tryz.prog pures 213 k213 = true := by kernel_rfl
theorem fit214 : fitF Tryz.prog pures 214 k214 = true := by kernel_rfl
theorem fit215 : fitF Tryz.prog pures 215 k215 = true := by kernel_rfl
theorem fit216 : fitF Tryz.prog pures 216 k216 = true := by kernel_rfl
theorem fit217 : fitF Tryz.prog pures 217 k217 = true := by kernel_rfl
theorem fit218 : fitF Tryz.prog pures 218 k218 = true := by kernel_rfl
theorem fit219 : fitF Tryz.prog pures 219 k219 = true := by kernel_rfl
theorem fit220 : fitF Tryz.prog pures 220 k220 = true := by kernel_rfl
theorem fit221 : fitF Tryz.prog pures 221 k221 = true := by kernel_rfl
theorem fit222 : fitF Tryz.prog pures 222 k222 = true := by kernel_rfl
theorem fit223 : fitF Tryz.prog pures 223 k223 = true := by kernel_rfl
theorem fit224 : fitF Tryz.prog pures 224 k224 = true := by kernel_rfl
theorem fit225 : fitF Tryz.prog pures 225 k225 = true := by kernel_rfl
theorem fit226 : fitF Tryz.prog pures 226 k226 = true := by kernel_rfl
theorem fit227 : fitF Tryz.prog pures 227 k227 = true := by kernel_rfl
theorem fit228 : fitF Tryz.prog pures 228 k228 = true := by kernel_rfl
theorem fit229 : fitF Tryz.prog pures 229 k229 = true := by kernel_rfl
theorem fit230 : fitF Tryz.prog pures 230 k230 = true := by kernel_rfl
theorem fit231 : fitF Tryz.prog pures 231 k231 = true := by kernel_rfl
theorem fit232 : fitF Tryz.prog pures 232 k232 = true := by kernel_rfl
theorem fit233 : fitF Tryz.prog pures 233 k233 = true := by kernel_rfl
theorem fit234 : fitF Tryz.prog pures 234 k234 = true := by kernel_rfl
theorem fit235 : fitF Tryz.prog pures 235 k235 = true := by kernel_rfl
theorem fit236 : fitF Tryz.prog pures 236 k236 = true := by kernel_rfl
theorem fit237 : fitF Tryz.prog pures 237 k237 = true := by kernel_rfl
theorem fit238 : fitF Tryz.prog pures 238 k238 = true := by kernel_rfl
theorem fit239 : fitF Tryz.prog pures 239 k239 = true := by kernel_rfl

end Go.Proofs.YtfhflogbffibiaaGreat
