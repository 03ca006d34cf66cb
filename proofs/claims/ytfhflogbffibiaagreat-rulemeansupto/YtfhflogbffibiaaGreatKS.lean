/-
  The whole table fits: the machine is sound for the loaded program. Printed by my program.
-/
import Derived.Test.YtfhflogbffibiaaGreatVZ
import Derived.Test.YtfhflogbffibiaaGreatF0
import Derived.Test.YtfhflogbffibiaaGreatF1
import Derived.Test.YtfhflogbffibiaaGreatF2
import Derived.Test.YtfhflogbffibiaaGreatF3
namespace Go.Proofs.YtfhflogbffibiaaGreat
open Go
set_option linter.unusedSimpArgs false
set_option linter.unusedVariables false

theorem mixed : Tryz.prog.follows .mixedOrders = true := by kernel_rfl

def FitK (f : Nat) (k : FCode) : Prop := fitF Tryz.prog pures f k = true ∧ ∀ E, k.clone = some E → CloneOk Tryz.prog f E

theorem e3 : FitK 3 k3 := ⟨fit3, fun E h => by cases h⟩
theorem e4 : FitK 4 k4 := ⟨fit4, fun E h => by cases h⟩
theorem e5 : FitK 5 k5 := ⟨fit5, fun E h => by cases h⟩
theorem e6 : FitK 6 k6 := ⟨fit6, fun E h => by cases h⟩
theorem e7 : FitK 7 k7 := ⟨fit7, fun E h => by cases h⟩
theorem e8 : FitK 8 k8 := ⟨fit8, fun E h => by cases h⟩
theorem e9 : FitK 9 k9 := ⟨fit9, fun E h => by cases h⟩
theorem e10 : FitK 10 k10 := ⟨fit10, fun E h => by cases h⟩
theorem e11 : FitK 11 k11 := ⟨fit11, fun E h => by cases h⟩
theorem e12 : FitK 12 k12 := ⟨fit12, fun E h => by cases h⟩
theorem e13 : FitK 13 k13 := ⟨fit13, fun E h => by cases h⟩
theorem e14 : FitK 14 k14 := ⟨fit14, fun E h => by cases h⟩
theorem e15 : FitK 15 k15 := ⟨fit15, fun E h => by cases h⟩
theorem e16 : FitK 16 k16 := ⟨fit16, fun E h => by cases h⟩
theorem e17 : FitK 17 k17 := ⟨fit17, fun E h => by cases h⟩
theorem e18 : FitK 18 k18 := ⟨fit18, fun E h => by cases h⟩
theorem e19 : FitK 19 k19 := ⟨fit19, fun E h => by cases h⟩
theorem e20 : FitK 20 k20 := ⟨fit20, fun E h => by cases h⟩
theorem e21 : FitK 21 k21 := ⟨fit21, fun E h => by cases h⟩
theorem e22 : FitK 22 k22 := ⟨fit22, fun E h => by cases h⟩
theorem e23 : FitK 23 k23 := ⟨fit23, fun E h => by cases h⟩
theorem e24 : FitK 24 k24 := ⟨fit24, fun E h => by cases h⟩
theorem e25 : FitK 25 k25 := ⟨fit25, fun E h => by cases h⟩
theorem e26 : FitK 26 k26 := ⟨fit26, fun E h => by cases h⟩
theorem e27 : FitK 27 k27 := ⟨fit27, fun E h => by cases h⟩
theorem e28 : FitK 28 k28 := ⟨fit28, fun E h => by cases h⟩
theorem e29 : FitK 29 k29 := ⟨fit29, fun E h => by cases h⟩
theorem e30 : FitK 30 k30 := ⟨fit30, fun E h => by cases h⟩
theorem e31 : FitK 31 k31 := ⟨fit31, fun E h => by cases h⟩
theorem e32 : FitK 32 k32 := ⟨fit32, fun E h => by cases h⟩
theorem e33 : FitK 33 k33 := ⟨fit33, fun E h => by cases h⟩
theorem e34 : FitK 34 k34 := ⟨fit34, fun E h => by cases h⟩
theorem e35 : FitK 35 k35 := ⟨fit35, fun E h => by cases h⟩
theorem e36 : FitK 36 k36 := ⟨fit36, fun E h => by cases h⟩
theorem e37 : FitK 37 k37 := ⟨fit37, fun E h => by cases h⟩
theorem e38 : FitK 38 k38 := ⟨fit38, fun E h => by cases h⟩
theorem e39 : FitK 39 k39 := ⟨fit39, fun E h => by cases h⟩
theorem e40 : FitK 40 k40 := ⟨fit40, fun E h => by cases h⟩
theorem e41 : FitK 41 k41 := ⟨fit41, fun E h => by cases h⟩
theorem e42 : FitK 42 k42 := ⟨fit42, fun E h => by cases h⟩
theorem e43 : FitK 43 k43 := ⟨fit43, fun E h => by cases h⟩
theorem e44 : FitK 44 k44 := ⟨fit44, fun E h => by cases h⟩
theorem e45 : FitK 45 k45 := ⟨fit45, fun E h => by cases h⟩
theorem e46 : FitK 46 k46 := ⟨fit46, fun E h => by cases h⟩
theorem e47 : FitK 47 k47 := ⟨fit47, fun E h => by cases h⟩
theorem e48 : FitK 48 k48 := ⟨fit48, fun E h => by cases h⟩
theorem e49 : FitK 49 k49 := ⟨fit49, fun E h => by cases h⟩
theorem e50 : FitK 50 k50 := ⟨fit50, fun E h => by cases h⟩
theorem e51 : FitK 51 k51 := ⟨fit51, fun E h => by cases h⟩
theorem e52 : FitK 52 k52 := ⟨fit52, fun E h => by cases h⟩
theorem e53 : FitK 53 k53 := ⟨fit53, fun E h => by cases h⟩
theorem e54 : FitK 54 k54 := ⟨fit54, fun E h => by cases h⟩
theorem e55 : FitK 55 k55 := ⟨fit55, fun E h => by cases h⟩
theorem e56 : FitK 56 k56 := ⟨fit56, fun E h => by cases h⟩
theorem e57 : FitK 57 k57 := ⟨fit57, fun E h => by cases h⟩
theorem e58 : FitK 58 k58 := ⟨fit58, fun E h => by cases h⟩
theorem e59 : FitK 59 k59 := ⟨fit59, fun E h => by cases h⟩
theorem e60 : FitK 60 k60 := ⟨fit60, fun E h => by cases h; exact cloneOk (pures := pures) fit60 mixed⟩
theorem e61 : FitK 61 k61 := ⟨fit61, fun E h => by cases h⟩
theorem e62 : FitK 62 k62 := ⟨fit62, fun E h => by cases h⟩
theorem e63 : FitK 63 k63 := ⟨fit63, fun E h => by cases h⟩
theorem e64 : FitK 64 k64 := ⟨fit64, fun E h => by cases h⟩
theorem e65 : FitK 65 k65 := ⟨fit65, fun E h => by cases h⟩
theorem e66 : FitK 66 k66 := ⟨fit66, fun E h => by cases h⟩
theorem e67 : FitK 67 k67 := ⟨fit67, fun E h => by cases h⟩
theorem e68 : FitK 68 k68 := ⟨fit68, fun E h => by cases h⟩
theorem e69 : FitK 69 k69 := ⟨fit69, fun E h => by cases h⟩
theorem e70 : FitK 70 k70 := ⟨fit70, fun E h => by cases h⟩
theorem e71 : FitK 71 k71 := ⟨fit71, fun E h => by cases h⟩
theorem e72 : FitK 72 k72 := ⟨fit72, fun E h => by cases h⟩
theorem e73 : FitK 73 k73 := ⟨fit73, fun E h => by cases h⟩
theorem e74 : FitK 74 k74 := ⟨fit74, fun E h => by cases h⟩
theorem e75 : FitK 75 k75 := ⟨fit75, fun E h => by cases h⟩
theorem e76 : FitK 76 k76 := ⟨fit76, fun E h => by cases h⟩
theorem e77 : FitK 77 k77 := ⟨fit77, fun E h => by cases h⟩
theorem e78 : FitK 78 k78 := ⟨fit78, fun E h => by cases h⟩
theorem e79 : FitK 79 k79 := ⟨fit79, fun E h => by cases h⟩
theorem e80 : FitK 80 k80 := ⟨fit80, fun E h => by cases h⟩
theorem e81 : FitK 81 k81 := ⟨fit81, fun E h => by cases h⟩
theorem e82 : FitK 82 k82 := ⟨fit82, fun E h => by cases h⟩
theorem e83 : FitK 83 k83 := ⟨fit83, fun E h => by cases h⟩
theorem e84 : FitK 84 k84 := ⟨fit84, fun E h => by cases h⟩
theorem e85 : FitK 85 k85 := ⟨fit85, fun E h => by cases h⟩
theorem e86 : FitK 86 k86 := ⟨fit86, fun E h => by cases h; exact cloneOk (pures := pures) fit86 mixed⟩
theorem e87 : FitK 87 k87 := ⟨fit87, fun E h => by cases h⟩
theorem e88 : FitK 88 k88 := ⟨fit88, fun E h => by cases h⟩
theorem e89 : FitK 89 k89 := ⟨fit89, fun E h => by cases h⟩
theorem e90 : FitK 90 k90 := ⟨fit90, fun E h => by cases h⟩
theorem e91 : FitK 91 k91 := ⟨fit91, fun E h => by cases h⟩
theorem e92 : FitK 92 k92 := ⟨fit92, fun E h => by cases h⟩
theorem e93 : FitK 93 k93 := ⟨fit93, fun E h => by cases h⟩
theorem e94 : FitK 94 k94 := ⟨fit94, fun E h => by cases h⟩
theorem e95 : FitK 95 k95 := ⟨fit95, fun E h => by cases h⟩
theorem e96 : FitK 96 k96 := ⟨fit96, fun E h => by cases h⟩
theorem e97 : FitK 97 k97 := ⟨fit97, fun E h => by cases h⟩
theorem e98 : FitK 98 k98 := ⟨fit98, fun E h => by cases h⟩
theorem e99 : FitK 99 k99 := ⟨fit99, fun E h => by cases h⟩
theorem e100 : FitK 100 k100 := ⟨fit100, fun E h => by cases h⟩
theorem e101 : FitK 101 k101 := ⟨fit101, fun E h => by cases h⟩
theorem e102 : FitK 102 k102 := ⟨fit102, fun E h => by cases h⟩
theorem e103 : FitK 103 k103 := ⟨fit103, fun E h => by cases h⟩
theorem e104 : FitK 104 k104 := ⟨fit104, fun E h => by cases h⟩
theorem e105 : FitK 105 k105 := ⟨fit105, fun E h => by cases h⟩
theorem e106 : FitK 106 k106 := ⟨fit106, fun E h => by cases h⟩
theorem e107 : FitK 107 k107 := ⟨fit107, fun E h => by cases h⟩
theorem e108 : FitK 108 k108 := ⟨fit108, fun E h => by cases h⟩
theorem e109 : FitK 109 k109 := ⟨fit109, fun E h => by cases h⟩
theorem e110 : FitK 110 k110 := ⟨fit110, fun E h => by cases h⟩
theorem e111 : FitK 111 k111 := ⟨fit111, fun E h => by cases h⟩
theorem e112 : FitK 112 k112 := ⟨fit112, fun E h => by cases h⟩
theorem e113 : FitK 113 k113 := ⟨fit113, fun E h => by cases h⟩
theorem e114 : FitK 114 k114 := ⟨fit114, fun E h => by cases h⟩
theorem e115 : FitK 115 k115 := ⟨fit115, fun E h => by cases h⟩
theorem e116 : FitK 116 k116 := ⟨fit116, fun E h => by cases h⟩
theorem e117 : FitK 117 k117 := ⟨fit117, fun E h => by cases h⟩
theorem e118 : FitK 118 k118 := ⟨fit118, fun E h => by cases h⟩
theorem e119 : FitK 119 k119 := ⟨fit119, fun E h => by cases h⟩
theorem e120 : FitK 120 k120 := ⟨fit120, fun E h => by cases h⟩
theorem e121 : FitK 121 k121 := ⟨fit121, fun E h => by cases h⟩
theorem e122 : FitK 122 k122 := ⟨fit122, fun E h => by cases h⟩
theorem e123 : FitK 123 k123 := ⟨fit123, fun E h => by cases h⟩
theorem e124 : FitK 124 k124 := ⟨fit124, fun E h => by cases h⟩
theorem e125 : FitK 125 k125 := ⟨fit125, fun E h => by cases h⟩
theorem e126 : FitK 126 k126 := ⟨fit126, fun E h => by cases h⟩
theorem e127 : FitK 127 k127 := ⟨fit127, fun E h => by cases h⟩
theorem e128 : FitK 128 k128 := ⟨fit128, fun E h => by cases h⟩
theorem e129 : FitK 129 k129 := ⟨fit129, fun E h => by cases h⟩
theorem e130 : FitK 130 k130 := ⟨fit130, fun E h => by cases h⟩
theorem e131 : FitK 131 k131 := ⟨fit131, fun E h => by cases h⟩
theorem e132 : FitK 132 k132 := ⟨fit132, fun E h => by cases h⟩
theorem e133 : FitK 133 k133 := ⟨fit133, fun E h => by cases h⟩
theorem e134 : FitK 134 k134 := ⟨fit134, fun E h => by cases h⟩
theorem e135 : FitK 135 k135 := ⟨fit135, fun E h => by cases h⟩
theorem e136 : FitK 136 k136 := ⟨fit136, fun E h => by cases h⟩
theorem e137 : FitK 137 k137 := ⟨fit137, fun E h => by cases h⟩
theorem e138 : FitK 138 k138 := ⟨fit138, fun E h => by cases h⟩
theorem e139 : FitK 139 k139 := ⟨fit139, fun E h => by cases h⟩
theorem e140 : FitK 140 k140 := ⟨fit140, fun E h => by cases h⟩
theorem e141 : FitK 141 k141 := ⟨fit141, fun E h => by cases h⟩
theorem e142 : FitK 142 k142 := ⟨fit142, fun E h => by cases h⟩
theorem e143 : FitK 143 k143 := ⟨fit143, fun E h => by cases h⟩
theorem e144 : FitK 144 k144 := ⟨fit144, fun E h => by cases h⟩
theorem e145 : FitK 145 k145 := ⟨fit145, fun E h => by cases h⟩
theorem e146 : FitK 146 k146 := ⟨fit146, fun E h => by cases h⟩
theorem e147 : FitK 147 k147 := ⟨fit147, fun E h => by cases h⟩
theorem e148 : FitK 148 k148 := ⟨fit148, fun E h => by cases h⟩
theorem e149 : FitK 149 k149 := ⟨fit149, fun E h => by cases h⟩
theorem e150 : FitK 150 k150 := ⟨fit150, fun E h => by cases h⟩
theorem e151 : FitK 151 k151 := ⟨fit151, fun E h => by cases h⟩
theorem e152 : FitK 152 k152 := ⟨fit152, fun E h => by cases h⟩
theorem e153 : FitK 153 k153 := ⟨fit153, fun E h => by cases h⟩
theorem e154 : FitK 154 k154 := ⟨fit154, fun E h => by cases h⟩
theorem e155 : FitK 155 k155 := ⟨fit155, fun E h => by cases h⟩
theorem e156 : FitK 156 k156 := ⟨fit156, fun E h => by cases h⟩
theorem e157 : FitK 157 k157 := ⟨fit157, fun E h => by cases h⟩
theorem e158 : FitK 158 k158 := ⟨fit158, fun E h => by cases h⟩
theorem e159 : FitK 159 k159 := ⟨fit159, fun E h => by cases h⟩
theorem e160 : FitK 160 k160 := ⟨fit160, fun E h => by cases h⟩
theorem e161 : FitK 161 k161 := ⟨fit161, fun E h => by cases h⟩
theorem e162 : FitK 162 k162 := ⟨fit162, fun E h => by cases h⟩
theorem e163 : FitK 163 k163 := ⟨fit163, fun E h => by cases h⟩
theorem e164 : FitK 164 k164 := ⟨fit164, fun E h => by cases h; exact cloneOk (pures := pures) fit164 mixed⟩
theorem e165 : FitK 165 k165 := ⟨fit165, fun E h => by cases h⟩
theorem e166 : FitK 166 k166 := ⟨fit166, fun E h => by cases h⟩
theorem e167 : FitK 167 k167 := ⟨fit167, fun E h => by cases h⟩
theorem e168 : FitK 168 k168 := ⟨fit168, fun E h => by cases h⟩
theorem e169 : FitK 169 k169 := ⟨fit169, fun E h => by cases h⟩
theorem e170 : FitK 170 k170 := ⟨fit170, fun E h => by cases h⟩
theorem e171 : FitK 171 k171 := ⟨fit171, fun E h => by cases h⟩
theorem e172 : FitK 172 k172 := ⟨fit172, fun E h => by cases h⟩
theorem e173 : FitK 173 k173 := ⟨fit173, fun E h => by cases h⟩
theorem e174 : FitK 174 k174 := ⟨fit174, fun E h => by cases h⟩
theorem e175 : FitK 175 k175 := ⟨fit175, fun E h => by cases h⟩
theorem e176 : FitK 176 k176 := ⟨fit176, fun E h => by cases h⟩
theorem e177 : FitK 177 k177 := ⟨fit177, fun E h => by cases h; exact cloneOk (pures := pures) fit177 mixed⟩
theorem e178 : FitK 178 k178 := ⟨fit178, fun E h => by cases h⟩
theorem e179 : FitK 179 k179 := ⟨fit179, fun E h => by cases h; exact cloneOk (pures := pures) fit179 mixed⟩
theorem e180 : FitK 180 k180 := ⟨fit180, fun E h => by cases h⟩
theorem e181 : FitK 181 k181 := ⟨fit181, fun E h => by cases h; exact cloneOk (pures := pures) fit181 mixed⟩
theorem e182 : FitK 182 k182 := ⟨fit182, fun E h => by cases h⟩
theorem e183 : FitK 183 k183 := ⟨fit183, fun E h => by cases h; exact cloneOk (pures := pures) fit183 mixed⟩
theorem e184 : FitK 184 k184 := ⟨fit184, fun E h => by cases h⟩
theorem e185 : FitK 185 k185 := ⟨fit185, fun E h => by cases h; exact cloneOk (pures := pures) fit185 mixed⟩
theorem e186 : FitK 186 k186 := ⟨fit186, fun E h => by cases h⟩
theorem e187 : FitK 187 k187 := ⟨fit187, fun E h => by cases h⟩
theorem e188 : FitK 188 k188 := ⟨fit188, fun E h => by cases h⟩
theorem e189 : FitK 189 k189 := ⟨fit189, fun E h => by cases h⟩
theorem e190 : FitK 190 k190 := ⟨fit190, fun E h => by cases h⟩
theorem e191 : FitK 191 k191 := ⟨fit191, fun E h => by cases h⟩
theorem e192 : FitK 192 k192 := ⟨fit192, fun E h => by cases h⟩
theorem e193 : FitK 193 k193 := ⟨fit193, fun E h => by cases h⟩
theorem e194 : FitK 194 k194 := ⟨fit194, fun E h => by cases h⟩
theorem e195 : FitK 195 k195 := ⟨fit195, fun E h => by cases h⟩
theorem e196 : FitK 196 k196 := ⟨fit196, fun E h => by cases h⟩
theorem e197 : FitK 197 k197 := ⟨fit197, fun E h => by cases h⟩
theorem e198 : FitK 198 k198 := ⟨fit198, fun E h => by cases h⟩
theorem e199 : FitK 199 k199 := ⟨fit199, fun E h => by cases h⟩
theorem e200 : FitK 200 k200 := ⟨fit200, fun E h => by cases h⟩
theorem e201 : FitK 201 k201 := ⟨fit201, fun E h => by cases h⟩
theorem e202 : FitK 202 k202 := ⟨fit202, fun E h => by cases h⟩
theorem e203 : FitK 203 k203 := ⟨fit203, fun E h => by cases h⟩
theorem e204 : FitK 204 k204 := ⟨fit204, fun E h => by cases h⟩
theorem e205 : FitK 205 k205 := ⟨fit205, fun E h => by cases h⟩
theorem e206 : FitK 206 k206 := ⟨fit206, fun E h => by cases h⟩
theorem e207 : FitK 207 k207 := ⟨fit207, fun E h => by cases h⟩
theorem e208 : FitK 208 k208 := ⟨fit208, fun E h => by cases h⟩
theorem e209 : FitK 209 k209 := ⟨fit209, fun E h => by cases h⟩
theorem e210 : FitK 210 k210 := ⟨fit210, fun E h => by cases h; exact cloneOk (pures := pures) fit210 mixed⟩
theorem e211 : FitK 211 k211 := ⟨fit211, fun E h => by cases h⟩
theorem e212 : FitK 212 k212 := ⟨fit212, fun E h => by cases h⟩
theorem e213 : FitK 213 k213 := ⟨fit213, fun E h => by cases h⟩
theorem e214 : FitK 214 k214 := ⟨fit214, fun E h => by cases h⟩
theorem e215 : FitK 215 k215 := ⟨fit215, fun E h => by cases h⟩
theorem e216 : FitK 216 k216 := ⟨fit216, fun E h => by cases h⟩
theorem e217 : FitK 217 k217 := ⟨fit217, fun E h => by cases h⟩
theorem e218 : FitK 218 k218 := ⟨fit218, fun E h => by cases h⟩
theorem e219 : FitK 219 k219 := ⟨fit219, fun E h => by cases h⟩
theorem e220 : FitK 220 k220 := ⟨fit220, fun E h => by cases h⟩
theorem e221 : FitK 221 k221 := ⟨fit221, fun E h => by cases h⟩
theorem e222 : FitK 222 k222 := ⟨fit222, fun E h => by cases h⟩
theorem e223 : FitK 223 k223 := ⟨fit223, fun E h => by cases h⟩
theorem e224 : FitK 224 k224 := ⟨fit224, fun E h => by cases h⟩
theorem e225 : FitK 225 k225 := ⟨fit225, fun E h => by cases h⟩
theorem e226 : FitK 226 k226 := ⟨fit226, fun E h => by cases h⟩
theorem e227 : FitK 227 k227 := ⟨fit227, fun E h => by cases h⟩
theorem e228 : FitK 228 k228 := ⟨fit228, fun E h => by cases h⟩
theorem e229 : FitK 229 k229 := ⟨fit229, fun E h => by cases h⟩
theorem e230 : FitK 230 k230 := ⟨fit230, fun E h => by cases h⟩
theorem e231 : FitK 231 k231 := ⟨fit231, fun E h => by cases h⟩
theorem e232 : FitK 232 k232 := ⟨fit232, fun E h => by cases h⟩
theorem e233 : FitK 233 k233 := ⟨fit233, fun E h => by cases h⟩
theorem e234 : FitK 234 k234 := ⟨fit234, fun E h => by cases h⟩
theorem e235 : FitK 235 k235 := ⟨fit235, fun E h => by cases h⟩
theorem e236 : FitK 236 k236 := ⟨fit236, fun E h => by cases h⟩
theorem e237 : FitK 237 k237 := ⟨fit237, fun E h => by cases h⟩
theorem e238 : FitK 238 k238 := ⟨fit238, fun E h => by cases h⟩
theorem e239 : FitK 239 k239 := ⟨fit239, fun E h => by cases h⟩

theorem fits : codes.allI (fun k => k) FitK := by
  unfold codes
  exact ⟨trivial, ⟨trivial, ⟨e3, ⟨e7, ⟨e15, ⟨e31, ⟨e63, ⟨e127, trivial, trivial⟩, ⟨e191, trivial, trivial⟩⟩, ⟨e95, ⟨e159, trivial, trivial⟩, ⟨e223, trivial, trivial⟩⟩⟩, ⟨e47, ⟨e79, ⟨e143, trivial, trivial⟩, ⟨e207, trivial, trivial⟩⟩, ⟨e111, ⟨e175, trivial, trivial⟩, ⟨e239, trivial, trivial⟩⟩⟩⟩, ⟨e23, ⟨e39, ⟨e71, ⟨e135, trivial, trivial⟩, ⟨e199, trivial, trivial⟩⟩, ⟨e103, ⟨e167, trivial, trivial⟩, ⟨e231, trivial, trivial⟩⟩⟩, ⟨e55, ⟨e87, ⟨e151, trivial, trivial⟩, ⟨e215, trivial, trivial⟩⟩, ⟨e119, ⟨e183, trivial, trivial⟩, trivial⟩⟩⟩⟩, ⟨e11, ⟨e19, ⟨e35, ⟨e67, ⟨e131, trivial, trivial⟩, ⟨e195, trivial, trivial⟩⟩, ⟨e99, ⟨e163, trivial, trivial⟩, ⟨e227, trivial, trivial⟩⟩⟩, ⟨e51, ⟨e83, ⟨e147, trivial, trivial⟩, ⟨e211, trivial, trivial⟩⟩, ⟨e115, ⟨e179, trivial, trivial⟩, trivial⟩⟩⟩, ⟨e27, ⟨e43, ⟨e75, ⟨e139, trivial, trivial⟩, ⟨e203, trivial, trivial⟩⟩, ⟨e107, ⟨e171, trivial, trivial⟩, ⟨e235, trivial, trivial⟩⟩⟩, ⟨e59, ⟨e91, ⟨e155, trivial, trivial⟩, ⟨e219, trivial, trivial⟩⟩, ⟨e123, ⟨e187, trivial, trivial⟩, trivial⟩⟩⟩⟩⟩, ⟨e5, ⟨e9, ⟨e17, ⟨e33, ⟨e65, ⟨e129, trivial, trivial⟩, ⟨e193, trivial, trivial⟩⟩, ⟨e97, ⟨e161, trivial, trivial⟩, ⟨e225, trivial, trivial⟩⟩⟩, ⟨e49, ⟨e81, ⟨e145, trivial, trivial⟩, ⟨e209, trivial, trivial⟩⟩, ⟨e113, ⟨e177, trivial, trivial⟩, trivial⟩⟩⟩, ⟨e25, ⟨e41, ⟨e73, ⟨e137, trivial, trivial⟩, ⟨e201, trivial, trivial⟩⟩, ⟨e105, ⟨e169, trivial, trivial⟩, ⟨e233, trivial, trivial⟩⟩⟩, ⟨e57, ⟨e89, ⟨e153, trivial, trivial⟩, ⟨e217, trivial, trivial⟩⟩, ⟨e121, ⟨e185, trivial, trivial⟩, trivial⟩⟩⟩⟩, ⟨e13, ⟨e21, ⟨e37, ⟨e69, ⟨e133, trivial, trivial⟩, ⟨e197, trivial, trivial⟩⟩, ⟨e101, ⟨e165, trivial, trivial⟩, ⟨e229, trivial, trivial⟩⟩⟩, ⟨e53, ⟨e85, ⟨e149, trivial, trivial⟩, ⟨e213, trivial, trivial⟩⟩, ⟨e117, ⟨e181, trivial, trivial⟩, trivial⟩⟩⟩, ⟨e29, ⟨e45, ⟨e77, ⟨e141, trivial, trivial⟩, ⟨e205, trivial, trivial⟩⟩, ⟨e109, ⟨e173, trivial, trivial⟩, ⟨e237, trivial, trivial⟩⟩⟩, ⟨e61, ⟨e93, ⟨e157, trivial, trivial⟩, ⟨e221, trivial, trivial⟩⟩, ⟨e125, ⟨e189, trivial, trivial⟩, trivial⟩⟩⟩⟩⟩⟩, ⟨trivial, ⟨e4, ⟨e8, ⟨e16, ⟨e32, ⟨e64, ⟨e128, trivial, trivial⟩, ⟨e192, trivial, trivial⟩⟩, ⟨e96, ⟨e160, trivial, trivial⟩, ⟨e224, trivial, trivial⟩⟩⟩, ⟨e48, ⟨e80, ⟨e144, trivial, trivial⟩, ⟨e208, trivial, trivial⟩⟩, ⟨e112, ⟨e176, trivial, trivial⟩, trivial⟩⟩⟩, ⟨e24, ⟨e40, ⟨e72, ⟨e136, trivial, trivial⟩, ⟨e200, trivial, trivial⟩⟩, ⟨e104, ⟨e168, trivial, trivial⟩, ⟨e232, trivial, trivial⟩⟩⟩, ⟨e56, ⟨e88, ⟨e152, trivial, trivial⟩, ⟨e216, trivial, trivial⟩⟩, ⟨e120, ⟨e184, trivial, trivial⟩, trivial⟩⟩⟩⟩, ⟨e12, ⟨e20, ⟨e36, ⟨e68, ⟨e132, trivial, trivial⟩, ⟨e196, trivial, trivial⟩⟩, ⟨e100, ⟨e164, trivial, trivial⟩, ⟨e228, trivial, trivial⟩⟩⟩, ⟨e52, ⟨e84, ⟨e148, trivial, trivial⟩, ⟨e212, trivial, trivial⟩⟩, ⟨e116, ⟨e180, trivial, trivial⟩, trivial⟩⟩⟩, ⟨e28, ⟨e44, ⟨e76, ⟨e140, trivial, trivial⟩, ⟨e204, trivial, trivial⟩⟩, ⟨e108, ⟨e172, trivial, trivial⟩, ⟨e236, trivial, trivial⟩⟩⟩, ⟨e60, ⟨e92, ⟨e156, trivial, trivial⟩, ⟨e220, trivial, trivial⟩⟩, ⟨e124, ⟨e188, trivial, trivial⟩, trivial⟩⟩⟩⟩⟩, ⟨e6, ⟨e10, ⟨e18, ⟨e34, ⟨e66, ⟨e130, trivial, trivial⟩, ⟨e194, trivial, trivial⟩⟩, ⟨e98, ⟨e162, trivial, trivial⟩, ⟨e226, trivial, trivial⟩⟩⟩, ⟨e50, ⟨e82, ⟨e146, trivial, trivial⟩, ⟨e210, trivial, trivial⟩⟩, ⟨e114, ⟨e178, trivial, trivial⟩, trivial⟩⟩⟩, ⟨e26, ⟨e42, ⟨e74, ⟨e138, trivial, trivial⟩, ⟨e202, trivial, trivial⟩⟩, ⟨e106, ⟨e170, trivial, trivial⟩, ⟨e234, trivial, trivial⟩⟩⟩, ⟨e58, ⟨e90, ⟨e154, trivial, trivial⟩, ⟨e218, trivial, trivial⟩⟩, ⟨e122, ⟨e186, trivial, trivial⟩, trivial⟩⟩⟩⟩, ⟨e14, ⟨e22, ⟨e38, ⟨e70, ⟨e134, trivial, trivial⟩, ⟨e198, trivial, trivial⟩⟩, ⟨e102, ⟨e166, trivial, trivial⟩, ⟨e230, trivial, trivial⟩⟩⟩, ⟨e54, ⟨e86, ⟨e150, trivial, trivial⟩, ⟨e214, trivial, trivial⟩⟩, ⟨e118, ⟨e182, trivial, trivial⟩, trivial⟩⟩⟩, ⟨e30, ⟨e46, ⟨e78, ⟨e142, trivial, trivial⟩, ⟨e206, trivial, trivial⟩⟩, ⟨e110, ⟨e174, trivial, trivial⟩, ⟨e238, trivial, trivial⟩⟩⟩, ⟨e62, ⟨e94, ⟨e158, trivial, trivial⟩, ⟨e222, trivial, trivial⟩⟩, ⟨e126, ⟨e190, trivial, trivial⟩, trivial⟩⟩⟩⟩⟩⟩⟩

theorem fitK {f : Nat} {k : FCode} (h : codes.get f = some k) : FitK f k := Map.allI_get codes (fun k => k) fits f k h

/-- THE MACHINE IS SOUND for the loaded program. -/
theorem machine (m : Nat) : CallOk Tryz.prog (aF pures codes m) :=
  aF_ok mixed (fun _ _ h => (fitK h).1) (fun _ _ E h he => (fitK h).2 E he) m

end Go.Proofs.YtfhflogbffibiaaGreat
