/-
  The abstract code of functions. Printed by my program.
-/
import Derived.Test.YtfhflogbffibiaaGreatVV
namespace Go.Proofs.YtfhflogbffibiaaGreat
open Go
set_option linter.unusedSimpArgs false
set_option linter.unusedVariables false

def c192 : LCode := .seq (.reg [⟨some 4, .mv (.k (.int .i64 0)), none⟩])
   (.seq (.reg [⟨some 9, .mv (.t 0), none⟩,
    ⟨some 10, .nck (.t 9), none⟩,
    ⟨some 11, .fa (.t 10) 8, none⟩,
    ⟨some 12, .fa (.t 11) 5, none⟩,
    ⟨some 13, .ld (.t 12) 1 false, none⟩,
    ⟨some 14, .ix 1 (.t 13) (.k (.int .i64 1)), none⟩,
    ⟨some 15, .ld (.t 14) 1 false, none⟩,
    ⟨some 5, .mv (.t 15), none⟩])
   (.seq (.block 0 (.seq (.reg [⟨some 17, .mv (.t 1), none⟩,
    ⟨some 18, .nck (.t 17), none⟩,
    ⟨some 19, .fa (.t 18) 7, none⟩,
    ⟨some 20, .ld (.t 19) 1 false, none⟩,
    ⟨some 21, .bin .neq (.t 20) (.k (.int .i64 4)) 0, none⟩,
    ⟨some 16, .mv (.t 21), none⟩])
   (.cond (.t 16) (.seq (.reg [⟨some 4, .mv (.k (.int .i64 9)), none⟩])
   (.ret)) (.seq (.reg [⟨some 23, .mv (.t 5), none⟩,
    ⟨some 24, .bin .lss (.t 23) (.k (.int .i64 1)) 0, none⟩,
    ⟨some 22, .mv (.t 24), none⟩])
   (.cond (.t 22) (.seq (.reg [⟨some 4, .mv (.k (.int .i64 1)), none⟩])
   (.ret)) (.skip))))))
   (.seq (.reg [⟨some 26, .mv (.t 1), none⟩,
    ⟨some 27, .nck (.t 26), none⟩,
    ⟨some 28, .fa (.t 27) 11, none⟩,
    ⟨some 29, .ld (.t 28) 1 false, none⟩,
    ⟨some 30, .mv (.t 5), none⟩,
    ⟨some 31, .call 213 [.t 29, .t 30], none⟩,
    ⟨some 25, .mv (.t 31), none⟩,
    ⟨some 32, .ext (.t 25) 0, none⟩,
    ⟨some 33, .ext (.t 25) 1, none⟩,
    ⟨some 6, .mv (.t 32), none⟩,
    ⟨some 7, .mv (.t 33), none⟩])
   (.seq (.seq (.reg [⟨some 34, .mv (.t 7), none⟩,
    ⟨some 35, .bin .neq (.t 34) (.k (.int .i64 0)) 0, none⟩])
   (.cond (.t 35) (.seq (.reg [⟨some 36, .mv (.t 7), none⟩,
    ⟨some 4, .mv (.t 36), none⟩])
   (.ret)) (.skip)))
   (.seq (.reg [⟨some 37, .mv (.t 0), none⟩,
    ⟨some 38, .mv (.t 6), none⟩,
    ⟨some 39, .call 216 [.t 38], none⟩,
    ⟨some 40, .nck (.t 37), none⟩,
    ⟨some 41, .fa (.t 40) 15, none⟩,
    ⟨none, .st (.t 41) (.t 39) 1, none⟩])
   (.seq (.seq (.reg [⟨some 42, .mv (.t 1), none⟩,
    ⟨some 43, .nck (.t 42), none⟩,
    ⟨some 44, .fa (.t 43) 11, none⟩,
    ⟨some 45, .ld (.t 44) 1 false, none⟩,
    ⟨some 46, .len (.t 45) false, none⟩,
    ⟨some 47, .mv (.k (.int .i64 0)), none⟩])
   (.block 1 (.loop (.seq (.reg [⟨some 48, .bin .lss (.t 47) (.t 46) 0, none⟩])
   (.seq (.cond (.t 48) (.skip) (.exit 1))
   (.seq (.block 2 (.seq (.reg [⟨some 49, .mv (.t 47), none⟩,
    ⟨some 8, .mv (.t 49), none⟩])
   (.dreg [] [⟨some 50, .mv (.t 1), none⟩,
    ⟨some 51, .nck (.t 50), none⟩,
    ⟨some 52, .fa (.t 51) 11, none⟩,
    ⟨some 53, .ld (.t 52) 1 false, none⟩,
    ⟨some 54, .mv (.t 8), none⟩,
    ⟨some 55, .ix 2 (.t 53) (.t 54), none⟩,
    ⟨some 56, .fa (.t 55) 1, none⟩,
    ⟨some 57, .ld (.t 56) 1 false, none⟩,
    ⟨some 58, .mv (.t 6), none⟩,
    ⟨some 59, .mv (.t 8), none⟩,
    ⟨some 60, .ix 2 (.t 58) (.t 59), none⟩,
    ⟨some 61, .fa (.t 60) 1, none⟩,
    ⟨some 62, .ld (.t 61) 1 false, none⟩,
    ⟨some 63, .bin .sub (.t 57) (.t 62) 0, none⟩,
    ⟨some 64, .ix 2 (.t 53) (.t 54), none⟩,
    ⟨some 65, .fa (.t 64) 1, none⟩,
    ⟨none, .st (.t 65) (.t 63) 1, none⟩])))
   (.reg [⟨some 66, .bin .add (.t 47) (.k (.int .i64 1)) 0, none⟩,
    ⟨some 47, .mv (.t 66), none⟩])))))))
   (.seq (.reg [⟨some 67, .mv (.t 1), none⟩,
    ⟨some 68, .mv (.t 1), none⟩,
    ⟨some 69, .nck (.t 68), none⟩,
    ⟨some 70, .fa (.t 69) 11, none⟩,
    ⟨some 71, .ld (.t 70) 1 false, none⟩,
    ⟨some 72, .call 215 [.t 71], none⟩,
    ⟨some 73, .nck (.t 67), none⟩,
    ⟨some 74, .fa (.t 73) 11, none⟩,
    ⟨none, .st (.t 74) (.t 72) 1, none⟩])
   (.seq (.reg [⟨some 4, .mv (.k (.int .i64 0)), none⟩])
   (.ret)))))))))
def k192 : FCode := ⟨75, c192, [.tmp 4], none⟩
def c193 : LCode := .seq (.reg [⟨some 4, .mv (.k (.int .i64 0)), none⟩])
   (.seq (.reg [⟨some 9, .mv (.t 0), none⟩,
    ⟨some 10, .nck (.t 9), none⟩,
    ⟨some 11, .fa (.t 10) 8, none⟩,
    ⟨some 12, .fa (.t 11) 5, none⟩,
    ⟨some 13, .ld (.t 12) 1 false, none⟩,
    ⟨some 14, .ix 1 (.t 13) (.k (.int .i64 1)), none⟩,
    ⟨some 15, .ld (.t 14) 1 false, none⟩,
    ⟨some 5, .mv (.t 15), none⟩])
   (.seq (.block 0 (.seq (.reg [⟨some 17, .mv (.t 1), none⟩,
    ⟨some 18, .nck (.t 17), none⟩,
    ⟨some 19, .fa (.t 18) 7, none⟩,
    ⟨some 20, .ld (.t 19) 1 false, none⟩,
    ⟨some 21, .bin .neq (.t 20) (.k (.int .i64 1)) 0, none⟩,
    ⟨some 16, .mv (.t 21), none⟩])
   (.cond (.t 16) (.seq (.reg [⟨some 4, .mv (.k (.int .i64 9)), none⟩])
   (.ret)) (.seq (.dreg [] [⟨some 23, .mv (.t 5), none⟩,
    ⟨some 24, .bin .lss (.t 23) (.k (.int .i64 0)) 0, none⟩,
    ⟨some 25, .mv (.t 24), none⟩,
    ⟨some 26, .mv (.t 5), some (25, false)⟩,
    ⟨some 27, .bin .geq (.t 26) (.k (.int .i64 4294967296)) 0, some (25, false)⟩,
    ⟨some 28, .pick (.t 25) (.k (.bool true)) (.t 27), none⟩,
    ⟨some 29, .mv (.t 28), none⟩,
    ⟨some 30, .mv (.t 5), some (29, false)⟩,
    ⟨some 31, .kcall 130 [.t 30], some (29, false)⟩,
    ⟨some 32, .mv (.t 1), some (29, false)⟩,
    ⟨some 33, .nck (.t 32), some (29, false)⟩,
    ⟨some 34, .fa (.t 33) 2, some (29, false)⟩,
    ⟨some 35, .ld (.t 34) 1 false, some (29, false)⟩,
    ⟨some 36, .bin .neq (.t 31) (.t 35) 0, some (29, false)⟩,
    ⟨some 37, .pick (.t 29) (.k (.bool true)) (.t 36), none⟩,
    ⟨some 22, .mv (.t 37), none⟩])
   (.cond (.t 22) (.seq (.reg [⟨some 4, .mv (.k (.int .i64 1)), none⟩])
   (.ret)) (.seq (.reg [⟨some 39, .mv (.t 5), none⟩,
    ⟨some 40, .mv (.t 0), none⟩,
    ⟨some 41, .nck (.t 40), none⟩,
    ⟨some 42, .fa (.t 41) 0, none⟩,
    ⟨some 43, .fa (.t 42) 6, none⟩,
    ⟨some 44, .ld (.t 43) 1 false, none⟩,
    ⟨some 45, .call 82 [.t 44], none⟩,
    ⟨some 46, .bin .and (.t 39) (.t 45) 0, none⟩,
    ⟨some 47, .bin .neq (.t 46) (.k (.int .i64 0)) 0, none⟩,
    ⟨some 38, .mv (.t 47), none⟩])
   (.cond (.t 38) (.seq (.reg [⟨some 4, .mv (.k (.int .i64 13)), none⟩])
   (.ret)) (.skip))))))))
   (.seq (.dreg [] [⟨some 49, .mv (.t 1), none⟩,
    ⟨some 50, .nck (.t 49), none⟩,
    ⟨some 51, .fa (.t 50) 2, none⟩,
    ⟨some 52, .ld (.t 51) 1 false, none⟩,
    ⟨some 53, .mv (.t 1), none⟩,
    ⟨some 54, .nck (.t 53), none⟩,
    ⟨some 55, .fa (.t 54) 3, none⟩,
    ⟨some 56, .ld (.t 55) 1 false, none⟩,
    ⟨some 57, .mv (.t 1), none⟩,
    ⟨some 58, .nck (.t 57), none⟩,
    ⟨some 59, .fa (.t 58) 6, none⟩,
    ⟨some 60, .ld (.t 59) 1 false, none⟩,
    ⟨some 61, .call 104 [.t 52, .t 56, .t 60], none⟩,
    ⟨some 48, .mv (.t 61), none⟩,
    ⟨some 62, .ext (.t 48) 0, none⟩,
    ⟨some 63, .ext (.t 48) 1, none⟩,
    ⟨some 6, .mv (.t 62), none⟩,
    ⟨some 7, .mv (.t 63), none⟩])
   (.seq (.seq (.reg [⟨some 64, .mv (.t 7), none⟩,
    ⟨some 65, .bin .neq (.t 64) (.k (.int .i64 0)) 0, none⟩])
   (.cond (.t 65) (.seq (.reg [⟨some 66, .mv (.t 7), none⟩,
    ⟨some 4, .mv (.t 66), none⟩])
   (.ret)) (.skip)))
   (.seq (.dreg [] [⟨some 68, .mv (.t 0), none⟩,
    ⟨some 69, .nck (.t 68), none⟩,
    ⟨some 70, .fa (.t 69) 0, none⟩,
    ⟨some 71, .fa (.t 70) 3, none⟩,
    ⟨some 72, .ld (.t 71) 1 false, none⟩,
    ⟨some 73, .mv (.t 0), none⟩,
    ⟨some 74, .nck (.t 73), none⟩,
    ⟨some 75, .fa (.t 74) 0, none⟩,
    ⟨some 76, .fa (.t 75) 4, none⟩,
    ⟨some 77, .ld (.t 76) 1 false, none⟩,
    ⟨some 78, .mv (.t 1), none⟩,
    ⟨some 79, .nck (.t 78), none⟩,
    ⟨some 80, .fa (.t 79) 1, none⟩,
    ⟨some 81, .ld (.t 80) 1 false, none⟩,
    ⟨some 82, .mv (.t 6), none⟩,
    ⟨some 83, .mv (.t 0), none⟩,
    ⟨some 84, .nck (.t 83), none⟩,
    ⟨some 85, .fa (.t 84) 8, none⟩,
    ⟨some 86, .fa (.t 85) 1, none⟩,
    ⟨some 87, .ld (.t 86) 1 false, none⟩,
    ⟨some 88, .call 217 [.t 72, .t 77, .t 81, .t 82, .t 87], none⟩,
    ⟨some 67, .mv (.t 88), none⟩,
    ⟨some 89, .ext (.t 67) 0, none⟩,
    ⟨some 90, .ext (.t 67) 1, none⟩,
    ⟨some 8, .mv (.t 89), none⟩,
    ⟨some 7, .mv (.t 90), none⟩])
   (.seq (.seq (.reg [⟨some 91, .mv (.t 7), none⟩,
    ⟨some 92, .bin .neq (.t 91) (.k (.int .i64 0)) 0, none⟩])
   (.cond (.t 92) (.seq (.reg [⟨some 93, .mv (.t 7), none⟩,
    ⟨some 4, .mv (.t 93), none⟩])
   (.ret)) (.skip)))
   (.seq (.reg [⟨some 94, .mv (.t 0), none⟩,
    ⟨some 95, .mv (.t 8), none⟩,
    ⟨some 96, .call 218 [.t 95], none⟩,
    ⟨some 97, .nck (.t 94), none⟩,
    ⟨some 98, .fa (.t 97) 15, none⟩,
    ⟨none, .st (.t 98) (.t 96) 1, none⟩])
   (.seq (.reg [⟨some 99, .mv (.t 1), none⟩,
    ⟨some 100, .mv (.t 1), none⟩,
    ⟨some 101, .mv (.t 1), none⟩,
    ⟨some 102, .mv (.t 1), none⟩,
    ⟨some 103, .mv (.t 0), none⟩,
    ⟨some 104, .nck (.t 103), none⟩,
    ⟨some 105, .fa (.t 104) 8, none⟩,
    ⟨some 106, .fa (.t 105) 1, none⟩,
    ⟨some 107, .ld (.t 106) 1 false, none⟩,
    ⟨some 108, .mv (.t 5), none⟩,
    ⟨some 109, .mv (.t 8), none⟩,
    ⟨some 110, .nck (.t 99), none⟩,
    ⟨some 111, .fa (.t 110) 7, none⟩,
    ⟨none, .st (.t 111) (.k (.int .i64 3)) 1, none⟩,
    ⟨some 112, .nck (.t 100), none⟩,
    ⟨some 113, .fa (.t 112) 8, none⟩,
    ⟨none, .st (.t 113) (.t 107) 1, none⟩,
    ⟨some 114, .nck (.t 101), none⟩,
    ⟨some 115, .fa (.t 114) 9, none⟩,
    ⟨none, .st (.t 115) (.t 108) 1, none⟩,
    ⟨some 116, .nck (.t 102), none⟩,
    ⟨some 117, .fa (.t 116) 11, none⟩,
    ⟨none, .st (.t 117) (.t 109) 1, none⟩])
   (.seq (.reg [⟨some 4, .mv (.k (.int .i64 0)), none⟩])
   (.ret))))))))))
def k193 : FCode := ⟨118, c193, [.tmp 4], none⟩
def c194 : LCode := .seq (.reg [⟨some 4, .mv (.k (.int .i64 0)), none⟩])
   (.seq (.reg [⟨some 6, .mv (.t 0), none⟩,
    ⟨some 7, .nck (.t 6), none⟩,
    ⟨some 8, .fa (.t 7) 0, none⟩,
    ⟨some 9, .fa (.t 8) 6, none⟩,
    ⟨some 10, .ld (.t 9) 1 false, none⟩,
    ⟨some 11, .mv (.t 1), none⟩,
    ⟨some 12, .ix 12 (.t 10) (.t 11), none⟩,
    ⟨some 5, .mv (.t 12), none⟩])
   (.seq (.block 0 (.seq (.reg [⟨some 14, .mv (.t 0), none⟩,
    ⟨some 15, .nck (.t 14), none⟩,
    ⟨some 16, .fa (.t 15) 8, none⟩,
    ⟨some 17, .fa (.t 16) 2, none⟩,
    ⟨some 18, .ld (.t 17) 1 false, none⟩,
    ⟨some 19, .bin .eql (.t 18) (.k (.int .i64 8)) 0, none⟩,
    ⟨some 20, .mv (.t 19), none⟩,
    ⟨some 21, .mv (.t 5), some (20, true)⟩,
    ⟨some 22, .nck (.t 21), some (20, true)⟩,
    ⟨some 23, .fa (.t 22) 7, some (20, true)⟩,
    ⟨some 24, .ld (.t 23) 1 false, some (20, true)⟩,
    ⟨some 25, .bin .eql (.t 24) (.k (.int .i64 1)) 0, some (20, true)⟩,
    ⟨some 26, .pick (.t 20) (.t 25) (.k (.bool false)), none⟩,
    ⟨some 13, .mv (.t 26), none⟩])
   (.cond (.t 13) (.reg [⟨some 27, .mv (.t 5), none⟩,
    ⟨some 28, .nck (.t 27), none⟩,
    ⟨some 29, .fa (.t 28) 7, none⟩,
    ⟨none, .st (.t 29) (.k (.int .i64 2)) 1, none⟩]) (.seq (.reg [⟨some 31, .mv (.t 0), none⟩,
    ⟨some 32, .nck (.t 31), none⟩,
    ⟨some 33, .fa (.t 32) 8, none⟩,
    ⟨some 34, .fa (.t 33) 2, none⟩,
    ⟨some 35, .ld (.t 34) 1 false, none⟩,
    ⟨some 36, .bin .eql (.t 35) (.k (.int .i64 9)) 0, none⟩,
    ⟨some 37, .mv (.t 36), none⟩,
    ⟨some 38, .mv (.t 5), some (37, true)⟩,
    ⟨some 39, .nck (.t 38), some (37, true)⟩,
    ⟨some 40, .fa (.t 39) 7, some (37, true)⟩,
    ⟨some 41, .ld (.t 40) 1 false, some (37, true)⟩,
    ⟨some 42, .bin .eql (.t 41) (.k (.int .i64 2)) 0, some (37, true)⟩,
    ⟨some 43, .pick (.t 37) (.t 42) (.k (.bool false)), none⟩,
    ⟨some 30, .mv (.t 43), none⟩])
   (.cond (.t 30) (.reg [⟨some 44, .mv (.t 5), none⟩,
    ⟨some 45, .nck (.t 44), none⟩,
    ⟨some 46, .fa (.t 45) 7, none⟩,
    ⟨none, .st (.t 46) (.k (.int .i64 1)) 1, none⟩]) (.seq (.reg [⟨some 48, .mv (.t 0), none⟩,
    ⟨some 49, .nck (.t 48), none⟩,
    ⟨some 50, .fa (.t 49) 8, none⟩,
    ⟨some 51, .fa (.t 50) 2, none⟩,
    ⟨some 52, .ld (.t 51) 1 false, none⟩,
    ⟨some 53, .bin .eql (.t 52) (.k (.int .i64 10)) 0, none⟩,
    ⟨some 54, .mv (.t 53), none⟩,
    ⟨some 55, .mv (.t 5), some (54, true)⟩,
    ⟨some 56, .nck (.t 55), some (54, true)⟩,
    ⟨some 57, .fa (.t 56) 7, some (54, true)⟩,
    ⟨some 58, .ld (.t 57) 1 false, some (54, true)⟩,
    ⟨some 59, .bin .eql (.t 58) (.k (.int .i64 1)) 0, some (54, true)⟩,
    ⟨some 60, .mv (.t 59), some (54, true)⟩,
    ⟨some 61, .mv (.t 5), some (60, false)⟩,
    ⟨some 62, .nck (.t 61), some (60, false)⟩,
    ⟨some 63, .fa (.t 62) 7, some (60, false)⟩,
    ⟨some 64, .ld (.t 63) 1 false, some (60, false)⟩,
    ⟨some 65, .bin .eql (.t 64) (.k (.int .i64 2)) 0, some (60, false)⟩,
    ⟨some 66, .pick (.t 60) (.k (.bool true)) (.t 65), some (54, true)⟩,
    ⟨some 67, .pick (.t 54) (.t 66) (.k (.bool false)), none⟩,
    ⟨some 47, .mv (.t 67), none⟩])
   (.cond (.t 47) (.reg [⟨some 68, .mv (.t 0), none⟩,
    ⟨some 69, .mv (.t 0), none⟩,
    ⟨some 70, .nck (.t 69), none⟩,
    ⟨some 71, .fa (.t 70) 0, none⟩,
    ⟨some 72, .fa (.t 71) 6, none⟩,
    ⟨some 73, .ld (.t 72) 1 false, none⟩,
    ⟨some 74, .mv (.t 1), none⟩,
    ⟨some 75, .mv (.t 1), none⟩,
    ⟨some 76, .bin .add (.t 75) (.k (.int .i64 1)) 0, none⟩,
    ⟨some 77, .call 189 [.t 73, .t 74, .t 76], none⟩,
    ⟨some 78, .nck (.t 68), none⟩,
    ⟨some 79, .fa (.t 78) 0, none⟩,
    ⟨some 80, .fa (.t 79) 6, none⟩,
    ⟨none, .st (.t 80) (.t 77) 1, none⟩]) (.seq (.reg [⟨some 4, .mv (.k (.int .i64 9)), none⟩])
   (.ret)))))))))
   (.seq (.reg [⟨some 4, .mv (.k (.int .i64 0)), none⟩])
   (.ret))))
def k194 : FCode := ⟨81, c194, [.tmp 4], none⟩
def c195 : LCode := .seq (.reg [⟨some 3, .box (.t 0), none⟩,
    ⟨some 6, .mv (.k (.int .i64 0)), none⟩])
   (.seq (.seq (.reg [⟨some 11, .mv (.t 2), none⟩,
    ⟨some 12, .len (.t 11) false, none⟩,
    ⟨some 13, .mv (.k (.int .i64 0)), none⟩])
   (.block 0 (.loop (.seq (.reg [⟨some 14, .bin .lss (.t 13) (.t 12) 0, none⟩])
   (.seq (.cond (.t 14) (.skip) (.exit 0))
   (.seq (.block 1 (.seq (.reg [⟨some 15, .ix 2 (.t 11) (.t 13), none⟩,
    ⟨some 16, .ld (.t 15) 2 true, none⟩,
    ⟨some 8, .alloc [.int .i64 0, .int .i64 0], none⟩,
    ⟨none, .st (.t 8) (.t 16) 2, none⟩])
   (.block 2 (.seq (.reg [⟨some 18, .mv (.t 1), none⟩,
    ⟨some 19, .fa (.t 8) 0, none⟩,
    ⟨some 20, .ld (.t 19) 1 false, none⟩,
    ⟨some 21, .call 197 [.t 3, .t 18, .t 20], none⟩,
    ⟨some 22, .bin .eql (.t 21) (.k (.raw (.pointer none))) 101, none⟩,
    ⟨some 17, .mv (.t 22), none⟩])
   (.cond (.t 17) (.seq (.reg [⟨some 6, .mv (.k (.int .i64 4)), none⟩])
   (.ret)) (.seq (.reg [⟨some 24, .fa (.t 8) 1, none⟩,
    ⟨some 25, .ld (.t 24) 1 false, none⟩,
    ⟨some 26, .bin .eql (.t 25) (.k (.int .i64 0)) 0, none⟩,
    ⟨some 23, .mv (.t 26), none⟩])
   (.cond (.t 23) (.seq (.reg [⟨some 6, .mv (.k (.int .i64 3)), none⟩])
   (.ret)) (.skip))))))))
   (.reg [⟨some 27, .bin .add (.t 13) (.k (.int .i64 1)) 0, none⟩,
    ⟨some 13, .mv (.t 27), none⟩])))))))
   (.seq (.seq (.reg [⟨some 28, .mv (.t 2), none⟩,
    ⟨some 29, .len (.t 28) false, none⟩,
    ⟨some 30, .bin .eql (.t 29) (.k (.int .i64 0)) 0, none⟩,
    ⟨some 31, .mv (.t 30), none⟩,
    ⟨some 32, .mv (.t 2), some (31, false)⟩,
    ⟨some 33, .len (.t 32) false, some (31, false)⟩,
    ⟨some 34, .bin .gtr (.t 33) (.k (.int .i64 64)) 0, some (31, false)⟩,
    ⟨some 35, .pick (.t 31) (.k (.bool true)) (.t 34), none⟩])
   (.cond (.t 35) (.seq (.reg [⟨some 6, .mv (.k (.int .i64 3)), none⟩])
   (.ret)) (.skip)))
   (.seq (.reg [⟨some 37, .mv (.t 2), none⟩,
    ⟨some 38, .call 196 [.t 37, .k (.bool true), .k (.int .i64 0)], none⟩,
    ⟨some 39, .call 152 [.t 38], none⟩,
    ⟨some 36, .mv (.t 39), none⟩,
    ⟨some 40, .ext (.t 36) 0, none⟩,
    ⟨some 41, .ext (.t 36) 1, none⟩,
    ⟨some 9, .mv (.t 40), none⟩,
    ⟨some 10, .mv (.t 41), none⟩])
   (.seq (.seq (.reg [⟨some 42, .mv (.t 10), none⟩,
    ⟨some 43, .bin .eql (.t 42) (.k (.int .i64 0)) 0, none⟩,
    ⟨some 44, .mv (.t 43), none⟩,
    ⟨some 45, .mv (.t 9), some (44, true)⟩,
    ⟨some 46, .bin .neq (.t 45) (.k (.int .i64 0)) 0, some (44, true)⟩,
    ⟨some 47, .pick (.t 44) (.t 46) (.k (.bool false)), none⟩])
   (.cond (.t 47) (.reg [⟨some 10, .mv (.k (.int .i64 3)), none⟩]) (.skip)))
   (.seq (.reg [⟨some 48, .mv (.t 10), none⟩,
    ⟨some 6, .mv (.t 48), none⟩])
   (.ret))))))
def k195 : FCode := ⟨49, c195, [.tmp 6], none⟩
def c196 : LCode := .seq (.reg [⟨some 6, .mv (.k (.ro 1 [] true)), none⟩])
   (.seq (.reg [⟨some 7, .mv (.k (.ro 1 [] true)), none⟩])
   (.seq (.seq (.reg [⟨some 10, .mv (.t 0), none⟩,
    ⟨some 11, .len (.t 10) false, none⟩,
    ⟨some 12, .mv (.k (.int .i64 0)), none⟩])
   (.block 0 (.loop (.seq (.reg [⟨some 13, .bin .lss (.t 12) (.t 11) 0, none⟩])
   (.seq (.cond (.t 13) (.skip) (.exit 0))
   (.seq (.block 1 (.seq (.reg [⟨some 14, .ix 2 (.t 10) (.t 12), none⟩,
    ⟨some 15, .ld (.t 14) 2 true, none⟩,
    ⟨some 9, .alloc [.int .i64 0, .int .i64 0], none⟩,
    ⟨none, .st (.t 9) (.t 15) 2, none⟩])
   (.seq (.reg [⟨some 16, .mv (.t 1), none⟩,
    ⟨some 17, .mv (.t 16), none⟩,
    ⟨some 18, .fa (.t 9) 0, some (17, false)⟩,
    ⟨some 19, .ld (.t 18) 1 false, some (17, false)⟩,
    ⟨some 20, .mv (.t 2), some (17, false)⟩,
    ⟨some 21, .bin .eql (.t 19) (.t 20) 0, some (17, false)⟩,
    ⟨some 22, .pick (.t 17) (.k (.bool true)) (.t 21), none⟩])
   (.cond (.t 22) (.reg [⟨some 23, .mv (.t 7), none⟩,
    ⟨some 24, .fa (.t 9) 1, none⟩,
    ⟨some 25, .ld (.t 24) 1 false, none⟩,
    ⟨some 26, .mks 1 [.t 25], none⟩,
    ⟨some 27, .app 1 8 (.t 23) (.t 26), none⟩,
    ⟨some 7, .mv (.t 27), none⟩]) (.skip)))))
   (.reg [⟨some 28, .bin .add (.t 12) (.k (.int .i64 1)) 0, none⟩,
    ⟨some 12, .mv (.t 28), none⟩])))))))
   (.seq (.reg [⟨some 29, .mv (.t 7), none⟩,
    ⟨some 6, .mv (.t 29), none⟩])
   (.ret))))
def k196 : FCode := ⟨30, c196, [.tmp 6], none⟩
def c197 : LCode := .seq (.reg [⟨some 6, .mv (.k (.raw (.pointer none))), none⟩])
   (.seq (.seq (.reg [⟨some 9, .mv (.t 2), none⟩,
    ⟨some 10, .bin .eql (.t 9) (.k (.int .i64 0)) 0, none⟩])
   (.cond (.t 10) (.seq (.reg [⟨some 11, .mv (.t 0), none⟩,
    ⟨some 6, .mv (.t 11), none⟩])
   (.ret)) (.skip)))
   (.seq (.reg [⟨some 12, .mv (.t 2), none⟩,
    ⟨some 13, .bin .sub (.t 12) (.k (.int .i64 1)) 0, none⟩,
    ⟨some 14, .bin .quo (.t 13) (.k (.int .i64 3)) 0, none⟩,
    ⟨some 7, .mv (.t 14), none⟩])
   (.seq (.seq (.reg [⟨some 15, .mv (.t 2), none⟩,
    ⟨some 16, .bin .lss (.t 15) (.k (.int .i64 0)) 0, none⟩,
    ⟨some 17, .mv (.t 16), none⟩,
    ⟨some 18, .mv (.t 7), some (17, false)⟩,
    ⟨some 19, .mv (.t 1), some (17, false)⟩,
    ⟨some 20, .len (.t 19) false, some (17, false)⟩,
    ⟨some 21, .bin .geq (.t 18) (.t 20) 0, some (17, false)⟩,
    ⟨some 22, .pick (.t 17) (.k (.bool true)) (.t 21), none⟩])
   (.cond (.t 22) (.seq (.reg [⟨some 6, .mv (.k (.raw (.pointer none))), none⟩])
   (.ret)) (.skip)))
   (.seq (.reg [⟨some 23, .mv (.t 1), none⟩,
    ⟨some 24, .mv (.t 7), none⟩,
    ⟨some 25, .ix 6 (.t 23) (.t 24), none⟩,
    ⟨some 8, .mv (.t 25), none⟩])
   (.seq (.dreg [] [⟨some 26, .mv (.t 8), none⟩,
    ⟨some 27, .nck (.t 26), none⟩,
    ⟨some 28, .fa (.t 27) 3, none⟩,
    ⟨some 29, .mv (.t 8), none⟩,
    ⟨some 30, .nck (.t 29), none⟩,
    ⟨some 31, .fa (.t 30) 4, none⟩,
    ⟨some 32, .mv (.t 8), none⟩,
    ⟨some 33, .nck (.t 32), none⟩,
    ⟨some 34, .fa (.t 33) 5, none⟩,
    ⟨some 35, .mks 1 [.t 28, .t 31, .t 34], none⟩,
    ⟨some 36, .mv (.t 2), none⟩,
    ⟨some 37, .bin .sub (.t 36) (.k (.int .i64 1)) 0, none⟩,
    ⟨some 38, .bin .rem (.t 37) (.k (.int .i64 3)) 0, none⟩,
    ⟨some 39, .ix 1 (.t 35) (.t 38), none⟩,
    ⟨some 40, .ld (.t 39) 1 false, none⟩,
    ⟨some 6, .mv (.t 40), none⟩])
   (.ret))))))
def k197 : FCode := ⟨41, c197, [.tmp 6], none⟩
def c198 : LCode := .seq (.reg [⟨some 2, .mv (.k (.ro 1 [] true)), none⟩])
   (.seq (.reg [⟨some 3, .mv (.k (.int .i64 0)), none⟩])
   (.seq (.seq (.reg [⟨some 9, .mv (.t 0), none⟩,
    ⟨some 10, .len (.t 9) false, none⟩,
    ⟨some 11, .mv (.k (.int .i64 0)), none⟩])
   (.block 0 (.loop (.seq (.reg [⟨some 12, .bin .lss (.t 11) (.t 10) 0, none⟩])
   (.seq (.cond (.t 12) (.skip) (.exit 0))
   (.seq (.block 1 (.seq (.reg [⟨some 13, .ix 1 (.t 9) (.t 11), none⟩,
    ⟨some 14, .ld (.t 13) 1 false, none⟩,
    ⟨some 5, .mv (.t 14), none⟩])
   (.seq (.reg [⟨some 15, .mv (.t 3), none⟩,
    ⟨some 16, .mv (.t 5), none⟩,
    ⟨some 17, .len (.t 16) false, none⟩,
    ⟨some 18, .bin .add (.t 15) (.t 17) 0, none⟩,
    ⟨some 3, .mv (.t 18), none⟩])
   (.seq (.reg [⟨some 19, .mv (.t 3), none⟩,
    ⟨some 20, .bin .lss (.t 19) (.k (.int .i64 0)) 0, none⟩])
   (.cond (.t 20) (.reg [⟨some 21, .bad, none⟩,
    ⟨none, .bad, none⟩]) (.skip))))))
   (.reg [⟨some 22, .bin .add (.t 11) (.k (.int .i64 1)) 0, none⟩,
    ⟨some 11, .mv (.t 22), none⟩])))))))
   (.seq (.reg [⟨some 23, .mv (.t 3), none⟩,
    ⟨some 24, .call 219 [.k (.ro 1 [] true), .t 23], none⟩,
    ⟨some 6, .mv (.t 24), none⟩])
   (.seq (.seq (.reg [⟨some 25, .mv (.t 0), none⟩,
    ⟨some 26, .len (.t 25) false, none⟩,
    ⟨some 27, .mv (.k (.int .i64 0)), none⟩])
   (.block 2 (.loop (.seq (.reg [⟨some 28, .bin .lss (.t 27) (.t 26) 0, none⟩])
   (.seq (.cond (.t 28) (.skip) (.exit 2))
   (.seq (.block 3 (.seq (.reg [⟨some 29, .ix 1 (.t 25) (.t 27), none⟩,
    ⟨some 30, .ld (.t 29) 1 false, none⟩,
    ⟨some 8, .mv (.t 30), none⟩])
   (.reg [⟨some 31, .mv (.t 6), none⟩,
    ⟨some 32, .mv (.t 8), none⟩,
    ⟨some 33, .app 1 8 (.t 31) (.t 32), none⟩,
    ⟨some 6, .mv (.t 33), none⟩])))
   (.reg [⟨some 34, .bin .add (.t 27) (.k (.int .i64 1)) 0, none⟩,
    ⟨some 27, .mv (.t 34), none⟩])))))))
   (.seq (.reg [⟨some 35, .mv (.t 6), none⟩,
    ⟨some 2, .mv (.t 35), none⟩])
   (.ret))))))
def k198 : FCode := ⟨36, c198, [.tmp 2], none⟩
def c199 : LCode := .seq (.reg [⟨some 2, .mv (.k (.bool false)), none⟩])
   (.seq (.reg [⟨some 3, .mv (.t 0), none⟩,
    ⟨some 4, .bin .geq (.t 3) (.k (.int .i64 (-1152921504606846976))) 0, none⟩,
    ⟨some 5, .mv (.t 4), none⟩,
    ⟨some 6, .mv (.t 0), some (5, true)⟩,
    ⟨some 7, .bin .leq (.t 6) (.k (.int .i64 1152921504606846976)) 0, some (5, true)⟩,
    ⟨some 8, .pick (.t 5) (.t 7) (.k (.bool false)), none⟩,
    ⟨some 2, .mv (.t 8), none⟩])
   (.ret))
def k199 : FCode := ⟨9, c199, [.tmp 2], none⟩
def c200 : LCode := .seq (.reg [⟨some 4, .mv (.k (.int .i64 0)), none⟩])
   (.seq (.seq (.reg [⟨some 6, .mv (.t 0), none⟩,
    ⟨some 7, .len (.t 6) false, none⟩,
    ⟨some 8, .mv (.k (.int .i64 0)), none⟩])
   (.block 0 (.loop (.seq (.reg [⟨some 9, .bin .lss (.t 8) (.t 7) 0, none⟩])
   (.seq (.cond (.t 9) (.skip) (.exit 0))
   (.seq (.block 1 (.seq (.reg [⟨some 10, .mv (.t 8), none⟩,
    ⟨some 5, .mv (.t 10), none⟩])
   (.seq (.reg [⟨some 11, .mv (.t 1), none⟩,
    ⟨some 12, .mv (.t 0), none⟩,
    ⟨some 13, .mv (.t 5), none⟩,
    ⟨some 14, .ix 3 (.t 12) (.t 13), none⟩,
    ⟨some 15, .ld (.t 14) 3 true, none⟩,
    ⟨some 16, .callv (.t 11) [.t 15], none⟩])
   (.cond (.t 16) (.seq (.reg [⟨some 17, .mv (.t 5), none⟩,
    ⟨some 4, .mv (.t 17), none⟩])
   (.ret)) (.skip)))))
   (.reg [⟨some 18, .bin .add (.t 8) (.k (.int .i64 1)) 0, none⟩,
    ⟨some 8, .mv (.t 18), none⟩])))))))
   (.seq (.reg [⟨some 4, .mv (.k (.int .i64 (-1))), none⟩])
   (.ret)))
def k200 : FCode := ⟨19, c200, [.tmp 4], none⟩
def c201 : LCode := .seq (.reg [⟨some 4, .mv (.k (.int .i64 0)), none⟩,
    ⟨some 5, .mv (.k (.bool false)), none⟩])
   (.seq (.reg [⟨some 9, .mv (.t 0), none⟩,
    ⟨some 10, .call 221 [.t 9], none⟩,
    ⟨some 11, .mv (.t 1), none⟩,
    ⟨some 12, .call 221 [.t 11], none⟩,
    ⟨some 13, .call 220 [.t 10, .t 12], none⟩,
    ⟨some 8, .mv (.t 13), none⟩,
    ⟨some 14, .ext (.t 8) 0, none⟩,
    ⟨some 15, .ext (.t 8) 1, none⟩,
    ⟨some 6, .mv (.t 14), none⟩,
    ⟨some 7, .mv (.t 15), none⟩])
   (.seq (.seq (.reg [⟨some 16, .mv (.t 6), none⟩,
    ⟨some 17, .bin .gtr (.t 16) (.k (.int .u64 0)) 0, none⟩,
    ⟨some 18, .mv (.t 17), none⟩,
    ⟨some 19, .mv (.t 7), some (18, false)⟩,
    ⟨some 20, .bin .gtr (.t 19) (.k (.int .u64 1152921504606846976)) 0, some (18, false)⟩,
    ⟨some 21, .pick (.t 18) (.k (.bool true)) (.t 20), none⟩])
   (.cond (.t 21) (.seq (.reg [⟨some 4, .mv (.k (.int .i64 0)), none⟩,
    ⟨some 5, .mv (.k (.bool false)), none⟩])
   (.ret)) (.skip)))
   (.seq (.seq (.reg [⟨some 22, .mv (.t 0), none⟩,
    ⟨some 23, .bin .lss (.t 22) (.k (.int .i64 0)) 0, none⟩,
    ⟨some 24, .mv (.t 1), none⟩,
    ⟨some 25, .bin .lss (.t 24) (.k (.int .i64 0)) 0, none⟩,
    ⟨some 26, .bin .neq (.t 23) (.t 25) 100, none⟩])
   (.cond (.t 26) (.seq (.reg [⟨some 27, .mv (.t 7), none⟩,
    ⟨some 28, .conv .i64 (.t 27), none⟩,
    ⟨some 29, .un .neg (.t 28), none⟩,
    ⟨some 4, .mv (.t 29), none⟩,
    ⟨some 5, .mv (.k (.bool true)), none⟩])
   (.ret)) (.skip)))
   (.seq (.reg [⟨some 30, .mv (.t 7), none⟩,
    ⟨some 31, .conv .i64 (.t 30), none⟩,
    ⟨some 4, .mv (.t 31), none⟩,
    ⟨some 5, .mv (.k (.bool true)), none⟩])
   (.ret)))))
def k201 : FCode := ⟨32, c201, [.tmp 4, .tmp 5], none⟩
def c202 : LCode := .seq (.reg [⟨some 10, .mv (.t 1), none⟩,
    ⟨some 11, .bin .add (.t 10) (.k (.int .i64 1)) 0, none⟩,
    ⟨some 8, .mv (.t 11), none⟩])
   (.block 0 (.loop (.seq (.seq (.reg [⟨some 12, .mv (.t 8), none⟩,
    ⟨some 13, .mv (.t 2), none⟩,
    ⟨some 14, .bin .lss (.t 12) (.t 13) 0, none⟩])
   (.cond (.t 14) (.skip) (.exit 0)))
   (.seq (.block 1 (.seq (.reg [⟨some 17, .mv (.t 8), none⟩,
    ⟨some 9, .mv (.t 17), none⟩])
   (.block 2 (.loop (.seq (.seq (.dreg [] [⟨some 18, .mv (.t 9), none⟩,
    ⟨some 19, .mv (.t 1), none⟩,
    ⟨some 20, .bin .gtr (.t 18) (.t 19) 0, none⟩,
    ⟨some 21, .mv (.t 20), none⟩,
    ⟨some 22, .mv (.t 3), some (21, true)⟩,
    ⟨some 23, .mv (.t 0), some (21, true)⟩,
    ⟨some 24, .mv (.t 9), some (21, true)⟩,
    ⟨some 25, .ix 12 (.t 23) (.t 24), some (21, true)⟩,
    ⟨some 26, .ld (.t 25) 12 true, some (21, true)⟩,
    ⟨some 27, .mv (.t 0), some (21, true)⟩,
    ⟨some 28, .mv (.t 9), some (21, true)⟩,
    ⟨some 29, .bin .sub (.t 28) (.k (.int .i64 1)) 0, some (21, true)⟩,
    ⟨some 30, .ix 12 (.t 27) (.t 29), some (21, true)⟩,
    ⟨some 31, .ld (.t 30) 12 true, some (21, true)⟩,
    ⟨some 32, .callv (.t 22) [.t 26, .t 31], some (21, true)⟩,
    ⟨some 33, .bin .lss (.t 32) (.k (.int .i64 0)) 0, some (21, true)⟩,
    ⟨some 34, .pick (.t 21) (.t 33) (.k (.bool false)), none⟩])
   (.cond (.t 34) (.skip) (.exit 2)))
   (.seq (.block 3 (.dreg [] [⟨some 37, .mv (.t 0), none⟩,
    ⟨some 38, .mv (.t 9), none⟩,
    ⟨some 39, .mv (.t 0), none⟩,
    ⟨some 40, .mv (.t 9), none⟩,
    ⟨some 41, .bin .sub (.t 40) (.k (.int .i64 1)) 0, none⟩,
    ⟨some 42, .mv (.t 0), none⟩,
    ⟨some 43, .mv (.t 9), none⟩,
    ⟨some 44, .bin .sub (.t 43) (.k (.int .i64 1)) 0, none⟩,
    ⟨some 45, .ix 12 (.t 42) (.t 44), none⟩,
    ⟨some 46, .ld (.t 45) 12 true, none⟩,
    ⟨some 47, .mv (.t 0), none⟩,
    ⟨some 48, .mv (.t 9), none⟩,
    ⟨some 49, .ix 12 (.t 47) (.t 48), none⟩,
    ⟨some 50, .ld (.t 49) 12 true, none⟩,
    ⟨some 51, .ix 12 (.t 37) (.t 38), none⟩,
    ⟨none, .st (.t 51) (.t 46) 12, none⟩,
    ⟨some 52, .ix 12 (.t 39) (.t 41), none⟩,
    ⟨none, .st (.t 52) (.t 50) 12, none⟩]))
   (.reg [⟨some 35, .mv (.t 9), none⟩,
    ⟨some 36, .bin .sub (.t 35) (.k (.int .i64 1)) 0, none⟩,
    ⟨some 9, .mv (.t 36), none⟩])))))))
   (.reg [⟨some 15, .mv (.t 8), none⟩,
    ⟨some 16, .bin .add (.t 15) (.k (.int .i64 1)) 0, none⟩,
    ⟨some 8, .mv (.t 16), none⟩])))))
def k202 : FCode := ⟨53, c202, [], none⟩
def c203 : LCode := .seq (.seq (.reg [⟨some 25, .mv (.t 2), none⟩,
    ⟨some 26, .mv (.t 1), none⟩,
    ⟨some 27, .bin .sub (.t 25) (.t 26) 0, none⟩,
    ⟨some 28, .bin .eql (.t 27) (.k (.int .i64 1)) 0, none⟩])
   (.cond (.t 28) (.seq (.reg [⟨some 29, .mv (.t 2), none⟩,
    ⟨some 10, .mv (.t 29), none⟩])
   (.seq (.reg [⟨some 30, .mv (.t 3), none⟩,
    ⟨some 11, .mv (.t 30), none⟩])
   (.seq (.block 0 (.loop (.seq (.seq (.reg [⟨some 31, .mv (.t 10), none⟩,
    ⟨some 32, .mv (.t 11), none⟩,
    ⟨some 33, .bin .lss (.t 31) (.t 32) 0, none⟩])
   (.cond (.t 33) (.skip) (.exit 0)))
   (.block 1 (.seq (.reg [⟨some 34, .mv (.t 10), none⟩,
    ⟨some 35, .mv (.t 11), none⟩,
    ⟨some 36, .bin .add (.t 34) (.t 35) 0, none⟩,
    ⟨some 37, .conv .u64 (.t 36), none⟩,
    ⟨some 38, .bin .shr (.t 37) (.k (.int .u64 1)) 0, none⟩,
    ⟨some 39, .conv .i64 (.t 38), none⟩,
    ⟨some 12, .mv (.t 39), none⟩])
   (.seq (.dreg [] [⟨some 40, .mv (.t 4), none⟩,
    ⟨some 41, .mv (.t 0), none⟩,
    ⟨some 42, .mv (.t 12), none⟩,
    ⟨some 43, .ix 12 (.t 41) (.t 42), none⟩,
    ⟨some 44, .ld (.t 43) 12 true, none⟩,
    ⟨some 45, .mv (.t 0), none⟩,
    ⟨some 46, .mv (.t 1), none⟩,
    ⟨some 47, .ix 12 (.t 45) (.t 46), none⟩,
    ⟨some 48, .ld (.t 47) 12 true, none⟩,
    ⟨some 49, .callv (.t 40) [.t 44, .t 48], none⟩,
    ⟨some 50, .bin .lss (.t 49) (.k (.int .i64 0)) 0, none⟩])
   (.cond (.t 50) (.reg [⟨some 51, .mv (.t 12), none⟩,
    ⟨some 52, .bin .add (.t 51) (.k (.int .i64 1)) 0, none⟩,
    ⟨some 10, .mv (.t 52), none⟩]) (.reg [⟨some 53, .mv (.t 12), none⟩,
    ⟨some 11, .mv (.t 53), none⟩]))))))))
   (.seq (.seq (.reg [⟨some 54, .mv (.t 1), none⟩,
    ⟨some 13, .mv (.t 54), none⟩])
   (.block 2 (.loop (.seq (.seq (.reg [⟨some 55, .mv (.t 13), none⟩,
    ⟨some 56, .mv (.t 10), none⟩,
    ⟨some 57, .bin .sub (.t 56) (.k (.int .i64 1)) 0, none⟩,
    ⟨some 58, .bin .lss (.t 55) (.t 57) 0, none⟩])
   (.cond (.t 58) (.skip) (.exit 2)))
   (.seq (.block 3 (.dreg [] [⟨some 61, .mv (.t 0), none⟩,
    ⟨some 62, .mv (.t 13), none⟩,
    ⟨some 63, .mv (.t 0), none⟩,
    ⟨some 64, .mv (.t 13), none⟩,
    ⟨some 65, .bin .add (.t 64) (.k (.int .i64 1)) 0, none⟩,
    ⟨some 66, .mv (.t 0), none⟩,
    ⟨some 67, .mv (.t 13), none⟩,
    ⟨some 68, .bin .add (.t 67) (.k (.int .i64 1)) 0, none⟩,
    ⟨some 69, .ix 12 (.t 66) (.t 68), none⟩,
    ⟨some 70, .ld (.t 69) 12 true, none⟩,
    ⟨some 71, .mv (.t 0), none⟩,
    ⟨some 72, .mv (.t 13), none⟩,
    ⟨some 73, .ix 12 (.t 71) (.t 72), none⟩,
    ⟨some 74, .ld (.t 73) 12 true, none⟩,
    ⟨some 75, .ix 12 (.t 61) (.t 62), none⟩,
    ⟨none, .st (.t 75) (.t 70) 12, none⟩,
    ⟨some 76, .ix 12 (.t 63) (.t 65), none⟩,
    ⟨none, .st (.t 76) (.t 74) 12, none⟩]))
   (.reg [⟨some 59, .mv (.t 13), none⟩,
    ⟨some 60, .bin .add (.t 59) (.k (.int .i64 1)) 0, none⟩,
    ⟨some 13, .mv (.t 60), none⟩]))))))
   (.ret))))) (.skip)))
   (.seq (.seq (.reg [⟨some 77, .mv (.t 3), none⟩,
    ⟨some 78, .mv (.t 2), none⟩,
    ⟨some 79, .bin .sub (.t 77) (.t 78) 0, none⟩,
    ⟨some 80, .bin .eql (.t 79) (.k (.int .i64 1)) 0, none⟩])
   (.cond (.t 80) (.seq (.reg [⟨some 81, .mv (.t 1), none⟩,
    ⟨some 14, .mv (.t 81), none⟩])
   (.seq (.reg [⟨some 82, .mv (.t 2), none⟩,
    ⟨some 15, .mv (.t 82), none⟩])
   (.seq (.block 4 (.loop (.seq (.seq (.reg [⟨some 83, .mv (.t 14), none⟩,
    ⟨some 84, .mv (.t 15), none⟩,
    ⟨some 85, .bin .lss (.t 83) (.t 84) 0, none⟩])
   (.cond (.t 85) (.skip) (.exit 4)))
   (.block 5 (.seq (.reg [⟨some 86, .mv (.t 14), none⟩,
    ⟨some 87, .mv (.t 15), none⟩,
    ⟨some 88, .bin .add (.t 86) (.t 87) 0, none⟩,
    ⟨some 89, .conv .u64 (.t 88), none⟩,
    ⟨some 90, .bin .shr (.t 89) (.k (.int .u64 1)) 0, none⟩,
    ⟨some 91, .conv .i64 (.t 90), none⟩,
    ⟨some 16, .mv (.t 91), none⟩])
   (.seq (.dreg [] [⟨some 92, .mv (.t 4), none⟩,
    ⟨some 93, .mv (.t 0), none⟩,
    ⟨some 94, .mv (.t 2), none⟩,
    ⟨some 95, .ix 12 (.t 93) (.t 94), none⟩,
    ⟨some 96, .ld (.t 95) 12 true, none⟩,
    ⟨some 97, .mv (.t 0), none⟩,
    ⟨some 98, .mv (.t 16), none⟩,
    ⟨some 99, .ix 12 (.t 97) (.t 98), none⟩,
    ⟨some 100, .ld (.t 99) 12 true, none⟩,
    ⟨some 101, .callv (.t 92) [.t 96, .t 100], none⟩,
    ⟨some 102, .bin .lss (.t 101) (.k (.int .i64 0)) 0, none⟩,
    ⟨some 103, .un .not (.t 102), none⟩])
   (.cond (.t 103) (.reg [⟨some 104, .mv (.t 16), none⟩,
    ⟨some 105, .bin .add (.t 104) (.k (.int .i64 1)) 0, none⟩,
    ⟨some 14, .mv (.t 105), none⟩]) (.reg [⟨some 106, .mv (.t 16), none⟩,
    ⟨some 15, .mv (.t 106), none⟩]))))))))
   (.seq (.seq (.reg [⟨some 107, .mv (.t 2), none⟩,
    ⟨some 17, .mv (.t 107), none⟩])
   (.block 6 (.loop (.seq (.seq (.reg [⟨some 108, .mv (.t 17), none⟩,
    ⟨some 109, .mv (.t 14), none⟩,
    ⟨some 110, .bin .gtr (.t 108) (.t 109) 0, none⟩])
   (.cond (.t 110) (.skip) (.exit 6)))
   (.seq (.block 7 (.dreg [] [⟨some 113, .mv (.t 0), none⟩,
    ⟨some 114, .mv (.t 17), none⟩,
    ⟨some 115, .mv (.t 0), none⟩,
    ⟨some 116, .mv (.t 17), none⟩,
    ⟨some 117, .bin .sub (.t 116) (.k (.int .i64 1)) 0, none⟩,
    ⟨some 118, .mv (.t 0), none⟩,
    ⟨some 119, .mv (.t 17), none⟩,
    ⟨some 120, .bin .sub (.t 119) (.k (.int .i64 1)) 0, none⟩,
    ⟨some 121, .ix 12 (.t 118) (.t 120), none⟩,
    ⟨some 122, .ld (.t 121) 12 true, none⟩,
    ⟨some 123, .mv (.t 0), none⟩,
    ⟨some 124, .mv (.t 17), none⟩,
    ⟨some 125, .ix 12 (.t 123) (.t 124), none⟩,
    ⟨some 126, .ld (.t 125) 12 true, none⟩,
    ⟨some 127, .ix 12 (.t 113) (.t 114), none⟩,
    ⟨none, .st (.t 127) (.t 122) 12, none⟩,
    ⟨some 128, .ix 12 (.t 115) (.t 117), none⟩,
    ⟨none, .st (.t 128) (.t 126) 12, none⟩]))
   (.reg [⟨some 111, .mv (.t 17), none⟩,
    ⟨some 112, .bin .sub (.t 111) (.k (.int .i64 1)) 0, none⟩,
    ⟨some 17, .mv (.t 112), none⟩]))))))
   (.ret))))) (.skip)))
   (.seq (.reg [⟨some 129, .mv (.t 1), none⟩,
    ⟨some 130, .mv (.t 3), none⟩,
    ⟨some 131, .bin .add (.t 129) (.t 130) 0, none⟩,
    ⟨some 132, .conv .u64 (.t 131), none⟩,
    ⟨some 133, .bin .shr (.t 132) (.k (.int .u64 1)) 0, none⟩,
    ⟨some 134, .conv .i64 (.t 133), none⟩,
    ⟨some 18, .mv (.t 134), none⟩])
   (.seq (.reg [⟨some 135, .mv (.t 18), none⟩,
    ⟨some 136, .mv (.t 2), none⟩,
    ⟨some 137, .bin .add (.t 135) (.t 136) 0, none⟩,
    ⟨some 19, .mv (.t 137), none⟩])
   (.seq (.reg [⟨some 20, .mv (.k (.int .i64 0)), none⟩,
    ⟨some 21, .mv (.k (.int .i64 0)), none⟩])
   (.seq (.seq (.reg [⟨some 138, .mv (.t 2), none⟩,
    ⟨some 139, .mv (.t 18), none⟩,
    ⟨some 140, .bin .gtr (.t 138) (.t 139) 0, none⟩])
   (.cond (.t 140) (.seq (.reg [⟨some 141, .mv (.t 19), none⟩,
    ⟨some 142, .mv (.t 3), none⟩,
    ⟨some 143, .bin .sub (.t 141) (.t 142) 0, none⟩,
    ⟨some 20, .mv (.t 143), none⟩])
   (.reg [⟨some 144, .mv (.t 18), none⟩,
    ⟨some 21, .mv (.t 144), none⟩])) (.seq (.reg [⟨some 145, .mv (.t 1), none⟩,
    ⟨some 20, .mv (.t 145), none⟩])
   (.reg [⟨some 146, .mv (.t 2), none⟩,
    ⟨some 21, .mv (.t 146), none⟩]))))
   (.seq (.reg [⟨some 147, .mv (.t 19), none⟩,
    ⟨some 148, .bin .sub (.t 147) (.k (.int .i64 1)) 0, none⟩,
    ⟨some 22, .mv (.t 148), none⟩])
   (.seq (.block 8 (.loop (.seq (.seq (.reg [⟨some 149, .mv (.t 20), none⟩,
    ⟨some 150, .mv (.t 21), none⟩,
    ⟨some 151, .bin .lss (.t 149) (.t 150) 0, none⟩])
   (.cond (.t 151) (.skip) (.exit 8)))
   (.block 9 (.seq (.reg [⟨some 152, .mv (.t 20), none⟩,
    ⟨some 153, .mv (.t 21), none⟩,
    ⟨some 154, .bin .add (.t 152) (.t 153) 0, none⟩,
    ⟨some 155, .conv .u64 (.t 154), none⟩,
    ⟨some 156, .bin .shr (.t 155) (.k (.int .u64 1)) 0, none⟩,
    ⟨some 157, .conv .i64 (.t 156), none⟩,
    ⟨some 23, .mv (.t 157), none⟩])
   (.seq (.dreg [] [⟨some 158, .mv (.t 4), none⟩,
    ⟨some 159, .mv (.t 0), none⟩,
    ⟨some 160, .mv (.t 22), none⟩,
    ⟨some 161, .mv (.t 23), none⟩,
    ⟨some 162, .bin .sub (.t 160) (.t 161) 0, none⟩,
    ⟨some 163, .ix 12 (.t 159) (.t 162), none⟩,
    ⟨some 164, .ld (.t 163) 12 true, none⟩,
    ⟨some 165, .mv (.t 0), none⟩,
    ⟨some 166, .mv (.t 23), none⟩,
    ⟨some 167, .ix 12 (.t 165) (.t 166), none⟩,
    ⟨some 168, .ld (.t 167) 12 true, none⟩,
    ⟨some 169, .callv (.t 158) [.t 164, .t 168], none⟩,
    ⟨some 170, .bin .lss (.t 169) (.k (.int .i64 0)) 0, none⟩,
    ⟨some 171, .un .not (.t 170), none⟩])
   (.cond (.t 171) (.reg [⟨some 172, .mv (.t 23), none⟩,
    ⟨some 173, .bin .add (.t 172) (.k (.int .i64 1)) 0, none⟩,
    ⟨some 20, .mv (.t 173), none⟩]) (.reg [⟨some 174, .mv (.t 23), none⟩,
    ⟨some 21, .mv (.t 174), none⟩]))))))))
   (.seq (.reg [⟨some 175, .mv (.t 19), none⟩,
    ⟨some 176, .mv (.t 20), none⟩,
    ⟨some 177, .bin .sub (.t 175) (.t 176) 0, none⟩,
    ⟨some 24, .mv (.t 177), none⟩])
   (.seq (.seq (.reg [⟨some 178, .mv (.t 20), none⟩,
    ⟨some 179, .mv (.t 2), none⟩,
    ⟨some 180, .bin .lss (.t 178) (.t 179) 0, none⟩,
    ⟨some 181, .mv (.t 180), none⟩,
    ⟨some 182, .mv (.t 2), some (181, true)⟩,
    ⟨some 183, .mv (.t 24), some (181, true)⟩,
    ⟨some 184, .bin .lss (.t 182) (.t 183) 0, some (181, true)⟩,
    ⟨some 185, .pick (.t 181) (.t 184) (.k (.bool false)), none⟩])
   (.cond (.t 185) (.reg [⟨some 186, .mv (.t 0), none⟩,
    ⟨some 187, .mv (.t 20), none⟩,
    ⟨some 188, .mv (.t 2), none⟩,
    ⟨some 189, .mv (.t 24), none⟩,
    ⟨some 190, .mv (.t 4), none⟩,
    ⟨some 191, .call 222 [.t 186, .t 187, .t 188, .t 189, .t 190], none⟩]) (.skip)))
   (.seq (.seq (.reg [⟨some 192, .mv (.t 1), none⟩,
    ⟨some 193, .mv (.t 20), none⟩,
    ⟨some 194, .bin .lss (.t 192) (.t 193) 0, none⟩,
    ⟨some 195, .mv (.t 194), none⟩,
    ⟨some 196, .mv (.t 20), some (195, true)⟩,
    ⟨some 197, .mv (.t 18), some (195, true)⟩,
    ⟨some 198, .bin .lss (.t 196) (.t 197) 0, some (195, true)⟩,
    ⟨some 199, .pick (.t 195) (.t 198) (.k (.bool false)), none⟩])
   (.cond (.t 199) (.reg [⟨some 200, .mv (.t 0), none⟩,
    ⟨some 201, .mv (.t 1), none⟩,
    ⟨some 202, .mv (.t 20), none⟩,
    ⟨some 203, .mv (.t 18), none⟩,
    ⟨some 204, .mv (.t 4), none⟩,
    ⟨some 205, .call 203 [.t 200, .t 201, .t 202, .t 203, .t 204], none⟩]) (.skip)))
   (.seq (.reg [⟨some 206, .mv (.t 18), none⟩,
    ⟨some 207, .mv (.t 24), none⟩,
    ⟨some 208, .bin .lss (.t 206) (.t 207) 0, none⟩,
    ⟨some 209, .mv (.t 208), none⟩,
    ⟨some 210, .mv (.t 24), some (209, true)⟩,
    ⟨some 211, .mv (.t 3), some (209, true)⟩,
    ⟨some 212, .bin .lss (.t 210) (.t 211) 0, some (209, true)⟩,
    ⟨some 213, .pick (.t 209) (.t 212) (.k (.bool false)), none⟩])
   (.cond (.t 213) (.reg [⟨some 214, .mv (.t 0), none⟩,
    ⟨some 215, .mv (.t 18), none⟩,
    ⟨some 216, .mv (.t 24), none⟩,
    ⟨some 217, .mv (.t 3), none⟩,
    ⟨some 218, .mv (.t 4), none⟩,
    ⟨some 219, .call 203 [.t 214, .t 215, .t 216, .t 217, .t 218], none⟩]) (.skip)))))))))))))
def k203 : FCode := ⟨220, c203, [], none⟩
def c204 : LCode := .seq (.reg [⟨some 10, .mv (.t 1), none⟩,
    ⟨some 11, .bin .add (.t 10) (.k (.int .i64 1)) 0, none⟩,
    ⟨some 8, .mv (.t 11), none⟩])
   (.block 0 (.loop (.seq (.seq (.reg [⟨some 12, .mv (.t 8), none⟩,
    ⟨some 13, .mv (.t 2), none⟩,
    ⟨some 14, .bin .lss (.t 12) (.t 13) 0, none⟩])
   (.cond (.t 14) (.skip) (.exit 0)))
   (.seq (.block 1 (.seq (.reg [⟨some 17, .mv (.t 8), none⟩,
    ⟨some 9, .mv (.t 17), none⟩])
   (.block 2 (.loop (.seq (.seq (.dreg [] [⟨some 18, .mv (.t 9), none⟩,
    ⟨some 19, .mv (.t 1), none⟩,
    ⟨some 20, .bin .gtr (.t 18) (.t 19) 0, none⟩,
    ⟨some 21, .mv (.t 20), none⟩,
    ⟨some 22, .mv (.t 3), some (21, true)⟩,
    ⟨some 23, .mv (.t 0), some (21, true)⟩,
    ⟨some 24, .mv (.t 9), some (21, true)⟩,
    ⟨some 25, .ix 1 (.t 23) (.t 24), some (21, true)⟩,
    ⟨some 26, .ld (.t 25) 1 false, some (21, true)⟩,
    ⟨some 27, .mv (.t 0), some (21, true)⟩,
    ⟨some 28, .mv (.t 9), some (21, true)⟩,
    ⟨some 29, .bin .sub (.t 28) (.k (.int .i64 1)) 0, some (21, true)⟩,
    ⟨some 30, .ix 1 (.t 27) (.t 29), some (21, true)⟩,
    ⟨some 31, .ld (.t 30) 1 false, some (21, true)⟩,
    ⟨some 32, .callv (.t 22) [.t 26, .t 31], some (21, true)⟩,
    ⟨some 33, .bin .lss (.t 32) (.k (.int .i64 0)) 0, some (21, true)⟩,
    ⟨some 34, .pick (.t 21) (.t 33) (.k (.bool false)), none⟩])
   (.cond (.t 34) (.skip) (.exit 2)))
   (.seq (.block 3 (.dreg [] [⟨some 37, .mv (.t 0), none⟩,
    ⟨some 38, .mv (.t 9), none⟩,
    ⟨some 39, .mv (.t 0), none⟩,
    ⟨some 40, .mv (.t 9), none⟩,
    ⟨some 41, .bin .sub (.t 40) (.k (.int .i64 1)) 0, none⟩,
    ⟨some 42, .mv (.t 0), none⟩,
    ⟨some 43, .mv (.t 9), none⟩,
    ⟨some 44, .bin .sub (.t 43) (.k (.int .i64 1)) 0, none⟩,
    ⟨some 45, .ix 1 (.t 42) (.t 44), none⟩,
    ⟨some 46, .ld (.t 45) 1 false, none⟩,
    ⟨some 47, .mv (.t 0), none⟩,
    ⟨some 48, .mv (.t 9), none⟩,
    ⟨some 49, .ix 1 (.t 47) (.t 48), none⟩,
    ⟨some 50, .ld (.t 49) 1 false, none⟩,
    ⟨some 51, .ix 1 (.t 37) (.t 38), none⟩,
    ⟨none, .st (.t 51) (.t 46) 1, none⟩,
    ⟨some 52, .ix 1 (.t 39) (.t 41), none⟩,
    ⟨none, .st (.t 52) (.t 50) 1, none⟩]))
   (.reg [⟨some 35, .mv (.t 9), none⟩,
    ⟨some 36, .bin .sub (.t 35) (.k (.int .i64 1)) 0, none⟩,
    ⟨some 9, .mv (.t 36), none⟩])))))))
   (.reg [⟨some 15, .mv (.t 8), none⟩,
    ⟨some 16, .bin .add (.t 15) (.k (.int .i64 1)) 0, none⟩,
    ⟨some 8, .mv (.t 16), none⟩])))))
def k204 : FCode := ⟨53, c204, [], none⟩
def c205 : LCode := .seq (.seq (.reg [⟨some 25, .mv (.t 2), none⟩,
    ⟨some 26, .mv (.t 1), none⟩,
    ⟨some 27, .bin .sub (.t 25) (.t 26) 0, none⟩,
    ⟨some 28, .bin .eql (.t 27) (.k (.int .i64 1)) 0, none⟩])
   (.cond (.t 28) (.seq (.reg [⟨some 29, .mv (.t 2), none⟩,
    ⟨some 10, .mv (.t 29), none⟩])
   (.seq (.reg [⟨some 30, .mv (.t 3), none⟩,
    ⟨some 11, .mv (.t 30), none⟩])
   (.seq (.block 0 (.loop (.seq (.seq (.reg [⟨some 31, .mv (.t 10), none⟩,
    ⟨some 32, .mv (.t 11), none⟩,
    ⟨some 33, .bin .lss (.t 31) (.t 32) 0, none⟩])
   (.cond (.t 33) (.skip) (.exit 0)))
   (.block 1 (.seq (.reg [⟨some 34, .mv (.t 10), none⟩,
    ⟨some 35, .mv (.t 11), none⟩,
    ⟨some 36, .bin .add (.t 34) (.t 35) 0, none⟩,
    ⟨some 37, .conv .u64 (.t 36), none⟩,
    ⟨some 38, .bin .shr (.t 37) (.k (.int .u64 1)) 0, none⟩,
    ⟨some 39, .conv .i64 (.t 38), none⟩,
    ⟨some 12, .mv (.t 39), none⟩])
   (.seq (.dreg [] [⟨some 40, .mv (.t 4), none⟩,
    ⟨some 41, .mv (.t 0), none⟩,
    ⟨some 42, .mv (.t 12), none⟩,
    ⟨some 43, .ix 1 (.t 41) (.t 42), none⟩,
    ⟨some 44, .ld (.t 43) 1 false, none⟩,
    ⟨some 45, .mv (.t 0), none⟩,
    ⟨some 46, .mv (.t 1), none⟩,
    ⟨some 47, .ix 1 (.t 45) (.t 46), none⟩,
    ⟨some 48, .ld (.t 47) 1 false, none⟩,
    ⟨some 49, .callv (.t 40) [.t 44, .t 48], none⟩,
    ⟨some 50, .bin .lss (.t 49) (.k (.int .i64 0)) 0, none⟩])
   (.cond (.t 50) (.reg [⟨some 51, .mv (.t 12), none⟩,
    ⟨some 52, .bin .add (.t 51) (.k (.int .i64 1)) 0, none⟩,
    ⟨some 10, .mv (.t 52), none⟩]) (.reg [⟨some 53, .mv (.t 12), none⟩,
    ⟨some 11, .mv (.t 53), none⟩]))))))))
   (.seq (.seq (.reg [⟨some 54, .mv (.t 1), none⟩,
    ⟨some 13, .mv (.t 54), none⟩])
   (.block 2 (.loop (.seq (.seq (.reg [⟨some 55, .mv (.t 13), none⟩,
    ⟨some 56, .mv (.t 10), none⟩,
    ⟨some 57, .bin .sub (.t 56) (.k (.int .i64 1)) 0, none⟩,
    ⟨some 58, .bin .lss (.t 55) (.t 57) 0, none⟩])
   (.cond (.t 58) (.skip) (.exit 2)))
   (.seq (.block 3 (.dreg [] [⟨some 61, .mv (.t 0), none⟩,
    ⟨some 62, .mv (.t 13), none⟩,
    ⟨some 63, .mv (.t 0), none⟩,
    ⟨some 64, .mv (.t 13), none⟩,
    ⟨some 65, .bin .add (.t 64) (.k (.int .i64 1)) 0, none⟩,
    ⟨some 66, .mv (.t 0), none⟩,
    ⟨some 67, .mv (.t 13), none⟩,
    ⟨some 68, .bin .add (.t 67) (.k (.int .i64 1)) 0, none⟩,
    ⟨some 69, .ix 1 (.t 66) (.t 68), none⟩,
    ⟨some 70, .ld (.t 69) 1 false, none⟩,
    ⟨some 71, .mv (.t 0), none⟩,
    ⟨some 72, .mv (.t 13), none⟩,
    ⟨some 73, .ix 1 (.t 71) (.t 72), none⟩,
    ⟨some 74, .ld (.t 73) 1 false, none⟩,
    ⟨some 75, .ix 1 (.t 61) (.t 62), none⟩,
    ⟨none, .st (.t 75) (.t 70) 1, none⟩,
    ⟨some 76, .ix 1 (.t 63) (.t 65), none⟩,
    ⟨none, .st (.t 76) (.t 74) 1, none⟩]))
   (.reg [⟨some 59, .mv (.t 13), none⟩,
    ⟨some 60, .bin .add (.t 59) (.k (.int .i64 1)) 0, none⟩,
    ⟨some 13, .mv (.t 60), none⟩]))))))
   (.ret))))) (.skip)))
   (.seq (.seq (.reg [⟨some 77, .mv (.t 3), none⟩,
    ⟨some 78, .mv (.t 2), none⟩,
    ⟨some 79, .bin .sub (.t 77) (.t 78) 0, none⟩,
    ⟨some 80, .bin .eql (.t 79) (.k (.int .i64 1)) 0, none⟩])
   (.cond (.t 80) (.seq (.reg [⟨some 81, .mv (.t 1), none⟩,
    ⟨some 14, .mv (.t 81), none⟩])
   (.seq (.reg [⟨some 82, .mv (.t 2), none⟩,
    ⟨some 15, .mv (.t 82), none⟩])
   (.seq (.block 4 (.loop (.seq (.seq (.reg [⟨some 83, .mv (.t 14), none⟩,
    ⟨some 84, .mv (.t 15), none⟩,
    ⟨some 85, .bin .lss (.t 83) (.t 84) 0, none⟩])
   (.cond (.t 85) (.skip) (.exit 4)))
   (.block 5 (.seq (.reg [⟨some 86, .mv (.t 14), none⟩,
    ⟨some 87, .mv (.t 15), none⟩,
    ⟨some 88, .bin .add (.t 86) (.t 87) 0, none⟩,
    ⟨some 89, .conv .u64 (.t 88), none⟩,
    ⟨some 90, .bin .shr (.t 89) (.k (.int .u64 1)) 0, none⟩,
    ⟨some 91, .conv .i64 (.t 90), none⟩,
    ⟨some 16, .mv (.t 91), none⟩])
   (.seq (.dreg [] [⟨some 92, .mv (.t 4), none⟩,
    ⟨some 93, .mv (.t 0), none⟩,
    ⟨some 94, .mv (.t 2), none⟩,
    ⟨some 95, .ix 1 (.t 93) (.t 94), none⟩,
    ⟨some 96, .ld (.t 95) 1 false, none⟩,
    ⟨some 97, .mv (.t 0), none⟩,
    ⟨some 98, .mv (.t 16), none⟩,
    ⟨some 99, .ix 1 (.t 97) (.t 98), none⟩,
    ⟨some 100, .ld (.t 99) 1 false, none⟩,
    ⟨some 101, .callv (.t 92) [.t 96, .t 100], none⟩,
    ⟨some 102, .bin .lss (.t 101) (.k (.int .i64 0)) 0, none⟩,
    ⟨some 103, .un .not (.t 102), none⟩])
   (.cond (.t 103) (.reg [⟨some 104, .mv (.t 16), none⟩,
    ⟨some 105, .bin .add (.t 104) (.k (.int .i64 1)) 0, none⟩,
    ⟨some 14, .mv (.t 105), none⟩]) (.reg [⟨some 106, .mv (.t 16), none⟩,
    ⟨some 15, .mv (.t 106), none⟩]))))))))
   (.seq (.seq (.reg [⟨some 107, .mv (.t 2), none⟩,
    ⟨some 17, .mv (.t 107), none⟩])
   (.block 6 (.loop (.seq (.seq (.reg [⟨some 108, .mv (.t 17), none⟩,
    ⟨some 109, .mv (.t 14), none⟩,
    ⟨some 110, .bin .gtr (.t 108) (.t 109) 0, none⟩])
   (.cond (.t 110) (.skip) (.exit 6)))
   (.seq (.block 7 (.dreg [] [⟨some 113, .mv (.t 0), none⟩,
    ⟨some 114, .mv (.t 17), none⟩,
    ⟨some 115, .mv (.t 0), none⟩,
    ⟨some 116, .mv (.t 17), none⟩,
    ⟨some 117, .bin .sub (.t 116) (.k (.int .i64 1)) 0, none⟩,
    ⟨some 118, .mv (.t 0), none⟩,
    ⟨some 119, .mv (.t 17), none⟩,
    ⟨some 120, .bin .sub (.t 119) (.k (.int .i64 1)) 0, none⟩,
    ⟨some 121, .ix 1 (.t 118) (.t 120), none⟩,
    ⟨some 122, .ld (.t 121) 1 false, none⟩,
    ⟨some 123, .mv (.t 0), none⟩,
    ⟨some 124, .mv (.t 17), none⟩,
    ⟨some 125, .ix 1 (.t 123) (.t 124), none⟩,
    ⟨some 126, .ld (.t 125) 1 false, none⟩,
    ⟨some 127, .ix 1 (.t 113) (.t 114), none⟩,
    ⟨none, .st (.t 127) (.t 122) 1, none⟩,
    ⟨some 128, .ix 1 (.t 115) (.t 117), none⟩,
    ⟨none, .st (.t 128) (.t 126) 1, none⟩]))
   (.reg [⟨some 111, .mv (.t 17), none⟩,
    ⟨some 112, .bin .sub (.t 111) (.k (.int .i64 1)) 0, none⟩,
    ⟨some 17, .mv (.t 112), none⟩]))))))
   (.ret))))) (.skip)))
   (.seq (.reg [⟨some 129, .mv (.t 1), none⟩,
    ⟨some 130, .mv (.t 3), none⟩,
    ⟨some 131, .bin .add (.t 129) (.t 130) 0, none⟩,
    ⟨some 132, .conv .u64 (.t 131), none⟩,
    ⟨some 133, .bin .shr (.t 132) (.k (.int .u64 1)) 0, none⟩,
    ⟨some 134, .conv .i64 (.t 133), none⟩,
    ⟨some 18, .mv (.t 134), none⟩])
   (.seq (.reg [⟨some 135, .mv (.t 18), none⟩,
    ⟨some 136, .mv (.t 2), none⟩,
    ⟨some 137, .bin .add (.t 135) (.t 136) 0, none⟩,
    ⟨some 19, .mv (.t 137), none⟩])
   (.seq (.reg [⟨some 20, .mv (.k (.int .i64 0)), none⟩,
    ⟨some 21, .mv (.k (.int .i64 0)), none⟩])
   (.seq (.seq (.reg [⟨some 138, .mv (.t 2), none⟩,
    ⟨some 139, .mv (.t 18), none⟩,
    ⟨some 140, .bin .gtr (.t 138) (.t 139) 0, none⟩])
   (.cond (.t 140) (.seq (.reg [⟨some 141, .mv (.t 19), none⟩,
    ⟨some 142, .mv (.t 3), none⟩,
    ⟨some 143, .bin .sub (.t 141) (.t 142) 0, none⟩,
    ⟨some 20, .mv (.t 143), none⟩])
   (.reg [⟨some 144, .mv (.t 18), none⟩,
    ⟨some 21, .mv (.t 144), none⟩])) (.seq (.reg [⟨some 145, .mv (.t 1), none⟩,
    ⟨some 20, .mv (.t 145), none⟩])
   (.reg [⟨some 146, .mv (.t 2), none⟩,
    ⟨some 21, .mv (.t 146), none⟩]))))
   (.seq (.reg [⟨some 147, .mv (.t 19), none⟩,
    ⟨some 148, .bin .sub (.t 147) (.k (.int .i64 1)) 0, none⟩,
    ⟨some 22, .mv (.t 148), none⟩])
   (.seq (.block 8 (.loop (.seq (.seq (.reg [⟨some 149, .mv (.t 20), none⟩,
    ⟨some 150, .mv (.t 21), none⟩,
    ⟨some 151, .bin .lss (.t 149) (.t 150) 0, none⟩])
   (.cond (.t 151) (.skip) (.exit 8)))
   (.block 9 (.seq (.reg [⟨some 152, .mv (.t 20), none⟩,
    ⟨some 153, .mv (.t 21), none⟩,
    ⟨some 154, .bin .add (.t 152) (.t 153) 0, none⟩,
    ⟨some 155, .conv .u64 (.t 154), none⟩,
    ⟨some 156, .bin .shr (.t 155) (.k (.int .u64 1)) 0, none⟩,
    ⟨some 157, .conv .i64 (.t 156), none⟩,
    ⟨some 23, .mv (.t 157), none⟩])
   (.seq (.dreg [] [⟨some 158, .mv (.t 4), none⟩,
    ⟨some 159, .mv (.t 0), none⟩,
    ⟨some 160, .mv (.t 22), none⟩,
    ⟨some 161, .mv (.t 23), none⟩,
    ⟨some 162, .bin .sub (.t 160) (.t 161) 0, none⟩,
    ⟨some 163, .ix 1 (.t 159) (.t 162), none⟩,
    ⟨some 164, .ld (.t 163) 1 false, none⟩,
    ⟨some 165, .mv (.t 0), none⟩,
    ⟨some 166, .mv (.t 23), none⟩,
    ⟨some 167, .ix 1 (.t 165) (.t 166), none⟩,
    ⟨some 168, .ld (.t 167) 1 false, none⟩,
    ⟨some 169, .callv (.t 158) [.t 164, .t 168], none⟩,
    ⟨some 170, .bin .lss (.t 169) (.k (.int .i64 0)) 0, none⟩,
    ⟨some 171, .un .not (.t 170), none⟩])
   (.cond (.t 171) (.reg [⟨some 172, .mv (.t 23), none⟩,
    ⟨some 173, .bin .add (.t 172) (.k (.int .i64 1)) 0, none⟩,
    ⟨some 20, .mv (.t 173), none⟩]) (.reg [⟨some 174, .mv (.t 23), none⟩,
    ⟨some 21, .mv (.t 174), none⟩]))))))))
   (.seq (.reg [⟨some 175, .mv (.t 19), none⟩,
    ⟨some 176, .mv (.t 20), none⟩,
    ⟨some 177, .bin .sub (.t 175) (.t 176) 0, none⟩,
    ⟨some 24, .mv (.t 177), none⟩])
   (.seq (.seq (.reg [⟨some 178, .mv (.t 20), none⟩,
    ⟨some 179, .mv (.t 2), none⟩,
    ⟨some 180, .bin .lss (.t 178) (.t 179) 0, none⟩,
    ⟨some 181, .mv (.t 180), none⟩,
    ⟨some 182, .mv (.t 2), some (181, true)⟩,
    ⟨some 183, .mv (.t 24), some (181, true)⟩,
    ⟨some 184, .bin .lss (.t 182) (.t 183) 0, some (181, true)⟩,
    ⟨some 185, .pick (.t 181) (.t 184) (.k (.bool false)), none⟩])
   (.cond (.t 185) (.reg [⟨some 186, .mv (.t 0), none⟩,
    ⟨some 187, .mv (.t 20), none⟩,
    ⟨some 188, .mv (.t 2), none⟩,
    ⟨some 189, .mv (.t 24), none⟩,
    ⟨some 190, .mv (.t 4), none⟩,
    ⟨some 191, .call 223 [.t 186, .t 187, .t 188, .t 189, .t 190], none⟩]) (.skip)))
   (.seq (.seq (.reg [⟨some 192, .mv (.t 1), none⟩,
    ⟨some 193, .mv (.t 20), none⟩,
    ⟨some 194, .bin .lss (.t 192) (.t 193) 0, none⟩,
    ⟨some 195, .mv (.t 194), none⟩,
    ⟨some 196, .mv (.t 20), some (195, true)⟩,
    ⟨some 197, .mv (.t 18), some (195, true)⟩,
    ⟨some 198, .bin .lss (.t 196) (.t 197) 0, some (195, true)⟩,
    ⟨some 199, .pick (.t 195) (.t 198) (.k (.bool false)), none⟩])
   (.cond (.t 199) (.reg [⟨some 200, .mv (.t 0), none⟩,
    ⟨some 201, .mv (.t 1), none⟩,
    ⟨some 202, .mv (.t 20), none⟩,
    ⟨some 203, .mv (.t 18), none⟩,
    ⟨some 204, .mv (.t 4), none⟩,
    ⟨some 205, .call 205 [.t 200, .t 201, .t 202, .t 203, .t 204], none⟩]) (.skip)))
   (.seq (.reg [⟨some 206, .mv (.t 18), none⟩,
    ⟨some 207, .mv (.t 24), none⟩,
    ⟨some 208, .bin .lss (.t 206) (.t 207) 0, none⟩,
    ⟨some 209, .mv (.t 208), none⟩,
    ⟨some 210, .mv (.t 24), some (209, true)⟩,
    ⟨some 211, .mv (.t 3), some (209, true)⟩,
    ⟨some 212, .bin .lss (.t 210) (.t 211) 0, some (209, true)⟩,
    ⟨some 213, .pick (.t 209) (.t 212) (.k (.bool false)), none⟩])
   (.cond (.t 213) (.reg [⟨some 214, .mv (.t 0), none⟩,
    ⟨some 215, .mv (.t 18), none⟩,
    ⟨some 216, .mv (.t 24), none⟩,
    ⟨some 217, .mv (.t 3), none⟩,
    ⟨some 218, .mv (.t 4), none⟩,
    ⟨some 219, .call 205 [.t 214, .t 215, .t 216, .t 217, .t 218], none⟩]) (.skip)))))))))))))
def k205 : FCode := ⟨220, c205, [], none⟩
def c206 : LCode := .seq (.reg [⟨some 6, .mv (.k (.int .i64 20)), none⟩])
   (.seq (.reg [⟨some 10, .mv (.t 6), none⟩,
    ⟨some 7, .mv (.k (.int .i64 0)), none⟩,
    ⟨some 8, .mv (.t 10), none⟩])
   (.seq (.block 0 (.loop (.seq (.seq (.reg [⟨some 11, .mv (.t 8), none⟩,
    ⟨some 12, .mv (.t 1), none⟩,
    ⟨some 13, .bin .leq (.t 11) (.t 12) 0, none⟩])
   (.cond (.t 13) (.skip) (.exit 0)))
   (.block 1 (.seq (.reg [⟨some 14, .mv (.t 0), none⟩,
    ⟨some 15, .mv (.t 7), none⟩,
    ⟨some 16, .mv (.t 8), none⟩,
    ⟨some 17, .mv (.t 2), none⟩,
    ⟨some 18, .call 224 [.t 14, .t 15, .t 16, .t 17], none⟩])
   (.seq (.reg [⟨some 19, .mv (.t 8), none⟩,
    ⟨some 7, .mv (.t 19), none⟩])
   (.reg [⟨some 20, .mv (.t 8), none⟩,
    ⟨some 21, .mv (.t 6), none⟩,
    ⟨some 22, .bin .add (.t 20) (.t 21) 0, none⟩,
    ⟨some 8, .mv (.t 22), none⟩])))))))
   (.seq (.reg [⟨some 23, .mv (.t 0), none⟩,
    ⟨some 24, .mv (.t 7), none⟩,
    ⟨some 25, .mv (.t 1), none⟩,
    ⟨some 26, .mv (.t 2), none⟩,
    ⟨some 27, .call 224 [.t 23, .t 24, .t 25, .t 26], none⟩])
   (.block 2 (.loop (.seq (.seq (.reg [⟨some 28, .mv (.t 6), none⟩,
    ⟨some 29, .mv (.t 1), none⟩,
    ⟨some 30, .bin .lss (.t 28) (.t 29) 0, none⟩])
   (.cond (.t 30) (.skip) (.exit 2)))
   (.block 3 (.seq (.reg [⟨some 31, .mv (.t 6), none⟩,
    ⟨some 32, .bin .mul (.k (.int .i64 2)) (.t 31) 0, none⟩,
    ⟨some 7, .mv (.k (.int .i64 0)), none⟩,
    ⟨some 8, .mv (.t 32), none⟩])
   (.seq (.block 4 (.loop (.seq (.seq (.reg [⟨some 33, .mv (.t 8), none⟩,
    ⟨some 34, .mv (.t 1), none⟩,
    ⟨some 35, .bin .leq (.t 33) (.t 34) 0, none⟩])
   (.cond (.t 35) (.skip) (.exit 4)))
   (.block 5 (.seq (.reg [⟨some 36, .mv (.t 0), none⟩,
    ⟨some 37, .mv (.t 7), none⟩,
    ⟨some 38, .mv (.t 7), none⟩,
    ⟨some 39, .mv (.t 6), none⟩,
    ⟨some 40, .bin .add (.t 38) (.t 39) 0, none⟩,
    ⟨some 41, .mv (.t 8), none⟩,
    ⟨some 42, .mv (.t 2), none⟩,
    ⟨some 43, .call 225 [.t 36, .t 37, .t 40, .t 41, .t 42], none⟩])
   (.seq (.reg [⟨some 44, .mv (.t 8), none⟩,
    ⟨some 7, .mv (.t 44), none⟩])
   (.reg [⟨some 45, .mv (.t 8), none⟩,
    ⟨some 46, .mv (.t 6), none⟩,
    ⟨some 47, .bin .mul (.k (.int .i64 2)) (.t 46) 0, none⟩,
    ⟨some 48, .bin .add (.t 45) (.t 47) 0, none⟩,
    ⟨some 8, .mv (.t 48), none⟩])))))))
   (.seq (.seq (.reg [⟨some 49, .mv (.t 7), none⟩,
    ⟨some 50, .mv (.t 6), none⟩,
    ⟨some 51, .bin .add (.t 49) (.t 50) 0, none⟩,
    ⟨some 9, .mv (.t 51), none⟩])
   (.seq (.reg [⟨some 52, .mv (.t 9), none⟩,
    ⟨some 53, .mv (.t 1), none⟩,
    ⟨some 54, .bin .lss (.t 52) (.t 53) 0, none⟩])
   (.cond (.t 54) (.reg [⟨some 55, .mv (.t 0), none⟩,
    ⟨some 56, .mv (.t 7), none⟩,
    ⟨some 57, .mv (.t 9), none⟩,
    ⟨some 58, .mv (.t 1), none⟩,
    ⟨some 59, .mv (.t 2), none⟩,
    ⟨some 60, .call 225 [.t 55, .t 56, .t 57, .t 58, .t 59], none⟩]) (.skip))))
   (.reg [⟨some 61, .mv (.t 6), none⟩,
    ⟨some 62, .bin .mul (.t 61) (.k (.int .i64 2)) 0, none⟩,
    ⟨some 6, .mv (.t 62), none⟩])))))))))))
def k206 : FCode := ⟨63, c206, [], none⟩
def c207 : LCode := .reg [⟨some 4, .mv (.t 0), none⟩,
    ⟨some 5, .mv (.t 0), none⟩,
    ⟨some 6, .len (.t 5) false, none⟩,
    ⟨some 7, .mv (.t 1), none⟩,
    ⟨some 8, .call 226 [.t 4, .t 6, .t 7], none⟩]
def k207 : FCode := ⟨9, c207, [], none⟩
def c208 : LCode := .seq (.reg [⟨some 2, .box (.t 0), none⟩,
    ⟨some 3, .box (.t 1), none⟩,
    ⟨some 4, .mv (.k (.int .i64 0)), none⟩])
   (.seq (.reg [⟨some 5, .fa (.t 2) 0, none⟩,
    ⟨some 6, .ld (.t 5) 1 false, none⟩,
    ⟨some 7, .fa (.t 3) 0, none⟩,
    ⟨some 8, .ld (.t 7) 1 false, none⟩,
    ⟨some 9, .call 112 [.t 6, .t 8], none⟩,
    ⟨some 4, .mv (.t 9), none⟩])
   (.ret))
def k208 : FCode := ⟨10, c208, [.tmp 4], none⟩
def c209 : LCode := .seq (.reg [⟨some 2, .mv (.k (.ro 2 [] true)), none⟩])
   (.seq (.reg [⟨some 3, .mv (.t 0), none⟩,
    ⟨some 4, .mv (.t 0), none⟩,
    ⟨some 5, .len (.t 4) false, none⟩,
    ⟨some 6, .mv (.t 0), none⟩,
    ⟨some 7, .len (.t 6) false, none⟩,
    ⟨some 8, .slc 2 (.t 3) (none) (some (.t 5)) (some (.t 7)), none⟩,
    ⟨some 2, .mv (.t 8), none⟩])
   (.ret))
def k209 : FCode := ⟨9, c209, [.tmp 2], none⟩
def c210 : LCode := .seq (.reg [⟨some 2, .mv (.k (.ro 2 [] true)), none⟩])
   (.seq (.seq (.reg [⟨some 3, .mv (.t 0), none⟩,
    ⟨some 4, .isnil (.t 3), none⟩])
   (.cond (.t 4) (.seq (.reg [⟨some 2, .mv (.k (.ro 2 [] true)), none⟩])
   (.ret)) (.skip)))
   (.seq (.reg [⟨some 5, .mks 2 [], none⟩,
    ⟨some 6, .mv (.t 0), none⟩,
    ⟨some 7, .app 2 16 (.t 5) (.t 6), none⟩,
    ⟨some 2, .mv (.t 7), none⟩])
   (.ret)))
def k210 : FCode := ⟨8, c210, [.tmp 2], some 2⟩
def c211 : LCode := .seq (.reg [⟨some 2, .box (.t 0), none⟩,
    ⟨some 3, .box (.t 1), none⟩,
    ⟨some 4, .mv (.k (.int .i64 0)), none⟩])
   (.seq (.reg [⟨some 5, .fa (.t 2) 0, none⟩,
    ⟨some 6, .ld (.t 5) 1 false, none⟩,
    ⟨some 7, .fa (.t 3) 0, none⟩,
    ⟨some 8, .ld (.t 7) 1 false, none⟩,
    ⟨some 9, .call 112 [.t 6, .t 8], none⟩,
    ⟨some 4, .mv (.t 9), none⟩])
   (.ret))
def k211 : FCode := ⟨10, c211, [.tmp 4], none⟩
def c212 : LCode := .seq (.reg [⟨some 2, .mv (.k (.ro 2 [] true)), none⟩])
   (.seq (.reg [⟨some 3, .mv (.t 0), none⟩,
    ⟨some 4, .call 227 [.t 3, .k (.int .i64 2), .k (.int .i64 1)], none⟩,
    ⟨some 2, .mv (.t 4), none⟩])
   (.ret))
def k212 : FCode := ⟨5, c212, [.tmp 2], none⟩
def c213 : LCode := .seq (.reg [⟨some 4, .mv (.k (.ro 2 [] true)), none⟩,
    ⟨some 5, .mv (.k (.int .i64 0)), none⟩])
   (.seq (.seq (.reg [⟨some 9, .mv (.t 1), none⟩,
    ⟨some 10, .bin .lss (.t 9) (.k (.int .i64 0)) 0, none⟩])
   (.cond (.t 10) (.seq (.reg [⟨some 4, .mv (.k (.ro 2 [] true)), none⟩,
    ⟨some 5, .mv (.k (.int .i64 1)), none⟩])
   (.ret)) (.skip)))
   (.seq (.reg [⟨some 11, .mv (.t 0), none⟩,
    ⟨some 12, .call 185 [.t 11], none⟩,
    ⟨some 13, .call 184 [.t 12], none⟩,
    ⟨some 6, .mv (.t 13), none⟩])
   (.seq (.seq (.reg [⟨some 14, .mv (.t 0), none⟩,
    ⟨some 15, .len (.t 14) false, none⟩,
    ⟨some 16, .mv (.k (.int .i64 0)), none⟩])
   (.block 0 (.loop (.seq (.reg [⟨some 17, .bin .lss (.t 16) (.t 15) 0, none⟩])
   (.seq (.cond (.t 17) (.skip) (.exit 0))
   (.seq (.block 1 (.seq (.reg [⟨some 18, .mv (.t 16), none⟩,
    ⟨some 19, .ix 2 (.t 14) (.t 16), none⟩,
    ⟨some 20, .ld (.t 19) 2 true, none⟩,
    ⟨some 8, .alloc [.int .i64 0, .int .i64 0], none⟩,
    ⟨some 7, .mv (.t 18), none⟩,
    ⟨none, .st (.t 8) (.t 20) 2, none⟩])
   (.seq (.seq (.reg [⟨some 21, .fa (.t 8) 1, none⟩,
    ⟨some 22, .ld (.t 21) 1 false, none⟩,
    ⟨some 23, .bin .lss (.t 22) (.k (.int .i64 0)) 0, none⟩])
   (.cond (.t 23) (.seq (.reg [⟨some 4, .mv (.k (.ro 2 [] true)), none⟩,
    ⟨some 5, .mv (.k (.int .i64 7)), none⟩])
   (.ret)) (.skip)))
   (.seq (.reg [⟨some 24, .mv (.t 6), none⟩,
    ⟨some 25, .mv (.t 7), none⟩,
    ⟨some 26, .mv (.t 1), none⟩,
    ⟨some 27, .fa (.t 8) 1, none⟩,
    ⟨some 28, .ld (.t 27) 1 false, none⟩,
    ⟨some 29, .mm false (.t 26) [.t 28], none⟩,
    ⟨some 30, .ix 2 (.t 24) (.t 25), none⟩,
    ⟨some 31, .fa (.t 30) 1, none⟩,
    ⟨none, .st (.t 31) (.t 29) 1, none⟩])
   (.reg [⟨some 32, .mv (.t 1), none⟩,
    ⟨some 33, .mv (.t 6), none⟩,
    ⟨some 34, .mv (.t 7), none⟩,
    ⟨some 35, .ix 2 (.t 33) (.t 34), none⟩,
    ⟨some 36, .fa (.t 35) 1, none⟩,
    ⟨some 37, .ld (.t 36) 1 false, none⟩,
    ⟨some 38, .bin .sub (.t 32) (.t 37) 0, none⟩,
    ⟨some 1, .mv (.t 38), none⟩])))))
   (.reg [⟨some 39, .bin .add (.t 16) (.k (.int .i64 1)) 0, none⟩,
    ⟨some 16, .mv (.t 39), none⟩])))))))
   (.seq (.seq (.reg [⟨some 40, .mv (.t 1), none⟩,
    ⟨some 41, .bin .gtr (.t 40) (.k (.int .i64 0)) 0, none⟩])
   (.cond (.t 41) (.seq (.reg [⟨some 4, .mv (.k (.ro 2 [] true)), none⟩,
    ⟨some 5, .mv (.k (.int .i64 7)), none⟩])
   (.ret)) (.skip)))
   (.seq (.reg [⟨some 42, .mv (.t 6), none⟩,
    ⟨some 4, .mv (.t 42), none⟩,
    ⟨some 5, .mv (.k (.int .i64 0)), none⟩])
   (.ret))))))
def k213 : FCode := ⟨43, c213, [.tmp 4, .tmp 5], none⟩
def c214 : LCode := .seq (.reg [⟨some 4, .mv (.k (.ro 2 [] true)), none⟩])
   (.seq (.reg [⟨some 5, .alloc [.ro 2 [] true], none⟩])
   (.seq (.seq (.reg [⟨some 9, .mv (.t 0), none⟩,
    ⟨some 10, .len (.t 9) false, none⟩,
    ⟨some 11, .mv (.t 1), none⟩,
    ⟨some 12, .len (.t 11) false, none⟩,
    ⟨some 13, .bin .neq (.t 10) (.t 12) 0, none⟩])
   (.cond (.t 13) (.seq (.reg [⟨some 4, .mv (.k (.ro 2 [] true)), none⟩])
   (.ret)) (.skip)))
   (.seq (.reg [⟨some 14, .mkf 228 [.t 5], none⟩,
    ⟨some 6, .mv (.t 14), none⟩])
   (.seq (.seq (.reg [⟨some 15, .mv (.t 0), none⟩,
    ⟨some 16, .len (.t 15) false, none⟩,
    ⟨some 17, .mv (.k (.int .i64 0)), none⟩])
   (.block 0 (.loop (.seq (.reg [⟨some 18, .bin .lss (.t 17) (.t 16) 0, none⟩])
   (.seq (.cond (.t 18) (.skip) (.exit 0))
   (.seq (.block 1 (.seq (.reg [⟨some 19, .mv (.t 17), none⟩,
    ⟨some 20, .ix 2 (.t 15) (.t 17), none⟩,
    ⟨some 21, .ld (.t 20) 2 true, none⟩,
    ⟨some 8, .alloc [.int .i64 0, .int .i64 0], none⟩,
    ⟨some 7, .mv (.t 19), none⟩,
    ⟨none, .st (.t 8) (.t 21) 2, none⟩])
   (.seq (.seq (.reg [⟨some 22, .fa (.t 8) 1, none⟩,
    ⟨some 23, .ld (.t 22) 1 false, none⟩,
    ⟨some 24, .bin .eql (.t 23) (.k (.int .i64 0)) 0, none⟩])
   (.cond (.t 24) (.exit 1) (.skip)))
   (.seq (.reg [⟨some 25, .mv (.t 6), none⟩,
    ⟨some 26, .fa (.t 8) 0, none⟩,
    ⟨some 27, .ld (.t 26) 1 false, none⟩,
    ⟨some 28, .fa (.t 8) 1, none⟩,
    ⟨some 29, .ld (.t 28) 1 false, none⟩,
    ⟨some 30, .un .neg (.t 29), none⟩,
    ⟨some 31, .callv (.t 25) [.t 27, .k (.int .i64 2), .t 30], none⟩])
   (.seq (.dreg [] [⟨some 32, .mv (.t 6), none⟩,
    ⟨some 33, .fa (.t 8) 0, none⟩,
    ⟨some 34, .ld (.t 33) 1 false, none⟩,
    ⟨some 35, .mv (.t 1), none⟩,
    ⟨some 36, .mv (.t 7), none⟩,
    ⟨some 37, .ix 2 (.t 35) (.t 36), none⟩,
    ⟨some 38, .fa (.t 37) 1, none⟩,
    ⟨some 39, .ld (.t 38) 1 false, none⟩,
    ⟨some 40, .callv (.t 32) [.t 34, .k (.int .i64 3), .t 39], none⟩])
   (.dreg [] [⟨some 41, .mv (.t 6), none⟩,
    ⟨some 42, .fa (.t 8) 0, none⟩,
    ⟨some 43, .ld (.t 42) 1 false, none⟩,
    ⟨some 44, .fa (.t 8) 1, none⟩,
    ⟨some 45, .ld (.t 44) 1 false, none⟩,
    ⟨some 46, .mv (.t 1), none⟩,
    ⟨some 47, .mv (.t 7), none⟩,
    ⟨some 48, .ix 2 (.t 46) (.t 47), none⟩,
    ⟨some 49, .fa (.t 48) 1, none⟩,
    ⟨some 50, .ld (.t 49) 1 false, none⟩,
    ⟨some 51, .bin .sub (.t 45) (.t 50) 0, none⟩,
    ⟨some 52, .callv (.t 41) [.t 43, .k (.int .i64 1), .t 51], none⟩]))))))
   (.reg [⟨some 53, .bin .add (.t 17) (.k (.int .i64 1)) 0, none⟩,
    ⟨some 17, .mv (.t 53), none⟩])))))))
   (.seq (.reg [⟨some 54, .ld (.t 5) 1 false, none⟩,
    ⟨some 55, .call 98 [.t 54], none⟩,
    ⟨some 4, .mv (.t 55), none⟩])
   (.ret))))))
def k214 : FCode := ⟨56, c214, [.tmp 4], none⟩
def c215 : LCode := .seq (.reg [⟨some 2, .mv (.k (.ro 2 [] true)), none⟩])
   (.seq (.reg [⟨some 3, .mv (.t 0), none⟩,
    ⟨some 4, .call 185 [.t 3], none⟩,
    ⟨some 5, .call 230 [.t 4, .k (.fn 231 [])], none⟩,
    ⟨some 6, .call 184 [.t 5], none⟩,
    ⟨some 2, .mv (.t 6), none⟩])
   (.ret))
def k215 : FCode := ⟨7, c215, [.tmp 2], none⟩
def c216 : LCode := .seq (.reg [⟨some 2, .mv (.k (.ro 2 [] true)), none⟩])
   (.seq (.reg [⟨some 3, .mv (.t 0), none⟩,
    ⟨some 4, .call 227 [.t 3, .k (.int .i64 3), .k (.int .i64 1)], none⟩,
    ⟨some 2, .mv (.t 4), none⟩])
   (.ret))
def k216 : FCode := ⟨5, c216, [.tmp 2], none⟩
def c217 : LCode := .seq (.reg [⟨some 10, .mv (.k (.ro 2 [] true)), none⟩,
    ⟨some 11, .mv (.k (.int .i64 0)), none⟩])
   (.seq (.reg [⟨some 19, .mv (.t 0), none⟩,
    ⟨some 20, .mv (.t 2), none⟩,
    ⟨some 21, .call 158 [.t 19, .t 20], none⟩,
    ⟨some 12, .mv (.t 21), none⟩])
   (.seq (.block 0 (.seq (.reg [⟨some 23, .mv (.t 12), none⟩,
    ⟨some 24, .len (.t 23) false, none⟩,
    ⟨some 25, .bin .eql (.t 24) (.k (.int .i64 0)) 0, none⟩,
    ⟨some 22, .mv (.t 25), none⟩])
   (.cond (.t 22) (.seq (.reg [⟨some 10, .mv (.k (.ro 2 [] true)), none⟩,
    ⟨some 11, .mv (.k (.int .i64 4)), none⟩])
   (.ret)) (.seq (.reg [⟨some 27, .mv (.t 3), none⟩,
    ⟨some 28, .bin .lss (.t 27) (.k (.int .i64 0)) 0, none⟩,
    ⟨some 26, .mv (.t 28), none⟩])
   (.cond (.t 26) (.seq (.reg [⟨some 10, .mv (.k (.ro 2 [] true)), none⟩,
    ⟨some 11, .mv (.k (.int .i64 1)), none⟩])
   (.ret)) (.skip))))))
   (.seq (.reg [⟨some 13, .mv (.k (.ro 2 [] true)), none⟩])
   (.seq (.seq (.reg [⟨some 29, .mv (.t 12), none⟩,
    ⟨some 30, .len (.t 29) false, none⟩,
    ⟨some 31, .mv (.k (.int .i64 0)), none⟩])
   (.block 1 (.loop (.seq (.reg [⟨some 32, .bin .lss (.t 31) (.t 30) 0, none⟩])
   (.seq (.cond (.t 32) (.skip) (.exit 1))
   (.seq (.block 2 (.seq (.reg [⟨some 33, .ix 1 (.t 29) (.t 31), none⟩,
    ⟨some 34, .ld (.t 33) 1 false, none⟩,
    ⟨some 15, .mv (.t 34), none⟩])
   (.seq (.reg [⟨some 35, .mv (.t 1), none⟩,
    ⟨some 36, .mv (.t 15), none⟩,
    ⟨some 37, .mv (.t 4), none⟩,
    ⟨some 38, .call 232 [.t 35, .t 36, .t 37], none⟩,
    ⟨some 39, .len (.t 38) false, none⟩,
    ⟨some 40, .mv (.k (.int .i64 0)), none⟩])
   (.block 3 (.loop (.seq (.reg [⟨some 41, .bin .lss (.t 40) (.t 39) 0, none⟩])
   (.seq (.cond (.t 41) (.skip) (.exit 3))
   (.seq (.block 4 (.seq (.reg [⟨some 42, .ix 1 (.t 38) (.t 40), none⟩,
    ⟨some 43, .ld (.t 42) 1 false, none⟩,
    ⟨some 17, .mv (.t 43), none⟩])
   (.seq (.reg [⟨some 44, .mv (.t 3), none⟩,
    ⟨some 45, .mv (.t 1), none⟩,
    ⟨some 46, .mv (.t 17), none⟩,
    ⟨some 47, .ix 6 (.t 45) (.t 46), none⟩,
    ⟨some 48, .fa (.t 47) 3, none⟩,
    ⟨some 49, .ld (.t 48) 1 false, none⟩,
    ⟨some 50, .mm false (.t 44) [.t 49], none⟩,
    ⟨some 18, .mv (.t 50), none⟩])
   (.seq (.seq (.reg [⟨some 51, .mv (.t 18), none⟩,
    ⟨some 52, .bin .eql (.t 51) (.k (.int .i64 0)) 0, none⟩])
   (.cond (.t 52) (.seq (.reg [⟨some 53, .mv (.t 13), none⟩,
    ⟨some 54, .call 184 [.t 53], none⟩,
    ⟨some 10, .mv (.t 54), none⟩,
    ⟨some 11, .mv (.k (.int .i64 0)), none⟩])
   (.ret)) (.skip)))
   (.seq (.reg [⟨some 55, .mv (.t 13), none⟩,
    ⟨some 56, .mv (.t 17), none⟩,
    ⟨some 57, .mv (.t 18), none⟩,
    ⟨some 58, .build [.int .i64 0, .int .i64 0] [(0, 1, .t 56), (1, 1, .t 57)], none⟩,
    ⟨some 59, .mks 2 [.t 58], none⟩,
    ⟨some 60, .app 2 16 (.t 55) (.t 59), none⟩,
    ⟨some 13, .mv (.t 60), none⟩])
   (.reg [⟨some 61, .mv (.t 3), none⟩,
    ⟨some 62, .mv (.t 18), none⟩,
    ⟨some 63, .bin .sub (.t 61) (.t 62) 0, none⟩,
    ⟨some 3, .mv (.t 63), none⟩]))))))
   (.reg [⟨some 64, .bin .add (.t 40) (.k (.int .i64 1)) 0, none⟩,
    ⟨some 40, .mv (.t 64), none⟩])))))))))
   (.reg [⟨some 65, .bin .add (.t 31) (.k (.int .i64 1)) 0, none⟩,
    ⟨some 31, .mv (.t 65), none⟩])))))))
   (.seq (.seq (.reg [⟨some 66, .mv (.t 3), none⟩,
    ⟨some 67, .bin .gtr (.t 66) (.k (.int .i64 0)) 0, none⟩])
   (.cond (.t 67) (.seq (.reg [⟨some 10, .mv (.k (.ro 2 [] true)), none⟩,
    ⟨some 11, .mv (.k (.int .i64 7)), none⟩])
   (.ret)) (.skip)))
   (.seq (.reg [⟨some 68, .mv (.t 13), none⟩,
    ⟨some 69, .call 184 [.t 68], none⟩,
    ⟨some 10, .mv (.t 69), none⟩,
    ⟨some 11, .mv (.k (.int .i64 0)), none⟩])
   (.ret)))))))
def k217 : FCode := ⟨70, c217, [.tmp 10, .tmp 11], none⟩
def c218 : LCode := .seq (.reg [⟨some 2, .mv (.k (.ro 2 [] true)), none⟩])
   (.seq (.reg [⟨some 3, .mv (.t 0), none⟩,
    ⟨some 4, .call 227 [.t 3, .k (.int .i64 1), .k (.int .i64 2)], none⟩,
    ⟨some 2, .mv (.t 4), none⟩])
   (.ret))
def k218 : FCode := ⟨5, c218, [.tmp 2], none⟩
def c219 : LCode := .seq (.reg [⟨some 4, .mv (.k (.ro 1 [] true)), none⟩])
   (.seq (.seq (.reg [⟨some 5, .mv (.t 1), none⟩,
    ⟨some 6, .bin .lss (.t 5) (.k (.int .i64 0)) 0, none⟩])
   (.cond (.t 6) (.reg [⟨some 7, .bad, none⟩,
    ⟨none, .bad, none⟩]) (.skip)))
   (.seq (.seq (.reg [⟨some 8, .mv (.t 1), none⟩,
    ⟨some 9, .mv (.t 0), none⟩,
    ⟨some 10, .cap (.t 9), none⟩,
    ⟨some 11, .mv (.t 0), none⟩,
    ⟨some 12, .len (.t 11) false, none⟩,
    ⟨some 13, .bin .sub (.t 10) (.t 12) 0, none⟩,
    ⟨some 14, .bin .sub (.t 8) (.t 13) 0, none⟩,
    ⟨some 1, .mv (.t 14), none⟩])
   (.seq (.reg [⟨some 15, .mv (.t 1), none⟩,
    ⟨some 16, .bin .gtr (.t 15) (.k (.int .i64 0)) 0, none⟩])
   (.cond (.t 16) (.reg [⟨some 17, .mv (.t 0), none⟩,
    ⟨some 18, .mv (.t 0), none⟩,
    ⟨some 19, .cap (.t 18), none⟩,
    ⟨some 20, .slc 1 (.t 17) (none) (some (.t 19)) (none), none⟩,
    ⟨some 21, .mv (.t 1), none⟩,
    ⟨some 22, .appz 1 8 [.int .i64 0] (.t 20) (.t 21), none⟩,
    ⟨some 23, .mv (.t 0), none⟩,
    ⟨some 24, .len (.t 23) false, none⟩,
    ⟨some 25, .slc 1 (.t 22) (none) (some (.t 24)) (none), none⟩,
    ⟨some 0, .mv (.t 25), none⟩]) (.skip))))
   (.seq (.reg [⟨some 26, .mv (.t 0), none⟩,
    ⟨some 4, .mv (.t 26), none⟩])
   (.ret))))
def k219 : FCode := ⟨27, c219, [.tmp 4], none⟩
def c220 : LCode := .seq (.reg [⟨some 4, .mv (.k (.int .u64 0)), none⟩,
    ⟨some 5, .mv (.k (.int .u64 0)), none⟩])
   (.seq (.reg [⟨some 14, .mv (.t 0), none⟩,
    ⟨some 15, .bin .and (.t 14) (.k (.int .u64 4294967295)) 0, none⟩,
    ⟨some 6, .mv (.t 15), none⟩])
   (.seq (.reg [⟨some 16, .mv (.t 0), none⟩,
    ⟨some 17, .bin .shr (.t 16) (.k (.int .u64 32)) 0, none⟩,
    ⟨some 7, .mv (.t 17), none⟩])
   (.seq (.reg [⟨some 18, .mv (.t 1), none⟩,
    ⟨some 19, .bin .and (.t 18) (.k (.int .u64 4294967295)) 0, none⟩,
    ⟨some 8, .mv (.t 19), none⟩])
   (.seq (.reg [⟨some 20, .mv (.t 1), none⟩,
    ⟨some 21, .bin .shr (.t 20) (.k (.int .u64 32)) 0, none⟩,
    ⟨some 9, .mv (.t 21), none⟩])
   (.seq (.reg [⟨some 22, .mv (.t 6), none⟩,
    ⟨some 23, .mv (.t 8), none⟩,
    ⟨some 24, .bin .mul (.t 22) (.t 23) 0, none⟩,
    ⟨some 10, .mv (.t 24), none⟩])
   (.seq (.reg [⟨some 25, .mv (.t 7), none⟩,
    ⟨some 26, .mv (.t 8), none⟩,
    ⟨some 27, .bin .mul (.t 25) (.t 26) 0, none⟩,
    ⟨some 28, .mv (.t 10), none⟩,
    ⟨some 29, .bin .shr (.t 28) (.k (.int .u64 32)) 0, none⟩,
    ⟨some 30, .bin .add (.t 27) (.t 29) 0, none⟩,
    ⟨some 11, .mv (.t 30), none⟩])
   (.seq (.reg [⟨some 31, .mv (.t 11), none⟩,
    ⟨some 32, .bin .and (.t 31) (.k (.int .u64 4294967295)) 0, none⟩,
    ⟨some 12, .mv (.t 32), none⟩])
   (.seq (.reg [⟨some 33, .mv (.t 11), none⟩,
    ⟨some 34, .bin .shr (.t 33) (.k (.int .u64 32)) 0, none⟩,
    ⟨some 13, .mv (.t 34), none⟩])
   (.seq (.reg [⟨some 35, .mv (.t 12), none⟩,
    ⟨some 36, .mv (.t 6), none⟩,
    ⟨some 37, .mv (.t 9), none⟩,
    ⟨some 38, .bin .mul (.t 36) (.t 37) 0, none⟩,
    ⟨some 39, .bin .add (.t 35) (.t 38) 0, none⟩,
    ⟨some 12, .mv (.t 39), none⟩])
   (.seq (.reg [⟨some 40, .mv (.t 7), none⟩,
    ⟨some 41, .mv (.t 9), none⟩,
    ⟨some 42, .bin .mul (.t 40) (.t 41) 0, none⟩,
    ⟨some 43, .mv (.t 13), none⟩,
    ⟨some 44, .bin .add (.t 42) (.t 43) 0, none⟩,
    ⟨some 45, .mv (.t 12), none⟩,
    ⟨some 46, .bin .shr (.t 45) (.k (.int .u64 32)) 0, none⟩,
    ⟨some 47, .bin .add (.t 44) (.t 46) 0, none⟩,
    ⟨some 4, .mv (.t 47), none⟩])
   (.seq (.reg [⟨some 48, .mv (.t 0), none⟩,
    ⟨some 49, .mv (.t 1), none⟩,
    ⟨some 50, .bin .mul (.t 48) (.t 49) 0, none⟩,
    ⟨some 5, .mv (.t 50), none⟩])
   (.ret))))))))))))
def k220 : FCode := ⟨51, c220, [.tmp 4, .tmp 5], none⟩
def c221 : LCode := .seq (.reg [⟨some 2, .mv (.k (.int .u64 0)), none⟩])
   (.seq (.seq (.reg [⟨some 3, .mv (.t 0), none⟩,
    ⟨some 4, .bin .lss (.t 3) (.k (.int .i64 0)) 0, none⟩])
   (.cond (.t 4) (.seq (.reg [⟨some 5, .mv (.t 0), none⟩,
    ⟨some 6, .conv .u64 (.t 5), none⟩,
    ⟨some 7, .un .neg (.t 6), none⟩,
    ⟨some 2, .mv (.t 7), none⟩])
   (.ret)) (.skip)))
   (.seq (.reg [⟨some 8, .mv (.t 0), none⟩,
    ⟨some 9, .conv .u64 (.t 8), none⟩,
    ⟨some 2, .mv (.t 9), none⟩])
   (.ret)))
def k221 : FCode := ⟨10, c221, [.tmp 2], none⟩
def c222 : LCode := .seq (.reg [⟨some 12, .mv (.t 2), none⟩,
    ⟨some 13, .mv (.t 1), none⟩,
    ⟨some 14, .bin .sub (.t 12) (.t 13) 0, none⟩,
    ⟨some 10, .mv (.t 14), none⟩])
   (.seq (.reg [⟨some 15, .mv (.t 3), none⟩,
    ⟨some 16, .mv (.t 2), none⟩,
    ⟨some 17, .bin .sub (.t 15) (.t 16) 0, none⟩,
    ⟨some 11, .mv (.t 17), none⟩])
   (.seq (.block 0 (.loop (.seq (.seq (.reg [⟨some 18, .mv (.t 10), none⟩,
    ⟨some 19, .mv (.t 11), none⟩,
    ⟨some 20, .bin .neq (.t 18) (.t 19) 0, none⟩])
   (.cond (.t 20) (.skip) (.exit 0)))
   (.block 1 (.seq (.reg [⟨some 21, .mv (.t 10), none⟩,
    ⟨some 22, .mv (.t 11), none⟩,
    ⟨some 23, .bin .gtr (.t 21) (.t 22) 0, none⟩])
   (.cond (.t 23) (.seq (.reg [⟨some 24, .mv (.t 0), none⟩,
    ⟨some 25, .mv (.t 2), none⟩,
    ⟨some 26, .mv (.t 10), none⟩,
    ⟨some 27, .bin .sub (.t 25) (.t 26) 0, none⟩,
    ⟨some 28, .mv (.t 2), none⟩,
    ⟨some 29, .mv (.t 11), none⟩,
    ⟨some 30, .mv (.t 4), none⟩,
    ⟨some 31, .call 233 [.t 24, .t 27, .t 28, .t 29, .t 30], none⟩])
   (.reg [⟨some 32, .mv (.t 10), none⟩,
    ⟨some 33, .mv (.t 11), none⟩,
    ⟨some 34, .bin .sub (.t 32) (.t 33) 0, none⟩,
    ⟨some 10, .mv (.t 34), none⟩])) (.seq (.reg [⟨some 35, .mv (.t 0), none⟩,
    ⟨some 36, .mv (.t 2), none⟩,
    ⟨some 37, .mv (.t 10), none⟩,
    ⟨some 38, .bin .sub (.t 36) (.t 37) 0, none⟩,
    ⟨some 39, .mv (.t 2), none⟩,
    ⟨some 40, .mv (.t 11), none⟩,
    ⟨some 41, .bin .add (.t 39) (.t 40) 0, none⟩,
    ⟨some 42, .mv (.t 10), none⟩,
    ⟨some 43, .bin .sub (.t 41) (.t 42) 0, none⟩,
    ⟨some 44, .mv (.t 10), none⟩,
    ⟨some 45, .mv (.t 4), none⟩,
    ⟨some 46, .call 233 [.t 35, .t 38, .t 43, .t 44, .t 45], none⟩])
   (.reg [⟨some 47, .mv (.t 11), none⟩,
    ⟨some 48, .mv (.t 10), none⟩,
    ⟨some 49, .bin .sub (.t 47) (.t 48) 0, none⟩,
    ⟨some 11, .mv (.t 49), none⟩]))))))))
   (.reg [⟨some 50, .mv (.t 0), none⟩,
    ⟨some 51, .mv (.t 2), none⟩,
    ⟨some 52, .mv (.t 10), none⟩,
    ⟨some 53, .bin .sub (.t 51) (.t 52) 0, none⟩,
    ⟨some 54, .mv (.t 2), none⟩,
    ⟨some 55, .mv (.t 10), none⟩,
    ⟨some 56, .mv (.t 4), none⟩,
    ⟨some 57, .call 233 [.t 50, .t 53, .t 54, .t 55, .t 56], none⟩])))
def k222 : FCode := ⟨58, c222, [], none⟩
def c223 : LCode := .seq (.reg [⟨some 12, .mv (.t 2), none⟩,
    ⟨some 13, .mv (.t 1), none⟩,
    ⟨some 14, .bin .sub (.t 12) (.t 13) 0, none⟩,
    ⟨some 10, .mv (.t 14), none⟩])
   (.seq (.reg [⟨some 15, .mv (.t 3), none⟩,
    ⟨some 16, .mv (.t 2), none⟩,
    ⟨some 17, .bin .sub (.t 15) (.t 16) 0, none⟩,
    ⟨some 11, .mv (.t 17), none⟩])
   (.seq (.block 0 (.loop (.seq (.seq (.reg [⟨some 18, .mv (.t 10), none⟩,
    ⟨some 19, .mv (.t 11), none⟩,
    ⟨some 20, .bin .neq (.t 18) (.t 19) 0, none⟩])
   (.cond (.t 20) (.skip) (.exit 0)))
   (.block 1 (.seq (.reg [⟨some 21, .mv (.t 10), none⟩,
    ⟨some 22, .mv (.t 11), none⟩,
    ⟨some 23, .bin .gtr (.t 21) (.t 22) 0, none⟩])
   (.cond (.t 23) (.seq (.reg [⟨some 24, .mv (.t 0), none⟩,
    ⟨some 25, .mv (.t 2), none⟩,
    ⟨some 26, .mv (.t 10), none⟩,
    ⟨some 27, .bin .sub (.t 25) (.t 26) 0, none⟩,
    ⟨some 28, .mv (.t 2), none⟩,
    ⟨some 29, .mv (.t 11), none⟩,
    ⟨some 30, .mv (.t 4), none⟩,
    ⟨some 31, .call 234 [.t 24, .t 27, .t 28, .t 29, .t 30], none⟩])
   (.reg [⟨some 32, .mv (.t 10), none⟩,
    ⟨some 33, .mv (.t 11), none⟩,
    ⟨some 34, .bin .sub (.t 32) (.t 33) 0, none⟩,
    ⟨some 10, .mv (.t 34), none⟩])) (.seq (.reg [⟨some 35, .mv (.t 0), none⟩,
    ⟨some 36, .mv (.t 2), none⟩,
    ⟨some 37, .mv (.t 10), none⟩,
    ⟨some 38, .bin .sub (.t 36) (.t 37) 0, none⟩,
    ⟨some 39, .mv (.t 2), none⟩,
    ⟨some 40, .mv (.t 11), none⟩,
    ⟨some 41, .bin .add (.t 39) (.t 40) 0, none⟩,
    ⟨some 42, .mv (.t 10), none⟩,
    ⟨some 43, .bin .sub (.t 41) (.t 42) 0, none⟩,
    ⟨some 44, .mv (.t 10), none⟩,
    ⟨some 45, .mv (.t 4), none⟩,
    ⟨some 46, .call 234 [.t 35, .t 38, .t 43, .t 44, .t 45], none⟩])
   (.reg [⟨some 47, .mv (.t 11), none⟩,
    ⟨some 48, .mv (.t 10), none⟩,
    ⟨some 49, .bin .sub (.t 47) (.t 48) 0, none⟩,
    ⟨some 11, .mv (.t 49), none⟩]))))))))
   (.reg [⟨some 50, .mv (.t 0), none⟩,
    ⟨some 51, .mv (.t 2), none⟩,
    ⟨some 52, .mv (.t 10), none⟩,
    ⟨some 53, .bin .sub (.t 51) (.t 52) 0, none⟩,
    ⟨some 54, .mv (.t 2), none⟩,
    ⟨some 55, .mv (.t 10), none⟩,
    ⟨some 56, .mv (.t 4), none⟩,
    ⟨some 57, .call 234 [.t 50, .t 53, .t 54, .t 55, .t 56], none⟩])))
def k223 : FCode := ⟨58, c223, [], none⟩
def c224 : LCode := .seq (.reg [⟨some 10, .mv (.t 1), none⟩,
    ⟨some 11, .bin .add (.t 10) (.k (.int .i64 1)) 0, none⟩,
    ⟨some 8, .mv (.t 11), none⟩])
   (.block 0 (.loop (.seq (.seq (.reg [⟨some 12, .mv (.t 8), none⟩,
    ⟨some 13, .mv (.t 2), none⟩,
    ⟨some 14, .bin .lss (.t 12) (.t 13) 0, none⟩])
   (.cond (.t 14) (.skip) (.exit 0)))
   (.seq (.block 1 (.seq (.reg [⟨some 17, .mv (.t 8), none⟩,
    ⟨some 9, .mv (.t 17), none⟩])
   (.block 2 (.loop (.seq (.seq (.dreg [] [⟨some 18, .mv (.t 9), none⟩,
    ⟨some 19, .mv (.t 1), none⟩,
    ⟨some 20, .bin .gtr (.t 18) (.t 19) 0, none⟩,
    ⟨some 21, .mv (.t 20), none⟩,
    ⟨some 22, .mv (.t 3), some (21, true)⟩,
    ⟨some 23, .mv (.t 0), some (21, true)⟩,
    ⟨some 24, .mv (.t 9), some (21, true)⟩,
    ⟨some 25, .ix 2 (.t 23) (.t 24), some (21, true)⟩,
    ⟨some 26, .ld (.t 25) 2 true, some (21, true)⟩,
    ⟨some 27, .mv (.t 0), some (21, true)⟩,
    ⟨some 28, .mv (.t 9), some (21, true)⟩,
    ⟨some 29, .bin .sub (.t 28) (.k (.int .i64 1)) 0, some (21, true)⟩,
    ⟨some 30, .ix 2 (.t 27) (.t 29), some (21, true)⟩,
    ⟨some 31, .ld (.t 30) 2 true, some (21, true)⟩,
    ⟨some 32, .callv (.t 22) [.t 26, .t 31], some (21, true)⟩,
    ⟨some 33, .bin .lss (.t 32) (.k (.int .i64 0)) 0, some (21, true)⟩,
    ⟨some 34, .pick (.t 21) (.t 33) (.k (.bool false)), none⟩])
   (.cond (.t 34) (.skip) (.exit 2)))
   (.seq (.block 3 (.dreg [] [⟨some 37, .mv (.t 0), none⟩,
    ⟨some 38, .mv (.t 9), none⟩,
    ⟨some 39, .mv (.t 0), none⟩,
    ⟨some 40, .mv (.t 9), none⟩,
    ⟨some 41, .bin .sub (.t 40) (.k (.int .i64 1)) 0, none⟩,
    ⟨some 42, .mv (.t 0), none⟩,
    ⟨some 43, .mv (.t 9), none⟩,
    ⟨some 44, .bin .sub (.t 43) (.k (.int .i64 1)) 0, none⟩,
    ⟨some 45, .ix 2 (.t 42) (.t 44), none⟩,
    ⟨some 46, .ld (.t 45) 2 true, none⟩,
    ⟨some 47, .mv (.t 0), none⟩,
    ⟨some 48, .mv (.t 9), none⟩,
    ⟨some 49, .ix 2 (.t 47) (.t 48), none⟩,
    ⟨some 50, .ld (.t 49) 2 true, none⟩,
    ⟨some 51, .ix 2 (.t 37) (.t 38), none⟩,
    ⟨none, .st (.t 51) (.t 46) 2, none⟩,
    ⟨some 52, .ix 2 (.t 39) (.t 41), none⟩,
    ⟨none, .st (.t 52) (.t 50) 2, none⟩]))
   (.reg [⟨some 35, .mv (.t 9), none⟩,
    ⟨some 36, .bin .sub (.t 35) (.k (.int .i64 1)) 0, none⟩,
    ⟨some 9, .mv (.t 36), none⟩])))))))
   (.reg [⟨some 15, .mv (.t 8), none⟩,
    ⟨some 16, .bin .add (.t 15) (.k (.int .i64 1)) 0, none⟩,
    ⟨some 8, .mv (.t 16), none⟩])))))
def k224 : FCode := ⟨53, c224, [], none⟩
def c225 : LCode := .seq (.seq (.reg [⟨some 25, .mv (.t 2), none⟩,
    ⟨some 26, .mv (.t 1), none⟩,
    ⟨some 27, .bin .sub (.t 25) (.t 26) 0, none⟩,
    ⟨some 28, .bin .eql (.t 27) (.k (.int .i64 1)) 0, none⟩])
   (.cond (.t 28) (.seq (.reg [⟨some 29, .mv (.t 2), none⟩,
    ⟨some 10, .mv (.t 29), none⟩])
   (.seq (.reg [⟨some 30, .mv (.t 3), none⟩,
    ⟨some 11, .mv (.t 30), none⟩])
   (.seq (.block 0 (.loop (.seq (.seq (.reg [⟨some 31, .mv (.t 10), none⟩,
    ⟨some 32, .mv (.t 11), none⟩,
    ⟨some 33, .bin .lss (.t 31) (.t 32) 0, none⟩])
   (.cond (.t 33) (.skip) (.exit 0)))
   (.block 1 (.seq (.reg [⟨some 34, .mv (.t 10), none⟩,
    ⟨some 35, .mv (.t 11), none⟩,
    ⟨some 36, .bin .add (.t 34) (.t 35) 0, none⟩,
    ⟨some 37, .conv .u64 (.t 36), none⟩,
    ⟨some 38, .bin .shr (.t 37) (.k (.int .u64 1)) 0, none⟩,
    ⟨some 39, .conv .i64 (.t 38), none⟩,
    ⟨some 12, .mv (.t 39), none⟩])
   (.seq (.dreg [] [⟨some 40, .mv (.t 4), none⟩,
    ⟨some 41, .mv (.t 0), none⟩,
    ⟨some 42, .mv (.t 12), none⟩,
    ⟨some 43, .ix 2 (.t 41) (.t 42), none⟩,
    ⟨some 44, .ld (.t 43) 2 true, none⟩,
    ⟨some 45, .mv (.t 0), none⟩,
    ⟨some 46, .mv (.t 1), none⟩,
    ⟨some 47, .ix 2 (.t 45) (.t 46), none⟩,
    ⟨some 48, .ld (.t 47) 2 true, none⟩,
    ⟨some 49, .callv (.t 40) [.t 44, .t 48], none⟩,
    ⟨some 50, .bin .lss (.t 49) (.k (.int .i64 0)) 0, none⟩])
   (.cond (.t 50) (.reg [⟨some 51, .mv (.t 12), none⟩,
    ⟨some 52, .bin .add (.t 51) (.k (.int .i64 1)) 0, none⟩,
    ⟨some 10, .mv (.t 52), none⟩]) (.reg [⟨some 53, .mv (.t 12), none⟩,
    ⟨some 11, .mv (.t 53), none⟩]))))))))
   (.seq (.seq (.reg [⟨some 54, .mv (.t 1), none⟩,
    ⟨some 13, .mv (.t 54), none⟩])
   (.block 2 (.loop (.seq (.seq (.reg [⟨some 55, .mv (.t 13), none⟩,
    ⟨some 56, .mv (.t 10), none⟩,
    ⟨some 57, .bin .sub (.t 56) (.k (.int .i64 1)) 0, none⟩,
    ⟨some 58, .bin .lss (.t 55) (.t 57) 0, none⟩])
   (.cond (.t 58) (.skip) (.exit 2)))
   (.seq (.block 3 (.dreg [] [⟨some 61, .mv (.t 0), none⟩,
    ⟨some 62, .mv (.t 13), none⟩,
    ⟨some 63, .mv (.t 0), none⟩,
    ⟨some 64, .mv (.t 13), none⟩,
    ⟨some 65, .bin .add (.t 64) (.k (.int .i64 1)) 0, none⟩,
    ⟨some 66, .mv (.t 0), none⟩,
    ⟨some 67, .mv (.t 13), none⟩,
    ⟨some 68, .bin .add (.t 67) (.k (.int .i64 1)) 0, none⟩,
    ⟨some 69, .ix 2 (.t 66) (.t 68), none⟩,
    ⟨some 70, .ld (.t 69) 2 true, none⟩,
    ⟨some 71, .mv (.t 0), none⟩,
    ⟨some 72, .mv (.t 13), none⟩,
    ⟨some 73, .ix 2 (.t 71) (.t 72), none⟩,
    ⟨some 74, .ld (.t 73) 2 true, none⟩,
    ⟨some 75, .ix 2 (.t 61) (.t 62), none⟩,
    ⟨none, .st (.t 75) (.t 70) 2, none⟩,
    ⟨some 76, .ix 2 (.t 63) (.t 65), none⟩,
    ⟨none, .st (.t 76) (.t 74) 2, none⟩]))
   (.reg [⟨some 59, .mv (.t 13), none⟩,
    ⟨some 60, .bin .add (.t 59) (.k (.int .i64 1)) 0, none⟩,
    ⟨some 13, .mv (.t 60), none⟩]))))))
   (.ret))))) (.skip)))
   (.seq (.seq (.reg [⟨some 77, .mv (.t 3), none⟩,
    ⟨some 78, .mv (.t 2), none⟩,
    ⟨some 79, .bin .sub (.t 77) (.t 78) 0, none⟩,
    ⟨some 80, .bin .eql (.t 79) (.k (.int .i64 1)) 0, none⟩])
   (.cond (.t 80) (.seq (.reg [⟨some 81, .mv (.t 1), none⟩,
    ⟨some 14, .mv (.t 81), none⟩])
   (.seq (.reg [⟨some 82, .mv (.t 2), none⟩,
    ⟨some 15, .mv (.t 82), none⟩])
   (.seq (.block 4 (.loop (.seq (.seq (.reg [⟨some 83, .mv (.t 14), none⟩,
    ⟨some 84, .mv (.t 15), none⟩,
    ⟨some 85, .bin .lss (.t 83) (.t 84) 0, none⟩])
   (.cond (.t 85) (.skip) (.exit 4)))
   (.block 5 (.seq (.reg [⟨some 86, .mv (.t 14), none⟩,
    ⟨some 87, .mv (.t 15), none⟩,
    ⟨some 88, .bin .add (.t 86) (.t 87) 0, none⟩,
    ⟨some 89, .conv .u64 (.t 88), none⟩,
    ⟨some 90, .bin .shr (.t 89) (.k (.int .u64 1)) 0, none⟩,
    ⟨some 91, .conv .i64 (.t 90), none⟩,
    ⟨some 16, .mv (.t 91), none⟩])
   (.seq (.dreg [] [⟨some 92, .mv (.t 4), none⟩,
    ⟨some 93, .mv (.t 0), none⟩,
    ⟨some 94, .mv (.t 2), none⟩,
    ⟨some 95, .ix 2 (.t 93) (.t 94), none⟩,
    ⟨some 96, .ld (.t 95) 2 true, none⟩,
    ⟨some 97, .mv (.t 0), none⟩,
    ⟨some 98, .mv (.t 16), none⟩,
    ⟨some 99, .ix 2 (.t 97) (.t 98), none⟩,
    ⟨some 100, .ld (.t 99) 2 true, none⟩,
    ⟨some 101, .callv (.t 92) [.t 96, .t 100], none⟩,
    ⟨some 102, .bin .lss (.t 101) (.k (.int .i64 0)) 0, none⟩,
    ⟨some 103, .un .not (.t 102), none⟩])
   (.cond (.t 103) (.reg [⟨some 104, .mv (.t 16), none⟩,
    ⟨some 105, .bin .add (.t 104) (.k (.int .i64 1)) 0, none⟩,
    ⟨some 14, .mv (.t 105), none⟩]) (.reg [⟨some 106, .mv (.t 16), none⟩,
    ⟨some 15, .mv (.t 106), none⟩]))))))))
   (.seq (.seq (.reg [⟨some 107, .mv (.t 2), none⟩,
    ⟨some 17, .mv (.t 107), none⟩])
   (.block 6 (.loop (.seq (.seq (.reg [⟨some 108, .mv (.t 17), none⟩,
    ⟨some 109, .mv (.t 14), none⟩,
    ⟨some 110, .bin .gtr (.t 108) (.t 109) 0, none⟩])
   (.cond (.t 110) (.skip) (.exit 6)))
   (.seq (.block 7 (.dreg [] [⟨some 113, .mv (.t 0), none⟩,
    ⟨some 114, .mv (.t 17), none⟩,
    ⟨some 115, .mv (.t 0), none⟩,
    ⟨some 116, .mv (.t 17), none⟩,
    ⟨some 117, .bin .sub (.t 116) (.k (.int .i64 1)) 0, none⟩,
    ⟨some 118, .mv (.t 0), none⟩,
    ⟨some 119, .mv (.t 17), none⟩,
    ⟨some 120, .bin .sub (.t 119) (.k (.int .i64 1)) 0, none⟩,
    ⟨some 121, .ix 2 (.t 118) (.t 120), none⟩,
    ⟨some 122, .ld (.t 121) 2 true, none⟩,
    ⟨some 123, .mv (.t 0), none⟩,
    ⟨some 124, .mv (.t 17), none⟩,
    ⟨some 125, .ix 2 (.t 123) (.t 124), none⟩,
    ⟨some 126, .ld (.t 125) 2 true, none⟩,
    ⟨some 127, .ix 2 (.t 113) (.t 114), none⟩,
    ⟨none, .st (.t 127) (.t 122) 2, none⟩,
    ⟨some 128, .ix 2 (.t 115) (.t 117), none⟩,
    ⟨none, .st (.t 128) (.t 126) 2, none⟩]))
   (.reg [⟨some 111, .mv (.t 17), none⟩,
    ⟨some 112, .bin .sub (.t 111) (.k (.int .i64 1)) 0, none⟩,
    ⟨some 17, .mv (.t 112), none⟩]))))))
   (.ret))))) (.skip)))
   (.seq (.reg [⟨some 129, .mv (.t 1), none⟩,
    ⟨some 130, .mv (.t 3), none⟩,
    ⟨some 131, .bin .add (.t 129) (.t 130) 0, none⟩,
    ⟨some 132, .conv .u64 (.t 131), none⟩,
    ⟨some 133, .bin .shr (.t 132) (.k (.int .u64 1)) 0, none⟩,
    ⟨some 134, .conv .i64 (.t 133), none⟩,
    ⟨some 18, .mv (.t 134), none⟩])
   (.seq (.reg [⟨some 135, .mv (.t 18), none⟩,
    ⟨some 136, .mv (.t 2), none⟩,
    ⟨some 137, .bin .add (.t 135) (.t 136) 0, none⟩,
    ⟨some 19, .mv (.t 137), none⟩])
   (.seq (.reg [⟨some 20, .mv (.k (.int .i64 0)), none⟩,
    ⟨some 21, .mv (.k (.int .i64 0)), none⟩])
   (.seq (.seq (.reg [⟨some 138, .mv (.t 2), none⟩,
    ⟨some 139, .mv (.t 18), none⟩,
    ⟨some 140, .bin .gtr (.t 138) (.t 139) 0, none⟩])
   (.cond (.t 140) (.seq (.reg [⟨some 141, .mv (.t 19), none⟩,
    ⟨some 142, .mv (.t 3), none⟩,
    ⟨some 143, .bin .sub (.t 141) (.t 142) 0, none⟩,
    ⟨some 20, .mv (.t 143), none⟩])
   (.reg [⟨some 144, .mv (.t 18), none⟩,
    ⟨some 21, .mv (.t 144), none⟩])) (.seq (.reg [⟨some 145, .mv (.t 1), none⟩,
    ⟨some 20, .mv (.t 145), none⟩])
   (.reg [⟨some 146, .mv (.t 2), none⟩,
    ⟨some 21, .mv (.t 146), none⟩]))))
   (.seq (.reg [⟨some 147, .mv (.t 19), none⟩,
    ⟨some 148, .bin .sub (.t 147) (.k (.int .i64 1)) 0, none⟩,
    ⟨some 22, .mv (.t 148), none⟩])
   (.seq (.block 8 (.loop (.seq (.seq (.reg [⟨some 149, .mv (.t 20), none⟩,
    ⟨some 150, .mv (.t 21), none⟩,
    ⟨some 151, .bin .lss (.t 149) (.t 150) 0, none⟩])
   (.cond (.t 151) (.skip) (.exit 8)))
   (.block 9 (.seq (.reg [⟨some 152, .mv (.t 20), none⟩,
    ⟨some 153, .mv (.t 21), none⟩,
    ⟨some 154, .bin .add (.t 152) (.t 153) 0, none⟩,
    ⟨some 155, .conv .u64 (.t 154), none⟩,
    ⟨some 156, .bin .shr (.t 155) (.k (.int .u64 1)) 0, none⟩,
    ⟨some 157, .conv .i64 (.t 156), none⟩,
    ⟨some 23, .mv (.t 157), none⟩])
   (.seq (.dreg [] [⟨some 158, .mv (.t 4), none⟩,
    ⟨some 159, .mv (.t 0), none⟩,
    ⟨some 160, .mv (.t 22), none⟩,
    ⟨some 161, .mv (.t 23), none⟩,
    ⟨some 162, .bin .sub (.t 160) (.t 161) 0, none⟩,
    ⟨some 163, .ix 2 (.t 159) (.t 162), none⟩,
    ⟨some 164, .ld (.t 163) 2 true, none⟩,
    ⟨some 165, .mv (.t 0), none⟩,
    ⟨some 166, .mv (.t 23), none⟩,
    ⟨some 167, .ix 2 (.t 165) (.t 166), none⟩,
    ⟨some 168, .ld (.t 167) 2 true, none⟩,
    ⟨some 169, .callv (.t 158) [.t 164, .t 168], none⟩,
    ⟨some 170, .bin .lss (.t 169) (.k (.int .i64 0)) 0, none⟩,
    ⟨some 171, .un .not (.t 170), none⟩])
   (.cond (.t 171) (.reg [⟨some 172, .mv (.t 23), none⟩,
    ⟨some 173, .bin .add (.t 172) (.k (.int .i64 1)) 0, none⟩,
    ⟨some 20, .mv (.t 173), none⟩]) (.reg [⟨some 174, .mv (.t 23), none⟩,
    ⟨some 21, .mv (.t 174), none⟩]))))))))
   (.seq (.reg [⟨some 175, .mv (.t 19), none⟩,
    ⟨some 176, .mv (.t 20), none⟩,
    ⟨some 177, .bin .sub (.t 175) (.t 176) 0, none⟩,
    ⟨some 24, .mv (.t 177), none⟩])
   (.seq (.seq (.reg [⟨some 178, .mv (.t 20), none⟩,
    ⟨some 179, .mv (.t 2), none⟩,
    ⟨some 180, .bin .lss (.t 178) (.t 179) 0, none⟩,
    ⟨some 181, .mv (.t 180), none⟩,
    ⟨some 182, .mv (.t 2), some (181, true)⟩,
    ⟨some 183, .mv (.t 24), some (181, true)⟩,
    ⟨some 184, .bin .lss (.t 182) (.t 183) 0, some (181, true)⟩,
    ⟨some 185, .pick (.t 181) (.t 184) (.k (.bool false)), none⟩])
   (.cond (.t 185) (.reg [⟨some 186, .mv (.t 0), none⟩,
    ⟨some 187, .mv (.t 20), none⟩,
    ⟨some 188, .mv (.t 2), none⟩,
    ⟨some 189, .mv (.t 24), none⟩,
    ⟨some 190, .mv (.t 4), none⟩,
    ⟨some 191, .call 235 [.t 186, .t 187, .t 188, .t 189, .t 190], none⟩]) (.skip)))
   (.seq (.seq (.reg [⟨some 192, .mv (.t 1), none⟩,
    ⟨some 193, .mv (.t 20), none⟩,
    ⟨some 194, .bin .lss (.t 192) (.t 193) 0, none⟩,
    ⟨some 195, .mv (.t 194), none⟩,
    ⟨some 196, .mv (.t 20), some (195, true)⟩,
    ⟨some 197, .mv (.t 18), some (195, true)⟩,
    ⟨some 198, .bin .lss (.t 196) (.t 197) 0, some (195, true)⟩,
    ⟨some 199, .pick (.t 195) (.t 198) (.k (.bool false)), none⟩])
   (.cond (.t 199) (.reg [⟨some 200, .mv (.t 0), none⟩,
    ⟨some 201, .mv (.t 1), none⟩,
    ⟨some 202, .mv (.t 20), none⟩,
    ⟨some 203, .mv (.t 18), none⟩,
    ⟨some 204, .mv (.t 4), none⟩,
    ⟨some 205, .call 225 [.t 200, .t 201, .t 202, .t 203, .t 204], none⟩]) (.skip)))
   (.seq (.reg [⟨some 206, .mv (.t 18), none⟩,
    ⟨some 207, .mv (.t 24), none⟩,
    ⟨some 208, .bin .lss (.t 206) (.t 207) 0, none⟩,
    ⟨some 209, .mv (.t 208), none⟩,
    ⟨some 210, .mv (.t 24), some (209, true)⟩,
    ⟨some 211, .mv (.t 3), some (209, true)⟩,
    ⟨some 212, .bin .lss (.t 210) (.t 211) 0, some (209, true)⟩,
    ⟨some 213, .pick (.t 209) (.t 212) (.k (.bool false)), none⟩])
   (.cond (.t 213) (.reg [⟨some 214, .mv (.t 0), none⟩,
    ⟨some 215, .mv (.t 18), none⟩,
    ⟨some 216, .mv (.t 24), none⟩,
    ⟨some 217, .mv (.t 3), none⟩,
    ⟨some 218, .mv (.t 4), none⟩,
    ⟨some 219, .call 225 [.t 214, .t 215, .t 216, .t 217, .t 218], none⟩]) (.skip)))))))))))))
def k225 : FCode := ⟨220, c225, [], none⟩
def c226 : LCode := .seq (.reg [⟨some 6, .mv (.k (.int .i64 20)), none⟩])
   (.seq (.reg [⟨some 10, .mv (.t 6), none⟩,
    ⟨some 7, .mv (.k (.int .i64 0)), none⟩,
    ⟨some 8, .mv (.t 10), none⟩])
   (.seq (.block 0 (.loop (.seq (.seq (.reg [⟨some 11, .mv (.t 8), none⟩,
    ⟨some 12, .mv (.t 1), none⟩,
    ⟨some 13, .bin .leq (.t 11) (.t 12) 0, none⟩])
   (.cond (.t 13) (.skip) (.exit 0)))
   (.block 1 (.seq (.reg [⟨some 14, .mv (.t 0), none⟩,
    ⟨some 15, .mv (.t 7), none⟩,
    ⟨some 16, .mv (.t 8), none⟩,
    ⟨some 17, .mv (.t 2), none⟩,
    ⟨some 18, .call 236 [.t 14, .t 15, .t 16, .t 17], none⟩])
   (.seq (.reg [⟨some 19, .mv (.t 8), none⟩,
    ⟨some 7, .mv (.t 19), none⟩])
   (.reg [⟨some 20, .mv (.t 8), none⟩,
    ⟨some 21, .mv (.t 6), none⟩,
    ⟨some 22, .bin .add (.t 20) (.t 21) 0, none⟩,
    ⟨some 8, .mv (.t 22), none⟩])))))))
   (.seq (.reg [⟨some 23, .mv (.t 0), none⟩,
    ⟨some 24, .mv (.t 7), none⟩,
    ⟨some 25, .mv (.t 1), none⟩,
    ⟨some 26, .mv (.t 2), none⟩,
    ⟨some 27, .call 236 [.t 23, .t 24, .t 25, .t 26], none⟩])
   (.block 2 (.loop (.seq (.seq (.reg [⟨some 28, .mv (.t 6), none⟩,
    ⟨some 29, .mv (.t 1), none⟩,
    ⟨some 30, .bin .lss (.t 28) (.t 29) 0, none⟩])
   (.cond (.t 30) (.skip) (.exit 2)))
   (.block 3 (.seq (.reg [⟨some 31, .mv (.t 6), none⟩,
    ⟨some 32, .bin .mul (.k (.int .i64 2)) (.t 31) 0, none⟩,
    ⟨some 7, .mv (.k (.int .i64 0)), none⟩,
    ⟨some 8, .mv (.t 32), none⟩])
   (.seq (.block 4 (.loop (.seq (.seq (.reg [⟨some 33, .mv (.t 8), none⟩,
    ⟨some 34, .mv (.t 1), none⟩,
    ⟨some 35, .bin .leq (.t 33) (.t 34) 0, none⟩])
   (.cond (.t 35) (.skip) (.exit 4)))
   (.block 5 (.seq (.reg [⟨some 36, .mv (.t 0), none⟩,
    ⟨some 37, .mv (.t 7), none⟩,
    ⟨some 38, .mv (.t 7), none⟩,
    ⟨some 39, .mv (.t 6), none⟩,
    ⟨some 40, .bin .add (.t 38) (.t 39) 0, none⟩,
    ⟨some 41, .mv (.t 8), none⟩,
    ⟨some 42, .mv (.t 2), none⟩,
    ⟨some 43, .call 237 [.t 36, .t 37, .t 40, .t 41, .t 42], none⟩])
   (.seq (.reg [⟨some 44, .mv (.t 8), none⟩,
    ⟨some 7, .mv (.t 44), none⟩])
   (.reg [⟨some 45, .mv (.t 8), none⟩,
    ⟨some 46, .mv (.t 6), none⟩,
    ⟨some 47, .bin .mul (.k (.int .i64 2)) (.t 46) 0, none⟩,
    ⟨some 48, .bin .add (.t 45) (.t 47) 0, none⟩,
    ⟨some 8, .mv (.t 48), none⟩])))))))
   (.seq (.seq (.reg [⟨some 49, .mv (.t 7), none⟩,
    ⟨some 50, .mv (.t 6), none⟩,
    ⟨some 51, .bin .add (.t 49) (.t 50) 0, none⟩,
    ⟨some 9, .mv (.t 51), none⟩])
   (.seq (.reg [⟨some 52, .mv (.t 9), none⟩,
    ⟨some 53, .mv (.t 1), none⟩,
    ⟨some 54, .bin .lss (.t 52) (.t 53) 0, none⟩])
   (.cond (.t 54) (.reg [⟨some 55, .mv (.t 0), none⟩,
    ⟨some 56, .mv (.t 7), none⟩,
    ⟨some 57, .mv (.t 9), none⟩,
    ⟨some 58, .mv (.t 1), none⟩,
    ⟨some 59, .mv (.t 2), none⟩,
    ⟨some 60, .call 237 [.t 55, .t 56, .t 57, .t 58, .t 59], none⟩]) (.skip))))
   (.reg [⟨some 61, .mv (.t 6), none⟩,
    ⟨some 62, .bin .mul (.t 61) (.k (.int .i64 2)) 0, none⟩,
    ⟨some 6, .mv (.t 62), none⟩])))))))))))
def k226 : FCode := ⟨63, c226, [], none⟩
def c227 : LCode := .seq (.reg [⟨some 6, .mv (.k (.ro 2 [] true)), none⟩])
   (.seq (.reg [⟨some 7, .mv (.k (.ro 2 [] true)), none⟩])
   (.seq (.seq (.reg [⟨some 10, .mv (.t 0), none⟩,
    ⟨some 11, .len (.t 10) false, none⟩,
    ⟨some 12, .mv (.k (.int .i64 0)), none⟩])
   (.block 0 (.loop (.seq (.reg [⟨some 13, .bin .lss (.t 12) (.t 11) 0, none⟩])
   (.seq (.cond (.t 13) (.skip) (.exit 0))
   (.seq (.block 1 (.seq (.reg [⟨some 14, .ix 2 (.t 10) (.t 12), none⟩,
    ⟨some 15, .ld (.t 14) 2 true, none⟩,
    ⟨some 9, .alloc [.int .i64 0, .int .i64 0], none⟩,
    ⟨none, .st (.t 9) (.t 15) 2, none⟩])
   (.seq (.reg [⟨some 16, .fa (.t 9) 1, none⟩,
    ⟨some 17, .ld (.t 16) 1 false, none⟩,
    ⟨some 18, .bin .neq (.t 17) (.k (.int .i64 0)) 0, none⟩])
   (.cond (.t 18) (.dreg [] [⟨some 19, .mv (.t 7), none⟩,
    ⟨some 20, .fa (.t 9) 0, none⟩,
    ⟨some 21, .ld (.t 20) 1 false, none⟩,
    ⟨some 22, .mv (.t 1), none⟩,
    ⟨some 23, .kcall 229 [.t 21, .t 22], none⟩,
    ⟨some 24, .fa (.t 9) 1, none⟩,
    ⟨some 25, .ld (.t 24) 1 false, none⟩,
    ⟨some 26, .un .neg (.t 25), none⟩,
    ⟨some 27, .build [.int .i64 0, .int .i64 0] [(0, 1, .t 23), (1, 1, .t 26)], none⟩,
    ⟨some 28, .fa (.t 9) 0, none⟩,
    ⟨some 29, .ld (.t 28) 1 false, none⟩,
    ⟨some 30, .mv (.t 2), none⟩,
    ⟨some 31, .kcall 229 [.t 29, .t 30], none⟩,
    ⟨some 32, .fa (.t 9) 1, none⟩,
    ⟨some 33, .ld (.t 32) 1 false, none⟩,
    ⟨some 34, .build [.int .i64 0, .int .i64 0] [(0, 1, .t 31), (1, 1, .t 33)], none⟩,
    ⟨some 35, .mks 2 [.t 27, .t 34], none⟩,
    ⟨some 36, .app 2 16 (.t 19) (.t 35), none⟩,
    ⟨some 7, .mv (.t 36), none⟩]) (.skip)))))
   (.reg [⟨some 37, .bin .add (.t 12) (.k (.int .i64 1)) 0, none⟩,
    ⟨some 12, .mv (.t 37), none⟩])))))))
   (.seq (.reg [⟨some 38, .mv (.t 7), none⟩,
    ⟨some 39, .call 98 [.t 38], none⟩,
    ⟨some 6, .mv (.t 39), none⟩])
   (.ret))))
def k227 : FCode := ⟨40, c227, [.tmp 6], none⟩
def c228 : LCode := .seq (.reg [⟨some 7, .mv (.t 2), none⟩,
    ⟨some 8, .bin .neq (.t 7) (.k (.int .i64 0)) 0, none⟩])
   (.cond (.t 8) (.dreg [] [⟨some 9, .ld (.t 3) 1 false, none⟩,
    ⟨some 10, .mv (.t 0), none⟩,
    ⟨some 11, .mv (.t 1), none⟩,
    ⟨some 12, .kcall 229 [.t 10, .t 11], none⟩,
    ⟨some 13, .mv (.t 2), none⟩,
    ⟨some 14, .build [.int .i64 0, .int .i64 0] [(0, 1, .t 12), (1, 1, .t 13)], none⟩,
    ⟨some 15, .mks 2 [.t 14], none⟩,
    ⟨some 16, .app 2 16 (.t 9) (.t 15), none⟩,
    ⟨none, .st (.t 3) (.t 16) 1, none⟩]) (.skip))
def k228 : FCode := ⟨17, c228, [], none⟩
def c229 : LCode := .seq (.reg [⟨some 4, .mv (.k (.int .i64 0)), none⟩])
   (.seq (.reg [⟨some 5, .mv (.t 0), none⟩,
    ⟨some 6, .bin .mul (.k (.int .i64 3)) (.t 5) 0, none⟩,
    ⟨some 7, .mv (.t 1), none⟩,
    ⟨some 8, .bin .add (.t 6) (.t 7) 0, none⟩,
    ⟨some 4, .mv (.t 8), none⟩])
   (.ret))
def k229 : FCode := ⟨9, c229, [.tmp 4], none⟩
def c230 : LCode := .seq (.reg [⟨some 4, .mv (.k (.ro 2 [] true)), none⟩])
   (.seq (.reg [⟨some 8, .mv (.t 0), none⟩,
    ⟨some 9, .mv (.t 1), none⟩,
    ⟨some 10, .call 238 [.t 8, .t 9], none⟩,
    ⟨some 5, .mv (.t 10), none⟩])
   (.seq (.seq (.reg [⟨some 11, .mv (.t 5), none⟩,
    ⟨some 12, .bin .eql (.t 11) (.k (.int .i64 (-1))) 0, none⟩])
   (.cond (.t 12) (.seq (.reg [⟨some 13, .mv (.t 0), none⟩,
    ⟨some 4, .mv (.t 13), none⟩])
   (.ret)) (.skip)))
   (.seq (.seq (.reg [⟨some 14, .mv (.t 5), none⟩,
    ⟨some 15, .bin .add (.t 14) (.k (.int .i64 1)) 0, none⟩,
    ⟨some 6, .mv (.t 15), none⟩])
   (.block 0 (.loop (.seq (.seq (.reg [⟨some 16, .mv (.t 6), none⟩,
    ⟨some 17, .mv (.t 0), none⟩,
    ⟨some 18, .len (.t 17) false, none⟩,
    ⟨some 19, .bin .lss (.t 16) (.t 18) 0, none⟩])
   (.cond (.t 19) (.skip) (.exit 0)))
   (.seq (.block 1 (.seq (.reg [⟨some 22, .mv (.t 0), none⟩,
    ⟨some 23, .mv (.t 6), none⟩,
    ⟨some 24, .ix 2 (.t 22) (.t 23), none⟩,
    ⟨some 25, .ld (.t 24) 2 true, none⟩,
    ⟨some 7, .alloc [.int .i64 0, .int .i64 0], none⟩,
    ⟨none, .st (.t 7) (.t 25) 2, none⟩])
   (.seq (.reg [⟨some 26, .mv (.t 1), none⟩,
    ⟨some 27, .ld (.t 7) 2 true, none⟩,
    ⟨some 28, .callv (.t 26) [.t 27], none⟩,
    ⟨some 29, .un .not (.t 28), none⟩])
   (.cond (.t 29) (.seq (.reg [⟨some 30, .mv (.t 0), none⟩,
    ⟨some 31, .mv (.t 5), none⟩,
    ⟨some 32, .ld (.t 7) 2 true, none⟩,
    ⟨some 33, .ix 2 (.t 30) (.t 31), none⟩,
    ⟨none, .st (.t 33) (.t 32) 2, none⟩])
   (.reg [⟨some 34, .mv (.t 5), none⟩,
    ⟨some 35, .bin .add (.t 34) (.k (.int .i64 1)) 0, none⟩,
    ⟨some 5, .mv (.t 35), none⟩])) (.skip)))))
   (.reg [⟨some 20, .mv (.t 6), none⟩,
    ⟨some 21, .bin .add (.t 20) (.k (.int .i64 1)) 0, none⟩,
    ⟨some 6, .mv (.t 21), none⟩]))))))
   (.seq (.reg [⟨some 36, .mv (.t 0), none⟩,
    ⟨some 37, .mv (.t 5), none⟩,
    ⟨some 38, .slc 2 (.t 36) (some (.t 37)) (none) (none), none⟩,
    ⟨none, .clr [.int .i64 0, .int .i64 0] (.t 38), none⟩])
   (.seq (.reg [⟨some 39, .mv (.t 0), none⟩,
    ⟨some 40, .mv (.t 5), none⟩,
    ⟨some 41, .slc 2 (.t 39) (none) (some (.t 40)) (none), none⟩,
    ⟨some 4, .mv (.t 41), none⟩])
   (.ret))))))
def k230 : FCode := ⟨42, c230, [.tmp 4], none⟩
def c231 : LCode := .seq (.reg [⟨some 1, .box (.t 0), none⟩,
    ⟨some 2, .mv (.k (.bool false)), none⟩])
   (.seq (.reg [⟨some 3, .fa (.t 1) 1, none⟩,
    ⟨some 4, .ld (.t 3) 1 false, none⟩,
    ⟨some 5, .bin .eql (.t 4) (.k (.int .i64 0)) 0, none⟩,
    ⟨some 2, .mv (.t 5), none⟩])
   (.ret))
def k231 : FCode := ⟨6, c231, [.tmp 2], none⟩
def c232 : LCode := .seq (.reg [⟨some 3, .box (.t 0), none⟩,
    ⟨some 6, .mv (.k (.ro 1 [] true)), none⟩])
   (.seq (.reg [⟨some 7, .mv (.k (.ro 1 [] true)), none⟩])
   (.seq (.seq (.reg [⟨some 10, .ld (.t 3) 1 false, none⟩,
    ⟨some 11, .len (.t 10) false, none⟩,
    ⟨some 12, .mv (.k (.int .i64 0)), none⟩])
   (.block 0 (.loop (.seq (.reg [⟨some 13, .bin .lss (.t 12) (.t 11) 0, none⟩])
   (.seq (.cond (.t 13) (.skip) (.exit 0))
   (.seq (.block 1 (.seq (.reg [⟨some 14, .mv (.t 12), none⟩,
    ⟨some 15, .ix 6 (.t 10) (.t 12), none⟩,
    ⟨some 16, .ld (.t 15) 6 true, none⟩,
    ⟨some 9, .alloc [.int .i64 0, .int .i64 0, .int .i64 0, .int .i64 0, .int .i64 0, .int .i64 0], none⟩,
    ⟨some 8, .mv (.t 14), none⟩,
    ⟨none, .st (.t 9) (.t 16) 6, none⟩])
   (.seq (.reg [⟨some 17, .fa (.t 9) 0, none⟩,
    ⟨some 18, .ld (.t 17) 1 false, none⟩,
    ⟨some 19, .mv (.t 1), none⟩,
    ⟨some 20, .bin .eql (.t 18) (.t 19) 0, none⟩,
    ⟨some 21, .mv (.t 20), none⟩,
    ⟨some 22, .fa (.t 9) 1, some (21, true)⟩,
    ⟨some 23, .ld (.t 22) 1 false, some (21, true)⟩,
    ⟨some 24, .mv (.t 2), some (21, true)⟩,
    ⟨some 25, .bin .leq (.t 23) (.t 24) 0, some (21, true)⟩,
    ⟨some 26, .pick (.t 21) (.t 25) (.k (.bool false)), none⟩,
    ⟨some 27, .mv (.t 26), none⟩,
    ⟨some 28, .mv (.t 2), some (27, true)⟩,
    ⟨some 29, .fa (.t 9) 2, some (27, true)⟩,
    ⟨some 30, .ld (.t 29) 1 false, some (27, true)⟩,
    ⟨some 31, .bin .lss (.t 28) (.t 30) 0, some (27, true)⟩,
    ⟨some 32, .pick (.t 27) (.t 31) (.k (.bool false)), none⟩,
    ⟨some 33, .mv (.t 32), none⟩,
    ⟨some 34, .fa (.t 9) 3, some (33, true)⟩,
    ⟨some 35, .ld (.t 34) 1 false, some (33, true)⟩,
    ⟨some 36, .bin .gtr (.t 35) (.k (.int .i64 0)) 0, some (33, true)⟩,
    ⟨some 37, .pick (.t 33) (.t 36) (.k (.bool false)), none⟩])
   (.cond (.t 37) (.reg [⟨some 38, .mv (.t 7), none⟩,
    ⟨some 39, .mv (.t 8), none⟩,
    ⟨some 40, .mks 1 [.t 39], none⟩,
    ⟨some 41, .app 1 8 (.t 38) (.t 40), none⟩,
    ⟨some 7, .mv (.t 41), none⟩]) (.skip)))))
   (.reg [⟨some 42, .bin .add (.t 12) (.k (.int .i64 1)) 0, none⟩,
    ⟨some 12, .mv (.t 42), none⟩])))))))
   (.seq (.reg [⟨some 43, .mv (.t 7), none⟩,
    ⟨some 44, .mkf 239 [.t 3], none⟩,
    ⟨some 45, .call 115 [.t 43, .t 44], none⟩])
   (.seq (.reg [⟨some 46, .mv (.t 7), none⟩,
    ⟨some 6, .mv (.t 46), none⟩])
   (.ret)))))
def k232 : FCode := ⟨47, c232, [.tmp 6], none⟩
def c233 : LCode := .seq (.reg [⟨some 10, .mv (.k (.int .i64 0)), none⟩])
   (.block 0 (.loop (.seq (.seq (.reg [⟨some 11, .mv (.t 10), none⟩,
    ⟨some 12, .mv (.t 3), none⟩,
    ⟨some 13, .bin .lss (.t 11) (.t 12) 0, none⟩])
   (.cond (.t 13) (.skip) (.exit 0)))
   (.seq (.block 1 (.dreg [] [⟨some 16, .mv (.t 0), none⟩,
    ⟨some 17, .mv (.t 1), none⟩,
    ⟨some 18, .mv (.t 10), none⟩,
    ⟨some 19, .bin .add (.t 17) (.t 18) 0, none⟩,
    ⟨some 20, .mv (.t 0), none⟩,
    ⟨some 21, .mv (.t 2), none⟩,
    ⟨some 22, .mv (.t 10), none⟩,
    ⟨some 23, .bin .add (.t 21) (.t 22) 0, none⟩,
    ⟨some 24, .mv (.t 0), none⟩,
    ⟨some 25, .mv (.t 2), none⟩,
    ⟨some 26, .mv (.t 10), none⟩,
    ⟨some 27, .bin .add (.t 25) (.t 26) 0, none⟩,
    ⟨some 28, .ix 12 (.t 24) (.t 27), none⟩,
    ⟨some 29, .ld (.t 28) 12 true, none⟩,
    ⟨some 30, .mv (.t 0), none⟩,
    ⟨some 31, .mv (.t 1), none⟩,
    ⟨some 32, .mv (.t 10), none⟩,
    ⟨some 33, .bin .add (.t 31) (.t 32) 0, none⟩,
    ⟨some 34, .ix 12 (.t 30) (.t 33), none⟩,
    ⟨some 35, .ld (.t 34) 12 true, none⟩,
    ⟨some 36, .ix 12 (.t 16) (.t 19), none⟩,
    ⟨none, .st (.t 36) (.t 29) 12, none⟩,
    ⟨some 37, .ix 12 (.t 20) (.t 23), none⟩,
    ⟨none, .st (.t 37) (.t 35) 12, none⟩]))
   (.reg [⟨some 14, .mv (.t 10), none⟩,
    ⟨some 15, .bin .add (.t 14) (.k (.int .i64 1)) 0, none⟩,
    ⟨some 10, .mv (.t 15), none⟩])))))
def k233 : FCode := ⟨38, c233, [], none⟩
def c234 : LCode := .seq (.reg [⟨some 10, .mv (.k (.int .i64 0)), none⟩])
   (.block 0 (.loop (.seq (.seq (.reg [⟨some 11, .mv (.t 10), none⟩,
    ⟨some 12, .mv (.t 3), none⟩,
    ⟨some 13, .bin .lss (.t 11) (.t 12) 0, none⟩])
   (.cond (.t 13) (.skip) (.exit 0)))
   (.seq (.block 1 (.dreg [] [⟨some 16, .mv (.t 0), none⟩,
    ⟨some 17, .mv (.t 1), none⟩,
    ⟨some 18, .mv (.t 10), none⟩,
    ⟨some 19, .bin .add (.t 17) (.t 18) 0, none⟩,
    ⟨some 20, .mv (.t 0), none⟩,
    ⟨some 21, .mv (.t 2), none⟩,
    ⟨some 22, .mv (.t 10), none⟩,
    ⟨some 23, .bin .add (.t 21) (.t 22) 0, none⟩,
    ⟨some 24, .mv (.t 0), none⟩,
    ⟨some 25, .mv (.t 2), none⟩,
    ⟨some 26, .mv (.t 10), none⟩,
    ⟨some 27, .bin .add (.t 25) (.t 26) 0, none⟩,
    ⟨some 28, .ix 1 (.t 24) (.t 27), none⟩,
    ⟨some 29, .ld (.t 28) 1 false, none⟩,
    ⟨some 30, .mv (.t 0), none⟩,
    ⟨some 31, .mv (.t 1), none⟩,
    ⟨some 32, .mv (.t 10), none⟩,
    ⟨some 33, .bin .add (.t 31) (.t 32) 0, none⟩,
    ⟨some 34, .ix 1 (.t 30) (.t 33), none⟩,
    ⟨some 35, .ld (.t 34) 1 false, none⟩,
    ⟨some 36, .ix 1 (.t 16) (.t 19), none⟩,
    ⟨none, .st (.t 36) (.t 29) 1, none⟩,
    ⟨some 37, .ix 1 (.t 20) (.t 23), none⟩,
    ⟨none, .st (.t 37) (.t 35) 1, none⟩]))
   (.reg [⟨some 14, .mv (.t 10), none⟩,
    ⟨some 15, .bin .add (.t 14) (.k (.int .i64 1)) 0, none⟩,
    ⟨some 10, .mv (.t 15), none⟩])))))
def k234 : FCode := ⟨38, c234, [], none⟩
def c235 : LCode := .seq (.reg [⟨some 12, .mv (.t 2), none⟩,
    ⟨some 13, .mv (.t 1), none⟩,
    ⟨some 14, .bin .sub (.t 12) (.t 13) 0, none⟩,
    ⟨some 10, .mv (.t 14), none⟩])
   (.seq (.reg [⟨some 15, .mv (.t 3), none⟩,
    ⟨some 16, .mv (.t 2), none⟩,
    ⟨some 17, .bin .sub (.t 15) (.t 16) 0, none⟩,
    ⟨some 11, .mv (.t 17), none⟩])
   (.seq (.block 0 (.loop (.seq (.seq (.reg [⟨some 18, .mv (.t 10), none⟩,
    ⟨some 19, .mv (.t 11), none⟩,
    ⟨some 20, .bin .neq (.t 18) (.t 19) 0, none⟩])
   (.cond (.t 20) (.skip) (.exit 0)))
   (.block 1 (.seq (.reg [⟨some 21, .mv (.t 10), none⟩,
    ⟨some 22, .mv (.t 11), none⟩,
    ⟨some 23, .bin .gtr (.t 21) (.t 22) 0, none⟩])
   (.cond (.t 23) (.seq (.reg [⟨some 24, .mv (.t 0), none⟩,
    ⟨some 25, .mv (.t 2), none⟩,
    ⟨some 26, .mv (.t 10), none⟩,
    ⟨some 27, .bin .sub (.t 25) (.t 26) 0, none⟩,
    ⟨some 28, .mv (.t 2), none⟩,
    ⟨some 29, .mv (.t 11), none⟩,
    ⟨some 30, .mv (.t 4), none⟩,
    ⟨some 31, .call 240 [.t 24, .t 27, .t 28, .t 29, .t 30], none⟩])
   (.reg [⟨some 32, .mv (.t 10), none⟩,
    ⟨some 33, .mv (.t 11), none⟩,
    ⟨some 34, .bin .sub (.t 32) (.t 33) 0, none⟩,
    ⟨some 10, .mv (.t 34), none⟩])) (.seq (.reg [⟨some 35, .mv (.t 0), none⟩,
    ⟨some 36, .mv (.t 2), none⟩,
    ⟨some 37, .mv (.t 10), none⟩,
    ⟨some 38, .bin .sub (.t 36) (.t 37) 0, none⟩,
    ⟨some 39, .mv (.t 2), none⟩,
    ⟨some 40, .mv (.t 11), none⟩,
    ⟨some 41, .bin .add (.t 39) (.t 40) 0, none⟩,
    ⟨some 42, .mv (.t 10), none⟩,
    ⟨some 43, .bin .sub (.t 41) (.t 42) 0, none⟩,
    ⟨some 44, .mv (.t 10), none⟩,
    ⟨some 45, .mv (.t 4), none⟩,
    ⟨some 46, .call 240 [.t 35, .t 38, .t 43, .t 44, .t 45], none⟩])
   (.reg [⟨some 47, .mv (.t 11), none⟩,
    ⟨some 48, .mv (.t 10), none⟩,
    ⟨some 49, .bin .sub (.t 47) (.t 48) 0, none⟩,
    ⟨some 11, .mv (.t 49), none⟩]))))))))
   (.reg [⟨some 50, .mv (.t 0), none⟩,
    ⟨some 51, .mv (.t 2), none⟩,
    ⟨some 52, .mv (.t 10), none⟩,
    ⟨some 53, .bin .sub (.t 51) (.t 52) 0, none⟩,
    ⟨some 54, .mv (.t 2), none⟩,
    ⟨some 55, .mv (.t 10), none⟩,
    ⟨some 56, .mv (.t 4), none⟩,
    ⟨some 57, .call 240 [.t 50, .t 53, .t 54, .t 55, .t 56], none⟩])))
def k235 : FCode := ⟨58, c235, [], none⟩
def c236 : LCode := .seq (.reg [⟨some 10, .mv (.t 1), none⟩,
    ⟨some 11, .bin .add (.t 10) (.k (.int .i64 1)) 0, none⟩,
    ⟨some 8, .mv (.t 11), none⟩])
   (.block 0 (.loop (.seq (.seq (.reg [⟨some 12, .mv (.t 8), none⟩,
    ⟨some 13, .mv (.t 2), none⟩,
    ⟨some 14, .bin .lss (.t 12) (.t 13) 0, none⟩])
   (.cond (.t 14) (.skip) (.exit 0)))
   (.seq (.block 1 (.seq (.reg [⟨some 17, .mv (.t 8), none⟩,
    ⟨some 9, .mv (.t 17), none⟩])
   (.block 2 (.loop (.seq (.seq (.dreg [] [⟨some 18, .mv (.t 9), none⟩,
    ⟨some 19, .mv (.t 1), none⟩,
    ⟨some 20, .bin .gtr (.t 18) (.t 19) 0, none⟩,
    ⟨some 21, .mv (.t 20), none⟩,
    ⟨some 22, .mv (.t 3), some (21, true)⟩,
    ⟨some 23, .mv (.t 0), some (21, true)⟩,
    ⟨some 24, .mv (.t 9), some (21, true)⟩,
    ⟨some 25, .ix 2 (.t 23) (.t 24), some (21, true)⟩,
    ⟨some 26, .ld (.t 25) 2 true, some (21, true)⟩,
    ⟨some 27, .mv (.t 0), some (21, true)⟩,
    ⟨some 28, .mv (.t 9), some (21, true)⟩,
    ⟨some 29, .bin .sub (.t 28) (.k (.int .i64 1)) 0, some (21, true)⟩,
    ⟨some 30, .ix 2 (.t 27) (.t 29), some (21, true)⟩,
    ⟨some 31, .ld (.t 30) 2 true, some (21, true)⟩,
    ⟨some 32, .callv (.t 22) [.t 26, .t 31], some (21, true)⟩,
    ⟨some 33, .bin .lss (.t 32) (.k (.int .i64 0)) 0, some (21, true)⟩,
    ⟨some 34, .pick (.t 21) (.t 33) (.k (.bool false)), none⟩])
   (.cond (.t 34) (.skip) (.exit 2)))
   (.seq (.block 3 (.dreg [] [⟨some 37, .mv (.t 0), none⟩,
    ⟨some 38, .mv (.t 9), none⟩,
    ⟨some 39, .mv (.t 0), none⟩,
    ⟨some 40, .mv (.t 9), none⟩,
    ⟨some 41, .bin .sub (.t 40) (.k (.int .i64 1)) 0, none⟩,
    ⟨some 42, .mv (.t 0), none⟩,
    ⟨some 43, .mv (.t 9), none⟩,
    ⟨some 44, .bin .sub (.t 43) (.k (.int .i64 1)) 0, none⟩,
    ⟨some 45, .ix 2 (.t 42) (.t 44), none⟩,
    ⟨some 46, .ld (.t 45) 2 true, none⟩,
    ⟨some 47, .mv (.t 0), none⟩,
    ⟨some 48, .mv (.t 9), none⟩,
    ⟨some 49, .ix 2 (.t 47) (.t 48), none⟩,
    ⟨some 50, .ld (.t 49) 2 true, none⟩,
    ⟨some 51, .ix 2 (.t 37) (.t 38), none⟩,
    ⟨none, .st (.t 51) (.t 46) 2, none⟩,
    ⟨some 52, .ix 2 (.t 39) (.t 41), none⟩,
    ⟨none, .st (.t 52) (.t 50) 2, none⟩]))
   (.reg [⟨some 35, .mv (.t 9), none⟩,
    ⟨some 36, .bin .sub (.t 35) (.k (.int .i64 1)) 0, none⟩,
    ⟨some 9, .mv (.t 36), none⟩])))))))
   (.reg [⟨some 15, .mv (.t 8), none⟩,
    ⟨some 16, .bin .add (.t 15) (.k (.int .i64 1)) 0, none⟩,
    ⟨some 8, .mv (.t 16), none⟩])))))
def k236 : FCode := ⟨53, c236, [], none⟩
def c237 : LCode := .seq (.seq (.reg [⟨some 25, .mv (.t 2), none⟩,
    ⟨some 26, .mv (.t 1), none⟩,
    ⟨some 27, .bin .sub (.t 25) (.t 26) 0, none⟩,
    ⟨some 28, .bin .eql (.t 27) (.k (.int .i64 1)) 0, none⟩])
   (.cond (.t 28) (.seq (.reg [⟨some 29, .mv (.t 2), none⟩,
    ⟨some 10, .mv (.t 29), none⟩])
   (.seq (.reg [⟨some 30, .mv (.t 3), none⟩,
    ⟨some 11, .mv (.t 30), none⟩])
   (.seq (.block 0 (.loop (.seq (.seq (.reg [⟨some 31, .mv (.t 10), none⟩,
    ⟨some 32, .mv (.t 11), none⟩,
    ⟨some 33, .bin .lss (.t 31) (.t 32) 0, none⟩])
   (.cond (.t 33) (.skip) (.exit 0)))
   (.block 1 (.seq (.reg [⟨some 34, .mv (.t 10), none⟩,
    ⟨some 35, .mv (.t 11), none⟩,
    ⟨some 36, .bin .add (.t 34) (.t 35) 0, none⟩,
    ⟨some 37, .conv .u64 (.t 36), none⟩,
    ⟨some 38, .bin .shr (.t 37) (.k (.int .u64 1)) 0, none⟩,
    ⟨some 39, .conv .i64 (.t 38), none⟩,
    ⟨some 12, .mv (.t 39), none⟩])
   (.seq (.dreg [] [⟨some 40, .mv (.t 4), none⟩,
    ⟨some 41, .mv (.t 0), none⟩,
    ⟨some 42, .mv (.t 12), none⟩,
    ⟨some 43, .ix 2 (.t 41) (.t 42), none⟩,
    ⟨some 44, .ld (.t 43) 2 true, none⟩,
    ⟨some 45, .mv (.t 0), none⟩,
    ⟨some 46, .mv (.t 1), none⟩,
    ⟨some 47, .ix 2 (.t 45) (.t 46), none⟩,
    ⟨some 48, .ld (.t 47) 2 true, none⟩,
    ⟨some 49, .callv (.t 40) [.t 44, .t 48], none⟩,
    ⟨some 50, .bin .lss (.t 49) (.k (.int .i64 0)) 0, none⟩])
   (.cond (.t 50) (.reg [⟨some 51, .mv (.t 12), none⟩,
    ⟨some 52, .bin .add (.t 51) (.k (.int .i64 1)) 0, none⟩,
    ⟨some 10, .mv (.t 52), none⟩]) (.reg [⟨some 53, .mv (.t 12), none⟩,
    ⟨some 11, .mv (.t 53), none⟩]))))))))
   (.seq (.seq (.reg [⟨some 54, .mv (.t 1), none⟩,
    ⟨some 13, .mv (.t 54), none⟩])
   (.block 2 (.loop (.seq (.seq (.reg [⟨some 55, .mv (.t 13), none⟩,
    ⟨some 56, .mv (.t 10), none⟩,
    ⟨some 57, .bin .sub (.t 56) (.k (.int .i64 1)) 0, none⟩,
    ⟨some 58, .bin .lss (.t 55) (.t 57) 0, none⟩])
   (.cond (.t 58) (.skip) (.exit 2)))
   (.seq (.block 3 (.dreg [] [⟨some 61, .mv (.t 0), none⟩,
    ⟨some 62, .mv (.t 13), none⟩,
    ⟨some 63, .mv (.t 0), none⟩,
    ⟨some 64, .mv (.t 13), none⟩,
    ⟨some 65, .bin .add (.t 64) (.k (.int .i64 1)) 0, none⟩,
    ⟨some 66, .mv (.t 0), none⟩,
    ⟨some 67, .mv (.t 13), none⟩,
    ⟨some 68, .bin .add (.t 67) (.k (.int .i64 1)) 0, none⟩,
    ⟨some 69, .ix 2 (.t 66) (.t 68), none⟩,
    ⟨some 70, .ld (.t 69) 2 true, none⟩,
    ⟨some 71, .mv (.t 0), none⟩,
    ⟨some 72, .mv (.t 13), none⟩,
    ⟨some 73, .ix 2 (.t 71) (.t 72), none⟩,
    ⟨some 74, .ld (.t 73) 2 true, none⟩,
    ⟨some 75, .ix 2 (.t 61) (.t 62), none⟩,
    ⟨none, .st (.t 75) (.t 70) 2, none⟩,
    ⟨some 76, .ix 2 (.t 63) (.t 65), none⟩,
    ⟨none, .st (.t 76) (.t 74) 2, none⟩]))
   (.reg [⟨some 59, .mv (.t 13), none⟩,
    ⟨some 60, .bin .add (.t 59) (.k (.int .i64 1)) 0, none⟩,
    ⟨some 13, .mv (.t 60), none⟩]))))))
   (.ret))))) (.skip)))
   (.seq (.seq (.reg [⟨some 77, .mv (.t 3), none⟩,
    ⟨some 78, .mv (.t 2), none⟩,
    ⟨some 79, .bin .sub (.t 77) (.t 78) 0, none⟩,
    ⟨some 80, .bin .eql (.t 79) (.k (.int .i64 1)) 0, none⟩])
   (.cond (.t 80) (.seq (.reg [⟨some 81, .mv (.t 1), none⟩,
    ⟨some 14, .mv (.t 81), none⟩])
   (.seq (.reg [⟨some 82, .mv (.t 2), none⟩,
    ⟨some 15, .mv (.t 82), none⟩])
   (.seq (.block 4 (.loop (.seq (.seq (.reg [⟨some 83, .mv (.t 14), none⟩,
    ⟨some 84, .mv (.t 15), none⟩,
    ⟨some 85, .bin .lss (.t 83) (.t 84) 0, none⟩])
   (.cond (.t 85) (.skip) (.exit 4)))
   (.block 5 (.seq (.reg [⟨some 86, .mv (.t 14), none⟩,
    ⟨some 87, .mv (.t 15), none⟩,
    ⟨some 88, .bin .add (.t 86) (.t 87) 0, none⟩,
    ⟨some 89, .conv .u64 (.t 88), none⟩,
    ⟨some 90, .bin .shr (.t 89) (.k (.int .u64 1)) 0, none⟩,
    ⟨some 91, .conv .i64 (.t 90), none⟩,
    ⟨some 16, .mv (.t 91), none⟩])
   (.seq (.dreg [] [⟨some 92, .mv (.t 4), none⟩,
    ⟨some 93, .mv (.t 0), none⟩,
    ⟨some 94, .mv (.t 2), none⟩,
    ⟨some 95, .ix 2 (.t 93) (.t 94), none⟩,
    ⟨some 96, .ld (.t 95) 2 true, none⟩,
    ⟨some 97, .mv (.t 0), none⟩,
    ⟨some 98, .mv (.t 16), none⟩,
    ⟨some 99, .ix 2 (.t 97) (.t 98), none⟩,
    ⟨some 100, .ld (.t 99) 2 true, none⟩,
    ⟨some 101, .callv (.t 92) [.t 96, .t 100], none⟩,
    ⟨some 102, .bin .lss (.t 101) (.k (.int .i64 0)) 0, none⟩,
    ⟨some 103, .un .not (.t 102), none⟩])
   (.cond (.t 103) (.reg [⟨some 104, .mv (.t 16), none⟩,
    ⟨some 105, .bin .add (.t 104) (.k (.int .i64 1)) 0, none⟩,
    ⟨some 14, .mv (.t 105), none⟩]) (.reg [⟨some 106, .mv (.t 16), none⟩,
    ⟨some 15, .mv (.t 106), none⟩]))))))))
   (.seq (.seq (.reg [⟨some 107, .mv (.t 2), none⟩,
    ⟨some 17, .mv (.t 107), none⟩])
   (.block 6 (.loop (.seq (.seq (.reg [⟨some 108, .mv (.t 17), none⟩,
    ⟨some 109, .mv (.t 14), none⟩,
    ⟨some 110, .bin .gtr (.t 108) (.t 109) 0, none⟩])
   (.cond (.t 110) (.skip) (.exit 6)))
   (.seq (.block 7 (.dreg [] [⟨some 113, .mv (.t 0), none⟩,
    ⟨some 114, .mv (.t 17), none⟩,
    ⟨some 115, .mv (.t 0), none⟩,
    ⟨some 116, .mv (.t 17), none⟩,
    ⟨some 117, .bin .sub (.t 116) (.k (.int .i64 1)) 0, none⟩,
    ⟨some 118, .mv (.t 0), none⟩,
    ⟨some 119, .mv (.t 17), none⟩,
    ⟨some 120, .bin .sub (.t 119) (.k (.int .i64 1)) 0, none⟩,
    ⟨some 121, .ix 2 (.t 118) (.t 120), none⟩,
    ⟨some 122, .ld (.t 121) 2 true, none⟩,
    ⟨some 123, .mv (.t 0), none⟩,
    ⟨some 124, .mv (.t 17), none⟩,
    ⟨some 125, .ix 2 (.t 123) (.t 124), none⟩,
    ⟨some 126, .ld (.t 125) 2 true, none⟩,
    ⟨some 127, .ix 2 (.t 113) (.t 114), none⟩,
    ⟨none, .st (.t 127) (.t 122) 2, none⟩,
    ⟨some 128, .ix 2 (.t 115) (.t 117), none⟩,
    ⟨none, .st (.t 128) (.t 126) 2, none⟩]))
   (.reg [⟨some 111, .mv (.t 17), none⟩,
    ⟨some 112, .bin .sub (.t 111) (.k (.int .i64 1)) 0, none⟩,
    ⟨some 17, .mv (.t 112), none⟩]))))))
   (.ret))))) (.skip)))
   (.seq (.reg [⟨some 129, .mv (.t 1), none⟩,
    ⟨some 130, .mv (.t 3), none⟩,
    ⟨some 131, .bin .add (.t 129) (.t 130) 0, none⟩,
    ⟨some 132, .conv .u64 (.t 131), none⟩,
    ⟨some 133, .bin .shr (.t 132) (.k (.int .u64 1)) 0, none⟩,
    ⟨some 134, .conv .i64 (.t 133), none⟩,
    ⟨some 18, .mv (.t 134), none⟩])
   (.seq (.reg [⟨some 135, .mv (.t 18), none⟩,
    ⟨some 136, .mv (.t 2), none⟩,
    ⟨some 137, .bin .add (.t 135) (.t 136) 0, none⟩,
    ⟨some 19, .mv (.t 137), none⟩])
   (.seq (.reg [⟨some 20, .mv (.k (.int .i64 0)), none⟩,
    ⟨some 21, .mv (.k (.int .i64 0)), none⟩])
   (.seq (.seq (.reg [⟨some 138, .mv (.t 2), none⟩,
    ⟨some 139, .mv (.t 18), none⟩,
    ⟨some 140, .bin .gtr (.t 138) (.t 139) 0, none⟩])
   (.cond (.t 140) (.seq (.reg [⟨some 141, .mv (.t 19), none⟩,
    ⟨some 142, .mv (.t 3), none⟩,
    ⟨some 143, .bin .sub (.t 141) (.t 142) 0, none⟩,
    ⟨some 20, .mv (.t 143), none⟩])
   (.reg [⟨some 144, .mv (.t 18), none⟩,
    ⟨some 21, .mv (.t 144), none⟩])) (.seq (.reg [⟨some 145, .mv (.t 1), none⟩,
    ⟨some 20, .mv (.t 145), none⟩])
   (.reg [⟨some 146, .mv (.t 2), none⟩,
    ⟨some 21, .mv (.t 146), none⟩]))))
   (.seq (.reg [⟨some 147, .mv (.t 19), none⟩,
    ⟨some 148, .bin .sub (.t 147) (.k (.int .i64 1)) 0, none⟩,
    ⟨some 22, .mv (.t 148), none⟩])
   (.seq (.block 8 (.loop (.seq (.seq (.reg [⟨some 149, .mv (.t 20), none⟩,
    ⟨some 150, .mv (.t 21), none⟩,
    ⟨some 151, .bin .lss (.t 149) (.t 150) 0, none⟩])
   (.cond (.t 151) (.skip) (.exit 8)))
   (.block 9 (.seq (.reg [⟨some 152, .mv (.t 20), none⟩,
    ⟨some 153, .mv (.t 21), none⟩,
    ⟨some 154, .bin .add (.t 152) (.t 153) 0, none⟩,
    ⟨some 155, .conv .u64 (.t 154), none⟩,
    ⟨some 156, .bin .shr (.t 155) (.k (.int .u64 1)) 0, none⟩,
    ⟨some 157, .conv .i64 (.t 156), none⟩,
    ⟨some 23, .mv (.t 157), none⟩])
   (.seq (.dreg [] [⟨some 158, .mv (.t 4), none⟩,
    ⟨some 159, .mv (.t 0), none⟩,
    ⟨some 160, .mv (.t 22), none⟩,
    ⟨some 161, .mv (.t 23), none⟩,
    ⟨some 162, .bin .sub (.t 160) (.t 161) 0, none⟩,
    ⟨some 163, .ix 2 (.t 159) (.t 162), none⟩,
    ⟨some 164, .ld (.t 163) 2 true, none⟩,
    ⟨some 165, .mv (.t 0), none⟩,
    ⟨some 166, .mv (.t 23), none⟩,
    ⟨some 167, .ix 2 (.t 165) (.t 166), none⟩,
    ⟨some 168, .ld (.t 167) 2 true, none⟩,
    ⟨some 169, .callv (.t 158) [.t 164, .t 168], none⟩,
    ⟨some 170, .bin .lss (.t 169) (.k (.int .i64 0)) 0, none⟩,
    ⟨some 171, .un .not (.t 170), none⟩])
   (.cond (.t 171) (.reg [⟨some 172, .mv (.t 23), none⟩,
    ⟨some 173, .bin .add (.t 172) (.k (.int .i64 1)) 0, none⟩,
    ⟨some 20, .mv (.t 173), none⟩]) (.reg [⟨some 174, .mv (.t 23), none⟩,
    ⟨some 21, .mv (.t 174), none⟩]))))))))
   (.seq (.reg [⟨some 175, .mv (.t 19), none⟩,
    ⟨some 176, .mv (.t 20), none⟩,
    ⟨some 177, .bin .sub (.t 175) (.t 176) 0, none⟩,
    ⟨some 24, .mv (.t 177), none⟩])
   (.seq (.seq (.reg [⟨some 178, .mv (.t 20), none⟩,
    ⟨some 179, .mv (.t 2), none⟩,
    ⟨some 180, .bin .lss (.t 178) (.t 179) 0, none⟩,
    ⟨some 181, .mv (.t 180), none⟩,
    ⟨some 182, .mv (.t 2), some (181, true)⟩,
    ⟨some 183, .mv (.t 24), some (181, true)⟩,
    ⟨some 184, .bin .lss (.t 182) (.t 183) 0, some (181, true)⟩,
    ⟨some 185, .pick (.t 181) (.t 184) (.k (.bool false)), none⟩])
   (.cond (.t 185) (.reg [⟨some 186, .mv (.t 0), none⟩,
    ⟨some 187, .mv (.t 20), none⟩,
    ⟨some 188, .mv (.t 2), none⟩,
    ⟨some 189, .mv (.t 24), none⟩,
    ⟨some 190, .mv (.t 4), none⟩,
    ⟨some 191, .call 241 [.t 186, .t 187, .t 188, .t 189, .t 190], none⟩]) (.skip)))
   (.seq (.seq (.reg [⟨some 192, .mv (.t 1), none⟩,
    ⟨some 193, .mv (.t 20), none⟩,
    ⟨some 194, .bin .lss (.t 192) (.t 193) 0, none⟩,
    ⟨some 195, .mv (.t 194), none⟩,
    ⟨some 196, .mv (.t 20), some (195, true)⟩,
    ⟨some 197, .mv (.t 18), some (195, true)⟩,
    ⟨some 198, .bin .lss (.t 196) (.t 197) 0, some (195, true)⟩,
    ⟨some 199, .pick (.t 195) (.t 198) (.k (.bool false)), none⟩])
   (.cond (.t 199) (.reg [⟨some 200, .mv (.t 0), none⟩,
    ⟨some 201, .mv (.t 1), none⟩,
    ⟨some 202, .mv (.t 20), none⟩,
    ⟨some 203, .mv (.t 18), none⟩,
    ⟨some 204, .mv (.t 4), none⟩,
    ⟨some 205, .call 237 [.t 200, .t 201, .t 202, .t 203, .t 204], none⟩]) (.skip)))
   (.seq (.reg [⟨some 206, .mv (.t 18), none⟩,
    ⟨some 207, .mv (.t 24), none⟩,
    ⟨some 208, .bin .lss (.t 206) (.t 207) 0, none⟩,
    ⟨some 209, .mv (.t 208), none⟩,
    ⟨some 210, .mv (.t 24), some (209, true)⟩,
    ⟨some 211, .mv (.t 3), some (209, true)⟩,
    ⟨some 212, .bin .lss (.t 210) (.t 211) 0, some (209, true)⟩,
    ⟨some 213, .pick (.t 209) (.t 212) (.k (.bool false)), none⟩])
   (.cond (.t 213) (.reg [⟨some 214, .mv (.t 0), none⟩,
    ⟨some 215, .mv (.t 18), none⟩,
    ⟨some 216, .mv (.t 24), none⟩,
    ⟨some 217, .mv (.t 3), none⟩,
    ⟨some 218, .mv (.t 4), none⟩,
    ⟨some 219, .call 237 [.t 214, .t 215, .t 216, .t 217, .t 218], none⟩]) (.skip)))))))))))))
def k237 : FCode := ⟨220, c237, [], none⟩
def c238 : LCode := .seq (.reg [⟨some 4, .mv (.k (.int .i64 0)), none⟩])
   (.seq (.seq (.reg [⟨some 6, .mv (.t 0), none⟩,
    ⟨some 7, .len (.t 6) false, none⟩,
    ⟨some 8, .mv (.k (.int .i64 0)), none⟩])
   (.block 0 (.loop (.seq (.reg [⟨some 9, .bin .lss (.t 8) (.t 7) 0, none⟩])
   (.seq (.cond (.t 9) (.skip) (.exit 0))
   (.seq (.block 1 (.seq (.reg [⟨some 10, .mv (.t 8), none⟩,
    ⟨some 5, .mv (.t 10), none⟩])
   (.seq (.reg [⟨some 11, .mv (.t 1), none⟩,
    ⟨some 12, .mv (.t 0), none⟩,
    ⟨some 13, .mv (.t 5), none⟩,
    ⟨some 14, .ix 2 (.t 12) (.t 13), none⟩,
    ⟨some 15, .ld (.t 14) 2 true, none⟩,
    ⟨some 16, .callv (.t 11) [.t 15], none⟩])
   (.cond (.t 16) (.seq (.reg [⟨some 17, .mv (.t 5), none⟩,
    ⟨some 4, .mv (.t 17), none⟩])
   (.ret)) (.skip)))))
   (.reg [⟨some 18, .bin .add (.t 8) (.k (.int .i64 1)) 0, none⟩,
    ⟨some 8, .mv (.t 18), none⟩])))))))
   (.seq (.reg [⟨some 4, .mv (.k (.int .i64 (-1))), none⟩])
   (.ret)))
def k238 : FCode := ⟨19, c238, [.tmp 4], none⟩
def c239 : LCode := .seq (.reg [⟨some 5, .mv (.k (.int .i64 0)), none⟩])
   (.seq (.dreg [] [⟨some 6, .ld (.t 2) 1 false, none⟩,
    ⟨some 7, .mv (.t 0), none⟩,
    ⟨some 8, .ix 6 (.t 6) (.t 7), none⟩,
    ⟨some 9, .fa (.t 8) 2, none⟩,
    ⟨some 10, .ld (.t 9) 1 false, none⟩,
    ⟨some 11, .ld (.t 2) 1 false, none⟩,
    ⟨some 12, .mv (.t 1), none⟩,
    ⟨some 13, .ix 6 (.t 11) (.t 12), none⟩,
    ⟨some 14, .fa (.t 13) 2, none⟩,
    ⟨some 15, .ld (.t 14) 1 false, none⟩,
    ⟨some 16, .call 112 [.t 10, .t 15], none⟩,
    ⟨some 5, .mv (.t 16), none⟩])
   (.ret))
def k239 : FCode := ⟨17, c239, [.tmp 5], none⟩

end Go.Proofs.YtfhflogbffibiaaGreat
