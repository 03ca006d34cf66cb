/-
  The abstract code of functions. Printed by my program.
-/
import Derived.Test.YtfhflogbffibiaaGreatVV
namespace Go.Proofs.YtfhflogbffibiaaGreat
open Go
set_option linter.unusedSimpArgs false
set_option linter.unusedVariables false

def c3 : LCode := .seq (.reg [⟨some 2, .box (.t 0), none⟩,
    ⟨some 3, .box (.t 1), none⟩,
    ⟨some 4, .mv (.k (.bool false)), none⟩])
   (.seq (.seq (.reg [⟨some 17, .ld (.t 2) 8 true, none⟩,
    ⟨some 18, .call 8 [.t 17], none⟩,
    ⟨some 19, .un .not (.t 18), none⟩])
   (.cond (.t 19) (.seq (.reg [⟨some 20, .call 9 [], none⟩,
    ⟨some 4, .mv (.t 20), none⟩])
   (.ret)) (.skip)))
   (.seq (.dreg [] [⟨some 22, .ld (.t 2) 8 true, none⟩,
    ⟨some 23, .ld (.t 3) 7 true, none⟩,
    ⟨some 24, .pcall 11 [.t 23], none⟩,
    ⟨some 25, .pcall 10 [.t 22, .t 24], none⟩,
    ⟨some 21, .mv (.t 25), none⟩,
    ⟨some 26, .ext (.t 21) 0, none⟩,
    ⟨some 27, .ext (.t 21) 1, none⟩,
    ⟨some 5, .alloc [.int .i64 0, .int .i64 0, .int .i64 0, .str ⟨#[]⟩, .str ⟨#[]⟩, .ro 1 [] true, .ro 2 [] true], none⟩,
    ⟨none, .st (.t 5) (.t 26) 7, none⟩,
    ⟨some 6, .mv (.t 27), none⟩])
   (.seq (.seq (.reg [⟨some 28, .mv (.t 6), none⟩,
    ⟨some 29, .bin .neq (.t 28) (.k (.int .i64 0)) 0, none⟩])
   (.cond (.t 29) (.seq (.reg [⟨some 30, .call 9 [], none⟩,
    ⟨some 31, .mv (.t 30), none⟩,
    ⟨some 32, .ld (.t 5) 7 true, some (31, true)⟩,
    ⟨some 33, .build [.int .i64 0, .int .i64 0, .int .i64 0, .str ⟨#[]⟩, .str ⟨#[]⟩, .ro 1 [] true, .ro 2 [] true] [], some (31, true)⟩,
    ⟨some 34, .call 12 [.t 32, .t 33], some (31, true)⟩,
    ⟨some 35, .pick (.t 31) (.t 34) (.k (.bool false)), none⟩,
    ⟨some 4, .mv (.t 35), none⟩])
   (.ret)) (.skip)))
   (.seq (.reg [⟨some 7, .mv (.k (.int .i64 0)), none⟩])
   (.seq (.seq (.reg [⟨some 8, .mv (.k (.int .i64 0)), none⟩])
   (.block 0 (.loop (.seq (.seq (.reg [⟨some 36, .mv (.t 8), none⟩,
    ⟨some 37, .fa (.t 5) 6, none⟩,
    ⟨some 38, .ld (.t 37) 1 false, none⟩,
    ⟨some 39, .len (.t 38) false, none⟩,
    ⟨some 40, .bin .lss (.t 36) (.t 39) 0, none⟩])
   (.cond (.t 40) (.skip) (.exit 0)))
   (.seq (.block 1 (.reg [⟨some 43, .mv (.t 7), none⟩,
    ⟨some 44, .fa (.t 5) 6, none⟩,
    ⟨some 45, .ld (.t 44) 1 false, none⟩,
    ⟨some 46, .mv (.t 8), none⟩,
    ⟨some 47, .ix 2 (.t 45) (.t 46), none⟩,
    ⟨some 48, .fa (.t 47) 1, none⟩,
    ⟨some 49, .ld (.t 48) 1 false, none⟩,
    ⟨some 50, .bin .add (.t 43) (.t 49) 0, none⟩,
    ⟨some 7, .mv (.t 50), none⟩]))
   (.reg [⟨some 41, .mv (.t 8), none⟩,
    ⟨some 42, .bin .add (.t 41) (.k (.int .i64 1)) 0, none⟩,
    ⟨some 8, .mv (.t 42), none⟩]))))))
   (.seq (.reg [⟨some 52, .ld (.t 2) 8 true, none⟩,
    ⟨some 53, .ld (.t 5) 7 true, none⟩,
    ⟨some 54, .call 13 [.t 52, .t 53], none⟩,
    ⟨some 51, .mv (.t 54), none⟩,
    ⟨some 55, .ext (.t 51) 0, none⟩,
    ⟨some 56, .ext (.t 51) 1, none⟩,
    ⟨some 9, .alloc [.int .i64 0, .int .i64 0, .int .i64 0, .ro 3 [] true, .ro 6 [] true, .ro 3 [] true, .ro 12 [] true, .ro 1 [] true], none⟩,
    ⟨none, .st (.t 9) (.t 55) 8, none⟩,
    ⟨some 10, .mv (.t 56), none⟩])
   (.seq (.reg [⟨some 11, .mv (.k (.int .i64 0)), none⟩,
    ⟨some 12, .mv (.k (.int .i64 0)), none⟩])
   (.seq (.dreg [] [⟨some 57, .fa (.t 2) 1, none⟩,
    ⟨some 58, .ld (.t 57) 1 false, none⟩,
    ⟨some 59, .fa (.t 2) 4, none⟩,
    ⟨some 60, .ld (.t 59) 1 false, none⟩,
    ⟨some 61, .kcall 14 [.t 58, .t 60], none⟩,
    ⟨some 62, .fa (.t 9) 1, none⟩,
    ⟨some 63, .ld (.t 62) 1 false, none⟩,
    ⟨some 64, .fa (.t 9) 4, none⟩,
    ⟨some 65, .ld (.t 64) 1 false, none⟩,
    ⟨some 66, .call 14 [.t 63, .t 65], none⟩,
    ⟨some 13, .mv (.t 61), none⟩,
    ⟨some 14, .mv (.t 66), none⟩])
   (.seq (.seq (.reg [⟨some 15, .mv (.k (.int .i64 0)), none⟩])
   (.block 2 (.loop (.seq (.seq (.reg [⟨some 67, .mv (.t 15), none⟩,
    ⟨some 68, .mv (.t 13), none⟩,
    ⟨some 69, .len (.t 68) false, none⟩,
    ⟨some 70, .bin .lss (.t 67) (.t 69) 0, none⟩])
   (.cond (.t 70) (.skip) (.exit 2)))
   (.seq (.block 3 (.reg [⟨some 73, .mv (.t 11), none⟩,
    ⟨some 74, .mv (.t 13), none⟩,
    ⟨some 75, .mv (.t 15), none⟩,
    ⟨some 76, .ix 1 (.t 74) (.t 75), none⟩,
    ⟨some 77, .ld (.t 76) 1 false, none⟩,
    ⟨some 78, .bin .add (.t 73) (.t 77) 0, none⟩,
    ⟨some 11, .mv (.t 78), none⟩]))
   (.reg [⟨some 71, .mv (.t 15), none⟩,
    ⟨some 72, .bin .add (.t 71) (.k (.int .i64 1)) 0, none⟩,
    ⟨some 15, .mv (.t 72), none⟩]))))))
   (.seq (.seq (.reg [⟨some 16, .mv (.k (.int .i64 0)), none⟩])
   (.block 4 (.loop (.seq (.seq (.reg [⟨some 79, .mv (.t 16), none⟩,
    ⟨some 80, .mv (.t 14), none⟩,
    ⟨some 81, .len (.t 80) false, none⟩,
    ⟨some 82, .bin .lss (.t 79) (.t 81) 0, none⟩])
   (.cond (.t 82) (.skip) (.exit 4)))
   (.seq (.block 5 (.reg [⟨some 85, .mv (.t 12), none⟩,
    ⟨some 86, .mv (.t 14), none⟩,
    ⟨some 87, .mv (.t 16), none⟩,
    ⟨some 88, .ix 1 (.t 86) (.t 87), none⟩,
    ⟨some 89, .ld (.t 88) 1 false, none⟩,
    ⟨some 90, .bin .add (.t 85) (.t 89) 0, none⟩,
    ⟨some 12, .mv (.t 90), none⟩]))
   (.reg [⟨some 83, .mv (.t 16), none⟩,
    ⟨some 84, .bin .add (.t 83) (.k (.int .i64 1)) 0, none⟩,
    ⟨some 16, .mv (.t 84), none⟩]))))))
   (.seq (.reg [⟨some 91, .call 9 [], none⟩,
    ⟨some 92, .mv (.t 91), none⟩,
    ⟨some 93, .mv (.t 7), some (92, true)⟩,
    ⟨some 94, .bin .eql (.t 93) (.k (.int .i64 0)) 0, some (92, true)⟩,
    ⟨some 95, .pick (.t 92) (.t 94) (.k (.bool false)), none⟩,
    ⟨some 96, .mv (.t 95), none⟩,
    ⟨some 97, .mv (.t 10), some (96, true)⟩,
    ⟨some 98, .bin .eql (.t 97) (.k (.int .i64 0)) 0, some (96, true)⟩,
    ⟨some 99, .pick (.t 96) (.t 98) (.k (.bool false)), none⟩,
    ⟨some 100, .mv (.t 99), none⟩,
    ⟨some 101, .mv (.t 11), some (100, true)⟩,
    ⟨some 102, .mv (.t 12), some (100, true)⟩,
    ⟨some 103, .bin .eql (.t 101) (.t 102) 0, some (100, true)⟩,
    ⟨some 104, .pick (.t 100) (.t 103) (.k (.bool false)), none⟩,
    ⟨some 105, .mv (.t 104), none⟩,
    ⟨some 106, .fa (.t 9) 0, some (105, true)⟩,
    ⟨some 107, .ld (.t 106) 1 false, some (105, true)⟩,
    ⟨some 108, .fa (.t 2) 0, some (105, true)⟩,
    ⟨some 109, .ld (.t 108) 1 false, some (105, true)⟩,
    ⟨some 110, .bin .add (.t 109) (.k (.int .i64 1)) 0, some (105, true)⟩,
    ⟨some 111, .bin .eql (.t 107) (.t 110) 0, some (105, true)⟩,
    ⟨some 112, .pick (.t 105) (.t 111) (.k (.bool false)), none⟩,
    ⟨some 113, .mv (.t 112), none⟩,
    ⟨some 114, .fa (.t 5) 0, some (113, true)⟩,
    ⟨some 115, .ld (.t 114) 1 false, some (113, true)⟩,
    ⟨some 116, .fa (.t 9) 0, some (113, true)⟩,
    ⟨some 117, .ld (.t 116) 1 false, some (113, true)⟩,
    ⟨some 118, .bin .eql (.t 115) (.t 117) 0, some (113, true)⟩,
    ⟨some 119, .pick (.t 113) (.t 118) (.k (.bool false)), none⟩,
    ⟨some 4, .mv (.t 119), none⟩])
   (.ret))))))))))))
def k3 : FCode := ⟨120, c3, [.tmp 4], none⟩
def c4 : LCode := .seq (.reg [⟨some 2, .box (.t 0), none⟩,
    ⟨some 3, .box (.t 1), none⟩,
    ⟨some 4, .mv (.k (.bool false)), none⟩])
   (.seq (.seq (.reg [⟨some 9, .ld (.t 2) 8 true, none⟩,
    ⟨some 10, .call 8 [.t 9], none⟩,
    ⟨some 11, .un .not (.t 10), none⟩,
    ⟨some 12, .mv (.t 11), none⟩,
    ⟨some 13, .fa (.t 3) 5, some (12, false)⟩,
    ⟨some 14, .ld (.t 13) 1 false, some (12, false)⟩,
    ⟨some 15, .len (.t 14) false, some (12, false)⟩,
    ⟨some 16, .bin .gtr (.t 15) (.k (.int .i64 20)) 0, some (12, false)⟩,
    ⟨some 17, .pick (.t 12) (.k (.bool true)) (.t 16), none⟩,
    ⟨some 18, .mv (.t 17), none⟩,
    ⟨some 19, .ld (.t 2) 8 true, some (18, false)⟩,
    ⟨some 20, .call 15 [.t 19, .k (.int .i64 32)], some (18, false)⟩,
    ⟨some 21, .bin .neq (.t 20) (.k (.int .i64 0)) 0, some (18, false)⟩,
    ⟨some 22, .pick (.t 18) (.k (.bool true)) (.t 21), none⟩])
   (.cond (.t 22) (.seq (.reg [⟨some 23, .call 16 [], none⟩,
    ⟨some 4, .mv (.t 23), none⟩])
   (.ret)) (.skip)))
   (.seq (.reg [⟨some 25, .ld (.t 2) 8 true, none⟩,
    ⟨some 26, .ld (.t 3) 7 true, none⟩,
    ⟨some 27, .call 10 [.t 25, .t 26], none⟩,
    ⟨some 24, .mv (.t 27), none⟩,
    ⟨some 28, .ext (.t 24) 0, none⟩,
    ⟨some 29, .ext (.t 24) 1, none⟩,
    ⟨some 5, .alloc [.int .i64 0, .int .i64 0, .int .i64 0, .str ⟨#[]⟩, .str ⟨#[]⟩, .ro 1 [] true, .ro 2 [] true], none⟩,
    ⟨none, .st (.t 5) (.t 28) 7, none⟩,
    ⟨some 6, .mv (.t 29), none⟩])
   (.seq (.seq (.reg [⟨some 30, .mv (.t 6), none⟩,
    ⟨some 31, .bin .neq (.t 30) (.k (.int .i64 0)) 0, none⟩])
   (.cond (.t 31) (.seq (.reg [⟨some 32, .call 16 [], none⟩,
    ⟨some 4, .mv (.t 32), none⟩])
   (.ret)) (.skip)))
   (.seq (.reg [⟨some 34, .ld (.t 2) 8 true, none⟩,
    ⟨some 35, .ld (.t 5) 7 true, none⟩,
    ⟨some 36, .call 13 [.t 34, .t 35], none⟩,
    ⟨some 33, .mv (.t 36), none⟩,
    ⟨some 37, .ext (.t 33) 0, none⟩,
    ⟨some 38, .ext (.t 33) 1, none⟩,
    ⟨some 7, .alloc [.int .i64 0, .int .i64 0, .int .i64 0, .ro 3 [] true, .ro 6 [] true, .ro 3 [] true, .ro 12 [] true, .ro 1 [] true], none⟩,
    ⟨none, .st (.t 7) (.t 37) 8, none⟩,
    ⟨some 8, .mv (.t 38), none⟩])
   (.seq (.reg [⟨some 39, .call 16 [], none⟩,
    ⟨some 40, .mv (.t 39), none⟩,
    ⟨some 41, .mv (.t 8), some (40, true)⟩,
    ⟨some 42, .bin .eql (.t 41) (.k (.int .i64 0)) 0, some (40, true)⟩,
    ⟨some 43, .pick (.t 40) (.t 42) (.k (.bool false)), none⟩,
    ⟨some 44, .mv (.t 43), none⟩,
    ⟨some 45, .ld (.t 7) 8 true, some (44, true)⟩,
    ⟨some 46, .call 15 [.t 45, .k (.int .i64 32)], some (44, true)⟩,
    ⟨some 47, .bin .eql (.t 46) (.k (.int .i64 0)) 0, some (44, true)⟩,
    ⟨some 48, .pick (.t 44) (.t 47) (.k (.bool false)), none⟩,
    ⟨some 4, .mv (.t 48), none⟩])
   (.ret))))))
def k4 : FCode := ⟨49, c4, [.tmp 4], none⟩
def c5 : LCode := .seq (.reg [⟨some 4, .box (.t 0), none⟩,
    ⟨some 5, .box (.t 1), none⟩,
    ⟨some 7, .box (.t 3), none⟩,
    ⟨some 8, .mv (.k (.bool false)), none⟩])
   (.seq (.seq (.reg [⟨some 13, .ld (.t 5) 8 true, none⟩,
    ⟨some 14, .call 17 [.t 13], none⟩,
    ⟨some 15, .un .not (.t 14), none⟩,
    ⟨some 16, .mv (.t 15), none⟩,
    ⟨some 17, .mv (.t 2), some (16, false)⟩,
    ⟨some 18, .bin .lss (.t 17) (.k (.int .i64 0)) 0, some (16, false)⟩,
    ⟨some 19, .pick (.t 16) (.k (.bool true)) (.t 18), none⟩,
    ⟨some 20, .mv (.t 19), none⟩,
    ⟨some 21, .mv (.t 2), some (20, false)⟩,
    ⟨some 22, .bin .gtr (.t 21) (.k (.int .i64 1099511627776)) 0, some (20, false)⟩,
    ⟨some 23, .pick (.t 20) (.k (.bool true)) (.t 22), none⟩])
   (.cond (.t 23) (.seq (.dreg [] [⟨some 24, .call 18 [], none⟩,
    ⟨some 25, .mv (.t 24), none⟩,
    ⟨some 26, .ld (.t 4) 4 true, some (25, true)⟩,
    ⟨some 27, .kcall 19 [.t 26], some (25, true)⟩,
    ⟨some 28, .ld (.t 4) 4 true, some (25, true)⟩,
    ⟨some 29, .call 20 [.t 28], some (25, true)⟩,
    ⟨some 30, .bin .eql (.t 27) (.t 29) 0, some (25, true)⟩,
    ⟨some 31, .pick (.t 25) (.t 30) (.k (.bool false)), none⟩,
    ⟨some 8, .mv (.t 31), none⟩])
   (.ret)) (.skip)))
   (.seq (.reg [⟨some 33, .ld (.t 4) 4 true, none⟩,
    ⟨some 34, .ld (.t 5) 8 true, none⟩,
    ⟨some 35, .mv (.t 2), none⟩,
    ⟨some 36, .ld (.t 7) 4 true, none⟩,
    ⟨some 37, .call 21 [.t 33, .t 34, .t 35, .t 36], none⟩,
    ⟨some 32, .mv (.t 37), none⟩,
    ⟨some 38, .ext (.t 32) 0, none⟩,
    ⟨some 39, .ext (.t 32) 1, none⟩,
    ⟨some 9, .alloc [.int .i64 0, .int .i64 0, .int .i64 0, .str ⟨#[]⟩, .str ⟨#[]⟩, .ro 1 [] true, .ro 2 [] true], none⟩,
    ⟨none, .st (.t 9) (.t 38) 7, none⟩,
    ⟨some 10, .mv (.t 39), none⟩])
   (.seq (.reg [⟨some 41, .ld (.t 4) 4 true, none⟩,
    ⟨some 42, .ld (.t 5) 8 true, none⟩,
    ⟨some 43, .mv (.t 2), none⟩,
    ⟨some 44, .ld (.t 7) 4 true, none⟩,
    ⟨some 45, .call 22 [.t 41, .t 42, .t 43, .t 44], none⟩,
    ⟨some 40, .mv (.t 45), none⟩,
    ⟨some 46, .ext (.t 40) 0, none⟩,
    ⟨some 47, .ext (.t 40) 1, none⟩,
    ⟨some 11, .alloc [.int .i64 0, .int .i64 0, .int .i64 0, .str ⟨#[]⟩, .str ⟨#[]⟩, .ro 1 [] true, .ro 2 [] true], none⟩,
    ⟨none, .st (.t 11) (.t 46) 7, none⟩,
    ⟨some 12, .mv (.t 47), none⟩])
   (.seq (.dreg [] [⟨some 48, .call 18 [], none⟩,
    ⟨some 49, .mv (.t 48), none⟩,
    ⟨some 50, .ld (.t 9) 7 true, some (49, true)⟩,
    ⟨some 51, .ld (.t 11) 7 true, some (49, true)⟩,
    ⟨some 52, .call 12 [.t 50, .t 51], some (49, true)⟩,
    ⟨some 53, .pick (.t 49) (.t 52) (.k (.bool false)), none⟩,
    ⟨some 54, .mv (.t 53), none⟩,
    ⟨some 55, .mv (.t 10), some (54, true)⟩,
    ⟨some 56, .mv (.t 12), some (54, true)⟩,
    ⟨some 57, .bin .eql (.t 55) (.t 56) 0, some (54, true)⟩,
    ⟨some 58, .pick (.t 54) (.t 57) (.k (.bool false)), none⟩,
    ⟨some 59, .mv (.t 58), none⟩,
    ⟨some 60, .ld (.t 4) 4 true, some (59, true)⟩,
    ⟨some 61, .kcall 19 [.t 60], some (59, true)⟩,
    ⟨some 62, .ld (.t 4) 4 true, some (59, true)⟩,
    ⟨some 63, .call 20 [.t 62], some (59, true)⟩,
    ⟨some 64, .bin .eql (.t 61) (.t 63) 0, some (59, true)⟩,
    ⟨some 65, .pick (.t 59) (.t 64) (.k (.bool false)), none⟩,
    ⟨some 8, .mv (.t 65), none⟩])
   (.ret)))))
def k5 : FCode := ⟨66, c5, [.tmp 8], none⟩
def c6 : LCode := .seq (.reg [⟨some 8, .mv (.k (.bool false)), none⟩])
   (.seq (.reg [⟨some 18, .mv (.t 0), none⟩,
    ⟨some 19, .mv (.t 1), none⟩,
    ⟨some 20, .call 23 [.t 18, .t 19], none⟩,
    ⟨some 9, .alloc [.int .i64 0, .int .i64 0, .int .i64 0, .int .i64 0], none⟩,
    ⟨none, .st (.t 9) (.t 20) 4, none⟩])
   (.seq (.reg [⟨some 21, .ld (.t 9) 4 true, none⟩,
    ⟨some 22, .mv (.t 2), none⟩,
    ⟨some 23, .call 24 [.t 21, .t 22, .k (.int .i64 40)], none⟩,
    ⟨some 10, .alloc [.int .i64 0, .int .i64 0, .int .i64 0, .ro 3 [] true, .ro 6 [] true, .ro 3 [] true, .ro 12 [] true, .ro 1 [] true], none⟩,
    ⟨none, .st (.t 10) (.t 23) 8, none⟩])
   (.seq (.reg [⟨some 24, .mv (.t 3), none⟩,
    ⟨some 25, .bin .rem (.t 24) (.k (.int .u16 200)) 0, none⟩,
    ⟨some 26, .conv .i64 (.t 25), none⟩,
    ⟨some 27, .bin .add (.k (.int .i64 40)) (.t 26) 0, none⟩,
    ⟨some 11, .mv (.t 27), none⟩])
   (.seq (.reg [⟨some 28, .ld (.t 10) 8 true, none⟩,
    ⟨some 29, .mv (.t 11), none⟩,
    ⟨some 30, .call 25 [.t 28, .t 29], none⟩,
    ⟨some 12, .mv (.t 30), none⟩])
   (.seq (.seq (.reg [⟨some 13, .mv (.k (.int .i64 0)), none⟩])
   (.block 0 (.loop (.seq (.seq (.reg [⟨some 31, .mv (.t 13), none⟩,
    ⟨some 32, .mv (.t 12), none⟩,
    ⟨some 33, .len (.t 32) false, none⟩,
    ⟨some 34, .bin .lss (.t 31) (.t 33) 0, none⟩])
   (.cond (.t 34) (.skip) (.exit 0)))
   (.seq (.block 1 (.seq (.dreg [] [⟨some 38, .ld (.t 10) 8 true, none⟩,
    ⟨some 39, .mv (.t 12), none⟩,
    ⟨some 40, .mv (.t 13), none⟩,
    ⟨some 41, .ix 7 (.t 39) (.t 40), none⟩,
    ⟨some 42, .ld (.t 41) 7 true, none⟩,
    ⟨some 43, .pcall 26 [.t 38, .t 42], none⟩,
    ⟨some 37, .mv (.t 43), none⟩,
    ⟨some 44, .ext (.t 37) 0, none⟩,
    ⟨some 45, .ext (.t 37) 1, none⟩,
    ⟨some 14, .alloc [.int .i64 0, .int .i64 0, .int .i64 0, .ro 3 [] true, .ro 6 [] true, .ro 3 [] true, .ro 12 [] true, .ro 1 [] true], none⟩,
    ⟨none, .st (.t 14) (.t 44) 8, none⟩,
    ⟨some 15, .mv (.t 45), none⟩])
   (.seq (.seq (.reg [⟨some 46, .mv (.t 15), none⟩,
    ⟨some 47, .un .not (.t 46), none⟩])
   (.cond (.t 47) (.seq (.reg [⟨some 8, .mv (.k (.bool false)), none⟩])
   (.ret)) (.skip)))
   (.reg [⟨some 48, .ld (.t 14) 8 true, none⟩,
    ⟨none, .st (.t 10) (.t 48) 8, none⟩]))))
   (.reg [⟨some 35, .mv (.t 13), none⟩,
    ⟨some 36, .bin .add (.t 35) (.k (.int .i64 1)) 0, none⟩,
    ⟨some 13, .mv (.t 36), none⟩]))))))
   (.seq (.seq (.reg [⟨some 16, .mv (.k (.int .i64 0)), none⟩])
   (.block 2 (.loop (.seq (.seq (.reg [⟨some 49, .mv (.t 16), none⟩,
    ⟨some 50, .fa (.t 10) 6, none⟩,
    ⟨some 51, .ld (.t 50) 1 false, none⟩,
    ⟨some 52, .len (.t 51) false, none⟩,
    ⟨some 53, .bin .lss (.t 49) (.t 52) 0, none⟩])
   (.cond (.t 53) (.skip) (.exit 2)))
   (.seq (.block 3 (.seq (.dreg [] [⟨some 56, .fa (.t 10) 6, none⟩,
    ⟨some 57, .ld (.t 56) 1 false, none⟩,
    ⟨some 58, .mv (.t 16), none⟩,
    ⟨some 59, .ix 12 (.t 57) (.t 58), none⟩,
    ⟨some 60, .fa (.t 59) 7, none⟩,
    ⟨some 61, .ld (.t 60) 1 false, none⟩,
    ⟨some 62, .bin .eql (.t 61) (.k (.int .i64 3)) 0, none⟩,
    ⟨some 63, .mv (.t 62), none⟩,
    ⟨some 64, .fa (.t 10) 6, some (63, true)⟩,
    ⟨some 65, .ld (.t 64) 1 false, some (63, true)⟩,
    ⟨some 66, .mv (.t 16), some (63, true)⟩,
    ⟨some 67, .ix 12 (.t 65) (.t 66), some (63, true)⟩,
    ⟨some 68, .fa (.t 67) 8, some (63, true)⟩,
    ⟨some 69, .ld (.t 68) 1 false, some (63, true)⟩,
    ⟨some 70, .fa (.t 10) 6, some (63, true)⟩,
    ⟨some 71, .ld (.t 70) 1 false, some (63, true)⟩,
    ⟨some 72, .mv (.t 16), some (63, true)⟩,
    ⟨some 73, .ix 12 (.t 71) (.t 72), some (63, true)⟩,
    ⟨some 74, .fa (.t 73) 3, some (63, true)⟩,
    ⟨some 75, .ld (.t 74) 1 false, some (63, true)⟩,
    ⟨some 76, .bin .add (.t 69) (.t 75) 0, some (63, true)⟩,
    ⟨some 77, .mv (.t 11), some (63, true)⟩,
    ⟨some 78, .bin .leq (.t 76) (.t 77) 0, some (63, true)⟩,
    ⟨some 79, .pick (.t 63) (.t 78) (.k (.bool false)), none⟩])
   (.cond (.t 79) (.seq (.reg [⟨some 8, .mv (.k (.bool false)), none⟩])
   (.ret)) (.skip))))
   (.reg [⟨some 54, .mv (.t 16), none⟩,
    ⟨some 55, .bin .add (.t 54) (.k (.int .i64 1)) 0, none⟩,
    ⟨some 16, .mv (.t 55), none⟩]))))))
   (.seq (.seq (.reg [⟨some 17, .mv (.k (.int .i64 0)), none⟩])
   (.block 4 (.loop (.seq (.seq (.reg [⟨some 80, .mv (.t 17), none⟩,
    ⟨some 81, .fa (.t 10) 4, none⟩,
    ⟨some 82, .ld (.t 81) 1 false, none⟩,
    ⟨some 83, .len (.t 82) false, none⟩,
    ⟨some 84, .bin .lss (.t 80) (.t 83) 0, none⟩])
   (.cond (.t 84) (.skip) (.exit 4)))
   (.seq (.block 5 (.seq (.reg [⟨some 87, .fa (.t 10) 4, none⟩,
    ⟨some 88, .ld (.t 87) 1 false, none⟩,
    ⟨some 89, .mv (.t 17), none⟩,
    ⟨some 90, .ix 6 (.t 88) (.t 89), none⟩,
    ⟨some 91, .fa (.t 90) 2, none⟩,
    ⟨some 92, .ld (.t 91) 1 false, none⟩,
    ⟨some 93, .mv (.t 11), none⟩,
    ⟨some 94, .bin .leq (.t 92) (.t 93) 0, none⟩,
    ⟨some 95, .mv (.t 94), none⟩,
    ⟨some 96, .fa (.t 10) 4, some (95, true)⟩,
    ⟨some 97, .ld (.t 96) 1 false, some (95, true)⟩,
    ⟨some 98, .mv (.t 17), some (95, true)⟩,
    ⟨some 99, .ix 6 (.t 97) (.t 98), some (95, true)⟩,
    ⟨some 100, .fa (.t 99) 3, some (95, true)⟩,
    ⟨some 101, .ld (.t 100) 1 false, some (95, true)⟩,
    ⟨some 102, .bin .gtr (.t 101) (.k (.int .i64 0)) 0, some (95, true)⟩,
    ⟨some 103, .pick (.t 95) (.t 102) (.k (.bool false)), none⟩])
   (.cond (.t 103) (.seq (.reg [⟨some 8, .mv (.k (.bool false)), none⟩])
   (.ret)) (.skip))))
   (.reg [⟨some 85, .mv (.t 17), none⟩,
    ⟨some 86, .bin .add (.t 85) (.k (.int .i64 1)) 0, none⟩,
    ⟨some 17, .mv (.t 86), none⟩]))))))
   (.seq (.reg [⟨some 104, .call 18 [], none⟩,
    ⟨some 105, .mv (.t 104), none⟩,
    ⟨some 106, .ld (.t 10) 8 true, some (105, true)⟩,
    ⟨some 107, .mv (.t 11), some (105, true)⟩,
    ⟨some 108, .call 25 [.t 106, .t 107], some (105, true)⟩,
    ⟨some 109, .len (.t 108) false, some (105, true)⟩,
    ⟨some 110, .bin .eql (.t 109) (.k (.int .i64 0)) 0, some (105, true)⟩,
    ⟨some 111, .pick (.t 105) (.t 110) (.k (.bool false)), none⟩,
    ⟨some 112, .mv (.t 111), none⟩,
    ⟨some 113, .ld (.t 10) 8 true, some (112, true)⟩,
    ⟨some 114, .call 8 [.t 113], some (112, true)⟩,
    ⟨some 115, .pick (.t 112) (.t 114) (.k (.bool false)), none⟩,
    ⟨some 8, .mv (.t 115), none⟩])
   (.ret)))))))))
def k6 : FCode := ⟨116, c6, [.tmp 8], none⟩
def c7 : LCode := .seq (.reg [⟨some 8, .box (.t 2), none⟩,
    ⟨some 12, .mv (.k (.bool false)), none⟩])
   (.seq (.seq (.reg [⟨some 23, .ld (.t 8) 8 true, none⟩,
    ⟨some 24, .call 17 [.t 23], none⟩,
    ⟨some 25, .un .not (.t 24), none⟩,
    ⟨some 26, .mv (.t 25), none⟩,
    ⟨some 27, .mv (.t 4), some (26, false)⟩,
    ⟨some 28, .len (.t 27) false, some (26, false)⟩,
    ⟨some 29, .bin .gtr (.t 28) (.k (.int .i64 100)) 0, some (26, false)⟩,
    ⟨some 30, .pick (.t 26) (.k (.bool true)) (.t 29), none⟩])
   (.cond (.t 30) (.seq (.reg [⟨some 31, .call 18 [], none⟩,
    ⟨some 12, .mv (.t 31), none⟩])
   (.ret)) (.skip)))
   (.seq (.reg [⟨some 32, .mv (.t 0), none⟩,
    ⟨some 33, .mv (.t 1), none⟩,
    ⟨some 34, .call 23 [.t 32, .t 33], none⟩,
    ⟨some 35, .mv (.t 3), none⟩,
    ⟨some 36, .call 27 [.t 35, .k (.int .i64 1099511627776)], none⟩,
    ⟨some 13, .alloc [.int .i64 0, .int .i64 0, .int .i64 0, .int .i64 0], none⟩,
    ⟨none, .st (.t 13) (.t 34) 4, none⟩,
    ⟨some 14, .mv (.t 36), none⟩])
   (.seq (.reg [⟨some 38, .ld (.t 13) 4 true, none⟩,
    ⟨some 39, .ld (.t 8) 8 true, none⟩,
    ⟨some 40, .mv (.t 14), none⟩,
    ⟨some 41, .mv (.t 4), none⟩,
    ⟨some 42, .call 28 [.t 38, .t 39, .t 40, .t 41], none⟩,
    ⟨some 37, .mv (.t 42), none⟩,
    ⟨some 43, .ext (.t 37) 0, none⟩,
    ⟨some 44, .ext (.t 37) 1, none⟩,
    ⟨some 15, .mv (.t 43), none⟩,
    ⟨some 16, .mv (.t 44), none⟩])
   (.seq (.reg [⟨some 46, .ld (.t 13) 4 true, none⟩,
    ⟨some 47, .ld (.t 8) 8 true, none⟩,
    ⟨some 48, .mv (.t 14), none⟩,
    ⟨some 49, .mv (.t 4), none⟩,
    ⟨some 50, .call 29 [.t 46, .t 47, .t 48, .t 49], none⟩,
    ⟨some 45, .mv (.t 50), none⟩,
    ⟨some 51, .ext (.t 45) 0, none⟩,
    ⟨some 52, .ext (.t 45) 1, none⟩,
    ⟨some 17, .mv (.t 51), none⟩,
    ⟨some 18, .mv (.t 52), none⟩])
   (.seq (.reg [⟨some 54, .ld (.t 13) 4 true, none⟩,
    ⟨some 55, .ld (.t 8) 8 true, none⟩,
    ⟨some 56, .mv (.t 14), none⟩,
    ⟨some 57, .mv (.t 5), none⟩,
    ⟨some 58, .call 30 [.t 54, .t 55, .t 56, .t 57], none⟩,
    ⟨some 53, .mv (.t 58), none⟩,
    ⟨some 59, .ext (.t 53) 0, none⟩,
    ⟨some 60, .ext (.t 53) 1, none⟩,
    ⟨some 19, .alloc [.int .i64 0, .int .i64 0, .int .i64 0, .str ⟨#[]⟩, .str ⟨#[]⟩, .ro 1 [] true, .ro 2 [] true], none⟩,
    ⟨none, .st (.t 19) (.t 59) 7, none⟩,
    ⟨some 20, .mv (.t 60), none⟩])
   (.seq (.reg [⟨some 62, .ld (.t 13) 4 true, none⟩,
    ⟨some 63, .ld (.t 8) 8 true, none⟩,
    ⟨some 64, .mv (.t 14), none⟩,
    ⟨some 65, .mv (.t 5), none⟩,
    ⟨some 66, .call 31 [.t 62, .t 63, .t 64, .t 65], none⟩,
    ⟨some 61, .mv (.t 66), none⟩,
    ⟨some 67, .ext (.t 61) 0, none⟩,
    ⟨some 68, .ext (.t 61) 1, none⟩,
    ⟨some 21, .alloc [.int .i64 0, .int .i64 0, .int .i64 0, .str ⟨#[]⟩, .str ⟨#[]⟩, .ro 1 [] true, .ro 2 [] true], none⟩,
    ⟨none, .st (.t 21) (.t 67) 7, none⟩,
    ⟨some 22, .mv (.t 68), none⟩])
   (.seq (.dreg [] [⟨some 69, .call 18 [], none⟩,
    ⟨some 70, .mv (.t 69), none⟩,
    ⟨some 71, .mv (.t 15), some (70, true)⟩,
    ⟨some 72, .mv (.t 17), some (70, true)⟩,
    ⟨some 73, .bin .eql (.t 71) (.t 72) 0, some (70, true)⟩,
    ⟨some 74, .pick (.t 70) (.t 73) (.k (.bool false)), none⟩,
    ⟨some 75, .mv (.t 74), none⟩,
    ⟨some 76, .mv (.t 16), some (75, true)⟩,
    ⟨some 77, .mv (.t 18), some (75, true)⟩,
    ⟨some 78, .bin .eql (.t 76) (.t 77) 100, some (75, true)⟩,
    ⟨some 79, .pick (.t 75) (.t 78) (.k (.bool false)), none⟩,
    ⟨some 80, .mv (.t 79), none⟩,
    ⟨some 81, .ld (.t 19) 7 true, some (80, true)⟩,
    ⟨some 82, .ld (.t 21) 7 true, some (80, true)⟩,
    ⟨some 83, .call 12 [.t 81, .t 82], some (80, true)⟩,
    ⟨some 84, .pick (.t 80) (.t 83) (.k (.bool false)), none⟩,
    ⟨some 85, .mv (.t 84), none⟩,
    ⟨some 86, .mv (.t 20), some (85, true)⟩,
    ⟨some 87, .mv (.t 22), some (85, true)⟩,
    ⟨some 88, .bin .eql (.t 86) (.t 87) 0, some (85, true)⟩,
    ⟨some 89, .pick (.t 85) (.t 88) (.k (.bool false)), none⟩,
    ⟨some 90, .mv (.t 89), none⟩,
    ⟨some 91, .ld (.t 8) 8 true, some (90, true)⟩,
    ⟨some 92, .mv (.t 14), some (90, true)⟩,
    ⟨some 93, .mv (.t 5), some (90, true)⟩,
    ⟨some 94, .kcall 32 [.t 91, .t 92, .t 93], some (90, true)⟩,
    ⟨some 95, .ld (.t 8) 8 true, some (90, true)⟩,
    ⟨some 96, .mv (.t 14), some (90, true)⟩,
    ⟨some 97, .mv (.t 5), some (90, true)⟩,
    ⟨some 98, .call 33 [.t 95, .t 96, .t 97], some (90, true)⟩,
    ⟨some 99, .bin .eql (.t 94) (.t 98) 0, some (90, true)⟩,
    ⟨some 100, .pick (.t 90) (.t 99) (.k (.bool false)), none⟩,
    ⟨some 12, .mv (.t 100), none⟩])
   (.ret))))))))
def k7 : FCode := ⟨101, c7, [.tmp 12], none⟩
def c8 : LCode := .seq (.reg [⟨some 1, .box (.t 0), none⟩,
    ⟨some 2, .mv (.k (.bool false)), none⟩])
   (.seq (.seq (.reg [⟨some 6, .fa (.t 1) 3, none⟩,
    ⟨some 7, .ld (.t 6) 1 false, none⟩,
    ⟨some 8, .len (.t 7) false, none⟩,
    ⟨some 9, .bin .gtr (.t 8) (.k (.int .i64 8)) 0, none⟩,
    ⟨some 10, .mv (.t 9), none⟩,
    ⟨some 11, .fa (.t 1) 4, some (10, false)⟩,
    ⟨some 12, .ld (.t 11) 1 false, some (10, false)⟩,
    ⟨some 13, .len (.t 12) false, some (10, false)⟩,
    ⟨some 14, .bin .gtr (.t 13) (.k (.int .i64 16)) 0, some (10, false)⟩,
    ⟨some 15, .pick (.t 10) (.k (.bool true)) (.t 14), none⟩,
    ⟨some 16, .mv (.t 15), none⟩,
    ⟨some 17, .fa (.t 1) 5, some (16, false)⟩,
    ⟨some 18, .ld (.t 17) 1 false, some (16, false)⟩,
    ⟨some 19, .len (.t 18) false, some (16, false)⟩,
    ⟨some 20, .bin .gtr (.t 19) (.k (.int .i64 16)) 0, some (16, false)⟩,
    ⟨some 21, .pick (.t 16) (.k (.bool true)) (.t 20), none⟩,
    ⟨some 22, .mv (.t 21), none⟩,
    ⟨some 23, .fa (.t 1) 6, some (22, false)⟩,
    ⟨some 24, .ld (.t 23) 1 false, some (22, false)⟩,
    ⟨some 25, .len (.t 24) false, some (22, false)⟩,
    ⟨some 26, .bin .gtr (.t 25) (.k (.int .i64 16)) 0, some (22, false)⟩,
    ⟨some 27, .pick (.t 22) (.k (.bool true)) (.t 26), none⟩,
    ⟨some 28, .mv (.t 27), none⟩,
    ⟨some 29, .fa (.t 1) 7, some (28, false)⟩,
    ⟨some 30, .ld (.t 29) 1 false, some (28, false)⟩,
    ⟨some 31, .len (.t 30) false, some (28, false)⟩,
    ⟨some 32, .bin .gtr (.t 31) (.k (.int .i64 8)) 0, some (28, false)⟩,
    ⟨some 33, .pick (.t 28) (.k (.bool true)) (.t 32), none⟩,
    ⟨some 34, .mv (.t 33), none⟩,
    ⟨some 35, .fa (.t 1) 0, some (34, false)⟩,
    ⟨some 36, .ld (.t 35) 1 false, some (34, false)⟩,
    ⟨some 37, .bin .lss (.t 36) (.k (.int .i64 0)) 0, some (34, false)⟩,
    ⟨some 38, .pick (.t 34) (.k (.bool true)) (.t 37), none⟩,
    ⟨some 39, .mv (.t 38), none⟩,
    ⟨some 40, .fa (.t 1) 0, some (39, false)⟩,
    ⟨some 41, .ld (.t 40) 1 false, some (39, false)⟩,
    ⟨some 42, .bin .gtr (.t 41) (.k (.int .i64 1152921504606846976)) 0, some (39, false)⟩,
    ⟨some 43, .pick (.t 39) (.k (.bool true)) (.t 42), none⟩,
    ⟨some 44, .mv (.t 43), none⟩,
    ⟨some 45, .fa (.t 1) 2, some (44, false)⟩,
    ⟨some 46, .ld (.t 45) 1 false, some (44, false)⟩,
    ⟨some 47, .bin .lss (.t 46) (.k (.int .i64 0)) 0, some (44, false)⟩,
    ⟨some 48, .pick (.t 44) (.k (.bool true)) (.t 47), none⟩,
    ⟨some 49, .mv (.t 48), none⟩,
    ⟨some 50, .fa (.t 1) 2, some (49, false)⟩,
    ⟨some 51, .ld (.t 50) 1 false, some (49, false)⟩,
    ⟨some 52, .bin .gtr (.t 51) (.k (.int .i64 1152921504606846976)) 0, some (49, false)⟩,
    ⟨some 53, .pick (.t 49) (.k (.bool true)) (.t 52), none⟩])
   (.cond (.t 53) (.seq (.reg [⟨some 2, .mv (.k (.bool false)), none⟩])
   (.ret)) (.skip)))
   (.seq (.seq (.reg [⟨some 3, .mv (.k (.int .i64 0)), none⟩])
   (.block 0 (.loop (.seq (.seq (.reg [⟨some 54, .mv (.t 3), none⟩,
    ⟨some 55, .fa (.t 1) 6, none⟩,
    ⟨some 56, .ld (.t 55) 1 false, none⟩,
    ⟨some 57, .len (.t 56) false, none⟩,
    ⟨some 58, .bin .lss (.t 54) (.t 57) 0, none⟩])
   (.cond (.t 58) (.skip) (.exit 0)))
   (.seq (.block 1 (.seq (.reg [⟨some 61, .fa (.t 1) 6, none⟩,
    ⟨some 62, .ld (.t 61) 1 false, none⟩,
    ⟨some 63, .mv (.t 3), none⟩,
    ⟨some 64, .ix 12 (.t 62) (.t 63), none⟩,
    ⟨some 65, .ld (.t 64) 12 true, none⟩,
    ⟨some 4, .alloc [.int .i64 0, .int .i64 0, .int .i64 0, .int .i64 0, .int .i64 0, .int .i64 0, .int .i64 0, .int .i64 0, .int .i64 0, .int .i64 0, .int .i64 0, .ro 2 [] true], none⟩,
    ⟨none, .st (.t 4) (.t 65) 12, none⟩])
   (.seq (.seq (.reg [⟨some 66, .fa (.t 4) 8, none⟩,
    ⟨some 67, .ld (.t 66) 1 false, none⟩,
    ⟨some 68, .bin .lss (.t 67) (.k (.int .i64 0)) 0, none⟩,
    ⟨some 69, .mv (.t 68), none⟩,
    ⟨some 70, .fa (.t 4) 8, some (69, false)⟩,
    ⟨some 71, .ld (.t 70) 1 false, some (69, false)⟩,
    ⟨some 72, .bin .gtr (.t 71) (.k (.int .i64 1125899906842624)) 0, some (69, false)⟩,
    ⟨some 73, .pick (.t 69) (.k (.bool true)) (.t 72), none⟩,
    ⟨some 74, .mv (.t 73), none⟩,
    ⟨some 75, .fa (.t 4) 3, some (74, false)⟩,
    ⟨some 76, .ld (.t 75) 1 false, some (74, false)⟩,
    ⟨some 77, .bin .lss (.t 76) (.k (.int .i64 0)) 0, some (74, false)⟩,
    ⟨some 78, .pick (.t 74) (.k (.bool true)) (.t 77), none⟩,
    ⟨some 79, .mv (.t 78), none⟩,
    ⟨some 80, .fa (.t 4) 3, some (79, false)⟩,
    ⟨some 81, .ld (.t 80) 1 false, some (79, false)⟩,
    ⟨some 82, .bin .gtr (.t 81) (.k (.int .i64 1125899906842624)) 0, some (79, false)⟩,
    ⟨some 83, .pick (.t 79) (.k (.bool true)) (.t 82), none⟩,
    ⟨some 84, .mv (.t 83), none⟩,
    ⟨some 85, .fa (.t 4) 11, some (84, false)⟩,
    ⟨some 86, .ld (.t 85) 1 false, some (84, false)⟩,
    ⟨some 87, .len (.t 86) false, some (84, false)⟩,
    ⟨some 88, .bin .gtr (.t 87) (.k (.int .i64 16)) 0, some (84, false)⟩,
    ⟨some 89, .pick (.t 84) (.k (.bool true)) (.t 88), none⟩])
   (.cond (.t 89) (.seq (.reg [⟨some 2, .mv (.k (.bool false)), none⟩])
   (.ret)) (.skip)))
   (.seq (.reg [⟨some 5, .mv (.k (.int .i64 0)), none⟩])
   (.block 2 (.loop (.seq (.seq (.reg [⟨some 90, .mv (.t 5), none⟩,
    ⟨some 91, .fa (.t 4) 11, none⟩,
    ⟨some 92, .ld (.t 91) 1 false, none⟩,
    ⟨some 93, .len (.t 92) false, none⟩,
    ⟨some 94, .bin .lss (.t 90) (.t 93) 0, none⟩])
   (.cond (.t 94) (.skip) (.exit 2)))
   (.seq (.block 3 (.seq (.reg [⟨some 97, .fa (.t 4) 11, none⟩,
    ⟨some 98, .ld (.t 97) 1 false, none⟩,
    ⟨some 99, .mv (.t 5), none⟩,
    ⟨some 100, .ix 2 (.t 98) (.t 99), none⟩,
    ⟨some 101, .fa (.t 100) 0, none⟩,
    ⟨some 102, .ld (.t 101) 1 false, none⟩,
    ⟨some 103, .bin .lss (.t 102) (.k (.int .i64 0)) 0, none⟩,
    ⟨some 104, .mv (.t 103), none⟩,
    ⟨some 105, .fa (.t 4) 11, some (104, false)⟩,
    ⟨some 106, .ld (.t 105) 1 false, some (104, false)⟩,
    ⟨some 107, .mv (.t 5), some (104, false)⟩,
    ⟨some 108, .ix 2 (.t 106) (.t 107), some (104, false)⟩,
    ⟨some 109, .fa (.t 108) 0, some (104, false)⟩,
    ⟨some 110, .ld (.t 109) 1 false, some (104, false)⟩,
    ⟨some 111, .bin .gtr (.t 110) (.k (.int .i64 15)) 0, some (104, false)⟩,
    ⟨some 112, .pick (.t 104) (.k (.bool true)) (.t 111), none⟩,
    ⟨some 113, .mv (.t 112), none⟩,
    ⟨some 114, .fa (.t 4) 11, some (113, false)⟩,
    ⟨some 115, .ld (.t 114) 1 false, some (113, false)⟩,
    ⟨some 116, .mv (.t 5), some (113, false)⟩,
    ⟨some 117, .ix 2 (.t 115) (.t 116), some (113, false)⟩,
    ⟨some 118, .fa (.t 117) 1, some (113, false)⟩,
    ⟨some 119, .ld (.t 118) 1 false, some (113, false)⟩,
    ⟨some 120, .bin .lss (.t 119) (.k (.int .i64 (-1152921504606846976))) 0, some (113, false)⟩,
    ⟨some 121, .pick (.t 113) (.k (.bool true)) (.t 120), none⟩,
    ⟨some 122, .mv (.t 121), none⟩,
    ⟨some 123, .fa (.t 4) 11, some (122, false)⟩,
    ⟨some 124, .ld (.t 123) 1 false, some (122, false)⟩,
    ⟨some 125, .mv (.t 5), some (122, false)⟩,
    ⟨some 126, .ix 2 (.t 124) (.t 125), some (122, false)⟩,
    ⟨some 127, .fa (.t 126) 1, some (122, false)⟩,
    ⟨some 128, .ld (.t 127) 1 false, some (122, false)⟩,
    ⟨some 129, .bin .gtr (.t 128) (.k (.int .i64 1152921504606846976)) 0, some (122, false)⟩,
    ⟨some 130, .pick (.t 122) (.k (.bool true)) (.t 129), none⟩])
   (.cond (.t 130) (.seq (.reg [⟨some 2, .mv (.k (.bool false)), none⟩])
   (.ret)) (.skip))))
   (.reg [⟨some 95, .mv (.t 5), none⟩,
    ⟨some 96, .bin .add (.t 95) (.k (.int .i64 1)) 0, none⟩,
    ⟨some 5, .mv (.t 96), none⟩])))))))))
   (.reg [⟨some 59, .mv (.t 3), none⟩,
    ⟨some 60, .bin .add (.t 59) (.k (.int .i64 1)) 0, none⟩,
    ⟨some 3, .mv (.t 60), none⟩]))))))
   (.seq (.reg [⟨some 2, .mv (.k (.bool true)), none⟩])
   (.ret))))
def k8 : FCode := ⟨131, c8, [.tmp 2], none⟩
def c9 : LCode := .seq (.reg [⟨some 0, .mv (.k (.bool false)), none⟩])
   (.seq (.reg [⟨some 8, .mks 1 [.k (.int .i64 (-1)), .k (.int .i64 0)], none⟩,
    ⟨some 9, .build [.int .i64 0, .int .i64 0, .int .i64 0, .str ⟨#[]⟩, .str ⟨#[]⟩, .ro 1 [] true, .ro 2 [] true] [(2, 1, .k (.int .i64 1)), (4, 1, .k (.str ⟨#[97]⟩)), (5, 1, .t 8)], none⟩,
    ⟨some 10, .mks 1 [.k (.int .i64 0), .k (.int .i64 0), .k (.int .i64 99), .k (.int .i64 100)], none⟩,
    ⟨some 11, .build [.int .i64 0, .int .i64 0, .int .i64 0, .str ⟨#[]⟩, .str ⟨#[]⟩, .ro 1 [] true, .ro 2 [] true] [(2, 1, .k (.int .i64 2)), (5, 1, .t 10), (3, 1, .k (.str ⟨#[107]⟩))], none⟩,
    ⟨some 12, .mks 1 [.k (.int .i64 0), .k (.int .i64 3), .k (.int .i64 10), .k (.int .i64 0), .k (.int .i64 0), .k (.int .i64 2)], none⟩,
    ⟨some 13, .build [.int .i64 0, .int .i64 0, .int .i64 0, .str ⟨#[]⟩, .str ⟨#[]⟩, .ro 1 [] true, .ro 2 [] true] [(2, 1, .k (.int .i64 7)), (5, 1, .t 12)], none⟩,
    ⟨some 14, .mks 1 [.k (.int .i64 1), .k (.int .i64 7)], none⟩,
    ⟨some 15, .build [.int .i64 0, .int .i64 0, .int .i64 0, .str ⟨#[]⟩, .str ⟨#[]⟩, .ro 1 [] true, .ro 2 [] true] [(2, 1, .k (.int .i64 14)), (5, 1, .t 14), (1, 1, .k (.int .i64 5))], none⟩,
    ⟨some 16, .mks 7 [.t 9, .t 11, .t 13, .t 15], none⟩,
    ⟨some 17, .call 34 [.t 16, .k (.int .i64 9)], none⟩,
    ⟨some 1, .alloc [.int .i64 0, .int .i64 0, .int .i64 0, .ro 3 [] true, .ro 6 [] true, .ro 3 [] true, .ro 12 [] true, .ro 1 [] true], none⟩,
    ⟨none, .st (.t 1) (.t 17) 8, none⟩])
   (.seq (.reg [⟨some 19, .ld (.t 1) 8 true, none⟩,
    ⟨some 20, .mks 1 [.k (.int .i64 1), .k (.int .i64 4)], none⟩,
    ⟨some 21, .build [.int .i64 0, .int .i64 0, .int .i64 0, .str ⟨#[]⟩, .str ⟨#[]⟩, .ro 1 [] true, .ro 2 [] true] [(2, 1, .k (.int .i64 12)), (5, 1, .t 20), (1, 1, .k (.int .i64 9))], none⟩,
    ⟨some 22, .call 10 [.t 19, .t 21], none⟩,
    ⟨some 18, .mv (.t 22), none⟩,
    ⟨some 23, .ext (.t 18) 0, none⟩,
    ⟨some 24, .ext (.t 18) 1, none⟩,
    ⟨some 2, .alloc [.int .i64 0, .int .i64 0, .int .i64 0, .str ⟨#[]⟩, .str ⟨#[]⟩, .ro 1 [] true, .ro 2 [] true], none⟩,
    ⟨none, .st (.t 2) (.t 23) 7, none⟩,
    ⟨some 3, .mv (.t 24), none⟩])
   (.seq (.reg [⟨some 26, .ld (.t 1) 8 true, none⟩,
    ⟨some 27, .ld (.t 2) 7 true, none⟩,
    ⟨some 28, .call 13 [.t 26, .t 27], none⟩,
    ⟨some 25, .mv (.t 28), none⟩,
    ⟨some 29, .ext (.t 25) 0, none⟩,
    ⟨some 30, .ext (.t 25) 1, none⟩,
    ⟨some 4, .alloc [.int .i64 0, .int .i64 0, .int .i64 0, .ro 3 [] true, .ro 6 [] true, .ro 3 [] true, .ro 12 [] true, .ro 1 [] true], none⟩,
    ⟨none, .st (.t 4) (.t 29) 8, none⟩,
    ⟨some 5, .mv (.t 30), none⟩])
   (.seq (.reg [⟨some 32, .ld (.t 1) 8 true, none⟩,
    ⟨some 33, .mks 1 [.k (.int .i64 0), .k (.int .i64 1)], none⟩,
    ⟨some 34, .build [.int .i64 0, .int .i64 0, .int .i64 0, .str ⟨#[]⟩, .str ⟨#[]⟩, .ro 1 [] true, .ro 2 [] true] [(2, 1, .k (.int .i64 3)), (5, 1, .t 33), (3, 1, .k (.str ⟨#[107]⟩))], none⟩,
    ⟨some 35, .call 10 [.t 32, .t 34], none⟩,
    ⟨some 31, .mv (.t 35), none⟩,
    ⟨some 36, .ext (.t 31) 0, none⟩,
    ⟨some 37, .ext (.t 31) 1, none⟩,
    ⟨some 6, .alloc [.int .i64 0, .int .i64 0, .int .i64 0, .str ⟨#[]⟩, .str ⟨#[]⟩, .ro 1 [] true, .ro 2 [] true], none⟩,
    ⟨none, .st (.t 6) (.t 36) 7, none⟩,
    ⟨some 7, .mv (.t 37), none⟩])
   (.seq (.reg [⟨some 38, .fa (.t 1) 0, none⟩,
    ⟨some 39, .ld (.t 38) 1 false, none⟩,
    ⟨some 40, .bin .eql (.t 39) (.k (.int .i64 4)) 0, none⟩,
    ⟨some 41, .mv (.t 40), none⟩,
    ⟨some 42, .mv (.t 3), some (41, true)⟩,
    ⟨some 43, .bin .eql (.t 42) (.k (.int .i64 0)) 0, some (41, true)⟩,
    ⟨some 44, .pick (.t 41) (.t 43) (.k (.bool false)), none⟩,
    ⟨some 45, .mv (.t 44), none⟩,
    ⟨some 46, .mv (.t 5), some (45, true)⟩,
    ⟨some 47, .bin .eql (.t 46) (.k (.int .i64 0)) 0, some (45, true)⟩,
    ⟨some 48, .pick (.t 45) (.t 47) (.k (.bool false)), none⟩,
    ⟨some 49, .mv (.t 48), none⟩,
    ⟨some 50, .mv (.t 7), some (49, true)⟩,
    ⟨some 51, .bin .eql (.t 50) (.k (.int .i64 6)) 0, some (49, true)⟩,
    ⟨some 52, .pick (.t 49) (.t 51) (.k (.bool false)), none⟩,
    ⟨some 53, .mv (.t 52), none⟩,
    ⟨some 54, .fa (.t 2) 6, some (53, true)⟩,
    ⟨some 55, .ld (.t 54) 1 false, some (53, true)⟩,
    ⟨some 56, .len (.t 55) false, some (53, true)⟩,
    ⟨some 57, .bin .eql (.t 56) (.k (.int .i64 3)) 0, some (53, true)⟩,
    ⟨some 58, .pick (.t 53) (.t 57) (.k (.bool false)), none⟩,
    ⟨some 59, .mv (.t 58), none⟩,
    ⟨some 60, .fa (.t 4) 4, some (59, true)⟩,
    ⟨some 61, .ld (.t 60) 1 false, some (59, true)⟩,
    ⟨some 62, .build [.int .i64 0, .int .i64 0, .int .i64 0, .int .i64 0, .int .i64 0, .int .i64 0] [(2, 1, .k (.int .i64 99)), (3, 1, .k (.int .i64 76)), (5, 1, .k (.int .i64 24))], some (59, true)⟩,
    ⟨some 63, .mks 6 [.t 62], some (59, true)⟩,
    ⟨some 64, .call 35 [.t 61, .t 63], some (59, true)⟩,
    ⟨some 65, .pick (.t 59) (.t 64) (.k (.bool false)), none⟩,
    ⟨some 66, .mv (.t 65), none⟩,
    ⟨some 67, .fa (.t 4) 1, some (66, true)⟩,
    ⟨some 68, .ld (.t 67) 1 false, some (66, true)⟩,
    ⟨some 69, .bin .eql (.t 68) (.k (.int .i64 (-100))) 0, some (66, true)⟩,
    ⟨some 70, .pick (.t 66) (.t 69) (.k (.bool false)), none⟩,
    ⟨some 71, .mv (.t 70), none⟩,
    ⟨some 72, .fa (.t 1) 4, some (71, true)⟩,
    ⟨some 73, .ld (.t 72) 1 false, some (71, true)⟩,
    ⟨some 74, .len (.t 73) false, some (71, true)⟩,
    ⟨some 75, .bin .eql (.t 74) (.k (.int .i64 1)) 0, some (71, true)⟩,
    ⟨some 76, .pick (.t 71) (.t 75) (.k (.bool false)), none⟩,
    ⟨some 77, .mv (.t 76), none⟩,
    ⟨some 78, .fa (.t 1) 4, some (77, true)⟩,
    ⟨some 79, .ld (.t 78) 1 false, some (77, true)⟩,
    ⟨some 80, .ix 6 (.t 79) (.k (.int .i64 0)), some (77, true)⟩,
    ⟨some 81, .fa (.t 80) 4, some (77, true)⟩,
    ⟨some 82, .ld (.t 81) 1 false, some (77, true)⟩,
    ⟨some 83, .bin .eql (.t 82) (.k (.int .i64 60)) 0, some (77, true)⟩,
    ⟨some 84, .pick (.t 77) (.t 83) (.k (.bool false)), none⟩,
    ⟨some 0, .mv (.t 84), none⟩])
   (.ret))))))
def k9 : FCode := ⟨85, c9, [.tmp 0], none⟩
def c10 : LCode := .seq (.reg [⟨some 2, .box (.t 0), none⟩,
    ⟨some 3, .box (.t 1), none⟩,
    ⟨some 4, .alloc [.int .i64 0, .int .i64 0, .int .i64 0, .str ⟨#[]⟩, .str ⟨#[]⟩, .ro 1 [] true, .ro 2 [] true], none⟩,
    ⟨some 5, .mv (.k (.int .i64 0)), none⟩])
   (.seq (.reg [⟨some 10, .ld (.t 2) 8 true, none⟩,
    ⟨some 11, .ld (.t 3) 7 true, none⟩,
    ⟨some 12, .call 36 [.t 10, .t 11], none⟩,
    ⟨some 9, .mv (.t 12), none⟩,
    ⟨some 13, .ext (.t 9) 0, none⟩,
    ⟨some 14, .ext (.t 9) 1, none⟩,
    ⟨some 15, .ext (.t 9) 2, none⟩,
    ⟨some 6, .alloc [.int .i64 0, .int .i64 0, .int .i64 0, .ro 3 [] true, .ro 6 [] true, .ro 3 [] true, .ro 12 [] true, .ro 1 [] true], none⟩,
    ⟨some 7, .alloc [.int .i64 0, .int .i64 0, .int .i64 0, .str ⟨#[]⟩, .str ⟨#[]⟩, .ro 1 [] true, .ro 2 [] true], none⟩,
    ⟨none, .st (.t 6) (.t 13) 8, none⟩,
    ⟨none, .st (.t 7) (.t 14) 7, none⟩,
    ⟨some 8, .mv (.t 15), none⟩])
   (.seq (.reg [⟨some 16, .ld (.t 7) 7 true, none⟩,
    ⟨some 17, .mv (.t 8), none⟩,
    ⟨none, .st (.t 4) (.t 16) 7, none⟩,
    ⟨some 5, .mv (.t 17), none⟩])
   (.ret)))
def k10 : FCode := ⟨18, c10, [.cell 4 7 true, .tmp 5], none⟩
def c11 : LCode := .seq (.reg [⟨some 1, .box (.t 0), none⟩,
    ⟨some 2, .alloc [.int .i64 0, .int .i64 0, .int .i64 0, .str ⟨#[]⟩, .str ⟨#[]⟩, .ro 1 [] true, .ro 2 [] true], none⟩])
   (.seq (.seq (.reg [⟨some 3, .fa (.t 1) 5, none⟩,
    ⟨some 4, .ld (.t 3) 1 false, none⟩,
    ⟨some 5, .len (.t 4) false, none⟩,
    ⟨some 6, .bin .gtr (.t 5) (.k (.int .i64 20)) 0, none⟩])
   (.cond (.t 6) (.reg [⟨some 7, .fa (.t 1) 5, none⟩,
    ⟨some 8, .ld (.t 7) 1 false, none⟩,
    ⟨some 9, .slc 1 (.t 8) (none) (some (.k (.int .i64 20))) (none), none⟩,
    ⟨some 10, .fa (.t 1) 5, none⟩,
    ⟨none, .st (.t 10) (.t 9) 1, none⟩]) (.skip)))
   (.seq (.seq (.reg [⟨some 11, .fa (.t 1) 6, none⟩,
    ⟨some 12, .ld (.t 11) 1 false, none⟩,
    ⟨some 13, .len (.t 12) false, none⟩,
    ⟨some 14, .bin .gtr (.t 13) (.k (.int .i64 80)) 0, none⟩])
   (.cond (.t 14) (.reg [⟨some 15, .fa (.t 1) 6, none⟩,
    ⟨some 16, .ld (.t 15) 1 false, none⟩,
    ⟨some 17, .slc 2 (.t 16) (none) (some (.k (.int .i64 80))) (none), none⟩,
    ⟨some 18, .fa (.t 1) 6, none⟩,
    ⟨none, .st (.t 18) (.t 17) 1, none⟩]) (.skip)))
   (.seq (.reg [⟨some 19, .ld (.t 1) 7 true, none⟩,
    ⟨none, .st (.t 2) (.t 19) 7, none⟩])
   (.ret))))
def k11 : FCode := ⟨20, c11, [.cell 2 7 true], none⟩
def c12 : LCode := .seq (.reg [⟨some 2, .box (.t 0), none⟩,
    ⟨some 3, .box (.t 1), none⟩,
    ⟨some 4, .mv (.k (.bool false)), none⟩])
   (.seq (.seq (.reg [⟨some 7, .fa (.t 2) 0, none⟩,
    ⟨some 8, .ld (.t 7) 1 false, none⟩,
    ⟨some 9, .fa (.t 3) 0, none⟩,
    ⟨some 10, .ld (.t 9) 1 false, none⟩,
    ⟨some 11, .bin .neq (.t 8) (.t 10) 0, none⟩,
    ⟨some 12, .mv (.t 11), none⟩,
    ⟨some 13, .fa (.t 2) 1, some (12, false)⟩,
    ⟨some 14, .ld (.t 13) 1 false, some (12, false)⟩,
    ⟨some 15, .fa (.t 3) 1, some (12, false)⟩,
    ⟨some 16, .ld (.t 15) 1 false, some (12, false)⟩,
    ⟨some 17, .bin .neq (.t 14) (.t 16) 0, some (12, false)⟩,
    ⟨some 18, .pick (.t 12) (.k (.bool true)) (.t 17), none⟩,
    ⟨some 19, .mv (.t 18), none⟩,
    ⟨some 20, .fa (.t 2) 2, some (19, false)⟩,
    ⟨some 21, .ld (.t 20) 1 false, some (19, false)⟩,
    ⟨some 22, .fa (.t 3) 2, some (19, false)⟩,
    ⟨some 23, .ld (.t 22) 1 false, some (19, false)⟩,
    ⟨some 24, .bin .neq (.t 21) (.t 23) 0, some (19, false)⟩,
    ⟨some 25, .pick (.t 19) (.k (.bool true)) (.t 24), none⟩,
    ⟨some 26, .mv (.t 25), none⟩,
    ⟨some 27, .fa (.t 2) 3, some (26, false)⟩,
    ⟨some 28, .ld (.t 27) 1 false, some (26, false)⟩,
    ⟨some 29, .fa (.t 3) 3, some (26, false)⟩,
    ⟨some 30, .ld (.t 29) 1 false, some (26, false)⟩,
    ⟨some 31, .bin .neq (.t 28) (.t 30) 0, some (26, false)⟩,
    ⟨some 32, .pick (.t 26) (.k (.bool true)) (.t 31), none⟩,
    ⟨some 33, .mv (.t 32), none⟩,
    ⟨some 34, .fa (.t 2) 4, some (33, false)⟩,
    ⟨some 35, .ld (.t 34) 1 false, some (33, false)⟩,
    ⟨some 36, .fa (.t 3) 4, some (33, false)⟩,
    ⟨some 37, .ld (.t 36) 1 false, some (33, false)⟩,
    ⟨some 38, .bin .neq (.t 35) (.t 37) 0, some (33, false)⟩,
    ⟨some 39, .pick (.t 33) (.k (.bool true)) (.t 38), none⟩,
    ⟨some 40, .mv (.t 39), none⟩,
    ⟨some 41, .fa (.t 2) 5, some (40, false)⟩,
    ⟨some 42, .ld (.t 41) 1 false, some (40, false)⟩,
    ⟨some 43, .len (.t 42) false, some (40, false)⟩,
    ⟨some 44, .fa (.t 3) 5, some (40, false)⟩,
    ⟨some 45, .ld (.t 44) 1 false, some (40, false)⟩,
    ⟨some 46, .len (.t 45) false, some (40, false)⟩,
    ⟨some 47, .bin .neq (.t 43) (.t 46) 0, some (40, false)⟩,
    ⟨some 48, .pick (.t 40) (.k (.bool true)) (.t 47), none⟩,
    ⟨some 49, .mv (.t 48), none⟩,
    ⟨some 50, .fa (.t 2) 6, some (49, false)⟩,
    ⟨some 51, .ld (.t 50) 1 false, some (49, false)⟩,
    ⟨some 52, .len (.t 51) false, some (49, false)⟩,
    ⟨some 53, .fa (.t 3) 6, some (49, false)⟩,
    ⟨some 54, .ld (.t 53) 1 false, some (49, false)⟩,
    ⟨some 55, .len (.t 54) false, some (49, false)⟩,
    ⟨some 56, .bin .neq (.t 52) (.t 55) 0, some (49, false)⟩,
    ⟨some 57, .pick (.t 49) (.k (.bool true)) (.t 56), none⟩])
   (.cond (.t 57) (.seq (.reg [⟨some 4, .mv (.k (.bool false)), none⟩])
   (.ret)) (.skip)))
   (.seq (.seq (.reg [⟨some 5, .mv (.k (.int .i64 0)), none⟩])
   (.block 0 (.loop (.seq (.seq (.reg [⟨some 58, .mv (.t 5), none⟩,
    ⟨some 59, .fa (.t 2) 5, none⟩,
    ⟨some 60, .ld (.t 59) 1 false, none⟩,
    ⟨some 61, .len (.t 60) false, none⟩,
    ⟨some 62, .bin .lss (.t 58) (.t 61) 0, none⟩])
   (.cond (.t 62) (.skip) (.exit 0)))
   (.seq (.block 1 (.seq (.dreg [] [⟨some 65, .fa (.t 2) 5, none⟩,
    ⟨some 66, .ld (.t 65) 1 false, none⟩,
    ⟨some 67, .mv (.t 5), none⟩,
    ⟨some 68, .ix 1 (.t 66) (.t 67), none⟩,
    ⟨some 69, .ld (.t 68) 1 false, none⟩,
    ⟨some 70, .fa (.t 3) 5, none⟩,
    ⟨some 71, .ld (.t 70) 1 false, none⟩,
    ⟨some 72, .mv (.t 5), none⟩,
    ⟨some 73, .ix 1 (.t 71) (.t 72), none⟩,
    ⟨some 74, .ld (.t 73) 1 false, none⟩,
    ⟨some 75, .bin .neq (.t 69) (.t 74) 0, none⟩])
   (.cond (.t 75) (.seq (.reg [⟨some 4, .mv (.k (.bool false)), none⟩])
   (.ret)) (.skip))))
   (.reg [⟨some 63, .mv (.t 5), none⟩,
    ⟨some 64, .bin .add (.t 63) (.k (.int .i64 1)) 0, none⟩,
    ⟨some 5, .mv (.t 64), none⟩]))))))
   (.seq (.seq (.reg [⟨some 6, .mv (.k (.int .i64 0)), none⟩])
   (.block 2 (.loop (.seq (.seq (.reg [⟨some 76, .mv (.t 6), none⟩,
    ⟨some 77, .fa (.t 2) 6, none⟩,
    ⟨some 78, .ld (.t 77) 1 false, none⟩,
    ⟨some 79, .len (.t 78) false, none⟩,
    ⟨some 80, .bin .lss (.t 76) (.t 79) 0, none⟩])
   (.cond (.t 80) (.skip) (.exit 2)))
   (.seq (.block 3 (.seq (.dreg [] [⟨some 83, .fa (.t 2) 6, none⟩,
    ⟨some 84, .ld (.t 83) 1 false, none⟩,
    ⟨some 85, .mv (.t 6), none⟩,
    ⟨some 86, .ix 2 (.t 84) (.t 85), none⟩,
    ⟨some 87, .ld (.t 86) 2 true, none⟩,
    ⟨some 88, .fa (.t 3) 6, none⟩,
    ⟨some 89, .ld (.t 88) 1 false, none⟩,
    ⟨some 90, .mv (.t 6), none⟩,
    ⟨some 91, .ix 2 (.t 89) (.t 90), none⟩,
    ⟨some 92, .ld (.t 91) 2 true, none⟩,
    ⟨some 93, .bin .neq (.t 87) (.t 92) 2, none⟩])
   (.cond (.t 93) (.seq (.reg [⟨some 4, .mv (.k (.bool false)), none⟩])
   (.ret)) (.skip))))
   (.reg [⟨some 81, .mv (.t 6), none⟩,
    ⟨some 82, .bin .add (.t 81) (.k (.int .i64 1)) 0, none⟩,
    ⟨some 6, .mv (.t 82), none⟩]))))))
   (.seq (.reg [⟨some 4, .mv (.k (.bool true)), none⟩])
   (.ret)))))
def k12 : FCode := ⟨94, c12, [.tmp 4], none⟩
def c13 : LCode := .seq (.reg [⟨some 2, .box (.t 0), none⟩,
    ⟨some 3, .box (.t 1), none⟩,
    ⟨some 4, .alloc [.int .i64 0, .int .i64 0, .int .i64 0, .ro 3 [] true, .ro 6 [] true, .ro 3 [] true, .ro 12 [] true, .ro 1 [] true], none⟩,
    ⟨some 5, .mv (.k (.int .i64 0)), none⟩])
   (.seq (.reg [⟨some 10, .ld (.t 2) 8 true, none⟩,
    ⟨some 11, .ld (.t 3) 7 true, none⟩,
    ⟨some 12, .call 36 [.t 10, .t 11], none⟩,
    ⟨some 9, .mv (.t 12), none⟩,
    ⟨some 13, .ext (.t 9) 0, none⟩,
    ⟨some 14, .ext (.t 9) 1, none⟩,
    ⟨some 15, .ext (.t 9) 2, none⟩,
    ⟨some 6, .alloc [.int .i64 0, .int .i64 0, .int .i64 0, .ro 3 [] true, .ro 6 [] true, .ro 3 [] true, .ro 12 [] true, .ro 1 [] true], none⟩,
    ⟨some 7, .alloc [.int .i64 0, .int .i64 0, .int .i64 0, .str ⟨#[]⟩, .str ⟨#[]⟩, .ro 1 [] true, .ro 2 [] true], none⟩,
    ⟨none, .st (.t 6) (.t 13) 8, none⟩,
    ⟨none, .st (.t 7) (.t 14) 7, none⟩,
    ⟨some 8, .mv (.t 15), none⟩])
   (.seq (.seq (.reg [⟨some 16, .mv (.t 8), none⟩,
    ⟨some 17, .bin .neq (.t 16) (.k (.int .i64 0)) 0, none⟩])
   (.cond (.t 17) (.seq (.reg [⟨some 18, .build [.int .i64 0, .int .i64 0, .int .i64 0, .ro 3 [] true, .ro 6 [] true, .ro 3 [] true, .ro 12 [] true, .ro 1 [] true] [], none⟩,
    ⟨some 19, .mv (.t 8), none⟩,
    ⟨none, .st (.t 4) (.t 18) 8, none⟩,
    ⟨some 5, .mv (.t 19), none⟩])
   (.ret)) (.skip)))
   (.seq (.seq (.reg [⟨some 20, .fa (.t 7) 0, none⟩,
    ⟨some 21, .ld (.t 20) 1 false, none⟩,
    ⟨some 22, .fa (.t 3) 0, none⟩,
    ⟨some 23, .ld (.t 22) 1 false, none⟩,
    ⟨some 24, .bin .neq (.t 21) (.t 23) 0, none⟩,
    ⟨some 25, .mv (.t 24), none⟩,
    ⟨some 26, .fa (.t 7) 6, some (25, false)⟩,
    ⟨some 27, .ld (.t 26) 1 false, some (25, false)⟩,
    ⟨some 28, .fa (.t 3) 6, some (25, false)⟩,
    ⟨some 29, .ld (.t 28) 1 false, some (25, false)⟩,
    ⟨some 30, .call 37 [.t 27, .t 29], some (25, false)⟩,
    ⟨some 31, .un .not (.t 30), some (25, false)⟩,
    ⟨some 32, .pick (.t 25) (.k (.bool true)) (.t 31), none⟩])
   (.cond (.t 32) (.seq (.reg [⟨some 33, .build [.int .i64 0, .int .i64 0, .int .i64 0, .ro 3 [] true, .ro 6 [] true, .ro 3 [] true, .ro 12 [] true, .ro 1 [] true] [], none⟩,
    ⟨none, .st (.t 4) (.t 33) 8, none⟩,
    ⟨some 5, .mv (.k (.int .i64 3)), none⟩])
   (.ret)) (.skip)))
   (.seq (.reg [⟨some 34, .ld (.t 6) 8 true, none⟩,
    ⟨none, .st (.t 4) (.t 34) 8, none⟩,
    ⟨some 5, .mv (.k (.int .i64 0)), none⟩])
   (.ret)))))
def k13 : FCode := ⟨35, c13, [.cell 4 8 true, .tmp 5], none⟩
def c14 : LCode := .seq (.reg [⟨some 4, .mv (.k (.ro 1 [] true)), none⟩])
   (.seq (.reg [⟨some 7, .mv (.t 0), none⟩,
    ⟨some 8, .mks 1 [.t 7], none⟩,
    ⟨some 5, .mv (.t 8), none⟩])
   (.seq (.seq (.reg [⟨some 6, .mv (.k (.int .i64 0)), none⟩])
   (.block 0 (.loop (.seq (.seq (.reg [⟨some 9, .mv (.t 6), none⟩,
    ⟨some 10, .mv (.t 1), none⟩,
    ⟨some 11, .len (.t 10) false, none⟩,
    ⟨some 12, .bin .lss (.t 9) (.t 11) 0, none⟩])
   (.cond (.t 12) (.skip) (.exit 0)))
   (.seq (.block 1 (.dreg [(7, 12), (7, 19), (14, 19)] [⟨some 15, .mv (.t 5), none⟩,
    ⟨some 16, .mv (.t 1), none⟩,
    ⟨some 17, .mv (.t 6), none⟩,
    ⟨some 18, .ix 6 (.t 16) (.t 17), none⟩,
    ⟨some 19, .fa (.t 18) 3, none⟩,
    ⟨some 20, .ld (.t 19) 1 false, none⟩,
    ⟨some 21, .mks 1 [.t 20], none⟩,
    ⟨some 22, .app 1 8 (.t 15) (.t 21), none⟩,
    ⟨some 23, .mv (.t 1), none⟩,
    ⟨some 24, .mv (.t 6), none⟩,
    ⟨some 25, .ix 6 (.t 23) (.t 24), none⟩,
    ⟨some 26, .fa (.t 25) 4, none⟩,
    ⟨some 27, .ld (.t 26) 1 false, none⟩,
    ⟨some 28, .mks 1 [.t 27], none⟩,
    ⟨some 29, .app 1 8 (.t 22) (.t 28), none⟩,
    ⟨some 30, .mv (.t 1), none⟩,
    ⟨some 31, .mv (.t 6), none⟩,
    ⟨some 32, .ix 6 (.t 30) (.t 31), none⟩,
    ⟨some 33, .fa (.t 32) 5, none⟩,
    ⟨some 34, .ld (.t 33) 1 false, none⟩,
    ⟨some 35, .mks 1 [.t 34], none⟩,
    ⟨some 36, .app 1 8 (.t 29) (.t 35), none⟩,
    ⟨some 5, .mv (.t 36), none⟩]))
   (.reg [⟨some 13, .mv (.t 6), none⟩,
    ⟨some 14, .bin .add (.t 13) (.k (.int .i64 1)) 0, none⟩,
    ⟨some 6, .mv (.t 14), none⟩]))))))
   (.seq (.reg [⟨some 37, .mv (.t 5), none⟩,
    ⟨some 4, .mv (.t 37), none⟩])
   (.ret))))
def k14 : FCode := ⟨38, c14, [.tmp 4], none⟩
def c15 : LCode := .seq (.reg [⟨some 2, .box (.t 0), none⟩,
    ⟨some 3, .box (.t 1), none⟩,
    ⟨some 4, .mv (.k (.int .i64 0)), none⟩])
   (.seq (.seq (.reg [⟨some 7, .mkf 38 [.t 2], none⟩,
    ⟨some 8, .mkf 40 [.t 2], none⟩,
    ⟨some 9, .mkf 42 [.t 2], none⟩,
    ⟨some 10, .mkf 44 [.t 2], none⟩,
    ⟨some 11, .mkf 46 [.t 2], none⟩,
    ⟨some 12, .mkf 48 [.t 2], none⟩,
    ⟨some 13, .mkf 50 [.t 2], none⟩,
    ⟨some 14, .mkf 52 [.t 2, .t 3], none⟩,
    ⟨some 15, .mkf 54 [.t 2], none⟩,
    ⟨some 16, .mks 1 [.t 7, .t 8, .t 9, .t 10, .t 11, .t 12, .t 13, .t 14, .t 15], none⟩,
    ⟨some 17, .len (.t 16) false, none⟩,
    ⟨some 18, .mv (.k (.int .i64 0)), none⟩])
   (.block 0 (.loop (.seq (.reg [⟨some 19, .bin .lss (.t 18) (.t 17) 0, none⟩])
   (.seq (.cond (.t 19) (.skip) (.exit 0))
   (.seq (.block 1 (.seq (.reg [⟨some 20, .mv (.t 18), none⟩,
    ⟨some 21, .ix 1 (.t 16) (.t 18), none⟩,
    ⟨some 22, .ld (.t 21) 1 false, none⟩,
    ⟨some 5, .mv (.t 20), none⟩,
    ⟨some 6, .mv (.t 22), none⟩])
   (.seq (.reg [⟨some 23, .mv (.t 6), none⟩,
    ⟨some 24, .callv (.t 23) [], none⟩,
    ⟨some 25, .un .not (.t 24), none⟩])
   (.cond (.t 25) (.seq (.reg [⟨some 26, .mv (.t 5), none⟩,
    ⟨some 27, .bin .add (.k (.int .i64 1)) (.t 26) 0, none⟩,
    ⟨some 4, .mv (.t 27), none⟩])
   (.ret)) (.skip)))))
   (.reg [⟨some 28, .bin .add (.t 18) (.k (.int .i64 1)) 0, none⟩,
    ⟨some 18, .mv (.t 28), none⟩])))))))
   (.seq (.reg [⟨some 4, .mv (.k (.int .i64 0)), none⟩])
   (.ret)))
def k15 : FCode := ⟨29, c15, [.tmp 4], none⟩
def c16 : LCode := .seq (.reg [⟨some 0, .mv (.k (.bool false)), none⟩])
   (.seq (.reg [⟨some 4, .call 56 [], none⟩,
    ⟨some 1, .alloc [.int .i64 0, .int .i64 0, .int .i64 0, .ro 3 [] true, .ro 6 [] true, .ro 3 [] true, .ro 12 [] true, .ro 1 [] true], none⟩,
    ⟨none, .st (.t 1) (.t 4) 8, none⟩])
   (.seq (.reg [⟨some 5, .build [.str ⟨#[]⟩, .int .i64 0, .int .i64 0] [(0, 1, .k (.str ⟨#[97]⟩)), (1, 1, .k (.int .i64 (-1)))], none⟩,
    ⟨some 6, .mks 3 [.t 5], none⟩,
    ⟨some 7, .build [.int .i64 0, .int .i64 0, .int .i64 0, .int .i64 0, .int .i64 0, .int .i64 0] [(2, 1, .k (.int .i64 9)), (3, 1, .k (.int .i64 4)), (4, 1, .k (.int .i64 1))], none⟩,
    ⟨some 8, .mks 6 [.t 7], none⟩,
    ⟨some 9, .build [.int .i64 0, .int .i64 0, .int .i64 0, .ro 3 [] true, .ro 6 [] true, .ro 3 [] true, .ro 12 [] true, .ro 1 [] true] [(1, 1, .k (.int .i64 (-5))), (2, 1, .k (.int .i64 1)), (3, 1, .t 6), (4, 1, .t 8)], none⟩,
    ⟨some 2, .alloc [.int .i64 0, .int .i64 0, .int .i64 0, .ro 3 [] true, .ro 6 [] true, .ro 3 [] true, .ro 12 [] true, .ro 1 [] true], none⟩,
    ⟨none, .st (.t 2) (.t 9) 8, none⟩])
   (.seq (.reg [⟨some 10, .ld (.t 2) 8 true, none⟩,
    ⟨some 3, .alloc [.int .i64 0, .int .i64 0, .int .i64 0, .ro 3 [] true, .ro 6 [] true, .ro 3 [] true, .ro 12 [] true, .ro 1 [] true], none⟩,
    ⟨none, .st (.t 3) (.t 10) 8, none⟩])
   (.seq (.reg [⟨some 11, .fa (.t 3) 1, none⟩,
    ⟨none, .st (.t 11) (.k (.int .i64 (-4))) 1, none⟩])
   (.seq (.reg [⟨some 12, .fa (.t 1) 2, none⟩,
    ⟨some 13, .ld (.t 12) 1 false, none⟩,
    ⟨some 14, .bin .eql (.t 13) (.k (.int .i64 1)) 0, none⟩,
    ⟨some 15, .mv (.t 14), none⟩,
    ⟨some 16, .ld (.t 1) 8 true, some (15, true)⟩,
    ⟨some 17, .call 15 [.t 16, .k (.int .i64 0)], some (15, true)⟩,
    ⟨some 18, .bin .eql (.t 17) (.k (.int .i64 0)) 0, some (15, true)⟩,
    ⟨some 19, .pick (.t 15) (.t 18) (.k (.bool false)), none⟩,
    ⟨some 20, .mv (.t 19), none⟩,
    ⟨some 21, .ld (.t 2) 8 true, some (20, true)⟩,
    ⟨some 22, .call 15 [.t 21, .k (.int .i64 0)], some (20, true)⟩,
    ⟨some 23, .bin .eql (.t 22) (.k (.int .i64 5)) 0, some (20, true)⟩,
    ⟨some 24, .pick (.t 20) (.t 23) (.k (.bool false)), none⟩,
    ⟨some 25, .mv (.t 24), none⟩,
    ⟨some 26, .ld (.t 3) 8 true, some (25, true)⟩,
    ⟨some 27, .call 15 [.t 26, .k (.int .i64 0)], some (25, true)⟩,
    ⟨some 28, .bin .eql (.t 27) (.k (.int .i64 1)) 0, some (25, true)⟩,
    ⟨some 29, .pick (.t 25) (.t 28) (.k (.bool false)), none⟩,
    ⟨some 0, .mv (.t 29), none⟩])
   (.ret))))))
def k16 : FCode := ⟨30, c16, [.tmp 0], none⟩
def c17 : LCode := .seq (.reg [⟨some 1, .box (.t 0), none⟩,
    ⟨some 2, .mv (.k (.bool false)), none⟩])
   (.seq (.seq (.reg [⟨some 5, .ld (.t 1) 8 true, none⟩,
    ⟨some 6, .call 8 [.t 5], none⟩,
    ⟨some 7, .un .not (.t 6), none⟩])
   (.cond (.t 7) (.seq (.reg [⟨some 2, .mv (.k (.bool false)), none⟩])
   (.ret)) (.skip)))
   (.seq (.seq (.reg [⟨some 3, .mv (.k (.int .i64 0)), none⟩])
   (.block 0 (.loop (.seq (.seq (.reg [⟨some 8, .mv (.t 3), none⟩,
    ⟨some 9, .fa (.t 1) 6, none⟩,
    ⟨some 10, .ld (.t 9) 1 false, none⟩,
    ⟨some 11, .len (.t 10) false, none⟩,
    ⟨some 12, .bin .lss (.t 8) (.t 11) 0, none⟩])
   (.cond (.t 12) (.skip) (.exit 0)))
   (.seq (.block 1 (.seq (.reg [⟨some 15, .fa (.t 1) 6, none⟩,
    ⟨some 16, .ld (.t 15) 1 false, none⟩,
    ⟨some 17, .mv (.t 3), none⟩,
    ⟨some 18, .ix 12 (.t 16) (.t 17), none⟩,
    ⟨some 19, .ld (.t 18) 12 true, none⟩,
    ⟨some 4, .alloc [.int .i64 0, .int .i64 0, .int .i64 0, .int .i64 0, .int .i64 0, .int .i64 0, .int .i64 0, .int .i64 0, .int .i64 0, .int .i64 0, .int .i64 0, .ro 2 [] true], none⟩,
    ⟨none, .st (.t 4) (.t 19) 12, none⟩])
   (.seq (.reg [⟨some 20, .fa (.t 4) 2, none⟩,
    ⟨some 21, .ld (.t 20) 1 false, none⟩,
    ⟨some 22, .bin .lss (.t 21) (.k (.int .i64 0)) 0, none⟩,
    ⟨some 23, .mv (.t 22), none⟩,
    ⟨some 24, .fa (.t 4) 2, some (23, false)⟩,
    ⟨some 25, .ld (.t 24) 1 false, some (23, false)⟩,
    ⟨some 26, .bin .gtr (.t 25) (.k (.int .i64 32)) 0, some (23, false)⟩,
    ⟨some 27, .pick (.t 23) (.k (.bool true)) (.t 26), none⟩,
    ⟨some 28, .mv (.t 27), none⟩,
    ⟨some 29, .fa (.t 4) 8, some (28, false)⟩,
    ⟨some 30, .ld (.t 29) 1 false, some (28, false)⟩,
    ⟨some 31, .bin .gtr (.t 30) (.k (.int .i64 281474976710656)) 0, some (28, false)⟩,
    ⟨some 32, .pick (.t 28) (.k (.bool true)) (.t 31), none⟩,
    ⟨some 33, .mv (.t 32), none⟩,
    ⟨some 34, .fa (.t 4) 3, some (33, false)⟩,
    ⟨some 35, .ld (.t 34) 1 false, some (33, false)⟩,
    ⟨some 36, .bin .gtr (.t 35) (.k (.int .i64 1048576)) 0, some (33, false)⟩,
    ⟨some 37, .pick (.t 33) (.k (.bool true)) (.t 36), none⟩,
    ⟨some 38, .mv (.t 37), none⟩,
    ⟨some 39, .fa (.t 1) 6, some (38, false)⟩,
    ⟨some 40, .ld (.t 39) 1 false, some (38, false)⟩,
    ⟨some 41, .fa (.t 4) 0, some (38, false)⟩,
    ⟨some 42, .ld (.t 41) 1 false, some (38, false)⟩,
    ⟨some 43, .call 57 [.t 40, .t 42], some (38, false)⟩,
    ⟨some 44, .mv (.t 3), some (38, false)⟩,
    ⟨some 45, .bin .neq (.t 43) (.t 44) 0, some (38, false)⟩,
    ⟨some 46, .pick (.t 38) (.k (.bool true)) (.t 45), none⟩])
   (.cond (.t 46) (.seq (.reg [⟨some 2, .mv (.k (.bool false)), none⟩])
   (.ret)) (.skip)))))
   (.reg [⟨some 13, .mv (.t 3), none⟩,
    ⟨some 14, .bin .add (.t 13) (.k (.int .i64 1)) 0, none⟩,
    ⟨some 3, .mv (.t 14), none⟩]))))))
   (.seq (.reg [⟨some 2, .mv (.k (.bool true)), none⟩])
   (.ret))))
def k17 : FCode := ⟨47, c17, [.tmp 2], none⟩
def c18 : LCode := .seq (.reg [⟨some 0, .mv (.k (.bool false)), none⟩])
   (.seq (.reg [⟨some 17, .call 23 [.k (.int .u8 8), .k (.int .u8 0)], none⟩,
    ⟨some 1, .alloc [.int .i64 0, .int .i64 0, .int .i64 0, .int .i64 0], none⟩,
    ⟨none, .st (.t 1) (.t 17) 4, none⟩])
   (.seq (.reg [⟨some 18, .ld (.t 1) 4 true, none⟩,
    ⟨some 19, .mks 1 [.k (.int .i64 (-1)), .k (.int .i64 0)], none⟩,
    ⟨some 20, .build [.int .i64 0, .str ⟨#[]⟩, .str ⟨#[]⟩, .ro 1 [] true] [(0, 1, .k (.int .i64 1)), (2, 1, .k (.str ⟨#[97]⟩)), (3, 1, .t 19)], none⟩,
    ⟨some 21, .mks 1 [.k (.int .i64 0), .k (.int .i64 0), .k (.int .i64 99), .k (.int .i64 100)], none⟩,
    ⟨some 22, .build [.int .i64 0, .str ⟨#[]⟩, .str ⟨#[]⟩, .ro 1 [] true] [(0, 1, .k (.int .i64 2)), (3, 1, .t 21)], none⟩,
    ⟨some 23, .mks 1 [.k (.int .i64 0), .k (.int .i64 0), .k (.int .i64 1)], none⟩,
    ⟨some 24, .build [.int .i64 0, .str ⟨#[]⟩, .str ⟨#[]⟩, .ro 1 [] true] [(0, 1, .k (.int .i64 6)), (3, 1, .t 23)], none⟩,
    ⟨some 25, .mks 4 [.t 20, .t 22, .t 24], none⟩,
    ⟨some 26, .call 24 [.t 18, .t 25, .k (.int .i64 9)], none⟩,
    ⟨some 2, .alloc [.int .i64 0, .int .i64 0, .int .i64 0, .ro 3 [] true, .ro 6 [] true, .ro 3 [] true, .ro 12 [] true, .ro 1 [] true], none⟩,
    ⟨none, .st (.t 2) (.t 26) 8, none⟩])
   (.seq (.reg [⟨some 28, .ld (.t 1) 4 true, none⟩,
    ⟨some 29, .ld (.t 2) 8 true, none⟩,
    ⟨some 30, .mks 1 [.k (.int .i64 0), .k (.int .i64 2), .k (.int .i64 10), .k (.int .i64 0), .k (.int .i64 0)], none⟩,
    ⟨some 31, .build [.int .i64 0, .str ⟨#[]⟩, .str ⟨#[]⟩, .ro 1 [] true] [(0, 1, .k (.int .i64 7)), (3, 1, .t 30)], none⟩,
    ⟨some 32, .call 21 [.t 28, .t 29, .k (.int .i64 3), .t 31], none⟩,
    ⟨some 27, .mv (.t 32), none⟩,
    ⟨some 33, .ext (.t 27) 0, none⟩,
    ⟨some 34, .ext (.t 27) 1, none⟩,
    ⟨some 3, .alloc [.int .i64 0, .int .i64 0, .int .i64 0, .str ⟨#[]⟩, .str ⟨#[]⟩, .ro 1 [] true, .ro 2 [] true], none⟩,
    ⟨none, .st (.t 3) (.t 33) 7, none⟩,
    ⟨some 4, .mv (.t 34), none⟩])
   (.seq (.reg [⟨some 36, .ld (.t 2) 8 true, none⟩,
    ⟨some 37, .ld (.t 3) 7 true, none⟩,
    ⟨some 38, .call 26 [.t 36, .t 37], none⟩,
    ⟨some 35, .mv (.t 38), none⟩,
    ⟨some 39, .ext (.t 35) 0, none⟩,
    ⟨some 40, .ext (.t 35) 1, none⟩,
    ⟨none, .st (.t 2) (.t 39) 8, none⟩,
    ⟨some 5, .mv (.t 40), none⟩])
   (.seq (.reg [⟨some 42, .ld (.t 1) 4 true, none⟩,
    ⟨some 43, .ld (.t 2) 8 true, none⟩,
    ⟨some 44, .call 28 [.t 42, .t 43, .k (.int .i64 5), .k (.ro 1 [] true)], none⟩,
    ⟨some 41, .mv (.t 44), none⟩,
    ⟨some 45, .ext (.t 41) 0, none⟩,
    ⟨some 46, .ext (.t 41) 1, none⟩,
    ⟨some 6, .mv (.t 45), none⟩,
    ⟨some 7, .mv (.t 46), none⟩])
   (.seq (.reg [⟨some 48, .ld (.t 1) 4 true, none⟩,
    ⟨some 49, .ld (.t 2) 8 true, none⟩,
    ⟨some 50, .mks 1 [.k (.int .i64 1)], none⟩,
    ⟨some 51, .call 28 [.t 48, .t 49, .k (.int .i64 5), .t 50], none⟩,
    ⟨some 47, .mv (.t 51), none⟩,
    ⟨some 52, .ext (.t 47) 0, none⟩,
    ⟨some 53, .ext (.t 47) 1, none⟩,
    ⟨some 8, .mv (.t 52), none⟩,
    ⟨some 9, .mv (.t 53), none⟩])
   (.seq (.reg [⟨some 55, .ld (.t 1) 4 true, none⟩,
    ⟨some 56, .ld (.t 2) 8 true, none⟩,
    ⟨some 57, .mv (.t 6), none⟩,
    ⟨some 58, .call 30 [.t 55, .t 56, .k (.int .i64 5), .t 57], none⟩,
    ⟨some 54, .mv (.t 58), none⟩,
    ⟨some 59, .ext (.t 54) 0, none⟩,
    ⟨some 60, .ext (.t 54) 1, none⟩,
    ⟨some 10, .alloc [.int .i64 0, .int .i64 0, .int .i64 0, .str ⟨#[]⟩, .str ⟨#[]⟩, .ro 1 [] true, .ro 2 [] true], none⟩,
    ⟨none, .st (.t 10) (.t 59) 7, none⟩,
    ⟨some 11, .mv (.t 60), none⟩])
   (.seq (.reg [⟨some 62, .ld (.t 2) 8 true, none⟩,
    ⟨some 63, .ld (.t 10) 7 true, none⟩,
    ⟨some 64, .call 26 [.t 62, .t 63], none⟩,
    ⟨some 61, .mv (.t 64), none⟩,
    ⟨some 65, .ext (.t 61) 0, none⟩,
    ⟨some 66, .ext (.t 61) 1, none⟩,
    ⟨some 12, .alloc [.int .i64 0, .int .i64 0, .int .i64 0, .ro 3 [] true, .ro 6 [] true, .ro 3 [] true, .ro 12 [] true, .ro 1 [] true], none⟩,
    ⟨none, .st (.t 12) (.t 65) 8, none⟩,
    ⟨some 13, .mv (.t 66), none⟩])
   (.seq (.reg [⟨some 68, .ld (.t 1) 4 true, none⟩,
    ⟨some 69, .ld (.t 12) 8 true, none⟩,
    ⟨some 70, .mks 1 [.k (.int .i64 1)], none⟩,
    ⟨some 71, .build [.int .i64 0, .str ⟨#[]⟩, .str ⟨#[]⟩, .ro 1 [] true] [(0, 1, .k (.int .i64 12)), (3, 1, .t 70)], none⟩,
    ⟨some 72, .call 21 [.t 68, .t 69, .k (.int .i64 9), .t 71], none⟩,
    ⟨some 67, .mv (.t 72), none⟩,
    ⟨some 73, .ext (.t 67) 0, none⟩,
    ⟨some 74, .ext (.t 67) 1, none⟩,
    ⟨some 14, .alloc [.int .i64 0, .int .i64 0, .int .i64 0, .str ⟨#[]⟩, .str ⟨#[]⟩, .ro 1 [] true, .ro 2 [] true], none⟩,
    ⟨none, .st (.t 14) (.t 73) 7, none⟩,
    ⟨some 15, .mv (.t 74), none⟩])
   (.seq (.reg [⟨some 75, .ld (.t 12) 8 true, none⟩,
    ⟨some 76, .call 25 [.t 75, .k (.int .i64 15)], none⟩,
    ⟨some 16, .mv (.t 76), none⟩])
   (.seq (.reg [⟨some 77, .mv (.t 5), none⟩,
    ⟨some 78, .mv (.t 77), none⟩,
    ⟨some 79, .mv (.t 6), some (78, true)⟩,
    ⟨some 80, .bin .eql (.t 79) (.k (.int .i64 1)) 0, some (78, true)⟩,
    ⟨some 81, .pick (.t 78) (.t 80) (.k (.bool false)), none⟩,
    ⟨some 82, .mv (.t 81), none⟩,
    ⟨some 83, .mv (.t 7), some (82, true)⟩,
    ⟨some 84, .pick (.t 82) (.t 83) (.k (.bool false)), none⟩,
    ⟨some 85, .mv (.t 84), none⟩,
    ⟨some 86, .mv (.t 9), some (85, true)⟩,
    ⟨some 87, .un .not (.t 86), some (85, true)⟩,
    ⟨some 88, .pick (.t 85) (.t 87) (.k (.bool false)), none⟩,
    ⟨some 89, .mv (.t 88), none⟩,
    ⟨some 90, .mv (.t 11), some (89, true)⟩,
    ⟨some 91, .bin .eql (.t 90) (.k (.int .i64 0)) 0, some (89, true)⟩,
    ⟨some 92, .pick (.t 89) (.t 91) (.k (.bool false)), none⟩,
    ⟨some 93, .mv (.t 92), none⟩,
    ⟨some 94, .ld (.t 10) 7 true, some (93, true)⟩,
    ⟨some 95, .mks 1 [.k (.int .i64 1), .k (.int .i64 3)], some (93, true)⟩,
    ⟨some 96, .build [.int .i64 0, .int .i64 0, .int .i64 0, .str ⟨#[]⟩, .str ⟨#[]⟩, .ro 1 [] true, .ro 2 [] true] [(1, 1, .k (.int .i64 5)), (2, 1, .k (.int .i64 14)), (5, 1, .t 95)], some (93, true)⟩,
    ⟨some 97, .call 12 [.t 94, .t 96], some (93, true)⟩,
    ⟨some 98, .pick (.t 93) (.t 97) (.k (.bool false)), none⟩,
    ⟨some 99, .mv (.t 98), none⟩,
    ⟨some 100, .mv (.t 13), some (99, true)⟩,
    ⟨some 101, .pick (.t 99) (.t 100) (.k (.bool false)), none⟩,
    ⟨some 102, .mv (.t 101), none⟩,
    ⟨some 103, .mv (.t 15), some (102, true)⟩,
    ⟨some 104, .bin .eql (.t 103) (.k (.int .i64 0)) 0, some (102, true)⟩,
    ⟨some 105, .pick (.t 102) (.t 104) (.k (.bool false)), none⟩,
    ⟨some 106, .mv (.t 105), none⟩,
    ⟨some 107, .ld (.t 14) 7 true, some (106, true)⟩,
    ⟨some 108, .mks 1 [.k (.int .i64 1), .k (.int .i64 4)], some (106, true)⟩,
    ⟨some 109, .build [.int .i64 0, .int .i64 0, .int .i64 0, .str ⟨#[]⟩, .str ⟨#[]⟩, .ro 1 [] true, .ro 2 [] true] [(1, 1, .k (.int .i64 9)), (2, 1, .k (.int .i64 12)), (5, 1, .t 108)], some (106, true)⟩,
    ⟨some 110, .call 12 [.t 107, .t 109], some (106, true)⟩,
    ⟨some 111, .pick (.t 106) (.t 110) (.k (.bool false)), none⟩,
    ⟨some 112, .mv (.t 111), none⟩,
    ⟨some 113, .mv (.t 16), some (112, true)⟩,
    ⟨some 114, .len (.t 113) false, some (112, true)⟩,
    ⟨some 115, .bin .eql (.t 114) (.k (.int .i64 1)) 0, some (112, true)⟩,
    ⟨some 116, .pick (.t 112) (.t 115) (.k (.bool false)), none⟩,
    ⟨some 117, .mv (.t 116), none⟩,
    ⟨some 118, .mv (.t 16), some (117, true)⟩,
    ⟨some 119, .ix 7 (.t 118) (.k (.int .i64 0)), some (117, true)⟩,
    ⟨some 120, .ld (.t 119) 7 true, some (117, true)⟩,
    ⟨some 121, .mks 1 [.k (.int .i64 1), .k (.int .i64 10)], some (117, true)⟩,
    ⟨some 122, .build [.int .i64 0, .int .i64 0, .int .i64 0, .str ⟨#[]⟩, .str ⟨#[]⟩, .ro 1 [] true, .ro 2 [] true] [(1, 1, .k (.int .i64 15)), (2, 1, .k (.int .i64 12)), (5, 1, .t 121)], some (117, true)⟩,
    ⟨some 123, .call 12 [.t 120, .t 122], some (117, true)⟩,
    ⟨some 124, .pick (.t 117) (.t 123) (.k (.bool false)), none⟩,
    ⟨some 125, .mv (.t 124), none⟩,
    ⟨some 126, .ld (.t 1) 4 true, some (125, true)⟩,
    ⟨some 127, .call 19 [.t 126], some (125, true)⟩,
    ⟨some 128, .bin .eql (.t 127) (.k (.int .i64 0)) 0, some (125, true)⟩,
    ⟨some 129, .pick (.t 125) (.t 128) (.k (.bool false)), none⟩,
    ⟨some 130, .mv (.t 129), none⟩,
    ⟨some 131, .ld (.t 12) 8 true, some (130, true)⟩,
    ⟨some 132, .call 25 [.t 131, .k (.int .i64 99)], some (130, true)⟩,
    ⟨some 133, .len (.t 132) false, some (130, true)⟩,
    ⟨some 134, .bin .eql (.t 133) (.k (.int .i64 2)) 0, some (130, true)⟩,
    ⟨some 135, .pick (.t 130) (.t 134) (.k (.bool false)), none⟩,
    ⟨some 0, .mv (.t 135), none⟩])
   (.ret))))))))))))
def k18 : FCode := ⟨136, c18, [.tmp 0], none⟩
def c19 : LCode := .seq (.reg [⟨some 1, .box (.t 0), none⟩,
    ⟨some 2, .mv (.k (.int .i64 0)), none⟩])
   (.seq (.seq (.reg [⟨some 3, .fa (.t 1) 0, none⟩,
    ⟨some 4, .ld (.t 3) 1 false, none⟩,
    ⟨some 5, .call 58 [.t 4, .k (.int .i64 1), .k (.int .i64 32)], none⟩,
    ⟨some 6, .un .not (.t 5), none⟩,
    ⟨some 7, .mv (.t 6), none⟩,
    ⟨some 8, .fa (.t 1) 1, some (7, false)⟩,
    ⟨some 9, .ld (.t 8) 1 false, some (7, false)⟩,
    ⟨some 10, .call 58 [.t 9, .k (.int .i64 1), .k (.int .i64 2)], some (7, false)⟩,
    ⟨some 11, .un .not (.t 10), some (7, false)⟩,
    ⟨some 12, .pick (.t 7) (.k (.bool true)) (.t 11), none⟩,
    ⟨some 13, .mv (.t 12), none⟩,
    ⟨some 14, .fa (.t 1) 2, some (13, false)⟩,
    ⟨some 15, .ld (.t 14) 1 false, some (13, false)⟩,
    ⟨some 16, .call 58 [.t 15, .k (.int .i64 4), .k (.int .i64 400)], some (13, false)⟩,
    ⟨some 17, .un .not (.t 16), some (13, false)⟩,
    ⟨some 18, .pick (.t 13) (.k (.bool true)) (.t 17), none⟩,
    ⟨some 19, .mv (.t 18), none⟩,
    ⟨some 20, .fa (.t 1) 3, some (19, false)⟩,
    ⟨some 21, .ld (.t 20) 1 false, some (19, false)⟩,
    ⟨some 22, .call 58 [.t 21, .k (.int .i64 60), .k (.int .i64 1000)], some (19, false)⟩,
    ⟨some 23, .un .not (.t 22), some (19, false)⟩,
    ⟨some 24, .pick (.t 19) (.k (.bool true)) (.t 23), none⟩,
    ⟨some 25, .mv (.t 24), none⟩,
    ⟨some 26, .fa (.t 1) 2, some (25, false)⟩,
    ⟨some 27, .ld (.t 26) 1 false, some (25, false)⟩,
    ⟨some 28, .bin .mul (.k (.int .i64 2)) (.t 27) 0, some (25, false)⟩,
    ⟨some 29, .fa (.t 1) 3, some (25, false)⟩,
    ⟨some 30, .ld (.t 29) 1 false, some (25, false)⟩,
    ⟨some 31, .bin .add (.t 28) (.t 30) 0, some (25, false)⟩,
    ⟨some 32, .bin .gtr (.t 31) (.k (.int .i64 1024)) 0, some (25, false)⟩,
    ⟨some 33, .pick (.t 25) (.k (.bool true)) (.t 32), none⟩])
   (.cond (.t 33) (.seq (.reg [⟨some 2, .mv (.k (.int .i64 1)), none⟩])
   (.ret)) (.skip)))
   (.seq (.reg [⟨some 2, .mv (.k (.int .i64 0)), none⟩])
   (.ret)))
def k19 : FCode := ⟨34, c19, [.tmp 2], none⟩
def c20 : LCode := .seq (.reg [⟨some 1, .box (.t 0), none⟩,
    ⟨some 2, .mv (.k (.int .i64 0)), none⟩])
   (.seq (.seq (.reg [⟨some 3, .fa (.t 1) 0, none⟩,
    ⟨some 4, .ld (.t 3) 1 false, none⟩,
    ⟨some 5, .bin .lss (.t 4) (.k (.int .i64 1)) 0, none⟩,
    ⟨some 6, .mv (.t 5), none⟩,
    ⟨some 7, .fa (.t 1) 0, some (6, false)⟩,
    ⟨some 8, .ld (.t 7) 1 false, some (6, false)⟩,
    ⟨some 9, .bin .gtr (.t 8) (.k (.int .i64 32)) 0, some (6, false)⟩,
    ⟨some 10, .pick (.t 6) (.k (.bool true)) (.t 9), none⟩,
    ⟨some 11, .mv (.t 10), none⟩,
    ⟨some 12, .fa (.t 1) 1, some (11, false)⟩,
    ⟨some 13, .ld (.t 12) 1 false, some (11, false)⟩,
    ⟨some 14, .bin .neq (.t 13) (.k (.int .i64 1)) 0, some (11, false)⟩,
    ⟨some 15, .mv (.t 14), some (11, false)⟩,
    ⟨some 16, .fa (.t 1) 1, some (15, true)⟩,
    ⟨some 17, .ld (.t 16) 1 false, some (15, true)⟩,
    ⟨some 18, .bin .neq (.t 17) (.k (.int .i64 2)) 0, some (15, true)⟩,
    ⟨some 19, .pick (.t 15) (.t 18) (.k (.bool false)), some (11, false)⟩,
    ⟨some 20, .pick (.t 11) (.k (.bool true)) (.t 19), none⟩,
    ⟨some 21, .mv (.t 20), none⟩,
    ⟨some 22, .fa (.t 1) 2, some (21, false)⟩,
    ⟨some 23, .ld (.t 22) 1 false, some (21, false)⟩,
    ⟨some 24, .bin .lss (.t 23) (.k (.int .i64 4)) 0, some (21, false)⟩,
    ⟨some 25, .pick (.t 21) (.k (.bool true)) (.t 24), none⟩,
    ⟨some 26, .mv (.t 25), none⟩,
    ⟨some 27, .fa (.t 1) 2, some (26, false)⟩,
    ⟨some 28, .ld (.t 27) 1 false, some (26, false)⟩,
    ⟨some 29, .bin .gtr (.t 28) (.k (.int .i64 400)) 0, some (26, false)⟩,
    ⟨some 30, .pick (.t 26) (.k (.bool true)) (.t 29), none⟩,
    ⟨some 31, .mv (.t 30), none⟩,
    ⟨some 32, .fa (.t 1) 3, some (31, false)⟩,
    ⟨some 33, .ld (.t 32) 1 false, some (31, false)⟩,
    ⟨some 34, .bin .lss (.t 33) (.k (.int .i64 60)) 0, some (31, false)⟩,
    ⟨some 35, .pick (.t 31) (.k (.bool true)) (.t 34), none⟩,
    ⟨some 36, .mv (.t 35), none⟩,
    ⟨some 37, .fa (.t 1) 3, some (36, false)⟩,
    ⟨some 38, .ld (.t 37) 1 false, some (36, false)⟩,
    ⟨some 39, .bin .gtr (.t 38) (.k (.int .i64 1000)) 0, some (36, false)⟩,
    ⟨some 40, .pick (.t 36) (.k (.bool true)) (.t 39), none⟩,
    ⟨some 41, .mv (.t 40), none⟩,
    ⟨some 42, .fa (.t 1) 2, some (41, false)⟩,
    ⟨some 43, .ld (.t 42) 1 false, some (41, false)⟩,
    ⟨some 44, .bin .mul (.k (.int .i64 2)) (.t 43) 0, some (41, false)⟩,
    ⟨some 45, .fa (.t 1) 3, some (41, false)⟩,
    ⟨some 46, .ld (.t 45) 1 false, some (41, false)⟩,
    ⟨some 47, .bin .add (.t 44) (.t 46) 0, some (41, false)⟩,
    ⟨some 48, .bin .gtr (.t 47) (.k (.int .i64 1024)) 0, some (41, false)⟩,
    ⟨some 49, .pick (.t 41) (.k (.bool true)) (.t 48), none⟩])
   (.cond (.t 49) (.seq (.reg [⟨some 2, .mv (.k (.int .i64 1)), none⟩])
   (.ret)) (.skip)))
   (.seq (.reg [⟨some 2, .mv (.k (.int .i64 0)), none⟩])
   (.ret)))
def k20 : FCode := ⟨50, c20, [.tmp 2], none⟩
def c21 : LCode := .seq (.reg [⟨some 4, .box (.t 0), none⟩,
    ⟨some 5, .box (.t 1), none⟩,
    ⟨some 7, .box (.t 3), none⟩,
    ⟨some 8, .alloc [.int .i64 0, .int .i64 0, .int .i64 0, .str ⟨#[]⟩, .str ⟨#[]⟩, .ro 1 [] true, .ro 2 [] true], none⟩,
    ⟨some 9, .mv (.k (.int .i64 0)), none⟩])
   (.seq (.dreg [] [⟨some 13, .mv (.t 2), none⟩,
    ⟨some 14, .fa (.t 7) 0, none⟩,
    ⟨some 15, .ld (.t 14) 1 false, none⟩,
    ⟨some 16, .fa (.t 7) 1, none⟩,
    ⟨some 17, .ld (.t 16) 1 false, none⟩,
    ⟨some 18, .fa (.t 7) 2, none⟩,
    ⟨some 19, .ld (.t 18) 1 false, none⟩,
    ⟨some 20, .fa (.t 7) 3, none⟩,
    ⟨some 21, .ld (.t 20) 1 false, none⟩,
    ⟨some 22, .pcall 60 [.t 21], none⟩,
    ⟨some 23, .pcall 59 [.t 22], none⟩,
    ⟨some 24, .build [.int .i64 0, .int .i64 0, .int .i64 0, .str ⟨#[]⟩, .str ⟨#[]⟩, .ro 1 [] true, .ro 2 [] true] [(1, 1, .t 13), (2, 1, .t 15), (3, 1, .t 17), (4, 1, .t 19), (5, 1, .t 23)], none⟩,
    ⟨some 10, .alloc [.int .i64 0, .int .i64 0, .int .i64 0, .str ⟨#[]⟩, .str ⟨#[]⟩, .ro 1 [] true, .ro 2 [] true], none⟩,
    ⟨none, .st (.t 10) (.t 24) 7, none⟩])
   (.seq (.seq (.dreg [] [⟨some 25, .fa (.t 7) 0, none⟩,
    ⟨some 26, .ld (.t 25) 1 false, none⟩,
    ⟨some 27, .kcall 61 [.t 26], none⟩,
    ⟨some 28, .fa (.t 7) 3, none⟩,
    ⟨some 29, .ld (.t 28) 1 false, none⟩,
    ⟨some 30, .len (.t 29) false, none⟩,
    ⟨some 31, .bin .neq (.t 27) (.t 30) 0, none⟩])
   (.cond (.t 31) (.seq (.reg [⟨some 32, .build [.int .i64 0, .int .i64 0, .int .i64 0, .str ⟨#[]⟩, .str ⟨#[]⟩, .ro 1 [] true, .ro 2 [] true] [], none⟩,
    ⟨none, .st (.t 8) (.t 32) 7, none⟩,
    ⟨some 9, .mv (.k (.int .i64 1)), none⟩])
   (.ret)) (.skip)))
   (.seq (.reg [⟨some 11, .mv (.k (.int .i64 0)), none⟩,
    ⟨some 12, .mv (.k (.int .i64 0)), none⟩])
   (.seq (.seq (.reg [⟨some 33, .fa (.t 7) 0, none⟩,
    ⟨some 34, .ld (.t 33) 1 false, none⟩])
   (.block 0 (.seq (.reg [⟨some 37, .bin .eql (.t 34) (.k (.int .i64 7)) 0, none⟩,
    ⟨some 36, .mv (.t 37), none⟩])
   (.cond (.t 36) (.reg [⟨some 39, .ld (.t 4) 4 true, none⟩,
    ⟨some 40, .ld (.t 5) 8 true, none⟩,
    ⟨some 41, .mv (.t 2), none⟩,
    ⟨some 42, .fa (.t 7) 3, none⟩,
    ⟨some 43, .ld (.t 42) 1 false, none⟩,
    ⟨some 44, .call 62 [.t 39, .t 40, .t 41, .t 43], none⟩,
    ⟨some 38, .mv (.t 44), none⟩,
    ⟨some 45, .ext (.t 38) 0, none⟩,
    ⟨some 46, .ext (.t 38) 1, none⟩,
    ⟨some 11, .mv (.t 45), none⟩,
    ⟨some 12, .mv (.t 46), none⟩]) (.seq (.reg [⟨some 48, .bin .eql (.t 34) (.k (.int .i64 12)) 0, none⟩,
    ⟨some 47, .mv (.t 48), none⟩])
   (.cond (.t 47) (.dreg [] [⟨some 50, .ld (.t 5) 8 true, none⟩,
    ⟨some 51, .mv (.t 2), none⟩,
    ⟨some 52, .fa (.t 7) 3, none⟩,
    ⟨some 53, .ld (.t 52) 1 false, none⟩,
    ⟨some 54, .ix 1 (.t 53) (.k (.int .i64 0)), none⟩,
    ⟨some 55, .ld (.t 54) 1 false, none⟩,
    ⟨some 56, .call 63 [.t 50, .t 51, .t 55], none⟩,
    ⟨some 49, .mv (.t 56), none⟩,
    ⟨some 57, .ext (.t 49) 0, none⟩,
    ⟨some 58, .ext (.t 49) 1, none⟩,
    ⟨some 11, .mv (.t 57), none⟩,
    ⟨some 12, .mv (.t 58), none⟩]) (.seq (.reg [⟨some 35, .ld (.t 10) 7 true, none⟩,
    ⟨none, .st (.t 8) (.t 35) 7, none⟩,
    ⟨some 9, .mv (.k (.int .i64 0)), none⟩])
   (.ret))))))))
   (.seq (.seq (.reg [⟨some 59, .mv (.t 12), none⟩,
    ⟨some 60, .bin .neq (.t 59) (.k (.int .i64 0)) 0, none⟩])
   (.cond (.t 60) (.seq (.reg [⟨some 61, .build [.int .i64 0, .int .i64 0, .int .i64 0, .str ⟨#[]⟩, .str ⟨#[]⟩, .ro 1 [] true, .ro 2 [] true] [], none⟩,
    ⟨some 62, .mv (.t 12), none⟩,
    ⟨none, .st (.t 8) (.t 61) 7, none⟩,
    ⟨some 9, .mv (.t 62), none⟩])
   (.ret)) (.skip)))
   (.seq (.reg [⟨some 63, .fa (.t 10) 5, none⟩,
    ⟨some 64, .ld (.t 63) 1 false, none⟩,
    ⟨some 65, .mv (.t 11), none⟩,
    ⟨some 66, .mks 1 [.t 65], none⟩,
    ⟨some 67, .app 1 8 (.t 64) (.t 66), none⟩,
    ⟨some 68, .call 59 [.t 67], none⟩,
    ⟨some 69, .fa (.t 10) 5, none⟩,
    ⟨none, .st (.t 69) (.t 68) 1, none⟩])
   (.seq (.reg [⟨some 70, .ld (.t 10) 7 true, none⟩,
    ⟨none, .st (.t 8) (.t 70) 7, none⟩,
    ⟨some 9, .mv (.k (.int .i64 0)), none⟩])
   (.ret))))))))
def k21 : FCode := ⟨71, c21, [.cell 8 7 true, .tmp 9], none⟩
def c22 : LCode := .seq (.reg [⟨some 4, .box (.t 0), none⟩,
    ⟨some 5, .box (.t 1), none⟩,
    ⟨some 7, .box (.t 3), none⟩,
    ⟨some 8, .alloc [.int .i64 0, .int .i64 0, .int .i64 0, .str ⟨#[]⟩, .str ⟨#[]⟩, .ro 1 [] true, .ro 2 [] true], none⟩,
    ⟨some 9, .mv (.k (.int .i64 0)), none⟩])
   (.seq (.reg [⟨some 16, .mks 1 [.k (.int .i64 0), .k (.int .i64 2), .k (.int .i64 4), .k (.int .i64 2), .k (.int .i64 2), .k (.int .i64 3), .k (.int .i64 3), .k (.int .i64 5), .k (.int .i64 1), .k (.int .i64 1), .k (.int .i64 1), .k (.int .i64 1), .k (.int .i64 1), .k (.int .i64 2)], none⟩,
    ⟨some 10, .mv (.t 16), none⟩])
   (.seq (.seq (.dreg [] [⟨some 17, .fa (.t 7) 0, none⟩,
    ⟨some 18, .ld (.t 17) 1 false, none⟩,
    ⟨some 19, .bin .lss (.t 18) (.k (.int .i64 1)) 0, none⟩,
    ⟨some 20, .mv (.t 19), none⟩,
    ⟨some 21, .fa (.t 7) 0, some (20, false)⟩,
    ⟨some 22, .ld (.t 21) 1 false, some (20, false)⟩,
    ⟨some 23, .bin .gtr (.t 22) (.k (.int .i64 13)) 0, some (20, false)⟩,
    ⟨some 24, .pick (.t 20) (.k (.bool true)) (.t 23), none⟩,
    ⟨some 25, .mv (.t 24), none⟩,
    ⟨some 26, .fa (.t 7) 3, some (25, false)⟩,
    ⟨some 27, .ld (.t 26) 1 false, some (25, false)⟩,
    ⟨some 28, .len (.t 27) false, some (25, false)⟩,
    ⟨some 29, .mv (.t 10), some (25, false)⟩,
    ⟨some 30, .fa (.t 7) 0, some (25, false)⟩,
    ⟨some 31, .ld (.t 30) 1 false, some (25, false)⟩,
    ⟨some 32, .ix 1 (.t 29) (.t 31), some (25, false)⟩,
    ⟨some 33, .ld (.t 32) 1 false, some (25, false)⟩,
    ⟨some 34, .bin .neq (.t 28) (.t 33) 0, some (25, false)⟩,
    ⟨some 35, .pick (.t 25) (.k (.bool true)) (.t 34), none⟩])
   (.cond (.t 35) (.seq (.reg [⟨some 36, .build [.int .i64 0, .int .i64 0, .int .i64 0, .str ⟨#[]⟩, .str ⟨#[]⟩, .ro 1 [] true, .ro 2 [] true] [], none⟩,
    ⟨none, .st (.t 8) (.t 36) 7, none⟩,
    ⟨some 9, .mv (.k (.int .i64 1)), none⟩])
   (.ret)) (.skip)))
   (.seq (.reg [⟨some 37, .mks 1 [], none⟩,
    ⟨some 38, .fa (.t 7) 3, none⟩,
    ⟨some 39, .ld (.t 38) 1 false, none⟩,
    ⟨some 40, .app 1 8 (.t 37) (.t 39), none⟩,
    ⟨some 11, .mv (.t 40), none⟩])
   (.seq (.seq (.reg [⟨some 41, .fa (.t 7) 0, none⟩,
    ⟨some 42, .ld (.t 41) 1 false, none⟩,
    ⟨some 43, .bin .eql (.t 42) (.k (.int .i64 7)) 0, none⟩])
   (.cond (.t 43) (.seq (.seq (.dreg [] [⟨some 44, .mv (.t 11), none⟩,
    ⟨some 45, .ix 1 (.t 44) (.k (.int .i64 1)), none⟩,
    ⟨some 46, .ld (.t 45) 1 false, none⟩,
    ⟨some 47, .fa (.t 4) 0, none⟩,
    ⟨some 48, .ld (.t 47) 1 false, none⟩,
    ⟨some 49, .bin .gtr (.t 46) (.t 48) 0, none⟩])
   (.cond (.t 49) (.seq (.reg [⟨some 50, .build [.int .i64 0, .int .i64 0, .int .i64 0, .str ⟨#[]⟩, .str ⟨#[]⟩, .ro 1 [] true, .ro 2 [] true] [], none⟩,
    ⟨none, .st (.t 8) (.t 50) 7, none⟩,
    ⟨some 9, .mv (.k (.int .i64 13)), none⟩])
   (.ret)) (.skip)))
   (.seq (.dreg [] [⟨some 52, .fa (.t 5) 5, none⟩,
    ⟨some 53, .ld (.t 52) 1 false, none⟩,
    ⟨some 54, .mv (.t 11), none⟩,
    ⟨some 55, .ix 1 (.t 54) (.k (.int .i64 3)), none⟩,
    ⟨some 56, .ld (.t 55) 1 false, none⟩,
    ⟨some 57, .mv (.t 2), none⟩,
    ⟨some 58, .call 64 [.t 53, .t 56, .t 57], none⟩,
    ⟨some 51, .mv (.t 58), none⟩,
    ⟨some 59, .ext (.t 51) 0, none⟩,
    ⟨some 60, .ext (.t 51) 1, none⟩,
    ⟨some 12, .mv (.t 59), none⟩,
    ⟨some 13, .mv (.t 60), none⟩])
   (.seq (.seq (.reg [⟨some 61, .mv (.t 13), none⟩,
    ⟨some 62, .bin .neq (.t 61) (.k (.int .i64 0)) 0, none⟩])
   (.cond (.t 62) (.seq (.reg [⟨some 63, .build [.int .i64 0, .int .i64 0, .int .i64 0, .str ⟨#[]⟩, .str ⟨#[]⟩, .ro 1 [] true, .ro 2 [] true] [], none⟩,
    ⟨some 64, .mv (.t 13), none⟩,
    ⟨none, .st (.t 8) (.t 63) 7, none⟩,
    ⟨some 9, .mv (.t 64), none⟩])
   (.ret)) (.skip)))
   (.reg [⟨some 65, .mv (.t 11), none⟩,
    ⟨some 66, .mv (.t 12), none⟩,
    ⟨some 67, .mks 1 [.t 66], none⟩,
    ⟨some 68, .app 1 8 (.t 65) (.t 67), none⟩,
    ⟨some 11, .mv (.t 68), none⟩])))) (.skip)))
   (.seq (.seq (.reg [⟨some 69, .fa (.t 7) 0, none⟩,
    ⟨some 70, .ld (.t 69) 1 false, none⟩,
    ⟨some 71, .bin .eql (.t 70) (.k (.int .i64 12)) 0, none⟩])
   (.cond (.t 71) (.seq (.dreg [] [⟨some 72, .fa (.t 5) 6, none⟩,
    ⟨some 73, .ld (.t 72) 1 false, none⟩,
    ⟨some 74, .mv (.t 11), none⟩,
    ⟨some 75, .ix 1 (.t 74) (.k (.int .i64 0)), none⟩,
    ⟨some 76, .ld (.t 75) 1 false, none⟩,
    ⟨some 77, .call 57 [.t 73, .t 76], none⟩,
    ⟨some 14, .mv (.t 77), none⟩])
   (.seq (.seq (.reg [⟨some 78, .mv (.t 14), none⟩,
    ⟨some 79, .bin .lss (.t 78) (.k (.int .i64 0)) 0, none⟩])
   (.cond (.t 79) (.seq (.reg [⟨some 80, .build [.int .i64 0, .int .i64 0, .int .i64 0, .str ⟨#[]⟩, .str ⟨#[]⟩, .ro 1 [] true, .ro 2 [] true] [], none⟩,
    ⟨none, .st (.t 8) (.t 80) 7, none⟩,
    ⟨some 9, .mv (.k (.int .i64 4)), none⟩])
   (.ret)) (.skip)))
   (.seq (.seq (.reg [⟨some 81, .fa (.t 5) 6, none⟩,
    ⟨some 82, .ld (.t 81) 1 false, none⟩,
    ⟨some 83, .mv (.t 14), none⟩,
    ⟨some 84, .ix 12 (.t 82) (.t 83), none⟩,
    ⟨some 85, .fa (.t 84) 7, none⟩,
    ⟨some 86, .ld (.t 85) 1 false, none⟩,
    ⟨some 87, .bin .neq (.t 86) (.k (.int .i64 3)) 0, none⟩])
   (.cond (.t 87) (.seq (.reg [⟨some 88, .build [.int .i64 0, .int .i64 0, .int .i64 0, .str ⟨#[]⟩, .str ⟨#[]⟩, .ro 1 [] true, .ro 2 [] true] [], none⟩,
    ⟨none, .st (.t 8) (.t 88) 7, none⟩,
    ⟨some 9, .mv (.k (.int .i64 9)), none⟩])
   (.ret)) (.skip)))
   (.seq (.reg [⟨some 89, .mv (.t 2), none⟩,
    ⟨some 90, .fa (.t 5) 6, none⟩,
    ⟨some 91, .ld (.t 90) 1 false, none⟩,
    ⟨some 92, .mv (.t 14), none⟩,
    ⟨some 93, .ix 12 (.t 91) (.t 92), none⟩,
    ⟨some 94, .fa (.t 93) 8, none⟩,
    ⟨some 95, .ld (.t 94) 1 false, none⟩,
    ⟨some 96, .bin .sub (.t 89) (.t 95) 0, none⟩,
    ⟨some 15, .mv (.t 96), none⟩])
   (.seq (.seq (.reg [⟨some 97, .mv (.t 15), none⟩,
    ⟨some 98, .fa (.t 5) 6, none⟩,
    ⟨some 99, .ld (.t 98) 1 false, none⟩,
    ⟨some 100, .mv (.t 14), none⟩,
    ⟨some 101, .ix 12 (.t 99) (.t 100), none⟩,
    ⟨some 102, .fa (.t 101) 3, none⟩,
    ⟨some 103, .ld (.t 102) 1 false, none⟩,
    ⟨some 104, .bin .gtr (.t 97) (.t 103) 0, none⟩])
   (.cond (.t 104) (.reg [⟨some 105, .fa (.t 5) 6, none⟩,
    ⟨some 106, .ld (.t 105) 1 false, none⟩,
    ⟨some 107, .mv (.t 14), none⟩,
    ⟨some 108, .ix 12 (.t 106) (.t 107), none⟩,
    ⟨some 109, .fa (.t 108) 3, none⟩,
    ⟨some 110, .ld (.t 109) 1 false, none⟩,
    ⟨some 15, .mv (.t 110), none⟩]) (.skip)))
   (.seq (.seq (.reg [⟨some 111, .mv (.t 15), none⟩,
    ⟨some 112, .bin .lss (.t 111) (.k (.int .i64 0)) 0, none⟩])
   (.cond (.t 112) (.reg [⟨some 15, .mv (.k (.int .i64 0)), none⟩]) (.skip)))
   (.reg [⟨some 113, .mv (.t 11), none⟩,
    ⟨some 114, .mv (.t 15), none⟩,
    ⟨some 115, .mks 1 [.t 114], none⟩,
    ⟨some 116, .app 1 8 (.t 113) (.t 115), none⟩,
    ⟨some 11, .mv (.t 116), none⟩]))))))) (.skip)))
   (.seq (.reg [⟨some 117, .mv (.t 2), none⟩,
    ⟨some 118, .fa (.t 7) 0, none⟩,
    ⟨some 119, .ld (.t 118) 1 false, none⟩,
    ⟨some 120, .fa (.t 7) 1, none⟩,
    ⟨some 121, .ld (.t 120) 1 false, none⟩,
    ⟨some 122, .fa (.t 7) 2, none⟩,
    ⟨some 123, .ld (.t 122) 1 false, none⟩,
    ⟨some 124, .mv (.t 11), none⟩,
    ⟨some 125, .build [.int .i64 0, .int .i64 0, .int .i64 0, .str ⟨#[]⟩, .str ⟨#[]⟩, .ro 1 [] true, .ro 2 [] true] [(1, 1, .t 117), (2, 1, .t 119), (3, 1, .t 121), (4, 1, .t 123), (5, 1, .t 124)], none⟩,
    ⟨none, .st (.t 8) (.t 125) 7, none⟩,
    ⟨some 9, .mv (.k (.int .i64 0)), none⟩])
   (.ret)))))))
def k22 : FCode := ⟨126, c22, [.cell 8 7 true, .tmp 9], none⟩
def c23 : LCode := .seq (.reg [⟨some 4, .alloc [.int .i64 0, .int .i64 0, .int .i64 0, .int .i64 0], none⟩])
   (.seq (.reg [⟨some 5, .mv (.t 0), none⟩,
    ⟨some 6, .bin .sub (.t 5) (.k (.int .u8 1)) 0, none⟩,
    ⟨some 7, .conv .i64 (.t 6), none⟩,
    ⟨some 8, .bin .rem (.t 7) (.k (.int .i64 32)) 0, none⟩,
    ⟨some 9, .bin .add (.k (.int .i64 1)) (.t 8) 0, none⟩,
    ⟨some 10, .mv (.t 1), none⟩,
    ⟨some 11, .bin .rem (.t 10) (.k (.int .u8 2)) 0, none⟩,
    ⟨some 12, .conv .i64 (.t 11), none⟩,
    ⟨some 13, .bin .add (.k (.int .i64 1)) (.t 12) 0, none⟩,
    ⟨some 14, .build [.int .i64 0, .int .i64 0, .int .i64 0, .int .i64 0] [(0, 1, .t 9), (1, 1, .t 13), (2, 1, .k (.int .i64 100)), (3, 1, .k (.int .i64 100))], none⟩,
    ⟨none, .st (.t 4) (.t 14) 4, none⟩])
   (.ret))
def k23 : FCode := ⟨15, c23, [.cell 4 4 true], none⟩
def c24 : LCode := .seq (.reg [⟨some 3, .box (.t 0), none⟩,
    ⟨some 6, .alloc [.int .i64 0, .int .i64 0, .int .i64 0, .ro 3 [] true, .ro 6 [] true, .ro 3 [] true, .ro 12 [] true, .ro 1 [] true], none⟩])
   (.seq (.reg [⟨some 19, .call 56 [], none⟩,
    ⟨some 7, .alloc [.int .i64 0, .int .i64 0, .int .i64 0, .ro 3 [] true, .ro 6 [] true, .ro 3 [] true, .ro 12 [] true, .ro 1 [] true], none⟩,
    ⟨none, .st (.t 7) (.t 19) 8, none⟩])
   (.seq (.seq (.reg [⟨some 8, .mv (.k (.int .i64 0)), none⟩])
   (.block 0 (.loop (.seq (.seq (.reg [⟨some 20, .mv (.t 8), none⟩,
    ⟨some 21, .mv (.t 1), none⟩,
    ⟨some 22, .len (.t 21) false, none⟩,
    ⟨some 23, .bin .lss (.t 20) (.t 22) 0, none⟩,
    ⟨some 24, .mv (.t 23), none⟩,
    ⟨some 25, .mv (.t 8), some (24, true)⟩,
    ⟨some 26, .mv (.t 2), some (24, true)⟩,
    ⟨some 27, .bin .lss (.t 25) (.t 26) 0, some (24, true)⟩,
    ⟨some 28, .pick (.t 24) (.t 27) (.k (.bool false)), none⟩])
   (.cond (.t 28) (.skip) (.exit 0)))
   (.seq (.block 1 (.seq (.seq (.dreg [] [⟨some 32, .ld (.t 3) 4 true, none⟩,
    ⟨some 33, .ld (.t 7) 8 true, none⟩,
    ⟨some 34, .mv (.t 8), none⟩,
    ⟨some 35, .mv (.t 1), none⟩,
    ⟨some 36, .mv (.t 8), none⟩,
    ⟨some 37, .ix 4 (.t 35) (.t 36), none⟩,
    ⟨some 38, .ld (.t 37) 4 true, none⟩,
    ⟨some 39, .pcall 21 [.t 32, .t 33, .t 34, .t 38], none⟩,
    ⟨some 31, .mv (.t 39), none⟩,
    ⟨some 40, .ext (.t 31) 0, none⟩,
    ⟨some 41, .ext (.t 31) 1, none⟩,
    ⟨some 9, .alloc [.int .i64 0, .int .i64 0, .int .i64 0, .str ⟨#[]⟩, .str ⟨#[]⟩, .ro 1 [] true, .ro 2 [] true], none⟩,
    ⟨none, .st (.t 9) (.t 40) 7, none⟩,
    ⟨some 10, .mv (.t 41), none⟩])
   (.seq (.reg [⟨some 42, .mv (.t 10), none⟩,
    ⟨some 43, .bin .eql (.t 42) (.k (.int .i64 0)) 0, none⟩])
   (.cond (.t 43) (.seq (.reg [⟨some 45, .ld (.t 7) 8 true, none⟩,
    ⟨some 46, .ld (.t 9) 7 true, none⟩,
    ⟨some 47, .call 26 [.t 45, .t 46], none⟩,
    ⟨some 44, .mv (.t 47), none⟩,
    ⟨some 48, .ext (.t 44) 0, none⟩,
    ⟨some 49, .ext (.t 44) 1, none⟩,
    ⟨some 11, .alloc [.int .i64 0, .int .i64 0, .int .i64 0, .ro 3 [] true, .ro 6 [] true, .ro 3 [] true, .ro 12 [] true, .ro 1 [] true], none⟩,
    ⟨none, .st (.t 11) (.t 48) 8, none⟩,
    ⟨some 12, .mv (.t 49), none⟩])
   (.seq (.reg [⟨some 50, .mv (.t 12), none⟩])
   (.cond (.t 50) (.reg [⟨some 51, .ld (.t 11) 8 true, none⟩,
    ⟨none, .st (.t 7) (.t 51) 8, none⟩]) (.skip)))) (.skip))))
   (.seq (.reg [⟨some 52, .mv (.t 8), none⟩,
    ⟨some 53, .bin .rem (.t 52) (.k (.int .i64 4)) 0, none⟩,
    ⟨some 54, .bin .eql (.t 53) (.k (.int .i64 3)) 0, none⟩])
   (.cond (.t 54) (.seq (.reg [⟨some 56, .ld (.t 3) 4 true, none⟩,
    ⟨some 57, .ld (.t 7) 8 true, none⟩,
    ⟨some 58, .mv (.t 8), none⟩,
    ⟨some 59, .call 28 [.t 56, .t 57, .t 58, .k (.ro 1 [] true)], none⟩,
    ⟨some 55, .mv (.t 59), none⟩,
    ⟨some 60, .ext (.t 55) 0, none⟩,
    ⟨some 61, .ext (.t 55) 1, none⟩,
    ⟨some 13, .mv (.t 60), none⟩,
    ⟨some 14, .mv (.t 61), none⟩])
   (.seq (.reg [⟨some 62, .mv (.t 14), none⟩])
   (.cond (.t 62) (.seq (.reg [⟨some 64, .ld (.t 3) 4 true, none⟩,
    ⟨some 65, .ld (.t 7) 8 true, none⟩,
    ⟨some 66, .mv (.t 8), none⟩,
    ⟨some 67, .mv (.t 13), none⟩,
    ⟨some 68, .call 30 [.t 64, .t 65, .t 66, .t 67], none⟩,
    ⟨some 63, .mv (.t 68), none⟩,
    ⟨some 69, .ext (.t 63) 0, none⟩,
    ⟨some 70, .ext (.t 63) 1, none⟩,
    ⟨some 15, .alloc [.int .i64 0, .int .i64 0, .int .i64 0, .str ⟨#[]⟩, .str ⟨#[]⟩, .ro 1 [] true, .ro 2 [] true], none⟩,
    ⟨none, .st (.t 15) (.t 69) 7, none⟩,
    ⟨some 16, .mv (.t 70), none⟩])
   (.seq (.reg [⟨some 71, .mv (.t 16), none⟩,
    ⟨some 72, .bin .eql (.t 71) (.k (.int .i64 0)) 0, none⟩])
   (.cond (.t 72) (.seq (.reg [⟨some 74, .ld (.t 7) 8 true, none⟩,
    ⟨some 75, .ld (.t 15) 7 true, none⟩,
    ⟨some 76, .call 26 [.t 74, .t 75], none⟩,
    ⟨some 73, .mv (.t 76), none⟩,
    ⟨some 77, .ext (.t 73) 0, none⟩,
    ⟨some 78, .ext (.t 73) 1, none⟩,
    ⟨some 17, .alloc [.int .i64 0, .int .i64 0, .int .i64 0, .ro 3 [] true, .ro 6 [] true, .ro 3 [] true, .ro 12 [] true, .ro 1 [] true], none⟩,
    ⟨none, .st (.t 17) (.t 77) 8, none⟩,
    ⟨some 18, .mv (.t 78), none⟩])
   (.seq (.reg [⟨some 79, .mv (.t 18), none⟩])
   (.cond (.t 79) (.reg [⟨some 80, .ld (.t 17) 8 true, none⟩,
    ⟨none, .st (.t 7) (.t 80) 8, none⟩]) (.skip)))) (.skip)))) (.skip)))) (.skip)))))
   (.reg [⟨some 29, .mv (.t 8), none⟩,
    ⟨some 30, .bin .add (.t 29) (.k (.int .i64 1)) 0, none⟩,
    ⟨some 8, .mv (.t 30), none⟩]))))))
   (.seq (.reg [⟨some 81, .ld (.t 7) 8 true, none⟩,
    ⟨none, .st (.t 6) (.t 81) 8, none⟩])
   (.ret))))
def k24 : FCode := ⟨82, c24, [.cell 6 8 true], none⟩
def c25 : LCode := .seq (.reg [⟨some 2, .box (.t 0), none⟩,
    ⟨some 4, .mv (.k (.ro 7 [] true)), none⟩])
   (.seq (.reg [⟨some 5, .mv (.k (.ro 7 [] true)), none⟩])
   (.seq (.reg [⟨some 11, .mkf 65 [.t 2], none⟩,
    ⟨some 6, .mv (.t 11), none⟩])
   (.seq (.seq (.reg [⟨some 12, .fa (.t 2) 6, none⟩,
    ⟨some 13, .ld (.t 12) 1 false, none⟩,
    ⟨some 14, .mv (.t 1), none⟩,
    ⟨some 15, .call 66 [.t 13, .t 14], none⟩,
    ⟨some 16, .len (.t 15) false, none⟩,
    ⟨some 17, .mv (.k (.int .i64 0)), none⟩])
   (.block 0 (.loop (.seq (.reg [⟨some 18, .bin .lss (.t 17) (.t 16) 0, none⟩])
   (.seq (.cond (.t 18) (.skip) (.exit 0))
   (.seq (.block 1 (.seq (.reg [⟨some 19, .ix 1 (.t 15) (.t 17), none⟩,
    ⟨some 20, .ld (.t 19) 1 false, none⟩,
    ⟨some 8, .mv (.t 20), none⟩])
   (.seq (.dreg [] [⟨some 21, .mv (.t 1), none⟩,
    ⟨some 22, .mv (.t 8), none⟩,
    ⟨some 23, .fa (.t 2) 6, none⟩,
    ⟨some 24, .ld (.t 23) 1 false, none⟩,
    ⟨some 25, .fa (.t 2) 6, none⟩,
    ⟨some 26, .ld (.t 25) 1 false, none⟩,
    ⟨some 27, .mv (.t 8), none⟩,
    ⟨some 28, .pcall 67 [.t 26, .t 27], none⟩,
    ⟨some 29, .ix 12 (.t 24) (.t 28), none⟩,
    ⟨some 30, .fa (.t 29) 3, none⟩,
    ⟨some 31, .ld (.t 30) 1 false, none⟩,
    ⟨some 32, .mks 1 [.t 22, .t 31], none⟩,
    ⟨some 33, .build [.int .i64 0, .int .i64 0, .int .i64 0, .str ⟨#[]⟩, .str ⟨#[]⟩, .ro 1 [] true, .ro 2 [] true] [(1, 1, .t 21), (2, 1, .k (.int .i64 12)), (5, 1, .t 32)], none⟩,
    ⟨some 9, .alloc [.int .i64 0, .int .i64 0, .int .i64 0, .str ⟨#[]⟩, .str ⟨#[]⟩, .ro 1 [] true, .ro 2 [] true], none⟩,
    ⟨none, .st (.t 9) (.t 33) 7, none⟩])
   (.seq (.reg [⟨some 34, .mv (.t 6), none⟩,
    ⟨some 35, .ld (.t 9) 7 true, none⟩,
    ⟨some 36, .callv (.t 34) [.t 35], none⟩])
   (.reg [⟨some 37, .mv (.t 5), none⟩,
    ⟨some 38, .ld (.t 9) 7 true, none⟩,
    ⟨some 39, .mks 7 [.t 38], none⟩,
    ⟨some 40, .app 7 104 (.t 37) (.t 39), none⟩,
    ⟨some 5, .mv (.t 40), none⟩])))))
   (.reg [⟨some 41, .bin .add (.t 17) (.k (.int .i64 1)) 0, none⟩,
    ⟨some 17, .mv (.t 41), none⟩])))))))
   (.seq (.seq (.reg [⟨some 42, .mv (.t 1), none⟩,
    ⟨some 43, .build [.int .i64 0, .int .i64 0, .int .i64 0, .str ⟨#[]⟩, .str ⟨#[]⟩, .ro 1 [] true, .ro 2 [] true] [(1, 1, .t 42), (2, 1, .k (.int .i64 15))], none⟩,
    ⟨some 10, .alloc [.int .i64 0, .int .i64 0, .int .i64 0, .str ⟨#[]⟩, .str ⟨#[]⟩, .ro 1 [] true, .ro 2 [] true], none⟩,
    ⟨none, .st (.t 10) (.t 43) 7, none⟩])
   (.seq (.reg [⟨some 44, .mv (.t 6), none⟩,
    ⟨some 45, .ld (.t 10) 7 true, none⟩,
    ⟨some 46, .callv (.t 44) [.t 45], none⟩])
   (.cond (.t 46) (.reg [⟨some 47, .mv (.t 5), none⟩,
    ⟨some 48, .ld (.t 10) 7 true, none⟩,
    ⟨some 49, .mks 7 [.t 48], none⟩,
    ⟨some 50, .app 7 104 (.t 47) (.t 49), none⟩,
    ⟨some 5, .mv (.t 50), none⟩]) (.skip))))
   (.seq (.reg [⟨some 51, .mv (.t 5), none⟩,
    ⟨some 52, .call 68 [.t 51], none⟩,
    ⟨some 4, .mv (.t 52), none⟩])
   (.ret))))))
def k25 : FCode := ⟨53, c25, [.tmp 4], none⟩
def c26 : LCode := .seq (.reg [⟨some 2, .box (.t 0), none⟩,
    ⟨some 3, .box (.t 1), none⟩,
    ⟨some 4, .alloc [.int .i64 0, .int .i64 0, .int .i64 0, .ro 3 [] true, .ro 6 [] true, .ro 3 [] true, .ro 12 [] true, .ro 1 [] true], none⟩,
    ⟨some 5, .mv (.k (.bool false)), none⟩])
   (.seq (.reg [⟨some 11, .ld (.t 2) 8 true, none⟩,
    ⟨some 12, .ld (.t 3) 7 true, none⟩,
    ⟨some 13, .call 10 [.t 11, .t 12], none⟩,
    ⟨some 10, .mv (.t 13), none⟩,
    ⟨some 14, .ext (.t 10) 0, none⟩,
    ⟨some 15, .ext (.t 10) 1, none⟩,
    ⟨some 6, .alloc [.int .i64 0, .int .i64 0, .int .i64 0, .str ⟨#[]⟩, .str ⟨#[]⟩, .ro 1 [] true, .ro 2 [] true], none⟩,
    ⟨none, .st (.t 6) (.t 14) 7, none⟩,
    ⟨some 7, .mv (.t 15), none⟩])
   (.seq (.seq (.reg [⟨some 16, .mv (.t 7), none⟩,
    ⟨some 17, .bin .neq (.t 16) (.k (.int .i64 0)) 0, none⟩])
   (.cond (.t 17) (.seq (.reg [⟨some 18, .ld (.t 2) 8 true, none⟩,
    ⟨none, .st (.t 4) (.t 18) 8, none⟩,
    ⟨some 5, .mv (.k (.bool false)), none⟩])
   (.ret)) (.skip)))
   (.seq (.reg [⟨some 20, .ld (.t 2) 8 true, none⟩,
    ⟨some 21, .ld (.t 6) 7 true, none⟩,
    ⟨some 22, .call 13 [.t 20, .t 21], none⟩,
    ⟨some 19, .mv (.t 22), none⟩,
    ⟨some 23, .ext (.t 19) 0, none⟩,
    ⟨some 24, .ext (.t 19) 1, none⟩,
    ⟨some 8, .alloc [.int .i64 0, .int .i64 0, .int .i64 0, .ro 3 [] true, .ro 6 [] true, .ro 3 [] true, .ro 12 [] true, .ro 1 [] true], none⟩,
    ⟨none, .st (.t 8) (.t 23) 8, none⟩,
    ⟨some 9, .mv (.t 24), none⟩])
   (.seq (.reg [⟨some 25, .ld (.t 8) 8 true, none⟩,
    ⟨some 26, .mv (.t 9), none⟩,
    ⟨some 27, .bin .eql (.t 26) (.k (.int .i64 0)) 0, none⟩,
    ⟨none, .st (.t 4) (.t 25) 8, none⟩,
    ⟨some 5, .mv (.t 27), none⟩])
   (.ret)))))
def k26 : FCode := ⟨28, c26, [.cell 4 8 true, .tmp 5], none⟩
def c27 : LCode := .seq (.reg [⟨some 4, .mv (.k (.int .i64 0)), none⟩])
   (.seq (.seq (.reg [⟨some 5, .mv (.t 0), none⟩,
    ⟨some 6, .bin .lss (.t 5) (.k (.int .i64 0)) 0, none⟩])
   (.cond (.t 6) (.seq (.reg [⟨some 4, .mv (.k (.int .i64 0)), none⟩])
   (.ret)) (.skip)))
   (.seq (.seq (.reg [⟨some 7, .mv (.t 0), none⟩,
    ⟨some 8, .mv (.t 1), none⟩,
    ⟨some 9, .bin .gtr (.t 7) (.t 8) 0, none⟩])
   (.cond (.t 9) (.seq (.reg [⟨some 10, .mv (.t 1), none⟩,
    ⟨some 4, .mv (.t 10), none⟩])
   (.ret)) (.skip)))
   (.seq (.reg [⟨some 11, .mv (.t 0), none⟩,
    ⟨some 4, .mv (.t 11), none⟩])
   (.ret))))
def k27 : FCode := ⟨12, c27, [.tmp 4], none⟩
def c28 : LCode := .seq (.reg [⟨some 4, .box (.t 0), none⟩,
    ⟨some 5, .box (.t 1), none⟩,
    ⟨some 8, .mv (.k (.int .i64 0)), none⟩,
    ⟨some 9, .mv (.k (.bool false)), none⟩])
   (.seq (.reg [⟨some 10, .mv (.k (.ro 1 [] true)), none⟩])
   (.seq (.reg [⟨some 17, .fa (.t 5) 6, none⟩,
    ⟨some 18, .ld (.t 17) 1 false, none⟩,
    ⟨some 19, .call 69 [.t 18], none⟩,
    ⟨some 11, .mv (.t 19), none⟩])
   (.seq (.seq (.reg [⟨some 20, .mv (.t 11), none⟩,
    ⟨some 21, .len (.t 20) false, none⟩,
    ⟨some 22, .mv (.k (.int .i64 0)), none⟩])
   (.block 0 (.loop (.seq (.reg [⟨some 23, .bin .lss (.t 22) (.t 21) 0, none⟩])
   (.seq (.cond (.t 23) (.skip) (.exit 0))
   (.seq (.block 1 (.seq (.reg [⟨some 24, .ix 1 (.t 20) (.t 22), none⟩,
    ⟨some 25, .ld (.t 24) 1 false, none⟩,
    ⟨some 13, .mv (.t 25), none⟩])
   (.reg [⟨some 26, .mv (.t 10), none⟩,
    ⟨some 27, .mv (.t 3), none⟩,
    ⟨some 28, .fa (.t 5) 6, none⟩,
    ⟨some 29, .ld (.t 28) 1 false, none⟩,
    ⟨some 30, .mv (.t 13), none⟩,
    ⟨some 31, .ix 12 (.t 29) (.t 30), none⟩,
    ⟨some 32, .fa (.t 31) 0, none⟩,
    ⟨some 33, .ld (.t 32) 1 false, none⟩,
    ⟨some 34, .call 70 [.t 27, .t 33], none⟩,
    ⟨some 35, .mks 1 [.t 34], none⟩,
    ⟨some 36, .app 1 1 (.t 26) (.t 35), none⟩,
    ⟨some 10, .mv (.t 36), none⟩])))
   (.reg [⟨some 37, .bin .add (.t 22) (.k (.int .i64 1)) 0, none⟩,
    ⟨some 22, .mv (.t 37), none⟩])))))))
   (.seq (.reg [⟨some 14, .mv (.k (.fn 71 [])), none⟩])
   (.seq (.seq (.reg [⟨some 38, .fa (.t 4) 1, none⟩,
    ⟨some 39, .ld (.t 38) 1 false, none⟩,
    ⟨some 40, .bin .eql (.t 39) (.k (.int .i64 2)) 0, none⟩])
   (.cond (.t 40) (.reg [⟨some 14, .mv (.k (.fn 72 [])), none⟩]) (.skip)))
   (.seq (.dreg [] [⟨some 42, .mv (.t 14), none⟩,
    ⟨some 43, .mv (.t 2), none⟩,
    ⟨some 44, .fa (.t 4) 0, none⟩,
    ⟨some 45, .ld (.t 44) 1 false, none⟩,
    ⟨some 46, .fa (.t 5) 6, none⟩,
    ⟨some 47, .ld (.t 46) 1 false, none⟩,
    ⟨some 48, .kcall 73 [.t 47], none⟩,
    ⟨some 49, .fa (.t 5) 6, none⟩,
    ⟨some 50, .ld (.t 49) 1 false, none⟩,
    ⟨some 51, .kcall 74 [.t 50], none⟩,
    ⟨some 52, .mv (.t 10), none⟩,
    ⟨some 53, .callv (.t 42) [.t 43, .t 45, .t 48, .t 51, .t 52], none⟩,
    ⟨some 41, .mv (.t 53), none⟩,
    ⟨some 54, .ext (.t 41) 0, none⟩,
    ⟨some 55, .ext (.t 41) 1, none⟩,
    ⟨some 15, .mv (.t 54), none⟩,
    ⟨some 16, .mv (.t 55), none⟩])
   (.seq (.seq (.reg [⟨some 56, .mv (.t 16), none⟩,
    ⟨some 57, .un .not (.t 56), none⟩])
   (.cond (.t 57) (.seq (.reg [⟨some 8, .mv (.k (.int .i64 0)), none⟩,
    ⟨some 9, .mv (.k (.bool false)), none⟩])
   (.ret)) (.skip)))
   (.seq (.dreg [] [⟨some 58, .fa (.t 5) 6, none⟩,
    ⟨some 59, .ld (.t 58) 1 false, none⟩,
    ⟨some 60, .mv (.t 11), none⟩,
    ⟨some 61, .mv (.t 15), none⟩,
    ⟨some 62, .ix 1 (.t 60) (.t 61), none⟩,
    ⟨some 63, .ld (.t 62) 1 false, none⟩,
    ⟨some 64, .ix 12 (.t 59) (.t 63), none⟩,
    ⟨some 65, .fa (.t 64) 0, none⟩,
    ⟨some 66, .ld (.t 65) 1 false, none⟩,
    ⟨some 8, .mv (.t 66), none⟩,
    ⟨some 9, .mv (.k (.bool true)), none⟩])
   (.ret)))))))))
def k28 : FCode := ⟨67, c28, [.tmp 8, .tmp 9], none⟩
def c29 : LCode := .seq (.reg [⟨some 4, .box (.t 0), none⟩,
    ⟨some 5, .box (.t 1), none⟩,
    ⟨some 8, .mv (.k (.int .i64 0)), none⟩,
    ⟨some 9, .mv (.k (.bool false)), none⟩])
   (.seq (.reg [⟨some 19, .fa (.t 5) 6, none⟩,
    ⟨some 20, .ld (.t 19) 1 false, none⟩,
    ⟨some 21, .call 75 [.t 20], none⟩,
    ⟨some 10, .mv (.t 21), none⟩])
   (.seq (.reg [⟨some 22, .mks 2 [], none⟩,
    ⟨some 23, .mks 1 [], none⟩,
    ⟨some 11, .mv (.t 22), none⟩,
    ⟨some 12, .mv (.t 23), none⟩])
   (.seq (.seq (.reg [⟨some 13, .mv (.k (.int .i64 0)), none⟩])
   (.block 0 (.loop (.seq (.seq (.reg [⟨some 24, .mv (.t 13), none⟩,
    ⟨some 25, .mv (.t 10), none⟩,
    ⟨some 26, .len (.t 25) false, none⟩,
    ⟨some 27, .bin .lss (.t 24) (.t 26) 0, none⟩])
   (.cond (.t 27) (.skip) (.exit 0)))
   (.seq (.block 1 (.seq (.dreg [] [⟨some 30, .fa (.t 5) 6, none⟩,
    ⟨some 31, .ld (.t 30) 1 false, none⟩,
    ⟨some 32, .mv (.t 10), none⟩,
    ⟨some 33, .mv (.t 13), none⟩,
    ⟨some 34, .ix 1 (.t 32) (.t 33), none⟩,
    ⟨some 35, .ld (.t 34) 1 false, none⟩,
    ⟨some 36, .ix 12 (.t 31) (.t 35), none⟩,
    ⟨some 37, .ld (.t 36) 12 true, none⟩,
    ⟨some 14, .alloc [.int .i64 0, .int .i64 0, .int .i64 0, .int .i64 0, .int .i64 0, .int .i64 0, .int .i64 0, .int .i64 0, .int .i64 0, .int .i64 0, .int .i64 0, .ro 2 [] true], none⟩,
    ⟨none, .st (.t 14) (.t 37) 12, none⟩])
   (.dreg [(7, 11)] [⟨some 38, .mv (.t 11), none⟩,
    ⟨some 39, .fa (.t 14) 2, none⟩,
    ⟨some 40, .ld (.t 39) 1 false, none⟩,
    ⟨some 41, .fa (.t 14) 3, none⟩,
    ⟨some 42, .ld (.t 41) 1 false, none⟩,
    ⟨some 43, .build [.int .i64 0, .int .i64 0] [(0, 1, .t 40), (1, 1, .t 42)], none⟩,
    ⟨some 44, .mks 2 [.t 43], none⟩,
    ⟨some 45, .app 2 16 (.t 38) (.t 44), none⟩,
    ⟨some 46, .mv (.t 12), none⟩,
    ⟨some 47, .mv (.t 3), none⟩,
    ⟨some 48, .fa (.t 14) 0, none⟩,
    ⟨some 49, .ld (.t 48) 1 false, none⟩,
    ⟨some 50, .call 76 [.t 47, .t 49], none⟩,
    ⟨some 51, .mks 1 [.t 50], none⟩,
    ⟨some 52, .app 1 1 (.t 46) (.t 51), none⟩,
    ⟨some 11, .mv (.t 45), none⟩,
    ⟨some 12, .mv (.t 52), none⟩])))
   (.reg [⟨some 28, .mv (.t 13), none⟩,
    ⟨some 29, .bin .add (.t 28) (.k (.int .i64 1)) 0, none⟩,
    ⟨some 13, .mv (.t 29), none⟩]))))))
   (.seq (.seq (.reg [⟨some 53, .fa (.t 4) 1, none⟩,
    ⟨some 54, .ld (.t 53) 1 false, none⟩,
    ⟨some 55, .bin .eql (.t 54) (.k (.int .i64 1)) 0, none⟩])
   (.cond (.t 55) (.seq (.dreg [] [⟨some 57, .mv (.t 2), none⟩,
    ⟨some 58, .fa (.t 4) 0, none⟩,
    ⟨some 59, .ld (.t 58) 1 false, none⟩,
    ⟨some 60, .fa (.t 5) 6, none⟩,
    ⟨some 61, .ld (.t 60) 1 false, none⟩,
    ⟨some 62, .kcall 78 [.t 61], none⟩,
    ⟨some 63, .mv (.t 11), none⟩,
    ⟨some 64, .mv (.t 12), none⟩,
    ⟨some 65, .call 77 [.t 57, .t 59, .t 62, .t 63, .t 64], none⟩,
    ⟨some 56, .mv (.t 65), none⟩,
    ⟨some 66, .ext (.t 56) 0, none⟩,
    ⟨some 67, .ext (.t 56) 1, none⟩,
    ⟨some 15, .mv (.t 66), none⟩,
    ⟨some 16, .mv (.t 67), none⟩])
   (.seq (.seq (.reg [⟨some 68, .mv (.t 16), none⟩,
    ⟨some 69, .un .not (.t 68), none⟩])
   (.cond (.t 69) (.seq (.reg [⟨some 8, .mv (.k (.int .i64 0)), none⟩,
    ⟨some 9, .mv (.k (.bool false)), none⟩])
   (.ret)) (.skip)))
   (.seq (.dreg [] [⟨some 70, .fa (.t 5) 6, none⟩,
    ⟨some 71, .ld (.t 70) 1 false, none⟩,
    ⟨some 72, .mv (.t 10), none⟩,
    ⟨some 73, .mv (.t 15), none⟩,
    ⟨some 74, .ix 1 (.t 72) (.t 73), none⟩,
    ⟨some 75, .ld (.t 74) 1 false, none⟩,
    ⟨some 76, .ix 12 (.t 71) (.t 75), none⟩,
    ⟨some 77, .fa (.t 76) 0, none⟩,
    ⟨some 78, .ld (.t 77) 1 false, none⟩,
    ⟨some 8, .mv (.t 78), none⟩,
    ⟨some 9, .mv (.k (.bool true)), none⟩])
   (.ret)))) (.skip)))
   (.seq (.dreg [] [⟨some 79, .mv (.t 2), none⟩,
    ⟨some 80, .fa (.t 4) 0, none⟩,
    ⟨some 81, .ld (.t 80) 1 false, none⟩,
    ⟨some 82, .fa (.t 5) 6, none⟩,
    ⟨some 83, .ld (.t 82) 1 false, none⟩,
    ⟨some 84, .kcall 78 [.t 83], none⟩,
    ⟨some 85, .mv (.t 11), none⟩,
    ⟨some 86, .mv (.t 12), none⟩,
    ⟨some 87, .call 79 [.t 79, .t 81, .t 84, .t 85, .t 86], none⟩,
    ⟨some 17, .mv (.t 87), none⟩])
   (.seq (.seq (.reg [⟨some 18, .mv (.k (.int .i64 0)), none⟩])
   (.block 2 (.loop (.seq (.seq (.reg [⟨some 88, .mv (.t 18), none⟩,
    ⟨some 89, .mv (.t 17), none⟩,
    ⟨some 90, .len (.t 89) false, none⟩,
    ⟨some 91, .bin .lss (.t 88) (.t 90) 0, none⟩])
   (.cond (.t 91) (.skip) (.exit 2)))
   (.seq (.block 3 (.seq (.reg [⟨some 94, .mv (.t 17), none⟩,
    ⟨some 95, .mv (.t 18), none⟩,
    ⟨some 96, .ix 1 (.t 94) (.t 95), none⟩,
    ⟨some 97, .ld (.t 96) 1 false, none⟩,
    ⟨some 98, .mv (.t 2), none⟩,
    ⟨some 99, .bin .eql (.t 97) (.t 98) 0, none⟩])
   (.cond (.t 99) (.seq (.dreg [] [⟨some 100, .fa (.t 5) 6, none⟩,
    ⟨some 101, .ld (.t 100) 1 false, none⟩,
    ⟨some 102, .mv (.t 10), none⟩,
    ⟨some 103, .mv (.t 18), none⟩,
    ⟨some 104, .ix 1 (.t 102) (.t 103), none⟩,
    ⟨some 105, .ld (.t 104) 1 false, none⟩,
    ⟨some 106, .ix 12 (.t 101) (.t 105), none⟩,
    ⟨some 107, .fa (.t 106) 0, none⟩,
    ⟨some 108, .ld (.t 107) 1 false, none⟩,
    ⟨some 8, .mv (.t 108), none⟩,
    ⟨some 9, .mv (.k (.bool true)), none⟩])
   (.ret)) (.skip))))
   (.reg [⟨some 92, .mv (.t 18), none⟩,
    ⟨some 93, .bin .add (.t 92) (.k (.int .i64 1)) 0, none⟩,
    ⟨some 18, .mv (.t 93), none⟩]))))))
   (.seq (.reg [⟨some 8, .mv (.k (.int .i64 0)), none⟩,
    ⟨some 9, .mv (.k (.bool false)), none⟩])
   (.ret))))))))
def k29 : FCode := ⟨109, c29, [.tmp 8, .tmp 9], none⟩
def c30 : LCode := .seq (.reg [⟨some 4, .box (.t 0), none⟩,
    ⟨some 5, .box (.t 1), none⟩,
    ⟨some 8, .alloc [.int .i64 0, .int .i64 0, .int .i64 0, .str ⟨#[]⟩, .str ⟨#[]⟩, .ro 1 [] true, .ro 2 [] true], none⟩,
    ⟨some 9, .mv (.k (.int .i64 0)), none⟩])
   (.seq (.reg [⟨some 13, .fa (.t 5) 6, none⟩,
    ⟨some 14, .ld (.t 13) 1 false, none⟩,
    ⟨some 15, .mv (.t 3), none⟩,
    ⟨some 16, .call 67 [.t 14, .t 15], none⟩,
    ⟨some 10, .mv (.t 16), none⟩])
   (.seq (.seq (.reg [⟨some 17, .mv (.t 10), none⟩,
    ⟨some 18, .bin .lss (.t 17) (.k (.int .i64 0)) 0, none⟩])
   (.cond (.t 18) (.seq (.reg [⟨some 19, .build [.int .i64 0, .int .i64 0, .int .i64 0, .str ⟨#[]⟩, .str ⟨#[]⟩, .ro 1 [] true, .ro 2 [] true] [], none⟩,
    ⟨none, .st (.t 8) (.t 19) 7, none⟩,
    ⟨some 9, .mv (.k (.int .i64 4)), none⟩])
   (.ret)) (.skip)))
   (.seq (.dreg [] [⟨some 21, .fa (.t 4) 0, none⟩,
    ⟨some 22, .ld (.t 21) 1 false, none⟩,
    ⟨some 23, .kcall 81 [.t 22], none⟩,
    ⟨some 24, .fa (.t 5) 6, none⟩,
    ⟨some 25, .ld (.t 24) 1 false, none⟩,
    ⟨some 26, .kcall 82 [.t 25], none⟩,
    ⟨some 27, .bin .andNot (.t 23) (.t 26) 0, none⟩,
    ⟨some 28, .fa (.t 5) 6, none⟩,
    ⟨some 29, .ld (.t 28) 1 false, none⟩,
    ⟨some 30, .mv (.t 10), none⟩,
    ⟨some 31, .ix 12 (.t 29) (.t 30), none⟩,
    ⟨some 32, .fa (.t 31) 2, none⟩,
    ⟨some 33, .ld (.t 32) 1 false, none⟩,
    ⟨some 34, .call 80 [.t 27, .t 33], none⟩,
    ⟨some 20, .mv (.t 34), none⟩,
    ⟨some 35, .ext (.t 20) 0, none⟩,
    ⟨some 36, .ext (.t 20) 1, none⟩,
    ⟨some 11, .mv (.t 35), none⟩,
    ⟨some 12, .mv (.t 36), none⟩])
   (.seq (.seq (.reg [⟨some 37, .mv (.t 12), none⟩,
    ⟨some 38, .un .not (.t 37), none⟩])
   (.cond (.t 38) (.seq (.reg [⟨some 39, .build [.int .i64 0, .int .i64 0, .int .i64 0, .str ⟨#[]⟩, .str ⟨#[]⟩, .ro 1 [] true, .ro 2 [] true] [], none⟩,
    ⟨none, .st (.t 8) (.t 39) 7, none⟩,
    ⟨some 9, .mv (.k (.int .i64 13)), none⟩])
   (.ret)) (.skip)))
   (.seq (.reg [⟨some 40, .mv (.t 2), none⟩,
    ⟨some 41, .mv (.t 3), none⟩,
    ⟨some 42, .mv (.t 11), none⟩,
    ⟨some 43, .mks 1 [.t 41, .t 42], none⟩,
    ⟨some 44, .build [.int .i64 0, .int .i64 0, .int .i64 0, .str ⟨#[]⟩, .str ⟨#[]⟩, .ro 1 [] true, .ro 2 [] true] [(1, 1, .t 40), (2, 1, .k (.int .i64 14)), (5, 1, .t 43)], none⟩,
    ⟨none, .st (.t 8) (.t 44) 7, none⟩,
    ⟨some 9, .mv (.k (.int .i64 0)), none⟩])
   (.ret))))))
def k30 : FCode := ⟨45, c30, [.cell 8 7 true, .tmp 9], none⟩
def c31 : LCode := .seq (.reg [⟨some 4, .box (.t 0), none⟩,
    ⟨some 5, .box (.t 1), none⟩,
    ⟨some 8, .alloc [.int .i64 0, .int .i64 0, .int .i64 0, .str ⟨#[]⟩, .str ⟨#[]⟩, .ro 1 [] true, .ro 2 [] true], none⟩,
    ⟨some 9, .mv (.k (.int .i64 0)), none⟩])
   (.seq (.reg [⟨some 15, .fa (.t 5) 6, none⟩,
    ⟨some 16, .ld (.t 15) 1 false, none⟩,
    ⟨some 17, .mv (.t 3), none⟩,
    ⟨some 18, .call 57 [.t 16, .t 17], none⟩,
    ⟨some 10, .mv (.t 18), none⟩])
   (.seq (.seq (.reg [⟨some 19, .mv (.t 10), none⟩,
    ⟨some 20, .bin .lss (.t 19) (.k (.int .i64 0)) 0, none⟩])
   (.cond (.t 20) (.seq (.reg [⟨some 21, .build [.int .i64 0, .int .i64 0, .int .i64 0, .str ⟨#[]⟩, .str ⟨#[]⟩, .ro 1 [] true, .ro 2 [] true] [], none⟩,
    ⟨none, .st (.t 8) (.t 21) 7, none⟩,
    ⟨some 9, .mv (.k (.int .i64 4)), none⟩])
   (.ret)) (.skip)))
   (.seq (.reg [⟨some 11, .mv (.k (.int .i64 0)), none⟩])
   (.seq (.seq (.reg [⟨some 12, .mv (.k (.int .i64 0)), none⟩])
   (.block 0 (.loop (.seq (.seq (.reg [⟨some 22, .mv (.t 12), none⟩,
    ⟨some 23, .fa (.t 4) 0, none⟩,
    ⟨some 24, .ld (.t 23) 1 false, none⟩,
    ⟨some 25, .bin .lss (.t 22) (.t 24) 0, none⟩,
    ⟨some 26, .mv (.t 25), none⟩,
    ⟨some 27, .mv (.t 12), some (26, true)⟩,
    ⟨some 28, .bin .lss (.t 27) (.k (.int .i64 32)) 0, some (26, true)⟩,
    ⟨some 29, .pick (.t 26) (.t 28) (.k (.bool false)), none⟩])
   (.cond (.t 29) (.skip) (.exit 0)))
   (.seq (.block 1 (.seq (.reg [⟨some 32, .fa (.t 5) 6, none⟩,
    ⟨some 33, .ld (.t 32) 1 false, none⟩,
    ⟨some 34, .call 84 [.t 33], none⟩,
    ⟨some 35, .mv (.t 12), none⟩,
    ⟨some 36, .call 83 [.t 34, .t 35], none⟩,
    ⟨some 37, .un .not (.t 36), none⟩])
   (.cond (.t 37) (.reg [⟨some 38, .mv (.t 11), none⟩,
    ⟨some 39, .mv (.t 12), none⟩,
    ⟨some 40, .conv .u64 (.t 39), none⟩,
    ⟨some 41, .bin .shl (.k (.int .i64 1)) (.t 40) 0, none⟩,
    ⟨some 42, .bin .add (.t 38) (.t 41) 0, none⟩,
    ⟨some 11, .mv (.t 42), none⟩]) (.skip))))
   (.reg [⟨some 30, .mv (.t 12), none⟩,
    ⟨some 31, .bin .add (.t 30) (.k (.int .i64 1)) 0, none⟩,
    ⟨some 12, .mv (.t 31), none⟩]))))))
   (.seq (.reg [⟨some 44, .mv (.t 11), none⟩,
    ⟨some 45, .fa (.t 5) 6, none⟩,
    ⟨some 46, .ld (.t 45) 1 false, none⟩,
    ⟨some 47, .mv (.t 10), none⟩,
    ⟨some 48, .ix 12 (.t 46) (.t 47), none⟩,
    ⟨some 49, .fa (.t 48) 2, none⟩,
    ⟨some 50, .ld (.t 49) 1 false, none⟩,
    ⟨some 51, .call 85 [.t 44, .t 50], none⟩,
    ⟨some 43, .mv (.t 51), none⟩,
    ⟨some 52, .ext (.t 43) 0, none⟩,
    ⟨some 53, .ext (.t 43) 1, none⟩,
    ⟨some 13, .mv (.t 52), none⟩,
    ⟨some 14, .mv (.t 53), none⟩])
   (.seq (.seq (.reg [⟨some 54, .mv (.t 14), none⟩,
    ⟨some 55, .un .not (.t 54), none⟩])
   (.cond (.t 55) (.seq (.reg [⟨some 56, .build [.int .i64 0, .int .i64 0, .int .i64 0, .str ⟨#[]⟩, .str ⟨#[]⟩, .ro 1 [] true, .ro 2 [] true] [], none⟩,
    ⟨none, .st (.t 8) (.t 56) 7, none⟩,
    ⟨some 9, .mv (.k (.int .i64 13)), none⟩])
   (.ret)) (.skip)))
   (.seq (.reg [⟨some 57, .mv (.t 2), none⟩,
    ⟨some 58, .mv (.t 3), none⟩,
    ⟨some 59, .mv (.t 13), none⟩,
    ⟨some 60, .mks 1 [.t 58, .t 59], none⟩,
    ⟨some 61, .build [.int .i64 0, .int .i64 0, .int .i64 0, .str ⟨#[]⟩, .str ⟨#[]⟩, .ro 1 [] true, .ro 2 [] true] [(1, 1, .t 57), (2, 1, .k (.int .i64 14)), (5, 1, .t 60)], none⟩,
    ⟨none, .st (.t 8) (.t 61) 7, none⟩,
    ⟨some 9, .mv (.k (.int .i64 0)), none⟩])
   (.ret))))))))
def k31 : FCode := ⟨62, c31, [.cell 8 7 true, .tmp 9], none⟩
def c32 : LCode := .seq (.reg [⟨some 3, .box (.t 0), none⟩,
    ⟨some 6, .mv (.k (.int .i64 0)), none⟩])
   (.seq (.reg [⟨some 13, .fa (.t 3) 6, none⟩,
    ⟨some 14, .ld (.t 13) 1 false, none⟩,
    ⟨some 15, .mv (.t 2), none⟩,
    ⟨some 16, .call 67 [.t 14, .t 15], none⟩,
    ⟨some 7, .mv (.t 16), none⟩])
   (.seq (.seq (.reg [⟨some 17, .mv (.t 7), none⟩,
    ⟨some 18, .bin .lss (.t 17) (.k (.int .i64 0)) 0, none⟩])
   (.cond (.t 18) (.seq (.reg [⟨some 6, .mv (.k (.int .i64 4)), none⟩])
   (.ret)) (.skip)))
   (.seq (.reg [⟨some 19, .fa (.t 3) 6, none⟩,
    ⟨some 20, .ld (.t 19) 1 false, none⟩,
    ⟨some 21, .call 86 [.t 20], none⟩,
    ⟨some 22, .fa (.t 3) 6, none⟩,
    ⟨none, .st (.t 22) (.t 21) 1, none⟩])
   (.seq (.seq (.reg [⟨some 23, .fa (.t 3) 6, none⟩,
    ⟨some 24, .ld (.t 23) 1 false, none⟩,
    ⟨some 25, .len (.t 24) false, none⟩,
    ⟨some 26, .mv (.k (.int .i64 0)), none⟩])
   (.block 0 (.loop (.seq (.reg [⟨some 27, .bin .lss (.t 26) (.t 25) 0, none⟩])
   (.seq (.cond (.t 27) (.skip) (.exit 0))
   (.seq (.block 1 (.seq (.reg [⟨some 28, .mv (.t 26), none⟩,
    ⟨some 8, .mv (.t 28), none⟩])
   (.reg [⟨some 29, .fa (.t 3) 6, none⟩,
    ⟨some 30, .ld (.t 29) 1 false, none⟩,
    ⟨some 31, .mv (.t 8), none⟩,
    ⟨some 32, .ix 12 (.t 30) (.t 31), none⟩,
    ⟨some 33, .fa (.t 32) 9, none⟩,
    ⟨none, .st (.t 33) (.k (.int .i64 0)) 1, none⟩])))
   (.reg [⟨some 34, .bin .add (.t 26) (.k (.int .i64 1)) 0, none⟩,
    ⟨some 26, .mv (.t 34), none⟩])))))))
   (.seq (.dreg [] [⟨some 36, .kcall 81 [.k (.int .i64 32)], none⟩,
    ⟨some 37, .fa (.t 3) 6, none⟩,
    ⟨some 38, .ld (.t 37) 1 false, none⟩,
    ⟨some 39, .mv (.t 7), none⟩,
    ⟨some 40, .ix 12 (.t 38) (.t 39), none⟩,
    ⟨some 41, .fa (.t 40) 2, none⟩,
    ⟨some 42, .ld (.t 41) 1 false, none⟩,
    ⟨some 43, .call 80 [.t 36, .t 42], none⟩,
    ⟨some 35, .mv (.t 43), none⟩,
    ⟨some 44, .ext (.t 35) 0, none⟩,
    ⟨some 45, .ext (.t 35) 1, none⟩,
    ⟨some 9, .mv (.t 44), none⟩,
    ⟨some 10, .mv (.t 45), none⟩])
   (.seq (.reg [⟨some 47, .ld (.t 3) 8 true, none⟩,
    ⟨some 48, .mv (.t 1), none⟩,
    ⟨some 49, .mv (.t 2), none⟩,
    ⟨some 50, .mv (.t 9), none⟩,
    ⟨some 51, .mks 1 [.t 49, .t 50], none⟩,
    ⟨some 52, .build [.int .i64 0, .int .i64 0, .int .i64 0, .str ⟨#[]⟩, .str ⟨#[]⟩, .ro 1 [] true, .ro 2 [] true] [(1, 1, .t 48), (2, 1, .k (.int .i64 14)), (5, 1, .t 51)], none⟩,
    ⟨some 53, .call 10 [.t 47, .t 52], none⟩,
    ⟨some 46, .mv (.t 53), none⟩,
    ⟨some 54, .ext (.t 46) 0, none⟩,
    ⟨some 55, .ext (.t 46) 1, none⟩,
    ⟨some 11, .alloc [.int .i64 0, .int .i64 0, .int .i64 0, .str ⟨#[]⟩, .str ⟨#[]⟩, .ro 1 [] true, .ro 2 [] true], none⟩,
    ⟨none, .st (.t 11) (.t 54) 7, none⟩,
    ⟨some 12, .mv (.t 55), none⟩])
   (.seq (.reg [⟨some 56, .mv (.t 12), none⟩,
    ⟨some 6, .mv (.t 56), none⟩])
   (.ret))))))))
def k32 : FCode := ⟨57, c32, [.tmp 6], none⟩
def c33 : LCode := .seq (.reg [⟨some 3, .box (.t 0), none⟩,
    ⟨some 6, .mv (.k (.int .i64 0)), none⟩])
   (.seq (.reg [⟨some 16, .fa (.t 3) 6, none⟩,
    ⟨some 17, .ld (.t 16) 1 false, none⟩,
    ⟨some 18, .mv (.t 2), none⟩,
    ⟨some 19, .call 57 [.t 17, .t 18], none⟩,
    ⟨some 7, .mv (.t 19), none⟩])
   (.seq (.seq (.reg [⟨some 20, .mv (.t 7), none⟩,
    ⟨some 21, .bin .lss (.t 20) (.k (.int .i64 0)) 0, none⟩])
   (.cond (.t 21) (.seq (.reg [⟨some 6, .mv (.k (.int .i64 4)), none⟩])
   (.ret)) (.skip)))
   (.seq (.reg [⟨some 22, .fa (.t 3) 6, none⟩,
    ⟨some 23, .ld (.t 22) 1 false, none⟩,
    ⟨some 24, .mv (.t 7), none⟩,
    ⟨some 25, .ix 12 (.t 23) (.t 24), none⟩,
    ⟨some 26, .ld (.t 25) 12 true, none⟩,
    ⟨some 8, .alloc [.int .i64 0, .int .i64 0, .int .i64 0, .int .i64 0, .int .i64 0, .int .i64 0, .int .i64 0, .int .i64 0, .int .i64 0, .int .i64 0, .int .i64 0, .ro 2 [] true], none⟩,
    ⟨none, .st (.t 8) (.t 26) 12, none⟩])
   (.seq (.seq (.reg [⟨some 27, .fa (.t 8) 7, none⟩,
    ⟨some 28, .ld (.t 27) 1 false, none⟩,
    ⟨some 29, .bin .neq (.t 28) (.k (.int .i64 1)) 0, none⟩])
   (.cond (.t 29) (.seq (.reg [⟨some 6, .mv (.k (.int .i64 9)), none⟩])
   (.ret)) (.skip)))
   (.seq (.reg [⟨some 31, .fa (.t 8) 2, none⟩,
    ⟨some 32, .ld (.t 31) 1 false, none⟩,
    ⟨some 33, .fa (.t 8) 3, none⟩,
    ⟨some 34, .ld (.t 33) 1 false, none⟩,
    ⟨some 35, .fa (.t 8) 6, none⟩,
    ⟨some 36, .ld (.t 35) 1 false, none⟩,
    ⟨some 37, .call 87 [.t 32, .t 34, .t 36], none⟩,
    ⟨some 30, .mv (.t 37), none⟩,
    ⟨some 38, .ext (.t 30) 0, none⟩,
    ⟨some 39, .ext (.t 30) 1, none⟩,
    ⟨some 9, .mv (.t 38), none⟩,
    ⟨some 10, .mv (.t 39), none⟩])
   (.seq (.seq (.reg [⟨some 40, .mv (.t 10), none⟩,
    ⟨some 41, .bin .neq (.t 40) (.k (.int .i64 0)) 0, none⟩])
   (.cond (.t 41) (.seq (.reg [⟨some 42, .mv (.t 10), none⟩,
    ⟨some 6, .mv (.t 42), none⟩])
   (.ret)) (.skip)))
   (.seq (.reg [⟨some 44, .fa (.t 3) 3, none⟩,
    ⟨some 45, .ld (.t 44) 1 false, none⟩,
    ⟨some 46, .fa (.t 3) 4, none⟩,
    ⟨some 47, .ld (.t 46) 1 false, none⟩,
    ⟨some 48, .fa (.t 8) 1, none⟩,
    ⟨some 49, .ld (.t 48) 1 false, none⟩,
    ⟨some 50, .mv (.t 9), none⟩,
    ⟨some 51, .mv (.t 1), none⟩,
    ⟨some 52, .call 88 [.t 45, .t 47, .t 49, .t 50, .t 51], none⟩,
    ⟨some 43, .mv (.t 52), none⟩,
    ⟨some 53, .ext (.t 43) 0, none⟩,
    ⟨some 54, .ext (.t 43) 1, none⟩,
    ⟨some 11, .mv (.t 53), none⟩,
    ⟨some 10, .mv (.t 54), none⟩])
   (.seq (.seq (.reg [⟨some 55, .mv (.t 10), none⟩,
    ⟨some 56, .bin .neq (.t 55) (.k (.int .i64 0)) 0, none⟩])
   (.cond (.t 56) (.seq (.reg [⟨some 57, .mv (.t 10), none⟩,
    ⟨some 6, .mv (.t 57), none⟩])
   (.ret)) (.skip)))
   (.seq (.reg [⟨some 58, .fa (.t 3) 4, none⟩,
    ⟨some 59, .ld (.t 58) 1 false, none⟩,
    ⟨some 12, .mv (.t 59), none⟩])
   (.seq (.seq (.reg [⟨some 60, .mv (.t 11), none⟩,
    ⟨some 61, .len (.t 60) false, none⟩,
    ⟨some 62, .bin .gtr (.t 61) (.k (.int .i64 0)) 0, none⟩])
   (.cond (.t 62) (.seq (.dreg [] [⟨some 64, .fa (.t 3) 1, none⟩,
    ⟨some 65, .ld (.t 64) 1 false, none⟩,
    ⟨some 66, .fa (.t 3) 4, none⟩,
    ⟨some 67, .ld (.t 66) 1 false, none⟩,
    ⟨some 68, .mv (.t 11), none⟩,
    ⟨some 69, .mv (.t 11), none⟩,
    ⟨some 70, .kcall 90 [.t 68, .t 69, .k (.int .i64 1), .k (.int .i64 2), .k (.int .i64 0)], none⟩,
    ⟨some 71, .call 89 [.t 65, .t 67, .t 70], none⟩,
    ⟨some 63, .mv (.t 71), none⟩,
    ⟨some 72, .ext (.t 63) 0, none⟩,
    ⟨some 73, .ext (.t 63) 1, none⟩,
    ⟨some 74, .ext (.t 63) 2, none⟩,
    ⟨some 13, .mv (.t 72), none⟩,
    ⟨some 14, .mv (.t 73), none⟩,
    ⟨some 15, .mv (.t 74), none⟩])
   (.seq (.seq (.reg [⟨some 75, .mv (.t 15), none⟩,
    ⟨some 76, .bin .neq (.t 75) (.k (.int .i64 0)) 0, none⟩])
   (.cond (.t 76) (.seq (.reg [⟨some 77, .mv (.t 15), none⟩,
    ⟨some 6, .mv (.t 77), none⟩])
   (.ret)) (.skip)))
   (.reg [⟨some 78, .mv (.t 14), none⟩,
    ⟨some 12, .mv (.t 78), none⟩]))) (.skip)))
   (.seq (.seq (.reg [⟨some 79, .fa (.t 3) 3, none⟩,
    ⟨some 80, .ld (.t 79) 1 false, none⟩,
    ⟨some 81, .mv (.t 12), none⟩,
    ⟨some 82, .call 91 [.t 80, .t 81], none⟩,
    ⟨some 83, .bin .geq (.t 82) (.k (.int .i64 0)) 0, none⟩])
   (.cond (.t 83) (.seq (.reg [⟨some 6, .mv (.k (.int .i64 8)), none⟩])
   (.ret)) (.skip)))
   (.seq (.reg [⟨some 6, .mv (.k (.int .i64 0)), none⟩])
   (.ret)))))))))))))
def k33 : FCode := ⟨84, c33, [.tmp 6], none⟩
def c34 : LCode := .seq (.reg [⟨some 4, .alloc [.int .i64 0, .int .i64 0, .int .i64 0, .ro 3 [] true, .ro 6 [] true, .ro 3 [] true, .ro 12 [] true, .ro 1 [] true], none⟩])
   (.seq (.reg [⟨some 11, .call 56 [], none⟩,
    ⟨some 5, .alloc [.int .i64 0, .int .i64 0, .int .i64 0, .ro 3 [] true, .ro 6 [] true, .ro 3 [] true, .ro 12 [] true, .ro 1 [] true], none⟩,
    ⟨none, .st (.t 5) (.t 11) 8, none⟩])
   (.seq (.seq (.reg [⟨some 6, .mv (.k (.int .i64 0)), none⟩])
   (.block 0 (.loop (.seq (.seq (.reg [⟨some 12, .mv (.t 6), none⟩,
    ⟨some 13, .mv (.t 0), none⟩,
    ⟨some 14, .len (.t 13) false, none⟩,
    ⟨some 15, .bin .lss (.t 12) (.t 14) 0, none⟩,
    ⟨some 16, .mv (.t 15), none⟩,
    ⟨some 17, .mv (.t 6), some (16, true)⟩,
    ⟨some 18, .mv (.t 1), some (16, true)⟩,
    ⟨some 19, .bin .lss (.t 17) (.t 18) 0, some (16, true)⟩,
    ⟨some 20, .pick (.t 16) (.t 19) (.k (.bool false)), none⟩])
   (.cond (.t 20) (.skip) (.exit 0)))
   (.seq (.block 1 (.seq (.dreg [] [⟨some 24, .ld (.t 5) 8 true, none⟩,
    ⟨some 25, .mv (.t 0), none⟩,
    ⟨some 26, .mv (.t 6), none⟩,
    ⟨some 27, .ix 7 (.t 25) (.t 26), none⟩,
    ⟨some 28, .ld (.t 27) 7 true, none⟩,
    ⟨some 29, .pcall 10 [.t 24, .t 28], none⟩,
    ⟨some 23, .mv (.t 29), none⟩,
    ⟨some 30, .ext (.t 23) 0, none⟩,
    ⟨some 31, .ext (.t 23) 1, none⟩,
    ⟨some 7, .alloc [.int .i64 0, .int .i64 0, .int .i64 0, .str ⟨#[]⟩, .str ⟨#[]⟩, .ro 1 [] true, .ro 2 [] true], none⟩,
    ⟨none, .st (.t 7) (.t 30) 7, none⟩,
    ⟨some 8, .mv (.t 31), none⟩])
   (.seq (.reg [⟨some 32, .mv (.t 8), none⟩,
    ⟨some 33, .bin .eql (.t 32) (.k (.int .i64 0)) 0, none⟩])
   (.cond (.t 33) (.seq (.reg [⟨some 35, .ld (.t 5) 8 true, none⟩,
    ⟨some 36, .ld (.t 7) 7 true, none⟩,
    ⟨some 37, .call 13 [.t 35, .t 36], none⟩,
    ⟨some 34, .mv (.t 37), none⟩,
    ⟨some 38, .ext (.t 34) 0, none⟩,
    ⟨some 39, .ext (.t 34) 1, none⟩,
    ⟨some 9, .alloc [.int .i64 0, .int .i64 0, .int .i64 0, .ro 3 [] true, .ro 6 [] true, .ro 3 [] true, .ro 12 [] true, .ro 1 [] true], none⟩,
    ⟨none, .st (.t 9) (.t 38) 8, none⟩,
    ⟨some 10, .mv (.t 39), none⟩])
   (.seq (.reg [⟨some 40, .mv (.t 10), none⟩,
    ⟨some 41, .bin .eql (.t 40) (.k (.int .i64 0)) 0, none⟩])
   (.cond (.t 41) (.reg [⟨some 42, .ld (.t 9) 8 true, none⟩,
    ⟨none, .st (.t 5) (.t 42) 8, none⟩]) (.skip)))) (.skip)))))
   (.reg [⟨some 21, .mv (.t 6), none⟩,
    ⟨some 22, .bin .add (.t 21) (.k (.int .i64 1)) 0, none⟩,
    ⟨some 6, .mv (.t 22), none⟩]))))))
   (.seq (.reg [⟨some 43, .ld (.t 5) 8 true, none⟩,
    ⟨none, .st (.t 4) (.t 43) 8, none⟩])
   (.ret))))
def k34 : FCode := ⟨44, c34, [.cell 4 8 true], none⟩
def c35 : LCode := .seq (.reg [⟨some 4, .mv (.k (.bool false)), none⟩])
   (.seq (.seq (.reg [⟨some 6, .mv (.t 0), none⟩,
    ⟨some 7, .len (.t 6) false, none⟩,
    ⟨some 8, .mv (.t 1), none⟩,
    ⟨some 9, .len (.t 8) false, none⟩,
    ⟨some 10, .bin .neq (.t 7) (.t 9) 0, none⟩])
   (.cond (.t 10) (.seq (.reg [⟨some 4, .mv (.k (.bool false)), none⟩])
   (.ret)) (.skip)))
   (.seq (.seq (.reg [⟨some 5, .mv (.k (.int .i64 0)), none⟩])
   (.block 0 (.loop (.seq (.seq (.reg [⟨some 11, .mv (.t 5), none⟩,
    ⟨some 12, .mv (.t 0), none⟩,
    ⟨some 13, .len (.t 12) false, none⟩,
    ⟨some 14, .bin .lss (.t 11) (.t 13) 0, none⟩])
   (.cond (.t 14) (.skip) (.exit 0)))
   (.seq (.block 1 (.seq (.dreg [] [⟨some 17, .mv (.t 0), none⟩,
    ⟨some 18, .mv (.t 5), none⟩,
    ⟨some 19, .ix 6 (.t 17) (.t 18), none⟩,
    ⟨some 20, .ld (.t 19) 6 true, none⟩,
    ⟨some 21, .mv (.t 1), none⟩,
    ⟨some 22, .mv (.t 5), none⟩,
    ⟨some 23, .ix 6 (.t 21) (.t 22), none⟩,
    ⟨some 24, .ld (.t 23) 6 true, none⟩,
    ⟨some 25, .bin .neq (.t 20) (.t 24) 6, none⟩])
   (.cond (.t 25) (.seq (.reg [⟨some 4, .mv (.k (.bool false)), none⟩])
   (.ret)) (.skip))))
   (.reg [⟨some 15, .mv (.t 5), none⟩,
    ⟨some 16, .bin .add (.t 15) (.k (.int .i64 1)) 0, none⟩,
    ⟨some 5, .mv (.t 16), none⟩]))))))
   (.seq (.reg [⟨some 4, .mv (.k (.bool true)), none⟩])
   (.ret))))
def k35 : FCode := ⟨26, c35, [.tmp 4], none⟩
def c36 : LCode := .seq (.reg [⟨some 2, .box (.t 0), none⟩,
    ⟨some 3, .box (.t 1), none⟩,
    ⟨some 4, .alloc [.int .i64 0, .int .i64 0, .int .i64 0, .ro 3 [] true, .ro 6 [] true, .ro 3 [] true, .ro 12 [] true, .ro 1 [] true], none⟩,
    ⟨some 5, .alloc [.int .i64 0, .int .i64 0, .int .i64 0, .str ⟨#[]⟩, .str ⟨#[]⟩, .ro 1 [] true, .ro 2 [] true], none⟩,
    ⟨some 6, .mv (.k (.int .i64 0)), none⟩])
   (.scope (.seq (.dreg [] [⟨some 9, .ld (.t 2) 8 true, none⟩,
    ⟨some 10, .kcall 92 [.t 9], none⟩,
    ⟨some 11, .fa (.t 2) 0, none⟩,
    ⟨some 12, .ld (.t 11) 1 false, none⟩,
    ⟨some 13, .bin .add (.t 12) (.k (.int .i64 1)) 0, none⟩,
    ⟨some 14, .fa (.t 3) 1, none⟩,
    ⟨some 15, .ld (.t 14) 1 false, none⟩,
    ⟨some 16, .fa (.t 3) 2, none⟩,
    ⟨some 17, .ld (.t 16) 1 false, none⟩,
    ⟨some 18, .fa (.t 3) 3, none⟩,
    ⟨some 19, .ld (.t 18) 1 false, none⟩,
    ⟨some 20, .fa (.t 3) 4, none⟩,
    ⟨some 21, .ld (.t 20) 1 false, none⟩,
    ⟨some 22, .fa (.t 3) 5, none⟩,
    ⟨some 23, .ld (.t 22) 1 false, none⟩,
    ⟨some 24, .kcall 60 [.t 23], none⟩,
    ⟨some 25, .kcall 59 [.t 24], none⟩,
    ⟨some 26, .build [.int .i64 0, .int .i64 0, .int .i64 0, .str ⟨#[]⟩, .str ⟨#[]⟩, .ro 1 [] true, .ro 2 [] true] [(0, 1, .t 13), (1, 1, .t 15), (2, 1, .t 17), (3, 1, .t 19), (4, 1, .t 21), (5, 1, .t 25)], none⟩,
    ⟨some 27, .build [.int .i64 0, .int .i64 0, .int .i64 0, .ro 3 [] true, .ro 6 [] true, .ro 3 [] true, .ro 12 [] true, .ro 1 [] true, .int .i64 0, .int .i64 0, .int .i64 0, .str ⟨#[]⟩, .str ⟨#[]⟩, .ro 1 [] true, .ro 2 [] true, .ro 2 [] true] [(0, 8, .t 10), (8, 7, .t 26)], none⟩,
    ⟨some 28, .box (.t 27), none⟩,
    ⟨some 7, .mv (.t 28), none⟩])
   (.seq (.reg [⟨some 8, .mv (.k (.int .i64 0)), none⟩])
   (.seq (.block 0 (.seq (.reg [⟨some 30, .ld (.t 3) 7 true, none⟩,
    ⟨some 31, .call 93 [.t 30], none⟩,
    ⟨some 32, .un .not (.t 31), none⟩,
    ⟨some 29, .mv (.t 32), none⟩])
   (.cond (.t 29) (.seq (.reg [⟨some 8, .mv (.k (.int .i64 1)), none⟩])
   (.goto 0)) (.seq (.reg [⟨some 34, .fa (.t 3) 3, none⟩,
    ⟨some 35, .ld (.t 34) 1 false, none⟩,
    ⟨some 36, .bin .neq (.t 35) (.k (.str ⟨#[]⟩)) 0, none⟩,
    ⟨some 37, .mv (.t 36), none⟩,
    ⟨some 38, .fa (.t 2) 7, some (37, true)⟩,
    ⟨some 39, .ld (.t 38) 1 false, some (37, true)⟩,
    ⟨some 40, .fa (.t 3) 3, some (37, true)⟩,
    ⟨some 41, .ld (.t 40) 1 false, some (37, true)⟩,
    ⟨some 42, .call 94 [.t 39, .t 41], some (37, true)⟩,
    ⟨some 43, .pick (.t 37) (.t 42) (.k (.bool false)), none⟩,
    ⟨some 33, .mv (.t 43), none⟩])
   (.cond (.t 33) (.seq (.reg [⟨some 8, .mv (.k (.int .i64 6)), none⟩])
   (.goto 0)) (.skip))))))
   (.seq (.seq (.reg [⟨some 44, .mv (.t 7), none⟩,
    ⟨some 45, .call 95 [.t 44], none⟩,
    ⟨some 8, .mv (.t 45), none⟩])
   (.seq (.reg [⟨some 46, .mv (.t 8), none⟩,
    ⟨some 47, .bin .neq (.t 46) (.k (.int .i64 0)) 0, none⟩])
   (.cond (.t 47) (.goto 0) (.skip))))
   (.seq (.seq (.reg [⟨some 48, .mv (.t 7), none⟩,
    ⟨some 49, .call 96 [.t 48], none⟩,
    ⟨some 8, .mv (.t 49), none⟩])
   (.seq (.reg [⟨some 50, .mv (.t 8), none⟩,
    ⟨some 51, .bin .neq (.t 50) (.k (.int .i64 0)) 0, none⟩])
   (.cond (.t 51) (.goto 0) (.skip))))
   (.seq (.seq (.dreg [] [⟨some 52, .mv (.t 7), none⟩,
    ⟨some 53, .nck (.t 52), none⟩,
    ⟨some 54, .fa (.t 53) 0, none⟩,
    ⟨some 55, .fa (.t 54) 3, none⟩,
    ⟨some 56, .ld (.t 55) 1 false, none⟩,
    ⟨some 57, .mv (.t 7), none⟩,
    ⟨some 58, .nck (.t 57), none⟩,
    ⟨some 59, .fa (.t 58) 0, none⟩,
    ⟨some 60, .fa (.t 59) 4, none⟩,
    ⟨some 61, .ld (.t 60) 1 false, none⟩,
    ⟨some 62, .call 55 [.t 56, .t 61], none⟩,
    ⟨some 63, .bin .geq (.t 62) (.k (.int .i64 0)) 0, none⟩])
   (.cond (.t 63) (.seq (.reg [⟨some 8, .mv (.k (.int .i64 8)), none⟩])
   (.goto 0)) (.skip)))
   (.seq (.seq (.reg [⟨some 64, .fa (.t 3) 3, none⟩,
    ⟨some 65, .ld (.t 64) 1 false, none⟩,
    ⟨some 66, .bin .neq (.t 65) (.k (.str ⟨#[]⟩)) 0, none⟩])
   (.cond (.t 66) (.seq (.dreg [] [⟨some 67, .mv (.t 7), none⟩,
    ⟨some 68, .mv (.t 7), none⟩,
    ⟨some 69, .nck (.t 68), none⟩,
    ⟨some 70, .fa (.t 69) 0, none⟩,
    ⟨some 71, .fa (.t 70) 7, none⟩,
    ⟨some 72, .ld (.t 71) 1 false, none⟩,
    ⟨some 73, .fa (.t 3) 3, none⟩,
    ⟨some 74, .ld (.t 73) 1 false, none⟩,
    ⟨some 75, .mks 1 [.t 74], none⟩,
    ⟨some 76, .app 1 16 (.t 72) (.t 75), none⟩,
    ⟨some 77, .nck (.t 67), none⟩,
    ⟨some 78, .fa (.t 77) 0, none⟩,
    ⟨some 79, .fa (.t 78) 7, none⟩,
    ⟨none, .st (.t 79) (.t 76) 1, none⟩])
   (.dreg [] [⟨some 80, .mv (.t 7), none⟩,
    ⟨some 81, .mv (.t 7), none⟩,
    ⟨some 82, .nck (.t 81), none⟩,
    ⟨some 83, .fa (.t 82) 0, none⟩,
    ⟨some 84, .fa (.t 83) 7, none⟩,
    ⟨some 85, .ld (.t 84) 1 false, none⟩,
    ⟨some 86, .mv (.t 7), none⟩,
    ⟨some 87, .nck (.t 86), none⟩,
    ⟨some 88, .fa (.t 87) 0, none⟩,
    ⟨some 89, .fa (.t 88) 7, none⟩,
    ⟨some 90, .ld (.t 89) 1 false, none⟩,
    ⟨some 91, .len (.t 90) false, none⟩,
    ⟨some 92, .bin .sub (.t 91) (.k (.int .i64 8)) 0, none⟩,
    ⟨some 93, .mm true (.k (.int .i64 0)) [.t 92], none⟩,
    ⟨some 94, .slc 1 (.t 85) (some (.t 93)) (none) (none), none⟩,
    ⟨some 95, .call 97 [.t 94], none⟩,
    ⟨some 96, .nck (.t 80), none⟩,
    ⟨some 97, .fa (.t 96) 0, none⟩,
    ⟨some 98, .fa (.t 97) 7, none⟩,
    ⟨none, .st (.t 98) (.t 95) 1, none⟩])) (.skip)))
   (.seq (.reg [⟨some 99, .mv (.t 7), none⟩,
    ⟨some 100, .nck (.t 99), none⟩,
    ⟨some 101, .fa (.t 100) 0, none⟩,
    ⟨some 102, .fa (.t 101) 0, none⟩,
    ⟨some 103, .ld (.t 102) 1 false, none⟩,
    ⟨some 104, .bin .add (.t 103) (.k (.int .i64 1)) 0, none⟩,
    ⟨some 105, .nck (.t 99), none⟩,
    ⟨some 106, .fa (.t 105) 0, none⟩,
    ⟨some 107, .fa (.t 106) 0, none⟩,
    ⟨none, .st (.t 107) (.t 104) 1, none⟩])
   (.seq (.reg [⟨some 108, .mv (.t 7), none⟩,
    ⟨some 109, .mv (.t 7), none⟩,
    ⟨some 110, .nck (.t 109), none⟩,
    ⟨some 111, .fa (.t 110) 15, none⟩,
    ⟨some 112, .ld (.t 111) 1 false, none⟩,
    ⟨some 113, .call 98 [.t 112], none⟩,
    ⟨some 114, .nck (.t 108), none⟩,
    ⟨some 115, .fa (.t 114) 8, none⟩,
    ⟨some 116, .fa (.t 115) 6, none⟩,
    ⟨none, .st (.t 116) (.t 113) 1, none⟩])
   (.seq (.seq (.dreg [(9, 8)] [⟨some 117, .mv (.t 7), none⟩,
    ⟨some 118, .nck (.t 117), none⟩,
    ⟨some 119, .fa (.t 118) 0, none⟩,
    ⟨some 120, .ld (.t 119) 8 true, none⟩,
    ⟨some 121, .kcall 92 [.t 120], none⟩,
    ⟨some 122, .mv (.t 7), none⟩,
    ⟨some 123, .nck (.t 122), none⟩,
    ⟨some 124, .fa (.t 123) 8, none⟩,
    ⟨some 125, .ld (.t 124) 7 true, none⟩,
    ⟨none, .st (.t 4) (.t 121) 8, none⟩,
    ⟨none, .st (.t 5) (.t 125) 7, none⟩,
    ⟨some 6, .mv (.k (.int .i64 0)), none⟩])
   (.ret))
   (.seq (.label 0)
   (.seq (.reg [⟨some 126, .build [.int .i64 0, .int .i64 0, .int .i64 0, .ro 3 [] true, .ro 6 [] true, .ro 3 [] true, .ro 12 [] true, .ro 1 [] true] [], none⟩,
    ⟨some 127, .build [.int .i64 0, .int .i64 0, .int .i64 0, .str ⟨#[]⟩, .str ⟨#[]⟩, .ro 1 [] true, .ro 2 [] true] [], none⟩,
    ⟨some 128, .mv (.t 8), none⟩,
    ⟨none, .st (.t 4) (.t 126) 8, none⟩,
    ⟨none, .st (.t 5) (.t 127) 7, none⟩,
    ⟨some 6, .mv (.t 128), none⟩])
   (.ret))))))))))))))
def k36 : FCode := ⟨129, c36, [.cell 4 8 true, .cell 5 7 true, .tmp 6], none⟩
def c37 : LCode := .seq (.reg [⟨some 4, .mv (.k (.bool false)), none⟩])
   (.seq (.seq (.reg [⟨some 6, .mv (.t 0), none⟩,
    ⟨some 7, .len (.t 6) false, none⟩,
    ⟨some 8, .mv (.t 1), none⟩,
    ⟨some 9, .len (.t 8) false, none⟩,
    ⟨some 10, .bin .neq (.t 7) (.t 9) 0, none⟩])
   (.cond (.t 10) (.seq (.reg [⟨some 4, .mv (.k (.bool false)), none⟩])
   (.ret)) (.skip)))
   (.seq (.seq (.reg [⟨some 11, .mv (.t 0), none⟩,
    ⟨some 12, .len (.t 11) false, none⟩,
    ⟨some 13, .mv (.k (.int .i64 0)), none⟩])
   (.block 0 (.loop (.seq (.reg [⟨some 14, .bin .lss (.t 13) (.t 12) 0, none⟩])
   (.seq (.cond (.t 14) (.skip) (.exit 0))
   (.seq (.block 1 (.seq (.reg [⟨some 15, .mv (.t 13), none⟩,
    ⟨some 5, .mv (.t 15), none⟩])
   (.seq (.dreg [] [⟨some 16, .mv (.t 0), none⟩,
    ⟨some 17, .mv (.t 5), none⟩,
    ⟨some 18, .ix 2 (.t 16) (.t 17), none⟩,
    ⟨some 19, .ld (.t 18) 2 true, none⟩,
    ⟨some 20, .mv (.t 1), none⟩,
    ⟨some 21, .mv (.t 5), none⟩,
    ⟨some 22, .ix 2 (.t 20) (.t 21), none⟩,
    ⟨some 23, .ld (.t 22) 2 true, none⟩,
    ⟨some 24, .bin .neq (.t 19) (.t 23) 2, none⟩])
   (.cond (.t 24) (.seq (.reg [⟨some 4, .mv (.k (.bool false)), none⟩])
   (.ret)) (.skip)))))
   (.reg [⟨some 25, .bin .add (.t 13) (.k (.int .i64 1)) 0, none⟩,
    ⟨some 13, .mv (.t 25), none⟩])))))))
   (.seq (.reg [⟨some 4, .mv (.k (.bool true)), none⟩])
   (.ret))))
def k37 : FCode := ⟨26, c37, [.tmp 4], none⟩
def c38 : LCode := .seq (.reg [⟨some 1, .mv (.k (.bool false)), none⟩])
   (.seq (.reg [⟨some 2, .ld (.t 0) 8 true, none⟩,
    ⟨some 3, .call 39 [.t 2], none⟩,
    ⟨some 1, .mv (.t 3), none⟩])
   (.ret))
def k38 : FCode := ⟨4, c38, [.tmp 1], none⟩
def c39 : LCode := .seq (.reg [⟨some 1, .box (.t 0), none⟩,
    ⟨some 2, .mv (.k (.bool false)), none⟩])
   (.seq (.reg [⟨some 6, .fa (.t 1) 1, none⟩,
    ⟨some 7, .ld (.t 6) 1 false, none⟩,
    ⟨some 8, .fa (.t 1) 4, none⟩,
    ⟨some 9, .ld (.t 8) 1 false, none⟩,
    ⟨some 10, .call 99 [.t 7, .t 9], none⟩,
    ⟨some 5, .mv (.t 10), none⟩,
    ⟨some 11, .ext (.t 5) 0, none⟩,
    ⟨some 12, .ext (.t 5) 1, none⟩,
    ⟨some 3, .mv (.t 11), none⟩,
    ⟨some 4, .mv (.t 12), none⟩])
   (.seq (.reg [⟨some 13, .mv (.t 4), none⟩,
    ⟨some 14, .bin .eql (.t 13) (.k (.int .i64 0)) 0, none⟩,
    ⟨some 15, .mv (.t 14), none⟩,
    ⟨some 16, .mv (.t 3), some (15, true)⟩,
    ⟨some 17, .bin .eql (.t 16) (.k (.int .i64 0)) 0, some (15, true)⟩,
    ⟨some 18, .pick (.t 15) (.t 17) (.k (.bool false)), none⟩,
    ⟨some 2, .mv (.t 18), none⟩])
   (.ret)))
def k39 : FCode := ⟨19, c39, [.tmp 2], none⟩
def c40 : LCode := .seq (.reg [⟨some 1, .mv (.k (.bool false)), none⟩])
   (.seq (.reg [⟨some 2, .ld (.t 0) 8 true, none⟩,
    ⟨some 3, .call 41 [.t 2], none⟩,
    ⟨some 1, .mv (.t 3), none⟩])
   (.ret))
def k40 : FCode := ⟨4, c40, [.tmp 1], none⟩
def c41 : LCode := .seq (.reg [⟨some 1, .box (.t 0), none⟩,
    ⟨some 2, .mv (.k (.bool false)), none⟩])
   (.seq (.seq (.reg [⟨some 5, .fa (.t 1) 4, none⟩,
    ⟨some 6, .ld (.t 5) 1 false, none⟩,
    ⟨some 7, .len (.t 6) false, none⟩,
    ⟨some 8, .mv (.k (.int .i64 0)), none⟩])
   (.block 0 (.loop (.seq (.reg [⟨some 9, .bin .lss (.t 8) (.t 7) 0, none⟩])
   (.seq (.cond (.t 9) (.skip) (.exit 0))
   (.seq (.block 1 (.seq (.reg [⟨some 10, .ix 6 (.t 6) (.t 8), none⟩,
    ⟨some 11, .ld (.t 10) 6 true, none⟩,
    ⟨some 4, .alloc [.int .i64 0, .int .i64 0, .int .i64 0, .int .i64 0, .int .i64 0, .int .i64 0], none⟩,
    ⟨none, .st (.t 4) (.t 11) 6, none⟩])
   (.seq (.reg [⟨some 12, .fa (.t 4) 3, none⟩,
    ⟨some 13, .ld (.t 12) 1 false, none⟩,
    ⟨some 14, .fa (.t 4) 4, none⟩,
    ⟨some 15, .ld (.t 14) 1 false, none⟩,
    ⟨some 16, .fa (.t 4) 5, none⟩,
    ⟨some 17, .ld (.t 16) 1 false, none⟩,
    ⟨some 18, .mm false (.t 13) [.t 15, .t 17], none⟩,
    ⟨some 19, .bin .lss (.t 18) (.k (.int .i64 0)) 0, none⟩])
   (.cond (.t 19) (.seq (.reg [⟨some 2, .mv (.k (.bool false)), none⟩])
   (.ret)) (.skip)))))
   (.reg [⟨some 20, .bin .add (.t 8) (.k (.int .i64 1)) 0, none⟩,
    ⟨some 8, .mv (.t 20), none⟩])))))))
   (.seq (.reg [⟨some 21, .fa (.t 1) 1, none⟩,
    ⟨some 22, .ld (.t 21) 1 false, none⟩,
    ⟨some 23, .bin .leq (.t 22) (.k (.int .i64 0)) 0, none⟩,
    ⟨some 2, .mv (.t 23), none⟩])
   (.ret)))
def k41 : FCode := ⟨24, c41, [.tmp 2], none⟩
def c42 : LCode := .seq (.reg [⟨some 1, .mv (.k (.bool false)), none⟩])
   (.seq (.reg [⟨some 2, .ld (.t 0) 8 true, none⟩,
    ⟨some 3, .call 43 [.t 2], none⟩,
    ⟨some 1, .mv (.t 3), none⟩])
   (.ret))
def k42 : FCode := ⟨4, c42, [.tmp 1], none⟩
def c43 : LCode := .seq (.reg [⟨some 1, .box (.t 0), none⟩,
    ⟨some 2, .mv (.k (.bool false)), none⟩])
   (.seq (.seq (.reg [⟨some 5, .fa (.t 1) 3, none⟩,
    ⟨some 6, .ld (.t 5) 1 false, none⟩,
    ⟨some 7, .call 100 [.t 6], none⟩,
    ⟨some 8, .un .not (.t 7), none⟩,
    ⟨some 9, .mv (.t 8), none⟩,
    ⟨some 10, .fa (.t 1) 5, some (9, false)⟩,
    ⟨some 11, .ld (.t 10) 1 false, some (9, false)⟩,
    ⟨some 12, .call 101 [.t 11], some (9, false)⟩,
    ⟨some 13, .un .not (.t 12), some (9, false)⟩,
    ⟨some 14, .pick (.t 9) (.k (.bool true)) (.t 13), none⟩,
    ⟨some 15, .mv (.t 14), none⟩,
    ⟨some 16, .fa (.t 1) 4, some (15, false)⟩,
    ⟨some 17, .ld (.t 16) 1 false, some (15, false)⟩,
    ⟨some 18, .len (.t 17) false, some (15, false)⟩,
    ⟨some 19, .bin .gtr (.t 18) (.k (.int .i64 16)) 0, some (15, false)⟩,
    ⟨some 20, .pick (.t 15) (.k (.bool true)) (.t 19), none⟩])
   (.cond (.t 20) (.seq (.reg [⟨some 2, .mv (.k (.bool false)), none⟩])
   (.ret)) (.skip)))
   (.seq (.seq (.reg [⟨some 21, .fa (.t 1) 4, none⟩,
    ⟨some 22, .ld (.t 21) 1 false, none⟩,
    ⟨some 23, .len (.t 22) false, none⟩,
    ⟨some 24, .mv (.k (.int .i64 0)), none⟩])
   (.block 0 (.loop (.seq (.reg [⟨some 25, .bin .lss (.t 24) (.t 23) 0, none⟩])
   (.seq (.cond (.t 25) (.skip) (.exit 0))
   (.seq (.block 1 (.seq (.reg [⟨some 26, .ix 6 (.t 22) (.t 24), none⟩,
    ⟨some 27, .ld (.t 26) 6 true, none⟩,
    ⟨some 4, .alloc [.int .i64 0, .int .i64 0, .int .i64 0, .int .i64 0, .int .i64 0, .int .i64 0], none⟩,
    ⟨none, .st (.t 4) (.t 27) 6, none⟩])
   (.seq (.reg [⟨some 28, .fa (.t 4) 0, none⟩,
    ⟨some 29, .ld (.t 28) 1 false, none⟩,
    ⟨some 30, .bin .lss (.t 29) (.k (.int .i64 0)) 0, none⟩,
    ⟨some 31, .mv (.t 30), none⟩,
    ⟨some 32, .fa (.t 4) 0, some (31, false)⟩,
    ⟨some 33, .ld (.t 32) 1 false, some (31, false)⟩,
    ⟨some 34, .fa (.t 1) 3, some (31, false)⟩,
    ⟨some 35, .ld (.t 34) 1 false, some (31, false)⟩,
    ⟨some 36, .len (.t 35) false, some (31, false)⟩,
    ⟨some 37, .bin .geq (.t 33) (.t 36) 0, some (31, false)⟩,
    ⟨some 38, .pick (.t 31) (.k (.bool true)) (.t 37), none⟩,
    ⟨some 39, .mv (.t 38), none⟩,
    ⟨some 40, .fa (.t 4) 1, some (39, false)⟩,
    ⟨some 41, .ld (.t 40) 1 false, some (39, false)⟩,
    ⟨some 42, .bin .lss (.t 41) (.k (.int .i64 0)) 0, some (39, false)⟩,
    ⟨some 43, .pick (.t 39) (.k (.bool true)) (.t 42), none⟩,
    ⟨some 44, .mv (.t 43), none⟩,
    ⟨some 45, .fa (.t 4) 2, some (44, false)⟩,
    ⟨some 46, .ld (.t 45) 1 false, some (44, false)⟩,
    ⟨some 47, .fa (.t 4) 1, some (44, false)⟩,
    ⟨some 48, .ld (.t 47) 1 false, some (44, false)⟩,
    ⟨some 49, .bin .leq (.t 46) (.t 48) 0, some (44, false)⟩,
    ⟨some 50, .pick (.t 44) (.k (.bool true)) (.t 49), none⟩,
    ⟨some 51, .mv (.t 50), none⟩,
    ⟨some 52, .fa (.t 4) 2, some (51, false)⟩,
    ⟨some 53, .ld (.t 52) 1 false, some (51, false)⟩,
    ⟨some 54, .bin .gtr (.t 53) (.k (.int .i64 1099511627776)) 0, some (51, false)⟩,
    ⟨some 55, .pick (.t 51) (.k (.bool true)) (.t 54), none⟩])
   (.cond (.t 55) (.seq (.reg [⟨some 2, .mv (.k (.bool false)), none⟩])
   (.ret)) (.skip)))))
   (.reg [⟨some 56, .bin .add (.t 24) (.k (.int .i64 1)) 0, none⟩,
    ⟨some 24, .mv (.t 56), none⟩])))))))
   (.seq (.reg [⟨some 2, .mv (.k (.bool true)), none⟩])
   (.ret))))
def k43 : FCode := ⟨57, c43, [.tmp 2], none⟩
def c44 : LCode := .seq (.reg [⟨some 1, .mv (.k (.bool false)), none⟩])
   (.seq (.reg [⟨some 2, .ld (.t 0) 8 true, none⟩,
    ⟨some 3, .call 45 [.t 2], none⟩,
    ⟨some 1, .mv (.t 3), none⟩])
   (.ret))
def k44 : FCode := ⟨4, c44, [.tmp 1], none⟩
def c45 : LCode := .seq (.reg [⟨some 1, .box (.t 0), none⟩,
    ⟨some 2, .mv (.k (.bool false)), none⟩])
   (.seq (.seq (.reg [⟨some 7, .fa (.t 1) 6, none⟩,
    ⟨some 8, .ld (.t 7) 1 false, none⟩,
    ⟨some 9, .len (.t 8) false, none⟩,
    ⟨some 10, .bin .gtr (.t 9) (.k (.int .i64 16)) 0, none⟩])
   (.cond (.t 10) (.seq (.reg [⟨some 2, .mv (.k (.bool false)), none⟩])
   (.ret)) (.skip)))
   (.seq (.seq (.reg [⟨some 11, .fa (.t 1) 6, none⟩,
    ⟨some 12, .ld (.t 11) 1 false, none⟩,
    ⟨some 13, .len (.t 12) false, none⟩,
    ⟨some 14, .mv (.k (.int .i64 0)), none⟩])
   (.block 0 (.loop (.seq (.reg [⟨some 15, .bin .lss (.t 14) (.t 13) 0, none⟩])
   (.seq (.cond (.t 15) (.skip) (.exit 0))
   (.seq (.block 1 (.seq (.reg [⟨some 16, .mv (.t 14), none⟩,
    ⟨some 17, .ix 12 (.t 12) (.t 14), none⟩,
    ⟨some 18, .ld (.t 17) 12 true, none⟩,
    ⟨some 4, .alloc [.int .i64 0, .int .i64 0, .int .i64 0, .int .i64 0, .int .i64 0, .int .i64 0, .int .i64 0, .int .i64 0, .int .i64 0, .int .i64 0, .int .i64 0, .ro 2 [] true], none⟩,
    ⟨some 3, .mv (.t 16), none⟩,
    ⟨none, .st (.t 4) (.t 18) 12, none⟩])
   (.seq (.seq (.reg [⟨some 19, .ld (.t 4) 12 true, none⟩,
    ⟨some 20, .call 102 [.t 19], none⟩,
    ⟨some 21, .un .not (.t 20), none⟩,
    ⟨some 22, .mv (.t 21), none⟩,
    ⟨some 23, .fa (.t 4) 1, some (22, false)⟩,
    ⟨some 24, .ld (.t 23) 1 false, some (22, false)⟩,
    ⟨some 25, .fa (.t 1) 3, some (22, false)⟩,
    ⟨some 26, .ld (.t 25) 1 false, some (22, false)⟩,
    ⟨some 27, .len (.t 26) false, some (22, false)⟩,
    ⟨some 28, .bin .geq (.t 24) (.t 27) 0, some (22, false)⟩,
    ⟨some 29, .pick (.t 22) (.k (.bool true)) (.t 28), none⟩,
    ⟨some 30, .mv (.t 29), none⟩,
    ⟨some 31, .fa (.t 4) 0, some (30, false)⟩,
    ⟨some 32, .ld (.t 31) 1 false, some (30, false)⟩,
    ⟨some 33, .fa (.t 1) 2, some (30, false)⟩,
    ⟨some 34, .ld (.t 33) 1 false, some (30, false)⟩,
    ⟨some 35, .bin .geq (.t 32) (.t 34) 0, some (30, false)⟩,
    ⟨some 36, .pick (.t 30) (.k (.bool true)) (.t 35), none⟩,
    ⟨some 37, .mv (.t 36), none⟩,
    ⟨some 38, .fa (.t 1) 6, some (37, false)⟩,
    ⟨some 39, .ld (.t 38) 1 false, some (37, false)⟩,
    ⟨some 40, .fa (.t 4) 0, some (37, false)⟩,
    ⟨some 41, .ld (.t 40) 1 false, some (37, false)⟩,
    ⟨some 42, .call 67 [.t 39, .t 41], some (37, false)⟩,
    ⟨some 43, .mv (.t 3), some (37, false)⟩,
    ⟨some 44, .bin .neq (.t 42) (.t 43) 0, some (37, false)⟩,
    ⟨some 45, .pick (.t 37) (.k (.bool true)) (.t 44), none⟩])
   (.cond (.t 45) (.seq (.reg [⟨some 2, .mv (.k (.bool false)), none⟩])
   (.ret)) (.skip)))
   (.seq (.reg [⟨some 46, .fa (.t 4) 11, none⟩,
    ⟨some 47, .ld (.t 46) 1 false, none⟩,
    ⟨some 48, .len (.t 47) false, none⟩,
    ⟨some 49, .mv (.k (.int .i64 0)), none⟩])
   (.block 2 (.loop (.seq (.reg [⟨some 50, .bin .lss (.t 49) (.t 48) 0, none⟩])
   (.seq (.cond (.t 50) (.skip) (.exit 2))
   (.seq (.block 3 (.seq (.reg [⟨some 51, .ix 2 (.t 47) (.t 49), none⟩,
    ⟨some 52, .ld (.t 51) 2 true, none⟩,
    ⟨some 6, .alloc [.int .i64 0, .int .i64 0], none⟩,
    ⟨none, .st (.t 6) (.t 52) 2, none⟩])
   (.seq (.reg [⟨some 53, .fa (.t 6) 0, none⟩,
    ⟨some 54, .ld (.t 53) 1 false, none⟩,
    ⟨some 55, .fa (.t 1) 4, none⟩,
    ⟨some 56, .ld (.t 55) 1 false, none⟩,
    ⟨some 57, .len (.t 56) false, none⟩,
    ⟨some 58, .bin .geq (.t 54) (.t 57) 0, none⟩])
   (.cond (.t 58) (.seq (.reg [⟨some 2, .mv (.k (.bool false)), none⟩])
   (.ret)) (.skip)))))
   (.reg [⟨some 59, .bin .add (.t 49) (.k (.int .i64 1)) 0, none⟩,
    ⟨some 49, .mv (.t 59), none⟩]))))))))))
   (.reg [⟨some 60, .bin .add (.t 14) (.k (.int .i64 1)) 0, none⟩,
    ⟨some 14, .mv (.t 60), none⟩])))))))
   (.seq (.reg [⟨some 2, .mv (.k (.bool true)), none⟩])
   (.ret))))
def k45 : FCode := ⟨61, c45, [.tmp 2], none⟩
def c46 : LCode := .seq (.reg [⟨some 1, .mv (.k (.bool false)), none⟩])
   (.seq (.reg [⟨some 2, .ld (.t 0) 8 true, none⟩,
    ⟨some 3, .call 47 [.t 2], none⟩,
    ⟨some 1, .mv (.t 3), none⟩])
   (.ret))
def k46 : FCode := ⟨4, c46, [.tmp 1], none⟩
def c47 : LCode := .seq (.reg [⟨some 1, .box (.t 0), none⟩,
    ⟨some 2, .mv (.k (.bool false)), none⟩])
   (.seq (.seq (.reg [⟨some 7, .fa (.t 1) 4, none⟩,
    ⟨some 8, .ld (.t 7) 1 false, none⟩,
    ⟨some 9, .len (.t 8) false, none⟩,
    ⟨some 10, .mv (.k (.int .i64 0)), none⟩])
   (.block 0 (.loop (.seq (.reg [⟨some 11, .bin .lss (.t 10) (.t 9) 0, none⟩])
   (.seq (.cond (.t 11) (.skip) (.exit 0))
   (.seq (.block 1 (.seq (.reg [⟨some 12, .mv (.t 10), none⟩,
    ⟨some 13, .ix 6 (.t 8) (.t 10), none⟩,
    ⟨some 14, .ld (.t 13) 6 true, none⟩,
    ⟨some 4, .alloc [.int .i64 0, .int .i64 0, .int .i64 0, .int .i64 0, .int .i64 0, .int .i64 0], none⟩,
    ⟨some 3, .mv (.t 12), none⟩,
    ⟨none, .st (.t 4) (.t 14) 6, none⟩])
   (.seq (.reg [⟨some 16, .ld (.t 1) 8 true, none⟩,
    ⟨some 17, .mv (.t 3), none⟩,
    ⟨some 18, .call 103 [.t 16, .k (.int .i64 3), .t 17], none⟩,
    ⟨some 15, .mv (.t 18), none⟩,
    ⟨some 19, .ext (.t 15) 0, none⟩,
    ⟨some 20, .ext (.t 15) 1, none⟩,
    ⟨some 5, .mv (.t 19), none⟩,
    ⟨some 6, .mv (.t 20), none⟩])
   (.seq (.reg [⟨some 21, .mv (.t 6), none⟩,
    ⟨some 22, .bin .neq (.t 21) (.k (.int .i64 0)) 0, none⟩,
    ⟨some 23, .mv (.t 22), none⟩,
    ⟨some 24, .mv (.t 5), some (23, false)⟩,
    ⟨some 25, .fa (.t 4) 4, some (23, false)⟩,
    ⟨some 26, .ld (.t 25) 1 false, some (23, false)⟩,
    ⟨some 27, .bin .neq (.t 24) (.t 26) 0, some (23, false)⟩,
    ⟨some 28, .pick (.t 23) (.k (.bool true)) (.t 27), none⟩])
   (.cond (.t 28) (.seq (.reg [⟨some 2, .mv (.k (.bool false)), none⟩])
   (.ret)) (.skip))))))
   (.reg [⟨some 29, .bin .add (.t 10) (.k (.int .i64 1)) 0, none⟩,
    ⟨some 10, .mv (.t 29), none⟩])))))))
   (.seq (.reg [⟨some 2, .mv (.k (.bool true)), none⟩])
   (.ret)))
def k47 : FCode := ⟨30, c47, [.tmp 2], none⟩
def c48 : LCode := .seq (.reg [⟨some 1, .mv (.k (.bool false)), none⟩])
   (.seq (.reg [⟨some 2, .ld (.t 0) 8 true, none⟩,
    ⟨some 3, .call 49 [.t 2], none⟩,
    ⟨some 1, .mv (.t 3), none⟩])
   (.ret))
def k48 : FCode := ⟨4, c48, [.tmp 1], none⟩
def c49 : LCode := .seq (.reg [⟨some 1, .box (.t 0), none⟩,
    ⟨some 2, .mv (.k (.bool false)), none⟩])
   (.seq (.seq (.reg [⟨some 7, .fa (.t 1) 4, none⟩,
    ⟨some 8, .ld (.t 7) 1 false, none⟩,
    ⟨some 9, .len (.t 8) false, none⟩,
    ⟨some 10, .mv (.k (.int .i64 0)), none⟩])
   (.block 0 (.loop (.seq (.reg [⟨some 11, .bin .lss (.t 10) (.t 9) 0, none⟩])
   (.seq (.cond (.t 11) (.skip) (.exit 0))
   (.seq (.block 1 (.seq (.reg [⟨some 12, .mv (.t 10), none⟩,
    ⟨some 13, .ix 6 (.t 8) (.t 10), none⟩,
    ⟨some 14, .ld (.t 13) 6 true, none⟩,
    ⟨some 4, .alloc [.int .i64 0, .int .i64 0, .int .i64 0, .int .i64 0, .int .i64 0, .int .i64 0], none⟩,
    ⟨some 3, .mv (.t 12), none⟩,
    ⟨none, .st (.t 4) (.t 14) 6, none⟩])
   (.seq (.reg [⟨some 16, .ld (.t 1) 8 true, none⟩,
    ⟨some 17, .mv (.t 3), none⟩,
    ⟨some 18, .call 103 [.t 16, .k (.int .i64 4), .t 17], none⟩,
    ⟨some 15, .mv (.t 18), none⟩,
    ⟨some 19, .ext (.t 15) 0, none⟩,
    ⟨some 20, .ext (.t 15) 1, none⟩,
    ⟨some 5, .mv (.t 19), none⟩,
    ⟨some 6, .mv (.t 20), none⟩])
   (.seq (.reg [⟨some 21, .mv (.t 6), none⟩,
    ⟨some 22, .bin .neq (.t 21) (.k (.int .i64 0)) 0, none⟩,
    ⟨some 23, .mv (.t 22), none⟩,
    ⟨some 24, .mv (.t 5), some (23, false)⟩,
    ⟨some 25, .fa (.t 4) 5, some (23, false)⟩,
    ⟨some 26, .ld (.t 25) 1 false, some (23, false)⟩,
    ⟨some 27, .bin .gtr (.t 24) (.t 26) 0, some (23, false)⟩,
    ⟨some 28, .pick (.t 23) (.k (.bool true)) (.t 27), none⟩])
   (.cond (.t 28) (.seq (.reg [⟨some 2, .mv (.k (.bool false)), none⟩])
   (.ret)) (.skip))))))
   (.reg [⟨some 29, .bin .add (.t 10) (.k (.int .i64 1)) 0, none⟩,
    ⟨some 10, .mv (.t 29), none⟩])))))))
   (.seq (.reg [⟨some 2, .mv (.k (.bool true)), none⟩])
   (.ret)))
def k49 : FCode := ⟨30, c49, [.tmp 2], none⟩
def c50 : LCode := .seq (.reg [⟨some 1, .mv (.k (.bool false)), none⟩])
   (.seq (.reg [⟨some 2, .ld (.t 0) 8 true, none⟩,
    ⟨some 3, .call 51 [.t 2], none⟩,
    ⟨some 1, .mv (.t 3), none⟩])
   (.ret))
def k50 : FCode := ⟨4, c50, [.tmp 1], none⟩
def c51 : LCode := .seq (.reg [⟨some 1, .box (.t 0), none⟩,
    ⟨some 2, .mv (.k (.bool false)), none⟩])
   (.seq (.seq (.reg [⟨some 9, .fa (.t 1) 6, none⟩,
    ⟨some 10, .ld (.t 9) 1 false, none⟩,
    ⟨some 11, .len (.t 10) false, none⟩,
    ⟨some 12, .mv (.k (.int .i64 0)), none⟩])
   (.block 0 (.loop (.seq (.reg [⟨some 13, .bin .lss (.t 12) (.t 11) 0, none⟩])
   (.seq (.cond (.t 13) (.skip) (.exit 0))
   (.seq (.block 1 (.seq (.reg [⟨some 14, .ix 12 (.t 10) (.t 12), none⟩,
    ⟨some 15, .ld (.t 14) 12 true, none⟩,
    ⟨some 4, .alloc [.int .i64 0, .int .i64 0, .int .i64 0, .int .i64 0, .int .i64 0, .int .i64 0, .int .i64 0, .int .i64 0, .int .i64 0, .int .i64 0, .int .i64 0, .ro 2 [] true], none⟩,
    ⟨none, .st (.t 4) (.t 15) 12, none⟩])
   (.seq (.seq (.reg [⟨some 16, .fa (.t 4) 7, none⟩,
    ⟨some 17, .ld (.t 16) 1 false, none⟩,
    ⟨some 18, .bin .neq (.t 17) (.k (.int .i64 3)) 0, none⟩])
   (.cond (.t 18) (.exit 1) (.skip)))
   (.seq (.reg [⟨some 20, .fa (.t 4) 2, none⟩,
    ⟨some 21, .ld (.t 20) 1 false, none⟩,
    ⟨some 22, .fa (.t 4) 3, none⟩,
    ⟨some 23, .ld (.t 22) 1 false, none⟩,
    ⟨some 24, .fa (.t 4) 6, none⟩,
    ⟨some 25, .ld (.t 24) 1 false, none⟩,
    ⟨some 26, .call 104 [.t 21, .t 23, .t 25], none⟩,
    ⟨some 19, .mv (.t 26), none⟩,
    ⟨some 27, .ext (.t 19) 0, none⟩,
    ⟨some 28, .ext (.t 19) 1, none⟩,
    ⟨some 5, .mv (.t 27), none⟩,
    ⟨some 6, .mv (.t 28), none⟩])
   (.seq (.reg [⟨some 30, .fa (.t 4) 11, none⟩,
    ⟨some 31, .ld (.t 30) 1 false, none⟩,
    ⟨some 32, .call 105 [.t 31], none⟩,
    ⟨some 29, .mv (.t 32), none⟩,
    ⟨some 33, .ext (.t 29) 0, none⟩,
    ⟨some 34, .ext (.t 29) 1, none⟩,
    ⟨some 7, .mv (.t 33), none⟩,
    ⟨some 8, .mv (.t 34), none⟩])
   (.seq (.reg [⟨some 35, .mv (.t 6), none⟩,
    ⟨some 36, .bin .neq (.t 35) (.k (.int .i64 0)) 0, none⟩,
    ⟨some 37, .mv (.t 36), none⟩,
    ⟨some 38, .mv (.t 8), some (37, false)⟩,
    ⟨some 39, .bin .neq (.t 38) (.k (.int .i64 0)) 0, some (37, false)⟩,
    ⟨some 40, .pick (.t 37) (.k (.bool true)) (.t 39), none⟩,
    ⟨some 41, .mv (.t 40), none⟩,
    ⟨some 42, .mv (.t 5), some (41, false)⟩,
    ⟨some 43, .mv (.t 7), some (41, false)⟩,
    ⟨some 44, .bin .neq (.t 42) (.t 43) 0, some (41, false)⟩,
    ⟨some 45, .pick (.t 41) (.k (.bool true)) (.t 44), none⟩])
   (.cond (.t 45) (.seq (.reg [⟨some 2, .mv (.k (.bool false)), none⟩])
   (.ret)) (.skip))))))))
   (.reg [⟨some 46, .bin .add (.t 12) (.k (.int .i64 1)) 0, none⟩,
    ⟨some 12, .mv (.t 46), none⟩])))))))
   (.seq (.reg [⟨some 2, .mv (.k (.bool true)), none⟩])
   (.ret)))
def k51 : FCode := ⟨47, c51, [.tmp 2], none⟩
def c52 : LCode := .seq (.reg [⟨some 2, .mv (.k (.bool false)), none⟩])
   (.seq (.reg [⟨some 3, .ld (.t 0) 8 true, none⟩,
    ⟨some 4, .ld (.t 1) 1 false, none⟩,
    ⟨some 5, .call 53 [.t 3, .t 4], none⟩,
    ⟨some 2, .mv (.t 5), none⟩])
   (.ret))
def k52 : FCode := ⟨6, c52, [.tmp 2], none⟩
def c53 : LCode := .seq (.reg [⟨some 2, .box (.t 0), none⟩,
    ⟨some 4, .mv (.k (.bool false)), none⟩])
   (.seq (.reg [⟨some 8, .mv (.t 1), none⟩,
    ⟨some 9, .call 81 [.t 8], none⟩,
    ⟨some 5, .mv (.t 9), none⟩])
   (.seq (.seq (.reg [⟨some 10, .fa (.t 2) 6, none⟩,
    ⟨some 11, .ld (.t 10) 1 false, none⟩,
    ⟨some 12, .len (.t 11) false, none⟩,
    ⟨some 13, .mv (.k (.int .i64 0)), none⟩])
   (.block 0 (.loop (.seq (.reg [⟨some 14, .bin .lss (.t 13) (.t 12) 0, none⟩])
   (.seq (.cond (.t 14) (.skip) (.exit 0))
   (.seq (.block 1 (.seq (.reg [⟨some 15, .ix 12 (.t 11) (.t 13), none⟩,
    ⟨some 16, .ld (.t 15) 12 true, none⟩,
    ⟨some 7, .alloc [.int .i64 0, .int .i64 0, .int .i64 0, .int .i64 0, .int .i64 0, .int .i64 0, .int .i64 0, .int .i64 0, .int .i64 0, .int .i64 0, .int .i64 0, .ro 2 [] true], none⟩,
    ⟨none, .st (.t 7) (.t 16) 12, none⟩])
   (.seq (.seq (.reg [⟨some 17, .fa (.t 7) 7, none⟩,
    ⟨some 18, .ld (.t 17) 1 false, none⟩,
    ⟨some 19, .bin .neq (.t 18) (.k (.int .i64 3)) 0, none⟩])
   (.cond (.t 19) (.exit 1) (.skip)))
   (.seq (.seq (.reg [⟨some 20, .fa (.t 7) 9, none⟩,
    ⟨some 21, .ld (.t 20) 1 false, none⟩,
    ⟨some 22, .mv (.t 5), none⟩,
    ⟨some 23, .bin .andNot (.t 21) (.t 22) 0, none⟩,
    ⟨some 24, .bin .neq (.t 23) (.k (.int .i64 0)) 0, none⟩])
   (.cond (.t 24) (.seq (.reg [⟨some 4, .mv (.k (.bool false)), none⟩])
   (.ret)) (.skip)))
   (.reg [⟨some 25, .mv (.t 5), none⟩,
    ⟨some 26, .fa (.t 7) 9, none⟩,
    ⟨some 27, .ld (.t 26) 1 false, none⟩,
    ⟨some 28, .bin .andNot (.t 25) (.t 27) 0, none⟩,
    ⟨some 5, .mv (.t 28), none⟩])))))
   (.reg [⟨some 29, .bin .add (.t 13) (.k (.int .i64 1)) 0, none⟩,
    ⟨some 13, .mv (.t 29), none⟩])))))))
   (.seq (.reg [⟨some 4, .mv (.k (.bool true)), none⟩])
   (.ret))))
def k53 : FCode := ⟨30, c53, [.tmp 4], none⟩
def c54 : LCode := .seq (.reg [⟨some 1, .mv (.k (.bool false)), none⟩])
   (.seq (.reg [⟨some 2, .fa (.t 0) 3, none⟩,
    ⟨some 3, .ld (.t 2) 1 false, none⟩,
    ⟨some 4, .fa (.t 0) 4, none⟩,
    ⟨some 5, .ld (.t 4) 1 false, none⟩,
    ⟨some 6, .call 55 [.t 3, .t 5], none⟩,
    ⟨some 7, .bin .lss (.t 6) (.k (.int .i64 0)) 0, none⟩,
    ⟨some 1, .mv (.t 7), none⟩])
   (.ret))
def k54 : FCode := ⟨8, c54, [.tmp 1], none⟩
def c55 : LCode := .seq (.reg [⟨some 4, .mv (.k (.int .i64 0)), none⟩])
   (.seq (.seq (.reg [⟨some 9, .mv (.t 0), none⟩,
    ⟨some 10, .len (.t 9) false, none⟩,
    ⟨some 11, .mv (.k (.int .i64 0)), none⟩])
   (.block 0 (.loop (.seq (.reg [⟨some 12, .bin .lss (.t 11) (.t 10) 0, none⟩])
   (.seq (.cond (.t 12) (.skip) (.exit 0))
   (.seq (.block 1 (.seq (.reg [⟨some 13, .mv (.t 11), none⟩,
    ⟨some 14, .ix 3 (.t 9) (.t 11), none⟩,
    ⟨some 15, .ld (.t 14) 3 true, none⟩,
    ⟨some 6, .alloc [.str ⟨#[]⟩, .int .i64 0, .int .i64 0], none⟩,
    ⟨some 5, .mv (.t 13), none⟩,
    ⟨none, .st (.t 6) (.t 15) 3, none⟩])
   (.seq (.seq (.reg [⟨some 16, .fa (.t 6) 2, none⟩,
    ⟨some 17, .ld (.t 16) 1 false, none⟩,
    ⟨some 18, .bin .leq (.t 17) (.k (.int .i64 0)) 0, none⟩])
   (.cond (.t 18) (.exit 1) (.skip)))
   (.seq (.reg [⟨some 20, .mv (.t 0), none⟩,
    ⟨some 21, .mv (.t 1), none⟩,
    ⟨some 22, .mv (.t 5), none⟩,
    ⟨some 23, .call 106 [.t 20, .t 21, .t 22], none⟩,
    ⟨some 19, .mv (.t 23), none⟩,
    ⟨some 24, .ext (.t 19) 0, none⟩,
    ⟨some 25, .ext (.t 19) 1, none⟩,
    ⟨some 7, .mv (.t 24), none⟩,
    ⟨some 8, .mv (.t 25), none⟩])
   (.seq (.reg [⟨some 26, .mv (.t 8), none⟩,
    ⟨some 27, .bin .neq (.t 26) (.k (.int .i64 0)) 0, none⟩,
    ⟨some 28, .mv (.t 27), none⟩,
    ⟨some 29, .mv (.t 7), some (28, false)⟩,
    ⟨some 30, .fa (.t 6) 2, some (28, false)⟩,
    ⟨some 31, .ld (.t 30) 1 false, some (28, false)⟩,
    ⟨some 32, .bin .gtr (.t 29) (.t 31) 0, some (28, false)⟩,
    ⟨some 33, .pick (.t 28) (.k (.bool true)) (.t 32), none⟩])
   (.cond (.t 33) (.seq (.reg [⟨some 34, .mv (.t 5), none⟩,
    ⟨some 4, .mv (.t 34), none⟩])
   (.ret)) (.skip)))))))
   (.reg [⟨some 35, .bin .add (.t 11) (.k (.int .i64 1)) 0, none⟩,
    ⟨some 11, .mv (.t 35), none⟩])))))))
   (.seq (.reg [⟨some 4, .mv (.k (.int .i64 (-1))), none⟩])
   (.ret)))
def k55 : FCode := ⟨36, c55, [.tmp 4], none⟩
def c56 : LCode := .seq (.reg [⟨some 0, .alloc [.int .i64 0, .int .i64 0, .int .i64 0, .ro 3 [] true, .ro 6 [] true, .ro 3 [] true, .ro 12 [] true, .ro 1 [] true], none⟩])
   (.seq (.reg [⟨some 1, .build [.int .i64 0, .int .i64 0, .int .i64 0, .ro 3 [] true, .ro 6 [] true, .ro 3 [] true, .ro 12 [] true, .ro 1 [] true] [(2, 1, .k (.int .i64 1))], none⟩,
    ⟨none, .st (.t 0) (.t 1) 8, none⟩])
   (.ret))
def k56 : FCode := ⟨2, c56, [.cell 0 8 true], none⟩
def c57 : LCode := .seq (.reg [⟨some 4, .mv (.k (.int .i64 0)), none⟩])
   (.seq (.seq (.reg [⟨some 5, .mv (.k (.int .i64 0)), none⟩])
   (.block 0 (.loop (.seq (.seq (.reg [⟨some 6, .mv (.t 5), none⟩,
    ⟨some 7, .mv (.t 0), none⟩,
    ⟨some 8, .len (.t 7) false, none⟩,
    ⟨some 9, .bin .lss (.t 6) (.t 8) 0, none⟩])
   (.cond (.t 9) (.skip) (.exit 0)))
   (.seq (.block 1 (.seq (.reg [⟨some 12, .mv (.t 0), none⟩,
    ⟨some 13, .mv (.t 5), none⟩,
    ⟨some 14, .ix 12 (.t 12) (.t 13), none⟩,
    ⟨some 15, .fa (.t 14) 0, none⟩,
    ⟨some 16, .ld (.t 15) 1 false, none⟩,
    ⟨some 17, .mv (.t 1), none⟩,
    ⟨some 18, .bin .eql (.t 16) (.t 17) 0, none⟩])
   (.cond (.t 18) (.seq (.reg [⟨some 19, .mv (.t 5), none⟩,
    ⟨some 4, .mv (.t 19), none⟩])
   (.ret)) (.skip))))
   (.reg [⟨some 10, .mv (.t 5), none⟩,
    ⟨some 11, .bin .add (.t 10) (.k (.int .i64 1)) 0, none⟩,
    ⟨some 5, .mv (.t 11), none⟩]))))))
   (.seq (.reg [⟨some 4, .mv (.k (.int .i64 (-1))), none⟩])
   (.ret)))
def k57 : FCode := ⟨20, c57, [.tmp 4], none⟩
def c58 : LCode := .seq (.reg [⟨some 6, .mv (.k (.bool false)), none⟩])
   (.seq (.reg [⟨some 7, .mv (.t 0), none⟩,
    ⟨some 8, .mv (.t 1), none⟩,
    ⟨some 9, .bin .geq (.t 7) (.t 8) 0, none⟩,
    ⟨some 10, .mv (.t 9), none⟩,
    ⟨some 11, .mv (.t 0), some (10, true)⟩,
    ⟨some 12, .mv (.t 2), some (10, true)⟩,
    ⟨some 13, .bin .leq (.t 11) (.t 12) 0, some (10, true)⟩,
    ⟨some 14, .pick (.t 10) (.t 13) (.k (.bool false)), none⟩,
    ⟨some 6, .mv (.t 14), none⟩])
   (.ret))
def k58 : FCode := ⟨15, c58, [.tmp 6], none⟩
def c59 : LCode := .seq (.reg [⟨some 2, .mv (.k (.ro 1 [] true)), none⟩])
   (.seq (.reg [⟨some 3, .mv (.t 0), none⟩,
    ⟨some 4, .mv (.t 0), none⟩,
    ⟨some 5, .len (.t 4) false, none⟩,
    ⟨some 6, .mv (.t 0), none⟩,
    ⟨some 7, .len (.t 6) false, none⟩,
    ⟨some 8, .slc 1 (.t 3) (none) (some (.t 5)) (some (.t 7)), none⟩,
    ⟨some 2, .mv (.t 8), none⟩])
   (.ret))
def k59 : FCode := ⟨9, c59, [.tmp 2], none⟩
def c60 : LCode := .seq (.reg [⟨some 2, .mv (.k (.ro 1 [] true)), none⟩])
   (.seq (.seq (.reg [⟨some 3, .mv (.t 0), none⟩,
    ⟨some 4, .isnil (.t 3), none⟩])
   (.cond (.t 4) (.seq (.reg [⟨some 2, .mv (.k (.ro 1 [] true)), none⟩])
   (.ret)) (.skip)))
   (.seq (.reg [⟨some 5, .mks 1 [], none⟩,
    ⟨some 6, .mv (.t 0), none⟩,
    ⟨some 7, .app 1 8 (.t 5) (.t 6), none⟩,
    ⟨some 2, .mv (.t 7), none⟩])
   (.ret)))
def k60 : FCode := ⟨8, c60, [.tmp 2], some 1⟩
def c61 : LCode := .seq (.reg [⟨some 2, .mv (.k (.int .i64 0)), none⟩])
   (.seq (.reg [⟨some 4, .mks 1 [.k (.int .i64 (-1)), .k (.int .i64 2), .k (.int .i64 4), .k (.int .i64 2), .k (.int .i64 2), .k (.int .i64 3), .k (.int .i64 3), .k (.int .i64 5), .k (.int .i64 1), .k (.int .i64 1), .k (.int .i64 1), .k (.int .i64 1), .k (.int .i64 1), .k (.int .i64 2)], none⟩,
    ⟨some 3, .mv (.t 4), none⟩])
   (.seq (.seq (.reg [⟨some 5, .mv (.t 0), none⟩,
    ⟨some 6, .mv (.t 3), none⟩,
    ⟨some 7, .len (.t 6) false, none⟩,
    ⟨some 8, .bin .sub (.t 7) (.k (.int .i64 1)) 0, none⟩,
    ⟨some 9, .call 58 [.t 5, .k (.int .i64 1), .t 8], none⟩,
    ⟨some 10, .un .not (.t 9), none⟩])
   (.cond (.t 10) (.seq (.reg [⟨some 2, .mv (.k (.int .i64 (-1))), none⟩])
   (.ret)) (.skip)))
   (.seq (.reg [⟨some 11, .mv (.t 3), none⟩,
    ⟨some 12, .mv (.t 0), none⟩,
    ⟨some 13, .ix 1 (.t 11) (.t 12), none⟩,
    ⟨some 14, .ld (.t 13) 1 false, none⟩,
    ⟨some 2, .mv (.t 14), none⟩])
   (.ret))))
def k61 : FCode := ⟨15, c61, [.tmp 2], none⟩
def c62 : LCode := .seq (.reg [⟨some 4, .box (.t 0), none⟩,
    ⟨some 5, .box (.t 1), none⟩,
    ⟨some 8, .mv (.k (.int .i64 0)), none⟩,
    ⟨some 9, .mv (.k (.int .i64 0)), none⟩])
   (.seq (.seq (.dreg [] [⟨some 10, .mv (.t 3), none⟩,
    ⟨some 11, .ix 1 (.t 10) (.k (.int .i64 1)), none⟩,
    ⟨some 12, .ld (.t 11) 1 false, none⟩,
    ⟨some 13, .fa (.t 4) 0, none⟩,
    ⟨some 14, .ld (.t 13) 1 false, none⟩,
    ⟨some 15, .bin .gtr (.t 12) (.t 14) 0, none⟩])
   (.cond (.t 15) (.seq (.reg [⟨some 8, .mv (.k (.int .i64 0)), none⟩,
    ⟨some 9, .mv (.k (.int .i64 13)), none⟩])
   (.ret)) (.skip)))
   (.seq (.dreg [] [⟨some 16, .fa (.t 5) 5, none⟩,
    ⟨some 17, .ld (.t 16) 1 false, none⟩,
    ⟨some 18, .mv (.t 3), none⟩,
    ⟨some 19, .ix 1 (.t 18) (.k (.int .i64 3)), none⟩,
    ⟨some 20, .ld (.t 19) 1 false, none⟩,
    ⟨some 21, .mv (.t 2), none⟩,
    ⟨some 22, .call 107 [.t 17, .t 20, .t 21], none⟩,
    ⟨some 23, .ext (.t 22) 0, none⟩,
    ⟨some 24, .ext (.t 22) 1, none⟩,
    ⟨some 8, .mv (.t 23), none⟩,
    ⟨some 9, .mv (.t 24), none⟩])
   (.ret)))
def k62 : FCode := ⟨25, c62, [.tmp 8, .tmp 9], none⟩
def c63 : LCode := .seq (.reg [⟨some 3, .box (.t 0), none⟩,
    ⟨some 6, .mv (.k (.int .i64 0)), none⟩,
    ⟨some 7, .mv (.k (.int .i64 0)), none⟩])
   (.seq (.reg [⟨some 9, .fa (.t 3) 6, none⟩,
    ⟨some 10, .ld (.t 9) 1 false, none⟩,
    ⟨some 11, .mv (.t 2), none⟩,
    ⟨some 12, .call 67 [.t 10, .t 11], none⟩,
    ⟨some 8, .mv (.t 12), none⟩])
   (.seq (.block 0 (.seq (.reg [⟨some 14, .mv (.t 8), none⟩,
    ⟨some 15, .bin .lss (.t 14) (.k (.int .i64 0)) 0, none⟩,
    ⟨some 13, .mv (.t 15), none⟩])
   (.cond (.t 13) (.seq (.reg [⟨some 6, .mv (.k (.int .i64 0)), none⟩,
    ⟨some 7, .mv (.k (.int .i64 4)), none⟩])
   (.ret)) (.seq (.reg [⟨some 17, .fa (.t 3) 6, none⟩,
    ⟨some 18, .ld (.t 17) 1 false, none⟩,
    ⟨some 19, .mv (.t 8), none⟩,
    ⟨some 20, .ix 12 (.t 18) (.t 19), none⟩,
    ⟨some 21, .fa (.t 20) 7, none⟩,
    ⟨some 22, .ld (.t 21) 1 false, none⟩,
    ⟨some 23, .bin .neq (.t 22) (.k (.int .i64 3)) 0, none⟩,
    ⟨some 16, .mv (.t 23), none⟩])
   (.cond (.t 16) (.seq (.reg [⟨some 6, .mv (.k (.int .i64 0)), none⟩,
    ⟨some 7, .mv (.k (.int .i64 9)), none⟩])
   (.ret)) (.skip))))))
   (.seq (.dreg [] [⟨some 24, .mv (.t 1), none⟩,
    ⟨some 25, .fa (.t 3) 6, none⟩,
    ⟨some 26, .ld (.t 25) 1 false, none⟩,
    ⟨some 27, .mv (.t 8), none⟩,
    ⟨some 28, .ix 12 (.t 26) (.t 27), none⟩,
    ⟨some 29, .fa (.t 28) 8, none⟩,
    ⟨some 30, .ld (.t 29) 1 false, none⟩,
    ⟨some 31, .bin .sub (.t 24) (.t 30) 0, none⟩,
    ⟨some 32, .fa (.t 3) 6, none⟩,
    ⟨some 33, .ld (.t 32) 1 false, none⟩,
    ⟨some 34, .mv (.t 8), none⟩,
    ⟨some 35, .ix 12 (.t 33) (.t 34), none⟩,
    ⟨some 36, .fa (.t 35) 3, none⟩,
    ⟨some 37, .ld (.t 36) 1 false, none⟩,
    ⟨some 38, .mm false (.t 31) [.t 37], none⟩,
    ⟨some 39, .mm true (.k (.int .i64 0)) [.t 38], none⟩,
    ⟨some 6, .mv (.t 39), none⟩,
    ⟨some 7, .mv (.k (.int .i64 0)), none⟩])
   (.ret))))
def k63 : FCode := ⟨40, c63, [.tmp 6, .tmp 7], none⟩
def c64 : LCode := .seq (.reg [⟨some 6, .mv (.k (.int .i64 0)), none⟩,
    ⟨some 7, .mv (.k (.int .i64 0)), none⟩])
   (.seq (.seq (.reg [⟨some 12, .mv (.t 0), none⟩,
    ⟨some 13, .len (.t 12) false, none⟩,
    ⟨some 14, .bin .sub (.t 13) (.k (.int .i64 1)) 0, none⟩,
    ⟨some 8, .mv (.t 14), none⟩])
   (.block 0 (.loop (.seq (.seq (.reg [⟨some 15, .mv (.t 8), none⟩,
    ⟨some 16, .bin .geq (.t 15) (.k (.int .i64 0)) 0, none⟩])
   (.cond (.t 16) (.skip) (.exit 0)))
   (.seq (.block 1 (.seq (.reg [⟨some 19, .mv (.t 0), none⟩,
    ⟨some 20, .mv (.t 8), none⟩,
    ⟨some 21, .ix 3 (.t 19) (.t 20), none⟩,
    ⟨some 22, .ld (.t 21) 3 true, none⟩,
    ⟨some 9, .alloc [.int .i64 0, .int .i64 0, .int .i64 0], none⟩,
    ⟨none, .st (.t 9) (.t 22) 3, none⟩])
   (.seq (.reg [⟨some 23, .fa (.t 9) 0, none⟩,
    ⟨some 24, .ld (.t 23) 1 false, none⟩,
    ⟨some 25, .mv (.t 1), none⟩,
    ⟨some 26, .bin .eql (.t 24) (.t 25) 0, none⟩,
    ⟨some 27, .mv (.t 26), none⟩,
    ⟨some 28, .fa (.t 9) 1, some (27, true)⟩,
    ⟨some 29, .ld (.t 28) 1 false, some (27, true)⟩,
    ⟨some 30, .mv (.t 2), some (27, true)⟩,
    ⟨some 31, .bin .leq (.t 29) (.t 30) 0, some (27, true)⟩,
    ⟨some 32, .pick (.t 27) (.t 31) (.k (.bool false)), none⟩,
    ⟨some 10, .mv (.t 32), none⟩])
   (.seq (.seq (.reg [⟨some 11, .mv (.k (.int .i64 0)), none⟩])
   (.block 2 (.loop (.seq (.seq (.reg [⟨some 33, .mv (.t 11), none⟩,
    ⟨some 34, .mv (.t 0), none⟩,
    ⟨some 35, .len (.t 34) false, none⟩,
    ⟨some 36, .bin .lss (.t 33) (.t 35) 0, none⟩,
    ⟨some 37, .mv (.t 36), none⟩,
    ⟨some 38, .mv (.t 10), some (37, true)⟩,
    ⟨some 39, .pick (.t 37) (.t 38) (.k (.bool false)), none⟩])
   (.cond (.t 39) (.skip) (.exit 2)))
   (.seq (.block 3 (.seq (.dreg [] [⟨some 42, .mv (.t 0), none⟩,
    ⟨some 43, .mv (.t 11), none⟩,
    ⟨some 44, .ix 3 (.t 42) (.t 43), none⟩,
    ⟨some 45, .fa (.t 44) 0, none⟩,
    ⟨some 46, .ld (.t 45) 1 false, none⟩,
    ⟨some 47, .mv (.t 1), none⟩,
    ⟨some 48, .bin .eql (.t 46) (.t 47) 0, none⟩,
    ⟨some 49, .mv (.t 48), none⟩,
    ⟨some 50, .mv (.t 0), some (49, true)⟩,
    ⟨some 51, .mv (.t 11), some (49, true)⟩,
    ⟨some 52, .ix 3 (.t 50) (.t 51), some (49, true)⟩,
    ⟨some 53, .fa (.t 52) 1, some (49, true)⟩,
    ⟨some 54, .ld (.t 53) 1 false, some (49, true)⟩,
    ⟨some 55, .mv (.t 2), some (49, true)⟩,
    ⟨some 56, .bin .leq (.t 54) (.t 55) 0, some (49, true)⟩,
    ⟨some 57, .pick (.t 49) (.t 56) (.k (.bool false)), none⟩,
    ⟨some 58, .mv (.t 57), none⟩,
    ⟨some 59, .mv (.t 0), some (58, true)⟩,
    ⟨some 60, .mv (.t 11), some (58, true)⟩,
    ⟨some 61, .ix 3 (.t 59) (.t 60), some (58, true)⟩,
    ⟨some 62, .fa (.t 61) 1, some (58, true)⟩,
    ⟨some 63, .ld (.t 62) 1 false, some (58, true)⟩,
    ⟨some 64, .fa (.t 9) 1, some (58, true)⟩,
    ⟨some 65, .ld (.t 64) 1 false, some (58, true)⟩,
    ⟨some 66, .bin .gtr (.t 63) (.t 65) 0, some (58, true)⟩,
    ⟨some 67, .pick (.t 58) (.t 66) (.k (.bool false)), none⟩])
   (.cond (.t 67) (.reg [⟨some 10, .mv (.k (.bool false)), none⟩]) (.skip))))
   (.reg [⟨some 40, .mv (.t 11), none⟩,
    ⟨some 41, .bin .add (.t 40) (.k (.int .i64 1)) 0, none⟩,
    ⟨some 11, .mv (.t 41), none⟩]))))))
   (.seq (.reg [⟨some 68, .mv (.t 10), none⟩])
   (.cond (.t 68) (.seq (.reg [⟨some 69, .fa (.t 9) 2, none⟩,
    ⟨some 70, .ld (.t 69) 1 false, none⟩,
    ⟨some 6, .mv (.t 70), none⟩,
    ⟨some 7, .mv (.k (.int .i64 0)), none⟩])
   (.ret)) (.skip)))))))
   (.reg [⟨some 17, .mv (.t 8), none⟩,
    ⟨some 18, .bin .sub (.t 17) (.k (.int .i64 1)) 0, none⟩,
    ⟨some 8, .mv (.t 18), none⟩]))))))
   (.seq (.reg [⟨some 6, .mv (.k (.int .i64 0)), none⟩,
    ⟨some 7, .mv (.k (.int .i64 12)), none⟩])
   (.ret)))
def k64 : FCode := ⟨71, c64, [.tmp 6, .tmp 7], none⟩
def c65 : LCode := .seq (.reg [⟨some 2, .box (.t 0), none⟩,
    ⟨some 3, .mv (.k (.bool false)), none⟩])
   (.seq (.reg [⟨some 7, .ld (.t 1) 8 true, none⟩,
    ⟨some 8, .ld (.t 2) 7 true, none⟩,
    ⟨some 9, .call 10 [.t 7, .t 8], none⟩,
    ⟨some 6, .mv (.t 9), none⟩,
    ⟨some 10, .ext (.t 6) 0, none⟩,
    ⟨some 11, .ext (.t 6) 1, none⟩,
    ⟨some 4, .alloc [.int .i64 0, .int .i64 0, .int .i64 0, .str ⟨#[]⟩, .str ⟨#[]⟩, .ro 1 [] true, .ro 2 [] true], none⟩,
    ⟨none, .st (.t 4) (.t 10) 7, none⟩,
    ⟨some 5, .mv (.t 11), none⟩])
   (.seq (.seq (.reg [⟨some 12, .mv (.t 5), none⟩,
    ⟨some 13, .bin .neq (.t 12) (.k (.int .i64 0)) 0, none⟩])
   (.cond (.t 13) (.seq (.reg [⟨some 3, .mv (.k (.bool false)), none⟩])
   (.ret)) (.skip)))
   (.seq (.reg [⟨some 15, .ld (.t 1) 8 true, none⟩,
    ⟨some 16, .ld (.t 4) 7 true, none⟩,
    ⟨some 17, .call 13 [.t 15, .t 16], none⟩,
    ⟨some 14, .mv (.t 17), none⟩,
    ⟨some 18, .ext (.t 14) 0, none⟩,
    ⟨some 19, .ext (.t 14) 1, none⟩,
    ⟨none, .st (.t 1) (.t 18) 8, none⟩,
    ⟨some 5, .mv (.t 19), none⟩])
   (.seq (.reg [⟨some 20, .mv (.t 5), none⟩,
    ⟨some 21, .bin .eql (.t 20) (.k (.int .i64 0)) 0, none⟩,
    ⟨some 3, .mv (.t 21), none⟩])
   (.ret)))))
def k65 : FCode := ⟨22, c65, [.tmp 3], none⟩
def c66 : LCode := .seq (.reg [⟨some 4, .mv (.k (.ro 1 [] true)), none⟩])
   (.seq (.reg [⟨some 9, .mv (.t 0), none⟩,
    ⟨some 10, .call 108 [.t 9], none⟩,
    ⟨some 5, .mv (.t 10), none⟩])
   (.seq (.reg [⟨some 11, .mv (.t 5), none⟩,
    ⟨some 12, .call 109 [.t 11, .k (.fn 110 [])], none⟩])
   (.seq (.reg [⟨some 6, .mv (.k (.ro 1 [] true)), none⟩])
   (.seq (.seq (.reg [⟨some 13, .mv (.t 5), none⟩,
    ⟨some 14, .len (.t 13) false, none⟩,
    ⟨some 15, .mv (.k (.int .i64 0)), none⟩])
   (.block 0 (.loop (.seq (.reg [⟨some 16, .bin .lss (.t 15) (.t 14) 0, none⟩])
   (.seq (.cond (.t 16) (.skip) (.exit 0))
   (.seq (.block 1 (.seq (.reg [⟨some 17, .ix 12 (.t 13) (.t 15), none⟩,
    ⟨some 18, .ld (.t 17) 12 true, none⟩,
    ⟨some 8, .alloc [.int .i64 0, .int .i64 0, .int .i64 0, .int .i64 0, .int .i64 0, .int .i64 0, .int .i64 0, .int .i64 0, .int .i64 0, .int .i64 0, .int .i64 0, .ro 2 [] true], none⟩,
    ⟨none, .st (.t 8) (.t 18) 12, none⟩])
   (.seq (.reg [⟨some 19, .fa (.t 8) 8, none⟩,
    ⟨some 20, .ld (.t 19) 1 false, none⟩,
    ⟨some 21, .fa (.t 8) 3, none⟩,
    ⟨some 22, .ld (.t 21) 1 false, none⟩,
    ⟨some 23, .bin .add (.t 20) (.t 22) 0, none⟩,
    ⟨some 24, .mv (.t 1), none⟩,
    ⟨some 25, .bin .leq (.t 23) (.t 24) 0, none⟩])
   (.cond (.t 25) (.reg [⟨some 26, .mv (.t 6), none⟩,
    ⟨some 27, .fa (.t 8) 0, none⟩,
    ⟨some 28, .ld (.t 27) 1 false, none⟩,
    ⟨some 29, .mks 1 [.t 28], none⟩,
    ⟨some 30, .app 1 8 (.t 26) (.t 29), none⟩,
    ⟨some 6, .mv (.t 30), none⟩]) (.skip)))))
   (.reg [⟨some 31, .bin .add (.t 15) (.k (.int .i64 1)) 0, none⟩,
    ⟨some 15, .mv (.t 31), none⟩])))))))
   (.seq (.reg [⟨some 32, .mv (.t 6), none⟩,
    ⟨some 33, .call 59 [.t 32], none⟩,
    ⟨some 4, .mv (.t 33), none⟩])
   (.ret))))))
def k66 : FCode := ⟨34, c66, [.tmp 4], none⟩
def c67 : LCode := .seq (.reg [⟨some 3, .box (.t 1), none⟩,
    ⟨some 4, .mv (.k (.int .i64 0)), none⟩])
   (.seq (.reg [⟨some 5, .mv (.t 0), none⟩,
    ⟨some 6, .mkf 114 [.t 3], none⟩,
    ⟨some 7, .call 113 [.t 5, .t 6], none⟩,
    ⟨some 4, .mv (.t 7), none⟩])
   (.ret))
def k67 : FCode := ⟨8, c67, [.tmp 4], none⟩
def c68 : LCode := .seq (.reg [⟨some 2, .mv (.k (.ro 7 [] true)), none⟩])
   (.seq (.reg [⟨some 3, .mv (.t 0), none⟩,
    ⟨some 4, .mv (.t 0), none⟩,
    ⟨some 5, .len (.t 4) false, none⟩,
    ⟨some 6, .mv (.t 0), none⟩,
    ⟨some 7, .len (.t 6) false, none⟩,
    ⟨some 8, .slc 7 (.t 3) (none) (some (.t 5)) (some (.t 7)), none⟩,
    ⟨some 2, .mv (.t 8), none⟩])
   (.ret))
def k68 : FCode := ⟨9, c68, [.tmp 2], none⟩
def c69 : LCode := .seq (.reg [⟨some 1, .box (.t 0), none⟩,
    ⟨some 2, .mv (.k (.ro 1 [] true)), none⟩])
   (.seq (.reg [⟨some 3, .mv (.k (.ro 1 [] true)), none⟩])
   (.seq (.seq (.reg [⟨some 6, .ld (.t 1) 1 false, none⟩,
    ⟨some 7, .len (.t 6) false, none⟩,
    ⟨some 8, .mv (.k (.int .i64 0)), none⟩])
   (.block 0 (.loop (.seq (.reg [⟨some 9, .bin .lss (.t 8) (.t 7) 0, none⟩])
   (.seq (.cond (.t 9) (.skip) (.exit 0))
   (.seq (.block 1 (.seq (.reg [⟨some 10, .mv (.t 8), none⟩,
    ⟨some 11, .ix 12 (.t 6) (.t 8), none⟩,
    ⟨some 12, .ld (.t 11) 12 true, none⟩,
    ⟨some 5, .alloc [.int .i64 0, .int .i64 0, .int .i64 0, .int .i64 0, .int .i64 0, .int .i64 0, .int .i64 0, .int .i64 0, .int .i64 0, .int .i64 0, .int .i64 0, .ro 2 [] true], none⟩,
    ⟨some 4, .mv (.t 10), none⟩,
    ⟨none, .st (.t 5) (.t 12) 12, none⟩])
   (.seq (.reg [⟨some 13, .fa (.t 5) 7, none⟩,
    ⟨some 14, .ld (.t 13) 1 false, none⟩,
    ⟨some 15, .bin .eql (.t 14) (.k (.int .i64 1)) 0, none⟩])
   (.cond (.t 15) (.reg [⟨some 16, .mv (.t 3), none⟩,
    ⟨some 17, .mv (.t 4), none⟩,
    ⟨some 18, .mks 1 [.t 17], none⟩,
    ⟨some 19, .app 1 8 (.t 16) (.t 18), none⟩,
    ⟨some 3, .mv (.t 19), none⟩]) (.skip)))))
   (.reg [⟨some 20, .bin .add (.t 8) (.k (.int .i64 1)) 0, none⟩,
    ⟨some 8, .mv (.t 20), none⟩])))))))
   (.seq (.reg [⟨some 21, .mv (.t 3), none⟩,
    ⟨some 22, .mkf 116 [.t 1], none⟩,
    ⟨some 23, .call 115 [.t 21, .t 22], none⟩])
   (.seq (.reg [⟨some 24, .mv (.t 3), none⟩,
    ⟨some 25, .call 59 [.t 24], none⟩,
    ⟨some 2, .mv (.t 25), none⟩])
   (.ret)))))
def k69 : FCode := ⟨26, c69, [.tmp 2], none⟩
def c70 : LCode := .seq (.reg [⟨some 4, .mv (.k (.bool false)), none⟩])
   (.seq (.reg [⟨some 5, .mv (.t 0), none⟩,
    ⟨some 6, .mv (.t 1), none⟩,
    ⟨some 7, .call 117 [.t 5, .t 6], none⟩,
    ⟨some 8, .bin .geq (.t 7) (.k (.int .i64 0)) 0, none⟩,
    ⟨some 4, .mv (.t 8), none⟩])
   (.ret))
def k70 : FCode := ⟨9, c70, [.tmp 4], none⟩
def c71 : LCode := .seq (.reg [⟨some 10, .mv (.k (.int .i64 0)), none⟩,
    ⟨some 11, .mv (.k (.bool false)), none⟩])
   (.seq (.reg [⟨some 19, .mv (.t 0), none⟩,
    ⟨some 20, .mv (.t 1), none⟩,
    ⟨some 21, .mv (.t 2), none⟩,
    ⟨some 22, .call 119 [.t 19, .t 20, .t 21], none⟩,
    ⟨some 23, .mv (.t 0), none⟩,
    ⟨some 24, .call 118 [.t 22, .t 23], none⟩,
    ⟨some 12, .mv (.t 24), none⟩])
   (.seq (.reg [⟨some 13, .mv (.k (.int .i64 0)), none⟩])
   (.seq (.block 0 (.loop (.seq (.seq (.reg [⟨some 25, .mv (.t 13), none⟩,
    ⟨some 26, .mv (.t 3), none⟩,
    ⟨some 27, .len (.t 26) false, none⟩,
    ⟨some 28, .bin .lss (.t 25) (.t 27) 0, none⟩,
    ⟨some 29, .mv (.t 28), none⟩,
    ⟨some 30, .mv (.t 13), some (29, true)⟩,
    ⟨some 31, .mv (.t 1), some (29, true)⟩,
    ⟨some 32, .mv (.t 3), some (29, true)⟩,
    ⟨some 33, .mv (.t 4), some (29, true)⟩,
    ⟨some 34, .call 120 [.t 30, .t 31, .t 32, .t 33], some (29, true)⟩,
    ⟨some 35, .un .not (.t 34), some (29, true)⟩,
    ⟨some 36, .pick (.t 29) (.t 35) (.k (.bool false)), none⟩])
   (.cond (.t 36) (.skip) (.exit 0)))
   (.block 1 (.reg [⟨some 37, .mv (.t 13), none⟩,
    ⟨some 38, .bin .add (.t 37) (.k (.int .i64 1)) 0, none⟩,
    ⟨some 13, .mv (.t 38), none⟩])))))
   (.seq (.block 2 (.seq (.reg [⟨some 40, .mv (.t 13), none⟩,
    ⟨some 41, .mv (.t 3), none⟩,
    ⟨some 42, .len (.t 41) false, none⟩,
    ⟨some 43, .bin .eql (.t 40) (.t 42) 0, none⟩,
    ⟨some 39, .mv (.t 43), none⟩])
   (.cond (.t 39) (.seq (.reg [⟨some 10, .mv (.k (.int .i64 0)), none⟩,
    ⟨some 11, .mv (.k (.bool false)), none⟩])
   (.ret)) (.seq (.reg [⟨some 45, .mv (.t 3), none⟩,
    ⟨some 46, .mv (.t 13), none⟩,
    ⟨some 47, .ix 2 (.t 45) (.t 46), none⟩,
    ⟨some 48, .fa (.t 47) 0, none⟩,
    ⟨some 49, .ld (.t 48) 1 false, none⟩,
    ⟨some 50, .mv (.t 12), none⟩,
    ⟨some 51, .bin .leq (.t 49) (.t 50) 0, none⟩,
    ⟨some 44, .mv (.t 51), none⟩])
   (.cond (.t 44) (.seq (.reg [⟨some 52, .mv (.t 13), none⟩,
    ⟨some 10, .mv (.t 52), none⟩,
    ⟨some 11, .mv (.k (.bool true)), none⟩])
   (.ret)) (.skip))))))
   (.seq (.reg [⟨some 54, .mv (.t 0), none⟩,
    ⟨some 55, .mv (.t 1), none⟩,
    ⟨some 56, .mv (.t 2), none⟩,
    ⟨some 57, .mv (.t 3), none⟩,
    ⟨some 58, .mv (.t 13), none⟩,
    ⟨some 59, .ix 2 (.t 57) (.t 58), none⟩,
    ⟨some 60, .fa (.t 59) 0, none⟩,
    ⟨some 61, .ld (.t 60) 1 false, none⟩,
    ⟨some 62, .call 121 [.t 54, .t 55, .t 56, .t 61], none⟩,
    ⟨some 53, .mv (.t 62), none⟩,
    ⟨some 63, .ext (.t 53) 0, none⟩,
    ⟨some 64, .ext (.t 53) 1, none⟩,
    ⟨some 65, .ext (.t 53) 2, none⟩,
    ⟨some 14, .mv (.t 63), none⟩,
    ⟨some 15, .mv (.t 64), none⟩,
    ⟨some 16, .mv (.t 65), none⟩])
   (.seq (.seq (.reg [⟨some 66, .mv (.t 13), none⟩,
    ⟨some 67, .bin .add (.t 66) (.k (.int .i64 1)) 0, none⟩,
    ⟨some 17, .mv (.t 67), none⟩])
   (.block 3 (.loop (.seq (.seq (.reg [⟨some 68, .mv (.t 17), none⟩,
    ⟨some 69, .mv (.t 3), none⟩,
    ⟨some 70, .len (.t 69) false, none⟩,
    ⟨some 71, .bin .lss (.t 68) (.t 70) 0, none⟩])
   (.cond (.t 71) (.skip) (.exit 3)))
   (.seq (.block 4 (.seq (.reg [⟨some 74, .mv (.t 3), none⟩,
    ⟨some 75, .mv (.t 17), none⟩,
    ⟨some 76, .ix 2 (.t 74) (.t 75), none⟩,
    ⟨some 77, .ld (.t 76) 2 true, none⟩,
    ⟨some 18, .alloc [.int .i64 0, .int .i64 0], none⟩,
    ⟨none, .st (.t 18) (.t 77) 2, none⟩])
   (.seq (.reg [⟨some 78, .mv (.t 17), none⟩,
    ⟨some 79, .mv (.t 1), none⟩,
    ⟨some 80, .mv (.t 3), none⟩,
    ⟨some 81, .mv (.t 4), none⟩,
    ⟨some 82, .call 120 [.t 78, .t 79, .t 80, .t 81], none⟩,
    ⟨some 83, .mv (.t 82), none⟩,
    ⟨some 84, .fa (.t 18) 0, some (83, true)⟩,
    ⟨some 85, .ld (.t 84) 1 false, some (83, true)⟩,
    ⟨some 86, .mv (.t 12), some (83, true)⟩,
    ⟨some 87, .bin .leq (.t 85) (.t 86) 0, some (83, true)⟩,
    ⟨some 88, .pick (.t 83) (.t 87) (.k (.bool false)), none⟩,
    ⟨some 89, .mv (.t 88), none⟩,
    ⟨some 90, .fa (.t 18) 1, some (89, true)⟩,
    ⟨some 91, .ld (.t 90) 1 false, some (89, true)⟩,
    ⟨some 92, .mv (.t 14), some (89, true)⟩,
    ⟨some 93, .mv (.t 0), some (89, true)⟩,
    ⟨some 94, .bin .sub (.t 92) (.t 93) 0, some (89, true)⟩,
    ⟨some 95, .bin .leq (.t 91) (.t 94) 0, some (89, true)⟩,
    ⟨some 96, .mv (.t 95), some (89, true)⟩,
    ⟨some 97, .fa (.t 18) 0, some (96, false)⟩,
    ⟨some 98, .ld (.t 97) 1 false, some (96, false)⟩,
    ⟨some 99, .mv (.t 15), some (96, false)⟩,
    ⟨some 100, .bin .leq (.t 98) (.t 99) 0, some (96, false)⟩,
    ⟨some 101, .pick (.t 96) (.k (.bool true)) (.t 100), some (89, true)⟩,
    ⟨some 102, .pick (.t 89) (.t 101) (.k (.bool false)), none⟩])
   (.cond (.t 102) (.seq (.reg [⟨some 103, .mv (.t 17), none⟩,
    ⟨some 10, .mv (.t 103), none⟩,
    ⟨some 11, .mv (.k (.bool true)), none⟩])
   (.ret)) (.skip)))))
   (.reg [⟨some 72, .mv (.t 17), none⟩,
    ⟨some 73, .bin .add (.t 72) (.k (.int .i64 1)) 0, none⟩,
    ⟨some 17, .mv (.t 73), none⟩]))))))
   (.seq (.reg [⟨some 10, .mv (.k (.int .i64 0)), none⟩,
    ⟨some 11, .mv (.k (.bool false)), none⟩])
   (.ret))))))))
def k71 : FCode := ⟨104, c71, [.tmp 10, .tmp 11], none⟩
def c72 : LCode := .seq (.reg [⟨some 10, .mv (.k (.int .i64 0)), none⟩,
    ⟨some 11, .mv (.k (.bool false)), none⟩])
   (.seq (.reg [⟨some 13, .mv (.t 0), none⟩,
    ⟨some 14, .mv (.t 1), none⟩,
    ⟨some 15, .mv (.t 2), none⟩,
    ⟨some 16, .mv (.t 3), none⟩,
    ⟨some 17, .mv (.t 4), none⟩,
    ⟨some 18, .call 122 [.t 13, .t 14, .t 15, .t 16, .t 17], none⟩,
    ⟨some 19, .mv (.t 0), none⟩,
    ⟨some 20, .call 117 [.t 18, .t 19], none⟩,
    ⟨some 12, .mv (.t 20), none⟩])
   (.seq (.reg [⟨some 21, .mv (.t 12), none⟩,
    ⟨some 22, .mm true (.t 21) [.k (.int .i64 0)], none⟩,
    ⟨some 23, .mv (.t 12), none⟩,
    ⟨some 24, .bin .geq (.t 23) (.k (.int .i64 0)) 0, none⟩,
    ⟨some 10, .mv (.t 22), none⟩,
    ⟨some 11, .mv (.t 24), none⟩])
   (.ret)))
def k72 : FCode := ⟨25, c72, [.tmp 10, .tmp 11], none⟩
def c73 : LCode := .seq (.reg [⟨some 2, .mv (.k (.ro 2 [] true)), none⟩])
   (.seq (.reg [⟨some 3, .mv (.k (.ro 2 [] true)), none⟩])
   (.seq (.seq (.reg [⟨some 6, .mv (.t 0), none⟩,
    ⟨some 7, .call 108 [.t 6], none⟩,
    ⟨some 8, .len (.t 7) false, none⟩,
    ⟨some 9, .mv (.k (.int .i64 0)), none⟩])
   (.block 0 (.loop (.seq (.reg [⟨some 10, .bin .lss (.t 9) (.t 8) 0, none⟩])
   (.seq (.cond (.t 10) (.skip) (.exit 0))
   (.seq (.block 1 (.seq (.reg [⟨some 11, .ix 12 (.t 7) (.t 9), none⟩,
    ⟨some 12, .ld (.t 11) 12 true, none⟩,
    ⟨some 5, .alloc [.int .i64 0, .int .i64 0, .int .i64 0, .int .i64 0, .int .i64 0, .int .i64 0, .int .i64 0, .int .i64 0, .int .i64 0, .int .i64 0, .int .i64 0, .ro 2 [] true], none⟩,
    ⟨none, .st (.t 5) (.t 12) 12, none⟩])
   (.reg [⟨some 13, .mv (.t 3), none⟩,
    ⟨some 14, .fa (.t 5) 8, none⟩,
    ⟨some 15, .ld (.t 14) 1 false, none⟩,
    ⟨some 16, .fa (.t 5) 3, none⟩,
    ⟨some 17, .ld (.t 16) 1 false, none⟩,
    ⟨some 18, .bin .add (.t 15) (.t 17) 0, none⟩,
    ⟨some 19, .fa (.t 5) 2, none⟩,
    ⟨some 20, .ld (.t 19) 1 false, none⟩,
    ⟨some 21, .build [.int .i64 0, .int .i64 0] [(0, 1, .t 18), (1, 1, .t 20)], none⟩,
    ⟨some 22, .mks 2 [.t 21], none⟩,
    ⟨some 23, .app 2 16 (.t 13) (.t 22), none⟩,
    ⟨some 3, .mv (.t 23), none⟩])))
   (.reg [⟨some 24, .bin .add (.t 9) (.k (.int .i64 1)) 0, none⟩,
    ⟨some 9, .mv (.t 24), none⟩])))))))
   (.seq (.reg [⟨some 25, .mv (.t 3), none⟩,
    ⟨some 26, .call 123 [.t 25], none⟩,
    ⟨some 2, .mv (.t 26), none⟩])
   (.ret))))
def k73 : FCode := ⟨27, c73, [.tmp 2], none⟩
def c74 : LCode := .seq (.reg [⟨some 2, .mv (.k (.ro 2 [] true)), none⟩])
   (.seq (.reg [⟨some 3, .mv (.k (.ro 2 [] true)), none⟩])
   (.seq (.seq (.reg [⟨some 6, .mv (.t 0), none⟩,
    ⟨some 7, .call 69 [.t 6], none⟩,
    ⟨some 8, .len (.t 7) false, none⟩,
    ⟨some 9, .mv (.k (.int .i64 0)), none⟩])
   (.block 0 (.loop (.seq (.reg [⟨some 10, .bin .lss (.t 9) (.t 8) 0, none⟩])
   (.seq (.cond (.t 10) (.skip) (.exit 0))
   (.seq (.block 1 (.seq (.reg [⟨some 11, .ix 1 (.t 7) (.t 9), none⟩,
    ⟨some 12, .ld (.t 11) 1 false, none⟩,
    ⟨some 5, .mv (.t 12), none⟩])
   (.dreg [] [⟨some 13, .mv (.t 3), none⟩,
    ⟨some 14, .mv (.t 0), none⟩,
    ⟨some 15, .mv (.t 5), none⟩,
    ⟨some 16, .ix 12 (.t 14) (.t 15), none⟩,
    ⟨some 17, .fa (.t 16) 2, none⟩,
    ⟨some 18, .ld (.t 17) 1 false, none⟩,
    ⟨some 19, .mv (.t 0), none⟩,
    ⟨some 20, .mv (.t 5), none⟩,
    ⟨some 21, .ix 12 (.t 19) (.t 20), none⟩,
    ⟨some 22, .fa (.t 21) 3, none⟩,
    ⟨some 23, .ld (.t 22) 1 false, none⟩,
    ⟨some 24, .build [.int .i64 0, .int .i64 0] [(0, 1, .t 18), (1, 1, .t 23)], none⟩,
    ⟨some 25, .mks 2 [.t 24], none⟩,
    ⟨some 26, .app 2 16 (.t 13) (.t 25), none⟩,
    ⟨some 3, .mv (.t 26), none⟩])))
   (.reg [⟨some 27, .bin .add (.t 9) (.k (.int .i64 1)) 0, none⟩,
    ⟨some 9, .mv (.t 27), none⟩])))))))
   (.seq (.reg [⟨some 28, .mv (.t 3), none⟩,
    ⟨some 29, .call 124 [.t 28], none⟩,
    ⟨some 2, .mv (.t 29), none⟩])
   (.ret))))
def k74 : FCode := ⟨30, c74, [.tmp 2], none⟩
def c75 : LCode := .seq (.reg [⟨some 2, .mv (.k (.ro 1 [] true)), none⟩])
   (.seq (.reg [⟨some 6, .mks 1 [], none⟩,
    ⟨some 3, .mv (.t 6), none⟩])
   (.seq (.seq (.reg [⟨some 4, .mv (.k (.int .i64 0)), none⟩])
   (.block 0 (.loop (.seq (.seq (.reg [⟨some 7, .mv (.t 4), none⟩,
    ⟨some 8, .mv (.t 0), none⟩,
    ⟨some 9, .len (.t 8) false, none⟩,
    ⟨some 10, .bin .lss (.t 7) (.t 9) 0, none⟩])
   (.cond (.t 10) (.skip) (.exit 0)))
   (.seq (.block 1 (.seq (.seq (.reg [⟨some 13, .mv (.t 0), none⟩,
    ⟨some 14, .mv (.t 4), none⟩,
    ⟨some 15, .ix 12 (.t 13) (.t 14), none⟩,
    ⟨some 16, .fa (.t 15) 7, none⟩,
    ⟨some 17, .ld (.t 16) 1 false, none⟩,
    ⟨some 18, .bin .neq (.t 17) (.k (.int .i64 1)) 0, none⟩])
   (.cond (.t 18) (.exit 1) (.skip)))
   (.seq (.reg [⟨some 19, .mv (.t 3), none⟩,
    ⟨some 20, .len (.t 19) false, none⟩,
    ⟨some 5, .mv (.t 20), none⟩])
   (.seq (.block 2 (.loop (.seq (.seq (.reg [⟨some 21, .mv (.t 5), none⟩,
    ⟨some 22, .bin .gtr (.t 21) (.k (.int .i64 0)) 0, none⟩,
    ⟨some 23, .mv (.t 22), none⟩,
    ⟨some 24, .mv (.t 0), some (23, true)⟩,
    ⟨some 25, .mv (.t 4), some (23, true)⟩,
    ⟨some 26, .mv (.t 3), some (23, true)⟩,
    ⟨some 27, .mv (.t 5), some (23, true)⟩,
    ⟨some 28, .bin .sub (.t 27) (.k (.int .i64 1)) 0, some (23, true)⟩,
    ⟨some 29, .ix 1 (.t 26) (.t 28), some (23, true)⟩,
    ⟨some 30, .ld (.t 29) 1 false, some (23, true)⟩,
    ⟨some 31, .call 125 [.t 24, .t 25, .t 30], some (23, true)⟩,
    ⟨some 32, .pick (.t 23) (.t 31) (.k (.bool false)), none⟩])
   (.cond (.t 32) (.skip) (.exit 2)))
   (.block 3 (.reg [⟨some 33, .mv (.t 5), none⟩,
    ⟨some 34, .bin .sub (.t 33) (.k (.int .i64 1)) 0, none⟩,
    ⟨some 5, .mv (.t 34), none⟩])))))
   (.dreg [(4, 10), (7, 10)] [⟨some 35, .mks 1 [], none⟩,
    ⟨some 36, .mv (.t 3), none⟩,
    ⟨some 37, .mv (.t 5), none⟩,
    ⟨some 38, .slc 1 (.t 36) (none) (some (.t 37)) (none), none⟩,
    ⟨some 39, .app 1 8 (.t 35) (.t 38), none⟩,
    ⟨some 40, .mv (.t 4), none⟩,
    ⟨some 41, .mks 1 [.t 40], none⟩,
    ⟨some 42, .app 1 8 (.t 39) (.t 41), none⟩,
    ⟨some 43, .mv (.t 3), none⟩,
    ⟨some 44, .mv (.t 5), none⟩,
    ⟨some 45, .slc 1 (.t 43) (some (.t 44)) (none) (none), none⟩,
    ⟨some 46, .app 1 8 (.t 42) (.t 45), none⟩,
    ⟨some 3, .mv (.t 46), none⟩])))))
   (.reg [⟨some 11, .mv (.t 4), none⟩,
    ⟨some 12, .bin .add (.t 11) (.k (.int .i64 1)) 0, none⟩,
    ⟨some 4, .mv (.t 12), none⟩]))))))
   (.seq (.reg [⟨some 47, .mv (.t 3), none⟩,
    ⟨some 2, .mv (.t 47), none⟩])
   (.ret))))
def k75 : FCode := ⟨48, c75, [.tmp 2], none⟩
def c76 : LCode := .seq (.reg [⟨some 4, .mv (.k (.bool false)), none⟩])
   (.seq (.seq (.reg [⟨some 5, .mv (.k (.int .i64 0)), none⟩])
   (.block 0 (.loop (.seq (.seq (.reg [⟨some 6, .mv (.t 5), none⟩,
    ⟨some 7, .mv (.t 0), none⟩,
    ⟨some 8, .len (.t 7) false, none⟩,
    ⟨some 9, .bin .lss (.t 6) (.t 8) 0, none⟩])
   (.cond (.t 9) (.skip) (.exit 0)))
   (.seq (.block 1 (.seq (.reg [⟨some 12, .mv (.t 0), none⟩,
    ⟨some 13, .mv (.t 5), none⟩,
    ⟨some 14, .ix 1 (.t 12) (.t 13), none⟩,
    ⟨some 15, .ld (.t 14) 1 false, none⟩,
    ⟨some 16, .mv (.t 1), none⟩,
    ⟨some 17, .bin .eql (.t 15) (.t 16) 0, none⟩])
   (.cond (.t 17) (.seq (.reg [⟨some 4, .mv (.k (.bool true)), none⟩])
   (.ret)) (.skip))))
   (.reg [⟨some 10, .mv (.t 5), none⟩,
    ⟨some 11, .bin .add (.t 10) (.k (.int .i64 1)) 0, none⟩,
    ⟨some 5, .mv (.t 11), none⟩]))))))
   (.seq (.reg [⟨some 4, .mv (.k (.bool false)), none⟩])
   (.ret)))
def k76 : FCode := ⟨18, c76, [.tmp 4], none⟩
def c77 : LCode := .seq (.reg [⟨some 10, .mv (.k (.int .i64 0)), none⟩,
    ⟨some 11, .mv (.k (.bool false)), none⟩])
   (.seq (.reg [⟨some 12, .mv (.k (.int .i64 (-1))), none⟩])
   (.seq (.seq (.reg [⟨some 13, .mv (.k (.int .i64 0)), none⟩])
   (.block 0 (.loop (.seq (.seq (.reg [⟨some 17, .mv (.t 13), none⟩,
    ⟨some 18, .mv (.t 3), none⟩,
    ⟨some 19, .len (.t 18) false, none⟩,
    ⟨some 20, .bin .lss (.t 17) (.t 19) 0, none⟩])
   (.cond (.t 20) (.skip) (.exit 0)))
   (.seq (.block 1 (.seq (.seq (.reg [⟨some 23, .mv (.t 1), none⟩,
    ⟨some 24, .mv (.t 3), none⟩,
    ⟨some 25, .mv (.t 4), none⟩,
    ⟨some 26, .mv (.t 13), none⟩,
    ⟨some 27, .call 126 [.t 23, .t 24, .t 25, .t 26], none⟩,
    ⟨some 28, .un .not (.t 27), none⟩])
   (.cond (.t 28) (.exit 1) (.skip)))
   (.seq (.seq (.reg [⟨some 29, .mv (.t 12), none⟩,
    ⟨some 30, .bin .lss (.t 29) (.k (.int .i64 0)) 0, none⟩])
   (.cond (.t 30) (.reg [⟨some 31, .mv (.t 13), none⟩,
    ⟨some 12, .mv (.t 31), none⟩]) (.skip)))
   (.seq (.seq (.dreg [] [⟨some 32, .mv (.t 3), none⟩,
    ⟨some 33, .mv (.t 13), none⟩,
    ⟨some 34, .ix 2 (.t 32) (.t 33), none⟩,
    ⟨some 35, .fa (.t 34) 0, none⟩,
    ⟨some 36, .ld (.t 35) 1 false, none⟩,
    ⟨some 37, .mv (.t 1), none⟩,
    ⟨some 38, .mv (.t 2), none⟩,
    ⟨some 39, .mv (.t 0), none⟩,
    ⟨some 40, .kcall 127 [.t 37, .t 38, .t 39], none⟩,
    ⟨some 41, .bin .gtr (.t 36) (.t 40) 0, none⟩])
   (.cond (.t 41) (.exit 1) (.skip)))
   (.seq (.seq (.reg [⟨some 42, .mv (.t 13), none⟩,
    ⟨some 43, .mv (.t 12), none⟩,
    ⟨some 44, .bin .eql (.t 42) (.t 43) 0, none⟩])
   (.cond (.t 44) (.seq (.reg [⟨some 45, .mv (.t 13), none⟩,
    ⟨some 10, .mv (.t 45), none⟩,
    ⟨some 11, .mv (.k (.bool true)), none⟩])
   (.ret)) (.skip)))
   (.seq (.reg [⟨some 47, .mv (.t 0), none⟩,
    ⟨some 48, .mv (.t 1), none⟩,
    ⟨some 49, .mv (.t 2), none⟩,
    ⟨some 50, .mv (.t 3), none⟩,
    ⟨some 51, .mv (.t 12), none⟩,
    ⟨some 52, .ix 2 (.t 50) (.t 51), none⟩,
    ⟨some 53, .fa (.t 52) 0, none⟩,
    ⟨some 54, .ld (.t 53) 1 false, none⟩,
    ⟨some 55, .call 128 [.t 47, .t 48, .t 49, .t 54], none⟩,
    ⟨some 46, .mv (.t 55), none⟩,
    ⟨some 56, .ext (.t 46) 0, none⟩,
    ⟨some 57, .ext (.t 46) 1, none⟩,
    ⟨some 58, .ext (.t 46) 2, none⟩,
    ⟨some 14, .mv (.t 56), none⟩,
    ⟨some 15, .mv (.t 57), none⟩,
    ⟨some 16, .mv (.t 58), none⟩])
   (.seq (.reg [⟨some 59, .mv (.t 0), none⟩,
    ⟨some 60, .mv (.t 3), none⟩,
    ⟨some 61, .mv (.t 13), none⟩,
    ⟨some 62, .ix 2 (.t 60) (.t 61), none⟩,
    ⟨some 63, .fa (.t 62) 1, none⟩,
    ⟨some 64, .ld (.t 63) 1 false, none⟩,
    ⟨some 65, .bin .add (.t 59) (.t 64) 0, none⟩,
    ⟨some 66, .mv (.t 14), none⟩,
    ⟨some 67, .bin .leq (.t 65) (.t 66) 0, none⟩,
    ⟨some 68, .mv (.t 67), none⟩,
    ⟨some 69, .mv (.t 3), some (68, false)⟩,
    ⟨some 70, .mv (.t 13), some (68, false)⟩,
    ⟨some 71, .ix 2 (.t 69) (.t 70), some (68, false)⟩,
    ⟨some 72, .fa (.t 71) 0, some (68, false)⟩,
    ⟨some 73, .ld (.t 72) 1 false, some (68, false)⟩,
    ⟨some 74, .mv (.t 15), some (68, false)⟩,
    ⟨some 75, .bin .leq (.t 73) (.t 74) 0, some (68, false)⟩,
    ⟨some 76, .pick (.t 68) (.k (.bool true)) (.t 75), none⟩])
   (.cond (.t 76) (.seq (.reg [⟨some 77, .mv (.t 13), none⟩,
    ⟨some 10, .mv (.t 77), none⟩,
    ⟨some 11, .mv (.k (.bool true)), none⟩])
   (.ret)) (.skip)))))))))
   (.reg [⟨some 21, .mv (.t 13), none⟩,
    ⟨some 22, .bin .add (.t 21) (.k (.int .i64 1)) 0, none⟩,
    ⟨some 13, .mv (.t 22), none⟩]))))))
   (.seq (.reg [⟨some 10, .mv (.k (.int .i64 0)), none⟩,
    ⟨some 11, .mv (.k (.bool false)), none⟩])
   (.ret))))
def k77 : FCode := ⟨78, c77, [.tmp 10, .tmp 11], none⟩
def c78 : LCode := .seq (.reg [⟨some 2, .mv (.k (.ro 2 [] true)), none⟩])
   (.seq (.reg [⟨some 5, .mks 2 [], none⟩,
    ⟨some 3, .mv (.t 5), none⟩])
   (.seq (.seq (.reg [⟨some 4, .mv (.k (.int .i64 0)), none⟩])
   (.block 0 (.loop (.seq (.seq (.reg [⟨some 6, .mv (.t 4), none⟩,
    ⟨some 7, .mv (.t 0), none⟩,
    ⟨some 8, .len (.t 7) false, none⟩,
    ⟨some 9, .bin .lss (.t 6) (.t 8) 0, none⟩])
   (.cond (.t 9) (.skip) (.exit 0)))
   (.seq (.block 1 (.seq (.reg [⟨some 12, .mv (.t 0), none⟩,
    ⟨some 13, .mv (.t 4), none⟩,
    ⟨some 14, .ix 12 (.t 12) (.t 13), none⟩,
    ⟨some 15, .fa (.t 14) 7, none⟩,
    ⟨some 16, .ld (.t 15) 1 false, none⟩,
    ⟨some 17, .bin .eql (.t 16) (.k (.int .i64 3)) 0, none⟩])
   (.cond (.t 17) (.dreg [] [⟨some 18, .mv (.t 3), none⟩,
    ⟨some 19, .mv (.t 0), none⟩,
    ⟨some 20, .mv (.t 4), none⟩,
    ⟨some 21, .ix 12 (.t 19) (.t 20), none⟩,
    ⟨some 22, .fa (.t 21) 8, none⟩,
    ⟨some 23, .ld (.t 22) 1 false, none⟩,
    ⟨some 24, .mv (.t 0), none⟩,
    ⟨some 25, .mv (.t 4), none⟩,
    ⟨some 26, .ix 12 (.t 24) (.t 25), none⟩,
    ⟨some 27, .fa (.t 26) 3, none⟩,
    ⟨some 28, .ld (.t 27) 1 false, none⟩,
    ⟨some 29, .bin .add (.t 23) (.t 28) 0, none⟩,
    ⟨some 30, .mv (.t 0), none⟩,
    ⟨some 31, .mv (.t 4), none⟩,
    ⟨some 32, .ix 12 (.t 30) (.t 31), none⟩,
    ⟨some 33, .fa (.t 32) 2, none⟩,
    ⟨some 34, .ld (.t 33) 1 false, none⟩,
    ⟨some 35, .build [.int .i64 0, .int .i64 0] [(0, 1, .t 29), (1, 1, .t 34)], none⟩,
    ⟨some 36, .mks 2 [.t 35], none⟩,
    ⟨some 37, .app 2 16 (.t 18) (.t 36), none⟩,
    ⟨some 3, .mv (.t 37), none⟩]) (.skip))))
   (.reg [⟨some 10, .mv (.t 4), none⟩,
    ⟨some 11, .bin .add (.t 10) (.k (.int .i64 1)) 0, none⟩,
    ⟨some 4, .mv (.t 11), none⟩]))))))
   (.seq (.reg [⟨some 38, .mv (.t 3), none⟩,
    ⟨some 2, .mv (.t 38), none⟩])
   (.ret))))
def k78 : FCode := ⟨39, c78, [.tmp 2], none⟩
def c79 : LCode := .seq (.reg [⟨some 10, .mv (.k (.ro 1 [] true)), none⟩])
   (.seq (.reg [⟨some 19, .mks 3 [], none⟩,
    ⟨some 11, .mv (.t 19), none⟩])
   (.seq (.seq (.reg [⟨some 12, .mv (.k (.int .i64 0)), none⟩])
   (.block 0 (.loop (.seq (.seq (.reg [⟨some 20, .mv (.t 12), none⟩,
    ⟨some 21, .mv (.t 2), none⟩,
    ⟨some 22, .len (.t 21) false, none⟩,
    ⟨some 23, .bin .lss (.t 20) (.t 22) 0, none⟩])
   (.cond (.t 23) (.skip) (.exit 0)))
   (.seq (.block 1 (.seq (.reg [⟨some 26, .mv (.t 2), none⟩,
    ⟨some 27, .mv (.t 12), none⟩,
    ⟨some 28, .ix 2 (.t 26) (.t 27), none⟩,
    ⟨some 29, .fa (.t 28) 0, none⟩,
    ⟨some 30, .ld (.t 29) 1 false, none⟩,
    ⟨some 31, .mv (.t 0), none⟩,
    ⟨some 32, .bin .gtr (.t 30) (.t 31) 0, none⟩])
   (.cond (.t 32) (.dreg [] [⟨some 33, .mv (.t 11), none⟩,
    ⟨some 34, .mv (.t 0), none⟩,
    ⟨some 35, .mv (.t 2), none⟩,
    ⟨some 36, .mv (.t 12), none⟩,
    ⟨some 37, .ix 2 (.t 35) (.t 36), none⟩,
    ⟨some 38, .fa (.t 37) 0, none⟩,
    ⟨some 39, .ld (.t 38) 1 false, none⟩,
    ⟨some 40, .mv (.t 2), none⟩,
    ⟨some 41, .mv (.t 12), none⟩,
    ⟨some 42, .ix 2 (.t 40) (.t 41), none⟩,
    ⟨some 43, .fa (.t 42) 1, none⟩,
    ⟨some 44, .ld (.t 43) 1 false, none⟩,
    ⟨some 45, .build [.int .i64 0, .int .i64 0, .int .i64 0] [(0, 1, .t 34), (1, 1, .t 39), (2, 1, .t 44)], none⟩,
    ⟨some 46, .mks 3 [.t 45], none⟩,
    ⟨some 47, .app 3 24 (.t 33) (.t 46), none⟩,
    ⟨some 11, .mv (.t 47), none⟩]) (.skip))))
   (.reg [⟨some 24, .mv (.t 12), none⟩,
    ⟨some 25, .bin .add (.t 24) (.k (.int .i64 1)) 0, none⟩,
    ⟨some 12, .mv (.t 25), none⟩]))))))
   (.seq (.reg [⟨some 48, .mks 1 [], none⟩,
    ⟨some 13, .mv (.t 48), none⟩])
   (.seq (.seq (.reg [⟨some 14, .mv (.k (.int .i64 0)), none⟩])
   (.block 2 (.loop (.seq (.seq (.reg [⟨some 49, .mv (.t 14), none⟩,
    ⟨some 50, .mv (.t 3), none⟩,
    ⟨some 51, .len (.t 50) false, none⟩,
    ⟨some 52, .bin .lss (.t 49) (.t 51) 0, none⟩])
   (.cond (.t 52) (.skip) (.exit 2)))
   (.seq (.block 3 (.seq (.reg [⟨some 55, .mv (.t 3), none⟩,
    ⟨some 56, .mv (.t 14), none⟩,
    ⟨some 57, .ix 2 (.t 55) (.t 56), none⟩,
    ⟨some 58, .fa (.t 57) 1, none⟩,
    ⟨some 59, .ld (.t 58) 1 false, none⟩,
    ⟨some 15, .mv (.t 59), none⟩])
   (.seq (.seq (.reg [⟨some 60, .mv (.t 15), none⟩,
    ⟨some 61, .bin .lss (.t 60) (.k (.int .i64 1)) 0, none⟩])
   (.cond (.t 61) (.reg [⟨some 15, .mv (.k (.int .i64 1)), none⟩]) (.skip)))
   (.seq (.reg [⟨some 16, .mv (.k (.int .i64 (-1))), none⟩])
   (.seq (.seq (.reg [⟨some 17, .mv (.k (.int .i64 (-1))), none⟩])
   (.block 4 (.loop (.seq (.seq (.reg [⟨some 62, .mv (.t 17), none⟩,
    ⟨some 63, .mv (.t 11), none⟩,
    ⟨some 64, .len (.t 63) false, none⟩,
    ⟨some 65, .bin .lss (.t 62) (.t 64) 0, none⟩,
    ⟨some 66, .mv (.t 65), none⟩,
    ⟨some 67, .mv (.t 1), some (66, true)⟩,
    ⟨some 68, .mv (.t 3), some (66, true)⟩,
    ⟨some 69, .mv (.t 4), some (66, true)⟩,
    ⟨some 70, .mv (.t 14), some (66, true)⟩,
    ⟨some 71, .call 126 [.t 67, .t 68, .t 69, .t 70], some (66, true)⟩,
    ⟨some 72, .pick (.t 66) (.t 71) (.k (.bool false)), none⟩])
   (.cond (.t 72) (.skip) (.exit 4)))
   (.seq (.block 5 (.seq (.reg [⟨some 75, .mv (.t 0), none⟩,
    ⟨some 18, .mv (.t 75), none⟩])
   (.seq (.seq (.reg [⟨some 76, .mv (.t 17), none⟩,
    ⟨some 77, .bin .geq (.t 76) (.k (.int .i64 0)) 0, none⟩])
   (.cond (.t 77) (.reg [⟨some 78, .mv (.t 11), none⟩,
    ⟨some 79, .mv (.t 17), none⟩,
    ⟨some 80, .ix 3 (.t 78) (.t 79), none⟩,
    ⟨some 81, .fa (.t 80) 1, none⟩,
    ⟨some 82, .ld (.t 81) 1 false, none⟩,
    ⟨some 18, .mv (.t 82), none⟩]) (.skip)))
   (.seq (.reg [⟨some 83, .mv (.t 16), none⟩,
    ⟨some 84, .bin .lss (.t 83) (.k (.int .i64 0)) 0, none⟩,
    ⟨some 85, .mv (.t 84), none⟩,
    ⟨some 86, .mv (.t 18), some (85, false)⟩,
    ⟨some 87, .mv (.t 16), some (85, false)⟩,
    ⟨some 88, .bin .lss (.t 86) (.t 87) 0, some (85, false)⟩,
    ⟨some 89, .pick (.t 85) (.k (.bool true)) (.t 88), none⟩,
    ⟨some 90, .mv (.t 89), none⟩,
    ⟨some 91, .mv (.t 1), some (90, true)⟩,
    ⟨some 92, .mv (.t 11), some (90, true)⟩,
    ⟨some 93, .mv (.t 18), some (90, true)⟩,
    ⟨some 94, .mv (.t 15), some (90, true)⟩,
    ⟨some 95, .mv (.t 3), some (90, true)⟩,
    ⟨some 96, .mv (.t 14), some (90, true)⟩,
    ⟨some 97, .ix 2 (.t 95) (.t 96), some (90, true)⟩,
    ⟨some 98, .fa (.t 97) 0, some (90, true)⟩,
    ⟨some 99, .ld (.t 98) 1 false, some (90, true)⟩,
    ⟨some 100, .call 129 [.t 91, .t 92, .t 93, .t 94, .t 99], some (90, true)⟩,
    ⟨some 101, .pick (.t 90) (.t 100) (.k (.bool false)), none⟩])
   (.cond (.t 101) (.reg [⟨some 102, .mv (.t 18), none⟩,
    ⟨some 16, .mv (.t 102), none⟩]) (.skip))))))
   (.reg [⟨some 73, .mv (.t 17), none⟩,
    ⟨some 74, .bin .add (.t 73) (.k (.int .i64 1)) 0, none⟩,
    ⟨some 17, .mv (.t 74), none⟩]))))))
   (.seq (.reg [⟨some 103, .mv (.t 13), none⟩,
    ⟨some 104, .mv (.t 16), none⟩,
    ⟨some 105, .mks 1 [.t 104], none⟩,
    ⟨some 106, .app 1 8 (.t 103) (.t 105), none⟩,
    ⟨some 13, .mv (.t 106), none⟩])
   (.seq (.reg [⟨some 107, .mv (.t 16), none⟩,
    ⟨some 108, .bin .geq (.t 107) (.k (.int .i64 0)) 0, none⟩])
   (.cond (.t 108) (.reg [⟨some 109, .mv (.t 11), none⟩,
    ⟨some 110, .mv (.t 16), none⟩,
    ⟨some 111, .mv (.t 16), none⟩,
    ⟨some 112, .mv (.t 15), none⟩,
    ⟨some 113, .bin .add (.t 111) (.t 112) 0, none⟩,
    ⟨some 114, .mv (.t 3), none⟩,
    ⟨some 115, .mv (.t 14), none⟩,
    ⟨some 116, .ix 2 (.t 114) (.t 115), none⟩,
    ⟨some 117, .fa (.t 116) 0, none⟩,
    ⟨some 118, .ld (.t 117) 1 false, none⟩,
    ⟨some 119, .build [.int .i64 0, .int .i64 0, .int .i64 0] [(0, 1, .t 110), (1, 1, .t 113), (2, 1, .t 118)], none⟩,
    ⟨some 120, .mks 3 [.t 119], none⟩,
    ⟨some 121, .app 3 24 (.t 109) (.t 120), none⟩,
    ⟨some 11, .mv (.t 121), none⟩]) (.skip)))))))))
   (.reg [⟨some 53, .mv (.t 14), none⟩,
    ⟨some 54, .bin .add (.t 53) (.k (.int .i64 1)) 0, none⟩,
    ⟨some 14, .mv (.t 54), none⟩]))))))
   (.seq (.reg [⟨some 122, .mv (.t 13), none⟩,
    ⟨some 10, .mv (.t 122), none⟩])
   (.ret))))))
def k79 : FCode := ⟨123, c79, [.tmp 10], none⟩

end Go.Proofs.YtfhflogbffibiaaGreat
