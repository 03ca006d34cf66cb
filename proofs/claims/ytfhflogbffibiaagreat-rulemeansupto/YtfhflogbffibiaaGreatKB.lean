/-
  The abstract code of functions. Printed by my program.
-/
import Derived.Test.YtfhflogbffibiaaGreatVV
namespace Go.Proofs.YtfhflogbffibiaaGreat
open Go
set_option linter.unusedSimpArgs false
set_option linter.unusedVariables false

def c80 : LCode := .seq (.reg [⟨some 4, .mv (.k (.int .i64 0)), none⟩,
    ⟨some 5, .mv (.k (.bool false)), none⟩])
   (.seq (.seq (.reg [⟨some 9, .mv (.t 1), none⟩,
    ⟨some 10, .bin .lss (.t 9) (.k (.int .i64 0)) 0, none⟩,
    ⟨some 11, .mv (.t 10), none⟩,
    ⟨some 12, .mv (.t 1), some (11, false)⟩,
    ⟨some 13, .mv (.t 0), some (11, false)⟩,
    ⟨some 14, .call 130 [.t 13], some (11, false)⟩,
    ⟨some 15, .bin .gtr (.t 12) (.t 14) 0, some (11, false)⟩,
    ⟨some 16, .pick (.t 11) (.k (.bool true)) (.t 15), none⟩])
   (.cond (.t 16) (.seq (.reg [⟨some 4, .mv (.k (.int .i64 0)), none⟩,
    ⟨some 5, .mv (.k (.bool false)), none⟩])
   (.ret)) (.skip)))
   (.seq (.reg [⟨some 17, .mv (.t 0), none⟩,
    ⟨some 18, .conv .u32 (.t 17), none⟩,
    ⟨some 6, .mv (.t 18), none⟩,
    ⟨some 7, .mv (.k (.int .u32 0)), none⟩])
   (.seq (.seq (.reg [⟨some 19, .mv (.t 1), none⟩,
    ⟨some 20, .mv (.k (.int .i64 0)), none⟩])
   (.block 0 (.loop (.seq (.reg [⟨some 21, .bin .lss (.t 20) (.t 19) 0, none⟩])
   (.seq (.cond (.t 21) (.skip) (.exit 0))
   (.seq (.block 1 (.seq (.reg [⟨some 22, .mv (.t 6), none⟩,
    ⟨some 23, .mv (.t 6), none⟩,
    ⟨some 24, .un .neg (.t 23), none⟩,
    ⟨some 25, .bin .and (.t 22) (.t 24) 0, none⟩,
    ⟨some 8, .mv (.t 25), none⟩])
   (.seq (.reg [⟨some 26, .mv (.t 7), none⟩,
    ⟨some 27, .mv (.t 8), none⟩,
    ⟨some 28, .bin .or (.t 26) (.t 27) 0, none⟩,
    ⟨some 7, .mv (.t 28), none⟩])
   (.reg [⟨some 29, .mv (.t 6), none⟩,
    ⟨some 30, .mv (.t 8), none⟩,
    ⟨some 31, .bin .xor (.t 29) (.t 30) 0, none⟩,
    ⟨some 6, .mv (.t 31), none⟩]))))
   (.reg [⟨some 32, .bin .add (.t 20) (.k (.int .i64 1)) 0, none⟩,
    ⟨some 20, .mv (.t 32), none⟩])))))))
   (.seq (.reg [⟨some 33, .mv (.t 7), none⟩,
    ⟨some 34, .conv .i64 (.t 33), none⟩,
    ⟨some 4, .mv (.t 34), none⟩,
    ⟨some 5, .mv (.k (.bool true)), none⟩])
   (.ret)))))
def k80 : FCode := ⟨35, c80, [.tmp 4, .tmp 5], none⟩
def c81 : LCode := .seq (.reg [⟨some 2, .mv (.k (.int .i64 0)), none⟩])
   (.seq (.reg [⟨some 3, .mv (.t 0), none⟩,
    ⟨some 4, .mm false (.t 3) [.k (.int .i64 32)], none⟩,
    ⟨some 5, .mm true (.k (.int .i64 0)) [.t 4], none⟩,
    ⟨some 6, .bin .shl (.k (.int .i64 1)) (.t 5) 0, none⟩,
    ⟨some 7, .bin .sub (.t 6) (.k (.int .i64 1)) 0, none⟩,
    ⟨some 2, .mv (.t 7), none⟩])
   (.ret))
def k81 : FCode := ⟨8, c81, [.tmp 2], none⟩
def c82 : LCode := .seq (.reg [⟨some 2, .mv (.k (.int .i64 0)), none⟩])
   (.seq (.reg [⟨some 3, .mv (.k (.int .i64 0)), none⟩])
   (.seq (.seq (.reg [⟨some 6, .mv (.t 0), none⟩,
    ⟨some 7, .call 108 [.t 6], none⟩,
    ⟨some 8, .len (.t 7) false, none⟩,
    ⟨some 9, .mv (.k (.int .i64 0)), none⟩])
   (.block 0 (.loop (.seq (.reg [⟨some 10, .bin .lss (.t 9) (.t 8) 0, none⟩])
   (.seq (.cond (.t 10) (.skip) (.exit 0))
   (.seq (.block 1 (.seq (.reg [⟨some 11, .ix 12 (.t 7) (.t 9), none⟩,
    ⟨some 12, .ld (.t 11) 12 true, none⟩,
    ⟨some 5, .alloc [.int .i64 0, .int .i64 0, .int .i64 0, .int .i64 0, .int .i64 0, .int .i64 0, .int .i64 0, .int .i64 0, .int .i64 0, .int .i64 0, .int .i64 0, .ro 2 [] true], none⟩,
    ⟨none, .st (.t 5) (.t 12) 12, none⟩])
   (.reg [⟨some 13, .mv (.t 3), none⟩,
    ⟨some 14, .fa (.t 5) 9, none⟩,
    ⟨some 15, .ld (.t 14) 1 false, none⟩,
    ⟨some 16, .bin .or (.t 13) (.t 15) 0, none⟩,
    ⟨some 3, .mv (.t 16), none⟩])))
   (.reg [⟨some 17, .bin .add (.t 9) (.k (.int .i64 1)) 0, none⟩,
    ⟨some 9, .mv (.t 17), none⟩])))))))
   (.seq (.reg [⟨some 18, .mv (.t 3), none⟩,
    ⟨some 2, .mv (.t 18), none⟩])
   (.ret))))
def k82 : FCode := ⟨19, c82, [.tmp 2], none⟩
def c83 : LCode := .seq (.reg [⟨some 4, .mv (.k (.bool false)), none⟩])
   (.seq (.reg [⟨some 5, .mv (.t 0), none⟩,
    ⟨some 6, .mv (.t 1), none⟩,
    ⟨some 7, .conv .u64 (.t 6), none⟩,
    ⟨some 8, .bin .shr (.t 5) (.t 7) 0, none⟩,
    ⟨some 9, .bin .and (.t 8) (.k (.int .i64 1)) 0, none⟩,
    ⟨some 10, .bin .eql (.t 9) (.k (.int .i64 1)) 0, none⟩,
    ⟨some 4, .mv (.t 10), none⟩])
   (.ret))
def k83 : FCode := ⟨11, c83, [.tmp 4], none⟩
def c84 : LCode := .seq (.reg [⟨some 2, .mv (.k (.int .i64 0)), none⟩])
   (.seq (.reg [⟨some 3, .mv (.k (.int .i64 0)), none⟩])
   (.seq (.seq (.reg [⟨some 4, .mv (.k (.int .i64 0)), none⟩])
   (.block 0 (.loop (.seq (.seq (.reg [⟨some 5, .mv (.t 4), none⟩,
    ⟨some 6, .mv (.t 0), none⟩,
    ⟨some 7, .len (.t 6) false, none⟩,
    ⟨some 8, .bin .lss (.t 5) (.t 7) 0, none⟩])
   (.cond (.t 8) (.skip) (.exit 0)))
   (.seq (.block 1 (.seq (.reg [⟨some 11, .mv (.t 0), none⟩,
    ⟨some 12, .mv (.t 4), none⟩,
    ⟨some 13, .ix 12 (.t 11) (.t 12), none⟩,
    ⟨some 14, .fa (.t 13) 7, none⟩,
    ⟨some 15, .ld (.t 14) 1 false, none⟩,
    ⟨some 16, .bin .eql (.t 15) (.k (.int .i64 3)) 0, none⟩])
   (.cond (.t 16) (.reg [⟨some 17, .mv (.t 3), none⟩,
    ⟨some 18, .mv (.t 0), none⟩,
    ⟨some 19, .mv (.t 4), none⟩,
    ⟨some 20, .ix 12 (.t 18) (.t 19), none⟩,
    ⟨some 21, .fa (.t 20) 9, none⟩,
    ⟨some 22, .ld (.t 21) 1 false, none⟩,
    ⟨some 23, .bin .or (.t 17) (.t 22) 0, none⟩,
    ⟨some 3, .mv (.t 23), none⟩]) (.skip))))
   (.reg [⟨some 9, .mv (.t 4), none⟩,
    ⟨some 10, .bin .add (.t 9) (.k (.int .i64 1)) 0, none⟩,
    ⟨some 4, .mv (.t 10), none⟩]))))))
   (.seq (.reg [⟨some 24, .mv (.t 3), none⟩,
    ⟨some 2, .mv (.t 24), none⟩])
   (.ret))))
def k84 : FCode := ⟨25, c84, [.tmp 2], none⟩
def c85 : LCode := .seq (.reg [⟨some 4, .mv (.k (.int .i64 0)), none⟩,
    ⟨some 5, .mv (.k (.bool false)), none⟩])
   (.seq (.reg [⟨some 9, .mv (.t 1), none⟩,
    ⟨some 6, .mv (.k (.int .i64 0)), none⟩,
    ⟨some 7, .mv (.t 9), none⟩])
   (.seq (.seq (.reg [⟨some 8, .mv (.k (.int .i64 0)), none⟩])
   (.block 0 (.loop (.seq (.seq (.reg [⟨some 10, .mv (.t 8), none⟩,
    ⟨some 11, .bin .lss (.t 10) (.k (.int .i64 32)) 0, none⟩,
    ⟨some 12, .mv (.t 11), none⟩,
    ⟨some 13, .mv (.t 7), some (12, true)⟩,
    ⟨some 14, .bin .gtr (.t 13) (.k (.int .i64 0)) 0, some (12, true)⟩,
    ⟨some 15, .pick (.t 12) (.t 14) (.k (.bool false)), none⟩])
   (.cond (.t 15) (.skip) (.exit 0)))
   (.seq (.block 1 (.seq (.reg [⟨some 18, .mv (.t 0), none⟩,
    ⟨some 19, .mv (.t 8), none⟩,
    ⟨some 20, .call 83 [.t 18, .t 19], none⟩])
   (.cond (.t 20) (.seq (.reg [⟨some 21, .mv (.t 6), none⟩,
    ⟨some 22, .mv (.t 8), none⟩,
    ⟨some 23, .conv .u64 (.t 22), none⟩,
    ⟨some 24, .bin .shl (.k (.int .i64 1)) (.t 23) 0, none⟩,
    ⟨some 25, .bin .add (.t 21) (.t 24) 0, none⟩,
    ⟨some 6, .mv (.t 25), none⟩])
   (.reg [⟨some 26, .mv (.t 7), none⟩,
    ⟨some 27, .bin .sub (.t 26) (.k (.int .i64 1)) 0, none⟩,
    ⟨some 7, .mv (.t 27), none⟩])) (.skip))))
   (.reg [⟨some 16, .mv (.t 8), none⟩,
    ⟨some 17, .bin .add (.t 16) (.k (.int .i64 1)) 0, none⟩,
    ⟨some 8, .mv (.t 17), none⟩]))))))
   (.seq (.seq (.reg [⟨some 28, .mv (.t 7), none⟩,
    ⟨some 29, .bin .neq (.t 28) (.k (.int .i64 0)) 0, none⟩])
   (.cond (.t 29) (.seq (.reg [⟨some 4, .mv (.k (.int .i64 0)), none⟩,
    ⟨some 5, .mv (.k (.bool false)), none⟩])
   (.ret)) (.skip)))
   (.seq (.reg [⟨some 30, .mv (.t 6), none⟩,
    ⟨some 4, .mv (.t 30), none⟩,
    ⟨some 5, .mv (.k (.bool true)), none⟩])
   (.ret)))))
def k85 : FCode := ⟨31, c85, [.tmp 4, .tmp 5], none⟩
def c86 : LCode := .seq (.reg [⟨some 2, .mv (.k (.ro 12 [] true)), none⟩])
   (.seq (.seq (.reg [⟨some 3, .mv (.t 0), none⟩,
    ⟨some 4, .isnil (.t 3), none⟩])
   (.cond (.t 4) (.seq (.reg [⟨some 2, .mv (.k (.ro 12 [] true)), none⟩])
   (.ret)) (.skip)))
   (.seq (.reg [⟨some 5, .mks 12 [], none⟩,
    ⟨some 6, .mv (.t 0), none⟩,
    ⟨some 7, .app 12 112 (.t 5) (.t 6), none⟩,
    ⟨some 2, .mv (.t 7), none⟩])
   (.ret)))
def k86 : FCode := ⟨8, c86, [.tmp 2], some 12⟩
def c87 : LCode := .seq (.reg [⟨some 6, .mv (.k (.int .i64 0)), none⟩,
    ⟨some 7, .mv (.k (.int .i64 0)), none⟩])
   (.seq (.seq (.reg [⟨some 8, .mv (.t 0), none⟩,
    ⟨some 9, .bin .lss (.t 8) (.k (.int .i64 0)) 0, none⟩,
    ⟨some 10, .mv (.t 9), none⟩,
    ⟨some 11, .mv (.t 1), some (10, false)⟩,
    ⟨some 12, .bin .lss (.t 11) (.k (.int .i64 0)) 0, some (10, false)⟩,
    ⟨some 13, .pick (.t 10) (.k (.bool true)) (.t 12), none⟩,
    ⟨some 14, .mv (.t 13), none⟩,
    ⟨some 15, .mv (.t 2), some (14, false)⟩,
    ⟨some 16, .bin .lss (.t 15) (.k (.int .i64 0)) 0, some (14, false)⟩,
    ⟨some 17, .pick (.t 14) (.k (.bool true)) (.t 16), none⟩])
   (.cond (.t 17) (.seq (.reg [⟨some 6, .mv (.k (.int .i64 0)), none⟩,
    ⟨some 7, .mv (.k (.int .i64 1)), none⟩])
   (.ret)) (.skip)))
   (.seq (.reg [⟨some 18, .mv (.t 0), none⟩,
    ⟨some 19, .mv (.t 1), none⟩,
    ⟨some 20, .mv (.t 2), none⟩,
    ⟨some 21, .mks 1 [.t 18, .t 19, .t 20], none⟩,
    ⟨some 22, .call 131 [.t 21], none⟩,
    ⟨some 23, .ext (.t 22) 0, none⟩,
    ⟨some 24, .ext (.t 22) 1, none⟩,
    ⟨some 6, .mv (.t 23), none⟩,
    ⟨some 7, .mv (.t 24), none⟩])
   (.ret)))
def k87 : FCode := ⟨25, c87, [.tmp 6, .tmp 7], none⟩
def c88 : LCode := .seq (.reg [⟨some 10, .mv (.k (.ro 2 [] true)), none⟩,
    ⟨some 11, .mv (.k (.int .i64 0)), none⟩])
   (.seq (.reg [⟨some 18, .mv (.t 0), none⟩,
    ⟨some 19, .mv (.t 2), none⟩,
    ⟨some 20, .call 132 [.t 18, .t 19], none⟩,
    ⟨some 12, .mv (.t 20), none⟩])
   (.seq (.seq (.reg [⟨some 21, .mv (.t 12), none⟩,
    ⟨some 22, .len (.t 21) false, none⟩,
    ⟨some 23, .bin .eql (.t 22) (.k (.int .i64 0)) 0, none⟩])
   (.cond (.t 23) (.seq (.reg [⟨some 10, .mv (.k (.ro 2 [] true)), none⟩,
    ⟨some 11, .mv (.k (.int .i64 4)), none⟩])
   (.ret)) (.skip)))
   (.seq (.seq (.reg [⟨some 24, .mv (.t 3), none⟩,
    ⟨some 25, .bin .lss (.t 24) (.k (.int .i64 0)) 0, none⟩])
   (.cond (.t 25) (.seq (.reg [⟨some 10, .mv (.k (.ro 2 [] true)), none⟩,
    ⟨some 11, .mv (.k (.int .i64 1)), none⟩])
   (.ret)) (.skip)))
   (.seq (.reg [⟨some 26, .mks 2 [], none⟩,
    ⟨some 13, .mv (.t 26), none⟩])
   (.seq (.reg [⟨some 27, .mv (.t 1), none⟩,
    ⟨some 28, .len (.t 27) false, none⟩,
    ⟨some 29, .mkz 1 [.bool false] (.t 28) (.t 28), none⟩,
    ⟨some 14, .mv (.t 29), none⟩])
   (.seq (.seq (.reg [⟨some 15, .mv (.k (.int .i64 0)), none⟩])
   (.block 0 (.loop (.seq (.seq (.reg [⟨some 30, .mv (.t 15), none⟩,
    ⟨some 31, .mv (.t 12), none⟩,
    ⟨some 32, .len (.t 31) false, none⟩,
    ⟨some 33, .bin .lss (.t 30) (.t 32) 0, none⟩,
    ⟨some 34, .mv (.t 33), none⟩,
    ⟨some 35, .mv (.t 3), some (34, true)⟩,
    ⟨some 36, .bin .gtr (.t 35) (.k (.int .i64 0)) 0, some (34, true)⟩,
    ⟨some 37, .pick (.t 34) (.t 36) (.k (.bool false)), none⟩])
   (.cond (.t 37) (.skip) (.exit 0)))
   (.block 1 (.seq (.reg [⟨some 38, .mv (.t 1), none⟩,
    ⟨some 39, .mv (.t 12), none⟩,
    ⟨some 40, .mv (.t 15), none⟩,
    ⟨some 41, .ix 1 (.t 39) (.t 40), none⟩,
    ⟨some 42, .ld (.t 41) 1 false, none⟩,
    ⟨some 43, .mv (.t 4), none⟩,
    ⟨some 44, .mv (.t 14), none⟩,
    ⟨some 45, .call 133 [.t 38, .t 42, .t 43, .t 44], none⟩,
    ⟨some 16, .mv (.t 45), none⟩])
   (.seq (.seq (.reg [⟨some 46, .mv (.t 16), none⟩,
    ⟨some 47, .bin .lss (.t 46) (.k (.int .i64 0)) 0, none⟩])
   (.cond (.t 47) (.seq (.reg [⟨some 48, .mv (.t 15), none⟩,
    ⟨some 49, .bin .add (.t 48) (.k (.int .i64 1)) 0, none⟩,
    ⟨some 15, .mv (.t 49), none⟩])
   (.exit 1)) (.skip)))
   (.seq (.reg [⟨some 50, .mv (.t 14), none⟩,
    ⟨some 51, .mv (.t 16), none⟩,
    ⟨some 52, .ix 1 (.t 50) (.t 51), none⟩,
    ⟨none, .st (.t 52) (.k (.bool true)) 1, none⟩])
   (.seq (.reg [⟨some 53, .mv (.t 1), none⟩,
    ⟨some 54, .mv (.t 16), none⟩,
    ⟨some 55, .ix 6 (.t 53) (.t 54), none⟩,
    ⟨some 56, .fa (.t 55) 3, none⟩,
    ⟨some 57, .ld (.t 56) 1 false, none⟩,
    ⟨some 17, .mv (.t 57), none⟩])
   (.seq (.seq (.reg [⟨some 58, .mv (.t 17), none⟩,
    ⟨some 59, .mv (.t 3), none⟩,
    ⟨some 60, .bin .gtr (.t 58) (.t 59) 0, none⟩])
   (.cond (.t 60) (.reg [⟨some 61, .mv (.t 3), none⟩,
    ⟨some 17, .mv (.t 61), none⟩]) (.skip)))
   (.seq (.reg [⟨some 62, .mv (.t 13), none⟩,
    ⟨some 63, .mv (.t 16), none⟩,
    ⟨some 64, .mv (.t 17), none⟩,
    ⟨some 65, .build [.int .i64 0, .int .i64 0] [(0, 1, .t 63), (1, 1, .t 64)], none⟩,
    ⟨some 66, .mks 2 [.t 65], none⟩,
    ⟨some 67, .app 2 16 (.t 62) (.t 66), none⟩,
    ⟨some 13, .mv (.t 67), none⟩])
   (.reg [⟨some 68, .mv (.t 3), none⟩,
    ⟨some 69, .mv (.t 17), none⟩,
    ⟨some 70, .bin .sub (.t 68) (.t 69) 0, none⟩,
    ⟨some 3, .mv (.t 70), none⟩]))))))))))))
   (.seq (.seq (.reg [⟨some 71, .mv (.t 3), none⟩,
    ⟨some 72, .bin .gtr (.t 71) (.k (.int .i64 0)) 0, none⟩])
   (.cond (.t 72) (.seq (.reg [⟨some 10, .mv (.k (.ro 2 [] true)), none⟩,
    ⟨some 11, .mv (.k (.int .i64 7)), none⟩])
   (.ret)) (.skip)))
   (.seq (.reg [⟨some 73, .mv (.t 13), none⟩,
    ⟨some 10, .mv (.t 73), none⟩,
    ⟨some 11, .mv (.k (.int .i64 0)), none⟩])
   (.ret)))))))))
def k88 : FCode := ⟨74, c88, [.tmp 10, .tmp 11], none⟩
def c89 : LCode := .seq (.reg [⟨some 6, .mv (.k (.int .i64 0)), none⟩,
    ⟨some 7, .mv (.k (.ro 6 [] true)), none⟩,
    ⟨some 8, .mv (.k (.int .i64 0)), none⟩])
   (.seq (.reg [⟨some 21, .mv (.t 0), none⟩,
    ⟨some 22, .mv (.t 1), none⟩,
    ⟨some 23, .call 14 [.t 21, .t 22], none⟩,
    ⟨some 9, .mv (.t 23), none⟩])
   (.seq (.reg [⟨some 24, .mks 1 [], none⟩,
    ⟨some 10, .mv (.t 24), none⟩])
   (.seq (.seq (.reg [⟨some 11, .mv (.k (.int .i64 0)), none⟩])
   (.block 0 (.loop (.seq (.seq (.reg [⟨some 25, .mv (.t 11), none⟩,
    ⟨some 26, .mv (.t 2), none⟩,
    ⟨some 27, .len (.t 26) false, none⟩,
    ⟨some 28, .bin .lss (.t 25) (.t 27) 0, none⟩])
   (.cond (.t 28) (.skip) (.exit 0)))
   (.seq (.block 1 (.seq (.seq (.reg [⟨some 31, .mv (.t 2), none⟩,
    ⟨some 32, .mv (.t 11), none⟩,
    ⟨some 33, .ix 2 (.t 31) (.t 32), none⟩,
    ⟨some 34, .fa (.t 33) 0, none⟩,
    ⟨some 35, .ld (.t 34) 1 false, none⟩,
    ⟨some 36, .bin .lss (.t 35) (.k (.int .i64 0)) 0, none⟩,
    ⟨some 37, .mv (.t 36), none⟩,
    ⟨some 38, .mv (.t 2), some (37, false)⟩,
    ⟨some 39, .mv (.t 11), some (37, false)⟩,
    ⟨some 40, .ix 2 (.t 38) (.t 39), some (37, false)⟩,
    ⟨some 41, .fa (.t 40) 0, some (37, false)⟩,
    ⟨some 42, .ld (.t 41) 1 false, some (37, false)⟩,
    ⟨some 43, .mv (.t 9), some (37, false)⟩,
    ⟨some 44, .len (.t 43) false, some (37, false)⟩,
    ⟨some 45, .bin .geq (.t 42) (.t 44) 0, some (37, false)⟩,
    ⟨some 46, .pick (.t 37) (.k (.bool true)) (.t 45), none⟩])
   (.cond (.t 46) (.seq (.reg [⟨some 6, .mv (.k (.int .i64 0)), none⟩,
    ⟨some 7, .mv (.k (.ro 6 [] true)), none⟩,
    ⟨some 8, .mv (.k (.int .i64 4)), none⟩])
   (.ret)) (.skip)))
   (.seq (.seq (.reg [⟨some 47, .mv (.t 2), none⟩,
    ⟨some 48, .mv (.t 11), none⟩,
    ⟨some 49, .ix 2 (.t 47) (.t 48), none⟩,
    ⟨some 50, .fa (.t 49) 1, none⟩,
    ⟨some 51, .ld (.t 50) 1 false, none⟩,
    ⟨some 52, .bin .eql (.t 51) (.k (.int .i64 0)) 0, none⟩])
   (.cond (.t 52) (.seq (.reg [⟨some 6, .mv (.k (.int .i64 0)), none⟩,
    ⟨some 7, .mv (.k (.ro 6 [] true)), none⟩,
    ⟨some 8, .mv (.k (.int .i64 3)), none⟩])
   (.ret)) (.skip)))
   (.reg [⟨some 53, .mv (.t 10), none⟩,
    ⟨some 54, .mv (.t 2), none⟩,
    ⟨some 55, .mv (.t 11), none⟩,
    ⟨some 56, .ix 2 (.t 54) (.t 55), none⟩,
    ⟨some 57, .fa (.t 56) 1, none⟩,
    ⟨some 58, .ld (.t 57) 1 false, none⟩,
    ⟨some 59, .mks 1 [.t 58], none⟩,
    ⟨some 60, .app 1 8 (.t 53) (.t 59), none⟩,
    ⟨some 10, .mv (.t 60), none⟩]))))
   (.reg [⟨some 29, .mv (.t 11), none⟩,
    ⟨some 30, .bin .add (.t 29) (.k (.int .i64 1)) 0, none⟩,
    ⟨some 11, .mv (.t 30), none⟩]))))))
   (.seq (.seq (.reg [⟨some 61, .mv (.t 2), none⟩,
    ⟨some 62, .len (.t 61) false, none⟩,
    ⟨some 63, .bin .lss (.t 62) (.k (.int .i64 1)) 0, none⟩,
    ⟨some 64, .mv (.t 63), none⟩,
    ⟨some 65, .mv (.t 2), some (64, false)⟩,
    ⟨some 66, .len (.t 65) false, some (64, false)⟩,
    ⟨some 67, .bin .gtr (.t 66) (.k (.int .i64 64)) 0, some (64, false)⟩,
    ⟨some 68, .pick (.t 64) (.k (.bool true)) (.t 67), none⟩])
   (.cond (.t 68) (.seq (.reg [⟨some 6, .mv (.k (.int .i64 0)), none⟩,
    ⟨some 7, .mv (.k (.ro 6 [] true)), none⟩,
    ⟨some 8, .mv (.k (.int .i64 3)), none⟩])
   (.ret)) (.skip)))
   (.seq (.seq (.reg [⟨some 70, .mv (.t 10), none⟩,
    ⟨some 71, .call 134 [.t 70], none⟩,
    ⟨some 69, .mv (.t 71), none⟩,
    ⟨some 72, .ext (.t 69) 0, none⟩,
    ⟨some 73, .ext (.t 69) 1, none⟩,
    ⟨some 12, .mv (.t 72), none⟩,
    ⟨some 13, .mv (.t 73), none⟩])
   (.seq (.reg [⟨some 74, .mv (.t 13), none⟩,
    ⟨some 75, .bin .neq (.t 74) (.k (.int .i64 0)) 0, none⟩])
   (.cond (.t 75) (.seq (.reg [⟨some 76, .mv (.t 13), none⟩,
    ⟨some 6, .mv (.k (.int .i64 0)), none⟩,
    ⟨some 7, .mv (.k (.ro 6 [] true)), none⟩,
    ⟨some 8, .mv (.t 76), none⟩])
   (.ret)) (.seq (.reg [⟨some 77, .mv (.t 12), none⟩,
    ⟨some 78, .bin .neq (.t 77) (.k (.int .i64 0)) 0, none⟩])
   (.cond (.t 78) (.seq (.reg [⟨some 6, .mv (.k (.int .i64 0)), none⟩,
    ⟨some 7, .mv (.k (.ro 6 [] true)), none⟩,
    ⟨some 8, .mv (.k (.int .i64 3)), none⟩])
   (.ret)) (.skip))))))
   (.seq (.seq (.reg [⟨some 14, .mv (.k (.int .i64 0)), none⟩])
   (.block 2 (.loop (.seq (.seq (.reg [⟨some 79, .mv (.t 14), none⟩,
    ⟨some 80, .mv (.t 9), none⟩,
    ⟨some 81, .len (.t 80) false, none⟩,
    ⟨some 82, .bin .lss (.t 79) (.t 81) 0, none⟩])
   (.cond (.t 82) (.skip) (.exit 2)))
   (.seq (.block 3 (.seq (.reg [⟨some 85, .mv (.t 9), none⟩,
    ⟨some 86, .mv (.t 14), none⟩,
    ⟨some 87, .ix 1 (.t 85) (.t 86), none⟩,
    ⟨some 88, .ld (.t 87) 1 false, none⟩,
    ⟨some 89, .mks 1 [.t 88], none⟩,
    ⟨some 15, .mv (.t 89), none⟩])
   (.seq (.seq (.reg [⟨some 16, .mv (.k (.int .i64 0)), none⟩])
   (.block 4 (.loop (.seq (.seq (.reg [⟨some 90, .mv (.t 16), none⟩,
    ⟨some 91, .mv (.t 2), none⟩,
    ⟨some 92, .len (.t 91) false, none⟩,
    ⟨some 93, .bin .lss (.t 90) (.t 92) 0, none⟩])
   (.cond (.t 93) (.skip) (.exit 4)))
   (.seq (.block 5 (.seq (.reg [⟨some 96, .mv (.t 2), none⟩,
    ⟨some 97, .mv (.t 16), none⟩,
    ⟨some 98, .ix 2 (.t 96) (.t 97), none⟩,
    ⟨some 99, .fa (.t 98) 0, none⟩,
    ⟨some 100, .ld (.t 99) 1 false, none⟩,
    ⟨some 101, .mv (.t 14), none⟩,
    ⟨some 102, .bin .eql (.t 100) (.t 101) 0, none⟩])
   (.cond (.t 102) (.reg [⟨some 103, .mv (.t 15), none⟩,
    ⟨some 104, .mv (.t 2), none⟩,
    ⟨some 105, .mv (.t 16), none⟩,
    ⟨some 106, .ix 2 (.t 104) (.t 105), none⟩,
    ⟨some 107, .fa (.t 106) 1, none⟩,
    ⟨some 108, .ld (.t 107) 1 false, none⟩,
    ⟨some 109, .mks 1 [.t 108], none⟩,
    ⟨some 110, .app 1 8 (.t 103) (.t 109), none⟩,
    ⟨some 15, .mv (.t 110), none⟩]) (.skip))))
   (.reg [⟨some 94, .mv (.t 16), none⟩,
    ⟨some 95, .bin .add (.t 94) (.k (.int .i64 1)) 0, none⟩,
    ⟨some 16, .mv (.t 95), none⟩]))))))
   (.seq (.seq (.reg [⟨some 111, .mv (.t 15), none⟩,
    ⟨some 112, .len (.t 111) false, none⟩,
    ⟨some 113, .bin .eql (.t 112) (.k (.int .i64 1)) 0, none⟩])
   (.cond (.t 113) (.exit 3) (.skip)))
   (.seq (.reg [⟨some 115, .mv (.t 15), none⟩,
    ⟨some 116, .call 134 [.t 115], none⟩,
    ⟨some 114, .mv (.t 116), none⟩,
    ⟨some 117, .ext (.t 114) 0, none⟩,
    ⟨some 118, .ext (.t 114) 1, none⟩,
    ⟨some 17, .mv (.t 117), none⟩,
    ⟨some 18, .mv (.t 118), none⟩])
   (.seq (.seq (.reg [⟨some 119, .mv (.t 18), none⟩,
    ⟨some 120, .bin .neq (.t 119) (.k (.int .i64 0)) 0, none⟩])
   (.cond (.t 120) (.seq (.reg [⟨some 121, .mv (.t 18), none⟩,
    ⟨some 6, .mv (.k (.int .i64 0)), none⟩,
    ⟨some 7, .mv (.k (.ro 6 [] true)), none⟩,
    ⟨some 8, .mv (.t 121), none⟩])
   (.ret)) (.skip)))
   (.seq (.seq (.reg [⟨some 122, .mv (.t 14), none⟩,
    ⟨some 123, .bin .eql (.t 122) (.k (.int .i64 0)) 0, none⟩,
    ⟨some 124, .mv (.t 123), none⟩,
    ⟨some 125, .mv (.t 17), some (124, true)⟩,
    ⟨some 126, .bin .gtr (.t 125) (.k (.int .i64 0)) 0, some (124, true)⟩,
    ⟨some 127, .pick (.t 124) (.t 126) (.k (.bool false)), none⟩,
    ⟨some 128, .mv (.t 127), none⟩,
    ⟨some 129, .mv (.t 14), some (128, false)⟩,
    ⟨some 130, .bin .gtr (.t 129) (.k (.int .i64 0)) 0, some (128, false)⟩,
    ⟨some 131, .mv (.t 130), some (128, false)⟩,
    ⟨some 132, .mv (.t 17), some (131, true)⟩,
    ⟨some 133, .bin .lss (.t 132) (.k (.int .i64 0)) 0, some (131, true)⟩,
    ⟨some 134, .pick (.t 131) (.t 133) (.k (.bool false)), some (128, false)⟩,
    ⟨some 135, .pick (.t 128) (.k (.bool true)) (.t 134), none⟩])
   (.cond (.t 135) (.seq (.reg [⟨some 6, .mv (.k (.int .i64 0)), none⟩,
    ⟨some 7, .mv (.k (.ro 6 [] true)), none⟩,
    ⟨some 8, .mv (.k (.int .i64 7)), none⟩])
   (.ret)) (.skip)))
   (.reg [⟨some 136, .mv (.t 9), none⟩,
    ⟨some 137, .mv (.t 14), none⟩,
    ⟨some 138, .mv (.t 17), none⟩,
    ⟨some 139, .ix 1 (.t 136) (.t 137), none⟩,
    ⟨none, .st (.t 139) (.t 138) 1, none⟩]))))))))
   (.reg [⟨some 83, .mv (.t 14), none⟩,
    ⟨some 84, .bin .add (.t 83) (.k (.int .i64 1)) 0, none⟩,
    ⟨some 14, .mv (.t 84), none⟩]))))))
   (.seq (.reg [⟨some 140, .mks 6 [], none⟩,
    ⟨some 141, .mv (.t 1), none⟩,
    ⟨some 142, .app 6 48 (.t 140) (.t 141), none⟩,
    ⟨some 19, .mv (.t 142), none⟩])
   (.seq (.seq (.reg [⟨some 20, .mv (.k (.int .i64 0)), none⟩])
   (.block 6 (.loop (.seq (.seq (.reg [⟨some 143, .mv (.t 20), none⟩,
    ⟨some 144, .mv (.t 19), none⟩,
    ⟨some 145, .len (.t 144) false, none⟩,
    ⟨some 146, .bin .lss (.t 143) (.t 145) 0, none⟩])
   (.cond (.t 146) (.skip) (.exit 6)))
   (.seq (.block 7 (.dreg [] [⟨some 149, .mv (.t 19), none⟩,
    ⟨some 150, .mv (.t 20), none⟩,
    ⟨some 151, .mv (.t 19), none⟩,
    ⟨some 152, .mv (.t 20), none⟩,
    ⟨some 153, .mv (.t 19), none⟩,
    ⟨some 154, .mv (.t 20), none⟩,
    ⟨some 155, .mv (.t 9), none⟩,
    ⟨some 156, .mv (.t 20), none⟩,
    ⟨some 157, .bin .mul (.k (.int .i64 3)) (.t 156) 0, none⟩,
    ⟨some 158, .bin .add (.k (.int .i64 1)) (.t 157) 0, none⟩,
    ⟨some 159, .ix 1 (.t 155) (.t 158), none⟩,
    ⟨some 160, .ld (.t 159) 1 false, none⟩,
    ⟨some 161, .mv (.t 9), none⟩,
    ⟨some 162, .mv (.t 20), none⟩,
    ⟨some 163, .bin .mul (.k (.int .i64 3)) (.t 162) 0, none⟩,
    ⟨some 164, .bin .add (.k (.int .i64 2)) (.t 163) 0, none⟩,
    ⟨some 165, .ix 1 (.t 161) (.t 164), none⟩,
    ⟨some 166, .ld (.t 165) 1 false, none⟩,
    ⟨some 167, .mv (.t 9), none⟩,
    ⟨some 168, .mv (.t 20), none⟩,
    ⟨some 169, .bin .mul (.k (.int .i64 3)) (.t 168) 0, none⟩,
    ⟨some 170, .bin .add (.k (.int .i64 3)) (.t 169) 0, none⟩,
    ⟨some 171, .ix 1 (.t 167) (.t 170), none⟩,
    ⟨some 172, .ld (.t 171) 1 false, none⟩,
    ⟨some 173, .ix 6 (.t 149) (.t 150), none⟩,
    ⟨some 174, .fa (.t 173) 3, none⟩,
    ⟨none, .st (.t 174) (.t 160) 1, none⟩,
    ⟨some 175, .ix 6 (.t 151) (.t 152), none⟩,
    ⟨some 176, .fa (.t 175) 4, none⟩,
    ⟨none, .st (.t 176) (.t 166) 1, none⟩,
    ⟨some 177, .ix 6 (.t 153) (.t 154), none⟩,
    ⟨some 178, .fa (.t 177) 5, none⟩,
    ⟨none, .st (.t 178) (.t 172) 1, none⟩]))
   (.reg [⟨some 147, .mv (.t 20), none⟩,
    ⟨some 148, .bin .add (.t 147) (.k (.int .i64 1)) 0, none⟩,
    ⟨some 20, .mv (.t 148), none⟩]))))))
   (.seq (.reg [⟨some 179, .mv (.t 9), none⟩,
    ⟨some 180, .ix 1 (.t 179) (.k (.int .i64 0)), none⟩,
    ⟨some 181, .ld (.t 180) 1 false, none⟩,
    ⟨some 182, .mv (.t 19), none⟩,
    ⟨some 6, .mv (.t 181), none⟩,
    ⟨some 7, .mv (.t 182), none⟩,
    ⟨some 8, .mv (.k (.int .i64 0)), none⟩])
   (.ret))))))))))
def k89 : FCode := ⟨183, c89, [.tmp 6, .tmp 7, .tmp 8], none⟩
def c90 : LCode := .seq (.reg [⟨some 10, .mv (.k (.ro 2 [] true)), none⟩])
   (.seq (.reg [⟨some 16, .mks 2 [], none⟩,
    ⟨some 11, .mv (.t 16), none⟩])
   (.seq (.seq (.reg [⟨some 12, .mv (.k (.int .i64 0)), none⟩])
   (.block 0 (.loop (.seq (.seq (.reg [⟨some 17, .mv (.t 12), none⟩,
    ⟨some 18, .mv (.t 0), none⟩,
    ⟨some 19, .len (.t 18) false, none⟩,
    ⟨some 20, .bin .lss (.t 17) (.t 19) 0, none⟩])
   (.cond (.t 20) (.skip) (.exit 0)))
   (.seq (.block 1 (.seq (.dreg [] [⟨some 23, .mv (.t 0), none⟩,
    ⟨some 24, .mv (.t 12), none⟩,
    ⟨some 25, .ix 2 (.t 23) (.t 24), none⟩,
    ⟨some 26, .fa (.t 25) 0, none⟩,
    ⟨some 27, .ld (.t 26) 1 false, none⟩,
    ⟨some 28, .mv (.t 0), none⟩,
    ⟨some 29, .mv (.t 12), none⟩,
    ⟨some 30, .ix 2 (.t 28) (.t 29), none⟩,
    ⟨some 31, .fa (.t 30) 1, none⟩,
    ⟨some 32, .ld (.t 31) 1 false, none⟩,
    ⟨some 13, .mv (.t 27), none⟩,
    ⟨some 14, .mv (.t 32), none⟩])
   (.seq (.seq (.reg [⟨some 33, .mv (.t 14), none⟩,
    ⟨some 34, .bin .eql (.t 33) (.k (.int .i64 0)) 0, none⟩])
   (.cond (.t 34) (.exit 1) (.skip)))
   (.seq (.reg [⟨some 35, .mv (.t 1), none⟩,
    ⟨some 36, .mv (.t 12), none⟩,
    ⟨some 37, .ix 2 (.t 35) (.t 36), none⟩,
    ⟨some 38, .fa (.t 37) 1, none⟩,
    ⟨some 39, .ld (.t 38) 1 false, none⟩,
    ⟨some 15, .mv (.t 39), none⟩])
   (.seq (.reg [⟨some 40, .mv (.t 11), none⟩,
    ⟨some 41, .mv (.t 2), none⟩,
    ⟨some 42, .mv (.t 13), none⟩,
    ⟨some 43, .bin .mul (.k (.int .i64 3)) (.t 42) 0, none⟩,
    ⟨some 44, .bin .add (.t 41) (.t 43) 0, none⟩,
    ⟨some 45, .mv (.t 14), none⟩,
    ⟨some 46, .un .neg (.t 45), none⟩,
    ⟨some 47, .build [.int .i64 0, .int .i64 0] [(0, 1, .t 44), (1, 1, .t 46)], none⟩,
    ⟨some 48, .mks 2 [.t 47], none⟩,
    ⟨some 49, .app 2 16 (.t 40) (.t 48), none⟩,
    ⟨some 11, .mv (.t 49), none⟩])
   (.seq (.seq (.reg [⟨some 50, .mv (.t 15), none⟩,
    ⟨some 51, .bin .neq (.t 50) (.k (.int .i64 0)) 0, none⟩])
   (.cond (.t 51) (.reg [⟨some 52, .mv (.t 11), none⟩,
    ⟨some 53, .mv (.t 3), none⟩,
    ⟨some 54, .mv (.t 13), none⟩,
    ⟨some 55, .bin .mul (.k (.int .i64 3)) (.t 54) 0, none⟩,
    ⟨some 56, .bin .add (.t 53) (.t 55) 0, none⟩,
    ⟨some 57, .mv (.t 15), none⟩,
    ⟨some 58, .build [.int .i64 0, .int .i64 0] [(0, 1, .t 56), (1, 1, .t 57)], none⟩,
    ⟨some 59, .mks 2 [.t 58], none⟩,
    ⟨some 60, .app 2 16 (.t 52) (.t 59), none⟩,
    ⟨some 11, .mv (.t 60), none⟩]) (.skip)))
   (.seq (.reg [⟨some 61, .mv (.t 14), none⟩,
    ⟨some 62, .mv (.t 15), none⟩,
    ⟨some 63, .bin .sub (.t 61) (.t 62) 0, none⟩,
    ⟨some 64, .bin .neq (.t 63) (.k (.int .i64 0)) 0, none⟩])
   (.cond (.t 64) (.reg [⟨some 65, .mv (.t 11), none⟩,
    ⟨some 66, .mv (.t 4), none⟩,
    ⟨some 67, .mv (.t 13), none⟩,
    ⟨some 68, .bin .mul (.k (.int .i64 3)) (.t 67) 0, none⟩,
    ⟨some 69, .bin .add (.t 66) (.t 68) 0, none⟩,
    ⟨some 70, .mv (.t 14), none⟩,
    ⟨some 71, .mv (.t 15), none⟩,
    ⟨some 72, .bin .sub (.t 70) (.t 71) 0, none⟩,
    ⟨some 73, .build [.int .i64 0, .int .i64 0] [(0, 1, .t 69), (1, 1, .t 72)], none⟩,
    ⟨some 74, .mks 2 [.t 73], none⟩,
    ⟨some 75, .app 2 16 (.t 65) (.t 74), none⟩,
    ⟨some 11, .mv (.t 75), none⟩]) (.skip)))))))))
   (.reg [⟨some 21, .mv (.t 12), none⟩,
    ⟨some 22, .bin .add (.t 21) (.k (.int .i64 1)) 0, none⟩,
    ⟨some 12, .mv (.t 22), none⟩]))))))
   (.seq (.reg [⟨some 76, .mv (.t 11), none⟩,
    ⟨some 10, .mv (.t 76), none⟩])
   (.ret))))
def k90 : FCode := ⟨77, c90, [.tmp 10], none⟩
def c91 : LCode := .seq (.reg [⟨some 4, .mv (.k (.int .i64 0)), none⟩])
   (.seq (.seq (.reg [⟨some 5, .mv (.k (.int .i64 0)), none⟩])
   (.block 0 (.loop (.seq (.seq (.reg [⟨some 8, .mv (.t 5), none⟩,
    ⟨some 9, .mv (.t 0), none⟩,
    ⟨some 10, .len (.t 9) false, none⟩,
    ⟨some 11, .bin .lss (.t 8) (.t 10) 0, none⟩])
   (.cond (.t 11) (.skip) (.exit 0)))
   (.seq (.block 1 (.seq (.reg [⟨some 15, .mv (.t 0), none⟩,
    ⟨some 16, .mv (.t 1), none⟩,
    ⟨some 17, .mv (.t 5), none⟩,
    ⟨some 18, .call 135 [.t 15, .t 16, .t 17], none⟩,
    ⟨some 14, .mv (.t 18), none⟩,
    ⟨some 19, .ext (.t 14) 0, none⟩,
    ⟨some 20, .ext (.t 14) 1, none⟩,
    ⟨some 6, .mv (.t 19), none⟩,
    ⟨some 7, .mv (.t 20), none⟩])
   (.seq (.reg [⟨some 21, .mv (.t 0), none⟩,
    ⟨some 22, .mv (.t 5), none⟩,
    ⟨some 23, .ix 3 (.t 21) (.t 22), none⟩,
    ⟨some 24, .fa (.t 23) 2, none⟩,
    ⟨some 25, .ld (.t 24) 1 false, none⟩,
    ⟨some 26, .bin .gtr (.t 25) (.k (.int .i64 0)) 0, none⟩,
    ⟨some 27, .mv (.t 26), none⟩,
    ⟨some 28, .mv (.t 7), some (27, true)⟩,
    ⟨some 29, .bin .neq (.t 28) (.k (.int .i64 0)) 0, some (27, true)⟩,
    ⟨some 30, .mv (.t 29), some (27, true)⟩,
    ⟨some 31, .mv (.t 6), some (30, false)⟩,
    ⟨some 32, .mv (.t 0), some (30, false)⟩,
    ⟨some 33, .mv (.t 5), some (30, false)⟩,
    ⟨some 34, .ix 3 (.t 32) (.t 33), some (30, false)⟩,
    ⟨some 35, .fa (.t 34) 2, some (30, false)⟩,
    ⟨some 36, .ld (.t 35) 1 false, some (30, false)⟩,
    ⟨some 37, .bin .gtr (.t 31) (.t 36) 0, some (30, false)⟩,
    ⟨some 38, .pick (.t 30) (.k (.bool true)) (.t 37), some (27, true)⟩,
    ⟨some 39, .pick (.t 27) (.t 38) (.k (.bool false)), none⟩])
   (.cond (.t 39) (.seq (.reg [⟨some 40, .mv (.t 5), none⟩,
    ⟨some 4, .mv (.t 40), none⟩])
   (.ret)) (.skip)))))
   (.reg [⟨some 12, .mv (.t 5), none⟩,
    ⟨some 13, .bin .add (.t 12) (.k (.int .i64 1)) 0, none⟩,
    ⟨some 5, .mv (.t 13), none⟩]))))))
   (.seq (.reg [⟨some 4, .mv (.k (.int .i64 (-1))), none⟩])
   (.ret)))
def k91 : FCode := ⟨41, c91, [.tmp 4], none⟩
def c92 : LCode := .seq (.reg [⟨some 1, .box (.t 0), none⟩,
    ⟨some 2, .alloc [.int .i64 0, .int .i64 0, .int .i64 0, .ro 3 [] true, .ro 6 [] true, .ro 3 [] true, .ro 12 [] true, .ro 1 [] true], none⟩])
   (.seq (.dreg [] [⟨some 4, .fa (.t 1) 3, none⟩,
    ⟨some 5, .ld (.t 4) 1 false, none⟩,
    ⟨some 6, .kcall 136 [.t 5], none⟩,
    ⟨some 7, .fa (.t 1) 4, none⟩,
    ⟨some 8, .ld (.t 7) 1 false, none⟩,
    ⟨some 9, .kcall 137 [.t 8], none⟩,
    ⟨some 10, .fa (.t 1) 5, none⟩,
    ⟨some 11, .ld (.t 10) 1 false, none⟩,
    ⟨some 12, .kcall 138 [.t 11], none⟩,
    ⟨some 13, .fa (.t 1) 6, none⟩,
    ⟨some 14, .ld (.t 13) 1 false, none⟩,
    ⟨some 15, .kcall 139 [.t 14], none⟩,
    ⟨some 16, .fa (.t 1) 7, none⟩,
    ⟨some 17, .ld (.t 16) 1 false, none⟩,
    ⟨some 18, .call 140 [.t 17], none⟩,
    ⟨some 19, .fa (.t 1) 3, none⟩,
    ⟨none, .st (.t 19) (.t 6) 1, none⟩,
    ⟨some 20, .fa (.t 1) 4, none⟩,
    ⟨none, .st (.t 20) (.t 9) 1, none⟩,
    ⟨some 21, .fa (.t 1) 5, none⟩,
    ⟨none, .st (.t 21) (.t 12) 1, none⟩,
    ⟨some 22, .fa (.t 1) 6, none⟩,
    ⟨none, .st (.t 22) (.t 15) 1, none⟩,
    ⟨some 23, .fa (.t 1) 7, none⟩,
    ⟨none, .st (.t 23) (.t 18) 1, none⟩])
   (.seq (.seq (.reg [⟨some 24, .fa (.t 1) 6, none⟩,
    ⟨some 25, .ld (.t 24) 1 false, none⟩,
    ⟨some 26, .len (.t 25) false, none⟩,
    ⟨some 27, .mv (.k (.int .i64 0)), none⟩])
   (.block 0 (.loop (.seq (.reg [⟨some 28, .bin .lss (.t 27) (.t 26) 0, none⟩])
   (.seq (.cond (.t 28) (.skip) (.exit 0))
   (.seq (.block 1 (.seq (.reg [⟨some 29, .mv (.t 27), none⟩,
    ⟨some 3, .mv (.t 29), none⟩])
   (.dreg [] [⟨some 30, .fa (.t 1) 6, none⟩,
    ⟨some 31, .ld (.t 30) 1 false, none⟩,
    ⟨some 32, .mv (.t 3), none⟩,
    ⟨some 33, .fa (.t 1) 6, none⟩,
    ⟨some 34, .ld (.t 33) 1 false, none⟩,
    ⟨some 35, .mv (.t 3), none⟩,
    ⟨some 36, .ix 12 (.t 34) (.t 35), none⟩,
    ⟨some 37, .fa (.t 36) 11, none⟩,
    ⟨some 38, .ld (.t 37) 1 false, none⟩,
    ⟨some 39, .kcall 141 [.t 38], none⟩,
    ⟨some 40, .ix 12 (.t 31) (.t 32), none⟩,
    ⟨some 41, .fa (.t 40) 11, none⟩,
    ⟨none, .st (.t 41) (.t 39) 1, none⟩])))
   (.reg [⟨some 42, .bin .add (.t 27) (.k (.int .i64 1)) 0, none⟩,
    ⟨some 27, .mv (.t 42), none⟩])))))))
   (.seq (.reg [⟨some 43, .ld (.t 1) 8 true, none⟩,
    ⟨none, .st (.t 2) (.t 43) 8, none⟩])
   (.ret))))
def k92 : FCode := ⟨44, c92, [.cell 2 8 true], none⟩
def c93 : LCode := .seq (.reg [⟨some 1, .box (.t 0), none⟩,
    ⟨some 2, .mv (.k (.bool false)), none⟩])
   (.seq (.reg [⟨some 4, .fa (.t 1) 2, none⟩,
    ⟨some 5, .ld (.t 4) 1 false, none⟩,
    ⟨some 6, .bin .leq (.t 5) (.k (.int .i64 7)) 0, none⟩,
    ⟨some 7, .mv (.t 6), none⟩,
    ⟨some 8, .fa (.t 1) 2, some (7, false)⟩,
    ⟨some 9, .ld (.t 8) 1 false, some (7, false)⟩,
    ⟨some 10, .bin .eql (.t 9) (.k (.int .i64 13)) 0, some (7, false)⟩,
    ⟨some 11, .pick (.t 7) (.k (.bool true)) (.t 10), none⟩,
    ⟨some 3, .mv (.t 11), none⟩])
   (.seq (.dreg [] [⟨some 12, .fa (.t 1) 1, none⟩,
    ⟨some 13, .ld (.t 12) 1 false, none⟩,
    ⟨some 14, .bin .geq (.t 13) (.k (.int .i64 0)) 0, none⟩,
    ⟨some 15, .mv (.t 14), none⟩,
    ⟨some 16, .fa (.t 1) 1, some (15, true)⟩,
    ⟨some 17, .ld (.t 16) 1 false, some (15, true)⟩,
    ⟨some 18, .bin .leq (.t 17) (.k (.int .i64 1099511627776)) 0, some (15, true)⟩,
    ⟨some 19, .pick (.t 15) (.t 18) (.k (.bool false)), none⟩,
    ⟨some 20, .mv (.t 19), none⟩,
    ⟨some 21, .fa (.t 1) 2, some (20, true)⟩,
    ⟨some 22, .ld (.t 21) 1 false, some (20, true)⟩,
    ⟨some 23, .kcall 142 [.t 22], some (20, true)⟩,
    ⟨some 24, .fa (.t 1) 5, some (20, true)⟩,
    ⟨some 25, .ld (.t 24) 1 false, some (20, true)⟩,
    ⟨some 26, .len (.t 25) false, some (20, true)⟩,
    ⟨some 27, .bin .eql (.t 23) (.t 26) 0, some (20, true)⟩,
    ⟨some 28, .pick (.t 20) (.t 27) (.k (.bool false)), none⟩,
    ⟨some 29, .mv (.t 28), none⟩,
    ⟨some 30, .fa (.t 1) 3, some (29, true)⟩,
    ⟨some 31, .ld (.t 30) 1 false, some (29, true)⟩,
    ⟨some 32, .len (.t 31) true, some (29, true)⟩,
    ⟨some 33, .fa (.t 1) 4, some (29, true)⟩,
    ⟨some 34, .ld (.t 33) 1 false, some (29, true)⟩,
    ⟨some 35, .len (.t 34) true, some (29, true)⟩,
    ⟨some 36, .mm true (.t 32) [.t 35], some (29, true)⟩,
    ⟨some 37, .bin .leq (.t 36) (.k (.int .i64 16)) 0, some (29, true)⟩,
    ⟨some 38, .pick (.t 29) (.t 37) (.k (.bool false)), none⟩,
    ⟨some 39, .mv (.t 38), none⟩,
    ⟨some 40, .mv (.t 3), some (39, true)⟩,
    ⟨some 41, .mv (.t 40), some (39, true)⟩,
    ⟨some 42, .fa (.t 1) 3, some (41, false)⟩,
    ⟨some 43, .ld (.t 42) 1 false, some (41, false)⟩,
    ⟨some 44, .bin .eql (.t 43) (.k (.str ⟨#[]⟩)) 0, some (41, false)⟩,
    ⟨some 45, .pick (.t 41) (.k (.bool true)) (.t 44), some (39, true)⟩,
    ⟨some 46, .pick (.t 39) (.t 45) (.k (.bool false)), none⟩,
    ⟨some 47, .mv (.t 46), none⟩,
    ⟨some 48, .fa (.t 1) 2, some (47, true)⟩,
    ⟨some 49, .ld (.t 48) 1 false, some (47, true)⟩,
    ⟨some 50, .bin .eql (.t 49) (.k (.int .i64 1)) 0, some (47, true)⟩,
    ⟨some 51, .mv (.t 50), some (47, true)⟩,
    ⟨some 52, .fa (.t 1) 4, some (51, false)⟩,
    ⟨some 53, .ld (.t 52) 1 false, some (51, false)⟩,
    ⟨some 54, .bin .eql (.t 53) (.k (.str ⟨#[]⟩)) 0, some (51, false)⟩,
    ⟨some 55, .pick (.t 51) (.k (.bool true)) (.t 54), some (47, true)⟩,
    ⟨some 56, .pick (.t 47) (.t 55) (.k (.bool false)), none⟩,
    ⟨some 2, .mv (.t 56), none⟩])
   (.ret)))
def k93 : FCode := ⟨57, c93, [.tmp 2], none⟩
def c94 : LCode := .seq (.reg [⟨some 4, .mv (.k (.bool false)), none⟩])
   (.seq (.reg [⟨some 5, .mv (.t 0), none⟩,
    ⟨some 6, .mv (.t 1), none⟩,
    ⟨some 7, .call 143 [.t 5, .t 6], none⟩,
    ⟨some 8, .bin .geq (.t 7) (.k (.int .i64 0)) 0, none⟩,
    ⟨some 4, .mv (.t 8), none⟩])
   (.ret))
def k94 : FCode := ⟨9, c94, [.tmp 4], none⟩
def c95 : LCode := .seq (.reg [⟨some 2, .mv (.k (.int .i64 0)), none⟩])
   (.seq (.seq (.reg [⟨some 3, .mv (.t 0), none⟩,
    ⟨some 4, .nck (.t 3), none⟩,
    ⟨some 5, .fa (.t 4) 8, none⟩,
    ⟨some 6, .fa (.t 5) 2, none⟩,
    ⟨some 7, .ld (.t 6) 1 false, none⟩])
   (.block 0 (.seq (.reg [⟨some 9, .bin .eql (.t 7) (.k (.int .i64 1)) 0, none⟩,
    ⟨some 8, .mv (.t 9), none⟩])
   (.cond (.t 8) (.seq (.reg [⟨some 10, .mv (.t 0), none⟩,
    ⟨some 11, .call 144 [.t 10], none⟩,
    ⟨some 2, .mv (.t 11), none⟩])
   (.ret)) (.seq (.reg [⟨some 13, .bin .eql (.t 7) (.k (.int .i64 2)) 0, none⟩,
    ⟨some 12, .mv (.t 13), none⟩])
   (.cond (.t 12) (.seq (.reg [⟨some 14, .mv (.t 0), none⟩,
    ⟨some 15, .call 145 [.t 14], none⟩,
    ⟨some 2, .mv (.t 15), none⟩])
   (.ret)) (.seq (.seq (.reg [⟨some 17, .bin .eql (.t 7) (.k (.int .i64 3)) 0, none⟩,
    ⟨some 16, .mv (.t 17), none⟩])
   (.cond (.t 16) (.skip) (.seq (.reg [⟨some 18, .bin .eql (.t 7) (.k (.int .i64 4)) 0, none⟩,
    ⟨some 16, .mv (.t 18), none⟩])
   (.cond (.t 16) (.skip) (.reg [⟨some 19, .bin .eql (.t 7) (.k (.int .i64 5)) 0, none⟩,
    ⟨some 16, .mv (.t 19), none⟩])))))
   (.cond (.t 16) (.seq (.reg [⟨some 20, .mv (.t 0), none⟩,
    ⟨some 21, .call 146 [.t 20], none⟩,
    ⟨some 2, .mv (.t 21), none⟩])
   (.ret)) (.seq (.reg [⟨some 23, .bin .eql (.t 7) (.k (.int .i64 6)) 0, none⟩,
    ⟨some 22, .mv (.t 23), none⟩])
   (.cond (.t 22) (.seq (.reg [⟨some 24, .mv (.t 0), none⟩,
    ⟨some 25, .call 147 [.t 24], none⟩,
    ⟨some 2, .mv (.t 25), none⟩])
   (.ret)) (.seq (.reg [⟨some 27, .bin .eql (.t 7) (.k (.int .i64 7)) 0, none⟩,
    ⟨some 26, .mv (.t 27), none⟩])
   (.cond (.t 26) (.seq (.reg [⟨some 28, .mv (.t 0), none⟩,
    ⟨some 29, .call 148 [.t 28], none⟩,
    ⟨some 2, .mv (.t 29), none⟩])
   (.ret)) (.seq (.reg [⟨some 31, .bin .eql (.t 7) (.k (.int .i64 15)) 0, none⟩,
    ⟨some 30, .mv (.t 31), none⟩])
   (.cond (.t 30) (.seq (.reg [⟨some 32, .mv (.t 0), none⟩,
    ⟨some 33, .call 149 [.t 32], none⟩,
    ⟨some 2, .mv (.t 33), none⟩])
   (.ret)) (.skip)))))))))))))))
   (.seq (.reg [⟨some 34, .mv (.t 0), none⟩,
    ⟨some 35, .call 150 [.t 34], none⟩,
    ⟨some 2, .mv (.t 35), none⟩])
   (.ret)))
def k95 : FCode := ⟨36, c95, [.tmp 2], none⟩
def c96 : LCode := .seq (.reg [⟨some 2, .mv (.k (.int .i64 0)), none⟩])
   (.seq (.seq (.reg [⟨some 6, .mv (.t 0), none⟩,
    ⟨some 7, .nck (.t 6), none⟩,
    ⟨some 8, .fa (.t 7) 15, none⟩,
    ⟨some 9, .ld (.t 8) 1 false, none⟩,
    ⟨some 10, .len (.t 9) false, none⟩,
    ⟨some 11, .bin .eql (.t 10) (.k (.int .i64 0)) 0, none⟩])
   (.cond (.t 11) (.seq (.reg [⟨some 2, .mv (.k (.int .i64 0)), none⟩])
   (.ret)) (.skip)))
   (.seq (.dreg [] [⟨some 13, .mv (.t 0), none⟩,
    ⟨some 14, .nck (.t 13), none⟩,
    ⟨some 15, .fa (.t 14) 0, none⟩,
    ⟨some 16, .fa (.t 15) 1, none⟩,
    ⟨some 17, .ld (.t 16) 1 false, none⟩,
    ⟨some 18, .mv (.t 0), none⟩,
    ⟨some 19, .nck (.t 18), none⟩,
    ⟨some 20, .fa (.t 19) 0, none⟩,
    ⟨some 21, .fa (.t 20) 4, none⟩,
    ⟨some 22, .ld (.t 21) 1 false, none⟩,
    ⟨some 23, .mv (.t 0), none⟩,
    ⟨some 24, .nck (.t 23), none⟩,
    ⟨some 25, .fa (.t 24) 15, none⟩,
    ⟨some 26, .ld (.t 25) 1 false, none⟩,
    ⟨some 27, .call 151 [.t 17, .t 22, .t 26], none⟩,
    ⟨some 12, .mv (.t 27), none⟩,
    ⟨some 28, .ext (.t 12) 0, none⟩,
    ⟨some 29, .ext (.t 12) 1, none⟩,
    ⟨some 30, .ext (.t 12) 2, none⟩,
    ⟨some 3, .mv (.t 28), none⟩,
    ⟨some 4, .mv (.t 29), none⟩,
    ⟨some 5, .mv (.t 30), none⟩])
   (.seq (.seq (.reg [⟨some 31, .mv (.t 5), none⟩,
    ⟨some 32, .bin .eql (.t 31) (.k (.int .i64 0)) 0, none⟩])
   (.cond (.t 32) (.reg [⟨some 33, .mv (.t 0), none⟩,
    ⟨some 34, .mv (.t 0), none⟩,
    ⟨some 35, .mv (.t 3), none⟩,
    ⟨some 36, .mv (.t 4), none⟩,
    ⟨some 37, .nck (.t 33), none⟩,
    ⟨some 38, .fa (.t 37) 0, none⟩,
    ⟨some 39, .fa (.t 38) 1, none⟩,
    ⟨none, .st (.t 39) (.t 35) 1, none⟩,
    ⟨some 40, .nck (.t 34), none⟩,
    ⟨some 41, .fa (.t 40) 0, none⟩,
    ⟨some 42, .fa (.t 41) 4, none⟩,
    ⟨none, .st (.t 42) (.t 36) 1, none⟩]) (.skip)))
   (.seq (.reg [⟨some 43, .mv (.t 5), none⟩,
    ⟨some 2, .mv (.t 43), none⟩])
   (.ret)))))
def k96 : FCode := ⟨44, c96, [.tmp 2], none⟩
def c97 : LCode := .seq (.reg [⟨some 2, .mv (.k (.ro 1 [] true)), none⟩])
   (.seq (.reg [⟨some 3, .mv (.t 0), none⟩,
    ⟨some 4, .mv (.t 0), none⟩,
    ⟨some 5, .len (.t 4) false, none⟩,
    ⟨some 6, .mv (.t 0), none⟩,
    ⟨some 7, .len (.t 6) false, none⟩,
    ⟨some 8, .slc 1 (.t 3) (none) (some (.t 5)) (some (.t 7)), none⟩,
    ⟨some 2, .mv (.t 8), none⟩])
   (.ret))
def k97 : FCode := ⟨9, c97, [.tmp 2], none⟩
def c98 : LCode := .seq (.reg [⟨some 2, .mv (.k (.ro 2 [] true)), none⟩])
   (.seq (.reg [⟨some 3, .mv (.t 0), none⟩,
    ⟨some 4, .mv (.t 0), none⟩,
    ⟨some 5, .len (.t 4) false, none⟩,
    ⟨some 6, .mv (.t 0), none⟩,
    ⟨some 7, .len (.t 6) false, none⟩,
    ⟨some 8, .slc 2 (.t 3) (none) (some (.t 5)) (some (.t 7)), none⟩,
    ⟨some 2, .mv (.t 8), none⟩])
   (.ret))
def k98 : FCode := ⟨9, c98, [.tmp 2], none⟩
def c99 : LCode := .seq (.reg [⟨some 4, .mv (.k (.int .i64 0)), none⟩,
    ⟨some 5, .mv (.k (.int .i64 0)), none⟩])
   (.seq (.reg [⟨some 9, .mv (.t 0), none⟩,
    ⟨some 10, .mks 1 [.t 9], none⟩,
    ⟨some 6, .mv (.t 10), none⟩])
   (.seq (.seq (.reg [⟨some 11, .mv (.t 1), none⟩,
    ⟨some 12, .len (.t 11) false, none⟩,
    ⟨some 13, .mv (.k (.int .i64 0)), none⟩])
   (.block 0 (.loop (.seq (.reg [⟨some 14, .bin .lss (.t 13) (.t 12) 0, none⟩])
   (.seq (.cond (.t 14) (.skip) (.exit 0))
   (.seq (.block 1 (.seq (.reg [⟨some 15, .ix 6 (.t 11) (.t 13), none⟩,
    ⟨some 16, .ld (.t 15) 6 true, none⟩,
    ⟨some 8, .alloc [.int .i64 0, .int .i64 0, .int .i64 0, .int .i64 0, .int .i64 0, .int .i64 0], none⟩,
    ⟨none, .st (.t 8) (.t 16) 6, none⟩])
   (.reg [⟨some 17, .mv (.t 6), none⟩,
    ⟨some 18, .fa (.t 8) 3, none⟩,
    ⟨some 19, .ld (.t 18) 1 false, none⟩,
    ⟨some 20, .fa (.t 8) 4, none⟩,
    ⟨some 21, .ld (.t 20) 1 false, none⟩,
    ⟨some 22, .fa (.t 8) 5, none⟩,
    ⟨some 23, .ld (.t 22) 1 false, none⟩,
    ⟨some 24, .mks 1 [.t 19, .t 21, .t 23], none⟩,
    ⟨some 25, .app 1 8 (.t 17) (.t 24), none⟩,
    ⟨some 6, .mv (.t 25), none⟩])))
   (.reg [⟨some 26, .bin .add (.t 13) (.k (.int .i64 1)) 0, none⟩,
    ⟨some 13, .mv (.t 26), none⟩])))))))
   (.seq (.reg [⟨some 27, .mv (.t 6), none⟩,
    ⟨some 28, .call 152 [.t 27], none⟩,
    ⟨some 29, .ext (.t 28) 0, none⟩,
    ⟨some 30, .ext (.t 28) 1, none⟩,
    ⟨some 4, .mv (.t 29), none⟩,
    ⟨some 5, .mv (.t 30), none⟩])
   (.ret))))
def k99 : FCode := ⟨31, c99, [.tmp 4, .tmp 5], none⟩
def c100 : LCode := .seq (.reg [⟨some 2, .mv (.k (.bool false)), none⟩])
   (.seq (.seq (.reg [⟨some 6, .mv (.t 0), none⟩,
    ⟨some 7, .len (.t 6) false, none⟩,
    ⟨some 8, .bin .gtr (.t 7) (.k (.int .i64 8)) 0, none⟩])
   (.cond (.t 8) (.seq (.reg [⟨some 2, .mv (.k (.bool false)), none⟩])
   (.ret)) (.skip)))
   (.seq (.seq (.reg [⟨some 9, .mv (.t 0), none⟩,
    ⟨some 10, .len (.t 9) false, none⟩,
    ⟨some 11, .mv (.k (.int .i64 0)), none⟩])
   (.block 0 (.loop (.seq (.reg [⟨some 12, .bin .lss (.t 11) (.t 10) 0, none⟩])
   (.seq (.cond (.t 12) (.skip) (.exit 0))
   (.seq (.block 1 (.seq (.reg [⟨some 13, .mv (.t 11), none⟩,
    ⟨some 14, .ix 3 (.t 9) (.t 11), none⟩,
    ⟨some 15, .ld (.t 14) 3 true, none⟩,
    ⟨some 4, .alloc [.str ⟨#[]⟩, .int .i64 0, .int .i64 0], none⟩,
    ⟨some 3, .mv (.t 13), none⟩,
    ⟨none, .st (.t 4) (.t 15) 3, none⟩])
   (.seq (.reg [⟨some 16, .mv (.t 0), none⟩,
    ⟨some 17, .mv (.t 3), none⟩,
    ⟨some 18, .slc 3 (.t 16) (none) (some (.t 17)) (none), none⟩,
    ⟨some 19, .mkf 154 [.t 4], none⟩,
    ⟨some 20, .call 153 [.t 18, .t 19], none⟩,
    ⟨some 5, .mv (.t 20), none⟩])
   (.seq (.reg [⟨some 21, .mv (.t 5), none⟩,
    ⟨some 22, .mv (.t 21), none⟩,
    ⟨some 23, .fa (.t 4) 0, some (22, false)⟩,
    ⟨some 24, .ld (.t 23) 1 false, some (22, false)⟩,
    ⟨some 25, .bin .eql (.t 24) (.k (.str ⟨#[]⟩)) 0, some (22, false)⟩,
    ⟨some 26, .pick (.t 22) (.k (.bool true)) (.t 25), none⟩,
    ⟨some 27, .mv (.t 26), none⟩,
    ⟨some 28, .fa (.t 4) 0, some (27, false)⟩,
    ⟨some 29, .ld (.t 28) 1 false, some (27, false)⟩,
    ⟨some 30, .len (.t 29) true, some (27, false)⟩,
    ⟨some 31, .bin .gtr (.t 30) (.k (.int .i64 16)) 0, some (27, false)⟩,
    ⟨some 32, .pick (.t 27) (.k (.bool true)) (.t 31), none⟩,
    ⟨some 33, .mv (.t 32), none⟩,
    ⟨some 34, .fa (.t 4) 1, some (33, false)⟩,
    ⟨some 35, .ld (.t 34) 1 false, some (33, false)⟩,
    ⟨some 36, .bin .lss (.t 35) (.k (.int .i64 (-1))) 0, some (33, false)⟩,
    ⟨some 37, .pick (.t 33) (.k (.bool true)) (.t 36), none⟩,
    ⟨some 38, .mv (.t 37), none⟩,
    ⟨some 39, .fa (.t 4) 1, some (38, false)⟩,
    ⟨some 40, .ld (.t 39) 1 false, some (38, false)⟩,
    ⟨some 41, .mv (.t 3), some (38, false)⟩,
    ⟨some 42, .bin .geq (.t 40) (.t 41) 0, some (38, false)⟩,
    ⟨some 43, .pick (.t 38) (.k (.bool true)) (.t 42), none⟩,
    ⟨some 44, .mv (.t 43), none⟩,
    ⟨some 45, .fa (.t 4) 2, some (44, false)⟩,
    ⟨some 46, .ld (.t 45) 1 false, some (44, false)⟩,
    ⟨some 47, .bin .lss (.t 46) (.k (.int .i64 0)) 0, some (44, false)⟩,
    ⟨some 48, .pick (.t 44) (.k (.bool true)) (.t 47), none⟩,
    ⟨some 49, .mv (.t 48), none⟩,
    ⟨some 50, .fa (.t 4) 2, some (49, false)⟩,
    ⟨some 51, .ld (.t 50) 1 false, some (49, false)⟩,
    ⟨some 52, .bin .gtr (.t 51) (.k (.int .i64 1152921504606846976)) 0, some (49, false)⟩,
    ⟨some 53, .pick (.t 49) (.k (.bool true)) (.t 52), none⟩])
   (.cond (.t 53) (.seq (.reg [⟨some 2, .mv (.k (.bool false)), none⟩])
   (.ret)) (.skip))))))
   (.reg [⟨some 54, .bin .add (.t 11) (.k (.int .i64 1)) 0, none⟩,
    ⟨some 11, .mv (.t 54), none⟩])))))))
   (.seq (.reg [⟨some 2, .mv (.k (.bool true)), none⟩])
   (.ret))))
def k100 : FCode := ⟨55, c100, [.tmp 2], none⟩
def c101 : LCode := .seq (.reg [⟨some 2, .mv (.k (.bool false)), none⟩])
   (.seq (.seq (.reg [⟨some 5, .mv (.t 0), none⟩,
    ⟨some 6, .len (.t 5) false, none⟩,
    ⟨some 7, .bin .gtr (.t 6) (.k (.int .i64 16)) 0, none⟩])
   (.cond (.t 7) (.seq (.reg [⟨some 2, .mv (.k (.bool false)), none⟩])
   (.ret)) (.skip)))
   (.seq (.seq (.reg [⟨some 8, .mv (.t 0), none⟩,
    ⟨some 9, .len (.t 8) false, none⟩,
    ⟨some 10, .mv (.k (.int .i64 0)), none⟩])
   (.block 0 (.loop (.seq (.reg [⟨some 11, .bin .lss (.t 10) (.t 9) 0, none⟩])
   (.seq (.cond (.t 11) (.skip) (.exit 0))
   (.seq (.block 1 (.seq (.reg [⟨some 12, .ix 3 (.t 8) (.t 10), none⟩,
    ⟨some 13, .ld (.t 12) 3 true, none⟩,
    ⟨some 4, .alloc [.int .i64 0, .int .i64 0, .int .i64 0], none⟩,
    ⟨none, .st (.t 4) (.t 13) 3, none⟩])
   (.seq (.reg [⟨some 14, .fa (.t 4) 0, none⟩,
    ⟨some 15, .ld (.t 14) 1 false, none⟩,
    ⟨some 16, .fa (.t 4) 1, none⟩,
    ⟨some 17, .ld (.t 16) 1 false, none⟩,
    ⟨some 18, .fa (.t 4) 2, none⟩,
    ⟨some 19, .ld (.t 18) 1 false, none⟩,
    ⟨some 20, .mm false (.t 15) [.t 17, .t 19], none⟩,
    ⟨some 21, .bin .lss (.t 20) (.k (.int .i64 0)) 0, none⟩,
    ⟨some 22, .mv (.t 21), none⟩,
    ⟨some 23, .fa (.t 4) 0, some (22, false)⟩,
    ⟨some 24, .ld (.t 23) 1 false, some (22, false)⟩,
    ⟨some 25, .bin .geq (.t 24) (.k (.int .i64 8)) 0, some (22, false)⟩,
    ⟨some 26, .pick (.t 22) (.k (.bool true)) (.t 25), none⟩,
    ⟨some 27, .mv (.t 26), none⟩,
    ⟨some 28, .fa (.t 4) 1, some (27, false)⟩,
    ⟨some 29, .ld (.t 28) 1 false, some (27, false)⟩,
    ⟨some 30, .bin .gtr (.t 29) (.k (.int .i64 1099511627776)) 0, some (27, false)⟩,
    ⟨some 31, .pick (.t 27) (.k (.bool true)) (.t 30), none⟩,
    ⟨some 32, .mv (.t 31), none⟩,
    ⟨some 33, .fa (.t 4) 2, some (32, false)⟩,
    ⟨some 34, .ld (.t 33) 1 false, some (32, false)⟩,
    ⟨some 35, .bin .gtr (.t 34) (.k (.int .i64 1099511627776)) 0, some (32, false)⟩,
    ⟨some 36, .pick (.t 32) (.k (.bool true)) (.t 35), none⟩])
   (.cond (.t 36) (.seq (.reg [⟨some 2, .mv (.k (.bool false)), none⟩])
   (.ret)) (.skip)))))
   (.reg [⟨some 37, .bin .add (.t 10) (.k (.int .i64 1)) 0, none⟩,
    ⟨some 10, .mv (.t 37), none⟩])))))))
   (.seq (.reg [⟨some 2, .mv (.k (.bool true)), none⟩])
   (.ret))))
def k101 : FCode := ⟨38, c101, [.tmp 2], none⟩
def c102 : LCode := .seq (.reg [⟨some 1, .box (.t 0), none⟩,
    ⟨some 2, .mv (.k (.bool false)), none⟩])
   (.seq (.seq (.reg [⟨some 3, .fa (.t 1) 0, none⟩,
    ⟨some 4, .ld (.t 3) 1 false, none⟩,
    ⟨some 5, .bin .lss (.t 4) (.k (.int .i64 1)) 0, none⟩,
    ⟨some 6, .mv (.t 5), none⟩,
    ⟨some 7, .fa (.t 1) 1, some (6, false)⟩,
    ⟨some 8, .ld (.t 7) 1 false, some (6, false)⟩,
    ⟨some 9, .call 155 [.t 8, .k (.int .i64 0), .k (.int .i64 7)], some (6, false)⟩,
    ⟨some 10, .un .not (.t 9), some (6, false)⟩,
    ⟨some 11, .pick (.t 6) (.k (.bool true)) (.t 10), none⟩,
    ⟨some 12, .mv (.t 11), none⟩,
    ⟨some 13, .fa (.t 1) 2, some (12, false)⟩,
    ⟨some 14, .ld (.t 13) 1 false, some (12, false)⟩,
    ⟨some 15, .call 155 [.t 14, .k (.int .i64 1), .k (.int .i64 32)], some (12, false)⟩,
    ⟨some 16, .un .not (.t 15), some (12, false)⟩,
    ⟨some 17, .pick (.t 12) (.k (.bool true)) (.t 16), none⟩,
    ⟨some 18, .mv (.t 17), none⟩,
    ⟨some 19, .fa (.t 1) 3, some (18, false)⟩,
    ⟨some 20, .ld (.t 19) 1 false, some (18, false)⟩,
    ⟨some 21, .call 155 [.t 20, .k (.int .i64 1), .k (.int .i64 1048576)], some (18, false)⟩,
    ⟨some 22, .un .not (.t 21), some (18, false)⟩,
    ⟨some 23, .pick (.t 18) (.k (.bool true)) (.t 22), none⟩,
    ⟨some 24, .mv (.t 23), none⟩,
    ⟨some 25, .fa (.t 1) 4, some (24, false)⟩,
    ⟨some 26, .ld (.t 25) 1 false, some (24, false)⟩,
    ⟨some 27, .call 155 [.t 26, .k (.int .i64 0), .k (.int .i64 7)], some (24, false)⟩,
    ⟨some 28, .un .not (.t 27), some (24, false)⟩,
    ⟨some 29, .pick (.t 24) (.k (.bool true)) (.t 28), none⟩,
    ⟨some 30, .mv (.t 29), none⟩,
    ⟨some 31, .fa (.t 1) 5, some (30, false)⟩,
    ⟨some 32, .ld (.t 31) 1 false, some (30, false)⟩,
    ⟨some 33, .call 155 [.t 32, .k (.int .i64 0), .k (.int .i64 1048576)], some (30, false)⟩,
    ⟨some 34, .un .not (.t 33), some (30, false)⟩,
    ⟨some 35, .pick (.t 30) (.k (.bool true)) (.t 34), none⟩,
    ⟨some 36, .mv (.t 35), none⟩,
    ⟨some 37, .fa (.t 1) 6, some (36, false)⟩,
    ⟨some 38, .ld (.t 37) 1 false, some (36, false)⟩,
    ⟨some 39, .call 155 [.t 38, .k (.int .i64 0), .k (.int .i64 1099511627776)], some (36, false)⟩,
    ⟨some 40, .un .not (.t 39), some (36, false)⟩,
    ⟨some 41, .pick (.t 36) (.k (.bool true)) (.t 40), none⟩])
   (.cond (.t 41) (.seq (.reg [⟨some 2, .mv (.k (.bool false)), none⟩])
   (.ret)) (.skip)))
   (.seq (.seq (.reg [⟨some 42, .fa (.t 1) 7, none⟩,
    ⟨some 43, .ld (.t 42) 1 false, none⟩])
   (.block 0 (.seq (.seq (.reg [⟨some 45, .bin .eql (.t 43) (.k (.int .i64 1)) 0, none⟩,
    ⟨some 44, .mv (.t 45), none⟩])
   (.cond (.t 44) (.skip) (.reg [⟨some 46, .bin .eql (.t 43) (.k (.int .i64 2)) 0, none⟩,
    ⟨some 44, .mv (.t 46), none⟩])))
   (.cond (.t 44) (.seq (.reg [⟨some 47, .fa (.t 1) 8, none⟩,
    ⟨some 48, .ld (.t 47) 1 false, none⟩,
    ⟨some 49, .bin .eql (.t 48) (.k (.int .i64 0)) 0, none⟩,
    ⟨some 50, .mv (.t 49), none⟩,
    ⟨some 51, .fa (.t 1) 9, some (50, true)⟩,
    ⟨some 52, .ld (.t 51) 1 false, some (50, true)⟩,
    ⟨some 53, .bin .eql (.t 52) (.k (.int .i64 0)) 0, some (50, true)⟩,
    ⟨some 54, .pick (.t 50) (.t 53) (.k (.bool false)), none⟩,
    ⟨some 55, .mv (.t 54), none⟩,
    ⟨some 56, .fa (.t 1) 10, some (55, true)⟩,
    ⟨some 57, .ld (.t 56) 1 false, some (55, true)⟩,
    ⟨some 58, .bin .eql (.t 57) (.k (.int .i64 0)) 0, some (55, true)⟩,
    ⟨some 59, .pick (.t 55) (.t 58) (.k (.bool false)), none⟩,
    ⟨some 60, .mv (.t 59), none⟩,
    ⟨some 61, .fa (.t 1) 11, some (60, true)⟩,
    ⟨some 62, .ld (.t 61) 1 false, some (60, true)⟩,
    ⟨some 63, .len (.t 62) false, some (60, true)⟩,
    ⟨some 64, .bin .eql (.t 63) (.k (.int .i64 0)) 0, some (60, true)⟩,
    ⟨some 65, .pick (.t 60) (.t 64) (.k (.bool false)), none⟩,
    ⟨some 2, .mv (.t 65), none⟩])
   (.ret)) (.seq (.reg [⟨some 67, .bin .eql (.t 43) (.k (.int .i64 3)) 0, none⟩,
    ⟨some 66, .mv (.t 67), none⟩])
   (.cond (.t 66) (.seq (.dreg [] [⟨some 68, .fa (.t 1) 8, none⟩,
    ⟨some 69, .ld (.t 68) 1 false, none⟩,
    ⟨some 70, .call 155 [.t 69, .k (.int .i64 0), .k (.int .i64 1099511627776)], none⟩,
    ⟨some 71, .mv (.t 70), none⟩,
    ⟨some 72, .fa (.t 1) 9, some (71, true)⟩,
    ⟨some 73, .ld (.t 72) 1 false, some (71, true)⟩,
    ⟨some 74, .call 155 [.t 73, .k (.int .i64 0), .k (.int .i64 4294967295)], some (71, true)⟩,
    ⟨some 75, .pick (.t 71) (.t 74) (.k (.bool false)), none⟩,
    ⟨some 76, .mv (.t 75), none⟩,
    ⟨some 77, .fa (.t 1) 9, some (76, true)⟩,
    ⟨some 78, .ld (.t 77) 1 false, some (76, true)⟩,
    ⟨some 79, .kcall 130 [.t 78], some (76, true)⟩,
    ⟨some 80, .fa (.t 1) 2, some (76, true)⟩,
    ⟨some 81, .ld (.t 80) 1 false, some (76, true)⟩,
    ⟨some 82, .bin .eql (.t 79) (.t 81) 0, some (76, true)⟩,
    ⟨some 83, .pick (.t 76) (.t 82) (.k (.bool false)), none⟩,
    ⟨some 84, .mv (.t 83), none⟩,
    ⟨some 85, .fa (.t 1) 10, some (84, true)⟩,
    ⟨some 86, .ld (.t 85) 1 false, some (84, true)⟩,
    ⟨some 87, .bin .eql (.t 86) (.k (.int .i64 0)) 0, some (84, true)⟩,
    ⟨some 88, .pick (.t 84) (.t 87) (.k (.bool false)), none⟩,
    ⟨some 89, .mv (.t 88), none⟩,
    ⟨some 90, .fa (.t 1) 11, some (89, true)⟩,
    ⟨some 91, .ld (.t 90) 1 false, some (89, true)⟩,
    ⟨some 92, .call 156 [.t 91], some (89, true)⟩,
    ⟨some 93, .pick (.t 89) (.t 92) (.k (.bool false)), none⟩,
    ⟨some 2, .mv (.t 93), none⟩])
   (.ret)) (.seq (.reg [⟨some 95, .bin .eql (.t 43) (.k (.int .i64 4)) 0, none⟩,
    ⟨some 94, .mv (.t 95), none⟩])
   (.cond (.t 94) (.seq (.reg [⟨some 96, .fa (.t 1) 8, none⟩,
    ⟨some 97, .ld (.t 96) 1 false, none⟩,
    ⟨some 98, .call 155 [.t 97, .k (.int .i64 0), .k (.int .i64 1099511627776)], none⟩,
    ⟨some 99, .mv (.t 98), none⟩,
    ⟨some 100, .fa (.t 1) 9, some (99, true)⟩,
    ⟨some 101, .ld (.t 100) 1 false, some (99, true)⟩,
    ⟨some 102, .bin .eql (.t 101) (.k (.int .i64 0)) 0, some (99, true)⟩,
    ⟨some 103, .pick (.t 99) (.t 102) (.k (.bool false)), none⟩,
    ⟨some 104, .mv (.t 103), none⟩,
    ⟨some 105, .fa (.t 1) 10, some (104, true)⟩,
    ⟨some 106, .ld (.t 105) 1 false, some (104, true)⟩,
    ⟨some 107, .fa (.t 1) 3, some (104, true)⟩,
    ⟨some 108, .ld (.t 107) 1 false, some (104, true)⟩,
    ⟨some 109, .call 155 [.t 106, .k (.int .i64 0), .t 108], some (104, true)⟩,
    ⟨some 110, .pick (.t 104) (.t 109) (.k (.bool false)), none⟩,
    ⟨some 111, .mv (.t 110), none⟩,
    ⟨some 112, .fa (.t 1) 11, some (111, true)⟩,
    ⟨some 113, .ld (.t 112) 1 false, some (111, true)⟩,
    ⟨some 114, .call 156 [.t 113], some (111, true)⟩,
    ⟨some 115, .pick (.t 111) (.t 114) (.k (.bool false)), none⟩,
    ⟨some 2, .mv (.t 115), none⟩])
   (.ret)) (.skip)))))))))
   (.seq (.reg [⟨some 2, .mv (.k (.bool false)), none⟩])
   (.ret))))
def k102 : FCode := ⟨116, c102, [.tmp 2], none⟩
def c103 : LCode := .seq (.reg [⟨some 3, .box (.t 0), none⟩,
    ⟨some 6, .mv (.k (.int .i64 0)), none⟩,
    ⟨some 7, .mv (.k (.int .i64 0)), none⟩])
   (.seq (.reg [⟨some 8, .mv (.k (.ro 1 [] true)), none⟩])
   (.seq (.seq (.reg [⟨some 13, .fa (.t 3) 6, none⟩,
    ⟨some 14, .ld (.t 13) 1 false, none⟩,
    ⟨some 15, .len (.t 14) false, none⟩,
    ⟨some 16, .mv (.k (.int .i64 0)), none⟩])
   (.block 0 (.loop (.seq (.reg [⟨some 17, .bin .lss (.t 16) (.t 15) 0, none⟩])
   (.seq (.cond (.t 17) (.skip) (.exit 0))
   (.seq (.block 1 (.seq (.reg [⟨some 18, .ix 12 (.t 14) (.t 16), none⟩,
    ⟨some 19, .ld (.t 18) 12 true, none⟩,
    ⟨some 10, .alloc [.int .i64 0, .int .i64 0, .int .i64 0, .int .i64 0, .int .i64 0, .int .i64 0, .int .i64 0, .int .i64 0, .int .i64 0, .int .i64 0, .int .i64 0, .ro 2 [] true], none⟩,
    ⟨none, .st (.t 10) (.t 19) 12, none⟩])
   (.seq (.reg [⟨some 20, .fa (.t 10) 11, none⟩,
    ⟨some 21, .ld (.t 20) 1 false, none⟩,
    ⟨some 22, .len (.t 21) false, none⟩,
    ⟨some 23, .mv (.k (.int .i64 0)), none⟩])
   (.block 2 (.loop (.seq (.reg [⟨some 24, .bin .lss (.t 23) (.t 22) 0, none⟩])
   (.seq (.cond (.t 24) (.skip) (.exit 2))
   (.seq (.block 3 (.seq (.reg [⟨some 25, .ix 2 (.t 21) (.t 23), none⟩,
    ⟨some 26, .ld (.t 25) 2 true, none⟩,
    ⟨some 12, .alloc [.int .i64 0, .int .i64 0], none⟩,
    ⟨none, .st (.t 12) (.t 26) 2, none⟩])
   (.seq (.reg [⟨some 27, .fa (.t 10) 7, none⟩,
    ⟨some 28, .ld (.t 27) 1 false, none⟩,
    ⟨some 29, .mv (.t 1), none⟩,
    ⟨some 30, .bin .eql (.t 28) (.t 29) 0, none⟩,
    ⟨some 31, .mv (.t 30), none⟩,
    ⟨some 32, .fa (.t 12) 0, some (31, true)⟩,
    ⟨some 33, .ld (.t 32) 1 false, some (31, true)⟩,
    ⟨some 34, .mv (.t 2), some (31, true)⟩,
    ⟨some 35, .bin .eql (.t 33) (.t 34) 0, some (31, true)⟩,
    ⟨some 36, .pick (.t 31) (.t 35) (.k (.bool false)), none⟩])
   (.cond (.t 36) (.reg [⟨some 37, .mv (.t 8), none⟩,
    ⟨some 38, .fa (.t 12) 1, none⟩,
    ⟨some 39, .ld (.t 38) 1 false, none⟩,
    ⟨some 40, .mks 1 [.t 39], none⟩,
    ⟨some 41, .app 1 8 (.t 37) (.t 40), none⟩,
    ⟨some 8, .mv (.t 41), none⟩]) (.skip)))))
   (.reg [⟨some 42, .bin .add (.t 23) (.k (.int .i64 1)) 0, none⟩,
    ⟨some 23, .mv (.t 42), none⟩])))))))))
   (.reg [⟨some 43, .bin .add (.t 16) (.k (.int .i64 1)) 0, none⟩,
    ⟨some 16, .mv (.t 43), none⟩])))))))
   (.seq (.reg [⟨some 44, .mv (.t 8), none⟩,
    ⟨some 45, .call 152 [.t 44], none⟩,
    ⟨some 46, .ext (.t 45) 0, none⟩,
    ⟨some 47, .ext (.t 45) 1, none⟩,
    ⟨some 6, .mv (.t 46), none⟩,
    ⟨some 7, .mv (.t 47), none⟩])
   (.ret))))
def k103 : FCode := ⟨48, c103, [.tmp 6, .tmp 7], none⟩
def c104 : LCode := .seq (.reg [⟨some 6, .mv (.k (.int .i64 0)), none⟩,
    ⟨some 7, .mv (.k (.int .i64 0)), none⟩])
   (.seq (.seq (.reg [⟨some 8, .mv (.t 0), none⟩,
    ⟨some 9, .mv (.t 1), none⟩,
    ⟨some 10, .mv (.t 2), none⟩,
    ⟨some 11, .mm false (.t 8) [.t 9, .t 10], none⟩,
    ⟨some 12, .bin .lss (.t 11) (.k (.int .i64 0)) 0, none⟩])
   (.cond (.t 12) (.seq (.reg [⟨some 6, .mv (.k (.int .i64 0)), none⟩,
    ⟨some 7, .mv (.k (.int .i64 1)), none⟩])
   (.ret)) (.skip)))
   (.seq (.reg [⟨some 13, .mv (.t 0), none⟩,
    ⟨some 14, .mv (.t 1), none⟩,
    ⟨some 15, .mv (.t 2), none⟩,
    ⟨some 16, .mks 1 [.t 13, .t 14, .t 15], none⟩,
    ⟨some 17, .call 157 [.t 16], none⟩,
    ⟨some 18, .ext (.t 17) 0, none⟩,
    ⟨some 19, .ext (.t 17) 1, none⟩,
    ⟨some 6, .mv (.t 18), none⟩,
    ⟨some 7, .mv (.t 19), none⟩])
   (.ret)))
def k104 : FCode := ⟨20, c104, [.tmp 6, .tmp 7], none⟩
def c105 : LCode := .seq (.reg [⟨some 2, .mv (.k (.int .i64 0)), none⟩,
    ⟨some 3, .mv (.k (.int .i64 0)), none⟩])
   (.seq (.reg [⟨some 4, .mv (.k (.ro 1 [] true)), none⟩])
   (.seq (.seq (.reg [⟨some 7, .mv (.t 0), none⟩,
    ⟨some 8, .len (.t 7) false, none⟩,
    ⟨some 9, .mv (.k (.int .i64 0)), none⟩])
   (.block 0 (.loop (.seq (.reg [⟨some 10, .bin .lss (.t 9) (.t 8) 0, none⟩])
   (.seq (.cond (.t 10) (.skip) (.exit 0))
   (.seq (.block 1 (.seq (.reg [⟨some 11, .ix 2 (.t 7) (.t 9), none⟩,
    ⟨some 12, .ld (.t 11) 2 true, none⟩,
    ⟨some 6, .alloc [.int .i64 0, .int .i64 0], none⟩,
    ⟨none, .st (.t 6) (.t 12) 2, none⟩])
   (.reg [⟨some 13, .mv (.t 4), none⟩,
    ⟨some 14, .fa (.t 6) 1, none⟩,
    ⟨some 15, .ld (.t 14) 1 false, none⟩,
    ⟨some 16, .mks 1 [.t 15], none⟩,
    ⟨some 17, .app 1 8 (.t 13) (.t 16), none⟩,
    ⟨some 4, .mv (.t 17), none⟩])))
   (.reg [⟨some 18, .bin .add (.t 9) (.k (.int .i64 1)) 0, none⟩,
    ⟨some 9, .mv (.t 18), none⟩])))))))
   (.seq (.reg [⟨some 19, .mv (.t 4), none⟩,
    ⟨some 20, .call 152 [.t 19], none⟩,
    ⟨some 21, .ext (.t 20) 0, none⟩,
    ⟨some 22, .ext (.t 20) 1, none⟩,
    ⟨some 2, .mv (.t 21), none⟩,
    ⟨some 3, .mv (.t 22), none⟩])
   (.ret))))
def k105 : FCode := ⟨23, c105, [.tmp 2, .tmp 3], none⟩
def c106 : LCode := .seq (.reg [⟨some 6, .mv (.k (.int .i64 0)), none⟩,
    ⟨some 7, .mv (.k (.int .i64 0)), none⟩])
   (.seq (.seq (.reg [⟨some 11, .mv (.t 2), none⟩,
    ⟨some 12, .bin .lss (.t 11) (.k (.int .i64 0)) 0, none⟩,
    ⟨some 13, .mv (.t 12), none⟩,
    ⟨some 14, .mv (.t 2), some (13, false)⟩,
    ⟨some 15, .mv (.t 0), some (13, false)⟩,
    ⟨some 16, .len (.t 15) false, some (13, false)⟩,
    ⟨some 17, .bin .geq (.t 14) (.t 16) 0, some (13, false)⟩,
    ⟨some 18, .pick (.t 13) (.k (.bool true)) (.t 17), none⟩])
   (.cond (.t 18) (.seq (.reg [⟨some 6, .mv (.k (.int .i64 0)), none⟩,
    ⟨some 7, .mv (.k (.int .i64 4)), none⟩])
   (.ret)) (.skip)))
   (.seq (.reg [⟨some 8, .mv (.k (.ro 1 [] true)), none⟩])
   (.seq (.seq (.reg [⟨some 19, .mv (.t 1), none⟩,
    ⟨some 20, .len (.t 19) false, none⟩,
    ⟨some 21, .mv (.k (.int .i64 0)), none⟩])
   (.block 0 (.loop (.seq (.reg [⟨some 22, .bin .lss (.t 21) (.t 20) 0, none⟩])
   (.seq (.cond (.t 22) (.skip) (.exit 0))
   (.seq (.block 1 (.seq (.reg [⟨some 23, .ix 6 (.t 19) (.t 21), none⟩,
    ⟨some 24, .ld (.t 23) 6 true, none⟩,
    ⟨some 10, .alloc [.int .i64 0, .int .i64 0, .int .i64 0, .int .i64 0, .int .i64 0, .int .i64 0], none⟩,
    ⟨none, .st (.t 10) (.t 24) 6, none⟩])
   (.seq (.reg [⟨some 25, .mv (.t 0), none⟩,
    ⟨some 26, .fa (.t 10) 0, none⟩,
    ⟨some 27, .ld (.t 26) 1 false, none⟩,
    ⟨some 28, .call 158 [.t 25, .t 27], none⟩,
    ⟨some 29, .mv (.t 2), none⟩,
    ⟨some 30, .call 70 [.t 28, .t 29], none⟩])
   (.cond (.t 30) (.reg [⟨some 31, .mv (.t 8), none⟩,
    ⟨some 32, .fa (.t 10) 4, none⟩,
    ⟨some 33, .ld (.t 32) 1 false, none⟩,
    ⟨some 34, .fa (.t 10) 5, none⟩,
    ⟨some 35, .ld (.t 34) 1 false, none⟩,
    ⟨some 36, .mks 1 [.t 33, .t 35], none⟩,
    ⟨some 37, .app 1 8 (.t 31) (.t 36), none⟩,
    ⟨some 8, .mv (.t 37), none⟩]) (.skip)))))
   (.reg [⟨some 38, .bin .add (.t 21) (.k (.int .i64 1)) 0, none⟩,
    ⟨some 21, .mv (.t 38), none⟩])))))))
   (.seq (.reg [⟨some 39, .mv (.t 8), none⟩,
    ⟨some 40, .call 152 [.t 39], none⟩,
    ⟨some 41, .ext (.t 40) 0, none⟩,
    ⟨some 42, .ext (.t 40) 1, none⟩,
    ⟨some 6, .mv (.t 41), none⟩,
    ⟨some 7, .mv (.t 42), none⟩])
   (.ret)))))
def k106 : FCode := ⟨43, c106, [.tmp 6, .tmp 7], none⟩
def c107 : LCode := .seq (.reg [⟨some 6, .mv (.k (.int .i64 0)), none⟩,
    ⟨some 7, .mv (.k (.int .i64 0)), none⟩])
   (.seq (.reg [⟨some 12, .build [.int .i64 0, .int .i64 0, .int .i64 0] [], none⟩,
    ⟨some 8, .alloc [.int .i64 0, .int .i64 0, .int .i64 0], none⟩,
    ⟨none, .st (.t 8) (.t 12) 3, none⟩,
    ⟨some 9, .mv (.k (.int .i64 12)), none⟩])
   (.seq (.seq (.reg [⟨some 13, .mv (.t 0), none⟩,
    ⟨some 14, .len (.t 13) false, none⟩,
    ⟨some 15, .mv (.k (.int .i64 0)), none⟩])
   (.block 0 (.loop (.seq (.reg [⟨some 16, .bin .lss (.t 15) (.t 14) 0, none⟩])
   (.seq (.cond (.t 16) (.skip) (.exit 0))
   (.seq (.block 1 (.seq (.reg [⟨some 17, .ix 3 (.t 13) (.t 15), none⟩,
    ⟨some 18, .ld (.t 17) 3 true, none⟩,
    ⟨some 11, .alloc [.int .i64 0, .int .i64 0, .int .i64 0], none⟩,
    ⟨none, .st (.t 11) (.t 18) 3, none⟩])
   (.seq (.reg [⟨some 19, .fa (.t 11) 0, none⟩,
    ⟨some 20, .ld (.t 19) 1 false, none⟩,
    ⟨some 21, .mv (.t 1), none⟩,
    ⟨some 22, .bin .eql (.t 20) (.t 21) 0, none⟩,
    ⟨some 23, .mv (.t 22), none⟩,
    ⟨some 24, .fa (.t 11) 1, some (23, true)⟩,
    ⟨some 25, .ld (.t 24) 1 false, some (23, true)⟩,
    ⟨some 26, .mv (.t 2), some (23, true)⟩,
    ⟨some 27, .bin .leq (.t 25) (.t 26) 0, some (23, true)⟩,
    ⟨some 28, .pick (.t 23) (.t 27) (.k (.bool false)), none⟩,
    ⟨some 29, .mv (.t 28), none⟩,
    ⟨some 30, .mv (.t 9), some (29, true)⟩,
    ⟨some 31, .bin .neq (.t 30) (.k (.int .i64 0)) 0, some (29, true)⟩,
    ⟨some 32, .mv (.t 31), some (29, true)⟩,
    ⟨some 33, .fa (.t 11) 1, some (32, false)⟩,
    ⟨some 34, .ld (.t 33) 1 false, some (32, false)⟩,
    ⟨some 35, .fa (.t 8) 1, some (32, false)⟩,
    ⟨some 36, .ld (.t 35) 1 false, some (32, false)⟩,
    ⟨some 37, .bin .geq (.t 34) (.t 36) 0, some (32, false)⟩,
    ⟨some 38, .pick (.t 32) (.k (.bool true)) (.t 37), some (29, true)⟩,
    ⟨some 39, .pick (.t 29) (.t 38) (.k (.bool false)), none⟩])
   (.cond (.t 39) (.reg [⟨some 40, .ld (.t 11) 3 true, none⟩,
    ⟨none, .st (.t 8) (.t 40) 3, none⟩,
    ⟨some 9, .mv (.k (.int .i64 0)), none⟩]) (.skip)))))
   (.reg [⟨some 41, .bin .add (.t 15) (.k (.int .i64 1)) 0, none⟩,
    ⟨some 15, .mv (.t 41), none⟩])))))))
   (.seq (.reg [⟨some 42, .fa (.t 8) 2, none⟩,
    ⟨some 43, .ld (.t 42) 1 false, none⟩,
    ⟨some 44, .mv (.t 9), none⟩,
    ⟨some 6, .mv (.t 43), none⟩,
    ⟨some 7, .mv (.t 44), none⟩])
   (.ret))))
def k107 : FCode := ⟨45, c107, [.tmp 6, .tmp 7], none⟩
def c108 : LCode := .seq (.reg [⟨some 2, .mv (.k (.ro 12 [] true)), none⟩])
   (.seq (.reg [⟨some 3, .mv (.t 0), none⟩,
    ⟨some 4, .call 86 [.t 3], none⟩,
    ⟨some 5, .call 159 [.t 4, .k (.fn 160 [])], none⟩,
    ⟨some 2, .mv (.t 5), none⟩])
   (.ret))
def k108 : FCode := ⟨6, c108, [.tmp 2], none⟩
def c109 : LCode := .reg [⟨some 4, .mv (.t 0), none⟩,
    ⟨some 5, .mv (.t 0), none⟩,
    ⟨some 6, .len (.t 5) false, none⟩,
    ⟨some 7, .mv (.t 1), none⟩,
    ⟨some 8, .call 161 [.t 4, .t 6, .t 7], none⟩]
def k109 : FCode := ⟨9, c109, [], none⟩
def c110 : LCode := .seq (.reg [⟨some 2, .box (.t 0), none⟩,
    ⟨some 3, .box (.t 1), none⟩,
    ⟨some 4, .mv (.k (.int .i64 0)), none⟩])
   (.seq (.dreg [] [⟨some 5, .fa (.t 2) 8, none⟩,
    ⟨some 6, .ld (.t 5) 1 false, none⟩,
    ⟨some 7, .fa (.t 2) 3, none⟩,
    ⟨some 8, .ld (.t 7) 1 false, none⟩,
    ⟨some 9, .bin .add (.t 6) (.t 8) 0, none⟩,
    ⟨some 10, .fa (.t 3) 8, none⟩,
    ⟨some 11, .ld (.t 10) 1 false, none⟩,
    ⟨some 12, .fa (.t 3) 3, none⟩,
    ⟨some 13, .ld (.t 12) 1 false, none⟩,
    ⟨some 14, .bin .add (.t 11) (.t 13) 0, none⟩,
    ⟨some 15, .kcall 112 [.t 9, .t 14], none⟩,
    ⟨some 16, .fa (.t 2) 0, none⟩,
    ⟨some 17, .ld (.t 16) 1 false, none⟩,
    ⟨some 18, .fa (.t 3) 0, none⟩,
    ⟨some 19, .ld (.t 18) 1 false, none⟩,
    ⟨some 20, .call 112 [.t 17, .t 19], none⟩,
    ⟨some 21, .mks 1 [.t 15, .t 20], none⟩,
    ⟨some 22, .call 111 [.t 21], none⟩,
    ⟨some 4, .mv (.t 22), none⟩])
   (.ret))
def k110 : FCode := ⟨23, c110, [.tmp 4], none⟩
def c111 : LCode := .seq (.reg [⟨some 2, .mv (.k (.int .i64 0)), none⟩])
   (.seq (.reg [⟨some 3, .mv (.k (.int .i64 0)), none⟩])
   (.seq (.seq (.reg [⟨some 6, .mv (.t 0), none⟩,
    ⟨some 7, .len (.t 6) false, none⟩,
    ⟨some 8, .mv (.k (.int .i64 0)), none⟩])
   (.block 0 (.loop (.seq (.reg [⟨some 9, .bin .lss (.t 8) (.t 7) 0, none⟩])
   (.seq (.cond (.t 9) (.skip) (.exit 0))
   (.seq (.block 1 (.seq (.reg [⟨some 10, .ix 1 (.t 6) (.t 8), none⟩,
    ⟨some 11, .ld (.t 10) 1 false, none⟩,
    ⟨some 5, .mv (.t 11), none⟩])
   (.seq (.reg [⟨some 12, .mv (.t 5), none⟩,
    ⟨some 13, .mv (.t 3), none⟩,
    ⟨some 14, .bin .neq (.t 12) (.t 13) 0, none⟩])
   (.cond (.t 14) (.seq (.reg [⟨some 15, .mv (.t 5), none⟩,
    ⟨some 2, .mv (.t 15), none⟩])
   (.ret)) (.skip)))))
   (.reg [⟨some 16, .bin .add (.t 8) (.k (.int .i64 1)) 0, none⟩,
    ⟨some 8, .mv (.t 16), none⟩])))))))
   (.seq (.reg [⟨some 17, .mv (.t 3), none⟩,
    ⟨some 2, .mv (.t 17), none⟩])
   (.ret))))
def k111 : FCode := ⟨18, c111, [.tmp 2], none⟩
def c112 : LCode := .seq (.reg [⟨some 4, .mv (.k (.int .i64 0)), none⟩])
   (.seq (.reg [⟨some 7, .mv (.t 0), none⟩,
    ⟨some 8, .call 162 [.t 7], none⟩,
    ⟨some 5, .mv (.t 8), none⟩])
   (.seq (.reg [⟨some 9, .mv (.t 1), none⟩,
    ⟨some 10, .call 162 [.t 9], none⟩,
    ⟨some 6, .mv (.t 10), none⟩])
   (.seq (.seq (.reg [⟨some 11, .mv (.t 5), none⟩])
   (.cond (.t 11) (.seq (.seq (.reg [⟨some 12, .mv (.t 6), none⟩])
   (.cond (.t 12) (.seq (.reg [⟨some 4, .mv (.k (.int .i64 0)), none⟩])
   (.ret)) (.skip)))
   (.seq (.reg [⟨some 4, .mv (.k (.int .i64 (-1))), none⟩])
   (.ret))) (.skip)))
   (.seq (.seq (.reg [⟨some 13, .mv (.t 6), none⟩])
   (.cond (.t 13) (.seq (.reg [⟨some 4, .mv (.k (.int .i64 1)), none⟩])
   (.ret)) (.skip)))
   (.seq (.seq (.reg [⟨some 14, .mv (.t 0), none⟩,
    ⟨some 15, .mv (.t 1), none⟩,
    ⟨some 16, .bin .lss (.t 14) (.t 15) 0, none⟩])
   (.cond (.t 16) (.seq (.reg [⟨some 4, .mv (.k (.int .i64 (-1))), none⟩])
   (.ret)) (.skip)))
   (.seq (.seq (.reg [⟨some 17, .mv (.t 0), none⟩,
    ⟨some 18, .mv (.t 1), none⟩,
    ⟨some 19, .bin .gtr (.t 17) (.t 18) 0, none⟩])
   (.cond (.t 19) (.seq (.reg [⟨some 4, .mv (.k (.int .i64 1)), none⟩])
   (.ret)) (.skip)))
   (.seq (.reg [⟨some 4, .mv (.k (.int .i64 0)), none⟩])
   (.ret))))))))
def k112 : FCode := ⟨20, c112, [.tmp 4], none⟩
def c113 : LCode := .seq (.reg [⟨some 4, .mv (.k (.int .i64 0)), none⟩])
   (.seq (.seq (.reg [⟨some 6, .mv (.t 0), none⟩,
    ⟨some 7, .len (.t 6) false, none⟩,
    ⟨some 8, .mv (.k (.int .i64 0)), none⟩])
   (.block 0 (.loop (.seq (.reg [⟨some 9, .bin .lss (.t 8) (.t 7) 0, none⟩])
   (.seq (.cond (.t 9) (.skip) (.exit 0))
   (.seq (.block 1 (.seq (.reg [⟨some 10, .mv (.t 8), none⟩,
    ⟨some 5, .mv (.t 10), none⟩])
   (.seq (.reg [⟨some 11, .mv (.t 1), none⟩,
    ⟨some 12, .mv (.t 0), none⟩,
    ⟨some 13, .mv (.t 5), none⟩,
    ⟨some 14, .ix 12 (.t 12) (.t 13), none⟩,
    ⟨some 15, .ld (.t 14) 12 true, none⟩,
    ⟨some 16, .callv (.t 11) [.t 15], none⟩])
   (.cond (.t 16) (.seq (.reg [⟨some 17, .mv (.t 5), none⟩,
    ⟨some 4, .mv (.t 17), none⟩])
   (.ret)) (.skip)))))
   (.reg [⟨some 18, .bin .add (.t 8) (.k (.int .i64 1)) 0, none⟩,
    ⟨some 8, .mv (.t 18), none⟩])))))))
   (.seq (.reg [⟨some 4, .mv (.k (.int .i64 (-1))), none⟩])
   (.ret)))
def k113 : FCode := ⟨19, c113, [.tmp 4], none⟩
def c114 : LCode := .seq (.reg [⟨some 2, .box (.t 0), none⟩,
    ⟨some 3, .mv (.k (.bool false)), none⟩])
   (.seq (.reg [⟨some 4, .fa (.t 2) 0, none⟩,
    ⟨some 5, .ld (.t 4) 1 false, none⟩,
    ⟨some 6, .ld (.t 1) 1 false, none⟩,
    ⟨some 7, .bin .eql (.t 5) (.t 6) 0, none⟩,
    ⟨some 3, .mv (.t 7), none⟩])
   (.ret))
def k114 : FCode := ⟨8, c114, [.tmp 3], none⟩
def c115 : LCode := .reg [⟨some 4, .mv (.t 0), none⟩,
    ⟨some 5, .mv (.t 0), none⟩,
    ⟨some 6, .len (.t 5) false, none⟩,
    ⟨some 7, .mv (.t 1), none⟩,
    ⟨some 8, .call 163 [.t 4, .t 6, .t 7], none⟩]
def k115 : FCode := ⟨9, c115, [], none⟩
def c116 : LCode := .seq (.reg [⟨some 5, .mv (.k (.int .i64 0)), none⟩])
   (.seq (.dreg [] [⟨some 6, .ld (.t 2) 1 false, none⟩,
    ⟨some 7, .mv (.t 1), none⟩,
    ⟨some 8, .ix 12 (.t 6) (.t 7), none⟩,
    ⟨some 9, .fa (.t 8) 5, none⟩,
    ⟨some 10, .ld (.t 9) 1 false, none⟩,
    ⟨some 11, .ld (.t 2) 1 false, none⟩,
    ⟨some 12, .mv (.t 0), none⟩,
    ⟨some 13, .ix 12 (.t 11) (.t 12), none⟩,
    ⟨some 14, .fa (.t 13) 5, none⟩,
    ⟨some 15, .ld (.t 14) 1 false, none⟩,
    ⟨some 16, .kcall 112 [.t 10, .t 15], none⟩,
    ⟨some 17, .ld (.t 2) 1 false, none⟩,
    ⟨some 18, .mv (.t 0), none⟩,
    ⟨some 19, .ix 12 (.t 17) (.t 18), none⟩,
    ⟨some 20, .fa (.t 19) 0, none⟩,
    ⟨some 21, .ld (.t 20) 1 false, none⟩,
    ⟨some 22, .ld (.t 2) 1 false, none⟩,
    ⟨some 23, .mv (.t 1), none⟩,
    ⟨some 24, .ix 12 (.t 22) (.t 23), none⟩,
    ⟨some 25, .fa (.t 24) 0, none⟩,
    ⟨some 26, .ld (.t 25) 1 false, none⟩,
    ⟨some 27, .call 112 [.t 21, .t 26], none⟩,
    ⟨some 28, .mks 1 [.t 16, .t 27], none⟩,
    ⟨some 29, .call 111 [.t 28], none⟩,
    ⟨some 5, .mv (.t 29), none⟩])
   (.ret))
def k116 : FCode := ⟨30, c116, [.tmp 5], none⟩
def c117 : LCode := .seq (.reg [⟨some 4, .mv (.k (.int .i64 0)), none⟩])
   (.seq (.seq (.reg [⟨some 6, .mv (.t 0), none⟩,
    ⟨some 7, .len (.t 6) false, none⟩,
    ⟨some 8, .mv (.k (.int .i64 0)), none⟩])
   (.block 0 (.loop (.seq (.reg [⟨some 9, .bin .lss (.t 8) (.t 7) 0, none⟩])
   (.seq (.cond (.t 9) (.skip) (.exit 0))
   (.seq (.block 1 (.seq (.reg [⟨some 10, .mv (.t 8), none⟩,
    ⟨some 5, .mv (.t 10), none⟩])
   (.seq (.reg [⟨some 11, .mv (.t 1), none⟩,
    ⟨some 12, .mv (.t 0), none⟩,
    ⟨some 13, .mv (.t 5), none⟩,
    ⟨some 14, .ix 1 (.t 12) (.t 13), none⟩,
    ⟨some 15, .ld (.t 14) 1 false, none⟩,
    ⟨some 16, .bin .eql (.t 11) (.t 15) 0, none⟩])
   (.cond (.t 16) (.seq (.reg [⟨some 17, .mv (.t 5), none⟩,
    ⟨some 4, .mv (.t 17), none⟩])
   (.ret)) (.skip)))))
   (.reg [⟨some 18, .bin .add (.t 8) (.k (.int .i64 1)) 0, none⟩,
    ⟨some 8, .mv (.t 18), none⟩])))))))
   (.seq (.reg [⟨some 4, .mv (.k (.int .i64 (-1))), none⟩])
   (.ret)))
def k117 : FCode := ⟨19, c117, [.tmp 4], none⟩
def c118 : LCode := .seq (.reg [⟨some 4, .mv (.k (.int .i64 0)), none⟩])
   (.seq (.reg [⟨some 5, .mv (.k (.int .i64 0)), none⟩])
   (.seq (.seq (.reg [⟨some 8, .mv (.t 0), none⟩,
    ⟨some 9, .len (.t 8) false, none⟩,
    ⟨some 10, .mv (.k (.int .i64 0)), none⟩])
   (.block 0 (.loop (.seq (.reg [⟨some 11, .bin .lss (.t 10) (.t 9) 0, none⟩])
   (.seq (.cond (.t 11) (.skip) (.exit 0))
   (.seq (.block 1 (.seq (.reg [⟨some 12, .ix 2 (.t 8) (.t 10), none⟩,
    ⟨some 13, .ld (.t 12) 2 true, none⟩,
    ⟨some 7, .alloc [.int .i64 0, .int .i64 0], none⟩,
    ⟨none, .st (.t 7) (.t 13) 2, none⟩])
   (.seq (.reg [⟨some 14, .fa (.t 7) 0, none⟩,
    ⟨some 15, .ld (.t 14) 1 false, none⟩,
    ⟨some 16, .mv (.t 1), none⟩,
    ⟨some 17, .bin .leq (.t 15) (.t 16) 0, none⟩])
   (.cond (.t 17) (.reg [⟨some 18, .fa (.t 7) 1, none⟩,
    ⟨some 19, .ld (.t 18) 1 false, none⟩,
    ⟨some 5, .mv (.t 19), none⟩]) (.skip)))))
   (.reg [⟨some 20, .bin .add (.t 10) (.k (.int .i64 1)) 0, none⟩,
    ⟨some 10, .mv (.t 20), none⟩])))))))
   (.seq (.reg [⟨some 21, .mv (.t 5), none⟩,
    ⟨some 4, .mv (.t 21), none⟩])
   (.ret))))
def k118 : FCode := ⟨22, c118, [.tmp 4], none⟩
def c119 : LCode := .seq (.reg [⟨some 6, .mv (.k (.ro 2 [] true)), none⟩])
   (.seq (.reg [⟨some 14, .mv (.t 2), none⟩,
    ⟨some 15, .call 164 [.t 14], none⟩,
    ⟨some 7, .mv (.t 15), none⟩])
   (.seq (.reg [⟨some 16, .mv (.t 7), none⟩,
    ⟨some 17, .call 165 [.t 16, .k (.fn 166 [])], none⟩])
   (.seq (.reg [⟨some 18, .mv (.t 1), none⟩,
    ⟨some 8, .mv (.t 18), none⟩])
   (.seq (.seq (.reg [⟨some 19, .mv (.t 7), none⟩,
    ⟨some 20, .len (.t 19) false, none⟩,
    ⟨some 21, .mv (.k (.int .i64 0)), none⟩])
   (.block 0 (.loop (.seq (.reg [⟨some 22, .bin .lss (.t 21) (.t 20) 0, none⟩])
   (.seq (.cond (.t 22) (.skip) (.exit 0))
   (.seq (.block 1 (.seq (.reg [⟨some 23, .ix 2 (.t 19) (.t 21), none⟩,
    ⟨some 24, .ld (.t 23) 2 true, none⟩,
    ⟨some 10, .alloc [.int .i64 0, .int .i64 0], none⟩,
    ⟨none, .st (.t 10) (.t 24) 2, none⟩])
   (.seq (.reg [⟨some 25, .fa (.t 10) 0, none⟩,
    ⟨some 26, .ld (.t 25) 1 false, none⟩,
    ⟨some 27, .mv (.t 0), none⟩,
    ⟨some 28, .bin .gtr (.t 26) (.t 27) 0, none⟩])
   (.cond (.t 28) (.reg [⟨some 29, .mv (.t 8), none⟩,
    ⟨some 30, .fa (.t 10) 1, none⟩,
    ⟨some 31, .ld (.t 30) 1 false, none⟩,
    ⟨some 32, .bin .sub (.t 29) (.t 31) 0, none⟩,
    ⟨some 8, .mv (.t 32), none⟩]) (.skip)))))
   (.reg [⟨some 33, .bin .add (.t 21) (.k (.int .i64 1)) 0, none⟩,
    ⟨some 21, .mv (.t 33), none⟩])))))))
   (.seq (.reg [⟨some 34, .mv (.t 0), none⟩,
    ⟨some 35, .mv (.t 8), none⟩,
    ⟨some 36, .build [.int .i64 0, .int .i64 0] [(0, 1, .t 34), (1, 1, .t 35)], none⟩,
    ⟨some 37, .mks 2 [.t 36], none⟩,
    ⟨some 11, .mv (.t 37), none⟩])
   (.seq (.seq (.reg [⟨some 38, .mv (.t 7), none⟩,
    ⟨some 39, .len (.t 38) false, none⟩,
    ⟨some 40, .mv (.k (.int .i64 0)), none⟩])
   (.block 2 (.loop (.seq (.reg [⟨some 41, .bin .lss (.t 40) (.t 39) 0, none⟩])
   (.seq (.cond (.t 41) (.skip) (.exit 2))
   (.seq (.block 3 (.seq (.reg [⟨some 42, .ix 2 (.t 38) (.t 40), none⟩,
    ⟨some 43, .ld (.t 42) 2 true, none⟩,
    ⟨some 13, .alloc [.int .i64 0, .int .i64 0], none⟩,
    ⟨none, .st (.t 13) (.t 43) 2, none⟩])
   (.seq (.reg [⟨some 44, .fa (.t 13) 0, none⟩,
    ⟨some 45, .ld (.t 44) 1 false, none⟩,
    ⟨some 46, .mv (.t 0), none⟩,
    ⟨some 47, .bin .gtr (.t 45) (.t 46) 0, none⟩])
   (.cond (.t 47) (.seq (.reg [⟨some 48, .mv (.t 8), none⟩,
    ⟨some 49, .fa (.t 13) 1, none⟩,
    ⟨some 50, .ld (.t 49) 1 false, none⟩,
    ⟨some 51, .bin .add (.t 48) (.t 50) 0, none⟩,
    ⟨some 8, .mv (.t 51), none⟩])
   (.reg [⟨some 52, .mv (.t 11), none⟩,
    ⟨some 53, .fa (.t 13) 0, none⟩,
    ⟨some 54, .ld (.t 53) 1 false, none⟩,
    ⟨some 55, .mv (.t 8), none⟩,
    ⟨some 56, .build [.int .i64 0, .int .i64 0] [(0, 1, .t 54), (1, 1, .t 55)], none⟩,
    ⟨some 57, .mks 2 [.t 56], none⟩,
    ⟨some 58, .app 2 16 (.t 52) (.t 57), none⟩,
    ⟨some 11, .mv (.t 58), none⟩])) (.skip)))))
   (.reg [⟨some 59, .bin .add (.t 40) (.k (.int .i64 1)) 0, none⟩,
    ⟨some 40, .mv (.t 59), none⟩])))))))
   (.seq (.reg [⟨some 60, .mv (.t 11), none⟩,
    ⟨some 61, .call 167 [.t 60], none⟩,
    ⟨some 6, .mv (.t 61), none⟩])
   (.ret))))))))
def k119 : FCode := ⟨62, c119, [.tmp 6], none⟩
def c120 : LCode := .seq (.reg [⟨some 8, .mv (.k (.bool false)), none⟩])
   (.seq (.reg [⟨some 9, .mv (.t 2), none⟩,
    ⟨some 10, .mv (.t 0), none⟩,
    ⟨some 11, .ix 2 (.t 9) (.t 10), none⟩,
    ⟨some 12, .fa (.t 11) 0, none⟩,
    ⟨some 13, .ld (.t 12) 1 false, none⟩,
    ⟨some 14, .mv (.t 1), none⟩,
    ⟨some 15, .bin .leq (.t 13) (.t 14) 0, none⟩,
    ⟨some 16, .mv (.t 15), none⟩,
    ⟨some 17, .mv (.t 0), some (16, true)⟩,
    ⟨some 18, .mv (.t 3), some (16, true)⟩,
    ⟨some 19, .len (.t 18) false, some (16, true)⟩,
    ⟨some 20, .bin .geq (.t 17) (.t 19) 0, some (16, true)⟩,
    ⟨some 21, .mv (.t 20), some (16, true)⟩,
    ⟨some 22, .mv (.t 3), some (21, false)⟩,
    ⟨some 23, .mv (.t 0), some (21, false)⟩,
    ⟨some 24, .ix 1 (.t 22) (.t 23), some (21, false)⟩,
    ⟨some 25, .ld (.t 24) 1 false, some (21, false)⟩,
    ⟨some 26, .un .not (.t 25), some (21, false)⟩,
    ⟨some 27, .pick (.t 21) (.k (.bool true)) (.t 26), some (16, true)⟩,
    ⟨some 28, .pick (.t 16) (.t 27) (.k (.bool false)), none⟩,
    ⟨some 8, .mv (.t 28), none⟩])
   (.ret))
def k120 : FCode := ⟨29, c120, [.tmp 8], none⟩
def c121 : LCode := .seq (.reg [⟨some 8, .mv (.k (.int .i64 0)), none⟩,
    ⟨some 9, .mv (.k (.int .i64 0)), none⟩,
    ⟨some 10, .mv (.k (.bool false)), none⟩])
   (.seq (.reg [⟨some 12, .mv (.t 0), none⟩,
    ⟨some 13, .mv (.t 1), none⟩,
    ⟨some 14, .mv (.t 2), none⟩,
    ⟨some 15, .call 119 [.t 12, .t 13, .t 14], none⟩,
    ⟨some 11, .mv (.t 15), none⟩])
   (.seq (.reg [⟨some 17, .mv (.t 11), none⟩,
    ⟨some 18, .mv (.t 3), none⟩,
    ⟨some 19, .call 168 [.t 17, .t 18, .k (.int .i64 1)], none⟩,
    ⟨some 16, .mv (.t 19), none⟩,
    ⟨some 20, .ext (.t 16) 0, none⟩,
    ⟨some 21, .ext (.t 16) 1, none⟩,
    ⟨some 8, .mv (.t 20), none⟩,
    ⟨some 10, .mv (.t 21), none⟩])
   (.seq (.seq (.reg [⟨some 22, .mv (.t 10), none⟩,
    ⟨some 23, .un .not (.t 22), none⟩])
   (.cond (.t 23) (.seq (.reg [⟨some 8, .mv (.k (.int .i64 0)), none⟩,
    ⟨some 9, .mv (.k (.int .i64 0)), none⟩,
    ⟨some 10, .mv (.k (.bool false)), none⟩])
   (.ret)) (.skip)))
   (.seq (.reg [⟨some 24, .mv (.t 8), none⟩,
    ⟨some 25, .mv (.t 11), none⟩,
    ⟨some 26, .mv (.t 8), none⟩,
    ⟨some 27, .call 118 [.t 25, .t 26], none⟩,
    ⟨some 28, .mv (.t 3), none⟩,
    ⟨some 29, .bin .sub (.t 27) (.t 28) 0, none⟩,
    ⟨some 8, .mv (.t 24), none⟩,
    ⟨some 9, .mv (.t 29), none⟩,
    ⟨some 10, .mv (.k (.bool true)), none⟩])
   (.ret)))))
def k121 : FCode := ⟨30, c121, [.tmp 8, .tmp 9, .tmp 10], none⟩
def c122 : LCode := .seq (.reg [⟨some 10, .mv (.k (.ro 1 [] true)), none⟩])
   (.seq (.reg [⟨some 11, .mv (.k (.ro 1 [] true)), none⟩])
   (.seq (.reg [⟨some 17, .mv (.t 0), none⟩,
    ⟨some 18, .mv (.t 1), none⟩,
    ⟨some 19, .mv (.t 2), none⟩,
    ⟨some 20, .call 119 [.t 17, .t 18, .t 19], none⟩,
    ⟨some 12, .mv (.t 20), none⟩])
   (.seq (.seq (.reg [⟨some 21, .mv (.t 3), none⟩,
    ⟨some 22, .len (.t 21) false, none⟩,
    ⟨some 23, .mv (.k (.int .i64 0)), none⟩])
   (.block 0 (.loop (.seq (.reg [⟨some 24, .bin .lss (.t 23) (.t 22) 0, none⟩])
   (.seq (.cond (.t 24) (.skip) (.exit 0))
   (.seq (.block 1 (.seq (.reg [⟨some 25, .mv (.t 23), none⟩,
    ⟨some 26, .ix 2 (.t 21) (.t 23), none⟩,
    ⟨some 27, .ld (.t 26) 2 true, none⟩,
    ⟨some 14, .alloc [.int .i64 0, .int .i64 0], none⟩,
    ⟨some 13, .mv (.t 25), none⟩,
    ⟨none, .st (.t 14) (.t 27) 2, none⟩])
   (.seq (.reg [⟨some 15, .mv (.k (.int .i64 0)), none⟩,
    ⟨some 16, .mv (.k (.bool false)), none⟩])
   (.seq (.seq (.reg [⟨some 28, .mv (.t 13), none⟩,
    ⟨some 29, .mv (.t 4), none⟩,
    ⟨some 30, .len (.t 29) false, none⟩,
    ⟨some 31, .bin .geq (.t 28) (.t 30) 0, none⟩,
    ⟨some 32, .mv (.t 31), none⟩,
    ⟨some 33, .mv (.t 4), some (32, false)⟩,
    ⟨some 34, .mv (.t 13), some (32, false)⟩,
    ⟨some 35, .ix 1 (.t 33) (.t 34), some (32, false)⟩,
    ⟨some 36, .ld (.t 35) 1 false, some (32, false)⟩,
    ⟨some 37, .un .not (.t 36), some (32, false)⟩,
    ⟨some 38, .pick (.t 32) (.k (.bool true)) (.t 37), none⟩])
   (.cond (.t 38) (.reg [⟨some 40, .mv (.t 12), none⟩,
    ⟨some 41, .fa (.t 14) 0, none⟩,
    ⟨some 42, .ld (.t 41) 1 false, none⟩,
    ⟨some 43, .fa (.t 14) 1, none⟩,
    ⟨some 44, .ld (.t 43) 1 false, none⟩,
    ⟨some 45, .call 168 [.t 40, .t 42, .t 44], none⟩,
    ⟨some 39, .mv (.t 45), none⟩,
    ⟨some 46, .ext (.t 39) 0, none⟩,
    ⟨some 47, .ext (.t 39) 1, none⟩,
    ⟨some 15, .mv (.t 46), none⟩,
    ⟨some 16, .mv (.t 47), none⟩]) (.skip)))
   (.seq (.seq (.reg [⟨some 48, .mv (.t 16), none⟩,
    ⟨some 49, .un .not (.t 48), none⟩])
   (.cond (.t 49) (.seq (.reg [⟨some 50, .mv (.t 11), none⟩,
    ⟨some 51, .mks 1 [.k (.int .i64 (-1))], none⟩,
    ⟨some 52, .app 1 8 (.t 50) (.t 51), none⟩,
    ⟨some 11, .mv (.t 52), none⟩])
   (.exit 1)) (.skip)))
   (.seq (.reg [⟨some 53, .mv (.t 11), none⟩,
    ⟨some 54, .mv (.t 15), none⟩,
    ⟨some 55, .mks 1 [.t 54], none⟩,
    ⟨some 56, .app 1 8 (.t 53) (.t 55), none⟩,
    ⟨some 11, .mv (.t 56), none⟩])
   (.reg [⟨some 57, .mv (.t 12), none⟩,
    ⟨some 58, .mv (.t 15), none⟩,
    ⟨some 59, .fa (.t 14) 1, none⟩,
    ⟨some 60, .ld (.t 59) 1 false, none⟩,
    ⟨some 61, .mm true (.t 60) [.k (.int .i64 1)], none⟩,
    ⟨some 62, .fa (.t 14) 0, none⟩,
    ⟨some 63, .ld (.t 62) 1 false, none⟩,
    ⟨some 64, .call 169 [.t 57, .t 58, .t 61, .t 63], none⟩,
    ⟨some 12, .mv (.t 64), none⟩])))))))
   (.reg [⟨some 65, .bin .add (.t 23) (.k (.int .i64 1)) 0, none⟩,
    ⟨some 23, .mv (.t 65), none⟩])))))))
   (.seq (.reg [⟨some 66, .mv (.t 11), none⟩,
    ⟨some 67, .call 59 [.t 66], none⟩,
    ⟨some 10, .mv (.t 67), none⟩])
   (.ret)))))
def k122 : FCode := ⟨68, c122, [.tmp 10], none⟩
def c123 : LCode := .seq (.reg [⟨some 2, .mv (.k (.ro 2 [] true)), none⟩])
   (.seq (.reg [⟨some 3, .mv (.t 0), none⟩,
    ⟨some 4, .mv (.t 0), none⟩,
    ⟨some 5, .len (.t 4) false, none⟩,
    ⟨some 6, .mv (.t 0), none⟩,
    ⟨some 7, .len (.t 6) false, none⟩,
    ⟨some 8, .slc 2 (.t 3) (none) (some (.t 5)) (some (.t 7)), none⟩,
    ⟨some 2, .mv (.t 8), none⟩])
   (.ret))
def k123 : FCode := ⟨9, c123, [.tmp 2], none⟩
def c124 : LCode := .seq (.reg [⟨some 2, .mv (.k (.ro 2 [] true)), none⟩])
   (.seq (.reg [⟨some 3, .mv (.t 0), none⟩,
    ⟨some 4, .mv (.t 0), none⟩,
    ⟨some 5, .len (.t 4) false, none⟩,
    ⟨some 6, .mv (.t 0), none⟩,
    ⟨some 7, .len (.t 6) false, none⟩,
    ⟨some 8, .slc 2 (.t 3) (none) (some (.t 5)) (some (.t 7)), none⟩,
    ⟨some 2, .mv (.t 8), none⟩])
   (.ret))
def k124 : FCode := ⟨9, c124, [.tmp 2], none⟩
def c125 : LCode := .seq (.reg [⟨some 6, .mv (.k (.bool false)), none⟩])
   (.seq (.dreg [(10, 7)] [⟨some 9, .mv (.t 0), none⟩,
    ⟨some 10, .mv (.t 1), none⟩,
    ⟨some 11, .ix 12 (.t 9) (.t 10), none⟩,
    ⟨some 12, .ld (.t 11) 12 true, none⟩,
    ⟨some 13, .mv (.t 0), none⟩,
    ⟨some 14, .mv (.t 2), none⟩,
    ⟨some 15, .ix 12 (.t 13) (.t 14), none⟩,
    ⟨some 16, .ld (.t 15) 12 true, none⟩,
    ⟨some 7, .alloc [.int .i64 0, .int .i64 0, .int .i64 0, .int .i64 0, .int .i64 0, .int .i64 0, .int .i64 0, .int .i64 0, .int .i64 0, .int .i64 0, .int .i64 0, .ro 2 [] true], none⟩,
    ⟨some 8, .alloc [.int .i64 0, .int .i64 0, .int .i64 0, .int .i64 0, .int .i64 0, .int .i64 0, .int .i64 0, .int .i64 0, .int .i64 0, .int .i64 0, .int .i64 0, .ro 2 [] true], none⟩,
    ⟨none, .st (.t 7) (.t 12) 12, none⟩,
    ⟨none, .st (.t 8) (.t 16) 12, none⟩])
   (.seq (.seq (.reg [⟨some 17, .fa (.t 7) 5, none⟩,
    ⟨some 18, .ld (.t 17) 1 false, none⟩,
    ⟨some 19, .fa (.t 8) 5, none⟩,
    ⟨some 20, .ld (.t 19) 1 false, none⟩,
    ⟨some 21, .bin .neq (.t 18) (.t 20) 0, none⟩])
   (.cond (.t 21) (.seq (.reg [⟨some 22, .fa (.t 7) 5, none⟩,
    ⟨some 23, .ld (.t 22) 1 false, none⟩,
    ⟨some 24, .fa (.t 8) 5, none⟩,
    ⟨some 25, .ld (.t 24) 1 false, none⟩,
    ⟨some 26, .bin .gtr (.t 23) (.t 25) 0, none⟩,
    ⟨some 6, .mv (.t 26), none⟩])
   (.ret)) (.skip)))
   (.seq (.seq (.reg [⟨some 27, .fa (.t 7) 0, none⟩,
    ⟨some 28, .ld (.t 27) 1 false, none⟩,
    ⟨some 29, .fa (.t 8) 0, none⟩,
    ⟨some 30, .ld (.t 29) 1 false, none⟩,
    ⟨some 31, .bin .neq (.t 28) (.t 30) 0, none⟩])
   (.cond (.t 31) (.seq (.reg [⟨some 32, .fa (.t 7) 0, none⟩,
    ⟨some 33, .ld (.t 32) 1 false, none⟩,
    ⟨some 34, .fa (.t 8) 0, none⟩,
    ⟨some 35, .ld (.t 34) 1 false, none⟩,
    ⟨some 36, .bin .lss (.t 33) (.t 35) 0, none⟩,
    ⟨some 6, .mv (.t 36), none⟩])
   (.ret)) (.skip)))
   (.seq (.reg [⟨some 37, .mv (.t 1), none⟩,
    ⟨some 38, .mv (.t 2), none⟩,
    ⟨some 39, .bin .lss (.t 37) (.t 38) 0, none⟩,
    ⟨some 6, .mv (.t 39), none⟩])
   (.ret)))))
def k125 : FCode := ⟨40, c125, [.tmp 6], none⟩
def c126 : LCode := .seq (.reg [⟨some 8, .mv (.k (.bool false)), none⟩])
   (.seq (.seq (.reg [⟨some 9, .mv (.t 3), none⟩,
    ⟨some 10, .mv (.t 2), none⟩,
    ⟨some 11, .len (.t 10) false, none⟩,
    ⟨some 12, .bin .lss (.t 9) (.t 11) 0, none⟩,
    ⟨some 13, .mv (.t 12), none⟩,
    ⟨some 14, .mv (.t 2), some (13, true)⟩,
    ⟨some 15, .mv (.t 3), some (13, true)⟩,
    ⟨some 16, .ix 1 (.t 14) (.t 15), some (13, true)⟩,
    ⟨some 17, .ld (.t 16) 1 false, some (13, true)⟩,
    ⟨some 18, .pick (.t 13) (.t 17) (.k (.bool false)), none⟩])
   (.cond (.t 18) (.seq (.reg [⟨some 8, .mv (.k (.bool false)), none⟩])
   (.ret)) (.skip)))
   (.seq (.reg [⟨some 19, .mv (.t 1), none⟩,
    ⟨some 20, .mv (.t 3), none⟩,
    ⟨some 21, .ix 2 (.t 19) (.t 20), none⟩,
    ⟨some 22, .fa (.t 21) 0, none⟩,
    ⟨some 23, .ld (.t 22) 1 false, none⟩,
    ⟨some 24, .mv (.t 0), none⟩,
    ⟨some 25, .bin .leq (.t 23) (.t 24) 0, none⟩,
    ⟨some 8, .mv (.t 25), none⟩])
   (.ret)))
def k126 : FCode := ⟨26, c126, [.tmp 8], none⟩
def c127 : LCode := .seq (.reg [⟨some 6, .mv (.k (.int .i64 0)), none⟩])
   (.seq (.seq (.reg [⟨some 7, .mv (.k (.int .i64 0)), none⟩])
   (.block 0 (.loop (.seq (.seq (.reg [⟨some 8, .mv (.t 7), none⟩,
    ⟨some 9, .mv (.t 1), none⟩,
    ⟨some 10, .len (.t 9) false, none⟩,
    ⟨some 11, .bin .lss (.t 8) (.t 10) 0, none⟩])
   (.cond (.t 11) (.skip) (.exit 0)))
   (.seq (.block 1 (.seq (.reg [⟨some 14, .mv (.t 1), none⟩,
    ⟨some 15, .mv (.t 7), none⟩,
    ⟨some 16, .ix 2 (.t 14) (.t 15), none⟩,
    ⟨some 17, .fa (.t 16) 0, none⟩,
    ⟨some 18, .ld (.t 17) 1 false, none⟩,
    ⟨some 19, .mv (.t 2), none⟩,
    ⟨some 20, .bin .gtr (.t 18) (.t 19) 0, none⟩])
   (.cond (.t 20) (.reg [⟨some 21, .mv (.t 0), none⟩,
    ⟨some 22, .mv (.t 1), none⟩,
    ⟨some 23, .mv (.t 7), none⟩,
    ⟨some 24, .ix 2 (.t 22) (.t 23), none⟩,
    ⟨some 25, .fa (.t 24) 1, none⟩,
    ⟨some 26, .ld (.t 25) 1 false, none⟩,
    ⟨some 27, .bin .sub (.t 21) (.t 26) 0, none⟩,
    ⟨some 0, .mv (.t 27), none⟩]) (.skip))))
   (.reg [⟨some 12, .mv (.t 7), none⟩,
    ⟨some 13, .bin .add (.t 12) (.k (.int .i64 1)) 0, none⟩,
    ⟨some 7, .mv (.t 13), none⟩]))))))
   (.seq (.reg [⟨some 28, .mv (.t 0), none⟩,
    ⟨some 6, .mv (.t 28), none⟩])
   (.ret)))
def k127 : FCode := ⟨29, c127, [.tmp 6], none⟩
def c128 : LCode := .seq (.reg [⟨some 8, .mv (.k (.int .i64 0)), none⟩,
    ⟨some 9, .mv (.k (.int .i64 0)), none⟩,
    ⟨some 10, .mv (.k (.bool false)), none⟩])
   (.seq (.reg [⟨some 11, .mv (.k (.int .i64 (-1))), none⟩])
   (.seq (.seq (.reg [⟨some 12, .mv (.k (.int .i64 (-1))), none⟩])
   (.block 0 (.loop (.seq (.seq (.reg [⟨some 14, .mv (.t 12), none⟩,
    ⟨some 15, .mv (.t 2), none⟩,
    ⟨some 16, .len (.t 15) false, none⟩,
    ⟨some 17, .bin .lss (.t 14) (.t 16) 0, none⟩])
   (.cond (.t 17) (.skip) (.exit 0)))
   (.seq (.block 1 (.seq (.reg [⟨some 20, .mv (.t 0), none⟩,
    ⟨some 13, .mv (.t 20), none⟩])
   (.seq (.seq (.reg [⟨some 21, .mv (.t 12), none⟩,
    ⟨some 22, .bin .geq (.t 21) (.k (.int .i64 0)) 0, none⟩])
   (.cond (.t 22) (.reg [⟨some 23, .mv (.t 2), none⟩,
    ⟨some 24, .mv (.t 12), none⟩,
    ⟨some 25, .ix 2 (.t 23) (.t 24), none⟩,
    ⟨some 26, .fa (.t 25) 0, none⟩,
    ⟨some 27, .ld (.t 26) 1 false, none⟩,
    ⟨some 13, .mv (.t 27), none⟩]) (.skip)))
   (.seq (.reg [⟨some 28, .mv (.t 13), none⟩,
    ⟨some 29, .mv (.t 0), none⟩,
    ⟨some 30, .bin .geq (.t 28) (.t 29) 0, none⟩,
    ⟨some 31, .mv (.t 30), none⟩,
    ⟨some 32, .mv (.t 1), some (31, true)⟩,
    ⟨some 33, .mv (.t 2), some (31, true)⟩,
    ⟨some 34, .mv (.t 13), some (31, true)⟩,
    ⟨some 35, .call 127 [.t 32, .t 33, .t 34], some (31, true)⟩,
    ⟨some 36, .mv (.t 3), some (31, true)⟩,
    ⟨some 37, .bin .geq (.t 35) (.t 36) 0, some (31, true)⟩,
    ⟨some 38, .pick (.t 31) (.t 37) (.k (.bool false)), none⟩,
    ⟨some 39, .mv (.t 38), none⟩,
    ⟨some 40, .mv (.t 11), some (39, true)⟩,
    ⟨some 41, .bin .lss (.t 40) (.k (.int .i64 0)) 0, some (39, true)⟩,
    ⟨some 42, .mv (.t 41), some (39, true)⟩,
    ⟨some 43, .mv (.t 13), some (42, false)⟩,
    ⟨some 44, .mv (.t 11), some (42, false)⟩,
    ⟨some 45, .bin .lss (.t 43) (.t 44) 0, some (42, false)⟩,
    ⟨some 46, .pick (.t 42) (.k (.bool true)) (.t 45), some (39, true)⟩,
    ⟨some 47, .pick (.t 39) (.t 46) (.k (.bool false)), none⟩])
   (.cond (.t 47) (.reg [⟨some 48, .mv (.t 13), none⟩,
    ⟨some 11, .mv (.t 48), none⟩]) (.skip))))))
   (.reg [⟨some 18, .mv (.t 12), none⟩,
    ⟨some 19, .bin .add (.t 18) (.k (.int .i64 1)) 0, none⟩,
    ⟨some 12, .mv (.t 19), none⟩]))))))
   (.seq (.seq (.reg [⟨some 49, .mv (.t 11), none⟩,
    ⟨some 50, .bin .lss (.t 49) (.k (.int .i64 0)) 0, none⟩])
   (.cond (.t 50) (.seq (.reg [⟨some 8, .mv (.k (.int .i64 0)), none⟩,
    ⟨some 9, .mv (.k (.int .i64 0)), none⟩,
    ⟨some 10, .mv (.k (.bool false)), none⟩])
   (.ret)) (.skip)))
   (.seq (.reg [⟨some 51, .mv (.t 11), none⟩,
    ⟨some 52, .mv (.t 1), none⟩,
    ⟨some 53, .mv (.t 2), none⟩,
    ⟨some 54, .mv (.t 11), none⟩,
    ⟨some 55, .call 127 [.t 52, .t 53, .t 54], none⟩,
    ⟨some 56, .mv (.t 3), none⟩,
    ⟨some 57, .bin .sub (.t 55) (.t 56) 0, none⟩,
    ⟨some 8, .mv (.t 51), none⟩,
    ⟨some 9, .mv (.t 57), none⟩,
    ⟨some 10, .mv (.k (.bool true)), none⟩])
   (.ret)))))
def k128 : FCode := ⟨58, c128, [.tmp 8, .tmp 9, .tmp 10], none⟩
def c129 : LCode := .seq (.reg [⟨some 10, .mv (.k (.bool false)), none⟩])
   (.seq (.seq (.reg [⟨some 12, .mv (.t 0), none⟩,
    ⟨some 13, .mv (.t 1), none⟩,
    ⟨some 14, .mv (.t 2), none⟩,
    ⟨some 15, .call 170 [.t 12, .t 13, .t 14], none⟩,
    ⟨some 16, .mv (.t 4), none⟩,
    ⟨some 17, .bin .lss (.t 15) (.t 16) 0, none⟩])
   (.cond (.t 17) (.seq (.reg [⟨some 10, .mv (.k (.bool false)), none⟩])
   (.ret)) (.skip)))
   (.seq (.seq (.reg [⟨some 11, .mv (.k (.int .i64 0)), none⟩])
   (.block 0 (.loop (.seq (.seq (.reg [⟨some 18, .mv (.t 11), none⟩,
    ⟨some 19, .mv (.t 1), none⟩,
    ⟨some 20, .len (.t 19) false, none⟩,
    ⟨some 21, .bin .lss (.t 18) (.t 20) 0, none⟩])
   (.cond (.t 21) (.skip) (.exit 0)))
   (.seq (.block 1 (.seq (.reg [⟨some 24, .mv (.t 1), none⟩,
    ⟨some 25, .mv (.t 11), none⟩,
    ⟨some 26, .ix 3 (.t 24) (.t 25), none⟩,
    ⟨some 27, .fa (.t 26) 0, none⟩,
    ⟨some 28, .ld (.t 27) 1 false, none⟩,
    ⟨some 29, .mv (.t 2), none⟩,
    ⟨some 30, .bin .gtr (.t 28) (.t 29) 0, none⟩,
    ⟨some 31, .mv (.t 30), none⟩,
    ⟨some 32, .mv (.t 1), some (31, true)⟩,
    ⟨some 33, .mv (.t 11), some (31, true)⟩,
    ⟨some 34, .ix 3 (.t 32) (.t 33), some (31, true)⟩,
    ⟨some 35, .fa (.t 34) 0, some (31, true)⟩,
    ⟨some 36, .ld (.t 35) 1 false, some (31, true)⟩,
    ⟨some 37, .mv (.t 2), some (31, true)⟩,
    ⟨some 38, .mv (.t 3), some (31, true)⟩,
    ⟨some 39, .bin .add (.t 37) (.t 38) 0, some (31, true)⟩,
    ⟨some 40, .bin .lss (.t 36) (.t 39) 0, some (31, true)⟩,
    ⟨some 41, .pick (.t 31) (.t 40) (.k (.bool false)), none⟩,
    ⟨some 42, .mv (.t 41), none⟩,
    ⟨some 43, .mv (.t 0), some (42, true)⟩,
    ⟨some 44, .mv (.t 1), some (42, true)⟩,
    ⟨some 45, .mv (.t 1), some (42, true)⟩,
    ⟨some 46, .mv (.t 11), some (42, true)⟩,
    ⟨some 47, .ix 3 (.t 45) (.t 46), some (42, true)⟩,
    ⟨some 48, .fa (.t 47) 0, some (42, true)⟩,
    ⟨some 49, .ld (.t 48) 1 false, some (42, true)⟩,
    ⟨some 50, .call 170 [.t 43, .t 44, .t 49], some (42, true)⟩,
    ⟨some 51, .mv (.t 4), some (42, true)⟩,
    ⟨some 52, .bin .lss (.t 50) (.t 51) 0, some (42, true)⟩,
    ⟨some 53, .pick (.t 42) (.t 52) (.k (.bool false)), none⟩])
   (.cond (.t 53) (.seq (.reg [⟨some 10, .mv (.k (.bool false)), none⟩])
   (.ret)) (.skip))))
   (.reg [⟨some 22, .mv (.t 11), none⟩,
    ⟨some 23, .bin .add (.t 22) (.k (.int .i64 1)) 0, none⟩,
    ⟨some 11, .mv (.t 23), none⟩]))))))
   (.seq (.reg [⟨some 10, .mv (.k (.bool true)), none⟩])
   (.ret))))
def k129 : FCode := ⟨54, c129, [.tmp 10], none⟩
def c130 : LCode := .seq (.reg [⟨some 2, .mv (.k (.int .i64 0)), none⟩])
   (.seq (.reg [⟨some 3, .mv (.t 0), none⟩,
    ⟨some 4, .conv .u32 (.t 3), none⟩,
    ⟨some 5, .call 171 [.t 4], none⟩,
    ⟨some 2, .mv (.t 5), none⟩])
   (.ret))
def k130 : FCode := ⟨6, c130, [.tmp 2], none⟩
def c131 : LCode := .seq (.reg [⟨some 2, .mv (.k (.int .i64 0)), none⟩,
    ⟨some 3, .mv (.k (.int .i64 0)), none⟩])
   (.seq (.reg [⟨some 4, .mv (.k (.int .i64 1)), none⟩])
   (.seq (.seq (.reg [⟨some 5, .mv (.k (.int .i64 0)), none⟩])
   (.block 0 (.loop (.seq (.seq (.reg [⟨some 7, .mv (.t 5), none⟩,
    ⟨some 8, .mv (.t 0), none⟩,
    ⟨some 9, .len (.t 8) false, none⟩,
    ⟨some 10, .bin .lss (.t 7) (.t 9) 0, none⟩])
   (.cond (.t 10) (.skip) (.exit 0)))
   (.seq (.block 1 (.seq (.reg [⟨some 13, .mv (.t 0), none⟩,
    ⟨some 14, .mv (.t 5), none⟩,
    ⟨some 15, .ix 1 (.t 13) (.t 14), none⟩,
    ⟨some 16, .ld (.t 15) 1 false, none⟩,
    ⟨some 6, .mv (.t 16), none⟩])
   (.seq (.seq (.reg [⟨some 17, .mv (.t 6), none⟩,
    ⟨some 18, .call 172 [.t 17], none⟩,
    ⟨some 19, .un .not (.t 18), none⟩,
    ⟨some 20, .mv (.t 19), none⟩,
    ⟨some 21, .mv (.t 6), some (20, false)⟩,
    ⟨some 22, .bin .neq (.t 21) (.k (.int .i64 0)) 0, some (20, false)⟩,
    ⟨some 23, .mv (.t 22), some (20, false)⟩,
    ⟨some 24, .mv (.t 4), some (23, true)⟩,
    ⟨some 25, .call 173 [.t 24], some (23, true)⟩,
    ⟨some 26, .mv (.t 6), some (23, true)⟩,
    ⟨some 27, .call 173 [.t 26], some (23, true)⟩,
    ⟨some 28, .bin .quo (.k (.int .i64 1152921504606846976)) (.t 27) 0, some (23, true)⟩,
    ⟨some 29, .bin .gtr (.t 25) (.t 28) 0, some (23, true)⟩,
    ⟨some 30, .pick (.t 23) (.t 29) (.k (.bool false)), some (20, false)⟩,
    ⟨some 31, .pick (.t 20) (.k (.bool true)) (.t 30), none⟩])
   (.cond (.t 31) (.seq (.reg [⟨some 2, .mv (.k (.int .i64 0)), none⟩,
    ⟨some 3, .mv (.k (.int .i64 2)), none⟩])
   (.ret)) (.skip)))
   (.reg [⟨some 32, .mv (.t 4), none⟩,
    ⟨some 33, .mv (.t 6), none⟩,
    ⟨some 34, .bin .mul (.t 32) (.t 33) 0, none⟩,
    ⟨some 4, .mv (.t 34), none⟩]))))
   (.reg [⟨some 11, .mv (.t 5), none⟩,
    ⟨some 12, .bin .add (.t 11) (.k (.int .i64 1)) 0, none⟩,
    ⟨some 5, .mv (.t 12), none⟩]))))))
   (.seq (.reg [⟨some 35, .mv (.t 4), none⟩,
    ⟨some 2, .mv (.t 35), none⟩,
    ⟨some 3, .mv (.k (.int .i64 0)), none⟩])
   (.ret))))
def k131 : FCode := ⟨36, c131, [.tmp 2, .tmp 3], none⟩
def c132 : LCode := .seq (.reg [⟨some 4, .mv (.k (.ro 1 [] true)), none⟩])
   (.seq (.seq (.reg [⟨some 5, .mv (.t 1), none⟩,
    ⟨some 6, .bin .lss (.t 5) (.k (.int .i64 0)) 0, none⟩,
    ⟨some 7, .mv (.t 6), none⟩,
    ⟨some 8, .mv (.t 1), some (7, false)⟩,
    ⟨some 9, .mv (.t 0), some (7, false)⟩,
    ⟨some 10, .len (.t 9) false, some (7, false)⟩,
    ⟨some 11, .bin .geq (.t 8) (.t 10) 0, some (7, false)⟩,
    ⟨some 12, .pick (.t 7) (.k (.bool true)) (.t 11), none⟩])
   (.cond (.t 12) (.seq (.reg [⟨some 4, .mv (.k (.ro 1 [] true)), none⟩])
   (.ret)) (.skip)))
   (.seq (.seq (.reg [⟨some 13, .mv (.t 0), none⟩,
    ⟨some 14, .mv (.t 1), none⟩,
    ⟨some 15, .ix 3 (.t 13) (.t 14), none⟩,
    ⟨some 16, .fa (.t 15) 1, none⟩,
    ⟨some 17, .ld (.t 16) 1 false, none⟩,
    ⟨some 18, .mv (.t 1), none⟩,
    ⟨some 19, .bin .geq (.t 17) (.t 18) 0, none⟩])
   (.cond (.t 19) (.seq (.reg [⟨some 20, .mv (.t 1), none⟩,
    ⟨some 21, .mks 1 [.t 20], none⟩,
    ⟨some 4, .mv (.t 21), none⟩])
   (.ret)) (.skip)))
   (.seq (.reg [⟨some 22, .mv (.t 1), none⟩,
    ⟨some 23, .mks 1 [.t 22], none⟩,
    ⟨some 24, .mv (.t 0), none⟩,
    ⟨some 25, .mv (.t 0), none⟩,
    ⟨some 26, .mv (.t 1), none⟩,
    ⟨some 27, .ix 3 (.t 25) (.t 26), none⟩,
    ⟨some 28, .fa (.t 27) 1, none⟩,
    ⟨some 29, .ld (.t 28) 1 false, none⟩,
    ⟨some 30, .call 132 [.t 24, .t 29], none⟩,
    ⟨some 31, .app 1 8 (.t 23) (.t 30), none⟩,
    ⟨some 4, .mv (.t 31), none⟩])
   (.ret))))
def k132 : FCode := ⟨32, c132, [.tmp 4], none⟩
def c133 : LCode := .seq (.reg [⟨some 8, .mv (.k (.int .i64 0)), none⟩])
   (.seq (.reg [⟨some 9, .mv (.k (.int .i64 (-1))), none⟩])
   (.seq (.seq (.reg [⟨some 10, .mv (.k (.int .i64 0)), none⟩])
   (.block 0 (.loop (.seq (.seq (.reg [⟨some 11, .mv (.t 10), none⟩,
    ⟨some 12, .mv (.t 0), none⟩,
    ⟨some 13, .len (.t 12) false, none⟩,
    ⟨some 14, .bin .lss (.t 11) (.t 13) 0, none⟩])
   (.cond (.t 14) (.skip) (.exit 0)))
   (.seq (.block 1 (.seq (.dreg [] [⟨some 17, .mv (.t 3), none⟩,
    ⟨some 18, .mv (.t 10), none⟩,
    ⟨some 19, .ix 1 (.t 17) (.t 18), none⟩,
    ⟨some 20, .ld (.t 19) 1 false, none⟩,
    ⟨some 21, .un .not (.t 20), none⟩,
    ⟨some 22, .mv (.t 21), none⟩,
    ⟨some 23, .mv (.t 0), some (22, true)⟩,
    ⟨some 24, .mv (.t 10), some (22, true)⟩,
    ⟨some 25, .ix 6 (.t 23) (.t 24), some (22, true)⟩,
    ⟨some 26, .fa (.t 25) 0, some (22, true)⟩,
    ⟨some 27, .ld (.t 26) 1 false, some (22, true)⟩,
    ⟨some 28, .mv (.t 1), some (22, true)⟩,
    ⟨some 29, .bin .eql (.t 27) (.t 28) 0, some (22, true)⟩,
    ⟨some 30, .pick (.t 22) (.t 29) (.k (.bool false)), none⟩,
    ⟨some 31, .mv (.t 30), none⟩,
    ⟨some 32, .mv (.t 0), some (31, true)⟩,
    ⟨some 33, .mv (.t 10), some (31, true)⟩,
    ⟨some 34, .ix 6 (.t 32) (.t 33), some (31, true)⟩,
    ⟨some 35, .ld (.t 34) 6 true, some (31, true)⟩,
    ⟨some 36, .mv (.t 2), some (31, true)⟩,
    ⟨some 37, .call 174 [.t 35, .t 36], some (31, true)⟩,
    ⟨some 38, .pick (.t 31) (.t 37) (.k (.bool false)), none⟩,
    ⟨some 39, .mv (.t 38), none⟩,
    ⟨some 40, .mv (.t 9), some (39, true)⟩,
    ⟨some 41, .bin .lss (.t 40) (.k (.int .i64 0)) 0, some (39, true)⟩,
    ⟨some 42, .mv (.t 41), some (39, true)⟩,
    ⟨some 43, .mv (.t 0), some (42, false)⟩,
    ⟨some 44, .mv (.t 10), some (42, false)⟩,
    ⟨some 45, .ix 6 (.t 43) (.t 44), some (42, false)⟩,
    ⟨some 46, .fa (.t 45) 2, some (42, false)⟩,
    ⟨some 47, .ld (.t 46) 1 false, some (42, false)⟩,
    ⟨some 48, .mv (.t 0), some (42, false)⟩,
    ⟨some 49, .mv (.t 9), some (42, false)⟩,
    ⟨some 50, .ix 6 (.t 48) (.t 49), some (42, false)⟩,
    ⟨some 51, .fa (.t 50) 2, some (42, false)⟩,
    ⟨some 52, .ld (.t 51) 1 false, some (42, false)⟩,
    ⟨some 53, .bin .lss (.t 47) (.t 52) 0, some (42, false)⟩,
    ⟨some 54, .pick (.t 42) (.k (.bool true)) (.t 53), some (39, true)⟩,
    ⟨some 55, .pick (.t 39) (.t 54) (.k (.bool false)), none⟩])
   (.cond (.t 55) (.reg [⟨some 56, .mv (.t 10), none⟩,
    ⟨some 9, .mv (.t 56), none⟩]) (.skip))))
   (.reg [⟨some 15, .mv (.t 10), none⟩,
    ⟨some 16, .bin .add (.t 15) (.k (.int .i64 1)) 0, none⟩,
    ⟨some 10, .mv (.t 16), none⟩]))))))
   (.seq (.reg [⟨some 57, .mv (.t 9), none⟩,
    ⟨some 8, .mv (.t 57), none⟩])
   (.ret))))
def k133 : FCode := ⟨58, c133, [.tmp 8], none⟩
def c134 : LCode := .seq (.reg [⟨some 2, .mv (.k (.int .i64 0)), none⟩,
    ⟨some 3, .mv (.k (.int .i64 0)), none⟩])
   (.seq (.reg [⟨some 4, .mv (.k (.int .i64 0)), none⟩])
   (.seq (.seq (.reg [⟨some 5, .mv (.k (.int .i64 0)), none⟩])
   (.block 0 (.loop (.seq (.seq (.reg [⟨some 6, .mv (.t 5), none⟩,
    ⟨some 7, .mv (.t 0), none⟩,
    ⟨some 8, .len (.t 7) false, none⟩,
    ⟨some 9, .bin .lss (.t 6) (.t 8) 0, none⟩])
   (.cond (.t 9) (.skip) (.exit 0)))
   (.seq (.block 1 (.seq (.seq (.reg [⟨some 12, .mv (.t 0), none⟩,
    ⟨some 13, .mv (.t 5), none⟩,
    ⟨some 14, .ix 1 (.t 12) (.t 13), none⟩,
    ⟨some 15, .ld (.t 14) 1 false, none⟩,
    ⟨some 16, .call 172 [.t 15], none⟩,
    ⟨some 17, .un .not (.t 16), none⟩,
    ⟨some 18, .mv (.t 17), none⟩,
    ⟨some 19, .mv (.t 0), some (18, false)⟩,
    ⟨some 20, .mv (.t 5), some (18, false)⟩,
    ⟨some 21, .ix 1 (.t 19) (.t 20), some (18, false)⟩,
    ⟨some 22, .ld (.t 21) 1 false, some (18, false)⟩,
    ⟨some 23, .bin .gtr (.t 22) (.k (.int .i64 0)) 0, some (18, false)⟩,
    ⟨some 24, .mv (.t 23), some (18, false)⟩,
    ⟨some 25, .mv (.t 4), some (24, true)⟩,
    ⟨some 26, .mv (.t 0), some (24, true)⟩,
    ⟨some 27, .mv (.t 5), some (24, true)⟩,
    ⟨some 28, .ix 1 (.t 26) (.t 27), some (24, true)⟩,
    ⟨some 29, .ld (.t 28) 1 false, some (24, true)⟩,
    ⟨some 30, .bin .sub (.k (.int .i64 1152921504606846976)) (.t 29) 0, some (24, true)⟩,
    ⟨some 31, .bin .gtr (.t 25) (.t 30) 0, some (24, true)⟩,
    ⟨some 32, .pick (.t 24) (.t 31) (.k (.bool false)), some (18, false)⟩,
    ⟨some 33, .pick (.t 18) (.k (.bool true)) (.t 32), none⟩,
    ⟨some 34, .mv (.t 33), none⟩,
    ⟨some 35, .mv (.t 0), some (34, false)⟩,
    ⟨some 36, .mv (.t 5), some (34, false)⟩,
    ⟨some 37, .ix 1 (.t 35) (.t 36), some (34, false)⟩,
    ⟨some 38, .ld (.t 37) 1 false, some (34, false)⟩,
    ⟨some 39, .bin .lss (.t 38) (.k (.int .i64 0)) 0, some (34, false)⟩,
    ⟨some 40, .mv (.t 39), some (34, false)⟩,
    ⟨some 41, .mv (.t 4), some (40, true)⟩,
    ⟨some 42, .mv (.t 0), some (40, true)⟩,
    ⟨some 43, .mv (.t 5), some (40, true)⟩,
    ⟨some 44, .ix 1 (.t 42) (.t 43), some (40, true)⟩,
    ⟨some 45, .ld (.t 44) 1 false, some (40, true)⟩,
    ⟨some 46, .bin .sub (.k (.int .i64 (-1152921504606846976))) (.t 45) 0, some (40, true)⟩,
    ⟨some 47, .bin .lss (.t 41) (.t 46) 0, some (40, true)⟩,
    ⟨some 48, .pick (.t 40) (.t 47) (.k (.bool false)), some (34, false)⟩,
    ⟨some 49, .pick (.t 34) (.k (.bool true)) (.t 48), none⟩])
   (.cond (.t 49) (.seq (.reg [⟨some 2, .mv (.k (.int .i64 0)), none⟩,
    ⟨some 3, .mv (.k (.int .i64 2)), none⟩])
   (.ret)) (.skip)))
   (.reg [⟨some 50, .mv (.t 4), none⟩,
    ⟨some 51, .mv (.t 0), none⟩,
    ⟨some 52, .mv (.t 5), none⟩,
    ⟨some 53, .ix 1 (.t 51) (.t 52), none⟩,
    ⟨some 54, .ld (.t 53) 1 false, none⟩,
    ⟨some 55, .bin .add (.t 50) (.t 54) 0, none⟩,
    ⟨some 4, .mv (.t 55), none⟩])))
   (.reg [⟨some 10, .mv (.t 5), none⟩,
    ⟨some 11, .bin .add (.t 10) (.k (.int .i64 1)) 0, none⟩,
    ⟨some 5, .mv (.t 11), none⟩]))))))
   (.seq (.reg [⟨some 56, .mv (.t 4), none⟩,
    ⟨some 2, .mv (.t 56), none⟩,
    ⟨some 3, .mv (.k (.int .i64 0)), none⟩])
   (.ret))))
def k134 : FCode := ⟨57, c134, [.tmp 2, .tmp 3], none⟩
def c135 : LCode := .seq (.reg [⟨some 6, .mv (.k (.int .i64 0)), none⟩,
    ⟨some 7, .mv (.k (.int .i64 0)), none⟩])
   (.seq (.seq (.reg [⟨some 10, .mv (.t 2), none⟩,
    ⟨some 11, .bin .lss (.t 10) (.k (.int .i64 0)) 0, none⟩,
    ⟨some 12, .mv (.t 11), none⟩,
    ⟨some 13, .mv (.t 2), some (12, false)⟩,
    ⟨some 14, .mv (.t 0), some (12, false)⟩,
    ⟨some 15, .len (.t 14) false, some (12, false)⟩,
    ⟨some 16, .bin .geq (.t 13) (.t 15) 0, some (12, false)⟩,
    ⟨some 17, .pick (.t 12) (.k (.bool true)) (.t 16), none⟩])
   (.cond (.t 17) (.seq (.reg [⟨some 6, .mv (.k (.int .i64 0)), none⟩,
    ⟨some 7, .mv (.k (.int .i64 4)), none⟩])
   (.ret)) (.skip)))
   (.seq (.reg [⟨some 18, .mks 1 [], none⟩,
    ⟨some 8, .mv (.t 18), none⟩])
   (.seq (.seq (.reg [⟨some 9, .mv (.k (.int .i64 0)), none⟩])
   (.block 0 (.loop (.seq (.seq (.reg [⟨some 19, .mv (.t 9), none⟩,
    ⟨some 20, .mv (.t 1), none⟩,
    ⟨some 21, .len (.t 20) false, none⟩,
    ⟨some 22, .bin .lss (.t 19) (.t 21) 0, none⟩])
   (.cond (.t 22) (.skip) (.exit 0)))
   (.seq (.block 1 (.seq (.reg [⟨some 25, .mv (.t 0), none⟩,
    ⟨some 26, .mv (.t 1), none⟩,
    ⟨some 27, .mv (.t 9), none⟩,
    ⟨some 28, .ix 6 (.t 26) (.t 27), none⟩,
    ⟨some 29, .fa (.t 28) 0, none⟩,
    ⟨some 30, .ld (.t 29) 1 false, none⟩,
    ⟨some 31, .mv (.t 2), none⟩,
    ⟨some 32, .call 175 [.t 25, .t 30, .t 31], none⟩])
   (.cond (.t 32) (.dreg [(7, 12)] [⟨some 33, .mv (.t 8), none⟩,
    ⟨some 34, .mv (.t 1), none⟩,
    ⟨some 35, .mv (.t 9), none⟩,
    ⟨some 36, .ix 6 (.t 34) (.t 35), none⟩,
    ⟨some 37, .fa (.t 36) 4, none⟩,
    ⟨some 38, .ld (.t 37) 1 false, none⟩,
    ⟨some 39, .mks 1 [.t 38], none⟩,
    ⟨some 40, .app 1 8 (.t 33) (.t 39), none⟩,
    ⟨some 41, .mv (.t 1), none⟩,
    ⟨some 42, .mv (.t 9), none⟩,
    ⟨some 43, .ix 6 (.t 41) (.t 42), none⟩,
    ⟨some 44, .fa (.t 43) 5, none⟩,
    ⟨some 45, .ld (.t 44) 1 false, none⟩,
    ⟨some 46, .mks 1 [.t 45], none⟩,
    ⟨some 47, .app 1 8 (.t 40) (.t 46), none⟩,
    ⟨some 8, .mv (.t 47), none⟩]) (.skip))))
   (.reg [⟨some 23, .mv (.t 9), none⟩,
    ⟨some 24, .bin .add (.t 23) (.k (.int .i64 1)) 0, none⟩,
    ⟨some 9, .mv (.t 24), none⟩]))))))
   (.seq (.reg [⟨some 48, .mv (.t 8), none⟩,
    ⟨some 49, .call 134 [.t 48], none⟩,
    ⟨some 50, .ext (.t 49) 0, none⟩,
    ⟨some 51, .ext (.t 49) 1, none⟩,
    ⟨some 6, .mv (.t 50), none⟩,
    ⟨some 7, .mv (.t 51), none⟩])
   (.ret)))))
def k135 : FCode := ⟨52, c135, [.tmp 6, .tmp 7], none⟩
def c136 : LCode := .seq (.reg [⟨some 2, .mv (.k (.ro 3 [] true)), none⟩])
   (.seq (.reg [⟨some 3, .mv (.t 0), none⟩,
    ⟨some 4, .call 177 [.t 3], none⟩,
    ⟨some 5, .call 176 [.t 4], none⟩,
    ⟨some 2, .mv (.t 5), none⟩])
   (.ret))
def k136 : FCode := ⟨6, c136, [.tmp 2], none⟩
def c137 : LCode := .seq (.reg [⟨some 2, .mv (.k (.ro 6 [] true)), none⟩])
   (.seq (.reg [⟨some 3, .mv (.t 0), none⟩,
    ⟨some 4, .call 179 [.t 3], none⟩,
    ⟨some 5, .call 178 [.t 4], none⟩,
    ⟨some 2, .mv (.t 5), none⟩])
   (.ret))
def k137 : FCode := ⟨6, c137, [.tmp 2], none⟩
def c138 : LCode := .seq (.reg [⟨some 2, .mv (.k (.ro 3 [] true)), none⟩])
   (.seq (.reg [⟨some 3, .mv (.t 0), none⟩,
    ⟨some 4, .call 181 [.t 3], none⟩,
    ⟨some 5, .call 180 [.t 4], none⟩,
    ⟨some 2, .mv (.t 5), none⟩])
   (.ret))
def k138 : FCode := ⟨6, c138, [.tmp 2], none⟩
def c139 : LCode := .seq (.reg [⟨some 2, .mv (.k (.ro 12 [] true)), none⟩])
   (.seq (.reg [⟨some 3, .mv (.t 0), none⟩,
    ⟨some 4, .call 86 [.t 3], none⟩,
    ⟨some 5, .call 182 [.t 4], none⟩,
    ⟨some 2, .mv (.t 5), none⟩])
   (.ret))
def k139 : FCode := ⟨6, c139, [.tmp 2], none⟩
def c140 : LCode := .seq (.reg [⟨some 2, .mv (.k (.ro 1 [] true)), none⟩])
   (.seq (.reg [⟨some 3, .mv (.t 0), none⟩,
    ⟨some 4, .call 183 [.t 3], none⟩,
    ⟨some 5, .call 97 [.t 4], none⟩,
    ⟨some 2, .mv (.t 5), none⟩])
   (.ret))
def k140 : FCode := ⟨6, c140, [.tmp 2], none⟩
def c141 : LCode := .seq (.reg [⟨some 2, .mv (.k (.ro 2 [] true)), none⟩])
   (.seq (.reg [⟨some 3, .mv (.t 0), none⟩,
    ⟨some 4, .call 185 [.t 3], none⟩,
    ⟨some 5, .call 184 [.t 4], none⟩,
    ⟨some 2, .mv (.t 5), none⟩])
   (.ret))
def k141 : FCode := ⟨6, c141, [.tmp 2], none⟩
def c142 : LCode := .seq (.reg [⟨some 2, .mv (.k (.int .i64 0)), none⟩])
   (.seq (.reg [⟨some 4, .mks 1 [.k (.int .i64 (-1)), .k (.int .i64 2), .k (.int .i64 4), .k (.int .i64 2), .k (.int .i64 2), .k (.int .i64 3), .k (.int .i64 3), .k (.int .i64 6), .k (.int .i64 1), .k (.int .i64 1), .k (.int .i64 1), .k (.int .i64 1), .k (.int .i64 2), .k (.int .i64 2), .k (.int .i64 2), .k (.int .i64 0)], none⟩,
    ⟨some 3, .mv (.t 4), none⟩])
   (.seq (.seq (.reg [⟨some 5, .mv (.t 0), none⟩,
    ⟨some 6, .bin .lss (.t 5) (.k (.int .i64 1)) 0, none⟩,
    ⟨some 7, .mv (.t 6), none⟩,
    ⟨some 8, .mv (.t 0), some (7, false)⟩,
    ⟨some 9, .mv (.t 3), some (7, false)⟩,
    ⟨some 10, .len (.t 9) false, some (7, false)⟩,
    ⟨some 11, .bin .geq (.t 8) (.t 10) 0, some (7, false)⟩,
    ⟨some 12, .pick (.t 7) (.k (.bool true)) (.t 11), none⟩])
   (.cond (.t 12) (.seq (.reg [⟨some 2, .mv (.k (.int .i64 (-1))), none⟩])
   (.ret)) (.skip)))
   (.seq (.reg [⟨some 13, .mv (.t 3), none⟩,
    ⟨some 14, .mv (.t 0), none⟩,
    ⟨some 15, .ix 1 (.t 13) (.t 14), none⟩,
    ⟨some 16, .ld (.t 15) 1 false, none⟩,
    ⟨some 2, .mv (.t 16), none⟩])
   (.ret))))
def k142 : FCode := ⟨17, c142, [.tmp 2], none⟩
def c143 : LCode := .seq (.reg [⟨some 4, .mv (.k (.int .i64 0)), none⟩])
   (.seq (.seq (.reg [⟨some 6, .mv (.t 0), none⟩,
    ⟨some 7, .len (.t 6) false, none⟩,
    ⟨some 8, .mv (.k (.int .i64 0)), none⟩])
   (.block 0 (.loop (.seq (.reg [⟨some 9, .bin .lss (.t 8) (.t 7) 0, none⟩])
   (.seq (.cond (.t 9) (.skip) (.exit 0))
   (.seq (.block 1 (.seq (.reg [⟨some 10, .mv (.t 8), none⟩,
    ⟨some 5, .mv (.t 10), none⟩])
   (.seq (.reg [⟨some 11, .mv (.t 1), none⟩,
    ⟨some 12, .mv (.t 0), none⟩,
    ⟨some 13, .mv (.t 5), none⟩,
    ⟨some 14, .ix 1 (.t 12) (.t 13), none⟩,
    ⟨some 15, .ld (.t 14) 1 false, none⟩,
    ⟨some 16, .bin .eql (.t 11) (.t 15) 0, none⟩])
   (.cond (.t 16) (.seq (.reg [⟨some 17, .mv (.t 5), none⟩,
    ⟨some 4, .mv (.t 17), none⟩])
   (.ret)) (.skip)))))
   (.reg [⟨some 18, .bin .add (.t 8) (.k (.int .i64 1)) 0, none⟩,
    ⟨some 8, .mv (.t 18), none⟩])))))))
   (.seq (.reg [⟨some 4, .mv (.k (.int .i64 (-1))), none⟩])
   (.ret)))
def k143 : FCode := ⟨19, c143, [.tmp 4], none⟩
def c144 : LCode := .seq (.reg [⟨some 2, .mv (.k (.int .i64 0)), none⟩])
   (.seq (.seq (.reg [⟨some 3, .mv (.t 0), none⟩,
    ⟨some 4, .nck (.t 3), none⟩,
    ⟨some 5, .fa (.t 4) 0, none⟩,
    ⟨some 6, .fa (.t 5) 3, none⟩,
    ⟨some 7, .ld (.t 6) 1 false, none⟩,
    ⟨some 8, .len (.t 7) false, none⟩,
    ⟨some 9, .bin .geq (.t 8) (.k (.int .i64 8)) 0, none⟩])
   (.cond (.t 9) (.seq (.reg [⟨some 2, .mv (.k (.int .i64 14)), none⟩])
   (.ret)) (.skip)))
   (.seq (.dreg [] [⟨some 10, .mv (.t 0), none⟩,
    ⟨some 11, .mv (.t 0), none⟩,
    ⟨some 12, .nck (.t 11), none⟩,
    ⟨some 13, .fa (.t 12) 0, none⟩,
    ⟨some 14, .fa (.t 13) 3, none⟩,
    ⟨some 15, .ld (.t 14) 1 false, none⟩,
    ⟨some 16, .mv (.t 0), none⟩,
    ⟨some 17, .nck (.t 16), none⟩,
    ⟨some 18, .fa (.t 17) 8, none⟩,
    ⟨some 19, .fa (.t 18) 4, none⟩,
    ⟨some 20, .ld (.t 19) 1 false, none⟩,
    ⟨some 21, .mv (.t 0), none⟩,
    ⟨some 22, .nck (.t 21), none⟩,
    ⟨some 23, .fa (.t 22) 8, none⟩,
    ⟨some 24, .fa (.t 23) 5, none⟩,
    ⟨some 25, .ld (.t 24) 1 false, none⟩,
    ⟨some 26, .ix 1 (.t 25) (.k (.int .i64 0)), none⟩,
    ⟨some 27, .ld (.t 26) 1 false, none⟩,
    ⟨some 28, .mv (.t 0), none⟩,
    ⟨some 29, .nck (.t 28), none⟩,
    ⟨some 30, .fa (.t 29) 8, none⟩,
    ⟨some 31, .fa (.t 30) 5, none⟩,
    ⟨some 32, .ld (.t 31) 1 false, none⟩,
    ⟨some 33, .ix 1 (.t 32) (.k (.int .i64 1)), none⟩,
    ⟨some 34, .ld (.t 33) 1 false, none⟩,
    ⟨some 35, .build [.str ⟨#[]⟩, .int .i64 0, .int .i64 0] [(0, 1, .t 20), (1, 1, .t 27), (2, 1, .t 34)], none⟩,
    ⟨some 36, .mks 3 [.t 35], none⟩,
    ⟨some 37, .app 3 32 (.t 15) (.t 36), none⟩,
    ⟨some 38, .nck (.t 10), none⟩,
    ⟨some 39, .fa (.t 38) 0, none⟩,
    ⟨some 40, .fa (.t 39) 3, none⟩,
    ⟨none, .st (.t 40) (.t 37) 1, none⟩])
   (.seq (.seq (.reg [⟨some 41, .mv (.t 0), none⟩,
    ⟨some 42, .nck (.t 41), none⟩,
    ⟨some 43, .fa (.t 42) 0, none⟩,
    ⟨some 44, .fa (.t 43) 3, none⟩,
    ⟨some 45, .ld (.t 44) 1 false, none⟩,
    ⟨some 46, .call 100 [.t 45], none⟩,
    ⟨some 47, .un .not (.t 46), none⟩])
   (.cond (.t 47) (.seq (.reg [⟨some 2, .mv (.k (.int .i64 1)), none⟩])
   (.ret)) (.skip)))
   (.seq (.reg [⟨some 2, .mv (.k (.int .i64 0)), none⟩])
   (.ret)))))
def k144 : FCode := ⟨48, c144, [.tmp 2], none⟩
def c145 : LCode := .seq (.reg [⟨some 2, .mv (.k (.int .i64 0)), none⟩])
   (.seq (.dreg [] [⟨some 7, .mv (.t 0), none⟩,
    ⟨some 8, .nck (.t 7), none⟩,
    ⟨some 9, .fa (.t 8) 8, none⟩,
    ⟨some 10, .fa (.t 9) 5, none⟩,
    ⟨some 11, .ld (.t 10) 1 false, none⟩,
    ⟨some 12, .ix 1 (.t 11) (.k (.int .i64 0)), none⟩,
    ⟨some 13, .ld (.t 12) 1 false, none⟩,
    ⟨some 14, .mv (.t 0), none⟩,
    ⟨some 15, .nck (.t 14), none⟩,
    ⟨some 16, .fa (.t 15) 8, none⟩,
    ⟨some 17, .fa (.t 16) 5, none⟩,
    ⟨some 18, .ld (.t 17) 1 false, none⟩,
    ⟨some 19, .ix 1 (.t 18) (.k (.int .i64 1)), none⟩,
    ⟨some 20, .ld (.t 19) 1 false, none⟩,
    ⟨some 21, .mv (.t 0), none⟩,
    ⟨some 22, .nck (.t 21), none⟩,
    ⟨some 23, .fa (.t 22) 8, none⟩,
    ⟨some 24, .fa (.t 23) 5, none⟩,
    ⟨some 25, .ld (.t 24) 1 false, none⟩,
    ⟨some 26, .ix 1 (.t 25) (.k (.int .i64 2)), none⟩,
    ⟨some 27, .ld (.t 26) 1 false, none⟩,
    ⟨some 28, .mv (.t 0), none⟩,
    ⟨some 29, .nck (.t 28), none⟩,
    ⟨some 30, .fa (.t 29) 8, none⟩,
    ⟨some 31, .fa (.t 30) 5, none⟩,
    ⟨some 32, .ld (.t 31) 1 false, none⟩,
    ⟨some 33, .ix 1 (.t 32) (.k (.int .i64 3)), none⟩,
    ⟨some 34, .ld (.t 33) 1 false, none⟩,
    ⟨some 3, .mv (.t 13), none⟩,
    ⟨some 4, .mv (.t 20), none⟩,
    ⟨some 5, .mv (.t 27), none⟩,
    ⟨some 6, .mv (.t 34), none⟩])
   (.seq (.block 0 (.seq (.reg [⟨some 36, .mv (.t 3), none⟩,
    ⟨some 37, .bin .lss (.t 36) (.k (.int .i64 0)) 0, none⟩,
    ⟨some 38, .mv (.t 37), none⟩,
    ⟨some 39, .mv (.t 3), some (38, false)⟩,
    ⟨some 40, .mv (.t 0), some (38, false)⟩,
    ⟨some 41, .nck (.t 40), some (38, false)⟩,
    ⟨some 42, .fa (.t 41) 0, some (38, false)⟩,
    ⟨some 43, .fa (.t 42) 3, some (38, false)⟩,
    ⟨some 44, .ld (.t 43) 1 false, some (38, false)⟩,
    ⟨some 45, .len (.t 44) false, some (38, false)⟩,
    ⟨some 46, .bin .geq (.t 39) (.t 45) 0, some (38, false)⟩,
    ⟨some 47, .pick (.t 38) (.k (.bool true)) (.t 46), none⟩,
    ⟨some 35, .mv (.t 47), none⟩])
   (.cond (.t 35) (.seq (.reg [⟨some 2, .mv (.k (.int .i64 4)), none⟩])
   (.ret)) (.seq (.reg [⟨some 49, .mv (.t 4), none⟩,
    ⟨some 50, .bin .lss (.t 49) (.k (.int .i64 0)) 0, none⟩,
    ⟨some 51, .mv (.t 50), none⟩,
    ⟨some 52, .mv (.t 5), some (51, false)⟩,
    ⟨some 53, .mv (.t 4), some (51, false)⟩,
    ⟨some 54, .bin .leq (.t 52) (.t 53) 0, some (51, false)⟩,
    ⟨some 55, .pick (.t 51) (.k (.bool true)) (.t 54), none⟩,
    ⟨some 56, .mv (.t 55), none⟩,
    ⟨some 57, .mv (.t 5), some (56, false)⟩,
    ⟨some 58, .bin .gtr (.t 57) (.k (.int .i64 1099511627776)) 0, some (56, false)⟩,
    ⟨some 59, .pick (.t 56) (.k (.bool true)) (.t 58), none⟩,
    ⟨some 60, .mv (.t 59), none⟩,
    ⟨some 61, .mv (.t 6), some (60, false)⟩,
    ⟨some 62, .bin .lss (.t 61) (.k (.int .i64 1)) 0, some (60, false)⟩,
    ⟨some 63, .pick (.t 60) (.k (.bool true)) (.t 62), none⟩,
    ⟨some 48, .mv (.t 63), none⟩])
   (.cond (.t 48) (.seq (.reg [⟨some 2, .mv (.k (.int .i64 1)), none⟩])
   (.ret)) (.seq (.reg [⟨some 65, .mv (.t 0), none⟩,
    ⟨some 66, .nck (.t 65), none⟩,
    ⟨some 67, .fa (.t 66) 0, none⟩,
    ⟨some 68, .fa (.t 67) 4, none⟩,
    ⟨some 69, .ld (.t 68) 1 false, none⟩,
    ⟨some 70, .len (.t 69) false, none⟩,
    ⟨some 71, .bin .geq (.t 70) (.k (.int .i64 16)) 0, none⟩,
    ⟨some 64, .mv (.t 71), none⟩])
   (.cond (.t 64) (.seq (.reg [⟨some 2, .mv (.k (.int .i64 14)), none⟩])
   (.ret)) (.skip))))))))
   (.seq (.reg [⟨some 72, .mv (.t 0), none⟩,
    ⟨some 73, .mv (.t 0), none⟩,
    ⟨some 74, .nck (.t 73), none⟩,
    ⟨some 75, .fa (.t 74) 0, none⟩,
    ⟨some 76, .fa (.t 75) 4, none⟩,
    ⟨some 77, .ld (.t 76) 1 false, none⟩,
    ⟨some 78, .len (.t 77) false, none⟩,
    ⟨some 79, .call 187 [.t 78], none⟩,
    ⟨some 80, .mv (.t 6), none⟩,
    ⟨some 81, .call 186 [.t 72, .k (.int .i64 0), .t 79, .t 80], none⟩])
   (.seq (.reg [⟨some 82, .mv (.t 0), none⟩,
    ⟨some 83, .mv (.t 0), none⟩,
    ⟨some 84, .nck (.t 83), none⟩,
    ⟨some 85, .fa (.t 84) 0, none⟩,
    ⟨some 86, .fa (.t 85) 4, none⟩,
    ⟨some 87, .ld (.t 86) 1 false, none⟩,
    ⟨some 88, .mv (.t 3), none⟩,
    ⟨some 89, .mv (.t 4), none⟩,
    ⟨some 90, .mv (.t 5), none⟩,
    ⟨some 91, .build [.int .i64 0, .int .i64 0, .int .i64 0, .int .i64 0, .int .i64 0, .int .i64 0] [(0, 1, .t 88), (1, 1, .t 89), (2, 1, .t 90)], none⟩,
    ⟨some 92, .mks 6 [.t 91], none⟩,
    ⟨some 93, .app 6 48 (.t 87) (.t 92), none⟩,
    ⟨some 94, .nck (.t 82), none⟩,
    ⟨some 95, .fa (.t 94) 0, none⟩,
    ⟨some 96, .fa (.t 95) 4, none⟩,
    ⟨none, .st (.t 96) (.t 93) 1, none⟩])
   (.seq (.reg [⟨some 2, .mv (.k (.int .i64 0)), none⟩])
   (.ret))))))
def k145 : FCode := ⟨97, c145, [.tmp 2], none⟩
def c146 : LCode := .seq (.reg [⟨some 2, .mv (.k (.int .i64 0)), none⟩])
   (.seq (.dreg [] [⟨some 7, .mv (.t 0), none⟩,
    ⟨some 8, .nck (.t 7), none⟩,
    ⟨some 9, .fa (.t 8) 8, none⟩,
    ⟨some 10, .fa (.t 9) 5, none⟩,
    ⟨some 11, .ld (.t 10) 1 false, none⟩,
    ⟨some 12, .ix 1 (.t 11) (.k (.int .i64 0)), none⟩,
    ⟨some 13, .ld (.t 12) 1 false, none⟩,
    ⟨some 14, .mv (.t 0), none⟩,
    ⟨some 15, .nck (.t 14), none⟩,
    ⟨some 16, .fa (.t 15) 8, none⟩,
    ⟨some 17, .fa (.t 16) 5, none⟩,
    ⟨some 18, .ld (.t 17) 1 false, none⟩,
    ⟨some 19, .ix 1 (.t 18) (.k (.int .i64 0)), none⟩,
    ⟨some 20, .ld (.t 19) 1 false, none⟩,
    ⟨some 21, .mv (.t 0), none⟩,
    ⟨some 22, .nck (.t 21), none⟩,
    ⟨some 23, .fa (.t 22) 8, none⟩,
    ⟨some 24, .fa (.t 23) 5, none⟩,
    ⟨some 25, .ld (.t 24) 1 false, none⟩,
    ⟨some 26, .mv (.t 0), none⟩,
    ⟨some 27, .nck (.t 26), none⟩,
    ⟨some 28, .fa (.t 27) 8, none⟩,
    ⟨some 29, .fa (.t 28) 5, none⟩,
    ⟨some 30, .ld (.t 29) 1 false, none⟩,
    ⟨some 31, .len (.t 30) false, none⟩,
    ⟨some 32, .bin .sub (.t 31) (.k (.int .i64 1)) 0, none⟩,
    ⟨some 33, .ix 1 (.t 25) (.t 32), none⟩,
    ⟨some 34, .ld (.t 33) 1 false, none⟩,
    ⟨some 3, .mv (.t 13), none⟩,
    ⟨some 4, .mv (.t 20), none⟩,
    ⟨some 5, .mv (.t 34), none⟩])
   (.seq (.reg [⟨some 35, .mv (.t 0), none⟩,
    ⟨some 36, .nck (.t 35), none⟩,
    ⟨some 37, .fa (.t 36) 8, none⟩,
    ⟨some 38, .fa (.t 37) 2, none⟩,
    ⟨some 39, .ld (.t 38) 1 false, none⟩,
    ⟨some 40, .bin .eql (.t 39) (.k (.int .i64 5)) 0, none⟩,
    ⟨some 6, .mv (.t 40), none⟩])
   (.seq (.seq (.reg [⟨some 41, .mv (.t 6), none⟩])
   (.cond (.t 41) (.reg [⟨some 42, .mv (.t 0), none⟩,
    ⟨some 43, .nck (.t 42), none⟩,
    ⟨some 44, .fa (.t 43) 8, none⟩,
    ⟨some 45, .fa (.t 44) 5, none⟩,
    ⟨some 46, .ld (.t 45) 1 false, none⟩,
    ⟨some 47, .ix 1 (.t 46) (.k (.int .i64 1)), none⟩,
    ⟨some 48, .ld (.t 47) 1 false, none⟩,
    ⟨some 4, .mv (.t 48), none⟩]) (.skip)))
   (.seq (.block 0 (.seq (.reg [⟨some 50, .mv (.t 0), none⟩,
    ⟨some 51, .mv (.t 3), none⟩,
    ⟨some 52, .call 188 [.t 50, .t 51], none⟩,
    ⟨some 53, .un .not (.t 52), none⟩,
    ⟨some 54, .mv (.t 53), none⟩,
    ⟨some 55, .mv (.t 0), some (54, false)⟩,
    ⟨some 56, .mv (.t 4), some (54, false)⟩,
    ⟨some 57, .call 188 [.t 55, .t 56], some (54, false)⟩,
    ⟨some 58, .un .not (.t 57), some (54, false)⟩,
    ⟨some 59, .pick (.t 54) (.k (.bool true)) (.t 58), none⟩,
    ⟨some 49, .mv (.t 59), none⟩])
   (.cond (.t 49) (.seq (.reg [⟨some 2, .mv (.k (.int .i64 4)), none⟩])
   (.ret)) (.seq (.reg [⟨some 61, .mv (.t 6), none⟩,
    ⟨some 62, .mv (.t 61), none⟩,
    ⟨some 63, .mv (.t 3), some (62, true)⟩,
    ⟨some 64, .mv (.t 4), some (62, true)⟩,
    ⟨some 65, .bin .eql (.t 63) (.t 64) 0, some (62, true)⟩,
    ⟨some 66, .pick (.t 62) (.t 65) (.k (.bool false)), none⟩,
    ⟨some 67, .mv (.t 66), none⟩,
    ⟨some 68, .mv (.t 5), some (67, false)⟩,
    ⟨some 69, .bin .lss (.t 68) (.k (.int .i64 1)) 0, some (67, false)⟩,
    ⟨some 70, .pick (.t 67) (.k (.bool true)) (.t 69), none⟩,
    ⟨some 60, .mv (.t 70), none⟩])
   (.cond (.t 60) (.seq (.reg [⟨some 2, .mv (.k (.int .i64 1)), none⟩])
   (.ret)) (.skip))))))
   (.seq (.seq (.reg [⟨some 71, .mv (.t 0), none⟩,
    ⟨some 72, .nck (.t 71), none⟩,
    ⟨some 73, .fa (.t 72) 8, none⟩,
    ⟨some 74, .fa (.t 73) 2, none⟩,
    ⟨some 75, .ld (.t 74) 1 false, none⟩])
   (.block 1 (.seq (.reg [⟨some 84, .bin .eql (.t 75) (.k (.int .i64 3)) 0, none⟩,
    ⟨some 83, .mv (.t 84), none⟩])
   (.cond (.t 83) (.reg [⟨some 85, .mv (.t 0), none⟩,
    ⟨some 86, .mv (.t 3), none⟩,
    ⟨some 87, .call 187 [.t 86], none⟩,
    ⟨some 88, .mv (.t 5), none⟩,
    ⟨some 89, .call 186 [.t 85, .k (.int .i64 0), .t 87, .t 88], none⟩]) (.seq (.reg [⟨some 91, .bin .eql (.t 75) (.k (.int .i64 4)) 0, none⟩,
    ⟨some 90, .mv (.t 91), none⟩])
   (.cond (.t 90) (.reg [⟨some 92, .mv (.t 0), none⟩,
    ⟨some 93, .mv (.t 3), none⟩,
    ⟨some 94, .call 187 [.t 93], none⟩,
    ⟨some 95, .mv (.t 5), none⟩,
    ⟨some 96, .call 186 [.t 92, .t 94, .k (.int .i64 0), .t 95], none⟩]) (.reg [⟨some 76, .mv (.t 0), none⟩,
    ⟨some 77, .mv (.t 3), none⟩,
    ⟨some 78, .call 187 [.t 77], none⟩,
    ⟨some 79, .mv (.t 4), none⟩,
    ⟨some 80, .call 187 [.t 79], none⟩,
    ⟨some 81, .mv (.t 5), none⟩,
    ⟨some 82, .call 186 [.t 76, .t 78, .t 80, .t 81], none⟩])))))))
   (.seq (.reg [⟨some 2, .mv (.k (.int .i64 0)), none⟩])
   (.ret)))))))
def k146 : FCode := ⟨97, c146, [.tmp 2], none⟩
def c147 : LCode := .seq (.reg [⟨some 2, .mv (.k (.int .i64 0)), none⟩])
   (.seq (.seq (.reg [⟨some 3, .mv (.t 0), none⟩,
    ⟨some 4, .nck (.t 3), none⟩,
    ⟨some 5, .fa (.t 4) 0, none⟩,
    ⟨some 6, .fa (.t 5) 5, none⟩,
    ⟨some 7, .ld (.t 6) 1 false, none⟩,
    ⟨some 8, .len (.t 7) false, none⟩,
    ⟨some 9, .bin .geq (.t 8) (.k (.int .i64 16)) 0, none⟩])
   (.cond (.t 9) (.seq (.reg [⟨some 2, .mv (.k (.int .i64 14)), none⟩])
   (.ret)) (.skip)))
   (.seq (.dreg [] [⟨some 10, .mv (.t 0), none⟩,
    ⟨some 11, .mv (.t 0), none⟩,
    ⟨some 12, .nck (.t 11), none⟩,
    ⟨some 13, .fa (.t 12) 0, none⟩,
    ⟨some 14, .fa (.t 13) 5, none⟩,
    ⟨some 15, .ld (.t 14) 1 false, none⟩,
    ⟨some 16, .mv (.t 0), none⟩,
    ⟨some 17, .nck (.t 16), none⟩,
    ⟨some 18, .fa (.t 17) 8, none⟩,
    ⟨some 19, .fa (.t 18) 5, none⟩,
    ⟨some 20, .ld (.t 19) 1 false, none⟩,
    ⟨some 21, .ix 1 (.t 20) (.k (.int .i64 0)), none⟩,
    ⟨some 22, .ld (.t 21) 1 false, none⟩,
    ⟨some 23, .mv (.t 0), none⟩,
    ⟨some 24, .nck (.t 23), none⟩,
    ⟨some 25, .fa (.t 24) 8, none⟩,
    ⟨some 26, .fa (.t 25) 5, none⟩,
    ⟨some 27, .ld (.t 26) 1 false, none⟩,
    ⟨some 28, .ix 1 (.t 27) (.k (.int .i64 1)), none⟩,
    ⟨some 29, .ld (.t 28) 1 false, none⟩,
    ⟨some 30, .mv (.t 0), none⟩,
    ⟨some 31, .nck (.t 30), none⟩,
    ⟨some 32, .fa (.t 31) 8, none⟩,
    ⟨some 33, .fa (.t 32) 5, none⟩,
    ⟨some 34, .ld (.t 33) 1 false, none⟩,
    ⟨some 35, .ix 1 (.t 34) (.k (.int .i64 2)), none⟩,
    ⟨some 36, .ld (.t 35) 1 false, none⟩,
    ⟨some 37, .build [.int .i64 0, .int .i64 0, .int .i64 0] [(0, 1, .t 22), (1, 1, .t 29), (2, 1, .t 36)], none⟩,
    ⟨some 38, .mks 3 [.t 37], none⟩,
    ⟨some 39, .app 3 24 (.t 15) (.t 38), none⟩,
    ⟨some 40, .nck (.t 10), none⟩,
    ⟨some 41, .fa (.t 40) 0, none⟩,
    ⟨some 42, .fa (.t 41) 5, none⟩,
    ⟨none, .st (.t 42) (.t 39) 1, none⟩])
   (.seq (.seq (.reg [⟨some 43, .mv (.t 0), none⟩,
    ⟨some 44, .nck (.t 43), none⟩,
    ⟨some 45, .fa (.t 44) 0, none⟩,
    ⟨some 46, .fa (.t 45) 5, none⟩,
    ⟨some 47, .ld (.t 46) 1 false, none⟩,
    ⟨some 48, .call 101 [.t 47], none⟩,
    ⟨some 49, .un .not (.t 48), none⟩])
   (.cond (.t 49) (.seq (.reg [⟨some 2, .mv (.k (.int .i64 1)), none⟩])
   (.ret)) (.skip)))
   (.seq (.reg [⟨some 2, .mv (.k (.int .i64 0)), none⟩])
   (.ret)))))
def k147 : FCode := ⟨50, c147, [.tmp 2], none⟩
def c148 : LCode := .seq (.reg [⟨some 2, .mv (.k (.int .i64 0)), none⟩])
   (.seq (.reg [⟨some 8, .mv (.t 0), none⟩,
    ⟨some 9, .nck (.t 8), none⟩,
    ⟨some 10, .fa (.t 9) 8, none⟩,
    ⟨some 11, .fa (.t 10) 5, none⟩,
    ⟨some 12, .ld (.t 11) 1 false, none⟩,
    ⟨some 3, .mv (.t 12), none⟩])
   (.seq (.dreg [] [⟨some 13, .mv (.t 0), none⟩,
    ⟨some 14, .nck (.t 13), none⟩,
    ⟨some 15, .fa (.t 14) 0, none⟩,
    ⟨some 16, .fa (.t 15) 2, none⟩,
    ⟨some 17, .ld (.t 16) 1 false, none⟩,
    ⟨some 18, .mv (.t 3), none⟩,
    ⟨some 19, .ix 1 (.t 18) (.k (.int .i64 0)), none⟩,
    ⟨some 20, .ld (.t 19) 1 false, none⟩,
    ⟨some 21, .mv (.t 3), none⟩,
    ⟨some 22, .ix 1 (.t 21) (.k (.int .i64 1)), none⟩,
    ⟨some 23, .ld (.t 22) 1 false, none⟩,
    ⟨some 24, .mv (.t 3), none⟩,
    ⟨some 25, .ix 1 (.t 24) (.k (.int .i64 2)), none⟩,
    ⟨some 26, .ld (.t 25) 1 false, none⟩,
    ⟨some 27, .mv (.t 3), none⟩,
    ⟨some 28, .ix 1 (.t 27) (.k (.int .i64 3)), none⟩,
    ⟨some 29, .ld (.t 28) 1 false, none⟩,
    ⟨some 30, .mv (.t 3), none⟩,
    ⟨some 31, .ix 1 (.t 30) (.k (.int .i64 4)), none⟩,
    ⟨some 32, .ld (.t 31) 1 false, none⟩,
    ⟨some 33, .mv (.t 3), none⟩,
    ⟨some 34, .ix 1 (.t 33) (.k (.int .i64 5)), none⟩,
    ⟨some 35, .ld (.t 34) 1 false, none⟩,
    ⟨some 36, .build [.int .i64 0, .int .i64 0, .int .i64 0, .int .i64 0, .int .i64 0, .int .i64 0, .int .i64 0, .int .i64 0, .int .i64 0, .int .i64 0, .int .i64 0, .ro 2 [] true] [(0, 1, .t 17), (1, 1, .t 20), (2, 1, .t 23), (3, 1, .t 26), (4, 1, .t 29), (5, 1, .t 32), (6, 1, .t 35), (7, 1, .k (.int .i64 1))], none⟩,
    ⟨some 4, .alloc [.int .i64 0, .int .i64 0, .int .i64 0, .int .i64 0, .int .i64 0, .int .i64 0, .int .i64 0, .int .i64 0, .int .i64 0, .int .i64 0, .int .i64 0, .ro 2 [] true], none⟩,
    ⟨none, .st (.t 4) (.t 36) 12, none⟩])
   (.seq (.block 0 (.seq (.dreg [] [⟨some 38, .mv (.t 3), none⟩,
    ⟨some 39, .ix 1 (.t 38) (.k (.int .i64 0)), none⟩,
    ⟨some 40, .ld (.t 39) 1 false, none⟩,
    ⟨some 41, .bin .lss (.t 40) (.k (.int .i64 0)) 0, none⟩,
    ⟨some 42, .mv (.t 41), none⟩,
    ⟨some 43, .mv (.t 3), some (42, false)⟩,
    ⟨some 44, .ix 1 (.t 43) (.k (.int .i64 0)), some (42, false)⟩,
    ⟨some 45, .ld (.t 44) 1 false, some (42, false)⟩,
    ⟨some 46, .mv (.t 0), some (42, false)⟩,
    ⟨some 47, .nck (.t 46), some (42, false)⟩,
    ⟨some 48, .fa (.t 47) 0, some (42, false)⟩,
    ⟨some 49, .fa (.t 48) 3, some (42, false)⟩,
    ⟨some 50, .ld (.t 49) 1 false, some (42, false)⟩,
    ⟨some 51, .len (.t 50) false, some (42, false)⟩,
    ⟨some 52, .bin .geq (.t 45) (.t 51) 0, some (42, false)⟩,
    ⟨some 53, .pick (.t 42) (.k (.bool true)) (.t 52), none⟩,
    ⟨some 37, .mv (.t 53), none⟩])
   (.cond (.t 37) (.seq (.reg [⟨some 2, .mv (.k (.int .i64 4)), none⟩])
   (.ret)) (.seq (.reg [⟨some 55, .ld (.t 4) 12 true, none⟩,
    ⟨some 56, .call 102 [.t 55], none⟩,
    ⟨some 57, .un .not (.t 56), none⟩,
    ⟨some 54, .mv (.t 57), none⟩])
   (.cond (.t 54) (.seq (.reg [⟨some 2, .mv (.k (.int .i64 1)), none⟩])
   (.ret)) (.skip))))))
   (.seq (.seq (.reg [⟨some 58, .mv (.t 0), none⟩,
    ⟨some 59, .nck (.t 58), none⟩,
    ⟨some 60, .fa (.t 59) 0, none⟩,
    ⟨some 61, .fa (.t 60) 6, none⟩,
    ⟨some 62, .ld (.t 61) 1 false, none⟩,
    ⟨some 63, .len (.t 62) false, none⟩,
    ⟨some 64, .bin .geq (.t 63) (.k (.int .i64 16)) 0, none⟩])
   (.cond (.t 64) (.seq (.reg [⟨some 5, .mv (.k (.int .i64 (-1))), none⟩])
   (.seq (.seq (.reg [⟨some 65, .mv (.t 0), none⟩,
    ⟨some 66, .nck (.t 65), none⟩,
    ⟨some 67, .fa (.t 66) 0, none⟩,
    ⟨some 68, .fa (.t 67) 6, none⟩,
    ⟨some 69, .ld (.t 68) 1 false, none⟩,
    ⟨some 70, .len (.t 69) false, none⟩,
    ⟨some 71, .mv (.k (.int .i64 0)), none⟩])
   (.block 1 (.loop (.seq (.reg [⟨some 72, .bin .lss (.t 71) (.t 70) 0, none⟩])
   (.seq (.cond (.t 72) (.skip) (.exit 1))
   (.seq (.block 2 (.seq (.reg [⟨some 73, .mv (.t 71), none⟩,
    ⟨some 74, .ix 12 (.t 69) (.t 71), none⟩,
    ⟨some 75, .ld (.t 74) 12 true, none⟩,
    ⟨some 7, .alloc [.int .i64 0, .int .i64 0, .int .i64 0, .int .i64 0, .int .i64 0, .int .i64 0, .int .i64 0, .int .i64 0, .int .i64 0, .int .i64 0, .int .i64 0, .ro 2 [] true], none⟩,
    ⟨some 6, .mv (.t 73), none⟩,
    ⟨none, .st (.t 7) (.t 75) 12, none⟩])
   (.seq (.dreg [] [⟨some 76, .fa (.t 7) 7, none⟩,
    ⟨some 77, .ld (.t 76) 1 false, none⟩,
    ⟨some 78, .bin .eql (.t 77) (.k (.int .i64 4)) 0, none⟩,
    ⟨some 79, .mv (.t 78), none⟩,
    ⟨some 80, .mv (.t 5), some (79, true)⟩,
    ⟨some 81, .bin .lss (.t 80) (.k (.int .i64 0)) 0, some (79, true)⟩,
    ⟨some 82, .mv (.t 81), some (79, true)⟩,
    ⟨some 83, .fa (.t 7) 0, some (82, false)⟩,
    ⟨some 84, .ld (.t 83) 1 false, some (82, false)⟩,
    ⟨some 85, .mv (.t 0), some (82, false)⟩,
    ⟨some 86, .nck (.t 85), some (82, false)⟩,
    ⟨some 87, .fa (.t 86) 0, some (82, false)⟩,
    ⟨some 88, .fa (.t 87) 6, some (82, false)⟩,
    ⟨some 89, .ld (.t 88) 1 false, some (82, false)⟩,
    ⟨some 90, .mv (.t 5), some (82, false)⟩,
    ⟨some 91, .ix 12 (.t 89) (.t 90), some (82, false)⟩,
    ⟨some 92, .fa (.t 91) 0, some (82, false)⟩,
    ⟨some 93, .ld (.t 92) 1 false, some (82, false)⟩,
    ⟨some 94, .bin .lss (.t 84) (.t 93) 0, some (82, false)⟩,
    ⟨some 95, .pick (.t 82) (.k (.bool true)) (.t 94), some (79, true)⟩,
    ⟨some 96, .pick (.t 79) (.t 95) (.k (.bool false)), none⟩])
   (.cond (.t 96) (.reg [⟨some 97, .mv (.t 6), none⟩,
    ⟨some 5, .mv (.t 97), none⟩]) (.skip)))))
   (.reg [⟨some 98, .bin .add (.t 71) (.k (.int .i64 1)) 0, none⟩,
    ⟨some 71, .mv (.t 98), none⟩])))))))
   (.seq (.seq (.reg [⟨some 99, .mv (.t 5), none⟩,
    ⟨some 100, .bin .lss (.t 99) (.k (.int .i64 0)) 0, none⟩])
   (.cond (.t 100) (.seq (.reg [⟨some 2, .mv (.k (.int .i64 14)), none⟩])
   (.ret)) (.skip)))
   (.reg [⟨some 101, .mv (.t 0), none⟩,
    ⟨some 102, .mv (.t 0), none⟩,
    ⟨some 103, .nck (.t 102), none⟩,
    ⟨some 104, .fa (.t 103) 0, none⟩,
    ⟨some 105, .fa (.t 104) 6, none⟩,
    ⟨some 106, .ld (.t 105) 1 false, none⟩,
    ⟨some 107, .mv (.t 5), none⟩,
    ⟨some 108, .mv (.t 5), none⟩,
    ⟨some 109, .bin .add (.t 108) (.k (.int .i64 1)) 0, none⟩,
    ⟨some 110, .call 189 [.t 106, .t 107, .t 109], none⟩,
    ⟨some 111, .nck (.t 101), none⟩,
    ⟨some 112, .fa (.t 111) 0, none⟩,
    ⟨some 113, .fa (.t 112) 6, none⟩,
    ⟨none, .st (.t 113) (.t 110) 1, none⟩])))) (.skip)))
   (.seq (.dreg [] [⟨some 114, .mv (.t 0), none⟩,
    ⟨some 115, .mv (.t 0), none⟩,
    ⟨some 116, .nck (.t 115), none⟩,
    ⟨some 117, .fa (.t 116) 0, none⟩,
    ⟨some 118, .fa (.t 117) 6, none⟩,
    ⟨some 119, .ld (.t 118) 1 false, none⟩,
    ⟨some 120, .ld (.t 4) 12 true, none⟩,
    ⟨some 121, .mks 12 [.t 120], none⟩,
    ⟨some 122, .app 12 112 (.t 119) (.t 121), none⟩,
    ⟨some 123, .nck (.t 114), none⟩,
    ⟨some 124, .fa (.t 123) 0, none⟩,
    ⟨some 125, .fa (.t 124) 6, none⟩,
    ⟨none, .st (.t 125) (.t 122) 1, none⟩])
   (.seq (.reg [⟨some 126, .mv (.t 0), none⟩,
    ⟨some 127, .nck (.t 126), none⟩,
    ⟨some 128, .fa (.t 127) 0, none⟩,
    ⟨some 129, .fa (.t 128) 2, none⟩,
    ⟨some 130, .ld (.t 129) 1 false, none⟩,
    ⟨some 131, .bin .add (.t 130) (.k (.int .i64 1)) 0, none⟩,
    ⟨some 132, .nck (.t 126), none⟩,
    ⟨some 133, .fa (.t 132) 0, none⟩,
    ⟨some 134, .fa (.t 133) 2, none⟩,
    ⟨none, .st (.t 134) (.t 131) 1, none⟩])
   (.seq (.reg [⟨some 2, .mv (.k (.int .i64 0)), none⟩])
   (.ret))))))))
def k148 : FCode := ⟨135, c148, [.tmp 2], none⟩
def c149 : LCode := .seq (.reg [⟨some 2, .mv (.k (.int .i64 0)), none⟩])
   (.seq (.seq (.reg [⟨some 5, .mv (.t 0), none⟩,
    ⟨some 6, .nck (.t 5), none⟩,
    ⟨some 7, .fa (.t 6) 0, none⟩,
    ⟨some 8, .fa (.t 7) 4, none⟩,
    ⟨some 9, .ld (.t 8) 1 false, none⟩,
    ⟨some 10, .len (.t 9) false, none⟩,
    ⟨some 11, .mv (.k (.int .i64 0)), none⟩])
   (.block 0 (.loop (.seq (.reg [⟨some 12, .bin .lss (.t 11) (.t 10) 0, none⟩])
   (.seq (.cond (.t 12) (.skip) (.exit 0))
   (.seq (.block 1 (.seq (.reg [⟨some 13, .mv (.t 11), none⟩,
    ⟨some 14, .ix 6 (.t 9) (.t 11), none⟩,
    ⟨some 15, .ld (.t 14) 6 true, none⟩,
    ⟨some 4, .alloc [.int .i64 0, .int .i64 0, .int .i64 0, .int .i64 0, .int .i64 0, .int .i64 0], none⟩,
    ⟨some 3, .mv (.t 13), none⟩,
    ⟨none, .st (.t 4) (.t 15) 6, none⟩])
   (.seq (.dreg [] [⟨some 16, .fa (.t 4) 2, none⟩,
    ⟨some 17, .ld (.t 16) 1 false, none⟩,
    ⟨some 18, .mv (.t 0), none⟩,
    ⟨some 19, .nck (.t 18), none⟩,
    ⟨some 20, .fa (.t 19) 8, none⟩,
    ⟨some 21, .fa (.t 20) 1, none⟩,
    ⟨some 22, .ld (.t 21) 1 false, none⟩,
    ⟨some 23, .bin .leq (.t 17) (.t 22) 0, none⟩,
    ⟨some 24, .mv (.t 23), none⟩,
    ⟨some 25, .fa (.t 4) 3, some (24, true)⟩,
    ⟨some 26, .ld (.t 25) 1 false, some (24, true)⟩,
    ⟨some 27, .bin .gtr (.t 26) (.k (.int .i64 0)) 0, some (24, true)⟩,
    ⟨some 28, .pick (.t 24) (.t 27) (.k (.bool false)), none⟩])
   (.cond (.t 28) (.dreg [] [⟨some 29, .mv (.t 0), none⟩,
    ⟨some 30, .mv (.t 3), none⟩,
    ⟨some 31, .kcall 187 [.t 30], none⟩,
    ⟨some 32, .fa (.t 4) 3, none⟩,
    ⟨some 33, .ld (.t 32) 1 false, none⟩,
    ⟨some 34, .call 186 [.t 29, .t 31, .k (.int .i64 0), .t 33], none⟩]) (.skip)))))
   (.reg [⟨some 35, .bin .add (.t 11) (.k (.int .i64 1)) 0, none⟩,
    ⟨some 11, .mv (.t 35), none⟩])))))))
   (.seq (.seq (.reg [⟨some 36, .mv (.t 0), none⟩,
    ⟨some 37, .nck (.t 36), none⟩,
    ⟨some 38, .fa (.t 37) 15, none⟩,
    ⟨some 39, .ld (.t 38) 1 false, none⟩,
    ⟨some 40, .len (.t 39) false, none⟩,
    ⟨some 41, .bin .eql (.t 40) (.k (.int .i64 0)) 0, none⟩])
   (.cond (.t 41) (.seq (.reg [⟨some 2, .mv (.k (.int .i64 4)), none⟩])
   (.ret)) (.skip)))
   (.seq (.reg [⟨some 2, .mv (.k (.int .i64 0)), none⟩])
   (.ret))))
def k149 : FCode := ⟨42, c149, [.tmp 2], none⟩
def c150 : LCode := .seq (.reg [⟨some 2, .mv (.k (.int .i64 0)), none⟩])
   (.seq (.dreg [] [⟨some 5, .mv (.t 0), none⟩,
    ⟨some 6, .nck (.t 5), none⟩,
    ⟨some 7, .fa (.t 6) 0, none⟩,
    ⟨some 8, .fa (.t 7) 6, none⟩,
    ⟨some 9, .ld (.t 8) 1 false, none⟩,
    ⟨some 10, .mv (.t 0), none⟩,
    ⟨some 11, .nck (.t 10), none⟩,
    ⟨some 12, .fa (.t 11) 8, none⟩,
    ⟨some 13, .fa (.t 12) 5, none⟩,
    ⟨some 14, .ld (.t 13) 1 false, none⟩,
    ⟨some 15, .ix 1 (.t 14) (.k (.int .i64 0)), none⟩,
    ⟨some 16, .ld (.t 15) 1 false, none⟩,
    ⟨some 17, .call 67 [.t 9, .t 16], none⟩,
    ⟨some 3, .mv (.t 17), none⟩])
   (.seq (.seq (.reg [⟨some 18, .mv (.t 3), none⟩,
    ⟨some 19, .bin .lss (.t 18) (.k (.int .i64 0)) 0, none⟩])
   (.cond (.t 19) (.seq (.reg [⟨some 2, .mv (.k (.int .i64 4)), none⟩])
   (.ret)) (.skip)))
   (.seq (.reg [⟨some 20, .mv (.t 0), none⟩,
    ⟨some 21, .nck (.t 20), none⟩,
    ⟨some 22, .fa (.t 21) 0, none⟩,
    ⟨some 23, .fa (.t 22) 6, none⟩,
    ⟨some 24, .ld (.t 23) 1 false, none⟩,
    ⟨some 25, .mv (.t 3), none⟩,
    ⟨some 26, .ix 12 (.t 24) (.t 25), none⟩,
    ⟨some 4, .mv (.t 26), none⟩])
   (.seq (.seq (.reg [⟨some 27, .mv (.t 0), none⟩,
    ⟨some 28, .nck (.t 27), none⟩,
    ⟨some 29, .fa (.t 28) 8, none⟩,
    ⟨some 30, .fa (.t 29) 2, none⟩,
    ⟨some 31, .ld (.t 30) 1 false, none⟩])
   (.block 0 (.seq (.reg [⟨some 33, .bin .eql (.t 31) (.k (.int .i64 11)) 0, none⟩,
    ⟨some 32, .mv (.t 33), none⟩])
   (.cond (.t 32) (.seq (.reg [⟨some 34, .mv (.t 0), none⟩,
    ⟨some 35, .mv (.t 4), none⟩,
    ⟨some 36, .call 190 [.t 34, .t 35], none⟩,
    ⟨some 2, .mv (.t 36), none⟩])
   (.ret)) (.seq (.reg [⟨some 38, .bin .eql (.t 31) (.k (.int .i64 12)) 0, none⟩,
    ⟨some 37, .mv (.t 38), none⟩])
   (.cond (.t 37) (.seq (.reg [⟨some 39, .mv (.t 0), none⟩,
    ⟨some 40, .mv (.t 4), none⟩,
    ⟨some 41, .call 191 [.t 39, .t 40], none⟩,
    ⟨some 2, .mv (.t 41), none⟩])
   (.ret)) (.seq (.reg [⟨some 43, .bin .eql (.t 31) (.k (.int .i64 13)) 0, none⟩,
    ⟨some 42, .mv (.t 43), none⟩])
   (.cond (.t 42) (.seq (.reg [⟨some 44, .mv (.t 0), none⟩,
    ⟨some 45, .mv (.t 4), none⟩,
    ⟨some 46, .call 192 [.t 44, .t 45], none⟩,
    ⟨some 2, .mv (.t 46), none⟩])
   (.ret)) (.seq (.reg [⟨some 48, .bin .eql (.t 31) (.k (.int .i64 14)) 0, none⟩,
    ⟨some 47, .mv (.t 48), none⟩])
   (.cond (.t 47) (.seq (.reg [⟨some 49, .mv (.t 0), none⟩,
    ⟨some 50, .mv (.t 4), none⟩,
    ⟨some 51, .call 193 [.t 49, .t 50], none⟩,
    ⟨some 2, .mv (.t 51), none⟩])
   (.ret)) (.skip)))))))))))
   (.seq (.reg [⟨some 52, .mv (.t 0), none⟩,
    ⟨some 53, .mv (.t 3), none⟩,
    ⟨some 54, .call 194 [.t 52, .t 53], none⟩,
    ⟨some 2, .mv (.t 54), none⟩])
   (.ret))))))
def k150 : FCode := ⟨55, c150, [.tmp 2], none⟩
def c151 : LCode := .seq (.reg [⟨some 3, .box (.t 0), none⟩,
    ⟨some 6, .mv (.k (.int .i64 0)), none⟩,
    ⟨some 7, .mv (.k (.ro 6 [] true)), none⟩,
    ⟨some 8, .mv (.k (.int .i64 0)), none⟩])
   (.seq (.seq (.reg [⟨some 16, .ld (.t 3) 1 false, none⟩,
    ⟨some 17, .mv (.t 1), none⟩,
    ⟨some 18, .mv (.t 2), none⟩,
    ⟨some 19, .call 195 [.t 16, .t 17, .t 18], none⟩,
    ⟨some 9, .mv (.t 19), none⟩])
   (.seq (.reg [⟨some 20, .mv (.t 9), none⟩,
    ⟨some 21, .bin .neq (.t 20) (.k (.int .i64 0)) 0, none⟩])
   (.cond (.t 21) (.seq (.reg [⟨some 22, .mv (.t 9), none⟩,
    ⟨some 6, .mv (.k (.int .i64 0)), none⟩,
    ⟨some 7, .mv (.k (.ro 6 [] true)), none⟩,
    ⟨some 8, .mv (.t 22), none⟩])
   (.ret)) (.skip))))
   (.seq (.reg [⟨some 23, .mv (.t 1), none⟩,
    ⟨some 24, .call 179 [.t 23], none⟩,
    ⟨some 25, .call 178 [.t 24], none⟩,
    ⟨some 10, .mv (.t 25), none⟩])
   (.seq (.seq (.reg [⟨some 26, .mv (.t 10), none⟩,
    ⟨some 27, .len (.t 26) false, none⟩,
    ⟨some 28, .bin .mul (.k (.int .i64 3)) (.t 27) 0, none⟩,
    ⟨some 29, .bin .add (.k (.int .i64 1)) (.t 28) 0, none⟩,
    ⟨some 30, .mv (.k (.int .i64 0)), none⟩])
   (.block 0 (.loop (.seq (.reg [⟨some 31, .bin .lss (.t 30) (.t 29) 0, none⟩])
   (.seq (.cond (.t 31) (.skip) (.exit 0))
   (.seq (.block 1 (.seq (.reg [⟨some 32, .mv (.t 30), none⟩,
    ⟨some 11, .mv (.t 32), none⟩])
   (.seq (.reg [⟨some 33, .mv (.t 2), none⟩,
    ⟨some 34, .mv (.t 11), none⟩,
    ⟨some 35, .call 196 [.t 33, .k (.bool false), .t 34], none⟩,
    ⟨some 12, .mv (.t 35), none⟩])
   (.seq (.seq (.reg [⟨some 36, .mv (.t 12), none⟩,
    ⟨some 37, .len (.t 36) false, none⟩,
    ⟨some 38, .bin .eql (.t 37) (.k (.int .i64 0)) 0, none⟩])
   (.cond (.t 38) (.exit 1) (.skip)))
   (.seq (.reg [⟨some 39, .mv (.t 10), none⟩,
    ⟨some 40, .mv (.t 11), none⟩,
    ⟨some 41, .call 197 [.t 3, .t 39, .t 40], none⟩,
    ⟨some 13, .mv (.t 41), none⟩])
   (.seq (.reg [⟨some 43, .mv (.t 13), none⟩,
    ⟨some 44, .nck (.t 43), none⟩,
    ⟨some 45, .ld (.t 44) 1 false, none⟩,
    ⟨some 46, .mks 1 [.t 45], none⟩,
    ⟨some 47, .mv (.t 12), none⟩,
    ⟨some 48, .mks 1 [.t 46, .t 47], none⟩,
    ⟨some 49, .call 198 [.t 48], none⟩,
    ⟨some 50, .call 152 [.t 49], none⟩,
    ⟨some 42, .mv (.t 50), none⟩,
    ⟨some 51, .ext (.t 42) 0, none⟩,
    ⟨some 52, .ext (.t 42) 1, none⟩,
    ⟨some 14, .mv (.t 51), none⟩,
    ⟨some 15, .mv (.t 52), none⟩])
   (.seq (.block 2 (.seq (.reg [⟨some 54, .mv (.t 15), none⟩,
    ⟨some 55, .bin .neq (.t 54) (.k (.int .i64 0)) 0, none⟩,
    ⟨some 53, .mv (.t 55), none⟩])
   (.cond (.t 53) (.seq (.reg [⟨some 56, .mv (.t 15), none⟩,
    ⟨some 6, .mv (.k (.int .i64 0)), none⟩,
    ⟨some 7, .mv (.k (.ro 6 [] true)), none⟩,
    ⟨some 8, .mv (.t 56), none⟩])
   (.ret)) (.seq (.reg [⟨some 58, .mv (.t 11), none⟩,
    ⟨some 59, .bin .gtr (.t 58) (.k (.int .i64 0)) 0, none⟩,
    ⟨some 60, .mv (.t 59), none⟩,
    ⟨some 61, .mv (.t 14), some (60, true)⟩,
    ⟨some 62, .bin .lss (.t 61) (.k (.int .i64 0)) 0, some (60, true)⟩,
    ⟨some 63, .pick (.t 60) (.t 62) (.k (.bool false)), none⟩,
    ⟨some 64, .mv (.t 63), none⟩,
    ⟨some 65, .mv (.t 11), some (64, false)⟩,
    ⟨some 66, .bin .eql (.t 65) (.k (.int .i64 0)) 0, some (64, false)⟩,
    ⟨some 67, .mv (.t 66), some (64, false)⟩,
    ⟨some 68, .mv (.t 14), some (67, true)⟩,
    ⟨some 69, .bin .gtr (.t 68) (.k (.int .i64 0)) 0, some (67, true)⟩,
    ⟨some 70, .pick (.t 67) (.t 69) (.k (.bool false)), some (64, false)⟩,
    ⟨some 71, .pick (.t 64) (.k (.bool true)) (.t 70), none⟩,
    ⟨some 57, .mv (.t 71), none⟩])
   (.cond (.t 57) (.seq (.reg [⟨some 6, .mv (.k (.int .i64 0)), none⟩,
    ⟨some 7, .mv (.k (.ro 6 [] true)), none⟩,
    ⟨some 8, .mv (.k (.int .i64 7)), none⟩])
   (.ret)) (.skip))))))
   (.reg [⟨some 72, .mv (.t 13), none⟩,
    ⟨some 73, .mv (.t 14), none⟩,
    ⟨some 74, .nck (.t 72), none⟩,
    ⟨none, .st (.t 74) (.t 73) 1, none⟩]))))))))
   (.reg [⟨some 75, .bin .add (.t 30) (.k (.int .i64 1)) 0, none⟩,
    ⟨some 30, .mv (.t 75), none⟩])))))))
   (.seq (.reg [⟨some 76, .ld (.t 3) 1 false, none⟩,
    ⟨some 77, .mv (.t 10), none⟩,
    ⟨some 6, .mv (.t 76), none⟩,
    ⟨some 7, .mv (.t 77), none⟩,
    ⟨some 8, .mv (.k (.int .i64 0)), none⟩])
   (.ret)))))
def k151 : FCode := ⟨78, c151, [.tmp 6, .tmp 7, .tmp 8], none⟩
def c152 : LCode := .seq (.reg [⟨some 2, .mv (.k (.int .i64 0)), none⟩,
    ⟨some 3, .mv (.k (.int .i64 0)), none⟩])
   (.seq (.reg [⟨some 4, .mv (.k (.int .i64 0)), none⟩])
   (.seq (.seq (.reg [⟨some 7, .mv (.t 0), none⟩,
    ⟨some 8, .len (.t 7) false, none⟩,
    ⟨some 9, .mv (.k (.int .i64 0)), none⟩])
   (.block 0 (.loop (.seq (.reg [⟨some 10, .bin .lss (.t 9) (.t 8) 0, none⟩])
   (.seq (.cond (.t 10) (.skip) (.exit 0))
   (.seq (.block 1 (.seq (.reg [⟨some 11, .ix 1 (.t 7) (.t 9), none⟩,
    ⟨some 12, .ld (.t 11) 1 false, none⟩,
    ⟨some 6, .mv (.t 12), none⟩])
   (.seq (.seq (.reg [⟨some 13, .mv (.t 6), none⟩,
    ⟨some 14, .call 199 [.t 13], none⟩,
    ⟨some 15, .un .not (.t 14), none⟩,
    ⟨some 16, .mv (.t 15), none⟩,
    ⟨some 17, .mv (.t 4), some (16, false)⟩,
    ⟨some 18, .mv (.t 6), some (16, false)⟩,
    ⟨some 19, .bin .add (.t 17) (.t 18) 0, some (16, false)⟩,
    ⟨some 20, .call 199 [.t 19], some (16, false)⟩,
    ⟨some 21, .un .not (.t 20), some (16, false)⟩,
    ⟨some 22, .pick (.t 16) (.k (.bool true)) (.t 21), none⟩])
   (.cond (.t 22) (.seq (.reg [⟨some 2, .mv (.k (.int .i64 0)), none⟩,
    ⟨some 3, .mv (.k (.int .i64 2)), none⟩])
   (.ret)) (.skip)))
   (.reg [⟨some 23, .mv (.t 4), none⟩,
    ⟨some 24, .mv (.t 6), none⟩,
    ⟨some 25, .bin .add (.t 23) (.t 24) 0, none⟩,
    ⟨some 4, .mv (.t 25), none⟩]))))
   (.reg [⟨some 26, .bin .add (.t 9) (.k (.int .i64 1)) 0, none⟩,
    ⟨some 9, .mv (.t 26), none⟩])))))))
   (.seq (.reg [⟨some 27, .mv (.t 4), none⟩,
    ⟨some 2, .mv (.t 27), none⟩,
    ⟨some 3, .mv (.k (.int .i64 0)), none⟩])
   (.ret))))
def k152 : FCode := ⟨28, c152, [.tmp 2, .tmp 3], none⟩
def c153 : LCode := .seq (.reg [⟨some 4, .mv (.k (.bool false)), none⟩])
   (.seq (.reg [⟨some 5, .mv (.t 0), none⟩,
    ⟨some 6, .mv (.t 1), none⟩,
    ⟨some 7, .call 200 [.t 5, .t 6], none⟩,
    ⟨some 8, .bin .geq (.t 7) (.k (.int .i64 0)) 0, none⟩,
    ⟨some 4, .mv (.t 8), none⟩])
   (.ret))
def k153 : FCode := ⟨9, c153, [.tmp 4], none⟩
def c154 : LCode := .seq (.reg [⟨some 2, .box (.t 0), none⟩,
    ⟨some 3, .mv (.k (.bool false)), none⟩])
   (.seq (.reg [⟨some 4, .fa (.t 2) 0, none⟩,
    ⟨some 5, .ld (.t 4) 1 false, none⟩,
    ⟨some 6, .fa (.t 1) 0, none⟩,
    ⟨some 7, .ld (.t 6) 1 false, none⟩,
    ⟨some 8, .bin .eql (.t 5) (.t 7) 0, none⟩,
    ⟨some 3, .mv (.t 8), none⟩])
   (.ret))
def k154 : FCode := ⟨9, c154, [.tmp 3], none⟩
def c155 : LCode := .seq (.reg [⟨some 6, .mv (.k (.bool false)), none⟩])
   (.seq (.reg [⟨some 7, .mv (.t 0), none⟩,
    ⟨some 8, .mv (.t 1), none⟩,
    ⟨some 9, .bin .geq (.t 7) (.t 8) 0, none⟩,
    ⟨some 10, .mv (.t 9), none⟩,
    ⟨some 11, .mv (.t 0), some (10, true)⟩,
    ⟨some 12, .mv (.t 2), some (10, true)⟩,
    ⟨some 13, .bin .leq (.t 11) (.t 12) 0, some (10, true)⟩,
    ⟨some 14, .pick (.t 10) (.t 13) (.k (.bool false)), none⟩,
    ⟨some 6, .mv (.t 14), none⟩])
   (.ret))
def k155 : FCode := ⟨15, c155, [.tmp 6], none⟩
def c156 : LCode := .seq (.reg [⟨some 2, .mv (.k (.bool false)), none⟩])
   (.seq (.reg [⟨some 3, .mv (.k (.int .i64 0)), none⟩])
   (.seq (.seq (.reg [⟨some 6, .mv (.t 0), none⟩,
    ⟨some 7, .len (.t 6) false, none⟩,
    ⟨some 8, .mv (.k (.int .i64 0)), none⟩])
   (.block 0 (.loop (.seq (.reg [⟨some 9, .bin .lss (.t 8) (.t 7) 0, none⟩])
   (.seq (.cond (.t 9) (.skip) (.exit 0))
   (.seq (.block 1 (.seq (.reg [⟨some 10, .ix 2 (.t 6) (.t 8), none⟩,
    ⟨some 11, .ld (.t 10) 2 true, none⟩,
    ⟨some 5, .alloc [.int .i64 0, .int .i64 0], none⟩,
    ⟨none, .st (.t 5) (.t 11) 2, none⟩])
   (.seq (.seq (.reg [⟨some 12, .fa (.t 5) 0, none⟩,
    ⟨some 13, .ld (.t 12) 1 false, none⟩,
    ⟨some 14, .call 155 [.t 13, .k (.int .i64 0), .k (.int .i64 15)], none⟩,
    ⟨some 15, .un .not (.t 14), none⟩,
    ⟨some 16, .mv (.t 15), none⟩,
    ⟨some 17, .fa (.t 5) 1, some (16, false)⟩,
    ⟨some 18, .ld (.t 17) 1 false, some (16, false)⟩,
    ⟨some 19, .call 155 [.t 18, .k (.int .i64 1), .k (.int .i64 1152921504606846976)], some (16, false)⟩,
    ⟨some 20, .un .not (.t 19), some (16, false)⟩,
    ⟨some 21, .pick (.t 16) (.k (.bool true)) (.t 20), none⟩,
    ⟨some 22, .mv (.t 21), none⟩,
    ⟨some 23, .mv (.t 3), some (22, false)⟩,
    ⟨some 24, .fa (.t 5) 0, some (22, false)⟩,
    ⟨some 25, .ld (.t 24) 1 false, some (22, false)⟩,
    ⟨some 26, .bin .shr (.t 23) (.t 25) 0, some (22, false)⟩,
    ⟨some 27, .bin .and (.t 26) (.k (.int .i64 1)) 0, some (22, false)⟩,
    ⟨some 28, .bin .eql (.t 27) (.k (.int .i64 1)) 0, some (22, false)⟩,
    ⟨some 29, .pick (.t 22) (.k (.bool true)) (.t 28), none⟩])
   (.cond (.t 29) (.seq (.reg [⟨some 2, .mv (.k (.bool false)), none⟩])
   (.ret)) (.skip)))
   (.reg [⟨some 30, .mv (.t 3), none⟩,
    ⟨some 31, .fa (.t 5) 0, none⟩,
    ⟨some 32, .ld (.t 31) 1 false, none⟩,
    ⟨some 33, .bin .shl (.k (.int .i64 1)) (.t 32) 0, none⟩,
    ⟨some 34, .bin .or (.t 30) (.t 33) 0, none⟩,
    ⟨some 3, .mv (.t 34), none⟩]))))
   (.reg [⟨some 35, .bin .add (.t 8) (.k (.int .i64 1)) 0, none⟩,
    ⟨some 8, .mv (.t 35), none⟩])))))))
   (.seq (.reg [⟨some 2, .mv (.k (.bool true)), none⟩])
   (.ret))))
def k156 : FCode := ⟨36, c156, [.tmp 2], none⟩
def c157 : LCode := .seq (.reg [⟨some 2, .mv (.k (.int .i64 0)), none⟩,
    ⟨some 3, .mv (.k (.int .i64 0)), none⟩])
   (.seq (.reg [⟨some 4, .mv (.k (.int .i64 1)), none⟩])
   (.seq (.seq (.reg [⟨some 9, .mv (.t 0), none⟩,
    ⟨some 10, .len (.t 9) false, none⟩,
    ⟨some 11, .mv (.k (.int .i64 0)), none⟩])
   (.block 0 (.loop (.seq (.reg [⟨some 12, .bin .lss (.t 11) (.t 10) 0, none⟩])
   (.seq (.cond (.t 12) (.skip) (.exit 0))
   (.seq (.block 1 (.seq (.reg [⟨some 13, .ix 1 (.t 9) (.t 11), none⟩,
    ⟨some 14, .ld (.t 13) 1 false, none⟩,
    ⟨some 6, .mv (.t 14), none⟩])
   (.seq (.seq (.reg [⟨some 15, .mv (.t 6), none⟩,
    ⟨some 16, .call 199 [.t 15], none⟩,
    ⟨some 17, .un .not (.t 16), none⟩])
   (.cond (.t 17) (.seq (.reg [⟨some 2, .mv (.k (.int .i64 0)), none⟩,
    ⟨some 3, .mv (.k (.int .i64 2)), none⟩])
   (.ret)) (.skip)))
   (.seq (.reg [⟨some 19, .mv (.t 4), none⟩,
    ⟨some 20, .mv (.t 6), none⟩,
    ⟨some 21, .call 201 [.t 19, .t 20], none⟩,
    ⟨some 18, .mv (.t 21), none⟩,
    ⟨some 22, .ext (.t 18) 0, none⟩,
    ⟨some 23, .ext (.t 18) 1, none⟩,
    ⟨some 7, .mv (.t 22), none⟩,
    ⟨some 8, .mv (.t 23), none⟩])
   (.seq (.seq (.reg [⟨some 24, .mv (.t 8), none⟩,
    ⟨some 25, .un .not (.t 24), none⟩])
   (.cond (.t 25) (.seq (.reg [⟨some 2, .mv (.k (.int .i64 0)), none⟩,
    ⟨some 3, .mv (.k (.int .i64 2)), none⟩])
   (.ret)) (.skip)))
   (.reg [⟨some 26, .mv (.t 7), none⟩,
    ⟨some 4, .mv (.t 26), none⟩]))))))
   (.reg [⟨some 27, .bin .add (.t 11) (.k (.int .i64 1)) 0, none⟩,
    ⟨some 11, .mv (.t 27), none⟩])))))))
   (.seq (.reg [⟨some 28, .mv (.t 4), none⟩,
    ⟨some 2, .mv (.t 28), none⟩,
    ⟨some 3, .mv (.k (.int .i64 0)), none⟩])
   (.ret))))
def k157 : FCode := ⟨29, c157, [.tmp 2, .tmp 3], none⟩
def c158 : LCode := .seq (.reg [⟨some 4, .mv (.k (.ro 1 [] true)), none⟩])
   (.seq (.reg [⟨some 5, .mv (.k (.ro 1 [] true)), none⟩])
   (.seq (.block 0 (.loop (.seq (.seq (.reg [⟨some 7, .mv (.t 1), none⟩,
    ⟨some 8, .bin .geq (.t 7) (.k (.int .i64 0)) 0, none⟩,
    ⟨some 9, .mv (.t 8), none⟩,
    ⟨some 10, .mv (.t 1), some (9, true)⟩,
    ⟨some 11, .mv (.t 0), some (9, true)⟩,
    ⟨some 12, .len (.t 11) false, some (9, true)⟩,
    ⟨some 13, .bin .lss (.t 10) (.t 12) 0, some (9, true)⟩,
    ⟨some 14, .pick (.t 9) (.t 13) (.k (.bool false)), none⟩])
   (.cond (.t 14) (.skip) (.exit 0)))
   (.block 1 (.seq (.reg [⟨some 15, .mv (.t 5), none⟩,
    ⟨some 16, .mv (.t 1), none⟩,
    ⟨some 17, .mks 1 [.t 16], none⟩,
    ⟨some 18, .app 1 8 (.t 15) (.t 17), none⟩,
    ⟨some 5, .mv (.t 18), none⟩])
   (.seq (.reg [⟨some 19, .mv (.t 0), none⟩,
    ⟨some 20, .mv (.t 1), none⟩,
    ⟨some 21, .ix 3 (.t 19) (.t 20), none⟩,
    ⟨some 22, .fa (.t 21) 1, none⟩,
    ⟨some 23, .ld (.t 22) 1 false, none⟩,
    ⟨some 6, .mv (.t 23), none⟩])
   (.seq (.seq (.reg [⟨some 24, .mv (.t 6), none⟩,
    ⟨some 25, .mv (.t 1), none⟩,
    ⟨some 26, .bin .geq (.t 24) (.t 25) 0, none⟩])
   (.cond (.t 26) (.exit 0) (.skip)))
   (.reg [⟨some 27, .mv (.t 6), none⟩,
    ⟨some 1, .mv (.t 27), none⟩]))))))))
   (.seq (.reg [⟨some 28, .mv (.t 5), none⟩,
    ⟨some 29, .call 59 [.t 28], none⟩,
    ⟨some 4, .mv (.t 29), none⟩])
   (.ret))))
def k158 : FCode := ⟨30, c158, [.tmp 4], none⟩
def c159 : LCode := .seq (.reg [⟨some 4, .mv (.k (.ro 12 [] true)), none⟩])
   (.seq (.reg [⟨some 8, .mv (.t 0), none⟩,
    ⟨some 9, .mv (.t 1), none⟩,
    ⟨some 10, .call 113 [.t 8, .t 9], none⟩,
    ⟨some 5, .mv (.t 10), none⟩])
   (.seq (.seq (.reg [⟨some 11, .mv (.t 5), none⟩,
    ⟨some 12, .bin .eql (.t 11) (.k (.int .i64 (-1))) 0, none⟩])
   (.cond (.t 12) (.seq (.reg [⟨some 13, .mv (.t 0), none⟩,
    ⟨some 4, .mv (.t 13), none⟩])
   (.ret)) (.skip)))
   (.seq (.seq (.reg [⟨some 14, .mv (.t 5), none⟩,
    ⟨some 15, .bin .add (.t 14) (.k (.int .i64 1)) 0, none⟩,
    ⟨some 6, .mv (.t 15), none⟩])
   (.block 0 (.loop (.seq (.seq (.reg [⟨some 16, .mv (.t 6), none⟩,
    ⟨some 17, .mv (.t 0), none⟩,
    ⟨some 18, .len (.t 17) false, none⟩,
    ⟨some 19, .bin .lss (.t 16) (.t 18) 0, none⟩])
   (.cond (.t 19) (.skip) (.exit 0)))
   (.seq (.block 1 (.seq (.reg [⟨some 22, .mv (.t 0), none⟩,
    ⟨some 23, .mv (.t 6), none⟩,
    ⟨some 24, .ix 12 (.t 22) (.t 23), none⟩,
    ⟨some 25, .ld (.t 24) 12 true, none⟩,
    ⟨some 7, .alloc [.int .i64 0, .int .i64 0, .int .i64 0, .int .i64 0, .int .i64 0, .int .i64 0, .int .i64 0, .int .i64 0, .int .i64 0, .int .i64 0, .int .i64 0, .ro 2 [] true], none⟩,
    ⟨none, .st (.t 7) (.t 25) 12, none⟩])
   (.seq (.reg [⟨some 26, .mv (.t 1), none⟩,
    ⟨some 27, .ld (.t 7) 12 true, none⟩,
    ⟨some 28, .callv (.t 26) [.t 27], none⟩,
    ⟨some 29, .un .not (.t 28), none⟩])
   (.cond (.t 29) (.seq (.reg [⟨some 30, .mv (.t 0), none⟩,
    ⟨some 31, .mv (.t 5), none⟩,
    ⟨some 32, .ld (.t 7) 12 true, none⟩,
    ⟨some 33, .ix 12 (.t 30) (.t 31), none⟩,
    ⟨none, .st (.t 33) (.t 32) 12, none⟩])
   (.reg [⟨some 34, .mv (.t 5), none⟩,
    ⟨some 35, .bin .add (.t 34) (.k (.int .i64 1)) 0, none⟩,
    ⟨some 5, .mv (.t 35), none⟩])) (.skip)))))
   (.reg [⟨some 20, .mv (.t 6), none⟩,
    ⟨some 21, .bin .add (.t 20) (.k (.int .i64 1)) 0, none⟩,
    ⟨some 6, .mv (.t 21), none⟩]))))))
   (.seq (.reg [⟨some 36, .mv (.t 0), none⟩,
    ⟨some 37, .mv (.t 5), none⟩,
    ⟨some 38, .slc 12 (.t 36) (some (.t 37)) (none) (none), none⟩,
    ⟨none, .clr [.int .i64 0, .int .i64 0, .int .i64 0, .int .i64 0, .int .i64 0, .int .i64 0, .int .i64 0, .int .i64 0, .int .i64 0, .int .i64 0, .int .i64 0, .ro 2 [] true] (.t 38), none⟩])
   (.seq (.reg [⟨some 39, .mv (.t 0), none⟩,
    ⟨some 40, .mv (.t 5), none⟩,
    ⟨some 41, .slc 12 (.t 39) (none) (some (.t 40)) (none), none⟩,
    ⟨some 4, .mv (.t 41), none⟩])
   (.ret))))))
def k159 : FCode := ⟨42, c159, [.tmp 4], none⟩
def c160 : LCode := .seq (.reg [⟨some 1, .box (.t 0), none⟩,
    ⟨some 2, .mv (.k (.bool false)), none⟩])
   (.seq (.reg [⟨some 3, .fa (.t 1) 7, none⟩,
    ⟨some 4, .ld (.t 3) 1 false, none⟩,
    ⟨some 5, .bin .neq (.t 4) (.k (.int .i64 3)) 0, none⟩,
    ⟨some 2, .mv (.t 5), none⟩])
   (.ret))
def k160 : FCode := ⟨6, c160, [.tmp 2], none⟩
def c161 : LCode := .seq (.reg [⟨some 6, .mv (.k (.int .i64 20)), none⟩])
   (.seq (.reg [⟨some 10, .mv (.t 6), none⟩,
    ⟨some 7, .mv (.k (.int .i64 0)), none⟩,
    ⟨some 8, .mv (.t 10), none⟩])
   (.seq (.block 0 (.loop (.seq (.seq (.reg [⟨some 11, .mv (.t 8), none⟩,
    ⟨some 12, .mv (.t 1), none⟩,
    ⟨some 13, .bin .leq (.t 11) (.t 12) 0, none⟩])
   (.cond (.t 13) (.skip) (.exit 0)))
   (.block 1 (.seq (.reg [⟨some 14, .mv (.t 0), none⟩,
    ⟨some 15, .mv (.t 7), none⟩,
    ⟨some 16, .mv (.t 8), none⟩,
    ⟨some 17, .mv (.t 2), none⟩,
    ⟨some 18, .call 202 [.t 14, .t 15, .t 16, .t 17], none⟩])
   (.seq (.reg [⟨some 19, .mv (.t 8), none⟩,
    ⟨some 7, .mv (.t 19), none⟩])
   (.reg [⟨some 20, .mv (.t 8), none⟩,
    ⟨some 21, .mv (.t 6), none⟩,
    ⟨some 22, .bin .add (.t 20) (.t 21) 0, none⟩,
    ⟨some 8, .mv (.t 22), none⟩])))))))
   (.seq (.reg [⟨some 23, .mv (.t 0), none⟩,
    ⟨some 24, .mv (.t 7), none⟩,
    ⟨some 25, .mv (.t 1), none⟩,
    ⟨some 26, .mv (.t 2), none⟩,
    ⟨some 27, .call 202 [.t 23, .t 24, .t 25, .t 26], none⟩])
   (.block 2 (.loop (.seq (.seq (.reg [⟨some 28, .mv (.t 6), none⟩,
    ⟨some 29, .mv (.t 1), none⟩,
    ⟨some 30, .bin .lss (.t 28) (.t 29) 0, none⟩])
   (.cond (.t 30) (.skip) (.exit 2)))
   (.block 3 (.seq (.reg [⟨some 31, .mv (.t 6), none⟩,
    ⟨some 32, .bin .mul (.k (.int .i64 2)) (.t 31) 0, none⟩,
    ⟨some 7, .mv (.k (.int .i64 0)), none⟩,
    ⟨some 8, .mv (.t 32), none⟩])
   (.seq (.block 4 (.loop (.seq (.seq (.reg [⟨some 33, .mv (.t 8), none⟩,
    ⟨some 34, .mv (.t 1), none⟩,
    ⟨some 35, .bin .leq (.t 33) (.t 34) 0, none⟩])
   (.cond (.t 35) (.skip) (.exit 4)))
   (.block 5 (.seq (.reg [⟨some 36, .mv (.t 0), none⟩,
    ⟨some 37, .mv (.t 7), none⟩,
    ⟨some 38, .mv (.t 7), none⟩,
    ⟨some 39, .mv (.t 6), none⟩,
    ⟨some 40, .bin .add (.t 38) (.t 39) 0, none⟩,
    ⟨some 41, .mv (.t 8), none⟩,
    ⟨some 42, .mv (.t 2), none⟩,
    ⟨some 43, .call 203 [.t 36, .t 37, .t 40, .t 41, .t 42], none⟩])
   (.seq (.reg [⟨some 44, .mv (.t 8), none⟩,
    ⟨some 7, .mv (.t 44), none⟩])
   (.reg [⟨some 45, .mv (.t 8), none⟩,
    ⟨some 46, .mv (.t 6), none⟩,
    ⟨some 47, .bin .mul (.k (.int .i64 2)) (.t 46) 0, none⟩,
    ⟨some 48, .bin .add (.t 45) (.t 47) 0, none⟩,
    ⟨some 8, .mv (.t 48), none⟩])))))))
   (.seq (.seq (.reg [⟨some 49, .mv (.t 7), none⟩,
    ⟨some 50, .mv (.t 6), none⟩,
    ⟨some 51, .bin .add (.t 49) (.t 50) 0, none⟩,
    ⟨some 9, .mv (.t 51), none⟩])
   (.seq (.reg [⟨some 52, .mv (.t 9), none⟩,
    ⟨some 53, .mv (.t 1), none⟩,
    ⟨some 54, .bin .lss (.t 52) (.t 53) 0, none⟩])
   (.cond (.t 54) (.reg [⟨some 55, .mv (.t 0), none⟩,
    ⟨some 56, .mv (.t 7), none⟩,
    ⟨some 57, .mv (.t 9), none⟩,
    ⟨some 58, .mv (.t 1), none⟩,
    ⟨some 59, .mv (.t 2), none⟩,
    ⟨some 60, .call 203 [.t 55, .t 56, .t 57, .t 58, .t 59], none⟩]) (.skip))))
   (.reg [⟨some 61, .mv (.t 6), none⟩,
    ⟨some 62, .bin .mul (.t 61) (.k (.int .i64 2)) 0, none⟩,
    ⟨some 6, .mv (.t 62), none⟩])))))))))))
def k161 : FCode := ⟨63, c161, [], none⟩
def c162 : LCode := .seq (.reg [⟨some 2, .mv (.k (.bool false)), none⟩])
   (.seq (.reg [⟨some 3, .mv (.t 0), none⟩,
    ⟨some 4, .mv (.t 0), none⟩,
    ⟨some 5, .bin .neq (.t 3) (.t 4) 0, none⟩,
    ⟨some 2, .mv (.t 5), none⟩])
   (.ret))
def k162 : FCode := ⟨6, c162, [.tmp 2], none⟩
def c163 : LCode := .seq (.reg [⟨some 6, .mv (.k (.int .i64 20)), none⟩])
   (.seq (.reg [⟨some 10, .mv (.t 6), none⟩,
    ⟨some 7, .mv (.k (.int .i64 0)), none⟩,
    ⟨some 8, .mv (.t 10), none⟩])
   (.seq (.block 0 (.loop (.seq (.seq (.reg [⟨some 11, .mv (.t 8), none⟩,
    ⟨some 12, .mv (.t 1), none⟩,
    ⟨some 13, .bin .leq (.t 11) (.t 12) 0, none⟩])
   (.cond (.t 13) (.skip) (.exit 0)))
   (.block 1 (.seq (.reg [⟨some 14, .mv (.t 0), none⟩,
    ⟨some 15, .mv (.t 7), none⟩,
    ⟨some 16, .mv (.t 8), none⟩,
    ⟨some 17, .mv (.t 2), none⟩,
    ⟨some 18, .call 204 [.t 14, .t 15, .t 16, .t 17], none⟩])
   (.seq (.reg [⟨some 19, .mv (.t 8), none⟩,
    ⟨some 7, .mv (.t 19), none⟩])
   (.reg [⟨some 20, .mv (.t 8), none⟩,
    ⟨some 21, .mv (.t 6), none⟩,
    ⟨some 22, .bin .add (.t 20) (.t 21) 0, none⟩,
    ⟨some 8, .mv (.t 22), none⟩])))))))
   (.seq (.reg [⟨some 23, .mv (.t 0), none⟩,
    ⟨some 24, .mv (.t 7), none⟩,
    ⟨some 25, .mv (.t 1), none⟩,
    ⟨some 26, .mv (.t 2), none⟩,
    ⟨some 27, .call 204 [.t 23, .t 24, .t 25, .t 26], none⟩])
   (.block 2 (.loop (.seq (.seq (.reg [⟨some 28, .mv (.t 6), none⟩,
    ⟨some 29, .mv (.t 1), none⟩,
    ⟨some 30, .bin .lss (.t 28) (.t 29) 0, none⟩])
   (.cond (.t 30) (.skip) (.exit 2)))
   (.block 3 (.seq (.reg [⟨some 31, .mv (.t 6), none⟩,
    ⟨some 32, .bin .mul (.k (.int .i64 2)) (.t 31) 0, none⟩,
    ⟨some 7, .mv (.k (.int .i64 0)), none⟩,
    ⟨some 8, .mv (.t 32), none⟩])
   (.seq (.block 4 (.loop (.seq (.seq (.reg [⟨some 33, .mv (.t 8), none⟩,
    ⟨some 34, .mv (.t 1), none⟩,
    ⟨some 35, .bin .leq (.t 33) (.t 34) 0, none⟩])
   (.cond (.t 35) (.skip) (.exit 4)))
   (.block 5 (.seq (.reg [⟨some 36, .mv (.t 0), none⟩,
    ⟨some 37, .mv (.t 7), none⟩,
    ⟨some 38, .mv (.t 7), none⟩,
    ⟨some 39, .mv (.t 6), none⟩,
    ⟨some 40, .bin .add (.t 38) (.t 39) 0, none⟩,
    ⟨some 41, .mv (.t 8), none⟩,
    ⟨some 42, .mv (.t 2), none⟩,
    ⟨some 43, .call 205 [.t 36, .t 37, .t 40, .t 41, .t 42], none⟩])
   (.seq (.reg [⟨some 44, .mv (.t 8), none⟩,
    ⟨some 7, .mv (.t 44), none⟩])
   (.reg [⟨some 45, .mv (.t 8), none⟩,
    ⟨some 46, .mv (.t 6), none⟩,
    ⟨some 47, .bin .mul (.k (.int .i64 2)) (.t 46) 0, none⟩,
    ⟨some 48, .bin .add (.t 45) (.t 47) 0, none⟩,
    ⟨some 8, .mv (.t 48), none⟩])))))))
   (.seq (.seq (.reg [⟨some 49, .mv (.t 7), none⟩,
    ⟨some 50, .mv (.t 6), none⟩,
    ⟨some 51, .bin .add (.t 49) (.t 50) 0, none⟩,
    ⟨some 9, .mv (.t 51), none⟩])
   (.seq (.reg [⟨some 52, .mv (.t 9), none⟩,
    ⟨some 53, .mv (.t 1), none⟩,
    ⟨some 54, .bin .lss (.t 52) (.t 53) 0, none⟩])
   (.cond (.t 54) (.reg [⟨some 55, .mv (.t 0), none⟩,
    ⟨some 56, .mv (.t 7), none⟩,
    ⟨some 57, .mv (.t 9), none⟩,
    ⟨some 58, .mv (.t 1), none⟩,
    ⟨some 59, .mv (.t 2), none⟩,
    ⟨some 60, .call 205 [.t 55, .t 56, .t 57, .t 58, .t 59], none⟩]) (.skip))))
   (.reg [⟨some 61, .mv (.t 6), none⟩,
    ⟨some 62, .bin .mul (.t 61) (.k (.int .i64 2)) 0, none⟩,
    ⟨some 6, .mv (.t 62), none⟩])))))))))))
def k163 : FCode := ⟨63, c163, [], none⟩
def c164 : LCode := .seq (.reg [⟨some 2, .mv (.k (.ro 2 [] true)), none⟩])
   (.seq (.seq (.reg [⟨some 3, .mv (.t 0), none⟩,
    ⟨some 4, .isnil (.t 3), none⟩])
   (.cond (.t 4) (.seq (.reg [⟨some 2, .mv (.k (.ro 2 [] true)), none⟩])
   (.ret)) (.skip)))
   (.seq (.reg [⟨some 5, .mks 2 [], none⟩,
    ⟨some 6, .mv (.t 0), none⟩,
    ⟨some 7, .app 2 16 (.t 5) (.t 6), none⟩,
    ⟨some 2, .mv (.t 7), none⟩])
   (.ret)))
def k164 : FCode := ⟨8, c164, [.tmp 2], some 2⟩
def c165 : LCode := .reg [⟨some 4, .mv (.t 0), none⟩,
    ⟨some 5, .mv (.t 0), none⟩,
    ⟨some 6, .len (.t 5) false, none⟩,
    ⟨some 7, .mv (.t 1), none⟩,
    ⟨some 8, .call 206 [.t 4, .t 6, .t 7], none⟩]
def k165 : FCode := ⟨9, c165, [], none⟩
def c166 : LCode := .seq (.reg [⟨some 2, .box (.t 0), none⟩,
    ⟨some 3, .box (.t 1), none⟩,
    ⟨some 4, .mv (.k (.int .i64 0)), none⟩])
   (.seq (.reg [⟨some 5, .fa (.t 2) 0, none⟩,
    ⟨some 6, .ld (.t 5) 1 false, none⟩,
    ⟨some 7, .fa (.t 3) 0, none⟩,
    ⟨some 8, .ld (.t 7) 1 false, none⟩,
    ⟨some 9, .call 112 [.t 6, .t 8], none⟩,
    ⟨some 4, .mv (.t 9), none⟩])
   (.ret))
def k166 : FCode := ⟨10, c166, [.tmp 4], none⟩
def c167 : LCode := .seq (.reg [⟨some 2, .mv (.k (.ro 2 [] true)), none⟩])
   (.seq (.reg [⟨some 6, .mv (.t 0), none⟩,
    ⟨some 7, .call 207 [.t 6, .k (.fn 208 [])], none⟩])
   (.seq (.reg [⟨some 3, .mv (.k (.ro 2 [] true)), none⟩])
   (.seq (.seq (.reg [⟨some 8, .mv (.t 0), none⟩,
    ⟨some 9, .len (.t 8) false, none⟩,
    ⟨some 10, .mv (.k (.int .i64 0)), none⟩])
   (.block 0 (.loop (.seq (.reg [⟨some 11, .bin .lss (.t 10) (.t 9) 0, none⟩])
   (.seq (.cond (.t 11) (.skip) (.exit 0))
   (.seq (.block 1 (.seq (.reg [⟨some 12, .mv (.t 10), none⟩,
    ⟨some 13, .ix 2 (.t 8) (.t 10), none⟩,
    ⟨some 14, .ld (.t 13) 2 true, none⟩,
    ⟨some 5, .alloc [.int .i64 0, .int .i64 0], none⟩,
    ⟨some 4, .mv (.t 12), none⟩,
    ⟨none, .st (.t 5) (.t 14) 2, none⟩])
   (.seq (.seq (.dreg [] [⟨some 15, .mv (.t 4), none⟩,
    ⟨some 16, .bin .add (.t 15) (.k (.int .i64 1)) 0, none⟩,
    ⟨some 17, .mv (.t 0), none⟩,
    ⟨some 18, .len (.t 17) false, none⟩,
    ⟨some 19, .bin .lss (.t 16) (.t 18) 0, none⟩,
    ⟨some 20, .mv (.t 19), none⟩,
    ⟨some 21, .mv (.t 0), some (20, true)⟩,
    ⟨some 22, .mv (.t 4), some (20, true)⟩,
    ⟨some 23, .bin .add (.t 22) (.k (.int .i64 1)) 0, some (20, true)⟩,
    ⟨some 24, .ix 2 (.t 21) (.t 23), some (20, true)⟩,
    ⟨some 25, .fa (.t 24) 0, some (20, true)⟩,
    ⟨some 26, .ld (.t 25) 1 false, some (20, true)⟩,
    ⟨some 27, .fa (.t 5) 0, some (20, true)⟩,
    ⟨some 28, .ld (.t 27) 1 false, some (20, true)⟩,
    ⟨some 29, .bin .eql (.t 26) (.t 28) 0, some (20, true)⟩,
    ⟨some 30, .pick (.t 20) (.t 29) (.k (.bool false)), none⟩,
    ⟨some 31, .mv (.t 30), none⟩,
    ⟨some 32, .mv (.t 3), some (31, false)⟩,
    ⟨some 33, .len (.t 32) false, some (31, false)⟩,
    ⟨some 34, .bin .gtr (.t 33) (.k (.int .i64 0)) 0, some (31, false)⟩,
    ⟨some 35, .mv (.t 34), some (31, false)⟩,
    ⟨some 36, .mv (.t 3), some (35, true)⟩,
    ⟨some 37, .mv (.t 3), some (35, true)⟩,
    ⟨some 38, .len (.t 37) false, some (35, true)⟩,
    ⟨some 39, .bin .sub (.t 38) (.k (.int .i64 1)) 0, some (35, true)⟩,
    ⟨some 40, .ix 2 (.t 36) (.t 39), some (35, true)⟩,
    ⟨some 41, .fa (.t 40) 1, some (35, true)⟩,
    ⟨some 42, .ld (.t 41) 1 false, some (35, true)⟩,
    ⟨some 43, .fa (.t 5) 1, some (35, true)⟩,
    ⟨some 44, .ld (.t 43) 1 false, some (35, true)⟩,
    ⟨some 45, .bin .eql (.t 42) (.t 44) 0, some (35, true)⟩,
    ⟨some 46, .pick (.t 35) (.t 45) (.k (.bool false)), some (31, false)⟩,
    ⟨some 47, .pick (.t 31) (.k (.bool true)) (.t 46), none⟩])
   (.cond (.t 47) (.exit 1) (.skip)))
   (.reg [⟨some 48, .mv (.t 3), none⟩,
    ⟨some 49, .ld (.t 5) 2 true, none⟩,
    ⟨some 50, .mks 2 [.t 49], none⟩,
    ⟨some 51, .app 2 16 (.t 48) (.t 50), none⟩,
    ⟨some 3, .mv (.t 51), none⟩]))))
   (.reg [⟨some 52, .bin .add (.t 10) (.k (.int .i64 1)) 0, none⟩,
    ⟨some 10, .mv (.t 52), none⟩])))))))
   (.seq (.reg [⟨some 53, .mv (.t 3), none⟩,
    ⟨some 54, .call 209 [.t 53], none⟩,
    ⟨some 2, .mv (.t 54), none⟩])
   (.ret)))))
def k167 : FCode := ⟨55, c167, [.tmp 2], none⟩
def c168 : LCode := .seq (.reg [⟨some 6, .mv (.k (.int .i64 0)), none⟩,
    ⟨some 7, .mv (.k (.bool false)), none⟩])
   (.seq (.reg [⟨some 8, .mv (.k (.int .i64 (-1))), none⟩])
   (.seq (.seq (.reg [⟨some 11, .mv (.t 0), none⟩,
    ⟨some 12, .len (.t 11) false, none⟩,
    ⟨some 13, .mv (.k (.int .i64 0)), none⟩])
   (.block 0 (.loop (.seq (.reg [⟨some 14, .bin .lss (.t 13) (.t 12) 0, none⟩])
   (.seq (.cond (.t 14) (.skip) (.exit 0))
   (.seq (.block 1 (.seq (.reg [⟨some 15, .mv (.t 13), none⟩,
    ⟨some 16, .ix 2 (.t 11) (.t 13), none⟩,
    ⟨some 17, .ld (.t 16) 2 true, none⟩,
    ⟨some 10, .alloc [.int .i64 0, .int .i64 0], none⟩,
    ⟨some 9, .mv (.t 15), none⟩,
    ⟨none, .st (.t 10) (.t 17) 2, none⟩])
   (.seq (.block 2 (.seq (.reg [⟨some 19, .fa (.t 10) 1, none⟩,
    ⟨some 20, .ld (.t 19) 1 false, none⟩,
    ⟨some 21, .mv (.t 1), none⟩,
    ⟨some 22, .bin .lss (.t 20) (.t 21) 0, none⟩,
    ⟨some 18, .mv (.t 22), none⟩])
   (.cond (.t 18) (.reg [⟨some 8, .mv (.k (.int .i64 (-1))), none⟩]) (.seq (.reg [⟨some 24, .mv (.t 8), none⟩,
    ⟨some 25, .bin .lss (.t 24) (.k (.int .i64 0)) 0, none⟩,
    ⟨some 23, .mv (.t 25), none⟩])
   (.cond (.t 23) (.reg [⟨some 26, .mv (.t 9), none⟩,
    ⟨some 8, .mv (.t 26), none⟩]) (.skip))))))
   (.seq (.dreg [] [⟨some 27, .mv (.t 8), none⟩,
    ⟨some 28, .bin .geq (.t 27) (.k (.int .i64 0)) 0, none⟩,
    ⟨some 29, .mv (.t 28), none⟩,
    ⟨some 30, .mv (.t 9), some (29, true)⟩,
    ⟨some 31, .bin .add (.t 30) (.k (.int .i64 1)) 0, some (29, true)⟩,
    ⟨some 32, .mv (.t 0), some (29, true)⟩,
    ⟨some 33, .len (.t 32) false, some (29, true)⟩,
    ⟨some 34, .bin .eql (.t 31) (.t 33) 0, some (29, true)⟩,
    ⟨some 35, .mv (.t 34), some (29, true)⟩,
    ⟨some 36, .mv (.t 0), some (35, false)⟩,
    ⟨some 37, .mv (.t 9), some (35, false)⟩,
    ⟨some 38, .bin .add (.t 37) (.k (.int .i64 1)) 0, some (35, false)⟩,
    ⟨some 39, .ix 2 (.t 36) (.t 38), some (35, false)⟩,
    ⟨some 40, .fa (.t 39) 0, some (35, false)⟩,
    ⟨some 41, .ld (.t 40) 1 false, some (35, false)⟩,
    ⟨some 42, .mv (.t 0), some (35, false)⟩,
    ⟨some 43, .mv (.t 8), some (35, false)⟩,
    ⟨some 44, .ix 2 (.t 42) (.t 43), some (35, false)⟩,
    ⟨some 45, .fa (.t 44) 0, some (35, false)⟩,
    ⟨some 46, .ld (.t 45) 1 false, some (35, false)⟩,
    ⟨some 47, .bin .sub (.t 41) (.t 46) 0, some (35, false)⟩,
    ⟨some 48, .mv (.t 2), some (35, false)⟩,
    ⟨some 49, .mm true (.t 48) [.k (.int .i64 1)], some (35, false)⟩,
    ⟨some 50, .bin .geq (.t 47) (.t 49) 0, some (35, false)⟩,
    ⟨some 51, .pick (.t 35) (.k (.bool true)) (.t 50), some (29, true)⟩,
    ⟨some 52, .pick (.t 29) (.t 51) (.k (.bool false)), none⟩])
   (.cond (.t 52) (.seq (.reg [⟨some 53, .mv (.t 0), none⟩,
    ⟨some 54, .mv (.t 8), none⟩,
    ⟨some 55, .ix 2 (.t 53) (.t 54), none⟩,
    ⟨some 56, .fa (.t 55) 0, none⟩,
    ⟨some 57, .ld (.t 56) 1 false, none⟩,
    ⟨some 6, .mv (.t 57), none⟩,
    ⟨some 7, .mv (.k (.bool true)), none⟩])
   (.ret)) (.skip))))))
   (.reg [⟨some 58, .bin .add (.t 13) (.k (.int .i64 1)) 0, none⟩,
    ⟨some 13, .mv (.t 58), none⟩])))))))
   (.seq (.reg [⟨some 6, .mv (.k (.int .i64 0)), none⟩,
    ⟨some 7, .mv (.k (.bool false)), none⟩])
   (.ret))))
def k168 : FCode := ⟨59, c168, [.tmp 6, .tmp 7], none⟩
def c169 : LCode := .seq (.reg [⟨some 8, .mv (.k (.ro 2 [] true)), none⟩])
   (.seq (.seq (.reg [⟨some 14, .mv (.t 0), none⟩,
    ⟨some 15, .len (.t 14) false, none⟩,
    ⟨some 16, .bin .eql (.t 15) (.k (.int .i64 0)) 0, none⟩])
   (.cond (.t 16) (.seq (.reg [⟨some 8, .mv (.k (.ro 2 [] true)), none⟩])
   (.ret)) (.skip)))
   (.seq (.dreg [] [⟨some 17, .mv (.t 1), none⟩,
    ⟨some 18, .mv (.t 0), none⟩,
    ⟨some 19, .ix 2 (.t 18) (.k (.int .i64 0)), none⟩,
    ⟨some 20, .fa (.t 19) 0, none⟩,
    ⟨some 21, .ld (.t 20) 1 false, none⟩,
    ⟨some 22, .mm true (.t 17) [.t 21], none⟩,
    ⟨some 23, .mv (.t 1), none⟩,
    ⟨some 24, .mv (.t 2), none⟩,
    ⟨some 25, .mm true (.t 24) [.k (.int .i64 0)], none⟩,
    ⟨some 26, .bin .add (.t 23) (.t 25) 0, none⟩,
    ⟨some 27, .mv (.t 0), none⟩,
    ⟨some 28, .ix 2 (.t 27) (.k (.int .i64 0)), none⟩,
    ⟨some 29, .fa (.t 28) 0, none⟩,
    ⟨some 30, .ld (.t 29) 1 false, none⟩,
    ⟨some 31, .mm true (.t 26) [.t 30], none⟩,
    ⟨some 9, .mv (.t 22), none⟩,
    ⟨some 10, .mv (.t 31), none⟩])
   (.seq (.reg [⟨some 32, .mv (.t 0), none⟩,
    ⟨some 33, .call 210 [.t 32], none⟩,
    ⟨some 11, .mv (.t 33), none⟩])
   (.seq (.reg [⟨some 34, .mv (.t 11), none⟩,
    ⟨some 35, .mv (.t 9), none⟩,
    ⟨some 36, .mv (.t 0), none⟩,
    ⟨some 37, .mv (.t 9), none⟩,
    ⟨some 38, .call 118 [.t 36, .t 37], none⟩,
    ⟨some 39, .build [.int .i64 0, .int .i64 0] [(0, 1, .t 35), (1, 1, .t 38)], none⟩,
    ⟨some 40, .mv (.t 10), none⟩,
    ⟨some 41, .mv (.t 0), none⟩,
    ⟨some 42, .mv (.t 10), none⟩,
    ⟨some 43, .call 118 [.t 41, .t 42], none⟩,
    ⟨some 44, .build [.int .i64 0, .int .i64 0] [(0, 1, .t 40), (1, 1, .t 43)], none⟩,
    ⟨some 45, .mks 2 [.t 39, .t 44], none⟩,
    ⟨some 46, .app 2 16 (.t 34) (.t 45), none⟩,
    ⟨some 11, .mv (.t 46), none⟩])
   (.seq (.reg [⟨some 47, .mv (.t 11), none⟩,
    ⟨some 48, .call 207 [.t 47, .k (.fn 211 [])], none⟩])
   (.seq (.seq (.reg [⟨some 49, .mv (.t 11), none⟩,
    ⟨some 50, .len (.t 49) false, none⟩,
    ⟨some 51, .mv (.k (.int .i64 0)), none⟩])
   (.block 0 (.loop (.seq (.reg [⟨some 52, .bin .lss (.t 51) (.t 50) 0, none⟩])
   (.seq (.cond (.t 52) (.skip) (.exit 0))
   (.seq (.block 1 (.seq (.reg [⟨some 53, .mv (.t 51), none⟩,
    ⟨some 54, .ix 2 (.t 49) (.t 51), none⟩,
    ⟨some 55, .ld (.t 54) 2 true, none⟩,
    ⟨some 13, .alloc [.int .i64 0, .int .i64 0], none⟩,
    ⟨some 12, .mv (.t 53), none⟩,
    ⟨none, .st (.t 13) (.t 55) 2, none⟩])
   (.seq (.reg [⟨some 56, .fa (.t 13) 0, none⟩,
    ⟨some 57, .ld (.t 56) 1 false, none⟩,
    ⟨some 58, .mv (.t 9), none⟩,
    ⟨some 59, .bin .geq (.t 57) (.t 58) 0, none⟩,
    ⟨some 60, .mv (.t 59), none⟩,
    ⟨some 61, .fa (.t 13) 0, some (60, true)⟩,
    ⟨some 62, .ld (.t 61) 1 false, some (60, true)⟩,
    ⟨some 63, .mv (.t 10), some (60, true)⟩,
    ⟨some 64, .bin .lss (.t 62) (.t 63) 0, some (60, true)⟩,
    ⟨some 65, .pick (.t 60) (.t 64) (.k (.bool false)), none⟩])
   (.cond (.t 65) (.reg [⟨some 66, .mv (.t 11), none⟩,
    ⟨some 67, .mv (.t 12), none⟩,
    ⟨some 68, .ix 2 (.t 66) (.t 67), none⟩,
    ⟨some 69, .fa (.t 68) 1, none⟩,
    ⟨some 70, .ld (.t 69) 1 false, none⟩,
    ⟨some 71, .mv (.t 3), none⟩,
    ⟨some 72, .bin .sub (.t 70) (.t 71) 0, none⟩,
    ⟨some 73, .ix 2 (.t 66) (.t 67), none⟩,
    ⟨some 74, .fa (.t 73) 1, none⟩,
    ⟨none, .st (.t 74) (.t 72) 1, none⟩]) (.skip)))))
   (.reg [⟨some 75, .bin .add (.t 51) (.k (.int .i64 1)) 0, none⟩,
    ⟨some 51, .mv (.t 75), none⟩])))))))
   (.seq (.reg [⟨some 76, .mv (.t 11), none⟩,
    ⟨some 77, .call 167 [.t 76], none⟩,
    ⟨some 8, .mv (.t 77), none⟩])
   (.ret))))))))
def k169 : FCode := ⟨78, c169, [.tmp 8], none⟩
def c170 : LCode := .seq (.reg [⟨some 6, .mv (.k (.int .i64 0)), none⟩])
   (.seq (.seq (.reg [⟨some 7, .mv (.k (.int .i64 0)), none⟩])
   (.block 0 (.loop (.seq (.seq (.reg [⟨some 8, .mv (.t 7), none⟩,
    ⟨some 9, .mv (.t 1), none⟩,
    ⟨some 10, .len (.t 9) false, none⟩,
    ⟨some 11, .bin .lss (.t 8) (.t 10) 0, none⟩])
   (.cond (.t 11) (.skip) (.exit 0)))
   (.seq (.block 1 (.seq (.reg [⟨some 14, .mv (.t 1), none⟩,
    ⟨some 15, .mv (.t 7), none⟩,
    ⟨some 16, .ix 3 (.t 14) (.t 15), none⟩,
    ⟨some 17, .fa (.t 16) 0, none⟩,
    ⟨some 18, .ld (.t 17) 1 false, none⟩,
    ⟨some 19, .mv (.t 2), none⟩,
    ⟨some 20, .bin .leq (.t 18) (.t 19) 0, none⟩,
    ⟨some 21, .mv (.t 20), none⟩,
    ⟨some 22, .mv (.t 2), some (21, true)⟩,
    ⟨some 23, .mv (.t 1), some (21, true)⟩,
    ⟨some 24, .mv (.t 7), some (21, true)⟩,
    ⟨some 25, .ix 3 (.t 23) (.t 24), some (21, true)⟩,
    ⟨some 26, .fa (.t 25) 1, some (21, true)⟩,
    ⟨some 27, .ld (.t 26) 1 false, some (21, true)⟩,
    ⟨some 28, .bin .lss (.t 22) (.t 27) 0, some (21, true)⟩,
    ⟨some 29, .pick (.t 21) (.t 28) (.k (.bool false)), none⟩])
   (.cond (.t 29) (.reg [⟨some 30, .mv (.t 0), none⟩,
    ⟨some 31, .mv (.t 1), none⟩,
    ⟨some 32, .mv (.t 7), none⟩,
    ⟨some 33, .ix 3 (.t 31) (.t 32), none⟩,
    ⟨some 34, .fa (.t 33) 2, none⟩,
    ⟨some 35, .ld (.t 34) 1 false, none⟩,
    ⟨some 36, .bin .sub (.t 30) (.t 35) 0, none⟩,
    ⟨some 0, .mv (.t 36), none⟩]) (.skip))))
   (.reg [⟨some 12, .mv (.t 7), none⟩,
    ⟨some 13, .bin .add (.t 12) (.k (.int .i64 1)) 0, none⟩,
    ⟨some 7, .mv (.t 13), none⟩]))))))
   (.seq (.reg [⟨some 37, .mv (.t 0), none⟩,
    ⟨some 6, .mv (.t 37), none⟩])
   (.ret)))
def k170 : FCode := ⟨38, c170, [.tmp 6], none⟩
def c171 : LCode := .seq (.reg [⟨some 2, .mv (.k (.int .i64 0)), none⟩])
   (.seq (.dreg [] [⟨some 3, .mv (.t 0), none⟩,
    ⟨some 4, .bin .shr (.t 3) (.k (.int .u64 24)) 0, none⟩,
    ⟨some 5, .six (.k (.str ⟨#[0, 1, 1, 2, 1, 2, 2, 3, 1, 2, 2, 3, 2, 3, 3, 4, 1, 2, 2, 3, 2, 3, 3, 4, 2, 3, 3, 4, 3, 4, 4, 5, 1, 2, 2, 3, 2, 3, 3, 4, 2, 3, 3, 4, 3, 4, 4, 5, 2, 3, 3, 4, 3, 4, 4, 5, 3, 4, 4, 5, 4, 5, 5, 6, 1, 2, 2, 3, 2, 3, 3, 4, 2, 3, 3, 4, 3, 4, 4, 5, 2, 3, 3, 4, 3, 4, 4, 5, 3, 4, 4, 5, 4, 5, 5, 6, 2, 3, 3, 4, 3, 4, 4, 5, 3, 4, 4, 5, 4, 5, 5, 6, 3, 4, 4, 5, 4, 5, 5, 6, 4, 5, 5, 6, 5, 6, 6, 7, 1, 2, 2, 3, 2, 3, 3, 4, 2, 3, 3, 4, 3, 4, 4, 5, 2, 3, 3, 4, 3, 4, 4, 5, 3, 4, 4, 5, 4, 5, 5, 6, 2, 3, 3, 4, 3, 4, 4, 5, 3, 4, 4, 5, 4, 5, 5, 6, 3, 4, 4, 5, 4, 5, 5, 6, 4, 5, 5, 6, 5, 6, 6, 7, 2, 3, 3, 4, 3, 4, 4, 5, 3, 4, 4, 5, 4, 5, 5, 6, 3, 4, 4, 5, 4, 5, 5, 6, 4, 5, 5, 6, 5, 6, 6, 7, 3, 4, 4, 5, 4, 5, 5, 6, 4, 5, 5, 6, 5, 6, 6, 7, 4, 5, 5, 6, 5, 6, 6, 7, 5, 6, 6, 7, 6, 7, 7, 8]⟩)) (.t 4), none⟩,
    ⟨some 6, .mv (.t 0), none⟩,
    ⟨some 7, .bin .shr (.t 6) (.k (.int .u64 16)) 0, none⟩,
    ⟨some 8, .bin .and (.t 7) (.k (.int .u32 255)) 0, none⟩,
    ⟨some 9, .six (.k (.str ⟨#[0, 1, 1, 2, 1, 2, 2, 3, 1, 2, 2, 3, 2, 3, 3, 4, 1, 2, 2, 3, 2, 3, 3, 4, 2, 3, 3, 4, 3, 4, 4, 5, 1, 2, 2, 3, 2, 3, 3, 4, 2, 3, 3, 4, 3, 4, 4, 5, 2, 3, 3, 4, 3, 4, 4, 5, 3, 4, 4, 5, 4, 5, 5, 6, 1, 2, 2, 3, 2, 3, 3, 4, 2, 3, 3, 4, 3, 4, 4, 5, 2, 3, 3, 4, 3, 4, 4, 5, 3, 4, 4, 5, 4, 5, 5, 6, 2, 3, 3, 4, 3, 4, 4, 5, 3, 4, 4, 5, 4, 5, 5, 6, 3, 4, 4, 5, 4, 5, 5, 6, 4, 5, 5, 6, 5, 6, 6, 7, 1, 2, 2, 3, 2, 3, 3, 4, 2, 3, 3, 4, 3, 4, 4, 5, 2, 3, 3, 4, 3, 4, 4, 5, 3, 4, 4, 5, 4, 5, 5, 6, 2, 3, 3, 4, 3, 4, 4, 5, 3, 4, 4, 5, 4, 5, 5, 6, 3, 4, 4, 5, 4, 5, 5, 6, 4, 5, 5, 6, 5, 6, 6, 7, 2, 3, 3, 4, 3, 4, 4, 5, 3, 4, 4, 5, 4, 5, 5, 6, 3, 4, 4, 5, 4, 5, 5, 6, 4, 5, 5, 6, 5, 6, 6, 7, 3, 4, 4, 5, 4, 5, 5, 6, 4, 5, 5, 6, 5, 6, 6, 7, 4, 5, 5, 6, 5, 6, 6, 7, 5, 6, 6, 7, 6, 7, 7, 8]⟩)) (.t 8), none⟩,
    ⟨some 10, .bin .add (.t 5) (.t 9) 0, none⟩,
    ⟨some 11, .mv (.t 0), none⟩,
    ⟨some 12, .bin .shr (.t 11) (.k (.int .u64 8)) 0, none⟩,
    ⟨some 13, .bin .and (.t 12) (.k (.int .u32 255)) 0, none⟩,
    ⟨some 14, .six (.k (.str ⟨#[0, 1, 1, 2, 1, 2, 2, 3, 1, 2, 2, 3, 2, 3, 3, 4, 1, 2, 2, 3, 2, 3, 3, 4, 2, 3, 3, 4, 3, 4, 4, 5, 1, 2, 2, 3, 2, 3, 3, 4, 2, 3, 3, 4, 3, 4, 4, 5, 2, 3, 3, 4, 3, 4, 4, 5, 3, 4, 4, 5, 4, 5, 5, 6, 1, 2, 2, 3, 2, 3, 3, 4, 2, 3, 3, 4, 3, 4, 4, 5, 2, 3, 3, 4, 3, 4, 4, 5, 3, 4, 4, 5, 4, 5, 5, 6, 2, 3, 3, 4, 3, 4, 4, 5, 3, 4, 4, 5, 4, 5, 5, 6, 3, 4, 4, 5, 4, 5, 5, 6, 4, 5, 5, 6, 5, 6, 6, 7, 1, 2, 2, 3, 2, 3, 3, 4, 2, 3, 3, 4, 3, 4, 4, 5, 2, 3, 3, 4, 3, 4, 4, 5, 3, 4, 4, 5, 4, 5, 5, 6, 2, 3, 3, 4, 3, 4, 4, 5, 3, 4, 4, 5, 4, 5, 5, 6, 3, 4, 4, 5, 4, 5, 5, 6, 4, 5, 5, 6, 5, 6, 6, 7, 2, 3, 3, 4, 3, 4, 4, 5, 3, 4, 4, 5, 4, 5, 5, 6, 3, 4, 4, 5, 4, 5, 5, 6, 4, 5, 5, 6, 5, 6, 6, 7, 3, 4, 4, 5, 4, 5, 5, 6, 4, 5, 5, 6, 5, 6, 6, 7, 4, 5, 5, 6, 5, 6, 6, 7, 5, 6, 6, 7, 6, 7, 7, 8]⟩)) (.t 13), none⟩,
    ⟨some 15, .bin .add (.t 10) (.t 14) 0, none⟩,
    ⟨some 16, .mv (.t 0), none⟩,
    ⟨some 17, .bin .and (.t 16) (.k (.int .u32 255)) 0, none⟩,
    ⟨some 18, .six (.k (.str ⟨#[0, 1, 1, 2, 1, 2, 2, 3, 1, 2, 2, 3, 2, 3, 3, 4, 1, 2, 2, 3, 2, 3, 3, 4, 2, 3, 3, 4, 3, 4, 4, 5, 1, 2, 2, 3, 2, 3, 3, 4, 2, 3, 3, 4, 3, 4, 4, 5, 2, 3, 3, 4, 3, 4, 4, 5, 3, 4, 4, 5, 4, 5, 5, 6, 1, 2, 2, 3, 2, 3, 3, 4, 2, 3, 3, 4, 3, 4, 4, 5, 2, 3, 3, 4, 3, 4, 4, 5, 3, 4, 4, 5, 4, 5, 5, 6, 2, 3, 3, 4, 3, 4, 4, 5, 3, 4, 4, 5, 4, 5, 5, 6, 3, 4, 4, 5, 4, 5, 5, 6, 4, 5, 5, 6, 5, 6, 6, 7, 1, 2, 2, 3, 2, 3, 3, 4, 2, 3, 3, 4, 3, 4, 4, 5, 2, 3, 3, 4, 3, 4, 4, 5, 3, 4, 4, 5, 4, 5, 5, 6, 2, 3, 3, 4, 3, 4, 4, 5, 3, 4, 4, 5, 4, 5, 5, 6, 3, 4, 4, 5, 4, 5, 5, 6, 4, 5, 5, 6, 5, 6, 6, 7, 2, 3, 3, 4, 3, 4, 4, 5, 3, 4, 4, 5, 4, 5, 5, 6, 3, 4, 4, 5, 4, 5, 5, 6, 4, 5, 5, 6, 5, 6, 6, 7, 3, 4, 4, 5, 4, 5, 5, 6, 4, 5, 5, 6, 5, 6, 6, 7, 4, 5, 5, 6, 5, 6, 6, 7, 5, 6, 6, 7, 6, 7, 7, 8]⟩)) (.t 17), none⟩,
    ⟨some 19, .bin .add (.t 15) (.t 18) 0, none⟩,
    ⟨some 20, .conv .i64 (.t 19), none⟩,
    ⟨some 2, .mv (.t 20), none⟩])
   (.ret))
def k171 : FCode := ⟨21, c171, [.tmp 2], none⟩
def c172 : LCode := .seq (.reg [⟨some 2, .mv (.k (.bool false)), none⟩])
   (.seq (.reg [⟨some 3, .mv (.t 0), none⟩,
    ⟨some 4, .bin .geq (.t 3) (.k (.int .i64 (-1152921504606846976))) 0, none⟩,
    ⟨some 5, .mv (.t 4), none⟩,
    ⟨some 6, .mv (.t 0), some (5, true)⟩,
    ⟨some 7, .bin .leq (.t 6) (.k (.int .i64 1152921504606846976)) 0, some (5, true)⟩,
    ⟨some 8, .pick (.t 5) (.t 7) (.k (.bool false)), none⟩,
    ⟨some 2, .mv (.t 8), none⟩])
   (.ret))
def k172 : FCode := ⟨9, c172, [.tmp 2], none⟩
def c173 : LCode := .seq (.reg [⟨some 2, .mv (.k (.int .i64 0)), none⟩])
   (.seq (.seq (.reg [⟨some 3, .mv (.t 0), none⟩,
    ⟨some 4, .bin .lss (.t 3) (.k (.int .i64 0)) 0, none⟩])
   (.cond (.t 4) (.seq (.reg [⟨some 5, .mv (.t 0), none⟩,
    ⟨some 6, .un .neg (.t 5), none⟩,
    ⟨some 2, .mv (.t 6), none⟩])
   (.ret)) (.skip)))
   (.seq (.reg [⟨some 7, .mv (.t 0), none⟩,
    ⟨some 2, .mv (.t 7), none⟩])
   (.ret)))
def k173 : FCode := ⟨8, c173, [.tmp 2], none⟩
def c174 : LCode := .seq (.reg [⟨some 2, .box (.t 0), none⟩,
    ⟨some 4, .mv (.k (.bool false)), none⟩])
   (.seq (.reg [⟨some 5, .fa (.t 2) 3, none⟩,
    ⟨some 6, .ld (.t 5) 1 false, none⟩,
    ⟨some 7, .bin .gtr (.t 6) (.k (.int .i64 0)) 0, none⟩,
    ⟨some 8, .mv (.t 7), none⟩,
    ⟨some 9, .fa (.t 2) 1, some (8, true)⟩,
    ⟨some 10, .ld (.t 9) 1 false, some (8, true)⟩,
    ⟨some 11, .mv (.t 1), some (8, true)⟩,
    ⟨some 12, .bin .leq (.t 10) (.t 11) 0, some (8, true)⟩,
    ⟨some 13, .pick (.t 8) (.t 12) (.k (.bool false)), none⟩,
    ⟨some 14, .mv (.t 13), none⟩,
    ⟨some 15, .fa (.t 2) 2, some (14, true)⟩,
    ⟨some 16, .ld (.t 15) 1 false, some (14, true)⟩,
    ⟨some 17, .mv (.t 1), some (14, true)⟩,
    ⟨some 18, .bin .gtr (.t 16) (.t 17) 0, some (14, true)⟩,
    ⟨some 19, .pick (.t 14) (.t 18) (.k (.bool false)), none⟩,
    ⟨some 4, .mv (.t 19), none⟩])
   (.ret))
def k174 : FCode := ⟨20, c174, [.tmp 4], none⟩
def c175 : LCode := .seq (.reg [⟨some 6, .mv (.k (.bool false)), none⟩])
   (.seq (.reg [⟨some 9, .mv (.t 0), none⟩,
    ⟨some 10, .mv (.t 1), none⟩,
    ⟨some 11, .call 132 [.t 9, .t 10], none⟩,
    ⟨some 7, .mv (.t 11), none⟩])
   (.seq (.seq (.reg [⟨some 8, .mv (.k (.int .i64 0)), none⟩])
   (.block 0 (.loop (.seq (.seq (.reg [⟨some 12, .mv (.t 8), none⟩,
    ⟨some 13, .mv (.t 7), none⟩,
    ⟨some 14, .len (.t 13) false, none⟩,
    ⟨some 15, .bin .lss (.t 12) (.t 14) 0, none⟩])
   (.cond (.t 15) (.skip) (.exit 0)))
   (.seq (.block 1 (.seq (.reg [⟨some 18, .mv (.t 7), none⟩,
    ⟨some 19, .mv (.t 8), none⟩,
    ⟨some 20, .ix 1 (.t 18) (.t 19), none⟩,
    ⟨some 21, .ld (.t 20) 1 false, none⟩,
    ⟨some 22, .mv (.t 2), none⟩,
    ⟨some 23, .bin .eql (.t 21) (.t 22) 0, none⟩])
   (.cond (.t 23) (.seq (.reg [⟨some 6, .mv (.k (.bool true)), none⟩])
   (.ret)) (.skip))))
   (.reg [⟨some 16, .mv (.t 8), none⟩,
    ⟨some 17, .bin .add (.t 16) (.k (.int .i64 1)) 0, none⟩,
    ⟨some 8, .mv (.t 17), none⟩]))))))
   (.seq (.reg [⟨some 6, .mv (.k (.bool false)), none⟩])
   (.ret))))
def k175 : FCode := ⟨24, c175, [.tmp 6], none⟩
def c176 : LCode := .seq (.reg [⟨some 2, .mv (.k (.ro 3 [] true)), none⟩])
   (.seq (.reg [⟨some 3, .mv (.t 0), none⟩,
    ⟨some 4, .mv (.t 0), none⟩,
    ⟨some 5, .len (.t 4) false, none⟩,
    ⟨some 6, .mv (.t 0), none⟩,
    ⟨some 7, .len (.t 6) false, none⟩,
    ⟨some 8, .slc 3 (.t 3) (none) (some (.t 5)) (some (.t 7)), none⟩,
    ⟨some 2, .mv (.t 8), none⟩])
   (.ret))
def k176 : FCode := ⟨9, c176, [.tmp 2], none⟩
def c177 : LCode := .seq (.reg [⟨some 2, .mv (.k (.ro 3 [] true)), none⟩])
   (.seq (.seq (.reg [⟨some 3, .mv (.t 0), none⟩,
    ⟨some 4, .isnil (.t 3), none⟩])
   (.cond (.t 4) (.seq (.reg [⟨some 2, .mv (.k (.ro 3 [] true)), none⟩])
   (.ret)) (.skip)))
   (.seq (.reg [⟨some 5, .mks 3 [], none⟩,
    ⟨some 6, .mv (.t 0), none⟩,
    ⟨some 7, .app 3 32 (.t 5) (.t 6), none⟩,
    ⟨some 2, .mv (.t 7), none⟩])
   (.ret)))
def k177 : FCode := ⟨8, c177, [.tmp 2], some 3⟩
def c178 : LCode := .seq (.reg [⟨some 2, .mv (.k (.ro 6 [] true)), none⟩])
   (.seq (.reg [⟨some 3, .mv (.t 0), none⟩,
    ⟨some 4, .mv (.t 0), none⟩,
    ⟨some 5, .len (.t 4) false, none⟩,
    ⟨some 6, .mv (.t 0), none⟩,
    ⟨some 7, .len (.t 6) false, none⟩,
    ⟨some 8, .slc 6 (.t 3) (none) (some (.t 5)) (some (.t 7)), none⟩,
    ⟨some 2, .mv (.t 8), none⟩])
   (.ret))
def k178 : FCode := ⟨9, c178, [.tmp 2], none⟩
def c179 : LCode := .seq (.reg [⟨some 2, .mv (.k (.ro 6 [] true)), none⟩])
   (.seq (.seq (.reg [⟨some 3, .mv (.t 0), none⟩,
    ⟨some 4, .isnil (.t 3), none⟩])
   (.cond (.t 4) (.seq (.reg [⟨some 2, .mv (.k (.ro 6 [] true)), none⟩])
   (.ret)) (.skip)))
   (.seq (.reg [⟨some 5, .mks 6 [], none⟩,
    ⟨some 6, .mv (.t 0), none⟩,
    ⟨some 7, .app 6 48 (.t 5) (.t 6), none⟩,
    ⟨some 2, .mv (.t 7), none⟩])
   (.ret)))
def k179 : FCode := ⟨8, c179, [.tmp 2], some 6⟩
def c180 : LCode := .seq (.reg [⟨some 2, .mv (.k (.ro 3 [] true)), none⟩])
   (.seq (.reg [⟨some 3, .mv (.t 0), none⟩,
    ⟨some 4, .mv (.t 0), none⟩,
    ⟨some 5, .len (.t 4) false, none⟩,
    ⟨some 6, .mv (.t 0), none⟩,
    ⟨some 7, .len (.t 6) false, none⟩,
    ⟨some 8, .slc 3 (.t 3) (none) (some (.t 5)) (some (.t 7)), none⟩,
    ⟨some 2, .mv (.t 8), none⟩])
   (.ret))
def k180 : FCode := ⟨9, c180, [.tmp 2], none⟩
def c181 : LCode := .seq (.reg [⟨some 2, .mv (.k (.ro 3 [] true)), none⟩])
   (.seq (.seq (.reg [⟨some 3, .mv (.t 0), none⟩,
    ⟨some 4, .isnil (.t 3), none⟩])
   (.cond (.t 4) (.seq (.reg [⟨some 2, .mv (.k (.ro 3 [] true)), none⟩])
   (.ret)) (.skip)))
   (.seq (.reg [⟨some 5, .mks 3 [], none⟩,
    ⟨some 6, .mv (.t 0), none⟩,
    ⟨some 7, .app 3 24 (.t 5) (.t 6), none⟩,
    ⟨some 2, .mv (.t 7), none⟩])
   (.ret)))
def k181 : FCode := ⟨8, c181, [.tmp 2], some 3⟩
def c182 : LCode := .seq (.reg [⟨some 2, .mv (.k (.ro 12 [] true)), none⟩])
   (.seq (.reg [⟨some 3, .mv (.t 0), none⟩,
    ⟨some 4, .mv (.t 0), none⟩,
    ⟨some 5, .len (.t 4) false, none⟩,
    ⟨some 6, .mv (.t 0), none⟩,
    ⟨some 7, .len (.t 6) false, none⟩,
    ⟨some 8, .slc 12 (.t 3) (none) (some (.t 5)) (some (.t 7)), none⟩,
    ⟨some 2, .mv (.t 8), none⟩])
   (.ret))
def k182 : FCode := ⟨9, c182, [.tmp 2], none⟩
def c183 : LCode := .seq (.reg [⟨some 2, .mv (.k (.ro 1 [] true)), none⟩])
   (.seq (.seq (.reg [⟨some 3, .mv (.t 0), none⟩,
    ⟨some 4, .isnil (.t 3), none⟩])
   (.cond (.t 4) (.seq (.reg [⟨some 2, .mv (.k (.ro 1 [] true)), none⟩])
   (.ret)) (.skip)))
   (.seq (.reg [⟨some 5, .mks 1 [], none⟩,
    ⟨some 6, .mv (.t 0), none⟩,
    ⟨some 7, .app 1 16 (.t 5) (.t 6), none⟩,
    ⟨some 2, .mv (.t 7), none⟩])
   (.ret)))
def k183 : FCode := ⟨8, c183, [.tmp 2], some 1⟩
def c184 : LCode := .seq (.reg [⟨some 2, .mv (.k (.ro 2 [] true)), none⟩])
   (.seq (.reg [⟨some 3, .mv (.t 0), none⟩,
    ⟨some 4, .mv (.t 0), none⟩,
    ⟨some 5, .len (.t 4) false, none⟩,
    ⟨some 6, .mv (.t 0), none⟩,
    ⟨some 7, .len (.t 6) false, none⟩,
    ⟨some 8, .slc 2 (.t 3) (none) (some (.t 5)) (some (.t 7)), none⟩,
    ⟨some 2, .mv (.t 8), none⟩])
   (.ret))
def k184 : FCode := ⟨9, c184, [.tmp 2], none⟩
def c185 : LCode := .seq (.reg [⟨some 2, .mv (.k (.ro 2 [] true)), none⟩])
   (.seq (.seq (.reg [⟨some 3, .mv (.t 0), none⟩,
    ⟨some 4, .isnil (.t 3), none⟩])
   (.cond (.t 4) (.seq (.reg [⟨some 2, .mv (.k (.ro 2 [] true)), none⟩])
   (.ret)) (.skip)))
   (.seq (.reg [⟨some 5, .mks 2 [], none⟩,
    ⟨some 6, .mv (.t 0), none⟩,
    ⟨some 7, .app 2 16 (.t 5) (.t 6), none⟩,
    ⟨some 2, .mv (.t 7), none⟩])
   (.ret)))
def k185 : FCode := ⟨8, c185, [.tmp 2], some 2⟩
def c186 : LCode := .reg [⟨some 8, .mv (.t 0), none⟩,
    ⟨some 9, .mv (.t 0), none⟩,
    ⟨some 10, .nck (.t 9), none⟩,
    ⟨some 11, .fa (.t 10) 15, none⟩,
    ⟨some 12, .ld (.t 11) 1 false, none⟩,
    ⟨some 13, .mv (.t 1), none⟩,
    ⟨some 14, .mv (.t 3), none⟩,
    ⟨some 15, .un .neg (.t 14), none⟩,
    ⟨some 16, .build [.int .i64 0, .int .i64 0] [(0, 1, .t 13), (1, 1, .t 15)], none⟩,
    ⟨some 17, .mv (.t 2), none⟩,
    ⟨some 18, .mv (.t 3), none⟩,
    ⟨some 19, .build [.int .i64 0, .int .i64 0] [(0, 1, .t 17), (1, 1, .t 18)], none⟩,
    ⟨some 20, .mks 2 [.t 16, .t 19], none⟩,
    ⟨some 21, .app 2 16 (.t 12) (.t 20), none⟩,
    ⟨some 22, .nck (.t 8), none⟩,
    ⟨some 23, .fa (.t 22) 15, none⟩,
    ⟨none, .st (.t 23) (.t 21) 1, none⟩]
def k186 : FCode := ⟨24, c186, [], none⟩
def c187 : LCode := .seq (.reg [⟨some 2, .mv (.k (.int .i64 0)), none⟩])
   (.seq (.reg [⟨some 3, .mv (.t 0), none⟩,
    ⟨some 4, .bin .mul (.k (.int .i64 3)) (.t 3) 0, none⟩,
    ⟨some 5, .bin .add (.k (.int .i64 1)) (.t 4) 0, none⟩,
    ⟨some 2, .mv (.t 5), none⟩])
   (.ret))
def k187 : FCode := ⟨6, c187, [.tmp 2], none⟩
def c188 : LCode := .seq (.reg [⟨some 4, .mv (.k (.bool false)), none⟩])
   (.seq (.reg [⟨some 5, .mv (.t 1), none⟩,
    ⟨some 6, .bin .geq (.t 5) (.k (.int .i64 0)) 0, none⟩,
    ⟨some 7, .mv (.t 6), none⟩,
    ⟨some 8, .mv (.t 1), some (7, true)⟩,
    ⟨some 9, .mv (.t 0), some (7, true)⟩,
    ⟨some 10, .nck (.t 9), some (7, true)⟩,
    ⟨some 11, .fa (.t 10) 0, some (7, true)⟩,
    ⟨some 12, .fa (.t 11) 4, some (7, true)⟩,
    ⟨some 13, .ld (.t 12) 1 false, some (7, true)⟩,
    ⟨some 14, .len (.t 13) false, some (7, true)⟩,
    ⟨some 15, .bin .lss (.t 8) (.t 14) 0, some (7, true)⟩,
    ⟨some 16, .pick (.t 7) (.t 15) (.k (.bool false)), none⟩,
    ⟨some 4, .mv (.t 16), none⟩])
   (.ret))
def k188 : FCode := ⟨17, c188, [.tmp 4], none⟩
def c189 : LCode := .seq (.reg [⟨some 6, .mv (.k (.ro 12 [] true)), none⟩])
   (.seq (.reg [⟨some 8, .mv (.t 0), none⟩,
    ⟨some 9, .mv (.t 1), none⟩,
    ⟨some 10, .mv (.t 2), none⟩,
    ⟨some 11, .mv (.t 0), none⟩,
    ⟨some 12, .len (.t 11) false, none⟩,
    ⟨some 13, .slc 12 (.t 8) (some (.t 9)) (some (.t 10)) (some (.t 12)), none⟩])
   (.seq (.seq (.reg [⟨some 14, .mv (.t 1), none⟩,
    ⟨some 15, .mv (.t 2), none⟩,
    ⟨some 16, .bin .eql (.t 14) (.t 15) 0, none⟩])
   (.cond (.t 16) (.seq (.reg [⟨some 17, .mv (.t 0), none⟩,
    ⟨some 6, .mv (.t 17), none⟩])
   (.ret)) (.skip)))
   (.seq (.reg [⟨some 18, .mv (.t 0), none⟩,
    ⟨some 19, .len (.t 18) false, none⟩,
    ⟨some 7, .mv (.t 19), none⟩])
   (.seq (.dreg [] [⟨some 20, .mv (.t 0), none⟩,
    ⟨some 21, .mv (.t 1), none⟩,
    ⟨some 22, .slc 12 (.t 20) (none) (some (.t 21)) (none), none⟩,
    ⟨some 23, .mv (.t 0), none⟩,
    ⟨some 24, .mv (.t 2), none⟩,
    ⟨some 25, .slc 12 (.t 23) (some (.t 24)) (none) (none), none⟩,
    ⟨some 26, .app 12 112 (.t 22) (.t 25), none⟩,
    ⟨some 0, .mv (.t 26), none⟩])
   (.seq (.reg [⟨some 27, .mv (.t 0), none⟩,
    ⟨some 28, .mv (.t 0), none⟩,
    ⟨some 29, .len (.t 28) false, none⟩,
    ⟨some 30, .mv (.t 7), none⟩,
    ⟨some 31, .slc 12 (.t 27) (some (.t 29)) (some (.t 30)) (none), none⟩,
    ⟨none, .clr [.int .i64 0, .int .i64 0, .int .i64 0, .int .i64 0, .int .i64 0, .int .i64 0, .int .i64 0, .int .i64 0, .int .i64 0, .int .i64 0, .int .i64 0, .ro 2 [] true] (.t 31), none⟩])
   (.seq (.reg [⟨some 32, .mv (.t 0), none⟩,
    ⟨some 6, .mv (.t 32), none⟩])
   (.ret)))))))
def k189 : FCode := ⟨33, c189, [.tmp 6], none⟩
def c190 : LCode := .seq (.reg [⟨some 4, .mv (.k (.int .i64 0)), none⟩])
   (.seq (.seq (.reg [⟨some 5, .mv (.t 1), none⟩,
    ⟨some 6, .nck (.t 5), none⟩,
    ⟨some 7, .fa (.t 6) 7, none⟩,
    ⟨some 8, .ld (.t 7) 1 false, none⟩,
    ⟨some 9, .bin .neq (.t 8) (.k (.int .i64 3)) 0, none⟩])
   (.cond (.t 9) (.seq (.reg [⟨some 4, .mv (.k (.int .i64 9)), none⟩])
   (.ret)) (.skip)))
   (.seq (.reg [⟨some 10, .mv (.t 0), none⟩,
    ⟨some 11, .mv (.t 1), none⟩,
    ⟨some 12, .nck (.t 11), none⟩,
    ⟨some 13, .fa (.t 12) 11, none⟩,
    ⟨some 14, .ld (.t 13) 1 false, none⟩,
    ⟨some 15, .call 212 [.t 14], none⟩,
    ⟨some 16, .nck (.t 10), none⟩,
    ⟨some 17, .fa (.t 16) 15, none⟩,
    ⟨none, .st (.t 17) (.t 15) 1, none⟩])
   (.seq (.reg [⟨some 18, .mv (.t 1), none⟩,
    ⟨some 19, .mv (.t 1), none⟩,
    ⟨some 20, .mv (.t 1), none⟩,
    ⟨some 21, .mv (.t 1), none⟩,
    ⟨some 22, .nck (.t 18), none⟩,
    ⟨some 23, .fa (.t 22) 7, none⟩,
    ⟨none, .st (.t 23) (.k (.int .i64 1)) 1, none⟩,
    ⟨some 24, .nck (.t 19), none⟩,
    ⟨some 25, .fa (.t 24) 8, none⟩,
    ⟨none, .st (.t 25) (.k (.int .i64 0)) 1, none⟩,
    ⟨some 26, .nck (.t 20), none⟩,
    ⟨some 27, .fa (.t 26) 9, none⟩,
    ⟨none, .st (.t 27) (.k (.int .i64 0)) 1, none⟩,
    ⟨some 28, .nck (.t 21), none⟩,
    ⟨some 29, .fa (.t 28) 11, none⟩,
    ⟨none, .st (.t 29) (.k (.ro 2 [] true)) 1, none⟩])
   (.seq (.reg [⟨some 4, .mv (.k (.int .i64 0)), none⟩])
   (.ret)))))
def k190 : FCode := ⟨30, c190, [.tmp 4], none⟩
def c191 : LCode := .seq (.reg [⟨some 4, .mv (.k (.int .i64 0)), none⟩])
   (.seq (.reg [⟨some 9, .mv (.t 0), none⟩,
    ⟨some 10, .nck (.t 9), none⟩,
    ⟨some 11, .fa (.t 10) 8, none⟩,
    ⟨some 12, .fa (.t 11) 5, none⟩,
    ⟨some 13, .ld (.t 12) 1 false, none⟩,
    ⟨some 14, .ix 1 (.t 13) (.k (.int .i64 1)), none⟩,
    ⟨some 15, .ld (.t 14) 1 false, none⟩,
    ⟨some 5, .mv (.t 15), none⟩])
   (.seq (.block 0 (.seq (.reg [⟨some 17, .mv (.t 1), none⟩,
    ⟨some 18, .nck (.t 17), none⟩,
    ⟨some 19, .fa (.t 18) 7, none⟩,
    ⟨some 20, .ld (.t 19) 1 false, none⟩,
    ⟨some 21, .bin .neq (.t 20) (.k (.int .i64 3)) 0, none⟩,
    ⟨some 16, .mv (.t 21), none⟩])
   (.cond (.t 16) (.seq (.reg [⟨some 4, .mv (.k (.int .i64 9)), none⟩])
   (.ret)) (.seq (.reg [⟨some 23, .mv (.t 5), none⟩,
    ⟨some 24, .bin .lss (.t 23) (.k (.int .i64 0)) 0, none⟩,
    ⟨some 25, .mv (.t 24), none⟩,
    ⟨some 26, .mv (.t 5), some (25, false)⟩,
    ⟨some 27, .mv (.t 1), some (25, false)⟩,
    ⟨some 28, .nck (.t 27), some (25, false)⟩,
    ⟨some 29, .fa (.t 28) 3, some (25, false)⟩,
    ⟨some 30, .ld (.t 29) 1 false, some (25, false)⟩,
    ⟨some 31, .bin .gtr (.t 26) (.t 30) 0, some (25, false)⟩,
    ⟨some 32, .pick (.t 25) (.k (.bool true)) (.t 31), none⟩,
    ⟨some 22, .mv (.t 32), none⟩])
   (.cond (.t 22) (.seq (.reg [⟨some 4, .mv (.k (.int .i64 1)), none⟩])
   (.ret)) (.skip))))))
   (.seq (.dreg [] [⟨some 34, .mv (.t 1), none⟩,
    ⟨some 35, .nck (.t 34), none⟩,
    ⟨some 36, .fa (.t 35) 2, none⟩,
    ⟨some 37, .ld (.t 36) 1 false, none⟩,
    ⟨some 38, .mv (.t 5), none⟩,
    ⟨some 39, .mv (.t 1), none⟩,
    ⟨some 40, .nck (.t 39), none⟩,
    ⟨some 41, .fa (.t 40) 6, none⟩,
    ⟨some 42, .ld (.t 41) 1 false, none⟩,
    ⟨some 43, .call 104 [.t 37, .t 38, .t 42], none⟩,
    ⟨some 33, .mv (.t 43), none⟩,
    ⟨some 44, .ext (.t 33) 0, none⟩,
    ⟨some 45, .ext (.t 33) 1, none⟩,
    ⟨some 6, .mv (.t 44), none⟩,
    ⟨some 7, .mv (.t 45), none⟩])
   (.seq (.seq (.reg [⟨some 46, .mv (.t 7), none⟩,
    ⟨some 47, .bin .neq (.t 46) (.k (.int .i64 0)) 0, none⟩])
   (.cond (.t 47) (.seq (.reg [⟨some 48, .mv (.t 7), none⟩,
    ⟨some 4, .mv (.t 48), none⟩])
   (.ret)) (.skip)))
   (.seq (.reg [⟨some 50, .mv (.t 1), none⟩,
    ⟨some 51, .nck (.t 50), none⟩,
    ⟨some 52, .fa (.t 51) 11, none⟩,
    ⟨some 53, .ld (.t 52) 1 false, none⟩,
    ⟨some 54, .mv (.t 6), none⟩,
    ⟨some 55, .call 213 [.t 53, .t 54], none⟩,
    ⟨some 49, .mv (.t 55), none⟩,
    ⟨some 56, .ext (.t 49) 0, none⟩,
    ⟨some 57, .ext (.t 49) 1, none⟩,
    ⟨some 8, .mv (.t 56), none⟩,
    ⟨some 7, .mv (.t 57), none⟩])
   (.seq (.seq (.reg [⟨some 58, .mv (.t 7), none⟩,
    ⟨some 59, .bin .neq (.t 58) (.k (.int .i64 0)) 0, none⟩])
   (.cond (.t 59) (.seq (.reg [⟨some 60, .mv (.t 7), none⟩,
    ⟨some 4, .mv (.t 60), none⟩])
   (.ret)) (.skip)))
   (.seq (.reg [⟨some 61, .mv (.t 0), none⟩,
    ⟨some 62, .mv (.t 1), none⟩,
    ⟨some 63, .nck (.t 62), none⟩,
    ⟨some 64, .fa (.t 63) 11, none⟩,
    ⟨some 65, .ld (.t 64) 1 false, none⟩,
    ⟨some 66, .mv (.t 8), none⟩,
    ⟨some 67, .call 214 [.t 65, .t 66], none⟩,
    ⟨some 68, .nck (.t 61), none⟩,
    ⟨some 69, .fa (.t 68) 15, none⟩,
    ⟨none, .st (.t 69) (.t 67) 1, none⟩])
   (.seq (.reg [⟨some 70, .mv (.t 1), none⟩,
    ⟨some 71, .mv (.t 1), none⟩,
    ⟨some 72, .mv (.t 1), none⟩,
    ⟨some 73, .mv (.t 1), none⟩,
    ⟨some 74, .mv (.t 5), none⟩,
    ⟨some 75, .mv (.t 8), none⟩,
    ⟨some 76, .call 215 [.t 75], none⟩,
    ⟨some 77, .nck (.t 70), none⟩,
    ⟨some 78, .fa (.t 77) 7, none⟩,
    ⟨none, .st (.t 78) (.k (.int .i64 4)) 1, none⟩,
    ⟨some 79, .nck (.t 71), none⟩,
    ⟨some 80, .fa (.t 79) 10, none⟩,
    ⟨none, .st (.t 80) (.t 74) 1, none⟩,
    ⟨some 81, .nck (.t 72), none⟩,
    ⟨some 82, .fa (.t 81) 9, none⟩,
    ⟨none, .st (.t 82) (.k (.int .i64 0)) 1, none⟩,
    ⟨some 83, .nck (.t 73), none⟩,
    ⟨some 84, .fa (.t 83) 11, none⟩,
    ⟨none, .st (.t 84) (.t 76) 1, none⟩])
   (.seq (.reg [⟨some 4, .mv (.k (.int .i64 0)), none⟩])
   (.ret))))))))))
def k191 : FCode := ⟨85, c191, [.tmp 4], none⟩

end Go.Proofs.YtfhflogbffibiaaGreat
