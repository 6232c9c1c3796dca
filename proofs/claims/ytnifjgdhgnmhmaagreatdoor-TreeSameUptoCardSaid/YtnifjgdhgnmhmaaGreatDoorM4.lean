/- The compiled functions of the tree law, as terms. Printed by a program of mine. -/
import Derived.Test.YtnifjgdhgnmhmaaGreatDoorMT
namespace Go.Proofs.YtnifjgdhgnmhmaaGreatDoor
open Go Go.X

/-! flyball/flyballlaw10.works -/
def f38.r0 : List XOper := [⟨some 0, .mv (.c (.bool false)), none⟩]
def f38.r1 : List XOper := [⟨some 6, .call (.c (.fn (.func 86) [] [])) [], none⟩,
  ⟨some 1, .alloc 78 [.int .u8 0, .int .i64 0, .bool false, .int .i32 0, .int .u64 0, .str [], .nils], none⟩,
  ⟨none, .store 7 (.t 1) (.t 6), none⟩]
def f38.r2 : List XOper := [⟨some 7, .call (.c (.fn (.func 86) [] [])) [], none⟩,
  ⟨some 2, .alloc 78 [.int .u8 0, .int .i64 0, .bool false, .int .i32 0, .int .u64 0, .str [], .nils], none⟩,
  ⟨none, .store 7 (.t 2) (.t 7), none⟩]
def f38.r3 : List XOper := [⟨some 8, .faddr 1 (.t 2), none⟩,
  ⟨none, .store 1 (.t 8) (.c (.int .i64 9)), none⟩]
def f38.r4 : List XOper := [⟨some 9, .load 7 true (.t 1), none⟩,
  ⟨some 10, .build [.int .u8 0, .int .i64 0, .str [], .nils, .int .u8 0, .int .i64 0, .bool false, .int .i32 0, .int .u64 0, .str [], .nils, .int .i32 0, .int .i32 0, .nils, .nils] [(0, 1, (.c (.int .u8 1))), (2, 1, (.c (.str [120]))), (4, 7, (.t 9))], none⟩,
  ⟨some 11, .bslice 15 1 [.int .u8 0, .int .i64 0, .str [], .nils, .int .u8 0, .int .i64 0, .bool false, .int .i32 0, .int .u64 0, .str [], .nils, .int .i32 0, .int .i32 0, .nils, .nils] [(0, 15, (.t 10))], none⟩,
  ⟨some 12, .build [.int .i64 0, .nils, .nils, .nils] [(0, 1, (.c (.int .i64 3))), (3, 1, (.t 11))], none⟩,
  ⟨some 3, .alloc 66 [.int .i64 0, .nils, .nils, .nils], none⟩,
  ⟨none, .store 4 (.t 3) (.t 12), none⟩]
def f38.r5 : List XOper := [⟨some 14, .load 4 true (.t 3), none⟩,
  ⟨some 15, .call (.c (.fn (.func 45) [] [])) [.t 14], none⟩,
  ⟨some 13, .mv (.t 15), none⟩,
  ⟨some 16, .extract (.t 13) 0, none⟩,
  ⟨some 17, .extract (.t 13) 1, none⟩,
  ⟨some 4, .mv (.t 16), none⟩,
  ⟨some 5, .mv (.t 17), none⟩]
def f38.r6 : List XOper := [⟨some 18, .load 7 true (.t 1), none⟩,
  ⟨some 19, .call (.c (.fn (.func 41) [] [])) [.t 18], none⟩,
  ⟨some 20, .bin .eql (.t 19) (.c (.str [45, 40, 97, 32, 43, 32, 49, 41, 32, 42, 32, 98, 91, 105, 93])), none⟩,
  ⟨some 21, .mv (.t 20), none⟩,
  ⟨some 22, .load 4 true (.t 3), some (21, true)⟩,
  ⟨some 23, .call (.c (.fn (.func 43) [] [])) [.t 22], some (21, true)⟩,
  ⟨some 24, .bin .eql (.t 23) (.c (.str [116, 105, 99, 107, 115, 32, 51, 59, 10, 105, 110, 105, 116, 32, 123, 10, 125, 10, 115, 116, 101, 112, 32, 123, 10, 9, 120, 32, 61, 32, 45, 40, 97, 32, 43, 32, 49, 41, 32, 42, 32, 98, 91, 105, 93, 59, 10, 125, 10])), some (21, true)⟩,
  ⟨some 25, .pick (.t 21) (.t 24) (.c (.bool false)), none⟩,
  ⟨some 26, .mv (.t 25), none⟩,
  ⟨some 27, .load 7 true (.t 1), some (26, true)⟩,
  ⟨some 28, .load 7 true (.t 2), some (26, true)⟩,
  ⟨some 29, .call (.c (.fn (.func 49) [] [])) [.t 27, .t 28], some (26, true)⟩,
  ⟨some 30, .pick (.t 26) (.t 29) (.c (.bool false)), none⟩,
  ⟨some 31, .mv (.t 30), none⟩,
  ⟨some 32, .load 7 true (.t 1), some (31, true)⟩,
  ⟨some 33, .build [.int .u8 0, .int .i64 0, .bool false, .int .i32 0, .int .u64 0, .str [], .nils] [], some (31, true)⟩,
  ⟨some 34, .call (.c (.fn (.func 49) [] [])) [.t 32, .t 33], some (31, true)⟩,
  ⟨some 35, .un .not (.t 34), some (31, true)⟩,
  ⟨some 36, .pick (.t 31) (.t 35) (.c (.bool false)), none⟩,
  ⟨some 37, .mv (.t 36), none⟩,
  ⟨some 38, .mv (.t 4), some (37, true)⟩,
  ⟨some 39, .bin .eql (.t 38) (.c (.int .i64 1)), some (37, true)⟩,
  ⟨some 40, .pick (.t 37) (.t 39) (.c (.bool false)), none⟩,
  ⟨some 41, .mv (.t 40), none⟩,
  ⟨some 42, .mv (.t 5), some (41, true)⟩,
  ⟨some 43, .bin .eql (.t 42) (.c (.int .i64 7)), some (41, true)⟩,
  ⟨some 44, .pick (.t 41) (.t 43) (.c (.bool false)), none⟩,
  ⟨some 45, .mv (.t 44), none⟩,
  ⟨some 46, .load 4 true (.t 3), some (45, true)⟩,
  ⟨some 47, .load 4 true (.t 3), some (45, true)⟩,
  ⟨some 48, .call (.c (.fn (.func 48) [] [])) [.t 46, .t 47], some (45, true)⟩,
  ⟨some 49, .pick (.t 45) (.t 48) (.c (.bool false)), none⟩,
  ⟨some 50, .mv (.t 49), none⟩,
  ⟨some 51, .load 4 true (.t 3), some (50, true)⟩,
  ⟨some 52, .build [.int .i64 0, .nils, .nils, .nils] [], some (50, true)⟩,
  ⟨some 53, .call (.c (.fn (.func 48) [] [])) [.t 51, .t 52], some (50, true)⟩,
  ⟨some 54, .un .not (.t 53), some (50, true)⟩,
  ⟨some 55, .pick (.t 50) (.t 54) (.c (.bool false)), none⟩,
  ⟨some 0, .mv (.t 55), none⟩]
def f38 : XF := ⟨56, [.t 0], .seq (.region f38.r0) (.seq (.region f38.r1) (.seq (.region f38.r2) (.seq (.region f38.r3) (.seq (.region f38.r4) (.seq (.region f38.r5) (.seq (.region f38.r6) (.ret)))))))⟩
/-! flyball/flyballlaw10.sample -/
def f86.r0 : List XOper := [⟨some 0, .alloc 78 [.int .u8 0, .int .i64 0, .bool false, .int .i32 0, .int .u64 0, .str [], .nils], none⟩]
def f86.r1 : List XOper := [⟨some 3, .build [.int .u8 0, .int .i64 0, .bool false, .int .i32 0, .int .u64 0, .str [], .nils] [(0, 1, (.c (.int .u8 4))), (5, 1, (.c (.str [97])))], none⟩,
  ⟨some 4, .build [.int .u8 0, .int .i64 0, .bool false, .int .i32 0, .int .u64 0, .str [], .nils] [(0, 1, (.c (.int .u8 2))), (3, 1, (.c (.int .i32 1)))], none⟩,
  ⟨some 5, .bslice 7 2 [.int .u8 0, .int .i64 0, .bool false, .int .i32 0, .int .u64 0, .str [], .nils] [(0, 7, (.t 3)), (7, 7, (.t 4))], none⟩,
  ⟨some 6, .build [.int .u8 0, .int .i64 0, .bool false, .int .i32 0, .int .u64 0, .str [], .nils] [(0, 1, (.c (.int .u8 5))), (6, 1, (.t 5))], none⟩,
  ⟨some 1, .alloc 78 [.int .u8 0, .int .i64 0, .bool false, .int .i32 0, .int .u64 0, .str [], .nils], none⟩,
  ⟨none, .store 7 (.t 1) (.t 6), none⟩]
def f86.r2 : List XOper := [⟨some 7, .build [.int .u8 0, .int .i64 0, .bool false, .int .i32 0, .int .u64 0, .str [], .nils] [(0, 1, (.c (.int .u8 4))), (5, 1, (.c (.str [105])))], none⟩,
  ⟨some 8, .bslice 7 1 [.int .u8 0, .int .i64 0, .bool false, .int .i32 0, .int .u64 0, .str [], .nils] [(0, 7, (.t 7))], none⟩,
  ⟨some 9, .build [.int .u8 0, .int .i64 0, .bool false, .int .i32 0, .int .u64 0, .str [], .nils] [(0, 1, (.c (.int .u8 4))), (5, 1, (.c (.str [98]))), (6, 1, (.t 8))], none⟩,
  ⟨some 2, .alloc 78 [.int .u8 0, .int .i64 0, .bool false, .int .i32 0, .int .u64 0, .str [], .nils], none⟩,
  ⟨none, .store 7 (.t 2) (.t 9), none⟩]
def f86.r3 : List XOper := [⟨some 10, .load 7 true (.t 1), none⟩,
  ⟨some 11, .bslice 7 1 [.int .u8 0, .int .i64 0, .bool false, .int .i32 0, .int .u64 0, .str [], .nils] [(0, 7, (.t 10))], none⟩,
  ⟨some 12, .build [.int .u8 0, .int .i64 0, .bool false, .int .i32 0, .int .u64 0, .str [], .nils] [(0, 1, (.c (.int .u8 17))), (6, 1, (.t 11))], none⟩,
  ⟨some 13, .load 7 true (.t 2), none⟩,
  ⟨some 14, .bslice 7 2 [.int .u8 0, .int .i64 0, .bool false, .int .i32 0, .int .u64 0, .str [], .nils] [(0, 7, (.t 12)), (7, 7, (.t 13))], none⟩,
  ⟨some 15, .build [.int .u8 0, .int .i64 0, .bool false, .int .i32 0, .int .u64 0, .str [], .nils] [(0, 1, (.c (.int .u8 7))), (6, 1, (.t 14))], none⟩,
  ⟨none, .store 7 (.t 0) (.t 15), none⟩]
def f86 : XF := ⟨16, [.c 0 7 true], .seq (.region f86.r0) (.seq (.region f86.r1) (.seq (.region f86.r2) (.seq (.region f86.r3) (.ret))))⟩
/-! flyball/tree.Count -/
def f45.r0 : List XOper := [⟨some 1, .box 66 (.t 0), none⟩,
  ⟨some 2, .mv (.c (.int .i64 0)), none⟩,
  ⟨some 3, .mv (.c (.int .i64 0)), none⟩]
def f45.r1 : List XOper := [⟨some 4, .alloc 3 [.int .i64 0], none⟩,
  ⟨some 5, .alloc 3 [.int .i64 0], none⟩,
  ⟨none, .store 1 (.t 4) (.c (.int .i64 0)), none⟩,
  ⟨none, .store 1 (.t 5) (.c (.int .i64 0)), none⟩]
def f45.r2 : List XOper := [⟨some 6, .alloc 138 [.nilf], none⟩]
def f45.r3 : List XOper := [⟨some 7, .mkfn (.func 102) [] [.t 4, .t 5, .t 6], none⟩,
  ⟨none, .store 1 (.t 6) (.t 7), none⟩]
def f45.r4 : List XOper := [⟨some 8, .load 1 false (.t 6), none⟩,
  ⟨some 9, .faddr 2 (.t 1), none⟩,
  ⟨some 10, .load 1 false (.t 9), none⟩,
  ⟨some 11, .call (.t 8) [.t 10], none⟩]
def f45.r5 : List XOper := [⟨some 12, .load 1 false (.t 6), none⟩,
  ⟨some 13, .faddr 3 (.t 1), none⟩,
  ⟨some 14, .load 1 false (.t 13), none⟩,
  ⟨some 15, .call (.t 12) [.t 14], none⟩]
def f45.r6 : List XOper := [⟨some 16, .load 1 false (.t 4), none⟩,
  ⟨some 17, .load 1 false (.t 5), none⟩,
  ⟨some 2, .mv (.t 16), none⟩,
  ⟨some 3, .mv (.t 17), none⟩]
def f45 : XF := ⟨18, [.t 2, .t 3], .seq (.region f45.r0) (.seq (.region f45.r1) (.seq (.region f45.r2) (.seq (.region f45.r3) (.seq (.region f45.r4) (.seq (.region f45.r5) (.seq (.regionD f45.r6 [0, 0, 1, 7]) (.ret)))))))⟩
/-! flyball/tree.Text -/
def f41.r0 : List XOper := [⟨some 1, .box 78 (.t 0), none⟩,
  ⟨some 2, .mv (.c (.str [])), none⟩]
def f41.r1 : List XOper := [⟨some 4, .build [.nilp, .nils, .int .i64 0] [], none⟩,
  ⟨some 5, .box 133 (.t 4), none⟩,
  ⟨some 3, .mv (.t 5), none⟩]
def f41.r2 : List XOper := [⟨some 6, .mv (.t 3), none⟩,
  ⟨some 7, .load 7 true (.t 1), none⟩,
  ⟨some 8, .call (.c (.fn (.func 91) [] [])) [.t 6, .t 7], none⟩]
def f41.r3 : List XOper := [⟨some 9, .mv (.t 3), none⟩,
  ⟨some 10, .nilc (.t 9), none⟩,
  ⟨some 11, .faddr 0 (.t 10), none⟩,
  ⟨some 12, .call (.c (.fn (.func 92) [] [])) [.t 11], none⟩,
  ⟨some 2, .mv (.t 12), none⟩]
def f41 : XF := ⟨13, [.t 2], .seq (.region f41.r0) (.seq (.region f41.r1) (.seq (.region f41.r2) (.seq (.region f41.r3) (.ret))))⟩
/-! flyball/tree.Print -/
def f43.r0 : List XOper := [⟨some 1, .box 66 (.t 0), none⟩,
  ⟨some 2, .mv (.c (.str [])), none⟩]
def f43.r1 : List XOper := [⟨some 6, .build [.nilp, .nils, .int .i64 0] [], none⟩,
  ⟨some 7, .box 133 (.t 6), none⟩,
  ⟨some 3, .mv (.t 7), none⟩]
def f43.r2 : List XOper := [⟨some 8, .mv (.t 3), none⟩,
  ⟨some 9, .faddr 0 (.t 1), none⟩,
  ⟨some 10, .load 1 false (.t 9), none⟩,
  ⟨some 11, .call (.c (.fn (.func 98) [] [])) [.t 10], none⟩,
  ⟨some 12, .bslice 1 3 [.str []] [(0, 1, (.c (.str [116, 105, 99, 107, 115, 32]))), (1, 1, (.t 11)), (2, 1, (.c (.str [59, 10])))], none⟩,
  ⟨some 13, .call (.c (.fn (.func 97) [] [])) [.t 8, .t 12], none⟩]
def f43.r3 : List XOper := [⟨some 14, .faddr 1 (.t 1), none⟩,
  ⟨some 15, .load 1 false (.t 14), none⟩,
  ⟨some 16, .len false (.t 15), none⟩,
  ⟨some 17, .mv (.c (.int .i64 0)), none⟩]
def f43.r4 : List XOper := [⟨some 18, .bin .lss (.t 17) (.t 16), none⟩]
def f43.r5 : List XOper := [⟨some 19, .iaddr 20 (.t 15) (.t 17), none⟩,
  ⟨some 20, .load 20 true (.t 19), none⟩,
  ⟨some 5, .alloc 122 [.int .i64 0, .bool false, .str [], .int .u8 0, .int .i64 0, .bool false, .int .u8 0, .int .i64 0, .bool false, .int .i32 0, .int .u64 0, .str [], .nils, .int .u8 0, .int .i64 0, .bool false, .int .i32 0, .int .u64 0, .str [], .nils], none⟩,
  ⟨none, .store 20 (.t 5) (.t 20), none⟩]
def f43.r6 : List XOper := [⟨some 21, .mv (.t 3), none⟩,
  ⟨some 22, .load 20 true (.t 5), none⟩,
  ⟨some 23, .call (.c (.fn (.func 99) [] [])) [.t 21, .t 22], none⟩]
def f43.r7 : List XOper := [⟨some 24, .bin .add (.t 17) (.c (.int .i64 1)), none⟩,
  ⟨some 17, .mv (.t 24), none⟩]
def f43.r8 : List XOper := [⟨some 25, .mv (.t 3), none⟩,
  ⟨some 26, .bslice 1 1 [.str []] [(0, 1, (.c (.str [105, 110, 105, 116])))], none⟩,
  ⟨some 27, .call (.c (.fn (.func 97) [] [])) [.t 25, .t 26], none⟩]
def f43.r9 : List XOper := [⟨some 28, .mv (.t 3), none⟩,
  ⟨some 29, .faddr 2 (.t 1), none⟩,
  ⟨some 30, .load 1 false (.t 29), none⟩,
  ⟨some 31, .call (.c (.fn (.func 100) [] [])) [.t 28, .t 30], none⟩]
def f43.r10 : List XOper := [⟨some 32, .mv (.t 3), none⟩,
  ⟨some 33, .bslice 1 1 [.str []] [(0, 1, (.c (.str [10, 115, 116, 101, 112])))], none⟩,
  ⟨some 34, .call (.c (.fn (.func 97) [] [])) [.t 32, .t 33], none⟩]
def f43.r11 : List XOper := [⟨some 35, .mv (.t 3), none⟩,
  ⟨some 36, .faddr 3 (.t 1), none⟩,
  ⟨some 37, .load 1 false (.t 36), none⟩,
  ⟨some 38, .call (.c (.fn (.func 100) [] [])) [.t 35, .t 37], none⟩]
def f43.r12 : List XOper := [⟨some 39, .mv (.t 3), none⟩,
  ⟨some 40, .bslice 1 1 [.str []] [(0, 1, (.c (.str [10])))], none⟩,
  ⟨some 41, .call (.c (.fn (.func 97) [] [])) [.t 39, .t 40], none⟩]
def f43.r13 : List XOper := [⟨some 42, .mv (.t 3), none⟩,
  ⟨some 43, .nilc (.t 42), none⟩,
  ⟨some 44, .faddr 0 (.t 43), none⟩,
  ⟨some 45, .call (.c (.fn (.func 92) [] [])) [.t 44], none⟩,
  ⟨some 2, .mv (.t 45), none⟩]
def f43 : XF := ⟨46, [.t 2], .seq (.region f43.r0) (.seq (.region f43.r1) (.seq (.region f43.r2) (.seq (.seq (.region f43.r3) (.block 0 (.loop (.seq (.region f43.r4) (.seq (.cond (.t 18) (.skip) (.exit 0)) (.seq (.block 1 (.seq (.region f43.r5) (.region f43.r6))) (.region f43.r7))))))) (.seq (.region f43.r8) (.seq (.region f43.r9) (.seq (.region f43.r10) (.seq (.region f43.r11) (.seq (.region f43.r12) (.seq (.region f43.r13) (.ret))))))))))⟩
/-! flyball/tree.SameExpr -/
def f49.r0 : List XOper := [⟨some 2, .box 78 (.t 0), none⟩,
  ⟨some 3, .box 78 (.t 1), none⟩,
  ⟨some 4, .mv (.c (.bool false)), none⟩]
def f49.r1 : List XOper := [⟨some 5, .faddr 0 (.t 2), none⟩,
  ⟨some 6, .load 1 false (.t 5), none⟩,
  ⟨some 7, .faddr 0 (.t 3), none⟩,
  ⟨some 8, .load 1 false (.t 7), none⟩,
  ⟨some 9, .bin .eql (.t 6) (.t 8), none⟩,
  ⟨some 10, .mv (.t 9), none⟩,
  ⟨some 11, .faddr 2 (.t 2), some (10, true)⟩,
  ⟨some 12, .load 1 false (.t 11), some (10, true)⟩,
  ⟨some 13, .faddr 2 (.t 3), some (10, true)⟩,
  ⟨some 14, .load 1 false (.t 13), some (10, true)⟩,
  ⟨some 15, .eq false .bool (.t 12) (.t 14), some (10, true)⟩,
  ⟨some 16, .pick (.t 10) (.t 15) (.c (.bool false)), none⟩,
  ⟨some 17, .mv (.t 16), none⟩,
  ⟨some 18, .faddr 3 (.t 2), some (17, true)⟩,
  ⟨some 19, .load 1 false (.t 18), some (17, true)⟩,
  ⟨some 20, .faddr 3 (.t 3), some (17, true)⟩,
  ⟨some 21, .load 1 false (.t 20), some (17, true)⟩,
  ⟨some 22, .bin .eql (.t 19) (.t 21), some (17, true)⟩,
  ⟨some 23, .pick (.t 17) (.t 22) (.c (.bool false)), none⟩,
  ⟨some 24, .mv (.t 23), none⟩,
  ⟨some 25, .faddr 4 (.t 2), some (24, true)⟩,
  ⟨some 26, .load 1 false (.t 25), some (24, true)⟩,
  ⟨some 27, .faddr 4 (.t 3), some (24, true)⟩,
  ⟨some 28, .load 1 false (.t 27), some (24, true)⟩,
  ⟨some 29, .bin .eql (.t 26) (.t 28), some (24, true)⟩,
  ⟨some 30, .pick (.t 24) (.t 29) (.c (.bool false)), none⟩,
  ⟨some 31, .mv (.t 30), none⟩,
  ⟨some 32, .faddr 5 (.t 2), some (31, true)⟩,
  ⟨some 33, .load 1 false (.t 32), some (31, true)⟩,
  ⟨some 34, .faddr 5 (.t 3), some (31, true)⟩,
  ⟨some 35, .load 1 false (.t 34), some (31, true)⟩,
  ⟨some 36, .bin .eql (.t 33) (.t 35), some (31, true)⟩,
  ⟨some 37, .pick (.t 31) (.t 36) (.c (.bool false)), none⟩,
  ⟨some 38, .mv (.t 37), none⟩,
  ⟨some 39, .faddr 6 (.t 2), some (38, true)⟩,
  ⟨some 40, .load 1 false (.t 39), some (38, true)⟩,
  ⟨some 41, .faddr 6 (.t 3), some (38, true)⟩,
  ⟨some 42, .load 1 false (.t 41), some (38, true)⟩,
  ⟨some 43, .call (.c (.fn (.func 110) [] [])) [.t 40, .t 42, .c (.fn (.func 49) [] [])], some (38, true)⟩,
  ⟨some 44, .pick (.t 38) (.t 43) (.c (.bool false)), none⟩,
  ⟨some 4, .mv (.t 44), none⟩]
def f49 : XF := ⟨45, [.t 4], .seq (.region f49.r0) (.seq (.region f49.r1) (.ret))⟩
/-! flyball/tree.Same -/
def f48.r0 : List XOper := [⟨some 2, .box 66 (.t 0), none⟩,
  ⟨some 3, .box 66 (.t 1), none⟩,
  ⟨some 4, .mv (.c (.bool false)), none⟩]
def f48.r1 : List XOper := [⟨some 5, .faddr 0 (.t 2), none⟩,
  ⟨some 6, .load 1 false (.t 5), none⟩,
  ⟨some 7, .faddr 0 (.t 3), none⟩,
  ⟨some 8, .load 1 false (.t 7), none⟩,
  ⟨some 9, .bin .eql (.t 6) (.t 8), none⟩,
  ⟨some 10, .mv (.t 9), none⟩,
  ⟨some 11, .faddr 1 (.t 2), some (10, true)⟩,
  ⟨some 12, .load 1 false (.t 11), some (10, true)⟩,
  ⟨some 13, .faddr 1 (.t 3), some (10, true)⟩,
  ⟨some 14, .load 1 false (.t 13), some (10, true)⟩,
  ⟨some 15, .call (.c (.fn (.func 106) [] [])) [.t 12, .t 14, .c (.fn (.func 107) [] [])], some (10, true)⟩,
  ⟨some 16, .pick (.t 10) (.t 15) (.c (.bool false)), none⟩,
  ⟨some 17, .mv (.t 16), none⟩,
  ⟨some 18, .faddr 2 (.t 2), some (17, true)⟩,
  ⟨some 19, .load 1 false (.t 18), some (17, true)⟩,
  ⟨some 20, .faddr 2 (.t 3), some (17, true)⟩,
  ⟨some 21, .load 1 false (.t 20), some (17, true)⟩,
  ⟨some 22, .call (.c (.fn (.func 108) [] [])) [.t 19, .t 21, .c (.fn (.func 109) [] [])], some (17, true)⟩,
  ⟨some 23, .pick (.t 17) (.t 22) (.c (.bool false)), none⟩,
  ⟨some 24, .mv (.t 23), none⟩,
  ⟨some 25, .faddr 3 (.t 2), some (24, true)⟩,
  ⟨some 26, .load 1 false (.t 25), some (24, true)⟩,
  ⟨some 27, .faddr 3 (.t 3), some (24, true)⟩,
  ⟨some 28, .load 1 false (.t 27), some (24, true)⟩,
  ⟨some 29, .call (.c (.fn (.func 108) [] [])) [.t 26, .t 28, .c (.fn (.func 109) [] [])], some (24, true)⟩,
  ⟨some 30, .pick (.t 24) (.t 29) (.c (.bool false)), none⟩,
  ⟨some 4, .mv (.t 30), none⟩]
def f48 : XF := ⟨31, [.t 4], .seq (.region f48.r0) (.seq (.region f48.r1) (.ret))⟩
/-! flyball/tree.Count$1 -/
def f102.r0 : List XOper := [⟨some 7, .mv (.t 0), none⟩,
  ⟨some 8, .len false (.t 7), none⟩,
  ⟨some 9, .mv (.c (.int .i64 0)), none⟩]
def f102.r1 : List XOper := [⟨some 10, .bin .lss (.t 9) (.t 8), none⟩]
def f102.r2 : List XOper := [⟨some 11, .iaddr 15 (.t 7) (.t 9), none⟩,
  ⟨some 12, .load 15 true (.t 11), none⟩,
  ⟨some 6, .alloc 80 [.int .u8 0, .int .i64 0, .str [], .nils, .int .u8 0, .int .i64 0, .bool false, .int .i32 0, .int .u64 0, .str [], .nils, .int .i32 0, .int .i32 0, .nils, .nils], none⟩,
  ⟨none, .store 15 (.t 6) (.t 12), none⟩]
def f102.r3 : List XOper := [⟨some 13, .load 1 false (.t 1), none⟩,
  ⟨some 14, .bin .add (.t 13) (.c (.int .i64 1)), none⟩,
  ⟨none, .store 1 (.t 1) (.t 14), none⟩]
def f102.r4 : List XOper := [⟨some 15, .load 1 false (.t 2), none⟩,
  ⟨some 16, .faddr 3 (.t 6), none⟩,
  ⟨some 17, .load 1 false (.t 16), none⟩,
  ⟨some 18, .call (.c (.fn (.func 103) [] [])) [.t 17], none⟩,
  ⟨some 19, .bin .add (.t 15) (.t 18), none⟩,
  ⟨none, .store 1 (.t 2) (.t 19), none⟩]
def f102.r5 : List XOper := [⟨some 20, .faddr 0 (.t 6), none⟩,
  ⟨some 21, .load 1 false (.t 20), none⟩,
  ⟨some 22, .bin .eql (.t 21) (.c (.int .u8 1)), none⟩,
  ⟨some 23, .mv (.t 22), none⟩,
  ⟨some 24, .faddr 0 (.t 6), some (23, false)⟩,
  ⟨some 25, .load 1 false (.t 24), some (23, false)⟩,
  ⟨some 26, .bin .eql (.t 25) (.c (.int .u8 2)), some (23, false)⟩,
  ⟨some 27, .pick (.t 23) (.c (.bool true)) (.t 26), none⟩]
def f102.r6 : List XOper := [⟨some 28, .load 1 false (.t 2), none⟩,
  ⟨some 29, .faddr 4 (.t 6), none⟩,
  ⟨some 30, .faddr 6 (.t 29), none⟩,
  ⟨some 31, .load 1 false (.t 30), none⟩,
  ⟨some 32, .call (.c (.fn (.func 103) [] [])) [.t 31], none⟩,
  ⟨some 33, .bin .add (.c (.int .i64 1)) (.t 32), none⟩,
  ⟨some 34, .bin .add (.t 28) (.t 33), none⟩,
  ⟨none, .store 1 (.t 2) (.t 34), none⟩]
def f102.r7 : List XOper := [⟨some 35, .load 1 false (.t 3), none⟩,
  ⟨some 36, .faddr 13 (.t 6), none⟩,
  ⟨some 37, .load 1 false (.t 36), none⟩,
  ⟨some 38, .call (.t 35) [.t 37], none⟩]
def f102.r8 : List XOper := [⟨some 39, .load 1 false (.t 3), none⟩,
  ⟨some 40, .faddr 14 (.t 6), none⟩,
  ⟨some 41, .load 1 false (.t 40), none⟩,
  ⟨some 42, .call (.t 39) [.t 41], none⟩]
def f102.r9 : List XOper := [⟨some 43, .bin .add (.t 9) (.c (.int .i64 1)), none⟩,
  ⟨some 9, .mv (.t 43), none⟩]
def f102 : XF := ⟨44, [], .seq (.region f102.r0) (.block 0 (.loop (.seq (.region f102.r1) (.seq (.cond (.t 10) (.skip) (.exit 0)) (.seq (.block 1 (.seq (.region f102.r2) (.seq (.region f102.r3) (.seq (.regionD f102.r4 [0, 0, 2, 6, 15, 31]) (.seq (.seq (.region f102.r5) (.cond (.t 27) (.regionD f102.r6 [0, 0, 2, 6, 14, 30, 63, 127]) (.skip))) (.seq (.region f102.r7) (.region f102.r8))))))) (.region f102.r9))))))⟩
/-! (*flyball/tree.writer).expr -/
def f91.r0 : List XOper := [⟨some 3, .box 78 (.t 1), none⟩]
def f91.r1 : List XOper := [⟨some 5, .faddr 0 (.t 3), none⟩,
  ⟨some 6, .load 1 false (.t 5), none⟩,
  ⟨some 7, .call (.c (.fn (.func 145) [] [])) [.t 6], none⟩,
  ⟨some 4, .mv (.t 7), none⟩]
def f91.r2 : List XOper := [⟨some 8, .mv (.t 0), none⟩,
  ⟨some 9, .load 7 true (.t 3), none⟩,
  ⟨some 10, .call (.c (.fn (.func 146) [] [])) [.t 8, .t 9, .c (.int .i64 0)], none⟩]
def f91.r3 : List XOper := [⟨some 11, .mv (.t 0), none⟩,
  ⟨some 12, .faddr 0 (.t 3), none⟩,
  ⟨some 13, .load 1 false (.t 12), none⟩,
  ⟨some 14, .call (.c (.fn (.func 147) [] [])) [.t 13], none⟩,
  ⟨some 15, .bslice 1 3 [.str []] [(0, 1, (.c (.str [32]))), (1, 1, (.t 14)), (2, 1, (.c (.str [32])))], none⟩,
  ⟨some 16, .call (.c (.fn (.func 97) [] [])) [.t 11, .t 15], none⟩]
def f91.r4 : List XOper := [⟨some 17, .mv (.t 0), none⟩,
  ⟨some 18, .load 7 true (.t 3), none⟩,
  ⟨some 19, .call (.c (.fn (.func 146) [] [])) [.t 17, .t 18, .c (.int .i64 1)], none⟩]
def f91.r5 : List XOper := [⟨some 21, .faddr 0 (.t 3), none⟩,
  ⟨some 22, .load 1 false (.t 21), none⟩,
  ⟨some 23, .bin .eql (.t 22) (.c (.int .u8 1)), none⟩,
  ⟨some 20, .mv (.t 23), none⟩]
def f91.r6 : List XOper := [⟨some 24, .mv (.t 0), none⟩,
  ⟨some 25, .faddr 2 (.t 3), none⟩,
  ⟨some 26, .load 1 false (.t 25), none⟩,
  ⟨some 27, .call (.c (.fn (.func 148) [] [])) [.t 26], none⟩,
  ⟨some 28, .bslice 1 1 [.str []] [(0, 1, (.t 27))], none⟩,
  ⟨some 29, .call (.c (.fn (.func 97) [] [])) [.t 24, .t 28], none⟩]
def f91.r7 : List XOper := [⟨some 31, .faddr 0 (.t 3), none⟩,
  ⟨some 32, .load 1 false (.t 31), none⟩,
  ⟨some 33, .bin .eql (.t 32) (.c (.int .u8 2)), none⟩,
  ⟨some 30, .mv (.t 33), none⟩]
def f91.r8 : List XOper := [⟨some 34, .mv (.t 0), none⟩,
  ⟨some 35, .faddr 3 (.t 3), none⟩,
  ⟨some 36, .load 1 false (.t 35), none⟩,
  ⟨some 37, .convI .i64 (.t 36), none⟩,
  ⟨some 38, .call (.c (.fn (.func 98) [] [])) [.t 37], none⟩,
  ⟨some 39, .bslice 1 1 [.str []] [(0, 1, (.t 38))], none⟩,
  ⟨some 40, .call (.c (.fn (.func 97) [] [])) [.t 34, .t 39], none⟩]
def f91.r9 : List XOper := [⟨some 42, .faddr 0 (.t 3), none⟩,
  ⟨some 43, .load 1 false (.t 42), none⟩,
  ⟨some 44, .bin .eql (.t 43) (.c (.int .u8 3)), none⟩,
  ⟨some 41, .mv (.t 44), none⟩]
def f91.r10 : List XOper := [⟨some 45, .mv (.t 0), none⟩,
  ⟨some 46, .faddr 4 (.t 3), none⟩,
  ⟨some 47, .load 1 false (.t 46), none⟩,
  ⟨some 48, .call (.c (.fn (.func 13) [] [])) [.t 47], none⟩,
  ⟨some 49, .bslice 1 1 [.str []] [(0, 1, (.t 48))], none⟩,
  ⟨some 50, .call (.c (.fn (.func 97) [] [])) [.t 45, .t 49], none⟩]
def f91.r11 : List XOper := [⟨some 52, .faddr 0 (.t 3), none⟩,
  ⟨some 53, .load 1 false (.t 52), none⟩,
  ⟨some 54, .bin .eql (.t 53) (.c (.int .u8 4)), none⟩,
  ⟨some 55, .mv (.t 54), none⟩,
  ⟨some 56, .faddr 6 (.t 3), some (55, true)⟩,
  ⟨some 57, .load 1 false (.t 56), some (55, true)⟩,
  ⟨some 58, .len false (.t 57), some (55, true)⟩,
  ⟨some 59, .bin .gtr (.t 58) (.c (.int .i64 0)), some (55, true)⟩,
  ⟨some 60, .pick (.t 55) (.t 59) (.c (.bool false)), none⟩,
  ⟨some 51, .mv (.t 60), none⟩]
def f91.r12 : List XOper := [⟨some 61, .mv (.t 0), none⟩,
  ⟨some 62, .faddr 5 (.t 3), none⟩,
  ⟨some 63, .load 1 false (.t 62), none⟩,
  ⟨some 64, .bin .add (.t 63) (.c (.str [91])), none⟩,
  ⟨some 65, .load 7 true (.t 3), none⟩,
  ⟨some 66, .call (.c (.fn (.func 149) [] [])) [.t 61, .t 64, .t 65, .c (.str [93])], none⟩]
def f91.r13 : List XOper := [⟨some 68, .faddr 0 (.t 3), none⟩,
  ⟨some 69, .load 1 false (.t 68), none⟩,
  ⟨some 70, .bin .eql (.t 69) (.c (.int .u8 4)), none⟩,
  ⟨some 67, .mv (.t 70), none⟩]
def f91.r14 : List XOper := [⟨some 71, .mv (.t 0), none⟩,
  ⟨some 72, .faddr 5 (.t 3), none⟩,
  ⟨some 73, .load 1 false (.t 72), none⟩,
  ⟨some 74, .bslice 1 1 [.str []] [(0, 1, (.t 73))], none⟩,
  ⟨some 75, .call (.c (.fn (.func 97) [] [])) [.t 71, .t 74], none⟩]
def f91.r15 : List XOper := [⟨some 77, .faddr 0 (.t 3), none⟩,
  ⟨some 78, .load 1 false (.t 77), none⟩,
  ⟨some 79, .bin .eql (.t 78) (.c (.int .u8 17)), none⟩,
  ⟨some 76, .mv (.t 79), none⟩]
def f91.r16 : List XOper := [⟨some 80, .mv (.t 0), none⟩,
  ⟨some 81, .bslice 1 1 [.str []] [(0, 1, (.c (.str [45])))], none⟩,
  ⟨some 82, .call (.c (.fn (.func 97) [] [])) [.t 80, .t 81], none⟩]
def f91.r17 : List XOper := [⟨some 83, .mv (.t 0), none⟩,
  ⟨some 84, .load 7 true (.t 3), none⟩,
  ⟨some 85, .call (.c (.fn (.func 146) [] [])) [.t 83, .t 84, .c (.int .i64 0)], none⟩]
def f91.r18 : List XOper := [⟨some 87, .faddr 0 (.t 3), none⟩,
  ⟨some 88, .load 1 false (.t 87), none⟩,
  ⟨some 89, .bin .eql (.t 88) (.c (.int .u8 18)), none⟩,
  ⟨some 86, .mv (.t 89), none⟩]
def f91.r19 : List XOper := [⟨some 90, .mv (.t 0), none⟩,
  ⟨some 91, .bslice 1 1 [.str []] [(0, 1, (.c (.str [33])))], none⟩,
  ⟨some 92, .call (.c (.fn (.func 97) [] [])) [.t 90, .t 91], none⟩]
def f91.r20 : List XOper := [⟨some 93, .mv (.t 0), none⟩,
  ⟨some 94, .load 7 true (.t 3), none⟩,
  ⟨some 95, .call (.c (.fn (.func 146) [] [])) [.t 93, .t 94, .c (.int .i64 0)], none⟩]
def f91.r21 : List XOper := [⟨some 97, .faddr 0 (.t 3), none⟩,
  ⟨some 98, .load 1 false (.t 97), none⟩,
  ⟨some 99, .bin .eql (.t 98) (.c (.int .u8 19)), none⟩,
  ⟨some 96, .mv (.t 99), none⟩]
def f91.r22 : List XOper := [⟨some 100, .mv (.t 0), none⟩,
  ⟨some 101, .load 7 true (.t 3), none⟩,
  ⟨some 102, .call (.c (.fn (.func 149) [] [])) [.t 100, .c (.str [105, 110, 116, 40]), .t 101, .c (.str [41])], none⟩]
def f91.r23 : List XOper := [⟨some 104, .faddr 0 (.t 3), none⟩,
  ⟨some 105, .load 1 false (.t 104), none⟩,
  ⟨some 106, .bin .eql (.t 105) (.c (.int .u8 20)), none⟩,
  ⟨some 103, .mv (.t 106), none⟩]
def f91.r24 : List XOper := [⟨some 107, .mv (.t 0), none⟩,
  ⟨some 108, .load 7 true (.t 3), none⟩,
  ⟨some 109, .call (.c (.fn (.func 149) [] [])) [.t 107, .c (.str [102, 108, 111, 97, 116, 40]), .t 108, .c (.str [41])], none⟩]
def f91.r25 : List XOper := [⟨some 111, .faddr 0 (.t 3), none⟩,
  ⟨some 112, .load 1 false (.t 111), none⟩,
  ⟨some 113, .bin .eql (.t 112) (.c (.int .u8 21)), none⟩,
  ⟨some 110, .mv (.t 113), none⟩]
def f91.r26 : List XOper := [⟨some 114, .mv (.t 0), none⟩,
  ⟨some 115, .load 7 true (.t 3), none⟩,
  ⟨some 116, .call (.c (.fn (.func 149) [] [])) [.t 114, .c (.str [97, 98, 115, 40]), .t 115, .c (.str [41])], none⟩]
def f91 : XF := ⟨117, [], .seq (.region f91.r0) (.block 0 (.seq (.region f91.r1) (.cond (.t 4) (.seq (.region f91.r2) (.seq (.region f91.r3) (.region f91.r4))) (.seq (.region f91.r5) (.cond (.t 20) (.region f91.r6) (.seq (.region f91.r7) (.cond (.t 30) (.region f91.r8) (.seq (.region f91.r9) (.cond (.t 41) (.region f91.r10) (.seq (.region f91.r11) (.cond (.t 51) (.region f91.r12) (.seq (.region f91.r13) (.cond (.t 67) (.region f91.r14) (.seq (.region f91.r15) (.cond (.t 76) (.seq (.region f91.r16) (.region f91.r17)) (.seq (.region f91.r18) (.cond (.t 86) (.seq (.region f91.r19) (.region f91.r20)) (.seq (.region f91.r21) (.cond (.t 96) (.region f91.r22) (.seq (.region f91.r23) (.cond (.t 103) (.region f91.r24) (.seq (.region f91.r25) (.cond (.t 110) (.region f91.r26) (.skip))))))))))))))))))))))))⟩
/-! (*strings.Builder).String -/
def f92.r0 : List XOper := [⟨some 2, .mv (.c (.str [])), none⟩]
def f92.r1 : List XOper := [⟨some 3, .mv (.t 0), none⟩,
  ⟨some 4, .nilc (.t 3), none⟩,
  ⟨some 5, .faddr 1 (.t 4), none⟩,
  ⟨some 6, .load 1 false (.t 5), none⟩,
  ⟨some 7, .sdata (.t 6), none⟩,
  ⟨some 8, .mv (.t 0), none⟩,
  ⟨some 9, .nilc (.t 8), none⟩,
  ⟨some 10, .faddr 1 (.t 9), none⟩,
  ⟨some 11, .load 1 false (.t 10), none⟩,
  ⟨some 12, .len false (.t 11), none⟩,
  ⟨some 13, .ustr 5 (.t 7) (.t 12), none⟩,
  ⟨some 2, .mv (.t 13), none⟩]
def f92 : XF := ⟨14, [.t 2], .seq (.region f92.r0) (.seq (.regionD f92.r1 [0, 1, 3, 7, 15, 0, 32, 96, 224, 480, 1023, 2047]) (.ret))⟩
/-! strconv.Itoa -/
def f98.r0 : List XOper := [⟨some 2, .mv (.c (.str [])), none⟩]
def f98.r1 : List XOper := [⟨some 3, .mv (.t 0), none⟩,
  ⟨some 4, .call (.c (.fn (.func 152) [] [])) [.t 3], none⟩,
  ⟨some 2, .mv (.t 4), none⟩]
def f98 : XF := ⟨5, [.t 2], .seq (.region f98.r0) (.seq (.region f98.r1) (.ret))⟩
/-! (*flyball/tree.writer).put -/
def f97.r0 : List XOper := [⟨some 6, .mv (.t 1), none⟩,
  ⟨some 7, .len false (.t 6), none⟩,
  ⟨some 8, .mv (.c (.int .i64 0)), none⟩]
def f97.r1 : List XOper := [⟨some 9, .bin .lss (.t 8) (.t 7), none⟩]
def f97.r2 : List XOper := [⟨some 10, .iaddr 1 (.t 6) (.t 8), none⟩,
  ⟨some 11, .load 1 false (.t 10), none⟩,
  ⟨some 5, .mv (.t 11), none⟩]
def f97.r3 : List XOper := [⟨some 12, .mv (.t 0), none⟩,
  ⟨some 13, .nilc (.t 12), none⟩,
  ⟨some 14, .faddr 0 (.t 13), none⟩,
  ⟨some 15, .mv (.t 5), none⟩,
  ⟨some 16, .call (.c (.fn (.func 151) [] [])) [.t 14, .t 15], none⟩]
def f97.r4 : List XOper := [⟨some 17, .bin .add (.t 8) (.c (.int .i64 1)), none⟩,
  ⟨some 8, .mv (.t 17), none⟩]
def f97 : XF := ⟨18, [], .seq (.region f97.r0) (.block 0 (.loop (.seq (.region f97.r1) (.seq (.cond (.t 9) (.skip) (.exit 0)) (.seq (.block 1 (.seq (.region f97.r2) (.region f97.r3))) (.region f97.r4))))))⟩
/-! (*flyball/tree.writer).decl -/
def f99.r0 : List XOper := [⟨some 3, .box 122 (.t 1), none⟩]
def f99.r1 : List XOper := [⟨some 4, .mv (.c (.str [118, 97, 114, 32])), none⟩]
def f99.r2 : List XOper := [⟨some 5, .faddr 1 (.t 3), none⟩,
  ⟨some 6, .load 1 false (.t 5), none⟩]
def f99.r3 : List XOper := [⟨some 4, .mv (.c (.str [105, 110, 112, 117, 116, 32])), none⟩]
def f99.r4 : List XOper := [⟨some 7, .mv (.t 0), none⟩,
  ⟨some 8, .mv (.t 4), none⟩,
  ⟨some 9, .faddr 2 (.t 3), none⟩,
  ⟨some 10, .load 1 false (.t 9), none⟩,
  ⟨some 11, .faddr 3 (.t 3), none⟩,
  ⟨some 12, .load 1 false (.t 11), none⟩,
  ⟨some 13, .call (.c (.fn (.func 153) [] [])) [.t 12], none⟩,
  ⟨some 14, .bslice 1 4 [.str []] [(0, 1, (.t 8)), (1, 1, (.t 10)), (2, 1, (.c (.str [58, 32]))), (3, 1, (.t 13))], none⟩,
  ⟨some 15, .call (.c (.fn (.func 97) [] [])) [.t 7, .t 14], none⟩]
def f99.r5 : List XOper := [⟨some 16, .faddr 4 (.t 3), none⟩,
  ⟨some 17, .load 1 false (.t 16), none⟩,
  ⟨some 18, .bin .gtr (.t 17) (.c (.int .i64 0)), none⟩]
def f99.r6 : List XOper := [⟨some 19, .mv (.t 0), none⟩,
  ⟨some 20, .faddr 4 (.t 3), none⟩,
  ⟨some 21, .load 1 false (.t 20), none⟩,
  ⟨some 22, .call (.c (.fn (.func 98) [] [])) [.t 21], none⟩,
  ⟨some 23, .bslice 1 3 [.str []] [(0, 1, (.c (.str [91]))), (1, 1, (.t 22)), (2, 1, (.c (.str [93])))], none⟩,
  ⟨some 24, .call (.c (.fn (.func 97) [] [])) [.t 19, .t 23], none⟩]
def f99.r7 : List XOper := [⟨some 25, .faddr 5 (.t 3), none⟩,
  ⟨some 26, .load 1 false (.t 25), none⟩]
def f99.r8 : List XOper := [⟨some 27, .mv (.t 0), none⟩,
  ⟨some 28, .faddr 6 (.t 3), none⟩,
  ⟨some 29, .load 7 true (.t 28), none⟩,
  ⟨some 30, .call (.c (.fn (.func 41) [] [])) [.t 29], none⟩,
  ⟨some 31, .faddr 13 (.t 3), none⟩,
  ⟨some 32, .load 7 true (.t 31), none⟩,
  ⟨some 33, .call (.c (.fn (.func 41) [] [])) [.t 32], none⟩,
  ⟨some 34, .bslice 1 5 [.str []] [(0, 1, (.c (.str [32, 105, 110, 32, 91]))), (1, 1, (.t 30)), (2, 1, (.c (.str [44, 32]))), (3, 1, (.t 33)), (4, 1, (.c (.str [93])))], none⟩,
  ⟨some 35, .call (.c (.fn (.func 97) [] [])) [.t 27, .t 34], none⟩]
def f99.r9 : List XOper := [⟨some 36, .mv (.t 0), none⟩,
  ⟨some 37, .bslice 1 1 [.str []] [(0, 1, (.c (.str [59, 10])))], none⟩,
  ⟨some 38, .call (.c (.fn (.func 97) [] [])) [.t 36, .t 37], none⟩]
def f99 : XF := ⟨39, [], .seq (.region f99.r0) (.seq (.region f99.r1) (.seq (.seq (.region f99.r2) (.cond (.t 6) (.region f99.r3) (.skip))) (.seq (.regionD f99.r4 [0, 0, 0, 4, 0, 16, 48, 126, 255]) (.seq (.seq (.region f99.r5) (.cond (.t 18) (.region f99.r6) (.skip))) (.seq (.seq (.region f99.r7) (.cond (.t 26) (.regionD f99.r8 [0, 0, 2, 6, 0, 16, 62, 126, 255]) (.skip))) (.region f99.r9))))))⟩
/-! (*flyball/tree.writer).block -/
def f100.r0 : List XOper := [⟨some 6, .mv (.t 0), none⟩,
  ⟨some 7, .bslice 1 1 [.str []] [(0, 1, (.c (.str [32, 123, 10])))], none⟩,
  ⟨some 8, .call (.c (.fn (.func 97) [] [])) [.t 6, .t 7], none⟩]
def f100.r1 : List XOper := [⟨some 9, .mv (.t 0), none⟩,
  ⟨some 10, .nilc (.t 9), none⟩,
  ⟨some 11, .faddr 2 (.t 10), none⟩,
  ⟨some 12, .load 1 false (.t 11), none⟩,
  ⟨some 13, .bin .add (.t 12) (.c (.int .i64 1)), none⟩,
  ⟨some 14, .nilc (.t 9), none⟩,
  ⟨some 15, .faddr 2 (.t 14), none⟩,
  ⟨none, .store 1 (.t 15) (.t 13), none⟩]
def f100.r2 : List XOper := [⟨some 16, .mv (.t 1), none⟩,
  ⟨some 17, .len false (.t 16), none⟩,
  ⟨some 18, .mv (.c (.int .i64 0)), none⟩]
def f100.r3 : List XOper := [⟨some 19, .bin .lss (.t 18) (.t 17), none⟩]
def f100.r4 : List XOper := [⟨some 20, .iaddr 15 (.t 16) (.t 18), none⟩,
  ⟨some 21, .load 15 true (.t 20), none⟩,
  ⟨some 5, .alloc 80 [.int .u8 0, .int .i64 0, .str [], .nils, .int .u8 0, .int .i64 0, .bool false, .int .i32 0, .int .u64 0, .str [], .nils, .int .i32 0, .int .i32 0, .nils, .nils], none⟩,
  ⟨none, .store 15 (.t 5) (.t 21), none⟩]
def f100.r5 : List XOper := [⟨some 22, .mv (.t 0), none⟩,
  ⟨some 23, .load 15 true (.t 5), none⟩,
  ⟨some 24, .call (.c (.fn (.func 154) [] [])) [.t 22, .t 23], none⟩]
def f100.r6 : List XOper := [⟨some 25, .bin .add (.t 18) (.c (.int .i64 1)), none⟩,
  ⟨some 18, .mv (.t 25), none⟩]
def f100.r7 : List XOper := [⟨some 26, .mv (.t 0), none⟩,
  ⟨some 27, .nilc (.t 26), none⟩,
  ⟨some 28, .faddr 2 (.t 27), none⟩,
  ⟨some 29, .load 1 false (.t 28), none⟩,
  ⟨some 30, .bin .sub (.t 29) (.c (.int .i64 1)), none⟩,
  ⟨some 31, .nilc (.t 26), none⟩,
  ⟨some 32, .faddr 2 (.t 31), none⟩,
  ⟨none, .store 1 (.t 32) (.t 30), none⟩]
def f100.r8 : List XOper := [⟨some 33, .mv (.t 0), none⟩,
  ⟨some 34, .bslice 1 1 [.str []] [(0, 1, (.c (.str [125])))], none⟩,
  ⟨some 35, .call (.c (.fn (.func 155) [] [])) [.t 33, .t 34], none⟩]
def f100 : XF := ⟨36, [], .seq (.region f100.r0) (.seq (.region f100.r1) (.seq (.seq (.region f100.r2) (.block 0 (.loop (.seq (.region f100.r3) (.seq (.cond (.t 19) (.skip) (.exit 0)) (.seq (.block 1 (.seq (.region f100.r4) (.region f100.r5))) (.region f100.r6))))))) (.seq (.region f100.r7) (.region f100.r8))))⟩
/-! flyball/tree.all[flyball/api.Expr] -/
def f110.r0 : List XOper := [⟨some 6, .mv (.c (.bool false)), none⟩]
def f110.r1 : List XOper := [⟨some 8, .mv (.t 0), none⟩,
  ⟨some 9, .len false (.t 8), none⟩,
  ⟨some 10, .mv (.t 1), none⟩,
  ⟨some 11, .len false (.t 10), none⟩,
  ⟨some 12, .bin .neq (.t 9) (.t 11), none⟩]
def f110.r2 : List XOper := [⟨some 6, .mv (.c (.bool false)), none⟩]
def f110.r3 : List XOper := [⟨some 13, .mv (.t 0), none⟩,
  ⟨some 14, .len false (.t 13), none⟩,
  ⟨some 15, .mv (.c (.int .i64 0)), none⟩]
def f110.r4 : List XOper := [⟨some 16, .bin .lss (.t 15) (.t 14), none⟩]
def f110.r5 : List XOper := [⟨some 17, .mv (.t 15), none⟩,
  ⟨some 7, .mv (.t 17), none⟩]
def f110.r6 : List XOper := [⟨some 18, .mv (.t 2), none⟩,
  ⟨some 19, .mv (.t 0), none⟩,
  ⟨some 20, .mv (.t 7), none⟩,
  ⟨some 21, .iaddr 7 (.t 19) (.t 20), none⟩,
  ⟨some 22, .load 7 true (.t 21), none⟩,
  ⟨some 23, .mv (.t 1), none⟩,
  ⟨some 24, .mv (.t 7), none⟩,
  ⟨some 25, .iaddr 7 (.t 23) (.t 24), none⟩,
  ⟨some 26, .load 7 true (.t 25), none⟩,
  ⟨some 27, .call (.t 18) [.t 22, .t 26], none⟩,
  ⟨some 28, .un .not (.t 27), none⟩]
def f110.r7 : List XOper := [⟨some 6, .mv (.c (.bool false)), none⟩]
def f110.r8 : List XOper := [⟨some 29, .bin .add (.t 15) (.c (.int .i64 1)), none⟩,
  ⟨some 15, .mv (.t 29), none⟩]
def f110.r9 : List XOper := [⟨some 6, .mv (.c (.bool true)), none⟩]
def f110 : XF := ⟨30, [.t 6], .seq (.region f110.r0) (.seq (.seq (.region f110.r1) (.cond (.t 12) (.seq (.region f110.r2) (.ret)) (.skip))) (.seq (.seq (.region f110.r3) (.block 0 (.loop (.seq (.region f110.r4) (.seq (.cond (.t 16) (.skip) (.exit 0)) (.seq (.block 1 (.seq (.region f110.r5) (.seq (.regionD f110.r6 [0, 0, 0, 6, 14, 0, 0, 96, 224, 511, 1023]) (.cond (.t 28) (.seq (.region f110.r7) (.ret)) (.skip))))) (.region f110.r8))))))) (.seq (.region f110.r9) (.ret))))⟩
/-! flyball/tree.all[flyball/api.Decl] -/
def f106.r0 : List XOper := [⟨some 6, .mv (.c (.bool false)), none⟩]
def f106.r1 : List XOper := [⟨some 8, .mv (.t 0), none⟩,
  ⟨some 9, .len false (.t 8), none⟩,
  ⟨some 10, .mv (.t 1), none⟩,
  ⟨some 11, .len false (.t 10), none⟩,
  ⟨some 12, .bin .neq (.t 9) (.t 11), none⟩]
def f106.r2 : List XOper := [⟨some 6, .mv (.c (.bool false)), none⟩]
def f106.r3 : List XOper := [⟨some 13, .mv (.t 0), none⟩,
  ⟨some 14, .len false (.t 13), none⟩,
  ⟨some 15, .mv (.c (.int .i64 0)), none⟩]
def f106.r4 : List XOper := [⟨some 16, .bin .lss (.t 15) (.t 14), none⟩]
def f106.r5 : List XOper := [⟨some 17, .mv (.t 15), none⟩,
  ⟨some 7, .mv (.t 17), none⟩]
def f106.r6 : List XOper := [⟨some 18, .mv (.t 2), none⟩,
  ⟨some 19, .mv (.t 0), none⟩,
  ⟨some 20, .mv (.t 7), none⟩,
  ⟨some 21, .iaddr 20 (.t 19) (.t 20), none⟩,
  ⟨some 22, .load 20 true (.t 21), none⟩,
  ⟨some 23, .mv (.t 1), none⟩,
  ⟨some 24, .mv (.t 7), none⟩,
  ⟨some 25, .iaddr 20 (.t 23) (.t 24), none⟩,
  ⟨some 26, .load 20 true (.t 25), none⟩,
  ⟨some 27, .call (.t 18) [.t 22, .t 26], none⟩,
  ⟨some 28, .un .not (.t 27), none⟩]
def f106.r7 : List XOper := [⟨some 6, .mv (.c (.bool false)), none⟩]
def f106.r8 : List XOper := [⟨some 29, .bin .add (.t 15) (.c (.int .i64 1)), none⟩,
  ⟨some 15, .mv (.t 29), none⟩]
def f106.r9 : List XOper := [⟨some 6, .mv (.c (.bool true)), none⟩]
def f106 : XF := ⟨30, [.t 6], .seq (.region f106.r0) (.seq (.seq (.region f106.r1) (.cond (.t 12) (.seq (.region f106.r2) (.ret)) (.skip))) (.seq (.seq (.region f106.r3) (.block 0 (.loop (.seq (.region f106.r4) (.seq (.cond (.t 16) (.skip) (.exit 0)) (.seq (.block 1 (.seq (.region f106.r5) (.seq (.regionD f106.r6 [0, 0, 0, 6, 14, 0, 0, 96, 224, 511, 1023]) (.cond (.t 28) (.seq (.region f106.r7) (.ret)) (.skip))))) (.region f106.r8))))))) (.seq (.region f106.r9) (.ret))))⟩
/-! flyball/tree.sameDecl -/
def f107.r0 : List XOper := [⟨some 2, .box 122 (.t 0), none⟩,
  ⟨some 3, .box 122 (.t 1), none⟩,
  ⟨some 4, .mv (.c (.bool false)), none⟩]
def f107.r1 : List XOper := [⟨some 5, .faddr 1 (.t 2), none⟩,
  ⟨some 6, .load 1 false (.t 5), none⟩,
  ⟨some 7, .faddr 1 (.t 3), none⟩,
  ⟨some 8, .load 1 false (.t 7), none⟩,
  ⟨some 9, .eq false .bool (.t 6) (.t 8), none⟩,
  ⟨some 10, .mv (.t 9), none⟩,
  ⟨some 11, .faddr 2 (.t 2), some (10, true)⟩,
  ⟨some 12, .load 1 false (.t 11), some (10, true)⟩,
  ⟨some 13, .faddr 2 (.t 3), some (10, true)⟩,
  ⟨some 14, .load 1 false (.t 13), some (10, true)⟩,
  ⟨some 15, .bin .eql (.t 12) (.t 14), some (10, true)⟩,
  ⟨some 16, .pick (.t 10) (.t 15) (.c (.bool false)), none⟩,
  ⟨some 17, .mv (.t 16), none⟩,
  ⟨some 18, .faddr 3 (.t 2), some (17, true)⟩,
  ⟨some 19, .load 1 false (.t 18), some (17, true)⟩,
  ⟨some 20, .faddr 3 (.t 3), some (17, true)⟩,
  ⟨some 21, .load 1 false (.t 20), some (17, true)⟩,
  ⟨some 22, .bin .eql (.t 19) (.t 21), some (17, true)⟩,
  ⟨some 23, .pick (.t 17) (.t 22) (.c (.bool false)), none⟩,
  ⟨some 24, .mv (.t 23), none⟩,
  ⟨some 25, .faddr 4 (.t 2), some (24, true)⟩,
  ⟨some 26, .load 1 false (.t 25), some (24, true)⟩,
  ⟨some 27, .faddr 4 (.t 3), some (24, true)⟩,
  ⟨some 28, .load 1 false (.t 27), some (24, true)⟩,
  ⟨some 29, .bin .eql (.t 26) (.t 28), some (24, true)⟩,
  ⟨some 30, .pick (.t 24) (.t 29) (.c (.bool false)), none⟩,
  ⟨some 31, .mv (.t 30), none⟩,
  ⟨some 32, .faddr 5 (.t 2), some (31, true)⟩,
  ⟨some 33, .load 1 false (.t 32), some (31, true)⟩,
  ⟨some 34, .faddr 5 (.t 3), some (31, true)⟩,
  ⟨some 35, .load 1 false (.t 34), some (31, true)⟩,
  ⟨some 36, .eq false .bool (.t 33) (.t 35), some (31, true)⟩,
  ⟨some 37, .pick (.t 31) (.t 36) (.c (.bool false)), none⟩,
  ⟨some 38, .mv (.t 37), none⟩,
  ⟨some 39, .faddr 6 (.t 2), some (38, true)⟩,
  ⟨some 40, .load 7 true (.t 39), some (38, true)⟩,
  ⟨some 41, .faddr 6 (.t 3), some (38, true)⟩,
  ⟨some 42, .load 7 true (.t 41), some (38, true)⟩,
  ⟨some 43, .call (.c (.fn (.func 49) [] [])) [.t 40, .t 42], some (38, true)⟩,
  ⟨some 44, .pick (.t 38) (.t 43) (.c (.bool false)), none⟩,
  ⟨some 45, .mv (.t 44), none⟩,
  ⟨some 46, .faddr 13 (.t 2), some (45, true)⟩,
  ⟨some 47, .load 7 true (.t 46), some (45, true)⟩,
  ⟨some 48, .faddr 13 (.t 3), some (45, true)⟩,
  ⟨some 49, .load 7 true (.t 48), some (45, true)⟩,
  ⟨some 50, .call (.c (.fn (.func 49) [] [])) [.t 47, .t 49], some (45, true)⟩,
  ⟨some 51, .pick (.t 45) (.t 50) (.c (.bool false)), none⟩,
  ⟨some 4, .mv (.t 51), none⟩]
def f107 : XF := ⟨52, [.t 4], .seq (.region f107.r0) (.seq (.region f107.r1) (.ret))⟩
/-! flyball/tree.all[flyball/api.Stmt] -/
def f108.r0 : List XOper := [⟨some 6, .mv (.c (.bool false)), none⟩]
def f108.r1 : List XOper := [⟨some 8, .mv (.t 0), none⟩,
  ⟨some 9, .len false (.t 8), none⟩,
  ⟨some 10, .mv (.t 1), none⟩,
  ⟨some 11, .len false (.t 10), none⟩,
  ⟨some 12, .bin .neq (.t 9) (.t 11), none⟩]
def f108.r2 : List XOper := [⟨some 6, .mv (.c (.bool false)), none⟩]
def f108.r3 : List XOper := [⟨some 13, .mv (.t 0), none⟩,
  ⟨some 14, .len false (.t 13), none⟩,
  ⟨some 15, .mv (.c (.int .i64 0)), none⟩]
def f108.r4 : List XOper := [⟨some 16, .bin .lss (.t 15) (.t 14), none⟩]
def f108.r5 : List XOper := [⟨some 17, .mv (.t 15), none⟩,
  ⟨some 7, .mv (.t 17), none⟩]
def f108.r6 : List XOper := [⟨some 18, .mv (.t 2), none⟩,
  ⟨some 19, .mv (.t 0), none⟩,
  ⟨some 20, .mv (.t 7), none⟩,
  ⟨some 21, .iaddr 15 (.t 19) (.t 20), none⟩,
  ⟨some 22, .load 15 true (.t 21), none⟩,
  ⟨some 23, .mv (.t 1), none⟩,
  ⟨some 24, .mv (.t 7), none⟩,
  ⟨some 25, .iaddr 15 (.t 23) (.t 24), none⟩,
  ⟨some 26, .load 15 true (.t 25), none⟩,
  ⟨some 27, .call (.t 18) [.t 22, .t 26], none⟩,
  ⟨some 28, .un .not (.t 27), none⟩]
def f108.r7 : List XOper := [⟨some 6, .mv (.c (.bool false)), none⟩]
def f108.r8 : List XOper := [⟨some 29, .bin .add (.t 15) (.c (.int .i64 1)), none⟩,
  ⟨some 15, .mv (.t 29), none⟩]
def f108.r9 : List XOper := [⟨some 6, .mv (.c (.bool true)), none⟩]
def f108 : XF := ⟨30, [.t 6], .seq (.region f108.r0) (.seq (.seq (.region f108.r1) (.cond (.t 12) (.seq (.region f108.r2) (.ret)) (.skip))) (.seq (.seq (.region f108.r3) (.block 0 (.loop (.seq (.region f108.r4) (.seq (.cond (.t 16) (.skip) (.exit 0)) (.seq (.block 1 (.seq (.region f108.r5) (.seq (.regionD f108.r6 [0, 0, 0, 6, 14, 0, 0, 96, 224, 511, 1023]) (.cond (.t 28) (.seq (.region f108.r7) (.ret)) (.skip))))) (.region f108.r8))))))) (.seq (.region f108.r9) (.ret))))⟩
/-! flyball/tree.sameStmt -/
def f109.r0 : List XOper := [⟨some 2, .box 80 (.t 0), none⟩,
  ⟨some 3, .box 80 (.t 1), none⟩,
  ⟨some 4, .mv (.c (.bool false)), none⟩]
def f109.r1 : List XOper := [⟨some 5, .faddr 0 (.t 2), none⟩,
  ⟨some 6, .load 1 false (.t 5), none⟩,
  ⟨some 7, .faddr 0 (.t 3), none⟩,
  ⟨some 8, .load 1 false (.t 7), none⟩,
  ⟨some 9, .bin .eql (.t 6) (.t 8), none⟩,
  ⟨some 10, .mv (.t 9), none⟩,
  ⟨some 11, .faddr 2 (.t 2), some (10, true)⟩,
  ⟨some 12, .load 1 false (.t 11), some (10, true)⟩,
  ⟨some 13, .faddr 2 (.t 3), some (10, true)⟩,
  ⟨some 14, .load 1 false (.t 13), some (10, true)⟩,
  ⟨some 15, .bin .eql (.t 12) (.t 14), some (10, true)⟩,
  ⟨some 16, .pick (.t 10) (.t 15) (.c (.bool false)), none⟩,
  ⟨some 17, .mv (.t 16), none⟩,
  ⟨some 18, .faddr 11 (.t 2), some (17, true)⟩,
  ⟨some 19, .load 1 false (.t 18), some (17, true)⟩,
  ⟨some 20, .faddr 11 (.t 3), some (17, true)⟩,
  ⟨some 21, .load 1 false (.t 20), some (17, true)⟩,
  ⟨some 22, .bin .eql (.t 19) (.t 21), some (17, true)⟩,
  ⟨some 23, .pick (.t 17) (.t 22) (.c (.bool false)), none⟩,
  ⟨some 24, .mv (.t 23), none⟩,
  ⟨some 25, .faddr 12 (.t 2), some (24, true)⟩,
  ⟨some 26, .load 1 false (.t 25), some (24, true)⟩,
  ⟨some 27, .faddr 12 (.t 3), some (24, true)⟩,
  ⟨some 28, .load 1 false (.t 27), some (24, true)⟩,
  ⟨some 29, .bin .eql (.t 26) (.t 28), some (24, true)⟩,
  ⟨some 30, .pick (.t 24) (.t 29) (.c (.bool false)), none⟩,
  ⟨some 31, .mv (.t 30), none⟩,
  ⟨some 32, .faddr 3 (.t 2), some (31, true)⟩,
  ⟨some 33, .load 1 false (.t 32), some (31, true)⟩,
  ⟨some 34, .faddr 3 (.t 3), some (31, true)⟩,
  ⟨some 35, .load 1 false (.t 34), some (31, true)⟩,
  ⟨some 36, .call (.c (.fn (.func 110) [] [])) [.t 33, .t 35, .c (.fn (.func 49) [] [])], some (31, true)⟩,
  ⟨some 37, .pick (.t 31) (.t 36) (.c (.bool false)), none⟩,
  ⟨some 38, .mv (.t 37), none⟩,
  ⟨some 39, .faddr 4 (.t 2), some (38, true)⟩,
  ⟨some 40, .load 7 true (.t 39), some (38, true)⟩,
  ⟨some 41, .faddr 4 (.t 3), some (38, true)⟩,
  ⟨some 42, .load 7 true (.t 41), some (38, true)⟩,
  ⟨some 43, .call (.c (.fn (.func 49) [] [])) [.t 40, .t 42], some (38, true)⟩,
  ⟨some 44, .pick (.t 38) (.t 43) (.c (.bool false)), none⟩,
  ⟨some 45, .mv (.t 44), none⟩,
  ⟨some 46, .faddr 13 (.t 2), some (45, true)⟩,
  ⟨some 47, .load 1 false (.t 46), some (45, true)⟩,
  ⟨some 48, .faddr 13 (.t 3), some (45, true)⟩,
  ⟨some 49, .load 1 false (.t 48), some (45, true)⟩,
  ⟨some 50, .call (.c (.fn (.func 108) [] [])) [.t 47, .t 49, .c (.fn (.func 109) [] [])], some (45, true)⟩,
  ⟨some 51, .pick (.t 45) (.t 50) (.c (.bool false)), none⟩,
  ⟨some 52, .mv (.t 51), none⟩,
  ⟨some 53, .faddr 14 (.t 2), some (52, true)⟩,
  ⟨some 54, .load 1 false (.t 53), some (52, true)⟩,
  ⟨some 55, .faddr 14 (.t 3), some (52, true)⟩,
  ⟨some 56, .load 1 false (.t 55), some (52, true)⟩,
  ⟨some 57, .call (.c (.fn (.func 108) [] [])) [.t 54, .t 56, .c (.fn (.func 109) [] [])], some (52, true)⟩,
  ⟨some 58, .pick (.t 52) (.t 57) (.c (.bool false)), none⟩,
  ⟨some 4, .mv (.t 58), none⟩]
def f109 : XF := ⟨59, [.t 4], .seq (.region f109.r0) (.seq (.region f109.r1) (.ret))⟩
/-! flyball/tree.exprs -/
def f103.r0 : List XOper := [⟨some 2, .mv (.c (.int .i64 0)), none⟩]
def f103.r1 : List XOper := [⟨some 6, .mv (.t 0), none⟩,
  ⟨some 7, .len false (.t 6), none⟩,
  ⟨some 3, .mv (.t 7), none⟩]
def f103.r2 : List XOper := [⟨some 8, .mv (.t 0), none⟩,
  ⟨some 9, .len false (.t 8), none⟩,
  ⟨some 10, .mv (.c (.int .i64 0)), none⟩]
def f103.r3 : List XOper := [⟨some 11, .bin .lss (.t 10) (.t 9), none⟩]
def f103.r4 : List XOper := [⟨some 12, .iaddr 7 (.t 8) (.t 10), none⟩,
  ⟨some 13, .load 7 true (.t 12), none⟩,
  ⟨some 5, .alloc 78 [.int .u8 0, .int .i64 0, .bool false, .int .i32 0, .int .u64 0, .str [], .nils], none⟩,
  ⟨none, .store 7 (.t 5) (.t 13), none⟩]
def f103.r5 : List XOper := [⟨some 14, .mv (.t 3), none⟩,
  ⟨some 15, .faddr 6 (.t 5), none⟩,
  ⟨some 16, .load 1 false (.t 15), none⟩,
  ⟨some 17, .call (.c (.fn (.func 103) [] [])) [.t 16], none⟩,
  ⟨some 18, .bin .add (.t 14) (.t 17), none⟩,
  ⟨some 3, .mv (.t 18), none⟩]
def f103.r6 : List XOper := [⟨some 19, .bin .add (.t 10) (.c (.int .i64 1)), none⟩,
  ⟨some 10, .mv (.t 19), none⟩]
def f103.r7 : List XOper := [⟨some 20, .mv (.t 3), none⟩,
  ⟨some 2, .mv (.t 20), none⟩]
def f103 : XF := ⟨21, [.t 2], .seq (.region f103.r0) (.seq (.region f103.r1) (.seq (.seq (.region f103.r2) (.block 0 (.loop (.seq (.region f103.r3) (.seq (.cond (.t 11) (.skip) (.exit 0)) (.seq (.block 1 (.seq (.region f103.r4) (.region f103.r5))) (.region f103.r6))))))) (.seq (.region f103.r7) (.ret))))⟩
/-! flyball/tree.two -/
def f145.r0 : List XOper := [⟨some 2, .mv (.c (.bool false)), none⟩]
def f145.r1 : List XOper := [⟨some 3, .mv (.t 0), none⟩,
  ⟨some 4, .bin .leq (.c (.int .u8 5)) (.t 3), none⟩,
  ⟨some 5, .mv (.t 4), none⟩,
  ⟨some 6, .mv (.t 0), some (5, true)⟩,
  ⟨some 7, .bin .leq (.t 6) (.c (.int .u8 16)), some (5, true)⟩,
  ⟨some 8, .pick (.t 5) (.t 7) (.c (.bool false)), none⟩,
  ⟨some 2, .mv (.t 8), none⟩]
def f145 : XF := ⟨9, [.t 2], .seq (.region f145.r0) (.seq (.region f145.r1) (.ret))⟩
/-! (*flyball/tree.writer).side -/
def f146.r0 : List XOper := [⟨some 4, .box 78 (.t 1), none⟩]
def f146.r1 : List XOper := [⟨some 6, .mv (.t 2), none⟩,
  ⟨some 7, .faddr 6 (.t 4), none⟩,
  ⟨some 8, .load 1 false (.t 7), none⟩,
  ⟨some 9, .len false (.t 8), none⟩,
  ⟨some 10, .bin .lss (.t 6) (.t 9), none⟩,
  ⟨some 11, .mv (.t 10), none⟩,
  ⟨some 12, .faddr 6 (.t 4), some (11, true)⟩,
  ⟨some 13, .load 1 false (.t 12), some (11, true)⟩,
  ⟨some 14, .mv (.t 2), some (11, true)⟩,
  ⟨some 15, .iaddr 7 (.t 13) (.t 14), some (11, true)⟩,
  ⟨some 16, .faddr 0 (.t 15), some (11, true)⟩,
  ⟨some 17, .load 1 false (.t 16), some (11, true)⟩,
  ⟨some 18, .call (.c (.fn (.func 145) [] [])) [.t 17], some (11, true)⟩,
  ⟨some 19, .pick (.t 11) (.t 18) (.c (.bool false)), none⟩]
def f146.r2 : List XOper := [⟨some 20, .mv (.t 0), none⟩,
  ⟨some 21, .bslice 1 1 [.str []] [(0, 1, (.c (.str [40])))], none⟩,
  ⟨some 22, .call (.c (.fn (.func 97) [] [])) [.t 20, .t 21], none⟩]
def f146.r3 : List XOper := [⟨some 23, .mv (.t 0), none⟩,
  ⟨some 24, .bslice 1 1 [.str []] [(0, 1, (.c (.str [41])))], none⟩,
  ⟨none, .defer (.c (.fn (.func 97) [] [])) [.t 23, .t 24], none⟩]
def f146.r4 : List XOper := [⟨some 25, .mv (.t 0), none⟩,
  ⟨some 26, .load 7 true (.t 4), none⟩,
  ⟨some 27, .mv (.t 2), none⟩,
  ⟨some 28, .call (.c (.fn (.func 189) [] [])) [.t 25, .t 26, .t 27], none⟩]
def f146 : XF := ⟨29, [], .seq (.region f146.r0) (.seq (.seq (.region f146.r1) (.cond (.t 19) (.seq (.region f146.r2) (.region f146.r3)) (.skip))) (.region f146.r4))⟩
/-! flyball/tree.sign -/
def f147.r0 : List XOper := [⟨some 2, .mv (.c (.str [])), none⟩]
def f147.r1 : List XOper := [⟨some 3, .mv (.t 0), none⟩,
  ⟨some 4, .bin .sub (.t 3) (.c (.int .u8 5)), none⟩,
  ⟨some 5, .iaddrA 12 1 (.g 0) (.t 4), none⟩,
  ⟨some 6, .load 1 false (.t 5), none⟩,
  ⟨some 2, .mv (.t 6), none⟩]
def f147 : XF := ⟨7, [.t 2], .seq (.region f147.r0) (.seq (.region f147.r1) (.ret))⟩
/-! strconv.FormatBool -/
def f148.r0 : List XOper := [⟨some 2, .mv (.c (.str [])), none⟩]
def f148.r1 : List XOper := [⟨some 3, .mv (.t 0), none⟩,
  ⟨some 4, .call (.c (.fn (.func 190) [] [])) [.t 3], none⟩,
  ⟨some 2, .mv (.t 4), none⟩]
def f148 : XF := ⟨5, [.t 2], .seq (.region f148.r0) (.seq (.region f148.r1) (.ret))⟩
/-! (*flyball/tree.writer).call -/
def f149.r0 : List XOper := [⟨some 6, .box 78 (.t 2), none⟩]
def f149.r1 : List XOper := [⟨some 8, .mv (.t 0), none⟩,
  ⟨some 9, .mv (.t 1), none⟩,
  ⟨some 10, .bslice 1 1 [.str []] [(0, 1, (.t 9))], none⟩,
  ⟨some 11, .call (.c (.fn (.func 97) [] [])) [.t 8, .t 10], none⟩]
def f149.r2 : List XOper := [⟨some 12, .mv (.t 0), none⟩,
  ⟨some 13, .load 7 true (.t 6), none⟩,
  ⟨some 14, .call (.c (.fn (.func 189) [] [])) [.t 12, .t 13, .c (.int .i64 0)], none⟩]
def f149.r3 : List XOper := [⟨some 15, .mv (.t 0), none⟩,
  ⟨some 16, .mv (.t 3), none⟩,
  ⟨some 17, .bslice 1 1 [.str []] [(0, 1, (.t 16))], none⟩,
  ⟨some 18, .call (.c (.fn (.func 97) [] [])) [.t 15, .t 17], none⟩]
def f149 : XF := ⟨19, [], .seq (.region f149.r0) (.seq (.region f149.r1) (.seq (.region f149.r2) (.region f149.r3)))⟩
/-! internal/strconv.Itoa -/
def f152.r0 : List XOper := [⟨some 2, .mv (.c (.str [])), none⟩]
def f152.r1 : List XOper := [⟨some 3, .mv (.t 0), none⟩,
  ⟨some 4, .call (.c (.fn (.func 192) [] [])) [.t 3, .c (.int .i64 10)], none⟩,
  ⟨some 2, .mv (.t 4), none⟩]
def f152 : XF := ⟨5, [.t 2], .seq (.region f152.r0) (.seq (.region f152.r1) (.ret))⟩
/-! (*strings.Builder).WriteString -/
def f151.r0 : List XOper := [⟨some 4, .mv (.c (.int .i64 0)), none⟩,
  ⟨some 5, .mv (.c (.nili)), none⟩]
def f151.r1 : List XOper := [⟨some 6, .mv (.t 0), none⟩,
  ⟨some 7, .call (.c (.fn (.func 191) [] [])) [.t 6], none⟩]
def f151.r2 : List XOper := [⟨some 8, .mv (.t 0), none⟩,
  ⟨some 9, .mv (.t 0), none⟩,
  ⟨some 10, .nilc (.t 9), none⟩,
  ⟨some 11, .faddr 1 (.t 10), none⟩,
  ⟨some 12, .load 1 false (.t 11), none⟩,
  ⟨some 13, .mv (.t 1), none⟩,
  ⟨some 14, .append true 1 1 5 (.t 12) (.t 13), none⟩,
  ⟨some 15, .nilc (.t 8), none⟩,
  ⟨some 16, .faddr 1 (.t 15), none⟩,
  ⟨none, .store 1 (.t 16) (.t 14), none⟩]
def f151.r3 : List XOper := [⟨some 17, .mv (.t 1), none⟩,
  ⟨some 18, .len true (.t 17), none⟩,
  ⟨some 4, .mv (.t 18), none⟩,
  ⟨some 5, .mv (.c (.nili)), none⟩]
def f151 : XF := ⟨19, [.t 4, .t 5], .seq (.region f151.r0) (.seq (.region f151.r1) (.seq (.region f151.r2) (.seq (.region f151.r3) (.ret))))⟩
/-! flyball/tree.kind -/
def f153.r0 : List XOper := [⟨some 2, .mv (.c (.str [])), none⟩]
def f153.r1 : List XOper := [⟨some 3, .mv (.t 0), none⟩]
def f153.r2 : List XOper := [⟨some 5, .bin .eql (.t 3) (.c (.int .u8 1)), none⟩,
  ⟨some 4, .mv (.t 5), none⟩]
def f153.r3 : List XOper := [⟨some 2, .mv (.c (.str [98, 111, 111, 108])), none⟩]
def f153.r4 : List XOper := [⟨some 7, .bin .eql (.t 3) (.c (.int .u8 2)), none⟩,
  ⟨some 6, .mv (.t 7), none⟩]
def f153.r5 : List XOper := [⟨some 2, .mv (.c (.str [105, 110, 116])), none⟩]
def f153.r6 : List XOper := [⟨some 9, .bin .eql (.t 3) (.c (.int .u8 3)), none⟩,
  ⟨some 8, .mv (.t 9), none⟩]
def f153.r7 : List XOper := [⟨some 2, .mv (.c (.str [102, 108, 111, 97, 116])), none⟩]
def f153.r8 : List XOper := [⟨some 2, .mv (.c (.str [])), none⟩]
def f153 : XF := ⟨10, [.t 2], .seq (.region f153.r0) (.seq (.seq (.region f153.r1) (.block 0 (.seq (.region f153.r2) (.cond (.t 4) (.seq (.region f153.r3) (.ret)) (.seq (.region f153.r4) (.cond (.t 6) (.seq (.region f153.r5) (.ret)) (.seq (.region f153.r6) (.cond (.t 8) (.seq (.region f153.r7) (.ret)) (.skip))))))))) (.seq (.region f153.r8) (.ret)))⟩
/-! (*flyball/tree.writer).stmt -/
def f154.r0 : List XOper := [⟨some 3, .box 80 (.t 1), none⟩]
def f154.r1 : List XOper := [⟨some 4, .faddr 0 (.t 3), none⟩,
  ⟨some 5, .load 1 false (.t 4), none⟩]
def f154.r2 : List XOper := [⟨some 7, .bin .eql (.t 5) (.c (.int .u8 1)), none⟩,
  ⟨some 6, .mv (.t 7), none⟩]
def f154.r3 : List XOper := [⟨some 8, .mv (.t 0), none⟩,
  ⟨some 9, .faddr 2 (.t 3), none⟩,
  ⟨some 10, .load 1 false (.t 9), none⟩,
  ⟨some 11, .bslice 1 1 [.str []] [(0, 1, (.t 10))], none⟩,
  ⟨some 12, .call (.c (.fn (.func 155) [] [])) [.t 8, .t 11], none⟩]
def f154.r4 : List XOper := [⟨some 13, .faddr 3 (.t 3), none⟩,
  ⟨some 14, .load 1 false (.t 13), none⟩,
  ⟨some 15, .len false (.t 14), none⟩,
  ⟨some 16, .bin .gtr (.t 15) (.c (.int .i64 0)), none⟩]
def f154.r5 : List XOper := [⟨some 17, .mv (.t 0), none⟩,
  ⟨some 18, .faddr 3 (.t 3), none⟩,
  ⟨some 19, .load 1 false (.t 18), none⟩,
  ⟨some 20, .iaddr 7 (.t 19) (.c (.int .i64 0)), none⟩,
  ⟨some 21, .load 7 true (.t 20), none⟩,
  ⟨some 22, .call (.c (.fn (.func 41) [] [])) [.t 21], none⟩,
  ⟨some 23, .bslice 1 3 [.str []] [(0, 1, (.c (.str [91]))), (1, 1, (.t 22)), (2, 1, (.c (.str [93])))], none⟩,
  ⟨some 24, .call (.c (.fn (.func 97) [] [])) [.t 17, .t 23], none⟩]
def f154.r6 : List XOper := [⟨some 25, .mv (.t 0), none⟩,
  ⟨some 26, .faddr 4 (.t 3), none⟩,
  ⟨some 27, .load 7 true (.t 26), none⟩,
  ⟨some 28, .call (.c (.fn (.func 41) [] [])) [.t 27], none⟩,
  ⟨some 29, .bslice 1 3 [.str []] [(0, 1, (.c (.str [32, 61, 32]))), (1, 1, (.t 28)), (2, 1, (.c (.str [59])))], none⟩,
  ⟨some 30, .call (.c (.fn (.func 97) [] [])) [.t 25, .t 29], none⟩]
def f154.r7 : List XOper := [⟨some 32, .bin .eql (.t 5) (.c (.int .u8 2)), none⟩,
  ⟨some 31, .mv (.t 32), none⟩]
def f154.r8 : List XOper := [⟨some 33, .mv (.t 0), none⟩,
  ⟨some 34, .faddr 4 (.t 3), none⟩,
  ⟨some 35, .load 7 true (.t 34), none⟩,
  ⟨some 36, .call (.c (.fn (.func 41) [] [])) [.t 35], none⟩,
  ⟨some 37, .bslice 1 2 [.str []] [(0, 1, (.c (.str [105, 102, 32]))), (1, 1, (.t 36))], none⟩,
  ⟨some 38, .call (.c (.fn (.func 155) [] [])) [.t 33, .t 37], none⟩]
def f154.r9 : List XOper := [⟨some 39, .mv (.t 0), none⟩,
  ⟨some 40, .faddr 13 (.t 3), none⟩,
  ⟨some 41, .load 1 false (.t 40), none⟩,
  ⟨some 42, .call (.c (.fn (.func 100) [] [])) [.t 39, .t 41], none⟩]
def f154.r10 : List XOper := [⟨some 43, .faddr 14 (.t 3), none⟩,
  ⟨some 44, .load 1 false (.t 43), none⟩,
  ⟨some 45, .len false (.t 44), none⟩,
  ⟨some 46, .bin .gtr (.t 45) (.c (.int .i64 0)), none⟩]
def f154.r11 : List XOper := [⟨some 47, .mv (.t 0), none⟩,
  ⟨some 48, .bslice 1 1 [.str []] [(0, 1, (.c (.str [32, 101, 108, 115, 101])))], none⟩,
  ⟨some 49, .call (.c (.fn (.func 97) [] [])) [.t 47, .t 48], none⟩]
def f154.r12 : List XOper := [⟨some 50, .mv (.t 0), none⟩,
  ⟨some 51, .faddr 14 (.t 3), none⟩,
  ⟨some 52, .load 1 false (.t 51), none⟩,
  ⟨some 53, .call (.c (.fn (.func 100) [] [])) [.t 50, .t 52], none⟩]
def f154.r13 : List XOper := [⟨some 55, .bin .eql (.t 5) (.c (.int .u8 3)), none⟩,
  ⟨some 54, .mv (.t 55), none⟩]
def f154.r14 : List XOper := [⟨some 56, .mv (.t 0), none⟩,
  ⟨some 57, .faddr 2 (.t 3), none⟩,
  ⟨some 58, .load 1 false (.t 57), none⟩,
  ⟨some 59, .faddr 11 (.t 3), none⟩,
  ⟨some 60, .load 1 false (.t 59), none⟩,
  ⟨some 61, .convI .i64 (.t 60), none⟩,
  ⟨some 62, .call (.c (.fn (.func 98) [] [])) [.t 61], none⟩,
  ⟨some 63, .faddr 12 (.t 3), none⟩,
  ⟨some 64, .load 1 false (.t 63), none⟩,
  ⟨some 65, .convI .i64 (.t 64), none⟩,
  ⟨some 66, .call (.c (.fn (.func 98) [] [])) [.t 65], none⟩,
  ⟨some 67, .bslice 1 6 [.str []] [(0, 1, (.c (.str [102, 111, 114, 32]))), (1, 1, (.t 58)), (2, 1, (.c (.str [32, 61, 32]))), (3, 1, (.t 62)), (4, 1, (.c (.str [32, 46, 46, 32]))), (5, 1, (.t 66))], none⟩,
  ⟨some 68, .call (.c (.fn (.func 155) [] [])) [.t 56, .t 67], none⟩]
def f154.r15 : List XOper := [⟨some 69, .mv (.t 0), none⟩,
  ⟨some 70, .faddr 13 (.t 3), none⟩,
  ⟨some 71, .load 1 false (.t 70), none⟩,
  ⟨some 72, .call (.c (.fn (.func 100) [] [])) [.t 69, .t 71], none⟩]
def f154.r16 : List XOper := [⟨some 73, .mv (.t 0), none⟩,
  ⟨some 74, .bslice 1 1 [.str []] [(0, 1, (.c (.str [10])))], none⟩,
  ⟨some 75, .call (.c (.fn (.func 97) [] [])) [.t 73, .t 74], none⟩]
def f154 : XF := ⟨76, [], .seq (.region f154.r0) (.seq (.seq (.region f154.r1) (.block 0 (.seq (.region f154.r2) (.cond (.t 6) (.seq (.region f154.r3) (.seq (.seq (.region f154.r4) (.cond (.t 16) (.region f154.r5) (.skip))) (.region f154.r6))) (.seq (.region f154.r7) (.cond (.t 31) (.seq (.region f154.r8) (.seq (.region f154.r9) (.seq (.region f154.r10) (.cond (.t 46) (.seq (.region f154.r11) (.region f154.r12)) (.skip))))) (.seq (.region f154.r13) (.cond (.t 54) (.seq (.regionD f154.r14 [0, 0, 2, 0, 8, 24, 56, 0, 128, 384, 1016, 2046, 4095]) (.region f154.r15)) (.ret))))))))) (.region f154.r16))⟩
/-! (*flyball/tree.writer).line -/
def f155.r0 : List XOper := [⟨some 4, .mv (.t 0), none⟩,
  ⟨some 5, .mv (.t 0), none⟩,
  ⟨some 6, .nilc (.t 5), none⟩,
  ⟨some 7, .faddr 2 (.t 6), none⟩,
  ⟨some 8, .load 1 false (.t 7), none⟩,
  ⟨some 9, .call (.c (.fn (.func 112) [] [])) [.c (.str [9]), .t 8], none⟩,
  ⟨some 10, .bslice 1 1 [.str []] [(0, 1, (.t 9))], none⟩,
  ⟨some 11, .call (.c (.fn (.func 97) [] [])) [.t 4, .t 10], none⟩]
def f155.r1 : List XOper := [⟨some 12, .mv (.t 0), none⟩,
  ⟨some 13, .mv (.t 1), none⟩,
  ⟨some 14, .call (.c (.fn (.func 97) [] [])) [.t 12, .t 13], none⟩]
def f155 : XF := ⟨15, [], .seq (.region f155.r0) (.region f155.r1)⟩
/-! (*flyball/tree.writer).arg -/
def f189.r0 : List XOper := [⟨some 4, .box 78 (.t 1), none⟩]
def f189.r1 : List XOper := [⟨some 6, .mv (.t 2), none⟩,
  ⟨some 7, .faddr 6 (.t 4), none⟩,
  ⟨some 8, .load 1 false (.t 7), none⟩,
  ⟨some 9, .len false (.t 8), none⟩,
  ⟨some 10, .bin .lss (.t 6) (.t 9), none⟩]
def f189.r2 : List XOper := [⟨some 11, .mv (.t 0), none⟩,
  ⟨some 12, .faddr 6 (.t 4), none⟩,
  ⟨some 13, .load 1 false (.t 12), none⟩,
  ⟨some 14, .mv (.t 2), none⟩,
  ⟨some 15, .iaddr 7 (.t 13) (.t 14), none⟩,
  ⟨some 16, .load 7 true (.t 15), none⟩,
  ⟨some 17, .call (.c (.fn (.func 91) [] [])) [.t 11, .t 16], none⟩]
def f189 : XF := ⟨18, [], .seq (.region f189.r0) (.seq (.region f189.r1) (.cond (.t 10) (.region f189.r2) (.skip)))⟩
/-! internal/strconv.FormatBool -/
def f190.r0 : List XOper := [⟨some 2, .mv (.c (.str [])), none⟩]
def f190.r1 : List XOper := [⟨some 3, .mv (.t 0), none⟩]
def f190.r2 : List XOper := [⟨some 2, .mv (.c (.str [116, 114, 117, 101])), none⟩]
def f190.r3 : List XOper := [⟨some 2, .mv (.c (.str [102, 97, 108, 115, 101])), none⟩]
def f190 : XF := ⟨4, [.t 2], .seq (.region f190.r0) (.seq (.seq (.region f190.r1) (.cond (.t 3) (.seq (.region f190.r2) (.ret)) (.skip))) (.seq (.region f190.r3) (.ret)))⟩
/-! internal/strconv.FormatInt -/
def f192.r0 : List XOper := [⟨some 4, .mv (.c (.str [])), none⟩]
def f192.r1 : List XOper := [⟨some 10, .mv (.t 1), none⟩,
  ⟨some 11, .bin .eql (.t 10) (.c (.int .i64 10)), none⟩]
def f192.r2 : List XOper := [⟨some 12, .mv (.t 0), none⟩,
  ⟨some 13, .bin .leq (.c (.int .i64 0)) (.t 12), none⟩,
  ⟨some 14, .mv (.t 13), none⟩,
  ⟨some 15, .mv (.t 0), some (14, true)⟩,
  ⟨some 16, .bin .lss (.t 15) (.c (.int .i64 100)), some (14, true)⟩,
  ⟨some 17, .pick (.t 14) (.t 16) (.c (.bool false)), none⟩]
def f192.r3 : List XOper := [⟨some 18, .mv (.t 0), none⟩,
  ⟨some 19, .call (.c (.fn (.func 213) [] [])) [.t 18], none⟩,
  ⟨some 4, .mv (.t 19), none⟩]
def f192.r4 : List XOper := [⟨some 5, .alloc 248 [.int .u8 0, .int .u8 0, .int .u8 0, .int .u8 0, .int .u8 0, .int .u8 0, .int .u8 0, .int .u8 0, .int .u8 0, .int .u8 0, .int .u8 0, .int .u8 0, .int .u8 0, .int .u8 0, .int .u8 0, .int .u8 0, .int .u8 0, .int .u8 0, .int .u8 0, .int .u8 0, .int .u8 0, .int .u8 0, .int .u8 0, .int .u8 0], none⟩]
def f192.r5 : List XOper := [⟨some 20, .mv (.t 0), none⟩,
  ⟨some 21, .convI .u64 (.t 20), none⟩,
  ⟨some 6, .mv (.t 21), none⟩]
def f192.r6 : List XOper := [⟨some 22, .mv (.t 0), none⟩,
  ⟨some 23, .bin .lss (.t 22) (.c (.int .i64 0)), none⟩]
def f192.r7 : List XOper := [⟨some 24, .mv (.t 6), none⟩,
  ⟨some 25, .un .neg (.t 24), none⟩,
  ⟨some 6, .mv (.t 25), none⟩]
def f192.r8 : List XOper := [⟨some 26, .mv (.t 6), none⟩,
  ⟨some 27, .call (.c (.fn (.func 214) [] [])) [.t 26], none⟩,
  ⟨some 7, .mv (.t 27), none⟩]
def f192.r9 : List XOper := [⟨some 28, .mv (.t 7), none⟩,
  ⟨some 29, .bin .add (.c (.int .i64 1)) (.t 28), none⟩,
  ⟨some 30, .sliceA 24 1 (.t 5) (some (.c (.int .i64 1))) (some (.t 29)), none⟩,
  ⟨some 31, .mv (.t 6), none⟩,
  ⟨some 32, .call (.c (.fn (.func 215) [] [])) [.t 30, .t 31], none⟩]
def f192.r10 : List XOper := [⟨some 33, .mv (.t 0), none⟩,
  ⟨some 34, .bin .lss (.t 33) (.c (.int .i64 0)), none⟩]
def f192.r11 : List XOper := [⟨some 35, .iaddrA 24 1 (.t 5) (.c (.int .i64 0)), none⟩,
  ⟨none, .store 1 (.t 35) (.c (.int .u8 45)), none⟩]
def f192.r12 : List XOper := [⟨some 36, .mv (.t 7), none⟩,
  ⟨some 37, .bin .add (.c (.int .i64 1)) (.t 36), none⟩,
  ⟨some 38, .sliceA 24 1 (.t 5) none (some (.t 37)), none⟩,
  ⟨some 39, .convB (.t 38), none⟩,
  ⟨some 4, .mv (.t 39), none⟩]
def f192.r13 : List XOper := [⟨some 40, .mv (.t 7), none⟩,
  ⟨some 41, .bin .add (.c (.int .i64 1)) (.t 40), none⟩,
  ⟨some 42, .sliceA 24 1 (.t 5) (some (.c (.int .i64 1))) (some (.t 41)), none⟩,
  ⟨some 43, .convB (.t 42), none⟩,
  ⟨some 4, .mv (.t 43), none⟩]
def f192.r14 : List XOper := [⟨some 45, .mv (.t 0), none⟩,
  ⟨some 46, .convI .u64 (.t 45), none⟩,
  ⟨some 47, .mv (.t 1), none⟩,
  ⟨some 48, .mv (.t 0), none⟩,
  ⟨some 49, .bin .lss (.t 48) (.c (.int .i64 0)), none⟩,
  ⟨some 50, .call (.c (.fn (.func 216) [] [])) [.c (.nils), .t 46, .t 47, .t 49, .c (.bool false)], none⟩,
  ⟨some 44, .mv (.t 50), none⟩,
  ⟨some 51, .extract (.t 44) 0, none⟩,
  ⟨some 52, .extract (.t 44) 1, none⟩,
  ⟨some 8, .mv (.t 51), none⟩,
  ⟨some 9, .mv (.t 52), none⟩]
def f192.r15 : List XOper := [⟨some 53, .mv (.t 9), none⟩,
  ⟨some 4, .mv (.t 53), none⟩]
def f192 : XF := ⟨54, [.t 4], .seq (.region f192.r0) (.seq (.seq (.region f192.r1) (.cond (.t 11) (.seq (.seq (.region f192.r2) (.cond (.t 17) (.seq (.region f192.r3) (.ret)) (.skip))) (.seq (.region f192.r4) (.seq (.region f192.r5) (.seq (.seq (.region f192.r6) (.cond (.t 23) (.region f192.r7) (.skip))) (.seq (.region f192.r8) (.seq (.region f192.r9) (.seq (.seq (.region f192.r10) (.cond (.t 34) (.seq (.region f192.r11) (.seq (.region f192.r12) (.ret))) (.skip))) (.seq (.region f192.r13) (.ret))))))))) (.skip))) (.seq (.region f192.r14) (.seq (.region f192.r15) (.ret))))⟩
/-! (*strings.Builder).copyCheck -/
def f191.r0 : List XOper := [⟨some 2, .mv (.t 0), none⟩,
  ⟨some 3, .nilc (.t 2), none⟩,
  ⟨some 4, .faddr 0 (.t 3), none⟩,
  ⟨some 5, .load 1 false (.t 4), none⟩,
  ⟨some 6, .eq false .nilP (.t 5) (.c (.nilp)), none⟩]
def f191.r1 : List XOper := [⟨some 7, .mv (.t 0), none⟩,
  ⟨some 8, .mv (.t 0), none⟩,
  ⟨some 9, .toU (.t 8), none⟩,
  ⟨some 10, .mv (.t 9), none⟩,
  ⟨some 11, .fromU [(130, 2), (131, 2), (132, 3), (133, 3)] (.t 10), none⟩,
  ⟨some 12, .nilc (.t 7), none⟩,
  ⟨some 13, .faddr 0 (.t 12), none⟩,
  ⟨none, .store 1 (.t 13) (.t 11), none⟩]
def f191.r2 : List XOper := [⟨some 14, .mv (.t 0), none⟩,
  ⟨some 15, .nilc (.t 14), none⟩,
  ⟨some 16, .faddr 0 (.t 15), none⟩,
  ⟨some 17, .load 1 false (.t 16), none⟩,
  ⟨some 18, .mv (.t 0), none⟩,
  ⟨some 19, .eqP true (.t 17) (.t 18), none⟩]
def f191 : XF := ⟨20, [], .seq (.region f191.r0) (.cond (.t 6) (.region f191.r1) (.seq (.region f191.r2) (.cond (.t 19) (.stuck) (.skip))))⟩
/-! strings.Repeat -/
def f112.r0 : List XOper := [⟨some 4, .mv (.c (.str [])), none⟩]
def f112.r1 : List XOper := [⟨some 11, .mv (.t 1), none⟩]
def f112.r2 : List XOper := [⟨some 13, .bin .eql (.t 11) (.c (.int .i64 0)), none⟩,
  ⟨some 12, .mv (.t 13), none⟩]
def f112.r3 : List XOper := [⟨some 4, .mv (.c (.str [])), none⟩]
def f112.r4 : List XOper := [⟨some 15, .bin .eql (.t 11) (.c (.int .i64 1)), none⟩,
  ⟨some 14, .mv (.t 15), none⟩]
def f112.r5 : List XOper := [⟨some 16, .mv (.t 0), none⟩,
  ⟨some 4, .mv (.t 16), none⟩]
def f112.r6 : List XOper := [⟨some 17, .mv (.t 1), none⟩,
  ⟨some 18, .bin .lss (.t 17) (.c (.int .i64 0)), none⟩]
def f112.r7 : List XOper := [⟨some 19, .mkif 9 (.c (.str [115, 116, 114, 105, 110, 103, 115, 58, 32, 110, 101, 103, 97, 116, 105, 118, 101, 32, 82, 101, 112, 101, 97, 116, 32, 99, 111, 117, 110, 116])), none⟩,
  ⟨none, .panic (.t 19), none⟩]
def f112.r8 : List XOper := [⟨some 21, .mv (.t 0), none⟩,
  ⟨some 22, .len true (.t 21), none⟩,
  ⟨some 23, .convI .u64 (.t 22), none⟩,
  ⟨some 24, .mv (.t 1), none⟩,
  ⟨some 25, .convI .u64 (.t 24), none⟩,
  ⟨some 26, .call (.c (.fn (.func 157) [] [])) [.t 23, .t 25], none⟩,
  ⟨some 20, .mv (.t 26), none⟩,
  ⟨some 27, .extract (.t 20) 0, none⟩,
  ⟨some 28, .extract (.t 20) 1, none⟩,
  ⟨some 5, .mv (.t 27), none⟩,
  ⟨some 6, .mv (.t 28), none⟩]
def f112.r9 : List XOper := [⟨some 29, .mv (.t 5), none⟩,
  ⟨some 30, .bin .gtr (.t 29) (.c (.int .u64 0)), none⟩,
  ⟨some 31, .mv (.t 30), none⟩,
  ⟨some 32, .mv (.t 6), some (31, false)⟩,
  ⟨some 33, .bin .gtr (.t 32) (.c (.int .u64 9223372036854775807)), some (31, false)⟩,
  ⟨some 34, .pick (.t 31) (.c (.bool true)) (.t 33), none⟩]
def f112.r10 : List XOper := [⟨some 35, .mkif 9 (.c (.str [115, 116, 114, 105, 110, 103, 115, 58, 32, 82, 101, 112, 101, 97, 116, 32, 111, 117, 116, 112, 117, 116, 32, 108, 101, 110, 103, 116, 104, 32, 111, 118, 101, 114, 102, 108, 111, 119])), none⟩,
  ⟨none, .panic (.t 35), none⟩]
def f112.r11 : List XOper := [⟨some 36, .mv (.t 6), none⟩,
  ⟨some 37, .convI .i64 (.t 36), none⟩,
  ⟨some 7, .mv (.t 37), none⟩]
def f112.r12 : List XOper := [⟨some 38, .mv (.t 0), none⟩,
  ⟨some 39, .len true (.t 38), none⟩,
  ⟨some 40, .bin .eql (.t 39) (.c (.int .i64 0)), none⟩]
def f112.r13 : List XOper := [⟨some 4, .mv (.c (.str [])), none⟩]
def f112.r14 : List XOper := [⟨some 41, .mv (.t 0), none⟩,
  ⟨some 42, .idxS (.t 41) (.c (.int .i64 0)), none⟩]
def f112.r15 : List XOper := [⟨some 44, .bin .eql (.t 42) (.c (.int .u8 32)), none⟩,
  ⟨some 43, .mv (.t 44), none⟩]
def f112.r16 : List XOper := [⟨some 45, .bin .eql (.t 42) (.c (.int .u8 45)), none⟩,
  ⟨some 43, .mv (.t 45), none⟩]
def f112.r17 : List XOper := [⟨some 46, .bin .eql (.t 42) (.c (.int .u8 48)), none⟩,
  ⟨some 43, .mv (.t 46), none⟩]
def f112.r18 : List XOper := [⟨some 47, .bin .eql (.t 42) (.c (.int .u8 61)), none⟩,
  ⟨some 43, .mv (.t 47), none⟩]
def f112.r19 : List XOper := [⟨some 48, .bin .eql (.t 42) (.c (.int .u8 9)), none⟩,
  ⟨some 43, .mv (.t 48), none⟩]
def f112.r20 : List XOper := [⟨some 50, .mv (.t 7), none⟩,
  ⟨some 51, .bin .leq (.t 50) (.c (.int .i64 128)), none⟩,
  ⟨some 52, .mv (.t 51), none⟩,
  ⟨some 53, .mv (.t 0), some (52, true)⟩,
  ⟨some 54, .call (.c (.fn (.func 136) [] [])) [.c (.str [32, 32, 32, 32, 32, 32, 32, 32, 32, 32, 32, 32, 32, 32, 32, 32, 32, 32, 32, 32, 32, 32, 32, 32, 32, 32, 32, 32, 32, 32, 32, 32, 32, 32, 32, 32, 32, 32, 32, 32, 32, 32, 32, 32, 32, 32, 32, 32, 32, 32, 32, 32, 32, 32, 32, 32, 32, 32, 32, 32, 32, 32, 32, 32, 32, 32, 32, 32, 32, 32, 32, 32, 32, 32, 32, 32, 32, 32, 32, 32, 32, 32, 32, 32, 32, 32, 32, 32, 32, 32, 32, 32, 32, 32, 32, 32, 32, 32, 32, 32, 32, 32, 32, 32, 32, 32, 32, 32, 32, 32, 32, 32, 32, 32, 32, 32, 32, 32, 32, 32, 32, 32, 32, 32, 32, 32, 32, 32]), .t 53], some (52, true)⟩,
  ⟨some 55, .pick (.t 52) (.t 54) (.c (.bool false)), none⟩,
  ⟨some 49, .mv (.t 55), none⟩]
def f112.r21 : List XOper := [⟨some 56, .mv (.t 7), none⟩,
  ⟨some 57, .slice true 0 (.c (.str [32, 32, 32, 32, 32, 32, 32, 32, 32, 32, 32, 32, 32, 32, 32, 32, 32, 32, 32, 32, 32, 32, 32, 32, 32, 32, 32, 32, 32, 32, 32, 32, 32, 32, 32, 32, 32, 32, 32, 32, 32, 32, 32, 32, 32, 32, 32, 32, 32, 32, 32, 32, 32, 32, 32, 32, 32, 32, 32, 32, 32, 32, 32, 32, 32, 32, 32, 32, 32, 32, 32, 32, 32, 32, 32, 32, 32, 32, 32, 32, 32, 32, 32, 32, 32, 32, 32, 32, 32, 32, 32, 32, 32, 32, 32, 32, 32, 32, 32, 32, 32, 32, 32, 32, 32, 32, 32, 32, 32, 32, 32, 32, 32, 32, 32, 32, 32, 32, 32, 32, 32, 32, 32, 32, 32, 32, 32, 32])) none (some (.t 56)), none⟩,
  ⟨some 4, .mv (.t 57), none⟩]
def f112.r22 : List XOper := [⟨some 59, .mv (.t 7), none⟩,
  ⟨some 60, .bin .leq (.t 59) (.c (.int .i64 128)), none⟩,
  ⟨some 61, .mv (.t 60), none⟩,
  ⟨some 62, .mv (.t 0), some (61, true)⟩,
  ⟨some 63, .call (.c (.fn (.func 136) [] [])) [.c (.str [45, 45, 45, 45, 45, 45, 45, 45, 45, 45, 45, 45, 45, 45, 45, 45, 45, 45, 45, 45, 45, 45, 45, 45, 45, 45, 45, 45, 45, 45, 45, 45, 45, 45, 45, 45, 45, 45, 45, 45, 45, 45, 45, 45, 45, 45, 45, 45, 45, 45, 45, 45, 45, 45, 45, 45, 45, 45, 45, 45, 45, 45, 45, 45, 45, 45, 45, 45, 45, 45, 45, 45, 45, 45, 45, 45, 45, 45, 45, 45, 45, 45, 45, 45, 45, 45, 45, 45, 45, 45, 45, 45, 45, 45, 45, 45, 45, 45, 45, 45, 45, 45, 45, 45, 45, 45, 45, 45, 45, 45, 45, 45, 45, 45, 45, 45, 45, 45, 45, 45, 45, 45, 45, 45, 45, 45, 45, 45]), .t 62], some (61, true)⟩,
  ⟨some 64, .pick (.t 61) (.t 63) (.c (.bool false)), none⟩,
  ⟨some 58, .mv (.t 64), none⟩]
def f112.r23 : List XOper := [⟨some 65, .mv (.t 7), none⟩,
  ⟨some 66, .slice true 0 (.c (.str [45, 45, 45, 45, 45, 45, 45, 45, 45, 45, 45, 45, 45, 45, 45, 45, 45, 45, 45, 45, 45, 45, 45, 45, 45, 45, 45, 45, 45, 45, 45, 45, 45, 45, 45, 45, 45, 45, 45, 45, 45, 45, 45, 45, 45, 45, 45, 45, 45, 45, 45, 45, 45, 45, 45, 45, 45, 45, 45, 45, 45, 45, 45, 45, 45, 45, 45, 45, 45, 45, 45, 45, 45, 45, 45, 45, 45, 45, 45, 45, 45, 45, 45, 45, 45, 45, 45, 45, 45, 45, 45, 45, 45, 45, 45, 45, 45, 45, 45, 45, 45, 45, 45, 45, 45, 45, 45, 45, 45, 45, 45, 45, 45, 45, 45, 45, 45, 45, 45, 45, 45, 45, 45, 45, 45, 45, 45, 45])) none (some (.t 65)), none⟩,
  ⟨some 4, .mv (.t 66), none⟩]
def f112.r24 : List XOper := [⟨some 68, .mv (.t 7), none⟩,
  ⟨some 69, .bin .leq (.t 68) (.c (.int .i64 64)), none⟩,
  ⟨some 70, .mv (.t 69), none⟩,
  ⟨some 71, .mv (.t 0), some (70, true)⟩,
  ⟨some 72, .call (.c (.fn (.func 136) [] [])) [.c (.str [48, 48, 48, 48, 48, 48, 48, 48, 48, 48, 48, 48, 48, 48, 48, 48, 48, 48, 48, 48, 48, 48, 48, 48, 48, 48, 48, 48, 48, 48, 48, 48, 48, 48, 48, 48, 48, 48, 48, 48, 48, 48, 48, 48, 48, 48, 48, 48, 48, 48, 48, 48, 48, 48, 48, 48, 48, 48, 48, 48, 48, 48, 48, 48]), .t 71], some (70, true)⟩,
  ⟨some 73, .pick (.t 70) (.t 72) (.c (.bool false)), none⟩,
  ⟨some 67, .mv (.t 73), none⟩]
def f112.r25 : List XOper := [⟨some 74, .mv (.t 7), none⟩,
  ⟨some 75, .slice true 0 (.c (.str [48, 48, 48, 48, 48, 48, 48, 48, 48, 48, 48, 48, 48, 48, 48, 48, 48, 48, 48, 48, 48, 48, 48, 48, 48, 48, 48, 48, 48, 48, 48, 48, 48, 48, 48, 48, 48, 48, 48, 48, 48, 48, 48, 48, 48, 48, 48, 48, 48, 48, 48, 48, 48, 48, 48, 48, 48, 48, 48, 48, 48, 48, 48, 48])) none (some (.t 74)), none⟩,
  ⟨some 4, .mv (.t 75), none⟩]
def f112.r26 : List XOper := [⟨some 77, .mv (.t 7), none⟩,
  ⟨some 78, .bin .leq (.t 77) (.c (.int .i64 128)), none⟩,
  ⟨some 79, .mv (.t 78), none⟩,
  ⟨some 80, .mv (.t 0), some (79, true)⟩,
  ⟨some 81, .call (.c (.fn (.func 136) [] [])) [.c (.str [61, 61, 61, 61, 61, 61, 61, 61, 61, 61, 61, 61, 61, 61, 61, 61, 61, 61, 61, 61, 61, 61, 61, 61, 61, 61, 61, 61, 61, 61, 61, 61, 61, 61, 61, 61, 61, 61, 61, 61, 61, 61, 61, 61, 61, 61, 61, 61, 61, 61, 61, 61, 61, 61, 61, 61, 61, 61, 61, 61, 61, 61, 61, 61, 61, 61, 61, 61, 61, 61, 61, 61, 61, 61, 61, 61, 61, 61, 61, 61, 61, 61, 61, 61, 61, 61, 61, 61, 61, 61, 61, 61, 61, 61, 61, 61, 61, 61, 61, 61, 61, 61, 61, 61, 61, 61, 61, 61, 61, 61, 61, 61, 61, 61, 61, 61, 61, 61, 61, 61, 61, 61, 61, 61, 61, 61, 61, 61]), .t 80], some (79, true)⟩,
  ⟨some 82, .pick (.t 79) (.t 81) (.c (.bool false)), none⟩,
  ⟨some 76, .mv (.t 82), none⟩]
def f112.r27 : List XOper := [⟨some 83, .mv (.t 7), none⟩,
  ⟨some 84, .slice true 0 (.c (.str [61, 61, 61, 61, 61, 61, 61, 61, 61, 61, 61, 61, 61, 61, 61, 61, 61, 61, 61, 61, 61, 61, 61, 61, 61, 61, 61, 61, 61, 61, 61, 61, 61, 61, 61, 61, 61, 61, 61, 61, 61, 61, 61, 61, 61, 61, 61, 61, 61, 61, 61, 61, 61, 61, 61, 61, 61, 61, 61, 61, 61, 61, 61, 61, 61, 61, 61, 61, 61, 61, 61, 61, 61, 61, 61, 61, 61, 61, 61, 61, 61, 61, 61, 61, 61, 61, 61, 61, 61, 61, 61, 61, 61, 61, 61, 61, 61, 61, 61, 61, 61, 61, 61, 61, 61, 61, 61, 61, 61, 61, 61, 61, 61, 61, 61, 61, 61, 61, 61, 61, 61, 61, 61, 61, 61, 61, 61, 61])) none (some (.t 83)), none⟩,
  ⟨some 4, .mv (.t 84), none⟩]
def f112.r28 : List XOper := [⟨some 86, .mv (.t 7), none⟩,
  ⟨some 87, .bin .leq (.t 86) (.c (.int .i64 64)), none⟩,
  ⟨some 88, .mv (.t 87), none⟩,
  ⟨some 89, .mv (.t 0), some (88, true)⟩,
  ⟨some 90, .call (.c (.fn (.func 136) [] [])) [.c (.str [9, 9, 9, 9, 9, 9, 9, 9, 9, 9, 9, 9, 9, 9, 9, 9, 9, 9, 9, 9, 9, 9, 9, 9, 9, 9, 9, 9, 9, 9, 9, 9, 9, 9, 9, 9, 9, 9, 9, 9, 9, 9, 9, 9, 9, 9, 9, 9, 9, 9, 9, 9, 9, 9, 9, 9, 9, 9, 9, 9, 9, 9, 9, 9]), .t 89], some (88, true)⟩,
  ⟨some 91, .pick (.t 88) (.t 90) (.c (.bool false)), none⟩,
  ⟨some 85, .mv (.t 91), none⟩]
def f112.r29 : List XOper := [⟨some 92, .mv (.t 7), none⟩,
  ⟨some 93, .slice true 0 (.c (.str [9, 9, 9, 9, 9, 9, 9, 9, 9, 9, 9, 9, 9, 9, 9, 9, 9, 9, 9, 9, 9, 9, 9, 9, 9, 9, 9, 9, 9, 9, 9, 9, 9, 9, 9, 9, 9, 9, 9, 9, 9, 9, 9, 9, 9, 9, 9, 9, 9, 9, 9, 9, 9, 9, 9, 9, 9, 9, 9, 9, 9, 9, 9, 9])) none (some (.t 92)), none⟩,
  ⟨some 4, .mv (.t 93), none⟩]
def f112.r30 : List XOper := [⟨some 94, .mv (.t 7), none⟩,
  ⟨some 8, .mv (.t 94), none⟩]
def f112.r31 : List XOper := [⟨some 95, .mv (.t 7), none⟩,
  ⟨some 96, .bin .gtr (.t 95) (.c (.int .i64 8192)), none⟩]
def f112.r32 : List XOper := [⟨some 97, .mv (.t 0), none⟩,
  ⟨some 98, .len true (.t 97), none⟩,
  ⟨some 99, .bin .quo (.c (.int .i64 8192)) (.t 98), none⟩,
  ⟨some 100, .mv (.t 0), none⟩,
  ⟨some 101, .len true (.t 100), none⟩,
  ⟨some 102, .bin .mul (.t 99) (.t 101), none⟩,
  ⟨some 8, .mv (.t 102), none⟩]
def f112.r33 : List XOper := [⟨some 103, .mv (.t 8), none⟩,
  ⟨some 104, .bin .eql (.t 103) (.c (.int .i64 0)), none⟩]
def f112.r34 : List XOper := [⟨some 105, .mv (.t 0), none⟩,
  ⟨some 106, .len true (.t 105), none⟩,
  ⟨some 8, .mv (.t 106), none⟩]
def f112.r35 : List XOper := [⟨some 9, .alloc 131 [.nilp, .nils], none⟩]
def f112.r36 : List XOper := [⟨some 107, .mv (.t 7), none⟩,
  ⟨some 108, .call (.c (.fn (.func 158) [] [])) [.t 9, .t 107], none⟩]
def f112.r37 : List XOper := [⟨some 109, .mv (.t 0), none⟩,
  ⟨some 110, .call (.c (.fn (.func 151) [] [])) [.t 9, .t 109], none⟩]
def f112.r38 : List XOper := [⟨some 111, .call (.c (.fn (.func 159) [] [])) [.t 9], none⟩,
  ⟨some 112, .mv (.t 7), none⟩,
  ⟨some 113, .bin .lss (.t 111) (.t 112), none⟩]
def f112.r39 : List XOper := [⟨some 114, .mv (.t 7), none⟩,
  ⟨some 115, .call (.c (.fn (.func 159) [] [])) [.t 9], none⟩,
  ⟨some 116, .bin .sub (.t 114) (.t 115), none⟩,
  ⟨some 117, .call (.c (.fn (.func 159) [] [])) [.t 9], none⟩,
  ⟨some 118, .mv (.t 8), none⟩,
  ⟨some 119, .min [.t 116, .t 117, .t 118], none⟩,
  ⟨some 10, .mv (.t 119), none⟩]
def f112.r40 : List XOper := [⟨some 120, .call (.c (.fn (.func 92) [] [])) [.t 9], none⟩,
  ⟨some 121, .mv (.t 10), none⟩,
  ⟨some 122, .slice true 0 (.t 120) none (some (.t 121)), none⟩,
  ⟨some 123, .call (.c (.fn (.func 151) [] [])) [.t 9, .t 122], none⟩]
def f112.r41 : List XOper := [⟨some 124, .call (.c (.fn (.func 92) [] [])) [.t 9], none⟩,
  ⟨some 4, .mv (.t 124), none⟩]
def f112 : XF := ⟨125, [.t 4], .seq (.region f112.r0) (.seq (.seq (.region f112.r1) (.block 0 (.seq (.region f112.r2) (.cond (.t 12) (.seq (.region f112.r3) (.ret)) (.seq (.region f112.r4) (.cond (.t 14) (.seq (.region f112.r5) (.ret)) (.skip))))))) (.seq (.seq (.region f112.r6) (.cond (.t 18) (.region f112.r7) (.skip))) (.seq (.region f112.r8) (.seq (.seq (.region f112.r9) (.cond (.t 34) (.region f112.r10) (.skip))) (.seq (.region f112.r11) (.seq (.seq (.region f112.r12) (.cond (.t 40) (.seq (.region f112.r13) (.ret)) (.skip))) (.seq (.seq (.region f112.r14) (.block 1 (.seq (.seq (.region f112.r15) (.cond (.t 43) (.skip) (.seq (.region f112.r16) (.cond (.t 43) (.skip) (.seq (.region f112.r17) (.cond (.t 43) (.skip) (.seq (.region f112.r18) (.cond (.t 43) (.skip) (.region f112.r19))))))))) (.cond (.t 43) (.block 2 (.seq (.region f112.r20) (.cond (.t 49) (.seq (.region f112.r21) (.ret)) (.seq (.region f112.r22) (.cond (.t 58) (.seq (.region f112.r23) (.ret)) (.seq (.region f112.r24) (.cond (.t 67) (.seq (.region f112.r25) (.ret)) (.seq (.region f112.r26) (.cond (.t 76) (.seq (.region f112.r27) (.ret)) (.seq (.region f112.r28) (.cond (.t 85) (.seq (.region f112.r29) (.ret)) (.skip)))))))))))) (.skip))))) (.seq (.region f112.r30) (.seq (.seq (.region f112.r31) (.cond (.t 96) (.seq (.region f112.r32) (.seq (.region f112.r33) (.cond (.t 104) (.region f112.r34) (.skip)))) (.skip))) (.seq (.region f112.r35) (.seq (.region f112.r36) (.seq (.region f112.r37) (.seq (.block 3 (.loop (.seq (.seq (.region f112.r38) (.cond (.t 113) (.skip) (.exit 3))) (.block 4 (.seq (.region f112.r39) (.region f112.r40)))))) (.seq (.region f112.r41) (.ret)))))))))))))))⟩
/-! internal/strconv.small -/
def f213.r0 : List XOper := [⟨some 2, .mv (.c (.str [])), none⟩]
def f213.r1 : List XOper := [⟨some 3, .mv (.t 0), none⟩,
  ⟨some 4, .bin .lss (.t 3) (.c (.int .i64 10)), none⟩]
def f213.r2 : List XOper := [⟨some 5, .mv (.t 0), none⟩,
  ⟨some 6, .mv (.t 0), none⟩,
  ⟨some 7, .bin .add (.t 6) (.c (.int .i64 1)), none⟩,
  ⟨some 8, .slice true 0 (.c (.str [48, 49, 50, 51, 52, 53, 54, 55, 56, 57, 97, 98, 99, 100, 101, 102, 103, 104, 105, 106, 107, 108, 109, 110, 111, 112, 113, 114, 115, 116, 117, 118, 119, 120, 121, 122])) (some (.t 5)) (some (.t 7)), none⟩,
  ⟨some 2, .mv (.t 8), none⟩]
def f213.r3 : List XOper := [⟨some 9, .mv (.t 0), none⟩,
  ⟨some 10, .bin .mul (.t 9) (.c (.int .i64 2)), none⟩,
  ⟨some 11, .mv (.t 0), none⟩,
  ⟨some 12, .bin .mul (.t 11) (.c (.int .i64 2)), none⟩,
  ⟨some 13, .bin .add (.t 12) (.c (.int .i64 2)), none⟩,
  ⟨some 14, .slice true 0 (.c (.str [48, 48, 48, 49, 48, 50, 48, 51, 48, 52, 48, 53, 48, 54, 48, 55, 48, 56, 48, 57, 49, 48, 49, 49, 49, 50, 49, 51, 49, 52, 49, 53, 49, 54, 49, 55, 49, 56, 49, 57, 50, 48, 50, 49, 50, 50, 50, 51, 50, 52, 50, 53, 50, 54, 50, 55, 50, 56, 50, 57, 51, 48, 51, 49, 51, 50, 51, 51, 51, 52, 51, 53, 51, 54, 51, 55, 51, 56, 51, 57, 52, 48, 52, 49, 52, 50, 52, 51, 52, 52, 52, 53, 52, 54, 52, 55, 52, 56, 52, 57, 53, 48, 53, 49, 53, 50, 53, 51, 53, 52, 53, 53, 53, 54, 53, 55, 53, 56, 53, 57, 54, 48, 54, 49, 54, 50, 54, 51, 54, 52, 54, 53, 54, 54, 54, 55, 54, 56, 54, 57, 55, 48, 55, 49, 55, 50, 55, 51, 55, 52, 55, 53, 55, 54, 55, 55, 55, 56, 55, 57, 56, 48, 56, 49, 56, 50, 56, 51, 56, 52, 56, 53, 56, 54, 56, 55, 56, 56, 56, 57, 57, 48, 57, 49, 57, 50, 57, 51, 57, 52, 57, 53, 57, 54, 57, 55, 57, 56, 57, 57])) (some (.t 10)) (some (.t 13)), none⟩,
  ⟨some 2, .mv (.t 14), none⟩]
def f213 : XF := ⟨15, [.t 2], .seq (.region f213.r0) (.seq (.seq (.region f213.r1) (.cond (.t 4) (.seq (.region f213.r2) (.ret)) (.skip))) (.seq (.region f213.r3) (.ret)))⟩
/-! flyball/flyballref10.Weigh -/
def f39.r0 : List XOper := [⟨some 2, .box 66 (.t 0), none⟩,
  ⟨some 4, .mv (.c (.int .i64 0)), none⟩]
def f39.r1 : List XOper := [⟨some 5, .mv (.c (.int .i64 0)), none⟩]
def f39.r2 : List XOper := [⟨some 6, .mv (.c (.int .i64 0)), none⟩]
def f39.r3 : List XOper := [⟨some 7, .mv (.t 6), none⟩,
  ⟨some 8, .faddr 1 (.t 2), none⟩,
  ⟨some 9, .load 1 false (.t 8), none⟩,
  ⟨some 10, .len false (.t 9), none⟩,
  ⟨some 11, .bin .lss (.t 7) (.t 10), none⟩,
  ⟨some 12, .mv (.t 11), none⟩,
  ⟨some 13, .mv (.t 5), some (12, true)⟩,
  ⟨some 14, .mv (.t 1), some (12, true)⟩,
  ⟨some 15, .bin .leq (.t 13) (.t 14), some (12, true)⟩,
  ⟨some 16, .pick (.t 12) (.t 15) (.c (.bool false)), none⟩]
def f39.r4 : List XOper := [⟨some 19, .mv (.t 5), none⟩,
  ⟨some 20, .bin .add (.t 19) (.c (.int .i64 1)), none⟩,
  ⟨some 21, .faddr 1 (.t 2), none⟩,
  ⟨some 22, .load 1 false (.t 21), none⟩,
  ⟨some 23, .mv (.t 6), none⟩,
  ⟨some 24, .iaddr 20 (.t 22) (.t 23), none⟩,
  ⟨some 25, .faddr 2 (.t 24), none⟩,
  ⟨some 26, .load 1 false (.t 25), none⟩,
  ⟨some 27, .len true (.t 26), none⟩,
  ⟨some 28, .mv (.t 1), none⟩,
  ⟨some 29, .bin .add (.t 28) (.c (.int .i64 1)), none⟩,
  ⟨some 30, .min [.t 27, .t 29], none⟩,
  ⟨some 31, .bin .add (.t 20) (.t 30), none⟩,
  ⟨some 5, .mv (.t 31), none⟩]
def f39.r5 : List XOper := [⟨some 32, .mv (.t 5), none⟩,
  ⟨some 33, .mv (.t 1), none⟩,
  ⟨some 34, .bin .leq (.t 32) (.t 33), none⟩]
def f39.r6 : List XOper := [⟨some 35, .mv (.t 5), none⟩,
  ⟨some 36, .faddr 1 (.t 2), none⟩,
  ⟨some 37, .load 1 false (.t 36), none⟩,
  ⟨some 38, .mv (.t 6), none⟩,
  ⟨some 39, .iaddr 20 (.t 37) (.t 38), none⟩,
  ⟨some 40, .faddr 6 (.t 39), none⟩,
  ⟨some 41, .load 7 true (.t 40), none⟩,
  ⟨some 42, .mv (.t 1), none⟩,
  ⟨some 43, .mv (.t 5), none⟩,
  ⟨some 44, .bin .sub (.t 42) (.t 43), none⟩,
  ⟨some 45, .call (.c (.fn (.func 87) [] [])) [.t 41, .t 44], none⟩,
  ⟨some 46, .bin .add (.t 35) (.t 45), none⟩,
  ⟨some 5, .mv (.t 46), none⟩]
def f39.r7 : List XOper := [⟨some 47, .mv (.t 5), none⟩,
  ⟨some 48, .mv (.t 1), none⟩,
  ⟨some 49, .bin .leq (.t 47) (.t 48), none⟩]
def f39.r8 : List XOper := [⟨some 50, .mv (.t 5), none⟩,
  ⟨some 51, .faddr 1 (.t 2), none⟩,
  ⟨some 52, .load 1 false (.t 51), none⟩,
  ⟨some 53, .mv (.t 6), none⟩,
  ⟨some 54, .iaddr 20 (.t 52) (.t 53), none⟩,
  ⟨some 55, .faddr 13 (.t 54), none⟩,
  ⟨some 56, .load 7 true (.t 55), none⟩,
  ⟨some 57, .mv (.t 1), none⟩,
  ⟨some 58, .mv (.t 5), none⟩,
  ⟨some 59, .bin .sub (.t 57) (.t 58), none⟩,
  ⟨some 60, .call (.c (.fn (.func 87) [] [])) [.t 56, .t 59], none⟩,
  ⟨some 61, .bin .add (.t 50) (.t 60), none⟩,
  ⟨some 5, .mv (.t 61), none⟩]
def f39.r9 : List XOper := [⟨some 17, .mv (.t 6), none⟩,
  ⟨some 18, .bin .add (.t 17) (.c (.int .i64 1)), none⟩,
  ⟨some 6, .mv (.t 18), none⟩]
def f39.r10 : List XOper := [⟨some 62, .mv (.t 5), none⟩,
  ⟨some 63, .mv (.t 1), none⟩,
  ⟨some 64, .bin .leq (.t 62) (.t 63), none⟩]
def f39.r11 : List XOper := [⟨some 65, .mv (.t 5), none⟩,
  ⟨some 66, .faddr 2 (.t 2), none⟩,
  ⟨some 67, .load 1 false (.t 66), none⟩,
  ⟨some 68, .mv (.t 1), none⟩,
  ⟨some 69, .mv (.t 5), none⟩,
  ⟨some 70, .bin .sub (.t 68) (.t 69), none⟩,
  ⟨some 71, .call (.c (.fn (.func 88) [] [])) [.t 67, .t 70], none⟩,
  ⟨some 72, .bin .add (.t 65) (.t 71), none⟩,
  ⟨some 5, .mv (.t 72), none⟩]
def f39.r12 : List XOper := [⟨some 73, .mv (.t 5), none⟩,
  ⟨some 74, .mv (.t 1), none⟩,
  ⟨some 75, .bin .leq (.t 73) (.t 74), none⟩]
def f39.r13 : List XOper := [⟨some 76, .mv (.t 5), none⟩,
  ⟨some 77, .faddr 3 (.t 2), none⟩,
  ⟨some 78, .load 1 false (.t 77), none⟩,
  ⟨some 79, .mv (.t 1), none⟩,
  ⟨some 80, .mv (.t 5), none⟩,
  ⟨some 81, .bin .sub (.t 79) (.t 80), none⟩,
  ⟨some 82, .call (.c (.fn (.func 88) [] [])) [.t 78, .t 81], none⟩,
  ⟨some 83, .bin .add (.t 76) (.t 82), none⟩,
  ⟨some 5, .mv (.t 83), none⟩]
def f39.r14 : List XOper := [⟨some 84, .mv (.t 5), none⟩,
  ⟨some 4, .mv (.t 84), none⟩]
def f39 : XF := ⟨85, [.t 4], .seq (.region f39.r0) (.seq (.region f39.r1) (.seq (.seq (.region f39.r2) (.block 0 (.loop (.seq (.seq (.region f39.r3) (.cond (.t 16) (.skip) (.exit 0))) (.seq (.block 1 (.seq (.region f39.r4) (.seq (.seq (.region f39.r5) (.cond (.t 34) (.region f39.r6) (.skip))) (.seq (.region f39.r7) (.cond (.t 49) (.region f39.r8) (.skip)))))) (.region f39.r9)))))) (.seq (.seq (.region f39.r10) (.cond (.t 64) (.region f39.r11) (.skip))) (.seq (.seq (.region f39.r12) (.cond (.t 75) (.region f39.r13) (.skip))) (.seq (.region f39.r14) (.ret))))))⟩
/-! flyball/flyballref10.Count -/
def f46.r0 : List XOper := [⟨some 1, .box 66 (.t 0), none⟩,
  ⟨some 2, .mv (.c (.int .i64 0)), none⟩,
  ⟨some 3, .mv (.c (.int .i64 0)), none⟩]
def f46.r1 : List XOper := [⟨some 9, .faddr 2 (.t 1), none⟩,
  ⟨some 10, .load 1 false (.t 9), none⟩,
  ⟨some 11, .call (.c (.fn (.func 104) [] [])) [.t 10], none⟩,
  ⟨some 8, .mv (.t 11), none⟩,
  ⟨some 12, .extract (.t 8) 0, none⟩,
  ⟨some 13, .extract (.t 8) 1, none⟩,
  ⟨some 4, .mv (.t 12), none⟩,
  ⟨some 5, .mv (.t 13), none⟩]
def f46.r2 : List XOper := [⟨some 15, .faddr 3 (.t 1), none⟩,
  ⟨some 16, .load 1 false (.t 15), none⟩,
  ⟨some 17, .call (.c (.fn (.func 104) [] [])) [.t 16], none⟩,
  ⟨some 14, .mv (.t 17), none⟩,
  ⟨some 18, .extract (.t 14) 0, none⟩,
  ⟨some 19, .extract (.t 14) 1, none⟩,
  ⟨some 6, .mv (.t 18), none⟩,
  ⟨some 7, .mv (.t 19), none⟩]
def f46.r3 : List XOper := [⟨some 20, .mv (.t 4), none⟩,
  ⟨some 21, .mv (.t 6), none⟩,
  ⟨some 22, .bin .add (.t 20) (.t 21), none⟩,
  ⟨some 23, .mv (.t 5), none⟩,
  ⟨some 24, .mv (.t 7), none⟩,
  ⟨some 25, .bin .add (.t 23) (.t 24), none⟩,
  ⟨some 2, .mv (.t 22), none⟩,
  ⟨some 3, .mv (.t 25), none⟩]
def f46 : XF := ⟨26, [.t 2, .t 3], .seq (.region f46.r0) (.seq (.region f46.r1) (.seq (.region f46.r2) (.seq (.region f46.r3) (.ret))))⟩
/-! flyball/flyballref10.Same -/
def f47.r0 : List XOper := [⟨some 2, .box 66 (.t 0), none⟩,
  ⟨some 3, .box 66 (.t 1), none⟩,
  ⟨some 4, .mv (.c (.bool false)), none⟩]
def f47.r1 : List XOper := [⟨some 8, .faddr 0 (.t 2), none⟩,
  ⟨some 9, .load 1 false (.t 8), none⟩,
  ⟨some 10, .faddr 0 (.t 3), none⟩,
  ⟨some 11, .load 1 false (.t 10), none⟩,
  ⟨some 12, .bin .neq (.t 9) (.t 11), none⟩,
  ⟨some 13, .mv (.t 12), none⟩,
  ⟨some 14, .faddr 1 (.t 2), some (13, false)⟩,
  ⟨some 15, .load 1 false (.t 14), some (13, false)⟩,
  ⟨some 16, .len false (.t 15), some (13, false)⟩,
  ⟨some 17, .faddr 1 (.t 3), some (13, false)⟩,
  ⟨some 18, .load 1 false (.t 17), some (13, false)⟩,
  ⟨some 19, .len false (.t 18), some (13, false)⟩,
  ⟨some 20, .bin .neq (.t 16) (.t 19), some (13, false)⟩,
  ⟨some 21, .pick (.t 13) (.c (.bool true)) (.t 20), none⟩]
def f47.r2 : List XOper := [⟨some 4, .mv (.c (.bool false)), none⟩]
def f47.r3 : List XOper := [⟨some 5, .mv (.c (.int .i64 0)), none⟩]
def f47.r4 : List XOper := [⟨some 22, .mv (.t 5), none⟩,
  ⟨some 23, .faddr 1 (.t 2), none⟩,
  ⟨some 24, .load 1 false (.t 23), none⟩,
  ⟨some 25, .len false (.t 24), none⟩,
  ⟨some 26, .bin .lss (.t 22) (.t 25), none⟩]
def f47.r5 : List XOper := [⟨some 29, .faddr 1 (.t 2), none⟩,
  ⟨some 30, .load 1 false (.t 29), none⟩,
  ⟨some 31, .mv (.t 5), none⟩,
  ⟨some 32, .iaddr 20 (.t 30) (.t 31), none⟩,
  ⟨some 33, .load 20 true (.t 32), none⟩,
  ⟨some 6, .alloc 122 [.int .i64 0, .bool false, .str [], .int .u8 0, .int .i64 0, .bool false, .int .u8 0, .int .i64 0, .bool false, .int .i32 0, .int .u64 0, .str [], .nils, .int .u8 0, .int .i64 0, .bool false, .int .i32 0, .int .u64 0, .str [], .nils], none⟩,
  ⟨none, .store 20 (.t 6) (.t 33), none⟩]
def f47.r6 : List XOper := [⟨some 34, .faddr 1 (.t 3), none⟩,
  ⟨some 35, .load 1 false (.t 34), none⟩,
  ⟨some 36, .mv (.t 5), none⟩,
  ⟨some 37, .iaddr 20 (.t 35) (.t 36), none⟩,
  ⟨some 38, .load 20 true (.t 37), none⟩,
  ⟨some 7, .alloc 122 [.int .i64 0, .bool false, .str [], .int .u8 0, .int .i64 0, .bool false, .int .u8 0, .int .i64 0, .bool false, .int .i32 0, .int .u64 0, .str [], .nils, .int .u8 0, .int .i64 0, .bool false, .int .i32 0, .int .u64 0, .str [], .nils], none⟩,
  ⟨none, .store 20 (.t 7) (.t 38), none⟩]
def f47.r7 : List XOper := [⟨some 39, .faddr 1 (.t 6), none⟩,
  ⟨some 40, .load 1 false (.t 39), none⟩,
  ⟨some 41, .faddr 1 (.t 7), none⟩,
  ⟨some 42, .load 1 false (.t 41), none⟩,
  ⟨some 43, .eq true .bool (.t 40) (.t 42), none⟩,
  ⟨some 44, .mv (.t 43), none⟩,
  ⟨some 45, .faddr 2 (.t 6), some (44, false)⟩,
  ⟨some 46, .load 1 false (.t 45), some (44, false)⟩,
  ⟨some 47, .faddr 2 (.t 7), some (44, false)⟩,
  ⟨some 48, .load 1 false (.t 47), some (44, false)⟩,
  ⟨some 49, .bin .neq (.t 46) (.t 48), some (44, false)⟩,
  ⟨some 50, .pick (.t 44) (.c (.bool true)) (.t 49), none⟩,
  ⟨some 51, .mv (.t 50), none⟩,
  ⟨some 52, .faddr 3 (.t 6), some (51, false)⟩,
  ⟨some 53, .load 1 false (.t 52), some (51, false)⟩,
  ⟨some 54, .faddr 3 (.t 7), some (51, false)⟩,
  ⟨some 55, .load 1 false (.t 54), some (51, false)⟩,
  ⟨some 56, .bin .neq (.t 53) (.t 55), some (51, false)⟩,
  ⟨some 57, .pick (.t 51) (.c (.bool true)) (.t 56), none⟩,
  ⟨some 58, .mv (.t 57), none⟩,
  ⟨some 59, .faddr 4 (.t 6), some (58, false)⟩,
  ⟨some 60, .load 1 false (.t 59), some (58, false)⟩,
  ⟨some 61, .faddr 4 (.t 7), some (58, false)⟩,
  ⟨some 62, .load 1 false (.t 61), some (58, false)⟩,
  ⟨some 63, .bin .neq (.t 60) (.t 62), some (58, false)⟩,
  ⟨some 64, .pick (.t 58) (.c (.bool true)) (.t 63), none⟩,
  ⟨some 65, .mv (.t 64), none⟩,
  ⟨some 66, .faddr 5 (.t 6), some (65, false)⟩,
  ⟨some 67, .load 1 false (.t 66), some (65, false)⟩,
  ⟨some 68, .faddr 5 (.t 7), some (65, false)⟩,
  ⟨some 69, .load 1 false (.t 68), some (65, false)⟩,
  ⟨some 70, .eq true .bool (.t 67) (.t 69), some (65, false)⟩,
  ⟨some 71, .pick (.t 65) (.c (.bool true)) (.t 70), none⟩,
  ⟨some 72, .mv (.t 71), none⟩,
  ⟨some 73, .faddr 6 (.t 6), some (72, false)⟩,
  ⟨some 74, .load 7 true (.t 73), some (72, false)⟩,
  ⟨some 75, .faddr 6 (.t 7), some (72, false)⟩,
  ⟨some 76, .load 7 true (.t 75), some (72, false)⟩,
  ⟨some 77, .call (.c (.fn (.func 50) [] [])) [.t 74, .t 76], some (72, false)⟩,
  ⟨some 78, .un .not (.t 77), some (72, false)⟩,
  ⟨some 79, .pick (.t 72) (.c (.bool true)) (.t 78), none⟩,
  ⟨some 80, .mv (.t 79), none⟩,
  ⟨some 81, .faddr 13 (.t 6), some (80, false)⟩,
  ⟨some 82, .load 7 true (.t 81), some (80, false)⟩,
  ⟨some 83, .faddr 13 (.t 7), some (80, false)⟩,
  ⟨some 84, .load 7 true (.t 83), some (80, false)⟩,
  ⟨some 85, .call (.c (.fn (.func 50) [] [])) [.t 82, .t 84], some (80, false)⟩,
  ⟨some 86, .un .not (.t 85), some (80, false)⟩,
  ⟨some 87, .pick (.t 80) (.c (.bool true)) (.t 86), none⟩]
def f47.r8 : List XOper := [⟨some 4, .mv (.c (.bool false)), none⟩]
def f47.r9 : List XOper := [⟨some 27, .mv (.t 5), none⟩,
  ⟨some 28, .bin .add (.t 27) (.c (.int .i64 1)), none⟩,
  ⟨some 5, .mv (.t 28), none⟩]
def f47.r10 : List XOper := [⟨some 88, .faddr 2 (.t 2), none⟩,
  ⟨some 89, .load 1 false (.t 88), none⟩,
  ⟨some 90, .faddr 2 (.t 3), none⟩,
  ⟨some 91, .load 1 false (.t 90), none⟩,
  ⟨some 92, .call (.c (.fn (.func 105) [] [])) [.t 89, .t 91], none⟩,
  ⟨some 93, .mv (.t 92), none⟩,
  ⟨some 94, .faddr 3 (.t 2), some (93, true)⟩,
  ⟨some 95, .load 1 false (.t 94), some (93, true)⟩,
  ⟨some 96, .faddr 3 (.t 3), some (93, true)⟩,
  ⟨some 97, .load 1 false (.t 96), some (93, true)⟩,
  ⟨some 98, .call (.c (.fn (.func 105) [] [])) [.t 95, .t 97], some (93, true)⟩,
  ⟨some 99, .pick (.t 93) (.t 98) (.c (.bool false)), none⟩,
  ⟨some 4, .mv (.t 99), none⟩]
def f47 : XF := ⟨100, [.t 4], .seq (.region f47.r0) (.seq (.seq (.region f47.r1) (.cond (.t 21) (.seq (.region f47.r2) (.ret)) (.skip))) (.seq (.seq (.region f47.r3) (.block 0 (.loop (.seq (.seq (.region f47.r4) (.cond (.t 26) (.skip) (.exit 0))) (.seq (.block 1 (.seq (.region f47.r5) (.seq (.region f47.r6) (.seq (.region f47.r7) (.cond (.t 87) (.seq (.region f47.r8) (.ret)) (.skip)))))) (.region f47.r9)))))) (.seq (.region f47.r10) (.ret))))⟩
/-! flyball/flyballref10.SameExpr -/
def f50.r0 : List XOper := [⟨some 2, .box 78 (.t 0), none⟩,
  ⟨some 3, .box 78 (.t 1), none⟩,
  ⟨some 4, .mv (.c (.bool false)), none⟩]
def f50.r1 : List XOper := [⟨some 5, .faddr 0 (.t 2), none⟩,
  ⟨some 6, .load 1 false (.t 5), none⟩,
  ⟨some 7, .faddr 0 (.t 3), none⟩,
  ⟨some 8, .load 1 false (.t 7), none⟩,
  ⟨some 9, .bin .neq (.t 6) (.t 8), none⟩,
  ⟨some 10, .mv (.t 9), none⟩,
  ⟨some 11, .faddr 2 (.t 2), some (10, false)⟩,
  ⟨some 12, .load 1 false (.t 11), some (10, false)⟩,
  ⟨some 13, .faddr 2 (.t 3), some (10, false)⟩,
  ⟨some 14, .load 1 false (.t 13), some (10, false)⟩,
  ⟨some 15, .eq true .bool (.t 12) (.t 14), some (10, false)⟩,
  ⟨some 16, .pick (.t 10) (.c (.bool true)) (.t 15), none⟩,
  ⟨some 17, .mv (.t 16), none⟩,
  ⟨some 18, .faddr 3 (.t 2), some (17, false)⟩,
  ⟨some 19, .load 1 false (.t 18), some (17, false)⟩,
  ⟨some 20, .faddr 3 (.t 3), some (17, false)⟩,
  ⟨some 21, .load 1 false (.t 20), some (17, false)⟩,
  ⟨some 22, .bin .neq (.t 19) (.t 21), some (17, false)⟩,
  ⟨some 23, .pick (.t 17) (.c (.bool true)) (.t 22), none⟩,
  ⟨some 24, .mv (.t 23), none⟩,
  ⟨some 25, .faddr 4 (.t 2), some (24, false)⟩,
  ⟨some 26, .load 1 false (.t 25), some (24, false)⟩,
  ⟨some 27, .faddr 4 (.t 3), some (24, false)⟩,
  ⟨some 28, .load 1 false (.t 27), some (24, false)⟩,
  ⟨some 29, .bin .neq (.t 26) (.t 28), some (24, false)⟩,
  ⟨some 30, .pick (.t 24) (.c (.bool true)) (.t 29), none⟩,
  ⟨some 31, .mv (.t 30), none⟩,
  ⟨some 32, .faddr 5 (.t 2), some (31, false)⟩,
  ⟨some 33, .load 1 false (.t 32), some (31, false)⟩,
  ⟨some 34, .faddr 5 (.t 3), some (31, false)⟩,
  ⟨some 35, .load 1 false (.t 34), some (31, false)⟩,
  ⟨some 36, .bin .neq (.t 33) (.t 35), some (31, false)⟩,
  ⟨some 37, .pick (.t 31) (.c (.bool true)) (.t 36), none⟩]
def f50.r2 : List XOper := [⟨some 4, .mv (.c (.bool false)), none⟩]
def f50.r3 : List XOper := [⟨some 38, .faddr 6 (.t 2), none⟩,
  ⟨some 39, .load 1 false (.t 38), none⟩,
  ⟨some 40, .faddr 6 (.t 3), none⟩,
  ⟨some 41, .load 1 false (.t 40), none⟩,
  ⟨some 42, .call (.c (.fn (.func 111) [] [])) [.t 39, .t 41], none⟩,
  ⟨some 4, .mv (.t 42), none⟩]
def f50 : XF := ⟨43, [.t 4], .seq (.region f50.r0) (.seq (.seq (.region f50.r1) (.cond (.t 37) (.seq (.region f50.r2) (.ret)) (.skip))) (.seq (.region f50.r3) (.ret)))⟩
/-! flyball/flyballref10.WeighExpr -/
def f87.r0 : List XOper := [⟨some 2, .box 78 (.t 0), none⟩,
  ⟨some 4, .mv (.c (.int .i64 0)), none⟩]
def f87.r1 : List XOper := [⟨some 7, .faddr 5 (.t 2), none⟩,
  ⟨some 8, .load 1 false (.t 7), none⟩,
  ⟨some 9, .len true (.t 8), none⟩,
  ⟨some 10, .mv (.t 1), none⟩,
  ⟨some 11, .bin .add (.t 10) (.c (.int .i64 1)), none⟩,
  ⟨some 12, .min [.t 9, .t 11], none⟩,
  ⟨some 13, .bin .add (.c (.int .i64 1)) (.t 12), none⟩,
  ⟨some 5, .mv (.t 13), none⟩]
def f87.r2 : List XOper := [⟨some 6, .mv (.c (.int .i64 0)), none⟩]
def f87.r3 : List XOper := [⟨some 14, .mv (.t 6), none⟩,
  ⟨some 15, .faddr 6 (.t 2), none⟩,
  ⟨some 16, .load 1 false (.t 15), none⟩,
  ⟨some 17, .len false (.t 16), none⟩,
  ⟨some 18, .bin .lss (.t 14) (.t 17), none⟩,
  ⟨some 19, .mv (.t 18), none⟩,
  ⟨some 20, .mv (.t 5), some (19, true)⟩,
  ⟨some 21, .mv (.t 1), some (19, true)⟩,
  ⟨some 22, .bin .leq (.t 20) (.t 21), some (19, true)⟩,
  ⟨some 23, .pick (.t 19) (.t 22) (.c (.bool false)), none⟩]
def f87.r4 : List XOper := [⟨some 26, .mv (.t 5), none⟩,
  ⟨some 27, .faddr 6 (.t 2), none⟩,
  ⟨some 28, .load 1 false (.t 27), none⟩,
  ⟨some 29, .mv (.t 6), none⟩,
  ⟨some 30, .iaddr 7 (.t 28) (.t 29), none⟩,
  ⟨some 31, .load 7 true (.t 30), none⟩,
  ⟨some 32, .mv (.t 1), none⟩,
  ⟨some 33, .mv (.t 5), none⟩,
  ⟨some 34, .bin .sub (.t 32) (.t 33), none⟩,
  ⟨some 35, .call (.c (.fn (.func 87) [] [])) [.t 31, .t 34], none⟩,
  ⟨some 36, .bin .add (.t 26) (.t 35), none⟩,
  ⟨some 5, .mv (.t 36), none⟩]
def f87.r5 : List XOper := [⟨some 24, .mv (.t 6), none⟩,
  ⟨some 25, .bin .add (.t 24) (.c (.int .i64 1)), none⟩,
  ⟨some 6, .mv (.t 25), none⟩]
def f87.r6 : List XOper := [⟨some 37, .mv (.t 5), none⟩,
  ⟨some 4, .mv (.t 37), none⟩]
def f87 : XF := ⟨38, [.t 4], .seq (.region f87.r0) (.seq (.region f87.r1) (.seq (.seq (.region f87.r2) (.block 0 (.loop (.seq (.seq (.region f87.r3) (.cond (.t 23) (.skip) (.exit 0))) (.seq (.block 1 (.region f87.r4)) (.region f87.r5)))))) (.seq (.region f87.r6) (.ret))))⟩
/-! flyball/flyballref10.weighStmts -/
def f88.r0 : List XOper := [⟨some 4, .mv (.c (.int .i64 0)), none⟩]
def f88.r1 : List XOper := [⟨some 5, .mv (.c (.int .i64 0)), none⟩]
def f88.r2 : List XOper := [⟨some 6, .mv (.c (.int .i64 0)), none⟩]
def f88.r3 : List XOper := [⟨some 7, .mv (.t 6), none⟩,
  ⟨some 8, .mv (.t 0), none⟩,
  ⟨some 9, .len false (.t 8), none⟩,
  ⟨some 10, .bin .lss (.t 7) (.t 9), none⟩,
  ⟨some 11, .mv (.t 10), none⟩,
  ⟨some 12, .mv (.t 5), some (11, true)⟩,
  ⟨some 13, .mv (.t 1), some (11, true)⟩,
  ⟨some 14, .bin .leq (.t 12) (.t 13), some (11, true)⟩,
  ⟨some 15, .pick (.t 11) (.t 14) (.c (.bool false)), none⟩]
def f88.r4 : List XOper := [⟨some 18, .mv (.t 5), none⟩,
  ⟨some 19, .bin .add (.t 18) (.c (.int .i64 1)), none⟩,
  ⟨some 20, .mv (.t 0), none⟩,
  ⟨some 21, .mv (.t 6), none⟩,
  ⟨some 22, .iaddr 15 (.t 20) (.t 21), none⟩,
  ⟨some 23, .faddr 2 (.t 22), none⟩,
  ⟨some 24, .load 1 false (.t 23), none⟩,
  ⟨some 25, .len true (.t 24), none⟩,
  ⟨some 26, .mv (.t 1), none⟩,
  ⟨some 27, .bin .add (.t 26) (.c (.int .i64 1)), none⟩,
  ⟨some 28, .min [.t 25, .t 27], none⟩,
  ⟨some 29, .bin .add (.t 19) (.t 28), none⟩,
  ⟨some 5, .mv (.t 29), none⟩]
def f88.r5 : List XOper := [⟨some 30, .mv (.t 5), none⟩,
  ⟨some 31, .mv (.t 1), none⟩,
  ⟨some 32, .bin .leq (.t 30) (.t 31), none⟩]
def f88.r6 : List XOper := [⟨some 33, .mv (.t 5), none⟩,
  ⟨some 34, .mv (.t 0), none⟩,
  ⟨some 35, .mv (.t 6), none⟩,
  ⟨some 36, .iaddr 15 (.t 34) (.t 35), none⟩,
  ⟨some 37, .faddr 3 (.t 36), none⟩,
  ⟨some 38, .load 1 false (.t 37), none⟩,
  ⟨some 39, .mv (.t 1), none⟩,
  ⟨some 40, .mv (.t 5), none⟩,
  ⟨some 41, .bin .sub (.t 39) (.t 40), none⟩,
  ⟨some 42, .call (.c (.fn (.func 144) [] [])) [.t 38, .t 41], none⟩,
  ⟨some 43, .bin .add (.t 33) (.t 42), none⟩,
  ⟨some 5, .mv (.t 43), none⟩]
def f88.r7 : List XOper := [⟨some 44, .mv (.t 5), none⟩,
  ⟨some 45, .mv (.t 1), none⟩,
  ⟨some 46, .bin .leq (.t 44) (.t 45), none⟩]
def f88.r8 : List XOper := [⟨some 47, .mv (.t 5), none⟩,
  ⟨some 48, .mv (.t 0), none⟩,
  ⟨some 49, .mv (.t 6), none⟩,
  ⟨some 50, .iaddr 15 (.t 48) (.t 49), none⟩,
  ⟨some 51, .faddr 4 (.t 50), none⟩,
  ⟨some 52, .load 7 true (.t 51), none⟩,
  ⟨some 53, .mv (.t 1), none⟩,
  ⟨some 54, .mv (.t 5), none⟩,
  ⟨some 55, .bin .sub (.t 53) (.t 54), none⟩,
  ⟨some 56, .call (.c (.fn (.func 87) [] [])) [.t 52, .t 55], none⟩,
  ⟨some 57, .bin .add (.t 47) (.t 56), none⟩,
  ⟨some 5, .mv (.t 57), none⟩]
def f88.r9 : List XOper := [⟨some 58, .mv (.t 5), none⟩,
  ⟨some 59, .mv (.t 1), none⟩,
  ⟨some 60, .bin .leq (.t 58) (.t 59), none⟩]
def f88.r10 : List XOper := [⟨some 61, .mv (.t 5), none⟩,
  ⟨some 62, .mv (.t 0), none⟩,
  ⟨some 63, .mv (.t 6), none⟩,
  ⟨some 64, .iaddr 15 (.t 62) (.t 63), none⟩,
  ⟨some 65, .faddr 13 (.t 64), none⟩,
  ⟨some 66, .load 1 false (.t 65), none⟩,
  ⟨some 67, .mv (.t 1), none⟩,
  ⟨some 68, .mv (.t 5), none⟩,
  ⟨some 69, .bin .sub (.t 67) (.t 68), none⟩,
  ⟨some 70, .call (.c (.fn (.func 88) [] [])) [.t 66, .t 69], none⟩,
  ⟨some 71, .bin .add (.t 61) (.t 70), none⟩,
  ⟨some 5, .mv (.t 71), none⟩]
def f88.r11 : List XOper := [⟨some 72, .mv (.t 5), none⟩,
  ⟨some 73, .mv (.t 1), none⟩,
  ⟨some 74, .bin .leq (.t 72) (.t 73), none⟩]
def f88.r12 : List XOper := [⟨some 75, .mv (.t 5), none⟩,
  ⟨some 76, .mv (.t 0), none⟩,
  ⟨some 77, .mv (.t 6), none⟩,
  ⟨some 78, .iaddr 15 (.t 76) (.t 77), none⟩,
  ⟨some 79, .faddr 14 (.t 78), none⟩,
  ⟨some 80, .load 1 false (.t 79), none⟩,
  ⟨some 81, .mv (.t 1), none⟩,
  ⟨some 82, .mv (.t 5), none⟩,
  ⟨some 83, .bin .sub (.t 81) (.t 82), none⟩,
  ⟨some 84, .call (.c (.fn (.func 88) [] [])) [.t 80, .t 83], none⟩,
  ⟨some 85, .bin .add (.t 75) (.t 84), none⟩,
  ⟨some 5, .mv (.t 85), none⟩]
def f88.r13 : List XOper := [⟨some 16, .mv (.t 6), none⟩,
  ⟨some 17, .bin .add (.t 16) (.c (.int .i64 1)), none⟩,
  ⟨some 6, .mv (.t 17), none⟩]
def f88.r14 : List XOper := [⟨some 86, .mv (.t 5), none⟩,
  ⟨some 4, .mv (.t 86), none⟩]
def f88 : XF := ⟨87, [.t 4], .seq (.region f88.r0) (.seq (.region f88.r1) (.seq (.seq (.region f88.r2) (.block 0 (.loop (.seq (.seq (.region f88.r3) (.cond (.t 15) (.skip) (.exit 0))) (.seq (.block 1 (.seq (.region f88.r4) (.seq (.seq (.region f88.r5) (.cond (.t 32) (.region f88.r6) (.skip))) (.seq (.seq (.region f88.r7) (.cond (.t 46) (.region f88.r8) (.skip))) (.seq (.seq (.region f88.r9) (.cond (.t 60) (.region f88.r10) (.skip))) (.seq (.region f88.r11) (.cond (.t 74) (.region f88.r12) (.skip)))))))) (.region f88.r13)))))) (.seq (.region f88.r14) (.ret))))⟩
/-! flyball/flyballref10.count -/
def f104.r0 : List XOper := [⟨some 2, .mv (.c (.int .i64 0)), none⟩,
  ⟨some 3, .mv (.c (.int .i64 0)), none⟩]
def f104.r1 : List XOper := [⟨some 4, .mv (.c (.int .i64 0)), none⟩]
def f104.r2 : List XOper := [⟨some 5, .mv (.c (.int .i64 0)), none⟩]
def f104.r3 : List XOper := [⟨some 6, .mv (.c (.int .i64 0)), none⟩]
def f104.r4 : List XOper := [⟨some 11, .mv (.t 6), none⟩,
  ⟨some 12, .mv (.t 0), none⟩,
  ⟨some 13, .len false (.t 12), none⟩,
  ⟨some 14, .bin .lss (.t 11) (.t 13), none⟩]
def f104.r5 : List XOper := [⟨some 18, .mv (.t 0), none⟩,
  ⟨some 19, .mv (.t 6), none⟩,
  ⟨some 20, .iaddr 15 (.t 18) (.t 19), none⟩,
  ⟨some 21, .faddr 13 (.t 20), none⟩,
  ⟨some 22, .load 1 false (.t 21), none⟩,
  ⟨some 23, .call (.c (.fn (.func 104) [] [])) [.t 22], none⟩,
  ⟨some 17, .mv (.t 23), none⟩,
  ⟨some 24, .extract (.t 17) 0, none⟩,
  ⟨some 25, .extract (.t 17) 1, none⟩,
  ⟨some 7, .mv (.t 24), none⟩,
  ⟨some 8, .mv (.t 25), none⟩]
def f104.r6 : List XOper := [⟨some 27, .mv (.t 0), none⟩,
  ⟨some 28, .mv (.t 6), none⟩,
  ⟨some 29, .iaddr 15 (.t 27) (.t 28), none⟩,
  ⟨some 30, .faddr 14 (.t 29), none⟩,
  ⟨some 31, .load 1 false (.t 30), none⟩,
  ⟨some 32, .call (.c (.fn (.func 104) [] [])) [.t 31], none⟩,
  ⟨some 26, .mv (.t 32), none⟩,
  ⟨some 33, .extract (.t 26) 0, none⟩,
  ⟨some 34, .extract (.t 26) 1, none⟩,
  ⟨some 9, .mv (.t 33), none⟩,
  ⟨some 10, .mv (.t 34), none⟩]
def f104.r7 : List XOper := [⟨some 35, .mv (.t 4), none⟩,
  ⟨some 36, .bin .add (.t 35) (.c (.int .i64 1)), none⟩,
  ⟨some 37, .mv (.t 7), none⟩,
  ⟨some 38, .bin .add (.t 36) (.t 37), none⟩,
  ⟨some 39, .mv (.t 9), none⟩,
  ⟨some 40, .bin .add (.t 38) (.t 39), none⟩,
  ⟨some 4, .mv (.t 40), none⟩]
def f104.r8 : List XOper := [⟨some 41, .mv (.t 5), none⟩,
  ⟨some 42, .mv (.t 8), none⟩,
  ⟨some 43, .bin .add (.t 41) (.t 42), none⟩,
  ⟨some 44, .mv (.t 10), none⟩,
  ⟨some 45, .bin .add (.t 43) (.t 44), none⟩,
  ⟨some 46, .mv (.t 0), none⟩,
  ⟨some 47, .mv (.t 6), none⟩,
  ⟨some 48, .iaddr 15 (.t 46) (.t 47), none⟩,
  ⟨some 49, .faddr 3 (.t 48), none⟩,
  ⟨some 50, .load 1 false (.t 49), none⟩,
  ⟨some 51, .call (.c (.fn (.func 156) [] [])) [.t 50], none⟩,
  ⟨some 52, .bin .add (.t 45) (.t 51), none⟩,
  ⟨some 5, .mv (.t 52), none⟩]
def f104.r9 : List XOper := [⟨some 53, .mv (.t 0), none⟩,
  ⟨some 54, .mv (.t 6), none⟩,
  ⟨some 55, .iaddr 15 (.t 53) (.t 54), none⟩,
  ⟨some 56, .faddr 0 (.t 55), none⟩,
  ⟨some 57, .load 1 false (.t 56), none⟩,
  ⟨some 58, .bin .eql (.t 57) (.c (.int .u8 1)), none⟩,
  ⟨some 59, .mv (.t 58), none⟩,
  ⟨some 60, .mv (.t 0), some (59, false)⟩,
  ⟨some 61, .mv (.t 6), some (59, false)⟩,
  ⟨some 62, .iaddr 15 (.t 60) (.t 61), some (59, false)⟩,
  ⟨some 63, .faddr 0 (.t 62), some (59, false)⟩,
  ⟨some 64, .load 1 false (.t 63), some (59, false)⟩,
  ⟨some 65, .bin .eql (.t 64) (.c (.int .u8 2)), some (59, false)⟩,
  ⟨some 66, .pick (.t 59) (.c (.bool true)) (.t 65), none⟩]
def f104.r10 : List XOper := [⟨some 67, .mv (.t 5), none⟩,
  ⟨some 68, .bin .add (.t 67) (.c (.int .i64 1)), none⟩,
  ⟨some 69, .mv (.t 0), none⟩,
  ⟨some 70, .mv (.t 6), none⟩,
  ⟨some 71, .iaddr 15 (.t 69) (.t 70), none⟩,
  ⟨some 72, .faddr 4 (.t 71), none⟩,
  ⟨some 73, .faddr 6 (.t 72), none⟩,
  ⟨some 74, .load 1 false (.t 73), none⟩,
  ⟨some 75, .call (.c (.fn (.func 156) [] [])) [.t 74], none⟩,
  ⟨some 76, .bin .add (.t 68) (.t 75), none⟩,
  ⟨some 5, .mv (.t 76), none⟩]
def f104.r11 : List XOper := [⟨some 15, .mv (.t 6), none⟩,
  ⟨some 16, .bin .add (.t 15) (.c (.int .i64 1)), none⟩,
  ⟨some 6, .mv (.t 16), none⟩]
def f104.r12 : List XOper := [⟨some 77, .mv (.t 4), none⟩,
  ⟨some 78, .mv (.t 5), none⟩,
  ⟨some 2, .mv (.t 77), none⟩,
  ⟨some 3, .mv (.t 78), none⟩]
def f104 : XF := ⟨79, [.t 2, .t 3], .seq (.region f104.r0) (.seq (.region f104.r1) (.seq (.region f104.r2) (.seq (.seq (.region f104.r3) (.block 0 (.loop (.seq (.seq (.region f104.r4) (.cond (.t 14) (.skip) (.exit 0))) (.seq (.block 1 (.seq (.region f104.r5) (.seq (.region f104.r6) (.seq (.region f104.r7) (.seq (.region f104.r8) (.seq (.region f104.r9) (.cond (.t 66) (.region f104.r10) (.skip)))))))) (.region f104.r11)))))) (.seq (.region f104.r12) (.ret)))))⟩
/-! flyball/flyballref10.SameStmts -/
def f105.r0 : List XOper := [⟨some 4, .mv (.c (.bool false)), none⟩]
def f105.r1 : List XOper := [⟨some 8, .mv (.t 0), none⟩,
  ⟨some 9, .len false (.t 8), none⟩,
  ⟨some 10, .mv (.t 1), none⟩,
  ⟨some 11, .len false (.t 10), none⟩,
  ⟨some 12, .bin .neq (.t 9) (.t 11), none⟩]
def f105.r2 : List XOper := [⟨some 4, .mv (.c (.bool false)), none⟩]
def f105.r3 : List XOper := [⟨some 5, .mv (.c (.int .i64 0)), none⟩]
def f105.r4 : List XOper := [⟨some 13, .mv (.t 5), none⟩,
  ⟨some 14, .mv (.t 0), none⟩,
  ⟨some 15, .len false (.t 14), none⟩,
  ⟨some 16, .bin .lss (.t 13) (.t 15), none⟩]
def f105.r5 : List XOper := [⟨some 19, .mv (.t 0), none⟩,
  ⟨some 20, .mv (.t 5), none⟩,
  ⟨some 21, .iaddr 15 (.t 19) (.t 20), none⟩,
  ⟨some 22, .load 15 true (.t 21), none⟩,
  ⟨some 6, .alloc 80 [.int .u8 0, .int .i64 0, .str [], .nils, .int .u8 0, .int .i64 0, .bool false, .int .i32 0, .int .u64 0, .str [], .nils, .int .i32 0, .int .i32 0, .nils, .nils], none⟩,
  ⟨none, .store 15 (.t 6) (.t 22), none⟩]
def f105.r6 : List XOper := [⟨some 23, .mv (.t 1), none⟩,
  ⟨some 24, .mv (.t 5), none⟩,
  ⟨some 25, .iaddr 15 (.t 23) (.t 24), none⟩,
  ⟨some 26, .load 15 true (.t 25), none⟩,
  ⟨some 7, .alloc 80 [.int .u8 0, .int .i64 0, .str [], .nils, .int .u8 0, .int .i64 0, .bool false, .int .i32 0, .int .u64 0, .str [], .nils, .int .i32 0, .int .i32 0, .nils, .nils], none⟩,
  ⟨none, .store 15 (.t 7) (.t 26), none⟩]
def f105.r7 : List XOper := [⟨some 27, .faddr 0 (.t 6), none⟩,
  ⟨some 28, .load 1 false (.t 27), none⟩,
  ⟨some 29, .faddr 0 (.t 7), none⟩,
  ⟨some 30, .load 1 false (.t 29), none⟩,
  ⟨some 31, .bin .neq (.t 28) (.t 30), none⟩,
  ⟨some 32, .mv (.t 31), none⟩,
  ⟨some 33, .faddr 2 (.t 6), some (32, false)⟩,
  ⟨some 34, .load 1 false (.t 33), some (32, false)⟩,
  ⟨some 35, .faddr 2 (.t 7), some (32, false)⟩,
  ⟨some 36, .load 1 false (.t 35), some (32, false)⟩,
  ⟨some 37, .bin .neq (.t 34) (.t 36), some (32, false)⟩,
  ⟨some 38, .pick (.t 32) (.c (.bool true)) (.t 37), none⟩,
  ⟨some 39, .mv (.t 38), none⟩,
  ⟨some 40, .faddr 11 (.t 6), some (39, false)⟩,
  ⟨some 41, .load 1 false (.t 40), some (39, false)⟩,
  ⟨some 42, .faddr 11 (.t 7), some (39, false)⟩,
  ⟨some 43, .load 1 false (.t 42), some (39, false)⟩,
  ⟨some 44, .bin .neq (.t 41) (.t 43), some (39, false)⟩,
  ⟨some 45, .pick (.t 39) (.c (.bool true)) (.t 44), none⟩,
  ⟨some 46, .mv (.t 45), none⟩,
  ⟨some 47, .faddr 12 (.t 6), some (46, false)⟩,
  ⟨some 48, .load 1 false (.t 47), some (46, false)⟩,
  ⟨some 49, .faddr 12 (.t 7), some (46, false)⟩,
  ⟨some 50, .load 1 false (.t 49), some (46, false)⟩,
  ⟨some 51, .bin .neq (.t 48) (.t 50), some (46, false)⟩,
  ⟨some 52, .pick (.t 46) (.c (.bool true)) (.t 51), none⟩]
def f105.r8 : List XOper := [⟨some 4, .mv (.c (.bool false)), none⟩]
def f105.r9 : List XOper := [⟨some 53, .faddr 3 (.t 6), none⟩,
  ⟨some 54, .load 1 false (.t 53), none⟩,
  ⟨some 55, .faddr 3 (.t 7), none⟩,
  ⟨some 56, .load 1 false (.t 55), none⟩,
  ⟨some 57, .call (.c (.fn (.func 111) [] [])) [.t 54, .t 56], none⟩,
  ⟨some 58, .un .not (.t 57), none⟩,
  ⟨some 59, .mv (.t 58), none⟩,
  ⟨some 60, .faddr 4 (.t 6), some (59, false)⟩,
  ⟨some 61, .load 7 true (.t 60), some (59, false)⟩,
  ⟨some 62, .faddr 4 (.t 7), some (59, false)⟩,
  ⟨some 63, .load 7 true (.t 62), some (59, false)⟩,
  ⟨some 64, .call (.c (.fn (.func 50) [] [])) [.t 61, .t 63], some (59, false)⟩,
  ⟨some 65, .un .not (.t 64), some (59, false)⟩,
  ⟨some 66, .pick (.t 59) (.c (.bool true)) (.t 65), none⟩,
  ⟨some 67, .mv (.t 66), none⟩,
  ⟨some 68, .faddr 13 (.t 6), some (67, false)⟩,
  ⟨some 69, .load 1 false (.t 68), some (67, false)⟩,
  ⟨some 70, .faddr 13 (.t 7), some (67, false)⟩,
  ⟨some 71, .load 1 false (.t 70), some (67, false)⟩,
  ⟨some 72, .call (.c (.fn (.func 105) [] [])) [.t 69, .t 71], some (67, false)⟩,
  ⟨some 73, .un .not (.t 72), some (67, false)⟩,
  ⟨some 74, .pick (.t 67) (.c (.bool true)) (.t 73), none⟩,
  ⟨some 75, .mv (.t 74), none⟩,
  ⟨some 76, .faddr 14 (.t 6), some (75, false)⟩,
  ⟨some 77, .load 1 false (.t 76), some (75, false)⟩,
  ⟨some 78, .faddr 14 (.t 7), some (75, false)⟩,
  ⟨some 79, .load 1 false (.t 78), some (75, false)⟩,
  ⟨some 80, .call (.c (.fn (.func 105) [] [])) [.t 77, .t 79], some (75, false)⟩,
  ⟨some 81, .un .not (.t 80), some (75, false)⟩,
  ⟨some 82, .pick (.t 75) (.c (.bool true)) (.t 81), none⟩]
def f105.r10 : List XOper := [⟨some 4, .mv (.c (.bool false)), none⟩]
def f105.r11 : List XOper := [⟨some 17, .mv (.t 5), none⟩,
  ⟨some 18, .bin .add (.t 17) (.c (.int .i64 1)), none⟩,
  ⟨some 5, .mv (.t 18), none⟩]
def f105.r12 : List XOper := [⟨some 4, .mv (.c (.bool true)), none⟩]
def f105 : XF := ⟨83, [.t 4], .seq (.region f105.r0) (.seq (.seq (.region f105.r1) (.cond (.t 12) (.seq (.region f105.r2) (.ret)) (.skip))) (.seq (.seq (.region f105.r3) (.block 0 (.loop (.seq (.seq (.region f105.r4) (.cond (.t 16) (.skip) (.exit 0))) (.seq (.block 1 (.seq (.region f105.r5) (.seq (.region f105.r6) (.seq (.seq (.region f105.r7) (.cond (.t 52) (.seq (.region f105.r8) (.ret)) (.skip))) (.seq (.region f105.r9) (.cond (.t 82) (.seq (.region f105.r10) (.ret)) (.skip))))))) (.region f105.r11)))))) (.seq (.region f105.r12) (.ret))))⟩
/-! flyball/flyballref10.SameExprs -/
def f111.r0 : List XOper := [⟨some 4, .mv (.c (.bool false)), none⟩]
def f111.r1 : List XOper := [⟨some 7, .mv (.t 0), none⟩,
  ⟨some 8, .len false (.t 7), none⟩,
  ⟨some 9, .mv (.t 1), none⟩,
  ⟨some 10, .len false (.t 9), none⟩,
  ⟨some 11, .bin .neq (.t 8) (.t 10), none⟩]
def f111.r2 : List XOper := [⟨some 4, .mv (.c (.bool false)), none⟩]
def f111.r3 : List XOper := [⟨some 5, .mv (.c (.int .i64 0)), none⟩]
def f111.r4 : List XOper := [⟨some 12, .mv (.t 5), none⟩,
  ⟨some 13, .mv (.t 0), none⟩,
  ⟨some 14, .len false (.t 13), none⟩,
  ⟨some 15, .bin .lss (.t 12) (.t 14), none⟩]
def f111.r5 : List XOper := [⟨some 18, .mv (.t 0), none⟩,
  ⟨some 19, .mv (.t 5), none⟩,
  ⟨some 20, .iaddr 7 (.t 18) (.t 19), none⟩,
  ⟨some 21, .load 7 true (.t 20), none⟩,
  ⟨some 22, .mv (.t 1), none⟩,
  ⟨some 23, .mv (.t 5), none⟩,
  ⟨some 24, .iaddr 7 (.t 22) (.t 23), none⟩,
  ⟨some 25, .load 7 true (.t 24), none⟩,
  ⟨some 26, .call (.c (.fn (.func 50) [] [])) [.t 21, .t 25], none⟩,
  ⟨some 6, .mv (.t 26), none⟩]
def f111.r6 : List XOper := [⟨some 27, .mv (.t 6), none⟩,
  ⟨some 28, .un .not (.t 27), none⟩]
def f111.r7 : List XOper := [⟨some 4, .mv (.c (.bool false)), none⟩]
def f111.r8 : List XOper := [⟨some 16, .mv (.t 5), none⟩,
  ⟨some 17, .bin .add (.t 16) (.c (.int .i64 1)), none⟩,
  ⟨some 5, .mv (.t 17), none⟩]
def f111.r9 : List XOper := [⟨some 4, .mv (.c (.bool true)), none⟩]
def f111 : XF := ⟨29, [.t 4], .seq (.region f111.r0) (.seq (.seq (.region f111.r1) (.cond (.t 11) (.seq (.region f111.r2) (.ret)) (.skip))) (.seq (.seq (.region f111.r3) (.block 0 (.loop (.seq (.seq (.region f111.r4) (.cond (.t 15) (.skip) (.exit 0))) (.seq (.block 1 (.seq (.regionD f111.r5 [0, 0, 3, 7, 0, 0, 48, 112, 255, 511]) (.seq (.region f111.r6) (.cond (.t 28) (.seq (.region f111.r7) (.ret)) (.skip))))) (.region f111.r8)))))) (.seq (.region f111.r9) (.ret))))⟩
/-! flyball/flyballref10.weighExprs -/
def f144.r0 : List XOper := [⟨some 4, .mv (.c (.int .i64 0)), none⟩]
def f144.r1 : List XOper := [⟨some 5, .mv (.c (.int .i64 0)), none⟩]
def f144.r2 : List XOper := [⟨some 6, .mv (.c (.int .i64 0)), none⟩]
def f144.r3 : List XOper := [⟨some 7, .mv (.t 6), none⟩,
  ⟨some 8, .mv (.t 0), none⟩,
  ⟨some 9, .len false (.t 8), none⟩,
  ⟨some 10, .bin .lss (.t 7) (.t 9), none⟩,
  ⟨some 11, .mv (.t 10), none⟩,
  ⟨some 12, .mv (.t 5), some (11, true)⟩,
  ⟨some 13, .mv (.t 1), some (11, true)⟩,
  ⟨some 14, .bin .leq (.t 12) (.t 13), some (11, true)⟩,
  ⟨some 15, .pick (.t 11) (.t 14) (.c (.bool false)), none⟩]
def f144.r4 : List XOper := [⟨some 18, .mv (.t 5), none⟩,
  ⟨some 19, .mv (.t 0), none⟩,
  ⟨some 20, .mv (.t 6), none⟩,
  ⟨some 21, .iaddr 7 (.t 19) (.t 20), none⟩,
  ⟨some 22, .load 7 true (.t 21), none⟩,
  ⟨some 23, .mv (.t 1), none⟩,
  ⟨some 24, .mv (.t 5), none⟩,
  ⟨some 25, .bin .sub (.t 23) (.t 24), none⟩,
  ⟨some 26, .call (.c (.fn (.func 87) [] [])) [.t 22, .t 25], none⟩,
  ⟨some 27, .bin .add (.t 18) (.t 26), none⟩,
  ⟨some 5, .mv (.t 27), none⟩]
def f144.r5 : List XOper := [⟨some 16, .mv (.t 6), none⟩,
  ⟨some 17, .bin .add (.t 16) (.c (.int .i64 1)), none⟩,
  ⟨some 6, .mv (.t 17), none⟩]
def f144.r6 : List XOper := [⟨some 28, .mv (.t 5), none⟩,
  ⟨some 4, .mv (.t 28), none⟩]
def f144 : XF := ⟨29, [.t 4], .seq (.region f144.r0) (.seq (.region f144.r1) (.seq (.seq (.region f144.r2) (.block 0 (.loop (.seq (.seq (.region f144.r3) (.cond (.t 15) (.skip) (.exit 0))) (.seq (.block 1 (.region f144.r4)) (.region f144.r5)))))) (.seq (.region f144.r6) (.ret))))⟩
/-! flyball/flyballref10.exprs -/
def f156.r0 : List XOper := [⟨some 2, .mv (.c (.int .i64 0)), none⟩]
def f156.r1 : List XOper := [⟨some 3, .mv (.c (.int .i64 0)), none⟩]
def f156.r2 : List XOper := [⟨some 4, .mv (.c (.int .i64 0)), none⟩]
def f156.r3 : List XOper := [⟨some 5, .mv (.t 4), none⟩,
  ⟨some 6, .mv (.t 0), none⟩,
  ⟨some 7, .len false (.t 6), none⟩,
  ⟨some 8, .bin .lss (.t 5) (.t 7), none⟩]
def f156.r4 : List XOper := [⟨some 11, .mv (.t 3), none⟩,
  ⟨some 12, .bin .add (.t 11) (.c (.int .i64 1)), none⟩,
  ⟨some 13, .mv (.t 0), none⟩,
  ⟨some 14, .mv (.t 4), none⟩,
  ⟨some 15, .iaddr 7 (.t 13) (.t 14), none⟩,
  ⟨some 16, .faddr 6 (.t 15), none⟩,
  ⟨some 17, .load 1 false (.t 16), none⟩,
  ⟨some 18, .call (.c (.fn (.func 156) [] [])) [.t 17], none⟩,
  ⟨some 19, .bin .add (.t 12) (.t 18), none⟩,
  ⟨some 3, .mv (.t 19), none⟩]
def f156.r5 : List XOper := [⟨some 9, .mv (.t 4), none⟩,
  ⟨some 10, .bin .add (.t 9) (.c (.int .i64 1)), none⟩,
  ⟨some 4, .mv (.t 10), none⟩]
def f156.r6 : List XOper := [⟨some 20, .mv (.t 3), none⟩,
  ⟨some 2, .mv (.t 20), none⟩]
def f156 : XF := ⟨21, [.t 2], .seq (.region f156.r0) (.seq (.region f156.r1) (.seq (.seq (.region f156.r2) (.block 0 (.loop (.seq (.seq (.region f156.r3) (.cond (.t 8) (.skip) (.exit 0))) (.seq (.block 1 (.region f156.r4)) (.region f156.r5)))))) (.seq (.region f156.r6) (.ret))))⟩
/-! flyball/flyballlaw10.TreeSame -/
def f9.r0 : List XOper := [⟨some 2, .box 66 (.t 0), none⟩,
  ⟨some 3, .box 66 (.t 1), none⟩,
  ⟨some 4, .mv (.c (.bool false)), none⟩]
def f9.r1 : List XOper := [⟨some 13, .call (.c (.fn (.func 38) [] [])) [], none⟩,
  ⟨some 5, .mv (.t 13), none⟩]
def f9.r2 : List XOper := [⟨some 14, .mv (.t 5), none⟩,
  ⟨some 15, .un .not (.t 14), none⟩]
def f9.r3 : List XOper := [⟨some 4, .mv (.c (.bool false)), none⟩]
def f9.r4 : List XOper := [⟨some 16, .load 4 true (.t 2), none⟩,
  ⟨some 17, .call (.c (.fn (.func 39) [] [])) [.t 16, .c (.int .i64 1500)], none⟩,
  ⟨some 18, .bin .gtr (.t 17) (.c (.int .i64 1500)), none⟩,
  ⟨some 19, .mv (.t 18), none⟩,
  ⟨some 20, .load 4 true (.t 3), some (19, false)⟩,
  ⟨some 21, .call (.c (.fn (.func 39) [] [])) [.t 20, .c (.int .i64 1500)], some (19, false)⟩,
  ⟨some 22, .bin .gtr (.t 21) (.c (.int .i64 1500)), some (19, false)⟩,
  ⟨some 23, .pick (.t 19) (.c (.bool true)) (.t 22), none⟩]
def f9.r5 : List XOper := [⟨some 24, .mv (.t 5), none⟩,
  ⟨some 4, .mv (.t 24), none⟩]
def f9.r6 : List XOper := [⟨some 26, .load 4 true (.t 2), none⟩,
  ⟨some 27, .call (.c (.fn (.func 45) [] [])) [.t 26], none⟩,
  ⟨some 25, .mv (.t 27), none⟩,
  ⟨some 28, .extract (.t 25) 0, none⟩,
  ⟨some 29, .extract (.t 25) 1, none⟩,
  ⟨some 6, .mv (.t 28), none⟩,
  ⟨some 7, .mv (.t 29), none⟩]
def f9.r7 : List XOper := [⟨some 31, .load 4 true (.t 2), none⟩,
  ⟨some 32, .call (.c (.fn (.func 46) [] [])) [.t 31], none⟩,
  ⟨some 30, .mv (.t 32), none⟩,
  ⟨some 33, .extract (.t 30) 0, none⟩,
  ⟨some 34, .extract (.t 30) 1, none⟩,
  ⟨some 8, .mv (.t 33), none⟩,
  ⟨some 9, .mv (.t 34), none⟩]
def f9.r8 : List XOper := [⟨some 35, .load 4 true (.t 2), none⟩,
  ⟨some 36, .load 4 true (.t 3), none⟩,
  ⟨some 37, .call (.c (.fn (.func 47) [] [])) [.t 35, .t 36], none⟩,
  ⟨some 10, .mv (.t 37), none⟩]
def f9.r9 : List XOper := [⟨some 38, .load 4 true (.t 3), none⟩,
  ⟨some 39, .load 4 true (.t 2), none⟩,
  ⟨some 40, .call (.c (.fn (.func 48) [] [])) [.t 38, .t 39], none⟩,
  ⟨some 11, .mv (.t 40), none⟩]
def f9.r10 : List XOper := [⟨some 12, .mv (.c (.int .i64 0)), none⟩]
def f9.r11 : List XOper := [⟨some 41, .mv (.t 12), none⟩,
  ⟨some 42, .faddr 3 (.t 2), none⟩,
  ⟨some 43, .load 1 false (.t 42), none⟩,
  ⟨some 44, .len false (.t 43), none⟩,
  ⟨some 45, .bin .lss (.t 41) (.t 44), none⟩,
  ⟨some 46, .mv (.t 45), none⟩,
  ⟨some 47, .mv (.t 12), some (46, true)⟩,
  ⟨some 48, .faddr 3 (.t 3), some (46, true)⟩,
  ⟨some 49, .load 1 false (.t 48), some (46, true)⟩,
  ⟨some 50, .len false (.t 49), some (46, true)⟩,
  ⟨some 51, .bin .lss (.t 47) (.t 50), some (46, true)⟩,
  ⟨some 52, .pick (.t 46) (.t 51) (.c (.bool false)), none⟩]
def f9.r12 : List XOper := [⟨some 55, .faddr 3 (.t 2), none⟩,
  ⟨some 56, .load 1 false (.t 55), none⟩,
  ⟨some 57, .mv (.t 12), none⟩,
  ⟨some 58, .iaddr 15 (.t 56) (.t 57), none⟩,
  ⟨some 59, .faddr 4 (.t 58), none⟩,
  ⟨some 60, .load 7 true (.t 59), none⟩,
  ⟨some 61, .faddr 3 (.t 3), none⟩,
  ⟨some 62, .load 1 false (.t 61), none⟩,
  ⟨some 63, .mv (.t 12), none⟩,
  ⟨some 64, .iaddr 15 (.t 62) (.t 63), none⟩,
  ⟨some 65, .faddr 4 (.t 64), none⟩,
  ⟨some 66, .load 7 true (.t 65), none⟩,
  ⟨some 67, .call (.c (.fn (.func 49) [] [])) [.t 60, .t 66], none⟩,
  ⟨some 68, .faddr 3 (.t 2), none⟩,
  ⟨some 69, .load 1 false (.t 68), none⟩,
  ⟨some 70, .mv (.t 12), none⟩,
  ⟨some 71, .iaddr 15 (.t 69) (.t 70), none⟩,
  ⟨some 72, .faddr 4 (.t 71), none⟩,
  ⟨some 73, .load 7 true (.t 72), none⟩,
  ⟨some 74, .faddr 3 (.t 3), none⟩,
  ⟨some 75, .load 1 false (.t 74), none⟩,
  ⟨some 76, .mv (.t 12), none⟩,
  ⟨some 77, .iaddr 15 (.t 75) (.t 76), none⟩,
  ⟨some 78, .faddr 4 (.t 77), none⟩,
  ⟨some 79, .load 7 true (.t 78), none⟩,
  ⟨some 80, .call (.c (.fn (.func 50) [] [])) [.t 73, .t 79], none⟩,
  ⟨some 81, .eq true .bool (.t 67) (.t 80), none⟩]
def f9.r13 : List XOper := [⟨some 4, .mv (.c (.bool false)), none⟩]
def f9.r14 : List XOper := [⟨some 53, .mv (.t 12), none⟩,
  ⟨some 54, .bin .add (.t 53) (.c (.int .i64 1)), none⟩,
  ⟨some 12, .mv (.t 54), none⟩]
def f9.r15 : List XOper := [⟨some 82, .mv (.t 5), none⟩,
  ⟨some 83, .mv (.t 82), none⟩,
  ⟨some 84, .mv (.t 6), some (83, true)⟩,
  ⟨some 85, .mv (.t 8), some (83, true)⟩,
  ⟨some 86, .bin .eql (.t 84) (.t 85), some (83, true)⟩,
  ⟨some 87, .pick (.t 83) (.t 86) (.c (.bool false)), none⟩,
  ⟨some 88, .mv (.t 87), none⟩,
  ⟨some 89, .mv (.t 7), some (88, true)⟩,
  ⟨some 90, .mv (.t 9), some (88, true)⟩,
  ⟨some 91, .bin .eql (.t 89) (.t 90), some (88, true)⟩,
  ⟨some 92, .pick (.t 88) (.t 91) (.c (.bool false)), none⟩,
  ⟨some 93, .mv (.t 92), none⟩,
  ⟨some 94, .load 4 true (.t 2), some (93, true)⟩,
  ⟨some 95, .load 4 true (.t 3), some (93, true)⟩,
  ⟨some 96, .call (.c (.fn (.func 48) [] [])) [.t 94, .t 95], some (93, true)⟩,
  ⟨some 97, .mv (.t 10), some (93, true)⟩,
  ⟨some 98, .eq false .bool (.t 96) (.t 97), some (93, true)⟩,
  ⟨some 99, .pick (.t 93) (.t 98) (.c (.bool false)), none⟩,
  ⟨some 100, .mv (.t 99), none⟩,
  ⟨some 101, .mv (.t 11), some (100, true)⟩,
  ⟨some 102, .mv (.t 10), some (100, true)⟩,
  ⟨some 103, .eq false .bool (.t 101) (.t 102), some (100, true)⟩,
  ⟨some 104, .pick (.t 100) (.t 103) (.c (.bool false)), none⟩,
  ⟨some 105, .mv (.t 104), none⟩,
  ⟨some 106, .load 4 true (.t 2), some (105, true)⟩,
  ⟨some 107, .load 4 true (.t 2), some (105, true)⟩,
  ⟨some 108, .call (.c (.fn (.func 48) [] [])) [.t 106, .t 107], some (105, true)⟩,
  ⟨some 109, .pick (.t 105) (.t 108) (.c (.bool false)), none⟩,
  ⟨some 4, .mv (.t 109), none⟩]
def f9 : XF := ⟨110, [.t 4], .seq (.region f9.r0) (.seq (.region f9.r1) (.seq (.seq (.region f9.r2) (.cond (.t 15) (.seq (.region f9.r3) (.ret)) (.skip))) (.seq (.seq (.region f9.r4) (.cond (.t 23) (.seq (.region f9.r5) (.ret)) (.skip))) (.seq (.region f9.r6) (.seq (.region f9.r7) (.seq (.region f9.r8) (.seq (.region f9.r9) (.seq (.seq (.region f9.r10) (.block 0 (.loop (.seq (.seq (.region f9.r11) (.cond (.t 52) (.skip) (.exit 0))) (.seq (.block 1 (.seq (.regionD f9.r12 [0, 1, 0, 7, 15, 31, 0, 64, 0, 448, 960, 1984, 4095, 0, 8192, 0, 57344, 122880, 253952, 0, 524288, 0, 3670016, 7864320, 16252928, 33554431, 67108863]) (.cond (.t 81) (.seq (.region f9.r13) (.ret)) (.skip)))) (.region f9.r14)))))) (.seq (.region f9.r15) (.ret))))))))))⟩

end Go.Proofs.YtnifjgdhgnmhmaaGreatDoor
