/- Go functions, as the interpreter runs them: written by a program of this claim's own, proved to be what the compiler makes of them. No condition. -/
import Derived.Test.YtfblegjbmhgepaaZcSym
import Derived.Test.YtfblegjbmhgepaaProg
import Derived.Test.YtfblegjbmhgepaaZcKt
set_option linter.all false
namespace Go.Proofs.Ytfblegjbmhgepaa.Zt
open Go Go.Zc
set_option maxRecDepth 100000

/-! ### balise/baliselaw20.JudgeStill -/
def l20_JudgeStill_B0 : CCode :=
 (.seq
 (.seq
 (.ops [
 ⟨(some 47), (.p .mov), [.t 13], none⟩,
 ⟨(some 48), (.p (.faddr 3)), [.t 11], none⟩,
 ⟨(some 49), (.h (.load false 1)), [.t 48], none⟩,
 ⟨(some 50), (.p .len), [.t 49], none⟩,
 ⟨(some 51), (.p (.bin .lss .ifc)), [.t 47, .t 50], none⟩])
 (.cond (.t 51)
 .skip
 (.exit 0)))
 (.seq
 (.block 1 (some [1, 2, 3, 4, 11, 12, 13])
 (.seq
 (.ops [
 ⟨(some 54), (.p (.faddr 3)), [.t 11], none⟩,
 ⟨(some 55), (.h (.load false 1)), [.t 54], none⟩,
 ⟨(some 56), (.p .mov), [.t 13], none⟩,
 ⟨(some 57), (.p (.iaddr 4)), [.t 55, .t 56], none⟩,
 ⟨(some 58), (.p (.faddr 1)), [.t 57], none⟩,
 ⟨(some 59), (.h (.load false 1)), [.t 58], none⟩,
 ⟨(some 14), (.p .mov), [.t 59], none⟩])
 (.seq
 (.ops [
 ⟨(some 60), (.p .mov), [.t 13], none⟩,
 ⟨(some 61), (.p .mov), [.t 1], none⟩,
 ⟨(some 62), (.p .len), [.t 61], none⟩,
 ⟨(some 63), (.p (.bin .lss .ifc)), [.t 60, .t 62], none⟩,
 ⟨(some 64), (.p .mov), [.t 63], none⟩,
 ⟨(some 65), (.p .mov), [.t 1], (some (64, true))⟩,
 ⟨(some 66), (.p .mov), [.t 13], (some (64, true))⟩,
 ⟨(some 67), (.p (.iaddr 1)), [.t 65, .t 66], (some (64, true))⟩,
 ⟨(some 68), (.h (.load false 1)), [.t 67], (some (64, true))⟩,
 ⟨(some 69), (.p .pick), [.t 64, .t 68, .c (.bool false)], none⟩,
 ⟨(some 70), (.p .mov), [.t 13], none⟩,
 ⟨(some 71), (.p .mov), [.t 2], none⟩,
 ⟨(some 72), (.p .len), [.t 71], none⟩,
 ⟨(some 73), (.p (.bin .lss .ifc)), [.t 70, .t 72], none⟩,
 ⟨(some 74), (.p .mov), [.t 73], none⟩,
 ⟨(some 75), (.p .mov), [.t 2], (some (74, true))⟩,
 ⟨(some 76), (.p .mov), [.t 13], (some (74, true))⟩,
 ⟨(some 77), (.p (.iaddr 1)), [.t 75, .t 76], (some (74, true))⟩,
 ⟨(some 78), (.h (.load false 1)), [.t 77], (some (74, true))⟩,
 ⟨(some 79), (.p .pick), [.t 74, .t 78, .c (.bool false)], none⟩,
 ⟨(some 15), (.p .mov), [.t 69], none⟩,
 ⟨(some 16), (.p .mov), [.t 79], none⟩])
 (.ops [
 ⟨(some 80), (.p .mov), [.t 12], none⟩,
 ⟨(some 81), (.p .mov), [.t 80], none⟩,
 ⟨(some 82), (.p .mov), [.t 15], (some (81, true))⟩,
 ⟨(some 83), (.p .mov), [.t 16], (some (81, true))⟩,
 ⟨(some 84), (.p (.bin .eql .bool)), [.t 82, .t 83], (some (81, true))⟩,
 ⟨(some 85), (.p .mov), [.t 84], (some (81, true))⟩,
 ⟨(some 86), (.p .mov), [.t 14], (some (85, false))⟩,
 ⟨(some 87), (.p .mov), [.t 3], (some (85, false))⟩,
 ⟨(some 88), (.p .len), [.t 87], (some (85, false))⟩,
 ⟨(some 89), (.p (.bin .lss .ifc)), [.t 86, .t 88], (some (85, false))⟩,
 ⟨(some 90), (.p .mov), [.t 89], (some (85, false))⟩,
 ⟨(some 91), (.p .mov), [.t 3], (some (90, true))⟩,
 ⟨(some 92), (.p .mov), [.t 14], (some (90, true))⟩,
 ⟨(some 93), (.p (.iaddr 1)), [.t 91, .t 92], (some (90, true))⟩,
 ⟨(some 94), (.h (.load false 1)), [.t 93], (some (90, true))⟩,
 ⟨(some 95), (.p (.bin .eql .int)), [.t 94, .c (.int .u8 0)], (some (90, true))⟩,
 ⟨(some 96), (.p .pick), [.t 90, .t 95, .c (.bool false)], (some (85, false))⟩,
 ⟨(some 97), (.p .mov), [.t 96], (some (85, false))⟩,
 ⟨(some 98), (.p .mov), [.t 14], (some (97, true))⟩,
 ⟨(some 99), (.p .mov), [.t 4], (some (97, true))⟩,
 ⟨(some 100), (.p .len), [.t 99], (some (97, true))⟩,
 ⟨(some 101), (.p (.bin .lss .ifc)), [.t 98, .t 100], (some (97, true))⟩,
 ⟨(some 102), (.p .mov), [.t 101], (some (97, true))⟩,
 ⟨(some 103), (.p .mov), [.t 4], (some (102, true))⟩,
 ⟨(some 104), (.p .mov), [.t 14], (some (102, true))⟩,
 ⟨(some 105), (.p (.iaddr 1)), [.t 103, .t 104], (some (102, true))⟩,
 ⟨(some 106), (.h (.load false 1)), [.t 105], (some (102, true))⟩,
 ⟨(some 107), (.p .pick), [.t 102, .t 106, .c (.bool false)], (some (97, true))⟩,
 ⟨(some 108), (.p (.un .not)), [.t 107], (some (97, true))⟩,
 ⟨(some 109), (.p .pick), [.t 97, .t 108, .c (.bool false)], (some (85, false))⟩,
 ⟨(some 110), (.p .pick), [.t 85, .c (.bool true), .t 109], (some (81, true))⟩,
 ⟨(some 111), (.p .pick), [.t 81, .t 110, .c (.bool false)], none⟩,
 ⟨(some 12), (.p .mov), [.t 111], none⟩]))))
 (.ops [
 ⟨(some 52), (.p .mov), [.t 13], none⟩,
 ⟨(some 53), (.p (.bin .add .ifc)), [.t 52, .c (.int .i64 1)], none⟩,
 ⟨(some 13), (.p .mov), [.t 53], none⟩])))
def l20_JudgeStill_L0 : CCode := .bloop 0 [1, 2, 3, 4, 11, 12, 13] [1, 2, 3, 4, 11, 12] l20_JudgeStill_B0
def l20_JudgeStill_C : CCode :=
 (.seq
 (.ops [
 ⟨(some 5), (.h (.box 5)), [.t 0], none⟩,
 ⟨(some 10), (.p .mov), [.c (.bool false)], none⟩])
 (.seq
 (.seq
 (.ops [
 ⟨(some 17), .call, [.c (.fn (.func 14) [] [])], none⟩,
 ⟨(some 18), (.p (.un .not)), [.t 17], none⟩,
 ⟨(some 19), (.p .mov), [.t 18], none⟩,
 ⟨(some 20), (.h (.load true 9)), [.t 5], (some (19, false))⟩,
 ⟨(some 21), .call, [.c (.fn (.func 25) [] []), .t 20], (some (19, false))⟩,
 ⟨(some 22), (.p (.un .not)), [.t 21], (some (19, false))⟩,
 ⟨(some 23), (.p .pick), [.t 19, .c (.bool true), .t 22], none⟩,
 ⟨(some 24), (.p .mov), [.t 23], none⟩,
 ⟨(some 25), (.p .mov), [.t 1], (some (24, false))⟩,
 ⟨(some 26), (.p .len), [.t 25], (some (24, false))⟩,
 ⟨(some 27), (.p (.bin .gtr .ifc)), [.t 26, .c (.int .i64 12)], (some (24, false))⟩,
 ⟨(some 28), (.p .pick), [.t 24, .c (.bool true), .t 27], none⟩,
 ⟨(some 29), (.p .mov), [.t 28], none⟩,
 ⟨(some 30), (.p .mov), [.t 2], (some (29, false))⟩,
 ⟨(some 31), (.p .len), [.t 30], (some (29, false))⟩,
 ⟨(some 32), (.p (.bin .gtr .ifc)), [.t 31, .c (.int .i64 12)], (some (29, false))⟩,
 ⟨(some 33), (.p .pick), [.t 29, .c (.bool true), .t 32], none⟩,
 ⟨(some 34), (.p .mov), [.t 33], none⟩,
 ⟨(some 35), (.p .mov), [.t 3], (some (34, false))⟩,
 ⟨(some 36), (.p .len), [.t 35], (some (34, false))⟩,
 ⟨(some 37), (.p (.bin .gtr .ifc)), [.t 36, .c (.int .i64 40)], (some (34, false))⟩,
 ⟨(some 38), (.p .pick), [.t 34, .c (.bool true), .t 37], none⟩,
 ⟨(some 39), (.p .mov), [.t 38], none⟩,
 ⟨(some 40), (.p .mov), [.t 4], (some (39, false))⟩,
 ⟨(some 41), (.p .len), [.t 40], (some (39, false))⟩,
 ⟨(some 42), (.p (.bin .gtr .ifc)), [.t 41, .c (.int .i64 40)], (some (39, false))⟩,
 ⟨(some 43), (.p .pick), [.t 39, .c (.bool true), .t 42], none⟩])
 (.cond (.t 43)
 (.seq
 (.ops [
 ⟨(some 44), .call, [.c (.fn (.func 14) [] [])], none⟩,
 ⟨(some 10), (.p .mov), [.t 44], none⟩])
 (.ret [10]))
 .skip))
 (.seq
 (.ops [
 ⟨(some 45), (.h (.load true 9)), [.t 5], none⟩,
 ⟨(some 46), .call, [.c (.fn (.func 26) [] []), .t 45], none⟩,
 ⟨(some 11), (.h (.newl 11 [.nils, .nils, .nils, .nils, .nils, (.int .i64 0), (.int .i64 0), (.int .i64 0), (.int .i64 0), (.int .i64 0)])), [], none⟩,
 ⟨none, (.h (.store 10)), [.t 11, .t 46], none⟩])
 (.seq
 (.ops [
 ⟨(some 12), (.p .mov), [.c (.bool true)], none⟩])
 (.seq
 (.seq
 (.ops [
 ⟨(some 13), (.p .mov), [.c (.int .i64 0)], none⟩])
 l20_JudgeStill_L0)
 (.seq
 (.ops [
 ⟨(some 112), (.h (.load true 10)), [.t 11], none⟩,
 ⟨(some 113), (.p .mov), [.t 1], none⟩,
 ⟨(some 114), (.p .mov), [.t 2], none⟩,
 ⟨(some 115), (.p .mov), [.t 3], none⟩,
 ⟨(some 116), (.p .mov), [.t 4], none⟩,
 ⟨(some 117), .call, [.c (.fn (.func 27) [] []), .t 112, .t 113, .t 114, .t 115, .t 116], none⟩,
 ⟨(some 118), (.p .mov), [.t 12], none⟩,
 ⟨(some 119), (.p (.bin .eql .bool)), [.t 117, .t 118], none⟩,
 ⟨(some 120), (.p .mov), [.t 119], none⟩,
 ⟨(some 121), (.h (.load true 10)), [.t 11], (some (120, true))⟩,
 ⟨(some 122), (.p .mov), [.t 1], (some (120, true))⟩,
 ⟨(some 123), (.p .mov), [.t 1], (some (120, true))⟩,
 ⟨(some 124), .call, [.c (.fn (.func 27) [] []), .t 121, .t 122, .t 123, .c .nils, .c .nils], (some (120, true))⟩,
 ⟨(some 125), (.p .pick), [.t 120, .t 124, .c (.bool false)], none⟩,
 ⟨(some 10), (.p .mov), [.t 125], none⟩])
 (.ret [10])))))))
def l20_JudgeStill_I : FInfo := ⟨(.fz false), 5, l20_JudgeStill_C, [.tmp 10]⟩
def l20_JudgeStill_A : Ann := ⟨[], [], [(0, [1, 2, 3, 4, 11, 12, 13], [1, 2, 3, 4, 11, 12])], [(1, [1, 2, 3, 4, 11, 12, 13])], [5, 11]⟩
abbrev n_l20_JudgeStill : Nat := 6

/-! ### balise/baliselaw20.nobody -/
def l20_nobody_C : CCode :=
 (.seq
 (.ops [
 ⟨(some 0), (.p .mov), [.c (.bool false)], none⟩])
 (.seq
 (.ops [
 ⟨(some 4), (.p (.bld [(.int .u8 0), (.int .u8 0), (.int .u8 0), (.int .u16 0), (.int .u16 0), (.int .u8 0), (.int .u8 0), (.int .u8 0), .nils] [])), [], none⟩,
 ⟨(some 5), .call, [.c (.fn (.func 47) [] []), .t 4], none⟩,
 ⟨(some 1), (.h (.newl 1 [.nils, .nils, .nils, .nils, .nils, (.int .i64 0), (.int .i64 0), (.int .i64 0), (.int .i64 0), (.int .i64 0)])), [], none⟩,
 ⟨none, (.h (.store 10)), [.t 1, .t 5], none⟩])
 (.seq
 (.ops [
 ⟨(some 6), (.h (.load true 10)), [.t 1], none⟩,
 ⟨(some 7), .call, [.c (.fn (.func 32) [] []), .t 6], none⟩,
 ⟨(some 2), (.p .mov), [.t 7], none⟩])
 (.seq
 (.ops [
 ⟨(some 8), (.p .mov), [.t 2], none⟩,
 ⟨(some 9), (.h (.bslF 1 3 [(.int .u8 0)] [(0, 1), (1, 1), (2, 1)])), [.c (.int .u8 0), .c (.int .u8 0), .c (.int .u8 0)], none⟩,
 ⟨(some 10), .call, [.c (.fn (.func 19) [] []), .t 8, .t 9], none⟩,
 ⟨(some 3), (.p .mov), [.t 10], none⟩])
 (.seq
 (.ops [
 ⟨(some 11), (.p .mov), [.t 2], none⟩,
 ⟨(some 12), (.h (.bslF 1 1 [(.int .i64 0)] [(0, 1)])), [.c (.int .i64 1)], none⟩,
 ⟨(some 13), .call, [.c (.fn (.func 33) [] []), .t 11, .c (.int .i64 1), .c (.int .i64 5), .c (.int .i64 0), .c (.int .i64 1), .t 12], none⟩])
 (.seq
 (.ops [
 ⟨(some 14), (.p .mov), [.t 3], none⟩,
 ⟨(some 15), (.p .mov), [.t 14], none⟩,
 ⟨(some 16), (.p .mov), [.t 2], (some (15, true))⟩,
 ⟨(some 17), (.h (.bslF 1 3 [(.int .u8 0)] [(0, 1), (1, 1), (2, 1)])), [.c (.int .u8 0), .c (.int .u8 0), .c (.int .u8 0)], (some (15, true))⟩,
 ⟨(some 18), .call, [.c (.fn (.func 19) [] []), .t 16, .t 17], (some (15, true))⟩,
 ⟨(some 19), (.p (.un .not)), [.t 18], (some (15, true))⟩,
 ⟨(some 20), (.p .pick), [.t 15, .t 19, .c (.bool false)], none⟩,
 ⟨(some 21), (.p .mov), [.t 20], none⟩,
 ⟨(some 22), (.p .mov), [.t 2], (some (21, true))⟩,
 ⟨(some 23), (.h (.bslF 1 3 [(.int .u8 0)] [(0, 1), (1, 1), (2, 1)])), [.c (.int .u8 0), .c (.int .u8 1), .c (.int .u8 0)], (some (21, true))⟩,
 ⟨(some 24), .call, [.c (.fn (.func 19) [] []), .t 22, .t 23], (some (21, true))⟩,
 ⟨(some 25), (.p .pick), [.t 21, .t 24, .c (.bool false)], none⟩,
 ⟨(some 0), (.p .mov), [.t 25], none⟩])
 (.ret [0])))))))
def l20_nobody_I : FInfo := ⟨(.fz false), 0, l20_nobody_C, [.tmp 0]⟩
def l20_nobody_A : Ann := ⟨[], [], [], [], [1]⟩
abbrev n_l20_nobody : Nat := 14

/-! ### balise/judge.Safe -/
def judge_Safe_B0 : CCode :=
 (.seq
 (.ops [
 ⟨(some 10), (.p (.bin .lss .ifc)), [.t 9, .t 8], none⟩])
 (.seq
 (.cond (.t 10)
 .skip
 (.exit 0))
 (.seq
 (.block 1 (some [0, 7, 8, 9])
 (.seq
 (.ops [
 ⟨(some 11), (.p .mov), [.t 9], none⟩,
 ⟨(some 12), (.p (.iaddr 1)), [.t 7, .t 9], none⟩,
 ⟨(some 13), (.h (.load false 1)), [.t 12], none⟩,
 ⟨(some 5), (.p .mov), [.t 11], none⟩,
 ⟨(some 6), (.p .mov), [.t 13], none⟩])
 (.seq
 (.ops [
 ⟨(some 14), (.p .mov), [.t 6], none⟩,
 ⟨(some 15), (.p (.bin .eql .int)), [.t 14, .c (.int .u8 0)], none⟩,
 ⟨(some 16), (.p .mov), [.t 15], none⟩,
 ⟨(some 17), (.p .mov), [.t 0], (some (16, true))⟩,
 ⟨(some 18), (.p .mov), [.t 5], (some (16, true))⟩,
 ⟨(some 19), .call, [.c (.fn (.func 46) [] []), .t 17, .t 18], (some (16, true))⟩,
 ⟨(some 20), (.p .pick), [.t 16, .t 19, .c (.bool false)], none⟩])
 (.cond (.t 20)
 (.seq
 (.ops [
 ⟨(some 4), (.p .mov), [.c (.bool false)], none⟩])
 (.ret [4]))
 .skip))))
 (.ops [
 ⟨(some 21), (.p (.bin .add .ifc)), [.t 9, .c (.int .i64 1)], none⟩,
 ⟨(some 9), (.p .mov), [.t 21], none⟩]))))
def judge_Safe_L0 : CCode := .bloop 0 [0, 7, 8, 9] [] judge_Safe_B0
def judge_Safe_C : CCode :=
 (.seq
 (.ops [
 ⟨(some 4), (.p .mov), [.c (.bool false)], none⟩])
 (.seq
 (.seq
 (.ops [
 ⟨(some 7), (.p .mov), [.t 1], none⟩,
 ⟨(some 8), (.p .len), [.t 7], none⟩,
 ⟨(some 9), (.p .mov), [.c (.int .i64 0)], none⟩])
 judge_Safe_L0)
 (.seq
 (.ops [
 ⟨(some 4), (.p .mov), [.c (.bool true)], none⟩])
 (.ret [4]))))
def judge_Safe_I : FInfo := ⟨.ref, 2, judge_Safe_C, [.tmp 4]⟩
def judge_Safe_A : Ann := ⟨[], [], [(0, [0, 7, 8, 9], [])], [(1, [0, 7, 8, 9])], []⟩
abbrev n_judge_Safe : Nat := 19

/-! ### balise/judge.Still -/
def judge_Still_B0 : CCode :=
 (.seq
 (.ops [
 ⟨(some 18), (.p (.bin .lss .ifc)), [.t 17, .t 16], none⟩])
 (.seq
 (.cond (.t 18)
 .skip
 (.exit 0))
 (.seq
 (.block 1 (some [1, 2, 3, 4, 15, 16, 17])
 (.seq
 (.ops [
 ⟨(some 19), (.p .mov), [.t 17], none⟩,
 ⟨(some 20), (.p (.iaddr 4)), [.t 15, .t 17], none⟩,
 ⟨(some 21), (.h (.load true 4)), [.t 20], none⟩,
 ⟨(some 12), (.h (.newl 12 [(.int .i64 0), (.int .i64 0), (.int .i64 0), (.int .i64 0)])), [], none⟩,
 ⟨(some 11), (.p .mov), [.t 19], none⟩,
 ⟨none, (.h (.store 4)), [.t 12, .t 21], none⟩])
 (.seq
 (.ops [
 ⟨(some 22), (.p (.faddr 1)), [.t 12], none⟩,
 ⟨(some 23), (.h (.load false 1)), [.t 22], none⟩,
 ⟨(some 24), (.p (.bin .geq .ifc)), [.t 23, .c (.int .i64 0)], none⟩,
 ⟨(some 25), (.p .mov), [.t 24], none⟩,
 ⟨(some 26), (.p (.faddr 1)), [.t 12], (some (25, true))⟩,
 ⟨(some 27), (.h (.load false 1)), [.t 26], (some (25, true))⟩,
 ⟨(some 28), (.p .mov), [.t 3], (some (25, true))⟩,
 ⟨(some 29), (.p .len), [.t 28], (some (25, true))⟩,
 ⟨(some 30), (.p (.bin .lss .ifc)), [.t 27, .t 29], (some (25, true))⟩,
 ⟨(some 31), (.p .pick), [.t 25, .t 30, .c (.bool false)], none⟩,
 ⟨(some 32), (.p .mov), [.t 31], none⟩,
 ⟨(some 33), (.p .mov), [.t 3], (some (32, true))⟩,
 ⟨(some 34), (.p (.faddr 1)), [.t 12], (some (32, true))⟩,
 ⟨(some 35), (.h (.load false 1)), [.t 34], (some (32, true))⟩,
 ⟨(some 36), (.p (.iaddr 1)), [.t 33, .t 35], (some (32, true))⟩,
 ⟨(some 37), (.h (.load false 1)), [.t 36], (some (32, true))⟩,
 ⟨(some 38), (.p (.bin .eql .int)), [.t 37, .c (.int .u8 0)], (some (32, true))⟩,
 ⟨(some 39), (.p .pick), [.t 32, .t 38, .c (.bool false)], none⟩,
 ⟨(some 40), (.p .mov), [.t 39], none⟩,
 ⟨(some 41), (.p .mov), [.t 4], (some (40, true))⟩,
 ⟨(some 42), (.p (.faddr 1)), [.t 12], (some (40, true))⟩,
 ⟨(some 43), (.h (.load false 1)), [.t 42], (some (40, true))⟩,
 ⟨(some 44), .call, [.c (.fn (.func 60) [] []), .t 41, .t 43], (some (40, true))⟩,
 ⟨(some 45), (.p (.un .not)), [.t 44], (some (40, true))⟩,
 ⟨(some 46), (.p .pick), [.t 40, .t 45, .c (.bool false)], none⟩,
 ⟨(some 13), (.p .mov), [.t 46], none⟩])
 (.seq
 (.ops [
 ⟨(some 47), (.p .mov), [.t 1], none⟩,
 ⟨(some 48), (.p .mov), [.t 11], none⟩,
 ⟨(some 49), .call, [.c (.fn (.func 60) [] []), .t 47, .t 48], none⟩,
 ⟨(some 50), (.p .mov), [.t 2], none⟩,
 ⟨(some 51), (.p .mov), [.t 11], none⟩,
 ⟨(some 52), .call, [.c (.fn (.func 60) [] []), .t 50, .t 51], none⟩,
 ⟨(some 53), (.p (.bin .neq .bool)), [.t 49, .t 52], none⟩,
 ⟨(some 54), (.p .mov), [.t 53], none⟩,
 ⟨(some 55), (.p .mov), [.t 13], (some (54, true))⟩,
 ⟨(some 56), (.p (.un .not)), [.t 55], (some (54, true))⟩,
 ⟨(some 57), (.p .pick), [.t 54, .t 56, .c (.bool false)], none⟩])
 (.cond (.t 57)
 (.seq
 (.ops [
 ⟨(some 10), (.p .mov), [.c (.bool false)], none⟩])
 (.ret [10]))
 .skip)))))
 (.ops [
 ⟨(some 58), (.p (.bin .add .ifc)), [.t 17, .c (.int .i64 1)], none⟩,
 ⟨(some 17), (.p .mov), [.t 58], none⟩]))))
def judge_Still_L0 : CCode := .bloop 0 [1, 2, 3, 4, 15, 16, 17] [] judge_Still_B0
def judge_Still_C : CCode :=
 (.seq
 (.ops [
 ⟨(some 5), (.h (.box 5)), [.t 0], none⟩,
 ⟨(some 10), (.p .mov), [.c (.bool false)], none⟩])
 (.seq
 (.seq
 (.ops [
 ⟨(some 14), (.p (.faddr 3)), [.t 5], none⟩,
 ⟨(some 15), (.h (.load false 1)), [.t 14], none⟩,
 ⟨(some 16), (.p .len), [.t 15], none⟩,
 ⟨(some 17), (.p .mov), [.c (.int .i64 0)], none⟩])
 judge_Still_L0)
 (.seq
 (.ops [
 ⟨(some 10), (.p .mov), [.c (.bool true)], none⟩])
 (.ret [10]))))
def judge_Still_I : FInfo := ⟨(.fz false), 5, judge_Still_C, [.tmp 10]⟩
def judge_Still_A : Ann := ⟨[], [], [(0, [1, 2, 3, 4, 15, 16, 17], [])], [(1, [1, 2, 3, 4, 15, 16, 17])], [5, 12]⟩
abbrev n_judge_Still : Nat := 27

/-! ### balise/judge.has -/
def judge_has_C : CCode :=
 (.seq
 (.ops [
 ⟨(some 4), (.p .mov), [.c (.bool false)], none⟩])
 (.seq
 (.ops [
 ⟨(some 5), (.p .mov), [.t 1], none⟩,
 ⟨(some 6), (.p .mov), [.t 0], none⟩,
 ⟨(some 7), (.p .len), [.t 6], none⟩,
 ⟨(some 8), (.p (.bin .lss .ifc)), [.t 5, .t 7], none⟩,
 ⟨(some 9), (.p .mov), [.t 8], none⟩,
 ⟨(some 10), (.p .mov), [.t 0], (some (9, true))⟩,
 ⟨(some 11), (.p .mov), [.t 1], (some (9, true))⟩,
 ⟨(some 12), (.p (.iaddr 1)), [.t 10, .t 11], (some (9, true))⟩,
 ⟨(some 13), (.h (.load false 1)), [.t 12], (some (9, true))⟩,
 ⟨(some 14), (.p .pick), [.t 9, .t 13, .c (.bool false)], none⟩,
 ⟨(some 4), (.p .mov), [.t 14], none⟩])
 (.ret [4])))
def judge_has_I : FInfo := ⟨(.fz false), 2, judge_has_C, [.tmp 4]⟩
def judge_has_A : Ann := ⟨[], [], [], [], []⟩
abbrev n_judge_has : Nat := 60

/-! ### balise/world.New -/
def world_New_C : CCode :=
 (.seq
 (.ops [
 ⟨(some 1), (.h (.box 1)), [.t 0], none⟩,
 ⟨(some 2), (.p .mov), [.c .nilp], none⟩])
 (.seq
 (.ops [
 ⟨(some 3), (.hl 1 (.load true 10)), [.t 1], none⟩,
 ⟨(some 4), (.hl 1 (.load true 10)), [.t 1], none⟩,
 ⟨(some 5), .callv, [.c (.fn (.func 41) [] []), .t 4], none⟩,
 ⟨(some 6), (.hb .mkmap), [], none⟩,
 ⟨(some 7), (.p (.bld [.nils, .nils, .nils, .nils, .nils, (.int .i64 0), (.int .i64 0), (.int .i64 0), (.int .i64 0), (.int .i64 0), .nilp, .nilm] [(0, 10), (10, 1), (11, 1)])), [.t 3, .t 5, .t 6], none⟩,
 ⟨(some 8), (.hb .boxh), [.t 7], none⟩,
 ⟨(some 2), (.p .mov), [.t 8], none⟩])
 (.ret [2])))
def world_New_I : FInfo := ⟨.ref, 1, world_New_C, [.tmp 2]⟩
def world_New_A : Ann := ⟨[8], [], [], [], [1]⟩
abbrev n_world_New : Nat := 32

/-! ### (*balise/world.World).Under -/
def world_World_Under_B0 : CCode :=
 (.seq
 (.ops [
 ⟨(some 24), (.p (.bin .lss .ifc)), [.t 23, .t 22], none⟩])
 (.seq
 (.cond (.t 24)
 .skip
 (.exit 0))
 (.seq
 (.block 1 (some [6, 21, 22, 23])
 (.seq
 (.ops [
 ⟨(some 25), (.p (.iaddr 2)), [.t 21, .t 23], none⟩,
 ⟨(some 26), (.h (.load true 2)), [.t 25], none⟩,
 ⟨(some 8), (.h (.newl 8 [(.int .i64 0), (.int .i64 0)])), [], none⟩,
 ⟨none, (.h (.store 2)), [.t 8, .t 26], none⟩])
 (.ops [
 ⟨(some 27), (.p .mov), [.t 6], none⟩,
 ⟨(some 28), (.p (.faddr 0)), [.t 8], none⟩,
 ⟨(some 29), (.h (.load false 1)), [.t 28], none⟩,
 ⟨(some 30), (.h (.bslF 1 1 [(.int .i64 0)] [(0, 1)])), [.t 29], none⟩,
 ⟨(some 31), (.h (.app 1 8 [(.int .i64 0)])), [.t 27, .t 30], none⟩,
 ⟨(some 6), (.p .mov), [.t 31], none⟩])))
 (.ops [
 ⟨(some 32), (.p (.bin .add .ifc)), [.t 23, .c (.int .i64 1)], none⟩,
 ⟨(some 23), (.p .mov), [.t 32], none⟩]))))
def world_World_Under_L0 : CCode := .bloop 0 [6, 21, 22, 23] [6] world_World_Under_B0
def world_World_Under_C : CCode :=
 (.seq
 (.ops [
 ⟨(some 4), (.p .mov), [.c .nils], none⟩])
 (.seq
 (.ops [
 ⟨(some 9), (.p .mov), [.t 0], none⟩,
 ⟨(some 10), (.p .mov), [.t 1], none⟩,
 ⟨(some 11), .call, [.c (.fn (.func 70) [] []), .t 9, .t 10], none⟩,
 ⟨(some 5), (.p .mov), [.t 11], none⟩])
 (.seq
 (.seq
 (.ops [
 ⟨(some 12), (.p .mov), [.t 5], none⟩,
 ⟨(some 13), (.p (.bin .eql .ptr)), [.t 12, .c .nilp], none⟩])
 (.cond (.t 13)
 (.seq
 (.ops [
 ⟨(some 4), (.p .mov), [.c .nils], none⟩])
 (.ret [4]))
 .skip))
 (.seq
 (.ops [
 ⟨(some 6), (.p .mov), [.c .nils], none⟩])
 (.seq
 (.seq
 (.ops [
 ⟨(some 14), (.p .mov), [.t 5], none⟩,
 ⟨(some 15), (.p .nchk), [.t 14], none⟩,
 ⟨(some 16), (.p (.faddr 2)), [.t 15], none⟩,
 ⟨(some 17), (.hb (.load false 1)), [.t 16], none⟩,
 ⟨(some 18), (.p .mov), [.t 0], none⟩,
 ⟨(some 19), (.p .mov), [.t 5], none⟩,
 ⟨(some 20), .callp, [.c (.fn (.func 72) [] []), .t 18, .t 19], none⟩,
 ⟨(some 21), (.p (.slc 2 false true)), [.t 17, .t 20], none⟩,
 ⟨(some 22), (.p .len), [.t 21], none⟩,
 ⟨(some 23), (.p .mov), [.c (.int .i64 0)], none⟩])
 world_World_Under_L0)
 (.seq
 (.ops [
 ⟨(some 33), (.p .mov), [.t 6], none⟩,
 ⟨(some 4), (.p .mov), [.t 33], none⟩])
 (.ret [4])))))))
def world_World_Under_I : FInfo := ⟨.ref, 2, world_World_Under_C, [.tmp 4]⟩
def world_World_Under_A : Ann := ⟨[], [], [(0, [6, 21, 22, 23], [6])], [(1, [6, 21, 22, 23])], [8]⟩
abbrev n_world_World_Under : Nat := 37

/-! ### (*balise/world.World).Add -/
def world_World_Add_C : CCode :=
 (.seq
 (.ops [
 ⟨(some 12), (.p .mov), [.c (.int .i64 0)], none⟩])
 (.seq
 (.block 0 (some [0, 1, 2, 3, 4, 5])
 (.seq
 (.ops [
 ⟨(some 14), (.p .mov), [.t 0], none⟩,
 ⟨(some 15), (.p (.bin .eql .ptr)), [.t 14, .c .nilp], none⟩,
 ⟨(some 13), (.p .mov), [.t 15], none⟩])
 (.cond (.t 13)
 (.seq
 (.ops [
 ⟨(some 12), (.p .mov), [.c (.int .i64 7)], none⟩])
 (.ret [12]))
 (.seq
 (.ops [
 ⟨(some 17), (.p .mov), [.t 0], none⟩,
 ⟨(some 18), (.p .mov), [.t 1], none⟩,
 ⟨(some 19), .call, [.c (.fn (.func 66) [] []), .t 17, .t 18], none⟩,
 ⟨(some 16), (.p .mov), [.t 19], none⟩])
 (.cond (.t 16)
 (.seq
 (.ops [
 ⟨(some 12), (.p .mov), [.c (.int .i64 8)], none⟩])
 (.ret [12]))
 (.seq
 (.ops [
 ⟨(some 21), (.p .mov), [.t 0], none⟩,
 ⟨(some 22), (.p .nchk), [.t 21], none⟩,
 ⟨(some 23), (.p (.faddr 10)), [.t 22], none⟩,
 ⟨(some 24), (.h (.load false 1)), [.t 23], none⟩,
 ⟨(some 25), (.p .mov), [.t 4], none⟩,
 ⟨(some 26), (.p .mov), [.t 3], none⟩,
 ⟨(some 27), (.p .mov), [.t 5], none⟩,
 ⟨(some 28), (.p (.bld [(.int .u8 0), (.int .i64 0), (.int .i64 0), (.int .i64 0), (.int .i64 0), (.bool false), .nils] [(0, 1), (3, 1), (4, 1), (6, 1)])), [.c (.int .u8 3), .t 25, .t 26, .t 27], none⟩,
 ⟨(some 29), .call, [.c (.fn (.func 43) [] []), .t 24, .t 28], none⟩,
 ⟨(some 30), (.p (.un .not)), [.t 29], none⟩,
 ⟨(some 20), (.p .mov), [.t 30], none⟩])
 (.cond (.t 20)
 (.seq
 (.ops [
 ⟨(some 12), (.p .mov), [.c (.int .i64 1)], none⟩])
 (.ret [12]))
 (.seq
 (.ops [
 ⟨(some 32), (.p .mov), [.t 3], none⟩,
 ⟨(some 33), (.p .mov), [.t 0], none⟩,
 ⟨(some 34), (.p .nchk), [.t 33], none⟩,
 ⟨(some 35), (.p (.faddr 10)), [.t 34], none⟩,
 ⟨(some 36), (.h (.load false 1)), [.t 35], none⟩,
 ⟨(some 37), (.p .mov), [.t 5], none⟩,
 ⟨(some 38), (.p (.iaddr 1)), [.t 37, .c (.int .i64 0)], none⟩,
 ⟨(some 39), (.h (.load false 1)), [.t 38], none⟩,
 ⟨(some 40), .call, [.c (.fn (.func 67) [] []), .t 36, .t 39], none⟩,
 ⟨(some 41), (.p (.bin .geq .ifc)), [.t 32, .t 40], none⟩,
 ⟨(some 42), (.p .mov), [.t 41], none⟩,
 ⟨(some 43), (.p .mov), [.t 2], (some (42, false))⟩,
 ⟨(some 44), (.p (.bin .lss .ifc)), [.t 43, .c (.int .i64 1)], (some (42, false))⟩,
 ⟨(some 45), (.p .pick), [.t 42, .c (.bool true), .t 44], none⟩,
 ⟨(some 46), (.p .mov), [.t 45], none⟩,
 ⟨(some 47), (.p .mov), [.t 2], (some (46, false))⟩,
 ⟨(some 48), (.p .mov), [.t 0], (some (46, false))⟩,
 ⟨(some 49), (.p .mov), [.t 3], (some (46, false))⟩,
 ⟨(some 50), (.p .mov), [.t 5], (some (46, false))⟩,
 ⟨(some 51), .call, [.c (.fn (.func 68) [] []), .t 48, .t 49, .t 50], (some (46, false))⟩,
 ⟨(some 52), (.p (.bin .gtr .ifc)), [.t 47, .t 51], (some (46, false))⟩,
 ⟨(some 53), (.p .pick), [.t 46, .c (.bool true), .t 52], none⟩,
 ⟨(some 31), (.p .mov), [.t 53], none⟩])
 (.cond (.t 31)
 (.seq
 (.ops [
 ⟨(some 12), (.p .mov), [.c (.int .i64 1)], none⟩])
 (.ret [12]))
 .skip)))))))))
 (.seq
 (.ops [
 ⟨(some 54), (.p .mov), [.t 0], none⟩,
 ⟨(some 55), (.p .nchk), [.t 54], none⟩,
 ⟨(some 56), (.p (.faddr 11)), [.t 55], none⟩,
 ⟨(some 57), (.hb (.load false 1)), [.t 56], none⟩,
 ⟨(some 58), (.p .mov), [.t 1], none⟩,
 ⟨(some 59), (.p .mov), [.t 2], none⟩,
 ⟨(some 60), (.p .mov), [.t 3], none⟩,
 ⟨(some 61), (.p .mov), [.t 0], none⟩,
 ⟨(some 62), (.p .mov), [.t 4], none⟩,
 ⟨(some 63), (.p .mov), [.t 5], none⟩,
 ⟨(some 64), .callp, [.c (.fn (.func 69) [] []), .t 61, .t 62, .t 63], none⟩,
 ⟨(some 65), (.p (.bld [(.int .i64 0), (.int .i64 0), .nils] [(0, 1), (1, 1), (2, 1)])), [.t 59, .t 60, .t 64], none⟩,
 ⟨(some 66), (.hb .boxh), [.t 65], none⟩,
 ⟨none, (.hb (.mput 0)), [.t 57, .t 58, .t 66], none⟩])
 (.seq
 (.ops [
 ⟨(some 12), (.p .mov), [.c (.int .i64 0)], none⟩])
 (.ret [12])))))
def world_World_Add_I : FInfo := ⟨.ref, 6, world_World_Add_C, [.tmp 12]⟩
def world_World_Add_A : Ann := ⟨[66], [], [], [(0, [0, 1, 2, 3, 4, 5])], []⟩
abbrev n_world_World_Add : Nat := 33

/-! ### (*balise/world.World).All -/
def world_World_All_C : CCode :=
 (.seq
 (.ops [
 ⟨(some 2), (.p .mov), [.c .nils], none⟩])
 (.seq
 (.seq
 (.ops [
 ⟨(some 3), (.p .mov), [.t 0], none⟩,
 ⟨(some 4), (.p (.bin .eql .ptr)), [.t 3, .c .nilp], none⟩])
 (.cond (.t 4)
 (.seq
 (.ops [
 ⟨(some 2), (.p .mov), [.c .nils], none⟩])
 (.ret [2]))
 .skip))
 (.seq
 (.ops [
 ⟨(some 5), (.p .mov), [.t 0], none⟩,
 ⟨(some 6), (.p .nchk), [.t 5], none⟩,
 ⟨(some 7), (.p (.faddr 11)), [.t 6], none⟩,
 ⟨(some 8), (.h (.load false 1)), [.t 7], none⟩,
 ⟨(some 9), .call, [.c (.fn (.func 74) [] []), .t 8], none⟩,
 ⟨(some 10), .call, [.c (.fn (.func 61) [] []), .t 9], none⟩,
 ⟨(some 2), (.p .mov), [.t 10], none⟩])
 (.ret [2]))))
def world_World_All_I : FInfo := ⟨.ref, 1, world_World_All_C, [.tmp 2]⟩
def world_World_All_A : Ann := ⟨[], [], [], [], []⟩
abbrev n_world_World_All : Nat := 40

/-! ### (*balise/world.World).Inside -/
def world_World_Inside_C : CCode :=
 (.seq
 (.ops [
 ⟨(some 2), (.h .boxh), [.t 0], none⟩,
 ⟨(some 3), (.h .boxh), [.t 1], none⟩,
 ⟨(some 4), (.p .mov), [.c (.bool false)], none⟩])
 (.seq
 (.ops [
 ⟨(some 5), (.h (.load false 1)), [.t 2], none⟩,
 ⟨(some 6), .call, [.c (.fn (.func 40) [] []), .t 5], none⟩,
 ⟨(some 7), (.p (.mkfn (.func 81) 0)), [.t 2, .t 3], none⟩,
 ⟨(some 8), .call, [.c (.fn (.func 57) [] []), .t 6, .t 7], none⟩,
 ⟨(some 4), (.p .mov), [.t 8], none⟩])
 (.ret [4])))
def world_World_Inside_I : FInfo := ⟨.ref, 2, world_World_Inside_C, [.tmp 4]⟩
def world_World_Inside_A : Ann := ⟨[2, 3], [], [], [], []⟩
abbrev n_world_World_Inside : Nat := 46

/-! ### (*balise/world.World).Inside$1 -/
def world_World_Inside_1_C : CCode :=
 (.seq
 (.ops [
 ⟨(some 4), (.p .mov), [.c (.bool false)], none⟩])
 (.seq
 (.ops [
 ⟨(some 5), (.hb (.load false 1)), [.t 1], none⟩,
 ⟨(some 6), (.p .mov), [.t 0], none⟩,
 ⟨(some 7), .callp, [.c (.fn (.func 37) [] []), .t 5, .t 6], none⟩,
 ⟨(some 8), (.hb (.load false 1)), [.t 2], none⟩,
 ⟨(some 9), .callb, [.c (.fn (.func 59) [] []), .t 7, .t 8], none⟩,
 ⟨(some 4), (.p .mov), [.t 9], none⟩])
 (.ret [4])))
def world_World_Inside_1_I : FInfo := ⟨.ref, 3, world_World_Inside_1_C, [.tmp 4]⟩
def world_World_Inside_1_A : Ann := ⟨[], [], [], [], []⟩
abbrev n_world_World_Inside_1 : Nat := 81

/-! ### (*balise/world.World).get -/
def world_World_get_C : CCode :=
 (.seq
 (.ops [
 ⟨(some 4), (.p .mov), [.c .nilp], none⟩])
 (.seq
 (.seq
 (.ops [
 ⟨(some 5), (.p .mov), [.t 0], none⟩,
 ⟨(some 6), (.p (.bin .eql .ptr)), [.t 5, .c .nilp], none⟩])
 (.cond (.t 6)
 (.seq
 (.ops [
 ⟨(some 4), (.p .mov), [.c .nilp], none⟩])
 (.ret [4]))
 .skip))
 (.seq
 (.ops [
 ⟨(some 7), (.p .mov), [.t 0], none⟩,
 ⟨(some 8), (.p .nchk), [.t 7], none⟩,
 ⟨(some 9), (.p (.faddr 11)), [.t 8], none⟩,
 ⟨(some 10), (.h (.load false 1)), [.t 9], none⟩,
 ⟨(some 11), (.p .mov), [.t 1], none⟩,
 ⟨(some 12), (.h (.look 0 .nilp false)), [.t 10, .t 11], none⟩,
 ⟨(some 4), (.p .mov), [.t 12], none⟩])
 (.ret [4]))))
def world_World_get_I : FInfo := ⟨.ref, 2, world_World_get_C, [.tmp 4]⟩
def world_World_get_A : Ann := ⟨[], [], [], [], []⟩
abbrev n_world_World_get : Nat := 70

/-! ### (*balise/world.World).under -/
def world_World_under_B0 : CCode :=
 (.seq
 (.seq
 (.ops [
 ⟨(some 16), (.p .mov), [.t 6], none⟩,
 ⟨(some 17), (.p (.bin .gtr .ifc)), [.t 16, .c (.int .i64 0)], none⟩,
 ⟨(some 18), (.p .mov), [.t 17], none⟩,
 ⟨(some 19), (.p .mov), [.t 5], (some (18, true))⟩,
 ⟨(some 20), (.p .mov), [.t 1], (some (18, true))⟩,
 ⟨(some 21), (.p .nchk), [.t 20], (some (18, true))⟩,
 ⟨(some 22), (.p (.faddr 2)), [.t 21], (some (18, true))⟩,
 ⟨(some 23), (.h (.load false 1)), [.t 22], (some (18, true))⟩,
 ⟨(some 24), (.p .len), [.t 23], (some (18, true))⟩,
 ⟨(some 25), (.p (.bin .lss .ifc)), [.t 19, .t 24], (some (18, true))⟩,
 ⟨(some 26), (.p .pick), [.t 18, .t 25, .c (.bool false)], none⟩])
 (.cond (.t 26)
 .skip
 (.exit 0)))
 (.block 1 (some [0, 1, 5, 6])
 (.seq
 (.ops [
 ⟨(some 27), (.p .mov), [.t 6], none⟩,
 ⟨(some 28), (.p .mov), [.t 0], none⟩,
 ⟨(some 29), (.p .nchk), [.t 28], none⟩,
 ⟨(some 30), (.p (.faddr 10)), [.t 29], none⟩,
 ⟨(some 31), (.h (.load false 1)), [.t 30], none⟩,
 ⟨(some 32), (.p .mov), [.t 1], none⟩,
 ⟨(some 33), (.p .nchk), [.t 32], none⟩,
 ⟨(some 34), (.p (.faddr 2)), [.t 33], none⟩,
 ⟨(some 35), (.h (.load false 1)), [.t 34], none⟩,
 ⟨(some 36), (.p .mov), [.t 5], none⟩,
 ⟨(some 37), (.p (.iaddr 2)), [.t 35, .t 36], none⟩,
 ⟨(some 38), (.p (.faddr 0)), [.t 37], none⟩,
 ⟨(some 39), (.h (.load false 1)), [.t 38], none⟩,
 ⟨(some 40), .call, [.c (.fn (.func 67) [] []), .t 31, .t 39], none⟩,
 ⟨(some 41), (.p (.bin .sub .ifc)), [.t 27, .t 40], none⟩,
 ⟨(some 6), (.p .mov), [.t 41], none⟩])
 (.ops [
 ⟨(some 42), (.p .mov), [.t 5], none⟩,
 ⟨(some 43), (.p (.bin .add .ifc)), [.t 42, .c (.int .i64 1)], none⟩,
 ⟨(some 5), (.p .mov), [.t 43], none⟩]))))
def world_World_under_L0 : CCode := .bloop 0 [0, 1, 5, 6] [5] world_World_under_B0
def world_World_under_C : CCode :=
 (.seq
 (.ops [
 ⟨(some 4), (.p .mov), [.c (.int .i64 0)], none⟩])
 (.seq
 (.ops [
 ⟨(some 7), (.p .mov), [.t 1], none⟩,
 ⟨(some 8), (.p .nchk), [.t 7], none⟩,
 ⟨(some 9), (.p (.faddr 0)), [.t 8], none⟩,
 ⟨(some 10), (.h (.load false 1)), [.t 9], none⟩,
 ⟨(some 11), (.p .mov), [.t 1], none⟩,
 ⟨(some 12), (.p .nchk), [.t 11], none⟩,
 ⟨(some 13), (.p (.faddr 1)), [.t 12], none⟩,
 ⟨(some 14), (.h (.load false 1)), [.t 13], none⟩,
 ⟨(some 15), (.p (.bin .add .ifc)), [.t 10, .t 14], none⟩,
 ⟨(some 5), (.p .mov), [.c (.int .i64 0)], none⟩,
 ⟨(some 6), (.p .mov), [.t 15], none⟩])
 (.seq
 world_World_under_L0
 (.seq
 (.ops [
 ⟨(some 44), (.p .mov), [.t 5], none⟩,
 ⟨(some 4), (.p .mov), [.t 44], none⟩])
 (.ret [4])))))
def world_World_under_I : FInfo := ⟨.ref, 2, world_World_under_C, [.tmp 4]⟩
def world_World_under_A : Ann := ⟨[], [], [(0, [0, 1, 5, 6], [5])], [(1, [0, 1, 5, 6])], []⟩
abbrev n_world_World_under : Nat := 72

/-! ### (*balise/world.World).full -/
def world_World_full_C : CCode :=
 (.seq
 (.ops [
 ⟨(some 4), (.p .mov), [.c (.bool false)], none⟩])
 (.seq
 (.ops [
 ⟨(some 5), (.p .mov), [.t 0], none⟩,
 ⟨(some 6), (.p .nchk), [.t 5], none⟩,
 ⟨(some 7), (.p (.faddr 11)), [.t 6], none⟩,
 ⟨(some 8), (.h (.load false 1)), [.t 7], none⟩,
 ⟨(some 9), (.p .mov), [.t 1], none⟩,
 ⟨(some 10), (.h (.look 0 .nilp false)), [.t 8, .t 9], none⟩,
 ⟨(some 11), (.p (.bin .neq .ptr)), [.t 10, .c .nilp], none⟩,
 ⟨(some 12), (.p .mov), [.t 11], none⟩,
 ⟨(some 13), (.p .mov), [.t 0], (some (12, false))⟩,
 ⟨(some 14), (.p .nchk), [.t 13], (some (12, false))⟩,
 ⟨(some 15), (.p (.faddr 11)), [.t 14], (some (12, false))⟩,
 ⟨(some 16), (.h (.load false 1)), [.t 15], (some (12, false))⟩,
 ⟨(some 17), (.h .lenM), [.t 16], (some (12, false))⟩,
 ⟨(some 18), (.p (.bin .geq .ifc)), [.t 17, .c (.int .i64 6)], (some (12, false))⟩,
 ⟨(some 19), (.p .pick), [.t 12, .c (.bool true), .t 18], none⟩,
 ⟨(some 4), (.p .mov), [.t 19], none⟩])
 (.ret [4])))
def world_World_full_I : FInfo := ⟨.ref, 2, world_World_full_C, [.tmp 4]⟩
def world_World_full_A : Ann := ⟨[], [], [], [], []⟩
abbrev n_world_World_full : Nat := 66

/-! ### (*balise/world.World).room -/
def world_World_room_B0 : CCode :=
 (.seq
 (.ops [
 ⟨(some 15), (.p (.bin .lss .ifc)), [.t 14, .t 13], none⟩])
 (.seq
 (.cond (.t 15)
 .skip
 (.exit 0))
 (.seq
 (.block 1 (some [0, 7, 12, 13, 14])
 (.seq
 (.ops [
 ⟨(some 16), (.p (.iaddr 1)), [.t 12, .t 14], none⟩,
 ⟨(some 17), (.h (.load false 1)), [.t 16], none⟩,
 ⟨(some 9), (.p .mov), [.t 17], none⟩])
 (.ops [
 ⟨(some 18), (.p .mov), [.t 7], none⟩,
 ⟨(some 19), (.p .mov), [.t 0], none⟩,
 ⟨(some 20), (.p .nchk), [.t 19], none⟩,
 ⟨(some 21), (.p (.faddr 10)), [.t 20], none⟩,
 ⟨(some 22), (.h (.load false 1)), [.t 21], none⟩,
 ⟨(some 23), (.p .mov), [.t 9], none⟩,
 ⟨(some 24), .call, [.c (.fn (.func 67) [] []), .t 22, .t 23], none⟩,
 ⟨(some 25), (.p (.bin .add .ifc)), [.t 18, .t 24], none⟩,
 ⟨(some 7), (.p .mov), [.t 25], none⟩])))
 (.ops [
 ⟨(some 26), (.p (.bin .add .ifc)), [.t 14, .c (.int .i64 1)], none⟩,
 ⟨(some 14), (.p .mov), [.t 26], none⟩]))))
def world_World_room_L0 : CCode := .bloop 0 [0, 7, 12, 13, 14] [7] world_World_room_B0
def world_World_room_C : CCode :=
 (.seq
 (.ops [
 ⟨(some 6), (.p .mov), [.c (.int .i64 0)], none⟩])
 (.seq
 (.ops [
 ⟨(some 10), (.p .mov), [.t 1], none⟩,
 ⟨(some 11), (.p (.un .neg)), [.t 10], none⟩,
 ⟨(some 7), (.p .mov), [.t 11], none⟩])
 (.seq
 (.seq
 (.ops [
 ⟨(some 12), (.p .mov), [.t 2], none⟩,
 ⟨(some 13), (.p .len), [.t 12], none⟩,
 ⟨(some 14), (.p .mov), [.c (.int .i64 0)], none⟩])
 world_World_room_L0)
 (.seq
 (.ops [
 ⟨(some 27), (.p .mov), [.t 7], none⟩,
 ⟨(some 6), (.p .mov), [.t 27], none⟩])
 (.ret [6])))))
def world_World_room_I : FInfo := ⟨.ref, 3, world_World_room_C, [.tmp 6]⟩
def world_World_room_A : Ann := ⟨[], [], [(0, [0, 7, 12, 13, 14], [7])], [(1, [0, 7, 12, 13, 14])], []⟩
abbrev n_world_World_room : Nat := 68

/-! ### (*balise/world.World).way -/
def world_World_way_B2 : CCode :=
 (.seq
 (.ops [
 ⟨(some 50), (.p (.bin .lss .ifc)), [.t 49, .t 48], none⟩])
 (.seq
 (.cond (.t 50)
 .skip
 (.exit 2))
 (.seq
 (.block 3 (some [0, 7, 9, 20, 21, 22, 47, 48, 49])
 (.seq
 (.ops [
 ⟨(some 51), (.p (.iaddr 2)), [.t 47, .t 49], none⟩,
 ⟨(some 52), (.h (.load true 2)), [.t 51], none⟩,
 ⟨(some 12), (.h (.newl 12 [(.int .i64 0), (.int .i64 0)])), [], none⟩,
 ⟨none, (.h (.store 2)), [.t 12, .t 52], none⟩])
 (.seq
 (.ops [
 ⟨(some 53), (.p (.faddr 0)), [.t 12], none⟩,
 ⟨(some 54), (.h (.load false 1)), [.t 53], none⟩,
 ⟨(some 55), (.p .mov), [.t 9], none⟩,
 ⟨(some 56), (.p (.bin .eql .int)), [.t 54, .t 55], none⟩])
 (.cond (.t 56)
 (.seq
 (.ops [
 ⟨(some 57), (.p .mov), [.t 7], none⟩,
 ⟨(some 58), (.h (.load true 2)), [.t 12], none⟩,
 ⟨(some 59), (.h (.bslF 2 1 [(.int .i64 0), (.int .i64 0)] [(0, 2)])), [.t 58], none⟩,
 ⟨(some 60), (.h (.app 2 16 [(.int .i64 0), (.int .i64 0)])), [.t 57, .t 59], none⟩,
 ⟨(some 7), (.p .mov), [.t 60], none⟩])
 (.exit 2))
 .skip))))
 (.ops [
 ⟨(some 61), (.p (.bin .add .ifc)), [.t 49, .c (.int .i64 1)], none⟩,
 ⟨(some 49), (.p .mov), [.t 61], none⟩]))))
def world_World_way_L2 : CCode := .bloop 2 [0, 7, 9, 20, 21, 22, 47, 48, 49] [0, 7, 20, 21, 22] world_World_way_B2

def world_World_way_B0 : CCode :=
 (.seq
 (.ops [
 ⟨(some 23), (.p (.bin .lss .ifc)), [.t 22, .t 21], none⟩])
 (.seq
 (.cond (.t 23)
 .skip
 (.exit 0))
 (.seq
 (.block 1 (some [0, 7, 20, 21, 22])
 (.seq
 (.ops [
 ⟨(some 24), (.p (.iaddr 1)), [.t 20, .t 22], none⟩,
 ⟨(some 25), (.h (.load false 1)), [.t 24], none⟩,
 ⟨(some 9), (.p .mov), [.t 25], none⟩])
 (.seq
 (.ops [
 ⟨(some 26), (.p .mov), [.t 7], none⟩,
 ⟨(some 27), (.p .mov), [.t 7], none⟩,
 ⟨(some 28), (.p .len), [.t 27], none⟩,
 ⟨(some 29), (.p (.bin .sub .ifc)), [.t 28, .c (.int .i64 1)], none⟩,
 ⟨(some 30), (.p (.iaddr 2)), [.t 26, .t 29], none⟩,
 ⟨(some 31), (.p (.faddr 0)), [.t 30], none⟩,
 ⟨(some 32), (.hb (.load false 1)), [.t 31], none⟩,
 ⟨(some 33), (.p .mov), [.t 7], none⟩,
 ⟨(some 34), (.p .mov), [.t 7], none⟩,
 ⟨(some 35), (.p .len), [.t 34], none⟩,
 ⟨(some 36), (.p (.bin .sub .ifc)), [.t 35, .c (.int .i64 1)], none⟩,
 ⟨(some 37), (.p (.iaddr 2)), [.t 33, .t 36], none⟩,
 ⟨(some 38), (.p (.faddr 1)), [.t 37], none⟩,
 ⟨(some 39), (.hb (.load false 1)), [.t 38], none⟩,
 ⟨(some 40), (.p (.bin .sub .ifc)), [.c (.int .i64 1), .t 39], none⟩,
 ⟨(some 41), (.p (.bld [(.int .i64 0), (.int .i64 0)] [(0, 1), (1, 1)])), [.t 32, .t 40], none⟩,
 ⟨(some 10), (.h (.newl 10 [(.int .i64 0), (.int .i64 0)])), [], none⟩,
 ⟨none, (.hl 10 (.store 2)), [.t 10, .t 41], none⟩])
 (.seq
 (.ops [
 ⟨(some 42), (.p .mov), [.t 0], none⟩,
 ⟨(some 43), (.p .nchk), [.t 42], none⟩,
 ⟨(some 44), (.p (.faddr 10)), [.t 43], none⟩,
 ⟨(some 45), (.h (.load false 1)), [.t 44], none⟩,
 ⟨(some 46), (.h (.load true 2)), [.t 10], none⟩,
 ⟨(some 47), .call, [.c (.fn (.func 76) [] []), .t 45, .t 46], none⟩,
 ⟨(some 48), (.p .len), [.t 47], none⟩,
 ⟨(some 49), (.p .mov), [.c (.int .i64 0)], none⟩])
 world_World_way_L2))))
 (.ops [
 ⟨(some 62), (.p (.bin .add .ifc)), [.t 22, .c (.int .i64 1)], none⟩,
 ⟨(some 22), (.p .mov), [.t 62], none⟩]))))
def world_World_way_L0 : CCode := .bloop 0 [0, 7, 20, 21, 22] [7] world_World_way_B0
def world_World_way_C : CCode :=
 (.seq
 (.ops [
 ⟨(some 6), (.p .mov), [.c .nils], none⟩])
 (.seq
 (.ops [
 ⟨(some 13), (.p .mov), [.t 2], none⟩,
 ⟨(some 14), (.p (.iaddr 1)), [.t 13, .c (.int .i64 0)], none⟩,
 ⟨(some 15), (.h (.load false 1)), [.t 14], none⟩,
 ⟨(some 16), (.p .mov), [.t 1], none⟩,
 ⟨(some 17), (.p (.bld [(.int .i64 0), (.int .i64 0)] [(0, 1), (1, 1)])), [.t 15, .t 16], none⟩,
 ⟨(some 18), (.h (.bslO 2 1 [(.int .i64 0), (.int .i64 0)] [(0, 2)])), [.t 17], none⟩,
 ⟨(some 7), (.p .mov), [.t 18], none⟩])
 (.seq
 (.seq
 (.ops [
 ⟨(some 19), (.p .mov), [.t 2], none⟩,
 ⟨(some 20), (.p (.slc 1 true false)), [.t 19, .c (.int .i64 1)], none⟩,
 ⟨(some 21), (.p .len), [.t 20], none⟩,
 ⟨(some 22), (.p .mov), [.c (.int .i64 0)], none⟩])
 world_World_way_L0)
 (.seq
 (.ops [
 ⟨(some 63), (.p .mov), [.t 7], none⟩,
 ⟨(some 6), (.p .mov), [.t 63], none⟩])
 (.ret [6])))))
def world_World_way_I : FInfo := ⟨.ref, 3, world_World_way_C, [.tmp 6]⟩
def world_World_way_A : Ann := ⟨[], [18], [(0, [0, 7, 20, 21, 22], [7]), (2, [0, 7, 9, 20, 21, 22, 47, 48, 49], [0, 7, 20, 21, 22])], [(1, [0, 7, 20, 21, 22]), (3, [0, 7, 9, 20, 21, 22, 47, 48, 49])], [10, 12]⟩
abbrev n_world_World_way : Nat := 69

/-! ### slices.ContainsFunc[[]int,int] -/
def slices_ContainsFunc_int_C : CCode :=
 (.seq
 (.ops [
 ⟨(some 4), (.p .mov), [.c (.bool false)], none⟩])
 (.seq
 (.ops [
 ⟨(some 5), (.p .mov), [.t 0], none⟩,
 ⟨(some 6), (.p .mov), [.t 1], none⟩,
 ⟨(some 7), .call, [.c (.fn (.func 84) [] []), .t 5, .t 6], none⟩,
 ⟨(some 8), (.p (.bin .geq .ifc)), [.t 7, .c (.int .i64 0)], none⟩,
 ⟨(some 4), (.p .mov), [.t 8], none⟩])
 (.ret [4])))
def slices_ContainsFunc_int_I : FInfo := ⟨.ref, 2, slices_ContainsFunc_int_C, [.tmp 4]⟩
def slices_ContainsFunc_int_A : Ann := ⟨[], [], [], [], []⟩
abbrev n_slices_ContainsFunc_int : Nat := 57

/-! ### slices.IndexFunc[[]int,int] -/
def slices_IndexFunc_Int_B0 : CCode :=
 (.seq
 (.ops [
 ⟨(some 9), (.p (.bin .lss .ifc)), [.t 8, .t 7], none⟩])
 (.seq
 (.cond (.t 9)
 .skip
 (.exit 0))
 (.seq
 (.block 1 (some [0, 1, 7, 8])
 (.seq
 (.ops [
 ⟨(some 10), (.p .mov), [.t 8], none⟩,
 ⟨(some 5), (.p .mov), [.t 10], none⟩])
 (.seq
 (.ops [
 ⟨(some 11), (.p .mov), [.t 1], none⟩,
 ⟨(some 12), (.p .mov), [.t 0], none⟩,
 ⟨(some 13), (.p .mov), [.t 5], none⟩,
 ⟨(some 14), (.p (.iaddr 1)), [.t 12, .t 13], none⟩,
 ⟨(some 15), (.h (.load false 1)), [.t 14], none⟩,
 ⟨(some 16), .call, [.t 11, .t 15], none⟩])
 (.cond (.t 16)
 (.seq
 (.ops [
 ⟨(some 17), (.p .mov), [.t 5], none⟩,
 ⟨(some 4), (.p .mov), [.t 17], none⟩])
 (.ret [4]))
 .skip))))
 (.ops [
 ⟨(some 18), (.p (.bin .add .ifc)), [.t 8, .c (.int .i64 1)], none⟩,
 ⟨(some 8), (.p .mov), [.t 18], none⟩]))))
def slices_IndexFunc_Int_L0 : CCode := .bloop 0 [0, 1, 7, 8] [] slices_IndexFunc_Int_B0
def slices_IndexFunc_Int_C : CCode :=
 (.seq
 (.ops [
 ⟨(some 4), (.p .mov), [.c (.int .i64 0)], none⟩])
 (.seq
 (.seq
 (.ops [
 ⟨(some 6), (.p .mov), [.t 0], none⟩,
 ⟨(some 7), (.p .len), [.t 6], none⟩,
 ⟨(some 8), (.p .mov), [.c (.int .i64 0)], none⟩])
 slices_IndexFunc_Int_L0)
 (.seq
 (.ops [
 ⟨(some 4), (.p .mov), [.c (.int .i64 (-1))], none⟩])
 (.ret [4]))))
def slices_IndexFunc_Int_I : FInfo := ⟨.ref, 2, slices_IndexFunc_Int_C, [.tmp 4]⟩
def slices_IndexFunc_Int_A : Ann := ⟨[], [], [(0, [0, 1, 7, 8], [])], [(1, [0, 1, 7, 8])], []⟩
abbrev n_slices_IndexFunc_Int : Nat := 84

/-! ### maps.Keys[map[int]*balise/world.vehicle,int,*balise/world.vehicle] -/
def maps_Keys_vehicle_C : CCode :=
 (.seq
 (.ops [
 ⟨(some 1), (.h .boxh), [.t 0], none⟩,
 ⟨(some 2), (.p .mov), [.c .nilf], none⟩])
 (.seq
 (.ops [
 ⟨(some 3), (.p (.mkfn (.func 93) 0)), [.t 1], none⟩,
 ⟨(some 2), (.p .mov), [.t 3], none⟩])
 (.ret [2])))
def maps_Keys_vehicle_I : FInfo := ⟨.ref, 1, maps_Keys_vehicle_C, [.tmp 2]⟩
def maps_Keys_vehicle_A : Ann := ⟨[1], [], [], [], []⟩
abbrev n_maps_Keys_vehicle : Nat := 74

/-! ### balise/train.Fits -/
def train_Fits_B0 : CCode :=
 (.seq
 (.ops [
 ⟨(some 63), (.p (.bin .lss .ifc)), [.t 62, .t 61], none⟩])
 (.seq
 (.cond (.t 63)
 .skip
 (.exit 0))
 (.seq
 (.block 1 (some [0, 6, 60, 61, 62])
 (.seq
 (.ops [
 ⟨(some 64), (.p (.iaddr 1)), [.t 60, .t 62], none⟩,
 ⟨(some 65), (.h (.load false 1)), [.t 64], none⟩,
 ⟨(some 8), (.h (.newh [(.int .i64 0)])), [], none⟩,
 ⟨none, (.h (.store 1)), [.t 8, .t 65], none⟩])
 (.seq
 (.ops [
 ⟨(some 66), (.p .mov), [.t 0], none⟩,
 ⟨(some 67), (.h (.load true 2)), [.t 6], none⟩,
 ⟨(some 68), .call, [.c (.fn (.func 76) [] []), .t 66, .t 67], none⟩,
 ⟨(some 9), (.p .mov), [.t 68], none⟩])
 (.seq
 (.ops [
 ⟨(some 69), (.p .mov), [.t 9], none⟩,
 ⟨(some 70), (.p (.mkfn (.func 78) 0)), [.t 8], none⟩,
 ⟨(some 71), .call, [.c (.fn (.func 77) [] []), .t 69, .t 70], none⟩,
 ⟨(some 10), (.p .mov), [.t 71], none⟩])
 (.seq
 (.seq
 (.ops [
 ⟨(some 72), (.p .mov), [.t 10], none⟩,
 ⟨(some 73), (.p (.bin .lss .ifc)), [.t 72, .c (.int .i64 0)], none⟩])
 (.cond (.t 73)
 (.seq
 (.ops [
 ⟨(some 4), (.p .mov), [.c (.bool false)], none⟩])
 (.ret [4]))
 .skip))
 (.ops [
 ⟨(some 74), (.h (.load false 1)), [.t 8], none⟩,
 ⟨(some 75), (.p .mov), [.t 9], none⟩,
 ⟨(some 76), (.p .mov), [.t 10], none⟩,
 ⟨(some 77), (.p (.iaddr 2)), [.t 75, .t 76], none⟩,
 ⟨(some 78), (.p (.faddr 1)), [.t 77], none⟩,
 ⟨(some 79), (.h (.load false 1)), [.t 78], none⟩,
 ⟨(some 80), (.p (.bin .sub .ifc)), [.c (.int .i64 1), .t 79], none⟩,
 ⟨(some 81), (.p (.bld [(.int .i64 0), (.int .i64 0)] [(0, 1), (1, 1)])), [.t 74, .t 80], none⟩,
 ⟨none, (.h (.store 2)), [.t 6, .t 81], none⟩]))))))
 (.ops [
 ⟨(some 82), (.p (.bin .add .ifc)), [.t 62, .c (.int .i64 1)], none⟩,
 ⟨(some 62), (.p .mov), [.t 82], none⟩]))))
def train_Fits_L0 : CCode := .bloop 0 [0, 6, 60, 61, 62] [] train_Fits_B0
def train_Fits_C : CCode :=
 (.seq
 (.ops [
 ⟨(some 3), (.h (.box 3)), [.t 1], none⟩,
 ⟨(some 4), (.p .mov), [.c (.bool false)], none⟩])
 (.seq
 (.ops [
 ⟨(some 11), (.p (.faddr 6)), [.t 3], none⟩,
 ⟨(some 12), (.h (.load false 1)), [.t 11], none⟩,
 ⟨(some 5), (.p .mov), [.t 12], none⟩])
 (.seq
 (.seq
 (.ops [
 ⟨(some 13), (.p .mov), [.t 5], none⟩,
 ⟨(some 14), (.p .len), [.t 13], none⟩,
 ⟨(some 15), (.p (.bin .lss .ifc)), [.t 14, .c (.int .i64 1)], none⟩,
 ⟨(some 16), (.p .mov), [.t 15], none⟩,
 ⟨(some 17), (.p .mov), [.t 5], (some (16, false))⟩,
 ⟨(some 18), (.p .len), [.t 17], (some (16, false))⟩,
 ⟨(some 19), (.p (.bin .gtr .ifc)), [.t 18, .c (.int .i64 12)], (some (16, false))⟩,
 ⟨(some 20), (.p .pick), [.t 16, .c (.bool true), .t 19], none⟩,
 ⟨(some 21), (.p .mov), [.t 20], none⟩,
 ⟨(some 22), (.p .mov), [.t 0], (some (21, false))⟩,
 ⟨(some 23), (.p .mov), [.t 5], (some (21, false))⟩,
 ⟨(some 24), .call, [.c (.fn (.func 75) [] []), .t 22, .t 23], (some (21, false))⟩,
 ⟨(some 25), (.p (.un .not)), [.t 24], (some (21, false))⟩,
 ⟨(some 26), (.p .pick), [.t 21, .c (.bool true), .t 25], none⟩,
 ⟨(some 27), (.p .mov), [.t 26], none⟩,
 ⟨(some 28), (.p (.faddr 3)), [.t 3], (some (27, false))⟩,
 ⟨(some 29), (.h (.load false 1)), [.t 28], (some (27, false))⟩,
 ⟨(some 30), (.p (.bin .lss .ifc)), [.t 29, .c (.int .i64 0)], (some (27, false))⟩,
 ⟨(some 31), (.p .pick), [.t 27, .c (.bool true), .t 30], none⟩,
 ⟨(some 32), (.p .mov), [.t 31], none⟩,
 ⟨(some 33), (.p (.faddr 3)), [.t 3], (some (32, false))⟩,
 ⟨(some 34), (.h (.load false 1)), [.t 33], (some (32, false))⟩,
 ⟨(some 35), (.p (.bin .gtr .ifc)), [.t 34, .c (.int .i64 1)], (some (32, false))⟩,
 ⟨(some 36), (.p .pick), [.t 32, .c (.bool true), .t 35], none⟩,
 ⟨(some 37), (.p .mov), [.t 36], none⟩,
 ⟨(some 38), (.p (.faddr 4)), [.t 3], (some (37, false))⟩,
 ⟨(some 39), (.h (.load false 1)), [.t 38], (some (37, false))⟩,
 ⟨(some 40), (.p (.bin .lss .ifc)), [.t 39, .c (.int .i64 0)], (some (37, false))⟩,
 ⟨(some 41), (.p .pick), [.t 37, .c (.bool true), .t 40], none⟩,
 ⟨(some 42), (.p .mov), [.t 41], none⟩,
 ⟨(some 43), (.p (.faddr 4)), [.t 3], (some (42, false))⟩,
 ⟨(some 44), (.h (.load false 1)), [.t 43], (some (42, false))⟩,
 ⟨(some 45), (.p .mov), [.t 0], (some (42, false))⟩,
 ⟨(some 46), (.p .mov), [.t 5], (some (42, false))⟩,
 ⟨(some 47), (.p (.iaddr 1)), [.t 46, .c (.int .i64 0)], (some (42, false))⟩,
 ⟨(some 48), (.h (.load false 1)), [.t 47], (some (42, false))⟩,
 ⟨(some 49), .call, [.c (.fn (.func 67) [] []), .t 45, .t 48], (some (42, false))⟩,
 ⟨(some 50), (.p (.bin .gtr .ifc)), [.t 44, .t 49], (some (42, false))⟩,
 ⟨(some 51), (.p .pick), [.t 42, .c (.bool true), .t 50], none⟩])
 (.cond (.t 51)
 (.seq
 (.ops [
 ⟨(some 4), (.p .mov), [.c (.bool false)], none⟩])
 (.ret [4]))
 .skip))
 (.seq
 (.ops [
 ⟨(some 52), (.p .mov), [.t 5], none⟩,
 ⟨(some 53), (.p (.iaddr 1)), [.t 52, .c (.int .i64 0)], none⟩,
 ⟨(some 54), (.hb (.load false 1)), [.t 53], none⟩,
 ⟨(some 55), (.p (.faddr 3)), [.t 3], none⟩,
 ⟨(some 56), (.hl 3 (.load false 1)), [.t 55], none⟩,
 ⟨(some 57), (.p (.bin .sub .ifc)), [.c (.int .i64 1), .t 56], none⟩,
 ⟨(some 58), (.p (.bld [(.int .i64 0), (.int .i64 0)] [(0, 1), (1, 1)])), [.t 54, .t 57], none⟩,
 ⟨(some 6), (.h (.newl 6 [(.int .i64 0), (.int .i64 0)])), [], none⟩,
 ⟨none, (.hl 6 (.store 2)), [.t 6, .t 58], none⟩])
 (.seq
 (.seq
 (.ops [
 ⟨(some 59), (.p .mov), [.t 5], none⟩,
 ⟨(some 60), (.p (.slc 1 true false)), [.t 59, .c (.int .i64 1)], none⟩,
 ⟨(some 61), (.p .len), [.t 60], none⟩,
 ⟨(some 62), (.p .mov), [.c (.int .i64 0)], none⟩])
 train_Fits_L0)
 (.seq
 (.ops [
 ⟨(some 4), (.p .mov), [.c (.bool true)], none⟩])
 (.ret [4])))))))
def train_Fits_I : FInfo := ⟨(.fz false), 2, train_Fits_C, [.tmp 4]⟩
def train_Fits_A : Ann := ⟨[8], [], [(0, [0, 6, 60, 61, 62], [])], [(1, [0, 6, 60, 61, 62])], [3, 6]⟩
abbrev n_train_Fits : Nat := 43

/-! ### balise/train.unlike -/
def train_unlike_B0 : CCode :=
 (.seq
 (.ops [
 ⟨(some 10), (.p (.bin .lss .ifc)), [.t 9, .t 8], none⟩])
 (.seq
 (.cond (.t 10)
 .skip
 (.exit 0))
 (.seq
 (.block 1 (some [0, 1, 7, 8, 9])
 (.seq
 (.ops [
 ⟨(some 11), (.p .mov), [.t 9], none⟩,
 ⟨(some 12), (.p (.iaddr 1)), [.t 7, .t 9], none⟩,
 ⟨(some 13), (.h (.load false 1)), [.t 12], none⟩,
 ⟨(some 5), (.p .mov), [.t 11], none⟩,
 ⟨(some 6), (.p .mov), [.t 13], none⟩])
 (.seq
 (.ops [
 ⟨(some 14), (.p .mov), [.t 0], none⟩,
 ⟨(some 15), (.p .mov), [.t 6], none⟩,
 ⟨(some 16), .call, [.c (.fn (.func 67) [] []), .t 14, .t 15], none⟩,
 ⟨(some 17), (.p (.bin .eql .int)), [.t 16, .c (.int .i64 0)], none⟩,
 ⟨(some 18), (.p .mov), [.t 17], none⟩,
 ⟨(some 19), (.p .mov), [.t 1], (some (18, false))⟩,
 ⟨(some 20), (.p .mov), [.t 5], (some (18, false))⟩,
 ⟨(some 21), (.p (.slc 1 false true)), [.t 19, .t 20], (some (18, false))⟩,
 ⟨(some 22), (.p .mov), [.t 6], (some (18, false))⟩,
 ⟨(some 23), .call, [.c (.fn (.func 59) [] []), .t 21, .t 22], (some (18, false))⟩,
 ⟨(some 24), (.p .pick), [.t 18, .c (.bool true), .t 23], none⟩])
 (.cond (.t 24)
 (.seq
 (.ops [
 ⟨(some 4), (.p .mov), [.c (.bool false)], none⟩])
 (.ret [4]))
 .skip))))
 (.ops [
 ⟨(some 25), (.p (.bin .add .ifc)), [.t 9, .c (.int .i64 1)], none⟩,
 ⟨(some 9), (.p .mov), [.t 25], none⟩]))))
def train_unlike_L0 : CCode := .bloop 0 [0, 1, 7, 8, 9] [] train_unlike_B0
def train_unlike_C : CCode :=
 (.seq
 (.ops [
 ⟨(some 4), (.p .mov), [.c (.bool false)], none⟩])
 (.seq
 (.seq
 (.ops [
 ⟨(some 7), (.p .mov), [.t 1], none⟩,
 ⟨(some 8), (.p .len), [.t 7], none⟩,
 ⟨(some 9), (.p .mov), [.c (.int .i64 0)], none⟩])
 train_unlike_L0)
 (.seq
 (.ops [
 ⟨(some 4), (.p .mov), [.c (.bool true)], none⟩])
 (.ret [4]))))
def train_unlike_I : FInfo := ⟨(.fz false), 2, train_unlike_C, [.tmp 4]⟩
def train_unlike_A : Ann := ⟨[], [], [(0, [0, 1, 7, 8, 9], [])], [(1, [0, 1, 7, 8, 9])], []⟩
abbrev n_train_unlike : Nat := 75

/-! ### balise/train.Fits$1 -/
def train_Fits_1_C : CCode :=
 (.seq
 (.ops [
 ⟨(some 2), (.h (.box 2)), [.t 0], none⟩,
 ⟨(some 3), (.p .mov), [.c (.bool false)], none⟩])
 (.seq
 (.ops [
 ⟨(some 4), (.p (.faddr 0)), [.t 2], none⟩,
 ⟨(some 5), (.h (.load false 1)), [.t 4], none⟩,
 ⟨(some 6), (.h (.load false 1)), [.t 1], none⟩,
 ⟨(some 7), (.p (.bin .eql .int)), [.t 5, .t 6], none⟩,
 ⟨(some 3), (.p .mov), [.t 7], none⟩])
 (.ret [3])))
def train_Fits_1_I : FInfo := ⟨(.fz false), 2, train_Fits_1_C, [.tmp 3]⟩
def train_Fits_1_A : Ann := ⟨[], [], [], [], [2]⟩
abbrev n_train_Fits_1 : Nat := 78

/-! ### balise/baliseref04.Small -/
def r04_Small_B0 : CCode :=
 (.seq
 (.seq
 (.ops [
 ⟨(some 4), (.p .mov), [.t 3], none⟩,
 ⟨(some 5), (.p (.faddr 8)), [.t 1], none⟩,
 ⟨(some 6), (.h (.load false 1)), [.t 5], none⟩,
 ⟨(some 7), (.p .len), [.t 6], none⟩,
 ⟨(some 8), (.p (.bin .lss .ifc)), [.t 4, .t 7], none⟩])
 (.cond (.t 8)
 .skip
 (.exit 0)))
 (.seq
 (.block 1 (some [1, 3])
 (.seq
 (.ops [
 ⟨(some 11), (.p (.faddr 8)), [.t 1], none⟩,
 ⟨(some 12), (.h (.load false 1)), [.t 11], none⟩,
 ⟨(some 13), (.p .mov), [.t 3], none⟩,
 ⟨(some 14), (.p (.iaddr 1)), [.t 12, .t 13], none⟩,
 ⟨(some 15), (.h (.load false 1)), [.t 14], none⟩,
 ⟨(some 16), (.p .len), [.t 15], none⟩,
 ⟨(some 17), (.p (.bin .gtr .ifc)), [.t 16, .c (.int .i64 10)], none⟩])
 (.cond (.t 17)
 (.seq
 (.ops [
 ⟨(some 2), (.p .mov), [.c (.bool false)], none⟩])
 (.ret [2]))
 .skip)))
 (.ops [
 ⟨(some 9), (.p .mov), [.t 3], none⟩,
 ⟨(some 10), (.p (.bin .add .ifc)), [.t 9, .c (.int .i64 1)], none⟩,
 ⟨(some 3), (.p .mov), [.t 10], none⟩])))
def r04_Small_L0 : CCode := .bloop 0 [1, 3] [1] r04_Small_B0
def r04_Small_C : CCode :=
 (.seq
 (.ops [
 ⟨(some 1), (.h (.box 1)), [.t 0], none⟩,
 ⟨(some 2), (.p .mov), [.c (.bool false)], none⟩])
 (.seq
 (.seq
 (.ops [
 ⟨(some 3), (.p .mov), [.c (.int .i64 0)], none⟩])
 r04_Small_L0)
 (.seq
 (.ops [
 ⟨(some 18), (.p (.faddr 8)), [.t 1], none⟩,
 ⟨(some 19), (.h (.load false 1)), [.t 18], none⟩,
 ⟨(some 20), (.p .len), [.t 19], none⟩,
 ⟨(some 21), (.p (.bin .leq .ifc)), [.t 20, .c (.int .i64 20)], none⟩,
 ⟨(some 2), (.p .mov), [.t 21], none⟩])
 (.ret [2]))))
def r04_Small_I : FInfo := ⟨(.fz false), 1, r04_Small_C, [.tmp 2]⟩
def r04_Small_A : Ann := ⟨[], [], [(0, [1, 3], [1])], [(1, [1, 3])], [1]⟩
abbrev n_r04_Small : Nat := 25

/-! ### balise/baliseref05.Full -/
def r05_Full_B0 : CCode :=
 (.seq
 (.seq
 (.ops [
 ⟨(some 9), (.p .mov), [.t 4], none⟩,
 ⟨(some 10), (.p (.faddr 8)), [.t 1], none⟩,
 ⟨(some 11), (.h (.load false 1)), [.t 10], none⟩,
 ⟨(some 12), (.p .len), [.t 11], none⟩,
 ⟨(some 13), (.p (.bin .lss .ifc)), [.t 9, .t 12], none⟩,
 ⟨(some 14), (.p .mov), [.t 13], none⟩,
 ⟨(some 15), (.p (.faddr 4)), [.t 3], (some (14, true))⟩,
 ⟨(some 16), (.h (.load false 1)), [.t 15], (some (14, true))⟩,
 ⟨(some 17), (.p .len), [.t 16], (some (14, true))⟩,
 ⟨(some 18), (.p (.bin .lss .ifc)), [.t 17, .c (.int .i64 16)], (some (14, true))⟩,
 ⟨(some 19), (.p .pick), [.t 14, .t 18, .c (.bool false)], none⟩])
 (.cond (.t 19)
 .skip
 (.exit 0)))
 (.seq
 (.block 1 (some [1, 2, 3, 4])
 (.seq
 (.ops [
 ⟨(some 22), (.p (.faddr 8)), [.t 1], none⟩,
 ⟨(some 23), (.h (.load false 1)), [.t 22], none⟩,
 ⟨(some 24), (.p .mov), [.t 4], none⟩,
 ⟨(some 25), (.p (.iaddr 1)), [.t 23, .t 24], none⟩,
 ⟨(some 26), (.h (.load false 1)), [.t 25], none⟩,
 ⟨(some 5), (.p .mov), [.t 26], none⟩])
 (.seq
 (.seq
 (.ops [
 ⟨(some 27), (.p .mov), [.t 5], none⟩,
 ⟨(some 28), (.p .len), [.t 27], none⟩,
 ⟨(some 29), (.p (.bin .lss .ifc)), [.t 28, .c (.int .i64 2)], none⟩])
 (.cond (.t 29)
 (.exit 1)
 .skip))
 (.seq
 (.ops [
 ⟨(some 30), (.h (.load true 10)), [.t 3], none⟩,
 ⟨(some 31), (.p .mov), [.t 5], none⟩,
 ⟨(some 32), (.p (.iaddr 1)), [.t 31, .c (.int .i64 0)], none⟩,
 ⟨(some 33), (.h (.load false 1)), [.t 32], none⟩,
 ⟨(some 34), (.p (.toInt .i64)), [.t 33], none⟩,
 ⟨(some 35), (.p (.faddr 1)), [.t 3], none⟩,
 ⟨(some 36), (.h (.load false 1)), [.t 35], none⟩,
 ⟨(some 37), (.p .len), [.t 36], none⟩,
 ⟨(some 38), (.p (.bin .rem .ifc)), [.t 34, .t 37], none⟩,
 ⟨(some 39), (.p .mov), [.t 5], none⟩,
 ⟨(some 40), (.p (.iaddr 1)), [.t 39, .c (.int .i64 0)], none⟩,
 ⟨(some 41), (.h (.load false 1)), [.t 40], none⟩,
 ⟨(some 42), (.p (.bin .quo .ifc)), [.t 41, .c (.int .u8 128)], none⟩,
 ⟨(some 43), (.p (.toInt .i64)), [.t 42], none⟩,
 ⟨(some 44), (.p .mov), [.t 5], none⟩,
 ⟨(some 45), (.p (.slc 1 true false)), [.t 44, .c (.int .i64 2)], none⟩,
 ⟨(some 46), (.p .mov), [.t 5], none⟩,
 ⟨(some 47), (.p (.iaddr 1)), [.t 46, .c (.int .i64 1)], none⟩,
 ⟨(some 48), (.h (.load false 1)), [.t 47], none⟩,
 ⟨(some 49), (.p (.bin .rem .ifc)), [.t 48, .c (.int .u8 5)], none⟩,
 ⟨(some 50), (.p (.toInt .i64)), [.t 49], none⟩,
 ⟨(some 51), (.p (.bin .add .ifc)), [.c (.int .i64 2), .t 50], none⟩,
 ⟨(some 52), .call, [.c (.fn (.func 48) [] []), .t 30, .t 38, .t 43, .t 45, .t 51], none⟩,
 ⟨(some 6), (.p .mov), [.t 52], none⟩])
 (.seq
 (.ops [
 ⟨(some 53), (.p .mov), [.t 6], none⟩,
 ⟨(some 54), (.p .len), [.t 53], none⟩,
 ⟨(some 55), (.p (.bin .geq .ifc)), [.t 54, .c (.int .i64 2)], none⟩])
 (.cond (.t 55)
 (.ops [
 ⟨(some 56), (.p (.faddr 4)), [.t 3], none⟩,
 ⟨(some 57), (.h (.load false 1)), [.t 56], none⟩,
 ⟨(some 58), (.p .mov), [.t 6], none⟩,
 ⟨(some 59), (.h (.bslF 1 1 [.nils] [(0, 1)])), [.t 58], none⟩,
 ⟨(some 60), (.h (.app 1 24 [.nils])), [.t 57, .t 59], none⟩,
 ⟨(some 61), (.p (.faddr 4)), [.t 3], none⟩,
 ⟨none, (.h (.store 1)), [.t 61, .t 60], none⟩])
 .skip))))))
 (.ops [
 ⟨(some 20), (.p .mov), [.t 4], none⟩,
 ⟨(some 21), (.p (.bin .add .ifc)), [.t 20, .c (.int .i64 1)], none⟩,
 ⟨(some 4), (.p .mov), [.t 21], none⟩])))
def r05_Full_L0 : CCode := .bloop 0 [1, 2, 3, 4] [2, 3] r05_Full_B0
def r05_Full_C : CCode :=
 (.seq
 (.ops [
 ⟨(some 1), (.h (.box 1)), [.t 0], none⟩,
 ⟨(some 2), (.h (.newl 2 [.nils, .nils, .nils, .nils, .nils, (.int .i64 0), (.int .i64 0), (.int .i64 0), (.int .i64 0), (.int .i64 0)])), [], none⟩])
 (.seq
 (.ops [
 ⟨(some 7), (.h (.load true 9)), [.t 1], none⟩,
 ⟨(some 8), .call, [.c (.fn (.func 47) [] []), .t 7], none⟩,
 ⟨(some 3), (.h (.newl 3 [.nils, .nils, .nils, .nils, .nils, (.int .i64 0), (.int .i64 0), (.int .i64 0), (.int .i64 0), (.int .i64 0)])), [], none⟩,
 ⟨none, (.h (.store 10)), [.t 3, .t 8], none⟩])
 (.seq
 (.seq
 (.ops [
 ⟨(some 4), (.p .mov), [.c (.int .i64 0)], none⟩])
 r05_Full_L0)
 (.seq
 (.ops [
 ⟨(some 62), (.h (.load true 10)), [.t 3], none⟩,
 ⟨none, (.h (.store 10)), [.t 2, .t 62], none⟩])
 (.ret [2])))))
def r05_Full_I : FInfo := ⟨(.fz false), 1, r05_Full_C, [.cell 2 true 10]⟩
def r05_Full_A : Ann := ⟨[], [], [(0, [1, 2, 3, 4], [2, 3])], [(1, [1, 2, 3, 4])], [1, 2, 3]⟩
abbrev n_r05_Full : Nat := 26

/-! ### balise/baliseref04.Make -/
def r04_Make_B1 : CCode :=
 (.seq
 (.seq
 (.ops [
 ⟨(some 67), (.p .mov), [.t 9], none⟩,
 ⟨(some 68), (.p .mov), [.t 8], none⟩,
 ⟨(some 69), (.p (.bin .leq .ifc)), [.t 67, .t 68], none⟩])
 (.cond (.t 69)
 .skip
 (.exit 1)))
 (.seq
 (.block 2 (some [1, 2, 3, 6, 7, 8, 9])
 (.ops [
 ⟨(some 72), (.p (.faddr 0)), [.t 6], none⟩,
 ⟨(some 73), (.h (.load false 1)), [.t 72], none⟩,
 ⟨(some 74), (.p .mov), [.t 3], none⟩,
 ⟨(some 75), (.p .mov), [.t 9], none⟩,
 ⟨(some 76), (.p (.bin .mul .ifc)), [.t 74, .t 75], none⟩,
 ⟨(some 77), (.p (.toFloat .f64)), [.t 76], none⟩,
 ⟨(some 78), (.p .cplx), [.t 77, .c (.float .f64 0)], none⟩,
 ⟨(some 79), (.h (.bslF 1 1 [(.cplx .f64 0 0)] [(0, 1)])), [.t 78], none⟩,
 ⟨(some 80), (.h (.app 1 16 [(.cplx .f64 0 0)])), [.t 73, .t 79], none⟩,
 ⟨(some 81), (.p (.faddr 0)), [.t 6], none⟩,
 ⟨none, (.h (.store 1)), [.t 81, .t 80], none⟩]))
 (.ops [
 ⟨(some 70), (.p .mov), [.t 9], none⟩,
 ⟨(some 71), (.p (.bin .add .ifc)), [.t 70, .c (.int .i64 1)], none⟩,
 ⟨(some 9), (.p .mov), [.t 71], none⟩])))
def r04_Make_L1 : CCode := .bloop 1 [1, 2, 3, 6, 7, 8, 9] [1, 2, 3, 6, 7, 8] r04_Make_B1

def r04_Make_B3 : CCode :=
 (.seq
 (.seq
 (.ops [
 ⟨(some 82), (.p .mov), [.t 10], none⟩,
 ⟨(some 83), (.p .mov), [.t 8], none⟩,
 ⟨(some 84), (.p (.bin .lss .ifc)), [.t 82, .t 83], none⟩])
 (.cond (.t 84)
 .skip
 (.exit 3)))
 (.seq
 (.block 4 (some [1, 2, 3, 6, 7, 8, 10])
 (.ops [
 ⟨(some 87), (.p .mov), [.t 7], none⟩,
 ⟨(some 88), (.p .mov), [.t 10], none⟩,
 ⟨(some 89), (.p .mov), [.t 10], none⟩,
 ⟨(some 90), (.p (.bin .add .ifc)), [.t 89, .c (.int .i64 1)], none⟩,
 ⟨(some 91), (.p (.bld [(.int .i64 0), (.int .i64 0)] [(0, 1), (1, 1)])), [.t 88, .t 90], none⟩,
 ⟨(some 92), (.h (.bslF 2 1 [(.int .i64 0), (.int .i64 0)] [(0, 2)])), [.t 91], none⟩,
 ⟨(some 93), (.h (.app 2 16 [(.int .i64 0), (.int .i64 0)])), [.t 87, .t 92], none⟩,
 ⟨(some 7), (.p .mov), [.t 93], none⟩]))
 (.ops [
 ⟨(some 85), (.p .mov), [.t 10], none⟩,
 ⟨(some 86), (.p (.bin .add .ifc)), [.t 85, .c (.int .i64 1)], none⟩,
 ⟨(some 10), (.p .mov), [.t 86], none⟩])))
def r04_Make_L3 : CCode := .bloop 3 [1, 2, 3, 6, 7, 8, 10] [1, 2, 3, 6, 7] r04_Make_B3

def r04_Make_B5 : CCode :=
 (.seq
 (.seq
 (.ops [
 ⟨(some 150), (.p .mov), [.t 11], none⟩,
 ⟨(some 151), (.p .mov), [.t 7], none⟩,
 ⟨(some 152), (.p .len), [.t 151], none⟩,
 ⟨(some 153), (.p (.bin .lss .ifc)), [.t 150, .t 152], none⟩])
 (.cond (.t 153)
 .skip
 (.exit 5)))
 (.seq
 (.block 6 (some [1, 2, 3, 6, 7, 11])
 (.ops [
 ⟨(some 156), (.p (.faddr 1)), [.t 6], none⟩,
 ⟨(some 157), (.h (.load false 1)), [.t 156], none⟩,
 ⟨(some 158), (.p .mov), [.t 3], none⟩,
 ⟨(some 159), (.p (.bin .mul .ifc)), [.c (.int .i64 2), .t 158], none⟩,
 ⟨(some 160), (.p .mov), [.t 11], none⟩,
 ⟨(some 161), (.p (.bin .rem .ifc)), [.t 160, .c (.int .i64 3)], none⟩,
 ⟨(some 162), (.p (.bin .add .ifc)), [.t 159, .t 161], none⟩,
 ⟨(some 163), (.p .mov), [.t 7], none⟩,
 ⟨(some 164), (.p .mov), [.t 11], none⟩,
 ⟨(some 165), (.p (.iaddr 2)), [.t 163, .t 164], none⟩,
 ⟨(some 166), (.p (.iaddrA 2 1)), [.t 165, .c (.int .i64 0)], none⟩,
 ⟨(some 167), (.h (.load false 1)), [.t 166], none⟩,
 ⟨(some 168), (.p .mov), [.t 7], none⟩,
 ⟨(some 169), (.p .mov), [.t 11], none⟩,
 ⟨(some 170), (.p (.iaddr 2)), [.t 168, .t 169], none⟩,
 ⟨(some 171), (.p (.iaddrA 2 1)), [.t 170, .c (.int .i64 1)], none⟩,
 ⟨(some 172), (.h (.load false 1)), [.t 171], none⟩,
 ⟨(some 173), (.p (.bld [(.int .i64 0), (.int .i64 0), (.int .i64 0)] [(0, 1), (1, 1), (2, 1)])), [.t 162, .t 167, .t 172], none⟩,
 ⟨(some 174), (.h (.bslF 3 1 [(.int .i64 0), (.int .i64 0), (.int .i64 0)] [(0, 3)])), [.t 173], none⟩,
 ⟨(some 175), (.h (.app 3 24 [(.int .i64 0), (.int .i64 0), (.int .i64 0)])), [.t 157, .t 174], none⟩,
 ⟨(some 176), (.p (.faddr 1)), [.t 6], none⟩,
 ⟨none, (.h (.store 1)), [.t 176, .t 175], none⟩]))
 (.ops [
 ⟨(some 154), (.p .mov), [.t 11], none⟩,
 ⟨(some 155), (.p (.bin .add .ifc)), [.t 154, .c (.int .i64 1)], none⟩,
 ⟨(some 11), (.p .mov), [.t 155], none⟩])))
def r04_Make_L5 : CCode := .bloop 5 [1, 2, 3, 6, 7, 11] [1, 2, 3, 6, 7] r04_Make_B5

def r04_Make_B7 : CCode :=
 (.seq
 (.seq
 (.ops [
 ⟨(some 177), (.p .mov), [.t 12], none⟩,
 ⟨(some 178), (.p .mov), [.t 7], none⟩,
 ⟨(some 179), (.p .len), [.t 178], none⟩,
 ⟨(some 180), (.p (.bin .lss .ifc)), [.t 177, .t 179], none⟩])
 (.cond (.t 180)
 .skip
 (.exit 7)))
 (.seq
 (.block 8 (some [1, 2, 3, 6, 7, 12])
 (.seq
 (.ops [
 ⟨(some 183), (.p .mov), [.t 12], none⟩,
 ⟨(some 184), (.p (.bin .gtr .ifc)), [.t 183, .c (.int .i64 0)], none⟩,
 ⟨(some 185), (.p .mov), [.t 184], none⟩,
 ⟨(some 186), (.p (.faddr 7)), [.t 1], (some (185, true))⟩,
 ⟨(some 187), (.h (.load false 1)), [.t 186], (some (185, true))⟩,
 ⟨(some 188), (.p .mov), [.t 12], (some (185, true))⟩,
 ⟨(some 189), (.p (.bin .rem .ifc)), [.t 188, .c (.int .i64 8)], (some (185, true))⟩,
 ⟨(some 190), (.p (.bin .shr .ifc)), [.t 187, .t 189], (some (185, true))⟩,
 ⟨(some 191), (.p (.bin .rem .ifc)), [.t 190, .c (.int .u8 2)], (some (185, true))⟩,
 ⟨(some 192), (.p (.bin .eql .int)), [.t 191, .c (.int .u8 1)], (some (185, true))⟩,
 ⟨(some 193), (.p .pick), [.t 185, .t 192, .c (.bool false)], none⟩])
 (.cond (.t 193)
 (.ops [
 ⟨(some 194), (.p (.faddr 2)), [.t 6], none⟩,
 ⟨(some 195), (.hl 6 (.load false 1)), [.t 194], none⟩,
 ⟨(some 196), (.p (.faddr 2)), [.t 6], none⟩,
 ⟨(some 197), (.hl 6 (.load false 1)), [.t 196], none⟩,
 ⟨(some 198), (.p .len), [.t 197], none⟩,
 ⟨(some 199), (.p (.bin .sub .ifc)), [.t 198, .c (.int .i64 1)], none⟩,
 ⟨(some 200), (.p (.faddr 2)), [.t 6], none⟩,
 ⟨(some 201), (.hl 6 (.load false 1)), [.t 200], none⟩,
 ⟨(some 202), (.p (.faddr 2)), [.t 6], none⟩,
 ⟨(some 203), (.hl 6 (.load false 1)), [.t 202], none⟩,
 ⟨(some 204), (.p .len), [.t 203], none⟩,
 ⟨(some 205), (.p (.bin .sub .ifc)), [.t 204, .c (.int .i64 1)], none⟩,
 ⟨(some 206), (.p (.iaddr 1)), [.t 201, .t 205], none⟩,
 ⟨(some 207), (.hb (.load false 1)), [.t 206], none⟩,
 ⟨(some 208), (.p .mov), [.t 12], none⟩,
 ⟨(some 209), (.h (.bslF 1 1 [(.int .i64 0)] [(0, 1)])), [.t 208], none⟩,
 ⟨(some 210), (.hb (.app 1 8 [(.int .i64 0)])), [.t 207, .t 209], none⟩,
 ⟨(some 211), (.p (.iaddr 1)), [.t 195, .t 199], none⟩,
 ⟨none, (.hb (.store 1)), [.t 211, .t 210], none⟩])
 (.ops [
 ⟨(some 212), (.p (.faddr 2)), [.t 6], none⟩,
 ⟨(some 213), (.h (.load false 1)), [.t 212], none⟩,
 ⟨(some 214), (.p .mov), [.t 12], none⟩,
 ⟨(some 215), (.h (.bslO 1 1 [(.int .i64 0)] [(0, 1)])), [.t 214], none⟩,
 ⟨(some 216), (.h (.bslO 1 1 [.nils] [(0, 1)])), [.t 215], none⟩,
 ⟨(some 217), (.h (.app 1 24 [.nils])), [.t 213, .t 216], none⟩,
 ⟨(some 218), (.p (.faddr 2)), [.t 6], none⟩,
 ⟨none, (.h (.store 1)), [.t 218, .t 217], none⟩]))))
 (.ops [
 ⟨(some 181), (.p .mov), [.t 12], none⟩,
 ⟨(some 182), (.p (.bin .add .ifc)), [.t 181, .c (.int .i64 1)], none⟩,
 ⟨(some 12), (.p .mov), [.t 182], none⟩])))
def r04_Make_L7 : CCode := .bloop 7 [1, 2, 3, 6, 7, 12] [1, 2, 3, 6] r04_Make_B7
def r04_Make_C : CCode :=
 (.seq
 (.ops [
 ⟨(some 1), (.h (.box 1)), [.t 0], none⟩,
 ⟨(some 2), (.h (.newl 2 [.nils, .nils, .nils, .nils, .nils, (.int .i64 0), (.int .i64 0), (.int .i64 0), (.int .i64 0), (.int .i64 0)])), [], none⟩])
 (.seq
 (.ops [
 ⟨(some 13), (.p (.faddr 1)), [.t 1], none⟩,
 ⟨(some 14), (.h (.load false 1)), [.t 13], none⟩,
 ⟨(some 15), (.p (.bin .rem .ifc)), [.t 14, .c (.int .u8 20)], none⟩,
 ⟨(some 16), (.p (.toInt .i64)), [.t 15], none⟩,
 ⟨(some 17), (.p (.bin .add .ifc)), [.c (.int .i64 1), .t 16], none⟩,
 ⟨(some 18), (.p (.bin .mul .ifc)), [.c (.int .i64 10), .t 17], none⟩,
 ⟨(some 3), (.p .mov), [.t 18], none⟩])
 (.seq
 (.ops [
 ⟨(some 19), (.p .mov), [.t 3], none⟩,
 ⟨(some 20), (.p (.toFloat .f64)), [.t 19], none⟩,
 ⟨(some 21), (.p .cplx), [.t 20, .c (.float .f64 0)], none⟩,
 ⟨(some 4), (.p .mov), [.t 21], none⟩])
 (.seq
 (.ops [
 ⟨(some 22), (.p .mov), [.t 3], none⟩,
 ⟨(some 23), (.p (.toFloat .f64)), [.t 22], none⟩,
 ⟨(some 24), (.p .cplx), [.c (.float .f64 0), .t 23], none⟩,
 ⟨(some 5), (.p .mov), [.t 24], none⟩])
 (.seq
 (.ops [
 ⟨(some 6), (.h (.newl 6 [.nils, .nils, .nils, .nils, .nils, (.int .i64 0), (.int .i64 0), (.int .i64 0), (.int .i64 0), (.int .i64 0)])), [], none⟩])
 (.seq
 (.ops [
 ⟨(some 7), (.p .mov), [.c .nils], none⟩])
 (.seq
 (.seq
 (.ops [
 ⟨(some 25), (.p (.faddr 0)), [.t 1], none⟩,
 ⟨(some 26), (.h (.load false 1)), [.t 25], none⟩,
 ⟨(some 27), (.p (.bin .rem .ifc)), [.t 26, .c (.int .u8 4)], none⟩])
 (.block 0 (some [1, 2, 3, 6, 7])
 (.seq
 (.ops [
 ⟨(some 60), (.p (.bin .eql .int)), [.t 27, .c (.int .u8 0)], none⟩,
 ⟨(some 59), (.p .mov), [.t 60], none⟩])
 (.cond (.t 59)
 (.seq
 (.ops [
 ⟨(some 61), (.p (.faddr 0)), [.t 1], none⟩,
 ⟨(some 62), (.h (.load false 1)), [.t 61], none⟩,
 ⟨(some 63), (.p (.bin .quo .ifc)), [.t 62, .c (.int .u8 4)], none⟩,
 ⟨(some 64), (.p (.bin .rem .ifc)), [.t 63, .c (.int .u8 6)], none⟩,
 ⟨(some 65), (.p (.toInt .i64)), [.t 64], none⟩,
 ⟨(some 66), (.p (.bin .add .ifc)), [.c (.int .i64 3), .t 65], none⟩,
 ⟨(some 8), (.p .mov), [.t 66], none⟩])
 (.seq
 (.seq
 (.ops [
 ⟨(some 9), (.p .mov), [.c (.int .i64 0)], none⟩])
 r04_Make_L1)
 (.seq
 (.ops [
 ⟨(some 10), (.p .mov), [.c (.int .i64 0)], none⟩])
 r04_Make_L3)))
 (.seq
 (.ops [
 ⟨(some 95), (.p (.bin .eql .int)), [.t 27, .c (.int .u8 1)], none⟩,
 ⟨(some 94), (.p .mov), [.t 95], none⟩])
 (.cond (.t 94)
 (.seq
 (.ops [
 ⟨(some 96), (.p .mov), [.t 4], none⟩,
 ⟨(some 97), (.p .mov), [.t 4], none⟩,
 ⟨(some 98), (.p (.bin .mul .ifc)), [.c (.cplx .f64 4611686018427387904 0), .t 97], none⟩,
 ⟨(some 99), (.p .mov), [.t 5], none⟩,
 ⟨(some 100), (.p (.bin .add .ifc)), [.t 98, .t 99], none⟩,
 ⟨(some 101), (.p .mov), [.t 4], none⟩,
 ⟨(some 102), (.p (.bin .mul .ifc)), [.c (.cplx .f64 4611686018427387904 0), .t 101], none⟩,
 ⟨(some 103), (.p .mov), [.t 5], none⟩,
 ⟨(some 104), (.p (.bin .sub .ifc)), [.t 102, .t 103], none⟩,
 ⟨(some 105), (.h (.bslF 1 4 [(.cplx .f64 0 0)] [(0, 1), (1, 1), (2, 1), (3, 1)])), [.c (.cplx .f64 0 0), .t 96, .t 100, .t 104], none⟩,
 ⟨(some 106), (.p (.faddr 0)), [.t 6], none⟩,
 ⟨none, (.h (.store 1)), [.t 106, .t 105], none⟩])
 (.seq
 (.ops [
 ⟨(some 107), (.p (.bld [(.int .i64 0), (.int .i64 0)] [(0, 1), (1, 1)])), [.c (.int .i64 0), .c (.int .i64 1)], none⟩,
 ⟨(some 108), (.p (.bld [(.int .i64 0), (.int .i64 0)] [(0, 1), (1, 1)])), [.c (.int .i64 1), .c (.int .i64 2)], none⟩,
 ⟨(some 109), (.p (.bld [(.int .i64 0), (.int .i64 0)] [(0, 1), (1, 1)])), [.c (.int .i64 3), .c (.int .i64 1)], none⟩,
 ⟨(some 110), (.h (.bslO 2 3 [(.int .i64 0), (.int .i64 0)] [(0, 2), (2, 2), (4, 2)])), [.t 107, .t 108, .t 109], none⟩,
 ⟨(some 7), (.p .mov), [.t 110], none⟩])
 (.ops [
 ⟨(some 111), (.p (.bld [(.int .i64 0), (.int .i64 0), (.int .i64 0), (.int .i64 0)] [(0, 1), (1, 1), (2, 1), (3, 1)])), [.c (.int .i64 1), .c (.int .i64 0), .c (.int .i64 1), .c (.int .i64 2)], none⟩,
 ⟨(some 112), (.h (.bslF 4 1 [(.int .i64 0), (.int .i64 0), (.int .i64 0), (.int .i64 0)] [(0, 4)])), [.t 111], none⟩,
 ⟨(some 113), (.p (.faddr 3)), [.t 6], none⟩,
 ⟨none, (.h (.store 1)), [.t 113, .t 112], none⟩])))
 (.seq
 (.ops [
 ⟨(some 115), (.p (.bin .eql .int)), [.t 27, .c (.int .u8 2)], none⟩,
 ⟨(some 114), (.p .mov), [.t 115], none⟩])
 (.cond (.t 114)
 (.seq
 (.ops [
 ⟨(some 116), (.p .mov), [.t 4], none⟩,
 ⟨(some 117), (.p .mov), [.t 4], none⟩,
 ⟨(some 118), (.p (.bin .mul .ifc)), [.c (.cplx .f64 4611686018427387904 0), .t 117], none⟩,
 ⟨(some 119), (.p .mov), [.t 4], none⟩,
 ⟨(some 120), (.p (.bin .mul .ifc)), [.c (.cplx .f64 4613937818241073152 0), .t 119], none⟩,
 ⟨(some 121), (.p .mov), [.t 5], none⟩,
 ⟨(some 122), (.p (.bin .quo .ifc)), [.t 121, .c (.cplx .f64 4611686018427387904 0)], none⟩,
 ⟨(some 123), (.p (.bin .add .ifc)), [.t 120, .t 122], none⟩,
 ⟨(some 124), (.p .mov), [.t 4], none⟩,
 ⟨(some 125), (.p (.bin .mul .ifc)), [.c (.cplx .f64 4613937818241073152 0), .t 124], none⟩,
 ⟨(some 126), (.p .mov), [.t 5], none⟩,
 ⟨(some 127), (.p (.bin .quo .ifc)), [.t 126, .c (.cplx .f64 4611686018427387904 0)], none⟩,
 ⟨(some 128), (.p (.bin .sub .ifc)), [.t 125, .t 127], none⟩,
 ⟨(some 129), (.p .mov), [.t 4], none⟩,
 ⟨(some 130), (.p (.bin .mul .ifc)), [.c (.cplx .f64 4616189618054758400 0), .t 129], none⟩,
 ⟨(some 131), (.p .mov), [.t 4], none⟩,
 ⟨(some 132), (.p (.bin .mul .ifc)), [.c (.cplx .f64 4617315517961601024 0), .t 131], none⟩,
 ⟨(some 133), (.p .mov), [.t 4], none⟩,
 ⟨(some 134), (.p (.bin .mul .ifc)), [.c (.cplx .f64 4618441417868443648 0), .t 133], none⟩,
 ⟨(some 135), (.h (.bslF 1 8 [(.cplx .f64 0 0)] [(0, 1), (1, 1), (2, 1), (3, 1), (4, 1), (5, 1), (6, 1), (7, 1)])), [.c (.cplx .f64 0 0), .t 116, .t 118, .t 123, .t 128, .t 130, .t 132, .t 134], none⟩,
 ⟨(some 136), (.p (.faddr 0)), [.t 6], none⟩,
 ⟨none, (.h (.store 1)), [.t 136, .t 135], none⟩])
 (.seq
 (.ops [
 ⟨(some 137), (.p (.bld [(.int .i64 0), (.int .i64 0)] [(0, 1), (1, 1)])), [.c (.int .i64 0), .c (.int .i64 1)], none⟩,
 ⟨(some 138), (.p (.bld [(.int .i64 0), (.int .i64 0)] [(0, 1), (1, 1)])), [.c (.int .i64 1), .c (.int .i64 2)], none⟩,
 ⟨(some 139), (.p (.bld [(.int .i64 0), (.int .i64 0)] [(0, 1), (1, 1)])), [.c (.int .i64 2), .c (.int .i64 3)], none⟩,
 ⟨(some 140), (.p (.bld [(.int .i64 0), (.int .i64 0)] [(0, 1), (1, 1)])), [.c (.int .i64 2), .c (.int .i64 4)], none⟩,
 ⟨(some 141), (.p (.bld [(.int .i64 0), (.int .i64 0)] [(0, 1), (1, 1)])), [.c (.int .i64 5), .c (.int .i64 3)], none⟩,
 ⟨(some 142), (.p (.bld [(.int .i64 0), (.int .i64 0)] [(0, 1), (1, 1)])), [.c (.int .i64 4), .c (.int .i64 5)], none⟩,
 ⟨(some 143), (.p (.bld [(.int .i64 0), (.int .i64 0)] [(0, 1), (1, 1)])), [.c (.int .i64 5), .c (.int .i64 6)], none⟩,
 ⟨(some 144), (.p (.bld [(.int .i64 0), (.int .i64 0)] [(0, 1), (1, 1)])), [.c (.int .i64 6), .c (.int .i64 7)], none⟩,
 ⟨(some 145), (.h (.bslO 2 8 [(.int .i64 0), (.int .i64 0)] [(0, 2), (2, 2), (4, 2), (6, 2), (8, 2), (10, 2), (12, 2), (14, 2)])), [.t 137, .t 138, .t 139, .t 140, .t 141, .t 142, .t 143, .t 144], none⟩,
 ⟨(some 7), (.p .mov), [.t 145], none⟩])
 (.ops [
 ⟨(some 146), (.p (.bld [(.int .i64 0), (.int .i64 0), (.int .i64 0), (.int .i64 0)] [(0, 1), (1, 1), (2, 1), (3, 1)])), [.c (.int .i64 2), .c (.int .i64 1), .c (.int .i64 2), .c (.int .i64 3)], none⟩,
 ⟨(some 147), (.p (.bld [(.int .i64 0), (.int .i64 0), (.int .i64 0), (.int .i64 0)] [(0, 1), (1, 1), (2, 1), (3, 1)])), [.c (.int .i64 5), .c (.int .i64 6), .c (.int .i64 4), .c (.int .i64 5)], none⟩,
 ⟨(some 148), (.h (.bslF 4 2 [(.int .i64 0), (.int .i64 0), (.int .i64 0), (.int .i64 0)] [(0, 4), (4, 4)])), [.t 146, .t 147], none⟩,
 ⟨(some 149), (.p (.faddr 3)), [.t 6], none⟩,
 ⟨none, (.h (.store 1)), [.t 149, .t 148], none⟩])))
 (.seq
 (.ops [
 ⟨(some 28), (.p .mov), [.t 4], none⟩,
 ⟨(some 29), (.p .mov), [.t 4], none⟩,
 ⟨(some 30), (.p (.bin .mul .ifc)), [.c (.cplx .f64 4611686018427387904 0), .t 29], none⟩,
 ⟨(some 31), (.p .mov), [.t 4], none⟩,
 ⟨(some 32), (.p (.bin .mul .ifc)), [.c (.cplx .f64 4613937818241073152 0), .t 31], none⟩,
 ⟨(some 33), (.p .mov), [.t 5], none⟩,
 ⟨(some 34), (.p (.bin .add .ifc)), [.t 32, .t 33], none⟩,
 ⟨(some 35), (.p .mov), [.t 4], none⟩,
 ⟨(some 36), (.p (.bin .mul .ifc)), [.c (.cplx .f64 4613937818241073152 0), .t 35], none⟩,
 ⟨(some 37), (.p .mov), [.t 5], none⟩,
 ⟨(some 38), (.p (.bin .sub .ifc)), [.t 36, .t 37], none⟩,
 ⟨(some 39), (.p .mov), [.t 4], none⟩,
 ⟨(some 40), (.p (.bin .mul .ifc)), [.c (.cplx .f64 4616189618054758400 0), .t 39], none⟩,
 ⟨(some 41), (.p .mov), [.t 5], none⟩,
 ⟨(some 42), (.p (.bin .add .ifc)), [.t 40, .t 41], none⟩,
 ⟨(some 43), (.p .mov), [.t 4], none⟩,
 ⟨(some 44), (.p (.bin .mul .ifc)), [.c (.cplx .f64 4616189618054758400 0), .t 43], none⟩,
 ⟨(some 45), (.p .mov), [.t 5], none⟩,
 ⟨(some 46), (.p (.bin .sub .ifc)), [.t 44, .t 45], none⟩,
 ⟨(some 47), (.h (.bslF 1 7 [(.cplx .f64 0 0)] [(0, 1), (1, 1), (2, 1), (3, 1), (4, 1), (5, 1), (6, 1)])), [.c (.cplx .f64 0 0), .t 28, .t 30, .t 34, .t 38, .t 42, .t 46], none⟩,
 ⟨(some 48), (.p (.faddr 0)), [.t 6], none⟩,
 ⟨none, (.h (.store 1)), [.t 48, .t 47], none⟩])
 (.seq
 (.ops [
 ⟨(some 49), (.p (.bld [(.int .i64 0), (.int .i64 0)] [(0, 1), (1, 1)])), [.c (.int .i64 0), .c (.int .i64 1)], none⟩,
 ⟨(some 50), (.p (.bld [(.int .i64 0), (.int .i64 0)] [(0, 1), (1, 1)])), [.c (.int .i64 2), .c (.int .i64 1)], none⟩,
 ⟨(some 51), (.p (.bld [(.int .i64 0), (.int .i64 0)] [(0, 1), (1, 1)])), [.c (.int .i64 2), .c (.int .i64 3)], none⟩,
 ⟨(some 52), (.p (.bld [(.int .i64 0), (.int .i64 0)] [(0, 1), (1, 1)])), [.c (.int .i64 2), .c (.int .i64 4)], none⟩,
 ⟨(some 53), (.p (.bld [(.int .i64 0), (.int .i64 0)] [(0, 1), (1, 1)])), [.c (.int .i64 3), .c (.int .i64 5)], none⟩,
 ⟨(some 54), (.p (.bld [(.int .i64 0), (.int .i64 0)] [(0, 1), (1, 1)])), [.c (.int .i64 4), .c (.int .i64 6)], none⟩,
 ⟨(some 55), (.h (.bslO 2 6 [(.int .i64 0), (.int .i64 0)] [(0, 2), (2, 2), (4, 2), (6, 2), (8, 2), (10, 2)])), [.t 49, .t 50, .t 51, .t 52, .t 53, .t 54], none⟩,
 ⟨(some 7), (.p .mov), [.t 55], none⟩])
 (.ops [
 ⟨(some 56), (.p (.bld [(.int .i64 0), (.int .i64 0), (.int .i64 0), (.int .i64 0)] [(0, 1), (1, 1), (2, 1), (3, 1)])), [.c (.int .i64 2), .c (.int .i64 1), .c (.int .i64 3), .c (.int .i64 2)], none⟩,
 ⟨(some 57), (.h (.bslF 4 1 [(.int .i64 0), (.int .i64 0), (.int .i64 0), (.int .i64 0)] [(0, 4)])), [.t 56], none⟩,
 ⟨(some 58), (.p (.faddr 3)), [.t 6], none⟩,
 ⟨none, (.h (.store 1)), [.t 58, .t 57], none⟩])))))))))))
 (.seq
 (.seq
 (.ops [
 ⟨(some 11), (.p .mov), [.c (.int .i64 0)], none⟩])
 r04_Make_L5)
 (.seq
 (.seq
 (.ops [
 ⟨(some 12), (.p .mov), [.c (.int .i64 0)], none⟩])
 r04_Make_L7)
 (.seq
 (.ops [
 ⟨(some 219), (.p (.faddr 2)), [.t 1], none⟩,
 ⟨(some 220), (.h (.load false 1)), [.t 219], none⟩,
 ⟨(some 221), (.p (.toInt .i64)), [.t 220], none⟩,
 ⟨(some 222), (.p .mov), [.t 3], none⟩,
 ⟨(some 223), (.p (.bin .mul .ifc)), [.c (.int .i64 2), .t 222], none⟩,
 ⟨(some 224), (.p (.bin .rem .ifc)), [.t 221, .t 223], none⟩,
 ⟨(some 225), (.p (.bin .add .ifc)), [.c (.int .i64 1), .t 224], none⟩,
 ⟨(some 226), (.p (.faddr 5)), [.t 6], none⟩,
 ⟨none, (.h (.store 1)), [.t 226, .t 225], none⟩])
 (.seq
 (.ops [
 ⟨(some 227), (.p (.faddr 3)), [.t 1], none⟩,
 ⟨(some 228), (.hl 1 (.load false 1)), [.t 227], none⟩,
 ⟨(some 229), (.p (.bin .rem .ifc)), [.t 228, .c (.int .u16 1000)], none⟩,
 ⟨(some 230), (.p (.toInt .i64)), [.t 229], none⟩,
 ⟨(some 231), (.p (.bin .add .ifc)), [.c (.int .i64 1), .t 230], none⟩,
 ⟨(some 232), (.p (.faddr 4)), [.t 1], none⟩,
 ⟨(some 233), (.hl 1 (.load false 1)), [.t 232], none⟩,
 ⟨(some 234), (.p (.bin .rem .ifc)), [.t 233, .c (.int .u16 1000)], none⟩,
 ⟨(some 235), (.p (.toInt .i64)), [.t 234], none⟩,
 ⟨(some 236), (.p (.bin .add .ifc)), [.c (.int .i64 1), .t 235], none⟩,
 ⟨(some 237), (.p (.faddr 5)), [.t 1], none⟩,
 ⟨(some 238), (.hl 1 (.load false 1)), [.t 237], none⟩,
 ⟨(some 239), (.p (.toInt .i64)), [.t 238], none⟩,
 ⟨(some 240), (.p (.bin .add .ifc)), [.c (.int .i64 1), .t 239], none⟩,
 ⟨(some 241), (.p (.faddr 6)), [.t 1], none⟩,
 ⟨(some 242), (.hl 1 (.load false 1)), [.t 241], none⟩,
 ⟨(some 243), (.p (.bin .rem .ifc)), [.t 242, .c (.int .u8 4)], none⟩,
 ⟨(some 244), (.p (.toInt .i64)), [.t 243], none⟩,
 ⟨(some 245), (.p (.faddr 6)), [.t 6], none⟩,
 ⟨none, (.hl 6 (.store 1)), [.t 245, .t 231], none⟩,
 ⟨(some 246), (.p (.faddr 7)), [.t 6], none⟩,
 ⟨none, (.hl 6 (.store 1)), [.t 246, .t 236], none⟩,
 ⟨(some 247), (.p (.faddr 8)), [.t 6], none⟩,
 ⟨none, (.hl 6 (.store 1)), [.t 247, .t 240], none⟩,
 ⟨(some 248), (.p (.faddr 9)), [.t 6], none⟩,
 ⟨none, (.hl 6 (.store 1)), [.t 248, .t 244], none⟩])
 (.seq
 (.ops [
 ⟨(some 249), (.h (.load true 10)), [.t 6], none⟩,
 ⟨none, (.h (.store 10)), [.t 2, .t 249], none⟩])
 (.ret [2])))))))))))))
def r04_Make_I : FInfo := ⟨(.fz true), 1, r04_Make_C, [.cell 2 true 10]⟩
def r04_Make_A : Ann := ⟨[], [55, 110, 145, 215, 216], [(1, [1, 2, 3, 6, 7, 8, 9], [1, 2, 3, 6, 7, 8]), (3, [1, 2, 3, 6, 7, 8, 10], [1, 2, 3, 6, 7]), (5, [1, 2, 3, 6, 7, 11], [1, 2, 3, 6, 7]), (7, [1, 2, 3, 6, 7, 12], [1, 2, 3, 6])], [(0, [1, 2, 3, 6, 7]), (2, [1, 2, 3, 6, 7, 8, 9]), (4, [1, 2, 3, 6, 7, 8, 10]), (6, [1, 2, 3, 6, 7, 11]), (8, [1, 2, 3, 6, 7, 12])], [1, 2, 6]⟩
abbrev n_r04_Make : Nat := 47

/-! ### balise/baliseref05.Walk -/
def r05_Walk_B0 : CCode :=
 (.seq
 (.seq
 (.ops [
 ⟨(some 21), (.p .mov), [.t 11], none⟩,
 ⟨(some 22), (.p .len), [.t 21], none⟩,
 ⟨(some 23), (.p .mov), [.t 4], none⟩,
 ⟨(some 24), (.p (.bin .lss .ifc)), [.t 22, .t 23], none⟩])
 (.cond (.t 24)
 .skip
 (.exit 0)))
 (.seq
 (.block 1 (some [3, 4, 5, 11, 12, 13])
 (.seq
 (.ops [
 ⟨(some 27), (.h (.load true 10)), [.t 5], none⟩,
 ⟨(some 28), (.h (.load true 2)), [.t 12], none⟩,
 ⟨(some 29), .call, [.c (.fn (.func 79) [] []), .t 27, .t 28], none⟩,
 ⟨(some 14), (.p .mov), [.t 29], none⟩])
 (.seq
 (.seq
 (.ops [
 ⟨(some 30), (.p .mov), [.t 14], none⟩,
 ⟨(some 31), (.p .len), [.t 30], none⟩,
 ⟨(some 32), (.p (.bin .eql .int)), [.t 31, .c (.int .i64 0)], none⟩])
 (.cond (.t 32)
 (.seq
 (.ops [
 ⟨(some 33), (.p .mov), [.t 11], none⟩,
 ⟨(some 10), (.p .mov), [.t 33], none⟩])
 (.ret [10]))
 .skip))
 (.seq
 (.ops [
 ⟨(some 15), (.p .mov), [.c (.int .i64 0)], none⟩])
 (.seq
 (.seq
 (.ops [
 ⟨(some 34), (.p .mov), [.t 13], none⟩,
 ⟨(some 35), (.p .mov), [.t 3], none⟩,
 ⟨(some 36), (.p .len), [.t 35], none⟩,
 ⟨(some 37), (.p (.bin .lss .ifc)), [.t 34, .t 36], none⟩])
 (.cond (.t 37)
 (.ops [
 ⟨(some 38), (.p .mov), [.t 3], none⟩,
 ⟨(some 39), (.p .mov), [.t 13], none⟩,
 ⟨(some 40), (.p (.iaddr 1)), [.t 38, .t 39], none⟩,
 ⟨(some 41), (.h (.load false 1)), [.t 40], none⟩,
 ⟨(some 42), (.p (.toInt .i64)), [.t 41], none⟩,
 ⟨(some 43), (.p .mov), [.t 14], none⟩,
 ⟨(some 44), (.p .len), [.t 43], none⟩,
 ⟨(some 45), (.p (.bin .rem .ifc)), [.t 42, .t 44], none⟩,
 ⟨(some 15), (.p .mov), [.t 45], none⟩])
 .skip))
 (.seq
 (.seq
 (.ops [
 ⟨(some 46), (.p .mov), [.t 11], none⟩,
 ⟨(some 47), (.p .mov), [.t 14], none⟩,
 ⟨(some 48), (.p .mov), [.t 15], none⟩,
 ⟨(some 49), (.p (.iaddr 2)), [.t 47, .t 48], none⟩,
 ⟨(some 50), (.p (.faddr 0)), [.t 49], none⟩,
 ⟨(some 51), (.h (.load false 1)), [.t 50], none⟩,
 ⟨(some 52), .call, [.c (.fn (.func 22) [] []), .t 46, .t 51], none⟩])
 (.cond (.t 52)
 (.seq
 (.ops [
 ⟨(some 53), (.p .mov), [.t 11], none⟩,
 ⟨(some 10), (.p .mov), [.t 53], none⟩])
 (.ret [10]))
 .skip))
 (.seq
 (.ops [
 ⟨(some 54), (.p .mov), [.t 11], none⟩,
 ⟨(some 55), (.p .mov), [.t 14], none⟩,
 ⟨(some 56), (.p .mov), [.t 15], none⟩,
 ⟨(some 57), (.p (.iaddr 2)), [.t 55, .t 56], none⟩,
 ⟨(some 58), (.p (.faddr 0)), [.t 57], none⟩,
 ⟨(some 59), (.h (.load false 1)), [.t 58], none⟩,
 ⟨(some 60), (.h (.bslF 1 1 [(.int .i64 0)] [(0, 1)])), [.t 59], none⟩,
 ⟨(some 61), (.h (.app 1 8 [(.int .i64 0)])), [.t 54, .t 60], none⟩,
 ⟨(some 11), (.p .mov), [.t 61], none⟩])
 (.ops [
 ⟨(some 62), (.p .mov), [.t 14], none⟩,
 ⟨(some 63), (.p .mov), [.t 15], none⟩,
 ⟨(some 64), (.p (.iaddr 2)), [.t 62, .t 63], none⟩,
 ⟨(some 65), (.p (.faddr 0)), [.t 64], none⟩,
 ⟨(some 66), (.h (.load false 1)), [.t 65], none⟩,
 ⟨(some 67), (.p .mov), [.t 14], none⟩,
 ⟨(some 68), (.p .mov), [.t 15], none⟩,
 ⟨(some 69), (.p (.iaddr 2)), [.t 67, .t 68], none⟩,
 ⟨(some 70), (.p (.faddr 1)), [.t 69], none⟩,
 ⟨(some 71), (.h (.load false 1)), [.t 70], none⟩,
 ⟨(some 72), (.p (.bin .sub .ifc)), [.c (.int .i64 1), .t 71], none⟩,
 ⟨(some 73), (.p (.bld [(.int .i64 0), (.int .i64 0)] [(0, 1), (1, 1)])), [.t 66, .t 72], none⟩,
 ⟨none, (.h (.store 2)), [.t 12, .t 73], none⟩]))))))))
 (.ops [
 ⟨(some 25), (.p .mov), [.t 13], none⟩,
 ⟨(some 26), (.p (.bin .add .ifc)), [.t 25, .c (.int .i64 1)], none⟩,
 ⟨(some 13), (.p .mov), [.t 26], none⟩])))
def r05_Walk_L0 : CCode := .bloop 0 [3, 4, 5, 11, 12, 13] [11] r05_Walk_B0
def r05_Walk_C : CCode :=
 (.seq
 (.ops [
 ⟨(some 5), (.h (.box 5)), [.t 0], none⟩,
 ⟨(some 10), (.p .mov), [.c .nils], none⟩])
 (.seq
 (.ops [
 ⟨(some 16), (.p .mov), [.t 1], none⟩,
 ⟨(some 17), (.h (.bslO 1 1 [(.int .i64 0)] [(0, 1)])), [.t 16], none⟩,
 ⟨(some 11), (.p .mov), [.t 17], none⟩])
 (.seq
 (.ops [
 ⟨(some 18), (.p .mov), [.t 1], none⟩,
 ⟨(some 19), (.p .mov), [.t 2], none⟩,
 ⟨(some 20), (.p (.bld [(.int .i64 0), (.int .i64 0)] [(0, 1), (1, 1)])), [.t 18, .t 19], none⟩,
 ⟨(some 12), (.h (.newl 12 [(.int .i64 0), (.int .i64 0)])), [], none⟩,
 ⟨none, (.h (.store 2)), [.t 12, .t 20], none⟩])
 (.seq
 (.seq
 (.ops [
 ⟨(some 13), (.p .mov), [.c (.int .i64 0)], none⟩])
 r05_Walk_L0)
 (.seq
 (.ops [
 ⟨(some 74), (.p .mov), [.t 11], none⟩,
 ⟨(some 10), (.p .mov), [.t 74], none⟩])
 (.ret [10]))))))
def r05_Walk_I : FInfo := ⟨(.fz false), 5, r05_Walk_C, [.tmp 10]⟩
def r05_Walk_A : Ann := ⟨[], [17], [(0, [3, 4, 5, 11, 12, 13], [11])], [(1, [3, 4, 5, 11, 12, 13])], [5, 12]⟩
abbrev n_r05_Walk : Nat := 48

/-! ### balise/baliseref01.Has -/
def r01_Has_B0 : CCode :=
 (.seq
 (.seq
 (.ops [
 ⟨(some 6), (.p .mov), [.t 5], none⟩,
 ⟨(some 7), (.p .mov), [.t 0], none⟩,
 ⟨(some 8), (.p .len), [.t 7], none⟩,
 ⟨(some 9), (.p (.bin .lss .ifc)), [.t 6, .t 8], none⟩])
 (.cond (.t 9)
 .skip
 (.exit 0)))
 (.seq
 (.block 1 (some [0, 1, 5])
 (.seq
 (.ops [
 ⟨(some 12), (.p .mov), [.t 0], none⟩,
 ⟨(some 13), (.p .mov), [.t 5], none⟩,
 ⟨(some 14), (.p (.iaddr 1)), [.t 12, .t 13], none⟩,
 ⟨(some 15), (.h (.load false 1)), [.t 14], none⟩,
 ⟨(some 16), (.p .mov), [.t 1], none⟩,
 ⟨(some 17), (.p (.bin .eql .int)), [.t 15, .t 16], none⟩])
 (.cond (.t 17)
 (.seq
 (.ops [
 ⟨(some 4), (.p .mov), [.c (.bool true)], none⟩])
 (.ret [4]))
 .skip)))
 (.ops [
 ⟨(some 10), (.p .mov), [.t 5], none⟩,
 ⟨(some 11), (.p (.bin .add .ifc)), [.t 10, .c (.int .i64 1)], none⟩,
 ⟨(some 5), (.p .mov), [.t 11], none⟩])))
def r01_Has_L0 : CCode := .bloop 0 [0, 1, 5] [] r01_Has_B0
def r01_Has_C : CCode :=
 (.seq
 (.ops [
 ⟨(some 4), (.p .mov), [.c (.bool false)], none⟩])
 (.seq
 (.seq
 (.ops [
 ⟨(some 5), (.p .mov), [.c (.int .i64 0)], none⟩])
 r01_Has_L0)
 (.seq
 (.ops [
 ⟨(some 4), (.p .mov), [.c (.bool false)], none⟩])
 (.ret [4]))))
def r01_Has_I : FInfo := ⟨(.fz false), 2, r01_Has_C, [.tmp 4]⟩
def r01_Has_A : Ann := ⟨[], [], [(0, [0, 1, 5], [])], [(1, [0, 1, 5])], []⟩
abbrev n_r01_Has : Nat := 22

/-! ### balise/baliseref01.Ints -/
def r01_Ints_B0 : CCode :=
 (.seq
 (.seq
 (.ops [
 ⟨(some 11), (.p .mov), [.t 5], none⟩,
 ⟨(some 12), (.p .mov), [.t 0], none⟩,
 ⟨(some 13), (.p .len), [.t 12], none⟩,
 ⟨(some 14), (.p (.bin .lss .ifc)), [.t 11, .t 13], none⟩])
 (.cond (.t 14)
 .skip
 (.exit 0)))
 (.seq
 (.block 1 (some [0, 1, 5])
 (.seq
 (.ops [
 ⟨(some 17), (.p .mov), [.t 0], none⟩,
 ⟨(some 18), (.p .mov), [.t 5], none⟩,
 ⟨(some 19), (.p (.iaddr 1)), [.t 17, .t 18], none⟩,
 ⟨(some 20), (.h (.load false 1)), [.t 19], none⟩,
 ⟨(some 21), (.p .mov), [.t 1], none⟩,
 ⟨(some 22), (.p .mov), [.t 5], none⟩,
 ⟨(some 23), (.p (.iaddr 1)), [.t 21, .t 22], none⟩,
 ⟨(some 24), (.h (.load false 1)), [.t 23], none⟩,
 ⟨(some 25), (.p (.bin .neq .int)), [.t 20, .t 24], none⟩])
 (.cond (.t 25)
 (.seq
 (.ops [
 ⟨(some 4), (.p .mov), [.c (.bool false)], none⟩])
 (.ret [4]))
 .skip)))
 (.ops [
 ⟨(some 15), (.p .mov), [.t 5], none⟩,
 ⟨(some 16), (.p (.bin .add .ifc)), [.t 15, .c (.int .i64 1)], none⟩,
 ⟨(some 5), (.p .mov), [.t 16], none⟩])))
def r01_Ints_L0 : CCode := .bloop 0 [0, 1, 5] [] r01_Ints_B0
def r01_Ints_C : CCode :=
 (.seq
 (.ops [
 ⟨(some 4), (.p .mov), [.c (.bool false)], none⟩])
 (.seq
 (.seq
 (.ops [
 ⟨(some 6), (.p .mov), [.t 0], none⟩,
 ⟨(some 7), (.p .len), [.t 6], none⟩,
 ⟨(some 8), (.p .mov), [.t 1], none⟩,
 ⟨(some 9), (.p .len), [.t 8], none⟩,
 ⟨(some 10), (.p (.bin .neq .int)), [.t 7, .t 9], none⟩])
 (.cond (.t 10)
 (.seq
 (.ops [
 ⟨(some 4), (.p .mov), [.c (.bool false)], none⟩])
 (.ret [4]))
 .skip))
 (.seq
 (.seq
 (.ops [
 ⟨(some 5), (.p .mov), [.c (.int .i64 0)], none⟩])
 r01_Ints_L0)
 (.seq
 (.ops [
 ⟨(some 4), (.p .mov), [.c (.bool true)], none⟩])
 (.ret [4])))))
def r01_Ints_I : FInfo := ⟨(.fz false), 2, r01_Ints_C, [.tmp 4]⟩
def r01_Ints_A : Ann := ⟨[], [], [(0, [0, 1, 5], [])], [(1, [0, 1, 5])], []⟩
abbrev n_r01_Ints : Nat := 36

/-! ### balise/graph.New -/
def graph_New_C : CCode :=
 (.seq
 (.ops [
 ⟨(some 1), (.h (.box 1)), [.t 0], none⟩,
 ⟨(some 2), (.p .mov), [.c .nilp], none⟩])
 (.seq
 (.ops [
 ⟨(some 3), (.h (.load true 10)), [.t 1], none⟩,
 ⟨(some 4), (.p (.bld [.nils, .nils, .nils, .nils, .nils, (.int .i64 0), (.int .i64 0), (.int .i64 0), (.int .i64 0), (.int .i64 0)] [(0, 10)])), [.t 3], none⟩,
 ⟨(some 5), (.h .boxh), [.t 4], none⟩,
 ⟨(some 2), (.p .mov), [.t 5], none⟩])
 (.ret [2])))
def graph_New_I : FInfo := ⟨(.fz false), 1, graph_New_C, [.tmp 2]⟩
def graph_New_A : Ann := ⟨[5], [], [], [], [1]⟩
abbrev n_graph_New : Nat := 41

/-! ### (*balise/graph.Graph).Len -/
def graph_Graph_Len_C : CCode :=
 (.seq
 (.ops [
 ⟨(some 4), (.p .mov), [.c (.int .i64 0)], none⟩])
 (.seq
 (.ops [
 ⟨(some 8), (.p .mov), [.t 0], none⟩,
 ⟨(some 9), (.p .mov), [.t 1], none⟩,
 ⟨(some 10), .call, [.c (.fn (.func 90) [] []), .t 8, .t 9], none⟩,
 ⟨(some 7), (.p .mov), [.t 10], none⟩,
 ⟨(some 11), (.p (.ext 0)), [.t 7], none⟩,
 ⟨(some 12), (.p (.ext 1)), [.t 7], none⟩,
 ⟨(some 5), (.h (.newl 5 [(.int .i64 0), (.int .i64 0), (.int .i64 0)])), [], none⟩,
 ⟨none, (.h (.store 3)), [.t 5, .t 11], none⟩,
 ⟨(some 6), (.p .mov), [.t 12], none⟩])
 (.seq
 (.ops [
 ⟨(some 13), (.p (.faddr 0)), [.t 5], none⟩,
 ⟨(some 14), (.h (.load false 1)), [.t 13], none⟩,
 ⟨(some 4), (.p .mov), [.t 14], none⟩])
 (.ret [4]))))
def graph_Graph_Len_I : FInfo := ⟨(.fz false), 2, graph_Graph_Len_C, [.tmp 4]⟩
def graph_Graph_Len_A : Ann := ⟨[], [], [], [], [5]⟩
abbrev n_graph_Graph_Len : Nat := 67

/-! ### slices.Contains[[]int,int] -/
def slices_Contains_int_C : CCode :=
 (.seq
 (.ops [
 ⟨(some 4), (.p .mov), [.c (.bool false)], none⟩])
 (.seq
 (.ops [
 ⟨(some 5), (.p .mov), [.t 0], none⟩,
 ⟨(some 6), (.p .mov), [.t 1], none⟩,
 ⟨(some 7), .call, [.c (.fn (.func 85) [] []), .t 5, .t 6], none⟩,
 ⟨(some 8), (.p (.bin .geq .ifc)), [.t 7, .c (.int .i64 0)], none⟩,
 ⟨(some 4), (.p .mov), [.t 8], none⟩])
 (.ret [4])))
def slices_Contains_int_I : FInfo := ⟨(.fz false), 2, slices_Contains_int_C, [.tmp 4]⟩
def slices_Contains_int_A : Ann := ⟨[], [], [], [], []⟩
abbrev n_slices_Contains_int : Nat := 59

/-! ### balise/baliseref05.Len -/
def r05_Len_C : CCode :=
 (.seq
 (.ops [
 ⟨(some 2), (.h (.box 2)), [.t 0], none⟩,
 ⟨(some 4), (.p .mov), [.c (.int .i64 0)], none⟩])
 (.seq
 (.seq
 (.ops [
 ⟨(some 5), (.p .mov), [.t 1], none⟩,
 ⟨(some 6), (.p (.bin .lss .ifc)), [.t 5, .c (.int .i64 0)], none⟩,
 ⟨(some 7), (.p .mov), [.t 6], none⟩,
 ⟨(some 8), (.p .mov), [.t 1], (some (7, false))⟩,
 ⟨(some 9), (.p (.faddr 1)), [.t 2], (some (7, false))⟩,
 ⟨(some 10), (.h (.load false 1)), [.t 9], (some (7, false))⟩,
 ⟨(some 11), (.p .len), [.t 10], (some (7, false))⟩,
 ⟨(some 12), (.p (.bin .geq .ifc)), [.t 8, .t 11], (some (7, false))⟩,
 ⟨(some 13), (.p .pick), [.t 7, .c (.bool true), .t 12], none⟩])
 (.cond (.t 13)
 (.seq
 (.ops [
 ⟨(some 4), (.p .mov), [.c (.int .i64 0)], none⟩])
 (.ret [4]))
 .skip))
 (.seq
 (.ops [
 ⟨(some 14), (.p (.faddr 1)), [.t 2], none⟩,
 ⟨(some 15), (.h (.load false 1)), [.t 14], none⟩,
 ⟨(some 16), (.p .mov), [.t 1], none⟩,
 ⟨(some 17), (.p (.iaddr 3)), [.t 15, .t 16], none⟩,
 ⟨(some 18), (.p (.faddr 0)), [.t 17], none⟩,
 ⟨(some 19), (.h (.load false 1)), [.t 18], none⟩,
 ⟨(some 4), (.p .mov), [.t 19], none⟩])
 (.ret [4]))))
def r05_Len_I : FInfo := ⟨(.fz false), 2, r05_Len_C, [.tmp 4]⟩
def r05_Len_A : Ann := ⟨[], [], [], [], [2]⟩
abbrev n_r05_Len : Nat := 49

/-! ### balise/baliseref05.Around -/
def r05_Around_B0 : CCode :=
 (.seq
 (.seq
 (.ops [
 ⟨(some 69), (.p .mov), [.t 11], none⟩,
 ⟨(some 70), (.p .mov), [.t 10], none⟩,
 ⟨(some 71), (.p .len), [.t 70], none⟩,
 ⟨(some 72), (.p (.bin .lss .ifc)), [.t 69, .t 71], none⟩])
 (.cond (.t 72)
 .skip
 (.exit 0)))
 (.seq
 (.block 1 (some [3, 8, 10, 11])
 (.seq
 (.ops [
 ⟨(some 75), (.p .mov), [.t 10], none⟩,
 ⟨(some 76), (.p .mov), [.t 11], none⟩,
 ⟨(some 77), (.p (.iaddr 2)), [.t 75, .t 76], none⟩,
 ⟨(some 78), (.h (.load true 2)), [.t 77], none⟩,
 ⟨(some 79), (.h (.load true 2)), [.t 3], none⟩,
 ⟨(some 80), (.p (.bin .neq (.parts [(0, false, 1, .int), (1, false, 1, .int)]))), [.t 78, .t 79], none⟩])
 (.cond (.t 80)
 (.ops [
 ⟨(some 81), (.p .mov), [.t 8], none⟩,
 ⟨(some 82), (.p .mov), [.t 10], none⟩,
 ⟨(some 83), (.p .mov), [.t 11], none⟩,
 ⟨(some 84), (.p (.iaddr 2)), [.t 82, .t 83], none⟩,
 ⟨(some 85), (.h (.load true 2)), [.t 84], none⟩,
 ⟨(some 86), (.h (.bslF 2 1 [(.int .i64 0), (.int .i64 0)] [(0, 2)])), [.t 85], none⟩,
 ⟨(some 87), (.h (.app 2 16 [(.int .i64 0), (.int .i64 0)])), [.t 81, .t 86], none⟩,
 ⟨(some 8), (.p .mov), [.t 87], none⟩])
 .skip)))
 (.ops [
 ⟨(some 73), (.p .mov), [.t 11], none⟩,
 ⟨(some 74), (.p (.bin .add .ifc)), [.t 73, .c (.int .i64 1)], none⟩,
 ⟨(some 11), (.p .mov), [.t 74], none⟩])))
def r05_Around_L0 : CCode := .bloop 0 [3, 8, 10, 11] [8] r05_Around_B0
def r05_Around_C : CCode :=
 (.seq
 (.ops [
 ⟨(some 2), (.h (.box 2)), [.t 0], none⟩,
 ⟨(some 3), (.h (.box 3)), [.t 1], none⟩,
 ⟨(some 4), (.p .mov), [.c .nils], none⟩])
 (.seq
 (.ops [
 ⟨(some 13), (.h (.load true 10)), [.t 2], none⟩,
 ⟨(some 14), (.h (.load true 2)), [.t 3], none⟩,
 ⟨(some 15), .call, [.c (.fn (.func 101) [] []), .t 13, .t 14], none⟩,
 ⟨(some 12), (.p .mov), [.t 15], none⟩,
 ⟨(some 16), (.p (.ext 0)), [.t 12], none⟩,
 ⟨(some 17), (.p (.ext 1)), [.t 12], none⟩,
 ⟨(some 5), (.p .mov), [.t 16], none⟩,
 ⟨(some 6), (.p .mov), [.t 17], none⟩])
 (.seq
 (.seq
 (.ops [
 ⟨(some 18), (.p .mov), [.t 6], none⟩,
 ⟨(some 19), (.p (.un .not)), [.t 18], none⟩])
 (.cond (.t 19)
 (.seq
 (.ops [
 ⟨(some 4), (.p .mov), [.c .nils], none⟩])
 (.ret [4]))
 .skip))
 (.seq
 (.ops [
 ⟨(some 20), (.h (.load true 10)), [.t 2], none⟩,
 ⟨(some 21), (.p .mov), [.t 5], none⟩,
 ⟨(some 22), .call, [.c (.fn (.func 102) [] []), .t 20, .t 21], none⟩,
 ⟨(some 7), (.p .mov), [.t 22], none⟩])
 (.seq
 (.ops [
 ⟨(some 8), (.p .mov), [.c .nils], none⟩])
 (.seq
 (.seq
 (.ops [
 ⟨(some 23), (.p .mov), [.t 7], none⟩,
 ⟨(some 24), (.p (.bin .geq .ifc)), [.t 23, .c (.int .i64 0)], none⟩])
 (.cond (.t 24)
 (.seq
 (.ops [
 ⟨(some 25), (.p (.faddr 3)), [.t 2], none⟩,
 ⟨(some 26), (.h (.load false 1)), [.t 25], none⟩,
 ⟨(some 27), (.p .mov), [.t 7], none⟩,
 ⟨(some 28), (.p (.iaddr 4)), [.t 26, .t 27], none⟩,
 ⟨(some 29), (.h (.load true 4)), [.t 28], none⟩,
 ⟨(some 9), (.h (.newl 9 [(.int .i64 0), (.int .i64 0), (.int .i64 0), (.int .i64 0)])), [], none⟩,
 ⟨none, (.h (.store 4)), [.t 9, .t 29], none⟩])
 (.seq
 (.seq
 (.ops [
 ⟨(some 30), (.p (.faddr 0)), [.t 3], none⟩,
 ⟨(some 31), (.h (.load false 1)), [.t 30], none⟩,
 ⟨(some 32), (.p (.faddr 1)), [.t 9], none⟩,
 ⟨(some 33), (.h (.load false 1)), [.t 32], none⟩,
 ⟨(some 34), (.p (.bin .eql .int)), [.t 31, .t 33], none⟩])
 (.cond (.t 34)
 (.seq
 (.ops [
 ⟨(some 35), (.p .mov), [.t 8], none⟩,
 ⟨(some 36), (.h (.load true 10)), [.t 2], none⟩,
 ⟨(some 37), (.p (.faddr 2)), [.t 9], none⟩,
 ⟨(some 38), (.h (.load false 1)), [.t 37], none⟩,
 ⟨(some 39), (.p .mov), [.t 5], none⟩,
 ⟨(some 40), .call, [.c (.fn (.func 103) [] []), .t 36, .t 38, .t 39], none⟩,
 ⟨(some 41), (.h (.app 2 16 [(.int .i64 0), (.int .i64 0)])), [.t 35, .t 40], none⟩,
 ⟨(some 8), (.p .mov), [.t 41], none⟩])
 (.seq
 (.ops [
 ⟨(some 42), (.p .mov), [.t 8], none⟩,
 ⟨(some 43), (.h (.load true 10)), [.t 2], none⟩,
 ⟨(some 44), (.p (.faddr 3)), [.t 9], none⟩,
 ⟨(some 45), (.h (.load false 1)), [.t 44], none⟩,
 ⟨(some 46), (.p .mov), [.t 5], none⟩,
 ⟨(some 47), .call, [.c (.fn (.func 103) [] []), .t 43, .t 45, .t 46], none⟩,
 ⟨(some 48), (.h (.app 2 16 [(.int .i64 0), (.int .i64 0)])), [.t 42, .t 47], none⟩,
 ⟨(some 4), (.p .mov), [.t 48], none⟩])
 (.ret [4])))
 .skip))
 (.seq
 (.seq
 (.ops [
 ⟨(some 49), (.p (.faddr 0)), [.t 3], none⟩,
 ⟨(some 50), (.h (.load false 1)), [.t 49], none⟩,
 ⟨(some 51), (.p (.faddr 2)), [.t 9], none⟩,
 ⟨(some 52), (.h (.load false 1)), [.t 51], none⟩,
 ⟨(some 53), (.p (.bin .eql .int)), [.t 50, .t 52], none⟩,
 ⟨(some 54), (.p .mov), [.t 53], none⟩,
 ⟨(some 55), (.p (.faddr 0)), [.t 3], (some (54, false))⟩,
 ⟨(some 56), (.h (.load false 1)), [.t 55], (some (54, false))⟩,
 ⟨(some 57), (.p (.faddr 3)), [.t 9], (some (54, false))⟩,
 ⟨(some 58), (.h (.load false 1)), [.t 57], (some (54, false))⟩,
 ⟨(some 59), (.p (.bin .eql .int)), [.t 56, .t 58], (some (54, false))⟩,
 ⟨(some 60), (.p .pick), [.t 54, .c (.bool true), .t 59], none⟩])
 (.cond (.t 60)
 (.seq
 (.ops [
 ⟨(some 61), (.h (.load true 10)), [.t 2], none⟩,
 ⟨(some 62), (.p (.faddr 1)), [.t 9], none⟩,
 ⟨(some 63), (.h (.load false 1)), [.t 62], none⟩,
 ⟨(some 64), (.p .mov), [.t 5], none⟩,
 ⟨(some 65), .call, [.c (.fn (.func 103) [] []), .t 61, .t 63, .t 64], none⟩,
 ⟨(some 4), (.p .mov), [.t 65], none⟩])
 (.ret [4]))
 .skip))
 (.seq
 (.ops [
 ⟨(some 4), (.p .mov), [.c .nils], none⟩])
 (.ret [4])))))
 .skip))
 (.seq
 (.ops [
 ⟨(some 66), (.h (.load true 10)), [.t 2], none⟩,
 ⟨(some 67), (.p .mov), [.t 5], none⟩,
 ⟨(some 68), .call, [.c (.fn (.func 104) [] []), .t 66, .t 67], none⟩,
 ⟨(some 10), (.p .mov), [.t 68], none⟩])
 (.seq
 (.seq
 (.ops [
 ⟨(some 11), (.p .mov), [.c (.int .i64 0)], none⟩])
 r05_Around_L0)
 (.seq
 (.seq
 (.ops [
 ⟨(some 88), (.p .mov), [.t 8], none⟩,
 ⟨(some 89), (.p .len), [.t 88], none⟩,
 ⟨(some 90), (.p (.bin .neq .int)), [.t 89, .c (.int .i64 1)], none⟩])
 (.cond (.t 90)
 (.seq
 (.ops [
 ⟨(some 4), (.p .mov), [.c .nils], none⟩])
 (.ret [4]))
 .skip))
 (.seq
 (.ops [
 ⟨(some 91), (.p .mov), [.t 8], none⟩,
 ⟨(some 4), (.p .mov), [.t 91], none⟩])
 (.ret [4])))))))))))
def r05_Around_I : FInfo := ⟨(.fz false), 2, r05_Around_C, [.tmp 4]⟩
def r05_Around_A : Ann := ⟨[], [], [(0, [3, 8, 10, 11], [8])], [(1, [3, 8, 10, 11])], [2, 3, 9]⟩
abbrev n_r05_Around : Nat := 79

/-! ### (*balise/graph.Graph).section -/
def graph_Graph_section_C : CCode :=
 (.seq
 (.ops [
 ⟨(some 4), (.h (.newl 4 [(.int .i64 0), (.int .i64 0), (.int .i64 0)])), [], none⟩,
 ⟨(some 5), (.p .mov), [.c (.bool false)], none⟩])
 (.seq
 (.seq
 (.ops [
 ⟨(some 6), (.p .mov), [.t 0], none⟩,
 ⟨(some 7), (.p (.bin .eql .ptr)), [.t 6, .c .nilp], none⟩,
 ⟨(some 8), (.p .mov), [.t 7], none⟩,
 ⟨(some 9), (.p .mov), [.t 1], (some (8, false))⟩,
 ⟨(some 10), (.p (.bin .lss .ifc)), [.t 9, .c (.int .i64 0)], (some (8, false))⟩,
 ⟨(some 11), (.p .pick), [.t 8, .c (.bool true), .t 10], none⟩,
 ⟨(some 12), (.p .mov), [.t 11], none⟩,
 ⟨(some 13), (.p .mov), [.t 1], (some (12, false))⟩,
 ⟨(some 14), (.p .mov), [.t 0], (some (12, false))⟩,
 ⟨(some 15), (.p .nchk), [.t 14], (some (12, false))⟩,
 ⟨(some 16), (.p (.faddr 0)), [.t 15], (some (12, false))⟩,
 ⟨(some 17), (.p (.faddr 1)), [.t 16], (some (12, false))⟩,
 ⟨(some 18), (.h (.load false 1)), [.t 17], (some (12, false))⟩,
 ⟨(some 19), (.p .len), [.t 18], (some (12, false))⟩,
 ⟨(some 20), (.p (.bin .geq .ifc)), [.t 13, .t 19], (some (12, false))⟩,
 ⟨(some 21), (.p .pick), [.t 12, .c (.bool true), .t 20], none⟩])
 (.cond (.t 21)
 (.seq
 (.ops [
 ⟨(some 22), (.p (.bld [(.int .i64 0), (.int .i64 0), (.int .i64 0)] [])), [], none⟩,
 ⟨none, (.h (.store 3)), [.t 4, .t 22], none⟩,
 ⟨(some 5), (.p .mov), [.c (.bool false)], none⟩])
 (.ret [4, 5]))
 .skip))
 (.seq
 (.ops [
 ⟨(some 23), (.p .mov), [.t 0], none⟩,
 ⟨(some 24), (.p .nchk), [.t 23], none⟩,
 ⟨(some 25), (.p (.faddr 0)), [.t 24], none⟩,
 ⟨(some 26), (.p (.faddr 1)), [.t 25], none⟩,
 ⟨(some 27), (.h (.load false 1)), [.t 26], none⟩,
 ⟨(some 28), (.p .mov), [.t 1], none⟩,
 ⟨(some 29), (.p (.iaddr 3)), [.t 27, .t 28], none⟩,
 ⟨(some 30), (.h (.load true 3)), [.t 29], none⟩,
 ⟨none, (.h (.store 3)), [.t 4, .t 30], none⟩,
 ⟨(some 5), (.p .mov), [.c (.bool true)], none⟩])
 (.ret [4, 5]))))
def graph_Graph_section_I : FInfo := ⟨(.fz false), 2, graph_Graph_section_C, [.cell 4 true 3, .tmp 5]⟩
def graph_Graph_section_A : Ann := ⟨[], [], [], [], [4]⟩
abbrev n_graph_Graph_section : Nat := 90

/-! ### (*balise/graph.Graph).Around -/
def graph_Graph_Around_C : CCode :=
 (.seq
 (.ops [
 ⟨(some 3), (.h .boxh), [.t 1], none⟩,
 ⟨(some 4), (.p .mov), [.c .nils], none⟩])
 (.seq
 (.ops [
 ⟨(some 11), (.p .mov), [.t 0], none⟩,
 ⟨(some 12), (.h (.load true 2)), [.t 3], none⟩,
 ⟨(some 13), .call, [.c (.fn (.func 94) [] []), .t 11, .t 12], none⟩,
 ⟨(some 10), (.p .mov), [.t 13], none⟩,
 ⟨(some 14), (.p (.ext 0)), [.t 10], none⟩,
 ⟨(some 15), (.p (.ext 1)), [.t 10], none⟩,
 ⟨(some 5), (.p .mov), [.t 14], none⟩,
 ⟨(some 6), (.p .mov), [.t 15], none⟩])
 (.seq
 (.seq
 (.ops [
 ⟨(some 16), (.p .mov), [.t 6], none⟩,
 ⟨(some 17), (.p (.un .not)), [.t 16], none⟩])
 (.cond (.t 17)
 (.seq
 (.ops [
 ⟨(some 4), (.p .mov), [.c .nils], none⟩])
 (.ret [4]))
 .skip))
 (.seq
 (.ops [
 ⟨(some 18), (.p .mov), [.t 0], none⟩,
 ⟨(some 19), (.p .mov), [.t 5], none⟩,
 ⟨(some 20), .call, [.c (.fn (.func 95) [] []), .t 18, .t 19], none⟩,
 ⟨(some 7), (.p .mov), [.t 20], none⟩])
 (.seq
 (.seq
 (.ops [
 ⟨(some 21), (.p .mov), [.t 7], none⟩,
 ⟨(some 22), (.p (.bin .lss .ifc)), [.t 21, .c (.int .i64 0)], none⟩])
 (.cond (.t 22)
 (.seq
 (.ops [
 ⟨(some 23), (.p .mov), [.t 0], none⟩,
 ⟨(some 24), (.p .mov), [.t 5], none⟩,
 ⟨(some 25), .call, [.c (.fn (.func 97) [] []), .t 23, .t 24], none⟩,
 ⟨(some 26), (.p (.mkfn (.func 98) 0)), [.t 3], none⟩,
 ⟨(some 27), .call, [.c (.fn (.func 96) [] []), .t 25, .t 26], none⟩,
 ⟨(some 8), (.p .mov), [.t 27], none⟩])
 (.seq
 (.seq
 (.ops [
 ⟨(some 28), (.p .mov), [.t 8], none⟩,
 ⟨(some 29), (.p .len), [.t 28], none⟩,
 ⟨(some 30), (.p (.bin .neq .int)), [.t 29, .c (.int .i64 1)], none⟩])
 (.cond (.t 30)
 (.seq
 (.ops [
 ⟨(some 4), (.p .mov), [.c .nils], none⟩])
 (.ret [4]))
 .skip))
 (.seq
 (.ops [
 ⟨(some 31), (.p .mov), [.t 8], none⟩,
 ⟨(some 4), (.p .mov), [.t 31], none⟩])
 (.ret [4]))))
 .skip))
 (.seq
 (.ops [
 ⟨(some 32), (.p .mov), [.t 0], none⟩,
 ⟨(some 33), (.p .nchk), [.t 32], none⟩,
 ⟨(some 34), (.p (.faddr 0)), [.t 33], none⟩,
 ⟨(some 35), (.p (.faddr 3)), [.t 34], none⟩,
 ⟨(some 36), (.h (.load false 1)), [.t 35], none⟩,
 ⟨(some 37), (.p .mov), [.t 7], none⟩,
 ⟨(some 38), (.p (.iaddr 4)), [.t 36, .t 37], none⟩,
 ⟨(some 39), (.h (.load true 4)), [.t 38], none⟩,
 ⟨(some 9), (.h (.newl 9 [(.int .i64 0), (.int .i64 0), (.int .i64 0), (.int .i64 0)])), [], none⟩,
 ⟨none, (.h (.store 4)), [.t 9, .t 39], none⟩])
 (.seq
 (.seq
 (.ops [
 ⟨(some 40), (.p (.faddr 0)), [.t 3], none⟩,
 ⟨(some 41), (.h (.load false 1)), [.t 40], none⟩])
 (.block 0 (some [])
 (.seq
 (.ops [
 ⟨(some 43), (.p (.faddr 1)), [.t 9], none⟩,
 ⟨(some 44), (.h (.load false 1)), [.t 43], none⟩,
 ⟨(some 45), (.p (.bin .eql .int)), [.t 41, .t 44], none⟩,
 ⟨(some 42), (.p .mov), [.t 45], none⟩])
 (.cond (.t 42)
 (.seq
 (.ops [
 ⟨(some 46), (.p .mov), [.t 0], none⟩,
 ⟨(some 47), (.p (.faddr 2)), [.t 9], none⟩,
 ⟨(some 48), (.h (.load false 1)), [.t 47], none⟩,
 ⟨(some 49), (.p .mov), [.t 5], none⟩,
 ⟨(some 50), .call, [.c (.fn (.func 100) [] []), .t 46, .t 48, .t 49], none⟩,
 ⟨(some 51), (.p .mov), [.t 0], none⟩,
 ⟨(some 52), (.p (.faddr 3)), [.t 9], none⟩,
 ⟨(some 53), (.h (.load false 1)), [.t 52], none⟩,
 ⟨(some 54), (.p .mov), [.t 5], none⟩,
 ⟨(some 55), .call, [.c (.fn (.func 100) [] []), .t 51, .t 53, .t 54], none⟩,
 ⟨(some 56), (.h (.bslF 1 2 [.nils] [(0, 1), (1, 1)])), [.t 50, .t 55], none⟩,
 ⟨(some 57), .call, [.c (.fn (.func 99) [] []), .t 56], none⟩,
 ⟨(some 4), (.p .mov), [.t 57], none⟩])
 (.ret [4]))
 (.seq
 (.seq
 (.ops [
 ⟨(some 59), (.p (.faddr 2)), [.t 9], none⟩,
 ⟨(some 60), (.h (.load false 1)), [.t 59], none⟩,
 ⟨(some 61), (.p (.bin .eql .int)), [.t 41, .t 60], none⟩,
 ⟨(some 58), (.p .mov), [.t 61], none⟩])
 (.cond (.t 58)
 .skip
 (.ops [
 ⟨(some 62), (.p (.faddr 3)), [.t 9], none⟩,
 ⟨(some 63), (.h (.load false 1)), [.t 62], none⟩,
 ⟨(some 64), (.p (.bin .eql .int)), [.t 41, .t 63], none⟩,
 ⟨(some 58), (.p .mov), [.t 64], none⟩])))
 (.cond (.t 58)
 (.seq
 (.ops [
 ⟨(some 65), (.p .mov), [.t 0], none⟩,
 ⟨(some 66), (.p (.faddr 1)), [.t 9], none⟩,
 ⟨(some 67), (.h (.load false 1)), [.t 66], none⟩,
 ⟨(some 68), (.p .mov), [.t 5], none⟩,
 ⟨(some 69), .call, [.c (.fn (.func 100) [] []), .t 65, .t 67, .t 68], none⟩,
 ⟨(some 4), (.p .mov), [.t 69], none⟩])
 (.ret [4]))
 .skip))))))
 (.seq
 (.ops [
 ⟨(some 4), (.p .mov), [.c .nils], none⟩])
 (.ret [4])))))))))
def graph_Graph_Around_I : FInfo := ⟨(.fz false), 2, graph_Graph_Around_C, [.tmp 4]⟩
def graph_Graph_Around_A : Ann := ⟨[3], [], [], [(0, [])], [9]⟩
abbrev n_graph_Graph_Around : Nat := 76

/-! ### slices.IndexFunc[[]balise/api.End,balise/api.End] -/
def slices_IndexFunc_End_B0 : CCode :=
 (.seq
 (.ops [
 ⟨(some 9), (.p (.bin .lss .ifc)), [.t 8, .t 7], none⟩])
 (.seq
 (.cond (.t 9)
 .skip
 (.exit 0))
 (.seq
 (.block 1 (some [0, 1, 7, 8])
 (.seq
 (.ops [
 ⟨(some 10), (.p .mov), [.t 8], none⟩,
 ⟨(some 5), (.p .mov), [.t 10], none⟩])
 (.seq
 (.ops [
 ⟨(some 11), (.p .mov), [.t 1], none⟩,
 ⟨(some 12), (.p .mov), [.t 0], none⟩,
 ⟨(some 13), (.p .mov), [.t 5], none⟩,
 ⟨(some 14), (.p (.iaddr 2)), [.t 12, .t 13], none⟩,
 ⟨(some 15), (.h (.load true 2)), [.t 14], none⟩,
 ⟨(some 16), .call, [.t 11, .t 15], none⟩])
 (.cond (.t 16)
 (.seq
 (.ops [
 ⟨(some 17), (.p .mov), [.t 5], none⟩,
 ⟨(some 4), (.p .mov), [.t 17], none⟩])
 (.ret [4]))
 .skip))))
 (.ops [
 ⟨(some 18), (.p (.bin .add .ifc)), [.t 8, .c (.int .i64 1)], none⟩,
 ⟨(some 8), (.p .mov), [.t 18], none⟩]))))
def slices_IndexFunc_End_L0 : CCode := .bloop 0 [0, 1, 7, 8] [] slices_IndexFunc_End_B0
def slices_IndexFunc_End_C : CCode :=
 (.seq
 (.ops [
 ⟨(some 4), (.p .mov), [.c (.int .i64 0)], none⟩])
 (.seq
 (.seq
 (.ops [
 ⟨(some 6), (.p .mov), [.t 0], none⟩,
 ⟨(some 7), (.p .len), [.t 6], none⟩,
 ⟨(some 8), (.p .mov), [.c (.int .i64 0)], none⟩])
 slices_IndexFunc_End_L0)
 (.seq
 (.ops [
 ⟨(some 4), (.p .mov), [.c (.int .i64 (-1))], none⟩])
 (.ret [4]))))
def slices_IndexFunc_End_I : FInfo := ⟨(.fz false), 2, slices_IndexFunc_End_C, [.tmp 4]⟩
def slices_IndexFunc_End_A : Ann := ⟨[], [], [(0, [0, 1, 7, 8], [])], [(1, [0, 1, 7, 8])], []⟩
abbrev n_slices_IndexFunc_End : Nat := 77

/-! ### slices.Index[[]int,int] -/
def slices_Index_int_B0 : CCode :=
 (.seq
 (.ops [
 ⟨(some 9), (.p (.bin .lss .ifc)), [.t 8, .t 7], none⟩])
 (.seq
 (.cond (.t 9)
 .skip
 (.exit 0))
 (.seq
 (.block 1 (some [0, 1, 7, 8])
 (.seq
 (.ops [
 ⟨(some 10), (.p .mov), [.t 8], none⟩,
 ⟨(some 5), (.p .mov), [.t 10], none⟩])
 (.seq
 (.ops [
 ⟨(some 11), (.p .mov), [.t 1], none⟩,
 ⟨(some 12), (.p .mov), [.t 0], none⟩,
 ⟨(some 13), (.p .mov), [.t 5], none⟩,
 ⟨(some 14), (.p (.iaddr 1)), [.t 12, .t 13], none⟩,
 ⟨(some 15), (.h (.load false 1)), [.t 14], none⟩,
 ⟨(some 16), (.p (.bin .eql .int)), [.t 11, .t 15], none⟩])
 (.cond (.t 16)
 (.seq
 (.ops [
 ⟨(some 17), (.p .mov), [.t 5], none⟩,
 ⟨(some 4), (.p .mov), [.t 17], none⟩])
 (.ret [4]))
 .skip))))
 (.ops [
 ⟨(some 18), (.p (.bin .add .ifc)), [.t 8, .c (.int .i64 1)], none⟩,
 ⟨(some 8), (.p .mov), [.t 18], none⟩]))))
def slices_Index_int_L0 : CCode := .bloop 0 [0, 1, 7, 8] [] slices_Index_int_B0
def slices_Index_int_C : CCode :=
 (.seq
 (.ops [
 ⟨(some 4), (.p .mov), [.c (.int .i64 0)], none⟩])
 (.seq
 (.seq
 (.ops [
 ⟨(some 6), (.p .mov), [.t 0], none⟩,
 ⟨(some 7), (.p .len), [.t 6], none⟩,
 ⟨(some 8), (.p .mov), [.c (.int .i64 0)], none⟩])
 slices_Index_int_L0)
 (.seq
 (.ops [
 ⟨(some 4), (.p .mov), [.c (.int .i64 (-1))], none⟩])
 (.ret [4]))))
def slices_Index_int_I : FInfo := ⟨(.fz false), 2, slices_Index_int_C, [.tmp 4]⟩
def slices_Index_int_A : Ann := ⟨[], [], [(0, [0, 1, 7, 8], [])], [(1, [0, 1, 7, 8])], []⟩
abbrev n_slices_Index_int : Nat := 85

/-! ### balise/baliseref05.node -/
def r05_node_C : CCode :=
 (.seq
 (.ops [
 ⟨(some 2), (.h (.box 2)), [.t 0], none⟩,
 ⟨(some 3), (.h (.box 3)), [.t 1], none⟩,
 ⟨(some 4), (.p .mov), [.c (.int .i64 0)], none⟩,
 ⟨(some 5), (.p .mov), [.c (.bool false)], none⟩])
 (.seq
 (.seq
 (.ops [
 ⟨(some 6), (.p (.faddr 0)), [.t 3], none⟩,
 ⟨(some 7), (.h (.load false 1)), [.t 6], none⟩,
 ⟨(some 8), (.p (.bin .lss .ifc)), [.t 7, .c (.int .i64 0)], none⟩,
 ⟨(some 9), (.p .mov), [.t 8], none⟩,
 ⟨(some 10), (.p (.faddr 0)), [.t 3], (some (9, false))⟩,
 ⟨(some 11), (.h (.load false 1)), [.t 10], (some (9, false))⟩,
 ⟨(some 12), (.p (.faddr 1)), [.t 2], (some (9, false))⟩,
 ⟨(some 13), (.h (.load false 1)), [.t 12], (some (9, false))⟩,
 ⟨(some 14), (.p .len), [.t 13], (some (9, false))⟩,
 ⟨(some 15), (.p (.bin .geq .ifc)), [.t 11, .t 14], (some (9, false))⟩,
 ⟨(some 16), (.p .pick), [.t 9, .c (.bool true), .t 15], none⟩,
 ⟨(some 17), (.p .mov), [.t 16], none⟩,
 ⟨(some 18), (.p (.faddr 1)), [.t 3], (some (17, false))⟩,
 ⟨(some 19), (.h (.load false 1)), [.t 18], (some (17, false))⟩,
 ⟨(some 20), (.p (.bin .lss .ifc)), [.t 19, .c (.int .i64 0)], (some (17, false))⟩,
 ⟨(some 21), (.p .pick), [.t 17, .c (.bool true), .t 20], none⟩,
 ⟨(some 22), (.p .mov), [.t 21], none⟩,
 ⟨(some 23), (.p (.faddr 1)), [.t 3], (some (22, false))⟩,
 ⟨(some 24), (.h (.load false 1)), [.t 23], (some (22, false))⟩,
 ⟨(some 25), (.p (.bin .gtr .ifc)), [.t 24, .c (.int .i64 1)], (some (22, false))⟩,
 ⟨(some 26), (.p .pick), [.t 22, .c (.bool true), .t 25], none⟩])
 (.cond (.t 26)
 (.seq
 (.ops [
 ⟨(some 4), (.p .mov), [.c (.int .i64 0)], none⟩,
 ⟨(some 5), (.p .mov), [.c (.bool false)], none⟩])
 (.ret [4, 5]))
 .skip))
 (.seq
 (.seq
 (.ops [
 ⟨(some 27), (.p (.faddr 1)), [.t 3], none⟩,
 ⟨(some 28), (.h (.load false 1)), [.t 27], none⟩,
 ⟨(some 29), (.p (.bin .eql .int)), [.t 28, .c (.int .i64 0)], none⟩])
 (.cond (.t 29)
 (.seq
 (.ops [
 ⟨(some 30), (.p (.faddr 1)), [.t 2], none⟩,
 ⟨(some 31), (.h (.load false 1)), [.t 30], none⟩,
 ⟨(some 32), (.p (.faddr 0)), [.t 3], none⟩,
 ⟨(some 33), (.h (.load false 1)), [.t 32], none⟩,
 ⟨(some 34), (.p (.iaddr 3)), [.t 31, .t 33], none⟩,
 ⟨(some 35), (.p (.faddr 1)), [.t 34], none⟩,
 ⟨(some 36), (.h (.load false 1)), [.t 35], none⟩,
 ⟨(some 4), (.p .mov), [.t 36], none⟩,
 ⟨(some 5), (.p .mov), [.c (.bool true)], none⟩])
 (.ret [4, 5]))
 .skip))
 (.seq
 (.ops [
 ⟨(some 37), (.p (.faddr 1)), [.t 2], none⟩,
 ⟨(some 38), (.h (.load false 1)), [.t 37], none⟩,
 ⟨(some 39), (.p (.faddr 0)), [.t 3], none⟩,
 ⟨(some 40), (.h (.load false 1)), [.t 39], none⟩,
 ⟨(some 41), (.p (.iaddr 3)), [.t 38, .t 40], none⟩,
 ⟨(some 42), (.p (.faddr 2)), [.t 41], none⟩,
 ⟨(some 43), (.h (.load false 1)), [.t 42], none⟩,
 ⟨(some 4), (.p .mov), [.t 43], none⟩,
 ⟨(some 5), (.p .mov), [.c (.bool true)], none⟩])
 (.ret [4, 5])))))
def r05_node_I : FInfo := ⟨(.fz false), 2, r05_node_C, [.tmp 4, .tmp 5]⟩
def r05_node_A : Ann := ⟨[], [], [], [], [2, 3]⟩
abbrev n_r05_node : Nat := 101

/-! ### balise/baliseref05.Point -/
def r05_Point_B0 : CCode :=
 (.seq
 (.seq
 (.ops [
 ⟨(some 6), (.p .mov), [.t 5], none⟩,
 ⟨(some 7), (.p (.faddr 3)), [.t 2], none⟩,
 ⟨(some 8), (.h (.load false 1)), [.t 7], none⟩,
 ⟨(some 9), (.p .len), [.t 8], none⟩,
 ⟨(some 10), (.p (.bin .lss .ifc)), [.t 6, .t 9], none⟩])
 (.cond (.t 10)
 .skip
 (.exit 0)))
 (.seq
 (.block 1 (some [1, 2, 5])
 (.seq
 (.ops [
 ⟨(some 13), (.p (.faddr 3)), [.t 2], none⟩,
 ⟨(some 14), (.h (.load false 1)), [.t 13], none⟩,
 ⟨(some 15), (.p .mov), [.t 5], none⟩,
 ⟨(some 16), (.p (.iaddr 4)), [.t 14, .t 15], none⟩,
 ⟨(some 17), (.p (.faddr 0)), [.t 16], none⟩,
 ⟨(some 18), (.h (.load false 1)), [.t 17], none⟩,
 ⟨(some 19), (.p .mov), [.t 1], none⟩,
 ⟨(some 20), (.p (.bin .eql .int)), [.t 18, .t 19], none⟩])
 (.cond (.t 20)
 (.seq
 (.ops [
 ⟨(some 21), (.p .mov), [.t 5], none⟩,
 ⟨(some 4), (.p .mov), [.t 21], none⟩])
 (.ret [4]))
 .skip)))
 (.ops [
 ⟨(some 11), (.p .mov), [.t 5], none⟩,
 ⟨(some 12), (.p (.bin .add .ifc)), [.t 11, .c (.int .i64 1)], none⟩,
 ⟨(some 5), (.p .mov), [.t 12], none⟩])))
def r05_Point_L0 : CCode := .bloop 0 [1, 2, 5] [] r05_Point_B0
def r05_Point_C : CCode :=
 (.seq
 (.ops [
 ⟨(some 2), (.h (.box 2)), [.t 0], none⟩,
 ⟨(some 4), (.p .mov), [.c (.int .i64 0)], none⟩])
 (.seq
 (.seq
 (.ops [
 ⟨(some 5), (.p .mov), [.c (.int .i64 0)], none⟩])
 r05_Point_L0)
 (.seq
 (.ops [
 ⟨(some 4), (.p .mov), [.c (.int .i64 (-1))], none⟩])
 (.ret [4]))))
def r05_Point_I : FInfo := ⟨(.fz false), 2, r05_Point_C, [.tmp 4]⟩
def r05_Point_A : Ann := ⟨[], [], [(0, [1, 2, 5], [])], [(1, [1, 2, 5])], [2]⟩
abbrev n_r05_Point : Nat := 102

/-! ### balise/baliseref05.one -/
def r05_one_B0 : CCode :=
 (.seq
 (.seq
 (.ops [
 ⟨(some 12), (.p .mov), [.t 8], none⟩,
 ⟨(some 13), (.p .mov), [.t 7], none⟩,
 ⟨(some 14), (.p .len), [.t 13], none⟩,
 ⟨(some 15), (.p (.bin .lss .ifc)), [.t 12, .t 14], none⟩])
 (.cond (.t 15)
 .skip
 (.exit 0)))
 (.seq
 (.block 1 (some [1, 7, 8])
 (.seq
 (.ops [
 ⟨(some 18), (.p .mov), [.t 7], none⟩,
 ⟨(some 19), (.p .mov), [.t 8], none⟩,
 ⟨(some 20), (.p (.iaddr 2)), [.t 18, .t 19], none⟩,
 ⟨(some 21), (.p (.faddr 0)), [.t 20], none⟩,
 ⟨(some 22), (.h (.load false 1)), [.t 21], none⟩,
 ⟨(some 23), (.p .mov), [.t 1], none⟩,
 ⟨(some 24), (.p (.bin .eql .int)), [.t 22, .t 23], none⟩])
 (.cond (.t 24)
 (.seq
 (.ops [
 ⟨(some 25), (.p .mov), [.t 7], none⟩,
 ⟨(some 26), (.p .mov), [.t 8], none⟩,
 ⟨(some 27), (.p .mov), [.t 8], none⟩,
 ⟨(some 28), (.p (.bin .add .ifc)), [.t 27, .c (.int .i64 1)], none⟩,
 ⟨(some 29), (.p (.slc 2 true true)), [.t 25, .t 26, .t 28], none⟩,
 ⟨(some 6), (.p .mov), [.t 29], none⟩])
 (.ret [6]))
 .skip)))
 (.ops [
 ⟨(some 16), (.p .mov), [.t 8], none⟩,
 ⟨(some 17), (.p (.bin .add .ifc)), [.t 16, .c (.int .i64 1)], none⟩,
 ⟨(some 8), (.p .mov), [.t 17], none⟩])))
def r05_one_L0 : CCode := .bloop 0 [1, 7, 8] [] r05_one_B0
def r05_one_C : CCode :=
 (.seq
 (.ops [
 ⟨(some 3), (.h (.box 3)), [.t 0], none⟩,
 ⟨(some 6), (.p .mov), [.c .nils], none⟩])
 (.seq
 (.ops [
 ⟨(some 9), (.h (.load true 10)), [.t 3], none⟩,
 ⟨(some 10), (.p .mov), [.t 2], none⟩,
 ⟨(some 11), .call, [.c (.fn (.func 104) [] []), .t 9, .t 10], none⟩,
 ⟨(some 7), (.p .mov), [.t 11], none⟩])
 (.seq
 (.seq
 (.ops [
 ⟨(some 8), (.p .mov), [.c (.int .i64 0)], none⟩])
 r05_one_L0)
 (.seq
 (.ops [
 ⟨(some 6), (.p .mov), [.c .nils], none⟩])
 (.ret [6])))))
def r05_one_I : FInfo := ⟨(.fz false), 3, r05_one_C, [.tmp 6]⟩
def r05_one_A : Ann := ⟨[], [], [(0, [1, 7, 8], [])], [(1, [1, 7, 8])], [3]⟩
abbrev n_r05_one : Nat := 103

/-! ### balise/baliseref05.Ends -/
def r05_Ends_B0 : CCode :=
 (.seq
 (.seq
 (.ops [
 ⟨(some 7), (.p .mov), [.t 6], none⟩,
 ⟨(some 8), (.p (.faddr 1)), [.t 2], none⟩,
 ⟨(some 9), (.h (.load false 1)), [.t 8], none⟩,
 ⟨(some 10), (.p .len), [.t 9], none⟩,
 ⟨(some 11), (.p (.bin .lss .ifc)), [.t 7, .t 10], none⟩])
 (.cond (.t 11)
 .skip
 (.exit 0)))
 (.seq
 (.block 1 (some [1, 2, 5, 6])
 (.seq
 (.seq
 (.ops [
 ⟨(some 14), (.p (.faddr 1)), [.t 2], none⟩,
 ⟨(some 15), (.h (.load false 1)), [.t 14], none⟩,
 ⟨(some 16), (.p .mov), [.t 6], none⟩,
 ⟨(some 17), (.p (.iaddr 3)), [.t 15, .t 16], none⟩,
 ⟨(some 18), (.p (.faddr 1)), [.t 17], none⟩,
 ⟨(some 19), (.h (.load false 1)), [.t 18], none⟩,
 ⟨(some 20), (.p .mov), [.t 1], none⟩,
 ⟨(some 21), (.p (.bin .eql .int)), [.t 19, .t 20], none⟩])
 (.cond (.t 21)
 (.ops [
 ⟨(some 22), (.p .mov), [.t 5], none⟩,
 ⟨(some 23), (.p .mov), [.t 6], none⟩,
 ⟨(some 24), (.p (.bld [(.int .i64 0), (.int .i64 0)] [(0, 1), (1, 1)])), [.t 23, .c (.int .i64 0)], none⟩,
 ⟨(some 25), (.h (.bslF 2 1 [(.int .i64 0), (.int .i64 0)] [(0, 2)])), [.t 24], none⟩,
 ⟨(some 26), (.h (.app 2 16 [(.int .i64 0), (.int .i64 0)])), [.t 22, .t 25], none⟩,
 ⟨(some 5), (.p .mov), [.t 26], none⟩])
 .skip))
 (.seq
 (.ops [
 ⟨(some 27), (.p (.faddr 1)), [.t 2], none⟩,
 ⟨(some 28), (.h (.load false 1)), [.t 27], none⟩,
 ⟨(some 29), (.p .mov), [.t 6], none⟩,
 ⟨(some 30), (.p (.iaddr 3)), [.t 28, .t 29], none⟩,
 ⟨(some 31), (.p (.faddr 2)), [.t 30], none⟩,
 ⟨(some 32), (.h (.load false 1)), [.t 31], none⟩,
 ⟨(some 33), (.p .mov), [.t 1], none⟩,
 ⟨(some 34), (.p (.bin .eql .int)), [.t 32, .t 33], none⟩])
 (.cond (.t 34)
 (.ops [
 ⟨(some 35), (.p .mov), [.t 5], none⟩,
 ⟨(some 36), (.p .mov), [.t 6], none⟩,
 ⟨(some 37), (.p (.bld [(.int .i64 0), (.int .i64 0)] [(0, 1), (1, 1)])), [.t 36, .c (.int .i64 1)], none⟩,
 ⟨(some 38), (.h (.bslF 2 1 [(.int .i64 0), (.int .i64 0)] [(0, 2)])), [.t 37], none⟩,
 ⟨(some 39), (.h (.app 2 16 [(.int .i64 0), (.int .i64 0)])), [.t 35, .t 38], none⟩,
 ⟨(some 5), (.p .mov), [.t 39], none⟩])
 .skip))))
 (.ops [
 ⟨(some 12), (.p .mov), [.t 6], none⟩,
 ⟨(some 13), (.p (.bin .add .ifc)), [.t 12, .c (.int .i64 1)], none⟩,
 ⟨(some 6), (.p .mov), [.t 13], none⟩])))
def r05_Ends_L0 : CCode := .bloop 0 [1, 2, 5, 6] [5] r05_Ends_B0
def r05_Ends_C : CCode :=
 (.seq
 (.ops [
 ⟨(some 2), (.h (.box 2)), [.t 0], none⟩,
 ⟨(some 4), (.p .mov), [.c .nils], none⟩])
 (.seq
 (.ops [
 ⟨(some 5), (.p .mov), [.c .nils], none⟩])
 (.seq
 (.seq
 (.ops [
 ⟨(some 6), (.p .mov), [.c (.int .i64 0)], none⟩])
 r05_Ends_L0)
 (.seq
 (.ops [
 ⟨(some 40), (.p .mov), [.t 5], none⟩,
 ⟨(some 4), (.p .mov), [.t 40], none⟩])
 (.ret [4])))))
def r05_Ends_I : FInfo := ⟨(.fz false), 2, r05_Ends_C, [.tmp 4]⟩
def r05_Ends_A : Ann := ⟨[], [], [(0, [1, 2, 5, 6], [5])], [(1, [1, 2, 5, 6])], [2]⟩
abbrev n_r05_Ends : Nat := 104

/-! ### (*balise/graph.Graph).node -/
def graph_Graph_node_C : CCode :=
 (.seq
 (.ops [
 ⟨(some 3), (.h (.box 3)), [.t 1], none⟩,
 ⟨(some 4), (.p .mov), [.c (.int .i64 0)], none⟩,
 ⟨(some 5), (.p .mov), [.c (.bool false)], none⟩])
 (.seq
 (.ops [
 ⟨(some 9), (.p .mov), [.t 0], none⟩,
 ⟨(some 10), (.p (.faddr 0)), [.t 3], none⟩,
 ⟨(some 11), (.h (.load false 1)), [.t 10], none⟩,
 ⟨(some 12), .call, [.c (.fn (.func 90) [] []), .t 9, .t 11], none⟩,
 ⟨(some 8), (.p .mov), [.t 12], none⟩,
 ⟨(some 13), (.p (.ext 0)), [.t 8], none⟩,
 ⟨(some 14), (.p (.ext 1)), [.t 8], none⟩,
 ⟨(some 6), (.h (.newl 6 [(.int .i64 0), (.int .i64 0), (.int .i64 0)])), [], none⟩,
 ⟨none, (.h (.store 3)), [.t 6, .t 13], none⟩,
 ⟨(some 7), (.p .mov), [.t 14], none⟩])
 (.seq
 (.block 0 (some [])
 (.seq
 (.ops [
 ⟨(some 16), (.p .mov), [.t 7], none⟩,
 ⟨(some 17), (.p .mov), [.t 16], none⟩,
 ⟨(some 18), (.p (.faddr 1)), [.t 3], (some (17, true))⟩,
 ⟨(some 19), (.h (.load false 1)), [.t 18], (some (17, true))⟩,
 ⟨(some 20), (.p (.bin .eql .int)), [.t 19, .c (.int .i64 0)], (some (17, true))⟩,
 ⟨(some 21), (.p .pick), [.t 17, .t 20, .c (.bool false)], none⟩,
 ⟨(some 15), (.p .mov), [.t 21], none⟩])
 (.cond (.t 15)
 (.seq
 (.ops [
 ⟨(some 22), (.p (.faddr 1)), [.t 6], none⟩,
 ⟨(some 23), (.h (.load false 1)), [.t 22], none⟩,
 ⟨(some 4), (.p .mov), [.t 23], none⟩,
 ⟨(some 5), (.p .mov), [.c (.bool true)], none⟩])
 (.ret [4, 5]))
 (.seq
 (.ops [
 ⟨(some 25), (.p .mov), [.t 7], none⟩,
 ⟨(some 26), (.p .mov), [.t 25], none⟩,
 ⟨(some 27), (.p (.faddr 1)), [.t 3], (some (26, true))⟩,
 ⟨(some 28), (.h (.load false 1)), [.t 27], (some (26, true))⟩,
 ⟨(some 29), (.p (.bin .eql .int)), [.t 28, .c (.int .i64 1)], (some (26, true))⟩,
 ⟨(some 30), (.p .pick), [.t 26, .t 29, .c (.bool false)], none⟩,
 ⟨(some 24), (.p .mov), [.t 30], none⟩])
 (.cond (.t 24)
 (.seq
 (.ops [
 ⟨(some 31), (.p (.faddr 2)), [.t 6], none⟩,
 ⟨(some 32), (.h (.load false 1)), [.t 31], none⟩,
 ⟨(some 4), (.p .mov), [.t 32], none⟩,
 ⟨(some 5), (.p .mov), [.c (.bool true)], none⟩])
 (.ret [4, 5]))
 .skip)))))
 (.seq
 (.ops [
 ⟨(some 4), (.p .mov), [.c (.int .i64 0)], none⟩,
 ⟨(some 5), (.p .mov), [.c (.bool false)], none⟩])
 (.ret [4, 5])))))
def graph_Graph_node_I : FInfo := ⟨(.fz false), 2, graph_Graph_node_C, [.tmp 4, .tmp 5]⟩
def graph_Graph_node_A : Ann := ⟨[], [], [], [(0, [])], [3, 6]⟩
abbrev n_graph_Graph_node : Nat := 94

/-! ### (*balise/graph.Graph).Point -/
def graph_Graph_Point_C : CCode :=
 (.seq
 (.ops [
 ⟨(some 3), (.h .boxh), [.t 1], none⟩,
 ⟨(some 4), (.p .mov), [.c (.int .i64 0)], none⟩])
 (.seq
 (.seq
 (.ops [
 ⟨(some 5), (.p .mov), [.t 0], none⟩,
 ⟨(some 6), (.p (.bin .eql .ptr)), [.t 5, .c .nilp], none⟩])
 (.cond (.t 6)
 (.seq
 (.ops [
 ⟨(some 4), (.p .mov), [.c (.int .i64 (-1))], none⟩])
 (.ret [4]))
 .skip))
 (.seq
 (.ops [
 ⟨(some 7), (.p .mov), [.t 0], none⟩,
 ⟨(some 8), (.p .nchk), [.t 7], none⟩,
 ⟨(some 9), (.p (.faddr 0)), [.t 8], none⟩,
 ⟨(some 10), (.p (.faddr 3)), [.t 9], none⟩,
 ⟨(some 11), (.h (.load false 1)), [.t 10], none⟩,
 ⟨(some 12), (.p (.mkfn (.func 113) 0)), [.t 3], none⟩,
 ⟨(some 13), .call, [.c (.fn (.func 112) [] []), .t 11, .t 12], none⟩,
 ⟨(some 4), (.p .mov), [.t 13], none⟩])
 (.ret [4]))))
def graph_Graph_Point_I : FInfo := ⟨(.fz false), 2, graph_Graph_Point_C, [.tmp 4]⟩
def graph_Graph_Point_A : Ann := ⟨[3], [], [], [], []⟩
abbrev n_graph_Graph_Point : Nat := 95

/-! ### slices.DeleteFunc[[]balise/api.End,balise/api.End] -/
def slices_DeleteFunc_End_B0 : CCode :=
 (.seq
 (.seq
 (.ops [
 ⟨(some 16), (.p .mov), [.t 6], none⟩,
 ⟨(some 17), (.p .mov), [.t 0], none⟩,
 ⟨(some 18), (.p .len), [.t 17], none⟩,
 ⟨(some 19), (.p (.bin .lss .ifc)), [.t 16, .t 18], none⟩])
 (.cond (.t 19)
 .skip
 (.exit 0)))
 (.seq
 (.block 1 (some [0, 1, 5, 6])
 (.seq
 (.ops [
 ⟨(some 22), (.p .mov), [.t 0], none⟩,
 ⟨(some 23), (.p .mov), [.t 6], none⟩,
 ⟨(some 24), (.p (.iaddr 2)), [.t 22, .t 23], none⟩,
 ⟨(some 25), (.h (.load true 2)), [.t 24], none⟩,
 ⟨(some 7), (.h (.newl 7 [(.int .i64 0), (.int .i64 0)])), [], none⟩,
 ⟨none, (.h (.store 2)), [.t 7, .t 25], none⟩])
 (.seq
 (.ops [
 ⟨(some 26), (.p .mov), [.t 1], none⟩,
 ⟨(some 27), (.h (.load true 2)), [.t 7], none⟩,
 ⟨(some 28), .call, [.t 26, .t 27], none⟩,
 ⟨(some 29), (.p (.un .not)), [.t 28], none⟩])
 (.cond (.t 29)
 (.seq
 (.ops [
 ⟨(some 30), (.p .mov), [.t 0], none⟩,
 ⟨(some 31), (.p .mov), [.t 5], none⟩,
 ⟨(some 32), (.h (.load true 2)), [.t 7], none⟩,
 ⟨(some 33), (.p (.iaddr 2)), [.t 30, .t 31], none⟩,
 ⟨none, (.h (.store 2)), [.t 33, .t 32], none⟩])
 (.ops [
 ⟨(some 34), (.p .mov), [.t 5], none⟩,
 ⟨(some 35), (.p (.bin .add .ifc)), [.t 34, .c (.int .i64 1)], none⟩,
 ⟨(some 5), (.p .mov), [.t 35], none⟩]))
 .skip))))
 (.ops [
 ⟨(some 20), (.p .mov), [.t 6], none⟩,
 ⟨(some 21), (.p (.bin .add .ifc)), [.t 20, .c (.int .i64 1)], none⟩,
 ⟨(some 6), (.p .mov), [.t 21], none⟩])))
def slices_DeleteFunc_End_L0 : CCode := .bloop 0 [0, 1, 5, 6] [0, 5] slices_DeleteFunc_End_B0
def slices_DeleteFunc_End_C : CCode :=
 (.seq
 (.ops [
 ⟨(some 4), (.p .mov), [.c .nils], none⟩])
 (.seq
 (.ops [
 ⟨(some 8), (.p .mov), [.t 0], none⟩,
 ⟨(some 9), (.p .mov), [.t 1], none⟩,
 ⟨(some 10), .call, [.c (.fn (.func 77) [] []), .t 8, .t 9], none⟩,
 ⟨(some 5), (.p .mov), [.t 10], none⟩])
 (.seq
 (.seq
 (.ops [
 ⟨(some 11), (.p .mov), [.t 5], none⟩,
 ⟨(some 12), (.p (.bin .eql .int)), [.t 11, .c (.int .i64 (-1))], none⟩])
 (.cond (.t 12)
 (.seq
 (.ops [
 ⟨(some 13), (.p .mov), [.t 0], none⟩,
 ⟨(some 4), (.p .mov), [.t 13], none⟩])
 (.ret [4]))
 .skip))
 (.seq
 (.seq
 (.ops [
 ⟨(some 14), (.p .mov), [.t 5], none⟩,
 ⟨(some 15), (.p (.bin .add .ifc)), [.t 14, .c (.int .i64 1)], none⟩,
 ⟨(some 6), (.p .mov), [.t 15], none⟩])
 slices_DeleteFunc_End_L0)
 (.seq
 (.ops [
 ⟨(some 36), (.p .mov), [.t 0], none⟩,
 ⟨(some 37), (.p .mov), [.t 5], none⟩,
 ⟨(some 38), (.p (.slc 2 true false)), [.t 36, .t 37], none⟩,
 ⟨none, (.h (.clear 2 [(.int .i64 0), (.int .i64 0)])), [.t 38], none⟩])
 (.seq
 (.ops [
 ⟨(some 39), (.p .mov), [.t 0], none⟩,
 ⟨(some 40), (.p .mov), [.t 5], none⟩,
 ⟨(some 41), (.p (.slc 2 false true)), [.t 39, .t 40], none⟩,
 ⟨(some 4), (.p .mov), [.t 41], none⟩])
 (.ret [4])))))))
def slices_DeleteFunc_End_I : FInfo := ⟨.ref, 2, slices_DeleteFunc_End_C, [.tmp 4]⟩
def slices_DeleteFunc_End_A : Ann := ⟨[], [], [(0, [0, 1, 5, 6], [0, 5])], [(1, [0, 1, 5, 6])], [7]⟩
abbrev n_slices_DeleteFunc_End : Nat := 96

/-! ### (*balise/graph.Graph).Ends -/
def graph_Graph_Ends_B2 : CCode :=
 (.seq
 (.ops [
 ⟨(some 28), (.p (.bin .lss .ifc)), [.t 27, .c (.int .i64 2)], none⟩])
 (.seq
 (.cond (.t 28)
 .skip
 (.exit 2))
 (.seq
 (.block 3 (some [0, 1, 5, 6, 26, 27])
 (.seq
 (.ops [
 ⟨(some 29), (.p .mov), [.t 27], none⟩,
 ⟨(some 30), (.p (.idxA 2 false 1)), [.t 26, .t 27], none⟩,
 ⟨(some 9), (.p .mov), [.t 29], none⟩,
 ⟨(some 10), (.p .mov), [.t 30], none⟩])
 (.seq
 (.ops [
 ⟨(some 31), (.p .mov), [.t 10], none⟩,
 ⟨(some 32), (.p .mov), [.t 1], none⟩,
 ⟨(some 33), (.p (.bin .eql .int)), [.t 31, .t 32], none⟩])
 (.cond (.t 33)
 (.ops [
 ⟨(some 34), (.p .mov), [.t 5], none⟩,
 ⟨(some 35), (.p .mov), [.t 6], none⟩,
 ⟨(some 36), (.p .mov), [.t 9], none⟩,
 ⟨(some 37), (.p (.bld [(.int .i64 0), (.int .i64 0)] [(0, 1), (1, 1)])), [.t 35, .t 36], none⟩,
 ⟨(some 38), (.h (.bslF 2 1 [(.int .i64 0), (.int .i64 0)] [(0, 2)])), [.t 37], none⟩,
 ⟨(some 39), (.h (.app 2 16 [(.int .i64 0), (.int .i64 0)])), [.t 34, .t 38], none⟩,
 ⟨(some 5), (.p .mov), [.t 39], none⟩])
 .skip))))
 (.ops [
 ⟨(some 40), (.p (.bin .add .ifc)), [.t 27, .c (.int .i64 1)], none⟩,
 ⟨(some 27), (.p .mov), [.t 40], none⟩]))))
def graph_Graph_Ends_L2 : CCode := .bloop 2 [0, 1, 5, 6, 26, 27] [0, 1, 5, 6] graph_Graph_Ends_B2

def graph_Graph_Ends_B0 : CCode :=
 (.seq
 (.block 1 (some [0, 1, 5, 6])
 (.seq
 (.ops [
 ⟨(some 14), (.p .mov), [.t 0], none⟩,
 ⟨(some 15), (.p .mov), [.t 6], none⟩,
 ⟨(some 16), .call, [.c (.fn (.func 90) [] []), .t 14, .t 15], none⟩,
 ⟨(some 13), (.p .mov), [.t 16], none⟩,
 ⟨(some 17), (.p (.ext 0)), [.t 13], none⟩,
 ⟨(some 18), (.p (.ext 1)), [.t 13], none⟩,
 ⟨(some 7), (.h (.newl 7 [(.int .i64 0), (.int .i64 0), (.int .i64 0)])), [], none⟩,
 ⟨none, (.h (.store 3)), [.t 7, .t 17], none⟩,
 ⟨(some 8), (.p .mov), [.t 18], none⟩])
 (.seq
 (.seq
 (.ops [
 ⟨(some 19), (.p .mov), [.t 8], none⟩,
 ⟨(some 20), (.p (.un .not)), [.t 19], none⟩])
 (.cond (.t 20)
 (.seq
 (.ops [
 ⟨(some 21), (.p .mov), [.t 5], none⟩,
 ⟨(some 4), (.p .mov), [.t 21], none⟩])
 (.ret [4]))
 .skip))
 (.seq
 (.ops [
 ⟨(some 22), (.p (.faddr 1)), [.t 7], none⟩,
 ⟨(some 23), (.h (.load false 1)), [.t 22], none⟩,
 ⟨(some 24), (.p (.faddr 2)), [.t 7], none⟩,
 ⟨(some 25), (.h (.load false 1)), [.t 24], none⟩,
 ⟨(some 26), (.p (.bld [(.int .i64 0), (.int .i64 0)] [(0, 1), (1, 1)])), [.t 23, .t 25], none⟩,
 ⟨(some 27), (.p .mov), [.c (.int .i64 0)], none⟩])
 graph_Graph_Ends_L2))))
 (.ops [
 ⟨(some 11), (.p .mov), [.t 6], none⟩,
 ⟨(some 12), (.p (.bin .add .ifc)), [.t 11, .c (.int .i64 1)], none⟩,
 ⟨(some 6), (.p .mov), [.t 12], none⟩]))
def graph_Graph_Ends_L0 : CCode := .bloop 0 [0, 1, 5, 6] [] graph_Graph_Ends_B0
def graph_Graph_Ends_C : CCode :=
 (.seq
 (.ops [
 ⟨(some 4), (.p .mov), [.c .nils], none⟩])
 (.seq
 (.ops [
 ⟨(some 5), (.p .mov), [.c .nils], none⟩])
 (.seq
 (.ops [
 ⟨(some 6), (.p .mov), [.c (.int .i64 0)], none⟩])
 graph_Graph_Ends_L0)))
def graph_Graph_Ends_I : FInfo := ⟨.own, 2, graph_Graph_Ends_C, [.tmp 4]⟩
def graph_Graph_Ends_A : Ann := ⟨[], [], [(0, [0, 1, 5, 6], []), (2, [0, 1, 5, 6, 26, 27], [0, 1, 5, 6])], [(1, [0, 1, 5, 6]), (3, [0, 1, 5, 6, 26, 27])], [7]⟩
abbrev n_graph_Graph_Ends : Nat := 97

/-! ### (*balise/graph.Graph).Around$1 -/
def graph_Graph_Around_1_C : CCode :=
 (.seq
 (.ops [
 ⟨(some 2), (.h (.box 2)), [.t 0], none⟩,
 ⟨(some 3), (.p .mov), [.c (.bool false)], none⟩])
 (.seq
 (.ops [
 ⟨(some 4), (.h (.load true 2)), [.t 2], none⟩,
 ⟨(some 5), (.h (.load true 2)), [.t 1], none⟩,
 ⟨(some 6), (.p (.bin .eql (.parts [(0, false, 1, .int), (1, false, 1, .int)]))), [.t 4, .t 5], none⟩,
 ⟨(some 3), (.p .mov), [.t 6], none⟩])
 (.ret [3])))
def graph_Graph_Around_1_I : FInfo := ⟨(.fz false), 2, graph_Graph_Around_1_C, [.tmp 3]⟩
def graph_Graph_Around_1_A : Ann := ⟨[], [], [], [], [2]⟩
abbrev n_graph_Graph_Around_1 : Nat := 98

/-! ### slices.Concat[[]balise/api.End,balise/api.End] -/
def slices_Concat_End_B0 : CCode :=
 (.seq
 (.ops [
 ⟨(some 12), (.p (.bin .lss .ifc)), [.t 11, .t 10], none⟩])
 (.seq
 (.cond (.t 12)
 .skip
 (.exit 0))
 (.seq
 (.block 1 (some [0, 3, 9, 10, 11])
 (.seq
 (.ops [
 ⟨(some 13), (.p (.iaddr 1)), [.t 9, .t 11], none⟩,
 ⟨(some 14), (.h (.load false 1)), [.t 13], none⟩,
 ⟨(some 5), (.p .mov), [.t 14], none⟩])
 (.seq
 (.ops [
 ⟨(some 15), (.p .mov), [.t 3], none⟩,
 ⟨(some 16), (.p .mov), [.t 5], none⟩,
 ⟨(some 17), (.p .len), [.t 16], none⟩,
 ⟨(some 18), (.p (.bin .add .ifc)), [.t 15, .t 17], none⟩,
 ⟨(some 3), (.p .mov), [.t 18], none⟩])
 (.seq
 (.ops [
 ⟨(some 19), (.p .mov), [.t 3], none⟩,
 ⟨(some 20), (.p (.bin .lss .ifc)), [.t 19, .c (.int .i64 0)], none⟩])
 (.cond (.t 20)
 bad
 .skip)))))
 (.ops [
 ⟨(some 22), (.p (.bin .add .ifc)), [.t 11, .c (.int .i64 1)], none⟩,
 ⟨(some 11), (.p .mov), [.t 22], none⟩]))))
def slices_Concat_End_L0 : CCode := .bloop 0 [0, 3, 9, 10, 11] [0, 3] slices_Concat_End_B0

def slices_Concat_End_B2 : CCode :=
 (.seq
 (.ops [
 ⟨(some 28), (.p (.bin .lss .ifc)), [.t 27, .t 26], none⟩])
 (.seq
 (.cond (.t 28)
 .skip
 (.exit 2))
 (.seq
 (.block 3 (some [6, 25, 26, 27])
 (.seq
 (.ops [
 ⟨(some 29), (.p (.iaddr 1)), [.t 25, .t 27], none⟩,
 ⟨(some 30), (.h (.load false 1)), [.t 29], none⟩,
 ⟨(some 8), (.p .mov), [.t 30], none⟩])
 (.ops [
 ⟨(some 31), (.p .mov), [.t 6], none⟩,
 ⟨(some 32), (.p .mov), [.t 8], none⟩,
 ⟨(some 33), (.h (.app 2 16 [(.int .i64 0), (.int .i64 0)])), [.t 31, .t 32], none⟩,
 ⟨(some 6), (.p .mov), [.t 33], none⟩])))
 (.ops [
 ⟨(some 34), (.p (.bin .add .ifc)), [.t 27, .c (.int .i64 1)], none⟩,
 ⟨(some 27), (.p .mov), [.t 34], none⟩]))))
def slices_Concat_End_L2 : CCode := .bloop 2 [6, 25, 26, 27] [6] slices_Concat_End_B2
def slices_Concat_End_C : CCode :=
 (.seq
 (.ops [
 ⟨(some 2), (.p .mov), [.c .nils], none⟩])
 (.seq
 (.ops [
 ⟨(some 3), (.p .mov), [.c (.int .i64 0)], none⟩])
 (.seq
 (.seq
 (.ops [
 ⟨(some 9), (.p .mov), [.t 0], none⟩,
 ⟨(some 10), (.p .len), [.t 9], none⟩,
 ⟨(some 11), (.p .mov), [.c (.int .i64 0)], none⟩])
 slices_Concat_End_L0)
 (.seq
 (.ops [
 ⟨(some 23), (.p .mov), [.t 3], none⟩,
 ⟨(some 24), .call, [.c (.fn (.func 114) [] []), .c .nils, .t 23], none⟩,
 ⟨(some 6), (.p .mov), [.t 24], none⟩])
 (.seq
 (.seq
 (.ops [
 ⟨(some 25), (.p .mov), [.t 0], none⟩,
 ⟨(some 26), (.p .len), [.t 25], none⟩,
 ⟨(some 27), (.p .mov), [.c (.int .i64 0)], none⟩])
 slices_Concat_End_L2)
 (.seq
 (.ops [
 ⟨(some 35), (.p .mov), [.t 6], none⟩,
 ⟨(some 2), (.p .mov), [.t 35], none⟩])
 (.ret [2])))))))
def slices_Concat_End_I : FInfo := ⟨(.fz false), 1, slices_Concat_End_C, [.tmp 2]⟩
def slices_Concat_End_A : Ann := ⟨[], [], [(0, [0, 3, 9, 10, 11], [0, 3]), (2, [6, 25, 26, 27], [6])], [(1, [0, 3, 9, 10, 11]), (3, [6, 25, 26, 27])], []⟩
abbrev n_slices_Concat_End : Nat := 99

/-! ### (*balise/graph.Graph).at -/
def graph_Graph_at_B0 : CCode :=
 (.seq
 (.ops [
 ⟨(some 14), (.p (.bin .lss .ifc)), [.t 13, .t 12], none⟩])
 (.seq
 (.cond (.t 14)
 .skip
 (.exit 0))
 (.seq
 (.block 1 (some [1, 11, 12, 13])
 (.seq
 (.ops [
 ⟨(some 15), (.p (.iaddr 2)), [.t 11, .t 13], none⟩,
 ⟨(some 16), (.h (.load true 2)), [.t 15], none⟩,
 ⟨(some 8), (.h (.newl 8 [(.int .i64 0), (.int .i64 0)])), [], none⟩,
 ⟨none, (.h (.store 2)), [.t 8, .t 16], none⟩])
 (.seq
 (.ops [
 ⟨(some 17), (.p (.faddr 0)), [.t 8], none⟩,
 ⟨(some 18), (.h (.load false 1)), [.t 17], none⟩,
 ⟨(some 19), (.p .mov), [.t 1], none⟩,
 ⟨(some 20), (.p (.bin .eql .int)), [.t 18, .t 19], none⟩])
 (.cond (.t 20)
 (.seq
 (.ops [
 ⟨(some 21), (.h (.load true 2)), [.t 8], none⟩,
 ⟨(some 22), (.h (.bslF 2 1 [(.int .i64 0), (.int .i64 0)] [(0, 2)])), [.t 21], none⟩,
 ⟨(some 6), (.p .mov), [.t 22], none⟩])
 (.ret [6]))
 .skip))))
 (.ops [
 ⟨(some 23), (.p (.bin .add .ifc)), [.t 13, .c (.int .i64 1)], none⟩,
 ⟨(some 13), (.p .mov), [.t 23], none⟩]))))
def graph_Graph_at_L0 : CCode := .bloop 0 [1, 11, 12, 13] [] graph_Graph_at_B0
def graph_Graph_at_C : CCode :=
 (.seq
 (.ops [
 ⟨(some 6), (.p .mov), [.c .nils], none⟩])
 (.seq
 (.seq
 (.ops [
 ⟨(some 9), (.p .mov), [.t 0], none⟩,
 ⟨(some 10), (.p .mov), [.t 2], none⟩,
 ⟨(some 11), .call, [.c (.fn (.func 97) [] []), .t 9, .t 10], none⟩,
 ⟨(some 12), (.p .len), [.t 11], none⟩,
 ⟨(some 13), (.p .mov), [.c (.int .i64 0)], none⟩])
 graph_Graph_at_L0)
 (.seq
 (.ops [
 ⟨(some 6), (.p .mov), [.c .nils], none⟩])
 (.ret [6]))))
def graph_Graph_at_I : FInfo := ⟨(.fz false), 3, graph_Graph_at_C, [.tmp 6]⟩
def graph_Graph_at_A : Ann := ⟨[], [], [(0, [1, 11, 12, 13], [])], [(1, [1, 11, 12, 13])], [8]⟩
abbrev n_graph_Graph_at : Nat := 100

/-! ### slices.IndexFunc[[]balise/api.Point,balise/api.Point] -/
def slices_IndexFunc_Point_B0 : CCode :=
 (.seq
 (.ops [
 ⟨(some 9), (.p (.bin .lss .ifc)), [.t 8, .t 7], none⟩])
 (.seq
 (.cond (.t 9)
 .skip
 (.exit 0))
 (.seq
 (.block 1 (some [0, 1, 7, 8])
 (.seq
 (.ops [
 ⟨(some 10), (.p .mov), [.t 8], none⟩,
 ⟨(some 5), (.p .mov), [.t 10], none⟩])
 (.seq
 (.ops [
 ⟨(some 11), (.p .mov), [.t 1], none⟩,
 ⟨(some 12), (.p .mov), [.t 0], none⟩,
 ⟨(some 13), (.p .mov), [.t 5], none⟩,
 ⟨(some 14), (.p (.iaddr 4)), [.t 12, .t 13], none⟩,
 ⟨(some 15), (.h (.load true 4)), [.t 14], none⟩,
 ⟨(some 16), .call, [.t 11, .t 15], none⟩])
 (.cond (.t 16)
 (.seq
 (.ops [
 ⟨(some 17), (.p .mov), [.t 5], none⟩,
 ⟨(some 4), (.p .mov), [.t 17], none⟩])
 (.ret [4]))
 .skip))))
 (.ops [
 ⟨(some 18), (.p (.bin .add .ifc)), [.t 8, .c (.int .i64 1)], none⟩,
 ⟨(some 8), (.p .mov), [.t 18], none⟩]))))
def slices_IndexFunc_Point_L0 : CCode := .bloop 0 [0, 1, 7, 8] [] slices_IndexFunc_Point_B0
def slices_IndexFunc_Point_C : CCode :=
 (.seq
 (.ops [
 ⟨(some 4), (.p .mov), [.c (.int .i64 0)], none⟩])
 (.seq
 (.seq
 (.ops [
 ⟨(some 6), (.p .mov), [.t 0], none⟩,
 ⟨(some 7), (.p .len), [.t 6], none⟩,
 ⟨(some 8), (.p .mov), [.c (.int .i64 0)], none⟩])
 slices_IndexFunc_Point_L0)
 (.seq
 (.ops [
 ⟨(some 4), (.p .mov), [.c (.int .i64 (-1))], none⟩])
 (.ret [4]))))
def slices_IndexFunc_Point_I : FInfo := ⟨(.fz false), 2, slices_IndexFunc_Point_C, [.tmp 4]⟩
def slices_IndexFunc_Point_A : Ann := ⟨[], [], [(0, [0, 1, 7, 8], [])], [(1, [0, 1, 7, 8])], []⟩
abbrev n_slices_IndexFunc_Point : Nat := 112

/-! ### (*balise/graph.Graph).Point$1 -/
def graph_Graph_Point_1_C : CCode :=
 (.seq
 (.ops [
 ⟨(some 2), (.h (.box 2)), [.t 0], none⟩,
 ⟨(some 3), (.p .mov), [.c (.bool false)], none⟩])
 (.seq
 (.ops [
 ⟨(some 4), (.p (.faddr 0)), [.t 2], none⟩,
 ⟨(some 5), (.h (.load false 1)), [.t 4], none⟩,
 ⟨(some 6), (.h (.load false 1)), [.t 1], none⟩,
 ⟨(some 7), (.p (.bin .eql .int)), [.t 5, .t 6], none⟩,
 ⟨(some 3), (.p .mov), [.t 7], none⟩])
 (.ret [3])))
def graph_Graph_Point_1_I : FInfo := ⟨(.fz false), 2, graph_Graph_Point_1_C, [.tmp 3]⟩
def graph_Graph_Point_1_A : Ann := ⟨[], [], [], [], [2]⟩
abbrev n_graph_Graph_Point_1 : Nat := 113

/-! ### slices.Grow[[]balise/api.End,balise/api.End] -/
def slices_Grow_End_C : CCode :=
 (.seq
 (.ops [
 ⟨(some 4), (.p .mov), [.c .nils], none⟩])
 (.seq
 (.seq
 (.ops [
 ⟨(some 5), (.p .mov), [.t 1], none⟩,
 ⟨(some 6), (.p (.bin .lss .ifc)), [.t 5, .c (.int .i64 0)], none⟩])
 (.cond (.t 6)
 bad
 .skip))
 (.seq
 (.seq
 (.ops [
 ⟨(some 8), (.p .mov), [.t 1], none⟩,
 ⟨(some 9), (.p .mov), [.t 0], none⟩,
 ⟨(some 10), (.p .cap), [.t 9], none⟩,
 ⟨(some 11), (.p .mov), [.t 0], none⟩,
 ⟨(some 12), (.p .len), [.t 11], none⟩,
 ⟨(some 13), (.p (.bin .sub .ifc)), [.t 10, .t 12], none⟩,
 ⟨(some 14), (.p (.bin .sub .ifc)), [.t 8, .t 13], none⟩,
 ⟨(some 1), (.p .mov), [.t 14], none⟩])
 (.seq
 (.ops [
 ⟨(some 15), (.p .mov), [.t 1], none⟩,
 ⟨(some 16), (.p (.bin .gtr .ifc)), [.t 15, .c (.int .i64 0)], none⟩])
 (.cond (.t 16)
 (.ops [
 ⟨(some 17), (.p .mov), [.t 0], none⟩,
 ⟨(some 18), (.p .mov), [.t 0], none⟩,
 ⟨(some 19), (.p .cap), [.t 18], none⟩,
 ⟨(some 20), (.p (.slc 2 false true)), [.t 17, .t 19], none⟩,
 ⟨(some 21), (.p .mov), [.t 1], none⟩,
 ⟨(some 22), (.h (.appz 2 16 [(.int .i64 0), (.int .i64 0)])), [.t 20, .t 21], none⟩,
 ⟨(some 23), (.p .mov), [.t 0], none⟩,
 ⟨(some 24), (.p .len), [.t 23], none⟩,
 ⟨(some 25), (.p (.slc 2 false true)), [.t 22, .t 24], none⟩,
 ⟨(some 0), (.p .mov), [.t 25], none⟩])
 .skip)))
 (.seq
 (.ops [
 ⟨(some 26), (.p .mov), [.t 0], none⟩,
 ⟨(some 4), (.p .mov), [.t 26], none⟩])
 (.ret [4])))))
def slices_Grow_End_I : FInfo := ⟨.ref, 2, slices_Grow_End_C, [.tmp 4]⟩
def slices_Grow_End_A : Ann := ⟨[], [], [], [], []⟩
abbrev n_slices_Grow_End : Nat := 114

end Go.Proofs.Ytfblegjbmhgepaa.Zt
