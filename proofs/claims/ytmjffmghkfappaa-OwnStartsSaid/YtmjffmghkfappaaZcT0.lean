/- Go functions, as the interpreter runs them: written by a program of this claim's own, proved to be what the compiler makes of them. No condition. -/
import Derived.Test.YtmjffmghkfappaaZcSym
import Derived.Test.YtmjffmghkfappaaProg
set_option linter.all false
namespace Go.Proofs.Ytmjffmghkfappaa.Zt
open Go Go.Zc
set_option maxRecDepth 100000

/-! ### balise/baliselaw12.OwnNext -/
def l12_OwnNext_C : CCode :=
 (.seq
 (.ops [
 ⟨(some 2), (.h (.box 2)), [.t 0], none⟩,
 ⟨(some 3), (.h (.box 3)), [.t 1], none⟩,
 ⟨(some 4), (.p .mov), [.c (.bool false)], none⟩])
 (.seq
 (.seq
 (.ops [
 ⟨(some 9), .call, [.c (.fn (.func 15) [] [])], none⟩,
 ⟨(some 10), (.p (.un .not)), [.t 9], none⟩,
 ⟨(some 11), (.p .mov), [.t 10], none⟩,
 ⟨(some 12), (.h (.load true 9)), [.t 2], (some (11, false))⟩,
 ⟨(some 13), .call, [.c (.fn (.func 16) [] []), .t 12], (some (11, false))⟩,
 ⟨(some 14), (.p (.un .not)), [.t 13], (some (11, false))⟩,
 ⟨(some 15), (.p .pick), [.t 11, .c (.bool true), .t 14], none⟩,
 ⟨(some 16), (.p .mov), [.t 15], none⟩,
 ⟨(some 17), (.h (.load true 3)), [.t 3], (some (16, false))⟩,
 ⟨(some 18), .call, [.c (.fn (.func 17) [] []), .t 17], (some (16, false))⟩,
 ⟨(some 19), (.p (.un .not)), [.t 18], (some (16, false))⟩,
 ⟨(some 20), (.p .pick), [.t 16, .c (.bool true), .t 19], none⟩])
 (.cond (.t 20)
 (.seq
 (.ops [
 ⟨(some 21), .call, [.c (.fn (.func 15) [] [])], none⟩,
 ⟨(some 4), (.p .mov), [.t 21], none⟩])
 (.ret [4]))
 .skip))
 (.seq
 (.ops [
 ⟨(some 22), (.h (.load true 9)), [.t 2], none⟩,
 ⟨(some 23), .call, [.c (.fn (.func 18) [] []), .t 22], none⟩,
 ⟨(some 5), (.h (.newl 5 [.nils, .nils, .nils, .nils, .nils, (.int .i64 0), (.int .i64 0), (.int .i64 0), (.int .i64 0), (.int .i64 0)])), [], none⟩,
 ⟨none, (.h (.store 10)), [.t 5, .t 23], none⟩])
 (.seq
 (.ops [
 ⟨(some 25), (.h (.load true 10)), [.t 5], none⟩,
 ⟨(some 26), (.h (.load true 3)), [.t 3], none⟩,
 ⟨(some 27), .call, [.c (.fn (.func 19) [] []), .t 25, .t 26], none⟩,
 ⟨(some 24), (.p .mov), [.t 27], none⟩,
 ⟨(some 28), (.p (.ext 0)), [.t 24], none⟩,
 ⟨(some 29), (.p (.ext 1)), [.t 24], none⟩,
 ⟨(some 6), (.p .mov), [.t 28], none⟩,
 ⟨(some 7), (.p .mov), [.t 29], none⟩])
 (.seq
 (.ops [
 ⟨(some 30), (.h (.load true 10)), [.t 5], none⟩,
 ⟨(some 31), (.h (.load true 3)), [.t 3], none⟩,
 ⟨(some 32), .call, [.c (.fn (.func 20) [] []), .t 30, .t 31], none⟩,
 ⟨(some 8), (.p .mov), [.t 32], none⟩])
 (.seq
 (.ops [
 ⟨(some 33), (.h (.load true 10)), [.t 5], none⟩,
 ⟨(some 34), (.p .mov), [.t 8], none⟩,
 ⟨(some 35), (.h (.load true 10)), [.t 5], none⟩,
 ⟨(some 36), (.h (.load true 3)), [.t 3], none⟩,
 ⟨(some 37), .call, [.c (.fn (.func 23) [] []), .t 35, .t 36], none⟩,
 ⟨(some 38), (.p .mov), [.t 6], none⟩,
 ⟨(some 39), .call, [.c (.fn (.func 22) [] []), .t 33, .t 34, .t 37, .t 38], none⟩,
 ⟨(some 40), (.h (.load true 10)), [.t 5], none⟩,
 ⟨(some 41), (.p .mov), [.t 8], none⟩,
 ⟨(some 42), (.h (.load true 10)), [.t 5], none⟩,
 ⟨(some 43), (.h (.load true 3)), [.t 3], none⟩,
 ⟨(some 44), .call, [.c (.fn (.func 23) [] []), .t 42, .t 43], none⟩,
 ⟨(some 45), (.p .mov), [.t 7], none⟩,
 ⟨(some 46), .call, [.c (.fn (.func 24) [] []), .t 40, .t 41, .t 44, .t 45], none⟩,
 ⟨(some 47), .call, [.c (.fn (.func 21) [] []), .t 39, .t 46], none⟩,
 ⟨(some 4), (.p .mov), [.t 47], none⟩])
 (.ret [4])))))))
def l12_OwnNext_I : FInfo := ⟨(.fz false), 2, l12_OwnNext_C, [.tmp 4]⟩
def l12_OwnNext_A : Ann := ⟨[], [], [], [], [2, 3, 5]⟩
abbrev n_l12_OwnNext : Nat := 3

/-! ### balise/baliselaw12.OwnRuns -/
def l12_OwnRuns_B0 : CCode :=
 (.seq
 (.seq
 (.ops [
 ⟨(some 39), (.p .mov), [.t 10], none⟩,
 ⟨(some 40), (.p .mov), [.t 2], none⟩,
 ⟨(some 41), (.p .len), [.t 40], none⟩,
 ⟨(some 42), (.p (.bin .lss .ifc)), [.t 39, .t 41], none⟩])
 (.cond (.t 42)
 .skip
 (.exit 0)))
 (.seq
 (.block 1 (some [2, 7, 8, 9, 10])
 (.seq
 (.seq
 (.ops [
 ⟨(some 45), (.p .mov), [.t 2], none⟩,
 ⟨(some 46), (.p .mov), [.t 10], none⟩,
 ⟨(some 47), (.p (.iaddr 3)), [.t 45, .t 46], none⟩,
 ⟨(some 48), (.h (.load true 3)), [.t 47], none⟩,
 ⟨(some 49), .call, [.c (.fn (.func 17) [] []), .t 48], none⟩,
 ⟨(some 50), (.p (.un .not)), [.t 49], none⟩])
 (.cond (.t 50)
 (.seq
 (.ops [
 ⟨(some 6), (.p .mov), [.c (.bool true)], none⟩])
 (.ret [6]))
 .skip))
 (.seq
 (.ops [
 ⟨(some 52), (.h (.load true 10)), [.t 7], none⟩,
 ⟨(some 53), (.p .mov), [.t 2], none⟩,
 ⟨(some 54), (.p .mov), [.t 10], none⟩,
 ⟨(some 55), (.p (.iaddr 3)), [.t 53, .t 54], none⟩,
 ⟨(some 56), (.h (.load true 3)), [.t 55], none⟩,
 ⟨(some 57), .call, [.c (.fn (.func 19) [] []), .t 52, .t 56], none⟩,
 ⟨(some 51), (.p .mov), [.t 57], none⟩,
 ⟨(some 58), (.p (.ext 0)), [.t 51], none⟩,
 ⟨(some 59), (.p (.ext 1)), [.t 51], none⟩,
 ⟨(some 11), (.p .mov), [.t 58], none⟩,
 ⟨(some 12), (.p .mov), [.t 59], none⟩])
 (.seq
 (.ops [
 ⟨(some 60), (.h (.load true 10)), [.t 7], none⟩,
 ⟨(some 61), (.p .mov), [.t 8], none⟩,
 ⟨(some 62), (.h (.load true 10)), [.t 7], none⟩,
 ⟨(some 63), (.p .mov), [.t 2], none⟩,
 ⟨(some 64), (.p .mov), [.t 10], none⟩,
 ⟨(some 65), (.p (.iaddr 3)), [.t 63, .t 64], none⟩,
 ⟨(some 66), (.h (.load true 3)), [.t 65], none⟩,
 ⟨(some 67), .call, [.c (.fn (.func 23) [] []), .t 62, .t 66], none⟩,
 ⟨(some 68), (.p .mov), [.t 11], none⟩,
 ⟨(some 69), .call, [.c (.fn (.func 22) [] []), .t 60, .t 61, .t 67, .t 68], none⟩,
 ⟨(some 70), (.h (.load true 10)), [.t 7], none⟩,
 ⟨(some 71), (.p .mov), [.t 9], none⟩,
 ⟨(some 72), (.h (.load true 10)), [.t 7], none⟩,
 ⟨(some 73), (.p .mov), [.t 2], none⟩,
 ⟨(some 74), (.p .mov), [.t 10], none⟩,
 ⟨(some 75), (.p (.iaddr 3)), [.t 73, .t 74], none⟩,
 ⟨(some 76), (.h (.load true 3)), [.t 75], none⟩,
 ⟨(some 77), .call, [.c (.fn (.func 23) [] []), .t 72, .t 76], none⟩,
 ⟨(some 78), (.p .mov), [.t 12], none⟩,
 ⟨(some 79), .call, [.c (.fn (.func 24) [] []), .t 70, .t 71, .t 77, .t 78], none⟩,
 ⟨(some 8), (.p .mov), [.t 69], none⟩,
 ⟨(some 9), (.p .mov), [.t 79], none⟩])
 (.seq
 (.ops [
 ⟨(some 80), (.p .mov), [.t 8], none⟩,
 ⟨(some 81), (.p .mov), [.t 9], none⟩,
 ⟨(some 82), .call, [.c (.fn (.func 21) [] []), .t 80, .t 81], none⟩,
 ⟨(some 83), (.p (.un .not)), [.t 82], none⟩])
 (.cond (.t 83)
 (.seq
 (.ops [
 ⟨(some 6), (.p .mov), [.c (.bool false)], none⟩])
 (.ret [6]))
 .skip))))))
 (.ops [
 ⟨(some 43), (.p .mov), [.t 10], none⟩,
 ⟨(some 44), (.p (.bin .add .ifc)), [.t 43, .c (.int .i64 1)], none⟩,
 ⟨(some 10), (.p .mov), [.t 44], none⟩])))
def l12_OwnRuns_L0 : CCode := .bloop 0 [2, 7, 8, 9, 10] [] l12_OwnRuns_B0
def l12_OwnRuns_C : CCode :=
 (.seq
 (.ops [
 ⟨(some 3), (.h (.box 3)), [.t 0], none⟩,
 ⟨(some 4), (.h (.box 4)), [.t 1], none⟩,
 ⟨(some 6), (.p .mov), [.c (.bool false)], none⟩])
 (.seq
 (.seq
 (.ops [
 ⟨(some 13), .call, [.c (.fn (.func 15) [] [])], none⟩,
 ⟨(some 14), (.p (.un .not)), [.t 13], none⟩,
 ⟨(some 15), (.p .mov), [.t 14], none⟩,
 ⟨(some 16), (.h (.load true 9)), [.t 3], (some (15, false))⟩,
 ⟨(some 17), .call, [.c (.fn (.func 16) [] []), .t 16], (some (15, false))⟩,
 ⟨(some 18), (.p (.un .not)), [.t 17], (some (15, false))⟩,
 ⟨(some 19), (.p .pick), [.t 15, .c (.bool true), .t 18], none⟩,
 ⟨(some 20), (.p .mov), [.t 19], none⟩,
 ⟨(some 21), (.h (.load true 3)), [.t 4], (some (20, false))⟩,
 ⟨(some 22), .call, [.c (.fn (.func 17) [] []), .t 21], (some (20, false))⟩,
 ⟨(some 23), (.p (.un .not)), [.t 22], (some (20, false))⟩,
 ⟨(some 24), (.p .pick), [.t 20, .c (.bool true), .t 23], none⟩,
 ⟨(some 25), (.p .mov), [.t 24], none⟩,
 ⟨(some 26), (.p .mov), [.t 2], (some (25, false))⟩,
 ⟨(some 27), (.p .len), [.t 26], (some (25, false))⟩,
 ⟨(some 28), (.p (.bin .gtr .ifc)), [.t 27, .c (.int .i64 12)], (some (25, false))⟩,
 ⟨(some 29), (.p .pick), [.t 25, .c (.bool true), .t 28], none⟩])
 (.cond (.t 29)
 (.seq
 (.ops [
 ⟨(some 30), .call, [.c (.fn (.func 15) [] [])], none⟩,
 ⟨(some 6), (.p .mov), [.t 30], none⟩])
 (.ret [6]))
 .skip))
 (.seq
 (.ops [
 ⟨(some 31), (.h (.load true 9)), [.t 3], none⟩,
 ⟨(some 32), .call, [.c (.fn (.func 18) [] []), .t 31], none⟩,
 ⟨(some 7), (.h (.newl 7 [.nils, .nils, .nils, .nils, .nils, (.int .i64 0), (.int .i64 0), (.int .i64 0), (.int .i64 0), (.int .i64 0)])), [], none⟩,
 ⟨none, (.h (.store 10)), [.t 7, .t 32], none⟩])
 (.seq
 (.ops [
 ⟨(some 33), (.h (.load true 10)), [.t 7], none⟩,
 ⟨(some 34), (.h (.load true 3)), [.t 4], none⟩,
 ⟨(some 35), .call, [.c (.fn (.func 20) [] []), .t 33, .t 34], none⟩,
 ⟨(some 8), (.p .mov), [.t 35], none⟩])
 (.seq
 (.ops [
 ⟨(some 36), (.h (.load true 10)), [.t 7], none⟩,
 ⟨(some 37), (.h (.load true 3)), [.t 4], none⟩,
 ⟨(some 38), .call, [.c (.fn (.func 20) [] []), .t 36, .t 37], none⟩,
 ⟨(some 9), (.p .mov), [.t 38], none⟩])
 (.seq
 (.seq
 (.ops [
 ⟨(some 10), (.p .mov), [.c (.int .i64 0)], none⟩])
 l12_OwnRuns_L0)
 (.seq
 (.ops [
 ⟨(some 6), (.p .mov), [.c (.bool true)], none⟩])
 (.ret [6]))))))))
def l12_OwnRuns_I : FInfo := ⟨(.fz false), 3, l12_OwnRuns_C, [.tmp 6]⟩
def l12_OwnRuns_A : Ann := ⟨[], [], [(0, [2, 7, 8, 9, 10], [])], [(1, [2, 7, 8, 9, 10])], [3, 4, 7]⟩
abbrev n_l12_OwnRuns : Nat := 4

/-! ### balise/baliselaw12.OwnSure -/
def l12_OwnSure_B2 : CCode :=
 (.seq
 (.seq
 (.ops [
 ⟨(some 119), (.p .mov), [.t 16], none⟩,
 ⟨(some 120), (.p .mov), [.t 15], none⟩,
 ⟨(some 121), (.p .len), [.t 120], none⟩,
 ⟨(some 122), (.p (.bin .lss .ifc)), [.t 119, .t 121], none⟩])
 (.cond (.t 122)
 .skip
 (.exit 2)))
 (.seq
 (.block 3 (some [5, 7, 8, 9, 10, 11, 12, 13, 14, 15, 16])
 (.seq
 (.ops [
 ⟨(some 125), (.p .mov), [.t 8], none⟩,
 ⟨(some 126), (.p .mov), [.t 15], none⟩,
 ⟨(some 127), (.p .mov), [.t 16], none⟩,
 ⟨(some 128), (.p (.iaddr 1)), [.t 126, .t 127], none⟩,
 ⟨(some 129), (.h (.load false 1)), [.t 128], none⟩,
 ⟨(some 130), (.p (.iaddr 1)), [.t 125, .t 129], none⟩,
 ⟨(some 131), (.h (.load false 1)), [.t 130], none⟩,
 ⟨(some 17), (.p .mov), [.t 131], none⟩])
 (.seq
 (.ops [
 ⟨(some 132), (.p .mov), [.t 14], none⟩,
 ⟨(some 133), (.p .mov), [.t 132], none⟩,
 ⟨(some 134), (.p .mov), [.t 17], (some (133, false))⟩,
 ⟨(some 135), (.p .mov), [.t 10], (some (133, false))⟩,
 ⟨(some 136), (.p .mov), [.t 11], (some (133, false))⟩,
 ⟨(some 137), (.p (.iaddr 1)), [.t 135, .t 136], (some (133, false))⟩,
 ⟨(some 138), (.h (.load false 1)), [.t 137], (some (133, false))⟩,
 ⟨(some 139), (.p (.bin .eql .int)), [.t 134, .t 138], (some (133, false))⟩,
 ⟨(some 140), (.p .pick), [.t 133, .c (.bool true), .t 139], none⟩,
 ⟨(some 14), (.p .mov), [.t 140], none⟩])
 (.seq
 (.ops [
 ⟨(some 141), (.p .mov), [.t 17], none⟩,
 ⟨(some 142), (.p .mov), [.t 10], none⟩,
 ⟨(some 143), (.p .mov), [.t 11], none⟩,
 ⟨(some 144), (.p (.iaddr 1)), [.t 142, .t 143], none⟩,
 ⟨(some 145), (.h (.load false 1)), [.t 144], none⟩,
 ⟨(some 146), (.p (.bin .neq .int)), [.t 141, .t 145], none⟩,
 ⟨(some 147), (.p .mov), [.t 146], none⟩,
 ⟨(some 148), (.p .mov), [.t 17], (some (147, true))⟩,
 ⟨(some 149), (.p (.bin .neq .int)), [.t 148, .c (.int .i64 (-2))], (some (147, true))⟩,
 ⟨(some 150), (.p .pick), [.t 147, .t 149, .c (.bool false)], none⟩])
 (.cond (.t 150)
 (.seq
 (.ops [
 ⟨(some 4), (.p .mov), [.c (.bool false)], none⟩])
 (.ret [4]))
 .skip)))))
 (.ops [
 ⟨(some 123), (.p .mov), [.t 16], none⟩,
 ⟨(some 124), (.p (.bin .add .ifc)), [.t 123, .c (.int .i64 1)], none⟩,
 ⟨(some 16), (.p .mov), [.t 124], none⟩])))
def l12_OwnSure_L2 : CCode := .bloop 2 [5, 7, 8, 9, 10, 11, 12, 13, 14, 15, 16] [5, 7, 8, 9, 10, 11, 12, 13, 14] l12_OwnSure_B2

def l12_OwnSure_B0 : CCode :=
 (.seq
 (.seq
 (.ops [
 ⟨(some 56), (.p .mov), [.t 11], none⟩,
 ⟨(some 57), (.p .mov), [.t 10], none⟩,
 ⟨(some 58), (.p .len), [.t 57], none⟩,
 ⟨(some 59), (.p (.bin .lss .ifc)), [.t 56, .t 58], none⟩])
 (.cond (.t 59)
 .skip
 (.exit 0)))
 (.seq
 (.block 1 (some [5, 7, 8, 9, 10, 11])
 (.seq
 (.seq
 (.ops [
 ⟨(some 62), (.p .mov), [.t 10], none⟩,
 ⟨(some 63), (.p .mov), [.t 11], none⟩,
 ⟨(some 64), (.p (.iaddr 1)), [.t 62, .t 63], none⟩,
 ⟨(some 65), (.h (.load false 1)), [.t 64], none⟩,
 ⟨(some 66), (.p (.bin .eql .int)), [.t 65, .c (.int .i64 (-2))], none⟩,
 ⟨(some 67), (.p .mov), [.t 9], none⟩,
 ⟨(some 68), (.p .mov), [.t 11], none⟩,
 ⟨(some 69), (.p (.iaddr 1)), [.t 67, .t 68], none⟩,
 ⟨(some 70), (.h (.load false 1)), [.t 69], none⟩,
 ⟨(some 71), (.p (.bin .neq .bool)), [.t 66, .t 70], none⟩,
 ⟨(some 72), (.p .mov), [.t 71], none⟩,
 ⟨(some 73), (.p .mov), [.t 8], (some (72, false))⟩,
 ⟨(some 74), (.p .mov), [.t 11], (some (72, false))⟩,
 ⟨(some 75), (.p (.iaddr 1)), [.t 73, .t 74], (some (72, false))⟩,
 ⟨(some 76), (.h (.load false 1)), [.t 75], (some (72, false))⟩,
 ⟨(some 77), (.p (.bin .eql .int)), [.t 76, .c (.int .i64 (-1))], (some (72, false))⟩,
 ⟨(some 78), (.p .mov), [.t 77], (some (72, false))⟩,
 ⟨(some 79), (.p .mov), [.t 9], (some (78, true))⟩,
 ⟨(some 80), (.p .mov), [.t 11], (some (78, true))⟩,
 ⟨(some 81), (.p (.iaddr 1)), [.t 79, .t 80], (some (78, true))⟩,
 ⟨(some 82), (.h (.load false 1)), [.t 81], (some (78, true))⟩,
 ⟨(some 83), (.p (.un .not)), [.t 82], (some (78, true))⟩,
 ⟨(some 84), (.p .pick), [.t 78, .t 83, .c (.bool false)], (some (72, false))⟩,
 ⟨(some 85), (.p .mov), [.t 84], (some (72, false))⟩,
 ⟨(some 86), (.p .mov), [.t 10], (some (85, true))⟩,
 ⟨(some 87), (.p .mov), [.t 11], (some (85, true))⟩,
 ⟨(some 88), (.p (.iaddr 1)), [.t 86, .t 87], (some (85, true))⟩,
 ⟨(some 89), (.h (.load false 1)), [.t 88], (some (85, true))⟩,
 ⟨(some 90), (.p (.bin .neq .int)), [.t 89, .c (.int .i64 (-1))], (some (85, true))⟩,
 ⟨(some 91), (.p .pick), [.t 85, .t 90, .c (.bool false)], (some (72, false))⟩,
 ⟨(some 92), (.p .pick), [.t 72, .c (.bool true), .t 91], none⟩])
 (.cond (.t 92)
 (.seq
 (.ops [
 ⟨(some 4), (.p .mov), [.c (.bool false)], none⟩])
 (.ret [4]))
 .skip))
 (.seq
 (.seq
 (.ops [
 ⟨(some 93), (.p .mov), [.t 10], none⟩,
 ⟨(some 94), (.p .mov), [.t 11], none⟩,
 ⟨(some 95), (.p (.iaddr 1)), [.t 93, .t 94], none⟩,
 ⟨(some 96), (.h (.load false 1)), [.t 95], none⟩,
 ⟨(some 97), (.p (.bin .lss .ifc)), [.t 96, .c (.int .i64 0)], none⟩])
 (.cond (.t 97)
 (.exit 1)
 .skip))
 (.seq
 (.ops [
 ⟨(some 99), (.p .mov), [.t 7], none⟩,
 ⟨(some 100), (.p .mov), [.t 10], none⟩,
 ⟨(some 101), (.p .mov), [.t 11], none⟩,
 ⟨(some 102), (.p (.iaddr 1)), [.t 100, .t 101], none⟩,
 ⟨(some 103), (.h (.load false 1)), [.t 102], none⟩,
 ⟨(some 104), .call, [.c (.fn (.func 25) [] []), .t 99, .t 103], none⟩,
 ⟨(some 98), (.p .mov), [.t 104], none⟩,
 ⟨(some 105), (.p (.ext 0)), [.t 98], none⟩,
 ⟨(some 106), (.p (.ext 1)), [.t 98], none⟩,
 ⟨(some 12), (.h (.newl 12 [(.int .i64 0), (.bool false), .nils])), [], none⟩,
 ⟨none, (.h (.store 3)), [.t 12, .t 105], none⟩,
 ⟨(some 13), (.p .mov), [.t 106], none⟩])
 (.seq
 (.ops [
 ⟨(some 107), (.p .mov), [.t 8], none⟩,
 ⟨(some 108), (.p .mov), [.t 11], none⟩,
 ⟨(some 109), (.p (.iaddr 1)), [.t 107, .t 108], none⟩,
 ⟨(some 110), (.h (.load false 1)), [.t 109], none⟩,
 ⟨(some 111), (.p .mov), [.t 10], none⟩,
 ⟨(some 112), (.p .mov), [.t 11], none⟩,
 ⟨(some 113), (.p (.iaddr 1)), [.t 111, .t 112], none⟩,
 ⟨(some 114), (.h (.load false 1)), [.t 113], none⟩,
 ⟨(some 115), (.p (.bin .eql .int)), [.t 110, .t 114], none⟩,
 ⟨(some 14), (.p .mov), [.t 115], none⟩])
 (.seq
 (.ops [
 ⟨(some 116), (.h (.load true 10)), [.t 5], none⟩,
 ⟨(some 117), (.p .mov), [.t 11], none⟩,
 ⟨(some 118), .call, [.c (.fn (.func 26) [] []), .t 116, .t 117], none⟩,
 ⟨(some 15), (.p .mov), [.t 118], none⟩])
 (.seq
 (.seq
 (.ops [
 ⟨(some 16), (.p .mov), [.c (.int .i64 0)], none⟩])
 l12_OwnSure_L2)
 (.seq
 (.ops [
 ⟨(some 151), (.p .mov), [.t 13], none⟩,
 ⟨(some 152), (.p (.un .not)), [.t 151], none⟩,
 ⟨(some 153), (.p .mov), [.t 152], none⟩,
 ⟨(some 154), (.p (.faddr 1)), [.t 12], (some (153, false))⟩,
 ⟨(some 155), (.h (.load false 1)), [.t 154], (some (153, false))⟩,
 ⟨(some 156), (.p (.un .not)), [.t 155], (some (153, false))⟩,
 ⟨(some 157), (.p .pick), [.t 153, .c (.bool true), .t 156], none⟩,
 ⟨(some 158), (.p .mov), [.t 157], none⟩,
 ⟨(some 159), (.p (.faddr 2)), [.t 12], (some (158, false))⟩,
 ⟨(some 160), (.h (.load false 1)), [.t 159], (some (158, false))⟩,
 ⟨(some 161), (.p (.faddr 2)), [.t 5], (some (158, false))⟩,
 ⟨(some 162), (.h (.load false 1)), [.t 161], (some (158, false))⟩,
 ⟨(some 163), (.p .mov), [.t 11], (some (158, false))⟩,
 ⟨(some 164), (.p (.iaddr 1)), [.t 162, .t 163], (some (158, false))⟩,
 ⟨(some 165), (.h (.load false 1)), [.t 164], (some (158, false))⟩,
 ⟨(some 166), .call, [.c (.fn (.func 27) [] []), .t 160, .t 165], (some (158, false))⟩,
 ⟨(some 167), (.p (.un .not)), [.t 166], (some (158, false))⟩,
 ⟨(some 168), (.p .pick), [.t 158, .c (.bool true), .t 167], none⟩,
 ⟨(some 169), (.p .mov), [.t 168], none⟩,
 ⟨(some 170), (.p .mov), [.t 14], (some (169, false))⟩,
 ⟨(some 171), (.p (.un .not)), [.t 170], (some (169, false))⟩,
 ⟨(some 172), (.p .pick), [.t 169, .c (.bool true), .t 171], none⟩])
 (.cond (.t 172)
 (.seq
 (.ops [
 ⟨(some 4), (.p .mov), [.c (.bool false)], none⟩])
 (.ret [4]))
 .skip)))))))))
 (.ops [
 ⟨(some 60), (.p .mov), [.t 11], none⟩,
 ⟨(some 61), (.p (.bin .add .ifc)), [.t 60, .c (.int .i64 1)], none⟩,
 ⟨(some 11), (.p .mov), [.t 61], none⟩])))
def l12_OwnSure_L0 : CCode := .bloop 0 [5, 7, 8, 9, 10, 11] [] l12_OwnSure_B0
def l12_OwnSure_C : CCode :=
 (.seq
 (.ops [
 ⟨(some 2), (.h (.box 2)), [.t 0], none⟩,
 ⟨(some 3), (.h (.box 3)), [.t 1], none⟩,
 ⟨(some 4), (.p .mov), [.c (.bool false)], none⟩])
 (.seq
 (.seq
 (.ops [
 ⟨(some 18), .call, [.c (.fn (.func 15) [] [])], none⟩,
 ⟨(some 19), (.p (.un .not)), [.t 18], none⟩,
 ⟨(some 20), (.p .mov), [.t 19], none⟩,
 ⟨(some 21), (.h (.load true 9)), [.t 2], (some (20, false))⟩,
 ⟨(some 22), .call, [.c (.fn (.func 16) [] []), .t 21], (some (20, false))⟩,
 ⟨(some 23), (.p (.un .not)), [.t 22], (some (20, false))⟩,
 ⟨(some 24), (.p .pick), [.t 20, .c (.bool true), .t 23], none⟩,
 ⟨(some 25), (.p .mov), [.t 24], none⟩,
 ⟨(some 26), (.h (.load true 3)), [.t 3], (some (25, false))⟩,
 ⟨(some 27), .call, [.c (.fn (.func 17) [] []), .t 26], (some (25, false))⟩,
 ⟨(some 28), (.p (.un .not)), [.t 27], (some (25, false))⟩,
 ⟨(some 29), (.p .pick), [.t 25, .c (.bool true), .t 28], none⟩])
 (.cond (.t 29)
 (.seq
 (.ops [
 ⟨(some 30), .call, [.c (.fn (.func 15) [] [])], none⟩,
 ⟨(some 4), (.p .mov), [.t 30], none⟩])
 (.ret [4]))
 .skip))
 (.seq
 (.ops [
 ⟨(some 31), (.h (.load true 9)), [.t 2], none⟩,
 ⟨(some 32), .call, [.c (.fn (.func 18) [] []), .t 31], none⟩,
 ⟨(some 5), (.h (.newl 5 [.nils, .nils, .nils, .nils, .nils, (.int .i64 0), (.int .i64 0), (.int .i64 0), (.int .i64 0), (.int .i64 0)])), [], none⟩,
 ⟨none, (.h (.store 10)), [.t 5, .t 32], none⟩])
 (.seq
 (.ops [
 ⟨(some 34), (.h (.load true 10)), [.t 5], none⟩,
 ⟨(some 35), (.h (.load true 3)), [.t 3], none⟩,
 ⟨(some 36), .call, [.c (.fn (.func 19) [] []), .t 34, .t 35], none⟩,
 ⟨(some 33), (.p .mov), [.t 36], none⟩,
 ⟨(some 37), (.p (.ext 0)), [.t 33], none⟩,
 ⟨(some 38), (.p (.ext 1)), [.t 33], none⟩,
 ⟨(some 6), (.p .mov), [.t 37], none⟩,
 ⟨(some 7), (.p .mov), [.t 38], none⟩])
 (.seq
 (.ops [
 ⟨(some 39), (.h (.load true 10)), [.t 5], none⟩,
 ⟨(some 40), (.h (.load true 3)), [.t 3], none⟩,
 ⟨(some 41), .call, [.c (.fn (.func 20) [] []), .t 39, .t 40], none⟩,
 ⟨(some 42), (.h (.load true 10)), [.t 5], none⟩,
 ⟨(some 43), (.h (.load true 3)), [.t 3], none⟩,
 ⟨(some 44), .call, [.c (.fn (.func 23) [] []), .t 42, .t 43], none⟩,
 ⟨(some 8), (.p .mov), [.t 41], none⟩,
 ⟨(some 9), (.p .mov), [.t 44], none⟩])
 (.seq
 (.ops [
 ⟨(some 45), (.h (.load true 10)), [.t 5], none⟩,
 ⟨(some 46), (.p .mov), [.t 8], none⟩,
 ⟨(some 47), (.p .mov), [.t 9], none⟩,
 ⟨(some 48), (.p .mov), [.t 6], none⟩,
 ⟨(some 49), .call, [.c (.fn (.func 22) [] []), .t 45, .t 46, .t 47, .t 48], none⟩,
 ⟨(some 10), (.p .mov), [.t 49], none⟩])
 (.seq
 (.seq
 (.ops [
 ⟨(some 50), (.p .mov), [.t 10], none⟩,
 ⟨(some 51), (.p .len), [.t 50], none⟩,
 ⟨(some 52), (.p (.faddr 2)), [.t 5], none⟩,
 ⟨(some 53), (.h (.load false 1)), [.t 52], none⟩,
 ⟨(some 54), (.p .len), [.t 53], none⟩,
 ⟨(some 55), (.p (.bin .neq .int)), [.t 51, .t 54], none⟩])
 (.cond (.t 55)
 (.seq
 (.ops [
 ⟨(some 4), (.p .mov), [.c (.bool false)], none⟩])
 (.ret [4]))
 .skip))
 (.seq
 (.seq
 (.ops [
 ⟨(some 11), (.p .mov), [.c (.int .i64 0)], none⟩])
 l12_OwnSure_L0)
 (.seq
 (.ops [
 ⟨(some 4), (.p .mov), [.c (.bool true)], none⟩])
 (.ret [4]))))))))))
def l12_OwnSure_I : FInfo := ⟨(.fz false), 2, l12_OwnSure_C, [.tmp 4]⟩
def l12_OwnSure_A : Ann := ⟨[], [], [(0, [5, 7, 8, 9, 10, 11], []), (2, [5, 7, 8, 9, 10, 11, 12, 13, 14, 15, 16], [5, 7, 8, 9, 10, 11, 12, 13, 14])], [(1, [5, 7, 8, 9, 10, 11]), (3, [5, 7, 8, 9, 10, 11, 12, 13, 14, 15, 16])], [2, 3, 5, 12]⟩
abbrev n_l12_OwnSure : Nat := 5

/-! ### balise/baliselaw12.OwnFinds -/
def l12_OwnFinds_B0 : CCode :=
 (.seq
 (.seq
 (.ops [
 ⟨(some 18), (.p .mov), [.t 7], none⟩,
 ⟨(some 19), (.p .mov), [.t 0], none⟩,
 ⟨(some 20), (.p .len), [.t 19], none⟩,
 ⟨(some 21), (.p (.bin .lss .ifc)), [.t 18, .t 20], none⟩])
 (.cond (.t 21)
 .skip
 (.exit 0)))
 (.seq
 (.block 1 (some [0, 1, 5, 6, 7])
 (.seq
 (.ops [
 ⟨(some 24), (.p .mov), [.t 5], none⟩,
 ⟨(some 25), (.p .mov), [.t 0], none⟩,
 ⟨(some 26), (.p .mov), [.t 7], none⟩,
 ⟨(some 27), (.p (.iaddr 1)), [.t 25, .t 26], none⟩,
 ⟨(some 28), (.h (.load false 1)), [.t 27], none⟩,
 ⟨(some 29), (.p .mov), [.t 7], none⟩,
 ⟨(some 30), (.h (.bslF 1 1 [(.int .i64 0)] [(0, 1)])), [.t 29], none⟩,
 ⟨(some 31), (.p (.bld [(.int .i64 0), (.bool false), .nils] [(0, 1), (2, 1)])), [.t 28, .t 30], none⟩,
 ⟨(some 32), (.h (.bslF 3 1 [(.int .i64 0), (.bool false), .nils] [(0, 3)])), [.t 31], none⟩,
 ⟨(some 33), (.h (.app 3 40 [(.int .i64 0), (.bool false), .nils])), [.t 24, .t 32], none⟩,
 ⟨(some 5), (.p .mov), [.t 33], none⟩])
 (.seq
 (.ops [
 ⟨(some 34), (.p .mov), [.t 0], none⟩,
 ⟨(some 35), (.p .mov), [.t 7], none⟩,
 ⟨(some 36), (.p (.iaddr 1)), [.t 34, .t 35], none⟩,
 ⟨(some 37), (.h (.load false 1)), [.t 36], none⟩,
 ⟨(some 38), (.p .mov), [.t 1], none⟩,
 ⟨(some 39), (.p (.bin .eql .int)), [.t 37, .t 38], none⟩,
 ⟨(some 40), (.p .mov), [.t 39], none⟩,
 ⟨(some 41), (.p .mov), [.t 6], (some (40, true))⟩,
 ⟨(some 42), (.p (.bin .lss .ifc)), [.t 41, .c (.int .i64 0)], (some (40, true))⟩,
 ⟨(some 43), (.p .pick), [.t 40, .t 42, .c (.bool false)], none⟩])
 (.cond (.t 43)
 (.ops [
 ⟨(some 44), (.p .mov), [.t 7], none⟩,
 ⟨(some 6), (.p .mov), [.t 44], none⟩])
 .skip))))
 (.ops [
 ⟨(some 22), (.p .mov), [.t 7], none⟩,
 ⟨(some 23), (.p (.bin .add .ifc)), [.t 22, .c (.int .i64 1)], none⟩,
 ⟨(some 7), (.p .mov), [.t 23], none⟩])))
def l12_OwnFinds_L0 : CCode := .bloop 0 [0, 1, 5, 6, 7] [1, 5, 6] l12_OwnFinds_B0
def l12_OwnFinds_C : CCode :=
 (.seq
 (.ops [
 ⟨(some 4), (.p .mov), [.c (.bool false)], none⟩])
 (.seq
 (.seq
 (.ops [
 ⟨(some 10), .call, [.c (.fn (.func 15) [] [])], none⟩,
 ⟨(some 11), (.p (.un .not)), [.t 10], none⟩,
 ⟨(some 12), (.p .mov), [.t 11], none⟩,
 ⟨(some 13), (.p .mov), [.t 0], (some (12, false))⟩,
 ⟨(some 14), (.p .len), [.t 13], (some (12, false))⟩,
 ⟨(some 15), (.p (.bin .gtr .ifc)), [.t 14, .c (.int .i64 20)], (some (12, false))⟩,
 ⟨(some 16), (.p .pick), [.t 12, .c (.bool true), .t 15], none⟩])
 (.cond (.t 16)
 (.seq
 (.ops [
 ⟨(some 17), .call, [.c (.fn (.func 15) [] [])], none⟩,
 ⟨(some 4), (.p .mov), [.t 17], none⟩])
 (.ret [4]))
 .skip))
 (.seq
 (.ops [
 ⟨(some 5), (.p .mov), [.c .nils], none⟩])
 (.seq
 (.ops [
 ⟨(some 6), (.p .mov), [.c (.int .i64 (-1))], none⟩])
 (.seq
 (.seq
 (.ops [
 ⟨(some 7), (.p .mov), [.c (.int .i64 0)], none⟩])
 l12_OwnFinds_L0)
 (.seq
 (.ops [
 ⟨(some 46), (.p .mov), [.t 5], none⟩,
 ⟨(some 47), (.p .mov), [.t 1], none⟩,
 ⟨(some 48), .call, [.c (.fn (.func 28) [] []), .t 46, .t 47], none⟩,
 ⟨(some 45), (.p .mov), [.t 48], none⟩,
 ⟨(some 49), (.p (.ext 0)), [.t 45], none⟩,
 ⟨(some 50), (.p (.ext 1)), [.t 45], none⟩,
 ⟨(some 8), (.h (.newl 8 [(.int .i64 0), (.bool false), .nils])), [], none⟩,
 ⟨none, (.h (.store 3)), [.t 8, .t 49], none⟩,
 ⟨(some 9), (.p .mov), [.t 50], none⟩])
 (.seq
 (.ops [
 ⟨(some 51), (.p .mov), [.t 9], none⟩,
 ⟨(some 52), (.p .mov), [.t 6], none⟩,
 ⟨(some 53), (.p (.bin .geq .ifc)), [.t 52, .c (.int .i64 0)], none⟩,
 ⟨(some 54), (.p (.bin .eql .bool)), [.t 51, .t 53], none⟩,
 ⟨(some 55), (.p .mov), [.t 54], none⟩,
 ⟨(some 56), (.p .mov), [.t 9], (some (55, true))⟩,
 ⟨(some 57), (.p (.un .not)), [.t 56], (some (55, true))⟩,
 ⟨(some 58), (.p .mov), [.t 57], (some (55, true))⟩,
 ⟨(some 59), (.p (.faddr 2)), [.t 8], (some (58, true))⟩,
 ⟨(some 60), (.h (.load false 1)), [.t 59], (some (58, true))⟩,
 ⟨(some 61), (.p .len), [.t 60], (some (58, true))⟩,
 ⟨(some 62), (.p (.bin .eql .int)), [.t 61, .c (.int .i64 0)], (some (58, true))⟩,
 ⟨(some 63), (.p .pick), [.t 58, .t 62, .c (.bool false)], (some (55, true))⟩,
 ⟨(some 64), (.p .mov), [.t 63], (some (55, true))⟩,
 ⟨(some 65), (.p (.faddr 0)), [.t 8], (some (64, true))⟩,
 ⟨(some 66), (.h (.load false 1)), [.t 65], (some (64, true))⟩,
 ⟨(some 67), (.p (.bin .eql .int)), [.t 66, .c (.int .i64 0)], (some (64, true))⟩,
 ⟨(some 68), (.p .pick), [.t 64, .t 67, .c (.bool false)], (some (55, true))⟩,
 ⟨(some 69), (.p .mov), [.t 68], (some (55, true))⟩,
 ⟨(some 70), (.p .mov), [.t 9], (some (69, false))⟩,
 ⟨(some 71), (.p .mov), [.t 70], (some (69, false))⟩,
 ⟨(some 72), (.p (.faddr 2)), [.t 8], (some (71, true))⟩,
 ⟨(some 73), (.h (.load false 1)), [.t 72], (some (71, true))⟩,
 ⟨(some 74), (.p .mov), [.t 6], (some (71, true))⟩,
 ⟨(some 75), (.h (.bslF 1 1 [(.int .i64 0)] [(0, 1)])), [.t 74], (some (71, true))⟩,
 ⟨(some 76), .call, [.c (.fn (.func 21) [] []), .t 73, .t 75], (some (71, true))⟩,
 ⟨(some 77), (.p .pick), [.t 71, .t 76, .c (.bool false)], (some (69, false))⟩,
 ⟨(some 78), (.p .pick), [.t 69, .c (.bool true), .t 77], (some (55, true))⟩,
 ⟨(some 79), (.p .pick), [.t 55, .t 78, .c (.bool false)], none⟩,
 ⟨(some 4), (.p .mov), [.t 79], none⟩])
 (.ret [4]))))))))
def l12_OwnFinds_I : FInfo := ⟨(.fz false), 2, l12_OwnFinds_C, [.tmp 4]⟩
def l12_OwnFinds_A : Ann := ⟨[], [], [(0, [0, 1, 5, 6, 7], [1, 5, 6])], [(1, [0, 1, 5, 6, 7])], [8]⟩
abbrev n_l12_OwnFinds : Nat := 6

/-! ### balise/baliselaw12.OwnClear -/
def l12_OwnClear_B0 : CCode :=
 (.seq
 (.seq
 (.ops [
 ⟨(some 45), (.p .mov), [.t 10], none⟩,
 ⟨(some 46), (.p .mov), [.t 8], none⟩,
 ⟨(some 47), (.p .len), [.t 46], none⟩,
 ⟨(some 48), (.p (.bin .lss .ifc)), [.t 45, .t 47], none⟩])
 (.cond (.t 48)
 .skip
 (.exit 0)))
 (.seq
 (.block 1 (some [3, 5, 6, 8, 9, 10])
 (.ops [
 ⟨(some 51), (.p .mov), [.t 8], none⟩,
 ⟨(some 52), (.p .mov), [.t 10], none⟩,
 ⟨(some 53), (.p (.iaddr 1)), [.t 51, .t 52], none⟩,
 ⟨none, (.h (.store 1)), [.t 53, .c (.bool true)], none⟩]))
 (.ops [
 ⟨(some 49), (.p .mov), [.t 10], none⟩,
 ⟨(some 50), (.p (.bin .add .ifc)), [.t 49, .c (.int .i64 1)], none⟩,
 ⟨(some 10), (.p .mov), [.t 50], none⟩])))
def l12_OwnClear_L0 : CCode := .bloop 0 [3, 5, 6, 8, 9, 10] [3, 5, 6, 8, 9] l12_OwnClear_B0

def l12_OwnClear_B2 : CCode :=
 (.seq
 (.seq
 (.ops [
 ⟨(some 61), (.p .mov), [.t 12], none⟩,
 ⟨(some 62), (.p .mov), [.t 8], none⟩,
 ⟨(some 63), (.p .len), [.t 62], none⟩,
 ⟨(some 64), (.p (.bin .lss .ifc)), [.t 61, .t 63], none⟩])
 (.cond (.t 64)
 .skip
 (.exit 2)))
 (.seq
 (.block 3 (some [5, 8, 9, 11, 12])
 (.seq
 (.ops [
 ⟨(some 67), (.p .mov), [.t 12], none⟩,
 ⟨(some 68), (.p .mov), [.t 11], none⟩,
 ⟨(some 69), (.p .len), [.t 68], none⟩,
 ⟨(some 70), (.p (.bin .geq .ifc)), [.t 67, .t 69], none⟩,
 ⟨(some 71), (.p .mov), [.t 70], none⟩,
 ⟨(some 72), (.p .mov), [.t 11], (some (71, false))⟩,
 ⟨(some 73), (.p .mov), [.t 12], (some (71, false))⟩,
 ⟨(some 74), (.p (.iaddr 1)), [.t 72, .t 73], (some (71, false))⟩,
 ⟨(some 75), (.h (.load false 1)), [.t 74], (some (71, false))⟩,
 ⟨(some 76), (.p (.bin .neq .int)), [.t 75, .c (.int .i64 (-2))], (some (71, false))⟩,
 ⟨(some 77), (.p .pick), [.t 71, .c (.bool true), .t 76], none⟩,
 ⟨(some 78), (.p .mov), [.t 77], none⟩,
 ⟨(some 79), (.p .mov), [.t 12], (some (78, false))⟩,
 ⟨(some 80), (.p .mov), [.t 9], (some (78, false))⟩,
 ⟨(some 81), (.p .len), [.t 80], (some (78, false))⟩,
 ⟨(some 82), (.p (.bin .geq .ifc)), [.t 79, .t 81], (some (78, false))⟩,
 ⟨(some 83), (.p .pick), [.t 78, .c (.bool true), .t 82], none⟩,
 ⟨(some 84), (.p .mov), [.t 83], none⟩,
 ⟨(some 85), (.p .mov), [.t 9], (some (84, false))⟩,
 ⟨(some 86), (.p .mov), [.t 12], (some (84, false))⟩,
 ⟨(some 87), (.p (.iaddr 1)), [.t 85, .t 86], (some (84, false))⟩,
 ⟨(some 88), (.h (.load false 1)), [.t 87], (some (84, false))⟩,
 ⟨(some 89), (.p (.bin .eql .int)), [.t 88, .c (.int .i64 (-2))], (some (84, false))⟩,
 ⟨(some 90), (.p .pick), [.t 84, .c (.bool true), .t 89], none⟩])
 (.cond (.t 90)
 (.seq
 (.ops [
 ⟨(some 4), (.p .mov), [.c (.bool false)], none⟩])
 (.ret [4]))
 .skip)))
 (.ops [
 ⟨(some 65), (.p .mov), [.t 12], none⟩,
 ⟨(some 66), (.p (.bin .add .ifc)), [.t 65, .c (.int .i64 1)], none⟩,
 ⟨(some 12), (.p .mov), [.t 66], none⟩])))
def l12_OwnClear_L2 : CCode := .bloop 2 [5, 8, 9, 11, 12] [5, 11] l12_OwnClear_B2
def l12_OwnClear_C : CCode :=
 (.seq
 (.ops [
 ⟨(some 2), (.h (.box 2)), [.t 0], none⟩,
 ⟨(some 3), (.h (.box 3)), [.t 1], none⟩,
 ⟨(some 4), (.p .mov), [.c (.bool false)], none⟩])
 (.seq
 (.seq
 (.ops [
 ⟨(some 13), .call, [.c (.fn (.func 15) [] [])], none⟩,
 ⟨(some 14), (.p (.un .not)), [.t 13], none⟩,
 ⟨(some 15), (.p .mov), [.t 14], none⟩,
 ⟨(some 16), (.h (.load true 9)), [.t 2], (some (15, false))⟩,
 ⟨(some 17), .call, [.c (.fn (.func 16) [] []), .t 16], (some (15, false))⟩,
 ⟨(some 18), (.p (.un .not)), [.t 17], (some (15, false))⟩,
 ⟨(some 19), (.p .pick), [.t 15, .c (.bool true), .t 18], none⟩,
 ⟨(some 20), (.p .mov), [.t 19], none⟩,
 ⟨(some 21), (.h (.load true 3)), [.t 3], (some (20, false))⟩,
 ⟨(some 22), .call, [.c (.fn (.func 17) [] []), .t 21], (some (20, false))⟩,
 ⟨(some 23), (.p (.un .not)), [.t 22], (some (20, false))⟩,
 ⟨(some 24), (.p .pick), [.t 20, .c (.bool true), .t 23], none⟩])
 (.cond (.t 24)
 (.seq
 (.ops [
 ⟨(some 25), .call, [.c (.fn (.func 15) [] [])], none⟩,
 ⟨(some 4), (.p .mov), [.t 25], none⟩])
 (.ret [4]))
 .skip))
 (.seq
 (.ops [
 ⟨(some 26), (.h (.load true 9)), [.t 2], none⟩,
 ⟨(some 27), .call, [.c (.fn (.func 18) [] []), .t 26], none⟩,
 ⟨(some 5), (.h (.newl 5 [.nils, .nils, .nils, .nils, .nils, (.int .i64 0), (.int .i64 0), (.int .i64 0), (.int .i64 0), (.int .i64 0)])), [], none⟩,
 ⟨none, (.h (.store 10)), [.t 5, .t 27], none⟩])
 (.seq
 (.ops [
 ⟨(some 29), (.h (.load true 10)), [.t 5], none⟩,
 ⟨(some 30), (.h (.load true 3)), [.t 3], none⟩,
 ⟨(some 31), .call, [.c (.fn (.func 19) [] []), .t 29, .t 30], none⟩,
 ⟨(some 28), (.p .mov), [.t 31], none⟩,
 ⟨(some 32), (.p (.ext 0)), [.t 28], none⟩,
 ⟨(some 33), (.p (.ext 1)), [.t 28], none⟩,
 ⟨(some 6), (.p .mov), [.t 32], none⟩,
 ⟨(some 7), (.p .mov), [.t 33], none⟩])
 (.seq
 (.ops [
 ⟨(some 34), (.p (.faddr 2)), [.t 5], none⟩,
 ⟨(some 35), (.h (.load false 1)), [.t 34], none⟩,
 ⟨(some 36), (.p .len), [.t 35], none⟩,
 ⟨(some 37), (.h (.mksl 1 1 [(.bool false)])), [.t 36, .t 36], none⟩,
 ⟨(some 8), (.p .mov), [.t 37], none⟩])
 (.seq
 (.ops [
 ⟨(some 38), (.h (.load true 10)), [.t 5], none⟩,
 ⟨(some 39), (.h (.load true 10)), [.t 5], none⟩,
 ⟨(some 40), (.h (.load true 3)), [.t 3], none⟩,
 ⟨(some 41), .call, [.c (.fn (.func 20) [] []), .t 39, .t 40], none⟩,
 ⟨(some 42), (.p .mov), [.t 8], none⟩,
 ⟨(some 43), (.p .mov), [.t 6], none⟩,
 ⟨(some 44), .call, [.c (.fn (.func 22) [] []), .t 38, .t 41, .t 42, .t 43], none⟩,
 ⟨(some 9), (.p .mov), [.t 44], none⟩])
 (.seq
 (.seq
 (.ops [
 ⟨(some 10), (.p .mov), [.c (.int .i64 0)], none⟩])
 l12_OwnClear_L0)
 (.seq
 (.ops [
 ⟨(some 54), (.h (.load true 10)), [.t 5], none⟩,
 ⟨(some 55), (.h (.load true 10)), [.t 5], none⟩,
 ⟨(some 56), (.h (.load true 3)), [.t 3], none⟩,
 ⟨(some 57), .call, [.c (.fn (.func 20) [] []), .t 55, .t 56], none⟩,
 ⟨(some 58), (.p .mov), [.t 8], none⟩,
 ⟨(some 59), (.p .mov), [.t 6], none⟩,
 ⟨(some 60), .call, [.c (.fn (.func 22) [] []), .t 54, .t 57, .t 58, .t 59], none⟩,
 ⟨(some 11), (.p .mov), [.t 60], none⟩])
 (.seq
 (.seq
 (.ops [
 ⟨(some 12), (.p .mov), [.c (.int .i64 0)], none⟩])
 l12_OwnClear_L2)
 (.seq
 (.ops [
 ⟨(some 91), (.p .mov), [.t 11], none⟩,
 ⟨(some 92), (.p .len), [.t 91], none⟩,
 ⟨(some 93), (.p (.faddr 2)), [.t 5], none⟩,
 ⟨(some 94), (.h (.load false 1)), [.t 93], none⟩,
 ⟨(some 95), (.p .len), [.t 94], none⟩,
 ⟨(some 96), (.p (.bin .eql .int)), [.t 92, .t 95], none⟩,
 ⟨(some 4), (.p .mov), [.t 96], none⟩])
 (.ret [4])))))))))))
def l12_OwnClear_I : FInfo := ⟨(.fz false), 2, l12_OwnClear_C, [.tmp 4]⟩
def l12_OwnClear_A : Ann := ⟨[], [], [(0, [3, 5, 6, 8, 9, 10], [3, 5, 6, 8, 9]), (2, [5, 8, 9, 11, 12], [5, 11])], [(1, [3, 5, 6, 8, 9, 10]), (3, [5, 8, 9, 11, 12])], [2, 3, 5]⟩
abbrev n_l12_OwnClear : Nat := 7

/-! ### balise/baliselaw12.OwnStarts -/
def l12_OwnStarts_B0 : CCode :=
 (.seq
 (.seq
 (.ops [
 ⟨(some 44), (.p .mov), [.t 11], none⟩,
 ⟨(some 45), (.p (.faddr 2)), [.t 7], none⟩,
 ⟨(some 46), (.h (.load false 1)), [.t 45], none⟩,
 ⟨(some 47), (.p .len), [.t 46], none⟩,
 ⟨(some 48), (.p (.bin .lss .ifc)), [.t 44, .t 47], none⟩])
 (.cond (.t 48)
 .skip
 (.exit 0)))
 (.seq
 (.block 1 (some [2, 7, 10, 11])
 (.seq
 (.ops [
 ⟨(some 51), (.p .mov), [.t 11], none⟩,
 ⟨(some 52), (.p .mov), [.t 10], none⟩,
 ⟨(some 53), (.p .len), [.t 52], none⟩,
 ⟨(some 54), (.p (.bin .geq .ifc)), [.t 51, .t 53], none⟩,
 ⟨(some 55), (.p .mov), [.t 54], none⟩,
 ⟨(some 56), (.p .mov), [.t 10], (some (55, false))⟩,
 ⟨(some 57), (.p .mov), [.t 11], (some (55, false))⟩,
 ⟨(some 58), (.p (.iaddr 1)), [.t 56, .t 57], (some (55, false))⟩,
 ⟨(some 59), (.h (.load false 1)), [.t 58], (some (55, false))⟩,
 ⟨(some 60), (.p (.bin .geq .ifc)), [.t 59, .c (.int .i64 0)], (some (55, false))⟩,
 ⟨(some 61), (.p .pick), [.t 55, .c (.bool true), .t 60], none⟩])
 (.cond (.t 61)
 (.seq
 (.ops [
 ⟨(some 6), (.p .mov), [.c (.bool false)], none⟩])
 (.ret [6]))
 .skip)))
 (.ops [
 ⟨(some 49), (.p .mov), [.t 11], none⟩,
 ⟨(some 50), (.p (.bin .add .ifc)), [.t 49, .c (.int .i64 1)], none⟩,
 ⟨(some 11), (.p .mov), [.t 50], none⟩])))
def l12_OwnStarts_L0 : CCode := .bloop 0 [2, 7, 10, 11] [2] l12_OwnStarts_B0
def l12_OwnStarts_C : CCode :=
 (.seq
 (.ops [
 ⟨(some 3), (.h (.box 3)), [.t 0], none⟩,
 ⟨(some 4), (.h (.box 4)), [.t 1], none⟩,
 ⟨(some 6), (.p .mov), [.c (.bool false)], none⟩])
 (.seq
 (.seq
 (.ops [
 ⟨(some 13), .call, [.c (.fn (.func 15) [] [])], none⟩,
 ⟨(some 14), (.p (.un .not)), [.t 13], none⟩,
 ⟨(some 15), (.p .mov), [.t 14], none⟩,
 ⟨(some 16), (.h (.load true 9)), [.t 3], (some (15, false))⟩,
 ⟨(some 17), .call, [.c (.fn (.func 16) [] []), .t 16], (some (15, false))⟩,
 ⟨(some 18), (.p (.un .not)), [.t 17], (some (15, false))⟩,
 ⟨(some 19), (.p .pick), [.t 15, .c (.bool true), .t 18], none⟩,
 ⟨(some 20), (.p .mov), [.t 19], none⟩,
 ⟨(some 21), (.h (.load true 3)), [.t 4], (some (20, false))⟩,
 ⟨(some 22), .call, [.c (.fn (.func 17) [] []), .t 21], (some (20, false))⟩,
 ⟨(some 23), (.p (.un .not)), [.t 22], (some (20, false))⟩,
 ⟨(some 24), (.p .pick), [.t 20, .c (.bool true), .t 23], none⟩])
 (.cond (.t 24)
 (.seq
 (.ops [
 ⟨(some 25), .call, [.c (.fn (.func 15) [] [])], none⟩,
 ⟨(some 6), (.p .mov), [.t 25], none⟩])
 (.ret [6]))
 .skip))
 (.seq
 (.ops [
 ⟨(some 26), (.h (.load true 9)), [.t 3], none⟩,
 ⟨(some 27), .call, [.c (.fn (.func 18) [] []), .t 26], none⟩,
 ⟨(some 7), (.h (.newl 7 [.nils, .nils, .nils, .nils, .nils, (.int .i64 0), (.int .i64 0), (.int .i64 0), (.int .i64 0), (.int .i64 0)])), [], none⟩,
 ⟨none, (.h (.store 10)), [.t 7, .t 27], none⟩])
 (.seq
 (.ops [
 ⟨(some 29), (.h (.load true 10)), [.t 7], none⟩,
 ⟨(some 30), (.h (.load true 3)), [.t 4], none⟩,
 ⟨(some 31), .call, [.c (.fn (.func 19) [] []), .t 29, .t 30], none⟩,
 ⟨(some 28), (.p .mov), [.t 31], none⟩,
 ⟨(some 32), (.p (.ext 0)), [.t 28], none⟩,
 ⟨(some 33), (.p (.ext 1)), [.t 28], none⟩,
 ⟨(some 8), (.p .mov), [.t 32], none⟩,
 ⟨(some 9), (.p .mov), [.t 33], none⟩])
 (.seq
 (.ops [
 ⟨(some 34), (.h (.load true 10)), [.t 7], none⟩,
 ⟨(some 35), (.p (.faddr 2)), [.t 7], none⟩,
 ⟨(some 36), (.h (.load false 1)), [.t 35], none⟩,
 ⟨(some 37), (.p .len), [.t 36], none⟩,
 ⟨(some 38), .call, [.c (.fn (.func 29) [] []), .t 37], none⟩,
 ⟨(some 39), (.h (.load true 10)), [.t 7], none⟩,
 ⟨(some 40), (.h (.load true 3)), [.t 4], none⟩,
 ⟨(some 41), .call, [.c (.fn (.func 23) [] []), .t 39, .t 40], none⟩,
 ⟨(some 42), (.p .mov), [.t 8], none⟩,
 ⟨(some 43), .call, [.c (.fn (.func 22) [] []), .t 34, .t 38, .t 41, .t 42], none⟩,
 ⟨(some 10), (.p .mov), [.t 43], none⟩])
 (.seq
 (.seq
 (.ops [
 ⟨(some 11), (.p .mov), [.c (.int .i64 0)], none⟩])
 l12_OwnStarts_L0)
 (.seq
 (.ops [
 ⟨(some 62), (.p .mov), [.t 2], none⟩,
 ⟨(some 63), (.p (.toInt .i64)), [.t 62], none⟩,
 ⟨(some 12), (.p .mov), [.t 63], none⟩])
 (.seq
 (.seq
 (.ops [
 ⟨(some 64), (.p .mov), [.t 12], none⟩,
 ⟨(some 65), (.p (.bin .lss .ifc)), [.t 64, .c (.int .i64 0)], none⟩])
 (.cond (.t 65)
 (.ops [
 ⟨(some 12), (.p .mov), [.c (.int .i64 0)], none⟩])
 .skip))
 (.seq
 (.ops [
 ⟨(some 66), (.p .mov), [.t 2], none⟩,
 ⟨(some 67), (.p (.toInt .i64)), [.t 66], none⟩,
 ⟨(some 68), .call, [.c (.fn (.func 29) [] []), .t 67], none⟩,
 ⟨(some 69), (.p .len), [.t 68], none⟩,
 ⟨(some 70), (.p .mov), [.t 12], none⟩,
 ⟨(some 71), (.p (.bin .eql .int)), [.t 69, .t 70], none⟩,
 ⟨(some 6), (.p .mov), [.t 71], none⟩])
 (.ret [6]))))))))))
def l12_OwnStarts_I : FInfo := ⟨(.fz false), 3, l12_OwnStarts_C, [.tmp 6]⟩
def l12_OwnStarts_A : Ann := ⟨[], [], [(0, [2, 7, 10, 11], [2])], [(1, [2, 7, 10, 11])], [3, 4, 7]⟩
abbrev n_l12_OwnStarts : Nat := 8

/-! ### balise/baliselaw12.OwnDeclares -/
def l12_OwnDeclares_C : CCode :=
 (.seq
 (.ops [
 ⟨(some 5), (.h (.box 5)), [.t 0], none⟩,
 ⟨(some 6), (.h (.box 6)), [.t 1], none⟩,
 ⟨(some 10), (.p .mov), [.c (.bool false)], none⟩])
 (.seq
 (.seq
 (.ops [
 ⟨(some 19), .call, [.c (.fn (.func 15) [] [])], none⟩,
 ⟨(some 20), (.p (.un .not)), [.t 19], none⟩,
 ⟨(some 21), (.p .mov), [.t 20], none⟩,
 ⟨(some 22), (.h (.load true 9)), [.t 5], (some (21, false))⟩,
 ⟨(some 23), .call, [.c (.fn (.func 16) [] []), .t 22], (some (21, false))⟩,
 ⟨(some 24), (.p (.un .not)), [.t 23], (some (21, false))⟩,
 ⟨(some 25), (.p .pick), [.t 21, .c (.bool true), .t 24], none⟩,
 ⟨(some 26), (.p .mov), [.t 25], none⟩,
 ⟨(some 27), (.h (.load true 3)), [.t 6], (some (26, false))⟩,
 ⟨(some 28), .call, [.c (.fn (.func 17) [] []), .t 27], (some (26, false))⟩,
 ⟨(some 29), (.p (.un .not)), [.t 28], (some (26, false))⟩,
 ⟨(some 30), (.p .pick), [.t 26, .c (.bool true), .t 29], none⟩])
 (.cond (.t 30)
 (.seq
 (.ops [
 ⟨(some 31), .call, [.c (.fn (.func 15) [] [])], none⟩,
 ⟨(some 10), (.p .mov), [.t 31], none⟩])
 (.ret [10]))
 .skip))
 (.seq
 (.ops [
 ⟨(some 32), (.h (.load true 9)), [.t 5], none⟩,
 ⟨(some 33), .call, [.c (.fn (.func 18) [] []), .t 32], none⟩,
 ⟨(some 11), (.h (.newl 11 [.nils, .nils, .nils, .nils, .nils, (.int .i64 0), (.int .i64 0), (.int .i64 0), (.int .i64 0), (.int .i64 0)])), [], none⟩,
 ⟨none, (.h (.store 10)), [.t 11, .t 33], none⟩])
 (.seq
 (.seq
 (.ops [
 ⟨(some 34), (.p .mov), [.t 4], none⟩])
 (.cond (.t 34)
 (.ops [
 ⟨(some 35), (.p .mov), [.t 2], none⟩,
 ⟨(some 36), (.p (.faddr 2)), [.t 11], none⟩,
 ⟨(some 37), (.h (.load false 1)), [.t 36], none⟩,
 ⟨(some 38), (.p .len), [.t 37], none⟩,
 ⟨(some 39), (.p (.bin .rem .ifc)), [.t 35, .t 38], none⟩,
 ⟨(some 40), (.p .mov), [.t 3], none⟩,
 ⟨(some 41), (.p (.bin .rem .ifc)), [.t 40, .c (.int .i64 4)], none⟩,
 ⟨(some 2), (.p .mov), [.t 39], none⟩,
 ⟨(some 3), (.p .mov), [.t 41], none⟩])
 .skip))
 (.seq
 (.ops [
 ⟨(some 43), (.h (.load true 10)), [.t 11], none⟩,
 ⟨(some 44), (.h (.load true 3)), [.t 6], none⟩,
 ⟨(some 45), .call, [.c (.fn (.func 19) [] []), .t 43, .t 44], none⟩,
 ⟨(some 42), (.p .mov), [.t 45], none⟩,
 ⟨(some 46), (.p (.ext 0)), [.t 42], none⟩,
 ⟨(some 47), (.p (.ext 1)), [.t 42], none⟩,
 ⟨(some 12), (.p .mov), [.t 46], none⟩,
 ⟨(some 13), (.p .mov), [.t 47], none⟩])
 (.seq
 (.ops [
 ⟨(some 48), (.h (.load true 10)), [.t 11], none⟩,
 ⟨(some 49), (.h (.load true 3)), [.t 6], none⟩,
 ⟨(some 50), .call, [.c (.fn (.func 20) [] []), .t 48, .t 49], none⟩,
 ⟨(some 14), (.p .mov), [.t 50], none⟩])
 (.seq
 (.ops [
 ⟨(some 52), (.h (.load true 10)), [.t 11], none⟩,
 ⟨(some 53), (.p .mov), [.t 14], none⟩,
 ⟨(some 54), (.h (.load true 10)), [.t 11], none⟩,
 ⟨(some 55), (.h (.load true 3)), [.t 6], none⟩,
 ⟨(some 56), .call, [.c (.fn (.func 23) [] []), .t 54, .t 55], none⟩,
 ⟨(some 57), (.p .mov), [.t 12], none⟩,
 ⟨(some 58), (.p .mov), [.t 2], none⟩,
 ⟨(some 59), (.p .mov), [.t 3], none⟩,
 ⟨(some 60), .call, [.c (.fn (.func 30) [] []), .t 52, .t 53, .t 56, .t 57, .t 58, .t 59], none⟩,
 ⟨(some 51), (.p .mov), [.t 60], none⟩,
 ⟨(some 61), (.p (.ext 0)), [.t 51], none⟩,
 ⟨(some 62), (.p (.ext 1)), [.t 51], none⟩,
 ⟨(some 15), (.p .mov), [.t 61], none⟩,
 ⟨(some 16), (.p .mov), [.t 62], none⟩])
 (.seq
 (.ops [
 ⟨(some 64), (.h (.load true 10)), [.t 11], none⟩,
 ⟨(some 65), (.p .mov), [.t 14], none⟩,
 ⟨(some 66), (.h (.load true 10)), [.t 11], none⟩,
 ⟨(some 67), (.h (.load true 3)), [.t 6], none⟩,
 ⟨(some 68), .call, [.c (.fn (.func 23) [] []), .t 66, .t 67], none⟩,
 ⟨(some 69), (.p .mov), [.t 13], none⟩,
 ⟨(some 70), (.p .mov), [.t 2], none⟩,
 ⟨(some 71), (.p .mov), [.t 3], none⟩,
 ⟨(some 72), .call, [.c (.fn (.func 31) [] []), .t 64, .t 65, .t 68, .t 69, .t 70, .t 71], none⟩,
 ⟨(some 63), (.p .mov), [.t 72], none⟩,
 ⟨(some 73), (.p (.ext 0)), [.t 63], none⟩,
 ⟨(some 74), (.p (.ext 1)), [.t 63], none⟩,
 ⟨(some 17), (.p .mov), [.t 73], none⟩,
 ⟨(some 18), (.p .mov), [.t 74], none⟩])
 (.seq
 (.ops [
 ⟨(some 75), (.p .mov), [.t 15], none⟩,
 ⟨(some 76), (.p .mov), [.t 17], none⟩,
 ⟨(some 77), .call, [.c (.fn (.func 21) [] []), .t 75, .t 76], none⟩,
 ⟨(some 78), (.p .mov), [.t 77], none⟩,
 ⟨(some 79), (.p .mov), [.t 16], (some (78, true))⟩,
 ⟨(some 80), (.p .mov), [.t 18], (some (78, true))⟩,
 ⟨(some 81), (.p (.bin .eql .int)), [.t 79, .t 80], (some (78, true))⟩,
 ⟨(some 82), (.p .pick), [.t 78, .t 81, .c (.bool false)], none⟩,
 ⟨(some 83), (.p .mov), [.t 82], none⟩,
 ⟨(some 84), (.p .mov), [.t 16], (some (83, true))⟩,
 ⟨(some 85), (.p (.bin .eql .int)), [.t 84, .c (.int .i64 0)], (some (83, true))⟩,
 ⟨(some 86), (.p .mov), [.t 85], (some (83, true))⟩,
 ⟨(some 87), (.p .mov), [.t 15], (some (86, false))⟩,
 ⟨(some 88), (.p .mov), [.t 14], (some (86, false))⟩,
 ⟨(some 89), .call, [.c (.fn (.func 21) [] []), .t 87, .t 88], (some (86, false))⟩,
 ⟨(some 90), (.p .pick), [.t 86, .c (.bool true), .t 89], (some (83, true))⟩,
 ⟨(some 91), (.p .pick), [.t 83, .t 90, .c (.bool false)], none⟩,
 ⟨(some 92), (.p .mov), [.t 91], none⟩,
 ⟨(some 93), (.p .mov), [.t 14], (some (92, true))⟩,
 ⟨(some 94), (.h (.load true 10)), [.t 11], (some (92, true))⟩,
 ⟨(some 95), (.h (.load true 3)), [.t 6], (some (92, true))⟩,
 ⟨(some 96), .call, [.c (.fn (.func 20) [] []), .t 94, .t 95], (some (92, true))⟩,
 ⟨(some 97), .call, [.c (.fn (.func 21) [] []), .t 93, .t 96], (some (92, true))⟩,
 ⟨(some 98), (.p .pick), [.t 92, .t 97, .c (.bool false)], none⟩,
 ⟨(some 10), (.p .mov), [.t 98], none⟩])
 (.ret [10]))))))))))
def l12_OwnDeclares_I : FInfo := ⟨(.fz false), 5, l12_OwnDeclares_C, [.tmp 10]⟩
def l12_OwnDeclares_A : Ann := ⟨[], [], [], [], [5, 6, 11]⟩
abbrev n_l12_OwnDeclares : Nat := 9

/-! ### balise/baliselaw12.comes -/
def l12_comes_C : CCode :=
 (.seq
 (.ops [
 ⟨(some 0), (.p .mov), [.c (.bool false)], none⟩])
 (.seq
 (.ops [
 ⟨(some 3), (.p (.bld [(.int .u8 0), (.int .u8 0), (.int .u8 0), (.int .u16 0), (.int .u16 0), (.int .u8 0), (.int .u8 0), (.int .u8 0), .nils] [])), [], none⟩,
 ⟨(some 4), .call, [.c (.fn (.func 47) [] []), .t 3], none⟩,
 ⟨(some 1), (.h (.newl 1 [.nils, .nils, .nils, .nils, .nils, (.int .i64 0), (.int .i64 0), (.int .i64 0), (.int .i64 0), (.int .i64 0)])), [], none⟩,
 ⟨none, (.h (.store 10)), [.t 1, .t 4], none⟩])
 (.seq
 (.seq
 (.ops [
 ⟨(some 5), (.p (.faddr 2)), [.t 1], none⟩,
 ⟨(some 6), (.h (.load false 1)), [.t 5], none⟩,
 ⟨(some 7), (.p .len), [.t 6], none⟩,
 ⟨(some 8), (.p (.bin .neq .int)), [.t 7, .c (.int .i64 3)], none⟩])
 (.cond (.t 8)
 (.seq
 (.ops [
 ⟨(some 0), (.p .mov), [.c (.bool false)], none⟩])
 (.ret [0]))
 .skip))
 (.seq
 (.ops [
 ⟨(some 9), (.h (.bslF 1 2 [(.int .i64 0)] [(0, 1), (1, 1)])), [.c (.int .i64 1), .c (.int .i64 0)], none⟩,
 ⟨(some 10), (.p (.bld [(.int .i64 0), (.bool false), .nils] [(0, 1), (1, 1), (2, 1)])), [.c (.int .i64 3), .c (.bool true), .t 9], none⟩,
 ⟨(some 11), (.h (.bslF 3 1 [(.int .i64 0), (.bool false), .nils] [(0, 3)])), [.t 10], none⟩,
 ⟨(some 2), (.p .mov), [.t 11], none⟩])
 (.seq
 (.ops [
 ⟨(some 12), (.h (.load true 10)), [.t 1], none⟩,
 ⟨(some 13), (.h (.bslF 1 3 [(.int .i64 0)] [(0, 1), (1, 1), (2, 1)])), [.c (.int .i64 3), .c (.int .i64 (-2)), .c (.int .i64 (-2))], none⟩,
 ⟨(some 14), (.h (.bslF 1 3 [(.bool false)] [(0, 1), (1, 1), (2, 1)])), [.c (.bool false), .c (.bool false), .c (.bool true)], none⟩,
 ⟨(some 15), (.p .mov), [.t 2], none⟩,
 ⟨(some 16), .call, [.c (.fn (.func 22) [] []), .t 12, .t 13, .t 14, .t 15], none⟩,
 ⟨(some 17), (.h (.bslF 1 3 [(.int .i64 0)] [(0, 1), (1, 1), (2, 1)])), [.c (.int .i64 3), .c (.int .i64 3), .c (.int .i64 (-2))], none⟩,
 ⟨(some 18), .call, [.c (.fn (.func 21) [] []), .t 16, .t 17], none⟩,
 ⟨(some 0), (.p .mov), [.t 18], none⟩])
 (.ret [0]))))))
def l12_comes_I : FInfo := ⟨(.fz false), 0, l12_comes_C, [.tmp 0]⟩
def l12_comes_A : Ann := ⟨[], [], [], [], [1]⟩
abbrev n_l12_comes : Nat := 15

/-! ### balise/baliseref04.Small -/
def r04_Small_B0 : CCode :=
 (.seq
 (.seq
 (.ops [
 ⟨(some 4), (.p .mov), [.t 3], none⟩,
 ⟨(some 5), (.p (.faddr 8)), [.t 1], none⟩,
 ⟨(some 6), (.h (.load false 1)), [.t 5], none⟩,
 ⟨(some 7), (.p .len), [.t 6], none⟩,
 ⟨(some 8), (.p (.bin .lss .ifc)), [.t 4, .t 7], none⟩])
 (.cond (.t 8)
 .skip
 (.exit 0)))
 (.seq
 (.block 1 (some [1, 3])
 (.seq
 (.ops [
 ⟨(some 11), (.p (.faddr 8)), [.t 1], none⟩,
 ⟨(some 12), (.h (.load false 1)), [.t 11], none⟩,
 ⟨(some 13), (.p .mov), [.t 3], none⟩,
 ⟨(some 14), (.p (.iaddr 1)), [.t 12, .t 13], none⟩,
 ⟨(some 15), (.h (.load false 1)), [.t 14], none⟩,
 ⟨(some 16), (.p .len), [.t 15], none⟩,
 ⟨(some 17), (.p (.bin .gtr .ifc)), [.t 16, .c (.int .i64 10)], none⟩])
 (.cond (.t 17)
 (.seq
 (.ops [
 ⟨(some 2), (.p .mov), [.c (.bool false)], none⟩])
 (.ret [2]))
 .skip)))
 (.ops [
 ⟨(some 9), (.p .mov), [.t 3], none⟩,
 ⟨(some 10), (.p (.bin .add .ifc)), [.t 9, .c (.int .i64 1)], none⟩,
 ⟨(some 3), (.p .mov), [.t 10], none⟩])))
def r04_Small_L0 : CCode := .bloop 0 [1, 3] [1] r04_Small_B0
def r04_Small_C : CCode :=
 (.seq
 (.ops [
 ⟨(some 1), (.h (.box 1)), [.t 0], none⟩,
 ⟨(some 2), (.p .mov), [.c (.bool false)], none⟩])
 (.seq
 (.seq
 (.ops [
 ⟨(some 3), (.p .mov), [.c (.int .i64 0)], none⟩])
 r04_Small_L0)
 (.seq
 (.ops [
 ⟨(some 18), (.p (.faddr 8)), [.t 1], none⟩,
 ⟨(some 19), (.h (.load false 1)), [.t 18], none⟩,
 ⟨(some 20), (.p .len), [.t 19], none⟩,
 ⟨(some 21), (.p (.bin .leq .ifc)), [.t 20, .c (.int .i64 20)], none⟩,
 ⟨(some 2), (.p .mov), [.t 21], none⟩])
 (.ret [2]))))
def r04_Small_I : FInfo := ⟨(.fz false), 1, r04_Small_C, [.tmp 2]⟩
def r04_Small_A : Ann := ⟨[], [], [(0, [1, 3], [1])], [(1, [1, 3])], [1]⟩
abbrev n_r04_Small : Nat := 16

/-! ### balise/baliselaw12.few -/
def l12_few_B0 : CCode :=
 (.seq
 (.seq
 (.ops [
 ⟨(some 4), (.p .mov), [.t 3], none⟩,
 ⟨(some 5), (.p (.faddr 2)), [.t 1], none⟩,
 ⟨(some 6), (.h (.load false 1)), [.t 5], none⟩,
 ⟨(some 7), (.p .len), [.t 6], none⟩,
 ⟨(some 8), (.p (.bin .lss .ifc)), [.t 4, .t 7], none⟩])
 (.cond (.t 8)
 .skip
 (.exit 0)))
 (.seq
 (.block 1 (some [1, 3])
 (.seq
 (.ops [
 ⟨(some 11), (.p (.faddr 2)), [.t 1], none⟩,
 ⟨(some 12), (.h (.load false 1)), [.t 11], none⟩,
 ⟨(some 13), (.p .mov), [.t 3], none⟩,
 ⟨(some 14), (.p (.iaddr 3)), [.t 12, .t 13], none⟩,
 ⟨(some 15), (.p (.faddr 2)), [.t 14], none⟩,
 ⟨(some 16), (.h (.load false 1)), [.t 15], none⟩,
 ⟨(some 17), (.p .len), [.t 16], none⟩,
 ⟨(some 18), (.p (.bin .gtr .ifc)), [.t 17, .c (.int .i64 14)], none⟩])
 (.cond (.t 18)
 (.seq
 (.ops [
 ⟨(some 2), (.p .mov), [.c (.bool false)], none⟩])
 (.ret [2]))
 .skip)))
 (.ops [
 ⟨(some 9), (.p .mov), [.t 3], none⟩,
 ⟨(some 10), (.p (.bin .add .ifc)), [.t 9, .c (.int .i64 1)], none⟩,
 ⟨(some 3), (.p .mov), [.t 10], none⟩])))
def l12_few_L0 : CCode := .bloop 0 [1, 3] [1] l12_few_B0
def l12_few_C : CCode :=
 (.seq
 (.ops [
 ⟨(some 1), (.h (.box 1)), [.t 0], none⟩,
 ⟨(some 2), (.p .mov), [.c (.bool false)], none⟩])
 (.seq
 (.seq
 (.ops [
 ⟨(some 3), (.p .mov), [.c (.int .i64 0)], none⟩])
 l12_few_L0)
 (.seq
 (.ops [
 ⟨(some 19), (.p (.faddr 2)), [.t 1], none⟩,
 ⟨(some 20), (.h (.load false 1)), [.t 19], none⟩,
 ⟨(some 21), (.p .len), [.t 20], none⟩,
 ⟨(some 22), (.p (.bin .leq .ifc)), [.t 21, .c (.int .i64 6)], none⟩,
 ⟨(some 2), (.p .mov), [.t 22], none⟩])
 (.ret [2]))))
def l12_few_I : FInfo := ⟨(.fz false), 1, l12_few_C, [.tmp 2]⟩
def l12_few_A : Ann := ⟨[], [], [(0, [1, 3], [1])], [(1, [1, 3])], [1]⟩
abbrev n_l12_few : Nat := 17

/-! ### balise/baliseref05.Full -/
def r05_Full_B0 : CCode :=
 (.seq
 (.seq
 (.ops [
 ⟨(some 9), (.p .mov), [.t 4], none⟩,
 ⟨(some 10), (.p (.faddr 8)), [.t 1], none⟩,
 ⟨(some 11), (.h (.load false 1)), [.t 10], none⟩,
 ⟨(some 12), (.p .len), [.t 11], none⟩,
 ⟨(some 13), (.p (.bin .lss .ifc)), [.t 9, .t 12], none⟩,
 ⟨(some 14), (.p .mov), [.t 13], none⟩,
 ⟨(some 15), (.p (.faddr 4)), [.t 3], (some (14, true))⟩,
 ⟨(some 16), (.h (.load false 1)), [.t 15], (some (14, true))⟩,
 ⟨(some 17), (.p .len), [.t 16], (some (14, true))⟩,
 ⟨(some 18), (.p (.bin .lss .ifc)), [.t 17, .c (.int .i64 16)], (some (14, true))⟩,
 ⟨(some 19), (.p .pick), [.t 14, .t 18, .c (.bool false)], none⟩])
 (.cond (.t 19)
 .skip
 (.exit 0)))
 (.seq
 (.block 1 (some [1, 2, 3, 4])
 (.seq
 (.ops [
 ⟨(some 22), (.p (.faddr 8)), [.t 1], none⟩,
 ⟨(some 23), (.h (.load false 1)), [.t 22], none⟩,
 ⟨(some 24), (.p .mov), [.t 4], none⟩,
 ⟨(some 25), (.p (.iaddr 1)), [.t 23, .t 24], none⟩,
 ⟨(some 26), (.h (.load false 1)), [.t 25], none⟩,
 ⟨(some 5), (.p .mov), [.t 26], none⟩])
 (.seq
 (.seq
 (.ops [
 ⟨(some 27), (.p .mov), [.t 5], none⟩,
 ⟨(some 28), (.p .len), [.t 27], none⟩,
 ⟨(some 29), (.p (.bin .lss .ifc)), [.t 28, .c (.int .i64 2)], none⟩])
 (.cond (.t 29)
 (.exit 1)
 .skip))
 (.seq
 (.ops [
 ⟨(some 30), (.h (.load true 10)), [.t 3], none⟩,
 ⟨(some 31), (.p .mov), [.t 5], none⟩,
 ⟨(some 32), (.p (.iaddr 1)), [.t 31, .c (.int .i64 0)], none⟩,
 ⟨(some 33), (.h (.load false 1)), [.t 32], none⟩,
 ⟨(some 34), (.p (.toInt .i64)), [.t 33], none⟩,
 ⟨(some 35), (.p (.faddr 1)), [.t 3], none⟩,
 ⟨(some 36), (.h (.load false 1)), [.t 35], none⟩,
 ⟨(some 37), (.p .len), [.t 36], none⟩,
 ⟨(some 38), (.p (.bin .rem .ifc)), [.t 34, .t 37], none⟩,
 ⟨(some 39), (.p .mov), [.t 5], none⟩,
 ⟨(some 40), (.p (.iaddr 1)), [.t 39, .c (.int .i64 0)], none⟩,
 ⟨(some 41), (.h (.load false 1)), [.t 40], none⟩,
 ⟨(some 42), (.p (.bin .quo .ifc)), [.t 41, .c (.int .u8 128)], none⟩,
 ⟨(some 43), (.p (.toInt .i64)), [.t 42], none⟩,
 ⟨(some 44), (.p .mov), [.t 5], none⟩,
 ⟨(some 45), (.p (.slc 1 true false)), [.t 44, .c (.int .i64 2)], none⟩,
 ⟨(some 46), (.p .mov), [.t 5], none⟩,
 ⟨(some 47), (.p (.iaddr 1)), [.t 46, .c (.int .i64 1)], none⟩,
 ⟨(some 48), (.h (.load false 1)), [.t 47], none⟩,
 ⟨(some 49), (.p (.bin .rem .ifc)), [.t 48, .c (.int .u8 5)], none⟩,
 ⟨(some 50), (.p (.toInt .i64)), [.t 49], none⟩,
 ⟨(some 51), (.p (.bin .add .ifc)), [.c (.int .i64 2), .t 50], none⟩,
 ⟨(some 52), .call, [.c (.fn (.func 48) [] []), .t 30, .t 38, .t 43, .t 45, .t 51], none⟩,
 ⟨(some 6), (.p .mov), [.t 52], none⟩])
 (.seq
 (.ops [
 ⟨(some 53), (.p .mov), [.t 6], none⟩,
 ⟨(some 54), (.p .len), [.t 53], none⟩,
 ⟨(some 55), (.p (.bin .geq .ifc)), [.t 54, .c (.int .i64 2)], none⟩])
 (.cond (.t 55)
 (.ops [
 ⟨(some 56), (.p (.faddr 4)), [.t 3], none⟩,
 ⟨(some 57), (.h (.load false 1)), [.t 56], none⟩,
 ⟨(some 58), (.p .mov), [.t 6], none⟩,
 ⟨(some 59), (.h (.bslF 1 1 [.nils] [(0, 1)])), [.t 58], none⟩,
 ⟨(some 60), (.h (.app 1 24 [.nils])), [.t 57, .t 59], none⟩,
 ⟨(some 61), (.p (.faddr 4)), [.t 3], none⟩,
 ⟨none, (.h (.store 1)), [.t 61, .t 60], none⟩])
 .skip))))))
 (.ops [
 ⟨(some 20), (.p .mov), [.t 4], none⟩,
 ⟨(some 21), (.p (.bin .add .ifc)), [.t 20, .c (.int .i64 1)], none⟩,
 ⟨(some 4), (.p .mov), [.t 21], none⟩])))
def r05_Full_L0 : CCode := .bloop 0 [1, 2, 3, 4] [2, 3] r05_Full_B0
def r05_Full_C : CCode :=
 (.seq
 (.ops [
 ⟨(some 1), (.h (.box 1)), [.t 0], none⟩,
 ⟨(some 2), (.h (.newl 2 [.nils, .nils, .nils, .nils, .nils, (.int .i64 0), (.int .i64 0), (.int .i64 0), (.int .i64 0), (.int .i64 0)])), [], none⟩])
 (.seq
 (.ops [
 ⟨(some 7), (.h (.load true 9)), [.t 1], none⟩,
 ⟨(some 8), .call, [.c (.fn (.func 47) [] []), .t 7], none⟩,
 ⟨(some 3), (.h (.newl 3 [.nils, .nils, .nils, .nils, .nils, (.int .i64 0), (.int .i64 0), (.int .i64 0), (.int .i64 0), (.int .i64 0)])), [], none⟩,
 ⟨none, (.h (.store 10)), [.t 3, .t 8], none⟩])
 (.seq
 (.seq
 (.ops [
 ⟨(some 4), (.p .mov), [.c (.int .i64 0)], none⟩])
 r05_Full_L0)
 (.seq
 (.ops [
 ⟨(some 62), (.h (.load true 10)), [.t 3], none⟩,
 ⟨none, (.h (.store 10)), [.t 2, .t 62], none⟩])
 (.ret [2])))))
def r05_Full_I : FInfo := ⟨(.fz false), 1, r05_Full_C, [.cell 2 true 10]⟩
def r05_Full_A : Ann := ⟨[], [], [(0, [1, 2, 3, 4], [2, 3])], [(1, [1, 2, 3, 4])], [1, 2, 3]⟩
abbrev n_r05_Full : Nat := 18

/-! ### balise/baliselaw12.views -/
def l12_views_B2 : CCode :=
 (.seq
 (.seq
 (.ops [
 ⟨(some 37), (.p .mov), [.t 13], none⟩,
 ⟨(some 38), (.p (.faddr 2)), [.t 3], none⟩,
 ⟨(some 39), (.h (.load false 1)), [.t 38], none⟩,
 ⟨(some 40), (.p .mov), [.t 8], none⟩,
 ⟨(some 41), (.p (.iaddr 3)), [.t 39, .t 40], none⟩,
 ⟨(some 42), (.p (.faddr 2)), [.t 41], none⟩,
 ⟨(some 43), (.h (.load false 1)), [.t 42], none⟩,
 ⟨(some 44), (.p .len), [.t 43], none⟩,
 ⟨(some 45), (.p (.bin .lss .ifc)), [.t 37, .t 44], none⟩])
 (.cond (.t 45)
 .skip
 (.exit 2)))
 (.seq
 (.block 3 (some [2, 3, 6, 7, 8, 9, 12, 13])
 (.seq
 (.ops [
 ⟨(some 48), (.p (.faddr 2)), [.t 3], none⟩,
 ⟨(some 49), (.h (.load false 1)), [.t 48], none⟩,
 ⟨(some 50), (.p .mov), [.t 8], none⟩,
 ⟨(some 51), (.p (.iaddr 3)), [.t 49, .t 50], none⟩,
 ⟨(some 52), (.p (.faddr 2)), [.t 51], none⟩,
 ⟨(some 53), (.h (.load false 1)), [.t 52], none⟩,
 ⟨(some 54), (.p .mov), [.t 13], none⟩,
 ⟨(some 55), (.p (.iaddr 1)), [.t 53, .t 54], none⟩,
 ⟨(some 56), (.h (.load false 1)), [.t 55], none⟩,
 ⟨(some 57), (.p (.toInt .i64)), [.t 56], none⟩,
 ⟨(some 58), (.p (.faddr 1)), [.t 2], none⟩,
 ⟨(some 59), (.h (.load false 1)), [.t 58], none⟩,
 ⟨(some 60), (.p .len), [.t 59], none⟩,
 ⟨(some 61), (.p (.bin .rem .ifc)), [.t 57, .t 60], none⟩,
 ⟨(some 14), (.p .mov), [.t 61], none⟩])
 (.seq
 (.ops [
 ⟨(some 62), (.p .mov), [.t 12], none⟩,
 ⟨(some 63), (.p .mov), [.t 14], none⟩,
 ⟨(some 64), .call, [.c (.fn (.func 49) [] []), .t 62, .t 63], none⟩,
 ⟨(some 65), (.p (.un .not)), [.t 64], none⟩])
 (.cond (.t 65)
 (.ops [
 ⟨(some 66), (.p .mov), [.t 12], none⟩,
 ⟨(some 67), (.p .mov), [.t 14], none⟩,
 ⟨(some 68), (.h (.bslF 1 1 [(.int .i64 0)] [(0, 1)])), [.t 67], none⟩,
 ⟨(some 69), (.h (.app 1 8 [(.int .i64 0)])), [.t 66, .t 68], none⟩,
 ⟨(some 12), (.p .mov), [.t 69], none⟩])
 .skip))))
 (.ops [
 ⟨(some 46), (.p .mov), [.t 13], none⟩,
 ⟨(some 47), (.p (.bin .add .ifc)), [.t 46, .c (.int .i64 1)], none⟩,
 ⟨(some 13), (.p .mov), [.t 47], none⟩])))
def l12_views_L2 : CCode := .bloop 2 [2, 3, 6, 7, 8, 9, 12, 13] [2, 3, 6, 7, 8, 9, 12] l12_views_B2

def l12_views_B0 : CCode :=
 (.seq
 (.seq
 (.ops [
 ⟨(some 15), (.p .mov), [.t 8], none⟩,
 ⟨(some 16), (.p (.faddr 2)), [.t 3], none⟩,
 ⟨(some 17), (.h (.load false 1)), [.t 16], none⟩,
 ⟨(some 18), (.p .len), [.t 17], none⟩,
 ⟨(some 19), (.p (.bin .lss .ifc)), [.t 15, .t 18], none⟩])
 (.cond (.t 19)
 .skip
 (.exit 0)))
 (.seq
 (.block 1 (some [2, 3, 6, 7, 8])
 (.seq
 (.ops [
 ⟨(some 22), (.p (.faddr 2)), [.t 3], none⟩,
 ⟨(some 23), (.h (.load false 1)), [.t 22], none⟩,
 ⟨(some 24), (.p .mov), [.t 8], none⟩,
 ⟨(some 25), (.p (.iaddr 3)), [.t 23, .t 24], none⟩,
 ⟨(some 26), (.p (.faddr 0)), [.t 25], none⟩,
 ⟨(some 27), (.h (.load false 1)), [.t 26], none⟩,
 ⟨(some 28), (.p (.bin .rem .ifc)), [.t 27, .c (.int .u8 4)], none⟩,
 ⟨(some 29), (.p (.toInt .i64)), [.t 28], none⟩,
 ⟨(some 9), (.p .mov), [.t 29], none⟩])
 (.seq
 (.ops [
 ⟨(some 31), (.p .mov), [.t 7], none⟩,
 ⟨(some 32), (.p .mov), [.t 9], none⟩,
 ⟨(some 33), .call, [.c (.fn (.func 25) [] []), .t 31, .t 32], none⟩,
 ⟨(some 30), (.p .mov), [.t 33], none⟩,
 ⟨(some 34), (.p (.ext 0)), [.t 30], none⟩,
 ⟨(some 35), (.p (.ext 1)), [.t 30], none⟩,
 ⟨(some 10), (.h (.newl 10 [(.int .i64 0), (.bool false), .nils])), [], none⟩,
 ⟨none, (.h (.store 3)), [.t 10, .t 34], none⟩,
 ⟨(some 11), (.p .mov), [.t 35], none⟩])
 (.seq
 (.seq
 (.ops [
 ⟨(some 36), (.p .mov), [.t 11], none⟩])
 (.cond (.t 36)
 (.exit 1)
 .skip))
 (.seq
 (.ops [
 ⟨(some 12), (.p .mov), [.c .nils], none⟩])
 (.seq
 (.seq
 (.ops [
 ⟨(some 13), (.p .mov), [.c (.int .i64 0)], none⟩])
 l12_views_L2)
 (.seq
 (.ops [
 ⟨(some 70), (.p .mov), [.t 6], none⟩,
 ⟨(some 71), (.p .mov), [.t 9], none⟩,
 ⟨(some 72), (.p (.faddr 2)), [.t 3], none⟩,
 ⟨(some 73), (.h (.load false 1)), [.t 72], none⟩,
 ⟨(some 74), (.p .mov), [.t 8], none⟩,
 ⟨(some 75), (.p (.iaddr 3)), [.t 73, .t 74], none⟩,
 ⟨(some 76), (.p (.faddr 1)), [.t 75], none⟩,
 ⟨(some 77), (.h (.load false 1)), [.t 76], none⟩,
 ⟨(some 78), (.p .mov), [.t 12], none⟩,
 ⟨(some 79), (.p (.bld [(.int .i64 0), (.bool false), .nils] [(0, 1), (1, 1), (2, 1)])), [.t 71, .t 77, .t 78], none⟩,
 ⟨(some 80), (.h (.bslO 3 1 [(.int .i64 0), (.bool false), .nils] [(0, 3)])), [.t 79], none⟩,
 ⟨(some 81), (.h (.app 3 40 [(.int .i64 0), (.bool false), .nils])), [.t 70, .t 80], none⟩,
 ⟨(some 6), (.p .mov), [.t 81], none⟩])
 (.ops [
 ⟨(some 82), (.p .mov), [.t 7], none⟩,
 ⟨(some 83), (.p .mov), [.t 9], none⟩,
 ⟨(some 84), (.p (.faddr 2)), [.t 3], none⟩,
 ⟨(some 85), (.h (.load false 1)), [.t 84], none⟩,
 ⟨(some 86), (.p .mov), [.t 8], none⟩,
 ⟨(some 87), (.p (.iaddr 3)), [.t 85, .t 86], none⟩,
 ⟨(some 88), (.p (.faddr 1)), [.t 87], none⟩,
 ⟨(some 89), (.h (.load false 1)), [.t 88], none⟩,
 ⟨(some 90), (.p .mov), [.t 12], none⟩,
 ⟨(some 91), (.p (.bld [(.int .i64 0), (.bool false), .nils] [(0, 1), (1, 1), (2, 1)])), [.t 83, .t 89, .t 90], none⟩,
 ⟨(some 92), (.h (.bslO 3 1 [(.int .i64 0), (.bool false), .nils] [(0, 3)])), [.t 91], none⟩,
 ⟨(some 93), (.h (.app 3 40 [(.int .i64 0), (.bool false), .nils])), [.t 82, .t 92], none⟩,
 ⟨(some 7), (.p .mov), [.t 93], none⟩]))))))))
 (.ops [
 ⟨(some 20), (.p .mov), [.t 8], none⟩,
 ⟨(some 21), (.p (.bin .add .ifc)), [.t 20, .c (.int .i64 1)], none⟩,
 ⟨(some 8), (.p .mov), [.t 21], none⟩])))
def l12_views_L0 : CCode := .bloop 0 [2, 3, 6, 7, 8] [6, 7] l12_views_B0
def l12_views_C : CCode :=
 (.seq
 (.ops [
 ⟨(some 2), (.h (.box 2)), [.t 0], none⟩,
 ⟨(some 3), (.h (.box 3)), [.t 1], none⟩,
 ⟨(some 4), (.p .mov), [.c .nils], none⟩,
 ⟨(some 5), (.p .mov), [.c .nils], none⟩])
 (.seq
 (.ops [
 ⟨(some 6), (.p .mov), [.c .nils], none⟩])
 (.seq
 (.ops [
 ⟨(some 7), (.p .mov), [.c .nils], none⟩])
 (.seq
 (.seq
 (.ops [
 ⟨(some 8), (.p .mov), [.c (.int .i64 0)], none⟩])
 l12_views_L0)
 (.seq
 (.ops [
 ⟨(some 94), (.p .mov), [.t 6], none⟩,
 ⟨(some 95), (.p .mov), [.t 7], none⟩,
 ⟨(some 4), (.p .mov), [.t 94], none⟩,
 ⟨(some 5), (.p .mov), [.t 95], none⟩])
 (.ret [4, 5]))))))
def l12_views_I : FInfo := ⟨(.fz false), 2, l12_views_C, [.tmp 4, .tmp 5]⟩
def l12_views_A : Ann := ⟨[], [80, 92], [(0, [2, 3, 6, 7, 8], [6, 7]), (2, [2, 3, 6, 7, 8, 9, 12, 13], [2, 3, 6, 7, 8, 9, 12])], [(1, [2, 3, 6, 7, 8]), (3, [2, 3, 6, 7, 8, 9, 12, 13])], [2, 3, 10]⟩
abbrev n_l12_views : Nat := 19

/-! ### balise/baliselaw12.owners -/
def l12_owners_B0 : CCode :=
 (.seq
 (.seq
 (.ops [
 ⟨(some 8), (.p .mov), [.t 6], none⟩,
 ⟨(some 9), (.p (.faddr 2)), [.t 2], none⟩,
 ⟨(some 10), (.h (.load false 1)), [.t 9], none⟩,
 ⟨(some 11), (.p .len), [.t 10], none⟩,
 ⟨(some 12), (.p (.bin .lss .ifc)), [.t 8, .t 11], none⟩])
 (.cond (.t 12)
 .skip
 (.exit 0)))
 (.seq
 (.block 1 (some [2, 3, 5, 6])
 (.seq
 (.ops [
 ⟨(some 7), (.p .mov), [.c (.int .i64 0)], none⟩])
 (.seq
 (.seq
 (.ops [
 ⟨(some 15), (.p .mov), [.t 6], none⟩,
 ⟨(some 16), (.p (.faddr 0)), [.t 3], none⟩,
 ⟨(some 17), (.h (.load false 1)), [.t 16], none⟩,
 ⟨(some 18), (.p .len), [.t 17], none⟩,
 ⟨(some 19), (.p (.bin .lss .ifc)), [.t 15, .t 18], none⟩])
 (.cond (.t 19)
 (.ops [
 ⟨(some 20), (.p (.faddr 0)), [.t 3], none⟩,
 ⟨(some 21), (.h (.load false 1)), [.t 20], none⟩,
 ⟨(some 22), (.p .mov), [.t 6], none⟩,
 ⟨(some 23), (.p (.iaddr 1)), [.t 21, .t 22], none⟩,
 ⟨(some 24), (.h (.load false 1)), [.t 23], none⟩,
 ⟨(some 25), (.p (.bin .rem .ifc)), [.t 24, .c (.int .u8 5)], none⟩,
 ⟨(some 26), (.p (.toInt .i64)), [.t 25], none⟩,
 ⟨(some 7), (.p .mov), [.t 26], none⟩])
 .skip))
 (.ops [
 ⟨(some 27), (.p .mov), [.t 5], none⟩,
 ⟨(some 28), (.p .mov), [.t 7], none⟩,
 ⟨(some 29), (.p (.bin .sub .ifc)), [.t 28, .c (.int .i64 2)], none⟩,
 ⟨(some 30), (.h (.bslF 1 1 [(.int .i64 0)] [(0, 1)])), [.t 29], none⟩,
 ⟨(some 31), (.h (.app 1 8 [(.int .i64 0)])), [.t 27, .t 30], none⟩,
 ⟨(some 5), (.p .mov), [.t 31], none⟩]))))
 (.ops [
 ⟨(some 13), (.p .mov), [.t 6], none⟩,
 ⟨(some 14), (.p (.bin .add .ifc)), [.t 13, .c (.int .i64 1)], none⟩,
 ⟨(some 6), (.p .mov), [.t 14], none⟩])))
def l12_owners_L0 : CCode := .bloop 0 [2, 3, 5, 6] [5] l12_owners_B0
def l12_owners_C : CCode :=
 (.seq
 (.ops [
 ⟨(some 2), (.h (.box 2)), [.t 0], none⟩,
 ⟨(some 3), (.h (.box 3)), [.t 1], none⟩,
 ⟨(some 4), (.p .mov), [.c .nils], none⟩])
 (.seq
 (.ops [
 ⟨(some 5), (.p .mov), [.c .nils], none⟩])
 (.seq
 (.seq
 (.ops [
 ⟨(some 6), (.p .mov), [.c (.int .i64 0)], none⟩])
 l12_owners_L0)
 (.seq
 (.ops [
 ⟨(some 32), (.p .mov), [.t 5], none⟩,
 ⟨(some 4), (.p .mov), [.t 32], none⟩])
 (.ret [4])))))
def l12_owners_I : FInfo := ⟨(.fz false), 2, l12_owners_C, [.tmp 4]⟩
def l12_owners_A : Ann := ⟨[], [], [(0, [2, 3, 5, 6], [5])], [(1, [2, 3, 5, 6])], [2, 3]⟩
abbrev n_l12_owners : Nat := 20

/-! ### balise/baliseref01.Ints -/
def r01_Ints_B0 : CCode :=
 (.seq
 (.seq
 (.ops [
 ⟨(some 11), (.p .mov), [.t 5], none⟩,
 ⟨(some 12), (.p .mov), [.t 0], none⟩,
 ⟨(some 13), (.p .len), [.t 12], none⟩,
 ⟨(some 14), (.p (.bin .lss .ifc)), [.t 11, .t 13], none⟩])
 (.cond (.t 14)
 .skip
 (.exit 0)))
 (.seq
 (.block 1 (some [0, 1, 5])
 (.seq
 (.ops [
 ⟨(some 17), (.p .mov), [.t 0], none⟩,
 ⟨(some 18), (.p .mov), [.t 5], none⟩,
 ⟨(some 19), (.p (.iaddr 1)), [.t 17, .t 18], none⟩,
 ⟨(some 20), (.h (.load false 1)), [.t 19], none⟩,
 ⟨(some 21), (.p .mov), [.t 1], none⟩,
 ⟨(some 22), (.p .mov), [.t 5], none⟩,
 ⟨(some 23), (.p (.iaddr 1)), [.t 21, .t 22], none⟩,
 ⟨(some 24), (.h (.load false 1)), [.t 23], none⟩,
 ⟨(some 25), (.p (.bin .neq .int)), [.t 20, .t 24], none⟩])
 (.cond (.t 25)
 (.seq
 (.ops [
 ⟨(some 4), (.p .mov), [.c (.bool false)], none⟩])
 (.ret [4]))
 .skip)))
 (.ops [
 ⟨(some 15), (.p .mov), [.t 5], none⟩,
 ⟨(some 16), (.p (.bin .add .ifc)), [.t 15, .c (.int .i64 1)], none⟩,
 ⟨(some 5), (.p .mov), [.t 16], none⟩])))
def r01_Ints_L0 : CCode := .bloop 0 [0, 1, 5] [] r01_Ints_B0
def r01_Ints_C : CCode :=
 (.seq
 (.ops [
 ⟨(some 4), (.p .mov), [.c (.bool false)], none⟩])
 (.seq
 (.seq
 (.ops [
 ⟨(some 6), (.p .mov), [.t 0], none⟩,
 ⟨(some 7), (.p .len), [.t 6], none⟩,
 ⟨(some 8), (.p .mov), [.t 1], none⟩,
 ⟨(some 9), (.p .len), [.t 8], none⟩,
 ⟨(some 10), (.p (.bin .neq .int)), [.t 7, .t 9], none⟩])
 (.cond (.t 10)
 (.seq
 (.ops [
 ⟨(some 4), (.p .mov), [.c (.bool false)], none⟩])
 (.ret [4]))
 .skip))
 (.seq
 (.seq
 (.ops [
 ⟨(some 5), (.p .mov), [.c (.int .i64 0)], none⟩])
 r01_Ints_L0)
 (.seq
 (.ops [
 ⟨(some 4), (.p .mov), [.c (.bool true)], none⟩])
 (.ret [4])))))
def r01_Ints_I : FInfo := ⟨(.fz false), 2, r01_Ints_C, [.tmp 4]⟩
def r01_Ints_A : Ann := ⟨[], [], [(0, [0, 1, 5], [])], [(1, [0, 1, 5])], []⟩
abbrev n_r01_Ints : Nat := 21

/-! ### balise/own.Next -/
def own_Next_B0 : CCode :=
 (.seq
 (.ops [
 ⟨(some 20), (.p (.bin .lss .ifc)), [.t 19, .t 18], none⟩])
 (.seq
 (.cond (.t 20)
 .skip
 (.exit 0))
 (.seq
 (.block 1 (some [1, 2, 3, 4, 9, 10, 18, 19])
 (.seq
 (.ops [
 ⟨(some 21), (.p .mov), [.t 19], none⟩,
 ⟨(some 11), (.p .mov), [.t 21], none⟩])
 (.seq
 (.ops [
 ⟨(some 12), (.p .mov), [.c (.int .i64 (-1))], none⟩])
 (.seq
 (.block 2 (some [1, 2, 3, 4, 9, 10, 12, 18, 19])
 (.seq
 (.ops [
 ⟨(some 37), (.p .mov), [.t 2], none⟩,
 ⟨(some 38), (.p .mov), [.t 11], none⟩,
 ⟨(some 39), (.p (.iaddr 1)), [.t 37, .t 38], none⟩,
 ⟨(some 40), (.h (.load false 1)), [.t 39], none⟩,
 ⟨(some 36), (.p .mov), [.t 40], none⟩])
 (.cond (.t 36)
 (.ops [
 ⟨(some 12), (.p .mov), [.c (.int .i64 (-2))], none⟩])
 (.seq
 (.ops [
 ⟨(some 42), (.p .mov), [.t 1], none⟩,
 ⟨(some 43), (.p .mov), [.t 11], none⟩,
 ⟨(some 44), (.p (.iaddr 1)), [.t 42, .t 43], none⟩,
 ⟨(some 45), (.h (.load false 1)), [.t 44], none⟩,
 ⟨(some 46), (.p (.bin .eql .int)), [.t 45, .c (.int .i64 (-1))], none⟩,
 ⟨(some 41), (.p .mov), [.t 46], none⟩])
 (.cond (.t 41)
 .skip
 (.seq
 (.ops [
 ⟨(some 22), (.p .mov), [.t 9], none⟩,
 ⟨(some 23), (.p .mov), [.t 1], none⟩,
 ⟨(some 24), (.p .mov), [.t 11], none⟩,
 ⟨(some 25), .call, [.c (.fn (.func 51) [] []), .t 22, .t 23, .t 24], none⟩,
 ⟨(some 13), (.p .mov), [.t 25], none⟩])
 (.seq
 (.ops [
 ⟨(some 26), (.p .mov), [.t 13], none⟩,
 ⟨(some 27), (.p (.bin .geq .ifc)), [.t 26, .c (.int .i64 0)], none⟩,
 ⟨(some 28), (.p .mov), [.t 27], none⟩,
 ⟨(some 29), (.h (.load true 10)), [.t 4], (some (28, true))⟩,
 ⟨(some 30), (.p .mov), [.t 3], (some (28, true))⟩,
 ⟨(some 31), (.p .mov), [.t 11], (some (28, true))⟩,
 ⟨(some 32), (.p .mov), [.t 13], (some (28, true))⟩,
 ⟨(some 33), .call, [.c (.fn (.func 52) [] []), .t 29, .t 30, .t 31, .t 32], (some (28, true))⟩,
 ⟨(some 34), (.p .pick), [.t 28, .t 33, .c (.bool false)], none⟩])
 (.cond (.t 34)
 (.ops [
 ⟨(some 35), (.p .mov), [.t 13], none⟩,
 ⟨(some 12), (.p .mov), [.t 35], none⟩])
 .skip))))))))
 (.ops [
 ⟨(some 47), (.p .mov), [.t 10], none⟩,
 ⟨(some 48), (.p .mov), [.t 12], none⟩,
 ⟨(some 49), (.h (.bslF 1 1 [(.int .i64 0)] [(0, 1)])), [.t 48], none⟩,
 ⟨(some 50), (.h (.app 1 8 [(.int .i64 0)])), [.t 47, .t 49], none⟩,
 ⟨(some 10), (.p .mov), [.t 50], none⟩])))))
 (.ops [
 ⟨(some 51), (.p (.bin .add .ifc)), [.t 19, .c (.int .i64 1)], none⟩,
 ⟨(some 19), (.p .mov), [.t 51], none⟩]))))
def own_Next_L0 : CCode := .bloop 0 [1, 2, 3, 4, 9, 10, 18, 19] [10] own_Next_B0
def own_Next_C : CCode :=
 (.seq
 (.ops [
 ⟨(some 4), (.h (.box 4)), [.t 0], none⟩,
 ⟨(some 8), (.p .mov), [.c .nils], none⟩])
 (.seq
 (.ops [
 ⟨(some 14), (.h (.load true 10)), [.t 4], none⟩,
 ⟨(some 15), .call, [.c (.fn (.func 50) [] []), .t 14], none⟩,
 ⟨(some 9), (.p .mov), [.t 15], none⟩])
 (.seq
 (.ops [
 ⟨(some 10), (.p .mov), [.c .nils], none⟩])
 (.seq
 (.seq
 (.ops [
 ⟨(some 16), (.p (.faddr 2)), [.t 4], none⟩,
 ⟨(some 17), (.h (.load false 1)), [.t 16], none⟩,
 ⟨(some 18), (.p .len), [.t 17], none⟩,
 ⟨(some 19), (.p .mov), [.c (.int .i64 0)], none⟩])
 own_Next_L0)
 (.seq
 (.ops [
 ⟨(some 52), (.p .mov), [.t 10], none⟩,
 ⟨(some 8), (.p .mov), [.t 52], none⟩])
 (.ret [8]))))))
def own_Next_I : FInfo := ⟨(.fz false), 4, own_Next_C, [.tmp 8]⟩
def own_Next_A : Ann := ⟨[], [], [(0, [1, 2, 3, 4, 9, 10, 18, 19], [10])], [(1, [1, 2, 3, 4, 9, 10, 18, 19]), (2, [1, 2, 3, 4, 9, 10, 12, 18, 19])], [4]⟩
abbrev n_own_Next : Nat := 22

/-! ### balise/baliselaw12.clear -/
def l12_clear_B0 : CCode :=
 (.seq
 (.seq
 (.ops [
 ⟨(some 7), (.p .mov), [.t 6], none⟩,
 ⟨(some 8), (.p (.faddr 2)), [.t 2], none⟩,
 ⟨(some 9), (.h (.load false 1)), [.t 8], none⟩,
 ⟨(some 10), (.p .len), [.t 9], none⟩,
 ⟨(some 11), (.p (.bin .lss .ifc)), [.t 7, .t 10], none⟩])
 (.cond (.t 11)
 .skip
 (.exit 0)))
 (.seq
 (.block 1 (some [2, 3, 5, 6])
 (.ops [
 ⟨(some 14), (.p .mov), [.t 5], none⟩,
 ⟨(some 15), (.p .mov), [.t 6], none⟩,
 ⟨(some 16), (.p (.faddr 1)), [.t 3], none⟩,
 ⟨(some 17), (.h (.load false 1)), [.t 16], none⟩,
 ⟨(some 18), (.p .len), [.t 17], none⟩,
 ⟨(some 19), (.p (.bin .lss .ifc)), [.t 15, .t 18], none⟩,
 ⟨(some 20), (.p .mov), [.t 19], none⟩,
 ⟨(some 21), (.p (.faddr 1)), [.t 3], (some (20, true))⟩,
 ⟨(some 22), (.h (.load false 1)), [.t 21], (some (20, true))⟩,
 ⟨(some 23), (.p .mov), [.t 6], (some (20, true))⟩,
 ⟨(some 24), (.p (.iaddr 1)), [.t 22, .t 23], (some (20, true))⟩,
 ⟨(some 25), (.h (.load false 1)), [.t 24], (some (20, true))⟩,
 ⟨(some 26), (.p .pick), [.t 20, .t 25, .c (.bool false)], none⟩,
 ⟨(some 27), (.h (.bslF 1 1 [(.bool false)] [(0, 1)])), [.t 26], none⟩,
 ⟨(some 28), (.h (.app 1 1 [(.bool false)])), [.t 14, .t 27], none⟩,
 ⟨(some 5), (.p .mov), [.t 28], none⟩]))
 (.ops [
 ⟨(some 12), (.p .mov), [.t 6], none⟩,
 ⟨(some 13), (.p (.bin .add .ifc)), [.t 12, .c (.int .i64 1)], none⟩,
 ⟨(some 6), (.p .mov), [.t 13], none⟩])))
def l12_clear_L0 : CCode := .bloop 0 [2, 3, 5, 6] [5] l12_clear_B0
def l12_clear_C : CCode :=
 (.seq
 (.ops [
 ⟨(some 2), (.h (.box 2)), [.t 0], none⟩,
 ⟨(some 3), (.h (.box 3)), [.t 1], none⟩,
 ⟨(some 4), (.p .mov), [.c .nils], none⟩])
 (.seq
 (.ops [
 ⟨(some 5), (.p .mov), [.c .nils], none⟩])
 (.seq
 (.seq
 (.ops [
 ⟨(some 6), (.p .mov), [.c (.int .i64 0)], none⟩])
 l12_clear_L0)
 (.seq
 (.ops [
 ⟨(some 29), (.p .mov), [.t 5], none⟩,
 ⟨(some 4), (.p .mov), [.t 29], none⟩])
 (.ret [4])))))
def l12_clear_I : FInfo := ⟨(.fz false), 2, l12_clear_C, [.tmp 4]⟩
def l12_clear_A : Ann := ⟨[], [], [(0, [2, 3, 5, 6], [5])], [(1, [2, 3, 5, 6])], [2, 3]⟩
abbrev n_l12_clear : Nat := 23

/-! ### balise/baliseref12.Next -/
def r12_Next_B2 : CCode :=
 (.seq
 (.seq
 (.ops [
 ⟨(some 36), (.p .mov), [.t 13], none⟩,
 ⟨(some 37), (.p .mov), [.t 12], none⟩,
 ⟨(some 38), (.p .len), [.t 37], none⟩,
 ⟨(some 39), (.p (.bin .lss .ifc)), [.t 36, .t 38], none⟩,
 ⟨(some 40), (.p .mov), [.t 39], none⟩,
 ⟨(some 41), (.p .mov), [.t 11], (some (40, true))⟩,
 ⟨(some 42), (.p (.bin .neq .int)), [.t 41, .c (.int .i64 (-1))], (some (40, true))⟩,
 ⟨(some 43), (.p .pick), [.t 40, .t 42, .c (.bool false)], none⟩])
 (.cond (.t 43)
 .skip
 (.exit 2)))
 (.seq
 (.block 3 (some [1, 2, 3, 4, 9, 10, 11, 12, 13])
 (.seq
 (.ops [
 ⟨(some 46), (.p .mov), [.t 1], none⟩,
 ⟨(some 47), (.p .mov), [.t 12], none⟩,
 ⟨(some 48), (.p .mov), [.t 13], none⟩,
 ⟨(some 49), (.p (.iaddr 1)), [.t 47, .t 48], none⟩,
 ⟨(some 50), (.h (.load false 1)), [.t 49], none⟩,
 ⟨(some 51), (.p (.iaddr 1)), [.t 46, .t 50], none⟩,
 ⟨(some 52), (.h (.load false 1)), [.t 51], none⟩,
 ⟨(some 14), (.p .mov), [.t 52], none⟩])
 (.seq
 (.seq
 (.ops [
 ⟨(some 53), (.p .mov), [.t 14], none⟩,
 ⟨(some 54), (.p (.bin .eql .int)), [.t 53, .c (.int .i64 (-2))], none⟩,
 ⟨(some 55), (.p .mov), [.t 54], none⟩,
 ⟨(some 56), (.p .mov), [.t 14], (some (55, false))⟩,
 ⟨(some 57), (.p .mov), [.t 11], (some (55, false))⟩,
 ⟨(some 58), (.p (.bin .eql .int)), [.t 56, .t 57], (some (55, false))⟩,
 ⟨(some 59), (.p .pick), [.t 55, .c (.bool true), .t 58], none⟩])
 (.cond (.t 59)
 (.exit 3)
 .skip))
 (.seq
 (.ops [
 ⟨(some 60), (.p .mov), [.t 14], none⟩,
 ⟨(some 61), (.p (.bin .eql .int)), [.t 60, .c (.int .i64 (-1))], none⟩,
 ⟨(some 62), (.p .mov), [.t 61], none⟩,
 ⟨(some 63), (.p .mov), [.t 11], (some (62, false))⟩,
 ⟨(some 64), (.p (.bin .geq .ifc)), [.t 63, .c (.int .i64 0)], (some (62, false))⟩,
 ⟨(some 65), (.p .pick), [.t 62, .c (.bool true), .t 64], none⟩])
 (.cond (.t 65)
 (.ops [
 ⟨(some 11), (.p .mov), [.c (.int .i64 (-1))], none⟩])
 (.ops [
 ⟨(some 66), (.p .mov), [.t 14], none⟩,
 ⟨(some 11), (.p .mov), [.t 66], none⟩]))))))
 (.ops [
 ⟨(some 44), (.p .mov), [.t 13], none⟩,
 ⟨(some 45), (.p (.bin .add .ifc)), [.t 44, .c (.int .i64 1)], none⟩,
 ⟨(some 13), (.p .mov), [.t 45], none⟩])))
def r12_Next_L2 : CCode := .bloop 2 [1, 2, 3, 4, 9, 10, 11, 12, 13] [1, 2, 3, 4, 9, 10, 11] r12_Next_B2

def r12_Next_B0 : CCode :=
 (.seq
 (.seq
 (.ops [
 ⟨(some 15), (.p .mov), [.t 10], none⟩,
 ⟨(some 16), (.p (.faddr 2)), [.t 4], none⟩,
 ⟨(some 17), (.h (.load false 1)), [.t 16], none⟩,
 ⟨(some 18), (.p .len), [.t 17], none⟩,
 ⟨(some 19), (.p (.bin .lss .ifc)), [.t 15, .t 18], none⟩])
 (.cond (.t 19)
 .skip
 (.exit 0)))
 (.seq
 (.block 1 (some [1, 2, 3, 4, 9, 10])
 (.seq
 (.seq
 (.ops [
 ⟨(some 22), (.p .mov), [.t 2], none⟩,
 ⟨(some 23), (.p .mov), [.t 10], none⟩,
 ⟨(some 24), (.p (.iaddr 1)), [.t 22, .t 23], none⟩,
 ⟨(some 25), (.h (.load false 1)), [.t 24], none⟩])
 (.cond (.t 25)
 (.seq
 (.ops [
 ⟨(some 26), (.p .mov), [.t 9], none⟩,
 ⟨(some 27), (.h (.bslF 1 1 [(.int .i64 0)] [(0, 1)])), [.c (.int .i64 (-2))], none⟩,
 ⟨(some 28), (.h (.app 1 8 [(.int .i64 0)])), [.t 26, .t 27], none⟩,
 ⟨(some 9), (.p .mov), [.t 28], none⟩])
 (.exit 1))
 .skip))
 (.seq
 (.ops [
 ⟨(some 29), (.p .mov), [.t 1], none⟩,
 ⟨(some 30), (.p .mov), [.t 10], none⟩,
 ⟨(some 31), (.p (.iaddr 1)), [.t 29, .t 30], none⟩,
 ⟨(some 32), (.h (.load false 1)), [.t 31], none⟩,
 ⟨(some 11), (.p .mov), [.t 32], none⟩])
 (.seq
 (.ops [
 ⟨(some 33), (.h (.load true 10)), [.t 4], none⟩,
 ⟨(some 34), (.p .mov), [.t 10], none⟩,
 ⟨(some 35), .call, [.c (.fn (.func 26) [] []), .t 33, .t 34], none⟩,
 ⟨(some 12), (.p .mov), [.t 35], none⟩])
 (.seq
 (.seq
 (.ops [
 ⟨(some 13), (.p .mov), [.c (.int .i64 0)], none⟩])
 r12_Next_L2)
 (.seq
 (.seq
 (.ops [
 ⟨(some 67), (.p .mov), [.t 11], none⟩,
 ⟨(some 68), (.p (.bin .lss .ifc)), [.t 67, .c (.int .i64 0)], none⟩,
 ⟨(some 69), (.p .mov), [.t 68], none⟩,
 ⟨(some 70), (.h (.load true 10)), [.t 4], (some (69, false))⟩,
 ⟨(some 71), (.p .mov), [.t 3], (some (69, false))⟩,
 ⟨(some 72), (.p .mov), [.t 10], (some (69, false))⟩,
 ⟨(some 73), (.p .mov), [.t 11], (some (69, false))⟩,
 ⟨(some 74), .call, [.c (.fn (.func 53) [] []), .t 70, .t 71, .t 72, .t 73], (some (69, false))⟩,
 ⟨(some 75), (.p (.un .not)), [.t 74], (some (69, false))⟩,
 ⟨(some 76), (.p .pick), [.t 69, .c (.bool true), .t 75], none⟩])
 (.cond (.t 76)
 (.ops [
 ⟨(some 11), (.p .mov), [.c (.int .i64 (-1))], none⟩])
 .skip))
 (.ops [
 ⟨(some 77), (.p .mov), [.t 9], none⟩,
 ⟨(some 78), (.p .mov), [.t 11], none⟩,
 ⟨(some 79), (.h (.bslF 1 1 [(.int .i64 0)] [(0, 1)])), [.t 78], none⟩,
 ⟨(some 80), (.h (.app 1 8 [(.int .i64 0)])), [.t 77, .t 79], none⟩,
 ⟨(some 9), (.p .mov), [.t 80], none⟩])))))))
 (.ops [
 ⟨(some 20), (.p .mov), [.t 10], none⟩,
 ⟨(some 21), (.p (.bin .add .ifc)), [.t 20, .c (.int .i64 1)], none⟩,
 ⟨(some 10), (.p .mov), [.t 21], none⟩])))
def r12_Next_L0 : CCode := .bloop 0 [1, 2, 3, 4, 9, 10] [9] r12_Next_B0
def r12_Next_C : CCode :=
 (.seq
 (.ops [
 ⟨(some 4), (.h (.box 4)), [.t 0], none⟩,
 ⟨(some 8), (.p .mov), [.c .nils], none⟩])
 (.seq
 (.ops [
 ⟨(some 9), (.p .mov), [.c .nils], none⟩])
 (.seq
 (.seq
 (.ops [
 ⟨(some 10), (.p .mov), [.c (.int .i64 0)], none⟩])
 r12_Next_L0)
 (.seq
 (.ops [
 ⟨(some 81), (.p .mov), [.t 9], none⟩,
 ⟨(some 8), (.p .mov), [.t 81], none⟩])
 (.ret [8])))))
def r12_Next_I : FInfo := ⟨(.fz false), 4, r12_Next_C, [.tmp 8]⟩
def r12_Next_A : Ann := ⟨[], [], [(0, [1, 2, 3, 4, 9, 10], [9]), (2, [1, 2, 3, 4, 9, 10, 11, 12, 13], [1, 2, 3, 4, 9, 10, 11])], [(1, [1, 2, 3, 4, 9, 10]), (3, [1, 2, 3, 4, 9, 10, 11, 12, 13])], [4]⟩
abbrev n_r12_Next : Nat := 24

/-! ### balise/baliseref12.Find -/
def r12_Find_B0 : CCode :=
 (.seq
 (.seq
 (.ops [
 ⟨(some 7), (.p .mov), [.t 6], none⟩,
 ⟨(some 8), (.p .mov), [.t 0], none⟩,
 ⟨(some 9), (.p .len), [.t 8], none⟩,
 ⟨(some 10), (.p (.bin .lss .ifc)), [.t 7, .t 9], none⟩])
 (.cond (.t 10)
 .skip
 (.exit 0)))
 (.seq
 (.block 1 (some [0, 1, 4, 6])
 (.seq
 (.ops [
 ⟨(some 13), (.p .mov), [.t 0], none⟩,
 ⟨(some 14), (.p .mov), [.t 6], none⟩,
 ⟨(some 15), (.p (.iaddr 3)), [.t 13, .t 14], none⟩,
 ⟨(some 16), (.p (.faddr 0)), [.t 15], none⟩,
 ⟨(some 17), (.h (.load false 1)), [.t 16], none⟩,
 ⟨(some 18), (.p .mov), [.t 1], none⟩,
 ⟨(some 19), (.p (.bin .eql .int)), [.t 17, .t 18], none⟩])
 (.cond (.t 19)
 (.seq
 (.ops [
 ⟨(some 20), (.p .mov), [.t 0], none⟩,
 ⟨(some 21), (.p .mov), [.t 6], none⟩,
 ⟨(some 22), (.p (.iaddr 3)), [.t 20, .t 21], none⟩,
 ⟨(some 23), (.h (.load true 3)), [.t 22], none⟩,
 ⟨none, (.h (.store 3)), [.t 4, .t 23], none⟩,
 ⟨(some 5), (.p .mov), [.c (.bool true)], none⟩])
 (.ret [4, 5]))
 .skip)))
 (.ops [
 ⟨(some 11), (.p .mov), [.t 6], none⟩,
 ⟨(some 12), (.p (.bin .add .ifc)), [.t 11, .c (.int .i64 1)], none⟩,
 ⟨(some 6), (.p .mov), [.t 12], none⟩])))
def r12_Find_L0 : CCode := .bloop 0 [0, 1, 4, 6] [4] r12_Find_B0
def r12_Find_C : CCode :=
 (.seq
 (.ops [
 ⟨(some 4), (.h (.newl 4 [(.int .i64 0), (.bool false), .nils])), [], none⟩,
 ⟨(some 5), (.p .mov), [.c (.bool false)], none⟩])
 (.seq
 (.seq
 (.ops [
 ⟨(some 6), (.p .mov), [.c (.int .i64 0)], none⟩])
 r12_Find_L0)
 (.seq
 (.ops [
 ⟨(some 24), (.p (.bld [(.int .i64 0), (.bool false), .nils] [])), [], none⟩,
 ⟨none, (.h (.store 3)), [.t 4, .t 24], none⟩,
 ⟨(some 5), (.p .mov), [.c (.bool false)], none⟩])
 (.ret [4, 5]))))
def r12_Find_I : FInfo := ⟨.ref, 2, r12_Find_C, [.cell 4 true 3, .tmp 5]⟩
def r12_Find_A : Ann := ⟨[], [], [(0, [0, 1, 4, 6], [4])], [(1, [0, 1, 4, 6])], [4]⟩
abbrev n_r12_Find : Nat := 25

/-! ### balise/baliseref05.Beside -/
def r05_Beside_B2 : CCode :=
 (.seq
 (.seq
 (.ops [
 ⟨(some 39), (.p .mov), [.t 8], none⟩,
 ⟨(some 40), (.p .mov), [.t 7], none⟩,
 ⟨(some 41), (.p .len), [.t 40], none⟩,
 ⟨(some 42), (.p (.bin .lss .ifc)), [.t 39, .t 41], none⟩])
 (.cond (.t 42)
 .skip
 (.exit 2)))
 (.seq
 (.block 3 (some [1, 2, 5, 6, 7, 8])
 (.seq
 (.ops [
 ⟨(some 45), (.h (.load true 10)), [.t 2], none⟩,
 ⟨(some 46), (.p .mov), [.t 7], none⟩,
 ⟨(some 47), (.p .mov), [.t 8], none⟩,
 ⟨(some 48), (.p (.iaddr 1)), [.t 46, .t 47], none⟩,
 ⟨(some 49), (.h (.load false 1)), [.t 48], none⟩,
 ⟨(some 50), .call, [.c (.fn (.func 55) [] []), .t 45, .t 49], none⟩,
 ⟨(some 9), (.p .mov), [.t 50], none⟩])
 (.seq
 (.ops [
 ⟨(some 51), (.p .mov), [.t 9], none⟩,
 ⟨(some 52), (.p (.bin .geq .ifc)), [.t 51, .c (.int .i64 0)], none⟩,
 ⟨(some 53), (.p .mov), [.t 52], none⟩,
 ⟨(some 54), (.p .mov), [.t 9], (some (53, true))⟩,
 ⟨(some 55), (.p .mov), [.t 1], (some (53, true))⟩,
 ⟨(some 56), (.p (.bin .neq .int)), [.t 54, .t 55], (some (53, true))⟩,
 ⟨(some 57), (.p .pick), [.t 53, .t 56, .c (.bool false)], none⟩])
 (.cond (.t 57)
 (.ops [
 ⟨(some 58), (.p .mov), [.t 5], none⟩,
 ⟨(some 59), (.p .mov), [.t 9], none⟩,
 ⟨(some 60), (.h (.bslF 1 1 [(.int .i64 0)] [(0, 1)])), [.t 59], none⟩,
 ⟨(some 61), (.h (.app 1 8 [(.int .i64 0)])), [.t 58, .t 60], none⟩,
 ⟨(some 5), (.p .mov), [.t 61], none⟩])
 .skip))))
 (.ops [
 ⟨(some 43), (.p .mov), [.t 8], none⟩,
 ⟨(some 44), (.p (.bin .add .ifc)), [.t 43, .c (.int .i64 1)], none⟩,
 ⟨(some 8), (.p .mov), [.t 44], none⟩])))
def r05_Beside_L2 : CCode := .bloop 2 [1, 2, 5, 6, 7, 8] [1, 2, 5, 6] r05_Beside_B2

def r05_Beside_B0 : CCode :=
 (.seq
 (.seq
 (.ops [
 ⟨(some 19), (.p .mov), [.t 6], none⟩,
 ⟨(some 20), (.p (.faddr 2)), [.t 2], none⟩,
 ⟨(some 21), (.h (.load false 1)), [.t 20], none⟩,
 ⟨(some 22), (.p .mov), [.t 1], none⟩,
 ⟨(some 23), (.p (.iaddr 1)), [.t 21, .t 22], none⟩,
 ⟨(some 24), (.h (.load false 1)), [.t 23], none⟩,
 ⟨(some 25), (.p .len), [.t 24], none⟩,
 ⟨(some 26), (.p (.bin .lss .ifc)), [.t 19, .t 25], none⟩])
 (.cond (.t 26)
 .skip
 (.exit 0)))
 (.seq
 (.block 1 (some [1, 2, 5, 6])
 (.seq
 (.ops [
 ⟨(some 29), (.h (.load true 10)), [.t 2], none⟩,
 ⟨(some 30), (.p (.faddr 2)), [.t 2], none⟩,
 ⟨(some 31), (.h (.load false 1)), [.t 30], none⟩,
 ⟨(some 32), (.p .mov), [.t 1], none⟩,
 ⟨(some 33), (.p (.iaddr 1)), [.t 31, .t 32], none⟩,
 ⟨(some 34), (.h (.load false 1)), [.t 33], none⟩,
 ⟨(some 35), (.p .mov), [.t 6], none⟩,
 ⟨(some 36), (.p (.iaddr 1)), [.t 34, .t 35], none⟩,
 ⟨(some 37), (.h (.load false 1)), [.t 36], none⟩,
 ⟨(some 38), .call, [.c (.fn (.func 54) [] []), .t 29, .t 37], none⟩,
 ⟨(some 7), (.p .mov), [.t 38], none⟩])
 (.seq
 (.ops [
 ⟨(some 8), (.p .mov), [.c (.int .i64 0)], none⟩])
 r05_Beside_L2)))
 (.ops [
 ⟨(some 27), (.p .mov), [.t 6], none⟩,
 ⟨(some 28), (.p (.bin .add .ifc)), [.t 27, .c (.int .i64 1)], none⟩,
 ⟨(some 6), (.p .mov), [.t 28], none⟩])))
def r05_Beside_L0 : CCode := .bloop 0 [1, 2, 5, 6] [5] r05_Beside_B0
def r05_Beside_C : CCode :=
 (.seq
 (.ops [
 ⟨(some 2), (.h (.box 2)), [.t 0], none⟩,
 ⟨(some 4), (.p .mov), [.c .nils], none⟩])
 (.seq
 (.ops [
 ⟨(some 5), (.p .mov), [.c .nils], none⟩])
 (.seq
 (.seq
 (.ops [
 ⟨(some 10), (.p .mov), [.t 1], none⟩,
 ⟨(some 11), (.p (.bin .lss .ifc)), [.t 10, .c (.int .i64 0)], none⟩,
 ⟨(some 12), (.p .mov), [.t 11], none⟩,
 ⟨(some 13), (.p .mov), [.t 1], (some (12, false))⟩,
 ⟨(some 14), (.p (.faddr 2)), [.t 2], (some (12, false))⟩,
 ⟨(some 15), (.h (.load false 1)), [.t 14], (some (12, false))⟩,
 ⟨(some 16), (.p .len), [.t 15], (some (12, false))⟩,
 ⟨(some 17), (.p (.bin .geq .ifc)), [.t 13, .t 16], (some (12, false))⟩,
 ⟨(some 18), (.p .pick), [.t 12, .c (.bool true), .t 17], none⟩])
 (.cond (.t 18)
 (.seq
 (.ops [
 ⟨(some 4), (.p .mov), [.c .nils], none⟩])
 (.ret [4]))
 .skip))
 (.seq
 (.seq
 (.ops [
 ⟨(some 6), (.p .mov), [.c (.int .i64 0)], none⟩])
 r05_Beside_L0)
 (.seq
 (.ops [
 ⟨(some 62), (.p .mov), [.t 5], none⟩,
 ⟨(some 63), .call, [.c (.fn (.func 44) [] []), .t 62], none⟩,
 ⟨(some 4), (.p .mov), [.t 63], none⟩])
 (.ret [4]))))))
def r05_Beside_I : FInfo := ⟨(.fz false), 2, r05_Beside_C, [.tmp 4]⟩
def r05_Beside_A : Ann := ⟨[], [], [(0, [1, 2, 5, 6], [5]), (2, [1, 2, 5, 6, 7, 8], [1, 2, 5, 6])], [(1, [1, 2, 5, 6]), (3, [1, 2, 5, 6, 7, 8])], [2]⟩
abbrev n_r05_Beside : Nat := 26

/-! ### balise/baliseref11.Meets -/
def r11_Meets_B0 : CCode :=
 (.seq
 (.seq
 (.ops [
 ⟨(some 6), (.p .mov), [.t 5], none⟩,
 ⟨(some 7), (.p .mov), [.t 0], none⟩,
 ⟨(some 8), (.p .len), [.t 7], none⟩,
 ⟨(some 9), (.p (.bin .lss .ifc)), [.t 6, .t 8], none⟩])
 (.cond (.t 9)
 .skip
 (.exit 0)))
 (.seq
 (.block 1 (some [0, 1, 5])
 (.seq
 (.ops [
 ⟨(some 12), (.p .mov), [.t 1], none⟩,
 ⟨(some 13), (.p .mov), [.t 0], none⟩,
 ⟨(some 14), (.p .mov), [.t 5], none⟩,
 ⟨(some 15), (.p (.iaddr 1)), [.t 13, .t 14], none⟩,
 ⟨(some 16), (.h (.load false 1)), [.t 15], none⟩,
 ⟨(some 17), .call, [.c (.fn (.func 49) [] []), .t 12, .t 16], none⟩])
 (.cond (.t 17)
 (.seq
 (.ops [
 ⟨(some 4), (.p .mov), [.c (.bool true)], none⟩])
 (.ret [4]))
 .skip)))
 (.ops [
 ⟨(some 10), (.p .mov), [.t 5], none⟩,
 ⟨(some 11), (.p (.bin .add .ifc)), [.t 10, .c (.int .i64 1)], none⟩,
 ⟨(some 5), (.p .mov), [.t 11], none⟩])))
def r11_Meets_L0 : CCode := .bloop 0 [0, 1, 5] [] r11_Meets_B0
def r11_Meets_C : CCode :=
 (.seq
 (.ops [
 ⟨(some 4), (.p .mov), [.c (.bool false)], none⟩])
 (.seq
 (.seq
 (.ops [
 ⟨(some 5), (.p .mov), [.c (.int .i64 0)], none⟩])
 r11_Meets_L0)
 (.seq
 (.ops [
 ⟨(some 4), (.p .mov), [.c (.bool false)], none⟩])
 (.ret [4]))))
def r11_Meets_I : FInfo := ⟨(.fz false), 2, r11_Meets_C, [.tmp 4]⟩
def r11_Meets_A : Ann := ⟨[], [], [(0, [0, 1, 5], [])], [(1, [0, 1, 5])], []⟩
abbrev n_r11_Meets : Nat := 27

/-! ### balise/own.Find -/
def own_Find_C : CCode :=
 (.seq
 (.ops [
 ⟨(some 3), (.h .boxh), [.t 1], none⟩,
 ⟨(some 4), (.h (.newl 4 [(.int .i64 0), (.bool false), .nils])), [], none⟩,
 ⟨(some 5), (.p .mov), [.c (.bool false)], none⟩])
 (.seq
 (.ops [
 ⟨(some 7), (.p .mov), [.t 0], none⟩,
 ⟨(some 8), (.p (.mkfn (.func 57) 0)), [.t 3], none⟩,
 ⟨(some 9), .call, [.c (.fn (.func 56) [] []), .t 7, .t 8], none⟩,
 ⟨(some 6), (.p .mov), [.t 9], none⟩])
 (.seq
 (.seq
 (.ops [
 ⟨(some 10), (.p .mov), [.t 6], none⟩,
 ⟨(some 11), (.p (.bin .lss .ifc)), [.t 10, .c (.int .i64 0)], none⟩])
 (.cond (.t 11)
 (.seq
 (.ops [
 ⟨(some 12), (.p (.bld [(.int .i64 0), (.bool false), .nils] [])), [], none⟩,
 ⟨none, (.h (.store 3)), [.t 4, .t 12], none⟩,
 ⟨(some 5), (.p .mov), [.c (.bool false)], none⟩])
 (.ret [4, 5]))
 .skip))
 (.seq
 (.ops [
 ⟨(some 13), (.p .mov), [.t 0], none⟩,
 ⟨(some 14), (.p .mov), [.t 6], none⟩,
 ⟨(some 15), (.p (.iaddr 3)), [.t 13, .t 14], none⟩,
 ⟨(some 16), (.h (.load true 3)), [.t 15], none⟩,
 ⟨none, (.h (.store 3)), [.t 4, .t 16], none⟩,
 ⟨(some 5), (.p .mov), [.c (.bool true)], none⟩])
 (.ret [4, 5])))))
def own_Find_I : FInfo := ⟨.ref, 2, own_Find_C, [.cell 4 true 3, .tmp 5]⟩
def own_Find_A : Ann := ⟨[3], [], [], [], [4]⟩
abbrev n_own_Find : Nat := 28

/-! ### balise/own.Start -/
def own_Start_C : CCode :=
 (.seq
 (.ops [
 ⟨(some 2), (.p .mov), [.c .nils], none⟩])
 (.seq
 (.ops [
 ⟨(some 3), (.h (.bslF 1 1 [(.int .i64 0)] [(0, 1)])), [.c (.int .i64 (-1))], none⟩,
 ⟨(some 4), (.p .mov), [.t 0], none⟩,
 ⟨(some 5), (.p .max), [.t 4, .c (.int .i64 0)], none⟩,
 ⟨(some 6), .call, [.c (.fn (.func 58) [] []), .t 3, .t 5], none⟩,
 ⟨(some 2), (.p .mov), [.t 6], none⟩])
 (.ret [2])))
def own_Start_I : FInfo := ⟨(.fz false), 1, own_Start_C, [.tmp 2]⟩
def own_Start_A : Ann := ⟨[], [], [], [], []⟩
abbrev n_own_Start : Nat := 29

/-! ### balise/own.Declare -/
def own_Declare_C : CCode :=
 (.seq
 (.ops [
 ⟨(some 6), (.h (.box 6)), [.t 0], none⟩,
 ⟨(some 12), (.p .mov), [.c .nils], none⟩,
 ⟨(some 13), (.p .mov), [.c (.int .i64 0)], none⟩])
 (.seq
 (.ops [
 ⟨(some 17), (.p .mov), [.t 1], none⟩,
 ⟨(some 18), .call, [.c (.fn (.func 59) [] []), .t 17], none⟩,
 ⟨(some 14), (.p .mov), [.t 18], none⟩])
 (.seq
 (.seq
 (.ops [
 ⟨(some 20), (.p .mov), [.t 3], none⟩,
 ⟨(some 21), (.p .mov), [.t 5], none⟩,
 ⟨(some 22), .call, [.c (.fn (.func 28) [] []), .t 20, .t 21], none⟩,
 ⟨(some 19), (.p .mov), [.t 22], none⟩,
 ⟨(some 23), (.p (.ext 0)), [.t 19], none⟩,
 ⟨(some 24), (.p (.ext 1)), [.t 19], none⟩,
 ⟨(some 15), (.h (.newl 15 [(.int .i64 0), (.bool false), .nils])), [], none⟩,
 ⟨none, (.h (.store 3)), [.t 15, .t 23], none⟩,
 ⟨(some 16), (.p .mov), [.t 24], none⟩])
 (.seq
 (.ops [
 ⟨(some 25), (.p .mov), [.t 16], none⟩,
 ⟨(some 26), (.p (.un .not)), [.t 25], none⟩,
 ⟨(some 27), (.p .mov), [.t 26], none⟩,
 ⟨(some 28), (.p .mov), [.t 4], (some (27, false))⟩,
 ⟨(some 29), (.p (.bin .lss .ifc)), [.t 28, .c (.int .i64 0)], (some (27, false))⟩,
 ⟨(some 30), (.p .pick), [.t 27, .c (.bool true), .t 29], none⟩,
 ⟨(some 31), (.p .mov), [.t 30], none⟩,
 ⟨(some 32), (.p .mov), [.t 4], (some (31, false))⟩,
 ⟨(some 33), (.p (.faddr 2)), [.t 6], (some (31, false))⟩,
 ⟨(some 34), (.h (.load false 1)), [.t 33], (some (31, false))⟩,
 ⟨(some 35), (.p .len), [.t 34], (some (31, false))⟩,
 ⟨(some 36), (.p (.bin .geq .ifc)), [.t 32, .t 35], (some (31, false))⟩,
 ⟨(some 37), (.p .pick), [.t 31, .c (.bool true), .t 36], none⟩])
 (.cond (.t 37)
 (.seq
 (.ops [
 ⟨(some 38), (.p .mov), [.t 14], none⟩,
 ⟨(some 12), (.p .mov), [.t 38], none⟩,
 ⟨(some 13), (.p .mov), [.c (.int .i64 7)], none⟩])
 (.ret [12, 13]))
 .skip)))
 (.seq
 (.seq
 (.ops [
 ⟨(some 39), (.p .mov), [.t 2], none⟩,
 ⟨(some 40), (.p .mov), [.t 4], none⟩,
 ⟨(some 41), (.p (.iaddr 1)), [.t 39, .t 40], none⟩,
 ⟨(some 42), (.h (.load false 1)), [.t 41], none⟩,
 ⟨(some 43), (.p .mov), [.t 42], none⟩,
 ⟨(some 44), (.h (.load true 10)), [.t 6], (some (43, false))⟩,
 ⟨(some 45), (.p .mov), [.t 3], (some (43, false))⟩,
 ⟨(some 46), (.p .mov), [.t 4], (some (43, false))⟩,
 ⟨(some 47), (.p .mov), [.t 5], (some (43, false))⟩,
 ⟨(some 48), .call, [.c (.fn (.func 52) [] []), .t 44, .t 45, .t 46, .t 47], (some (43, false))⟩,
 ⟨(some 49), (.p (.un .not)), [.t 48], (some (43, false))⟩,
 ⟨(some 50), (.p .pick), [.t 43, .c (.bool true), .t 49], none⟩])
 (.cond (.t 50)
 (.seq
 (.ops [
 ⟨(some 51), (.p .mov), [.t 14], none⟩,
 ⟨(some 12), (.p .mov), [.t 51], none⟩,
 ⟨(some 13), (.p .mov), [.c (.int .i64 8)], none⟩])
 (.ret [12, 13]))
 .skip))
 (.seq
 (.ops [
 ⟨(some 52), (.p .mov), [.t 14], none⟩,
 ⟨(some 53), (.p .mov), [.t 4], none⟩,
 ⟨(some 54), (.p .mov), [.t 5], none⟩,
 ⟨(some 55), (.p (.iaddr 1)), [.t 52, .t 53], none⟩,
 ⟨none, (.h (.store 1)), [.t 55, .t 54], none⟩])
 (.seq
 (.ops [
 ⟨(some 56), (.p .mov), [.t 14], none⟩,
 ⟨(some 12), (.p .mov), [.t 56], none⟩,
 ⟨(some 13), (.p .mov), [.c (.int .i64 0)], none⟩])
 (.ret [12, 13])))))))
def own_Declare_I : FInfo := ⟨(.fz false), 6, own_Declare_C, [.tmp 12, .tmp 13]⟩
def own_Declare_A : Ann := ⟨[], [], [], [], [6, 15]⟩
abbrev n_own_Declare : Nat := 30

/-! ### balise/baliseref12.Declare -/
def r12_Declare_C : CCode :=
 (.seq
 (.ops [
 ⟨(some 6), (.h (.box 6)), [.t 0], none⟩,
 ⟨(some 12), (.p .mov), [.c .nils], none⟩,
 ⟨(some 13), (.p .mov), [.c (.int .i64 0)], none⟩])
 (.seq
 (.ops [
 ⟨(some 14), (.p .mov), [.c .nils], none⟩])
 (.seq
 (.ops [
 ⟨(some 17), (.p .mov), [.t 14], none⟩,
 ⟨(some 18), (.p .mov), [.t 1], none⟩,
 ⟨(some 19), (.h (.app 1 8 [(.int .i64 0)])), [.t 17, .t 18], none⟩,
 ⟨(some 14), (.p .mov), [.t 19], none⟩])
 (.seq
 (.ops [
 ⟨(some 21), (.p .mov), [.t 3], none⟩,
 ⟨(some 22), (.p .mov), [.t 5], none⟩,
 ⟨(some 23), .call, [.c (.fn (.func 25) [] []), .t 21, .t 22], none⟩,
 ⟨(some 20), (.p .mov), [.t 23], none⟩,
 ⟨(some 24), (.p (.ext 0)), [.t 20], none⟩,
 ⟨(some 25), (.p (.ext 1)), [.t 20], none⟩,
 ⟨(some 15), (.h (.newl 15 [(.int .i64 0), (.bool false), .nils])), [], none⟩,
 ⟨none, (.h (.store 3)), [.t 15, .t 24], none⟩,
 ⟨(some 16), (.p .mov), [.t 25], none⟩])
 (.seq
 (.seq
 (.ops [
 ⟨(some 26), (.p .mov), [.t 16], none⟩,
 ⟨(some 27), (.p (.un .not)), [.t 26], none⟩,
 ⟨(some 28), (.p .mov), [.t 27], none⟩,
 ⟨(some 29), (.p .mov), [.t 4], (some (28, false))⟩,
 ⟨(some 30), (.p (.bin .lss .ifc)), [.t 29, .c (.int .i64 0)], (some (28, false))⟩,
 ⟨(some 31), (.p .pick), [.t 28, .c (.bool true), .t 30], none⟩,
 ⟨(some 32), (.p .mov), [.t 31], none⟩,
 ⟨(some 33), (.p .mov), [.t 4], (some (32, false))⟩,
 ⟨(some 34), (.p (.faddr 2)), [.t 6], (some (32, false))⟩,
 ⟨(some 35), (.h (.load false 1)), [.t 34], (some (32, false))⟩,
 ⟨(some 36), (.p .len), [.t 35], (some (32, false))⟩,
 ⟨(some 37), (.p (.bin .geq .ifc)), [.t 33, .t 36], (some (32, false))⟩,
 ⟨(some 38), (.p .pick), [.t 32, .c (.bool true), .t 37], none⟩])
 (.cond (.t 38)
 (.seq
 (.ops [
 ⟨(some 39), (.p .mov), [.t 14], none⟩,
 ⟨(some 12), (.p .mov), [.t 39], none⟩,
 ⟨(some 13), (.p .mov), [.c (.int .i64 7)], none⟩])
 (.ret [12, 13]))
 .skip))
 (.seq
 (.seq
 (.ops [
 ⟨(some 40), (.p .mov), [.t 2], none⟩,
 ⟨(some 41), (.p .mov), [.t 4], none⟩,
 ⟨(some 42), (.p (.iaddr 1)), [.t 40, .t 41], none⟩,
 ⟨(some 43), (.h (.load false 1)), [.t 42], none⟩,
 ⟨(some 44), (.p .mov), [.t 43], none⟩,
 ⟨(some 45), (.h (.load true 10)), [.t 6], (some (44, false))⟩,
 ⟨(some 46), (.p .mov), [.t 3], (some (44, false))⟩,
 ⟨(some 47), (.p .mov), [.t 4], (some (44, false))⟩,
 ⟨(some 48), (.p .mov), [.t 5], (some (44, false))⟩,
 ⟨(some 49), .call, [.c (.fn (.func 53) [] []), .t 45, .t 46, .t 47, .t 48], (some (44, false))⟩,
 ⟨(some 50), (.p (.un .not)), [.t 49], (some (44, false))⟩,
 ⟨(some 51), (.p .pick), [.t 44, .c (.bool true), .t 50], none⟩])
 (.cond (.t 51)
 (.seq
 (.ops [
 ⟨(some 52), (.p .mov), [.t 14], none⟩,
 ⟨(some 12), (.p .mov), [.t 52], none⟩,
 ⟨(some 13), (.p .mov), [.c (.int .i64 8)], none⟩])
 (.ret [12, 13]))
 .skip))
 (.seq
 (.ops [
 ⟨(some 53), (.p .mov), [.t 14], none⟩,
 ⟨(some 54), (.p .mov), [.t 4], none⟩,
 ⟨(some 55), (.p .mov), [.t 5], none⟩,
 ⟨(some 56), (.p (.iaddr 1)), [.t 53, .t 54], none⟩,
 ⟨none, (.h (.store 1)), [.t 56, .t 55], none⟩])
 (.seq
 (.ops [
 ⟨(some 57), (.p .mov), [.t 14], none⟩,
 ⟨(some 12), (.p .mov), [.t 57], none⟩,
 ⟨(some 13), (.p .mov), [.c (.int .i64 0)], none⟩])
 (.ret [12, 13])))))))))
def r12_Declare_I : FInfo := ⟨(.fz false), 6, r12_Declare_C, [.tmp 12, .tmp 13]⟩
def r12_Declare_A : Ann := ⟨[], [], [], [], [6, 15]⟩
abbrev n_r12_Declare : Nat := 31

/-! ### balise/baliseref01.Rise -/
def r01_Rise_B2 : CCode :=
 (.seq
 (.seq
 (.ops [
 ⟨(some 6), (.p .mov), [.t 5], none⟩,
 ⟨(some 7), (.p .mov), [.t 0], none⟩,
 ⟨(some 8), (.p .len), [.t 7], none⟩,
 ⟨(some 9), (.p (.bin .lss .ifc)), [.t 6, .t 8], none⟩])
 (.cond (.t 9)
 .skip
 (.exit 2)))
 (.seq
 (.block 3 (some [0, 3, 4, 5])
 (.seq
 (.ops [
 ⟨(some 12), (.p .mov), [.t 3], none⟩,
 ⟨(some 13), (.p .len), [.t 12], none⟩,
 ⟨(some 14), (.p (.bin .eql .int)), [.t 13, .c (.int .i64 0)], none⟩,
 ⟨(some 15), (.p .mov), [.t 14], none⟩,
 ⟨(some 16), (.p .mov), [.t 0], (some (15, false))⟩,
 ⟨(some 17), (.p .mov), [.t 5], (some (15, false))⟩,
 ⟨(some 18), (.p (.iaddr 1)), [.t 16, .t 17], (some (15, false))⟩,
 ⟨(some 19), (.h (.load false 1)), [.t 18], (some (15, false))⟩,
 ⟨(some 20), (.p .mov), [.t 3], (some (15, false))⟩,
 ⟨(some 21), (.p .mov), [.t 3], (some (15, false))⟩,
 ⟨(some 22), (.p .len), [.t 21], (some (15, false))⟩,
 ⟨(some 23), (.p (.bin .sub .ifc)), [.t 22, .c (.int .i64 1)], (some (15, false))⟩,
 ⟨(some 24), (.p (.iaddr 1)), [.t 20, .t 23], (some (15, false))⟩,
 ⟨(some 25), (.h (.load false 1)), [.t 24], (some (15, false))⟩,
 ⟨(some 26), (.p (.bin .gtr .ifc)), [.t 19, .t 25], (some (15, false))⟩,
 ⟨(some 27), (.p .pick), [.t 15, .c (.bool true), .t 26], none⟩,
 ⟨(some 28), (.p .mov), [.t 27], none⟩,
 ⟨(some 29), (.p .mov), [.t 4], (some (28, true))⟩,
 ⟨(some 30), (.p (.bin .lss .ifc)), [.t 29, .c (.int .i64 0)], (some (28, true))⟩,
 ⟨(some 31), (.p .mov), [.t 30], (some (28, true))⟩,
 ⟨(some 32), (.p .mov), [.t 0], (some (31, false))⟩,
 ⟨(some 33), (.p .mov), [.t 5], (some (31, false))⟩,
 ⟨(some 34), (.p (.iaddr 1)), [.t 32, .t 33], (some (31, false))⟩,
 ⟨(some 35), (.h (.load false 1)), [.t 34], (some (31, false))⟩,
 ⟨(some 36), (.p .mov), [.t 0], (some (31, false))⟩,
 ⟨(some 37), (.p .mov), [.t 4], (some (31, false))⟩,
 ⟨(some 38), (.p (.iaddr 1)), [.t 36, .t 37], (some (31, false))⟩,
 ⟨(some 39), (.h (.load false 1)), [.t 38], (some (31, false))⟩,
 ⟨(some 40), (.p (.bin .lss .ifc)), [.t 35, .t 39], (some (31, false))⟩,
 ⟨(some 41), (.p .pick), [.t 31, .c (.bool true), .t 40], (some (28, true))⟩,
 ⟨(some 42), (.p .pick), [.t 28, .t 41, .c (.bool false)], none⟩])
 (.cond (.t 42)
 (.ops [
 ⟨(some 43), (.p .mov), [.t 5], none⟩,
 ⟨(some 4), (.p .mov), [.t 43], none⟩])
 .skip)))
 (.ops [
 ⟨(some 10), (.p .mov), [.t 5], none⟩,
 ⟨(some 11), (.p (.bin .add .ifc)), [.t 10, .c (.int .i64 1)], none⟩,
 ⟨(some 5), (.p .mov), [.t 11], none⟩])))
def r01_Rise_L2 : CCode := .bloop 2 [0, 3, 4, 5] [0, 3, 4] r01_Rise_B2

def r01_Rise_B0 : CCode :=
 (.block 1 (some [0, 3])
 (.seq
 (.ops [
 ⟨(some 4), (.p .mov), [.c (.int .i64 (-1))], none⟩])
 (.seq
 (.seq
 (.ops [
 ⟨(some 5), (.p .mov), [.c (.int .i64 0)], none⟩])
 r01_Rise_L2)
 (.seq
 (.seq
 (.ops [
 ⟨(some 44), (.p .mov), [.t 4], none⟩,
 ⟨(some 45), (.p (.bin .lss .ifc)), [.t 44, .c (.int .i64 0)], none⟩])
 (.cond (.t 45)
 (.seq
 (.ops [
 ⟨(some 46), (.p .mov), [.t 3], none⟩,
 ⟨(some 2), (.p .mov), [.t 46], none⟩])
 (.ret [2]))
 .skip))
 (.ops [
 ⟨(some 47), (.p .mov), [.t 3], none⟩,
 ⟨(some 48), (.p .mov), [.t 0], none⟩,
 ⟨(some 49), (.p .mov), [.t 4], none⟩,
 ⟨(some 50), (.p (.iaddr 1)), [.t 48, .t 49], none⟩,
 ⟨(some 51), (.h (.load false 1)), [.t 50], none⟩,
 ⟨(some 52), (.h (.bslF 1 1 [(.int .i64 0)] [(0, 1)])), [.t 51], none⟩,
 ⟨(some 53), (.h (.app 1 8 [(.int .i64 0)])), [.t 47, .t 52], none⟩,
 ⟨(some 3), (.p .mov), [.t 53], none⟩])))))
def r01_Rise_L0 : CCode := .bloop 0 [0, 3] [] r01_Rise_B0
def r01_Rise_C : CCode :=
 (.seq
 (.ops [
 ⟨(some 2), (.p .mov), [.c .nils], none⟩])
 (.seq
 (.ops [
 ⟨(some 3), (.p .mov), [.c .nils], none⟩])
 r01_Rise_L0))
def r01_Rise_I : FInfo := ⟨(.fz false), 1, r01_Rise_C, [.tmp 2]⟩
def r01_Rise_A : Ann := ⟨[], [], [(0, [0, 3], []), (2, [0, 3, 4, 5], [0, 3, 4])], [(1, [0, 3]), (3, [0, 3, 4, 5])], []⟩
abbrev n_r01_Rise : Nat := 44

/-! ### balise/baliseref04.Make -/
def r04_Make_B1 : CCode :=
 (.seq
 (.seq
 (.ops [
 ⟨(some 67), (.p .mov), [.t 9], none⟩,
 ⟨(some 68), (.p .mov), [.t 8], none⟩,
 ⟨(some 69), (.p (.bin .leq .ifc)), [.t 67, .t 68], none⟩])
 (.cond (.t 69)
 .skip
 (.exit 1)))
 (.seq
 (.block 2 (some [1, 2, 3, 6, 7, 8, 9])
 (.ops [
 ⟨(some 72), (.p (.faddr 0)), [.t 6], none⟩,
 ⟨(some 73), (.h (.load false 1)), [.t 72], none⟩,
 ⟨(some 74), (.p .mov), [.t 3], none⟩,
 ⟨(some 75), (.p .mov), [.t 9], none⟩,
 ⟨(some 76), (.p (.bin .mul .ifc)), [.t 74, .t 75], none⟩,
 ⟨(some 77), (.p (.toFloat .f64)), [.t 76], none⟩,
 ⟨(some 78), (.p .cplx), [.t 77, .c (.float .f64 0)], none⟩,
 ⟨(some 79), (.h (.bslF 1 1 [(.cplx .f64 0 0)] [(0, 1)])), [.t 78], none⟩,
 ⟨(some 80), (.h (.app 1 16 [(.cplx .f64 0 0)])), [.t 73, .t 79], none⟩,
 ⟨(some 81), (.p (.faddr 0)), [.t 6], none⟩,
 ⟨none, (.h (.store 1)), [.t 81, .t 80], none⟩]))
 (.ops [
 ⟨(some 70), (.p .mov), [.t 9], none⟩,
 ⟨(some 71), (.p (.bin .add .ifc)), [.t 70, .c (.int .i64 1)], none⟩,
 ⟨(some 9), (.p .mov), [.t 71], none⟩])))
def r04_Make_L1 : CCode := .bloop 1 [1, 2, 3, 6, 7, 8, 9] [1, 2, 3, 6, 7, 8] r04_Make_B1

def r04_Make_B3 : CCode :=
 (.seq
 (.seq
 (.ops [
 ⟨(some 82), (.p .mov), [.t 10], none⟩,
 ⟨(some 83), (.p .mov), [.t 8], none⟩,
 ⟨(some 84), (.p (.bin .lss .ifc)), [.t 82, .t 83], none⟩])
 (.cond (.t 84)
 .skip
 (.exit 3)))
 (.seq
 (.block 4 (some [1, 2, 3, 6, 7, 8, 10])
 (.ops [
 ⟨(some 87), (.p .mov), [.t 7], none⟩,
 ⟨(some 88), (.p .mov), [.t 10], none⟩,
 ⟨(some 89), (.p .mov), [.t 10], none⟩,
 ⟨(some 90), (.p (.bin .add .ifc)), [.t 89, .c (.int .i64 1)], none⟩,
 ⟨(some 91), (.p (.bld [(.int .i64 0), (.int .i64 0)] [(0, 1), (1, 1)])), [.t 88, .t 90], none⟩,
 ⟨(some 92), (.h (.bslF 2 1 [(.int .i64 0), (.int .i64 0)] [(0, 2)])), [.t 91], none⟩,
 ⟨(some 93), (.h (.app 2 16 [(.int .i64 0), (.int .i64 0)])), [.t 87, .t 92], none⟩,
 ⟨(some 7), (.p .mov), [.t 93], none⟩]))
 (.ops [
 ⟨(some 85), (.p .mov), [.t 10], none⟩,
 ⟨(some 86), (.p (.bin .add .ifc)), [.t 85, .c (.int .i64 1)], none⟩,
 ⟨(some 10), (.p .mov), [.t 86], none⟩])))
def r04_Make_L3 : CCode := .bloop 3 [1, 2, 3, 6, 7, 8, 10] [1, 2, 3, 6, 7] r04_Make_B3

def r04_Make_B5 : CCode :=
 (.seq
 (.seq
 (.ops [
 ⟨(some 150), (.p .mov), [.t 11], none⟩,
 ⟨(some 151), (.p .mov), [.t 7], none⟩,
 ⟨(some 152), (.p .len), [.t 151], none⟩,
 ⟨(some 153), (.p (.bin .lss .ifc)), [.t 150, .t 152], none⟩])
 (.cond (.t 153)
 .skip
 (.exit 5)))
 (.seq
 (.block 6 (some [1, 2, 3, 6, 7, 11])
 (.ops [
 ⟨(some 156), (.p (.faddr 1)), [.t 6], none⟩,
 ⟨(some 157), (.h (.load false 1)), [.t 156], none⟩,
 ⟨(some 158), (.p .mov), [.t 3], none⟩,
 ⟨(some 159), (.p (.bin .mul .ifc)), [.c (.int .i64 2), .t 158], none⟩,
 ⟨(some 160), (.p .mov), [.t 11], none⟩,
 ⟨(some 161), (.p (.bin .rem .ifc)), [.t 160, .c (.int .i64 3)], none⟩,
 ⟨(some 162), (.p (.bin .add .ifc)), [.t 159, .t 161], none⟩,
 ⟨(some 163), (.p .mov), [.t 7], none⟩,
 ⟨(some 164), (.p .mov), [.t 11], none⟩,
 ⟨(some 165), (.p (.iaddr 2)), [.t 163, .t 164], none⟩,
 ⟨(some 166), (.p (.iaddrA 2 1)), [.t 165, .c (.int .i64 0)], none⟩,
 ⟨(some 167), (.h (.load false 1)), [.t 166], none⟩,
 ⟨(some 168), (.p .mov), [.t 7], none⟩,
 ⟨(some 169), (.p .mov), [.t 11], none⟩,
 ⟨(some 170), (.p (.iaddr 2)), [.t 168, .t 169], none⟩,
 ⟨(some 171), (.p (.iaddrA 2 1)), [.t 170, .c (.int .i64 1)], none⟩,
 ⟨(some 172), (.h (.load false 1)), [.t 171], none⟩,
 ⟨(some 173), (.p (.bld [(.int .i64 0), (.int .i64 0), (.int .i64 0)] [(0, 1), (1, 1), (2, 1)])), [.t 162, .t 167, .t 172], none⟩,
 ⟨(some 174), (.h (.bslF 3 1 [(.int .i64 0), (.int .i64 0), (.int .i64 0)] [(0, 3)])), [.t 173], none⟩,
 ⟨(some 175), (.h (.app 3 24 [(.int .i64 0), (.int .i64 0), (.int .i64 0)])), [.t 157, .t 174], none⟩,
 ⟨(some 176), (.p (.faddr 1)), [.t 6], none⟩,
 ⟨none, (.h (.store 1)), [.t 176, .t 175], none⟩]))
 (.ops [
 ⟨(some 154), (.p .mov), [.t 11], none⟩,
 ⟨(some 155), (.p (.bin .add .ifc)), [.t 154, .c (.int .i64 1)], none⟩,
 ⟨(some 11), (.p .mov), [.t 155], none⟩])))
def r04_Make_L5 : CCode := .bloop 5 [1, 2, 3, 6, 7, 11] [1, 2, 3, 6, 7] r04_Make_B5

def r04_Make_B7 : CCode :=
 (.seq
 (.seq
 (.ops [
 ⟨(some 177), (.p .mov), [.t 12], none⟩,
 ⟨(some 178), (.p .mov), [.t 7], none⟩,
 ⟨(some 179), (.p .len), [.t 178], none⟩,
 ⟨(some 180), (.p (.bin .lss .ifc)), [.t 177, .t 179], none⟩])
 (.cond (.t 180)
 .skip
 (.exit 7)))
 (.seq
 (.block 8 (some [1, 2, 3, 6, 7, 12])
 (.seq
 (.ops [
 ⟨(some 183), (.p .mov), [.t 12], none⟩,
 ⟨(some 184), (.p (.bin .gtr .ifc)), [.t 183, .c (.int .i64 0)], none⟩,
 ⟨(some 185), (.p .mov), [.t 184], none⟩,
 ⟨(some 186), (.p (.faddr 7)), [.t 1], (some (185, true))⟩,
 ⟨(some 187), (.h (.load false 1)), [.t 186], (some (185, true))⟩,
 ⟨(some 188), (.p .mov), [.t 12], (some (185, true))⟩,
 ⟨(some 189), (.p (.bin .rem .ifc)), [.t 188, .c (.int .i64 8)], (some (185, true))⟩,
 ⟨(some 190), (.p (.bin .shr .ifc)), [.t 187, .t 189], (some (185, true))⟩,
 ⟨(some 191), (.p (.bin .rem .ifc)), [.t 190, .c (.int .u8 2)], (some (185, true))⟩,
 ⟨(some 192), (.p (.bin .eql .int)), [.t 191, .c (.int .u8 1)], (some (185, true))⟩,
 ⟨(some 193), (.p .pick), [.t 185, .t 192, .c (.bool false)], none⟩])
 (.cond (.t 193)
 (.ops [
 ⟨(some 194), (.p (.faddr 2)), [.t 6], none⟩,
 ⟨(some 195), (.hl 6 (.load false 1)), [.t 194], none⟩,
 ⟨(some 196), (.p (.faddr 2)), [.t 6], none⟩,
 ⟨(some 197), (.hl 6 (.load false 1)), [.t 196], none⟩,
 ⟨(some 198), (.p .len), [.t 197], none⟩,
 ⟨(some 199), (.p (.bin .sub .ifc)), [.t 198, .c (.int .i64 1)], none⟩,
 ⟨(some 200), (.p (.faddr 2)), [.t 6], none⟩,
 ⟨(some 201), (.hl 6 (.load false 1)), [.t 200], none⟩,
 ⟨(some 202), (.p (.faddr 2)), [.t 6], none⟩,
 ⟨(some 203), (.hl 6 (.load false 1)), [.t 202], none⟩,
 ⟨(some 204), (.p .len), [.t 203], none⟩,
 ⟨(some 205), (.p (.bin .sub .ifc)), [.t 204, .c (.int .i64 1)], none⟩,
 ⟨(some 206), (.p (.iaddr 1)), [.t 201, .t 205], none⟩,
 ⟨(some 207), (.hb (.load false 1)), [.t 206], none⟩,
 ⟨(some 208), (.p .mov), [.t 12], none⟩,
 ⟨(some 209), (.h (.bslF 1 1 [(.int .i64 0)] [(0, 1)])), [.t 208], none⟩,
 ⟨(some 210), (.hb (.app 1 8 [(.int .i64 0)])), [.t 207, .t 209], none⟩,
 ⟨(some 211), (.p (.iaddr 1)), [.t 195, .t 199], none⟩,
 ⟨none, (.hb (.store 1)), [.t 211, .t 210], none⟩])
 (.ops [
 ⟨(some 212), (.p (.faddr 2)), [.t 6], none⟩,
 ⟨(some 213), (.h (.load false 1)), [.t 212], none⟩,
 ⟨(some 214), (.p .mov), [.t 12], none⟩,
 ⟨(some 215), (.h (.bslO 1 1 [(.int .i64 0)] [(0, 1)])), [.t 214], none⟩,
 ⟨(some 216), (.h (.bslO 1 1 [.nils] [(0, 1)])), [.t 215], none⟩,
 ⟨(some 217), (.h (.app 1 24 [.nils])), [.t 213, .t 216], none⟩,
 ⟨(some 218), (.p (.faddr 2)), [.t 6], none⟩,
 ⟨none, (.h (.store 1)), [.t 218, .t 217], none⟩]))))
 (.ops [
 ⟨(some 181), (.p .mov), [.t 12], none⟩,
 ⟨(some 182), (.p (.bin .add .ifc)), [.t 181, .c (.int .i64 1)], none⟩,
 ⟨(some 12), (.p .mov), [.t 182], none⟩])))
def r04_Make_L7 : CCode := .bloop 7 [1, 2, 3, 6, 7, 12] [1, 2, 3, 6] r04_Make_B7
def r04_Make_C : CCode :=
 (.seq
 (.ops [
 ⟨(some 1), (.h (.box 1)), [.t 0], none⟩,
 ⟨(some 2), (.h (.newl 2 [.nils, .nils, .nils, .nils, .nils, (.int .i64 0), (.int .i64 0), (.int .i64 0), (.int .i64 0), (.int .i64 0)])), [], none⟩])
 (.seq
 (.ops [
 ⟨(some 13), (.p (.faddr 1)), [.t 1], none⟩,
 ⟨(some 14), (.h (.load false 1)), [.t 13], none⟩,
 ⟨(some 15), (.p (.bin .rem .ifc)), [.t 14, .c (.int .u8 20)], none⟩,
 ⟨(some 16), (.p (.toInt .i64)), [.t 15], none⟩,
 ⟨(some 17), (.p (.bin .add .ifc)), [.c (.int .i64 1), .t 16], none⟩,
 ⟨(some 18), (.p (.bin .mul .ifc)), [.c (.int .i64 10), .t 17], none⟩,
 ⟨(some 3), (.p .mov), [.t 18], none⟩])
 (.seq
 (.ops [
 ⟨(some 19), (.p .mov), [.t 3], none⟩,
 ⟨(some 20), (.p (.toFloat .f64)), [.t 19], none⟩,
 ⟨(some 21), (.p .cplx), [.t 20, .c (.float .f64 0)], none⟩,
 ⟨(some 4), (.p .mov), [.t 21], none⟩])
 (.seq
 (.ops [
 ⟨(some 22), (.p .mov), [.t 3], none⟩,
 ⟨(some 23), (.p (.toFloat .f64)), [.t 22], none⟩,
 ⟨(some 24), (.p .cplx), [.c (.float .f64 0), .t 23], none⟩,
 ⟨(some 5), (.p .mov), [.t 24], none⟩])
 (.seq
 (.ops [
 ⟨(some 6), (.h (.newl 6 [.nils, .nils, .nils, .nils, .nils, (.int .i64 0), (.int .i64 0), (.int .i64 0), (.int .i64 0), (.int .i64 0)])), [], none⟩])
 (.seq
 (.ops [
 ⟨(some 7), (.p .mov), [.c .nils], none⟩])
 (.seq
 (.seq
 (.ops [
 ⟨(some 25), (.p (.faddr 0)), [.t 1], none⟩,
 ⟨(some 26), (.h (.load false 1)), [.t 25], none⟩,
 ⟨(some 27), (.p (.bin .rem .ifc)), [.t 26, .c (.int .u8 4)], none⟩])
 (.block 0 (some [1, 2, 3, 6, 7])
 (.seq
 (.ops [
 ⟨(some 60), (.p (.bin .eql .int)), [.t 27, .c (.int .u8 0)], none⟩,
 ⟨(some 59), (.p .mov), [.t 60], none⟩])
 (.cond (.t 59)
 (.seq
 (.ops [
 ⟨(some 61), (.p (.faddr 0)), [.t 1], none⟩,
 ⟨(some 62), (.h (.load false 1)), [.t 61], none⟩,
 ⟨(some 63), (.p (.bin .quo .ifc)), [.t 62, .c (.int .u8 4)], none⟩,
 ⟨(some 64), (.p (.bin .rem .ifc)), [.t 63, .c (.int .u8 6)], none⟩,
 ⟨(some 65), (.p (.toInt .i64)), [.t 64], none⟩,
 ⟨(some 66), (.p (.bin .add .ifc)), [.c (.int .i64 3), .t 65], none⟩,
 ⟨(some 8), (.p .mov), [.t 66], none⟩])
 (.seq
 (.seq
 (.ops [
 ⟨(some 9), (.p .mov), [.c (.int .i64 0)], none⟩])
 r04_Make_L1)
 (.seq
 (.ops [
 ⟨(some 10), (.p .mov), [.c (.int .i64 0)], none⟩])
 r04_Make_L3)))
 (.seq
 (.ops [
 ⟨(some 95), (.p (.bin .eql .int)), [.t 27, .c (.int .u8 1)], none⟩,
 ⟨(some 94), (.p .mov), [.t 95], none⟩])
 (.cond (.t 94)
 (.seq
 (.ops [
 ⟨(some 96), (.p .mov), [.t 4], none⟩,
 ⟨(some 97), (.p .mov), [.t 4], none⟩,
 ⟨(some 98), (.p (.bin .mul .ifc)), [.c (.cplx .f64 4611686018427387904 0), .t 97], none⟩,
 ⟨(some 99), (.p .mov), [.t 5], none⟩,
 ⟨(some 100), (.p (.bin .add .ifc)), [.t 98, .t 99], none⟩,
 ⟨(some 101), (.p .mov), [.t 4], none⟩,
 ⟨(some 102), (.p (.bin .mul .ifc)), [.c (.cplx .f64 4611686018427387904 0), .t 101], none⟩,
 ⟨(some 103), (.p .mov), [.t 5], none⟩,
 ⟨(some 104), (.p (.bin .sub .ifc)), [.t 102, .t 103], none⟩,
 ⟨(some 105), (.h (.bslF 1 4 [(.cplx .f64 0 0)] [(0, 1), (1, 1), (2, 1), (3, 1)])), [.c (.cplx .f64 0 0), .t 96, .t 100, .t 104], none⟩,
 ⟨(some 106), (.p (.faddr 0)), [.t 6], none⟩,
 ⟨none, (.h (.store 1)), [.t 106, .t 105], none⟩])
 (.seq
 (.ops [
 ⟨(some 107), (.p (.bld [(.int .i64 0), (.int .i64 0)] [(0, 1), (1, 1)])), [.c (.int .i64 0), .c (.int .i64 1)], none⟩,
 ⟨(some 108), (.p (.bld [(.int .i64 0), (.int .i64 0)] [(0, 1), (1, 1)])), [.c (.int .i64 1), .c (.int .i64 2)], none⟩,
 ⟨(some 109), (.p (.bld [(.int .i64 0), (.int .i64 0)] [(0, 1), (1, 1)])), [.c (.int .i64 3), .c (.int .i64 1)], none⟩,
 ⟨(some 110), (.h (.bslO 2 3 [(.int .i64 0), (.int .i64 0)] [(0, 2), (2, 2), (4, 2)])), [.t 107, .t 108, .t 109], none⟩,
 ⟨(some 7), (.p .mov), [.t 110], none⟩])
 (.ops [
 ⟨(some 111), (.p (.bld [(.int .i64 0), (.int .i64 0), (.int .i64 0), (.int .i64 0)] [(0, 1), (1, 1), (2, 1), (3, 1)])), [.c (.int .i64 1), .c (.int .i64 0), .c (.int .i64 1), .c (.int .i64 2)], none⟩,
 ⟨(some 112), (.h (.bslF 4 1 [(.int .i64 0), (.int .i64 0), (.int .i64 0), (.int .i64 0)] [(0, 4)])), [.t 111], none⟩,
 ⟨(some 113), (.p (.faddr 3)), [.t 6], none⟩,
 ⟨none, (.h (.store 1)), [.t 113, .t 112], none⟩])))
 (.seq
 (.ops [
 ⟨(some 115), (.p (.bin .eql .int)), [.t 27, .c (.int .u8 2)], none⟩,
 ⟨(some 114), (.p .mov), [.t 115], none⟩])
 (.cond (.t 114)
 (.seq
 (.ops [
 ⟨(some 116), (.p .mov), [.t 4], none⟩,
 ⟨(some 117), (.p .mov), [.t 4], none⟩,
 ⟨(some 118), (.p (.bin .mul .ifc)), [.c (.cplx .f64 4611686018427387904 0), .t 117], none⟩,
 ⟨(some 119), (.p .mov), [.t 4], none⟩,
 ⟨(some 120), (.p (.bin .mul .ifc)), [.c (.cplx .f64 4613937818241073152 0), .t 119], none⟩,
 ⟨(some 121), (.p .mov), [.t 5], none⟩,
 ⟨(some 122), (.p (.bin .quo .ifc)), [.t 121, .c (.cplx .f64 4611686018427387904 0)], none⟩,
 ⟨(some 123), (.p (.bin .add .ifc)), [.t 120, .t 122], none⟩,
 ⟨(some 124), (.p .mov), [.t 4], none⟩,
 ⟨(some 125), (.p (.bin .mul .ifc)), [.c (.cplx .f64 4613937818241073152 0), .t 124], none⟩,
 ⟨(some 126), (.p .mov), [.t 5], none⟩,
 ⟨(some 127), (.p (.bin .quo .ifc)), [.t 126, .c (.cplx .f64 4611686018427387904 0)], none⟩,
 ⟨(some 128), (.p (.bin .sub .ifc)), [.t 125, .t 127], none⟩,
 ⟨(some 129), (.p .mov), [.t 4], none⟩,
 ⟨(some 130), (.p (.bin .mul .ifc)), [.c (.cplx .f64 4616189618054758400 0), .t 129], none⟩,
 ⟨(some 131), (.p .mov), [.t 4], none⟩,
 ⟨(some 132), (.p (.bin .mul .ifc)), [.c (.cplx .f64 4617315517961601024 0), .t 131], none⟩,
 ⟨(some 133), (.p .mov), [.t 4], none⟩,
 ⟨(some 134), (.p (.bin .mul .ifc)), [.c (.cplx .f64 4618441417868443648 0), .t 133], none⟩,
 ⟨(some 135), (.h (.bslF 1 8 [(.cplx .f64 0 0)] [(0, 1), (1, 1), (2, 1), (3, 1), (4, 1), (5, 1), (6, 1), (7, 1)])), [.c (.cplx .f64 0 0), .t 116, .t 118, .t 123, .t 128, .t 130, .t 132, .t 134], none⟩,
 ⟨(some 136), (.p (.faddr 0)), [.t 6], none⟩,
 ⟨none, (.h (.store 1)), [.t 136, .t 135], none⟩])
 (.seq
 (.ops [
 ⟨(some 137), (.p (.bld [(.int .i64 0), (.int .i64 0)] [(0, 1), (1, 1)])), [.c (.int .i64 0), .c (.int .i64 1)], none⟩,
 ⟨(some 138), (.p (.bld [(.int .i64 0), (.int .i64 0)] [(0, 1), (1, 1)])), [.c (.int .i64 1), .c (.int .i64 2)], none⟩,
 ⟨(some 139), (.p (.bld [(.int .i64 0), (.int .i64 0)] [(0, 1), (1, 1)])), [.c (.int .i64 2), .c (.int .i64 3)], none⟩,
 ⟨(some 140), (.p (.bld [(.int .i64 0), (.int .i64 0)] [(0, 1), (1, 1)])), [.c (.int .i64 2), .c (.int .i64 4)], none⟩,
 ⟨(some 141), (.p (.bld [(.int .i64 0), (.int .i64 0)] [(0, 1), (1, 1)])), [.c (.int .i64 5), .c (.int .i64 3)], none⟩,
 ⟨(some 142), (.p (.bld [(.int .i64 0), (.int .i64 0)] [(0, 1), (1, 1)])), [.c (.int .i64 4), .c (.int .i64 5)], none⟩,
 ⟨(some 143), (.p (.bld [(.int .i64 0), (.int .i64 0)] [(0, 1), (1, 1)])), [.c (.int .i64 5), .c (.int .i64 6)], none⟩,
 ⟨(some 144), (.p (.bld [(.int .i64 0), (.int .i64 0)] [(0, 1), (1, 1)])), [.c (.int .i64 6), .c (.int .i64 7)], none⟩,
 ⟨(some 145), (.h (.bslO 2 8 [(.int .i64 0), (.int .i64 0)] [(0, 2), (2, 2), (4, 2), (6, 2), (8, 2), (10, 2), (12, 2), (14, 2)])), [.t 137, .t 138, .t 139, .t 140, .t 141, .t 142, .t 143, .t 144], none⟩,
 ⟨(some 7), (.p .mov), [.t 145], none⟩])
 (.ops [
 ⟨(some 146), (.p (.bld [(.int .i64 0), (.int .i64 0), (.int .i64 0), (.int .i64 0)] [(0, 1), (1, 1), (2, 1), (3, 1)])), [.c (.int .i64 2), .c (.int .i64 1), .c (.int .i64 2), .c (.int .i64 3)], none⟩,
 ⟨(some 147), (.p (.bld [(.int .i64 0), (.int .i64 0), (.int .i64 0), (.int .i64 0)] [(0, 1), (1, 1), (2, 1), (3, 1)])), [.c (.int .i64 5), .c (.int .i64 6), .c (.int .i64 4), .c (.int .i64 5)], none⟩,
 ⟨(some 148), (.h (.bslF 4 2 [(.int .i64 0), (.int .i64 0), (.int .i64 0), (.int .i64 0)] [(0, 4), (4, 4)])), [.t 146, .t 147], none⟩,
 ⟨(some 149), (.p (.faddr 3)), [.t 6], none⟩,
 ⟨none, (.h (.store 1)), [.t 149, .t 148], none⟩])))
 (.seq
 (.ops [
 ⟨(some 28), (.p .mov), [.t 4], none⟩,
 ⟨(some 29), (.p .mov), [.t 4], none⟩,
 ⟨(some 30), (.p (.bin .mul .ifc)), [.c (.cplx .f64 4611686018427387904 0), .t 29], none⟩,
 ⟨(some 31), (.p .mov), [.t 4], none⟩,
 ⟨(some 32), (.p (.bin .mul .ifc)), [.c (.cplx .f64 4613937818241073152 0), .t 31], none⟩,
 ⟨(some 33), (.p .mov), [.t 5], none⟩,
 ⟨(some 34), (.p (.bin .add .ifc)), [.t 32, .t 33], none⟩,
 ⟨(some 35), (.p .mov), [.t 4], none⟩,
 ⟨(some 36), (.p (.bin .mul .ifc)), [.c (.cplx .f64 4613937818241073152 0), .t 35], none⟩,
 ⟨(some 37), (.p .mov), [.t 5], none⟩,
 ⟨(some 38), (.p (.bin .sub .ifc)), [.t 36, .t 37], none⟩,
 ⟨(some 39), (.p .mov), [.t 4], none⟩,
 ⟨(some 40), (.p (.bin .mul .ifc)), [.c (.cplx .f64 4616189618054758400 0), .t 39], none⟩,
 ⟨(some 41), (.p .mov), [.t 5], none⟩,
 ⟨(some 42), (.p (.bin .add .ifc)), [.t 40, .t 41], none⟩,
 ⟨(some 43), (.p .mov), [.t 4], none⟩,
 ⟨(some 44), (.p (.bin .mul .ifc)), [.c (.cplx .f64 4616189618054758400 0), .t 43], none⟩,
 ⟨(some 45), (.p .mov), [.t 5], none⟩,
 ⟨(some 46), (.p (.bin .sub .ifc)), [.t 44, .t 45], none⟩,
 ⟨(some 47), (.h (.bslF 1 7 [(.cplx .f64 0 0)] [(0, 1), (1, 1), (2, 1), (3, 1), (4, 1), (5, 1), (6, 1)])), [.c (.cplx .f64 0 0), .t 28, .t 30, .t 34, .t 38, .t 42, .t 46], none⟩,
 ⟨(some 48), (.p (.faddr 0)), [.t 6], none⟩,
 ⟨none, (.h (.store 1)), [.t 48, .t 47], none⟩])
 (.seq
 (.ops [
 ⟨(some 49), (.p (.bld [(.int .i64 0), (.int .i64 0)] [(0, 1), (1, 1)])), [.c (.int .i64 0), .c (.int .i64 1)], none⟩,
 ⟨(some 50), (.p (.bld [(.int .i64 0), (.int .i64 0)] [(0, 1), (1, 1)])), [.c (.int .i64 2), .c (.int .i64 1)], none⟩,
 ⟨(some 51), (.p (.bld [(.int .i64 0), (.int .i64 0)] [(0, 1), (1, 1)])), [.c (.int .i64 2), .c (.int .i64 3)], none⟩,
 ⟨(some 52), (.p (.bld [(.int .i64 0), (.int .i64 0)] [(0, 1), (1, 1)])), [.c (.int .i64 2), .c (.int .i64 4)], none⟩,
 ⟨(some 53), (.p (.bld [(.int .i64 0), (.int .i64 0)] [(0, 1), (1, 1)])), [.c (.int .i64 3), .c (.int .i64 5)], none⟩,
 ⟨(some 54), (.p (.bld [(.int .i64 0), (.int .i64 0)] [(0, 1), (1, 1)])), [.c (.int .i64 4), .c (.int .i64 6)], none⟩,
 ⟨(some 55), (.h (.bslO 2 6 [(.int .i64 0), (.int .i64 0)] [(0, 2), (2, 2), (4, 2), (6, 2), (8, 2), (10, 2)])), [.t 49, .t 50, .t 51, .t 52, .t 53, .t 54], none⟩,
 ⟨(some 7), (.p .mov), [.t 55], none⟩])
 (.ops [
 ⟨(some 56), (.p (.bld [(.int .i64 0), (.int .i64 0), (.int .i64 0), (.int .i64 0)] [(0, 1), (1, 1), (2, 1), (3, 1)])), [.c (.int .i64 2), .c (.int .i64 1), .c (.int .i64 3), .c (.int .i64 2)], none⟩,
 ⟨(some 57), (.h (.bslF 4 1 [(.int .i64 0), (.int .i64 0), (.int .i64 0), (.int .i64 0)] [(0, 4)])), [.t 56], none⟩,
 ⟨(some 58), (.p (.faddr 3)), [.t 6], none⟩,
 ⟨none, (.h (.store 1)), [.t 58, .t 57], none⟩])))))))))))
 (.seq
 (.seq
 (.ops [
 ⟨(some 11), (.p .mov), [.c (.int .i64 0)], none⟩])
 r04_Make_L5)
 (.seq
 (.seq
 (.ops [
 ⟨(some 12), (.p .mov), [.c (.int .i64 0)], none⟩])
 r04_Make_L7)
 (.seq
 (.ops [
 ⟨(some 219), (.p (.faddr 2)), [.t 1], none⟩,
 ⟨(some 220), (.h (.load false 1)), [.t 219], none⟩,
 ⟨(some 221), (.p (.toInt .i64)), [.t 220], none⟩,
 ⟨(some 222), (.p .mov), [.t 3], none⟩,
 ⟨(some 223), (.p (.bin .mul .ifc)), [.c (.int .i64 2), .t 222], none⟩,
 ⟨(some 224), (.p (.bin .rem .ifc)), [.t 221, .t 223], none⟩,
 ⟨(some 225), (.p (.bin .add .ifc)), [.c (.int .i64 1), .t 224], none⟩,
 ⟨(some 226), (.p (.faddr 5)), [.t 6], none⟩,
 ⟨none, (.h (.store 1)), [.t 226, .t 225], none⟩])
 (.seq
 (.ops [
 ⟨(some 227), (.p (.faddr 3)), [.t 1], none⟩,
 ⟨(some 228), (.hl 1 (.load false 1)), [.t 227], none⟩,
 ⟨(some 229), (.p (.bin .rem .ifc)), [.t 228, .c (.int .u16 1000)], none⟩,
 ⟨(some 230), (.p (.toInt .i64)), [.t 229], none⟩,
 ⟨(some 231), (.p (.bin .add .ifc)), [.c (.int .i64 1), .t 230], none⟩,
 ⟨(some 232), (.p (.faddr 4)), [.t 1], none⟩,
 ⟨(some 233), (.hl 1 (.load false 1)), [.t 232], none⟩,
 ⟨(some 234), (.p (.bin .rem .ifc)), [.t 233, .c (.int .u16 1000)], none⟩,
 ⟨(some 235), (.p (.toInt .i64)), [.t 234], none⟩,
 ⟨(some 236), (.p (.bin .add .ifc)), [.c (.int .i64 1), .t 235], none⟩,
 ⟨(some 237), (.p (.faddr 5)), [.t 1], none⟩,
 ⟨(some 238), (.hl 1 (.load false 1)), [.t 237], none⟩,
 ⟨(some 239), (.p (.toInt .i64)), [.t 238], none⟩,
 ⟨(some 240), (.p (.bin .add .ifc)), [.c (.int .i64 1), .t 239], none⟩,
 ⟨(some 241), (.p (.faddr 6)), [.t 1], none⟩,
 ⟨(some 242), (.hl 1 (.load false 1)), [.t 241], none⟩,
 ⟨(some 243), (.p (.bin .rem .ifc)), [.t 242, .c (.int .u8 4)], none⟩,
 ⟨(some 244), (.p (.toInt .i64)), [.t 243], none⟩,
 ⟨(some 245), (.p (.faddr 6)), [.t 6], none⟩,
 ⟨none, (.hl 6 (.store 1)), [.t 245, .t 231], none⟩,
 ⟨(some 246), (.p (.faddr 7)), [.t 6], none⟩,
 ⟨none, (.hl 6 (.store 1)), [.t 246, .t 236], none⟩,
 ⟨(some 247), (.p (.faddr 8)), [.t 6], none⟩,
 ⟨none, (.hl 6 (.store 1)), [.t 247, .t 240], none⟩,
 ⟨(some 248), (.p (.faddr 9)), [.t 6], none⟩,
 ⟨none, (.hl 6 (.store 1)), [.t 248, .t 244], none⟩])
 (.seq
 (.ops [
 ⟨(some 249), (.h (.load true 10)), [.t 6], none⟩,
 ⟨none, (.h (.store 10)), [.t 2, .t 249], none⟩])
 (.ret [2])))))))))))))
def r04_Make_I : FInfo := ⟨(.fz true), 1, r04_Make_C, [.cell 2 true 10]⟩
def r04_Make_A : Ann := ⟨[], [55, 110, 145, 215, 216], [(1, [1, 2, 3, 6, 7, 8, 9], [1, 2, 3, 6, 7, 8]), (3, [1, 2, 3, 6, 7, 8, 10], [1, 2, 3, 6, 7]), (5, [1, 2, 3, 6, 7, 11], [1, 2, 3, 6, 7]), (7, [1, 2, 3, 6, 7, 12], [1, 2, 3, 6])], [(0, [1, 2, 3, 6, 7]), (2, [1, 2, 3, 6, 7, 8, 9]), (4, [1, 2, 3, 6, 7, 8, 10]), (6, [1, 2, 3, 6, 7, 11]), (8, [1, 2, 3, 6, 7, 12])], [1, 2, 6]⟩
abbrev n_r04_Make : Nat := 47

/-! ### balise/baliseref05.Walk -/
def r05_Walk_B0 : CCode :=
 (.seq
 (.seq
 (.ops [
 ⟨(some 21), (.p .mov), [.t 11], none⟩,
 ⟨(some 22), (.p .len), [.t 21], none⟩,
 ⟨(some 23), (.p .mov), [.t 4], none⟩,
 ⟨(some 24), (.p (.bin .lss .ifc)), [.t 22, .t 23], none⟩])
 (.cond (.t 24)
 .skip
 (.exit 0)))
 (.seq
 (.block 1 (some [3, 4, 5, 11, 12, 13])
 (.seq
 (.ops [
 ⟨(some 27), (.h (.load true 10)), [.t 5], none⟩,
 ⟨(some 28), (.h (.load true 2)), [.t 12], none⟩,
 ⟨(some 29), .call, [.c (.fn (.func 78) [] []), .t 27, .t 28], none⟩,
 ⟨(some 14), (.p .mov), [.t 29], none⟩])
 (.seq
 (.seq
 (.ops [
 ⟨(some 30), (.p .mov), [.t 14], none⟩,
 ⟨(some 31), (.p .len), [.t 30], none⟩,
 ⟨(some 32), (.p (.bin .eql .int)), [.t 31, .c (.int .i64 0)], none⟩])
 (.cond (.t 32)
 (.seq
 (.ops [
 ⟨(some 33), (.p .mov), [.t 11], none⟩,
 ⟨(some 10), (.p .mov), [.t 33], none⟩])
 (.ret [10]))
 .skip))
 (.seq
 (.ops [
 ⟨(some 15), (.p .mov), [.c (.int .i64 0)], none⟩])
 (.seq
 (.seq
 (.ops [
 ⟨(some 34), (.p .mov), [.t 13], none⟩,
 ⟨(some 35), (.p .mov), [.t 3], none⟩,
 ⟨(some 36), (.p .len), [.t 35], none⟩,
 ⟨(some 37), (.p (.bin .lss .ifc)), [.t 34, .t 36], none⟩])
 (.cond (.t 37)
 (.ops [
 ⟨(some 38), (.p .mov), [.t 3], none⟩,
 ⟨(some 39), (.p .mov), [.t 13], none⟩,
 ⟨(some 40), (.p (.iaddr 1)), [.t 38, .t 39], none⟩,
 ⟨(some 41), (.h (.load false 1)), [.t 40], none⟩,
 ⟨(some 42), (.p (.toInt .i64)), [.t 41], none⟩,
 ⟨(some 43), (.p .mov), [.t 14], none⟩,
 ⟨(some 44), (.p .len), [.t 43], none⟩,
 ⟨(some 45), (.p (.bin .rem .ifc)), [.t 42, .t 44], none⟩,
 ⟨(some 15), (.p .mov), [.t 45], none⟩])
 .skip))
 (.seq
 (.seq
 (.ops [
 ⟨(some 46), (.p .mov), [.t 11], none⟩,
 ⟨(some 47), (.p .mov), [.t 14], none⟩,
 ⟨(some 48), (.p .mov), [.t 15], none⟩,
 ⟨(some 49), (.p (.iaddr 2)), [.t 47, .t 48], none⟩,
 ⟨(some 50), (.p (.faddr 0)), [.t 49], none⟩,
 ⟨(some 51), (.h (.load false 1)), [.t 50], none⟩,
 ⟨(some 52), .call, [.c (.fn (.func 49) [] []), .t 46, .t 51], none⟩])
 (.cond (.t 52)
 (.seq
 (.ops [
 ⟨(some 53), (.p .mov), [.t 11], none⟩,
 ⟨(some 10), (.p .mov), [.t 53], none⟩])
 (.ret [10]))
 .skip))
 (.seq
 (.ops [
 ⟨(some 54), (.p .mov), [.t 11], none⟩,
 ⟨(some 55), (.p .mov), [.t 14], none⟩,
 ⟨(some 56), (.p .mov), [.t 15], none⟩,
 ⟨(some 57), (.p (.iaddr 2)), [.t 55, .t 56], none⟩,
 ⟨(some 58), (.p (.faddr 0)), [.t 57], none⟩,
 ⟨(some 59), (.h (.load false 1)), [.t 58], none⟩,
 ⟨(some 60), (.h (.bslF 1 1 [(.int .i64 0)] [(0, 1)])), [.t 59], none⟩,
 ⟨(some 61), (.h (.app 1 8 [(.int .i64 0)])), [.t 54, .t 60], none⟩,
 ⟨(some 11), (.p .mov), [.t 61], none⟩])
 (.ops [
 ⟨(some 62), (.p .mov), [.t 14], none⟩,
 ⟨(some 63), (.p .mov), [.t 15], none⟩,
 ⟨(some 64), (.p (.iaddr 2)), [.t 62, .t 63], none⟩,
 ⟨(some 65), (.p (.faddr 0)), [.t 64], none⟩,
 ⟨(some 66), (.h (.load false 1)), [.t 65], none⟩,
 ⟨(some 67), (.p .mov), [.t 14], none⟩,
 ⟨(some 68), (.p .mov), [.t 15], none⟩,
 ⟨(some 69), (.p (.iaddr 2)), [.t 67, .t 68], none⟩,
 ⟨(some 70), (.p (.faddr 1)), [.t 69], none⟩,
 ⟨(some 71), (.h (.load false 1)), [.t 70], none⟩,
 ⟨(some 72), (.p (.bin .sub .ifc)), [.c (.int .i64 1), .t 71], none⟩,
 ⟨(some 73), (.p (.bld [(.int .i64 0), (.int .i64 0)] [(0, 1), (1, 1)])), [.t 66, .t 72], none⟩,
 ⟨none, (.h (.store 2)), [.t 12, .t 73], none⟩]))))))))
 (.ops [
 ⟨(some 25), (.p .mov), [.t 13], none⟩,
 ⟨(some 26), (.p (.bin .add .ifc)), [.t 25, .c (.int .i64 1)], none⟩,
 ⟨(some 13), (.p .mov), [.t 26], none⟩])))
def r05_Walk_L0 : CCode := .bloop 0 [3, 4, 5, 11, 12, 13] [11] r05_Walk_B0
def r05_Walk_C : CCode :=
 (.seq
 (.ops [
 ⟨(some 5), (.h (.box 5)), [.t 0], none⟩,
 ⟨(some 10), (.p .mov), [.c .nils], none⟩])
 (.seq
 (.ops [
 ⟨(some 16), (.p .mov), [.t 1], none⟩,
 ⟨(some 17), (.h (.bslO 1 1 [(.int .i64 0)] [(0, 1)])), [.t 16], none⟩,
 ⟨(some 11), (.p .mov), [.t 17], none⟩])
 (.seq
 (.ops [
 ⟨(some 18), (.p .mov), [.t 1], none⟩,
 ⟨(some 19), (.p .mov), [.t 2], none⟩,
 ⟨(some 20), (.p (.bld [(.int .i64 0), (.int .i64 0)] [(0, 1), (1, 1)])), [.t 18, .t 19], none⟩,
 ⟨(some 12), (.h (.newl 12 [(.int .i64 0), (.int .i64 0)])), [], none⟩,
 ⟨none, (.h (.store 2)), [.t 12, .t 20], none⟩])
 (.seq
 (.seq
 (.ops [
 ⟨(some 13), (.p .mov), [.c (.int .i64 0)], none⟩])
 r05_Walk_L0)
 (.seq
 (.ops [
 ⟨(some 74), (.p .mov), [.t 11], none⟩,
 ⟨(some 10), (.p .mov), [.t 74], none⟩])
 (.ret [10]))))))
def r05_Walk_I : FInfo := ⟨(.fz false), 5, r05_Walk_C, [.tmp 10]⟩
def r05_Walk_A : Ann := ⟨[], [17], [(0, [3, 4, 5, 11, 12, 13], [11])], [(1, [3, 4, 5, 11, 12, 13])], [5, 12]⟩
abbrev n_r05_Walk : Nat := 48

/-! ### balise/baliseref01.Has -/
def r01_Has_B0 : CCode :=
 (.seq
 (.seq
 (.ops [
 ⟨(some 6), (.p .mov), [.t 5], none⟩,
 ⟨(some 7), (.p .mov), [.t 0], none⟩,
 ⟨(some 8), (.p .len), [.t 7], none⟩,
 ⟨(some 9), (.p (.bin .lss .ifc)), [.t 6, .t 8], none⟩])
 (.cond (.t 9)
 .skip
 (.exit 0)))
 (.seq
 (.block 1 (some [0, 1, 5])
 (.seq
 (.ops [
 ⟨(some 12), (.p .mov), [.t 0], none⟩,
 ⟨(some 13), (.p .mov), [.t 5], none⟩,
 ⟨(some 14), (.p (.iaddr 1)), [.t 12, .t 13], none⟩,
 ⟨(some 15), (.h (.load false 1)), [.t 14], none⟩,
 ⟨(some 16), (.p .mov), [.t 1], none⟩,
 ⟨(some 17), (.p (.bin .eql .int)), [.t 15, .t 16], none⟩])
 (.cond (.t 17)
 (.seq
 (.ops [
 ⟨(some 4), (.p .mov), [.c (.bool true)], none⟩])
 (.ret [4]))
 .skip)))
 (.ops [
 ⟨(some 10), (.p .mov), [.t 5], none⟩,
 ⟨(some 11), (.p (.bin .add .ifc)), [.t 10, .c (.int .i64 1)], none⟩,
 ⟨(some 5), (.p .mov), [.t 11], none⟩])))
def r01_Has_L0 : CCode := .bloop 0 [0, 1, 5] [] r01_Has_B0
def r01_Has_C : CCode :=
 (.seq
 (.ops [
 ⟨(some 4), (.p .mov), [.c (.bool false)], none⟩])
 (.seq
 (.seq
 (.ops [
 ⟨(some 5), (.p .mov), [.c (.int .i64 0)], none⟩])
 r01_Has_L0)
 (.seq
 (.ops [
 ⟨(some 4), (.p .mov), [.c (.bool false)], none⟩])
 (.ret [4]))))
def r01_Has_I : FInfo := ⟨(.fz false), 2, r01_Has_C, [.tmp 4]⟩
def r01_Has_A : Ann := ⟨[], [], [(0, [0, 1, 5], [])], [(1, [0, 1, 5])], []⟩
abbrev n_r01_Has : Nat := 49

/-! ### balise/graph.New -/
def graph_New_C : CCode :=
 (.seq
 (.ops [
 ⟨(some 1), (.h (.box 1)), [.t 0], none⟩,
 ⟨(some 2), (.p .mov), [.c .nilp], none⟩])
 (.seq
 (.ops [
 ⟨(some 3), (.h (.load true 10)), [.t 1], none⟩,
 ⟨(some 4), (.p (.bld [.nils, .nils, .nils, .nils, .nils, (.int .i64 0), (.int .i64 0), (.int .i64 0), (.int .i64 0), (.int .i64 0)] [(0, 10)])), [.t 3], none⟩,
 ⟨(some 5), (.h .boxh), [.t 4], none⟩,
 ⟨(some 2), (.p .mov), [.t 5], none⟩])
 (.ret [2])))
def graph_New_I : FInfo := ⟨(.fz false), 1, graph_New_C, [.tmp 2]⟩
def graph_New_A : Ann := ⟨[5], [], [], [], [1]⟩
abbrev n_graph_New : Nat := 50

/-! ### balise/own.alone -/
def own_alone_B0 : CCode :=
 (.seq
 (.ops [
 ⟨(some 20), (.p (.bin .lss .ifc)), [.t 19, .t 18], none⟩])
 (.seq
 (.cond (.t 20)
 .skip
 (.exit 0))
 (.seq
 (.block 1 (some [1, 7, 17, 18, 19])
 (.seq
 (.ops [
 ⟨(some 21), (.p (.iaddr 1)), [.t 17, .t 19], none⟩,
 ⟨(some 22), (.h (.load false 1)), [.t 21], none⟩,
 ⟨(some 9), (.p .mov), [.t 22], none⟩])
 (.seq
 (.ops [
 ⟨(some 23), (.p .mov), [.t 1], none⟩,
 ⟨(some 24), (.p .mov), [.t 9], none⟩,
 ⟨(some 25), (.p (.iaddr 1)), [.t 23, .t 24], none⟩,
 ⟨(some 26), (.h (.load false 1)), [.t 25], none⟩,
 ⟨(some 10), (.p .mov), [.t 26], none⟩])
 (.block 2 (some [1, 7, 17, 18, 19])
 (.seq
 (.ops [
 ⟨(some 29), (.p .mov), [.t 10], none⟩,
 ⟨(some 30), (.p (.bin .eql .int)), [.t 29, .c (.int .i64 (-2))], none⟩,
 ⟨(some 28), (.p .mov), [.t 30], none⟩])
 (.cond (.t 28)
 .skip
 (.seq
 (.seq
 (.ops [
 ⟨(some 32), (.p .mov), [.t 10], none⟩,
 ⟨(some 33), (.p (.bin .eql .int)), [.t 32, .c (.int .i64 (-1))], none⟩,
 ⟨(some 31), (.p .mov), [.t 33], none⟩])
 (.cond (.t 31)
 .skip
 (.ops [
 ⟨(some 34), (.p .mov), [.t 7], none⟩,
 ⟨(some 35), (.p (.bin .geq .ifc)), [.t 34, .c (.int .i64 0)], none⟩,
 ⟨(some 36), (.p .mov), [.t 35], none⟩,
 ⟨(some 37), (.p .mov), [.t 10], (some (36, true))⟩,
 ⟨(some 38), (.p .mov), [.t 7], (some (36, true))⟩,
 ⟨(some 39), (.p (.bin .neq .int)), [.t 37, .t 38], (some (36, true))⟩,
 ⟨(some 40), (.p .pick), [.t 36, .t 39, .c (.bool false)], none⟩,
 ⟨(some 31), (.p .mov), [.t 40], none⟩])))
 (.cond (.t 31)
 (.seq
 (.ops [
 ⟨(some 6), (.p .mov), [.c (.int .i64 (-1))], none⟩])
 (.ret [6]))
 (.ops [
 ⟨(some 27), (.p .mov), [.t 10], none⟩,
 ⟨(some 7), (.p .mov), [.t 27], none⟩])))))))))
 (.ops [
 ⟨(some 41), (.p (.bin .add .ifc)), [.t 19, .c (.int .i64 1)], none⟩,
 ⟨(some 19), (.p .mov), [.t 41], none⟩]))))
def own_alone_L0 : CCode := .bloop 0 [1, 7, 17, 18, 19] [7] own_alone_B0
def own_alone_C : CCode :=
 (.seq
 (.ops [
 ⟨(some 6), (.p .mov), [.c (.int .i64 0)], none⟩])
 (.seq
 (.ops [
 ⟨(some 11), (.p .mov), [.t 1], none⟩,
 ⟨(some 12), (.p .mov), [.t 2], none⟩,
 ⟨(some 13), (.p (.iaddr 1)), [.t 11, .t 12], none⟩,
 ⟨(some 14), (.h (.load false 1)), [.t 13], none⟩,
 ⟨(some 7), (.p .mov), [.t 14], none⟩])
 (.seq
 (.seq
 (.ops [
 ⟨(some 15), (.p .mov), [.t 0], none⟩,
 ⟨(some 16), (.p .mov), [.t 2], none⟩,
 ⟨(some 17), .call, [.c (.fn (.func 79) [] []), .t 15, .t 16], none⟩,
 ⟨(some 18), (.p .len), [.t 17], none⟩,
 ⟨(some 19), (.p .mov), [.c (.int .i64 0)], none⟩])
 own_alone_L0)
 (.seq
 (.ops [
 ⟨(some 42), (.p .mov), [.t 7], none⟩,
 ⟨(some 6), (.p .mov), [.t 42], none⟩])
 (.ret [6])))))
def own_alone_I : FInfo := ⟨(.fz false), 3, own_alone_C, [.tmp 6]⟩
def own_alone_A : Ann := ⟨[], [], [(0, [1, 7, 17, 18, 19], [7])], [(1, [1, 7, 17, 18, 19]), (2, [1, 7, 17, 18, 19])], []⟩
abbrev n_own_alone : Nat := 51

/-! ### balise/own.holds -/
def own_holds_C : CCode :=
 (.seq
 (.ops [
 ⟨(some 4), (.h (.box 4)), [.t 0], none⟩,
 ⟨(some 8), (.p .mov), [.c (.bool false)], none⟩])
 (.seq
 (.ops [
 ⟨(some 12), (.p .mov), [.t 1], none⟩,
 ⟨(some 13), (.p .mov), [.t 3], none⟩,
 ⟨(some 14), .call, [.c (.fn (.func 28) [] []), .t 12, .t 13], none⟩,
 ⟨(some 11), (.p .mov), [.t 14], none⟩,
 ⟨(some 15), (.p (.ext 0)), [.t 11], none⟩,
 ⟨(some 16), (.p (.ext 1)), [.t 11], none⟩,
 ⟨(some 9), (.h (.newl 9 [(.int .i64 0), (.bool false), .nils])), [], none⟩,
 ⟨none, (.h (.store 3)), [.t 9, .t 15], none⟩,
 ⟨(some 10), (.p .mov), [.t 16], none⟩])
 (.seq
 (.ops [
 ⟨(some 17), (.p .mov), [.t 10], none⟩,
 ⟨(some 18), (.p .mov), [.t 17], none⟩,
 ⟨(some 19), (.p (.faddr 1)), [.t 9], (some (18, true))⟩,
 ⟨(some 20), (.h (.load false 1)), [.t 19], (some (18, true))⟩,
 ⟨(some 21), (.p .pick), [.t 18, .t 20, .c (.bool false)], none⟩,
 ⟨(some 22), (.p .mov), [.t 21], none⟩,
 ⟨(some 23), (.p (.faddr 2)), [.t 9], (some (22, true))⟩,
 ⟨(some 24), (.h (.load false 1)), [.t 23], (some (22, true))⟩,
 ⟨(some 25), (.p (.faddr 2)), [.t 4], (some (22, true))⟩,
 ⟨(some 26), (.h (.load false 1)), [.t 25], (some (22, true))⟩,
 ⟨(some 27), (.p .mov), [.t 2], (some (22, true))⟩,
 ⟨(some 28), (.p (.iaddr 1)), [.t 26, .t 27], (some (22, true))⟩,
 ⟨(some 29), (.h (.load false 1)), [.t 28], (some (22, true))⟩,
 ⟨(some 30), .call, [.c (.fn (.func 80) [] []), .t 24, .t 29], (some (22, true))⟩,
 ⟨(some 31), (.p .pick), [.t 22, .t 30, .c (.bool false)], none⟩,
 ⟨(some 8), (.p .mov), [.t 31], none⟩])
 (.ret [8]))))
def own_holds_I : FInfo := ⟨(.fz false), 4, own_holds_C, [.tmp 8]⟩
def own_holds_A : Ann := ⟨[], [], [], [], [4, 9]⟩
abbrev n_own_holds : Nat := 52

/-! ### balise/baliseref12.holds -/
def r12_holds_C : CCode :=
 (.seq
 (.ops [
 ⟨(some 4), (.h (.box 4)), [.t 0], none⟩,
 ⟨(some 8), (.p .mov), [.c (.bool false)], none⟩])
 (.seq
 (.ops [
 ⟨(some 12), (.p .mov), [.t 1], none⟩,
 ⟨(some 13), (.p .mov), [.t 3], none⟩,
 ⟨(some 14), .call, [.c (.fn (.func 25) [] []), .t 12, .t 13], none⟩,
 ⟨(some 11), (.p .mov), [.t 14], none⟩,
 ⟨(some 15), (.p (.ext 0)), [.t 11], none⟩,
 ⟨(some 16), (.p (.ext 1)), [.t 11], none⟩,
 ⟨(some 9), (.h (.newl 9 [(.int .i64 0), (.bool false), .nils])), [], none⟩,
 ⟨none, (.h (.store 3)), [.t 9, .t 15], none⟩,
 ⟨(some 10), (.p .mov), [.t 16], none⟩])
 (.seq
 (.ops [
 ⟨(some 17), (.p .mov), [.t 10], none⟩,
 ⟨(some 18), (.p .mov), [.t 17], none⟩,
 ⟨(some 19), (.p (.faddr 1)), [.t 9], (some (18, true))⟩,
 ⟨(some 20), (.h (.load false 1)), [.t 19], (some (18, true))⟩,
 ⟨(some 21), (.p .pick), [.t 18, .t 20, .c (.bool false)], none⟩,
 ⟨(some 22), (.p .mov), [.t 21], none⟩,
 ⟨(some 23), (.p (.faddr 2)), [.t 9], (some (22, true))⟩,
 ⟨(some 24), (.h (.load false 1)), [.t 23], (some (22, true))⟩,
 ⟨(some 25), (.p (.faddr 2)), [.t 4], (some (22, true))⟩,
 ⟨(some 26), (.h (.load false 1)), [.t 25], (some (22, true))⟩,
 ⟨(some 27), (.p .mov), [.t 2], (some (22, true))⟩,
 ⟨(some 28), (.p (.iaddr 1)), [.t 26, .t 27], (some (22, true))⟩,
 ⟨(some 29), (.h (.load false 1)), [.t 28], (some (22, true))⟩,
 ⟨(some 30), .call, [.c (.fn (.func 27) [] []), .t 24, .t 29], (some (22, true))⟩,
 ⟨(some 31), (.p .pick), [.t 22, .t 30, .c (.bool false)], none⟩,
 ⟨(some 8), (.p .mov), [.t 31], none⟩])
 (.ret [8]))))
def r12_holds_I : FInfo := ⟨(.fz false), 4, r12_holds_C, [.tmp 8]⟩
def r12_holds_A : Ann := ⟨[], [], [], [], [4, 9]⟩
abbrev n_r12_holds : Nat := 53

/-! ### balise/baliseref05.Near -/
def r05_Near_B2 : CCode :=
 (.seq
 (.seq
 (.ops [
 ⟨(some 18), (.p .mov), [.t 8], none⟩,
 ⟨(some 19), (.p .mov), [.t 7], none⟩,
 ⟨(some 20), (.p .len), [.t 19], none⟩,
 ⟨(some 21), (.p (.bin .lss .ifc)), [.t 18, .t 20], none⟩])
 (.cond (.t 21)
 .skip
 (.exit 2)))
 (.seq
 (.block 3 (some [1, 2, 5, 6, 7, 8])
 (.ops [
 ⟨(some 24), (.p .mov), [.t 5], none⟩,
 ⟨(some 25), (.p .mov), [.t 7], none⟩,
 ⟨(some 26), (.p .mov), [.t 8], none⟩,
 ⟨(some 27), (.p (.iaddr 2)), [.t 25, .t 26], none⟩,
 ⟨(some 28), (.p (.faddr 0)), [.t 27], none⟩,
 ⟨(some 29), (.h (.load false 1)), [.t 28], none⟩,
 ⟨(some 30), (.h (.bslF 1 1 [(.int .i64 0)] [(0, 1)])), [.t 29], none⟩,
 ⟨(some 31), (.h (.app 1 8 [(.int .i64 0)])), [.t 24, .t 30], none⟩,
 ⟨(some 5), (.p .mov), [.t 31], none⟩]))
 (.ops [
 ⟨(some 22), (.p .mov), [.t 8], none⟩,
 ⟨(some 23), (.p (.bin .add .ifc)), [.t 22, .c (.int .i64 1)], none⟩,
 ⟨(some 8), (.p .mov), [.t 23], none⟩])))
def r05_Near_L2 : CCode := .bloop 2 [1, 2, 5, 6, 7, 8] [1, 2, 5, 6] r05_Near_B2

def r05_Near_B0 : CCode :=
 (.seq
 (.seq
 (.ops [
 ⟨(some 9), (.p .mov), [.t 6], none⟩,
 ⟨(some 10), (.p (.bin .lss .ifc)), [.t 9, .c (.int .i64 2)], none⟩])
 (.cond (.t 10)
 .skip
 (.exit 0)))
 (.seq
 (.block 1 (some [1, 2, 5, 6])
 (.seq
 (.ops [
 ⟨(some 13), (.h (.load true 10)), [.t 2], none⟩,
 ⟨(some 14), (.p .mov), [.t 1], none⟩,
 ⟨(some 15), (.p .mov), [.t 6], none⟩,
 ⟨(some 16), (.p (.bld [(.int .i64 0), (.int .i64 0)] [(0, 1), (1, 1)])), [.t 14, .t 15], none⟩,
 ⟨(some 17), .call, [.c (.fn (.func 78) [] []), .t 13, .t 16], none⟩,
 ⟨(some 7), (.p .mov), [.t 17], none⟩])
 (.seq
 (.ops [
 ⟨(some 8), (.p .mov), [.c (.int .i64 0)], none⟩])
 r05_Near_L2)))
 (.ops [
 ⟨(some 11), (.p .mov), [.t 6], none⟩,
 ⟨(some 12), (.p (.bin .add .ifc)), [.t 11, .c (.int .i64 1)], none⟩,
 ⟨(some 6), (.p .mov), [.t 12], none⟩])))
def r05_Near_L0 : CCode := .bloop 0 [1, 2, 5, 6] [5] r05_Near_B0
def r05_Near_C : CCode :=
 (.seq
 (.ops [
 ⟨(some 2), (.h (.box 2)), [.t 0], none⟩,
 ⟨(some 4), (.p .mov), [.c .nils], none⟩])
 (.seq
 (.ops [
 ⟨(some 5), (.p .mov), [.c .nils], none⟩])
 (.seq
 (.seq
 (.ops [
 ⟨(some 6), (.p .mov), [.c (.int .i64 0)], none⟩])
 r05_Near_L0)
 (.seq
 (.ops [
 ⟨(some 32), (.p .mov), [.t 5], none⟩,
 ⟨(some 33), .call, [.c (.fn (.func 44) [] []), .t 32], none⟩,
 ⟨(some 4), (.p .mov), [.t 33], none⟩])
 (.ret [4])))))
def r05_Near_I : FInfo := ⟨(.fz false), 2, r05_Near_C, [.tmp 4]⟩
def r05_Near_A : Ann := ⟨[], [], [(0, [1, 2, 5, 6], [5]), (2, [1, 2, 5, 6, 7, 8], [1, 2, 5, 6])], [(1, [1, 2, 5, 6]), (3, [1, 2, 5, 6, 7, 8])], [2]⟩
abbrev n_r05_Near : Nat := 54

/-! ### balise/baliseref05.Part -/
def r05_Part_B0 : CCode :=
 (.seq
 (.seq
 (.ops [
 ⟨(some 6), (.p .mov), [.t 5], none⟩,
 ⟨(some 7), (.p (.faddr 2)), [.t 2], none⟩,
 ⟨(some 8), (.h (.load false 1)), [.t 7], none⟩,
 ⟨(some 9), (.p .len), [.t 8], none⟩,
 ⟨(some 10), (.p (.bin .lss .ifc)), [.t 6, .t 9], none⟩])
 (.cond (.t 10)
 .skip
 (.exit 0)))
 (.seq
 (.block 1 (some [1, 2, 5])
 (.seq
 (.ops [
 ⟨(some 13), (.p (.faddr 2)), [.t 2], none⟩,
 ⟨(some 14), (.h (.load false 1)), [.t 13], none⟩,
 ⟨(some 15), (.p .mov), [.t 5], none⟩,
 ⟨(some 16), (.p (.iaddr 1)), [.t 14, .t 15], none⟩,
 ⟨(some 17), (.h (.load false 1)), [.t 16], none⟩,
 ⟨(some 18), (.p .mov), [.t 1], none⟩,
 ⟨(some 19), .call, [.c (.fn (.func 49) [] []), .t 17, .t 18], none⟩])
 (.cond (.t 19)
 (.seq
 (.ops [
 ⟨(some 20), (.p .mov), [.t 5], none⟩,
 ⟨(some 4), (.p .mov), [.t 20], none⟩])
 (.ret [4]))
 .skip)))
 (.ops [
 ⟨(some 11), (.p .mov), [.t 5], none⟩,
 ⟨(some 12), (.p (.bin .add .ifc)), [.t 11, .c (.int .i64 1)], none⟩,
 ⟨(some 5), (.p .mov), [.t 12], none⟩])))
def r05_Part_L0 : CCode := .bloop 0 [1, 2, 5] [] r05_Part_B0
def r05_Part_C : CCode :=
 (.seq
 (.ops [
 ⟨(some 2), (.h (.box 2)), [.t 0], none⟩,
 ⟨(some 4), (.p .mov), [.c (.int .i64 0)], none⟩])
 (.seq
 (.seq
 (.ops [
 ⟨(some 5), (.p .mov), [.c (.int .i64 0)], none⟩])
 r05_Part_L0)
 (.seq
 (.ops [
 ⟨(some 4), (.p .mov), [.c (.int .i64 (-1))], none⟩])
 (.ret [4]))))
def r05_Part_I : FInfo := ⟨(.fz false), 2, r05_Part_C, [.tmp 4]⟩
def r05_Part_A : Ann := ⟨[], [], [(0, [1, 2, 5], [])], [(1, [1, 2, 5])], [2]⟩
abbrev n_r05_Part : Nat := 55

/-! ### slices.IndexFunc[[]balise/own.View,balise/own.View] -/
def slices_IndexFunc_View_B0 : CCode :=
 (.seq
 (.ops [
 ⟨(some 9), (.p (.bin .lss .ifc)), [.t 8, .t 7], none⟩])
 (.seq
 (.cond (.t 9)
 .skip
 (.exit 0))
 (.seq
 (.block 1 (some [0, 1, 7, 8])
 (.seq
 (.ops [
 ⟨(some 10), (.p .mov), [.t 8], none⟩,
 ⟨(some 5), (.p .mov), [.t 10], none⟩])
 (.seq
 (.ops [
 ⟨(some 11), (.p .mov), [.t 1], none⟩,
 ⟨(some 12), (.p .mov), [.t 0], none⟩,
 ⟨(some 13), (.p .mov), [.t 5], none⟩,
 ⟨(some 14), (.p (.iaddr 3)), [.t 12, .t 13], none⟩,
 ⟨(some 15), (.h (.load true 3)), [.t 14], none⟩,
 ⟨(some 16), .call, [.t 11, .t 15], none⟩])
 (.cond (.t 16)
 (.seq
 (.ops [
 ⟨(some 17), (.p .mov), [.t 5], none⟩,
 ⟨(some 4), (.p .mov), [.t 17], none⟩])
 (.ret [4]))
 .skip))))
 (.ops [
 ⟨(some 18), (.p (.bin .add .ifc)), [.t 8, .c (.int .i64 1)], none⟩,
 ⟨(some 8), (.p .mov), [.t 18], none⟩]))))
def slices_IndexFunc_View_L0 : CCode := .bloop 0 [0, 1, 7, 8] [] slices_IndexFunc_View_B0
def slices_IndexFunc_View_C : CCode :=
 (.seq
 (.ops [
 ⟨(some 4), (.p .mov), [.c (.int .i64 0)], none⟩])
 (.seq
 (.seq
 (.ops [
 ⟨(some 6), (.p .mov), [.t 0], none⟩,
 ⟨(some 7), (.p .len), [.t 6], none⟩,
 ⟨(some 8), (.p .mov), [.c (.int .i64 0)], none⟩])
 slices_IndexFunc_View_L0)
 (.seq
 (.ops [
 ⟨(some 4), (.p .mov), [.c (.int .i64 (-1))], none⟩])
 (.ret [4]))))
def slices_IndexFunc_View_I : FInfo := ⟨(.fz false), 2, slices_IndexFunc_View_C, [.tmp 4]⟩
def slices_IndexFunc_View_A : Ann := ⟨[], [], [(0, [0, 1, 7, 8], [])], [(1, [0, 1, 7, 8])], []⟩
abbrev n_slices_IndexFunc_View : Nat := 56

/-! ### balise/own.Find$1 -/
def own_Find_1_C : CCode :=
 (.seq
 (.ops [
 ⟨(some 2), (.h (.box 2)), [.t 0], none⟩,
 ⟨(some 3), (.p .mov), [.c (.bool false)], none⟩])
 (.seq
 (.ops [
 ⟨(some 4), (.p (.faddr 0)), [.t 2], none⟩,
 ⟨(some 5), (.h (.load false 1)), [.t 4], none⟩,
 ⟨(some 6), (.h (.load false 1)), [.t 1], none⟩,
 ⟨(some 7), (.p (.bin .eql .int)), [.t 5, .t 6], none⟩,
 ⟨(some 3), (.p .mov), [.t 7], none⟩])
 (.ret [3])))
def own_Find_1_I : FInfo := ⟨(.fz false), 2, own_Find_1_C, [.tmp 3]⟩
def own_Find_1_A : Ann := ⟨[], [], [], [], [2]⟩
abbrev n_own_Find_1 : Nat := 57

/-! ### slices.Repeat[[]int,int] -/
def slices_Repeat_int_B0 : CCode :=
 (.seq
 (.seq
 (.ops [
 ⟨(some 34), (.p .mov), [.t 8], none⟩,
 ⟨(some 35), (.p .mov), [.t 7], none⟩,
 ⟨(some 36), (.p .len), [.t 35], none⟩,
 ⟨(some 37), (.p (.bin .lss .ifc)), [.t 34, .t 36], none⟩])
 (.cond (.t 37)
 .skip
 (.exit 0)))
 (.block 1 (some [7, 8])
 (.ops [
 ⟨(some 38), (.p .mov), [.t 8], none⟩,
 ⟨(some 39), (.p .mov), [.t 7], none⟩,
 ⟨(some 40), (.p .mov), [.t 8], none⟩,
 ⟨(some 41), (.p (.slc 1 true false)), [.t 39, .t 40], none⟩,
 ⟨(some 42), (.p .mov), [.t 7], none⟩,
 ⟨(some 43), (.p .mov), [.t 8], none⟩,
 ⟨(some 44), (.p (.slc 1 false true)), [.t 42, .t 43], none⟩,
 ⟨(some 45), (.h (.copy 1)), [.t 41, .t 44], none⟩,
 ⟨(some 46), (.p (.bin .add .ifc)), [.t 38, .t 45], none⟩,
 ⟨(some 8), (.p .mov), [.t 46], none⟩])))
def slices_Repeat_int_L0 : CCode := .bloop 0 [7, 8] [7] slices_Repeat_int_B0
def slices_Repeat_int_C : CCode :=
 (.seq
 (.ops [
 ⟨(some 4), (.p .mov), [.c .nils], none⟩])
 (.seq
 (.seq
 (.ops [
 ⟨(some 9), (.p .mov), [.t 1], none⟩,
 ⟨(some 10), (.p (.bin .lss .ifc)), [.t 9, .c (.int .i64 0)], none⟩])
 (.cond (.t 10)
 bad
 .skip))
 (.seq
 (.ops [
 ⟨(some 13), (.p .mov), [.t 0], none⟩,
 ⟨(some 14), (.p .len), [.t 13], none⟩,
 ⟨(some 15), (.p (.toInt .u64)), [.t 14], none⟩,
 ⟨(some 16), (.p .mov), [.t 1], none⟩,
 ⟨(some 17), (.p (.toInt .u64)), [.t 16], none⟩,
 ⟨(some 18), .call, [.c (.fn (.func 81) [] []), .t 15, .t 17], none⟩,
 ⟨(some 12), (.p .mov), [.t 18], none⟩,
 ⟨(some 19), (.p (.ext 0)), [.t 12], none⟩,
 ⟨(some 20), (.p (.ext 1)), [.t 12], none⟩,
 ⟨(some 5), (.p .mov), [.t 19], none⟩,
 ⟨(some 6), (.p .mov), [.t 20], none⟩])
 (.seq
 (.seq
 (.ops [
 ⟨(some 21), (.p .mov), [.t 5], none⟩,
 ⟨(some 22), (.p (.bin .gtr .ifc)), [.t 21, .c (.int .u64 0)], none⟩,
 ⟨(some 23), (.p .mov), [.t 22], none⟩,
 ⟨(some 24), (.p .mov), [.t 6], (some (23, false))⟩,
 ⟨(some 25), (.p (.bin .gtr .ifc)), [.t 24, .c (.int .u64 9223372036854775807)], (some (23, false))⟩,
 ⟨(some 26), (.p .pick), [.t 23, .c (.bool true), .t 25], none⟩])
 (.cond (.t 26)
 bad
 .skip))
 (.seq
 (.ops [
 ⟨(some 28), (.p .mov), [.t 6], none⟩,
 ⟨(some 29), (.p (.toInt .i64)), [.t 28], none⟩,
 ⟨(some 30), (.h (.mksl 1 8 [(.int .i64 0)])), [.t 29, .t 29], none⟩,
 ⟨(some 7), (.p .mov), [.t 30], none⟩])
 (.seq
 (.ops [
 ⟨(some 31), (.p .mov), [.t 7], none⟩,
 ⟨(some 32), (.p .mov), [.t 0], none⟩,
 ⟨(some 33), (.h (.copy 1)), [.t 31, .t 32], none⟩,
 ⟨(some 8), (.p .mov), [.t 33], none⟩])
 (.seq
 slices_Repeat_int_L0
 (.seq
 (.ops [
 ⟨(some 47), (.p .mov), [.t 7], none⟩,
 ⟨(some 4), (.p .mov), [.t 47], none⟩])
 (.ret [4])))))))))
def slices_Repeat_int_I : FInfo := ⟨(.fz false), 2, slices_Repeat_int_C, [.tmp 4]⟩
def slices_Repeat_int_A : Ann := ⟨[], [], [(0, [7, 8], [7])], [(1, [7, 8])], []⟩
abbrev n_slices_Repeat_int : Nat := 58

/-! ### slices.Clone[[]int,int] -/
def slices_Clone_int_C : CCode :=
 (.seq
 (.ops [
 ⟨(some 2), (.p .mov), [.c .nils], none⟩])
 (.seq
 (.seq
 (.ops [
 ⟨(some 3), (.p .mov), [.t 0], none⟩,
 ⟨(some 4), (.p (.bin .eql .sl)), [.t 3, .c .nils], none⟩])
 (.cond (.t 4)
 (.seq
 (.ops [
 ⟨(some 2), (.p .mov), [.c .nils], none⟩])
 (.ret [2]))
 .skip))
 (.seq
 (.ops [
 ⟨(some 5), (.h (.bslO 1 0 [(.int .i64 0)] [])), [], none⟩,
 ⟨(some 6), (.p .mov), [.t 0], none⟩,
 ⟨(some 7), (.h (.app 1 8 [(.int .i64 0)])), [.t 5, .t 6], none⟩,
 ⟨(some 2), (.p .mov), [.t 7], none⟩])
 (.ret [2]))))
def slices_Clone_int_I : FInfo := ⟨.own, 1, slices_Clone_int_C, [.tmp 2]⟩
def slices_Clone_int_A : Ann := ⟨[], [5], [], [], []⟩
abbrev n_slices_Clone_int : Nat := 59

/-! ### (*balise/graph.Graph).Len -/
def graph_Graph_Len_C : CCode :=
 (.seq
 (.ops [
 ⟨(some 4), (.p .mov), [.c (.int .i64 0)], none⟩])
 (.seq
 (.ops [
 ⟨(some 8), (.p .mov), [.t 0], none⟩,
 ⟨(some 9), (.p .mov), [.t 1], none⟩,
 ⟨(some 10), .call, [.c (.fn (.func 84) [] []), .t 8, .t 9], none⟩,
 ⟨(some 7), (.p .mov), [.t 10], none⟩,
 ⟨(some 11), (.p (.ext 0)), [.t 7], none⟩,
 ⟨(some 12), (.p (.ext 1)), [.t 7], none⟩,
 ⟨(some 5), (.h (.newl 5 [(.int .i64 0), (.int .i64 0), (.int .i64 0)])), [], none⟩,
 ⟨none, (.h (.store 3)), [.t 5, .t 11], none⟩,
 ⟨(some 6), (.p .mov), [.t 12], none⟩])
 (.seq
 (.ops [
 ⟨(some 13), (.p (.faddr 0)), [.t 5], none⟩,
 ⟨(some 14), (.h (.load false 1)), [.t 13], none⟩,
 ⟨(some 4), (.p .mov), [.t 14], none⟩])
 (.ret [4]))))
def graph_Graph_Len_I : FInfo := ⟨(.fz false), 2, graph_Graph_Len_C, [.tmp 4]⟩
def graph_Graph_Len_A : Ann := ⟨[], [], [], [], [5]⟩
abbrev n_graph_Graph_Len : Nat := 65

/-! ### slices.ContainsFunc[[]int,int] -/
def slices_ContainsFunc_int_C : CCode :=
 (.seq
 (.ops [
 ⟨(some 4), (.p .mov), [.c (.bool false)], none⟩])
 (.seq
 (.ops [
 ⟨(some 5), (.p .mov), [.t 0], none⟩,
 ⟨(some 6), (.p .mov), [.t 1], none⟩,
 ⟨(some 7), .call, [.c (.fn (.func 89) [] []), .t 5, .t 6], none⟩,
 ⟨(some 8), (.p (.bin .geq .ifc)), [.t 7, .c (.int .i64 0)], none⟩,
 ⟨(some 4), (.p .mov), [.t 8], none⟩])
 (.ret [4])))
def slices_ContainsFunc_int_I : FInfo := ⟨(.fz false), 2, slices_ContainsFunc_int_C, [.tmp 4]⟩
def slices_ContainsFunc_int_A : Ann := ⟨[], [], [], [], []⟩
abbrev n_slices_ContainsFunc_int : Nat := 69

/-! ### slices.Contains[[]int,int] -/
def slices_Contains_int_C : CCode :=
 (.seq
 (.ops [
 ⟨(some 4), (.p .mov), [.c (.bool false)], none⟩])
 (.seq
 (.ops [
 ⟨(some 5), (.p .mov), [.t 0], none⟩,
 ⟨(some 6), (.p .mov), [.t 1], none⟩,
 ⟨(some 7), .call, [.c (.fn (.func 93) [] []), .t 5, .t 6], none⟩,
 ⟨(some 8), (.p (.bin .geq .ifc)), [.t 7, .c (.int .i64 0)], none⟩,
 ⟨(some 4), (.p .mov), [.t 8], none⟩])
 (.ret [4])))
def slices_Contains_int_I : FInfo := ⟨(.fz false), 2, slices_Contains_int_C, [.tmp 4]⟩
def slices_Contains_int_A : Ann := ⟨[], [], [], [], []⟩
abbrev n_slices_Contains_int : Nat := 73

/-! ### balise/baliseref05.Len -/
def r05_Len_C : CCode :=
 (.seq
 (.ops [
 ⟨(some 2), (.h (.box 2)), [.t 0], none⟩,
 ⟨(some 4), (.p .mov), [.c (.int .i64 0)], none⟩])
 (.seq
 (.seq
 (.ops [
 ⟨(some 5), (.p .mov), [.t 1], none⟩,
 ⟨(some 6), (.p (.bin .lss .ifc)), [.t 5, .c (.int .i64 0)], none⟩,
 ⟨(some 7), (.p .mov), [.t 6], none⟩,
 ⟨(some 8), (.p .mov), [.t 1], (some (7, false))⟩,
 ⟨(some 9), (.p (.faddr 1)), [.t 2], (some (7, false))⟩,
 ⟨(some 10), (.h (.load false 1)), [.t 9], (some (7, false))⟩,
 ⟨(some 11), (.p .len), [.t 10], (some (7, false))⟩,
 ⟨(some 12), (.p (.bin .geq .ifc)), [.t 8, .t 11], (some (7, false))⟩,
 ⟨(some 13), (.p .pick), [.t 7, .c (.bool true), .t 12], none⟩])
 (.cond (.t 13)
 (.seq
 (.ops [
 ⟨(some 4), (.p .mov), [.c (.int .i64 0)], none⟩])
 (.ret [4]))
 .skip))
 (.seq
 (.ops [
 ⟨(some 14), (.p (.faddr 1)), [.t 2], none⟩,
 ⟨(some 15), (.h (.load false 1)), [.t 14], none⟩,
 ⟨(some 16), (.p .mov), [.t 1], none⟩,
 ⟨(some 17), (.p (.iaddr 3)), [.t 15, .t 16], none⟩,
 ⟨(some 18), (.p (.faddr 0)), [.t 17], none⟩,
 ⟨(some 19), (.h (.load false 1)), [.t 18], none⟩,
 ⟨(some 4), (.p .mov), [.t 19], none⟩])
 (.ret [4]))))
def r05_Len_I : FInfo := ⟨(.fz false), 2, r05_Len_C, [.tmp 4]⟩
def r05_Len_A : Ann := ⟨[], [], [], [], [2]⟩
abbrev n_r05_Len : Nat := 75

/-! ### balise/baliseref05.Around -/
def r05_Around_B0 : CCode :=
 (.seq
 (.seq
 (.ops [
 ⟨(some 69), (.p .mov), [.t 11], none⟩,
 ⟨(some 70), (.p .mov), [.t 10], none⟩,
 ⟨(some 71), (.p .len), [.t 70], none⟩,
 ⟨(some 72), (.p (.bin .lss .ifc)), [.t 69, .t 71], none⟩])
 (.cond (.t 72)
 .skip
 (.exit 0)))
 (.seq
 (.block 1 (some [3, 8, 10, 11])
 (.seq
 (.ops [
 ⟨(some 75), (.p .mov), [.t 10], none⟩,
 ⟨(some 76), (.p .mov), [.t 11], none⟩,
 ⟨(some 77), (.p (.iaddr 2)), [.t 75, .t 76], none⟩,
 ⟨(some 78), (.h (.load true 2)), [.t 77], none⟩,
 ⟨(some 79), (.h (.load true 2)), [.t 3], none⟩,
 ⟨(some 80), (.p (.bin .neq (.parts [(0, false, 1, .int), (1, false, 1, .int)]))), [.t 78, .t 79], none⟩])
 (.cond (.t 80)
 (.ops [
 ⟨(some 81), (.p .mov), [.t 8], none⟩,
 ⟨(some 82), (.p .mov), [.t 10], none⟩,
 ⟨(some 83), (.p .mov), [.t 11], none⟩,
 ⟨(some 84), (.p (.iaddr 2)), [.t 82, .t 83], none⟩,
 ⟨(some 85), (.h (.load true 2)), [.t 84], none⟩,
 ⟨(some 86), (.h (.bslF 2 1 [(.int .i64 0), (.int .i64 0)] [(0, 2)])), [.t 85], none⟩,
 ⟨(some 87), (.h (.app 2 16 [(.int .i64 0), (.int .i64 0)])), [.t 81, .t 86], none⟩,
 ⟨(some 8), (.p .mov), [.t 87], none⟩])
 .skip)))
 (.ops [
 ⟨(some 73), (.p .mov), [.t 11], none⟩,
 ⟨(some 74), (.p (.bin .add .ifc)), [.t 73, .c (.int .i64 1)], none⟩,
 ⟨(some 11), (.p .mov), [.t 74], none⟩])))
def r05_Around_L0 : CCode := .bloop 0 [3, 8, 10, 11] [8] r05_Around_B0
def r05_Around_C : CCode :=
 (.seq
 (.ops [
 ⟨(some 2), (.h (.box 2)), [.t 0], none⟩,
 ⟨(some 3), (.h (.box 3)), [.t 1], none⟩,
 ⟨(some 4), (.p .mov), [.c .nils], none⟩])
 (.seq
 (.ops [
 ⟨(some 13), (.h (.load true 10)), [.t 2], none⟩,
 ⟨(some 14), (.h (.load true 2)), [.t 3], none⟩,
 ⟨(some 15), .call, [.c (.fn (.func 94) [] []), .t 13, .t 14], none⟩,
 ⟨(some 12), (.p .mov), [.t 15], none⟩,
 ⟨(some 16), (.p (.ext 0)), [.t 12], none⟩,
 ⟨(some 17), (.p (.ext 1)), [.t 12], none⟩,
 ⟨(some 5), (.p .mov), [.t 16], none⟩,
 ⟨(some 6), (.p .mov), [.t 17], none⟩])
 (.seq
 (.seq
 (.ops [
 ⟨(some 18), (.p .mov), [.t 6], none⟩,
 ⟨(some 19), (.p (.un .not)), [.t 18], none⟩])
 (.cond (.t 19)
 (.seq
 (.ops [
 ⟨(some 4), (.p .mov), [.c .nils], none⟩])
 (.ret [4]))
 .skip))
 (.seq
 (.ops [
 ⟨(some 20), (.h (.load true 10)), [.t 2], none⟩,
 ⟨(some 21), (.p .mov), [.t 5], none⟩,
 ⟨(some 22), .call, [.c (.fn (.func 95) [] []), .t 20, .t 21], none⟩,
 ⟨(some 7), (.p .mov), [.t 22], none⟩])
 (.seq
 (.ops [
 ⟨(some 8), (.p .mov), [.c .nils], none⟩])
 (.seq
 (.seq
 (.ops [
 ⟨(some 23), (.p .mov), [.t 7], none⟩,
 ⟨(some 24), (.p (.bin .geq .ifc)), [.t 23, .c (.int .i64 0)], none⟩])
 (.cond (.t 24)
 (.seq
 (.ops [
 ⟨(some 25), (.p (.faddr 3)), [.t 2], none⟩,
 ⟨(some 26), (.h (.load false 1)), [.t 25], none⟩,
 ⟨(some 27), (.p .mov), [.t 7], none⟩,
 ⟨(some 28), (.p (.iaddr 4)), [.t 26, .t 27], none⟩,
 ⟨(some 29), (.h (.load true 4)), [.t 28], none⟩,
 ⟨(some 9), (.h (.newl 9 [(.int .i64 0), (.int .i64 0), (.int .i64 0), (.int .i64 0)])), [], none⟩,
 ⟨none, (.h (.store 4)), [.t 9, .t 29], none⟩])
 (.seq
 (.seq
 (.ops [
 ⟨(some 30), (.p (.faddr 0)), [.t 3], none⟩,
 ⟨(some 31), (.h (.load false 1)), [.t 30], none⟩,
 ⟨(some 32), (.p (.faddr 1)), [.t 9], none⟩,
 ⟨(some 33), (.h (.load false 1)), [.t 32], none⟩,
 ⟨(some 34), (.p (.bin .eql .int)), [.t 31, .t 33], none⟩])
 (.cond (.t 34)
 (.seq
 (.ops [
 ⟨(some 35), (.p .mov), [.t 8], none⟩,
 ⟨(some 36), (.h (.load true 10)), [.t 2], none⟩,
 ⟨(some 37), (.p (.faddr 2)), [.t 9], none⟩,
 ⟨(some 38), (.h (.load false 1)), [.t 37], none⟩,
 ⟨(some 39), (.p .mov), [.t 5], none⟩,
 ⟨(some 40), .call, [.c (.fn (.func 96) [] []), .t 36, .t 38, .t 39], none⟩,
 ⟨(some 41), (.h (.app 2 16 [(.int .i64 0), (.int .i64 0)])), [.t 35, .t 40], none⟩,
 ⟨(some 8), (.p .mov), [.t 41], none⟩])
 (.seq
 (.ops [
 ⟨(some 42), (.p .mov), [.t 8], none⟩,
 ⟨(some 43), (.h (.load true 10)), [.t 2], none⟩,
 ⟨(some 44), (.p (.faddr 3)), [.t 9], none⟩,
 ⟨(some 45), (.h (.load false 1)), [.t 44], none⟩,
 ⟨(some 46), (.p .mov), [.t 5], none⟩,
 ⟨(some 47), .call, [.c (.fn (.func 96) [] []), .t 43, .t 45, .t 46], none⟩,
 ⟨(some 48), (.h (.app 2 16 [(.int .i64 0), (.int .i64 0)])), [.t 42, .t 47], none⟩,
 ⟨(some 4), (.p .mov), [.t 48], none⟩])
 (.ret [4])))
 .skip))
 (.seq
 (.seq
 (.ops [
 ⟨(some 49), (.p (.faddr 0)), [.t 3], none⟩,
 ⟨(some 50), (.h (.load false 1)), [.t 49], none⟩,
 ⟨(some 51), (.p (.faddr 2)), [.t 9], none⟩,
 ⟨(some 52), (.h (.load false 1)), [.t 51], none⟩,
 ⟨(some 53), (.p (.bin .eql .int)), [.t 50, .t 52], none⟩,
 ⟨(some 54), (.p .mov), [.t 53], none⟩,
 ⟨(some 55), (.p (.faddr 0)), [.t 3], (some (54, false))⟩,
 ⟨(some 56), (.h (.load false 1)), [.t 55], (some (54, false))⟩,
 ⟨(some 57), (.p (.faddr 3)), [.t 9], (some (54, false))⟩,
 ⟨(some 58), (.h (.load false 1)), [.t 57], (some (54, false))⟩,
 ⟨(some 59), (.p (.bin .eql .int)), [.t 56, .t 58], (some (54, false))⟩,
 ⟨(some 60), (.p .pick), [.t 54, .c (.bool true), .t 59], none⟩])
 (.cond (.t 60)
 (.seq
 (.ops [
 ⟨(some 61), (.h (.load true 10)), [.t 2], none⟩,
 ⟨(some 62), (.p (.faddr 1)), [.t 9], none⟩,
 ⟨(some 63), (.h (.load false 1)), [.t 62], none⟩,
 ⟨(some 64), (.p .mov), [.t 5], none⟩,
 ⟨(some 65), .call, [.c (.fn (.func 96) [] []), .t 61, .t 63, .t 64], none⟩,
 ⟨(some 4), (.p .mov), [.t 65], none⟩])
 (.ret [4]))
 .skip))
 (.seq
 (.ops [
 ⟨(some 4), (.p .mov), [.c .nils], none⟩])
 (.ret [4])))))
 .skip))
 (.seq
 (.ops [
 ⟨(some 66), (.h (.load true 10)), [.t 2], none⟩,
 ⟨(some 67), (.p .mov), [.t 5], none⟩,
 ⟨(some 68), .call, [.c (.fn (.func 97) [] []), .t 66, .t 67], none⟩,
 ⟨(some 10), (.p .mov), [.t 68], none⟩])
 (.seq
 (.seq
 (.ops [
 ⟨(some 11), (.p .mov), [.c (.int .i64 0)], none⟩])
 r05_Around_L0)
 (.seq
 (.seq
 (.ops [
 ⟨(some 88), (.p .mov), [.t 8], none⟩,
 ⟨(some 89), (.p .len), [.t 88], none⟩,
 ⟨(some 90), (.p (.bin .neq .int)), [.t 89, .c (.int .i64 1)], none⟩])
 (.cond (.t 90)
 (.seq
 (.ops [
 ⟨(some 4), (.p .mov), [.c .nils], none⟩])
 (.ret [4]))
 .skip))
 (.seq
 (.ops [
 ⟨(some 91), (.p .mov), [.t 8], none⟩,
 ⟨(some 4), (.p .mov), [.t 91], none⟩])
 (.ret [4])))))))))))
def r05_Around_I : FInfo := ⟨(.fz false), 2, r05_Around_C, [.tmp 4]⟩
def r05_Around_A : Ann := ⟨[], [], [(0, [3, 8, 10, 11], [8])], [(1, [3, 8, 10, 11])], [2, 3, 9]⟩
abbrev n_r05_Around : Nat := 78

/-! ### (*balise/graph.Graph).Beside -/
def graph_Graph_Beside_B2 : CCode :=
 (.seq
 (.ops [
 ⟨(some 45), (.p (.bin .lss .ifc)), [.t 44, .t 43], none⟩])
 (.seq
 (.cond (.t 45)
 .skip
 (.exit 2))
 (.seq
 (.block 3 (some [0, 1, 5, 34, 35, 36, 42, 43, 44])
 (.seq
 (.ops [
 ⟨(some 46), (.p (.iaddr 1)), [.t 42, .t 44], none⟩,
 ⟨(some 47), (.h (.load false 1)), [.t 46], none⟩,
 ⟨(some 9), (.p .mov), [.t 47], none⟩])
 (.seq
 (.ops [
 ⟨(some 48), (.p .mov), [.t 0], none⟩,
 ⟨(some 49), (.p .mov), [.t 9], none⟩,
 ⟨(some 50), .call, [.c (.fn (.func 99) [] []), .t 48, .t 49], none⟩,
 ⟨(some 10), (.p .mov), [.t 50], none⟩])
 (.seq
 (.ops [
 ⟨(some 51), (.p .mov), [.t 10], none⟩,
 ⟨(some 52), (.p (.bin .geq .ifc)), [.t 51, .c (.int .i64 0)], none⟩,
 ⟨(some 53), (.p .mov), [.t 52], none⟩,
 ⟨(some 54), (.p .mov), [.t 10], (some (53, true))⟩,
 ⟨(some 55), (.p .mov), [.t 1], (some (53, true))⟩,
 ⟨(some 56), (.p (.bin .neq .int)), [.t 54, .t 55], (some (53, true))⟩,
 ⟨(some 57), (.p .pick), [.t 53, .t 56, .c (.bool false)], none⟩])
 (.cond (.t 57)
 (.ops [
 ⟨(some 58), (.p .mov), [.t 5], none⟩,
 ⟨(some 59), (.p .mov), [.t 10], none⟩,
 ⟨(some 60), (.h (.bslF 1 1 [(.int .i64 0)] [(0, 1)])), [.t 59], none⟩,
 ⟨(some 61), (.h (.app 1 8 [(.int .i64 0)])), [.t 58, .t 60], none⟩,
 ⟨(some 5), (.p .mov), [.t 61], none⟩])
 .skip)))))
 (.ops [
 ⟨(some 62), (.p (.bin .add .ifc)), [.t 44, .c (.int .i64 1)], none⟩,
 ⟨(some 44), (.p .mov), [.t 62], none⟩]))))
def graph_Graph_Beside_L2 : CCode := .bloop 2 [0, 1, 5, 34, 35, 36, 42, 43, 44] [0, 1, 5, 34, 35, 36] graph_Graph_Beside_B2

def graph_Graph_Beside_B0 : CCode :=
 (.seq
 (.ops [
 ⟨(some 37), (.p (.bin .lss .ifc)), [.t 36, .t 35], none⟩])
 (.seq
 (.cond (.t 37)
 .skip
 (.exit 0))
 (.seq
 (.block 1 (some [0, 1, 5, 34, 35, 36])
 (.seq
 (.ops [
 ⟨(some 38), (.p (.iaddr 1)), [.t 34, .t 36], none⟩,
 ⟨(some 39), (.h (.load false 1)), [.t 38], none⟩,
 ⟨(some 7), (.p .mov), [.t 39], none⟩])
 (.seq
 (.ops [
 ⟨(some 40), (.p .mov), [.t 0], none⟩,
 ⟨(some 41), (.p .mov), [.t 7], none⟩,
 ⟨(some 42), .call, [.c (.fn (.func 98) [] []), .t 40, .t 41], none⟩,
 ⟨(some 43), (.p .len), [.t 42], none⟩,
 ⟨(some 44), (.p .mov), [.c (.int .i64 0)], none⟩])
 graph_Graph_Beside_L2)))
 (.ops [
 ⟨(some 63), (.p (.bin .add .ifc)), [.t 36, .c (.int .i64 1)], none⟩,
 ⟨(some 36), (.p .mov), [.t 63], none⟩]))))
def graph_Graph_Beside_L0 : CCode := .bloop 0 [0, 1, 5, 34, 35, 36] [5] graph_Graph_Beside_B0
def graph_Graph_Beside_C : CCode :=
 (.seq
 (.ops [
 ⟨(some 4), (.p .mov), [.c .nils], none⟩])
 (.seq
 (.seq
 (.ops [
 ⟨(some 11), (.p .mov), [.t 0], none⟩,
 ⟨(some 12), (.p (.bin .eql .ptr)), [.t 11, .c .nilp], none⟩,
 ⟨(some 13), (.p .mov), [.t 12], none⟩,
 ⟨(some 14), (.p .mov), [.t 1], (some (13, false))⟩,
 ⟨(some 15), (.p (.bin .lss .ifc)), [.t 14, .c (.int .i64 0)], (some (13, false))⟩,
 ⟨(some 16), (.p .pick), [.t 13, .c (.bool true), .t 15], none⟩,
 ⟨(some 17), (.p .mov), [.t 16], none⟩,
 ⟨(some 18), (.p .mov), [.t 1], (some (17, false))⟩,
 ⟨(some 19), (.p .mov), [.t 0], (some (17, false))⟩,
 ⟨(some 20), (.p .nchk), [.t 19], (some (17, false))⟩,
 ⟨(some 21), (.p (.faddr 0)), [.t 20], (some (17, false))⟩,
 ⟨(some 22), (.p (.faddr 2)), [.t 21], (some (17, false))⟩,
 ⟨(some 23), (.h (.load false 1)), [.t 22], (some (17, false))⟩,
 ⟨(some 24), (.p .len), [.t 23], (some (17, false))⟩,
 ⟨(some 25), (.p (.bin .geq .ifc)), [.t 18, .t 24], (some (17, false))⟩,
 ⟨(some 26), (.p .pick), [.t 17, .c (.bool true), .t 25], none⟩])
 (.cond (.t 26)
 (.seq
 (.ops [
 ⟨(some 4), (.p .mov), [.c .nils], none⟩])
 (.ret [4]))
 .skip))
 (.seq
 (.ops [
 ⟨(some 5), (.p .mov), [.c .nils], none⟩])
 (.seq
 (.seq
 (.ops [
 ⟨(some 27), (.p .mov), [.t 0], none⟩,
 ⟨(some 28), (.p .nchk), [.t 27], none⟩,
 ⟨(some 29), (.p (.faddr 0)), [.t 28], none⟩,
 ⟨(some 30), (.p (.faddr 2)), [.t 29], none⟩,
 ⟨(some 31), (.h (.load false 1)), [.t 30], none⟩,
 ⟨(some 32), (.p .mov), [.t 1], none⟩,
 ⟨(some 33), (.p (.iaddr 1)), [.t 31, .t 32], none⟩,
 ⟨(some 34), (.h (.load false 1)), [.t 33], none⟩,
 ⟨(some 35), (.p .len), [.t 34], none⟩,
 ⟨(some 36), (.p .mov), [.c (.int .i64 0)], none⟩])
 graph_Graph_Beside_L0)
 (.seq
 (.ops [
 ⟨(some 64), (.p .mov), [.t 5], none⟩,
 ⟨(some 65), .call, [.c (.fn (.func 91) [] []), .t 64], none⟩])
 (.seq
 (.ops [
 ⟨(some 66), (.p .mov), [.t 5], none⟩,
 ⟨(some 67), .call, [.c (.fn (.func 100) [] []), .t 66], none⟩,
 ⟨(some 4), (.p .mov), [.t 67], none⟩])
 (.ret [4])))))))
def graph_Graph_Beside_I : FInfo := ⟨(.fz false), 2, graph_Graph_Beside_C, [.tmp 4]⟩
def graph_Graph_Beside_A : Ann := ⟨[], [], [(0, [0, 1, 5, 34, 35, 36], [5]), (2, [0, 1, 5, 34, 35, 36, 42, 43, 44], [0, 1, 5, 34, 35, 36])], [(1, [0, 1, 5, 34, 35, 36]), (3, [0, 1, 5, 34, 35, 36, 42, 43, 44])], []⟩
abbrev n_graph_Graph_Beside : Nat := 79

/-! ### balise/chain.Meets -/
def chain_Meets_C : CCode :=
 (.seq
 (.ops [
 ⟨(some 3), (.h .boxh), [.t 1], none⟩,
 ⟨(some 4), (.p .mov), [.c (.bool false)], none⟩])
 (.seq
 (.ops [
 ⟨(some 5), (.p .mov), [.t 0], none⟩,
 ⟨(some 6), (.p (.mkfn (.func 101) 0)), [.t 3], none⟩,
 ⟨(some 7), .call, [.c (.fn (.func 69) [] []), .t 5, .t 6], none⟩,
 ⟨(some 4), (.p .mov), [.t 7], none⟩])
 (.ret [4])))
def chain_Meets_I : FInfo := ⟨(.fz false), 2, chain_Meets_C, [.tmp 4]⟩
def chain_Meets_A : Ann := ⟨[3], [], [], [], []⟩
abbrev n_chain_Meets : Nat := 80

/-! ### math/bits.Mul -/
def math_bits_Mul_C : CCode :=
 (.seq
 (.ops [
 ⟨(some 4), (.p .mov), [.c (.int .u64 0)], none⟩,
 ⟨(some 5), (.p .mov), [.c (.int .u64 0)], none⟩])
 (.seq
 (.cond (.c (.bool false))
 (.seq
 (.ops [
 ⟨(some 11), (.p .mov), [.t 0], none⟩,
 ⟨(some 12), (.p (.toInt .u32)), [.t 11], none⟩,
 ⟨(some 13), (.p .mov), [.t 1], none⟩,
 ⟨(some 14), (.p (.toInt .u32)), [.t 13], none⟩,
 ⟨(some 15), .call, [.c (.fn (.func 102) [] []), .t 12, .t 14], none⟩,
 ⟨(some 10), (.p .mov), [.t 15], none⟩,
 ⟨(some 16), (.p (.ext 0)), [.t 10], none⟩,
 ⟨(some 17), (.p (.ext 1)), [.t 10], none⟩,
 ⟨(some 6), (.p .mov), [.t 16], none⟩,
 ⟨(some 7), (.p .mov), [.t 17], none⟩])
 (.seq
 (.ops [
 ⟨(some 18), (.p .mov), [.t 6], none⟩,
 ⟨(some 19), (.p (.toInt .u64)), [.t 18], none⟩,
 ⟨(some 20), (.p .mov), [.t 7], none⟩,
 ⟨(some 21), (.p (.toInt .u64)), [.t 20], none⟩,
 ⟨(some 4), (.p .mov), [.t 19], none⟩,
 ⟨(some 5), (.p .mov), [.t 21], none⟩])
 (.ret [4, 5])))
 .skip)
 (.seq
 (.ops [
 ⟨(some 23), (.p .mov), [.t 0], none⟩,
 ⟨(some 24), (.p .mov), [.t 1], none⟩,
 ⟨(some 25), .call, [.c (.fn (.func 103) [] []), .t 23, .t 24], none⟩,
 ⟨(some 22), (.p .mov), [.t 25], none⟩,
 ⟨(some 26), (.p (.ext 0)), [.t 22], none⟩,
 ⟨(some 27), (.p (.ext 1)), [.t 22], none⟩,
 ⟨(some 8), (.p .mov), [.t 26], none⟩,
 ⟨(some 9), (.p .mov), [.t 27], none⟩])
 (.seq
 (.ops [
 ⟨(some 28), (.p .mov), [.t 8], none⟩,
 ⟨(some 29), (.p .mov), [.t 9], none⟩,
 ⟨(some 4), (.p .mov), [.t 28], none⟩,
 ⟨(some 5), (.p .mov), [.t 29], none⟩])
 (.ret [4, 5])))))
def math_bits_Mul_I : FInfo := ⟨(.fz false), 2, math_bits_Mul_C, [.tmp 4, .tmp 5]⟩
def math_bits_Mul_A : Ann := ⟨[], [], [], [], []⟩
abbrev n_math_bits_Mul : Nat := 81

/-! ### (*balise/graph.Graph).section -/
def graph_Graph_section_C : CCode :=
 (.seq
 (.ops [
 ⟨(some 4), (.h (.newl 4 [(.int .i64 0), (.int .i64 0), (.int .i64 0)])), [], none⟩,
 ⟨(some 5), (.p .mov), [.c (.bool false)], none⟩])
 (.seq
 (.seq
 (.ops [
 ⟨(some 6), (.p .mov), [.t 0], none⟩,
 ⟨(some 7), (.p (.bin .eql .ptr)), [.t 6, .c .nilp], none⟩,
 ⟨(some 8), (.p .mov), [.t 7], none⟩,
 ⟨(some 9), (.p .mov), [.t 1], (some (8, false))⟩,
 ⟨(some 10), (.p (.bin .lss .ifc)), [.t 9, .c (.int .i64 0)], (some (8, false))⟩,
 ⟨(some 11), (.p .pick), [.t 8, .c (.bool true), .t 10], none⟩,
 ⟨(some 12), (.p .mov), [.t 11], none⟩,
 ⟨(some 13), (.p .mov), [.t 1], (some (12, false))⟩,
 ⟨(some 14), (.p .mov), [.t 0], (some (12, false))⟩,
 ⟨(some 15), (.p .nchk), [.t 14], (some (12, false))⟩,
 ⟨(some 16), (.p (.faddr 0)), [.t 15], (some (12, false))⟩,
 ⟨(some 17), (.p (.faddr 1)), [.t 16], (some (12, false))⟩,
 ⟨(some 18), (.h (.load false 1)), [.t 17], (some (12, false))⟩,
 ⟨(some 19), (.p .len), [.t 18], (some (12, false))⟩,
 ⟨(some 20), (.p (.bin .geq .ifc)), [.t 13, .t 19], (some (12, false))⟩,
 ⟨(some 21), (.p .pick), [.t 12, .c (.bool true), .t 20], none⟩])
 (.cond (.t 21)
 (.seq
 (.ops [
 ⟨(some 22), (.p (.bld [(.int .i64 0), (.int .i64 0), (.int .i64 0)] [])), [], none⟩,
 ⟨none, (.h (.store 3)), [.t 4, .t 22], none⟩,
 ⟨(some 5), (.p .mov), [.c (.bool false)], none⟩])
 (.ret [4, 5]))
 .skip))
 (.seq
 (.ops [
 ⟨(some 23), (.p .mov), [.t 0], none⟩,
 ⟨(some 24), (.p .nchk), [.t 23], none⟩,
 ⟨(some 25), (.p (.faddr 0)), [.t 24], none⟩,
 ⟨(some 26), (.p (.faddr 1)), [.t 25], none⟩,
 ⟨(some 27), (.h (.load false 1)), [.t 26], none⟩,
 ⟨(some 28), (.p .mov), [.t 1], none⟩,
 ⟨(some 29), (.p (.iaddr 3)), [.t 27, .t 28], none⟩,
 ⟨(some 30), (.h (.load true 3)), [.t 29], none⟩,
 ⟨none, (.h (.store 3)), [.t 4, .t 30], none⟩,
 ⟨(some 5), (.p .mov), [.c (.bool true)], none⟩])
 (.ret [4, 5]))))
def graph_Graph_section_I : FInfo := ⟨(.fz false), 2, graph_Graph_section_C, [.cell 4 true 3, .tmp 5]⟩
def graph_Graph_section_A : Ann := ⟨[], [], [], [], [4]⟩
abbrev n_graph_Graph_section : Nat := 84

/-! ### (*balise/graph.Graph).Around -/
def graph_Graph_Around_C : CCode :=
 (.seq
 (.ops [
 ⟨(some 3), (.h .boxh), [.t 1], none⟩,
 ⟨(some 4), (.p .mov), [.c .nils], none⟩])
 (.seq
 (.ops [
 ⟨(some 11), (.p .mov), [.t 0], none⟩,
 ⟨(some 12), (.h (.load true 2)), [.t 3], none⟩,
 ⟨(some 13), .call, [.c (.fn (.func 104) [] []), .t 11, .t 12], none⟩,
 ⟨(some 10), (.p .mov), [.t 13], none⟩,
 ⟨(some 14), (.p (.ext 0)), [.t 10], none⟩,
 ⟨(some 15), (.p (.ext 1)), [.t 10], none⟩,
 ⟨(some 5), (.p .mov), [.t 14], none⟩,
 ⟨(some 6), (.p .mov), [.t 15], none⟩])
 (.seq
 (.seq
 (.ops [
 ⟨(some 16), (.p .mov), [.t 6], none⟩,
 ⟨(some 17), (.p (.un .not)), [.t 16], none⟩])
 (.cond (.t 17)
 (.seq
 (.ops [
 ⟨(some 4), (.p .mov), [.c .nils], none⟩])
 (.ret [4]))
 .skip))
 (.seq
 (.ops [
 ⟨(some 18), (.p .mov), [.t 0], none⟩,
 ⟨(some 19), (.p .mov), [.t 5], none⟩,
 ⟨(some 20), .call, [.c (.fn (.func 105) [] []), .t 18, .t 19], none⟩,
 ⟨(some 7), (.p .mov), [.t 20], none⟩])
 (.seq
 (.seq
 (.ops [
 ⟨(some 21), (.p .mov), [.t 7], none⟩,
 ⟨(some 22), (.p (.bin .lss .ifc)), [.t 21, .c (.int .i64 0)], none⟩])
 (.cond (.t 22)
 (.seq
 (.ops [
 ⟨(some 23), (.p .mov), [.t 0], none⟩,
 ⟨(some 24), (.p .mov), [.t 5], none⟩,
 ⟨(some 25), .call, [.c (.fn (.func 111) [] []), .t 23, .t 24], none⟩,
 ⟨(some 26), (.p (.mkfn (.func 112) 0)), [.t 3], none⟩,
 ⟨(some 27), .call, [.c (.fn (.func 110) [] []), .t 25, .t 26], none⟩,
 ⟨(some 8), (.p .mov), [.t 27], none⟩])
 (.seq
 (.seq
 (.ops [
 ⟨(some 28), (.p .mov), [.t 8], none⟩,
 ⟨(some 29), (.p .len), [.t 28], none⟩,
 ⟨(some 30), (.p (.bin .neq .int)), [.t 29, .c (.int .i64 1)], none⟩])
 (.cond (.t 30)
 (.seq
 (.ops [
 ⟨(some 4), (.p .mov), [.c .nils], none⟩])
 (.ret [4]))
 .skip))
 (.seq
 (.ops [
 ⟨(some 31), (.p .mov), [.t 8], none⟩,
 ⟨(some 4), (.p .mov), [.t 31], none⟩])
 (.ret [4]))))
 .skip))
 (.seq
 (.ops [
 ⟨(some 32), (.p .mov), [.t 0], none⟩,
 ⟨(some 33), (.p .nchk), [.t 32], none⟩,
 ⟨(some 34), (.p (.faddr 0)), [.t 33], none⟩,
 ⟨(some 35), (.p (.faddr 3)), [.t 34], none⟩,
 ⟨(some 36), (.h (.load false 1)), [.t 35], none⟩,
 ⟨(some 37), (.p .mov), [.t 7], none⟩,
 ⟨(some 38), (.p (.iaddr 4)), [.t 36, .t 37], none⟩,
 ⟨(some 39), (.h (.load true 4)), [.t 38], none⟩,
 ⟨(some 9), (.h (.newl 9 [(.int .i64 0), (.int .i64 0), (.int .i64 0), (.int .i64 0)])), [], none⟩,
 ⟨none, (.h (.store 4)), [.t 9, .t 39], none⟩])
 (.seq
 (.seq
 (.ops [
 ⟨(some 40), (.p (.faddr 0)), [.t 3], none⟩,
 ⟨(some 41), (.h (.load false 1)), [.t 40], none⟩])
 (.block 0 (some [])
 (.seq
 (.ops [
 ⟨(some 43), (.p (.faddr 1)), [.t 9], none⟩,
 ⟨(some 44), (.h (.load false 1)), [.t 43], none⟩,
 ⟨(some 45), (.p (.bin .eql .int)), [.t 41, .t 44], none⟩,
 ⟨(some 42), (.p .mov), [.t 45], none⟩])
 (.cond (.t 42)
 (.seq
 (.ops [
 ⟨(some 46), (.p .mov), [.t 0], none⟩,
 ⟨(some 47), (.p (.faddr 2)), [.t 9], none⟩,
 ⟨(some 48), (.h (.load false 1)), [.t 47], none⟩,
 ⟨(some 49), (.p .mov), [.t 5], none⟩,
 ⟨(some 50), .call, [.c (.fn (.func 114) [] []), .t 46, .t 48, .t 49], none⟩,
 ⟨(some 51), (.p .mov), [.t 0], none⟩,
 ⟨(some 52), (.p (.faddr 3)), [.t 9], none⟩,
 ⟨(some 53), (.h (.load false 1)), [.t 52], none⟩,
 ⟨(some 54), (.p .mov), [.t 5], none⟩,
 ⟨(some 55), .call, [.c (.fn (.func 114) [] []), .t 51, .t 53, .t 54], none⟩,
 ⟨(some 56), (.h (.bslF 1 2 [.nils] [(0, 1), (1, 1)])), [.t 50, .t 55], none⟩,
 ⟨(some 57), .call, [.c (.fn (.func 113) [] []), .t 56], none⟩,
 ⟨(some 4), (.p .mov), [.t 57], none⟩])
 (.ret [4]))
 (.seq
 (.seq
 (.ops [
 ⟨(some 59), (.p (.faddr 2)), [.t 9], none⟩,
 ⟨(some 60), (.h (.load false 1)), [.t 59], none⟩,
 ⟨(some 61), (.p (.bin .eql .int)), [.t 41, .t 60], none⟩,
 ⟨(some 58), (.p .mov), [.t 61], none⟩])
 (.cond (.t 58)
 .skip
 (.ops [
 ⟨(some 62), (.p (.faddr 3)), [.t 9], none⟩,
 ⟨(some 63), (.h (.load false 1)), [.t 62], none⟩,
 ⟨(some 64), (.p (.bin .eql .int)), [.t 41, .t 63], none⟩,
 ⟨(some 58), (.p .mov), [.t 64], none⟩])))
 (.cond (.t 58)
 (.seq
 (.ops [
 ⟨(some 65), (.p .mov), [.t 0], none⟩,
 ⟨(some 66), (.p (.faddr 1)), [.t 9], none⟩,
 ⟨(some 67), (.h (.load false 1)), [.t 66], none⟩,
 ⟨(some 68), (.p .mov), [.t 5], none⟩,
 ⟨(some 69), .call, [.c (.fn (.func 114) [] []), .t 65, .t 67, .t 68], none⟩,
 ⟨(some 4), (.p .mov), [.t 69], none⟩])
 (.ret [4]))
 .skip))))))
 (.seq
 (.ops [
 ⟨(some 4), (.p .mov), [.c .nils], none⟩])
 (.ret [4])))))))))
def graph_Graph_Around_I : FInfo := ⟨(.fz false), 2, graph_Graph_Around_C, [.tmp 4]⟩
def graph_Graph_Around_A : Ann := ⟨[3], [], [], [(0, [])], [9]⟩
abbrev n_graph_Graph_Around : Nat := 86

/-! ### slices.IndexFunc[[]balise/api.End,balise/api.End] -/
def slices_IndexFunc_End_B0 : CCode :=
 (.seq
 (.ops [
 ⟨(some 9), (.p (.bin .lss .ifc)), [.t 8, .t 7], none⟩])
 (.seq
 (.cond (.t 9)
 .skip
 (.exit 0))
 (.seq
 (.block 1 (some [0, 1, 7, 8])
 (.seq
 (.ops [
 ⟨(some 10), (.p .mov), [.t 8], none⟩,
 ⟨(some 5), (.p .mov), [.t 10], none⟩])
 (.seq
 (.ops [
 ⟨(some 11), (.p .mov), [.t 1], none⟩,
 ⟨(some 12), (.p .mov), [.t 0], none⟩,
 ⟨(some 13), (.p .mov), [.t 5], none⟩,
 ⟨(some 14), (.p (.iaddr 2)), [.t 12, .t 13], none⟩,
 ⟨(some 15), (.h (.load true 2)), [.t 14], none⟩,
 ⟨(some 16), .call, [.t 11, .t 15], none⟩])
 (.cond (.t 16)
 (.seq
 (.ops [
 ⟨(some 17), (.p .mov), [.t 5], none⟩,
 ⟨(some 4), (.p .mov), [.t 17], none⟩])
 (.ret [4]))
 .skip))))
 (.ops [
 ⟨(some 18), (.p (.bin .add .ifc)), [.t 8, .c (.int .i64 1)], none⟩,
 ⟨(some 8), (.p .mov), [.t 18], none⟩]))))
def slices_IndexFunc_End_L0 : CCode := .bloop 0 [0, 1, 7, 8] [] slices_IndexFunc_End_B0
def slices_IndexFunc_End_C : CCode :=
 (.seq
 (.ops [
 ⟨(some 4), (.p .mov), [.c (.int .i64 0)], none⟩])
 (.seq
 (.seq
 (.ops [
 ⟨(some 6), (.p .mov), [.t 0], none⟩,
 ⟨(some 7), (.p .len), [.t 6], none⟩,
 ⟨(some 8), (.p .mov), [.c (.int .i64 0)], none⟩])
 slices_IndexFunc_End_L0)
 (.seq
 (.ops [
 ⟨(some 4), (.p .mov), [.c (.int .i64 (-1))], none⟩])
 (.ret [4]))))
def slices_IndexFunc_End_I : FInfo := ⟨(.fz false), 2, slices_IndexFunc_End_C, [.tmp 4]⟩
def slices_IndexFunc_End_A : Ann := ⟨[], [], [(0, [0, 1, 7, 8], [])], [(1, [0, 1, 7, 8])], []⟩
abbrev n_slices_IndexFunc_End : Nat := 87

/-! ### slices.IndexFunc[[]int,int] -/
def slices_IndexFunc_Int_B0 : CCode :=
 (.seq
 (.ops [
 ⟨(some 9), (.p (.bin .lss .ifc)), [.t 8, .t 7], none⟩])
 (.seq
 (.cond (.t 9)
 .skip
 (.exit 0))
 (.seq
 (.block 1 (some [0, 1, 7, 8])
 (.seq
 (.ops [
 ⟨(some 10), (.p .mov), [.t 8], none⟩,
 ⟨(some 5), (.p .mov), [.t 10], none⟩])
 (.seq
 (.ops [
 ⟨(some 11), (.p .mov), [.t 1], none⟩,
 ⟨(some 12), (.p .mov), [.t 0], none⟩,
 ⟨(some 13), (.p .mov), [.t 5], none⟩,
 ⟨(some 14), (.p (.iaddr 1)), [.t 12, .t 13], none⟩,
 ⟨(some 15), (.h (.load false 1)), [.t 14], none⟩,
 ⟨(some 16), .call, [.t 11, .t 15], none⟩])
 (.cond (.t 16)
 (.seq
 (.ops [
 ⟨(some 17), (.p .mov), [.t 5], none⟩,
 ⟨(some 4), (.p .mov), [.t 17], none⟩])
 (.ret [4]))
 .skip))))
 (.ops [
 ⟨(some 18), (.p (.bin .add .ifc)), [.t 8, .c (.int .i64 1)], none⟩,
 ⟨(some 8), (.p .mov), [.t 18], none⟩]))))
def slices_IndexFunc_Int_L0 : CCode := .bloop 0 [0, 1, 7, 8] [] slices_IndexFunc_Int_B0
def slices_IndexFunc_Int_C : CCode :=
 (.seq
 (.ops [
 ⟨(some 4), (.p .mov), [.c (.int .i64 0)], none⟩])
 (.seq
 (.seq
 (.ops [
 ⟨(some 6), (.p .mov), [.t 0], none⟩,
 ⟨(some 7), (.p .len), [.t 6], none⟩,
 ⟨(some 8), (.p .mov), [.c (.int .i64 0)], none⟩])
 slices_IndexFunc_Int_L0)
 (.seq
 (.ops [
 ⟨(some 4), (.p .mov), [.c (.int .i64 (-1))], none⟩])
 (.ret [4]))))
def slices_IndexFunc_Int_I : FInfo := ⟨(.fz false), 2, slices_IndexFunc_Int_C, [.tmp 4]⟩
def slices_IndexFunc_Int_A : Ann := ⟨[], [], [(0, [0, 1, 7, 8], [])], [(1, [0, 1, 7, 8])], []⟩
abbrev n_slices_IndexFunc_Int : Nat := 89

/-! ### slices.Sort[[]int,int] -/
def slices_Sort_int_C : CCode :=
 (.seq
 (.ops [
 ⟨(some 3), (.p .mov), [.t 0], none⟩,
 ⟨(some 4), (.p .len), [.t 3], none⟩,
 ⟨(some 2), (.p .mov), [.t 4], none⟩])
 (.ops [
 ⟨(some 5), (.p .mov), [.t 0], none⟩,
 ⟨(some 6), (.p .mov), [.t 2], none⟩,
 ⟨(some 7), (.p .mov), [.t 2], none⟩,
 ⟨(some 8), (.p (.toInt .u64)), [.t 7], none⟩,
 ⟨(some 9), .call, [.c (.fn (.func 117) [] []), .t 8], none⟩,
 ⟨(some 10), .call, [.c (.fn (.func 116) [] []), .t 5, .c (.int .i64 0), .t 6, .t 9], none⟩]))
def slices_Sort_int_I : FInfo := ⟨.ref, 1, slices_Sort_int_C, []⟩
def slices_Sort_int_A : Ann := ⟨[], [], [], [], []⟩
abbrev n_slices_Sort_int : Nat := 91

/-! ### slices.Index[[]int,int] -/
def slices_Index_int_B0 : CCode :=
 (.seq
 (.ops [
 ⟨(some 9), (.p (.bin .lss .ifc)), [.t 8, .t 7], none⟩])
 (.seq
 (.cond (.t 9)
 .skip
 (.exit 0))
 (.seq
 (.block 1 (some [0, 1, 7, 8])
 (.seq
 (.ops [
 ⟨(some 10), (.p .mov), [.t 8], none⟩,
 ⟨(some 5), (.p .mov), [.t 10], none⟩])
 (.seq
 (.ops [
 ⟨(some 11), (.p .mov), [.t 1], none⟩,
 ⟨(some 12), (.p .mov), [.t 0], none⟩,
 ⟨(some 13), (.p .mov), [.t 5], none⟩,
 ⟨(some 14), (.p (.iaddr 1)), [.t 12, .t 13], none⟩,
 ⟨(some 15), (.h (.load false 1)), [.t 14], none⟩,
 ⟨(some 16), (.p (.bin .eql .int)), [.t 11, .t 15], none⟩])
 (.cond (.t 16)
 (.seq
 (.ops [
 ⟨(some 17), (.p .mov), [.t 5], none⟩,
 ⟨(some 4), (.p .mov), [.t 17], none⟩])
 (.ret [4]))
 .skip))))
 (.ops [
 ⟨(some 18), (.p (.bin .add .ifc)), [.t 8, .c (.int .i64 1)], none⟩,
 ⟨(some 8), (.p .mov), [.t 18], none⟩]))))
def slices_Index_int_L0 : CCode := .bloop 0 [0, 1, 7, 8] [] slices_Index_int_B0
def slices_Index_int_C : CCode :=
 (.seq
 (.ops [
 ⟨(some 4), (.p .mov), [.c (.int .i64 0)], none⟩])
 (.seq
 (.seq
 (.ops [
 ⟨(some 6), (.p .mov), [.t 0], none⟩,
 ⟨(some 7), (.p .len), [.t 6], none⟩,
 ⟨(some 8), (.p .mov), [.c (.int .i64 0)], none⟩])
 slices_Index_int_L0)
 (.seq
 (.ops [
 ⟨(some 4), (.p .mov), [.c (.int .i64 (-1))], none⟩])
 (.ret [4]))))
def slices_Index_int_I : FInfo := ⟨(.fz false), 2, slices_Index_int_C, [.tmp 4]⟩
def slices_Index_int_A : Ann := ⟨[], [], [(0, [0, 1, 7, 8], [])], [(1, [0, 1, 7, 8])], []⟩
abbrev n_slices_Index_int : Nat := 93

/-! ### balise/baliseref05.node -/
def r05_node_C : CCode :=
 (.seq
 (.ops [
 ⟨(some 2), (.h (.box 2)), [.t 0], none⟩,
 ⟨(some 3), (.h (.box 3)), [.t 1], none⟩,
 ⟨(some 4), (.p .mov), [.c (.int .i64 0)], none⟩,
 ⟨(some 5), (.p .mov), [.c (.bool false)], none⟩])
 (.seq
 (.seq
 (.ops [
 ⟨(some 6), (.p (.faddr 0)), [.t 3], none⟩,
 ⟨(some 7), (.h (.load false 1)), [.t 6], none⟩,
 ⟨(some 8), (.p (.bin .lss .ifc)), [.t 7, .c (.int .i64 0)], none⟩,
 ⟨(some 9), (.p .mov), [.t 8], none⟩,
 ⟨(some 10), (.p (.faddr 0)), [.t 3], (some (9, false))⟩,
 ⟨(some 11), (.h (.load false 1)), [.t 10], (some (9, false))⟩,
 ⟨(some 12), (.p (.faddr 1)), [.t 2], (some (9, false))⟩,
 ⟨(some 13), (.h (.load false 1)), [.t 12], (some (9, false))⟩,
 ⟨(some 14), (.p .len), [.t 13], (some (9, false))⟩,
 ⟨(some 15), (.p (.bin .geq .ifc)), [.t 11, .t 14], (some (9, false))⟩,
 ⟨(some 16), (.p .pick), [.t 9, .c (.bool true), .t 15], none⟩,
 ⟨(some 17), (.p .mov), [.t 16], none⟩,
 ⟨(some 18), (.p (.faddr 1)), [.t 3], (some (17, false))⟩,
 ⟨(some 19), (.h (.load false 1)), [.t 18], (some (17, false))⟩,
 ⟨(some 20), (.p (.bin .lss .ifc)), [.t 19, .c (.int .i64 0)], (some (17, false))⟩,
 ⟨(some 21), (.p .pick), [.t 17, .c (.bool true), .t 20], none⟩,
 ⟨(some 22), (.p .mov), [.t 21], none⟩,
 ⟨(some 23), (.p (.faddr 1)), [.t 3], (some (22, false))⟩,
 ⟨(some 24), (.h (.load false 1)), [.t 23], (some (22, false))⟩,
 ⟨(some 25), (.p (.bin .gtr .ifc)), [.t 24, .c (.int .i64 1)], (some (22, false))⟩,
 ⟨(some 26), (.p .pick), [.t 22, .c (.bool true), .t 25], none⟩])
 (.cond (.t 26)
 (.seq
 (.ops [
 ⟨(some 4), (.p .mov), [.c (.int .i64 0)], none⟩,
 ⟨(some 5), (.p .mov), [.c (.bool false)], none⟩])
 (.ret [4, 5]))
 .skip))
 (.seq
 (.seq
 (.ops [
 ⟨(some 27), (.p (.faddr 1)), [.t 3], none⟩,
 ⟨(some 28), (.h (.load false 1)), [.t 27], none⟩,
 ⟨(some 29), (.p (.bin .eql .int)), [.t 28, .c (.int .i64 0)], none⟩])
 (.cond (.t 29)
 (.seq
 (.ops [
 ⟨(some 30), (.p (.faddr 1)), [.t 2], none⟩,
 ⟨(some 31), (.h (.load false 1)), [.t 30], none⟩,
 ⟨(some 32), (.p (.faddr 0)), [.t 3], none⟩,
 ⟨(some 33), (.h (.load false 1)), [.t 32], none⟩,
 ⟨(some 34), (.p (.iaddr 3)), [.t 31, .t 33], none⟩,
 ⟨(some 35), (.p (.faddr 1)), [.t 34], none⟩,
 ⟨(some 36), (.h (.load false 1)), [.t 35], none⟩,
 ⟨(some 4), (.p .mov), [.t 36], none⟩,
 ⟨(some 5), (.p .mov), [.c (.bool true)], none⟩])
 (.ret [4, 5]))
 .skip))
 (.seq
 (.ops [
 ⟨(some 37), (.p (.faddr 1)), [.t 2], none⟩,
 ⟨(some 38), (.h (.load false 1)), [.t 37], none⟩,
 ⟨(some 39), (.p (.faddr 0)), [.t 3], none⟩,
 ⟨(some 40), (.h (.load false 1)), [.t 39], none⟩,
 ⟨(some 41), (.p (.iaddr 3)), [.t 38, .t 40], none⟩,
 ⟨(some 42), (.p (.faddr 2)), [.t 41], none⟩,
 ⟨(some 43), (.h (.load false 1)), [.t 42], none⟩,
 ⟨(some 4), (.p .mov), [.t 43], none⟩,
 ⟨(some 5), (.p .mov), [.c (.bool true)], none⟩])
 (.ret [4, 5])))))
def r05_node_I : FInfo := ⟨(.fz false), 2, r05_node_C, [.tmp 4, .tmp 5]⟩
def r05_node_A : Ann := ⟨[], [], [], [], [2, 3]⟩
abbrev n_r05_node : Nat := 94

/-! ### balise/baliseref05.Point -/
def r05_Point_B0 : CCode :=
 (.seq
 (.seq
 (.ops [
 ⟨(some 6), (.p .mov), [.t 5], none⟩,
 ⟨(some 7), (.p (.faddr 3)), [.t 2], none⟩,
 ⟨(some 8), (.h (.load false 1)), [.t 7], none⟩,
 ⟨(some 9), (.p .len), [.t 8], none⟩,
 ⟨(some 10), (.p (.bin .lss .ifc)), [.t 6, .t 9], none⟩])
 (.cond (.t 10)
 .skip
 (.exit 0)))
 (.seq
 (.block 1 (some [1, 2, 5])
 (.seq
 (.ops [
 ⟨(some 13), (.p (.faddr 3)), [.t 2], none⟩,
 ⟨(some 14), (.h (.load false 1)), [.t 13], none⟩,
 ⟨(some 15), (.p .mov), [.t 5], none⟩,
 ⟨(some 16), (.p (.iaddr 4)), [.t 14, .t 15], none⟩,
 ⟨(some 17), (.p (.faddr 0)), [.t 16], none⟩,
 ⟨(some 18), (.h (.load false 1)), [.t 17], none⟩,
 ⟨(some 19), (.p .mov), [.t 1], none⟩,
 ⟨(some 20), (.p (.bin .eql .int)), [.t 18, .t 19], none⟩])
 (.cond (.t 20)
 (.seq
 (.ops [
 ⟨(some 21), (.p .mov), [.t 5], none⟩,
 ⟨(some 4), (.p .mov), [.t 21], none⟩])
 (.ret [4]))
 .skip)))
 (.ops [
 ⟨(some 11), (.p .mov), [.t 5], none⟩,
 ⟨(some 12), (.p (.bin .add .ifc)), [.t 11, .c (.int .i64 1)], none⟩,
 ⟨(some 5), (.p .mov), [.t 12], none⟩])))
def r05_Point_L0 : CCode := .bloop 0 [1, 2, 5] [] r05_Point_B0
def r05_Point_C : CCode :=
 (.seq
 (.ops [
 ⟨(some 2), (.h (.box 2)), [.t 0], none⟩,
 ⟨(some 4), (.p .mov), [.c (.int .i64 0)], none⟩])
 (.seq
 (.seq
 (.ops [
 ⟨(some 5), (.p .mov), [.c (.int .i64 0)], none⟩])
 r05_Point_L0)
 (.seq
 (.ops [
 ⟨(some 4), (.p .mov), [.c (.int .i64 (-1))], none⟩])
 (.ret [4]))))
def r05_Point_I : FInfo := ⟨(.fz false), 2, r05_Point_C, [.tmp 4]⟩
def r05_Point_A : Ann := ⟨[], [], [(0, [1, 2, 5], [])], [(1, [1, 2, 5])], [2]⟩
abbrev n_r05_Point : Nat := 95

/-! ### balise/baliseref05.one -/
def r05_one_B0 : CCode :=
 (.seq
 (.seq
 (.ops [
 ⟨(some 12), (.p .mov), [.t 8], none⟩,
 ⟨(some 13), (.p .mov), [.t 7], none⟩,
 ⟨(some 14), (.p .len), [.t 13], none⟩,
 ⟨(some 15), (.p (.bin .lss .ifc)), [.t 12, .t 14], none⟩])
 (.cond (.t 15)
 .skip
 (.exit 0)))
 (.seq
 (.block 1 (some [1, 7, 8])
 (.seq
 (.ops [
 ⟨(some 18), (.p .mov), [.t 7], none⟩,
 ⟨(some 19), (.p .mov), [.t 8], none⟩,
 ⟨(some 20), (.p (.iaddr 2)), [.t 18, .t 19], none⟩,
 ⟨(some 21), (.p (.faddr 0)), [.t 20], none⟩,
 ⟨(some 22), (.h (.load false 1)), [.t 21], none⟩,
 ⟨(some 23), (.p .mov), [.t 1], none⟩,
 ⟨(some 24), (.p (.bin .eql .int)), [.t 22, .t 23], none⟩])
 (.cond (.t 24)
 (.seq
 (.ops [
 ⟨(some 25), (.p .mov), [.t 7], none⟩,
 ⟨(some 26), (.p .mov), [.t 8], none⟩,
 ⟨(some 27), (.p .mov), [.t 8], none⟩,
 ⟨(some 28), (.p (.bin .add .ifc)), [.t 27, .c (.int .i64 1)], none⟩,
 ⟨(some 29), (.p (.slc 2 true true)), [.t 25, .t 26, .t 28], none⟩,
 ⟨(some 6), (.p .mov), [.t 29], none⟩])
 (.ret [6]))
 .skip)))
 (.ops [
 ⟨(some 16), (.p .mov), [.t 8], none⟩,
 ⟨(some 17), (.p (.bin .add .ifc)), [.t 16, .c (.int .i64 1)], none⟩,
 ⟨(some 8), (.p .mov), [.t 17], none⟩])))
def r05_one_L0 : CCode := .bloop 0 [1, 7, 8] [] r05_one_B0
def r05_one_C : CCode :=
 (.seq
 (.ops [
 ⟨(some 3), (.h (.box 3)), [.t 0], none⟩,
 ⟨(some 6), (.p .mov), [.c .nils], none⟩])
 (.seq
 (.ops [
 ⟨(some 9), (.h (.load true 10)), [.t 3], none⟩,
 ⟨(some 10), (.p .mov), [.t 2], none⟩,
 ⟨(some 11), .call, [.c (.fn (.func 97) [] []), .t 9, .t 10], none⟩,
 ⟨(some 7), (.p .mov), [.t 11], none⟩])
 (.seq
 (.seq
 (.ops [
 ⟨(some 8), (.p .mov), [.c (.int .i64 0)], none⟩])
 r05_one_L0)
 (.seq
 (.ops [
 ⟨(some 6), (.p .mov), [.c .nils], none⟩])
 (.ret [6])))))
def r05_one_I : FInfo := ⟨(.fz false), 3, r05_one_C, [.tmp 6]⟩
def r05_one_A : Ann := ⟨[], [], [(0, [1, 7, 8], [])], [(1, [1, 7, 8])], [3]⟩
abbrev n_r05_one : Nat := 96

/-! ### balise/baliseref05.Ends -/
def r05_Ends_B0 : CCode :=
 (.seq
 (.seq
 (.ops [
 ⟨(some 7), (.p .mov), [.t 6], none⟩,
 ⟨(some 8), (.p (.faddr 1)), [.t 2], none⟩,
 ⟨(some 9), (.h (.load false 1)), [.t 8], none⟩,
 ⟨(some 10), (.p .len), [.t 9], none⟩,
 ⟨(some 11), (.p (.bin .lss .ifc)), [.t 7, .t 10], none⟩])
 (.cond (.t 11)
 .skip
 (.exit 0)))
 (.seq
 (.block 1 (some [1, 2, 5, 6])
 (.seq
 (.seq
 (.ops [
 ⟨(some 14), (.p (.faddr 1)), [.t 2], none⟩,
 ⟨(some 15), (.h (.load false 1)), [.t 14], none⟩,
 ⟨(some 16), (.p .mov), [.t 6], none⟩,
 ⟨(some 17), (.p (.iaddr 3)), [.t 15, .t 16], none⟩,
 ⟨(some 18), (.p (.faddr 1)), [.t 17], none⟩,
 ⟨(some 19), (.h (.load false 1)), [.t 18], none⟩,
 ⟨(some 20), (.p .mov), [.t 1], none⟩,
 ⟨(some 21), (.p (.bin .eql .int)), [.t 19, .t 20], none⟩])
 (.cond (.t 21)
 (.ops [
 ⟨(some 22), (.p .mov), [.t 5], none⟩,
 ⟨(some 23), (.p .mov), [.t 6], none⟩,
 ⟨(some 24), (.p (.bld [(.int .i64 0), (.int .i64 0)] [(0, 1), (1, 1)])), [.t 23, .c (.int .i64 0)], none⟩,
 ⟨(some 25), (.h (.bslF 2 1 [(.int .i64 0), (.int .i64 0)] [(0, 2)])), [.t 24], none⟩,
 ⟨(some 26), (.h (.app 2 16 [(.int .i64 0), (.int .i64 0)])), [.t 22, .t 25], none⟩,
 ⟨(some 5), (.p .mov), [.t 26], none⟩])
 .skip))
 (.seq
 (.ops [
 ⟨(some 27), (.p (.faddr 1)), [.t 2], none⟩,
 ⟨(some 28), (.h (.load false 1)), [.t 27], none⟩,
 ⟨(some 29), (.p .mov), [.t 6], none⟩,
 ⟨(some 30), (.p (.iaddr 3)), [.t 28, .t 29], none⟩,
 ⟨(some 31), (.p (.faddr 2)), [.t 30], none⟩,
 ⟨(some 32), (.h (.load false 1)), [.t 31], none⟩,
 ⟨(some 33), (.p .mov), [.t 1], none⟩,
 ⟨(some 34), (.p (.bin .eql .int)), [.t 32, .t 33], none⟩])
 (.cond (.t 34)
 (.ops [
 ⟨(some 35), (.p .mov), [.t 5], none⟩,
 ⟨(some 36), (.p .mov), [.t 6], none⟩,
 ⟨(some 37), (.p (.bld [(.int .i64 0), (.int .i64 0)] [(0, 1), (1, 1)])), [.t 36, .c (.int .i64 1)], none⟩,
 ⟨(some 38), (.h (.bslF 2 1 [(.int .i64 0), (.int .i64 0)] [(0, 2)])), [.t 37], none⟩,
 ⟨(some 39), (.h (.app 2 16 [(.int .i64 0), (.int .i64 0)])), [.t 35, .t 38], none⟩,
 ⟨(some 5), (.p .mov), [.t 39], none⟩])
 .skip))))
 (.ops [
 ⟨(some 12), (.p .mov), [.t 6], none⟩,
 ⟨(some 13), (.p (.bin .add .ifc)), [.t 12, .c (.int .i64 1)], none⟩,
 ⟨(some 6), (.p .mov), [.t 13], none⟩])))
def r05_Ends_L0 : CCode := .bloop 0 [1, 2, 5, 6] [5] r05_Ends_B0
def r05_Ends_C : CCode :=
 (.seq
 (.ops [
 ⟨(some 2), (.h (.box 2)), [.t 0], none⟩,
 ⟨(some 4), (.p .mov), [.c .nils], none⟩])
 (.seq
 (.ops [
 ⟨(some 5), (.p .mov), [.c .nils], none⟩])
 (.seq
 (.seq
 (.ops [
 ⟨(some 6), (.p .mov), [.c (.int .i64 0)], none⟩])
 r05_Ends_L0)
 (.seq
 (.ops [
 ⟨(some 40), (.p .mov), [.t 5], none⟩,
 ⟨(some 4), (.p .mov), [.t 40], none⟩])
 (.ret [4])))))
def r05_Ends_I : FInfo := ⟨(.fz false), 2, r05_Ends_C, [.tmp 4]⟩
def r05_Ends_A : Ann := ⟨[], [], [(0, [1, 2, 5, 6], [5])], [(1, [1, 2, 5, 6])], [2]⟩
abbrev n_r05_Ends : Nat := 97

/-! ### (*balise/graph.Graph).Near -/
def graph_Graph_Near_B2 : CCode :=
 (.seq
 (.ops [
 ⟨(some 19), (.p (.bin .lss .ifc)), [.t 18, .t 17], none⟩])
 (.seq
 (.cond (.t 19)
 .skip
 (.exit 2))
 (.seq
 (.block 3 (some [0, 1, 5, 9, 16, 17, 18])
 (.seq
 (.ops [
 ⟨(some 20), (.p (.iaddr 2)), [.t 16, .t 18], none⟩,
 ⟨(some 21), (.h (.load true 2)), [.t 20], none⟩,
 ⟨(some 8), (.h (.newl 8 [(.int .i64 0), (.int .i64 0)])), [], none⟩,
 ⟨none, (.h (.store 2)), [.t 8, .t 21], none⟩])
 (.ops [
 ⟨(some 22), (.p .mov), [.t 5], none⟩,
 ⟨(some 23), (.p (.faddr 0)), [.t 8], none⟩,
 ⟨(some 24), (.h (.load false 1)), [.t 23], none⟩,
 ⟨(some 25), (.h (.bslF 1 1 [(.int .i64 0)] [(0, 1)])), [.t 24], none⟩,
 ⟨(some 26), (.h (.app 1 8 [(.int .i64 0)])), [.t 22, .t 25], none⟩,
 ⟨(some 5), (.p .mov), [.t 26], none⟩])))
 (.ops [
 ⟨(some 27), (.p (.bin .add .ifc)), [.t 18, .c (.int .i64 1)], none⟩,
 ⟨(some 18), (.p .mov), [.t 27], none⟩]))))
def graph_Graph_Near_L2 : CCode := .bloop 2 [0, 1, 5, 9, 16, 17, 18] [0, 1, 5, 9] graph_Graph_Near_B2

def graph_Graph_Near_B0 : CCode :=
 (.seq
 (.ops [
 ⟨(some 10), (.p (.bin .lss .ifc)), [.t 9, .c (.int .i64 2)], none⟩])
 (.seq
 (.cond (.t 10)
 .skip
 (.exit 0))
 (.seq
 (.block 1 (some [0, 1, 5, 9])
 (.seq
 (.ops [
 ⟨(some 11), (.p .mov), [.t 9], none⟩,
 ⟨(some 6), (.p .mov), [.t 11], none⟩])
 (.seq
 (.ops [
 ⟨(some 12), (.p .mov), [.t 0], none⟩,
 ⟨(some 13), (.p .mov), [.t 1], none⟩,
 ⟨(some 14), (.p .mov), [.t 6], none⟩,
 ⟨(some 15), (.p (.bld [(.int .i64 0), (.int .i64 0)] [(0, 1), (1, 1)])), [.t 13, .t 14], none⟩,
 ⟨(some 16), .call, [.c (.fn (.func 86) [] []), .t 12, .t 15], none⟩,
 ⟨(some 17), (.p .len), [.t 16], none⟩,
 ⟨(some 18), (.p .mov), [.c (.int .i64 0)], none⟩])
 graph_Graph_Near_L2)))
 (.ops [
 ⟨(some 28), (.p (.bin .add .ifc)), [.t 9, .c (.int .i64 1)], none⟩,
 ⟨(some 9), (.p .mov), [.t 28], none⟩]))))
def graph_Graph_Near_L0 : CCode := .bloop 0 [0, 1, 5, 9] [5] graph_Graph_Near_B0
def graph_Graph_Near_C : CCode :=
 (.seq
 (.ops [
 ⟨(some 4), (.p .mov), [.c .nils], none⟩])
 (.seq
 (.ops [
 ⟨(some 5), (.p .mov), [.c .nils], none⟩])
 (.seq
 (.seq
 (.ops [
 ⟨(some 9), (.p .mov), [.c (.int .i64 0)], none⟩])
 graph_Graph_Near_L0)
 (.seq
 (.ops [
 ⟨(some 29), (.p .mov), [.t 5], none⟩,
 ⟨(some 30), .call, [.c (.fn (.func 91) [] []), .t 29], none⟩])
 (.seq
 (.ops [
 ⟨(some 31), (.p .mov), [.t 5], none⟩,
 ⟨(some 32), .call, [.c (.fn (.func 100) [] []), .t 31], none⟩,
 ⟨(some 4), (.p .mov), [.t 32], none⟩])
 (.ret [4]))))))
def graph_Graph_Near_I : FInfo := ⟨(.fz false), 2, graph_Graph_Near_C, [.tmp 4]⟩
def graph_Graph_Near_A : Ann := ⟨[], [], [(0, [0, 1, 5, 9], [5]), (2, [0, 1, 5, 9, 16, 17, 18], [0, 1, 5, 9])], [(1, [0, 1, 5, 9]), (3, [0, 1, 5, 9, 16, 17, 18])], [8]⟩
abbrev n_graph_Graph_Near : Nat := 98

/-! ### (*balise/graph.Graph).Part -/
def graph_Graph_Part_C : CCode :=
 (.seq
 (.ops [
 ⟨(some 3), (.h .boxh), [.t 1], none⟩,
 ⟨(some 4), (.p .mov), [.c (.int .i64 0)], none⟩])
 (.seq
 (.seq
 (.ops [
 ⟨(some 5), (.p .mov), [.t 0], none⟩,
 ⟨(some 6), (.p (.bin .eql .ptr)), [.t 5, .c .nilp], none⟩])
 (.cond (.t 6)
 (.seq
 (.ops [
 ⟨(some 4), (.p .mov), [.c (.int .i64 (-1))], none⟩])
 (.ret [4]))
 .skip))
 (.seq
 (.ops [
 ⟨(some 7), (.p .mov), [.t 0], none⟩,
 ⟨(some 8), (.p .nchk), [.t 7], none⟩,
 ⟨(some 9), (.p (.faddr 0)), [.t 8], none⟩,
 ⟨(some 10), (.p (.faddr 2)), [.t 9], none⟩,
 ⟨(some 11), (.h (.load false 1)), [.t 10], none⟩,
 ⟨(some 12), (.p (.mkfn (.func 119) 0)), [.t 3], none⟩,
 ⟨(some 13), .call, [.c (.fn (.func 118) [] []), .t 11, .t 12], none⟩,
 ⟨(some 4), (.p .mov), [.t 13], none⟩])
 (.ret [4]))))
def graph_Graph_Part_I : FInfo := ⟨(.fz false), 2, graph_Graph_Part_C, [.tmp 4]⟩
def graph_Graph_Part_A : Ann := ⟨[3], [], [], [], []⟩
abbrev n_graph_Graph_Part : Nat := 99

/-! ### slices.Compact[[]int,int] -/
def slices_Compact_int_B2 : CCode :=
 (.seq
 (.seq
 (.ops [
 ⟨(some 29), (.p .mov), [.t 5], none⟩,
 ⟨(some 30), (.p .mov), [.t 4], none⟩,
 ⟨(some 31), (.p .len), [.t 30], none⟩,
 ⟨(some 32), (.p (.bin .lss .ifc)), [.t 29, .t 31], none⟩])
 (.cond (.t 32)
 .skip
 (.exit 2)))
 (.seq
 (.block 3 (some [0, 3, 4, 5])
 (.seq
 (.ops [
 ⟨(some 35), (.p .mov), [.t 4], none⟩,
 ⟨(some 36), (.p .mov), [.t 5], none⟩,
 ⟨(some 37), (.p (.iaddr 1)), [.t 35, .t 36], none⟩,
 ⟨(some 38), (.h (.load false 1)), [.t 37], none⟩,
 ⟨(some 39), (.p .mov), [.t 4], none⟩,
 ⟨(some 40), (.p .mov), [.t 5], none⟩,
 ⟨(some 41), (.p (.bin .sub .ifc)), [.t 40, .c (.int .i64 1)], none⟩,
 ⟨(some 42), (.p (.iaddr 1)), [.t 39, .t 41], none⟩,
 ⟨(some 43), (.h (.load false 1)), [.t 42], none⟩,
 ⟨(some 44), (.p (.bin .neq .int)), [.t 38, .t 43], none⟩])
 (.cond (.t 44)
 (.seq
 (.ops [
 ⟨(some 45), (.p .mov), [.t 0], none⟩,
 ⟨(some 46), (.p .mov), [.t 3], none⟩,
 ⟨(some 47), (.p .mov), [.t 4], none⟩,
 ⟨(some 48), (.p .mov), [.t 5], none⟩,
 ⟨(some 49), (.p (.iaddr 1)), [.t 47, .t 48], none⟩,
 ⟨(some 50), (.h (.load false 1)), [.t 49], none⟩,
 ⟨(some 51), (.p (.iaddr 1)), [.t 45, .t 46], none⟩,
 ⟨none, (.h (.store 1)), [.t 51, .t 50], none⟩])
 (.ops [
 ⟨(some 52), (.p .mov), [.t 3], none⟩,
 ⟨(some 53), (.p (.bin .add .ifc)), [.t 52, .c (.int .i64 1)], none⟩,
 ⟨(some 3), (.p .mov), [.t 53], none⟩]))
 .skip)))
 (.ops [
 ⟨(some 33), (.p .mov), [.t 5], none⟩,
 ⟨(some 34), (.p (.bin .add .ifc)), [.t 33, .c (.int .i64 1)], none⟩,
 ⟨(some 5), (.p .mov), [.t 34], none⟩])))
def slices_Compact_int_L2 : CCode := .bloop 2 [0, 3, 4, 5] [0, 3] slices_Compact_int_B2

def slices_Compact_int_B0 : CCode :=
 (.seq
 (.seq
 (.ops [
 ⟨(some 10), (.p .mov), [.t 3], none⟩,
 ⟨(some 11), (.p .mov), [.t 0], none⟩,
 ⟨(some 12), (.p .len), [.t 11], none⟩,
 ⟨(some 13), (.p (.bin .lss .ifc)), [.t 10, .t 12], none⟩])
 (.cond (.t 13)
 .skip
 (.exit 0)))
 (.seq
 (.block 1 (some [0, 3])
 (.seq
 (.ops [
 ⟨(some 16), (.p .mov), [.t 0], none⟩,
 ⟨(some 17), (.p .mov), [.t 3], none⟩,
 ⟨(some 18), (.p (.iaddr 1)), [.t 16, .t 17], none⟩,
 ⟨(some 19), (.h (.load false 1)), [.t 18], none⟩,
 ⟨(some 20), (.p .mov), [.t 0], none⟩,
 ⟨(some 21), (.p .mov), [.t 3], none⟩,
 ⟨(some 22), (.p (.bin .sub .ifc)), [.t 21, .c (.int .i64 1)], none⟩,
 ⟨(some 23), (.p (.iaddr 1)), [.t 20, .t 22], none⟩,
 ⟨(some 24), (.h (.load false 1)), [.t 23], none⟩,
 ⟨(some 25), (.p (.bin .eql .int)), [.t 19, .t 24], none⟩])
 (.cond (.t 25)
 (.seq
 (.ops [
 ⟨(some 26), (.p .mov), [.t 0], none⟩,
 ⟨(some 27), (.p .mov), [.t 3], none⟩,
 ⟨(some 28), (.p (.slc 1 true false)), [.t 26, .t 27], none⟩,
 ⟨(some 4), (.p .mov), [.t 28], none⟩])
 (.seq
 (.seq
 (.ops [
 ⟨(some 5), (.p .mov), [.c (.int .i64 1)], none⟩])
 slices_Compact_int_L2)
 (.seq
 (.ops [
 ⟨(some 54), (.p .mov), [.t 0], none⟩,
 ⟨(some 55), (.p .mov), [.t 3], none⟩,
 ⟨(some 56), (.p (.slc 1 true false)), [.t 54, .t 55], none⟩,
 ⟨none, (.h (.clear 1 [(.int .i64 0)])), [.t 56], none⟩])
 (.seq
 (.ops [
 ⟨(some 57), (.p .mov), [.t 0], none⟩,
 ⟨(some 58), (.p .mov), [.t 3], none⟩,
 ⟨(some 59), (.p (.slc 1 false true)), [.t 57, .t 58], none⟩,
 ⟨(some 2), (.p .mov), [.t 59], none⟩])
 (.ret [2])))))
 .skip)))
 (.ops [
 ⟨(some 14), (.p .mov), [.t 3], none⟩,
 ⟨(some 15), (.p (.bin .add .ifc)), [.t 14, .c (.int .i64 1)], none⟩,
 ⟨(some 3), (.p .mov), [.t 15], none⟩])))
def slices_Compact_int_L0 : CCode := .bloop 0 [0, 3] [0] slices_Compact_int_B0
def slices_Compact_int_C : CCode :=
 (.seq
 (.ops [
 ⟨(some 2), (.p .mov), [.c .nils], none⟩])
 (.seq
 (.seq
 (.ops [
 ⟨(some 6), (.p .mov), [.t 0], none⟩,
 ⟨(some 7), (.p .len), [.t 6], none⟩,
 ⟨(some 8), (.p (.bin .lss .ifc)), [.t 7, .c (.int .i64 2)], none⟩])
 (.cond (.t 8)
 (.seq
 (.ops [
 ⟨(some 9), (.p .mov), [.t 0], none⟩,
 ⟨(some 2), (.p .mov), [.t 9], none⟩])
 (.ret [2]))
 .skip))
 (.seq
 (.seq
 (.ops [
 ⟨(some 3), (.p .mov), [.c (.int .i64 1)], none⟩])
 slices_Compact_int_L0)
 (.seq
 (.ops [
 ⟨(some 60), (.p .mov), [.t 0], none⟩,
 ⟨(some 2), (.p .mov), [.t 60], none⟩])
 (.ret [2])))))
def slices_Compact_int_I : FInfo := ⟨.ref, 1, slices_Compact_int_C, [.tmp 2]⟩
def slices_Compact_int_A : Ann := ⟨[], [], [(0, [0, 3], [0]), (2, [0, 3, 4, 5], [0, 3])], [(1, [0, 3]), (3, [0, 3, 4, 5])], []⟩
abbrev n_slices_Compact_int : Nat := 100

/-! ### balise/chain.Meets$1 -/
def chain_Meets_1_C : CCode :=
 (.seq
 (.ops [
 ⟨(some 3), (.p .mov), [.c (.bool false)], none⟩])
 (.seq
 (.ops [
 ⟨(some 4), (.h (.load false 1)), [.t 1], none⟩,
 ⟨(some 5), (.p .mov), [.t 0], none⟩,
 ⟨(some 6), .call, [.c (.fn (.func 73) [] []), .t 4, .t 5], none⟩,
 ⟨(some 3), (.p .mov), [.t 6], none⟩])
 (.ret [3])))
def chain_Meets_1_I : FInfo := ⟨(.fz false), 2, chain_Meets_1_C, [.tmp 3]⟩
def chain_Meets_1_A : Ann := ⟨[], [], [], [], []⟩
abbrev n_chain_Meets_1 : Nat := 101

/-! ### math/bits.Mul32 -/
def math_bits_Mul32_C : CCode :=
 (.seq
 (.ops [
 ⟨(some 4), (.p .mov), [.c (.int .u32 0)], none⟩,
 ⟨(some 5), (.p .mov), [.c (.int .u32 0)], none⟩])
 (.seq
 (.ops [
 ⟨(some 7), (.p .mov), [.t 0], none⟩,
 ⟨(some 8), (.p (.toInt .u64)), [.t 7], none⟩,
 ⟨(some 9), (.p .mov), [.t 1], none⟩,
 ⟨(some 10), (.p (.toInt .u64)), [.t 9], none⟩,
 ⟨(some 11), (.p (.bin .mul .ifc)), [.t 8, .t 10], none⟩,
 ⟨(some 6), (.p .mov), [.t 11], none⟩])
 (.seq
 (.ops [
 ⟨(some 12), (.p .mov), [.t 6], none⟩,
 ⟨(some 13), (.p (.bin .shr .ifc)), [.t 12, .c (.int .u64 32)], none⟩,
 ⟨(some 14), (.p (.toInt .u32)), [.t 13], none⟩,
 ⟨(some 15), (.p .mov), [.t 6], none⟩,
 ⟨(some 16), (.p (.toInt .u32)), [.t 15], none⟩,
 ⟨(some 4), (.p .mov), [.t 14], none⟩,
 ⟨(some 5), (.p .mov), [.t 16], none⟩])
 (.ret [4, 5]))))
def math_bits_Mul32_I : FInfo := ⟨(.fz false), 2, math_bits_Mul32_C, [.tmp 4, .tmp 5]⟩
def math_bits_Mul32_A : Ann := ⟨[], [], [], [], []⟩
abbrev n_math_bits_Mul32 : Nat := 102

/-! ### math/bits.Mul64 -/
def math_bits_Mul64_C : CCode :=
 (.seq
 (.ops [
 ⟨(some 4), (.p .mov), [.c (.int .u64 0)], none⟩,
 ⟨(some 5), (.p .mov), [.c (.int .u64 0)], none⟩])
 (.seq
 (.ops [
 ⟨(some 14), (.p .mov), [.t 0], none⟩,
 ⟨(some 15), (.p (.bin .and .ifc)), [.t 14, .c (.int .u64 4294967295)], none⟩,
 ⟨(some 6), (.p .mov), [.t 15], none⟩])
 (.seq
 (.ops [
 ⟨(some 16), (.p .mov), [.t 0], none⟩,
 ⟨(some 17), (.p (.bin .shr .ifc)), [.t 16, .c (.int .u64 32)], none⟩,
 ⟨(some 7), (.p .mov), [.t 17], none⟩])
 (.seq
 (.ops [
 ⟨(some 18), (.p .mov), [.t 1], none⟩,
 ⟨(some 19), (.p (.bin .and .ifc)), [.t 18, .c (.int .u64 4294967295)], none⟩,
 ⟨(some 8), (.p .mov), [.t 19], none⟩])
 (.seq
 (.ops [
 ⟨(some 20), (.p .mov), [.t 1], none⟩,
 ⟨(some 21), (.p (.bin .shr .ifc)), [.t 20, .c (.int .u64 32)], none⟩,
 ⟨(some 9), (.p .mov), [.t 21], none⟩])
 (.seq
 (.ops [
 ⟨(some 22), (.p .mov), [.t 6], none⟩,
 ⟨(some 23), (.p .mov), [.t 8], none⟩,
 ⟨(some 24), (.p (.bin .mul .ifc)), [.t 22, .t 23], none⟩,
 ⟨(some 10), (.p .mov), [.t 24], none⟩])
 (.seq
 (.ops [
 ⟨(some 25), (.p .mov), [.t 7], none⟩,
 ⟨(some 26), (.p .mov), [.t 8], none⟩,
 ⟨(some 27), (.p (.bin .mul .ifc)), [.t 25, .t 26], none⟩,
 ⟨(some 28), (.p .mov), [.t 10], none⟩,
 ⟨(some 29), (.p (.bin .shr .ifc)), [.t 28, .c (.int .u64 32)], none⟩,
 ⟨(some 30), (.p (.bin .add .ifc)), [.t 27, .t 29], none⟩,
 ⟨(some 11), (.p .mov), [.t 30], none⟩])
 (.seq
 (.ops [
 ⟨(some 31), (.p .mov), [.t 11], none⟩,
 ⟨(some 32), (.p (.bin .and .ifc)), [.t 31, .c (.int .u64 4294967295)], none⟩,
 ⟨(some 12), (.p .mov), [.t 32], none⟩])
 (.seq
 (.ops [
 ⟨(some 33), (.p .mov), [.t 11], none⟩,
 ⟨(some 34), (.p (.bin .shr .ifc)), [.t 33, .c (.int .u64 32)], none⟩,
 ⟨(some 13), (.p .mov), [.t 34], none⟩])
 (.seq
 (.ops [
 ⟨(some 35), (.p .mov), [.t 12], none⟩,
 ⟨(some 36), (.p .mov), [.t 6], none⟩,
 ⟨(some 37), (.p .mov), [.t 9], none⟩,
 ⟨(some 38), (.p (.bin .mul .ifc)), [.t 36, .t 37], none⟩,
 ⟨(some 39), (.p (.bin .add .ifc)), [.t 35, .t 38], none⟩,
 ⟨(some 12), (.p .mov), [.t 39], none⟩])
 (.seq
 (.ops [
 ⟨(some 40), (.p .mov), [.t 7], none⟩,
 ⟨(some 41), (.p .mov), [.t 9], none⟩,
 ⟨(some 42), (.p (.bin .mul .ifc)), [.t 40, .t 41], none⟩,
 ⟨(some 43), (.p .mov), [.t 13], none⟩,
 ⟨(some 44), (.p (.bin .add .ifc)), [.t 42, .t 43], none⟩,
 ⟨(some 45), (.p .mov), [.t 12], none⟩,
 ⟨(some 46), (.p (.bin .shr .ifc)), [.t 45, .c (.int .u64 32)], none⟩,
 ⟨(some 47), (.p (.bin .add .ifc)), [.t 44, .t 46], none⟩,
 ⟨(some 4), (.p .mov), [.t 47], none⟩])
 (.seq
 (.ops [
 ⟨(some 48), (.p .mov), [.t 0], none⟩,
 ⟨(some 49), (.p .mov), [.t 1], none⟩,
 ⟨(some 50), (.p (.bin .mul .ifc)), [.t 48, .t 49], none⟩,
 ⟨(some 5), (.p .mov), [.t 50], none⟩])
 (.ret [4, 5])))))))))))))
def math_bits_Mul64_I : FInfo := ⟨(.fz false), 2, math_bits_Mul64_C, [.tmp 4, .tmp 5]⟩
def math_bits_Mul64_A : Ann := ⟨[], [], [], [], []⟩
abbrev n_math_bits_Mul64 : Nat := 103

/-! ### (*balise/graph.Graph).node -/
def graph_Graph_node_C : CCode :=
 (.seq
 (.ops [
 ⟨(some 3), (.h (.box 3)), [.t 1], none⟩,
 ⟨(some 4), (.p .mov), [.c (.int .i64 0)], none⟩,
 ⟨(some 5), (.p .mov), [.c (.bool false)], none⟩])
 (.seq
 (.ops [
 ⟨(some 9), (.p .mov), [.t 0], none⟩,
 ⟨(some 10), (.p (.faddr 0)), [.t 3], none⟩,
 ⟨(some 11), (.h (.load false 1)), [.t 10], none⟩,
 ⟨(some 12), .call, [.c (.fn (.func 84) [] []), .t 9, .t 11], none⟩,
 ⟨(some 8), (.p .mov), [.t 12], none⟩,
 ⟨(some 13), (.p (.ext 0)), [.t 8], none⟩,
 ⟨(some 14), (.p (.ext 1)), [.t 8], none⟩,
 ⟨(some 6), (.h (.newl 6 [(.int .i64 0), (.int .i64 0), (.int .i64 0)])), [], none⟩,
 ⟨none, (.h (.store 3)), [.t 6, .t 13], none⟩,
 ⟨(some 7), (.p .mov), [.t 14], none⟩])
 (.seq
 (.block 0 (some [])
 (.seq
 (.ops [
 ⟨(some 16), (.p .mov), [.t 7], none⟩,
 ⟨(some 17), (.p .mov), [.t 16], none⟩,
 ⟨(some 18), (.p (.faddr 1)), [.t 3], (some (17, true))⟩,
 ⟨(some 19), (.h (.load false 1)), [.t 18], (some (17, true))⟩,
 ⟨(some 20), (.p (.bin .eql .int)), [.t 19, .c (.int .i64 0)], (some (17, true))⟩,
 ⟨(some 21), (.p .pick), [.t 17, .t 20, .c (.bool false)], none⟩,
 ⟨(some 15), (.p .mov), [.t 21], none⟩])
 (.cond (.t 15)
 (.seq
 (.ops [
 ⟨(some 22), (.p (.faddr 1)), [.t 6], none⟩,
 ⟨(some 23), (.h (.load false 1)), [.t 22], none⟩,
 ⟨(some 4), (.p .mov), [.t 23], none⟩,
 ⟨(some 5), (.p .mov), [.c (.bool true)], none⟩])
 (.ret [4, 5]))
 (.seq
 (.ops [
 ⟨(some 25), (.p .mov), [.t 7], none⟩,
 ⟨(some 26), (.p .mov), [.t 25], none⟩,
 ⟨(some 27), (.p (.faddr 1)), [.t 3], (some (26, true))⟩,
 ⟨(some 28), (.h (.load false 1)), [.t 27], (some (26, true))⟩,
 ⟨(some 29), (.p (.bin .eql .int)), [.t 28, .c (.int .i64 1)], (some (26, true))⟩,
 ⟨(some 30), (.p .pick), [.t 26, .t 29, .c (.bool false)], none⟩,
 ⟨(some 24), (.p .mov), [.t 30], none⟩])
 (.cond (.t 24)
 (.seq
 (.ops [
 ⟨(some 31), (.p (.faddr 2)), [.t 6], none⟩,
 ⟨(some 32), (.h (.load false 1)), [.t 31], none⟩,
 ⟨(some 4), (.p .mov), [.t 32], none⟩,
 ⟨(some 5), (.p .mov), [.c (.bool true)], none⟩])
 (.ret [4, 5]))
 .skip)))))
 (.seq
 (.ops [
 ⟨(some 4), (.p .mov), [.c (.int .i64 0)], none⟩,
 ⟨(some 5), (.p .mov), [.c (.bool false)], none⟩])
 (.ret [4, 5])))))
def graph_Graph_node_I : FInfo := ⟨(.fz false), 2, graph_Graph_node_C, [.tmp 4, .tmp 5]⟩
def graph_Graph_node_A : Ann := ⟨[], [], [], [(0, [])], [3, 6]⟩
abbrev n_graph_Graph_node : Nat := 104

/-! ### (*balise/graph.Graph).Point -/
def graph_Graph_Point_C : CCode :=
 (.seq
 (.ops [
 ⟨(some 3), (.h .boxh), [.t 1], none⟩,
 ⟨(some 4), (.p .mov), [.c (.int .i64 0)], none⟩])
 (.seq
 (.seq
 (.ops [
 ⟨(some 5), (.p .mov), [.t 0], none⟩,
 ⟨(some 6), (.p (.bin .eql .ptr)), [.t 5, .c .nilp], none⟩])
 (.cond (.t 6)
 (.seq
 (.ops [
 ⟨(some 4), (.p .mov), [.c (.int .i64 (-1))], none⟩])
 (.ret [4]))
 .skip))
 (.seq
 (.ops [
 ⟨(some 7), (.p .mov), [.t 0], none⟩,
 ⟨(some 8), (.p .nchk), [.t 7], none⟩,
 ⟨(some 9), (.p (.faddr 0)), [.t 8], none⟩,
 ⟨(some 10), (.p (.faddr 3)), [.t 9], none⟩,
 ⟨(some 11), (.h (.load false 1)), [.t 10], none⟩,
 ⟨(some 12), (.p (.mkfn (.func 121) 0)), [.t 3], none⟩,
 ⟨(some 13), .call, [.c (.fn (.func 120) [] []), .t 11, .t 12], none⟩,
 ⟨(some 4), (.p .mov), [.t 13], none⟩])
 (.ret [4]))))
def graph_Graph_Point_I : FInfo := ⟨(.fz false), 2, graph_Graph_Point_C, [.tmp 4]⟩
def graph_Graph_Point_A : Ann := ⟨[3], [], [], [], []⟩
abbrev n_graph_Graph_Point : Nat := 105

/-! ### slices.DeleteFunc[[]balise/api.End,balise/api.End] -/
def slices_DeleteFunc_End_B0 : CCode :=
 (.seq
 (.seq
 (.ops [
 ⟨(some 16), (.p .mov), [.t 6], none⟩,
 ⟨(some 17), (.p .mov), [.t 0], none⟩,
 ⟨(some 18), (.p .len), [.t 17], none⟩,
 ⟨(some 19), (.p (.bin .lss .ifc)), [.t 16, .t 18], none⟩])
 (.cond (.t 19)
 .skip
 (.exit 0)))
 (.seq
 (.block 1 (some [0, 1, 5, 6])
 (.seq
 (.ops [
 ⟨(some 22), (.p .mov), [.t 0], none⟩,
 ⟨(some 23), (.p .mov), [.t 6], none⟩,
 ⟨(some 24), (.p (.iaddr 2)), [.t 22, .t 23], none⟩,
 ⟨(some 25), (.h (.load true 2)), [.t 24], none⟩,
 ⟨(some 7), (.h (.newl 7 [(.int .i64 0), (.int .i64 0)])), [], none⟩,
 ⟨none, (.h (.store 2)), [.t 7, .t 25], none⟩])
 (.seq
 (.ops [
 ⟨(some 26), (.p .mov), [.t 1], none⟩,
 ⟨(some 27), (.h (.load true 2)), [.t 7], none⟩,
 ⟨(some 28), .call, [.t 26, .t 27], none⟩,
 ⟨(some 29), (.p (.un .not)), [.t 28], none⟩])
 (.cond (.t 29)
 (.seq
 (.ops [
 ⟨(some 30), (.p .mov), [.t 0], none⟩,
 ⟨(some 31), (.p .mov), [.t 5], none⟩,
 ⟨(some 32), (.h (.load true 2)), [.t 7], none⟩,
 ⟨(some 33), (.p (.iaddr 2)), [.t 30, .t 31], none⟩,
 ⟨none, (.h (.store 2)), [.t 33, .t 32], none⟩])
 (.ops [
 ⟨(some 34), (.p .mov), [.t 5], none⟩,
 ⟨(some 35), (.p (.bin .add .ifc)), [.t 34, .c (.int .i64 1)], none⟩,
 ⟨(some 5), (.p .mov), [.t 35], none⟩]))
 .skip))))
 (.ops [
 ⟨(some 20), (.p .mov), [.t 6], none⟩,
 ⟨(some 21), (.p (.bin .add .ifc)), [.t 20, .c (.int .i64 1)], none⟩,
 ⟨(some 6), (.p .mov), [.t 21], none⟩])))
def slices_DeleteFunc_End_L0 : CCode := .bloop 0 [0, 1, 5, 6] [0, 5] slices_DeleteFunc_End_B0
def slices_DeleteFunc_End_C : CCode :=
 (.seq
 (.ops [
 ⟨(some 4), (.p .mov), [.c .nils], none⟩])
 (.seq
 (.ops [
 ⟨(some 8), (.p .mov), [.t 0], none⟩,
 ⟨(some 9), (.p .mov), [.t 1], none⟩,
 ⟨(some 10), .call, [.c (.fn (.func 87) [] []), .t 8, .t 9], none⟩,
 ⟨(some 5), (.p .mov), [.t 10], none⟩])
 (.seq
 (.seq
 (.ops [
 ⟨(some 11), (.p .mov), [.t 5], none⟩,
 ⟨(some 12), (.p (.bin .eql .int)), [.t 11, .c (.int .i64 (-1))], none⟩])
 (.cond (.t 12)
 (.seq
 (.ops [
 ⟨(some 13), (.p .mov), [.t 0], none⟩,
 ⟨(some 4), (.p .mov), [.t 13], none⟩])
 (.ret [4]))
 .skip))
 (.seq
 (.seq
 (.ops [
 ⟨(some 14), (.p .mov), [.t 5], none⟩,
 ⟨(some 15), (.p (.bin .add .ifc)), [.t 14, .c (.int .i64 1)], none⟩,
 ⟨(some 6), (.p .mov), [.t 15], none⟩])
 slices_DeleteFunc_End_L0)
 (.seq
 (.ops [
 ⟨(some 36), (.p .mov), [.t 0], none⟩,
 ⟨(some 37), (.p .mov), [.t 5], none⟩,
 ⟨(some 38), (.p (.slc 2 true false)), [.t 36, .t 37], none⟩,
 ⟨none, (.h (.clear 2 [(.int .i64 0), (.int .i64 0)])), [.t 38], none⟩])
 (.seq
 (.ops [
 ⟨(some 39), (.p .mov), [.t 0], none⟩,
 ⟨(some 40), (.p .mov), [.t 5], none⟩,
 ⟨(some 41), (.p (.slc 2 false true)), [.t 39, .t 40], none⟩,
 ⟨(some 4), (.p .mov), [.t 41], none⟩])
 (.ret [4])))))))
def slices_DeleteFunc_End_I : FInfo := ⟨.ref, 2, slices_DeleteFunc_End_C, [.tmp 4]⟩
def slices_DeleteFunc_End_A : Ann := ⟨[], [], [(0, [0, 1, 5, 6], [0, 5])], [(1, [0, 1, 5, 6])], [7]⟩
abbrev n_slices_DeleteFunc_End : Nat := 110

/-! ### (*balise/graph.Graph).Ends -/
def graph_Graph_Ends_B2 : CCode :=
 (.seq
 (.ops [
 ⟨(some 28), (.p (.bin .lss .ifc)), [.t 27, .c (.int .i64 2)], none⟩])
 (.seq
 (.cond (.t 28)
 .skip
 (.exit 2))
 (.seq
 (.block 3 (some [0, 1, 5, 6, 26, 27])
 (.seq
 (.ops [
 ⟨(some 29), (.p .mov), [.t 27], none⟩,
 ⟨(some 30), (.p (.idxA 2 false 1)), [.t 26, .t 27], none⟩,
 ⟨(some 9), (.p .mov), [.t 29], none⟩,
 ⟨(some 10), (.p .mov), [.t 30], none⟩])
 (.seq
 (.ops [
 ⟨(some 31), (.p .mov), [.t 10], none⟩,
 ⟨(some 32), (.p .mov), [.t 1], none⟩,
 ⟨(some 33), (.p (.bin .eql .int)), [.t 31, .t 32], none⟩])
 (.cond (.t 33)
 (.ops [
 ⟨(some 34), (.p .mov), [.t 5], none⟩,
 ⟨(some 35), (.p .mov), [.t 6], none⟩,
 ⟨(some 36), (.p .mov), [.t 9], none⟩,
 ⟨(some 37), (.p (.bld [(.int .i64 0), (.int .i64 0)] [(0, 1), (1, 1)])), [.t 35, .t 36], none⟩,
 ⟨(some 38), (.h (.bslF 2 1 [(.int .i64 0), (.int .i64 0)] [(0, 2)])), [.t 37], none⟩,
 ⟨(some 39), (.h (.app 2 16 [(.int .i64 0), (.int .i64 0)])), [.t 34, .t 38], none⟩,
 ⟨(some 5), (.p .mov), [.t 39], none⟩])
 .skip))))
 (.ops [
 ⟨(some 40), (.p (.bin .add .ifc)), [.t 27, .c (.int .i64 1)], none⟩,
 ⟨(some 27), (.p .mov), [.t 40], none⟩]))))
def graph_Graph_Ends_L2 : CCode := .bloop 2 [0, 1, 5, 6, 26, 27] [0, 1, 5, 6] graph_Graph_Ends_B2

def graph_Graph_Ends_B0 : CCode :=
 (.seq
 (.block 1 (some [0, 1, 5, 6])
 (.seq
 (.ops [
 ⟨(some 14), (.p .mov), [.t 0], none⟩,
 ⟨(some 15), (.p .mov), [.t 6], none⟩,
 ⟨(some 16), .call, [.c (.fn (.func 84) [] []), .t 14, .t 15], none⟩,
 ⟨(some 13), (.p .mov), [.t 16], none⟩,
 ⟨(some 17), (.p (.ext 0)), [.t 13], none⟩,
 ⟨(some 18), (.p (.ext 1)), [.t 13], none⟩,
 ⟨(some 7), (.h (.newl 7 [(.int .i64 0), (.int .i64 0), (.int .i64 0)])), [], none⟩,
 ⟨none, (.h (.store 3)), [.t 7, .t 17], none⟩,
 ⟨(some 8), (.p .mov), [.t 18], none⟩])
 (.seq
 (.seq
 (.ops [
 ⟨(some 19), (.p .mov), [.t 8], none⟩,
 ⟨(some 20), (.p (.un .not)), [.t 19], none⟩])
 (.cond (.t 20)
 (.seq
 (.ops [
 ⟨(some 21), (.p .mov), [.t 5], none⟩,
 ⟨(some 4), (.p .mov), [.t 21], none⟩])
 (.ret [4]))
 .skip))
 (.seq
 (.ops [
 ⟨(some 22), (.p (.faddr 1)), [.t 7], none⟩,
 ⟨(some 23), (.h (.load false 1)), [.t 22], none⟩,
 ⟨(some 24), (.p (.faddr 2)), [.t 7], none⟩,
 ⟨(some 25), (.h (.load false 1)), [.t 24], none⟩,
 ⟨(some 26), (.p (.bld [(.int .i64 0), (.int .i64 0)] [(0, 1), (1, 1)])), [.t 23, .t 25], none⟩,
 ⟨(some 27), (.p .mov), [.c (.int .i64 0)], none⟩])
 graph_Graph_Ends_L2))))
 (.ops [
 ⟨(some 11), (.p .mov), [.t 6], none⟩,
 ⟨(some 12), (.p (.bin .add .ifc)), [.t 11, .c (.int .i64 1)], none⟩,
 ⟨(some 6), (.p .mov), [.t 12], none⟩]))
def graph_Graph_Ends_L0 : CCode := .bloop 0 [0, 1, 5, 6] [] graph_Graph_Ends_B0
def graph_Graph_Ends_C : CCode :=
 (.seq
 (.ops [
 ⟨(some 4), (.p .mov), [.c .nils], none⟩])
 (.seq
 (.ops [
 ⟨(some 5), (.p .mov), [.c .nils], none⟩])
 (.seq
 (.ops [
 ⟨(some 6), (.p .mov), [.c (.int .i64 0)], none⟩])
 graph_Graph_Ends_L0)))
def graph_Graph_Ends_I : FInfo := ⟨.own, 2, graph_Graph_Ends_C, [.tmp 4]⟩
def graph_Graph_Ends_A : Ann := ⟨[], [], [(0, [0, 1, 5, 6], []), (2, [0, 1, 5, 6, 26, 27], [0, 1, 5, 6])], [(1, [0, 1, 5, 6]), (3, [0, 1, 5, 6, 26, 27])], [7]⟩
abbrev n_graph_Graph_Ends : Nat := 111

/-! ### (*balise/graph.Graph).Around$1 -/
def graph_Graph_Around_1_C : CCode :=
 (.seq
 (.ops [
 ⟨(some 2), (.h (.box 2)), [.t 0], none⟩,
 ⟨(some 3), (.p .mov), [.c (.bool false)], none⟩])
 (.seq
 (.ops [
 ⟨(some 4), (.h (.load true 2)), [.t 2], none⟩,
 ⟨(some 5), (.h (.load true 2)), [.t 1], none⟩,
 ⟨(some 6), (.p (.bin .eql (.parts [(0, false, 1, .int), (1, false, 1, .int)]))), [.t 4, .t 5], none⟩,
 ⟨(some 3), (.p .mov), [.t 6], none⟩])
 (.ret [3])))
def graph_Graph_Around_1_I : FInfo := ⟨(.fz false), 2, graph_Graph_Around_1_C, [.tmp 3]⟩
def graph_Graph_Around_1_A : Ann := ⟨[], [], [], [], [2]⟩
abbrev n_graph_Graph_Around_1 : Nat := 112

/-! ### slices.Concat[[]balise/api.End,balise/api.End] -/
def slices_Concat_End_B0 : CCode :=
 (.seq
 (.ops [
 ⟨(some 12), (.p (.bin .lss .ifc)), [.t 11, .t 10], none⟩])
 (.seq
 (.cond (.t 12)
 .skip
 (.exit 0))
 (.seq
 (.block 1 (some [0, 3, 9, 10, 11])
 (.seq
 (.ops [
 ⟨(some 13), (.p (.iaddr 1)), [.t 9, .t 11], none⟩,
 ⟨(some 14), (.h (.load false 1)), [.t 13], none⟩,
 ⟨(some 5), (.p .mov), [.t 14], none⟩])
 (.seq
 (.ops [
 ⟨(some 15), (.p .mov), [.t 3], none⟩,
 ⟨(some 16), (.p .mov), [.t 5], none⟩,
 ⟨(some 17), (.p .len), [.t 16], none⟩,
 ⟨(some 18), (.p (.bin .add .ifc)), [.t 15, .t 17], none⟩,
 ⟨(some 3), (.p .mov), [.t 18], none⟩])
 (.seq
 (.ops [
 ⟨(some 19), (.p .mov), [.t 3], none⟩,
 ⟨(some 20), (.p (.bin .lss .ifc)), [.t 19, .c (.int .i64 0)], none⟩])
 (.cond (.t 20)
 bad
 .skip)))))
 (.ops [
 ⟨(some 22), (.p (.bin .add .ifc)), [.t 11, .c (.int .i64 1)], none⟩,
 ⟨(some 11), (.p .mov), [.t 22], none⟩]))))
def slices_Concat_End_L0 : CCode := .bloop 0 [0, 3, 9, 10, 11] [0, 3] slices_Concat_End_B0

def slices_Concat_End_B2 : CCode :=
 (.seq
 (.ops [
 ⟨(some 28), (.p (.bin .lss .ifc)), [.t 27, .t 26], none⟩])
 (.seq
 (.cond (.t 28)
 .skip
 (.exit 2))
 (.seq
 (.block 3 (some [6, 25, 26, 27])
 (.seq
 (.ops [
 ⟨(some 29), (.p (.iaddr 1)), [.t 25, .t 27], none⟩,
 ⟨(some 30), (.h (.load false 1)), [.t 29], none⟩,
 ⟨(some 8), (.p .mov), [.t 30], none⟩])
 (.ops [
 ⟨(some 31), (.p .mov), [.t 6], none⟩,
 ⟨(some 32), (.p .mov), [.t 8], none⟩,
 ⟨(some 33), (.h (.app 2 16 [(.int .i64 0), (.int .i64 0)])), [.t 31, .t 32], none⟩,
 ⟨(some 6), (.p .mov), [.t 33], none⟩])))
 (.ops [
 ⟨(some 34), (.p (.bin .add .ifc)), [.t 27, .c (.int .i64 1)], none⟩,
 ⟨(some 27), (.p .mov), [.t 34], none⟩]))))
def slices_Concat_End_L2 : CCode := .bloop 2 [6, 25, 26, 27] [6] slices_Concat_End_B2
def slices_Concat_End_C : CCode :=
 (.seq
 (.ops [
 ⟨(some 2), (.p .mov), [.c .nils], none⟩])
 (.seq
 (.ops [
 ⟨(some 3), (.p .mov), [.c (.int .i64 0)], none⟩])
 (.seq
 (.seq
 (.ops [
 ⟨(some 9), (.p .mov), [.t 0], none⟩,
 ⟨(some 10), (.p .len), [.t 9], none⟩,
 ⟨(some 11), (.p .mov), [.c (.int .i64 0)], none⟩])
 slices_Concat_End_L0)
 (.seq
 (.ops [
 ⟨(some 23), (.p .mov), [.t 3], none⟩,
 ⟨(some 24), .call, [.c (.fn (.func 123) [] []), .c .nils, .t 23], none⟩,
 ⟨(some 6), (.p .mov), [.t 24], none⟩])
 (.seq
 (.seq
 (.ops [
 ⟨(some 25), (.p .mov), [.t 0], none⟩,
 ⟨(some 26), (.p .len), [.t 25], none⟩,
 ⟨(some 27), (.p .mov), [.c (.int .i64 0)], none⟩])
 slices_Concat_End_L2)
 (.seq
 (.ops [
 ⟨(some 35), (.p .mov), [.t 6], none⟩,
 ⟨(some 2), (.p .mov), [.t 35], none⟩])
 (.ret [2])))))))
def slices_Concat_End_I : FInfo := ⟨(.fz false), 1, slices_Concat_End_C, [.tmp 2]⟩
def slices_Concat_End_A : Ann := ⟨[], [], [(0, [0, 3, 9, 10, 11], [0, 3]), (2, [6, 25, 26, 27], [6])], [(1, [0, 3, 9, 10, 11]), (3, [6, 25, 26, 27])], []⟩
abbrev n_slices_Concat_End : Nat := 113

/-! ### (*balise/graph.Graph).at -/
def graph_Graph_at_B0 : CCode :=
 (.seq
 (.ops [
 ⟨(some 14), (.p (.bin .lss .ifc)), [.t 13, .t 12], none⟩])
 (.seq
 (.cond (.t 14)
 .skip
 (.exit 0))
 (.seq
 (.block 1 (some [1, 11, 12, 13])
 (.seq
 (.ops [
 ⟨(some 15), (.p (.iaddr 2)), [.t 11, .t 13], none⟩,
 ⟨(some 16), (.h (.load true 2)), [.t 15], none⟩,
 ⟨(some 8), (.h (.newl 8 [(.int .i64 0), (.int .i64 0)])), [], none⟩,
 ⟨none, (.h (.store 2)), [.t 8, .t 16], none⟩])
 (.seq
 (.ops [
 ⟨(some 17), (.p (.faddr 0)), [.t 8], none⟩,
 ⟨(some 18), (.h (.load false 1)), [.t 17], none⟩,
 ⟨(some 19), (.p .mov), [.t 1], none⟩,
 ⟨(some 20), (.p (.bin .eql .int)), [.t 18, .t 19], none⟩])
 (.cond (.t 20)
 (.seq
 (.ops [
 ⟨(some 21), (.h (.load true 2)), [.t 8], none⟩,
 ⟨(some 22), (.h (.bslF 2 1 [(.int .i64 0), (.int .i64 0)] [(0, 2)])), [.t 21], none⟩,
 ⟨(some 6), (.p .mov), [.t 22], none⟩])
 (.ret [6]))
 .skip))))
 (.ops [
 ⟨(some 23), (.p (.bin .add .ifc)), [.t 13, .c (.int .i64 1)], none⟩,
 ⟨(some 13), (.p .mov), [.t 23], none⟩]))))
def graph_Graph_at_L0 : CCode := .bloop 0 [1, 11, 12, 13] [] graph_Graph_at_B0
def graph_Graph_at_C : CCode :=
 (.seq
 (.ops [
 ⟨(some 6), (.p .mov), [.c .nils], none⟩])
 (.seq
 (.seq
 (.ops [
 ⟨(some 9), (.p .mov), [.t 0], none⟩,
 ⟨(some 10), (.p .mov), [.t 2], none⟩,
 ⟨(some 11), .call, [.c (.fn (.func 111) [] []), .t 9, .t 10], none⟩,
 ⟨(some 12), (.p .len), [.t 11], none⟩,
 ⟨(some 13), (.p .mov), [.c (.int .i64 0)], none⟩])
 graph_Graph_at_L0)
 (.seq
 (.ops [
 ⟨(some 6), (.p .mov), [.c .nils], none⟩])
 (.ret [6]))))
def graph_Graph_at_I : FInfo := ⟨(.fz false), 3, graph_Graph_at_C, [.tmp 6]⟩
def graph_Graph_at_A : Ann := ⟨[], [], [(0, [1, 11, 12, 13], [])], [(1, [1, 11, 12, 13])], [8]⟩
abbrev n_graph_Graph_at : Nat := 114

/-! ### slices.pdqsortOrdered[int] -/
def slices_pdqsortOrdered_int_B0 : CCode :=
 (.block 1 (some [0, 1, 2, 3, 8, 9])
 (.seq
 (.ops [
 ⟨(some 19), (.p .mov), [.t 2], none⟩,
 ⟨(some 20), (.p .mov), [.t 1], none⟩,
 ⟨(some 21), (.p (.bin .sub .ifc)), [.t 19, .t 20], none⟩,
 ⟨(some 10), (.p .mov), [.t 21], none⟩])
 (.seq
 (.seq
 (.ops [
 ⟨(some 22), (.p .mov), [.t 10], none⟩,
 ⟨(some 23), (.p (.bin .leq .ifc)), [.t 22, .c (.int .i64 12)], none⟩])
 (.cond (.t 23)
 (.seq
 (.ops [
 ⟨(some 24), (.p .mov), [.t 0], none⟩,
 ⟨(some 25), (.p .mov), [.t 1], none⟩,
 ⟨(some 26), (.p .mov), [.t 2], none⟩,
 ⟨(some 27), .call, [.c (.fn (.func 124) [] []), .t 24, .t 25, .t 26], none⟩])
 (.ret []))
 .skip))
 (.seq
 (.seq
 (.ops [
 ⟨(some 28), (.p .mov), [.t 3], none⟩,
 ⟨(some 29), (.p (.bin .eql .int)), [.t 28, .c (.int .i64 0)], none⟩])
 (.cond (.t 29)
 (.seq
 (.ops [
 ⟨(some 30), (.p .mov), [.t 0], none⟩,
 ⟨(some 31), (.p .mov), [.t 1], none⟩,
 ⟨(some 32), (.p .mov), [.t 2], none⟩,
 ⟨(some 33), .call, [.c (.fn (.func 125) [] []), .t 30, .t 31, .t 32], none⟩])
 (.ret []))
 .skip))
 (.seq
 (.seq
 (.ops [
 ⟨(some 34), (.p .mov), [.t 8], none⟩,
 ⟨(some 35), (.p (.un .not)), [.t 34], none⟩])
 (.cond (.t 35)
 (.seq
 (.ops [
 ⟨(some 36), (.p .mov), [.t 0], none⟩,
 ⟨(some 37), (.p .mov), [.t 1], none⟩,
 ⟨(some 38), (.p .mov), [.t 2], none⟩,
 ⟨(some 39), .call, [.c (.fn (.func 126) [] []), .t 36, .t 37, .t 38], none⟩])
 (.ops [
 ⟨(some 40), (.p .mov), [.t 3], none⟩,
 ⟨(some 41), (.p (.bin .sub .ifc)), [.t 40, .c (.int .i64 1)], none⟩,
 ⟨(some 3), (.p .mov), [.t 41], none⟩]))
 .skip))
 (.seq
 (.ops [
 ⟨(some 43), (.p .mov), [.t 0], none⟩,
 ⟨(some 44), (.p .mov), [.t 1], none⟩,
 ⟨(some 45), (.p .mov), [.t 2], none⟩,
 ⟨(some 46), .call, [.c (.fn (.func 127) [] []), .t 43, .t 44, .t 45], none⟩,
 ⟨(some 42), (.p .mov), [.t 46], none⟩,
 ⟨(some 47), (.p (.ext 0)), [.t 42], none⟩,
 ⟨(some 48), (.p (.ext 1)), [.t 42], none⟩,
 ⟨(some 11), (.p .mov), [.t 47], none⟩,
 ⟨(some 12), (.p .mov), [.t 48], none⟩])
 (.seq
 (.seq
 (.ops [
 ⟨(some 49), (.p .mov), [.t 12], none⟩,
 ⟨(some 50), (.p (.bin .eql .int)), [.t 49, .c (.int .i64 2)], none⟩])
 (.cond (.t 50)
 (.seq
 (.ops [
 ⟨(some 51), (.p .mov), [.t 0], none⟩,
 ⟨(some 52), (.p .mov), [.t 1], none⟩,
 ⟨(some 53), (.p .mov), [.t 2], none⟩,
 ⟨(some 54), .call, [.c (.fn (.func 128) [] []), .t 51, .t 52, .t 53], none⟩])
 (.seq
 (.ops [
 ⟨(some 55), (.p .mov), [.t 2], none⟩,
 ⟨(some 56), (.p (.bin .sub .ifc)), [.t 55, .c (.int .i64 1)], none⟩,
 ⟨(some 57), (.p .mov), [.t 11], none⟩,
 ⟨(some 58), (.p .mov), [.t 1], none⟩,
 ⟨(some 59), (.p (.bin .sub .ifc)), [.t 57, .t 58], none⟩,
 ⟨(some 60), (.p (.bin .sub .ifc)), [.t 56, .t 59], none⟩,
 ⟨(some 11), (.p .mov), [.t 60], none⟩])
 (.ops [
 ⟨(some 12), (.p .mov), [.c (.int .i64 1)], none⟩])))
 .skip))
 (.seq
 (.seq
 (.ops [
 ⟨(some 61), (.p .mov), [.t 8], none⟩,
 ⟨(some 62), (.p .mov), [.t 61], none⟩,
 ⟨(some 63), (.p .mov), [.t 9], (some (62, true))⟩,
 ⟨(some 64), (.p .pick), [.t 62, .t 63, .c (.bool false)], none⟩,
 ⟨(some 65), (.p .mov), [.t 64], none⟩,
 ⟨(some 66), (.p .mov), [.t 12], (some (65, true))⟩,
 ⟨(some 67), (.p (.bin .eql .int)), [.t 66, .c (.int .i64 1)], (some (65, true))⟩,
 ⟨(some 68), (.p .pick), [.t 65, .t 67, .c (.bool false)], none⟩])
 (.cond (.t 68)
 (.seq
 (.ops [
 ⟨(some 69), (.p .mov), [.t 0], none⟩,
 ⟨(some 70), (.p .mov), [.t 1], none⟩,
 ⟨(some 71), (.p .mov), [.t 2], none⟩,
 ⟨(some 72), .call, [.c (.fn (.func 129) [] []), .t 69, .t 70, .t 71], none⟩])
 (.cond (.t 72)
 (.ret [])
 .skip))
 .skip))
 (.seq
 (.seq
 (.ops [
 ⟨(some 73), (.p .mov), [.t 1], none⟩,
 ⟨(some 74), (.p (.bin .gtr .ifc)), [.t 73, .c (.int .i64 0)], none⟩,
 ⟨(some 75), (.p .mov), [.t 74], none⟩,
 ⟨(some 76), (.p .mov), [.t 0], (some (75, true))⟩,
 ⟨(some 77), (.p .mov), [.t 1], (some (75, true))⟩,
 ⟨(some 78), (.p (.bin .sub .ifc)), [.t 77, .c (.int .i64 1)], (some (75, true))⟩,
 ⟨(some 79), (.p (.iaddr 1)), [.t 76, .t 78], (some (75, true))⟩,
 ⟨(some 80), (.h (.load false 1)), [.t 79], (some (75, true))⟩,
 ⟨(some 81), (.p .mov), [.t 0], (some (75, true))⟩,
 ⟨(some 82), (.p .mov), [.t 11], (some (75, true))⟩,
 ⟨(some 83), (.p (.iaddr 1)), [.t 81, .t 82], (some (75, true))⟩,
 ⟨(some 84), (.h (.load false 1)), [.t 83], (some (75, true))⟩,
 ⟨(some 85), .call, [.c (.fn (.func 130) [] []), .t 80, .t 84], (some (75, true))⟩,
 ⟨(some 86), (.p (.un .not)), [.t 85], (some (75, true))⟩,
 ⟨(some 87), (.p .pick), [.t 75, .t 86, .c (.bool false)], none⟩])
 (.cond (.t 87)
 (.seq
 (.ops [
 ⟨(some 88), (.p .mov), [.t 0], none⟩,
 ⟨(some 89), (.p .mov), [.t 1], none⟩,
 ⟨(some 90), (.p .mov), [.t 2], none⟩,
 ⟨(some 91), (.p .mov), [.t 11], none⟩,
 ⟨(some 92), .call, [.c (.fn (.func 131) [] []), .t 88, .t 89, .t 90, .t 91], none⟩,
 ⟨(some 13), (.p .mov), [.t 92], none⟩])
 (.seq
 (.ops [
 ⟨(some 93), (.p .mov), [.t 13], none⟩,
 ⟨(some 1), (.p .mov), [.t 93], none⟩])
 (.exit 1)))
 .skip))
 (.seq
 (.ops [
 ⟨(some 95), (.p .mov), [.t 0], none⟩,
 ⟨(some 96), (.p .mov), [.t 1], none⟩,
 ⟨(some 97), (.p .mov), [.t 2], none⟩,
 ⟨(some 98), (.p .mov), [.t 11], none⟩,
 ⟨(some 99), .call, [.c (.fn (.func 132) [] []), .t 95, .t 96, .t 97, .t 98], none⟩,
 ⟨(some 94), (.p .mov), [.t 99], none⟩,
 ⟨(some 100), (.p (.ext 0)), [.t 94], none⟩,
 ⟨(some 101), (.p (.ext 1)), [.t 94], none⟩,
 ⟨(some 14), (.p .mov), [.t 100], none⟩,
 ⟨(some 15), (.p .mov), [.t 101], none⟩])
 (.seq
 (.ops [
 ⟨(some 102), (.p .mov), [.t 15], none⟩,
 ⟨(some 9), (.p .mov), [.t 102], none⟩])
 (.seq
 (.ops [
 ⟨(some 103), (.p .mov), [.t 14], none⟩,
 ⟨(some 104), (.p .mov), [.t 1], none⟩,
 ⟨(some 105), (.p (.bin .sub .ifc)), [.t 103, .t 104], none⟩,
 ⟨(some 106), (.p .mov), [.t 2], none⟩,
 ⟨(some 107), (.p .mov), [.t 14], none⟩,
 ⟨(some 108), (.p (.bin .sub .ifc)), [.t 106, .t 107], none⟩,
 ⟨(some 16), (.p .mov), [.t 105], none⟩,
 ⟨(some 17), (.p .mov), [.t 108], none⟩])
 (.seq
 (.ops [
 ⟨(some 109), (.p .mov), [.t 10], none⟩,
 ⟨(some 110), (.p (.bin .quo .ifc)), [.t 109, .c (.int .i64 8)], none⟩,
 ⟨(some 18), (.p .mov), [.t 110], none⟩])
 (.seq
 (.ops [
 ⟨(some 111), (.p .mov), [.t 16], none⟩,
 ⟨(some 112), (.p .mov), [.t 17], none⟩,
 ⟨(some 113), (.p (.bin .lss .ifc)), [.t 111, .t 112], none⟩])
 (.cond (.t 113)
 (.seq
 (.ops [
 ⟨(some 114), (.p .mov), [.t 16], none⟩,
 ⟨(some 115), (.p .mov), [.t 18], none⟩,
 ⟨(some 116), (.p (.bin .geq .ifc)), [.t 114, .t 115], none⟩,
 ⟨(some 8), (.p .mov), [.t 116], none⟩])
 (.seq
 (.ops [
 ⟨(some 117), (.p .mov), [.t 0], none⟩,
 ⟨(some 118), (.p .mov), [.t 1], none⟩,
 ⟨(some 119), (.p .mov), [.t 14], none⟩,
 ⟨(some 120), (.p .mov), [.t 3], none⟩,
 ⟨(some 121), .call, [.c (.fn (.func 116) [] []), .t 117, .t 118, .t 119, .t 120], none⟩])
 (.ops [
 ⟨(some 122), (.p .mov), [.t 14], none⟩,
 ⟨(some 123), (.p (.bin .add .ifc)), [.t 122, .c (.int .i64 1)], none⟩,
 ⟨(some 1), (.p .mov), [.t 123], none⟩])))
 (.seq
 (.ops [
 ⟨(some 124), (.p .mov), [.t 17], none⟩,
 ⟨(some 125), (.p .mov), [.t 18], none⟩,
 ⟨(some 126), (.p (.bin .geq .ifc)), [.t 124, .t 125], none⟩,
 ⟨(some 8), (.p .mov), [.t 126], none⟩])
 (.seq
 (.ops [
 ⟨(some 127), (.p .mov), [.t 0], none⟩,
 ⟨(some 128), (.p .mov), [.t 14], none⟩,
 ⟨(some 129), (.p (.bin .add .ifc)), [.t 128, .c (.int .i64 1)], none⟩,
 ⟨(some 130), (.p .mov), [.t 2], none⟩,
 ⟨(some 131), (.p .mov), [.t 3], none⟩,
 ⟨(some 132), .call, [.c (.fn (.func 116) [] []), .t 127, .t 129, .t 130, .t 131], none⟩])
 (.ops [
 ⟨(some 133), (.p .mov), [.t 14], none⟩,
 ⟨(some 2), (.p .mov), [.t 133], none⟩]))))))))))))))))))
def slices_pdqsortOrdered_int_L0 : CCode := .bloop 0 [0, 1, 2, 3, 8, 9] [] slices_pdqsortOrdered_int_B0
def slices_pdqsortOrdered_int_C : CCode :=
 (.seq
 (.ops [
 ⟨(some 8), (.p .mov), [.c (.bool true)], none⟩])
 (.seq
 (.ops [
 ⟨(some 9), (.p .mov), [.c (.bool true)], none⟩])
 slices_pdqsortOrdered_int_L0))
def slices_pdqsortOrdered_int_I : FInfo := ⟨.ref, 4, slices_pdqsortOrdered_int_C, []⟩
def slices_pdqsortOrdered_int_A : Ann := ⟨[], [], [(0, [0, 1, 2, 3, 8, 9], [])], [(1, [0, 1, 2, 3, 8, 9])], []⟩
abbrev n_slices_pdqsortOrdered_int : Nat := 116

/-! ### math/bits.Len -/
def math_bits_Len_C : CCode :=
 (.seq
 (.ops [
 ⟨(some 2), (.p .mov), [.c (.int .i64 0)], none⟩])
 (.seq
 (.cond (.c (.bool false))
 (.seq
 (.ops [
 ⟨(some 3), (.p .mov), [.t 0], none⟩,
 ⟨(some 4), (.p (.toInt .u32)), [.t 3], none⟩,
 ⟨(some 5), .call, [.c (.fn (.func 133) [] []), .t 4], none⟩,
 ⟨(some 2), (.p .mov), [.t 5], none⟩])
 (.ret [2]))
 .skip)
 (.seq
 (.ops [
 ⟨(some 6), (.p .mov), [.t 0], none⟩,
 ⟨(some 7), .call, [.c (.fn (.func 134) [] []), .t 6], none⟩,
 ⟨(some 2), (.p .mov), [.t 7], none⟩])
 (.ret [2]))))
def math_bits_Len_I : FInfo := ⟨(.fz false), 1, math_bits_Len_C, [.tmp 2]⟩
def math_bits_Len_A : Ann := ⟨[], [], [], [], []⟩
abbrev n_math_bits_Len : Nat := 117

/-! ### slices.IndexFunc[[][]int,[]int] -/
def slices_IndexFunc_int_B0 : CCode :=
 (.seq
 (.ops [
 ⟨(some 9), (.p (.bin .lss .ifc)), [.t 8, .t 7], none⟩])
 (.seq
 (.cond (.t 9)
 .skip
 (.exit 0))
 (.seq
 (.block 1 (some [0, 1, 7, 8])
 (.seq
 (.ops [
 ⟨(some 10), (.p .mov), [.t 8], none⟩,
 ⟨(some 5), (.p .mov), [.t 10], none⟩])
 (.seq
 (.ops [
 ⟨(some 11), (.p .mov), [.t 1], none⟩,
 ⟨(some 12), (.p .mov), [.t 0], none⟩,
 ⟨(some 13), (.p .mov), [.t 5], none⟩,
 ⟨(some 14), (.p (.iaddr 1)), [.t 12, .t 13], none⟩,
 ⟨(some 15), (.h (.load false 1)), [.t 14], none⟩,
 ⟨(some 16), .call, [.t 11, .t 15], none⟩])
 (.cond (.t 16)
 (.seq
 (.ops [
 ⟨(some 17), (.p .mov), [.t 5], none⟩,
 ⟨(some 4), (.p .mov), [.t 17], none⟩])
 (.ret [4]))
 .skip))))
 (.ops [
 ⟨(some 18), (.p (.bin .add .ifc)), [.t 8, .c (.int .i64 1)], none⟩,
 ⟨(some 8), (.p .mov), [.t 18], none⟩]))))
def slices_IndexFunc_int_L0 : CCode := .bloop 0 [0, 1, 7, 8] [] slices_IndexFunc_int_B0
def slices_IndexFunc_int_C : CCode :=
 (.seq
 (.ops [
 ⟨(some 4), (.p .mov), [.c (.int .i64 0)], none⟩])
 (.seq
 (.seq
 (.ops [
 ⟨(some 6), (.p .mov), [.t 0], none⟩,
 ⟨(some 7), (.p .len), [.t 6], none⟩,
 ⟨(some 8), (.p .mov), [.c (.int .i64 0)], none⟩])
 slices_IndexFunc_int_L0)
 (.seq
 (.ops [
 ⟨(some 4), (.p .mov), [.c (.int .i64 (-1))], none⟩])
 (.ret [4]))))
def slices_IndexFunc_int_I : FInfo := ⟨(.fz false), 2, slices_IndexFunc_int_C, [.tmp 4]⟩
def slices_IndexFunc_int_A : Ann := ⟨[], [], [(0, [0, 1, 7, 8], [])], [(1, [0, 1, 7, 8])], []⟩
abbrev n_slices_IndexFunc_int : Nat := 118

/-! ### (*balise/graph.Graph).Part$1 -/
def graph_Graph_Part_1_C : CCode :=
 (.seq
 (.ops [
 ⟨(some 3), (.p .mov), [.c (.bool false)], none⟩])
 (.seq
 (.ops [
 ⟨(some 4), (.p .mov), [.t 0], none⟩,
 ⟨(some 5), (.h (.load false 1)), [.t 1], none⟩,
 ⟨(some 6), .call, [.c (.fn (.func 73) [] []), .t 4, .t 5], none⟩,
 ⟨(some 3), (.p .mov), [.t 6], none⟩])
 (.ret [3])))
def graph_Graph_Part_1_I : FInfo := ⟨(.fz false), 2, graph_Graph_Part_1_C, [.tmp 3]⟩
def graph_Graph_Part_1_A : Ann := ⟨[], [], [], [], []⟩
abbrev n_graph_Graph_Part_1 : Nat := 119

/-! ### slices.IndexFunc[[]balise/api.Point,balise/api.Point] -/
def slices_IndexFunc_Point_B0 : CCode :=
 (.seq
 (.ops [
 ⟨(some 9), (.p (.bin .lss .ifc)), [.t 8, .t 7], none⟩])
 (.seq
 (.cond (.t 9)
 .skip
 (.exit 0))
 (.seq
 (.block 1 (some [0, 1, 7, 8])
 (.seq
 (.ops [
 ⟨(some 10), (.p .mov), [.t 8], none⟩,
 ⟨(some 5), (.p .mov), [.t 10], none⟩])
 (.seq
 (.ops [
 ⟨(some 11), (.p .mov), [.t 1], none⟩,
 ⟨(some 12), (.p .mov), [.t 0], none⟩,
 ⟨(some 13), (.p .mov), [.t 5], none⟩,
 ⟨(some 14), (.p (.iaddr 4)), [.t 12, .t 13], none⟩,
 ⟨(some 15), (.h (.load true 4)), [.t 14], none⟩,
 ⟨(some 16), .call, [.t 11, .t 15], none⟩])
 (.cond (.t 16)
 (.seq
 (.ops [
 ⟨(some 17), (.p .mov), [.t 5], none⟩,
 ⟨(some 4), (.p .mov), [.t 17], none⟩])
 (.ret [4]))
 .skip))))
 (.ops [
 ⟨(some 18), (.p (.bin .add .ifc)), [.t 8, .c (.int .i64 1)], none⟩,
 ⟨(some 8), (.p .mov), [.t 18], none⟩]))))
def slices_IndexFunc_Point_L0 : CCode := .bloop 0 [0, 1, 7, 8] [] slices_IndexFunc_Point_B0
def slices_IndexFunc_Point_C : CCode :=
 (.seq
 (.ops [
 ⟨(some 4), (.p .mov), [.c (.int .i64 0)], none⟩])
 (.seq
 (.seq
 (.ops [
 ⟨(some 6), (.p .mov), [.t 0], none⟩,
 ⟨(some 7), (.p .len), [.t 6], none⟩,
 ⟨(some 8), (.p .mov), [.c (.int .i64 0)], none⟩])
 slices_IndexFunc_Point_L0)
 (.seq
 (.ops [
 ⟨(some 4), (.p .mov), [.c (.int .i64 (-1))], none⟩])
 (.ret [4]))))
def slices_IndexFunc_Point_I : FInfo := ⟨(.fz false), 2, slices_IndexFunc_Point_C, [.tmp 4]⟩
def slices_IndexFunc_Point_A : Ann := ⟨[], [], [(0, [0, 1, 7, 8], [])], [(1, [0, 1, 7, 8])], []⟩
abbrev n_slices_IndexFunc_Point : Nat := 120

/-! ### (*balise/graph.Graph).Point$1 -/
def graph_Graph_Point_1_C : CCode :=
 (.seq
 (.ops [
 ⟨(some 2), (.h (.box 2)), [.t 0], none⟩,
 ⟨(some 3), (.p .mov), [.c (.bool false)], none⟩])
 (.seq
 (.ops [
 ⟨(some 4), (.p (.faddr 0)), [.t 2], none⟩,
 ⟨(some 5), (.h (.load false 1)), [.t 4], none⟩,
 ⟨(some 6), (.h (.load false 1)), [.t 1], none⟩,
 ⟨(some 7), (.p (.bin .eql .int)), [.t 5, .t 6], none⟩,
 ⟨(some 3), (.p .mov), [.t 7], none⟩])
 (.ret [3])))
def graph_Graph_Point_1_I : FInfo := ⟨(.fz false), 2, graph_Graph_Point_1_C, [.tmp 3]⟩
def graph_Graph_Point_1_A : Ann := ⟨[], [], [], [], [2]⟩
abbrev n_graph_Graph_Point_1 : Nat := 121

/-! ### slices.Grow[[]balise/api.End,balise/api.End] -/
def slices_Grow_End_C : CCode :=
 (.seq
 (.ops [
 ⟨(some 4), (.p .mov), [.c .nils], none⟩])
 (.seq
 (.seq
 (.ops [
 ⟨(some 5), (.p .mov), [.t 1], none⟩,
 ⟨(some 6), (.p (.bin .lss .ifc)), [.t 5, .c (.int .i64 0)], none⟩])
 (.cond (.t 6)
 bad
 .skip))
 (.seq
 (.seq
 (.ops [
 ⟨(some 8), (.p .mov), [.t 1], none⟩,
 ⟨(some 9), (.p .mov), [.t 0], none⟩,
 ⟨(some 10), (.p .cap), [.t 9], none⟩,
 ⟨(some 11), (.p .mov), [.t 0], none⟩,
 ⟨(some 12), (.p .len), [.t 11], none⟩,
 ⟨(some 13), (.p (.bin .sub .ifc)), [.t 10, .t 12], none⟩,
 ⟨(some 14), (.p (.bin .sub .ifc)), [.t 8, .t 13], none⟩,
 ⟨(some 1), (.p .mov), [.t 14], none⟩])
 (.seq
 (.ops [
 ⟨(some 15), (.p .mov), [.t 1], none⟩,
 ⟨(some 16), (.p (.bin .gtr .ifc)), [.t 15, .c (.int .i64 0)], none⟩])
 (.cond (.t 16)
 (.ops [
 ⟨(some 17), (.p .mov), [.t 0], none⟩,
 ⟨(some 18), (.p .mov), [.t 0], none⟩,
 ⟨(some 19), (.p .cap), [.t 18], none⟩,
 ⟨(some 20), (.p (.slc 2 false true)), [.t 17, .t 19], none⟩,
 ⟨(some 21), (.p .mov), [.t 1], none⟩,
 ⟨(some 22), (.h (.appz 2 16 [(.int .i64 0), (.int .i64 0)])), [.t 20, .t 21], none⟩,
 ⟨(some 23), (.p .mov), [.t 0], none⟩,
 ⟨(some 24), (.p .len), [.t 23], none⟩,
 ⟨(some 25), (.p (.slc 2 false true)), [.t 22, .t 24], none⟩,
 ⟨(some 0), (.p .mov), [.t 25], none⟩])
 .skip)))
 (.seq
 (.ops [
 ⟨(some 26), (.p .mov), [.t 0], none⟩,
 ⟨(some 4), (.p .mov), [.t 26], none⟩])
 (.ret [4])))))
def slices_Grow_End_I : FInfo := ⟨.ref, 2, slices_Grow_End_C, [.tmp 4]⟩
def slices_Grow_End_A : Ann := ⟨[], [], [], [], []⟩
abbrev n_slices_Grow_End : Nat := 123

/-! ### slices.insertionSortOrdered[int] -/
def slices_insertionSortOrdered_int_B2 : CCode :=
 (.seq
 (.seq
 (.ops [
 ⟨(some 16), (.p .mov), [.t 7], none⟩,
 ⟨(some 17), (.p .mov), [.t 1], none⟩,
 ⟨(some 18), (.p (.bin .gtr .ifc)), [.t 16, .t 17], none⟩,
 ⟨(some 19), (.p .mov), [.t 18], none⟩,
 ⟨(some 20), (.p .mov), [.t 0], (some (19, true))⟩,
 ⟨(some 21), (.p .mov), [.t 7], (some (19, true))⟩,
 ⟨(some 22), (.p (.iaddr 1)), [.t 20, .t 21], (some (19, true))⟩,
 ⟨(some 23), (.h (.load false 1)), [.t 22], (some (19, true))⟩,
 ⟨(some 24), (.p .mov), [.t 0], (some (19, true))⟩,
 ⟨(some 25), (.p .mov), [.t 7], (some (19, true))⟩,
 ⟨(some 26), (.p (.bin .sub .ifc)), [.t 25, .c (.int .i64 1)], (some (19, true))⟩,
 ⟨(some 27), (.p (.iaddr 1)), [.t 24, .t 26], (some (19, true))⟩,
 ⟨(some 28), (.h (.load false 1)), [.t 27], (some (19, true))⟩,
 ⟨(some 29), .call, [.c (.fn (.func 130) [] []), .t 23, .t 28], (some (19, true))⟩,
 ⟨(some 30), (.p .pick), [.t 19, .t 29, .c (.bool false)], none⟩])
 (.cond (.t 30)
 .skip
 (.exit 2)))
 (.seq
 (.block 3 (some [0, 1, 2, 6, 7])
 (.ops [
 ⟨(some 33), (.p .mov), [.t 0], none⟩,
 ⟨(some 34), (.p .mov), [.t 7], none⟩,
 ⟨(some 35), (.p .mov), [.t 0], none⟩,
 ⟨(some 36), (.p .mov), [.t 7], none⟩,
 ⟨(some 37), (.p (.bin .sub .ifc)), [.t 36, .c (.int .i64 1)], none⟩,
 ⟨(some 38), (.p .mov), [.t 0], none⟩,
 ⟨(some 39), (.p .mov), [.t 7], none⟩,
 ⟨(some 40), (.p (.bin .sub .ifc)), [.t 39, .c (.int .i64 1)], none⟩,
 ⟨(some 41), (.p (.iaddr 1)), [.t 38, .t 40], none⟩,
 ⟨(some 42), (.h (.load false 1)), [.t 41], none⟩,
 ⟨(some 43), (.p .mov), [.t 0], none⟩,
 ⟨(some 44), (.p .mov), [.t 7], none⟩,
 ⟨(some 45), (.p (.iaddr 1)), [.t 43, .t 44], none⟩,
 ⟨(some 46), (.h (.load false 1)), [.t 45], none⟩,
 ⟨(some 47), (.p (.iaddr 1)), [.t 33, .t 34], none⟩,
 ⟨none, (.h (.store 1)), [.t 47, .t 42], none⟩,
 ⟨(some 48), (.p (.iaddr 1)), [.t 35, .t 37], none⟩,
 ⟨none, (.h (.store 1)), [.t 48, .t 46], none⟩]))
 (.ops [
 ⟨(some 31), (.p .mov), [.t 7], none⟩,
 ⟨(some 32), (.p (.bin .sub .ifc)), [.t 31, .c (.int .i64 1)], none⟩,
 ⟨(some 7), (.p .mov), [.t 32], none⟩])))
def slices_insertionSortOrdered_int_L2 : CCode := .bloop 2 [0, 1, 2, 6, 7] [0, 1, 2, 6] slices_insertionSortOrdered_int_B2

def slices_insertionSortOrdered_int_B0 : CCode :=
 (.seq
 (.seq
 (.ops [
 ⟨(some 10), (.p .mov), [.t 6], none⟩,
 ⟨(some 11), (.p .mov), [.t 2], none⟩,
 ⟨(some 12), (.p (.bin .lss .ifc)), [.t 10, .t 11], none⟩])
 (.cond (.t 12)
 .skip
 (.exit 0)))
 (.seq
 (.block 1 (some [0, 1, 2, 6])
 (.seq
 (.ops [
 ⟨(some 15), (.p .mov), [.t 6], none⟩,
 ⟨(some 7), (.p .mov), [.t 15], none⟩])
 slices_insertionSortOrdered_int_L2))
 (.ops [
 ⟨(some 13), (.p .mov), [.t 6], none⟩,
 ⟨(some 14), (.p (.bin .add .ifc)), [.t 13, .c (.int .i64 1)], none⟩,
 ⟨(some 6), (.p .mov), [.t 14], none⟩])))
def slices_insertionSortOrdered_int_L0 : CCode := .bloop 0 [0, 1, 2, 6] [] slices_insertionSortOrdered_int_B0
def slices_insertionSortOrdered_int_C : CCode :=
 (.seq
 (.ops [
 ⟨(some 8), (.p .mov), [.t 1], none⟩,
 ⟨(some 9), (.p (.bin .add .ifc)), [.t 8, .c (.int .i64 1)], none⟩,
 ⟨(some 6), (.p .mov), [.t 9], none⟩])
 slices_insertionSortOrdered_int_L0)
def slices_insertionSortOrdered_int_I : FInfo := ⟨.ref, 3, slices_insertionSortOrdered_int_C, []⟩
def slices_insertionSortOrdered_int_A : Ann := ⟨[], [], [(0, [0, 1, 2, 6], []), (2, [0, 1, 2, 6, 7], [0, 1, 2, 6])], [(1, [0, 1, 2, 6]), (3, [0, 1, 2, 6, 7])], []⟩
abbrev n_slices_insertionSortOrdered_int : Nat := 124

/-! ### cmp.Less[int] -/
def cmp_Less_int_C : CCode :=
 (.seq
 (.ops [
 ⟨(some 4), (.p .mov), [.c (.bool false)], none⟩])
 (.seq
 (.ops [
 ⟨(some 5), (.p .mov), [.t 0], none⟩,
 ⟨(some 6), .call, [.c (.fn (.func 141) [] []), .t 5], none⟩,
 ⟨(some 7), (.p .mov), [.t 6], none⟩,
 ⟨(some 8), (.p .mov), [.t 1], (some (7, true))⟩,
 ⟨(some 9), .call, [.c (.fn (.func 141) [] []), .t 8], (some (7, true))⟩,
 ⟨(some 10), (.p (.un .not)), [.t 9], (some (7, true))⟩,
 ⟨(some 11), (.p .pick), [.t 7, .t 10, .c (.bool false)], none⟩,
 ⟨(some 12), (.p .mov), [.t 11], none⟩,
 ⟨(some 13), (.p .mov), [.t 0], (some (12, false))⟩,
 ⟨(some 14), (.p .mov), [.t 1], (some (12, false))⟩,
 ⟨(some 15), (.p (.bin .lss .ifc)), [.t 13, .t 14], (some (12, false))⟩,
 ⟨(some 16), (.p .pick), [.t 12, .c (.bool true), .t 15], none⟩,
 ⟨(some 4), (.p .mov), [.t 16], none⟩])
 (.ret [4])))
def cmp_Less_int_I : FInfo := ⟨(.fz false), 2, cmp_Less_int_C, [.tmp 4]⟩
def cmp_Less_int_A : Ann := ⟨[], [], [], [], []⟩
abbrev n_cmp_Less_int : Nat := 130

/-! ### math/bits.Len32 -/
def math_bits_Len32_C : CCode :=
 (.seq
 (.ops [
 ⟨(some 2), (.p .mov), [.c (.int .i64 0)], none⟩])
 (.seq
 (.seq
 (.ops [
 ⟨(some 3), (.p .mov), [.t 0], none⟩,
 ⟨(some 4), (.p (.bin .geq .ifc)), [.t 3, .c (.int .u32 65536)], none⟩])
 (.cond (.t 4)
 (.seq
 (.ops [
 ⟨(some 5), (.p .mov), [.t 0], none⟩,
 ⟨(some 6), (.p (.bin .shr .ifc)), [.t 5, .c (.int .u64 16)], none⟩,
 ⟨(some 0), (.p .mov), [.t 6], none⟩])
 (.ops [
 ⟨(some 2), (.p .mov), [.c (.int .i64 16)], none⟩]))
 .skip))
 (.seq
 (.seq
 (.ops [
 ⟨(some 7), (.p .mov), [.t 0], none⟩,
 ⟨(some 8), (.p (.bin .geq .ifc)), [.t 7, .c (.int .u32 256)], none⟩])
 (.cond (.t 8)
 (.seq
 (.ops [
 ⟨(some 9), (.p .mov), [.t 0], none⟩,
 ⟨(some 10), (.p (.bin .shr .ifc)), [.t 9, .c (.int .u64 8)], none⟩,
 ⟨(some 0), (.p .mov), [.t 10], none⟩])
 (.ops [
 ⟨(some 11), (.p .mov), [.t 2], none⟩,
 ⟨(some 12), (.p (.bin .add .ifc)), [.t 11, .c (.int .i64 8)], none⟩,
 ⟨(some 2), (.p .mov), [.t 12], none⟩]))
 .skip))
 (.seq
 (.ops [
 ⟨(some 13), (.p .mov), [.t 2], none⟩,
 ⟨(some 14), (.p .mov), [.t 0], none⟩,
 ⟨(some 15), (.p (.toInt .u8)), [.t 14], none⟩,
 ⟨(some 16), (.p .idxS), [.c (.str (ByteArray.mk #[0, 1, 2, 2, 3, 3, 3, 3, 4, 4, 4, 4, 4, 4, 4, 4, 5, 5, 5, 5, 5, 5, 5, 5, 5, 5, 5, 5, 5, 5, 5, 5, 6, 6, 6, 6, 6, 6, 6, 6, 6, 6, 6, 6, 6, 6, 6, 6, 6, 6, 6, 6, 6, 6, 6, 6, 6, 6, 6, 6, 6, 6, 6, 6, 7, 7, 7, 7, 7, 7, 7, 7, 7, 7, 7, 7, 7, 7, 7, 7, 7, 7, 7, 7, 7, 7, 7, 7, 7, 7, 7, 7, 7, 7, 7, 7, 7, 7, 7, 7, 7, 7, 7, 7, 7, 7, 7, 7, 7, 7, 7, 7, 7, 7, 7, 7, 7, 7, 7, 7, 7, 7, 7, 7, 7, 7, 7, 7, 8, 8, 8, 8, 8, 8, 8, 8, 8, 8, 8, 8, 8, 8, 8, 8, 8, 8, 8, 8, 8, 8, 8, 8, 8, 8, 8, 8, 8, 8, 8, 8, 8, 8, 8, 8, 8, 8, 8, 8, 8, 8, 8, 8, 8, 8, 8, 8, 8, 8, 8, 8, 8, 8, 8, 8, 8, 8, 8, 8, 8, 8, 8, 8, 8, 8, 8, 8, 8, 8, 8, 8, 8, 8, 8, 8, 8, 8, 8, 8, 8, 8, 8, 8, 8, 8, 8, 8, 8, 8, 8, 8, 8, 8, 8, 8, 8, 8, 8, 8, 8, 8, 8, 8, 8, 8, 8, 8, 8, 8, 8, 8, 8, 8, 8, 8, 8, 8, 8, 8, 8, 8, 8, 8, 8, 8, 8, 8])), .t 15], none⟩,
 ⟨(some 17), (.p (.toInt .i64)), [.t 16], none⟩,
 ⟨(some 18), (.p (.bin .add .ifc)), [.t 13, .t 17], none⟩,
 ⟨(some 2), (.p .mov), [.t 18], none⟩])
 (.ret [2])))))
def math_bits_Len32_I : FInfo := ⟨(.fz false), 1, math_bits_Len32_C, [.tmp 2]⟩
def math_bits_Len32_A : Ann := ⟨[], [], [], [], []⟩
abbrev n_math_bits_Len32 : Nat := 133

/-! ### math/bits.Len64 -/
def math_bits_Len64_C : CCode :=
 (.seq
 (.ops [
 ⟨(some 2), (.p .mov), [.c (.int .i64 0)], none⟩])
 (.seq
 (.seq
 (.ops [
 ⟨(some 3), (.p .mov), [.t 0], none⟩,
 ⟨(some 4), (.p (.bin .geq .ifc)), [.t 3, .c (.int .u64 4294967296)], none⟩])
 (.cond (.t 4)
 (.seq
 (.ops [
 ⟨(some 5), (.p .mov), [.t 0], none⟩,
 ⟨(some 6), (.p (.bin .shr .ifc)), [.t 5, .c (.int .u64 32)], none⟩,
 ⟨(some 0), (.p .mov), [.t 6], none⟩])
 (.ops [
 ⟨(some 2), (.p .mov), [.c (.int .i64 32)], none⟩]))
 .skip))
 (.seq
 (.seq
 (.ops [
 ⟨(some 7), (.p .mov), [.t 0], none⟩,
 ⟨(some 8), (.p (.bin .geq .ifc)), [.t 7, .c (.int .u64 65536)], none⟩])
 (.cond (.t 8)
 (.seq
 (.ops [
 ⟨(some 9), (.p .mov), [.t 0], none⟩,
 ⟨(some 10), (.p (.bin .shr .ifc)), [.t 9, .c (.int .u64 16)], none⟩,
 ⟨(some 0), (.p .mov), [.t 10], none⟩])
 (.ops [
 ⟨(some 11), (.p .mov), [.t 2], none⟩,
 ⟨(some 12), (.p (.bin .add .ifc)), [.t 11, .c (.int .i64 16)], none⟩,
 ⟨(some 2), (.p .mov), [.t 12], none⟩]))
 .skip))
 (.seq
 (.seq
 (.ops [
 ⟨(some 13), (.p .mov), [.t 0], none⟩,
 ⟨(some 14), (.p (.bin .geq .ifc)), [.t 13, .c (.int .u64 256)], none⟩])
 (.cond (.t 14)
 (.seq
 (.ops [
 ⟨(some 15), (.p .mov), [.t 0], none⟩,
 ⟨(some 16), (.p (.bin .shr .ifc)), [.t 15, .c (.int .u64 8)], none⟩,
 ⟨(some 0), (.p .mov), [.t 16], none⟩])
 (.ops [
 ⟨(some 17), (.p .mov), [.t 2], none⟩,
 ⟨(some 18), (.p (.bin .add .ifc)), [.t 17, .c (.int .i64 8)], none⟩,
 ⟨(some 2), (.p .mov), [.t 18], none⟩]))
 .skip))
 (.seq
 (.ops [
 ⟨(some 19), (.p .mov), [.t 2], none⟩,
 ⟨(some 20), (.p .mov), [.t 0], none⟩,
 ⟨(some 21), (.p (.toInt .u8)), [.t 20], none⟩,
 ⟨(some 22), (.p .idxS), [.c (.str (ByteArray.mk #[0, 1, 2, 2, 3, 3, 3, 3, 4, 4, 4, 4, 4, 4, 4, 4, 5, 5, 5, 5, 5, 5, 5, 5, 5, 5, 5, 5, 5, 5, 5, 5, 6, 6, 6, 6, 6, 6, 6, 6, 6, 6, 6, 6, 6, 6, 6, 6, 6, 6, 6, 6, 6, 6, 6, 6, 6, 6, 6, 6, 6, 6, 6, 6, 7, 7, 7, 7, 7, 7, 7, 7, 7, 7, 7, 7, 7, 7, 7, 7, 7, 7, 7, 7, 7, 7, 7, 7, 7, 7, 7, 7, 7, 7, 7, 7, 7, 7, 7, 7, 7, 7, 7, 7, 7, 7, 7, 7, 7, 7, 7, 7, 7, 7, 7, 7, 7, 7, 7, 7, 7, 7, 7, 7, 7, 7, 7, 7, 8, 8, 8, 8, 8, 8, 8, 8, 8, 8, 8, 8, 8, 8, 8, 8, 8, 8, 8, 8, 8, 8, 8, 8, 8, 8, 8, 8, 8, 8, 8, 8, 8, 8, 8, 8, 8, 8, 8, 8, 8, 8, 8, 8, 8, 8, 8, 8, 8, 8, 8, 8, 8, 8, 8, 8, 8, 8, 8, 8, 8, 8, 8, 8, 8, 8, 8, 8, 8, 8, 8, 8, 8, 8, 8, 8, 8, 8, 8, 8, 8, 8, 8, 8, 8, 8, 8, 8, 8, 8, 8, 8, 8, 8, 8, 8, 8, 8, 8, 8, 8, 8, 8, 8, 8, 8, 8, 8, 8, 8, 8, 8, 8, 8, 8, 8, 8, 8, 8, 8, 8, 8, 8, 8, 8, 8, 8, 8])), .t 21], none⟩,
 ⟨(some 23), (.p (.toInt .i64)), [.t 22], none⟩,
 ⟨(some 24), (.p (.bin .add .ifc)), [.t 19, .t 23], none⟩,
 ⟨(some 2), (.p .mov), [.t 24], none⟩])
 (.ret [2]))))))
def math_bits_Len64_I : FInfo := ⟨(.fz false), 1, math_bits_Len64_C, [.tmp 2]⟩
def math_bits_Len64_A : Ann := ⟨[], [], [], [], []⟩
abbrev n_math_bits_Len64 : Nat := 134

/-! ### cmp.isNaN[int] -/
def cmp_isNaN_int_C : CCode :=
 (.seq
 (.ops [
 ⟨(some 2), (.p .mov), [.c (.bool false)], none⟩])
 (.seq
 (.ops [
 ⟨(some 3), (.p .mov), [.t 0], none⟩,
 ⟨(some 4), (.p .mov), [.t 0], none⟩,
 ⟨(some 5), (.p (.bin .neq .int)), [.t 3, .t 4], none⟩,
 ⟨(some 2), (.p .mov), [.t 5], none⟩])
 (.ret [2])))
def cmp_isNaN_int_I : FInfo := ⟨(.fz false), 1, cmp_isNaN_int_C, [.tmp 2]⟩
def cmp_isNaN_int_A : Ann := ⟨[], [], [], [], []⟩
abbrev n_cmp_isNaN_int : Nat := 141

end Go.Proofs.Ytmjffmghkfappaa.Zt
