/- Go functions, as the interpreter runs them: written by a program of this claim's own, proved to be what the compiler makes of them. No condition. -/
import Derived.Test.YtmkdhpjidhbijaaZcSym
import Derived.Test.YtmkdhpjidhbijaaProg
set_option linter.all false
namespace Go.Proofs.Ytmkdhpjidhbijaa.Zt
open Go Go.Zc
set_option maxRecDepth 100000

/-! ### balise/baliselaw10.TrainFits -/
def l10_TrainFits_C : CCode :=
 (.seq
  (.ops [
    ⟨(some 4), (.h (.box 4)), [.t 0], none⟩,
    ⟨(some 5), (.h (.box 5)), [.t 1], none⟩,
    ⟨(some 8), (.p .mov), [.c (.bool false)], none⟩])
  (.seq
   (.seq
    (.ops [
      ⟨(some 12), .call, [.c (.fn (.func 15) [] [])], none⟩,
      ⟨(some 13), (.p (.un .not)), [.t 12], none⟩,
      ⟨(some 14), (.p .mov), [.t 13], none⟩,
      ⟨(some 15), (.h (.load true 9)), [.t 4], (some (14, false))⟩,
      ⟨(some 16), .call, [.c (.fn (.func 16) [] []), .t 15], (some (14, false))⟩,
      ⟨(some 17), (.p (.un .not)), [.t 16], (some (14, false))⟩,
      ⟨(some 18), (.p .pick), [.t 14, .c (.bool true), .t 17], none⟩,
      ⟨(some 19), (.p .mov), [.t 18], none⟩,
      ⟨(some 20), (.p (.faddr 4)), [.t 5], (some (19, false))⟩,
      ⟨(some 21), (.h (.load false 1)), [.t 20], (some (19, false))⟩,
      ⟨(some 22), (.p .len), [.t 21], (some (19, false))⟩,
      ⟨(some 23), (.p (.bin .gtr .ifc)), [.t 22, .c (.int .i64 12)], (some (19, false))⟩,
      ⟨(some 24), (.p .pick), [.t 19, .c (.bool true), .t 23], none⟩])
    (.cond (.t 24)
     (.seq
      (.ops [
        ⟨(some 25), .call, [.c (.fn (.func 15) [] [])], none⟩,
        ⟨(some 8), (.p .mov), [.t 25], none⟩])
      (.ret [8]))
     .skip))
   (.seq
    (.ops [
      ⟨(some 26), (.h (.load true 9)), [.t 4], none⟩,
      ⟨(some 27), .call, [.c (.fn (.func 17) [] []), .t 26], none⟩,
      ⟨(some 9), (.h (.newl 9 [.nils, .nils, .nils, .nils, .nils, (.int .i64 0), (.int .i64 0), (.int .i64 0), (.int .i64 0), (.int .i64 0)])), [], none⟩,
      ⟨none, (.h (.store 10)), [.t 9, .t 27], none⟩])
    (.seq
     (.ops [
       ⟨(some 28), (.h (.load true 10)), [.t 9], none⟩,
       ⟨(some 29), .call, [.c (.fn (.func 18) [] []), .t 28], none⟩,
       ⟨(some 10), (.p .mov), [.t 29], none⟩])
     (.seq
      (.ops [
        ⟨(some 30), (.p (.faddr 0)), [.t 5], none⟩,
        ⟨none, (.h (.store 1)), [.t 30, .c (.int .u8 0)], none⟩])
      (.seq
       (.ops [
         ⟨(some 31), (.h (.load true 10)), [.t 9], none⟩,
         ⟨(some 32), (.h (.load true 8)), [.t 5], none⟩,
         ⟨(some 33), .call, [.c (.fn (.func 19) [] []), .t 31, .t 32, .c (.int .i64 0)], none⟩,
         ⟨(some 11), (.h (.newl 11 [(.int .u8 0), (.int .i64 0), (.int .i64 0), (.int .i64 0), (.int .i64 0), (.bool false), .nils])), [], none⟩,
         ⟨none, (.h (.store 7)), [.t 11, .t 33], none⟩])
       (.seq
        (.seq
         (.ops [
           ⟨(some 34), (.p .mov), [.t 10], none⟩,
           ⟨(some 35), (.h (.load true 7)), [.t 11], none⟩,
           ⟨(some 36), .call, [.c (.fn (.func 20) [] []), .t 34, .t 35], none⟩,
           ⟨(some 37), (.p (.un .not)), [.t 36], none⟩,
           ⟨(some 38), (.p .mov), [.t 37], none⟩,
           ⟨(some 39), (.h (.load true 10)), [.t 9], (some (38, false))⟩,
           ⟨(some 40), (.h (.load true 7)), [.t 11], (some (38, false))⟩,
           ⟨(some 41), .call, [.c (.fn (.func 21) [] []), .t 39, .t 40], (some (38, false))⟩,
           ⟨(some 42), (.p (.un .not)), [.t 41], (some (38, false))⟩,
           ⟨(some 43), (.p .pick), [.t 38, .c (.bool true), .t 42], none⟩])
         (.cond (.t 43)
          (.seq
           (.ops [
             ⟨(some 8), (.p .mov), [.c (.bool false)], none⟩])
           (.ret [8]))
          .skip))
        (.seq
         (.seq
          (.ops [
            ⟨(some 44), (.p .mov), [.t 2], none⟩,
            ⟨(some 45), (.p (.bin .rem .ifc)), [.t 44, .c (.int .u8 6)], none⟩])
          (.block 0 (some [9, 10, 11])
           (.seq
            (.ops [
              ⟨(some 51), (.p (.bin .eql .int)), [.t 45, .c (.int .u8 0)], none⟩,
              ⟨(some 50), (.p .mov), [.t 51], none⟩])
            (.cond (.t 50)
             (.ops [
               ⟨(some 52), (.p .mov), [.t 3], none⟩,
               ⟨(some 53), (.p (.faddr 3)), [.t 11], none⟩,
               ⟨none, (.h (.store 1)), [.t 53, .t 52], none⟩])
             (.seq
              (.ops [
                ⟨(some 55), (.p (.bin .eql .int)), [.t 45, .c (.int .u8 1)], none⟩,
                ⟨(some 54), (.p .mov), [.t 55], none⟩])
              (.cond (.t 54)
               (.ops [
                 ⟨(some 56), (.p .mov), [.t 3], none⟩,
                 ⟨(some 57), (.p (.faddr 4)), [.t 11], none⟩,
                 ⟨none, (.h (.store 1)), [.t 57, .t 56], none⟩])
               (.seq
                (.ops [
                  ⟨(some 59), (.p (.bin .eql .int)), [.t 45, .c (.int .u8 2)], none⟩,
                  ⟨(some 58), (.p .mov), [.t 59], none⟩])
                (.cond (.t 58)
                 (.ops [
                   ⟨(some 60), (.p (.faddr 6)), [.t 11], none⟩,
                   ⟨(some 61), (.h (.load false 1)), [.t 60], none⟩,
                   ⟨(some 62), (.h (.app 1 8 [(.int .i64 0)])), [.c .nils, .t 61], none⟩,
                   ⟨(some 63), (.p .mov), [.t 3], none⟩,
                   ⟨(some 64), (.h (.bslF 1 1 [(.int .i64 0)] [(0, 1)])), [.t 63], none⟩,
                   ⟨(some 65), (.h (.app 1 8 [(.int .i64 0)])), [.t 62, .t 64], none⟩,
                   ⟨(some 66), (.p (.faddr 6)), [.t 11], none⟩,
                   ⟨none, (.h (.store 1)), [.t 66, .t 65], none⟩])
                 (.seq
                  (.ops [
                    ⟨(some 68), (.p (.bin .eql .int)), [.t 45, .c (.int .u8 3)], none⟩,
                    ⟨(some 67), (.p .mov), [.t 68], none⟩])
                  (.cond (.t 67)
                   (.ops [
                     ⟨(some 69), (.p .mov), [.t 3], none⟩,
                     ⟨(some 70), (.p (.bin .rem .ifc)), [.t 69, .c (.int .i64 10)], none⟩,
                     ⟨(some 71), (.h (.bslO 1 1 [(.int .i64 0)] [(0, 1)])), [.t 70], none⟩,
                     ⟨(some 72), (.p (.faddr 6)), [.t 11], none⟩,
                     ⟨(some 73), (.h (.load false 1)), [.t 72], none⟩,
                     ⟨(some 74), (.h (.app 1 8 [(.int .i64 0)])), [.t 71, .t 73], none⟩,
                     ⟨(some 75), (.p (.faddr 6)), [.t 11], none⟩,
                     ⟨none, (.h (.store 1)), [.t 75, .t 74], none⟩])
                   (.seq
                    (.ops [
                      ⟨(some 77), (.p (.bin .eql .int)), [.t 45, .c (.int .u8 4)], none⟩,
                      ⟨(some 76), (.p .mov), [.t 77], none⟩])
                    (.cond (.t 76)
                     (.ops [
                       ⟨(some 78), (.p (.faddr 6)), [.t 11], none⟩,
                       ⟨(some 79), (.h (.load false 1)), [.t 78], none⟩,
                       ⟨(some 80), .call, [.c (.fn (.func 22) [] []), .t 79], none⟩,
                       ⟨(some 81), (.p (.faddr 6)), [.t 11], none⟩,
                       ⟨none, (.h (.store 1)), [.t 81, .t 80], none⟩])
                     (.ops [
                       ⟨(some 46), (.p (.faddr 6)), [.t 11], none⟩,
                       ⟨(some 47), (.h (.load false 1)), [.t 46], none⟩,
                       ⟨(some 48), (.p (.slc 1 false true)), [.t 47, .c (.int .i64 0)], none⟩,
                       ⟨(some 49), (.p (.faddr 6)), [.t 11], none⟩,
                       ⟨none, (.h (.store 1)), [.t 49, .t 48], none⟩])))))))))))))
         (.seq
          (.ops [
            ⟨(some 82), (.p .mov), [.t 10], none⟩,
            ⟨(some 83), (.h (.load true 7)), [.t 11], none⟩,
            ⟨(some 84), .call, [.c (.fn (.func 20) [] []), .t 82, .t 83], none⟩,
            ⟨(some 85), (.h (.load true 10)), [.t 9], none⟩,
            ⟨(some 86), (.h (.load true 7)), [.t 11], none⟩,
            ⟨(some 87), .call, [.c (.fn (.func 21) [] []), .t 85, .t 86], none⟩,
            ⟨(some 88), (.p (.bin .eql .bool)), [.t 84, .t 87], none⟩,
            ⟨(some 8), (.p .mov), [.t 88], none⟩])
          (.ret [8]))))))))))
def l10_TrainFits_I : FInfo := ⟨(.fz false), 4, l10_TrainFits_C, [.tmp 8]⟩
def l10_TrainFits_A : Ann := ⟨[], [71], [], [(0, [9, 10, 11])], [4, 5, 9, 11]⟩
abbrev n_l10_TrainFits : Nat := 3

/-! ### balise/baliselaw10.behind -/
def l10_behind_C : CCode :=
 (.seq
  (.ops [
    ⟨(some 0), (.p .mov), [.c (.bool false)], none⟩])
  (.seq
   (.ops [
     ⟨(some 1), (.h (.bslF 1 2 [(.int .i64 0)] [(0, 1), (1, 1)])), [.c (.int .i64 8), .c (.int .i64 7)], none⟩,
     ⟨(some 2), (.h (.bslF 1 4 [(.int .i64 0)] [(0, 1), (1, 1), (2, 1), (3, 1)])), [.c (.int .i64 8), .c (.int .i64 7), .c (.int .i64 6), .c (.int .i64 5)], none⟩,
     ⟨(some 3), .call, [.c (.fn (.func 54) [] []), .t 1, .t 2], none⟩,
     ⟨(some 4), (.h (.bslF 1 4 [(.int .i64 0)] [(0, 1), (1, 1), (2, 1), (3, 1)])), [.c (.int .i64 8), .c (.int .i64 7), .c (.int .i64 6), .c (.int .i64 5)], none⟩,
     ⟨(some 5), .call, [.c (.fn (.func 27) [] []), .t 3, .t 4], none⟩,
     ⟨(some 6), (.p .mov), [.t 5], none⟩,
     ⟨(some 7), (.h (.bslF 1 2 [(.int .i64 0)] [(0, 1), (1, 1)])), [.c (.int .i64 8), .c (.int .i64 7)], (some (6, true))⟩,
     ⟨(some 8), (.h (.bslF 1 2 [(.int .i64 0)] [(0, 1), (1, 1)])), [.c (.int .i64 6), .c (.int .i64 5)], (some (6, true))⟩,
     ⟨(some 9), .call, [.c (.fn (.func 54) [] []), .t 7, .t 8], (some (6, true))⟩,
     ⟨(some 10), (.h (.bslF 1 4 [(.int .i64 0)] [(0, 1), (1, 1), (2, 1), (3, 1)])), [.c (.int .i64 8), .c (.int .i64 7), .c (.int .i64 6), .c (.int .i64 5)], (some (6, true))⟩,
     ⟨(some 11), .call, [.c (.fn (.func 27) [] []), .t 9, .t 10], (some (6, true))⟩,
     ⟨(some 12), (.p .pick), [.t 6, .t 11, .c (.bool false)], none⟩,
     ⟨(some 0), (.p .mov), [.t 12], none⟩])
   (.ret [0])))
def l10_behind_I : FInfo := ⟨(.fz false), 0, l10_behind_C, [.tmp 0]⟩
def l10_behind_A : Ann := ⟨[], [], [], [], []⟩
abbrev n_l10_behind : Nat := 15

/-! ### balise/baliseref04.Small -/
def r04_Small_B0 : CCode :=
 (.seq
  (.seq
   (.ops [
     ⟨(some 4), (.p .mov), [.t 3], none⟩,
     ⟨(some 5), (.p (.faddr 8)), [.t 1], none⟩,
     ⟨(some 6), (.h (.load false 1)), [.t 5], none⟩,
     ⟨(some 7), (.p .len), [.t 6], none⟩,
     ⟨(some 8), (.p (.bin .lss .ifc)), [.t 4, .t 7], none⟩])
   (.cond (.t 8)
    .skip
    (.exit 0)))
  (.seq
   (.block 1 (some [1, 3])
    (.seq
     (.ops [
       ⟨(some 11), (.p (.faddr 8)), [.t 1], none⟩,
       ⟨(some 12), (.h (.load false 1)), [.t 11], none⟩,
       ⟨(some 13), (.p .mov), [.t 3], none⟩,
       ⟨(some 14), (.p (.iaddr 1)), [.t 12, .t 13], none⟩,
       ⟨(some 15), (.h (.load false 1)), [.t 14], none⟩,
       ⟨(some 16), (.p .len), [.t 15], none⟩,
       ⟨(some 17), (.p (.bin .gtr .ifc)), [.t 16, .c (.int .i64 10)], none⟩])
     (.cond (.t 17)
      (.seq
       (.ops [
         ⟨(some 2), (.p .mov), [.c (.bool false)], none⟩])
       (.ret [2]))
      .skip)))
   (.ops [
     ⟨(some 9), (.p .mov), [.t 3], none⟩,
     ⟨(some 10), (.p (.bin .add .ifc)), [.t 9, .c (.int .i64 1)], none⟩,
     ⟨(some 3), (.p .mov), [.t 10], none⟩])))
def r04_Small_L0 : CCode := .bloop 0 [1, 3] [1] r04_Small_B0
def r04_Small_C : CCode :=
 (.seq
  (.ops [
    ⟨(some 1), (.h (.box 1)), [.t 0], none⟩,
    ⟨(some 2), (.p .mov), [.c (.bool false)], none⟩])
  (.seq
   (.seq
    (.ops [
      ⟨(some 3), (.p .mov), [.c (.int .i64 0)], none⟩])
    r04_Small_L0)
   (.seq
    (.ops [
      ⟨(some 18), (.p (.faddr 8)), [.t 1], none⟩,
      ⟨(some 19), (.h (.load false 1)), [.t 18], none⟩,
      ⟨(some 20), (.p .len), [.t 19], none⟩,
      ⟨(some 21), (.p (.bin .leq .ifc)), [.t 20, .c (.int .i64 20)], none⟩,
      ⟨(some 2), (.p .mov), [.t 21], none⟩])
    (.ret [2]))))
def r04_Small_I : FInfo := ⟨(.fz false), 1, r04_Small_C, [.tmp 2]⟩
def r04_Small_A : Ann := ⟨[], [], [(0, [1, 3], [1])], [(1, [1, 3])], [1]⟩
abbrev n_r04_Small : Nat := 16

/-! ### balise/baliseref05.Full -/
def r05_Full_B0 : CCode :=
 (.seq
  (.seq
   (.ops [
     ⟨(some 9), (.p .mov), [.t 4], none⟩,
     ⟨(some 10), (.p (.faddr 8)), [.t 1], none⟩,
     ⟨(some 11), (.h (.load false 1)), [.t 10], none⟩,
     ⟨(some 12), (.p .len), [.t 11], none⟩,
     ⟨(some 13), (.p (.bin .lss .ifc)), [.t 9, .t 12], none⟩,
     ⟨(some 14), (.p .mov), [.t 13], none⟩,
     ⟨(some 15), (.p (.faddr 4)), [.t 3], (some (14, true))⟩,
     ⟨(some 16), (.h (.load false 1)), [.t 15], (some (14, true))⟩,
     ⟨(some 17), (.p .len), [.t 16], (some (14, true))⟩,
     ⟨(some 18), (.p (.bin .lss .ifc)), [.t 17, .c (.int .i64 16)], (some (14, true))⟩,
     ⟨(some 19), (.p .pick), [.t 14, .t 18, .c (.bool false)], none⟩])
   (.cond (.t 19)
    .skip
    (.exit 0)))
  (.seq
   (.block 1 (some [1, 2, 3, 4])
    (.seq
     (.ops [
       ⟨(some 22), (.p (.faddr 8)), [.t 1], none⟩,
       ⟨(some 23), (.h (.load false 1)), [.t 22], none⟩,
       ⟨(some 24), (.p .mov), [.t 4], none⟩,
       ⟨(some 25), (.p (.iaddr 1)), [.t 23, .t 24], none⟩,
       ⟨(some 26), (.h (.load false 1)), [.t 25], none⟩,
       ⟨(some 5), (.p .mov), [.t 26], none⟩])
     (.seq
      (.seq
       (.ops [
         ⟨(some 27), (.p .mov), [.t 5], none⟩,
         ⟨(some 28), (.p .len), [.t 27], none⟩,
         ⟨(some 29), (.p (.bin .lss .ifc)), [.t 28, .c (.int .i64 2)], none⟩])
       (.cond (.t 29)
        (.exit 1)
        .skip))
      (.seq
       (.ops [
         ⟨(some 30), (.h (.load true 10)), [.t 3], none⟩,
         ⟨(some 31), (.p .mov), [.t 5], none⟩,
         ⟨(some 32), (.p (.iaddr 1)), [.t 31, .c (.int .i64 0)], none⟩,
         ⟨(some 33), (.h (.load false 1)), [.t 32], none⟩,
         ⟨(some 34), (.p (.toInt .i64)), [.t 33], none⟩,
         ⟨(some 35), (.p (.faddr 1)), [.t 3], none⟩,
         ⟨(some 36), (.h (.load false 1)), [.t 35], none⟩,
         ⟨(some 37), (.p .len), [.t 36], none⟩,
         ⟨(some 38), (.p (.bin .rem .ifc)), [.t 34, .t 37], none⟩,
         ⟨(some 39), (.p .mov), [.t 5], none⟩,
         ⟨(some 40), (.p (.iaddr 1)), [.t 39, .c (.int .i64 0)], none⟩,
         ⟨(some 41), (.h (.load false 1)), [.t 40], none⟩,
         ⟨(some 42), (.p (.bin .quo .ifc)), [.t 41, .c (.int .u8 128)], none⟩,
         ⟨(some 43), (.p (.toInt .i64)), [.t 42], none⟩,
         ⟨(some 44), (.p .mov), [.t 5], none⟩,
         ⟨(some 45), (.p (.slc 1 true false)), [.t 44, .c (.int .i64 2)], none⟩,
         ⟨(some 46), (.p .mov), [.t 5], none⟩,
         ⟨(some 47), (.p (.iaddr 1)), [.t 46, .c (.int .i64 1)], none⟩,
         ⟨(some 48), (.h (.load false 1)), [.t 47], none⟩,
         ⟨(some 49), (.p (.bin .rem .ifc)), [.t 48, .c (.int .u8 5)], none⟩,
         ⟨(some 50), (.p (.toInt .i64)), [.t 49], none⟩,
         ⟨(some 51), (.p (.bin .add .ifc)), [.c (.int .i64 2), .t 50], none⟩,
         ⟨(some 52), .call, [.c (.fn (.func 48) [] []), .t 30, .t 38, .t 43, .t 45, .t 51], none⟩,
         ⟨(some 6), (.p .mov), [.t 52], none⟩])
       (.seq
        (.ops [
          ⟨(some 53), (.p .mov), [.t 6], none⟩,
          ⟨(some 54), (.p .len), [.t 53], none⟩,
          ⟨(some 55), (.p (.bin .geq .ifc)), [.t 54, .c (.int .i64 2)], none⟩])
        (.cond (.t 55)
         (.ops [
           ⟨(some 56), (.p (.faddr 4)), [.t 3], none⟩,
           ⟨(some 57), (.h (.load false 1)), [.t 56], none⟩,
           ⟨(some 58), (.p .mov), [.t 6], none⟩,
           ⟨(some 59), (.h (.bslF 1 1 [.nils] [(0, 1)])), [.t 58], none⟩,
           ⟨(some 60), (.h (.app 1 24 [.nils])), [.t 57, .t 59], none⟩,
           ⟨(some 61), (.p (.faddr 4)), [.t 3], none⟩,
           ⟨none, (.h (.store 1)), [.t 61, .t 60], none⟩])
         .skip))))))
   (.ops [
     ⟨(some 20), (.p .mov), [.t 4], none⟩,
     ⟨(some 21), (.p (.bin .add .ifc)), [.t 20, .c (.int .i64 1)], none⟩,
     ⟨(some 4), (.p .mov), [.t 21], none⟩])))
def r05_Full_L0 : CCode := .bloop 0 [1, 2, 3, 4] [2, 3] r05_Full_B0
def r05_Full_C : CCode :=
 (.seq
  (.ops [
    ⟨(some 1), (.h (.box 1)), [.t 0], none⟩,
    ⟨(some 2), (.h (.newl 2 [.nils, .nils, .nils, .nils, .nils, (.int .i64 0), (.int .i64 0), (.int .i64 0), (.int .i64 0), (.int .i64 0)])), [], none⟩])
  (.seq
   (.ops [
     ⟨(some 7), (.h (.load true 9)), [.t 1], none⟩,
     ⟨(some 8), .call, [.c (.fn (.func 55) [] []), .t 7], none⟩,
     ⟨(some 3), (.h (.newl 3 [.nils, .nils, .nils, .nils, .nils, (.int .i64 0), (.int .i64 0), (.int .i64 0), (.int .i64 0), (.int .i64 0)])), [], none⟩,
     ⟨none, (.h (.store 10)), [.t 3, .t 8], none⟩])
   (.seq
    (.seq
     (.ops [
       ⟨(some 4), (.p .mov), [.c (.int .i64 0)], none⟩])
     r05_Full_L0)
    (.seq
     (.ops [
       ⟨(some 62), (.h (.load true 10)), [.t 3], none⟩,
       ⟨none, (.h (.store 10)), [.t 2, .t 62], none⟩])
     (.ret [2])))))
def r05_Full_I : FInfo := ⟨(.fz false), 1, r05_Full_C, [.cell 2 true 10]⟩
def r05_Full_A : Ann := ⟨[], [], [(0, [1, 2, 3, 4], [2, 3])], [(1, [1, 2, 3, 4])], [1, 2, 3]⟩
abbrev n_r05_Full : Nat := 17

/-! ### balise/graph.New -/
def graph_New_C : CCode :=
 (.seq
  (.ops [
    ⟨(some 1), (.h (.box 1)), [.t 0], none⟩,
    ⟨(some 2), (.p .mov), [.c .nilp], none⟩])
  (.seq
   (.ops [
     ⟨(some 3), (.h (.load true 10)), [.t 1], none⟩,
     ⟨(some 4), (.p (.bld [.nils, .nils, .nils, .nils, .nils, (.int .i64 0), (.int .i64 0), (.int .i64 0), (.int .i64 0), (.int .i64 0)] [(0, 10)])), [.t 3], none⟩,
     ⟨(some 5), (.h .boxh), [.t 4], none⟩,
     ⟨(some 2), (.p .mov), [.t 5], none⟩])
   (.ret [2])))
def graph_New_I : FInfo := ⟨(.fz false), 1, graph_New_C, [.tmp 2]⟩
def graph_New_A : Ann := ⟨[5], [], [], [], [1]⟩
abbrev n_graph_New : Nat := 18

/-! ### balise/baliselaw10.report -/
def l10_report_C : CCode :=
 (.seq
  (.ops [
    ⟨(some 3), (.h (.box 3)), [.t 0], none⟩,
    ⟨(some 4), (.h (.box 4)), [.t 1], none⟩,
    ⟨(some 6), (.h (.newl 6 [(.int .u8 0), (.int .i64 0), (.int .i64 0), (.int .i64 0), (.int .i64 0), (.bool false), .nils])), [], none⟩])
  (.seq
   (.ops [
     ⟨(some 10), (.p (.faddr 3)), [.t 4], none⟩,
     ⟨(some 11), (.h (.load false 1)), [.t 10], none⟩,
     ⟨(some 12), (.p (.bin .quo .ifc)), [.t 11, .c (.int .u8 128)], none⟩,
     ⟨(some 13), (.p (.toInt .i64)), [.t 12], none⟩,
     ⟨(some 7), (.p .mov), [.t 13], none⟩])
   (.seq
    (.ops [
      ⟨(some 14), (.h (.load true 10)), [.t 3], none⟩,
      ⟨(some 15), (.p (.faddr 3)), [.t 4], none⟩,
      ⟨(some 16), (.h (.load false 1)), [.t 15], none⟩,
      ⟨(some 17), (.p (.toInt .i64)), [.t 16], none⟩,
      ⟨(some 18), (.p (.faddr 1)), [.t 3], none⟩,
      ⟨(some 19), (.h (.load false 1)), [.t 18], none⟩,
      ⟨(some 20), (.p .len), [.t 19], none⟩,
      ⟨(some 21), (.p (.bin .rem .ifc)), [.t 17, .t 20], none⟩,
      ⟨(some 22), (.p .mov), [.t 7], none⟩,
      ⟨(some 23), (.p (.faddr 4)), [.t 4], none⟩,
      ⟨(some 24), (.h (.load false 1)), [.t 23], none⟩,
      ⟨(some 25), (.p (.faddr 7)), [.t 4], none⟩,
      ⟨(some 26), (.h (.load false 1)), [.t 25], none⟩,
      ⟨(some 27), (.p (.bin .rem .ifc)), [.t 26, .c (.int .u8 5)], none⟩,
      ⟨(some 28), (.p (.toInt .i64)), [.t 27], none⟩,
      ⟨(some 29), (.p (.bin .add .ifc)), [.c (.int .i64 1), .t 28], none⟩,
      ⟨(some 30), .call, [.c (.fn (.func 48) [] []), .t 14, .t 21, .t 22, .t 24, .t 29], none⟩,
      ⟨(some 8), (.p .mov), [.t 30], none⟩])
    (.seq
     (.ops [
       ⟨(some 31), (.p (.faddr 1)), [.t 4], none⟩,
       ⟨(some 32), (.hl 4 (.load false 1)), [.t 31], none⟩,
       ⟨(some 33), (.p (.bin .rem .ifc)), [.t 32, .c (.int .u8 8)], none⟩,
       ⟨(some 34), (.p (.toInt .i64)), [.t 33], none⟩,
       ⟨(some 35), (.p .mov), [.t 2], none⟩,
       ⟨(some 36), (.p .mov), [.t 7], none⟩,
       ⟨(some 37), (.p (.bin .sub .ifc)), [.c (.int .i64 1), .t 36], none⟩,
       ⟨(some 38), (.p (.faddr 5)), [.t 4], none⟩,
       ⟨(some 39), (.hl 4 (.load false 1)), [.t 38], none⟩,
       ⟨(some 40), (.p (.toInt .i64)), [.t 39], none⟩,
       ⟨(some 41), (.hl 3 (.load true 10)), [.t 3], none⟩,
       ⟨(some 42), (.p .mov), [.t 8], none⟩,
       ⟨(some 43), (.p (.iaddr 1)), [.t 42, .c (.int .i64 0)], none⟩,
       ⟨(some 44), (.hb (.load false 1)), [.t 43], none⟩,
       ⟨(some 45), .callb, [.c (.fn (.func 56) [] []), .t 41, .t 44], none⟩,
       ⟨(some 46), (.p (.bin .add .ifc)), [.t 45, .c (.int .i64 1)], none⟩,
       ⟨(some 47), (.p (.bin .rem .ifc)), [.t 40, .t 46], none⟩,
       ⟨(some 48), (.p (.faddr 6)), [.t 4], none⟩,
       ⟨(some 49), (.hl 4 (.load false 1)), [.t 48], none⟩,
       ⟨(some 50), (.p .mov), [.t 8], none⟩,
       ⟨(some 51), (.p (.bld [(.int .u8 0), (.int .i64 0), (.int .i64 0), (.int .i64 0), (.int .i64 0), (.bool false), .nils] [(0, 1), (1, 1), (2, 1), (3, 1), (4, 1), (5, 1), (6, 1)])), [.c (.int .u8 3), .t 34, .t 35, .t 37, .t 47, .t 49, .t 50], none⟩,
       ⟨(some 9), (.h (.newl 9 [(.int .u8 0), (.int .i64 0), (.int .i64 0), (.int .i64 0), (.int .i64 0), (.bool false), .nils])), [], none⟩,
       ⟨none, (.hl 9 (.store 7)), [.t 9, .t 51], none⟩])
     (.seq
      (.seq
       (.ops [
         ⟨(some 52), (.p (.faddr 0)), [.t 4], none⟩,
         ⟨(some 53), (.h (.load false 1)), [.t 52], none⟩,
         ⟨(some 54), (.p (.bin .geq .ifc)), [.t 53, .c (.int .u8 250)], none⟩])
       (.cond (.t 54)
        (.seq
         (.ops [
           ⟨(some 55), (.p .mov), [.t 8], none⟩,
           ⟨(some 56), (.h (.app 1 8 [(.int .i64 0)])), [.c .nils, .t 55], none⟩,
           ⟨(some 57), (.p (.faddr 6)), [.t 9], none⟩,
           ⟨none, (.h (.store 1)), [.t 57, .t 56], none⟩])
         (.ops [
           ⟨(some 58), (.p (.faddr 6)), [.t 9], none⟩,
           ⟨(some 59), (.h (.load false 1)), [.t 58], none⟩,
           ⟨(some 60), (.p (.faddr 7)), [.t 4], none⟩,
           ⟨(some 61), (.h (.load false 1)), [.t 60], none⟩,
           ⟨(some 62), (.p (.toInt .i64)), [.t 61], none⟩,
           ⟨(some 63), (.p (.faddr 6)), [.t 9], none⟩,
           ⟨(some 64), (.h (.load false 1)), [.t 63], none⟩,
           ⟨(some 65), (.p .len), [.t 64], none⟩,
           ⟨(some 66), (.p (.bin .rem .ifc)), [.t 62, .t 65], none⟩,
           ⟨(some 67), (.p (.faddr 2)), [.t 4], none⟩,
           ⟨(some 68), (.h (.load false 1)), [.t 67], none⟩,
           ⟨(some 69), (.p (.toInt .i64)), [.t 68], none⟩,
           ⟨(some 70), (.p (.bin .rem .ifc)), [.t 69, .c (.int .i64 12)], none⟩,
           ⟨(some 71), (.p (.iaddr 1)), [.t 59, .t 66], none⟩,
           ⟨none, (.h (.store 1)), [.t 71, .t 70], none⟩]))
        .skip))
      (.seq
       (.seq
        (.ops [
          ⟨(some 72), (.p (.faddr 0)), [.t 4], none⟩,
          ⟨(some 73), (.h (.load false 1)), [.t 72], none⟩,
          ⟨(some 74), (.p (.bin .eql .int)), [.t 73, .c (.int .u8 249)], none⟩])
        (.cond (.t 74)
         (.ops [
           ⟨(some 75), (.p (.faddr 3)), [.t 9], none⟩,
           ⟨(some 76), (.h (.load false 1)), [.t 75], none⟩,
           ⟨(some 77), (.p (.bin .sub .ifc)), [.c (.int .i64 1), .t 76], none⟩,
           ⟨(some 78), (.p (.faddr 3)), [.t 9], none⟩,
           ⟨none, (.h (.store 1)), [.t 78, .t 77], none⟩])
         .skip))
       (.seq
        (.seq
         (.ops [
           ⟨(some 79), (.p (.faddr 0)), [.t 4], none⟩,
           ⟨(some 80), (.h (.load false 1)), [.t 79], none⟩,
           ⟨(some 81), (.p (.bin .eql .int)), [.t 80, .c (.int .u8 248)], none⟩])
         (.cond (.t 81)
          (.ops [
            ⟨(some 82), (.p (.faddr 4)), [.t 9], none⟩,
            ⟨(some 83), (.h (.load false 1)), [.t 82], none⟩,
            ⟨(some 84), (.p (.bin .add .ifc)), [.t 83, .c (.int .i64 5000)], none⟩,
            ⟨(some 85), (.p (.faddr 4)), [.t 9], none⟩,
            ⟨none, (.h (.store 1)), [.t 85, .t 84], none⟩])
          .skip))
        (.seq
         (.ops [
           ⟨(some 86), (.h (.load true 7)), [.t 9], none⟩,
           ⟨none, (.h (.store 7)), [.t 6, .t 86], none⟩])
         (.ret [6])))))))))
def l10_report_I : FInfo := ⟨(.fz false), 3, l10_report_C, [.cell 6 true 7]⟩
def l10_report_A : Ann := ⟨[], [], [], [], [3, 4, 6, 9]⟩
abbrev n_l10_report : Nat := 19

/-! ### balise/train.Fits -/
def train_Fits_B0 : CCode :=
 (.seq
  (.ops [
    ⟨(some 63), (.p (.bin .lss .ifc)), [.t 62, .t 61], none⟩])
  (.seq
   (.cond (.t 63)
    .skip
    (.exit 0))
   (.seq
    (.block 1 (some [0, 6, 60, 61, 62])
     (.seq
      (.ops [
        ⟨(some 64), (.p (.iaddr 1)), [.t 60, .t 62], none⟩,
        ⟨(some 65), (.h (.load false 1)), [.t 64], none⟩,
        ⟨(some 8), (.h (.newh [(.int .i64 0)])), [], none⟩,
        ⟨none, (.h (.store 1)), [.t 8, .t 65], none⟩])
      (.seq
       (.ops [
         ⟨(some 66), (.p .mov), [.t 0], none⟩,
         ⟨(some 67), (.h (.load true 2)), [.t 6], none⟩,
         ⟨(some 68), .call, [.c (.fn (.func 41) [] []), .t 66, .t 67], none⟩,
         ⟨(some 9), (.p .mov), [.t 68], none⟩])
       (.seq
        (.ops [
          ⟨(some 69), (.p .mov), [.t 9], none⟩,
          ⟨(some 70), (.p (.mkfn (.func 59) 0)), [.t 8], none⟩,
          ⟨(some 71), .call, [.c (.fn (.func 58) [] []), .t 69, .t 70], none⟩,
          ⟨(some 10), (.p .mov), [.t 71], none⟩])
        (.seq
         (.seq
          (.ops [
            ⟨(some 72), (.p .mov), [.t 10], none⟩,
            ⟨(some 73), (.p (.bin .lss .ifc)), [.t 72, .c (.int .i64 0)], none⟩])
          (.cond (.t 73)
           (.seq
            (.ops [
              ⟨(some 4), (.p .mov), [.c (.bool false)], none⟩])
            (.ret [4]))
           .skip))
         (.ops [
           ⟨(some 74), (.h (.load false 1)), [.t 8], none⟩,
           ⟨(some 75), (.p .mov), [.t 9], none⟩,
           ⟨(some 76), (.p .mov), [.t 10], none⟩,
           ⟨(some 77), (.p (.iaddr 2)), [.t 75, .t 76], none⟩,
           ⟨(some 78), (.p (.faddr 1)), [.t 77], none⟩,
           ⟨(some 79), (.h (.load false 1)), [.t 78], none⟩,
           ⟨(some 80), (.p (.bin .sub .ifc)), [.c (.int .i64 1), .t 79], none⟩,
           ⟨(some 81), (.p (.bld [(.int .i64 0), (.int .i64 0)] [(0, 1), (1, 1)])), [.t 74, .t 80], none⟩,
           ⟨none, (.h (.store 2)), [.t 6, .t 81], none⟩]))))))
    (.ops [
      ⟨(some 82), (.p (.bin .add .ifc)), [.t 62, .c (.int .i64 1)], none⟩,
      ⟨(some 62), (.p .mov), [.t 82], none⟩]))))
def train_Fits_L0 : CCode := .bloop 0 [0, 6, 60, 61, 62] [] train_Fits_B0
def train_Fits_C : CCode :=
 (.seq
  (.ops [
    ⟨(some 3), (.h (.box 3)), [.t 1], none⟩,
    ⟨(some 4), (.p .mov), [.c (.bool false)], none⟩])
  (.seq
   (.ops [
     ⟨(some 11), (.p (.faddr 6)), [.t 3], none⟩,
     ⟨(some 12), (.h (.load false 1)), [.t 11], none⟩,
     ⟨(some 5), (.p .mov), [.t 12], none⟩])
   (.seq
    (.seq
     (.ops [
       ⟨(some 13), (.p .mov), [.t 5], none⟩,
       ⟨(some 14), (.p .len), [.t 13], none⟩,
       ⟨(some 15), (.p (.bin .lss .ifc)), [.t 14, .c (.int .i64 1)], none⟩,
       ⟨(some 16), (.p .mov), [.t 15], none⟩,
       ⟨(some 17), (.p .mov), [.t 5], (some (16, false))⟩,
       ⟨(some 18), (.p .len), [.t 17], (some (16, false))⟩,
       ⟨(some 19), (.p (.bin .gtr .ifc)), [.t 18, .c (.int .i64 12)], (some (16, false))⟩,
       ⟨(some 20), (.p .pick), [.t 16, .c (.bool true), .t 19], none⟩,
       ⟨(some 21), (.p .mov), [.t 20], none⟩,
       ⟨(some 22), (.p .mov), [.t 0], (some (21, false))⟩,
       ⟨(some 23), (.p .mov), [.t 5], (some (21, false))⟩,
       ⟨(some 24), .call, [.c (.fn (.func 57) [] []), .t 22, .t 23], (some (21, false))⟩,
       ⟨(some 25), (.p (.un .not)), [.t 24], (some (21, false))⟩,
       ⟨(some 26), (.p .pick), [.t 21, .c (.bool true), .t 25], none⟩,
       ⟨(some 27), (.p .mov), [.t 26], none⟩,
       ⟨(some 28), (.p (.faddr 3)), [.t 3], (some (27, false))⟩,
       ⟨(some 29), (.h (.load false 1)), [.t 28], (some (27, false))⟩,
       ⟨(some 30), (.p (.bin .lss .ifc)), [.t 29, .c (.int .i64 0)], (some (27, false))⟩,
       ⟨(some 31), (.p .pick), [.t 27, .c (.bool true), .t 30], none⟩,
       ⟨(some 32), (.p .mov), [.t 31], none⟩,
       ⟨(some 33), (.p (.faddr 3)), [.t 3], (some (32, false))⟩,
       ⟨(some 34), (.h (.load false 1)), [.t 33], (some (32, false))⟩,
       ⟨(some 35), (.p (.bin .gtr .ifc)), [.t 34, .c (.int .i64 1)], (some (32, false))⟩,
       ⟨(some 36), (.p .pick), [.t 32, .c (.bool true), .t 35], none⟩,
       ⟨(some 37), (.p .mov), [.t 36], none⟩,
       ⟨(some 38), (.p (.faddr 4)), [.t 3], (some (37, false))⟩,
       ⟨(some 39), (.h (.load false 1)), [.t 38], (some (37, false))⟩,
       ⟨(some 40), (.p (.bin .lss .ifc)), [.t 39, .c (.int .i64 0)], (some (37, false))⟩,
       ⟨(some 41), (.p .pick), [.t 37, .c (.bool true), .t 40], none⟩,
       ⟨(some 42), (.p .mov), [.t 41], none⟩,
       ⟨(some 43), (.p (.faddr 4)), [.t 3], (some (42, false))⟩,
       ⟨(some 44), (.h (.load false 1)), [.t 43], (some (42, false))⟩,
       ⟨(some 45), (.p .mov), [.t 0], (some (42, false))⟩,
       ⟨(some 46), (.p .mov), [.t 5], (some (42, false))⟩,
       ⟨(some 47), (.p (.iaddr 1)), [.t 46, .c (.int .i64 0)], (some (42, false))⟩,
       ⟨(some 48), (.h (.load false 1)), [.t 47], (some (42, false))⟩,
       ⟨(some 49), .call, [.c (.fn (.func 47) [] []), .t 45, .t 48], (some (42, false))⟩,
       ⟨(some 50), (.p (.bin .gtr .ifc)), [.t 44, .t 49], (some (42, false))⟩,
       ⟨(some 51), (.p .pick), [.t 42, .c (.bool true), .t 50], none⟩])
     (.cond (.t 51)
      (.seq
       (.ops [
         ⟨(some 4), (.p .mov), [.c (.bool false)], none⟩])
       (.ret [4]))
      .skip))
    (.seq
     (.ops [
       ⟨(some 52), (.p .mov), [.t 5], none⟩,
       ⟨(some 53), (.p (.iaddr 1)), [.t 52, .c (.int .i64 0)], none⟩,
       ⟨(some 54), (.hb (.load false 1)), [.t 53], none⟩,
       ⟨(some 55), (.p (.faddr 3)), [.t 3], none⟩,
       ⟨(some 56), (.hl 3 (.load false 1)), [.t 55], none⟩,
       ⟨(some 57), (.p (.bin .sub .ifc)), [.c (.int .i64 1), .t 56], none⟩,
       ⟨(some 58), (.p (.bld [(.int .i64 0), (.int .i64 0)] [(0, 1), (1, 1)])), [.t 54, .t 57], none⟩,
       ⟨(some 6), (.h (.newl 6 [(.int .i64 0), (.int .i64 0)])), [], none⟩,
       ⟨none, (.hl 6 (.store 2)), [.t 6, .t 58], none⟩])
     (.seq
      (.seq
       (.ops [
         ⟨(some 59), (.p .mov), [.t 5], none⟩,
         ⟨(some 60), (.p (.slc 1 true false)), [.t 59, .c (.int .i64 1)], none⟩,
         ⟨(some 61), (.p .len), [.t 60], none⟩,
         ⟨(some 62), (.p .mov), [.c (.int .i64 0)], none⟩])
       train_Fits_L0)
      (.seq
       (.ops [
         ⟨(some 4), (.p .mov), [.c (.bool true)], none⟩])
       (.ret [4])))))))
def train_Fits_I : FInfo := ⟨(.fz false), 2, train_Fits_C, [.tmp 4]⟩
def train_Fits_A : Ann := ⟨[8], [], [(0, [0, 6, 60, 61, 62], [])], [(1, [0, 6, 60, 61, 62])], [3, 6]⟩
abbrev n_train_Fits : Nat := 20

/-! ### balise/baliseref10.Fits -/
def r10_Fits_B0 : CCode :=
 (.seq
  (.seq
   (.ops [
     ⟨(some 43), (.p .mov), [.t 6], none⟩,
     ⟨(some 44), (.p .mov), [.t 5], none⟩,
     ⟨(some 45), (.p (.bin .lss .ifc)), [.t 43, .t 44], none⟩])
   (.cond (.t 45)
    .skip
    (.exit 0)))
  (.seq
   (.block 1 (some [2, 3, 5, 6])
    (.seq
     (.ops [
       ⟨(some 48), (.h (.load true 10)), [.t 2], none⟩,
       ⟨(some 49), (.p (.faddr 6)), [.t 3], none⟩,
       ⟨(some 50), (.h (.load false 1)), [.t 49], none⟩,
       ⟨(some 51), (.p .mov), [.t 6], none⟩,
       ⟨(some 52), (.p (.iaddr 1)), [.t 50, .t 51], none⟩,
       ⟨(some 53), (.h (.load false 1)), [.t 52], none⟩,
       ⟨(some 54), .call, [.c (.fn (.func 56) [] []), .t 48, .t 53], none⟩,
       ⟨(some 55), (.p (.bin .eql .int)), [.t 54, .c (.int .i64 0)], none⟩])
     (.cond (.t 55)
      (.seq
       (.ops [
         ⟨(some 4), (.p .mov), [.c (.bool false)], none⟩])
       (.ret [4]))
      .skip)))
   (.ops [
     ⟨(some 46), (.p .mov), [.t 6], none⟩,
     ⟨(some 47), (.p (.bin .add .ifc)), [.t 46, .c (.int .i64 1)], none⟩,
     ⟨(some 6), (.p .mov), [.t 47], none⟩])))
def r10_Fits_L0 : CCode := .bloop 0 [2, 3, 5, 6] [2, 3, 5] r10_Fits_B0

def r10_Fits_B4 : CCode :=
 (.seq
  (.seq
   (.ops [
     ⟨(some 81), (.p .mov), [.t 10], none⟩,
     ⟨(some 82), (.p .mov), [.t 9], none⟩,
     ⟨(some 83), (.p .len), [.t 82], none⟩,
     ⟨(some 84), (.p (.bin .lss .ifc)), [.t 81, .t 83], none⟩,
     ⟨(some 85), (.p .mov), [.t 84], none⟩,
     ⟨(some 86), (.p .mov), [.t 9], (some (85, true))⟩,
     ⟨(some 87), (.p .mov), [.t 10], (some (85, true))⟩,
     ⟨(some 88), (.p (.iaddr 2)), [.t 86, .t 87], (some (85, true))⟩,
     ⟨(some 89), (.p (.faddr 0)), [.t 88], (some (85, true))⟩,
     ⟨(some 90), (.h (.load false 1)), [.t 89], (some (85, true))⟩,
     ⟨(some 91), (.p (.faddr 6)), [.t 3], (some (85, true))⟩,
     ⟨(some 92), (.h (.load false 1)), [.t 91], (some (85, true))⟩,
     ⟨(some 93), (.p .mov), [.t 8], (some (85, true))⟩,
     ⟨(some 94), (.p (.iaddr 1)), [.t 92, .t 93], (some (85, true))⟩,
     ⟨(some 95), (.h (.load false 1)), [.t 94], (some (85, true))⟩,
     ⟨(some 96), (.p (.bin .neq .int)), [.t 90, .t 95], (some (85, true))⟩,
     ⟨(some 97), (.p .pick), [.t 85, .t 96, .c (.bool false)], none⟩])
   (.cond (.t 97)
    .skip
    (.exit 4)))
  (.block 5 (some [2, 3, 5, 7, 8, 9, 10])
   (.ops [
     ⟨(some 98), (.p .mov), [.t 10], none⟩,
     ⟨(some 99), (.p (.bin .add .ifc)), [.t 98, .c (.int .i64 1)], none⟩,
     ⟨(some 10), (.p .mov), [.t 99], none⟩])))
def r10_Fits_L4 : CCode := .bloop 4 [2, 3, 5, 7, 8, 9, 10] [2, 3, 5, 7, 8, 9, 10] r10_Fits_B4

def r10_Fits_B2 : CCode :=
 (.seq
  (.seq
   (.ops [
     ⟨(some 73), (.p .mov), [.t 8], none⟩,
     ⟨(some 74), (.p .mov), [.t 5], none⟩,
     ⟨(some 75), (.p (.bin .lss .ifc)), [.t 73, .t 74], none⟩])
   (.cond (.t 75)
    .skip
    (.exit 2)))
  (.seq
   (.block 3 (some [2, 3, 5, 7, 8])
    (.seq
     (.ops [
       ⟨(some 78), (.h (.load true 10)), [.t 2], none⟩,
       ⟨(some 79), (.h (.load true 2)), [.t 7], none⟩,
       ⟨(some 80), .call, [.c (.fn (.func 61) [] []), .t 78, .t 79], none⟩,
       ⟨(some 9), (.p .mov), [.t 80], none⟩])
     (.seq
      (.ops [
        ⟨(some 10), (.p .mov), [.c (.int .i64 0)], none⟩])
      (.seq
       r10_Fits_L4
       (.seq
        (.seq
         (.ops [
           ⟨(some 100), (.p .mov), [.t 10], none⟩,
           ⟨(some 101), (.p .mov), [.t 9], none⟩,
           ⟨(some 102), (.p .len), [.t 101], none⟩,
           ⟨(some 103), (.p (.bin .eql .int)), [.t 100, .t 102], none⟩])
         (.cond (.t 103)
          (.seq
           (.ops [
             ⟨(some 4), (.p .mov), [.c (.bool false)], none⟩])
           (.ret [4]))
          .skip))
        (.ops [
          ⟨(some 104), (.p (.faddr 6)), [.t 3], none⟩,
          ⟨(some 105), (.h (.load false 1)), [.t 104], none⟩,
          ⟨(some 106), (.p .mov), [.t 8], none⟩,
          ⟨(some 107), (.p (.iaddr 1)), [.t 105, .t 106], none⟩,
          ⟨(some 108), (.h (.load false 1)), [.t 107], none⟩,
          ⟨(some 109), (.p .mov), [.t 9], none⟩,
          ⟨(some 110), (.p .mov), [.t 10], none⟩,
          ⟨(some 111), (.p (.iaddr 2)), [.t 109, .t 110], none⟩,
          ⟨(some 112), (.p (.faddr 1)), [.t 111], none⟩,
          ⟨(some 113), (.h (.load false 1)), [.t 112], none⟩,
          ⟨(some 114), (.p (.bin .sub .ifc)), [.c (.int .i64 1), .t 113], none⟩,
          ⟨(some 115), (.p (.bld [(.int .i64 0), (.int .i64 0)] [(0, 1), (1, 1)])), [.t 108, .t 114], none⟩,
          ⟨none, (.h (.store 2)), [.t 7, .t 115], none⟩]))))))
   (.ops [
     ⟨(some 76), (.p .mov), [.t 8], none⟩,
     ⟨(some 77), (.p (.bin .add .ifc)), [.t 76, .c (.int .i64 1)], none⟩,
     ⟨(some 8), (.p .mov), [.t 77], none⟩])))
def r10_Fits_L2 : CCode := .bloop 2 [2, 3, 5, 7, 8] [] r10_Fits_B2
def r10_Fits_C : CCode :=
 (.seq
  (.ops [
    ⟨(some 2), (.h (.box 2)), [.t 0], none⟩,
    ⟨(some 3), (.h (.box 3)), [.t 1], none⟩,
    ⟨(some 4), (.p .mov), [.c (.bool false)], none⟩])
  (.seq
   (.ops [
     ⟨(some 11), (.p (.faddr 6)), [.t 3], none⟩,
     ⟨(some 12), (.h (.load false 1)), [.t 11], none⟩,
     ⟨(some 13), (.p .len), [.t 12], none⟩,
     ⟨(some 5), (.p .mov), [.t 13], none⟩])
   (.seq
    (.seq
     (.ops [
       ⟨(some 14), (.p .mov), [.t 5], none⟩,
       ⟨(some 15), (.p (.bin .lss .ifc)), [.t 14, .c (.int .i64 1)], none⟩,
       ⟨(some 16), (.p .mov), [.t 15], none⟩,
       ⟨(some 17), (.p .mov), [.t 5], (some (16, false))⟩,
       ⟨(some 18), (.p (.bin .gtr .ifc)), [.t 17, .c (.int .i64 12)], (some (16, false))⟩,
       ⟨(some 19), (.p .pick), [.t 16, .c (.bool true), .t 18], none⟩,
       ⟨(some 20), (.p .mov), [.t 19], none⟩,
       ⟨(some 21), (.p (.faddr 3)), [.t 3], (some (20, false))⟩,
       ⟨(some 22), (.h (.load false 1)), [.t 21], (some (20, false))⟩,
       ⟨(some 23), (.p (.bin .lss .ifc)), [.t 22, .c (.int .i64 0)], (some (20, false))⟩,
       ⟨(some 24), (.p .pick), [.t 20, .c (.bool true), .t 23], none⟩,
       ⟨(some 25), (.p .mov), [.t 24], none⟩,
       ⟨(some 26), (.p (.faddr 3)), [.t 3], (some (25, false))⟩,
       ⟨(some 27), (.h (.load false 1)), [.t 26], (some (25, false))⟩,
       ⟨(some 28), (.p (.bin .gtr .ifc)), [.t 27, .c (.int .i64 1)], (some (25, false))⟩,
       ⟨(some 29), (.p .pick), [.t 25, .c (.bool true), .t 28], none⟩,
       ⟨(some 30), (.p .mov), [.t 29], none⟩,
       ⟨(some 31), (.p (.faddr 4)), [.t 3], (some (30, false))⟩,
       ⟨(some 32), (.h (.load false 1)), [.t 31], (some (30, false))⟩,
       ⟨(some 33), (.p (.bin .lss .ifc)), [.t 32, .c (.int .i64 0)], (some (30, false))⟩,
       ⟨(some 34), (.p .pick), [.t 30, .c (.bool true), .t 33], none⟩,
       ⟨(some 35), (.p .mov), [.t 34], none⟩,
       ⟨(some 36), (.p (.faddr 6)), [.t 3], (some (35, false))⟩,
       ⟨(some 37), (.h (.load false 1)), [.t 36], (some (35, false))⟩,
       ⟨(some 38), .call, [.c (.fn (.func 60) [] []), .t 37], (some (35, false))⟩,
       ⟨(some 39), (.p .len), [.t 38], (some (35, false))⟩,
       ⟨(some 40), (.p .mov), [.t 5], (some (35, false))⟩,
       ⟨(some 41), (.p (.bin .neq .int)), [.t 39, .t 40], (some (35, false))⟩,
       ⟨(some 42), (.p .pick), [.t 35, .c (.bool true), .t 41], none⟩])
     (.cond (.t 42)
      (.seq
       (.ops [
         ⟨(some 4), (.p .mov), [.c (.bool false)], none⟩])
       (.ret [4]))
      .skip))
    (.seq
     (.seq
      (.ops [
        ⟨(some 6), (.p .mov), [.c (.int .i64 0)], none⟩])
      r10_Fits_L0)
     (.seq
      (.seq
       (.ops [
         ⟨(some 56), (.p (.faddr 4)), [.t 3], none⟩,
         ⟨(some 57), (.h (.load false 1)), [.t 56], none⟩,
         ⟨(some 58), (.h (.load true 10)), [.t 2], none⟩,
         ⟨(some 59), (.p (.faddr 6)), [.t 3], none⟩,
         ⟨(some 60), (.h (.load false 1)), [.t 59], none⟩,
         ⟨(some 61), (.p (.iaddr 1)), [.t 60, .c (.int .i64 0)], none⟩,
         ⟨(some 62), (.h (.load false 1)), [.t 61], none⟩,
         ⟨(some 63), .call, [.c (.fn (.func 56) [] []), .t 58, .t 62], none⟩,
         ⟨(some 64), (.p (.bin .gtr .ifc)), [.t 57, .t 63], none⟩])
       (.cond (.t 64)
        (.seq
         (.ops [
           ⟨(some 4), (.p .mov), [.c (.bool false)], none⟩])
         (.ret [4]))
        .skip))
      (.seq
       (.ops [
         ⟨(some 65), (.p (.faddr 6)), [.t 3], none⟩,
         ⟨(some 66), (.hl 3 (.load false 1)), [.t 65], none⟩,
         ⟨(some 67), (.p (.iaddr 1)), [.t 66, .c (.int .i64 0)], none⟩,
         ⟨(some 68), (.hb (.load false 1)), [.t 67], none⟩,
         ⟨(some 69), (.p (.faddr 3)), [.t 3], none⟩,
         ⟨(some 70), (.hl 3 (.load false 1)), [.t 69], none⟩,
         ⟨(some 71), (.p (.bin .sub .ifc)), [.c (.int .i64 1), .t 70], none⟩,
         ⟨(some 72), (.p (.bld [(.int .i64 0), (.int .i64 0)] [(0, 1), (1, 1)])), [.t 68, .t 71], none⟩,
         ⟨(some 7), (.h (.newl 7 [(.int .i64 0), (.int .i64 0)])), [], none⟩,
         ⟨none, (.hl 7 (.store 2)), [.t 7, .t 72], none⟩])
       (.seq
        (.seq
         (.ops [
           ⟨(some 8), (.p .mov), [.c (.int .i64 1)], none⟩])
         r10_Fits_L2)
        (.seq
         (.ops [
           ⟨(some 4), (.p .mov), [.c (.bool true)], none⟩])
         (.ret [4])))))))))
def r10_Fits_I : FInfo := ⟨(.fz false), 2, r10_Fits_C, [.tmp 4]⟩
def r10_Fits_A : Ann := ⟨[], [], [(0, [2, 3, 5, 6], [2, 3, 5]), (2, [2, 3, 5, 7, 8], []), (4, [2, 3, 5, 7, 8, 9, 10], [2, 3, 5, 7, 8, 9, 10])], [(1, [2, 3, 5, 6]), (3, [2, 3, 5, 7, 8]), (5, [2, 3, 5, 7, 8, 9, 10])], [2, 3, 7]⟩
abbrev n_r10_Fits : Nat := 21

/-! ### balise/baliseref10.Back -/
def r10_Back_B0 : CCode :=
 (.seq
  (.seq
   (.ops [
     ⟨(some 8), (.p .mov), [.t 4], none⟩,
     ⟨(some 9), (.p (.bin .geq .ifc)), [.t 8, .c (.int .i64 0)], none⟩])
   (.cond (.t 9)
    .skip
    (.exit 0)))
  (.seq
   (.block 1 (some [0, 3, 4])
    (.ops [
      ⟨(some 12), (.p .mov), [.t 3], none⟩,
      ⟨(some 13), (.p .mov), [.t 0], none⟩,
      ⟨(some 14), (.p .mov), [.t 4], none⟩,
      ⟨(some 15), (.p (.iaddr 1)), [.t 13, .t 14], none⟩,
      ⟨(some 16), (.h (.load false 1)), [.t 15], none⟩,
      ⟨(some 17), (.h (.bslF 1 1 [(.int .i64 0)] [(0, 1)])), [.t 16], none⟩,
      ⟨(some 18), (.h (.app 1 8 [(.int .i64 0)])), [.t 12, .t 17], none⟩,
      ⟨(some 3), (.p .mov), [.t 18], none⟩]))
   (.ops [
     ⟨(some 10), (.p .mov), [.t 4], none⟩,
     ⟨(some 11), (.p (.bin .sub .ifc)), [.t 10, .c (.int .i64 1)], none⟩,
     ⟨(some 4), (.p .mov), [.t 11], none⟩])))
def r10_Back_L0 : CCode := .bloop 0 [0, 3, 4] [3] r10_Back_B0
def r10_Back_C : CCode :=
 (.seq
  (.ops [
    ⟨(some 2), (.p .mov), [.c .nils], none⟩])
  (.seq
   (.ops [
     ⟨(some 3), (.p .mov), [.c .nils], none⟩])
   (.seq
    (.seq
     (.ops [
       ⟨(some 5), (.p .mov), [.t 0], none⟩,
       ⟨(some 6), (.p .len), [.t 5], none⟩,
       ⟨(some 7), (.p (.bin .sub .ifc)), [.t 6, .c (.int .i64 1)], none⟩,
       ⟨(some 4), (.p .mov), [.t 7], none⟩])
     r10_Back_L0)
    (.seq
     (.ops [
       ⟨(some 19), (.p .mov), [.t 3], none⟩,
       ⟨(some 2), (.p .mov), [.t 19], none⟩])
     (.ret [2])))))
def r10_Back_I : FInfo := ⟨(.fz false), 1, r10_Back_C, [.tmp 2]⟩
def r10_Back_A : Ann := ⟨[], [], [(0, [0, 3, 4], [3])], [(1, [0, 3, 4])], []⟩
abbrev n_r10_Back : Nat := 22

/-! ### balise/baliseref01.Ints -/
def r01_Ints_B0 : CCode :=
 (.seq
  (.seq
   (.ops [
     ⟨(some 11), (.p .mov), [.t 5], none⟩,
     ⟨(some 12), (.p .mov), [.t 0], none⟩,
     ⟨(some 13), (.p .len), [.t 12], none⟩,
     ⟨(some 14), (.p (.bin .lss .ifc)), [.t 11, .t 13], none⟩])
   (.cond (.t 14)
    .skip
    (.exit 0)))
  (.seq
   (.block 1 (some [0, 1, 5])
    (.seq
     (.ops [
       ⟨(some 17), (.p .mov), [.t 0], none⟩,
       ⟨(some 18), (.p .mov), [.t 5], none⟩,
       ⟨(some 19), (.p (.iaddr 1)), [.t 17, .t 18], none⟩,
       ⟨(some 20), (.h (.load false 1)), [.t 19], none⟩,
       ⟨(some 21), (.p .mov), [.t 1], none⟩,
       ⟨(some 22), (.p .mov), [.t 5], none⟩,
       ⟨(some 23), (.p (.iaddr 1)), [.t 21, .t 22], none⟩,
       ⟨(some 24), (.h (.load false 1)), [.t 23], none⟩,
       ⟨(some 25), (.p (.bin .neq .int)), [.t 20, .t 24], none⟩])
     (.cond (.t 25)
      (.seq
       (.ops [
         ⟨(some 4), (.p .mov), [.c (.bool false)], none⟩])
       (.ret [4]))
      .skip)))
   (.ops [
     ⟨(some 15), (.p .mov), [.t 5], none⟩,
     ⟨(some 16), (.p (.bin .add .ifc)), [.t 15, .c (.int .i64 1)], none⟩,
     ⟨(some 5), (.p .mov), [.t 16], none⟩])))
def r01_Ints_L0 : CCode := .bloop 0 [0, 1, 5] [] r01_Ints_B0
def r01_Ints_C : CCode :=
 (.seq
  (.ops [
    ⟨(some 4), (.p .mov), [.c (.bool false)], none⟩])
  (.seq
   (.seq
    (.ops [
      ⟨(some 6), (.p .mov), [.t 0], none⟩,
      ⟨(some 7), (.p .len), [.t 6], none⟩,
      ⟨(some 8), (.p .mov), [.t 1], none⟩,
      ⟨(some 9), (.p .len), [.t 8], none⟩,
      ⟨(some 10), (.p (.bin .neq .int)), [.t 7, .t 9], none⟩])
    (.cond (.t 10)
     (.seq
      (.ops [
        ⟨(some 4), (.p .mov), [.c (.bool false)], none⟩])
      (.ret [4]))
     .skip))
   (.seq
    (.seq
     (.ops [
       ⟨(some 5), (.p .mov), [.c (.int .i64 0)], none⟩])
     r01_Ints_L0)
    (.seq
     (.ops [
       ⟨(some 4), (.p .mov), [.c (.bool true)], none⟩])
     (.ret [4])))))
def r01_Ints_I : FInfo := ⟨(.fz false), 2, r01_Ints_C, [.tmp 4]⟩
def r01_Ints_A : Ann := ⟨[], [], [(0, [0, 1, 5], [])], [(1, [0, 1, 5])], []⟩
abbrev n_r01_Ints : Nat := 27

/-! ### (*balise/graph.Graph).Around -/
def graph_Graph_Around_C : CCode :=
 (.seq
  (.ops [
    ⟨(some 3), (.h .boxh), [.t 1], none⟩,
    ⟨(some 4), (.p .mov), [.c .nils], none⟩])
  (.seq
   (.ops [
     ⟨(some 11), (.p .mov), [.t 0], none⟩,
     ⟨(some 12), (.h (.load true 2)), [.t 3], none⟩,
     ⟨(some 13), .call, [.c (.fn (.func 76) [] []), .t 11, .t 12], none⟩,
     ⟨(some 10), (.p .mov), [.t 13], none⟩,
     ⟨(some 14), (.p (.ext 0)), [.t 10], none⟩,
     ⟨(some 15), (.p (.ext 1)), [.t 10], none⟩,
     ⟨(some 5), (.p .mov), [.t 14], none⟩,
     ⟨(some 6), (.p .mov), [.t 15], none⟩])
   (.seq
    (.seq
     (.ops [
       ⟨(some 16), (.p .mov), [.t 6], none⟩,
       ⟨(some 17), (.p (.un .not)), [.t 16], none⟩])
     (.cond (.t 17)
      (.seq
       (.ops [
         ⟨(some 4), (.p .mov), [.c .nils], none⟩])
       (.ret [4]))
      .skip))
    (.seq
     (.ops [
       ⟨(some 18), (.p .mov), [.t 0], none⟩,
       ⟨(some 19), (.p .mov), [.t 5], none⟩,
       ⟨(some 20), .call, [.c (.fn (.func 53) [] []), .t 18, .t 19], none⟩,
       ⟨(some 7), (.p .mov), [.t 20], none⟩])
     (.seq
      (.seq
       (.ops [
         ⟨(some 21), (.p .mov), [.t 7], none⟩,
         ⟨(some 22), (.p (.bin .lss .ifc)), [.t 21, .c (.int .i64 0)], none⟩])
       (.cond (.t 22)
        (.seq
         (.ops [
           ⟨(some 23), (.p .mov), [.t 0], none⟩,
           ⟨(some 24), (.p .mov), [.t 5], none⟩,
           ⟨(some 25), .call, [.c (.fn (.func 44) [] []), .t 23, .t 24], none⟩,
           ⟨(some 26), (.p (.mkfn (.func 78) 0)), [.t 3], none⟩,
           ⟨(some 27), .call, [.c (.fn (.func 77) [] []), .t 25, .t 26], none⟩,
           ⟨(some 8), (.p .mov), [.t 27], none⟩])
         (.seq
          (.seq
           (.ops [
             ⟨(some 28), (.p .mov), [.t 8], none⟩,
             ⟨(some 29), (.p .len), [.t 28], none⟩,
             ⟨(some 30), (.p (.bin .neq .int)), [.t 29, .c (.int .i64 1)], none⟩])
           (.cond (.t 30)
            (.seq
             (.ops [
               ⟨(some 4), (.p .mov), [.c .nils], none⟩])
             (.ret [4]))
            .skip))
          (.seq
           (.ops [
             ⟨(some 31), (.p .mov), [.t 8], none⟩,
             ⟨(some 4), (.p .mov), [.t 31], none⟩])
           (.ret [4]))))
        .skip))
      (.seq
       (.ops [
         ⟨(some 32), (.p .mov), [.t 0], none⟩,
         ⟨(some 33), (.p .nchk), [.t 32], none⟩,
         ⟨(some 34), (.p (.faddr 0)), [.t 33], none⟩,
         ⟨(some 35), (.p (.faddr 3)), [.t 34], none⟩,
         ⟨(some 36), (.h (.load false 1)), [.t 35], none⟩,
         ⟨(some 37), (.p .mov), [.t 7], none⟩,
         ⟨(some 38), (.p (.iaddr 4)), [.t 36, .t 37], none⟩,
         ⟨(some 39), (.h (.load true 4)), [.t 38], none⟩,
         ⟨(some 9), (.h (.newl 9 [(.int .i64 0), (.int .i64 0), (.int .i64 0), (.int .i64 0)])), [], none⟩,
         ⟨none, (.h (.store 4)), [.t 9, .t 39], none⟩])
       (.seq
        (.seq
         (.ops [
           ⟨(some 40), (.p (.faddr 0)), [.t 3], none⟩,
           ⟨(some 41), (.h (.load false 1)), [.t 40], none⟩])
         (.block 0 (some [])
          (.seq
           (.ops [
             ⟨(some 43), (.p (.faddr 1)), [.t 9], none⟩,
             ⟨(some 44), (.h (.load false 1)), [.t 43], none⟩,
             ⟨(some 45), (.p (.bin .eql .int)), [.t 41, .t 44], none⟩,
             ⟨(some 42), (.p .mov), [.t 45], none⟩])
           (.cond (.t 42)
            (.seq
             (.ops [
               ⟨(some 46), (.p .mov), [.t 0], none⟩,
               ⟨(some 47), (.p (.faddr 2)), [.t 9], none⟩,
               ⟨(some 48), (.h (.load false 1)), [.t 47], none⟩,
               ⟨(some 49), (.p .mov), [.t 5], none⟩,
               ⟨(some 50), .call, [.c (.fn (.func 80) [] []), .t 46, .t 48, .t 49], none⟩,
               ⟨(some 51), (.p .mov), [.t 0], none⟩,
               ⟨(some 52), (.p (.faddr 3)), [.t 9], none⟩,
               ⟨(some 53), (.h (.load false 1)), [.t 52], none⟩,
               ⟨(some 54), (.p .mov), [.t 5], none⟩,
               ⟨(some 55), .call, [.c (.fn (.func 80) [] []), .t 51, .t 53, .t 54], none⟩,
               ⟨(some 56), (.h (.bslF 1 2 [.nils] [(0, 1), (1, 1)])), [.t 50, .t 55], none⟩,
               ⟨(some 57), .call, [.c (.fn (.func 79) [] []), .t 56], none⟩,
               ⟨(some 4), (.p .mov), [.t 57], none⟩])
             (.ret [4]))
            (.seq
             (.seq
              (.ops [
                ⟨(some 59), (.p (.faddr 2)), [.t 9], none⟩,
                ⟨(some 60), (.h (.load false 1)), [.t 59], none⟩,
                ⟨(some 61), (.p (.bin .eql .int)), [.t 41, .t 60], none⟩,
                ⟨(some 58), (.p .mov), [.t 61], none⟩])
              (.cond (.t 58)
               .skip
               (.ops [
                 ⟨(some 62), (.p (.faddr 3)), [.t 9], none⟩,
                 ⟨(some 63), (.h (.load false 1)), [.t 62], none⟩,
                 ⟨(some 64), (.p (.bin .eql .int)), [.t 41, .t 63], none⟩,
                 ⟨(some 58), (.p .mov), [.t 64], none⟩])))
             (.cond (.t 58)
              (.seq
               (.ops [
                 ⟨(some 65), (.p .mov), [.t 0], none⟩,
                 ⟨(some 66), (.p (.faddr 1)), [.t 9], none⟩,
                 ⟨(some 67), (.h (.load false 1)), [.t 66], none⟩,
                 ⟨(some 68), (.p .mov), [.t 5], none⟩,
                 ⟨(some 69), .call, [.c (.fn (.func 80) [] []), .t 65, .t 67, .t 68], none⟩,
                 ⟨(some 4), (.p .mov), [.t 69], none⟩])
               (.ret [4]))
              .skip))))))
        (.seq
         (.ops [
           ⟨(some 4), (.p .mov), [.c .nils], none⟩])
         (.ret [4])))))))))
def graph_Graph_Around_I : FInfo := ⟨(.fz false), 2, graph_Graph_Around_C, [.tmp 4]⟩
def graph_Graph_Around_A : Ann := ⟨[3], [], [], [(0, [])], [9]⟩
abbrev n_graph_Graph_Around : Nat := 41

/-! ### balise/baliseref01.Has -/
def r01_Has_B0 : CCode :=
 (.seq
  (.seq
   (.ops [
     ⟨(some 6), (.p .mov), [.t 5], none⟩,
     ⟨(some 7), (.p .mov), [.t 0], none⟩,
     ⟨(some 8), (.p .len), [.t 7], none⟩,
     ⟨(some 9), (.p (.bin .lss .ifc)), [.t 6, .t 8], none⟩])
   (.cond (.t 9)
    .skip
    (.exit 0)))
  (.seq
   (.block 1 (some [0, 1, 5])
    (.seq
     (.ops [
       ⟨(some 12), (.p .mov), [.t 0], none⟩,
       ⟨(some 13), (.p .mov), [.t 5], none⟩,
       ⟨(some 14), (.p (.iaddr 1)), [.t 12, .t 13], none⟩,
       ⟨(some 15), (.h (.load false 1)), [.t 14], none⟩,
       ⟨(some 16), (.p .mov), [.t 1], none⟩,
       ⟨(some 17), (.p (.bin .eql .int)), [.t 15, .t 16], none⟩])
     (.cond (.t 17)
      (.seq
       (.ops [
         ⟨(some 4), (.p .mov), [.c (.bool true)], none⟩])
       (.ret [4]))
      .skip)))
   (.ops [
     ⟨(some 10), (.p .mov), [.t 5], none⟩,
     ⟨(some 11), (.p (.bin .add .ifc)), [.t 10, .c (.int .i64 1)], none⟩,
     ⟨(some 5), (.p .mov), [.t 11], none⟩])))
def r01_Has_L0 : CCode := .bloop 0 [0, 1, 5] [] r01_Has_B0
def r01_Has_C : CCode :=
 (.seq
  (.ops [
    ⟨(some 4), (.p .mov), [.c (.bool false)], none⟩])
  (.seq
   (.seq
    (.ops [
      ⟨(some 5), (.p .mov), [.c (.int .i64 0)], none⟩])
    r01_Has_L0)
   (.seq
    (.ops [
      ⟨(some 4), (.p .mov), [.c (.bool false)], none⟩])
    (.ret [4]))))
def r01_Has_I : FInfo := ⟨(.fz false), 2, r01_Has_C, [.tmp 4]⟩
def r01_Has_A : Ann := ⟨[], [], [(0, [0, 1, 5], [])], [(1, [0, 1, 5])], []⟩
abbrev n_r01_Has : Nat := 42

/-! ### (*balise/graph.Graph).Ends -/
def graph_Graph_Ends_B2 : CCode :=
 (.seq
  (.ops [
    ⟨(some 28), (.p (.bin .lss .ifc)), [.t 27, .c (.int .i64 2)], none⟩])
  (.seq
   (.cond (.t 28)
    .skip
    (.exit 2))
   (.seq
    (.block 3 (some [0, 1, 5, 6, 26, 27])
     (.seq
      (.ops [
        ⟨(some 29), (.p .mov), [.t 27], none⟩,
        ⟨(some 30), (.p (.idxA 2 false 1)), [.t 26, .t 27], none⟩,
        ⟨(some 9), (.p .mov), [.t 29], none⟩,
        ⟨(some 10), (.p .mov), [.t 30], none⟩])
      (.seq
       (.ops [
         ⟨(some 31), (.p .mov), [.t 10], none⟩,
         ⟨(some 32), (.p .mov), [.t 1], none⟩,
         ⟨(some 33), (.p (.bin .eql .int)), [.t 31, .t 32], none⟩])
       (.cond (.t 33)
        (.ops [
          ⟨(some 34), (.p .mov), [.t 5], none⟩,
          ⟨(some 35), (.p .mov), [.t 6], none⟩,
          ⟨(some 36), (.p .mov), [.t 9], none⟩,
          ⟨(some 37), (.p (.bld [(.int .i64 0), (.int .i64 0)] [(0, 1), (1, 1)])), [.t 35, .t 36], none⟩,
          ⟨(some 38), (.h (.bslF 2 1 [(.int .i64 0), (.int .i64 0)] [(0, 2)])), [.t 37], none⟩,
          ⟨(some 39), (.h (.app 2 16 [(.int .i64 0), (.int .i64 0)])), [.t 34, .t 38], none⟩,
          ⟨(some 5), (.p .mov), [.t 39], none⟩])
        .skip))))
    (.ops [
      ⟨(some 40), (.p (.bin .add .ifc)), [.t 27, .c (.int .i64 1)], none⟩,
      ⟨(some 27), (.p .mov), [.t 40], none⟩]))))
def graph_Graph_Ends_L2 : CCode := .bloop 2 [0, 1, 5, 6, 26, 27] [0, 1, 5, 6] graph_Graph_Ends_B2

def graph_Graph_Ends_B0 : CCode :=
 (.seq
  (.block 1 (some [0, 1, 5, 6])
   (.seq
    (.ops [
      ⟨(some 14), (.p .mov), [.t 0], none⟩,
      ⟨(some 15), (.p .mov), [.t 6], none⟩,
      ⟨(some 16), .call, [.c (.fn (.func 83) [] []), .t 14, .t 15], none⟩,
      ⟨(some 13), (.p .mov), [.t 16], none⟩,
      ⟨(some 17), (.p (.ext 0)), [.t 13], none⟩,
      ⟨(some 18), (.p (.ext 1)), [.t 13], none⟩,
      ⟨(some 7), (.h (.newl 7 [(.int .i64 0), (.int .i64 0), (.int .i64 0)])), [], none⟩,
      ⟨none, (.h (.store 3)), [.t 7, .t 17], none⟩,
      ⟨(some 8), (.p .mov), [.t 18], none⟩])
    (.seq
     (.seq
      (.ops [
        ⟨(some 19), (.p .mov), [.t 8], none⟩,
        ⟨(some 20), (.p (.un .not)), [.t 19], none⟩])
      (.cond (.t 20)
       (.seq
        (.ops [
          ⟨(some 21), (.p .mov), [.t 5], none⟩,
          ⟨(some 4), (.p .mov), [.t 21], none⟩])
        (.ret [4]))
       .skip))
     (.seq
      (.ops [
        ⟨(some 22), (.p (.faddr 1)), [.t 7], none⟩,
        ⟨(some 23), (.h (.load false 1)), [.t 22], none⟩,
        ⟨(some 24), (.p (.faddr 2)), [.t 7], none⟩,
        ⟨(some 25), (.h (.load false 1)), [.t 24], none⟩,
        ⟨(some 26), (.p (.bld [(.int .i64 0), (.int .i64 0)] [(0, 1), (1, 1)])), [.t 23, .t 25], none⟩,
        ⟨(some 27), (.p .mov), [.c (.int .i64 0)], none⟩])
      graph_Graph_Ends_L2))))
  (.ops [
    ⟨(some 11), (.p .mov), [.t 6], none⟩,
    ⟨(some 12), (.p (.bin .add .ifc)), [.t 11, .c (.int .i64 1)], none⟩,
    ⟨(some 6), (.p .mov), [.t 12], none⟩]))
def graph_Graph_Ends_L0 : CCode := .bloop 0 [0, 1, 5, 6] [] graph_Graph_Ends_B0
def graph_Graph_Ends_C : CCode :=
 (.seq
  (.ops [
    ⟨(some 4), (.p .mov), [.c .nils], none⟩])
  (.seq
   (.ops [
     ⟨(some 5), (.p .mov), [.c .nils], none⟩])
   (.seq
    (.ops [
      ⟨(some 6), (.p .mov), [.c (.int .i64 0)], none⟩])
    graph_Graph_Ends_L0)))
def graph_Graph_Ends_I : FInfo := ⟨.own, 2, graph_Graph_Ends_C, [.tmp 4]⟩
def graph_Graph_Ends_A : Ann := ⟨[], [], [(0, [0, 1, 5, 6], []), (2, [0, 1, 5, 6, 26, 27], [0, 1, 5, 6])], [(1, [0, 1, 5, 6]), (3, [0, 1, 5, 6, 26, 27])], [7]⟩
abbrev n_graph_Graph_Ends : Nat := 44

/-! ### (*balise/graph.Graph).Len -/
def graph_Graph_Len_C : CCode :=
 (.seq
  (.ops [
    ⟨(some 4), (.p .mov), [.c (.int .i64 0)], none⟩])
  (.seq
   (.ops [
     ⟨(some 8), (.p .mov), [.t 0], none⟩,
     ⟨(some 9), (.p .mov), [.t 1], none⟩,
     ⟨(some 10), .call, [.c (.fn (.func 83) [] []), .t 8, .t 9], none⟩,
     ⟨(some 7), (.p .mov), [.t 10], none⟩,
     ⟨(some 11), (.p (.ext 0)), [.t 7], none⟩,
     ⟨(some 12), (.p (.ext 1)), [.t 7], none⟩,
     ⟨(some 5), (.h (.newl 5 [(.int .i64 0), (.int .i64 0), (.int .i64 0)])), [], none⟩,
     ⟨none, (.h (.store 3)), [.t 5, .t 11], none⟩,
     ⟨(some 6), (.p .mov), [.t 12], none⟩])
   (.seq
    (.ops [
      ⟨(some 13), (.p (.faddr 0)), [.t 5], none⟩,
      ⟨(some 14), (.h (.load false 1)), [.t 13], none⟩,
      ⟨(some 4), (.p .mov), [.t 14], none⟩])
    (.ret [4]))))
def graph_Graph_Len_I : FInfo := ⟨(.fz false), 2, graph_Graph_Len_C, [.tmp 4]⟩
def graph_Graph_Len_A : Ann := ⟨[], [], [], [], [5]⟩
abbrev n_graph_Graph_Len : Nat := 47

/-! ### balise/baliseref05.Walk -/
def r05_Walk_B0 : CCode :=
 (.seq
  (.seq
   (.ops [
     ⟨(some 21), (.p .mov), [.t 11], none⟩,
     ⟨(some 22), (.p .len), [.t 21], none⟩,
     ⟨(some 23), (.p .mov), [.t 4], none⟩,
     ⟨(some 24), (.p (.bin .lss .ifc)), [.t 22, .t 23], none⟩])
   (.cond (.t 24)
    .skip
    (.exit 0)))
  (.seq
   (.block 1 (some [3, 4, 5, 11, 12, 13])
    (.seq
     (.ops [
       ⟨(some 27), (.h (.load true 10)), [.t 5], none⟩,
       ⟨(some 28), (.h (.load true 2)), [.t 12], none⟩,
       ⟨(some 29), .call, [.c (.fn (.func 61) [] []), .t 27, .t 28], none⟩,
       ⟨(some 14), (.p .mov), [.t 29], none⟩])
     (.seq
      (.seq
       (.ops [
         ⟨(some 30), (.p .mov), [.t 14], none⟩,
         ⟨(some 31), (.p .len), [.t 30], none⟩,
         ⟨(some 32), (.p (.bin .eql .int)), [.t 31, .c (.int .i64 0)], none⟩])
       (.cond (.t 32)
        (.seq
         (.ops [
           ⟨(some 33), (.p .mov), [.t 11], none⟩,
           ⟨(some 10), (.p .mov), [.t 33], none⟩])
         (.ret [10]))
        .skip))
      (.seq
       (.ops [
         ⟨(some 15), (.p .mov), [.c (.int .i64 0)], none⟩])
       (.seq
        (.seq
         (.ops [
           ⟨(some 34), (.p .mov), [.t 13], none⟩,
           ⟨(some 35), (.p .mov), [.t 3], none⟩,
           ⟨(some 36), (.p .len), [.t 35], none⟩,
           ⟨(some 37), (.p (.bin .lss .ifc)), [.t 34, .t 36], none⟩])
         (.cond (.t 37)
          (.ops [
            ⟨(some 38), (.p .mov), [.t 3], none⟩,
            ⟨(some 39), (.p .mov), [.t 13], none⟩,
            ⟨(some 40), (.p (.iaddr 1)), [.t 38, .t 39], none⟩,
            ⟨(some 41), (.h (.load false 1)), [.t 40], none⟩,
            ⟨(some 42), (.p (.toInt .i64)), [.t 41], none⟩,
            ⟨(some 43), (.p .mov), [.t 14], none⟩,
            ⟨(some 44), (.p .len), [.t 43], none⟩,
            ⟨(some 45), (.p (.bin .rem .ifc)), [.t 42, .t 44], none⟩,
            ⟨(some 15), (.p .mov), [.t 45], none⟩])
          .skip))
        (.seq
         (.seq
          (.ops [
            ⟨(some 46), (.p .mov), [.t 11], none⟩,
            ⟨(some 47), (.p .mov), [.t 14], none⟩,
            ⟨(some 48), (.p .mov), [.t 15], none⟩,
            ⟨(some 49), (.p (.iaddr 2)), [.t 47, .t 48], none⟩,
            ⟨(some 50), (.p (.faddr 0)), [.t 49], none⟩,
            ⟨(some 51), (.h (.load false 1)), [.t 50], none⟩,
            ⟨(some 52), .call, [.c (.fn (.func 42) [] []), .t 46, .t 51], none⟩])
          (.cond (.t 52)
           (.seq
            (.ops [
              ⟨(some 53), (.p .mov), [.t 11], none⟩,
              ⟨(some 10), (.p .mov), [.t 53], none⟩])
            (.ret [10]))
           .skip))
         (.seq
          (.ops [
            ⟨(some 54), (.p .mov), [.t 11], none⟩,
            ⟨(some 55), (.p .mov), [.t 14], none⟩,
            ⟨(some 56), (.p .mov), [.t 15], none⟩,
            ⟨(some 57), (.p (.iaddr 2)), [.t 55, .t 56], none⟩,
            ⟨(some 58), (.p (.faddr 0)), [.t 57], none⟩,
            ⟨(some 59), (.h (.load false 1)), [.t 58], none⟩,
            ⟨(some 60), (.h (.bslF 1 1 [(.int .i64 0)] [(0, 1)])), [.t 59], none⟩,
            ⟨(some 61), (.h (.app 1 8 [(.int .i64 0)])), [.t 54, .t 60], none⟩,
            ⟨(some 11), (.p .mov), [.t 61], none⟩])
          (.ops [
            ⟨(some 62), (.p .mov), [.t 14], none⟩,
            ⟨(some 63), (.p .mov), [.t 15], none⟩,
            ⟨(some 64), (.p (.iaddr 2)), [.t 62, .t 63], none⟩,
            ⟨(some 65), (.p (.faddr 0)), [.t 64], none⟩,
            ⟨(some 66), (.h (.load false 1)), [.t 65], none⟩,
            ⟨(some 67), (.p .mov), [.t 14], none⟩,
            ⟨(some 68), (.p .mov), [.t 15], none⟩,
            ⟨(some 69), (.p (.iaddr 2)), [.t 67, .t 68], none⟩,
            ⟨(some 70), (.p (.faddr 1)), [.t 69], none⟩,
            ⟨(some 71), (.h (.load false 1)), [.t 70], none⟩,
            ⟨(some 72), (.p (.bin .sub .ifc)), [.c (.int .i64 1), .t 71], none⟩,
            ⟨(some 73), (.p (.bld [(.int .i64 0), (.int .i64 0)] [(0, 1), (1, 1)])), [.t 66, .t 72], none⟩,
            ⟨none, (.h (.store 2)), [.t 12, .t 73], none⟩]))))))))
   (.ops [
     ⟨(some 25), (.p .mov), [.t 13], none⟩,
     ⟨(some 26), (.p (.bin .add .ifc)), [.t 25, .c (.int .i64 1)], none⟩,
     ⟨(some 13), (.p .mov), [.t 26], none⟩])))
def r05_Walk_L0 : CCode := .bloop 0 [3, 4, 5, 11, 12, 13] [11] r05_Walk_B0
def r05_Walk_C : CCode :=
 (.seq
  (.ops [
    ⟨(some 5), (.h (.box 5)), [.t 0], none⟩,
    ⟨(some 10), (.p .mov), [.c .nils], none⟩])
  (.seq
   (.ops [
     ⟨(some 16), (.p .mov), [.t 1], none⟩,
     ⟨(some 17), (.h (.bslO 1 1 [(.int .i64 0)] [(0, 1)])), [.t 16], none⟩,
     ⟨(some 11), (.p .mov), [.t 17], none⟩])
   (.seq
    (.ops [
      ⟨(some 18), (.p .mov), [.t 1], none⟩,
      ⟨(some 19), (.p .mov), [.t 2], none⟩,
      ⟨(some 20), (.p (.bld [(.int .i64 0), (.int .i64 0)] [(0, 1), (1, 1)])), [.t 18, .t 19], none⟩,
      ⟨(some 12), (.h (.newl 12 [(.int .i64 0), (.int .i64 0)])), [], none⟩,
      ⟨none, (.h (.store 2)), [.t 12, .t 20], none⟩])
    (.seq
     (.seq
      (.ops [
        ⟨(some 13), (.p .mov), [.c (.int .i64 0)], none⟩])
      r05_Walk_L0)
     (.seq
      (.ops [
        ⟨(some 74), (.p .mov), [.t 11], none⟩,
        ⟨(some 10), (.p .mov), [.t 74], none⟩])
      (.ret [10]))))))
def r05_Walk_I : FInfo := ⟨(.fz false), 5, r05_Walk_C, [.tmp 10]⟩
def r05_Walk_A : Ann := ⟨[], [17], [(0, [3, 4, 5, 11, 12, 13], [11])], [(1, [3, 4, 5, 11, 12, 13])], [5, 12]⟩
abbrev n_r05_Walk : Nat := 48

/-! ### (*balise/graph.Graph).Point -/
def graph_Graph_Point_C : CCode :=
 (.seq
  (.ops [
    ⟨(some 3), (.h .boxh), [.t 1], none⟩,
    ⟨(some 4), (.p .mov), [.c (.int .i64 0)], none⟩])
  (.seq
   (.seq
    (.ops [
      ⟨(some 5), (.p .mov), [.t 0], none⟩,
      ⟨(some 6), (.p (.bin .eql .ptr)), [.t 5, .c .nilp], none⟩])
    (.cond (.t 6)
     (.seq
      (.ops [
        ⟨(some 4), (.p .mov), [.c (.int .i64 (-1))], none⟩])
      (.ret [4]))
     .skip))
   (.seq
    (.ops [
      ⟨(some 7), (.p .mov), [.t 0], none⟩,
      ⟨(some 8), (.p .nchk), [.t 7], none⟩,
      ⟨(some 9), (.p (.faddr 0)), [.t 8], none⟩,
      ⟨(some 10), (.p (.faddr 3)), [.t 9], none⟩,
      ⟨(some 11), (.h (.load false 1)), [.t 10], none⟩,
      ⟨(some 12), (.p (.mkfn (.func 99) 0)), [.t 3], none⟩,
      ⟨(some 13), .call, [.c (.fn (.func 98) [] []), .t 11, .t 12], none⟩,
      ⟨(some 4), (.p .mov), [.t 13], none⟩])
    (.ret [4]))))
def graph_Graph_Point_I : FInfo := ⟨(.fz false), 2, graph_Graph_Point_C, [.tmp 4]⟩
def graph_Graph_Point_A : Ann := ⟨[3], [], [], [], []⟩
abbrev n_graph_Graph_Point : Nat := 53

/-! ### balise/train.Join -/
def train_Join_B0 : CCode :=
 (.seq
  (.ops [
    ⟨(some 31), (.p (.bin .lss .ifc)), [.t 30, .t 29], none⟩])
  (.seq
   (.cond (.t 31)
    .skip
    (.exit 0))
   (.seq
    (.block 1 (some [5, 28, 29, 30])
     (.seq
      (.ops [
        ⟨(some 32), (.p (.iaddr 1)), [.t 28, .t 30], none⟩,
        ⟨(some 33), (.h (.load false 1)), [.t 32], none⟩,
        ⟨(some 8), (.p .mov), [.t 33], none⟩])
      (.seq
       (.ops [
         ⟨(some 34), (.p .mov), [.t 5], none⟩,
         ⟨(some 35), (.p .mov), [.t 8], none⟩,
         ⟨(some 36), .call, [.c (.fn (.func 86) [] []), .t 34, .t 35], none⟩,
         ⟨(some 37), (.p (.un .not)), [.t 36], none⟩])
       (.cond (.t 37)
        (.ops [
          ⟨(some 38), (.p .mov), [.t 5], none⟩,
          ⟨(some 39), (.p .mov), [.t 8], none⟩,
          ⟨(some 40), (.h (.bslF 1 1 [(.int .i64 0)] [(0, 1)])), [.t 39], none⟩,
          ⟨(some 41), (.h (.app 1 8 [(.int .i64 0)])), [.t 38, .t 40], none⟩,
          ⟨(some 5), (.p .mov), [.t 41], none⟩])
        .skip))))
    (.ops [
      ⟨(some 42), (.p (.bin .add .ifc)), [.t 30, .c (.int .i64 1)], none⟩,
      ⟨(some 30), (.p .mov), [.t 42], none⟩]))))
def train_Join_L0 : CCode := .bloop 0 [5, 28, 29, 30] [5] train_Join_B0
def train_Join_C : CCode :=
 (.seq
  (.ops [
    ⟨(some 4), (.p .mov), [.c .nils], none⟩])
  (.seq
   (.ops [
     ⟨(some 9), (.p .mov), [.t 0], none⟩,
     ⟨(some 10), .call, [.c (.fn (.func 62) [] []), .t 9], none⟩,
     ⟨(some 5), (.p .mov), [.t 10], none⟩])
   (.seq
    (.seq
     (.ops [
       ⟨(some 11), (.p .mov), [.t 0], none⟩,
       ⟨(some 12), (.p .len), [.t 11], none⟩,
       ⟨(some 13), (.p (.bin .gtr .ifc)), [.t 12, .c (.int .i64 0)], none⟩])
     (.cond (.t 13)
      (.seq
       (.ops [
         ⟨(some 14), (.p .mov), [.t 1], none⟩,
         ⟨(some 15), (.p .mov), [.t 0], none⟩,
         ⟨(some 16), (.p .mov), [.t 0], none⟩,
         ⟨(some 17), (.p .len), [.t 16], none⟩,
         ⟨(some 18), (.p (.bin .sub .ifc)), [.t 17, .c (.int .i64 1)], none⟩,
         ⟨(some 19), (.p (.iaddr 1)), [.t 15, .t 18], none⟩,
         ⟨(some 20), (.h (.load false 1)), [.t 19], none⟩,
         ⟨(some 21), .call, [.c (.fn (.func 100) [] []), .t 14, .t 20], none⟩,
         ⟨(some 6), (.p .mov), [.t 21], none⟩])
       (.seq
        (.ops [
          ⟨(some 22), (.p .mov), [.t 6], none⟩,
          ⟨(some 23), (.p (.bin .geq .ifc)), [.t 22, .c (.int .i64 0)], none⟩])
        (.cond (.t 23)
         (.ops [
           ⟨(some 24), (.p .mov), [.t 1], none⟩,
           ⟨(some 25), (.p .mov), [.t 6], none⟩,
           ⟨(some 26), (.p (.bin .add .ifc)), [.t 25, .c (.int .i64 1)], none⟩,
           ⟨(some 27), (.p (.slc 1 true false)), [.t 24, .t 26], none⟩,
           ⟨(some 1), (.p .mov), [.t 27], none⟩])
         .skip)))
      .skip))
    (.seq
     (.seq
      (.ops [
        ⟨(some 28), (.p .mov), [.t 1], none⟩,
        ⟨(some 29), (.p .len), [.t 28], none⟩,
        ⟨(some 30), (.p .mov), [.c (.int .i64 0)], none⟩])
      train_Join_L0)
     (.seq
      (.ops [
        ⟨(some 43), (.p .mov), [.t 5], none⟩,
        ⟨(some 4), (.p .mov), [.t 43], none⟩])
      (.ret [4]))))))
def train_Join_I : FInfo := ⟨(.fz false), 2, train_Join_C, [.tmp 4]⟩
def train_Join_A : Ann := ⟨[], [], [(0, [5, 28, 29, 30], [5])], [(1, [5, 28, 29, 30])], []⟩
abbrev n_train_Join : Nat := 54

/-! ### balise/baliseref04.Make -/
def r04_Make_B1 : CCode :=
 (.seq
  (.seq
   (.ops [
     ⟨(some 67), (.p .mov), [.t 9], none⟩,
     ⟨(some 68), (.p .mov), [.t 8], none⟩,
     ⟨(some 69), (.p (.bin .leq .ifc)), [.t 67, .t 68], none⟩])
   (.cond (.t 69)
    .skip
    (.exit 1)))
  (.seq
   (.block 2 (some [1, 2, 3, 6, 7, 8, 9])
    (.ops [
      ⟨(some 72), (.p (.faddr 0)), [.t 6], none⟩,
      ⟨(some 73), (.h (.load false 1)), [.t 72], none⟩,
      ⟨(some 74), (.p .mov), [.t 3], none⟩,
      ⟨(some 75), (.p .mov), [.t 9], none⟩,
      ⟨(some 76), (.p (.bin .mul .ifc)), [.t 74, .t 75], none⟩,
      ⟨(some 77), (.p (.toFloat .f64)), [.t 76], none⟩,
      ⟨(some 78), (.p .cplx), [.t 77, .c (.float .f64 0)], none⟩,
      ⟨(some 79), (.h (.bslF 1 1 [(.cplx .f64 0 0)] [(0, 1)])), [.t 78], none⟩,
      ⟨(some 80), (.h (.app 1 16 [(.cplx .f64 0 0)])), [.t 73, .t 79], none⟩,
      ⟨(some 81), (.p (.faddr 0)), [.t 6], none⟩,
      ⟨none, (.h (.store 1)), [.t 81, .t 80], none⟩]))
   (.ops [
     ⟨(some 70), (.p .mov), [.t 9], none⟩,
     ⟨(some 71), (.p (.bin .add .ifc)), [.t 70, .c (.int .i64 1)], none⟩,
     ⟨(some 9), (.p .mov), [.t 71], none⟩])))
def r04_Make_L1 : CCode := .bloop 1 [1, 2, 3, 6, 7, 8, 9] [1, 2, 3, 6, 7, 8] r04_Make_B1

def r04_Make_B3 : CCode :=
 (.seq
  (.seq
   (.ops [
     ⟨(some 82), (.p .mov), [.t 10], none⟩,
     ⟨(some 83), (.p .mov), [.t 8], none⟩,
     ⟨(some 84), (.p (.bin .lss .ifc)), [.t 82, .t 83], none⟩])
   (.cond (.t 84)
    .skip
    (.exit 3)))
  (.seq
   (.block 4 (some [1, 2, 3, 6, 7, 8, 10])
    (.ops [
      ⟨(some 87), (.p .mov), [.t 7], none⟩,
      ⟨(some 88), (.p .mov), [.t 10], none⟩,
      ⟨(some 89), (.p .mov), [.t 10], none⟩,
      ⟨(some 90), (.p (.bin .add .ifc)), [.t 89, .c (.int .i64 1)], none⟩,
      ⟨(some 91), (.p (.bld [(.int .i64 0), (.int .i64 0)] [(0, 1), (1, 1)])), [.t 88, .t 90], none⟩,
      ⟨(some 92), (.h (.bslF 2 1 [(.int .i64 0), (.int .i64 0)] [(0, 2)])), [.t 91], none⟩,
      ⟨(some 93), (.h (.app 2 16 [(.int .i64 0), (.int .i64 0)])), [.t 87, .t 92], none⟩,
      ⟨(some 7), (.p .mov), [.t 93], none⟩]))
   (.ops [
     ⟨(some 85), (.p .mov), [.t 10], none⟩,
     ⟨(some 86), (.p (.bin .add .ifc)), [.t 85, .c (.int .i64 1)], none⟩,
     ⟨(some 10), (.p .mov), [.t 86], none⟩])))
def r04_Make_L3 : CCode := .bloop 3 [1, 2, 3, 6, 7, 8, 10] [1, 2, 3, 6, 7] r04_Make_B3

def r04_Make_B5 : CCode :=
 (.seq
  (.seq
   (.ops [
     ⟨(some 150), (.p .mov), [.t 11], none⟩,
     ⟨(some 151), (.p .mov), [.t 7], none⟩,
     ⟨(some 152), (.p .len), [.t 151], none⟩,
     ⟨(some 153), (.p (.bin .lss .ifc)), [.t 150, .t 152], none⟩])
   (.cond (.t 153)
    .skip
    (.exit 5)))
  (.seq
   (.block 6 (some [1, 2, 3, 6, 7, 11])
    (.ops [
      ⟨(some 156), (.p (.faddr 1)), [.t 6], none⟩,
      ⟨(some 157), (.h (.load false 1)), [.t 156], none⟩,
      ⟨(some 158), (.p .mov), [.t 3], none⟩,
      ⟨(some 159), (.p (.bin .mul .ifc)), [.c (.int .i64 2), .t 158], none⟩,
      ⟨(some 160), (.p .mov), [.t 11], none⟩,
      ⟨(some 161), (.p (.bin .rem .ifc)), [.t 160, .c (.int .i64 3)], none⟩,
      ⟨(some 162), (.p (.bin .add .ifc)), [.t 159, .t 161], none⟩,
      ⟨(some 163), (.p .mov), [.t 7], none⟩,
      ⟨(some 164), (.p .mov), [.t 11], none⟩,
      ⟨(some 165), (.p (.iaddr 2)), [.t 163, .t 164], none⟩,
      ⟨(some 166), (.p (.iaddrA 2 1)), [.t 165, .c (.int .i64 0)], none⟩,
      ⟨(some 167), (.h (.load false 1)), [.t 166], none⟩,
      ⟨(some 168), (.p .mov), [.t 7], none⟩,
      ⟨(some 169), (.p .mov), [.t 11], none⟩,
      ⟨(some 170), (.p (.iaddr 2)), [.t 168, .t 169], none⟩,
      ⟨(some 171), (.p (.iaddrA 2 1)), [.t 170, .c (.int .i64 1)], none⟩,
      ⟨(some 172), (.h (.load false 1)), [.t 171], none⟩,
      ⟨(some 173), (.p (.bld [(.int .i64 0), (.int .i64 0), (.int .i64 0)] [(0, 1), (1, 1), (2, 1)])), [.t 162, .t 167, .t 172], none⟩,
      ⟨(some 174), (.h (.bslF 3 1 [(.int .i64 0), (.int .i64 0), (.int .i64 0)] [(0, 3)])), [.t 173], none⟩,
      ⟨(some 175), (.h (.app 3 24 [(.int .i64 0), (.int .i64 0), (.int .i64 0)])), [.t 157, .t 174], none⟩,
      ⟨(some 176), (.p (.faddr 1)), [.t 6], none⟩,
      ⟨none, (.h (.store 1)), [.t 176, .t 175], none⟩]))
   (.ops [
     ⟨(some 154), (.p .mov), [.t 11], none⟩,
     ⟨(some 155), (.p (.bin .add .ifc)), [.t 154, .c (.int .i64 1)], none⟩,
     ⟨(some 11), (.p .mov), [.t 155], none⟩])))
def r04_Make_L5 : CCode := .bloop 5 [1, 2, 3, 6, 7, 11] [1, 2, 3, 6, 7] r04_Make_B5

def r04_Make_B7 : CCode :=
 (.seq
  (.seq
   (.ops [
     ⟨(some 177), (.p .mov), [.t 12], none⟩,
     ⟨(some 178), (.p .mov), [.t 7], none⟩,
     ⟨(some 179), (.p .len), [.t 178], none⟩,
     ⟨(some 180), (.p (.bin .lss .ifc)), [.t 177, .t 179], none⟩])
   (.cond (.t 180)
    .skip
    (.exit 7)))
  (.seq
   (.block 8 (some [1, 2, 3, 6, 7, 12])
    (.seq
     (.ops [
       ⟨(some 183), (.p .mov), [.t 12], none⟩,
       ⟨(some 184), (.p (.bin .gtr .ifc)), [.t 183, .c (.int .i64 0)], none⟩,
       ⟨(some 185), (.p .mov), [.t 184], none⟩,
       ⟨(some 186), (.p (.faddr 7)), [.t 1], (some (185, true))⟩,
       ⟨(some 187), (.h (.load false 1)), [.t 186], (some (185, true))⟩,
       ⟨(some 188), (.p .mov), [.t 12], (some (185, true))⟩,
       ⟨(some 189), (.p (.bin .rem .ifc)), [.t 188, .c (.int .i64 8)], (some (185, true))⟩,
       ⟨(some 190), (.p (.bin .shr .ifc)), [.t 187, .t 189], (some (185, true))⟩,
       ⟨(some 191), (.p (.bin .rem .ifc)), [.t 190, .c (.int .u8 2)], (some (185, true))⟩,
       ⟨(some 192), (.p (.bin .eql .int)), [.t 191, .c (.int .u8 1)], (some (185, true))⟩,
       ⟨(some 193), (.p .pick), [.t 185, .t 192, .c (.bool false)], none⟩])
     (.cond (.t 193)
      (.ops [
        ⟨(some 194), (.p (.faddr 2)), [.t 6], none⟩,
        ⟨(some 195), (.hl 6 (.load false 1)), [.t 194], none⟩,
        ⟨(some 196), (.p (.faddr 2)), [.t 6], none⟩,
        ⟨(some 197), (.hl 6 (.load false 1)), [.t 196], none⟩,
        ⟨(some 198), (.p .len), [.t 197], none⟩,
        ⟨(some 199), (.p (.bin .sub .ifc)), [.t 198, .c (.int .i64 1)], none⟩,
        ⟨(some 200), (.p (.faddr 2)), [.t 6], none⟩,
        ⟨(some 201), (.hl 6 (.load false 1)), [.t 200], none⟩,
        ⟨(some 202), (.p (.faddr 2)), [.t 6], none⟩,
        ⟨(some 203), (.hl 6 (.load false 1)), [.t 202], none⟩,
        ⟨(some 204), (.p .len), [.t 203], none⟩,
        ⟨(some 205), (.p (.bin .sub .ifc)), [.t 204, .c (.int .i64 1)], none⟩,
        ⟨(some 206), (.p (.iaddr 1)), [.t 201, .t 205], none⟩,
        ⟨(some 207), (.hb (.load false 1)), [.t 206], none⟩,
        ⟨(some 208), (.p .mov), [.t 12], none⟩,
        ⟨(some 209), (.h (.bslF 1 1 [(.int .i64 0)] [(0, 1)])), [.t 208], none⟩,
        ⟨(some 210), (.hb (.app 1 8 [(.int .i64 0)])), [.t 207, .t 209], none⟩,
        ⟨(some 211), (.p (.iaddr 1)), [.t 195, .t 199], none⟩,
        ⟨none, (.hb (.store 1)), [.t 211, .t 210], none⟩])
      (.ops [
        ⟨(some 212), (.p (.faddr 2)), [.t 6], none⟩,
        ⟨(some 213), (.h (.load false 1)), [.t 212], none⟩,
        ⟨(some 214), (.p .mov), [.t 12], none⟩,
        ⟨(some 215), (.h (.bslO 1 1 [(.int .i64 0)] [(0, 1)])), [.t 214], none⟩,
        ⟨(some 216), (.h (.bslO 1 1 [.nils] [(0, 1)])), [.t 215], none⟩,
        ⟨(some 217), (.h (.app 1 24 [.nils])), [.t 213, .t 216], none⟩,
        ⟨(some 218), (.p (.faddr 2)), [.t 6], none⟩,
        ⟨none, (.h (.store 1)), [.t 218, .t 217], none⟩]))))
   (.ops [
     ⟨(some 181), (.p .mov), [.t 12], none⟩,
     ⟨(some 182), (.p (.bin .add .ifc)), [.t 181, .c (.int .i64 1)], none⟩,
     ⟨(some 12), (.p .mov), [.t 182], none⟩])))
def r04_Make_L7 : CCode := .bloop 7 [1, 2, 3, 6, 7, 12] [1, 2, 3, 6] r04_Make_B7
def r04_Make_C : CCode :=
 (.seq
  (.ops [
    ⟨(some 1), (.h (.box 1)), [.t 0], none⟩,
    ⟨(some 2), (.h (.newl 2 [.nils, .nils, .nils, .nils, .nils, (.int .i64 0), (.int .i64 0), (.int .i64 0), (.int .i64 0), (.int .i64 0)])), [], none⟩])
  (.seq
   (.ops [
     ⟨(some 13), (.p (.faddr 1)), [.t 1], none⟩,
     ⟨(some 14), (.h (.load false 1)), [.t 13], none⟩,
     ⟨(some 15), (.p (.bin .rem .ifc)), [.t 14, .c (.int .u8 20)], none⟩,
     ⟨(some 16), (.p (.toInt .i64)), [.t 15], none⟩,
     ⟨(some 17), (.p (.bin .add .ifc)), [.c (.int .i64 1), .t 16], none⟩,
     ⟨(some 18), (.p (.bin .mul .ifc)), [.c (.int .i64 10), .t 17], none⟩,
     ⟨(some 3), (.p .mov), [.t 18], none⟩])
   (.seq
    (.ops [
      ⟨(some 19), (.p .mov), [.t 3], none⟩,
      ⟨(some 20), (.p (.toFloat .f64)), [.t 19], none⟩,
      ⟨(some 21), (.p .cplx), [.t 20, .c (.float .f64 0)], none⟩,
      ⟨(some 4), (.p .mov), [.t 21], none⟩])
    (.seq
     (.ops [
       ⟨(some 22), (.p .mov), [.t 3], none⟩,
       ⟨(some 23), (.p (.toFloat .f64)), [.t 22], none⟩,
       ⟨(some 24), (.p .cplx), [.c (.float .f64 0), .t 23], none⟩,
       ⟨(some 5), (.p .mov), [.t 24], none⟩])
     (.seq
      (.ops [
        ⟨(some 6), (.h (.newl 6 [.nils, .nils, .nils, .nils, .nils, (.int .i64 0), (.int .i64 0), (.int .i64 0), (.int .i64 0), (.int .i64 0)])), [], none⟩])
      (.seq
       (.ops [
         ⟨(some 7), (.p .mov), [.c .nils], none⟩])
       (.seq
        (.seq
         (.ops [
           ⟨(some 25), (.p (.faddr 0)), [.t 1], none⟩,
           ⟨(some 26), (.h (.load false 1)), [.t 25], none⟩,
           ⟨(some 27), (.p (.bin .rem .ifc)), [.t 26, .c (.int .u8 4)], none⟩])
         (.block 0 (some [1, 2, 3, 6, 7])
          (.seq
           (.ops [
             ⟨(some 60), (.p (.bin .eql .int)), [.t 27, .c (.int .u8 0)], none⟩,
             ⟨(some 59), (.p .mov), [.t 60], none⟩])
           (.cond (.t 59)
            (.seq
             (.ops [
               ⟨(some 61), (.p (.faddr 0)), [.t 1], none⟩,
               ⟨(some 62), (.h (.load false 1)), [.t 61], none⟩,
               ⟨(some 63), (.p (.bin .quo .ifc)), [.t 62, .c (.int .u8 4)], none⟩,
               ⟨(some 64), (.p (.bin .rem .ifc)), [.t 63, .c (.int .u8 6)], none⟩,
               ⟨(some 65), (.p (.toInt .i64)), [.t 64], none⟩,
               ⟨(some 66), (.p (.bin .add .ifc)), [.c (.int .i64 3), .t 65], none⟩,
               ⟨(some 8), (.p .mov), [.t 66], none⟩])
             (.seq
              (.seq
               (.ops [
                 ⟨(some 9), (.p .mov), [.c (.int .i64 0)], none⟩])
               r04_Make_L1)
              (.seq
               (.ops [
                 ⟨(some 10), (.p .mov), [.c (.int .i64 0)], none⟩])
               r04_Make_L3)))
            (.seq
             (.ops [
               ⟨(some 95), (.p (.bin .eql .int)), [.t 27, .c (.int .u8 1)], none⟩,
               ⟨(some 94), (.p .mov), [.t 95], none⟩])
             (.cond (.t 94)
              (.seq
               (.ops [
                 ⟨(some 96), (.p .mov), [.t 4], none⟩,
                 ⟨(some 97), (.p .mov), [.t 4], none⟩,
                 ⟨(some 98), (.p (.bin .mul .ifc)), [.c (.cplx .f64 4611686018427387904 0), .t 97], none⟩,
                 ⟨(some 99), (.p .mov), [.t 5], none⟩,
                 ⟨(some 100), (.p (.bin .add .ifc)), [.t 98, .t 99], none⟩,
                 ⟨(some 101), (.p .mov), [.t 4], none⟩,
                 ⟨(some 102), (.p (.bin .mul .ifc)), [.c (.cplx .f64 4611686018427387904 0), .t 101], none⟩,
                 ⟨(some 103), (.p .mov), [.t 5], none⟩,
                 ⟨(some 104), (.p (.bin .sub .ifc)), [.t 102, .t 103], none⟩,
                 ⟨(some 105), (.h (.bslF 1 4 [(.cplx .f64 0 0)] [(0, 1), (1, 1), (2, 1), (3, 1)])), [.c (.cplx .f64 0 0), .t 96, .t 100, .t 104], none⟩,
                 ⟨(some 106), (.p (.faddr 0)), [.t 6], none⟩,
                 ⟨none, (.h (.store 1)), [.t 106, .t 105], none⟩])
               (.seq
                (.ops [
                  ⟨(some 107), (.p (.bld [(.int .i64 0), (.int .i64 0)] [(0, 1), (1, 1)])), [.c (.int .i64 0), .c (.int .i64 1)], none⟩,
                  ⟨(some 108), (.p (.bld [(.int .i64 0), (.int .i64 0)] [(0, 1), (1, 1)])), [.c (.int .i64 1), .c (.int .i64 2)], none⟩,
                  ⟨(some 109), (.p (.bld [(.int .i64 0), (.int .i64 0)] [(0, 1), (1, 1)])), [.c (.int .i64 3), .c (.int .i64 1)], none⟩,
                  ⟨(some 110), (.h (.bslO 2 3 [(.int .i64 0), (.int .i64 0)] [(0, 2), (2, 2), (4, 2)])), [.t 107, .t 108, .t 109], none⟩,
                  ⟨(some 7), (.p .mov), [.t 110], none⟩])
                (.ops [
                  ⟨(some 111), (.p (.bld [(.int .i64 0), (.int .i64 0), (.int .i64 0), (.int .i64 0)] [(0, 1), (1, 1), (2, 1), (3, 1)])), [.c (.int .i64 1), .c (.int .i64 0), .c (.int .i64 1), .c (.int .i64 2)], none⟩,
                  ⟨(some 112), (.h (.bslF 4 1 [(.int .i64 0), (.int .i64 0), (.int .i64 0), (.int .i64 0)] [(0, 4)])), [.t 111], none⟩,
                  ⟨(some 113), (.p (.faddr 3)), [.t 6], none⟩,
                  ⟨none, (.h (.store 1)), [.t 113, .t 112], none⟩])))
              (.seq
               (.ops [
                 ⟨(some 115), (.p (.bin .eql .int)), [.t 27, .c (.int .u8 2)], none⟩,
                 ⟨(some 114), (.p .mov), [.t 115], none⟩])
               (.cond (.t 114)
                (.seq
                 (.ops [
                   ⟨(some 116), (.p .mov), [.t 4], none⟩,
                   ⟨(some 117), (.p .mov), [.t 4], none⟩,
                   ⟨(some 118), (.p (.bin .mul .ifc)), [.c (.cplx .f64 4611686018427387904 0), .t 117], none⟩,
                   ⟨(some 119), (.p .mov), [.t 4], none⟩,
                   ⟨(some 120), (.p (.bin .mul .ifc)), [.c (.cplx .f64 4613937818241073152 0), .t 119], none⟩,
                   ⟨(some 121), (.p .mov), [.t 5], none⟩,
                   ⟨(some 122), (.p (.bin .quo .ifc)), [.t 121, .c (.cplx .f64 4611686018427387904 0)], none⟩,
                   ⟨(some 123), (.p (.bin .add .ifc)), [.t 120, .t 122], none⟩,
                   ⟨(some 124), (.p .mov), [.t 4], none⟩,
                   ⟨(some 125), (.p (.bin .mul .ifc)), [.c (.cplx .f64 4613937818241073152 0), .t 124], none⟩,
                   ⟨(some 126), (.p .mov), [.t 5], none⟩,
                   ⟨(some 127), (.p (.bin .quo .ifc)), [.t 126, .c (.cplx .f64 4611686018427387904 0)], none⟩,
                   ⟨(some 128), (.p (.bin .sub .ifc)), [.t 125, .t 127], none⟩,
                   ⟨(some 129), (.p .mov), [.t 4], none⟩,
                   ⟨(some 130), (.p (.bin .mul .ifc)), [.c (.cplx .f64 4616189618054758400 0), .t 129], none⟩,
                   ⟨(some 131), (.p .mov), [.t 4], none⟩,
                   ⟨(some 132), (.p (.bin .mul .ifc)), [.c (.cplx .f64 4617315517961601024 0), .t 131], none⟩,
                   ⟨(some 133), (.p .mov), [.t 4], none⟩,
                   ⟨(some 134), (.p (.bin .mul .ifc)), [.c (.cplx .f64 4618441417868443648 0), .t 133], none⟩,
                   ⟨(some 135), (.h (.bslF 1 8 [(.cplx .f64 0 0)] [(0, 1), (1, 1), (2, 1), (3, 1), (4, 1), (5, 1), (6, 1), (7, 1)])), [.c (.cplx .f64 0 0), .t 116, .t 118, .t 123, .t 128, .t 130, .t 132, .t 134], none⟩,
                   ⟨(some 136), (.p (.faddr 0)), [.t 6], none⟩,
                   ⟨none, (.h (.store 1)), [.t 136, .t 135], none⟩])
                 (.seq
                  (.ops [
                    ⟨(some 137), (.p (.bld [(.int .i64 0), (.int .i64 0)] [(0, 1), (1, 1)])), [.c (.int .i64 0), .c (.int .i64 1)], none⟩,
                    ⟨(some 138), (.p (.bld [(.int .i64 0), (.int .i64 0)] [(0, 1), (1, 1)])), [.c (.int .i64 1), .c (.int .i64 2)], none⟩,
                    ⟨(some 139), (.p (.bld [(.int .i64 0), (.int .i64 0)] [(0, 1), (1, 1)])), [.c (.int .i64 2), .c (.int .i64 3)], none⟩,
                    ⟨(some 140), (.p (.bld [(.int .i64 0), (.int .i64 0)] [(0, 1), (1, 1)])), [.c (.int .i64 2), .c (.int .i64 4)], none⟩,
                    ⟨(some 141), (.p (.bld [(.int .i64 0), (.int .i64 0)] [(0, 1), (1, 1)])), [.c (.int .i64 5), .c (.int .i64 3)], none⟩,
                    ⟨(some 142), (.p (.bld [(.int .i64 0), (.int .i64 0)] [(0, 1), (1, 1)])), [.c (.int .i64 4), .c (.int .i64 5)], none⟩,
                    ⟨(some 143), (.p (.bld [(.int .i64 0), (.int .i64 0)] [(0, 1), (1, 1)])), [.c (.int .i64 5), .c (.int .i64 6)], none⟩,
                    ⟨(some 144), (.p (.bld [(.int .i64 0), (.int .i64 0)] [(0, 1), (1, 1)])), [.c (.int .i64 6), .c (.int .i64 7)], none⟩,
                    ⟨(some 145), (.h (.bslO 2 8 [(.int .i64 0), (.int .i64 0)] [(0, 2), (2, 2), (4, 2), (6, 2), (8, 2), (10, 2), (12, 2), (14, 2)])), [.t 137, .t 138, .t 139, .t 140, .t 141, .t 142, .t 143, .t 144], none⟩,
                    ⟨(some 7), (.p .mov), [.t 145], none⟩])
                  (.ops [
                    ⟨(some 146), (.p (.bld [(.int .i64 0), (.int .i64 0), (.int .i64 0), (.int .i64 0)] [(0, 1), (1, 1), (2, 1), (3, 1)])), [.c (.int .i64 2), .c (.int .i64 1), .c (.int .i64 2), .c (.int .i64 3)], none⟩,
                    ⟨(some 147), (.p (.bld [(.int .i64 0), (.int .i64 0), (.int .i64 0), (.int .i64 0)] [(0, 1), (1, 1), (2, 1), (3, 1)])), [.c (.int .i64 5), .c (.int .i64 6), .c (.int .i64 4), .c (.int .i64 5)], none⟩,
                    ⟨(some 148), (.h (.bslF 4 2 [(.int .i64 0), (.int .i64 0), (.int .i64 0), (.int .i64 0)] [(0, 4), (4, 4)])), [.t 146, .t 147], none⟩,
                    ⟨(some 149), (.p (.faddr 3)), [.t 6], none⟩,
                    ⟨none, (.h (.store 1)), [.t 149, .t 148], none⟩])))
                (.seq
                 (.ops [
                   ⟨(some 28), (.p .mov), [.t 4], none⟩,
                   ⟨(some 29), (.p .mov), [.t 4], none⟩,
                   ⟨(some 30), (.p (.bin .mul .ifc)), [.c (.cplx .f64 4611686018427387904 0), .t 29], none⟩,
                   ⟨(some 31), (.p .mov), [.t 4], none⟩,
                   ⟨(some 32), (.p (.bin .mul .ifc)), [.c (.cplx .f64 4613937818241073152 0), .t 31], none⟩,
                   ⟨(some 33), (.p .mov), [.t 5], none⟩,
                   ⟨(some 34), (.p (.bin .add .ifc)), [.t 32, .t 33], none⟩,
                   ⟨(some 35), (.p .mov), [.t 4], none⟩,
                   ⟨(some 36), (.p (.bin .mul .ifc)), [.c (.cplx .f64 4613937818241073152 0), .t 35], none⟩,
                   ⟨(some 37), (.p .mov), [.t 5], none⟩,
                   ⟨(some 38), (.p (.bin .sub .ifc)), [.t 36, .t 37], none⟩,
                   ⟨(some 39), (.p .mov), [.t 4], none⟩,
                   ⟨(some 40), (.p (.bin .mul .ifc)), [.c (.cplx .f64 4616189618054758400 0), .t 39], none⟩,
                   ⟨(some 41), (.p .mov), [.t 5], none⟩,
                   ⟨(some 42), (.p (.bin .add .ifc)), [.t 40, .t 41], none⟩,
                   ⟨(some 43), (.p .mov), [.t 4], none⟩,
                   ⟨(some 44), (.p (.bin .mul .ifc)), [.c (.cplx .f64 4616189618054758400 0), .t 43], none⟩,
                   ⟨(some 45), (.p .mov), [.t 5], none⟩,
                   ⟨(some 46), (.p (.bin .sub .ifc)), [.t 44, .t 45], none⟩,
                   ⟨(some 47), (.h (.bslF 1 7 [(.cplx .f64 0 0)] [(0, 1), (1, 1), (2, 1), (3, 1), (4, 1), (5, 1), (6, 1)])), [.c (.cplx .f64 0 0), .t 28, .t 30, .t 34, .t 38, .t 42, .t 46], none⟩,
                   ⟨(some 48), (.p (.faddr 0)), [.t 6], none⟩,
                   ⟨none, (.h (.store 1)), [.t 48, .t 47], none⟩])
                 (.seq
                  (.ops [
                    ⟨(some 49), (.p (.bld [(.int .i64 0), (.int .i64 0)] [(0, 1), (1, 1)])), [.c (.int .i64 0), .c (.int .i64 1)], none⟩,
                    ⟨(some 50), (.p (.bld [(.int .i64 0), (.int .i64 0)] [(0, 1), (1, 1)])), [.c (.int .i64 2), .c (.int .i64 1)], none⟩,
                    ⟨(some 51), (.p (.bld [(.int .i64 0), (.int .i64 0)] [(0, 1), (1, 1)])), [.c (.int .i64 2), .c (.int .i64 3)], none⟩,
                    ⟨(some 52), (.p (.bld [(.int .i64 0), (.int .i64 0)] [(0, 1), (1, 1)])), [.c (.int .i64 2), .c (.int .i64 4)], none⟩,
                    ⟨(some 53), (.p (.bld [(.int .i64 0), (.int .i64 0)] [(0, 1), (1, 1)])), [.c (.int .i64 3), .c (.int .i64 5)], none⟩,
                    ⟨(some 54), (.p (.bld [(.int .i64 0), (.int .i64 0)] [(0, 1), (1, 1)])), [.c (.int .i64 4), .c (.int .i64 6)], none⟩,
                    ⟨(some 55), (.h (.bslO 2 6 [(.int .i64 0), (.int .i64 0)] [(0, 2), (2, 2), (4, 2), (6, 2), (8, 2), (10, 2)])), [.t 49, .t 50, .t 51, .t 52, .t 53, .t 54], none⟩,
                    ⟨(some 7), (.p .mov), [.t 55], none⟩])
                  (.ops [
                    ⟨(some 56), (.p (.bld [(.int .i64 0), (.int .i64 0), (.int .i64 0), (.int .i64 0)] [(0, 1), (1, 1), (2, 1), (3, 1)])), [.c (.int .i64 2), .c (.int .i64 1), .c (.int .i64 3), .c (.int .i64 2)], none⟩,
                    ⟨(some 57), (.h (.bslF 4 1 [(.int .i64 0), (.int .i64 0), (.int .i64 0), (.int .i64 0)] [(0, 4)])), [.t 56], none⟩,
                    ⟨(some 58), (.p (.faddr 3)), [.t 6], none⟩,
                    ⟨none, (.h (.store 1)), [.t 58, .t 57], none⟩])))))))))))
        (.seq
         (.seq
          (.ops [
            ⟨(some 11), (.p .mov), [.c (.int .i64 0)], none⟩])
          r04_Make_L5)
         (.seq
          (.seq
           (.ops [
             ⟨(some 12), (.p .mov), [.c (.int .i64 0)], none⟩])
           r04_Make_L7)
          (.seq
           (.ops [
             ⟨(some 219), (.p (.faddr 2)), [.t 1], none⟩,
             ⟨(some 220), (.h (.load false 1)), [.t 219], none⟩,
             ⟨(some 221), (.p (.toInt .i64)), [.t 220], none⟩,
             ⟨(some 222), (.p .mov), [.t 3], none⟩,
             ⟨(some 223), (.p (.bin .mul .ifc)), [.c (.int .i64 2), .t 222], none⟩,
             ⟨(some 224), (.p (.bin .rem .ifc)), [.t 221, .t 223], none⟩,
             ⟨(some 225), (.p (.bin .add .ifc)), [.c (.int .i64 1), .t 224], none⟩,
             ⟨(some 226), (.p (.faddr 5)), [.t 6], none⟩,
             ⟨none, (.h (.store 1)), [.t 226, .t 225], none⟩])
           (.seq
            (.ops [
              ⟨(some 227), (.p (.faddr 3)), [.t 1], none⟩,
              ⟨(some 228), (.hl 1 (.load false 1)), [.t 227], none⟩,
              ⟨(some 229), (.p (.bin .rem .ifc)), [.t 228, .c (.int .u16 1000)], none⟩,
              ⟨(some 230), (.p (.toInt .i64)), [.t 229], none⟩,
              ⟨(some 231), (.p (.bin .add .ifc)), [.c (.int .i64 1), .t 230], none⟩,
              ⟨(some 232), (.p (.faddr 4)), [.t 1], none⟩,
              ⟨(some 233), (.hl 1 (.load false 1)), [.t 232], none⟩,
              ⟨(some 234), (.p (.bin .rem .ifc)), [.t 233, .c (.int .u16 1000)], none⟩,
              ⟨(some 235), (.p (.toInt .i64)), [.t 234], none⟩,
              ⟨(some 236), (.p (.bin .add .ifc)), [.c (.int .i64 1), .t 235], none⟩,
              ⟨(some 237), (.p (.faddr 5)), [.t 1], none⟩,
              ⟨(some 238), (.hl 1 (.load false 1)), [.t 237], none⟩,
              ⟨(some 239), (.p (.toInt .i64)), [.t 238], none⟩,
              ⟨(some 240), (.p (.bin .add .ifc)), [.c (.int .i64 1), .t 239], none⟩,
              ⟨(some 241), (.p (.faddr 6)), [.t 1], none⟩,
              ⟨(some 242), (.hl 1 (.load false 1)), [.t 241], none⟩,
              ⟨(some 243), (.p (.bin .rem .ifc)), [.t 242, .c (.int .u8 4)], none⟩,
              ⟨(some 244), (.p (.toInt .i64)), [.t 243], none⟩,
              ⟨(some 245), (.p (.faddr 6)), [.t 6], none⟩,
              ⟨none, (.hl 6 (.store 1)), [.t 245, .t 231], none⟩,
              ⟨(some 246), (.p (.faddr 7)), [.t 6], none⟩,
              ⟨none, (.hl 6 (.store 1)), [.t 246, .t 236], none⟩,
              ⟨(some 247), (.p (.faddr 8)), [.t 6], none⟩,
              ⟨none, (.hl 6 (.store 1)), [.t 247, .t 240], none⟩,
              ⟨(some 248), (.p (.faddr 9)), [.t 6], none⟩,
              ⟨none, (.hl 6 (.store 1)), [.t 248, .t 244], none⟩])
            (.seq
             (.ops [
               ⟨(some 249), (.h (.load true 10)), [.t 6], none⟩,
               ⟨none, (.h (.store 10)), [.t 2, .t 249], none⟩])
             (.ret [2])))))))))))))
def r04_Make_I : FInfo := ⟨(.fz true), 1, r04_Make_C, [.cell 2 true 10]⟩
def r04_Make_A : Ann := ⟨[], [55, 110, 145, 215, 216], [(1, [1, 2, 3, 6, 7, 8, 9], [1, 2, 3, 6, 7, 8]), (3, [1, 2, 3, 6, 7, 8, 10], [1, 2, 3, 6, 7]), (5, [1, 2, 3, 6, 7, 11], [1, 2, 3, 6, 7]), (7, [1, 2, 3, 6, 7, 12], [1, 2, 3, 6])], [(0, [1, 2, 3, 6, 7]), (2, [1, 2, 3, 6, 7, 8, 9]), (4, [1, 2, 3, 6, 7, 8, 10]), (6, [1, 2, 3, 6, 7, 11]), (8, [1, 2, 3, 6, 7, 12])], [1, 2, 6]⟩
abbrev n_r04_Make : Nat := 55

/-! ### balise/baliseref05.Len -/
def r05_Len_C : CCode :=
 (.seq
  (.ops [
    ⟨(some 2), (.h (.box 2)), [.t 0], none⟩,
    ⟨(some 4), (.p .mov), [.c (.int .i64 0)], none⟩])
  (.seq
   (.seq
    (.ops [
      ⟨(some 5), (.p .mov), [.t 1], none⟩,
      ⟨(some 6), (.p (.bin .lss .ifc)), [.t 5, .c (.int .i64 0)], none⟩,
      ⟨(some 7), (.p .mov), [.t 6], none⟩,
      ⟨(some 8), (.p .mov), [.t 1], (some (7, false))⟩,
      ⟨(some 9), (.p (.faddr 1)), [.t 2], (some (7, false))⟩,
      ⟨(some 10), (.h (.load false 1)), [.t 9], (some (7, false))⟩,
      ⟨(some 11), (.p .len), [.t 10], (some (7, false))⟩,
      ⟨(some 12), (.p (.bin .geq .ifc)), [.t 8, .t 11], (some (7, false))⟩,
      ⟨(some 13), (.p .pick), [.t 7, .c (.bool true), .t 12], none⟩])
    (.cond (.t 13)
     (.seq
      (.ops [
        ⟨(some 4), (.p .mov), [.c (.int .i64 0)], none⟩])
      (.ret [4]))
     .skip))
   (.seq
    (.ops [
      ⟨(some 14), (.p (.faddr 1)), [.t 2], none⟩,
      ⟨(some 15), (.h (.load false 1)), [.t 14], none⟩,
      ⟨(some 16), (.p .mov), [.t 1], none⟩,
      ⟨(some 17), (.p (.iaddr 3)), [.t 15, .t 16], none⟩,
      ⟨(some 18), (.p (.faddr 0)), [.t 17], none⟩,
      ⟨(some 19), (.h (.load false 1)), [.t 18], none⟩,
      ⟨(some 4), (.p .mov), [.t 19], none⟩])
    (.ret [4]))))
def r05_Len_I : FInfo := ⟨(.fz false), 2, r05_Len_C, [.tmp 4]⟩
def r05_Len_A : Ann := ⟨[], [], [], [], [2]⟩
abbrev n_r05_Len : Nat := 56

/-! ### balise/train.unlike -/
def train_unlike_B0 : CCode :=
 (.seq
  (.ops [
    ⟨(some 10), (.p (.bin .lss .ifc)), [.t 9, .t 8], none⟩])
  (.seq
   (.cond (.t 10)
    .skip
    (.exit 0))
   (.seq
    (.block 1 (some [0, 1, 7, 8, 9])
     (.seq
      (.ops [
        ⟨(some 11), (.p .mov), [.t 9], none⟩,
        ⟨(some 12), (.p (.iaddr 1)), [.t 7, .t 9], none⟩,
        ⟨(some 13), (.h (.load false 1)), [.t 12], none⟩,
        ⟨(some 5), (.p .mov), [.t 11], none⟩,
        ⟨(some 6), (.p .mov), [.t 13], none⟩])
      (.seq
       (.ops [
         ⟨(some 14), (.p .mov), [.t 0], none⟩,
         ⟨(some 15), (.p .mov), [.t 6], none⟩,
         ⟨(some 16), .call, [.c (.fn (.func 47) [] []), .t 14, .t 15], none⟩,
         ⟨(some 17), (.p (.bin .eql .int)), [.t 16, .c (.int .i64 0)], none⟩,
         ⟨(some 18), (.p .mov), [.t 17], none⟩,
         ⟨(some 19), (.p .mov), [.t 1], (some (18, false))⟩,
         ⟨(some 20), (.p .mov), [.t 5], (some (18, false))⟩,
         ⟨(some 21), (.p (.slc 1 false true)), [.t 19, .t 20], (some (18, false))⟩,
         ⟨(some 22), (.p .mov), [.t 6], (some (18, false))⟩,
         ⟨(some 23), .call, [.c (.fn (.func 86) [] []), .t 21, .t 22], (some (18, false))⟩,
         ⟨(some 24), (.p .pick), [.t 18, .c (.bool true), .t 23], none⟩])
       (.cond (.t 24)
        (.seq
         (.ops [
           ⟨(some 4), (.p .mov), [.c (.bool false)], none⟩])
         (.ret [4]))
        .skip))))
    (.ops [
      ⟨(some 25), (.p (.bin .add .ifc)), [.t 9, .c (.int .i64 1)], none⟩,
      ⟨(some 9), (.p .mov), [.t 25], none⟩]))))
def train_unlike_L0 : CCode := .bloop 0 [0, 1, 7, 8, 9] [] train_unlike_B0
def train_unlike_C : CCode :=
 (.seq
  (.ops [
    ⟨(some 4), (.p .mov), [.c (.bool false)], none⟩])
  (.seq
   (.seq
    (.ops [
      ⟨(some 7), (.p .mov), [.t 1], none⟩,
      ⟨(some 8), (.p .len), [.t 7], none⟩,
      ⟨(some 9), (.p .mov), [.c (.int .i64 0)], none⟩])
    train_unlike_L0)
   (.seq
    (.ops [
      ⟨(some 4), (.p .mov), [.c (.bool true)], none⟩])
    (.ret [4]))))
def train_unlike_I : FInfo := ⟨(.fz false), 2, train_unlike_C, [.tmp 4]⟩
def train_unlike_A : Ann := ⟨[], [], [(0, [0, 1, 7, 8, 9], [])], [(1, [0, 1, 7, 8, 9])], []⟩
abbrev n_train_unlike : Nat := 57

/-! ### slices.IndexFunc[[]balise/api.End,balise/api.End] -/
def slices_IndexFunc_End_B0 : CCode :=
 (.seq
  (.ops [
    ⟨(some 9), (.p (.bin .lss .ifc)), [.t 8, .t 7], none⟩])
  (.seq
   (.cond (.t 9)
    .skip
    (.exit 0))
   (.seq
    (.block 1 (some [0, 1, 7, 8])
     (.seq
      (.ops [
        ⟨(some 10), (.p .mov), [.t 8], none⟩,
        ⟨(some 5), (.p .mov), [.t 10], none⟩])
      (.seq
       (.ops [
         ⟨(some 11), (.p .mov), [.t 1], none⟩,
         ⟨(some 12), (.p .mov), [.t 0], none⟩,
         ⟨(some 13), (.p .mov), [.t 5], none⟩,
         ⟨(some 14), (.p (.iaddr 2)), [.t 12, .t 13], none⟩,
         ⟨(some 15), (.h (.load true 2)), [.t 14], none⟩,
         ⟨(some 16), .call, [.t 11, .t 15], none⟩])
       (.cond (.t 16)
        (.seq
         (.ops [
           ⟨(some 17), (.p .mov), [.t 5], none⟩,
           ⟨(some 4), (.p .mov), [.t 17], none⟩])
         (.ret [4]))
        .skip))))
    (.ops [
      ⟨(some 18), (.p (.bin .add .ifc)), [.t 8, .c (.int .i64 1)], none⟩,
      ⟨(some 8), (.p .mov), [.t 18], none⟩]))))
def slices_IndexFunc_End_L0 : CCode := .bloop 0 [0, 1, 7, 8] [] slices_IndexFunc_End_B0
def slices_IndexFunc_End_C : CCode :=
 (.seq
  (.ops [
    ⟨(some 4), (.p .mov), [.c (.int .i64 0)], none⟩])
  (.seq
   (.seq
    (.ops [
      ⟨(some 6), (.p .mov), [.t 0], none⟩,
      ⟨(some 7), (.p .len), [.t 6], none⟩,
      ⟨(some 8), (.p .mov), [.c (.int .i64 0)], none⟩])
    slices_IndexFunc_End_L0)
   (.seq
    (.ops [
      ⟨(some 4), (.p .mov), [.c (.int .i64 (-1))], none⟩])
    (.ret [4]))))
def slices_IndexFunc_End_I : FInfo := ⟨(.fz false), 2, slices_IndexFunc_End_C, [.tmp 4]⟩
def slices_IndexFunc_End_A : Ann := ⟨[], [], [(0, [0, 1, 7, 8], [])], [(1, [0, 1, 7, 8])], []⟩
abbrev n_slices_IndexFunc_End : Nat := 58

/-! ### balise/train.Fits$1 -/
def train_Fits_1_C : CCode :=
 (.seq
  (.ops [
    ⟨(some 2), (.h (.box 2)), [.t 0], none⟩,
    ⟨(some 3), (.p .mov), [.c (.bool false)], none⟩])
  (.seq
   (.ops [
     ⟨(some 4), (.p (.faddr 0)), [.t 2], none⟩,
     ⟨(some 5), (.h (.load false 1)), [.t 4], none⟩,
     ⟨(some 6), (.h (.load false 1)), [.t 1], none⟩,
     ⟨(some 7), (.p (.bin .eql .int)), [.t 5, .t 6], none⟩,
     ⟨(some 3), (.p .mov), [.t 7], none⟩])
   (.ret [3])))
def train_Fits_1_I : FInfo := ⟨(.fz false), 2, train_Fits_1_C, [.tmp 3]⟩
def train_Fits_1_A : Ann := ⟨[], [], [], [], [2]⟩
abbrev n_train_Fits_1 : Nat := 59

/-! ### balise/baliseref01.Rise -/
def r01_Rise_B2 : CCode :=
 (.seq
  (.seq
   (.ops [
     ⟨(some 6), (.p .mov), [.t 5], none⟩,
     ⟨(some 7), (.p .mov), [.t 0], none⟩,
     ⟨(some 8), (.p .len), [.t 7], none⟩,
     ⟨(some 9), (.p (.bin .lss .ifc)), [.t 6, .t 8], none⟩])
   (.cond (.t 9)
    .skip
    (.exit 2)))
  (.seq
   (.block 3 (some [0, 3, 4, 5])
    (.seq
     (.ops [
       ⟨(some 12), (.p .mov), [.t 3], none⟩,
       ⟨(some 13), (.p .len), [.t 12], none⟩,
       ⟨(some 14), (.p (.bin .eql .int)), [.t 13, .c (.int .i64 0)], none⟩,
       ⟨(some 15), (.p .mov), [.t 14], none⟩,
       ⟨(some 16), (.p .mov), [.t 0], (some (15, false))⟩,
       ⟨(some 17), (.p .mov), [.t 5], (some (15, false))⟩,
       ⟨(some 18), (.p (.iaddr 1)), [.t 16, .t 17], (some (15, false))⟩,
       ⟨(some 19), (.h (.load false 1)), [.t 18], (some (15, false))⟩,
       ⟨(some 20), (.p .mov), [.t 3], (some (15, false))⟩,
       ⟨(some 21), (.p .mov), [.t 3], (some (15, false))⟩,
       ⟨(some 22), (.p .len), [.t 21], (some (15, false))⟩,
       ⟨(some 23), (.p (.bin .sub .ifc)), [.t 22, .c (.int .i64 1)], (some (15, false))⟩,
       ⟨(some 24), (.p (.iaddr 1)), [.t 20, .t 23], (some (15, false))⟩,
       ⟨(some 25), (.h (.load false 1)), [.t 24], (some (15, false))⟩,
       ⟨(some 26), (.p (.bin .gtr .ifc)), [.t 19, .t 25], (some (15, false))⟩,
       ⟨(some 27), (.p .pick), [.t 15, .c (.bool true), .t 26], none⟩,
       ⟨(some 28), (.p .mov), [.t 27], none⟩,
       ⟨(some 29), (.p .mov), [.t 4], (some (28, true))⟩,
       ⟨(some 30), (.p (.bin .lss .ifc)), [.t 29, .c (.int .i64 0)], (some (28, true))⟩,
       ⟨(some 31), (.p .mov), [.t 30], (some (28, true))⟩,
       ⟨(some 32), (.p .mov), [.t 0], (some (31, false))⟩,
       ⟨(some 33), (.p .mov), [.t 5], (some (31, false))⟩,
       ⟨(some 34), (.p (.iaddr 1)), [.t 32, .t 33], (some (31, false))⟩,
       ⟨(some 35), (.h (.load false 1)), [.t 34], (some (31, false))⟩,
       ⟨(some 36), (.p .mov), [.t 0], (some (31, false))⟩,
       ⟨(some 37), (.p .mov), [.t 4], (some (31, false))⟩,
       ⟨(some 38), (.p (.iaddr 1)), [.t 36, .t 37], (some (31, false))⟩,
       ⟨(some 39), (.h (.load false 1)), [.t 38], (some (31, false))⟩,
       ⟨(some 40), (.p (.bin .lss .ifc)), [.t 35, .t 39], (some (31, false))⟩,
       ⟨(some 41), (.p .pick), [.t 31, .c (.bool true), .t 40], (some (28, true))⟩,
       ⟨(some 42), (.p .pick), [.t 28, .t 41, .c (.bool false)], none⟩])
     (.cond (.t 42)
      (.ops [
        ⟨(some 43), (.p .mov), [.t 5], none⟩,
        ⟨(some 4), (.p .mov), [.t 43], none⟩])
      .skip)))
   (.ops [
     ⟨(some 10), (.p .mov), [.t 5], none⟩,
     ⟨(some 11), (.p (.bin .add .ifc)), [.t 10, .c (.int .i64 1)], none⟩,
     ⟨(some 5), (.p .mov), [.t 11], none⟩])))
def r01_Rise_L2 : CCode := .bloop 2 [0, 3, 4, 5] [0, 3, 4] r01_Rise_B2

def r01_Rise_B0 : CCode :=
 (.block 1 (some [0, 3])
  (.seq
   (.ops [
     ⟨(some 4), (.p .mov), [.c (.int .i64 (-1))], none⟩])
   (.seq
    (.seq
     (.ops [
       ⟨(some 5), (.p .mov), [.c (.int .i64 0)], none⟩])
     r01_Rise_L2)
    (.seq
     (.seq
      (.ops [
        ⟨(some 44), (.p .mov), [.t 4], none⟩,
        ⟨(some 45), (.p (.bin .lss .ifc)), [.t 44, .c (.int .i64 0)], none⟩])
      (.cond (.t 45)
       (.seq
        (.ops [
          ⟨(some 46), (.p .mov), [.t 3], none⟩,
          ⟨(some 2), (.p .mov), [.t 46], none⟩])
        (.ret [2]))
       .skip))
     (.ops [
       ⟨(some 47), (.p .mov), [.t 3], none⟩,
       ⟨(some 48), (.p .mov), [.t 0], none⟩,
       ⟨(some 49), (.p .mov), [.t 4], none⟩,
       ⟨(some 50), (.p (.iaddr 1)), [.t 48, .t 49], none⟩,
       ⟨(some 51), (.h (.load false 1)), [.t 50], none⟩,
       ⟨(some 52), (.h (.bslF 1 1 [(.int .i64 0)] [(0, 1)])), [.t 51], none⟩,
       ⟨(some 53), (.h (.app 1 8 [(.int .i64 0)])), [.t 47, .t 52], none⟩,
       ⟨(some 3), (.p .mov), [.t 53], none⟩])))))
def r01_Rise_L0 : CCode := .bloop 0 [0, 3] [] r01_Rise_B0
def r01_Rise_C : CCode :=
 (.seq
  (.ops [
    ⟨(some 2), (.p .mov), [.c .nils], none⟩])
  (.seq
   (.ops [
     ⟨(some 3), (.p .mov), [.c .nils], none⟩])
   r01_Rise_L0))
def r01_Rise_I : FInfo := ⟨(.fz false), 1, r01_Rise_C, [.tmp 2]⟩
def r01_Rise_A : Ann := ⟨[], [], [(0, [0, 3], []), (2, [0, 3, 4, 5], [0, 3, 4])], [(1, [0, 3]), (3, [0, 3, 4, 5])], []⟩
abbrev n_r01_Rise : Nat := 60

/-! ### balise/baliseref05.Around -/
def r05_Around_B0 : CCode :=
 (.seq
  (.seq
   (.ops [
     ⟨(some 69), (.p .mov), [.t 11], none⟩,
     ⟨(some 70), (.p .mov), [.t 10], none⟩,
     ⟨(some 71), (.p .len), [.t 70], none⟩,
     ⟨(some 72), (.p (.bin .lss .ifc)), [.t 69, .t 71], none⟩])
   (.cond (.t 72)
    .skip
    (.exit 0)))
  (.seq
   (.block 1 (some [3, 8, 10, 11])
    (.seq
     (.ops [
       ⟨(some 75), (.p .mov), [.t 10], none⟩,
       ⟨(some 76), (.p .mov), [.t 11], none⟩,
       ⟨(some 77), (.p (.iaddr 2)), [.t 75, .t 76], none⟩,
       ⟨(some 78), (.h (.load true 2)), [.t 77], none⟩,
       ⟨(some 79), (.h (.load true 2)), [.t 3], none⟩,
       ⟨(some 80), (.p (.bin .neq (.parts [(0, false, 1, .int), (1, false, 1, .int)]))), [.t 78, .t 79], none⟩])
     (.cond (.t 80)
      (.ops [
        ⟨(some 81), (.p .mov), [.t 8], none⟩,
        ⟨(some 82), (.p .mov), [.t 10], none⟩,
        ⟨(some 83), (.p .mov), [.t 11], none⟩,
        ⟨(some 84), (.p (.iaddr 2)), [.t 82, .t 83], none⟩,
        ⟨(some 85), (.h (.load true 2)), [.t 84], none⟩,
        ⟨(some 86), (.h (.bslF 2 1 [(.int .i64 0), (.int .i64 0)] [(0, 2)])), [.t 85], none⟩,
        ⟨(some 87), (.h (.app 2 16 [(.int .i64 0), (.int .i64 0)])), [.t 81, .t 86], none⟩,
        ⟨(some 8), (.p .mov), [.t 87], none⟩])
      .skip)))
   (.ops [
     ⟨(some 73), (.p .mov), [.t 11], none⟩,
     ⟨(some 74), (.p (.bin .add .ifc)), [.t 73, .c (.int .i64 1)], none⟩,
     ⟨(some 11), (.p .mov), [.t 74], none⟩])))
def r05_Around_L0 : CCode := .bloop 0 [3, 8, 10, 11] [8] r05_Around_B0
def r05_Around_C : CCode :=
 (.seq
  (.ops [
    ⟨(some 2), (.h (.box 2)), [.t 0], none⟩,
    ⟨(some 3), (.h (.box 3)), [.t 1], none⟩,
    ⟨(some 4), (.p .mov), [.c .nils], none⟩])
  (.seq
   (.ops [
     ⟨(some 13), (.h (.load true 10)), [.t 2], none⟩,
     ⟨(some 14), (.h (.load true 2)), [.t 3], none⟩,
     ⟨(some 15), .call, [.c (.fn (.func 101) [] []), .t 13, .t 14], none⟩,
     ⟨(some 12), (.p .mov), [.t 15], none⟩,
     ⟨(some 16), (.p (.ext 0)), [.t 12], none⟩,
     ⟨(some 17), (.p (.ext 1)), [.t 12], none⟩,
     ⟨(some 5), (.p .mov), [.t 16], none⟩,
     ⟨(some 6), (.p .mov), [.t 17], none⟩])
   (.seq
    (.seq
     (.ops [
       ⟨(some 18), (.p .mov), [.t 6], none⟩,
       ⟨(some 19), (.p (.un .not)), [.t 18], none⟩])
     (.cond (.t 19)
      (.seq
       (.ops [
         ⟨(some 4), (.p .mov), [.c .nils], none⟩])
       (.ret [4]))
      .skip))
    (.seq
     (.ops [
       ⟨(some 20), (.h (.load true 10)), [.t 2], none⟩,
       ⟨(some 21), (.p .mov), [.t 5], none⟩,
       ⟨(some 22), .call, [.c (.fn (.func 89) [] []), .t 20, .t 21], none⟩,
       ⟨(some 7), (.p .mov), [.t 22], none⟩])
     (.seq
      (.ops [
        ⟨(some 8), (.p .mov), [.c .nils], none⟩])
      (.seq
       (.seq
        (.ops [
          ⟨(some 23), (.p .mov), [.t 7], none⟩,
          ⟨(some 24), (.p (.bin .geq .ifc)), [.t 23, .c (.int .i64 0)], none⟩])
        (.cond (.t 24)
         (.seq
          (.ops [
            ⟨(some 25), (.p (.faddr 3)), [.t 2], none⟩,
            ⟨(some 26), (.h (.load false 1)), [.t 25], none⟩,
            ⟨(some 27), (.p .mov), [.t 7], none⟩,
            ⟨(some 28), (.p (.iaddr 4)), [.t 26, .t 27], none⟩,
            ⟨(some 29), (.h (.load true 4)), [.t 28], none⟩,
            ⟨(some 9), (.h (.newl 9 [(.int .i64 0), (.int .i64 0), (.int .i64 0), (.int .i64 0)])), [], none⟩,
            ⟨none, (.h (.store 4)), [.t 9, .t 29], none⟩])
          (.seq
           (.seq
            (.ops [
              ⟨(some 30), (.p (.faddr 0)), [.t 3], none⟩,
              ⟨(some 31), (.h (.load false 1)), [.t 30], none⟩,
              ⟨(some 32), (.p (.faddr 1)), [.t 9], none⟩,
              ⟨(some 33), (.h (.load false 1)), [.t 32], none⟩,
              ⟨(some 34), (.p (.bin .eql .int)), [.t 31, .t 33], none⟩])
            (.cond (.t 34)
             (.seq
              (.ops [
                ⟨(some 35), (.p .mov), [.t 8], none⟩,
                ⟨(some 36), (.h (.load true 10)), [.t 2], none⟩,
                ⟨(some 37), (.p (.faddr 2)), [.t 9], none⟩,
                ⟨(some 38), (.h (.load false 1)), [.t 37], none⟩,
                ⟨(some 39), (.p .mov), [.t 5], none⟩,
                ⟨(some 40), .call, [.c (.fn (.func 102) [] []), .t 36, .t 38, .t 39], none⟩,
                ⟨(some 41), (.h (.app 2 16 [(.int .i64 0), (.int .i64 0)])), [.t 35, .t 40], none⟩,
                ⟨(some 8), (.p .mov), [.t 41], none⟩])
              (.seq
               (.ops [
                 ⟨(some 42), (.p .mov), [.t 8], none⟩,
                 ⟨(some 43), (.h (.load true 10)), [.t 2], none⟩,
                 ⟨(some 44), (.p (.faddr 3)), [.t 9], none⟩,
                 ⟨(some 45), (.h (.load false 1)), [.t 44], none⟩,
                 ⟨(some 46), (.p .mov), [.t 5], none⟩,
                 ⟨(some 47), .call, [.c (.fn (.func 102) [] []), .t 43, .t 45, .t 46], none⟩,
                 ⟨(some 48), (.h (.app 2 16 [(.int .i64 0), (.int .i64 0)])), [.t 42, .t 47], none⟩,
                 ⟨(some 4), (.p .mov), [.t 48], none⟩])
               (.ret [4])))
             .skip))
           (.seq
            (.seq
             (.ops [
               ⟨(some 49), (.p (.faddr 0)), [.t 3], none⟩,
               ⟨(some 50), (.h (.load false 1)), [.t 49], none⟩,
               ⟨(some 51), (.p (.faddr 2)), [.t 9], none⟩,
               ⟨(some 52), (.h (.load false 1)), [.t 51], none⟩,
               ⟨(some 53), (.p (.bin .eql .int)), [.t 50, .t 52], none⟩,
               ⟨(some 54), (.p .mov), [.t 53], none⟩,
               ⟨(some 55), (.p (.faddr 0)), [.t 3], (some (54, false))⟩,
               ⟨(some 56), (.h (.load false 1)), [.t 55], (some (54, false))⟩,
               ⟨(some 57), (.p (.faddr 3)), [.t 9], (some (54, false))⟩,
               ⟨(some 58), (.h (.load false 1)), [.t 57], (some (54, false))⟩,
               ⟨(some 59), (.p (.bin .eql .int)), [.t 56, .t 58], (some (54, false))⟩,
               ⟨(some 60), (.p .pick), [.t 54, .c (.bool true), .t 59], none⟩])
             (.cond (.t 60)
              (.seq
               (.ops [
                 ⟨(some 61), (.h (.load true 10)), [.t 2], none⟩,
                 ⟨(some 62), (.p (.faddr 1)), [.t 9], none⟩,
                 ⟨(some 63), (.h (.load false 1)), [.t 62], none⟩,
                 ⟨(some 64), (.p .mov), [.t 5], none⟩,
                 ⟨(some 65), .call, [.c (.fn (.func 102) [] []), .t 61, .t 63, .t 64], none⟩,
                 ⟨(some 4), (.p .mov), [.t 65], none⟩])
               (.ret [4]))
              .skip))
            (.seq
             (.ops [
               ⟨(some 4), (.p .mov), [.c .nils], none⟩])
             (.ret [4])))))
         .skip))
       (.seq
        (.ops [
          ⟨(some 66), (.h (.load true 10)), [.t 2], none⟩,
          ⟨(some 67), (.p .mov), [.t 5], none⟩,
          ⟨(some 68), .call, [.c (.fn (.func 91) [] []), .t 66, .t 67], none⟩,
          ⟨(some 10), (.p .mov), [.t 68], none⟩])
        (.seq
         (.seq
          (.ops [
            ⟨(some 11), (.p .mov), [.c (.int .i64 0)], none⟩])
          r05_Around_L0)
         (.seq
          (.seq
           (.ops [
             ⟨(some 88), (.p .mov), [.t 8], none⟩,
             ⟨(some 89), (.p .len), [.t 88], none⟩,
             ⟨(some 90), (.p (.bin .neq .int)), [.t 89, .c (.int .i64 1)], none⟩])
           (.cond (.t 90)
            (.seq
             (.ops [
               ⟨(some 4), (.p .mov), [.c .nils], none⟩])
             (.ret [4]))
            .skip))
          (.seq
           (.ops [
             ⟨(some 91), (.p .mov), [.t 8], none⟩,
             ⟨(some 4), (.p .mov), [.t 91], none⟩])
           (.ret [4])))))))))))
def r05_Around_I : FInfo := ⟨(.fz false), 2, r05_Around_C, [.tmp 4]⟩
def r05_Around_A : Ann := ⟨[], [], [(0, [3, 8, 10, 11], [8])], [(1, [3, 8, 10, 11])], [2, 3, 9]⟩
abbrev n_r05_Around : Nat := 61

/-! ### slices.Clone[[]int,int] -/
def slices_Clone_int_C : CCode :=
 (.seq
  (.ops [
    ⟨(some 2), (.p .mov), [.c .nils], none⟩])
  (.seq
   (.seq
    (.ops [
      ⟨(some 3), (.p .mov), [.t 0], none⟩,
      ⟨(some 4), (.p (.bin .eql .sl)), [.t 3, .c .nils], none⟩])
    (.cond (.t 4)
     (.seq
      (.ops [
        ⟨(some 2), (.p .mov), [.c .nils], none⟩])
      (.ret [2]))
     .skip))
   (.seq
    (.ops [
      ⟨(some 5), (.h (.bslO 1 0 [(.int .i64 0)] [])), [], none⟩,
      ⟨(some 6), (.p .mov), [.t 0], none⟩,
      ⟨(some 7), (.h (.app 1 8 [(.int .i64 0)])), [.t 5, .t 6], none⟩,
      ⟨(some 2), (.p .mov), [.t 7], none⟩])
    (.ret [2]))))
def slices_Clone_int_I : FInfo := ⟨.own, 1, slices_Clone_int_C, [.tmp 2]⟩
def slices_Clone_int_A : Ann := ⟨[], [5], [], [], []⟩
abbrev n_slices_Clone_int : Nat := 62

/-! ### (*balise/graph.Graph).node -/
def graph_Graph_node_C : CCode :=
 (.seq
  (.ops [
    ⟨(some 3), (.h (.box 3)), [.t 1], none⟩,
    ⟨(some 4), (.p .mov), [.c (.int .i64 0)], none⟩,
    ⟨(some 5), (.p .mov), [.c (.bool false)], none⟩])
  (.seq
   (.ops [
     ⟨(some 9), (.p .mov), [.t 0], none⟩,
     ⟨(some 10), (.p (.faddr 0)), [.t 3], none⟩,
     ⟨(some 11), (.h (.load false 1)), [.t 10], none⟩,
     ⟨(some 12), .call, [.c (.fn (.func 83) [] []), .t 9, .t 11], none⟩,
     ⟨(some 8), (.p .mov), [.t 12], none⟩,
     ⟨(some 13), (.p (.ext 0)), [.t 8], none⟩,
     ⟨(some 14), (.p (.ext 1)), [.t 8], none⟩,
     ⟨(some 6), (.h (.newl 6 [(.int .i64 0), (.int .i64 0), (.int .i64 0)])), [], none⟩,
     ⟨none, (.h (.store 3)), [.t 6, .t 13], none⟩,
     ⟨(some 7), (.p .mov), [.t 14], none⟩])
   (.seq
    (.block 0 (some [])
     (.seq
      (.ops [
        ⟨(some 16), (.p .mov), [.t 7], none⟩,
        ⟨(some 17), (.p .mov), [.t 16], none⟩,
        ⟨(some 18), (.p (.faddr 1)), [.t 3], (some (17, true))⟩,
        ⟨(some 19), (.h (.load false 1)), [.t 18], (some (17, true))⟩,
        ⟨(some 20), (.p (.bin .eql .int)), [.t 19, .c (.int .i64 0)], (some (17, true))⟩,
        ⟨(some 21), (.p .pick), [.t 17, .t 20, .c (.bool false)], none⟩,
        ⟨(some 15), (.p .mov), [.t 21], none⟩])
      (.cond (.t 15)
       (.seq
        (.ops [
          ⟨(some 22), (.p (.faddr 1)), [.t 6], none⟩,
          ⟨(some 23), (.h (.load false 1)), [.t 22], none⟩,
          ⟨(some 4), (.p .mov), [.t 23], none⟩,
          ⟨(some 5), (.p .mov), [.c (.bool true)], none⟩])
        (.ret [4, 5]))
       (.seq
        (.ops [
          ⟨(some 25), (.p .mov), [.t 7], none⟩,
          ⟨(some 26), (.p .mov), [.t 25], none⟩,
          ⟨(some 27), (.p (.faddr 1)), [.t 3], (some (26, true))⟩,
          ⟨(some 28), (.h (.load false 1)), [.t 27], (some (26, true))⟩,
          ⟨(some 29), (.p (.bin .eql .int)), [.t 28, .c (.int .i64 1)], (some (26, true))⟩,
          ⟨(some 30), (.p .pick), [.t 26, .t 29, .c (.bool false)], none⟩,
          ⟨(some 24), (.p .mov), [.t 30], none⟩])
        (.cond (.t 24)
         (.seq
          (.ops [
            ⟨(some 31), (.p (.faddr 2)), [.t 6], none⟩,
            ⟨(some 32), (.h (.load false 1)), [.t 31], none⟩,
            ⟨(some 4), (.p .mov), [.t 32], none⟩,
            ⟨(some 5), (.p .mov), [.c (.bool true)], none⟩])
          (.ret [4, 5]))
         .skip)))))
    (.seq
     (.ops [
       ⟨(some 4), (.p .mov), [.c (.int .i64 0)], none⟩,
       ⟨(some 5), (.p .mov), [.c (.bool false)], none⟩])
     (.ret [4, 5])))))
def graph_Graph_node_I : FInfo := ⟨(.fz false), 2, graph_Graph_node_C, [.tmp 4, .tmp 5]⟩
def graph_Graph_node_A : Ann := ⟨[], [], [], [(0, [])], [3, 6]⟩
abbrev n_graph_Graph_node : Nat := 76

/-! ### slices.DeleteFunc[[]balise/api.End,balise/api.End] -/
def slices_DeleteFunc_End_B0 : CCode :=
 (.seq
  (.seq
   (.ops [
     ⟨(some 16), (.p .mov), [.t 6], none⟩,
     ⟨(some 17), (.p .mov), [.t 0], none⟩,
     ⟨(some 18), (.p .len), [.t 17], none⟩,
     ⟨(some 19), (.p (.bin .lss .ifc)), [.t 16, .t 18], none⟩])
   (.cond (.t 19)
    .skip
    (.exit 0)))
  (.seq
   (.block 1 (some [0, 1, 5, 6])
    (.seq
     (.ops [
       ⟨(some 22), (.p .mov), [.t 0], none⟩,
       ⟨(some 23), (.p .mov), [.t 6], none⟩,
       ⟨(some 24), (.p (.iaddr 2)), [.t 22, .t 23], none⟩,
       ⟨(some 25), (.h (.load true 2)), [.t 24], none⟩,
       ⟨(some 7), (.h (.newl 7 [(.int .i64 0), (.int .i64 0)])), [], none⟩,
       ⟨none, (.h (.store 2)), [.t 7, .t 25], none⟩])
     (.seq
      (.ops [
        ⟨(some 26), (.p .mov), [.t 1], none⟩,
        ⟨(some 27), (.h (.load true 2)), [.t 7], none⟩,
        ⟨(some 28), .call, [.t 26, .t 27], none⟩,
        ⟨(some 29), (.p (.un .not)), [.t 28], none⟩])
      (.cond (.t 29)
       (.seq
        (.ops [
          ⟨(some 30), (.p .mov), [.t 0], none⟩,
          ⟨(some 31), (.p .mov), [.t 5], none⟩,
          ⟨(some 32), (.h (.load true 2)), [.t 7], none⟩,
          ⟨(some 33), (.p (.iaddr 2)), [.t 30, .t 31], none⟩,
          ⟨none, (.h (.store 2)), [.t 33, .t 32], none⟩])
        (.ops [
          ⟨(some 34), (.p .mov), [.t 5], none⟩,
          ⟨(some 35), (.p (.bin .add .ifc)), [.t 34, .c (.int .i64 1)], none⟩,
          ⟨(some 5), (.p .mov), [.t 35], none⟩]))
       .skip))))
   (.ops [
     ⟨(some 20), (.p .mov), [.t 6], none⟩,
     ⟨(some 21), (.p (.bin .add .ifc)), [.t 20, .c (.int .i64 1)], none⟩,
     ⟨(some 6), (.p .mov), [.t 21], none⟩])))
def slices_DeleteFunc_End_L0 : CCode := .bloop 0 [0, 1, 5, 6] [0, 5] slices_DeleteFunc_End_B0
def slices_DeleteFunc_End_C : CCode :=
 (.seq
  (.ops [
    ⟨(some 4), (.p .mov), [.c .nils], none⟩])
  (.seq
   (.ops [
     ⟨(some 8), (.p .mov), [.t 0], none⟩,
     ⟨(some 9), (.p .mov), [.t 1], none⟩,
     ⟨(some 10), .call, [.c (.fn (.func 58) [] []), .t 8, .t 9], none⟩,
     ⟨(some 5), (.p .mov), [.t 10], none⟩])
   (.seq
    (.seq
     (.ops [
       ⟨(some 11), (.p .mov), [.t 5], none⟩,
       ⟨(some 12), (.p (.bin .eql .int)), [.t 11, .c (.int .i64 (-1))], none⟩])
     (.cond (.t 12)
      (.seq
       (.ops [
         ⟨(some 13), (.p .mov), [.t 0], none⟩,
         ⟨(some 4), (.p .mov), [.t 13], none⟩])
       (.ret [4]))
      .skip))
    (.seq
     (.seq
      (.ops [
        ⟨(some 14), (.p .mov), [.t 5], none⟩,
        ⟨(some 15), (.p (.bin .add .ifc)), [.t 14, .c (.int .i64 1)], none⟩,
        ⟨(some 6), (.p .mov), [.t 15], none⟩])
      slices_DeleteFunc_End_L0)
     (.seq
      (.ops [
        ⟨(some 36), (.p .mov), [.t 0], none⟩,
        ⟨(some 37), (.p .mov), [.t 5], none⟩,
        ⟨(some 38), (.p (.slc 2 true false)), [.t 36, .t 37], none⟩,
        ⟨none, (.h (.clear 2 [(.int .i64 0), (.int .i64 0)])), [.t 38], none⟩])
      (.seq
       (.ops [
         ⟨(some 39), (.p .mov), [.t 0], none⟩,
         ⟨(some 40), (.p .mov), [.t 5], none⟩,
         ⟨(some 41), (.p (.slc 2 false true)), [.t 39, .t 40], none⟩,
         ⟨(some 4), (.p .mov), [.t 41], none⟩])
       (.ret [4])))))))
def slices_DeleteFunc_End_I : FInfo := ⟨.ref, 2, slices_DeleteFunc_End_C, [.tmp 4]⟩
def slices_DeleteFunc_End_A : Ann := ⟨[], [], [(0, [0, 1, 5, 6], [0, 5])], [(1, [0, 1, 5, 6])], [7]⟩
abbrev n_slices_DeleteFunc_End : Nat := 77

/-! ### (*balise/graph.Graph).Around$1 -/
def graph_Graph_Around_1_C : CCode :=
 (.seq
  (.ops [
    ⟨(some 2), (.h (.box 2)), [.t 0], none⟩,
    ⟨(some 3), (.p .mov), [.c (.bool false)], none⟩])
  (.seq
   (.ops [
     ⟨(some 4), (.h (.load true 2)), [.t 2], none⟩,
     ⟨(some 5), (.h (.load true 2)), [.t 1], none⟩,
     ⟨(some 6), (.p (.bin .eql (.parts [(0, false, 1, .int), (1, false, 1, .int)]))), [.t 4, .t 5], none⟩,
     ⟨(some 3), (.p .mov), [.t 6], none⟩])
   (.ret [3])))
def graph_Graph_Around_1_I : FInfo := ⟨(.fz false), 2, graph_Graph_Around_1_C, [.tmp 3]⟩
def graph_Graph_Around_1_A : Ann := ⟨[], [], [], [], [2]⟩
abbrev n_graph_Graph_Around_1 : Nat := 78

/-! ### (*balise/graph.Graph).at -/
def graph_Graph_at_B0 : CCode :=
 (.seq
  (.ops [
    ⟨(some 14), (.p (.bin .lss .ifc)), [.t 13, .t 12], none⟩])
  (.seq
   (.cond (.t 14)
    .skip
    (.exit 0))
   (.seq
    (.block 1 (some [1, 11, 12, 13])
     (.seq
      (.ops [
        ⟨(some 15), (.p (.iaddr 2)), [.t 11, .t 13], none⟩,
        ⟨(some 16), (.h (.load true 2)), [.t 15], none⟩,
        ⟨(some 8), (.h (.newl 8 [(.int .i64 0), (.int .i64 0)])), [], none⟩,
        ⟨none, (.h (.store 2)), [.t 8, .t 16], none⟩])
      (.seq
       (.ops [
         ⟨(some 17), (.p (.faddr 0)), [.t 8], none⟩,
         ⟨(some 18), (.h (.load false 1)), [.t 17], none⟩,
         ⟨(some 19), (.p .mov), [.t 1], none⟩,
         ⟨(some 20), (.p (.bin .eql .int)), [.t 18, .t 19], none⟩])
       (.cond (.t 20)
        (.seq
         (.ops [
           ⟨(some 21), (.h (.load true 2)), [.t 8], none⟩,
           ⟨(some 22), (.h (.bslF 2 1 [(.int .i64 0), (.int .i64 0)] [(0, 2)])), [.t 21], none⟩,
           ⟨(some 6), (.p .mov), [.t 22], none⟩])
         (.ret [6]))
        .skip))))
    (.ops [
      ⟨(some 23), (.p (.bin .add .ifc)), [.t 13, .c (.int .i64 1)], none⟩,
      ⟨(some 13), (.p .mov), [.t 23], none⟩]))))
def graph_Graph_at_L0 : CCode := .bloop 0 [1, 11, 12, 13] [] graph_Graph_at_B0
def graph_Graph_at_C : CCode :=
 (.seq
  (.ops [
    ⟨(some 6), (.p .mov), [.c .nils], none⟩])
  (.seq
   (.seq
    (.ops [
      ⟨(some 9), (.p .mov), [.t 0], none⟩,
      ⟨(some 10), (.p .mov), [.t 2], none⟩,
      ⟨(some 11), .call, [.c (.fn (.func 44) [] []), .t 9, .t 10], none⟩,
      ⟨(some 12), (.p .len), [.t 11], none⟩,
      ⟨(some 13), (.p .mov), [.c (.int .i64 0)], none⟩])
    graph_Graph_at_L0)
   (.seq
    (.ops [
      ⟨(some 6), (.p .mov), [.c .nils], none⟩])
    (.ret [6]))))
def graph_Graph_at_I : FInfo := ⟨(.fz false), 3, graph_Graph_at_C, [.tmp 6]⟩
def graph_Graph_at_A : Ann := ⟨[], [], [(0, [1, 11, 12, 13], [])], [(1, [1, 11, 12, 13])], [8]⟩
abbrev n_graph_Graph_at : Nat := 80

/-! ### (*balise/graph.Graph).section -/
def graph_Graph_section_C : CCode :=
 (.seq
  (.ops [
    ⟨(some 4), (.h (.newl 4 [(.int .i64 0), (.int .i64 0), (.int .i64 0)])), [], none⟩,
    ⟨(some 5), (.p .mov), [.c (.bool false)], none⟩])
  (.seq
   (.seq
    (.ops [
      ⟨(some 6), (.p .mov), [.t 0], none⟩,
      ⟨(some 7), (.p (.bin .eql .ptr)), [.t 6, .c .nilp], none⟩,
      ⟨(some 8), (.p .mov), [.t 7], none⟩,
      ⟨(some 9), (.p .mov), [.t 1], (some (8, false))⟩,
      ⟨(some 10), (.p (.bin .lss .ifc)), [.t 9, .c (.int .i64 0)], (some (8, false))⟩,
      ⟨(some 11), (.p .pick), [.t 8, .c (.bool true), .t 10], none⟩,
      ⟨(some 12), (.p .mov), [.t 11], none⟩,
      ⟨(some 13), (.p .mov), [.t 1], (some (12, false))⟩,
      ⟨(some 14), (.p .mov), [.t 0], (some (12, false))⟩,
      ⟨(some 15), (.p .nchk), [.t 14], (some (12, false))⟩,
      ⟨(some 16), (.p (.faddr 0)), [.t 15], (some (12, false))⟩,
      ⟨(some 17), (.p (.faddr 1)), [.t 16], (some (12, false))⟩,
      ⟨(some 18), (.h (.load false 1)), [.t 17], (some (12, false))⟩,
      ⟨(some 19), (.p .len), [.t 18], (some (12, false))⟩,
      ⟨(some 20), (.p (.bin .geq .ifc)), [.t 13, .t 19], (some (12, false))⟩,
      ⟨(some 21), (.p .pick), [.t 12, .c (.bool true), .t 20], none⟩])
    (.cond (.t 21)
     (.seq
      (.ops [
        ⟨(some 22), (.p (.bld [(.int .i64 0), (.int .i64 0), (.int .i64 0)] [])), [], none⟩,
        ⟨none, (.h (.store 3)), [.t 4, .t 22], none⟩,
        ⟨(some 5), (.p .mov), [.c (.bool false)], none⟩])
      (.ret [4, 5]))
     .skip))
   (.seq
    (.ops [
      ⟨(some 23), (.p .mov), [.t 0], none⟩,
      ⟨(some 24), (.p .nchk), [.t 23], none⟩,
      ⟨(some 25), (.p (.faddr 0)), [.t 24], none⟩,
      ⟨(some 26), (.p (.faddr 1)), [.t 25], none⟩,
      ⟨(some 27), (.h (.load false 1)), [.t 26], none⟩,
      ⟨(some 28), (.p .mov), [.t 1], none⟩,
      ⟨(some 29), (.p (.iaddr 3)), [.t 27, .t 28], none⟩,
      ⟨(some 30), (.h (.load true 3)), [.t 29], none⟩,
      ⟨none, (.h (.store 3)), [.t 4, .t 30], none⟩,
      ⟨(some 5), (.p .mov), [.c (.bool true)], none⟩])
    (.ret [4, 5]))))
def graph_Graph_section_I : FInfo := ⟨(.fz false), 2, graph_Graph_section_C, [.cell 4 true 3, .tmp 5]⟩
def graph_Graph_section_A : Ann := ⟨[], [], [], [], [4]⟩
abbrev n_graph_Graph_section : Nat := 83

/-! ### slices.IndexFunc[[][]int,[]int] -/
def slices_IndexFunc_int_B0 : CCode :=
 (.seq
  (.ops [
    ⟨(some 9), (.p (.bin .lss .ifc)), [.t 8, .t 7], none⟩])
  (.seq
   (.cond (.t 9)
    .skip
    (.exit 0))
   (.seq
    (.block 1 (some [0, 1, 7, 8])
     (.seq
      (.ops [
        ⟨(some 10), (.p .mov), [.t 8], none⟩,
        ⟨(some 5), (.p .mov), [.t 10], none⟩])
      (.seq
       (.ops [
         ⟨(some 11), (.p .mov), [.t 1], none⟩,
         ⟨(some 12), (.p .mov), [.t 0], none⟩,
         ⟨(some 13), (.p .mov), [.t 5], none⟩,
         ⟨(some 14), (.p (.iaddr 1)), [.t 12, .t 13], none⟩,
         ⟨(some 15), (.h (.load false 1)), [.t 14], none⟩,
         ⟨(some 16), .call, [.t 11, .t 15], none⟩])
       (.cond (.t 16)
        (.seq
         (.ops [
           ⟨(some 17), (.p .mov), [.t 5], none⟩,
           ⟨(some 4), (.p .mov), [.t 17], none⟩])
         (.ret [4]))
        .skip))))
    (.ops [
      ⟨(some 18), (.p (.bin .add .ifc)), [.t 8, .c (.int .i64 1)], none⟩,
      ⟨(some 8), (.p .mov), [.t 18], none⟩]))))
def slices_IndexFunc_int_L0 : CCode := .bloop 0 [0, 1, 7, 8] [] slices_IndexFunc_int_B0
def slices_IndexFunc_int_C : CCode :=
 (.seq
  (.ops [
    ⟨(some 4), (.p .mov), [.c (.int .i64 0)], none⟩])
  (.seq
   (.seq
    (.ops [
      ⟨(some 6), (.p .mov), [.t 0], none⟩,
      ⟨(some 7), (.p .len), [.t 6], none⟩,
      ⟨(some 8), (.p .mov), [.c (.int .i64 0)], none⟩])
    slices_IndexFunc_int_L0)
   (.seq
    (.ops [
      ⟨(some 4), (.p .mov), [.c (.int .i64 (-1))], none⟩])
    (.ret [4]))))
def slices_IndexFunc_int_I : FInfo := ⟨(.fz false), 2, slices_IndexFunc_int_C, [.tmp 4]⟩
def slices_IndexFunc_int_A : Ann := ⟨[], [], [(0, [0, 1, 7, 8], [])], [(1, [0, 1, 7, 8])], []⟩
abbrev n_slices_IndexFunc_int : Nat := 84

/-! ### slices.Contains[[]int,int] -/
def slices_Contains_int_C : CCode :=
 (.seq
  (.ops [
    ⟨(some 4), (.p .mov), [.c (.bool false)], none⟩])
  (.seq
   (.ops [
     ⟨(some 5), (.p .mov), [.t 0], none⟩,
     ⟨(some 6), (.p .mov), [.t 1], none⟩,
     ⟨(some 7), .call, [.c (.fn (.func 100) [] []), .t 5, .t 6], none⟩,
     ⟨(some 8), (.p (.bin .geq .ifc)), [.t 7, .c (.int .i64 0)], none⟩,
     ⟨(some 4), (.p .mov), [.t 8], none⟩])
   (.ret [4])))
def slices_Contains_int_I : FInfo := ⟨(.fz false), 2, slices_Contains_int_C, [.tmp 4]⟩
def slices_Contains_int_A : Ann := ⟨[], [], [], [], []⟩
abbrev n_slices_Contains_int : Nat := 86

/-! ### balise/baliseref05.Point -/
def r05_Point_B0 : CCode :=
 (.seq
  (.seq
   (.ops [
     ⟨(some 6), (.p .mov), [.t 5], none⟩,
     ⟨(some 7), (.p (.faddr 3)), [.t 2], none⟩,
     ⟨(some 8), (.h (.load false 1)), [.t 7], none⟩,
     ⟨(some 9), (.p .len), [.t 8], none⟩,
     ⟨(some 10), (.p (.bin .lss .ifc)), [.t 6, .t 9], none⟩])
   (.cond (.t 10)
    .skip
    (.exit 0)))
  (.seq
   (.block 1 (some [1, 2, 5])
    (.seq
     (.ops [
       ⟨(some 13), (.p (.faddr 3)), [.t 2], none⟩,
       ⟨(some 14), (.h (.load false 1)), [.t 13], none⟩,
       ⟨(some 15), (.p .mov), [.t 5], none⟩,
       ⟨(some 16), (.p (.iaddr 4)), [.t 14, .t 15], none⟩,
       ⟨(some 17), (.p (.faddr 0)), [.t 16], none⟩,
       ⟨(some 18), (.h (.load false 1)), [.t 17], none⟩,
       ⟨(some 19), (.p .mov), [.t 1], none⟩,
       ⟨(some 20), (.p (.bin .eql .int)), [.t 18, .t 19], none⟩])
     (.cond (.t 20)
      (.seq
       (.ops [
         ⟨(some 21), (.p .mov), [.t 5], none⟩,
         ⟨(some 4), (.p .mov), [.t 21], none⟩])
       (.ret [4]))
      .skip)))
   (.ops [
     ⟨(some 11), (.p .mov), [.t 5], none⟩,
     ⟨(some 12), (.p (.bin .add .ifc)), [.t 11, .c (.int .i64 1)], none⟩,
     ⟨(some 5), (.p .mov), [.t 12], none⟩])))
def r05_Point_L0 : CCode := .bloop 0 [1, 2, 5] [] r05_Point_B0
def r05_Point_C : CCode :=
 (.seq
  (.ops [
    ⟨(some 2), (.h (.box 2)), [.t 0], none⟩,
    ⟨(some 4), (.p .mov), [.c (.int .i64 0)], none⟩])
  (.seq
   (.seq
    (.ops [
      ⟨(some 5), (.p .mov), [.c (.int .i64 0)], none⟩])
    r05_Point_L0)
   (.seq
    (.ops [
      ⟨(some 4), (.p .mov), [.c (.int .i64 (-1))], none⟩])
    (.ret [4]))))
def r05_Point_I : FInfo := ⟨(.fz false), 2, r05_Point_C, [.tmp 4]⟩
def r05_Point_A : Ann := ⟨[], [], [(0, [1, 2, 5], [])], [(1, [1, 2, 5])], [2]⟩
abbrev n_r05_Point : Nat := 89

/-! ### balise/baliseref05.Ends -/
def r05_Ends_B0 : CCode :=
 (.seq
  (.seq
   (.ops [
     ⟨(some 7), (.p .mov), [.t 6], none⟩,
     ⟨(some 8), (.p (.faddr 1)), [.t 2], none⟩,
     ⟨(some 9), (.h (.load false 1)), [.t 8], none⟩,
     ⟨(some 10), (.p .len), [.t 9], none⟩,
     ⟨(some 11), (.p (.bin .lss .ifc)), [.t 7, .t 10], none⟩])
   (.cond (.t 11)
    .skip
    (.exit 0)))
  (.seq
   (.block 1 (some [1, 2, 5, 6])
    (.seq
     (.seq
      (.ops [
        ⟨(some 14), (.p (.faddr 1)), [.t 2], none⟩,
        ⟨(some 15), (.h (.load false 1)), [.t 14], none⟩,
        ⟨(some 16), (.p .mov), [.t 6], none⟩,
        ⟨(some 17), (.p (.iaddr 3)), [.t 15, .t 16], none⟩,
        ⟨(some 18), (.p (.faddr 1)), [.t 17], none⟩,
        ⟨(some 19), (.h (.load false 1)), [.t 18], none⟩,
        ⟨(some 20), (.p .mov), [.t 1], none⟩,
        ⟨(some 21), (.p (.bin .eql .int)), [.t 19, .t 20], none⟩])
      (.cond (.t 21)
       (.ops [
         ⟨(some 22), (.p .mov), [.t 5], none⟩,
         ⟨(some 23), (.p .mov), [.t 6], none⟩,
         ⟨(some 24), (.p (.bld [(.int .i64 0), (.int .i64 0)] [(0, 1), (1, 1)])), [.t 23, .c (.int .i64 0)], none⟩,
         ⟨(some 25), (.h (.bslF 2 1 [(.int .i64 0), (.int .i64 0)] [(0, 2)])), [.t 24], none⟩,
         ⟨(some 26), (.h (.app 2 16 [(.int .i64 0), (.int .i64 0)])), [.t 22, .t 25], none⟩,
         ⟨(some 5), (.p .mov), [.t 26], none⟩])
       .skip))
     (.seq
      (.ops [
        ⟨(some 27), (.p (.faddr 1)), [.t 2], none⟩,
        ⟨(some 28), (.h (.load false 1)), [.t 27], none⟩,
        ⟨(some 29), (.p .mov), [.t 6], none⟩,
        ⟨(some 30), (.p (.iaddr 3)), [.t 28, .t 29], none⟩,
        ⟨(some 31), (.p (.faddr 2)), [.t 30], none⟩,
        ⟨(some 32), (.h (.load false 1)), [.t 31], none⟩,
        ⟨(some 33), (.p .mov), [.t 1], none⟩,
        ⟨(some 34), (.p (.bin .eql .int)), [.t 32, .t 33], none⟩])
      (.cond (.t 34)
       (.ops [
         ⟨(some 35), (.p .mov), [.t 5], none⟩,
         ⟨(some 36), (.p .mov), [.t 6], none⟩,
         ⟨(some 37), (.p (.bld [(.int .i64 0), (.int .i64 0)] [(0, 1), (1, 1)])), [.t 36, .c (.int .i64 1)], none⟩,
         ⟨(some 38), (.h (.bslF 2 1 [(.int .i64 0), (.int .i64 0)] [(0, 2)])), [.t 37], none⟩,
         ⟨(some 39), (.h (.app 2 16 [(.int .i64 0), (.int .i64 0)])), [.t 35, .t 38], none⟩,
         ⟨(some 5), (.p .mov), [.t 39], none⟩])
       .skip))))
   (.ops [
     ⟨(some 12), (.p .mov), [.t 6], none⟩,
     ⟨(some 13), (.p (.bin .add .ifc)), [.t 12, .c (.int .i64 1)], none⟩,
     ⟨(some 6), (.p .mov), [.t 13], none⟩])))
def r05_Ends_L0 : CCode := .bloop 0 [1, 2, 5, 6] [5] r05_Ends_B0
def r05_Ends_C : CCode :=
 (.seq
  (.ops [
    ⟨(some 2), (.h (.box 2)), [.t 0], none⟩,
    ⟨(some 4), (.p .mov), [.c .nils], none⟩])
  (.seq
   (.ops [
     ⟨(some 5), (.p .mov), [.c .nils], none⟩])
   (.seq
    (.seq
     (.ops [
       ⟨(some 6), (.p .mov), [.c (.int .i64 0)], none⟩])
     r05_Ends_L0)
    (.seq
     (.ops [
       ⟨(some 40), (.p .mov), [.t 5], none⟩,
       ⟨(some 4), (.p .mov), [.t 40], none⟩])
     (.ret [4])))))
def r05_Ends_I : FInfo := ⟨(.fz false), 2, r05_Ends_C, [.tmp 4]⟩
def r05_Ends_A : Ann := ⟨[], [], [(0, [1, 2, 5, 6], [5])], [(1, [1, 2, 5, 6])], [2]⟩
abbrev n_r05_Ends : Nat := 91

/-! ### slices.IndexFunc[[]balise/api.Point,balise/api.Point] -/
def slices_IndexFunc_Point_B0 : CCode :=
 (.seq
  (.ops [
    ⟨(some 9), (.p (.bin .lss .ifc)), [.t 8, .t 7], none⟩])
  (.seq
   (.cond (.t 9)
    .skip
    (.exit 0))
   (.seq
    (.block 1 (some [0, 1, 7, 8])
     (.seq
      (.ops [
        ⟨(some 10), (.p .mov), [.t 8], none⟩,
        ⟨(some 5), (.p .mov), [.t 10], none⟩])
      (.seq
       (.ops [
         ⟨(some 11), (.p .mov), [.t 1], none⟩,
         ⟨(some 12), (.p .mov), [.t 0], none⟩,
         ⟨(some 13), (.p .mov), [.t 5], none⟩,
         ⟨(some 14), (.p (.iaddr 4)), [.t 12, .t 13], none⟩,
         ⟨(some 15), (.h (.load true 4)), [.t 14], none⟩,
         ⟨(some 16), .call, [.t 11, .t 15], none⟩])
       (.cond (.t 16)
        (.seq
         (.ops [
           ⟨(some 17), (.p .mov), [.t 5], none⟩,
           ⟨(some 4), (.p .mov), [.t 17], none⟩])
         (.ret [4]))
        .skip))))
    (.ops [
      ⟨(some 18), (.p (.bin .add .ifc)), [.t 8, .c (.int .i64 1)], none⟩,
      ⟨(some 8), (.p .mov), [.t 18], none⟩]))))
def slices_IndexFunc_Point_L0 : CCode := .bloop 0 [0, 1, 7, 8] [] slices_IndexFunc_Point_B0
def slices_IndexFunc_Point_C : CCode :=
 (.seq
  (.ops [
    ⟨(some 4), (.p .mov), [.c (.int .i64 0)], none⟩])
  (.seq
   (.seq
    (.ops [
      ⟨(some 6), (.p .mov), [.t 0], none⟩,
      ⟨(some 7), (.p .len), [.t 6], none⟩,
      ⟨(some 8), (.p .mov), [.c (.int .i64 0)], none⟩])
    slices_IndexFunc_Point_L0)
   (.seq
    (.ops [
      ⟨(some 4), (.p .mov), [.c (.int .i64 (-1))], none⟩])
    (.ret [4]))))
def slices_IndexFunc_Point_I : FInfo := ⟨(.fz false), 2, slices_IndexFunc_Point_C, [.tmp 4]⟩
def slices_IndexFunc_Point_A : Ann := ⟨[], [], [(0, [0, 1, 7, 8], [])], [(1, [0, 1, 7, 8])], []⟩
abbrev n_slices_IndexFunc_Point : Nat := 98

/-! ### (*balise/graph.Graph).Point$1 -/
def graph_Graph_Point_1_C : CCode :=
 (.seq
  (.ops [
    ⟨(some 2), (.h (.box 2)), [.t 0], none⟩,
    ⟨(some 3), (.p .mov), [.c (.bool false)], none⟩])
  (.seq
   (.ops [
     ⟨(some 4), (.p (.faddr 0)), [.t 2], none⟩,
     ⟨(some 5), (.h (.load false 1)), [.t 4], none⟩,
     ⟨(some 6), (.h (.load false 1)), [.t 1], none⟩,
     ⟨(some 7), (.p (.bin .eql .int)), [.t 5, .t 6], none⟩,
     ⟨(some 3), (.p .mov), [.t 7], none⟩])
   (.ret [3])))
def graph_Graph_Point_1_I : FInfo := ⟨(.fz false), 2, graph_Graph_Point_1_C, [.tmp 3]⟩
def graph_Graph_Point_1_A : Ann := ⟨[], [], [], [], [2]⟩
abbrev n_graph_Graph_Point_1 : Nat := 99

/-! ### slices.Index[[]int,int] -/
def slices_Index_int_B0 : CCode :=
 (.seq
  (.ops [
    ⟨(some 9), (.p (.bin .lss .ifc)), [.t 8, .t 7], none⟩])
  (.seq
   (.cond (.t 9)
    .skip
    (.exit 0))
   (.seq
    (.block 1 (some [0, 1, 7, 8])
     (.seq
      (.ops [
        ⟨(some 10), (.p .mov), [.t 8], none⟩,
        ⟨(some 5), (.p .mov), [.t 10], none⟩])
      (.seq
       (.ops [
         ⟨(some 11), (.p .mov), [.t 1], none⟩,
         ⟨(some 12), (.p .mov), [.t 0], none⟩,
         ⟨(some 13), (.p .mov), [.t 5], none⟩,
         ⟨(some 14), (.p (.iaddr 1)), [.t 12, .t 13], none⟩,
         ⟨(some 15), (.h (.load false 1)), [.t 14], none⟩,
         ⟨(some 16), (.p (.bin .eql .int)), [.t 11, .t 15], none⟩])
       (.cond (.t 16)
        (.seq
         (.ops [
           ⟨(some 17), (.p .mov), [.t 5], none⟩,
           ⟨(some 4), (.p .mov), [.t 17], none⟩])
         (.ret [4]))
        .skip))))
    (.ops [
      ⟨(some 18), (.p (.bin .add .ifc)), [.t 8, .c (.int .i64 1)], none⟩,
      ⟨(some 8), (.p .mov), [.t 18], none⟩]))))
def slices_Index_int_L0 : CCode := .bloop 0 [0, 1, 7, 8] [] slices_Index_int_B0
def slices_Index_int_C : CCode :=
 (.seq
  (.ops [
    ⟨(some 4), (.p .mov), [.c (.int .i64 0)], none⟩])
  (.seq
   (.seq
    (.ops [
      ⟨(some 6), (.p .mov), [.t 0], none⟩,
      ⟨(some 7), (.p .len), [.t 6], none⟩,
      ⟨(some 8), (.p .mov), [.c (.int .i64 0)], none⟩])
    slices_Index_int_L0)
   (.seq
    (.ops [
      ⟨(some 4), (.p .mov), [.c (.int .i64 (-1))], none⟩])
    (.ret [4]))))
def slices_Index_int_I : FInfo := ⟨(.fz false), 2, slices_Index_int_C, [.tmp 4]⟩
def slices_Index_int_A : Ann := ⟨[], [], [(0, [0, 1, 7, 8], [])], [(1, [0, 1, 7, 8])], []⟩
abbrev n_slices_Index_int : Nat := 100

/-! ### balise/baliseref05.node -/
def r05_node_C : CCode :=
 (.seq
  (.ops [
    ⟨(some 2), (.h (.box 2)), [.t 0], none⟩,
    ⟨(some 3), (.h (.box 3)), [.t 1], none⟩,
    ⟨(some 4), (.p .mov), [.c (.int .i64 0)], none⟩,
    ⟨(some 5), (.p .mov), [.c (.bool false)], none⟩])
  (.seq
   (.seq
    (.ops [
      ⟨(some 6), (.p (.faddr 0)), [.t 3], none⟩,
      ⟨(some 7), (.h (.load false 1)), [.t 6], none⟩,
      ⟨(some 8), (.p (.bin .lss .ifc)), [.t 7, .c (.int .i64 0)], none⟩,
      ⟨(some 9), (.p .mov), [.t 8], none⟩,
      ⟨(some 10), (.p (.faddr 0)), [.t 3], (some (9, false))⟩,
      ⟨(some 11), (.h (.load false 1)), [.t 10], (some (9, false))⟩,
      ⟨(some 12), (.p (.faddr 1)), [.t 2], (some (9, false))⟩,
      ⟨(some 13), (.h (.load false 1)), [.t 12], (some (9, false))⟩,
      ⟨(some 14), (.p .len), [.t 13], (some (9, false))⟩,
      ⟨(some 15), (.p (.bin .geq .ifc)), [.t 11, .t 14], (some (9, false))⟩,
      ⟨(some 16), (.p .pick), [.t 9, .c (.bool true), .t 15], none⟩,
      ⟨(some 17), (.p .mov), [.t 16], none⟩,
      ⟨(some 18), (.p (.faddr 1)), [.t 3], (some (17, false))⟩,
      ⟨(some 19), (.h (.load false 1)), [.t 18], (some (17, false))⟩,
      ⟨(some 20), (.p (.bin .lss .ifc)), [.t 19, .c (.int .i64 0)], (some (17, false))⟩,
      ⟨(some 21), (.p .pick), [.t 17, .c (.bool true), .t 20], none⟩,
      ⟨(some 22), (.p .mov), [.t 21], none⟩,
      ⟨(some 23), (.p (.faddr 1)), [.t 3], (some (22, false))⟩,
      ⟨(some 24), (.h (.load false 1)), [.t 23], (some (22, false))⟩,
      ⟨(some 25), (.p (.bin .gtr .ifc)), [.t 24, .c (.int .i64 1)], (some (22, false))⟩,
      ⟨(some 26), (.p .pick), [.t 22, .c (.bool true), .t 25], none⟩])
    (.cond (.t 26)
     (.seq
      (.ops [
        ⟨(some 4), (.p .mov), [.c (.int .i64 0)], none⟩,
        ⟨(some 5), (.p .mov), [.c (.bool false)], none⟩])
      (.ret [4, 5]))
     .skip))
   (.seq
    (.seq
     (.ops [
       ⟨(some 27), (.p (.faddr 1)), [.t 3], none⟩,
       ⟨(some 28), (.h (.load false 1)), [.t 27], none⟩,
       ⟨(some 29), (.p (.bin .eql .int)), [.t 28, .c (.int .i64 0)], none⟩])
     (.cond (.t 29)
      (.seq
       (.ops [
         ⟨(some 30), (.p (.faddr 1)), [.t 2], none⟩,
         ⟨(some 31), (.h (.load false 1)), [.t 30], none⟩,
         ⟨(some 32), (.p (.faddr 0)), [.t 3], none⟩,
         ⟨(some 33), (.h (.load false 1)), [.t 32], none⟩,
         ⟨(some 34), (.p (.iaddr 3)), [.t 31, .t 33], none⟩,
         ⟨(some 35), (.p (.faddr 1)), [.t 34], none⟩,
         ⟨(some 36), (.h (.load false 1)), [.t 35], none⟩,
         ⟨(some 4), (.p .mov), [.t 36], none⟩,
         ⟨(some 5), (.p .mov), [.c (.bool true)], none⟩])
       (.ret [4, 5]))
      .skip))
    (.seq
     (.ops [
       ⟨(some 37), (.p (.faddr 1)), [.t 2], none⟩,
       ⟨(some 38), (.h (.load false 1)), [.t 37], none⟩,
       ⟨(some 39), (.p (.faddr 0)), [.t 3], none⟩,
       ⟨(some 40), (.h (.load false 1)), [.t 39], none⟩,
       ⟨(some 41), (.p (.iaddr 3)), [.t 38, .t 40], none⟩,
       ⟨(some 42), (.p (.faddr 2)), [.t 41], none⟩,
       ⟨(some 43), (.h (.load false 1)), [.t 42], none⟩,
       ⟨(some 4), (.p .mov), [.t 43], none⟩,
       ⟨(some 5), (.p .mov), [.c (.bool true)], none⟩])
     (.ret [4, 5])))))
def r05_node_I : FInfo := ⟨(.fz false), 2, r05_node_C, [.tmp 4, .tmp 5]⟩
def r05_node_A : Ann := ⟨[], [], [], [], [2, 3]⟩
abbrev n_r05_node : Nat := 101

/-! ### balise/baliseref05.one -/
def r05_one_B0 : CCode :=
 (.seq
  (.seq
   (.ops [
     ⟨(some 12), (.p .mov), [.t 8], none⟩,
     ⟨(some 13), (.p .mov), [.t 7], none⟩,
     ⟨(some 14), (.p .len), [.t 13], none⟩,
     ⟨(some 15), (.p (.bin .lss .ifc)), [.t 12, .t 14], none⟩])
   (.cond (.t 15)
    .skip
    (.exit 0)))
  (.seq
   (.block 1 (some [1, 7, 8])
    (.seq
     (.ops [
       ⟨(some 18), (.p .mov), [.t 7], none⟩,
       ⟨(some 19), (.p .mov), [.t 8], none⟩,
       ⟨(some 20), (.p (.iaddr 2)), [.t 18, .t 19], none⟩,
       ⟨(some 21), (.p (.faddr 0)), [.t 20], none⟩,
       ⟨(some 22), (.h (.load false 1)), [.t 21], none⟩,
       ⟨(some 23), (.p .mov), [.t 1], none⟩,
       ⟨(some 24), (.p (.bin .eql .int)), [.t 22, .t 23], none⟩])
     (.cond (.t 24)
      (.seq
       (.ops [
         ⟨(some 25), (.p .mov), [.t 7], none⟩,
         ⟨(some 26), (.p .mov), [.t 8], none⟩,
         ⟨(some 27), (.p .mov), [.t 8], none⟩,
         ⟨(some 28), (.p (.bin .add .ifc)), [.t 27, .c (.int .i64 1)], none⟩,
         ⟨(some 29), (.p (.slc 2 true true)), [.t 25, .t 26, .t 28], none⟩,
         ⟨(some 6), (.p .mov), [.t 29], none⟩])
       (.ret [6]))
      .skip)))
   (.ops [
     ⟨(some 16), (.p .mov), [.t 8], none⟩,
     ⟨(some 17), (.p (.bin .add .ifc)), [.t 16, .c (.int .i64 1)], none⟩,
     ⟨(some 8), (.p .mov), [.t 17], none⟩])))
def r05_one_L0 : CCode := .bloop 0 [1, 7, 8] [] r05_one_B0
def r05_one_C : CCode :=
 (.seq
  (.ops [
    ⟨(some 3), (.h (.box 3)), [.t 0], none⟩,
    ⟨(some 6), (.p .mov), [.c .nils], none⟩])
  (.seq
   (.ops [
     ⟨(some 9), (.h (.load true 10)), [.t 3], none⟩,
     ⟨(some 10), (.p .mov), [.t 2], none⟩,
     ⟨(some 11), .call, [.c (.fn (.func 91) [] []), .t 9, .t 10], none⟩,
     ⟨(some 7), (.p .mov), [.t 11], none⟩])
   (.seq
    (.seq
     (.ops [
       ⟨(some 8), (.p .mov), [.c (.int .i64 0)], none⟩])
     r05_one_L0)
    (.seq
     (.ops [
       ⟨(some 6), (.p .mov), [.c .nils], none⟩])
     (.ret [6])))))
def r05_one_I : FInfo := ⟨(.fz false), 3, r05_one_C, [.tmp 6]⟩
def r05_one_A : Ann := ⟨[], [], [(0, [1, 7, 8], [])], [(1, [1, 7, 8])], [3]⟩
abbrev n_r05_one : Nat := 102

/-! ### slices.Concat[[]balise/api.End,balise/api.End] -/
def slices_Concat_End_B0 : CCode :=
 (.seq
  (.ops [
    ⟨(some 12), (.p (.bin .lss .ifc)), [.t 11, .t 10], none⟩])
  (.seq
   (.cond (.t 12)
    .skip
    (.exit 0))
   (.seq
    (.block 1 (some [0, 3, 9, 10, 11])
     (.seq
      (.ops [
        ⟨(some 13), (.p (.iaddr 1)), [.t 9, .t 11], none⟩,
        ⟨(some 14), (.h (.load false 1)), [.t 13], none⟩,
        ⟨(some 5), (.p .mov), [.t 14], none⟩])
      (.seq
       (.ops [
         ⟨(some 15), (.p .mov), [.t 3], none⟩,
         ⟨(some 16), (.p .mov), [.t 5], none⟩,
         ⟨(some 17), (.p .len), [.t 16], none⟩,
         ⟨(some 18), (.p (.bin .add .ifc)), [.t 15, .t 17], none⟩,
         ⟨(some 3), (.p .mov), [.t 18], none⟩])
       (.seq
        (.ops [
          ⟨(some 19), (.p .mov), [.t 3], none⟩,
          ⟨(some 20), (.p (.bin .lss .ifc)), [.t 19, .c (.int .i64 0)], none⟩])
        (.cond (.t 20)
         bad
         .skip)))))
    (.ops [
      ⟨(some 22), (.p (.bin .add .ifc)), [.t 11, .c (.int .i64 1)], none⟩,
      ⟨(some 11), (.p .mov), [.t 22], none⟩]))))
def slices_Concat_End_L0 : CCode := .bloop 0 [0, 3, 9, 10, 11] [0, 3] slices_Concat_End_B0

def slices_Concat_End_B2 : CCode :=
 (.seq
  (.ops [
    ⟨(some 28), (.p (.bin .lss .ifc)), [.t 27, .t 26], none⟩])
  (.seq
   (.cond (.t 28)
    .skip
    (.exit 2))
   (.seq
    (.block 3 (some [6, 25, 26, 27])
     (.seq
      (.ops [
        ⟨(some 29), (.p (.iaddr 1)), [.t 25, .t 27], none⟩,
        ⟨(some 30), (.h (.load false 1)), [.t 29], none⟩,
        ⟨(some 8), (.p .mov), [.t 30], none⟩])
      (.ops [
        ⟨(some 31), (.p .mov), [.t 6], none⟩,
        ⟨(some 32), (.p .mov), [.t 8], none⟩,
        ⟨(some 33), (.h (.app 2 16 [(.int .i64 0), (.int .i64 0)])), [.t 31, .t 32], none⟩,
        ⟨(some 6), (.p .mov), [.t 33], none⟩])))
    (.ops [
      ⟨(some 34), (.p (.bin .add .ifc)), [.t 27, .c (.int .i64 1)], none⟩,
      ⟨(some 27), (.p .mov), [.t 34], none⟩]))))
def slices_Concat_End_L2 : CCode := .bloop 2 [6, 25, 26, 27] [6] slices_Concat_End_B2
def slices_Concat_End_C : CCode :=
 (.seq
  (.ops [
    ⟨(some 2), (.p .mov), [.c .nils], none⟩])
  (.seq
   (.ops [
     ⟨(some 3), (.p .mov), [.c (.int .i64 0)], none⟩])
   (.seq
    (.seq
     (.ops [
       ⟨(some 9), (.p .mov), [.t 0], none⟩,
       ⟨(some 10), (.p .len), [.t 9], none⟩,
       ⟨(some 11), (.p .mov), [.c (.int .i64 0)], none⟩])
     slices_Concat_End_L0)
    (.seq
     (.ops [
       ⟨(some 23), (.p .mov), [.t 3], none⟩,
       ⟨(some 24), .call, [.c (.fn (.func 106) [] []), .c .nils, .t 23], none⟩,
       ⟨(some 6), (.p .mov), [.t 24], none⟩])
     (.seq
      (.seq
       (.ops [
         ⟨(some 25), (.p .mov), [.t 0], none⟩,
         ⟨(some 26), (.p .len), [.t 25], none⟩,
         ⟨(some 27), (.p .mov), [.c (.int .i64 0)], none⟩])
       slices_Concat_End_L2)
      (.seq
       (.ops [
         ⟨(some 35), (.p .mov), [.t 6], none⟩,
         ⟨(some 2), (.p .mov), [.t 35], none⟩])
       (.ret [2])))))))
def slices_Concat_End_I : FInfo := ⟨(.fz false), 1, slices_Concat_End_C, [.tmp 2]⟩
def slices_Concat_End_A : Ann := ⟨[], [], [(0, [0, 3, 9, 10, 11], [0, 3]), (2, [6, 25, 26, 27], [6])], [(1, [0, 3, 9, 10, 11]), (3, [6, 25, 26, 27])], []⟩
abbrev n_slices_Concat_End : Nat := 79

/-! ### slices.Grow[[]balise/api.End,balise/api.End] -/
def slices_Grow_End_C : CCode :=
 (.seq
  (.ops [
    ⟨(some 4), (.p .mov), [.c .nils], none⟩])
  (.seq
   (.seq
    (.ops [
      ⟨(some 5), (.p .mov), [.t 1], none⟩,
      ⟨(some 6), (.p (.bin .lss .ifc)), [.t 5, .c (.int .i64 0)], none⟩])
    (.cond (.t 6)
     bad
     .skip))
   (.seq
    (.seq
     (.ops [
       ⟨(some 8), (.p .mov), [.t 1], none⟩,
       ⟨(some 9), (.p .mov), [.t 0], none⟩,
       ⟨(some 10), (.p .cap), [.t 9], none⟩,
       ⟨(some 11), (.p .mov), [.t 0], none⟩,
       ⟨(some 12), (.p .len), [.t 11], none⟩,
       ⟨(some 13), (.p (.bin .sub .ifc)), [.t 10, .t 12], none⟩,
       ⟨(some 14), (.p (.bin .sub .ifc)), [.t 8, .t 13], none⟩,
       ⟨(some 1), (.p .mov), [.t 14], none⟩])
     (.seq
      (.ops [
        ⟨(some 15), (.p .mov), [.t 1], none⟩,
        ⟨(some 16), (.p (.bin .gtr .ifc)), [.t 15, .c (.int .i64 0)], none⟩])
      (.cond (.t 16)
       (.ops [
         ⟨(some 17), (.p .mov), [.t 0], none⟩,
         ⟨(some 18), (.p .mov), [.t 0], none⟩,
         ⟨(some 19), (.p .cap), [.t 18], none⟩,
         ⟨(some 20), (.p (.slc 2 false true)), [.t 17, .t 19], none⟩,
         ⟨(some 21), (.p .mov), [.t 1], none⟩,
         ⟨(some 22), (.h (.appz 2 16 [(.int .i64 0), (.int .i64 0)])), [.t 20, .t 21], none⟩,
         ⟨(some 23), (.p .mov), [.t 0], none⟩,
         ⟨(some 24), (.p .len), [.t 23], none⟩,
         ⟨(some 25), (.p (.slc 2 false true)), [.t 22, .t 24], none⟩,
         ⟨(some 0), (.p .mov), [.t 25], none⟩])
       .skip)))
    (.seq
     (.ops [
       ⟨(some 26), (.p .mov), [.t 0], none⟩,
       ⟨(some 4), (.p .mov), [.t 26], none⟩])
     (.ret [4])))))
def slices_Grow_End_I : FInfo := ⟨.ref, 2, slices_Grow_End_C, [.tmp 4]⟩
def slices_Grow_End_A : Ann := ⟨[], [], [], [], []⟩
abbrev n_slices_Grow_End : Nat := 106

/-- All of them. -/
def tab : List (Nat × FInfo) := [(3, l10_TrainFits_I), (15, l10_behind_I), (16, r04_Small_I), (17, r05_Full_I), (18, graph_New_I), (19, l10_report_I), (20, train_Fits_I), (21, r10_Fits_I), (22, r10_Back_I), (27, r01_Ints_I), (41, graph_Graph_Around_I), (42, r01_Has_I), (44, graph_Graph_Ends_I), (47, graph_Graph_Len_I), (48, r05_Walk_I), (53, graph_Graph_Point_I), (54, train_Join_I), (55, r04_Make_I), (56, r05_Len_I), (57, train_unlike_I), (58, slices_IndexFunc_End_I), (59, train_Fits_1_I), (60, r01_Rise_I), (61, r05_Around_I), (62, slices_Clone_int_I), (76, graph_Graph_node_I), (77, slices_DeleteFunc_End_I), (78, graph_Graph_Around_1_I), (80, graph_Graph_at_I), (83, graph_Graph_section_I), (84, slices_IndexFunc_int_I), (86, slices_Contains_int_I), (89, r05_Point_I), (91, r05_Ends_I), (98, slices_IndexFunc_Point_I), (99, graph_Graph_Point_1_I), (100, slices_Index_int_I), (101, r05_node_I), (102, r05_one_I), (79, slices_Concat_End_I), (106, slices_Grow_End_I)]
def ctx : Ctx := ⟨Zc.look tab, fun _ => none⟩
theorem l10_TrainFits_ok : compF Try.prog (quietOf ctx) l10_TrainFits_A (.fz false) Try.f3 = some l10_TrainFits_I := by kernel_rfl
theorem l10_behind_ok : compF Try.prog (quietOf ctx) l10_behind_A (.fz false) Try.f15 = some l10_behind_I := by kernel_rfl
theorem r04_Small_ok : compF Try.prog (quietOf ctx) r04_Small_A (.fz false) Try.f16 = some r04_Small_I := by kernel_rfl
theorem r05_Full_ok : compF Try.prog (quietOf ctx) r05_Full_A (.fz false) Try.f17 = some r05_Full_I := by kernel_rfl
theorem graph_New_ok : compF Try.prog (quietOf ctx) graph_New_A (.fz false) Try.f18 = some graph_New_I := by kernel_rfl
theorem l10_report_ok : compF Try.prog (quietOf ctx) l10_report_A (.fz false) Try.f19 = some l10_report_I := by kernel_rfl
theorem train_Fits_ok : compF Try.prog (quietOf ctx) train_Fits_A (.fz false) Try.f20 = some train_Fits_I := by kernel_rfl
theorem r10_Fits_ok : compF Try.prog (quietOf ctx) r10_Fits_A (.fz false) Try.f21 = some r10_Fits_I := by kernel_rfl
theorem r10_Back_ok : compF Try.prog (quietOf ctx) r10_Back_A (.fz false) Try.f22 = some r10_Back_I := by kernel_rfl
theorem r01_Ints_ok : compF Try.prog (quietOf ctx) r01_Ints_A (.fz false) Try.f27 = some r01_Ints_I := by kernel_rfl
theorem graph_Graph_Around_ok : compF Try.prog (quietOf ctx) graph_Graph_Around_A (.fz false) Try.f41 = some graph_Graph_Around_I := by kernel_rfl
theorem r01_Has_ok : compF Try.prog (quietOf ctx) r01_Has_A (.fz false) Try.f42 = some r01_Has_I := by kernel_rfl
theorem graph_Graph_Ends_ok : compF Try.prog (quietOf ctx) graph_Graph_Ends_A .own Try.f44 = some graph_Graph_Ends_I := by kernel_rfl
theorem graph_Graph_Len_ok : compF Try.prog (quietOf ctx) graph_Graph_Len_A (.fz false) Try.f47 = some graph_Graph_Len_I := by kernel_rfl
theorem r05_Walk_ok : compF Try.prog (quietOf ctx) r05_Walk_A (.fz false) Try.f48 = some r05_Walk_I := by kernel_rfl
theorem graph_Graph_Point_ok : compF Try.prog (quietOf ctx) graph_Graph_Point_A (.fz false) Try.f53 = some graph_Graph_Point_I := by kernel_rfl
theorem train_Join_ok : compF Try.prog (quietOf ctx) train_Join_A (.fz false) Try.f54 = some train_Join_I := by kernel_rfl
theorem r04_Make_ok : compF Try.prog (quietOf ctx) r04_Make_A (.fz true) Try.f55 = some r04_Make_I := by kernel_rfl
theorem r05_Len_ok : compF Try.prog (quietOf ctx) r05_Len_A (.fz false) Try.f56 = some r05_Len_I := by kernel_rfl
theorem train_unlike_ok : compF Try.prog (quietOf ctx) train_unlike_A (.fz false) Try.f57 = some train_unlike_I := by kernel_rfl
theorem slices_IndexFunc_End_ok : compF Try.prog (quietOf ctx) slices_IndexFunc_End_A (.fz false) Try.f58 = some slices_IndexFunc_End_I := by kernel_rfl
theorem train_Fits_1_ok : compF Try.prog (quietOf ctx) train_Fits_1_A (.fz false) Try.f59 = some train_Fits_1_I := by kernel_rfl
theorem r01_Rise_ok : compF Try.prog (quietOf ctx) r01_Rise_A (.fz false) Try.f60 = some r01_Rise_I := by kernel_rfl
theorem r05_Around_ok : compF Try.prog (quietOf ctx) r05_Around_A (.fz false) Try.f61 = some r05_Around_I := by kernel_rfl
theorem slices_Clone_int_ok : compF Try.prog (quietOf ctx) slices_Clone_int_A .own Try.f62 = some slices_Clone_int_I := by kernel_rfl
theorem graph_Graph_node_ok : compF Try.prog (quietOf ctx) graph_Graph_node_A (.fz false) Try.f76 = some graph_Graph_node_I := by kernel_rfl
theorem slices_DeleteFunc_End_ok : compF Try.prog (quietOf ctx) slices_DeleteFunc_End_A .ref Try.f77 = some slices_DeleteFunc_End_I := by kernel_rfl
theorem graph_Graph_Around_1_ok : compF Try.prog (quietOf ctx) graph_Graph_Around_1_A (.fz false) Try.f78 = some graph_Graph_Around_1_I := by kernel_rfl
theorem graph_Graph_at_ok : compF Try.prog (quietOf ctx) graph_Graph_at_A (.fz false) Try.f80 = some graph_Graph_at_I := by kernel_rfl
theorem graph_Graph_section_ok : compF Try.prog (quietOf ctx) graph_Graph_section_A (.fz false) Try.f83 = some graph_Graph_section_I := by kernel_rfl
theorem slices_IndexFunc_int_ok : compF Try.prog (quietOf ctx) slices_IndexFunc_int_A (.fz false) Try.f84 = some slices_IndexFunc_int_I := by kernel_rfl
theorem slices_Contains_int_ok : compF Try.prog (quietOf ctx) slices_Contains_int_A (.fz false) Try.f86 = some slices_Contains_int_I := by kernel_rfl
theorem r05_Point_ok : compF Try.prog (quietOf ctx) r05_Point_A (.fz false) Try.f89 = some r05_Point_I := by kernel_rfl
theorem r05_Ends_ok : compF Try.prog (quietOf ctx) r05_Ends_A (.fz false) Try.f91 = some r05_Ends_I := by kernel_rfl
theorem slices_IndexFunc_Point_ok : compF Try.prog (quietOf ctx) slices_IndexFunc_Point_A (.fz false) Try.f98 = some slices_IndexFunc_Point_I := by kernel_rfl
theorem graph_Graph_Point_1_ok : compF Try.prog (quietOf ctx) graph_Graph_Point_1_A (.fz false) Try.f99 = some graph_Graph_Point_1_I := by kernel_rfl
theorem slices_Index_int_ok : compF Try.prog (quietOf ctx) slices_Index_int_A (.fz false) Try.f100 = some slices_Index_int_I := by kernel_rfl
theorem r05_node_ok : compF Try.prog (quietOf ctx) r05_node_A (.fz false) Try.f101 = some r05_node_I := by kernel_rfl
theorem r05_one_ok : compF Try.prog (quietOf ctx) r05_one_A (.fz false) Try.f102 = some r05_one_I := by kernel_rfl
theorem slices_Concat_End_ok : compF Try.prog (quietOf ctx) slices_Concat_End_A (.fz false) Try.f79 = some slices_Concat_End_I := by kernel_rfl
theorem slices_Grow_End_ok : compF Try.prog (quietOf ctx) slices_Grow_End_A .ref Try.f106 = some slices_Grow_End_I := by kernel_rfl
theorem ctx_ok : CtxOk Try.prog ctx :=
  ctxOk_of (by kernel_rfl) (
    .cons ⟨_, _, Try.func3, l10_TrainFits_ok⟩ (
    .cons ⟨_, _, Try.func15, l10_behind_ok⟩ (
    .cons ⟨_, _, Try.func16, r04_Small_ok⟩ (
    .cons ⟨_, _, Try.func17, r05_Full_ok⟩ (
    .cons ⟨_, _, Try.func18, graph_New_ok⟩ (
    .cons ⟨_, _, Try.func19, l10_report_ok⟩ (
    .cons ⟨_, _, Try.func20, train_Fits_ok⟩ (
    .cons ⟨_, _, Try.func21, r10_Fits_ok⟩ (
    .cons ⟨_, _, Try.func22, r10_Back_ok⟩ (
    .cons ⟨_, _, Try.func27, r01_Ints_ok⟩ (
    .cons ⟨_, _, Try.func41, graph_Graph_Around_ok⟩ (
    .cons ⟨_, _, Try.func42, r01_Has_ok⟩ (
    .cons ⟨_, _, Try.func44, graph_Graph_Ends_ok⟩ (
    .cons ⟨_, _, Try.func47, graph_Graph_Len_ok⟩ (
    .cons ⟨_, _, Try.func48, r05_Walk_ok⟩ (
    .cons ⟨_, _, Try.func53, graph_Graph_Point_ok⟩ (
    .cons ⟨_, _, Try.func54, train_Join_ok⟩ (
    .cons ⟨_, _, Try.func55, r04_Make_ok⟩ (
    .cons ⟨_, _, Try.func56, r05_Len_ok⟩ (
    .cons ⟨_, _, Try.func57, train_unlike_ok⟩ (
    .cons ⟨_, _, Try.func58, slices_IndexFunc_End_ok⟩ (
    .cons ⟨_, _, Try.func59, train_Fits_1_ok⟩ (
    .cons ⟨_, _, Try.func60, r01_Rise_ok⟩ (
    .cons ⟨_, _, Try.func61, r05_Around_ok⟩ (
    .cons ⟨_, _, Try.func62, slices_Clone_int_ok⟩ (
    .cons ⟨_, _, Try.func76, graph_Graph_node_ok⟩ (
    .cons ⟨_, _, Try.func77, slices_DeleteFunc_End_ok⟩ (
    .cons ⟨_, _, Try.func78, graph_Graph_Around_1_ok⟩ (
    .cons ⟨_, _, Try.func80, graph_Graph_at_ok⟩ (
    .cons ⟨_, _, Try.func83, graph_Graph_section_ok⟩ (
    .cons ⟨_, _, Try.func84, slices_IndexFunc_int_ok⟩ (
    .cons ⟨_, _, Try.func86, slices_Contains_int_ok⟩ (
    .cons ⟨_, _, Try.func89, r05_Point_ok⟩ (
    .cons ⟨_, _, Try.func91, r05_Ends_ok⟩ (
    .cons ⟨_, _, Try.func98, slices_IndexFunc_Point_ok⟩ (
    .cons ⟨_, _, Try.func99, graph_Graph_Point_1_ok⟩ (
    .cons ⟨_, _, Try.func100, slices_Index_int_ok⟩ (
    .cons ⟨_, _, Try.func101, r05_node_ok⟩ (
    .cons ⟨_, _, Try.func102, r05_one_ok⟩ (
    .cons ⟨_, _, Try.func79, slices_Concat_End_ok⟩ (
    .cons ⟨_, _, Try.func106, slices_Grow_End_ok⟩ (
    .nil))))))))))))))))))))))))))))))))))))))))))
noncomputable def l10_TrainFits_F (st : Bool) (H : Heap) (xs : List CV) : Option (CV × Heap) := fzE ctx false 4 l10_TrainFits_C [.tmp 8] st H xs
theorem l10_TrainFits_F_eq (st : Bool) (H : Heap) (xs : List CV) : l10_TrainFits_F st H xs = if xs.length = 4 then (eval ctx l10_TrainFits_C (enterC 0 xs) ⟨[], []⟩).bind (fzOut [.tmp 8] st false H) else none := (rfl)
theorem l10_TrainFits_call (cap args : List CV) (H : Heap) : call ctx (.fn (.func 3) [] cap) args H = (snapL H false false (args ++ cap)).bind (l10_TrainFits_F (CV.refs (args ++ cap)) H) := fz_call rfl (show ctx.info 3 = some l10_TrainFits_I by kernel_rfl) cap args H
noncomputable def l10_behind_F (st : Bool) (H : Heap) (xs : List CV) : Option (CV × Heap) := fzE ctx false 0 l10_behind_C [.tmp 0] st H xs
theorem l10_behind_F_eq (st : Bool) (H : Heap) (xs : List CV) : l10_behind_F st H xs = if xs.length = 0 then (eval ctx l10_behind_C (enterC 0 xs) ⟨[], []⟩).bind (fzOut [.tmp 0] st false H) else none := (rfl)
theorem l10_behind_call (cap args : List CV) (H : Heap) : call ctx (.fn (.func 15) [] cap) args H = (snapL H false false (args ++ cap)).bind (l10_behind_F (CV.refs (args ++ cap)) H) := fz_call rfl (show ctx.info 15 = some l10_behind_I by kernel_rfl) cap args H
noncomputable def r04_Small_F (st : Bool) (H : Heap) (xs : List CV) : Option (CV × Heap) := fzE ctx false 1 r04_Small_C [.tmp 2] st H xs
theorem r04_Small_F_eq (st : Bool) (H : Heap) (xs : List CV) : r04_Small_F st H xs = if xs.length = 1 then (eval ctx r04_Small_C (enterC 0 xs) ⟨[], []⟩).bind (fzOut [.tmp 2] st false H) else none := (rfl)
theorem r04_Small_call (cap args : List CV) (H : Heap) : call ctx (.fn (.func 16) [] cap) args H = (snapL H false false (args ++ cap)).bind (r04_Small_F (CV.refs (args ++ cap)) H) := fz_call rfl (show ctx.info 16 = some r04_Small_I by kernel_rfl) cap args H
noncomputable def r05_Full_F (st : Bool) (H : Heap) (xs : List CV) : Option (CV × Heap) := fzE ctx false 1 r05_Full_C [.cell 2 true 10] st H xs
theorem r05_Full_F_eq (st : Bool) (H : Heap) (xs : List CV) : r05_Full_F st H xs = if xs.length = 1 then (eval ctx r05_Full_C (enterC 0 xs) ⟨[], []⟩).bind (fzOut [.cell 2 true 10] st false H) else none := (rfl)
theorem r05_Full_call (cap args : List CV) (H : Heap) : call ctx (.fn (.func 17) [] cap) args H = (snapL H false false (args ++ cap)).bind (r05_Full_F (CV.refs (args ++ cap)) H) := fz_call rfl (show ctx.info 17 = some r05_Full_I by kernel_rfl) cap args H
noncomputable def graph_New_F (st : Bool) (H : Heap) (xs : List CV) : Option (CV × Heap) := fzE ctx false 1 graph_New_C [.tmp 2] st H xs
theorem graph_New_F_eq (st : Bool) (H : Heap) (xs : List CV) : graph_New_F st H xs = if xs.length = 1 then (eval ctx graph_New_C (enterC 0 xs) ⟨[], []⟩).bind (fzOut [.tmp 2] st false H) else none := (rfl)
theorem graph_New_call (cap args : List CV) (H : Heap) : call ctx (.fn (.func 18) [] cap) args H = (snapL H false false (args ++ cap)).bind (graph_New_F (CV.refs (args ++ cap)) H) := fz_call rfl (show ctx.info 18 = some graph_New_I by kernel_rfl) cap args H
noncomputable def l10_report_F (st : Bool) (H : Heap) (xs : List CV) : Option (CV × Heap) := fzE ctx false 3 l10_report_C [.cell 6 true 7] st H xs
theorem l10_report_F_eq (st : Bool) (H : Heap) (xs : List CV) : l10_report_F st H xs = if xs.length = 3 then (eval ctx l10_report_C (enterC 0 xs) ⟨[], []⟩).bind (fzOut [.cell 6 true 7] st false H) else none := (rfl)
theorem l10_report_call (cap args : List CV) (H : Heap) : call ctx (.fn (.func 19) [] cap) args H = (snapL H false false (args ++ cap)).bind (l10_report_F (CV.refs (args ++ cap)) H) := fz_call rfl (show ctx.info 19 = some l10_report_I by kernel_rfl) cap args H
noncomputable def train_Fits_F (st : Bool) (H : Heap) (xs : List CV) : Option (CV × Heap) := fzE ctx false 2 train_Fits_C [.tmp 4] st H xs
theorem train_Fits_F_eq (st : Bool) (H : Heap) (xs : List CV) : train_Fits_F st H xs = if xs.length = 2 then (eval ctx train_Fits_C (enterC 0 xs) ⟨[], []⟩).bind (fzOut [.tmp 4] st false H) else none := (rfl)
theorem train_Fits_call (cap args : List CV) (H : Heap) : call ctx (.fn (.func 20) [] cap) args H = (snapL H false false (args ++ cap)).bind (train_Fits_F (CV.refs (args ++ cap)) H) := fz_call rfl (show ctx.info 20 = some train_Fits_I by kernel_rfl) cap args H
noncomputable def r10_Fits_F (st : Bool) (H : Heap) (xs : List CV) : Option (CV × Heap) := fzE ctx false 2 r10_Fits_C [.tmp 4] st H xs
theorem r10_Fits_F_eq (st : Bool) (H : Heap) (xs : List CV) : r10_Fits_F st H xs = if xs.length = 2 then (eval ctx r10_Fits_C (enterC 0 xs) ⟨[], []⟩).bind (fzOut [.tmp 4] st false H) else none := (rfl)
theorem r10_Fits_call (cap args : List CV) (H : Heap) : call ctx (.fn (.func 21) [] cap) args H = (snapL H false false (args ++ cap)).bind (r10_Fits_F (CV.refs (args ++ cap)) H) := fz_call rfl (show ctx.info 21 = some r10_Fits_I by kernel_rfl) cap args H
noncomputable def r10_Back_F (st : Bool) (H : Heap) (xs : List CV) : Option (CV × Heap) := fzE ctx false 1 r10_Back_C [.tmp 2] st H xs
theorem r10_Back_F_eq (st : Bool) (H : Heap) (xs : List CV) : r10_Back_F st H xs = if xs.length = 1 then (eval ctx r10_Back_C (enterC 0 xs) ⟨[], []⟩).bind (fzOut [.tmp 2] st false H) else none := (rfl)
theorem r10_Back_call (cap args : List CV) (H : Heap) : call ctx (.fn (.func 22) [] cap) args H = (snapL H false false (args ++ cap)).bind (r10_Back_F (CV.refs (args ++ cap)) H) := fz_call rfl (show ctx.info 22 = some r10_Back_I by kernel_rfl) cap args H
noncomputable def r01_Ints_F (st : Bool) (H : Heap) (xs : List CV) : Option (CV × Heap) := fzE ctx false 2 r01_Ints_C [.tmp 4] st H xs
theorem r01_Ints_F_eq (st : Bool) (H : Heap) (xs : List CV) : r01_Ints_F st H xs = if xs.length = 2 then (eval ctx r01_Ints_C (enterC 0 xs) ⟨[], []⟩).bind (fzOut [.tmp 4] st false H) else none := (rfl)
theorem r01_Ints_call (cap args : List CV) (H : Heap) : call ctx (.fn (.func 27) [] cap) args H = (snapL H false false (args ++ cap)).bind (r01_Ints_F (CV.refs (args ++ cap)) H) := fz_call rfl (show ctx.info 27 = some r01_Ints_I by kernel_rfl) cap args H
noncomputable def graph_Graph_Around_F (st : Bool) (H : Heap) (xs : List CV) : Option (CV × Heap) := fzE ctx false 2 graph_Graph_Around_C [.tmp 4] st H xs
theorem graph_Graph_Around_F_eq (st : Bool) (H : Heap) (xs : List CV) : graph_Graph_Around_F st H xs = if xs.length = 2 then (eval ctx graph_Graph_Around_C (enterC 0 xs) ⟨[], []⟩).bind (fzOut [.tmp 4] st false H) else none := (rfl)
theorem graph_Graph_Around_call (cap args : List CV) (H : Heap) : call ctx (.fn (.func 41) [] cap) args H = (snapL H false false (args ++ cap)).bind (graph_Graph_Around_F (CV.refs (args ++ cap)) H) := fz_call rfl (show ctx.info 41 = some graph_Graph_Around_I by kernel_rfl) cap args H
noncomputable def r01_Has_F (st : Bool) (H : Heap) (xs : List CV) : Option (CV × Heap) := fzE ctx false 2 r01_Has_C [.tmp 4] st H xs
theorem r01_Has_F_eq (st : Bool) (H : Heap) (xs : List CV) : r01_Has_F st H xs = if xs.length = 2 then (eval ctx r01_Has_C (enterC 0 xs) ⟨[], []⟩).bind (fzOut [.tmp 4] st false H) else none := (rfl)
theorem r01_Has_call (cap args : List CV) (H : Heap) : call ctx (.fn (.func 42) [] cap) args H = (snapL H false false (args ++ cap)).bind (r01_Has_F (CV.refs (args ++ cap)) H) := fz_call rfl (show ctx.info 42 = some r01_Has_I by kernel_rfl) cap args H
noncomputable def graph_Graph_Ends_F (st : Bool) (H : Heap) (xs : List CV) : Option (CV × Heap) := oE ctx 2 graph_Graph_Ends_C [.tmp 4] st H xs
theorem graph_Graph_Ends_F_eq (st : Bool) (H : Heap) (xs : List CV) : graph_Graph_Ends_F st H xs = if xs.length = 2 then (eval ctx graph_Graph_Ends_C (enterC 0 xs) ⟨[], []⟩).bind (ownOut [.tmp 4] st H) else none := (rfl)
theorem graph_Graph_Ends_call (cap args : List CV) (H : Heap) : call ctx (.fn (.func 44) [] cap) args H = (snapL H false false (args ++ cap)).bind (graph_Graph_Ends_F (CV.refs (args ++ cap)) H) := own_call rfl (show ctx.info 44 = some graph_Graph_Ends_I by kernel_rfl) cap args H
noncomputable def graph_Graph_Len_F (st : Bool) (H : Heap) (xs : List CV) : Option (CV × Heap) := fzE ctx false 2 graph_Graph_Len_C [.tmp 4] st H xs
theorem graph_Graph_Len_F_eq (st : Bool) (H : Heap) (xs : List CV) : graph_Graph_Len_F st H xs = if xs.length = 2 then (eval ctx graph_Graph_Len_C (enterC 0 xs) ⟨[], []⟩).bind (fzOut [.tmp 4] st false H) else none := (rfl)
theorem graph_Graph_Len_call (cap args : List CV) (H : Heap) : call ctx (.fn (.func 47) [] cap) args H = (snapL H false false (args ++ cap)).bind (graph_Graph_Len_F (CV.refs (args ++ cap)) H) := fz_call rfl (show ctx.info 47 = some graph_Graph_Len_I by kernel_rfl) cap args H
noncomputable def r05_Walk_F (st : Bool) (H : Heap) (xs : List CV) : Option (CV × Heap) := fzE ctx false 5 r05_Walk_C [.tmp 10] st H xs
theorem r05_Walk_F_eq (st : Bool) (H : Heap) (xs : List CV) : r05_Walk_F st H xs = if xs.length = 5 then (eval ctx r05_Walk_C (enterC 0 xs) ⟨[], []⟩).bind (fzOut [.tmp 10] st false H) else none := (rfl)
theorem r05_Walk_call (cap args : List CV) (H : Heap) : call ctx (.fn (.func 48) [] cap) args H = (snapL H false false (args ++ cap)).bind (r05_Walk_F (CV.refs (args ++ cap)) H) := fz_call rfl (show ctx.info 48 = some r05_Walk_I by kernel_rfl) cap args H
noncomputable def graph_Graph_Point_F (st : Bool) (H : Heap) (xs : List CV) : Option (CV × Heap) := fzE ctx false 2 graph_Graph_Point_C [.tmp 4] st H xs
theorem graph_Graph_Point_F_eq (st : Bool) (H : Heap) (xs : List CV) : graph_Graph_Point_F st H xs = if xs.length = 2 then (eval ctx graph_Graph_Point_C (enterC 0 xs) ⟨[], []⟩).bind (fzOut [.tmp 4] st false H) else none := (rfl)
theorem graph_Graph_Point_call (cap args : List CV) (H : Heap) : call ctx (.fn (.func 53) [] cap) args H = (snapL H false false (args ++ cap)).bind (graph_Graph_Point_F (CV.refs (args ++ cap)) H) := fz_call rfl (show ctx.info 53 = some graph_Graph_Point_I by kernel_rfl) cap args H
noncomputable def train_Join_F (st : Bool) (H : Heap) (xs : List CV) : Option (CV × Heap) := fzE ctx false 2 train_Join_C [.tmp 4] st H xs
theorem train_Join_F_eq (st : Bool) (H : Heap) (xs : List CV) : train_Join_F st H xs = if xs.length = 2 then (eval ctx train_Join_C (enterC 0 xs) ⟨[], []⟩).bind (fzOut [.tmp 4] st false H) else none := (rfl)
theorem train_Join_call (cap args : List CV) (H : Heap) : call ctx (.fn (.func 54) [] cap) args H = (snapL H false false (args ++ cap)).bind (train_Join_F (CV.refs (args ++ cap)) H) := fz_call rfl (show ctx.info 54 = some train_Join_I by kernel_rfl) cap args H
noncomputable def r04_Make_F (st : Bool) (H : Heap) (xs : List CV) : Option (CV × Heap) := fzE ctx true 1 r04_Make_C [.cell 2 true 10] st H xs
theorem r04_Make_F_eq (st : Bool) (H : Heap) (xs : List CV) : r04_Make_F st H xs = if xs.length = 1 then (eval ctx r04_Make_C (enterC 0 xs) ⟨[], []⟩).bind (fzOut [.cell 2 true 10] st true H) else none := (rfl)
theorem r04_Make_call (cap args : List CV) (H : Heap) : call ctx (.fn (.func 55) [] cap) args H = (snapL H false false (args ++ cap)).bind (r04_Make_F (CV.refs (args ++ cap)) H) := fz_call rfl (show ctx.info 55 = some r04_Make_I by kernel_rfl) cap args H
noncomputable def r05_Len_F (st : Bool) (H : Heap) (xs : List CV) : Option (CV × Heap) := fzE ctx false 2 r05_Len_C [.tmp 4] st H xs
theorem r05_Len_F_eq (st : Bool) (H : Heap) (xs : List CV) : r05_Len_F st H xs = if xs.length = 2 then (eval ctx r05_Len_C (enterC 0 xs) ⟨[], []⟩).bind (fzOut [.tmp 4] st false H) else none := (rfl)
theorem r05_Len_call (cap args : List CV) (H : Heap) : call ctx (.fn (.func 56) [] cap) args H = (snapL H false false (args ++ cap)).bind (r05_Len_F (CV.refs (args ++ cap)) H) := fz_call rfl (show ctx.info 56 = some r05_Len_I by kernel_rfl) cap args H
noncomputable def train_unlike_F (st : Bool) (H : Heap) (xs : List CV) : Option (CV × Heap) := fzE ctx false 2 train_unlike_C [.tmp 4] st H xs
theorem train_unlike_F_eq (st : Bool) (H : Heap) (xs : List CV) : train_unlike_F st H xs = if xs.length = 2 then (eval ctx train_unlike_C (enterC 0 xs) ⟨[], []⟩).bind (fzOut [.tmp 4] st false H) else none := (rfl)
theorem train_unlike_call (cap args : List CV) (H : Heap) : call ctx (.fn (.func 57) [] cap) args H = (snapL H false false (args ++ cap)).bind (train_unlike_F (CV.refs (args ++ cap)) H) := fz_call rfl (show ctx.info 57 = some train_unlike_I by kernel_rfl) cap args H
noncomputable def slices_IndexFunc_End_F (st : Bool) (H : Heap) (xs : List CV) : Option (CV × Heap) := fzE ctx false 2 slices_IndexFunc_End_C [.tmp 4] st H xs
theorem slices_IndexFunc_End_F_eq (st : Bool) (H : Heap) (xs : List CV) : slices_IndexFunc_End_F st H xs = if xs.length = 2 then (eval ctx slices_IndexFunc_End_C (enterC 0 xs) ⟨[], []⟩).bind (fzOut [.tmp 4] st false H) else none := (rfl)
theorem slices_IndexFunc_End_call (cap args : List CV) (H : Heap) : call ctx (.fn (.func 58) [] cap) args H = (snapL H false false (args ++ cap)).bind (slices_IndexFunc_End_F (CV.refs (args ++ cap)) H) := fz_call rfl (show ctx.info 58 = some slices_IndexFunc_End_I by kernel_rfl) cap args H
noncomputable def train_Fits_1_F (st : Bool) (H : Heap) (xs : List CV) : Option (CV × Heap) := fzE ctx false 2 train_Fits_1_C [.tmp 3] st H xs
theorem train_Fits_1_F_eq (st : Bool) (H : Heap) (xs : List CV) : train_Fits_1_F st H xs = if xs.length = 2 then (eval ctx train_Fits_1_C (enterC 0 xs) ⟨[], []⟩).bind (fzOut [.tmp 3] st false H) else none := (rfl)
theorem train_Fits_1_call (cap args : List CV) (H : Heap) : call ctx (.fn (.func 59) [] cap) args H = (snapL H false false (args ++ cap)).bind (train_Fits_1_F (CV.refs (args ++ cap)) H) := fz_call rfl (show ctx.info 59 = some train_Fits_1_I by kernel_rfl) cap args H
noncomputable def r01_Rise_F (st : Bool) (H : Heap) (xs : List CV) : Option (CV × Heap) := fzE ctx false 1 r01_Rise_C [.tmp 2] st H xs
theorem r01_Rise_F_eq (st : Bool) (H : Heap) (xs : List CV) : r01_Rise_F st H xs = if xs.length = 1 then (eval ctx r01_Rise_C (enterC 0 xs) ⟨[], []⟩).bind (fzOut [.tmp 2] st false H) else none := (rfl)
theorem r01_Rise_call (cap args : List CV) (H : Heap) : call ctx (.fn (.func 60) [] cap) args H = (snapL H false false (args ++ cap)).bind (r01_Rise_F (CV.refs (args ++ cap)) H) := fz_call rfl (show ctx.info 60 = some r01_Rise_I by kernel_rfl) cap args H
noncomputable def r05_Around_F (st : Bool) (H : Heap) (xs : List CV) : Option (CV × Heap) := fzE ctx false 2 r05_Around_C [.tmp 4] st H xs
theorem r05_Around_F_eq (st : Bool) (H : Heap) (xs : List CV) : r05_Around_F st H xs = if xs.length = 2 then (eval ctx r05_Around_C (enterC 0 xs) ⟨[], []⟩).bind (fzOut [.tmp 4] st false H) else none := (rfl)
theorem r05_Around_call (cap args : List CV) (H : Heap) : call ctx (.fn (.func 61) [] cap) args H = (snapL H false false (args ++ cap)).bind (r05_Around_F (CV.refs (args ++ cap)) H) := fz_call rfl (show ctx.info 61 = some r05_Around_I by kernel_rfl) cap args H
noncomputable def slices_Clone_int_F (st : Bool) (H : Heap) (xs : List CV) : Option (CV × Heap) := oE ctx 1 slices_Clone_int_C [.tmp 2] st H xs
theorem slices_Clone_int_F_eq (st : Bool) (H : Heap) (xs : List CV) : slices_Clone_int_F st H xs = if xs.length = 1 then (eval ctx slices_Clone_int_C (enterC 0 xs) ⟨[], []⟩).bind (ownOut [.tmp 2] st H) else none := (rfl)
theorem slices_Clone_int_call (cap args : List CV) (H : Heap) : call ctx (.fn (.func 62) [] cap) args H = (snapL H false false (args ++ cap)).bind (slices_Clone_int_F (CV.refs (args ++ cap)) H) := own_call rfl (show ctx.info 62 = some slices_Clone_int_I by kernel_rfl) cap args H
noncomputable def graph_Graph_node_F (st : Bool) (H : Heap) (xs : List CV) : Option (CV × Heap) := fzE ctx false 2 graph_Graph_node_C [.tmp 4, .tmp 5] st H xs
theorem graph_Graph_node_F_eq (st : Bool) (H : Heap) (xs : List CV) : graph_Graph_node_F st H xs = if xs.length = 2 then (eval ctx graph_Graph_node_C (enterC 0 xs) ⟨[], []⟩).bind (fzOut [.tmp 4, .tmp 5] st false H) else none := (rfl)
theorem graph_Graph_node_call (cap args : List CV) (H : Heap) : call ctx (.fn (.func 76) [] cap) args H = (snapL H false false (args ++ cap)).bind (graph_Graph_node_F (CV.refs (args ++ cap)) H) := fz_call rfl (show ctx.info 76 = some graph_Graph_node_I by kernel_rfl) cap args H
noncomputable def slices_DeleteFunc_End_F (bx : List (Nat × List CV)) (bl : List Blk) (xs : List CV) : Option (CV × Heap) := if xs.length = 2 then (eval ctx slices_DeleteFunc_End_C (enterC 0 xs) ⟨[], bl⟩).bind (refOut [.tmp 4] bx) else none
theorem slices_DeleteFunc_End_F_eq (bx : List (Nat × List CV)) (bl : List Blk) (xs : List CV) : slices_DeleteFunc_End_F bx bl xs = if xs.length = 2 then (eval ctx slices_DeleteFunc_End_C (enterC 0 xs) ⟨[], bl⟩).bind (refOut [.tmp 4] bx) else none := (rfl)
theorem slices_DeleteFunc_End_call (cap args : List CV) (bx : List (Nat × List CV)) (bl : List Blk) : call ctx (.fn (.func 77) [] cap) args ⟨bx, bl⟩ = if CV.locs (args ++ cap) then none else slices_DeleteFunc_End_F bx bl (args ++ cap) := ref_call rfl (show ctx.info 77 = some slices_DeleteFunc_End_I by kernel_rfl) cap args bx bl
noncomputable def graph_Graph_Around_1_F (st : Bool) (H : Heap) (xs : List CV) : Option (CV × Heap) := fzE ctx false 2 graph_Graph_Around_1_C [.tmp 3] st H xs
theorem graph_Graph_Around_1_F_eq (st : Bool) (H : Heap) (xs : List CV) : graph_Graph_Around_1_F st H xs = if xs.length = 2 then (eval ctx graph_Graph_Around_1_C (enterC 0 xs) ⟨[], []⟩).bind (fzOut [.tmp 3] st false H) else none := (rfl)
theorem graph_Graph_Around_1_call (cap args : List CV) (H : Heap) : call ctx (.fn (.func 78) [] cap) args H = (snapL H false false (args ++ cap)).bind (graph_Graph_Around_1_F (CV.refs (args ++ cap)) H) := fz_call rfl (show ctx.info 78 = some graph_Graph_Around_1_I by kernel_rfl) cap args H
noncomputable def graph_Graph_at_F (st : Bool) (H : Heap) (xs : List CV) : Option (CV × Heap) := fzE ctx false 3 graph_Graph_at_C [.tmp 6] st H xs
theorem graph_Graph_at_F_eq (st : Bool) (H : Heap) (xs : List CV) : graph_Graph_at_F st H xs = if xs.length = 3 then (eval ctx graph_Graph_at_C (enterC 0 xs) ⟨[], []⟩).bind (fzOut [.tmp 6] st false H) else none := (rfl)
theorem graph_Graph_at_call (cap args : List CV) (H : Heap) : call ctx (.fn (.func 80) [] cap) args H = (snapL H false false (args ++ cap)).bind (graph_Graph_at_F (CV.refs (args ++ cap)) H) := fz_call rfl (show ctx.info 80 = some graph_Graph_at_I by kernel_rfl) cap args H
noncomputable def graph_Graph_section_F (st : Bool) (H : Heap) (xs : List CV) : Option (CV × Heap) := fzE ctx false 2 graph_Graph_section_C [.cell 4 true 3, .tmp 5] st H xs
theorem graph_Graph_section_F_eq (st : Bool) (H : Heap) (xs : List CV) : graph_Graph_section_F st H xs = if xs.length = 2 then (eval ctx graph_Graph_section_C (enterC 0 xs) ⟨[], []⟩).bind (fzOut [.cell 4 true 3, .tmp 5] st false H) else none := (rfl)
theorem graph_Graph_section_call (cap args : List CV) (H : Heap) : call ctx (.fn (.func 83) [] cap) args H = (snapL H false false (args ++ cap)).bind (graph_Graph_section_F (CV.refs (args ++ cap)) H) := fz_call rfl (show ctx.info 83 = some graph_Graph_section_I by kernel_rfl) cap args H
noncomputable def slices_IndexFunc_int_F (st : Bool) (H : Heap) (xs : List CV) : Option (CV × Heap) := fzE ctx false 2 slices_IndexFunc_int_C [.tmp 4] st H xs
theorem slices_IndexFunc_int_F_eq (st : Bool) (H : Heap) (xs : List CV) : slices_IndexFunc_int_F st H xs = if xs.length = 2 then (eval ctx slices_IndexFunc_int_C (enterC 0 xs) ⟨[], []⟩).bind (fzOut [.tmp 4] st false H) else none := (rfl)
theorem slices_IndexFunc_int_call (cap args : List CV) (H : Heap) : call ctx (.fn (.func 84) [] cap) args H = (snapL H false false (args ++ cap)).bind (slices_IndexFunc_int_F (CV.refs (args ++ cap)) H) := fz_call rfl (show ctx.info 84 = some slices_IndexFunc_int_I by kernel_rfl) cap args H
noncomputable def slices_Contains_int_F (st : Bool) (H : Heap) (xs : List CV) : Option (CV × Heap) := fzE ctx false 2 slices_Contains_int_C [.tmp 4] st H xs
theorem slices_Contains_int_F_eq (st : Bool) (H : Heap) (xs : List CV) : slices_Contains_int_F st H xs = if xs.length = 2 then (eval ctx slices_Contains_int_C (enterC 0 xs) ⟨[], []⟩).bind (fzOut [.tmp 4] st false H) else none := (rfl)
theorem slices_Contains_int_call (cap args : List CV) (H : Heap) : call ctx (.fn (.func 86) [] cap) args H = (snapL H false false (args ++ cap)).bind (slices_Contains_int_F (CV.refs (args ++ cap)) H) := fz_call rfl (show ctx.info 86 = some slices_Contains_int_I by kernel_rfl) cap args H
noncomputable def r05_Point_F (st : Bool) (H : Heap) (xs : List CV) : Option (CV × Heap) := fzE ctx false 2 r05_Point_C [.tmp 4] st H xs
theorem r05_Point_F_eq (st : Bool) (H : Heap) (xs : List CV) : r05_Point_F st H xs = if xs.length = 2 then (eval ctx r05_Point_C (enterC 0 xs) ⟨[], []⟩).bind (fzOut [.tmp 4] st false H) else none := (rfl)
theorem r05_Point_call (cap args : List CV) (H : Heap) : call ctx (.fn (.func 89) [] cap) args H = (snapL H false false (args ++ cap)).bind (r05_Point_F (CV.refs (args ++ cap)) H) := fz_call rfl (show ctx.info 89 = some r05_Point_I by kernel_rfl) cap args H
noncomputable def r05_Ends_F (st : Bool) (H : Heap) (xs : List CV) : Option (CV × Heap) := fzE ctx false 2 r05_Ends_C [.tmp 4] st H xs
theorem r05_Ends_F_eq (st : Bool) (H : Heap) (xs : List CV) : r05_Ends_F st H xs = if xs.length = 2 then (eval ctx r05_Ends_C (enterC 0 xs) ⟨[], []⟩).bind (fzOut [.tmp 4] st false H) else none := (rfl)
theorem r05_Ends_call (cap args : List CV) (H : Heap) : call ctx (.fn (.func 91) [] cap) args H = (snapL H false false (args ++ cap)).bind (r05_Ends_F (CV.refs (args ++ cap)) H) := fz_call rfl (show ctx.info 91 = some r05_Ends_I by kernel_rfl) cap args H
noncomputable def slices_IndexFunc_Point_F (st : Bool) (H : Heap) (xs : List CV) : Option (CV × Heap) := fzE ctx false 2 slices_IndexFunc_Point_C [.tmp 4] st H xs
theorem slices_IndexFunc_Point_F_eq (st : Bool) (H : Heap) (xs : List CV) : slices_IndexFunc_Point_F st H xs = if xs.length = 2 then (eval ctx slices_IndexFunc_Point_C (enterC 0 xs) ⟨[], []⟩).bind (fzOut [.tmp 4] st false H) else none := (rfl)
theorem slices_IndexFunc_Point_call (cap args : List CV) (H : Heap) : call ctx (.fn (.func 98) [] cap) args H = (snapL H false false (args ++ cap)).bind (slices_IndexFunc_Point_F (CV.refs (args ++ cap)) H) := fz_call rfl (show ctx.info 98 = some slices_IndexFunc_Point_I by kernel_rfl) cap args H
noncomputable def graph_Graph_Point_1_F (st : Bool) (H : Heap) (xs : List CV) : Option (CV × Heap) := fzE ctx false 2 graph_Graph_Point_1_C [.tmp 3] st H xs
theorem graph_Graph_Point_1_F_eq (st : Bool) (H : Heap) (xs : List CV) : graph_Graph_Point_1_F st H xs = if xs.length = 2 then (eval ctx graph_Graph_Point_1_C (enterC 0 xs) ⟨[], []⟩).bind (fzOut [.tmp 3] st false H) else none := (rfl)
theorem graph_Graph_Point_1_call (cap args : List CV) (H : Heap) : call ctx (.fn (.func 99) [] cap) args H = (snapL H false false (args ++ cap)).bind (graph_Graph_Point_1_F (CV.refs (args ++ cap)) H) := fz_call rfl (show ctx.info 99 = some graph_Graph_Point_1_I by kernel_rfl) cap args H
noncomputable def slices_Index_int_F (st : Bool) (H : Heap) (xs : List CV) : Option (CV × Heap) := fzE ctx false 2 slices_Index_int_C [.tmp 4] st H xs
theorem slices_Index_int_F_eq (st : Bool) (H : Heap) (xs : List CV) : slices_Index_int_F st H xs = if xs.length = 2 then (eval ctx slices_Index_int_C (enterC 0 xs) ⟨[], []⟩).bind (fzOut [.tmp 4] st false H) else none := (rfl)
theorem slices_Index_int_call (cap args : List CV) (H : Heap) : call ctx (.fn (.func 100) [] cap) args H = (snapL H false false (args ++ cap)).bind (slices_Index_int_F (CV.refs (args ++ cap)) H) := fz_call rfl (show ctx.info 100 = some slices_Index_int_I by kernel_rfl) cap args H
noncomputable def r05_node_F (st : Bool) (H : Heap) (xs : List CV) : Option (CV × Heap) := fzE ctx false 2 r05_node_C [.tmp 4, .tmp 5] st H xs
theorem r05_node_F_eq (st : Bool) (H : Heap) (xs : List CV) : r05_node_F st H xs = if xs.length = 2 then (eval ctx r05_node_C (enterC 0 xs) ⟨[], []⟩).bind (fzOut [.tmp 4, .tmp 5] st false H) else none := (rfl)
theorem r05_node_call (cap args : List CV) (H : Heap) : call ctx (.fn (.func 101) [] cap) args H = (snapL H false false (args ++ cap)).bind (r05_node_F (CV.refs (args ++ cap)) H) := fz_call rfl (show ctx.info 101 = some r05_node_I by kernel_rfl) cap args H
noncomputable def r05_one_F (st : Bool) (H : Heap) (xs : List CV) : Option (CV × Heap) := fzE ctx false 3 r05_one_C [.tmp 6] st H xs
theorem r05_one_F_eq (st : Bool) (H : Heap) (xs : List CV) : r05_one_F st H xs = if xs.length = 3 then (eval ctx r05_one_C (enterC 0 xs) ⟨[], []⟩).bind (fzOut [.tmp 6] st false H) else none := (rfl)
theorem r05_one_call (cap args : List CV) (H : Heap) : call ctx (.fn (.func 102) [] cap) args H = (snapL H false false (args ++ cap)).bind (r05_one_F (CV.refs (args ++ cap)) H) := fz_call rfl (show ctx.info 102 = some r05_one_I by kernel_rfl) cap args H
noncomputable def slices_Concat_End_F (st : Bool) (H : Heap) (xs : List CV) : Option (CV × Heap) := fzE ctx false 1 slices_Concat_End_C [.tmp 2] st H xs
theorem slices_Concat_End_F_eq (st : Bool) (H : Heap) (xs : List CV) : slices_Concat_End_F st H xs = if xs.length = 1 then (eval ctx slices_Concat_End_C (enterC 0 xs) ⟨[], []⟩).bind (fzOut [.tmp 2] st false H) else none := (rfl)
theorem slices_Concat_End_call (cap args : List CV) (H : Heap) : call ctx (.fn (.func 79) [] cap) args H = (snapL H false false (args ++ cap)).bind (slices_Concat_End_F (CV.refs (args ++ cap)) H) := fz_call rfl (show ctx.info 79 = some slices_Concat_End_I by kernel_rfl) cap args H
noncomputable def slices_Grow_End_F (bx : List (Nat × List CV)) (bl : List Blk) (xs : List CV) : Option (CV × Heap) := if xs.length = 2 then (eval ctx slices_Grow_End_C (enterC 0 xs) ⟨[], bl⟩).bind (refOut [.tmp 4] bx) else none
theorem slices_Grow_End_F_eq (bx : List (Nat × List CV)) (bl : List Blk) (xs : List CV) : slices_Grow_End_F bx bl xs = if xs.length = 2 then (eval ctx slices_Grow_End_C (enterC 0 xs) ⟨[], bl⟩).bind (refOut [.tmp 4] bx) else none := (rfl)
theorem slices_Grow_End_call (cap args : List CV) (bx : List (Nat × List CV)) (bl : List Blk) : call ctx (.fn (.func 106) [] cap) args ⟨bx, bl⟩ = if CV.locs (args ++ cap) then none else slices_Grow_End_F bx bl (args ++ cap) := ref_call rfl (show ctx.info 106 = some slices_Grow_End_I by kernel_rfl) cap args bx bl
noncomputable def r04_Small_R0 (x : Env × Heap) : Out := intoE ctx 0 [1, 3] [1] r04_Small_B0 x
noncomputable def r04_Small_K0 (x : Ex × Env × Heap) : Out := roundE ctx 0 [1, 3] [1] r04_Small_B0 x
theorem r04_Small_L0_eq (env : Env) (H : Heap) : eval ctx r04_Small_L0 env H = (keepE [1, 3] env H).bind r04_Small_R0 := eval_bloop' ctx env H 0 [1, 3] [1] r04_Small_B0
theorem r04_Small_R0_eq (env : Env) (H : Heap) : r04_Small_R0 (env, H) = (eval ctx r04_Small_B0 env H).bind r04_Small_K0 := (rfl)
theorem r04_Small_K0_norm (env : Env) (H : Heap) : r04_Small_K0 (.norm, env, H) = (keepE [1, 3] env H).bind r04_Small_R0 := r04_Small_L0_eq env H
theorem r04_Small_K0_ret (env : Env) (H : Heap) : r04_Small_K0 (.ret, env, H) = some (.ret, env, H) := (rfl)
theorem r04_Small_K0_exit (k : Nat) (env : Env) (H : Heap) : r04_Small_K0 (.exit k, env, H) = if k = 0 then (keepE [1] env H).map normE else some (.exit k, env, H) := (rfl)
noncomputable def r05_Full_R0 (x : Env × Heap) : Out := intoE ctx 0 [1, 2, 3, 4] [2, 3] r05_Full_B0 x
noncomputable def r05_Full_K0 (x : Ex × Env × Heap) : Out := roundE ctx 0 [1, 2, 3, 4] [2, 3] r05_Full_B0 x
theorem r05_Full_L0_eq (env : Env) (H : Heap) : eval ctx r05_Full_L0 env H = (keepE [1, 2, 3, 4] env H).bind r05_Full_R0 := eval_bloop' ctx env H 0 [1, 2, 3, 4] [2, 3] r05_Full_B0
theorem r05_Full_R0_eq (env : Env) (H : Heap) : r05_Full_R0 (env, H) = (eval ctx r05_Full_B0 env H).bind r05_Full_K0 := (rfl)
theorem r05_Full_K0_norm (env : Env) (H : Heap) : r05_Full_K0 (.norm, env, H) = (keepE [1, 2, 3, 4] env H).bind r05_Full_R0 := r05_Full_L0_eq env H
theorem r05_Full_K0_ret (env : Env) (H : Heap) : r05_Full_K0 (.ret, env, H) = some (.ret, env, H) := (rfl)
theorem r05_Full_K0_exit (k : Nat) (env : Env) (H : Heap) : r05_Full_K0 (.exit k, env, H) = if k = 0 then (keepE [2, 3] env H).map normE else some (.exit k, env, H) := (rfl)
noncomputable def train_Fits_R0 (x : Env × Heap) : Out := intoE ctx 0 [0, 6, 60, 61, 62] [] train_Fits_B0 x
noncomputable def train_Fits_K0 (x : Ex × Env × Heap) : Out := roundE ctx 0 [0, 6, 60, 61, 62] [] train_Fits_B0 x
theorem train_Fits_L0_eq (env : Env) (H : Heap) : eval ctx train_Fits_L0 env H = (keepE [0, 6, 60, 61, 62] env H).bind train_Fits_R0 := eval_bloop' ctx env H 0 [0, 6, 60, 61, 62] [] train_Fits_B0
theorem train_Fits_R0_eq (env : Env) (H : Heap) : train_Fits_R0 (env, H) = (eval ctx train_Fits_B0 env H).bind train_Fits_K0 := (rfl)
theorem train_Fits_K0_norm (env : Env) (H : Heap) : train_Fits_K0 (.norm, env, H) = (keepE [0, 6, 60, 61, 62] env H).bind train_Fits_R0 := train_Fits_L0_eq env H
theorem train_Fits_K0_ret (env : Env) (H : Heap) : train_Fits_K0 (.ret, env, H) = some (.ret, env, H) := (rfl)
theorem train_Fits_K0_exit (k : Nat) (env : Env) (H : Heap) : train_Fits_K0 (.exit k, env, H) = if k = 0 then (keepE [] env H).map normE else some (.exit k, env, H) := (rfl)
noncomputable def r10_Fits_R0 (x : Env × Heap) : Out := intoE ctx 0 [2, 3, 5, 6] [2, 3, 5] r10_Fits_B0 x
noncomputable def r10_Fits_K0 (x : Ex × Env × Heap) : Out := roundE ctx 0 [2, 3, 5, 6] [2, 3, 5] r10_Fits_B0 x
theorem r10_Fits_L0_eq (env : Env) (H : Heap) : eval ctx r10_Fits_L0 env H = (keepE [2, 3, 5, 6] env H).bind r10_Fits_R0 := eval_bloop' ctx env H 0 [2, 3, 5, 6] [2, 3, 5] r10_Fits_B0
theorem r10_Fits_R0_eq (env : Env) (H : Heap) : r10_Fits_R0 (env, H) = (eval ctx r10_Fits_B0 env H).bind r10_Fits_K0 := (rfl)
theorem r10_Fits_K0_norm (env : Env) (H : Heap) : r10_Fits_K0 (.norm, env, H) = (keepE [2, 3, 5, 6] env H).bind r10_Fits_R0 := r10_Fits_L0_eq env H
theorem r10_Fits_K0_ret (env : Env) (H : Heap) : r10_Fits_K0 (.ret, env, H) = some (.ret, env, H) := (rfl)
theorem r10_Fits_K0_exit (k : Nat) (env : Env) (H : Heap) : r10_Fits_K0 (.exit k, env, H) = if k = 0 then (keepE [2, 3, 5] env H).map normE else some (.exit k, env, H) := (rfl)
noncomputable def r10_Fits_R4 (x : Env × Heap) : Out := intoE ctx 4 [2, 3, 5, 7, 8, 9, 10] [2, 3, 5, 7, 8, 9, 10] r10_Fits_B4 x
noncomputable def r10_Fits_K4 (x : Ex × Env × Heap) : Out := roundE ctx 4 [2, 3, 5, 7, 8, 9, 10] [2, 3, 5, 7, 8, 9, 10] r10_Fits_B4 x
theorem r10_Fits_L4_eq (env : Env) (H : Heap) : eval ctx r10_Fits_L4 env H = (keepE [2, 3, 5, 7, 8, 9, 10] env H).bind r10_Fits_R4 := eval_bloop' ctx env H 4 [2, 3, 5, 7, 8, 9, 10] [2, 3, 5, 7, 8, 9, 10] r10_Fits_B4
theorem r10_Fits_R4_eq (env : Env) (H : Heap) : r10_Fits_R4 (env, H) = (eval ctx r10_Fits_B4 env H).bind r10_Fits_K4 := (rfl)
theorem r10_Fits_K4_norm (env : Env) (H : Heap) : r10_Fits_K4 (.norm, env, H) = (keepE [2, 3, 5, 7, 8, 9, 10] env H).bind r10_Fits_R4 := r10_Fits_L4_eq env H
theorem r10_Fits_K4_ret (env : Env) (H : Heap) : r10_Fits_K4 (.ret, env, H) = some (.ret, env, H) := (rfl)
theorem r10_Fits_K4_exit (k : Nat) (env : Env) (H : Heap) : r10_Fits_K4 (.exit k, env, H) = if k = 4 then (keepE [2, 3, 5, 7, 8, 9, 10] env H).map normE else some (.exit k, env, H) := (rfl)
noncomputable def r10_Fits_R2 (x : Env × Heap) : Out := intoE ctx 2 [2, 3, 5, 7, 8] [] r10_Fits_B2 x
noncomputable def r10_Fits_K2 (x : Ex × Env × Heap) : Out := roundE ctx 2 [2, 3, 5, 7, 8] [] r10_Fits_B2 x
theorem r10_Fits_L2_eq (env : Env) (H : Heap) : eval ctx r10_Fits_L2 env H = (keepE [2, 3, 5, 7, 8] env H).bind r10_Fits_R2 := eval_bloop' ctx env H 2 [2, 3, 5, 7, 8] [] r10_Fits_B2
theorem r10_Fits_R2_eq (env : Env) (H : Heap) : r10_Fits_R2 (env, H) = (eval ctx r10_Fits_B2 env H).bind r10_Fits_K2 := (rfl)
theorem r10_Fits_K2_norm (env : Env) (H : Heap) : r10_Fits_K2 (.norm, env, H) = (keepE [2, 3, 5, 7, 8] env H).bind r10_Fits_R2 := r10_Fits_L2_eq env H
theorem r10_Fits_K2_ret (env : Env) (H : Heap) : r10_Fits_K2 (.ret, env, H) = some (.ret, env, H) := (rfl)
theorem r10_Fits_K2_exit (k : Nat) (env : Env) (H : Heap) : r10_Fits_K2 (.exit k, env, H) = if k = 2 then (keepE [] env H).map normE else some (.exit k, env, H) := (rfl)
noncomputable def r10_Back_R0 (x : Env × Heap) : Out := intoE ctx 0 [0, 3, 4] [3] r10_Back_B0 x
noncomputable def r10_Back_K0 (x : Ex × Env × Heap) : Out := roundE ctx 0 [0, 3, 4] [3] r10_Back_B0 x
theorem r10_Back_L0_eq (env : Env) (H : Heap) : eval ctx r10_Back_L0 env H = (keepE [0, 3, 4] env H).bind r10_Back_R0 := eval_bloop' ctx env H 0 [0, 3, 4] [3] r10_Back_B0
theorem r10_Back_R0_eq (env : Env) (H : Heap) : r10_Back_R0 (env, H) = (eval ctx r10_Back_B0 env H).bind r10_Back_K0 := (rfl)
theorem r10_Back_K0_norm (env : Env) (H : Heap) : r10_Back_K0 (.norm, env, H) = (keepE [0, 3, 4] env H).bind r10_Back_R0 := r10_Back_L0_eq env H
theorem r10_Back_K0_ret (env : Env) (H : Heap) : r10_Back_K0 (.ret, env, H) = some (.ret, env, H) := (rfl)
theorem r10_Back_K0_exit (k : Nat) (env : Env) (H : Heap) : r10_Back_K0 (.exit k, env, H) = if k = 0 then (keepE [3] env H).map normE else some (.exit k, env, H) := (rfl)
noncomputable def r01_Ints_R0 (x : Env × Heap) : Out := intoE ctx 0 [0, 1, 5] [] r01_Ints_B0 x
noncomputable def r01_Ints_K0 (x : Ex × Env × Heap) : Out := roundE ctx 0 [0, 1, 5] [] r01_Ints_B0 x
theorem r01_Ints_L0_eq (env : Env) (H : Heap) : eval ctx r01_Ints_L0 env H = (keepE [0, 1, 5] env H).bind r01_Ints_R0 := eval_bloop' ctx env H 0 [0, 1, 5] [] r01_Ints_B0
theorem r01_Ints_R0_eq (env : Env) (H : Heap) : r01_Ints_R0 (env, H) = (eval ctx r01_Ints_B0 env H).bind r01_Ints_K0 := (rfl)
theorem r01_Ints_K0_norm (env : Env) (H : Heap) : r01_Ints_K0 (.norm, env, H) = (keepE [0, 1, 5] env H).bind r01_Ints_R0 := r01_Ints_L0_eq env H
theorem r01_Ints_K0_ret (env : Env) (H : Heap) : r01_Ints_K0 (.ret, env, H) = some (.ret, env, H) := (rfl)
theorem r01_Ints_K0_exit (k : Nat) (env : Env) (H : Heap) : r01_Ints_K0 (.exit k, env, H) = if k = 0 then (keepE [] env H).map normE else some (.exit k, env, H) := (rfl)
noncomputable def r01_Has_R0 (x : Env × Heap) : Out := intoE ctx 0 [0, 1, 5] [] r01_Has_B0 x
noncomputable def r01_Has_K0 (x : Ex × Env × Heap) : Out := roundE ctx 0 [0, 1, 5] [] r01_Has_B0 x
theorem r01_Has_L0_eq (env : Env) (H : Heap) : eval ctx r01_Has_L0 env H = (keepE [0, 1, 5] env H).bind r01_Has_R0 := eval_bloop' ctx env H 0 [0, 1, 5] [] r01_Has_B0
theorem r01_Has_R0_eq (env : Env) (H : Heap) : r01_Has_R0 (env, H) = (eval ctx r01_Has_B0 env H).bind r01_Has_K0 := (rfl)
theorem r01_Has_K0_norm (env : Env) (H : Heap) : r01_Has_K0 (.norm, env, H) = (keepE [0, 1, 5] env H).bind r01_Has_R0 := r01_Has_L0_eq env H
theorem r01_Has_K0_ret (env : Env) (H : Heap) : r01_Has_K0 (.ret, env, H) = some (.ret, env, H) := (rfl)
theorem r01_Has_K0_exit (k : Nat) (env : Env) (H : Heap) : r01_Has_K0 (.exit k, env, H) = if k = 0 then (keepE [] env H).map normE else some (.exit k, env, H) := (rfl)
noncomputable def graph_Graph_Ends_R2 (x : Env × Heap) : Out := intoE ctx 2 [0, 1, 5, 6, 26, 27] [0, 1, 5, 6] graph_Graph_Ends_B2 x
noncomputable def graph_Graph_Ends_K2 (x : Ex × Env × Heap) : Out := roundE ctx 2 [0, 1, 5, 6, 26, 27] [0, 1, 5, 6] graph_Graph_Ends_B2 x
theorem graph_Graph_Ends_L2_eq (env : Env) (H : Heap) : eval ctx graph_Graph_Ends_L2 env H = (keepE [0, 1, 5, 6, 26, 27] env H).bind graph_Graph_Ends_R2 := eval_bloop' ctx env H 2 [0, 1, 5, 6, 26, 27] [0, 1, 5, 6] graph_Graph_Ends_B2
theorem graph_Graph_Ends_R2_eq (env : Env) (H : Heap) : graph_Graph_Ends_R2 (env, H) = (eval ctx graph_Graph_Ends_B2 env H).bind graph_Graph_Ends_K2 := (rfl)
theorem graph_Graph_Ends_K2_norm (env : Env) (H : Heap) : graph_Graph_Ends_K2 (.norm, env, H) = (keepE [0, 1, 5, 6, 26, 27] env H).bind graph_Graph_Ends_R2 := graph_Graph_Ends_L2_eq env H
theorem graph_Graph_Ends_K2_ret (env : Env) (H : Heap) : graph_Graph_Ends_K2 (.ret, env, H) = some (.ret, env, H) := (rfl)
theorem graph_Graph_Ends_K2_exit (k : Nat) (env : Env) (H : Heap) : graph_Graph_Ends_K2 (.exit k, env, H) = if k = 2 then (keepE [0, 1, 5, 6] env H).map normE else some (.exit k, env, H) := (rfl)
noncomputable def graph_Graph_Ends_R0 (x : Env × Heap) : Out := intoE ctx 0 [0, 1, 5, 6] [] graph_Graph_Ends_B0 x
noncomputable def graph_Graph_Ends_K0 (x : Ex × Env × Heap) : Out := roundE ctx 0 [0, 1, 5, 6] [] graph_Graph_Ends_B0 x
theorem graph_Graph_Ends_L0_eq (env : Env) (H : Heap) : eval ctx graph_Graph_Ends_L0 env H = (keepE [0, 1, 5, 6] env H).bind graph_Graph_Ends_R0 := eval_bloop' ctx env H 0 [0, 1, 5, 6] [] graph_Graph_Ends_B0
theorem graph_Graph_Ends_R0_eq (env : Env) (H : Heap) : graph_Graph_Ends_R0 (env, H) = (eval ctx graph_Graph_Ends_B0 env H).bind graph_Graph_Ends_K0 := (rfl)
theorem graph_Graph_Ends_K0_norm (env : Env) (H : Heap) : graph_Graph_Ends_K0 (.norm, env, H) = (keepE [0, 1, 5, 6] env H).bind graph_Graph_Ends_R0 := graph_Graph_Ends_L0_eq env H
theorem graph_Graph_Ends_K0_ret (env : Env) (H : Heap) : graph_Graph_Ends_K0 (.ret, env, H) = some (.ret, env, H) := (rfl)
theorem graph_Graph_Ends_K0_exit (k : Nat) (env : Env) (H : Heap) : graph_Graph_Ends_K0 (.exit k, env, H) = if k = 0 then (keepE [] env H).map normE else some (.exit k, env, H) := (rfl)
noncomputable def r05_Walk_R0 (x : Env × Heap) : Out := intoE ctx 0 [3, 4, 5, 11, 12, 13] [11] r05_Walk_B0 x
noncomputable def r05_Walk_K0 (x : Ex × Env × Heap) : Out := roundE ctx 0 [3, 4, 5, 11, 12, 13] [11] r05_Walk_B0 x
theorem r05_Walk_L0_eq (env : Env) (H : Heap) : eval ctx r05_Walk_L0 env H = (keepE [3, 4, 5, 11, 12, 13] env H).bind r05_Walk_R0 := eval_bloop' ctx env H 0 [3, 4, 5, 11, 12, 13] [11] r05_Walk_B0
theorem r05_Walk_R0_eq (env : Env) (H : Heap) : r05_Walk_R0 (env, H) = (eval ctx r05_Walk_B0 env H).bind r05_Walk_K0 := (rfl)
theorem r05_Walk_K0_norm (env : Env) (H : Heap) : r05_Walk_K0 (.norm, env, H) = (keepE [3, 4, 5, 11, 12, 13] env H).bind r05_Walk_R0 := r05_Walk_L0_eq env H
theorem r05_Walk_K0_ret (env : Env) (H : Heap) : r05_Walk_K0 (.ret, env, H) = some (.ret, env, H) := (rfl)
theorem r05_Walk_K0_exit (k : Nat) (env : Env) (H : Heap) : r05_Walk_K0 (.exit k, env, H) = if k = 0 then (keepE [11] env H).map normE else some (.exit k, env, H) := (rfl)
noncomputable def train_Join_R0 (x : Env × Heap) : Out := intoE ctx 0 [5, 28, 29, 30] [5] train_Join_B0 x
noncomputable def train_Join_K0 (x : Ex × Env × Heap) : Out := roundE ctx 0 [5, 28, 29, 30] [5] train_Join_B0 x
theorem train_Join_L0_eq (env : Env) (H : Heap) : eval ctx train_Join_L0 env H = (keepE [5, 28, 29, 30] env H).bind train_Join_R0 := eval_bloop' ctx env H 0 [5, 28, 29, 30] [5] train_Join_B0
theorem train_Join_R0_eq (env : Env) (H : Heap) : train_Join_R0 (env, H) = (eval ctx train_Join_B0 env H).bind train_Join_K0 := (rfl)
theorem train_Join_K0_norm (env : Env) (H : Heap) : train_Join_K0 (.norm, env, H) = (keepE [5, 28, 29, 30] env H).bind train_Join_R0 := train_Join_L0_eq env H
theorem train_Join_K0_ret (env : Env) (H : Heap) : train_Join_K0 (.ret, env, H) = some (.ret, env, H) := (rfl)
theorem train_Join_K0_exit (k : Nat) (env : Env) (H : Heap) : train_Join_K0 (.exit k, env, H) = if k = 0 then (keepE [5] env H).map normE else some (.exit k, env, H) := (rfl)
noncomputable def r04_Make_R1 (x : Env × Heap) : Out := intoE ctx 1 [1, 2, 3, 6, 7, 8, 9] [1, 2, 3, 6, 7, 8] r04_Make_B1 x
noncomputable def r04_Make_K1 (x : Ex × Env × Heap) : Out := roundE ctx 1 [1, 2, 3, 6, 7, 8, 9] [1, 2, 3, 6, 7, 8] r04_Make_B1 x
theorem r04_Make_L1_eq (env : Env) (H : Heap) : eval ctx r04_Make_L1 env H = (keepE [1, 2, 3, 6, 7, 8, 9] env H).bind r04_Make_R1 := eval_bloop' ctx env H 1 [1, 2, 3, 6, 7, 8, 9] [1, 2, 3, 6, 7, 8] r04_Make_B1
theorem r04_Make_R1_eq (env : Env) (H : Heap) : r04_Make_R1 (env, H) = (eval ctx r04_Make_B1 env H).bind r04_Make_K1 := (rfl)
theorem r04_Make_K1_norm (env : Env) (H : Heap) : r04_Make_K1 (.norm, env, H) = (keepE [1, 2, 3, 6, 7, 8, 9] env H).bind r04_Make_R1 := r04_Make_L1_eq env H
theorem r04_Make_K1_ret (env : Env) (H : Heap) : r04_Make_K1 (.ret, env, H) = some (.ret, env, H) := (rfl)
theorem r04_Make_K1_exit (k : Nat) (env : Env) (H : Heap) : r04_Make_K1 (.exit k, env, H) = if k = 1 then (keepE [1, 2, 3, 6, 7, 8] env H).map normE else some (.exit k, env, H) := (rfl)
noncomputable def r04_Make_R3 (x : Env × Heap) : Out := intoE ctx 3 [1, 2, 3, 6, 7, 8, 10] [1, 2, 3, 6, 7] r04_Make_B3 x
noncomputable def r04_Make_K3 (x : Ex × Env × Heap) : Out := roundE ctx 3 [1, 2, 3, 6, 7, 8, 10] [1, 2, 3, 6, 7] r04_Make_B3 x
theorem r04_Make_L3_eq (env : Env) (H : Heap) : eval ctx r04_Make_L3 env H = (keepE [1, 2, 3, 6, 7, 8, 10] env H).bind r04_Make_R3 := eval_bloop' ctx env H 3 [1, 2, 3, 6, 7, 8, 10] [1, 2, 3, 6, 7] r04_Make_B3
theorem r04_Make_R3_eq (env : Env) (H : Heap) : r04_Make_R3 (env, H) = (eval ctx r04_Make_B3 env H).bind r04_Make_K3 := (rfl)
theorem r04_Make_K3_norm (env : Env) (H : Heap) : r04_Make_K3 (.norm, env, H) = (keepE [1, 2, 3, 6, 7, 8, 10] env H).bind r04_Make_R3 := r04_Make_L3_eq env H
theorem r04_Make_K3_ret (env : Env) (H : Heap) : r04_Make_K3 (.ret, env, H) = some (.ret, env, H) := (rfl)
theorem r04_Make_K3_exit (k : Nat) (env : Env) (H : Heap) : r04_Make_K3 (.exit k, env, H) = if k = 3 then (keepE [1, 2, 3, 6, 7] env H).map normE else some (.exit k, env, H) := (rfl)
noncomputable def r04_Make_R5 (x : Env × Heap) : Out := intoE ctx 5 [1, 2, 3, 6, 7, 11] [1, 2, 3, 6, 7] r04_Make_B5 x
noncomputable def r04_Make_K5 (x : Ex × Env × Heap) : Out := roundE ctx 5 [1, 2, 3, 6, 7, 11] [1, 2, 3, 6, 7] r04_Make_B5 x
theorem r04_Make_L5_eq (env : Env) (H : Heap) : eval ctx r04_Make_L5 env H = (keepE [1, 2, 3, 6, 7, 11] env H).bind r04_Make_R5 := eval_bloop' ctx env H 5 [1, 2, 3, 6, 7, 11] [1, 2, 3, 6, 7] r04_Make_B5
theorem r04_Make_R5_eq (env : Env) (H : Heap) : r04_Make_R5 (env, H) = (eval ctx r04_Make_B5 env H).bind r04_Make_K5 := (rfl)
theorem r04_Make_K5_norm (env : Env) (H : Heap) : r04_Make_K5 (.norm, env, H) = (keepE [1, 2, 3, 6, 7, 11] env H).bind r04_Make_R5 := r04_Make_L5_eq env H
theorem r04_Make_K5_ret (env : Env) (H : Heap) : r04_Make_K5 (.ret, env, H) = some (.ret, env, H) := (rfl)
theorem r04_Make_K5_exit (k : Nat) (env : Env) (H : Heap) : r04_Make_K5 (.exit k, env, H) = if k = 5 then (keepE [1, 2, 3, 6, 7] env H).map normE else some (.exit k, env, H) := (rfl)
noncomputable def r04_Make_R7 (x : Env × Heap) : Out := intoE ctx 7 [1, 2, 3, 6, 7, 12] [1, 2, 3, 6] r04_Make_B7 x
noncomputable def r04_Make_K7 (x : Ex × Env × Heap) : Out := roundE ctx 7 [1, 2, 3, 6, 7, 12] [1, 2, 3, 6] r04_Make_B7 x
theorem r04_Make_L7_eq (env : Env) (H : Heap) : eval ctx r04_Make_L7 env H = (keepE [1, 2, 3, 6, 7, 12] env H).bind r04_Make_R7 := eval_bloop' ctx env H 7 [1, 2, 3, 6, 7, 12] [1, 2, 3, 6] r04_Make_B7
theorem r04_Make_R7_eq (env : Env) (H : Heap) : r04_Make_R7 (env, H) = (eval ctx r04_Make_B7 env H).bind r04_Make_K7 := (rfl)
theorem r04_Make_K7_norm (env : Env) (H : Heap) : r04_Make_K7 (.norm, env, H) = (keepE [1, 2, 3, 6, 7, 12] env H).bind r04_Make_R7 := r04_Make_L7_eq env H
theorem r04_Make_K7_ret (env : Env) (H : Heap) : r04_Make_K7 (.ret, env, H) = some (.ret, env, H) := (rfl)
theorem r04_Make_K7_exit (k : Nat) (env : Env) (H : Heap) : r04_Make_K7 (.exit k, env, H) = if k = 7 then (keepE [1, 2, 3, 6] env H).map normE else some (.exit k, env, H) := (rfl)
noncomputable def train_unlike_R0 (x : Env × Heap) : Out := intoE ctx 0 [0, 1, 7, 8, 9] [] train_unlike_B0 x
noncomputable def train_unlike_K0 (x : Ex × Env × Heap) : Out := roundE ctx 0 [0, 1, 7, 8, 9] [] train_unlike_B0 x
theorem train_unlike_L0_eq (env : Env) (H : Heap) : eval ctx train_unlike_L0 env H = (keepE [0, 1, 7, 8, 9] env H).bind train_unlike_R0 := eval_bloop' ctx env H 0 [0, 1, 7, 8, 9] [] train_unlike_B0
theorem train_unlike_R0_eq (env : Env) (H : Heap) : train_unlike_R0 (env, H) = (eval ctx train_unlike_B0 env H).bind train_unlike_K0 := (rfl)
theorem train_unlike_K0_norm (env : Env) (H : Heap) : train_unlike_K0 (.norm, env, H) = (keepE [0, 1, 7, 8, 9] env H).bind train_unlike_R0 := train_unlike_L0_eq env H
theorem train_unlike_K0_ret (env : Env) (H : Heap) : train_unlike_K0 (.ret, env, H) = some (.ret, env, H) := (rfl)
theorem train_unlike_K0_exit (k : Nat) (env : Env) (H : Heap) : train_unlike_K0 (.exit k, env, H) = if k = 0 then (keepE [] env H).map normE else some (.exit k, env, H) := (rfl)
noncomputable def slices_IndexFunc_End_R0 (x : Env × Heap) : Out := intoE ctx 0 [0, 1, 7, 8] [] slices_IndexFunc_End_B0 x
noncomputable def slices_IndexFunc_End_K0 (x : Ex × Env × Heap) : Out := roundE ctx 0 [0, 1, 7, 8] [] slices_IndexFunc_End_B0 x
theorem slices_IndexFunc_End_L0_eq (env : Env) (H : Heap) : eval ctx slices_IndexFunc_End_L0 env H = (keepE [0, 1, 7, 8] env H).bind slices_IndexFunc_End_R0 := eval_bloop' ctx env H 0 [0, 1, 7, 8] [] slices_IndexFunc_End_B0
theorem slices_IndexFunc_End_R0_eq (env : Env) (H : Heap) : slices_IndexFunc_End_R0 (env, H) = (eval ctx slices_IndexFunc_End_B0 env H).bind slices_IndexFunc_End_K0 := (rfl)
theorem slices_IndexFunc_End_K0_norm (env : Env) (H : Heap) : slices_IndexFunc_End_K0 (.norm, env, H) = (keepE [0, 1, 7, 8] env H).bind slices_IndexFunc_End_R0 := slices_IndexFunc_End_L0_eq env H
theorem slices_IndexFunc_End_K0_ret (env : Env) (H : Heap) : slices_IndexFunc_End_K0 (.ret, env, H) = some (.ret, env, H) := (rfl)
theorem slices_IndexFunc_End_K0_exit (k : Nat) (env : Env) (H : Heap) : slices_IndexFunc_End_K0 (.exit k, env, H) = if k = 0 then (keepE [] env H).map normE else some (.exit k, env, H) := (rfl)
noncomputable def r01_Rise_R2 (x : Env × Heap) : Out := intoE ctx 2 [0, 3, 4, 5] [0, 3, 4] r01_Rise_B2 x
noncomputable def r01_Rise_K2 (x : Ex × Env × Heap) : Out := roundE ctx 2 [0, 3, 4, 5] [0, 3, 4] r01_Rise_B2 x
theorem r01_Rise_L2_eq (env : Env) (H : Heap) : eval ctx r01_Rise_L2 env H = (keepE [0, 3, 4, 5] env H).bind r01_Rise_R2 := eval_bloop' ctx env H 2 [0, 3, 4, 5] [0, 3, 4] r01_Rise_B2
theorem r01_Rise_R2_eq (env : Env) (H : Heap) : r01_Rise_R2 (env, H) = (eval ctx r01_Rise_B2 env H).bind r01_Rise_K2 := (rfl)
theorem r01_Rise_K2_norm (env : Env) (H : Heap) : r01_Rise_K2 (.norm, env, H) = (keepE [0, 3, 4, 5] env H).bind r01_Rise_R2 := r01_Rise_L2_eq env H
theorem r01_Rise_K2_ret (env : Env) (H : Heap) : r01_Rise_K2 (.ret, env, H) = some (.ret, env, H) := (rfl)
theorem r01_Rise_K2_exit (k : Nat) (env : Env) (H : Heap) : r01_Rise_K2 (.exit k, env, H) = if k = 2 then (keepE [0, 3, 4] env H).map normE else some (.exit k, env, H) := (rfl)
noncomputable def r01_Rise_R0 (x : Env × Heap) : Out := intoE ctx 0 [0, 3] [] r01_Rise_B0 x
noncomputable def r01_Rise_K0 (x : Ex × Env × Heap) : Out := roundE ctx 0 [0, 3] [] r01_Rise_B0 x
theorem r01_Rise_L0_eq (env : Env) (H : Heap) : eval ctx r01_Rise_L0 env H = (keepE [0, 3] env H).bind r01_Rise_R0 := eval_bloop' ctx env H 0 [0, 3] [] r01_Rise_B0
theorem r01_Rise_R0_eq (env : Env) (H : Heap) : r01_Rise_R0 (env, H) = (eval ctx r01_Rise_B0 env H).bind r01_Rise_K0 := (rfl)
theorem r01_Rise_K0_norm (env : Env) (H : Heap) : r01_Rise_K0 (.norm, env, H) = (keepE [0, 3] env H).bind r01_Rise_R0 := r01_Rise_L0_eq env H
theorem r01_Rise_K0_ret (env : Env) (H : Heap) : r01_Rise_K0 (.ret, env, H) = some (.ret, env, H) := (rfl)
theorem r01_Rise_K0_exit (k : Nat) (env : Env) (H : Heap) : r01_Rise_K0 (.exit k, env, H) = if k = 0 then (keepE [] env H).map normE else some (.exit k, env, H) := (rfl)
noncomputable def r05_Around_R0 (x : Env × Heap) : Out := intoE ctx 0 [3, 8, 10, 11] [8] r05_Around_B0 x
noncomputable def r05_Around_K0 (x : Ex × Env × Heap) : Out := roundE ctx 0 [3, 8, 10, 11] [8] r05_Around_B0 x
theorem r05_Around_L0_eq (env : Env) (H : Heap) : eval ctx r05_Around_L0 env H = (keepE [3, 8, 10, 11] env H).bind r05_Around_R0 := eval_bloop' ctx env H 0 [3, 8, 10, 11] [8] r05_Around_B0
theorem r05_Around_R0_eq (env : Env) (H : Heap) : r05_Around_R0 (env, H) = (eval ctx r05_Around_B0 env H).bind r05_Around_K0 := (rfl)
theorem r05_Around_K0_norm (env : Env) (H : Heap) : r05_Around_K0 (.norm, env, H) = (keepE [3, 8, 10, 11] env H).bind r05_Around_R0 := r05_Around_L0_eq env H
theorem r05_Around_K0_ret (env : Env) (H : Heap) : r05_Around_K0 (.ret, env, H) = some (.ret, env, H) := (rfl)
theorem r05_Around_K0_exit (k : Nat) (env : Env) (H : Heap) : r05_Around_K0 (.exit k, env, H) = if k = 0 then (keepE [8] env H).map normE else some (.exit k, env, H) := (rfl)
noncomputable def slices_DeleteFunc_End_R0 (x : Env × Heap) : Out := intoE ctx 0 [0, 1, 5, 6] [0, 5] slices_DeleteFunc_End_B0 x
noncomputable def slices_DeleteFunc_End_K0 (x : Ex × Env × Heap) : Out := roundE ctx 0 [0, 1, 5, 6] [0, 5] slices_DeleteFunc_End_B0 x
theorem slices_DeleteFunc_End_L0_eq (env : Env) (H : Heap) : eval ctx slices_DeleteFunc_End_L0 env H = (keepE [0, 1, 5, 6] env H).bind slices_DeleteFunc_End_R0 := eval_bloop' ctx env H 0 [0, 1, 5, 6] [0, 5] slices_DeleteFunc_End_B0
theorem slices_DeleteFunc_End_R0_eq (env : Env) (H : Heap) : slices_DeleteFunc_End_R0 (env, H) = (eval ctx slices_DeleteFunc_End_B0 env H).bind slices_DeleteFunc_End_K0 := (rfl)
theorem slices_DeleteFunc_End_K0_norm (env : Env) (H : Heap) : slices_DeleteFunc_End_K0 (.norm, env, H) = (keepE [0, 1, 5, 6] env H).bind slices_DeleteFunc_End_R0 := slices_DeleteFunc_End_L0_eq env H
theorem slices_DeleteFunc_End_K0_ret (env : Env) (H : Heap) : slices_DeleteFunc_End_K0 (.ret, env, H) = some (.ret, env, H) := (rfl)
theorem slices_DeleteFunc_End_K0_exit (k : Nat) (env : Env) (H : Heap) : slices_DeleteFunc_End_K0 (.exit k, env, H) = if k = 0 then (keepE [0, 5] env H).map normE else some (.exit k, env, H) := (rfl)
noncomputable def graph_Graph_at_R0 (x : Env × Heap) : Out := intoE ctx 0 [1, 11, 12, 13] [] graph_Graph_at_B0 x
noncomputable def graph_Graph_at_K0 (x : Ex × Env × Heap) : Out := roundE ctx 0 [1, 11, 12, 13] [] graph_Graph_at_B0 x
theorem graph_Graph_at_L0_eq (env : Env) (H : Heap) : eval ctx graph_Graph_at_L0 env H = (keepE [1, 11, 12, 13] env H).bind graph_Graph_at_R0 := eval_bloop' ctx env H 0 [1, 11, 12, 13] [] graph_Graph_at_B0
theorem graph_Graph_at_R0_eq (env : Env) (H : Heap) : graph_Graph_at_R0 (env, H) = (eval ctx graph_Graph_at_B0 env H).bind graph_Graph_at_K0 := (rfl)
theorem graph_Graph_at_K0_norm (env : Env) (H : Heap) : graph_Graph_at_K0 (.norm, env, H) = (keepE [1, 11, 12, 13] env H).bind graph_Graph_at_R0 := graph_Graph_at_L0_eq env H
theorem graph_Graph_at_K0_ret (env : Env) (H : Heap) : graph_Graph_at_K0 (.ret, env, H) = some (.ret, env, H) := (rfl)
theorem graph_Graph_at_K0_exit (k : Nat) (env : Env) (H : Heap) : graph_Graph_at_K0 (.exit k, env, H) = if k = 0 then (keepE [] env H).map normE else some (.exit k, env, H) := (rfl)
noncomputable def slices_IndexFunc_int_R0 (x : Env × Heap) : Out := intoE ctx 0 [0, 1, 7, 8] [] slices_IndexFunc_int_B0 x
noncomputable def slices_IndexFunc_int_K0 (x : Ex × Env × Heap) : Out := roundE ctx 0 [0, 1, 7, 8] [] slices_IndexFunc_int_B0 x
theorem slices_IndexFunc_int_L0_eq (env : Env) (H : Heap) : eval ctx slices_IndexFunc_int_L0 env H = (keepE [0, 1, 7, 8] env H).bind slices_IndexFunc_int_R0 := eval_bloop' ctx env H 0 [0, 1, 7, 8] [] slices_IndexFunc_int_B0
theorem slices_IndexFunc_int_R0_eq (env : Env) (H : Heap) : slices_IndexFunc_int_R0 (env, H) = (eval ctx slices_IndexFunc_int_B0 env H).bind slices_IndexFunc_int_K0 := (rfl)
theorem slices_IndexFunc_int_K0_norm (env : Env) (H : Heap) : slices_IndexFunc_int_K0 (.norm, env, H) = (keepE [0, 1, 7, 8] env H).bind slices_IndexFunc_int_R0 := slices_IndexFunc_int_L0_eq env H
theorem slices_IndexFunc_int_K0_ret (env : Env) (H : Heap) : slices_IndexFunc_int_K0 (.ret, env, H) = some (.ret, env, H) := (rfl)
theorem slices_IndexFunc_int_K0_exit (k : Nat) (env : Env) (H : Heap) : slices_IndexFunc_int_K0 (.exit k, env, H) = if k = 0 then (keepE [] env H).map normE else some (.exit k, env, H) := (rfl)
noncomputable def r05_Point_R0 (x : Env × Heap) : Out := intoE ctx 0 [1, 2, 5] [] r05_Point_B0 x
noncomputable def r05_Point_K0 (x : Ex × Env × Heap) : Out := roundE ctx 0 [1, 2, 5] [] r05_Point_B0 x
theorem r05_Point_L0_eq (env : Env) (H : Heap) : eval ctx r05_Point_L0 env H = (keepE [1, 2, 5] env H).bind r05_Point_R0 := eval_bloop' ctx env H 0 [1, 2, 5] [] r05_Point_B0
theorem r05_Point_R0_eq (env : Env) (H : Heap) : r05_Point_R0 (env, H) = (eval ctx r05_Point_B0 env H).bind r05_Point_K0 := (rfl)
theorem r05_Point_K0_norm (env : Env) (H : Heap) : r05_Point_K0 (.norm, env, H) = (keepE [1, 2, 5] env H).bind r05_Point_R0 := r05_Point_L0_eq env H
theorem r05_Point_K0_ret (env : Env) (H : Heap) : r05_Point_K0 (.ret, env, H) = some (.ret, env, H) := (rfl)
theorem r05_Point_K0_exit (k : Nat) (env : Env) (H : Heap) : r05_Point_K0 (.exit k, env, H) = if k = 0 then (keepE [] env H).map normE else some (.exit k, env, H) := (rfl)
noncomputable def r05_Ends_R0 (x : Env × Heap) : Out := intoE ctx 0 [1, 2, 5, 6] [5] r05_Ends_B0 x
noncomputable def r05_Ends_K0 (x : Ex × Env × Heap) : Out := roundE ctx 0 [1, 2, 5, 6] [5] r05_Ends_B0 x
theorem r05_Ends_L0_eq (env : Env) (H : Heap) : eval ctx r05_Ends_L0 env H = (keepE [1, 2, 5, 6] env H).bind r05_Ends_R0 := eval_bloop' ctx env H 0 [1, 2, 5, 6] [5] r05_Ends_B0
theorem r05_Ends_R0_eq (env : Env) (H : Heap) : r05_Ends_R0 (env, H) = (eval ctx r05_Ends_B0 env H).bind r05_Ends_K0 := (rfl)
theorem r05_Ends_K0_norm (env : Env) (H : Heap) : r05_Ends_K0 (.norm, env, H) = (keepE [1, 2, 5, 6] env H).bind r05_Ends_R0 := r05_Ends_L0_eq env H
theorem r05_Ends_K0_ret (env : Env) (H : Heap) : r05_Ends_K0 (.ret, env, H) = some (.ret, env, H) := (rfl)
theorem r05_Ends_K0_exit (k : Nat) (env : Env) (H : Heap) : r05_Ends_K0 (.exit k, env, H) = if k = 0 then (keepE [5] env H).map normE else some (.exit k, env, H) := (rfl)
noncomputable def slices_IndexFunc_Point_R0 (x : Env × Heap) : Out := intoE ctx 0 [0, 1, 7, 8] [] slices_IndexFunc_Point_B0 x
noncomputable def slices_IndexFunc_Point_K0 (x : Ex × Env × Heap) : Out := roundE ctx 0 [0, 1, 7, 8] [] slices_IndexFunc_Point_B0 x
theorem slices_IndexFunc_Point_L0_eq (env : Env) (H : Heap) : eval ctx slices_IndexFunc_Point_L0 env H = (keepE [0, 1, 7, 8] env H).bind slices_IndexFunc_Point_R0 := eval_bloop' ctx env H 0 [0, 1, 7, 8] [] slices_IndexFunc_Point_B0
theorem slices_IndexFunc_Point_R0_eq (env : Env) (H : Heap) : slices_IndexFunc_Point_R0 (env, H) = (eval ctx slices_IndexFunc_Point_B0 env H).bind slices_IndexFunc_Point_K0 := (rfl)
theorem slices_IndexFunc_Point_K0_norm (env : Env) (H : Heap) : slices_IndexFunc_Point_K0 (.norm, env, H) = (keepE [0, 1, 7, 8] env H).bind slices_IndexFunc_Point_R0 := slices_IndexFunc_Point_L0_eq env H
theorem slices_IndexFunc_Point_K0_ret (env : Env) (H : Heap) : slices_IndexFunc_Point_K0 (.ret, env, H) = some (.ret, env, H) := (rfl)
theorem slices_IndexFunc_Point_K0_exit (k : Nat) (env : Env) (H : Heap) : slices_IndexFunc_Point_K0 (.exit k, env, H) = if k = 0 then (keepE [] env H).map normE else some (.exit k, env, H) := (rfl)
noncomputable def slices_Index_int_R0 (x : Env × Heap) : Out := intoE ctx 0 [0, 1, 7, 8] [] slices_Index_int_B0 x
noncomputable def slices_Index_int_K0 (x : Ex × Env × Heap) : Out := roundE ctx 0 [0, 1, 7, 8] [] slices_Index_int_B0 x
theorem slices_Index_int_L0_eq (env : Env) (H : Heap) : eval ctx slices_Index_int_L0 env H = (keepE [0, 1, 7, 8] env H).bind slices_Index_int_R0 := eval_bloop' ctx env H 0 [0, 1, 7, 8] [] slices_Index_int_B0
theorem slices_Index_int_R0_eq (env : Env) (H : Heap) : slices_Index_int_R0 (env, H) = (eval ctx slices_Index_int_B0 env H).bind slices_Index_int_K0 := (rfl)
theorem slices_Index_int_K0_norm (env : Env) (H : Heap) : slices_Index_int_K0 (.norm, env, H) = (keepE [0, 1, 7, 8] env H).bind slices_Index_int_R0 := slices_Index_int_L0_eq env H
theorem slices_Index_int_K0_ret (env : Env) (H : Heap) : slices_Index_int_K0 (.ret, env, H) = some (.ret, env, H) := (rfl)
theorem slices_Index_int_K0_exit (k : Nat) (env : Env) (H : Heap) : slices_Index_int_K0 (.exit k, env, H) = if k = 0 then (keepE [] env H).map normE else some (.exit k, env, H) := (rfl)
noncomputable def r05_one_R0 (x : Env × Heap) : Out := intoE ctx 0 [1, 7, 8] [] r05_one_B0 x
noncomputable def r05_one_K0 (x : Ex × Env × Heap) : Out := roundE ctx 0 [1, 7, 8] [] r05_one_B0 x
theorem r05_one_L0_eq (env : Env) (H : Heap) : eval ctx r05_one_L0 env H = (keepE [1, 7, 8] env H).bind r05_one_R0 := eval_bloop' ctx env H 0 [1, 7, 8] [] r05_one_B0
theorem r05_one_R0_eq (env : Env) (H : Heap) : r05_one_R0 (env, H) = (eval ctx r05_one_B0 env H).bind r05_one_K0 := (rfl)
theorem r05_one_K0_norm (env : Env) (H : Heap) : r05_one_K0 (.norm, env, H) = (keepE [1, 7, 8] env H).bind r05_one_R0 := r05_one_L0_eq env H
theorem r05_one_K0_ret (env : Env) (H : Heap) : r05_one_K0 (.ret, env, H) = some (.ret, env, H) := (rfl)
theorem r05_one_K0_exit (k : Nat) (env : Env) (H : Heap) : r05_one_K0 (.exit k, env, H) = if k = 0 then (keepE [] env H).map normE else some (.exit k, env, H) := (rfl)
noncomputable def slices_Concat_End_R0 (x : Env × Heap) : Out := intoE ctx 0 [0, 3, 9, 10, 11] [0, 3] slices_Concat_End_B0 x
noncomputable def slices_Concat_End_K0 (x : Ex × Env × Heap) : Out := roundE ctx 0 [0, 3, 9, 10, 11] [0, 3] slices_Concat_End_B0 x
theorem slices_Concat_End_L0_eq (env : Env) (H : Heap) : eval ctx slices_Concat_End_L0 env H = (keepE [0, 3, 9, 10, 11] env H).bind slices_Concat_End_R0 := eval_bloop' ctx env H 0 [0, 3, 9, 10, 11] [0, 3] slices_Concat_End_B0
theorem slices_Concat_End_R0_eq (env : Env) (H : Heap) : slices_Concat_End_R0 (env, H) = (eval ctx slices_Concat_End_B0 env H).bind slices_Concat_End_K0 := (rfl)
theorem slices_Concat_End_K0_norm (env : Env) (H : Heap) : slices_Concat_End_K0 (.norm, env, H) = (keepE [0, 3, 9, 10, 11] env H).bind slices_Concat_End_R0 := slices_Concat_End_L0_eq env H
theorem slices_Concat_End_K0_ret (env : Env) (H : Heap) : slices_Concat_End_K0 (.ret, env, H) = some (.ret, env, H) := (rfl)
theorem slices_Concat_End_K0_exit (k : Nat) (env : Env) (H : Heap) : slices_Concat_End_K0 (.exit k, env, H) = if k = 0 then (keepE [0, 3] env H).map normE else some (.exit k, env, H) := (rfl)
noncomputable def slices_Concat_End_R2 (x : Env × Heap) : Out := intoE ctx 2 [6, 25, 26, 27] [6] slices_Concat_End_B2 x
noncomputable def slices_Concat_End_K2 (x : Ex × Env × Heap) : Out := roundE ctx 2 [6, 25, 26, 27] [6] slices_Concat_End_B2 x
theorem slices_Concat_End_L2_eq (env : Env) (H : Heap) : eval ctx slices_Concat_End_L2 env H = (keepE [6, 25, 26, 27] env H).bind slices_Concat_End_R2 := eval_bloop' ctx env H 2 [6, 25, 26, 27] [6] slices_Concat_End_B2
theorem slices_Concat_End_R2_eq (env : Env) (H : Heap) : slices_Concat_End_R2 (env, H) = (eval ctx slices_Concat_End_B2 env H).bind slices_Concat_End_K2 := (rfl)
theorem slices_Concat_End_K2_norm (env : Env) (H : Heap) : slices_Concat_End_K2 (.norm, env, H) = (keepE [6, 25, 26, 27] env H).bind slices_Concat_End_R2 := slices_Concat_End_L2_eq env H
theorem slices_Concat_End_K2_ret (env : Env) (H : Heap) : slices_Concat_End_K2 (.ret, env, H) = some (.ret, env, H) := (rfl)
theorem slices_Concat_End_K2_exit (k : Nat) (env : Env) (H : Heap) : slices_Concat_End_K2 (.exit k, env, H) = if k = 2 then (keepE [6] env H).map normE else some (.exit k, env, H) := (rfl)
end Go.Proofs.Ytmkdhpjidhbijaa.Zt
