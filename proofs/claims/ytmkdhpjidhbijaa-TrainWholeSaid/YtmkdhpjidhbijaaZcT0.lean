/- Go functions, as the interpreter runs them: written by a program of this claim's own, proved to be what the compiler makes of them. No condition. -/
import Derived.Test.YtmkdhpjidhbijaaZcSym
import Derived.Test.YtmkdhpjidhbijaaProg
set_option linter.all false
namespace Go.Proofs.Ytmkdhpjidhbijaa.Zt
open Go Go.Zc
set_option maxRecDepth 100000

/-! ### balise/baliselaw10.TrainFits -/
def l10_TrainFits_C : CCode :=
 (.seq
  (.ops [
    ⟨(some 4), (.h (.box 4)), [.t 0], none⟩,
    ⟨(some 5), (.h (.box 5)), [.t 1], none⟩,
    ⟨(some 8), (.p .mov), [.c (.bool false)], none⟩])
  (.seq
   (.seq
    (.ops [
      ⟨(some 12), .call, [.c (.fn (.func 15) [] [])], none⟩,
      ⟨(some 13), (.p (.un .not)), [.t 12], none⟩,
      ⟨(some 14), (.p .mov), [.t 13], none⟩,
      ⟨(some 15), (.h (.load true 9)), [.t 4], (some (14, false))⟩,
      ⟨(some 16), .call, [.c (.fn (.func 16) [] []), .t 15], (some (14, false))⟩,
      ⟨(some 17), (.p (.un .not)), [.t 16], (some (14, false))⟩,
      ⟨(some 18), (.p .pick), [.t 14, .c (.bool true), .t 17], none⟩,
      ⟨(some 19), (.p .mov), [.t 18], none⟩,
      ⟨(some 20), (.p (.faddr 4)), [.t 5], (some (19, false))⟩,
      ⟨(some 21), (.h (.load false 1)), [.t 20], (some (19, false))⟩,
      ⟨(some 22), (.p .len), [.t 21], (some (19, false))⟩,
      ⟨(some 23), (.p (.bin .gtr .ifc)), [.t 22, .c (.int .i64 12)], (some (19, false))⟩,
      ⟨(some 24), (.p .pick), [.t 19, .c (.bool true), .t 23], none⟩])
    (.cond (.t 24)
     (.seq
      (.ops [
        ⟨(some 25), .call, [.c (.fn (.func 15) [] [])], none⟩,
        ⟨(some 8), (.p .mov), [.t 25], none⟩])
      (.ret [8]))
     .skip))
   (.seq
    (.ops [
      ⟨(some 26), (.h (.load true 9)), [.t 4], none⟩,
      ⟨(some 27), .call, [.c (.fn (.func 17) [] []), .t 26], none⟩,
      ⟨(some 9), (.h (.newl 9 [.nils, .nils, .nils, .nils, .nils, (.int .i64 0), (.int .i64 0), (.int .i64 0), (.int .i64 0), (.int .i64 0)])), [], none⟩,
      ⟨none, (.h (.store 10)), [.t 9, .t 27], none⟩])
    (.seq
     (.ops [
       ⟨(some 28), (.h (.load true 10)), [.t 9], none⟩,
       ⟨(some 29), .call, [.c (.fn (.func 18) [] []), .t 28], none⟩,
       ⟨(some 10), (.p .mov), [.t 29], none⟩])
     (.seq
      (.ops [
        ⟨(some 30), (.p (.faddr 0)), [.t 5], none⟩,
        ⟨none, (.h (.store 1)), [.t 30, .c (.int .u8 0)], none⟩])
      (.seq
       (.ops [
         ⟨(some 31), (.h (.load true 10)), [.t 9], none⟩,
         ⟨(some 32), (.h (.load true 8)), [.t 5], none⟩,
         ⟨(some 33), .call, [.c (.fn (.func 19) [] []), .t 31, .t 32, .c (.int .i64 0)], none⟩,
         ⟨(some 11), (.h (.newl 11 [(.int .u8 0), (.int .i64 0), (.int .i64 0), (.int .i64 0), (.int .i64 0), (.bool false), .nils])), [], none⟩,
         ⟨none, (.h (.store 7)), [.t 11, .t 33], none⟩])
       (.seq
        (.seq
         (.ops [
           ⟨(some 34), (.p .mov), [.t 10], none⟩,
           ⟨(some 35), (.h (.load true 7)), [.t 11], none⟩,
           ⟨(some 36), .call, [.c (.fn (.func 20) [] []), .t 34, .t 35], none⟩,
           ⟨(some 37), (.p (.un .not)), [.t 36], none⟩,
           ⟨(some 38), (.p .mov), [.t 37], none⟩,
           ⟨(some 39), (.h (.load true 10)), [.t 9], (some (38, false))⟩,
           ⟨(some 40), (.h (.load true 7)), [.t 11], (some (38, false))⟩,
           ⟨(some 41), .call, [.c (.fn (.func 21) [] []), .t 39, .t 40], (some (38, false))⟩,
           ⟨(some 42), (.p (.un .not)), [.t 41], (some (38, false))⟩,
           ⟨(some 43), (.p .pick), [.t 38, .c (.bool true), .t 42], none⟩])
         (.cond (.t 43)
          (.seq
           (.ops [
             ⟨(some 8), (.p .mov), [.c (.bool false)], none⟩])
           (.ret [8]))
          .skip))
        (.seq
         (.seq
          (.ops [
            ⟨(some 44), (.p .mov), [.t 2], none⟩,
            ⟨(some 45), (.p (.bin .rem .ifc)), [.t 44, .c (.int .u8 6)], none⟩])
          (.block 0 (some [9, 10, 11])
           (.seq
            (.ops [
              ⟨(some 51), (.p (.bin .eql .int)), [.t 45, .c (.int .u8 0)], none⟩,
              ⟨(some 50), (.p .mov), [.t 51], none⟩])
            (.cond (.t 50)
             (.ops [
               ⟨(some 52), (.p .mov), [.t 3], none⟩,
               ⟨(some 53), (.p (.faddr 3)), [.t 11], none⟩,
               ⟨none, (.h (.store 1)), [.t 53, .t 52], none⟩])
             (.seq
              (.ops [
                ⟨(some 55), (.p (.bin .eql .int)), [.t 45, .c (.int .u8 1)], none⟩,
                ⟨(some 54), (.p .mov), [.t 55], none⟩])
              (.cond (.t 54)
               (.ops [
                 ⟨(some 56), (.p .mov), [.t 3], none⟩,
                 ⟨(some 57), (.p (.faddr 4)), [.t 11], none⟩,
                 ⟨none, (.h (.store 1)), [.t 57, .t 56], none⟩])
               (.seq
                (.ops [
                  ⟨(some 59), (.p (.bin .eql .int)), [.t 45, .c (.int .u8 2)], none⟩,
                  ⟨(some 58), (.p .mov), [.t 59], none⟩])
                (.cond (.t 58)
                 (.ops [
                   ⟨(some 60), (.p (.faddr 6)), [.t 11], none⟩,
                   ⟨(some 61), (.h (.load false 1)), [.t 60], none⟩,
                   ⟨(some 62), (.h (.app 1 8 [(.int .i64 0)])), [.c .nils, .t 61], none⟩,
                   ⟨(some 63), (.p .mov), [.t 3], none⟩,
                   ⟨(some 64), (.h (.bslF 1 1 [(.int .i64 0)] [(0, 1)])), [.t 63], none⟩,
                   ⟨(some 65), (.h (.app 1 8 [(.int .i64 0)])), [.t 62, .t 64], none⟩,
                   ⟨(some 66), (.p (.faddr 6)), [.t 11], none⟩,
                   ⟨none, (.h (.store 1)), [.t 66, .t 65], none⟩])
                 (.seq
                  (.ops [
                    ⟨(some 68), (.p (.bin .eql .int)), [.t 45, .c (.int .u8 3)], none⟩,
                    ⟨(some 67), (.p .mov), [.t 68], none⟩])
                  (.cond (.t 67)
                   (.ops [
                     ⟨(some 69), (.p .mov), [.t 3], none⟩,
                     ⟨(some 70), (.p (.bin .rem .ifc)), [.t 69, .c (.int .i64 10)], none⟩,
                     ⟨(some 71), (.h (.bslO 1 1 [(.int .i64 0)] [(0, 1)])), [.t 70], none⟩,
                     ⟨(some 72), (.p (.faddr 6)), [.t 11], none⟩,
                     ⟨(some 73), (.h (.load false 1)), [.t 72], none⟩,
                     ⟨(some 74), (.h (.app 1 8 [(.int .i64 0)])), [.t 71, .t 73], none⟩,
                     ⟨(some 75), (.p (.faddr 6)), [.t 11], none⟩,
                     ⟨none, (.h (.store 1)), [.t 75, .t 74], none⟩])
                   (.seq
                    (.ops [
                      ⟨(some 77), (.p (.bin .eql .int)), [.t 45, .c (.int .u8 4)], none⟩,
                      ⟨(some 76), (.p .mov), [.t 77], none⟩])
                    (.cond (.t 76)
                     (.ops [
                       ⟨(some 78), (.p (.faddr 6)), [.t 11], none⟩,
                       ⟨(some 79), (.h (.load false 1)), [.t 78], none⟩,
                       ⟨(some 80), .call, [.c (.fn (.func 22) [] []), .t 79], none⟩,
                       ⟨(some 81), (.p (.faddr 6)), [.t 11], none⟩,
                       ⟨none, (.h (.store 1)), [.t 81, .t 80], none⟩])
                     (.ops [
                       ⟨(some 46), (.p (.faddr 6)), [.t 11], none⟩,
                       ⟨(some 47), (.h (.load false 1)), [.t 46], none⟩,
                       ⟨(some 48), (.p (.slc 1 false true)), [.t 47, .c (.int .i64 0)], none⟩,
                       ⟨(some 49), (.p (.faddr 6)), [.t 11], none⟩,
                       ⟨none, (.h (.store 1)), [.t 49, .t 48], none⟩])))))))))))))
         (.seq
          (.ops [
            ⟨(some 82), (.p .mov), [.t 10], none⟩,
            ⟨(some 83), (.h (.load true 7)), [.t 11], none⟩,
            ⟨(some 84), .call, [.c (.fn (.func 20) [] []), .t 82, .t 83], none⟩,
            ⟨(some 85), (.h (.load true 10)), [.t 9], none⟩,
            ⟨(some 86), (.h (.load true 7)), [.t 11], none⟩,
            ⟨(some 87), .call, [.c (.fn (.func 21) [] []), .t 85, .t 86], none⟩,
            ⟨(some 88), (.p (.bin .eql .bool)), [.t 84, .t 87], none⟩,
            ⟨(some 8), (.p .mov), [.t 88], none⟩])
          (.ret [8]))))))))))
def l10_TrainFits_I : FInfo := ⟨(.fz false), 4, l10_TrainFits_C, [.tmp 8]⟩
def l10_TrainFits_A : Ann := ⟨[], [71], [], [(0, [9, 10, 11])], [4, 5, 9, 11]⟩
abbrev n_l10_TrainFits : Nat := 3

/-! ### balise/baliselaw10.TrainStale -/
def l10_TrainStale_C : CCode :=
 (.seq
  (.ops [
    ⟨(some 4), (.h (.box 4)), [.t 0], none⟩,
    ⟨(some 5), (.h (.box 5)), [.t 1], none⟩,
    ⟨(some 6), (.h (.box 6)), [.t 2], none⟩,
    ⟨(some 8), (.p .mov), [.c (.bool false)], none⟩])
  (.seq
   (.seq
    (.ops [
      ⟨(some 20), .call, [.c (.fn (.func 15) [] [])], none⟩,
      ⟨(some 21), (.p (.un .not)), [.t 20], none⟩,
      ⟨(some 22), (.p .mov), [.t 21], none⟩,
      ⟨(some 23), (.h (.load true 9)), [.t 4], (some (22, false))⟩,
      ⟨(some 24), .call, [.c (.fn (.func 16) [] []), .t 23], (some (22, false))⟩,
      ⟨(some 25), (.p (.un .not)), [.t 24], (some (22, false))⟩,
      ⟨(some 26), (.p .pick), [.t 22, .c (.bool true), .t 25], none⟩,
      ⟨(some 27), (.p .mov), [.t 26], none⟩,
      ⟨(some 28), (.p (.faddr 4)), [.t 5], (some (27, false))⟩,
      ⟨(some 29), (.h (.load false 1)), [.t 28], (some (27, false))⟩,
      ⟨(some 30), (.p .len), [.t 29], (some (27, false))⟩,
      ⟨(some 31), (.p (.bin .gtr .ifc)), [.t 30, .c (.int .i64 12)], (some (27, false))⟩,
      ⟨(some 32), (.p .pick), [.t 27, .c (.bool true), .t 31], none⟩,
      ⟨(some 33), (.p .mov), [.t 32], none⟩,
      ⟨(some 34), (.p (.faddr 4)), [.t 6], (some (33, false))⟩,
      ⟨(some 35), (.h (.load false 1)), [.t 34], (some (33, false))⟩,
      ⟨(some 36), (.p .len), [.t 35], (some (33, false))⟩,
      ⟨(some 37), (.p (.bin .gtr .ifc)), [.t 36, .c (.int .i64 12)], (some (33, false))⟩,
      ⟨(some 38), (.p .pick), [.t 33, .c (.bool true), .t 37], none⟩])
    (.cond (.t 38)
     (.seq
      (.ops [
        ⟨(some 39), .call, [.c (.fn (.func 15) [] [])], none⟩,
        ⟨(some 8), (.p .mov), [.t 39], none⟩])
      (.ret [8]))
     .skip))
   (.seq
    (.ops [
      ⟨(some 40), (.h (.load true 9)), [.t 4], none⟩,
      ⟨(some 41), .call, [.c (.fn (.func 17) [] []), .t 40], none⟩,
      ⟨(some 9), (.h (.newl 9 [.nils, .nils, .nils, .nils, .nils, (.int .i64 0), (.int .i64 0), (.int .i64 0), (.int .i64 0), (.int .i64 0)])), [], none⟩,
      ⟨none, (.h (.store 10)), [.t 9, .t 41], none⟩])
    (.seq
     (.ops [
       ⟨(some 42), (.h (.load true 10)), [.t 9], none⟩,
       ⟨(some 43), .call, [.c (.fn (.func 18) [] []), .t 42], none⟩,
       ⟨(some 44), .call, [.c (.fn (.func 23) [] [])], none⟩,
       ⟨(some 10), (.p .mov), [.t 43], none⟩,
       ⟨(some 11), (.p .mov), [.t 44], none⟩])
     (.seq
      (.ops [
        ⟨(some 45), (.p (.faddr 0)), [.t 5], none⟩,
        ⟨none, (.h (.store 1)), [.t 45, .c (.int .u8 0)], none⟩,
        ⟨(some 46), (.p (.faddr 0)), [.t 6], none⟩,
        ⟨none, (.h (.store 1)), [.t 46, .c (.int .u8 0)], none⟩,
        ⟨(some 47), (.p (.faddr 1)), [.t 5], none⟩,
        ⟨none, (.h (.store 1)), [.t 47, .c (.int .u8 3)], none⟩,
        ⟨(some 48), (.p (.faddr 1)), [.t 6], none⟩,
        ⟨none, (.h (.store 1)), [.t 48, .c (.int .u8 3)], none⟩])
      (.seq
       (.ops [
         ⟨(some 49), (.p .mov), [.t 3], none⟩,
         ⟨(some 50), (.p (.toInt .i64)), [.t 49], none⟩,
         ⟨(some 51), (.p (.bin .add .ifc)), [.t 50, .c (.int .i64 10)], none⟩,
         ⟨(some 12), (.p .mov), [.t 51], none⟩])
       (.seq
        (.seq
         (.ops [
           ⟨(some 52), (.p .mov), [.t 11], none⟩,
           ⟨(some 53), (.p .mov), [.t 10], none⟩,
           ⟨(some 54), (.p .mov), [.t 12], none⟩,
           ⟨(some 55), (.h (.load true 10)), [.t 9], none⟩,
           ⟨(some 56), (.h (.load true 8)), [.t 5], none⟩,
           ⟨(some 57), (.p .mov), [.t 12], none⟩,
           ⟨(some 58), .call, [.c (.fn (.func 19) [] []), .t 55, .t 56, .t 57], none⟩,
           ⟨(some 59), .call, [.c (.fn (.func 24) [] []), .t 52, .t 53, .t 54, .t 58, .c .nils], none⟩,
           ⟨(some 60), (.p (.bin .neq .int)), [.t 59, .c (.int .i64 7)], none⟩,
           ⟨(some 61), (.p .mov), [.t 60], none⟩,
           ⟨(some 62), (.p .mov), [.t 11], (some (61, false))⟩,
           ⟨(some 63), (.p .mov), [.t 12], (some (61, false))⟩,
           ⟨(some 64), (.p (.bin .sub .ifc)), [.t 63, .c (.int .i64 5)], (some (61, false))⟩,
           ⟨(some 65), .call, [.c (.fn (.func 25) [] []), .t 62, .c (.int .i64 3), .t 64], (some (61, false))⟩,
           ⟨(some 66), (.p (.bin .neq .int)), [.t 65, .c (.int .i64 0)], (some (61, false))⟩,
           ⟨(some 67), (.p .pick), [.t 61, .c (.bool true), .t 66], none⟩,
           ⟨(some 68), (.p .mov), [.t 67], none⟩,
           ⟨(some 69), (.p .mov), [.t 11], (some (68, false))⟩,
           ⟨(some 70), (.p .mov), [.t 10], (some (68, false))⟩,
           ⟨(some 71), (.p .mov), [.t 12], (some (68, false))⟩,
           ⟨(some 72), (.h (.load true 10)), [.t 9], (some (68, false))⟩,
           ⟨(some 73), (.h (.load true 8)), [.t 5], (some (68, false))⟩,
           ⟨(some 74), (.p .mov), [.t 12], (some (68, false))⟩,
           ⟨(some 75), (.p (.bin .sub .ifc)), [.t 74, .c (.int .i64 2)], (some (68, false))⟩,
           ⟨(some 76), .call, [.c (.fn (.func 19) [] []), .t 72, .t 73, .t 75], (some (68, false))⟩,
           ⟨(some 77), .call, [.c (.fn (.func 24) [] []), .t 69, .t 70, .t 71, .t 76, .c .nils], (some (68, false))⟩,
           ⟨(some 78), (.p (.bin .neq .int)), [.t 77, .c (.int .i64 8)], (some (68, false))⟩,
           ⟨(some 79), (.p .pick), [.t 68, .c (.bool true), .t 78], none⟩,
           ⟨(some 80), (.p .mov), [.t 79], none⟩,
           ⟨(some 81), (.p .mov), [.t 11], (some (80, false))⟩,
           ⟨(some 82), (.p .mov), [.t 10], (some (80, false))⟩,
           ⟨(some 83), (.p .mov), [.t 12], (some (80, false))⟩,
           ⟨(some 84), (.p (.bin .sub .ifc)), [.t 83, .c (.int .i64 2)], (some (80, false))⟩,
           ⟨(some 85), (.h (.load true 10)), [.t 9], (some (80, false))⟩,
           ⟨(some 86), (.h (.load true 8)), [.t 5], (some (80, false))⟩,
           ⟨(some 87), (.p .mov), [.t 12], (some (80, false))⟩,
           ⟨(some 88), (.p (.bin .sub .ifc)), [.t 87, .c (.int .i64 2)], (some (80, false))⟩,
           ⟨(some 89), .call, [.c (.fn (.func 19) [] []), .t 85, .t 86, .t 88], (some (80, false))⟩,
           ⟨(some 90), .call, [.c (.fn (.func 24) [] []), .t 81, .t 82, .t 84, .t 89, .c .nils], (some (80, false))⟩,
           ⟨(some 91), (.p (.bin .neq .int)), [.t 90, .c (.int .i64 0)], (some (80, false))⟩,
           ⟨(some 92), (.p .pick), [.t 80, .c (.bool true), .t 91], none⟩])
         (.cond (.t 92)
          (.seq
           (.ops [
             ⟨(some 8), (.p .mov), [.c (.bool false)], none⟩])
           (.ret [8]))
          .skip))
        (.seq
         (.ops [
           ⟨(some 94), (.p .mov), [.t 11], none⟩,
           ⟨(some 95), .call, [.c (.fn (.func 26) [] []), .t 94, .c (.int .i64 3)], none⟩,
           ⟨(some 93), (.p .mov), [.t 95], none⟩,
           ⟨(some 96), (.p (.ext 0)), [.t 93], none⟩,
           ⟨(some 97), (.p (.ext 1)), [.t 93], none⟩,
           ⟨(some 13), (.h (.newl 13 [(.int .i64 0), (.int .i64 0), (.int .i64 0), (.int .i64 0), (.int .i64 0), .nils])), [], none⟩,
           ⟨none, (.h (.store 6)), [.t 13, .t 96], none⟩,
           ⟨(some 14), (.p .mov), [.t 97], none⟩])
         (.seq
          (.ops [
            ⟨(some 98), (.p .mov), [.t 11], none⟩,
            ⟨(some 99), (.p .mov), [.t 10], none⟩,
            ⟨(some 100), (.p .mov), [.t 12], none⟩,
            ⟨(some 101), (.h (.load true 10)), [.t 9], none⟩,
            ⟨(some 102), (.h (.load true 8)), [.t 6], none⟩,
            ⟨(some 103), (.p .mov), [.t 12], none⟩,
            ⟨(some 104), (.p (.bin .sub .ifc)), [.t 103, .c (.int .i64 2)], none⟩,
            ⟨(some 105), .call, [.c (.fn (.func 19) [] []), .t 101, .t 102, .t 104], none⟩,
            ⟨(some 106), .call, [.c (.fn (.func 24) [] []), .t 98, .t 99, .t 100, .t 105, .c .nils], none⟩,
            ⟨(some 15), (.p .mov), [.t 106], none⟩])
          (.seq
           (.ops [
             ⟨(some 107), (.p .mov), [.t 11], none⟩,
             ⟨(some 108), (.p .mov), [.t 10], none⟩,
             ⟨(some 109), (.p .mov), [.t 12], none⟩,
             ⟨(some 110), (.h (.load true 10)), [.t 9], none⟩,
             ⟨(some 111), (.h (.load true 8)), [.t 6], none⟩,
             ⟨(some 112), (.p .mov), [.t 12], none⟩,
             ⟨(some 113), (.p (.bin .sub .ifc)), [.t 112, .c (.int .i64 4)], none⟩,
             ⟨(some 114), .call, [.c (.fn (.func 19) [] []), .t 110, .t 111, .t 113], none⟩,
             ⟨(some 115), .call, [.c (.fn (.func 24) [] []), .t 107, .t 108, .t 109, .t 114, .c .nils], none⟩,
             ⟨(some 16), (.p .mov), [.t 115], none⟩])
           (.seq
            (.ops [
              ⟨(some 116), (.p .mov), [.t 11], none⟩,
              ⟨(some 117), (.p .mov), [.t 10], none⟩,
              ⟨(some 118), (.p .mov), [.t 12], none⟩,
              ⟨(some 119), (.h (.load true 10)), [.t 9], none⟩,
              ⟨(some 120), (.h (.load true 8)), [.t 6], none⟩,
              ⟨(some 121), (.p .mov), [.t 12], none⟩,
              ⟨(some 122), (.p (.bin .add .ifc)), [.t 121, .c (.int .i64 1)], none⟩,
              ⟨(some 123), .call, [.c (.fn (.func 19) [] []), .t 119, .t 120, .t 122], none⟩,
              ⟨(some 124), .call, [.c (.fn (.func 24) [] []), .t 116, .t 117, .t 118, .t 123, .c .nils], none⟩,
              ⟨(some 17), (.p .mov), [.t 124], none⟩])
            (.seq
             (.ops [
               ⟨(some 126), (.p .mov), [.t 11], none⟩,
               ⟨(some 127), .call, [.c (.fn (.func 26) [] []), .t 126, .c (.int .i64 3)], none⟩,
               ⟨(some 125), (.p .mov), [.t 127], none⟩,
               ⟨(some 128), (.p (.ext 0)), [.t 125], none⟩,
               ⟨(some 129), (.p (.ext 1)), [.t 125], none⟩,
               ⟨(some 18), (.h (.newl 18 [(.int .i64 0), (.int .i64 0), (.int .i64 0), (.int .i64 0), (.int .i64 0), .nils])), [], none⟩,
               ⟨none, (.h (.store 6)), [.t 18, .t 128], none⟩,
               ⟨(some 19), (.p .mov), [.t 129], none⟩])
             (.seq
              (.ops [
                ⟨(some 130), (.p .mov), [.t 15], none⟩,
                ⟨(some 131), (.p (.bin .eql .int)), [.t 130, .c (.int .i64 8)], none⟩,
                ⟨(some 132), (.p .mov), [.t 131], none⟩,
                ⟨(some 133), (.p .mov), [.t 16], (some (132, true))⟩,
                ⟨(some 134), (.p (.bin .eql .int)), [.t 133, .c (.int .i64 8)], (some (132, true))⟩,
                ⟨(some 135), (.p .pick), [.t 132, .t 134, .c (.bool false)], none⟩,
                ⟨(some 136), (.p .mov), [.t 135], none⟩,
                ⟨(some 137), (.p .mov), [.t 17], (some (136, true))⟩,
                ⟨(some 138), (.p (.bin .eql .int)), [.t 137, .c (.int .i64 8)], (some (136, true))⟩,
                ⟨(some 139), (.p .pick), [.t 136, .t 138, .c (.bool false)], none⟩,
                ⟨(some 140), (.p .mov), [.t 139], none⟩,
                ⟨(some 141), (.p (.faddr 1)), [.t 13], (some (140, true))⟩,
                ⟨(some 142), (.h (.load false 1)), [.t 141], (some (140, true))⟩,
                ⟨(some 143), (.p .mov), [.t 12], (some (140, true))⟩,
                ⟨(some 144), (.p (.bin .sub .ifc)), [.t 143, .c (.int .i64 2)], (some (140, true))⟩,
                ⟨(some 145), (.p (.bin .eql .int)), [.t 142, .t 144], (some (140, true))⟩,
                ⟨(some 146), (.p .pick), [.t 140, .t 145, .c (.bool false)], none⟩,
                ⟨(some 147), (.p .mov), [.t 146], none⟩,
                ⟨(some 148), (.p (.faddr 1)), [.t 18], (some (147, true))⟩,
                ⟨(some 149), (.h (.load false 1)), [.t 148], (some (147, true))⟩,
                ⟨(some 150), (.p (.faddr 1)), [.t 13], (some (147, true))⟩,
                ⟨(some 151), (.h (.load false 1)), [.t 150], (some (147, true))⟩,
                ⟨(some 152), (.p (.bin .eql .int)), [.t 149, .t 151], (some (147, true))⟩,
                ⟨(some 153), (.p .pick), [.t 147, .t 152, .c (.bool false)], none⟩,
                ⟨(some 154), (.p .mov), [.t 153], none⟩,
                ⟨(some 155), (.p (.faddr 5)), [.t 13], (some (154, true))⟩,
                ⟨(some 156), (.h (.load false 1)), [.t 155], (some (154, true))⟩,
                ⟨(some 157), (.p (.faddr 5)), [.t 18], (some (154, true))⟩,
                ⟨(some 158), (.h (.load false 1)), [.t 157], (some (154, true))⟩,
                ⟨(some 159), .call, [.c (.fn (.func 27) [] []), .t 156, .t 158], (some (154, true))⟩,
                ⟨(some 160), (.p .pick), [.t 154, .t 159, .c (.bool false)], none⟩,
                ⟨(some 161), (.p .mov), [.t 160], none⟩,
                ⟨(some 162), (.p (.faddr 2)), [.t 13], (some (161, true))⟩,
                ⟨(some 163), (.h (.load false 1)), [.t 162], (some (161, true))⟩,
                ⟨(some 164), (.p (.faddr 2)), [.t 18], (some (161, true))⟩,
                ⟨(some 165), (.h (.load false 1)), [.t 164], (some (161, true))⟩,
                ⟨(some 166), (.p (.bin .eql .int)), [.t 163, .t 165], (some (161, true))⟩,
                ⟨(some 167), (.p .pick), [.t 161, .t 166, .c (.bool false)], none⟩,
                ⟨(some 168), (.p .mov), [.t 167], none⟩,
                ⟨(some 169), (.p (.faddr 4)), [.t 13], (some (168, true))⟩,
                ⟨(some 170), (.h (.load false 1)), [.t 169], (some (168, true))⟩,
                ⟨(some 171), (.p (.faddr 4)), [.t 18], (some (168, true))⟩,
                ⟨(some 172), (.h (.load false 1)), [.t 171], (some (168, true))⟩,
                ⟨(some 173), (.p (.bin .eql .int)), [.t 170, .t 172], (some (168, true))⟩,
                ⟨(some 174), (.p .pick), [.t 168, .t 173, .c (.bool false)], none⟩,
                ⟨(some 175), (.p .mov), [.t 174], none⟩,
                ⟨(some 176), (.p (.faddr 2)), [.t 13], (some (175, true))⟩,
                ⟨(some 177), (.h (.load false 1)), [.t 176], (some (175, true))⟩,
                ⟨(some 178), (.p .mov), [.t 12], (some (175, true))⟩,
                ⟨(some 179), (.p (.bin .sub .ifc)), [.t 178, .c (.int .i64 2)], (some (175, true))⟩,
                ⟨(some 180), (.p (.bin .eql .int)), [.t 177, .t 179], (some (175, true))⟩,
                ⟨(some 181), (.p (.faddr 6)), [.t 5], (some (175, true))⟩,
                ⟨(some 182), (.h (.load false 1)), [.t 181], (some (175, true))⟩,
                ⟨(some 183), (.p (.bin .eql .bool)), [.t 180, .t 182], (some (175, true))⟩,
                ⟨(some 184), (.p .pick), [.t 175, .t 183, .c (.bool false)], none⟩,
                ⟨(some 8), (.p .mov), [.t 184], none⟩])
              (.ret [8]))))))))))))))
def l10_TrainStale_I : FInfo := ⟨(.fz false), 4, l10_TrainStale_C, [.tmp 8]⟩
def l10_TrainStale_A : Ann := ⟨[], [], [], [], [4, 5, 6, 9, 13, 18]⟩
abbrev n_l10_TrainStale : Nat := 4

/-! ### balise/baliselaw10.TrainWhole -/
def l10_TrainWhole_C : CCode :=
 (.seq
  (.ops [
    ⟨(some 3), (.h (.box 3)), [.t 0], none⟩,
    ⟨(some 4), (.h (.box 4)), [.t 1], none⟩,
    ⟨(some 5), (.h (.box 5)), [.t 2], none⟩,
    ⟨(some 6), (.p .mov), [.c (.bool false)], none⟩])
  (.seq
   (.seq
    (.ops [
      ⟨(some 15), .call, [.c (.fn (.func 15) [] [])], none⟩,
      ⟨(some 16), (.p (.un .not)), [.t 15], none⟩,
      ⟨(some 17), (.p .mov), [.t 16], none⟩,
      ⟨(some 18), (.h (.load true 9)), [.t 3], (some (17, false))⟩,
      ⟨(some 19), .call, [.c (.fn (.func 16) [] []), .t 18], (some (17, false))⟩,
      ⟨(some 20), (.p (.un .not)), [.t 19], (some (17, false))⟩,
      ⟨(some 21), (.p .pick), [.t 17, .c (.bool true), .t 20], none⟩,
      ⟨(some 22), (.p .mov), [.t 21], none⟩,
      ⟨(some 23), (.p (.faddr 4)), [.t 4], (some (22, false))⟩,
      ⟨(some 24), (.h (.load false 1)), [.t 23], (some (22, false))⟩,
      ⟨(some 25), (.p .len), [.t 24], (some (22, false))⟩,
      ⟨(some 26), (.p (.bin .gtr .ifc)), [.t 25, .c (.int .i64 12)], (some (22, false))⟩,
      ⟨(some 27), (.p .pick), [.t 22, .c (.bool true), .t 26], none⟩,
      ⟨(some 28), (.p .mov), [.t 27], none⟩,
      ⟨(some 29), (.p (.faddr 4)), [.t 5], (some (28, false))⟩,
      ⟨(some 30), (.h (.load false 1)), [.t 29], (some (28, false))⟩,
      ⟨(some 31), (.p .len), [.t 30], (some (28, false))⟩,
      ⟨(some 32), (.p (.bin .gtr .ifc)), [.t 31, .c (.int .i64 12)], (some (28, false))⟩,
      ⟨(some 33), (.p .pick), [.t 28, .c (.bool true), .t 32], none⟩])
    (.cond (.t 33)
     (.seq
      (.ops [
        ⟨(some 34), .call, [.c (.fn (.func 15) [] [])], none⟩,
        ⟨(some 6), (.p .mov), [.t 34], none⟩])
      (.ret [6]))
     .skip))
   (.seq
    (.ops [
      ⟨(some 35), (.h (.load true 9)), [.t 3], none⟩,
      ⟨(some 36), .call, [.c (.fn (.func 17) [] []), .t 35], none⟩,
      ⟨(some 7), (.h (.newl 7 [.nils, .nils, .nils, .nils, .nils, (.int .i64 0), (.int .i64 0), (.int .i64 0), (.int .i64 0), (.int .i64 0)])), [], none⟩,
      ⟨none, (.h (.store 10)), [.t 7, .t 36], none⟩])
    (.seq
     (.ops [
       ⟨(some 37), (.h (.load true 10)), [.t 7], none⟩,
       ⟨(some 38), .call, [.c (.fn (.func 18) [] []), .t 37], none⟩,
       ⟨(some 39), .call, [.c (.fn (.func 23) [] [])], none⟩,
       ⟨(some 8), (.p .mov), [.t 38], none⟩,
       ⟨(some 9), (.p .mov), [.t 39], none⟩])
     (.seq
      (.ops [
        ⟨(some 40), (.p (.faddr 0)), [.t 4], none⟩,
        ⟨none, (.h (.store 1)), [.t 40, .c (.int .u8 0)], none⟩,
        ⟨(some 41), (.p (.faddr 0)), [.t 5], none⟩,
        ⟨none, (.h (.store 1)), [.t 41, .c (.int .u8 0)], none⟩,
        ⟨(some 42), (.p (.faddr 1)), [.t 4], none⟩,
        ⟨none, (.h (.store 1)), [.t 42, .c (.int .u8 3)], none⟩,
        ⟨(some 43), (.p (.faddr 1)), [.t 5], none⟩,
        ⟨none, (.h (.store 1)), [.t 43, .c (.int .u8 3)], none⟩,
        ⟨(some 44), (.p (.faddr 6)), [.t 4], none⟩,
        ⟨none, (.h (.store 1)), [.t 44, .c (.bool true)], none⟩])
      (.seq
       (.ops [
         ⟨(some 45), (.h (.load true 10)), [.t 7], none⟩,
         ⟨(some 46), (.h (.load true 8)), [.t 5], none⟩,
         ⟨(some 47), .call, [.c (.fn (.func 19) [] []), .t 45, .t 46, .c (.int .i64 6)], none⟩,
         ⟨(some 10), (.h (.newl 10 [(.int .u8 0), (.int .i64 0), (.int .i64 0), (.int .i64 0), (.int .i64 0), (.bool false), .nils])), [], none⟩,
         ⟨none, (.h (.store 7)), [.t 10, .t 47], none⟩])
       (.seq
        (.seq
         (.ops [
           ⟨(some 48), (.p .mov), [.t 9], none⟩,
           ⟨(some 49), .call, [.c (.fn (.func 25) [] []), .t 48, .c (.int .i64 3), .c (.int .i64 4)], none⟩,
           ⟨(some 50), (.p (.bin .neq .int)), [.t 49, .c (.int .i64 0)], none⟩,
           ⟨(some 51), (.p .mov), [.t 50], none⟩,
           ⟨(some 52), (.p .mov), [.t 9], (some (51, false))⟩,
           ⟨(some 53), (.p .mov), [.t 8], (some (51, false))⟩,
           ⟨(some 54), (.h (.load true 10)), [.t 7], (some (51, false))⟩,
           ⟨(some 55), (.h (.load true 8)), [.t 4], (some (51, false))⟩,
           ⟨(some 56), .call, [.c (.fn (.func 19) [] []), .t 54, .t 55, .c (.int .i64 5)], (some (51, false))⟩,
           ⟨(some 57), .call, [.c (.fn (.func 24) [] []), .t 52, .t 53, .c (.int .i64 5), .t 56, .c .nils], (some (51, false))⟩,
           ⟨(some 58), (.p (.bin .neq .int)), [.t 57, .c (.int .i64 0)], (some (51, false))⟩,
           ⟨(some 59), (.p .pick), [.t 51, .c (.bool true), .t 58], none⟩])
         (.cond (.t 59)
          (.seq
           (.ops [
             ⟨(some 6), (.p .mov), [.c (.bool false)], none⟩])
           (.ret [6]))
          .skip))
        (.seq
         (.ops [
           ⟨(some 61), (.p .mov), [.t 9], none⟩,
           ⟨(some 62), .call, [.c (.fn (.func 26) [] []), .t 61, .c (.int .i64 3)], none⟩,
           ⟨(some 60), (.p .mov), [.t 62], none⟩,
           ⟨(some 63), (.p (.ext 0)), [.t 60], none⟩,
           ⟨(some 64), (.p (.ext 1)), [.t 60], none⟩,
           ⟨(some 11), (.h (.newl 11 [(.int .i64 0), (.int .i64 0), (.int .i64 0), (.int .i64 0), (.int .i64 0), .nils])), [], none⟩,
           ⟨none, (.h (.store 6)), [.t 11, .t 63], none⟩,
           ⟨(some 12), (.p .mov), [.t 64], none⟩])
         (.seq
          (.seq
           (.ops [
             ⟨(some 65), (.p (.faddr 2)), [.t 11], none⟩,
             ⟨(some 66), (.h (.load false 1)), [.t 65], none⟩,
             ⟨(some 67), (.p (.bin .neq .int)), [.t 66, .c (.int .i64 5)], none⟩,
             ⟨(some 68), (.p .mov), [.t 67], none⟩,
             ⟨(some 69), (.p (.faddr 5)), [.t 11], (some (68, false))⟩,
             ⟨(some 70), (.h (.load false 1)), [.t 69], (some (68, false))⟩,
             ⟨(some 71), (.h (.load true 10)), [.t 7], (some (68, false))⟩,
             ⟨(some 72), (.h (.load true 8)), [.t 4], (some (68, false))⟩,
             ⟨(some 73), .call, [.c (.fn (.func 19) [] []), .t 71, .t 72, .c (.int .i64 5)], (some (68, false))⟩,
             ⟨(some 74), (.p (.fld false 1 6)), [.t 73], (some (68, false))⟩,
             ⟨(some 75), .call, [.c (.fn (.func 27) [] []), .t 70, .t 74], (some (68, false))⟩,
             ⟨(some 76), (.p (.un .not)), [.t 75], (some (68, false))⟩,
             ⟨(some 77), (.p .pick), [.t 68, .c (.bool true), .t 76], none⟩,
             ⟨(some 78), (.p .mov), [.t 77], none⟩,
             ⟨(some 79), (.p .mov), [.t 9], (some (78, false))⟩,
             ⟨(some 80), (.p .mov), [.t 8], (some (78, false))⟩,
             ⟨(some 81), (.h (.load true 7)), [.t 10], (some (78, false))⟩,
             ⟨(some 82), (.p (.faddr 5)), [.t 11], (some (78, false))⟩,
             ⟨(some 83), (.h (.load false 1)), [.t 82], (some (78, false))⟩,
             ⟨(some 84), .call, [.c (.fn (.func 24) [] []), .t 79, .t 80, .c (.int .i64 9), .t 81, .t 83], (some (78, false))⟩,
             ⟨(some 85), (.p (.bin .neq .int)), [.t 84, .c (.int .i64 0)], (some (78, false))⟩,
             ⟨(some 86), (.p .pick), [.t 78, .c (.bool true), .t 85], none⟩])
           (.cond (.t 86)
            (.seq
             (.ops [
               ⟨(some 6), (.p .mov), [.c (.bool false)], none⟩])
             (.ret [6]))
            .skip))
          (.seq
           (.ops [
             ⟨(some 88), (.p .mov), [.t 9], none⟩,
             ⟨(some 89), .call, [.c (.fn (.func 26) [] []), .t 88, .c (.int .i64 3)], none⟩,
             ⟨(some 87), (.p .mov), [.t 89], none⟩,
             ⟨(some 90), (.p (.ext 0)), [.t 87], none⟩,
             ⟨(some 91), (.p (.ext 1)), [.t 87], none⟩,
             ⟨(some 13), (.h (.newl 13 [(.int .i64 0), (.int .i64 0), (.int .i64 0), (.int .i64 0), (.int .i64 0), .nils])), [], none⟩,
             ⟨none, (.h (.store 6)), [.t 13, .t 90], none⟩,
             ⟨(some 14), (.p .mov), [.t 91], none⟩])
           (.seq
            (.seq
             (.ops [
               ⟨(some 92), (.p (.faddr 5)), [.t 10], none⟩,
               ⟨(some 93), (.h (.load false 1)), [.t 92], none⟩])
             (.cond (.t 93)
              (.seq
               (.ops [
                 ⟨(some 94), (.p (.faddr 2)), [.t 13], none⟩,
                 ⟨(some 95), (.h (.load false 1)), [.t 94], none⟩,
                 ⟨(some 96), (.p (.bin .eql .int)), [.t 95, .c (.int .i64 6)], none⟩,
                 ⟨(some 97), (.p .mov), [.t 96], none⟩,
                 ⟨(some 98), (.p (.faddr 5)), [.t 13], (some (97, true))⟩,
                 ⟨(some 99), (.h (.load false 1)), [.t 98], (some (97, true))⟩,
                 ⟨(some 100), (.p (.faddr 6)), [.t 10], (some (97, true))⟩,
                 ⟨(some 101), (.h (.load false 1)), [.t 100], (some (97, true))⟩,
                 ⟨(some 102), .call, [.c (.fn (.func 27) [] []), .t 99, .t 101], (some (97, true))⟩,
                 ⟨(some 103), (.p .pick), [.t 97, .t 102, .c (.bool false)], none⟩,
                 ⟨(some 6), (.p .mov), [.t 103], none⟩])
               (.ret [6]))
              .skip))
            (.seq
             (.ops [
               ⟨(some 104), (.p (.faddr 2)), [.t 13], none⟩,
               ⟨(some 105), (.h (.load false 1)), [.t 104], none⟩,
               ⟨(some 106), (.p (.bin .eql .int)), [.t 105, .c (.int .i64 5)], none⟩,
               ⟨(some 107), (.p .mov), [.t 106], none⟩,
               ⟨(some 108), (.p (.faddr 1)), [.t 13], (some (107, true))⟩,
               ⟨(some 109), (.h (.load false 1)), [.t 108], (some (107, true))⟩,
               ⟨(some 110), (.p (.bin .eql .int)), [.t 109, .c (.int .i64 6)], (some (107, true))⟩,
               ⟨(some 111), (.p .pick), [.t 107, .t 110, .c (.bool false)], none⟩,
               ⟨(some 112), (.p .mov), [.t 111], none⟩,
               ⟨(some 113), (.p (.faddr 5)), [.t 13], (some (112, true))⟩,
               ⟨(some 114), (.h (.load false 1)), [.t 113], (some (112, true))⟩,
               ⟨(some 115), (.p (.faddr 6)), [.t 10], (some (112, true))⟩,
               ⟨(some 116), (.h (.load false 1)), [.t 115], (some (112, true))⟩,
               ⟨(some 117), (.p (.faddr 5)), [.t 11], (some (112, true))⟩,
               ⟨(some 118), (.h (.load false 1)), [.t 117], (some (112, true))⟩,
               ⟨(some 119), .call, [.c (.fn (.func 28) [] []), .t 116, .t 118], (some (112, true))⟩,
               ⟨(some 120), .call, [.c (.fn (.func 27) [] []), .t 114, .t 119], (some (112, true))⟩,
               ⟨(some 121), (.p .pick), [.t 112, .t 120, .c (.bool false)], none⟩,
               ⟨(some 6), (.p .mov), [.t 121], none⟩])
             (.ret [6])))))))))))))
def l10_TrainWhole_I : FInfo := ⟨(.fz false), 3, l10_TrainWhole_C, [.tmp 6]⟩
def l10_TrainWhole_A : Ann := ⟨[], [], [], [], [3, 4, 5, 7, 10, 11, 13]⟩
abbrev n_l10_TrainWhole : Nat := 5

/-! ### balise/baliselaw10.behind -/
def l10_behind_C : CCode :=
 (.seq
  (.ops [
    ⟨(some 0), (.p .mov), [.c (.bool false)], none⟩])
  (.seq
   (.ops [
     ⟨(some 1), (.h (.bslF 1 2 [(.int .i64 0)] [(0, 1), (1, 1)])), [.c (.int .i64 8), .c (.int .i64 7)], none⟩,
     ⟨(some 2), (.h (.bslF 1 4 [(.int .i64 0)] [(0, 1), (1, 1), (2, 1), (3, 1)])), [.c (.int .i64 8), .c (.int .i64 7), .c (.int .i64 6), .c (.int .i64 5)], none⟩,
     ⟨(some 3), .call, [.c (.fn (.func 54) [] []), .t 1, .t 2], none⟩,
     ⟨(some 4), (.h (.bslF 1 4 [(.int .i64 0)] [(0, 1), (1, 1), (2, 1), (3, 1)])), [.c (.int .i64 8), .c (.int .i64 7), .c (.int .i64 6), .c (.int .i64 5)], none⟩,
     ⟨(some 5), .call, [.c (.fn (.func 27) [] []), .t 3, .t 4], none⟩,
     ⟨(some 6), (.p .mov), [.t 5], none⟩,
     ⟨(some 7), (.h (.bslF 1 2 [(.int .i64 0)] [(0, 1), (1, 1)])), [.c (.int .i64 8), .c (.int .i64 7)], (some (6, true))⟩,
     ⟨(some 8), (.h (.bslF 1 2 [(.int .i64 0)] [(0, 1), (1, 1)])), [.c (.int .i64 6), .c (.int .i64 5)], (some (6, true))⟩,
     ⟨(some 9), .call, [.c (.fn (.func 54) [] []), .t 7, .t 8], (some (6, true))⟩,
     ⟨(some 10), (.h (.bslF 1 4 [(.int .i64 0)] [(0, 1), (1, 1), (2, 1), (3, 1)])), [.c (.int .i64 8), .c (.int .i64 7), .c (.int .i64 6), .c (.int .i64 5)], (some (6, true))⟩,
     ⟨(some 11), .call, [.c (.fn (.func 27) [] []), .t 9, .t 10], (some (6, true))⟩,
     ⟨(some 12), (.p .pick), [.t 6, .t 11, .c (.bool false)], none⟩,
     ⟨(some 0), (.p .mov), [.t 12], none⟩])
   (.ret [0])))
def l10_behind_I : FInfo := ⟨(.fz false), 0, l10_behind_C, [.tmp 0]⟩
def l10_behind_A : Ann := ⟨[], [], [], [], []⟩
abbrev n_l10_behind : Nat := 15

/-! ### balise/baliseref04.Small -/
def r04_Small_B0 : CCode :=
 (.seq
  (.seq
   (.ops [
     ⟨(some 4), (.p .mov), [.t 3], none⟩,
     ⟨(some 5), (.p (.faddr 8)), [.t 1], none⟩,
     ⟨(some 6), (.h (.load false 1)), [.t 5], none⟩,
     ⟨(some 7), (.p .len), [.t 6], none⟩,
     ⟨(some 8), (.p (.bin .lss .ifc)), [.t 4, .t 7], none⟩])
   (.cond (.t 8)
    .skip
    (.exit 0)))
  (.seq
   (.block 1 (some [1, 3])
    (.seq
     (.ops [
       ⟨(some 11), (.p (.faddr 8)), [.t 1], none⟩,
       ⟨(some 12), (.h (.load false 1)), [.t 11], none⟩,
       ⟨(some 13), (.p .mov), [.t 3], none⟩,
       ⟨(some 14), (.p (.iaddr 1)), [.t 12, .t 13], none⟩,
       ⟨(some 15), (.h (.load false 1)), [.t 14], none⟩,
       ⟨(some 16), (.p .len), [.t 15], none⟩,
       ⟨(some 17), (.p (.bin .gtr .ifc)), [.t 16, .c (.int .i64 10)], none⟩])
     (.cond (.t 17)
      (.seq
       (.ops [
         ⟨(some 2), (.p .mov), [.c (.bool false)], none⟩])
       (.ret [2]))
      .skip)))
   (.ops [
     ⟨(some 9), (.p .mov), [.t 3], none⟩,
     ⟨(some 10), (.p (.bin .add .ifc)), [.t 9, .c (.int .i64 1)], none⟩,
     ⟨(some 3), (.p .mov), [.t 10], none⟩])))
def r04_Small_L0 : CCode := .bloop 0 [1, 3] [1] r04_Small_B0
def r04_Small_C : CCode :=
 (.seq
  (.ops [
    ⟨(some 1), (.h (.box 1)), [.t 0], none⟩,
    ⟨(some 2), (.p .mov), [.c (.bool false)], none⟩])
  (.seq
   (.seq
    (.ops [
      ⟨(some 3), (.p .mov), [.c (.int .i64 0)], none⟩])
    r04_Small_L0)
   (.seq
    (.ops [
      ⟨(some 18), (.p (.faddr 8)), [.t 1], none⟩,
      ⟨(some 19), (.h (.load false 1)), [.t 18], none⟩,
      ⟨(some 20), (.p .len), [.t 19], none⟩,
      ⟨(some 21), (.p (.bin .leq .ifc)), [.t 20, .c (.int .i64 20)], none⟩,
      ⟨(some 2), (.p .mov), [.t 21], none⟩])
    (.ret [2]))))
def r04_Small_I : FInfo := ⟨(.fz false), 1, r04_Small_C, [.tmp 2]⟩
def r04_Small_A : Ann := ⟨[], [], [(0, [1, 3], [1])], [(1, [1, 3])], [1]⟩
abbrev n_r04_Small : Nat := 16

/-! ### balise/baliseref05.Full -/
def r05_Full_B0 : CCode :=
 (.seq
  (.seq
   (.ops [
     ⟨(some 9), (.p .mov), [.t 4], none⟩,
     ⟨(some 10), (.p (.faddr 8)), [.t 1], none⟩,
     ⟨(some 11), (.h (.load false 1)), [.t 10], none⟩,
     ⟨(some 12), (.p .len), [.t 11], none⟩,
     ⟨(some 13), (.p (.bin .lss .ifc)), [.t 9, .t 12], none⟩,
     ⟨(some 14), (.p .mov), [.t 13], none⟩,
     ⟨(some 15), (.p (.faddr 4)), [.t 3], (some (14, true))⟩,
     ⟨(some 16), (.h (.load false 1)), [.t 15], (some (14, true))⟩,
     ⟨(some 17), (.p .len), [.t 16], (some (14, true))⟩,
     ⟨(some 18), (.p (.bin .lss .ifc)), [.t 17, .c (.int .i64 16)], (some (14, true))⟩,
     ⟨(some 19), (.p .pick), [.t 14, .t 18, .c (.bool false)], none⟩])
   (.cond (.t 19)
    .skip
    (.exit 0)))
  (.seq
   (.block 1 (some [1, 2, 3, 4])
    (.seq
     (.ops [
       ⟨(some 22), (.p (.faddr 8)), [.t 1], none⟩,
       ⟨(some 23), (.h (.load false 1)), [.t 22], none⟩,
       ⟨(some 24), (.p .mov), [.t 4], none⟩,
       ⟨(some 25), (.p (.iaddr 1)), [.t 23, .t 24], none⟩,
       ⟨(some 26), (.h (.load false 1)), [.t 25], none⟩,
       ⟨(some 5), (.p .mov), [.t 26], none⟩])
     (.seq
      (.seq
       (.ops [
         ⟨(some 27), (.p .mov), [.t 5], none⟩,
         ⟨(some 28), (.p .len), [.t 27], none⟩,
         ⟨(some 29), (.p (.bin .lss .ifc)), [.t 28, .c (.int .i64 2)], none⟩])
       (.cond (.t 29)
        (.exit 1)
        .skip))
      (.seq
       (.ops [
         ⟨(some 30), (.h (.load true 10)), [.t 3], none⟩,
         ⟨(some 31), (.p .mov), [.t 5], none⟩,
         ⟨(some 32), (.p (.iaddr 1)), [.t 31, .c (.int .i64 0)], none⟩,
         ⟨(some 33), (.h (.load false 1)), [.t 32], none⟩,
         ⟨(some 34), (.p (.toInt .i64)), [.t 33], none⟩,
         ⟨(some 35), (.p (.faddr 1)), [.t 3], none⟩,
         ⟨(some 36), (.h (.load false 1)), [.t 35], none⟩,
         ⟨(some 37), (.p .len), [.t 36], none⟩,
         ⟨(some 38), (.p (.bin .rem .ifc)), [.t 34, .t 37], none⟩,
         ⟨(some 39), (.p .mov), [.t 5], none⟩,
         ⟨(some 40), (.p (.iaddr 1)), [.t 39, .c (.int .i64 0)], none⟩,
         ⟨(some 41), (.h (.load false 1)), [.t 40], none⟩,
         ⟨(some 42), (.p (.bin .quo .ifc)), [.t 41, .c (.int .u8 128)], none⟩,
         ⟨(some 43), (.p (.toInt .i64)), [.t 42], none⟩,
         ⟨(some 44), (.p .mov), [.t 5], none⟩,
         ⟨(some 45), (.p (.slc 1 true false)), [.t 44, .c (.int .i64 2)], none⟩,
         ⟨(some 46), (.p .mov), [.t 5], none⟩,
         ⟨(some 47), (.p (.iaddr 1)), [.t 46, .c (.int .i64 1)], none⟩,
         ⟨(some 48), (.h (.load false 1)), [.t 47], none⟩,
         ⟨(some 49), (.p (.bin .rem .ifc)), [.t 48, .c (.int .u8 5)], none⟩,
         ⟨(some 50), (.p (.toInt .i64)), [.t 49], none⟩,
         ⟨(some 51), (.p (.bin .add .ifc)), [.c (.int .i64 2), .t 50], none⟩,
         ⟨(some 52), .call, [.c (.fn (.func 48) [] []), .t 30, .t 38, .t 43, .t 45, .t 51], none⟩,
         ⟨(some 6), (.p .mov), [.t 52], none⟩])
       (.seq
        (.ops [
          ⟨(some 53), (.p .mov), [.t 6], none⟩,
          ⟨(some 54), (.p .len), [.t 53], none⟩,
          ⟨(some 55), (.p (.bin .geq .ifc)), [.t 54, .c (.int .i64 2)], none⟩])
        (.cond (.t 55)
         (.ops [
           ⟨(some 56), (.p (.faddr 4)), [.t 3], none⟩,
           ⟨(some 57), (.h (.load false 1)), [.t 56], none⟩,
           ⟨(some 58), (.p .mov), [.t 6], none⟩,
           ⟨(some 59), (.h (.bslF 1 1 [.nils] [(0, 1)])), [.t 58], none⟩,
           ⟨(some 60), (.h (.app 1 24 [.nils])), [.t 57, .t 59], none⟩,
           ⟨(some 61), (.p (.faddr 4)), [.t 3], none⟩,
           ⟨none, (.h (.store 1)), [.t 61, .t 60], none⟩])
         .skip))))))
   (.ops [
     ⟨(some 20), (.p .mov), [.t 4], none⟩,
     ⟨(some 21), (.p (.bin .add .ifc)), [.t 20, .c (.int .i64 1)], none⟩,
     ⟨(some 4), (.p .mov), [.t 21], none⟩])))
def r05_Full_L0 : CCode := .bloop 0 [1, 2, 3, 4] [2, 3] r05_Full_B0
def r05_Full_C : CCode :=
 (.seq
  (.ops [
    ⟨(some 1), (.h (.box 1)), [.t 0], none⟩,
    ⟨(some 2), (.h (.newl 2 [.nils, .nils, .nils, .nils, .nils, (.int .i64 0), (.int .i64 0), (.int .i64 0), (.int .i64 0), (.int .i64 0)])), [], none⟩])
  (.seq
   (.ops [
     ⟨(some 7), (.h (.load true 9)), [.t 1], none⟩,
     ⟨(some 8), .call, [.c (.fn (.func 55) [] []), .t 7], none⟩,
     ⟨(some 3), (.h (.newl 3 [.nils, .nils, .nils, .nils, .nils, (.int .i64 0), (.int .i64 0), (.int .i64 0), (.int .i64 0), (.int .i64 0)])), [], none⟩,
     ⟨none, (.h (.store 10)), [.t 3, .t 8], none⟩])
   (.seq
    (.seq
     (.ops [
       ⟨(some 4), (.p .mov), [.c (.int .i64 0)], none⟩])
     r05_Full_L0)
    (.seq
     (.ops [
       ⟨(some 62), (.h (.load true 10)), [.t 3], none⟩,
       ⟨none, (.h (.store 10)), [.t 2, .t 62], none⟩])
     (.ret [2])))))
def r05_Full_I : FInfo := ⟨(.fz false), 1, r05_Full_C, [.cell 2 true 10]⟩
def r05_Full_A : Ann := ⟨[], [], [(0, [1, 2, 3, 4], [2, 3])], [(1, [1, 2, 3, 4])], [1, 2, 3]⟩
abbrev n_r05_Full : Nat := 17

/-! ### balise/graph.New -/
def graph_New_C : CCode :=
 (.seq
  (.ops [
    ⟨(some 1), (.h (.box 1)), [.t 0], none⟩,
    ⟨(some 2), (.p .mov), [.c .nilp], none⟩])
  (.seq
   (.ops [
     ⟨(some 3), (.h (.load true 10)), [.t 1], none⟩,
     ⟨(some 4), (.p (.bld [.nils, .nils, .nils, .nils, .nils, (.int .i64 0), (.int .i64 0), (.int .i64 0), (.int .i64 0), (.int .i64 0)] [(0, 10)])), [.t 3], none⟩,
     ⟨(some 5), (.h .boxh), [.t 4], none⟩,
     ⟨(some 2), (.p .mov), [.t 5], none⟩])
   (.ret [2])))
def graph_New_I : FInfo := ⟨(.fz false), 1, graph_New_C, [.tmp 2]⟩
def graph_New_A : Ann := ⟨[5], [], [], [], [1]⟩
abbrev n_graph_New : Nat := 18

/-! ### balise/baliselaw10.report -/
def l10_report_C : CCode :=
 (.seq
  (.ops [
    ⟨(some 3), (.h (.box 3)), [.t 0], none⟩,
    ⟨(some 4), (.h (.box 4)), [.t 1], none⟩,
    ⟨(some 6), (.h (.newl 6 [(.int .u8 0), (.int .i64 0), (.int .i64 0), (.int .i64 0), (.int .i64 0), (.bool false), .nils])), [], none⟩])
  (.seq
   (.ops [
     ⟨(some 10), (.p (.faddr 3)), [.t 4], none⟩,
     ⟨(some 11), (.h (.load false 1)), [.t 10], none⟩,
     ⟨(some 12), (.p (.bin .quo .ifc)), [.t 11, .c (.int .u8 128)], none⟩,
     ⟨(some 13), (.p (.toInt .i64)), [.t 12], none⟩,
     ⟨(some 7), (.p .mov), [.t 13], none⟩])
   (.seq
    (.ops [
      ⟨(some 14), (.h (.load true 10)), [.t 3], none⟩,
      ⟨(some 15), (.p (.faddr 3)), [.t 4], none⟩,
      ⟨(some 16), (.h (.load false 1)), [.t 15], none⟩,
      ⟨(some 17), (.p (.toInt .i64)), [.t 16], none⟩,
      ⟨(some 18), (.p (.faddr 1)), [.t 3], none⟩,
      ⟨(some 19), (.h (.load false 1)), [.t 18], none⟩,
      ⟨(some 20), (.p .len), [.t 19], none⟩,
      ⟨(some 21), (.p (.bin .rem .ifc)), [.t 17, .t 20], none⟩,
      ⟨(some 22), (.p .mov), [.t 7], none⟩,
      ⟨(some 23), (.p (.faddr 4)), [.t 4], none⟩,
      ⟨(some 24), (.h (.load false 1)), [.t 23], none⟩,
      ⟨(some 25), (.p (.faddr 7)), [.t 4], none⟩,
      ⟨(some 26), (.h (.load false 1)), [.t 25], none⟩,
      ⟨(some 27), (.p (.bin .rem .ifc)), [.t 26, .c (.int .u8 5)], none⟩,
      ⟨(some 28), (.p (.toInt .i64)), [.t 27], none⟩,
      ⟨(some 29), (.p (.bin .add .ifc)), [.c (.int .i64 1), .t 28], none⟩,
      ⟨(some 30), .call, [.c (.fn (.func 48) [] []), .t 14, .t 21, .t 22, .t 24, .t 29], none⟩,
      ⟨(some 8), (.p .mov), [.t 30], none⟩])
    (.seq
     (.ops [
       ⟨(some 31), (.p (.faddr 1)), [.t 4], none⟩,
       ⟨(some 32), (.hl 4 (.load false 1)), [.t 31], none⟩,
       ⟨(some 33), (.p (.bin .rem .ifc)), [.t 32, .c (.int .u8 8)], none⟩,
       ⟨(some 34), (.p (.toInt .i64)), [.t 33], none⟩,
       ⟨(some 35), (.p .mov), [.t 2], none⟩,
       ⟨(some 36), (.p .mov), [.t 7], none⟩,
       ⟨(some 37), (.p (.bin .sub .ifc)), [.c (.int .i64 1), .t 36], none⟩,
       ⟨(some 38), (.p (.faddr 5)), [.t 4], none⟩,
       ⟨(some 39), (.hl 4 (.load false 1)), [.t 38], none⟩,
       ⟨(some 40), (.p (.toInt .i64)), [.t 39], none⟩,
       ⟨(some 41), (.hl 3 (.load true 10)), [.t 3], none⟩,
       ⟨(some 42), (.p .mov), [.t 8], none⟩,
       ⟨(some 43), (.p (.iaddr 1)), [.t 42, .c (.int .i64 0)], none⟩,
       ⟨(some 44), (.hb (.load false 1)), [.t 43], none⟩,
       ⟨(some 45), .callb, [.c (.fn (.func 56) [] []), .t 41, .t 44], none⟩,
       ⟨(some 46), (.p (.bin .add .ifc)), [.t 45, .c (.int .i64 1)], none⟩,
       ⟨(some 47), (.p (.bin .rem .ifc)), [.t 40, .t 46], none⟩,
       ⟨(some 48), (.p (.faddr 6)), [.t 4], none⟩,
       ⟨(some 49), (.hl 4 (.load false 1)), [.t 48], none⟩,
       ⟨(some 50), (.p .mov), [.t 8], none⟩,
       ⟨(some 51), (.p (.bld [(.int .u8 0), (.int .i64 0), (.int .i64 0), (.int .i64 0), (.int .i64 0), (.bool false), .nils] [(0, 1), (1, 1), (2, 1), (3, 1), (4, 1), (5, 1), (6, 1)])), [.c (.int .u8 3), .t 34, .t 35, .t 37, .t 47, .t 49, .t 50], none⟩,
       ⟨(some 9), (.h (.newl 9 [(.int .u8 0), (.int .i64 0), (.int .i64 0), (.int .i64 0), (.int .i64 0), (.bool false), .nils])), [], none⟩,
       ⟨none, (.hl 9 (.store 7)), [.t 9, .t 51], none⟩])
     (.seq
      (.seq
       (.ops [
         ⟨(some 52), (.p (.faddr 0)), [.t 4], none⟩,
         ⟨(some 53), (.h (.load false 1)), [.t 52], none⟩,
         ⟨(some 54), (.p (.bin .geq .ifc)), [.t 53, .c (.int .u8 250)], none⟩])
       (.cond (.t 54)
        (.seq
         (.ops [
           ⟨(some 55), (.p .mov), [.t 8], none⟩,
           ⟨(some 56), (.h (.app 1 8 [(.int .i64 0)])), [.c .nils, .t 55], none⟩,
           ⟨(some 57), (.p (.faddr 6)), [.t 9], none⟩,
           ⟨none, (.h (.store 1)), [.t 57, .t 56], none⟩])
         (.ops [
           ⟨(some 58), (.p (.faddr 6)), [.t 9], none⟩,
           ⟨(some 59), (.h (.load false 1)), [.t 58], none⟩,
           ⟨(some 60), (.p (.faddr 7)), [.t 4], none⟩,
           ⟨(some 61), (.h (.load false 1)), [.t 60], none⟩,
           ⟨(some 62), (.p (.toInt .i64)), [.t 61], none⟩,
           ⟨(some 63), (.p (.faddr 6)), [.t 9], none⟩,
           ⟨(some 64), (.h (.load false 1)), [.t 63], none⟩,
           ⟨(some 65), (.p .len), [.t 64], none⟩,
           ⟨(some 66), (.p (.bin .rem .ifc)), [.t 62, .t 65], none⟩,
           ⟨(some 67), (.p (.faddr 2)), [.t 4], none⟩,
           ⟨(some 68), (.h (.load false 1)), [.t 67], none⟩,
           ⟨(some 69), (.p (.toInt .i64)), [.t 68], none⟩,
           ⟨(some 70), (.p (.bin .rem .ifc)), [.t 69, .c (.int .i64 12)], none⟩,
           ⟨(some 71), (.p (.iaddr 1)), [.t 59, .t 66], none⟩,
           ⟨none, (.h (.store 1)), [.t 71, .t 70], none⟩]))
        .skip))
      (.seq
       (.seq
        (.ops [
          ⟨(some 72), (.p (.faddr 0)), [.t 4], none⟩,
          ⟨(some 73), (.h (.load false 1)), [.t 72], none⟩,
          ⟨(some 74), (.p (.bin .eql .int)), [.t 73, .c (.int .u8 249)], none⟩])
        (.cond (.t 74)
         (.ops [
           ⟨(some 75), (.p (.faddr 3)), [.t 9], none⟩,
           ⟨(some 76), (.h (.load false 1)), [.t 75], none⟩,
           ⟨(some 77), (.p (.bin .sub .ifc)), [.c (.int .i64 1), .t 76], none⟩,
           ⟨(some 78), (.p (.faddr 3)), [.t 9], none⟩,
           ⟨none, (.h (.store 1)), [.t 78, .t 77], none⟩])
         .skip))
       (.seq
        (.seq
         (.ops [
           ⟨(some 79), (.p (.faddr 0)), [.t 4], none⟩,
           ⟨(some 80), (.h (.load false 1)), [.t 79], none⟩,
           ⟨(some 81), (.p (.bin .eql .int)), [.t 80, .c (.int .u8 248)], none⟩])
         (.cond (.t 81)
          (.ops [
            ⟨(some 82), (.p (.faddr 4)), [.t 9], none⟩,
            ⟨(some 83), (.h (.load false 1)), [.t 82], none⟩,
            ⟨(some 84), (.p (.bin .add .ifc)), [.t 83, .c (.int .i64 5000)], none⟩,
            ⟨(some 85), (.p (.faddr 4)), [.t 9], none⟩,
            ⟨none, (.h (.store 1)), [.t 85, .t 84], none⟩])
          .skip))
        (.seq
         (.ops [
           ⟨(some 86), (.h (.load true 7)), [.t 9], none⟩,
           ⟨none, (.h (.store 7)), [.t 6, .t 86], none⟩])
         (.ret [6])))))))))
def l10_report_I : FInfo := ⟨(.fz false), 3, l10_report_C, [.cell 6 true 7]⟩
def l10_report_A : Ann := ⟨[], [], [], [], [3, 4, 6, 9]⟩
abbrev n_l10_report : Nat := 19

/-! ### balise/train.Fits -/
def train_Fits_B0 : CCode :=
 (.seq
  (.ops [
    ⟨(some 63), (.p (.bin .lss .ifc)), [.t 62, .t 61], none⟩])
  (.seq
   (.cond (.t 63)
    .skip
    (.exit 0))
   (.seq
    (.block 1 (some [0, 6, 60, 61, 62])
     (.seq
      (.ops [
        ⟨(some 64), (.p (.iaddr 1)), [.t 60, .t 62], none⟩,
        ⟨(some 65), (.h (.load false 1)), [.t 64], none⟩,
        ⟨(some 8), (.h (.newh [(.int .i64 0)])), [], none⟩,
        ⟨none, (.h (.store 1)), [.t 8, .t 65], none⟩])
      (.seq
       (.ops [
         ⟨(some 66), (.p .mov), [.t 0], none⟩,
         ⟨(some 67), (.h (.load true 2)), [.t 6], none⟩,
         ⟨(some 68), .call, [.c (.fn (.func 41) [] []), .t 66, .t 67], none⟩,
         ⟨(some 9), (.p .mov), [.t 68], none⟩])
       (.seq
        (.ops [
          ⟨(some 69), (.p .mov), [.t 9], none⟩,
          ⟨(some 70), (.p (.mkfn (.func 59) 0)), [.t 8], none⟩,
          ⟨(some 71), .call, [.c (.fn (.func 58) [] []), .t 69, .t 70], none⟩,
          ⟨(some 10), (.p .mov), [.t 71], none⟩])
        (.seq
         (.seq
          (.ops [
            ⟨(some 72), (.p .mov), [.t 10], none⟩,
            ⟨(some 73), (.p (.bin .lss .ifc)), [.t 72, .c (.int .i64 0)], none⟩])
          (.cond (.t 73)
           (.seq
            (.ops [
              ⟨(some 4), (.p .mov), [.c (.bool false)], none⟩])
            (.ret [4]))
           .skip))
         (.ops [
           ⟨(some 74), (.h (.load false 1)), [.t 8], none⟩,
           ⟨(some 75), (.p .mov), [.t 9], none⟩,
           ⟨(some 76), (.p .mov), [.t 10], none⟩,
           ⟨(some 77), (.p (.iaddr 2)), [.t 75, .t 76], none⟩,
           ⟨(some 78), (.p (.faddr 1)), [.t 77], none⟩,
           ⟨(some 79), (.h (.load false 1)), [.t 78], none⟩,
           ⟨(some 80), (.p (.bin .sub .ifc)), [.c (.int .i64 1), .t 79], none⟩,
           ⟨(some 81), (.p (.bld [(.int .i64 0), (.int .i64 0)] [(0, 1), (1, 1)])), [.t 74, .t 80], none⟩,
           ⟨none, (.h (.store 2)), [.t 6, .t 81], none⟩]))))))
    (.ops [
      ⟨(some 82), (.p (.bin .add .ifc)), [.t 62, .c (.int .i64 1)], none⟩,
      ⟨(some 62), (.p .mov), [.t 82], none⟩]))))
def train_Fits_L0 : CCode := .bloop 0 [0, 6, 60, 61, 62] [] train_Fits_B0
def train_Fits_C : CCode :=
 (.seq
  (.ops [
    ⟨(some 3), (.h (.box 3)), [.t 1], none⟩,
    ⟨(some 4), (.p .mov), [.c (.bool false)], none⟩])
  (.seq
   (.ops [
     ⟨(some 11), (.p (.faddr 6)), [.t 3], none⟩,
     ⟨(some 12), (.h (.load false 1)), [.t 11], none⟩,
     ⟨(some 5), (.p .mov), [.t 12], none⟩])
   (.seq
    (.seq
     (.ops [
       ⟨(some 13), (.p .mov), [.t 5], none⟩,
       ⟨(some 14), (.p .len), [.t 13], none⟩,
       ⟨(some 15), (.p (.bin .lss .ifc)), [.t 14, .c (.int .i64 1)], none⟩,
       ⟨(some 16), (.p .mov), [.t 15], none⟩,
       ⟨(some 17), (.p .mov), [.t 5], (some (16, false))⟩,
       ⟨(some 18), (.p .len), [.t 17], (some (16, false))⟩,
       ⟨(some 19), (.p (.bin .gtr .ifc)), [.t 18, .c (.int .i64 12)], (some (16, false))⟩,
       ⟨(some 20), (.p .pick), [.t 16, .c (.bool true), .t 19], none⟩,
       ⟨(some 21), (.p .mov), [.t 20], none⟩,
       ⟨(some 22), (.p .mov), [.t 0], (some (21, false))⟩,
       ⟨(some 23), (.p .mov), [.t 5], (some (21, false))⟩,
       ⟨(some 24), .call, [.c (.fn (.func 57) [] []), .t 22, .t 23], (some (21, false))⟩,
       ⟨(some 25), (.p (.un .not)), [.t 24], (some (21, false))⟩,
       ⟨(some 26), (.p .pick), [.t 21, .c (.bool true), .t 25], none⟩,
       ⟨(some 27), (.p .mov), [.t 26], none⟩,
       ⟨(some 28), (.p (.faddr 3)), [.t 3], (some (27, false))⟩,
       ⟨(some 29), (.h (.load false 1)), [.t 28], (some (27, false))⟩,
       ⟨(some 30), (.p (.bin .lss .ifc)), [.t 29, .c (.int .i64 0)], (some (27, false))⟩,
       ⟨(some 31), (.p .pick), [.t 27, .c (.bool true), .t 30], none⟩,
       ⟨(some 32), (.p .mov), [.t 31], none⟩,
       ⟨(some 33), (.p (.faddr 3)), [.t 3], (some (32, false))⟩,
       ⟨(some 34), (.h (.load false 1)), [.t 33], (some (32, false))⟩,
       ⟨(some 35), (.p (.bin .gtr .ifc)), [.t 34, .c (.int .i64 1)], (some (32, false))⟩,
       ⟨(some 36), (.p .pick), [.t 32, .c (.bool true), .t 35], none⟩,
       ⟨(some 37), (.p .mov), [.t 36], none⟩,
       ⟨(some 38), (.p (.faddr 4)), [.t 3], (some (37, false))⟩,
       ⟨(some 39), (.h (.load false 1)), [.t 38], (some (37, false))⟩,
       ⟨(some 40), (.p (.bin .lss .ifc)), [.t 39, .c (.int .i64 0)], (some (37, false))⟩,
       ⟨(some 41), (.p .pick), [.t 37, .c (.bool true), .t 40], none⟩,
       ⟨(some 42), (.p .mov), [.t 41], none⟩,
       ⟨(some 43), (.p (.faddr 4)), [.t 3], (some (42, false))⟩,
       ⟨(some 44), (.h (.load false 1)), [.t 43], (some (42, false))⟩,
       ⟨(some 45), (.p .mov), [.t 0], (some (42, false))⟩,
       ⟨(some 46), (.p .mov), [.t 5], (some (42, false))⟩,
       ⟨(some 47), (.p (.iaddr 1)), [.t 46, .c (.int .i64 0)], (some (42, false))⟩,
       ⟨(some 48), (.h (.load false 1)), [.t 47], (some (42, false))⟩,
       ⟨(some 49), .call, [.c (.fn (.func 47) [] []), .t 45, .t 48], (some (42, false))⟩,
       ⟨(some 50), (.p (.bin .gtr .ifc)), [.t 44, .t 49], (some (42, false))⟩,
       ⟨(some 51), (.p .pick), [.t 42, .c (.bool true), .t 50], none⟩])
     (.cond (.t 51)
      (.seq
       (.ops [
         ⟨(some 4), (.p .mov), [.c (.bool false)], none⟩])
       (.ret [4]))
      .skip))
    (.seq
     (.ops [
       ⟨(some 52), (.p .mov), [.t 5], none⟩,
       ⟨(some 53), (.p (.iaddr 1)), [.t 52, .c (.int .i64 0)], none⟩,
       ⟨(some 54), (.hb (.load false 1)), [.t 53], none⟩,
       ⟨(some 55), (.p (.faddr 3)), [.t 3], none⟩,
       ⟨(some 56), (.hl 3 (.load false 1)), [.t 55], none⟩,
       ⟨(some 57), (.p (.bin .sub .ifc)), [.c (.int .i64 1), .t 56], none⟩,
       ⟨(some 58), (.p (.bld [(.int .i64 0), (.int .i64 0)] [(0, 1), (1, 1)])), [.t 54, .t 57], none⟩,
       ⟨(some 6), (.h (.newl 6 [(.int .i64 0), (.int .i64 0)])), [], none⟩,
       ⟨none, (.hl 6 (.store 2)), [.t 6, .t 58], none⟩])
     (.seq
      (.seq
       (.ops [
         ⟨(some 59), (.p .mov), [.t 5], none⟩,
         ⟨(some 60), (.p (.slc 1 true false)), [.t 59, .c (.int .i64 1)], none⟩,
         ⟨(some 61), (.p .len), [.t 60], none⟩,
         ⟨(some 62), (.p .mov), [.c (.int .i64 0)], none⟩])
       train_Fits_L0)
      (.seq
       (.ops [
         ⟨(some 4), (.p .mov), [.c (.bool true)], none⟩])
       (.ret [4])))))))
def train_Fits_I : FInfo := ⟨(.fz false), 2, train_Fits_C, [.tmp 4]⟩
def train_Fits_A : Ann := ⟨[8], [], [(0, [0, 6, 60, 61, 62], [])], [(1, [0, 6, 60, 61, 62])], [3, 6]⟩
abbrev n_train_Fits : Nat := 20

/-! ### balise/baliseref10.Fits -/
def r10_Fits_B0 : CCode :=
 (.seq
  (.seq
   (.ops [
     ⟨(some 43), (.p .mov), [.t 6], none⟩,
     ⟨(some 44), (.p .mov), [.t 5], none⟩,
     ⟨(some 45), (.p (.bin .lss .ifc)), [.t 43, .t 44], none⟩])
   (.cond (.t 45)
    .skip
    (.exit 0)))
  (.seq
   (.block 1 (some [2, 3, 5, 6])
    (.seq
     (.ops [
       ⟨(some 48), (.h (.load true 10)), [.t 2], none⟩,
       ⟨(some 49), (.p (.faddr 6)), [.t 3], none⟩,
       ⟨(some 50), (.h (.load false 1)), [.t 49], none⟩,
       ⟨(some 51), (.p .mov), [.t 6], none⟩,
       ⟨(some 52), (.p (.iaddr 1)), [.t 50, .t 51], none⟩,
       ⟨(some 53), (.h (.load false 1)), [.t 52], none⟩,
       ⟨(some 54), .call, [.c (.fn (.func 56) [] []), .t 48, .t 53], none⟩,
       ⟨(some 55), (.p (.bin .eql .int)), [.t 54, .c (.int .i64 0)], none⟩])
     (.cond (.t 55)
      (.seq
       (.ops [
         ⟨(some 4), (.p .mov), [.c (.bool false)], none⟩])
       (.ret [4]))
      .skip)))
   (.ops [
     ⟨(some 46), (.p .mov), [.t 6], none⟩,
     ⟨(some 47), (.p (.bin .add .ifc)), [.t 46, .c (.int .i64 1)], none⟩,
     ⟨(some 6), (.p .mov), [.t 47], none⟩])))
def r10_Fits_L0 : CCode := .bloop 0 [2, 3, 5, 6] [2, 3, 5] r10_Fits_B0

def r10_Fits_B4 : CCode :=
 (.seq
  (.seq
   (.ops [
     ⟨(some 81), (.p .mov), [.t 10], none⟩,
     ⟨(some 82), (.p .mov), [.t 9], none⟩,
     ⟨(some 83), (.p .len), [.t 82], none⟩,
     ⟨(some 84), (.p (.bin .lss .ifc)), [.t 81, .t 83], none⟩,
     ⟨(some 85), (.p .mov), [.t 84], none⟩,
     ⟨(some 86), (.p .mov), [.t 9], (some (85, true))⟩,
     ⟨(some 87), (.p .mov), [.t 10], (some (85, true))⟩,
     ⟨(some 88), (.p (.iaddr 2)), [.t 86, .t 87], (some (85, true))⟩,
     ⟨(some 89), (.p (.faddr 0)), [.t 88], (some (85, true))⟩,
     ⟨(some 90), (.h (.load false 1)), [.t 89], (some (85, true))⟩,
     ⟨(some 91), (.p (.faddr 6)), [.t 3], (some (85, true))⟩,
     ⟨(some 92), (.h (.load false 1)), [.t 91], (some (85, true))⟩,
     ⟨(some 93), (.p .mov), [.t 8], (some (85, true))⟩,
     ⟨(some 94), (.p (.iaddr 1)), [.t 92, .t 93], (some (85, true))⟩,
     ⟨(some 95), (.h (.load false 1)), [.t 94], (some (85, true))⟩,
     ⟨(some 96), (.p (.bin .neq .int)), [.t 90, .t 95], (some (85, true))⟩,
     ⟨(some 97), (.p .pick), [.t 85, .t 96, .c (.bool false)], none⟩])
   (.cond (.t 97)
    .skip
    (.exit 4)))
  (.block 5 (some [2, 3, 5, 7, 8, 9, 10])
   (.ops [
     ⟨(some 98), (.p .mov), [.t 10], none⟩,
     ⟨(some 99), (.p (.bin .add .ifc)), [.t 98, .c (.int .i64 1)], none⟩,
     ⟨(some 10), (.p .mov), [.t 99], none⟩])))
def r10_Fits_L4 : CCode := .bloop 4 [2, 3, 5, 7, 8, 9, 10] [2, 3, 5, 7, 8, 9, 10] r10_Fits_B4

def r10_Fits_B2 : CCode :=
 (.seq
  (.seq
   (.ops [
     ⟨(some 73), (.p .mov), [.t 8], none⟩,
     ⟨(some 74), (.p .mov), [.t 5], none⟩,
     ⟨(some 75), (.p (.bin .lss .ifc)), [.t 73, .t 74], none⟩])
   (.cond (.t 75)
    .skip
    (.exit 2)))
  (.seq
   (.block 3 (some [2, 3, 5, 7, 8])
    (.seq
     (.ops [
       ⟨(some 78), (.h (.load true 10)), [.t 2], none⟩,
       ⟨(some 79), (.h (.load true 2)), [.t 7], none⟩,
       ⟨(some 80), .call, [.c (.fn (.func 61) [] []), .t 78, .t 79], none⟩,
       ⟨(some 9), (.p .mov), [.t 80], none⟩])
     (.seq
      (.ops [
        ⟨(some 10), (.p .mov), [.c (.int .i64 0)], none⟩])
      (.seq
       r10_Fits_L4
       (.seq
        (.seq
         (.ops [
           ⟨(some 100), (.p .mov), [.t 10], none⟩,
           ⟨(some 101), (.p .mov), [.t 9], none⟩,
           ⟨(some 102), (.p .len), [.t 101], none⟩,
           ⟨(some 103), (.p (.bin .eql .int)), [.t 100, .t 102], none⟩])
         (.cond (.t 103)
          (.seq
           (.ops [
             ⟨(some 4), (.p .mov), [.c (.bool false)], none⟩])
           (.ret [4]))
          .skip))
        (.ops [
          ⟨(some 104), (.p (.faddr 6)), [.t 3], none⟩,
          ⟨(some 105), (.h (.load false 1)), [.t 104], none⟩,
          ⟨(some 106), (.p .mov), [.t 8], none⟩,
          ⟨(some 107), (.p (.iaddr 1)), [.t 105, .t 106], none⟩,
          ⟨(some 108), (.h (.load false 1)), [.t 107], none⟩,
          ⟨(some 109), (.p .mov), [.t 9], none⟩,
          ⟨(some 110), (.p .mov), [.t 10], none⟩,
          ⟨(some 111), (.p (.iaddr 2)), [.t 109, .t 110], none⟩,
          ⟨(some 112), (.p (.faddr 1)), [.t 111], none⟩,
          ⟨(some 113), (.h (.load false 1)), [.t 112], none⟩,
          ⟨(some 114), (.p (.bin .sub .ifc)), [.c (.int .i64 1), .t 113], none⟩,
          ⟨(some 115), (.p (.bld [(.int .i64 0), (.int .i64 0)] [(0, 1), (1, 1)])), [.t 108, .t 114], none⟩,
          ⟨none, (.h (.store 2)), [.t 7, .t 115], none⟩]))))))
   (.ops [
     ⟨(some 76), (.p .mov), [.t 8], none⟩,
     ⟨(some 77), (.p (.bin .add .ifc)), [.t 76, .c (.int .i64 1)], none⟩,
     ⟨(some 8), (.p .mov), [.t 77], none⟩])))
def r10_Fits_L2 : CCode := .bloop 2 [2, 3, 5, 7, 8] [] r10_Fits_B2
def r10_Fits_C : CCode :=
 (.seq
  (.ops [
    ⟨(some 2), (.h (.box 2)), [.t 0], none⟩,
    ⟨(some 3), (.h (.box 3)), [.t 1], none⟩,
    ⟨(some 4), (.p .mov), [.c (.bool false)], none⟩])
  (.seq
   (.ops [
     ⟨(some 11), (.p (.faddr 6)), [.t 3], none⟩,
     ⟨(some 12), (.h (.load false 1)), [.t 11], none⟩,
     ⟨(some 13), (.p .len), [.t 12], none⟩,
     ⟨(some 5), (.p .mov), [.t 13], none⟩])
   (.seq
    (.seq
     (.ops [
       ⟨(some 14), (.p .mov), [.t 5], none⟩,
       ⟨(some 15), (.p (.bin .lss .ifc)), [.t 14, .c (.int .i64 1)], none⟩,
       ⟨(some 16), (.p .mov), [.t 15], none⟩,
       ⟨(some 17), (.p .mov), [.t 5], (some (16, false))⟩,
       ⟨(some 18), (.p (.bin .gtr .ifc)), [.t 17, .c (.int .i64 12)], (some (16, false))⟩,
       ⟨(some 19), (.p .pick), [.t 16, .c (.bool true), .t 18], none⟩,
       ⟨(some 20), (.p .mov), [.t 19], none⟩,
       ⟨(some 21), (.p (.faddr 3)), [.t 3], (some (20, false))⟩,
       ⟨(some 22), (.h (.load false 1)), [.t 21], (some (20, false))⟩,
       ⟨(some 23), (.p (.bin .lss .ifc)), [.t 22, .c (.int .i64 0)], (some (20, false))⟩,
       ⟨(some 24), (.p .pick), [.t 20, .c (.bool true), .t 23], none⟩,
       ⟨(some 25), (.p .mov), [.t 24], none⟩,
       ⟨(some 26), (.p (.faddr 3)), [.t 3], (some (25, false))⟩,
       ⟨(some 27), (.h (.load false 1)), [.t 26], (some (25, false))⟩,
       ⟨(some 28), (.p (.bin .gtr .ifc)), [.t 27, .c (.int .i64 1)], (some (25, false))⟩,
       ⟨(some 29), (.p .pick), [.t 25, .c (.bool true), .t 28], none⟩,
       ⟨(some 30), (.p .mov), [.t 29], none⟩,
       ⟨(some 31), (.p (.faddr 4)), [.t 3], (some (30, false))⟩,
       ⟨(some 32), (.h (.load false 1)), [.t 31], (some (30, false))⟩,
       ⟨(some 33), (.p (.bin .lss .ifc)), [.t 32, .c (.int .i64 0)], (some (30, false))⟩,
       ⟨(some 34), (.p .pick), [.t 30, .c (.bool true), .t 33], none⟩,
       ⟨(some 35), (.p .mov), [.t 34], none⟩,
       ⟨(some 36), (.p (.faddr 6)), [.t 3], (some (35, false))⟩,
       ⟨(some 37), (.h (.load false 1)), [.t 36], (some (35, false))⟩,
       ⟨(some 38), .call, [.c (.fn (.func 60) [] []), .t 37], (some (35, false))⟩,
       ⟨(some 39), (.p .len), [.t 38], (some (35, false))⟩,
       ⟨(some 40), (.p .mov), [.t 5], (some (35, false))⟩,
       ⟨(some 41), (.p (.bin .neq .int)), [.t 39, .t 40], (some (35, false))⟩,
       ⟨(some 42), (.p .pick), [.t 35, .c (.bool true), .t 41], none⟩])
     (.cond (.t 42)
      (.seq
       (.ops [
         ⟨(some 4), (.p .mov), [.c (.bool false)], none⟩])
       (.ret [4]))
      .skip))
    (.seq
     (.seq
      (.ops [
        ⟨(some 6), (.p .mov), [.c (.int .i64 0)], none⟩])
      r10_Fits_L0)
     (.seq
      (.seq
       (.ops [
         ⟨(some 56), (.p (.faddr 4)), [.t 3], none⟩,
         ⟨(some 57), (.h (.load false 1)), [.t 56], none⟩,
         ⟨(some 58), (.h (.load true 10)), [.t 2], none⟩,
         ⟨(some 59), (.p (.faddr 6)), [.t 3], none⟩,
         ⟨(some 60), (.h (.load false 1)), [.t 59], none⟩,
         ⟨(some 61), (.p (.iaddr 1)), [.t 60, .c (.int .i64 0)], none⟩,
         ⟨(some 62), (.h (.load false 1)), [.t 61], none⟩,
         ⟨(some 63), .call, [.c (.fn (.func 56) [] []), .t 58, .t 62], none⟩,
         ⟨(some 64), (.p (.bin .gtr .ifc)), [.t 57, .t 63], none⟩])
       (.cond (.t 64)
        (.seq
         (.ops [
           ⟨(some 4), (.p .mov), [.c (.bool false)], none⟩])
         (.ret [4]))
        .skip))
      (.seq
       (.ops [
         ⟨(some 65), (.p (.faddr 6)), [.t 3], none⟩,
         ⟨(some 66), (.hl 3 (.load false 1)), [.t 65], none⟩,
         ⟨(some 67), (.p (.iaddr 1)), [.t 66, .c (.int .i64 0)], none⟩,
         ⟨(some 68), (.hb (.load false 1)), [.t 67], none⟩,
         ⟨(some 69), (.p (.faddr 3)), [.t 3], none⟩,
         ⟨(some 70), (.hl 3 (.load false 1)), [.t 69], none⟩,
         ⟨(some 71), (.p (.bin .sub .ifc)), [.c (.int .i64 1), .t 70], none⟩,
         ⟨(some 72), (.p (.bld [(.int .i64 0), (.int .i64 0)] [(0, 1), (1, 1)])), [.t 68, .t 71], none⟩,
         ⟨(some 7), (.h (.newl 7 [(.int .i64 0), (.int .i64 0)])), [], none⟩,
         ⟨none, (.hl 7 (.store 2)), [.t 7, .t 72], none⟩])
       (.seq
        (.seq
         (.ops [
           ⟨(some 8), (.p .mov), [.c (.int .i64 1)], none⟩])
         r10_Fits_L2)
        (.seq
         (.ops [
           ⟨(some 4), (.p .mov), [.c (.bool true)], none⟩])
         (.ret [4])))))))))
def r10_Fits_I : FInfo := ⟨(.fz false), 2, r10_Fits_C, [.tmp 4]⟩
def r10_Fits_A : Ann := ⟨[], [], [(0, [2, 3, 5, 6], [2, 3, 5]), (2, [2, 3, 5, 7, 8], []), (4, [2, 3, 5, 7, 8, 9, 10], [2, 3, 5, 7, 8, 9, 10])], [(1, [2, 3, 5, 6]), (3, [2, 3, 5, 7, 8]), (5, [2, 3, 5, 7, 8, 9, 10])], [2, 3, 7]⟩
abbrev n_r10_Fits : Nat := 21

/-! ### balise/baliseref10.Back -/
def r10_Back_B0 : CCode :=
 (.seq
  (.seq
   (.ops [
     ⟨(some 8), (.p .mov), [.t 4], none⟩,
     ⟨(some 9), (.p (.bin .geq .ifc)), [.t 8, .c (.int .i64 0)], none⟩])
   (.cond (.t 9)
    .skip
    (.exit 0)))
  (.seq
   (.block 1 (some [0, 3, 4])
    (.ops [
      ⟨(some 12), (.p .mov), [.t 3], none⟩,
      ⟨(some 13), (.p .mov), [.t 0], none⟩,
      ⟨(some 14), (.p .mov), [.t 4], none⟩,
      ⟨(some 15), (.p (.iaddr 1)), [.t 13, .t 14], none⟩,
      ⟨(some 16), (.h (.load false 1)), [.t 15], none⟩,
      ⟨(some 17), (.h (.bslF 1 1 [(.int .i64 0)] [(0, 1)])), [.t 16], none⟩,
      ⟨(some 18), (.h (.app 1 8 [(.int .i64 0)])), [.t 12, .t 17], none⟩,
      ⟨(some 3), (.p .mov), [.t 18], none⟩]))
   (.ops [
     ⟨(some 10), (.p .mov), [.t 4], none⟩,
     ⟨(some 11), (.p (.bin .sub .ifc)), [.t 10, .c (.int .i64 1)], none⟩,
     ⟨(some 4), (.p .mov), [.t 11], none⟩])))
def r10_Back_L0 : CCode := .bloop 0 [0, 3, 4] [3] r10_Back_B0
def r10_Back_C : CCode :=
 (.seq
  (.ops [
    ⟨(some 2), (.p .mov), [.c .nils], none⟩])
  (.seq
   (.ops [
     ⟨(some 3), (.p .mov), [.c .nils], none⟩])
   (.seq
    (.seq
     (.ops [
       ⟨(some 5), (.p .mov), [.t 0], none⟩,
       ⟨(some 6), (.p .len), [.t 5], none⟩,
       ⟨(some 7), (.p (.bin .sub .ifc)), [.t 6, .c (.int .i64 1)], none⟩,
       ⟨(some 4), (.p .mov), [.t 7], none⟩])
     r10_Back_L0)
    (.seq
     (.ops [
       ⟨(some 19), (.p .mov), [.t 3], none⟩,
       ⟨(some 2), (.p .mov), [.t 19], none⟩])
     (.ret [2])))))
def r10_Back_I : FInfo := ⟨(.fz false), 1, r10_Back_C, [.tmp 2]⟩
def r10_Back_A : Ann := ⟨[], [], [(0, [0, 3, 4], [3])], [(1, [0, 3, 4])], []⟩
abbrev n_r10_Back : Nat := 22

/-! ### balise/train.New -/
def train_New_C : CCode :=
 (.seq
  (.ops [
    ⟨(some 0), (.p .mov), [.c .nilp], none⟩])
  (.seq
   (.ops [
     ⟨(some 1), (.h .mkmap), [], none⟩,
     ⟨(some 2), (.p (.bld [.nilm] [(0, 1)])), [.t 1], none⟩,
     ⟨(some 3), (.h .boxh), [.t 2], none⟩,
     ⟨(some 0), (.p .mov), [.t 3], none⟩])
   (.ret [0])))
def train_New_I : FInfo := ⟨.ref, 0, train_New_C, [.tmp 0]⟩
def train_New_A : Ann := ⟨[3], [], [], [], []⟩
abbrev n_train_New : Nat := 23

/-! ### (*balise/train.Register).Note -/
def train_Register_Note_C : CCode :=
 (.seq
  (.ops [
    ⟨(some 8), (.h (.box 8)), [.t 3], none⟩,
    ⟨(some 10), (.p .mov), [.c (.int .i64 0)], none⟩])
  (.seq
   (.seq
    (.ops [
      ⟨(some 13), (.p .mov), [.t 0], none⟩,
      ⟨(some 14), (.p (.bin .eql .ptr)), [.t 13, .c .nilp], none⟩,
      ⟨(some 15), (.p .mov), [.t 14], none⟩,
      ⟨(some 16), (.p .mov), [.t 0], (some (15, false))⟩,
      ⟨(some 17), (.p .nchk), [.t 16], (some (15, false))⟩,
      ⟨(some 18), (.p (.faddr 0)), [.t 17], (some (15, false))⟩,
      ⟨(some 19), (.h (.load false 1)), [.t 18], (some (15, false))⟩,
      ⟨(some 20), (.p (.faddr 1)), [.t 8], (some (15, false))⟩,
      ⟨(some 21), (.h (.load false 1)), [.t 20], (some (15, false))⟩,
      ⟨(some 22), (.h (.look 0 .nilp false)), [.t 19, .t 21], (some (15, false))⟩,
      ⟨(some 23), (.p (.bin .eql .ptr)), [.t 22, .c .nilp], (some (15, false))⟩,
      ⟨(some 24), (.p .pick), [.t 15, .c (.bool true), .t 23], none⟩])
    (.cond (.t 24)
     (.seq
      (.ops [
        ⟨(some 10), (.p .mov), [.c (.int .i64 7)], none⟩])
      (.ret [10]))
     .skip))
   (.seq
    (.ops [
      ⟨(some 25), (.p .mov), [.t 0], none⟩,
      ⟨(some 26), (.p .nchk), [.t 25], none⟩,
      ⟨(some 27), (.p (.faddr 0)), [.t 26], none⟩,
      ⟨(some 28), (.h (.load false 1)), [.t 27], none⟩,
      ⟨(some 29), (.p (.faddr 1)), [.t 8], none⟩,
      ⟨(some 30), (.h (.load false 1)), [.t 29], none⟩,
      ⟨(some 31), (.h (.look 0 .nilp false)), [.t 28, .t 30], none⟩,
      ⟨(some 11), (.p .mov), [.t 31], none⟩])
    (.seq
     (.ops [
       ⟨(some 32), (.p (.faddr 2)), [.t 8], none⟩,
       ⟨(some 33), (.h (.load false 1)), [.t 32], none⟩,
       ⟨(some 34), (.p .mov), [.t 11], none⟩,
       ⟨(some 35), (.p .nchk), [.t 34], none⟩,
       ⟨(some 36), (.p (.faddr 1)), [.t 35], none⟩,
       ⟨(some 37), (.h (.load false 1)), [.t 36], none⟩,
       ⟨(some 38), (.p (.bin .leq .ifc)), [.t 33, .t 37], none⟩,
       ⟨(some 12), (.p .mov), [.t 38], none⟩])
     (.seq
      (.seq
       (.ops [
         ⟨(some 39), (.p .mov), [.t 11], none⟩,
         ⟨(some 40), (.p .nchk), [.t 39], none⟩,
         ⟨(some 41), (.p (.faddr 5)), [.t 40], none⟩,
         ⟨(some 42), (.h (.load false 1)), [.t 41], none⟩,
         ⟨(some 43), (.p .len), [.t 42], none⟩,
         ⟨(some 44), (.p (.bin .eql .int)), [.t 43, .c (.int .i64 0)], none⟩])
       (.cond (.t 44)
        (.ops [
          ⟨(some 45), (.p (.faddr 2)), [.t 8], none⟩,
          ⟨(some 46), (.h (.load false 1)), [.t 45], none⟩,
          ⟨(some 47), (.p .mov), [.t 2], none⟩,
          ⟨(some 48), (.p (.bin .neq .int)), [.t 46, .t 47], none⟩,
          ⟨(some 12), (.p .mov), [.t 48], none⟩])
        .skip))
      (.seq
       (.block 0 (some [4, 8, 11])
        (.seq
         (.ops [
           ⟨(some 50), (.p (.faddr 0)), [.t 8], none⟩,
           ⟨(some 51), (.h (.load false 1)), [.t 50], none⟩,
           ⟨(some 52), (.p (.bin .neq .int)), [.t 51, .c (.int .u8 3)], none⟩,
           ⟨(some 53), (.p .mov), [.t 52], none⟩,
           ⟨(some 54), (.p .mov), [.t 1], (some (53, false))⟩,
           ⟨(some 55), (.h (.load true 7)), [.t 8], (some (53, false))⟩,
           ⟨(some 56), .call, [.c (.fn (.func 20) [] []), .t 54, .t 55], (some (53, false))⟩,
           ⟨(some 57), (.p (.un .not)), [.t 56], (some (53, false))⟩,
           ⟨(some 58), (.p .pick), [.t 53, .c (.bool true), .t 57], none⟩,
           ⟨(some 49), (.p .mov), [.t 58], none⟩])
         (.cond (.t 49)
          (.seq
           (.ops [
             ⟨(some 10), (.p .mov), [.c (.int .i64 1)], none⟩])
           (.ret [10]))
          (.seq
           (.ops [
             ⟨(some 60), (.p (.faddr 2)), [.t 8], none⟩,
             ⟨(some 61), (.h (.load false 1)), [.t 60], none⟩,
             ⟨(some 62), (.p .mov), [.t 2], none⟩,
             ⟨(some 63), (.p (.bin .gtr .ifc)), [.t 61, .t 62], none⟩,
             ⟨(some 64), (.p .mov), [.t 63], none⟩,
             ⟨(some 65), (.p .mov), [.t 12], (some (64, false))⟩,
             ⟨(some 66), (.p .pick), [.t 64, .c (.bool true), .t 65], none⟩,
             ⟨(some 59), (.p .mov), [.t 66], none⟩])
           (.cond (.t 59)
            (.seq
             (.ops [
               ⟨(some 10), (.p .mov), [.c (.int .i64 8)], none⟩])
             (.ret [10]))
            .skip)))))
       (.seq
        (.ops [
          ⟨(some 67), (.p .mov), [.t 11], none⟩,
          ⟨(some 68), (.p .mov), [.t 11], none⟩,
          ⟨(some 69), (.p .mov), [.t 11], none⟩,
          ⟨(some 70), (.p (.faddr 2)), [.t 8], none⟩,
          ⟨(some 71), (.hl 8 (.load false 1)), [.t 70], none⟩,
          ⟨(some 72), (.p (.faddr 3)), [.t 8], none⟩,
          ⟨(some 73), (.hl 8 (.load false 1)), [.t 72], none⟩,
          ⟨(some 74), (.p (.faddr 4)), [.t 8], none⟩,
          ⟨(some 75), (.hl 8 (.load false 1)), [.t 74], none⟩,
          ⟨(some 76), (.p .nchk), [.t 67], none⟩,
          ⟨(some 77), (.p (.faddr 1)), [.t 76], none⟩,
          ⟨none, (.hb (.store 1)), [.t 77, .t 71], none⟩,
          ⟨(some 78), (.p .nchk), [.t 68], none⟩,
          ⟨(some 79), (.p (.faddr 3)), [.t 78], none⟩,
          ⟨none, (.hb (.store 1)), [.t 79, .t 73], none⟩,
          ⟨(some 80), (.p .nchk), [.t 69], none⟩,
          ⟨(some 81), (.p (.faddr 4)), [.t 80], none⟩,
          ⟨none, (.hb (.store 1)), [.t 81, .t 75], none⟩])
        (.seq
         (.seq
          (.ops [
            ⟨(some 82), (.p (.faddr 5)), [.t 8], none⟩,
            ⟨(some 83), (.h (.load false 1)), [.t 82], none⟩])
          (.cond (.t 83)
           (.ops [
             ⟨(some 84), (.p .mov), [.t 11], none⟩,
             ⟨(some 85), (.p .mov), [.t 11], none⟩,
             ⟨(some 86), (.p (.faddr 6)), [.t 8], none⟩,
             ⟨(some 87), (.hl 8 (.load false 1)), [.t 86], none⟩,
             ⟨(some 88), .callb, [.c (.fn (.func 62) [] []), .t 87], none⟩,
             ⟨(some 89), (.p (.faddr 2)), [.t 8], none⟩,
             ⟨(some 90), (.hl 8 (.load false 1)), [.t 89], none⟩,
             ⟨(some 91), (.p .nchk), [.t 84], none⟩,
             ⟨(some 92), (.p (.faddr 5)), [.t 91], none⟩,
             ⟨none, (.hb (.store 1)), [.t 92, .t 88], none⟩,
             ⟨(some 93), (.p .nchk), [.t 85], none⟩,
             ⟨(some 94), (.p (.faddr 2)), [.t 93], none⟩,
             ⟨none, (.hb (.store 1)), [.t 94, .t 90], none⟩])
           (.ops [
             ⟨(some 95), (.p .mov), [.t 11], none⟩,
             ⟨(some 96), (.p (.faddr 6)), [.t 8], none⟩,
             ⟨(some 97), (.h (.load false 1)), [.t 96], none⟩,
             ⟨(some 98), (.p .mov), [.t 4], none⟩,
             ⟨(some 99), .call, [.c (.fn (.func 54) [] []), .t 97, .t 98], none⟩,
             ⟨(some 100), (.p .nchk), [.t 95], none⟩,
             ⟨(some 101), (.p (.faddr 5)), [.t 100], none⟩,
             ⟨none, (.h (.store 1)), [.t 101, .t 99], none⟩])))
         (.seq
          (.ops [
            ⟨(some 10), (.p .mov), [.c (.int .i64 0)], none⟩])
          (.ret [10]))))))))))
def train_Register_Note_I : FInfo := ⟨.ref, 5, train_Register_Note_C, [.tmp 10]⟩
def train_Register_Note_A : Ann := ⟨[], [], [], [(0, [4, 8, 11])], [8]⟩
abbrev n_train_Register_Note : Nat := 24

/-! ### (*balise/train.Register).Open -/
def train_Register_Open_C : CCode :=
 (.seq
  (.ops [
    ⟨(some 6), (.p .mov), [.c (.int .i64 0)], none⟩])
  (.seq
   (.block 0 (some [0, 1, 2])
    (.seq
     (.ops [
       ⟨(some 8), (.p .mov), [.t 0], none⟩,
       ⟨(some 9), (.p (.bin .eql .ptr)), [.t 8, .c .nilp], none⟩,
       ⟨(some 7), (.p .mov), [.t 9], none⟩])
     (.cond (.t 7)
      (.seq
       (.ops [
         ⟨(some 6), (.p .mov), [.c (.int .i64 7)], none⟩])
       (.ret [6]))
      (.seq
       (.ops [
         ⟨(some 11), (.p .mov), [.t 0], none⟩,
         ⟨(some 12), (.p .nchk), [.t 11], none⟩,
         ⟨(some 13), (.p (.faddr 0)), [.t 12], none⟩,
         ⟨(some 14), (.h (.load false 1)), [.t 13], none⟩,
         ⟨(some 15), (.p .mov), [.t 1], none⟩,
         ⟨(some 16), (.h (.look 0 .nilp false)), [.t 14, .t 15], none⟩,
         ⟨(some 17), (.p (.bin .neq .ptr)), [.t 16, .c .nilp], none⟩,
         ⟨(some 10), (.p .mov), [.t 17], none⟩])
       (.cond (.t 10)
        (.seq
         (.ops [
           ⟨(some 6), (.p .mov), [.c (.int .i64 8)], none⟩])
         (.ret [6]))
        (.seq
         (.ops [
           ⟨(some 19), (.p .mov), [.t 0], none⟩,
           ⟨(some 20), (.p .nchk), [.t 19], none⟩,
           ⟨(some 21), (.p (.faddr 0)), [.t 20], none⟩,
           ⟨(some 22), (.h (.load false 1)), [.t 21], none⟩,
           ⟨(some 23), (.h .lenM), [.t 22], none⟩,
           ⟨(some 24), (.p (.bin .geq .ifc)), [.t 23, .c (.int .i64 6)], none⟩,
           ⟨(some 18), (.p .mov), [.t 24], none⟩])
         (.cond (.t 18)
          (.seq
           (.ops [
             ⟨(some 6), (.p .mov), [.c (.int .i64 6)], none⟩])
           (.ret [6]))
          .skip)))))))
   (.seq
    (.ops [
      ⟨(some 25), (.p .mov), [.t 0], none⟩,
      ⟨(some 26), (.p .nchk), [.t 25], none⟩,
      ⟨(some 27), (.p (.faddr 0)), [.t 26], none⟩,
      ⟨(some 28), (.h (.load false 1)), [.t 27], none⟩,
      ⟨(some 29), (.p .mov), [.t 1], none⟩,
      ⟨(some 30), (.p .mov), [.t 1], none⟩,
      ⟨(some 31), (.p .mov), [.t 2], none⟩,
      ⟨(some 32), (.p (.bld [(.int .i64 0), (.int .i64 0), (.int .i64 0), (.int .i64 0), (.int .i64 0), .nils] [(0, 1), (1, 1), (2, 1)])), [.t 30, .t 31, .c (.int .i64 (-1))], none⟩,
      ⟨(some 33), (.h .boxh), [.t 32], none⟩,
      ⟨none, (.h (.mput 0)), [.t 28, .t 29, .t 33], none⟩])
    (.seq
     (.ops [
       ⟨(some 6), (.p .mov), [.c (.int .i64 0)], none⟩])
     (.ret [6])))))
def train_Register_Open_I : FInfo := ⟨.ref, 3, train_Register_Open_C, [.tmp 6]⟩
def train_Register_Open_A : Ann := ⟨[33], [], [], [(0, [0, 1, 2])], []⟩
abbrev n_train_Register_Open : Nat := 25

/-! ### (*balise/train.Register).Get -/
def train_Register_Get_C : CCode :=
 (.seq
  (.ops [
    ⟨(some 4), (.h (.newl 4 [(.int .i64 0), (.int .i64 0), (.int .i64 0), (.int .i64 0), (.int .i64 0), .nils])), [], none⟩,
    ⟨(some 5), (.p .mov), [.c (.bool false)], none⟩])
  (.seq
   (.seq
    (.ops [
      ⟨(some 7), (.p .mov), [.t 0], none⟩,
      ⟨(some 8), (.p (.bin .eql .ptr)), [.t 7, .c .nilp], none⟩,
      ⟨(some 9), (.p .mov), [.t 8], none⟩,
      ⟨(some 10), (.p .mov), [.t 0], (some (9, false))⟩,
      ⟨(some 11), (.p .nchk), [.t 10], (some (9, false))⟩,
      ⟨(some 12), (.p (.faddr 0)), [.t 11], (some (9, false))⟩,
      ⟨(some 13), (.h (.load false 1)), [.t 12], (some (9, false))⟩,
      ⟨(some 14), (.p .mov), [.t 1], (some (9, false))⟩,
      ⟨(some 15), (.h (.look 0 .nilp false)), [.t 13, .t 14], (some (9, false))⟩,
      ⟨(some 16), (.p (.bin .eql .ptr)), [.t 15, .c .nilp], (some (9, false))⟩,
      ⟨(some 17), (.p .pick), [.t 9, .c (.bool true), .t 16], none⟩])
    (.cond (.t 17)
     (.seq
      (.ops [
        ⟨(some 18), (.p (.bld [(.int .i64 0), (.int .i64 0), (.int .i64 0), (.int .i64 0), (.int .i64 0), .nils] [])), [], none⟩,
        ⟨none, (.h (.store 6)), [.t 4, .t 18], none⟩,
        ⟨(some 5), (.p .mov), [.c (.bool false)], none⟩])
      (.ret [4, 5]))
     .skip))
   (.seq
    (.ops [
      ⟨(some 19), (.p .mov), [.t 0], none⟩,
      ⟨(some 20), (.p .nchk), [.t 19], none⟩,
      ⟨(some 21), (.p (.faddr 0)), [.t 20], none⟩,
      ⟨(some 22), (.h (.load false 1)), [.t 21], none⟩,
      ⟨(some 23), (.p .mov), [.t 1], none⟩,
      ⟨(some 24), (.h (.look 0 .nilp false)), [.t 22, .t 23], none⟩,
      ⟨(some 25), (.p .nchk), [.t 24], none⟩,
      ⟨(some 26), (.h (.load true 6)), [.t 25], none⟩,
      ⟨(some 6), (.h (.newl 6 [(.int .i64 0), (.int .i64 0), (.int .i64 0), (.int .i64 0), (.int .i64 0), .nils])), [], none⟩,
      ⟨none, (.h (.store 6)), [.t 6, .t 26], none⟩])
    (.seq
     (.ops [
       ⟨(some 27), (.p (.faddr 5)), [.t 6], none⟩,
       ⟨(some 28), (.h (.load false 1)), [.t 27], none⟩,
       ⟨(some 29), .call, [.c (.fn (.func 62) [] []), .t 28], none⟩,
       ⟨(some 30), (.p (.faddr 5)), [.t 6], none⟩,
       ⟨none, (.h (.store 1)), [.t 30, .t 29], none⟩])
     (.seq
      (.ops [
        ⟨(some 31), (.h (.load true 6)), [.t 6], none⟩,
        ⟨none, (.h (.store 6)), [.t 4, .t 31], none⟩,
        ⟨(some 5), (.p .mov), [.c (.bool true)], none⟩])
      (.ret [4, 5]))))))
def train_Register_Get_I : FInfo := ⟨.ref, 2, train_Register_Get_C, [.cell 4 true 6, .tmp 5]⟩
def train_Register_Get_A : Ann := ⟨[], [], [], [], [4, 6]⟩
abbrev n_train_Register_Get : Nat := 26

/-! ### balise/baliseref01.Ints -/
def r01_Ints_B0 : CCode :=
 (.seq
  (.seq
   (.ops [
     ⟨(some 11), (.p .mov), [.t 5], none⟩,
     ⟨(some 12), (.p .mov), [.t 0], none⟩,
     ⟨(some 13), (.p .len), [.t 12], none⟩,
     ⟨(some 14), (.p (.bin .lss .ifc)), [.t 11, .t 13], none⟩])
   (.cond (.t 14)
    .skip
    (.exit 0)))
  (.seq
   (.block 1 (some [0, 1, 5])
    (.seq
     (.ops [
       ⟨(some 17), (.p .mov), [.t 0], none⟩,
       ⟨(some 18), (.p .mov), [.t 5], none⟩,
       ⟨(some 19), (.p (.iaddr 1)), [.t 17, .t 18], none⟩,
       ⟨(some 20), (.h (.load false 1)), [.t 19], none⟩,
       ⟨(some 21), (.p .mov), [.t 1], none⟩,
       ⟨(some 22), (.p .mov), [.t 5], none⟩,
       ⟨(some 23), (.p (.iaddr 1)), [.t 21, .t 22], none⟩,
       ⟨(some 24), (.h (.load false 1)), [.t 23], none⟩,
       ⟨(some 25), (.p (.bin .neq .int)), [.t 20, .t 24], none⟩])
     (.cond (.t 25)
      (.seq
       (.ops [
         ⟨(some 4), (.p .mov), [.c (.bool false)], none⟩])
       (.ret [4]))
      .skip)))
   (.ops [
     ⟨(some 15), (.p .mov), [.t 5], none⟩,
     ⟨(some 16), (.p (.bin .add .ifc)), [.t 15, .c (.int .i64 1)], none⟩,
     ⟨(some 5), (.p .mov), [.t 16], none⟩])))
def r01_Ints_L0 : CCode := .bloop 0 [0, 1, 5] [] r01_Ints_B0
def r01_Ints_C : CCode :=
 (.seq
  (.ops [
    ⟨(some 4), (.p .mov), [.c (.bool false)], none⟩])
  (.seq
   (.seq
    (.ops [
      ⟨(some 6), (.p .mov), [.t 0], none⟩,
      ⟨(some 7), (.p .len), [.t 6], none⟩,
      ⟨(some 8), (.p .mov), [.t 1], none⟩,
      ⟨(some 9), (.p .len), [.t 8], none⟩,
      ⟨(some 10), (.p (.bin .neq .int)), [.t 7, .t 9], none⟩])
    (.cond (.t 10)
     (.seq
      (.ops [
        ⟨(some 4), (.p .mov), [.c (.bool false)], none⟩])
      (.ret [4]))
     .skip))
   (.seq
    (.seq
     (.ops [
       ⟨(some 5), (.p .mov), [.c (.int .i64 0)], none⟩])
     r01_Ints_L0)
    (.seq
     (.ops [
       ⟨(some 4), (.p .mov), [.c (.bool true)], none⟩])
     (.ret [4])))))
def r01_Ints_I : FInfo := ⟨(.fz false), 2, r01_Ints_C, [.tmp 4]⟩
def r01_Ints_A : Ann := ⟨[], [], [(0, [0, 1, 5], [])], [(1, [0, 1, 5])], []⟩
abbrev n_r01_Ints : Nat := 27

/-! ### balise/baliseref10.Join -/
def r10_Join_B0 : CCode :=
 (.seq
  (.seq
   (.ops [
     ⟨(some 9), (.p .mov), [.t 6], none⟩,
     ⟨(some 10), (.p .mov), [.t 1], none⟩,
     ⟨(some 11), (.p .len), [.t 10], none⟩,
     ⟨(some 12), (.p (.bin .lss .ifc)), [.t 9, .t 11], none⟩,
     ⟨(some 13), (.p .mov), [.t 12], none⟩,
     ⟨(some 14), (.p .mov), [.t 0], (some (13, true))⟩,
     ⟨(some 15), (.p .len), [.t 14], (some (13, true))⟩,
     ⟨(some 16), (.p (.bin .gtr .ifc)), [.t 15, .c (.int .i64 0)], (some (13, true))⟩,
     ⟨(some 17), (.p .pick), [.t 13, .t 16, .c (.bool false)], none⟩,
     ⟨(some 18), (.p .mov), [.t 17], none⟩,
     ⟨(some 19), (.p .mov), [.t 5], (some (18, true))⟩,
     ⟨(some 20), (.p (.bin .eql .int)), [.t 19, .c (.int .i64 0)], (some (18, true))⟩,
     ⟨(some 21), (.p .pick), [.t 18, .t 20, .c (.bool false)], none⟩])
   (.cond (.t 21)
    .skip
    (.exit 0)))
  (.seq
   (.block 1 (some [0, 1, 5, 6])
    (.seq
     (.ops [
       ⟨(some 24), (.p .mov), [.t 1], none⟩,
       ⟨(some 25), (.p .mov), [.t 6], none⟩,
       ⟨(some 26), (.p (.iaddr 1)), [.t 24, .t 25], none⟩,
       ⟨(some 27), (.h (.load false 1)), [.t 26], none⟩,
       ⟨(some 28), (.p .mov), [.t 0], none⟩,
       ⟨(some 29), (.p .mov), [.t 0], none⟩,
       ⟨(some 30), (.p .len), [.t 29], none⟩,
       ⟨(some 31), (.p (.bin .sub .ifc)), [.t 30, .c (.int .i64 1)], none⟩,
       ⟨(some 32), (.p (.iaddr 1)), [.t 28, .t 31], none⟩,
       ⟨(some 33), (.h (.load false 1)), [.t 32], none⟩,
       ⟨(some 34), (.p (.bin .eql .int)), [.t 27, .t 33], none⟩])
     (.cond (.t 34)
      (.ops [
        ⟨(some 35), (.p .mov), [.t 6], none⟩,
        ⟨(some 36), (.p (.bin .add .ifc)), [.t 35, .c (.int .i64 1)], none⟩,
        ⟨(some 5), (.p .mov), [.t 36], none⟩])
      .skip)))
   (.ops [
     ⟨(some 22), (.p .mov), [.t 6], none⟩,
     ⟨(some 23), (.p (.bin .add .ifc)), [.t 22, .c (.int .i64 1)], none⟩,
     ⟨(some 6), (.p .mov), [.t 23], none⟩])))
def r10_Join_L0 : CCode := .bloop 0 [0, 1, 5, 6] [0, 1, 5] r10_Join_B0

def r10_Join_B2 : CCode :=
 (.seq
  (.seq
   (.ops [
     ⟨(some 41), (.p .mov), [.t 8], none⟩,
     ⟨(some 42), (.p .mov), [.t 1], none⟩,
     ⟨(some 43), (.p .len), [.t 42], none⟩,
     ⟨(some 44), (.p (.bin .lss .ifc)), [.t 41, .t 43], none⟩])
   (.cond (.t 44)
    .skip
    (.exit 2)))
  (.seq
   (.block 3 (some [1, 7, 8])
    (.seq
     (.ops [
       ⟨(some 47), (.p .mov), [.t 7], none⟩,
       ⟨(some 48), (.p .mov), [.t 1], none⟩,
       ⟨(some 49), (.p .mov), [.t 8], none⟩,
       ⟨(some 50), (.p (.iaddr 1)), [.t 48, .t 49], none⟩,
       ⟨(some 51), (.h (.load false 1)), [.t 50], none⟩,
       ⟨(some 52), .call, [.c (.fn (.func 42) [] []), .t 47, .t 51], none⟩,
       ⟨(some 53), (.p (.un .not)), [.t 52], none⟩])
     (.cond (.t 53)
      (.ops [
        ⟨(some 54), (.p .mov), [.t 7], none⟩,
        ⟨(some 55), (.p .mov), [.t 1], none⟩,
        ⟨(some 56), (.p .mov), [.t 8], none⟩,
        ⟨(some 57), (.p (.iaddr 1)), [.t 55, .t 56], none⟩,
        ⟨(some 58), (.h (.load false 1)), [.t 57], none⟩,
        ⟨(some 59), (.h (.bslF 1 1 [(.int .i64 0)] [(0, 1)])), [.t 58], none⟩,
        ⟨(some 60), (.h (.app 1 8 [(.int .i64 0)])), [.t 54, .t 59], none⟩,
        ⟨(some 7), (.p .mov), [.t 60], none⟩])
      .skip)))
   (.ops [
     ⟨(some 45), (.p .mov), [.t 8], none⟩,
     ⟨(some 46), (.p (.bin .add .ifc)), [.t 45, .c (.int .i64 1)], none⟩,
     ⟨(some 8), (.p .mov), [.t 46], none⟩])))
def r10_Join_L2 : CCode := .bloop 2 [1, 7, 8] [7] r10_Join_B2
def r10_Join_C : CCode :=
 (.seq
  (.ops [
    ⟨(some 4), (.p .mov), [.c .nils], none⟩])
  (.seq
   (.ops [
     ⟨(some 5), (.p .mov), [.c (.int .i64 0)], none⟩])
   (.seq
    (.seq
     (.ops [
       ⟨(some 6), (.p .mov), [.c (.int .i64 0)], none⟩])
     r10_Join_L0)
    (.seq
     (.ops [
       ⟨(some 7), (.p .mov), [.c .nils], none⟩])
     (.seq
      (.ops [
        ⟨(some 37), (.p .mov), [.t 7], none⟩,
        ⟨(some 38), (.p .mov), [.t 0], none⟩,
        ⟨(some 39), (.h (.app 1 8 [(.int .i64 0)])), [.t 37, .t 38], none⟩,
        ⟨(some 7), (.p .mov), [.t 39], none⟩])
      (.seq
       (.seq
        (.ops [
          ⟨(some 40), (.p .mov), [.t 5], none⟩,
          ⟨(some 8), (.p .mov), [.t 40], none⟩])
        r10_Join_L2)
       (.seq
        (.ops [
          ⟨(some 61), (.p .mov), [.t 7], none⟩,
          ⟨(some 4), (.p .mov), [.t 61], none⟩])
        (.ret [4]))))))))
def r10_Join_I : FInfo := ⟨(.fz false), 2, r10_Join_C, [.tmp 4]⟩
def r10_Join_A : Ann := ⟨[], [], [(0, [0, 1, 5, 6], [0, 1, 5]), (2, [1, 7, 8], [7])], [(1, [0, 1, 5, 6]), (3, [1, 7, 8])], []⟩
abbrev n_r10_Join : Nat := 28

/-! ### (*balise/graph.Graph).Around -/
def graph_Graph_Around_C : CCode :=
 (.seq
  (.ops [
    ⟨(some 3), (.h .boxh), [.t 1], none⟩,
    ⟨(some 4), (.p .mov), [.c .nils], none⟩])
  (.seq
   (.ops [
     ⟨(some 11), (.p .mov), [.t 0], none⟩,
     ⟨(some 12), (.h (.load true 2)), [.t 3], none⟩,
     ⟨(some 13), .call, [.c (.fn (.func 76) [] []), .t 11, .t 12], none⟩,
     ⟨(some 10), (.p .mov), [.t 13], none⟩,
     ⟨(some 14), (.p (.ext 0)), [.t 10], none⟩,
     ⟨(some 15), (.p (.ext 1)), [.t 10], none⟩,
     ⟨(some 5), (.p .mov), [.t 14], none⟩,
     ⟨(some 6), (.p .mov), [.t 15], none⟩])
   (.seq
    (.seq
     (.ops [
       ⟨(some 16), (.p .mov), [.t 6], none⟩,
       ⟨(some 17), (.p (.un .not)), [.t 16], none⟩])
     (.cond (.t 17)
      (.seq
       (.ops [
         ⟨(some 4), (.p .mov), [.c .nils], none⟩])
       (.ret [4]))
      .skip))
    (.seq
     (.ops [
       ⟨(some 18), (.p .mov), [.t 0], none⟩,
       ⟨(some 19), (.p .mov), [.t 5], none⟩,
       ⟨(some 20), .call, [.c (.fn (.func 53) [] []), .t 18, .t 19], none⟩,
       ⟨(some 7), (.p .mov), [.t 20], none⟩])
     (.seq
      (.seq
       (.ops [
         ⟨(some 21), (.p .mov), [.t 7], none⟩,
         ⟨(some 22), (.p (.bin .lss .ifc)), [.t 21, .c (.int .i64 0)], none⟩])
       (.cond (.t 22)
        (.seq
         (.ops [
           ⟨(some 23), (.p .mov), [.t 0], none⟩,
           ⟨(some 24), (.p .mov), [.t 5], none⟩,
           ⟨(some 25), .call, [.c (.fn (.func 44) [] []), .t 23, .t 24], none⟩,
           ⟨(some 26), (.p (.mkfn (.func 78) 0)), [.t 3], none⟩,
           ⟨(some 27), .call, [.c (.fn (.func 77) [] []), .t 25, .t 26], none⟩,
           ⟨(some 8), (.p .mov), [.t 27], none⟩])
         (.seq
          (.seq
           (.ops [
             ⟨(some 28), (.p .mov), [.t 8], none⟩,
             ⟨(some 29), (.p .len), [.t 28], none⟩,
             ⟨(some 30), (.p (.bin .neq .int)), [.t 29, .c (.int .i64 1)], none⟩])
           (.cond (.t 30)
            (.seq
             (.ops [
               ⟨(some 4), (.p .mov), [.c .nils], none⟩])
             (.ret [4]))
            .skip))
          (.seq
           (.ops [
             ⟨(some 31), (.p .mov), [.t 8], none⟩,
             ⟨(some 4), (.p .mov), [.t 31], none⟩])
           (.ret [4]))))
        .skip))
      (.seq
       (.ops [
         ⟨(some 32), (.p .mov), [.t 0], none⟩,
         ⟨(some 33), (.p .nchk), [.t 32], none⟩,
         ⟨(some 34), (.p (.faddr 0)), [.t 33], none⟩,
         ⟨(some 35), (.p (.faddr 3)), [.t 34], none⟩,
         ⟨(some 36), (.h (.load false 1)), [.t 35], none⟩,
         ⟨(some 37), (.p .mov), [.t 7], none⟩,
         ⟨(some 38), (.p (.iaddr 4)), [.t 36, .t 37], none⟩,
         ⟨(some 39), (.h (.load true 4)), [.t 38], none⟩,
         ⟨(some 9), (.h (.newl 9 [(.int .i64 0), (.int .i64 0), (.int .i64 0), (.int .i64 0)])), [], none⟩,
         ⟨none, (.h (.store 4)), [.t 9, .t 39], none⟩])
       (.seq
        (.seq
         (.ops [
           ⟨(some 40), (.p (.faddr 0)), [.t 3], none⟩,
           ⟨(some 41), (.h (.load false 1)), [.t 40], none⟩])
         (.block 0 (some [])
          (.seq
           (.ops [
             ⟨(some 43), (.p (.faddr 1)), [.t 9], none⟩,
             ⟨(some 44), (.h (.load false 1)), [.t 43], none⟩,
             ⟨(some 45), (.p (.bin .eql .int)), [.t 41, .t 44], none⟩,
             ⟨(some 42), (.p .mov), [.t 45], none⟩])
           (.cond (.t 42)
            (.seq
             (.ops [
               ⟨(some 46), (.p .mov), [.t 0], none⟩,
               ⟨(some 47), (.p (.faddr 2)), [.t 9], none⟩,
               ⟨(some 48), (.h (.load false 1)), [.t 47], none⟩,
               ⟨(some 49), (.p .mov), [.t 5], none⟩,
               ⟨(some 50), .call, [.c (.fn (.func 80) [] []), .t 46, .t 48, .t 49], none⟩,
               ⟨(some 51), (.p .mov), [.t 0], none⟩,
               ⟨(some 52), (.p (.faddr 3)), [.t 9], none⟩,
               ⟨(some 53), (.h (.load false 1)), [.t 52], none⟩,
               ⟨(some 54), (.p .mov), [.t 5], none⟩,
               ⟨(some 55), .call, [.c (.fn (.func 80) [] []), .t 51, .t 53, .t 54], none⟩,
               ⟨(some 56), (.h (.bslF 1 2 [.nils] [(0, 1), (1, 1)])), [.t 50, .t 55], none⟩,
               ⟨(some 57), .call, [.c (.fn (.func 79) [] []), .t 56], none⟩,
               ⟨(some 4), (.p .mov), [.t 57], none⟩])
             (.ret [4]))
            (.seq
             (.seq
              (.ops [
                ⟨(some 59), (.p (.faddr 2)), [.t 9], none⟩,
                ⟨(some 60), (.h (.load false 1)), [.t 59], none⟩,
                ⟨(some 61), (.p (.bin .eql .int)), [.t 41, .t 60], none⟩,
                ⟨(some 58), (.p .mov), [.t 61], none⟩])
              (.cond (.t 58)
               .skip
               (.ops [
                 ⟨(some 62), (.p (.faddr 3)), [.t 9], none⟩,
                 ⟨(some 63), (.h (.load false 1)), [.t 62], none⟩,
                 ⟨(some 64), (.p (.bin .eql .int)), [.t 41, .t 63], none⟩,
                 ⟨(some 58), (.p .mov), [.t 64], none⟩])))
             (.cond (.t 58)
              (.seq
               (.ops [
                 ⟨(some 65), (.p .mov), [.t 0], none⟩,
                 ⟨(some 66), (.p (.faddr 1)), [.t 9], none⟩,
                 ⟨(some 67), (.h (.load false 1)), [.t 66], none⟩,
                 ⟨(some 68), (.p .mov), [.t 5], none⟩,
                 ⟨(some 69), .call, [.c (.fn (.func 80) [] []), .t 65, .t 67, .t 68], none⟩,
                 ⟨(some 4), (.p .mov), [.t 69], none⟩])
               (.ret [4]))
              .skip))))))
        (.seq
         (.ops [
           ⟨(some 4), (.p .mov), [.c .nils], none⟩])
         (.ret [4])))))))))
def graph_Graph_Around_I : FInfo := ⟨(.fz false), 2, graph_Graph_Around_C, [.tmp 4]⟩
def graph_Graph_Around_A : Ann := ⟨[3], [], [], [(0, [])], [9]⟩
abbrev n_graph_Graph_Around : Nat := 41

/-! ### balise/baliseref01.Has -/
def r01_Has_B0 : CCode :=
 (.seq
  (.seq
   (.ops [
     ⟨(some 6), (.p .mov), [.t 5], none⟩,
     ⟨(some 7), (.p .mov), [.t 0], none⟩,
     ⟨(some 8), (.p .len), [.t 7], none⟩,
     ⟨(some 9), (.p (.bin .lss .ifc)), [.t 6, .t 8], none⟩])
   (.cond (.t 9)
    .skip
    (.exit 0)))
  (.seq
   (.block 1 (some [0, 1, 5])
    (.seq
     (.ops [
       ⟨(some 12), (.p .mov), [.t 0], none⟩,
       ⟨(some 13), (.p .mov), [.t 5], none⟩,
       ⟨(some 14), (.p (.iaddr 1)), [.t 12, .t 13], none⟩,
       ⟨(some 15), (.h (.load false 1)), [.t 14], none⟩,
       ⟨(some 16), (.p .mov), [.t 1], none⟩,
       ⟨(some 17), (.p (.bin .eql .int)), [.t 15, .t 16], none⟩])
     (.cond (.t 17)
      (.seq
       (.ops [
         ⟨(some 4), (.p .mov), [.c (.bool true)], none⟩])
       (.ret [4]))
      .skip)))
   (.ops [
     ⟨(some 10), (.p .mov), [.t 5], none⟩,
     ⟨(some 11), (.p (.bin .add .ifc)), [.t 10, .c (.int .i64 1)], none⟩,
     ⟨(some 5), (.p .mov), [.t 11], none⟩])))
def r01_Has_L0 : CCode := .bloop 0 [0, 1, 5] [] r01_Has_B0
def r01_Has_C : CCode :=
 (.seq
  (.ops [
    ⟨(some 4), (.p .mov), [.c (.bool false)], none⟩])
  (.seq
   (.seq
    (.ops [
      ⟨(some 5), (.p .mov), [.c (.int .i64 0)], none⟩])
    r01_Has_L0)
   (.seq
    (.ops [
      ⟨(some 4), (.p .mov), [.c (.bool false)], none⟩])
    (.ret [4]))))
def r01_Has_I : FInfo := ⟨(.fz false), 2, r01_Has_C, [.tmp 4]⟩
def r01_Has_A : Ann := ⟨[], [], [(0, [0, 1, 5], [])], [(1, [0, 1, 5])], []⟩
abbrev n_r01_Has : Nat := 42

/-! ### (*balise/graph.Graph).Ends -/
def graph_Graph_Ends_B2 : CCode :=
 (.seq
  (.ops [
    ⟨(some 28), (.p (.bin .lss .ifc)), [.t 27, .c (.int .i64 2)], none⟩])
  (.seq
   (.cond (.t 28)
    .skip
    (.exit 2))
   (.seq
    (.block 3 (some [0, 1, 5, 6, 26, 27])
     (.seq
      (.ops [
        ⟨(some 29), (.p .mov), [.t 27], none⟩,
        ⟨(some 30), (.p (.idxA 2 false 1)), [.t 26, .t 27], none⟩,
        ⟨(some 9), (.p .mov), [.t 29], none⟩,
        ⟨(some 10), (.p .mov), [.t 30], none⟩])
      (.seq
       (.ops [
         ⟨(some 31), (.p .mov), [.t 10], none⟩,
         ⟨(some 32), (.p .mov), [.t 1], none⟩,
         ⟨(some 33), (.p (.bin .eql .int)), [.t 31, .t 32], none⟩])
       (.cond (.t 33)
        (.ops [
          ⟨(some 34), (.p .mov), [.t 5], none⟩,
          ⟨(some 35), (.p .mov), [.t 6], none⟩,
          ⟨(some 36), (.p .mov), [.t 9], none⟩,
          ⟨(some 37), (.p (.bld [(.int .i64 0), (.int .i64 0)] [(0, 1), (1, 1)])), [.t 35, .t 36], none⟩,
          ⟨(some 38), (.h (.bslF 2 1 [(.int .i64 0), (.int .i64 0)] [(0, 2)])), [.t 37], none⟩,
          ⟨(some 39), (.h (.app 2 16 [(.int .i64 0), (.int .i64 0)])), [.t 34, .t 38], none⟩,
          ⟨(some 5), (.p .mov), [.t 39], none⟩])
        .skip))))
    (.ops [
      ⟨(some 40), (.p (.bin .add .ifc)), [.t 27, .c (.int .i64 1)], none⟩,
      ⟨(some 27), (.p .mov), [.t 40], none⟩]))))
def graph_Graph_Ends_L2 : CCode := .bloop 2 [0, 1, 5, 6, 26, 27] [0, 1, 5, 6] graph_Graph_Ends_B2

def graph_Graph_Ends_B0 : CCode :=
 (.seq
  (.block 1 (some [0, 1, 5, 6])
   (.seq
    (.ops [
      ⟨(some 14), (.p .mov), [.t 0], none⟩,
      ⟨(some 15), (.p .mov), [.t 6], none⟩,
      ⟨(some 16), .call, [.c (.fn (.func 83) [] []), .t 14, .t 15], none⟩,
      ⟨(some 13), (.p .mov), [.t 16], none⟩,
      ⟨(some 17), (.p (.ext 0)), [.t 13], none⟩,
      ⟨(some 18), (.p (.ext 1)), [.t 13], none⟩,
      ⟨(some 7), (.h (.newl 7 [(.int .i64 0), (.int .i64 0), (.int .i64 0)])), [], none⟩,
      ⟨none, (.h (.store 3)), [.t 7, .t 17], none⟩,
      ⟨(some 8), (.p .mov), [.t 18], none⟩])
    (.seq
     (.seq
      (.ops [
        ⟨(some 19), (.p .mov), [.t 8], none⟩,
        ⟨(some 20), (.p (.un .not)), [.t 19], none⟩])
      (.cond (.t 20)
       (.seq
        (.ops [
          ⟨(some 21), (.p .mov), [.t 5], none⟩,
          ⟨(some 4), (.p .mov), [.t 21], none⟩])
        (.ret [4]))
       .skip))
     (.seq
      (.ops [
        ⟨(some 22), (.p (.faddr 1)), [.t 7], none⟩,
        ⟨(some 23), (.h (.load false 1)), [.t 22], none⟩,
        ⟨(some 24), (.p (.faddr 2)), [.t 7], none⟩,
        ⟨(some 25), (.h (.load false 1)), [.t 24], none⟩,
        ⟨(some 26), (.p (.bld [(.int .i64 0), (.int .i64 0)] [(0, 1), (1, 1)])), [.t 23, .t 25], none⟩,
        ⟨(some 27), (.p .mov), [.c (.int .i64 0)], none⟩])
      graph_Graph_Ends_L2))))
  (.ops [
    ⟨(some 11), (.p .mov), [.t 6], none⟩,
    ⟨(some 12), (.p (.bin .add .ifc)), [.t 11, .c (.int .i64 1)], none⟩,
    ⟨(some 6), (.p .mov), [.t 12], none⟩]))
def graph_Graph_Ends_L0 : CCode := .bloop 0 [0, 1, 5, 6] [] graph_Graph_Ends_B0
def graph_Graph_Ends_C : CCode :=
 (.seq
  (.ops [
    ⟨(some 4), (.p .mov), [.c .nils], none⟩])
  (.seq
   (.ops [
     ⟨(some 5), (.p .mov), [.c .nils], none⟩])
   (.seq
    (.ops [
      ⟨(some 6), (.p .mov), [.c (.int .i64 0)], none⟩])
    graph_Graph_Ends_L0)))
def graph_Graph_Ends_I : FInfo := ⟨.own, 2, graph_Graph_Ends_C, [.tmp 4]⟩
def graph_Graph_Ends_A : Ann := ⟨[], [], [(0, [0, 1, 5, 6], []), (2, [0, 1, 5, 6, 26, 27], [0, 1, 5, 6])], [(1, [0, 1, 5, 6]), (3, [0, 1, 5, 6, 26, 27])], [7]⟩
abbrev n_graph_Graph_Ends : Nat := 44

/-! ### (*balise/graph.Graph).Len -/
def graph_Graph_Len_C : CCode :=
 (.seq
  (.ops [
    ⟨(some 4), (.p .mov), [.c (.int .i64 0)], none⟩])
  (.seq
   (.ops [
     ⟨(some 8), (.p .mov), [.t 0], none⟩,
     ⟨(some 9), (.p .mov), [.t 1], none⟩,
     ⟨(some 10), .call, [.c (.fn (.func 83) [] []), .t 8, .t 9], none⟩,
     ⟨(some 7), (.p .mov), [.t 10], none⟩,
     ⟨(some 11), (.p (.ext 0)), [.t 7], none⟩,
     ⟨(some 12), (.p (.ext 1)), [.t 7], none⟩,
     ⟨(some 5), (.h (.newl 5 [(.int .i64 0), (.int .i64 0), (.int .i64 0)])), [], none⟩,
     ⟨none, (.h (.store 3)), [.t 5, .t 11], none⟩,
     ⟨(some 6), (.p .mov), [.t 12], none⟩])
   (.seq
    (.ops [
      ⟨(some 13), (.p (.faddr 0)), [.t 5], none⟩,
      ⟨(some 14), (.h (.load false 1)), [.t 13], none⟩,
      ⟨(some 4), (.p .mov), [.t 14], none⟩])
    (.ret [4]))))
def graph_Graph_Len_I : FInfo := ⟨(.fz false), 2, graph_Graph_Len_C, [.tmp 4]⟩
def graph_Graph_Len_A : Ann := ⟨[], [], [], [], [5]⟩
abbrev n_graph_Graph_Len : Nat := 47

/-! ### balise/baliseref05.Walk -/
def r05_Walk_B0 : CCode :=
 (.seq
  (.seq
   (.ops [
     ⟨(some 21), (.p .mov), [.t 11], none⟩,
     ⟨(some 22), (.p .len), [.t 21], none⟩,
     ⟨(some 23), (.p .mov), [.t 4], none⟩,
     ⟨(some 24), (.p (.bin .lss .ifc)), [.t 22, .t 23], none⟩])
   (.cond (.t 24)
    .skip
    (.exit 0)))
  (.seq
   (.block 1 (some [3, 4, 5, 11, 12, 13])
    (.seq
     (.ops [
       ⟨(some 27), (.h (.load true 10)), [.t 5], none⟩,
       ⟨(some 28), (.h (.load true 2)), [.t 12], none⟩,
       ⟨(some 29), .call, [.c (.fn (.func 61) [] []), .t 27, .t 28], none⟩,
       ⟨(some 14), (.p .mov), [.t 29], none⟩])
     (.seq
      (.seq
       (.ops [
         ⟨(some 30), (.p .mov), [.t 14], none⟩,
         ⟨(some 31), (.p .len), [.t 30], none⟩,
         ⟨(some 32), (.p (.bin .eql .int)), [.t 31, .c (.int .i64 0)], none⟩])
       (.cond (.t 32)
        (.seq
         (.ops [
           ⟨(some 33), (.p .mov), [.t 11], none⟩,
           ⟨(some 10), (.p .mov), [.t 33], none⟩])
         (.ret [10]))
        .skip))
      (.seq
       (.ops [
         ⟨(some 15), (.p .mov), [.c (.int .i64 0)], none⟩])
       (.seq
        (.seq
         (.ops [
           ⟨(some 34), (.p .mov), [.t 13], none⟩,
           ⟨(some 35), (.p .mov), [.t 3], none⟩,
           ⟨(some 36), (.p .len), [.t 35], none⟩,
           ⟨(some 37), (.p (.bin .lss .ifc)), [.t 34, .t 36], none⟩])
         (.cond (.t 37)
          (.ops [
            ⟨(some 38), (.p .mov), [.t 3], none⟩,
            ⟨(some 39), (.p .mov), [.t 13], none⟩,
            ⟨(some 40), (.p (.iaddr 1)), [.t 38, .t 39], none⟩,
            ⟨(some 41), (.h (.load false 1)), [.t 40], none⟩,
            ⟨(some 42), (.p (.toInt .i64)), [.t 41], none⟩,
            ⟨(some 43), (.p .mov), [.t 14], none⟩,
            ⟨(some 44), (.p .len), [.t 43], none⟩,
            ⟨(some 45), (.p (.bin .rem .ifc)), [.t 42, .t 44], none⟩,
            ⟨(some 15), (.p .mov), [.t 45], none⟩])
          .skip))
        (.seq
         (.seq
          (.ops [
            ⟨(some 46), (.p .mov), [.t 11], none⟩,
            ⟨(some 47), (.p .mov), [.t 14], none⟩,
            ⟨(some 48), (.p .mov), [.t 15], none⟩,
            ⟨(some 49), (.p (.iaddr 2)), [.t 47, .t 48], none⟩,
            ⟨(some 50), (.p (.faddr 0)), [.t 49], none⟩,
            ⟨(some 51), (.h (.load false 1)), [.t 50], none⟩,
            ⟨(some 52), .call, [.c (.fn (.func 42) [] []), .t 46, .t 51], none⟩])
          (.cond (.t 52)
           (.seq
            (.ops [
              ⟨(some 53), (.p .mov), [.t 11], none⟩,
              ⟨(some 10), (.p .mov), [.t 53], none⟩])
            (.ret [10]))
           .skip))
         (.seq
          (.ops [
            ⟨(some 54), (.p .mov), [.t 11], none⟩,
            ⟨(some 55), (.p .mov), [.t 14], none⟩,
            ⟨(some 56), (.p .mov), [.t 15], none⟩,
            ⟨(some 57), (.p (.iaddr 2)), [.t 55, .t 56], none⟩,
            ⟨(some 58), (.p (.faddr 0)), [.t 57], none⟩,
            ⟨(some 59), (.h (.load false 1)), [.t 58], none⟩,
            ⟨(some 60), (.h (.bslF 1 1 [(.int .i64 0)] [(0, 1)])), [.t 59], none⟩,
            ⟨(some 61), (.h (.app 1 8 [(.int .i64 0)])), [.t 54, .t 60], none⟩,
            ⟨(some 11), (.p .mov), [.t 61], none⟩])
          (.ops [
            ⟨(some 62), (.p .mov), [.t 14], none⟩,
            ⟨(some 63), (.p .mov), [.t 15], none⟩,
            ⟨(some 64), (.p (.iaddr 2)), [.t 62, .t 63], none⟩,
            ⟨(some 65), (.p (.faddr 0)), [.t 64], none⟩,
            ⟨(some 66), (.h (.load false 1)), [.t 65], none⟩,
            ⟨(some 67), (.p .mov), [.t 14], none⟩,
            ⟨(some 68), (.p .mov), [.t 15], none⟩,
            ⟨(some 69), (.p (.iaddr 2)), [.t 67, .t 68], none⟩,
            ⟨(some 70), (.p (.faddr 1)), [.t 69], none⟩,
            ⟨(some 71), (.h (.load false 1)), [.t 70], none⟩,
            ⟨(some 72), (.p (.bin .sub .ifc)), [.c (.int .i64 1), .t 71], none⟩,
            ⟨(some 73), (.p (.bld [(.int .i64 0), (.int .i64 0)] [(0, 1), (1, 1)])), [.t 66, .t 72], none⟩,
            ⟨none, (.h (.store 2)), [.t 12, .t 73], none⟩]))))))))
   (.ops [
     ⟨(some 25), (.p .mov), [.t 13], none⟩,
     ⟨(some 26), (.p (.bin .add .ifc)), [.t 25, .c (.int .i64 1)], none⟩,
     ⟨(some 13), (.p .mov), [.t 26], none⟩])))
def r05_Walk_L0 : CCode := .bloop 0 [3, 4, 5, 11, 12, 13] [11] r05_Walk_B0
def r05_Walk_C : CCode :=
 (.seq
  (.ops [
    ⟨(some 5), (.h (.box 5)), [.t 0], none⟩,
    ⟨(some 10), (.p .mov), [.c .nils], none⟩])
  (.seq
   (.ops [
     ⟨(some 16), (.p .mov), [.t 1], none⟩,
     ⟨(some 17), (.h (.bslO 1 1 [(.int .i64 0)] [(0, 1)])), [.t 16], none⟩,
     ⟨(some 11), (.p .mov), [.t 17], none⟩])
   (.seq
    (.ops [
      ⟨(some 18), (.p .mov), [.t 1], none⟩,
      ⟨(some 19), (.p .mov), [.t 2], none⟩,
      ⟨(some 20), (.p (.bld [(.int .i64 0), (.int .i64 0)] [(0, 1), (1, 1)])), [.t 18, .t 19], none⟩,
      ⟨(some 12), (.h (.newl 12 [(.int .i64 0), (.int .i64 0)])), [], none⟩,
      ⟨none, (.h (.store 2)), [.t 12, .t 20], none⟩])
    (.seq
     (.seq
      (.ops [
        ⟨(some 13), (.p .mov), [.c (.int .i64 0)], none⟩])
      r05_Walk_L0)
     (.seq
      (.ops [
        ⟨(some 74), (.p .mov), [.t 11], none⟩,
        ⟨(some 10), (.p .mov), [.t 74], none⟩])
      (.ret [10]))))))
def r05_Walk_I : FInfo := ⟨(.fz false), 5, r05_Walk_C, [.tmp 10]⟩
def r05_Walk_A : Ann := ⟨[], [17], [(0, [3, 4, 5, 11, 12, 13], [11])], [(1, [3, 4, 5, 11, 12, 13])], [5, 12]⟩
abbrev n_r05_Walk : Nat := 48

/-! ### (*balise/graph.Graph).Point -/
def graph_Graph_Point_C : CCode :=
 (.seq
  (.ops [
    ⟨(some 3), (.h .boxh), [.t 1], none⟩,
    ⟨(some 4), (.p .mov), [.c (.int .i64 0)], none⟩])
  (.seq
   (.seq
    (.ops [
      ⟨(some 5), (.p .mov), [.t 0], none⟩,
      ⟨(some 6), (.p (.bin .eql .ptr)), [.t 5, .c .nilp], none⟩])
    (.cond (.t 6)
     (.seq
      (.ops [
        ⟨(some 4), (.p .mov), [.c (.int .i64 (-1))], none⟩])
      (.ret [4]))
     .skip))
   (.seq
    (.ops [
      ⟨(some 7), (.p .mov), [.t 0], none⟩,
      ⟨(some 8), (.p .nchk), [.t 7], none⟩,
      ⟨(some 9), (.p (.faddr 0)), [.t 8], none⟩,
      ⟨(some 10), (.p (.faddr 3)), [.t 9], none⟩,
      ⟨(some 11), (.h (.load false 1)), [.t 10], none⟩,
      ⟨(some 12), (.p (.mkfn (.func 99) 0)), [.t 3], none⟩,
      ⟨(some 13), .call, [.c (.fn (.func 98) [] []), .t 11, .t 12], none⟩,
      ⟨(some 4), (.p .mov), [.t 13], none⟩])
    (.ret [4]))))
def graph_Graph_Point_I : FInfo := ⟨(.fz false), 2, graph_Graph_Point_C, [.tmp 4]⟩
def graph_Graph_Point_A : Ann := ⟨[3], [], [], [], []⟩
abbrev n_graph_Graph_Point : Nat := 53

/-! ### balise/train.Join -/
def train_Join_B0 : CCode :=
 (.seq
  (.ops [
    ⟨(some 31), (.p (.bin .lss .ifc)), [.t 30, .t 29], none⟩])
  (.seq
   (.cond (.t 31)
    .skip
    (.exit 0))
   (.seq
    (.block 1 (some [5, 28, 29, 30])
     (.seq
      (.ops [
        ⟨(some 32), (.p (.iaddr 1)), [.t 28, .t 30], none⟩,
        ⟨(some 33), (.h (.load false 1)), [.t 32], none⟩,
        ⟨(some 8), (.p .mov), [.t 33], none⟩])
      (.seq
       (.ops [
         ⟨(some 34), (.p .mov), [.t 5], none⟩,
         ⟨(some 35), (.p .mov), [.t 8], none⟩,
         ⟨(some 36), .call, [.c (.fn (.func 86) [] []), .t 34, .t 35], none⟩,
         ⟨(some 37), (.p (.un .not)), [.t 36], none⟩])
       (.cond (.t 37)
        (.ops [
          ⟨(some 38), (.p .mov), [.t 5], none⟩,
          ⟨(some 39), (.p .mov), [.t 8], none⟩,
          ⟨(some 40), (.h (.bslF 1 1 [(.int .i64 0)] [(0, 1)])), [.t 39], none⟩,
          ⟨(some 41), (.h (.app 1 8 [(.int .i64 0)])), [.t 38, .t 40], none⟩,
          ⟨(some 5), (.p .mov), [.t 41], none⟩])
        .skip))))
    (.ops [
      ⟨(some 42), (.p (.bin .add .ifc)), [.t 30, .c (.int .i64 1)], none⟩,
      ⟨(some 30), (.p .mov), [.t 42], none⟩]))))
def train_Join_L0 : CCode := .bloop 0 [5, 28, 29, 30] [5] train_Join_B0
def train_Join_C : CCode :=
 (.seq
  (.ops [
    ⟨(some 4), (.p .mov), [.c .nils], none⟩])
  (.seq
   (.ops [
     ⟨(some 9), (.p .mov), [.t 0], none⟩,
     ⟨(some 10), .call, [.c (.fn (.func 62) [] []), .t 9], none⟩,
     ⟨(some 5), (.p .mov), [.t 10], none⟩])
   (.seq
    (.seq
     (.ops [
       ⟨(some 11), (.p .mov), [.t 0], none⟩,
       ⟨(some 12), (.p .len), [.t 11], none⟩,
       ⟨(some 13), (.p (.bin .gtr .ifc)), [.t 12, .c (.int .i64 0)], none⟩])
     (.cond (.t 13)
      (.seq
       (.ops [
         ⟨(some 14), (.p .mov), [.t 1], none⟩,
         ⟨(some 15), (.p .mov), [.t 0], none⟩,
         ⟨(some 16), (.p .mov), [.t 0], none⟩,
         ⟨(some 17), (.p .len), [.t 16], none⟩,
         ⟨(some 18), (.p (.bin .sub .ifc)), [.t 17, .c (.int .i64 1)], none⟩,
         ⟨(some 19), (.p (.iaddr 1)), [.t 15, .t 18], none⟩,
         ⟨(some 20), (.h (.load false 1)), [.t 19], none⟩,
         ⟨(some 21), .call, [.c (.fn (.func 100) [] []), .t 14, .t 20], none⟩,
         ⟨(some 6), (.p .mov), [.t 21], none⟩])
       (.seq
        (.ops [
          ⟨(some 22), (.p .mov), [.t 6], none⟩,
          ⟨(some 23), (.p (.bin .geq .ifc)), [.t 22, .c (.int .i64 0)], none⟩])
        (.cond (.t 23)
         (.ops [
           ⟨(some 24), (.p .mov), [.t 1], none⟩,
           ⟨(some 25), (.p .mov), [.t 6], none⟩,
           ⟨(some 26), (.p (.bin .add .ifc)), [.t 25, .c (.int .i64 1)], none⟩,
           ⟨(some 27), (.p (.slc 1 true false)), [.t 24, .t 26], none⟩,
           ⟨(some 1), (.p .mov), [.t 27], none⟩])
         .skip)))
      .skip))
    (.seq
     (.seq
      (.ops [
        ⟨(some 28), (.p .mov), [.t 1], none⟩,
        ⟨(some 29), (.p .len), [.t 28], none⟩,
        ⟨(some 30), (.p .mov), [.c (.int .i64 0)], none⟩])
      train_Join_L0)
     (.seq
      (.ops [
        ⟨(some 43), (.p .mov), [.t 5], none⟩,
        ⟨(some 4), (.p .mov), [.t 43], none⟩])
      (.ret [4]))))))
def train_Join_I : FInfo := ⟨(.fz false), 2, train_Join_C, [.tmp 4]⟩
def train_Join_A : Ann := ⟨[], [], [(0, [5, 28, 29, 30], [5])], [(1, [5, 28, 29, 30])], []⟩
abbrev n_train_Join : Nat := 54

/-! ### balise/baliseref04.Make -/
def r04_Make_B1 : CCode :=
 (.seq
  (.seq
   (.ops [
     ⟨(some 67), (.p .mov), [.t 9], none⟩,
     ⟨(some 68), (.p .mov), [.t 8], none⟩,
     ⟨(some 69), (.p (.bin .leq .ifc)), [.t 67, .t 68], none⟩])
   (.cond (.t 69)
    .skip
    (.exit 1)))
  (.seq
   (.block 2 (some [1, 2, 3, 6, 7, 8, 9])
    (.ops [
      ⟨(some 72), (.p (.faddr 0)), [.t 6], none⟩,
      ⟨(some 73), (.h (.load false 1)), [.t 72], none⟩,
      ⟨(some 74), (.p .mov), [.t 3], none⟩,
      ⟨(some 75), (.p .mov), [.t 9], none⟩,
      ⟨(some 76), (.p (.bin .mul .ifc)), [.t 74, .t 75], none⟩,
      ⟨(some 77), (.p (.toFloat .f64)), [.t 76], none⟩,
      ⟨(some 78), (.p .cplx), [.t 77, .c (.float .f64 0)], none⟩,
      ⟨(some 79), (.h (.bslF 1 1 [(.cplx .f64 0 0)] [(0, 1)])), [.t 78], none⟩,
      ⟨(some 80), (.h (.app 1 16 [(.cplx .f64 0 0)])), [.t 73, .t 79], none⟩,
      ⟨(some 81), (.p (.faddr 0)), [.t 6], none⟩,
      ⟨none, (.h (.store 1)), [.t 81, .t 80], none⟩]))
   (.ops [
     ⟨(some 70), (.p .mov), [.t 9], none⟩,
     ⟨(some 71), (.p (.bin .add .ifc)), [.t 70, .c (.int .i64 1)], none⟩,
     ⟨(some 9), (.p .mov), [.t 71], none⟩])))
def r04_Make_L1 : CCode := .bloop 1 [1, 2, 3, 6, 7, 8, 9] [1, 2, 3, 6, 7, 8] r04_Make_B1

def r04_Make_B3 : CCode :=
 (.seq
  (.seq
   (.ops [
     ⟨(some 82), (.p .mov), [.t 10], none⟩,
     ⟨(some 83), (.p .mov), [.t 8], none⟩,
     ⟨(some 84), (.p (.bin .lss .ifc)), [.t 82, .t 83], none⟩])
   (.cond (.t 84)
    .skip
    (.exit 3)))
  (.seq
   (.block 4 (some [1, 2, 3, 6, 7, 8, 10])
    (.ops [
      ⟨(some 87), (.p .mov), [.t 7], none⟩,
      ⟨(some 88), (.p .mov), [.t 10], none⟩,
      ⟨(some 89), (.p .mov), [.t 10], none⟩,
      ⟨(some 90), (.p (.bin .add .ifc)), [.t 89, .c (.int .i64 1)], none⟩,
      ⟨(some 91), (.p (.bld [(.int .i64 0), (.int .i64 0)] [(0, 1), (1, 1)])), [.t 88, .t 90], none⟩,
      ⟨(some 92), (.h (.bslF 2 1 [(.int .i64 0), (.int .i64 0)] [(0, 2)])), [.t 91], none⟩,
      ⟨(some 93), (.h (.app 2 16 [(.int .i64 0), (.int .i64 0)])), [.t 87, .t 92], none⟩,
      ⟨(some 7), (.p .mov), [.t 93], none⟩]))
   (.ops [
     ⟨(some 85), (.p .mov), [.t 10], none⟩,
     ⟨(some 86), (.p (.bin .add .ifc)), [.t 85, .c (.int .i64 1)], none⟩,
     ⟨(some 10), (.p .mov), [.t 86], none⟩])))
def r04_Make_L3 : CCode := .bloop 3 [1, 2, 3, 6, 7, 8, 10] [1, 2, 3, 6, 7] r04_Make_B3

def r04_Make_B5 : CCode :=
 (.seq
  (.seq
   (.ops [
     ⟨(some 150), (.p .mov), [.t 11], none⟩,
     ⟨(some 151), (.p .mov), [.t 7], none⟩,
     ⟨(some 152), (.p .len), [.t 151], none⟩,
     ⟨(some 153), (.p (.bin .lss .ifc)), [.t 150, .t 152], none⟩])
   (.cond (.t 153)
    .skip
    (.exit 5)))
  (.seq
   (.block 6 (some [1, 2, 3, 6, 7, 11])
    (.ops [
      ⟨(some 156), (.p (.faddr 1)), [.t 6], none⟩,
      ⟨(some 157), (.h (.load false 1)), [.t 156], none⟩,
      ⟨(some 158), (.p .mov), [.t 3], none⟩,
      ⟨(some 159), (.p (.bin .mul .ifc)), [.c (.int .i64 2), .t 158], none⟩,
      ⟨(some 160), (.p .mov), [.t 11], none⟩,
      ⟨(some 161), (.p (.bin .rem .ifc)), [.t 160, .c (.int .i64 3)], none⟩,
      ⟨(some 162), (.p (.bin .add .ifc)), [.t 159, .t 161], none⟩,
      ⟨(some 163), (.p .mov), [.t 7], none⟩,
      ⟨(some 164), (.p .mov), [.t 11], none⟩,
      ⟨(some 165), (.p (.iaddr 2)), [.t 163, .t 164], none⟩,
      ⟨(some 166), (.p (.iaddrA 2 1)), [.t 165, .c (.int .i64 0)], none⟩,
      ⟨(some 167), (.h (.load false 1)), [.t 166], none⟩,
      ⟨(some 168), (.p .mov), [.t 7], none⟩,
      ⟨(some 169), (.p .mov), [.t 11], none⟩,
      ⟨(some 170), (.p (.iaddr 2)), [.t 168, .t 169], none⟩,
      ⟨(some 171), (.p (.iaddrA 2 1)), [.t 170, .c (.int .i64 1)], none⟩,
      ⟨(some 172), (.h (.load false 1)), [.t 171], none⟩,
      ⟨(some 173), (.p (.bld [(.int .i64 0), (.int .i64 0), (.int .i64 0)] [(0, 1), (1, 1), (2, 1)])), [.t 162, .t 167, .t 172], none⟩,
      ⟨(some 174), (.h (.bslF 3 1 [(.int .i64 0), (.int .i64 0), (.int .i64 0)] [(0, 3)])), [.t 173], none⟩,
      ⟨(some 175), (.h (.app 3 24 [(.int .i64 0), (.int .i64 0), (.int .i64 0)])), [.t 157, .t 174], none⟩,
      ⟨(some 176), (.p (.faddr 1)), [.t 6], none⟩,
      ⟨none, (.h (.store 1)), [.t 176, .t 175], none⟩]))
   (.ops [
     ⟨(some 154), (.p .mov), [.t 11], none⟩,
     ⟨(some 155), (.p (.bin .add .ifc)), [.t 154, .c (.int .i64 1)], none⟩,
     ⟨(some 11), (.p .mov), [.t 155], none⟩])))
def r04_Make_L5 : CCode := .bloop 5 [1, 2, 3, 6, 7, 11] [1, 2, 3, 6, 7] r04_Make_B5

def r04_Make_B7 : CCode :=
 (.seq
  (.seq
   (.ops [
     ⟨(some 177), (.p .mov), [.t 12], none⟩,
     ⟨(some 178), (.p .mov), [.t 7], none⟩,
     ⟨(some 179), (.p .len), [.t 178], none⟩,
     ⟨(some 180), (.p (.bin .lss .ifc)), [.t 177, .t 179], none⟩])
   (.cond (.t 180)
    .skip
    (.exit 7)))
  (.seq
   (.block 8 (some [1, 2, 3, 6, 7, 12])
    (.seq
     (.ops [
       ⟨(some 183), (.p .mov), [.t 12], none⟩,
       ⟨(some 184), (.p (.bin .gtr .ifc)), [.t 183, .c (.int .i64 0)], none⟩,
       ⟨(some 185), (.p .mov), [.t 184], none⟩,
       ⟨(some 186), (.p (.faddr 7)), [.t 1], (some (185, true))⟩,
       ⟨(some 187), (.h (.load false 1)), [.t 186], (some (185, true))⟩,
       ⟨(some 188), (.p .mov), [.t 12], (some (185, true))⟩,
       ⟨(some 189), (.p (.bin .rem .ifc)), [.t 188, .c (.int .i64 8)], (some (185, true))⟩,
       ⟨(some 190), (.p (.bin .shr .ifc)), [.t 187, .t 189], (some (185, true))⟩,
       ⟨(some 191), (.p (.bin .rem .ifc)), [.t 190, .c (.int .u8 2)], (some (185, true))⟩,
       ⟨(some 192), (.p (.bin .eql .int)), [.t 191, .c (.int .u8 1)], (some (185, true))⟩,
       ⟨(some 193), (.p .pick), [.t 185, .t 192, .c (.bool false)], none⟩])
     (.cond (.t 193)
      (.ops [
        ⟨(some 194), (.p (.faddr 2)), [.t 6], none⟩,
        ⟨(some 195), (.hl 6 (.load false 1)), [.t 194], none⟩,
        ⟨(some 196), (.p (.faddr 2)), [.t 6], none⟩,
        ⟨(some 197), (.hl 6 (.load false 1)), [.t 196], none⟩,
        ⟨(some 198), (.p .len), [.t 197], none⟩,
        ⟨(some 199), (.p (.bin .sub .ifc)), [.t 198, .c (.int .i64 1)], none⟩,
        ⟨(some 200), (.p (.faddr 2)), [.t 6], none⟩,
        ⟨(some 201), (.hl 6 (.load false 1)), [.t 200], none⟩,
        ⟨(some 202), (.p (.faddr 2)), [.t 6], none⟩,
        ⟨(some 203), (.hl 6 (.load false 1)), [.t 202], none⟩,
        ⟨(some 204), (.p .len), [.t 203], none⟩,
        ⟨(some 205), (.p (.bin .sub .ifc)), [.t 204, .c (.int .i64 1)], none⟩,
        ⟨(some 206), (.p (.iaddr 1)), [.t 201, .t 205], none⟩,
        ⟨(some 207), (.hb (.load false 1)), [.t 206], none⟩,
        ⟨(some 208), (.p .mov), [.t 12], none⟩,
        ⟨(some 209), (.h (.bslF 1 1 [(.int .i64 0)] [(0, 1)])), [.t 208], none⟩,
        ⟨(some 210), (.hb (.app 1 8 [(.int .i64 0)])), [.t 207, .t 209], none⟩,
        ⟨(some 211), (.p (.iaddr 1)), [.t 195, .t 199], none⟩,
        ⟨none, (.hb (.store 1)), [.t 211, .t 210], none⟩])
      (.ops [
        ⟨(some 212), (.p (.faddr 2)), [.t 6], none⟩,
        ⟨(some 213), (.h (.load false 1)), [.t 212], none⟩,
        ⟨(some 214), (.p .mov), [.t 12], none⟩,
        ⟨(some 215), (.h (.bslO 1 1 [(.int .i64 0)] [(0, 1)])), [.t 214], none⟩,
        ⟨(some 216), (.h (.bslO 1 1 [.nils] [(0, 1)])), [.t 215], none⟩,
        ⟨(some 217), (.h (.app 1 24 [.nils])), [.t 213, .t 216], none⟩,
        ⟨(some 218), (.p (.faddr 2)), [.t 6], none⟩,
        ⟨none, (.h (.store 1)), [.t 218, .t 217], none⟩]))))
   (.ops [
     ⟨(some 181), (.p .mov), [.t 12], none⟩,
     ⟨(some 182), (.p (.bin .add .ifc)), [.t 181, .c (.int .i64 1)], none⟩,
     ⟨(some 12), (.p .mov), [.t 182], none⟩])))
def r04_Make_L7 : CCode := .bloop 7 [1, 2, 3, 6, 7, 12] [1, 2, 3, 6] r04_Make_B7
def r04_Make_C : CCode :=
 (.seq
  (.ops [
    ⟨(some 1), (.h (.box 1)), [.t 0], none⟩,
    ⟨(some 2), (.h (.newl 2 [.nils, .nils, .nils, .nils, .nils, (.int .i64 0), (.int .i64 0), (.int .i64 0), (.int .i64 0), (.int .i64 0)])), [], none⟩])
  (.seq
   (.ops [
     ⟨(some 13), (.p (.faddr 1)), [.t 1], none⟩,
     ⟨(some 14), (.h (.load false 1)), [.t 13], none⟩,
     ⟨(some 15), (.p (.bin .rem .ifc)), [.t 14, .c (.int .u8 20)], none⟩,
     ⟨(some 16), (.p (.toInt .i64)), [.t 15], none⟩,
     ⟨(some 17), (.p (.bin .add .ifc)), [.c (.int .i64 1), .t 16], none⟩,
     ⟨(some 18), (.p (.bin .mul .ifc)), [.c (.int .i64 10), .t 17], none⟩,
     ⟨(some 3), (.p .mov), [.t 18], none⟩])
   (.seq
    (.ops [
      ⟨(some 19), (.p .mov), [.t 3], none⟩,
      ⟨(some 20), (.p (.toFloat .f64)), [.t 19], none⟩,
      ⟨(some 21), (.p .cplx), [.t 20, .c (.float .f64 0)], none⟩,
      ⟨(some 4), (.p .mov), [.t 21], none⟩])
    (.seq
     (.ops [
       ⟨(some 22), (.p .mov), [.t 3], none⟩,
       ⟨(some 23), (.p (.toFloat .f64)), [.t 22], none⟩,
       ⟨(some 24), (.p .cplx), [.c (.float .f64 0), .t 23], none⟩,
       ⟨(some 5), (.p .mov), [.t 24], none⟩])
     (.seq
      (.ops [
        ⟨(some 6), (.h (.newl 6 [.nils, .nils, .nils, .nils, .nils, (.int .i64 0), (.int .i64 0), (.int .i64 0), (.int .i64 0), (.int .i64 0)])), [], none⟩])
      (.seq
       (.ops [
         ⟨(some 7), (.p .mov), [.c .nils], none⟩])
       (.seq
        (.seq
         (.ops [
           ⟨(some 25), (.p (.faddr 0)), [.t 1], none⟩,
           ⟨(some 26), (.h (.load false 1)), [.t 25], none⟩,
           ⟨(some 27), (.p (.bin .rem .ifc)), [.t 26, .c (.int .u8 4)], none⟩])
         (.block 0 (some [1, 2, 3, 6, 7])
          (.seq
           (.ops [
             ⟨(some 60), (.p (.bin .eql .int)), [.t 27, .c (.int .u8 0)], none⟩,
             ⟨(some 59), (.p .mov), [.t 60], none⟩])
           (.cond (.t 59)
            (.seq
             (.ops [
               ⟨(some 61), (.p (.faddr 0)), [.t 1], none⟩,
               ⟨(some 62), (.h (.load false 1)), [.t 61], none⟩,
               ⟨(some 63), (.p (.bin .quo .ifc)), [.t 62, .c (.int .u8 4)], none⟩,
               ⟨(some 64), (.p (.bin .rem .ifc)), [.t 63, .c (.int .u8 6)], none⟩,
               ⟨(some 65), (.p (.toInt .i64)), [.t 64], none⟩,
               ⟨(some 66), (.p (.bin .add .ifc)), [.c (.int .i64 3), .t 65], none⟩,
               ⟨(some 8), (.p .mov), [.t 66], none⟩])
             (.seq
              (.seq
               (.ops [
                 ⟨(some 9), (.p .mov), [.c (.int .i64 0)], none⟩])
               r04_Make_L1)
              (.seq
               (.ops [
                 ⟨(some 10), (.p .mov), [.c (.int .i64 0)], none⟩])
               r04_Make_L3)))
            (.seq
             (.ops [
               ⟨(some 95), (.p (.bin .eql .int)), [.t 27, .c (.int .u8 1)], none⟩,
               ⟨(some 94), (.p .mov), [.t 95], none⟩])
             (.cond (.t 94)
              (.seq
               (.ops [
                 ⟨(some 96), (.p .mov), [.t 4], none⟩,
                 ⟨(some 97), (.p .mov), [.t 4], none⟩,
                 ⟨(some 98), (.p (.bin .mul .ifc)), [.c (.cplx .f64 4611686018427387904 0), .t 97], none⟩,
                 ⟨(some 99), (.p .mov), [.t 5], none⟩,
                 ⟨(some 100), (.p (.bin .add .ifc)), [.t 98, .t 99], none⟩,
                 ⟨(some 101), (.p .mov), [.t 4], none⟩,
                 ⟨(some 102), (.p (.bin .mul .ifc)), [.c (.cplx .f64 4611686018427387904 0), .t 101], none⟩,
                 ⟨(some 103), (.p .mov), [.t 5], none⟩,
                 ⟨(some 104), (.p (.bin .sub .ifc)), [.t 102, .t 103], none⟩,
                 ⟨(some 105), (.h (.bslF 1 4 [(.cplx .f64 0 0)] [(0, 1), (1, 1), (2, 1), (3, 1)])), [.c (.cplx .f64 0 0), .t 96, .t 100, .t 104], none⟩,
                 ⟨(some 106), (.p (.faddr 0)), [.t 6], none⟩,
                 ⟨none, (.h (.store 1)), [.t 106, .t 105], none⟩])
               (.seq
                (.ops [
                  ⟨(some 107), (.p (.bld [(.int .i64 0), (.int .i64 0)] [(0, 1), (1, 1)])), [.c (.int .i64 0), .c (.int .i64 1)], none⟩,
                  ⟨(some 108), (.p (.bld [(.int .i64 0), (.int .i64 0)] [(0, 1), (1, 1)])), [.c (.int .i64 1), .c (.int .i64 2)], none⟩,
                  ⟨(some 109), (.p (.bld [(.int .i64 0), (.int .i64 0)] [(0, 1), (1, 1)])), [.c (.int .i64 3), .c (.int .i64 1)], none⟩,
                  ⟨(some 110), (.h (.bslO 2 3 [(.int .i64 0), (.int .i64 0)] [(0, 2), (2, 2), (4, 2)])), [.t 107, .t 108, .t 109], none⟩,
                  ⟨(some 7), (.p .mov), [.t 110], none⟩])
                (.ops [
                  ⟨(some 111), (.p (.bld [(.int .i64 0), (.int .i64 0), (.int .i64 0), (.int .i64 0)] [(0, 1), (1, 1), (2, 1), (3, 1)])), [.c (.int .i64 1), .c (.int .i64 0), .c (.int .i64 1), .c (.int .i64 2)], none⟩,
                  ⟨(some 112), (.h (.bslF 4 1 [(.int .i64 0), (.int .i64 0), (.int .i64 0), (.int .i64 0)] [(0, 4)])), [.t 111], none⟩,
                  ⟨(some 113), (.p (.faddr 3)), [.t 6], none⟩,
                  ⟨none, (.h (.store 1)), [.t 113, .t 112], none⟩])))
              (.seq
               (.ops [
                 ⟨(some 115), (.p (.bin .eql .int)), [.t 27, .c (.int .u8 2)], none⟩,
                 ⟨(some 114), (.p .mov), [.t 115], none⟩])
               (.cond (.t 114)
                (.seq
                 (.ops [
                   ⟨(some 116), (.p .mov), [.t 4], none⟩,
                   ⟨(some 117), (.p .mov), [.t 4], none⟩,
                   ⟨(some 118), (.p (.bin .mul .ifc)), [.c (.cplx .f64 4611686018427387904 0), .t 117], none⟩,
                   ⟨(some 119), (.p .mov), [.t 4], none⟩,
                   ⟨(some 120), (.p (.bin .mul .ifc)), [.c (.cplx .f64 4613937818241073152 0), .t 119], none⟩,
                   ⟨(some 121), (.p .mov), [.t 5], none⟩,
                   ⟨(some 122), (.p (.bin .quo .ifc)), [.t 121, .c (.cplx .f64 4611686018427387904 0)], none⟩,
                   ⟨(some 123), (.p (.bin .add .ifc)), [.t 120, .t 122], none⟩,
                   ⟨(some 124), (.p .mov), [.t 4], none⟩,
                   ⟨(some 125), (.p (.bin .mul .ifc)), [.c (.cplx .f64 4613937818241073152 0), .t 124], none⟩,
                   ⟨(some 126), (.p .mov), [.t 5], none⟩,
                   ⟨(some 127), (.p (.bin .quo .ifc)), [.t 126, .c (.cplx .f64 4611686018427387904 0)], none⟩,
                   ⟨(some 128), (.p (.bin .sub .ifc)), [.t 125, .t 127], none⟩,
                   ⟨(some 129), (.p .mov), [.t 4], none⟩,
                   ⟨(some 130), (.p (.bin .mul .ifc)), [.c (.cplx .f64 4616189618054758400 0), .t 129], none⟩,
                   ⟨(some 131), (.p .mov), [.t 4], none⟩,
                   ⟨(some 132), (.p (.bin .mul .ifc)), [.c (.cplx .f64 4617315517961601024 0), .t 131], none⟩,
                   ⟨(some 133), (.p .mov), [.t 4], none⟩,
                   ⟨(some 134), (.p (.bin .mul .ifc)), [.c (.cplx .f64 4618441417868443648 0), .t 133], none⟩,
                   ⟨(some 135), (.h (.bslF 1 8 [(.cplx .f64 0 0)] [(0, 1), (1, 1), (2, 1), (3, 1), (4, 1), (5, 1), (6, 1), (7, 1)])), [.c (.cplx .f64 0 0), .t 116, .t 118, .t 123, .t 128, .t 130, .t 132, .t 134], none⟩,
                   ⟨(some 136), (.p (.faddr 0)), [.t 6], none⟩,
                   ⟨none, (.h (.store 1)), [.t 136, .t 135], none⟩])
                 (.seq
                  (.ops [
                    ⟨(some 137), (.p (.bld [(.int .i64 0), (.int .i64 0)] [(0, 1), (1, 1)])), [.c (.int .i64 0), .c (.int .i64 1)], none⟩,
                    ⟨(some 138), (.p (.bld [(.int .i64 0), (.int .i64 0)] [(0, 1), (1, 1)])), [.c (.int .i64 1), .c (.int .i64 2)], none⟩,
                    ⟨(some 139), (.p (.bld [(.int .i64 0), (.int .i64 0)] [(0, 1), (1, 1)])), [.c (.int .i64 2), .c (.int .i64 3)], none⟩,
                    ⟨(some 140), (.p (.bld [(.int .i64 0), (.int .i64 0)] [(0, 1), (1, 1)])), [.c (.int .i64 2), .c (.int .i64 4)], none⟩,
                    ⟨(some 141), (.p (.bld [(.int .i64 0), (.int .i64 0)] [(0, 1), (1, 1)])), [.c (.int .i64 5), .c (.int .i64 3)], none⟩,
                    ⟨(some 142), (.p (.bld [(.int .i64 0), (.int .i64 0)] [(0, 1), (1, 1)])), [.c (.int .i64 4), .c (.int .i64 5)], none⟩,
                    ⟨(some 143), (.p (.bld [(.int .i64 0), (.int .i64 0)] [(0, 1), (1, 1)])), [.c (.int .i64 5), .c (.int .i64 6)], none⟩,
                    ⟨(some 144), (.p (.bld [(.int .i64 0), (.int .i64 0)] [(0, 1), (1, 1)])), [.c (.int .i64 6), .c (.int .i64 7)], none⟩,
                    ⟨(some 145), (.h (.bslO 2 8 [(.int .i64 0), (.int .i64 0)] [(0, 2), (2, 2), (4, 2), (6, 2), (8, 2), (10, 2), (12, 2), (14, 2)])), [.t 137, .t 138, .t 139, .t 140, .t 141, .t 142, .t 143, .t 144], none⟩,
                    ⟨(some 7), (.p .mov), [.t 145], none⟩])
                  (.ops [
                    ⟨(some 146), (.p (.bld [(.int .i64 0), (.int .i64 0), (.int .i64 0), (.int .i64 0)] [(0, 1), (1, 1), (2, 1), (3, 1)])), [.c (.int .i64 2), .c (.int .i64 1), .c (.int .i64 2), .c (.int .i64 3)], none⟩,
                    ⟨(some 147), (.p (.bld [(.int .i64 0), (.int .i64 0), (.int .i64 0), (.int .i64 0)] [(0, 1), (1, 1), (2, 1), (3, 1)])), [.c (.int .i64 5), .c (.int .i64 6), .c (.int .i64 4), .c (.int .i64 5)], none⟩,
                    ⟨(some 148), (.h (.bslF 4 2 [(.int .i64 0), (.int .i64 0), (.int .i64 0), (.int .i64 0)] [(0, 4), (4, 4)])), [.t 146, .t 147], none⟩,
                    ⟨(some 149), (.p (.faddr 3)), [.t 6], none⟩,
                    ⟨none, (.h (.store 1)), [.t 149, .t 148], none⟩])))
                (.seq
                 (.ops [
                   ⟨(some 28), (.p .mov), [.t 4], none⟩,
                   ⟨(some 29), (.p .mov), [.t 4], none⟩,
                   ⟨(some 30), (.p (.bin .mul .ifc)), [.c (.cplx .f64 4611686018427387904 0), .t 29], none⟩,
                   ⟨(some 31), (.p .mov), [.t 4], none⟩,
                   ⟨(some 32), (.p (.bin .mul .ifc)), [.c (.cplx .f64 4613937818241073152 0), .t 31], none⟩,
                   ⟨(some 33), (.p .mov), [.t 5], none⟩,
                   ⟨(some 34), (.p (.bin .add .ifc)), [.t 32, .t 33], none⟩,
                   ⟨(some 35), (.p .mov), [.t 4], none⟩,
                   ⟨(some 36), (.p (.bin .mul .ifc)), [.c (.cplx .f64 4613937818241073152 0), .t 35], none⟩,
                   ⟨(some 37), (.p .mov), [.t 5], none⟩,
                   ⟨(some 38), (.p (.bin .sub .ifc)), [.t 36, .t 37], none⟩,
                   ⟨(some 39), (.p .mov), [.t 4], none⟩,
                   ⟨(some 40), (.p (.bin .mul .ifc)), [.c (.cplx .f64 4616189618054758400 0), .t 39], none⟩,
                   ⟨(some 41), (.p .mov), [.t 5], none⟩,
                   ⟨(some 42), (.p (.bin .add .ifc)), [.t 40, .t 41], none⟩,
                   ⟨(some 43), (.p .mov), [.t 4], none⟩,
                   ⟨(some 44), (.p (.bin .mul .ifc)), [.c (.cplx .f64 4616189618054758400 0), .t 43], none⟩,
                   ⟨(some 45), (.p .mov), [.t 5], none⟩,
                   ⟨(some 46), (.p (.bin .sub .ifc)), [.t 44, .t 45], none⟩,
                   ⟨(some 47), (.h (.bslF 1 7 [(.cplx .f64 0 0)] [(0, 1), (1, 1), (2, 1), (3, 1), (4, 1), (5, 1), (6, 1)])), [.c (.cplx .f64 0 0), .t 28, .t 30, .t 34, .t 38, .t 42, .t 46], none⟩,
                   ⟨(some 48), (.p (.faddr 0)), [.t 6], none⟩,
                   ⟨none, (.h (.store 1)), [.t 48, .t 47], none⟩])
                 (.seq
                  (.ops [
                    ⟨(some 49), (.p (.bld [(.int .i64 0), (.int .i64 0)] [(0, 1), (1, 1)])), [.c (.int .i64 0), .c (.int .i64 1)], none⟩,
                    ⟨(some 50), (.p (.bld [(.int .i64 0), (.int .i64 0)] [(0, 1), (1, 1)])), [.c (.int .i64 2), .c (.int .i64 1)], none⟩,
                    ⟨(some 51), (.p (.bld [(.int .i64 0), (.int .i64 0)] [(0, 1), (1, 1)])), [.c (.int .i64 2), .c (.int .i64 3)], none⟩,
                    ⟨(some 52), (.p (.bld [(.int .i64 0), (.int .i64 0)] [(0, 1), (1, 1)])), [.c (.int .i64 2), .c (.int .i64 4)], none⟩,
                    ⟨(some 53), (.p (.bld [(.int .i64 0), (.int .i64 0)] [(0, 1), (1, 1)])), [.c (.int .i64 3), .c (.int .i64 5)], none⟩,
                    ⟨(some 54), (.p (.bld [(.int .i64 0), (.int .i64 0)] [(0, 1), (1, 1)])), [.c (.int .i64 4), .c (.int .i64 6)], none⟩,
                    ⟨(some 55), (.h (.bslO 2 6 [(.int .i64 0), (.int .i64 0)] [(0, 2), (2, 2), (4, 2), (6, 2), (8, 2), (10, 2)])), [.t 49, .t 50, .t 51, .t 52, .t 53, .t 54], none⟩,
                    ⟨(some 7), (.p .mov), [.t 55], none⟩])
                  (.ops [
                    ⟨(some 56), (.p (.bld [(.int .i64 0), (.int .i64 0), (.int .i64 0), (.int .i64 0)] [(0, 1), (1, 1), (2, 1), (3, 1)])), [.c (.int .i64 2), .c (.int .i64 1), .c (.int .i64 3), .c (.int .i64 2)], none⟩,
                    ⟨(some 57), (.h (.bslF 4 1 [(.int .i64 0), (.int .i64 0), (.int .i64 0), (.int .i64 0)] [(0, 4)])), [.t 56], none⟩,
                    ⟨(some 58), (.p (.faddr 3)), [.t 6], none⟩,
                    ⟨none, (.h (.store 1)), [.t 58, .t 57], none⟩])))))))))))
        (.seq
         (.seq
          (.ops [
            ⟨(some 11), (.p .mov), [.c (.int .i64 0)], none⟩])
          r04_Make_L5)
         (.seq
          (.seq
           (.ops [
             ⟨(some 12), (.p .mov), [.c (.int .i64 0)], none⟩])
           r04_Make_L7)
          (.seq
           (.ops [
             ⟨(some 219), (.p (.faddr 2)), [.t 1], none⟩,
             ⟨(some 220), (.h (.load false 1)), [.t 219], none⟩,
             ⟨(some 221), (.p (.toInt .i64)), [.t 220], none⟩,
             ⟨(some 222), (.p .mov), [.t 3], none⟩,
             ⟨(some 223), (.p (.bin .mul .ifc)), [.c (.int .i64 2), .t 222], none⟩,
             ⟨(some 224), (.p (.bin .rem .ifc)), [.t 221, .t 223], none⟩,
             ⟨(some 225), (.p (.bin .add .ifc)), [.c (.int .i64 1), .t 224], none⟩,
             ⟨(some 226), (.p (.faddr 5)), [.t 6], none⟩,
             ⟨none, (.h (.store 1)), [.t 226, .t 225], none⟩])
           (.seq
            (.ops [
              ⟨(some 227), (.p (.faddr 3)), [.t 1], none⟩,
              ⟨(some 228), (.hl 1 (.load false 1)), [.t 227], none⟩,
              ⟨(some 229), (.p (.bin .rem .ifc)), [.t 228, .c (.int .u16 1000)], none⟩,
              ⟨(some 230), (.p (.toInt .i64)), [.t 229], none⟩,
              ⟨(some 231), (.p (.bin .add .ifc)), [.c (.int .i64 1), .t 230], none⟩,
              ⟨(some 232), (.p (.faddr 4)), [.t 1], none⟩,
              ⟨(some 233), (.hl 1 (.load false 1)), [.t 232], none⟩,
              ⟨(some 234), (.p (.bin .rem .ifc)), [.t 233, .c (.int .u16 1000)], none⟩,
              ⟨(some 235), (.p (.toInt .i64)), [.t 234], none⟩,
              ⟨(some 236), (.p (.bin .add .ifc)), [.c (.int .i64 1), .t 235], none⟩,
              ⟨(some 237), (.p (.faddr 5)), [.t 1], none⟩,
              ⟨(some 238), (.hl 1 (.load false 1)), [.t 237], none⟩,
              ⟨(some 239), (.p (.toInt .i64)), [.t 238], none⟩,
              ⟨(some 240), (.p (.bin .add .ifc)), [.c (.int .i64 1), .t 239], none⟩,
              ⟨(some 241), (.p (.faddr 6)), [.t 1], none⟩,
              ⟨(some 242), (.hl 1 (.load false 1)), [.t 241], none⟩,
              ⟨(some 243), (.p (.bin .rem .ifc)), [.t 242, .c (.int .u8 4)], none⟩,
              ⟨(some 244), (.p (.toInt .i64)), [.t 243], none⟩,
              ⟨(some 245), (.p (.faddr 6)), [.t 6], none⟩,
              ⟨none, (.hl 6 (.store 1)), [.t 245, .t 231], none⟩,
              ⟨(some 246), (.p (.faddr 7)), [.t 6], none⟩,
              ⟨none, (.hl 6 (.store 1)), [.t 246, .t 236], none⟩,
              ⟨(some 247), (.p (.faddr 8)), [.t 6], none⟩,
              ⟨none, (.hl 6 (.store 1)), [.t 247, .t 240], none⟩,
              ⟨(some 248), (.p (.faddr 9)), [.t 6], none⟩,
              ⟨none, (.hl 6 (.store 1)), [.t 248, .t 244], none⟩])
            (.seq
             (.ops [
               ⟨(some 249), (.h (.load true 10)), [.t 6], none⟩,
               ⟨none, (.h (.store 10)), [.t 2, .t 249], none⟩])
             (.ret [2])))))))))))))
def r04_Make_I : FInfo := ⟨(.fz true), 1, r04_Make_C, [.cell 2 true 10]⟩
def r04_Make_A : Ann := ⟨[], [55, 110, 145, 215, 216], [(1, [1, 2, 3, 6, 7, 8, 9], [1, 2, 3, 6, 7, 8]), (3, [1, 2, 3, 6, 7, 8, 10], [1, 2, 3, 6, 7]), (5, [1, 2, 3, 6, 7, 11], [1, 2, 3, 6, 7]), (7, [1, 2, 3, 6, 7, 12], [1, 2, 3, 6])], [(0, [1, 2, 3, 6, 7]), (2, [1, 2, 3, 6, 7, 8, 9]), (4, [1, 2, 3, 6, 7, 8, 10]), (6, [1, 2, 3, 6, 7, 11]), (8, [1, 2, 3, 6, 7, 12])], [1, 2, 6]⟩
abbrev n_r04_Make : Nat := 55

/-! ### balise/baliseref05.Len -/
def r05_Len_C : CCode :=
 (.seq
  (.ops [
    ⟨(some 2), (.h (.box 2)), [.t 0], none⟩,
    ⟨(some 4), (.p .mov), [.c (.int .i64 0)], none⟩])
  (.seq
   (.seq
    (.ops [
      ⟨(some 5), (.p .mov), [.t 1], none⟩,
      ⟨(some 6), (.p (.bin .lss .ifc)), [.t 5, .c (.int .i64 0)], none⟩,
      ⟨(some 7), (.p .mov), [.t 6], none⟩,
      ⟨(some 8), (.p .mov), [.t 1], (some (7, false))⟩,
      ⟨(some 9), (.p (.faddr 1)), [.t 2], (some (7, false))⟩,
      ⟨(some 10), (.h (.load false 1)), [.t 9], (some (7, false))⟩,
      ⟨(some 11), (.p .len), [.t 10], (some (7, false))⟩,
      ⟨(some 12), (.p (.bin .geq .ifc)), [.t 8, .t 11], (some (7, false))⟩,
      ⟨(some 13), (.p .pick), [.t 7, .c (.bool true), .t 12], none⟩])
    (.cond (.t 13)
     (.seq
      (.ops [
        ⟨(some 4), (.p .mov), [.c (.int .i64 0)], none⟩])
      (.ret [4]))
     .skip))
   (.seq
    (.ops [
      ⟨(some 14), (.p (.faddr 1)), [.t 2], none⟩,
      ⟨(some 15), (.h (.load false 1)), [.t 14], none⟩,
      ⟨(some 16), (.p .mov), [.t 1], none⟩,
      ⟨(some 17), (.p (.iaddr 3)), [.t 15, .t 16], none⟩,
      ⟨(some 18), (.p (.faddr 0)), [.t 17], none⟩,
      ⟨(some 19), (.h (.load false 1)), [.t 18], none⟩,
      ⟨(some 4), (.p .mov), [.t 19], none⟩])
    (.ret [4]))))
def r05_Len_I : FInfo := ⟨(.fz false), 2, r05_Len_C, [.tmp 4]⟩
def r05_Len_A : Ann := ⟨[], [], [], [], [2]⟩
abbrev n_r05_Len : Nat := 56

/-! ### balise/train.unlike -/
def train_unlike_B0 : CCode :=
 (.seq
  (.ops [
    ⟨(some 10), (.p (.bin .lss .ifc)), [.t 9, .t 8], none⟩])
  (.seq
   (.cond (.t 10)
    .skip
    (.exit 0))
   (.seq
    (.block 1 (some [0, 1, 7, 8, 9])
     (.seq
      (.ops [
        ⟨(some 11), (.p .mov), [.t 9], none⟩,
        ⟨(some 12), (.p (.iaddr 1)), [.t 7, .t 9], none⟩,
        ⟨(some 13), (.h (.load false 1)), [.t 12], none⟩,
        ⟨(some 5), (.p .mov), [.t 11], none⟩,
        ⟨(some 6), (.p .mov), [.t 13], none⟩])
      (.seq
       (.ops [
         ⟨(some 14), (.p .mov), [.t 0], none⟩,
         ⟨(some 15), (.p .mov), [.t 6], none⟩,
         ⟨(some 16), .call, [.c (.fn (.func 47) [] []), .t 14, .t 15], none⟩,
         ⟨(some 17), (.p (.bin .eql .int)), [.t 16, .c (.int .i64 0)], none⟩,
         ⟨(some 18), (.p .mov), [.t 17], none⟩,
         ⟨(some 19), (.p .mov), [.t 1], (some (18, false))⟩,
         ⟨(some 20), (.p .mov), [.t 5], (some (18, false))⟩,
         ⟨(some 21), (.p (.slc 1 false true)), [.t 19, .t 20], (some (18, false))⟩,
         ⟨(some 22), (.p .mov), [.t 6], (some (18, false))⟩,
         ⟨(some 23), .call, [.c (.fn (.func 86) [] []), .t 21, .t 22], (some (18, false))⟩,
         ⟨(some 24), (.p .pick), [.t 18, .c (.bool true), .t 23], none⟩])
       (.cond (.t 24)
        (.seq
         (.ops [
           ⟨(some 4), (.p .mov), [.c (.bool false)], none⟩])
         (.ret [4]))
        .skip))))
    (.ops [
      ⟨(some 25), (.p (.bin .add .ifc)), [.t 9, .c (.int .i64 1)], none⟩,
      ⟨(some 9), (.p .mov), [.t 25], none⟩]))))
def train_unlike_L0 : CCode := .bloop 0 [0, 1, 7, 8, 9] [] train_unlike_B0
def train_unlike_C : CCode :=
 (.seq
  (.ops [
    ⟨(some 4), (.p .mov), [.c (.bool false)], none⟩])
  (.seq
   (.seq
    (.ops [
      ⟨(some 7), (.p .mov), [.t 1], none⟩,
      ⟨(some 8), (.p .len), [.t 7], none⟩,
      ⟨(some 9), (.p .mov), [.c (.int .i64 0)], none⟩])
    train_unlike_L0)
   (.seq
    (.ops [
      ⟨(some 4), (.p .mov), [.c (.bool true)], none⟩])
    (.ret [4]))))
def train_unlike_I : FInfo := ⟨(.fz false), 2, train_unlike_C, [.tmp 4]⟩
def train_unlike_A : Ann := ⟨[], [], [(0, [0, 1, 7, 8, 9], [])], [(1, [0, 1, 7, 8, 9])], []⟩
abbrev n_train_unlike : Nat := 57

/-! ### slices.IndexFunc[[]balise/api.End,balise/api.End] -/
def slices_IndexFunc_End_B0 : CCode :=
 (.seq
  (.ops [
    ⟨(some 9), (.p (.bin .lss .ifc)), [.t 8, .t 7], none⟩])
  (.seq
   (.cond (.t 9)
    .skip
    (.exit 0))
   (.seq
    (.block 1 (some [0, 1, 7, 8])
     (.seq
      (.ops [
        ⟨(some 10), (.p .mov), [.t 8], none⟩,
        ⟨(some 5), (.p .mov), [.t 10], none⟩])
      (.seq
       (.ops [
         ⟨(some 11), (.p .mov), [.t 1], none⟩,
         ⟨(some 12), (.p .mov), [.t 0], none⟩,
         ⟨(some 13), (.p .mov), [.t 5], none⟩,
         ⟨(some 14), (.p (.iaddr 2)), [.t 12, .t 13], none⟩,
         ⟨(some 15), (.h (.load true 2)), [.t 14], none⟩,
         ⟨(some 16), .call, [.t 11, .t 15], none⟩])
       (.cond (.t 16)
        (.seq
         (.ops [
           ⟨(some 17), (.p .mov), [.t 5], none⟩,
           ⟨(some 4), (.p .mov), [.t 17], none⟩])
         (.ret [4]))
        .skip))))
    (.ops [
      ⟨(some 18), (.p (.bin .add .ifc)), [.t 8, .c (.int .i64 1)], none⟩,
      ⟨(some 8), (.p .mov), [.t 18], none⟩]))))
def slices_IndexFunc_End_L0 : CCode := .bloop 0 [0, 1, 7, 8] [] slices_IndexFunc_End_B0
def slices_IndexFunc_End_C : CCode :=
 (.seq
  (.ops [
    ⟨(some 4), (.p .mov), [.c (.int .i64 0)], none⟩])
  (.seq
   (.seq
    (.ops [
      ⟨(some 6), (.p .mov), [.t 0], none⟩,
      ⟨(some 7), (.p .len), [.t 6], none⟩,
      ⟨(some 8), (.p .mov), [.c (.int .i64 0)], none⟩])
    slices_IndexFunc_End_L0)
   (.seq
    (.ops [
      ⟨(some 4), (.p .mov), [.c (.int .i64 (-1))], none⟩])
    (.ret [4]))))
def slices_IndexFunc_End_I : FInfo := ⟨(.fz false), 2, slices_IndexFunc_End_C, [.tmp 4]⟩
def slices_IndexFunc_End_A : Ann := ⟨[], [], [(0, [0, 1, 7, 8], [])], [(1, [0, 1, 7, 8])], []⟩
abbrev n_slices_IndexFunc_End : Nat := 58

/-! ### balise/train.Fits$1 -/
def train_Fits_1_C : CCode :=
 (.seq
  (.ops [
    ⟨(some 2), (.h (.box 2)), [.t 0], none⟩,
    ⟨(some 3), (.p .mov), [.c (.bool false)], none⟩])
  (.seq
   (.ops [
     ⟨(some 4), (.p (.faddr 0)), [.t 2], none⟩,
     ⟨(some 5), (.h (.load false 1)), [.t 4], none⟩,
     ⟨(some 6), (.h (.load false 1)), [.t 1], none⟩,
     ⟨(some 7), (.p (.bin .eql .int)), [.t 5, .t 6], none⟩,
     ⟨(some 3), (.p .mov), [.t 7], none⟩])
   (.ret [3])))
def train_Fits_1_I : FInfo := ⟨(.fz false), 2, train_Fits_1_C, [.tmp 3]⟩
def train_Fits_1_A : Ann := ⟨[], [], [], [], [2]⟩
abbrev n_train_Fits_1 : Nat := 59

/-! ### balise/baliseref01.Rise -/
def r01_Rise_B2 : CCode :=
 (.seq
  (.seq
   (.ops [
     ⟨(some 6), (.p .mov), [.t 5], none⟩,
     ⟨(some 7), (.p .mov), [.t 0], none⟩,
     ⟨(some 8), (.p .len), [.t 7], none⟩,
     ⟨(some 9), (.p (.bin .lss .ifc)), [.t 6, .t 8], none⟩])
   (.cond (.t 9)
    .skip
    (.exit 2)))
  (.seq
   (.block 3 (some [0, 3, 4, 5])
    (.seq
     (.ops [
       ⟨(some 12), (.p .mov), [.t 3], none⟩,
       ⟨(some 13), (.p .len), [.t 12], none⟩,
       ⟨(some 14), (.p (.bin .eql .int)), [.t 13, .c (.int .i64 0)], none⟩,
       ⟨(some 15), (.p .mov), [.t 14], none⟩,
       ⟨(some 16), (.p .mov), [.t 0], (some (15, false))⟩,
       ⟨(some 17), (.p .mov), [.t 5], (some (15, false))⟩,
       ⟨(some 18), (.p (.iaddr 1)), [.t 16, .t 17], (some (15, false))⟩,
       ⟨(some 19), (.h (.load false 1)), [.t 18], (some (15, false))⟩,
       ⟨(some 20), (.p .mov), [.t 3], (some (15, false))⟩,
       ⟨(some 21), (.p .mov), [.t 3], (some (15, false))⟩,
       ⟨(some 22), (.p .len), [.t 21], (some (15, false))⟩,
       ⟨(some 23), (.p (.bin .sub .ifc)), [.t 22, .c (.int .i64 1)], (some (15, false))⟩,
       ⟨(some 24), (.p (.iaddr 1)), [.t 20, .t 23], (some (15, false))⟩,
       ⟨(some 25), (.h (.load false 1)), [.t 24], (some (15, false))⟩,
       ⟨(some 26), (.p (.bin .gtr .ifc)), [.t 19, .t 25], (some (15, false))⟩,
       ⟨(some 27), (.p .pick), [.t 15, .c (.bool true), .t 26], none⟩,
       ⟨(some 28), (.p .mov), [.t 27], none⟩,
       ⟨(some 29), (.p .mov), [.t 4], (some (28, true))⟩,
       ⟨(some 30), (.p (.bin .lss .ifc)), [.t 29, .c (.int .i64 0)], (some (28, true))⟩,
       ⟨(some 31), (.p .mov), [.t 30], (some (28, true))⟩,
       ⟨(some 32), (.p .mov), [.t 0], (some (31, false))⟩,
       ⟨(some 33), (.p .mov), [.t 5], (some (31, false))⟩,
       ⟨(some 34), (.p (.iaddr 1)), [.t 32, .t 33], (some (31, false))⟩,
       ⟨(some 35), (.h (.load false 1)), [.t 34], (some (31, false))⟩,
       ⟨(some 36), (.p .mov), [.t 0], (some (31, false))⟩,
       ⟨(some 37), (.p .mov), [.t 4], (some (31, false))⟩,
       ⟨(some 38), (.p (.iaddr 1)), [.t 36, .t 37], (some (31, false))⟩,
       ⟨(some 39), (.h (.load false 1)), [.t 38], (some (31, false))⟩,
       ⟨(some 40), (.p (.bin .lss .ifc)), [.t 35, .t 39], (some (31, false))⟩,
       ⟨(some 41), (.p .pick), [.t 31, .c (.bool true), .t 40], (some (28, true))⟩,
       ⟨(some 42), (.p .pick), [.t 28, .t 41, .c (.bool false)], none⟩])
     (.cond (.t 42)
      (.ops [
        ⟨(some 43), (.p .mov), [.t 5], none⟩,
        ⟨(some 4), (.p .mov), [.t 43], none⟩])
      .skip)))
   (.ops [
     ⟨(some 10), (.p .mov), [.t 5], none⟩,
     ⟨(some 11), (.p (.bin .add .ifc)), [.t 10, .c (.int .i64 1)], none⟩,
     ⟨(some 5), (.p .mov), [.t 11], none⟩])))
def r01_Rise_L2 : CCode := .bloop 2 [0, 3, 4, 5] [0, 3, 4] r01_Rise_B2

def r01_Rise_B0 : CCode :=
 (.block 1 (some [0, 3])
  (.seq
   (.ops [
     ⟨(some 4), (.p .mov), [.c (.int .i64 (-1))], none⟩])
   (.seq
    (.seq
     (.ops [
       ⟨(some 5), (.p .mov), [.c (.int .i64 0)], none⟩])
     r01_Rise_L2)
    (.seq
     (.seq
      (.ops [
        ⟨(some 44), (.p .mov), [.t 4], none⟩,
        ⟨(some 45), (.p (.bin .lss .ifc)), [.t 44, .c (.int .i64 0)], none⟩])
      (.cond (.t 45)
       (.seq
        (.ops [
          ⟨(some 46), (.p .mov), [.t 3], none⟩,
          ⟨(some 2), (.p .mov), [.t 46], none⟩])
        (.ret [2]))
       .skip))
     (.ops [
       ⟨(some 47), (.p .mov), [.t 3], none⟩,
       ⟨(some 48), (.p .mov), [.t 0], none⟩,
       ⟨(some 49), (.p .mov), [.t 4], none⟩,
       ⟨(some 50), (.p (.iaddr 1)), [.t 48, .t 49], none⟩,
       ⟨(some 51), (.h (.load false 1)), [.t 50], none⟩,
       ⟨(some 52), (.h (.bslF 1 1 [(.int .i64 0)] [(0, 1)])), [.t 51], none⟩,
       ⟨(some 53), (.h (.app 1 8 [(.int .i64 0)])), [.t 47, .t 52], none⟩,
       ⟨(some 3), (.p .mov), [.t 53], none⟩])))))
def r01_Rise_L0 : CCode := .bloop 0 [0, 3] [] r01_Rise_B0
def r01_Rise_C : CCode :=
 (.seq
  (.ops [
    ⟨(some 2), (.p .mov), [.c .nils], none⟩])
  (.seq
   (.ops [
     ⟨(some 3), (.p .mov), [.c .nils], none⟩])
   r01_Rise_L0))
def r01_Rise_I : FInfo := ⟨(.fz false), 1, r01_Rise_C, [.tmp 2]⟩
def r01_Rise_A : Ann := ⟨[], [], [(0, [0, 3], []), (2, [0, 3, 4, 5], [0, 3, 4])], [(1, [0, 3]), (3, [0, 3, 4, 5])], []⟩
abbrev n_r01_Rise : Nat := 60

/-! ### balise/baliseref05.Around -/
def r05_Around_B0 : CCode :=
 (.seq
  (.seq
   (.ops [
     ⟨(some 69), (.p .mov), [.t 11], none⟩,
     ⟨(some 70), (.p .mov), [.t 10], none⟩,
     ⟨(some 71), (.p .len), [.t 70], none⟩,
     ⟨(some 72), (.p (.bin .lss .ifc)), [.t 69, .t 71], none⟩])
   (.cond (.t 72)
    .skip
    (.exit 0)))
  (.seq
   (.block 1 (some [3, 8, 10, 11])
    (.seq
     (.ops [
       ⟨(some 75), (.p .mov), [.t 10], none⟩,
       ⟨(some 76), (.p .mov), [.t 11], none⟩,
       ⟨(some 77), (.p (.iaddr 2)), [.t 75, .t 76], none⟩,
       ⟨(some 78), (.h (.load true 2)), [.t 77], none⟩,
       ⟨(some 79), (.h (.load true 2)), [.t 3], none⟩,
       ⟨(some 80), (.p (.bin .neq (.parts [(0, false, 1, .int), (1, false, 1, .int)]))), [.t 78, .t 79], none⟩])
     (.cond (.t 80)
      (.ops [
        ⟨(some 81), (.p .mov), [.t 8], none⟩,
        ⟨(some 82), (.p .mov), [.t 10], none⟩,
        ⟨(some 83), (.p .mov), [.t 11], none⟩,
        ⟨(some 84), (.p (.iaddr 2)), [.t 82, .t 83], none⟩,
        ⟨(some 85), (.h (.load true 2)), [.t 84], none⟩,
        ⟨(some 86), (.h (.bslF 2 1 [(.int .i64 0), (.int .i64 0)] [(0, 2)])), [.t 85], none⟩,
        ⟨(some 87), (.h (.app 2 16 [(.int .i64 0), (.int .i64 0)])), [.t 81, .t 86], none⟩,
        ⟨(some 8), (.p .mov), [.t 87], none⟩])
      .skip)))
   (.ops [
     ⟨(some 73), (.p .mov), [.t 11], none⟩,
     ⟨(some 74), (.p (.bin .add .ifc)), [.t 73, .c (.int .i64 1)], none⟩,
     ⟨(some 11), (.p .mov), [.t 74], none⟩])))
def r05_Around_L0 : CCode := .bloop 0 [3, 8, 10, 11] [8] r05_Around_B0
def r05_Around_C : CCode :=
 (.seq
  (.ops [
    ⟨(some 2), (.h (.box 2)), [.t 0], none⟩,
    ⟨(some 3), (.h (.box 3)), [.t 1], none⟩,
    ⟨(some 4), (.p .mov), [.c .nils], none⟩])
  (.seq
   (.ops [
     ⟨(some 13), (.h (.load true 10)), [.t 2], none⟩,
     ⟨(some 14), (.h (.load true 2)), [.t 3], none⟩,
     ⟨(some 15), .call, [.c (.fn (.func 101) [] []), .t 13, .t 14], none⟩,
     ⟨(some 12), (.p .mov), [.t 15], none⟩,
     ⟨(some 16), (.p (.ext 0)), [.t 12], none⟩,
     ⟨(some 17), (.p (.ext 1)), [.t 12], none⟩,
     ⟨(some 5), (.p .mov), [.t 16], none⟩,
     ⟨(some 6), (.p .mov), [.t 17], none⟩])
   (.seq
    (.seq
     (.ops [
       ⟨(some 18), (.p .mov), [.t 6], none⟩,
       ⟨(some 19), (.p (.un .not)), [.t 18], none⟩])
     (.cond (.t 19)
      (.seq
       (.ops [
         ⟨(some 4), (.p .mov), [.c .nils], none⟩])
       (.ret [4]))
      .skip))
    (.seq
     (.ops [
       ⟨(some 20), (.h (.load true 10)), [.t 2], none⟩,
       ⟨(some 21), (.p .mov), [.t 5], none⟩,
       ⟨(some 22), .call, [.c (.fn (.func 89) [] []), .t 20, .t 21], none⟩,
       ⟨(some 7), (.p .mov), [.t 22], none⟩])
     (.seq
      (.ops [
        ⟨(some 8), (.p .mov), [.c .nils], none⟩])
      (.seq
       (.seq
        (.ops [
          ⟨(some 23), (.p .mov), [.t 7], none⟩,
          ⟨(some 24), (.p (.bin .geq .ifc)), [.t 23, .c (.int .i64 0)], none⟩])
        (.cond (.t 24)
         (.seq
          (.ops [
            ⟨(some 25), (.p (.faddr 3)), [.t 2], none⟩,
            ⟨(some 26), (.h (.load false 1)), [.t 25], none⟩,
            ⟨(some 27), (.p .mov), [.t 7], none⟩,
            ⟨(some 28), (.p (.iaddr 4)), [.t 26, .t 27], none⟩,
            ⟨(some 29), (.h (.load true 4)), [.t 28], none⟩,
            ⟨(some 9), (.h (.newl 9 [(.int .i64 0), (.int .i64 0), (.int .i64 0), (.int .i64 0)])), [], none⟩,
            ⟨none, (.h (.store 4)), [.t 9, .t 29], none⟩])
          (.seq
           (.seq
            (.ops [
              ⟨(some 30), (.p (.faddr 0)), [.t 3], none⟩,
              ⟨(some 31), (.h (.load false 1)), [.t 30], none⟩,
              ⟨(some 32), (.p (.faddr 1)), [.t 9], none⟩,
              ⟨(some 33), (.h (.load false 1)), [.t 32], none⟩,
              ⟨(some 34), (.p (.bin .eql .int)), [.t 31, .t 33], none⟩])
            (.cond (.t 34)
             (.seq
              (.ops [
                ⟨(some 35), (.p .mov), [.t 8], none⟩,
                ⟨(some 36), (.h (.load true 10)), [.t 2], none⟩,
                ⟨(some 37), (.p (.faddr 2)), [.t 9], none⟩,
                ⟨(some 38), (.h (.load false 1)), [.t 37], none⟩,
                ⟨(some 39), (.p .mov), [.t 5], none⟩,
                ⟨(some 40), .call, [.c (.fn (.func 102) [] []), .t 36, .t 38, .t 39], none⟩,
                ⟨(some 41), (.h (.app 2 16 [(.int .i64 0), (.int .i64 0)])), [.t 35, .t 40], none⟩,
                ⟨(some 8), (.p .mov), [.t 41], none⟩])
              (.seq
               (.ops [
                 ⟨(some 42), (.p .mov), [.t 8], none⟩,
                 ⟨(some 43), (.h (.load true 10)), [.t 2], none⟩,
                 ⟨(some 44), (.p (.faddr 3)), [.t 9], none⟩,
                 ⟨(some 45), (.h (.load false 1)), [.t 44], none⟩,
                 ⟨(some 46), (.p .mov), [.t 5], none⟩,
                 ⟨(some 47), .call, [.c (.fn (.func 102) [] []), .t 43, .t 45, .t 46], none⟩,
                 ⟨(some 48), (.h (.app 2 16 [(.int .i64 0), (.int .i64 0)])), [.t 42, .t 47], none⟩,
                 ⟨(some 4), (.p .mov), [.t 48], none⟩])
               (.ret [4])))
             .skip))
           (.seq
            (.seq
             (.ops [
               ⟨(some 49), (.p (.faddr 0)), [.t 3], none⟩,
               ⟨(some 50), (.h (.load false 1)), [.t 49], none⟩,
               ⟨(some 51), (.p (.faddr 2)), [.t 9], none⟩,
               ⟨(some 52), (.h (.load false 1)), [.t 51], none⟩,
               ⟨(some 53), (.p (.bin .eql .int)), [.t 50, .t 52], none⟩,
               ⟨(some 54), (.p .mov), [.t 53], none⟩,
               ⟨(some 55), (.p (.faddr 0)), [.t 3], (some (54, false))⟩,
               ⟨(some 56), (.h (.load false 1)), [.t 55], (some (54, false))⟩,
               ⟨(some 57), (.p (.faddr 3)), [.t 9], (some (54, false))⟩,
               ⟨(some 58), (.h (.load false 1)), [.t 57], (some (54, false))⟩,
               ⟨(some 59), (.p (.bin .eql .int)), [.t 56, .t 58], (some (54, false))⟩,
               ⟨(some 60), (.p .pick), [.t 54, .c (.bool true), .t 59], none⟩])
             (.cond (.t 60)
              (.seq
               (.ops [
                 ⟨(some 61), (.h (.load true 10)), [.t 2], none⟩,
                 ⟨(some 62), (.p (.faddr 1)), [.t 9], none⟩,
                 ⟨(some 63), (.h (.load false 1)), [.t 62], none⟩,
                 ⟨(some 64), (.p .mov), [.t 5], none⟩,
                 ⟨(some 65), .call, [.c (.fn (.func 102) [] []), .t 61, .t 63, .t 64], none⟩,
                 ⟨(some 4), (.p .mov), [.t 65], none⟩])
               (.ret [4]))
              .skip))
            (.seq
             (.ops [
               ⟨(some 4), (.p .mov), [.c .nils], none⟩])
             (.ret [4])))))
         .skip))
       (.seq
        (.ops [
          ⟨(some 66), (.h (.load true 10)), [.t 2], none⟩,
          ⟨(some 67), (.p .mov), [.t 5], none⟩,
          ⟨(some 68), .call, [.c (.fn (.func 91) [] []), .t 66, .t 67], none⟩,
          ⟨(some 10), (.p .mov), [.t 68], none⟩])
        (.seq
         (.seq
          (.ops [
            ⟨(some 11), (.p .mov), [.c (.int .i64 0)], none⟩])
          r05_Around_L0)
         (.seq
          (.seq
           (.ops [
             ⟨(some 88), (.p .mov), [.t 8], none⟩,
             ⟨(some 89), (.p .len), [.t 88], none⟩,
             ⟨(some 90), (.p (.bin .neq .int)), [.t 89, .c (.int .i64 1)], none⟩])
           (.cond (.t 90)
            (.seq
             (.ops [
               ⟨(some 4), (.p .mov), [.c .nils], none⟩])
             (.ret [4]))
            .skip))
          (.seq
           (.ops [
             ⟨(some 91), (.p .mov), [.t 8], none⟩,
             ⟨(some 4), (.p .mov), [.t 91], none⟩])
           (.ret [4])))))))))))
def r05_Around_I : FInfo := ⟨(.fz false), 2, r05_Around_C, [.tmp 4]⟩
def r05_Around_A : Ann := ⟨[], [], [(0, [3, 8, 10, 11], [8])], [(1, [3, 8, 10, 11])], [2, 3, 9]⟩
abbrev n_r05_Around : Nat := 61

/-! ### slices.Clone[[]int,int] -/
def slices_Clone_int_C : CCode :=
 (.seq
  (.ops [
    ⟨(some 2), (.p .mov), [.c .nils], none⟩])
  (.seq
   (.seq
    (.ops [
      ⟨(some 3), (.p .mov), [.t 0], none⟩,
      ⟨(some 4), (.p (.bin .eql .sl)), [.t 3, .c .nils], none⟩])
    (.cond (.t 4)
     (.seq
      (.ops [
        ⟨(some 2), (.p .mov), [.c .nils], none⟩])
      (.ret [2]))
     .skip))
   (.seq
    (.ops [
      ⟨(some 5), (.h (.bslO 1 0 [(.int .i64 0)] [])), [], none⟩,
      ⟨(some 6), (.p .mov), [.t 0], none⟩,
      ⟨(some 7), (.h (.app 1 8 [(.int .i64 0)])), [.t 5, .t 6], none⟩,
      ⟨(some 2), (.p .mov), [.t 7], none⟩])
    (.ret [2]))))
def slices_Clone_int_I : FInfo := ⟨.own, 1, slices_Clone_int_C, [.tmp 2]⟩
def slices_Clone_int_A : Ann := ⟨[], [5], [], [], []⟩
abbrev n_slices_Clone_int : Nat := 62

/-! ### (*balise/graph.Graph).node -/
def graph_Graph_node_C : CCode :=
 (.seq
  (.ops [
    ⟨(some 3), (.h (.box 3)), [.t 1], none⟩,
    ⟨(some 4), (.p .mov), [.c (.int .i64 0)], none⟩,
    ⟨(some 5), (.p .mov), [.c (.bool false)], none⟩])
  (.seq
   (.ops [
     ⟨(some 9), (.p .mov), [.t 0], none⟩,
     ⟨(some 10), (.p (.faddr 0)), [.t 3], none⟩,
     ⟨(some 11), (.h (.load false 1)), [.t 10], none⟩,
     ⟨(some 12), .call, [.c (.fn (.func 83) [] []), .t 9, .t 11], none⟩,
     ⟨(some 8), (.p .mov), [.t 12], none⟩,
     ⟨(some 13), (.p (.ext 0)), [.t 8], none⟩,
     ⟨(some 14), (.p (.ext 1)), [.t 8], none⟩,
     ⟨(some 6), (.h (.newl 6 [(.int .i64 0), (.int .i64 0), (.int .i64 0)])), [], none⟩,
     ⟨none, (.h (.store 3)), [.t 6, .t 13], none⟩,
     ⟨(some 7), (.p .mov), [.t 14], none⟩])
   (.seq
    (.block 0 (some [])
     (.seq
      (.ops [
        ⟨(some 16), (.p .mov), [.t 7], none⟩,
        ⟨(some 17), (.p .mov), [.t 16], none⟩,
        ⟨(some 18), (.p (.faddr 1)), [.t 3], (some (17, true))⟩,
        ⟨(some 19), (.h (.load false 1)), [.t 18], (some (17, true))⟩,
        ⟨(some 20), (.p (.bin .eql .int)), [.t 19, .c (.int .i64 0)], (some (17, true))⟩,
        ⟨(some 21), (.p .pick), [.t 17, .t 20, .c (.bool false)], none⟩,
        ⟨(some 15), (.p .mov), [.t 21], none⟩])
      (.cond (.t 15)
       (.seq
        (.ops [
          ⟨(some 22), (.p (.faddr 1)), [.t 6], none⟩,
          ⟨(some 23), (.h (.load false 1)), [.t 22], none⟩,
          ⟨(some 4), (.p .mov), [.t 23], none⟩,
          ⟨(some 5), (.p .mov), [.c (.bool true)], none⟩])
        (.ret [4, 5]))
       (.seq
        (.ops [
          ⟨(some 25), (.p .mov), [.t 7], none⟩,
          ⟨(some 26), (.p .mov), [.t 25], none⟩,
          ⟨(some 27), (.p (.faddr 1)), [.t 3], (some (26, true))⟩,
          ⟨(some 28), (.h (.load false 1)), [.t 27], (some (26, true))⟩,
          ⟨(some 29), (.p (.bin .eql .int)), [.t 28, .c (.int .i64 1)], (some (26, true))⟩,
          ⟨(some 30), (.p .pick), [.t 26, .t 29, .c (.bool false)], none⟩,
          ⟨(some 24), (.p .mov), [.t 30], none⟩])
        (.cond (.t 24)
         (.seq
          (.ops [
            ⟨(some 31), (.p (.faddr 2)), [.t 6], none⟩,
            ⟨(some 32), (.h (.load false 1)), [.t 31], none⟩,
            ⟨(some 4), (.p .mov), [.t 32], none⟩,
            ⟨(some 5), (.p .mov), [.c (.bool true)], none⟩])
          (.ret [4, 5]))
         .skip)))))
    (.seq
     (.ops [
       ⟨(some 4), (.p .mov), [.c (.int .i64 0)], none⟩,
       ⟨(some 5), (.p .mov), [.c (.bool false)], none⟩])
     (.ret [4, 5])))))
def graph_Graph_node_I : FInfo := ⟨(.fz false), 2, graph_Graph_node_C, [.tmp 4, .tmp 5]⟩
def graph_Graph_node_A : Ann := ⟨[], [], [], [(0, [])], [3, 6]⟩
abbrev n_graph_Graph_node : Nat := 76

/-! ### slices.DeleteFunc[[]balise/api.End,balise/api.End] -/
def slices_DeleteFunc_End_B0 : CCode :=
 (.seq
  (.seq
   (.ops [
     ⟨(some 16), (.p .mov), [.t 6], none⟩,
     ⟨(some 17), (.p .mov), [.t 0], none⟩,
     ⟨(some 18), (.p .len), [.t 17], none⟩,
     ⟨(some 19), (.p (.bin .lss .ifc)), [.t 16, .t 18], none⟩])
   (.cond (.t 19)
    .skip
    (.exit 0)))
  (.seq
   (.block 1 (some [0, 1, 5, 6])
    (.seq
     (.ops [
       ⟨(some 22), (.p .mov), [.t 0], none⟩,
       ⟨(some 23), (.p .mov), [.t 6], none⟩,
       ⟨(some 24), (.p (.iaddr 2)), [.t 22, .t 23], none⟩,
       ⟨(some 25), (.h (.load true 2)), [.t 24], none⟩,
       ⟨(some 7), (.h (.newl 7 [(.int .i64 0), (.int .i64 0)])), [], none⟩,
       ⟨none, (.h (.store 2)), [.t 7, .t 25], none⟩])
     (.seq
      (.ops [
        ⟨(some 26), (.p .mov), [.t 1], none⟩,
        ⟨(some 27), (.h (.load true 2)), [.t 7], none⟩,
        ⟨(some 28), .call, [.t 26, .t 27], none⟩,
        ⟨(some 29), (.p (.un .not)), [.t 28], none⟩])
      (.cond (.t 29)
       (.seq
        (.ops [
          ⟨(some 30), (.p .mov), [.t 0], none⟩,
          ⟨(some 31), (.p .mov), [.t 5], none⟩,
          ⟨(some 32), (.h (.load true 2)), [.t 7], none⟩,
          ⟨(some 33), (.p (.iaddr 2)), [.t 30, .t 31], none⟩,
          ⟨none, (.h (.store 2)), [.t 33, .t 32], none⟩])
        (.ops [
          ⟨(some 34), (.p .mov), [.t 5], none⟩,
          ⟨(some 35), (.p (.bin .add .ifc)), [.t 34, .c (.int .i64 1)], none⟩,
          ⟨(some 5), (.p .mov), [.t 35], none⟩]))
       .skip))))
   (.ops [
     ⟨(some 20), (.p .mov), [.t 6], none⟩,
     ⟨(some 21), (.p (.bin .add .ifc)), [.t 20, .c (.int .i64 1)], none⟩,
     ⟨(some 6), (.p .mov), [.t 21], none⟩])))
def slices_DeleteFunc_End_L0 : CCode := .bloop 0 [0, 1, 5, 6] [0, 5] slices_DeleteFunc_End_B0
def slices_DeleteFunc_End_C : CCode :=
 (.seq
  (.ops [
    ⟨(some 4), (.p .mov), [.c .nils], none⟩])
  (.seq
   (.ops [
     ⟨(some 8), (.p .mov), [.t 0], none⟩,
     ⟨(some 9), (.p .mov), [.t 1], none⟩,
     ⟨(some 10), .call, [.c (.fn (.func 58) [] []), .t 8, .t 9], none⟩,
     ⟨(some 5), (.p .mov), [.t 10], none⟩])
   (.seq
    (.seq
     (.ops [
       ⟨(some 11), (.p .mov), [.t 5], none⟩,
       ⟨(some 12), (.p (.bin .eql .int)), [.t 11, .c (.int .i64 (-1))], none⟩])
     (.cond (.t 12)
      (.seq
       (.ops [
         ⟨(some 13), (.p .mov), [.t 0], none⟩,
         ⟨(some 4), (.p .mov), [.t 13], none⟩])
       (.ret [4]))
      .skip))
    (.seq
     (.seq
      (.ops [
        ⟨(some 14), (.p .mov), [.t 5], none⟩,
        ⟨(some 15), (.p (.bin .add .ifc)), [.t 14, .c (.int .i64 1)], none⟩,
        ⟨(some 6), (.p .mov), [.t 15], none⟩])
      slices_DeleteFunc_End_L0)
     (.seq
      (.ops [
        ⟨(some 36), (.p .mov), [.t 0], none⟩,
        ⟨(some 37), (.p .mov), [.t 5], none⟩,
        ⟨(some 38), (.p (.slc 2 true false)), [.t 36, .t 37], none⟩,
        ⟨none, (.h (.clear 2 [(.int .i64 0), (.int .i64 0)])), [.t 38], none⟩])
      (.seq
       (.ops [
         ⟨(some 39), (.p .mov), [.t 0], none⟩,
         ⟨(some 40), (.p .mov), [.t 5], none⟩,
         ⟨(some 41), (.p (.slc 2 false true)), [.t 39, .t 40], none⟩,
         ⟨(some 4), (.p .mov), [.t 41], none⟩])
       (.ret [4])))))))
def slices_DeleteFunc_End_I : FInfo := ⟨.ref, 2, slices_DeleteFunc_End_C, [.tmp 4]⟩
def slices_DeleteFunc_End_A : Ann := ⟨[], [], [(0, [0, 1, 5, 6], [0, 5])], [(1, [0, 1, 5, 6])], [7]⟩
abbrev n_slices_DeleteFunc_End : Nat := 77

/-! ### (*balise/graph.Graph).Around$1 -/
def graph_Graph_Around_1_C : CCode :=
 (.seq
  (.ops [
    ⟨(some 2), (.h (.box 2)), [.t 0], none⟩,
    ⟨(some 3), (.p .mov), [.c (.bool false)], none⟩])
  (.seq
   (.ops [
     ⟨(some 4), (.h (.load true 2)), [.t 2], none⟩,
     ⟨(some 5), (.h (.load true 2)), [.t 1], none⟩,
     ⟨(some 6), (.p (.bin .eql (.parts [(0, false, 1, .int), (1, false, 1, .int)]))), [.t 4, .t 5], none⟩,
     ⟨(some 3), (.p .mov), [.t 6], none⟩])
   (.ret [3])))
def graph_Graph_Around_1_I : FInfo := ⟨(.fz false), 2, graph_Graph_Around_1_C, [.tmp 3]⟩
def graph_Graph_Around_1_A : Ann := ⟨[], [], [], [], [2]⟩
abbrev n_graph_Graph_Around_1 : Nat := 78

/-! ### (*balise/graph.Graph).at -/
def graph_Graph_at_B0 : CCode :=
 (.seq
  (.ops [
    ⟨(some 14), (.p (.bin .lss .ifc)), [.t 13, .t 12], none⟩])
  (.seq
   (.cond (.t 14)
    .skip
    (.exit 0))
   (.seq
    (.block 1 (some [1, 11, 12, 13])
     (.seq
      (.ops [
        ⟨(some 15), (.p (.iaddr 2)), [.t 11, .t 13], none⟩,
        ⟨(some 16), (.h (.load true 2)), [.t 15], none⟩,
        ⟨(some 8), (.h (.newl 8 [(.int .i64 0), (.int .i64 0)])), [], none⟩,
        ⟨none, (.h (.store 2)), [.t 8, .t 16], none⟩])
      (.seq
       (.ops [
         ⟨(some 17), (.p (.faddr 0)), [.t 8], none⟩,
         ⟨(some 18), (.h (.load false 1)), [.t 17], none⟩,
         ⟨(some 19), (.p .mov), [.t 1], none⟩,
         ⟨(some 20), (.p (.bin .eql .int)), [.t 18, .t 19], none⟩])
       (.cond (.t 20)
        (.seq
         (.ops [
           ⟨(some 21), (.h (.load true 2)), [.t 8], none⟩,
           ⟨(some 22), (.h (.bslF 2 1 [(.int .i64 0), (.int .i64 0)] [(0, 2)])), [.t 21], none⟩,
           ⟨(some 6), (.p .mov), [.t 22], none⟩])
         (.ret [6]))
        .skip))))
    (.ops [
      ⟨(some 23), (.p (.bin .add .ifc)), [.t 13, .c (.int .i64 1)], none⟩,
      ⟨(some 13), (.p .mov), [.t 23], none⟩]))))
def graph_Graph_at_L0 : CCode := .bloop 0 [1, 11, 12, 13] [] graph_Graph_at_B0
def graph_Graph_at_C : CCode :=
 (.seq
  (.ops [
    ⟨(some 6), (.p .mov), [.c .nils], none⟩])
  (.seq
   (.seq
    (.ops [
      ⟨(some 9), (.p .mov), [.t 0], none⟩,
      ⟨(some 10), (.p .mov), [.t 2], none⟩,
      ⟨(some 11), .call, [.c (.fn (.func 44) [] []), .t 9, .t 10], none⟩,
      ⟨(some 12), (.p .len), [.t 11], none⟩,
      ⟨(some 13), (.p .mov), [.c (.int .i64 0)], none⟩])
    graph_Graph_at_L0)
   (.seq
    (.ops [
      ⟨(some 6), (.p .mov), [.c .nils], none⟩])
    (.ret [6]))))
def graph_Graph_at_I : FInfo := ⟨(.fz false), 3, graph_Graph_at_C, [.tmp 6]⟩
def graph_Graph_at_A : Ann := ⟨[], [], [(0, [1, 11, 12, 13], [])], [(1, [1, 11, 12, 13])], [8]⟩
abbrev n_graph_Graph_at : Nat := 80

/-! ### (*balise/graph.Graph).section -/
def graph_Graph_section_C : CCode :=
 (.seq
  (.ops [
    ⟨(some 4), (.h (.newl 4 [(.int .i64 0), (.int .i64 0), (.int .i64 0)])), [], none⟩,
    ⟨(some 5), (.p .mov), [.c (.bool false)], none⟩])
  (.seq
   (.seq
    (.ops [
      ⟨(some 6), (.p .mov), [.t 0], none⟩,
      ⟨(some 7), (.p (.bin .eql .ptr)), [.t 6, .c .nilp], none⟩,
      ⟨(some 8), (.p .mov), [.t 7], none⟩,
      ⟨(some 9), (.p .mov), [.t 1], (some (8, false))⟩,
      ⟨(some 10), (.p (.bin .lss .ifc)), [.t 9, .c (.int .i64 0)], (some (8, false))⟩,
      ⟨(some 11), (.p .pick), [.t 8, .c (.bool true), .t 10], none⟩,
      ⟨(some 12), (.p .mov), [.t 11], none⟩,
      ⟨(some 13), (.p .mov), [.t 1], (some (12, false))⟩,
      ⟨(some 14), (.p .mov), [.t 0], (some (12, false))⟩,
      ⟨(some 15), (.p .nchk), [.t 14], (some (12, false))⟩,
      ⟨(some 16), (.p (.faddr 0)), [.t 15], (some (12, false))⟩,
      ⟨(some 17), (.p (.faddr 1)), [.t 16], (some (12, false))⟩,
      ⟨(some 18), (.h (.load false 1)), [.t 17], (some (12, false))⟩,
      ⟨(some 19), (.p .len), [.t 18], (some (12, false))⟩,
      ⟨(some 20), (.p (.bin .geq .ifc)), [.t 13, .t 19], (some (12, false))⟩,
      ⟨(some 21), (.p .pick), [.t 12, .c (.bool true), .t 20], none⟩])
    (.cond (.t 21)
     (.seq
      (.ops [
        ⟨(some 22), (.p (.bld [(.int .i64 0), (.int .i64 0), (.int .i64 0)] [])), [], none⟩,
        ⟨none, (.h (.store 3)), [.t 4, .t 22], none⟩,
        ⟨(some 5), (.p .mov), [.c (.bool false)], none⟩])
      (.ret [4, 5]))
     .skip))
   (.seq
    (.ops [
      ⟨(some 23), (.p .mov), [.t 0], none⟩,
      ⟨(some 24), (.p .nchk), [.t 23], none⟩,
      ⟨(some 25), (.p (.faddr 0)), [.t 24], none⟩,
      ⟨(some 26), (.p (.faddr 1)), [.t 25], none⟩,
      ⟨(some 27), (.h (.load false 1)), [.t 26], none⟩,
      ⟨(some 28), (.p .mov), [.t 1], none⟩,
      ⟨(some 29), (.p (.iaddr 3)), [.t 27, .t 28], none⟩,
      ⟨(some 30), (.h (.load true 3)), [.t 29], none⟩,
      ⟨none, (.h (.store 3)), [.t 4, .t 30], none⟩,
      ⟨(some 5), (.p .mov), [.c (.bool true)], none⟩])
    (.ret [4, 5]))))
def graph_Graph_section_I : FInfo := ⟨(.fz false), 2, graph_Graph_section_C, [.cell 4 true 3, .tmp 5]⟩
def graph_Graph_section_A : Ann := ⟨[], [], [], [], [4]⟩
abbrev n_graph_Graph_section : Nat := 83

/-! ### slices.IndexFunc[[][]int,[]int] -/
def slices_IndexFunc_int_B0 : CCode :=
 (.seq
  (.ops [
    ⟨(some 9), (.p (.bin .lss .ifc)), [.t 8, .t 7], none⟩])
  (.seq
   (.cond (.t 9)
    .skip
    (.exit 0))
   (.seq
    (.block 1 (some [0, 1, 7, 8])
     (.seq
      (.ops [
        ⟨(some 10), (.p .mov), [.t 8], none⟩,
        ⟨(some 5), (.p .mov), [.t 10], none⟩])
      (.seq
       (.ops [
         ⟨(some 11), (.p .mov), [.t 1], none⟩,
         ⟨(some 12), (.p .mov), [.t 0], none⟩,
         ⟨(some 13), (.p .mov), [.t 5], none⟩,
         ⟨(some 14), (.p (.iaddr 1)), [.t 12, .t 13], none⟩,
         ⟨(some 15), (.h (.load false 1)), [.t 14], none⟩,
         ⟨(some 16), .call, [.t 11, .t 15], none⟩])
       (.cond (.t 16)
        (.seq
         (.ops [
           ⟨(some 17), (.p .mov), [.t 5], none⟩,
           ⟨(some 4), (.p .mov), [.t 17], none⟩])
         (.ret [4]))
        .skip))))
    (.ops [
      ⟨(some 18), (.p (.bin .add .ifc)), [.t 8, .c (.int .i64 1)], none⟩,
      ⟨(some 8), (.p .mov), [.t 18], none⟩]))))
def slices_IndexFunc_int_L0 : CCode := .bloop 0 [0, 1, 7, 8] [] slices_IndexFunc_int_B0
def slices_IndexFunc_int_C : CCode :=
 (.seq
  (.ops [
    ⟨(some 4), (.p .mov), [.c (.int .i64 0)], none⟩])
  (.seq
   (.seq
    (.ops [
      ⟨(some 6), (.p .mov), [.t 0], none⟩,
      ⟨(some 7), (.p .len), [.t 6], none⟩,
      ⟨(some 8), (.p .mov), [.c (.int .i64 0)], none⟩])
    slices_IndexFunc_int_L0)
   (.seq
    (.ops [
      ⟨(some 4), (.p .mov), [.c (.int .i64 (-1))], none⟩])
    (.ret [4]))))
def slices_IndexFunc_int_I : FInfo := ⟨(.fz false), 2, slices_IndexFunc_int_C, [.tmp 4]⟩
def slices_IndexFunc_int_A : Ann := ⟨[], [], [(0, [0, 1, 7, 8], [])], [(1, [0, 1, 7, 8])], []⟩
abbrev n_slices_IndexFunc_int : Nat := 84

/-! ### slices.Contains[[]int,int] -/
def slices_Contains_int_C : CCode :=
 (.seq
  (.ops [
    ⟨(some 4), (.p .mov), [.c (.bool false)], none⟩])
  (.seq
   (.ops [
     ⟨(some 5), (.p .mov), [.t 0], none⟩,
     ⟨(some 6), (.p .mov), [.t 1], none⟩,
     ⟨(some 7), .call, [.c (.fn (.func 100) [] []), .t 5, .t 6], none⟩,
     ⟨(some 8), (.p (.bin .geq .ifc)), [.t 7, .c (.int .i64 0)], none⟩,
     ⟨(some 4), (.p .mov), [.t 8], none⟩])
   (.ret [4])))
def slices_Contains_int_I : FInfo := ⟨(.fz false), 2, slices_Contains_int_C, [.tmp 4]⟩
def slices_Contains_int_A : Ann := ⟨[], [], [], [], []⟩
abbrev n_slices_Contains_int : Nat := 86

/-! ### balise/baliseref05.Point -/
def r05_Point_B0 : CCode :=
 (.seq
  (.seq
   (.ops [
     ⟨(some 6), (.p .mov), [.t 5], none⟩,
     ⟨(some 7), (.p (.faddr 3)), [.t 2], none⟩,
     ⟨(some 8), (.h (.load false 1)), [.t 7], none⟩,
     ⟨(some 9), (.p .len), [.t 8], none⟩,
     ⟨(some 10), (.p (.bin .lss .ifc)), [.t 6, .t 9], none⟩])
   (.cond (.t 10)
    .skip
    (.exit 0)))
  (.seq
   (.block 1 (some [1, 2, 5])
    (.seq
     (.ops [
       ⟨(some 13), (.p (.faddr 3)), [.t 2], none⟩,
       ⟨(some 14), (.h (.load false 1)), [.t 13], none⟩,
       ⟨(some 15), (.p .mov), [.t 5], none⟩,
       ⟨(some 16), (.p (.iaddr 4)), [.t 14, .t 15], none⟩,
       ⟨(some 17), (.p (.faddr 0)), [.t 16], none⟩,
       ⟨(some 18), (.h (.load false 1)), [.t 17], none⟩,
       ⟨(some 19), (.p .mov), [.t 1], none⟩,
       ⟨(some 20), (.p (.bin .eql .int)), [.t 18, .t 19], none⟩])
     (.cond (.t 20)
      (.seq
       (.ops [
         ⟨(some 21), (.p .mov), [.t 5], none⟩,
         ⟨(some 4), (.p .mov), [.t 21], none⟩])
       (.ret [4]))
      .skip)))
   (.ops [
     ⟨(some 11), (.p .mov), [.t 5], none⟩,
     ⟨(some 12), (.p (.bin .add .ifc)), [.t 11, .c (.int .i64 1)], none⟩,
     ⟨(some 5), (.p .mov), [.t 12], none⟩])))
def r05_Point_L0 : CCode := .bloop 0 [1, 2, 5] [] r05_Point_B0
def r05_Point_C : CCode :=
 (.seq
  (.ops [
    ⟨(some 2), (.h (.box 2)), [.t 0], none⟩,
    ⟨(some 4), (.p .mov), [.c (.int .i64 0)], none⟩])
  (.seq
   (.seq
    (.ops [
      ⟨(some 5), (.p .mov), [.c (.int .i64 0)], none⟩])
    r05_Point_L0)
   (.seq
    (.ops [
      ⟨(some 4), (.p .mov), [.c (.int .i64 (-1))], none⟩])
    (.ret [4]))))
def r05_Point_I : FInfo := ⟨(.fz false), 2, r05_Point_C, [.tmp 4]⟩
def r05_Point_A : Ann := ⟨[], [], [(0, [1, 2, 5], [])], [(1, [1, 2, 5])], [2]⟩
abbrev n_r05_Point : Nat := 89

/-! ### balise/baliseref05.Ends -/
def r05_Ends_B0 : CCode :=
 (.seq
  (.seq
   (.ops [
     ⟨(some 7), (.p .mov), [.t 6], none⟩,
     ⟨(some 8), (.p (.faddr 1)), [.t 2], none⟩,
     ⟨(some 9), (.h (.load false 1)), [.t 8], none⟩,
     ⟨(some 10), (.p .len), [.t 9], none⟩,
     ⟨(some 11), (.p (.bin .lss .ifc)), [.t 7, .t 10], none⟩])
   (.cond (.t 11)
    .skip
    (.exit 0)))
  (.seq
   (.block 1 (some [1, 2, 5, 6])
    (.seq
     (.seq
      (.ops [
        ⟨(some 14), (.p (.faddr 1)), [.t 2], none⟩,
        ⟨(some 15), (.h (.load false 1)), [.t 14], none⟩,
        ⟨(some 16), (.p .mov), [.t 6], none⟩,
        ⟨(some 17), (.p (.iaddr 3)), [.t 15, .t 16], none⟩,
        ⟨(some 18), (.p (.faddr 1)), [.t 17], none⟩,
        ⟨(some 19), (.h (.load false 1)), [.t 18], none⟩,
        ⟨(some 20), (.p .mov), [.t 1], none⟩,
        ⟨(some 21), (.p (.bin .eql .int)), [.t 19, .t 20], none⟩])
      (.cond (.t 21)
       (.ops [
         ⟨(some 22), (.p .mov), [.t 5], none⟩,
         ⟨(some 23), (.p .mov), [.t 6], none⟩,
         ⟨(some 24), (.p (.bld [(.int .i64 0), (.int .i64 0)] [(0, 1), (1, 1)])), [.t 23, .c (.int .i64 0)], none⟩,
         ⟨(some 25), (.h (.bslF 2 1 [(.int .i64 0), (.int .i64 0)] [(0, 2)])), [.t 24], none⟩,
         ⟨(some 26), (.h (.app 2 16 [(.int .i64 0), (.int .i64 0)])), [.t 22, .t 25], none⟩,
         ⟨(some 5), (.p .mov), [.t 26], none⟩])
       .skip))
     (.seq
      (.ops [
        ⟨(some 27), (.p (.faddr 1)), [.t 2], none⟩,
        ⟨(some 28), (.h (.load false 1)), [.t 27], none⟩,
        ⟨(some 29), (.p .mov), [.t 6], none⟩,
        ⟨(some 30), (.p (.iaddr 3)), [.t 28, .t 29], none⟩,
        ⟨(some 31), (.p (.faddr 2)), [.t 30], none⟩,
        ⟨(some 32), (.h (.load false 1)), [.t 31], none⟩,
        ⟨(some 33), (.p .mov), [.t 1], none⟩,
        ⟨(some 34), (.p (.bin .eql .int)), [.t 32, .t 33], none⟩])
      (.cond (.t 34)
       (.ops [
         ⟨(some 35), (.p .mov), [.t 5], none⟩,
         ⟨(some 36), (.p .mov), [.t 6], none⟩,
         ⟨(some 37), (.p (.bld [(.int .i64 0), (.int .i64 0)] [(0, 1), (1, 1)])), [.t 36, .c (.int .i64 1)], none⟩,
         ⟨(some 38), (.h (.bslF 2 1 [(.int .i64 0), (.int .i64 0)] [(0, 2)])), [.t 37], none⟩,
         ⟨(some 39), (.h (.app 2 16 [(.int .i64 0), (.int .i64 0)])), [.t 35, .t 38], none⟩,
         ⟨(some 5), (.p .mov), [.t 39], none⟩])
       .skip))))
   (.ops [
     ⟨(some 12), (.p .mov), [.t 6], none⟩,
     ⟨(some 13), (.p (.bin .add .ifc)), [.t 12, .c (.int .i64 1)], none⟩,
     ⟨(some 6), (.p .mov), [.t 13], none⟩])))
def r05_Ends_L0 : CCode := .bloop 0 [1, 2, 5, 6] [5] r05_Ends_B0
def r05_Ends_C : CCode :=
 (.seq
  (.ops [
    ⟨(some 2), (.h (.box 2)), [.t 0], none⟩,
    ⟨(some 4), (.p .mov), [.c .nils], none⟩])
  (.seq
   (.ops [
     ⟨(some 5), (.p .mov), [.c .nils], none⟩])
   (.seq
    (.seq
     (.ops [
       ⟨(some 6), (.p .mov), [.c (.int .i64 0)], none⟩])
     r05_Ends_L0)
    (.seq
     (.ops [
       ⟨(some 40), (.p .mov), [.t 5], none⟩,
       ⟨(some 4), (.p .mov), [.t 40], none⟩])
     (.ret [4])))))
def r05_Ends_I : FInfo := ⟨(.fz false), 2, r05_Ends_C, [.tmp 4]⟩
def r05_Ends_A : Ann := ⟨[], [], [(0, [1, 2, 5, 6], [5])], [(1, [1, 2, 5, 6])], [2]⟩
abbrev n_r05_Ends : Nat := 91

/-! ### slices.IndexFunc[[]balise/api.Point,balise/api.Point] -/
def slices_IndexFunc_Point_B0 : CCode :=
 (.seq
  (.ops [
    ⟨(some 9), (.p (.bin .lss .ifc)), [.t 8, .t 7], none⟩])
  (.seq
   (.cond (.t 9)
    .skip
    (.exit 0))
   (.seq
    (.block 1 (some [0, 1, 7, 8])
     (.seq
      (.ops [
        ⟨(some 10), (.p .mov), [.t 8], none⟩,
        ⟨(some 5), (.p .mov), [.t 10], none⟩])
      (.seq
       (.ops [
         ⟨(some 11), (.p .mov), [.t 1], none⟩,
         ⟨(some 12), (.p .mov), [.t 0], none⟩,
         ⟨(some 13), (.p .mov), [.t 5], none⟩,
         ⟨(some 14), (.p (.iaddr 4)), [.t 12, .t 13], none⟩,
         ⟨(some 15), (.h (.load true 4)), [.t 14], none⟩,
         ⟨(some 16), .call, [.t 11, .t 15], none⟩])
       (.cond (.t 16)
        (.seq
         (.ops [
           ⟨(some 17), (.p .mov), [.t 5], none⟩,
           ⟨(some 4), (.p .mov), [.t 17], none⟩])
         (.ret [4]))
        .skip))))
    (.ops [
      ⟨(some 18), (.p (.bin .add .ifc)), [.t 8, .c (.int .i64 1)], none⟩,
      ⟨(some 8), (.p .mov), [.t 18], none⟩]))))
def slices_IndexFunc_Point_L0 : CCode := .bloop 0 [0, 1, 7, 8] [] slices_IndexFunc_Point_B0
def slices_IndexFunc_Point_C : CCode :=
 (.seq
  (.ops [
    ⟨(some 4), (.p .mov), [.c (.int .i64 0)], none⟩])
  (.seq
   (.seq
    (.ops [
      ⟨(some 6), (.p .mov), [.t 0], none⟩,
      ⟨(some 7), (.p .len), [.t 6], none⟩,
      ⟨(some 8), (.p .mov), [.c (.int .i64 0)], none⟩])
    slices_IndexFunc_Point_L0)
   (.seq
    (.ops [
      ⟨(some 4), (.p .mov), [.c (.int .i64 (-1))], none⟩])
    (.ret [4]))))
def slices_IndexFunc_Point_I : FInfo := ⟨(.fz false), 2, slices_IndexFunc_Point_C, [.tmp 4]⟩
def slices_IndexFunc_Point_A : Ann := ⟨[], [], [(0, [0, 1, 7, 8], [])], [(1, [0, 1, 7, 8])], []⟩
abbrev n_slices_IndexFunc_Point : Nat := 98

/-! ### (*balise/graph.Graph).Point$1 -/
def graph_Graph_Point_1_C : CCode :=
 (.seq
  (.ops [
    ⟨(some 2), (.h (.box 2)), [.t 0], none⟩,
    ⟨(some 3), (.p .mov), [.c (.bool false)], none⟩])
  (.seq
   (.ops [
     ⟨(some 4), (.p (.faddr 0)), [.t 2], none⟩,
     ⟨(some 5), (.h (.load false 1)), [.t 4], none⟩,
     ⟨(some 6), (.h (.load false 1)), [.t 1], none⟩,
     ⟨(some 7), (.p (.bin .eql .int)), [.t 5, .t 6], none⟩,
     ⟨(some 3), (.p .mov), [.t 7], none⟩])
   (.ret [3])))
def graph_Graph_Point_1_I : FInfo := ⟨(.fz false), 2, graph_Graph_Point_1_C, [.tmp 3]⟩
def graph_Graph_Point_1_A : Ann := ⟨[], [], [], [], [2]⟩
abbrev n_graph_Graph_Point_1 : Nat := 99

/-! ### slices.Index[[]int,int] -/
def slices_Index_int_B0 : CCode :=
 (.seq
  (.ops [
    ⟨(some 9), (.p (.bin .lss .ifc)), [.t 8, .t 7], none⟩])
  (.seq
   (.cond (.t 9)
    .skip
    (.exit 0))
   (.seq
    (.block 1 (some [0, 1, 7, 8])
     (.seq
      (.ops [
        ⟨(some 10), (.p .mov), [.t 8], none⟩,
        ⟨(some 5), (.p .mov), [.t 10], none⟩])
      (.seq
       (.ops [
         ⟨(some 11), (.p .mov), [.t 1], none⟩,
         ⟨(some 12), (.p .mov), [.t 0], none⟩,
         ⟨(some 13), (.p .mov), [.t 5], none⟩,
         ⟨(some 14), (.p (.iaddr 1)), [.t 12, .t 13], none⟩,
         ⟨(some 15), (.h (.load false 1)), [.t 14], none⟩,
         ⟨(some 16), (.p (.bin .eql .int)), [.t 11, .t 15], none⟩])
       (.cond (.t 16)
        (.seq
         (.ops [
           ⟨(some 17), (.p .mov), [.t 5], none⟩,
           ⟨(some 4), (.p .mov), [.t 17], none⟩])
         (.ret [4]))
        .skip))))
    (.ops [
      ⟨(some 18), (.p (.bin .add .ifc)), [.t 8, .c (.int .i64 1)], none⟩,
      ⟨(some 8), (.p .mov), [.t 18], none⟩]))))
def slices_Index_int_L0 : CCode := .bloop 0 [0, 1, 7, 8] [] slices_Index_int_B0
def slices_Index_int_C : CCode :=
 (.seq
  (.ops [
    ⟨(some 4), (.p .mov), [.c (.int .i64 0)], none⟩])
  (.seq
   (.seq
    (.ops [
      ⟨(some 6), (.p .mov), [.t 0], none⟩,
      ⟨(some 7), (.p .len), [.t 6], none⟩,
      ⟨(some 8), (.p .mov), [.c (.int .i64 0)], none⟩])
    slices_Index_int_L0)
   (.seq
    (.ops [
      ⟨(some 4), (.p .mov), [.c (.int .i64 (-1))], none⟩])
    (.ret [4]))))
def slices_Index_int_I : FInfo := ⟨(.fz false), 2, slices_Index_int_C, [.tmp 4]⟩
def slices_Index_int_A : Ann := ⟨[], [], [(0, [0, 1, 7, 8], [])], [(1, [0, 1, 7, 8])], []⟩
abbrev n_slices_Index_int : Nat := 100

/-! ### balise/baliseref05.node -/
def r05_node_C : CCode :=
 (.seq
  (.ops [
    ⟨(some 2), (.h (.box 2)), [.t 0], none⟩,
    ⟨(some 3), (.h (.box 3)), [.t 1], none⟩,
    ⟨(some 4), (.p .mov), [.c (.int .i64 0)], none⟩,
    ⟨(some 5), (.p .mov), [.c (.bool false)], none⟩])
  (.seq
   (.seq
    (.ops [
      ⟨(some 6), (.p (.faddr 0)), [.t 3], none⟩,
      ⟨(some 7), (.h (.load false 1)), [.t 6], none⟩,
      ⟨(some 8), (.p (.bin .lss .ifc)), [.t 7, .c (.int .i64 0)], none⟩,
      ⟨(some 9), (.p .mov), [.t 8], none⟩,
      ⟨(some 10), (.p (.faddr 0)), [.t 3], (some (9, false))⟩,
      ⟨(some 11), (.h (.load false 1)), [.t 10], (some (9, false))⟩,
      ⟨(some 12), (.p (.faddr 1)), [.t 2], (some (9, false))⟩,
      ⟨(some 13), (.h (.load false 1)), [.t 12], (some (9, false))⟩,
      ⟨(some 14), (.p .len), [.t 13], (some (9, false))⟩,
      ⟨(some 15), (.p (.bin .geq .ifc)), [.t 11, .t 14], (some (9, false))⟩,
      ⟨(some 16), (.p .pick), [.t 9, .c (.bool true), .t 15], none⟩,
      ⟨(some 17), (.p .mov), [.t 16], none⟩,
      ⟨(some 18), (.p (.faddr 1)), [.t 3], (some (17, false))⟩,
      ⟨(some 19), (.h (.load false 1)), [.t 18], (some (17, false))⟩,
      ⟨(some 20), (.p (.bin .lss .ifc)), [.t 19, .c (.int .i64 0)], (some (17, false))⟩,
      ⟨(some 21), (.p .pick), [.t 17, .c (.bool true), .t 20], none⟩,
      ⟨(some 22), (.p .mov), [.t 21], none⟩,
      ⟨(some 23), (.p (.faddr 1)), [.t 3], (some (22, false))⟩,
      ⟨(some 24), (.h (.load false 1)), [.t 23], (some (22, false))⟩,
      ⟨(some 25), (.p (.bin .gtr .ifc)), [.t 24, .c (.int .i64 1)], (some (22, false))⟩,
      ⟨(some 26), (.p .pick), [.t 22, .c (.bool true), .t 25], none⟩])
    (.cond (.t 26)
     (.seq
      (.ops [
        ⟨(some 4), (.p .mov), [.c (.int .i64 0)], none⟩,
        ⟨(some 5), (.p .mov), [.c (.bool false)], none⟩])
      (.ret [4, 5]))
     .skip))
   (.seq
    (.seq
     (.ops [
       ⟨(some 27), (.p (.faddr 1)), [.t 3], none⟩,
       ⟨(some 28), (.h (.load false 1)), [.t 27], none⟩,
       ⟨(some 29), (.p (.bin .eql .int)), [.t 28, .c (.int .i64 0)], none⟩])
     (.cond (.t 29)
      (.seq
       (.ops [
         ⟨(some 30), (.p (.faddr 1)), [.t 2], none⟩,
         ⟨(some 31), (.h (.load false 1)), [.t 30], none⟩,
         ⟨(some 32), (.p (.faddr 0)), [.t 3], none⟩,
         ⟨(some 33), (.h (.load false 1)), [.t 32], none⟩,
         ⟨(some 34), (.p (.iaddr 3)), [.t 31, .t 33], none⟩,
         ⟨(some 35), (.p (.faddr 1)), [.t 34], none⟩,
         ⟨(some 36), (.h (.load false 1)), [.t 35], none⟩,
         ⟨(some 4), (.p .mov), [.t 36], none⟩,
         ⟨(some 5), (.p .mov), [.c (.bool true)], none⟩])
       (.ret [4, 5]))
      .skip))
    (.seq
     (.ops [
       ⟨(some 37), (.p (.faddr 1)), [.t 2], none⟩,
       ⟨(some 38), (.h (.load false 1)), [.t 37], none⟩,
       ⟨(some 39), (.p (.faddr 0)), [.t 3], none⟩,
       ⟨(some 40), (.h (.load false 1)), [.t 39], none⟩,
       ⟨(some 41), (.p (.iaddr 3)), [.t 38, .t 40], none⟩,
       ⟨(some 42), (.p (.faddr 2)), [.t 41], none⟩,
       ⟨(some 43), (.h (.load false 1)), [.t 42], none⟩,
       ⟨(some 4), (.p .mov), [.t 43], none⟩,
       ⟨(some 5), (.p .mov), [.c (.bool true)], none⟩])
     (.ret [4, 5])))))
def r05_node_I : FInfo := ⟨(.fz false), 2, r05_node_C, [.tmp 4, .tmp 5]⟩
def r05_node_A : Ann := ⟨[], [], [], [], [2, 3]⟩
abbrev n_r05_node : Nat := 101

/-! ### balise/baliseref05.one -/
def r05_one_B0 : CCode :=
 (.seq
  (.seq
   (.ops [
     ⟨(some 12), (.p .mov), [.t 8], none⟩,
     ⟨(some 13), (.p .mov), [.t 7], none⟩,
     ⟨(some 14), (.p .len), [.t 13], none⟩,
     ⟨(some 15), (.p (.bin .lss .ifc)), [.t 12, .t 14], none⟩])
   (.cond (.t 15)
    .skip
    (.exit 0)))
  (.seq
   (.block 1 (some [1, 7, 8])
    (.seq
     (.ops [
       ⟨(some 18), (.p .mov), [.t 7], none⟩,
       ⟨(some 19), (.p .mov), [.t 8], none⟩,
       ⟨(some 20), (.p (.iaddr 2)), [.t 18, .t 19], none⟩,
       ⟨(some 21), (.p (.faddr 0)), [.t 20], none⟩,
       ⟨(some 22), (.h (.load false 1)), [.t 21], none⟩,
       ⟨(some 23), (.p .mov), [.t 1], none⟩,
       ⟨(some 24), (.p (.bin .eql .int)), [.t 22, .t 23], none⟩])
     (.cond (.t 24)
      (.seq
       (.ops [
         ⟨(some 25), (.p .mov), [.t 7], none⟩,
         ⟨(some 26), (.p .mov), [.t 8], none⟩,
         ⟨(some 27), (.p .mov), [.t 8], none⟩,
         ⟨(some 28), (.p (.bin .add .ifc)), [.t 27, .c (.int .i64 1)], none⟩,
         ⟨(some 29), (.p (.slc 2 true true)), [.t 25, .t 26, .t 28], none⟩,
         ⟨(some 6), (.p .mov), [.t 29], none⟩])
       (.ret [6]))
      .skip)))
   (.ops [
     ⟨(some 16), (.p .mov), [.t 8], none⟩,
     ⟨(some 17), (.p (.bin .add .ifc)), [.t 16, .c (.int .i64 1)], none⟩,
     ⟨(some 8), (.p .mov), [.t 17], none⟩])))
def r05_one_L0 : CCode := .bloop 0 [1, 7, 8] [] r05_one_B0
def r05_one_C : CCode :=
 (.seq
  (.ops [
    ⟨(some 3), (.h (.box 3)), [.t 0], none⟩,
    ⟨(some 6), (.p .mov), [.c .nils], none⟩])
  (.seq
   (.ops [
     ⟨(some 9), (.h (.load true 10)), [.t 3], none⟩,
     ⟨(some 10), (.p .mov), [.t 2], none⟩,
     ⟨(some 11), .call, [.c (.fn (.func 91) [] []), .t 9, .t 10], none⟩,
     ⟨(some 7), (.p .mov), [.t 11], none⟩])
   (.seq
    (.seq
     (.ops [
       ⟨(some 8), (.p .mov), [.c (.int .i64 0)], none⟩])
     r05_one_L0)
    (.seq
     (.ops [
       ⟨(some 6), (.p .mov), [.c .nils], none⟩])
     (.ret [6])))))
def r05_one_I : FInfo := ⟨(.fz false), 3, r05_one_C, [.tmp 6]⟩
def r05_one_A : Ann := ⟨[], [], [(0, [1, 7, 8], [])], [(1, [1, 7, 8])], [3]⟩
abbrev n_r05_one : Nat := 102

/-! ### slices.Concat[[]balise/api.End,balise/api.End] -/
def slices_Concat_End_B0 : CCode :=
 (.seq
  (.ops [
    ⟨(some 12), (.p (.bin .lss .ifc)), [.t 11, .t 10], none⟩])
  (.seq
   (.cond (.t 12)
    .skip
    (.exit 0))
   (.seq
    (.block 1 (some [0, 3, 9, 10, 11])
     (.seq
      (.ops [
        ⟨(some 13), (.p (.iaddr 1)), [.t 9, .t 11], none⟩,
        ⟨(some 14), (.h (.load false 1)), [.t 13], none⟩,
        ⟨(some 5), (.p .mov), [.t 14], none⟩])
      (.seq
       (.ops [
         ⟨(some 15), (.p .mov), [.t 3], none⟩,
         ⟨(some 16), (.p .mov), [.t 5], none⟩,
         ⟨(some 17), (.p .len), [.t 16], none⟩,
         ⟨(some 18), (.p (.bin .add .ifc)), [.t 15, .t 17], none⟩,
         ⟨(some 3), (.p .mov), [.t 18], none⟩])
       (.seq
        (.ops [
          ⟨(some 19), (.p .mov), [.t 3], none⟩,
          ⟨(some 20), (.p (.bin .lss .ifc)), [.t 19, .c (.int .i64 0)], none⟩])
        (.cond (.t 20)
         bad
         .skip)))))
    (.ops [
      ⟨(some 22), (.p (.bin .add .ifc)), [.t 11, .c (.int .i64 1)], none⟩,
      ⟨(some 11), (.p .mov), [.t 22], none⟩]))))
def slices_Concat_End_L0 : CCode := .bloop 0 [0, 3, 9, 10, 11] [0, 3] slices_Concat_End_B0

def slices_Concat_End_B2 : CCode :=
 (.seq
  (.ops [
    ⟨(some 28), (.p (.bin .lss .ifc)), [.t 27, .t 26], none⟩])
  (.seq
   (.cond (.t 28)
    .skip
    (.exit 2))
   (.seq
    (.block 3 (some [6, 25, 26, 27])
     (.seq
      (.ops [
        ⟨(some 29), (.p (.iaddr 1)), [.t 25, .t 27], none⟩,
        ⟨(some 30), (.h (.load false 1)), [.t 29], none⟩,
        ⟨(some 8), (.p .mov), [.t 30], none⟩])
      (.ops [
        ⟨(some 31), (.p .mov), [.t 6], none⟩,
        ⟨(some 32), (.p .mov), [.t 8], none⟩,
        ⟨(some 33), (.h (.app 2 16 [(.int .i64 0), (.int .i64 0)])), [.t 31, .t 32], none⟩,
        ⟨(some 6), (.p .mov), [.t 33], none⟩])))
    (.ops [
      ⟨(some 34), (.p (.bin .add .ifc)), [.t 27, .c (.int .i64 1)], none⟩,
      ⟨(some 27), (.p .mov), [.t 34], none⟩]))))
def slices_Concat_End_L2 : CCode := .bloop 2 [6, 25, 26, 27] [6] slices_Concat_End_B2
def slices_Concat_End_C : CCode :=
 (.seq
  (.ops [
    ⟨(some 2), (.p .mov), [.c .nils], none⟩])
  (.seq
   (.ops [
     ⟨(some 3), (.p .mov), [.c (.int .i64 0)], none⟩])
   (.seq
    (.seq
     (.ops [
       ⟨(some 9), (.p .mov), [.t 0], none⟩,
       ⟨(some 10), (.p .len), [.t 9], none⟩,
       ⟨(some 11), (.p .mov), [.c (.int .i64 0)], none⟩])
     slices_Concat_End_L0)
    (.seq
     (.ops [
       ⟨(some 23), (.p .mov), [.t 3], none⟩,
       ⟨(some 24), .call, [.c (.fn (.func 106) [] []), .c .nils, .t 23], none⟩,
       ⟨(some 6), (.p .mov), [.t 24], none⟩])
     (.seq
      (.seq
       (.ops [
         ⟨(some 25), (.p .mov), [.t 0], none⟩,
         ⟨(some 26), (.p .len), [.t 25], none⟩,
         ⟨(some 27), (.p .mov), [.c (.int .i64 0)], none⟩])
       slices_Concat_End_L2)
      (.seq
       (.ops [
         ⟨(some 35), (.p .mov), [.t 6], none⟩,
         ⟨(some 2), (.p .mov), [.t 35], none⟩])
       (.ret [2])))))))
def slices_Concat_End_I : FInfo := ⟨(.fz false), 1, slices_Concat_End_C, [.tmp 2]⟩
def slices_Concat_End_A : Ann := ⟨[], [], [(0, [0, 3, 9, 10, 11], [0, 3]), (2, [6, 25, 26, 27], [6])], [(1, [0, 3, 9, 10, 11]), (3, [6, 25, 26, 27])], []⟩
abbrev n_slices_Concat_End : Nat := 79

/-! ### slices.Grow[[]balise/api.End,balise/api.End] -/
def slices_Grow_End_C : CCode :=
 (.seq
  (.ops [
    ⟨(some 4), (.p .mov), [.c .nils], none⟩])
  (.seq
   (.seq
    (.ops [
      ⟨(some 5), (.p .mov), [.t 1], none⟩,
      ⟨(some 6), (.p (.bin .lss .ifc)), [.t 5, .c (.int .i64 0)], none⟩])
    (.cond (.t 6)
     bad
     .skip))
   (.seq
    (.seq
     (.ops [
       ⟨(some 8), (.p .mov), [.t 1], none⟩,
       ⟨(some 9), (.p .mov), [.t 0], none⟩,
       ⟨(some 10), (.p .cap), [.t 9], none⟩,
       ⟨(some 11), (.p .mov), [.t 0], none⟩,
       ⟨(some 12), (.p .len), [.t 11], none⟩,
       ⟨(some 13), (.p (.bin .sub .ifc)), [.t 10, .t 12], none⟩,
       ⟨(some 14), (.p (.bin .sub .ifc)), [.t 8, .t 13], none⟩,
       ⟨(some 1), (.p .mov), [.t 14], none⟩])
     (.seq
      (.ops [
        ⟨(some 15), (.p .mov), [.t 1], none⟩,
        ⟨(some 16), (.p (.bin .gtr .ifc)), [.t 15, .c (.int .i64 0)], none⟩])
      (.cond (.t 16)
       (.ops [
         ⟨(some 17), (.p .mov), [.t 0], none⟩,
         ⟨(some 18), (.p .mov), [.t 0], none⟩,
         ⟨(some 19), (.p .cap), [.t 18], none⟩,
         ⟨(some 20), (.p (.slc 2 false true)), [.t 17, .t 19], none⟩,
         ⟨(some 21), (.p .mov), [.t 1], none⟩,
         ⟨(some 22), (.h (.appz 2 16 [(.int .i64 0), (.int .i64 0)])), [.t 20, .t 21], none⟩,
         ⟨(some 23), (.p .mov), [.t 0], none⟩,
         ⟨(some 24), (.p .len), [.t 23], none⟩,
         ⟨(some 25), (.p (.slc 2 false true)), [.t 22, .t 24], none⟩,
         ⟨(some 0), (.p .mov), [.t 25], none⟩])
       .skip)))
    (.seq
     (.ops [
       ⟨(some 26), (.p .mov), [.t 0], none⟩,
       ⟨(some 4), (.p .mov), [.t 26], none⟩])
     (.ret [4])))))
def slices_Grow_End_I : FInfo := ⟨.ref, 2, slices_Grow_End_C, [.tmp 4]⟩
def slices_Grow_End_A : Ann := ⟨[], [], [], [], []⟩
abbrev n_slices_Grow_End : Nat := 106

end Go.Proofs.Ytmkdhpjidhbijaa.Zt
