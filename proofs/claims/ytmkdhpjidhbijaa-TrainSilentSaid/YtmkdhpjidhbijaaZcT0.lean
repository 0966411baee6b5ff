/- Go functions, as the interpreter runs them: written by a program of this claim's own, proved to be what the compiler makes of them. No condition. -/
import Derived.Test.YtmkdhpjidhbijaaZcSym
import Derived.Test.YtmkdhpjidhbijaaProg
import Derived.Test.YtmkdhpjidhbijaaZcKt
set_option linter.all false
namespace Go.Proofs.Ytmkdhpjidhbijaa.Zt
open Go Go.Zc
set_option maxRecDepth 100000

/-! ### balise/baliselaw10.TrainFull -/
def l10_TrainFull_B0 : CCode :=
 (.seq
  (.seq
   (.ops [
     ⟨(some 11), (.p .mov), [.t 6], none⟩,
     ⟨(some 12), (.p (.bin .lss .ifc)), [.t 11, .c (.int .i64 6)], none⟩])
   (.cond (.t 12)
    .skip
    (.exit 0)))
  (.seq
   (.block 1 (some [0, 1, 5, 6])
    (.seq
     (.ops [
       ⟨(some 15), (.p .mov), [.t 5], none⟩,
       ⟨(some 16), (.p .mov), [.t 6], none⟩,
       ⟨(some 17), (.p (.bin .add .ifc)), [.c (.int .i64 10), .t 16], none⟩,
       ⟨(some 18), (.p .mov), [.t 1], none⟩,
       ⟨(some 19), (.p (.toInt .i64)), [.t 18], none⟩,
       ⟨(some 20), .call, [.c (.fn (.func 25) [] []), .t 15, .t 17, .t 19], none⟩,
       ⟨(some 21), (.p (.bin .neq .int)), [.t 20, .c (.int .i64 0)], none⟩])
     (.cond (.t 21)
      (.seq
       (.ops [
         ⟨(some 4), (.p .mov), [.c (.bool false)], none⟩])
       (.ret [4]))
      .skip)))
   (.ops [
     ⟨(some 13), (.p .mov), [.t 6], none⟩,
     ⟨(some 14), (.p (.bin .add .ifc)), [.t 13, .c (.int .i64 1)], none⟩,
     ⟨(some 6), (.p .mov), [.t 14], none⟩])))
def l10_TrainFull_L0 : CCode := .bloop 0 [0, 1, 5, 6] [0, 5] l10_TrainFull_B0
def l10_TrainFull_C : CCode :=
 (.seq
  (.ops [
    ⟨(some 4), (.p .mov), [.c (.bool false)], none⟩])
  (.seq
   (.seq
    (.ops [
      ⟨(some 8), .call, [.c (.fn (.func 15) [] [])], none⟩,
      ⟨(some 9), (.p (.un .not)), [.t 8], none⟩])
    (.cond (.t 9)
     (.seq
      (.ops [
        ⟨(some 4), (.p .mov), [.c (.bool false)], none⟩])
      (.ret [4]))
     .skip))
   (.seq
    (.ops [
      ⟨(some 10), .call, [.c (.fn (.func 23) [] [])], none⟩,
      ⟨(some 5), (.p .mov), [.t 10], none⟩])
    (.seq
     (.seq
      (.ops [
        ⟨(some 6), (.p .mov), [.c (.int .i64 0)], none⟩])
      l10_TrainFull_L0)
     (.seq
      (.ops [
        ⟨(some 22), (.p .mov), [.t 0], none⟩,
        ⟨(some 23), (.p (.bin .rem .ifc)), [.t 22, .c (.int .u8 6)], none⟩,
        ⟨(some 24), (.p (.toInt .i64)), [.t 23], none⟩,
        ⟨(some 25), (.p (.bin .add .ifc)), [.c (.int .i64 10), .t 24], none⟩,
        ⟨(some 7), (.p .mov), [.t 25], none⟩])
      (.seq
       (.ops [
         ⟨(some 26), (.p .mov), [.t 5], none⟩,
         ⟨(some 27), .call, [.c (.fn (.func 25) [] []), .t 26, .c (.int .i64 99), .c (.int .i64 0)], none⟩,
         ⟨(some 28), (.p (.bin .eql .int)), [.t 27, .c (.int .i64 6)], none⟩,
         ⟨(some 29), (.p .mov), [.t 28], none⟩,
         ⟨(some 30), (.p .mov), [.t 5], (some (29, true))⟩,
         ⟨(some 31), (.p .mov), [.t 7], (some (29, true))⟩,
         ⟨(some 32), .call, [.c (.fn (.func 25) [] []), .t 30, .t 31, .c (.int .i64 0)], (some (29, true))⟩,
         ⟨(some 33), (.p (.bin .eql .int)), [.t 32, .c (.int .i64 8)], (some (29, true))⟩,
         ⟨(some 34), (.p .pick), [.t 29, .t 33, .c (.bool false)], none⟩,
         ⟨(some 35), (.p .mov), [.t 34], none⟩,
         ⟨(some 36), (.p .mov), [.t 5], (some (35, true))⟩,
         ⟨(some 37), (.p .mov), [.t 7], (some (35, true))⟩,
         ⟨(some 38), .call, [.c (.fn (.func 36) [] []), .t 36, .t 37], (some (35, true))⟩,
         ⟨(some 39), (.p .pick), [.t 35, .t 38, .c (.bool false)], none⟩,
         ⟨(some 40), (.p .mov), [.t 39], none⟩,
         ⟨(some 41), (.p .mov), [.t 5], (some (40, true))⟩,
         ⟨(some 42), (.p .mov), [.t 7], (some (40, true))⟩,
         ⟨(some 43), .call, [.c (.fn (.func 36) [] []), .t 41, .t 42], (some (40, true))⟩,
         ⟨(some 44), (.p (.un .not)), [.t 43], (some (40, true))⟩,
         ⟨(some 45), (.p .pick), [.t 40, .t 44, .c (.bool false)], none⟩,
         ⟨(some 46), (.p .mov), [.t 45], none⟩,
         ⟨(some 47), (.p .mov), [.t 5], (some (46, true))⟩,
         ⟨(some 48), .call, [.c (.fn (.func 25) [] []), .t 47, .c (.int .i64 99), .c (.int .i64 0)], (some (46, true))⟩,
         ⟨(some 49), (.p (.bin .eql .int)), [.t 48, .c (.int .i64 0)], (some (46, true))⟩,
         ⟨(some 50), (.p .pick), [.t 46, .t 49, .c (.bool false)], none⟩,
         ⟨(some 51), (.p .mov), [.t 50], none⟩,
         ⟨(some 52), (.p .mov), [.t 5], (some (51, true))⟩,
         ⟨(some 53), .call, [.c (.fn (.func 37) [] []), .t 52], (some (51, true))⟩,
         ⟨(some 54), (.p .len), [.t 53], (some (51, true))⟩,
         ⟨(some 55), (.p (.bin .eql .int)), [.t 54, .c (.int .i64 6)], (some (51, true))⟩,
         ⟨(some 56), (.p .pick), [.t 51, .t 55, .c (.bool false)], none⟩,
         ⟨(some 4), (.p .mov), [.t 56], none⟩])
       (.ret [4])))))))
def l10_TrainFull_I : FInfo := ⟨(.fz false), 2, l10_TrainFull_C, [.tmp 4]⟩
def l10_TrainFull_A : Ann := ⟨[], [], [(0, [0, 1, 5, 6], [0, 5])], [(1, [0, 1, 5, 6])], []⟩
abbrev n_l10_TrainFull : Nat := 7

/-! ### balise/baliselaw10.TrainSilent -/
def l10_TrainSilent_B0 : CCode :=
 (.seq
  (.seq
   (.ops [
     ⟨(some 19), (.p .mov), [.t 9], none⟩,
     ⟨(some 20), (.p .mov), [.t 0], none⟩,
     ⟨(some 21), (.p .len), [.t 20], none⟩,
     ⟨(some 22), (.p (.bin .lss .ifc)), [.t 19, .t 21], none⟩])
   (.cond (.t 22)
    .skip
    (.exit 0)))
  (.seq
   (.block 1 (some [0, 1, 2, 7, 8, 9])
    (.seq
     (.seq
      (.ops [
        ⟨(some 25), (.p .mov), [.t 7], none⟩,
        ⟨(some 26), (.p .mov), [.t 9], none⟩,
        ⟨(some 27), (.p .mov), [.t 0], none⟩,
        ⟨(some 28), (.p .mov), [.t 9], none⟩,
        ⟨(some 29), (.p (.iaddr 1)), [.t 27, .t 28], none⟩,
        ⟨(some 30), (.h (.load false 1)), [.t 29], none⟩,
        ⟨(some 31), (.p (.toInt .i64)), [.t 30], none⟩,
        ⟨(some 32), .call, [.c (.fn (.func 25) [] []), .t 25, .t 26, .t 31], none⟩,
        ⟨(some 33), (.p (.bin .neq .int)), [.t 32, .c (.int .i64 0)], none⟩])
      (.cond (.t 33)
       (.seq
        (.ops [
          ⟨(some 6), (.p .mov), [.c (.bool false)], none⟩])
        (.ret [6]))
       .skip))
     (.seq
      (.ops [
        ⟨(some 34), (.p .mov), [.t 2], none⟩,
        ⟨(some 35), (.p (.toInt .i64)), [.t 34], none⟩,
        ⟨(some 36), (.p .mov), [.t 0], none⟩,
        ⟨(some 37), (.p .mov), [.t 9], none⟩,
        ⟨(some 38), (.p (.iaddr 1)), [.t 36, .t 37], none⟩,
        ⟨(some 39), (.h (.load false 1)), [.t 38], none⟩,
        ⟨(some 40), (.p (.toInt .i64)), [.t 39], none⟩,
        ⟨(some 41), (.p (.bin .sub .ifc)), [.t 35, .t 40], none⟩,
        ⟨(some 42), (.p .mov), [.t 1], none⟩,
        ⟨(some 43), (.p (.toInt .i64)), [.t 42], none⟩,
        ⟨(some 44), (.p (.bin .gtr .ifc)), [.t 41, .t 43], none⟩])
      (.cond (.t 44)
       (.ops [
         ⟨(some 45), (.p .mov), [.t 8], none⟩,
         ⟨(some 46), (.p .mov), [.t 9], none⟩,
         ⟨(some 47), (.h (.bslF 1 1 [(.int .i64 0)] [(0, 1)])), [.t 46], none⟩,
         ⟨(some 48), (.h (.app 1 8 [(.int .i64 0)])), [.t 45, .t 47], none⟩,
         ⟨(some 8), (.p .mov), [.t 48], none⟩])
       .skip))))
   (.ops [
     ⟨(some 23), (.p .mov), [.t 9], none⟩,
     ⟨(some 24), (.p (.bin .add .ifc)), [.t 23, .c (.int .i64 1)], none⟩,
     ⟨(some 9), (.p .mov), [.t 24], none⟩])))
def l10_TrainSilent_L0 : CCode := .bloop 0 [0, 1, 2, 7, 8, 9] [0, 1, 2, 7, 8] l10_TrainSilent_B0
def l10_TrainSilent_C : CCode :=
 (.seq
  (.ops [
    ⟨(some 6), (.p .mov), [.c (.bool false)], none⟩])
  (.seq
   (.seq
    (.ops [
      ⟨(some 10), .call, [.c (.fn (.func 15) [] [])], none⟩,
      ⟨(some 11), (.p (.un .not)), [.t 10], none⟩,
      ⟨(some 12), (.p .mov), [.t 11], none⟩,
      ⟨(some 13), (.p .mov), [.t 0], (some (12, false))⟩,
      ⟨(some 14), (.p .len), [.t 13], (some (12, false))⟩,
      ⟨(some 15), (.p (.bin .gtr .ifc)), [.t 14, .c (.int .i64 6)], (some (12, false))⟩,
      ⟨(some 16), (.p .pick), [.t 12, .c (.bool true), .t 15], none⟩])
    (.cond (.t 16)
     (.seq
      (.ops [
        ⟨(some 17), .call, [.c (.fn (.func 15) [] [])], none⟩,
        ⟨(some 6), (.p .mov), [.t 17], none⟩])
      (.ret [6]))
     .skip))
   (.seq
    (.ops [
      ⟨(some 18), .call, [.c (.fn (.func 23) [] [])], none⟩,
      ⟨(some 7), (.p .mov), [.t 18], none⟩])
    (.seq
     (.ops [
       ⟨(some 8), (.p .mov), [.c .nils], none⟩])
     (.seq
      (.seq
       (.ops [
         ⟨(some 9), (.p .mov), [.c (.int .i64 0)], none⟩])
       l10_TrainSilent_L0)
      (.seq
       (.ops [
         ⟨(some 49), (.p .mov), [.t 7], none⟩,
         ⟨(some 50), (.p .mov), [.t 2], none⟩,
         ⟨(some 51), (.p (.toInt .i64)), [.t 50], none⟩,
         ⟨(some 52), (.p .mov), [.t 1], none⟩,
         ⟨(some 53), (.p (.toInt .i64)), [.t 52], none⟩,
         ⟨(some 54), .call, [.c (.fn (.func 38) [] []), .t 49, .t 51, .t 53], none⟩,
         ⟨(some 55), (.p .mov), [.t 8], none⟩,
         ⟨(some 56), .call, [.c (.fn (.func 27) [] []), .t 54, .t 55], none⟩,
         ⟨(some 57), (.p .mov), [.t 56], none⟩,
         ⟨(some 58), (.p .mov), [.t 7], (some (57, true))⟩,
         ⟨(some 59), .call, [.c (.fn (.func 37) [] []), .t 58], (some (57, true))⟩,
         ⟨(some 60), (.p .len), [.t 59], (some (57, true))⟩,
         ⟨(some 61), (.p .mov), [.t 0], (some (57, true))⟩,
         ⟨(some 62), (.p .len), [.t 61], (some (57, true))⟩,
         ⟨(some 63), (.p .mov), [.t 8], (some (57, true))⟩,
         ⟨(some 64), (.p .len), [.t 63], (some (57, true))⟩,
         ⟨(some 65), (.p (.bin .sub .ifc)), [.t 62, .t 64], (some (57, true))⟩,
         ⟨(some 66), (.p (.bin .eql .int)), [.t 60, .t 65], (some (57, true))⟩,
         ⟨(some 67), (.p .pick), [.t 57, .t 66, .c (.bool false)], none⟩,
         ⟨(some 68), (.p .mov), [.t 67], none⟩,
         ⟨(some 69), (.p .mov), [.t 7], (some (68, true))⟩,
         ⟨(some 70), (.p .mov), [.t 2], (some (68, true))⟩,
         ⟨(some 71), (.p (.toInt .i64)), [.t 70], (some (68, true))⟩,
         ⟨(some 72), (.p .mov), [.t 1], (some (68, true))⟩,
         ⟨(some 73), (.p (.toInt .i64)), [.t 72], (some (68, true))⟩,
         ⟨(some 74), .call, [.c (.fn (.func 38) [] []), .t 69, .t 71, .t 73], (some (68, true))⟩,
         ⟨(some 75), (.p .len), [.t 74], (some (68, true))⟩,
         ⟨(some 76), (.p (.bin .eql .int)), [.t 75, .c (.int .i64 0)], (some (68, true))⟩,
         ⟨(some 77), (.p .pick), [.t 68, .t 76, .c (.bool false)], none⟩,
         ⟨(some 78), (.p .mov), [.t 77], none⟩,
         ⟨(some 79), (.p .mov), [.t 7], (some (78, true))⟩,
         ⟨(some 80), (.p .mov), [.t 2], (some (78, true))⟩,
         ⟨(some 81), (.p (.toInt .i64)), [.t 80], (some (78, true))⟩,
         ⟨(some 82), (.p .mov), [.t 1], (some (78, true))⟩,
         ⟨(some 83), (.p (.toInt .i64)), [.t 82], (some (78, true))⟩,
         ⟨(some 84), .call, [.c (.fn (.func 39) [] []), .t 79, .t 81, .t 83], (some (78, true))⟩,
         ⟨(some 85), (.p .len), [.t 84], (some (78, true))⟩,
         ⟨(some 86), (.p (.bin .eql .int)), [.t 85, .c (.int .i64 0)], (some (78, true))⟩,
         ⟨(some 87), (.p .pick), [.t 78, .t 86, .c (.bool false)], none⟩,
         ⟨(some 6), (.p .mov), [.t 87], none⟩])
       (.ret [6])))))))
def l10_TrainSilent_I : FInfo := ⟨(.fz false), 3, l10_TrainSilent_C, [.tmp 6]⟩
def l10_TrainSilent_A : Ann := ⟨[], [], [(0, [0, 1, 2, 7, 8, 9], [0, 1, 2, 7, 8])], [(1, [0, 1, 2, 7, 8, 9])], []⟩
abbrev n_l10_TrainSilent : Nat := 8

/-! ### balise/baliselaw10.behind -/
def l10_behind_C : CCode :=
 (.seq
  (.ops [
    ⟨(some 0), (.p .mov), [.c (.bool false)], none⟩])
  (.seq
   (.ops [
     ⟨(some 1), (.h (.bslF 1 2 [(.int .i64 0)] [(0, 1), (1, 1)])), [.c (.int .i64 8), .c (.int .i64 7)], none⟩,
     ⟨(some 2), (.h (.bslF 1 4 [(.int .i64 0)] [(0, 1), (1, 1), (2, 1), (3, 1)])), [.c (.int .i64 8), .c (.int .i64 7), .c (.int .i64 6), .c (.int .i64 5)], none⟩,
     ⟨(some 3), .call, [.c (.fn (.func 54) [] []), .t 1, .t 2], none⟩,
     ⟨(some 4), (.h (.bslF 1 4 [(.int .i64 0)] [(0, 1), (1, 1), (2, 1), (3, 1)])), [.c (.int .i64 8), .c (.int .i64 7), .c (.int .i64 6), .c (.int .i64 5)], none⟩,
     ⟨(some 5), .call, [.c (.fn (.func 27) [] []), .t 3, .t 4], none⟩,
     ⟨(some 6), (.p .mov), [.t 5], none⟩,
     ⟨(some 7), (.h (.bslF 1 2 [(.int .i64 0)] [(0, 1), (1, 1)])), [.c (.int .i64 8), .c (.int .i64 7)], (some (6, true))⟩,
     ⟨(some 8), (.h (.bslF 1 2 [(.int .i64 0)] [(0, 1), (1, 1)])), [.c (.int .i64 6), .c (.int .i64 5)], (some (6, true))⟩,
     ⟨(some 9), .call, [.c (.fn (.func 54) [] []), .t 7, .t 8], (some (6, true))⟩,
     ⟨(some 10), (.h (.bslF 1 4 [(.int .i64 0)] [(0, 1), (1, 1), (2, 1), (3, 1)])), [.c (.int .i64 8), .c (.int .i64 7), .c (.int .i64 6), .c (.int .i64 5)], (some (6, true))⟩,
     ⟨(some 11), .call, [.c (.fn (.func 27) [] []), .t 9, .t 10], (some (6, true))⟩,
     ⟨(some 12), (.p .pick), [.t 6, .t 11, .c (.bool false)], none⟩,
     ⟨(some 0), (.p .mov), [.t 12], none⟩])
   (.ret [0])))
def l10_behind_I : FInfo := ⟨(.fz false), 0, l10_behind_C, [.tmp 0]⟩
def l10_behind_A : Ann := ⟨[], [], [], [], []⟩
abbrev n_l10_behind : Nat := 15

/-! ### balise/train.New -/
def train_New_C : CCode :=
 (.seq
  (.ops [
    ⟨(some 0), (.p .mov), [.c .nilp], none⟩])
  (.seq
   (.ops [
     ⟨(some 1), (.h .mkmap), [], none⟩,
     ⟨(some 2), (.p (.bld [.nilm] [(0, 1)])), [.t 1], none⟩,
     ⟨(some 3), (.h .boxh), [.t 2], none⟩,
     ⟨(some 0), (.p .mov), [.t 3], none⟩])
   (.ret [0])))
def train_New_I : FInfo := ⟨.ref, 0, train_New_C, [.tmp 0]⟩
def train_New_A : Ann := ⟨[3], [], [], [], []⟩
abbrev n_train_New : Nat := 23

/-! ### (*balise/train.Register).Open -/
def train_Register_Open_C : CCode :=
 (.seq
  (.ops [
    ⟨(some 6), (.p .mov), [.c (.int .i64 0)], none⟩])
  (.seq
   (.block 0 (some [0, 1, 2])
    (.seq
     (.ops [
       ⟨(some 8), (.p .mov), [.t 0], none⟩,
       ⟨(some 9), (.p (.bin .eql .ptr)), [.t 8, .c .nilp], none⟩,
       ⟨(some 7), (.p .mov), [.t 9], none⟩])
     (.cond (.t 7)
      (.seq
       (.ops [
         ⟨(some 6), (.p .mov), [.c (.int .i64 7)], none⟩])
       (.ret [6]))
      (.seq
       (.ops [
         ⟨(some 11), (.p .mov), [.t 0], none⟩,
         ⟨(some 12), (.p .nchk), [.t 11], none⟩,
         ⟨(some 13), (.p (.faddr 0)), [.t 12], none⟩,
         ⟨(some 14), (.h (.load false 1)), [.t 13], none⟩,
         ⟨(some 15), (.p .mov), [.t 1], none⟩,
         ⟨(some 16), (.h (.look 0 .nilp false)), [.t 14, .t 15], none⟩,
         ⟨(some 17), (.p (.bin .neq .ptr)), [.t 16, .c .nilp], none⟩,
         ⟨(some 10), (.p .mov), [.t 17], none⟩])
       (.cond (.t 10)
        (.seq
         (.ops [
           ⟨(some 6), (.p .mov), [.c (.int .i64 8)], none⟩])
         (.ret [6]))
        (.seq
         (.ops [
           ⟨(some 19), (.p .mov), [.t 0], none⟩,
           ⟨(some 20), (.p .nchk), [.t 19], none⟩,
           ⟨(some 21), (.p (.faddr 0)), [.t 20], none⟩,
           ⟨(some 22), (.h (.load false 1)), [.t 21], none⟩,
           ⟨(some 23), (.h .lenM), [.t 22], none⟩,
           ⟨(some 24), (.p (.bin .geq .ifc)), [.t 23, .c (.int .i64 6)], none⟩,
           ⟨(some 18), (.p .mov), [.t 24], none⟩])
         (.cond (.t 18)
          (.seq
           (.ops [
             ⟨(some 6), (.p .mov), [.c (.int .i64 6)], none⟩])
           (.ret [6]))
          .skip)))))))
   (.seq
    (.ops [
      ⟨(some 25), (.p .mov), [.t 0], none⟩,
      ⟨(some 26), (.p .nchk), [.t 25], none⟩,
      ⟨(some 27), (.p (.faddr 0)), [.t 26], none⟩,
      ⟨(some 28), (.h (.load false 1)), [.t 27], none⟩,
      ⟨(some 29), (.p .mov), [.t 1], none⟩,
      ⟨(some 30), (.p .mov), [.t 1], none⟩,
      ⟨(some 31), (.p .mov), [.t 2], none⟩,
      ⟨(some 32), (.p (.bld [(.int .i64 0), (.int .i64 0), (.int .i64 0), (.int .i64 0), (.int .i64 0), .nils] [(0, 1), (1, 1), (2, 1)])), [.t 30, .t 31, .c (.int .i64 (-1))], none⟩,
      ⟨(some 33), (.h .boxh), [.t 32], none⟩,
      ⟨none, (.h (.mput 0)), [.t 28, .t 29, .t 33], none⟩])
    (.seq
     (.ops [
       ⟨(some 6), (.p .mov), [.c (.int .i64 0)], none⟩])
     (.ret [6])))))
def train_Register_Open_I : FInfo := ⟨.ref, 3, train_Register_Open_C, [.tmp 6]⟩
def train_Register_Open_A : Ann := ⟨[33], [], [], [(0, [0, 1, 2])], []⟩
abbrev n_train_Register_Open : Nat := 25

/-! ### (*balise/train.Register).Close -/
def train_Register_Close_C : CCode :=
 (.seq
  (.ops [
    ⟨(some 4), (.p .mov), [.c (.bool false)], none⟩])
  (.seq
   (.seq
    (.ops [
      ⟨(some 5), (.p .mov), [.t 0], none⟩,
      ⟨(some 6), (.p (.bin .eql .ptr)), [.t 5, .c .nilp], none⟩,
      ⟨(some 7), (.p .mov), [.t 6], none⟩,
      ⟨(some 8), (.p .mov), [.t 0], (some (7, false))⟩,
      ⟨(some 9), (.p .nchk), [.t 8], (some (7, false))⟩,
      ⟨(some 10), (.p (.faddr 0)), [.t 9], (some (7, false))⟩,
      ⟨(some 11), (.h (.load false 1)), [.t 10], (some (7, false))⟩,
      ⟨(some 12), (.p .mov), [.t 1], (some (7, false))⟩,
      ⟨(some 13), (.h (.look 0 .nilp false)), [.t 11, .t 12], (some (7, false))⟩,
      ⟨(some 14), (.p (.bin .eql .ptr)), [.t 13, .c .nilp], (some (7, false))⟩,
      ⟨(some 15), (.p .pick), [.t 7, .c (.bool true), .t 14], none⟩])
    (.cond (.t 15)
     (.seq
      (.ops [
        ⟨(some 4), (.p .mov), [.c (.bool false)], none⟩])
      (.ret [4]))
     .skip))
   (.seq
    (.ops [
      ⟨(some 16), (.p .mov), [.t 0], none⟩,
      ⟨(some 17), (.p .nchk), [.t 16], none⟩,
      ⟨(some 18), (.p (.faddr 0)), [.t 17], none⟩,
      ⟨(some 19), (.h (.load false 1)), [.t 18], none⟩,
      ⟨(some 20), (.p .mov), [.t 1], none⟩,
      ⟨none, (.h (.mdel 0)), [.t 19, .t 20], none⟩])
    (.seq
     (.ops [
       ⟨(some 4), (.p .mov), [.c (.bool true)], none⟩])
     (.ret [4])))))
def train_Register_Close_I : FInfo := ⟨.ref, 2, train_Register_Close_C, [.tmp 4]⟩
def train_Register_Close_A : Ann := ⟨[], [], [], [], []⟩
abbrev n_train_Register_Close : Nat := 36

/-! ### (*balise/train.Register).All -/
def train_Register_All_C : CCode :=
 (.seq
  (.ops [
    ⟨(some 2), (.p .mov), [.c .nils], none⟩])
  (.seq
   (.seq
    (.ops [
      ⟨(some 3), (.p .mov), [.t 0], none⟩,
      ⟨(some 4), (.p (.bin .eql .ptr)), [.t 3, .c .nilp], none⟩])
    (.cond (.t 4)
     (.seq
      (.ops [
        ⟨(some 2), (.p .mov), [.c .nils], none⟩])
      (.ret [2]))
     .skip))
   (.seq
    (.ops [
      ⟨(some 5), (.p .mov), [.t 0], none⟩,
      ⟨(some 6), (.p .nchk), [.t 5], none⟩,
      ⟨(some 7), (.p (.faddr 0)), [.t 6], none⟩,
      ⟨(some 8), (.h (.load false 1)), [.t 7], none⟩,
      ⟨(some 9), .call, [.c (.fn (.func 70) [] []), .t 8], none⟩,
      ⟨(some 10), .call, [.c (.fn (.func 69) [] []), .t 9], none⟩,
      ⟨(some 2), (.p .mov), [.t 10], none⟩])
    (.ret [2]))))
def train_Register_All_I : FInfo := ⟨.ref, 1, train_Register_All_C, [.tmp 2]⟩
def train_Register_All_A : Ann := ⟨[], [], [], [], []⟩
abbrev n_train_Register_All : Nat := 37

/-! ### (*balise/train.Register).Mute -/
def train_Register_Mute_C : CCode :=
 (.seq
  (.ops [
    ⟨(some 3), (.h .boxh), [.t 0], none⟩,
    ⟨(some 4), (.h .boxh), [.t 1], none⟩,
    ⟨(some 5), (.h .boxh), [.t 2], none⟩,
    ⟨(some 6), (.p .mov), [.c .nils], none⟩])
  (.seq
   (.ops [
     ⟨(some 7), (.h (.load false 1)), [.t 3], none⟩,
     ⟨(some 8), (.p (.mkfn (.func 72) 0)), [.t 4, .t 5], none⟩,
     ⟨(some 9), (.p (.mkfn (.func 73) 0)), [.t 3], none⟩,
     ⟨(some 10), .call, [.c (.fn (.func 71) [] []), .t 7, .t 8, .t 9], none⟩,
     ⟨(some 6), (.p .mov), [.t 10], none⟩])
   (.ret [6])))
def train_Register_Mute_I : FInfo := ⟨.ref, 3, train_Register_Mute_C, [.tmp 6]⟩
def train_Register_Mute_A : Ann := ⟨[3, 4, 5], [], [], [], []⟩
abbrev n_train_Register_Mute : Nat := 38

/-! ### (*balise/train.Register).Doubt -/
def train_Register_Doubt_C : CCode :=
 (.seq
  (.ops [
    ⟨(some 4), (.h .boxh), [.t 1], none⟩,
    ⟨(some 5), (.h .boxh), [.t 2], none⟩,
    ⟨(some 6), (.p .mov), [.c .nils], none⟩])
  (.seq
   (.ops [
     ⟨(some 7), (.p .mov), [.t 0], none⟩,
     ⟨(some 8), (.p (.mkfn (.func 74) 0)), [.t 4, .t 5], none⟩,
     ⟨(some 9), .call, [.c (.fn (.func 71) [] []), .t 7, .t 8, .c (.fn (.func 75) [] [])], none⟩,
     ⟨(some 6), (.p .mov), [.t 9], none⟩])
   (.ret [6])))
def train_Register_Doubt_I : FInfo := ⟨.ref, 3, train_Register_Doubt_C, [.tmp 6]⟩
def train_Register_Doubt_A : Ann := ⟨[4, 5], [], [], [], []⟩
abbrev n_train_Register_Doubt : Nat := 39

/-! ### (*balise/train.Register).those -/
def train_Register_those_B0 : CCode :=
 (.seq
  (.ops [
    ⟨(some 15), (.p (.bin .lss .ifc)), [.t 14, .t 13], none⟩])
  (.seq
   (.cond (.t 15)
    .skip
    (.exit 0))
   (.seq
    (.block 1 (some [0, 1, 2, 7, 12, 13, 14])
     (.seq
      (.ops [
        ⟨(some 16), (.p (.iaddr 1)), [.t 12, .t 14], none⟩,
        ⟨(some 17), (.h (.load false 1)), [.t 16], none⟩,
        ⟨(some 9), (.p .mov), [.t 17], none⟩])
      (.seq
       (.ops [
         ⟨(some 18), (.p .mov), [.t 0], none⟩,
         ⟨(some 19), (.p .nchk), [.t 18], none⟩,
         ⟨(some 20), (.p (.faddr 0)), [.t 19], none⟩,
         ⟨(some 21), (.h (.load false 1)), [.t 20], none⟩,
         ⟨(some 22), (.p .mov), [.t 9], none⟩,
         ⟨(some 23), (.h (.look 0 .nilp false)), [.t 21, .t 22], none⟩,
         ⟨(some 10), (.p .mov), [.t 23], none⟩])
       (.seq
        (.ops [
          ⟨(some 24), (.p .mov), [.t 1], none⟩,
          ⟨(some 25), (.p .mov), [.t 10], none⟩,
          ⟨(some 26), .call, [.t 24, .t 25], none⟩])
        (.cond (.t 26)
         (.seq
          (.ops [
            ⟨(some 27), (.p .mov), [.t 2], none⟩,
            ⟨(some 28), (.p .mov), [.t 10], none⟩,
            ⟨(some 29), .call, [.t 27, .t 28], none⟩])
          (.ops [
            ⟨(some 30), (.p .mov), [.t 7], none⟩,
            ⟨(some 31), (.p .mov), [.t 9], none⟩,
            ⟨(some 32), (.h (.bslF 1 1 [(.int .i64 0)] [(0, 1)])), [.t 31], none⟩,
            ⟨(some 33), (.h (.app 1 8 [(.int .i64 0)])), [.t 30, .t 32], none⟩,
            ⟨(some 7), (.p .mov), [.t 33], none⟩]))
         .skip)))))
    (.ops [
      ⟨(some 34), (.p (.bin .add .ifc)), [.t 14, .c (.int .i64 1)], none⟩,
      ⟨(some 14), (.p .mov), [.t 34], none⟩]))))
def train_Register_those_L0 : CCode := .bloop 0 [0, 1, 2, 7, 12, 13, 14] [7] train_Register_those_B0
def train_Register_those_C : CCode :=
 (.seq
  (.ops [
    ⟨(some 6), (.p .mov), [.c .nils], none⟩])
  (.seq
   (.ops [
     ⟨(some 7), (.p .mov), [.c .nils], none⟩])
   (.seq
    (.seq
     (.ops [
       ⟨(some 11), (.p .mov), [.t 0], none⟩,
       ⟨(some 12), .call, [.c (.fn (.func 37) [] []), .t 11], none⟩,
       ⟨(some 13), (.p .len), [.t 12], none⟩,
       ⟨(some 14), (.p .mov), [.c (.int .i64 0)], none⟩])
     train_Register_those_L0)
    (.seq
     (.ops [
       ⟨(some 35), (.p .mov), [.t 7], none⟩,
       ⟨(some 6), (.p .mov), [.t 35], none⟩])
     (.ret [6])))))
def train_Register_those_I : FInfo := ⟨.ref, 3, train_Register_those_C, [.tmp 6]⟩
def train_Register_those_A : Ann := ⟨[], [], [(0, [0, 1, 2, 7, 12, 13, 14], [7])], [(1, [0, 1, 2, 7, 12, 13, 14])], []⟩
abbrev n_train_Register_those : Nat := 71

/-! ### (*balise/train.Register).Mute$1 -/
def train_Register_Mute_1_C : CCode :=
 (.seq
  (.ops [
    ⟨(some 4), (.p .mov), [.c (.bool false)], none⟩])
  (.seq
   (.ops [
     ⟨(some 5), (.h (.load false 1)), [.t 1], none⟩,
     ⟨(some 6), (.p .mov), [.t 0], none⟩,
     ⟨(some 7), (.p .nchk), [.t 6], none⟩,
     ⟨(some 8), (.p (.faddr 1)), [.t 7], none⟩,
     ⟨(some 9), (.h (.load false 1)), [.t 8], none⟩,
     ⟨(some 10), (.p (.bin .sub .ifc)), [.t 5, .t 9], none⟩,
     ⟨(some 11), (.h (.load false 1)), [.t 2], none⟩,
     ⟨(some 12), (.p (.bin .gtr .ifc)), [.t 10, .t 11], none⟩,
     ⟨(some 4), (.p .mov), [.t 12], none⟩])
   (.ret [4])))
def train_Register_Mute_1_I : FInfo := ⟨.ref, 3, train_Register_Mute_1_C, [.tmp 4]⟩
def train_Register_Mute_1_A : Ann := ⟨[], [], [], [], []⟩
abbrev n_train_Register_Mute_1 : Nat := 72

/-! ### (*balise/train.Register).Mute$2 -/
def train_Register_Mute_2_C : CCode :=
 (.ops [
   ⟨(some 3), (.h (.load false 1)), [.t 1], none⟩,
   ⟨(some 4), (.p .mov), [.t 0], none⟩,
   ⟨(some 5), (.p .nchk), [.t 4], none⟩,
   ⟨(some 6), (.p (.faddr 0)), [.t 5], none⟩,
   ⟨(some 7), (.h (.load false 1)), [.t 6], none⟩,
   ⟨(some 8), .call, [.c (.fn (.func 36) [] []), .t 3, .t 7], none⟩])
def train_Register_Mute_2_I : FInfo := ⟨.ref, 2, train_Register_Mute_2_C, []⟩
def train_Register_Mute_2_A : Ann := ⟨[], [], [], [], []⟩
abbrev n_train_Register_Mute_2 : Nat := 73

/-! ### (*balise/train.Register).Doubt$1 -/
def train_Register_Doubt_1_C : CCode :=
 (.seq
  (.ops [
    ⟨(some 4), (.p .mov), [.c (.bool false)], none⟩])
  (.seq
   (.ops [
     ⟨(some 5), (.p .mov), [.t 0], none⟩,
     ⟨(some 6), (.p .nchk), [.t 5], none⟩,
     ⟨(some 7), (.p (.faddr 2)), [.t 6], none⟩,
     ⟨(some 8), (.h (.load false 1)), [.t 7], none⟩,
     ⟨(some 9), (.p (.bin .geq .ifc)), [.t 8, .c (.int .i64 0)], none⟩,
     ⟨(some 10), (.p .mov), [.t 9], none⟩,
     ⟨(some 11), (.h (.load false 1)), [.t 1], (some (10, true))⟩,
     ⟨(some 12), (.p .mov), [.t 0], (some (10, true))⟩,
     ⟨(some 13), (.p .nchk), [.t 12], (some (10, true))⟩,
     ⟨(some 14), (.p (.faddr 2)), [.t 13], (some (10, true))⟩,
     ⟨(some 15), (.h (.load false 1)), [.t 14], (some (10, true))⟩,
     ⟨(some 16), (.p (.bin .sub .ifc)), [.t 11, .t 15], (some (10, true))⟩,
     ⟨(some 17), (.h (.load false 1)), [.t 2], (some (10, true))⟩,
     ⟨(some 18), (.p (.bin .gtr .ifc)), [.t 16, .t 17], (some (10, true))⟩,
     ⟨(some 19), (.p .pick), [.t 10, .t 18, .c (.bool false)], none⟩,
     ⟨(some 4), (.p .mov), [.t 19], none⟩])
   (.ret [4])))
def train_Register_Doubt_1_I : FInfo := ⟨.ref, 3, train_Register_Doubt_1_C, [.tmp 4]⟩
def train_Register_Doubt_1_A : Ann := ⟨[], [], [], [], []⟩
abbrev n_train_Register_Doubt_1 : Nat := 74

/-! ### (*balise/train.Register).Doubt$2 -/
def train_Register_Doubt_2_C : CCode :=
 (.ops [
   ⟨(some 2), (.p .mov), [.t 0], none⟩,
   ⟨(some 3), (.p .nchk), [.t 2], none⟩,
   ⟨(some 4), (.p (.faddr 2)), [.t 3], none⟩,
   ⟨none, (.h (.store 1)), [.t 4, .c (.int .i64 (-1))], none⟩])
def train_Register_Doubt_2_I : FInfo := ⟨.ref, 1, train_Register_Doubt_2_C, []⟩
def train_Register_Doubt_2_A : Ann := ⟨[], [], [], [], []⟩
abbrev n_train_Register_Doubt_2 : Nat := 75

/-! ### maps.Keys[map[int]*balise/train.Train,int,*balise/train.Train] -/
def maps_Keys_Train_C : CCode :=
 (.seq
  (.ops [
    ⟨(some 1), (.h .boxh), [.t 0], none⟩,
    ⟨(some 2), (.p .mov), [.c .nilf], none⟩])
  (.seq
   (.ops [
     ⟨(some 3), (.p (.mkfn (.func 105) 0)), [.t 1], none⟩,
     ⟨(some 2), (.p .mov), [.t 3], none⟩])
   (.ret [2])))
def maps_Keys_Train_I : FInfo := ⟨.ref, 1, maps_Keys_Train_C, [.tmp 2]⟩
def maps_Keys_Train_A : Ann := ⟨[1], [], [], [], []⟩
abbrev n_maps_Keys_Train : Nat := 70

/-! ### balise/baliseref01.Ints -/
def r01_Ints_B0 : CCode :=
 (.seq
  (.seq
   (.ops [
     ⟨(some 11), (.p .mov), [.t 5], none⟩,
     ⟨(some 12), (.p .mov), [.t 0], none⟩,
     ⟨(some 13), (.p .len), [.t 12], none⟩,
     ⟨(some 14), (.p (.bin .lss .ifc)), [.t 11, .t 13], none⟩])
   (.cond (.t 14)
    .skip
    (.exit 0)))
  (.seq
   (.block 1 (some [0, 1, 5])
    (.seq
     (.ops [
       ⟨(some 17), (.p .mov), [.t 0], none⟩,
       ⟨(some 18), (.p .mov), [.t 5], none⟩,
       ⟨(some 19), (.p (.iaddr 1)), [.t 17, .t 18], none⟩,
       ⟨(some 20), (.h (.load false 1)), [.t 19], none⟩,
       ⟨(some 21), (.p .mov), [.t 1], none⟩,
       ⟨(some 22), (.p .mov), [.t 5], none⟩,
       ⟨(some 23), (.p (.iaddr 1)), [.t 21, .t 22], none⟩,
       ⟨(some 24), (.h (.load false 1)), [.t 23], none⟩,
       ⟨(some 25), (.p (.bin .neq .int)), [.t 20, .t 24], none⟩])
     (.cond (.t 25)
      (.seq
       (.ops [
         ⟨(some 4), (.p .mov), [.c (.bool false)], none⟩])
       (.ret [4]))
      .skip)))
   (.ops [
     ⟨(some 15), (.p .mov), [.t 5], none⟩,
     ⟨(some 16), (.p (.bin .add .ifc)), [.t 15, .c (.int .i64 1)], none⟩,
     ⟨(some 5), (.p .mov), [.t 16], none⟩])))
def r01_Ints_L0 : CCode := .bloop 0 [0, 1, 5] [] r01_Ints_B0
def r01_Ints_C : CCode :=
 (.seq
  (.ops [
    ⟨(some 4), (.p .mov), [.c (.bool false)], none⟩])
  (.seq
   (.seq
    (.ops [
      ⟨(some 6), (.p .mov), [.t 0], none⟩,
      ⟨(some 7), (.p .len), [.t 6], none⟩,
      ⟨(some 8), (.p .mov), [.t 1], none⟩,
      ⟨(some 9), (.p .len), [.t 8], none⟩,
      ⟨(some 10), (.p (.bin .neq .int)), [.t 7, .t 9], none⟩])
    (.cond (.t 10)
     (.seq
      (.ops [
        ⟨(some 4), (.p .mov), [.c (.bool false)], none⟩])
      (.ret [4]))
     .skip))
   (.seq
    (.seq
     (.ops [
       ⟨(some 5), (.p .mov), [.c (.int .i64 0)], none⟩])
     r01_Ints_L0)
    (.seq
     (.ops [
       ⟨(some 4), (.p .mov), [.c (.bool true)], none⟩])
     (.ret [4])))))
def r01_Ints_I : FInfo := ⟨(.fz false), 2, r01_Ints_C, [.tmp 4]⟩
def r01_Ints_A : Ann := ⟨[], [], [(0, [0, 1, 5], [])], [(1, [0, 1, 5])], []⟩
abbrev n_r01_Ints : Nat := 27

/-! ### balise/train.Join -/
def train_Join_B0 : CCode :=
 (.seq
  (.ops [
    ⟨(some 31), (.p (.bin .lss .ifc)), [.t 30, .t 29], none⟩])
  (.seq
   (.cond (.t 31)
    .skip
    (.exit 0))
   (.seq
    (.block 1 (some [5, 28, 29, 30])
     (.seq
      (.ops [
        ⟨(some 32), (.p (.iaddr 1)), [.t 28, .t 30], none⟩,
        ⟨(some 33), (.h (.load false 1)), [.t 32], none⟩,
        ⟨(some 8), (.p .mov), [.t 33], none⟩])
      (.seq
       (.ops [
         ⟨(some 34), (.p .mov), [.t 5], none⟩,
         ⟨(some 35), (.p .mov), [.t 8], none⟩,
         ⟨(some 36), .call, [.c (.fn (.func 86) [] []), .t 34, .t 35], none⟩,
         ⟨(some 37), (.p (.un .not)), [.t 36], none⟩])
       (.cond (.t 37)
        (.ops [
          ⟨(some 38), (.p .mov), [.t 5], none⟩,
          ⟨(some 39), (.p .mov), [.t 8], none⟩,
          ⟨(some 40), (.h (.bslF 1 1 [(.int .i64 0)] [(0, 1)])), [.t 39], none⟩,
          ⟨(some 41), (.h (.app 1 8 [(.int .i64 0)])), [.t 38, .t 40], none⟩,
          ⟨(some 5), (.p .mov), [.t 41], none⟩])
        .skip))))
    (.ops [
      ⟨(some 42), (.p (.bin .add .ifc)), [.t 30, .c (.int .i64 1)], none⟩,
      ⟨(some 30), (.p .mov), [.t 42], none⟩]))))
def train_Join_L0 : CCode := .bloop 0 [5, 28, 29, 30] [5] train_Join_B0
def train_Join_C : CCode :=
 (.seq
  (.ops [
    ⟨(some 4), (.p .mov), [.c .nils], none⟩])
  (.seq
   (.ops [
     ⟨(some 9), (.p .mov), [.t 0], none⟩,
     ⟨(some 10), .call, [.c (.fn (.func 62) [] []), .t 9], none⟩,
     ⟨(some 5), (.p .mov), [.t 10], none⟩])
   (.seq
    (.seq
     (.ops [
       ⟨(some 11), (.p .mov), [.t 0], none⟩,
       ⟨(some 12), (.p .len), [.t 11], none⟩,
       ⟨(some 13), (.p (.bin .gtr .ifc)), [.t 12, .c (.int .i64 0)], none⟩])
     (.cond (.t 13)
      (.seq
       (.ops [
         ⟨(some 14), (.p .mov), [.t 1], none⟩,
         ⟨(some 15), (.p .mov), [.t 0], none⟩,
         ⟨(some 16), (.p .mov), [.t 0], none⟩,
         ⟨(some 17), (.p .len), [.t 16], none⟩,
         ⟨(some 18), (.p (.bin .sub .ifc)), [.t 17, .c (.int .i64 1)], none⟩,
         ⟨(some 19), (.p (.iaddr 1)), [.t 15, .t 18], none⟩,
         ⟨(some 20), (.h (.load false 1)), [.t 19], none⟩,
         ⟨(some 21), .call, [.c (.fn (.func 100) [] []), .t 14, .t 20], none⟩,
         ⟨(some 6), (.p .mov), [.t 21], none⟩])
       (.seq
        (.ops [
          ⟨(some 22), (.p .mov), [.t 6], none⟩,
          ⟨(some 23), (.p (.bin .geq .ifc)), [.t 22, .c (.int .i64 0)], none⟩])
        (.cond (.t 23)
         (.ops [
           ⟨(some 24), (.p .mov), [.t 1], none⟩,
           ⟨(some 25), (.p .mov), [.t 6], none⟩,
           ⟨(some 26), (.p (.bin .add .ifc)), [.t 25, .c (.int .i64 1)], none⟩,
           ⟨(some 27), (.p (.slc 1 true false)), [.t 24, .t 26], none⟩,
           ⟨(some 1), (.p .mov), [.t 27], none⟩])
         .skip)))
      .skip))
    (.seq
     (.seq
      (.ops [
        ⟨(some 28), (.p .mov), [.t 1], none⟩,
        ⟨(some 29), (.p .len), [.t 28], none⟩,
        ⟨(some 30), (.p .mov), [.c (.int .i64 0)], none⟩])
      train_Join_L0)
     (.seq
      (.ops [
        ⟨(some 43), (.p .mov), [.t 5], none⟩,
        ⟨(some 4), (.p .mov), [.t 43], none⟩])
      (.ret [4]))))))
def train_Join_I : FInfo := ⟨(.fz false), 2, train_Join_C, [.tmp 4]⟩
def train_Join_A : Ann := ⟨[], [], [(0, [5, 28, 29, 30], [5])], [(1, [5, 28, 29, 30])], []⟩
abbrev n_train_Join : Nat := 54

/-! ### slices.Clone[[]int,int] -/
def slices_Clone_int_C : CCode :=
 (.seq
  (.ops [
    ⟨(some 2), (.p .mov), [.c .nils], none⟩])
  (.seq
   (.seq
    (.ops [
      ⟨(some 3), (.p .mov), [.t 0], none⟩,
      ⟨(some 4), (.p (.bin .eql .sl)), [.t 3, .c .nils], none⟩])
    (.cond (.t 4)
     (.seq
      (.ops [
        ⟨(some 2), (.p .mov), [.c .nils], none⟩])
      (.ret [2]))
     .skip))
   (.seq
    (.ops [
      ⟨(some 5), (.h (.bslO 1 0 [(.int .i64 0)] [])), [], none⟩,
      ⟨(some 6), (.p .mov), [.t 0], none⟩,
      ⟨(some 7), (.h (.app 1 8 [(.int .i64 0)])), [.t 5, .t 6], none⟩,
      ⟨(some 2), (.p .mov), [.t 7], none⟩])
    (.ret [2]))))
def slices_Clone_int_I : FInfo := ⟨.own, 1, slices_Clone_int_C, [.tmp 2]⟩
def slices_Clone_int_A : Ann := ⟨[], [5], [], [], []⟩
abbrev n_slices_Clone_int : Nat := 62

/-! ### slices.Contains[[]int,int] -/
def slices_Contains_int_C : CCode :=
 (.seq
  (.ops [
    ⟨(some 4), (.p .mov), [.c (.bool false)], none⟩])
  (.seq
   (.ops [
     ⟨(some 5), (.p .mov), [.t 0], none⟩,
     ⟨(some 6), (.p .mov), [.t 1], none⟩,
     ⟨(some 7), .call, [.c (.fn (.func 100) [] []), .t 5, .t 6], none⟩,
     ⟨(some 8), (.p (.bin .geq .ifc)), [.t 7, .c (.int .i64 0)], none⟩,
     ⟨(some 4), (.p .mov), [.t 8], none⟩])
   (.ret [4])))
def slices_Contains_int_I : FInfo := ⟨(.fz false), 2, slices_Contains_int_C, [.tmp 4]⟩
def slices_Contains_int_A : Ann := ⟨[], [], [], [], []⟩
abbrev n_slices_Contains_int : Nat := 86

/-! ### slices.Index[[]int,int] -/
def slices_Index_int_B0 : CCode :=
 (.seq
  (.ops [
    ⟨(some 9), (.p (.bin .lss .ifc)), [.t 8, .t 7], none⟩])
  (.seq
   (.cond (.t 9)
    .skip
    (.exit 0))
   (.seq
    (.block 1 (some [0, 1, 7, 8])
     (.seq
      (.ops [
        ⟨(some 10), (.p .mov), [.t 8], none⟩,
        ⟨(some 5), (.p .mov), [.t 10], none⟩])
      (.seq
       (.ops [
         ⟨(some 11), (.p .mov), [.t 1], none⟩,
         ⟨(some 12), (.p .mov), [.t 0], none⟩,
         ⟨(some 13), (.p .mov), [.t 5], none⟩,
         ⟨(some 14), (.p (.iaddr 1)), [.t 12, .t 13], none⟩,
         ⟨(some 15), (.h (.load false 1)), [.t 14], none⟩,
         ⟨(some 16), (.p (.bin .eql .int)), [.t 11, .t 15], none⟩])
       (.cond (.t 16)
        (.seq
         (.ops [
           ⟨(some 17), (.p .mov), [.t 5], none⟩,
           ⟨(some 4), (.p .mov), [.t 17], none⟩])
         (.ret [4]))
        .skip))))
    (.ops [
      ⟨(some 18), (.p (.bin .add .ifc)), [.t 8, .c (.int .i64 1)], none⟩,
      ⟨(some 8), (.p .mov), [.t 18], none⟩]))))
def slices_Index_int_L0 : CCode := .bloop 0 [0, 1, 7, 8] [] slices_Index_int_B0
def slices_Index_int_C : CCode :=
 (.seq
  (.ops [
    ⟨(some 4), (.p .mov), [.c (.int .i64 0)], none⟩])
  (.seq
   (.seq
    (.ops [
      ⟨(some 6), (.p .mov), [.t 0], none⟩,
      ⟨(some 7), (.p .len), [.t 6], none⟩,
      ⟨(some 8), (.p .mov), [.c (.int .i64 0)], none⟩])
    slices_Index_int_L0)
   (.seq
    (.ops [
      ⟨(some 4), (.p .mov), [.c (.int .i64 (-1))], none⟩])
    (.ret [4]))))
def slices_Index_int_I : FInfo := ⟨(.fz false), 2, slices_Index_int_C, [.tmp 4]⟩
def slices_Index_int_A : Ann := ⟨[], [], [(0, [0, 1, 7, 8], [])], [(1, [0, 1, 7, 8])], []⟩
abbrev n_slices_Index_int : Nat := 100

/-! ### balise/baliseref01.Has -/
def r01_Has_B0 : CCode :=
 (.seq
  (.seq
   (.ops [
     ⟨(some 6), (.p .mov), [.t 5], none⟩,
     ⟨(some 7), (.p .mov), [.t 0], none⟩,
     ⟨(some 8), (.p .len), [.t 7], none⟩,
     ⟨(some 9), (.p (.bin .lss .ifc)), [.t 6, .t 8], none⟩])
   (.cond (.t 9)
    .skip
    (.exit 0)))
  (.seq
   (.block 1 (some [0, 1, 5])
    (.seq
     (.ops [
       ⟨(some 12), (.p .mov), [.t 0], none⟩,
       ⟨(some 13), (.p .mov), [.t 5], none⟩,
       ⟨(some 14), (.p (.iaddr 1)), [.t 12, .t 13], none⟩,
       ⟨(some 15), (.h (.load false 1)), [.t 14], none⟩,
       ⟨(some 16), (.p .mov), [.t 1], none⟩,
       ⟨(some 17), (.p (.bin .eql .int)), [.t 15, .t 16], none⟩])
     (.cond (.t 17)
      (.seq
       (.ops [
         ⟨(some 4), (.p .mov), [.c (.bool true)], none⟩])
       (.ret [4]))
      .skip)))
   (.ops [
     ⟨(some 10), (.p .mov), [.t 5], none⟩,
     ⟨(some 11), (.p (.bin .add .ifc)), [.t 10, .c (.int .i64 1)], none⟩,
     ⟨(some 5), (.p .mov), [.t 11], none⟩])))
def r01_Has_L0 : CCode := .bloop 0 [0, 1, 5] [] r01_Has_B0
def r01_Has_C : CCode :=
 (.seq
  (.ops [
    ⟨(some 4), (.p .mov), [.c (.bool false)], none⟩])
  (.seq
   (.seq
    (.ops [
      ⟨(some 5), (.p .mov), [.c (.int .i64 0)], none⟩])
    r01_Has_L0)
   (.seq
    (.ops [
      ⟨(some 4), (.p .mov), [.c (.bool false)], none⟩])
    (.ret [4]))))
def r01_Has_I : FInfo := ⟨(.fz false), 2, r01_Has_C, [.tmp 4]⟩
def r01_Has_A : Ann := ⟨[], [], [(0, [0, 1, 5], [])], [(1, [0, 1, 5])], []⟩
abbrev n_r01_Has : Nat := 42

end Go.Proofs.Ytmkdhpjidhbijaa.Zt
