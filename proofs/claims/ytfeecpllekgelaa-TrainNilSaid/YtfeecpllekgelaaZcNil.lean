/- Go functions, as the interpreter runs them: written by a program of this claim's own, proved to be what the compiler makes of them. No condition. -/
import Derived.Test.YtfeecpllekgelaaZcTab
import Derived.Test.YtfeecpllekgelaaProg
namespace Go.Proofs.Ytfeecpllekgelaa.Zn
open Go Go.Zc
set_option maxRecDepth 100000

/-! ### balise/baliselaw10.TrainNil -/
def l10_TrainNil_C : CCode :=
 (.seq
  (.ops [
    ⟨(some 4), (.p .mov), [.c (.bool false)], none⟩])
  (.seq
   (.ops [
     ⟨(some 5), (.p .mov), [.c .nilp], none⟩])
   (.seq
    (.ops [
      ⟨(some 9), (.p .mov), [.t 5], none⟩,
      ⟨(some 10), (.p .mov), [.t 0], none⟩,
      ⟨(some 11), .call, [.c (.fn (.func 20) [] []), .t 9, .t 10], none⟩,
      ⟨(some 8), (.p .mov), [.t 11], none⟩,
      ⟨(some 12), (.p (.ext 0)), [.t 8], none⟩,
      ⟨(some 13), (.p (.ext 1)), [.t 8], none⟩,
      ⟨(some 6), (.h (.newl 6 [(.int .i64 0), (.int .i64 0), (.int .i64 0), (.int .i64 0), (.int .i64 0), .nils])), [], none⟩,
      ⟨none, (.h (.store 6)), [.t 6, .t 12], none⟩,
      ⟨(some 7), (.p .mov), [.t 13], none⟩])
    (.seq
     (.ops [
       ⟨(some 14), .call, [.c (.fn (.func 9) [] [])], none⟩,
       ⟨(some 15), (.p .mov), [.t 14], none⟩,
       ⟨(some 16), (.p .mov), [.t 5], (some (15, true))⟩,
       ⟨(some 17), (.p .mov), [.t 0], (some (15, true))⟩,
       ⟨(some 18), (.p .mov), [.t 1], (some (15, true))⟩,
       ⟨(some 19), (.p (.toInt .i64)), [.t 18], (some (15, true))⟩,
       ⟨(some 20), .call, [.c (.fn (.func 19) [] []), .t 16, .t 17, .t 19], (some (15, true))⟩,
       ⟨(some 21), (.p (.bin .eql .int)), [.t 20, .c (.int .i64 7)], (some (15, true))⟩,
       ⟨(some 22), (.p .pick), [.t 15, .t 21, .c (.bool false)], none⟩,
       ⟨(some 23), (.p .mov), [.t 22], none⟩,
       ⟨(some 24), (.p .mov), [.t 5], (some (23, true))⟩,
       ⟨(some 25), (.p .mov), [.t 0], (some (23, true))⟩,
       ⟨(some 26), .call, [.c (.fn (.func 23) [] []), .t 24, .t 25], (some (23, true))⟩,
       ⟨(some 27), (.p (.un .not)), [.t 26], (some (23, true))⟩,
       ⟨(some 28), (.p .pick), [.t 23, .t 27, .c (.bool false)], none⟩,
       ⟨(some 29), (.p .mov), [.t 28], none⟩,
       ⟨(some 30), (.p .mov), [.t 7], (some (29, true))⟩,
       ⟨(some 31), (.p (.un .not)), [.t 30], (some (29, true))⟩,
       ⟨(some 32), (.p .pick), [.t 29, .t 31, .c (.bool false)], none⟩,
       ⟨(some 33), (.p .mov), [.t 32], none⟩,
       ⟨(some 34), (.p .mov), [.t 5], (some (33, true))⟩,
       ⟨(some 35), .call, [.c (.fn (.func 24) [] []), .t 34], (some (33, true))⟩,
       ⟨(some 36), (.p .len), [.t 35], (some (33, true))⟩,
       ⟨(some 37), (.p .mov), [.t 5], (some (33, true))⟩,
       ⟨(some 38), (.p .mov), [.t 1], (some (33, true))⟩,
       ⟨(some 39), (.p (.toInt .i64)), [.t 38], (some (33, true))⟩,
       ⟨(some 40), .call, [.c (.fn (.func 25) [] []), .t 37, .t 39, .c (.int .i64 1)], (some (33, true))⟩,
       ⟨(some 41), (.p .len), [.t 40], (some (33, true))⟩,
       ⟨(some 42), (.p (.bin .add .ifc)), [.t 36, .t 41], (some (33, true))⟩,
       ⟨(some 43), (.p .mov), [.t 5], (some (33, true))⟩,
       ⟨(some 44), (.p .mov), [.t 1], (some (33, true))⟩,
       ⟨(some 45), (.p (.toInt .i64)), [.t 44], (some (33, true))⟩,
       ⟨(some 46), .call, [.c (.fn (.func 26) [] []), .t 43, .t 45, .c (.int .i64 1)], (some (33, true))⟩,
       ⟨(some 47), (.p .len), [.t 46], (some (33, true))⟩,
       ⟨(some 48), (.p (.bin .add .ifc)), [.t 42, .t 47], (some (33, true))⟩,
       ⟨(some 49), (.p (.bin .eql .int)), [.t 48, .c (.int .i64 0)], (some (33, true))⟩,
       ⟨(some 50), (.p .pick), [.t 33, .t 49, .c (.bool false)], none⟩,
       ⟨(some 51), (.p .mov), [.t 50], none⟩,
       ⟨(some 52), (.p .mov), [.t 5], (some (51, true))⟩,
       ⟨(some 53), (.p .mov), [.t 1], (some (51, true))⟩,
       ⟨(some 54), (.p (.toInt .i64)), [.t 53], (some (51, true))⟩,
       ⟨(some 55), (.p (.bld [(.int .u8 0), (.int .i64 0), (.int .i64 0), (.int .i64 0), (.int .i64 0), (.bool false), .nils] [])), [], (some (51, true))⟩,
       ⟨(some 56), .call, [.c (.fn (.func 18) [] []), .t 52, .c .nilp, .t 54, .t 55, .c .nils], (some (51, true))⟩,
       ⟨(some 57), (.p (.bin .eql .int)), [.t 56, .c (.int .i64 7)], (some (51, true))⟩,
       ⟨(some 58), (.p .pick), [.t 51, .t 57, .c (.bool false)], none⟩,
       ⟨(some 4), (.p .mov), [.t 58], none⟩])
     (.ret [4])))))
def l10_TrainNil_I : FInfo := ⟨(.fz false), 2, l10_TrainNil_C, [.tmp 4]⟩
def l10_TrainNil_A : Ann := ⟨[], [], [], []⟩
abbrev n_l10_TrainNil : Nat := 8

/-! ### balise/baliselaw10.behind -/
def l10_behind_C : CCode :=
 (.seq
  (.ops [
    ⟨(some 0), (.p .mov), [.c (.bool false)], none⟩])
  (.seq
   (.ops [
     ⟨(some 1), (.h (.bslF 1 2 [(.int .i64 0)] [(0, 1), (1, 1)])), [.c (.int .i64 8), .c (.int .i64 7)], none⟩,
     ⟨(some 2), (.h (.bslF 1 4 [(.int .i64 0)] [(0, 1), (1, 1), (2, 1), (3, 1)])), [.c (.int .i64 8), .c (.int .i64 7), .c (.int .i64 6), .c (.int .i64 5)], none⟩,
     ⟨(some 3), .call, [.c (.fn (.func 27) [] []), .t 1, .t 2], none⟩,
     ⟨(some 4), (.h (.bslF 1 4 [(.int .i64 0)] [(0, 1), (1, 1), (2, 1), (3, 1)])), [.c (.int .i64 8), .c (.int .i64 7), .c (.int .i64 6), .c (.int .i64 5)], none⟩,
     ⟨(some 5), .call, [.c (.fn (.func 21) [] []), .t 3, .t 4], none⟩,
     ⟨(some 6), (.p .mov), [.t 5], none⟩,
     ⟨(some 7), (.h (.bslF 1 2 [(.int .i64 0)] [(0, 1), (1, 1)])), [.c (.int .i64 8), .c (.int .i64 7)], (some (6, true))⟩,
     ⟨(some 8), (.h (.bslF 1 2 [(.int .i64 0)] [(0, 1), (1, 1)])), [.c (.int .i64 6), .c (.int .i64 5)], (some (6, true))⟩,
     ⟨(some 9), .call, [.c (.fn (.func 27) [] []), .t 7, .t 8], (some (6, true))⟩,
     ⟨(some 10), (.h (.bslF 1 4 [(.int .i64 0)] [(0, 1), (1, 1), (2, 1), (3, 1)])), [.c (.int .i64 8), .c (.int .i64 7), .c (.int .i64 6), .c (.int .i64 5)], (some (6, true))⟩,
     ⟨(some 11), .call, [.c (.fn (.func 21) [] []), .t 9, .t 10], (some (6, true))⟩,
     ⟨(some 12), (.p .pick), [.t 6, .t 11, .c (.bool false)], none⟩,
     ⟨(some 0), (.p .mov), [.t 12], none⟩])
   (.ret [0])))
def l10_behind_I : FInfo := ⟨(.fz false), 0, l10_behind_C, [.tmp 0]⟩
def l10_behind_A : Ann := ⟨[], [], [], []⟩
abbrev n_l10_behind : Nat := 9

/-! ### balise/baliseref01.Ints -/
def r01_Ints_B0 : CCode :=
 (.seq
  (.seq
   (.ops [
     ⟨(some 11), (.p .mov), [.t 5], none⟩,
     ⟨(some 12), (.p .mov), [.t 0], none⟩,
     ⟨(some 13), (.p .len), [.t 12], none⟩,
     ⟨(some 14), (.p (.bin .lss .ifc)), [.t 11, .t 13], none⟩])
   (.cond (.t 14)
    .skip
    (.exit 0)))
  (.seq
   (.block 1 (some [0, 1, 5])
    (.seq
     (.ops [
       ⟨(some 17), (.p .mov), [.t 0], none⟩,
       ⟨(some 18), (.p .mov), [.t 5], none⟩,
       ⟨(some 19), (.p (.iaddr 1)), [.t 17, .t 18], none⟩,
       ⟨(some 20), (.h (.load false 1)), [.t 19], none⟩,
       ⟨(some 21), (.p .mov), [.t 1], none⟩,
       ⟨(some 22), (.p .mov), [.t 5], none⟩,
       ⟨(some 23), (.p (.iaddr 1)), [.t 21, .t 22], none⟩,
       ⟨(some 24), (.h (.load false 1)), [.t 23], none⟩,
       ⟨(some 25), (.p (.bin .neq .int)), [.t 20, .t 24], none⟩])
     (.cond (.t 25)
      (.seq
       (.ops [
         ⟨(some 4), (.p .mov), [.c (.bool false)], none⟩])
       (.ret [4]))
      .skip)))
   (.ops [
     ⟨(some 15), (.p .mov), [.t 5], none⟩,
     ⟨(some 16), (.p (.bin .add .ifc)), [.t 15, .c (.int .i64 1)], none⟩,
     ⟨(some 5), (.p .mov), [.t 16], none⟩])))
def r01_Ints_L0 : CCode := .bloop 0 [0, 1, 5] [] r01_Ints_B0
def r01_Ints_C : CCode :=
 (.seq
  (.ops [
    ⟨(some 4), (.p .mov), [.c (.bool false)], none⟩])
  (.seq
   (.seq
    (.ops [
      ⟨(some 6), (.p .mov), [.t 0], none⟩,
      ⟨(some 7), (.p .len), [.t 6], none⟩,
      ⟨(some 8), (.p .mov), [.t 1], none⟩,
      ⟨(some 9), (.p .len), [.t 8], none⟩,
      ⟨(some 10), (.p (.bin .neq .int)), [.t 7, .t 9], none⟩])
    (.cond (.t 10)
     (.seq
      (.ops [
        ⟨(some 4), (.p .mov), [.c (.bool false)], none⟩])
      (.ret [4]))
     .skip))
   (.seq
    (.seq
     (.ops [
       ⟨(some 5), (.p .mov), [.c (.int .i64 0)], none⟩])
     r01_Ints_L0)
    (.seq
     (.ops [
       ⟨(some 4), (.p .mov), [.c (.bool true)], none⟩])
     (.ret [4])))))
def r01_Ints_I : FInfo := ⟨(.fz false), 2, r01_Ints_C, [.tmp 4]⟩
def r01_Ints_A : Ann := ⟨[], [], [(0, [0, 1, 5], [])], [(1, [0, 1, 5])]⟩
abbrev n_r01_Ints : Nat := 21

/-! ### balise/train.Join -/
def train_Join_B0 : CCode :=
 (.seq
  (.ops [
    ⟨(some 31), (.p (.bin .lss .ifc)), [.t 30, .t 29], none⟩])
  (.seq
   (.cond (.t 31)
    .skip
    (.exit 0))
   (.seq
    (.block 1 (some [5, 28, 29, 30])
     (.seq
      (.ops [
        ⟨(some 32), (.p (.iaddr 1)), [.t 28, .t 30], none⟩,
        ⟨(some 33), (.h (.load false 1)), [.t 32], none⟩,
        ⟨(some 8), (.p .mov), [.t 33], none⟩])
      (.seq
       (.ops [
         ⟨(some 34), (.p .mov), [.t 5], none⟩,
         ⟨(some 35), (.p .mov), [.t 8], none⟩,
         ⟨(some 36), .call, [.c (.fn (.func 48) [] []), .t 34, .t 35], none⟩,
         ⟨(some 37), (.p (.un .not)), [.t 36], none⟩])
       (.cond (.t 37)
        (.ops [
          ⟨(some 38), (.p .mov), [.t 5], none⟩,
          ⟨(some 39), (.p .mov), [.t 8], none⟩,
          ⟨(some 40), (.h (.bslF 1 1 [(.int .i64 0)] [(0, 1)])), [.t 39], none⟩,
          ⟨(some 41), (.h (.app 1 8 [(.int .i64 0)])), [.t 38, .t 40], none⟩,
          ⟨(some 5), (.p .mov), [.t 41], none⟩])
        .skip))))
    (.ops [
      ⟨(some 42), (.p (.bin .add .ifc)), [.t 30, .c (.int .i64 1)], none⟩,
      ⟨(some 30), (.p .mov), [.t 42], none⟩]))))
def train_Join_L0 : CCode := .bloop 0 [5, 28, 29, 30] [5] train_Join_B0
def train_Join_C : CCode :=
 (.seq
  (.ops [
    ⟨(some 4), (.p .mov), [.c .nils], none⟩])
  (.seq
   (.ops [
     ⟨(some 9), (.p .mov), [.t 0], none⟩,
     ⟨(some 10), .call, [.c (.fn (.func 38) [] []), .t 9], none⟩,
     ⟨(some 5), (.p .mov), [.t 10], none⟩])
   (.seq
    (.seq
     (.ops [
       ⟨(some 11), (.p .mov), [.t 0], none⟩,
       ⟨(some 12), (.p .len), [.t 11], none⟩,
       ⟨(some 13), (.p (.bin .gtr .ifc)), [.t 12, .c (.int .i64 0)], none⟩])
     (.cond (.t 13)
      (.seq
       (.ops [
         ⟨(some 14), (.p .mov), [.t 1], none⟩,
         ⟨(some 15), (.p .mov), [.t 0], none⟩,
         ⟨(some 16), (.p .mov), [.t 0], none⟩,
         ⟨(some 17), (.p .len), [.t 16], none⟩,
         ⟨(some 18), (.p (.bin .sub .ifc)), [.t 17, .c (.int .i64 1)], none⟩,
         ⟨(some 19), (.p (.iaddr 1)), [.t 15, .t 18], none⟩,
         ⟨(some 20), (.h (.load false 1)), [.t 19], none⟩,
         ⟨(some 21), .call, [.c (.fn (.func 47) [] []), .t 14, .t 20], none⟩,
         ⟨(some 6), (.p .mov), [.t 21], none⟩])
       (.seq
        (.ops [
          ⟨(some 22), (.p .mov), [.t 6], none⟩,
          ⟨(some 23), (.p (.bin .geq .ifc)), [.t 22, .c (.int .i64 0)], none⟩])
        (.cond (.t 23)
         (.ops [
           ⟨(some 24), (.p .mov), [.t 1], none⟩,
           ⟨(some 25), (.p .mov), [.t 6], none⟩,
           ⟨(some 26), (.p (.bin .add .ifc)), [.t 25, .c (.int .i64 1)], none⟩,
           ⟨(some 27), (.p (.slc 1 true false)), [.t 24, .t 26], none⟩,
           ⟨(some 1), (.p .mov), [.t 27], none⟩])
         .skip)))
      .skip))
    (.seq
     (.seq
      (.ops [
        ⟨(some 28), (.p .mov), [.t 1], none⟩,
        ⟨(some 29), (.p .len), [.t 28], none⟩,
        ⟨(some 30), (.p .mov), [.c (.int .i64 0)], none⟩])
      train_Join_L0)
     (.seq
      (.ops [
        ⟨(some 43), (.p .mov), [.t 5], none⟩,
        ⟨(some 4), (.p .mov), [.t 43], none⟩])
      (.ret [4]))))))
def train_Join_I : FInfo := ⟨(.fz false), 2, train_Join_C, [.tmp 4]⟩
def train_Join_A : Ann := ⟨[], [], [(0, [5, 28, 29, 30], [5])], [(1, [5, 28, 29, 30])]⟩
abbrev n_train_Join : Nat := 27

/-! ### slices.Clone[[]int,int] -/
def slices_Clone_int_C : CCode :=
 (.seq
  (.ops [
    ⟨(some 2), (.p .mov), [.c .nils], none⟩])
  (.seq
   (.seq
    (.ops [
      ⟨(some 3), (.p .mov), [.t 0], none⟩,
      ⟨(some 4), (.p (.bin .eql .sl)), [.t 3, .c .nils], none⟩])
    (.cond (.t 4)
     (.seq
      (.ops [
        ⟨(some 2), (.p .mov), [.c .nils], none⟩])
      (.ret [2]))
     .skip))
   (.seq
    (.ops [
      ⟨(some 5), (.h (.bslO 1 0 [(.int .i64 0)] [])), [], none⟩,
      ⟨(some 6), (.p .mov), [.t 0], none⟩,
      ⟨(some 7), (.h (.app 1 8 [(.int .i64 0)])), [.t 5, .t 6], none⟩,
      ⟨(some 2), (.p .mov), [.t 7], none⟩])
    (.ret [2]))))
def slices_Clone_int_I : FInfo := ⟨.own, 1, slices_Clone_int_C, [.tmp 2]⟩
def slices_Clone_int_A : Ann := ⟨[], [5], [], []⟩
abbrev n_slices_Clone_int : Nat := 38

/-! ### slices.Index[[]int,int] -/
def slices_Index_int_B0 : CCode :=
 (.seq
  (.ops [
    ⟨(some 9), (.p (.bin .lss .ifc)), [.t 8, .t 7], none⟩])
  (.seq
   (.cond (.t 9)
    .skip
    (.exit 0))
   (.seq
    (.block 1 (some [0, 1, 7, 8])
     (.seq
      (.ops [
        ⟨(some 10), (.p .mov), [.t 8], none⟩,
        ⟨(some 5), (.p .mov), [.t 10], none⟩])
      (.seq
       (.ops [
         ⟨(some 11), (.p .mov), [.t 1], none⟩,
         ⟨(some 12), (.p .mov), [.t 0], none⟩,
         ⟨(some 13), (.p .mov), [.t 5], none⟩,
         ⟨(some 14), (.p (.iaddr 1)), [.t 12, .t 13], none⟩,
         ⟨(some 15), (.h (.load false 1)), [.t 14], none⟩,
         ⟨(some 16), (.p (.bin .eql .int)), [.t 11, .t 15], none⟩])
       (.cond (.t 16)
        (.seq
         (.ops [
           ⟨(some 17), (.p .mov), [.t 5], none⟩,
           ⟨(some 4), (.p .mov), [.t 17], none⟩])
         (.ret [4]))
        .skip))))
    (.ops [
      ⟨(some 18), (.p (.bin .add .ifc)), [.t 8, .c (.int .i64 1)], none⟩,
      ⟨(some 8), (.p .mov), [.t 18], none⟩]))))
def slices_Index_int_L0 : CCode := .bloop 0 [0, 1, 7, 8] [] slices_Index_int_B0
def slices_Index_int_C : CCode :=
 (.seq
  (.ops [
    ⟨(some 4), (.p .mov), [.c (.int .i64 0)], none⟩])
  (.seq
   (.seq
    (.ops [
      ⟨(some 6), (.p .mov), [.t 0], none⟩,
      ⟨(some 7), (.p .len), [.t 6], none⟩,
      ⟨(some 8), (.p .mov), [.c (.int .i64 0)], none⟩])
    slices_Index_int_L0)
   (.seq
    (.ops [
      ⟨(some 4), (.p .mov), [.c (.int .i64 (-1))], none⟩])
    (.ret [4]))))
def slices_Index_int_I : FInfo := ⟨(.fz false), 2, slices_Index_int_C, [.tmp 4]⟩
def slices_Index_int_A : Ann := ⟨[], [], [(0, [0, 1, 7, 8], [])], [(1, [0, 1, 7, 8])]⟩
abbrev n_slices_Index_int : Nat := 47

/-! ### slices.Contains[[]int,int] -/
def slices_Contains_int_C : CCode :=
 (.seq
  (.ops [
    ⟨(some 4), (.p .mov), [.c (.bool false)], none⟩])
  (.seq
   (.ops [
     ⟨(some 5), (.p .mov), [.t 0], none⟩,
     ⟨(some 6), (.p .mov), [.t 1], none⟩,
     ⟨(some 7), .call, [.c (.fn (.func 47) [] []), .t 5, .t 6], none⟩,
     ⟨(some 8), (.p (.bin .geq .ifc)), [.t 7, .c (.int .i64 0)], none⟩,
     ⟨(some 4), (.p .mov), [.t 8], none⟩])
   (.ret [4])))
def slices_Contains_int_I : FInfo := ⟨(.fz false), 2, slices_Contains_int_C, [.tmp 4]⟩
def slices_Contains_int_A : Ann := ⟨[], [], [], []⟩
abbrev n_slices_Contains_int : Nat := 48

/-! ### (*balise/train.Register).Note -/
def train_Register_Note_C : CCode :=
 (.seq
  (.ops [
    ⟨(some 8), (.h (.box 8)), [.t 3], none⟩,
    ⟨(some 10), (.p .mov), [.c (.int .i64 0)], none⟩])
  (.seq
   (.seq
    (.ops [
      ⟨(some 13), (.p .mov), [.t 0], none⟩,
      ⟨(some 14), (.p (.bin .eql .ptr)), [.t 13, .c .nilp], none⟩,
      ⟨(some 15), (.p .mov), [.t 14], none⟩,
      ⟨(some 16), (.p .mov), [.t 0], (some (15, false))⟩,
      ⟨(some 17), (.p .nchk), [.t 16], (some (15, false))⟩,
      ⟨(some 18), (.p (.faddr 0)), [.t 17], (some (15, false))⟩,
      ⟨(some 19), (.h (.load false 1)), [.t 18], (some (15, false))⟩,
      ⟨(some 20), (.p (.faddr 1)), [.t 8], (some (15, false))⟩,
      ⟨(some 21), (.h (.load false 1)), [.t 20], (some (15, false))⟩,
      ⟨(some 22), (.h (.look 0 .nilp false)), [.t 19, .t 21], (some (15, false))⟩,
      ⟨(some 23), (.p (.bin .eql .ptr)), [.t 22, .c .nilp], (some (15, false))⟩,
      ⟨(some 24), (.p .pick), [.t 15, .c (.bool true), .t 23], none⟩])
    (.cond (.t 24)
     (.seq
      (.ops [
        ⟨(some 10), (.p .mov), [.c (.int .i64 7)], none⟩])
      (.ret [10]))
     .skip))
   (.seq
    (.ops [
      ⟨(some 25), (.p .mov), [.t 0], none⟩,
      ⟨(some 26), (.p .nchk), [.t 25], none⟩,
      ⟨(some 27), (.p (.faddr 0)), [.t 26], none⟩,
      ⟨(some 28), (.h (.load false 1)), [.t 27], none⟩,
      ⟨(some 29), (.p (.faddr 1)), [.t 8], none⟩,
      ⟨(some 30), (.h (.load false 1)), [.t 29], none⟩,
      ⟨(some 31), (.h (.look 0 .nilp false)), [.t 28, .t 30], none⟩,
      ⟨(some 11), (.p .mov), [.t 31], none⟩])
    (.seq
     (.ops [
       ⟨(some 32), (.p (.faddr 2)), [.t 8], none⟩,
       ⟨(some 33), (.h (.load false 1)), [.t 32], none⟩,
       ⟨(some 34), (.p .mov), [.t 11], none⟩,
       ⟨(some 35), (.p .nchk), [.t 34], none⟩,
       ⟨(some 36), (.p (.faddr 1)), [.t 35], none⟩,
       ⟨(some 37), (.h (.load false 1)), [.t 36], none⟩,
       ⟨(some 38), (.p (.bin .leq .ifc)), [.t 33, .t 37], none⟩,
       ⟨(some 12), (.p .mov), [.t 38], none⟩])
     (.seq
      (.seq
       (.ops [
         ⟨(some 39), (.p .mov), [.t 11], none⟩,
         ⟨(some 40), (.p .nchk), [.t 39], none⟩,
         ⟨(some 41), (.p (.faddr 5)), [.t 40], none⟩,
         ⟨(some 42), (.h (.load false 1)), [.t 41], none⟩,
         ⟨(some 43), (.p .len), [.t 42], none⟩,
         ⟨(some 44), (.p (.bin .eql .int)), [.t 43, .c (.int .i64 0)], none⟩])
       (.cond (.t 44)
        (.ops [
          ⟨(some 45), (.p (.faddr 2)), [.t 8], none⟩,
          ⟨(some 46), (.h (.load false 1)), [.t 45], none⟩,
          ⟨(some 47), (.p .mov), [.t 2], none⟩,
          ⟨(some 48), (.p (.bin .neq .int)), [.t 46, .t 47], none⟩,
          ⟨(some 12), (.p .mov), [.t 48], none⟩])
        .skip))
      (.seq
       (.block 0 (some [4, 8, 11])
        (.seq
         (.ops [
           ⟨(some 50), (.p (.faddr 0)), [.t 8], none⟩,
           ⟨(some 51), (.h (.load false 1)), [.t 50], none⟩,
           ⟨(some 52), (.p (.bin .neq .int)), [.t 51, .c (.int .u8 3)], none⟩,
           ⟨(some 53), (.p .mov), [.t 52], none⟩,
           ⟨(some 54), (.p .mov), [.t 1], (some (53, false))⟩,
           ⟨(some 55), (.h (.load true 7)), [.t 8], (some (53, false))⟩,
           ⟨(some 56), .call, [.c (.fn (.func 14) [] []), .t 54, .t 55], (some (53, false))⟩,
           ⟨(some 57), (.p (.un .not)), [.t 56], (some (53, false))⟩,
           ⟨(some 58), (.p .pick), [.t 53, .c (.bool true), .t 57], none⟩,
           ⟨(some 49), (.p .mov), [.t 58], none⟩])
         (.cond (.t 49)
          (.seq
           (.ops [
             ⟨(some 10), (.p .mov), [.c (.int .i64 1)], none⟩])
           (.ret [10]))
          (.seq
           (.ops [
             ⟨(some 60), (.p (.faddr 2)), [.t 8], none⟩,
             ⟨(some 61), (.h (.load false 1)), [.t 60], none⟩,
             ⟨(some 62), (.p .mov), [.t 2], none⟩,
             ⟨(some 63), (.p (.bin .gtr .ifc)), [.t 61, .t 62], none⟩,
             ⟨(some 64), (.p .mov), [.t 63], none⟩,
             ⟨(some 65), (.p .mov), [.t 12], (some (64, false))⟩,
             ⟨(some 66), (.p .pick), [.t 64, .c (.bool true), .t 65], none⟩,
             ⟨(some 59), (.p .mov), [.t 66], none⟩])
           (.cond (.t 59)
            (.seq
             (.ops [
               ⟨(some 10), (.p .mov), [.c (.int .i64 8)], none⟩])
             (.ret [10]))
            .skip)))))
       (.seq
        bad
        (.seq
         (.seq
          (.ops [
            ⟨(some 82), (.p (.faddr 5)), [.t 8], none⟩,
            ⟨(some 83), (.h (.load false 1)), [.t 82], none⟩])
          (.cond (.t 83)
           bad
           (.ops [
             ⟨(some 95), (.p .mov), [.t 11], none⟩,
             ⟨(some 96), (.p (.faddr 6)), [.t 8], none⟩,
             ⟨(some 97), (.h (.load false 1)), [.t 96], none⟩,
             ⟨(some 98), (.p .mov), [.t 4], none⟩,
             ⟨(some 99), .call, [.c (.fn (.func 27) [] []), .t 97, .t 98], none⟩,
             ⟨(some 100), (.p .nchk), [.t 95], none⟩,
             ⟨(some 101), (.p (.faddr 5)), [.t 100], none⟩,
             ⟨none, (.h (.store 1)), [.t 101, .t 99], none⟩])))
         (.seq
          (.ops [
            ⟨(some 10), (.p .mov), [.c (.int .i64 0)], none⟩])
          (.ret [10]))))))))))
def train_Register_Note_I : FInfo := ⟨(.fz false), 5, train_Register_Note_C, [.tmp 10]⟩
def train_Register_Note_A : Ann := ⟨[], [], [], [(0, [4, 8, 11])]⟩
abbrev n_train_Register_Note : Nat := 18

/-! ### (*balise/train.Register).Open -/
def train_Register_Open_C : CCode :=
 (.seq
  (.ops [
    ⟨(some 6), (.p .mov), [.c (.int .i64 0)], none⟩])
  (.seq
   (.block 0 (some [0, 1, 2])
    (.seq
     (.ops [
       ⟨(some 8), (.p .mov), [.t 0], none⟩,
       ⟨(some 9), (.p (.bin .eql .ptr)), [.t 8, .c .nilp], none⟩,
       ⟨(some 7), (.p .mov), [.t 9], none⟩])
     (.cond (.t 7)
      (.seq
       (.ops [
         ⟨(some 6), (.p .mov), [.c (.int .i64 7)], none⟩])
       (.ret [6]))
      (.seq
       (.ops [
         ⟨(some 11), (.p .mov), [.t 0], none⟩,
         ⟨(some 12), (.p .nchk), [.t 11], none⟩,
         ⟨(some 13), (.p (.faddr 0)), [.t 12], none⟩,
         ⟨(some 14), (.h (.load false 1)), [.t 13], none⟩,
         ⟨(some 15), (.p .mov), [.t 1], none⟩,
         ⟨(some 16), (.h (.look 0 .nilp false)), [.t 14, .t 15], none⟩,
         ⟨(some 17), (.p (.bin .neq .ptr)), [.t 16, .c .nilp], none⟩,
         ⟨(some 10), (.p .mov), [.t 17], none⟩])
       (.cond (.t 10)
        (.seq
         (.ops [
           ⟨(some 6), (.p .mov), [.c (.int .i64 8)], none⟩])
         (.ret [6]))
        (.seq
         (.ops [
           ⟨(some 19), (.p .mov), [.t 0], none⟩,
           ⟨(some 20), (.p .nchk), [.t 19], none⟩,
           ⟨(some 21), (.p (.faddr 0)), [.t 20], none⟩,
           ⟨(some 22), (.h (.load false 1)), [.t 21], none⟩,
           ⟨(some 23), (.h .lenM), [.t 22], none⟩,
           ⟨(some 24), (.p (.bin .geq .ifc)), [.t 23, .c (.int .i64 6)], none⟩,
           ⟨(some 18), (.p .mov), [.t 24], none⟩])
         (.cond (.t 18)
          (.seq
           (.ops [
             ⟨(some 6), (.p .mov), [.c (.int .i64 6)], none⟩])
           (.ret [6]))
          .skip)))))))
   (.seq
    (.ops [
      ⟨(some 25), (.p .mov), [.t 0], none⟩,
      ⟨(some 26), (.p .nchk), [.t 25], none⟩,
      ⟨(some 27), (.p (.faddr 0)), [.t 26], none⟩,
      ⟨(some 28), (.h (.load false 1)), [.t 27], none⟩,
      ⟨(some 29), (.p .mov), [.t 1], none⟩,
      ⟨(some 30), (.p .mov), [.t 1], none⟩,
      ⟨(some 31), (.p .mov), [.t 2], none⟩,
      ⟨(some 32), (.p (.bld [(.int .i64 0), (.int .i64 0), (.int .i64 0), (.int .i64 0), (.int .i64 0), .nils] [(0, 1), (1, 1), (2, 1)])), [.t 30, .t 31, .c (.int .i64 (-1))], none⟩,
      ⟨(some 33), (.h .boxh), [.t 32], none⟩,
      ⟨none, (.h (.mput 0)), [.t 28, .t 29, .t 33], none⟩])
    (.seq
     (.ops [
       ⟨(some 6), (.p .mov), [.c (.int .i64 0)], none⟩])
     (.ret [6])))))
def train_Register_Open_I : FInfo := ⟨(.fz false), 3, train_Register_Open_C, [.tmp 6]⟩
def train_Register_Open_A : Ann := ⟨[33], [], [], [(0, [0, 1, 2])]⟩
abbrev n_train_Register_Open : Nat := 19

/-! ### (*balise/train.Register).Get -/
def train_Register_Get_C : CCode :=
 (.seq
  (.ops [
    ⟨(some 4), (.h (.newl 4 [(.int .i64 0), (.int .i64 0), (.int .i64 0), (.int .i64 0), (.int .i64 0), .nils])), [], none⟩,
    ⟨(some 5), (.p .mov), [.c (.bool false)], none⟩])
  (.seq
   (.seq
    (.ops [
      ⟨(some 7), (.p .mov), [.t 0], none⟩,
      ⟨(some 8), (.p (.bin .eql .ptr)), [.t 7, .c .nilp], none⟩,
      ⟨(some 9), (.p .mov), [.t 8], none⟩,
      ⟨(some 10), (.p .mov), [.t 0], (some (9, false))⟩,
      ⟨(some 11), (.p .nchk), [.t 10], (some (9, false))⟩,
      ⟨(some 12), (.p (.faddr 0)), [.t 11], (some (9, false))⟩,
      ⟨(some 13), (.h (.load false 1)), [.t 12], (some (9, false))⟩,
      ⟨(some 14), (.p .mov), [.t 1], (some (9, false))⟩,
      ⟨(some 15), (.h (.look 0 .nilp false)), [.t 13, .t 14], (some (9, false))⟩,
      ⟨(some 16), (.p (.bin .eql .ptr)), [.t 15, .c .nilp], (some (9, false))⟩,
      ⟨(some 17), (.p .pick), [.t 9, .c (.bool true), .t 16], none⟩])
    (.cond (.t 17)
     (.seq
      (.ops [
        ⟨(some 18), (.p (.bld [(.int .i64 0), (.int .i64 0), (.int .i64 0), (.int .i64 0), (.int .i64 0), .nils] [])), [], none⟩,
        ⟨none, (.h (.store 6)), [.t 4, .t 18], none⟩,
        ⟨(some 5), (.p .mov), [.c (.bool false)], none⟩])
      (.ret [4, 5]))
     .skip))
   (.seq
    (.ops [
      ⟨(some 19), (.p .mov), [.t 0], none⟩,
      ⟨(some 20), (.p .nchk), [.t 19], none⟩,
      ⟨(some 21), (.p (.faddr 0)), [.t 20], none⟩,
      ⟨(some 22), (.h (.load false 1)), [.t 21], none⟩,
      ⟨(some 23), (.p .mov), [.t 1], none⟩,
      ⟨(some 24), (.h (.look 0 .nilp false)), [.t 22, .t 23], none⟩,
      ⟨(some 25), (.p .nchk), [.t 24], none⟩,
      ⟨(some 26), (.h (.load true 6)), [.t 25], none⟩,
      ⟨(some 6), (.h (.newl 6 [(.int .i64 0), (.int .i64 0), (.int .i64 0), (.int .i64 0), (.int .i64 0), .nils])), [], none⟩,
      ⟨none, (.h (.store 6)), [.t 6, .t 26], none⟩])
    (.seq
     (.ops [
       ⟨(some 27), (.p (.faddr 5)), [.t 6], none⟩,
       ⟨(some 28), (.h (.load false 1)), [.t 27], none⟩,
       ⟨(some 29), .call, [.c (.fn (.func 38) [] []), .t 28], none⟩,
       ⟨(some 30), (.p (.faddr 5)), [.t 6], none⟩,
       ⟨none, (.h (.store 1)), [.t 30, .t 29], none⟩])
     (.seq
      (.ops [
        ⟨(some 31), (.h (.load true 6)), [.t 6], none⟩,
        ⟨none, (.h (.store 6)), [.t 4, .t 31], none⟩,
        ⟨(some 5), (.p .mov), [.c (.bool true)], none⟩])
      (.ret [4, 5]))))))
def train_Register_Get_I : FInfo := ⟨(.fz false), 2, train_Register_Get_C, [.cell 4 true 6, .tmp 5]⟩
def train_Register_Get_A : Ann := ⟨[], [], [], []⟩
abbrev n_train_Register_Get : Nat := 20

/-! ### (*balise/train.Register).Close -/
def train_Register_Close_C : CCode :=
 (.seq
  (.ops [
    ⟨(some 4), (.p .mov), [.c (.bool false)], none⟩])
  (.seq
   (.seq
    (.ops [
      ⟨(some 5), (.p .mov), [.t 0], none⟩,
      ⟨(some 6), (.p (.bin .eql .ptr)), [.t 5, .c .nilp], none⟩,
      ⟨(some 7), (.p .mov), [.t 6], none⟩,
      ⟨(some 8), (.p .mov), [.t 0], (some (7, false))⟩,
      ⟨(some 9), (.p .nchk), [.t 8], (some (7, false))⟩,
      ⟨(some 10), (.p (.faddr 0)), [.t 9], (some (7, false))⟩,
      ⟨(some 11), (.h (.load false 1)), [.t 10], (some (7, false))⟩,
      ⟨(some 12), (.p .mov), [.t 1], (some (7, false))⟩,
      ⟨(some 13), (.h (.look 0 .nilp false)), [.t 11, .t 12], (some (7, false))⟩,
      ⟨(some 14), (.p (.bin .eql .ptr)), [.t 13, .c .nilp], (some (7, false))⟩,
      ⟨(some 15), (.p .pick), [.t 7, .c (.bool true), .t 14], none⟩])
    (.cond (.t 15)
     (.seq
      (.ops [
        ⟨(some 4), (.p .mov), [.c (.bool false)], none⟩])
      (.ret [4]))
     .skip))
   (.seq
    (.ops [
      ⟨(some 16), (.p .mov), [.t 0], none⟩,
      ⟨(some 17), (.p .nchk), [.t 16], none⟩,
      ⟨(some 18), (.p (.faddr 0)), [.t 17], none⟩,
      ⟨(some 19), (.h (.load false 1)), [.t 18], none⟩,
      ⟨(some 20), (.p .mov), [.t 1], none⟩,
      ⟨none, (.h (.mdel 0)), [.t 19, .t 20], none⟩])
    (.seq
     (.ops [
       ⟨(some 4), (.p .mov), [.c (.bool true)], none⟩])
     (.ret [4])))))
def train_Register_Close_I : FInfo := ⟨(.fz false), 2, train_Register_Close_C, [.tmp 4]⟩
def train_Register_Close_A : Ann := ⟨[], [], [], []⟩
abbrev n_train_Register_Close : Nat := 23

/-! ### (*balise/train.Register).All -/
def train_Register_All_C : CCode :=
 (.seq
  (.ops [
    ⟨(some 2), (.p .mov), [.c .nils], none⟩])
  (.seq
   (.seq
    (.ops [
      ⟨(some 3), (.p .mov), [.t 0], none⟩,
      ⟨(some 4), (.p (.bin .eql .ptr)), [.t 3, .c .nilp], none⟩])
    (.cond (.t 4)
     (.seq
      (.ops [
        ⟨(some 2), (.p .mov), [.c .nils], none⟩])
      (.ret [2]))
     .skip))
   (.seq
    (.ops [
      ⟨(some 5), (.p .mov), [.t 0], none⟩,
      ⟨(some 6), (.p .nchk), [.t 5], none⟩,
      ⟨(some 7), (.p (.faddr 0)), [.t 6], none⟩,
      ⟨(some 8), (.h (.load false 1)), [.t 7], none⟩,
      ⟨(some 9), .call, [.c (.fn (.func 41) [] []), .t 8], none⟩,
      ⟨(some 10), .call, [.c (.fn (.func 40) [] []), .t 9], none⟩,
      ⟨(some 2), (.p .mov), [.t 10], none⟩])
    (.ret [2]))))
def train_Register_All_I : FInfo := ⟨(.fz false), 1, train_Register_All_C, [.tmp 2]⟩
def train_Register_All_A : Ann := ⟨[], [], [], []⟩
abbrev n_train_Register_All : Nat := 24

/-! ### (*balise/train.Register).Mute -/
def train_Register_Mute_C : CCode :=
 (.seq
  (.ops [
    ⟨(some 3), (.h .boxh), [.t 0], none⟩,
    ⟨(some 4), (.h .boxh), [.t 1], none⟩,
    ⟨(some 5), (.h .boxh), [.t 2], none⟩,
    ⟨(some 6), (.p .mov), [.c .nils], none⟩])
  (.seq
   (.ops [
     ⟨(some 7), (.h (.load false 1)), [.t 3], none⟩,
     ⟨(some 8), (.p (.mkfn (.func 43) 0)), [.t 4, .t 5], none⟩,
     ⟨(some 9), (.p (.mkfn (.func 44) 0)), [.t 3], none⟩,
     ⟨(some 10), .call, [.c (.fn (.func 42) [] []), .t 7, .t 8, .t 9], none⟩,
     ⟨(some 6), (.p .mov), [.t 10], none⟩])
   (.ret [6])))
def train_Register_Mute_I : FInfo := ⟨(.fz false), 3, train_Register_Mute_C, [.tmp 6]⟩
def train_Register_Mute_A : Ann := ⟨[3, 4, 5], [], [], []⟩
abbrev n_train_Register_Mute : Nat := 25

/-! ### (*balise/train.Register).Doubt -/
def train_Register_Doubt_C : CCode :=
 (.seq
  (.ops [
    ⟨(some 4), (.h .boxh), [.t 1], none⟩,
    ⟨(some 5), (.h .boxh), [.t 2], none⟩,
    ⟨(some 6), (.p .mov), [.c .nils], none⟩])
  (.seq
   (.ops [
     ⟨(some 7), (.p .mov), [.t 0], none⟩,
     ⟨(some 8), (.p (.mkfn (.func 45) 0)), [.t 4, .t 5], none⟩,
     ⟨(some 9), .call, [.c (.fn (.func 42) [] []), .t 7, .t 8, .c (.fn (.func 46) [] [])], none⟩,
     ⟨(some 6), (.p .mov), [.t 9], none⟩])
   (.ret [6])))
def train_Register_Doubt_I : FInfo := ⟨(.fz false), 3, train_Register_Doubt_C, [.tmp 6]⟩
def train_Register_Doubt_A : Ann := ⟨[4, 5], [], [], []⟩
abbrev n_train_Register_Doubt : Nat := 26

/-! ### (*balise/train.Register).those -/
def train_Register_those_B0 : CCode :=
 (.seq
  (.ops [
    ⟨(some 15), (.p (.bin .lss .ifc)), [.t 14, .t 13], none⟩])
  (.seq
   (.cond (.t 15)
    .skip
    (.exit 0))
   (.seq
    (.block 1 (some [0, 1, 2, 7, 12, 13, 14])
     (.seq
      (.ops [
        ⟨(some 16), (.p (.iaddr 1)), [.t 12, .t 14], none⟩,
        ⟨(some 17), (.h (.load false 1)), [.t 16], none⟩,
        ⟨(some 9), (.p .mov), [.t 17], none⟩])
      (.seq
       (.ops [
         ⟨(some 18), (.p .mov), [.t 0], none⟩,
         ⟨(some 19), (.p .nchk), [.t 18], none⟩,
         ⟨(some 20), (.p (.faddr 0)), [.t 19], none⟩,
         ⟨(some 21), (.h (.load false 1)), [.t 20], none⟩,
         ⟨(some 22), (.p .mov), [.t 9], none⟩,
         ⟨(some 23), (.h (.look 0 .nilp false)), [.t 21, .t 22], none⟩,
         ⟨(some 10), (.p .mov), [.t 23], none⟩])
       (.seq
        (.ops [
          ⟨(some 24), (.p .mov), [.t 1], none⟩,
          ⟨(some 25), (.p .mov), [.t 10], none⟩,
          ⟨(some 26), .call, [.t 24, .t 25], none⟩])
        (.cond (.t 26)
         (.seq
          (.ops [
            ⟨(some 27), (.p .mov), [.t 2], none⟩,
            ⟨(some 28), (.p .mov), [.t 10], none⟩,
            ⟨(some 29), .call, [.t 27, .t 28], none⟩])
          (.ops [
            ⟨(some 30), (.p .mov), [.t 7], none⟩,
            ⟨(some 31), (.p .mov), [.t 9], none⟩,
            ⟨(some 32), (.h (.bslF 1 1 [(.int .i64 0)] [(0, 1)])), [.t 31], none⟩,
            ⟨(some 33), (.h (.app 1 8 [(.int .i64 0)])), [.t 30, .t 32], none⟩,
            ⟨(some 7), (.p .mov), [.t 33], none⟩]))
         .skip)))))
    (.ops [
      ⟨(some 34), (.p (.bin .add .ifc)), [.t 14, .c (.int .i64 1)], none⟩,
      ⟨(some 14), (.p .mov), [.t 34], none⟩]))))
def train_Register_those_L0 : CCode := .bloop 0 [0, 1, 2, 7, 12, 13, 14] [7] train_Register_those_B0
def train_Register_those_C : CCode :=
 (.seq
  (.ops [
    ⟨(some 6), (.p .mov), [.c .nils], none⟩])
  (.seq
   (.ops [
     ⟨(some 7), (.p .mov), [.c .nils], none⟩])
   (.seq
    (.seq
     (.ops [
       ⟨(some 11), (.p .mov), [.t 0], none⟩,
       ⟨(some 12), .call, [.c (.fn (.func 24) [] []), .t 11], none⟩,
       ⟨(some 13), (.p .len), [.t 12], none⟩,
       ⟨(some 14), (.p .mov), [.c (.int .i64 0)], none⟩])
     train_Register_those_L0)
    (.seq
     (.ops [
       ⟨(some 35), (.p .mov), [.t 7], none⟩,
       ⟨(some 6), (.p .mov), [.t 35], none⟩])
     (.ret [6])))))
def train_Register_those_I : FInfo := ⟨(.fz false), 3, train_Register_those_C, [.tmp 6]⟩
def train_Register_those_A : Ann := ⟨[], [], [(0, [0, 1, 2, 7, 12, 13, 14], [7])], [(1, [0, 1, 2, 7, 12, 13, 14])]⟩
abbrev n_train_Register_those : Nat := 42

/-- All of them. -/
def tab : List (Nat × FInfo) := [(8, l10_TrainNil_I), (9, l10_behind_I), (21, r01_Ints_I), (27, train_Join_I), (38, slices_Clone_int_I), (47, slices_Index_int_I), (48, slices_Contains_int_I), (18, train_Register_Note_I), (19, train_Register_Open_I), (20, train_Register_Get_I), (23, train_Register_Close_I), (24, train_Register_All_I), (25, train_Register_Mute_I), (26, train_Register_Doubt_I), (42, train_Register_those_I)]
def ctx : Ctx := ⟨Zc.look tab, fun _ => none⟩
theorem l10_TrainNil_ok : compF Try.prog (quietOf ctx) l10_TrainNil_A (.fz false) Try.f8 = some l10_TrainNil_I := by kernel_rfl
theorem l10_behind_ok : compF Try.prog (quietOf ctx) l10_behind_A (.fz false) Try.f9 = some l10_behind_I := by kernel_rfl
theorem r01_Ints_ok : compF Try.prog (quietOf ctx) r01_Ints_A (.fz false) Try.f21 = some r01_Ints_I := by kernel_rfl
theorem train_Join_ok : compF Try.prog (quietOf ctx) train_Join_A (.fz false) Try.f27 = some train_Join_I := by kernel_rfl
theorem slices_Clone_int_ok : compF Try.prog (quietOf ctx) slices_Clone_int_A .own Try.f38 = some slices_Clone_int_I := by kernel_rfl
theorem slices_Index_int_ok : compF Try.prog (quietOf ctx) slices_Index_int_A (.fz false) Try.f47 = some slices_Index_int_I := by kernel_rfl
theorem slices_Contains_int_ok : compF Try.prog (quietOf ctx) slices_Contains_int_A (.fz false) Try.f48 = some slices_Contains_int_I := by kernel_rfl
theorem train_Register_Note_ok : compF Try.prog (quietOf ctx) train_Register_Note_A (.fz false) Try.f18 = some train_Register_Note_I := by kernel_rfl
theorem train_Register_Open_ok : compF Try.prog (quietOf ctx) train_Register_Open_A (.fz false) Try.f19 = some train_Register_Open_I := by kernel_rfl
theorem train_Register_Get_ok : compF Try.prog (quietOf ctx) train_Register_Get_A (.fz false) Try.f20 = some train_Register_Get_I := by kernel_rfl
theorem train_Register_Close_ok : compF Try.prog (quietOf ctx) train_Register_Close_A (.fz false) Try.f23 = some train_Register_Close_I := by kernel_rfl
theorem train_Register_All_ok : compF Try.prog (quietOf ctx) train_Register_All_A (.fz false) Try.f24 = some train_Register_All_I := by kernel_rfl
theorem train_Register_Mute_ok : compF Try.prog (quietOf ctx) train_Register_Mute_A (.fz false) Try.f25 = some train_Register_Mute_I := by kernel_rfl
theorem train_Register_Doubt_ok : compF Try.prog (quietOf ctx) train_Register_Doubt_A (.fz false) Try.f26 = some train_Register_Doubt_I := by kernel_rfl
theorem train_Register_those_ok : compF Try.prog (quietOf ctx) train_Register_those_A (.fz false) Try.f42 = some train_Register_those_I := by kernel_rfl
theorem ctx_ok : CtxOk Try.prog ctx :=
  ctxOk_of (by kernel_rfl) (
    .cons ⟨_, _, Try.func8, l10_TrainNil_ok⟩ (
    .cons ⟨_, _, Try.func9, l10_behind_ok⟩ (
    .cons ⟨_, _, Try.func21, r01_Ints_ok⟩ (
    .cons ⟨_, _, Try.func27, train_Join_ok⟩ (
    .cons ⟨_, _, Try.func38, slices_Clone_int_ok⟩ (
    .cons ⟨_, _, Try.func47, slices_Index_int_ok⟩ (
    .cons ⟨_, _, Try.func48, slices_Contains_int_ok⟩ (
    .cons ⟨_, _, Try.func18, train_Register_Note_ok⟩ (
    .cons ⟨_, _, Try.func19, train_Register_Open_ok⟩ (
    .cons ⟨_, _, Try.func20, train_Register_Get_ok⟩ (
    .cons ⟨_, _, Try.func23, train_Register_Close_ok⟩ (
    .cons ⟨_, _, Try.func24, train_Register_All_ok⟩ (
    .cons ⟨_, _, Try.func25, train_Register_Mute_ok⟩ (
    .cons ⟨_, _, Try.func26, train_Register_Doubt_ok⟩ (
    .cons ⟨_, _, Try.func42, train_Register_those_ok⟩ (
    .nil))))))))))))))))
end Go.Proofs.Ytfeecpllekgelaa.Zn
