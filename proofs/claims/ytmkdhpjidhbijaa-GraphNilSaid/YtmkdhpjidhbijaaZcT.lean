/- Go functions, as the interpreter runs them: written by a program of this claim's own, proved to be what the compiler makes of them. No condition. -/
import Derived.Test.YtmkdhpjidhbijaaZcSym
import Derived.Test.YtmkdhpjidhbijaaProg
set_option linter.all false
namespace Go.Proofs.Ytmkdhpjidhbijaa.Zt
open Go Go.Zc
set_option maxRecDepth 100000

/-! ### balise/baliselaw05.GraphNil -/
def l05_GraphNil_C : CCode :=
 (.seq
  (.ops [
    ⟨(some 6), (.p .mov), [.c (.bool false)], none⟩])
  (.seq
   (.ops [
     ⟨(some 7), (.p .mov), [.c .nilp], none⟩])
   (.seq
    (.ops [
      ⟨(some 13), (.p .mov), [.t 7], none⟩,
      ⟨(some 14), (.p .mov), [.t 0], none⟩,
      ⟨(some 15), (.p .mov), [.t 1], none⟩,
      ⟨(some 16), (.p (.bld [(.int .i64 0), (.int .i64 0)] [(0, 1), (1, 1)])), [.t 14, .t 15], none⟩,
      ⟨(some 17), (.p .mov), [.t 2], none⟩,
      ⟨(some 18), .call, [.c (.fn (.func 52) [] []), .t 13, .t 16, .t 17], none⟩,
      ⟨(some 12), (.p .mov), [.t 18], none⟩,
      ⟨(some 19), (.p (.ext 0)), [.t 12], none⟩,
      ⟨(some 20), (.p (.ext 1)), [.t 12], none⟩,
      ⟨(some 8), (.h (.newl 8 [(.int .i64 0), (.int .i64 0)])), [], none⟩,
      ⟨none, (.h (.store 2)), [.t 8, .t 19], none⟩,
      ⟨(some 9), (.p .mov), [.t 20], none⟩])
    (.seq
     (.ops [
       ⟨(some 22), (.p .mov), [.t 7], none⟩,
       ⟨(some 23), (.p .mov), [.t 0], none⟩,
       ⟨(some 24), (.p .mov), [.t 1], none⟩,
       ⟨(some 25), (.h (.bslF 1 2 [(.int .i64 0)] [(0, 1), (1, 1)])), [.t 23, .t 24], none⟩,
       ⟨(some 26), .call, [.c (.fn (.func 49) [] []), .t 22, .t 25], none⟩,
       ⟨(some 21), (.p .mov), [.t 26], none⟩,
       ⟨(some 27), (.p (.ext 0)), [.t 21], none⟩,
       ⟨(some 28), (.p (.ext 1)), [.t 21], none⟩,
       ⟨(some 10), (.p .mov), [.t 27], none⟩,
       ⟨(some 11), (.p .mov), [.t 28], none⟩])
     (.seq
      (.ops [
        ⟨(some 29), .call, [.c (.fn (.func 40) [] [])], none⟩,
        ⟨(some 30), (.p .mov), [.t 29], none⟩,
        ⟨(some 31), (.p .mov), [.t 7], (some (30, true))⟩,
        ⟨(some 32), (.p .mov), [.t 0], (some (30, true))⟩,
        ⟨(some 33), .call, [.c (.fn (.func 44) [] []), .t 31, .t 32], (some (30, true))⟩,
        ⟨(some 34), (.p .len), [.t 33], (some (30, true))⟩,
        ⟨(some 35), (.p .mov), [.t 7], (some (30, true))⟩,
        ⟨(some 36), (.p .mov), [.t 0], (some (30, true))⟩,
        ⟨(some 37), (.p .mov), [.t 1], (some (30, true))⟩,
        ⟨(some 38), (.p (.bld [(.int .i64 0), (.int .i64 0)] [(0, 1), (1, 1)])), [.t 36, .t 37], (some (30, true))⟩,
        ⟨(some 39), .call, [.c (.fn (.func 41) [] []), .t 35, .t 38], (some (30, true))⟩,
        ⟨(some 40), (.p .len), [.t 39], (some (30, true))⟩,
        ⟨(some 41), (.p (.bin .add .ifc)), [.t 34, .t 40], (some (30, true))⟩,
        ⟨(some 42), (.p .mov), [.t 7], (some (30, true))⟩,
        ⟨(some 43), (.p .mov), [.t 0], (some (30, true))⟩,
        ⟨(some 44), .call, [.c (.fn (.func 43) [] []), .t 42, .t 43], (some (30, true))⟩,
        ⟨(some 45), (.p .len), [.t 44], (some (30, true))⟩,
        ⟨(some 46), (.p (.bin .add .ifc)), [.t 41, .t 45], (some (30, true))⟩,
        ⟨(some 47), (.p .mov), [.t 7], (some (30, true))⟩,
        ⟨(some 48), (.p .mov), [.t 0], (some (30, true))⟩,
        ⟨(some 49), .call, [.c (.fn (.func 45) [] []), .t 47, .t 48], (some (30, true))⟩,
        ⟨(some 50), (.p .len), [.t 49], (some (30, true))⟩,
        ⟨(some 51), (.p (.bin .add .ifc)), [.t 46, .t 50], (some (30, true))⟩,
        ⟨(some 52), (.p .mov), [.t 10], (some (30, true))⟩,
        ⟨(some 53), (.p .len), [.t 52], (some (30, true))⟩,
        ⟨(some 54), (.p (.bin .add .ifc)), [.t 51, .t 53], (some (30, true))⟩,
        ⟨(some 55), (.p .mov), [.t 7], (some (30, true))⟩,
        ⟨(some 56), (.p .mov), [.t 0], (some (30, true))⟩,
        ⟨(some 57), .call, [.c (.fn (.func 47) [] []), .t 55, .t 56], (some (30, true))⟩,
        ⟨(some 58), (.p (.bin .add .ifc)), [.t 54, .t 57], (some (30, true))⟩,
        ⟨(some 59), (.p (.bin .eql .int)), [.t 58, .c (.int .i64 0)], (some (30, true))⟩,
        ⟨(some 60), (.p .pick), [.t 30, .t 59, .c (.bool false)], none⟩,
        ⟨(some 61), (.p .mov), [.t 60], none⟩,
        ⟨(some 62), (.p .mov), [.t 7], (some (61, true))⟩,
        ⟨(some 63), (.p .mov), [.t 0], (some (61, true))⟩,
        ⟨(some 64), .call, [.c (.fn (.func 53) [] []), .t 62, .t 63], (some (61, true))⟩,
        ⟨(some 65), (.p (.bin .eql .int)), [.t 64, .c (.int .i64 (-1))], (some (61, true))⟩,
        ⟨(some 66), (.p .pick), [.t 61, .t 65, .c (.bool false)], none⟩,
        ⟨(some 67), (.p .mov), [.t 66], none⟩,
        ⟨(some 68), (.p .mov), [.t 7], (some (67, true))⟩,
        ⟨(some 69), (.p .mov), [.t 0], (some (67, true))⟩,
        ⟨(some 70), .call, [.c (.fn (.func 46) [] []), .t 68, .t 69], (some (67, true))⟩,
        ⟨(some 71), (.p (.bin .eql .int)), [.t 70, .c (.int .i64 (-1))], (some (67, true))⟩,
        ⟨(some 72), (.p .pick), [.t 67, .t 71, .c (.bool false)], none⟩,
        ⟨(some 73), (.p .mov), [.t 72], none⟩,
        ⟨(some 74), (.p .mov), [.t 9], (some (73, true))⟩,
        ⟨(some 75), (.p (.un .not)), [.t 74], (some (73, true))⟩,
        ⟨(some 76), (.p .pick), [.t 73, .t 75, .c (.bool false)], none⟩,
        ⟨(some 77), (.p .mov), [.t 76], none⟩,
        ⟨(some 78), (.p .mov), [.t 11], (some (77, true))⟩,
        ⟨(some 79), (.p (.un .not)), [.t 78], (some (77, true))⟩,
        ⟨(some 80), (.p .pick), [.t 77, .t 79, .c (.bool false)], none⟩,
        ⟨(some 6), (.p .mov), [.t 80], none⟩])
      (.ret [6]))))))
def l05_GraphNil_I : FInfo := ⟨(.fz false), 3, l05_GraphNil_C, [.tmp 6]⟩
def l05_GraphNil_A : Ann := ⟨[], [], [], [], [8]⟩
abbrev n_l05_GraphNil : Nat := 14

/-! ### balise/graph.New -/
def graph_New_C : CCode :=
 (.seq
  (.ops [
    ⟨(some 1), (.h (.box 1)), [.t 0], none⟩,
    ⟨(some 2), (.p .mov), [.c .nilp], none⟩])
  (.seq
   (.ops [
     ⟨(some 3), (.h (.load true 10)), [.t 1], none⟩,
     ⟨(some 4), (.p (.bld [.nils, .nils, .nils, .nils, .nils, (.int .i64 0), (.int .i64 0), (.int .i64 0), (.int .i64 0), (.int .i64 0)] [(0, 10)])), [.t 3], none⟩,
     ⟨(some 5), (.h .boxh), [.t 4], none⟩,
     ⟨(some 2), (.p .mov), [.t 5], none⟩])
   (.ret [2])))
def graph_New_I : FInfo := ⟨(.fz false), 1, graph_New_C, [.tmp 2]⟩
def graph_New_A : Ann := ⟨[5], [], [], [], [1]⟩
abbrev n_graph_New : Nat := 18

/-! ### balise/baliseref01.Ints -/
def r01_Ints_B0 : CCode :=
 (.seq
  (.seq
   (.ops [
     ⟨(some 11), (.p .mov), [.t 5], none⟩,
     ⟨(some 12), (.p .mov), [.t 0], none⟩,
     ⟨(some 13), (.p .len), [.t 12], none⟩,
     ⟨(some 14), (.p (.bin .lss .ifc)), [.t 11, .t 13], none⟩])
   (.cond (.t 14)
    .skip
    (.exit 0)))
  (.seq
   (.block 1 (some [0, 1, 5])
    (.seq
     (.ops [
       ⟨(some 17), (.p .mov), [.t 0], none⟩,
       ⟨(some 18), (.p .mov), [.t 5], none⟩,
       ⟨(some 19), (.p (.iaddr 1)), [.t 17, .t 18], none⟩,
       ⟨(some 20), (.h (.load false 1)), [.t 19], none⟩,
       ⟨(some 21), (.p .mov), [.t 1], none⟩,
       ⟨(some 22), (.p .mov), [.t 5], none⟩,
       ⟨(some 23), (.p (.iaddr 1)), [.t 21, .t 22], none⟩,
       ⟨(some 24), (.h (.load false 1)), [.t 23], none⟩,
       ⟨(some 25), (.p (.bin .neq .int)), [.t 20, .t 24], none⟩])
     (.cond (.t 25)
      (.seq
       (.ops [
         ⟨(some 4), (.p .mov), [.c (.bool false)], none⟩])
       (.ret [4]))
      .skip)))
   (.ops [
     ⟨(some 15), (.p .mov), [.t 5], none⟩,
     ⟨(some 16), (.p (.bin .add .ifc)), [.t 15, .c (.int .i64 1)], none⟩,
     ⟨(some 5), (.p .mov), [.t 16], none⟩])))
def r01_Ints_L0 : CCode := .bloop 0 [0, 1, 5] [] r01_Ints_B0
def r01_Ints_C : CCode :=
 (.seq
  (.ops [
    ⟨(some 4), (.p .mov), [.c (.bool false)], none⟩])
  (.seq
   (.seq
    (.ops [
      ⟨(some 6), (.p .mov), [.t 0], none⟩,
      ⟨(some 7), (.p .len), [.t 6], none⟩,
      ⟨(some 8), (.p .mov), [.t 1], none⟩,
      ⟨(some 9), (.p .len), [.t 8], none⟩,
      ⟨(some 10), (.p (.bin .neq .int)), [.t 7, .t 9], none⟩])
    (.cond (.t 10)
     (.seq
      (.ops [
        ⟨(some 4), (.p .mov), [.c (.bool false)], none⟩])
      (.ret [4]))
     .skip))
   (.seq
    (.seq
     (.ops [
       ⟨(some 5), (.p .mov), [.c (.int .i64 0)], none⟩])
     r01_Ints_L0)
    (.seq
     (.ops [
       ⟨(some 4), (.p .mov), [.c (.bool true)], none⟩])
     (.ret [4])))))
def r01_Ints_I : FInfo := ⟨(.fz false), 2, r01_Ints_C, [.tmp 4]⟩
def r01_Ints_A : Ann := ⟨[], [], [(0, [0, 1, 5], [])], [(1, [0, 1, 5])], []⟩
abbrev n_r01_Ints : Nat := 27

/-! ### balise/baliselaw05.joins -/
def l05_joins_C : CCode :=
 (.seq
  (.ops [
    ⟨(some 0), (.p .mov), [.c (.bool false)], none⟩])
  (.seq
   (.ops [
     ⟨(some 2), (.h (.bslF 1 3 [(.cplx .f64 0 0)] [(0, 1), (1, 1), (2, 1)])), [.c (.cplx .f64 0 0), .c (.cplx .f64 4607182418800017408 0), .c (.cplx .f64 4611686018427387904 0)], none⟩,
     ⟨(some 3), (.p (.bld [(.int .i64 0), (.int .i64 0), (.int .i64 0)] [(0, 1), (1, 1), (2, 1)])), [.c (.int .i64 1), .c (.int .i64 0), .c (.int .i64 1)], none⟩,
     ⟨(some 4), (.p (.bld [(.int .i64 0), (.int .i64 0), (.int .i64 0)] [(0, 1), (1, 1), (2, 1)])), [.c (.int .i64 1), .c (.int .i64 1), .c (.int .i64 2)], none⟩,
     ⟨(some 5), (.h (.bslF 3 2 [(.int .i64 0), (.int .i64 0), (.int .i64 0)] [(0, 3), (3, 3)])), [.t 3, .t 4], none⟩,
     ⟨(some 6), (.p (.bld [.nils, .nils, .nils, .nils, .nils, (.int .i64 0), (.int .i64 0), (.int .i64 0), (.int .i64 0), (.int .i64 0)] [(0, 1), (1, 1)])), [.t 2, .t 5], none⟩,
     ⟨(some 7), .call, [.c (.fn (.func 18) [] []), .t 6], none⟩,
     ⟨(some 1), (.p .mov), [.t 7], none⟩])
   (.seq
    (.ops [
      ⟨(some 8), (.p .mov), [.t 1], none⟩,
      ⟨(some 9), .call, [.c (.fn (.func 43) [] []), .t 8, .c (.int .i64 0)], none⟩,
      ⟨(some 10), (.h (.bslF 1 1 [(.int .i64 0)] [(0, 1)])), [.c (.int .i64 1)], none⟩,
      ⟨(some 11), .call, [.c (.fn (.func 27) [] []), .t 9, .t 10], none⟩,
      ⟨(some 12), (.p .mov), [.t 11], none⟩,
      ⟨(some 13), (.p .mov), [.t 1], (some (12, true))⟩,
      ⟨(some 14), .call, [.c (.fn (.func 43) [] []), .t 13, .c (.int .i64 1)], (some (12, true))⟩,
      ⟨(some 15), (.h (.bslF 1 1 [(.int .i64 0)] [(0, 1)])), [.c (.int .i64 0)], (some (12, true))⟩,
      ⟨(some 16), .call, [.c (.fn (.func 27) [] []), .t 14, .t 15], (some (12, true))⟩,
      ⟨(some 17), (.p .pick), [.t 12, .t 16, .c (.bool false)], none⟩,
      ⟨(some 18), (.p .mov), [.t 17], none⟩,
      ⟨(some 19), (.p .mov), [.t 1], (some (18, true))⟩,
      ⟨(some 20), .call, [.c (.fn (.func 47) [] []), .t 19, .c (.int .i64 0)], (some (18, true))⟩,
      ⟨(some 21), (.p (.bin .eql .int)), [.t 20, .c (.int .i64 1)], (some (18, true))⟩,
      ⟨(some 22), (.p .pick), [.t 18, .t 21, .c (.bool false)], none⟩,
      ⟨(some 0), (.p .mov), [.t 22], none⟩])
    (.ret [0]))))
def l05_joins_I : FInfo := ⟨(.fz false), 0, l05_joins_C, [.tmp 0]⟩
def l05_joins_A : Ann := ⟨[], [], [], [], []⟩
abbrev n_l05_joins : Nat := 40

/-! ### (*balise/graph.Graph).Around -/
def graph_Graph_Around_C : CCode :=
 (.seq
  (.ops [
    ⟨(some 3), (.h .boxh), [.t 1], none⟩,
    ⟨(some 4), (.p .mov), [.c .nils], none⟩])
  (.seq
   (.ops [
     ⟨(some 11), (.p .mov), [.t 0], none⟩,
     ⟨(some 12), (.h (.load true 2)), [.t 3], none⟩,
     ⟨(some 13), .call, [.c (.fn (.func 76) [] []), .t 11, .t 12], none⟩,
     ⟨(some 10), (.p .mov), [.t 13], none⟩,
     ⟨(some 14), (.p (.ext 0)), [.t 10], none⟩,
     ⟨(some 15), (.p (.ext 1)), [.t 10], none⟩,
     ⟨(some 5), (.p .mov), [.t 14], none⟩,
     ⟨(some 6), (.p .mov), [.t 15], none⟩])
   (.seq
    (.seq
     (.ops [
       ⟨(some 16), (.p .mov), [.t 6], none⟩,
       ⟨(some 17), (.p (.un .not)), [.t 16], none⟩])
     (.cond (.t 17)
      (.seq
       (.ops [
         ⟨(some 4), (.p .mov), [.c .nils], none⟩])
       (.ret [4]))
      .skip))
    (.seq
     (.ops [
       ⟨(some 18), (.p .mov), [.t 0], none⟩,
       ⟨(some 19), (.p .mov), [.t 5], none⟩,
       ⟨(some 20), .call, [.c (.fn (.func 53) [] []), .t 18, .t 19], none⟩,
       ⟨(some 7), (.p .mov), [.t 20], none⟩])
     (.seq
      (.seq
       (.ops [
         ⟨(some 21), (.p .mov), [.t 7], none⟩,
         ⟨(some 22), (.p (.bin .lss .ifc)), [.t 21, .c (.int .i64 0)], none⟩])
       (.cond (.t 22)
        (.seq
         (.ops [
           ⟨(some 23), (.p .mov), [.t 0], none⟩,
           ⟨(some 24), (.p .mov), [.t 5], none⟩,
           ⟨(some 25), .call, [.c (.fn (.func 44) [] []), .t 23, .t 24], none⟩,
           ⟨(some 26), (.p (.mkfn (.func 78) 0)), [.t 3], none⟩,
           ⟨(some 27), .call, [.c (.fn (.func 77) [] []), .t 25, .t 26], none⟩,
           ⟨(some 8), (.p .mov), [.t 27], none⟩])
         (.seq
          (.seq
           (.ops [
             ⟨(some 28), (.p .mov), [.t 8], none⟩,
             ⟨(some 29), (.p .len), [.t 28], none⟩,
             ⟨(some 30), (.p (.bin .neq .int)), [.t 29, .c (.int .i64 1)], none⟩])
           (.cond (.t 30)
            (.seq
             (.ops [
               ⟨(some 4), (.p .mov), [.c .nils], none⟩])
             (.ret [4]))
            .skip))
          (.seq
           (.ops [
             ⟨(some 31), (.p .mov), [.t 8], none⟩,
             ⟨(some 4), (.p .mov), [.t 31], none⟩])
           (.ret [4]))))
        .skip))
      (.seq
       (.ops [
         ⟨(some 32), (.p .mov), [.t 0], none⟩,
         ⟨(some 33), (.p .nchk), [.t 32], none⟩,
         ⟨(some 34), (.p (.faddr 0)), [.t 33], none⟩,
         ⟨(some 35), (.p (.faddr 3)), [.t 34], none⟩,
         ⟨(some 36), (.h (.load false 1)), [.t 35], none⟩,
         ⟨(some 37), (.p .mov), [.t 7], none⟩,
         ⟨(some 38), (.p (.iaddr 4)), [.t 36, .t 37], none⟩,
         ⟨(some 39), (.h (.load true 4)), [.t 38], none⟩,
         ⟨(some 9), (.h (.newl 9 [(.int .i64 0), (.int .i64 0), (.int .i64 0), (.int .i64 0)])), [], none⟩,
         ⟨none, (.h (.store 4)), [.t 9, .t 39], none⟩])
       (.seq
        (.seq
         (.ops [
           ⟨(some 40), (.p (.faddr 0)), [.t 3], none⟩,
           ⟨(some 41), (.h (.load false 1)), [.t 40], none⟩])
         (.block 0 (some [])
          (.seq
           (.ops [
             ⟨(some 43), (.p (.faddr 1)), [.t 9], none⟩,
             ⟨(some 44), (.h (.load false 1)), [.t 43], none⟩,
             ⟨(some 45), (.p (.bin .eql .int)), [.t 41, .t 44], none⟩,
             ⟨(some 42), (.p .mov), [.t 45], none⟩])
           (.cond (.t 42)
            (.seq
             (.ops [
               ⟨(some 46), (.p .mov), [.t 0], none⟩,
               ⟨(some 47), (.p (.faddr 2)), [.t 9], none⟩,
               ⟨(some 48), (.h (.load false 1)), [.t 47], none⟩,
               ⟨(some 49), (.p .mov), [.t 5], none⟩,
               ⟨(some 50), .call, [.c (.fn (.func 80) [] []), .t 46, .t 48, .t 49], none⟩,
               ⟨(some 51), (.p .mov), [.t 0], none⟩,
               ⟨(some 52), (.p (.faddr 3)), [.t 9], none⟩,
               ⟨(some 53), (.h (.load false 1)), [.t 52], none⟩,
               ⟨(some 54), (.p .mov), [.t 5], none⟩,
               ⟨(some 55), .call, [.c (.fn (.func 80) [] []), .t 51, .t 53, .t 54], none⟩,
               ⟨(some 56), (.h (.bslF 1 2 [.nils] [(0, 1), (1, 1)])), [.t 50, .t 55], none⟩,
               ⟨(some 57), .call, [.c (.fn (.func 79) [] []), .t 56], none⟩,
               ⟨(some 4), (.p .mov), [.t 57], none⟩])
             (.ret [4]))
            (.seq
             (.seq
              (.ops [
                ⟨(some 59), (.p (.faddr 2)), [.t 9], none⟩,
                ⟨(some 60), (.h (.load false 1)), [.t 59], none⟩,
                ⟨(some 61), (.p (.bin .eql .int)), [.t 41, .t 60], none⟩,
                ⟨(some 58), (.p .mov), [.t 61], none⟩])
              (.cond (.t 58)
               .skip
               (.ops [
                 ⟨(some 62), (.p (.faddr 3)), [.t 9], none⟩,
                 ⟨(some 63), (.h (.load false 1)), [.t 62], none⟩,
                 ⟨(some 64), (.p (.bin .eql .int)), [.t 41, .t 63], none⟩,
                 ⟨(some 58), (.p .mov), [.t 64], none⟩])))
             (.cond (.t 58)
              (.seq
               (.ops [
                 ⟨(some 65), (.p .mov), [.t 0], none⟩,
                 ⟨(some 66), (.p (.faddr 1)), [.t 9], none⟩,
                 ⟨(some 67), (.h (.load false 1)), [.t 66], none⟩,
                 ⟨(some 68), (.p .mov), [.t 5], none⟩,
                 ⟨(some 69), .call, [.c (.fn (.func 80) [] []), .t 65, .t 67, .t 68], none⟩,
                 ⟨(some 4), (.p .mov), [.t 69], none⟩])
               (.ret [4]))
              .skip))))))
        (.seq
         (.ops [
           ⟨(some 4), (.p .mov), [.c .nils], none⟩])
         (.ret [4])))))))))
def graph_Graph_Around_I : FInfo := ⟨(.fz false), 2, graph_Graph_Around_C, [.tmp 4]⟩
def graph_Graph_Around_A : Ann := ⟨[3], [], [], [(0, [])], [9]⟩
abbrev n_graph_Graph_Around : Nat := 41

/-! ### balise/baliseref01.Has -/
def r01_Has_B0 : CCode :=
 (.seq
  (.seq
   (.ops [
     ⟨(some 6), (.p .mov), [.t 5], none⟩,
     ⟨(some 7), (.p .mov), [.t 0], none⟩,
     ⟨(some 8), (.p .len), [.t 7], none⟩,
     ⟨(some 9), (.p (.bin .lss .ifc)), [.t 6, .t 8], none⟩])
   (.cond (.t 9)
    .skip
    (.exit 0)))
  (.seq
   (.block 1 (some [0, 1, 5])
    (.seq
     (.ops [
       ⟨(some 12), (.p .mov), [.t 0], none⟩,
       ⟨(some 13), (.p .mov), [.t 5], none⟩,
       ⟨(some 14), (.p (.iaddr 1)), [.t 12, .t 13], none⟩,
       ⟨(some 15), (.h (.load false 1)), [.t 14], none⟩,
       ⟨(some 16), (.p .mov), [.t 1], none⟩,
       ⟨(some 17), (.p (.bin .eql .int)), [.t 15, .t 16], none⟩])
     (.cond (.t 17)
      (.seq
       (.ops [
         ⟨(some 4), (.p .mov), [.c (.bool true)], none⟩])
       (.ret [4]))
      .skip)))
   (.ops [
     ⟨(some 10), (.p .mov), [.t 5], none⟩,
     ⟨(some 11), (.p (.bin .add .ifc)), [.t 10, .c (.int .i64 1)], none⟩,
     ⟨(some 5), (.p .mov), [.t 11], none⟩])))
def r01_Has_L0 : CCode := .bloop 0 [0, 1, 5] [] r01_Has_B0
def r01_Has_C : CCode :=
 (.seq
  (.ops [
    ⟨(some 4), (.p .mov), [.c (.bool false)], none⟩])
  (.seq
   (.seq
    (.ops [
      ⟨(some 5), (.p .mov), [.c (.int .i64 0)], none⟩])
    r01_Has_L0)
   (.seq
    (.ops [
      ⟨(some 4), (.p .mov), [.c (.bool false)], none⟩])
    (.ret [4]))))
def r01_Has_I : FInfo := ⟨(.fz false), 2, r01_Has_C, [.tmp 4]⟩
def r01_Has_A : Ann := ⟨[], [], [(0, [0, 1, 5], [])], [(1, [0, 1, 5])], []⟩
abbrev n_r01_Has : Nat := 42

/-! ### (*balise/graph.Graph).Near -/
def graph_Graph_Near_B2 : CCode :=
 (.seq
  (.ops [
    ⟨(some 19), (.p (.bin .lss .ifc)), [.t 18, .t 17], none⟩])
  (.seq
   (.cond (.t 19)
    .skip
    (.exit 2))
   (.seq
    (.block 3 (some [0, 1, 5, 9, 16, 17, 18])
     (.seq
      (.ops [
        ⟨(some 20), (.p (.iaddr 2)), [.t 16, .t 18], none⟩,
        ⟨(some 21), (.h (.load true 2)), [.t 20], none⟩,
        ⟨(some 8), (.h (.newl 8 [(.int .i64 0), (.int .i64 0)])), [], none⟩,
        ⟨none, (.h (.store 2)), [.t 8, .t 21], none⟩])
      (.ops [
        ⟨(some 22), (.p .mov), [.t 5], none⟩,
        ⟨(some 23), (.p (.faddr 0)), [.t 8], none⟩,
        ⟨(some 24), (.h (.load false 1)), [.t 23], none⟩,
        ⟨(some 25), (.h (.bslF 1 1 [(.int .i64 0)] [(0, 1)])), [.t 24], none⟩,
        ⟨(some 26), (.h (.app 1 8 [(.int .i64 0)])), [.t 22, .t 25], none⟩,
        ⟨(some 5), (.p .mov), [.t 26], none⟩])))
    (.ops [
      ⟨(some 27), (.p (.bin .add .ifc)), [.t 18, .c (.int .i64 1)], none⟩,
      ⟨(some 18), (.p .mov), [.t 27], none⟩]))))
def graph_Graph_Near_L2 : CCode := .bloop 2 [0, 1, 5, 9, 16, 17, 18] [0, 1, 5, 9] graph_Graph_Near_B2

def graph_Graph_Near_B0 : CCode :=
 (.seq
  (.ops [
    ⟨(some 10), (.p (.bin .lss .ifc)), [.t 9, .c (.int .i64 2)], none⟩])
  (.seq
   (.cond (.t 10)
    .skip
    (.exit 0))
   (.seq
    (.block 1 (some [0, 1, 5, 9])
     (.seq
      (.ops [
        ⟨(some 11), (.p .mov), [.t 9], none⟩,
        ⟨(some 6), (.p .mov), [.t 11], none⟩])
      (.seq
       (.ops [
         ⟨(some 12), (.p .mov), [.t 0], none⟩,
         ⟨(some 13), (.p .mov), [.t 1], none⟩,
         ⟨(some 14), (.p .mov), [.t 6], none⟩,
         ⟨(some 15), (.p (.bld [(.int .i64 0), (.int .i64 0)] [(0, 1), (1, 1)])), [.t 13, .t 14], none⟩,
         ⟨(some 16), .call, [.c (.fn (.func 41) [] []), .t 12, .t 15], none⟩,
         ⟨(some 17), (.p .len), [.t 16], none⟩,
         ⟨(some 18), (.p .mov), [.c (.int .i64 0)], none⟩])
       graph_Graph_Near_L2)))
    (.ops [
      ⟨(some 28), (.p (.bin .add .ifc)), [.t 9, .c (.int .i64 1)], none⟩,
      ⟨(some 9), (.p .mov), [.t 28], none⟩]))))
def graph_Graph_Near_L0 : CCode := .bloop 0 [0, 1, 5, 9] [5] graph_Graph_Near_B0
def graph_Graph_Near_C : CCode :=
 (.seq
  (.ops [
    ⟨(some 4), (.p .mov), [.c .nils], none⟩])
  (.seq
   (.ops [
     ⟨(some 5), (.p .mov), [.c .nils], none⟩])
   (.seq
    (.seq
     (.ops [
       ⟨(some 9), (.p .mov), [.c (.int .i64 0)], none⟩])
     graph_Graph_Near_L0)
    (.seq
     (.ops [
       ⟨(some 29), (.p .mov), [.t 5], none⟩,
       ⟨(some 30), .call, [.c (.fn (.func 81) [] []), .t 29], none⟩])
     (.seq
      (.ops [
        ⟨(some 31), (.p .mov), [.t 5], none⟩,
        ⟨(some 32), .call, [.c (.fn (.func 82) [] []), .t 31], none⟩,
        ⟨(some 4), (.p .mov), [.t 32], none⟩])
      (.ret [4]))))))
def graph_Graph_Near_I : FInfo := ⟨(.fz false), 2, graph_Graph_Near_C, [.tmp 4]⟩
def graph_Graph_Near_A : Ann := ⟨[], [], [(0, [0, 1, 5, 9], [5]), (2, [0, 1, 5, 9, 16, 17, 18], [0, 1, 5, 9])], [(1, [0, 1, 5, 9]), (3, [0, 1, 5, 9, 16, 17, 18])], [8]⟩
abbrev n_graph_Graph_Near : Nat := 43

/-! ### (*balise/graph.Graph).Ends -/
def graph_Graph_Ends_B2 : CCode :=
 (.seq
  (.ops [
    ⟨(some 28), (.p (.bin .lss .ifc)), [.t 27, .c (.int .i64 2)], none⟩])
  (.seq
   (.cond (.t 28)
    .skip
    (.exit 2))
   (.seq
    (.block 3 (some [0, 1, 5, 6, 26, 27])
     (.seq
      (.ops [
        ⟨(some 29), (.p .mov), [.t 27], none⟩,
        ⟨(some 30), (.p (.idxA 2 false 1)), [.t 26, .t 27], none⟩,
        ⟨(some 9), (.p .mov), [.t 29], none⟩,
        ⟨(some 10), (.p .mov), [.t 30], none⟩])
      (.seq
       (.ops [
         ⟨(some 31), (.p .mov), [.t 10], none⟩,
         ⟨(some 32), (.p .mov), [.t 1], none⟩,
         ⟨(some 33), (.p (.bin .eql .int)), [.t 31, .t 32], none⟩])
       (.cond (.t 33)
        (.ops [
          ⟨(some 34), (.p .mov), [.t 5], none⟩,
          ⟨(some 35), (.p .mov), [.t 6], none⟩,
          ⟨(some 36), (.p .mov), [.t 9], none⟩,
          ⟨(some 37), (.p (.bld [(.int .i64 0), (.int .i64 0)] [(0, 1), (1, 1)])), [.t 35, .t 36], none⟩,
          ⟨(some 38), (.h (.bslF 2 1 [(.int .i64 0), (.int .i64 0)] [(0, 2)])), [.t 37], none⟩,
          ⟨(some 39), (.h (.app 2 16 [(.int .i64 0), (.int .i64 0)])), [.t 34, .t 38], none⟩,
          ⟨(some 5), (.p .mov), [.t 39], none⟩])
        .skip))))
    (.ops [
      ⟨(some 40), (.p (.bin .add .ifc)), [.t 27, .c (.int .i64 1)], none⟩,
      ⟨(some 27), (.p .mov), [.t 40], none⟩]))))
def graph_Graph_Ends_L2 : CCode := .bloop 2 [0, 1, 5, 6, 26, 27] [0, 1, 5, 6] graph_Graph_Ends_B2

def graph_Graph_Ends_B0 : CCode :=
 (.seq
  (.block 1 (some [0, 1, 5, 6])
   (.seq
    (.ops [
      ⟨(some 14), (.p .mov), [.t 0], none⟩,
      ⟨(some 15), (.p .mov), [.t 6], none⟩,
      ⟨(some 16), .call, [.c (.fn (.func 83) [] []), .t 14, .t 15], none⟩,
      ⟨(some 13), (.p .mov), [.t 16], none⟩,
      ⟨(some 17), (.p (.ext 0)), [.t 13], none⟩,
      ⟨(some 18), (.p (.ext 1)), [.t 13], none⟩,
      ⟨(some 7), (.h (.newl 7 [(.int .i64 0), (.int .i64 0), (.int .i64 0)])), [], none⟩,
      ⟨none, (.h (.store 3)), [.t 7, .t 17], none⟩,
      ⟨(some 8), (.p .mov), [.t 18], none⟩])
    (.seq
     (.seq
      (.ops [
        ⟨(some 19), (.p .mov), [.t 8], none⟩,
        ⟨(some 20), (.p (.un .not)), [.t 19], none⟩])
      (.cond (.t 20)
       (.seq
        (.ops [
          ⟨(some 21), (.p .mov), [.t 5], none⟩,
          ⟨(some 4), (.p .mov), [.t 21], none⟩])
        (.ret [4]))
       .skip))
     (.seq
      (.ops [
        ⟨(some 22), (.p (.faddr 1)), [.t 7], none⟩,
        ⟨(some 23), (.h (.load false 1)), [.t 22], none⟩,
        ⟨(some 24), (.p (.faddr 2)), [.t 7], none⟩,
        ⟨(some 25), (.h (.load false 1)), [.t 24], none⟩,
        ⟨(some 26), (.p (.bld [(.int .i64 0), (.int .i64 0)] [(0, 1), (1, 1)])), [.t 23, .t 25], none⟩,
        ⟨(some 27), (.p .mov), [.c (.int .i64 0)], none⟩])
      graph_Graph_Ends_L2))))
  (.ops [
    ⟨(some 11), (.p .mov), [.t 6], none⟩,
    ⟨(some 12), (.p (.bin .add .ifc)), [.t 11, .c (.int .i64 1)], none⟩,
    ⟨(some 6), (.p .mov), [.t 12], none⟩]))
def graph_Graph_Ends_L0 : CCode := .bloop 0 [0, 1, 5, 6] [] graph_Graph_Ends_B0
def graph_Graph_Ends_C : CCode :=
 (.seq
  (.ops [
    ⟨(some 4), (.p .mov), [.c .nils], none⟩])
  (.seq
   (.ops [
     ⟨(some 5), (.p .mov), [.c .nils], none⟩])
   (.seq
    (.ops [
      ⟨(some 6), (.p .mov), [.c (.int .i64 0)], none⟩])
    graph_Graph_Ends_L0)))
def graph_Graph_Ends_I : FInfo := ⟨.own, 2, graph_Graph_Ends_C, [.tmp 4]⟩
def graph_Graph_Ends_A : Ann := ⟨[], [], [(0, [0, 1, 5, 6], []), (2, [0, 1, 5, 6, 26, 27], [0, 1, 5, 6])], [(1, [0, 1, 5, 6]), (3, [0, 1, 5, 6, 26, 27])], [7]⟩
abbrev n_graph_Graph_Ends : Nat := 44

/-! ### (*balise/graph.Graph).Beside -/
def graph_Graph_Beside_B2 : CCode :=
 (.seq
  (.ops [
    ⟨(some 45), (.p (.bin .lss .ifc)), [.t 44, .t 43], none⟩])
  (.seq
   (.cond (.t 45)
    .skip
    (.exit 2))
   (.seq
    (.block 3 (some [0, 1, 5, 34, 35, 36, 42, 43, 44])
     (.seq
      (.ops [
        ⟨(some 46), (.p (.iaddr 1)), [.t 42, .t 44], none⟩,
        ⟨(some 47), (.h (.load false 1)), [.t 46], none⟩,
        ⟨(some 9), (.p .mov), [.t 47], none⟩])
      (.seq
       (.ops [
         ⟨(some 48), (.p .mov), [.t 0], none⟩,
         ⟨(some 49), (.p .mov), [.t 9], none⟩,
         ⟨(some 50), .call, [.c (.fn (.func 46) [] []), .t 48, .t 49], none⟩,
         ⟨(some 10), (.p .mov), [.t 50], none⟩])
       (.seq
        (.ops [
          ⟨(some 51), (.p .mov), [.t 10], none⟩,
          ⟨(some 52), (.p (.bin .geq .ifc)), [.t 51, .c (.int .i64 0)], none⟩,
          ⟨(some 53), (.p .mov), [.t 52], none⟩,
          ⟨(some 54), (.p .mov), [.t 10], (some (53, true))⟩,
          ⟨(some 55), (.p .mov), [.t 1], (some (53, true))⟩,
          ⟨(some 56), (.p (.bin .neq .int)), [.t 54, .t 55], (some (53, true))⟩,
          ⟨(some 57), (.p .pick), [.t 53, .t 56, .c (.bool false)], none⟩])
        (.cond (.t 57)
         (.ops [
           ⟨(some 58), (.p .mov), [.t 5], none⟩,
           ⟨(some 59), (.p .mov), [.t 10], none⟩,
           ⟨(some 60), (.h (.bslF 1 1 [(.int .i64 0)] [(0, 1)])), [.t 59], none⟩,
           ⟨(some 61), (.h (.app 1 8 [(.int .i64 0)])), [.t 58, .t 60], none⟩,
           ⟨(some 5), (.p .mov), [.t 61], none⟩])
         .skip)))))
    (.ops [
      ⟨(some 62), (.p (.bin .add .ifc)), [.t 44, .c (.int .i64 1)], none⟩,
      ⟨(some 44), (.p .mov), [.t 62], none⟩]))))
def graph_Graph_Beside_L2 : CCode := .bloop 2 [0, 1, 5, 34, 35, 36, 42, 43, 44] [0, 1, 5, 34, 35, 36] graph_Graph_Beside_B2

def graph_Graph_Beside_B0 : CCode :=
 (.seq
  (.ops [
    ⟨(some 37), (.p (.bin .lss .ifc)), [.t 36, .t 35], none⟩])
  (.seq
   (.cond (.t 37)
    .skip
    (.exit 0))
   (.seq
    (.block 1 (some [0, 1, 5, 34, 35, 36])
     (.seq
      (.ops [
        ⟨(some 38), (.p (.iaddr 1)), [.t 34, .t 36], none⟩,
        ⟨(some 39), (.h (.load false 1)), [.t 38], none⟩,
        ⟨(some 7), (.p .mov), [.t 39], none⟩])
      (.seq
       (.ops [
         ⟨(some 40), (.p .mov), [.t 0], none⟩,
         ⟨(some 41), (.p .mov), [.t 7], none⟩,
         ⟨(some 42), .call, [.c (.fn (.func 43) [] []), .t 40, .t 41], none⟩,
         ⟨(some 43), (.p .len), [.t 42], none⟩,
         ⟨(some 44), (.p .mov), [.c (.int .i64 0)], none⟩])
       graph_Graph_Beside_L2)))
    (.ops [
      ⟨(some 63), (.p (.bin .add .ifc)), [.t 36, .c (.int .i64 1)], none⟩,
      ⟨(some 36), (.p .mov), [.t 63], none⟩]))))
def graph_Graph_Beside_L0 : CCode := .bloop 0 [0, 1, 5, 34, 35, 36] [5] graph_Graph_Beside_B0
def graph_Graph_Beside_C : CCode :=
 (.seq
  (.ops [
    ⟨(some 4), (.p .mov), [.c .nils], none⟩])
  (.seq
   (.seq
    (.ops [
      ⟨(some 11), (.p .mov), [.t 0], none⟩,
      ⟨(some 12), (.p (.bin .eql .ptr)), [.t 11, .c .nilp], none⟩,
      ⟨(some 13), (.p .mov), [.t 12], none⟩,
      ⟨(some 14), (.p .mov), [.t 1], (some (13, false))⟩,
      ⟨(some 15), (.p (.bin .lss .ifc)), [.t 14, .c (.int .i64 0)], (some (13, false))⟩,
      ⟨(some 16), (.p .pick), [.t 13, .c (.bool true), .t 15], none⟩,
      ⟨(some 17), (.p .mov), [.t 16], none⟩,
      ⟨(some 18), (.p .mov), [.t 1], (some (17, false))⟩,
      ⟨(some 19), (.p .mov), [.t 0], (some (17, false))⟩,
      ⟨(some 20), (.p .nchk), [.t 19], (some (17, false))⟩,
      ⟨(some 21), (.p (.faddr 0)), [.t 20], (some (17, false))⟩,
      ⟨(some 22), (.p (.faddr 2)), [.t 21], (some (17, false))⟩,
      ⟨(some 23), (.h (.load false 1)), [.t 22], (some (17, false))⟩,
      ⟨(some 24), (.p .len), [.t 23], (some (17, false))⟩,
      ⟨(some 25), (.p (.bin .geq .ifc)), [.t 18, .t 24], (some (17, false))⟩,
      ⟨(some 26), (.p .pick), [.t 17, .c (.bool true), .t 25], none⟩])
    (.cond (.t 26)
     (.seq
      (.ops [
        ⟨(some 4), (.p .mov), [.c .nils], none⟩])
      (.ret [4]))
     .skip))
   (.seq
    (.ops [
      ⟨(some 5), (.p .mov), [.c .nils], none⟩])
    (.seq
     (.seq
      (.ops [
        ⟨(some 27), (.p .mov), [.t 0], none⟩,
        ⟨(some 28), (.p .nchk), [.t 27], none⟩,
        ⟨(some 29), (.p (.faddr 0)), [.t 28], none⟩,
        ⟨(some 30), (.p (.faddr 2)), [.t 29], none⟩,
        ⟨(some 31), (.h (.load false 1)), [.t 30], none⟩,
        ⟨(some 32), (.p .mov), [.t 1], none⟩,
        ⟨(some 33), (.p (.iaddr 1)), [.t 31, .t 32], none⟩,
        ⟨(some 34), (.h (.load false 1)), [.t 33], none⟩,
        ⟨(some 35), (.p .len), [.t 34], none⟩,
        ⟨(some 36), (.p .mov), [.c (.int .i64 0)], none⟩])
      graph_Graph_Beside_L0)
     (.seq
      (.ops [
        ⟨(some 64), (.p .mov), [.t 5], none⟩,
        ⟨(some 65), .call, [.c (.fn (.func 81) [] []), .t 64], none⟩])
      (.seq
       (.ops [
         ⟨(some 66), (.p .mov), [.t 5], none⟩,
         ⟨(some 67), .call, [.c (.fn (.func 82) [] []), .t 66], none⟩,
         ⟨(some 4), (.p .mov), [.t 67], none⟩])
       (.ret [4])))))))
def graph_Graph_Beside_I : FInfo := ⟨(.fz false), 2, graph_Graph_Beside_C, [.tmp 4]⟩
def graph_Graph_Beside_A : Ann := ⟨[], [], [(0, [0, 1, 5, 34, 35, 36], [5]), (2, [0, 1, 5, 34, 35, 36, 42, 43, 44], [0, 1, 5, 34, 35, 36])], [(1, [0, 1, 5, 34, 35, 36]), (3, [0, 1, 5, 34, 35, 36, 42, 43, 44])], []⟩
abbrev n_graph_Graph_Beside : Nat := 45

/-! ### (*balise/graph.Graph).Part -/
def graph_Graph_Part_C : CCode :=
 (.seq
  (.ops [
    ⟨(some 3), (.h .boxh), [.t 1], none⟩,
    ⟨(some 4), (.p .mov), [.c (.int .i64 0)], none⟩])
  (.seq
   (.seq
    (.ops [
      ⟨(some 5), (.p .mov), [.t 0], none⟩,
      ⟨(some 6), (.p (.bin .eql .ptr)), [.t 5, .c .nilp], none⟩])
    (.cond (.t 6)
     (.seq
      (.ops [
        ⟨(some 4), (.p .mov), [.c (.int .i64 (-1))], none⟩])
      (.ret [4]))
     .skip))
   (.seq
    (.ops [
      ⟨(some 7), (.p .mov), [.t 0], none⟩,
      ⟨(some 8), (.p .nchk), [.t 7], none⟩,
      ⟨(some 9), (.p (.faddr 0)), [.t 8], none⟩,
      ⟨(some 10), (.p (.faddr 2)), [.t 9], none⟩,
      ⟨(some 11), (.h (.load false 1)), [.t 10], none⟩,
      ⟨(some 12), (.p (.mkfn (.func 85) 0)), [.t 3], none⟩,
      ⟨(some 13), .call, [.c (.fn (.func 84) [] []), .t 11, .t 12], none⟩,
      ⟨(some 4), (.p .mov), [.t 13], none⟩])
    (.ret [4]))))
def graph_Graph_Part_I : FInfo := ⟨(.fz false), 2, graph_Graph_Part_C, [.tmp 4]⟩
def graph_Graph_Part_A : Ann := ⟨[3], [], [], [], []⟩
abbrev n_graph_Graph_Part : Nat := 46

/-! ### (*balise/graph.Graph).Len -/
def graph_Graph_Len_C : CCode :=
 (.seq
  (.ops [
    ⟨(some 4), (.p .mov), [.c (.int .i64 0)], none⟩])
  (.seq
   (.ops [
     ⟨(some 8), (.p .mov), [.t 0], none⟩,
     ⟨(some 9), (.p .mov), [.t 1], none⟩,
     ⟨(some 10), .call, [.c (.fn (.func 83) [] []), .t 8, .t 9], none⟩,
     ⟨(some 7), (.p .mov), [.t 10], none⟩,
     ⟨(some 11), (.p (.ext 0)), [.t 7], none⟩,
     ⟨(some 12), (.p (.ext 1)), [.t 7], none⟩,
     ⟨(some 5), (.h (.newl 5 [(.int .i64 0), (.int .i64 0), (.int .i64 0)])), [], none⟩,
     ⟨none, (.h (.store 3)), [.t 5, .t 11], none⟩,
     ⟨(some 6), (.p .mov), [.t 12], none⟩])
   (.seq
    (.ops [
      ⟨(some 13), (.p (.faddr 0)), [.t 5], none⟩,
      ⟨(some 14), (.h (.load false 1)), [.t 13], none⟩,
      ⟨(some 4), (.p .mov), [.t 14], none⟩])
    (.ret [4]))))
def graph_Graph_Len_I : FInfo := ⟨(.fz false), 2, graph_Graph_Len_C, [.tmp 4]⟩
def graph_Graph_Len_A : Ann := ⟨[], [], [], [], [5]⟩
abbrev n_graph_Graph_Len : Nat := 47

/-! ### (*balise/graph.Graph).Path -/
def graph_Graph_Path_B0 : CCode :=
 (.seq
  (.ops [
    ⟨(some 17), (.p (.bin .lss .ifc)), [.t 16, .t 15], none⟩])
  (.seq
   (.cond (.t 17)
    .skip
    (.exit 0))
   (.seq
    (.block 1 (some [0, 1, 14, 15, 16])
     (.seq
      (.ops [
        ⟨(some 18), (.p .mov), [.t 16], none⟩,
        ⟨(some 19), (.p (.iaddr 1)), [.t 14, .t 16], none⟩,
        ⟨(some 20), (.h (.load false 1)), [.t 19], none⟩,
        ⟨(some 6), (.p .mov), [.t 18], none⟩,
        ⟨(some 7), (.p .mov), [.t 20], none⟩])
      (.seq
       (.ops [
         ⟨(some 21), (.p .mov), [.t 1], none⟩,
         ⟨(some 22), (.p .mov), [.t 6], none⟩,
         ⟨(some 23), (.p (.slc 1 false true)), [.t 21, .t 22], none⟩,
         ⟨(some 24), (.p .mov), [.t 7], none⟩,
         ⟨(some 25), .call, [.c (.fn (.func 86) [] []), .t 23, .t 24], none⟩])
       (.cond (.t 25)
        (.seq
         (.ops [
           ⟨(some 4), (.p .mov), [.c .nils], none⟩,
           ⟨(some 5), (.p .mov), [.c (.bool false)], none⟩])
         (.ret [4, 5]))
        .skip))))
    (.ops [
      ⟨(some 26), (.p (.bin .add .ifc)), [.t 16, .c (.int .i64 1)], none⟩,
      ⟨(some 16), (.p .mov), [.t 26], none⟩]))))
def graph_Graph_Path_L0 : CCode := .bloop 0 [0, 1, 14, 15, 16] [0, 1] graph_Graph_Path_B0

def graph_Graph_Path_B2 : CCode :=
 (.seq
  (.ops [
    ⟨(some 28), (.p (.bin .lss .ifc)), [.t 27, .c (.int .i64 2)], none⟩])
  (.seq
   (.cond (.t 28)
    .skip
    (.exit 2))
   (.seq
    (.block 3 (some [0, 1, 27])
     (.seq
      (.ops [
        ⟨(some 29), (.p .mov), [.t 27], none⟩,
        ⟨(some 8), (.p .mov), [.t 29], none⟩])
      (.seq
       (.ops [
         ⟨(some 31), (.p .mov), [.t 0], none⟩,
         ⟨(some 32), (.p .mov), [.t 1], none⟩,
         ⟨(some 33), (.p (.iaddr 1)), [.t 32, .c (.int .i64 0)], none⟩,
         ⟨(some 34), (.h (.load false 1)), [.t 33], none⟩,
         ⟨(some 35), (.p .mov), [.t 8], none⟩,
         ⟨(some 36), (.p (.bld [(.int .i64 0), (.int .i64 0)] [(0, 1), (1, 1)])), [.t 34, .t 35], none⟩,
         ⟨(some 37), (.p .mov), [.t 1], none⟩,
         ⟨(some 38), (.p (.slc 1 true false)), [.t 37, .c (.int .i64 1)], none⟩,
         ⟨(some 39), .call, [.c (.fn (.func 87) [] []), .t 31, .t 36, .t 38], none⟩,
         ⟨(some 30), (.p .mov), [.t 39], none⟩,
         ⟨(some 40), (.p (.ext 0)), [.t 30], none⟩,
         ⟨(some 41), (.p (.ext 1)), [.t 30], none⟩,
         ⟨(some 9), (.p .mov), [.t 40], none⟩,
         ⟨(some 10), (.p .mov), [.t 41], none⟩])
       (.seq
        (.ops [
          ⟨(some 42), (.p .mov), [.t 10], none⟩])
        (.cond (.t 42)
         (.seq
          (.ops [
            ⟨(some 43), (.p .mov), [.t 9], none⟩,
            ⟨(some 4), (.p .mov), [.t 43], none⟩,
            ⟨(some 5), (.p .mov), [.c (.bool true)], none⟩])
          (.ret [4, 5]))
         .skip)))))
    (.ops [
      ⟨(some 44), (.p (.bin .add .ifc)), [.t 27, .c (.int .i64 1)], none⟩,
      ⟨(some 27), (.p .mov), [.t 44], none⟩]))))
def graph_Graph_Path_L2 : CCode := .bloop 2 [0, 1, 27] [] graph_Graph_Path_B2
def graph_Graph_Path_C : CCode :=
 (.seq
  (.ops [
    ⟨(some 4), (.p .mov), [.c .nils], none⟩,
    ⟨(some 5), (.p .mov), [.c (.bool false)], none⟩])
  (.seq
   (.seq
    (.ops [
      ⟨(some 11), (.p .mov), [.t 1], none⟩,
      ⟨(some 12), (.p .len), [.t 11], none⟩,
      ⟨(some 13), (.p (.bin .lss .ifc)), [.t 12, .c (.int .i64 2)], none⟩])
    (.cond (.t 13)
     (.seq
      (.ops [
        ⟨(some 4), (.p .mov), [.c .nils], none⟩,
        ⟨(some 5), (.p .mov), [.c (.bool false)], none⟩])
      (.ret [4, 5]))
     .skip))
   (.seq
    (.seq
     (.ops [
       ⟨(some 14), (.p .mov), [.t 1], none⟩,
       ⟨(some 15), (.p .len), [.t 14], none⟩,
       ⟨(some 16), (.p .mov), [.c (.int .i64 0)], none⟩])
     graph_Graph_Path_L0)
    (.seq
     (.seq
      (.ops [
        ⟨(some 27), (.p .mov), [.c (.int .i64 0)], none⟩])
      graph_Graph_Path_L2)
     (.seq
      (.ops [
        ⟨(some 4), (.p .mov), [.c .nils], none⟩,
        ⟨(some 5), (.p .mov), [.c (.bool false)], none⟩])
      (.ret [4, 5]))))))
def graph_Graph_Path_I : FInfo := ⟨(.fz false), 2, graph_Graph_Path_C, [.tmp 4, .tmp 5]⟩
def graph_Graph_Path_A : Ann := ⟨[], [], [(0, [0, 1, 14, 15, 16], [0, 1]), (2, [0, 1, 27], [])], [(1, [0, 1, 14, 15, 16]), (3, [0, 1, 27])], []⟩
abbrev n_graph_Graph_Path : Nat := 49

/-! ### (*balise/graph.Graph).Next -/
def graph_Graph_Next_C : CCode :=
 (.seq
  (.ops [
    ⟨(some 4), (.h (.box 4)), [.t 1], none⟩,
    ⟨(some 6), (.h (.newl 6 [(.int .i64 0), (.int .i64 0)])), [], none⟩,
    ⟨(some 7), (.p .mov), [.c (.bool false)], none⟩])
  (.seq
   (.ops [
     ⟨(some 15), (.p .mov), [.t 0], none⟩,
     ⟨(some 16), (.h (.load true 2)), [.t 4], none⟩,
     ⟨(some 17), .call, [.c (.fn (.func 41) [] []), .t 15, .t 16], none⟩,
     ⟨(some 8), (.p .mov), [.t 17], none⟩])
   (.seq
    (.seq
     (.ops [
       ⟨(some 18), (.p .mov), [.t 8], none⟩,
       ⟨(some 19), (.p .len), [.t 18], none⟩,
       ⟨(some 20), (.p (.bin .eql .int)), [.t 19, .c (.int .i64 0)], none⟩])
     (.cond (.t 20)
      (.seq
       (.ops [
         ⟨(some 21), (.p (.bld [(.int .i64 0), (.int .i64 0)] [])), [], none⟩,
         ⟨none, (.h (.store 2)), [.t 6, .t 21], none⟩,
         ⟨(some 7), (.p .mov), [.c (.bool false)], none⟩])
       (.ret [6, 7]))
      .skip))
    (.seq
     (.ops [
       ⟨(some 23), (.p .mov), [.t 0], none⟩,
       ⟨(some 24), (.h (.load true 2)), [.t 4], none⟩,
       ⟨(some 25), .call, [.c (.fn (.func 76) [] []), .t 23, .t 24], none⟩,
       ⟨(some 22), (.p .mov), [.t 25], none⟩,
       ⟨(some 26), (.p (.ext 0)), [.t 22], none⟩,
       ⟨(some 27), (.p (.ext 1)), [.t 22], none⟩,
       ⟨(some 9), (.p .mov), [.t 26], none⟩,
       ⟨(some 10), (.p .mov), [.t 27], none⟩])
     (.seq
      (.ops [
        ⟨(some 28), (.p .mov), [.t 0], none⟩,
        ⟨(some 29), (.p .mov), [.t 9], none⟩,
        ⟨(some 30), .call, [.c (.fn (.func 53) [] []), .t 28, .t 29], none⟩,
        ⟨(some 11), (.p .mov), [.t 30], none⟩])
      (.seq
       (.seq
        (.ops [
          ⟨(some 31), (.p .mov), [.t 11], none⟩,
          ⟨(some 32), (.p (.bin .lss .ifc)), [.t 31, .c (.int .i64 0)], none⟩])
        (.cond (.t 32)
         (.seq
          (.ops [
            ⟨(some 33), (.p .mov), [.t 8], none⟩,
            ⟨(some 34), (.p (.iaddr 2)), [.t 33, .c (.int .i64 0)], none⟩,
            ⟨(some 35), (.h (.load true 2)), [.t 34], none⟩,
            ⟨none, (.h (.store 2)), [.t 6, .t 35], none⟩,
            ⟨(some 7), (.p .mov), [.c (.bool true)], none⟩])
          (.ret [6, 7]))
         .skip))
       (.seq
        (.ops [
          ⟨(some 36), (.p .mov), [.t 0], none⟩,
          ⟨(some 37), (.p .nchk), [.t 36], none⟩,
          ⟨(some 38), (.p (.faddr 0)), [.t 37], none⟩,
          ⟨(some 39), (.p (.faddr 3)), [.t 38], none⟩,
          ⟨(some 40), (.h (.load false 1)), [.t 39], none⟩,
          ⟨(some 41), (.p .mov), [.t 11], none⟩,
          ⟨(some 42), (.p (.iaddr 4)), [.t 40, .t 41], none⟩,
          ⟨(some 43), (.h (.load true 4)), [.t 42], none⟩,
          ⟨(some 12), (.h (.newl 12 [(.int .i64 0), (.int .i64 0), (.int .i64 0), (.int .i64 0)])), [], none⟩,
          ⟨none, (.h (.store 4)), [.t 12, .t 43], none⟩])
        (.seq
         (.ops [
           ⟨(some 44), (.p (.faddr 2)), [.t 12], none⟩,
           ⟨(some 45), (.h (.load false 1)), [.t 44], none⟩,
           ⟨(some 13), (.h (.newh [(.int .i64 0)])), [], none⟩,
           ⟨none, (.h (.store 1)), [.t 13, .t 45], none⟩])
         (.seq
          (.seq
           (.ops [
             ⟨(some 46), (.p .mov), [.t 2], none⟩,
             ⟨(some 47), (.p .mov), [.t 11], none⟩,
             ⟨(some 48), .call, [.c (.fn (.func 96) [] []), .t 46, .t 47], none⟩])
           (.cond (.t 48)
            (.ops [
              ⟨(some 49), (.p (.faddr 3)), [.t 12], none⟩,
              ⟨(some 50), (.h (.load false 1)), [.t 49], none⟩,
              ⟨none, (.h (.store 1)), [.t 13, .t 50], none⟩])
            .skip))
          (.seq
           (.seq
            (.ops [
              ⟨(some 51), (.p (.faddr 0)), [.t 4], none⟩,
              ⟨(some 52), (.h (.load false 1)), [.t 51], none⟩])
            (.block 0 (some [6])
             (.seq
              (.ops [
                ⟨(some 54), (.p (.faddr 1)), [.t 12], none⟩,
                ⟨(some 55), (.h (.load false 1)), [.t 54], none⟩,
                ⟨(some 56), (.p (.bin .eql .int)), [.t 52, .t 55], none⟩,
                ⟨(some 53), (.p .mov), [.t 56], none⟩])
              (.cond (.t 53)
               (.seq
                (.ops [
                  ⟨(some 57), (.p .mov), [.t 8], none⟩,
                  ⟨(some 58), (.p (.mkfn (.func 97) 0)), [.t 13], none⟩,
                  ⟨(some 59), .call, [.c (.fn (.func 58) [] []), .t 57, .t 58], none⟩,
                  ⟨(some 14), (.p .mov), [.t 59], none⟩])
                (.seq
                 (.ops [
                   ⟨(some 60), (.p .mov), [.t 14], none⟩,
                   ⟨(some 61), (.p (.bin .geq .ifc)), [.t 60, .c (.int .i64 0)], none⟩])
                 (.cond (.t 61)
                  (.seq
                   (.ops [
                     ⟨(some 62), (.p .mov), [.t 8], none⟩,
                     ⟨(some 63), (.p .mov), [.t 14], none⟩,
                     ⟨(some 64), (.p (.iaddr 2)), [.t 62, .t 63], none⟩,
                     ⟨(some 65), (.h (.load true 2)), [.t 64], none⟩,
                     ⟨none, (.h (.store 2)), [.t 6, .t 65], none⟩,
                     ⟨(some 7), (.p .mov), [.c (.bool true)], none⟩])
                   (.ret [6, 7]))
                  .skip)))
               (.seq
                (.ops [
                  ⟨(some 67), (.h (.load false 1)), [.t 13], none⟩,
                  ⟨(some 68), (.p (.bin .eql .int)), [.t 52, .t 67], none⟩,
                  ⟨(some 66), (.p .mov), [.t 68], none⟩])
                (.cond (.t 66)
                 (.seq
                  (.ops [
                    ⟨(some 69), (.p .mov), [.t 8], none⟩,
                    ⟨(some 70), (.p (.iaddr 2)), [.t 69, .c (.int .i64 0)], none⟩,
                    ⟨(some 71), (.h (.load true 2)), [.t 70], none⟩,
                    ⟨none, (.h (.store 2)), [.t 6, .t 71], none⟩,
                    ⟨(some 7), (.p .mov), [.c (.bool true)], none⟩])
                  (.ret [6, 7]))
                 .skip))))))
           (.seq
            (.ops [
              ⟨(some 72), (.p (.bld [(.int .i64 0), (.int .i64 0)] [])), [], none⟩,
              ⟨none, (.h (.store 2)), [.t 6, .t 72], none⟩,
              ⟨(some 7), (.p .mov), [.c (.bool false)], none⟩])
            (.ret [6, 7]))))))))))))
def graph_Graph_Next_I : FInfo := ⟨(.fz false), 3, graph_Graph_Next_C, [.cell 6 true 2, .tmp 7]⟩
def graph_Graph_Next_A : Ann := ⟨[13], [], [], [(0, [6])], [4, 6, 12]⟩
abbrev n_graph_Graph_Next : Nat := 52

/-! ### (*balise/graph.Graph).Point -/
def graph_Graph_Point_C : CCode :=
 (.seq
  (.ops [
    ⟨(some 3), (.h .boxh), [.t 1], none⟩,
    ⟨(some 4), (.p .mov), [.c (.int .i64 0)], none⟩])
  (.seq
   (.seq
    (.ops [
      ⟨(some 5), (.p .mov), [.t 0], none⟩,
      ⟨(some 6), (.p (.bin .eql .ptr)), [.t 5, .c .nilp], none⟩])
    (.cond (.t 6)
     (.seq
      (.ops [
        ⟨(some 4), (.p .mov), [.c (.int .i64 (-1))], none⟩])
      (.ret [4]))
     .skip))
   (.seq
    (.ops [
      ⟨(some 7), (.p .mov), [.t 0], none⟩,
      ⟨(some 8), (.p .nchk), [.t 7], none⟩,
      ⟨(some 9), (.p (.faddr 0)), [.t 8], none⟩,
      ⟨(some 10), (.p (.faddr 3)), [.t 9], none⟩,
      ⟨(some 11), (.h (.load false 1)), [.t 10], none⟩,
      ⟨(some 12), (.p (.mkfn (.func 99) 0)), [.t 3], none⟩,
      ⟨(some 13), .call, [.c (.fn (.func 98) [] []), .t 11, .t 12], none⟩,
      ⟨(some 4), (.p .mov), [.t 13], none⟩])
    (.ret [4]))))
def graph_Graph_Point_I : FInfo := ⟨(.fz false), 2, graph_Graph_Point_C, [.tmp 4]⟩
def graph_Graph_Point_A : Ann := ⟨[3], [], [], [], []⟩
abbrev n_graph_Graph_Point : Nat := 53

/-! ### slices.IndexFunc[[]balise/api.End,balise/api.End] -/
def slices_IndexFunc_End_B0 : CCode :=
 (.seq
  (.ops [
    ⟨(some 9), (.p (.bin .lss .ifc)), [.t 8, .t 7], none⟩])
  (.seq
   (.cond (.t 9)
    .skip
    (.exit 0))
   (.seq
    (.block 1 (some [0, 1, 7, 8])
     (.seq
      (.ops [
        ⟨(some 10), (.p .mov), [.t 8], none⟩,
        ⟨(some 5), (.p .mov), [.t 10], none⟩])
      (.seq
       (.ops [
         ⟨(some 11), (.p .mov), [.t 1], none⟩,
         ⟨(some 12), (.p .mov), [.t 0], none⟩,
         ⟨(some 13), (.p .mov), [.t 5], none⟩,
         ⟨(some 14), (.p (.iaddr 2)), [.t 12, .t 13], none⟩,
         ⟨(some 15), (.h (.load true 2)), [.t 14], none⟩,
         ⟨(some 16), .call, [.t 11, .t 15], none⟩])
       (.cond (.t 16)
        (.seq
         (.ops [
           ⟨(some 17), (.p .mov), [.t 5], none⟩,
           ⟨(some 4), (.p .mov), [.t 17], none⟩])
         (.ret [4]))
        .skip))))
    (.ops [
      ⟨(some 18), (.p (.bin .add .ifc)), [.t 8, .c (.int .i64 1)], none⟩,
      ⟨(some 8), (.p .mov), [.t 18], none⟩]))))
def slices_IndexFunc_End_L0 : CCode := .bloop 0 [0, 1, 7, 8] [] slices_IndexFunc_End_B0
def slices_IndexFunc_End_C : CCode :=
 (.seq
  (.ops [
    ⟨(some 4), (.p .mov), [.c (.int .i64 0)], none⟩])
  (.seq
   (.seq
    (.ops [
      ⟨(some 6), (.p .mov), [.t 0], none⟩,
      ⟨(some 7), (.p .len), [.t 6], none⟩,
      ⟨(some 8), (.p .mov), [.c (.int .i64 0)], none⟩])
    slices_IndexFunc_End_L0)
   (.seq
    (.ops [
      ⟨(some 4), (.p .mov), [.c (.int .i64 (-1))], none⟩])
    (.ret [4]))))
def slices_IndexFunc_End_I : FInfo := ⟨(.fz false), 2, slices_IndexFunc_End_C, [.tmp 4]⟩
def slices_IndexFunc_End_A : Ann := ⟨[], [], [(0, [0, 1, 7, 8], [])], [(1, [0, 1, 7, 8])], []⟩
abbrev n_slices_IndexFunc_End : Nat := 58

/-! ### balise/baliseref01.Rise -/
def r01_Rise_B2 : CCode :=
 (.seq
  (.seq
   (.ops [
     ⟨(some 6), (.p .mov), [.t 5], none⟩,
     ⟨(some 7), (.p .mov), [.t 0], none⟩,
     ⟨(some 8), (.p .len), [.t 7], none⟩,
     ⟨(some 9), (.p (.bin .lss .ifc)), [.t 6, .t 8], none⟩])
   (.cond (.t 9)
    .skip
    (.exit 2)))
  (.seq
   (.block 3 (some [0, 3, 4, 5])
    (.seq
     (.ops [
       ⟨(some 12), (.p .mov), [.t 3], none⟩,
       ⟨(some 13), (.p .len), [.t 12], none⟩,
       ⟨(some 14), (.p (.bin .eql .int)), [.t 13, .c (.int .i64 0)], none⟩,
       ⟨(some 15), (.p .mov), [.t 14], none⟩,
       ⟨(some 16), (.p .mov), [.t 0], (some (15, false))⟩,
       ⟨(some 17), (.p .mov), [.t 5], (some (15, false))⟩,
       ⟨(some 18), (.p (.iaddr 1)), [.t 16, .t 17], (some (15, false))⟩,
       ⟨(some 19), (.h (.load false 1)), [.t 18], (some (15, false))⟩,
       ⟨(some 20), (.p .mov), [.t 3], (some (15, false))⟩,
       ⟨(some 21), (.p .mov), [.t 3], (some (15, false))⟩,
       ⟨(some 22), (.p .len), [.t 21], (some (15, false))⟩,
       ⟨(some 23), (.p (.bin .sub .ifc)), [.t 22, .c (.int .i64 1)], (some (15, false))⟩,
       ⟨(some 24), (.p (.iaddr 1)), [.t 20, .t 23], (some (15, false))⟩,
       ⟨(some 25), (.h (.load false 1)), [.t 24], (some (15, false))⟩,
       ⟨(some 26), (.p (.bin .gtr .ifc)), [.t 19, .t 25], (some (15, false))⟩,
       ⟨(some 27), (.p .pick), [.t 15, .c (.bool true), .t 26], none⟩,
       ⟨(some 28), (.p .mov), [.t 27], none⟩,
       ⟨(some 29), (.p .mov), [.t 4], (some (28, true))⟩,
       ⟨(some 30), (.p (.bin .lss .ifc)), [.t 29, .c (.int .i64 0)], (some (28, true))⟩,
       ⟨(some 31), (.p .mov), [.t 30], (some (28, true))⟩,
       ⟨(some 32), (.p .mov), [.t 0], (some (31, false))⟩,
       ⟨(some 33), (.p .mov), [.t 5], (some (31, false))⟩,
       ⟨(some 34), (.p (.iaddr 1)), [.t 32, .t 33], (some (31, false))⟩,
       ⟨(some 35), (.h (.load false 1)), [.t 34], (some (31, false))⟩,
       ⟨(some 36), (.p .mov), [.t 0], (some (31, false))⟩,
       ⟨(some 37), (.p .mov), [.t 4], (some (31, false))⟩,
       ⟨(some 38), (.p (.iaddr 1)), [.t 36, .t 37], (some (31, false))⟩,
       ⟨(some 39), (.h (.load false 1)), [.t 38], (some (31, false))⟩,
       ⟨(some 40), (.p (.bin .lss .ifc)), [.t 35, .t 39], (some (31, false))⟩,
       ⟨(some 41), (.p .pick), [.t 31, .c (.bool true), .t 40], (some (28, true))⟩,
       ⟨(some 42), (.p .pick), [.t 28, .t 41, .c (.bool false)], none⟩])
     (.cond (.t 42)
      (.ops [
        ⟨(some 43), (.p .mov), [.t 5], none⟩,
        ⟨(some 4), (.p .mov), [.t 43], none⟩])
      .skip)))
   (.ops [
     ⟨(some 10), (.p .mov), [.t 5], none⟩,
     ⟨(some 11), (.p (.bin .add .ifc)), [.t 10, .c (.int .i64 1)], none⟩,
     ⟨(some 5), (.p .mov), [.t 11], none⟩])))
def r01_Rise_L2 : CCode := .bloop 2 [0, 3, 4, 5] [0, 3, 4] r01_Rise_B2

def r01_Rise_B0 : CCode :=
 (.block 1 (some [0, 3])
  (.seq
   (.ops [
     ⟨(some 4), (.p .mov), [.c (.int .i64 (-1))], none⟩])
   (.seq
    (.seq
     (.ops [
       ⟨(some 5), (.p .mov), [.c (.int .i64 0)], none⟩])
     r01_Rise_L2)
    (.seq
     (.seq
      (.ops [
        ⟨(some 44), (.p .mov), [.t 4], none⟩,
        ⟨(some 45), (.p (.bin .lss .ifc)), [.t 44, .c (.int .i64 0)], none⟩])
      (.cond (.t 45)
       (.seq
        (.ops [
          ⟨(some 46), (.p .mov), [.t 3], none⟩,
          ⟨(some 2), (.p .mov), [.t 46], none⟩])
        (.ret [2]))
       .skip))
     (.ops [
       ⟨(some 47), (.p .mov), [.t 3], none⟩,
       ⟨(some 48), (.p .mov), [.t 0], none⟩,
       ⟨(some 49), (.p .mov), [.t 4], none⟩,
       ⟨(some 50), (.p (.iaddr 1)), [.t 48, .t 49], none⟩,
       ⟨(some 51), (.h (.load false 1)), [.t 50], none⟩,
       ⟨(some 52), (.h (.bslF 1 1 [(.int .i64 0)] [(0, 1)])), [.t 51], none⟩,
       ⟨(some 53), (.h (.app 1 8 [(.int .i64 0)])), [.t 47, .t 52], none⟩,
       ⟨(some 3), (.p .mov), [.t 53], none⟩])))))
def r01_Rise_L0 : CCode := .bloop 0 [0, 3] [] r01_Rise_B0
def r01_Rise_C : CCode :=
 (.seq
  (.ops [
    ⟨(some 2), (.p .mov), [.c .nils], none⟩])
  (.seq
   (.ops [
     ⟨(some 3), (.p .mov), [.c .nils], none⟩])
   r01_Rise_L0))
def r01_Rise_I : FInfo := ⟨(.fz false), 1, r01_Rise_C, [.tmp 2]⟩
def r01_Rise_A : Ann := ⟨[], [], [(0, [0, 3], []), (2, [0, 3, 4, 5], [0, 3, 4])], [(1, [0, 3]), (3, [0, 3, 4, 5])], []⟩
abbrev n_r01_Rise : Nat := 60

/-! ### slices.Clone[[]int,int] -/
def slices_Clone_int_C : CCode :=
 (.seq
  (.ops [
    ⟨(some 2), (.p .mov), [.c .nils], none⟩])
  (.seq
   (.seq
    (.ops [
      ⟨(some 3), (.p .mov), [.t 0], none⟩,
      ⟨(some 4), (.p (.bin .eql .sl)), [.t 3, .c .nils], none⟩])
    (.cond (.t 4)
     (.seq
      (.ops [
        ⟨(some 2), (.p .mov), [.c .nils], none⟩])
      (.ret [2]))
     .skip))
   (.seq
    (.ops [
      ⟨(some 5), (.h (.bslO 1 0 [(.int .i64 0)] [])), [], none⟩,
      ⟨(some 6), (.p .mov), [.t 0], none⟩,
      ⟨(some 7), (.h (.app 1 8 [(.int .i64 0)])), [.t 5, .t 6], none⟩,
      ⟨(some 2), (.p .mov), [.t 7], none⟩])
    (.ret [2]))))
def slices_Clone_int_I : FInfo := ⟨.own, 1, slices_Clone_int_C, [.tmp 2]⟩
def slices_Clone_int_A : Ann := ⟨[], [5], [], [], []⟩
abbrev n_slices_Clone_int : Nat := 62

/-! ### (*balise/graph.Graph).node -/
def graph_Graph_node_C : CCode :=
 (.seq
  (.ops [
    ⟨(some 3), (.h (.box 3)), [.t 1], none⟩,
    ⟨(some 4), (.p .mov), [.c (.int .i64 0)], none⟩,
    ⟨(some 5), (.p .mov), [.c (.bool false)], none⟩])
  (.seq
   (.ops [
     ⟨(some 9), (.p .mov), [.t 0], none⟩,
     ⟨(some 10), (.p (.faddr 0)), [.t 3], none⟩,
     ⟨(some 11), (.h (.load false 1)), [.t 10], none⟩,
     ⟨(some 12), .call, [.c (.fn (.func 83) [] []), .t 9, .t 11], none⟩,
     ⟨(some 8), (.p .mov), [.t 12], none⟩,
     ⟨(some 13), (.p (.ext 0)), [.t 8], none⟩,
     ⟨(some 14), (.p (.ext 1)), [.t 8], none⟩,
     ⟨(some 6), (.h (.newl 6 [(.int .i64 0), (.int .i64 0), (.int .i64 0)])), [], none⟩,
     ⟨none, (.h (.store 3)), [.t 6, .t 13], none⟩,
     ⟨(some 7), (.p .mov), [.t 14], none⟩])
   (.seq
    (.block 0 (some [])
     (.seq
      (.ops [
        ⟨(some 16), (.p .mov), [.t 7], none⟩,
        ⟨(some 17), (.p .mov), [.t 16], none⟩,
        ⟨(some 18), (.p (.faddr 1)), [.t 3], (some (17, true))⟩,
        ⟨(some 19), (.h (.load false 1)), [.t 18], (some (17, true))⟩,
        ⟨(some 20), (.p (.bin .eql .int)), [.t 19, .c (.int .i64 0)], (some (17, true))⟩,
        ⟨(some 21), (.p .pick), [.t 17, .t 20, .c (.bool false)], none⟩,
        ⟨(some 15), (.p .mov), [.t 21], none⟩])
      (.cond (.t 15)
       (.seq
        (.ops [
          ⟨(some 22), (.p (.faddr 1)), [.t 6], none⟩,
          ⟨(some 23), (.h (.load false 1)), [.t 22], none⟩,
          ⟨(some 4), (.p .mov), [.t 23], none⟩,
          ⟨(some 5), (.p .mov), [.c (.bool true)], none⟩])
        (.ret [4, 5]))
       (.seq
        (.ops [
          ⟨(some 25), (.p .mov), [.t 7], none⟩,
          ⟨(some 26), (.p .mov), [.t 25], none⟩,
          ⟨(some 27), (.p (.faddr 1)), [.t 3], (some (26, true))⟩,
          ⟨(some 28), (.h (.load false 1)), [.t 27], (some (26, true))⟩,
          ⟨(some 29), (.p (.bin .eql .int)), [.t 28, .c (.int .i64 1)], (some (26, true))⟩,
          ⟨(some 30), (.p .pick), [.t 26, .t 29, .c (.bool false)], none⟩,
          ⟨(some 24), (.p .mov), [.t 30], none⟩])
        (.cond (.t 24)
         (.seq
          (.ops [
            ⟨(some 31), (.p (.faddr 2)), [.t 6], none⟩,
            ⟨(some 32), (.h (.load false 1)), [.t 31], none⟩,
            ⟨(some 4), (.p .mov), [.t 32], none⟩,
            ⟨(some 5), (.p .mov), [.c (.bool true)], none⟩])
          (.ret [4, 5]))
         .skip)))))
    (.seq
     (.ops [
       ⟨(some 4), (.p .mov), [.c (.int .i64 0)], none⟩,
       ⟨(some 5), (.p .mov), [.c (.bool false)], none⟩])
     (.ret [4, 5])))))
def graph_Graph_node_I : FInfo := ⟨(.fz false), 2, graph_Graph_node_C, [.tmp 4, .tmp 5]⟩
def graph_Graph_node_A : Ann := ⟨[], [], [], [(0, [])], [3, 6]⟩
abbrev n_graph_Graph_node : Nat := 76

/-! ### slices.DeleteFunc[[]balise/api.End,balise/api.End] -/
def slices_DeleteFunc_End_B0 : CCode :=
 (.seq
  (.seq
   (.ops [
     ⟨(some 16), (.p .mov), [.t 6], none⟩,
     ⟨(some 17), (.p .mov), [.t 0], none⟩,
     ⟨(some 18), (.p .len), [.t 17], none⟩,
     ⟨(some 19), (.p (.bin .lss .ifc)), [.t 16, .t 18], none⟩])
   (.cond (.t 19)
    .skip
    (.exit 0)))
  (.seq
   (.block 1 (some [0, 1, 5, 6])
    (.seq
     (.ops [
       ⟨(some 22), (.p .mov), [.t 0], none⟩,
       ⟨(some 23), (.p .mov), [.t 6], none⟩,
       ⟨(some 24), (.p (.iaddr 2)), [.t 22, .t 23], none⟩,
       ⟨(some 25), (.h (.load true 2)), [.t 24], none⟩,
       ⟨(some 7), (.h (.newl 7 [(.int .i64 0), (.int .i64 0)])), [], none⟩,
       ⟨none, (.h (.store 2)), [.t 7, .t 25], none⟩])
     (.seq
      (.ops [
        ⟨(some 26), (.p .mov), [.t 1], none⟩,
        ⟨(some 27), (.h (.load true 2)), [.t 7], none⟩,
        ⟨(some 28), .call, [.t 26, .t 27], none⟩,
        ⟨(some 29), (.p (.un .not)), [.t 28], none⟩])
      (.cond (.t 29)
       (.seq
        (.ops [
          ⟨(some 30), (.p .mov), [.t 0], none⟩,
          ⟨(some 31), (.p .mov), [.t 5], none⟩,
          ⟨(some 32), (.h (.load true 2)), [.t 7], none⟩,
          ⟨(some 33), (.p (.iaddr 2)), [.t 30, .t 31], none⟩,
          ⟨none, (.h (.store 2)), [.t 33, .t 32], none⟩])
        (.ops [
          ⟨(some 34), (.p .mov), [.t 5], none⟩,
          ⟨(some 35), (.p (.bin .add .ifc)), [.t 34, .c (.int .i64 1)], none⟩,
          ⟨(some 5), (.p .mov), [.t 35], none⟩]))
       .skip))))
   (.ops [
     ⟨(some 20), (.p .mov), [.t 6], none⟩,
     ⟨(some 21), (.p (.bin .add .ifc)), [.t 20, .c (.int .i64 1)], none⟩,
     ⟨(some 6), (.p .mov), [.t 21], none⟩])))
def slices_DeleteFunc_End_L0 : CCode := .bloop 0 [0, 1, 5, 6] [0, 5] slices_DeleteFunc_End_B0
def slices_DeleteFunc_End_C : CCode :=
 (.seq
  (.ops [
    ⟨(some 4), (.p .mov), [.c .nils], none⟩])
  (.seq
   (.ops [
     ⟨(some 8), (.p .mov), [.t 0], none⟩,
     ⟨(some 9), (.p .mov), [.t 1], none⟩,
     ⟨(some 10), .call, [.c (.fn (.func 58) [] []), .t 8, .t 9], none⟩,
     ⟨(some 5), (.p .mov), [.t 10], none⟩])
   (.seq
    (.seq
     (.ops [
       ⟨(some 11), (.p .mov), [.t 5], none⟩,
       ⟨(some 12), (.p (.bin .eql .int)), [.t 11, .c (.int .i64 (-1))], none⟩])
     (.cond (.t 12)
      (.seq
       (.ops [
         ⟨(some 13), (.p .mov), [.t 0], none⟩,
         ⟨(some 4), (.p .mov), [.t 13], none⟩])
       (.ret [4]))
      .skip))
    (.seq
     (.seq
      (.ops [
        ⟨(some 14), (.p .mov), [.t 5], none⟩,
        ⟨(some 15), (.p (.bin .add .ifc)), [.t 14, .c (.int .i64 1)], none⟩,
        ⟨(some 6), (.p .mov), [.t 15], none⟩])
      slices_DeleteFunc_End_L0)
     (.seq
      (.ops [
        ⟨(some 36), (.p .mov), [.t 0], none⟩,
        ⟨(some 37), (.p .mov), [.t 5], none⟩,
        ⟨(some 38), (.p (.slc 2 true false)), [.t 36, .t 37], none⟩,
        ⟨none, (.h (.clear 2 [(.int .i64 0), (.int .i64 0)])), [.t 38], none⟩])
      (.seq
       (.ops [
         ⟨(some 39), (.p .mov), [.t 0], none⟩,
         ⟨(some 40), (.p .mov), [.t 5], none⟩,
         ⟨(some 41), (.p (.slc 2 false true)), [.t 39, .t 40], none⟩,
         ⟨(some 4), (.p .mov), [.t 41], none⟩])
       (.ret [4])))))))
def slices_DeleteFunc_End_I : FInfo := ⟨.ref, 2, slices_DeleteFunc_End_C, [.tmp 4]⟩
def slices_DeleteFunc_End_A : Ann := ⟨[], [], [(0, [0, 1, 5, 6], [0, 5])], [(1, [0, 1, 5, 6])], [7]⟩
abbrev n_slices_DeleteFunc_End : Nat := 77

/-! ### (*balise/graph.Graph).Around$1 -/
def graph_Graph_Around_1_C : CCode :=
 (.seq
  (.ops [
    ⟨(some 2), (.h (.box 2)), [.t 0], none⟩,
    ⟨(some 3), (.p .mov), [.c (.bool false)], none⟩])
  (.seq
   (.ops [
     ⟨(some 4), (.h (.load true 2)), [.t 2], none⟩,
     ⟨(some 5), (.h (.load true 2)), [.t 1], none⟩,
     ⟨(some 6), (.p (.bin .eql (.parts [(0, false, 1, .int), (1, false, 1, .int)]))), [.t 4, .t 5], none⟩,
     ⟨(some 3), (.p .mov), [.t 6], none⟩])
   (.ret [3])))
def graph_Graph_Around_1_I : FInfo := ⟨(.fz false), 2, graph_Graph_Around_1_C, [.tmp 3]⟩
def graph_Graph_Around_1_A : Ann := ⟨[], [], [], [], [2]⟩
abbrev n_graph_Graph_Around_1 : Nat := 78

/-! ### (*balise/graph.Graph).at -/
def graph_Graph_at_B0 : CCode :=
 (.seq
  (.ops [
    ⟨(some 14), (.p (.bin .lss .ifc)), [.t 13, .t 12], none⟩])
  (.seq
   (.cond (.t 14)
    .skip
    (.exit 0))
   (.seq
    (.block 1 (some [1, 11, 12, 13])
     (.seq
      (.ops [
        ⟨(some 15), (.p (.iaddr 2)), [.t 11, .t 13], none⟩,
        ⟨(some 16), (.h (.load true 2)), [.t 15], none⟩,
        ⟨(some 8), (.h (.newl 8 [(.int .i64 0), (.int .i64 0)])), [], none⟩,
        ⟨none, (.h (.store 2)), [.t 8, .t 16], none⟩])
      (.seq
       (.ops [
         ⟨(some 17), (.p (.faddr 0)), [.t 8], none⟩,
         ⟨(some 18), (.h (.load false 1)), [.t 17], none⟩,
         ⟨(some 19), (.p .mov), [.t 1], none⟩,
         ⟨(some 20), (.p (.bin .eql .int)), [.t 18, .t 19], none⟩])
       (.cond (.t 20)
        (.seq
         (.ops [
           ⟨(some 21), (.h (.load true 2)), [.t 8], none⟩,
           ⟨(some 22), (.h (.bslF 2 1 [(.int .i64 0), (.int .i64 0)] [(0, 2)])), [.t 21], none⟩,
           ⟨(some 6), (.p .mov), [.t 22], none⟩])
         (.ret [6]))
        .skip))))
    (.ops [
      ⟨(some 23), (.p (.bin .add .ifc)), [.t 13, .c (.int .i64 1)], none⟩,
      ⟨(some 13), (.p .mov), [.t 23], none⟩]))))
def graph_Graph_at_L0 : CCode := .bloop 0 [1, 11, 12, 13] [] graph_Graph_at_B0
def graph_Graph_at_C : CCode :=
 (.seq
  (.ops [
    ⟨(some 6), (.p .mov), [.c .nils], none⟩])
  (.seq
   (.seq
    (.ops [
      ⟨(some 9), (.p .mov), [.t 0], none⟩,
      ⟨(some 10), (.p .mov), [.t 2], none⟩,
      ⟨(some 11), .call, [.c (.fn (.func 44) [] []), .t 9, .t 10], none⟩,
      ⟨(some 12), (.p .len), [.t 11], none⟩,
      ⟨(some 13), (.p .mov), [.c (.int .i64 0)], none⟩])
    graph_Graph_at_L0)
   (.seq
    (.ops [
      ⟨(some 6), (.p .mov), [.c .nils], none⟩])
    (.ret [6]))))
def graph_Graph_at_I : FInfo := ⟨(.fz false), 3, graph_Graph_at_C, [.tmp 6]⟩
def graph_Graph_at_A : Ann := ⟨[], [], [(0, [1, 11, 12, 13], [])], [(1, [1, 11, 12, 13])], [8]⟩
abbrev n_graph_Graph_at : Nat := 80

/-! ### slices.Sort[[]int,int] -/
def slices_Sort_int_C : CCode :=
 (.seq
  (.ops [
    ⟨(some 3), (.p .mov), [.t 0], none⟩,
    ⟨(some 4), (.p .len), [.t 3], none⟩,
    ⟨(some 2), (.p .mov), [.t 4], none⟩])
  (.ops [
    ⟨(some 5), (.p .mov), [.t 0], none⟩,
    ⟨(some 6), (.p .mov), [.t 2], none⟩,
    ⟨(some 7), (.p .mov), [.t 2], none⟩,
    ⟨(some 8), (.p (.toInt .u64)), [.t 7], none⟩,
    ⟨(some 9), .call, [.c (.fn (.func 108) [] []), .t 8], none⟩,
    ⟨(some 10), .call, [.c (.fn (.func 107) [] []), .t 5, .c (.int .i64 0), .t 6, .t 9], none⟩]))
def slices_Sort_int_I : FInfo := ⟨.ref, 1, slices_Sort_int_C, []⟩
def slices_Sort_int_A : Ann := ⟨[], [], [], [], []⟩
abbrev n_slices_Sort_int : Nat := 81

/-! ### slices.Compact[[]int,int] -/
def slices_Compact_int_B2 : CCode :=
 (.seq
  (.seq
   (.ops [
     ⟨(some 29), (.p .mov), [.t 5], none⟩,
     ⟨(some 30), (.p .mov), [.t 4], none⟩,
     ⟨(some 31), (.p .len), [.t 30], none⟩,
     ⟨(some 32), (.p (.bin .lss .ifc)), [.t 29, .t 31], none⟩])
   (.cond (.t 32)
    .skip
    (.exit 2)))
  (.seq
   (.block 3 (some [0, 3, 4, 5])
    (.seq
     (.ops [
       ⟨(some 35), (.p .mov), [.t 4], none⟩,
       ⟨(some 36), (.p .mov), [.t 5], none⟩,
       ⟨(some 37), (.p (.iaddr 1)), [.t 35, .t 36], none⟩,
       ⟨(some 38), (.h (.load false 1)), [.t 37], none⟩,
       ⟨(some 39), (.p .mov), [.t 4], none⟩,
       ⟨(some 40), (.p .mov), [.t 5], none⟩,
       ⟨(some 41), (.p (.bin .sub .ifc)), [.t 40, .c (.int .i64 1)], none⟩,
       ⟨(some 42), (.p (.iaddr 1)), [.t 39, .t 41], none⟩,
       ⟨(some 43), (.h (.load false 1)), [.t 42], none⟩,
       ⟨(some 44), (.p (.bin .neq .int)), [.t 38, .t 43], none⟩])
     (.cond (.t 44)
      (.seq
       (.ops [
         ⟨(some 45), (.p .mov), [.t 0], none⟩,
         ⟨(some 46), (.p .mov), [.t 3], none⟩,
         ⟨(some 47), (.p .mov), [.t 4], none⟩,
         ⟨(some 48), (.p .mov), [.t 5], none⟩,
         ⟨(some 49), (.p (.iaddr 1)), [.t 47, .t 48], none⟩,
         ⟨(some 50), (.h (.load false 1)), [.t 49], none⟩,
         ⟨(some 51), (.p (.iaddr 1)), [.t 45, .t 46], none⟩,
         ⟨none, (.h (.store 1)), [.t 51, .t 50], none⟩])
       (.ops [
         ⟨(some 52), (.p .mov), [.t 3], none⟩,
         ⟨(some 53), (.p (.bin .add .ifc)), [.t 52, .c (.int .i64 1)], none⟩,
         ⟨(some 3), (.p .mov), [.t 53], none⟩]))
      .skip)))
   (.ops [
     ⟨(some 33), (.p .mov), [.t 5], none⟩,
     ⟨(some 34), (.p (.bin .add .ifc)), [.t 33, .c (.int .i64 1)], none⟩,
     ⟨(some 5), (.p .mov), [.t 34], none⟩])))
def slices_Compact_int_L2 : CCode := .bloop 2 [0, 3, 4, 5] [0, 3] slices_Compact_int_B2

def slices_Compact_int_B0 : CCode :=
 (.seq
  (.seq
   (.ops [
     ⟨(some 10), (.p .mov), [.t 3], none⟩,
     ⟨(some 11), (.p .mov), [.t 0], none⟩,
     ⟨(some 12), (.p .len), [.t 11], none⟩,
     ⟨(some 13), (.p (.bin .lss .ifc)), [.t 10, .t 12], none⟩])
   (.cond (.t 13)
    .skip
    (.exit 0)))
  (.seq
   (.block 1 (some [0, 3])
    (.seq
     (.ops [
       ⟨(some 16), (.p .mov), [.t 0], none⟩,
       ⟨(some 17), (.p .mov), [.t 3], none⟩,
       ⟨(some 18), (.p (.iaddr 1)), [.t 16, .t 17], none⟩,
       ⟨(some 19), (.h (.load false 1)), [.t 18], none⟩,
       ⟨(some 20), (.p .mov), [.t 0], none⟩,
       ⟨(some 21), (.p .mov), [.t 3], none⟩,
       ⟨(some 22), (.p (.bin .sub .ifc)), [.t 21, .c (.int .i64 1)], none⟩,
       ⟨(some 23), (.p (.iaddr 1)), [.t 20, .t 22], none⟩,
       ⟨(some 24), (.h (.load false 1)), [.t 23], none⟩,
       ⟨(some 25), (.p (.bin .eql .int)), [.t 19, .t 24], none⟩])
     (.cond (.t 25)
      (.seq
       (.ops [
         ⟨(some 26), (.p .mov), [.t 0], none⟩,
         ⟨(some 27), (.p .mov), [.t 3], none⟩,
         ⟨(some 28), (.p (.slc 1 true false)), [.t 26, .t 27], none⟩,
         ⟨(some 4), (.p .mov), [.t 28], none⟩])
       (.seq
        (.seq
         (.ops [
           ⟨(some 5), (.p .mov), [.c (.int .i64 1)], none⟩])
         slices_Compact_int_L2)
        (.seq
         (.ops [
           ⟨(some 54), (.p .mov), [.t 0], none⟩,
           ⟨(some 55), (.p .mov), [.t 3], none⟩,
           ⟨(some 56), (.p (.slc 1 true false)), [.t 54, .t 55], none⟩,
           ⟨none, (.h (.clear 1 [(.int .i64 0)])), [.t 56], none⟩])
         (.seq
          (.ops [
            ⟨(some 57), (.p .mov), [.t 0], none⟩,
            ⟨(some 58), (.p .mov), [.t 3], none⟩,
            ⟨(some 59), (.p (.slc 1 false true)), [.t 57, .t 58], none⟩,
            ⟨(some 2), (.p .mov), [.t 59], none⟩])
          (.ret [2])))))
      .skip)))
   (.ops [
     ⟨(some 14), (.p .mov), [.t 3], none⟩,
     ⟨(some 15), (.p (.bin .add .ifc)), [.t 14, .c (.int .i64 1)], none⟩,
     ⟨(some 3), (.p .mov), [.t 15], none⟩])))
def slices_Compact_int_L0 : CCode := .bloop 0 [0, 3] [0] slices_Compact_int_B0
def slices_Compact_int_C : CCode :=
 (.seq
  (.ops [
    ⟨(some 2), (.p .mov), [.c .nils], none⟩])
  (.seq
   (.seq
    (.ops [
      ⟨(some 6), (.p .mov), [.t 0], none⟩,
      ⟨(some 7), (.p .len), [.t 6], none⟩,
      ⟨(some 8), (.p (.bin .lss .ifc)), [.t 7, .c (.int .i64 2)], none⟩])
    (.cond (.t 8)
     (.seq
      (.ops [
        ⟨(some 9), (.p .mov), [.t 0], none⟩,
        ⟨(some 2), (.p .mov), [.t 9], none⟩])
      (.ret [2]))
     .skip))
   (.seq
    (.seq
     (.ops [
       ⟨(some 3), (.p .mov), [.c (.int .i64 1)], none⟩])
     slices_Compact_int_L0)
    (.seq
     (.ops [
       ⟨(some 60), (.p .mov), [.t 0], none⟩,
       ⟨(some 2), (.p .mov), [.t 60], none⟩])
     (.ret [2])))))
def slices_Compact_int_I : FInfo := ⟨.ref, 1, slices_Compact_int_C, [.tmp 2]⟩
def slices_Compact_int_A : Ann := ⟨[], [], [(0, [0, 3], [0]), (2, [0, 3, 4, 5], [0, 3])], [(1, [0, 3]), (3, [0, 3, 4, 5])], []⟩
abbrev n_slices_Compact_int : Nat := 82

/-! ### (*balise/graph.Graph).section -/
def graph_Graph_section_C : CCode :=
 (.seq
  (.ops [
    ⟨(some 4), (.h (.newl 4 [(.int .i64 0), (.int .i64 0), (.int .i64 0)])), [], none⟩,
    ⟨(some 5), (.p .mov), [.c (.bool false)], none⟩])
  (.seq
   (.seq
    (.ops [
      ⟨(some 6), (.p .mov), [.t 0], none⟩,
      ⟨(some 7), (.p (.bin .eql .ptr)), [.t 6, .c .nilp], none⟩,
      ⟨(some 8), (.p .mov), [.t 7], none⟩,
      ⟨(some 9), (.p .mov), [.t 1], (some (8, false))⟩,
      ⟨(some 10), (.p (.bin .lss .ifc)), [.t 9, .c (.int .i64 0)], (some (8, false))⟩,
      ⟨(some 11), (.p .pick), [.t 8, .c (.bool true), .t 10], none⟩,
      ⟨(some 12), (.p .mov), [.t 11], none⟩,
      ⟨(some 13), (.p .mov), [.t 1], (some (12, false))⟩,
      ⟨(some 14), (.p .mov), [.t 0], (some (12, false))⟩,
      ⟨(some 15), (.p .nchk), [.t 14], (some (12, false))⟩,
      ⟨(some 16), (.p (.faddr 0)), [.t 15], (some (12, false))⟩,
      ⟨(some 17), (.p (.faddr 1)), [.t 16], (some (12, false))⟩,
      ⟨(some 18), (.h (.load false 1)), [.t 17], (some (12, false))⟩,
      ⟨(some 19), (.p .len), [.t 18], (some (12, false))⟩,
      ⟨(some 20), (.p (.bin .geq .ifc)), [.t 13, .t 19], (some (12, false))⟩,
      ⟨(some 21), (.p .pick), [.t 12, .c (.bool true), .t 20], none⟩])
    (.cond (.t 21)
     (.seq
      (.ops [
        ⟨(some 22), (.p (.bld [(.int .i64 0), (.int .i64 0), (.int .i64 0)] [])), [], none⟩,
        ⟨none, (.h (.store 3)), [.t 4, .t 22], none⟩,
        ⟨(some 5), (.p .mov), [.c (.bool false)], none⟩])
      (.ret [4, 5]))
     .skip))
   (.seq
    (.ops [
      ⟨(some 23), (.p .mov), [.t 0], none⟩,
      ⟨(some 24), (.p .nchk), [.t 23], none⟩,
      ⟨(some 25), (.p (.faddr 0)), [.t 24], none⟩,
      ⟨(some 26), (.p (.faddr 1)), [.t 25], none⟩,
      ⟨(some 27), (.h (.load false 1)), [.t 26], none⟩,
      ⟨(some 28), (.p .mov), [.t 1], none⟩,
      ⟨(some 29), (.p (.iaddr 3)), [.t 27, .t 28], none⟩,
      ⟨(some 30), (.h (.load true 3)), [.t 29], none⟩,
      ⟨none, (.h (.store 3)), [.t 4, .t 30], none⟩,
      ⟨(some 5), (.p .mov), [.c (.bool true)], none⟩])
    (.ret [4, 5]))))
def graph_Graph_section_I : FInfo := ⟨(.fz false), 2, graph_Graph_section_C, [.cell 4 true 3, .tmp 5]⟩
def graph_Graph_section_A : Ann := ⟨[], [], [], [], [4]⟩
abbrev n_graph_Graph_section : Nat := 83

/-! ### slices.IndexFunc[[][]int,[]int] -/
def slices_IndexFunc_int_B0 : CCode :=
 (.seq
  (.ops [
    ⟨(some 9), (.p (.bin .lss .ifc)), [.t 8, .t 7], none⟩])
  (.seq
   (.cond (.t 9)
    .skip
    (.exit 0))
   (.seq
    (.block 1 (some [0, 1, 7, 8])
     (.seq
      (.ops [
        ⟨(some 10), (.p .mov), [.t 8], none⟩,
        ⟨(some 5), (.p .mov), [.t 10], none⟩])
      (.seq
       (.ops [
         ⟨(some 11), (.p .mov), [.t 1], none⟩,
         ⟨(some 12), (.p .mov), [.t 0], none⟩,
         ⟨(some 13), (.p .mov), [.t 5], none⟩,
         ⟨(some 14), (.p (.iaddr 1)), [.t 12, .t 13], none⟩,
         ⟨(some 15), (.h (.load false 1)), [.t 14], none⟩,
         ⟨(some 16), .call, [.t 11, .t 15], none⟩])
       (.cond (.t 16)
        (.seq
         (.ops [
           ⟨(some 17), (.p .mov), [.t 5], none⟩,
           ⟨(some 4), (.p .mov), [.t 17], none⟩])
         (.ret [4]))
        .skip))))
    (.ops [
      ⟨(some 18), (.p (.bin .add .ifc)), [.t 8, .c (.int .i64 1)], none⟩,
      ⟨(some 8), (.p .mov), [.t 18], none⟩]))))
def slices_IndexFunc_int_L0 : CCode := .bloop 0 [0, 1, 7, 8] [] slices_IndexFunc_int_B0
def slices_IndexFunc_int_C : CCode :=
 (.seq
  (.ops [
    ⟨(some 4), (.p .mov), [.c (.int .i64 0)], none⟩])
  (.seq
   (.seq
    (.ops [
      ⟨(some 6), (.p .mov), [.t 0], none⟩,
      ⟨(some 7), (.p .len), [.t 6], none⟩,
      ⟨(some 8), (.p .mov), [.c (.int .i64 0)], none⟩])
    slices_IndexFunc_int_L0)
   (.seq
    (.ops [
      ⟨(some 4), (.p .mov), [.c (.int .i64 (-1))], none⟩])
    (.ret [4]))))
def slices_IndexFunc_int_I : FInfo := ⟨(.fz false), 2, slices_IndexFunc_int_C, [.tmp 4]⟩
def slices_IndexFunc_int_A : Ann := ⟨[], [], [(0, [0, 1, 7, 8], [])], [(1, [0, 1, 7, 8])], []⟩
abbrev n_slices_IndexFunc_int : Nat := 84

/-! ### (*balise/graph.Graph).Part$1 -/
def graph_Graph_Part_1_C : CCode :=
 (.seq
  (.ops [
    ⟨(some 3), (.p .mov), [.c (.bool false)], none⟩])
  (.seq
   (.ops [
     ⟨(some 4), (.p .mov), [.t 0], none⟩,
     ⟨(some 5), (.h (.load false 1)), [.t 1], none⟩,
     ⟨(some 6), .call, [.c (.fn (.func 86) [] []), .t 4, .t 5], none⟩,
     ⟨(some 3), (.p .mov), [.t 6], none⟩])
   (.ret [3])))
def graph_Graph_Part_1_I : FInfo := ⟨(.fz false), 2, graph_Graph_Part_1_C, [.tmp 3]⟩
def graph_Graph_Part_1_A : Ann := ⟨[], [], [], [], []⟩
abbrev n_graph_Graph_Part_1 : Nat := 85

/-! ### slices.Contains[[]int,int] -/
def slices_Contains_int_C : CCode :=
 (.seq
  (.ops [
    ⟨(some 4), (.p .mov), [.c (.bool false)], none⟩])
  (.seq
   (.ops [
     ⟨(some 5), (.p .mov), [.t 0], none⟩,
     ⟨(some 6), (.p .mov), [.t 1], none⟩,
     ⟨(some 7), .call, [.c (.fn (.func 100) [] []), .t 5, .t 6], none⟩,
     ⟨(some 8), (.p (.bin .geq .ifc)), [.t 7, .c (.int .i64 0)], none⟩,
     ⟨(some 4), (.p .mov), [.t 8], none⟩])
   (.ret [4])))
def slices_Contains_int_I : FInfo := ⟨(.fz false), 2, slices_Contains_int_C, [.tmp 4]⟩
def slices_Contains_int_A : Ann := ⟨[], [], [], [], []⟩
abbrev n_slices_Contains_int : Nat := 86

/-! ### (*balise/graph.Graph).way -/
def graph_Graph_way_B0 : CCode :=
 (.seq
  (.ops [
    ⟨(some 16), (.p (.bin .lss .ifc)), [.t 15, .t 14], none⟩])
  (.seq
   (.cond (.t 16)
    .skip
    (.exit 0))
   (.seq
    (.block 1 (some [0, 4, 8, 13, 14, 15])
     (.seq
      (.ops [
        ⟨(some 17), (.p (.iaddr 1)), [.t 13, .t 15], none⟩,
        ⟨(some 18), (.h (.load false 1)), [.t 17], none⟩,
        ⟨(some 10), (.h (.newh [(.int .i64 0)])), [], none⟩,
        ⟨none, (.h (.store 1)), [.t 10, .t 18], none⟩])
      (.seq
       (.ops [
         ⟨(some 19), (.p .mov), [.t 0], none⟩,
         ⟨(some 20), (.h (.load true 2)), [.t 4], none⟩,
         ⟨(some 21), .call, [.c (.fn (.func 41) [] []), .t 19, .t 20], none⟩,
         ⟨(some 11), (.p .mov), [.t 21], none⟩])
       (.seq
        (.ops [
          ⟨(some 22), (.p .mov), [.t 11], none⟩,
          ⟨(some 23), (.p (.mkfn (.func 109) 0)), [.t 10], none⟩,
          ⟨(some 24), .call, [.c (.fn (.func 58) [] []), .t 22, .t 23], none⟩,
          ⟨(some 12), (.p .mov), [.t 24], none⟩])
        (.seq
         (.seq
          (.ops [
            ⟨(some 25), (.p .mov), [.t 12], none⟩,
            ⟨(some 26), (.p (.bin .lss .ifc)), [.t 25, .c (.int .i64 0)], none⟩])
          (.cond (.t 26)
           (.seq
            (.ops [
              ⟨(some 6), (.p .mov), [.c .nils], none⟩,
              ⟨(some 7), (.p .mov), [.c (.bool false)], none⟩])
            (.ret [6, 7]))
           .skip))
         (.seq
          (.ops [
            ⟨(some 27), (.p .mov), [.t 8], none⟩,
            ⟨(some 28), (.p .mov), [.t 0], none⟩,
            ⟨(some 29), (.h (.load true 2)), [.t 4], none⟩,
            ⟨(some 30), (.p .mov), [.t 11], none⟩,
            ⟨(some 31), (.p .mov), [.t 12], none⟩,
            ⟨(some 32), (.p (.iaddr 2)), [.t 30, .t 31], none⟩,
            ⟨(some 33), (.h (.load true 2)), [.t 32], none⟩,
            ⟨(some 34), .call, [.c (.fn (.func 110) [] []), .t 28, .t 29, .t 33], none⟩,
            ⟨(some 35), (.h (.app 2 16 [(.int .i64 0), (.bool false)])), [.t 27, .t 34], none⟩,
            ⟨(some 8), (.p .mov), [.t 35], none⟩])
          (.ops [
            ⟨(some 36), (.h (.load false 1)), [.t 10], none⟩,
            ⟨(some 37), (.p .mov), [.t 11], none⟩,
            ⟨(some 38), (.p .mov), [.t 12], none⟩,
            ⟨(some 39), (.p (.iaddr 2)), [.t 37, .t 38], none⟩,
            ⟨(some 40), (.p (.faddr 1)), [.t 39], none⟩,
            ⟨(some 41), (.h (.load false 1)), [.t 40], none⟩,
            ⟨(some 42), (.p (.bin .sub .ifc)), [.c (.int .i64 1), .t 41], none⟩,
            ⟨(some 43), (.p (.bld [(.int .i64 0), (.int .i64 0)] [(0, 1), (1, 1)])), [.t 36, .t 42], none⟩,
            ⟨none, (.h (.store 2)), [.t 4, .t 43], none⟩])))))))
    (.ops [
      ⟨(some 44), (.p (.bin .add .ifc)), [.t 15, .c (.int .i64 1)], none⟩,
      ⟨(some 15), (.p .mov), [.t 44], none⟩]))))
def graph_Graph_way_L0 : CCode := .bloop 0 [0, 4, 8, 13, 14, 15] [8] graph_Graph_way_B0
def graph_Graph_way_C : CCode :=
 (.seq
  (.ops [
    ⟨(some 4), (.h (.box 4)), [.t 1], none⟩,
    ⟨(some 6), (.p .mov), [.c .nils], none⟩,
    ⟨(some 7), (.p .mov), [.c (.bool false)], none⟩])
  (.seq
   (.ops [
     ⟨(some 8), (.p .mov), [.c .nils], none⟩])
   (.seq
    (.seq
     (.ops [
       ⟨(some 13), (.p .mov), [.t 2], none⟩,
       ⟨(some 14), (.p .len), [.t 13], none⟩,
       ⟨(some 15), (.p .mov), [.c (.int .i64 0)], none⟩])
     graph_Graph_way_L0)
    (.seq
     (.ops [
       ⟨(some 45), (.p .mov), [.t 8], none⟩,
       ⟨(some 6), (.p .mov), [.t 45], none⟩,
       ⟨(some 7), (.p .mov), [.c (.bool true)], none⟩])
     (.ret [6, 7])))))
def graph_Graph_way_I : FInfo := ⟨(.fz false), 3, graph_Graph_way_C, [.tmp 6, .tmp 7]⟩
def graph_Graph_way_A : Ann := ⟨[10], [], [(0, [0, 4, 8, 13, 14, 15], [8])], [(1, [0, 4, 8, 13, 14, 15])], [4]⟩
abbrev n_graph_Graph_way : Nat := 87

/-! ### balise/graph.stands -/
def graph_stands_C : CCode :=
 (.seq
  (.ops [
    ⟨(some 4), (.p .mov), [.c (.bool false)], none⟩])
  (.seq
   (.ops [
     ⟨(some 5), (.p .mov), [.t 1], none⟩,
     ⟨(some 6), (.p .mov), [.t 0], none⟩,
     ⟨(some 7), (.p .len), [.t 6], none⟩,
     ⟨(some 8), (.p (.bin .lss .ifc)), [.t 5, .t 7], none⟩,
     ⟨(some 9), (.p .mov), [.t 8], none⟩,
     ⟨(some 10), (.p .mov), [.t 0], (some (9, true))⟩,
     ⟨(some 11), (.p .mov), [.t 1], (some (9, true))⟩,
     ⟨(some 12), (.p (.iaddr 1)), [.t 10, .t 11], (some (9, true))⟩,
     ⟨(some 13), (.h (.load false 1)), [.t 12], (some (9, true))⟩,
     ⟨(some 14), (.p .pick), [.t 9, .t 13, .c (.bool false)], none⟩,
     ⟨(some 4), (.p .mov), [.t 14], none⟩])
   (.ret [4])))
def graph_stands_I : FInfo := ⟨(.fz false), 2, graph_stands_C, [.tmp 4]⟩
def graph_stands_A : Ann := ⟨[], [], [], [], []⟩
abbrev n_graph_stands : Nat := 96

/-! ### (*balise/graph.Graph).Next$1 -/
def graph_Graph_Next_1_C : CCode :=
 (.seq
  (.ops [
    ⟨(some 2), (.h (.box 2)), [.t 0], none⟩,
    ⟨(some 3), (.p .mov), [.c (.bool false)], none⟩])
  (.seq
   (.ops [
     ⟨(some 4), (.p (.faddr 0)), [.t 2], none⟩,
     ⟨(some 5), (.h (.load false 1)), [.t 4], none⟩,
     ⟨(some 6), (.h (.load false 1)), [.t 1], none⟩,
     ⟨(some 7), (.p (.bin .eql .int)), [.t 5, .t 6], none⟩,
     ⟨(some 3), (.p .mov), [.t 7], none⟩])
   (.ret [3])))
def graph_Graph_Next_1_I : FInfo := ⟨(.fz false), 2, graph_Graph_Next_1_C, [.tmp 3]⟩
def graph_Graph_Next_1_A : Ann := ⟨[], [], [], [], [2]⟩
abbrev n_graph_Graph_Next_1 : Nat := 97

/-! ### slices.IndexFunc[[]balise/api.Point,balise/api.Point] -/
def slices_IndexFunc_Point_B0 : CCode :=
 (.seq
  (.ops [
    ⟨(some 9), (.p (.bin .lss .ifc)), [.t 8, .t 7], none⟩])
  (.seq
   (.cond (.t 9)
    .skip
    (.exit 0))
   (.seq
    (.block 1 (some [0, 1, 7, 8])
     (.seq
      (.ops [
        ⟨(some 10), (.p .mov), [.t 8], none⟩,
        ⟨(some 5), (.p .mov), [.t 10], none⟩])
      (.seq
       (.ops [
         ⟨(some 11), (.p .mov), [.t 1], none⟩,
         ⟨(some 12), (.p .mov), [.t 0], none⟩,
         ⟨(some 13), (.p .mov), [.t 5], none⟩,
         ⟨(some 14), (.p (.iaddr 4)), [.t 12, .t 13], none⟩,
         ⟨(some 15), (.h (.load true 4)), [.t 14], none⟩,
         ⟨(some 16), .call, [.t 11, .t 15], none⟩])
       (.cond (.t 16)
        (.seq
         (.ops [
           ⟨(some 17), (.p .mov), [.t 5], none⟩,
           ⟨(some 4), (.p .mov), [.t 17], none⟩])
         (.ret [4]))
        .skip))))
    (.ops [
      ⟨(some 18), (.p (.bin .add .ifc)), [.t 8, .c (.int .i64 1)], none⟩,
      ⟨(some 8), (.p .mov), [.t 18], none⟩]))))
def slices_IndexFunc_Point_L0 : CCode := .bloop 0 [0, 1, 7, 8] [] slices_IndexFunc_Point_B0
def slices_IndexFunc_Point_C : CCode :=
 (.seq
  (.ops [
    ⟨(some 4), (.p .mov), [.c (.int .i64 0)], none⟩])
  (.seq
   (.seq
    (.ops [
      ⟨(some 6), (.p .mov), [.t 0], none⟩,
      ⟨(some 7), (.p .len), [.t 6], none⟩,
      ⟨(some 8), (.p .mov), [.c (.int .i64 0)], none⟩])
    slices_IndexFunc_Point_L0)
   (.seq
    (.ops [
      ⟨(some 4), (.p .mov), [.c (.int .i64 (-1))], none⟩])
    (.ret [4]))))
def slices_IndexFunc_Point_I : FInfo := ⟨(.fz false), 2, slices_IndexFunc_Point_C, [.tmp 4]⟩
def slices_IndexFunc_Point_A : Ann := ⟨[], [], [(0, [0, 1, 7, 8], [])], [(1, [0, 1, 7, 8])], []⟩
abbrev n_slices_IndexFunc_Point : Nat := 98

/-! ### (*balise/graph.Graph).Point$1 -/
def graph_Graph_Point_1_C : CCode :=
 (.seq
  (.ops [
    ⟨(some 2), (.h (.box 2)), [.t 0], none⟩,
    ⟨(some 3), (.p .mov), [.c (.bool false)], none⟩])
  (.seq
   (.ops [
     ⟨(some 4), (.p (.faddr 0)), [.t 2], none⟩,
     ⟨(some 5), (.h (.load false 1)), [.t 4], none⟩,
     ⟨(some 6), (.h (.load false 1)), [.t 1], none⟩,
     ⟨(some 7), (.p (.bin .eql .int)), [.t 5, .t 6], none⟩,
     ⟨(some 3), (.p .mov), [.t 7], none⟩])
   (.ret [3])))
def graph_Graph_Point_1_I : FInfo := ⟨(.fz false), 2, graph_Graph_Point_1_C, [.tmp 3]⟩
def graph_Graph_Point_1_A : Ann := ⟨[], [], [], [], [2]⟩
abbrev n_graph_Graph_Point_1 : Nat := 99

/-! ### slices.Index[[]int,int] -/
def slices_Index_int_B0 : CCode :=
 (.seq
  (.ops [
    ⟨(some 9), (.p (.bin .lss .ifc)), [.t 8, .t 7], none⟩])
  (.seq
   (.cond (.t 9)
    .skip
    (.exit 0))
   (.seq
    (.block 1 (some [0, 1, 7, 8])
     (.seq
      (.ops [
        ⟨(some 10), (.p .mov), [.t 8], none⟩,
        ⟨(some 5), (.p .mov), [.t 10], none⟩])
      (.seq
       (.ops [
         ⟨(some 11), (.p .mov), [.t 1], none⟩,
         ⟨(some 12), (.p .mov), [.t 0], none⟩,
         ⟨(some 13), (.p .mov), [.t 5], none⟩,
         ⟨(some 14), (.p (.iaddr 1)), [.t 12, .t 13], none⟩,
         ⟨(some 15), (.h (.load false 1)), [.t 14], none⟩,
         ⟨(some 16), (.p (.bin .eql .int)), [.t 11, .t 15], none⟩])
       (.cond (.t 16)
        (.seq
         (.ops [
           ⟨(some 17), (.p .mov), [.t 5], none⟩,
           ⟨(some 4), (.p .mov), [.t 17], none⟩])
         (.ret [4]))
        .skip))))
    (.ops [
      ⟨(some 18), (.p (.bin .add .ifc)), [.t 8, .c (.int .i64 1)], none⟩,
      ⟨(some 8), (.p .mov), [.t 18], none⟩]))))
def slices_Index_int_L0 : CCode := .bloop 0 [0, 1, 7, 8] [] slices_Index_int_B0
def slices_Index_int_C : CCode :=
 (.seq
  (.ops [
    ⟨(some 4), (.p .mov), [.c (.int .i64 0)], none⟩])
  (.seq
   (.seq
    (.ops [
      ⟨(some 6), (.p .mov), [.t 0], none⟩,
      ⟨(some 7), (.p .len), [.t 6], none⟩,
      ⟨(some 8), (.p .mov), [.c (.int .i64 0)], none⟩])
    slices_Index_int_L0)
   (.seq
    (.ops [
      ⟨(some 4), (.p .mov), [.c (.int .i64 (-1))], none⟩])
    (.ret [4]))))
def slices_Index_int_I : FInfo := ⟨(.fz false), 2, slices_Index_int_C, [.tmp 4]⟩
def slices_Index_int_A : Ann := ⟨[], [], [(0, [0, 1, 7, 8], [])], [(1, [0, 1, 7, 8])], []⟩
abbrev n_slices_Index_int : Nat := 100

/-! ### slices.pdqsortOrdered[int] -/
def slices_pdqsortOrdered_int_B0 : CCode :=
 (.block 1 (some [0, 1, 2, 3, 8, 9])
  (.seq
   (.ops [
     ⟨(some 19), (.p .mov), [.t 2], none⟩,
     ⟨(some 20), (.p .mov), [.t 1], none⟩,
     ⟨(some 21), (.p (.bin .sub .ifc)), [.t 19, .t 20], none⟩,
     ⟨(some 10), (.p .mov), [.t 21], none⟩])
   (.seq
    (.seq
     (.ops [
       ⟨(some 22), (.p .mov), [.t 10], none⟩,
       ⟨(some 23), (.p (.bin .leq .ifc)), [.t 22, .c (.int .i64 12)], none⟩])
     (.cond (.t 23)
      (.seq
       (.ops [
         ⟨(some 24), (.p .mov), [.t 0], none⟩,
         ⟨(some 25), (.p .mov), [.t 1], none⟩,
         ⟨(some 26), (.p .mov), [.t 2], none⟩,
         ⟨(some 27), .call, [.c (.fn (.func 115) [] []), .t 24, .t 25, .t 26], none⟩])
       (.ret []))
      .skip))
    (.seq
     (.seq
      (.ops [
        ⟨(some 28), (.p .mov), [.t 3], none⟩,
        ⟨(some 29), (.p (.bin .eql .int)), [.t 28, .c (.int .i64 0)], none⟩])
      (.cond (.t 29)
       (.seq
        (.ops [
          ⟨(some 30), (.p .mov), [.t 0], none⟩,
          ⟨(some 31), (.p .mov), [.t 1], none⟩,
          ⟨(some 32), (.p .mov), [.t 2], none⟩,
          ⟨(some 33), .call, [.c (.fn (.func 116) [] []), .t 30, .t 31, .t 32], none⟩])
        (.ret []))
       .skip))
     (.seq
      (.seq
       (.ops [
         ⟨(some 34), (.p .mov), [.t 8], none⟩,
         ⟨(some 35), (.p (.un .not)), [.t 34], none⟩])
       (.cond (.t 35)
        (.seq
         (.ops [
           ⟨(some 36), (.p .mov), [.t 0], none⟩,
           ⟨(some 37), (.p .mov), [.t 1], none⟩,
           ⟨(some 38), (.p .mov), [.t 2], none⟩,
           ⟨(some 39), .call, [.c (.fn (.func 117) [] []), .t 36, .t 37, .t 38], none⟩])
         (.ops [
           ⟨(some 40), (.p .mov), [.t 3], none⟩,
           ⟨(some 41), (.p (.bin .sub .ifc)), [.t 40, .c (.int .i64 1)], none⟩,
           ⟨(some 3), (.p .mov), [.t 41], none⟩]))
        .skip))
      (.seq
       (.ops [
         ⟨(some 43), (.p .mov), [.t 0], none⟩,
         ⟨(some 44), (.p .mov), [.t 1], none⟩,
         ⟨(some 45), (.p .mov), [.t 2], none⟩,
         ⟨(some 46), .call, [.c (.fn (.func 118) [] []), .t 43, .t 44, .t 45], none⟩,
         ⟨(some 42), (.p .mov), [.t 46], none⟩,
         ⟨(some 47), (.p (.ext 0)), [.t 42], none⟩,
         ⟨(some 48), (.p (.ext 1)), [.t 42], none⟩,
         ⟨(some 11), (.p .mov), [.t 47], none⟩,
         ⟨(some 12), (.p .mov), [.t 48], none⟩])
       (.seq
        (.seq
         (.ops [
           ⟨(some 49), (.p .mov), [.t 12], none⟩,
           ⟨(some 50), (.p (.bin .eql .int)), [.t 49, .c (.int .i64 2)], none⟩])
         (.cond (.t 50)
          (.seq
           (.ops [
             ⟨(some 51), (.p .mov), [.t 0], none⟩,
             ⟨(some 52), (.p .mov), [.t 1], none⟩,
             ⟨(some 53), (.p .mov), [.t 2], none⟩,
             ⟨(some 54), .call, [.c (.fn (.func 119) [] []), .t 51, .t 52, .t 53], none⟩])
           (.seq
            (.ops [
              ⟨(some 55), (.p .mov), [.t 2], none⟩,
              ⟨(some 56), (.p (.bin .sub .ifc)), [.t 55, .c (.int .i64 1)], none⟩,
              ⟨(some 57), (.p .mov), [.t 11], none⟩,
              ⟨(some 58), (.p .mov), [.t 1], none⟩,
              ⟨(some 59), (.p (.bin .sub .ifc)), [.t 57, .t 58], none⟩,
              ⟨(some 60), (.p (.bin .sub .ifc)), [.t 56, .t 59], none⟩,
              ⟨(some 11), (.p .mov), [.t 60], none⟩])
            (.ops [
              ⟨(some 12), (.p .mov), [.c (.int .i64 1)], none⟩])))
          .skip))
        (.seq
         (.seq
          (.ops [
            ⟨(some 61), (.p .mov), [.t 8], none⟩,
            ⟨(some 62), (.p .mov), [.t 61], none⟩,
            ⟨(some 63), (.p .mov), [.t 9], (some (62, true))⟩,
            ⟨(some 64), (.p .pick), [.t 62, .t 63, .c (.bool false)], none⟩,
            ⟨(some 65), (.p .mov), [.t 64], none⟩,
            ⟨(some 66), (.p .mov), [.t 12], (some (65, true))⟩,
            ⟨(some 67), (.p (.bin .eql .int)), [.t 66, .c (.int .i64 1)], (some (65, true))⟩,
            ⟨(some 68), (.p .pick), [.t 65, .t 67, .c (.bool false)], none⟩])
          (.cond (.t 68)
           (.seq
            (.ops [
              ⟨(some 69), (.p .mov), [.t 0], none⟩,
              ⟨(some 70), (.p .mov), [.t 1], none⟩,
              ⟨(some 71), (.p .mov), [.t 2], none⟩,
              ⟨(some 72), .call, [.c (.fn (.func 120) [] []), .t 69, .t 70, .t 71], none⟩])
            (.cond (.t 72)
             (.ret [])
             .skip))
           .skip))
         (.seq
          (.seq
           (.ops [
             ⟨(some 73), (.p .mov), [.t 1], none⟩,
             ⟨(some 74), (.p (.bin .gtr .ifc)), [.t 73, .c (.int .i64 0)], none⟩,
             ⟨(some 75), (.p .mov), [.t 74], none⟩,
             ⟨(some 76), (.p .mov), [.t 0], (some (75, true))⟩,
             ⟨(some 77), (.p .mov), [.t 1], (some (75, true))⟩,
             ⟨(some 78), (.p (.bin .sub .ifc)), [.t 77, .c (.int .i64 1)], (some (75, true))⟩,
             ⟨(some 79), (.p (.iaddr 1)), [.t 76, .t 78], (some (75, true))⟩,
             ⟨(some 80), (.h (.load false 1)), [.t 79], (some (75, true))⟩,
             ⟨(some 81), (.p .mov), [.t 0], (some (75, true))⟩,
             ⟨(some 82), (.p .mov), [.t 11], (some (75, true))⟩,
             ⟨(some 83), (.p (.iaddr 1)), [.t 81, .t 82], (some (75, true))⟩,
             ⟨(some 84), (.h (.load false 1)), [.t 83], (some (75, true))⟩,
             ⟨(some 85), .call, [.c (.fn (.func 121) [] []), .t 80, .t 84], (some (75, true))⟩,
             ⟨(some 86), (.p (.un .not)), [.t 85], (some (75, true))⟩,
             ⟨(some 87), (.p .pick), [.t 75, .t 86, .c (.bool false)], none⟩])
           (.cond (.t 87)
            (.seq
             (.ops [
               ⟨(some 88), (.p .mov), [.t 0], none⟩,
               ⟨(some 89), (.p .mov), [.t 1], none⟩,
               ⟨(some 90), (.p .mov), [.t 2], none⟩,
               ⟨(some 91), (.p .mov), [.t 11], none⟩,
               ⟨(some 92), .call, [.c (.fn (.func 122) [] []), .t 88, .t 89, .t 90, .t 91], none⟩,
               ⟨(some 13), (.p .mov), [.t 92], none⟩])
             (.seq
              (.ops [
                ⟨(some 93), (.p .mov), [.t 13], none⟩,
                ⟨(some 1), (.p .mov), [.t 93], none⟩])
              (.exit 1)))
            .skip))
          (.seq
           (.ops [
             ⟨(some 95), (.p .mov), [.t 0], none⟩,
             ⟨(some 96), (.p .mov), [.t 1], none⟩,
             ⟨(some 97), (.p .mov), [.t 2], none⟩,
             ⟨(some 98), (.p .mov), [.t 11], none⟩,
             ⟨(some 99), .call, [.c (.fn (.func 123) [] []), .t 95, .t 96, .t 97, .t 98], none⟩,
             ⟨(some 94), (.p .mov), [.t 99], none⟩,
             ⟨(some 100), (.p (.ext 0)), [.t 94], none⟩,
             ⟨(some 101), (.p (.ext 1)), [.t 94], none⟩,
             ⟨(some 14), (.p .mov), [.t 100], none⟩,
             ⟨(some 15), (.p .mov), [.t 101], none⟩])
           (.seq
            (.ops [
              ⟨(some 102), (.p .mov), [.t 15], none⟩,
              ⟨(some 9), (.p .mov), [.t 102], none⟩])
            (.seq
             (.ops [
               ⟨(some 103), (.p .mov), [.t 14], none⟩,
               ⟨(some 104), (.p .mov), [.t 1], none⟩,
               ⟨(some 105), (.p (.bin .sub .ifc)), [.t 103, .t 104], none⟩,
               ⟨(some 106), (.p .mov), [.t 2], none⟩,
               ⟨(some 107), (.p .mov), [.t 14], none⟩,
               ⟨(some 108), (.p (.bin .sub .ifc)), [.t 106, .t 107], none⟩,
               ⟨(some 16), (.p .mov), [.t 105], none⟩,
               ⟨(some 17), (.p .mov), [.t 108], none⟩])
             (.seq
              (.ops [
                ⟨(some 109), (.p .mov), [.t 10], none⟩,
                ⟨(some 110), (.p (.bin .quo .ifc)), [.t 109, .c (.int .i64 8)], none⟩,
                ⟨(some 18), (.p .mov), [.t 110], none⟩])
              (.seq
               (.ops [
                 ⟨(some 111), (.p .mov), [.t 16], none⟩,
                 ⟨(some 112), (.p .mov), [.t 17], none⟩,
                 ⟨(some 113), (.p (.bin .lss .ifc)), [.t 111, .t 112], none⟩])
               (.cond (.t 113)
                (.seq
                 (.ops [
                   ⟨(some 114), (.p .mov), [.t 16], none⟩,
                   ⟨(some 115), (.p .mov), [.t 18], none⟩,
                   ⟨(some 116), (.p (.bin .geq .ifc)), [.t 114, .t 115], none⟩,
                   ⟨(some 8), (.p .mov), [.t 116], none⟩])
                 (.seq
                  (.ops [
                    ⟨(some 117), (.p .mov), [.t 0], none⟩,
                    ⟨(some 118), (.p .mov), [.t 1], none⟩,
                    ⟨(some 119), (.p .mov), [.t 14], none⟩,
                    ⟨(some 120), (.p .mov), [.t 3], none⟩,
                    ⟨(some 121), .call, [.c (.fn (.func 107) [] []), .t 117, .t 118, .t 119, .t 120], none⟩])
                  (.ops [
                    ⟨(some 122), (.p .mov), [.t 14], none⟩,
                    ⟨(some 123), (.p (.bin .add .ifc)), [.t 122, .c (.int .i64 1)], none⟩,
                    ⟨(some 1), (.p .mov), [.t 123], none⟩])))
                (.seq
                 (.ops [
                   ⟨(some 124), (.p .mov), [.t 17], none⟩,
                   ⟨(some 125), (.p .mov), [.t 18], none⟩,
                   ⟨(some 126), (.p (.bin .geq .ifc)), [.t 124, .t 125], none⟩,
                   ⟨(some 8), (.p .mov), [.t 126], none⟩])
                 (.seq
                  (.ops [
                    ⟨(some 127), (.p .mov), [.t 0], none⟩,
                    ⟨(some 128), (.p .mov), [.t 14], none⟩,
                    ⟨(some 129), (.p (.bin .add .ifc)), [.t 128, .c (.int .i64 1)], none⟩,
                    ⟨(some 130), (.p .mov), [.t 2], none⟩,
                    ⟨(some 131), (.p .mov), [.t 3], none⟩,
                    ⟨(some 132), .call, [.c (.fn (.func 107) [] []), .t 127, .t 129, .t 130, .t 131], none⟩])
                  (.ops [
                    ⟨(some 133), (.p .mov), [.t 14], none⟩,
                    ⟨(some 2), (.p .mov), [.t 133], none⟩]))))))))))))))))))
def slices_pdqsortOrdered_int_L0 : CCode := .bloop 0 [0, 1, 2, 3, 8, 9] [] slices_pdqsortOrdered_int_B0
def slices_pdqsortOrdered_int_C : CCode :=
 (.seq
  (.ops [
    ⟨(some 8), (.p .mov), [.c (.bool true)], none⟩])
  (.seq
   (.ops [
     ⟨(some 9), (.p .mov), [.c (.bool true)], none⟩])
   slices_pdqsortOrdered_int_L0))
def slices_pdqsortOrdered_int_I : FInfo := ⟨.ref, 4, slices_pdqsortOrdered_int_C, []⟩
def slices_pdqsortOrdered_int_A : Ann := ⟨[], [], [(0, [0, 1, 2, 3, 8, 9], [])], [(1, [0, 1, 2, 3, 8, 9])], []⟩
abbrev n_slices_pdqsortOrdered_int : Nat := 107

/-! ### math/bits.Len -/
def math_bits_Len_C : CCode :=
 (.seq
  (.ops [
    ⟨(some 2), (.p .mov), [.c (.int .i64 0)], none⟩])
  (.seq
   (.cond (.c (.bool false))
    (.seq
     (.ops [
       ⟨(some 3), (.p .mov), [.t 0], none⟩,
       ⟨(some 4), (.p (.toInt .u32)), [.t 3], none⟩,
       ⟨(some 5), .call, [.c (.fn (.func 124) [] []), .t 4], none⟩,
       ⟨(some 2), (.p .mov), [.t 5], none⟩])
     (.ret [2]))
    .skip)
   (.seq
    (.ops [
      ⟨(some 6), (.p .mov), [.t 0], none⟩,
      ⟨(some 7), .call, [.c (.fn (.func 125) [] []), .t 6], none⟩,
      ⟨(some 2), (.p .mov), [.t 7], none⟩])
    (.ret [2]))))
def math_bits_Len_I : FInfo := ⟨(.fz false), 1, math_bits_Len_C, [.tmp 2]⟩
def math_bits_Len_A : Ann := ⟨[], [], [], [], []⟩
abbrev n_math_bits_Len : Nat := 108

/-! ### (*balise/graph.Graph).way$1 -/
def graph_Graph_way_1_C : CCode :=
 (.seq
  (.ops [
    ⟨(some 2), (.h (.box 2)), [.t 0], none⟩,
    ⟨(some 3), (.p .mov), [.c (.bool false)], none⟩])
  (.seq
   (.ops [
     ⟨(some 4), (.p (.faddr 0)), [.t 2], none⟩,
     ⟨(some 5), (.h (.load false 1)), [.t 4], none⟩,
     ⟨(some 6), (.h (.load false 1)), [.t 1], none⟩,
     ⟨(some 7), (.p (.bin .eql .int)), [.t 5, .t 6], none⟩,
     ⟨(some 3), (.p .mov), [.t 7], none⟩])
   (.ret [3])))
def graph_Graph_way_1_I : FInfo := ⟨(.fz false), 2, graph_Graph_way_1_C, [.tmp 3]⟩
def graph_Graph_way_1_A : Ann := ⟨[], [], [], [], [2]⟩
abbrev n_graph_Graph_way_1 : Nat := 109

/-! ### (*balise/graph.Graph).need -/
def graph_Graph_need_C : CCode :=
 (.seq
  (.ops [
    ⟨(some 4), (.h (.box 4)), [.t 1], none⟩,
    ⟨(some 5), (.h (.box 5)), [.t 2], none⟩,
    ⟨(some 6), (.p .mov), [.c .nils], none⟩])
  (.seq
   (.ops [
     ⟨(some 12), (.p .mov), [.t 0], none⟩,
     ⟨(some 13), (.h (.load true 2)), [.t 4], none⟩,
     ⟨(some 14), .call, [.c (.fn (.func 76) [] []), .t 12, .t 13], none⟩,
     ⟨(some 11), (.p .mov), [.t 14], none⟩,
     ⟨(some 15), (.p (.ext 0)), [.t 11], none⟩,
     ⟨(some 16), (.p (.ext 1)), [.t 11], none⟩,
     ⟨(some 7), (.p .mov), [.t 15], none⟩,
     ⟨(some 8), (.p .mov), [.t 16], none⟩])
   (.seq
    (.ops [
      ⟨(some 17), (.p .mov), [.t 0], none⟩,
      ⟨(some 18), (.p .mov), [.t 7], none⟩,
      ⟨(some 19), .call, [.c (.fn (.func 53) [] []), .t 17, .t 18], none⟩,
      ⟨(some 9), (.p .mov), [.t 19], none⟩])
    (.seq
     (.seq
      (.ops [
        ⟨(some 20), (.p .mov), [.t 9], none⟩,
        ⟨(some 21), (.p (.bin .lss .ifc)), [.t 20, .c (.int .i64 0)], none⟩])
      (.cond (.t 21)
       (.seq
        (.ops [
          ⟨(some 6), (.p .mov), [.c .nils], none⟩])
        (.ret [6]))
       .skip))
     (.seq
      (.ops [
        ⟨(some 22), (.p (.faddr 0)), [.t 5], none⟩,
        ⟨(some 23), (.h (.load false 1)), [.t 22], none⟩,
        ⟨(some 10), (.p .mov), [.t 23], none⟩])
      (.seq
       (.seq
        (.ops [
          ⟨(some 24), (.p .mov), [.t 0], none⟩,
          ⟨(some 25), (.p .nchk), [.t 24], none⟩,
          ⟨(some 26), (.p (.faddr 0)), [.t 25], none⟩,
          ⟨(some 27), (.p (.faddr 3)), [.t 26], none⟩,
          ⟨(some 28), (.h (.load false 1)), [.t 27], none⟩,
          ⟨(some 29), (.p .mov), [.t 9], none⟩,
          ⟨(some 30), (.p (.iaddr 4)), [.t 28, .t 29], none⟩,
          ⟨(some 31), (.p (.faddr 1)), [.t 30], none⟩,
          ⟨(some 32), (.h (.load false 1)), [.t 31], none⟩,
          ⟨(some 33), (.p .mov), [.t 10], none⟩,
          ⟨(some 34), (.p (.bin .eql .int)), [.t 32, .t 33], none⟩])
        (.cond (.t 34)
         (.ops [
           ⟨(some 35), (.p (.faddr 0)), [.t 4], none⟩,
           ⟨(some 36), (.h (.load false 1)), [.t 35], none⟩,
           ⟨(some 10), (.p .mov), [.t 36], none⟩])
         .skip))
       (.seq
        (.ops [
          ⟨(some 37), (.p .mov), [.t 9], none⟩,
          ⟨(some 38), (.p .mov), [.t 0], none⟩,
          ⟨(some 39), (.p .nchk), [.t 38], none⟩,
          ⟨(some 40), (.p (.faddr 0)), [.t 39], none⟩,
          ⟨(some 41), (.p (.faddr 3)), [.t 40], none⟩,
          ⟨(some 42), (.h (.load false 1)), [.t 41], none⟩,
          ⟨(some 43), (.p .mov), [.t 9], none⟩,
          ⟨(some 44), (.p (.iaddr 4)), [.t 42, .t 43], none⟩,
          ⟨(some 45), (.p (.faddr 3)), [.t 44], none⟩,
          ⟨(some 46), (.h (.load false 1)), [.t 45], none⟩,
          ⟨(some 47), (.p .mov), [.t 10], none⟩,
          ⟨(some 48), (.p (.bin .eql .int)), [.t 46, .t 47], none⟩,
          ⟨(some 49), (.p (.bld [(.int .i64 0), (.bool false)] [(0, 1), (1, 1)])), [.t 37, .t 48], none⟩,
          ⟨(some 50), (.h (.bslF 2 1 [(.int .i64 0), (.bool false)] [(0, 2)])), [.t 49], none⟩,
          ⟨(some 6), (.p .mov), [.t 50], none⟩])
        (.ret [6]))))))))
def graph_Graph_need_I : FInfo := ⟨(.fz false), 3, graph_Graph_need_C, [.tmp 6]⟩
def graph_Graph_need_A : Ann := ⟨[], [], [], [], [4, 5]⟩
abbrev n_graph_Graph_need : Nat := 110

/-! ### slices.insertionSortOrdered[int] -/
def slices_insertionSortOrdered_int_B2 : CCode :=
 (.seq
  (.seq
   (.ops [
     ⟨(some 16), (.p .mov), [.t 7], none⟩,
     ⟨(some 17), (.p .mov), [.t 1], none⟩,
     ⟨(some 18), (.p (.bin .gtr .ifc)), [.t 16, .t 17], none⟩,
     ⟨(some 19), (.p .mov), [.t 18], none⟩,
     ⟨(some 20), (.p .mov), [.t 0], (some (19, true))⟩,
     ⟨(some 21), (.p .mov), [.t 7], (some (19, true))⟩,
     ⟨(some 22), (.p (.iaddr 1)), [.t 20, .t 21], (some (19, true))⟩,
     ⟨(some 23), (.h (.load false 1)), [.t 22], (some (19, true))⟩,
     ⟨(some 24), (.p .mov), [.t 0], (some (19, true))⟩,
     ⟨(some 25), (.p .mov), [.t 7], (some (19, true))⟩,
     ⟨(some 26), (.p (.bin .sub .ifc)), [.t 25, .c (.int .i64 1)], (some (19, true))⟩,
     ⟨(some 27), (.p (.iaddr 1)), [.t 24, .t 26], (some (19, true))⟩,
     ⟨(some 28), (.h (.load false 1)), [.t 27], (some (19, true))⟩,
     ⟨(some 29), .call, [.c (.fn (.func 121) [] []), .t 23, .t 28], (some (19, true))⟩,
     ⟨(some 30), (.p .pick), [.t 19, .t 29, .c (.bool false)], none⟩])
   (.cond (.t 30)
    .skip
    (.exit 2)))
  (.seq
   (.block 3 (some [0, 1, 2, 6, 7])
    (.ops [
      ⟨(some 33), (.p .mov), [.t 0], none⟩,
      ⟨(some 34), (.p .mov), [.t 7], none⟩,
      ⟨(some 35), (.p .mov), [.t 0], none⟩,
      ⟨(some 36), (.p .mov), [.t 7], none⟩,
      ⟨(some 37), (.p (.bin .sub .ifc)), [.t 36, .c (.int .i64 1)], none⟩,
      ⟨(some 38), (.p .mov), [.t 0], none⟩,
      ⟨(some 39), (.p .mov), [.t 7], none⟩,
      ⟨(some 40), (.p (.bin .sub .ifc)), [.t 39, .c (.int .i64 1)], none⟩,
      ⟨(some 41), (.p (.iaddr 1)), [.t 38, .t 40], none⟩,
      ⟨(some 42), (.h (.load false 1)), [.t 41], none⟩,
      ⟨(some 43), (.p .mov), [.t 0], none⟩,
      ⟨(some 44), (.p .mov), [.t 7], none⟩,
      ⟨(some 45), (.p (.iaddr 1)), [.t 43, .t 44], none⟩,
      ⟨(some 46), (.h (.load false 1)), [.t 45], none⟩,
      ⟨(some 47), (.p (.iaddr 1)), [.t 33, .t 34], none⟩,
      ⟨none, (.h (.store 1)), [.t 47, .t 42], none⟩,
      ⟨(some 48), (.p (.iaddr 1)), [.t 35, .t 37], none⟩,
      ⟨none, (.h (.store 1)), [.t 48, .t 46], none⟩]))
   (.ops [
     ⟨(some 31), (.p .mov), [.t 7], none⟩,
     ⟨(some 32), (.p (.bin .sub .ifc)), [.t 31, .c (.int .i64 1)], none⟩,
     ⟨(some 7), (.p .mov), [.t 32], none⟩])))
def slices_insertionSortOrdered_int_L2 : CCode := .bloop 2 [0, 1, 2, 6, 7] [0, 1, 2, 6] slices_insertionSortOrdered_int_B2

def slices_insertionSortOrdered_int_B0 : CCode :=
 (.seq
  (.seq
   (.ops [
     ⟨(some 10), (.p .mov), [.t 6], none⟩,
     ⟨(some 11), (.p .mov), [.t 2], none⟩,
     ⟨(some 12), (.p (.bin .lss .ifc)), [.t 10, .t 11], none⟩])
   (.cond (.t 12)
    .skip
    (.exit 0)))
  (.seq
   (.block 1 (some [0, 1, 2, 6])
    (.seq
     (.ops [
       ⟨(some 15), (.p .mov), [.t 6], none⟩,
       ⟨(some 7), (.p .mov), [.t 15], none⟩])
     slices_insertionSortOrdered_int_L2))
   (.ops [
     ⟨(some 13), (.p .mov), [.t 6], none⟩,
     ⟨(some 14), (.p (.bin .add .ifc)), [.t 13, .c (.int .i64 1)], none⟩,
     ⟨(some 6), (.p .mov), [.t 14], none⟩])))
def slices_insertionSortOrdered_int_L0 : CCode := .bloop 0 [0, 1, 2, 6] [] slices_insertionSortOrdered_int_B0
def slices_insertionSortOrdered_int_C : CCode :=
 (.seq
  (.ops [
    ⟨(some 8), (.p .mov), [.t 1], none⟩,
    ⟨(some 9), (.p (.bin .add .ifc)), [.t 8, .c (.int .i64 1)], none⟩,
    ⟨(some 6), (.p .mov), [.t 9], none⟩])
  slices_insertionSortOrdered_int_L0)
def slices_insertionSortOrdered_int_I : FInfo := ⟨.ref, 3, slices_insertionSortOrdered_int_C, []⟩
def slices_insertionSortOrdered_int_A : Ann := ⟨[], [], [(0, [0, 1, 2, 6], []), (2, [0, 1, 2, 6, 7], [0, 1, 2, 6])], [(1, [0, 1, 2, 6]), (3, [0, 1, 2, 6, 7])], []⟩
abbrev n_slices_insertionSortOrdered_int : Nat := 115

/-! ### cmp.Less[int] -/
def cmp_Less_int_C : CCode :=
 (.seq
  (.ops [
    ⟨(some 4), (.p .mov), [.c (.bool false)], none⟩])
  (.seq
   (.ops [
     ⟨(some 5), (.p .mov), [.t 0], none⟩,
     ⟨(some 6), .call, [.c (.fn (.func 132) [] []), .t 5], none⟩,
     ⟨(some 7), (.p .mov), [.t 6], none⟩,
     ⟨(some 8), (.p .mov), [.t 1], (some (7, true))⟩,
     ⟨(some 9), .call, [.c (.fn (.func 132) [] []), .t 8], (some (7, true))⟩,
     ⟨(some 10), (.p (.un .not)), [.t 9], (some (7, true))⟩,
     ⟨(some 11), (.p .pick), [.t 7, .t 10, .c (.bool false)], none⟩,
     ⟨(some 12), (.p .mov), [.t 11], none⟩,
     ⟨(some 13), (.p .mov), [.t 0], (some (12, false))⟩,
     ⟨(some 14), (.p .mov), [.t 1], (some (12, false))⟩,
     ⟨(some 15), (.p (.bin .lss .ifc)), [.t 13, .t 14], (some (12, false))⟩,
     ⟨(some 16), (.p .pick), [.t 12, .c (.bool true), .t 15], none⟩,
     ⟨(some 4), (.p .mov), [.t 16], none⟩])
   (.ret [4])))
def cmp_Less_int_I : FInfo := ⟨(.fz false), 2, cmp_Less_int_C, [.tmp 4]⟩
def cmp_Less_int_A : Ann := ⟨[], [], [], [], []⟩
abbrev n_cmp_Less_int : Nat := 121

/-! ### math/bits.Len64 -/
def math_bits_Len64_C : CCode :=
 (.seq
  (.ops [
    ⟨(some 2), (.p .mov), [.c (.int .i64 0)], none⟩])
  (.seq
   (.seq
    (.ops [
      ⟨(some 3), (.p .mov), [.t 0], none⟩,
      ⟨(some 4), (.p (.bin .geq .ifc)), [.t 3, .c (.int .u64 4294967296)], none⟩])
    (.cond (.t 4)
     (.seq
      (.ops [
        ⟨(some 5), (.p .mov), [.t 0], none⟩,
        ⟨(some 6), (.p (.bin .shr .ifc)), [.t 5, .c (.int .u64 32)], none⟩,
        ⟨(some 0), (.p .mov), [.t 6], none⟩])
      (.ops [
        ⟨(some 2), (.p .mov), [.c (.int .i64 32)], none⟩]))
     .skip))
   (.seq
    (.seq
     (.ops [
       ⟨(some 7), (.p .mov), [.t 0], none⟩,
       ⟨(some 8), (.p (.bin .geq .ifc)), [.t 7, .c (.int .u64 65536)], none⟩])
     (.cond (.t 8)
      (.seq
       (.ops [
         ⟨(some 9), (.p .mov), [.t 0], none⟩,
         ⟨(some 10), (.p (.bin .shr .ifc)), [.t 9, .c (.int .u64 16)], none⟩,
         ⟨(some 0), (.p .mov), [.t 10], none⟩])
       (.ops [
         ⟨(some 11), (.p .mov), [.t 2], none⟩,
         ⟨(some 12), (.p (.bin .add .ifc)), [.t 11, .c (.int .i64 16)], none⟩,
         ⟨(some 2), (.p .mov), [.t 12], none⟩]))
      .skip))
    (.seq
     (.seq
      (.ops [
        ⟨(some 13), (.p .mov), [.t 0], none⟩,
        ⟨(some 14), (.p (.bin .geq .ifc)), [.t 13, .c (.int .u64 256)], none⟩])
      (.cond (.t 14)
       (.seq
        (.ops [
          ⟨(some 15), (.p .mov), [.t 0], none⟩,
          ⟨(some 16), (.p (.bin .shr .ifc)), [.t 15, .c (.int .u64 8)], none⟩,
          ⟨(some 0), (.p .mov), [.t 16], none⟩])
        (.ops [
          ⟨(some 17), (.p .mov), [.t 2], none⟩,
          ⟨(some 18), (.p (.bin .add .ifc)), [.t 17, .c (.int .i64 8)], none⟩,
          ⟨(some 2), (.p .mov), [.t 18], none⟩]))
       .skip))
     (.seq
      (.ops [
        ⟨(some 19), (.p .mov), [.t 2], none⟩,
        ⟨(some 20), (.p .mov), [.t 0], none⟩,
        ⟨(some 21), (.p (.toInt .u8)), [.t 20], none⟩,
        ⟨(some 22), (.p .idxS), [.c (.str (ByteArray.mk #[0, 1, 2, 2, 3, 3, 3, 3, 4, 4, 4, 4, 4, 4, 4, 4, 5, 5, 5, 5, 5, 5, 5, 5, 5, 5, 5, 5, 5, 5, 5, 5, 6, 6, 6, 6, 6, 6, 6, 6, 6, 6, 6, 6, 6, 6, 6, 6, 6, 6, 6, 6, 6, 6, 6, 6, 6, 6, 6, 6, 6, 6, 6, 6, 7, 7, 7, 7, 7, 7, 7, 7, 7, 7, 7, 7, 7, 7, 7, 7, 7, 7, 7, 7, 7, 7, 7, 7, 7, 7, 7, 7, 7, 7, 7, 7, 7, 7, 7, 7, 7, 7, 7, 7, 7, 7, 7, 7, 7, 7, 7, 7, 7, 7, 7, 7, 7, 7, 7, 7, 7, 7, 7, 7, 7, 7, 7, 7, 8, 8, 8, 8, 8, 8, 8, 8, 8, 8, 8, 8, 8, 8, 8, 8, 8, 8, 8, 8, 8, 8, 8, 8, 8, 8, 8, 8, 8, 8, 8, 8, 8, 8, 8, 8, 8, 8, 8, 8, 8, 8, 8, 8, 8, 8, 8, 8, 8, 8, 8, 8, 8, 8, 8, 8, 8, 8, 8, 8, 8, 8, 8, 8, 8, 8, 8, 8, 8, 8, 8, 8, 8, 8, 8, 8, 8, 8, 8, 8, 8, 8, 8, 8, 8, 8, 8, 8, 8, 8, 8, 8, 8, 8, 8, 8, 8, 8, 8, 8, 8, 8, 8, 8, 8, 8, 8, 8, 8, 8, 8, 8, 8, 8, 8, 8, 8, 8, 8, 8, 8, 8, 8, 8, 8, 8, 8, 8])), .t 21], none⟩,
        ⟨(some 23), (.p (.toInt .i64)), [.t 22], none⟩,
        ⟨(some 24), (.p (.bin .add .ifc)), [.t 19, .t 23], none⟩,
        ⟨(some 2), (.p .mov), [.t 24], none⟩])
      (.ret [2]))))))
def math_bits_Len64_I : FInfo := ⟨(.fz false), 1, math_bits_Len64_C, [.tmp 2]⟩
def math_bits_Len64_A : Ann := ⟨[], [], [], [], []⟩
abbrev n_math_bits_Len64 : Nat := 125

/-! ### math/bits.Len32 -/
def math_bits_Len32_C : CCode :=
 (.seq
  (.ops [
    ⟨(some 2), (.p .mov), [.c (.int .i64 0)], none⟩])
  (.seq
   (.seq
    (.ops [
      ⟨(some 3), (.p .mov), [.t 0], none⟩,
      ⟨(some 4), (.p (.bin .geq .ifc)), [.t 3, .c (.int .u32 65536)], none⟩])
    (.cond (.t 4)
     (.seq
      (.ops [
        ⟨(some 5), (.p .mov), [.t 0], none⟩,
        ⟨(some 6), (.p (.bin .shr .ifc)), [.t 5, .c (.int .u64 16)], none⟩,
        ⟨(some 0), (.p .mov), [.t 6], none⟩])
      (.ops [
        ⟨(some 2), (.p .mov), [.c (.int .i64 16)], none⟩]))
     .skip))
   (.seq
    (.seq
     (.ops [
       ⟨(some 7), (.p .mov), [.t 0], none⟩,
       ⟨(some 8), (.p (.bin .geq .ifc)), [.t 7, .c (.int .u32 256)], none⟩])
     (.cond (.t 8)
      (.seq
       (.ops [
         ⟨(some 9), (.p .mov), [.t 0], none⟩,
         ⟨(some 10), (.p (.bin .shr .ifc)), [.t 9, .c (.int .u64 8)], none⟩,
         ⟨(some 0), (.p .mov), [.t 10], none⟩])
       (.ops [
         ⟨(some 11), (.p .mov), [.t 2], none⟩,
         ⟨(some 12), (.p (.bin .add .ifc)), [.t 11, .c (.int .i64 8)], none⟩,
         ⟨(some 2), (.p .mov), [.t 12], none⟩]))
      .skip))
    (.seq
     (.ops [
       ⟨(some 13), (.p .mov), [.t 2], none⟩,
       ⟨(some 14), (.p .mov), [.t 0], none⟩,
       ⟨(some 15), (.p (.toInt .u8)), [.t 14], none⟩,
       ⟨(some 16), (.p .idxS), [.c (.str (ByteArray.mk #[0, 1, 2, 2, 3, 3, 3, 3, 4, 4, 4, 4, 4, 4, 4, 4, 5, 5, 5, 5, 5, 5, 5, 5, 5, 5, 5, 5, 5, 5, 5, 5, 6, 6, 6, 6, 6, 6, 6, 6, 6, 6, 6, 6, 6, 6, 6, 6, 6, 6, 6, 6, 6, 6, 6, 6, 6, 6, 6, 6, 6, 6, 6, 6, 7, 7, 7, 7, 7, 7, 7, 7, 7, 7, 7, 7, 7, 7, 7, 7, 7, 7, 7, 7, 7, 7, 7, 7, 7, 7, 7, 7, 7, 7, 7, 7, 7, 7, 7, 7, 7, 7, 7, 7, 7, 7, 7, 7, 7, 7, 7, 7, 7, 7, 7, 7, 7, 7, 7, 7, 7, 7, 7, 7, 7, 7, 7, 7, 8, 8, 8, 8, 8, 8, 8, 8, 8, 8, 8, 8, 8, 8, 8, 8, 8, 8, 8, 8, 8, 8, 8, 8, 8, 8, 8, 8, 8, 8, 8, 8, 8, 8, 8, 8, 8, 8, 8, 8, 8, 8, 8, 8, 8, 8, 8, 8, 8, 8, 8, 8, 8, 8, 8, 8, 8, 8, 8, 8, 8, 8, 8, 8, 8, 8, 8, 8, 8, 8, 8, 8, 8, 8, 8, 8, 8, 8, 8, 8, 8, 8, 8, 8, 8, 8, 8, 8, 8, 8, 8, 8, 8, 8, 8, 8, 8, 8, 8, 8, 8, 8, 8, 8, 8, 8, 8, 8, 8, 8, 8, 8, 8, 8, 8, 8, 8, 8, 8, 8, 8, 8, 8, 8, 8, 8, 8, 8])), .t 15], none⟩,
       ⟨(some 17), (.p (.toInt .i64)), [.t 16], none⟩,
       ⟨(some 18), (.p (.bin .add .ifc)), [.t 13, .t 17], none⟩,
       ⟨(some 2), (.p .mov), [.t 18], none⟩])
     (.ret [2])))))
def math_bits_Len32_I : FInfo := ⟨(.fz false), 1, math_bits_Len32_C, [.tmp 2]⟩
def math_bits_Len32_A : Ann := ⟨[], [], [], [], []⟩
abbrev n_math_bits_Len32 : Nat := 124

/-! ### slices.Concat[[]balise/api.End,balise/api.End] -/
def slices_Concat_End_B0 : CCode :=
 (.seq
  (.ops [
    ⟨(some 12), (.p (.bin .lss .ifc)), [.t 11, .t 10], none⟩])
  (.seq
   (.cond (.t 12)
    .skip
    (.exit 0))
   (.seq
    (.block 1 (some [0, 3, 9, 10, 11])
     (.seq
      (.ops [
        ⟨(some 13), (.p (.iaddr 1)), [.t 9, .t 11], none⟩,
        ⟨(some 14), (.h (.load false 1)), [.t 13], none⟩,
        ⟨(some 5), (.p .mov), [.t 14], none⟩])
      (.seq
       (.ops [
         ⟨(some 15), (.p .mov), [.t 3], none⟩,
         ⟨(some 16), (.p .mov), [.t 5], none⟩,
         ⟨(some 17), (.p .len), [.t 16], none⟩,
         ⟨(some 18), (.p (.bin .add .ifc)), [.t 15, .t 17], none⟩,
         ⟨(some 3), (.p .mov), [.t 18], none⟩])
       (.seq
        (.ops [
          ⟨(some 19), (.p .mov), [.t 3], none⟩,
          ⟨(some 20), (.p (.bin .lss .ifc)), [.t 19, .c (.int .i64 0)], none⟩])
        (.cond (.t 20)
         bad
         .skip)))))
    (.ops [
      ⟨(some 22), (.p (.bin .add .ifc)), [.t 11, .c (.int .i64 1)], none⟩,
      ⟨(some 11), (.p .mov), [.t 22], none⟩]))))
def slices_Concat_End_L0 : CCode := .bloop 0 [0, 3, 9, 10, 11] [0, 3] slices_Concat_End_B0

def slices_Concat_End_B2 : CCode :=
 (.seq
  (.ops [
    ⟨(some 28), (.p (.bin .lss .ifc)), [.t 27, .t 26], none⟩])
  (.seq
   (.cond (.t 28)
    .skip
    (.exit 2))
   (.seq
    (.block 3 (some [6, 25, 26, 27])
     (.seq
      (.ops [
        ⟨(some 29), (.p (.iaddr 1)), [.t 25, .t 27], none⟩,
        ⟨(some 30), (.h (.load false 1)), [.t 29], none⟩,
        ⟨(some 8), (.p .mov), [.t 30], none⟩])
      (.ops [
        ⟨(some 31), (.p .mov), [.t 6], none⟩,
        ⟨(some 32), (.p .mov), [.t 8], none⟩,
        ⟨(some 33), (.h (.app 2 16 [(.int .i64 0), (.int .i64 0)])), [.t 31, .t 32], none⟩,
        ⟨(some 6), (.p .mov), [.t 33], none⟩])))
    (.ops [
      ⟨(some 34), (.p (.bin .add .ifc)), [.t 27, .c (.int .i64 1)], none⟩,
      ⟨(some 27), (.p .mov), [.t 34], none⟩]))))
def slices_Concat_End_L2 : CCode := .bloop 2 [6, 25, 26, 27] [6] slices_Concat_End_B2
def slices_Concat_End_C : CCode :=
 (.seq
  (.ops [
    ⟨(some 2), (.p .mov), [.c .nils], none⟩])
  (.seq
   (.ops [
     ⟨(some 3), (.p .mov), [.c (.int .i64 0)], none⟩])
   (.seq
    (.seq
     (.ops [
       ⟨(some 9), (.p .mov), [.t 0], none⟩,
       ⟨(some 10), (.p .len), [.t 9], none⟩,
       ⟨(some 11), (.p .mov), [.c (.int .i64 0)], none⟩])
     slices_Concat_End_L0)
    (.seq
     (.ops [
       ⟨(some 23), (.p .mov), [.t 3], none⟩,
       ⟨(some 24), .call, [.c (.fn (.func 106) [] []), .c .nils, .t 23], none⟩,
       ⟨(some 6), (.p .mov), [.t 24], none⟩])
     (.seq
      (.seq
       (.ops [
         ⟨(some 25), (.p .mov), [.t 0], none⟩,
         ⟨(some 26), (.p .len), [.t 25], none⟩,
         ⟨(some 27), (.p .mov), [.c (.int .i64 0)], none⟩])
       slices_Concat_End_L2)
      (.seq
       (.ops [
         ⟨(some 35), (.p .mov), [.t 6], none⟩,
         ⟨(some 2), (.p .mov), [.t 35], none⟩])
       (.ret [2])))))))
def slices_Concat_End_I : FInfo := ⟨(.fz false), 1, slices_Concat_End_C, [.tmp 2]⟩
def slices_Concat_End_A : Ann := ⟨[], [], [(0, [0, 3, 9, 10, 11], [0, 3]), (2, [6, 25, 26, 27], [6])], [(1, [0, 3, 9, 10, 11]), (3, [6, 25, 26, 27])], []⟩
abbrev n_slices_Concat_End : Nat := 79

/-! ### slices.Grow[[]balise/api.End,balise/api.End] -/
def slices_Grow_End_C : CCode :=
 (.seq
  (.ops [
    ⟨(some 4), (.p .mov), [.c .nils], none⟩])
  (.seq
   (.seq
    (.ops [
      ⟨(some 5), (.p .mov), [.t 1], none⟩,
      ⟨(some 6), (.p (.bin .lss .ifc)), [.t 5, .c (.int .i64 0)], none⟩])
    (.cond (.t 6)
     bad
     .skip))
   (.seq
    (.seq
     (.ops [
       ⟨(some 8), (.p .mov), [.t 1], none⟩,
       ⟨(some 9), (.p .mov), [.t 0], none⟩,
       ⟨(some 10), (.p .cap), [.t 9], none⟩,
       ⟨(some 11), (.p .mov), [.t 0], none⟩,
       ⟨(some 12), (.p .len), [.t 11], none⟩,
       ⟨(some 13), (.p (.bin .sub .ifc)), [.t 10, .t 12], none⟩,
       ⟨(some 14), (.p (.bin .sub .ifc)), [.t 8, .t 13], none⟩,
       ⟨(some 1), (.p .mov), [.t 14], none⟩])
     (.seq
      (.ops [
        ⟨(some 15), (.p .mov), [.t 1], none⟩,
        ⟨(some 16), (.p (.bin .gtr .ifc)), [.t 15, .c (.int .i64 0)], none⟩])
      (.cond (.t 16)
       (.ops [
         ⟨(some 17), (.p .mov), [.t 0], none⟩,
         ⟨(some 18), (.p .mov), [.t 0], none⟩,
         ⟨(some 19), (.p .cap), [.t 18], none⟩,
         ⟨(some 20), (.p (.slc 2 false true)), [.t 17, .t 19], none⟩,
         ⟨(some 21), (.p .mov), [.t 1], none⟩,
         ⟨(some 22), (.h (.appz 2 16 [(.int .i64 0), (.int .i64 0)])), [.t 20, .t 21], none⟩,
         ⟨(some 23), (.p .mov), [.t 0], none⟩,
         ⟨(some 24), (.p .len), [.t 23], none⟩,
         ⟨(some 25), (.p (.slc 2 false true)), [.t 22, .t 24], none⟩,
         ⟨(some 0), (.p .mov), [.t 25], none⟩])
       .skip)))
    (.seq
     (.ops [
       ⟨(some 26), (.p .mov), [.t 0], none⟩,
       ⟨(some 4), (.p .mov), [.t 26], none⟩])
     (.ret [4])))))
def slices_Grow_End_I : FInfo := ⟨.ref, 2, slices_Grow_End_C, [.tmp 4]⟩
def slices_Grow_End_A : Ann := ⟨[], [], [], [], []⟩
abbrev n_slices_Grow_End : Nat := 106

/-- All of them. -/
def tab : List (Nat × FInfo) := [(14, l05_GraphNil_I), (18, graph_New_I), (27, r01_Ints_I), (40, l05_joins_I), (41, graph_Graph_Around_I), (42, r01_Has_I), (43, graph_Graph_Near_I), (44, graph_Graph_Ends_I), (45, graph_Graph_Beside_I), (46, graph_Graph_Part_I), (47, graph_Graph_Len_I), (49, graph_Graph_Path_I), (52, graph_Graph_Next_I), (53, graph_Graph_Point_I), (58, slices_IndexFunc_End_I), (60, r01_Rise_I), (62, slices_Clone_int_I), (76, graph_Graph_node_I), (77, slices_DeleteFunc_End_I), (78, graph_Graph_Around_1_I), (80, graph_Graph_at_I), (81, slices_Sort_int_I), (82, slices_Compact_int_I), (83, graph_Graph_section_I), (84, slices_IndexFunc_int_I), (85, graph_Graph_Part_1_I), (86, slices_Contains_int_I), (87, graph_Graph_way_I), (96, graph_stands_I), (97, graph_Graph_Next_1_I), (98, slices_IndexFunc_Point_I), (99, graph_Graph_Point_1_I), (100, slices_Index_int_I), (107, slices_pdqsortOrdered_int_I), (108, math_bits_Len_I), (109, graph_Graph_way_1_I), (110, graph_Graph_need_I), (115, slices_insertionSortOrdered_int_I), (121, cmp_Less_int_I), (125, math_bits_Len64_I), (124, math_bits_Len32_I), (79, slices_Concat_End_I), (106, slices_Grow_End_I)]
def ctx : Ctx := ⟨Zc.look tab, fun _ => none⟩
theorem l05_GraphNil_ok : compF Try.prog (quietOf ctx) l05_GraphNil_A (.fz false) Try.f14 = some l05_GraphNil_I := by kernel_rfl
theorem graph_New_ok : compF Try.prog (quietOf ctx) graph_New_A (.fz false) Try.f18 = some graph_New_I := by kernel_rfl
theorem r01_Ints_ok : compF Try.prog (quietOf ctx) r01_Ints_A (.fz false) Try.f27 = some r01_Ints_I := by kernel_rfl
theorem l05_joins_ok : compF Try.prog (quietOf ctx) l05_joins_A (.fz false) Try.f40 = some l05_joins_I := by kernel_rfl
theorem graph_Graph_Around_ok : compF Try.prog (quietOf ctx) graph_Graph_Around_A (.fz false) Try.f41 = some graph_Graph_Around_I := by kernel_rfl
theorem r01_Has_ok : compF Try.prog (quietOf ctx) r01_Has_A (.fz false) Try.f42 = some r01_Has_I := by kernel_rfl
theorem graph_Graph_Near_ok : compF Try.prog (quietOf ctx) graph_Graph_Near_A (.fz false) Try.f43 = some graph_Graph_Near_I := by kernel_rfl
theorem graph_Graph_Ends_ok : compF Try.prog (quietOf ctx) graph_Graph_Ends_A .own Try.f44 = some graph_Graph_Ends_I := by kernel_rfl
theorem graph_Graph_Beside_ok : compF Try.prog (quietOf ctx) graph_Graph_Beside_A (.fz false) Try.f45 = some graph_Graph_Beside_I := by kernel_rfl
theorem graph_Graph_Part_ok : compF Try.prog (quietOf ctx) graph_Graph_Part_A (.fz false) Try.f46 = some graph_Graph_Part_I := by kernel_rfl
theorem graph_Graph_Len_ok : compF Try.prog (quietOf ctx) graph_Graph_Len_A (.fz false) Try.f47 = some graph_Graph_Len_I := by kernel_rfl
theorem graph_Graph_Path_ok : compF Try.prog (quietOf ctx) graph_Graph_Path_A (.fz false) Try.f49 = some graph_Graph_Path_I := by kernel_rfl
theorem graph_Graph_Next_ok : compF Try.prog (quietOf ctx) graph_Graph_Next_A (.fz false) Try.f52 = some graph_Graph_Next_I := by kernel_rfl
theorem graph_Graph_Point_ok : compF Try.prog (quietOf ctx) graph_Graph_Point_A (.fz false) Try.f53 = some graph_Graph_Point_I := by kernel_rfl
theorem slices_IndexFunc_End_ok : compF Try.prog (quietOf ctx) slices_IndexFunc_End_A (.fz false) Try.f58 = some slices_IndexFunc_End_I := by kernel_rfl
theorem r01_Rise_ok : compF Try.prog (quietOf ctx) r01_Rise_A (.fz false) Try.f60 = some r01_Rise_I := by kernel_rfl
theorem slices_Clone_int_ok : compF Try.prog (quietOf ctx) slices_Clone_int_A .own Try.f62 = some slices_Clone_int_I := by kernel_rfl
theorem graph_Graph_node_ok : compF Try.prog (quietOf ctx) graph_Graph_node_A (.fz false) Try.f76 = some graph_Graph_node_I := by kernel_rfl
theorem slices_DeleteFunc_End_ok : compF Try.prog (quietOf ctx) slices_DeleteFunc_End_A .ref Try.f77 = some slices_DeleteFunc_End_I := by kernel_rfl
theorem graph_Graph_Around_1_ok : compF Try.prog (quietOf ctx) graph_Graph_Around_1_A (.fz false) Try.f78 = some graph_Graph_Around_1_I := by kernel_rfl
theorem graph_Graph_at_ok : compF Try.prog (quietOf ctx) graph_Graph_at_A (.fz false) Try.f80 = some graph_Graph_at_I := by kernel_rfl
theorem slices_Sort_int_ok : compF Try.prog (quietOf ctx) slices_Sort_int_A .ref Try.f81 = some slices_Sort_int_I := by kernel_rfl
theorem slices_Compact_int_ok : compF Try.prog (quietOf ctx) slices_Compact_int_A .ref Try.f82 = some slices_Compact_int_I := by kernel_rfl
theorem graph_Graph_section_ok : compF Try.prog (quietOf ctx) graph_Graph_section_A (.fz false) Try.f83 = some graph_Graph_section_I := by kernel_rfl
theorem slices_IndexFunc_int_ok : compF Try.prog (quietOf ctx) slices_IndexFunc_int_A (.fz false) Try.f84 = some slices_IndexFunc_int_I := by kernel_rfl
theorem graph_Graph_Part_1_ok : compF Try.prog (quietOf ctx) graph_Graph_Part_1_A (.fz false) Try.f85 = some graph_Graph_Part_1_I := by kernel_rfl
theorem slices_Contains_int_ok : compF Try.prog (quietOf ctx) slices_Contains_int_A (.fz false) Try.f86 = some slices_Contains_int_I := by kernel_rfl
theorem graph_Graph_way_ok : compF Try.prog (quietOf ctx) graph_Graph_way_A (.fz false) Try.f87 = some graph_Graph_way_I := by kernel_rfl
theorem graph_stands_ok : compF Try.prog (quietOf ctx) graph_stands_A (.fz false) Try.f96 = some graph_stands_I := by kernel_rfl
theorem graph_Graph_Next_1_ok : compF Try.prog (quietOf ctx) graph_Graph_Next_1_A (.fz false) Try.f97 = some graph_Graph_Next_1_I := by kernel_rfl
theorem slices_IndexFunc_Point_ok : compF Try.prog (quietOf ctx) slices_IndexFunc_Point_A (.fz false) Try.f98 = some slices_IndexFunc_Point_I := by kernel_rfl
theorem graph_Graph_Point_1_ok : compF Try.prog (quietOf ctx) graph_Graph_Point_1_A (.fz false) Try.f99 = some graph_Graph_Point_1_I := by kernel_rfl
theorem slices_Index_int_ok : compF Try.prog (quietOf ctx) slices_Index_int_A (.fz false) Try.f100 = some slices_Index_int_I := by kernel_rfl
theorem slices_pdqsortOrdered_int_ok : compF Try.prog (quietOf ctx) slices_pdqsortOrdered_int_A .ref Try.f107 = some slices_pdqsortOrdered_int_I := by kernel_rfl
theorem math_bits_Len_ok : compF Try.prog (quietOf ctx) math_bits_Len_A (.fz false) Try.f108 = some math_bits_Len_I := by kernel_rfl
theorem graph_Graph_way_1_ok : compF Try.prog (quietOf ctx) graph_Graph_way_1_A (.fz false) Try.f109 = some graph_Graph_way_1_I := by kernel_rfl
theorem graph_Graph_need_ok : compF Try.prog (quietOf ctx) graph_Graph_need_A (.fz false) Try.f110 = some graph_Graph_need_I := by kernel_rfl
theorem slices_insertionSortOrdered_int_ok : compF Try.prog (quietOf ctx) slices_insertionSortOrdered_int_A .ref Try.f115 = some slices_insertionSortOrdered_int_I := by kernel_rfl
theorem cmp_Less_int_ok : compF Try.prog (quietOf ctx) cmp_Less_int_A (.fz false) Try.f121 = some cmp_Less_int_I := by kernel_rfl
theorem math_bits_Len64_ok : compF Try.prog (quietOf ctx) math_bits_Len64_A (.fz false) Try.f125 = some math_bits_Len64_I := by kernel_rfl
theorem math_bits_Len32_ok : compF Try.prog (quietOf ctx) math_bits_Len32_A (.fz false) Try.f124 = some math_bits_Len32_I := by kernel_rfl
theorem slices_Concat_End_ok : compF Try.prog (quietOf ctx) slices_Concat_End_A (.fz false) Try.f79 = some slices_Concat_End_I := by kernel_rfl
theorem slices_Grow_End_ok : compF Try.prog (quietOf ctx) slices_Grow_End_A .ref Try.f106 = some slices_Grow_End_I := by kernel_rfl
theorem ctx_ok : CtxOk Try.prog ctx :=
  ctxOk_of (by kernel_rfl) (
    .cons ⟨_, _, Try.func14, l05_GraphNil_ok⟩ (
    .cons ⟨_, _, Try.func18, graph_New_ok⟩ (
    .cons ⟨_, _, Try.func27, r01_Ints_ok⟩ (
    .cons ⟨_, _, Try.func40, l05_joins_ok⟩ (
    .cons ⟨_, _, Try.func41, graph_Graph_Around_ok⟩ (
    .cons ⟨_, _, Try.func42, r01_Has_ok⟩ (
    .cons ⟨_, _, Try.func43, graph_Graph_Near_ok⟩ (
    .cons ⟨_, _, Try.func44, graph_Graph_Ends_ok⟩ (
    .cons ⟨_, _, Try.func45, graph_Graph_Beside_ok⟩ (
    .cons ⟨_, _, Try.func46, graph_Graph_Part_ok⟩ (
    .cons ⟨_, _, Try.func47, graph_Graph_Len_ok⟩ (
    .cons ⟨_, _, Try.func49, graph_Graph_Path_ok⟩ (
    .cons ⟨_, _, Try.func52, graph_Graph_Next_ok⟩ (
    .cons ⟨_, _, Try.func53, graph_Graph_Point_ok⟩ (
    .cons ⟨_, _, Try.func58, slices_IndexFunc_End_ok⟩ (
    .cons ⟨_, _, Try.func60, r01_Rise_ok⟩ (
    .cons ⟨_, _, Try.func62, slices_Clone_int_ok⟩ (
    .cons ⟨_, _, Try.func76, graph_Graph_node_ok⟩ (
    .cons ⟨_, _, Try.func77, slices_DeleteFunc_End_ok⟩ (
    .cons ⟨_, _, Try.func78, graph_Graph_Around_1_ok⟩ (
    .cons ⟨_, _, Try.func80, graph_Graph_at_ok⟩ (
    .cons ⟨_, _, Try.func81, slices_Sort_int_ok⟩ (
    .cons ⟨_, _, Try.func82, slices_Compact_int_ok⟩ (
    .cons ⟨_, _, Try.func83, graph_Graph_section_ok⟩ (
    .cons ⟨_, _, Try.func84, slices_IndexFunc_int_ok⟩ (
    .cons ⟨_, _, Try.func85, graph_Graph_Part_1_ok⟩ (
    .cons ⟨_, _, Try.func86, slices_Contains_int_ok⟩ (
    .cons ⟨_, _, Try.func87, graph_Graph_way_ok⟩ (
    .cons ⟨_, _, Try.func96, graph_stands_ok⟩ (
    .cons ⟨_, _, Try.func97, graph_Graph_Next_1_ok⟩ (
    .cons ⟨_, _, Try.func98, slices_IndexFunc_Point_ok⟩ (
    .cons ⟨_, _, Try.func99, graph_Graph_Point_1_ok⟩ (
    .cons ⟨_, _, Try.func100, slices_Index_int_ok⟩ (
    .cons ⟨_, _, Try.func107, slices_pdqsortOrdered_int_ok⟩ (
    .cons ⟨_, _, Try.func108, math_bits_Len_ok⟩ (
    .cons ⟨_, _, Try.func109, graph_Graph_way_1_ok⟩ (
    .cons ⟨_, _, Try.func110, graph_Graph_need_ok⟩ (
    .cons ⟨_, _, Try.func115, slices_insertionSortOrdered_int_ok⟩ (
    .cons ⟨_, _, Try.func121, cmp_Less_int_ok⟩ (
    .cons ⟨_, _, Try.func125, math_bits_Len64_ok⟩ (
    .cons ⟨_, _, Try.func124, math_bits_Len32_ok⟩ (
    .cons ⟨_, _, Try.func79, slices_Concat_End_ok⟩ (
    .cons ⟨_, _, Try.func106, slices_Grow_End_ok⟩ (
    .nil))))))))))))))))))))))))))))))))))))))))))))
noncomputable def l05_GraphNil_F (st : Bool) (H : Heap) (xs : List CV) : Option (CV × Heap) := fzE ctx false 3 l05_GraphNil_C [.tmp 6] st H xs
theorem l05_GraphNil_F_eq (st : Bool) (H : Heap) (xs : List CV) : l05_GraphNil_F st H xs = if xs.length = 3 then (eval ctx l05_GraphNil_C (enterC 0 xs) ⟨[], []⟩).bind (fzOut [.tmp 6] st false H) else none := (rfl)
theorem l05_GraphNil_call (cap args : List CV) (H : Heap) : call ctx (.fn (.func 14) [] cap) args H = (snapL H false false (args ++ cap)).bind (l05_GraphNil_F (CV.refs (args ++ cap)) H) := fz_call rfl (show ctx.info 14 = some l05_GraphNil_I by kernel_rfl) cap args H
noncomputable def graph_New_F (st : Bool) (H : Heap) (xs : List CV) : Option (CV × Heap) := fzE ctx false 1 graph_New_C [.tmp 2] st H xs
theorem graph_New_F_eq (st : Bool) (H : Heap) (xs : List CV) : graph_New_F st H xs = if xs.length = 1 then (eval ctx graph_New_C (enterC 0 xs) ⟨[], []⟩).bind (fzOut [.tmp 2] st false H) else none := (rfl)
theorem graph_New_call (cap args : List CV) (H : Heap) : call ctx (.fn (.func 18) [] cap) args H = (snapL H false false (args ++ cap)).bind (graph_New_F (CV.refs (args ++ cap)) H) := fz_call rfl (show ctx.info 18 = some graph_New_I by kernel_rfl) cap args H
noncomputable def r01_Ints_F (st : Bool) (H : Heap) (xs : List CV) : Option (CV × Heap) := fzE ctx false 2 r01_Ints_C [.tmp 4] st H xs
theorem r01_Ints_F_eq (st : Bool) (H : Heap) (xs : List CV) : r01_Ints_F st H xs = if xs.length = 2 then (eval ctx r01_Ints_C (enterC 0 xs) ⟨[], []⟩).bind (fzOut [.tmp 4] st false H) else none := (rfl)
theorem r01_Ints_call (cap args : List CV) (H : Heap) : call ctx (.fn (.func 27) [] cap) args H = (snapL H false false (args ++ cap)).bind (r01_Ints_F (CV.refs (args ++ cap)) H) := fz_call rfl (show ctx.info 27 = some r01_Ints_I by kernel_rfl) cap args H
noncomputable def l05_joins_F (st : Bool) (H : Heap) (xs : List CV) : Option (CV × Heap) := fzE ctx false 0 l05_joins_C [.tmp 0] st H xs
theorem l05_joins_F_eq (st : Bool) (H : Heap) (xs : List CV) : l05_joins_F st H xs = if xs.length = 0 then (eval ctx l05_joins_C (enterC 0 xs) ⟨[], []⟩).bind (fzOut [.tmp 0] st false H) else none := (rfl)
theorem l05_joins_call (cap args : List CV) (H : Heap) : call ctx (.fn (.func 40) [] cap) args H = (snapL H false false (args ++ cap)).bind (l05_joins_F (CV.refs (args ++ cap)) H) := fz_call rfl (show ctx.info 40 = some l05_joins_I by kernel_rfl) cap args H
noncomputable def graph_Graph_Around_F (st : Bool) (H : Heap) (xs : List CV) : Option (CV × Heap) := fzE ctx false 2 graph_Graph_Around_C [.tmp 4] st H xs
theorem graph_Graph_Around_F_eq (st : Bool) (H : Heap) (xs : List CV) : graph_Graph_Around_F st H xs = if xs.length = 2 then (eval ctx graph_Graph_Around_C (enterC 0 xs) ⟨[], []⟩).bind (fzOut [.tmp 4] st false H) else none := (rfl)
theorem graph_Graph_Around_call (cap args : List CV) (H : Heap) : call ctx (.fn (.func 41) [] cap) args H = (snapL H false false (args ++ cap)).bind (graph_Graph_Around_F (CV.refs (args ++ cap)) H) := fz_call rfl (show ctx.info 41 = some graph_Graph_Around_I by kernel_rfl) cap args H
noncomputable def r01_Has_F (st : Bool) (H : Heap) (xs : List CV) : Option (CV × Heap) := fzE ctx false 2 r01_Has_C [.tmp 4] st H xs
theorem r01_Has_F_eq (st : Bool) (H : Heap) (xs : List CV) : r01_Has_F st H xs = if xs.length = 2 then (eval ctx r01_Has_C (enterC 0 xs) ⟨[], []⟩).bind (fzOut [.tmp 4] st false H) else none := (rfl)
theorem r01_Has_call (cap args : List CV) (H : Heap) : call ctx (.fn (.func 42) [] cap) args H = (snapL H false false (args ++ cap)).bind (r01_Has_F (CV.refs (args ++ cap)) H) := fz_call rfl (show ctx.info 42 = some r01_Has_I by kernel_rfl) cap args H
noncomputable def graph_Graph_Near_F (st : Bool) (H : Heap) (xs : List CV) : Option (CV × Heap) := fzE ctx false 2 graph_Graph_Near_C [.tmp 4] st H xs
theorem graph_Graph_Near_F_eq (st : Bool) (H : Heap) (xs : List CV) : graph_Graph_Near_F st H xs = if xs.length = 2 then (eval ctx graph_Graph_Near_C (enterC 0 xs) ⟨[], []⟩).bind (fzOut [.tmp 4] st false H) else none := (rfl)
theorem graph_Graph_Near_call (cap args : List CV) (H : Heap) : call ctx (.fn (.func 43) [] cap) args H = (snapL H false false (args ++ cap)).bind (graph_Graph_Near_F (CV.refs (args ++ cap)) H) := fz_call rfl (show ctx.info 43 = some graph_Graph_Near_I by kernel_rfl) cap args H
noncomputable def graph_Graph_Ends_F (st : Bool) (H : Heap) (xs : List CV) : Option (CV × Heap) := oE ctx 2 graph_Graph_Ends_C [.tmp 4] st H xs
theorem graph_Graph_Ends_F_eq (st : Bool) (H : Heap) (xs : List CV) : graph_Graph_Ends_F st H xs = if xs.length = 2 then (eval ctx graph_Graph_Ends_C (enterC 0 xs) ⟨[], []⟩).bind (ownOut [.tmp 4] st H) else none := (rfl)
theorem graph_Graph_Ends_call (cap args : List CV) (H : Heap) : call ctx (.fn (.func 44) [] cap) args H = (snapL H false false (args ++ cap)).bind (graph_Graph_Ends_F (CV.refs (args ++ cap)) H) := own_call rfl (show ctx.info 44 = some graph_Graph_Ends_I by kernel_rfl) cap args H
noncomputable def graph_Graph_Beside_F (st : Bool) (H : Heap) (xs : List CV) : Option (CV × Heap) := fzE ctx false 2 graph_Graph_Beside_C [.tmp 4] st H xs
theorem graph_Graph_Beside_F_eq (st : Bool) (H : Heap) (xs : List CV) : graph_Graph_Beside_F st H xs = if xs.length = 2 then (eval ctx graph_Graph_Beside_C (enterC 0 xs) ⟨[], []⟩).bind (fzOut [.tmp 4] st false H) else none := (rfl)
theorem graph_Graph_Beside_call (cap args : List CV) (H : Heap) : call ctx (.fn (.func 45) [] cap) args H = (snapL H false false (args ++ cap)).bind (graph_Graph_Beside_F (CV.refs (args ++ cap)) H) := fz_call rfl (show ctx.info 45 = some graph_Graph_Beside_I by kernel_rfl) cap args H
noncomputable def graph_Graph_Part_F (st : Bool) (H : Heap) (xs : List CV) : Option (CV × Heap) := fzE ctx false 2 graph_Graph_Part_C [.tmp 4] st H xs
theorem graph_Graph_Part_F_eq (st : Bool) (H : Heap) (xs : List CV) : graph_Graph_Part_F st H xs = if xs.length = 2 then (eval ctx graph_Graph_Part_C (enterC 0 xs) ⟨[], []⟩).bind (fzOut [.tmp 4] st false H) else none := (rfl)
theorem graph_Graph_Part_call (cap args : List CV) (H : Heap) : call ctx (.fn (.func 46) [] cap) args H = (snapL H false false (args ++ cap)).bind (graph_Graph_Part_F (CV.refs (args ++ cap)) H) := fz_call rfl (show ctx.info 46 = some graph_Graph_Part_I by kernel_rfl) cap args H
noncomputable def graph_Graph_Len_F (st : Bool) (H : Heap) (xs : List CV) : Option (CV × Heap) := fzE ctx false 2 graph_Graph_Len_C [.tmp 4] st H xs
theorem graph_Graph_Len_F_eq (st : Bool) (H : Heap) (xs : List CV) : graph_Graph_Len_F st H xs = if xs.length = 2 then (eval ctx graph_Graph_Len_C (enterC 0 xs) ⟨[], []⟩).bind (fzOut [.tmp 4] st false H) else none := (rfl)
theorem graph_Graph_Len_call (cap args : List CV) (H : Heap) : call ctx (.fn (.func 47) [] cap) args H = (snapL H false false (args ++ cap)).bind (graph_Graph_Len_F (CV.refs (args ++ cap)) H) := fz_call rfl (show ctx.info 47 = some graph_Graph_Len_I by kernel_rfl) cap args H
noncomputable def graph_Graph_Path_F (st : Bool) (H : Heap) (xs : List CV) : Option (CV × Heap) := fzE ctx false 2 graph_Graph_Path_C [.tmp 4, .tmp 5] st H xs
theorem graph_Graph_Path_F_eq (st : Bool) (H : Heap) (xs : List CV) : graph_Graph_Path_F st H xs = if xs.length = 2 then (eval ctx graph_Graph_Path_C (enterC 0 xs) ⟨[], []⟩).bind (fzOut [.tmp 4, .tmp 5] st false H) else none := (rfl)
theorem graph_Graph_Path_call (cap args : List CV) (H : Heap) : call ctx (.fn (.func 49) [] cap) args H = (snapL H false false (args ++ cap)).bind (graph_Graph_Path_F (CV.refs (args ++ cap)) H) := fz_call rfl (show ctx.info 49 = some graph_Graph_Path_I by kernel_rfl) cap args H
noncomputable def graph_Graph_Next_F (st : Bool) (H : Heap) (xs : List CV) : Option (CV × Heap) := fzE ctx false 3 graph_Graph_Next_C [.cell 6 true 2, .tmp 7] st H xs
theorem graph_Graph_Next_F_eq (st : Bool) (H : Heap) (xs : List CV) : graph_Graph_Next_F st H xs = if xs.length = 3 then (eval ctx graph_Graph_Next_C (enterC 0 xs) ⟨[], []⟩).bind (fzOut [.cell 6 true 2, .tmp 7] st false H) else none := (rfl)
theorem graph_Graph_Next_call (cap args : List CV) (H : Heap) : call ctx (.fn (.func 52) [] cap) args H = (snapL H false false (args ++ cap)).bind (graph_Graph_Next_F (CV.refs (args ++ cap)) H) := fz_call rfl (show ctx.info 52 = some graph_Graph_Next_I by kernel_rfl) cap args H
noncomputable def graph_Graph_Point_F (st : Bool) (H : Heap) (xs : List CV) : Option (CV × Heap) := fzE ctx false 2 graph_Graph_Point_C [.tmp 4] st H xs
theorem graph_Graph_Point_F_eq (st : Bool) (H : Heap) (xs : List CV) : graph_Graph_Point_F st H xs = if xs.length = 2 then (eval ctx graph_Graph_Point_C (enterC 0 xs) ⟨[], []⟩).bind (fzOut [.tmp 4] st false H) else none := (rfl)
theorem graph_Graph_Point_call (cap args : List CV) (H : Heap) : call ctx (.fn (.func 53) [] cap) args H = (snapL H false false (args ++ cap)).bind (graph_Graph_Point_F (CV.refs (args ++ cap)) H) := fz_call rfl (show ctx.info 53 = some graph_Graph_Point_I by kernel_rfl) cap args H
noncomputable def slices_IndexFunc_End_F (st : Bool) (H : Heap) (xs : List CV) : Option (CV × Heap) := fzE ctx false 2 slices_IndexFunc_End_C [.tmp 4] st H xs
theorem slices_IndexFunc_End_F_eq (st : Bool) (H : Heap) (xs : List CV) : slices_IndexFunc_End_F st H xs = if xs.length = 2 then (eval ctx slices_IndexFunc_End_C (enterC 0 xs) ⟨[], []⟩).bind (fzOut [.tmp 4] st false H) else none := (rfl)
theorem slices_IndexFunc_End_call (cap args : List CV) (H : Heap) : call ctx (.fn (.func 58) [] cap) args H = (snapL H false false (args ++ cap)).bind (slices_IndexFunc_End_F (CV.refs (args ++ cap)) H) := fz_call rfl (show ctx.info 58 = some slices_IndexFunc_End_I by kernel_rfl) cap args H
noncomputable def r01_Rise_F (st : Bool) (H : Heap) (xs : List CV) : Option (CV × Heap) := fzE ctx false 1 r01_Rise_C [.tmp 2] st H xs
theorem r01_Rise_F_eq (st : Bool) (H : Heap) (xs : List CV) : r01_Rise_F st H xs = if xs.length = 1 then (eval ctx r01_Rise_C (enterC 0 xs) ⟨[], []⟩).bind (fzOut [.tmp 2] st false H) else none := (rfl)
theorem r01_Rise_call (cap args : List CV) (H : Heap) : call ctx (.fn (.func 60) [] cap) args H = (snapL H false false (args ++ cap)).bind (r01_Rise_F (CV.refs (args ++ cap)) H) := fz_call rfl (show ctx.info 60 = some r01_Rise_I by kernel_rfl) cap args H
noncomputable def slices_Clone_int_F (st : Bool) (H : Heap) (xs : List CV) : Option (CV × Heap) := oE ctx 1 slices_Clone_int_C [.tmp 2] st H xs
theorem slices_Clone_int_F_eq (st : Bool) (H : Heap) (xs : List CV) : slices_Clone_int_F st H xs = if xs.length = 1 then (eval ctx slices_Clone_int_C (enterC 0 xs) ⟨[], []⟩).bind (ownOut [.tmp 2] st H) else none := (rfl)
theorem slices_Clone_int_call (cap args : List CV) (H : Heap) : call ctx (.fn (.func 62) [] cap) args H = (snapL H false false (args ++ cap)).bind (slices_Clone_int_F (CV.refs (args ++ cap)) H) := own_call rfl (show ctx.info 62 = some slices_Clone_int_I by kernel_rfl) cap args H
noncomputable def graph_Graph_node_F (st : Bool) (H : Heap) (xs : List CV) : Option (CV × Heap) := fzE ctx false 2 graph_Graph_node_C [.tmp 4, .tmp 5] st H xs
theorem graph_Graph_node_F_eq (st : Bool) (H : Heap) (xs : List CV) : graph_Graph_node_F st H xs = if xs.length = 2 then (eval ctx graph_Graph_node_C (enterC 0 xs) ⟨[], []⟩).bind (fzOut [.tmp 4, .tmp 5] st false H) else none := (rfl)
theorem graph_Graph_node_call (cap args : List CV) (H : Heap) : call ctx (.fn (.func 76) [] cap) args H = (snapL H false false (args ++ cap)).bind (graph_Graph_node_F (CV.refs (args ++ cap)) H) := fz_call rfl (show ctx.info 76 = some graph_Graph_node_I by kernel_rfl) cap args H
noncomputable def slices_DeleteFunc_End_F (bx : List (Nat × List CV)) (bl : List Blk) (xs : List CV) : Option (CV × Heap) := if xs.length = 2 then (eval ctx slices_DeleteFunc_End_C (enterC 0 xs) ⟨[], bl⟩).bind (refOut [.tmp 4] bx) else none
theorem slices_DeleteFunc_End_F_eq (bx : List (Nat × List CV)) (bl : List Blk) (xs : List CV) : slices_DeleteFunc_End_F bx bl xs = if xs.length = 2 then (eval ctx slices_DeleteFunc_End_C (enterC 0 xs) ⟨[], bl⟩).bind (refOut [.tmp 4] bx) else none := (rfl)
theorem slices_DeleteFunc_End_call (cap args : List CV) (bx : List (Nat × List CV)) (bl : List Blk) : call ctx (.fn (.func 77) [] cap) args ⟨bx, bl⟩ = if CV.locs (args ++ cap) then none else slices_DeleteFunc_End_F bx bl (args ++ cap) := ref_call rfl (show ctx.info 77 = some slices_DeleteFunc_End_I by kernel_rfl) cap args bx bl
noncomputable def graph_Graph_Around_1_F (st : Bool) (H : Heap) (xs : List CV) : Option (CV × Heap) := fzE ctx false 2 graph_Graph_Around_1_C [.tmp 3] st H xs
theorem graph_Graph_Around_1_F_eq (st : Bool) (H : Heap) (xs : List CV) : graph_Graph_Around_1_F st H xs = if xs.length = 2 then (eval ctx graph_Graph_Around_1_C (enterC 0 xs) ⟨[], []⟩).bind (fzOut [.tmp 3] st false H) else none := (rfl)
theorem graph_Graph_Around_1_call (cap args : List CV) (H : Heap) : call ctx (.fn (.func 78) [] cap) args H = (snapL H false false (args ++ cap)).bind (graph_Graph_Around_1_F (CV.refs (args ++ cap)) H) := fz_call rfl (show ctx.info 78 = some graph_Graph_Around_1_I by kernel_rfl) cap args H
noncomputable def graph_Graph_at_F (st : Bool) (H : Heap) (xs : List CV) : Option (CV × Heap) := fzE ctx false 3 graph_Graph_at_C [.tmp 6] st H xs
theorem graph_Graph_at_F_eq (st : Bool) (H : Heap) (xs : List CV) : graph_Graph_at_F st H xs = if xs.length = 3 then (eval ctx graph_Graph_at_C (enterC 0 xs) ⟨[], []⟩).bind (fzOut [.tmp 6] st false H) else none := (rfl)
theorem graph_Graph_at_call (cap args : List CV) (H : Heap) : call ctx (.fn (.func 80) [] cap) args H = (snapL H false false (args ++ cap)).bind (graph_Graph_at_F (CV.refs (args ++ cap)) H) := fz_call rfl (show ctx.info 80 = some graph_Graph_at_I by kernel_rfl) cap args H
noncomputable def slices_Sort_int_F (bx : List (Nat × List CV)) (bl : List Blk) (xs : List CV) : Option (CV × Heap) := if xs.length = 1 then (eval ctx slices_Sort_int_C (enterC 0 xs) ⟨[], bl⟩).bind (refOut [] bx) else none
theorem slices_Sort_int_F_eq (bx : List (Nat × List CV)) (bl : List Blk) (xs : List CV) : slices_Sort_int_F bx bl xs = if xs.length = 1 then (eval ctx slices_Sort_int_C (enterC 0 xs) ⟨[], bl⟩).bind (refOut [] bx) else none := (rfl)
theorem slices_Sort_int_call (cap args : List CV) (bx : List (Nat × List CV)) (bl : List Blk) : call ctx (.fn (.func 81) [] cap) args ⟨bx, bl⟩ = if CV.locs (args ++ cap) then none else slices_Sort_int_F bx bl (args ++ cap) := ref_call rfl (show ctx.info 81 = some slices_Sort_int_I by kernel_rfl) cap args bx bl
noncomputable def slices_Compact_int_F (bx : List (Nat × List CV)) (bl : List Blk) (xs : List CV) : Option (CV × Heap) := if xs.length = 1 then (eval ctx slices_Compact_int_C (enterC 0 xs) ⟨[], bl⟩).bind (refOut [.tmp 2] bx) else none
theorem slices_Compact_int_F_eq (bx : List (Nat × List CV)) (bl : List Blk) (xs : List CV) : slices_Compact_int_F bx bl xs = if xs.length = 1 then (eval ctx slices_Compact_int_C (enterC 0 xs) ⟨[], bl⟩).bind (refOut [.tmp 2] bx) else none := (rfl)
theorem slices_Compact_int_call (cap args : List CV) (bx : List (Nat × List CV)) (bl : List Blk) : call ctx (.fn (.func 82) [] cap) args ⟨bx, bl⟩ = if CV.locs (args ++ cap) then none else slices_Compact_int_F bx bl (args ++ cap) := ref_call rfl (show ctx.info 82 = some slices_Compact_int_I by kernel_rfl) cap args bx bl
noncomputable def graph_Graph_section_F (st : Bool) (H : Heap) (xs : List CV) : Option (CV × Heap) := fzE ctx false 2 graph_Graph_section_C [.cell 4 true 3, .tmp 5] st H xs
theorem graph_Graph_section_F_eq (st : Bool) (H : Heap) (xs : List CV) : graph_Graph_section_F st H xs = if xs.length = 2 then (eval ctx graph_Graph_section_C (enterC 0 xs) ⟨[], []⟩).bind (fzOut [.cell 4 true 3, .tmp 5] st false H) else none := (rfl)
theorem graph_Graph_section_call (cap args : List CV) (H : Heap) : call ctx (.fn (.func 83) [] cap) args H = (snapL H false false (args ++ cap)).bind (graph_Graph_section_F (CV.refs (args ++ cap)) H) := fz_call rfl (show ctx.info 83 = some graph_Graph_section_I by kernel_rfl) cap args H
noncomputable def slices_IndexFunc_int_F (st : Bool) (H : Heap) (xs : List CV) : Option (CV × Heap) := fzE ctx false 2 slices_IndexFunc_int_C [.tmp 4] st H xs
theorem slices_IndexFunc_int_F_eq (st : Bool) (H : Heap) (xs : List CV) : slices_IndexFunc_int_F st H xs = if xs.length = 2 then (eval ctx slices_IndexFunc_int_C (enterC 0 xs) ⟨[], []⟩).bind (fzOut [.tmp 4] st false H) else none := (rfl)
theorem slices_IndexFunc_int_call (cap args : List CV) (H : Heap) : call ctx (.fn (.func 84) [] cap) args H = (snapL H false false (args ++ cap)).bind (slices_IndexFunc_int_F (CV.refs (args ++ cap)) H) := fz_call rfl (show ctx.info 84 = some slices_IndexFunc_int_I by kernel_rfl) cap args H
noncomputable def graph_Graph_Part_1_F (st : Bool) (H : Heap) (xs : List CV) : Option (CV × Heap) := fzE ctx false 2 graph_Graph_Part_1_C [.tmp 3] st H xs
theorem graph_Graph_Part_1_F_eq (st : Bool) (H : Heap) (xs : List CV) : graph_Graph_Part_1_F st H xs = if xs.length = 2 then (eval ctx graph_Graph_Part_1_C (enterC 0 xs) ⟨[], []⟩).bind (fzOut [.tmp 3] st false H) else none := (rfl)
theorem graph_Graph_Part_1_call (cap args : List CV) (H : Heap) : call ctx (.fn (.func 85) [] cap) args H = (snapL H false false (args ++ cap)).bind (graph_Graph_Part_1_F (CV.refs (args ++ cap)) H) := fz_call rfl (show ctx.info 85 = some graph_Graph_Part_1_I by kernel_rfl) cap args H
noncomputable def slices_Contains_int_F (st : Bool) (H : Heap) (xs : List CV) : Option (CV × Heap) := fzE ctx false 2 slices_Contains_int_C [.tmp 4] st H xs
theorem slices_Contains_int_F_eq (st : Bool) (H : Heap) (xs : List CV) : slices_Contains_int_F st H xs = if xs.length = 2 then (eval ctx slices_Contains_int_C (enterC 0 xs) ⟨[], []⟩).bind (fzOut [.tmp 4] st false H) else none := (rfl)
theorem slices_Contains_int_call (cap args : List CV) (H : Heap) : call ctx (.fn (.func 86) [] cap) args H = (snapL H false false (args ++ cap)).bind (slices_Contains_int_F (CV.refs (args ++ cap)) H) := fz_call rfl (show ctx.info 86 = some slices_Contains_int_I by kernel_rfl) cap args H
noncomputable def graph_Graph_way_F (st : Bool) (H : Heap) (xs : List CV) : Option (CV × Heap) := fzE ctx false 3 graph_Graph_way_C [.tmp 6, .tmp 7] st H xs
theorem graph_Graph_way_F_eq (st : Bool) (H : Heap) (xs : List CV) : graph_Graph_way_F st H xs = if xs.length = 3 then (eval ctx graph_Graph_way_C (enterC 0 xs) ⟨[], []⟩).bind (fzOut [.tmp 6, .tmp 7] st false H) else none := (rfl)
theorem graph_Graph_way_call (cap args : List CV) (H : Heap) : call ctx (.fn (.func 87) [] cap) args H = (snapL H false false (args ++ cap)).bind (graph_Graph_way_F (CV.refs (args ++ cap)) H) := fz_call rfl (show ctx.info 87 = some graph_Graph_way_I by kernel_rfl) cap args H
noncomputable def graph_stands_F (st : Bool) (H : Heap) (xs : List CV) : Option (CV × Heap) := fzE ctx false 2 graph_stands_C [.tmp 4] st H xs
theorem graph_stands_F_eq (st : Bool) (H : Heap) (xs : List CV) : graph_stands_F st H xs = if xs.length = 2 then (eval ctx graph_stands_C (enterC 0 xs) ⟨[], []⟩).bind (fzOut [.tmp 4] st false H) else none := (rfl)
theorem graph_stands_call (cap args : List CV) (H : Heap) : call ctx (.fn (.func 96) [] cap) args H = (snapL H false false (args ++ cap)).bind (graph_stands_F (CV.refs (args ++ cap)) H) := fz_call rfl (show ctx.info 96 = some graph_stands_I by kernel_rfl) cap args H
noncomputable def graph_Graph_Next_1_F (st : Bool) (H : Heap) (xs : List CV) : Option (CV × Heap) := fzE ctx false 2 graph_Graph_Next_1_C [.tmp 3] st H xs
theorem graph_Graph_Next_1_F_eq (st : Bool) (H : Heap) (xs : List CV) : graph_Graph_Next_1_F st H xs = if xs.length = 2 then (eval ctx graph_Graph_Next_1_C (enterC 0 xs) ⟨[], []⟩).bind (fzOut [.tmp 3] st false H) else none := (rfl)
theorem graph_Graph_Next_1_call (cap args : List CV) (H : Heap) : call ctx (.fn (.func 97) [] cap) args H = (snapL H false false (args ++ cap)).bind (graph_Graph_Next_1_F (CV.refs (args ++ cap)) H) := fz_call rfl (show ctx.info 97 = some graph_Graph_Next_1_I by kernel_rfl) cap args H
noncomputable def slices_IndexFunc_Point_F (st : Bool) (H : Heap) (xs : List CV) : Option (CV × Heap) := fzE ctx false 2 slices_IndexFunc_Point_C [.tmp 4] st H xs
theorem slices_IndexFunc_Point_F_eq (st : Bool) (H : Heap) (xs : List CV) : slices_IndexFunc_Point_F st H xs = if xs.length = 2 then (eval ctx slices_IndexFunc_Point_C (enterC 0 xs) ⟨[], []⟩).bind (fzOut [.tmp 4] st false H) else none := (rfl)
theorem slices_IndexFunc_Point_call (cap args : List CV) (H : Heap) : call ctx (.fn (.func 98) [] cap) args H = (snapL H false false (args ++ cap)).bind (slices_IndexFunc_Point_F (CV.refs (args ++ cap)) H) := fz_call rfl (show ctx.info 98 = some slices_IndexFunc_Point_I by kernel_rfl) cap args H
noncomputable def graph_Graph_Point_1_F (st : Bool) (H : Heap) (xs : List CV) : Option (CV × Heap) := fzE ctx false 2 graph_Graph_Point_1_C [.tmp 3] st H xs
theorem graph_Graph_Point_1_F_eq (st : Bool) (H : Heap) (xs : List CV) : graph_Graph_Point_1_F st H xs = if xs.length = 2 then (eval ctx graph_Graph_Point_1_C (enterC 0 xs) ⟨[], []⟩).bind (fzOut [.tmp 3] st false H) else none := (rfl)
theorem graph_Graph_Point_1_call (cap args : List CV) (H : Heap) : call ctx (.fn (.func 99) [] cap) args H = (snapL H false false (args ++ cap)).bind (graph_Graph_Point_1_F (CV.refs (args ++ cap)) H) := fz_call rfl (show ctx.info 99 = some graph_Graph_Point_1_I by kernel_rfl) cap args H
noncomputable def slices_Index_int_F (st : Bool) (H : Heap) (xs : List CV) : Option (CV × Heap) := fzE ctx false 2 slices_Index_int_C [.tmp 4] st H xs
theorem slices_Index_int_F_eq (st : Bool) (H : Heap) (xs : List CV) : slices_Index_int_F st H xs = if xs.length = 2 then (eval ctx slices_Index_int_C (enterC 0 xs) ⟨[], []⟩).bind (fzOut [.tmp 4] st false H) else none := (rfl)
theorem slices_Index_int_call (cap args : List CV) (H : Heap) : call ctx (.fn (.func 100) [] cap) args H = (snapL H false false (args ++ cap)).bind (slices_Index_int_F (CV.refs (args ++ cap)) H) := fz_call rfl (show ctx.info 100 = some slices_Index_int_I by kernel_rfl) cap args H
noncomputable def slices_pdqsortOrdered_int_F (bx : List (Nat × List CV)) (bl : List Blk) (xs : List CV) : Option (CV × Heap) := if xs.length = 4 then (eval ctx slices_pdqsortOrdered_int_C (enterC 0 xs) ⟨[], bl⟩).bind (refOut [] bx) else none
theorem slices_pdqsortOrdered_int_F_eq (bx : List (Nat × List CV)) (bl : List Blk) (xs : List CV) : slices_pdqsortOrdered_int_F bx bl xs = if xs.length = 4 then (eval ctx slices_pdqsortOrdered_int_C (enterC 0 xs) ⟨[], bl⟩).bind (refOut [] bx) else none := (rfl)
theorem slices_pdqsortOrdered_int_call (cap args : List CV) (bx : List (Nat × List CV)) (bl : List Blk) : call ctx (.fn (.func 107) [] cap) args ⟨bx, bl⟩ = if CV.locs (args ++ cap) then none else slices_pdqsortOrdered_int_F bx bl (args ++ cap) := ref_call rfl (show ctx.info 107 = some slices_pdqsortOrdered_int_I by kernel_rfl) cap args bx bl
noncomputable def math_bits_Len_F (st : Bool) (H : Heap) (xs : List CV) : Option (CV × Heap) := fzE ctx false 1 math_bits_Len_C [.tmp 2] st H xs
theorem math_bits_Len_F_eq (st : Bool) (H : Heap) (xs : List CV) : math_bits_Len_F st H xs = if xs.length = 1 then (eval ctx math_bits_Len_C (enterC 0 xs) ⟨[], []⟩).bind (fzOut [.tmp 2] st false H) else none := (rfl)
theorem math_bits_Len_call (cap args : List CV) (H : Heap) : call ctx (.fn (.func 108) [] cap) args H = (snapL H false false (args ++ cap)).bind (math_bits_Len_F (CV.refs (args ++ cap)) H) := fz_call rfl (show ctx.info 108 = some math_bits_Len_I by kernel_rfl) cap args H
noncomputable def graph_Graph_way_1_F (st : Bool) (H : Heap) (xs : List CV) : Option (CV × Heap) := fzE ctx false 2 graph_Graph_way_1_C [.tmp 3] st H xs
theorem graph_Graph_way_1_F_eq (st : Bool) (H : Heap) (xs : List CV) : graph_Graph_way_1_F st H xs = if xs.length = 2 then (eval ctx graph_Graph_way_1_C (enterC 0 xs) ⟨[], []⟩).bind (fzOut [.tmp 3] st false H) else none := (rfl)
theorem graph_Graph_way_1_call (cap args : List CV) (H : Heap) : call ctx (.fn (.func 109) [] cap) args H = (snapL H false false (args ++ cap)).bind (graph_Graph_way_1_F (CV.refs (args ++ cap)) H) := fz_call rfl (show ctx.info 109 = some graph_Graph_way_1_I by kernel_rfl) cap args H
noncomputable def graph_Graph_need_F (st : Bool) (H : Heap) (xs : List CV) : Option (CV × Heap) := fzE ctx false 3 graph_Graph_need_C [.tmp 6] st H xs
theorem graph_Graph_need_F_eq (st : Bool) (H : Heap) (xs : List CV) : graph_Graph_need_F st H xs = if xs.length = 3 then (eval ctx graph_Graph_need_C (enterC 0 xs) ⟨[], []⟩).bind (fzOut [.tmp 6] st false H) else none := (rfl)
theorem graph_Graph_need_call (cap args : List CV) (H : Heap) : call ctx (.fn (.func 110) [] cap) args H = (snapL H false false (args ++ cap)).bind (graph_Graph_need_F (CV.refs (args ++ cap)) H) := fz_call rfl (show ctx.info 110 = some graph_Graph_need_I by kernel_rfl) cap args H
noncomputable def slices_insertionSortOrdered_int_F (bx : List (Nat × List CV)) (bl : List Blk) (xs : List CV) : Option (CV × Heap) := if xs.length = 3 then (eval ctx slices_insertionSortOrdered_int_C (enterC 0 xs) ⟨[], bl⟩).bind (refOut [] bx) else none
theorem slices_insertionSortOrdered_int_F_eq (bx : List (Nat × List CV)) (bl : List Blk) (xs : List CV) : slices_insertionSortOrdered_int_F bx bl xs = if xs.length = 3 then (eval ctx slices_insertionSortOrdered_int_C (enterC 0 xs) ⟨[], bl⟩).bind (refOut [] bx) else none := (rfl)
theorem slices_insertionSortOrdered_int_call (cap args : List CV) (bx : List (Nat × List CV)) (bl : List Blk) : call ctx (.fn (.func 115) [] cap) args ⟨bx, bl⟩ = if CV.locs (args ++ cap) then none else slices_insertionSortOrdered_int_F bx bl (args ++ cap) := ref_call rfl (show ctx.info 115 = some slices_insertionSortOrdered_int_I by kernel_rfl) cap args bx bl
noncomputable def cmp_Less_int_F (st : Bool) (H : Heap) (xs : List CV) : Option (CV × Heap) := fzE ctx false 2 cmp_Less_int_C [.tmp 4] st H xs
theorem cmp_Less_int_F_eq (st : Bool) (H : Heap) (xs : List CV) : cmp_Less_int_F st H xs = if xs.length = 2 then (eval ctx cmp_Less_int_C (enterC 0 xs) ⟨[], []⟩).bind (fzOut [.tmp 4] st false H) else none := (rfl)
theorem cmp_Less_int_call (cap args : List CV) (H : Heap) : call ctx (.fn (.func 121) [] cap) args H = (snapL H false false (args ++ cap)).bind (cmp_Less_int_F (CV.refs (args ++ cap)) H) := fz_call rfl (show ctx.info 121 = some cmp_Less_int_I by kernel_rfl) cap args H
noncomputable def math_bits_Len64_F (st : Bool) (H : Heap) (xs : List CV) : Option (CV × Heap) := fzE ctx false 1 math_bits_Len64_C [.tmp 2] st H xs
theorem math_bits_Len64_F_eq (st : Bool) (H : Heap) (xs : List CV) : math_bits_Len64_F st H xs = if xs.length = 1 then (eval ctx math_bits_Len64_C (enterC 0 xs) ⟨[], []⟩).bind (fzOut [.tmp 2] st false H) else none := (rfl)
theorem math_bits_Len64_call (cap args : List CV) (H : Heap) : call ctx (.fn (.func 125) [] cap) args H = (snapL H false false (args ++ cap)).bind (math_bits_Len64_F (CV.refs (args ++ cap)) H) := fz_call rfl (show ctx.info 125 = some math_bits_Len64_I by kernel_rfl) cap args H
noncomputable def math_bits_Len32_F (st : Bool) (H : Heap) (xs : List CV) : Option (CV × Heap) := fzE ctx false 1 math_bits_Len32_C [.tmp 2] st H xs
theorem math_bits_Len32_F_eq (st : Bool) (H : Heap) (xs : List CV) : math_bits_Len32_F st H xs = if xs.length = 1 then (eval ctx math_bits_Len32_C (enterC 0 xs) ⟨[], []⟩).bind (fzOut [.tmp 2] st false H) else none := (rfl)
theorem math_bits_Len32_call (cap args : List CV) (H : Heap) : call ctx (.fn (.func 124) [] cap) args H = (snapL H false false (args ++ cap)).bind (math_bits_Len32_F (CV.refs (args ++ cap)) H) := fz_call rfl (show ctx.info 124 = some math_bits_Len32_I by kernel_rfl) cap args H
noncomputable def slices_Concat_End_F (st : Bool) (H : Heap) (xs : List CV) : Option (CV × Heap) := fzE ctx false 1 slices_Concat_End_C [.tmp 2] st H xs
theorem slices_Concat_End_F_eq (st : Bool) (H : Heap) (xs : List CV) : slices_Concat_End_F st H xs = if xs.length = 1 then (eval ctx slices_Concat_End_C (enterC 0 xs) ⟨[], []⟩).bind (fzOut [.tmp 2] st false H) else none := (rfl)
theorem slices_Concat_End_call (cap args : List CV) (H : Heap) : call ctx (.fn (.func 79) [] cap) args H = (snapL H false false (args ++ cap)).bind (slices_Concat_End_F (CV.refs (args ++ cap)) H) := fz_call rfl (show ctx.info 79 = some slices_Concat_End_I by kernel_rfl) cap args H
noncomputable def slices_Grow_End_F (bx : List (Nat × List CV)) (bl : List Blk) (xs : List CV) : Option (CV × Heap) := if xs.length = 2 then (eval ctx slices_Grow_End_C (enterC 0 xs) ⟨[], bl⟩).bind (refOut [.tmp 4] bx) else none
theorem slices_Grow_End_F_eq (bx : List (Nat × List CV)) (bl : List Blk) (xs : List CV) : slices_Grow_End_F bx bl xs = if xs.length = 2 then (eval ctx slices_Grow_End_C (enterC 0 xs) ⟨[], bl⟩).bind (refOut [.tmp 4] bx) else none := (rfl)
theorem slices_Grow_End_call (cap args : List CV) (bx : List (Nat × List CV)) (bl : List Blk) : call ctx (.fn (.func 106) [] cap) args ⟨bx, bl⟩ = if CV.locs (args ++ cap) then none else slices_Grow_End_F bx bl (args ++ cap) := ref_call rfl (show ctx.info 106 = some slices_Grow_End_I by kernel_rfl) cap args bx bl
noncomputable def r01_Ints_R0 (x : Env × Heap) : Out := intoE ctx 0 [0, 1, 5] [] r01_Ints_B0 x
noncomputable def r01_Ints_K0 (x : Ex × Env × Heap) : Out := roundE ctx 0 [0, 1, 5] [] r01_Ints_B0 x
theorem r01_Ints_L0_eq (env : Env) (H : Heap) : eval ctx r01_Ints_L0 env H = (keepE [0, 1, 5] env H).bind r01_Ints_R0 := eval_bloop' ctx env H 0 [0, 1, 5] [] r01_Ints_B0
theorem r01_Ints_R0_eq (env : Env) (H : Heap) : r01_Ints_R0 (env, H) = (eval ctx r01_Ints_B0 env H).bind r01_Ints_K0 := (rfl)
theorem r01_Ints_K0_norm (env : Env) (H : Heap) : r01_Ints_K0 (.norm, env, H) = (keepE [0, 1, 5] env H).bind r01_Ints_R0 := r01_Ints_L0_eq env H
theorem r01_Ints_K0_ret (env : Env) (H : Heap) : r01_Ints_K0 (.ret, env, H) = some (.ret, env, H) := (rfl)
theorem r01_Ints_K0_exit (k : Nat) (env : Env) (H : Heap) : r01_Ints_K0 (.exit k, env, H) = if k = 0 then (keepE [] env H).map normE else some (.exit k, env, H) := (rfl)
noncomputable def r01_Has_R0 (x : Env × Heap) : Out := intoE ctx 0 [0, 1, 5] [] r01_Has_B0 x
noncomputable def r01_Has_K0 (x : Ex × Env × Heap) : Out := roundE ctx 0 [0, 1, 5] [] r01_Has_B0 x
theorem r01_Has_L0_eq (env : Env) (H : Heap) : eval ctx r01_Has_L0 env H = (keepE [0, 1, 5] env H).bind r01_Has_R0 := eval_bloop' ctx env H 0 [0, 1, 5] [] r01_Has_B0
theorem r01_Has_R0_eq (env : Env) (H : Heap) : r01_Has_R0 (env, H) = (eval ctx r01_Has_B0 env H).bind r01_Has_K0 := (rfl)
theorem r01_Has_K0_norm (env : Env) (H : Heap) : r01_Has_K0 (.norm, env, H) = (keepE [0, 1, 5] env H).bind r01_Has_R0 := r01_Has_L0_eq env H
theorem r01_Has_K0_ret (env : Env) (H : Heap) : r01_Has_K0 (.ret, env, H) = some (.ret, env, H) := (rfl)
theorem r01_Has_K0_exit (k : Nat) (env : Env) (H : Heap) : r01_Has_K0 (.exit k, env, H) = if k = 0 then (keepE [] env H).map normE else some (.exit k, env, H) := (rfl)
noncomputable def graph_Graph_Near_R2 (x : Env × Heap) : Out := intoE ctx 2 [0, 1, 5, 9, 16, 17, 18] [0, 1, 5, 9] graph_Graph_Near_B2 x
noncomputable def graph_Graph_Near_K2 (x : Ex × Env × Heap) : Out := roundE ctx 2 [0, 1, 5, 9, 16, 17, 18] [0, 1, 5, 9] graph_Graph_Near_B2 x
theorem graph_Graph_Near_L2_eq (env : Env) (H : Heap) : eval ctx graph_Graph_Near_L2 env H = (keepE [0, 1, 5, 9, 16, 17, 18] env H).bind graph_Graph_Near_R2 := eval_bloop' ctx env H 2 [0, 1, 5, 9, 16, 17, 18] [0, 1, 5, 9] graph_Graph_Near_B2
theorem graph_Graph_Near_R2_eq (env : Env) (H : Heap) : graph_Graph_Near_R2 (env, H) = (eval ctx graph_Graph_Near_B2 env H).bind graph_Graph_Near_K2 := (rfl)
theorem graph_Graph_Near_K2_norm (env : Env) (H : Heap) : graph_Graph_Near_K2 (.norm, env, H) = (keepE [0, 1, 5, 9, 16, 17, 18] env H).bind graph_Graph_Near_R2 := graph_Graph_Near_L2_eq env H
theorem graph_Graph_Near_K2_ret (env : Env) (H : Heap) : graph_Graph_Near_K2 (.ret, env, H) = some (.ret, env, H) := (rfl)
theorem graph_Graph_Near_K2_exit (k : Nat) (env : Env) (H : Heap) : graph_Graph_Near_K2 (.exit k, env, H) = if k = 2 then (keepE [0, 1, 5, 9] env H).map normE else some (.exit k, env, H) := (rfl)
noncomputable def graph_Graph_Near_R0 (x : Env × Heap) : Out := intoE ctx 0 [0, 1, 5, 9] [5] graph_Graph_Near_B0 x
noncomputable def graph_Graph_Near_K0 (x : Ex × Env × Heap) : Out := roundE ctx 0 [0, 1, 5, 9] [5] graph_Graph_Near_B0 x
theorem graph_Graph_Near_L0_eq (env : Env) (H : Heap) : eval ctx graph_Graph_Near_L0 env H = (keepE [0, 1, 5, 9] env H).bind graph_Graph_Near_R0 := eval_bloop' ctx env H 0 [0, 1, 5, 9] [5] graph_Graph_Near_B0
theorem graph_Graph_Near_R0_eq (env : Env) (H : Heap) : graph_Graph_Near_R0 (env, H) = (eval ctx graph_Graph_Near_B0 env H).bind graph_Graph_Near_K0 := (rfl)
theorem graph_Graph_Near_K0_norm (env : Env) (H : Heap) : graph_Graph_Near_K0 (.norm, env, H) = (keepE [0, 1, 5, 9] env H).bind graph_Graph_Near_R0 := graph_Graph_Near_L0_eq env H
theorem graph_Graph_Near_K0_ret (env : Env) (H : Heap) : graph_Graph_Near_K0 (.ret, env, H) = some (.ret, env, H) := (rfl)
theorem graph_Graph_Near_K0_exit (k : Nat) (env : Env) (H : Heap) : graph_Graph_Near_K0 (.exit k, env, H) = if k = 0 then (keepE [5] env H).map normE else some (.exit k, env, H) := (rfl)
noncomputable def graph_Graph_Ends_R2 (x : Env × Heap) : Out := intoE ctx 2 [0, 1, 5, 6, 26, 27] [0, 1, 5, 6] graph_Graph_Ends_B2 x
noncomputable def graph_Graph_Ends_K2 (x : Ex × Env × Heap) : Out := roundE ctx 2 [0, 1, 5, 6, 26, 27] [0, 1, 5, 6] graph_Graph_Ends_B2 x
theorem graph_Graph_Ends_L2_eq (env : Env) (H : Heap) : eval ctx graph_Graph_Ends_L2 env H = (keepE [0, 1, 5, 6, 26, 27] env H).bind graph_Graph_Ends_R2 := eval_bloop' ctx env H 2 [0, 1, 5, 6, 26, 27] [0, 1, 5, 6] graph_Graph_Ends_B2
theorem graph_Graph_Ends_R2_eq (env : Env) (H : Heap) : graph_Graph_Ends_R2 (env, H) = (eval ctx graph_Graph_Ends_B2 env H).bind graph_Graph_Ends_K2 := (rfl)
theorem graph_Graph_Ends_K2_norm (env : Env) (H : Heap) : graph_Graph_Ends_K2 (.norm, env, H) = (keepE [0, 1, 5, 6, 26, 27] env H).bind graph_Graph_Ends_R2 := graph_Graph_Ends_L2_eq env H
theorem graph_Graph_Ends_K2_ret (env : Env) (H : Heap) : graph_Graph_Ends_K2 (.ret, env, H) = some (.ret, env, H) := (rfl)
theorem graph_Graph_Ends_K2_exit (k : Nat) (env : Env) (H : Heap) : graph_Graph_Ends_K2 (.exit k, env, H) = if k = 2 then (keepE [0, 1, 5, 6] env H).map normE else some (.exit k, env, H) := (rfl)
noncomputable def graph_Graph_Ends_R0 (x : Env × Heap) : Out := intoE ctx 0 [0, 1, 5, 6] [] graph_Graph_Ends_B0 x
noncomputable def graph_Graph_Ends_K0 (x : Ex × Env × Heap) : Out := roundE ctx 0 [0, 1, 5, 6] [] graph_Graph_Ends_B0 x
theorem graph_Graph_Ends_L0_eq (env : Env) (H : Heap) : eval ctx graph_Graph_Ends_L0 env H = (keepE [0, 1, 5, 6] env H).bind graph_Graph_Ends_R0 := eval_bloop' ctx env H 0 [0, 1, 5, 6] [] graph_Graph_Ends_B0
theorem graph_Graph_Ends_R0_eq (env : Env) (H : Heap) : graph_Graph_Ends_R0 (env, H) = (eval ctx graph_Graph_Ends_B0 env H).bind graph_Graph_Ends_K0 := (rfl)
theorem graph_Graph_Ends_K0_norm (env : Env) (H : Heap) : graph_Graph_Ends_K0 (.norm, env, H) = (keepE [0, 1, 5, 6] env H).bind graph_Graph_Ends_R0 := graph_Graph_Ends_L0_eq env H
theorem graph_Graph_Ends_K0_ret (env : Env) (H : Heap) : graph_Graph_Ends_K0 (.ret, env, H) = some (.ret, env, H) := (rfl)
theorem graph_Graph_Ends_K0_exit (k : Nat) (env : Env) (H : Heap) : graph_Graph_Ends_K0 (.exit k, env, H) = if k = 0 then (keepE [] env H).map normE else some (.exit k, env, H) := (rfl)
noncomputable def graph_Graph_Beside_R2 (x : Env × Heap) : Out := intoE ctx 2 [0, 1, 5, 34, 35, 36, 42, 43, 44] [0, 1, 5, 34, 35, 36] graph_Graph_Beside_B2 x
noncomputable def graph_Graph_Beside_K2 (x : Ex × Env × Heap) : Out := roundE ctx 2 [0, 1, 5, 34, 35, 36, 42, 43, 44] [0, 1, 5, 34, 35, 36] graph_Graph_Beside_B2 x
theorem graph_Graph_Beside_L2_eq (env : Env) (H : Heap) : eval ctx graph_Graph_Beside_L2 env H = (keepE [0, 1, 5, 34, 35, 36, 42, 43, 44] env H).bind graph_Graph_Beside_R2 := eval_bloop' ctx env H 2 [0, 1, 5, 34, 35, 36, 42, 43, 44] [0, 1, 5, 34, 35, 36] graph_Graph_Beside_B2
theorem graph_Graph_Beside_R2_eq (env : Env) (H : Heap) : graph_Graph_Beside_R2 (env, H) = (eval ctx graph_Graph_Beside_B2 env H).bind graph_Graph_Beside_K2 := (rfl)
theorem graph_Graph_Beside_K2_norm (env : Env) (H : Heap) : graph_Graph_Beside_K2 (.norm, env, H) = (keepE [0, 1, 5, 34, 35, 36, 42, 43, 44] env H).bind graph_Graph_Beside_R2 := graph_Graph_Beside_L2_eq env H
theorem graph_Graph_Beside_K2_ret (env : Env) (H : Heap) : graph_Graph_Beside_K2 (.ret, env, H) = some (.ret, env, H) := (rfl)
theorem graph_Graph_Beside_K2_exit (k : Nat) (env : Env) (H : Heap) : graph_Graph_Beside_K2 (.exit k, env, H) = if k = 2 then (keepE [0, 1, 5, 34, 35, 36] env H).map normE else some (.exit k, env, H) := (rfl)
noncomputable def graph_Graph_Beside_R0 (x : Env × Heap) : Out := intoE ctx 0 [0, 1, 5, 34, 35, 36] [5] graph_Graph_Beside_B0 x
noncomputable def graph_Graph_Beside_K0 (x : Ex × Env × Heap) : Out := roundE ctx 0 [0, 1, 5, 34, 35, 36] [5] graph_Graph_Beside_B0 x
theorem graph_Graph_Beside_L0_eq (env : Env) (H : Heap) : eval ctx graph_Graph_Beside_L0 env H = (keepE [0, 1, 5, 34, 35, 36] env H).bind graph_Graph_Beside_R0 := eval_bloop' ctx env H 0 [0, 1, 5, 34, 35, 36] [5] graph_Graph_Beside_B0
theorem graph_Graph_Beside_R0_eq (env : Env) (H : Heap) : graph_Graph_Beside_R0 (env, H) = (eval ctx graph_Graph_Beside_B0 env H).bind graph_Graph_Beside_K0 := (rfl)
theorem graph_Graph_Beside_K0_norm (env : Env) (H : Heap) : graph_Graph_Beside_K0 (.norm, env, H) = (keepE [0, 1, 5, 34, 35, 36] env H).bind graph_Graph_Beside_R0 := graph_Graph_Beside_L0_eq env H
theorem graph_Graph_Beside_K0_ret (env : Env) (H : Heap) : graph_Graph_Beside_K0 (.ret, env, H) = some (.ret, env, H) := (rfl)
theorem graph_Graph_Beside_K0_exit (k : Nat) (env : Env) (H : Heap) : graph_Graph_Beside_K0 (.exit k, env, H) = if k = 0 then (keepE [5] env H).map normE else some (.exit k, env, H) := (rfl)
noncomputable def graph_Graph_Path_R0 (x : Env × Heap) : Out := intoE ctx 0 [0, 1, 14, 15, 16] [0, 1] graph_Graph_Path_B0 x
noncomputable def graph_Graph_Path_K0 (x : Ex × Env × Heap) : Out := roundE ctx 0 [0, 1, 14, 15, 16] [0, 1] graph_Graph_Path_B0 x
theorem graph_Graph_Path_L0_eq (env : Env) (H : Heap) : eval ctx graph_Graph_Path_L0 env H = (keepE [0, 1, 14, 15, 16] env H).bind graph_Graph_Path_R0 := eval_bloop' ctx env H 0 [0, 1, 14, 15, 16] [0, 1] graph_Graph_Path_B0
theorem graph_Graph_Path_R0_eq (env : Env) (H : Heap) : graph_Graph_Path_R0 (env, H) = (eval ctx graph_Graph_Path_B0 env H).bind graph_Graph_Path_K0 := (rfl)
theorem graph_Graph_Path_K0_norm (env : Env) (H : Heap) : graph_Graph_Path_K0 (.norm, env, H) = (keepE [0, 1, 14, 15, 16] env H).bind graph_Graph_Path_R0 := graph_Graph_Path_L0_eq env H
theorem graph_Graph_Path_K0_ret (env : Env) (H : Heap) : graph_Graph_Path_K0 (.ret, env, H) = some (.ret, env, H) := (rfl)
theorem graph_Graph_Path_K0_exit (k : Nat) (env : Env) (H : Heap) : graph_Graph_Path_K0 (.exit k, env, H) = if k = 0 then (keepE [0, 1] env H).map normE else some (.exit k, env, H) := (rfl)
noncomputable def graph_Graph_Path_R2 (x : Env × Heap) : Out := intoE ctx 2 [0, 1, 27] [] graph_Graph_Path_B2 x
noncomputable def graph_Graph_Path_K2 (x : Ex × Env × Heap) : Out := roundE ctx 2 [0, 1, 27] [] graph_Graph_Path_B2 x
theorem graph_Graph_Path_L2_eq (env : Env) (H : Heap) : eval ctx graph_Graph_Path_L2 env H = (keepE [0, 1, 27] env H).bind graph_Graph_Path_R2 := eval_bloop' ctx env H 2 [0, 1, 27] [] graph_Graph_Path_B2
theorem graph_Graph_Path_R2_eq (env : Env) (H : Heap) : graph_Graph_Path_R2 (env, H) = (eval ctx graph_Graph_Path_B2 env H).bind graph_Graph_Path_K2 := (rfl)
theorem graph_Graph_Path_K2_norm (env : Env) (H : Heap) : graph_Graph_Path_K2 (.norm, env, H) = (keepE [0, 1, 27] env H).bind graph_Graph_Path_R2 := graph_Graph_Path_L2_eq env H
theorem graph_Graph_Path_K2_ret (env : Env) (H : Heap) : graph_Graph_Path_K2 (.ret, env, H) = some (.ret, env, H) := (rfl)
theorem graph_Graph_Path_K2_exit (k : Nat) (env : Env) (H : Heap) : graph_Graph_Path_K2 (.exit k, env, H) = if k = 2 then (keepE [] env H).map normE else some (.exit k, env, H) := (rfl)
noncomputable def slices_IndexFunc_End_R0 (x : Env × Heap) : Out := intoE ctx 0 [0, 1, 7, 8] [] slices_IndexFunc_End_B0 x
noncomputable def slices_IndexFunc_End_K0 (x : Ex × Env × Heap) : Out := roundE ctx 0 [0, 1, 7, 8] [] slices_IndexFunc_End_B0 x
theorem slices_IndexFunc_End_L0_eq (env : Env) (H : Heap) : eval ctx slices_IndexFunc_End_L0 env H = (keepE [0, 1, 7, 8] env H).bind slices_IndexFunc_End_R0 := eval_bloop' ctx env H 0 [0, 1, 7, 8] [] slices_IndexFunc_End_B0
theorem slices_IndexFunc_End_R0_eq (env : Env) (H : Heap) : slices_IndexFunc_End_R0 (env, H) = (eval ctx slices_IndexFunc_End_B0 env H).bind slices_IndexFunc_End_K0 := (rfl)
theorem slices_IndexFunc_End_K0_norm (env : Env) (H : Heap) : slices_IndexFunc_End_K0 (.norm, env, H) = (keepE [0, 1, 7, 8] env H).bind slices_IndexFunc_End_R0 := slices_IndexFunc_End_L0_eq env H
theorem slices_IndexFunc_End_K0_ret (env : Env) (H : Heap) : slices_IndexFunc_End_K0 (.ret, env, H) = some (.ret, env, H) := (rfl)
theorem slices_IndexFunc_End_K0_exit (k : Nat) (env : Env) (H : Heap) : slices_IndexFunc_End_K0 (.exit k, env, H) = if k = 0 then (keepE [] env H).map normE else some (.exit k, env, H) := (rfl)
noncomputable def r01_Rise_R2 (x : Env × Heap) : Out := intoE ctx 2 [0, 3, 4, 5] [0, 3, 4] r01_Rise_B2 x
noncomputable def r01_Rise_K2 (x : Ex × Env × Heap) : Out := roundE ctx 2 [0, 3, 4, 5] [0, 3, 4] r01_Rise_B2 x
theorem r01_Rise_L2_eq (env : Env) (H : Heap) : eval ctx r01_Rise_L2 env H = (keepE [0, 3, 4, 5] env H).bind r01_Rise_R2 := eval_bloop' ctx env H 2 [0, 3, 4, 5] [0, 3, 4] r01_Rise_B2
theorem r01_Rise_R2_eq (env : Env) (H : Heap) : r01_Rise_R2 (env, H) = (eval ctx r01_Rise_B2 env H).bind r01_Rise_K2 := (rfl)
theorem r01_Rise_K2_norm (env : Env) (H : Heap) : r01_Rise_K2 (.norm, env, H) = (keepE [0, 3, 4, 5] env H).bind r01_Rise_R2 := r01_Rise_L2_eq env H
theorem r01_Rise_K2_ret (env : Env) (H : Heap) : r01_Rise_K2 (.ret, env, H) = some (.ret, env, H) := (rfl)
theorem r01_Rise_K2_exit (k : Nat) (env : Env) (H : Heap) : r01_Rise_K2 (.exit k, env, H) = if k = 2 then (keepE [0, 3, 4] env H).map normE else some (.exit k, env, H) := (rfl)
noncomputable def r01_Rise_R0 (x : Env × Heap) : Out := intoE ctx 0 [0, 3] [] r01_Rise_B0 x
noncomputable def r01_Rise_K0 (x : Ex × Env × Heap) : Out := roundE ctx 0 [0, 3] [] r01_Rise_B0 x
theorem r01_Rise_L0_eq (env : Env) (H : Heap) : eval ctx r01_Rise_L0 env H = (keepE [0, 3] env H).bind r01_Rise_R0 := eval_bloop' ctx env H 0 [0, 3] [] r01_Rise_B0
theorem r01_Rise_R0_eq (env : Env) (H : Heap) : r01_Rise_R0 (env, H) = (eval ctx r01_Rise_B0 env H).bind r01_Rise_K0 := (rfl)
theorem r01_Rise_K0_norm (env : Env) (H : Heap) : r01_Rise_K0 (.norm, env, H) = (keepE [0, 3] env H).bind r01_Rise_R0 := r01_Rise_L0_eq env H
theorem r01_Rise_K0_ret (env : Env) (H : Heap) : r01_Rise_K0 (.ret, env, H) = some (.ret, env, H) := (rfl)
theorem r01_Rise_K0_exit (k : Nat) (env : Env) (H : Heap) : r01_Rise_K0 (.exit k, env, H) = if k = 0 then (keepE [] env H).map normE else some (.exit k, env, H) := (rfl)
noncomputable def slices_DeleteFunc_End_R0 (x : Env × Heap) : Out := intoE ctx 0 [0, 1, 5, 6] [0, 5] slices_DeleteFunc_End_B0 x
noncomputable def slices_DeleteFunc_End_K0 (x : Ex × Env × Heap) : Out := roundE ctx 0 [0, 1, 5, 6] [0, 5] slices_DeleteFunc_End_B0 x
theorem slices_DeleteFunc_End_L0_eq (env : Env) (H : Heap) : eval ctx slices_DeleteFunc_End_L0 env H = (keepE [0, 1, 5, 6] env H).bind slices_DeleteFunc_End_R0 := eval_bloop' ctx env H 0 [0, 1, 5, 6] [0, 5] slices_DeleteFunc_End_B0
theorem slices_DeleteFunc_End_R0_eq (env : Env) (H : Heap) : slices_DeleteFunc_End_R0 (env, H) = (eval ctx slices_DeleteFunc_End_B0 env H).bind slices_DeleteFunc_End_K0 := (rfl)
theorem slices_DeleteFunc_End_K0_norm (env : Env) (H : Heap) : slices_DeleteFunc_End_K0 (.norm, env, H) = (keepE [0, 1, 5, 6] env H).bind slices_DeleteFunc_End_R0 := slices_DeleteFunc_End_L0_eq env H
theorem slices_DeleteFunc_End_K0_ret (env : Env) (H : Heap) : slices_DeleteFunc_End_K0 (.ret, env, H) = some (.ret, env, H) := (rfl)
theorem slices_DeleteFunc_End_K0_exit (k : Nat) (env : Env) (H : Heap) : slices_DeleteFunc_End_K0 (.exit k, env, H) = if k = 0 then (keepE [0, 5] env H).map normE else some (.exit k, env, H) := (rfl)
noncomputable def graph_Graph_at_R0 (x : Env × Heap) : Out := intoE ctx 0 [1, 11, 12, 13] [] graph_Graph_at_B0 x
noncomputable def graph_Graph_at_K0 (x : Ex × Env × Heap) : Out := roundE ctx 0 [1, 11, 12, 13] [] graph_Graph_at_B0 x
theorem graph_Graph_at_L0_eq (env : Env) (H : Heap) : eval ctx graph_Graph_at_L0 env H = (keepE [1, 11, 12, 13] env H).bind graph_Graph_at_R0 := eval_bloop' ctx env H 0 [1, 11, 12, 13] [] graph_Graph_at_B0
theorem graph_Graph_at_R0_eq (env : Env) (H : Heap) : graph_Graph_at_R0 (env, H) = (eval ctx graph_Graph_at_B0 env H).bind graph_Graph_at_K0 := (rfl)
theorem graph_Graph_at_K0_norm (env : Env) (H : Heap) : graph_Graph_at_K0 (.norm, env, H) = (keepE [1, 11, 12, 13] env H).bind graph_Graph_at_R0 := graph_Graph_at_L0_eq env H
theorem graph_Graph_at_K0_ret (env : Env) (H : Heap) : graph_Graph_at_K0 (.ret, env, H) = some (.ret, env, H) := (rfl)
theorem graph_Graph_at_K0_exit (k : Nat) (env : Env) (H : Heap) : graph_Graph_at_K0 (.exit k, env, H) = if k = 0 then (keepE [] env H).map normE else some (.exit k, env, H) := (rfl)
noncomputable def slices_Compact_int_R2 (x : Env × Heap) : Out := intoE ctx 2 [0, 3, 4, 5] [0, 3] slices_Compact_int_B2 x
noncomputable def slices_Compact_int_K2 (x : Ex × Env × Heap) : Out := roundE ctx 2 [0, 3, 4, 5] [0, 3] slices_Compact_int_B2 x
theorem slices_Compact_int_L2_eq (env : Env) (H : Heap) : eval ctx slices_Compact_int_L2 env H = (keepE [0, 3, 4, 5] env H).bind slices_Compact_int_R2 := eval_bloop' ctx env H 2 [0, 3, 4, 5] [0, 3] slices_Compact_int_B2
theorem slices_Compact_int_R2_eq (env : Env) (H : Heap) : slices_Compact_int_R2 (env, H) = (eval ctx slices_Compact_int_B2 env H).bind slices_Compact_int_K2 := (rfl)
theorem slices_Compact_int_K2_norm (env : Env) (H : Heap) : slices_Compact_int_K2 (.norm, env, H) = (keepE [0, 3, 4, 5] env H).bind slices_Compact_int_R2 := slices_Compact_int_L2_eq env H
theorem slices_Compact_int_K2_ret (env : Env) (H : Heap) : slices_Compact_int_K2 (.ret, env, H) = some (.ret, env, H) := (rfl)
theorem slices_Compact_int_K2_exit (k : Nat) (env : Env) (H : Heap) : slices_Compact_int_K2 (.exit k, env, H) = if k = 2 then (keepE [0, 3] env H).map normE else some (.exit k, env, H) := (rfl)
noncomputable def slices_Compact_int_R0 (x : Env × Heap) : Out := intoE ctx 0 [0, 3] [0] slices_Compact_int_B0 x
noncomputable def slices_Compact_int_K0 (x : Ex × Env × Heap) : Out := roundE ctx 0 [0, 3] [0] slices_Compact_int_B0 x
theorem slices_Compact_int_L0_eq (env : Env) (H : Heap) : eval ctx slices_Compact_int_L0 env H = (keepE [0, 3] env H).bind slices_Compact_int_R0 := eval_bloop' ctx env H 0 [0, 3] [0] slices_Compact_int_B0
theorem slices_Compact_int_R0_eq (env : Env) (H : Heap) : slices_Compact_int_R0 (env, H) = (eval ctx slices_Compact_int_B0 env H).bind slices_Compact_int_K0 := (rfl)
theorem slices_Compact_int_K0_norm (env : Env) (H : Heap) : slices_Compact_int_K0 (.norm, env, H) = (keepE [0, 3] env H).bind slices_Compact_int_R0 := slices_Compact_int_L0_eq env H
theorem slices_Compact_int_K0_ret (env : Env) (H : Heap) : slices_Compact_int_K0 (.ret, env, H) = some (.ret, env, H) := (rfl)
theorem slices_Compact_int_K0_exit (k : Nat) (env : Env) (H : Heap) : slices_Compact_int_K0 (.exit k, env, H) = if k = 0 then (keepE [0] env H).map normE else some (.exit k, env, H) := (rfl)
noncomputable def slices_IndexFunc_int_R0 (x : Env × Heap) : Out := intoE ctx 0 [0, 1, 7, 8] [] slices_IndexFunc_int_B0 x
noncomputable def slices_IndexFunc_int_K0 (x : Ex × Env × Heap) : Out := roundE ctx 0 [0, 1, 7, 8] [] slices_IndexFunc_int_B0 x
theorem slices_IndexFunc_int_L0_eq (env : Env) (H : Heap) : eval ctx slices_IndexFunc_int_L0 env H = (keepE [0, 1, 7, 8] env H).bind slices_IndexFunc_int_R0 := eval_bloop' ctx env H 0 [0, 1, 7, 8] [] slices_IndexFunc_int_B0
theorem slices_IndexFunc_int_R0_eq (env : Env) (H : Heap) : slices_IndexFunc_int_R0 (env, H) = (eval ctx slices_IndexFunc_int_B0 env H).bind slices_IndexFunc_int_K0 := (rfl)
theorem slices_IndexFunc_int_K0_norm (env : Env) (H : Heap) : slices_IndexFunc_int_K0 (.norm, env, H) = (keepE [0, 1, 7, 8] env H).bind slices_IndexFunc_int_R0 := slices_IndexFunc_int_L0_eq env H
theorem slices_IndexFunc_int_K0_ret (env : Env) (H : Heap) : slices_IndexFunc_int_K0 (.ret, env, H) = some (.ret, env, H) := (rfl)
theorem slices_IndexFunc_int_K0_exit (k : Nat) (env : Env) (H : Heap) : slices_IndexFunc_int_K0 (.exit k, env, H) = if k = 0 then (keepE [] env H).map normE else some (.exit k, env, H) := (rfl)
noncomputable def graph_Graph_way_R0 (x : Env × Heap) : Out := intoE ctx 0 [0, 4, 8, 13, 14, 15] [8] graph_Graph_way_B0 x
noncomputable def graph_Graph_way_K0 (x : Ex × Env × Heap) : Out := roundE ctx 0 [0, 4, 8, 13, 14, 15] [8] graph_Graph_way_B0 x
theorem graph_Graph_way_L0_eq (env : Env) (H : Heap) : eval ctx graph_Graph_way_L0 env H = (keepE [0, 4, 8, 13, 14, 15] env H).bind graph_Graph_way_R0 := eval_bloop' ctx env H 0 [0, 4, 8, 13, 14, 15] [8] graph_Graph_way_B0
theorem graph_Graph_way_R0_eq (env : Env) (H : Heap) : graph_Graph_way_R0 (env, H) = (eval ctx graph_Graph_way_B0 env H).bind graph_Graph_way_K0 := (rfl)
theorem graph_Graph_way_K0_norm (env : Env) (H : Heap) : graph_Graph_way_K0 (.norm, env, H) = (keepE [0, 4, 8, 13, 14, 15] env H).bind graph_Graph_way_R0 := graph_Graph_way_L0_eq env H
theorem graph_Graph_way_K0_ret (env : Env) (H : Heap) : graph_Graph_way_K0 (.ret, env, H) = some (.ret, env, H) := (rfl)
theorem graph_Graph_way_K0_exit (k : Nat) (env : Env) (H : Heap) : graph_Graph_way_K0 (.exit k, env, H) = if k = 0 then (keepE [8] env H).map normE else some (.exit k, env, H) := (rfl)
noncomputable def slices_IndexFunc_Point_R0 (x : Env × Heap) : Out := intoE ctx 0 [0, 1, 7, 8] [] slices_IndexFunc_Point_B0 x
noncomputable def slices_IndexFunc_Point_K0 (x : Ex × Env × Heap) : Out := roundE ctx 0 [0, 1, 7, 8] [] slices_IndexFunc_Point_B0 x
theorem slices_IndexFunc_Point_L0_eq (env : Env) (H : Heap) : eval ctx slices_IndexFunc_Point_L0 env H = (keepE [0, 1, 7, 8] env H).bind slices_IndexFunc_Point_R0 := eval_bloop' ctx env H 0 [0, 1, 7, 8] [] slices_IndexFunc_Point_B0
theorem slices_IndexFunc_Point_R0_eq (env : Env) (H : Heap) : slices_IndexFunc_Point_R0 (env, H) = (eval ctx slices_IndexFunc_Point_B0 env H).bind slices_IndexFunc_Point_K0 := (rfl)
theorem slices_IndexFunc_Point_K0_norm (env : Env) (H : Heap) : slices_IndexFunc_Point_K0 (.norm, env, H) = (keepE [0, 1, 7, 8] env H).bind slices_IndexFunc_Point_R0 := slices_IndexFunc_Point_L0_eq env H
theorem slices_IndexFunc_Point_K0_ret (env : Env) (H : Heap) : slices_IndexFunc_Point_K0 (.ret, env, H) = some (.ret, env, H) := (rfl)
theorem slices_IndexFunc_Point_K0_exit (k : Nat) (env : Env) (H : Heap) : slices_IndexFunc_Point_K0 (.exit k, env, H) = if k = 0 then (keepE [] env H).map normE else some (.exit k, env, H) := (rfl)
noncomputable def slices_Index_int_R0 (x : Env × Heap) : Out := intoE ctx 0 [0, 1, 7, 8] [] slices_Index_int_B0 x
noncomputable def slices_Index_int_K0 (x : Ex × Env × Heap) : Out := roundE ctx 0 [0, 1, 7, 8] [] slices_Index_int_B0 x
theorem slices_Index_int_L0_eq (env : Env) (H : Heap) : eval ctx slices_Index_int_L0 env H = (keepE [0, 1, 7, 8] env H).bind slices_Index_int_R0 := eval_bloop' ctx env H 0 [0, 1, 7, 8] [] slices_Index_int_B0
theorem slices_Index_int_R0_eq (env : Env) (H : Heap) : slices_Index_int_R0 (env, H) = (eval ctx slices_Index_int_B0 env H).bind slices_Index_int_K0 := (rfl)
theorem slices_Index_int_K0_norm (env : Env) (H : Heap) : slices_Index_int_K0 (.norm, env, H) = (keepE [0, 1, 7, 8] env H).bind slices_Index_int_R0 := slices_Index_int_L0_eq env H
theorem slices_Index_int_K0_ret (env : Env) (H : Heap) : slices_Index_int_K0 (.ret, env, H) = some (.ret, env, H) := (rfl)
theorem slices_Index_int_K0_exit (k : Nat) (env : Env) (H : Heap) : slices_Index_int_K0 (.exit k, env, H) = if k = 0 then (keepE [] env H).map normE else some (.exit k, env, H) := (rfl)
noncomputable def slices_pdqsortOrdered_int_R0 (x : Env × Heap) : Out := intoE ctx 0 [0, 1, 2, 3, 8, 9] [] slices_pdqsortOrdered_int_B0 x
noncomputable def slices_pdqsortOrdered_int_K0 (x : Ex × Env × Heap) : Out := roundE ctx 0 [0, 1, 2, 3, 8, 9] [] slices_pdqsortOrdered_int_B0 x
theorem slices_pdqsortOrdered_int_L0_eq (env : Env) (H : Heap) : eval ctx slices_pdqsortOrdered_int_L0 env H = (keepE [0, 1, 2, 3, 8, 9] env H).bind slices_pdqsortOrdered_int_R0 := eval_bloop' ctx env H 0 [0, 1, 2, 3, 8, 9] [] slices_pdqsortOrdered_int_B0
theorem slices_pdqsortOrdered_int_R0_eq (env : Env) (H : Heap) : slices_pdqsortOrdered_int_R0 (env, H) = (eval ctx slices_pdqsortOrdered_int_B0 env H).bind slices_pdqsortOrdered_int_K0 := (rfl)
theorem slices_pdqsortOrdered_int_K0_norm (env : Env) (H : Heap) : slices_pdqsortOrdered_int_K0 (.norm, env, H) = (keepE [0, 1, 2, 3, 8, 9] env H).bind slices_pdqsortOrdered_int_R0 := slices_pdqsortOrdered_int_L0_eq env H
theorem slices_pdqsortOrdered_int_K0_ret (env : Env) (H : Heap) : slices_pdqsortOrdered_int_K0 (.ret, env, H) = some (.ret, env, H) := (rfl)
theorem slices_pdqsortOrdered_int_K0_exit (k : Nat) (env : Env) (H : Heap) : slices_pdqsortOrdered_int_K0 (.exit k, env, H) = if k = 0 then (keepE [] env H).map normE else some (.exit k, env, H) := (rfl)
noncomputable def slices_insertionSortOrdered_int_R2 (x : Env × Heap) : Out := intoE ctx 2 [0, 1, 2, 6, 7] [0, 1, 2, 6] slices_insertionSortOrdered_int_B2 x
noncomputable def slices_insertionSortOrdered_int_K2 (x : Ex × Env × Heap) : Out := roundE ctx 2 [0, 1, 2, 6, 7] [0, 1, 2, 6] slices_insertionSortOrdered_int_B2 x
theorem slices_insertionSortOrdered_int_L2_eq (env : Env) (H : Heap) : eval ctx slices_insertionSortOrdered_int_L2 env H = (keepE [0, 1, 2, 6, 7] env H).bind slices_insertionSortOrdered_int_R2 := eval_bloop' ctx env H 2 [0, 1, 2, 6, 7] [0, 1, 2, 6] slices_insertionSortOrdered_int_B2
theorem slices_insertionSortOrdered_int_R2_eq (env : Env) (H : Heap) : slices_insertionSortOrdered_int_R2 (env, H) = (eval ctx slices_insertionSortOrdered_int_B2 env H).bind slices_insertionSortOrdered_int_K2 := (rfl)
theorem slices_insertionSortOrdered_int_K2_norm (env : Env) (H : Heap) : slices_insertionSortOrdered_int_K2 (.norm, env, H) = (keepE [0, 1, 2, 6, 7] env H).bind slices_insertionSortOrdered_int_R2 := slices_insertionSortOrdered_int_L2_eq env H
theorem slices_insertionSortOrdered_int_K2_ret (env : Env) (H : Heap) : slices_insertionSortOrdered_int_K2 (.ret, env, H) = some (.ret, env, H) := (rfl)
theorem slices_insertionSortOrdered_int_K2_exit (k : Nat) (env : Env) (H : Heap) : slices_insertionSortOrdered_int_K2 (.exit k, env, H) = if k = 2 then (keepE [0, 1, 2, 6] env H).map normE else some (.exit k, env, H) := (rfl)
noncomputable def slices_insertionSortOrdered_int_R0 (x : Env × Heap) : Out := intoE ctx 0 [0, 1, 2, 6] [] slices_insertionSortOrdered_int_B0 x
noncomputable def slices_insertionSortOrdered_int_K0 (x : Ex × Env × Heap) : Out := roundE ctx 0 [0, 1, 2, 6] [] slices_insertionSortOrdered_int_B0 x
theorem slices_insertionSortOrdered_int_L0_eq (env : Env) (H : Heap) : eval ctx slices_insertionSortOrdered_int_L0 env H = (keepE [0, 1, 2, 6] env H).bind slices_insertionSortOrdered_int_R0 := eval_bloop' ctx env H 0 [0, 1, 2, 6] [] slices_insertionSortOrdered_int_B0
theorem slices_insertionSortOrdered_int_R0_eq (env : Env) (H : Heap) : slices_insertionSortOrdered_int_R0 (env, H) = (eval ctx slices_insertionSortOrdered_int_B0 env H).bind slices_insertionSortOrdered_int_K0 := (rfl)
theorem slices_insertionSortOrdered_int_K0_norm (env : Env) (H : Heap) : slices_insertionSortOrdered_int_K0 (.norm, env, H) = (keepE [0, 1, 2, 6] env H).bind slices_insertionSortOrdered_int_R0 := slices_insertionSortOrdered_int_L0_eq env H
theorem slices_insertionSortOrdered_int_K0_ret (env : Env) (H : Heap) : slices_insertionSortOrdered_int_K0 (.ret, env, H) = some (.ret, env, H) := (rfl)
theorem slices_insertionSortOrdered_int_K0_exit (k : Nat) (env : Env) (H : Heap) : slices_insertionSortOrdered_int_K0 (.exit k, env, H) = if k = 0 then (keepE [] env H).map normE else some (.exit k, env, H) := (rfl)
noncomputable def slices_Concat_End_R0 (x : Env × Heap) : Out := intoE ctx 0 [0, 3, 9, 10, 11] [0, 3] slices_Concat_End_B0 x
noncomputable def slices_Concat_End_K0 (x : Ex × Env × Heap) : Out := roundE ctx 0 [0, 3, 9, 10, 11] [0, 3] slices_Concat_End_B0 x
theorem slices_Concat_End_L0_eq (env : Env) (H : Heap) : eval ctx slices_Concat_End_L0 env H = (keepE [0, 3, 9, 10, 11] env H).bind slices_Concat_End_R0 := eval_bloop' ctx env H 0 [0, 3, 9, 10, 11] [0, 3] slices_Concat_End_B0
theorem slices_Concat_End_R0_eq (env : Env) (H : Heap) : slices_Concat_End_R0 (env, H) = (eval ctx slices_Concat_End_B0 env H).bind slices_Concat_End_K0 := (rfl)
theorem slices_Concat_End_K0_norm (env : Env) (H : Heap) : slices_Concat_End_K0 (.norm, env, H) = (keepE [0, 3, 9, 10, 11] env H).bind slices_Concat_End_R0 := slices_Concat_End_L0_eq env H
theorem slices_Concat_End_K0_ret (env : Env) (H : Heap) : slices_Concat_End_K0 (.ret, env, H) = some (.ret, env, H) := (rfl)
theorem slices_Concat_End_K0_exit (k : Nat) (env : Env) (H : Heap) : slices_Concat_End_K0 (.exit k, env, H) = if k = 0 then (keepE [0, 3] env H).map normE else some (.exit k, env, H) := (rfl)
noncomputable def slices_Concat_End_R2 (x : Env × Heap) : Out := intoE ctx 2 [6, 25, 26, 27] [6] slices_Concat_End_B2 x
noncomputable def slices_Concat_End_K2 (x : Ex × Env × Heap) : Out := roundE ctx 2 [6, 25, 26, 27] [6] slices_Concat_End_B2 x
theorem slices_Concat_End_L2_eq (env : Env) (H : Heap) : eval ctx slices_Concat_End_L2 env H = (keepE [6, 25, 26, 27] env H).bind slices_Concat_End_R2 := eval_bloop' ctx env H 2 [6, 25, 26, 27] [6] slices_Concat_End_B2
theorem slices_Concat_End_R2_eq (env : Env) (H : Heap) : slices_Concat_End_R2 (env, H) = (eval ctx slices_Concat_End_B2 env H).bind slices_Concat_End_K2 := (rfl)
theorem slices_Concat_End_K2_norm (env : Env) (H : Heap) : slices_Concat_End_K2 (.norm, env, H) = (keepE [6, 25, 26, 27] env H).bind slices_Concat_End_R2 := slices_Concat_End_L2_eq env H
theorem slices_Concat_End_K2_ret (env : Env) (H : Heap) : slices_Concat_End_K2 (.ret, env, H) = some (.ret, env, H) := (rfl)
theorem slices_Concat_End_K2_exit (k : Nat) (env : Env) (H : Heap) : slices_Concat_End_K2 (.exit k, env, H) = if k = 2 then (keepE [6] env H).map normE else some (.exit k, env, H) := (rfl)
end Go.Proofs.Ytmkdhpjidhbijaa.Zt
