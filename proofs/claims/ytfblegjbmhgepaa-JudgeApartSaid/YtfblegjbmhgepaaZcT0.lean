/- Go functions, as the interpreter runs them: written by a program of this claim's own, proved to be what the compiler makes of them. No condition. -/
import Derived.Test.YtfblegjbmhgepaaZcSym
import Derived.Test.YtfblegjbmhgepaaProg
import Derived.Test.YtfblegjbmhgepaaZcKt
set_option linter.all false
namespace Go.Proofs.Ytfblegjbmhgepaa.Zt
open Go Go.Zc
set_option maxRecDepth 100000

/-! ### balise/baliselaw20.nobody -/
def l20_nobody_C : CCode :=
 (.seq
 (.ops [
 (sP 0 .mov [.c (.bool false)])])
 (.seq
 (.ops [
 (sP 4 (.bld [(.int .u8 0), (.int .u8 0), (.int .u8 0), (.int .u16 0), (.int .u16 0), (.int .u8 0), (.int .u8 0), (.int .u8 0), .nils] []) []),
 (sC 5 47 [.t 4]),
 (sH 1 (.newl 1 [.nils, .nils, .nils, .nils, .nils, (.int .i64 0), (.int .i64 0), (.int .i64 0), (.int .i64 0), (.int .i64 0)]) []),
 (sHn (.store 10) [.t 1, .t 5])])
 (.seq
 (.ops [
 (sH 6 (.load true 10) [.t 1]),
 (sC 7 32 [.t 6]),
 (sM 2 7)])
 (.seq
 (.ops [
 (sM 8 2),
 (sH 9 (.bslF 1 3 [(.int .u8 0)] [(0, 1), (1, 1), (2, 1)]) [.c (.int .u8 0), .c (.int .u8 0), .c (.int .u8 0)]),
 (sC 10 19 [.t 8, .t 9]),
 (sM 3 10)])
 (.seq
 (.ops [
 (sM 11 2),
 (sH 12 (.bslF 1 1 [(.int .i64 0)] [(0, 1)]) [.c (.int .i64 1)]),
 (sC 13 33 [.t 11, .c (.int .i64 1), .c (.int .i64 5), .c (.int .i64 0), .c (.int .i64 1), .t 12])])
 (.seq
 (.ops [
 (sM 14 3),
 (sM 15 14),
 (sG (sM 16 2) 15 true),
 (sG (sH 17 (.bslF 1 3 [(.int .u8 0)] [(0, 1), (1, 1), (2, 1)]) [.c (.int .u8 0), .c (.int .u8 0), .c (.int .u8 0)]) 15 true),
 (sG (sC 18 19 [.t 16, .t 17]) 15 true),
 (sG (sP 19 (.un .not) [.t 18]) 15 true),
 (sP 20 .pick [.t 15, .t 19, .c (.bool false)]),
 (sM 21 20),
 (sG (sM 22 2) 21 true),
 (sG (sH 23 (.bslF 1 3 [(.int .u8 0)] [(0, 1), (1, 1), (2, 1)]) [.c (.int .u8 0), .c (.int .u8 1), .c (.int .u8 0)]) 21 true),
 (sG (sC 24 19 [.t 22, .t 23]) 21 true),
 (sP 25 .pick [.t 21, .t 24, .c (.bool false)]),
 (sM 0 25)])
 (.ret [0])))))))
def l20_nobody_I : FInfo := ⟨(.fz false), 0, l20_nobody_C, [.tmp 0]⟩
def l20_nobody_A : Ann := ⟨[], [], [], [], [1]⟩
abbrev n_l20_nobody : Nat := 14

/-! ### balise/judge.Safe -/
def judge_Safe_B0 : CCode :=
 (.seq
 (.ops [
 (sP 10 (.bin .lss .ifc) [.t 9, .t 8])])
 (.seq
 (.cond (.t 10)
 .skip
 (.exit 0))
 (.seq
 (.block 1 (some [0, 7, 8, 9])
 (.seq
 (.ops [
 (sM 11 9),
 (sP 12 (.iaddr 1) [.t 7, .t 9]),
 (sH 13 (.load false 1) [.t 12]),
 (sM 5 11),
 (sM 6 13)])
 (.seq
 (.ops [
 (sM 14 6),
 (sP 15 (.bin .eql .int) [.t 14, .c (.int .u8 0)]),
 (sM 16 15),
 (sG (sM 17 0) 16 true),
 (sG (sM 18 5) 16 true),
 (sG (sC 19 46 [.t 17, .t 18]) 16 true),
 (sP 20 .pick [.t 16, .t 19, .c (.bool false)])])
 (.cond (.t 20)
 (.seq
 (.ops [
 (sP 4 .mov [.c (.bool false)])])
 (.ret [4]))
 .skip))))
 (.ops [
 (sP 21 (.bin .add .ifc) [.t 9, .c (.int .i64 1)]),
 (sM 9 21)]))))
def judge_Safe_L0 : CCode := .bloop 0 [0, 7, 8, 9] [] judge_Safe_B0
def judge_Safe_C : CCode :=
 (.seq
 (.ops [
 (sP 4 .mov [.c (.bool false)])])
 (.seq
 (.seq
 (.ops [
 (sM 7 1),
 (sP 8 .len [.t 7]),
 (sP 9 .mov [.c (.int .i64 0)])])
 judge_Safe_L0)
 (.seq
 (.ops [
 (sP 4 .mov [.c (.bool true)])])
 (.ret [4]))))
def judge_Safe_I : FInfo := ⟨.ref, 2, judge_Safe_C, [.tmp 4]⟩
def judge_Safe_A : Ann := ⟨[], [], [(0, [0, 7, 8, 9], [])], [(1, [0, 7, 8, 9])], []⟩
abbrev n_judge_Safe : Nat := 19

/-! ### balise/world.New -/
def world_New_C : CCode :=
 (.seq
 (.ops [
 (sH 1 (.box 1) [.t 0]),
 (sP 2 .mov [.c .nilp])])
 (.seq
 (.ops [
 (sL 3 1 (.load true 10) [.t 1]),
 (sL 4 1 (.load true 10) [.t 1]),
 (sCv 5 41 [.t 4]),
 (sB 6 .mkmap []),
 (sP 7 (.bld [.nils, .nils, .nils, .nils, .nils, (.int .i64 0), (.int .i64 0), (.int .i64 0), (.int .i64 0), (.int .i64 0), .nilp, .nilm] [(0, 10), (10, 1), (11, 1)]) [.t 3, .t 5, .t 6]),
 (sB 8 .boxh [.t 7]),
 (sM 2 8)])
 (.ret [2])))
def world_New_I : FInfo := ⟨.ref, 1, world_New_C, [.tmp 2]⟩
def world_New_A : Ann := ⟨[8], [], [], [], [1]⟩
abbrev n_world_New : Nat := 32

/-! ### (*balise/world.World).Under -/
def world_World_Under_B0 : CCode :=
 (.seq
 (.ops [
 (sP 24 (.bin .lss .ifc) [.t 23, .t 22])])
 (.seq
 (.cond (.t 24)
 .skip
 (.exit 0))
 (.seq
 (.block 1 (some [6, 21, 22, 23])
 (.seq
 (.ops [
 (sP 25 (.iaddr 2) [.t 21, .t 23]),
 (sH 26 (.load true 2) [.t 25]),
 (sH 8 (.newl 8 [(.int .i64 0), (.int .i64 0)]) []),
 (sHn (.store 2) [.t 8, .t 26])])
 (.ops [
 (sM 27 6),
 (sP 28 (.faddr 0) [.t 8]),
 (sH 29 (.load false 1) [.t 28]),
 (sH 30 (.bslF 1 1 [(.int .i64 0)] [(0, 1)]) [.t 29]),
 (sH 31 (.app 1 8 [(.int .i64 0)]) [.t 27, .t 30]),
 (sM 6 31)])))
 (.ops [
 (sP 32 (.bin .add .ifc) [.t 23, .c (.int .i64 1)]),
 (sM 23 32)]))))
def world_World_Under_L0 : CCode := .bloop 0 [6, 21, 22, 23] [6] world_World_Under_B0
def world_World_Under_C : CCode :=
 (.seq
 (.ops [
 (sP 4 .mov [.c .nils])])
 (.seq
 (.ops [
 (sM 9 0),
 (sM 10 1),
 (sC 11 70 [.t 9, .t 10]),
 (sM 5 11)])
 (.seq
 (.seq
 (.ops [
 (sM 12 5),
 (sP 13 (.bin .eql .ptr) [.t 12, .c .nilp])])
 (.cond (.t 13)
 (.seq
 (.ops [
 (sP 4 .mov [.c .nils])])
 (.ret [4]))
 .skip))
 (.seq
 (.ops [
 (sP 6 .mov [.c .nils])])
 (.seq
 (.seq
 (.ops [
 (sM 14 5),
 (sP 15 .nchk [.t 14]),
 (sP 16 (.faddr 2) [.t 15]),
 (sB 17 (.load false 1) [.t 16]),
 (sM 18 0),
 (sM 19 5),
 (sCp 20 72 [.t 18, .t 19]),
 (sP 21 (.slc 2 false true) [.t 17, .t 20]),
 (sP 22 .len [.t 21]),
 (sP 23 .mov [.c (.int .i64 0)])])
 world_World_Under_L0)
 (.seq
 (.ops [
 (sM 33 6),
 (sM 4 33)])
 (.ret [4])))))))
def world_World_Under_I : FInfo := ⟨.ref, 2, world_World_Under_C, [.tmp 4]⟩
def world_World_Under_A : Ann := ⟨[], [], [(0, [6, 21, 22, 23], [6])], [(1, [6, 21, 22, 23])], [8]⟩
abbrev n_world_World_Under : Nat := 37

/-! ### (*balise/world.World).Add -/
def world_World_Add_C : CCode :=
 (.seq
 (.ops [
 (sP 12 .mov [.c (.int .i64 0)])])
 (.seq
 (.block 0 (some [0, 1, 2, 3, 4, 5])
 (.seq
 (.ops [
 (sM 14 0),
 (sP 15 (.bin .eql .ptr) [.t 14, .c .nilp]),
 (sM 13 15)])
 (.cond (.t 13)
 (.seq
 (.ops [
 (sP 12 .mov [.c (.int .i64 7)])])
 (.ret [12]))
 (.seq
 (.ops [
 (sM 17 0),
 (sM 18 1),
 (sC 19 66 [.t 17, .t 18]),
 (sM 16 19)])
 (.cond (.t 16)
 (.seq
 (.ops [
 (sP 12 .mov [.c (.int .i64 8)])])
 (.ret [12]))
 (.seq
 (.ops [
 (sM 21 0),
 (sP 22 .nchk [.t 21]),
 (sP 23 (.faddr 10) [.t 22]),
 (sH 24 (.load false 1) [.t 23]),
 (sM 25 4),
 (sM 26 3),
 (sM 27 5),
 (sP 28 (.bld [(.int .u8 0), (.int .i64 0), (.int .i64 0), (.int .i64 0), (.int .i64 0), (.bool false), .nils] [(0, 1), (3, 1), (4, 1), (6, 1)]) [.c (.int .u8 3), .t 25, .t 26, .t 27]),
 (sC 29 43 [.t 24, .t 28]),
 (sP 30 (.un .not) [.t 29]),
 (sM 20 30)])
 (.cond (.t 20)
 (.seq
 (.ops [
 (sP 12 .mov [.c (.int .i64 1)])])
 (.ret [12]))
 (.seq
 (.ops [
 (sM 32 3),
 (sM 33 0),
 (sP 34 .nchk [.t 33]),
 (sP 35 (.faddr 10) [.t 34]),
 (sH 36 (.load false 1) [.t 35]),
 (sM 37 5),
 (sP 38 (.iaddr 1) [.t 37, .c (.int .i64 0)]),
 (sH 39 (.load false 1) [.t 38]),
 (sC 40 67 [.t 36, .t 39]),
 (sP 41 (.bin .geq .ifc) [.t 32, .t 40]),
 (sM 42 41),
 (sG (sM 43 2) 42 false),
 (sG (sP 44 (.bin .lss .ifc) [.t 43, .c (.int .i64 1)]) 42 false),
 (sP 45 .pick [.t 42, .c (.bool true), .t 44]),
 (sM 46 45),
 (sG (sM 47 2) 46 false),
 (sG (sM 48 0) 46 false),
 (sG (sM 49 3) 46 false),
 (sG (sM 50 5) 46 false),
 (sG (sC 51 68 [.t 48, .t 49, .t 50]) 46 false),
 (sG (sP 52 (.bin .gtr .ifc) [.t 47, .t 51]) 46 false),
 (sP 53 .pick [.t 46, .c (.bool true), .t 52]),
 (sM 31 53)])
 (.cond (.t 31)
 (.seq
 (.ops [
 (sP 12 .mov [.c (.int .i64 1)])])
 (.ret [12]))
 .skip)))))))))
 (.seq
 (.ops [
 (sM 54 0),
 (sP 55 .nchk [.t 54]),
 (sP 56 (.faddr 11) [.t 55]),
 (sB 57 (.load false 1) [.t 56]),
 (sM 58 1),
 (sM 59 2),
 (sM 60 3),
 (sM 61 0),
 (sM 62 4),
 (sM 63 5),
 (sCp 64 69 [.t 61, .t 62, .t 63]),
 (sP 65 (.bld [(.int .i64 0), (.int .i64 0), .nils] [(0, 1), (1, 1), (2, 1)]) [.t 59, .t 60, .t 64]),
 (sB 66 .boxh [.t 65]),
 (sBn (.mput 0) [.t 57, .t 58, .t 66])])
 (.seq
 (.ops [
 (sP 12 .mov [.c (.int .i64 0)])])
 (.ret [12])))))
def world_World_Add_I : FInfo := ⟨.ref, 6, world_World_Add_C, [.tmp 12]⟩
def world_World_Add_A : Ann := ⟨[66], [], [], [(0, [0, 1, 2, 3, 4, 5])], []⟩
abbrev n_world_World_Add : Nat := 33

/-! ### (*balise/world.World).All -/
def world_World_All_C : CCode :=
 (.seq
 (.ops [
 (sP 2 .mov [.c .nils])])
 (.seq
 (.seq
 (.ops [
 (sM 3 0),
 (sP 4 (.bin .eql .ptr) [.t 3, .c .nilp])])
 (.cond (.t 4)
 (.seq
 (.ops [
 (sP 2 .mov [.c .nils])])
 (.ret [2]))
 .skip))
 (.seq
 (.ops [
 (sM 5 0),
 (sP 6 .nchk [.t 5]),
 (sP 7 (.faddr 11) [.t 6]),
 (sH 8 (.load false 1) [.t 7]),
 (sC 9 74 [.t 8]),
 (sC 10 61 [.t 9]),
 (sM 2 10)])
 (.ret [2]))))
def world_World_All_I : FInfo := ⟨.ref, 1, world_World_All_C, [.tmp 2]⟩
def world_World_All_A : Ann := ⟨[], [], [], [], []⟩
abbrev n_world_World_All : Nat := 40

/-! ### (*balise/world.World).Inside -/
def world_World_Inside_C : CCode :=
 (.seq
 (.ops [
 (sH 2 .boxh [.t 0]),
 (sH 3 .boxh [.t 1]),
 (sP 4 .mov [.c (.bool false)])])
 (.seq
 (.ops [
 (sH 5 (.load false 1) [.t 2]),
 (sC 6 40 [.t 5]),
 (sP 7 (.mkfn (.func 81) 0) [.t 2, .t 3]),
 (sC 8 57 [.t 6, .t 7]),
 (sM 4 8)])
 (.ret [4])))
def world_World_Inside_I : FInfo := ⟨.ref, 2, world_World_Inside_C, [.tmp 4]⟩
def world_World_Inside_A : Ann := ⟨[2, 3], [], [], [], []⟩
abbrev n_world_World_Inside : Nat := 46

/-! ### (*balise/world.World).Inside$1 -/
def world_World_Inside_1_C : CCode :=
 (.seq
 (.ops [
 (sP 4 .mov [.c (.bool false)])])
 (.seq
 (.ops [
 (sB 5 (.load false 1) [.t 1]),
 (sM 6 0),
 (sCp 7 37 [.t 5, .t 6]),
 (sB 8 (.load false 1) [.t 2]),
 (sCb 9 59 [.t 7, .t 8]),
 (sM 4 9)])
 (.ret [4])))
def world_World_Inside_1_I : FInfo := ⟨.ref, 3, world_World_Inside_1_C, [.tmp 4]⟩
def world_World_Inside_1_A : Ann := ⟨[], [], [], [], []⟩
abbrev n_world_World_Inside_1 : Nat := 81

/-! ### (*balise/world.World).get -/
def world_World_get_C : CCode :=
 (.seq
 (.ops [
 (sP 4 .mov [.c .nilp])])
 (.seq
 (.seq
 (.ops [
 (sM 5 0),
 (sP 6 (.bin .eql .ptr) [.t 5, .c .nilp])])
 (.cond (.t 6)
 (.seq
 (.ops [
 (sP 4 .mov [.c .nilp])])
 (.ret [4]))
 .skip))
 (.seq
 (.ops [
 (sM 7 0),
 (sP 8 .nchk [.t 7]),
 (sP 9 (.faddr 11) [.t 8]),
 (sH 10 (.load false 1) [.t 9]),
 (sM 11 1),
 (sH 12 (.look 0 .nilp false) [.t 10, .t 11]),
 (sM 4 12)])
 (.ret [4]))))
def world_World_get_I : FInfo := ⟨.ref, 2, world_World_get_C, [.tmp 4]⟩
def world_World_get_A : Ann := ⟨[], [], [], [], []⟩
abbrev n_world_World_get : Nat := 70

/-! ### (*balise/world.World).under -/
def world_World_under_B0 : CCode :=
 (.seq
 (.seq
 (.ops [
 (sM 16 6),
 (sP 17 (.bin .gtr .ifc) [.t 16, .c (.int .i64 0)]),
 (sM 18 17),
 (sG (sM 19 5) 18 true),
 (sG (sM 20 1) 18 true),
 (sG (sP 21 .nchk [.t 20]) 18 true),
 (sG (sP 22 (.faddr 2) [.t 21]) 18 true),
 (sG (sH 23 (.load false 1) [.t 22]) 18 true),
 (sG (sP 24 .len [.t 23]) 18 true),
 (sG (sP 25 (.bin .lss .ifc) [.t 19, .t 24]) 18 true),
 (sP 26 .pick [.t 18, .t 25, .c (.bool false)])])
 (.cond (.t 26)
 .skip
 (.exit 0)))
 (.block 1 (some [0, 1, 5, 6])
 (.seq
 (.ops [
 (sM 27 6),
 (sM 28 0),
 (sP 29 .nchk [.t 28]),
 (sP 30 (.faddr 10) [.t 29]),
 (sH 31 (.load false 1) [.t 30]),
 (sM 32 1),
 (sP 33 .nchk [.t 32]),
 (sP 34 (.faddr 2) [.t 33]),
 (sH 35 (.load false 1) [.t 34]),
 (sM 36 5),
 (sP 37 (.iaddr 2) [.t 35, .t 36]),
 (sP 38 (.faddr 0) [.t 37]),
 (sH 39 (.load false 1) [.t 38]),
 (sC 40 67 [.t 31, .t 39]),
 (sP 41 (.bin .sub .ifc) [.t 27, .t 40]),
 (sM 6 41)])
 (.ops [
 (sM 42 5),
 (sP 43 (.bin .add .ifc) [.t 42, .c (.int .i64 1)]),
 (sM 5 43)]))))
def world_World_under_L0 : CCode := .bloop 0 [0, 1, 5, 6] [5] world_World_under_B0
def world_World_under_C : CCode :=
 (.seq
 (.ops [
 (sP 4 .mov [.c (.int .i64 0)])])
 (.seq
 (.ops [
 (sM 7 1),
 (sP 8 .nchk [.t 7]),
 (sP 9 (.faddr 0) [.t 8]),
 (sH 10 (.load false 1) [.t 9]),
 (sM 11 1),
 (sP 12 .nchk [.t 11]),
 (sP 13 (.faddr 1) [.t 12]),
 (sH 14 (.load false 1) [.t 13]),
 (sP 15 (.bin .add .ifc) [.t 10, .t 14]),
 (sP 5 .mov [.c (.int .i64 0)]),
 (sM 6 15)])
 (.seq
 world_World_under_L0
 (.seq
 (.ops [
 (sM 44 5),
 (sM 4 44)])
 (.ret [4])))))
def world_World_under_I : FInfo := ⟨.ref, 2, world_World_under_C, [.tmp 4]⟩
def world_World_under_A : Ann := ⟨[], [], [(0, [0, 1, 5, 6], [5])], [(1, [0, 1, 5, 6])], []⟩
abbrev n_world_World_under : Nat := 72

/-! ### (*balise/world.World).full -/
def world_World_full_C : CCode :=
 (.seq
 (.ops [
 (sP 4 .mov [.c (.bool false)])])
 (.seq
 (.ops [
 (sM 5 0),
 (sP 6 .nchk [.t 5]),
 (sP 7 (.faddr 11) [.t 6]),
 (sH 8 (.load false 1) [.t 7]),
 (sM 9 1),
 (sH 10 (.look 0 .nilp false) [.t 8, .t 9]),
 (sP 11 (.bin .neq .ptr) [.t 10, .c .nilp]),
 (sM 12 11),
 (sG (sM 13 0) 12 false),
 (sG (sP 14 .nchk [.t 13]) 12 false),
 (sG (sP 15 (.faddr 11) [.t 14]) 12 false),
 (sG (sH 16 (.load false 1) [.t 15]) 12 false),
 (sG (sH 17 .lenM [.t 16]) 12 false),
 (sG (sP 18 (.bin .geq .ifc) [.t 17, .c (.int .i64 6)]) 12 false),
 (sP 19 .pick [.t 12, .c (.bool true), .t 18]),
 (sM 4 19)])
 (.ret [4])))
def world_World_full_I : FInfo := ⟨.ref, 2, world_World_full_C, [.tmp 4]⟩
def world_World_full_A : Ann := ⟨[], [], [], [], []⟩
abbrev n_world_World_full : Nat := 66

/-! ### (*balise/world.World).room -/
def world_World_room_B0 : CCode :=
 (.seq
 (.ops [
 (sP 15 (.bin .lss .ifc) [.t 14, .t 13])])
 (.seq
 (.cond (.t 15)
 .skip
 (.exit 0))
 (.seq
 (.block 1 (some [0, 7, 12, 13, 14])
 (.seq
 (.ops [
 (sP 16 (.iaddr 1) [.t 12, .t 14]),
 (sH 17 (.load false 1) [.t 16]),
 (sM 9 17)])
 (.ops [
 (sM 18 7),
 (sM 19 0),
 (sP 20 .nchk [.t 19]),
 (sP 21 (.faddr 10) [.t 20]),
 (sH 22 (.load false 1) [.t 21]),
 (sM 23 9),
 (sC 24 67 [.t 22, .t 23]),
 (sP 25 (.bin .add .ifc) [.t 18, .t 24]),
 (sM 7 25)])))
 (.ops [
 (sP 26 (.bin .add .ifc) [.t 14, .c (.int .i64 1)]),
 (sM 14 26)]))))
def world_World_room_L0 : CCode := .bloop 0 [0, 7, 12, 13, 14] [7] world_World_room_B0
def world_World_room_C : CCode :=
 (.seq
 (.ops [
 (sP 6 .mov [.c (.int .i64 0)])])
 (.seq
 (.ops [
 (sM 10 1),
 (sP 11 (.un .neg) [.t 10]),
 (sM 7 11)])
 (.seq
 (.seq
 (.ops [
 (sM 12 2),
 (sP 13 .len [.t 12]),
 (sP 14 .mov [.c (.int .i64 0)])])
 world_World_room_L0)
 (.seq
 (.ops [
 (sM 27 7),
 (sM 6 27)])
 (.ret [6])))))
def world_World_room_I : FInfo := ⟨.ref, 3, world_World_room_C, [.tmp 6]⟩
def world_World_room_A : Ann := ⟨[], [], [(0, [0, 7, 12, 13, 14], [7])], [(1, [0, 7, 12, 13, 14])], []⟩
abbrev n_world_World_room : Nat := 68

/-! ### (*balise/world.World).way -/
def world_World_way_B2 : CCode :=
 (.seq
 (.ops [
 (sP 50 (.bin .lss .ifc) [.t 49, .t 48])])
 (.seq
 (.cond (.t 50)
 .skip
 (.exit 2))
 (.seq
 (.block 3 (some [0, 7, 9, 20, 21, 22, 47, 48, 49])
 (.seq
 (.ops [
 (sP 51 (.iaddr 2) [.t 47, .t 49]),
 (sH 52 (.load true 2) [.t 51]),
 (sH 12 (.newl 12 [(.int .i64 0), (.int .i64 0)]) []),
 (sHn (.store 2) [.t 12, .t 52])])
 (.seq
 (.ops [
 (sP 53 (.faddr 0) [.t 12]),
 (sH 54 (.load false 1) [.t 53]),
 (sM 55 9),
 (sP 56 (.bin .eql .int) [.t 54, .t 55])])
 (.cond (.t 56)
 (.seq
 (.ops [
 (sM 57 7),
 (sH 58 (.load true 2) [.t 12]),
 (sH 59 (.bslF 2 1 [(.int .i64 0), (.int .i64 0)] [(0, 2)]) [.t 58]),
 (sH 60 (.app 2 16 [(.int .i64 0), (.int .i64 0)]) [.t 57, .t 59]),
 (sM 7 60)])
 (.exit 2))
 .skip))))
 (.ops [
 (sP 61 (.bin .add .ifc) [.t 49, .c (.int .i64 1)]),
 (sM 49 61)]))))
def world_World_way_L2 : CCode := .bloop 2 [0, 7, 9, 20, 21, 22, 47, 48, 49] [0, 7, 20, 21, 22] world_World_way_B2

def world_World_way_B0 : CCode :=
 (.seq
 (.ops [
 (sP 23 (.bin .lss .ifc) [.t 22, .t 21])])
 (.seq
 (.cond (.t 23)
 .skip
 (.exit 0))
 (.seq
 (.block 1 (some [0, 7, 20, 21, 22])
 (.seq
 (.ops [
 (sP 24 (.iaddr 1) [.t 20, .t 22]),
 (sH 25 (.load false 1) [.t 24]),
 (sM 9 25)])
 (.seq
 (.ops [
 (sM 26 7),
 (sM 27 7),
 (sP 28 .len [.t 27]),
 (sP 29 (.bin .sub .ifc) [.t 28, .c (.int .i64 1)]),
 (sP 30 (.iaddr 2) [.t 26, .t 29]),
 (sP 31 (.faddr 0) [.t 30]),
 (sB 32 (.load false 1) [.t 31]),
 (sM 33 7),
 (sM 34 7),
 (sP 35 .len [.t 34]),
 (sP 36 (.bin .sub .ifc) [.t 35, .c (.int .i64 1)]),
 (sP 37 (.iaddr 2) [.t 33, .t 36]),
 (sP 38 (.faddr 1) [.t 37]),
 (sB 39 (.load false 1) [.t 38]),
 (sP 40 (.bin .sub .ifc) [.c (.int .i64 1), .t 39]),
 (sP 41 (.bld [(.int .i64 0), (.int .i64 0)] [(0, 1), (1, 1)]) [.t 32, .t 40]),
 (sH 10 (.newl 10 [(.int .i64 0), (.int .i64 0)]) []),
 (sLn 10 (.store 2) [.t 10, .t 41])])
 (.seq
 (.ops [
 (sM 42 0),
 (sP 43 .nchk [.t 42]),
 (sP 44 (.faddr 10) [.t 43]),
 (sH 45 (.load false 1) [.t 44]),
 (sH 46 (.load true 2) [.t 10]),
 (sC 47 76 [.t 45, .t 46]),
 (sP 48 .len [.t 47]),
 (sP 49 .mov [.c (.int .i64 0)])])
 world_World_way_L2))))
 (.ops [
 (sP 62 (.bin .add .ifc) [.t 22, .c (.int .i64 1)]),
 (sM 22 62)]))))
def world_World_way_L0 : CCode := .bloop 0 [0, 7, 20, 21, 22] [7] world_World_way_B0
def world_World_way_C : CCode :=
 (.seq
 (.ops [
 (sP 6 .mov [.c .nils])])
 (.seq
 (.ops [
 (sM 13 2),
 (sP 14 (.iaddr 1) [.t 13, .c (.int .i64 0)]),
 (sH 15 (.load false 1) [.t 14]),
 (sM 16 1),
 (sP 17 (.bld [(.int .i64 0), (.int .i64 0)] [(0, 1), (1, 1)]) [.t 15, .t 16]),
 (sH 18 (.bslO 2 1 [(.int .i64 0), (.int .i64 0)] [(0, 2)]) [.t 17]),
 (sM 7 18)])
 (.seq
 (.seq
 (.ops [
 (sM 19 2),
 (sP 20 (.slc 1 true false) [.t 19, .c (.int .i64 1)]),
 (sP 21 .len [.t 20]),
 (sP 22 .mov [.c (.int .i64 0)])])
 world_World_way_L0)
 (.seq
 (.ops [
 (sM 63 7),
 (sM 6 63)])
 (.ret [6])))))
def world_World_way_I : FInfo := ⟨.ref, 3, world_World_way_C, [.tmp 6]⟩
def world_World_way_A : Ann := ⟨[], [18], [(0, [0, 7, 20, 21, 22], [7]), (2, [0, 7, 9, 20, 21, 22, 47, 48, 49], [0, 7, 20, 21, 22])], [(1, [0, 7, 20, 21, 22]), (3, [0, 7, 9, 20, 21, 22, 47, 48, 49])], [10, 12]⟩
abbrev n_world_World_way : Nat := 69

/-! ### slices.ContainsFunc[[]int,int] -/
def slices_ContainsFunc_int_C : CCode :=
 (.seq
 (.ops [
 (sP 4 .mov [.c (.bool false)])])
 (.seq
 (.ops [
 (sM 5 0),
 (sM 6 1),
 (sC 7 84 [.t 5, .t 6]),
 (sP 8 (.bin .geq .ifc) [.t 7, .c (.int .i64 0)]),
 (sM 4 8)])
 (.ret [4])))
def slices_ContainsFunc_int_I : FInfo := ⟨.ref, 2, slices_ContainsFunc_int_C, [.tmp 4]⟩
def slices_ContainsFunc_int_A : Ann := ⟨[], [], [], [], []⟩
abbrev n_slices_ContainsFunc_int : Nat := 57

/-! ### slices.IndexFunc[[]int,int] -/
def slices_IndexFunc_Int_B0 : CCode :=
 (.seq
 (.ops [
 (sP 9 (.bin .lss .ifc) [.t 8, .t 7])])
 (.seq
 (.cond (.t 9)
 .skip
 (.exit 0))
 (.seq
 (.block 1 (some [0, 1, 7, 8])
 (.seq
 (.ops [
 (sM 10 8),
 (sM 5 10)])
 (.seq
 (.ops [
 (sM 11 1),
 (sM 12 0),
 (sM 13 5),
 (sP 14 (.iaddr 1) [.t 12, .t 13]),
 (sH 15 (.load false 1) [.t 14]),
 ⟨(some 16), .call, [.t 11, .t 15], none⟩])
 (.cond (.t 16)
 (.seq
 (.ops [
 (sM 17 5),
 (sM 4 17)])
 (.ret [4]))
 .skip))))
 (.ops [
 (sP 18 (.bin .add .ifc) [.t 8, .c (.int .i64 1)]),
 (sM 8 18)]))))
def slices_IndexFunc_Int_L0 : CCode := .bloop 0 [0, 1, 7, 8] [] slices_IndexFunc_Int_B0
def slices_IndexFunc_Int_C : CCode :=
 (.seq
 (.ops [
 (sP 4 .mov [.c (.int .i64 0)])])
 (.seq
 (.seq
 (.ops [
 (sM 6 0),
 (sP 7 .len [.t 6]),
 (sP 8 .mov [.c (.int .i64 0)])])
 slices_IndexFunc_Int_L0)
 (.seq
 (.ops [
 (sP 4 .mov [.c (.int .i64 (-1))])])
 (.ret [4]))))
def slices_IndexFunc_Int_I : FInfo := ⟨.ref, 2, slices_IndexFunc_Int_C, [.tmp 4]⟩
def slices_IndexFunc_Int_A : Ann := ⟨[], [], [(0, [0, 1, 7, 8], [])], [(1, [0, 1, 7, 8])], []⟩
abbrev n_slices_IndexFunc_Int : Nat := 84

/-! ### maps.Keys[map[int]*balise/world.vehicle,int,*balise/world.vehicle] -/
def maps_Keys_vehicle_C : CCode :=
 (.seq
 (.ops [
 (sH 1 .boxh [.t 0]),
 (sP 2 .mov [.c .nilf])])
 (.seq
 (.ops [
 (sP 3 (.mkfn (.func 93) 0) [.t 1]),
 (sM 2 3)])
 (.ret [2])))
def maps_Keys_vehicle_I : FInfo := ⟨.ref, 1, maps_Keys_vehicle_C, [.tmp 2]⟩
def maps_Keys_vehicle_A : Ann := ⟨[1], [], [], [], []⟩
abbrev n_maps_Keys_vehicle : Nat := 74

/-! ### balise/train.Fits -/
def train_Fits_B0 : CCode :=
 (.seq
 (.ops [
 (sP 63 (.bin .lss .ifc) [.t 62, .t 61])])
 (.seq
 (.cond (.t 63)
 .skip
 (.exit 0))
 (.seq
 (.block 1 (some [0, 6, 60, 61, 62])
 (.seq
 (.ops [
 (sP 64 (.iaddr 1) [.t 60, .t 62]),
 (sH 65 (.load false 1) [.t 64]),
 (sH 8 (.newh [(.int .i64 0)]) []),
 (sHn (.store 1) [.t 8, .t 65])])
 (.seq
 (.ops [
 (sM 66 0),
 (sH 67 (.load true 2) [.t 6]),
 (sC 68 76 [.t 66, .t 67]),
 (sM 9 68)])
 (.seq
 (.ops [
 (sM 69 9),
 (sP 70 (.mkfn (.func 78) 0) [.t 8]),
 (sC 71 77 [.t 69, .t 70]),
 (sM 10 71)])
 (.seq
 (.seq
 (.ops [
 (sM 72 10),
 (sP 73 (.bin .lss .ifc) [.t 72, .c (.int .i64 0)])])
 (.cond (.t 73)
 (.seq
 (.ops [
 (sP 4 .mov [.c (.bool false)])])
 (.ret [4]))
 .skip))
 (.ops [
 (sH 74 (.load false 1) [.t 8]),
 (sM 75 9),
 (sM 76 10),
 (sP 77 (.iaddr 2) [.t 75, .t 76]),
 (sP 78 (.faddr 1) [.t 77]),
 (sH 79 (.load false 1) [.t 78]),
 (sP 80 (.bin .sub .ifc) [.c (.int .i64 1), .t 79]),
 (sP 81 (.bld [(.int .i64 0), (.int .i64 0)] [(0, 1), (1, 1)]) [.t 74, .t 80]),
 (sHn (.store 2) [.t 6, .t 81])]))))))
 (.ops [
 (sP 82 (.bin .add .ifc) [.t 62, .c (.int .i64 1)]),
 (sM 62 82)]))))
def train_Fits_L0 : CCode := .bloop 0 [0, 6, 60, 61, 62] [] train_Fits_B0
def train_Fits_C : CCode :=
 (.seq
 (.ops [
 (sH 3 (.box 3) [.t 1]),
 (sP 4 .mov [.c (.bool false)])])
 (.seq
 (.ops [
 (sP 11 (.faddr 6) [.t 3]),
 (sH 12 (.load false 1) [.t 11]),
 (sM 5 12)])
 (.seq
 (.seq
 (.ops [
 (sM 13 5),
 (sP 14 .len [.t 13]),
 (sP 15 (.bin .lss .ifc) [.t 14, .c (.int .i64 1)]),
 (sM 16 15),
 (sG (sM 17 5) 16 false),
 (sG (sP 18 .len [.t 17]) 16 false),
 (sG (sP 19 (.bin .gtr .ifc) [.t 18, .c (.int .i64 12)]) 16 false),
 (sP 20 .pick [.t 16, .c (.bool true), .t 19]),
 (sM 21 20),
 (sG (sM 22 0) 21 false),
 (sG (sM 23 5) 21 false),
 (sG (sC 24 75 [.t 22, .t 23]) 21 false),
 (sG (sP 25 (.un .not) [.t 24]) 21 false),
 (sP 26 .pick [.t 21, .c (.bool true), .t 25]),
 (sM 27 26),
 (sG (sP 28 (.faddr 3) [.t 3]) 27 false),
 (sG (sH 29 (.load false 1) [.t 28]) 27 false),
 (sG (sP 30 (.bin .lss .ifc) [.t 29, .c (.int .i64 0)]) 27 false),
 (sP 31 .pick [.t 27, .c (.bool true), .t 30]),
 (sM 32 31),
 (sG (sP 33 (.faddr 3) [.t 3]) 32 false),
 (sG (sH 34 (.load false 1) [.t 33]) 32 false),
 (sG (sP 35 (.bin .gtr .ifc) [.t 34, .c (.int .i64 1)]) 32 false),
 (sP 36 .pick [.t 32, .c (.bool true), .t 35]),
 (sM 37 36),
 (sG (sP 38 (.faddr 4) [.t 3]) 37 false),
 (sG (sH 39 (.load false 1) [.t 38]) 37 false),
 (sG (sP 40 (.bin .lss .ifc) [.t 39, .c (.int .i64 0)]) 37 false),
 (sP 41 .pick [.t 37, .c (.bool true), .t 40]),
 (sM 42 41),
 (sG (sP 43 (.faddr 4) [.t 3]) 42 false),
 (sG (sH 44 (.load false 1) [.t 43]) 42 false),
 (sG (sM 45 0) 42 false),
 (sG (sM 46 5) 42 false),
 (sG (sP 47 (.iaddr 1) [.t 46, .c (.int .i64 0)]) 42 false),
 (sG (sH 48 (.load false 1) [.t 47]) 42 false),
 (sG (sC 49 67 [.t 45, .t 48]) 42 false),
 (sG (sP 50 (.bin .gtr .ifc) [.t 44, .t 49]) 42 false),
 (sP 51 .pick [.t 42, .c (.bool true), .t 50])])
 (.cond (.t 51)
 (.seq
 (.ops [
 (sP 4 .mov [.c (.bool false)])])
 (.ret [4]))
 .skip))
 (.seq
 (.ops [
 (sM 52 5),
 (sP 53 (.iaddr 1) [.t 52, .c (.int .i64 0)]),
 (sB 54 (.load false 1) [.t 53]),
 (sP 55 (.faddr 3) [.t 3]),
 (sL 56 3 (.load false 1) [.t 55]),
 (sP 57 (.bin .sub .ifc) [.c (.int .i64 1), .t 56]),
 (sP 58 (.bld [(.int .i64 0), (.int .i64 0)] [(0, 1), (1, 1)]) [.t 54, .t 57]),
 (sH 6 (.newl 6 [(.int .i64 0), (.int .i64 0)]) []),
 (sLn 6 (.store 2) [.t 6, .t 58])])
 (.seq
 (.seq
 (.ops [
 (sM 59 5),
 (sP 60 (.slc 1 true false) [.t 59, .c (.int .i64 1)]),
 (sP 61 .len [.t 60]),
 (sP 62 .mov [.c (.int .i64 0)])])
 train_Fits_L0)
 (.seq
 (.ops [
 (sP 4 .mov [.c (.bool true)])])
 (.ret [4])))))))
def train_Fits_I : FInfo := ⟨(.fz false), 2, train_Fits_C, [.tmp 4]⟩
def train_Fits_A : Ann := ⟨[8], [], [(0, [0, 6, 60, 61, 62], [])], [(1, [0, 6, 60, 61, 62])], [3, 6]⟩
abbrev n_train_Fits : Nat := 43

/-! ### balise/train.unlike -/
def train_unlike_B0 : CCode :=
 (.seq
 (.ops [
 (sP 10 (.bin .lss .ifc) [.t 9, .t 8])])
 (.seq
 (.cond (.t 10)
 .skip
 (.exit 0))
 (.seq
 (.block 1 (some [0, 1, 7, 8, 9])
 (.seq
 (.ops [
 (sM 11 9),
 (sP 12 (.iaddr 1) [.t 7, .t 9]),
 (sH 13 (.load false 1) [.t 12]),
 (sM 5 11),
 (sM 6 13)])
 (.seq
 (.ops [
 (sM 14 0),
 (sM 15 6),
 (sC 16 67 [.t 14, .t 15]),
 (sP 17 (.bin .eql .int) [.t 16, .c (.int .i64 0)]),
 (sM 18 17),
 (sG (sM 19 1) 18 false),
 (sG (sM 20 5) 18 false),
 (sG (sP 21 (.slc 1 false true) [.t 19, .t 20]) 18 false),
 (sG (sM 22 6) 18 false),
 (sG (sC 23 59 [.t 21, .t 22]) 18 false),
 (sP 24 .pick [.t 18, .c (.bool true), .t 23])])
 (.cond (.t 24)
 (.seq
 (.ops [
 (sP 4 .mov [.c (.bool false)])])
 (.ret [4]))
 .skip))))
 (.ops [
 (sP 25 (.bin .add .ifc) [.t 9, .c (.int .i64 1)]),
 (sM 9 25)]))))
def train_unlike_L0 : CCode := .bloop 0 [0, 1, 7, 8, 9] [] train_unlike_B0
def train_unlike_C : CCode :=
 (.seq
 (.ops [
 (sP 4 .mov [.c (.bool false)])])
 (.seq
 (.seq
 (.ops [
 (sM 7 1),
 (sP 8 .len [.t 7]),
 (sP 9 .mov [.c (.int .i64 0)])])
 train_unlike_L0)
 (.seq
 (.ops [
 (sP 4 .mov [.c (.bool true)])])
 (.ret [4]))))
def train_unlike_I : FInfo := ⟨(.fz false), 2, train_unlike_C, [.tmp 4]⟩
def train_unlike_A : Ann := ⟨[], [], [(0, [0, 1, 7, 8, 9], [])], [(1, [0, 1, 7, 8, 9])], []⟩
abbrev n_train_unlike : Nat := 75

/-! ### balise/train.Fits$1 -/
def train_Fits_1_C : CCode :=
 (.seq
 (.ops [
 (sH 2 (.box 2) [.t 0]),
 (sP 3 .mov [.c (.bool false)])])
 (.seq
 (.ops [
 (sP 4 (.faddr 0) [.t 2]),
 (sH 5 (.load false 1) [.t 4]),
 (sH 6 (.load false 1) [.t 1]),
 (sP 7 (.bin .eql .int) [.t 5, .t 6]),
 (sM 3 7)])
 (.ret [3])))
def train_Fits_1_I : FInfo := ⟨(.fz false), 2, train_Fits_1_C, [.tmp 3]⟩
def train_Fits_1_A : Ann := ⟨[], [], [], [], [2]⟩
abbrev n_train_Fits_1 : Nat := 78

/-! ### balise/baliseref04.Small -/
def r04_Small_B0 : CCode :=
 (.seq
 (.seq
 (.ops [
 (sM 4 3),
 (sP 5 (.faddr 8) [.t 1]),
 (sH 6 (.load false 1) [.t 5]),
 (sP 7 .len [.t 6]),
 (sP 8 (.bin .lss .ifc) [.t 4, .t 7])])
 (.cond (.t 8)
 .skip
 (.exit 0)))
 (.seq
 (.block 1 (some [1, 3])
 (.seq
 (.ops [
 (sP 11 (.faddr 8) [.t 1]),
 (sH 12 (.load false 1) [.t 11]),
 (sM 13 3),
 (sP 14 (.iaddr 1) [.t 12, .t 13]),
 (sH 15 (.load false 1) [.t 14]),
 (sP 16 .len [.t 15]),
 (sP 17 (.bin .gtr .ifc) [.t 16, .c (.int .i64 10)])])
 (.cond (.t 17)
 (.seq
 (.ops [
 (sP 2 .mov [.c (.bool false)])])
 (.ret [2]))
 .skip)))
 (.ops [
 (sM 9 3),
 (sP 10 (.bin .add .ifc) [.t 9, .c (.int .i64 1)]),
 (sM 3 10)])))
def r04_Small_L0 : CCode := .bloop 0 [1, 3] [1] r04_Small_B0
def r04_Small_C : CCode :=
 (.seq
 (.ops [
 (sH 1 (.box 1) [.t 0]),
 (sP 2 .mov [.c (.bool false)])])
 (.seq
 (.seq
 (.ops [
 (sP 3 .mov [.c (.int .i64 0)])])
 r04_Small_L0)
 (.seq
 (.ops [
 (sP 18 (.faddr 8) [.t 1]),
 (sH 19 (.load false 1) [.t 18]),
 (sP 20 .len [.t 19]),
 (sP 21 (.bin .leq .ifc) [.t 20, .c (.int .i64 20)]),
 (sM 2 21)])
 (.ret [2]))))
def r04_Small_I : FInfo := ⟨(.fz false), 1, r04_Small_C, [.tmp 2]⟩
def r04_Small_A : Ann := ⟨[], [], [(0, [1, 3], [1])], [(1, [1, 3])], [1]⟩
abbrev n_r04_Small : Nat := 25

/-! ### balise/baliseref05.Full -/
def r05_Full_B0 : CCode :=
 (.seq
 (.seq
 (.ops [
 (sM 9 4),
 (sP 10 (.faddr 8) [.t 1]),
 (sH 11 (.load false 1) [.t 10]),
 (sP 12 .len [.t 11]),
 (sP 13 (.bin .lss .ifc) [.t 9, .t 12]),
 (sM 14 13),
 (sG (sP 15 (.faddr 4) [.t 3]) 14 true),
 (sG (sH 16 (.load false 1) [.t 15]) 14 true),
 (sG (sP 17 .len [.t 16]) 14 true),
 (sG (sP 18 (.bin .lss .ifc) [.t 17, .c (.int .i64 16)]) 14 true),
 (sP 19 .pick [.t 14, .t 18, .c (.bool false)])])
 (.cond (.t 19)
 .skip
 (.exit 0)))
 (.seq
 (.block 1 (some [1, 2, 3, 4])
 (.seq
 (.ops [
 (sP 22 (.faddr 8) [.t 1]),
 (sH 23 (.load false 1) [.t 22]),
 (sM 24 4),
 (sP 25 (.iaddr 1) [.t 23, .t 24]),
 (sH 26 (.load false 1) [.t 25]),
 (sM 5 26)])
 (.seq
 (.seq
 (.ops [
 (sM 27 5),
 (sP 28 .len [.t 27]),
 (sP 29 (.bin .lss .ifc) [.t 28, .c (.int .i64 2)])])
 (.cond (.t 29)
 (.exit 1)
 .skip))
 (.seq
 (.ops [
 (sH 30 (.load true 10) [.t 3]),
 (sM 31 5),
 (sP 32 (.iaddr 1) [.t 31, .c (.int .i64 0)]),
 (sH 33 (.load false 1) [.t 32]),
 (sP 34 (.toInt .i64) [.t 33]),
 (sP 35 (.faddr 1) [.t 3]),
 (sH 36 (.load false 1) [.t 35]),
 (sP 37 .len [.t 36]),
 (sP 38 (.bin .rem .ifc) [.t 34, .t 37]),
 (sM 39 5),
 (sP 40 (.iaddr 1) [.t 39, .c (.int .i64 0)]),
 (sH 41 (.load false 1) [.t 40]),
 (sP 42 (.bin .quo .ifc) [.t 41, .c (.int .u8 128)]),
 (sP 43 (.toInt .i64) [.t 42]),
 (sM 44 5),
 (sP 45 (.slc 1 true false) [.t 44, .c (.int .i64 2)]),
 (sM 46 5),
 (sP 47 (.iaddr 1) [.t 46, .c (.int .i64 1)]),
 (sH 48 (.load false 1) [.t 47]),
 (sP 49 (.bin .rem .ifc) [.t 48, .c (.int .u8 5)]),
 (sP 50 (.toInt .i64) [.t 49]),
 (sP 51 (.bin .add .ifc) [.c (.int .i64 2), .t 50]),
 (sC 52 48 [.t 30, .t 38, .t 43, .t 45, .t 51]),
 (sM 6 52)])
 (.seq
 (.ops [
 (sM 53 6),
 (sP 54 .len [.t 53]),
 (sP 55 (.bin .geq .ifc) [.t 54, .c (.int .i64 2)])])
 (.cond (.t 55)
 (.ops [
 (sP 56 (.faddr 4) [.t 3]),
 (sH 57 (.load false 1) [.t 56]),
 (sM 58 6),
 (sH 59 (.bslF 1 1 [.nils] [(0, 1)]) [.t 58]),
 (sH 60 (.app 1 24 [.nils]) [.t 57, .t 59]),
 (sP 61 (.faddr 4) [.t 3]),
 (sHn (.store 1) [.t 61, .t 60])])
 .skip))))))
 (.ops [
 (sM 20 4),
 (sP 21 (.bin .add .ifc) [.t 20, .c (.int .i64 1)]),
 (sM 4 21)])))
def r05_Full_L0 : CCode := .bloop 0 [1, 2, 3, 4] [2, 3] r05_Full_B0
def r05_Full_C : CCode :=
 (.seq
 (.ops [
 (sH 1 (.box 1) [.t 0]),
 (sH 2 (.newl 2 [.nils, .nils, .nils, .nils, .nils, (.int .i64 0), (.int .i64 0), (.int .i64 0), (.int .i64 0), (.int .i64 0)]) [])])
 (.seq
 (.ops [
 (sH 7 (.load true 9) [.t 1]),
 (sC 8 47 [.t 7]),
 (sH 3 (.newl 3 [.nils, .nils, .nils, .nils, .nils, (.int .i64 0), (.int .i64 0), (.int .i64 0), (.int .i64 0), (.int .i64 0)]) []),
 (sHn (.store 10) [.t 3, .t 8])])
 (.seq
 (.seq
 (.ops [
 (sP 4 .mov [.c (.int .i64 0)])])
 r05_Full_L0)
 (.seq
 (.ops [
 (sH 62 (.load true 10) [.t 3]),
 (sHn (.store 10) [.t 2, .t 62])])
 (.ret [2])))))
def r05_Full_I : FInfo := ⟨(.fz false), 1, r05_Full_C, [.cell 2 true 10]⟩
def r05_Full_A : Ann := ⟨[], [], [(0, [1, 2, 3, 4], [2, 3])], [(1, [1, 2, 3, 4])], [1, 2, 3]⟩
abbrev n_r05_Full : Nat := 26

/-! ### balise/baliseref04.Make -/
def r04_Make_B1 : CCode :=
 (.seq
 (.seq
 (.ops [
 (sM 67 9),
 (sM 68 8),
 (sP 69 (.bin .leq .ifc) [.t 67, .t 68])])
 (.cond (.t 69)
 .skip
 (.exit 1)))
 (.seq
 (.block 2 (some [1, 2, 3, 6, 7, 8, 9])
 (.ops [
 (sP 72 (.faddr 0) [.t 6]),
 (sH 73 (.load false 1) [.t 72]),
 (sM 74 3),
 (sM 75 9),
 (sP 76 (.bin .mul .ifc) [.t 74, .t 75]),
 (sP 77 (.toFloat .f64) [.t 76]),
 (sP 78 .cplx [.t 77, .c (.float .f64 0)]),
 (sH 79 (.bslF 1 1 [(.cplx .f64 0 0)] [(0, 1)]) [.t 78]),
 (sH 80 (.app 1 16 [(.cplx .f64 0 0)]) [.t 73, .t 79]),
 (sP 81 (.faddr 0) [.t 6]),
 (sHn (.store 1) [.t 81, .t 80])]))
 (.ops [
 (sM 70 9),
 (sP 71 (.bin .add .ifc) [.t 70, .c (.int .i64 1)]),
 (sM 9 71)])))
def r04_Make_L1 : CCode := .bloop 1 [1, 2, 3, 6, 7, 8, 9] [1, 2, 3, 6, 7, 8] r04_Make_B1

def r04_Make_B3 : CCode :=
 (.seq
 (.seq
 (.ops [
 (sM 82 10),
 (sM 83 8),
 (sP 84 (.bin .lss .ifc) [.t 82, .t 83])])
 (.cond (.t 84)
 .skip
 (.exit 3)))
 (.seq
 (.block 4 (some [1, 2, 3, 6, 7, 8, 10])
 (.ops [
 (sM 87 7),
 (sM 88 10),
 (sM 89 10),
 (sP 90 (.bin .add .ifc) [.t 89, .c (.int .i64 1)]),
 (sP 91 (.bld [(.int .i64 0), (.int .i64 0)] [(0, 1), (1, 1)]) [.t 88, .t 90]),
 (sH 92 (.bslF 2 1 [(.int .i64 0), (.int .i64 0)] [(0, 2)]) [.t 91]),
 (sH 93 (.app 2 16 [(.int .i64 0), (.int .i64 0)]) [.t 87, .t 92]),
 (sM 7 93)]))
 (.ops [
 (sM 85 10),
 (sP 86 (.bin .add .ifc) [.t 85, .c (.int .i64 1)]),
 (sM 10 86)])))
def r04_Make_L3 : CCode := .bloop 3 [1, 2, 3, 6, 7, 8, 10] [1, 2, 3, 6, 7] r04_Make_B3

def r04_Make_B5 : CCode :=
 (.seq
 (.seq
 (.ops [
 (sM 150 11),
 (sM 151 7),
 (sP 152 .len [.t 151]),
 (sP 153 (.bin .lss .ifc) [.t 150, .t 152])])
 (.cond (.t 153)
 .skip
 (.exit 5)))
 (.seq
 (.block 6 (some [1, 2, 3, 6, 7, 11])
 (.ops [
 (sP 156 (.faddr 1) [.t 6]),
 (sH 157 (.load false 1) [.t 156]),
 (sM 158 3),
 (sP 159 (.bin .mul .ifc) [.c (.int .i64 2), .t 158]),
 (sM 160 11),
 (sP 161 (.bin .rem .ifc) [.t 160, .c (.int .i64 3)]),
 (sP 162 (.bin .add .ifc) [.t 159, .t 161]),
 (sM 163 7),
 (sM 164 11),
 (sP 165 (.iaddr 2) [.t 163, .t 164]),
 (sP 166 (.iaddrA 2 1) [.t 165, .c (.int .i64 0)]),
 (sH 167 (.load false 1) [.t 166]),
 (sM 168 7),
 (sM 169 11),
 (sP 170 (.iaddr 2) [.t 168, .t 169]),
 (sP 171 (.iaddrA 2 1) [.t 170, .c (.int .i64 1)]),
 (sH 172 (.load false 1) [.t 171]),
 (sP 173 (.bld [(.int .i64 0), (.int .i64 0), (.int .i64 0)] [(0, 1), (1, 1), (2, 1)]) [.t 162, .t 167, .t 172]),
 (sH 174 (.bslF 3 1 [(.int .i64 0), (.int .i64 0), (.int .i64 0)] [(0, 3)]) [.t 173]),
 (sH 175 (.app 3 24 [(.int .i64 0), (.int .i64 0), (.int .i64 0)]) [.t 157, .t 174]),
 (sP 176 (.faddr 1) [.t 6]),
 (sHn (.store 1) [.t 176, .t 175])]))
 (.ops [
 (sM 154 11),
 (sP 155 (.bin .add .ifc) [.t 154, .c (.int .i64 1)]),
 (sM 11 155)])))
def r04_Make_L5 : CCode := .bloop 5 [1, 2, 3, 6, 7, 11] [1, 2, 3, 6, 7] r04_Make_B5

def r04_Make_B7 : CCode :=
 (.seq
 (.seq
 (.ops [
 (sM 177 12),
 (sM 178 7),
 (sP 179 .len [.t 178]),
 (sP 180 (.bin .lss .ifc) [.t 177, .t 179])])
 (.cond (.t 180)
 .skip
 (.exit 7)))
 (.seq
 (.block 8 (some [1, 2, 3, 6, 7, 12])
 (.seq
 (.ops [
 (sM 183 12),
 (sP 184 (.bin .gtr .ifc) [.t 183, .c (.int .i64 0)]),
 (sM 185 184),
 (sG (sP 186 (.faddr 7) [.t 1]) 185 true),
 (sG (sH 187 (.load false 1) [.t 186]) 185 true),
 (sG (sM 188 12) 185 true),
 (sG (sP 189 (.bin .rem .ifc) [.t 188, .c (.int .i64 8)]) 185 true),
 (sG (sP 190 (.bin .shr .ifc) [.t 187, .t 189]) 185 true),
 (sG (sP 191 (.bin .rem .ifc) [.t 190, .c (.int .u8 2)]) 185 true),
 (sG (sP 192 (.bin .eql .int) [.t 191, .c (.int .u8 1)]) 185 true),
 (sP 193 .pick [.t 185, .t 192, .c (.bool false)])])
 (.cond (.t 193)
 (.ops [
 (sP 194 (.faddr 2) [.t 6]),
 (sL 195 6 (.load false 1) [.t 194]),
 (sP 196 (.faddr 2) [.t 6]),
 (sL 197 6 (.load false 1) [.t 196]),
 (sP 198 .len [.t 197]),
 (sP 199 (.bin .sub .ifc) [.t 198, .c (.int .i64 1)]),
 (sP 200 (.faddr 2) [.t 6]),
 (sL 201 6 (.load false 1) [.t 200]),
 (sP 202 (.faddr 2) [.t 6]),
 (sL 203 6 (.load false 1) [.t 202]),
 (sP 204 .len [.t 203]),
 (sP 205 (.bin .sub .ifc) [.t 204, .c (.int .i64 1)]),
 (sP 206 (.iaddr 1) [.t 201, .t 205]),
 (sB 207 (.load false 1) [.t 206]),
 (sM 208 12),
 (sH 209 (.bslF 1 1 [(.int .i64 0)] [(0, 1)]) [.t 208]),
 (sB 210 (.app 1 8 [(.int .i64 0)]) [.t 207, .t 209]),
 (sP 211 (.iaddr 1) [.t 195, .t 199]),
 (sBn (.store 1) [.t 211, .t 210])])
 (.ops [
 (sP 212 (.faddr 2) [.t 6]),
 (sH 213 (.load false 1) [.t 212]),
 (sM 214 12),
 (sH 215 (.bslO 1 1 [(.int .i64 0)] [(0, 1)]) [.t 214]),
 (sH 216 (.bslO 1 1 [.nils] [(0, 1)]) [.t 215]),
 (sH 217 (.app 1 24 [.nils]) [.t 213, .t 216]),
 (sP 218 (.faddr 2) [.t 6]),
 (sHn (.store 1) [.t 218, .t 217])]))))
 (.ops [
 (sM 181 12),
 (sP 182 (.bin .add .ifc) [.t 181, .c (.int .i64 1)]),
 (sM 12 182)])))
def r04_Make_L7 : CCode := .bloop 7 [1, 2, 3, 6, 7, 12] [1, 2, 3, 6] r04_Make_B7
def r04_Make_C : CCode :=
 (.seq
 (.ops [
 (sH 1 (.box 1) [.t 0]),
 (sH 2 (.newl 2 [.nils, .nils, .nils, .nils, .nils, (.int .i64 0), (.int .i64 0), (.int .i64 0), (.int .i64 0), (.int .i64 0)]) [])])
 (.seq
 (.ops [
 (sP 13 (.faddr 1) [.t 1]),
 (sH 14 (.load false 1) [.t 13]),
 (sP 15 (.bin .rem .ifc) [.t 14, .c (.int .u8 20)]),
 (sP 16 (.toInt .i64) [.t 15]),
 (sP 17 (.bin .add .ifc) [.c (.int .i64 1), .t 16]),
 (sP 18 (.bin .mul .ifc) [.c (.int .i64 10), .t 17]),
 (sM 3 18)])
 (.seq
 (.ops [
 (sM 19 3),
 (sP 20 (.toFloat .f64) [.t 19]),
 (sP 21 .cplx [.t 20, .c (.float .f64 0)]),
 (sM 4 21)])
 (.seq
 (.ops [
 (sM 22 3),
 (sP 23 (.toFloat .f64) [.t 22]),
 (sP 24 .cplx [.c (.float .f64 0), .t 23]),
 (sM 5 24)])
 (.seq
 (.ops [
 (sH 6 (.newl 6 [.nils, .nils, .nils, .nils, .nils, (.int .i64 0), (.int .i64 0), (.int .i64 0), (.int .i64 0), (.int .i64 0)]) [])])
 (.seq
 (.ops [
 (sP 7 .mov [.c .nils])])
 (.seq
 (.seq
 (.ops [
 (sP 25 (.faddr 0) [.t 1]),
 (sH 26 (.load false 1) [.t 25]),
 (sP 27 (.bin .rem .ifc) [.t 26, .c (.int .u8 4)])])
 (.block 0 (some [1, 2, 3, 6, 7])
 (.seq
 (.ops [
 (sP 60 (.bin .eql .int) [.t 27, .c (.int .u8 0)]),
 (sM 59 60)])
 (.cond (.t 59)
 (.seq
 (.ops [
 (sP 61 (.faddr 0) [.t 1]),
 (sH 62 (.load false 1) [.t 61]),
 (sP 63 (.bin .quo .ifc) [.t 62, .c (.int .u8 4)]),
 (sP 64 (.bin .rem .ifc) [.t 63, .c (.int .u8 6)]),
 (sP 65 (.toInt .i64) [.t 64]),
 (sP 66 (.bin .add .ifc) [.c (.int .i64 3), .t 65]),
 (sM 8 66)])
 (.seq
 (.seq
 (.ops [
 (sP 9 .mov [.c (.int .i64 0)])])
 r04_Make_L1)
 (.seq
 (.ops [
 (sP 10 .mov [.c (.int .i64 0)])])
 r04_Make_L3)))
 (.seq
 (.ops [
 (sP 95 (.bin .eql .int) [.t 27, .c (.int .u8 1)]),
 (sM 94 95)])
 (.cond (.t 94)
 (.seq
 (.ops [
 (sM 96 4),
 (sM 97 4),
 (sP 98 (.bin .mul .ifc) [.c (.cplx .f64 4611686018427387904 0), .t 97]),
 (sM 99 5),
 (sP 100 (.bin .add .ifc) [.t 98, .t 99]),
 (sM 101 4),
 (sP 102 (.bin .mul .ifc) [.c (.cplx .f64 4611686018427387904 0), .t 101]),
 (sM 103 5),
 (sP 104 (.bin .sub .ifc) [.t 102, .t 103]),
 (sH 105 (.bslF 1 4 [(.cplx .f64 0 0)] [(0, 1), (1, 1), (2, 1), (3, 1)]) [.c (.cplx .f64 0 0), .t 96, .t 100, .t 104]),
 (sP 106 (.faddr 0) [.t 6]),
 (sHn (.store 1) [.t 106, .t 105])])
 (.seq
 (.ops [
 (sP 107 (.bld [(.int .i64 0), (.int .i64 0)] [(0, 1), (1, 1)]) [.c (.int .i64 0), .c (.int .i64 1)]),
 (sP 108 (.bld [(.int .i64 0), (.int .i64 0)] [(0, 1), (1, 1)]) [.c (.int .i64 1), .c (.int .i64 2)]),
 (sP 109 (.bld [(.int .i64 0), (.int .i64 0)] [(0, 1), (1, 1)]) [.c (.int .i64 3), .c (.int .i64 1)]),
 (sH 110 (.bslO 2 3 [(.int .i64 0), (.int .i64 0)] [(0, 2), (2, 2), (4, 2)]) [.t 107, .t 108, .t 109]),
 (sM 7 110)])
 (.ops [
 (sP 111 (.bld [(.int .i64 0), (.int .i64 0), (.int .i64 0), (.int .i64 0)] [(0, 1), (1, 1), (2, 1), (3, 1)]) [.c (.int .i64 1), .c (.int .i64 0), .c (.int .i64 1), .c (.int .i64 2)]),
 (sH 112 (.bslF 4 1 [(.int .i64 0), (.int .i64 0), (.int .i64 0), (.int .i64 0)] [(0, 4)]) [.t 111]),
 (sP 113 (.faddr 3) [.t 6]),
 (sHn (.store 1) [.t 113, .t 112])])))
 (.seq
 (.ops [
 (sP 115 (.bin .eql .int) [.t 27, .c (.int .u8 2)]),
 (sM 114 115)])
 (.cond (.t 114)
 (.seq
 (.ops [
 (sM 116 4),
 (sM 117 4),
 (sP 118 (.bin .mul .ifc) [.c (.cplx .f64 4611686018427387904 0), .t 117]),
 (sM 119 4),
 (sP 120 (.bin .mul .ifc) [.c (.cplx .f64 4613937818241073152 0), .t 119]),
 (sM 121 5),
 (sP 122 (.bin .quo .ifc) [.t 121, .c (.cplx .f64 4611686018427387904 0)]),
 (sP 123 (.bin .add .ifc) [.t 120, .t 122]),
 (sM 124 4),
 (sP 125 (.bin .mul .ifc) [.c (.cplx .f64 4613937818241073152 0), .t 124]),
 (sM 126 5),
 (sP 127 (.bin .quo .ifc) [.t 126, .c (.cplx .f64 4611686018427387904 0)]),
 (sP 128 (.bin .sub .ifc) [.t 125, .t 127]),
 (sM 129 4),
 (sP 130 (.bin .mul .ifc) [.c (.cplx .f64 4616189618054758400 0), .t 129]),
 (sM 131 4),
 (sP 132 (.bin .mul .ifc) [.c (.cplx .f64 4617315517961601024 0), .t 131]),
 (sM 133 4),
 (sP 134 (.bin .mul .ifc) [.c (.cplx .f64 4618441417868443648 0), .t 133]),
 (sH 135 (.bslF 1 8 [(.cplx .f64 0 0)] [(0, 1), (1, 1), (2, 1), (3, 1), (4, 1), (5, 1), (6, 1), (7, 1)]) [.c (.cplx .f64 0 0), .t 116, .t 118, .t 123, .t 128, .t 130, .t 132, .t 134]),
 (sP 136 (.faddr 0) [.t 6]),
 (sHn (.store 1) [.t 136, .t 135])])
 (.seq
 (.ops [
 (sP 137 (.bld [(.int .i64 0), (.int .i64 0)] [(0, 1), (1, 1)]) [.c (.int .i64 0), .c (.int .i64 1)]),
 (sP 138 (.bld [(.int .i64 0), (.int .i64 0)] [(0, 1), (1, 1)]) [.c (.int .i64 1), .c (.int .i64 2)]),
 (sP 139 (.bld [(.int .i64 0), (.int .i64 0)] [(0, 1), (1, 1)]) [.c (.int .i64 2), .c (.int .i64 3)]),
 (sP 140 (.bld [(.int .i64 0), (.int .i64 0)] [(0, 1), (1, 1)]) [.c (.int .i64 2), .c (.int .i64 4)]),
 (sP 141 (.bld [(.int .i64 0), (.int .i64 0)] [(0, 1), (1, 1)]) [.c (.int .i64 5), .c (.int .i64 3)]),
 (sP 142 (.bld [(.int .i64 0), (.int .i64 0)] [(0, 1), (1, 1)]) [.c (.int .i64 4), .c (.int .i64 5)]),
 (sP 143 (.bld [(.int .i64 0), (.int .i64 0)] [(0, 1), (1, 1)]) [.c (.int .i64 5), .c (.int .i64 6)]),
 (sP 144 (.bld [(.int .i64 0), (.int .i64 0)] [(0, 1), (1, 1)]) [.c (.int .i64 6), .c (.int .i64 7)]),
 (sH 145 (.bslO 2 8 [(.int .i64 0), (.int .i64 0)] [(0, 2), (2, 2), (4, 2), (6, 2), (8, 2), (10, 2), (12, 2), (14, 2)]) [.t 137, .t 138, .t 139, .t 140, .t 141, .t 142, .t 143, .t 144]),
 (sM 7 145)])
 (.ops [
 (sP 146 (.bld [(.int .i64 0), (.int .i64 0), (.int .i64 0), (.int .i64 0)] [(0, 1), (1, 1), (2, 1), (3, 1)]) [.c (.int .i64 2), .c (.int .i64 1), .c (.int .i64 2), .c (.int .i64 3)]),
 (sP 147 (.bld [(.int .i64 0), (.int .i64 0), (.int .i64 0), (.int .i64 0)] [(0, 1), (1, 1), (2, 1), (3, 1)]) [.c (.int .i64 5), .c (.int .i64 6), .c (.int .i64 4), .c (.int .i64 5)]),
 (sH 148 (.bslF 4 2 [(.int .i64 0), (.int .i64 0), (.int .i64 0), (.int .i64 0)] [(0, 4), (4, 4)]) [.t 146, .t 147]),
 (sP 149 (.faddr 3) [.t 6]),
 (sHn (.store 1) [.t 149, .t 148])])))
 (.seq
 (.ops [
 (sM 28 4),
 (sM 29 4),
 (sP 30 (.bin .mul .ifc) [.c (.cplx .f64 4611686018427387904 0), .t 29]),
 (sM 31 4),
 (sP 32 (.bin .mul .ifc) [.c (.cplx .f64 4613937818241073152 0), .t 31]),
 (sM 33 5),
 (sP 34 (.bin .add .ifc) [.t 32, .t 33]),
 (sM 35 4),
 (sP 36 (.bin .mul .ifc) [.c (.cplx .f64 4613937818241073152 0), .t 35]),
 (sM 37 5),
 (sP 38 (.bin .sub .ifc) [.t 36, .t 37]),
 (sM 39 4),
 (sP 40 (.bin .mul .ifc) [.c (.cplx .f64 4616189618054758400 0), .t 39]),
 (sM 41 5),
 (sP 42 (.bin .add .ifc) [.t 40, .t 41]),
 (sM 43 4),
 (sP 44 (.bin .mul .ifc) [.c (.cplx .f64 4616189618054758400 0), .t 43]),
 (sM 45 5),
 (sP 46 (.bin .sub .ifc) [.t 44, .t 45]),
 (sH 47 (.bslF 1 7 [(.cplx .f64 0 0)] [(0, 1), (1, 1), (2, 1), (3, 1), (4, 1), (5, 1), (6, 1)]) [.c (.cplx .f64 0 0), .t 28, .t 30, .t 34, .t 38, .t 42, .t 46]),
 (sP 48 (.faddr 0) [.t 6]),
 (sHn (.store 1) [.t 48, .t 47])])
 (.seq
 (.ops [
 (sP 49 (.bld [(.int .i64 0), (.int .i64 0)] [(0, 1), (1, 1)]) [.c (.int .i64 0), .c (.int .i64 1)]),
 (sP 50 (.bld [(.int .i64 0), (.int .i64 0)] [(0, 1), (1, 1)]) [.c (.int .i64 2), .c (.int .i64 1)]),
 (sP 51 (.bld [(.int .i64 0), (.int .i64 0)] [(0, 1), (1, 1)]) [.c (.int .i64 2), .c (.int .i64 3)]),
 (sP 52 (.bld [(.int .i64 0), (.int .i64 0)] [(0, 1), (1, 1)]) [.c (.int .i64 2), .c (.int .i64 4)]),
 (sP 53 (.bld [(.int .i64 0), (.int .i64 0)] [(0, 1), (1, 1)]) [.c (.int .i64 3), .c (.int .i64 5)]),
 (sP 54 (.bld [(.int .i64 0), (.int .i64 0)] [(0, 1), (1, 1)]) [.c (.int .i64 4), .c (.int .i64 6)]),
 (sH 55 (.bslO 2 6 [(.int .i64 0), (.int .i64 0)] [(0, 2), (2, 2), (4, 2), (6, 2), (8, 2), (10, 2)]) [.t 49, .t 50, .t 51, .t 52, .t 53, .t 54]),
 (sM 7 55)])
 (.ops [
 (sP 56 (.bld [(.int .i64 0), (.int .i64 0), (.int .i64 0), (.int .i64 0)] [(0, 1), (1, 1), (2, 1), (3, 1)]) [.c (.int .i64 2), .c (.int .i64 1), .c (.int .i64 3), .c (.int .i64 2)]),
 (sH 57 (.bslF 4 1 [(.int .i64 0), (.int .i64 0), (.int .i64 0), (.int .i64 0)] [(0, 4)]) [.t 56]),
 (sP 58 (.faddr 3) [.t 6]),
 (sHn (.store 1) [.t 58, .t 57])])))))))))))
 (.seq
 (.seq
 (.ops [
 (sP 11 .mov [.c (.int .i64 0)])])
 r04_Make_L5)
 (.seq
 (.seq
 (.ops [
 (sP 12 .mov [.c (.int .i64 0)])])
 r04_Make_L7)
 (.seq
 (.ops [
 (sP 219 (.faddr 2) [.t 1]),
 (sH 220 (.load false 1) [.t 219]),
 (sP 221 (.toInt .i64) [.t 220]),
 (sM 222 3),
 (sP 223 (.bin .mul .ifc) [.c (.int .i64 2), .t 222]),
 (sP 224 (.bin .rem .ifc) [.t 221, .t 223]),
 (sP 225 (.bin .add .ifc) [.c (.int .i64 1), .t 224]),
 (sP 226 (.faddr 5) [.t 6]),
 (sHn (.store 1) [.t 226, .t 225])])
 (.seq
 (.ops [
 (sP 227 (.faddr 3) [.t 1]),
 (sL 228 1 (.load false 1) [.t 227]),
 (sP 229 (.bin .rem .ifc) [.t 228, .c (.int .u16 1000)]),
 (sP 230 (.toInt .i64) [.t 229]),
 (sP 231 (.bin .add .ifc) [.c (.int .i64 1), .t 230]),
 (sP 232 (.faddr 4) [.t 1]),
 (sL 233 1 (.load false 1) [.t 232]),
 (sP 234 (.bin .rem .ifc) [.t 233, .c (.int .u16 1000)]),
 (sP 235 (.toInt .i64) [.t 234]),
 (sP 236 (.bin .add .ifc) [.c (.int .i64 1), .t 235]),
 (sP 237 (.faddr 5) [.t 1]),
 (sL 238 1 (.load false 1) [.t 237]),
 (sP 239 (.toInt .i64) [.t 238]),
 (sP 240 (.bin .add .ifc) [.c (.int .i64 1), .t 239]),
 (sP 241 (.faddr 6) [.t 1]),
 (sL 242 1 (.load false 1) [.t 241]),
 (sP 243 (.bin .rem .ifc) [.t 242, .c (.int .u8 4)]),
 (sP 244 (.toInt .i64) [.t 243]),
 (sP 245 (.faddr 6) [.t 6]),
 (sLn 6 (.store 1) [.t 245, .t 231]),
 (sP 246 (.faddr 7) [.t 6]),
 (sLn 6 (.store 1) [.t 246, .t 236]),
 (sP 247 (.faddr 8) [.t 6]),
 (sLn 6 (.store 1) [.t 247, .t 240]),
 (sP 248 (.faddr 9) [.t 6]),
 (sLn 6 (.store 1) [.t 248, .t 244])])
 (.seq
 (.ops [
 (sH 249 (.load true 10) [.t 6]),
 (sHn (.store 10) [.t 2, .t 249])])
 (.ret [2])))))))))))))
def r04_Make_I : FInfo := ⟨(.fz true), 1, r04_Make_C, [.cell 2 true 10]⟩
def r04_Make_A : Ann := ⟨[], [55, 110, 145, 215, 216], [(1, [1, 2, 3, 6, 7, 8, 9], [1, 2, 3, 6, 7, 8]), (3, [1, 2, 3, 6, 7, 8, 10], [1, 2, 3, 6, 7]), (5, [1, 2, 3, 6, 7, 11], [1, 2, 3, 6, 7]), (7, [1, 2, 3, 6, 7, 12], [1, 2, 3, 6])], [(0, [1, 2, 3, 6, 7]), (2, [1, 2, 3, 6, 7, 8, 9]), (4, [1, 2, 3, 6, 7, 8, 10]), (6, [1, 2, 3, 6, 7, 11]), (8, [1, 2, 3, 6, 7, 12])], [1, 2, 6]⟩
abbrev n_r04_Make : Nat := 47

/-! ### balise/baliseref05.Walk -/
def r05_Walk_B0 : CCode :=
 (.seq
 (.seq
 (.ops [
 (sM 21 11),
 (sP 22 .len [.t 21]),
 (sM 23 4),
 (sP 24 (.bin .lss .ifc) [.t 22, .t 23])])
 (.cond (.t 24)
 .skip
 (.exit 0)))
 (.seq
 (.block 1 (some [3, 4, 5, 11, 12, 13])
 (.seq
 (.ops [
 (sH 27 (.load true 10) [.t 5]),
 (sH 28 (.load true 2) [.t 12]),
 (sC 29 79 [.t 27, .t 28]),
 (sM 14 29)])
 (.seq
 (.seq
 (.ops [
 (sM 30 14),
 (sP 31 .len [.t 30]),
 (sP 32 (.bin .eql .int) [.t 31, .c (.int .i64 0)])])
 (.cond (.t 32)
 (.seq
 (.ops [
 (sM 33 11),
 (sM 10 33)])
 (.ret [10]))
 .skip))
 (.seq
 (.ops [
 (sP 15 .mov [.c (.int .i64 0)])])
 (.seq
 (.seq
 (.ops [
 (sM 34 13),
 (sM 35 3),
 (sP 36 .len [.t 35]),
 (sP 37 (.bin .lss .ifc) [.t 34, .t 36])])
 (.cond (.t 37)
 (.ops [
 (sM 38 3),
 (sM 39 13),
 (sP 40 (.iaddr 1) [.t 38, .t 39]),
 (sH 41 (.load false 1) [.t 40]),
 (sP 42 (.toInt .i64) [.t 41]),
 (sM 43 14),
 (sP 44 .len [.t 43]),
 (sP 45 (.bin .rem .ifc) [.t 42, .t 44]),
 (sM 15 45)])
 .skip))
 (.seq
 (.seq
 (.ops [
 (sM 46 11),
 (sM 47 14),
 (sM 48 15),
 (sP 49 (.iaddr 2) [.t 47, .t 48]),
 (sP 50 (.faddr 0) [.t 49]),
 (sH 51 (.load false 1) [.t 50]),
 (sC 52 22 [.t 46, .t 51])])
 (.cond (.t 52)
 (.seq
 (.ops [
 (sM 53 11),
 (sM 10 53)])
 (.ret [10]))
 .skip))
 (.seq
 (.ops [
 (sM 54 11),
 (sM 55 14),
 (sM 56 15),
 (sP 57 (.iaddr 2) [.t 55, .t 56]),
 (sP 58 (.faddr 0) [.t 57]),
 (sH 59 (.load false 1) [.t 58]),
 (sH 60 (.bslF 1 1 [(.int .i64 0)] [(0, 1)]) [.t 59]),
 (sH 61 (.app 1 8 [(.int .i64 0)]) [.t 54, .t 60]),
 (sM 11 61)])
 (.ops [
 (sM 62 14),
 (sM 63 15),
 (sP 64 (.iaddr 2) [.t 62, .t 63]),
 (sP 65 (.faddr 0) [.t 64]),
 (sH 66 (.load false 1) [.t 65]),
 (sM 67 14),
 (sM 68 15),
 (sP 69 (.iaddr 2) [.t 67, .t 68]),
 (sP 70 (.faddr 1) [.t 69]),
 (sH 71 (.load false 1) [.t 70]),
 (sP 72 (.bin .sub .ifc) [.c (.int .i64 1), .t 71]),
 (sP 73 (.bld [(.int .i64 0), (.int .i64 0)] [(0, 1), (1, 1)]) [.t 66, .t 72]),
 (sHn (.store 2) [.t 12, .t 73])]))))))))
 (.ops [
 (sM 25 13),
 (sP 26 (.bin .add .ifc) [.t 25, .c (.int .i64 1)]),
 (sM 13 26)])))
def r05_Walk_L0 : CCode := .bloop 0 [3, 4, 5, 11, 12, 13] [11] r05_Walk_B0
def r05_Walk_C : CCode :=
 (.seq
 (.ops [
 (sH 5 (.box 5) [.t 0]),
 (sP 10 .mov [.c .nils])])
 (.seq
 (.ops [
 (sM 16 1),
 (sH 17 (.bslO 1 1 [(.int .i64 0)] [(0, 1)]) [.t 16]),
 (sM 11 17)])
 (.seq
 (.ops [
 (sM 18 1),
 (sM 19 2),
 (sP 20 (.bld [(.int .i64 0), (.int .i64 0)] [(0, 1), (1, 1)]) [.t 18, .t 19]),
 (sH 12 (.newl 12 [(.int .i64 0), (.int .i64 0)]) []),
 (sHn (.store 2) [.t 12, .t 20])])
 (.seq
 (.seq
 (.ops [
 (sP 13 .mov [.c (.int .i64 0)])])
 r05_Walk_L0)
 (.seq
 (.ops [
 (sM 74 11),
 (sM 10 74)])
 (.ret [10]))))))
def r05_Walk_I : FInfo := ⟨(.fz false), 5, r05_Walk_C, [.tmp 10]⟩
def r05_Walk_A : Ann := ⟨[], [17], [(0, [3, 4, 5, 11, 12, 13], [11])], [(1, [3, 4, 5, 11, 12, 13])], [5, 12]⟩
abbrev n_r05_Walk : Nat := 48

/-! ### balise/baliseref01.Has -/
def r01_Has_B0 : CCode :=
 (.seq
 (.seq
 (.ops [
 (sM 6 5),
 (sM 7 0),
 (sP 8 .len [.t 7]),
 (sP 9 (.bin .lss .ifc) [.t 6, .t 8])])
 (.cond (.t 9)
 .skip
 (.exit 0)))
 (.seq
 (.block 1 (some [0, 1, 5])
 (.seq
 (.ops [
 (sM 12 0),
 (sM 13 5),
 (sP 14 (.iaddr 1) [.t 12, .t 13]),
 (sH 15 (.load false 1) [.t 14]),
 (sM 16 1),
 (sP 17 (.bin .eql .int) [.t 15, .t 16])])
 (.cond (.t 17)
 (.seq
 (.ops [
 (sP 4 .mov [.c (.bool true)])])
 (.ret [4]))
 .skip)))
 (.ops [
 (sM 10 5),
 (sP 11 (.bin .add .ifc) [.t 10, .c (.int .i64 1)]),
 (sM 5 11)])))
def r01_Has_L0 : CCode := .bloop 0 [0, 1, 5] [] r01_Has_B0
def r01_Has_C : CCode :=
 (.seq
 (.ops [
 (sP 4 .mov [.c (.bool false)])])
 (.seq
 (.seq
 (.ops [
 (sP 5 .mov [.c (.int .i64 0)])])
 r01_Has_L0)
 (.seq
 (.ops [
 (sP 4 .mov [.c (.bool false)])])
 (.ret [4]))))
def r01_Has_I : FInfo := ⟨(.fz false), 2, r01_Has_C, [.tmp 4]⟩
def r01_Has_A : Ann := ⟨[], [], [(0, [0, 1, 5], [])], [(1, [0, 1, 5])], []⟩
abbrev n_r01_Has : Nat := 22

/-! ### balise/baliseref01.Ints -/
def r01_Ints_B0 : CCode :=
 (.seq
 (.seq
 (.ops [
 (sM 11 5),
 (sM 12 0),
 (sP 13 .len [.t 12]),
 (sP 14 (.bin .lss .ifc) [.t 11, .t 13])])
 (.cond (.t 14)
 .skip
 (.exit 0)))
 (.seq
 (.block 1 (some [0, 1, 5])
 (.seq
 (.ops [
 (sM 17 0),
 (sM 18 5),
 (sP 19 (.iaddr 1) [.t 17, .t 18]),
 (sH 20 (.load false 1) [.t 19]),
 (sM 21 1),
 (sM 22 5),
 (sP 23 (.iaddr 1) [.t 21, .t 22]),
 (sH 24 (.load false 1) [.t 23]),
 (sP 25 (.bin .neq .int) [.t 20, .t 24])])
 (.cond (.t 25)
 (.seq
 (.ops [
 (sP 4 .mov [.c (.bool false)])])
 (.ret [4]))
 .skip)))
 (.ops [
 (sM 15 5),
 (sP 16 (.bin .add .ifc) [.t 15, .c (.int .i64 1)]),
 (sM 5 16)])))
def r01_Ints_L0 : CCode := .bloop 0 [0, 1, 5] [] r01_Ints_B0
def r01_Ints_C : CCode :=
 (.seq
 (.ops [
 (sP 4 .mov [.c (.bool false)])])
 (.seq
 (.seq
 (.ops [
 (sM 6 0),
 (sP 7 .len [.t 6]),
 (sM 8 1),
 (sP 9 .len [.t 8]),
 (sP 10 (.bin .neq .int) [.t 7, .t 9])])
 (.cond (.t 10)
 (.seq
 (.ops [
 (sP 4 .mov [.c (.bool false)])])
 (.ret [4]))
 .skip))
 (.seq
 (.seq
 (.ops [
 (sP 5 .mov [.c (.int .i64 0)])])
 r01_Ints_L0)
 (.seq
 (.ops [
 (sP 4 .mov [.c (.bool true)])])
 (.ret [4])))))
def r01_Ints_I : FInfo := ⟨(.fz false), 2, r01_Ints_C, [.tmp 4]⟩
def r01_Ints_A : Ann := ⟨[], [], [(0, [0, 1, 5], [])], [(1, [0, 1, 5])], []⟩
abbrev n_r01_Ints : Nat := 36

/-! ### balise/baliseref01.Rise -/
def r01_Rise_B2 : CCode :=
 (.seq
 (.seq
 (.ops [
 (sM 6 5),
 (sM 7 0),
 (sP 8 .len [.t 7]),
 (sP 9 (.bin .lss .ifc) [.t 6, .t 8])])
 (.cond (.t 9)
 .skip
 (.exit 2)))
 (.seq
 (.block 3 (some [0, 3, 4, 5])
 (.seq
 (.ops [
 (sM 12 3),
 (sP 13 .len [.t 12]),
 (sP 14 (.bin .eql .int) [.t 13, .c (.int .i64 0)]),
 (sM 15 14),
 (sG (sM 16 0) 15 false),
 (sG (sM 17 5) 15 false),
 (sG (sP 18 (.iaddr 1) [.t 16, .t 17]) 15 false),
 (sG (sH 19 (.load false 1) [.t 18]) 15 false),
 (sG (sM 20 3) 15 false),
 (sG (sM 21 3) 15 false),
 (sG (sP 22 .len [.t 21]) 15 false),
 (sG (sP 23 (.bin .sub .ifc) [.t 22, .c (.int .i64 1)]) 15 false),
 (sG (sP 24 (.iaddr 1) [.t 20, .t 23]) 15 false),
 (sG (sH 25 (.load false 1) [.t 24]) 15 false),
 (sG (sP 26 (.bin .gtr .ifc) [.t 19, .t 25]) 15 false),
 (sP 27 .pick [.t 15, .c (.bool true), .t 26]),
 (sM 28 27),
 (sG (sM 29 4) 28 true),
 (sG (sP 30 (.bin .lss .ifc) [.t 29, .c (.int .i64 0)]) 28 true),
 (sG (sM 31 30) 28 true),
 (sG (sM 32 0) 31 false),
 (sG (sM 33 5) 31 false),
 (sG (sP 34 (.iaddr 1) [.t 32, .t 33]) 31 false),
 (sG (sH 35 (.load false 1) [.t 34]) 31 false),
 (sG (sM 36 0) 31 false),
 (sG (sM 37 4) 31 false),
 (sG (sP 38 (.iaddr 1) [.t 36, .t 37]) 31 false),
 (sG (sH 39 (.load false 1) [.t 38]) 31 false),
 (sG (sP 40 (.bin .lss .ifc) [.t 35, .t 39]) 31 false),
 (sG (sP 41 .pick [.t 31, .c (.bool true), .t 40]) 28 true),
 (sP 42 .pick [.t 28, .t 41, .c (.bool false)])])
 (.cond (.t 42)
 (.ops [
 (sM 43 5),
 (sM 4 43)])
 .skip)))
 (.ops [
 (sM 10 5),
 (sP 11 (.bin .add .ifc) [.t 10, .c (.int .i64 1)]),
 (sM 5 11)])))
def r01_Rise_L2 : CCode := .bloop 2 [0, 3, 4, 5] [0, 3, 4] r01_Rise_B2

def r01_Rise_B0 : CCode :=
 (.block 1 (some [0, 3])
 (.seq
 (.ops [
 (sP 4 .mov [.c (.int .i64 (-1))])])
 (.seq
 (.seq
 (.ops [
 (sP 5 .mov [.c (.int .i64 0)])])
 r01_Rise_L2)
 (.seq
 (.seq
 (.ops [
 (sM 44 4),
 (sP 45 (.bin .lss .ifc) [.t 44, .c (.int .i64 0)])])
 (.cond (.t 45)
 (.seq
 (.ops [
 (sM 46 3),
 (sM 2 46)])
 (.ret [2]))
 .skip))
 (.ops [
 (sM 47 3),
 (sM 48 0),
 (sM 49 4),
 (sP 50 (.iaddr 1) [.t 48, .t 49]),
 (sH 51 (.load false 1) [.t 50]),
 (sH 52 (.bslF 1 1 [(.int .i64 0)] [(0, 1)]) [.t 51]),
 (sH 53 (.app 1 8 [(.int .i64 0)]) [.t 47, .t 52]),
 (sM 3 53)])))))
def r01_Rise_L0 : CCode := .bloop 0 [0, 3] [] r01_Rise_B0
def r01_Rise_C : CCode :=
 (.seq
 (.ops [
 (sP 2 .mov [.c .nils])])
 (.seq
 (.ops [
 (sP 3 .mov [.c .nils])])
 r01_Rise_L0))
def r01_Rise_I : FInfo := ⟨(.fz false), 1, r01_Rise_C, [.tmp 2]⟩
def r01_Rise_A : Ann := ⟨[], [], [(0, [0, 3], []), (2, [0, 3, 4, 5], [0, 3, 4])], [(1, [0, 3]), (3, [0, 3, 4, 5])], []⟩
abbrev n_r01_Rise : Nat := 39

/-! ### balise/graph.New -/
def graph_New_C : CCode :=
 (.seq
 (.ops [
 (sH 1 (.box 1) [.t 0]),
 (sP 2 .mov [.c .nilp])])
 (.seq
 (.ops [
 (sH 3 (.load true 10) [.t 1]),
 (sP 4 (.bld [.nils, .nils, .nils, .nils, .nils, (.int .i64 0), (.int .i64 0), (.int .i64 0), (.int .i64 0), (.int .i64 0)] [(0, 10)]) [.t 3]),
 (sH 5 .boxh [.t 4]),
 (sM 2 5)])
 (.ret [2])))
def graph_New_I : FInfo := ⟨(.fz false), 1, graph_New_C, [.tmp 2]⟩
def graph_New_A : Ann := ⟨[5], [], [], [], [1]⟩
abbrev n_graph_New : Nat := 41

/-! ### (*balise/graph.Graph).Len -/
def graph_Graph_Len_C : CCode :=
 (.seq
 (.ops [
 (sP 4 .mov [.c (.int .i64 0)])])
 (.seq
 (.ops [
 (sM 8 0),
 (sM 9 1),
 (sC 10 90 [.t 8, .t 9]),
 (sM 7 10),
 (sP 11 (.ext 0) [.t 7]),
 (sP 12 (.ext 1) [.t 7]),
 (sH 5 (.newl 5 [(.int .i64 0), (.int .i64 0), (.int .i64 0)]) []),
 (sHn (.store 3) [.t 5, .t 11]),
 (sM 6 12)])
 (.seq
 (.ops [
 (sP 13 (.faddr 0) [.t 5]),
 (sH 14 (.load false 1) [.t 13]),
 (sM 4 14)])
 (.ret [4]))))
def graph_Graph_Len_I : FInfo := ⟨(.fz false), 2, graph_Graph_Len_C, [.tmp 4]⟩
def graph_Graph_Len_A : Ann := ⟨[], [], [], [], [5]⟩
abbrev n_graph_Graph_Len : Nat := 67

/-! ### slices.Contains[[]int,int] -/
def slices_Contains_int_C : CCode :=
 (.seq
 (.ops [
 (sP 4 .mov [.c (.bool false)])])
 (.seq
 (.ops [
 (sM 5 0),
 (sM 6 1),
 (sC 7 85 [.t 5, .t 6]),
 (sP 8 (.bin .geq .ifc) [.t 7, .c (.int .i64 0)]),
 (sM 4 8)])
 (.ret [4])))
def slices_Contains_int_I : FInfo := ⟨(.fz false), 2, slices_Contains_int_C, [.tmp 4]⟩
def slices_Contains_int_A : Ann := ⟨[], [], [], [], []⟩
abbrev n_slices_Contains_int : Nat := 59

/-! ### balise/baliseref05.Len -/
def r05_Len_C : CCode :=
 (.seq
 (.ops [
 (sH 2 (.box 2) [.t 0]),
 (sP 4 .mov [.c (.int .i64 0)])])
 (.seq
 (.seq
 (.ops [
 (sM 5 1),
 (sP 6 (.bin .lss .ifc) [.t 5, .c (.int .i64 0)]),
 (sM 7 6),
 (sG (sM 8 1) 7 false),
 (sG (sP 9 (.faddr 1) [.t 2]) 7 false),
 (sG (sH 10 (.load false 1) [.t 9]) 7 false),
 (sG (sP 11 .len [.t 10]) 7 false),
 (sG (sP 12 (.bin .geq .ifc) [.t 8, .t 11]) 7 false),
 (sP 13 .pick [.t 7, .c (.bool true), .t 12])])
 (.cond (.t 13)
 (.seq
 (.ops [
 (sP 4 .mov [.c (.int .i64 0)])])
 (.ret [4]))
 .skip))
 (.seq
 (.ops [
 (sP 14 (.faddr 1) [.t 2]),
 (sH 15 (.load false 1) [.t 14]),
 (sM 16 1),
 (sP 17 (.iaddr 3) [.t 15, .t 16]),
 (sP 18 (.faddr 0) [.t 17]),
 (sH 19 (.load false 1) [.t 18]),
 (sM 4 19)])
 (.ret [4]))))
def r05_Len_I : FInfo := ⟨(.fz false), 2, r05_Len_C, [.tmp 4]⟩
def r05_Len_A : Ann := ⟨[], [], [], [], [2]⟩
abbrev n_r05_Len : Nat := 49

/-! ### balise/baliseref05.Around -/
def r05_Around_B0 : CCode :=
 (.seq
 (.seq
 (.ops [
 (sM 69 11),
 (sM 70 10),
 (sP 71 .len [.t 70]),
 (sP 72 (.bin .lss .ifc) [.t 69, .t 71])])
 (.cond (.t 72)
 .skip
 (.exit 0)))
 (.seq
 (.block 1 (some [3, 8, 10, 11])
 (.seq
 (.ops [
 (sM 75 10),
 (sM 76 11),
 (sP 77 (.iaddr 2) [.t 75, .t 76]),
 (sH 78 (.load true 2) [.t 77]),
 (sH 79 (.load true 2) [.t 3]),
 (sP 80 (.bin .neq (.parts [(0, false, 1, .int), (1, false, 1, .int)])) [.t 78, .t 79])])
 (.cond (.t 80)
 (.ops [
 (sM 81 8),
 (sM 82 10),
 (sM 83 11),
 (sP 84 (.iaddr 2) [.t 82, .t 83]),
 (sH 85 (.load true 2) [.t 84]),
 (sH 86 (.bslF 2 1 [(.int .i64 0), (.int .i64 0)] [(0, 2)]) [.t 85]),
 (sH 87 (.app 2 16 [(.int .i64 0), (.int .i64 0)]) [.t 81, .t 86]),
 (sM 8 87)])
 .skip)))
 (.ops [
 (sM 73 11),
 (sP 74 (.bin .add .ifc) [.t 73, .c (.int .i64 1)]),
 (sM 11 74)])))
def r05_Around_L0 : CCode := .bloop 0 [3, 8, 10, 11] [8] r05_Around_B0
def r05_Around_C : CCode :=
 (.seq
 (.ops [
 (sH 2 (.box 2) [.t 0]),
 (sH 3 (.box 3) [.t 1]),
 (sP 4 .mov [.c .nils])])
 (.seq
 (.ops [
 (sH 13 (.load true 10) [.t 2]),
 (sH 14 (.load true 2) [.t 3]),
 (sC 15 101 [.t 13, .t 14]),
 (sM 12 15),
 (sP 16 (.ext 0) [.t 12]),
 (sP 17 (.ext 1) [.t 12]),
 (sM 5 16),
 (sM 6 17)])
 (.seq
 (.seq
 (.ops [
 (sM 18 6),
 (sP 19 (.un .not) [.t 18])])
 (.cond (.t 19)
 (.seq
 (.ops [
 (sP 4 .mov [.c .nils])])
 (.ret [4]))
 .skip))
 (.seq
 (.ops [
 (sH 20 (.load true 10) [.t 2]),
 (sM 21 5),
 (sC 22 102 [.t 20, .t 21]),
 (sM 7 22)])
 (.seq
 (.ops [
 (sP 8 .mov [.c .nils])])
 (.seq
 (.seq
 (.ops [
 (sM 23 7),
 (sP 24 (.bin .geq .ifc) [.t 23, .c (.int .i64 0)])])
 (.cond (.t 24)
 (.seq
 (.ops [
 (sP 25 (.faddr 3) [.t 2]),
 (sH 26 (.load false 1) [.t 25]),
 (sM 27 7),
 (sP 28 (.iaddr 4) [.t 26, .t 27]),
 (sH 29 (.load true 4) [.t 28]),
 (sH 9 (.newl 9 [(.int .i64 0), (.int .i64 0), (.int .i64 0), (.int .i64 0)]) []),
 (sHn (.store 4) [.t 9, .t 29])])
 (.seq
 (.seq
 (.ops [
 (sP 30 (.faddr 0) [.t 3]),
 (sH 31 (.load false 1) [.t 30]),
 (sP 32 (.faddr 1) [.t 9]),
 (sH 33 (.load false 1) [.t 32]),
 (sP 34 (.bin .eql .int) [.t 31, .t 33])])
 (.cond (.t 34)
 (.seq
 (.ops [
 (sM 35 8),
 (sH 36 (.load true 10) [.t 2]),
 (sP 37 (.faddr 2) [.t 9]),
 (sH 38 (.load false 1) [.t 37]),
 (sM 39 5),
 (sC 40 103 [.t 36, .t 38, .t 39]),
 (sH 41 (.app 2 16 [(.int .i64 0), (.int .i64 0)]) [.t 35, .t 40]),
 (sM 8 41)])
 (.seq
 (.ops [
 (sM 42 8),
 (sH 43 (.load true 10) [.t 2]),
 (sP 44 (.faddr 3) [.t 9]),
 (sH 45 (.load false 1) [.t 44]),
 (sM 46 5),
 (sC 47 103 [.t 43, .t 45, .t 46]),
 (sH 48 (.app 2 16 [(.int .i64 0), (.int .i64 0)]) [.t 42, .t 47]),
 (sM 4 48)])
 (.ret [4])))
 .skip))
 (.seq
 (.seq
 (.ops [
 (sP 49 (.faddr 0) [.t 3]),
 (sH 50 (.load false 1) [.t 49]),
 (sP 51 (.faddr 2) [.t 9]),
 (sH 52 (.load false 1) [.t 51]),
 (sP 53 (.bin .eql .int) [.t 50, .t 52]),
 (sM 54 53),
 (sG (sP 55 (.faddr 0) [.t 3]) 54 false),
 (sG (sH 56 (.load false 1) [.t 55]) 54 false),
 (sG (sP 57 (.faddr 3) [.t 9]) 54 false),
 (sG (sH 58 (.load false 1) [.t 57]) 54 false),
 (sG (sP 59 (.bin .eql .int) [.t 56, .t 58]) 54 false),
 (sP 60 .pick [.t 54, .c (.bool true), .t 59])])
 (.cond (.t 60)
 (.seq
 (.ops [
 (sH 61 (.load true 10) [.t 2]),
 (sP 62 (.faddr 1) [.t 9]),
 (sH 63 (.load false 1) [.t 62]),
 (sM 64 5),
 (sC 65 103 [.t 61, .t 63, .t 64]),
 (sM 4 65)])
 (.ret [4]))
 .skip))
 (.seq
 (.ops [
 (sP 4 .mov [.c .nils])])
 (.ret [4])))))
 .skip))
 (.seq
 (.ops [
 (sH 66 (.load true 10) [.t 2]),
 (sM 67 5),
 (sC 68 104 [.t 66, .t 67]),
 (sM 10 68)])
 (.seq
 (.seq
 (.ops [
 (sP 11 .mov [.c (.int .i64 0)])])
 r05_Around_L0)
 (.seq
 (.seq
 (.ops [
 (sM 88 8),
 (sP 89 .len [.t 88]),
 (sP 90 (.bin .neq .int) [.t 89, .c (.int .i64 1)])])
 (.cond (.t 90)
 (.seq
 (.ops [
 (sP 4 .mov [.c .nils])])
 (.ret [4]))
 .skip))
 (.seq
 (.ops [
 (sM 91 8),
 (sM 4 91)])
 (.ret [4])))))))))))
def r05_Around_I : FInfo := ⟨(.fz false), 2, r05_Around_C, [.tmp 4]⟩
def r05_Around_A : Ann := ⟨[], [], [(0, [3, 8, 10, 11], [8])], [(1, [3, 8, 10, 11])], [2, 3, 9]⟩
abbrev n_r05_Around : Nat := 79

/-! ### (*balise/graph.Graph).section -/
def graph_Graph_section_C : CCode :=
 (.seq
 (.ops [
 (sH 4 (.newl 4 [(.int .i64 0), (.int .i64 0), (.int .i64 0)]) []),
 (sP 5 .mov [.c (.bool false)])])
 (.seq
 (.seq
 (.ops [
 (sM 6 0),
 (sP 7 (.bin .eql .ptr) [.t 6, .c .nilp]),
 (sM 8 7),
 (sG (sM 9 1) 8 false),
 (sG (sP 10 (.bin .lss .ifc) [.t 9, .c (.int .i64 0)]) 8 false),
 (sP 11 .pick [.t 8, .c (.bool true), .t 10]),
 (sM 12 11),
 (sG (sM 13 1) 12 false),
 (sG (sM 14 0) 12 false),
 (sG (sP 15 .nchk [.t 14]) 12 false),
 (sG (sP 16 (.faddr 0) [.t 15]) 12 false),
 (sG (sP 17 (.faddr 1) [.t 16]) 12 false),
 (sG (sH 18 (.load false 1) [.t 17]) 12 false),
 (sG (sP 19 .len [.t 18]) 12 false),
 (sG (sP 20 (.bin .geq .ifc) [.t 13, .t 19]) 12 false),
 (sP 21 .pick [.t 12, .c (.bool true), .t 20])])
 (.cond (.t 21)
 (.seq
 (.ops [
 (sP 22 (.bld [(.int .i64 0), (.int .i64 0), (.int .i64 0)] []) []),
 (sHn (.store 3) [.t 4, .t 22]),
 (sP 5 .mov [.c (.bool false)])])
 (.ret [4, 5]))
 .skip))
 (.seq
 (.ops [
 (sM 23 0),
 (sP 24 .nchk [.t 23]),
 (sP 25 (.faddr 0) [.t 24]),
 (sP 26 (.faddr 1) [.t 25]),
 (sH 27 (.load false 1) [.t 26]),
 (sM 28 1),
 (sP 29 (.iaddr 3) [.t 27, .t 28]),
 (sH 30 (.load true 3) [.t 29]),
 (sHn (.store 3) [.t 4, .t 30]),
 (sP 5 .mov [.c (.bool true)])])
 (.ret [4, 5]))))
def graph_Graph_section_I : FInfo := ⟨(.fz false), 2, graph_Graph_section_C, [.cell 4 true 3, .tmp 5]⟩
def graph_Graph_section_A : Ann := ⟨[], [], [], [], [4]⟩
abbrev n_graph_Graph_section : Nat := 90

/-! ### (*balise/graph.Graph).Around -/
def graph_Graph_Around_C : CCode :=
 (.seq
 (.ops [
 (sH 3 .boxh [.t 1]),
 (sP 4 .mov [.c .nils])])
 (.seq
 (.ops [
 (sM 11 0),
 (sH 12 (.load true 2) [.t 3]),
 (sC 13 94 [.t 11, .t 12]),
 (sM 10 13),
 (sP 14 (.ext 0) [.t 10]),
 (sP 15 (.ext 1) [.t 10]),
 (sM 5 14),
 (sM 6 15)])
 (.seq
 (.seq
 (.ops [
 (sM 16 6),
 (sP 17 (.un .not) [.t 16])])
 (.cond (.t 17)
 (.seq
 (.ops [
 (sP 4 .mov [.c .nils])])
 (.ret [4]))
 .skip))
 (.seq
 (.ops [
 (sM 18 0),
 (sM 19 5),
 (sC 20 95 [.t 18, .t 19]),
 (sM 7 20)])
 (.seq
 (.seq
 (.ops [
 (sM 21 7),
 (sP 22 (.bin .lss .ifc) [.t 21, .c (.int .i64 0)])])
 (.cond (.t 22)
 (.seq
 (.ops [
 (sM 23 0),
 (sM 24 5),
 (sC 25 97 [.t 23, .t 24]),
 (sP 26 (.mkfn (.func 98) 0) [.t 3]),
 (sC 27 96 [.t 25, .t 26]),
 (sM 8 27)])
 (.seq
 (.seq
 (.ops [
 (sM 28 8),
 (sP 29 .len [.t 28]),
 (sP 30 (.bin .neq .int) [.t 29, .c (.int .i64 1)])])
 (.cond (.t 30)
 (.seq
 (.ops [
 (sP 4 .mov [.c .nils])])
 (.ret [4]))
 .skip))
 (.seq
 (.ops [
 (sM 31 8),
 (sM 4 31)])
 (.ret [4]))))
 .skip))
 (.seq
 (.ops [
 (sM 32 0),
 (sP 33 .nchk [.t 32]),
 (sP 34 (.faddr 0) [.t 33]),
 (sP 35 (.faddr 3) [.t 34]),
 (sH 36 (.load false 1) [.t 35]),
 (sM 37 7),
 (sP 38 (.iaddr 4) [.t 36, .t 37]),
 (sH 39 (.load true 4) [.t 38]),
 (sH 9 (.newl 9 [(.int .i64 0), (.int .i64 0), (.int .i64 0), (.int .i64 0)]) []),
 (sHn (.store 4) [.t 9, .t 39])])
 (.seq
 (.seq
 (.ops [
 (sP 40 (.faddr 0) [.t 3]),
 (sH 41 (.load false 1) [.t 40])])
 (.block 0 (some [])
 (.seq
 (.ops [
 (sP 43 (.faddr 1) [.t 9]),
 (sH 44 (.load false 1) [.t 43]),
 (sP 45 (.bin .eql .int) [.t 41, .t 44]),
 (sM 42 45)])
 (.cond (.t 42)
 (.seq
 (.ops [
 (sM 46 0),
 (sP 47 (.faddr 2) [.t 9]),
 (sH 48 (.load false 1) [.t 47]),
 (sM 49 5),
 (sC 50 100 [.t 46, .t 48, .t 49]),
 (sM 51 0),
 (sP 52 (.faddr 3) [.t 9]),
 (sH 53 (.load false 1) [.t 52]),
 (sM 54 5),
 (sC 55 100 [.t 51, .t 53, .t 54]),
 (sH 56 (.bslF 1 2 [.nils] [(0, 1), (1, 1)]) [.t 50, .t 55]),
 (sC 57 99 [.t 56]),
 (sM 4 57)])
 (.ret [4]))
 (.seq
 (.seq
 (.ops [
 (sP 59 (.faddr 2) [.t 9]),
 (sH 60 (.load false 1) [.t 59]),
 (sP 61 (.bin .eql .int) [.t 41, .t 60]),
 (sM 58 61)])
 (.cond (.t 58)
 .skip
 (.ops [
 (sP 62 (.faddr 3) [.t 9]),
 (sH 63 (.load false 1) [.t 62]),
 (sP 64 (.bin .eql .int) [.t 41, .t 63]),
 (sM 58 64)])))
 (.cond (.t 58)
 (.seq
 (.ops [
 (sM 65 0),
 (sP 66 (.faddr 1) [.t 9]),
 (sH 67 (.load false 1) [.t 66]),
 (sM 68 5),
 (sC 69 100 [.t 65, .t 67, .t 68]),
 (sM 4 69)])
 (.ret [4]))
 .skip))))))
 (.seq
 (.ops [
 (sP 4 .mov [.c .nils])])
 (.ret [4])))))))))
def graph_Graph_Around_I : FInfo := ⟨(.fz false), 2, graph_Graph_Around_C, [.tmp 4]⟩
def graph_Graph_Around_A : Ann := ⟨[3], [], [], [(0, [])], [9]⟩
abbrev n_graph_Graph_Around : Nat := 76

/-! ### slices.IndexFunc[[]balise/api.End,balise/api.End] -/
def slices_IndexFunc_End_B0 : CCode :=
 (.seq
 (.ops [
 (sP 9 (.bin .lss .ifc) [.t 8, .t 7])])
 (.seq
 (.cond (.t 9)
 .skip
 (.exit 0))
 (.seq
 (.block 1 (some [0, 1, 7, 8])
 (.seq
 (.ops [
 (sM 10 8),
 (sM 5 10)])
 (.seq
 (.ops [
 (sM 11 1),
 (sM 12 0),
 (sM 13 5),
 (sP 14 (.iaddr 2) [.t 12, .t 13]),
 (sH 15 (.load true 2) [.t 14]),
 ⟨(some 16), .call, [.t 11, .t 15], none⟩])
 (.cond (.t 16)
 (.seq
 (.ops [
 (sM 17 5),
 (sM 4 17)])
 (.ret [4]))
 .skip))))
 (.ops [
 (sP 18 (.bin .add .ifc) [.t 8, .c (.int .i64 1)]),
 (sM 8 18)]))))
def slices_IndexFunc_End_L0 : CCode := .bloop 0 [0, 1, 7, 8] [] slices_IndexFunc_End_B0
def slices_IndexFunc_End_C : CCode :=
 (.seq
 (.ops [
 (sP 4 .mov [.c (.int .i64 0)])])
 (.seq
 (.seq
 (.ops [
 (sM 6 0),
 (sP 7 .len [.t 6]),
 (sP 8 .mov [.c (.int .i64 0)])])
 slices_IndexFunc_End_L0)
 (.seq
 (.ops [
 (sP 4 .mov [.c (.int .i64 (-1))])])
 (.ret [4]))))
def slices_IndexFunc_End_I : FInfo := ⟨(.fz false), 2, slices_IndexFunc_End_C, [.tmp 4]⟩
def slices_IndexFunc_End_A : Ann := ⟨[], [], [(0, [0, 1, 7, 8], [])], [(1, [0, 1, 7, 8])], []⟩
abbrev n_slices_IndexFunc_End : Nat := 77

/-! ### slices.Index[[]int,int] -/
def slices_Index_int_B0 : CCode :=
 (.seq
 (.ops [
 (sP 9 (.bin .lss .ifc) [.t 8, .t 7])])
 (.seq
 (.cond (.t 9)
 .skip
 (.exit 0))
 (.seq
 (.block 1 (some [0, 1, 7, 8])
 (.seq
 (.ops [
 (sM 10 8),
 (sM 5 10)])
 (.seq
 (.ops [
 (sM 11 1),
 (sM 12 0),
 (sM 13 5),
 (sP 14 (.iaddr 1) [.t 12, .t 13]),
 (sH 15 (.load false 1) [.t 14]),
 (sP 16 (.bin .eql .int) [.t 11, .t 15])])
 (.cond (.t 16)
 (.seq
 (.ops [
 (sM 17 5),
 (sM 4 17)])
 (.ret [4]))
 .skip))))
 (.ops [
 (sP 18 (.bin .add .ifc) [.t 8, .c (.int .i64 1)]),
 (sM 8 18)]))))
def slices_Index_int_L0 : CCode := .bloop 0 [0, 1, 7, 8] [] slices_Index_int_B0
def slices_Index_int_C : CCode :=
 (.seq
 (.ops [
 (sP 4 .mov [.c (.int .i64 0)])])
 (.seq
 (.seq
 (.ops [
 (sM 6 0),
 (sP 7 .len [.t 6]),
 (sP 8 .mov [.c (.int .i64 0)])])
 slices_Index_int_L0)
 (.seq
 (.ops [
 (sP 4 .mov [.c (.int .i64 (-1))])])
 (.ret [4]))))
def slices_Index_int_I : FInfo := ⟨(.fz false), 2, slices_Index_int_C, [.tmp 4]⟩
def slices_Index_int_A : Ann := ⟨[], [], [(0, [0, 1, 7, 8], [])], [(1, [0, 1, 7, 8])], []⟩
abbrev n_slices_Index_int : Nat := 85

/-! ### balise/baliseref05.node -/
def r05_node_C : CCode :=
 (.seq
 (.ops [
 (sH 2 (.box 2) [.t 0]),
 (sH 3 (.box 3) [.t 1]),
 (sP 4 .mov [.c (.int .i64 0)]),
 (sP 5 .mov [.c (.bool false)])])
 (.seq
 (.seq
 (.ops [
 (sP 6 (.faddr 0) [.t 3]),
 (sH 7 (.load false 1) [.t 6]),
 (sP 8 (.bin .lss .ifc) [.t 7, .c (.int .i64 0)]),
 (sM 9 8),
 (sG (sP 10 (.faddr 0) [.t 3]) 9 false),
 (sG (sH 11 (.load false 1) [.t 10]) 9 false),
 (sG (sP 12 (.faddr 1) [.t 2]) 9 false),
 (sG (sH 13 (.load false 1) [.t 12]) 9 false),
 (sG (sP 14 .len [.t 13]) 9 false),
 (sG (sP 15 (.bin .geq .ifc) [.t 11, .t 14]) 9 false),
 (sP 16 .pick [.t 9, .c (.bool true), .t 15]),
 (sM 17 16),
 (sG (sP 18 (.faddr 1) [.t 3]) 17 false),
 (sG (sH 19 (.load false 1) [.t 18]) 17 false),
 (sG (sP 20 (.bin .lss .ifc) [.t 19, .c (.int .i64 0)]) 17 false),
 (sP 21 .pick [.t 17, .c (.bool true), .t 20]),
 (sM 22 21),
 (sG (sP 23 (.faddr 1) [.t 3]) 22 false),
 (sG (sH 24 (.load false 1) [.t 23]) 22 false),
 (sG (sP 25 (.bin .gtr .ifc) [.t 24, .c (.int .i64 1)]) 22 false),
 (sP 26 .pick [.t 22, .c (.bool true), .t 25])])
 (.cond (.t 26)
 (.seq
 (.ops [
 (sP 4 .mov [.c (.int .i64 0)]),
 (sP 5 .mov [.c (.bool false)])])
 (.ret [4, 5]))
 .skip))
 (.seq
 (.seq
 (.ops [
 (sP 27 (.faddr 1) [.t 3]),
 (sH 28 (.load false 1) [.t 27]),
 (sP 29 (.bin .eql .int) [.t 28, .c (.int .i64 0)])])
 (.cond (.t 29)
 (.seq
 (.ops [
 (sP 30 (.faddr 1) [.t 2]),
 (sH 31 (.load false 1) [.t 30]),
 (sP 32 (.faddr 0) [.t 3]),
 (sH 33 (.load false 1) [.t 32]),
 (sP 34 (.iaddr 3) [.t 31, .t 33]),
 (sP 35 (.faddr 1) [.t 34]),
 (sH 36 (.load false 1) [.t 35]),
 (sM 4 36),
 (sP 5 .mov [.c (.bool true)])])
 (.ret [4, 5]))
 .skip))
 (.seq
 (.ops [
 (sP 37 (.faddr 1) [.t 2]),
 (sH 38 (.load false 1) [.t 37]),
 (sP 39 (.faddr 0) [.t 3]),
 (sH 40 (.load false 1) [.t 39]),
 (sP 41 (.iaddr 3) [.t 38, .t 40]),
 (sP 42 (.faddr 2) [.t 41]),
 (sH 43 (.load false 1) [.t 42]),
 (sM 4 43),
 (sP 5 .mov [.c (.bool true)])])
 (.ret [4, 5])))))
def r05_node_I : FInfo := ⟨(.fz false), 2, r05_node_C, [.tmp 4, .tmp 5]⟩
def r05_node_A : Ann := ⟨[], [], [], [], [2, 3]⟩
abbrev n_r05_node : Nat := 101

/-! ### balise/baliseref05.Point -/
def r05_Point_B0 : CCode :=
 (.seq
 (.seq
 (.ops [
 (sM 6 5),
 (sP 7 (.faddr 3) [.t 2]),
 (sH 8 (.load false 1) [.t 7]),
 (sP 9 .len [.t 8]),
 (sP 10 (.bin .lss .ifc) [.t 6, .t 9])])
 (.cond (.t 10)
 .skip
 (.exit 0)))
 (.seq
 (.block 1 (some [1, 2, 5])
 (.seq
 (.ops [
 (sP 13 (.faddr 3) [.t 2]),
 (sH 14 (.load false 1) [.t 13]),
 (sM 15 5),
 (sP 16 (.iaddr 4) [.t 14, .t 15]),
 (sP 17 (.faddr 0) [.t 16]),
 (sH 18 (.load false 1) [.t 17]),
 (sM 19 1),
 (sP 20 (.bin .eql .int) [.t 18, .t 19])])
 (.cond (.t 20)
 (.seq
 (.ops [
 (sM 21 5),
 (sM 4 21)])
 (.ret [4]))
 .skip)))
 (.ops [
 (sM 11 5),
 (sP 12 (.bin .add .ifc) [.t 11, .c (.int .i64 1)]),
 (sM 5 12)])))
def r05_Point_L0 : CCode := .bloop 0 [1, 2, 5] [] r05_Point_B0
def r05_Point_C : CCode :=
 (.seq
 (.ops [
 (sH 2 (.box 2) [.t 0]),
 (sP 4 .mov [.c (.int .i64 0)])])
 (.seq
 (.seq
 (.ops [
 (sP 5 .mov [.c (.int .i64 0)])])
 r05_Point_L0)
 (.seq
 (.ops [
 (sP 4 .mov [.c (.int .i64 (-1))])])
 (.ret [4]))))
def r05_Point_I : FInfo := ⟨(.fz false), 2, r05_Point_C, [.tmp 4]⟩
def r05_Point_A : Ann := ⟨[], [], [(0, [1, 2, 5], [])], [(1, [1, 2, 5])], [2]⟩
abbrev n_r05_Point : Nat := 102

/-! ### balise/baliseref05.one -/
def r05_one_B0 : CCode :=
 (.seq
 (.seq
 (.ops [
 (sM 12 8),
 (sM 13 7),
 (sP 14 .len [.t 13]),
 (sP 15 (.bin .lss .ifc) [.t 12, .t 14])])
 (.cond (.t 15)
 .skip
 (.exit 0)))
 (.seq
 (.block 1 (some [1, 7, 8])
 (.seq
 (.ops [
 (sM 18 7),
 (sM 19 8),
 (sP 20 (.iaddr 2) [.t 18, .t 19]),
 (sP 21 (.faddr 0) [.t 20]),
 (sH 22 (.load false 1) [.t 21]),
 (sM 23 1),
 (sP 24 (.bin .eql .int) [.t 22, .t 23])])
 (.cond (.t 24)
 (.seq
 (.ops [
 (sM 25 7),
 (sM 26 8),
 (sM 27 8),
 (sP 28 (.bin .add .ifc) [.t 27, .c (.int .i64 1)]),
 (sP 29 (.slc 2 true true) [.t 25, .t 26, .t 28]),
 (sM 6 29)])
 (.ret [6]))
 .skip)))
 (.ops [
 (sM 16 8),
 (sP 17 (.bin .add .ifc) [.t 16, .c (.int .i64 1)]),
 (sM 8 17)])))
def r05_one_L0 : CCode := .bloop 0 [1, 7, 8] [] r05_one_B0
def r05_one_C : CCode :=
 (.seq
 (.ops [
 (sH 3 (.box 3) [.t 0]),
 (sP 6 .mov [.c .nils])])
 (.seq
 (.ops [
 (sH 9 (.load true 10) [.t 3]),
 (sM 10 2),
 (sC 11 104 [.t 9, .t 10]),
 (sM 7 11)])
 (.seq
 (.seq
 (.ops [
 (sP 8 .mov [.c (.int .i64 0)])])
 r05_one_L0)
 (.seq
 (.ops [
 (sP 6 .mov [.c .nils])])
 (.ret [6])))))
def r05_one_I : FInfo := ⟨(.fz false), 3, r05_one_C, [.tmp 6]⟩
def r05_one_A : Ann := ⟨[], [], [(0, [1, 7, 8], [])], [(1, [1, 7, 8])], [3]⟩
abbrev n_r05_one : Nat := 103

/-! ### balise/baliseref05.Ends -/
def r05_Ends_B0 : CCode :=
 (.seq
 (.seq
 (.ops [
 (sM 7 6),
 (sP 8 (.faddr 1) [.t 2]),
 (sH 9 (.load false 1) [.t 8]),
 (sP 10 .len [.t 9]),
 (sP 11 (.bin .lss .ifc) [.t 7, .t 10])])
 (.cond (.t 11)
 .skip
 (.exit 0)))
 (.seq
 (.block 1 (some [1, 2, 5, 6])
 (.seq
 (.seq
 (.ops [
 (sP 14 (.faddr 1) [.t 2]),
 (sH 15 (.load false 1) [.t 14]),
 (sM 16 6),
 (sP 17 (.iaddr 3) [.t 15, .t 16]),
 (sP 18 (.faddr 1) [.t 17]),
 (sH 19 (.load false 1) [.t 18]),
 (sM 20 1),
 (sP 21 (.bin .eql .int) [.t 19, .t 20])])
 (.cond (.t 21)
 (.ops [
 (sM 22 5),
 (sM 23 6),
 (sP 24 (.bld [(.int .i64 0), (.int .i64 0)] [(0, 1), (1, 1)]) [.t 23, .c (.int .i64 0)]),
 (sH 25 (.bslF 2 1 [(.int .i64 0), (.int .i64 0)] [(0, 2)]) [.t 24]),
 (sH 26 (.app 2 16 [(.int .i64 0), (.int .i64 0)]) [.t 22, .t 25]),
 (sM 5 26)])
 .skip))
 (.seq
 (.ops [
 (sP 27 (.faddr 1) [.t 2]),
 (sH 28 (.load false 1) [.t 27]),
 (sM 29 6),
 (sP 30 (.iaddr 3) [.t 28, .t 29]),
 (sP 31 (.faddr 2) [.t 30]),
 (sH 32 (.load false 1) [.t 31]),
 (sM 33 1),
 (sP 34 (.bin .eql .int) [.t 32, .t 33])])
 (.cond (.t 34)
 (.ops [
 (sM 35 5),
 (sM 36 6),
 (sP 37 (.bld [(.int .i64 0), (.int .i64 0)] [(0, 1), (1, 1)]) [.t 36, .c (.int .i64 1)]),
 (sH 38 (.bslF 2 1 [(.int .i64 0), (.int .i64 0)] [(0, 2)]) [.t 37]),
 (sH 39 (.app 2 16 [(.int .i64 0), (.int .i64 0)]) [.t 35, .t 38]),
 (sM 5 39)])
 .skip))))
 (.ops [
 (sM 12 6),
 (sP 13 (.bin .add .ifc) [.t 12, .c (.int .i64 1)]),
 (sM 6 13)])))
def r05_Ends_L0 : CCode := .bloop 0 [1, 2, 5, 6] [5] r05_Ends_B0
def r05_Ends_C : CCode :=
 (.seq
 (.ops [
 (sH 2 (.box 2) [.t 0]),
 (sP 4 .mov [.c .nils])])
 (.seq
 (.ops [
 (sP 5 .mov [.c .nils])])
 (.seq
 (.seq
 (.ops [
 (sP 6 .mov [.c (.int .i64 0)])])
 r05_Ends_L0)
 (.seq
 (.ops [
 (sM 40 5),
 (sM 4 40)])
 (.ret [4])))))
def r05_Ends_I : FInfo := ⟨(.fz false), 2, r05_Ends_C, [.tmp 4]⟩
def r05_Ends_A : Ann := ⟨[], [], [(0, [1, 2, 5, 6], [5])], [(1, [1, 2, 5, 6])], [2]⟩
abbrev n_r05_Ends : Nat := 104

/-! ### (*balise/graph.Graph).node -/
def graph_Graph_node_C : CCode :=
 (.seq
 (.ops [
 (sH 3 (.box 3) [.t 1]),
 (sP 4 .mov [.c (.int .i64 0)]),
 (sP 5 .mov [.c (.bool false)])])
 (.seq
 (.ops [
 (sM 9 0),
 (sP 10 (.faddr 0) [.t 3]),
 (sH 11 (.load false 1) [.t 10]),
 (sC 12 90 [.t 9, .t 11]),
 (sM 8 12),
 (sP 13 (.ext 0) [.t 8]),
 (sP 14 (.ext 1) [.t 8]),
 (sH 6 (.newl 6 [(.int .i64 0), (.int .i64 0), (.int .i64 0)]) []),
 (sHn (.store 3) [.t 6, .t 13]),
 (sM 7 14)])
 (.seq
 (.block 0 (some [])
 (.seq
 (.ops [
 (sM 16 7),
 (sM 17 16),
 (sG (sP 18 (.faddr 1) [.t 3]) 17 true),
 (sG (sH 19 (.load false 1) [.t 18]) 17 true),
 (sG (sP 20 (.bin .eql .int) [.t 19, .c (.int .i64 0)]) 17 true),
 (sP 21 .pick [.t 17, .t 20, .c (.bool false)]),
 (sM 15 21)])
 (.cond (.t 15)
 (.seq
 (.ops [
 (sP 22 (.faddr 1) [.t 6]),
 (sH 23 (.load false 1) [.t 22]),
 (sM 4 23),
 (sP 5 .mov [.c (.bool true)])])
 (.ret [4, 5]))
 (.seq
 (.ops [
 (sM 25 7),
 (sM 26 25),
 (sG (sP 27 (.faddr 1) [.t 3]) 26 true),
 (sG (sH 28 (.load false 1) [.t 27]) 26 true),
 (sG (sP 29 (.bin .eql .int) [.t 28, .c (.int .i64 1)]) 26 true),
 (sP 30 .pick [.t 26, .t 29, .c (.bool false)]),
 (sM 24 30)])
 (.cond (.t 24)
 (.seq
 (.ops [
 (sP 31 (.faddr 2) [.t 6]),
 (sH 32 (.load false 1) [.t 31]),
 (sM 4 32),
 (sP 5 .mov [.c (.bool true)])])
 (.ret [4, 5]))
 .skip)))))
 (.seq
 (.ops [
 (sP 4 .mov [.c (.int .i64 0)]),
 (sP 5 .mov [.c (.bool false)])])
 (.ret [4, 5])))))
def graph_Graph_node_I : FInfo := ⟨(.fz false), 2, graph_Graph_node_C, [.tmp 4, .tmp 5]⟩
def graph_Graph_node_A : Ann := ⟨[], [], [], [(0, [])], [3, 6]⟩
abbrev n_graph_Graph_node : Nat := 94

/-! ### (*balise/graph.Graph).Point -/
def graph_Graph_Point_C : CCode :=
 (.seq
 (.ops [
 (sH 3 .boxh [.t 1]),
 (sP 4 .mov [.c (.int .i64 0)])])
 (.seq
 (.seq
 (.ops [
 (sM 5 0),
 (sP 6 (.bin .eql .ptr) [.t 5, .c .nilp])])
 (.cond (.t 6)
 (.seq
 (.ops [
 (sP 4 .mov [.c (.int .i64 (-1))])])
 (.ret [4]))
 .skip))
 (.seq
 (.ops [
 (sM 7 0),
 (sP 8 .nchk [.t 7]),
 (sP 9 (.faddr 0) [.t 8]),
 (sP 10 (.faddr 3) [.t 9]),
 (sH 11 (.load false 1) [.t 10]),
 (sP 12 (.mkfn (.func 113) 0) [.t 3]),
 (sC 13 112 [.t 11, .t 12]),
 (sM 4 13)])
 (.ret [4]))))
def graph_Graph_Point_I : FInfo := ⟨(.fz false), 2, graph_Graph_Point_C, [.tmp 4]⟩
def graph_Graph_Point_A : Ann := ⟨[3], [], [], [], []⟩
abbrev n_graph_Graph_Point : Nat := 95

/-! ### slices.DeleteFunc[[]balise/api.End,balise/api.End] -/
def slices_DeleteFunc_End_B0 : CCode :=
 (.seq
 (.seq
 (.ops [
 (sM 16 6),
 (sM 17 0),
 (sP 18 .len [.t 17]),
 (sP 19 (.bin .lss .ifc) [.t 16, .t 18])])
 (.cond (.t 19)
 .skip
 (.exit 0)))
 (.seq
 (.block 1 (some [0, 1, 5, 6])
 (.seq
 (.ops [
 (sM 22 0),
 (sM 23 6),
 (sP 24 (.iaddr 2) [.t 22, .t 23]),
 (sH 25 (.load true 2) [.t 24]),
 (sH 7 (.newl 7 [(.int .i64 0), (.int .i64 0)]) []),
 (sHn (.store 2) [.t 7, .t 25])])
 (.seq
 (.ops [
 (sM 26 1),
 (sH 27 (.load true 2) [.t 7]),
 ⟨(some 28), .call, [.t 26, .t 27], none⟩,
 (sP 29 (.un .not) [.t 28])])
 (.cond (.t 29)
 (.seq
 (.ops [
 (sM 30 0),
 (sM 31 5),
 (sH 32 (.load true 2) [.t 7]),
 (sP 33 (.iaddr 2) [.t 30, .t 31]),
 (sHn (.store 2) [.t 33, .t 32])])
 (.ops [
 (sM 34 5),
 (sP 35 (.bin .add .ifc) [.t 34, .c (.int .i64 1)]),
 (sM 5 35)]))
 .skip))))
 (.ops [
 (sM 20 6),
 (sP 21 (.bin .add .ifc) [.t 20, .c (.int .i64 1)]),
 (sM 6 21)])))
def slices_DeleteFunc_End_L0 : CCode := .bloop 0 [0, 1, 5, 6] [0, 5] slices_DeleteFunc_End_B0
def slices_DeleteFunc_End_C : CCode :=
 (.seq
 (.ops [
 (sP 4 .mov [.c .nils])])
 (.seq
 (.ops [
 (sM 8 0),
 (sM 9 1),
 (sC 10 77 [.t 8, .t 9]),
 (sM 5 10)])
 (.seq
 (.seq
 (.ops [
 (sM 11 5),
 (sP 12 (.bin .eql .int) [.t 11, .c (.int .i64 (-1))])])
 (.cond (.t 12)
 (.seq
 (.ops [
 (sM 13 0),
 (sM 4 13)])
 (.ret [4]))
 .skip))
 (.seq
 (.seq
 (.ops [
 (sM 14 5),
 (sP 15 (.bin .add .ifc) [.t 14, .c (.int .i64 1)]),
 (sM 6 15)])
 slices_DeleteFunc_End_L0)
 (.seq
 (.ops [
 (sM 36 0),
 (sM 37 5),
 (sP 38 (.slc 2 true false) [.t 36, .t 37]),
 (sHn (.clear 2 [(.int .i64 0), (.int .i64 0)]) [.t 38])])
 (.seq
 (.ops [
 (sM 39 0),
 (sM 40 5),
 (sP 41 (.slc 2 false true) [.t 39, .t 40]),
 (sM 4 41)])
 (.ret [4])))))))
def slices_DeleteFunc_End_I : FInfo := ⟨.ref, 2, slices_DeleteFunc_End_C, [.tmp 4]⟩
def slices_DeleteFunc_End_A : Ann := ⟨[], [], [(0, [0, 1, 5, 6], [0, 5])], [(1, [0, 1, 5, 6])], [7]⟩
abbrev n_slices_DeleteFunc_End : Nat := 96

/-! ### (*balise/graph.Graph).Ends -/
def graph_Graph_Ends_B2 : CCode :=
 (.seq
 (.ops [
 (sP 28 (.bin .lss .ifc) [.t 27, .c (.int .i64 2)])])
 (.seq
 (.cond (.t 28)
 .skip
 (.exit 2))
 (.seq
 (.block 3 (some [0, 1, 5, 6, 26, 27])
 (.seq
 (.ops [
 (sM 29 27),
 (sP 30 (.idxA 2 false 1) [.t 26, .t 27]),
 (sM 9 29),
 (sM 10 30)])
 (.seq
 (.ops [
 (sM 31 10),
 (sM 32 1),
 (sP 33 (.bin .eql .int) [.t 31, .t 32])])
 (.cond (.t 33)
 (.ops [
 (sM 34 5),
 (sM 35 6),
 (sM 36 9),
 (sP 37 (.bld [(.int .i64 0), (.int .i64 0)] [(0, 1), (1, 1)]) [.t 35, .t 36]),
 (sH 38 (.bslF 2 1 [(.int .i64 0), (.int .i64 0)] [(0, 2)]) [.t 37]),
 (sH 39 (.app 2 16 [(.int .i64 0), (.int .i64 0)]) [.t 34, .t 38]),
 (sM 5 39)])
 .skip))))
 (.ops [
 (sP 40 (.bin .add .ifc) [.t 27, .c (.int .i64 1)]),
 (sM 27 40)]))))
def graph_Graph_Ends_L2 : CCode := .bloop 2 [0, 1, 5, 6, 26, 27] [0, 1, 5, 6] graph_Graph_Ends_B2

def graph_Graph_Ends_B0 : CCode :=
 (.seq
 (.block 1 (some [0, 1, 5, 6])
 (.seq
 (.ops [
 (sM 14 0),
 (sM 15 6),
 (sC 16 90 [.t 14, .t 15]),
 (sM 13 16),
 (sP 17 (.ext 0) [.t 13]),
 (sP 18 (.ext 1) [.t 13]),
 (sH 7 (.newl 7 [(.int .i64 0), (.int .i64 0), (.int .i64 0)]) []),
 (sHn (.store 3) [.t 7, .t 17]),
 (sM 8 18)])
 (.seq
 (.seq
 (.ops [
 (sM 19 8),
 (sP 20 (.un .not) [.t 19])])
 (.cond (.t 20)
 (.seq
 (.ops [
 (sM 21 5),
 (sM 4 21)])
 (.ret [4]))
 .skip))
 (.seq
 (.ops [
 (sP 22 (.faddr 1) [.t 7]),
 (sH 23 (.load false 1) [.t 22]),
 (sP 24 (.faddr 2) [.t 7]),
 (sH 25 (.load false 1) [.t 24]),
 (sP 26 (.bld [(.int .i64 0), (.int .i64 0)] [(0, 1), (1, 1)]) [.t 23, .t 25]),
 (sP 27 .mov [.c (.int .i64 0)])])
 graph_Graph_Ends_L2))))
 (.ops [
 (sM 11 6),
 (sP 12 (.bin .add .ifc) [.t 11, .c (.int .i64 1)]),
 (sM 6 12)]))
def graph_Graph_Ends_L0 : CCode := .bloop 0 [0, 1, 5, 6] [] graph_Graph_Ends_B0
def graph_Graph_Ends_C : CCode :=
 (.seq
 (.ops [
 (sP 4 .mov [.c .nils])])
 (.seq
 (.ops [
 (sP 5 .mov [.c .nils])])
 (.seq
 (.ops [
 (sP 6 .mov [.c (.int .i64 0)])])
 graph_Graph_Ends_L0)))
def graph_Graph_Ends_I : FInfo := ⟨.own, 2, graph_Graph_Ends_C, [.tmp 4]⟩
def graph_Graph_Ends_A : Ann := ⟨[], [], [(0, [0, 1, 5, 6], []), (2, [0, 1, 5, 6, 26, 27], [0, 1, 5, 6])], [(1, [0, 1, 5, 6]), (3, [0, 1, 5, 6, 26, 27])], [7]⟩
abbrev n_graph_Graph_Ends : Nat := 97

/-! ### (*balise/graph.Graph).Around$1 -/
def graph_Graph_Around_1_C : CCode :=
 (.seq
 (.ops [
 (sH 2 (.box 2) [.t 0]),
 (sP 3 .mov [.c (.bool false)])])
 (.seq
 (.ops [
 (sH 4 (.load true 2) [.t 2]),
 (sH 5 (.load true 2) [.t 1]),
 (sP 6 (.bin .eql (.parts [(0, false, 1, .int), (1, false, 1, .int)])) [.t 4, .t 5]),
 (sM 3 6)])
 (.ret [3])))
def graph_Graph_Around_1_I : FInfo := ⟨(.fz false), 2, graph_Graph_Around_1_C, [.tmp 3]⟩
def graph_Graph_Around_1_A : Ann := ⟨[], [], [], [], [2]⟩
abbrev n_graph_Graph_Around_1 : Nat := 98

/-! ### slices.Concat[[]balise/api.End,balise/api.End] -/
def slices_Concat_End_B0 : CCode :=
 (.seq
 (.ops [
 (sP 12 (.bin .lss .ifc) [.t 11, .t 10])])
 (.seq
 (.cond (.t 12)
 .skip
 (.exit 0))
 (.seq
 (.block 1 (some [0, 3, 9, 10, 11])
 (.seq
 (.ops [
 (sP 13 (.iaddr 1) [.t 9, .t 11]),
 (sH 14 (.load false 1) [.t 13]),
 (sM 5 14)])
 (.seq
 (.ops [
 (sM 15 3),
 (sM 16 5),
 (sP 17 .len [.t 16]),
 (sP 18 (.bin .add .ifc) [.t 15, .t 17]),
 (sM 3 18)])
 (.seq
 (.ops [
 (sM 19 3),
 (sP 20 (.bin .lss .ifc) [.t 19, .c (.int .i64 0)])])
 (.cond (.t 20)
 bad
 .skip)))))
 (.ops [
 (sP 22 (.bin .add .ifc) [.t 11, .c (.int .i64 1)]),
 (sM 11 22)]))))
def slices_Concat_End_L0 : CCode := .bloop 0 [0, 3, 9, 10, 11] [0, 3] slices_Concat_End_B0

def slices_Concat_End_B2 : CCode :=
 (.seq
 (.ops [
 (sP 28 (.bin .lss .ifc) [.t 27, .t 26])])
 (.seq
 (.cond (.t 28)
 .skip
 (.exit 2))
 (.seq
 (.block 3 (some [6, 25, 26, 27])
 (.seq
 (.ops [
 (sP 29 (.iaddr 1) [.t 25, .t 27]),
 (sH 30 (.load false 1) [.t 29]),
 (sM 8 30)])
 (.ops [
 (sM 31 6),
 (sM 32 8),
 (sH 33 (.app 2 16 [(.int .i64 0), (.int .i64 0)]) [.t 31, .t 32]),
 (sM 6 33)])))
 (.ops [
 (sP 34 (.bin .add .ifc) [.t 27, .c (.int .i64 1)]),
 (sM 27 34)]))))
def slices_Concat_End_L2 : CCode := .bloop 2 [6, 25, 26, 27] [6] slices_Concat_End_B2
def slices_Concat_End_C : CCode :=
 (.seq
 (.ops [
 (sP 2 .mov [.c .nils])])
 (.seq
 (.ops [
 (sP 3 .mov [.c (.int .i64 0)])])
 (.seq
 (.seq
 (.ops [
 (sM 9 0),
 (sP 10 .len [.t 9]),
 (sP 11 .mov [.c (.int .i64 0)])])
 slices_Concat_End_L0)
 (.seq
 (.ops [
 (sM 23 3),
 (sC 24 114 [.c .nils, .t 23]),
 (sM 6 24)])
 (.seq
 (.seq
 (.ops [
 (sM 25 0),
 (sP 26 .len [.t 25]),
 (sP 27 .mov [.c (.int .i64 0)])])
 slices_Concat_End_L2)
 (.seq
 (.ops [
 (sM 35 6),
 (sM 2 35)])
 (.ret [2])))))))
def slices_Concat_End_I : FInfo := ⟨(.fz false), 1, slices_Concat_End_C, [.tmp 2]⟩
def slices_Concat_End_A : Ann := ⟨[], [], [(0, [0, 3, 9, 10, 11], [0, 3]), (2, [6, 25, 26, 27], [6])], [(1, [0, 3, 9, 10, 11]), (3, [6, 25, 26, 27])], []⟩
abbrev n_slices_Concat_End : Nat := 99

/-! ### (*balise/graph.Graph).at -/
def graph_Graph_at_B0 : CCode :=
 (.seq
 (.ops [
 (sP 14 (.bin .lss .ifc) [.t 13, .t 12])])
 (.seq
 (.cond (.t 14)
 .skip
 (.exit 0))
 (.seq
 (.block 1 (some [1, 11, 12, 13])
 (.seq
 (.ops [
 (sP 15 (.iaddr 2) [.t 11, .t 13]),
 (sH 16 (.load true 2) [.t 15]),
 (sH 8 (.newl 8 [(.int .i64 0), (.int .i64 0)]) []),
 (sHn (.store 2) [.t 8, .t 16])])
 (.seq
 (.ops [
 (sP 17 (.faddr 0) [.t 8]),
 (sH 18 (.load false 1) [.t 17]),
 (sM 19 1),
 (sP 20 (.bin .eql .int) [.t 18, .t 19])])
 (.cond (.t 20)
 (.seq
 (.ops [
 (sH 21 (.load true 2) [.t 8]),
 (sH 22 (.bslF 2 1 [(.int .i64 0), (.int .i64 0)] [(0, 2)]) [.t 21]),
 (sM 6 22)])
 (.ret [6]))
 .skip))))
 (.ops [
 (sP 23 (.bin .add .ifc) [.t 13, .c (.int .i64 1)]),
 (sM 13 23)]))))
def graph_Graph_at_L0 : CCode := .bloop 0 [1, 11, 12, 13] [] graph_Graph_at_B0
def graph_Graph_at_C : CCode :=
 (.seq
 (.ops [
 (sP 6 .mov [.c .nils])])
 (.seq
 (.seq
 (.ops [
 (sM 9 0),
 (sM 10 2),
 (sC 11 97 [.t 9, .t 10]),
 (sP 12 .len [.t 11]),
 (sP 13 .mov [.c (.int .i64 0)])])
 graph_Graph_at_L0)
 (.seq
 (.ops [
 (sP 6 .mov [.c .nils])])
 (.ret [6]))))
def graph_Graph_at_I : FInfo := ⟨(.fz false), 3, graph_Graph_at_C, [.tmp 6]⟩
def graph_Graph_at_A : Ann := ⟨[], [], [(0, [1, 11, 12, 13], [])], [(1, [1, 11, 12, 13])], [8]⟩
abbrev n_graph_Graph_at : Nat := 100

/-! ### slices.IndexFunc[[]balise/api.Point,balise/api.Point] -/
def slices_IndexFunc_Point_B0 : CCode :=
 (.seq
 (.ops [
 (sP 9 (.bin .lss .ifc) [.t 8, .t 7])])
 (.seq
 (.cond (.t 9)
 .skip
 (.exit 0))
 (.seq
 (.block 1 (some [0, 1, 7, 8])
 (.seq
 (.ops [
 (sM 10 8),
 (sM 5 10)])
 (.seq
 (.ops [
 (sM 11 1),
 (sM 12 0),
 (sM 13 5),
 (sP 14 (.iaddr 4) [.t 12, .t 13]),
 (sH 15 (.load true 4) [.t 14]),
 ⟨(some 16), .call, [.t 11, .t 15], none⟩])
 (.cond (.t 16)
 (.seq
 (.ops [
 (sM 17 5),
 (sM 4 17)])
 (.ret [4]))
 .skip))))
 (.ops [
 (sP 18 (.bin .add .ifc) [.t 8, .c (.int .i64 1)]),
 (sM 8 18)]))))
def slices_IndexFunc_Point_L0 : CCode := .bloop 0 [0, 1, 7, 8] [] slices_IndexFunc_Point_B0
def slices_IndexFunc_Point_C : CCode :=
 (.seq
 (.ops [
 (sP 4 .mov [.c (.int .i64 0)])])
 (.seq
 (.seq
 (.ops [
 (sM 6 0),
 (sP 7 .len [.t 6]),
 (sP 8 .mov [.c (.int .i64 0)])])
 slices_IndexFunc_Point_L0)
 (.seq
 (.ops [
 (sP 4 .mov [.c (.int .i64 (-1))])])
 (.ret [4]))))
def slices_IndexFunc_Point_I : FInfo := ⟨(.fz false), 2, slices_IndexFunc_Point_C, [.tmp 4]⟩
def slices_IndexFunc_Point_A : Ann := ⟨[], [], [(0, [0, 1, 7, 8], [])], [(1, [0, 1, 7, 8])], []⟩
abbrev n_slices_IndexFunc_Point : Nat := 112

/-! ### (*balise/graph.Graph).Point$1 -/
def graph_Graph_Point_1_C : CCode :=
 (.seq
 (.ops [
 (sH 2 (.box 2) [.t 0]),
 (sP 3 .mov [.c (.bool false)])])
 (.seq
 (.ops [
 (sP 4 (.faddr 0) [.t 2]),
 (sH 5 (.load false 1) [.t 4]),
 (sH 6 (.load false 1) [.t 1]),
 (sP 7 (.bin .eql .int) [.t 5, .t 6]),
 (sM 3 7)])
 (.ret [3])))
def graph_Graph_Point_1_I : FInfo := ⟨(.fz false), 2, graph_Graph_Point_1_C, [.tmp 3]⟩
def graph_Graph_Point_1_A : Ann := ⟨[], [], [], [], [2]⟩
abbrev n_graph_Graph_Point_1 : Nat := 113

/-! ### slices.Grow[[]balise/api.End,balise/api.End] -/
def slices_Grow_End_C : CCode :=
 (.seq
 (.ops [
 (sP 4 .mov [.c .nils])])
 (.seq
 (.seq
 (.ops [
 (sM 5 1),
 (sP 6 (.bin .lss .ifc) [.t 5, .c (.int .i64 0)])])
 (.cond (.t 6)
 bad
 .skip))
 (.seq
 (.seq
 (.ops [
 (sM 8 1),
 (sM 9 0),
 (sP 10 .cap [.t 9]),
 (sM 11 0),
 (sP 12 .len [.t 11]),
 (sP 13 (.bin .sub .ifc) [.t 10, .t 12]),
 (sP 14 (.bin .sub .ifc) [.t 8, .t 13]),
 (sM 1 14)])
 (.seq
 (.ops [
 (sM 15 1),
 (sP 16 (.bin .gtr .ifc) [.t 15, .c (.int .i64 0)])])
 (.cond (.t 16)
 (.ops [
 (sM 17 0),
 (sM 18 0),
 (sP 19 .cap [.t 18]),
 (sP 20 (.slc 2 false true) [.t 17, .t 19]),
 (sM 21 1),
 (sH 22 (.appz 2 16 [(.int .i64 0), (.int .i64 0)]) [.t 20, .t 21]),
 (sM 23 0),
 (sP 24 .len [.t 23]),
 (sP 25 (.slc 2 false true) [.t 22, .t 24]),
 (sM 0 25)])
 .skip)))
 (.seq
 (.ops [
 (sM 26 0),
 (sM 4 26)])
 (.ret [4])))))
def slices_Grow_End_I : FInfo := ⟨.ref, 2, slices_Grow_End_C, [.tmp 4]⟩
def slices_Grow_End_A : Ann := ⟨[], [], [], [], []⟩
abbrev n_slices_Grow_End : Nat := 114

/-! ### balise/baliselaw20.JudgeApart -/
def l20_JudgeApart_B2 : CCode :=
 (.seq
 (.seq
 (.ops [
 (sM 27 6),
 (sM 28 0),
 (sM 29 4),
 (sP 30 (.iaddr 1) [.t 28, .t 29]),
 (sH 31 (.load false 1) [.t 30]),
 (sP 32 .len [.t 31]),
 (sP 33 (.bin .lss .ifc) [.t 27, .t 32])])
 (.cond (.t 33)
 .skip
 (.exit 2)))
 (.seq
 (.block 3 (some [0, 3, 4, 5, 6])
 (.ops [
 (sM 36 5),
 (sM 37 0),
 (sM 38 4),
 (sP 39 (.iaddr 1) [.t 37, .t 38]),
 (sH 40 (.load false 1) [.t 39]),
 (sM 41 6),
 (sP 42 (.iaddr 1) [.t 40, .t 41]),
 (sH 43 (.load false 1) [.t 42]),
 (sP 44 (.toInt .i64) [.t 43]),
 (sH 45 (.bslF 1 1 [(.int .i64 0)] [(0, 1)]) [.t 44]),
 (sH 46 (.app 1 8 [(.int .i64 0)]) [.t 36, .t 45]),
 (sM 5 46)]))
 (.ops [
 (sM 34 6),
 (sP 35 (.bin .add .ifc) [.t 34, .c (.int .i64 1)]),
 (sM 6 35)])))
def l20_JudgeApart_L2 : CCode := .bloop 2 [0, 3, 4, 5, 6] [0, 3, 4, 5] l20_JudgeApart_B2

def l20_JudgeApart_B0 : CCode :=
 (.seq
 (.seq
 (.ops [
 (sM 15 4),
 (sM 16 0),
 (sP 17 .len [.t 16]),
 (sP 18 (.bin .lss .ifc) [.t 15, .t 17])])
 (.cond (.t 18)
 .skip
 (.exit 0)))
 (.seq
 (.block 1 (some [0, 3, 4])
 (.seq
 (.seq
 (.ops [
 (sM 21 0),
 (sM 22 4),
 (sP 23 (.iaddr 1) [.t 21, .t 22]),
 (sH 24 (.load false 1) [.t 23]),
 (sP 25 .len [.t 24]),
 (sP 26 (.bin .gtr .ifc) [.t 25, .c (.int .i64 20)])])
 (.cond (.t 26)
 (.seq
 (.ops [
 (sP 2 .mov [.c (.bool true)])])
 (.ret [2]))
 .skip))
 (.seq
 (.ops [
 (sP 5 .mov [.c .nils])])
 (.seq
 (.seq
 (.ops [
 (sP 6 .mov [.c (.int .i64 0)])])
 l20_JudgeApart_L2)
 (.ops [
 (sM 47 3),
 (sM 48 5),
 (sH 49 (.bslO 1 1 [.nils] [(0, 1)]) [.t 48]),
 (sH 50 (.app 1 24 [.nils]) [.t 47, .t 49]),
 (sM 3 50)])))))
 (.ops [
 (sM 19 4),
 (sP 20 (.bin .add .ifc) [.t 19, .c (.int .i64 1)]),
 (sM 4 20)])))
def l20_JudgeApart_L0 : CCode := .bloop 0 [0, 3, 4] [3] l20_JudgeApart_B0
def l20_JudgeApart_C : CCode :=
 (.seq
 (.ops [
 (sP 2 .mov [.c (.bool false)])])
 (.seq
 (.seq
 (.ops [
 (sC 7 14 []),
 (sP 8 (.un .not) [.t 7]),
 (sM 9 8),
 (sG (sM 10 0) 9 false),
 (sG (sP 11 .len [.t 10]) 9 false),
 (sG (sP 12 (.bin .gtr .ifc) [.t 11, .c (.int .i64 8)]) 9 false),
 (sP 13 .pick [.t 9, .c (.bool true), .t 12])])
 (.cond (.t 13)
 (.seq
 (.ops [
 (sC 14 14 []),
 (sM 2 14)])
 (.ret [2]))
 .skip))
 (.seq
 (.ops [
 (sP 3 .mov [.c .nils])])
 (.seq
 (.seq
 (.ops [
 (sP 4 .mov [.c (.int .i64 0)])])
 l20_JudgeApart_L0)
 (.seq
 (.ops [
 (sM 51 3),
 (sC 52 28 [.t 51]),
 (sM 53 3),
 (sC 54 29 [.t 53]),
 (sP 55 (.bin .eql .bool) [.t 52, .t 54]),
 (sM 2 55)])
 (.ret [2]))))))
def l20_JudgeApart_I : FInfo := ⟨(.fz false), 1, l20_JudgeApart_C, [.tmp 2]⟩
def l20_JudgeApart_A : Ann := ⟨[], [49], [(0, [0, 3, 4], [3]), (2, [0, 3, 4, 5, 6], [0, 3, 4, 5])], [(1, [0, 3, 4]), (3, [0, 3, 4, 5, 6])], []⟩
abbrev n_l20_JudgeApart : Nat := 7

/-! ### balise/judge.Apart -/
def judge_Apart_C : CCode :=
 (.seq
 (.ops [
 (sP 2 .mov [.c (.bool false)])])
 (.seq
 (.ops [
 (sM 4 0),
 (sC 5 63 [.t 4]),
 (sC 6 62 [.t 5]),
 (sC 7 61 [.t 6]),
 (sM 3 7)])
 (.seq
 (.ops [
 (sM 8 3),
 (sC 9 65 [.t 8]),
 (sC 10 64 [.t 9]),
 (sP 11 .len [.t 10]),
 (sM 12 3),
 (sP 13 .len [.t 12]),
 (sP 14 (.bin .eql .int) [.t 11, .t 13]),
 (sM 2 14)])
 (.ret [2]))))
def judge_Apart_I : FInfo := ⟨(.fz false), 1, judge_Apart_C, [.tmp 2]⟩
def judge_Apart_A : Ann := ⟨[], [], [], [], []⟩
abbrev n_judge_Apart : Nat := 28

/-! ### balise/baliseref16.Apart -/
def r16_Apart_B0 : CCode :=
 (.seq
 (.seq
 (.ops [
 (sM 5 4),
 (sM 6 0),
 (sP 7 .len [.t 6]),
 (sP 8 (.bin .lss .ifc) [.t 5, .t 7])])
 (.cond (.t 8)
 .skip
 (.exit 0)))
 (.seq
 (.block 1 (some [0, 3, 4])
 (.ops [
 (sM 11 3),
 (sM 12 0),
 (sM 13 4),
 (sP 14 (.iaddr 1) [.t 12, .t 13]),
 (sH 15 (.load false 1) [.t 14]),
 (sH 16 (.app 1 8 [(.int .i64 0)]) [.t 11, .t 15]),
 (sM 3 16)]))
 (.ops [
 (sM 9 4),
 (sP 10 (.bin .add .ifc) [.t 9, .c (.int .i64 1)]),
 (sM 4 10)])))
def r16_Apart_L0 : CCode := .bloop 0 [0, 3, 4] [3] r16_Apart_B0
def r16_Apart_C : CCode :=
 (.seq
 (.ops [
 (sP 2 .mov [.c (.bool false)])])
 (.seq
 (.ops [
 (sP 3 .mov [.c .nils])])
 (.seq
 (.seq
 (.ops [
 (sP 4 .mov [.c (.int .i64 0)])])
 r16_Apart_L0)
 (.seq
 (.ops [
 (sM 17 3),
 (sC 18 39 [.t 17]),
 (sP 19 .len [.t 18]),
 (sM 20 3),
 (sP 21 .len [.t 20]),
 (sP 22 (.bin .eql .int) [.t 19, .t 21]),
 (sM 2 22)])
 (.ret [2])))))
def r16_Apart_I : FInfo := ⟨(.fz false), 1, r16_Apart_C, [.tmp 2]⟩
def r16_Apart_A : Ann := ⟨[], [], [(0, [0, 3, 4], [3])], [(1, [0, 3, 4])], []⟩
abbrev n_r16_Apart : Nat := 29

/-! ### slices.Values[[]int,int] -/
def slices_Values_int_C : CCode :=
 (.seq
 (.ops [
 (sH 1 .boxh [.t 0]),
 (sP 2 .mov [.c .nilf])])
 (.seq
 (.ops [
 (sP 3 (.mkfn (.func 88) 0) [.t 1]),
 (sM 2 3)])
 (.ret [2])))
def slices_Values_int_I : FInfo := ⟨.ref, 1, slices_Values_int_C, [.tmp 2]⟩
def slices_Values_int_A : Ann := ⟨[1], [], [], [], []⟩
abbrev n_slices_Values_int : Nat := 62

/-! ### slices.Concat[[]int,int] -/
def slices_Concat_int_B0 : CCode :=
 (.seq
 (.ops [
 (sP 12 (.bin .lss .ifc) [.t 11, .t 10])])
 (.seq
 (.cond (.t 12)
 .skip
 (.exit 0))
 (.seq
 (.block 1 (some [0, 3, 9, 10, 11])
 (.seq
 (.ops [
 (sP 13 (.iaddr 1) [.t 9, .t 11]),
 (sH 14 (.load false 1) [.t 13]),
 (sM 5 14)])
 (.seq
 (.ops [
 (sM 15 3),
 (sM 16 5),
 (sP 17 .len [.t 16]),
 (sP 18 (.bin .add .ifc) [.t 15, .t 17]),
 (sM 3 18)])
 (.seq
 (.ops [
 (sM 19 3),
 (sP 20 (.bin .lss .ifc) [.t 19, .c (.int .i64 0)])])
 (.cond (.t 20)
 bad
 .skip)))))
 (.ops [
 (sP 22 (.bin .add .ifc) [.t 11, .c (.int .i64 1)]),
 (sM 11 22)]))))
def slices_Concat_int_L0 : CCode := .bloop 0 [0, 3, 9, 10, 11] [0, 3] slices_Concat_int_B0

def slices_Concat_int_B2 : CCode :=
 (.seq
 (.ops [
 (sP 28 (.bin .lss .ifc) [.t 27, .t 26])])
 (.seq
 (.cond (.t 28)
 .skip
 (.exit 2))
 (.seq
 (.block 3 (some [6, 25, 26, 27])
 (.seq
 (.ops [
 (sP 29 (.iaddr 1) [.t 25, .t 27]),
 (sH 30 (.load false 1) [.t 29]),
 (sM 8 30)])
 (.ops [
 (sM 31 6),
 (sM 32 8),
 (sH 33 (.app 1 8 [(.int .i64 0)]) [.t 31, .t 32]),
 (sM 6 33)])))
 (.ops [
 (sP 34 (.bin .add .ifc) [.t 27, .c (.int .i64 1)]),
 (sM 27 34)]))))
def slices_Concat_int_L2 : CCode := .bloop 2 [6, 25, 26, 27] [6] slices_Concat_int_B2
def slices_Concat_int_C : CCode :=
 (.seq
 (.ops [
 (sP 2 .mov [.c .nils])])
 (.seq
 (.ops [
 (sP 3 .mov [.c (.int .i64 0)])])
 (.seq
 (.seq
 (.ops [
 (sM 9 0),
 (sP 10 .len [.t 9]),
 (sP 11 .mov [.c (.int .i64 0)])])
 slices_Concat_int_L0)
 (.seq
 (.ops [
 (sM 23 3),
 (sC 24 89 [.c .nils, .t 23]),
 (sM 6 24)])
 (.seq
 (.seq
 (.ops [
 (sM 25 0),
 (sP 26 .len [.t 25]),
 (sP 27 .mov [.c (.int .i64 0)])])
 slices_Concat_int_L2)
 (.seq
 (.ops [
 (sM 35 6),
 (sM 2 35)])
 (.ret [2])))))))
def slices_Concat_int_I : FInfo := ⟨.ref, 1, slices_Concat_int_C, [.tmp 2]⟩
def slices_Concat_int_A : Ann := ⟨[], [], [(0, [0, 3, 9, 10, 11], [0, 3]), (2, [6, 25, 26, 27], [6])], [(1, [0, 3, 9, 10, 11]), (3, [6, 25, 26, 27])], []⟩
abbrev n_slices_Concat_int : Nat := 63

/-! ### slices.Grow[[]int,int] -/
def slices_Grow_int_C : CCode :=
 (.seq
 (.ops [
 (sP 4 .mov [.c .nils])])
 (.seq
 (.seq
 (.ops [
 (sM 5 1),
 (sP 6 (.bin .lss .ifc) [.t 5, .c (.int .i64 0)])])
 (.cond (.t 6)
 bad
 .skip))
 (.seq
 (.seq
 (.ops [
 (sM 8 1),
 (sM 9 0),
 (sP 10 .cap [.t 9]),
 (sM 11 0),
 (sP 12 .len [.t 11]),
 (sP 13 (.bin .sub .ifc) [.t 10, .t 12]),
 (sP 14 (.bin .sub .ifc) [.t 8, .t 13]),
 (sM 1 14)])
 (.seq
 (.ops [
 (sM 15 1),
 (sP 16 (.bin .gtr .ifc) [.t 15, .c (.int .i64 0)])])
 (.cond (.t 16)
 (.ops [
 (sM 17 0),
 (sM 18 0),
 (sP 19 .cap [.t 18]),
 (sP 20 (.slc 1 false true) [.t 17, .t 19]),
 (sM 21 1),
 (sH 22 (.appz 1 8 [(.int .i64 0)]) [.t 20, .t 21]),
 (sM 23 0),
 (sP 24 .len [.t 23]),
 (sP 25 (.slc 1 false true) [.t 22, .t 24]),
 (sM 0 25)])
 .skip)))
 (.seq
 (.ops [
 (sM 26 0),
 (sM 4 26)])
 (.ret [4])))))
def slices_Grow_int_I : FInfo := ⟨.ref, 2, slices_Grow_int_C, [.tmp 4]⟩
def slices_Grow_int_A : Ann := ⟨[], [], [], [], []⟩
abbrev n_slices_Grow_int : Nat := 89

/-! ### slices.Compact[[]int,int] -/
def slices_Compact_int_B2 : CCode :=
 (.seq
 (.seq
 (.ops [
 (sM 29 5),
 (sM 30 4),
 (sP 31 .len [.t 30]),
 (sP 32 (.bin .lss .ifc) [.t 29, .t 31])])
 (.cond (.t 32)
 .skip
 (.exit 2)))
 (.seq
 (.block 3 (some [0, 3, 4, 5])
 (.seq
 (.ops [
 (sM 35 4),
 (sM 36 5),
 (sP 37 (.iaddr 1) [.t 35, .t 36]),
 (sH 38 (.load false 1) [.t 37]),
 (sM 39 4),
 (sM 40 5),
 (sP 41 (.bin .sub .ifc) [.t 40, .c (.int .i64 1)]),
 (sP 42 (.iaddr 1) [.t 39, .t 41]),
 (sH 43 (.load false 1) [.t 42]),
 (sP 44 (.bin .neq .int) [.t 38, .t 43])])
 (.cond (.t 44)
 (.seq
 (.ops [
 (sM 45 0),
 (sM 46 3),
 (sM 47 4),
 (sM 48 5),
 (sP 49 (.iaddr 1) [.t 47, .t 48]),
 (sH 50 (.load false 1) [.t 49]),
 (sP 51 (.iaddr 1) [.t 45, .t 46]),
 (sHn (.store 1) [.t 51, .t 50])])
 (.ops [
 (sM 52 3),
 (sP 53 (.bin .add .ifc) [.t 52, .c (.int .i64 1)]),
 (sM 3 53)]))
 .skip)))
 (.ops [
 (sM 33 5),
 (sP 34 (.bin .add .ifc) [.t 33, .c (.int .i64 1)]),
 (sM 5 34)])))
def slices_Compact_int_L2 : CCode := .bloop 2 [0, 3, 4, 5] [0, 3] slices_Compact_int_B2

def slices_Compact_int_B0 : CCode :=
 (.seq
 (.seq
 (.ops [
 (sM 10 3),
 (sM 11 0),
 (sP 12 .len [.t 11]),
 (sP 13 (.bin .lss .ifc) [.t 10, .t 12])])
 (.cond (.t 13)
 .skip
 (.exit 0)))
 (.seq
 (.block 1 (some [0, 3])
 (.seq
 (.ops [
 (sM 16 0),
 (sM 17 3),
 (sP 18 (.iaddr 1) [.t 16, .t 17]),
 (sH 19 (.load false 1) [.t 18]),
 (sM 20 0),
 (sM 21 3),
 (sP 22 (.bin .sub .ifc) [.t 21, .c (.int .i64 1)]),
 (sP 23 (.iaddr 1) [.t 20, .t 22]),
 (sH 24 (.load false 1) [.t 23]),
 (sP 25 (.bin .eql .int) [.t 19, .t 24])])
 (.cond (.t 25)
 (.seq
 (.ops [
 (sM 26 0),
 (sM 27 3),
 (sP 28 (.slc 1 true false) [.t 26, .t 27]),
 (sM 4 28)])
 (.seq
 (.seq
 (.ops [
 (sP 5 .mov [.c (.int .i64 1)])])
 slices_Compact_int_L2)
 (.seq
 (.ops [
 (sM 54 0),
 (sM 55 3),
 (sP 56 (.slc 1 true false) [.t 54, .t 55]),
 (sHn (.clear 1 [(.int .i64 0)]) [.t 56])])
 (.seq
 (.ops [
 (sM 57 0),
 (sM 58 3),
 (sP 59 (.slc 1 false true) [.t 57, .t 58]),
 (sM 2 59)])
 (.ret [2])))))
 .skip)))
 (.ops [
 (sM 14 3),
 (sP 15 (.bin .add .ifc) [.t 14, .c (.int .i64 1)]),
 (sM 3 15)])))
def slices_Compact_int_L0 : CCode := .bloop 0 [0, 3] [0] slices_Compact_int_B0
def slices_Compact_int_C : CCode :=
 (.seq
 (.ops [
 (sP 2 .mov [.c .nils])])
 (.seq
 (.seq
 (.ops [
 (sM 6 0),
 (sP 7 .len [.t 6]),
 (sP 8 (.bin .lss .ifc) [.t 7, .c (.int .i64 2)])])
 (.cond (.t 8)
 (.seq
 (.ops [
 (sM 9 0),
 (sM 2 9)])
 (.ret [2]))
 .skip))
 (.seq
 (.seq
 (.ops [
 (sP 3 .mov [.c (.int .i64 1)])])
 slices_Compact_int_L0)
 (.seq
 (.ops [
 (sM 60 0),
 (sM 2 60)])
 (.ret [2])))))
def slices_Compact_int_I : FInfo := ⟨.ref, 1, slices_Compact_int_C, [.tmp 2]⟩
def slices_Compact_int_A : Ann := ⟨[], [], [(0, [0, 3], [0]), (2, [0, 3, 4, 5], [0, 3])], [(1, [0, 3]), (3, [0, 3, 4, 5])], []⟩
abbrev n_slices_Compact_int : Nat := 64

/-! ### slices.Clone[[]int,int] -/
def slices_Clone_int_C : CCode :=
 (.seq
 (.ops [
 (sP 2 .mov [.c .nils])])
 (.seq
 (.seq
 (.ops [
 (sM 3 0),
 (sP 4 (.bin .eql .sl) [.t 3, .c .nils])])
 (.cond (.t 4)
 (.seq
 (.ops [
 (sP 2 .mov [.c .nils])])
 (.ret [2]))
 .skip))
 (.seq
 (.ops [
 (sH 5 (.bslO 1 0 [(.int .i64 0)] []) []),
 (sM 6 0),
 (sH 7 (.app 1 8 [(.int .i64 0)]) [.t 5, .t 6]),
 (sM 2 7)])
 (.ret [2]))))
def slices_Clone_int_I : FInfo := ⟨.ref, 1, slices_Clone_int_C, [.tmp 2]⟩
def slices_Clone_int_A : Ann := ⟨[], [5], [], [], []⟩
abbrev n_slices_Clone_int : Nat := 65

end Go.Proofs.Ytfblegjbmhgepaa.Zt
