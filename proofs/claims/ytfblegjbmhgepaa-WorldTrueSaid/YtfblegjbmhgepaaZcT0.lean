/- Go functions, as the interpreter runs them: written by a program of this claim's own, proved to be what the compiler makes of them. No condition. -/
import Derived.Test.YtfblegjbmhgepaaZcSym
import Derived.Test.YtfblegjbmhgepaaProg
import Derived.Test.YtfblegjbmhgepaaZcKt
set_option linter.all false
namespace Go.Proofs.Ytfblegjbmhgepaa.Zt
open Go Go.Zc
set_option maxRecDepth 100000

/-! ### balise/baliseref18.Small -/
def r18_Small_B0 : CCode :=
 (.seq
 (.seq
 (.ops [
 (sM 5 3),
 (sP 6 (.faddr 9) [.t 1]),
 (sH 7 (.load false 1) [.t 6]),
 (sP 8 .len [.t 7]),
 (sP 9 (.bin .lss .ifc) [.t 5, .t 8])])
 (.cond (.t 9)
 .skip
 (.exit 0)))
 (.seq
 (.block 1 (some [1, 3])
 (.seq
 (.ops [
 (sP 12 (.faddr 9) [.t 1]),
 (sH 13 (.load false 1) [.t 12]),
 (sM 14 3),
 (sP 15 (.iaddr 6) [.t 13, .t 14]),
 (sP 16 (.faddr 5) [.t 15]),
 (sH 17 (.load false 1) [.t 16]),
 (sP 18 .len [.t 17]),
 (sP 19 (.bin .gtr .ifc) [.t 18, .c (.int .i64 12)])])
 (.cond (.t 19)
 (.seq
 (.ops [
 (sP 2 .mov [.c (.bool false)])])
 (.ret [2]))
 .skip)))
 (.ops [
 (sM 10 3),
 (sP 11 (.bin .add .ifc) [.t 10, .c (.int .i64 1)]),
 (sM 3 11)])))
def r18_Small_L0 : CCode := .bloop 0 [1, 3] [1] r18_Small_B0

def r18_Small_B2 : CCode :=
 (.seq
 (.seq
 (.ops [
 (sM 20 4),
 (sP 21 (.faddr 10) [.t 1]),
 (sH 22 (.load false 1) [.t 21]),
 (sP 23 .len [.t 22]),
 (sP 24 (.bin .lss .ifc) [.t 20, .t 23])])
 (.cond (.t 24)
 .skip
 (.exit 2)))
 (.seq
 (.block 3 (some [1, 4])
 (.seq
 (.ops [
 (sP 27 (.faddr 10) [.t 1]),
 (sH 28 (.load false 1) [.t 27]),
 (sM 29 4),
 (sP 30 (.iaddr 12) [.t 28, .t 29]),
 (sP 31 (.faddr 0) [.t 30]),
 (sH 32 (.load false 1) [.t 31]),
 (sP 33 .len [.t 32]),
 (sP 34 (.bin .gtr .ifc) [.t 33, .c (.int .i64 8)])])
 (.cond (.t 34)
 (.seq
 (.ops [
 (sP 2 .mov [.c (.bool false)])])
 (.ret [2]))
 .skip)))
 (.ops [
 (sM 25 4),
 (sP 26 (.bin .add .ifc) [.t 25, .c (.int .i64 1)]),
 (sM 4 26)])))
def r18_Small_L2 : CCode := .bloop 2 [1, 4] [1] r18_Small_B2
def r18_Small_C : CCode :=
 (.seq
 (.ops [
 (sH 1 (.box 1) [.t 0]),
 (sP 2 .mov [.c (.bool false)])])
 (.seq
 (.seq
 (.ops [
 (sP 3 .mov [.c (.int .i64 0)])])
 r18_Small_L0)
 (.seq
 (.seq
 (.ops [
 (sP 4 .mov [.c (.int .i64 0)])])
 r18_Small_L2)
 (.seq
 (.ops [
 (sP 35 (.faddr 0) [.t 1]),
 (sH 36 (.load true 9) [.t 35]),
 (sC 37 25 [.t 36]),
 (sM 38 37),
 (sG (sP 39 (.faddr 9) [.t 1]) 38 true),
 (sG (sH 40 (.load false 1) [.t 39]) 38 true),
 (sG (sP 41 .len [.t 40]) 38 true),
 (sG (sP 42 (.bin .leq .ifc) [.t 41, .c (.int .i64 6)]) 38 true),
 (sP 43 .pick [.t 38, .t 42, .c (.bool false)]),
 (sM 44 43),
 (sG (sP 45 (.faddr 10) [.t 1]) 44 true),
 (sG (sH 46 (.load false 1) [.t 45]) 44 true),
 (sG (sP 47 .len [.t 46]) 44 true),
 (sG (sP 48 (.bin .leq .ifc) [.t 47, .c (.int .i64 120)]) 44 true),
 (sP 49 .pick [.t 44, .t 48, .c (.bool false)]),
 (sM 2 49)])
 (.ret [2])))))
def r18_Small_I : FInfo := ⟨(.fz false), 1, r18_Small_C, [.tmp 2]⟩
def r18_Small_A : Ann := ⟨[], [], [(0, [1, 3], [1]), (2, [1, 4], [1])], [(1, [1, 3]), (3, [1, 4])], [1]⟩
abbrev n_r18_Small : Nat := 15

/-! ### balise/baliseref18.Begin -/
def r18_Begin_B0 : CCode :=
 (.seq
 (.seq
 (.ops [
 (sM 19 4),
 (sP 20 (.bin .lss .ifc) [.t 19, .c (.int .i64 6)])])
 (.cond (.t 20)
 .skip
 (.exit 0)))
 (.seq
 (.block 1 (some [1, 3, 4])
 (.ops [
 (sM 23 3),
 (sM 24 4),
 (sP 25 .nchk [.t 23]),
 (sP 26 (.faddr 17) [.t 25]),
 (sP 27 (.iaddrA 6 1) [.t 26, .t 24]),
 (sHn (.store 1) [.t 27, .c (.int .i64 (-1))])]))
 (.ops [
 (sM 21 4),
 (sP 22 (.bin .add .ifc) [.t 21, .c (.int .i64 1)]),
 (sM 4 22)])))
def r18_Begin_L0 : CCode := .bloop 0 [1, 3, 4] [1, 3] r18_Begin_B0

def r18_Begin_B4 : CCode :=
 (.seq
 (.seq
 (.ops [
 (sM 73 11),
 (sM 74 9),
 (sP 75 .len [.t 74]),
 (sP 76 (.bin .lss .ifc) [.t 73, .t 75])])
 (.cond (.t 76)
 .skip
 (.exit 4)))
 (.seq
 (.block 5 (some [1, 3, 5, 6, 8, 9, 10, 11])
 (.ops [
 (sM 79 10),
 (sM 80 3),
 (sP 81 .nchk [.t 80]),
 (sP 82 (.faddr 0) [.t 81]),
 (sH 83 (.load true 10) [.t 82]),
 (sM 84 9),
 (sM 85 11),
 (sP 86 (.iaddr 1) [.t 84, .t 85]),
 (sH 87 (.load false 1) [.t 86]),
 (sC 88 49 [.t 83, .t 87]),
 (sP 89 (.bin .add .ifc) [.t 79, .t 88]),
 (sM 10 89)]))
 (.ops [
 (sM 77 11),
 (sP 78 (.bin .add .ifc) [.t 77, .c (.int .i64 1)]),
 (sM 11 78)])))
def r18_Begin_L4 : CCode := .bloop 4 [1, 3, 5, 6, 8, 9, 10, 11] [1, 3, 5, 6, 8, 9, 10] r18_Begin_B4

def r18_Begin_B2 : CCode :=
 (.seq
 (.seq
 (.ops [
 (sM 28 5),
 (sP 29 (.faddr 9) [.t 1]),
 (sH 30 (.load false 1) [.t 29]),
 (sP 31 .len [.t 30]),
 (sP 32 (.bin .lss .ifc) [.t 28, .t 31]),
 (sM 33 32),
 (sG (sM 34 5) 33 true),
 (sG (sP 35 (.bin .lss .ifc) [.t 34, .c (.int .i64 6)]) 33 true),
 (sP 36 .pick [.t 33, .t 35, .c (.bool false)])])
 (.cond (.t 36)
 .skip
 (.exit 2)))
 (.seq
 (.block 3 (some [1, 3, 5])
 (.seq
 (.ops [
 (sP 39 (.faddr 9) [.t 1]),
 (sH 40 (.load false 1) [.t 39]),
 (sM 41 5),
 (sP 42 (.iaddr 6) [.t 40, .t 41]),
 (sH 43 (.load true 6) [.t 42]),
 (sH 6 (.newl 6 [(.int .u8 0), (.int .u8 0), (.int .u8 0), (.int .u8 0), (.int .u8 0), .nils]) []),
 (sHn (.store 6) [.t 6, .t 43])])
 (.seq
 (.ops [
 (sP 44 (.faddr 0) [.t 6]),
 (sH 45 (.load false 1) [.t 44]),
 (sP 46 (.toInt .i64) [.t 45]),
 (sM 47 3),
 (sP 48 .nchk [.t 47]),
 (sP 49 (.faddr 0) [.t 48]),
 (sP 50 (.faddr 1) [.t 49]),
 (sH 51 (.load false 1) [.t 50]),
 (sP 52 .len [.t 51]),
 (sP 53 (.bin .rem .ifc) [.t 46, .t 52]),
 (sP 54 (.faddr 1) [.t 6]),
 (sH 55 (.load false 1) [.t 54]),
 (sP 56 (.bin .rem .ifc) [.t 55, .c (.int .u8 2)]),
 (sP 57 (.toInt .i64) [.t 56]),
 (sM 7 53),
 (sM 8 57)])
 (.seq
 (.ops [
 (sM 58 3),
 (sP 59 .nchk [.t 58]),
 (sP 60 (.faddr 0) [.t 59]),
 (sH 61 (.load true 10) [.t 60]),
 (sM 62 7),
 (sM 63 8),
 (sP 64 (.bin .sub .ifc) [.c (.int .i64 1), .t 63]),
 (sP 65 (.faddr 5) [.t 6]),
 (sH 66 (.load false 1) [.t 65]),
 (sP 67 (.faddr 4) [.t 6]),
 (sH 68 (.load false 1) [.t 67]),
 (sP 69 (.bin .rem .ifc) [.t 68, .c (.int .u8 4)]),
 (sP 70 (.toInt .i64) [.t 69]),
 (sP 71 (.bin .add .ifc) [.c (.int .i64 1), .t 70]),
 (sC 72 48 [.t 61, .t 62, .t 64, .t 66, .t 71]),
 (sM 9 72)])
 (.seq
 (.ops [
 (sP 10 .mov [.c (.int .i64 0)])])
 (.seq
 (.seq
 (.ops [
 (sP 11 .mov [.c (.int .i64 0)])])
 r18_Begin_L4)
 (.seq
 (.ops [
 (sP 90 (.faddr 3) [.t 6]),
 (sH 91 (.load false 1) [.t 90]),
 (sP 92 (.toInt .i64) [.t 91]),
 (sM 93 3),
 (sP 94 .nchk [.t 93]),
 (sP 95 (.faddr 0) [.t 94]),
 (sH 96 (.load true 10) [.t 95]),
 (sM 97 9),
 (sP 98 (.iaddr 1) [.t 97, .c (.int .i64 0)]),
 (sH 99 (.load false 1) [.t 98]),
 (sC 100 49 [.t 96, .t 99]),
 (sP 101 (.bin .rem .ifc) [.t 92, .t 100]),
 (sM 12 101)])
 (.seq
 (.ops [
 (sP 102 (.faddr 2) [.t 6]),
 (sH 103 (.load false 1) [.t 102]),
 (sP 104 (.toInt .i64) [.t 103]),
 (sM 105 10),
 (sM 106 12),
 (sP 107 (.bin .sub .ifc) [.t 105, .t 106]),
 (sP 108 (.bin .sub .ifc) [.t 107, .c (.int .i64 1)]),
 (sP 109 (.bin .mul .ifc) [.t 104, .t 108]),
 (sP 110 (.bin .quo .ifc) [.t 109, .c (.int .i64 256)]),
 (sP 111 (.bin .add .ifc) [.c (.int .i64 1), .t 110]),
 (sM 13 111)])
 (.ops [
 (sM 113 3),
 (sM 114 3),
 (sP 115 .nchk [.t 114]),
 (sP 116 (.faddr 0) [.t 115]),
 (sH 117 (.load true 10) [.t 116]),
 (sM 118 3),
 (sP 119 .nchk [.t 118]),
 (sP 120 (.faddr 10) [.t 119]),
 (sH 121 (.load false 1) [.t 120]),
 (sM 122 5),
 (sM 123 13),
 (sM 124 12),
 (sM 125 8),
 (sM 126 9),
 (sC 127 50 [.t 117, .t 121, .t 122, .t 123, .t 124, .t 125, .t 126]),
 (sM 112 127),
 (sP 128 (.ext 0) [.t 112]),
 (sP 129 (.ext 1) [.t 112]),
 (sP 130 .nchk [.t 113]),
 (sP 131 (.faddr 10) [.t 130]),
 (sHn (.store 1) [.t 131, .t 128])])))))))))
 (.ops [
 (sM 37 5),
 (sP 38 (.bin .add .ifc) [.t 37, .c (.int .i64 1)]),
 (sM 5 38)])))
def r18_Begin_L2 : CCode := .bloop 2 [1, 3, 5] [3] r18_Begin_B2
def r18_Begin_C : CCode :=
 (.seq
 (.ops [
 (sH 1 (.box 1) [.t 0]),
 (sP 2 .mov [.c .nilp])])
 (.seq
 (.ops [
 (sP 14 (.faddr 0) [.t 1]),
 (sH 15 (.load true 9) [.t 14]),
 (sC 16 26 [.t 15]),
 (sP 17 (.bld [.nils, .nils, .nils, .nils, .nils, (.int .i64 0), (.int .i64 0), (.int .i64 0), (.int .i64 0), (.int .i64 0), .nils, (.bool false), (.bool false), (.bool false), (.bool false), (.bool false), (.bool false), (.int .i64 0), (.int .i64 0), (.int .i64 0), (.int .i64 0), (.int .i64 0), (.int .i64 0), .nils, .nils] [(0, 10)]) [.t 16]),
 (sH 18 .boxh [.t 17]),
 (sM 3 18)])
 (.seq
 (.seq
 (.ops [
 (sP 4 .mov [.c (.int .i64 0)])])
 r18_Begin_L0)
 (.seq
 (.seq
 (.ops [
 (sP 5 .mov [.c (.int .i64 0)])])
 r18_Begin_L2)
 (.seq
 (.ops [
 (sM 132 3),
 (sM 133 3),
 (sP 134 .nchk [.t 133]),
 (sP 135 (.faddr 0) [.t 134]),
 (sP 136 (.faddr 3) [.t 135]),
 (sH 137 (.load false 1) [.t 136]),
 (sP 138 .len [.t 137]),
 (sH 139 (.mkslF 1 1 [(.bool false)]) [.t 138, .t 138]),
 (sP 140 .nchk [.t 132]),
 (sP 141 (.faddr 24) [.t 140]),
 (sHn (.store 1) [.t 141, .t 139])])
 (.seq
 (.ops [
 (sM 142 3),
 (sM 2 142)])
 (.ret [2])))))))
def r18_Begin_I : FInfo := ⟨.ref, 1, r18_Begin_C, [.tmp 2]⟩
def r18_Begin_A : Ann := ⟨[18], [139], [(0, [1, 3, 4], [1, 3]), (2, [1, 3, 5], [3]), (4, [1, 3, 5, 6, 8, 9, 10, 11], [1, 3, 5, 6, 8, 9, 10])], [(1, [1, 3, 4]), (3, [1, 3, 5]), (5, [1, 3, 5, 6, 8, 9, 10, 11])], [1, 6]⟩
abbrev n_r18_Begin : Nat := 16

/-! ### balise/baliseref18.Drive -/
def r18_Drive_B0 : CCode :=
 (.seq
 (.seq
 (.ops [
 (sM 10 4),
 (sM 11 0),
 (sP 12 .nchk [.t 11]),
 (sP 13 (.faddr 10) [.t 12]),
 (sH 14 (.load false 1) [.t 13]),
 (sP 15 .len [.t 14]),
 (sP 16 (.bin .lss .ifc) [.t 10, .t 15]),
 (sM 17 16),
 (sG (sM 18 4) 17 true),
 (sG (sP 19 (.faddr 0) [.t 3]) 17 true),
 (sG (sH 20 (.load false 1) [.t 19]) 17 true),
 (sG (sP 21 .len [.t 20]) 17 true),
 (sG (sP 22 (.bin .lss .ifc) [.t 18, .t 21]) 17 true),
 (sP 23 .pick [.t 17, .t 22, .c (.bool false)])])
 (.cond (.t 23)
 .skip
 (.exit 0)))
 (.seq
 (.block 1 (some [0, 3, 4])
 (.seq
 (.seq
 (.ops [
 (sM 26 0),
 (sM 27 0),
 (sP 28 .nchk [.t 27]),
 (sP 29 (.faddr 10) [.t 28]),
 (sH 30 (.load false 1) [.t 29]),
 (sM 31 4),
 (sP 32 (.iaddr 4) [.t 30, .t 31]),
 (sP 33 (.faddr 0) [.t 32]),
 (sH 34 (.load false 1) [.t 33]),
 (sP 35 .nchk [.t 26]),
 (sP 36 (.faddr 17) [.t 35]),
 (sP 37 (.iaddrA 6 1) [.t 36, .t 34]),
 (sH 38 (.load false 1) [.t 37]),
 (sP 39 (.bin .geq .ifc) [.t 38, .c (.int .i64 0)])])
 (.cond (.t 39)
 (.exit 1)
 .skip))
 (.seq
 (.ops [
 (sP 40 (.faddr 0) [.t 3]),
 (sH 41 (.load false 1) [.t 40]),
 (sM 42 4),
 (sP 43 (.iaddr 1) [.t 41, .t 42]),
 (sH 44 (.load false 1) [.t 43]),
 (sP 45 (.toInt .i64) [.t 44]),
 (sM 46 0),
 (sP 47 .nchk [.t 46]),
 (sP 48 (.faddr 0) [.t 47]),
 (sP 49 (.faddr 5) [.t 48]),
 (sH 50 (.load false 1) [.t 49]),
 (sP 51 (.bin .mul .ifc) [.t 45, .t 50]),
 (sP 52 (.bin .quo .ifc) [.t 51, .c (.int .i64 255)]),
 (sM 5 52)])
 (.ops [
 (sM 54 0),
 (sM 55 0),
 (sP 56 .nchk [.t 55]),
 (sP 57 (.faddr 0) [.t 56]),
 (sH 58 (.load true 10) [.t 57]),
 (sM 59 0),
 (sP 60 .nchk [.t 59]),
 (sP 61 (.faddr 10) [.t 60]),
 (sH 62 (.load false 1) [.t 61]),
 (sM 63 0),
 (sP 64 .nchk [.t 63]),
 (sP 65 (.faddr 10) [.t 64]),
 (sH 66 (.load false 1) [.t 65]),
 (sM 67 4),
 (sP 68 (.iaddr 4) [.t 66, .t 67]),
 (sP 69 (.faddr 0) [.t 68]),
 (sH 70 (.load false 1) [.t 69]),
 (sM 71 5),
 (sM 72 0),
 (sP 73 .nchk [.t 72]),
 (sP 74 (.faddr 24) [.t 73]),
 (sH 75 (.load false 1) [.t 74]),
 (sC 76 51 [.t 58, .t 62, .t 70, .t 71, .t 75]),
 (sM 53 76),
 (sP 77 (.ext 0) [.t 53]),
 (sP 78 (.ext 1) [.t 53]),
 (sP 79 (.ext 2) [.t 53]),
 (sP 80 .nchk [.t 54]),
 (sP 81 (.faddr 10) [.t 80]),
 (sHn (.store 1) [.t 81, .t 77])]))))
 (.ops [
 (sM 24 4),
 (sP 25 (.bin .add .ifc) [.t 24, .c (.int .i64 1)]),
 (sM 4 25)])))
def r18_Drive_L0 : CCode := .bloop 0 [0, 3, 4] [0, 3] r18_Drive_B0
def r18_Drive_C : CCode :=
 (.seq
 (.ops [
 (sH 3 (.box 3) [.t 1])])
 (.seq
 (.seq
 (.ops [
 (sP 4 .mov [.c (.int .i64 0)])])
 r18_Drive_L0)
 (.seq
 (.seq
 (.ops [
 (sP 82 (.faddr 7) [.t 3]),
 (sH 83 (.load false 1) [.t 82]),
 (sP 84 (.bin .lss .ifc) [.t 83, .c (.int .u8 240)]),
 (sM 85 84),
 (sG (sM 86 0) 85 false),
 (sG (sP 87 .nchk [.t 86]) 85 false),
 (sG (sP 88 (.faddr 10) [.t 87]) 85 false),
 (sG (sH 89 (.load false 1) [.t 88]) 85 false),
 (sG (sP 90 .len [.t 89]) 85 false),
 (sG (sP 91 (.bin .eql .int) [.t 90, .c (.int .i64 0)]) 85 false),
 (sP 92 .pick [.t 85, .c (.bool true), .t 91])])
 (.cond (.t 92)
 (.ret [])
 .skip))
 (.seq
 (.ops [
 (sM 93 0),
 (sP 94 .nchk [.t 93]),
 (sP 95 (.faddr 10) [.t 94]),
 (sB 96 (.load false 1) [.t 95]),
 (sP 97 (.faddr 2) [.t 3]),
 (sL 98 3 (.load false 1) [.t 97]),
 (sP 99 (.toInt .i64) [.t 98]),
 (sM 100 0),
 (sP 101 .nchk [.t 100]),
 (sP 102 (.faddr 10) [.t 101]),
 (sB 103 (.load false 1) [.t 102]),
 (sP 104 .len [.t 103]),
 (sP 105 (.bin .rem .ifc) [.t 99, .t 104]),
 (sP 106 (.iaddr 4) [.t 96, .t 105]),
 (sB 107 (.load true 4) [.t 106]),
 (sH 6 (.newl 6 [(.int .i64 0), (.int .i64 0), (.int .i64 0), .nils]) []),
 (sLn 6 (.store 4) [.t 6, .t 107])])
 (.seq
 (.ops [
 (sM 108 0),
 (sC 109 52 [.t 108]),
 (sM 7 109)])
 (.seq
 (.seq
 (.ops [
 (sM 110 7),
 (sP 111 (.bin .lss .ifc) [.t 110, .c (.int .i64 0)]),
 (sM 112 111),
 (sG (sP 113 (.faddr 1) [.t 6]) 112 false),
 (sG (sH 114 (.load false 1) [.t 113]) 112 false),
 (sG (sP 115 (.bin .lss .ifc) [.t 114, .c (.int .i64 2)]) 112 false),
 (sP 116 .pick [.t 112, .c (.bool true), .t 115])])
 (.cond (.t 116)
 (.ret [])
 .skip))
 (.seq
 (.ops [
 (sM 118 0),
 (sP 119 .nchk [.t 118]),
 (sP 120 (.faddr 0) [.t 119]),
 (sH 121 (.load true 10) [.t 120]),
 (sM 122 0),
 (sP 123 .nchk [.t 122]),
 (sP 124 (.faddr 10) [.t 123]),
 (sH 125 (.load false 1) [.t 124]),
 (sP 126 (.faddr 0) [.t 6]),
 (sH 127 (.load false 1) [.t 126]),
 (sM 128 7),
 (sP 129 (.faddr 8) [.t 3]),
 (sH 130 (.load false 1) [.t 129]),
 (sP 131 (.toInt .i64) [.t 130]),
 (sP 132 (.faddr 1) [.t 6]),
 (sH 133 (.load false 1) [.t 132]),
 (sP 134 (.bin .sub .ifc) [.t 133, .c (.int .i64 1)]),
 (sP 135 (.bin .rem .ifc) [.t 131, .t 134]),
 (sP 136 (.bin .add .ifc) [.c (.int .i64 1), .t 135]),
 (sC 137 53 [.t 121, .t 125, .t 127, .t 128, .t 136]),
 (sM 117 137),
 (sP 138 (.ext 0) [.t 117]),
 (sP 139 (.ext 1) [.t 117]),
 (sM 8 138),
 (sM 9 139)])
 (.seq
 (.ops [
 (sM 140 9),
 (sP 141 (.bin .eql .int) [.t 140, .c (.int .i64 0)])])
 (.cond (.t 141)
 (.seq
 (.ops [
 (sM 142 0),
 (sM 143 8),
 (sP 144 .nchk [.t 142]),
 (sP 145 (.faddr 10) [.t 144]),
 (sHn (.store 1) [.t 145, .t 143])])
 (.seq
 (.ops [
 (sM 146 0),
 (sP 147 (.faddr 0) [.t 6]),
 (sH 148 (.load false 1) [.t 147]),
 (sP 149 .nchk [.t 146]),
 (sP 150 (.faddr 11) [.t 149]),
 (sP 151 (.iaddrA 6 1) [.t 150, .t 148]),
 (sHn (.store 1) [.t 151, .c (.bool true)])])
 (.ops [
 (sM 152 0),
 (sM 153 7),
 (sP 154 (.faddr 0) [.t 6]),
 (sH 155 (.load false 1) [.t 154]),
 (sP 156 .nchk [.t 152]),
 (sP 157 (.faddr 17) [.t 156]),
 (sP 158 (.iaddrA 6 1) [.t 157, .t 153]),
 (sHn (.store 1) [.t 158, .t 155])])))
 .skip)))))))))
def r18_Drive_I : FInfo := ⟨.ref, 2, r18_Drive_C, []⟩
def r18_Drive_A : Ann := ⟨[], [], [(0, [0, 3, 4], [0, 3])], [(1, [0, 3, 4])], [3, 6]⟩
abbrev n_r18_Drive : Nat := 17

/-! ### balise/baliseref18.Add -/
def r18_Add_B0 : CCode :=
 (.seq
 (.seq
 (.ops [
 (sM 43 17),
 (sM 44 6),
 (sP 45 .len [.t 44]),
 (sP 46 (.bin .lss .ifc) [.t 43, .t 45])])
 (.cond (.t 46)
 .skip
 (.exit 0)))
 (.seq
 (.block 1 (some [1, 2, 3, 4, 5, 6, 7, 16, 17])
 (.ops [
 (sM 49 16),
 (sH 50 (.load true 10) [.t 7]),
 (sM 51 6),
 (sM 52 17),
 (sP 53 (.iaddr 1) [.t 51, .t 52]),
 (sH 54 (.load false 1) [.t 53]),
 (sC 55 49 [.t 50, .t 54]),
 (sP 56 (.bin .add .ifc) [.t 49, .t 55]),
 (sM 16 56)]))
 (.ops [
 (sM 47 17),
 (sP 48 (.bin .add .ifc) [.t 47, .c (.int .i64 1)]),
 (sM 17 48)])))
def r18_Add_L0 : CCode := .bloop 0 [1, 2, 3, 4, 5, 6, 7, 16, 17] [1, 2, 3, 4, 5, 6, 7, 16] r18_Add_B0

def r18_Add_B4 : CCode :=
 (.seq
 (.seq
 (.ops [
 (sM 101 21),
 (sM 102 20),
 (sP 103 .len [.t 102]),
 (sP 104 (.bin .lss .ifc) [.t 101, .t 103])])
 (.cond (.t 104)
 .skip
 (.exit 4)))
 (.seq
 (.block 5 (some [1, 2, 3, 4, 6, 7, 18, 19, 20, 21])
 (.seq
 (.ops [
 (sM 107 20),
 (sM 108 21),
 (sP 109 (.iaddr 2) [.t 107, .t 108]),
 (sP 110 (.faddr 0) [.t 109]),
 (sH 111 (.load false 1) [.t 110]),
 (sM 112 6),
 (sM 113 19),
 (sP 114 (.iaddr 1) [.t 112, .t 113]),
 (sH 115 (.load false 1) [.t 114]),
 (sP 116 (.bin .eql .int) [.t 111, .t 115]),
 (sM 117 116),
 (sG (sM 118 18) 117 true),
 (sG (sP 119 .len [.t 118]) 117 true),
 (sG (sM 120 19) 117 true),
 (sG (sP 121 (.bin .eql .int) [.t 119, .t 120]) 117 true),
 (sP 122 .pick [.t 117, .t 121, .c (.bool false)])])
 (.cond (.t 122)
 (.ops [
 (sM 123 18),
 (sM 124 20),
 (sM 125 21),
 (sP 126 (.iaddr 2) [.t 124, .t 125]),
 (sH 127 (.load true 2) [.t 126]),
 (sH 128 (.bslF 2 1 [(.int .i64 0), (.int .i64 0)] [(0, 2)]) [.t 127]),
 (sH 129 (.app 2 16 [(.int .i64 0), (.int .i64 0)]) [.t 123, .t 128]),
 (sM 18 129)])
 .skip)))
 (.ops [
 (sM 105 21),
 (sP 106 (.bin .add .ifc) [.t 105, .c (.int .i64 1)]),
 (sM 21 106)])))
def r18_Add_L4 : CCode := .bloop 4 [1, 2, 3, 4, 6, 7, 18, 19, 20, 21] [1, 2, 3, 4, 6, 7, 18, 19] r18_Add_B4

def r18_Add_B2 : CCode :=
 (.seq
 (.seq
 (.ops [
 (sM 80 19),
 (sM 81 6),
 (sP 82 .len [.t 81]),
 (sP 83 (.bin .lss .ifc) [.t 80, .t 82])])
 (.cond (.t 83)
 .skip
 (.exit 2)))
 (.seq
 (.block 3 (some [1, 2, 3, 4, 6, 7, 18, 19])
 (.seq
 (.ops [
 (sH 86 (.load true 10) [.t 7]),
 (sM 87 6),
 (sM 88 19),
 (sP 89 (.bin .sub .ifc) [.t 88, .c (.int .i64 1)]),
 (sP 90 (.iaddr 1) [.t 87, .t 89]),
 (sH 91 (.load false 1) [.t 90]),
 (sM 92 18),
 (sM 93 19),
 (sP 94 (.bin .sub .ifc) [.t 93, .c (.int .i64 1)]),
 (sP 95 (.iaddr 2) [.t 92, .t 94]),
 (sP 96 (.faddr 1) [.t 95]),
 (sH 97 (.load false 1) [.t 96]),
 (sP 98 (.bin .sub .ifc) [.c (.int .i64 1), .t 97]),
 (sP 99 (.bld [(.int .i64 0), (.int .i64 0)] [(0, 1), (1, 1)]) [.t 91, .t 98]),
 (sC 100 79 [.t 86, .t 99]),
 (sM 20 100)])
 (.seq
 (.ops [
 (sP 21 .mov [.c (.int .i64 0)])])
 r18_Add_L4)))
 (.ops [
 (sM 84 19),
 (sP 85 (.bin .add .ifc) [.t 84, .c (.int .i64 1)]),
 (sM 19 85)])))
def r18_Add_L2 : CCode := .bloop 2 [1, 2, 3, 4, 6, 7, 18, 19] [1, 2, 3, 4, 18] r18_Add_B2
def r18_Add_C : CCode :=
 (.seq
 (.ops [
 (sH 7 (.box 7) [.t 0]),
 (sP 14 .mov [.c .nils]),
 (sP 15 .mov [.c (.int .i64 0)])])
 (.seq
 (.seq
 (.ops [
 (sM 23 1),
 (sM 24 2),
 (sC 25 55 [.t 23, .t 24]),
 (sP 26 (.bin .geq .ifc) [.t 25, .c (.int .i64 0)]),
 (sM 27 26),
 (sG (sM 28 1) 27 false),
 (sG (sP 29 .len [.t 28]) 27 false),
 (sG (sP 30 (.bin .geq .ifc) [.t 29, .c (.int .i64 6)]) 27 false),
 (sP 31 .pick [.t 27, .c (.bool true), .t 30])])
 (.cond (.t 31)
 (.seq
 (.ops [
 (sM 32 1),
 (sM 14 32),
 (sP 15 .mov [.c (.int .i64 8)])])
 (.ret [14, 15]))
 .skip))
 (.seq
 (.seq
 (.ops [
 (sH 33 (.load true 10) [.t 7]),
 (sM 34 5),
 (sM 35 4),
 (sM 36 6),
 (sP 37 (.bld [(.int .u8 0), (.int .i64 0), (.int .i64 0), (.int .i64 0), (.int .i64 0), (.bool false), .nils] [(0, 1), (3, 1), (4, 1), (6, 1)]) [.c (.int .u8 3), .t 34, .t 35, .t 36]),
 (sC 38 44 [.t 33, .t 37]),
 (sP 39 (.un .not) [.t 38])])
 (.cond (.t 39)
 (.seq
 (.ops [
 (sM 40 1),
 (sM 14 40),
 (sP 15 .mov [.c (.int .i64 1)])])
 (.ret [14, 15]))
 .skip))
 (.seq
 (.ops [
 (sM 41 4),
 (sP 42 (.un .neg) [.t 41]),
 (sM 16 42)])
 (.seq
 (.seq
 (.ops [
 (sP 17 .mov [.c (.int .i64 0)])])
 r18_Add_L0)
 (.seq
 (.seq
 (.ops [
 (sM 57 4),
 (sH 58 (.load true 10) [.t 7]),
 (sM 59 6),
 (sP 60 (.iaddr 1) [.t 59, .c (.int .i64 0)]),
 (sH 61 (.load false 1) [.t 60]),
 (sC 62 49 [.t 58, .t 61]),
 (sP 63 (.bin .geq .ifc) [.t 57, .t 62]),
 (sM 64 63),
 (sG (sM 65 3) 64 false),
 (sG (sP 66 (.bin .lss .ifc) [.t 65, .c (.int .i64 1)]) 64 false),
 (sP 67 .pick [.t 64, .c (.bool true), .t 66]),
 (sM 68 67),
 (sG (sM 69 3) 68 false),
 (sG (sM 70 16) 68 false),
 (sG (sP 71 (.bin .gtr .ifc) [.t 69, .t 70]) 68 false),
 (sP 72 .pick [.t 68, .c (.bool true), .t 71])])
 (.cond (.t 72)
 (.seq
 (.ops [
 (sM 73 1),
 (sM 14 73),
 (sP 15 .mov [.c (.int .i64 1)])])
 (.ret [14, 15]))
 .skip))
 (.seq
 (.ops [
 (sM 74 6),
 (sP 75 (.iaddr 1) [.t 74, .c (.int .i64 0)]),
 (sH 76 (.load false 1) [.t 75]),
 (sM 77 5),
 (sP 78 (.bld [(.int .i64 0), (.int .i64 0)] [(0, 1), (1, 1)]) [.t 76, .t 77]),
 (sH 79 (.bslO 2 1 [(.int .i64 0), (.int .i64 0)] [(0, 2)]) [.t 78]),
 (sM 18 79)])
 (.seq
 (.seq
 (.ops [
 (sP 19 .mov [.c (.int .i64 1)])])
 r18_Add_L2)
 (.seq
 (.ops [
 (sP 22 .mov [.c .nils])])
 (.seq
 (.ops [
 (sM 130 22),
 (sM 131 1),
 (sH 132 (.app 4 48 [(.int .i64 0), (.int .i64 0), (.int .i64 0), .nils]) [.t 130, .t 131]),
 (sM 22 132)])
 (.seq
 (.ops [
 (sM 133 22),
 (sM 134 2),
 (sM 135 3),
 (sM 136 4),
 (sM 137 18),
 (sP 138 (.bld [(.int .i64 0), (.int .i64 0), (.int .i64 0), .nils] [(0, 1), (1, 1), (2, 1), (3, 1)]) [.t 134, .t 135, .t 136, .t 137]),
 (sH 139 (.bslO 4 1 [(.int .i64 0), (.int .i64 0), (.int .i64 0), .nils] [(0, 4)]) [.t 138]),
 (sH 140 (.app 4 48 [(.int .i64 0), (.int .i64 0), (.int .i64 0), .nils]) [.t 133, .t 139]),
 (sM 14 140),
 (sP 15 .mov [.c (.int .i64 0)])])
 (.ret [14, 15]))))))))))))
def r18_Add_I : FInfo := ⟨(.fz false), 7, r18_Add_C, [.tmp 14, .tmp 15]⟩
def r18_Add_A : Ann := ⟨[], [79, 139], [(0, [1, 2, 3, 4, 5, 6, 7, 16, 17], [1, 2, 3, 4, 5, 6, 7, 16]), (2, [1, 2, 3, 4, 6, 7, 18, 19], [1, 2, 3, 4, 18]), (4, [1, 2, 3, 4, 6, 7, 18, 19, 20, 21], [1, 2, 3, 4, 6, 7, 18, 19])], [(1, [1, 2, 3, 4, 5, 6, 7, 16, 17]), (3, [1, 2, 3, 4, 6, 7, 18, 19]), (5, [1, 2, 3, 4, 6, 7, 18, 19, 20, 21])], [7]⟩
abbrev n_r18_Add : Nat := 50

/-! ### balise/baliseref18.Go -/
def r18_Go_B2 : CCode :=
 (.seq
 (.seq
 (.ops [
 (sM 69 20),
 (sM 70 19),
 (sP 71 (.bin .lss .ifc) [.t 69, .t 70])])
 (.cond (.t 71)
 .skip
 (.exit 2)))
 (.seq
 (.block 3 (some [1, 3, 4, 5, 13, 14, 15, 17, 18, 19, 20])
 (.ops [
 (sM 74 18),
 (sM 75 74),
 (sG (sP 76 (.faddr 3) [.t 14]) 75 true),
 (sG (sH 77 (.load false 1) [.t 76]) 75 true),
 (sG (sM 78 20) 75 true),
 (sG (sP 79 (.iaddr 2) [.t 77, .t 78]) 75 true),
 (sG (sP 80 (.faddr 0) [.t 79]) 75 true),
 (sG (sH 81 (.load false 1) [.t 80]) 75 true),
 (sG (sP 82 (.faddr 0) [.t 17]) 75 true),
 (sG (sH 83 (.load false 1) [.t 82]) 75 true),
 (sG (sP 84 (.bin .neq .int) [.t 81, .t 83]) 75 true),
 (sP 85 .pick [.t 75, .t 84, .c (.bool false)]),
 (sM 18 85)]))
 (.ops [
 (sM 72 20),
 (sP 73 (.bin .add .ifc) [.t 72, .c (.int .i64 1)]),
 (sM 20 73)])))
def r18_Go_L2 : CCode := .bloop 2 [1, 3, 4, 5, 13, 14, 15, 17, 18, 19, 20] [1, 3, 4, 5, 13, 14, 15, 17, 18, 19] r18_Go_B2

def r18_Go_B0 : CCode :=
 (.seq
 (.seq
 (.ops [
 (sM 33 3),
 (sM 34 15),
 (sP 35 (.bin .gtr .ifc) [.t 33, .t 34])])
 (.cond (.t 35)
 .skip
 (.exit 0)))
 (.block 1 (some [1, 3, 4, 5, 13, 14, 15])
 (.seq
 (.seq
 (.ops [
 (sP 36 (.faddr 2) [.t 14]),
 (sH 37 (.load false 1) [.t 36]),
 (sP 38 (.bin .gtr .ifc) [.t 37, .c (.int .i64 0)])])
 (.cond (.t 38)
 (.seq
 (.ops [
 (sM 39 3),
 (sM 40 15),
 (sP 41 (.bin .sub .ifc) [.t 39, .t 40]),
 (sM 16 41)])
 (.seq
 (.seq
 (.ops [
 (sM 42 16),
 (sP 43 (.faddr 2) [.t 14]),
 (sH 44 (.load false 1) [.t 43]),
 (sP 45 (.bin .gtr .ifc) [.t 42, .t 44])])
 (.cond (.t 45)
 (.ops [
 (sP 46 (.faddr 2) [.t 14]),
 (sH 47 (.load false 1) [.t 46]),
 (sM 16 47)])
 .skip))
 (.seq
 (.ops [
 (sP 48 (.faddr 2) [.t 14]),
 (sH 49 (.load false 1) [.t 48]),
 (sM 50 16),
 (sP 51 (.bin .sub .ifc) [.t 49, .t 50]),
 (sP 52 (.faddr 2) [.t 14]),
 (sHn (.store 1) [.t 52, .t 51])])
 (.seq
 (.ops [
 (sM 53 15),
 (sM 54 16),
 (sP 55 (.bin .add .ifc) [.t 53, .t 54]),
 (sM 15 55)])
 (.exit 1)))))
 .skip))
 (.seq
 (.ops [
 (sL 57 5 (.load true 10) [.t 5]),
 (sP 58 (.faddr 3) [.t 14]),
 (sL 59 14 (.load false 1) [.t 58]),
 (sP 60 (.iaddr 2) [.t 59, .c (.int .i64 0)]),
 (sB 61 (.load true 2) [.t 60]),
 (sM 62 4),
 (sCb 63 82 [.t 57, .t 61, .t 62]),
 (sM 56 63),
 (sP 64 (.ext 0) [.t 56]),
 (sP 65 (.ext 1) [.t 56]),
 (sH 17 (.newl 17 [(.int .i64 0), (.int .i64 0)]) []),
 (sLn 17 (.store 2) [.t 17, .t 64]),
 (sM 18 65)])
 (.seq
 (.ops [
 (sH 66 (.load true 10) [.t 5]),
 (sH 67 (.load true 4) [.t 14]),
 (sC 68 56 [.t 66, .t 67]),
 (sM 19 68)])
 (.seq
 (.seq
 (.ops [
 (sP 20 .mov [.c (.int .i64 0)])])
 r18_Go_L2)
 (.seq
 (.seq
 (.ops [
 (sM 86 18),
 (sP 87 (.un .not) [.t 86])])
 (.cond (.t 87)
 (.exit 0)
 .skip))
 (.seq
 (.ops [
 (sP 88 (.faddr 0) [.t 17]),
 (sH 89 (.load false 1) [.t 88]),
 (sP 90 (.faddr 1) [.t 17]),
 (sH 91 (.load false 1) [.t 90]),
 (sP 92 (.bin .sub .ifc) [.c (.int .i64 1), .t 91]),
 (sP 93 (.bld [(.int .i64 0), (.int .i64 0)] [(0, 1), (1, 1)]) [.t 89, .t 92]),
 (sH 94 (.bslO 2 1 [(.int .i64 0), (.int .i64 0)] [(0, 2)]) [.t 93]),
 (sM 21 94)])
 (.seq
 (.ops [
 (sM 95 21),
 (sP 96 (.faddr 3) [.t 14]),
 (sH 97 (.load false 1) [.t 96]),
 (sM 98 19),
 (sP 99 (.slc 2 false true) [.t 97, .t 98]),
 (sH 100 (.app 2 16 [(.int .i64 0), (.int .i64 0)]) [.t 95, .t 99]),
 (sP 101 (.faddr 3) [.t 14]),
 (sHn (.store 1) [.t 101, .t 100])])
 (.ops [
 (sH 102 (.load true 10) [.t 5]),
 (sP 103 (.faddr 0) [.t 17]),
 (sH 104 (.load false 1) [.t 103]),
 (sC 105 49 [.t 102, .t 104]),
 (sP 106 (.faddr 2) [.t 14]),
 (sHn (.store 1) [.t 106, .t 105])]))))))))))
def r18_Go_L0 : CCode := .bloop 0 [1, 3, 4, 5, 13, 14, 15] [1, 5, 13, 14, 15] r18_Go_B0
def r18_Go_C : CCode :=
 (.seq
 (.ops [
 (sH 5 (.box 5) [.t 0]),
 (sP 10 .mov [.c .nils]),
 (sP 11 .mov [.c (.int .i64 0)]),
 (sP 12 .mov [.c (.int .i64 0)])])
 (.seq
 (.ops [
 (sM 23 1),
 (sM 24 2),
 (sC 25 55 [.t 23, .t 24]),
 (sM 13 25)])
 (.seq
 (.seq
 (.ops [
 (sM 26 13),
 (sP 27 (.bin .lss .ifc) [.t 26, .c (.int .i64 0)])])
 (.cond (.t 27)
 (.seq
 (.ops [
 (sM 28 1),
 (sM 10 28),
 (sP 11 .mov [.c (.int .i64 0)]),
 (sP 12 .mov [.c (.int .i64 7)])])
 (.ret [10, 11, 12]))
 .skip))
 (.seq
 (.ops [
 (sM 29 1),
 (sM 30 13),
 (sP 31 (.iaddr 4) [.t 29, .t 30]),
 (sH 32 (.load true 4) [.t 31]),
 (sH 14 (.newl 14 [(.int .i64 0), (.int .i64 0), (.int .i64 0), .nils]) []),
 (sHn (.store 4) [.t 14, .t 32])])
 (.seq
 (.ops [
 (sP 15 .mov [.c (.int .i64 0)])])
 (.seq
 r18_Go_L0
 (.seq
 (.ops [
 (sP 107 (.faddr 3) [.t 14]),
 (sH 108 (.load false 1) [.t 107]),
 (sH 109 (.load true 10) [.t 5]),
 (sH 110 (.load true 4) [.t 14]),
 (sC 111 56 [.t 109, .t 110]),
 (sP 112 (.slc 2 false true) [.t 108, .t 111]),
 (sP 113 (.faddr 3) [.t 14]),
 (sHn (.store 1) [.t 113, .t 112])])
 (.seq
 (.ops [
 (sP 22 .mov [.c .nils])])
 (.seq
 (.ops [
 (sM 114 22),
 (sM 115 1),
 (sH 116 (.app 4 48 [(.int .i64 0), (.int .i64 0), (.int .i64 0), .nils]) [.t 114, .t 115]),
 (sM 22 116)])
 (.seq
 (.ops [
 (sM 117 22),
 (sM 118 13),
 (sH 119 (.load true 4) [.t 14]),
 (sP 120 (.iaddr 4) [.t 117, .t 118]),
 (sHn (.store 4) [.t 120, .t 119])])
 (.seq
 (.ops [
 (sM 121 22),
 (sM 122 15),
 (sM 10 121),
 (sM 11 122),
 (sP 12 .mov [.c (.int .i64 0)])])
 (.ret [10, 11, 12]))))))))))))
def r18_Go_I : FInfo := ⟨(.fz false), 5, r18_Go_C, [.tmp 10, .tmp 11, .tmp 12]⟩
def r18_Go_A : Ann := ⟨[], [94], [(0, [1, 3, 4, 5, 13, 14, 15], [1, 5, 13, 14, 15]), (2, [1, 3, 4, 5, 13, 14, 15, 17, 18, 19, 20], [1, 3, 4, 5, 13, 14, 15, 17, 18, 19])], [(1, [1, 3, 4, 5, 13, 14, 15]), (3, [1, 3, 4, 5, 13, 14, 15, 17, 18, 19, 20])], [5, 14, 17]⟩
abbrev n_r18_Go : Nat := 51

/-! ### balise/baliseref18.Split -/
def r18_Split_B0 : CCode :=
 (.seq
 (.seq
 (.ops [
 (sP 63 (.faddr 2) [.t 14]),
 (sH 64 (.load false 1) [.t 63]),
 (sH 65 (.load true 10) [.t 5]),
 (sP 66 (.faddr 3) [.t 14]),
 (sH 67 (.load false 1) [.t 66]),
 (sP 68 (.iaddr 2) [.t 67, .c (.int .i64 0)]),
 (sP 69 (.faddr 0) [.t 68]),
 (sH 70 (.load false 1) [.t 69]),
 (sC 71 49 [.t 65, .t 70]),
 (sP 72 (.bin .geq .ifc) [.t 64, .t 71])])
 (.cond (.t 72)
 .skip
 (.exit 0)))
 (.block 1 (some [1, 5, 12, 13, 14])
 (.seq
 (.ops [
 (sP 73 (.faddr 2) [.t 14]),
 (sH 74 (.load false 1) [.t 73]),
 (sH 75 (.load true 10) [.t 5]),
 (sP 76 (.faddr 3) [.t 14]),
 (sH 77 (.load false 1) [.t 76]),
 (sP 78 (.iaddr 2) [.t 77, .c (.int .i64 0)]),
 (sP 79 (.faddr 0) [.t 78]),
 (sH 80 (.load false 1) [.t 79]),
 (sC 81 49 [.t 75, .t 80]),
 (sP 82 (.bin .sub .ifc) [.t 74, .t 81]),
 (sP 83 (.faddr 2) [.t 14]),
 (sHn (.store 1) [.t 83, .t 82])])
 (.ops [
 (sP 84 (.faddr 3) [.t 14]),
 (sH 85 (.load false 1) [.t 84]),
 (sP 86 (.slc 2 true false) [.t 85, .c (.int .i64 1)]),
 (sP 87 (.faddr 3) [.t 14]),
 (sHn (.store 1) [.t 87, .t 86])]))))
def r18_Split_L0 : CCode := .bloop 0 [1, 5, 12, 13, 14] [1, 5, 12, 13, 14] r18_Split_B0
def r18_Split_C : CCode :=
 (.seq
 (.ops [
 (sH 5 (.box 5) [.t 0]),
 (sP 10 .mov [.c .nils]),
 (sP 11 .mov [.c (.int .i64 0)])])
 (.seq
 (.ops [
 (sM 16 1),
 (sM 17 2),
 (sC 18 55 [.t 16, .t 17]),
 (sM 12 18)])
 (.seq
 (.seq
 (.ops [
 (sM 19 12),
 (sP 20 (.bin .lss .ifc) [.t 19, .c (.int .i64 0)])])
 (.cond (.t 20)
 (.seq
 (.ops [
 (sM 21 1),
 (sM 10 21),
 (sP 11 .mov [.c (.int .i64 7)])])
 (.ret [10, 11]))
 .skip))
 (.seq
 (.seq
 (.ops [
 (sM 22 1),
 (sM 23 3),
 (sC 24 55 [.t 22, .t 23]),
 (sP 25 (.bin .geq .ifc) [.t 24, .c (.int .i64 0)]),
 (sM 26 25),
 (sG (sM 27 1) 26 false),
 (sG (sP 28 .len [.t 27]) 26 false),
 (sG (sP 29 (.bin .geq .ifc) [.t 28, .c (.int .i64 6)]) 26 false),
 (sP 30 .pick [.t 26, .c (.bool true), .t 29])])
 (.cond (.t 30)
 (.seq
 (.ops [
 (sM 31 1),
 (sM 10 31),
 (sP 11 .mov [.c (.int .i64 8)])])
 (.ret [10, 11]))
 .skip))
 (.seq
 (.seq
 (.ops [
 (sM 32 4),
 (sP 33 (.bin .lss .ifc) [.t 32, .c (.int .i64 1)]),
 (sM 34 33),
 (sG (sM 35 4) 34 false),
 (sG (sM 36 1) 34 false),
 (sG (sM 37 12) 34 false),
 (sG (sP 38 (.iaddr 4) [.t 36, .t 37]) 34 false),
 (sG (sP 39 (.faddr 1) [.t 38]) 34 false),
 (sG (sH 40 (.load false 1) [.t 39]) 34 false),
 (sG (sP 41 (.bin .geq .ifc) [.t 35, .t 40]) 34 false),
 (sP 42 .pick [.t 34, .c (.bool true), .t 41])])
 (.cond (.t 42)
 (.seq
 (.ops [
 (sM 43 1),
 (sM 10 43),
 (sP 11 .mov [.c (.int .i64 1)])])
 (.ret [10, 11]))
 .skip))
 (.seq
 (.ops [
 (sM 44 1),
 (sM 45 12),
 (sP 46 (.iaddr 4) [.t 44, .t 45]),
 (sH 47 (.load true 4) [.t 46]),
 (sH 13 (.newl 13 [(.int .i64 0), (.int .i64 0), (.int .i64 0), .nils]) []),
 (sHn (.store 4) [.t 13, .t 47])])
 (.seq
 (.ops [
 (sP 48 (.faddr 1) [.t 13]),
 (sH 49 (.load false 1) [.t 48]),
 (sM 50 4),
 (sP 51 (.bin .sub .ifc) [.t 49, .t 50]),
 (sP 52 (.faddr 1) [.t 13]),
 (sHn (.store 1) [.t 52, .t 51])])
 (.seq
 (.ops [
 (sM 53 3),
 (sM 54 4),
 (sP 55 (.faddr 2) [.t 13]),
 (sH 56 (.load false 1) [.t 55]),
 (sP 57 (.faddr 1) [.t 13]),
 (sH 58 (.load false 1) [.t 57]),
 (sP 59 (.bin .add .ifc) [.t 56, .t 58]),
 (sP 60 (.faddr 3) [.t 13]),
 (sH 61 (.load false 1) [.t 60]),
 (sP 62 (.bld [(.int .i64 0), (.int .i64 0), (.int .i64 0), .nils] [(0, 1), (1, 1), (2, 1), (3, 1)]) [.t 53, .t 54, .t 59, .t 61]),
 (sH 14 (.newl 14 [(.int .i64 0), (.int .i64 0), (.int .i64 0), .nils]) []),
 (sHn (.store 4) [.t 14, .t 62])])
 (.seq
 r18_Split_L0
 (.seq
 (.ops [
 (sP 88 (.faddr 3) [.t 13]),
 (sH 89 (.load false 1) [.t 88]),
 (sH 90 (.load true 10) [.t 5]),
 (sH 91 (.load true 4) [.t 13]),
 (sC 92 56 [.t 90, .t 91]),
 (sP 93 (.slc 2 false true) [.t 89, .t 92]),
 (sP 94 (.faddr 3) [.t 13]),
 (sHn (.store 1) [.t 94, .t 93])])
 (.seq
 (.ops [
 (sP 15 .mov [.c .nils])])
 (.seq
 (.ops [
 (sM 95 15),
 (sM 96 1),
 (sH 97 (.app 4 48 [(.int .i64 0), (.int .i64 0), (.int .i64 0), .nils]) [.t 95, .t 96]),
 (sM 15 97)])
 (.seq
 (.ops [
 (sM 98 15),
 (sM 99 12),
 (sH 100 (.load true 4) [.t 13]),
 (sP 101 (.iaddr 4) [.t 98, .t 99]),
 (sHn (.store 4) [.t 101, .t 100])])
 (.seq
 (.ops [
 (sM 102 15),
 (sH 103 (.load true 4) [.t 14]),
 (sH 104 (.bslF 4 1 [(.int .i64 0), (.int .i64 0), (.int .i64 0), .nils] [(0, 4)]) [.t 103]),
 (sH 105 (.app 4 48 [(.int .i64 0), (.int .i64 0), (.int .i64 0), .nils]) [.t 102, .t 104]),
 (sM 10 105),
 (sP 11 .mov [.c (.int .i64 0)])])
 (.ret [10, 11])))))))))))))))
def r18_Split_I : FInfo := ⟨(.fz false), 5, r18_Split_C, [.tmp 10, .tmp 11]⟩
def r18_Split_A : Ann := ⟨[], [], [(0, [1, 5, 12, 13, 14], [1, 5, 12, 13, 14])], [(1, [1, 5, 12, 13, 14])], [5, 13, 14]⟩
abbrev n_r18_Split : Nat := 53

/-! ### balise/baliseref18.free -/
def r18_free_B0 : CCode :=
 (.seq
 (.seq
 (.ops [
 (sM 4 3),
 (sP 5 (.bin .lss .ifc) [.t 4, .c (.int .i64 6)])])
 (.cond (.t 5)
 .skip
 (.exit 0)))
 (.seq
 (.block 1 (some [0, 3])
 (.seq
 (.ops [
 (sM 8 0),
 (sP 9 .nchk [.t 8]),
 (sP 10 (.faddr 10) [.t 9]),
 (sH 11 (.load false 1) [.t 10]),
 (sC 12 83 [.t 11]),
 (sM 13 3),
 (sC 14 22 [.t 12, .t 13]),
 (sP 15 (.un .not) [.t 14])])
 (.cond (.t 15)
 (.seq
 (.ops [
 (sM 16 3),
 (sM 2 16)])
 (.ret [2]))
 .skip)))
 (.ops [
 (sM 6 3),
 (sP 7 (.bin .add .ifc) [.t 6, .c (.int .i64 1)]),
 (sM 3 7)])))
def r18_free_L0 : CCode := .bloop 0 [0, 3] [] r18_free_B0
def r18_free_C : CCode :=
 (.seq
 (.ops [
 (sP 2 .mov [.c (.int .i64 0)])])
 (.seq
 (.seq
 (.ops [
 (sP 3 .mov [.c (.int .i64 0)])])
 r18_free_L0)
 (.seq
 (.ops [
 (sP 2 .mov [.c (.int .i64 (-1))])])
 (.ret [2]))))
def r18_free_I : FInfo := ⟨(.fz false), 1, r18_free_C, [.tmp 2]⟩
def r18_free_A : Ann := ⟨[], [], [(0, [0, 3], [])], [(1, [0, 3])], []⟩
abbrev n_r18_free : Nat := 52

/-! ### balise/baliseref18.All -/
def r18_All_B0 : CCode :=
 (.seq
 (.seq
 (.ops [
 (sM 5 4),
 (sM 6 0),
 (sP 7 .len [.t 6]),
 (sP 8 (.bin .lss .ifc) [.t 5, .t 7])])
 (.cond (.t 8)
 .skip
 (.exit 0)))
 (.seq
 (.block 1 (some [0, 3, 4])
 (.ops [
 (sM 11 3),
 (sM 12 0),
 (sM 13 4),
 (sP 14 (.iaddr 4) [.t 12, .t 13]),
 (sP 15 (.faddr 0) [.t 14]),
 (sH 16 (.load false 1) [.t 15]),
 (sH 17 (.bslF 1 1 [(.int .i64 0)] [(0, 1)]) [.t 16]),
 (sH 18 (.app 1 8 [(.int .i64 0)]) [.t 11, .t 17]),
 (sM 3 18)]))
 (.ops [
 (sM 9 4),
 (sP 10 (.bin .add .ifc) [.t 9, .c (.int .i64 1)]),
 (sM 4 10)])))
def r18_All_L0 : CCode := .bloop 0 [0, 3, 4] [3] r18_All_B0
def r18_All_C : CCode :=
 (.seq
 (.ops [
 (sP 2 .mov [.c .nils])])
 (.seq
 (.ops [
 (sP 3 .mov [.c .nils])])
 (.seq
 (.seq
 (.ops [
 (sP 4 .mov [.c (.int .i64 0)])])
 r18_All_L0)
 (.seq
 (.ops [
 (sM 19 3),
 (sC 20 39 [.t 19]),
 (sM 2 20)])
 (.ret [2])))))
def r18_All_I : FInfo := ⟨(.fz false), 1, r18_All_C, [.tmp 2]⟩
def r18_All_A : Ann := ⟨[], [], [(0, [0, 3, 4], [3])], [(1, [0, 3, 4])], []⟩
abbrev n_r18_All : Nat := 83

/-! ### balise/baliseref18.find -/
def r18_find_B0 : CCode :=
 (.seq
 (.seq
 (.ops [
 (sM 6 5),
 (sM 7 0),
 (sP 8 .len [.t 7]),
 (sP 9 (.bin .lss .ifc) [.t 6, .t 8])])
 (.cond (.t 9)
 .skip
 (.exit 0)))
 (.seq
 (.block 1 (some [0, 1, 5])
 (.seq
 (.ops [
 (sM 12 0),
 (sM 13 5),
 (sP 14 (.iaddr 4) [.t 12, .t 13]),
 (sP 15 (.faddr 0) [.t 14]),
 (sH 16 (.load false 1) [.t 15]),
 (sM 17 1),
 (sP 18 (.bin .eql .int) [.t 16, .t 17])])
 (.cond (.t 18)
 (.seq
 (.ops [
 (sM 19 5),
 (sM 4 19)])
 (.ret [4]))
 .skip)))
 (.ops [
 (sM 10 5),
 (sP 11 (.bin .add .ifc) [.t 10, .c (.int .i64 1)]),
 (sM 5 11)])))
def r18_find_L0 : CCode := .bloop 0 [0, 1, 5] [] r18_find_B0
def r18_find_C : CCode :=
 (.seq
 (.ops [
 (sP 4 .mov [.c (.int .i64 0)])])
 (.seq
 (.seq
 (.ops [
 (sP 5 .mov [.c (.int .i64 0)])])
 r18_find_L0)
 (.seq
 (.ops [
 (sP 4 .mov [.c (.int .i64 (-1))])])
 (.ret [4]))))
def r18_find_I : FInfo := ⟨(.fz false), 2, r18_find_C, [.tmp 4]⟩
def r18_find_A : Ann := ⟨[], [], [(0, [0, 1, 5], [])], [(1, [0, 1, 5])], []⟩
abbrev n_r18_find : Nat := 55

/-! ### balise/baliseref18.under -/
def r18_under_B0 : CCode :=
 (.seq
 (.seq
 (.ops [
 (sM 12 6),
 (sP 13 (.faddr 3) [.t 3]),
 (sH 14 (.load false 1) [.t 13]),
 (sP 15 .len [.t 14]),
 (sP 16 (.bin .lss .ifc) [.t 12, .t 15])])
 (.cond (.t 16)
 .skip
 (.exit 0)))
 (.seq
 (.block 1 (some [2, 3, 5, 6])
 (.seq
 (.ops [
 (sM 19 5),
 (sH 20 (.load true 10) [.t 2]),
 (sP 21 (.faddr 3) [.t 3]),
 (sH 22 (.load false 1) [.t 21]),
 (sM 23 6),
 (sP 24 (.iaddr 2) [.t 22, .t 23]),
 (sP 25 (.faddr 0) [.t 24]),
 (sH 26 (.load false 1) [.t 25]),
 (sC 27 49 [.t 20, .t 26]),
 (sP 28 (.bin .sub .ifc) [.t 19, .t 27]),
 (sM 5 28)])
 (.seq
 (.ops [
 (sM 29 5),
 (sP 30 (.bin .leq .ifc) [.t 29, .c (.int .i64 0)])])
 (.cond (.t 30)
 (.seq
 (.ops [
 (sM 31 6),
 (sP 32 (.bin .add .ifc) [.t 31, .c (.int .i64 1)]),
 (sM 4 32)])
 (.ret [4]))
 .skip))))
 (.ops [
 (sM 17 6),
 (sP 18 (.bin .add .ifc) [.t 17, .c (.int .i64 1)]),
 (sM 6 18)])))
def r18_under_L0 : CCode := .bloop 0 [2, 3, 5, 6] [3] r18_under_B0
def r18_under_C : CCode :=
 (.seq
 (.ops [
 (sH 2 (.box 2) [.t 0]),
 (sH 3 (.box 3) [.t 1]),
 (sP 4 .mov [.c (.int .i64 0)])])
 (.seq
 (.ops [
 (sP 7 (.faddr 2) [.t 3]),
 (sH 8 (.load false 1) [.t 7]),
 (sP 9 (.faddr 1) [.t 3]),
 (sH 10 (.load false 1) [.t 9]),
 (sP 11 (.bin .add .ifc) [.t 8, .t 10]),
 (sM 5 11)])
 (.seq
 (.seq
 (.ops [
 (sP 6 .mov [.c (.int .i64 0)])])
 r18_under_L0)
 (.seq
 (.ops [
 (sP 33 (.faddr 3) [.t 3]),
 (sH 34 (.load false 1) [.t 33]),
 (sP 35 .len [.t 34]),
 (sM 4 35)])
 (.ret [4])))))
def r18_under_I : FInfo := ⟨(.fz false), 2, r18_under_C, [.tmp 4]⟩
def r18_under_A : Ann := ⟨[], [], [(0, [2, 3, 5, 6], [3])], [(1, [2, 3, 5, 6])], [2, 3]⟩
abbrev n_r18_under : Nat := 56

/-! ### balise/baliseref18.Under -/
def r18_Under_B0 : CCode :=
 (.seq
 (.seq
 (.ops [
 (sM 15 9),
 (sH 16 (.load true 10) [.t 3]),
 (sM 17 1),
 (sM 18 7),
 (sP 19 (.iaddr 4) [.t 17, .t 18]),
 (sH 20 (.load true 4) [.t 19]),
 (sC 21 56 [.t 16, .t 20]),
 (sP 22 (.bin .lss .ifc) [.t 15, .t 21])])
 (.cond (.t 22)
 .skip
 (.exit 0)))
 (.seq
 (.block 1 (some [1, 3, 7, 8, 9])
 (.ops [
 (sM 25 8),
 (sM 26 1),
 (sM 27 7),
 (sP 28 (.iaddr 4) [.t 26, .t 27]),
 (sP 29 (.faddr 3) [.t 28]),
 (sH 30 (.load false 1) [.t 29]),
 (sM 31 9),
 (sP 32 (.iaddr 2) [.t 30, .t 31]),
 (sP 33 (.faddr 0) [.t 32]),
 (sH 34 (.load false 1) [.t 33]),
 (sH 35 (.bslF 1 1 [(.int .i64 0)] [(0, 1)]) [.t 34]),
 (sH 36 (.app 1 8 [(.int .i64 0)]) [.t 25, .t 35]),
 (sM 8 36)]))
 (.ops [
 (sM 23 9),
 (sP 24 (.bin .add .ifc) [.t 23, .c (.int .i64 1)]),
 (sM 9 24)])))
def r18_Under_L0 : CCode := .bloop 0 [1, 3, 7, 8, 9] [8] r18_Under_B0
def r18_Under_C : CCode :=
 (.seq
 (.ops [
 (sH 3 (.box 3) [.t 0]),
 (sP 6 .mov [.c .nils])])
 (.seq
 (.ops [
 (sM 10 1),
 (sM 11 2),
 (sC 12 55 [.t 10, .t 11]),
 (sM 7 12)])
 (.seq
 (.seq
 (.ops [
 (sM 13 7),
 (sP 14 (.bin .lss .ifc) [.t 13, .c (.int .i64 0)])])
 (.cond (.t 14)
 (.seq
 (.ops [
 (sP 6 .mov [.c .nils])])
 (.ret [6]))
 .skip))
 (.seq
 (.ops [
 (sP 8 .mov [.c .nils])])
 (.seq
 (.seq
 (.ops [
 (sP 9 .mov [.c (.int .i64 0)])])
 r18_Under_L0)
 (.seq
 (.ops [
 (sM 37 8),
 (sM 6 37)])
 (.ret [6])))))))
def r18_Under_I : FInfo := ⟨(.fz false), 3, r18_Under_C, [.tmp 6]⟩
def r18_Under_A : Ann := ⟨[], [], [(0, [1, 3, 7, 8, 9], [8])], [(1, [1, 3, 7, 8, 9])], [3]⟩
abbrev n_r18_Under : Nat := 21

/-! ### balise/baliseref18.Inside -/
def r18_Inside_B0 : CCode :=
 (.seq
 (.seq
 (.ops [
 (sM 8 7),
 (sM 9 1),
 (sP 10 .len [.t 9]),
 (sP 11 (.bin .lss .ifc) [.t 8, .t 10])])
 (.cond (.t 11)
 .skip
 (.exit 0)))
 (.seq
 (.block 1 (some [1, 2, 3, 7])
 (.seq
 (.ops [
 (sH 14 (.load true 10) [.t 3]),
 (sM 15 1),
 (sM 16 1),
 (sM 17 7),
 (sP 18 (.iaddr 4) [.t 16, .t 17]),
 (sP 19 (.faddr 0) [.t 18]),
 (sH 20 (.load false 1) [.t 19]),
 (sC 21 21 [.t 14, .t 15, .t 20]),
 (sM 22 2),
 (sC 23 22 [.t 21, .t 22])])
 (.cond (.t 23)
 (.seq
 (.ops [
 (sP 6 .mov [.c (.bool true)])])
 (.ret [6]))
 .skip)))
 (.ops [
 (sM 12 7),
 (sP 13 (.bin .add .ifc) [.t 12, .c (.int .i64 1)]),
 (sM 7 13)])))
def r18_Inside_L0 : CCode := .bloop 0 [1, 2, 3, 7] [] r18_Inside_B0
def r18_Inside_C : CCode :=
 (.seq
 (.ops [
 (sH 3 (.box 3) [.t 0]),
 (sP 6 .mov [.c (.bool false)])])
 (.seq
 (.seq
 (.ops [
 (sP 7 .mov [.c (.int .i64 0)])])
 r18_Inside_L0)
 (.seq
 (.ops [
 (sP 6 .mov [.c (.bool false)])])
 (.ret [6]))))
def r18_Inside_I : FInfo := ⟨(.fz false), 3, r18_Inside_C, [.tmp 6]⟩
def r18_Inside_A : Ann := ⟨[], [], [(0, [1, 2, 3, 7], [])], [(1, [1, 2, 3, 7])], [3]⟩
abbrev n_r18_Inside : Nat := 54

/-! ### balise/baliseref18.In -/
def r18_In_B0 : CCode :=
 (.seq
 (.seq
 (.ops [
 (sM 24 10),
 (sM 25 9),
 (sP 26 .len [.t 25]),
 (sP 27 (.bin .lss .ifc) [.t 24, .t 26])])
 (.cond (.t 27)
 .skip
 (.exit 0)))
 (.seq
 (.block 1 (some [3, 4, 9, 10])
 (.seq
 (.ops [
 (sP 30 (.faddr 2) [.t 4]),
 (sH 31 (.load false 1) [.t 30]),
 (sM 32 3),
 (sP 33 (.iaddr 1) [.t 31, .t 32]),
 (sH 34 (.load false 1) [.t 33]),
 (sM 35 9),
 (sM 36 10),
 (sP 37 (.iaddr 1) [.t 35, .t 36]),
 (sH 38 (.load false 1) [.t 37]),
 (sC 39 22 [.t 34, .t 38])])
 (.cond (.t 39)
 (.seq
 (.ops [
 (sP 8 .mov [.c (.bool true)])])
 (.ret [8]))
 .skip)))
 (.ops [
 (sM 28 10),
 (sP 29 (.bin .add .ifc) [.t 28, .c (.int .i64 1)]),
 (sM 10 29)])))
def r18_In_L0 : CCode := .bloop 0 [3, 4, 9, 10] [] r18_In_B0
def r18_In_C : CCode :=
 (.seq
 (.ops [
 (sH 4 (.box 4) [.t 0]),
 (sP 8 .mov [.c (.bool false)])])
 (.seq
 (.seq
 (.ops [
 (sM 11 3),
 (sP 12 (.bin .lss .ifc) [.t 11, .c (.int .i64 0)]),
 (sM 13 12),
 (sG (sM 14 3) 13 false),
 (sG (sP 15 (.faddr 2) [.t 4]) 13 false),
 (sG (sH 16 (.load false 1) [.t 15]) 13 false),
 (sG (sP 17 .len [.t 16]) 13 false),
 (sG (sP 18 (.bin .geq .ifc) [.t 14, .t 17]) 13 false),
 (sP 19 .pick [.t 13, .c (.bool true), .t 18])])
 (.cond (.t 19)
 (.seq
 (.ops [
 (sP 8 .mov [.c (.bool false)])])
 (.ret [8]))
 .skip))
 (.seq
 (.ops [
 (sH 20 (.load true 10) [.t 4]),
 (sM 21 1),
 (sM 22 2),
 (sC 23 21 [.t 20, .t 21, .t 22]),
 (sM 9 23)])
 (.seq
 (.seq
 (.ops [
 (sP 10 .mov [.c (.int .i64 0)])])
 r18_In_L0)
 (.seq
 (.ops [
 (sP 8 .mov [.c (.bool false)])])
 (.ret [8]))))))
def r18_In_I : FInfo := ⟨(.fz false), 4, r18_In_C, [.tmp 8]⟩
def r18_In_A : Ann := ⟨[], [], [(0, [3, 4, 9, 10], [])], [(1, [3, 4, 9, 10])], [4]⟩
abbrev n_r18_In : Nat := 23

/-! ### balise/world.New -/
def world_New_C : CCode :=
 (.seq
 (.ops [
 (sH 1 (.box 1) [.t 0]),
 (sP 2 .mov [.c .nilp])])
 (.seq
 (.ops [
 (sL 3 1 (.load true 10) [.t 1]),
 (sL 4 1 (.load true 10) [.t 1]),
 (sCv 5 41 [.t 4]),
 (sB 6 .mkmap []),
 (sP 7 (.bld [.nils, .nils, .nils, .nils, .nils, (.int .i64 0), (.int .i64 0), (.int .i64 0), (.int .i64 0), (.int .i64 0), .nilp, .nilm] [(0, 10), (10, 1), (11, 1)]) [.t 3, .t 5, .t 6]),
 (sB 8 .boxh [.t 7]),
 (sM 2 8)])
 (.ret [2])))
def world_New_I : FInfo := ⟨.ref, 1, world_New_C, [.tmp 2]⟩
def world_New_A : Ann := ⟨[8], [], [], [], [1]⟩
abbrev n_world_New : Nat := 32

/-! ### (*balise/world.World).Under -/
def world_World_Under_B0 : CCode :=
 (.seq
 (.ops [
 (sP 24 (.bin .lss .ifc) [.t 23, .t 22])])
 (.seq
 (.cond (.t 24)
 .skip
 (.exit 0))
 (.seq
 (.block 1 (some [6, 21, 22, 23])
 (.seq
 (.ops [
 (sP 25 (.iaddr 2) [.t 21, .t 23]),
 (sH 26 (.load true 2) [.t 25]),
 (sH 8 (.newl 8 [(.int .i64 0), (.int .i64 0)]) []),
 (sHn (.store 2) [.t 8, .t 26])])
 (.ops [
 (sM 27 6),
 (sP 28 (.faddr 0) [.t 8]),
 (sH 29 (.load false 1) [.t 28]),
 (sH 30 (.bslF 1 1 [(.int .i64 0)] [(0, 1)]) [.t 29]),
 (sH 31 (.app 1 8 [(.int .i64 0)]) [.t 27, .t 30]),
 (sM 6 31)])))
 (.ops [
 (sP 32 (.bin .add .ifc) [.t 23, .c (.int .i64 1)]),
 (sM 23 32)]))))
def world_World_Under_L0 : CCode := .bloop 0 [6, 21, 22, 23] [6] world_World_Under_B0
def world_World_Under_C : CCode :=
 (.seq
 (.ops [
 (sP 4 .mov [.c .nils])])
 (.seq
 (.ops [
 (sM 9 0),
 (sM 10 1),
 (sC 11 70 [.t 9, .t 10]),
 (sM 5 11)])
 (.seq
 (.seq
 (.ops [
 (sM 12 5),
 (sP 13 (.bin .eql .ptr) [.t 12, .c .nilp])])
 (.cond (.t 13)
 (.seq
 (.ops [
 (sP 4 .mov [.c .nils])])
 (.ret [4]))
 .skip))
 (.seq
 (.ops [
 (sP 6 .mov [.c .nils])])
 (.seq
 (.seq
 (.ops [
 (sM 14 5),
 (sP 15 .nchk [.t 14]),
 (sP 16 (.faddr 2) [.t 15]),
 (sB 17 (.load false 1) [.t 16]),
 (sM 18 0),
 (sM 19 5),
 (sCp 20 72 [.t 18, .t 19]),
 (sP 21 (.slc 2 false true) [.t 17, .t 20]),
 (sP 22 .len [.t 21]),
 (sP 23 .mov [.c (.int .i64 0)])])
 world_World_Under_L0)
 (.seq
 (.ops [
 (sM 33 6),
 (sM 4 33)])
 (.ret [4])))))))
def world_World_Under_I : FInfo := ⟨.ref, 2, world_World_Under_C, [.tmp 4]⟩
def world_World_Under_A : Ann := ⟨[], [], [(0, [6, 21, 22, 23], [6])], [(1, [6, 21, 22, 23])], [8]⟩
abbrev n_world_World_Under : Nat := 37

/-! ### (*balise/world.World).Add -/
def world_World_Add_C : CCode :=
 (.seq
 (.ops [
 (sP 12 .mov [.c (.int .i64 0)])])
 (.seq
 (.block 0 (some [0, 1, 2, 3, 4, 5])
 (.seq
 (.ops [
 (sM 14 0),
 (sP 15 (.bin .eql .ptr) [.t 14, .c .nilp]),
 (sM 13 15)])
 (.cond (.t 13)
 (.seq
 (.ops [
 (sP 12 .mov [.c (.int .i64 7)])])
 (.ret [12]))
 (.seq
 (.ops [
 (sM 17 0),
 (sM 18 1),
 (sC 19 66 [.t 17, .t 18]),
 (sM 16 19)])
 (.cond (.t 16)
 (.seq
 (.ops [
 (sP 12 .mov [.c (.int .i64 8)])])
 (.ret [12]))
 (.seq
 (.ops [
 (sM 21 0),
 (sP 22 .nchk [.t 21]),
 (sP 23 (.faddr 10) [.t 22]),
 (sH 24 (.load false 1) [.t 23]),
 (sM 25 4),
 (sM 26 3),
 (sM 27 5),
 (sP 28 (.bld [(.int .u8 0), (.int .i64 0), (.int .i64 0), (.int .i64 0), (.int .i64 0), (.bool false), .nils] [(0, 1), (3, 1), (4, 1), (6, 1)]) [.c (.int .u8 3), .t 25, .t 26, .t 27]),
 (sC 29 43 [.t 24, .t 28]),
 (sP 30 (.un .not) [.t 29]),
 (sM 20 30)])
 (.cond (.t 20)
 (.seq
 (.ops [
 (sP 12 .mov [.c (.int .i64 1)])])
 (.ret [12]))
 (.seq
 (.ops [
 (sM 32 3),
 (sM 33 0),
 (sP 34 .nchk [.t 33]),
 (sP 35 (.faddr 10) [.t 34]),
 (sH 36 (.load false 1) [.t 35]),
 (sM 37 5),
 (sP 38 (.iaddr 1) [.t 37, .c (.int .i64 0)]),
 (sH 39 (.load false 1) [.t 38]),
 (sC 40 67 [.t 36, .t 39]),
 (sP 41 (.bin .geq .ifc) [.t 32, .t 40]),
 (sM 42 41),
 (sG (sM 43 2) 42 false),
 (sG (sP 44 (.bin .lss .ifc) [.t 43, .c (.int .i64 1)]) 42 false),
 (sP 45 .pick [.t 42, .c (.bool true), .t 44]),
 (sM 46 45),
 (sG (sM 47 2) 46 false),
 (sG (sM 48 0) 46 false),
 (sG (sM 49 3) 46 false),
 (sG (sM 50 5) 46 false),
 (sG (sC 51 68 [.t 48, .t 49, .t 50]) 46 false),
 (sG (sP 52 (.bin .gtr .ifc) [.t 47, .t 51]) 46 false),
 (sP 53 .pick [.t 46, .c (.bool true), .t 52]),
 (sM 31 53)])
 (.cond (.t 31)
 (.seq
 (.ops [
 (sP 12 .mov [.c (.int .i64 1)])])
 (.ret [12]))
 .skip)))))))))
 (.seq
 (.ops [
 (sM 54 0),
 (sP 55 .nchk [.t 54]),
 (sP 56 (.faddr 11) [.t 55]),
 (sB 57 (.load false 1) [.t 56]),
 (sM 58 1),
 (sM 59 2),
 (sM 60 3),
 (sM 61 0),
 (sM 62 4),
 (sM 63 5),
 (sCp 64 69 [.t 61, .t 62, .t 63]),
 (sP 65 (.bld [(.int .i64 0), (.int .i64 0), .nils] [(0, 1), (1, 1), (2, 1)]) [.t 59, .t 60, .t 64]),
 (sB 66 .boxh [.t 65]),
 (sBn (.mput 0) [.t 57, .t 58, .t 66])])
 (.seq
 (.ops [
 (sP 12 .mov [.c (.int .i64 0)])])
 (.ret [12])))))
def world_World_Add_I : FInfo := ⟨.ref, 6, world_World_Add_C, [.tmp 12]⟩
def world_World_Add_A : Ann := ⟨[66], [], [], [(0, [0, 1, 2, 3, 4, 5])], []⟩
abbrev n_world_World_Add : Nat := 33

/-! ### (*balise/world.World).All -/
def world_World_All_C : CCode :=
 (.seq
 (.ops [
 (sP 2 .mov [.c .nils])])
 (.seq
 (.seq
 (.ops [
 (sM 3 0),
 (sP 4 (.bin .eql .ptr) [.t 3, .c .nilp])])
 (.cond (.t 4)
 (.seq
 (.ops [
 (sP 2 .mov [.c .nils])])
 (.ret [2]))
 .skip))
 (.seq
 (.ops [
 (sM 5 0),
 (sP 6 .nchk [.t 5]),
 (sP 7 (.faddr 11) [.t 6]),
 (sH 8 (.load false 1) [.t 7]),
 (sC 9 74 [.t 8]),
 (sC 10 61 [.t 9]),
 (sM 2 10)])
 (.ret [2]))))
def world_World_All_I : FInfo := ⟨.ref, 1, world_World_All_C, [.tmp 2]⟩
def world_World_All_A : Ann := ⟨[], [], [], [], []⟩
abbrev n_world_World_All : Nat := 40

/-! ### (*balise/world.World).Inside -/
def world_World_Inside_C : CCode :=
 (.seq
 (.ops [
 (sH 2 .boxh [.t 0]),
 (sH 3 .boxh [.t 1]),
 (sP 4 .mov [.c (.bool false)])])
 (.seq
 (.ops [
 (sH 5 (.load false 1) [.t 2]),
 (sC 6 40 [.t 5]),
 (sP 7 (.mkfn (.func 81) 0) [.t 2, .t 3]),
 (sC 8 57 [.t 6, .t 7]),
 (sM 4 8)])
 (.ret [4])))
def world_World_Inside_I : FInfo := ⟨.ref, 2, world_World_Inside_C, [.tmp 4]⟩
def world_World_Inside_A : Ann := ⟨[2, 3], [], [], [], []⟩
abbrev n_world_World_Inside : Nat := 46

/-! ### (*balise/world.World).Inside$1 -/
def world_World_Inside_1_C : CCode :=
 (.seq
 (.ops [
 (sP 4 .mov [.c (.bool false)])])
 (.seq
 (.ops [
 (sB 5 (.load false 1) [.t 1]),
 (sM 6 0),
 (sCp 7 37 [.t 5, .t 6]),
 (sB 8 (.load false 1) [.t 2]),
 (sCb 9 59 [.t 7, .t 8]),
 (sM 4 9)])
 (.ret [4])))
def world_World_Inside_1_I : FInfo := ⟨.ref, 3, world_World_Inside_1_C, [.tmp 4]⟩
def world_World_Inside_1_A : Ann := ⟨[], [], [], [], []⟩
abbrev n_world_World_Inside_1 : Nat := 81

/-! ### (*balise/world.World).In -/
def world_World_In_C : CCode :=
 (.seq
 (.ops [
 (sH 3 .boxh [.t 0]),
 (sH 5 .boxh [.t 2]),
 (sP 6 .mov [.c (.bool false)])])
 (.seq
 (.seq
 (.ops [
 (sH 7 (.load false 1) [.t 3]),
 (sP 8 (.bin .eql .ptr) [.t 7, .c .nilp]),
 (sM 9 8),
 (sG (sH 10 (.load false 1) [.t 5]) 9 false),
 (sG (sP 11 (.bin .lss .ifc) [.t 10, .c (.int .i64 0)]) 9 false),
 (sP 12 .pick [.t 9, .c (.bool true), .t 11]),
 (sM 13 12),
 (sG (sH 14 (.load false 1) [.t 5]) 13 false),
 (sG (sH 15 (.load false 1) [.t 3]) 13 false),
 (sG (sP 16 .nchk [.t 15]) 13 false),
 (sG (sP 17 (.faddr 0) [.t 16]) 13 false),
 (sG (sP 18 (.faddr 2) [.t 17]) 13 false),
 (sG (sH 19 (.load false 1) [.t 18]) 13 false),
 (sG (sP 20 .len [.t 19]) 13 false),
 (sG (sP 21 (.bin .geq .ifc) [.t 14, .t 20]) 13 false),
 (sP 22 .pick [.t 13, .c (.bool true), .t 21])])
 (.cond (.t 22)
 (.seq
 (.ops [
 (sP 6 .mov [.c (.bool false)])])
 (.ret [6]))
 .skip))
 (.seq
 (.ops [
 (sH 23 (.load false 1) [.t 3]),
 (sM 24 1),
 (sC 25 37 [.t 23, .t 24]),
 (sP 26 (.mkfn (.func 80) 0) [.t 3, .t 5]),
 (sC 27 57 [.t 25, .t 26]),
 (sM 6 27)])
 (.ret [6]))))
def world_World_In_I : FInfo := ⟨.ref, 3, world_World_In_C, [.tmp 6]⟩
def world_World_In_A : Ann := ⟨[3, 5], [], [], [], []⟩
abbrev n_world_World_In : Nat := 45

/-! ### (*balise/world.World).In$1 -/
def world_World_In_1_C : CCode :=
 (.seq
 (.ops [
 (sP 4 .mov [.c (.bool false)])])
 (.seq
 (.ops [
 (sH 5 (.load false 1) [.t 1]),
 (sP 6 .nchk [.t 5]),
 (sP 7 (.faddr 0) [.t 6]),
 (sP 8 (.faddr 2) [.t 7]),
 (sH 9 (.load false 1) [.t 8]),
 (sH 10 (.load false 1) [.t 2]),
 (sP 11 (.iaddr 1) [.t 9, .t 10]),
 (sH 12 (.load false 1) [.t 11]),
 (sM 13 0),
 (sC 14 59 [.t 12, .t 13]),
 (sM 4 14)])
 (.ret [4])))
def world_World_In_1_I : FInfo := ⟨.ref, 3, world_World_In_1_C, [.tmp 4]⟩
def world_World_In_1_A : Ann := ⟨[], [], [], [], []⟩
abbrev n_world_World_In_1 : Nat := 80

/-! ### (*balise/world.World).get -/
def world_World_get_C : CCode :=
 (.seq
 (.ops [
 (sP 4 .mov [.c .nilp])])
 (.seq
 (.seq
 (.ops [
 (sM 5 0),
 (sP 6 (.bin .eql .ptr) [.t 5, .c .nilp])])
 (.cond (.t 6)
 (.seq
 (.ops [
 (sP 4 .mov [.c .nilp])])
 (.ret [4]))
 .skip))
 (.seq
 (.ops [
 (sM 7 0),
 (sP 8 .nchk [.t 7]),
 (sP 9 (.faddr 11) [.t 8]),
 (sH 10 (.load false 1) [.t 9]),
 (sM 11 1),
 (sH 12 (.look 0 .nilp false) [.t 10, .t 11]),
 (sM 4 12)])
 (.ret [4]))))
def world_World_get_I : FInfo := ⟨.ref, 2, world_World_get_C, [.tmp 4]⟩
def world_World_get_A : Ann := ⟨[], [], [], [], []⟩
abbrev n_world_World_get : Nat := 70

/-! ### (*balise/world.World).under -/
def world_World_under_B0 : CCode :=
 (.seq
 (.seq
 (.ops [
 (sM 16 6),
 (sP 17 (.bin .gtr .ifc) [.t 16, .c (.int .i64 0)]),
 (sM 18 17),
 (sG (sM 19 5) 18 true),
 (sG (sM 20 1) 18 true),
 (sG (sP 21 .nchk [.t 20]) 18 true),
 (sG (sP 22 (.faddr 2) [.t 21]) 18 true),
 (sG (sH 23 (.load false 1) [.t 22]) 18 true),
 (sG (sP 24 .len [.t 23]) 18 true),
 (sG (sP 25 (.bin .lss .ifc) [.t 19, .t 24]) 18 true),
 (sP 26 .pick [.t 18, .t 25, .c (.bool false)])])
 (.cond (.t 26)
 .skip
 (.exit 0)))
 (.block 1 (some [0, 1, 5, 6])
 (.seq
 (.ops [
 (sM 27 6),
 (sM 28 0),
 (sP 29 .nchk [.t 28]),
 (sP 30 (.faddr 10) [.t 29]),
 (sH 31 (.load false 1) [.t 30]),
 (sM 32 1),
 (sP 33 .nchk [.t 32]),
 (sP 34 (.faddr 2) [.t 33]),
 (sH 35 (.load false 1) [.t 34]),
 (sM 36 5),
 (sP 37 (.iaddr 2) [.t 35, .t 36]),
 (sP 38 (.faddr 0) [.t 37]),
 (sH 39 (.load false 1) [.t 38]),
 (sC 40 67 [.t 31, .t 39]),
 (sP 41 (.bin .sub .ifc) [.t 27, .t 40]),
 (sM 6 41)])
 (.ops [
 (sM 42 5),
 (sP 43 (.bin .add .ifc) [.t 42, .c (.int .i64 1)]),
 (sM 5 43)]))))
def world_World_under_L0 : CCode := .bloop 0 [0, 1, 5, 6] [5] world_World_under_B0
def world_World_under_C : CCode :=
 (.seq
 (.ops [
 (sP 4 .mov [.c (.int .i64 0)])])
 (.seq
 (.ops [
 (sM 7 1),
 (sP 8 .nchk [.t 7]),
 (sP 9 (.faddr 0) [.t 8]),
 (sH 10 (.load false 1) [.t 9]),
 (sM 11 1),
 (sP 12 .nchk [.t 11]),
 (sP 13 (.faddr 1) [.t 12]),
 (sH 14 (.load false 1) [.t 13]),
 (sP 15 (.bin .add .ifc) [.t 10, .t 14]),
 (sP 5 .mov [.c (.int .i64 0)]),
 (sM 6 15)])
 (.seq
 world_World_under_L0
 (.seq
 (.ops [
 (sM 44 5),
 (sM 4 44)])
 (.ret [4])))))
def world_World_under_I : FInfo := ⟨.ref, 2, world_World_under_C, [.tmp 4]⟩
def world_World_under_A : Ann := ⟨[], [], [(0, [0, 1, 5, 6], [5])], [(1, [0, 1, 5, 6])], []⟩
abbrev n_world_World_under : Nat := 72

/-! ### (*balise/world.World).full -/
def world_World_full_C : CCode :=
 (.seq
 (.ops [
 (sP 4 .mov [.c (.bool false)])])
 (.seq
 (.ops [
 (sM 5 0),
 (sP 6 .nchk [.t 5]),
 (sP 7 (.faddr 11) [.t 6]),
 (sH 8 (.load false 1) [.t 7]),
 (sM 9 1),
 (sH 10 (.look 0 .nilp false) [.t 8, .t 9]),
 (sP 11 (.bin .neq .ptr) [.t 10, .c .nilp]),
 (sM 12 11),
 (sG (sM 13 0) 12 false),
 (sG (sP 14 .nchk [.t 13]) 12 false),
 (sG (sP 15 (.faddr 11) [.t 14]) 12 false),
 (sG (sH 16 (.load false 1) [.t 15]) 12 false),
 (sG (sH 17 .lenM [.t 16]) 12 false),
 (sG (sP 18 (.bin .geq .ifc) [.t 17, .c (.int .i64 6)]) 12 false),
 (sP 19 .pick [.t 12, .c (.bool true), .t 18]),
 (sM 4 19)])
 (.ret [4])))
def world_World_full_I : FInfo := ⟨.ref, 2, world_World_full_C, [.tmp 4]⟩
def world_World_full_A : Ann := ⟨[], [], [], [], []⟩
abbrev n_world_World_full : Nat := 66

/-! ### (*balise/world.World).room -/
def world_World_room_B0 : CCode :=
 (.seq
 (.ops [
 (sP 15 (.bin .lss .ifc) [.t 14, .t 13])])
 (.seq
 (.cond (.t 15)
 .skip
 (.exit 0))
 (.seq
 (.block 1 (some [0, 7, 12, 13, 14])
 (.seq
 (.ops [
 (sP 16 (.iaddr 1) [.t 12, .t 14]),
 (sH 17 (.load false 1) [.t 16]),
 (sM 9 17)])
 (.ops [
 (sM 18 7),
 (sM 19 0),
 (sP 20 .nchk [.t 19]),
 (sP 21 (.faddr 10) [.t 20]),
 (sH 22 (.load false 1) [.t 21]),
 (sM 23 9),
 (sC 24 67 [.t 22, .t 23]),
 (sP 25 (.bin .add .ifc) [.t 18, .t 24]),
 (sM 7 25)])))
 (.ops [
 (sP 26 (.bin .add .ifc) [.t 14, .c (.int .i64 1)]),
 (sM 14 26)]))))
def world_World_room_L0 : CCode := .bloop 0 [0, 7, 12, 13, 14] [7] world_World_room_B0
def world_World_room_C : CCode :=
 (.seq
 (.ops [
 (sP 6 .mov [.c (.int .i64 0)])])
 (.seq
 (.ops [
 (sM 10 1),
 (sP 11 (.un .neg) [.t 10]),
 (sM 7 11)])
 (.seq
 (.seq
 (.ops [
 (sM 12 2),
 (sP 13 .len [.t 12]),
 (sP 14 .mov [.c (.int .i64 0)])])
 world_World_room_L0)
 (.seq
 (.ops [
 (sM 27 7),
 (sM 6 27)])
 (.ret [6])))))
def world_World_room_I : FInfo := ⟨.ref, 3, world_World_room_C, [.tmp 6]⟩
def world_World_room_A : Ann := ⟨[], [], [(0, [0, 7, 12, 13, 14], [7])], [(1, [0, 7, 12, 13, 14])], []⟩
abbrev n_world_World_room : Nat := 68

/-! ### (*balise/world.World).way -/
def world_World_way_B2 : CCode :=
 (.seq
 (.ops [
 (sP 50 (.bin .lss .ifc) [.t 49, .t 48])])
 (.seq
 (.cond (.t 50)
 .skip
 (.exit 2))
 (.seq
 (.block 3 (some [0, 7, 9, 20, 21, 22, 47, 48, 49])
 (.seq
 (.ops [
 (sP 51 (.iaddr 2) [.t 47, .t 49]),
 (sH 52 (.load true 2) [.t 51]),
 (sH 12 (.newl 12 [(.int .i64 0), (.int .i64 0)]) []),
 (sHn (.store 2) [.t 12, .t 52])])
 (.seq
 (.ops [
 (sP 53 (.faddr 0) [.t 12]),
 (sH 54 (.load false 1) [.t 53]),
 (sM 55 9),
 (sP 56 (.bin .eql .int) [.t 54, .t 55])])
 (.cond (.t 56)
 (.seq
 (.ops [
 (sM 57 7),
 (sH 58 (.load true 2) [.t 12]),
 (sH 59 (.bslF 2 1 [(.int .i64 0), (.int .i64 0)] [(0, 2)]) [.t 58]),
 (sH 60 (.app 2 16 [(.int .i64 0), (.int .i64 0)]) [.t 57, .t 59]),
 (sM 7 60)])
 (.exit 2))
 .skip))))
 (.ops [
 (sP 61 (.bin .add .ifc) [.t 49, .c (.int .i64 1)]),
 (sM 49 61)]))))
def world_World_way_L2 : CCode := .bloop 2 [0, 7, 9, 20, 21, 22, 47, 48, 49] [0, 7, 20, 21, 22] world_World_way_B2

def world_World_way_B0 : CCode :=
 (.seq
 (.ops [
 (sP 23 (.bin .lss .ifc) [.t 22, .t 21])])
 (.seq
 (.cond (.t 23)
 .skip
 (.exit 0))
 (.seq
 (.block 1 (some [0, 7, 20, 21, 22])
 (.seq
 (.ops [
 (sP 24 (.iaddr 1) [.t 20, .t 22]),
 (sH 25 (.load false 1) [.t 24]),
 (sM 9 25)])
 (.seq
 (.ops [
 (sM 26 7),
 (sM 27 7),
 (sP 28 .len [.t 27]),
 (sP 29 (.bin .sub .ifc) [.t 28, .c (.int .i64 1)]),
 (sP 30 (.iaddr 2) [.t 26, .t 29]),
 (sP 31 (.faddr 0) [.t 30]),
 (sB 32 (.load false 1) [.t 31]),
 (sM 33 7),
 (sM 34 7),
 (sP 35 .len [.t 34]),
 (sP 36 (.bin .sub .ifc) [.t 35, .c (.int .i64 1)]),
 (sP 37 (.iaddr 2) [.t 33, .t 36]),
 (sP 38 (.faddr 1) [.t 37]),
 (sB 39 (.load false 1) [.t 38]),
 (sP 40 (.bin .sub .ifc) [.c (.int .i64 1), .t 39]),
 (sP 41 (.bld [(.int .i64 0), (.int .i64 0)] [(0, 1), (1, 1)]) [.t 32, .t 40]),
 (sH 10 (.newl 10 [(.int .i64 0), (.int .i64 0)]) []),
 (sLn 10 (.store 2) [.t 10, .t 41])])
 (.seq
 (.ops [
 (sM 42 0),
 (sP 43 .nchk [.t 42]),
 (sP 44 (.faddr 10) [.t 43]),
 (sH 45 (.load false 1) [.t 44]),
 (sH 46 (.load true 2) [.t 10]),
 (sC 47 76 [.t 45, .t 46]),
 (sP 48 .len [.t 47]),
 (sP 49 .mov [.c (.int .i64 0)])])
 world_World_way_L2))))
 (.ops [
 (sP 62 (.bin .add .ifc) [.t 22, .c (.int .i64 1)]),
 (sM 22 62)]))))
def world_World_way_L0 : CCode := .bloop 0 [0, 7, 20, 21, 22] [7] world_World_way_B0
def world_World_way_C : CCode :=
 (.seq
 (.ops [
 (sP 6 .mov [.c .nils])])
 (.seq
 (.ops [
 (sM 13 2),
 (sP 14 (.iaddr 1) [.t 13, .c (.int .i64 0)]),
 (sH 15 (.load false 1) [.t 14]),
 (sM 16 1),
 (sP 17 (.bld [(.int .i64 0), (.int .i64 0)] [(0, 1), (1, 1)]) [.t 15, .t 16]),
 (sH 18 (.bslO 2 1 [(.int .i64 0), (.int .i64 0)] [(0, 2)]) [.t 17]),
 (sM 7 18)])
 (.seq
 (.seq
 (.ops [
 (sM 19 2),
 (sP 20 (.slc 1 true false) [.t 19, .c (.int .i64 1)]),
 (sP 21 .len [.t 20]),
 (sP 22 .mov [.c (.int .i64 0)])])
 world_World_way_L0)
 (.seq
 (.ops [
 (sM 63 7),
 (sM 6 63)])
 (.ret [6])))))
def world_World_way_I : FInfo := ⟨.ref, 3, world_World_way_C, [.tmp 6]⟩
def world_World_way_A : Ann := ⟨[], [18], [(0, [0, 7, 20, 21, 22], [7]), (2, [0, 7, 9, 20, 21, 22, 47, 48, 49], [0, 7, 20, 21, 22])], [(1, [0, 7, 20, 21, 22]), (3, [0, 7, 9, 20, 21, 22, 47, 48, 49])], [10, 12]⟩
abbrev n_world_World_way : Nat := 69

/-! ### slices.ContainsFunc[[]int,int] -/
def slices_ContainsFunc_int_C : CCode :=
 (.seq
 (.ops [
 (sP 4 .mov [.c (.bool false)])])
 (.seq
 (.ops [
 (sM 5 0),
 (sM 6 1),
 (sC 7 84 [.t 5, .t 6]),
 (sP 8 (.bin .geq .ifc) [.t 7, .c (.int .i64 0)]),
 (sM 4 8)])
 (.ret [4])))
def slices_ContainsFunc_int_I : FInfo := ⟨.ref, 2, slices_ContainsFunc_int_C, [.tmp 4]⟩
def slices_ContainsFunc_int_A : Ann := ⟨[], [], [], [], []⟩
abbrev n_slices_ContainsFunc_int : Nat := 57

/-! ### slices.IndexFunc[[]int,int] -/
def slices_IndexFunc_Int_B0 : CCode :=
 (.seq
 (.ops [
 (sP 9 (.bin .lss .ifc) [.t 8, .t 7])])
 (.seq
 (.cond (.t 9)
 .skip
 (.exit 0))
 (.seq
 (.block 1 (some [0, 1, 7, 8])
 (.seq
 (.ops [
 (sM 10 8),
 (sM 5 10)])
 (.seq
 (.ops [
 (sM 11 1),
 (sM 12 0),
 (sM 13 5),
 (sP 14 (.iaddr 1) [.t 12, .t 13]),
 (sH 15 (.load false 1) [.t 14]),
 ⟨(some 16), .call, [.t 11, .t 15], none⟩])
 (.cond (.t 16)
 (.seq
 (.ops [
 (sM 17 5),
 (sM 4 17)])
 (.ret [4]))
 .skip))))
 (.ops [
 (sP 18 (.bin .add .ifc) [.t 8, .c (.int .i64 1)]),
 (sM 8 18)]))))
def slices_IndexFunc_Int_L0 : CCode := .bloop 0 [0, 1, 7, 8] [] slices_IndexFunc_Int_B0
def slices_IndexFunc_Int_C : CCode :=
 (.seq
 (.ops [
 (sP 4 .mov [.c (.int .i64 0)])])
 (.seq
 (.seq
 (.ops [
 (sM 6 0),
 (sP 7 .len [.t 6]),
 (sP 8 .mov [.c (.int .i64 0)])])
 slices_IndexFunc_Int_L0)
 (.seq
 (.ops [
 (sP 4 .mov [.c (.int .i64 (-1))])])
 (.ret [4]))))
def slices_IndexFunc_Int_I : FInfo := ⟨.ref, 2, slices_IndexFunc_Int_C, [.tmp 4]⟩
def slices_IndexFunc_Int_A : Ann := ⟨[], [], [(0, [0, 1, 7, 8], [])], [(1, [0, 1, 7, 8])], []⟩
abbrev n_slices_IndexFunc_Int : Nat := 84

/-! ### maps.Keys[map[int]*balise/world.vehicle,int,*balise/world.vehicle] -/
def maps_Keys_vehicle_C : CCode :=
 (.seq
 (.ops [
 (sH 1 .boxh [.t 0]),
 (sP 2 .mov [.c .nilf])])
 (.seq
 (.ops [
 (sP 3 (.mkfn (.func 93) 0) [.t 1]),
 (sM 2 3)])
 (.ret [2])))
def maps_Keys_vehicle_I : FInfo := ⟨.ref, 1, maps_Keys_vehicle_C, [.tmp 2]⟩
def maps_Keys_vehicle_A : Ann := ⟨[1], [], [], [], []⟩
abbrev n_maps_Keys_vehicle : Nat := 74

/-! ### balise/train.Fits -/
def train_Fits_B0 : CCode :=
 (.seq
 (.ops [
 (sP 63 (.bin .lss .ifc) [.t 62, .t 61])])
 (.seq
 (.cond (.t 63)
 .skip
 (.exit 0))
 (.seq
 (.block 1 (some [0, 6, 60, 61, 62])
 (.seq
 (.ops [
 (sP 64 (.iaddr 1) [.t 60, .t 62]),
 (sH 65 (.load false 1) [.t 64]),
 (sH 8 (.newh [(.int .i64 0)]) []),
 (sHn (.store 1) [.t 8, .t 65])])
 (.seq
 (.ops [
 (sM 66 0),
 (sH 67 (.load true 2) [.t 6]),
 (sC 68 76 [.t 66, .t 67]),
 (sM 9 68)])
 (.seq
 (.ops [
 (sM 69 9),
 (sP 70 (.mkfn (.func 78) 0) [.t 8]),
 (sC 71 77 [.t 69, .t 70]),
 (sM 10 71)])
 (.seq
 (.seq
 (.ops [
 (sM 72 10),
 (sP 73 (.bin .lss .ifc) [.t 72, .c (.int .i64 0)])])
 (.cond (.t 73)
 (.seq
 (.ops [
 (sP 4 .mov [.c (.bool false)])])
 (.ret [4]))
 .skip))
 (.ops [
 (sH 74 (.load false 1) [.t 8]),
 (sM 75 9),
 (sM 76 10),
 (sP 77 (.iaddr 2) [.t 75, .t 76]),
 (sP 78 (.faddr 1) [.t 77]),
 (sH 79 (.load false 1) [.t 78]),
 (sP 80 (.bin .sub .ifc) [.c (.int .i64 1), .t 79]),
 (sP 81 (.bld [(.int .i64 0), (.int .i64 0)] [(0, 1), (1, 1)]) [.t 74, .t 80]),
 (sHn (.store 2) [.t 6, .t 81])]))))))
 (.ops [
 (sP 82 (.bin .add .ifc) [.t 62, .c (.int .i64 1)]),
 (sM 62 82)]))))
def train_Fits_L0 : CCode := .bloop 0 [0, 6, 60, 61, 62] [] train_Fits_B0
def train_Fits_C : CCode :=
 (.seq
 (.ops [
 (sH 3 (.box 3) [.t 1]),
 (sP 4 .mov [.c (.bool false)])])
 (.seq
 (.ops [
 (sP 11 (.faddr 6) [.t 3]),
 (sH 12 (.load false 1) [.t 11]),
 (sM 5 12)])
 (.seq
 (.seq
 (.ops [
 (sM 13 5),
 (sP 14 .len [.t 13]),
 (sP 15 (.bin .lss .ifc) [.t 14, .c (.int .i64 1)]),
 (sM 16 15),
 (sG (sM 17 5) 16 false),
 (sG (sP 18 .len [.t 17]) 16 false),
 (sG (sP 19 (.bin .gtr .ifc) [.t 18, .c (.int .i64 12)]) 16 false),
 (sP 20 .pick [.t 16, .c (.bool true), .t 19]),
 (sM 21 20),
 (sG (sM 22 0) 21 false),
 (sG (sM 23 5) 21 false),
 (sG (sC 24 75 [.t 22, .t 23]) 21 false),
 (sG (sP 25 (.un .not) [.t 24]) 21 false),
 (sP 26 .pick [.t 21, .c (.bool true), .t 25]),
 (sM 27 26),
 (sG (sP 28 (.faddr 3) [.t 3]) 27 false),
 (sG (sH 29 (.load false 1) [.t 28]) 27 false),
 (sG (sP 30 (.bin .lss .ifc) [.t 29, .c (.int .i64 0)]) 27 false),
 (sP 31 .pick [.t 27, .c (.bool true), .t 30]),
 (sM 32 31),
 (sG (sP 33 (.faddr 3) [.t 3]) 32 false),
 (sG (sH 34 (.load false 1) [.t 33]) 32 false),
 (sG (sP 35 (.bin .gtr .ifc) [.t 34, .c (.int .i64 1)]) 32 false),
 (sP 36 .pick [.t 32, .c (.bool true), .t 35]),
 (sM 37 36),
 (sG (sP 38 (.faddr 4) [.t 3]) 37 false),
 (sG (sH 39 (.load false 1) [.t 38]) 37 false),
 (sG (sP 40 (.bin .lss .ifc) [.t 39, .c (.int .i64 0)]) 37 false),
 (sP 41 .pick [.t 37, .c (.bool true), .t 40]),
 (sM 42 41),
 (sG (sP 43 (.faddr 4) [.t 3]) 42 false),
 (sG (sH 44 (.load false 1) [.t 43]) 42 false),
 (sG (sM 45 0) 42 false),
 (sG (sM 46 5) 42 false),
 (sG (sP 47 (.iaddr 1) [.t 46, .c (.int .i64 0)]) 42 false),
 (sG (sH 48 (.load false 1) [.t 47]) 42 false),
 (sG (sC 49 67 [.t 45, .t 48]) 42 false),
 (sG (sP 50 (.bin .gtr .ifc) [.t 44, .t 49]) 42 false),
 (sP 51 .pick [.t 42, .c (.bool true), .t 50])])
 (.cond (.t 51)
 (.seq
 (.ops [
 (sP 4 .mov [.c (.bool false)])])
 (.ret [4]))
 .skip))
 (.seq
 (.ops [
 (sM 52 5),
 (sP 53 (.iaddr 1) [.t 52, .c (.int .i64 0)]),
 (sB 54 (.load false 1) [.t 53]),
 (sP 55 (.faddr 3) [.t 3]),
 (sL 56 3 (.load false 1) [.t 55]),
 (sP 57 (.bin .sub .ifc) [.c (.int .i64 1), .t 56]),
 (sP 58 (.bld [(.int .i64 0), (.int .i64 0)] [(0, 1), (1, 1)]) [.t 54, .t 57]),
 (sH 6 (.newl 6 [(.int .i64 0), (.int .i64 0)]) []),
 (sLn 6 (.store 2) [.t 6, .t 58])])
 (.seq
 (.seq
 (.ops [
 (sM 59 5),
 (sP 60 (.slc 1 true false) [.t 59, .c (.int .i64 1)]),
 (sP 61 .len [.t 60]),
 (sP 62 .mov [.c (.int .i64 0)])])
 train_Fits_L0)
 (.seq
 (.ops [
 (sP 4 .mov [.c (.bool true)])])
 (.ret [4])))))))
def train_Fits_I : FInfo := ⟨(.fz false), 2, train_Fits_C, [.tmp 4]⟩
def train_Fits_A : Ann := ⟨[8], [], [(0, [0, 6, 60, 61, 62], [])], [(1, [0, 6, 60, 61, 62])], [3, 6]⟩
abbrev n_train_Fits : Nat := 43

/-! ### balise/train.unlike -/
def train_unlike_B0 : CCode :=
 (.seq
 (.ops [
 (sP 10 (.bin .lss .ifc) [.t 9, .t 8])])
 (.seq
 (.cond (.t 10)
 .skip
 (.exit 0))
 (.seq
 (.block 1 (some [0, 1, 7, 8, 9])
 (.seq
 (.ops [
 (sM 11 9),
 (sP 12 (.iaddr 1) [.t 7, .t 9]),
 (sH 13 (.load false 1) [.t 12]),
 (sM 5 11),
 (sM 6 13)])
 (.seq
 (.ops [
 (sM 14 0),
 (sM 15 6),
 (sC 16 67 [.t 14, .t 15]),
 (sP 17 (.bin .eql .int) [.t 16, .c (.int .i64 0)]),
 (sM 18 17),
 (sG (sM 19 1) 18 false),
 (sG (sM 20 5) 18 false),
 (sG (sP 21 (.slc 1 false true) [.t 19, .t 20]) 18 false),
 (sG (sM 22 6) 18 false),
 (sG (sC 23 59 [.t 21, .t 22]) 18 false),
 (sP 24 .pick [.t 18, .c (.bool true), .t 23])])
 (.cond (.t 24)
 (.seq
 (.ops [
 (sP 4 .mov [.c (.bool false)])])
 (.ret [4]))
 .skip))))
 (.ops [
 (sP 25 (.bin .add .ifc) [.t 9, .c (.int .i64 1)]),
 (sM 9 25)]))))
def train_unlike_L0 : CCode := .bloop 0 [0, 1, 7, 8, 9] [] train_unlike_B0
def train_unlike_C : CCode :=
 (.seq
 (.ops [
 (sP 4 .mov [.c (.bool false)])])
 (.seq
 (.seq
 (.ops [
 (sM 7 1),
 (sP 8 .len [.t 7]),
 (sP 9 .mov [.c (.int .i64 0)])])
 train_unlike_L0)
 (.seq
 (.ops [
 (sP 4 .mov [.c (.bool true)])])
 (.ret [4]))))
def train_unlike_I : FInfo := ⟨(.fz false), 2, train_unlike_C, [.tmp 4]⟩
def train_unlike_A : Ann := ⟨[], [], [(0, [0, 1, 7, 8, 9], [])], [(1, [0, 1, 7, 8, 9])], []⟩
abbrev n_train_unlike : Nat := 75

/-! ### balise/train.Fits$1 -/
def train_Fits_1_C : CCode :=
 (.seq
 (.ops [
 (sH 2 (.box 2) [.t 0]),
 (sP 3 .mov [.c (.bool false)])])
 (.seq
 (.ops [
 (sP 4 (.faddr 0) [.t 2]),
 (sH 5 (.load false 1) [.t 4]),
 (sH 6 (.load false 1) [.t 1]),
 (sP 7 (.bin .eql .int) [.t 5, .t 6]),
 (sM 3 7)])
 (.ret [3])))
def train_Fits_1_I : FInfo := ⟨(.fz false), 2, train_Fits_1_C, [.tmp 3]⟩
def train_Fits_1_A : Ann := ⟨[], [], [], [], [2]⟩
abbrev n_train_Fits_1 : Nat := 78

/-! ### balise/baliseref04.Small -/
def r04_Small_B0 : CCode :=
 (.seq
 (.seq
 (.ops [
 (sM 4 3),
 (sP 5 (.faddr 8) [.t 1]),
 (sH 6 (.load false 1) [.t 5]),
 (sP 7 .len [.t 6]),
 (sP 8 (.bin .lss .ifc) [.t 4, .t 7])])
 (.cond (.t 8)
 .skip
 (.exit 0)))
 (.seq
 (.block 1 (some [1, 3])
 (.seq
 (.ops [
 (sP 11 (.faddr 8) [.t 1]),
 (sH 12 (.load false 1) [.t 11]),
 (sM 13 3),
 (sP 14 (.iaddr 1) [.t 12, .t 13]),
 (sH 15 (.load false 1) [.t 14]),
 (sP 16 .len [.t 15]),
 (sP 17 (.bin .gtr .ifc) [.t 16, .c (.int .i64 10)])])
 (.cond (.t 17)
 (.seq
 (.ops [
 (sP 2 .mov [.c (.bool false)])])
 (.ret [2]))
 .skip)))
 (.ops [
 (sM 9 3),
 (sP 10 (.bin .add .ifc) [.t 9, .c (.int .i64 1)]),
 (sM 3 10)])))
def r04_Small_L0 : CCode := .bloop 0 [1, 3] [1] r04_Small_B0
def r04_Small_C : CCode :=
 (.seq
 (.ops [
 (sH 1 (.box 1) [.t 0]),
 (sP 2 .mov [.c (.bool false)])])
 (.seq
 (.seq
 (.ops [
 (sP 3 .mov [.c (.int .i64 0)])])
 r04_Small_L0)
 (.seq
 (.ops [
 (sP 18 (.faddr 8) [.t 1]),
 (sH 19 (.load false 1) [.t 18]),
 (sP 20 .len [.t 19]),
 (sP 21 (.bin .leq .ifc) [.t 20, .c (.int .i64 20)]),
 (sM 2 21)])
 (.ret [2]))))
def r04_Small_I : FInfo := ⟨(.fz false), 1, r04_Small_C, [.tmp 2]⟩
def r04_Small_A : Ann := ⟨[], [], [(0, [1, 3], [1])], [(1, [1, 3])], [1]⟩
abbrev n_r04_Small : Nat := 25

/-! ### balise/baliseref05.Full -/
def r05_Full_B0 : CCode :=
 (.seq
 (.seq
 (.ops [
 (sM 9 4),
 (sP 10 (.faddr 8) [.t 1]),
 (sH 11 (.load false 1) [.t 10]),
 (sP 12 .len [.t 11]),
 (sP 13 (.bin .lss .ifc) [.t 9, .t 12]),
 (sM 14 13),
 (sG (sP 15 (.faddr 4) [.t 3]) 14 true),
 (sG (sH 16 (.load false 1) [.t 15]) 14 true),
 (sG (sP 17 .len [.t 16]) 14 true),
 (sG (sP 18 (.bin .lss .ifc) [.t 17, .c (.int .i64 16)]) 14 true),
 (sP 19 .pick [.t 14, .t 18, .c (.bool false)])])
 (.cond (.t 19)
 .skip
 (.exit 0)))
 (.seq
 (.block 1 (some [1, 2, 3, 4])
 (.seq
 (.ops [
 (sP 22 (.faddr 8) [.t 1]),
 (sH 23 (.load false 1) [.t 22]),
 (sM 24 4),
 (sP 25 (.iaddr 1) [.t 23, .t 24]),
 (sH 26 (.load false 1) [.t 25]),
 (sM 5 26)])
 (.seq
 (.seq
 (.ops [
 (sM 27 5),
 (sP 28 .len [.t 27]),
 (sP 29 (.bin .lss .ifc) [.t 28, .c (.int .i64 2)])])
 (.cond (.t 29)
 (.exit 1)
 .skip))
 (.seq
 (.ops [
 (sH 30 (.load true 10) [.t 3]),
 (sM 31 5),
 (sP 32 (.iaddr 1) [.t 31, .c (.int .i64 0)]),
 (sH 33 (.load false 1) [.t 32]),
 (sP 34 (.toInt .i64) [.t 33]),
 (sP 35 (.faddr 1) [.t 3]),
 (sH 36 (.load false 1) [.t 35]),
 (sP 37 .len [.t 36]),
 (sP 38 (.bin .rem .ifc) [.t 34, .t 37]),
 (sM 39 5),
 (sP 40 (.iaddr 1) [.t 39, .c (.int .i64 0)]),
 (sH 41 (.load false 1) [.t 40]),
 (sP 42 (.bin .quo .ifc) [.t 41, .c (.int .u8 128)]),
 (sP 43 (.toInt .i64) [.t 42]),
 (sM 44 5),
 (sP 45 (.slc 1 true false) [.t 44, .c (.int .i64 2)]),
 (sM 46 5),
 (sP 47 (.iaddr 1) [.t 46, .c (.int .i64 1)]),
 (sH 48 (.load false 1) [.t 47]),
 (sP 49 (.bin .rem .ifc) [.t 48, .c (.int .u8 5)]),
 (sP 50 (.toInt .i64) [.t 49]),
 (sP 51 (.bin .add .ifc) [.c (.int .i64 2), .t 50]),
 (sC 52 48 [.t 30, .t 38, .t 43, .t 45, .t 51]),
 (sM 6 52)])
 (.seq
 (.ops [
 (sM 53 6),
 (sP 54 .len [.t 53]),
 (sP 55 (.bin .geq .ifc) [.t 54, .c (.int .i64 2)])])
 (.cond (.t 55)
 (.ops [
 (sP 56 (.faddr 4) [.t 3]),
 (sH 57 (.load false 1) [.t 56]),
 (sM 58 6),
 (sH 59 (.bslF 1 1 [.nils] [(0, 1)]) [.t 58]),
 (sH 60 (.app 1 24 [.nils]) [.t 57, .t 59]),
 (sP 61 (.faddr 4) [.t 3]),
 (sHn (.store 1) [.t 61, .t 60])])
 .skip))))))
 (.ops [
 (sM 20 4),
 (sP 21 (.bin .add .ifc) [.t 20, .c (.int .i64 1)]),
 (sM 4 21)])))
def r05_Full_L0 : CCode := .bloop 0 [1, 2, 3, 4] [2, 3] r05_Full_B0
def r05_Full_C : CCode :=
 (.seq
 (.ops [
 (sH 1 (.box 1) [.t 0]),
 (sH 2 (.newl 2 [.nils, .nils, .nils, .nils, .nils, (.int .i64 0), (.int .i64 0), (.int .i64 0), (.int .i64 0), (.int .i64 0)]) [])])
 (.seq
 (.ops [
 (sH 7 (.load true 9) [.t 1]),
 (sC 8 47 [.t 7]),
 (sH 3 (.newl 3 [.nils, .nils, .nils, .nils, .nils, (.int .i64 0), (.int .i64 0), (.int .i64 0), (.int .i64 0), (.int .i64 0)]) []),
 (sHn (.store 10) [.t 3, .t 8])])
 (.seq
 (.seq
 (.ops [
 (sP 4 .mov [.c (.int .i64 0)])])
 r05_Full_L0)
 (.seq
 (.ops [
 (sH 62 (.load true 10) [.t 3]),
 (sHn (.store 10) [.t 2, .t 62])])
 (.ret [2])))))
def r05_Full_I : FInfo := ⟨(.fz false), 1, r05_Full_C, [.cell 2 true 10]⟩
def r05_Full_A : Ann := ⟨[], [], [(0, [1, 2, 3, 4], [2, 3])], [(1, [1, 2, 3, 4])], [1, 2, 3]⟩
abbrev n_r05_Full : Nat := 26

/-! ### balise/baliseref04.Make -/
def r04_Make_B1 : CCode :=
 (.seq
 (.seq
 (.ops [
 (sM 67 9),
 (sM 68 8),
 (sP 69 (.bin .leq .ifc) [.t 67, .t 68])])
 (.cond (.t 69)
 .skip
 (.exit 1)))
 (.seq
 (.block 2 (some [1, 2, 3, 6, 7, 8, 9])
 (.ops [
 (sP 72 (.faddr 0) [.t 6]),
 (sH 73 (.load false 1) [.t 72]),
 (sM 74 3),
 (sM 75 9),
 (sP 76 (.bin .mul .ifc) [.t 74, .t 75]),
 (sP 77 (.toFloat .f64) [.t 76]),
 (sP 78 .cplx [.t 77, .c (.float .f64 0)]),
 (sH 79 (.bslF 1 1 [(.cplx .f64 0 0)] [(0, 1)]) [.t 78]),
 (sH 80 (.app 1 16 [(.cplx .f64 0 0)]) [.t 73, .t 79]),
 (sP 81 (.faddr 0) [.t 6]),
 (sHn (.store 1) [.t 81, .t 80])]))
 (.ops [
 (sM 70 9),
 (sP 71 (.bin .add .ifc) [.t 70, .c (.int .i64 1)]),
 (sM 9 71)])))
def r04_Make_L1 : CCode := .bloop 1 [1, 2, 3, 6, 7, 8, 9] [1, 2, 3, 6, 7, 8] r04_Make_B1

def r04_Make_B3 : CCode :=
 (.seq
 (.seq
 (.ops [
 (sM 82 10),
 (sM 83 8),
 (sP 84 (.bin .lss .ifc) [.t 82, .t 83])])
 (.cond (.t 84)
 .skip
 (.exit 3)))
 (.seq
 (.block 4 (some [1, 2, 3, 6, 7, 8, 10])
 (.ops [
 (sM 87 7),
 (sM 88 10),
 (sM 89 10),
 (sP 90 (.bin .add .ifc) [.t 89, .c (.int .i64 1)]),
 (sP 91 (.bld [(.int .i64 0), (.int .i64 0)] [(0, 1), (1, 1)]) [.t 88, .t 90]),
 (sH 92 (.bslF 2 1 [(.int .i64 0), (.int .i64 0)] [(0, 2)]) [.t 91]),
 (sH 93 (.app 2 16 [(.int .i64 0), (.int .i64 0)]) [.t 87, .t 92]),
 (sM 7 93)]))
 (.ops [
 (sM 85 10),
 (sP 86 (.bin .add .ifc) [.t 85, .c (.int .i64 1)]),
 (sM 10 86)])))
def r04_Make_L3 : CCode := .bloop 3 [1, 2, 3, 6, 7, 8, 10] [1, 2, 3, 6, 7] r04_Make_B3

def r04_Make_B5 : CCode :=
 (.seq
 (.seq
 (.ops [
 (sM 150 11),
 (sM 151 7),
 (sP 152 .len [.t 151]),
 (sP 153 (.bin .lss .ifc) [.t 150, .t 152])])
 (.cond (.t 153)
 .skip
 (.exit 5)))
 (.seq
 (.block 6 (some [1, 2, 3, 6, 7, 11])
 (.ops [
 (sP 156 (.faddr 1) [.t 6]),
 (sH 157 (.load false 1) [.t 156]),
 (sM 158 3),
 (sP 159 (.bin .mul .ifc) [.c (.int .i64 2), .t 158]),
 (sM 160 11),
 (sP 161 (.bin .rem .ifc) [.t 160, .c (.int .i64 3)]),
 (sP 162 (.bin .add .ifc) [.t 159, .t 161]),
 (sM 163 7),
 (sM 164 11),
 (sP 165 (.iaddr 2) [.t 163, .t 164]),
 (sP 166 (.iaddrA 2 1) [.t 165, .c (.int .i64 0)]),
 (sH 167 (.load false 1) [.t 166]),
 (sM 168 7),
 (sM 169 11),
 (sP 170 (.iaddr 2) [.t 168, .t 169]),
 (sP 171 (.iaddrA 2 1) [.t 170, .c (.int .i64 1)]),
 (sH 172 (.load false 1) [.t 171]),
 (sP 173 (.bld [(.int .i64 0), (.int .i64 0), (.int .i64 0)] [(0, 1), (1, 1), (2, 1)]) [.t 162, .t 167, .t 172]),
 (sH 174 (.bslF 3 1 [(.int .i64 0), (.int .i64 0), (.int .i64 0)] [(0, 3)]) [.t 173]),
 (sH 175 (.app 3 24 [(.int .i64 0), (.int .i64 0), (.int .i64 0)]) [.t 157, .t 174]),
 (sP 176 (.faddr 1) [.t 6]),
 (sHn (.store 1) [.t 176, .t 175])]))
 (.ops [
 (sM 154 11),
 (sP 155 (.bin .add .ifc) [.t 154, .c (.int .i64 1)]),
 (sM 11 155)])))
def r04_Make_L5 : CCode := .bloop 5 [1, 2, 3, 6, 7, 11] [1, 2, 3, 6, 7] r04_Make_B5

def r04_Make_B7 : CCode :=
 (.seq
 (.seq
 (.ops [
 (sM 177 12),
 (sM 178 7),
 (sP 179 .len [.t 178]),
 (sP 180 (.bin .lss .ifc) [.t 177, .t 179])])
 (.cond (.t 180)
 .skip
 (.exit 7)))
 (.seq
 (.block 8 (some [1, 2, 3, 6, 7, 12])
 (.seq
 (.ops [
 (sM 183 12),
 (sP 184 (.bin .gtr .ifc) [.t 183, .c (.int .i64 0)]),
 (sM 185 184),
 (sG (sP 186 (.faddr 7) [.t 1]) 185 true),
 (sG (sH 187 (.load false 1) [.t 186]) 185 true),
 (sG (sM 188 12) 185 true),
 (sG (sP 189 (.bin .rem .ifc) [.t 188, .c (.int .i64 8)]) 185 true),
 (sG (sP 190 (.bin .shr .ifc) [.t 187, .t 189]) 185 true),
 (sG (sP 191 (.bin .rem .ifc) [.t 190, .c (.int .u8 2)]) 185 true),
 (sG (sP 192 (.bin .eql .int) [.t 191, .c (.int .u8 1)]) 185 true),
 (sP 193 .pick [.t 185, .t 192, .c (.bool false)])])
 (.cond (.t 193)
 (.ops [
 (sP 194 (.faddr 2) [.t 6]),
 (sL 195 6 (.load false 1) [.t 194]),
 (sP 196 (.faddr 2) [.t 6]),
 (sL 197 6 (.load false 1) [.t 196]),
 (sP 198 .len [.t 197]),
 (sP 199 (.bin .sub .ifc) [.t 198, .c (.int .i64 1)]),
 (sP 200 (.faddr 2) [.t 6]),
 (sL 201 6 (.load false 1) [.t 200]),
 (sP 202 (.faddr 2) [.t 6]),
 (sL 203 6 (.load false 1) [.t 202]),
 (sP 204 .len [.t 203]),
 (sP 205 (.bin .sub .ifc) [.t 204, .c (.int .i64 1)]),
 (sP 206 (.iaddr 1) [.t 201, .t 205]),
 (sB 207 (.load false 1) [.t 206]),
 (sM 208 12),
 (sH 209 (.bslF 1 1 [(.int .i64 0)] [(0, 1)]) [.t 208]),
 (sB 210 (.app 1 8 [(.int .i64 0)]) [.t 207, .t 209]),
 (sP 211 (.iaddr 1) [.t 195, .t 199]),
 (sBn (.store 1) [.t 211, .t 210])])
 (.ops [
 (sP 212 (.faddr 2) [.t 6]),
 (sH 213 (.load false 1) [.t 212]),
 (sM 214 12),
 (sH 215 (.bslO 1 1 [(.int .i64 0)] [(0, 1)]) [.t 214]),
 (sH 216 (.bslO 1 1 [.nils] [(0, 1)]) [.t 215]),
 (sH 217 (.app 1 24 [.nils]) [.t 213, .t 216]),
 (sP 218 (.faddr 2) [.t 6]),
 (sHn (.store 1) [.t 218, .t 217])]))))
 (.ops [
 (sM 181 12),
 (sP 182 (.bin .add .ifc) [.t 181, .c (.int .i64 1)]),
 (sM 12 182)])))
def r04_Make_L7 : CCode := .bloop 7 [1, 2, 3, 6, 7, 12] [1, 2, 3, 6] r04_Make_B7
def r04_Make_C : CCode :=
 (.seq
 (.ops [
 (sH 1 (.box 1) [.t 0]),
 (sH 2 (.newl 2 [.nils, .nils, .nils, .nils, .nils, (.int .i64 0), (.int .i64 0), (.int .i64 0), (.int .i64 0), (.int .i64 0)]) [])])
 (.seq
 (.ops [
 (sP 13 (.faddr 1) [.t 1]),
 (sH 14 (.load false 1) [.t 13]),
 (sP 15 (.bin .rem .ifc) [.t 14, .c (.int .u8 20)]),
 (sP 16 (.toInt .i64) [.t 15]),
 (sP 17 (.bin .add .ifc) [.c (.int .i64 1), .t 16]),
 (sP 18 (.bin .mul .ifc) [.c (.int .i64 10), .t 17]),
 (sM 3 18)])
 (.seq
 (.ops [
 (sM 19 3),
 (sP 20 (.toFloat .f64) [.t 19]),
 (sP 21 .cplx [.t 20, .c (.float .f64 0)]),
 (sM 4 21)])
 (.seq
 (.ops [
 (sM 22 3),
 (sP 23 (.toFloat .f64) [.t 22]),
 (sP 24 .cplx [.c (.float .f64 0), .t 23]),
 (sM 5 24)])
 (.seq
 (.ops [
 (sH 6 (.newl 6 [.nils, .nils, .nils, .nils, .nils, (.int .i64 0), (.int .i64 0), (.int .i64 0), (.int .i64 0), (.int .i64 0)]) [])])
 (.seq
 (.ops [
 (sP 7 .mov [.c .nils])])
 (.seq
 (.seq
 (.ops [
 (sP 25 (.faddr 0) [.t 1]),
 (sH 26 (.load false 1) [.t 25]),
 (sP 27 (.bin .rem .ifc) [.t 26, .c (.int .u8 4)])])
 (.block 0 (some [1, 2, 3, 6, 7])
 (.seq
 (.ops [
 (sP 60 (.bin .eql .int) [.t 27, .c (.int .u8 0)]),
 (sM 59 60)])
 (.cond (.t 59)
 (.seq
 (.ops [
 (sP 61 (.faddr 0) [.t 1]),
 (sH 62 (.load false 1) [.t 61]),
 (sP 63 (.bin .quo .ifc) [.t 62, .c (.int .u8 4)]),
 (sP 64 (.bin .rem .ifc) [.t 63, .c (.int .u8 6)]),
 (sP 65 (.toInt .i64) [.t 64]),
 (sP 66 (.bin .add .ifc) [.c (.int .i64 3), .t 65]),
 (sM 8 66)])
 (.seq
 (.seq
 (.ops [
 (sP 9 .mov [.c (.int .i64 0)])])
 r04_Make_L1)
 (.seq
 (.ops [
 (sP 10 .mov [.c (.int .i64 0)])])
 r04_Make_L3)))
 (.seq
 (.ops [
 (sP 95 (.bin .eql .int) [.t 27, .c (.int .u8 1)]),
 (sM 94 95)])
 (.cond (.t 94)
 (.seq
 (.ops [
 (sM 96 4),
 (sM 97 4),
 (sP 98 (.bin .mul .ifc) [.c (.cplx .f64 4611686018427387904 0), .t 97]),
 (sM 99 5),
 (sP 100 (.bin .add .ifc) [.t 98, .t 99]),
 (sM 101 4),
 (sP 102 (.bin .mul .ifc) [.c (.cplx .f64 4611686018427387904 0), .t 101]),
 (sM 103 5),
 (sP 104 (.bin .sub .ifc) [.t 102, .t 103]),
 (sH 105 (.bslF 1 4 [(.cplx .f64 0 0)] [(0, 1), (1, 1), (2, 1), (3, 1)]) [.c (.cplx .f64 0 0), .t 96, .t 100, .t 104]),
 (sP 106 (.faddr 0) [.t 6]),
 (sHn (.store 1) [.t 106, .t 105])])
 (.seq
 (.ops [
 (sP 107 (.bld [(.int .i64 0), (.int .i64 0)] [(0, 1), (1, 1)]) [.c (.int .i64 0), .c (.int .i64 1)]),
 (sP 108 (.bld [(.int .i64 0), (.int .i64 0)] [(0, 1), (1, 1)]) [.c (.int .i64 1), .c (.int .i64 2)]),
 (sP 109 (.bld [(.int .i64 0), (.int .i64 0)] [(0, 1), (1, 1)]) [.c (.int .i64 3), .c (.int .i64 1)]),
 (sH 110 (.bslO 2 3 [(.int .i64 0), (.int .i64 0)] [(0, 2), (2, 2), (4, 2)]) [.t 107, .t 108, .t 109]),
 (sM 7 110)])
 (.ops [
 (sP 111 (.bld [(.int .i64 0), (.int .i64 0), (.int .i64 0), (.int .i64 0)] [(0, 1), (1, 1), (2, 1), (3, 1)]) [.c (.int .i64 1), .c (.int .i64 0), .c (.int .i64 1), .c (.int .i64 2)]),
 (sH 112 (.bslF 4 1 [(.int .i64 0), (.int .i64 0), (.int .i64 0), (.int .i64 0)] [(0, 4)]) [.t 111]),
 (sP 113 (.faddr 3) [.t 6]),
 (sHn (.store 1) [.t 113, .t 112])])))
 (.seq
 (.ops [
 (sP 115 (.bin .eql .int) [.t 27, .c (.int .u8 2)]),
 (sM 114 115)])
 (.cond (.t 114)
 (.seq
 (.ops [
 (sM 116 4),
 (sM 117 4),
 (sP 118 (.bin .mul .ifc) [.c (.cplx .f64 4611686018427387904 0), .t 117]),
 (sM 119 4),
 (sP 120 (.bin .mul .ifc) [.c (.cplx .f64 4613937818241073152 0), .t 119]),
 (sM 121 5),
 (sP 122 (.bin .quo .ifc) [.t 121, .c (.cplx .f64 4611686018427387904 0)]),
 (sP 123 (.bin .add .ifc) [.t 120, .t 122]),
 (sM 124 4),
 (sP 125 (.bin .mul .ifc) [.c (.cplx .f64 4613937818241073152 0), .t 124]),
 (sM 126 5),
 (sP 127 (.bin .quo .ifc) [.t 126, .c (.cplx .f64 4611686018427387904 0)]),
 (sP 128 (.bin .sub .ifc) [.t 125, .t 127]),
 (sM 129 4),
 (sP 130 (.bin .mul .ifc) [.c (.cplx .f64 4616189618054758400 0), .t 129]),
 (sM 131 4),
 (sP 132 (.bin .mul .ifc) [.c (.cplx .f64 4617315517961601024 0), .t 131]),
 (sM 133 4),
 (sP 134 (.bin .mul .ifc) [.c (.cplx .f64 4618441417868443648 0), .t 133]),
 (sH 135 (.bslF 1 8 [(.cplx .f64 0 0)] [(0, 1), (1, 1), (2, 1), (3, 1), (4, 1), (5, 1), (6, 1), (7, 1)]) [.c (.cplx .f64 0 0), .t 116, .t 118, .t 123, .t 128, .t 130, .t 132, .t 134]),
 (sP 136 (.faddr 0) [.t 6]),
 (sHn (.store 1) [.t 136, .t 135])])
 (.seq
 (.ops [
 (sP 137 (.bld [(.int .i64 0), (.int .i64 0)] [(0, 1), (1, 1)]) [.c (.int .i64 0), .c (.int .i64 1)]),
 (sP 138 (.bld [(.int .i64 0), (.int .i64 0)] [(0, 1), (1, 1)]) [.c (.int .i64 1), .c (.int .i64 2)]),
 (sP 139 (.bld [(.int .i64 0), (.int .i64 0)] [(0, 1), (1, 1)]) [.c (.int .i64 2), .c (.int .i64 3)]),
 (sP 140 (.bld [(.int .i64 0), (.int .i64 0)] [(0, 1), (1, 1)]) [.c (.int .i64 2), .c (.int .i64 4)]),
 (sP 141 (.bld [(.int .i64 0), (.int .i64 0)] [(0, 1), (1, 1)]) [.c (.int .i64 5), .c (.int .i64 3)]),
 (sP 142 (.bld [(.int .i64 0), (.int .i64 0)] [(0, 1), (1, 1)]) [.c (.int .i64 4), .c (.int .i64 5)]),
 (sP 143 (.bld [(.int .i64 0), (.int .i64 0)] [(0, 1), (1, 1)]) [.c (.int .i64 5), .c (.int .i64 6)]),
 (sP 144 (.bld [(.int .i64 0), (.int .i64 0)] [(0, 1), (1, 1)]) [.c (.int .i64 6), .c (.int .i64 7)]),
 (sH 145 (.bslO 2 8 [(.int .i64 0), (.int .i64 0)] [(0, 2), (2, 2), (4, 2), (6, 2), (8, 2), (10, 2), (12, 2), (14, 2)]) [.t 137, .t 138, .t 139, .t 140, .t 141, .t 142, .t 143, .t 144]),
 (sM 7 145)])
 (.ops [
 (sP 146 (.bld [(.int .i64 0), (.int .i64 0), (.int .i64 0), (.int .i64 0)] [(0, 1), (1, 1), (2, 1), (3, 1)]) [.c (.int .i64 2), .c (.int .i64 1), .c (.int .i64 2), .c (.int .i64 3)]),
 (sP 147 (.bld [(.int .i64 0), (.int .i64 0), (.int .i64 0), (.int .i64 0)] [(0, 1), (1, 1), (2, 1), (3, 1)]) [.c (.int .i64 5), .c (.int .i64 6), .c (.int .i64 4), .c (.int .i64 5)]),
 (sH 148 (.bslF 4 2 [(.int .i64 0), (.int .i64 0), (.int .i64 0), (.int .i64 0)] [(0, 4), (4, 4)]) [.t 146, .t 147]),
 (sP 149 (.faddr 3) [.t 6]),
 (sHn (.store 1) [.t 149, .t 148])])))
 (.seq
 (.ops [
 (sM 28 4),
 (sM 29 4),
 (sP 30 (.bin .mul .ifc) [.c (.cplx .f64 4611686018427387904 0), .t 29]),
 (sM 31 4),
 (sP 32 (.bin .mul .ifc) [.c (.cplx .f64 4613937818241073152 0), .t 31]),
 (sM 33 5),
 (sP 34 (.bin .add .ifc) [.t 32, .t 33]),
 (sM 35 4),
 (sP 36 (.bin .mul .ifc) [.c (.cplx .f64 4613937818241073152 0), .t 35]),
 (sM 37 5),
 (sP 38 (.bin .sub .ifc) [.t 36, .t 37]),
 (sM 39 4),
 (sP 40 (.bin .mul .ifc) [.c (.cplx .f64 4616189618054758400 0), .t 39]),
 (sM 41 5),
 (sP 42 (.bin .add .ifc) [.t 40, .t 41]),
 (sM 43 4),
 (sP 44 (.bin .mul .ifc) [.c (.cplx .f64 4616189618054758400 0), .t 43]),
 (sM 45 5),
 (sP 46 (.bin .sub .ifc) [.t 44, .t 45]),
 (sH 47 (.bslF 1 7 [(.cplx .f64 0 0)] [(0, 1), (1, 1), (2, 1), (3, 1), (4, 1), (5, 1), (6, 1)]) [.c (.cplx .f64 0 0), .t 28, .t 30, .t 34, .t 38, .t 42, .t 46]),
 (sP 48 (.faddr 0) [.t 6]),
 (sHn (.store 1) [.t 48, .t 47])])
 (.seq
 (.ops [
 (sP 49 (.bld [(.int .i64 0), (.int .i64 0)] [(0, 1), (1, 1)]) [.c (.int .i64 0), .c (.int .i64 1)]),
 (sP 50 (.bld [(.int .i64 0), (.int .i64 0)] [(0, 1), (1, 1)]) [.c (.int .i64 2), .c (.int .i64 1)]),
 (sP 51 (.bld [(.int .i64 0), (.int .i64 0)] [(0, 1), (1, 1)]) [.c (.int .i64 2), .c (.int .i64 3)]),
 (sP 52 (.bld [(.int .i64 0), (.int .i64 0)] [(0, 1), (1, 1)]) [.c (.int .i64 2), .c (.int .i64 4)]),
 (sP 53 (.bld [(.int .i64 0), (.int .i64 0)] [(0, 1), (1, 1)]) [.c (.int .i64 3), .c (.int .i64 5)]),
 (sP 54 (.bld [(.int .i64 0), (.int .i64 0)] [(0, 1), (1, 1)]) [.c (.int .i64 4), .c (.int .i64 6)]),
 (sH 55 (.bslO 2 6 [(.int .i64 0), (.int .i64 0)] [(0, 2), (2, 2), (4, 2), (6, 2), (8, 2), (10, 2)]) [.t 49, .t 50, .t 51, .t 52, .t 53, .t 54]),
 (sM 7 55)])
 (.ops [
 (sP 56 (.bld [(.int .i64 0), (.int .i64 0), (.int .i64 0), (.int .i64 0)] [(0, 1), (1, 1), (2, 1), (3, 1)]) [.c (.int .i64 2), .c (.int .i64 1), .c (.int .i64 3), .c (.int .i64 2)]),
 (sH 57 (.bslF 4 1 [(.int .i64 0), (.int .i64 0), (.int .i64 0), (.int .i64 0)] [(0, 4)]) [.t 56]),
 (sP 58 (.faddr 3) [.t 6]),
 (sHn (.store 1) [.t 58, .t 57])])))))))))))
 (.seq
 (.seq
 (.ops [
 (sP 11 .mov [.c (.int .i64 0)])])
 r04_Make_L5)
 (.seq
 (.seq
 (.ops [
 (sP 12 .mov [.c (.int .i64 0)])])
 r04_Make_L7)
 (.seq
 (.ops [
 (sP 219 (.faddr 2) [.t 1]),
 (sH 220 (.load false 1) [.t 219]),
 (sP 221 (.toInt .i64) [.t 220]),
 (sM 222 3),
 (sP 223 (.bin .mul .ifc) [.c (.int .i64 2), .t 222]),
 (sP 224 (.bin .rem .ifc) [.t 221, .t 223]),
 (sP 225 (.bin .add .ifc) [.c (.int .i64 1), .t 224]),
 (sP 226 (.faddr 5) [.t 6]),
 (sHn (.store 1) [.t 226, .t 225])])
 (.seq
 (.ops [
 (sP 227 (.faddr 3) [.t 1]),
 (sL 228 1 (.load false 1) [.t 227]),
 (sP 229 (.bin .rem .ifc) [.t 228, .c (.int .u16 1000)]),
 (sP 230 (.toInt .i64) [.t 229]),
 (sP 231 (.bin .add .ifc) [.c (.int .i64 1), .t 230]),
 (sP 232 (.faddr 4) [.t 1]),
 (sL 233 1 (.load false 1) [.t 232]),
 (sP 234 (.bin .rem .ifc) [.t 233, .c (.int .u16 1000)]),
 (sP 235 (.toInt .i64) [.t 234]),
 (sP 236 (.bin .add .ifc) [.c (.int .i64 1), .t 235]),
 (sP 237 (.faddr 5) [.t 1]),
 (sL 238 1 (.load false 1) [.t 237]),
 (sP 239 (.toInt .i64) [.t 238]),
 (sP 240 (.bin .add .ifc) [.c (.int .i64 1), .t 239]),
 (sP 241 (.faddr 6) [.t 1]),
 (sL 242 1 (.load false 1) [.t 241]),
 (sP 243 (.bin .rem .ifc) [.t 242, .c (.int .u8 4)]),
 (sP 244 (.toInt .i64) [.t 243]),
 (sP 245 (.faddr 6) [.t 6]),
 (sLn 6 (.store 1) [.t 245, .t 231]),
 (sP 246 (.faddr 7) [.t 6]),
 (sLn 6 (.store 1) [.t 246, .t 236]),
 (sP 247 (.faddr 8) [.t 6]),
 (sLn 6 (.store 1) [.t 247, .t 240]),
 (sP 248 (.faddr 9) [.t 6]),
 (sLn 6 (.store 1) [.t 248, .t 244])])
 (.seq
 (.ops [
 (sH 249 (.load true 10) [.t 6]),
 (sHn (.store 10) [.t 2, .t 249])])
 (.ret [2])))))))))))))
def r04_Make_I : FInfo := ⟨(.fz true), 1, r04_Make_C, [.cell 2 true 10]⟩
def r04_Make_A : Ann := ⟨[], [55, 110, 145, 215, 216], [(1, [1, 2, 3, 6, 7, 8, 9], [1, 2, 3, 6, 7, 8]), (3, [1, 2, 3, 6, 7, 8, 10], [1, 2, 3, 6, 7]), (5, [1, 2, 3, 6, 7, 11], [1, 2, 3, 6, 7]), (7, [1, 2, 3, 6, 7, 12], [1, 2, 3, 6])], [(0, [1, 2, 3, 6, 7]), (2, [1, 2, 3, 6, 7, 8, 9]), (4, [1, 2, 3, 6, 7, 8, 10]), (6, [1, 2, 3, 6, 7, 11]), (8, [1, 2, 3, 6, 7, 12])], [1, 2, 6]⟩
abbrev n_r04_Make : Nat := 47

/-! ### balise/baliseref05.Walk -/
def r05_Walk_B0 : CCode :=
 (.seq
 (.seq
 (.ops [
 (sM 21 11),
 (sP 22 .len [.t 21]),
 (sM 23 4),
 (sP 24 (.bin .lss .ifc) [.t 22, .t 23])])
 (.cond (.t 24)
 .skip
 (.exit 0)))
 (.seq
 (.block 1 (some [3, 4, 5, 11, 12, 13])
 (.seq
 (.ops [
 (sH 27 (.load true 10) [.t 5]),
 (sH 28 (.load true 2) [.t 12]),
 (sC 29 79 [.t 27, .t 28]),
 (sM 14 29)])
 (.seq
 (.seq
 (.ops [
 (sM 30 14),
 (sP 31 .len [.t 30]),
 (sP 32 (.bin .eql .int) [.t 31, .c (.int .i64 0)])])
 (.cond (.t 32)
 (.seq
 (.ops [
 (sM 33 11),
 (sM 10 33)])
 (.ret [10]))
 .skip))
 (.seq
 (.ops [
 (sP 15 .mov [.c (.int .i64 0)])])
 (.seq
 (.seq
 (.ops [
 (sM 34 13),
 (sM 35 3),
 (sP 36 .len [.t 35]),
 (sP 37 (.bin .lss .ifc) [.t 34, .t 36])])
 (.cond (.t 37)
 (.ops [
 (sM 38 3),
 (sM 39 13),
 (sP 40 (.iaddr 1) [.t 38, .t 39]),
 (sH 41 (.load false 1) [.t 40]),
 (sP 42 (.toInt .i64) [.t 41]),
 (sM 43 14),
 (sP 44 .len [.t 43]),
 (sP 45 (.bin .rem .ifc) [.t 42, .t 44]),
 (sM 15 45)])
 .skip))
 (.seq
 (.seq
 (.ops [
 (sM 46 11),
 (sM 47 14),
 (sM 48 15),
 (sP 49 (.iaddr 2) [.t 47, .t 48]),
 (sP 50 (.faddr 0) [.t 49]),
 (sH 51 (.load false 1) [.t 50]),
 (sC 52 22 [.t 46, .t 51])])
 (.cond (.t 52)
 (.seq
 (.ops [
 (sM 53 11),
 (sM 10 53)])
 (.ret [10]))
 .skip))
 (.seq
 (.ops [
 (sM 54 11),
 (sM 55 14),
 (sM 56 15),
 (sP 57 (.iaddr 2) [.t 55, .t 56]),
 (sP 58 (.faddr 0) [.t 57]),
 (sH 59 (.load false 1) [.t 58]),
 (sH 60 (.bslF 1 1 [(.int .i64 0)] [(0, 1)]) [.t 59]),
 (sH 61 (.app 1 8 [(.int .i64 0)]) [.t 54, .t 60]),
 (sM 11 61)])
 (.ops [
 (sM 62 14),
 (sM 63 15),
 (sP 64 (.iaddr 2) [.t 62, .t 63]),
 (sP 65 (.faddr 0) [.t 64]),
 (sH 66 (.load false 1) [.t 65]),
 (sM 67 14),
 (sM 68 15),
 (sP 69 (.iaddr 2) [.t 67, .t 68]),
 (sP 70 (.faddr 1) [.t 69]),
 (sH 71 (.load false 1) [.t 70]),
 (sP 72 (.bin .sub .ifc) [.c (.int .i64 1), .t 71]),
 (sP 73 (.bld [(.int .i64 0), (.int .i64 0)] [(0, 1), (1, 1)]) [.t 66, .t 72]),
 (sHn (.store 2) [.t 12, .t 73])]))))))))
 (.ops [
 (sM 25 13),
 (sP 26 (.bin .add .ifc) [.t 25, .c (.int .i64 1)]),
 (sM 13 26)])))
def r05_Walk_L0 : CCode := .bloop 0 [3, 4, 5, 11, 12, 13] [11] r05_Walk_B0
def r05_Walk_C : CCode :=
 (.seq
 (.ops [
 (sH 5 (.box 5) [.t 0]),
 (sP 10 .mov [.c .nils])])
 (.seq
 (.ops [
 (sM 16 1),
 (sH 17 (.bslO 1 1 [(.int .i64 0)] [(0, 1)]) [.t 16]),
 (sM 11 17)])
 (.seq
 (.ops [
 (sM 18 1),
 (sM 19 2),
 (sP 20 (.bld [(.int .i64 0), (.int .i64 0)] [(0, 1), (1, 1)]) [.t 18, .t 19]),
 (sH 12 (.newl 12 [(.int .i64 0), (.int .i64 0)]) []),
 (sHn (.store 2) [.t 12, .t 20])])
 (.seq
 (.seq
 (.ops [
 (sP 13 .mov [.c (.int .i64 0)])])
 r05_Walk_L0)
 (.seq
 (.ops [
 (sM 74 11),
 (sM 10 74)])
 (.ret [10]))))))
def r05_Walk_I : FInfo := ⟨(.fz false), 5, r05_Walk_C, [.tmp 10]⟩
def r05_Walk_A : Ann := ⟨[], [17], [(0, [3, 4, 5, 11, 12, 13], [11])], [(1, [3, 4, 5, 11, 12, 13])], [5, 12]⟩
abbrev n_r05_Walk : Nat := 48

/-! ### balise/baliseref01.Has -/
def r01_Has_B0 : CCode :=
 (.seq
 (.seq
 (.ops [
 (sM 6 5),
 (sM 7 0),
 (sP 8 .len [.t 7]),
 (sP 9 (.bin .lss .ifc) [.t 6, .t 8])])
 (.cond (.t 9)
 .skip
 (.exit 0)))
 (.seq
 (.block 1 (some [0, 1, 5])
 (.seq
 (.ops [
 (sM 12 0),
 (sM 13 5),
 (sP 14 (.iaddr 1) [.t 12, .t 13]),
 (sH 15 (.load false 1) [.t 14]),
 (sM 16 1),
 (sP 17 (.bin .eql .int) [.t 15, .t 16])])
 (.cond (.t 17)
 (.seq
 (.ops [
 (sP 4 .mov [.c (.bool true)])])
 (.ret [4]))
 .skip)))
 (.ops [
 (sM 10 5),
 (sP 11 (.bin .add .ifc) [.t 10, .c (.int .i64 1)]),
 (sM 5 11)])))
def r01_Has_L0 : CCode := .bloop 0 [0, 1, 5] [] r01_Has_B0
def r01_Has_C : CCode :=
 (.seq
 (.ops [
 (sP 4 .mov [.c (.bool false)])])
 (.seq
 (.seq
 (.ops [
 (sP 5 .mov [.c (.int .i64 0)])])
 r01_Has_L0)
 (.seq
 (.ops [
 (sP 4 .mov [.c (.bool false)])])
 (.ret [4]))))
def r01_Has_I : FInfo := ⟨(.fz false), 2, r01_Has_C, [.tmp 4]⟩
def r01_Has_A : Ann := ⟨[], [], [(0, [0, 1, 5], [])], [(1, [0, 1, 5])], []⟩
abbrev n_r01_Has : Nat := 22

/-! ### balise/baliseref01.Ints -/
def r01_Ints_B0 : CCode :=
 (.seq
 (.seq
 (.ops [
 (sM 11 5),
 (sM 12 0),
 (sP 13 .len [.t 12]),
 (sP 14 (.bin .lss .ifc) [.t 11, .t 13])])
 (.cond (.t 14)
 .skip
 (.exit 0)))
 (.seq
 (.block 1 (some [0, 1, 5])
 (.seq
 (.ops [
 (sM 17 0),
 (sM 18 5),
 (sP 19 (.iaddr 1) [.t 17, .t 18]),
 (sH 20 (.load false 1) [.t 19]),
 (sM 21 1),
 (sM 22 5),
 (sP 23 (.iaddr 1) [.t 21, .t 22]),
 (sH 24 (.load false 1) [.t 23]),
 (sP 25 (.bin .neq .int) [.t 20, .t 24])])
 (.cond (.t 25)
 (.seq
 (.ops [
 (sP 4 .mov [.c (.bool false)])])
 (.ret [4]))
 .skip)))
 (.ops [
 (sM 15 5),
 (sP 16 (.bin .add .ifc) [.t 15, .c (.int .i64 1)]),
 (sM 5 16)])))
def r01_Ints_L0 : CCode := .bloop 0 [0, 1, 5] [] r01_Ints_B0
def r01_Ints_C : CCode :=
 (.seq
 (.ops [
 (sP 4 .mov [.c (.bool false)])])
 (.seq
 (.seq
 (.ops [
 (sM 6 0),
 (sP 7 .len [.t 6]),
 (sM 8 1),
 (sP 9 .len [.t 8]),
 (sP 10 (.bin .neq .int) [.t 7, .t 9])])
 (.cond (.t 10)
 (.seq
 (.ops [
 (sP 4 .mov [.c (.bool false)])])
 (.ret [4]))
 .skip))
 (.seq
 (.seq
 (.ops [
 (sP 5 .mov [.c (.int .i64 0)])])
 r01_Ints_L0)
 (.seq
 (.ops [
 (sP 4 .mov [.c (.bool true)])])
 (.ret [4])))))
def r01_Ints_I : FInfo := ⟨(.fz false), 2, r01_Ints_C, [.tmp 4]⟩
def r01_Ints_A : Ann := ⟨[], [], [(0, [0, 1, 5], [])], [(1, [0, 1, 5])], []⟩
abbrev n_r01_Ints : Nat := 36

/-! ### balise/baliseref01.Rise -/
def r01_Rise_B2 : CCode :=
 (.seq
 (.seq
 (.ops [
 (sM 6 5),
 (sM 7 0),
 (sP 8 .len [.t 7]),
 (sP 9 (.bin .lss .ifc) [.t 6, .t 8])])
 (.cond (.t 9)
 .skip
 (.exit 2)))
 (.seq
 (.block 3 (some [0, 3, 4, 5])
 (.seq
 (.ops [
 (sM 12 3),
 (sP 13 .len [.t 12]),
 (sP 14 (.bin .eql .int) [.t 13, .c (.int .i64 0)]),
 (sM 15 14),
 (sG (sM 16 0) 15 false),
 (sG (sM 17 5) 15 false),
 (sG (sP 18 (.iaddr 1) [.t 16, .t 17]) 15 false),
 (sG (sH 19 (.load false 1) [.t 18]) 15 false),
 (sG (sM 20 3) 15 false),
 (sG (sM 21 3) 15 false),
 (sG (sP 22 .len [.t 21]) 15 false),
 (sG (sP 23 (.bin .sub .ifc) [.t 22, .c (.int .i64 1)]) 15 false),
 (sG (sP 24 (.iaddr 1) [.t 20, .t 23]) 15 false),
 (sG (sH 25 (.load false 1) [.t 24]) 15 false),
 (sG (sP 26 (.bin .gtr .ifc) [.t 19, .t 25]) 15 false),
 (sP 27 .pick [.t 15, .c (.bool true), .t 26]),
 (sM 28 27),
 (sG (sM 29 4) 28 true),
 (sG (sP 30 (.bin .lss .ifc) [.t 29, .c (.int .i64 0)]) 28 true),
 (sG (sM 31 30) 28 true),
 (sG (sM 32 0) 31 false),
 (sG (sM 33 5) 31 false),
 (sG (sP 34 (.iaddr 1) [.t 32, .t 33]) 31 false),
 (sG (sH 35 (.load false 1) [.t 34]) 31 false),
 (sG (sM 36 0) 31 false),
 (sG (sM 37 4) 31 false),
 (sG (sP 38 (.iaddr 1) [.t 36, .t 37]) 31 false),
 (sG (sH 39 (.load false 1) [.t 38]) 31 false),
 (sG (sP 40 (.bin .lss .ifc) [.t 35, .t 39]) 31 false),
 (sG (sP 41 .pick [.t 31, .c (.bool true), .t 40]) 28 true),
 (sP 42 .pick [.t 28, .t 41, .c (.bool false)])])
 (.cond (.t 42)
 (.ops [
 (sM 43 5),
 (sM 4 43)])
 .skip)))
 (.ops [
 (sM 10 5),
 (sP 11 (.bin .add .ifc) [.t 10, .c (.int .i64 1)]),
 (sM 5 11)])))
def r01_Rise_L2 : CCode := .bloop 2 [0, 3, 4, 5] [0, 3, 4] r01_Rise_B2

def r01_Rise_B0 : CCode :=
 (.block 1 (some [0, 3])
 (.seq
 (.ops [
 (sP 4 .mov [.c (.int .i64 (-1))])])
 (.seq
 (.seq
 (.ops [
 (sP 5 .mov [.c (.int .i64 0)])])
 r01_Rise_L2)
 (.seq
 (.seq
 (.ops [
 (sM 44 4),
 (sP 45 (.bin .lss .ifc) [.t 44, .c (.int .i64 0)])])
 (.cond (.t 45)
 (.seq
 (.ops [
 (sM 46 3),
 (sM 2 46)])
 (.ret [2]))
 .skip))
 (.ops [
 (sM 47 3),
 (sM 48 0),
 (sM 49 4),
 (sP 50 (.iaddr 1) [.t 48, .t 49]),
 (sH 51 (.load false 1) [.t 50]),
 (sH 52 (.bslF 1 1 [(.int .i64 0)] [(0, 1)]) [.t 51]),
 (sH 53 (.app 1 8 [(.int .i64 0)]) [.t 47, .t 52]),
 (sM 3 53)])))))
def r01_Rise_L0 : CCode := .bloop 0 [0, 3] [] r01_Rise_B0
def r01_Rise_C : CCode :=
 (.seq
 (.ops [
 (sP 2 .mov [.c .nils])])
 (.seq
 (.ops [
 (sP 3 .mov [.c .nils])])
 r01_Rise_L0))
def r01_Rise_I : FInfo := ⟨(.fz false), 1, r01_Rise_C, [.tmp 2]⟩
def r01_Rise_A : Ann := ⟨[], [], [(0, [0, 3], []), (2, [0, 3, 4, 5], [0, 3, 4])], [(1, [0, 3]), (3, [0, 3, 4, 5])], []⟩
abbrev n_r01_Rise : Nat := 39

/-! ### balise/baliseref10.Fits -/
def r10_Fits_B0 : CCode :=
 (.seq
 (.seq
 (.ops [
 (sM 43 6),
 (sM 44 5),
 (sP 45 (.bin .lss .ifc) [.t 43, .t 44])])
 (.cond (.t 45)
 .skip
 (.exit 0)))
 (.seq
 (.block 1 (some [2, 3, 5, 6])
 (.seq
 (.ops [
 (sH 48 (.load true 10) [.t 2]),
 (sP 49 (.faddr 6) [.t 3]),
 (sH 50 (.load false 1) [.t 49]),
 (sM 51 6),
 (sP 52 (.iaddr 1) [.t 50, .t 51]),
 (sH 53 (.load false 1) [.t 52]),
 (sC 54 49 [.t 48, .t 53]),
 (sP 55 (.bin .eql .int) [.t 54, .c (.int .i64 0)])])
 (.cond (.t 55)
 (.seq
 (.ops [
 (sP 4 .mov [.c (.bool false)])])
 (.ret [4]))
 .skip)))
 (.ops [
 (sM 46 6),
 (sP 47 (.bin .add .ifc) [.t 46, .c (.int .i64 1)]),
 (sM 6 47)])))
def r10_Fits_L0 : CCode := .bloop 0 [2, 3, 5, 6] [2, 3, 5] r10_Fits_B0

def r10_Fits_B4 : CCode :=
 (.seq
 (.seq
 (.ops [
 (sM 81 10),
 (sM 82 9),
 (sP 83 .len [.t 82]),
 (sP 84 (.bin .lss .ifc) [.t 81, .t 83]),
 (sM 85 84),
 (sG (sM 86 9) 85 true),
 (sG (sM 87 10) 85 true),
 (sG (sP 88 (.iaddr 2) [.t 86, .t 87]) 85 true),
 (sG (sP 89 (.faddr 0) [.t 88]) 85 true),
 (sG (sH 90 (.load false 1) [.t 89]) 85 true),
 (sG (sP 91 (.faddr 6) [.t 3]) 85 true),
 (sG (sH 92 (.load false 1) [.t 91]) 85 true),
 (sG (sM 93 8) 85 true),
 (sG (sP 94 (.iaddr 1) [.t 92, .t 93]) 85 true),
 (sG (sH 95 (.load false 1) [.t 94]) 85 true),
 (sG (sP 96 (.bin .neq .int) [.t 90, .t 95]) 85 true),
 (sP 97 .pick [.t 85, .t 96, .c (.bool false)])])
 (.cond (.t 97)
 .skip
 (.exit 4)))
 (.block 5 (some [2, 3, 5, 7, 8, 9, 10])
 (.ops [
 (sM 98 10),
 (sP 99 (.bin .add .ifc) [.t 98, .c (.int .i64 1)]),
 (sM 10 99)])))
def r10_Fits_L4 : CCode := .bloop 4 [2, 3, 5, 7, 8, 9, 10] [2, 3, 5, 7, 8, 9, 10] r10_Fits_B4

def r10_Fits_B2 : CCode :=
 (.seq
 (.seq
 (.ops [
 (sM 73 8),
 (sM 74 5),
 (sP 75 (.bin .lss .ifc) [.t 73, .t 74])])
 (.cond (.t 75)
 .skip
 (.exit 2)))
 (.seq
 (.block 3 (some [2, 3, 5, 7, 8])
 (.seq
 (.ops [
 (sH 78 (.load true 10) [.t 2]),
 (sH 79 (.load true 2) [.t 7]),
 (sC 80 79 [.t 78, .t 79]),
 (sM 9 80)])
 (.seq
 (.ops [
 (sP 10 .mov [.c (.int .i64 0)])])
 (.seq
 r10_Fits_L4
 (.seq
 (.seq
 (.ops [
 (sM 100 10),
 (sM 101 9),
 (sP 102 .len [.t 101]),
 (sP 103 (.bin .eql .int) [.t 100, .t 102])])
 (.cond (.t 103)
 (.seq
 (.ops [
 (sP 4 .mov [.c (.bool false)])])
 (.ret [4]))
 .skip))
 (.ops [
 (sP 104 (.faddr 6) [.t 3]),
 (sH 105 (.load false 1) [.t 104]),
 (sM 106 8),
 (sP 107 (.iaddr 1) [.t 105, .t 106]),
 (sH 108 (.load false 1) [.t 107]),
 (sM 109 9),
 (sM 110 10),
 (sP 111 (.iaddr 2) [.t 109, .t 110]),
 (sP 112 (.faddr 1) [.t 111]),
 (sH 113 (.load false 1) [.t 112]),
 (sP 114 (.bin .sub .ifc) [.c (.int .i64 1), .t 113]),
 (sP 115 (.bld [(.int .i64 0), (.int .i64 0)] [(0, 1), (1, 1)]) [.t 108, .t 114]),
 (sHn (.store 2) [.t 7, .t 115])]))))))
 (.ops [
 (sM 76 8),
 (sP 77 (.bin .add .ifc) [.t 76, .c (.int .i64 1)]),
 (sM 8 77)])))
def r10_Fits_L2 : CCode := .bloop 2 [2, 3, 5, 7, 8] [] r10_Fits_B2
def r10_Fits_C : CCode :=
 (.seq
 (.ops [
 (sH 2 (.box 2) [.t 0]),
 (sH 3 (.box 3) [.t 1]),
 (sP 4 .mov [.c (.bool false)])])
 (.seq
 (.ops [
 (sP 11 (.faddr 6) [.t 3]),
 (sH 12 (.load false 1) [.t 11]),
 (sP 13 .len [.t 12]),
 (sM 5 13)])
 (.seq
 (.seq
 (.ops [
 (sM 14 5),
 (sP 15 (.bin .lss .ifc) [.t 14, .c (.int .i64 1)]),
 (sM 16 15),
 (sG (sM 17 5) 16 false),
 (sG (sP 18 (.bin .gtr .ifc) [.t 17, .c (.int .i64 12)]) 16 false),
 (sP 19 .pick [.t 16, .c (.bool true), .t 18]),
 (sM 20 19),
 (sG (sP 21 (.faddr 3) [.t 3]) 20 false),
 (sG (sH 22 (.load false 1) [.t 21]) 20 false),
 (sG (sP 23 (.bin .lss .ifc) [.t 22, .c (.int .i64 0)]) 20 false),
 (sP 24 .pick [.t 20, .c (.bool true), .t 23]),
 (sM 25 24),
 (sG (sP 26 (.faddr 3) [.t 3]) 25 false),
 (sG (sH 27 (.load false 1) [.t 26]) 25 false),
 (sG (sP 28 (.bin .gtr .ifc) [.t 27, .c (.int .i64 1)]) 25 false),
 (sP 29 .pick [.t 25, .c (.bool true), .t 28]),
 (sM 30 29),
 (sG (sP 31 (.faddr 4) [.t 3]) 30 false),
 (sG (sH 32 (.load false 1) [.t 31]) 30 false),
 (sG (sP 33 (.bin .lss .ifc) [.t 32, .c (.int .i64 0)]) 30 false),
 (sP 34 .pick [.t 30, .c (.bool true), .t 33]),
 (sM 35 34),
 (sG (sP 36 (.faddr 6) [.t 3]) 35 false),
 (sG (sH 37 (.load false 1) [.t 36]) 35 false),
 (sG (sC 38 39 [.t 37]) 35 false),
 (sG (sP 39 .len [.t 38]) 35 false),
 (sG (sM 40 5) 35 false),
 (sG (sP 41 (.bin .neq .int) [.t 39, .t 40]) 35 false),
 (sP 42 .pick [.t 35, .c (.bool true), .t 41])])
 (.cond (.t 42)
 (.seq
 (.ops [
 (sP 4 .mov [.c (.bool false)])])
 (.ret [4]))
 .skip))
 (.seq
 (.seq
 (.ops [
 (sP 6 .mov [.c (.int .i64 0)])])
 r10_Fits_L0)
 (.seq
 (.seq
 (.ops [
 (sP 56 (.faddr 4) [.t 3]),
 (sH 57 (.load false 1) [.t 56]),
 (sH 58 (.load true 10) [.t 2]),
 (sP 59 (.faddr 6) [.t 3]),
 (sH 60 (.load false 1) [.t 59]),
 (sP 61 (.iaddr 1) [.t 60, .c (.int .i64 0)]),
 (sH 62 (.load false 1) [.t 61]),
 (sC 63 49 [.t 58, .t 62]),
 (sP 64 (.bin .gtr .ifc) [.t 57, .t 63])])
 (.cond (.t 64)
 (.seq
 (.ops [
 (sP 4 .mov [.c (.bool false)])])
 (.ret [4]))
 .skip))
 (.seq
 (.ops [
 (sP 65 (.faddr 6) [.t 3]),
 (sL 66 3 (.load false 1) [.t 65]),
 (sP 67 (.iaddr 1) [.t 66, .c (.int .i64 0)]),
 (sB 68 (.load false 1) [.t 67]),
 (sP 69 (.faddr 3) [.t 3]),
 (sL 70 3 (.load false 1) [.t 69]),
 (sP 71 (.bin .sub .ifc) [.c (.int .i64 1), .t 70]),
 (sP 72 (.bld [(.int .i64 0), (.int .i64 0)] [(0, 1), (1, 1)]) [.t 68, .t 71]),
 (sH 7 (.newl 7 [(.int .i64 0), (.int .i64 0)]) []),
 (sLn 7 (.store 2) [.t 7, .t 72])])
 (.seq
 (.seq
 (.ops [
 (sP 8 .mov [.c (.int .i64 1)])])
 r10_Fits_L2)
 (.seq
 (.ops [
 (sP 4 .mov [.c (.bool true)])])
 (.ret [4])))))))))
def r10_Fits_I : FInfo := ⟨(.fz false), 2, r10_Fits_C, [.tmp 4]⟩
def r10_Fits_A : Ann := ⟨[], [], [(0, [2, 3, 5, 6], [2, 3, 5]), (2, [2, 3, 5, 7, 8], []), (4, [2, 3, 5, 7, 8, 9, 10], [2, 3, 5, 7, 8, 9, 10])], [(1, [2, 3, 5, 6]), (3, [2, 3, 5, 7, 8]), (5, [2, 3, 5, 7, 8, 9, 10])], [2, 3, 7]⟩
abbrev n_r10_Fits : Nat := 44

/-! ### balise/graph.New -/
def graph_New_C : CCode :=
 (.seq
 (.ops [
 (sH 1 (.box 1) [.t 0]),
 (sP 2 .mov [.c .nilp])])
 (.seq
 (.ops [
 (sH 3 (.load true 10) [.t 1]),
 (sP 4 (.bld [.nils, .nils, .nils, .nils, .nils, (.int .i64 0), (.int .i64 0), (.int .i64 0), (.int .i64 0), (.int .i64 0)] [(0, 10)]) [.t 3]),
 (sH 5 .boxh [.t 4]),
 (sM 2 5)])
 (.ret [2])))
def graph_New_I : FInfo := ⟨(.fz false), 1, graph_New_C, [.tmp 2]⟩
def graph_New_A : Ann := ⟨[5], [], [], [], [1]⟩
abbrev n_graph_New : Nat := 41

/-! ### (*balise/graph.Graph).Len -/
def graph_Graph_Len_C : CCode :=
 (.seq
 (.ops [
 (sP 4 .mov [.c (.int .i64 0)])])
 (.seq
 (.ops [
 (sM 8 0),
 (sM 9 1),
 (sC 10 90 [.t 8, .t 9]),
 (sM 7 10),
 (sP 11 (.ext 0) [.t 7]),
 (sP 12 (.ext 1) [.t 7]),
 (sH 5 (.newl 5 [(.int .i64 0), (.int .i64 0), (.int .i64 0)]) []),
 (sHn (.store 3) [.t 5, .t 11]),
 (sM 6 12)])
 (.seq
 (.ops [
 (sP 13 (.faddr 0) [.t 5]),
 (sH 14 (.load false 1) [.t 13]),
 (sM 4 14)])
 (.ret [4]))))
def graph_Graph_Len_I : FInfo := ⟨(.fz false), 2, graph_Graph_Len_C, [.tmp 4]⟩
def graph_Graph_Len_A : Ann := ⟨[], [], [], [], [5]⟩
abbrev n_graph_Graph_Len : Nat := 67

/-! ### slices.Contains[[]int,int] -/
def slices_Contains_int_C : CCode :=
 (.seq
 (.ops [
 (sP 4 .mov [.c (.bool false)])])
 (.seq
 (.ops [
 (sM 5 0),
 (sM 6 1),
 (sC 7 85 [.t 5, .t 6]),
 (sP 8 (.bin .geq .ifc) [.t 7, .c (.int .i64 0)]),
 (sM 4 8)])
 (.ret [4])))
def slices_Contains_int_I : FInfo := ⟨(.fz false), 2, slices_Contains_int_C, [.tmp 4]⟩
def slices_Contains_int_A : Ann := ⟨[], [], [], [], []⟩
abbrev n_slices_Contains_int : Nat := 59

/-! ### balise/baliseref05.Len -/
def r05_Len_C : CCode :=
 (.seq
 (.ops [
 (sH 2 (.box 2) [.t 0]),
 (sP 4 .mov [.c (.int .i64 0)])])
 (.seq
 (.seq
 (.ops [
 (sM 5 1),
 (sP 6 (.bin .lss .ifc) [.t 5, .c (.int .i64 0)]),
 (sM 7 6),
 (sG (sM 8 1) 7 false),
 (sG (sP 9 (.faddr 1) [.t 2]) 7 false),
 (sG (sH 10 (.load false 1) [.t 9]) 7 false),
 (sG (sP 11 .len [.t 10]) 7 false),
 (sG (sP 12 (.bin .geq .ifc) [.t 8, .t 11]) 7 false),
 (sP 13 .pick [.t 7, .c (.bool true), .t 12])])
 (.cond (.t 13)
 (.seq
 (.ops [
 (sP 4 .mov [.c (.int .i64 0)])])
 (.ret [4]))
 .skip))
 (.seq
 (.ops [
 (sP 14 (.faddr 1) [.t 2]),
 (sH 15 (.load false 1) [.t 14]),
 (sM 16 1),
 (sP 17 (.iaddr 3) [.t 15, .t 16]),
 (sP 18 (.faddr 0) [.t 17]),
 (sH 19 (.load false 1) [.t 18]),
 (sM 4 19)])
 (.ret [4]))))
def r05_Len_I : FInfo := ⟨(.fz false), 2, r05_Len_C, [.tmp 4]⟩
def r05_Len_A : Ann := ⟨[], [], [], [], [2]⟩
abbrev n_r05_Len : Nat := 49

/-! ### balise/baliseref05.Around -/
def r05_Around_B0 : CCode :=
 (.seq
 (.seq
 (.ops [
 (sM 69 11),
 (sM 70 10),
 (sP 71 .len [.t 70]),
 (sP 72 (.bin .lss .ifc) [.t 69, .t 71])])
 (.cond (.t 72)
 .skip
 (.exit 0)))
 (.seq
 (.block 1 (some [3, 8, 10, 11])
 (.seq
 (.ops [
 (sM 75 10),
 (sM 76 11),
 (sP 77 (.iaddr 2) [.t 75, .t 76]),
 (sH 78 (.load true 2) [.t 77]),
 (sH 79 (.load true 2) [.t 3]),
 (sP 80 (.bin .neq (.parts [(0, false, 1, .int), (1, false, 1, .int)])) [.t 78, .t 79])])
 (.cond (.t 80)
 (.ops [
 (sM 81 8),
 (sM 82 10),
 (sM 83 11),
 (sP 84 (.iaddr 2) [.t 82, .t 83]),
 (sH 85 (.load true 2) [.t 84]),
 (sH 86 (.bslF 2 1 [(.int .i64 0), (.int .i64 0)] [(0, 2)]) [.t 85]),
 (sH 87 (.app 2 16 [(.int .i64 0), (.int .i64 0)]) [.t 81, .t 86]),
 (sM 8 87)])
 .skip)))
 (.ops [
 (sM 73 11),
 (sP 74 (.bin .add .ifc) [.t 73, .c (.int .i64 1)]),
 (sM 11 74)])))
def r05_Around_L0 : CCode := .bloop 0 [3, 8, 10, 11] [8] r05_Around_B0
def r05_Around_C : CCode :=
 (.seq
 (.ops [
 (sH 2 (.box 2) [.t 0]),
 (sH 3 (.box 3) [.t 1]),
 (sP 4 .mov [.c .nils])])
 (.seq
 (.ops [
 (sH 13 (.load true 10) [.t 2]),
 (sH 14 (.load true 2) [.t 3]),
 (sC 15 101 [.t 13, .t 14]),
 (sM 12 15),
 (sP 16 (.ext 0) [.t 12]),
 (sP 17 (.ext 1) [.t 12]),
 (sM 5 16),
 (sM 6 17)])
 (.seq
 (.seq
 (.ops [
 (sM 18 6),
 (sP 19 (.un .not) [.t 18])])
 (.cond (.t 19)
 (.seq
 (.ops [
 (sP 4 .mov [.c .nils])])
 (.ret [4]))
 .skip))
 (.seq
 (.ops [
 (sH 20 (.load true 10) [.t 2]),
 (sM 21 5),
 (sC 22 102 [.t 20, .t 21]),
 (sM 7 22)])
 (.seq
 (.ops [
 (sP 8 .mov [.c .nils])])
 (.seq
 (.seq
 (.ops [
 (sM 23 7),
 (sP 24 (.bin .geq .ifc) [.t 23, .c (.int .i64 0)])])
 (.cond (.t 24)
 (.seq
 (.ops [
 (sP 25 (.faddr 3) [.t 2]),
 (sH 26 (.load false 1) [.t 25]),
 (sM 27 7),
 (sP 28 (.iaddr 4) [.t 26, .t 27]),
 (sH 29 (.load true 4) [.t 28]),
 (sH 9 (.newl 9 [(.int .i64 0), (.int .i64 0), (.int .i64 0), (.int .i64 0)]) []),
 (sHn (.store 4) [.t 9, .t 29])])
 (.seq
 (.seq
 (.ops [
 (sP 30 (.faddr 0) [.t 3]),
 (sH 31 (.load false 1) [.t 30]),
 (sP 32 (.faddr 1) [.t 9]),
 (sH 33 (.load false 1) [.t 32]),
 (sP 34 (.bin .eql .int) [.t 31, .t 33])])
 (.cond (.t 34)
 (.seq
 (.ops [
 (sM 35 8),
 (sH 36 (.load true 10) [.t 2]),
 (sP 37 (.faddr 2) [.t 9]),
 (sH 38 (.load false 1) [.t 37]),
 (sM 39 5),
 (sC 40 103 [.t 36, .t 38, .t 39]),
 (sH 41 (.app 2 16 [(.int .i64 0), (.int .i64 0)]) [.t 35, .t 40]),
 (sM 8 41)])
 (.seq
 (.ops [
 (sM 42 8),
 (sH 43 (.load true 10) [.t 2]),
 (sP 44 (.faddr 3) [.t 9]),
 (sH 45 (.load false 1) [.t 44]),
 (sM 46 5),
 (sC 47 103 [.t 43, .t 45, .t 46]),
 (sH 48 (.app 2 16 [(.int .i64 0), (.int .i64 0)]) [.t 42, .t 47]),
 (sM 4 48)])
 (.ret [4])))
 .skip))
 (.seq
 (.seq
 (.ops [
 (sP 49 (.faddr 0) [.t 3]),
 (sH 50 (.load false 1) [.t 49]),
 (sP 51 (.faddr 2) [.t 9]),
 (sH 52 (.load false 1) [.t 51]),
 (sP 53 (.bin .eql .int) [.t 50, .t 52]),
 (sM 54 53),
 (sG (sP 55 (.faddr 0) [.t 3]) 54 false),
 (sG (sH 56 (.load false 1) [.t 55]) 54 false),
 (sG (sP 57 (.faddr 3) [.t 9]) 54 false),
 (sG (sH 58 (.load false 1) [.t 57]) 54 false),
 (sG (sP 59 (.bin .eql .int) [.t 56, .t 58]) 54 false),
 (sP 60 .pick [.t 54, .c (.bool true), .t 59])])
 (.cond (.t 60)
 (.seq
 (.ops [
 (sH 61 (.load true 10) [.t 2]),
 (sP 62 (.faddr 1) [.t 9]),
 (sH 63 (.load false 1) [.t 62]),
 (sM 64 5),
 (sC 65 103 [.t 61, .t 63, .t 64]),
 (sM 4 65)])
 (.ret [4]))
 .skip))
 (.seq
 (.ops [
 (sP 4 .mov [.c .nils])])
 (.ret [4])))))
 .skip))
 (.seq
 (.ops [
 (sH 66 (.load true 10) [.t 2]),
 (sM 67 5),
 (sC 68 104 [.t 66, .t 67]),
 (sM 10 68)])
 (.seq
 (.seq
 (.ops [
 (sP 11 .mov [.c (.int .i64 0)])])
 r05_Around_L0)
 (.seq
 (.seq
 (.ops [
 (sM 88 8),
 (sP 89 .len [.t 88]),
 (sP 90 (.bin .neq .int) [.t 89, .c (.int .i64 1)])])
 (.cond (.t 90)
 (.seq
 (.ops [
 (sP 4 .mov [.c .nils])])
 (.ret [4]))
 .skip))
 (.seq
 (.ops [
 (sM 91 8),
 (sM 4 91)])
 (.ret [4])))))))))))
def r05_Around_I : FInfo := ⟨(.fz false), 2, r05_Around_C, [.tmp 4]⟩
def r05_Around_A : Ann := ⟨[], [], [(0, [3, 8, 10, 11], [8])], [(1, [3, 8, 10, 11])], [2, 3, 9]⟩
abbrev n_r05_Around : Nat := 79

/-! ### balise/baliseref05.Next -/
def r05_Next_B0 : CCode :=
 (.seq
 (.seq
 (.ops [
 (sM 74 13),
 (sM 75 8),
 (sP 76 .len [.t 75]),
 (sP 77 (.bin .lss .ifc) [.t 74, .t 76])])
 (.cond (.t 77)
 .skip
 (.exit 0)))
 (.seq
 (.block 1 (some [6, 8, 12, 13])
 (.seq
 (.ops [
 (sM 80 8),
 (sM 81 13),
 (sP 82 (.iaddr 2) [.t 80, .t 81]),
 (sP 83 (.faddr 0) [.t 82]),
 (sH 84 (.load false 1) [.t 83]),
 (sM 85 12),
 (sP 86 (.bin .eql .int) [.t 84, .t 85])])
 (.cond (.t 86)
 (.seq
 (.ops [
 (sM 87 8),
 (sM 88 13),
 (sP 89 (.iaddr 2) [.t 87, .t 88]),
 (sH 90 (.load true 2) [.t 89]),
 (sHn (.store 2) [.t 6, .t 90]),
 (sP 7 .mov [.c (.bool true)])])
 (.ret [6, 7]))
 .skip)))
 (.ops [
 (sM 78 13),
 (sP 79 (.bin .add .ifc) [.t 78, .c (.int .i64 1)]),
 (sM 13 79)])))
def r05_Next_L0 : CCode := .bloop 0 [6, 8, 12, 13] [6] r05_Next_B0
def r05_Next_C : CCode :=
 (.seq
 (.ops [
 (sH 3 (.box 3) [.t 0]),
 (sH 4 (.box 4) [.t 1]),
 (sH 6 (.newl 6 [(.int .i64 0), (.int .i64 0)]) []),
 (sP 7 .mov [.c (.bool false)])])
 (.seq
 (.ops [
 (sH 14 (.load true 10) [.t 3]),
 (sH 15 (.load true 2) [.t 4]),
 (sC 16 79 [.t 14, .t 15]),
 (sM 8 16)])
 (.seq
 (.seq
 (.ops [
 (sM 17 8),
 (sP 18 .len [.t 17]),
 (sP 19 (.bin .eql .int) [.t 18, .c (.int .i64 0)])])
 (.cond (.t 19)
 (.seq
 (.ops [
 (sP 20 (.bld [(.int .i64 0), (.int .i64 0)] []) []),
 (sHn (.store 2) [.t 6, .t 20]),
 (sP 7 .mov [.c (.bool false)])])
 (.ret [6, 7]))
 .skip))
 (.seq
 (.ops [
 (sH 22 (.load true 10) [.t 3]),
 (sH 23 (.load true 2) [.t 4]),
 (sC 24 101 [.t 22, .t 23]),
 (sM 21 24),
 (sP 25 (.ext 0) [.t 21]),
 (sP 26 (.ext 1) [.t 21]),
 (sM 9 25),
 (sM 10 26)])
 (.seq
 (.ops [
 (sH 27 (.load true 10) [.t 3]),
 (sM 28 9),
 (sC 29 102 [.t 27, .t 28]),
 (sM 11 29)])
 (.seq
 (.seq
 (.ops [
 (sM 30 11),
 (sP 31 (.bin .lss .ifc) [.t 30, .c (.int .i64 0)])])
 (.cond (.t 31)
 (.seq
 (.ops [
 (sM 32 8),
 (sP 33 (.iaddr 2) [.t 32, .c (.int .i64 0)]),
 (sH 34 (.load true 2) [.t 33]),
 (sHn (.store 2) [.t 6, .t 34]),
 (sP 7 .mov [.c (.bool true)])])
 (.ret [6, 7]))
 .skip))
 (.seq
 (.ops [
 (sP 35 (.faddr 3) [.t 3]),
 (sH 36 (.load false 1) [.t 35]),
 (sM 37 11),
 (sP 38 (.iaddr 4) [.t 36, .t 37]),
 (sP 39 (.faddr 2) [.t 38]),
 (sH 40 (.load false 1) [.t 39]),
 (sM 12 40)])
 (.seq
 (.seq
 (.ops [
 (sM 41 11),
 (sM 42 2),
 (sP 43 .len [.t 42]),
 (sP 44 (.bin .lss .ifc) [.t 41, .t 43]),
 (sM 45 44),
 (sG (sM 46 2) 45 true),
 (sG (sM 47 11) 45 true),
 (sG (sP 48 (.iaddr 1) [.t 46, .t 47]) 45 true),
 (sG (sH 49 (.load false 1) [.t 48]) 45 true),
 (sP 50 .pick [.t 45, .t 49, .c (.bool false)])])
 (.cond (.t 50)
 (.ops [
 (sP 51 (.faddr 3) [.t 3]),
 (sH 52 (.load false 1) [.t 51]),
 (sM 53 11),
 (sP 54 (.iaddr 4) [.t 52, .t 53]),
 (sP 55 (.faddr 3) [.t 54]),
 (sH 56 (.load false 1) [.t 55]),
 (sM 12 56)])
 .skip))
 (.seq
 (.seq
 (.ops [
 (sP 57 (.faddr 0) [.t 4]),
 (sH 58 (.load false 1) [.t 57]),
 (sP 59 (.faddr 3) [.t 3]),
 (sH 60 (.load false 1) [.t 59]),
 (sM 61 11),
 (sP 62 (.iaddr 4) [.t 60, .t 61]),
 (sP 63 (.faddr 1) [.t 62]),
 (sH 64 (.load false 1) [.t 63]),
 (sP 65 (.bin .neq .int) [.t 58, .t 64])])
 (.cond (.t 65)
 (.seq
 (.seq
 (.ops [
 (sP 66 (.faddr 0) [.t 4]),
 (sH 67 (.load false 1) [.t 66]),
 (sM 68 12),
 (sP 69 (.bin .eql .int) [.t 67, .t 68])])
 (.cond (.t 69)
 (.seq
 (.ops [
 (sM 70 8),
 (sP 71 (.iaddr 2) [.t 70, .c (.int .i64 0)]),
 (sH 72 (.load true 2) [.t 71]),
 (sHn (.store 2) [.t 6, .t 72]),
 (sP 7 .mov [.c (.bool true)])])
 (.ret [6, 7]))
 .skip))
 (.seq
 (.ops [
 (sP 73 (.bld [(.int .i64 0), (.int .i64 0)] []) []),
 (sHn (.store 2) [.t 6, .t 73]),
 (sP 7 .mov [.c (.bool false)])])
 (.ret [6, 7])))
 .skip))
 (.seq
 (.seq
 (.ops [
 (sP 13 .mov [.c (.int .i64 0)])])
 r05_Next_L0)
 (.seq
 (.ops [
 (sP 91 (.bld [(.int .i64 0), (.int .i64 0)] []) []),
 (sHn (.store 2) [.t 6, .t 91]),
 (sP 7 .mov [.c (.bool false)])])
 (.ret [6, 7]))))))))))))
def r05_Next_I : FInfo := ⟨(.fz false), 3, r05_Next_C, [.cell 6 true 2, .tmp 7]⟩
def r05_Next_A : Ann := ⟨[], [], [(0, [6, 8, 12, 13], [6])], [(1, [6, 8, 12, 13])], [3, 4, 6]⟩
abbrev n_r05_Next : Nat := 82

/-! ### (*balise/graph.Graph).section -/
def graph_Graph_section_C : CCode :=
 (.seq
 (.ops [
 (sH 4 (.newl 4 [(.int .i64 0), (.int .i64 0), (.int .i64 0)]) []),
 (sP 5 .mov [.c (.bool false)])])
 (.seq
 (.seq
 (.ops [
 (sM 6 0),
 (sP 7 (.bin .eql .ptr) [.t 6, .c .nilp]),
 (sM 8 7),
 (sG (sM 9 1) 8 false),
 (sG (sP 10 (.bin .lss .ifc) [.t 9, .c (.int .i64 0)]) 8 false),
 (sP 11 .pick [.t 8, .c (.bool true), .t 10]),
 (sM 12 11),
 (sG (sM 13 1) 12 false),
 (sG (sM 14 0) 12 false),
 (sG (sP 15 .nchk [.t 14]) 12 false),
 (sG (sP 16 (.faddr 0) [.t 15]) 12 false),
 (sG (sP 17 (.faddr 1) [.t 16]) 12 false),
 (sG (sH 18 (.load false 1) [.t 17]) 12 false),
 (sG (sP 19 .len [.t 18]) 12 false),
 (sG (sP 20 (.bin .geq .ifc) [.t 13, .t 19]) 12 false),
 (sP 21 .pick [.t 12, .c (.bool true), .t 20])])
 (.cond (.t 21)
 (.seq
 (.ops [
 (sP 22 (.bld [(.int .i64 0), (.int .i64 0), (.int .i64 0)] []) []),
 (sHn (.store 3) [.t 4, .t 22]),
 (sP 5 .mov [.c (.bool false)])])
 (.ret [4, 5]))
 .skip))
 (.seq
 (.ops [
 (sM 23 0),
 (sP 24 .nchk [.t 23]),
 (sP 25 (.faddr 0) [.t 24]),
 (sP 26 (.faddr 1) [.t 25]),
 (sH 27 (.load false 1) [.t 26]),
 (sM 28 1),
 (sP 29 (.iaddr 3) [.t 27, .t 28]),
 (sH 30 (.load true 3) [.t 29]),
 (sHn (.store 3) [.t 4, .t 30]),
 (sP 5 .mov [.c (.bool true)])])
 (.ret [4, 5]))))
def graph_Graph_section_I : FInfo := ⟨(.fz false), 2, graph_Graph_section_C, [.cell 4 true 3, .tmp 5]⟩
def graph_Graph_section_A : Ann := ⟨[], [], [], [], [4]⟩
abbrev n_graph_Graph_section : Nat := 90

/-! ### (*balise/graph.Graph).Around -/
def graph_Graph_Around_C : CCode :=
 (.seq
 (.ops [
 (sH 3 .boxh [.t 1]),
 (sP 4 .mov [.c .nils])])
 (.seq
 (.ops [
 (sM 11 0),
 (sH 12 (.load true 2) [.t 3]),
 (sC 13 94 [.t 11, .t 12]),
 (sM 10 13),
 (sP 14 (.ext 0) [.t 10]),
 (sP 15 (.ext 1) [.t 10]),
 (sM 5 14),
 (sM 6 15)])
 (.seq
 (.seq
 (.ops [
 (sM 16 6),
 (sP 17 (.un .not) [.t 16])])
 (.cond (.t 17)
 (.seq
 (.ops [
 (sP 4 .mov [.c .nils])])
 (.ret [4]))
 .skip))
 (.seq
 (.ops [
 (sM 18 0),
 (sM 19 5),
 (sC 20 95 [.t 18, .t 19]),
 (sM 7 20)])
 (.seq
 (.seq
 (.ops [
 (sM 21 7),
 (sP 22 (.bin .lss .ifc) [.t 21, .c (.int .i64 0)])])
 (.cond (.t 22)
 (.seq
 (.ops [
 (sM 23 0),
 (sM 24 5),
 (sC 25 97 [.t 23, .t 24]),
 (sP 26 (.mkfn (.func 98) 0) [.t 3]),
 (sC 27 96 [.t 25, .t 26]),
 (sM 8 27)])
 (.seq
 (.seq
 (.ops [
 (sM 28 8),
 (sP 29 .len [.t 28]),
 (sP 30 (.bin .neq .int) [.t 29, .c (.int .i64 1)])])
 (.cond (.t 30)
 (.seq
 (.ops [
 (sP 4 .mov [.c .nils])])
 (.ret [4]))
 .skip))
 (.seq
 (.ops [
 (sM 31 8),
 (sM 4 31)])
 (.ret [4]))))
 .skip))
 (.seq
 (.ops [
 (sM 32 0),
 (sP 33 .nchk [.t 32]),
 (sP 34 (.faddr 0) [.t 33]),
 (sP 35 (.faddr 3) [.t 34]),
 (sH 36 (.load false 1) [.t 35]),
 (sM 37 7),
 (sP 38 (.iaddr 4) [.t 36, .t 37]),
 (sH 39 (.load true 4) [.t 38]),
 (sH 9 (.newl 9 [(.int .i64 0), (.int .i64 0), (.int .i64 0), (.int .i64 0)]) []),
 (sHn (.store 4) [.t 9, .t 39])])
 (.seq
 (.seq
 (.ops [
 (sP 40 (.faddr 0) [.t 3]),
 (sH 41 (.load false 1) [.t 40])])
 (.block 0 (some [])
 (.seq
 (.ops [
 (sP 43 (.faddr 1) [.t 9]),
 (sH 44 (.load false 1) [.t 43]),
 (sP 45 (.bin .eql .int) [.t 41, .t 44]),
 (sM 42 45)])
 (.cond (.t 42)
 (.seq
 (.ops [
 (sM 46 0),
 (sP 47 (.faddr 2) [.t 9]),
 (sH 48 (.load false 1) [.t 47]),
 (sM 49 5),
 (sC 50 100 [.t 46, .t 48, .t 49]),
 (sM 51 0),
 (sP 52 (.faddr 3) [.t 9]),
 (sH 53 (.load false 1) [.t 52]),
 (sM 54 5),
 (sC 55 100 [.t 51, .t 53, .t 54]),
 (sH 56 (.bslF 1 2 [.nils] [(0, 1), (1, 1)]) [.t 50, .t 55]),
 (sC 57 99 [.t 56]),
 (sM 4 57)])
 (.ret [4]))
 (.seq
 (.seq
 (.ops [
 (sP 59 (.faddr 2) [.t 9]),
 (sH 60 (.load false 1) [.t 59]),
 (sP 61 (.bin .eql .int) [.t 41, .t 60]),
 (sM 58 61)])
 (.cond (.t 58)
 .skip
 (.ops [
 (sP 62 (.faddr 3) [.t 9]),
 (sH 63 (.load false 1) [.t 62]),
 (sP 64 (.bin .eql .int) [.t 41, .t 63]),
 (sM 58 64)])))
 (.cond (.t 58)
 (.seq
 (.ops [
 (sM 65 0),
 (sP 66 (.faddr 1) [.t 9]),
 (sH 67 (.load false 1) [.t 66]),
 (sM 68 5),
 (sC 69 100 [.t 65, .t 67, .t 68]),
 (sM 4 69)])
 (.ret [4]))
 .skip))))))
 (.seq
 (.ops [
 (sP 4 .mov [.c .nils])])
 (.ret [4])))))))))
def graph_Graph_Around_I : FInfo := ⟨(.fz false), 2, graph_Graph_Around_C, [.tmp 4]⟩
def graph_Graph_Around_A : Ann := ⟨[3], [], [], [(0, [])], [9]⟩
abbrev n_graph_Graph_Around : Nat := 76

/-! ### slices.IndexFunc[[]balise/api.End,balise/api.End] -/
def slices_IndexFunc_End_B0 : CCode :=
 (.seq
 (.ops [
 (sP 9 (.bin .lss .ifc) [.t 8, .t 7])])
 (.seq
 (.cond (.t 9)
 .skip
 (.exit 0))
 (.seq
 (.block 1 (some [0, 1, 7, 8])
 (.seq
 (.ops [
 (sM 10 8),
 (sM 5 10)])
 (.seq
 (.ops [
 (sM 11 1),
 (sM 12 0),
 (sM 13 5),
 (sP 14 (.iaddr 2) [.t 12, .t 13]),
 (sH 15 (.load true 2) [.t 14]),
 ⟨(some 16), .call, [.t 11, .t 15], none⟩])
 (.cond (.t 16)
 (.seq
 (.ops [
 (sM 17 5),
 (sM 4 17)])
 (.ret [4]))
 .skip))))
 (.ops [
 (sP 18 (.bin .add .ifc) [.t 8, .c (.int .i64 1)]),
 (sM 8 18)]))))
def slices_IndexFunc_End_L0 : CCode := .bloop 0 [0, 1, 7, 8] [] slices_IndexFunc_End_B0
def slices_IndexFunc_End_C : CCode :=
 (.seq
 (.ops [
 (sP 4 .mov [.c (.int .i64 0)])])
 (.seq
 (.seq
 (.ops [
 (sM 6 0),
 (sP 7 .len [.t 6]),
 (sP 8 .mov [.c (.int .i64 0)])])
 slices_IndexFunc_End_L0)
 (.seq
 (.ops [
 (sP 4 .mov [.c (.int .i64 (-1))])])
 (.ret [4]))))
def slices_IndexFunc_End_I : FInfo := ⟨(.fz false), 2, slices_IndexFunc_End_C, [.tmp 4]⟩
def slices_IndexFunc_End_A : Ann := ⟨[], [], [(0, [0, 1, 7, 8], [])], [(1, [0, 1, 7, 8])], []⟩
abbrev n_slices_IndexFunc_End : Nat := 77

/-! ### slices.Index[[]int,int] -/
def slices_Index_int_B0 : CCode :=
 (.seq
 (.ops [
 (sP 9 (.bin .lss .ifc) [.t 8, .t 7])])
 (.seq
 (.cond (.t 9)
 .skip
 (.exit 0))
 (.seq
 (.block 1 (some [0, 1, 7, 8])
 (.seq
 (.ops [
 (sM 10 8),
 (sM 5 10)])
 (.seq
 (.ops [
 (sM 11 1),
 (sM 12 0),
 (sM 13 5),
 (sP 14 (.iaddr 1) [.t 12, .t 13]),
 (sH 15 (.load false 1) [.t 14]),
 (sP 16 (.bin .eql .int) [.t 11, .t 15])])
 (.cond (.t 16)
 (.seq
 (.ops [
 (sM 17 5),
 (sM 4 17)])
 (.ret [4]))
 .skip))))
 (.ops [
 (sP 18 (.bin .add .ifc) [.t 8, .c (.int .i64 1)]),
 (sM 8 18)]))))
def slices_Index_int_L0 : CCode := .bloop 0 [0, 1, 7, 8] [] slices_Index_int_B0
def slices_Index_int_C : CCode :=
 (.seq
 (.ops [
 (sP 4 .mov [.c (.int .i64 0)])])
 (.seq
 (.seq
 (.ops [
 (sM 6 0),
 (sP 7 .len [.t 6]),
 (sP 8 .mov [.c (.int .i64 0)])])
 slices_Index_int_L0)
 (.seq
 (.ops [
 (sP 4 .mov [.c (.int .i64 (-1))])])
 (.ret [4]))))
def slices_Index_int_I : FInfo := ⟨(.fz false), 2, slices_Index_int_C, [.tmp 4]⟩
def slices_Index_int_A : Ann := ⟨[], [], [(0, [0, 1, 7, 8], [])], [(1, [0, 1, 7, 8])], []⟩
abbrev n_slices_Index_int : Nat := 85

/-! ### balise/baliseref05.node -/
def r05_node_C : CCode :=
 (.seq
 (.ops [
 (sH 2 (.box 2) [.t 0]),
 (sH 3 (.box 3) [.t 1]),
 (sP 4 .mov [.c (.int .i64 0)]),
 (sP 5 .mov [.c (.bool false)])])
 (.seq
 (.seq
 (.ops [
 (sP 6 (.faddr 0) [.t 3]),
 (sH 7 (.load false 1) [.t 6]),
 (sP 8 (.bin .lss .ifc) [.t 7, .c (.int .i64 0)]),
 (sM 9 8),
 (sG (sP 10 (.faddr 0) [.t 3]) 9 false),
 (sG (sH 11 (.load false 1) [.t 10]) 9 false),
 (sG (sP 12 (.faddr 1) [.t 2]) 9 false),
 (sG (sH 13 (.load false 1) [.t 12]) 9 false),
 (sG (sP 14 .len [.t 13]) 9 false),
 (sG (sP 15 (.bin .geq .ifc) [.t 11, .t 14]) 9 false),
 (sP 16 .pick [.t 9, .c (.bool true), .t 15]),
 (sM 17 16),
 (sG (sP 18 (.faddr 1) [.t 3]) 17 false),
 (sG (sH 19 (.load false 1) [.t 18]) 17 false),
 (sG (sP 20 (.bin .lss .ifc) [.t 19, .c (.int .i64 0)]) 17 false),
 (sP 21 .pick [.t 17, .c (.bool true), .t 20]),
 (sM 22 21),
 (sG (sP 23 (.faddr 1) [.t 3]) 22 false),
 (sG (sH 24 (.load false 1) [.t 23]) 22 false),
 (sG (sP 25 (.bin .gtr .ifc) [.t 24, .c (.int .i64 1)]) 22 false),
 (sP 26 .pick [.t 22, .c (.bool true), .t 25])])
 (.cond (.t 26)
 (.seq
 (.ops [
 (sP 4 .mov [.c (.int .i64 0)]),
 (sP 5 .mov [.c (.bool false)])])
 (.ret [4, 5]))
 .skip))
 (.seq
 (.seq
 (.ops [
 (sP 27 (.faddr 1) [.t 3]),
 (sH 28 (.load false 1) [.t 27]),
 (sP 29 (.bin .eql .int) [.t 28, .c (.int .i64 0)])])
 (.cond (.t 29)
 (.seq
 (.ops [
 (sP 30 (.faddr 1) [.t 2]),
 (sH 31 (.load false 1) [.t 30]),
 (sP 32 (.faddr 0) [.t 3]),
 (sH 33 (.load false 1) [.t 32]),
 (sP 34 (.iaddr 3) [.t 31, .t 33]),
 (sP 35 (.faddr 1) [.t 34]),
 (sH 36 (.load false 1) [.t 35]),
 (sM 4 36),
 (sP 5 .mov [.c (.bool true)])])
 (.ret [4, 5]))
 .skip))
 (.seq
 (.ops [
 (sP 37 (.faddr 1) [.t 2]),
 (sH 38 (.load false 1) [.t 37]),
 (sP 39 (.faddr 0) [.t 3]),
 (sH 40 (.load false 1) [.t 39]),
 (sP 41 (.iaddr 3) [.t 38, .t 40]),
 (sP 42 (.faddr 2) [.t 41]),
 (sH 43 (.load false 1) [.t 42]),
 (sM 4 43),
 (sP 5 .mov [.c (.bool true)])])
 (.ret [4, 5])))))
def r05_node_I : FInfo := ⟨(.fz false), 2, r05_node_C, [.tmp 4, .tmp 5]⟩
def r05_node_A : Ann := ⟨[], [], [], [], [2, 3]⟩
abbrev n_r05_node : Nat := 101

/-! ### balise/baliseref05.Point -/
def r05_Point_B0 : CCode :=
 (.seq
 (.seq
 (.ops [
 (sM 6 5),
 (sP 7 (.faddr 3) [.t 2]),
 (sH 8 (.load false 1) [.t 7]),
 (sP 9 .len [.t 8]),
 (sP 10 (.bin .lss .ifc) [.t 6, .t 9])])
 (.cond (.t 10)
 .skip
 (.exit 0)))
 (.seq
 (.block 1 (some [1, 2, 5])
 (.seq
 (.ops [
 (sP 13 (.faddr 3) [.t 2]),
 (sH 14 (.load false 1) [.t 13]),
 (sM 15 5),
 (sP 16 (.iaddr 4) [.t 14, .t 15]),
 (sP 17 (.faddr 0) [.t 16]),
 (sH 18 (.load false 1) [.t 17]),
 (sM 19 1),
 (sP 20 (.bin .eql .int) [.t 18, .t 19])])
 (.cond (.t 20)
 (.seq
 (.ops [
 (sM 21 5),
 (sM 4 21)])
 (.ret [4]))
 .skip)))
 (.ops [
 (sM 11 5),
 (sP 12 (.bin .add .ifc) [.t 11, .c (.int .i64 1)]),
 (sM 5 12)])))
def r05_Point_L0 : CCode := .bloop 0 [1, 2, 5] [] r05_Point_B0
def r05_Point_C : CCode :=
 (.seq
 (.ops [
 (sH 2 (.box 2) [.t 0]),
 (sP 4 .mov [.c (.int .i64 0)])])
 (.seq
 (.seq
 (.ops [
 (sP 5 .mov [.c (.int .i64 0)])])
 r05_Point_L0)
 (.seq
 (.ops [
 (sP 4 .mov [.c (.int .i64 (-1))])])
 (.ret [4]))))
def r05_Point_I : FInfo := ⟨(.fz false), 2, r05_Point_C, [.tmp 4]⟩
def r05_Point_A : Ann := ⟨[], [], [(0, [1, 2, 5], [])], [(1, [1, 2, 5])], [2]⟩
abbrev n_r05_Point : Nat := 102

/-! ### balise/baliseref05.one -/
def r05_one_B0 : CCode :=
 (.seq
 (.seq
 (.ops [
 (sM 12 8),
 (sM 13 7),
 (sP 14 .len [.t 13]),
 (sP 15 (.bin .lss .ifc) [.t 12, .t 14])])
 (.cond (.t 15)
 .skip
 (.exit 0)))
 (.seq
 (.block 1 (some [1, 7, 8])
 (.seq
 (.ops [
 (sM 18 7),
 (sM 19 8),
 (sP 20 (.iaddr 2) [.t 18, .t 19]),
 (sP 21 (.faddr 0) [.t 20]),
 (sH 22 (.load false 1) [.t 21]),
 (sM 23 1),
 (sP 24 (.bin .eql .int) [.t 22, .t 23])])
 (.cond (.t 24)
 (.seq
 (.ops [
 (sM 25 7),
 (sM 26 8),
 (sM 27 8),
 (sP 28 (.bin .add .ifc) [.t 27, .c (.int .i64 1)]),
 (sP 29 (.slc 2 true true) [.t 25, .t 26, .t 28]),
 (sM 6 29)])
 (.ret [6]))
 .skip)))
 (.ops [
 (sM 16 8),
 (sP 17 (.bin .add .ifc) [.t 16, .c (.int .i64 1)]),
 (sM 8 17)])))
def r05_one_L0 : CCode := .bloop 0 [1, 7, 8] [] r05_one_B0
def r05_one_C : CCode :=
 (.seq
 (.ops [
 (sH 3 (.box 3) [.t 0]),
 (sP 6 .mov [.c .nils])])
 (.seq
 (.ops [
 (sH 9 (.load true 10) [.t 3]),
 (sM 10 2),
 (sC 11 104 [.t 9, .t 10]),
 (sM 7 11)])
 (.seq
 (.seq
 (.ops [
 (sP 8 .mov [.c (.int .i64 0)])])
 r05_one_L0)
 (.seq
 (.ops [
 (sP 6 .mov [.c .nils])])
 (.ret [6])))))
def r05_one_I : FInfo := ⟨(.fz false), 3, r05_one_C, [.tmp 6]⟩
def r05_one_A : Ann := ⟨[], [], [(0, [1, 7, 8], [])], [(1, [1, 7, 8])], [3]⟩
abbrev n_r05_one : Nat := 103

/-! ### balise/baliseref05.Ends -/
def r05_Ends_B0 : CCode :=
 (.seq
 (.seq
 (.ops [
 (sM 7 6),
 (sP 8 (.faddr 1) [.t 2]),
 (sH 9 (.load false 1) [.t 8]),
 (sP 10 .len [.t 9]),
 (sP 11 (.bin .lss .ifc) [.t 7, .t 10])])
 (.cond (.t 11)
 .skip
 (.exit 0)))
 (.seq
 (.block 1 (some [1, 2, 5, 6])
 (.seq
 (.seq
 (.ops [
 (sP 14 (.faddr 1) [.t 2]),
 (sH 15 (.load false 1) [.t 14]),
 (sM 16 6),
 (sP 17 (.iaddr 3) [.t 15, .t 16]),
 (sP 18 (.faddr 1) [.t 17]),
 (sH 19 (.load false 1) [.t 18]),
 (sM 20 1),
 (sP 21 (.bin .eql .int) [.t 19, .t 20])])
 (.cond (.t 21)
 (.ops [
 (sM 22 5),
 (sM 23 6),
 (sP 24 (.bld [(.int .i64 0), (.int .i64 0)] [(0, 1), (1, 1)]) [.t 23, .c (.int .i64 0)]),
 (sH 25 (.bslF 2 1 [(.int .i64 0), (.int .i64 0)] [(0, 2)]) [.t 24]),
 (sH 26 (.app 2 16 [(.int .i64 0), (.int .i64 0)]) [.t 22, .t 25]),
 (sM 5 26)])
 .skip))
 (.seq
 (.ops [
 (sP 27 (.faddr 1) [.t 2]),
 (sH 28 (.load false 1) [.t 27]),
 (sM 29 6),
 (sP 30 (.iaddr 3) [.t 28, .t 29]),
 (sP 31 (.faddr 2) [.t 30]),
 (sH 32 (.load false 1) [.t 31]),
 (sM 33 1),
 (sP 34 (.bin .eql .int) [.t 32, .t 33])])
 (.cond (.t 34)
 (.ops [
 (sM 35 5),
 (sM 36 6),
 (sP 37 (.bld [(.int .i64 0), (.int .i64 0)] [(0, 1), (1, 1)]) [.t 36, .c (.int .i64 1)]),
 (sH 38 (.bslF 2 1 [(.int .i64 0), (.int .i64 0)] [(0, 2)]) [.t 37]),
 (sH 39 (.app 2 16 [(.int .i64 0), (.int .i64 0)]) [.t 35, .t 38]),
 (sM 5 39)])
 .skip))))
 (.ops [
 (sM 12 6),
 (sP 13 (.bin .add .ifc) [.t 12, .c (.int .i64 1)]),
 (sM 6 13)])))
def r05_Ends_L0 : CCode := .bloop 0 [1, 2, 5, 6] [5] r05_Ends_B0
def r05_Ends_C : CCode :=
 (.seq
 (.ops [
 (sH 2 (.box 2) [.t 0]),
 (sP 4 .mov [.c .nils])])
 (.seq
 (.ops [
 (sP 5 .mov [.c .nils])])
 (.seq
 (.seq
 (.ops [
 (sP 6 .mov [.c (.int .i64 0)])])
 r05_Ends_L0)
 (.seq
 (.ops [
 (sM 40 5),
 (sM 4 40)])
 (.ret [4])))))
def r05_Ends_I : FInfo := ⟨(.fz false), 2, r05_Ends_C, [.tmp 4]⟩
def r05_Ends_A : Ann := ⟨[], [], [(0, [1, 2, 5, 6], [5])], [(1, [1, 2, 5, 6])], [2]⟩
abbrev n_r05_Ends : Nat := 104

/-! ### (*balise/graph.Graph).node -/
def graph_Graph_node_C : CCode :=
 (.seq
 (.ops [
 (sH 3 (.box 3) [.t 1]),
 (sP 4 .mov [.c (.int .i64 0)]),
 (sP 5 .mov [.c (.bool false)])])
 (.seq
 (.ops [
 (sM 9 0),
 (sP 10 (.faddr 0) [.t 3]),
 (sH 11 (.load false 1) [.t 10]),
 (sC 12 90 [.t 9, .t 11]),
 (sM 8 12),
 (sP 13 (.ext 0) [.t 8]),
 (sP 14 (.ext 1) [.t 8]),
 (sH 6 (.newl 6 [(.int .i64 0), (.int .i64 0), (.int .i64 0)]) []),
 (sHn (.store 3) [.t 6, .t 13]),
 (sM 7 14)])
 (.seq
 (.block 0 (some [])
 (.seq
 (.ops [
 (sM 16 7),
 (sM 17 16),
 (sG (sP 18 (.faddr 1) [.t 3]) 17 true),
 (sG (sH 19 (.load false 1) [.t 18]) 17 true),
 (sG (sP 20 (.bin .eql .int) [.t 19, .c (.int .i64 0)]) 17 true),
 (sP 21 .pick [.t 17, .t 20, .c (.bool false)]),
 (sM 15 21)])
 (.cond (.t 15)
 (.seq
 (.ops [
 (sP 22 (.faddr 1) [.t 6]),
 (sH 23 (.load false 1) [.t 22]),
 (sM 4 23),
 (sP 5 .mov [.c (.bool true)])])
 (.ret [4, 5]))
 (.seq
 (.ops [
 (sM 25 7),
 (sM 26 25),
 (sG (sP 27 (.faddr 1) [.t 3]) 26 true),
 (sG (sH 28 (.load false 1) [.t 27]) 26 true),
 (sG (sP 29 (.bin .eql .int) [.t 28, .c (.int .i64 1)]) 26 true),
 (sP 30 .pick [.t 26, .t 29, .c (.bool false)]),
 (sM 24 30)])
 (.cond (.t 24)
 (.seq
 (.ops [
 (sP 31 (.faddr 2) [.t 6]),
 (sH 32 (.load false 1) [.t 31]),
 (sM 4 32),
 (sP 5 .mov [.c (.bool true)])])
 (.ret [4, 5]))
 .skip)))))
 (.seq
 (.ops [
 (sP 4 .mov [.c (.int .i64 0)]),
 (sP 5 .mov [.c (.bool false)])])
 (.ret [4, 5])))))
def graph_Graph_node_I : FInfo := ⟨(.fz false), 2, graph_Graph_node_C, [.tmp 4, .tmp 5]⟩
def graph_Graph_node_A : Ann := ⟨[], [], [], [(0, [])], [3, 6]⟩
abbrev n_graph_Graph_node : Nat := 94

/-! ### (*balise/graph.Graph).Point -/
def graph_Graph_Point_C : CCode :=
 (.seq
 (.ops [
 (sH 3 .boxh [.t 1]),
 (sP 4 .mov [.c (.int .i64 0)])])
 (.seq
 (.seq
 (.ops [
 (sM 5 0),
 (sP 6 (.bin .eql .ptr) [.t 5, .c .nilp])])
 (.cond (.t 6)
 (.seq
 (.ops [
 (sP 4 .mov [.c (.int .i64 (-1))])])
 (.ret [4]))
 .skip))
 (.seq
 (.ops [
 (sM 7 0),
 (sP 8 .nchk [.t 7]),
 (sP 9 (.faddr 0) [.t 8]),
 (sP 10 (.faddr 3) [.t 9]),
 (sH 11 (.load false 1) [.t 10]),
 (sP 12 (.mkfn (.func 113) 0) [.t 3]),
 (sC 13 112 [.t 11, .t 12]),
 (sM 4 13)])
 (.ret [4]))))
def graph_Graph_Point_I : FInfo := ⟨(.fz false), 2, graph_Graph_Point_C, [.tmp 4]⟩
def graph_Graph_Point_A : Ann := ⟨[3], [], [], [], []⟩
abbrev n_graph_Graph_Point : Nat := 95

/-! ### slices.DeleteFunc[[]balise/api.End,balise/api.End] -/
def slices_DeleteFunc_End_B0 : CCode :=
 (.seq
 (.seq
 (.ops [
 (sM 16 6),
 (sM 17 0),
 (sP 18 .len [.t 17]),
 (sP 19 (.bin .lss .ifc) [.t 16, .t 18])])
 (.cond (.t 19)
 .skip
 (.exit 0)))
 (.seq
 (.block 1 (some [0, 1, 5, 6])
 (.seq
 (.ops [
 (sM 22 0),
 (sM 23 6),
 (sP 24 (.iaddr 2) [.t 22, .t 23]),
 (sH 25 (.load true 2) [.t 24]),
 (sH 7 (.newl 7 [(.int .i64 0), (.int .i64 0)]) []),
 (sHn (.store 2) [.t 7, .t 25])])
 (.seq
 (.ops [
 (sM 26 1),
 (sH 27 (.load true 2) [.t 7]),
 ⟨(some 28), .call, [.t 26, .t 27], none⟩,
 (sP 29 (.un .not) [.t 28])])
 (.cond (.t 29)
 (.seq
 (.ops [
 (sM 30 0),
 (sM 31 5),
 (sH 32 (.load true 2) [.t 7]),
 (sP 33 (.iaddr 2) [.t 30, .t 31]),
 (sHn (.store 2) [.t 33, .t 32])])
 (.ops [
 (sM 34 5),
 (sP 35 (.bin .add .ifc) [.t 34, .c (.int .i64 1)]),
 (sM 5 35)]))
 .skip))))
 (.ops [
 (sM 20 6),
 (sP 21 (.bin .add .ifc) [.t 20, .c (.int .i64 1)]),
 (sM 6 21)])))
def slices_DeleteFunc_End_L0 : CCode := .bloop 0 [0, 1, 5, 6] [0, 5] slices_DeleteFunc_End_B0
def slices_DeleteFunc_End_C : CCode :=
 (.seq
 (.ops [
 (sP 4 .mov [.c .nils])])
 (.seq
 (.ops [
 (sM 8 0),
 (sM 9 1),
 (sC 10 77 [.t 8, .t 9]),
 (sM 5 10)])
 (.seq
 (.seq
 (.ops [
 (sM 11 5),
 (sP 12 (.bin .eql .int) [.t 11, .c (.int .i64 (-1))])])
 (.cond (.t 12)
 (.seq
 (.ops [
 (sM 13 0),
 (sM 4 13)])
 (.ret [4]))
 .skip))
 (.seq
 (.seq
 (.ops [
 (sM 14 5),
 (sP 15 (.bin .add .ifc) [.t 14, .c (.int .i64 1)]),
 (sM 6 15)])
 slices_DeleteFunc_End_L0)
 (.seq
 (.ops [
 (sM 36 0),
 (sM 37 5),
 (sP 38 (.slc 2 true false) [.t 36, .t 37]),
 (sHn (.clear 2 [(.int .i64 0), (.int .i64 0)]) [.t 38])])
 (.seq
 (.ops [
 (sM 39 0),
 (sM 40 5),
 (sP 41 (.slc 2 false true) [.t 39, .t 40]),
 (sM 4 41)])
 (.ret [4])))))))
def slices_DeleteFunc_End_I : FInfo := ⟨.ref, 2, slices_DeleteFunc_End_C, [.tmp 4]⟩
def slices_DeleteFunc_End_A : Ann := ⟨[], [], [(0, [0, 1, 5, 6], [0, 5])], [(1, [0, 1, 5, 6])], [7]⟩
abbrev n_slices_DeleteFunc_End : Nat := 96

/-! ### (*balise/graph.Graph).Ends -/
def graph_Graph_Ends_B2 : CCode :=
 (.seq
 (.ops [
 (sP 28 (.bin .lss .ifc) [.t 27, .c (.int .i64 2)])])
 (.seq
 (.cond (.t 28)
 .skip
 (.exit 2))
 (.seq
 (.block 3 (some [0, 1, 5, 6, 26, 27])
 (.seq
 (.ops [
 (sM 29 27),
 (sP 30 (.idxA 2 false 1) [.t 26, .t 27]),
 (sM 9 29),
 (sM 10 30)])
 (.seq
 (.ops [
 (sM 31 10),
 (sM 32 1),
 (sP 33 (.bin .eql .int) [.t 31, .t 32])])
 (.cond (.t 33)
 (.ops [
 (sM 34 5),
 (sM 35 6),
 (sM 36 9),
 (sP 37 (.bld [(.int .i64 0), (.int .i64 0)] [(0, 1), (1, 1)]) [.t 35, .t 36]),
 (sH 38 (.bslF 2 1 [(.int .i64 0), (.int .i64 0)] [(0, 2)]) [.t 37]),
 (sH 39 (.app 2 16 [(.int .i64 0), (.int .i64 0)]) [.t 34, .t 38]),
 (sM 5 39)])
 .skip))))
 (.ops [
 (sP 40 (.bin .add .ifc) [.t 27, .c (.int .i64 1)]),
 (sM 27 40)]))))
def graph_Graph_Ends_L2 : CCode := .bloop 2 [0, 1, 5, 6, 26, 27] [0, 1, 5, 6] graph_Graph_Ends_B2

def graph_Graph_Ends_B0 : CCode :=
 (.seq
 (.block 1 (some [0, 1, 5, 6])
 (.seq
 (.ops [
 (sM 14 0),
 (sM 15 6),
 (sC 16 90 [.t 14, .t 15]),
 (sM 13 16),
 (sP 17 (.ext 0) [.t 13]),
 (sP 18 (.ext 1) [.t 13]),
 (sH 7 (.newl 7 [(.int .i64 0), (.int .i64 0), (.int .i64 0)]) []),
 (sHn (.store 3) [.t 7, .t 17]),
 (sM 8 18)])
 (.seq
 (.seq
 (.ops [
 (sM 19 8),
 (sP 20 (.un .not) [.t 19])])
 (.cond (.t 20)
 (.seq
 (.ops [
 (sM 21 5),
 (sM 4 21)])
 (.ret [4]))
 .skip))
 (.seq
 (.ops [
 (sP 22 (.faddr 1) [.t 7]),
 (sH 23 (.load false 1) [.t 22]),
 (sP 24 (.faddr 2) [.t 7]),
 (sH 25 (.load false 1) [.t 24]),
 (sP 26 (.bld [(.int .i64 0), (.int .i64 0)] [(0, 1), (1, 1)]) [.t 23, .t 25]),
 (sP 27 .mov [.c (.int .i64 0)])])
 graph_Graph_Ends_L2))))
 (.ops [
 (sM 11 6),
 (sP 12 (.bin .add .ifc) [.t 11, .c (.int .i64 1)]),
 (sM 6 12)]))
def graph_Graph_Ends_L0 : CCode := .bloop 0 [0, 1, 5, 6] [] graph_Graph_Ends_B0
def graph_Graph_Ends_C : CCode :=
 (.seq
 (.ops [
 (sP 4 .mov [.c .nils])])
 (.seq
 (.ops [
 (sP 5 .mov [.c .nils])])
 (.seq
 (.ops [
 (sP 6 .mov [.c (.int .i64 0)])])
 graph_Graph_Ends_L0)))
def graph_Graph_Ends_I : FInfo := ⟨.own, 2, graph_Graph_Ends_C, [.tmp 4]⟩
def graph_Graph_Ends_A : Ann := ⟨[], [], [(0, [0, 1, 5, 6], []), (2, [0, 1, 5, 6, 26, 27], [0, 1, 5, 6])], [(1, [0, 1, 5, 6]), (3, [0, 1, 5, 6, 26, 27])], [7]⟩
abbrev n_graph_Graph_Ends : Nat := 97

/-! ### (*balise/graph.Graph).Around$1 -/
def graph_Graph_Around_1_C : CCode :=
 (.seq
 (.ops [
 (sH 2 (.box 2) [.t 0]),
 (sP 3 .mov [.c (.bool false)])])
 (.seq
 (.ops [
 (sH 4 (.load true 2) [.t 2]),
 (sH 5 (.load true 2) [.t 1]),
 (sP 6 (.bin .eql (.parts [(0, false, 1, .int), (1, false, 1, .int)])) [.t 4, .t 5]),
 (sM 3 6)])
 (.ret [3])))
def graph_Graph_Around_1_I : FInfo := ⟨(.fz false), 2, graph_Graph_Around_1_C, [.tmp 3]⟩
def graph_Graph_Around_1_A : Ann := ⟨[], [], [], [], [2]⟩
abbrev n_graph_Graph_Around_1 : Nat := 98

/-! ### slices.Concat[[]balise/api.End,balise/api.End] -/
def slices_Concat_End_B0 : CCode :=
 (.seq
 (.ops [
 (sP 12 (.bin .lss .ifc) [.t 11, .t 10])])
 (.seq
 (.cond (.t 12)
 .skip
 (.exit 0))
 (.seq
 (.block 1 (some [0, 3, 9, 10, 11])
 (.seq
 (.ops [
 (sP 13 (.iaddr 1) [.t 9, .t 11]),
 (sH 14 (.load false 1) [.t 13]),
 (sM 5 14)])
 (.seq
 (.ops [
 (sM 15 3),
 (sM 16 5),
 (sP 17 .len [.t 16]),
 (sP 18 (.bin .add .ifc) [.t 15, .t 17]),
 (sM 3 18)])
 (.seq
 (.ops [
 (sM 19 3),
 (sP 20 (.bin .lss .ifc) [.t 19, .c (.int .i64 0)])])
 (.cond (.t 20)
 bad
 .skip)))))
 (.ops [
 (sP 22 (.bin .add .ifc) [.t 11, .c (.int .i64 1)]),
 (sM 11 22)]))))
def slices_Concat_End_L0 : CCode := .bloop 0 [0, 3, 9, 10, 11] [0, 3] slices_Concat_End_B0

def slices_Concat_End_B2 : CCode :=
 (.seq
 (.ops [
 (sP 28 (.bin .lss .ifc) [.t 27, .t 26])])
 (.seq
 (.cond (.t 28)
 .skip
 (.exit 2))
 (.seq
 (.block 3 (some [6, 25, 26, 27])
 (.seq
 (.ops [
 (sP 29 (.iaddr 1) [.t 25, .t 27]),
 (sH 30 (.load false 1) [.t 29]),
 (sM 8 30)])
 (.ops [
 (sM 31 6),
 (sM 32 8),
 (sH 33 (.app 2 16 [(.int .i64 0), (.int .i64 0)]) [.t 31, .t 32]),
 (sM 6 33)])))
 (.ops [
 (sP 34 (.bin .add .ifc) [.t 27, .c (.int .i64 1)]),
 (sM 27 34)]))))
def slices_Concat_End_L2 : CCode := .bloop 2 [6, 25, 26, 27] [6] slices_Concat_End_B2
def slices_Concat_End_C : CCode :=
 (.seq
 (.ops [
 (sP 2 .mov [.c .nils])])
 (.seq
 (.ops [
 (sP 3 .mov [.c (.int .i64 0)])])
 (.seq
 (.seq
 (.ops [
 (sM 9 0),
 (sP 10 .len [.t 9]),
 (sP 11 .mov [.c (.int .i64 0)])])
 slices_Concat_End_L0)
 (.seq
 (.ops [
 (sM 23 3),
 (sC 24 114 [.c .nils, .t 23]),
 (sM 6 24)])
 (.seq
 (.seq
 (.ops [
 (sM 25 0),
 (sP 26 .len [.t 25]),
 (sP 27 .mov [.c (.int .i64 0)])])
 slices_Concat_End_L2)
 (.seq
 (.ops [
 (sM 35 6),
 (sM 2 35)])
 (.ret [2])))))))
def slices_Concat_End_I : FInfo := ⟨(.fz false), 1, slices_Concat_End_C, [.tmp 2]⟩
def slices_Concat_End_A : Ann := ⟨[], [], [(0, [0, 3, 9, 10, 11], [0, 3]), (2, [6, 25, 26, 27], [6])], [(1, [0, 3, 9, 10, 11]), (3, [6, 25, 26, 27])], []⟩
abbrev n_slices_Concat_End : Nat := 99

/-! ### (*balise/graph.Graph).at -/
def graph_Graph_at_B0 : CCode :=
 (.seq
 (.ops [
 (sP 14 (.bin .lss .ifc) [.t 13, .t 12])])
 (.seq
 (.cond (.t 14)
 .skip
 (.exit 0))
 (.seq
 (.block 1 (some [1, 11, 12, 13])
 (.seq
 (.ops [
 (sP 15 (.iaddr 2) [.t 11, .t 13]),
 (sH 16 (.load true 2) [.t 15]),
 (sH 8 (.newl 8 [(.int .i64 0), (.int .i64 0)]) []),
 (sHn (.store 2) [.t 8, .t 16])])
 (.seq
 (.ops [
 (sP 17 (.faddr 0) [.t 8]),
 (sH 18 (.load false 1) [.t 17]),
 (sM 19 1),
 (sP 20 (.bin .eql .int) [.t 18, .t 19])])
 (.cond (.t 20)
 (.seq
 (.ops [
 (sH 21 (.load true 2) [.t 8]),
 (sH 22 (.bslF 2 1 [(.int .i64 0), (.int .i64 0)] [(0, 2)]) [.t 21]),
 (sM 6 22)])
 (.ret [6]))
 .skip))))
 (.ops [
 (sP 23 (.bin .add .ifc) [.t 13, .c (.int .i64 1)]),
 (sM 13 23)]))))
def graph_Graph_at_L0 : CCode := .bloop 0 [1, 11, 12, 13] [] graph_Graph_at_B0
def graph_Graph_at_C : CCode :=
 (.seq
 (.ops [
 (sP 6 .mov [.c .nils])])
 (.seq
 (.seq
 (.ops [
 (sM 9 0),
 (sM 10 2),
 (sC 11 97 [.t 9, .t 10]),
 (sP 12 .len [.t 11]),
 (sP 13 .mov [.c (.int .i64 0)])])
 graph_Graph_at_L0)
 (.seq
 (.ops [
 (sP 6 .mov [.c .nils])])
 (.ret [6]))))
def graph_Graph_at_I : FInfo := ⟨(.fz false), 3, graph_Graph_at_C, [.tmp 6]⟩
def graph_Graph_at_A : Ann := ⟨[], [], [(0, [1, 11, 12, 13], [])], [(1, [1, 11, 12, 13])], [8]⟩
abbrev n_graph_Graph_at : Nat := 100

/-! ### slices.IndexFunc[[]balise/api.Point,balise/api.Point] -/
def slices_IndexFunc_Point_B0 : CCode :=
 (.seq
 (.ops [
 (sP 9 (.bin .lss .ifc) [.t 8, .t 7])])
 (.seq
 (.cond (.t 9)
 .skip
 (.exit 0))
 (.seq
 (.block 1 (some [0, 1, 7, 8])
 (.seq
 (.ops [
 (sM 10 8),
 (sM 5 10)])
 (.seq
 (.ops [
 (sM 11 1),
 (sM 12 0),
 (sM 13 5),
 (sP 14 (.iaddr 4) [.t 12, .t 13]),
 (sH 15 (.load true 4) [.t 14]),
 ⟨(some 16), .call, [.t 11, .t 15], none⟩])
 (.cond (.t 16)
 (.seq
 (.ops [
 (sM 17 5),
 (sM 4 17)])
 (.ret [4]))
 .skip))))
 (.ops [
 (sP 18 (.bin .add .ifc) [.t 8, .c (.int .i64 1)]),
 (sM 8 18)]))))
def slices_IndexFunc_Point_L0 : CCode := .bloop 0 [0, 1, 7, 8] [] slices_IndexFunc_Point_B0
def slices_IndexFunc_Point_C : CCode :=
 (.seq
 (.ops [
 (sP 4 .mov [.c (.int .i64 0)])])
 (.seq
 (.seq
 (.ops [
 (sM 6 0),
 (sP 7 .len [.t 6]),
 (sP 8 .mov [.c (.int .i64 0)])])
 slices_IndexFunc_Point_L0)
 (.seq
 (.ops [
 (sP 4 .mov [.c (.int .i64 (-1))])])
 (.ret [4]))))
def slices_IndexFunc_Point_I : FInfo := ⟨(.fz false), 2, slices_IndexFunc_Point_C, [.tmp 4]⟩
def slices_IndexFunc_Point_A : Ann := ⟨[], [], [(0, [0, 1, 7, 8], [])], [(1, [0, 1, 7, 8])], []⟩
abbrev n_slices_IndexFunc_Point : Nat := 112

/-! ### (*balise/graph.Graph).Point$1 -/
def graph_Graph_Point_1_C : CCode :=
 (.seq
 (.ops [
 (sH 2 (.box 2) [.t 0]),
 (sP 3 .mov [.c (.bool false)])])
 (.seq
 (.ops [
 (sP 4 (.faddr 0) [.t 2]),
 (sH 5 (.load false 1) [.t 4]),
 (sH 6 (.load false 1) [.t 1]),
 (sP 7 (.bin .eql .int) [.t 5, .t 6]),
 (sM 3 7)])
 (.ret [3])))
def graph_Graph_Point_1_I : FInfo := ⟨(.fz false), 2, graph_Graph_Point_1_C, [.tmp 3]⟩
def graph_Graph_Point_1_A : Ann := ⟨[], [], [], [], [2]⟩
abbrev n_graph_Graph_Point_1 : Nat := 113

/-! ### slices.Grow[[]balise/api.End,balise/api.End] -/
def slices_Grow_End_C : CCode :=
 (.seq
 (.ops [
 (sP 4 .mov [.c .nils])])
 (.seq
 (.seq
 (.ops [
 (sM 5 1),
 (sP 6 (.bin .lss .ifc) [.t 5, .c (.int .i64 0)])])
 (.cond (.t 6)
 bad
 .skip))
 (.seq
 (.seq
 (.ops [
 (sM 8 1),
 (sM 9 0),
 (sP 10 .cap [.t 9]),
 (sM 11 0),
 (sP 12 .len [.t 11]),
 (sP 13 (.bin .sub .ifc) [.t 10, .t 12]),
 (sP 14 (.bin .sub .ifc) [.t 8, .t 13]),
 (sM 1 14)])
 (.seq
 (.ops [
 (sM 15 1),
 (sP 16 (.bin .gtr .ifc) [.t 15, .c (.int .i64 0)])])
 (.cond (.t 16)
 (.ops [
 (sM 17 0),
 (sM 18 0),
 (sP 19 .cap [.t 18]),
 (sP 20 (.slc 2 false true) [.t 17, .t 19]),
 (sM 21 1),
 (sH 22 (.appz 2 16 [(.int .i64 0), (.int .i64 0)]) [.t 20, .t 21]),
 (sM 23 0),
 (sP 24 .len [.t 23]),
 (sP 25 (.slc 2 false true) [.t 22, .t 24]),
 (sM 0 25)])
 .skip)))
 (.seq
 (.ops [
 (sM 26 0),
 (sM 4 26)])
 (.ret [4])))))
def slices_Grow_End_I : FInfo := ⟨.ref, 2, slices_Grow_End_C, [.tmp 4]⟩
def slices_Grow_End_A : Ann := ⟨[], [], [], [], []⟩
abbrev n_slices_Grow_End : Nat := 114

/-! ### (*balise/graph.Graph).Next -/
def graph_Graph_Next_C : CCode :=
 (.seq
 (.ops [
 (sH 4 (.box 4) [.t 1]),
 (sH 6 (.newl 6 [(.int .i64 0), (.int .i64 0)]) []),
 (sP 7 .mov [.c (.bool false)])])
 (.seq
 (.ops [
 (sM 15 0),
 (sH 16 (.load true 2) [.t 4]),
 (sC 17 76 [.t 15, .t 16]),
 (sM 8 17)])
 (.seq
 (.seq
 (.ops [
 (sM 18 8),
 (sP 19 .len [.t 18]),
 (sP 20 (.bin .eql .int) [.t 19, .c (.int .i64 0)])])
 (.cond (.t 20)
 (.seq
 (.ops [
 (sP 21 (.bld [(.int .i64 0), (.int .i64 0)] []) []),
 (sHn (.store 2) [.t 6, .t 21]),
 (sP 7 .mov [.c (.bool false)])])
 (.ret [6, 7]))
 .skip))
 (.seq
 (.ops [
 (sM 23 0),
 (sH 24 (.load true 2) [.t 4]),
 (sC 25 94 [.t 23, .t 24]),
 (sM 22 25),
 (sP 26 (.ext 0) [.t 22]),
 (sP 27 (.ext 1) [.t 22]),
 (sM 9 26),
 (sM 10 27)])
 (.seq
 (.ops [
 (sM 28 0),
 (sM 29 9),
 (sC 30 95 [.t 28, .t 29]),
 (sM 11 30)])
 (.seq
 (.seq
 (.ops [
 (sM 31 11),
 (sP 32 (.bin .lss .ifc) [.t 31, .c (.int .i64 0)])])
 (.cond (.t 32)
 (.seq
 (.ops [
 (sM 33 8),
 (sP 34 (.iaddr 2) [.t 33, .c (.int .i64 0)]),
 (sH 35 (.load true 2) [.t 34]),
 (sHn (.store 2) [.t 6, .t 35]),
 (sP 7 .mov [.c (.bool true)])])
 (.ret [6, 7]))
 .skip))
 (.seq
 (.ops [
 (sM 36 0),
 (sP 37 .nchk [.t 36]),
 (sP 38 (.faddr 0) [.t 37]),
 (sP 39 (.faddr 3) [.t 38]),
 (sH 40 (.load false 1) [.t 39]),
 (sM 41 11),
 (sP 42 (.iaddr 4) [.t 40, .t 41]),
 (sH 43 (.load true 4) [.t 42]),
 (sH 12 (.newl 12 [(.int .i64 0), (.int .i64 0), (.int .i64 0), (.int .i64 0)]) []),
 (sHn (.store 4) [.t 12, .t 43])])
 (.seq
 (.ops [
 (sP 44 (.faddr 2) [.t 12]),
 (sH 45 (.load false 1) [.t 44]),
 (sH 13 (.newh [(.int .i64 0)]) []),
 (sHn (.store 1) [.t 13, .t 45])])
 (.seq
 (.seq
 (.ops [
 (sM 46 2),
 (sM 47 11),
 (sC 48 108 [.t 46, .t 47])])
 (.cond (.t 48)
 (.ops [
 (sP 49 (.faddr 3) [.t 12]),
 (sH 50 (.load false 1) [.t 49]),
 (sHn (.store 1) [.t 13, .t 50])])
 .skip))
 (.seq
 (.seq
 (.ops [
 (sP 51 (.faddr 0) [.t 4]),
 (sH 52 (.load false 1) [.t 51])])
 (.block 0 (some [6])
 (.seq
 (.ops [
 (sP 54 (.faddr 1) [.t 12]),
 (sH 55 (.load false 1) [.t 54]),
 (sP 56 (.bin .eql .int) [.t 52, .t 55]),
 (sM 53 56)])
 (.cond (.t 53)
 (.seq
 (.ops [
 (sM 57 8),
 (sP 58 (.mkfn (.func 109) 0) [.t 13]),
 (sC 59 77 [.t 57, .t 58]),
 (sM 14 59)])
 (.seq
 (.ops [
 (sM 60 14),
 (sP 61 (.bin .geq .ifc) [.t 60, .c (.int .i64 0)])])
 (.cond (.t 61)
 (.seq
 (.ops [
 (sM 62 8),
 (sM 63 14),
 (sP 64 (.iaddr 2) [.t 62, .t 63]),
 (sH 65 (.load true 2) [.t 64]),
 (sHn (.store 2) [.t 6, .t 65]),
 (sP 7 .mov [.c (.bool true)])])
 (.ret [6, 7]))
 .skip)))
 (.seq
 (.ops [
 (sH 67 (.load false 1) [.t 13]),
 (sP 68 (.bin .eql .int) [.t 52, .t 67]),
 (sM 66 68)])
 (.cond (.t 66)
 (.seq
 (.ops [
 (sM 69 8),
 (sP 70 (.iaddr 2) [.t 69, .c (.int .i64 0)]),
 (sH 71 (.load true 2) [.t 70]),
 (sHn (.store 2) [.t 6, .t 71]),
 (sP 7 .mov [.c (.bool true)])])
 (.ret [6, 7]))
 .skip))))))
 (.seq
 (.ops [
 (sP 72 (.bld [(.int .i64 0), (.int .i64 0)] []) []),
 (sHn (.store 2) [.t 6, .t 72]),
 (sP 7 .mov [.c (.bool false)])])
 (.ret [6, 7]))))))))))))
def graph_Graph_Next_I : FInfo := ⟨(.fz false), 3, graph_Graph_Next_C, [.cell 6 true 2, .tmp 7]⟩
def graph_Graph_Next_A : Ann := ⟨[13], [], [], [(0, [6])], [4, 6, 12]⟩
abbrev n_graph_Graph_Next : Nat := 91

/-! ### (*balise/graph.Graph).Next$1 -/
def graph_Graph_Next_1_C : CCode :=
 (.seq
 (.ops [
 (sH 2 (.box 2) [.t 0]),
 (sP 3 .mov [.c (.bool false)])])
 (.seq
 (.ops [
 (sP 4 (.faddr 0) [.t 2]),
 (sH 5 (.load false 1) [.t 4]),
 (sH 6 (.load false 1) [.t 1]),
 (sP 7 (.bin .eql .int) [.t 5, .t 6]),
 (sM 3 7)])
 (.ret [3])))
def graph_Graph_Next_1_I : FInfo := ⟨(.fz false), 2, graph_Graph_Next_1_C, [.tmp 3]⟩
def graph_Graph_Next_1_A : Ann := ⟨[], [], [], [], [2]⟩
abbrev n_graph_Graph_Next_1 : Nat := 109

/-! ### balise/graph.stands -/
def graph_stands_C : CCode :=
 (.seq
 (.ops [
 (sP 4 .mov [.c (.bool false)])])
 (.seq
 (.ops [
 (sM 5 1),
 (sM 6 0),
 (sP 7 .len [.t 6]),
 (sP 8 (.bin .lss .ifc) [.t 5, .t 7]),
 (sM 9 8),
 (sG (sM 10 0) 9 true),
 (sG (sM 11 1) 9 true),
 (sG (sP 12 (.iaddr 1) [.t 10, .t 11]) 9 true),
 (sG (sH 13 (.load false 1) [.t 12]) 9 true),
 (sP 14 .pick [.t 9, .t 13, .c (.bool false)]),
 (sM 4 14)])
 (.ret [4])))
def graph_stands_I : FInfo := ⟨(.fz false), 2, graph_stands_C, [.tmp 4]⟩
def graph_stands_A : Ann := ⟨[], [], [], [], []⟩
abbrev n_graph_stands : Nat := 108

/-! ### (*balise/world.World).enter -/
def world_World_enter_C : CCode :=
 (.seq
 (.ops [
 (sP 8 .mov [.c (.bool false)])])
 (.seq
 (.ops [
 (sM 12 0),
 (sP 13 .nchk [.t 12]),
 (sP 14 (.faddr 10) [.t 13]),
 (sB 15 (.load false 1) [.t 14]),
 (sM 16 2),
 (sP 17 .nchk [.t 16]),
 (sP 18 (.faddr 2) [.t 17]),
 (sB 19 (.load false 1) [.t 18]),
 (sP 20 (.iaddr 2) [.t 19, .c (.int .i64 0)]),
 (sB 21 (.load true 2) [.t 20]),
 (sM 22 3),
 (sCb 23 91 [.t 15, .t 21, .t 22]),
 (sM 11 23),
 (sP 24 (.ext 0) [.t 11]),
 (sP 25 (.ext 1) [.t 11]),
 (sH 9 (.newl 9 [(.int .i64 0), (.int .i64 0)]) []),
 (sLn 9 (.store 2) [.t 9, .t 24]),
 (sM 10 25)])
 (.seq
 (.seq
 (.ops [
 (sM 26 10),
 (sP 27 (.un .not) [.t 26]),
 (sM 28 27),
 (sG (sM 29 0) 28 false),
 (sG (sM 30 1) 28 false),
 (sG (sCb 31 37 [.t 29, .t 30]) 28 false),
 (sG (sP 32 (.faddr 0) [.t 9]) 28 false),
 (sG (sL 33 9 (.load false 1) [.t 32]) 28 false),
 (sG (sCb 34 59 [.t 31, .t 33]) 28 false),
 (sP 35 .pick [.t 28, .c (.bool true), .t 34])])
 (.cond (.t 35)
 (.seq
 (.ops [
 (sP 8 .mov [.c (.bool false)])])
 (.ret [8]))
 .skip))
 (.seq
 (.ops [
 (sM 36 2),
 (sM 37 0),
 (sP 38 .nchk [.t 37]),
 (sP 39 (.faddr 10) [.t 38]),
 (sH 40 (.load false 1) [.t 39]),
 (sP 41 (.faddr 0) [.t 9]),
 (sH 42 (.load false 1) [.t 41]),
 (sC 43 67 [.t 40, .t 42]),
 (sP 44 .nchk [.t 36]),
 (sP 45 (.faddr 1) [.t 44]),
 (sHn (.store 1) [.t 45, .t 43])])
 (.seq
 (.ops [
 (sM 46 2),
 (sM 47 2),
 (sP 48 .nchk [.t 47]),
 (sP 49 (.faddr 2) [.t 48]),
 (sB 50 (.load false 1) [.t 49]),
 (sP 51 (.faddr 0) [.t 9]),
 (sL 52 9 (.load false 1) [.t 51]),
 (sP 53 (.faddr 1) [.t 9]),
 (sL 54 9 (.load false 1) [.t 53]),
 (sP 55 (.bin .sub .ifc) [.c (.int .i64 1), .t 54]),
 (sP 56 (.bld [(.int .i64 0), (.int .i64 0)] [(0, 1), (1, 1)]) [.t 52, .t 55]),
 (sB 57 (.bslO 2 1 [(.int .i64 0), (.int .i64 0)] [(0, 2)]) [.t 56]),
 (sCb 58 92 [.t 50, .c (.int .i64 0), .t 57]),
 (sP 59 .nchk [.t 46]),
 (sP 60 (.faddr 2) [.t 59]),
 (sBn (.store 1) [.t 60, .t 58])])
 (.seq
 (.ops [
 (sP 8 .mov [.c (.bool true)])])
 (.ret [8])))))))
def world_World_enter_I : FInfo := ⟨.ref, 4, world_World_enter_C, [.tmp 8]⟩
def world_World_enter_A : Ann := ⟨[], [57], [], [], [9]⟩
abbrev n_world_World_enter : Nat := 71

/-! ### (*balise/world.World).Go -/
def world_World_Go_B0 : CCode :=
 (.seq
 (.seq
 (.ops [
 (sM 21 12),
 (sP 22 (.bin .gtr .ifc) [.t 21, .c (.int .i64 0)])])
 (.cond (.t 22)
 .skip
 (.exit 0)))
 (.block 1 (some [0, 1, 3, 10, 11, 12])
 (.seq
 (.ops [
 (sM 23 12),
 (sM 24 10),
 (sP 25 .nchk [.t 24]),
 (sP 26 (.faddr 1) [.t 25]),
 (sH 27 (.load false 1) [.t 26]),
 (sP 28 .min [.t 23, .t 27]),
 (sM 13 28)])
 (.seq
 (.ops [
 (sM 29 10),
 (sP 30 .nchk [.t 29]),
 (sP 31 (.faddr 1) [.t 30]),
 (sH 32 (.load false 1) [.t 31]),
 (sM 33 13),
 (sP 34 (.bin .sub .ifc) [.t 32, .t 33]),
 (sP 35 .nchk [.t 29]),
 (sP 36 (.faddr 1) [.t 35]),
 (sHn (.store 1) [.t 36, .t 34])])
 (.seq
 (.ops [
 (sM 37 12),
 (sM 38 13),
 (sP 39 (.bin .sub .ifc) [.t 37, .t 38]),
 (sM 12 39)])
 (.seq
 (.ops [
 (sM 40 11),
 (sM 41 13),
 (sP 42 (.bin .add .ifc) [.t 40, .t 41]),
 (sM 11 42)])
 (.seq
 (.ops [
 (sM 43 12),
 (sP 44 (.bin .gtr .ifc) [.t 43, .c (.int .i64 0)]),
 (sM 45 44),
 (sG (sM 46 0) 45 true),
 (sG (sM 47 1) 45 true),
 (sG (sM 48 10) 45 true),
 (sG (sM 49 3) 45 true),
 (sG (sC 50 71 [.t 46, .t 47, .t 48, .t 49]) 45 true),
 (sG (sP 51 (.un .not) [.t 50]) 45 true),
 (sP 52 .pick [.t 45, .t 51, .c (.bool false)])])
 (.cond (.t 52)
 (.exit 0)
 .skip))))))))
def world_World_Go_L0 : CCode := .bloop 0 [0, 1, 3, 10, 11, 12] [0, 10, 11] world_World_Go_B0
def world_World_Go_C : CCode :=
 (.seq
 (.ops [
 (sP 8 .mov [.c (.int .i64 0)]),
 (sP 9 .mov [.c (.int .i64 0)])])
 (.seq
 (.ops [
 (sM 14 0),
 (sM 15 1),
 (sC 16 70 [.t 14, .t 15]),
 (sM 10 16)])
 (.seq
 (.seq
 (.ops [
 (sM 17 10),
 (sP 18 (.bin .eql .ptr) [.t 17, .c .nilp])])
 (.cond (.t 18)
 (.seq
 (.ops [
 (sP 8 .mov [.c (.int .i64 0)]),
 (sP 9 .mov [.c (.int .i64 7)])])
 (.ret [8, 9]))
 .skip))
 (.seq
 (.ops [
 (sP 11 .mov [.c (.int .i64 0)])])
 (.seq
 (.seq
 (.ops [
 (sM 19 2),
 (sP 20 .max [.t 19, .c (.int .i64 0)]),
 (sM 12 20)])
 world_World_Go_L0)
 (.seq
 (.ops [
 (sM 53 10),
 (sM 54 10),
 (sP 55 .nchk [.t 54]),
 (sP 56 (.faddr 2) [.t 55]),
 (sB 57 (.load false 1) [.t 56]),
 (sM 58 0),
 (sM 59 10),
 (sCp 60 72 [.t 58, .t 59]),
 (sP 61 (.slc 2 false true) [.t 57, .t 60]),
 (sP 62 .nchk [.t 53]),
 (sP 63 (.faddr 2) [.t 62]),
 (sBn (.store 1) [.t 63, .t 61])])
 (.seq
 (.ops [
 (sM 64 11),
 (sM 8 64),
 (sP 9 .mov [.c (.int .i64 0)])])
 (.ret [8, 9]))))))))
def world_World_Go_I : FInfo := ⟨.ref, 4, world_World_Go_C, [.tmp 8, .tmp 9]⟩
def world_World_Go_A : Ann := ⟨[], [], [(0, [0, 1, 3, 10, 11, 12], [0, 10, 11])], [(1, [0, 1, 3, 10, 11, 12])], []⟩
abbrev n_world_World_Go : Nat := 34

/-! ### (*balise/world.World).Split -/
def world_World_Split_B1 : CCode :=
 (.seq
 (.seq
 (.ops [
 (sM 55 11),
 (sM 56 0),
 (sP 57 .nchk [.t 56]),
 (sP 58 (.faddr 10) [.t 57]),
 (sH 59 (.load false 1) [.t 58]),
 (sM 60 10),
 (sP 61 (.iaddr 2) [.t 60, .c (.int .i64 0)]),
 (sP 62 (.faddr 0) [.t 61]),
 (sH 63 (.load false 1) [.t 62]),
 (sC 64 67 [.t 59, .t 63]),
 (sP 65 (.bin .geq .ifc) [.t 55, .t 64])])
 (.cond (.t 65)
 .skip
 (.exit 1)))
 (.block 2 (some [0, 2, 3, 9, 10, 11])
 (.seq
 (.ops [
 (sM 66 11),
 (sM 67 0),
 (sP 68 .nchk [.t 67]),
 (sP 69 (.faddr 10) [.t 68]),
 (sH 70 (.load false 1) [.t 69]),
 (sM 71 10),
 (sP 72 (.iaddr 2) [.t 71, .c (.int .i64 0)]),
 (sP 73 (.faddr 0) [.t 72]),
 (sH 74 (.load false 1) [.t 73]),
 (sC 75 67 [.t 70, .t 74]),
 (sP 76 (.bin .sub .ifc) [.t 66, .t 75]),
 (sM 11 76)])
 (.ops [
 (sM 77 10),
 (sP 78 (.slc 2 true false) [.t 77, .c (.int .i64 1)]),
 (sM 10 78)]))))
def world_World_Split_L1 : CCode := .bloop 1 [0, 2, 3, 9, 10, 11] [0, 2, 3, 9, 10, 11] world_World_Split_B1
def world_World_Split_C : CCode :=
 (.seq
 (.ops [
 (sP 8 .mov [.c (.int .i64 0)])])
 (.seq
 (.ops [
 (sM 12 0),
 (sM 13 1),
 (sC 14 70 [.t 12, .t 13]),
 (sM 9 14)])
 (.seq
 (.block 0 (some [0, 2, 3, 9])
 (.seq
 (.ops [
 (sM 16 9),
 (sP 17 (.bin .eql .ptr) [.t 16, .c .nilp]),
 (sM 15 17)])
 (.cond (.t 15)
 (.seq
 (.ops [
 (sP 8 .mov [.c (.int .i64 7)])])
 (.ret [8]))
 (.seq
 (.ops [
 (sM 19 0),
 (sM 20 2),
 (sC 21 66 [.t 19, .t 20]),
 (sM 18 21)])
 (.cond (.t 18)
 (.seq
 (.ops [
 (sP 8 .mov [.c (.int .i64 8)])])
 (.ret [8]))
 (.seq
 (.ops [
 (sM 23 3),
 (sP 24 (.bin .lss .ifc) [.t 23, .c (.int .i64 1)]),
 (sM 25 24),
 (sG (sM 26 3) 25 false),
 (sG (sM 27 9) 25 false),
 (sG (sP 28 .nchk [.t 27]) 25 false),
 (sG (sP 29 (.faddr 0) [.t 28]) 25 false),
 (sG (sH 30 (.load false 1) [.t 29]) 25 false),
 (sG (sP 31 (.bin .geq .ifc) [.t 26, .t 30]) 25 false),
 (sP 32 .pick [.t 25, .c (.bool true), .t 31]),
 (sM 22 32)])
 (.cond (.t 22)
 (.seq
 (.ops [
 (sP 8 .mov [.c (.int .i64 1)])])
 (.ret [8]))
 .skip)))))))
 (.seq
 (.ops [
 (sM 33 9),
 (sP 34 .nchk [.t 33]),
 (sP 35 (.faddr 0) [.t 34]),
 (sH 36 (.load false 1) [.t 35]),
 (sM 37 3),
 (sP 38 (.bin .sub .ifc) [.t 36, .t 37]),
 (sP 39 .nchk [.t 33]),
 (sP 40 (.faddr 0) [.t 39]),
 (sHn (.store 1) [.t 40, .t 38])])
 (.seq
 (.ops [
 (sM 41 9),
 (sP 42 .nchk [.t 41]),
 (sP 43 (.faddr 2) [.t 42]),
 (sB 44 (.load false 1) [.t 43]),
 (sCp 45 73 [.t 44]),
 (sM 46 9),
 (sP 47 .nchk [.t 46]),
 (sP 48 (.faddr 1) [.t 47]),
 (sB 49 (.load false 1) [.t 48]),
 (sM 50 9),
 (sP 51 .nchk [.t 50]),
 (sP 52 (.faddr 0) [.t 51]),
 (sB 53 (.load false 1) [.t 52]),
 (sP 54 (.bin .add .ifc) [.t 49, .t 53]),
 (sM 10 45),
 (sM 11 54)])
 (.seq
 world_World_Split_L1
 (.seq
 (.ops [
 (sM 79 0),
 (sP 80 .nchk [.t 79]),
 (sP 81 (.faddr 11) [.t 80]),
 (sH 82 (.load false 1) [.t 81]),
 (sM 83 2),
 (sM 84 3),
 (sM 85 11),
 (sM 86 10),
 (sP 87 (.bld [(.int .i64 0), (.int .i64 0), .nils] [(0, 1), (1, 1), (2, 1)]) [.t 84, .t 85, .t 86]),
 (sH 88 .boxh [.t 87]),
 (sHn (.mput 0) [.t 82, .t 83, .t 88])])
 (.seq
 (.ops [
 (sM 89 9),
 (sM 90 9),
 (sP 91 .nchk [.t 90]),
 (sP 92 (.faddr 2) [.t 91]),
 (sB 93 (.load false 1) [.t 92]),
 (sM 94 0),
 (sM 95 9),
 (sCp 96 72 [.t 94, .t 95]),
 (sP 97 (.slc 2 false true) [.t 93, .t 96]),
 (sP 98 .nchk [.t 89]),
 (sP 99 (.faddr 2) [.t 98]),
 (sBn (.store 1) [.t 99, .t 97])])
 (.seq
 (.ops [
 (sP 8 .mov [.c (.int .i64 0)])])
 (.ret [8]))))))))))
def world_World_Split_I : FInfo := ⟨.ref, 4, world_World_Split_C, [.tmp 8]⟩
def world_World_Split_A : Ann := ⟨[88], [], [(1, [0, 2, 3, 9, 10, 11], [0, 2, 3, 9, 10, 11])], [(0, [0, 2, 3, 9]), (2, [0, 2, 3, 9, 10, 11])], []⟩
abbrev n_world_World_Split : Nat := 38

/-! ### (*balise/world.World).Report -/
def world_World_Report_C : CCode :=
 (.seq
 (.ops [
 (sH 6 (.newl 6 [(.int .u8 0), (.int .i64 0), (.int .i64 0), (.int .i64 0), (.int .i64 0), (.bool false), .nils]) []),
 (sP 7 .mov [.c (.bool false)])])
 (.seq
 (.ops [
 (sM 11 0),
 (sM 12 1),
 (sC 13 70 [.t 11, .t 12]),
 (sM 8 13)])
 (.seq
 (.seq
 (.ops [
 (sM 14 8),
 (sP 15 (.bin .eql .ptr) [.t 14, .c .nilp])])
 (.cond (.t 15)
 (.seq
 (.ops [
 (sP 16 (.bld [(.int .u8 0), (.int .i64 0), (.int .i64 0), (.int .i64 0), (.int .i64 0), (.bool false), .nils] []) []),
 (sHn (.store 7) [.t 6, .t 16]),
 (sP 7 .mov [.c (.bool false)])])
 (.ret [6, 7]))
 .skip))
 (.seq
 (.ops [
 (sM 17 0),
 (sM 18 1),
 (sC 19 37 [.t 17, .t 18]),
 (sM 9 19)])
 (.seq
 (.ops [
 (sM 20 1),
 (sM 21 2),
 (sM 22 8),
 (sP 23 .nchk [.t 22]),
 (sP 24 (.faddr 2) [.t 23]),
 (sB 25 (.load false 1) [.t 24]),
 (sP 26 (.iaddr 2) [.t 25, .c (.int .i64 0)]),
 (sP 27 (.faddr 1) [.t 26]),
 (sB 28 (.load false 1) [.t 27]),
 (sM 29 8),
 (sP 30 .nchk [.t 29]),
 (sP 31 (.faddr 1) [.t 30]),
 (sB 32 (.load false 1) [.t 31]),
 (sM 33 9),
 (sP 34 .len [.t 33]),
 (sP 35 (.bin .leq .ifc) [.t 34, .c (.int .i64 12)]),
 (sP 36 (.bld [(.int .u8 0), (.int .i64 0), (.int .i64 0), (.int .i64 0), (.int .i64 0), (.bool false), .nils] [(0, 1), (1, 1), (2, 1), (3, 1), (4, 1), (5, 1)]) [.c (.int .u8 3), .t 20, .t 21, .t 28, .t 32, .t 35]),
 (sH 10 (.newl 10 [(.int .u8 0), (.int .i64 0), (.int .i64 0), (.int .i64 0), (.int .i64 0), (.bool false), .nils]) []),
 (sLn 10 (.store 7) [.t 10, .t 36])])
 (.seq
 (.ops [
 (sM 37 9),
 (sM 38 9),
 (sP 39 .len [.t 38]),
 (sP 40 .min [.t 39, .c (.int .i64 12)]),
 (sP 41 (.slc 1 false true) [.t 37, .t 40]),
 (sP 42 (.faddr 6) [.t 10]),
 (sHn (.store 1) [.t 42, .t 41])])
 (.seq
 (.ops [
 (sH 43 (.load true 7) [.t 10]),
 (sHn (.store 7) [.t 6, .t 43]),
 (sP 7 .mov [.c (.bool true)])])
 (.ret [6, 7]))))))))
def world_World_Report_I : FInfo := ⟨.ref, 3, world_World_Report_C, [.cell 6 true 7, .tmp 7]⟩
def world_World_Report_A : Ann := ⟨[], [], [], [], [6, 10]⟩
abbrev n_world_World_Report : Nat := 35

/-! ### (*balise/world.World).Detect -/
def world_World_Detect_B0 : CCode :=
 (.seq
 (.ops [
 (sP 16 (.bin .lss .ifc) [.t 15, .t 14])])
 (.seq
 (.cond (.t 16)
 .skip
 (.exit 0))
 (.seq
 (.block 1 (some [0, 3, 13, 14, 15])
 (.seq
 (.ops [
 (sP 17 (.iaddr 1) [.t 13, .t 15]),
 (sH 18 (.load false 1) [.t 17]),
 (sM 5 18)])
 (.seq
 (.ops [
 (sP 6 .mov [.c (.int .u8 0)])])
 (.seq
 (.seq
 (.ops [
 (sM 19 5),
 (sM 20 0),
 (sP 21 (.mkfn (.func 46) 1) [.t 20]),
 (sC 22 57 [.t 19, .t 21])])
 (.cond (.t 22)
 (.ops [
 (sP 6 .mov [.c (.int .u8 1)])])
 .skip))
 (.ops [
 (sM 23 3),
 (sM 24 6),
 (sH 25 (.bslF 1 1 [(.int .u8 0)] [(0, 1)]) [.t 24]),
 (sH 26 (.app 1 1 [(.int .u8 0)]) [.t 23, .t 25]),
 (sM 3 26)])))))
 (.ops [
 (sP 27 (.bin .add .ifc) [.t 15, .c (.int .i64 1)]),
 (sM 15 27)]))))
def world_World_Detect_L0 : CCode := .bloop 0 [0, 3, 13, 14, 15] [3] world_World_Detect_B0
def world_World_Detect_C : CCode :=
 (.seq
 (.ops [
 (sP 2 .mov [.c .nils])])
 (.seq
 (.seq
 (.ops [
 (sM 7 0),
 (sP 8 (.bin .eql .ptr) [.t 7, .c .nilp])])
 (.cond (.t 8)
 (.seq
 (.ops [
 (sP 2 .mov [.c .nils])])
 (.ret [2]))
 .skip))
 (.seq
 (.ops [
 (sP 3 .mov [.c .nils])])
 (.seq
 (.seq
 (.ops [
 (sM 9 0),
 (sP 10 .nchk [.t 9]),
 (sP 11 (.faddr 0) [.t 10]),
 (sP 12 (.faddr 2) [.t 11]),
 (sH 13 (.load false 1) [.t 12]),
 (sP 14 .len [.t 13]),
 (sP 15 .mov [.c (.int .i64 0)])])
 world_World_Detect_L0)
 (.seq
 (.ops [
 (sM 28 3),
 (sM 2 28)])
 (.ret [2]))))))
def world_World_Detect_I : FInfo := ⟨.ref, 1, world_World_Detect_C, [.tmp 2]⟩
def world_World_Detect_A : Ann := ⟨[], [], [(0, [0, 3, 13, 14, 15], [3])], [(1, [0, 3, 13, 14, 15])], []⟩
abbrev n_world_World_Detect : Nat := 42

/-! ### balise/baliselaw18.enters -/
def l18_enters_C : CCode :=
 (.seq
 (.ops [
 (sP 0 .mov [.c (.bool false)])])
 (.seq
 (.ops [
 (sP 6 (.bld [(.int .u8 0), (.int .u8 0), (.int .u8 0), (.int .u16 0), (.int .u16 0), (.int .u8 0), (.int .u8 0), (.int .u8 0), .nils] []) []),
 (sC 7 47 [.t 6]),
 (sH 1 (.newl 1 [.nils, .nils, .nils, .nils, .nils, (.int .i64 0), (.int .i64 0), (.int .i64 0), (.int .i64 0), (.int .i64 0)]) []),
 (sHn (.store 10) [.t 1, .t 7])])
 (.seq
 (.ops [
 (sH 8 (.load true 10) [.t 1]),
 (sC 9 32 [.t 8]),
 (sM 2 9)])
 (.seq
 (.ops [
 (sM 10 2),
 (sH 11 (.bslF 1 1 [(.int .i64 0)] [(0, 1)]) [.c (.int .i64 0)]),
 (sC 12 33 [.t 10, .c (.int .i64 1), .c (.int .i64 10), .c (.int .i64 5), .c (.int .i64 1), .t 11]),
 (sM 3 12)])
 (.seq
 (.ops [
 (sM 13 2),
 (sC 14 37 [.t 13, .c (.int .i64 1)]),
 (sM 4 14)])
 (.seq
 (.ops [
 (sM 15 2),
 (sC 16 34 [.t 15, .c (.int .i64 1), .c (.int .i64 5), .c .nils])])
 (.seq
 (.ops [
 (sM 17 2),
 (sC 18 37 [.t 17, .c (.int .i64 1)]),
 (sM 5 18)])
 (.seq
 (.ops [
 (sM 19 2),
 (sC 20 34 [.t 19, .c (.int .i64 1), .c (.int .i64 1), .c .nils])])
 (.seq
 (.ops [
 (sM 21 3),
 (sP 22 (.bin .eql .int) [.t 21, .c (.int .i64 0)]),
 (sM 23 22),
 (sG (sM 24 4) 23 true),
 (sG (sH 25 (.bslF 1 1 [(.int .i64 0)] [(0, 1)]) [.c (.int .i64 0)]) 23 true),
 (sG (sC 26 36 [.t 24, .t 25]) 23 true),
 (sP 27 .pick [.t 23, .t 26, .c (.bool false)]),
 (sM 28 27),
 (sG (sM 29 5) 28 true),
 (sG (sH 30 (.bslF 1 1 [(.int .i64 0)] [(0, 1)]) [.c (.int .i64 0)]) 28 true),
 (sG (sC 31 36 [.t 29, .t 30]) 28 true),
 (sP 32 .pick [.t 28, .t 31, .c (.bool false)]),
 (sM 33 32),
 (sG (sM 34 2) 33 true),
 (sG (sC 35 37 [.t 34, .c (.int .i64 1)]) 33 true),
 (sG (sH 36 (.bslF 1 2 [(.int .i64 0)] [(0, 1), (1, 1)]) [.c (.int .i64 1), .c (.int .i64 0)]) 33 true),
 (sG (sC 37 36 [.t 35, .t 36]) 33 true),
 (sP 38 .pick [.t 33, .t 37, .c (.bool false)]),
 (sM 0 38)])
 (.ret [0]))))))))))
def l18_enters_I : FInfo := ⟨(.fz false), 0, l18_enters_C, [.tmp 0]⟩
def l18_enters_A : Ann := ⟨[], [], [], [], [1]⟩
abbrev n_l18_enters : Nat := 30

/-! ### balise/baliselaw18.add -/
def l18_add_B0 : CCode :=
 (.seq
 (.seq
 (.ops [
 (sM 47 12),
 (sM 48 9),
 (sP 49 .len [.t 48]),
 (sP 50 (.bin .lss .ifc) [.t 47, .t 49])])
 (.cond (.t 50)
 .skip
 (.exit 0)))
 (.seq
 (.block 1 (some [2, 3, 8, 9, 10, 11, 12])
 (.ops [
 (sM 53 11),
 (sH 54 (.load true 10) [.t 2]),
 (sM 55 9),
 (sM 56 12),
 (sP 57 (.iaddr 1) [.t 55, .t 56]),
 (sH 58 (.load false 1) [.t 57]),
 (sC 59 49 [.t 54, .t 58]),
 (sP 60 (.bin .add .ifc) [.t 53, .t 59]),
 (sM 11 60)]))
 (.ops [
 (sM 51 12),
 (sP 52 (.bin .add .ifc) [.t 51, .c (.int .i64 1)]),
 (sM 12 52)])))
def l18_add_L0 : CCode := .bloop 0 [2, 3, 8, 9, 10, 11, 12] [3, 8, 9, 10, 11] l18_add_B0
def l18_add_C : CCode :=
 (.seq
 (.ops [
 (sH 2 (.box 2) [.t 0]),
 (sH 3 (.box 3) [.t 1]),
 (sP 4 .mov [.c .nils]),
 (sP 5 .mov [.c (.int .i64 0)]),
 (sP 6 .mov [.c (.int .i64 0)]),
 (sP 7 .mov [.c (.int .i64 0)])])
 (.seq
 (.ops [
 (sP 14 (.faddr 1) [.t 3]),
 (sH 15 (.load false 1) [.t 14]),
 (sP 16 (.bin .rem .ifc) [.t 15, .c (.int .u8 2)]),
 (sP 17 (.toInt .i64) [.t 16]),
 (sM 8 17)])
 (.seq
 (.ops [
 (sH 18 (.load true 10) [.t 2]),
 (sP 19 (.faddr 0) [.t 3]),
 (sH 20 (.load false 1) [.t 19]),
 (sP 21 (.toInt .i64) [.t 20]),
 (sP 22 (.faddr 1) [.t 2]),
 (sH 23 (.load false 1) [.t 22]),
 (sP 24 .len [.t 23]),
 (sP 25 (.bin .rem .ifc) [.t 21, .t 24]),
 (sM 26 8),
 (sP 27 (.bin .sub .ifc) [.c (.int .i64 1), .t 26]),
 (sP 28 (.faddr 5) [.t 3]),
 (sH 29 (.load false 1) [.t 28]),
 (sP 30 (.faddr 4) [.t 3]),
 (sH 31 (.load false 1) [.t 30]),
 (sP 32 (.bin .rem .ifc) [.t 31, .c (.int .u8 4)]),
 (sP 33 (.toInt .i64) [.t 32]),
 (sP 34 (.bin .add .ifc) [.c (.int .i64 1), .t 33]),
 (sC 35 48 [.t 18, .t 25, .t 27, .t 29, .t 34]),
 (sM 9 35)])
 (.seq
 (.ops [
 (sP 36 (.faddr 3) [.t 3]),
 (sH 37 (.load false 1) [.t 36]),
 (sP 38 (.toInt .i64) [.t 37]),
 (sH 39 (.load true 10) [.t 2]),
 (sM 40 9),
 (sP 41 (.iaddr 1) [.t 40, .c (.int .i64 0)]),
 (sH 42 (.load false 1) [.t 41]),
 (sC 43 49 [.t 39, .t 42]),
 (sP 44 (.bin .rem .ifc) [.t 38, .t 43]),
 (sM 10 44)])
 (.seq
 (.ops [
 (sM 45 10),
 (sP 46 (.un .neg) [.t 45]),
 (sM 11 46)])
 (.seq
 (.seq
 (.ops [
 (sP 12 .mov [.c (.int .i64 0)])])
 l18_add_L0)
 (.seq
 (.ops [
 (sP 61 (.faddr 2) [.t 3]),
 (sH 62 (.load false 1) [.t 61]),
 (sP 63 (.toInt .i64) [.t 62]),
 (sM 64 11),
 (sP 65 (.bin .sub .ifc) [.t 64, .c (.int .i64 1)]),
 (sP 66 (.bin .mul .ifc) [.t 63, .t 65]),
 (sP 67 (.bin .quo .ifc) [.t 66, .c (.int .i64 256)]),
 (sP 68 (.bin .add .ifc) [.c (.int .i64 1), .t 67]),
 (sM 13 68)])
 (.seq
 (.seq
 (.ops [
 (sP 69 (.faddr 4) [.t 3]),
 (sH 70 (.load false 1) [.t 69]),
 (sP 71 (.bin .geq .ifc) [.t 70, .c (.int .u8 250)])])
 (.cond (.t 71)
 (.ops [
 (sM 72 13),
 (sM 73 11),
 (sP 74 (.bin .mul .ifc) [.c (.int .i64 3), .t 73]),
 (sP 75 (.bin .add .ifc) [.t 72, .t 74]),
 (sM 13 75)])
 .skip))
 (.seq
 (.ops [
 (sM 76 9),
 (sM 77 13),
 (sM 78 10),
 (sM 79 8),
 (sM 4 76),
 (sM 5 77),
 (sM 6 78),
 (sM 7 79)])
 (.ret [4, 5, 6, 7]))))))))))
def l18_add_I : FInfo := ⟨(.fz false), 2, l18_add_C, [.tmp 4, .tmp 5, .tmp 6, .tmp 7]⟩
def l18_add_A : Ann := ⟨[], [], [(0, [2, 3, 8, 9, 10, 11, 12], [3, 8, 9, 10, 11])], [(1, [2, 3, 8, 9, 10, 11, 12])], [2, 3]⟩
abbrev n_l18_add : Nat := 31

/-! ### balise/baliselaw18.WorldTrue -/
def l18_WorldTrue_B0 : CCode :=
 (.seq
 (.seq
 (.ops [
 (sM 53 11),
 (sM 54 1),
 (sP 55 .len [.t 54]),
 (sP 56 (.bin .lss .ifc) [.t 53, .t 55])])
 (.cond (.t 56)
 .skip
 (.exit 0)))
 (.seq
 (.block 1 (some [1, 2, 3, 9, 10, 11])
 (.seq
 (.seq
 (.ops [
 (sM 59 1),
 (sM 60 11),
 (sP 61 (.iaddr 6) [.t 59, .t 60]),
 (sP 62 (.faddr 5) [.t 61]),
 (sH 63 (.load false 1) [.t 62]),
 (sP 64 .len [.t 63]),
 (sP 65 (.bin .gtr .ifc) [.t 64, .c (.int .i64 12)])])
 (.cond (.t 65)
 (.seq
 (.ops [
 (sP 8 .mov [.c (.bool true)])])
 (.ret [8]))
 .skip))
 (.seq
 (.ops [
 (sH 67 (.load true 10) [.t 9]),
 (sM 68 1),
 (sM 69 11),
 (sP 70 (.iaddr 6) [.t 68, .t 69]),
 (sH 71 (.load true 6) [.t 70]),
 (sC 72 31 [.t 67, .t 71]),
 (sM 66 72),
 (sP 73 (.ext 0) [.t 66]),
 (sP 74 (.ext 1) [.t 66]),
 (sP 75 (.ext 2) [.t 66]),
 (sP 76 (.ext 3) [.t 66]),
 (sM 12 73),
 (sM 13 74),
 (sM 14 75),
 (sM 15 76)])
 (.ops [
 (sM 77 10),
 (sM 78 11),
 (sM 79 13),
 (sM 80 14),
 (sM 81 15),
 (sM 82 12),
 (sC 83 33 [.t 77, .t 78, .t 79, .t 80, .t 81, .t 82])]))))
 (.ops [
 (sM 57 11),
 (sP 58 (.bin .add .ifc) [.t 57, .c (.int .i64 1)]),
 (sM 11 58)])))
def l18_WorldTrue_L0 : CCode := .bloop 0 [1, 2, 3, 9, 10, 11] [2, 3, 9, 10] l18_WorldTrue_B0

def l18_WorldTrue_B2 : CCode :=
 (.seq
 (.seq
 (.ops [
 (sM 86 17),
 (sM 87 2),
 (sP 88 .len [.t 87]),
 (sP 89 (.bin .lss .ifc) [.t 86, .t 88]),
 (sM 90 89),
 (sG (sM 91 16) 90 true),
 (sG (sP 92 .len [.t 91]) 90 true),
 (sG (sP 93 (.bin .gtr .ifc) [.t 92, .c (.int .i64 0)]) 90 true),
 (sP 94 .pick [.t 90, .t 93, .c (.bool false)])])
 (.cond (.t 94)
 .skip
 (.exit 2)))
 (.seq
 (.block 3 (some [2, 3, 9, 10, 16, 17])
 (.ops [
 (sM 97 10),
 (sM 98 16),
 (sM 99 17),
 (sM 100 16),
 (sP 101 .len [.t 100]),
 (sP 102 (.bin .rem .ifc) [.t 99, .t 101]),
 (sP 103 (.iaddr 1) [.t 98, .t 102]),
 (sH 104 (.load false 1) [.t 103]),
 (sM 105 2),
 (sM 106 17),
 (sP 107 (.iaddr 1) [.t 105, .t 106]),
 (sH 108 (.load false 1) [.t 107]),
 (sP 109 (.bin .rem .ifc) [.t 108, .c (.int .u16 300)]),
 (sP 110 (.toInt .i64) [.t 109]),
 (sM 111 3),
 (sC 112 34 [.t 97, .t 104, .t 110, .t 111])]))
 (.ops [
 (sM 95 17),
 (sP 96 (.bin .add .ifc) [.t 95, .c (.int .i64 1)]),
 (sM 17 96)])))
def l18_WorldTrue_L2 : CCode := .bloop 2 [2, 3, 9, 10, 16, 17] [9, 10, 16] l18_WorldTrue_B2

def l18_WorldTrue_B4 : CCode :=
 (.seq
 (.seq
 (.ops [
 (sM 117 20),
 (sM 118 16),
 (sP 119 .len [.t 118]),
 (sP 120 (.bin .lss .ifc) [.t 117, .t 119])])
 (.cond (.t 120)
 .skip
 (.exit 4)))
 (.seq
 (.block 5 (some [9, 10, 16, 18, 19, 20])
 (.seq
 (.ops [
 (sM 124 10),
 (sM 125 16),
 (sM 126 20),
 (sP 127 (.iaddr 1) [.t 125, .t 126]),
 (sH 128 (.load false 1) [.t 127]),
 (sC 129 35 [.t 124, .t 128, .c (.int .i64 5)]),
 (sM 123 129),
 (sP 130 (.ext 0) [.t 123]),
 (sP 131 (.ext 1) [.t 123]),
 (sH 21 (.newl 21 [(.int .u8 0), (.int .i64 0), (.int .i64 0), (.int .i64 0), (.int .i64 0), (.bool false), .nils]) []),
 (sHn (.store 7) [.t 21, .t 130]),
 (sM 22 131)])
 (.seq
 (.ops [
 (sM 132 22),
 (sP 133 (.un .not) [.t 132]),
 (sM 134 133),
 (sG (sM 135 18) 134 false),
 (sG (sL 136 21 (.load true 7) [.t 21]) 134 false),
 (sG (sCb 137 43 [.t 135, .t 136]) 134 false),
 (sG (sP 138 (.un .not) [.t 137]) 134 false),
 (sP 139 .pick [.t 134, .c (.bool true), .t 138]),
 (sM 140 139),
 (sG (sL 141 9 (.load true 10) [.t 9]) 140 false),
 (sG (sL 142 21 (.load true 7) [.t 21]) 140 false),
 (sG (sCb 143 44 [.t 141, .t 142]) 140 false),
 (sG (sP 144 (.un .not) [.t 143]) 140 false),
 (sP 145 .pick [.t 140, .c (.bool true), .t 144]),
 (sM 146 145),
 (sG (sP 147 (.faddr 6) [.t 21]) 146 false),
 (sG (sL 148 21 (.load false 1) [.t 147]) 146 false),
 (sG (sM 149 10) 146 false),
 (sG (sM 150 16) 146 false),
 (sG (sM 151 20) 146 false),
 (sG (sP 152 (.iaddr 1) [.t 150, .t 151]) 146 false),
 (sG (sB 153 (.load false 1) [.t 152]) 146 false),
 (sG (sCb 154 37 [.t 149, .t 153]) 146 false),
 (sG (sCb 155 36 [.t 148, .t 154]) 146 false),
 (sG (sP 156 (.un .not) [.t 155]) 146 false),
 (sP 157 .pick [.t 146, .c (.bool true), .t 156])])
 (.cond (.t 157)
 (.seq
 (.ops [
 (sP 8 .mov [.c (.bool false)])])
 (.ret [8]))
 .skip))))
 (.ops [
 (sM 121 20),
 (sP 122 (.bin .add .ifc) [.t 121, .c (.int .i64 1)]),
 (sM 20 122)])))
def l18_WorldTrue_L4 : CCode := .bloop 4 [9, 10, 16, 18, 19, 20] [9, 10, 16, 19] l18_WorldTrue_B4

def l18_WorldTrue_B8 : CCode :=
 (.seq
 (.seq
 (.ops [
 (sM 164 25),
 (sM 165 16),
 (sP 166 .len [.t 165]),
 (sP 167 (.bin .lss .ifc) [.t 164, .t 166])])
 (.cond (.t 167)
 .skip
 (.exit 8)))
 (.seq
 (.block 9 (some [9, 10, 16, 19, 23, 24, 25])
 (.ops [
 (sM 170 24),
 (sM 171 170),
 (sG (sM 172 10) 171 false),
 (sG (sM 173 16) 171 false),
 (sG (sM 174 25) 171 false),
 (sG (sP 175 (.iaddr 1) [.t 173, .t 174]) 171 false),
 (sG (sH 176 (.load false 1) [.t 175]) 171 false),
 (sG (sM 177 23) 171 false),
 (sG (sC 178 45 [.t 172, .t 176, .t 177]) 171 false),
 (sP 179 .pick [.t 171, .c (.bool true), .t 178]),
 (sM 24 179)]))
 (.ops [
 (sM 168 25),
 (sP 169 (.bin .add .ifc) [.t 168, .c (.int .i64 1)]),
 (sM 25 169)])))
def l18_WorldTrue_L8 : CCode := .bloop 8 [9, 10, 16, 19, 23, 24, 25] [9, 10, 16, 19, 23, 24] l18_WorldTrue_B8

def l18_WorldTrue_B6 : CCode :=
 (.seq
 (.seq
 (.ops [
 (sM 158 23),
 (sM 159 19),
 (sP 160 .len [.t 159]),
 (sP 161 (.bin .lss .ifc) [.t 158, .t 160])])
 (.cond (.t 161)
 .skip
 (.exit 6)))
 (.seq
 (.block 7 (some [9, 10, 16, 19, 23])
 (.seq
 (.ops [
 (sP 24 .mov [.c (.bool false)])])
 (.seq
 (.seq
 (.ops [
 (sP 25 .mov [.c (.int .i64 0)])])
 l18_WorldTrue_L8)
 (.seq
 (.ops [
 (sM 180 19),
 (sM 181 23),
 (sP 182 (.iaddr 1) [.t 180, .t 181]),
 (sH 183 (.load false 1) [.t 182]),
 (sP 184 (.bin .eql .int) [.t 183, .c (.int .u8 1)]),
 (sM 185 24),
 (sP 186 (.bin .neq .bool) [.t 184, .t 185]),
 (sM 187 186),
 (sG (sM 188 24) 187 false),
 (sG (sP 189 (.un .not) [.t 188]) 187 false),
 (sG (sM 190 189) 187 false),
 (sG (sM 191 19) 190 true),
 (sG (sM 192 23) 190 true),
 (sG (sP 193 (.iaddr 1) [.t 191, .t 192]) 190 true),
 (sG (sH 194 (.load false 1) [.t 193]) 190 true),
 (sG (sP 195 (.bin .neq .int) [.t 194, .c (.int .u8 0)]) 190 true),
 (sG (sP 196 .pick [.t 190, .t 195, .c (.bool false)]) 187 false),
 (sP 197 .pick [.t 187, .c (.bool true), .t 196])])
 (.cond (.t 197)
 (.seq
 (.ops [
 (sP 8 .mov [.c (.bool false)])])
 (.ret [8]))
 .skip)))))
 (.ops [
 (sM 162 23),
 (sP 163 (.bin .add .ifc) [.t 162, .c (.int .i64 1)]),
 (sM 23 163)])))
def l18_WorldTrue_L6 : CCode := .bloop 6 [9, 10, 16, 19, 23] [9, 19] l18_WorldTrue_B6
def l18_WorldTrue_C : CCode :=
 (.seq
 (.ops [
 (sH 4 (.box 4) [.t 0]),
 (sP 8 .mov [.c (.bool false)])])
 (.seq
 (.seq
 (.ops [
 (sC 26 30 []),
 (sP 27 (.un .not) [.t 26]),
 (sM 28 27),
 (sG (sH 29 (.load true 9) [.t 4]) 28 false),
 (sG (sC 30 25 [.t 29]) 28 false),
 (sG (sP 31 (.un .not) [.t 30]) 28 false),
 (sP 32 .pick [.t 28, .c (.bool true), .t 31]),
 (sM 33 32),
 (sG (sM 34 1) 33 false),
 (sG (sP 35 .len [.t 34]) 33 false),
 (sG (sP 36 (.bin .gtr .ifc) [.t 35, .c (.int .i64 6)]) 33 false),
 (sP 37 .pick [.t 33, .c (.bool true), .t 36]),
 (sM 38 37),
 (sG (sM 39 2) 38 false),
 (sG (sP 40 .len [.t 39]) 38 false),
 (sG (sP 41 (.bin .gtr .ifc) [.t 40, .c (.int .i64 30)]) 38 false),
 (sP 42 .pick [.t 38, .c (.bool true), .t 41]),
 (sM 43 42),
 (sG (sM 44 3) 43 false),
 (sG (sP 45 .len [.t 44]) 43 false),
 (sG (sP 46 (.bin .gtr .ifc) [.t 45, .c (.int .i64 12)]) 43 false),
 (sP 47 .pick [.t 43, .c (.bool true), .t 46])])
 (.cond (.t 47)
 (.seq
 (.ops [
 (sC 48 30 []),
 (sM 8 48)])
 (.ret [8]))
 .skip))
 (.seq
 (.ops [
 (sH 49 (.load true 9) [.t 4]),
 (sC 50 26 [.t 49]),
 (sH 9 (.newl 9 [.nils, .nils, .nils, .nils, .nils, (.int .i64 0), (.int .i64 0), (.int .i64 0), (.int .i64 0), (.int .i64 0)]) []),
 (sHn (.store 10) [.t 9, .t 50])])
 (.seq
 (.ops [
 (sH 51 (.load true 10) [.t 9]),
 (sC 52 32 [.t 51]),
 (sM 10 52)])
 (.seq
 (.seq
 (.ops [
 (sP 11 .mov [.c (.int .i64 0)])])
 l18_WorldTrue_L0)
 (.seq
 (.ops [
 (sM 84 10),
 (sC 85 40 [.t 84]),
 (sM 16 85)])
 (.seq
 (.seq
 (.ops [
 (sP 17 .mov [.c (.int .i64 0)])])
 l18_WorldTrue_L2)
 (.seq
 (.ops [
 (sH 113 (.load true 10) [.t 9]),
 (sC 114 41 [.t 113]),
 (sM 18 114)])
 (.seq
 (.ops [
 (sM 115 10),
 (sC 116 42 [.t 115]),
 (sM 19 116)])
 (.seq
 (.seq
 (.ops [
 (sP 20 .mov [.c (.int .i64 0)])])
 l18_WorldTrue_L4)
 (.seq
 (.seq
 (.ops [
 (sP 23 .mov [.c (.int .i64 0)])])
 l18_WorldTrue_L6)
 (.seq
 (.ops [
 (sM 198 19),
 (sP 199 .len [.t 198]),
 (sP 200 (.faddr 2) [.t 9]),
 (sH 201 (.load false 1) [.t 200]),
 (sP 202 .len [.t 201]),
 (sP 203 (.bin .eql .int) [.t 199, .t 202]),
 (sM 8 203)])
 (.ret [8])))))))))))))
def l18_WorldTrue_I : FInfo := ⟨(.fz false), 4, l18_WorldTrue_C, [.tmp 8]⟩
def l18_WorldTrue_A : Ann := ⟨[], [], [(0, [1, 2, 3, 9, 10, 11], [2, 3, 9, 10]), (2, [2, 3, 9, 10, 16, 17], [9, 10, 16]), (4, [9, 10, 16, 18, 19, 20], [9, 10, 16, 19]), (6, [9, 10, 16, 19, 23], [9, 19]), (8, [9, 10, 16, 19, 23, 24, 25], [9, 10, 16, 19, 23, 24])], [(1, [1, 2, 3, 9, 10, 11]), (3, [2, 3, 9, 10, 16, 17]), (5, [9, 10, 16, 18, 19, 20]), (7, [9, 10, 16, 19, 23]), (9, [9, 10, 16, 19, 23, 24, 25])], [4, 9, 21]⟩
abbrev n_l18_WorldTrue : Nat := 12

end Go.Proofs.Ytfblegjbmhgepaa.Zt
