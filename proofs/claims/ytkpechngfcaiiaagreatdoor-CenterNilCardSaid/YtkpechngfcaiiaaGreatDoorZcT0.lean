/- Go functions, as the interpreter runs them: written by a program of this claim's own, proved to be what the compiler makes of them. No condition. -/
import Derived.Test.YtkpechngfcaiiaaGreatDoorZcRun
import Derived.Test.YtkpechngfcaiiaaGreatDoorProg
import Derived.Test.YtkpechngfcaiiaaGreatDoorZcKt
set_option linter.all false
namespace Go.Proofs.YtkpechngfcaiiaaGreatDoor.Zt
open Go Go.Zc
set_option maxRecDepth 100000

/-! ### balise/baliselaw19.CenterNil -/
def l19_CenterNil_C : CCode :=
 (.seq
 (.ops [
 (sP 4 .mov [.c (.bool false)])])
 (.seq
 (.ops [
 (sP 5 .mov [.c .nilp])])
 (.seq
 (.ops [
 (sM 9 5),
 (sM 10 1),
 (sP 11 (.bld [.nils, .nils, .nils] [(0, 1)]) [.t 10]),
 (sC 12 11 [.t 9, .t 11]),
 (sH 6 (.newl 6 [(.int .i64 0), .nils, .nils, .nils, .nils, .nils]) []),
 (sHn (.store 6) [.t 6, .t 12])])
 (.seq
 (.ops [
 (sM 14 5),
 (sM 15 0),
 (sC 16 12 [.t 14, .t 15]),
 (sM 13 16),
 (sP 17 (.ext 0) [.t 13]),
 (sP 18 (.ext 1) [.t 13]),
 (sH 7 (.newl 7 [(.int .i64 0), (.int .i64 0), (.int .i64 0), (.int .i64 0), (.int .i64 0), .nils]) []),
 (sHn (.store 6) [.t 7, .t 17]),
 (sM 8 18)])
 (.seq
 (.ops [
 (sC 19 5 []),
 (sM 20 19),
 (sG (sH 21 (.load true 6) [.t 6]) 20 true),
 (sG (sP 22 (.bld [(.int .i64 0), .nils, .nils, .nils, .nils, .nils] []) []) 20 true),
 (sG (sC 23 13 [.t 21, .t 22]) 20 true),
 (sP 24 .pick [.t 20, .t 23, .c (.bool false)]),
 (sM 25 24),
 (sG (sM 26 5) 25 true),
 (sG (sC 27 14 [.t 26]) 25 true),
 (sG (sP 28 (.bin .eql .int) [.t 27, .c (.int .i64 0)]) 25 true),
 (sP 29 .pick [.t 25, .t 28, .c (.bool false)]),
 (sM 30 29),
 (sG (sM 31 5) 30 true),
 (sG (sC 32 15 [.t 31]) 30 true),
 (sG (sP 33 .len [.t 32]) 30 true),
 (sG (sM 34 5) 30 true),
 (sG (sC 35 16 [.t 34]) 30 true),
 (sG (sP 36 .len [.t 35]) 30 true),
 (sG (sP 37 (.bin .add .ifc) [.t 33, .t 36]) 30 true),
 (sG (sM 38 5) 30 true),
 (sG (sC 39 17 [.t 38]) 30 true),
 (sG (sP 40 .len [.t 39]) 30 true),
 (sG (sP 41 (.bin .add .ifc) [.t 37, .t 40]) 30 true),
 (sG (sM 42 5) 30 true),
 (sG (sM 43 0) 30 true),
 (sG (sC 44 18 [.t 42, .t 43]) 30 true),
 (sG (sP 45 .len [.t 44]) 30 true),
 (sG (sP 46 (.bin .add .ifc) [.t 41, .t 45]) 30 true),
 (sG (sM 47 5) 30 true),
 (sG (sC 48 19 [.t 47]) 30 true),
 (sG (sP 49 .len [.t 48]) 30 true),
 (sG (sP 50 (.bin .add .ifc) [.t 46, .t 49]) 30 true),
 (sG (sM 51 5) 30 true),
 (sG (sM 52 0) 30 true),
 (sG (sC 53 20 [.t 51, .t 52]) 30 true),
 (sG (sP 54 .len [.t 53]) 30 true),
 (sG (sP 55 (.bin .add .ifc) [.t 50, .t 54]) 30 true),
 (sG (sM 56 5) 30 true),
 (sG (sC 57 21 [.t 56]) 30 true),
 (sG (sP 58 (.bin .add .ifc) [.t 55, .t 57]) 30 true),
 (sG (sP 59 (.bin .eql .int) [.t 58, .c (.int .i64 0)]) 30 true),
 (sP 60 .pick [.t 30, .t 59, .c (.bool false)]),
 (sM 61 60),
 (sG (sM 62 8) 61 true),
 (sG (sP 63 (.un .not) [.t 62]) 61 true),
 (sP 64 .pick [.t 61, .t 63, .c (.bool false)]),
 (sM 65 64),
 (sG (sM 66 5) 65 true),
 (sG (sC 67 23 [.t 66]) 65 true),
 (sG (sP 68 (.bld [.nils, .nils, .nils, .nils, .nils, (.int .i64 0), (.int .i64 0), (.int .i64 0), (.int .i64 0), (.int .i64 0)] []) []) 65 true),
 (sG (sC 69 22 [.t 67, .t 68]) 65 true),
 (sP 70 .pick [.t 65, .t 69, .c (.bool false)]),
 (sM 4 70)])
 (.ret [4]))))))
def l19_CenterNil_I : FInfo := ⟨(.fz false), 2, l19_CenterNil_C, [.tmp 4]⟩
def l19_CenterNil_A : Ann := ⟨[], [], [], [], [6, 7]⟩
abbrev n_l19_CenterNil : Nat := 4

/-! ### balise/baliselaw19.short -/
def l19_short_C : CCode :=
 (.seq
 (.ops [
 (sP 0 .mov [.c (.bool false)])])
 (.seq
 (.ops [
 (sC 7 9 [.c .nils, .c .nils, .c (.int .i64 0), .c .nils]),
 (sM 6 7),
 (sP 8 (.ext 0) [.t 6]),
 (sP 9 (.ext 1) [.t 6]),
 (sM 1 8),
 (sM 2 9)])
 (.seq
 (.ops [
 (sP 11 (.bld [(.int .u8 0), (.int .u8 0), (.int .u8 0), (.int .u16 0), (.int .u16 0), (.int .u8 0), (.int .u8 0), (.int .u8 0), .nils] []) []),
 (sC 12 24 [.t 11]),
 (sC 13 7 [.t 12]),
 (sC 14 9 [.t 13, .c .nils, .c (.int .i64 0), .c .nils]),
 (sM 10 14),
 (sP 15 (.ext 0) [.t 10]),
 (sP 16 (.ext 1) [.t 10]),
 (sM 3 15),
 (sM 4 16)])
 (.seq
 (.ops [
 (sM 17 3),
 (sH 18 (.bslF 1 3 [(.int .u8 0)] [(0, 1), (1, 1), (2, 1)]) [.c (.int .u8 0), .c (.int .u8 0), .c (.int .u8 0)]),
 (sP 19 (.bld [.nils, .nils, .nils] [(0, 1)]) [.t 18]),
 (sC 20 11 [.t 17, .t 19]),
 (sH 5 (.newl 5 [(.int .i64 0), .nils, .nils, .nils, .nils, .nils]) []),
 (sHn (.store 6) [.t 5, .t 20])])
 (.seq
 (.ops [
 (sM 21 2),
 (sP 22 (.bin .eql .int) [.t 21, .c (.int .i64 4)]),
 (sM 23 22),
 (sG (sM 24 4) 23 true),
 (sG (sP 25 (.bin .eql .int) [.t 24, .c (.int .i64 0)]) 23 true),
 (sP 26 .pick [.t 23, .t 25, .c (.bool false)]),
 (sM 27 26),
 (sG (sP 28 (.faddr 0) [.t 5]) 27 true),
 (sG (sH 29 (.load false 1) [.t 28]) 27 true),
 (sG (sP 30 (.bin .eql .int) [.t 29, .c (.int .i64 1)]) 27 true),
 (sP 31 .pick [.t 27, .t 30, .c (.bool false)]),
 (sM 32 31),
 (sG (sP 33 (.faddr 1) [.t 5]) 32 true),
 (sG (sH 34 (.load false 1) [.t 33]) 32 true),
 (sG (sH 35 (.bslF 1 3 [(.int .u8 0)] [(0, 1), (1, 1), (2, 1)]) [.c (.int .u8 0), .c (.int .u8 0), .c (.int .u8 0)]) 32 true),
 (sG (sC 36 25 [.t 34, .t 35]) 32 true),
 (sP 37 .pick [.t 32, .t 36, .c (.bool false)]),
 (sM 0 37)])
 (.ret [0]))))))
def l19_short_I : FInfo := ⟨(.fz false), 0, l19_short_C, [.tmp 0]⟩
def l19_short_A : Ann := ⟨[], [], [], [], [5]⟩
abbrev n_l19_short : Nat := 5

/-! ### balise/baliseref04.Encode -/
def r04_Encode_B0 : CCode :=
 (.seq
 (.seq
 (.ops [
 (sM 16 4),
 (sP 17 (.faddr 0) [.t 1]),
 (sH 18 (.load false 1) [.t 17]),
 (sP 19 .len [.t 18]),
 (sP 20 (.bin .lss .ifc) [.t 16, .t 19])])
 (.cond (.t 20)
 .skip
 (.exit 0)))
 (.seq
 (.block 1 (some [1, 3, 4])
 (.seq
 (.ops [
 (sP 24 (.faddr 0) [.t 1]),
 (sH 25 (.load false 1) [.t 24]),
 (sM 26 4),
 (sP 27 (.iaddr 1) [.t 25, .t 26]),
 (sH 28 (.load false 1) [.t 27]),
 (sC 29 27 [.t 28]),
 (sM 23 29),
 (sP 30 (.ext 0) [.t 23]),
 (sP 31 (.ext 1) [.t 23]),
 (sM 5 30),
 (sM 6 31)])
 (.ops [
 (sM 32 3),
 (sM 33 5),
 (sM 34 6),
 (sH 35 (.bslF 1 2 [(.int .i64 0)] [(0, 1), (1, 1)]) [.t 33, .t 34]),
 (sC 36 26 [.t 32, .c (.int .i64 32), .t 35]),
 (sM 3 36)])))
 (.ops [
 (sM 21 4),
 (sP 22 (.bin .add .ifc) [.t 21, .c (.int .i64 1)]),
 (sM 4 22)])))
def r04_Encode_L0 : CCode := .bloop 0 [1, 3, 4] [1, 3] r04_Encode_B0

def r04_Encode_B2 : CCode :=
 (.seq
 (.seq
 (.ops [
 (sM 43 7),
 (sP 44 (.faddr 1) [.t 1]),
 (sH 45 (.load false 1) [.t 44]),
 (sP 46 .len [.t 45]),
 (sP 47 (.bin .lss .ifc) [.t 43, .t 46])])
 (.cond (.t 47)
 .skip
 (.exit 2)))
 (.seq
 (.block 3 (some [1, 3, 7])
 (.seq
 (.ops [
 (sP 50 (.faddr 1) [.t 1]),
 (sH 51 (.load false 1) [.t 50]),
 (sM 52 7),
 (sP 53 (.iaddr 3) [.t 51, .t 52]),
 (sH 54 (.load true 3) [.t 53]),
 (sH 8 (.newl 8 [(.int .i64 0), (.int .i64 0), (.int .i64 0)]) []),
 (sHn (.store 3) [.t 8, .t 54])])
 (.seq
 (.ops [
 (sM 55 3),
 (sP 56 (.faddr 0) [.t 8]),
 (sH 57 (.load false 1) [.t 56]),
 (sH 58 (.bslF 1 1 [(.int .i64 0)] [(0, 1)]) [.t 57]),
 (sC 59 26 [.t 55, .c (.int .i64 16), .t 58]),
 (sM 3 59)])
 (.ops [
 (sM 60 3),
 (sP 61 (.faddr 1) [.t 8]),
 (sH 62 (.load false 1) [.t 61]),
 (sP 63 (.faddr 2) [.t 8]),
 (sH 64 (.load false 1) [.t 63]),
 (sH 65 (.bslF 1 2 [(.int .i64 0)] [(0, 1), (1, 1)]) [.t 62, .t 64]),
 (sC 66 26 [.t 60, .c (.int .i64 8), .t 65]),
 (sM 3 66)]))))
 (.ops [
 (sM 48 7),
 (sP 49 (.bin .add .ifc) [.t 48, .c (.int .i64 1)]),
 (sM 7 49)])))
def r04_Encode_L2 : CCode := .bloop 2 [1, 3, 7] [1, 3] r04_Encode_B2

def r04_Encode_B4 : CCode :=
 (.seq
 (.seq
 (.ops [
 (sM 77 9),
 (sP 78 (.faddr 3) [.t 1]),
 (sH 79 (.load false 1) [.t 78]),
 (sP 80 .len [.t 79]),
 (sP 81 (.bin .lss .ifc) [.t 77, .t 80])])
 (.cond (.t 81)
 .skip
 (.exit 4)))
 (.seq
 (.block 5 (some [1, 3, 9])
 (.seq
 (.ops [
 (sP 84 (.faddr 3) [.t 1]),
 (sH 85 (.load false 1) [.t 84]),
 (sM 86 9),
 (sP 87 (.iaddr 4) [.t 85, .t 86]),
 (sH 88 (.load true 4) [.t 87]),
 (sH 10 (.newl 10 [(.int .i64 0), (.int .i64 0), (.int .i64 0), (.int .i64 0)]) []),
 (sHn (.store 4) [.t 10, .t 88])])
 (.ops [
 (sM 89 3),
 (sP 90 (.faddr 0) [.t 10]),
 (sH 91 (.load false 1) [.t 90]),
 (sP 92 (.faddr 1) [.t 10]),
 (sH 93 (.load false 1) [.t 92]),
 (sP 94 (.faddr 2) [.t 10]),
 (sH 95 (.load false 1) [.t 94]),
 (sP 96 (.faddr 3) [.t 10]),
 (sH 97 (.load false 1) [.t 96]),
 (sH 98 (.bslF 1 4 [(.int .i64 0)] [(0, 1), (1, 1), (2, 1), (3, 1)]) [.t 91, .t 93, .t 95, .t 97]),
 (sC 99 26 [.t 89, .c (.int .i64 8), .t 98]),
 (sM 3 99)])))
 (.ops [
 (sM 82 9),
 (sP 83 (.bin .add .ifc) [.t 82, .c (.int .i64 1)]),
 (sM 9 83)])))
def r04_Encode_L4 : CCode := .bloop 4 [1, 3, 9] [1, 3] r04_Encode_B4
def r04_Encode_C : CCode :=
 (.seq
 (.ops [
 (sH 1 (.box 1) [.t 0]),
 (sP 2 .mov [.c .nils])])
 (.seq
 (.ops [
 (sP 11 (.faddr 0) [.t 1]),
 (sH 12 (.load false 1) [.t 11]),
 (sP 13 .len [.t 12]),
 (sH 14 (.bslF 1 3 [(.int .i64 0)] [(0, 1), (1, 1), (2, 1)]) [.c (.int .i64 66), .c (.int .i64 76), .t 13]),
 (sC 15 26 [.c .nils, .c (.int .i64 8), .t 14]),
 (sM 3 15)])
 (.seq
 (.seq
 (.ops [
 (sP 4 .mov [.c (.int .i64 0)])])
 r04_Encode_L0)
 (.seq
 (.ops [
 (sM 37 3),
 (sP 38 (.faddr 1) [.t 1]),
 (sH 39 (.load false 1) [.t 38]),
 (sP 40 .len [.t 39]),
 (sH 41 (.bslF 1 1 [(.int .i64 0)] [(0, 1)]) [.t 40]),
 (sC 42 26 [.t 37, .c (.int .i64 8), .t 41]),
 (sM 3 42)])
 (.seq
 (.seq
 (.ops [
 (sP 7 .mov [.c (.int .i64 0)])])
 r04_Encode_L2)
 (.seq
 (.ops [
 (sM 67 3),
 (sP 68 (.faddr 2) [.t 1]),
 (sH 69 (.load false 1) [.t 68]),
 (sC 70 28 [.t 67, .t 69]),
 (sM 3 70)])
 (.seq
 (.ops [
 (sM 71 3),
 (sP 72 (.faddr 3) [.t 1]),
 (sH 73 (.load false 1) [.t 72]),
 (sP 74 .len [.t 73]),
 (sH 75 (.bslF 1 1 [(.int .i64 0)] [(0, 1)]) [.t 74]),
 (sC 76 26 [.t 71, .c (.int .i64 8), .t 75]),
 (sM 3 76)])
 (.seq
 (.seq
 (.ops [
 (sP 9 .mov [.c (.int .i64 0)])])
 r04_Encode_L4)
 (.seq
 (.ops [
 (sM 100 3),
 (sP 101 (.faddr 4) [.t 1]),
 (sH 102 (.load false 1) [.t 101]),
 (sC 103 28 [.t 100, .t 102]),
 (sM 3 103)])
 (.seq
 (.ops [
 (sM 104 3),
 (sP 105 (.faddr 5) [.t 1]),
 (sH 106 (.load false 1) [.t 105]),
 (sP 107 (.faddr 6) [.t 1]),
 (sH 108 (.load false 1) [.t 107]),
 (sP 109 (.faddr 7) [.t 1]),
 (sH 110 (.load false 1) [.t 109]),
 (sP 111 (.faddr 8) [.t 1]),
 (sH 112 (.load false 1) [.t 111]),
 (sP 113 (.faddr 9) [.t 1]),
 (sH 114 (.load false 1) [.t 113]),
 (sH 115 (.bslF 1 5 [(.int .i64 0)] [(0, 1), (1, 1), (2, 1), (3, 1), (4, 1)]) [.t 106, .t 108, .t 110, .t 112, .t 114]),
 (sC 116 26 [.t 104, .c (.int .i64 16), .t 115]),
 (sM 3 116)])
 (.seq
 (.ops [
 (sM 117 3),
 (sC 118 30 [.t 117]),
 (sC 119 29 [.t 118]),
 (sM 2 119)])
 (.ret [2]))))))))))))
def r04_Encode_I : FInfo := ⟨(.fz false), 1, r04_Encode_C, [.tmp 2]⟩
def r04_Encode_A : Ann := ⟨[], [], [(0, [1, 3, 4], [1, 3]), (2, [1, 3, 7], [1, 3]), (4, [1, 3, 9], [1, 3])], [(1, [1, 3, 4]), (3, [1, 3, 7]), (5, [1, 3, 9])], [1, 8, 10]⟩
abbrev n_r04_Encode : Nat := 7

/-! ### balise/center.New -/
def center_New_C : CCode :=
 (.seq
 (.ops [
 (sP 8 .mov [.c .nilp]),
 (sP 9 .mov [.c (.int .i64 0)])])
 (.seq
 (.ops [
 (sM 15 0),
 (sC 16 32 [.t 15]),
 (sM 14 16),
 (sP 17 (.ext 0) [.t 14]),
 (sP 18 (.ext 1) [.t 14]),
 (sH 10 (.newl 10 [.nils, .nils, .nils, .nils, .nils, (.int .i64 0), (.int .i64 0), (.int .i64 0), (.int .i64 0), (.int .i64 0)]) []),
 (sHn (.store 10) [.t 10, .t 17]),
 (sM 11 18)])
 (.seq
 (.block 0 (some [1, 2, 3, 10, 55])
 (.seq
 (.ops [
 (sM 20 11),
 (sP 21 (.bin .neq .int) [.t 20, .c (.int .i64 0)]),
 (sM 19 21)])
 (.cond (.t 19)
 (.seq
 (.ops [
 (sM 22 11),
 (sP 8 .mov [.c .nilp]),
 (sM 9 22)])
 (.ret [8, 9]))
 (.seq
 (.ops [
 (sH 24 (.load true 10) [.t 10]),
 (sC 25 33 [.t 24]),
 (sP 26 (.un .not) [.t 25]),
 (sM 23 26)])
 (.cond (.t 23)
 (.seq
 (.ops [
 (sP 8 .mov [.c .nilp]),
 (sP 9 .mov [.c (.int .i64 5)])])
 (.ret [8, 9]))
 (.seq
 (.ops [
 (sM 28 2),
 (sP 29 (.bin .lss .ifc) [.t 28, .c (.int .i64 0)]),
 (sM 30 29),
 (sG (sM 31 2) 30 false),
 (sG (sP 32 (.bin .gtr .ifc) [.t 31, .c (.int .i64 16777216)]) 30 false),
 (sP 33 .pick [.t 30, .c (.bool true), .t 32]),
 (sM 34 33),
 (sG (sM 35 3) 34 false),
 (sG (sP 36 .len [.t 35]) 34 false),
 (sG (sP 37 (.faddr 3) [.t 10]) 34 false),
 (sG (sH 38 (.load false 1) [.t 37]) 34 false),
 (sG (sP 39 .len [.t 38]) 34 false),
 (sG (sP 40 (.bin .gtr .ifc) [.t 36, .t 39]) 34 false),
 (sP 41 .pick [.t 34, .c (.bool true), .t 40]),
 (sM 27 41)])
 (.cond (.t 27)
 (.seq
 (.ops [
 (sP 8 .mov [.c .nilp]),
 (sP 9 .mov [.c (.int .i64 1)])])
 (.ret [8, 9]))
 .skip)))))))
 (.seq
 (.ops [
 ⟨none, (.p .isund), [.t 55], none⟩,
 (sL 42 10 (.load true 10) [.t 10]),
 (sL 43 10 (.load true 10) [.t 10]),
 (sCb 44 34 [.t 43]),
 (sM 45 2),
 (sP 46 (.faddr 2) [.t 10]),
 (sL 47 10 (.load false 1) [.t 46]),
 (sP 48 .len [.t 47]),
 (sP 49 (.faddr 9) [.t 10]),
 (sL 50 10 (.load false 1) [.t 49]),
 (sCp 51 35 [.t 48, .t 50]),
 (sCp 52 36 []),
 (sL 53 10 (.load true 10) [.t 10]),
 (sCp 54 37 [.t 53]),
 (sB 55 .mkmap []),
 (sP 56 (.bld [.nils, .nils, .nils, .nils, .nils, (.int .i64 0), (.int .i64 0), (.int .i64 0), (.int .i64 0), (.int .i64 0), .nilp, (.int .i64 0), .nilp, .nilp, .nilp, .nils, .nils, .nils, .nils, .nilm, (.int .i64 0)] [(0, 10), (10, 1), (11, 1), (12, 1), (13, 1), (14, 1), (19, 1)]) [.t 42, .t 44, .t 45, .t 51, .t 52, .t 54, .t 55]),
 (sB 57 .boxh [.t 56]),
 (sM 12 57)])
 (.seq
 (.seq
 (.ops [
 (sM 58 12),
 (sP 59 .nchk [.t 58]),
 (sP 60 (.faddr 14) [.t 59]),
 (sH 61 (.load false 1) [.t 60]),
 (sM 62 1),
 (sM 63 2),
 (sC 64 38 [.t 61, .t 62, .t 63]),
 (sM 13 64)])
 (.seq
 (.ops [
 (sM 65 13),
 (sP 66 (.bin .neq .int) [.t 65, .c (.int .i64 0)])])
 (.cond (.t 66)
 (.seq
 (.ops [
 (sM 67 13),
 (sP 8 .mov [.c .nilp]),
 (sM 9 67)])
 (.ret [8, 9]))
 .skip)))
 (.seq
 (.ops [
 (sM 68 12),
 (sM 69 3),
 (sCb 70 39 [.t 69]),
 (sP 71 (.faddr 3) [.t 10]),
 (sL 72 10 (.load false 1) [.t 71]),
 (sP 73 .len [.t 72]),
 (sM 74 3),
 (sP 75 .len [.t 74]),
 (sP 76 (.bin .sub .ifc) [.t 73, .t 75]),
 (sB 77 (.appz 1 1 [(.bool false)]) [.t 70, .t 76]),
 (sP 78 .nchk [.t 68]),
 (sP 79 (.faddr 15) [.t 78]),
 (sBn (.store 1) [.t 79, .t 77])])
 (.seq
 (.ops [
 (sM 80 12),
 (sP 81 (.faddr 2) [.t 10]),
 (sH 82 (.load false 1) [.t 81]),
 (sP 83 .len [.t 82]),
 (sC 84 40 [.t 83]),
 (sP 85 .nchk [.t 80]),
 (sP 86 (.faddr 16) [.t 85]),
 (sHn (.store 1) [.t 86, .t 84])])
 (.seq
 (.ops [
 (sM 87 12),
 (sH 88 (.bslF 1 1 [(.int .u8 0)] [(0, 1)]) [.c (.int .u8 3)]),
 (sP 89 (.faddr 1) [.t 10]),
 (sH 90 (.load false 1) [.t 89]),
 (sP 91 .len [.t 90]),
 (sC 92 41 [.t 88, .t 91]),
 (sP 93 .nchk [.t 87]),
 (sP 94 (.faddr 17) [.t 93]),
 (sHn (.store 1) [.t 94, .t 92])])
 (.seq
 (.ops [
 (sM 95 12),
 (sM 8 95),
 (sP 9 .mov [.c (.int .i64 0)])])
 (.ret [8, 9]))))))))))
def center_New_I : FInfo := ⟨.ref, 4, center_New_C, [.tmp 8, .tmp 9]⟩
def center_New_A : Ann := ⟨[57], [], [], [(0, [1, 2, 3, 10, 55])], [10]⟩
abbrev n_center_New : Nat := 9

/-! ### (*balise/center.Center).Bad -/
def center_Center_Bad_C : CCode :=
 (.seq
 (.ops [
 (sP 2 .mov [.c (.int .i64 0)])])
 (.seq
 (.seq
 (.ops [
 (sM 3 0),
 (sP 4 (.bin .eql .ptr) [.t 3, .c .nilp])])
 (.cond (.t 4)
 (.seq
 (.ops [
 (sP 2 .mov [.c (.int .i64 0)])])
 (.ret [2]))
 .skip))
 (.seq
 (.ops [
 (sM 5 0),
 (sP 6 .nchk [.t 5]),
 (sP 7 (.faddr 20) [.t 6]),
 (sH 8 (.load false 1) [.t 7]),
 (sM 2 8)])
 (.ret [2]))))
def center_Center_Bad_I : FInfo := ⟨.ref, 1, center_Center_Bad_C, [.tmp 2]⟩
def center_Center_Bad_A : Ann := ⟨[], [], [], [], []⟩
abbrev n_center_Center_Bad : Nat := 21

/-! ### balise/baliseref19.Same -/
def r19_Same_B0 : CCode :=
 (.seq
 (.seq
 (.ops [
 (sM 54 5),
 (sP 55 (.faddr 3) [.t 2]),
 (sH 56 (.load false 1) [.t 55]),
 (sP 57 .len [.t 56]),
 (sP 58 (.bin .lss .ifc) [.t 54, .t 57])])
 (.cond (.t 58)
 .skip
 (.exit 0)))
 (.seq
 (.block 1 (some [2, 3, 5])
 (.seq
 (.ops [
 (sP 61 (.faddr 3) [.t 2]),
 (sH 62 (.load false 1) [.t 61]),
 (sM 63 5),
 (sP 64 (.iaddr 1) [.t 62, .t 63]),
 (sH 65 (.load false 1) [.t 64]),
 (sP 66 (.faddr 3) [.t 3]),
 (sH 67 (.load false 1) [.t 66]),
 (sM 68 5),
 (sP 69 (.iaddr 1) [.t 67, .t 68]),
 (sH 70 (.load false 1) [.t 69]),
 (sC 71 25 [.t 65, .t 70]),
 (sP 72 (.un .not) [.t 71])])
 (.cond (.t 72)
 (.seq
 (.ops [
 (sP 4 .mov [.c (.bool false)])])
 (.ret [4]))
 .skip)))
 (.ops [
 (sM 59 5),
 (sP 60 (.bin .add .ifc) [.t 59, .c (.int .i64 1)]),
 (sM 5 60)])))
def r19_Same_L0 : CCode := .bloop 0 [2, 3, 5] [2, 3] r19_Same_B0

def r19_Same_B2 : CCode :=
 (.seq
 (.seq
 (.ops [
 (sM 73 6),
 (sP 74 (.faddr 5) [.t 2]),
 (sH 75 (.load false 1) [.t 74]),
 (sP 76 .len [.t 75]),
 (sP 77 (.bin .lss .ifc) [.t 73, .t 76])])
 (.cond (.t 77)
 .skip
 (.exit 2)))
 (.seq
 (.block 3 (some [2, 3, 6])
 (.seq
 (.ops [
 (sP 80 (.faddr 5) [.t 2]),
 (sH 81 (.load false 1) [.t 80]),
 (sM 82 6),
 (sP 83 (.iaddr 1) [.t 81, .t 82]),
 (sH 84 (.load false 1) [.t 83]),
 (sP 85 (.faddr 5) [.t 3]),
 (sH 86 (.load false 1) [.t 85]),
 (sM 87 6),
 (sP 88 (.iaddr 1) [.t 86, .t 87]),
 (sH 89 (.load false 1) [.t 88]),
 (sP 90 (.bin .neq .int) [.t 84, .t 89])])
 (.cond (.t 90)
 (.seq
 (.ops [
 (sP 4 .mov [.c (.bool false)])])
 (.ret [4]))
 .skip)))
 (.ops [
 (sM 78 6),
 (sP 79 (.bin .add .ifc) [.t 78, .c (.int .i64 1)]),
 (sM 6 79)])))
def r19_Same_L2 : CCode := .bloop 2 [2, 3, 6] [] r19_Same_B2
def r19_Same_C : CCode :=
 (.seq
 (.ops [
 (sH 2 (.box 2) [.t 0]),
 (sH 3 (.box 3) [.t 1]),
 (sP 4 .mov [.c (.bool false)])])
 (.seq
 (.seq
 (.ops [
 (sP 7 (.faddr 0) [.t 2]),
 (sH 8 (.load false 1) [.t 7]),
 (sP 9 (.faddr 0) [.t 3]),
 (sH 10 (.load false 1) [.t 9]),
 (sP 11 (.bin .neq .int) [.t 8, .t 10]),
 (sM 12 11),
 (sG (sP 13 (.faddr 1) [.t 2]) 12 false),
 (sG (sH 14 (.load false 1) [.t 13]) 12 false),
 (sG (sP 15 (.faddr 1) [.t 3]) 12 false),
 (sG (sH 16 (.load false 1) [.t 15]) 12 false),
 (sG (sC 17 25 [.t 14, .t 16]) 12 false),
 (sG (sP 18 (.un .not) [.t 17]) 12 false),
 (sP 19 .pick [.t 12, .c (.bool true), .t 18]),
 (sM 20 19),
 (sG (sP 21 (.faddr 2) [.t 2]) 20 false),
 (sG (sH 22 (.load false 1) [.t 21]) 20 false),
 (sG (sP 23 (.faddr 2) [.t 3]) 20 false),
 (sG (sH 24 (.load false 1) [.t 23]) 20 false),
 (sG (sC 25 60 [.t 22, .t 24]) 20 false),
 (sG (sP 26 (.un .not) [.t 25]) 20 false),
 (sP 27 .pick [.t 20, .c (.bool true), .t 26]),
 (sM 28 27),
 (sG (sP 29 (.faddr 3) [.t 2]) 28 false),
 (sG (sH 30 (.load false 1) [.t 29]) 28 false),
 (sG (sP 31 .len [.t 30]) 28 false),
 (sG (sP 32 (.faddr 3) [.t 3]) 28 false),
 (sG (sH 33 (.load false 1) [.t 32]) 28 false),
 (sG (sP 34 .len [.t 33]) 28 false),
 (sG (sP 35 (.bin .neq .int) [.t 31, .t 34]) 28 false),
 (sP 36 .pick [.t 28, .c (.bool true), .t 35]),
 (sM 37 36),
 (sG (sP 38 (.faddr 4) [.t 2]) 37 false),
 (sG (sH 39 (.load false 1) [.t 38]) 37 false),
 (sG (sP 40 (.faddr 4) [.t 3]) 37 false),
 (sG (sH 41 (.load false 1) [.t 40]) 37 false),
 (sG (sC 42 61 [.t 39, .t 41]) 37 false),
 (sG (sP 43 (.un .not) [.t 42]) 37 false),
 (sP 44 .pick [.t 37, .c (.bool true), .t 43]),
 (sM 45 44),
 (sG (sP 46 (.faddr 5) [.t 2]) 45 false),
 (sG (sH 47 (.load false 1) [.t 46]) 45 false),
 (sG (sP 48 .len [.t 47]) 45 false),
 (sG (sP 49 (.faddr 5) [.t 3]) 45 false),
 (sG (sH 50 (.load false 1) [.t 49]) 45 false),
 (sG (sP 51 .len [.t 50]) 45 false),
 (sG (sP 52 (.bin .neq .int) [.t 48, .t 51]) 45 false),
 (sP 53 .pick [.t 45, .c (.bool true), .t 52])])
 (.cond (.t 53)
 (.seq
 (.ops [
 (sP 4 .mov [.c (.bool false)])])
 (.ret [4]))
 .skip))
 (.seq
 (.seq
 (.ops [
 (sP 5 .mov [.c (.int .i64 0)])])
 r19_Same_L0)
 (.seq
 (.seq
 (.ops [
 (sP 6 .mov [.c (.int .i64 0)])])
 r19_Same_L2)
 (.seq
 (.ops [
 (sP 4 .mov [.c (.bool true)])])
 (.ret [4]))))))
def r19_Same_I : FInfo := ⟨(.fz false), 2, r19_Same_C, [.tmp 4]⟩
def r19_Same_A : Ann := ⟨[], [], [(0, [2, 3, 5], [2, 3]), (2, [2, 3, 6], [])], [(1, [2, 3, 5]), (3, [2, 3, 6])], [2, 3]⟩
abbrev n_r19_Same : Nat := 13

/-! ### (*balise/center.Center).Step -/
def center_Center_Step_B0 : CCode :=
 (.seq
 (.ops [
 (sP 36 (.bin .lss .ifc) [.t 35, .t 34])])
 (.seq
 (.cond (.t 36)
 .skip
 (.exit 0))
 (.seq
 (.block 1 (some [0, 3, 4, 5, 6, 33, 34, 35])
 (.seq
 (.ops [
 (sP 37 (.iaddr 1) [.t 33, .t 35]),
 (sH 38 (.load false 1) [.t 37]),
 (sM 8 38)])
 (.ops [
 (sP 39 (.faddr 3) [.t 6]),
 (sL 40 6 (.load false 1) [.t 39]),
 (sM 41 0),
 (sM 42 8),
 (sCb 43 47 [.t 41, .t 42]),
 (sB 44 (.app 1 24 [.nils]) [.t 40, .t 43]),
 (sP 45 (.faddr 3) [.t 6]),
 (sLn 6 (.store 1) [.t 45, .t 44])])))
 (.ops [
 (sP 46 (.bin .add .ifc) [.t 35, .c (.int .i64 1)]),
 (sM 35 46)]))))
def center_Center_Step_L0 : CCode := .bloop 0 [0, 3, 4, 5, 6, 33, 34, 35] [0, 3, 4, 5, 6] center_Center_Step_B0

def center_Center_Step_B2 : CCode :=
 (.seq
 (.ops [
 (sP 128 (.bin .lss .ifc) [.t 127, .t 126])])
 (.seq
 (.cond (.t 128)
 .skip
 (.exit 2))
 (.seq
 (.block 3 (some [0, 4, 6, 9, 10, 125, 126, 127])
 (.seq
 (.ops [
 (sM 129 127),
 (sP 130 (.iaddr 3) [.t 125, .t 127]),
 (sH 131 (.load true 3) [.t 130]),
 (sH 12 (.newl 12 [(.int .u8 0), (.int .i64 0), (.int .i64 0)]) []),
 (sM 11 129),
 (sHn (.store 3) [.t 12, .t 131])])
 (.seq
 (.ops [
 (sP 132 (.faddr 0) [.t 12]),
 (sH 133 (.load false 1) [.t 132]),
 (sP 134 (.bin .neq .int) [.t 133, .c (.int .u8 3)])])
 (.cond (.t 134)
 (.ops [
 (sM 135 9),
 (sM 136 11),
 (sM 137 0),
 (sH 138 (.load true 3) [.t 12]),
 (sC 139 54 [.t 137, .t 138]),
 (sP 140 (.iaddr 1) [.t 135, .t 136]),
 (sHn (.store 1) [.t 140, .t 139])])
 .skip))))
 (.ops [
 (sP 141 (.bin .add .ifc) [.t 127, .c (.int .i64 1)]),
 (sM 127 141)]))))
def center_Center_Step_L2 : CCode := .bloop 2 [0, 4, 6, 9, 10, 125, 126, 127] [0, 4, 6, 9, 10] center_Center_Step_B2
def center_Center_Step_C : CCode :=
 (.seq
 (.ops [
 (sH 3 (.box 3) [.t 1]),
 (sH 4 (.newl 4 [(.int .i64 0), .nils, .nils, .nils, .nils, .nils]) [])])
 (.seq
 (.seq
 (.ops [
 (sM 13 0),
 (sP 14 (.bin .eql .ptr) [.t 13, .c .nilp])])
 (.cond (.t 14)
 (.seq
 (.ops [
 (sP 15 (.bld [(.int .i64 0), .nils, .nils, .nils, .nils, .nils] []) []),
 (sHn (.store 6) [.t 4, .t 15])])
 (.ret [4]))
 .skip))
 (.seq
 (.ops [
 (sM 16 0),
 (sM 17 0),
 (sP 18 .nchk [.t 17]),
 (sP 19 (.faddr 11) [.t 18]),
 (sH 20 (.load false 1) [.t 19]),
 (sP 21 (.bin .add .ifc) [.t 20, .c (.int .i64 1)]),
 (sP 22 .min [.t 21, .c (.int .i64 16777216)]),
 (sP 23 .nchk [.t 16]),
 (sP 24 (.faddr 11) [.t 23]),
 (sHn (.store 1) [.t 24, .t 22])])
 (.seq
 (.ops [
 (sM 25 0),
 (sP 26 .nchk [.t 25]),
 (sP 27 (.faddr 12) [.t 26]),
 (sH 28 (.load false 1) [.t 27]),
 (sP 29 (.faddr 0) [.t 3]),
 (sH 30 (.load false 1) [.t 29]),
 (sC 31 46 [.t 28, .t 30]),
 (sM 5 31)])
 (.seq
 (.ops [
 (sH 6 (.newl 6 [(.int .i64 0), .nils, .nils, .nils, .nils, .nils]) [])])
 (.seq
 (.seq
 (.ops [
 (sP 32 (.faddr 1) [.t 3]),
 (sH 33 (.load false 1) [.t 32]),
 (sP 34 .len [.t 33]),
 (sP 35 .mov [.c (.int .i64 0)])])
 center_Center_Step_L0)
 (.seq
 (.ops [
 (sM 47 0),
 (sP 48 .nchk [.t 47]),
 (sP 49 (.faddr 13) [.t 48]),
 (sH 50 (.load false 1) [.t 49]),
 (sM 51 0),
 (sP 52 .nchk [.t 51]),
 (sP 53 (.faddr 11) [.t 52]),
 (sH 54 (.load false 1) [.t 53]),
 (sM 55 0),
 (sP 56 .nchk [.t 55]),
 (sP 57 (.faddr 0) [.t 56]),
 (sP 58 (.faddr 6) [.t 57]),
 (sH 59 (.load false 1) [.t 58]),
 (sC 60 48 [.t 50, .t 54, .t 59])])
 (.seq
 (.ops [
 (sM 61 0),
 (sP 62 .nchk [.t 61]),
 (sP 63 (.faddr 13) [.t 62]),
 (sH 64 (.load false 1) [.t 63]),
 (sM 65 0),
 (sP 66 .nchk [.t 65]),
 (sP 67 (.faddr 11) [.t 66]),
 (sH 68 (.load false 1) [.t 67]),
 (sM 69 0),
 (sP 70 .nchk [.t 69]),
 (sP 71 (.faddr 0) [.t 70]),
 (sP 72 (.faddr 7) [.t 71]),
 (sH 73 (.load false 1) [.t 72]),
 (sC 74 49 [.t 64, .t 68, .t 73])])
 (.seq
 (.ops [
 (sM 75 0),
 (sC 76 50 [.t 75])])
 (.seq
 (.ops [
 (sM 77 0),
 (sM 78 0),
 (sP 79 .nchk [.t 78]),
 (sP 80 (.faddr 0) [.t 79]),
 (sH 81 (.load true 10) [.t 80]),
 (sM 82 0),
 (sP 83 .nchk [.t 82]),
 (sP 84 (.faddr 16) [.t 83]),
 (sH 85 (.load false 1) [.t 84]),
 (sM 86 5),
 (sM 87 0),
 (sP 88 .nchk [.t 87]),
 (sP 89 (.faddr 18) [.t 88]),
 (sH 90 (.load false 1) [.t 89]),
 (sC 91 51 [.t 81, .t 85, .t 86, .t 90]),
 (sP 92 .nchk [.t 77]),
 (sP 93 (.faddr 16) [.t 92]),
 (sHn (.store 1) [.t 93, .t 91])])
 (.seq
 (.ops [
 (sP 94 (.faddr 2) [.t 3]),
 (sH 95 (.load false 1) [.t 94]),
 (sP 96 .len [.t 95]),
 (sH 97 (.mksl 1 8 [(.int .i64 0)]) [.t 96, .t 96]),
 (sM 9 97)])
 (.seq
 (.ops [
 (sM 98 0),
 (sM 99 5),
 (sP 100 (.faddr 2) [.t 3]),
 (sH 101 (.load false 1) [.t 100]),
 (sM 102 9),
 (sC 103 52 [.t 98, .t 99, .t 101, .t 102])])
 (.seq
 (.ops [
 (sM 104 0),
 (sP 105 .nchk [.t 104]),
 (sP 106 (.faddr 17) [.t 105]),
 (sH 107 (.load false 1) [.t 106]),
 (sM 10 107)])
 (.seq
 (.ops [
 (sM 108 0),
 (sM 109 0),
 (sP 110 .nchk [.t 109]),
 (sP 111 (.faddr 0) [.t 110]),
 (sH 112 (.load true 10) [.t 111]),
 (sM 113 0),
 (sP 114 .nchk [.t 113]),
 (sP 115 (.faddr 16) [.t 114]),
 (sH 116 (.load false 1) [.t 115]),
 (sM 117 0),
 (sP 118 .nchk [.t 117]),
 (sP 119 (.faddr 18) [.t 118]),
 (sH 120 (.load false 1) [.t 119]),
 (sC 121 53 [.t 112, .t 116, .t 120]),
 (sP 122 .nchk [.t 108]),
 (sP 123 (.faddr 17) [.t 122]),
 (sHn (.store 1) [.t 123, .t 121])])
 (.seq
 (.seq
 (.ops [
 (sP 124 (.faddr 2) [.t 3]),
 (sH 125 (.load false 1) [.t 124]),
 (sP 126 .len [.t 125]),
 (sP 127 .mov [.c (.int .i64 0)])])
 center_Center_Step_L2)
 (.seq
 (.ops [
 (sM 142 0),
 (sP 143 .nchk [.t 142]),
 (sP 144 (.faddr 14) [.t 143]),
 (sH 145 (.load false 1) [.t 144]),
 (sM 146 0),
 (sP 147 .nchk [.t 146]),
 (sP 148 (.faddr 11) [.t 147]),
 (sH 149 (.load false 1) [.t 148]),
 (sM 150 0),
 (sP 151 .nchk [.t 150]),
 (sP 152 (.faddr 17) [.t 151]),
 (sH 153 (.load false 1) [.t 152]),
 (sM 154 0),
 (sP 155 .nchk [.t 154]),
 (sP 156 (.faddr 16) [.t 155]),
 (sH 157 (.load false 1) [.t 156]),
 (sC 158 55 [.t 145, .t 149, .t 153, .t 157])])
 (.seq
 (.ops [
 (sP 159 (.faddr 3) [.t 6]),
 (sL 160 6 (.load false 1) [.t 159]),
 (sM 161 0),
 (sCb 162 56 [.t 161]),
 (sB 163 (.app 1 24 [.nils]) [.t 160, .t 162]),
 (sP 164 (.faddr 3) [.t 6]),
 (sLn 6 (.store 1) [.t 164, .t 163])])
 (.seq
 (.ops [
 (sM 165 0),
 (sP 166 .nchk [.t 165]),
 (sP 167 (.faddr 11) [.t 166]),
 (sB 168 (.load false 1) [.t 167]),
 (sM 169 0),
 (sP 170 .nchk [.t 169]),
 (sP 171 (.faddr 17) [.t 170]),
 (sB 172 (.load false 1) [.t 171]),
 (sCp 173 57 [.t 172]),
 (sM 174 10),
 (sM 175 0),
 (sP 176 .nchk [.t 175]),
 (sP 177 (.faddr 17) [.t 176]),
 (sB 178 (.load false 1) [.t 177]),
 (sCb 179 58 [.t 174, .t 178]),
 (sP 180 (.faddr 0) [.t 6]),
 (sLn 6 (.store 1) [.t 180, .t 168]),
 (sP 181 (.faddr 1) [.t 6]),
 (sLn 6 (.store 1) [.t 181, .t 173]),
 (sP 182 (.faddr 2) [.t 6]),
 (sLn 6 (.store 1) [.t 182, .t 179])])
 (.seq
 (.ops [
 (sM 183 0),
 (sP 184 .nchk [.t 183]),
 (sP 185 (.faddr 15) [.t 184]),
 (sH 186 (.load false 1) [.t 185]),
 (sC 187 39 [.t 186]),
 (sM 188 9),
 (sP 189 (.faddr 4) [.t 6]),
 (sHn (.store 1) [.t 189, .t 187]),
 (sP 190 (.faddr 5) [.t 6]),
 (sHn (.store 1) [.t 190, .t 188])])
 (.seq
 (.ops [
 (sH 191 (.load true 6) [.t 6]),
 (sHn (.store 6) [.t 4, .t 191])])
 (.ret [4])))))))))))))))))))))
def center_Center_Step_I : FInfo := ⟨.ref, 2, center_Center_Step_C, [.cell 4 true 6]⟩
def center_Center_Step_A : Ann := ⟨[], [], [(0, [0, 3, 4, 5, 6, 33, 34, 35], [0, 3, 4, 5, 6]), (2, [0, 4, 6, 9, 10, 125, 126, 127], [0, 4, 6, 9, 10])], [(1, [0, 3, 4, 5, 6, 33, 34, 35]), (3, [0, 4, 6, 9, 10, 125, 126, 127])], [3, 4, 6, 12]⟩
abbrev n_center_Center_Step : Nat := 11

/-! ### (*balise/center.Center).Locks -/
def center_Center_Locks_C : CCode :=
 (.seq
 (.ops [
 (sP 2 .mov [.c .nils])])
 (.seq
 (.seq
 (.ops [
 (sM 3 0),
 (sP 4 (.bin .eql .ptr) [.t 3, .c .nilp])])
 (.cond (.t 4)
 (.seq
 (.ops [
 (sP 2 .mov [.c .nils])])
 (.ret [2]))
 .skip))
 (.seq
 (.ops [
 (sM 5 0),
 (sP 6 .nchk [.t 5]),
 (sP 7 (.faddr 14) [.t 6]),
 (sH 8 (.load false 1) [.t 7]),
 (sC 9 63 [.t 8]),
 (sM 2 9)])
 (.ret [2]))))
def center_Center_Locks_I : FInfo := ⟨.ref, 1, center_Center_Locks_C, [.tmp 2]⟩
def center_Center_Locks_A : Ann := ⟨[], [], [], [], []⟩
abbrev n_center_Center_Locks : Nat := 19

/-! ### (*balise/center.Center).Trains -/
def center_Center_Trains_C : CCode :=
 (.seq
 (.ops [
 (sP 2 .mov [.c .nils])])
 (.seq
 (.seq
 (.ops [
 (sM 3 0),
 (sP 4 (.bin .eql .ptr) [.t 3, .c .nilp])])
 (.cond (.t 4)
 (.seq
 (.ops [
 (sP 2 .mov [.c .nils])])
 (.ret [2]))
 .skip))
 (.seq
 (.ops [
 (sM 5 0),
 (sP 6 .nchk [.t 5]),
 (sP 7 (.faddr 13) [.t 6]),
 (sH 8 (.load false 1) [.t 7]),
 (sC 9 65 [.t 8]),
 (sM 2 9)])
 (.ret [2]))))
def center_Center_Trains_I : FInfo := ⟨.ref, 1, center_Center_Trains_C, [.tmp 2]⟩
def center_Center_Trains_A : Ann := ⟨[], [], [], [], []⟩
abbrev n_center_Center_Trains : Nat := 17

/-! ### balise/baliseref01.Bytes -/
def r01_Bytes_B0 : CCode :=
 (.seq
 (.seq
 (.ops [
 (sM 11 5),
 (sM 12 0),
 (sP 13 .len [.t 12]),
 (sP 14 (.bin .lss .ifc) [.t 11, .t 13])])
 (.cond (.t 14)
 .skip
 (.exit 0)))
 (.seq
 (.block 1 (some [0, 1, 5])
 (.seq
 (.ops [
 (sM 17 0),
 (sM 18 5),
 (sP 19 (.iaddr 1) [.t 17, .t 18]),
 (sH 20 (.load false 1) [.t 19]),
 (sM 21 1),
 (sM 22 5),
 (sP 23 (.iaddr 1) [.t 21, .t 22]),
 (sH 24 (.load false 1) [.t 23]),
 (sP 25 (.bin .neq .int) [.t 20, .t 24])])
 (.cond (.t 25)
 (.seq
 (.ops [
 (sP 4 .mov [.c (.bool false)])])
 (.ret [4]))
 .skip)))
 (.ops [
 (sM 15 5),
 (sP 16 (.bin .add .ifc) [.t 15, .c (.int .i64 1)]),
 (sM 5 16)])))
def r01_Bytes_L0 : CCode := .bloop 0 [0, 1, 5] [] r01_Bytes_B0
def r01_Bytes_C : CCode :=
 (.seq
 (.ops [
 (sP 4 .mov [.c (.bool false)])])
 (.seq
 (.seq
 (.ops [
 (sM 6 0),
 (sP 7 .len [.t 6]),
 (sM 8 1),
 (sP 9 .len [.t 8]),
 (sP 10 (.bin .neq .int) [.t 7, .t 9])])
 (.cond (.t 10)
 (.seq
 (.ops [
 (sP 4 .mov [.c (.bool false)])])
 (.ret [4]))
 .skip))
 (.seq
 (.seq
 (.ops [
 (sP 5 .mov [.c (.int .i64 0)])])
 r01_Bytes_L0)
 (.seq
 (.ops [
 (sP 4 .mov [.c (.bool true)])])
 (.ret [4])))))
def r01_Bytes_I : FInfo := ⟨(.fz false), 2, r01_Bytes_C, [.tmp 4]⟩
def r01_Bytes_A : Ann := ⟨[], [], [(0, [0, 1, 5], [])], [(1, [0, 1, 5])], []⟩
abbrev n_r01_Bytes : Nat := 25

/-! ### (*balise/center.Center).Authority -/
def center_Center_Authority_C : CCode :=
 (.seq
 (.ops [
 (sP 4 .mov [.c .nils])])
 (.seq
 (.seq
 (.ops [
 (sM 5 0),
 (sP 6 (.bin .eql .ptr) [.t 5, .c .nilp])])
 (.cond (.t 6)
 (.seq
 (.ops [
 (sP 4 .mov [.c .nils])])
 (.ret [4]))
 .skip))
 (.seq
 (.ops [
 (sM 7 0),
 (sP 8 .nchk [.t 7]),
 (sP 9 (.faddr 19) [.t 8]),
 (sH 10 (.load false 1) [.t 9]),
 (sM 11 1),
 (sH 12 (.look 0 .nils false) [.t 10, .t 11]),
 (sC 13 64 [.t 12]),
 (sM 4 13)])
 (.ret [4]))))
def center_Center_Authority_I : FInfo := ⟨.ref, 2, center_Center_Authority_C, [.tmp 4]⟩
def center_Center_Authority_A : Ann := ⟨[], [], [], [], []⟩
abbrev n_center_Center_Authority : Nat := 20

/-! ### balise/baliseref01.Join -/
def r01_Join_C : CCode :=
 (.seq
 (.ops [
 (sP 4 .mov [.c .nils])])
 (.seq
 (.ops [
 (sP 5 .mov [.c .nils])])
 (.seq
 (.ops [
 (sM 6 5),
 (sM 7 0),
 (sH 8 (.app 1 1 [(.int .u8 0)]) [.t 6, .t 7]),
 (sM 5 8)])
 (.seq
 (.ops [
 (sM 9 5),
 (sM 10 1),
 (sH 11 (.app 1 1 [(.int .u8 0)]) [.t 9, .t 10]),
 (sM 4 11)])
 (.ret [4])))))
def r01_Join_I : FInfo := ⟨(.fz false), 2, r01_Join_C, [.tmp 4]⟩
def r01_Join_A : Ann := ⟨[], [], [], [], []⟩
abbrev n_r01_Join : Nat := 71

/-! ### (*balise/center.Center).Owners -/
def center_Center_Owners_C : CCode :=
 (.seq
 (.ops [
 (sP 2 .mov [.c .nils])])
 (.seq
 (.seq
 (.ops [
 (sM 3 0),
 (sP 4 (.bin .eql .ptr) [.t 3, .c .nilp])])
 (.cond (.t 4)
 (.seq
 (.ops [
 (sP 2 .mov [.c .nils])])
 (.ret [2]))
 .skip))
 (.seq
 (.ops [
 (sM 5 0),
 (sP 6 .nchk [.t 5]),
 (sP 7 (.faddr 16) [.t 6]),
 (sH 8 (.load false 1) [.t 7]),
 (sC 9 64 [.t 8]),
 (sM 2 9)])
 (.ret [2]))))
def center_Center_Owners_I : FInfo := ⟨.ref, 1, center_Center_Owners_C, [.tmp 2]⟩
def center_Center_Owners_A : Ann := ⟨[], [], [], [], []⟩
abbrev n_center_Center_Owners : Nat := 16

/-! ### (*balise/center.Center).Span -/
def center_Center_Span_C : CCode :=
 (.seq
 (.ops [
 (sP 4 .mov [.c .nils])])
 (.seq
 (.seq
 (.ops [
 (sM 7 0),
 (sP 8 (.bin .eql .ptr) [.t 7, .c .nilp])])
 (.cond (.t 8)
 (.seq
 (.ops [
 (sP 4 .mov [.c .nils])])
 (.ret [4]))
 .skip))
 (.seq
 (.ops [
 (sM 10 0),
 (sP 11 .nchk [.t 10]),
 (sP 12 (.faddr 18) [.t 11]),
 (sH 13 (.load false 1) [.t 12]),
 (sM 14 1),
 (sC 15 66 [.t 13, .t 14]),
 (sM 9 15),
 (sP 16 (.ext 0) [.t 9]),
 (sP 17 (.ext 1) [.t 9]),
 (sH 5 (.newl 5 [(.int .i64 0), (.bool false), .nils]) []),
 (sHn (.store 3) [.t 5, .t 16]),
 (sM 6 17)])
 (.seq
 (.ops [
 (sP 18 (.faddr 2) [.t 5]),
 (sH 19 (.load false 1) [.t 18]),
 (sC 20 64 [.t 19]),
 (sM 4 20)])
 (.ret [4])))))
def center_Center_Span_I : FInfo := ⟨.ref, 2, center_Center_Span_C, [.tmp 4]⟩
def center_Center_Span_A : Ann := ⟨[], [], [], [], [5]⟩
abbrev n_center_Center_Span : Nat := 18

/-! ### balise/baliseref04.Same -/
def r04_Same_B0 : CCode :=
 (.seq
 (.seq
 (.ops [
 (sM 49 5),
 (sP 50 (.faddr 0) [.t 2]),
 (sH 51 (.load false 1) [.t 50]),
 (sP 52 .len [.t 51]),
 (sP 53 (.bin .lss .ifc) [.t 49, .t 52])])
 (.cond (.t 53)
 .skip
 (.exit 0)))
 (.seq
 (.block 1 (some [2, 3, 5])
 (.seq
 (.ops [
 (sP 56 (.faddr 0) [.t 2]),
 (sH 57 (.load false 1) [.t 56]),
 (sM 58 5),
 (sP 59 (.iaddr 1) [.t 57, .t 58]),
 (sH 60 (.load false 1) [.t 59]),
 (sP 61 (.faddr 0) [.t 3]),
 (sH 62 (.load false 1) [.t 61]),
 (sM 63 5),
 (sP 64 (.iaddr 1) [.t 62, .t 63]),
 (sH 65 (.load false 1) [.t 64]),
 (sP 66 (.bin .neq .ifc) [.t 60, .t 65])])
 (.cond (.t 66)
 (.seq
 (.ops [
 (sP 4 .mov [.c (.bool false)])])
 (.ret [4]))
 .skip)))
 (.ops [
 (sM 54 5),
 (sP 55 (.bin .add .ifc) [.t 54, .c (.int .i64 1)]),
 (sM 5 55)])))
def r04_Same_L0 : CCode := .bloop 0 [2, 3, 5] [2, 3] r04_Same_B0

def r04_Same_B2 : CCode :=
 (.seq
 (.seq
 (.ops [
 (sM 67 6),
 (sP 68 (.faddr 1) [.t 2]),
 (sH 69 (.load false 1) [.t 68]),
 (sP 70 .len [.t 69]),
 (sP 71 (.bin .lss .ifc) [.t 67, .t 70])])
 (.cond (.t 71)
 .skip
 (.exit 2)))
 (.seq
 (.block 3 (some [2, 3, 6])
 (.seq
 (.ops [
 (sP 74 (.faddr 1) [.t 2]),
 (sH 75 (.load false 1) [.t 74]),
 (sM 76 6),
 (sP 77 (.iaddr 3) [.t 75, .t 76]),
 (sH 78 (.load true 3) [.t 77]),
 (sP 79 (.faddr 1) [.t 3]),
 (sH 80 (.load false 1) [.t 79]),
 (sM 81 6),
 (sP 82 (.iaddr 3) [.t 80, .t 81]),
 (sH 83 (.load true 3) [.t 82]),
 (sP 84 (.bin .neq (.parts [(0, false, 1, .int), (1, false, 1, .int), (2, false, 1, .int)])) [.t 78, .t 83])])
 (.cond (.t 84)
 (.seq
 (.ops [
 (sP 4 .mov [.c (.bool false)])])
 (.ret [4]))
 .skip)))
 (.ops [
 (sM 72 6),
 (sP 73 (.bin .add .ifc) [.t 72, .c (.int .i64 1)]),
 (sM 6 73)])))
def r04_Same_L2 : CCode := .bloop 2 [2, 3, 6] [2, 3] r04_Same_B2

def r04_Same_B4 : CCode :=
 (.seq
 (.seq
 (.ops [
 (sM 85 7),
 (sP 86 (.faddr 3) [.t 2]),
 (sH 87 (.load false 1) [.t 86]),
 (sP 88 .len [.t 87]),
 (sP 89 (.bin .lss .ifc) [.t 85, .t 88])])
 (.cond (.t 89)
 .skip
 (.exit 4)))
 (.seq
 (.block 5 (some [2, 3, 7])
 (.seq
 (.ops [
 (sP 92 (.faddr 3) [.t 2]),
 (sH 93 (.load false 1) [.t 92]),
 (sM 94 7),
 (sP 95 (.iaddr 4) [.t 93, .t 94]),
 (sH 96 (.load true 4) [.t 95]),
 (sP 97 (.faddr 3) [.t 3]),
 (sH 98 (.load false 1) [.t 97]),
 (sM 99 7),
 (sP 100 (.iaddr 4) [.t 98, .t 99]),
 (sH 101 (.load true 4) [.t 100]),
 (sP 102 (.bin .neq (.parts [(0, false, 1, .int), (1, false, 1, .int), (2, false, 1, .int), (3, false, 1, .int)])) [.t 96, .t 101])])
 (.cond (.t 102)
 (.seq
 (.ops [
 (sP 4 .mov [.c (.bool false)])])
 (.ret [4]))
 .skip)))
 (.ops [
 (sM 90 7),
 (sP 91 (.bin .add .ifc) [.t 90, .c (.int .i64 1)]),
 (sM 7 91)])))
def r04_Same_L4 : CCode := .bloop 4 [2, 3, 7] [2, 3] r04_Same_B4
def r04_Same_C : CCode :=
 (.seq
 (.ops [
 (sH 2 (.box 2) [.t 0]),
 (sH 3 (.box 3) [.t 1]),
 (sP 4 .mov [.c (.bool false)])])
 (.seq
 (.seq
 (.ops [
 (sP 8 (.faddr 0) [.t 2]),
 (sH 9 (.load false 1) [.t 8]),
 (sP 10 .len [.t 9]),
 (sP 11 (.faddr 0) [.t 3]),
 (sH 12 (.load false 1) [.t 11]),
 (sP 13 .len [.t 12]),
 (sP 14 (.bin .neq .int) [.t 10, .t 13]),
 (sM 15 14),
 (sG (sP 16 (.faddr 1) [.t 2]) 15 false),
 (sG (sH 17 (.load false 1) [.t 16]) 15 false),
 (sG (sP 18 .len [.t 17]) 15 false),
 (sG (sP 19 (.faddr 1) [.t 3]) 15 false),
 (sG (sH 20 (.load false 1) [.t 19]) 15 false),
 (sG (sP 21 .len [.t 20]) 15 false),
 (sG (sP 22 (.bin .neq .int) [.t 18, .t 21]) 15 false),
 (sP 23 .pick [.t 15, .c (.bool true), .t 22]),
 (sM 24 23),
 (sG (sP 25 (.faddr 3) [.t 2]) 24 false),
 (sG (sH 26 (.load false 1) [.t 25]) 24 false),
 (sG (sP 27 .len [.t 26]) 24 false),
 (sG (sP 28 (.faddr 3) [.t 3]) 24 false),
 (sG (sH 29 (.load false 1) [.t 28]) 24 false),
 (sG (sP 30 .len [.t 29]) 24 false),
 (sG (sP 31 (.bin .neq .int) [.t 27, .t 30]) 24 false),
 (sP 32 .pick [.t 24, .c (.bool true), .t 31]),
 (sM 33 32),
 (sG (sP 34 (.faddr 2) [.t 2]) 33 false),
 (sG (sH 35 (.load false 1) [.t 34]) 33 false),
 (sG (sP 36 (.faddr 2) [.t 3]) 33 false),
 (sG (sH 37 (.load false 1) [.t 36]) 33 false),
 (sG (sC 38 67 [.t 35, .t 37]) 33 false),
 (sG (sP 39 (.un .not) [.t 38]) 33 false),
 (sP 40 .pick [.t 33, .c (.bool true), .t 39]),
 (sM 41 40),
 (sG (sP 42 (.faddr 4) [.t 2]) 41 false),
 (sG (sH 43 (.load false 1) [.t 42]) 41 false),
 (sG (sP 44 (.faddr 4) [.t 3]) 41 false),
 (sG (sH 45 (.load false 1) [.t 44]) 41 false),
 (sG (sC 46 67 [.t 43, .t 45]) 41 false),
 (sG (sP 47 (.un .not) [.t 46]) 41 false),
 (sP 48 .pick [.t 41, .c (.bool true), .t 47])])
 (.cond (.t 48)
 (.seq
 (.ops [
 (sP 4 .mov [.c (.bool false)])])
 (.ret [4]))
 .skip))
 (.seq
 (.seq
 (.ops [
 (sP 5 .mov [.c (.int .i64 0)])])
 r04_Same_L0)
 (.seq
 (.seq
 (.ops [
 (sP 6 .mov [.c (.int .i64 0)])])
 r04_Same_L2)
 (.seq
 (.seq
 (.ops [
 (sP 7 .mov [.c (.int .i64 0)])])
 r04_Same_L4)
 (.seq
 (.ops [
 (sP 103 (.faddr 5) [.t 2]),
 (sH 104 (.load false 1) [.t 103]),
 (sP 105 (.faddr 5) [.t 3]),
 (sH 106 (.load false 1) [.t 105]),
 (sP 107 (.bin .eql .int) [.t 104, .t 106]),
 (sM 108 107),
 (sG (sP 109 (.faddr 6) [.t 2]) 108 true),
 (sG (sH 110 (.load false 1) [.t 109]) 108 true),
 (sG (sP 111 (.faddr 6) [.t 3]) 108 true),
 (sG (sH 112 (.load false 1) [.t 111]) 108 true),
 (sG (sP 113 (.bin .eql .int) [.t 110, .t 112]) 108 true),
 (sP 114 .pick [.t 108, .t 113, .c (.bool false)]),
 (sM 115 114),
 (sG (sP 116 (.faddr 7) [.t 2]) 115 true),
 (sG (sH 117 (.load false 1) [.t 116]) 115 true),
 (sG (sP 118 (.faddr 7) [.t 3]) 115 true),
 (sG (sH 119 (.load false 1) [.t 118]) 115 true),
 (sG (sP 120 (.bin .eql .int) [.t 117, .t 119]) 115 true),
 (sP 121 .pick [.t 115, .t 120, .c (.bool false)]),
 (sM 122 121),
 (sG (sP 123 (.faddr 8) [.t 2]) 122 true),
 (sG (sH 124 (.load false 1) [.t 123]) 122 true),
 (sG (sP 125 (.faddr 8) [.t 3]) 122 true),
 (sG (sH 126 (.load false 1) [.t 125]) 122 true),
 (sG (sP 127 (.bin .eql .int) [.t 124, .t 126]) 122 true),
 (sP 128 .pick [.t 122, .t 127, .c (.bool false)]),
 (sM 129 128),
 (sG (sP 130 (.faddr 9) [.t 2]) 129 true),
 (sG (sH 131 (.load false 1) [.t 130]) 129 true),
 (sG (sP 132 (.faddr 9) [.t 3]) 129 true),
 (sG (sH 133 (.load false 1) [.t 132]) 129 true),
 (sG (sP 134 (.bin .eql .int) [.t 131, .t 133]) 129 true),
 (sP 135 .pick [.t 129, .t 134, .c (.bool false)]),
 (sM 4 135)])
 (.ret [4])))))))
def r04_Same_I : FInfo := ⟨(.fz false), 2, r04_Same_C, [.tmp 4]⟩
def r04_Same_A : Ann := ⟨[], [], [(0, [2, 3, 5], [2, 3]), (2, [2, 3, 6], [2, 3]), (4, [2, 3, 7], [2, 3])], [(1, [2, 3, 5]), (3, [2, 3, 6]), (5, [2, 3, 7])], [2, 3]⟩
abbrev n_r04_Same : Nat := 22

/-! ### (*balise/center.Center).Layout -/
def center_Center_Layout_C : CCode :=
 (.seq
 (.ops [
 (sH 2 (.newl 2 [.nils, .nils, .nils, .nils, .nils, (.int .i64 0), (.int .i64 0), (.int .i64 0), (.int .i64 0), (.int .i64 0)]) [])])
 (.seq
 (.seq
 (.ops [
 (sM 5 0),
 (sP 6 (.bin .eql .ptr) [.t 5, .c .nilp])])
 (.cond (.t 6)
 (.seq
 (.ops [
 (sP 7 (.bld [.nils, .nils, .nils, .nils, .nils, (.int .i64 0), (.int .i64 0), (.int .i64 0), (.int .i64 0), (.int .i64 0)] []) []),
 (sHn (.store 10) [.t 2, .t 7])])
 (.ret [2]))
 .skip))
 (.seq
 (.ops [
 (sM 9 0),
 (sP 10 .nchk [.t 9]),
 (sP 11 (.faddr 0) [.t 10]),
 (sH 12 (.load true 10) [.t 11]),
 (sC 13 68 [.t 12]),
 (sC 14 32 [.t 13]),
 (sM 8 14),
 (sP 15 (.ext 0) [.t 8]),
 (sP 16 (.ext 1) [.t 8]),
 (sH 3 (.newl 3 [.nils, .nils, .nils, .nils, .nils, (.int .i64 0), (.int .i64 0), (.int .i64 0), (.int .i64 0), (.int .i64 0)]) []),
 (sHn (.store 10) [.t 3, .t 15]),
 (sM 4 16)])
 (.seq
 (.ops [
 (sH 17 (.load true 10) [.t 3]),
 (sHn (.store 10) [.t 2, .t 17])])
 (.ret [2])))))
def center_Center_Layout_I : FInfo := ⟨.ref, 1, center_Center_Layout_C, [.cell 2 true 10]⟩
def center_Center_Layout_A : Ann := ⟨[], [], [], [], [2, 3]⟩
abbrev n_center_Center_Layout : Nat := 23

/-! ### (*balise/center.Center).Train -/
def center_Center_Train_C : CCode :=
 (.seq
 (.ops [
 (sH 4 (.newl 4 [(.int .i64 0), (.int .i64 0), (.int .i64 0), (.int .i64 0), (.int .i64 0), .nils]) []),
 (sP 5 .mov [.c (.bool false)])])
 (.seq
 (.seq
 (.ops [
 (sM 6 0),
 (sP 7 (.bin .eql .ptr) [.t 6, .c .nilp])])
 (.cond (.t 7)
 (.seq
 (.ops [
 (sP 8 (.bld [(.int .i64 0), (.int .i64 0), (.int .i64 0), (.int .i64 0), (.int .i64 0), .nils] []) []),
 (sHn (.store 6) [.t 4, .t 8]),
 (sP 5 .mov [.c (.bool false)])])
 (.ret [4, 5]))
 .skip))
 (.seq
 (.ops [
 (sM 9 0),
 (sP 10 .nchk [.t 9]),
 (sP 11 (.faddr 13) [.t 10]),
 (sH 12 (.load false 1) [.t 11]),
 (sM 13 1),
 (sC 14 59 [.t 12, .t 13]),
 (sP 15 (.ext 0) [.t 14]),
 (sP 16 (.ext 1) [.t 14]),
 (sHn (.store 6) [.t 4, .t 15]),
 (sM 5 16)])
 (.ret [4, 5]))))
def center_Center_Train_I : FInfo := ⟨.ref, 2, center_Center_Train_C, [.cell 4 true 6, .tmp 5]⟩
def center_Center_Train_A : Ann := ⟨[], [], [], [], [4]⟩
abbrev n_center_Center_Train : Nat := 12

/-! ### (*balise/center.Center).Now -/
def center_Center_Now_C : CCode :=
 (.seq
 (.ops [
 (sP 2 .mov [.c (.int .i64 0)])])
 (.seq
 (.seq
 (.ops [
 (sM 3 0),
 (sP 4 (.bin .eql .ptr) [.t 3, .c .nilp])])
 (.cond (.t 4)
 (.seq
 (.ops [
 (sP 2 .mov [.c (.int .i64 0)])])
 (.ret [2]))
 .skip))
 (.seq
 (.ops [
 (sM 5 0),
 (sP 6 .nchk [.t 5]),
 (sP 7 (.faddr 11) [.t 6]),
 (sH 8 (.load false 1) [.t 7]),
 (sM 2 8)])
 (.ret [2]))))
def center_Center_Now_I : FInfo := ⟨.ref, 1, center_Center_Now_C, [.tmp 2]⟩
def center_Center_Now_A : Ann := ⟨[], [], [], [], []⟩
abbrev n_center_Center_Now : Nat := 14

/-! ### (*balise/center.Center).Image -/
def center_Center_Image_C : CCode :=
 (.seq
 (.ops [
 (sP 2 .mov [.c .nils])])
 (.seq
 (.seq
 (.ops [
 (sM 3 0),
 (sP 4 (.bin .eql .ptr) [.t 3, .c .nilp])])
 (.cond (.t 4)
 (.seq
 (.ops [
 (sP 2 .mov [.c .nils])])
 (.ret [2]))
 .skip))
 (.seq
 (.ops [
 (sM 5 0),
 (sP 6 .nchk [.t 5]),
 (sP 7 (.faddr 14) [.t 6]),
 (sH 8 (.load false 1) [.t 7]),
 (sC 9 63 [.t 8]),
 (sC 10 62 [.t 9]),
 (sM 2 10)])
 (.ret [2]))))
def center_Center_Image_I : FInfo := ⟨.ref, 1, center_Center_Image_C, [.tmp 2]⟩
def center_Center_Image_A : Ann := ⟨[], [], [], [], []⟩
abbrev n_center_Center_Image : Nat := 15

/-! ### balise/baliseref04.Make -/
def r04_Make_B1 : CCode :=
 (.seq
 (.seq
 (.ops [
 (sM 67 9),
 (sM 68 8),
 (sP 69 (.bin .leq .ifc) [.t 67, .t 68])])
 (.cond (.t 69)
 .skip
 (.exit 1)))
 (.seq
 (.block 2 (some [1, 2, 3, 6, 7, 8, 9])
 (.ops [
 (sP 72 (.faddr 0) [.t 6]),
 (sH 73 (.load false 1) [.t 72]),
 (sM 74 3),
 (sM 75 9),
 (sP 76 (.bin .mul .ifc) [.t 74, .t 75]),
 (sP 77 (.toFloat .f64) [.t 76]),
 (sP 78 .cplx [.t 77, .c (.float .f64 0)]),
 (sH 79 (.bslF 1 1 [(.cplx .f64 0 0)] [(0, 1)]) [.t 78]),
 (sH 80 (.app 1 16 [(.cplx .f64 0 0)]) [.t 73, .t 79]),
 (sP 81 (.faddr 0) [.t 6]),
 (sHn (.store 1) [.t 81, .t 80])]))
 (.ops [
 (sM 70 9),
 (sP 71 (.bin .add .ifc) [.t 70, .c (.int .i64 1)]),
 (sM 9 71)])))
def r04_Make_L1 : CCode := .bloop 1 [1, 2, 3, 6, 7, 8, 9] [1, 2, 3, 6, 7, 8] r04_Make_B1

def r04_Make_B3 : CCode :=
 (.seq
 (.seq
 (.ops [
 (sM 82 10),
 (sM 83 8),
 (sP 84 (.bin .lss .ifc) [.t 82, .t 83])])
 (.cond (.t 84)
 .skip
 (.exit 3)))
 (.seq
 (.block 4 (some [1, 2, 3, 6, 7, 8, 10])
 (.ops [
 (sM 87 7),
 (sM 88 10),
 (sM 89 10),
 (sP 90 (.bin .add .ifc) [.t 89, .c (.int .i64 1)]),
 (sP 91 (.bld [(.int .i64 0), (.int .i64 0)] [(0, 1), (1, 1)]) [.t 88, .t 90]),
 (sH 92 (.bslF 2 1 [(.int .i64 0), (.int .i64 0)] [(0, 2)]) [.t 91]),
 (sH 93 (.app 2 16 [(.int .i64 0), (.int .i64 0)]) [.t 87, .t 92]),
 (sM 7 93)]))
 (.ops [
 (sM 85 10),
 (sP 86 (.bin .add .ifc) [.t 85, .c (.int .i64 1)]),
 (sM 10 86)])))
def r04_Make_L3 : CCode := .bloop 3 [1, 2, 3, 6, 7, 8, 10] [1, 2, 3, 6, 7] r04_Make_B3

def r04_Make_B5 : CCode :=
 (.seq
 (.seq
 (.ops [
 (sM 150 11),
 (sM 151 7),
 (sP 152 .len [.t 151]),
 (sP 153 (.bin .lss .ifc) [.t 150, .t 152])])
 (.cond (.t 153)
 .skip
 (.exit 5)))
 (.seq
 (.block 6 (some [1, 2, 3, 6, 7, 11])
 (.ops [
 (sP 156 (.faddr 1) [.t 6]),
 (sH 157 (.load false 1) [.t 156]),
 (sM 158 3),
 (sP 159 (.bin .mul .ifc) [.c (.int .i64 2), .t 158]),
 (sM 160 11),
 (sP 161 (.bin .rem .ifc) [.t 160, .c (.int .i64 3)]),
 (sP 162 (.bin .add .ifc) [.t 159, .t 161]),
 (sM 163 7),
 (sM 164 11),
 (sP 165 (.iaddr 2) [.t 163, .t 164]),
 (sP 166 (.iaddrA 2 1) [.t 165, .c (.int .i64 0)]),
 (sH 167 (.load false 1) [.t 166]),
 (sM 168 7),
 (sM 169 11),
 (sP 170 (.iaddr 2) [.t 168, .t 169]),
 (sP 171 (.iaddrA 2 1) [.t 170, .c (.int .i64 1)]),
 (sH 172 (.load false 1) [.t 171]),
 (sP 173 (.bld [(.int .i64 0), (.int .i64 0), (.int .i64 0)] [(0, 1), (1, 1), (2, 1)]) [.t 162, .t 167, .t 172]),
 (sH 174 (.bslF 3 1 [(.int .i64 0), (.int .i64 0), (.int .i64 0)] [(0, 3)]) [.t 173]),
 (sH 175 (.app 3 24 [(.int .i64 0), (.int .i64 0), (.int .i64 0)]) [.t 157, .t 174]),
 (sP 176 (.faddr 1) [.t 6]),
 (sHn (.store 1) [.t 176, .t 175])]))
 (.ops [
 (sM 154 11),
 (sP 155 (.bin .add .ifc) [.t 154, .c (.int .i64 1)]),
 (sM 11 155)])))
def r04_Make_L5 : CCode := .bloop 5 [1, 2, 3, 6, 7, 11] [1, 2, 3, 6, 7] r04_Make_B5

def r04_Make_B7 : CCode :=
 (.seq
 (.seq
 (.ops [
 (sM 177 12),
 (sM 178 7),
 (sP 179 .len [.t 178]),
 (sP 180 (.bin .lss .ifc) [.t 177, .t 179])])
 (.cond (.t 180)
 .skip
 (.exit 7)))
 (.seq
 (.block 8 (some [1, 2, 3, 6, 7, 12])
 (.seq
 (.ops [
 (sM 183 12),
 (sP 184 (.bin .gtr .ifc) [.t 183, .c (.int .i64 0)]),
 (sM 185 184),
 (sG (sP 186 (.faddr 7) [.t 1]) 185 true),
 (sG (sH 187 (.load false 1) [.t 186]) 185 true),
 (sG (sM 188 12) 185 true),
 (sG (sP 189 (.bin .rem .ifc) [.t 188, .c (.int .i64 8)]) 185 true),
 (sG (sP 190 (.bin .shr .ifc) [.t 187, .t 189]) 185 true),
 (sG (sP 191 (.bin .rem .ifc) [.t 190, .c (.int .u8 2)]) 185 true),
 (sG (sP 192 (.bin .eql .int) [.t 191, .c (.int .u8 1)]) 185 true),
 (sP 193 .pick [.t 185, .t 192, .c (.bool false)])])
 (.cond (.t 193)
 (.ops [
 (sP 194 (.faddr 2) [.t 6]),
 (sL 195 6 (.load false 1) [.t 194]),
 (sP 196 (.faddr 2) [.t 6]),
 (sL 197 6 (.load false 1) [.t 196]),
 (sP 198 .len [.t 197]),
 (sP 199 (.bin .sub .ifc) [.t 198, .c (.int .i64 1)]),
 (sP 200 (.faddr 2) [.t 6]),
 (sL 201 6 (.load false 1) [.t 200]),
 (sP 202 (.faddr 2) [.t 6]),
 (sL 203 6 (.load false 1) [.t 202]),
 (sP 204 .len [.t 203]),
 (sP 205 (.bin .sub .ifc) [.t 204, .c (.int .i64 1)]),
 (sP 206 (.iaddr 1) [.t 201, .t 205]),
 (sB 207 (.load false 1) [.t 206]),
 (sM 208 12),
 (sH 209 (.bslF 1 1 [(.int .i64 0)] [(0, 1)]) [.t 208]),
 (sB 210 (.app 1 8 [(.int .i64 0)]) [.t 207, .t 209]),
 (sP 211 (.iaddr 1) [.t 195, .t 199]),
 (sBn (.store 1) [.t 211, .t 210])])
 (.ops [
 (sP 212 (.faddr 2) [.t 6]),
 (sH 213 (.load false 1) [.t 212]),
 (sM 214 12),
 (sH 215 (.bslO 1 1 [(.int .i64 0)] [(0, 1)]) [.t 214]),
 (sH 216 (.bslO 1 1 [.nils] [(0, 1)]) [.t 215]),
 (sH 217 (.app 1 24 [.nils]) [.t 213, .t 216]),
 (sP 218 (.faddr 2) [.t 6]),
 (sHn (.store 1) [.t 218, .t 217])]))))
 (.ops [
 (sM 181 12),
 (sP 182 (.bin .add .ifc) [.t 181, .c (.int .i64 1)]),
 (sM 12 182)])))
def r04_Make_L7 : CCode := .bloop 7 [1, 2, 3, 6, 7, 12] [1, 2, 3, 6] r04_Make_B7
def r04_Make_C : CCode :=
 (.seq
 (.ops [
 (sH 1 (.box 1) [.t 0]),
 (sH 2 (.newl 2 [.nils, .nils, .nils, .nils, .nils, (.int .i64 0), (.int .i64 0), (.int .i64 0), (.int .i64 0), (.int .i64 0)]) [])])
 (.seq
 (.ops [
 (sP 13 (.faddr 1) [.t 1]),
 (sH 14 (.load false 1) [.t 13]),
 (sP 15 (.bin .rem .ifc) [.t 14, .c (.int .u8 20)]),
 (sP 16 (.toInt .i64) [.t 15]),
 (sP 17 (.bin .add .ifc) [.c (.int .i64 1), .t 16]),
 (sP 18 (.bin .mul .ifc) [.c (.int .i64 10), .t 17]),
 (sM 3 18)])
 (.seq
 (.ops [
 (sM 19 3),
 (sP 20 (.toFloat .f64) [.t 19]),
 (sP 21 .cplx [.t 20, .c (.float .f64 0)]),
 (sM 4 21)])
 (.seq
 (.ops [
 (sM 22 3),
 (sP 23 (.toFloat .f64) [.t 22]),
 (sP 24 .cplx [.c (.float .f64 0), .t 23]),
 (sM 5 24)])
 (.seq
 (.ops [
 (sH 6 (.newl 6 [.nils, .nils, .nils, .nils, .nils, (.int .i64 0), (.int .i64 0), (.int .i64 0), (.int .i64 0), (.int .i64 0)]) [])])
 (.seq
 (.ops [
 (sP 7 .mov [.c .nils])])
 (.seq
 (.seq
 (.ops [
 (sP 25 (.faddr 0) [.t 1]),
 (sH 26 (.load false 1) [.t 25]),
 (sP 27 (.bin .rem .ifc) [.t 26, .c (.int .u8 4)])])
 (.block 0 (some [1, 2, 3, 6, 7])
 (.seq
 (.ops [
 (sP 60 (.bin .eql .int) [.t 27, .c (.int .u8 0)]),
 (sM 59 60)])
 (.cond (.t 59)
 (.seq
 (.ops [
 (sP 61 (.faddr 0) [.t 1]),
 (sH 62 (.load false 1) [.t 61]),
 (sP 63 (.bin .quo .ifc) [.t 62, .c (.int .u8 4)]),
 (sP 64 (.bin .rem .ifc) [.t 63, .c (.int .u8 6)]),
 (sP 65 (.toInt .i64) [.t 64]),
 (sP 66 (.bin .add .ifc) [.c (.int .i64 3), .t 65]),
 (sM 8 66)])
 (.seq
 (.seq
 (.ops [
 (sP 9 .mov [.c (.int .i64 0)])])
 r04_Make_L1)
 (.seq
 (.ops [
 (sP 10 .mov [.c (.int .i64 0)])])
 r04_Make_L3)))
 (.seq
 (.ops [
 (sP 95 (.bin .eql .int) [.t 27, .c (.int .u8 1)]),
 (sM 94 95)])
 (.cond (.t 94)
 (.seq
 (.ops [
 (sM 96 4),
 (sM 97 4),
 (sP 98 (.bin .mul .ifc) [.c (.cplx .f64 4611686018427387904 0), .t 97]),
 (sM 99 5),
 (sP 100 (.bin .add .ifc) [.t 98, .t 99]),
 (sM 101 4),
 (sP 102 (.bin .mul .ifc) [.c (.cplx .f64 4611686018427387904 0), .t 101]),
 (sM 103 5),
 (sP 104 (.bin .sub .ifc) [.t 102, .t 103]),
 (sH 105 (.bslF 1 4 [(.cplx .f64 0 0)] [(0, 1), (1, 1), (2, 1), (3, 1)]) [.c (.cplx .f64 0 0), .t 96, .t 100, .t 104]),
 (sP 106 (.faddr 0) [.t 6]),
 (sHn (.store 1) [.t 106, .t 105])])
 (.seq
 (.ops [
 (sP 107 (.bld [(.int .i64 0), (.int .i64 0)] [(0, 1), (1, 1)]) [.c (.int .i64 0), .c (.int .i64 1)]),
 (sP 108 (.bld [(.int .i64 0), (.int .i64 0)] [(0, 1), (1, 1)]) [.c (.int .i64 1), .c (.int .i64 2)]),
 (sP 109 (.bld [(.int .i64 0), (.int .i64 0)] [(0, 1), (1, 1)]) [.c (.int .i64 3), .c (.int .i64 1)]),
 (sH 110 (.bslO 2 3 [(.int .i64 0), (.int .i64 0)] [(0, 2), (2, 2), (4, 2)]) [.t 107, .t 108, .t 109]),
 (sM 7 110)])
 (.ops [
 (sP 111 (.bld [(.int .i64 0), (.int .i64 0), (.int .i64 0), (.int .i64 0)] [(0, 1), (1, 1), (2, 1), (3, 1)]) [.c (.int .i64 1), .c (.int .i64 0), .c (.int .i64 1), .c (.int .i64 2)]),
 (sH 112 (.bslF 4 1 [(.int .i64 0), (.int .i64 0), (.int .i64 0), (.int .i64 0)] [(0, 4)]) [.t 111]),
 (sP 113 (.faddr 3) [.t 6]),
 (sHn (.store 1) [.t 113, .t 112])])))
 (.seq
 (.ops [
 (sP 115 (.bin .eql .int) [.t 27, .c (.int .u8 2)]),
 (sM 114 115)])
 (.cond (.t 114)
 (.seq
 (.ops [
 (sM 116 4),
 (sM 117 4),
 (sP 118 (.bin .mul .ifc) [.c (.cplx .f64 4611686018427387904 0), .t 117]),
 (sM 119 4),
 (sP 120 (.bin .mul .ifc) [.c (.cplx .f64 4613937818241073152 0), .t 119]),
 (sM 121 5),
 (sP 122 (.bin .quo .ifc) [.t 121, .c (.cplx .f64 4611686018427387904 0)]),
 (sP 123 (.bin .add .ifc) [.t 120, .t 122]),
 (sM 124 4),
 (sP 125 (.bin .mul .ifc) [.c (.cplx .f64 4613937818241073152 0), .t 124]),
 (sM 126 5),
 (sP 127 (.bin .quo .ifc) [.t 126, .c (.cplx .f64 4611686018427387904 0)]),
 (sP 128 (.bin .sub .ifc) [.t 125, .t 127]),
 (sM 129 4),
 (sP 130 (.bin .mul .ifc) [.c (.cplx .f64 4616189618054758400 0), .t 129]),
 (sM 131 4),
 (sP 132 (.bin .mul .ifc) [.c (.cplx .f64 4617315517961601024 0), .t 131]),
 (sM 133 4),
 (sP 134 (.bin .mul .ifc) [.c (.cplx .f64 4618441417868443648 0), .t 133]),
 (sH 135 (.bslF 1 8 [(.cplx .f64 0 0)] [(0, 1), (1, 1), (2, 1), (3, 1), (4, 1), (5, 1), (6, 1), (7, 1)]) [.c (.cplx .f64 0 0), .t 116, .t 118, .t 123, .t 128, .t 130, .t 132, .t 134]),
 (sP 136 (.faddr 0) [.t 6]),
 (sHn (.store 1) [.t 136, .t 135])])
 (.seq
 (.ops [
 (sP 137 (.bld [(.int .i64 0), (.int .i64 0)] [(0, 1), (1, 1)]) [.c (.int .i64 0), .c (.int .i64 1)]),
 (sP 138 (.bld [(.int .i64 0), (.int .i64 0)] [(0, 1), (1, 1)]) [.c (.int .i64 1), .c (.int .i64 2)]),
 (sP 139 (.bld [(.int .i64 0), (.int .i64 0)] [(0, 1), (1, 1)]) [.c (.int .i64 2), .c (.int .i64 3)]),
 (sP 140 (.bld [(.int .i64 0), (.int .i64 0)] [(0, 1), (1, 1)]) [.c (.int .i64 2), .c (.int .i64 4)]),
 (sP 141 (.bld [(.int .i64 0), (.int .i64 0)] [(0, 1), (1, 1)]) [.c (.int .i64 5), .c (.int .i64 3)]),
 (sP 142 (.bld [(.int .i64 0), (.int .i64 0)] [(0, 1), (1, 1)]) [.c (.int .i64 4), .c (.int .i64 5)]),
 (sP 143 (.bld [(.int .i64 0), (.int .i64 0)] [(0, 1), (1, 1)]) [.c (.int .i64 5), .c (.int .i64 6)]),
 (sP 144 (.bld [(.int .i64 0), (.int .i64 0)] [(0, 1), (1, 1)]) [.c (.int .i64 6), .c (.int .i64 7)]),
 (sH 145 (.bslO 2 8 [(.int .i64 0), (.int .i64 0)] [(0, 2), (2, 2), (4, 2), (6, 2), (8, 2), (10, 2), (12, 2), (14, 2)]) [.t 137, .t 138, .t 139, .t 140, .t 141, .t 142, .t 143, .t 144]),
 (sM 7 145)])
 (.ops [
 (sP 146 (.bld [(.int .i64 0), (.int .i64 0), (.int .i64 0), (.int .i64 0)] [(0, 1), (1, 1), (2, 1), (3, 1)]) [.c (.int .i64 2), .c (.int .i64 1), .c (.int .i64 2), .c (.int .i64 3)]),
 (sP 147 (.bld [(.int .i64 0), (.int .i64 0), (.int .i64 0), (.int .i64 0)] [(0, 1), (1, 1), (2, 1), (3, 1)]) [.c (.int .i64 5), .c (.int .i64 6), .c (.int .i64 4), .c (.int .i64 5)]),
 (sH 148 (.bslF 4 2 [(.int .i64 0), (.int .i64 0), (.int .i64 0), (.int .i64 0)] [(0, 4), (4, 4)]) [.t 146, .t 147]),
 (sP 149 (.faddr 3) [.t 6]),
 (sHn (.store 1) [.t 149, .t 148])])))
 (.seq
 (.ops [
 (sM 28 4),
 (sM 29 4),
 (sP 30 (.bin .mul .ifc) [.c (.cplx .f64 4611686018427387904 0), .t 29]),
 (sM 31 4),
 (sP 32 (.bin .mul .ifc) [.c (.cplx .f64 4613937818241073152 0), .t 31]),
 (sM 33 5),
 (sP 34 (.bin .add .ifc) [.t 32, .t 33]),
 (sM 35 4),
 (sP 36 (.bin .mul .ifc) [.c (.cplx .f64 4613937818241073152 0), .t 35]),
 (sM 37 5),
 (sP 38 (.bin .sub .ifc) [.t 36, .t 37]),
 (sM 39 4),
 (sP 40 (.bin .mul .ifc) [.c (.cplx .f64 4616189618054758400 0), .t 39]),
 (sM 41 5),
 (sP 42 (.bin .add .ifc) [.t 40, .t 41]),
 (sM 43 4),
 (sP 44 (.bin .mul .ifc) [.c (.cplx .f64 4616189618054758400 0), .t 43]),
 (sM 45 5),
 (sP 46 (.bin .sub .ifc) [.t 44, .t 45]),
 (sH 47 (.bslF 1 7 [(.cplx .f64 0 0)] [(0, 1), (1, 1), (2, 1), (3, 1), (4, 1), (5, 1), (6, 1)]) [.c (.cplx .f64 0 0), .t 28, .t 30, .t 34, .t 38, .t 42, .t 46]),
 (sP 48 (.faddr 0) [.t 6]),
 (sHn (.store 1) [.t 48, .t 47])])
 (.seq
 (.ops [
 (sP 49 (.bld [(.int .i64 0), (.int .i64 0)] [(0, 1), (1, 1)]) [.c (.int .i64 0), .c (.int .i64 1)]),
 (sP 50 (.bld [(.int .i64 0), (.int .i64 0)] [(0, 1), (1, 1)]) [.c (.int .i64 2), .c (.int .i64 1)]),
 (sP 51 (.bld [(.int .i64 0), (.int .i64 0)] [(0, 1), (1, 1)]) [.c (.int .i64 2), .c (.int .i64 3)]),
 (sP 52 (.bld [(.int .i64 0), (.int .i64 0)] [(0, 1), (1, 1)]) [.c (.int .i64 2), .c (.int .i64 4)]),
 (sP 53 (.bld [(.int .i64 0), (.int .i64 0)] [(0, 1), (1, 1)]) [.c (.int .i64 3), .c (.int .i64 5)]),
 (sP 54 (.bld [(.int .i64 0), (.int .i64 0)] [(0, 1), (1, 1)]) [.c (.int .i64 4), .c (.int .i64 6)]),
 (sH 55 (.bslO 2 6 [(.int .i64 0), (.int .i64 0)] [(0, 2), (2, 2), (4, 2), (6, 2), (8, 2), (10, 2)]) [.t 49, .t 50, .t 51, .t 52, .t 53, .t 54]),
 (sM 7 55)])
 (.ops [
 (sP 56 (.bld [(.int .i64 0), (.int .i64 0), (.int .i64 0), (.int .i64 0)] [(0, 1), (1, 1), (2, 1), (3, 1)]) [.c (.int .i64 2), .c (.int .i64 1), .c (.int .i64 3), .c (.int .i64 2)]),
 (sH 57 (.bslF 4 1 [(.int .i64 0), (.int .i64 0), (.int .i64 0), (.int .i64 0)] [(0, 4)]) [.t 56]),
 (sP 58 (.faddr 3) [.t 6]),
 (sHn (.store 1) [.t 58, .t 57])])))))))))))
 (.seq
 (.seq
 (.ops [
 (sP 11 .mov [.c (.int .i64 0)])])
 r04_Make_L5)
 (.seq
 (.seq
 (.ops [
 (sP 12 .mov [.c (.int .i64 0)])])
 r04_Make_L7)
 (.seq
 (.ops [
 (sP 219 (.faddr 2) [.t 1]),
 (sH 220 (.load false 1) [.t 219]),
 (sP 221 (.toInt .i64) [.t 220]),
 (sM 222 3),
 (sP 223 (.bin .mul .ifc) [.c (.int .i64 2), .t 222]),
 (sP 224 (.bin .rem .ifc) [.t 221, .t 223]),
 (sP 225 (.bin .add .ifc) [.c (.int .i64 1), .t 224]),
 (sP 226 (.faddr 5) [.t 6]),
 (sHn (.store 1) [.t 226, .t 225])])
 (.seq
 (.ops [
 (sP 227 (.faddr 3) [.t 1]),
 (sL 228 1 (.load false 1) [.t 227]),
 (sP 229 (.bin .rem .ifc) [.t 228, .c (.int .u16 1000)]),
 (sP 230 (.toInt .i64) [.t 229]),
 (sP 231 (.bin .add .ifc) [.c (.int .i64 1), .t 230]),
 (sP 232 (.faddr 4) [.t 1]),
 (sL 233 1 (.load false 1) [.t 232]),
 (sP 234 (.bin .rem .ifc) [.t 233, .c (.int .u16 1000)]),
 (sP 235 (.toInt .i64) [.t 234]),
 (sP 236 (.bin .add .ifc) [.c (.int .i64 1), .t 235]),
 (sP 237 (.faddr 5) [.t 1]),
 (sL 238 1 (.load false 1) [.t 237]),
 (sP 239 (.toInt .i64) [.t 238]),
 (sP 240 (.bin .add .ifc) [.c (.int .i64 1), .t 239]),
 (sP 241 (.faddr 6) [.t 1]),
 (sL 242 1 (.load false 1) [.t 241]),
 (sP 243 (.bin .rem .ifc) [.t 242, .c (.int .u8 4)]),
 (sP 244 (.toInt .i64) [.t 243]),
 (sP 245 (.faddr 6) [.t 6]),
 (sLn 6 (.store 1) [.t 245, .t 231]),
 (sP 246 (.faddr 7) [.t 6]),
 (sLn 6 (.store 1) [.t 246, .t 236]),
 (sP 247 (.faddr 8) [.t 6]),
 (sLn 6 (.store 1) [.t 247, .t 240]),
 (sP 248 (.faddr 9) [.t 6]),
 (sLn 6 (.store 1) [.t 248, .t 244])])
 (.seq
 (.ops [
 (sH 249 (.load true 10) [.t 6]),
 (sHn (.store 10) [.t 2, .t 249])])
 (.ret [2])))))))))))))
def r04_Make_I : FInfo := ⟨(.fz true), 1, r04_Make_C, [.cell 2 true 10]⟩
def r04_Make_A : Ann := ⟨[], [55, 110, 145, 215, 216], [(1, [1, 2, 3, 6, 7, 8, 9], [1, 2, 3, 6, 7, 8]), (3, [1, 2, 3, 6, 7, 8, 10], [1, 2, 3, 6, 7]), (5, [1, 2, 3, 6, 7, 11], [1, 2, 3, 6, 7]), (7, [1, 2, 3, 6, 7, 12], [1, 2, 3, 6])], [(0, [1, 2, 3, 6, 7]), (2, [1, 2, 3, 6, 7, 8, 9]), (4, [1, 2, 3, 6, 7, 8, 10]), (6, [1, 2, 3, 6, 7, 11]), (8, [1, 2, 3, 6, 7, 12])], [1, 2, 6]⟩
abbrev n_r04_Make : Nat := 24

/-! ### balise/baliseref04.put -/
def r04_put_B0 : CCode :=
 (.seq
 (.seq
 (.ops [
 (sM 8 7),
 (sM 9 2),
 (sP 10 .len [.t 9]),
 (sP 11 (.bin .lss .ifc) [.t 8, .t 10])])
 (.cond (.t 11)
 .skip
 (.exit 0)))
 (.seq
 (.block 1 (some [0, 1, 2, 7])
 (.ops [
 (sM 14 0),
 (sM 15 2),
 (sM 16 7),
 (sP 17 (.iaddr 1) [.t 15, .t 16]),
 (sH 18 (.load false 1) [.t 17]),
 (sP 19 (.toInt .u64) [.t 18]),
 (sM 20 1),
 (sC 21 69 [.t 14, .t 19, .t 20]),
 (sM 0 21)]))
 (.ops [
 (sM 12 7),
 (sP 13 (.bin .add .ifc) [.t 12, .c (.int .i64 1)]),
 (sM 7 13)])))
def r04_put_L0 : CCode := .bloop 0 [0, 1, 2, 7] [0] r04_put_B0
def r04_put_C : CCode :=
 (.seq
 (.ops [
 (sP 6 .mov [.c .nils])])
 (.seq
 (.seq
 (.ops [
 (sP 7 .mov [.c (.int .i64 0)])])
 r04_put_L0)
 (.seq
 (.ops [
 (sM 22 0),
 (sM 6 22)])
 (.ret [6]))))
def r04_put_I : FInfo := ⟨(.fz false), 3, r04_put_C, [.tmp 6]⟩
def r04_put_A : Ann := ⟨[], [], [(0, [0, 1, 2, 7], [0])], [(1, [0, 1, 2, 7])], []⟩
abbrev n_r04_put : Nat := 26

/-! ### balise/baliseref01.At -/
def r01_At_C : CCode :=
 (.seq
 (.ops [
 (sP 2 .mov [.c (.int .i64 0)]),
 (sP 3 .mov [.c (.int .i64 0)])])
 (.seq
 (.ops [
 (sM 4 0),
 (sP 5 .re [.t 4]),
 (sP 6 (.toInt .i64) [.t 5]),
 (sM 7 0),
 (sP 8 .im [.t 7]),
 (sP 9 (.toInt .i64) [.t 8]),
 (sM 2 6),
 (sM 3 9)])
 (.ret [2, 3])))
def r01_At_I : FInfo := ⟨(.fz false), 1, r01_At_C, [.tmp 2, .tmp 3]⟩
def r01_At_A : Ann := ⟨[], [], [], [], []⟩
abbrev n_r01_At : Nat := 27

/-! ### balise/baliseref04.lists -/
def r04_lists_B0 : CCode :=
 (.seq
 (.seq
 (.ops [
 (sM 11 5),
 (sM 12 1),
 (sP 13 .len [.t 12]),
 (sP 14 (.bin .lss .ifc) [.t 11, .t 13])])
 (.cond (.t 14)
 .skip
 (.exit 0)))
 (.seq
 (.block 1 (some [0, 1, 5])
 (.seq
 (.ops [
 (sM 17 0),
 (sM 18 1),
 (sM 19 5),
 (sP 20 (.iaddr 1) [.t 18, .t 19]),
 (sH 21 (.load false 1) [.t 20]),
 (sP 22 .len [.t 21]),
 (sH 23 (.bslF 1 1 [(.int .i64 0)] [(0, 1)]) [.t 22]),
 (sC 24 26 [.t 17, .c (.int .i64 8), .t 23]),
 (sM 0 24)])
 (.ops [
 (sM 25 0),
 (sM 26 1),
 (sM 27 5),
 (sP 28 (.iaddr 1) [.t 26, .t 27]),
 (sH 29 (.load false 1) [.t 28]),
 (sC 30 26 [.t 25, .c (.int .i64 8), .t 29]),
 (sM 0 30)])))
 (.ops [
 (sM 15 5),
 (sP 16 (.bin .add .ifc) [.t 15, .c (.int .i64 1)]),
 (sM 5 16)])))
def r04_lists_L0 : CCode := .bloop 0 [0, 1, 5] [0] r04_lists_B0
def r04_lists_C : CCode :=
 (.seq
 (.ops [
 (sP 4 .mov [.c .nils])])
 (.seq
 (.ops [
 (sM 6 0),
 (sM 7 1),
 (sP 8 .len [.t 7]),
 (sH 9 (.bslF 1 1 [(.int .i64 0)] [(0, 1)]) [.t 8]),
 (sC 10 26 [.t 6, .c (.int .i64 8), .t 9]),
 (sM 0 10)])
 (.seq
 (.seq
 (.ops [
 (sP 5 .mov [.c (.int .i64 0)])])
 r04_lists_L0)
 (.seq
 (.ops [
 (sM 31 0),
 (sM 4 31)])
 (.ret [4])))))
def r04_lists_I : FInfo := ⟨(.fz false), 2, r04_lists_C, [.tmp 4]⟩
def r04_lists_A : Ann := ⟨[], [], [(0, [0, 1, 5], [0])], [(1, [0, 1, 5])], []⟩
abbrev n_r04_lists : Nat := 28

/-! ### balise/baliseref03.Close -/
def r03_Close_C : CCode :=
 (.seq
 (.ops [
 (sP 2 .mov [.c .nils])])
 (.seq
 (.ops [
 (sM 4 0),
 (sC 5 70 [.t 4]),
 (sM 3 5)])
 (.seq
 (.ops [
 (sM 6 0),
 (sM 7 3),
 (sP 8 (.bin .rem .ifc) [.t 7, .c (.int .u16 256)]),
 (sP 9 (.toInt .u8) [.t 8]),
 (sM 10 3),
 (sP 11 (.bin .quo .ifc) [.t 10, .c (.int .u16 256)]),
 (sP 12 (.toInt .u8) [.t 11]),
 (sH 13 (.bslF 1 2 [(.int .u8 0)] [(0, 1), (1, 1)]) [.t 9, .t 12]),
 (sC 14 71 [.t 6, .t 13]),
 (sM 2 14)])
 (.ret [2]))))
def r03_Close_I : FInfo := ⟨(.fz false), 1, r03_Close_C, [.tmp 2]⟩
def r03_Close_A : Ann := ⟨[], [], [], [], []⟩
abbrev n_r03_Close : Nat := 29

/-! ### balise/baliseref02.Bytes -/
def r02_Bytes_B2 : CCode :=
 (.seq
 (.seq
 (.ops [
 (sM 14 6),
 (sM 15 4),
 (sP 16 (.bin .add .ifc) [.t 15, .c (.int .i64 8)]),
 (sP 17 (.bin .lss .ifc) [.t 14, .t 16])])
 (.cond (.t 17)
 .skip
 (.exit 2)))
 (.seq
 (.block 3 (some [0, 3, 4, 5, 6])
 (.seq
 (.ops [
 (sM 20 5),
 (sP 21 (.bin .mul .ifc) [.t 20, .c (.int .i64 2)]),
 (sM 5 21)])
 (.seq
 (.ops [
 (sM 22 6),
 (sM 23 0),
 (sP 24 .len [.t 23]),
 (sP 25 (.bin .lss .ifc) [.t 22, .t 24]),
 (sM 26 25),
 (sG (sM 27 0) 26 true),
 (sG (sM 28 6) 26 true),
 (sG (sP 29 (.iaddr 1) [.t 27, .t 28]) 26 true),
 (sG (sH 30 (.load false 1) [.t 29]) 26 true),
 (sP 31 .pick [.t 26, .t 30, .c (.bool false)])])
 (.cond (.t 31)
 (.ops [
 (sM 32 5),
 (sP 33 (.bin .add .ifc) [.t 32, .c (.int .i64 1)]),
 (sM 5 33)])
 .skip))))
 (.ops [
 (sM 18 6),
 (sP 19 (.bin .add .ifc) [.t 18, .c (.int .i64 1)]),
 (sM 6 19)])))
def r02_Bytes_L2 : CCode := .bloop 2 [0, 3, 4, 5, 6] [0, 3, 4, 5] r02_Bytes_B2

def r02_Bytes_B0 : CCode :=
 (.seq
 (.seq
 (.ops [
 (sM 7 4),
 (sM 8 0),
 (sP 9 .len [.t 8]),
 (sP 10 (.bin .lss .ifc) [.t 7, .t 9])])
 (.cond (.t 10)
 .skip
 (.exit 0)))
 (.seq
 (.block 1 (some [0, 3, 4])
 (.seq
 (.ops [
 (sP 5 .mov [.c (.int .i64 0)])])
 (.seq
 (.seq
 (.ops [
 (sM 13 4),
 (sM 6 13)])
 r02_Bytes_L2)
 (.ops [
 (sM 34 3),
 (sM 35 5),
 (sP 36 (.toInt .u8) [.t 35]),
 (sH 37 (.bslF 1 1 [(.int .u8 0)] [(0, 1)]) [.t 36]),
 (sH 38 (.app 1 1 [(.int .u8 0)]) [.t 34, .t 37]),
 (sM 3 38)]))))
 (.ops [
 (sM 11 4),
 (sP 12 (.bin .add .ifc) [.t 11, .c (.int .i64 8)]),
 (sM 4 12)])))
def r02_Bytes_L0 : CCode := .bloop 0 [0, 3, 4] [3] r02_Bytes_B0
def r02_Bytes_C : CCode :=
 (.seq
 (.ops [
 (sP 2 .mov [.c .nils])])
 (.seq
 (.ops [
 (sP 3 .mov [.c .nils])])
 (.seq
 (.seq
 (.ops [
 (sP 4 .mov [.c (.int .i64 0)])])
 r02_Bytes_L0)
 (.seq
 (.ops [
 (sM 39 3),
 (sM 2 39)])
 (.ret [2])))))
def r02_Bytes_I : FInfo := ⟨(.fz false), 1, r02_Bytes_C, [.tmp 2]⟩
def r02_Bytes_A : Ann := ⟨[], [], [(0, [0, 3, 4], [3]), (2, [0, 3, 4, 5, 6], [0, 3, 4, 5])], [(1, [0, 3, 4]), (3, [0, 3, 4, 5, 6])], []⟩
abbrev n_r02_Bytes : Nat := 30

/-! ### balise/layout.Decode -/
def layout_Decode_C : CCode :=
 (.seq
 (.ops [
 (sH 2 (.newl 2 [.nils, .nils, .nils, .nils, .nils, (.int .i64 0), (.int .i64 0), (.int .i64 0), (.int .i64 0), (.int .i64 0)]) []),
 (sP 3 .mov [.c (.int .i64 0)])])
 (.seq
 (.ops [
 (sM 9 0),
 (sC 10 74 [.t 9]),
 (sM 8 10),
 (sP 11 (.ext 0) [.t 8]),
 (sP 12 (.ext 1) [.t 8]),
 (sM 4 11),
 (sM 5 12)])
 (.seq
 (.seq
 (.ops [
 (sM 13 5),
 (sP 14 (.bin .neq .int) [.t 13, .c (.int .i64 0)])])
 (.cond (.t 14)
 (.seq
 (.ops [
 (sP 15 (.bld [.nils, .nils, .nils, .nils, .nils, (.int .i64 0), (.int .i64 0), (.int .i64 0), (.int .i64 0), (.int .i64 0)] []) []),
 (sM 16 5),
 (sHn (.store 10) [.t 2, .t 15]),
 (sM 3 16)])
 (.ret [2, 3]))
 .skip))
 (.seq
 (.seq
 (.ops [
 (sM 17 4),
 (sP 18 .len [.t 17]),
 (sP 19 (.bin .lss .ifc) [.t 18, .c (.int .i64 2)]),
 (sM 20 19),
 (sG (sM 21 4) 20 false),
 (sG (sP 22 (.slc 1 false true) [.t 21, .c (.int .i64 2)]) 20 false),
 (sG (sH 23 .bstr [.t 22]) 20 false),
 (sG (sP 24 (.bin .neq .ifc) [.t 23, .c (.str (ByteArray.mk #[66, 76]))]) 20 false),
 (sP 25 .pick [.t 20, .c (.bool true), .t 24])])
 (.cond (.t 25)
 (.seq
 (.ops [
 (sP 26 (.bld [.nils, .nils, .nils, .nils, .nils, (.int .i64 0), (.int .i64 0), (.int .i64 0), (.int .i64 0), (.int .i64 0)] []) []),
 (sHn (.store 10) [.t 2, .t 26]),
 (sP 3 .mov [.c (.int .i64 2)])])
 (.ret [2, 3]))
 .skip))
 (.seq
 (.ops [
 (sM 27 4),
 (sP 28 (.slc 1 true false) [.t 27, .c (.int .i64 2)]),
 (sC 29 75 [.t 28]),
 (sH 6 (.newh [.nilp]) []),
 (sHn (.store 1) [.t 6, .t 29])])
 (.seq
 (.ops [
 (sH 7 (.newl 7 [.nils, .nils, .nils, .nils, .nils, (.int .i64 0), (.int .i64 0), (.int .i64 0), (.int .i64 0), (.int .i64 0)]) [])])
 (.seq
 (.ops [
 (sH 30 (.load false 1) [.t 6]),
 (sP 31 (.mkfn (.func 77) 0) [.t 6]),
 (sC 32 76 [.t 30, .t 31]),
 (sP 33 (.faddr 0) [.t 7]),
 (sHn (.store 1) [.t 33, .t 32])])
 (.seq
 (.ops [
 (sH 34 (.load false 1) [.t 6]),
 (sP 35 (.mkfn (.func 80) 0) [.t 6]),
 (sC 36 79 [.t 34, .t 35]),
 (sP 37 (.faddr 1) [.t 7]),
 (sHn (.store 1) [.t 37, .t 36])])
 (.seq
 (.ops [
 (sH 38 (.load false 1) [.t 6]),
 (sC 39 83 [.t 38]),
 (sP 40 (.faddr 2) [.t 7]),
 (sHn (.store 1) [.t 40, .t 39])])
 (.seq
 (.ops [
 (sH 41 (.load false 1) [.t 6]),
 (sP 42 (.mkfn (.func 85) 0) [.t 6]),
 (sC 43 84 [.t 41, .t 42]),
 (sP 44 (.faddr 3) [.t 7]),
 (sHn (.store 1) [.t 44, .t 43])])
 (.seq
 (.ops [
 (sH 45 (.load false 1) [.t 6]),
 (sC 46 83 [.t 45]),
 (sP 47 (.faddr 4) [.t 7]),
 (sHn (.store 1) [.t 47, .t 46])])
 (.seq
 (.ops [
 (sB 48 (.load false 1) [.t 6]),
 (sCk 1 49 81 [.t 48, .c (.int .i64 16), .t 6]),
 (sP 50 (.toInt .i64) [.t 49]),
 (sB 51 (.load false 1) [.t 6]),
 (sCk 1 52 86 [.t 51, .t 6]),
 (sB 53 (.load false 1) [.t 6]),
 (sCk 1 54 86 [.t 53, .t 6]),
 (sB 55 (.load false 1) [.t 6]),
 (sCk 1 56 86 [.t 55, .t 6]),
 (sB 57 (.load false 1) [.t 6]),
 (sCk 1 58 86 [.t 57, .t 6]),
 (sP 59 (.faddr 5) [.t 7]),
 (sLn 7 (.store 1) [.t 59, .t 50]),
 (sP 60 (.faddr 6) [.t 7]),
 (sLn 7 (.store 1) [.t 60, .t 52]),
 (sP 61 (.faddr 7) [.t 7]),
 (sLn 7 (.store 1) [.t 61, .t 54]),
 (sP 62 (.faddr 8) [.t 7]),
 (sLn 7 (.store 1) [.t 62, .t 56]),
 (sP 63 (.faddr 9) [.t 7]),
 (sLn 7 (.store 1) [.t 63, .t 58])])
 (.seq
 (.block 0 (some [2, 7])
 (.seq
 (.ops [
 (sH 65 (.load false 1) [.t 6]),
 (sC 66 87 [.t 65]),
 (sP 67 (.un .not) [.t 66]),
 (sM 64 67)])
 (.cond (.t 64)
 (.seq
 (.ops [
 (sP 68 (.bld [.nils, .nils, .nils, .nils, .nils, (.int .i64 0), (.int .i64 0), (.int .i64 0), (.int .i64 0), (.int .i64 0)] []) []),
 (sHn (.store 10) [.t 2, .t 68]),
 (sP 3 .mov [.c (.int .i64 4)])])
 (.ret [2, 3]))
 (.seq
 (.ops [
 (sH 70 (.load false 1) [.t 6]),
 (sC 71 88 [.t 70]),
 (sP 72 (.bin .gtr .ifc) [.t 71, .c (.int .i64 0)]),
 (sM 69 72)])
 (.cond (.t 69)
 (.seq
 (.ops [
 (sP 73 (.bld [.nils, .nils, .nils, .nils, .nils, (.int .i64 0), (.int .i64 0), (.int .i64 0), (.int .i64 0), (.int .i64 0)] []) []),
 (sHn (.store 10) [.t 2, .t 73]),
 (sP 3 .mov [.c (.int .i64 2)])])
 (.ret [2, 3]))
 .skip)))))
 (.seq
 (.ops [
 (sH 74 (.load true 10) [.t 7]),
 (sHn (.store 10) [.t 2, .t 74]),
 (sP 3 .mov [.c (.int .i64 0)])])
 (.ret [2, 3])))))))))))))))
def layout_Decode_I : FInfo := ⟨(.fz false), 1, layout_Decode_C, [.cell 2 true 10, .tmp 3]⟩
def layout_Decode_A : Ann := ⟨[6], [2000000], [], [(0, [2, 7])], [2, 7]⟩
abbrev n_layout_Decode : Nat := 32

/-! ### balise/verify.Right -/
def verify_Right_C : CCode :=
 (.seq
 (.ops [
 (sH 1 (.box 1) [.t 0]),
 (sP 2 .mov [.c (.bool false)])])
 (.seq
 (.ops [
 (sH 6 (.load true 10) [.t 1]),
 (sC 7 89 [.t 6]),
 (sM 5 7),
 (sP 8 (.ext 0) [.t 5]),
 (sP 9 (.ext 1) [.t 5]),
 (sM 3 8),
 (sM 4 9)])
 (.seq
 (.ops [
 (sM 10 3),
 (sP 11 (.bin .eql .int) [.t 10, .c (.int .i64 0)]),
 (sM 2 11)])
 (.ret [2]))))
def verify_Right_I : FInfo := ⟨(.fz false), 1, verify_Right_C, [.tmp 2]⟩
def verify_Right_A : Ann := ⟨[], [], [], [], [1]⟩
abbrev n_verify_Right : Nat := 33

/-! ### balise/graph.New -/
def graph_New_C : CCode :=
 (.seq
 (.ops [
 (sH 1 (.box 1) [.t 0]),
 (sP 2 .mov [.c .nilp])])
 (.seq
 (.ops [
 (sH 3 (.load true 10) [.t 1]),
 (sP 4 (.bld [.nils, .nils, .nils, .nils, .nils, (.int .i64 0), (.int .i64 0), (.int .i64 0), (.int .i64 0), (.int .i64 0)] [(0, 10)]) [.t 3]),
 (sH 5 .boxh [.t 4]),
 (sM 2 5)])
 (.ret [2])))
def graph_New_I : FInfo := ⟨(.fz false), 1, graph_New_C, [.tmp 2]⟩
def graph_New_A : Ann := ⟨[5], [], [], [], [1]⟩
abbrev n_graph_New : Nat := 34

/-! ### balise/detect.New -/
def detect_New_C : CCode :=
 (.seq
 (.ops [
 (sP 4 .mov [.c .nilp])])
 (.seq
 (.ops [
 (sM 5 0),
 (sP 6 .max [.t 5, .c (.int .i64 0)]),
 (sP 7 .min [.t 6, .c (.int .i64 16)]),
 (sH 8 (.mksl 1 8 [(.int .i64 0)]) [.t 7, .t 7]),
 (sM 9 1),
 (sP 10 .max [.t 9, .c (.int .i64 0)]),
 (sP 11 .min [.t 10, .c (.int .i64 1000)]),
 (sP 12 (.bld [.nils, (.int .i64 0)] [(0, 1), (1, 1)]) [.t 8, .t 11]),
 (sH 13 .boxh [.t 12]),
 (sM 4 13)])
 (.ret [4])))
def detect_New_I : FInfo := ⟨.ref, 2, detect_New_C, [.tmp 4]⟩
def detect_New_A : Ann := ⟨[13], [], [], [], []⟩
abbrev n_detect_New : Nat := 35

/-! ### balise/train.New -/
def train_New_C : CCode :=
 (.seq
 (.ops [
 (sP 0 .mov [.c .nilp])])
 (.seq
 (.ops [
 (sH 1 .mkmap []),
 (sP 2 (.bld [.nilm] [(0, 1)]) [.t 1]),
 (sH 3 .boxh [.t 2]),
 (sM 0 3)])
 (.ret [0])))
def train_New_I : FInfo := ⟨.ref, 0, train_New_C, [.tmp 0]⟩
def train_New_A : Ann := ⟨[3], [], [], [], []⟩
abbrev n_train_New : Nat := 36

/-! ### balise/route.New -/
def route_New_C : CCode :=
 (.seq
 (.ops [
 (sH 1 (.box 1) [.t 0]),
 (sP 2 .mov [.c .nilp])])
 (.seq
 (.ops [
 (sH 3 (.load true 10) [.t 1]),
 (sH 4 (.load true 10) [.t 1]),
 (sC 5 34 [.t 4]),
 (sP 6 (.bld [.nils, .nils, .nils, .nils, .nils, (.int .i64 0), (.int .i64 0), (.int .i64 0), (.int .i64 0), (.int .i64 0), .nilp, .nils] [(0, 10), (10, 1)]) [.t 3, .t 5]),
 (sH 7 .boxh [.t 6]),
 (sM 2 7)])
 (.ret [2])))
def route_New_I : FInfo := ⟨.ref, 1, route_New_C, [.tmp 2]⟩
def route_New_A : Ann := ⟨[7], [], [], [], [1]⟩
abbrev n_route_New : Nat := 37

/-! ### balise/center.locks -/
def center_locks_C : CCode :=
 (.seq
 (.ops [
 (sP 6 .mov [.c (.int .i64 0)])])
 (.seq
 (.seq
 (.ops [
 (sM 10 1),
 (sP 11 .len [.t 10]),
 (sP 12 (.bin .eql .int) [.t 11, .c (.int .i64 0)])])
 (.cond (.t 12)
 (.seq
 (.ops [
 (sP 6 .mov [.c (.int .i64 0)])])
 (.ret [6]))
 .skip))
 (.seq
 (.ops [
 (sM 14 1),
 (sC 15 90 [.t 14]),
 (sM 13 15),
 (sP 16 (.ext 0) [.t 13]),
 (sP 17 (.ext 1) [.t 13]),
 (sM 7 16),
 (sM 8 17)])
 (.seq
 (.seq
 (.ops [
 (sM 18 8),
 (sP 19 (.bin .neq .int) [.t 18, .c (.int .i64 0)])])
 (.cond (.t 19)
 (.seq
 (.ops [
 (sM 20 8),
 (sM 6 20)])
 (.ret [6]))
 .skip))
 (.seq
 (.seq
 (.ops [
 (sM 21 0),
 (sM 22 7),
 (sC 23 91 [.t 21, .t 22]),
 (sM 9 23)])
 (.seq
 (.ops [
 (sM 24 9),
 (sP 25 (.bin .neq .int) [.t 24, .c (.int .i64 0)])])
 (.cond (.t 25)
 (.seq
 (.ops [
 (sM 26 9),
 (sM 6 26)])
 (.ret [6]))
 .skip)))
 (.seq
 (.ops [
 (sM 27 0),
 (sM 28 2),
 (sC 29 92 [.t 27, .t 28])])
 (.seq
 (.ops [
 (sP 6 .mov [.c (.int .i64 0)])])
 (.ret [6]))))))))
def center_locks_I : FInfo := ⟨.ref, 3, center_locks_C, [.tmp 6]⟩
def center_locks_A : Ann := ⟨[], [], [], [], []⟩
abbrev n_center_locks : Nat := 38

/-! ### slices.Clone[[]bool,bool] -/
def slices_Clone_bool_C : CCode :=
 (.seq
 (.ops [
 (sP 2 .mov [.c .nils])])
 (.seq
 (.seq
 (.ops [
 (sM 3 0),
 (sP 4 (.bin .eql .sl) [.t 3, .c .nils])])
 (.cond (.t 4)
 (.seq
 (.ops [
 (sP 2 .mov [.c .nils])])
 (.ret [2]))
 .skip))
 (.seq
 (.ops [
 (sH 5 (.bslO 1 0 [(.bool false)] []) []),
 (sM 6 0),
 (sH 7 (.app 1 1 [(.bool false)]) [.t 5, .t 6]),
 (sM 2 7)])
 (.ret [2]))))
def slices_Clone_bool_I : FInfo := ⟨.ref, 1, slices_Clone_bool_C, [.tmp 2]⟩
def slices_Clone_bool_A : Ann := ⟨[], [5], [], [], []⟩
abbrev n_slices_Clone_bool : Nat := 39

/-! ### balise/own.Start -/
def own_Start_C : CCode :=
 (.seq
 (.ops [
 (sP 2 .mov [.c .nils])])
 (.seq
 (.ops [
 (sH 3 (.bslF 1 1 [(.int .i64 0)] [(0, 1)]) [.c (.int .i64 (-1))]),
 (sM 4 0),
 (sP 5 .max [.t 4, .c (.int .i64 0)]),
 (sC 6 93 [.t 3, .t 5]),
 (sM 2 6)])
 (.ret [2])))
def own_Start_I : FInfo := ⟨(.fz false), 1, own_Start_C, [.tmp 2]⟩
def own_Start_A : Ann := ⟨[], [], [], [], []⟩
abbrev n_own_Start : Nat := 40

/-! ### slices.Repeat[[]byte,byte] -/
def slices_Repeat_byte_B0 : CCode :=
 (.seq
 (.seq
 (.ops [
 (sM 34 8),
 (sM 35 7),
 (sP 36 .len [.t 35]),
 (sP 37 (.bin .lss .ifc) [.t 34, .t 36])])
 (.cond (.t 37)
 .skip
 (.exit 0)))
 (.block 1 (some [7, 8])
 (.ops [
 (sM 38 8),
 (sM 39 7),
 (sM 40 8),
 (sP 41 (.slc 1 true false) [.t 39, .t 40]),
 (sM 42 7),
 (sM 43 8),
 (sP 44 (.slc 1 false true) [.t 42, .t 43]),
 (sH 45 (.copy 1) [.t 41, .t 44]),
 (sP 46 (.bin .add .ifc) [.t 38, .t 45]),
 (sM 8 46)])))
def slices_Repeat_byte_L0 : CCode := .bloop 0 [7, 8] [7] slices_Repeat_byte_B0
def slices_Repeat_byte_C : CCode :=
 (.seq
 (.ops [
 (sP 4 .mov [.c .nils])])
 (.seq
 (.seq
 (.ops [
 (sM 9 1),
 (sP 10 (.bin .lss .ifc) [.t 9, .c (.int .i64 0)])])
 (.cond (.t 10)
 bad
 .skip))
 (.seq
 (.ops [
 (sM 13 0),
 (sP 14 .len [.t 13]),
 (sP 15 (.toInt .u64) [.t 14]),
 (sM 16 1),
 (sP 17 (.toInt .u64) [.t 16]),
 (sC 18 94 [.t 15, .t 17]),
 (sM 12 18),
 (sP 19 (.ext 0) [.t 12]),
 (sP 20 (.ext 1) [.t 12]),
 (sM 5 19),
 (sM 6 20)])
 (.seq
 (.seq
 (.ops [
 (sM 21 5),
 (sP 22 (.bin .gtr .ifc) [.t 21, .c (.int .u64 0)]),
 (sM 23 22),
 (sG (sM 24 6) 23 false),
 (sG (sP 25 (.bin .gtr .ifc) [.t 24, .c (.int .u64 9223372036854775807)]) 23 false),
 (sP 26 .pick [.t 23, .c (.bool true), .t 25])])
 (.cond (.t 26)
 bad
 .skip))
 (.seq
 (.ops [
 (sM 28 6),
 (sP 29 (.toInt .i64) [.t 28]),
 (sH 30 (.mksl 1 1 [(.int .u8 0)]) [.t 29, .t 29]),
 (sM 7 30)])
 (.seq
 (.ops [
 (sM 31 7),
 (sM 32 0),
 (sH 33 (.copy 1) [.t 31, .t 32]),
 (sM 8 33)])
 (.seq
 slices_Repeat_byte_L0
 (.seq
 (.ops [
 (sM 47 7),
 (sM 4 47)])
 (.ret [4])))))))))
def slices_Repeat_byte_I : FInfo := ⟨(.fz false), 2, slices_Repeat_byte_C, [.tmp 4]⟩
def slices_Repeat_byte_A : Ann := ⟨[], [], [(0, [7, 8], [7])], [(1, [7, 8])], []⟩
abbrev n_slices_Repeat_byte : Nat := 41

/-! ### balise/baliseref02.Put -/
def r02_Put_B0 : CCode :=
 (.seq
 (.seq
 (.ops [
 (sM 14 8),
 (sM 15 2),
 (sP 16 (.bin .lss .ifc) [.t 14, .t 15])])
 (.cond (.t 16)
 .skip
 (.exit 0)))
 (.seq
 (.block 1 (some [1, 2, 7, 8])
 (.ops [
 (sM 19 7),
 (sM 20 1),
 (sM 21 2),
 (sP 22 (.bin .sub .ifc) [.t 21, .c (.int .i64 1)]),
 (sM 23 8),
 (sP 24 (.bin .sub .ifc) [.t 22, .t 23]),
 (sP 25 (.bin .shr .ifc) [.t 20, .t 24]),
 (sP 26 (.bin .rem .ifc) [.t 25, .c (.int .u64 2)]),
 (sP 27 (.bin .eql .int) [.t 26, .c (.int .u64 1)]),
 (sH 28 (.bslF 1 1 [(.bool false)] [(0, 1)]) [.t 27]),
 (sH 29 (.app 1 1 [(.bool false)]) [.t 19, .t 28]),
 (sM 7 29)]))
 (.ops [
 (sM 17 8),
 (sP 18 (.bin .add .ifc) [.t 17, .c (.int .i64 1)]),
 (sM 8 18)])))
def r02_Put_L0 : CCode := .bloop 0 [1, 2, 7, 8] [7] r02_Put_B0
def r02_Put_C : CCode :=
 (.seq
 (.ops [
 (sP 6 .mov [.c .nils])])
 (.seq
 (.seq
 (.ops [
 (sM 9 2),
 (sP 10 (.bin .gtr .ifc) [.t 9, .c (.int .i64 64)])])
 (.cond (.t 10)
 (.ops [
 (sP 2 .mov [.c (.int .i64 64)])])
 .skip))
 (.seq
 (.ops [
 (sP 7 .mov [.c .nils])])
 (.seq
 (.ops [
 (sM 11 7),
 (sM 12 0),
 (sH 13 (.app 1 1 [(.bool false)]) [.t 11, .t 12]),
 (sM 7 13)])
 (.seq
 (.seq
 (.ops [
 (sP 8 .mov [.c (.int .i64 0)])])
 r02_Put_L0)
 (.seq
 (.ops [
 (sM 30 7),
 (sM 6 30)])
 (.ret [6])))))))
def r02_Put_I : FInfo := ⟨(.fz false), 3, r02_Put_C, [.tmp 6]⟩
def r02_Put_A : Ann := ⟨[], [], [(0, [1, 2, 7, 8], [7])], [(1, [1, 2, 7, 8])], []⟩
abbrev n_r02_Put : Nat := 69

/-! ### balise/baliseref13.Same -/
def r13_Same_B0 : CCode :=
 (.seq
 (.seq
 (.ops [
 (sM 11 5),
 (sM 12 0),
 (sP 13 .len [.t 12]),
 (sP 14 (.bin .lss .ifc) [.t 11, .t 13])])
 (.cond (.t 14)
 .skip
 (.exit 0)))
 (.seq
 (.block 1 (some [0, 1, 5])
 (.seq
 (.ops [
 (sM 17 0),
 (sM 18 5),
 (sP 19 (.iaddr 2) [.t 17, .t 18]),
 (sH 20 (.load true 2) [.t 19]),
 (sM 21 1),
 (sM 22 5),
 (sP 23 (.iaddr 2) [.t 21, .t 22]),
 (sH 24 (.load true 2) [.t 23]),
 (sP 25 (.bin .neq (.parts [(0, false, 1, .int), (1, false, 1, .int)])) [.t 20, .t 24])])
 (.cond (.t 25)
 (.seq
 (.ops [
 (sP 4 .mov [.c (.bool false)])])
 (.ret [4]))
 .skip)))
 (.ops [
 (sM 15 5),
 (sP 16 (.bin .add .ifc) [.t 15, .c (.int .i64 1)]),
 (sM 5 16)])))
def r13_Same_L0 : CCode := .bloop 0 [0, 1, 5] [] r13_Same_B0
def r13_Same_C : CCode :=
 (.seq
 (.ops [
 (sP 4 .mov [.c (.bool false)])])
 (.seq
 (.seq
 (.ops [
 (sM 6 0),
 (sP 7 .len [.t 6]),
 (sM 8 1),
 (sP 9 .len [.t 8]),
 (sP 10 (.bin .neq .int) [.t 7, .t 9])])
 (.cond (.t 10)
 (.seq
 (.ops [
 (sP 4 .mov [.c (.bool false)])])
 (.ret [4]))
 .skip))
 (.seq
 (.seq
 (.ops [
 (sP 5 .mov [.c (.int .i64 0)])])
 r13_Same_L0)
 (.seq
 (.ops [
 (sP 4 .mov [.c (.bool true)])])
 (.ret [4])))))
def r13_Same_I : FInfo := ⟨(.fz false), 2, r13_Same_C, [.tmp 4]⟩
def r13_Same_A : Ann := ⟨[], [], [(0, [0, 1, 5], [])], [(1, [0, 1, 5])], []⟩
abbrev n_r13_Same : Nat := 60

/-! ### balise/baliseref01.Bools -/
def r01_Bools_B0 : CCode :=
 (.seq
 (.seq
 (.ops [
 (sM 11 5),
 (sM 12 0),
 (sP 13 .len [.t 12]),
 (sP 14 (.bin .lss .ifc) [.t 11, .t 13])])
 (.cond (.t 14)
 .skip
 (.exit 0)))
 (.seq
 (.block 1 (some [0, 1, 5])
 (.seq
 (.ops [
 (sM 17 0),
 (sM 18 5),
 (sP 19 (.iaddr 1) [.t 17, .t 18]),
 (sH 20 (.load false 1) [.t 19]),
 (sM 21 1),
 (sM 22 5),
 (sP 23 (.iaddr 1) [.t 21, .t 22]),
 (sH 24 (.load false 1) [.t 23]),
 (sP 25 (.bin .neq .bool) [.t 20, .t 24])])
 (.cond (.t 25)
 (.seq
 (.ops [
 (sP 4 .mov [.c (.bool false)])])
 (.ret [4]))
 .skip)))
 (.ops [
 (sM 15 5),
 (sP 16 (.bin .add .ifc) [.t 15, .c (.int .i64 1)]),
 (sM 5 16)])))
def r01_Bools_L0 : CCode := .bloop 0 [0, 1, 5] [] r01_Bools_B0
def r01_Bools_C : CCode :=
 (.seq
 (.ops [
 (sP 4 .mov [.c (.bool false)])])
 (.seq
 (.seq
 (.ops [
 (sM 6 0),
 (sP 7 .len [.t 6]),
 (sM 8 1),
 (sP 9 .len [.t 8]),
 (sP 10 (.bin .neq .int) [.t 7, .t 9])])
 (.cond (.t 10)
 (.seq
 (.ops [
 (sP 4 .mov [.c (.bool false)])])
 (.ret [4]))
 .skip))
 (.seq
 (.seq
 (.ops [
 (sP 5 .mov [.c (.int .i64 0)])])
 r01_Bools_L0)
 (.seq
 (.ops [
 (sP 4 .mov [.c (.bool true)])])
 (.ret [4])))))
def r01_Bools_I : FInfo := ⟨(.fz false), 2, r01_Bools_C, [.tmp 4]⟩
def r01_Bools_A : Ann := ⟨[], [], [(0, [0, 1, 5], [])], [(1, [0, 1, 5])], []⟩
abbrev n_r01_Bools : Nat := 61

/-! ### (*balise/detect.Filter).Step -/
def detect_Filter_Step_B0 : CCode :=
 (.seq
 (.ops [
 (sP 15 (.bin .lss .ifc) [.t 14, .t 13])])
 (.seq
 (.cond (.t 15)
 .skip
 (.exit 0))
 (.seq
 (.block 1 (some [0, 1, 5, 13, 14])
 (.seq
 (.ops [
 (sM 16 14),
 (sM 6 16)])
 (.seq
 (.seq
 (.ops [
 (sM 17 6),
 (sM 18 1),
 (sP 19 .len [.t 18]),
 (sP 20 (.bin .lss .ifc) [.t 17, .t 19]),
 (sM 21 20),
 (sG (sM 22 1) 21 true),
 (sG (sM 23 6) 21 true),
 (sG (sP 24 (.iaddr 1) [.t 22, .t 23]) 21 true),
 (sG (sH 25 (.load false 1) [.t 24]) 21 true),
 (sG (sP 26 (.bin .eql .int) [.t 25, .c (.int .u8 0)]) 21 true),
 (sP 27 .pick [.t 21, .t 26, .c (.bool false)])])
 (.cond (.t 27)
 (.ops [
 (sM 28 0),
 (sP 29 .nchk [.t 28]),
 (sP 30 (.faddr 0) [.t 29]),
 (sH 31 (.load false 1) [.t 30]),
 (sM 32 6),
 (sM 33 0),
 (sP 34 .nchk [.t 33]),
 (sP 35 (.faddr 0) [.t 34]),
 (sH 36 (.load false 1) [.t 35]),
 (sM 37 6),
 (sP 38 (.iaddr 1) [.t 36, .t 37]),
 (sH 39 (.load false 1) [.t 38]),
 (sP 40 (.bin .add .ifc) [.t 39, .c (.int .i64 1)]),
 (sP 41 .min [.t 40, .c (.int .i64 1001)]),
 (sP 42 (.iaddr 1) [.t 31, .t 32]),
 (sHn (.store 1) [.t 42, .t 41])])
 (.ops [
 (sM 43 0),
 (sP 44 .nchk [.t 43]),
 (sP 45 (.faddr 0) [.t 44]),
 (sH 46 (.load false 1) [.t 45]),
 (sM 47 6),
 (sP 48 (.iaddr 1) [.t 46, .t 47]),
 (sHn (.store 1) [.t 48, .c (.int .i64 0)])])))
 (.ops [
 (sM 49 5),
 (sM 50 0),
 (sM 51 6),
 (sC 52 107 [.t 50, .t 51]),
 (sH 53 (.bslF 1 1 [(.bool false)] [(0, 1)]) [.t 52]),
 (sH 54 (.app 1 1 [(.bool false)]) [.t 49, .t 53]),
 (sM 5 54)]))))
 (.ops [
 (sP 55 (.bin .add .ifc) [.t 14, .c (.int .i64 1)]),
 (sM 14 55)]))))
def detect_Filter_Step_L0 : CCode := .bloop 0 [0, 1, 5, 13, 14] [5] detect_Filter_Step_B0
def detect_Filter_Step_C : CCode :=
 (.seq
 (.ops [
 (sP 4 .mov [.c .nils])])
 (.seq
 (.seq
 (.ops [
 (sM 7 0),
 (sP 8 (.bin .eql .ptr) [.t 7, .c .nilp])])
 (.cond (.t 8)
 (.seq
 (.ops [
 (sP 4 .mov [.c .nils])])
 (.ret [4]))
 .skip))
 (.seq
 (.ops [
 (sP 5 .mov [.c .nils])])
 (.seq
 (.seq
 (.ops [
 (sM 9 0),
 (sP 10 .nchk [.t 9]),
 (sP 11 (.faddr 0) [.t 10]),
 (sH 12 (.load false 1) [.t 11]),
 (sP 13 .len [.t 12]),
 (sP 14 .mov [.c (.int .i64 0)])])
 detect_Filter_Step_L0)
 (.seq
 (.ops [
 (sM 56 5),
 (sM 4 56)])
 (.ret [4]))))))
def detect_Filter_Step_I : FInfo := ⟨.ref, 2, detect_Filter_Step_C, [.tmp 4]⟩
def detect_Filter_Step_A : Ann := ⟨[], [], [(0, [0, 1, 5, 13, 14], [5])], [(1, [0, 1, 5, 13, 14])], []⟩
abbrev n_detect_Filter_Step : Nat := 46

/-! ### (*balise/train.Register).Mute -/
def train_Register_Mute_C : CCode :=
 (.seq
 (.ops [
 (sH 3 .boxh [.t 0]),
 (sH 4 .boxh [.t 1]),
 (sH 5 .boxh [.t 2]),
 (sP 6 .mov [.c .nils])])
 (.seq
 (.ops [
 (sH 7 (.load false 1) [.t 3]),
 (sP 8 (.mkfn (.func 115) 0) [.t 4, .t 5]),
 (sP 9 (.mkfn (.func 116) 0) [.t 3]),
 (sC 10 114 [.t 7, .t 8, .t 9]),
 (sM 6 10)])
 (.ret [6])))
def train_Register_Mute_I : FInfo := ⟨.ref, 3, train_Register_Mute_C, [.tmp 6]⟩
def train_Register_Mute_A : Ann := ⟨[3, 4, 5], [], [], [], []⟩
abbrev n_train_Register_Mute : Nat := 48

/-! ### (*balise/train.Register).Doubt -/
def train_Register_Doubt_C : CCode :=
 (.seq
 (.ops [
 (sH 4 .boxh [.t 1]),
 (sH 5 .boxh [.t 2]),
 (sP 6 .mov [.c .nils])])
 (.seq
 (.ops [
 (sM 7 0),
 (sP 8 (.mkfn (.func 117) 0) [.t 4, .t 5]),
 (sC 9 114 [.t 7, .t 8, .c (.fn (.func 118) [] [])]),
 (sM 6 9)])
 (.ret [6])))
def train_Register_Doubt_I : FInfo := ⟨.ref, 3, train_Register_Doubt_C, [.tmp 6]⟩
def train_Register_Doubt_A : Ann := ⟨[4, 5], [], [], [], []⟩
abbrev n_train_Register_Doubt : Nat := 49

/-! ### (*balise/center.Center).look -/
def center_Center_look_B0 : CCode :=
 (.seq
 (.ops [
 (sP 19 (.bin .lss .ifc) [.t 18, .t 17])])
 (.seq
 (.cond (.t 19)
 .skip
 (.exit 0))
 (.seq
 (.block 1 (some [0, 6, 16, 17, 18])
 (.seq
 (.ops [
 (sP 20 (.iaddr 1) [.t 16, .t 18]),
 (sH 21 (.load false 1) [.t 20]),
 (sM 3 21)])
 (.seq
 (.ops [
 (sM 23 0),
 (sP 24 .nchk [.t 23]),
 (sP 25 (.faddr 13) [.t 24]),
 (sH 26 (.load false 1) [.t 25]),
 (sM 27 3),
 (sC 28 59 [.t 26, .t 27]),
 (sM 22 28),
 (sP 29 (.ext 0) [.t 22]),
 (sP 30 (.ext 1) [.t 22]),
 (sH 4 (.newl 4 [(.int .i64 0), (.int .i64 0), (.int .i64 0), (.int .i64 0), (.int .i64 0), .nils]) []),
 (sHn (.store 6) [.t 4, .t 29]),
 (sM 5 30)])
 (.ops [
 (sM 31 0),
 (sM 32 0),
 (sP 33 .nchk [.t 32]),
 (sP 34 (.faddr 18) [.t 33]),
 (sB 35 (.load false 1) [.t 34]),
 (sM 36 3),
 (sP 37 (.faddr 2) [.t 4]),
 (sL 38 4 (.load false 1) [.t 37]),
 (sP 39 (.bin .geq .ifc) [.t 38, .c (.int .i64 0)]),
 (sM 40 0),
 (sM 41 3),
 (sCp 42 113 [.t 40, .t 41]),
 (sP 43 (.bld [(.int .i64 0), (.bool false), .nils] [(0, 1), (1, 1), (2, 1)]) [.t 36, .t 39, .t 42]),
 (sH 44 (.bslF 3 1 [(.int .i64 0), (.bool false), .nils] [(0, 3)]) [.t 43]),
 (sB 45 (.app 3 40 [(.int .i64 0), (.bool false), .nils]) [.t 35, .t 44]),
 (sP 46 .nchk [.t 31]),
 (sP 47 (.faddr 18) [.t 46]),
 (sBn (.store 1) [.t 47, .t 45])]))))
 (.ops [
 (sP 48 (.bin .add .ifc) [.t 18, .c (.int .i64 1)]),
 (sM 18 48)]))))
def center_Center_look_L0 : CCode := .bloop 0 [0, 6, 16, 17, 18] [0, 6] center_Center_look_B0

def center_Center_look_B2 : CCode :=
 (.seq
 (.ops [
 (sH 54 .nxtM [.t 53]),
 (sP 55 (.ext 0) [.t 54])])
 (.seq
 (.cond (.t 55)
 .skip
 (.exit 2))
 (.block 3 (some [0, 6, 53])
 (.seq
 bad
 (.seq
 (.ops [
 (sM 59 0),
 (sP 60 .nchk [.t 59]),
 (sP 61 (.faddr 13) [.t 60]),
 (sH 62 (.load false 1) [.t 61]),
 (sM 63 6),
 (sC 64 59 [.t 62, .t 63]),
 (sM 58 64),
 (sP 65 (.ext 0) [.t 58]),
 (sP 66 (.ext 1) [.t 58]),
 (sH 7 (.newl 7 [(.int .i64 0), (.int .i64 0), (.int .i64 0), (.int .i64 0), (.int .i64 0), .nils]) []),
 (sHn (.store 6) [.t 7, .t 65]),
 (sM 8 66)])
 (.seq
 (.ops [
 (sM 67 8),
 (sP 68 (.un .not) [.t 67])])
 (.cond (.t 68)
 (.ops [
 (sM 69 0),
 (sP 70 .nchk [.t 69]),
 (sP 71 (.faddr 19) [.t 70]),
 (sH 72 (.load false 1) [.t 71]),
 (sM 73 6),
 (sHn (.mdel 0) [.t 72, .t 73])])
 .skip)))))))
def center_Center_look_L2 : CCode := .bloop 2 [0, 6, 53] [] center_Center_look_B2
def center_Center_look_C : CCode :=
 (.seq
 (.ops [
 (sM 9 0),
 (sP 10 .nchk [.t 9]),
 (sP 11 (.faddr 18) [.t 10]),
 (sHn (.store 1) [.t 11, .c .nils])])
 (.seq
 (.seq
 (.ops [
 (sM 12 0),
 (sP 13 .nchk [.t 12]),
 (sP 14 (.faddr 13) [.t 13]),
 (sH 15 (.load false 1) [.t 14]),
 (sC 16 65 [.t 15]),
 (sP 17 .len [.t 16]),
 (sP 18 .mov [.c (.int .i64 0)])])
 center_Center_look_L0)
 (.seq
 (.ops [
 (sM 49 0),
 (sP 50 .nchk [.t 49]),
 (sP 51 (.faddr 19) [.t 50]),
 (sH 52 (.load false 1) [.t 51]),
 (sH 53 .mrng [.t 52])])
 center_Center_look_L2)))
def center_Center_look_I : FInfo := ⟨.ref, 1, center_Center_look_C, []⟩
def center_Center_look_A : Ann := ⟨[], [], [(0, [0, 6, 16, 17, 18], [0, 6]), (2, [0, 6, 53], [])], [(1, [0, 6, 16, 17, 18]), (3, [0, 6, 53])], [4, 7]⟩
abbrev n_center_Center_look : Nat := 50

/-! ### balise/own.Next -/
def own_Next_B0 : CCode :=
 (.seq
 (.ops [
 (sP 20 (.bin .lss .ifc) [.t 19, .t 18])])
 (.seq
 (.cond (.t 20)
 .skip
 (.exit 0))
 (.seq
 (.block 1 (some [1, 2, 3, 4, 9, 10, 18, 19])
 (.seq
 (.ops [
 (sM 21 19),
 (sM 11 21)])
 (.seq
 (.ops [
 (sP 12 .mov [.c (.int .i64 (-1))])])
 (.seq
 (.block 2 (some [1, 2, 3, 4, 9, 10, 12, 18, 19])
 (.seq
 (.ops [
 (sM 37 2),
 (sM 38 11),
 (sP 39 (.iaddr 1) [.t 37, .t 38]),
 (sH 40 (.load false 1) [.t 39]),
 (sM 36 40)])
 (.cond (.t 36)
 (.ops [
 (sP 12 .mov [.c (.int .i64 (-2))])])
 (.seq
 (.ops [
 (sM 42 1),
 (sM 43 11),
 (sP 44 (.iaddr 1) [.t 42, .t 43]),
 (sH 45 (.load false 1) [.t 44]),
 (sP 46 (.bin .eql .int) [.t 45, .c (.int .i64 (-1))]),
 (sM 41 46)])
 (.cond (.t 41)
 .skip
 (.seq
 (.ops [
 (sM 22 9),
 (sM 23 1),
 (sM 24 11),
 (sC 25 119 [.t 22, .t 23, .t 24]),
 (sM 13 25)])
 (.seq
 (.ops [
 (sM 26 13),
 (sP 27 (.bin .geq .ifc) [.t 26, .c (.int .i64 0)]),
 (sM 28 27),
 (sG (sH 29 (.load true 10) [.t 4]) 28 true),
 (sG (sM 30 3) 28 true),
 (sG (sM 31 11) 28 true),
 (sG (sM 32 13) 28 true),
 (sG (sC 33 120 [.t 29, .t 30, .t 31, .t 32]) 28 true),
 (sP 34 .pick [.t 28, .t 33, .c (.bool false)])])
 (.cond (.t 34)
 (.ops [
 (sM 35 13),
 (sM 12 35)])
 .skip))))))))
 (.ops [
 (sM 47 10),
 (sM 48 12),
 (sH 49 (.bslF 1 1 [(.int .i64 0)] [(0, 1)]) [.t 48]),
 (sH 50 (.app 1 8 [(.int .i64 0)]) [.t 47, .t 49]),
 (sM 10 50)])))))
 (.ops [
 (sP 51 (.bin .add .ifc) [.t 19, .c (.int .i64 1)]),
 (sM 19 51)]))))
def own_Next_L0 : CCode := .bloop 0 [1, 2, 3, 4, 9, 10, 18, 19] [10] own_Next_B0
def own_Next_C : CCode :=
 (.seq
 (.ops [
 (sH 4 (.box 4) [.t 0]),
 (sP 8 .mov [.c .nils])])
 (.seq
 (.ops [
 (sH 14 (.load true 10) [.t 4]),
 (sC 15 34 [.t 14]),
 (sM 9 15)])
 (.seq
 (.ops [
 (sP 10 .mov [.c .nils])])
 (.seq
 (.seq
 (.ops [
 (sP 16 (.faddr 2) [.t 4]),
 (sH 17 (.load false 1) [.t 16]),
 (sP 18 .len [.t 17]),
 (sP 19 .mov [.c (.int .i64 0)])])
 own_Next_L0)
 (.seq
 (.ops [
 (sM 52 10),
 (sM 8 52)])
 (.ret [8]))))))
def own_Next_I : FInfo := ⟨(.fz false), 4, own_Next_C, [.tmp 8]⟩
def own_Next_A : Ann := ⟨[], [], [(0, [1, 2, 3, 4, 9, 10, 18, 19], [10])], [(1, [1, 2, 3, 4, 9, 10, 18, 19]), (2, [1, 2, 3, 4, 9, 10, 12, 18, 19])], [4]⟩
abbrev n_own_Next : Nat := 51

/-! ### (*balise/center.Center).declare -/
def center_Center_declare_B0 : CCode :=
 (.seq
 (.ops [
 (sP 13 (.bin .lss .ifc) [.t 12, .t 11])])
 (.seq
 (.cond (.t 13)
 .skip
 (.exit 0))
 (.seq
 (.block 1 (some [0, 1, 3, 10, 11, 12])
 (.seq
 (.ops [
 (sM 14 12),
 (sP 15 (.iaddr 3) [.t 10, .t 12]),
 (sH 16 (.load true 3) [.t 15]),
 (sH 9 (.newl 9 [(.int .u8 0), (.int .i64 0), (.int .i64 0)]) []),
 (sM 8 14),
 (sHn (.store 3) [.t 9, .t 16])])
 (.seq
 (.ops [
 (sP 17 (.faddr 0) [.t 9]),
 (sH 18 (.load false 1) [.t 17]),
 (sP 19 (.bin .eql .int) [.t 18, .c (.int .u8 3)])])
 (.cond (.t 19)
 (.ops [
 (sM 21 0),
 (sM 22 3),
 (sM 23 8),
 (sM 24 0),
 (sP 25 .nchk [.t 24]),
 (sP 26 (.faddr 0) [.t 25]),
 (sH 27 (.load true 10) [.t 26]),
 (sM 28 0),
 (sP 29 .nchk [.t 28]),
 (sP 30 (.faddr 16) [.t 29]),
 (sH 31 (.load false 1) [.t 30]),
 (sM 32 1),
 (sM 33 0),
 (sP 34 .nchk [.t 33]),
 (sP 35 (.faddr 18) [.t 34]),
 (sH 36 (.load false 1) [.t 35]),
 (sP 37 (.faddr 1) [.t 9]),
 (sH 38 (.load false 1) [.t 37]),
 (sP 39 (.faddr 2) [.t 9]),
 (sH 40 (.load false 1) [.t 39]),
 (sC 41 121 [.t 27, .t 31, .t 32, .t 36, .t 38, .t 40]),
 (sM 20 41),
 (sP 42 (.ext 0) [.t 20]),
 (sP 43 (.ext 1) [.t 20]),
 (sP 44 .nchk [.t 21]),
 (sP 45 (.faddr 16) [.t 44]),
 (sHn (.store 1) [.t 45, .t 42]),
 (sP 46 (.iaddr 1) [.t 22, .t 23]),
 (sHn (.store 1) [.t 46, .t 43])])
 .skip))))
 (.ops [
 (sP 47 (.bin .add .ifc) [.t 12, .c (.int .i64 1)]),
 (sM 12 47)]))))
def center_Center_declare_L0 : CCode := .bloop 0 [0, 1, 3, 10, 11, 12] [] center_Center_declare_B0
def center_Center_declare_C : CCode :=
 (.seq
 (.ops [
 (sM 10 2),
 (sP 11 .len [.t 10]),
 (sP 12 .mov [.c (.int .i64 0)])])
 center_Center_declare_L0)
def center_Center_declare_I : FInfo := ⟨.ref, 4, center_Center_declare_C, []⟩
def center_Center_declare_A : Ann := ⟨[], [], [(0, [0, 1, 3, 10, 11, 12], [])], [(1, [0, 1, 3, 10, 11, 12])], [9]⟩
abbrev n_center_Center_declare : Nat := 52

/-! ### balise/state.Of -/
def state_Of_B0 : CCode :=
 (.seq
 (.ops [
 (sP 18 (.bin .lss .ifc) [.t 17, .t 16])])
 (.seq
 (.cond (.t 18)
 .skip
 (.exit 0))
 (.seq
 (.block 1 (some [1, 2, 7, 8, 16, 17])
 (.seq
 (.ops [
 (sM 19 17),
 (sM 9 19)])
 (.seq
 (.ops [
 (sP 10 .mov [.c (.int .i64 (-1))])])
 (.seq
 (.seq
 (.ops [
 (sM 20 7),
 (sM 21 9),
 (sC 22 122 [.t 20, .t 21]),
 (sM 11 22)])
 (.seq
 (.ops [
 (sM 23 11),
 (sP 24 (.bin .geq .ifc) [.t 23, .c (.int .i64 0)])])
 (.cond (.t 24)
 (.ops [
 (sM 25 1),
 (sM 26 11),
 (sP 27 (.iaddr 1) [.t 25, .t 26]),
 (sH 28 (.load false 1) [.t 27]),
 (sM 10 28)])
 .skip)))
 (.ops [
 (sM 29 8),
 (sM 30 9),
 (sM 31 10),
 (sM 32 2),
 (sC 33 123 [.t 30, .t 31, .t 32]),
 (sH 34 (.bslF 1 1 [(.int .u8 0)] [(0, 1)]) [.t 33]),
 (sH 35 (.app 1 1 [(.int .u8 0)]) [.t 29, .t 34]),
 (sM 8 35)])))))
 (.ops [
 (sP 36 (.bin .add .ifc) [.t 17, .c (.int .i64 1)]),
 (sM 17 36)]))))
def state_Of_L0 : CCode := .bloop 0 [1, 2, 7, 8, 16, 17] [8] state_Of_B0
def state_Of_C : CCode :=
 (.seq
 (.ops [
 (sH 3 (.box 3) [.t 0]),
 (sP 6 .mov [.c .nils])])
 (.seq
 (.ops [
 (sH 12 (.load true 10) [.t 3]),
 (sC 13 34 [.t 12]),
 (sM 7 13)])
 (.seq
 (.ops [
 (sP 8 .mov [.c .nils])])
 (.seq
 (.seq
 (.ops [
 (sP 14 (.faddr 1) [.t 3]),
 (sH 15 (.load false 1) [.t 14]),
 (sP 16 .len [.t 15]),
 (sP 17 .mov [.c (.int .i64 0)])])
 state_Of_L0)
 (.seq
 (.ops [
 (sM 37 8),
 (sM 6 37)])
 (.ret [6]))))))
def state_Of_I : FInfo := ⟨(.fz false), 3, state_Of_C, [.tmp 6]⟩
def state_Of_A : Ann := ⟨[], [], [(0, [1, 2, 7, 8, 16, 17], [8])], [(1, [1, 2, 7, 8, 16, 17])], [3]⟩
abbrev n_state_Of : Nat := 53

/-! ### (*balise/route.Table).Step -/
def route_Table_Step_B2 : CCode :=
 (.seq
 (.ops [
 (sP 28 (.bin .lss .ifc) [.t 27, .t 26])])
 (.seq
 (.cond (.t 28)
 .skip
 (.exit 2))
 (.seq
 (.block 3 (some [0, 1, 2, 3, 9, 16, 17, 18, 26, 27])
 (.seq
 (.ops [
 (sM 29 27),
 (sM 10 29)])
 (.ops [
 (sM 30 9),
 (sP 31 .nchk [.t 30]),
 (sP 32 (.faddr 3) [.t 31]),
 (sB 33 (.load false 1) [.t 32]),
 (sM 34 10),
 (sM 35 0),
 (sM 36 9),
 (sM 37 10),
 (sM 38 1),
 (sM 39 2),
 (sM 40 3),
 (sCp 41 126 [.t 35, .t 36, .t 37, .t 38, .t 39, .t 40]),
 (sP 42 (.iaddr 1) [.t 33, .t 34]),
 (sBn (.store 1) [.t 42, .t 41])])))
 (.ops [
 (sP 43 (.bin .add .ifc) [.t 27, .c (.int .i64 1)]),
 (sM 27 43)]))))
def route_Table_Step_L2 : CCode := .bloop 2 [0, 1, 2, 3, 9, 16, 17, 18, 26, 27] [0, 1, 2, 3, 16, 17, 18] route_Table_Step_B2

def route_Table_Step_B0 : CCode :=
 (.seq
 (.ops [
 (sP 19 (.bin .lss .ifc) [.t 18, .t 17])])
 (.seq
 (.cond (.t 19)
 .skip
 (.exit 0))
 (.seq
 (.block 1 (some [0, 1, 2, 3, 16, 17, 18])
 (.seq
 (.ops [
 (sP 20 (.iaddr 1) [.t 16, .t 18]),
 (sH 21 (.load false 1) [.t 20]),
 (sM 9 21)])
 (.seq
 (.ops [
 (sM 22 9),
 (sP 23 .nchk [.t 22]),
 (sP 24 (.faddr 3) [.t 23]),
 (sH 25 (.load false 1) [.t 24]),
 (sP 26 .len [.t 25]),
 (sP 27 .mov [.c (.int .i64 0)])])
 route_Table_Step_L2)))
 (.ops [
 (sP 44 (.bin .add .ifc) [.t 18, .c (.int .i64 1)]),
 (sM 18 44)]))))
def route_Table_Step_L0 : CCode := .bloop 0 [0, 1, 2, 3, 16, 17, 18] [0] route_Table_Step_B0
def route_Table_Step_C : CCode :=
 (.seq
 (.seq
 (.ops [
 (sM 11 0),
 (sP 12 (.bin .eql .ptr) [.t 11, .c .nilp])])
 (.cond (.t 12)
 (.ret [])
 .skip))
 (.seq
 (.seq
 (.ops [
 (sM 13 0),
 (sP 14 .nchk [.t 13]),
 (sP 15 (.faddr 11) [.t 14]),
 (sH 16 (.load false 1) [.t 15]),
 (sP 17 .len [.t 16]),
 (sP 18 .mov [.c (.int .i64 0)])])
 route_Table_Step_L0)
 (.ops [
 (sM 45 0),
 (sM 46 0),
 (sP 47 .nchk [.t 46]),
 (sP 48 (.faddr 11) [.t 47]),
 (sH 49 (.load false 1) [.t 48]),
 (sC 50 127 [.t 49, .c (.fn (.func 128) [] [])]),
 (sP 51 .nchk [.t 45]),
 (sP 52 (.faddr 11) [.t 51]),
 (sHn (.store 1) [.t 52, .t 50])])))
def route_Table_Step_I : FInfo := ⟨.ref, 4, route_Table_Step_C, []⟩
def route_Table_Step_A : Ann := ⟨[], [], [(0, [0, 1, 2, 3, 16, 17, 18], [0]), (2, [0, 1, 2, 3, 9, 16, 17, 18, 26, 27], [0, 1, 2, 3, 16, 17, 18])], [(1, [0, 1, 2, 3, 16, 17, 18]), (3, [0, 1, 2, 3, 9, 16, 17, 18, 26, 27])], []⟩
abbrev n_route_Table_Step : Nat := 55

/-! ### (*balise/center.Center).move -/
def center_Center_move_B0 : CCode :=
 (.seq
 (.ops [
 (sP 19 (.bin .lss .ifc) [.t 18, .t 17])])
 (.seq
 (.cond (.t 19)
 .skip
 (.exit 0))
 (.seq
 (.block 1 (some [0, 3, 4, 16, 17, 18])
 (.seq
 (.ops [
 (sP 20 (.iaddr 3) [.t 16, .t 18]),
 (sH 21 (.load true 3) [.t 20]),
 (sH 6 (.newl 6 [(.int .i64 0), (.bool false), .nils]) []),
 (sHn (.store 3) [.t 6, .t 21])])
 (.seq
 (.ops [
 (sM 22 0),
 (sP 23 .nchk [.t 22]),
 (sP 24 (.faddr 0) [.t 23]),
 (sH 25 (.load true 10) [.t 24]),
 (sM 26 4),
 (sM 27 0),
 (sP 28 .nchk [.t 27]),
 (sP 29 (.faddr 17) [.t 28]),
 (sH 30 (.load false 1) [.t 29]),
 (sM 31 0),
 (sP 32 .nchk [.t 31]),
 (sP 33 (.faddr 16) [.t 32]),
 (sH 34 (.load false 1) [.t 33]),
 (sM 35 0),
 (sP 36 .nchk [.t 35]),
 (sP 37 (.faddr 18) [.t 36]),
 (sH 38 (.load false 1) [.t 37]),
 (sM 39 0),
 (sP 40 .nchk [.t 39]),
 (sP 41 (.faddr 15) [.t 40]),
 (sH 42 (.load false 1) [.t 41]),
 (sP 43 (.faddr 0) [.t 6]),
 (sH 44 (.load false 1) [.t 43]),
 (sC 45 130 [.t 25, .t 26, .t 30, .t 34, .t 38, .t 42, .t 44]),
 (sM 7 45)])
 (.seq
 (.seq
 (.ops [
 (sM 46 7),
 (sM 47 0),
 (sP 48 .nchk [.t 47]),
 (sP 49 (.faddr 19) [.t 48]),
 (sH 50 (.load false 1) [.t 49]),
 (sP 51 (.faddr 0) [.t 6]),
 (sH 52 (.load false 1) [.t 51]),
 (sH 53 (.look 0 .nils false) [.t 50, .t 52]),
 (sC 54 131 [.t 46, .t 53])])
 (.cond (.t 54)
 (.exit 1)
 .skip))
 (.seq
 (.ops [
 (sM 55 0),
 (sP 56 .nchk [.t 55]),
 (sP 57 (.faddr 19) [.t 56]),
 (sH 58 (.load false 1) [.t 57]),
 (sP 59 (.faddr 0) [.t 6]),
 (sH 60 (.load false 1) [.t 59]),
 (sM 61 7),
 (sHn (.mput 0) [.t 58, .t 60, .t 61])])
 (.ops [
 (sM 62 3),
 (sP 63 (.faddr 0) [.t 6]),
 (sH 64 (.load false 1) [.t 63]),
 (sM 65 0),
 (sP 66 .nchk [.t 65]),
 (sP 67 (.faddr 11) [.t 66]),
 (sH 68 (.load false 1) [.t 67]),
 (sM 69 7),
 (sM 70 7),
 (sP 71 .len [.t 70]),
 (sP 72 .min [.t 71, .c (.int .i64 15)]),
 (sP 73 (.slc 1 false true) [.t 69, .t 72]),
 (sP 74 (.bld [(.int .u8 0), (.int .i64 0), (.int .i64 0), (.int .i64 0), (.int .i64 0), (.bool false), .nils] [(0, 1), (1, 1), (2, 1), (6, 1)]) [.c (.int .u8 6), .t 64, .t 68, .t 73]),
 (sC 75 110 [.t 74]),
 (sH 76 (.bslF 1 1 [.nils] [(0, 1)]) [.t 75]),
 (sH 77 (.app 1 24 [.nils]) [.t 62, .t 76]),
 (sM 3 77)]))))))
 (.ops [
 (sP 78 (.bin .add .ifc) [.t 18, .c (.int .i64 1)]),
 (sM 18 78)]))))
def center_Center_move_L0 : CCode := .bloop 0 [0, 3, 4, 16, 17, 18] [3] center_Center_move_B0
def center_Center_move_C : CCode :=
 (.seq
 (.ops [
 (sP 2 .mov [.c .nils])])
 (.seq
 (.ops [
 (sP 3 .mov [.c .nils])])
 (.seq
 (.ops [
 (sM 8 0),
 (sP 9 .nchk [.t 8]),
 (sP 10 (.faddr 14) [.t 9]),
 (sH 11 (.load false 1) [.t 10]),
 (sC 12 63 [.t 11]),
 (sM 4 12)])
 (.seq
 (.seq
 (.ops [
 (sM 13 0),
 (sP 14 .nchk [.t 13]),
 (sP 15 (.faddr 18) [.t 14]),
 (sH 16 (.load false 1) [.t 15]),
 (sP 17 .len [.t 16]),
 (sP 18 .mov [.c (.int .i64 0)])])
 center_Center_move_L0)
 (.seq
 (.ops [
 (sM 79 3),
 (sM 2 79)])
 (.ret [2]))))))
def center_Center_move_I : FInfo := ⟨.ref, 1, center_Center_move_C, [.tmp 2]⟩
def center_Center_move_A : Ann := ⟨[], [], [(0, [0, 3, 4, 16, 17, 18], [3])], [(1, [0, 3, 4, 16, 17, 18])], [6]⟩
abbrev n_center_Center_move : Nat := 56

/-! ### slices.Clone[[]byte,byte] -/
def slices_Clone_byte_C : CCode :=
 (.seq
 (.ops [
 (sP 2 .mov [.c .nils])])
 (.seq
 (.seq
 (.ops [
 (sM 3 0),
 (sP 4 (.bin .eql .sl) [.t 3, .c .nils])])
 (.cond (.t 4)
 (.seq
 (.ops [
 (sP 2 .mov [.c .nils])])
 (.ret [2]))
 .skip))
 (.seq
 (.ops [
 (sH 5 (.bslO 1 0 [(.int .u8 0)] []) []),
 (sM 6 0),
 (sH 7 (.app 1 1 [(.int .u8 0)]) [.t 5, .t 6]),
 (sM 2 7)])
 (.ret [2]))))
def slices_Clone_byte_I : FInfo := ⟨.ref, 1, slices_Clone_byte_C, [.tmp 2]⟩
def slices_Clone_byte_A : Ann := ⟨[], [5], [], [], []⟩
abbrev n_slices_Clone_byte : Nat := 57

/-! ### balise/state.Changes -/
def state_Changes_B0 : CCode :=
 (.seq
 (.ops [
 (sP 14 (.bin .lss .ifc) [.t 13, .t 12])])
 (.seq
 (.cond (.t 14)
 .skip
 (.exit 0))
 (.seq
 (.block 1 (some [0, 1, 5, 12, 13])
 (.seq
 (.ops [
 (sM 15 13),
 (sM 6 15)])
 (.seq
 (.ops [
 (sM 16 0),
 (sM 17 6),
 (sP 18 (.iaddr 1) [.t 16, .t 17]),
 (sH 19 (.load false 1) [.t 18]),
 (sM 20 1),
 (sM 21 6),
 (sP 22 (.iaddr 1) [.t 20, .t 21]),
 (sH 23 (.load false 1) [.t 22]),
 (sC 24 132 [.t 19, .t 23]),
 (sM 7 24)])
 (.seq
 (.ops [
 (sM 25 7),
 (sP 26 (.bin .gtr .ifc) [.t 25, .c (.int .u8 0)])])
 (.cond (.t 26)
 (.ops [
 (sM 27 5),
 (sM 28 6),
 (sM 29 7),
 (sP 30 (.bld [(.int .i64 0), (.int .u8 0)] [(0, 1), (1, 1)]) [.t 28, .t 29]),
 (sH 31 (.bslF 2 1 [(.int .i64 0), (.int .u8 0)] [(0, 2)]) [.t 30]),
 (sH 32 (.app 2 16 [(.int .i64 0), (.int .u8 0)]) [.t 27, .t 31]),
 (sM 5 32)])
 .skip)))))
 (.ops [
 (sP 33 (.bin .add .ifc) [.t 13, .c (.int .i64 1)]),
 (sM 13 33)]))))
def state_Changes_L0 : CCode := .bloop 0 [0, 1, 5, 12, 13] [5] state_Changes_B0
def state_Changes_C : CCode :=
 (.seq
 (.ops [
 (sP 4 .mov [.c .nils])])
 (.seq
 (.ops [
 (sP 5 .mov [.c .nils])])
 (.seq
 (.seq
 (.ops [
 (sM 8 0),
 (sP 9 .len [.t 8]),
 (sM 10 1),
 (sP 11 .len [.t 10]),
 (sP 12 .min [.t 9, .t 11]),
 (sP 13 .mov [.c (.int .i64 0)])])
 state_Changes_L0)
 (.seq
 (.ops [
 (sM 34 5),
 (sM 4 34)])
 (.ret [4])))))
def state_Changes_I : FInfo := ⟨(.fz false), 2, state_Changes_C, [.tmp 4]⟩
def state_Changes_A : Ann := ⟨[], [], [(0, [0, 1, 5, 12, 13], [5])], [(1, [0, 1, 5, 12, 13])], []⟩
abbrev n_state_Changes : Nat := 58

/-! ### (*balise/route.Table).Locks -/
def route_Table_Locks_B0 : CCode :=
 (.seq
 (.ops [
 (sP 14 (.bin .lss .ifc) [.t 13, .t 12])])
 (.seq
 (.cond (.t 14)
 .skip
 (.exit 0))
 (.seq
 (.block 1 (some [3, 11, 12, 13])
 (.seq
 (.ops [
 (sP 15 (.iaddr 1) [.t 11, .t 13]),
 (sH 16 (.load false 1) [.t 15]),
 (sM 5 16)])
 (.ops [
 (sM 17 3),
 (sM 18 5),
 (sP 19 .nchk [.t 18]),
 (sP 20 (.faddr 0) [.t 19]),
 (sB 21 (.load false 1) [.t 20]),
 (sM 22 5),
 (sP 23 .nchk [.t 22]),
 (sP 24 (.faddr 1) [.t 23]),
 (sB 25 (.load false 1) [.t 24]),
 (sM 26 5),
 (sP 27 .nchk [.t 26]),
 (sP 28 (.faddr 2) [.t 27]),
 (sB 29 (.load false 1) [.t 28]),
 (sM 30 5),
 (sP 31 .nchk [.t 30]),
 (sP 32 (.faddr 3) [.t 31]),
 (sB 33 (.load false 1) [.t 32]),
 (sCp 34 57 [.t 33]),
 (sP 35 (.bld [(.int .i64 0), (.int .i64 0), (.int .i64 0), .nils] [(0, 1), (1, 1), (2, 1), (3, 1)]) [.t 21, .t 25, .t 29, .t 34]),
 (sH 36 (.bslF 4 1 [(.int .i64 0), (.int .i64 0), (.int .i64 0), .nils] [(0, 4)]) [.t 35]),
 (sB 37 (.app 4 48 [(.int .i64 0), (.int .i64 0), (.int .i64 0), .nils]) [.t 17, .t 36]),
 (sM 3 37)])))
 (.ops [
 (sP 38 (.bin .add .ifc) [.t 13, .c (.int .i64 1)]),
 (sM 13 38)]))))
def route_Table_Locks_L0 : CCode := .bloop 0 [3, 11, 12, 13] [3] route_Table_Locks_B0
def route_Table_Locks_C : CCode :=
 (.seq
 (.ops [
 (sP 2 .mov [.c .nils])])
 (.seq
 (.seq
 (.ops [
 (sM 6 0),
 (sP 7 (.bin .eql .ptr) [.t 6, .c .nilp])])
 (.cond (.t 7)
 (.seq
 (.ops [
 (sP 2 .mov [.c .nils])])
 (.ret [2]))
 .skip))
 (.seq
 (.ops [
 (sP 3 .mov [.c .nils])])
 (.seq
 (.seq
 (.ops [
 (sM 8 0),
 (sP 9 .nchk [.t 8]),
 (sP 10 (.faddr 11) [.t 9]),
 (sH 11 (.load false 1) [.t 10]),
 (sP 12 .len [.t 11]),
 (sP 13 .mov [.c (.int .i64 0)])])
 route_Table_Locks_L0)
 (.seq
 (.ops [
 (sM 39 3),
 (sM 2 39)])
 (.ret [2]))))))
def route_Table_Locks_I : FInfo := ⟨.ref, 1, route_Table_Locks_C, [.tmp 2]⟩
def route_Table_Locks_A : Ann := ⟨[], [], [(0, [3, 11, 12, 13], [3])], [(1, [3, 11, 12, 13])], []⟩
abbrev n_route_Table_Locks : Nat := 63

/-! ### (*balise/train.Register).All -/
def train_Register_All_C : CCode :=
 (.seq
 (.ops [
 (sP 2 .mov [.c .nils])])
 (.seq
 (.seq
 (.ops [
 (sM 3 0),
 (sP 4 (.bin .eql .ptr) [.t 3, .c .nilp])])
 (.cond (.t 4)
 (.seq
 (.ops [
 (sP 2 .mov [.c .nils])])
 (.ret [2]))
 .skip))
 (.seq
 (.ops [
 (sM 5 0),
 (sP 6 .nchk [.t 5]),
 (sP 7 (.faddr 0) [.t 6]),
 (sH 8 (.load false 1) [.t 7]),
 (sC 9 138 [.t 8]),
 (sC 10 137 [.t 9]),
 (sM 2 10)])
 (.ret [2]))))
def train_Register_All_I : FInfo := ⟨.ref, 1, train_Register_All_C, [.tmp 2]⟩
def train_Register_All_A : Ann := ⟨[], [], [], [], []⟩
abbrev n_train_Register_All : Nat := 65

/-! ### balise/baliseref01.Lists -/
def r01_Lists_B0 : CCode :=
 (.seq
 (.seq
 (.ops [
 (sM 11 5),
 (sM 12 0),
 (sP 13 .len [.t 12]),
 (sP 14 (.bin .lss .ifc) [.t 11, .t 13])])
 (.cond (.t 14)
 .skip
 (.exit 0)))
 (.seq
 (.block 1 (some [0, 1, 5])
 (.seq
 (.ops [
 (sM 17 0),
 (sM 18 5),
 (sP 19 (.iaddr 1) [.t 17, .t 18]),
 (sH 20 (.load false 1) [.t 19]),
 (sM 21 1),
 (sM 22 5),
 (sP 23 (.iaddr 1) [.t 21, .t 22]),
 (sH 24 (.load false 1) [.t 23]),
 (sC 25 141 [.t 20, .t 24]),
 (sP 26 (.un .not) [.t 25])])
 (.cond (.t 26)
 (.seq
 (.ops [
 (sP 4 .mov [.c (.bool false)])])
 (.ret [4]))
 .skip)))
 (.ops [
 (sM 15 5),
 (sP 16 (.bin .add .ifc) [.t 15, .c (.int .i64 1)]),
 (sM 5 16)])))
def r01_Lists_L0 : CCode := .bloop 0 [0, 1, 5] [] r01_Lists_B0
def r01_Lists_C : CCode :=
 (.seq
 (.ops [
 (sP 4 .mov [.c (.bool false)])])
 (.seq
 (.seq
 (.ops [
 (sM 6 0),
 (sP 7 .len [.t 6]),
 (sM 8 1),
 (sP 9 .len [.t 8]),
 (sP 10 (.bin .neq .int) [.t 7, .t 9])])
 (.cond (.t 10)
 (.seq
 (.ops [
 (sP 4 .mov [.c (.bool false)])])
 (.ret [4]))
 .skip))
 (.seq
 (.seq
 (.ops [
 (sP 5 .mov [.c (.int .i64 0)])])
 r01_Lists_L0)
 (.seq
 (.ops [
 (sP 4 .mov [.c (.bool true)])])
 (.ret [4])))))
def r01_Lists_I : FInfo := ⟨(.fz false), 2, r01_Lists_C, [.tmp 4]⟩
def r01_Lists_A : Ann := ⟨[], [], [(0, [0, 1, 5], [])], [(1, [0, 1, 5])], []⟩
abbrev n_r01_Lists : Nat := 67

/-! ### balise/baliseref03.Of -/
def r03_Of_B0 : CCode :=
 (.seq
 (.seq
 (.ops [
 (sM 11 4),
 (sP 12 (.bin .lss .ifc) [.t 11, .c (.int .i64 16)])])
 (.cond (.t 12)
 .skip
 (.exit 0)))
 (.seq
 (.block 1 (some [0, 3, 4])
 (.ops [
 (sM 15 4),
 (sP 16 (.iaddrA 16 1) [.t 3, .t 15]),
 (sHn (.store 1) [.t 16, .c (.bool true)])]))
 (.ops [
 (sM 13 4),
 (sP 14 (.bin .add .ifc) [.t 13, .c (.int .i64 1)]),
 (sM 4 14)])))
def r03_Of_L0 : CCode := .bloop 0 [0, 3, 4] [0, 3] r03_Of_B0

def r03_Of_B6 : CCode :=
 (.seq
 (.seq
 (.ops [
 (sM 38 8),
 (sP 39 (.bin .lss .ifc) [.t 38, .c (.int .i64 15)])])
 (.cond (.t 39)
 .skip
 (.exit 6)))
 (.seq
 (.block 7 (some [0, 3, 5, 6, 7, 8])
 (.ops [
 (sM 42 8),
 (sM 43 8),
 (sP 44 (.bin .add .ifc) [.t 43, .c (.int .i64 1)]),
 (sP 45 (.iaddrA 16 1) [.t 3, .t 44]),
 (sH 46 (.load false 1) [.t 45]),
 (sP 47 (.iaddrA 16 1) [.t 3, .t 42]),
 (sHn (.store 1) [.t 47, .t 46])]))
 (.ops [
 (sM 40 8),
 (sP 41 (.bin .add .ifc) [.t 40, .c (.int .i64 1)]),
 (sM 8 41)])))
def r03_Of_L6 : CCode := .bloop 6 [0, 3, 5, 6, 7, 8] [0, 3, 5, 6, 7] r03_Of_B6

def r03_Of_B4 : CCode :=
 (.seq
 (.seq
 (.ops [
 (sM 23 6),
 (sP 24 (.bin .lss .ifc) [.t 23, .c (.int .i64 8)])])
 (.cond (.t 24)
 .skip
 (.exit 4)))
 (.seq
 (.block 5 (some [0, 3, 5, 6])
 (.seq
 (.ops [
 (sP 27 (.iaddrA 16 1) [.t 3, .c (.int .i64 0)]),
 (sH 28 (.load false 1) [.t 27]),
 (sM 29 0),
 (sM 30 5),
 (sP 31 (.iaddr 1) [.t 29, .t 30]),
 (sH 32 (.load false 1) [.t 31]),
 (sM 33 6),
 (sP 34 (.bin .shr .ifc) [.t 32, .t 33]),
 (sP 35 (.bin .rem .ifc) [.t 34, .c (.int .u8 2)]),
 (sP 36 (.bin .eql .int) [.t 35, .c (.int .u8 1)]),
 (sP 37 (.bin .neq .bool) [.t 28, .t 36]),
 (sM 7 37)])
 (.seq
 (.seq
 (.ops [
 (sP 8 .mov [.c (.int .i64 0)])])
 r03_Of_L6)
 (.seq
 (.ops [
 (sP 48 (.iaddrA 16 1) [.t 3, .c (.int .i64 15)]),
 (sHn (.store 1) [.t 48, .c (.bool false)])])
 (.seq
 (.ops [
 (sM 49 7)])
 (.cond (.t 49)
 (.ops [
 (sP 50 (.iaddrA 16 1) [.t 3, .c (.int .i64 0)]),
 (sH 51 (.load false 1) [.t 50]),
 (sP 52 (.un .not) [.t 51]),
 (sP 53 (.iaddrA 16 1) [.t 3, .c (.int .i64 13)]),
 (sH 54 (.load false 1) [.t 53]),
 (sP 55 (.un .not) [.t 54]),
 (sP 56 (.iaddrA 16 1) [.t 3, .c (.int .i64 15)]),
 (sH 57 (.load false 1) [.t 56]),
 (sP 58 (.un .not) [.t 57]),
 (sP 59 (.iaddrA 16 1) [.t 3, .c (.int .i64 0)]),
 (sHn (.store 1) [.t 59, .t 52]),
 (sP 60 (.iaddrA 16 1) [.t 3, .c (.int .i64 13)]),
 (sHn (.store 1) [.t 60, .t 55]),
 (sP 61 (.iaddrA 16 1) [.t 3, .c (.int .i64 15)]),
 (sHn (.store 1) [.t 61, .t 58])])
 .skip))))))
 (.ops [
 (sM 25 6),
 (sP 26 (.bin .add .ifc) [.t 25, .c (.int .i64 1)]),
 (sM 6 26)])))
def r03_Of_L4 : CCode := .bloop 4 [0, 3, 5, 6] [0, 3, 5] r03_Of_B4

def r03_Of_B2 : CCode :=
 (.seq
 (.seq
 (.ops [
 (sM 17 5),
 (sM 18 0),
 (sP 19 .len [.t 18]),
 (sP 20 (.bin .lss .ifc) [.t 17, .t 19])])
 (.cond (.t 20)
 .skip
 (.exit 2)))
 (.seq
 (.block 3 (some [0, 3, 5])
 (.seq
 (.ops [
 (sP 6 .mov [.c (.int .i64 0)])])
 r03_Of_L4))
 (.ops [
 (sM 21 5),
 (sP 22 (.bin .add .ifc) [.t 21, .c (.int .i64 1)]),
 (sM 5 22)])))
def r03_Of_L2 : CCode := .bloop 2 [0, 3, 5] [3] r03_Of_B2

def r03_Of_B8 : CCode :=
 (.seq
 (.seq
 (.ops [
 (sM 62 10),
 (sP 63 (.bin .geq .ifc) [.t 62, .c (.int .i64 0)])])
 (.cond (.t 63)
 .skip
 (.exit 8)))
 (.seq
 (.block 9 (some [3, 9, 10])
 (.seq
 (.ops [
 (sM 66 9),
 (sP 67 (.bin .mul .ifc) [.t 66, .c (.int .u16 2)]),
 (sM 9 67)])
 (.seq
 (.ops [
 (sM 68 10),
 (sP 69 (.iaddrA 16 1) [.t 3, .t 68]),
 (sH 70 (.load false 1) [.t 69]),
 (sP 71 (.un .not) [.t 70])])
 (.cond (.t 71)
 (.ops [
 (sM 72 9),
 (sP 73 (.bin .add .ifc) [.t 72, .c (.int .u16 1)]),
 (sM 9 73)])
 .skip))))
 (.ops [
 (sM 64 10),
 (sP 65 (.bin .sub .ifc) [.t 64, .c (.int .i64 1)]),
 (sM 10 65)])))
def r03_Of_L8 : CCode := .bloop 8 [3, 9, 10] [9] r03_Of_B8
def r03_Of_C : CCode :=
 (.seq
 (.ops [
 (sP 2 .mov [.c (.int .u16 0)])])
 (.seq
 (.ops [
 (sH 3 (.newl 3 [(.bool false), (.bool false), (.bool false), (.bool false), (.bool false), (.bool false), (.bool false), (.bool false), (.bool false), (.bool false), (.bool false), (.bool false), (.bool false), (.bool false), (.bool false), (.bool false)]) [])])
 (.seq
 (.seq
 (.ops [
 (sP 4 .mov [.c (.int .i64 0)])])
 r03_Of_L0)
 (.seq
 (.seq
 (.ops [
 (sP 5 .mov [.c (.int .i64 0)])])
 r03_Of_L2)
 (.seq
 (.ops [
 (sP 9 .mov [.c (.int .u16 0)])])
 (.seq
 (.seq
 (.ops [
 (sP 10 .mov [.c (.int .i64 15)])])
 r03_Of_L8)
 (.seq
 (.ops [
 (sM 74 9),
 (sM 2 74)])
 (.ret [2]))))))))
def r03_Of_I : FInfo := ⟨(.fz false), 1, r03_Of_C, [.tmp 2]⟩
def r03_Of_A : Ann := ⟨[], [], [(0, [0, 3, 4], [0, 3]), (2, [0, 3, 5], [3]), (4, [0, 3, 5, 6], [0, 3, 5]), (6, [0, 3, 5, 6, 7, 8], [0, 3, 5, 6, 7]), (8, [3, 9, 10], [9])], [(1, [0, 3, 4]), (3, [0, 3, 5]), (5, [0, 3, 5, 6]), (7, [0, 3, 5, 6, 7, 8]), (9, [3, 9, 10])], [3]⟩
abbrev n_r03_Of : Nat := 70

/-! ### balise/crc.Open -/
def crc_Open_C : CCode :=
 (.seq
 (.ops [
 (sP 2 .mov [.c .nils]),
 (sP 3 .mov [.c (.int .i64 0)])])
 (.seq
 (.seq
 (.ops [
 (sM 5 0),
 (sP 6 .len [.t 5]),
 (sP 7 (.bin .lss .ifc) [.t 6, .c (.int .i64 2)])])
 (.cond (.t 7)
 (.seq
 (.ops [
 (sP 2 .mov [.c .nils]),
 (sP 3 .mov [.c (.int .i64 4)])])
 (.ret [2, 3]))
 .skip))
 (.seq
 (.ops [
 (sM 8 0),
 (sM 9 0),
 (sP 10 .len [.t 9]),
 (sP 11 (.bin .sub .ifc) [.t 10, .c (.int .i64 2)]),
 (sP 12 (.slc 1 false true) [.t 8, .t 11]),
 (sC 13 154 [.t 12]),
 (sM 4 13)])
 (.seq
 (.seq
 (.ops [
 (sM 14 4),
 (sC 15 135 [.t 14]),
 (sM 16 0),
 (sC 17 155 [.t 15, .t 16]),
 (sP 18 (.un .not) [.t 17])])
 (.cond (.t 18)
 (.seq
 (.ops [
 (sP 2 .mov [.c .nils]),
 (sP 3 .mov [.c (.int .i64 3)])])
 (.ret [2, 3]))
 .skip))
 (.seq
 (.ops [
 (sM 19 4),
 (sM 2 19),
 (sP 3 .mov [.c (.int .i64 0)])])
 (.ret [2, 3]))))))
def crc_Open_I : FInfo := ⟨(.fz false), 1, crc_Open_C, [.tmp 2, .tmp 3]⟩
def crc_Open_A : Ann := ⟨[], [], [], [], []⟩
abbrev n_crc_Open : Nat := 74

/-! ### balise/bits.NewReader -/
def bits_NewReader_C : CCode :=
 (.seq
 (.ops [
 (sP 2 .mov [.c .nilp])])
 (.seq
 (.ops [
 (sM 3 0),
 (sC 4 154 [.t 3]),
 (sP 5 (.bld [.nils, (.int .i64 0), (.bool false)] [(0, 1)]) [.t 4]),
 (sH 6 .boxh [.t 5]),
 (sM 2 6)])
 (.ret [2])))
def bits_NewReader_I : FInfo := ⟨.ref, 1, bits_NewReader_C, [.tmp 2]⟩
def bits_NewReader_A : Ann := ⟨[6], [], [], [], []⟩
abbrev n_bits_NewReader : Nat := 75

/-! ### balise/layout.list[complex128] -/
def layout_list_complex128_B0 : CCode :=
 (.seq
 (.ops [
 (sP 10 (.bin .lss .ifc) [.t 9, .t 8])])
 (.seq
 (.cond (.t 10)
 .skip
 (.exit 0))
 (.seq
 (.block 1 (some [0, 1, 5, 8, 9])
 (.seq
 (.ops [
 (sM 11 1),
 ⟨(some 12), .call, [.t 11], none⟩,
 (sM 6 12)])
 (.seq
 (.seq
 (.ops [
 (sM 13 0),
 (sC 14 87 [.t 13]),
 (sP 15 (.un .not) [.t 14])])
 (.cond (.t 15)
 (.seq
 (.ops [
 (sP 4 .mov [.c .nils])])
 (.ret [4]))
 .skip))
 (.ops [
 (sM 16 5),
 (sM 17 6),
 (sH 18 (.bslF 1 1 [(.cplx .f64 0 0)] [(0, 1)]) [.t 17]),
 (sH 19 (.app 1 16 [(.cplx .f64 0 0)]) [.t 16, .t 18]),
 (sM 5 19)]))))
 (.ops [
 (sP 20 (.bin .add .ifc) [.t 9, .c (.int .u64 1)]),
 (sM 9 20)]))))
def layout_list_complex128_L0 : CCode := .bloop 0 [0, 1, 5, 8, 9] [5] layout_list_complex128_B0
def layout_list_complex128_C : CCode :=
 (.seq
 (.ops [
 (sP 4 .mov [.c .nils])])
 (.seq
 (.ops [
 (sP 5 .mov [.c .nils])])
 (.seq
 (.seq
 (.ops [
 (sM 7 0),
 (sC 8 81 [.t 7, .c (.int .i64 8)]),
 (sP 9 .mov [.c (.int .u64 0)])])
 layout_list_complex128_L0)
 (.seq
 (.ops [
 (sM 21 5),
 (sM 4 21)])
 (.ret [4])))))
def layout_list_complex128_I : FInfo := ⟨.ref, 2, layout_list_complex128_C, [.tmp 4]⟩
def layout_list_complex128_A : Ann := ⟨[], [], [(0, [0, 1, 5, 8, 9], [5])], [(1, [0, 1, 5, 8, 9])], []⟩
abbrev n_layout_list_complex128 : Nat := 76

/-! ### balise/layout.Decode$1 -/
def layout_Decode_1_C : CCode :=
 (.seq
 (.ops [
 (sP 1 .mov [.c (.cplx .f64 0 0)])])
 (.seq
 (.ops [
 (sH 3 (.load false 1) [.t 0]),
 (sC 4 78 [.t 3]),
 (sM 2 4)])
 (.seq
 (.ops [
 (sM 5 2),
 (sH 6 (.load false 1) [.t 0]),
 (sC 7 78 [.t 6]),
 (sP 8 .cplx [.t 5, .t 7]),
 (sM 1 8)])
 (.ret [1]))))
def layout_Decode_1_I : FInfo := ⟨.ref, 1, layout_Decode_1_C, [.tmp 1]⟩
def layout_Decode_1_A : Ann := ⟨[], [], [], [], []⟩
abbrev n_layout_Decode_1 : Nat := 77

/-! ### balise/layout.coordinate -/
def layout_coordinate_C : CCode :=
 (.seq
 (.ops [
 (sP 2 .mov [.c (.float .f64 0)])])
 (.seq
 (.ops [
 (sM 3 0),
 (sC 4 81 [.t 3, .c (.int .i64 32)]),
 (sP 5 (.toInt .i32) [.t 4]),
 (sP 6 (.toFloat .f64) [.t 5]),
 (sM 2 6)])
 (.ret [2])))
def layout_coordinate_I : FInfo := ⟨.ref, 1, layout_coordinate_C, [.tmp 2]⟩
def layout_coordinate_A : Ann := ⟨[], [], [], [], []⟩
abbrev n_layout_coordinate : Nat := 78

/-! ### balise/layout.list[balise/api.Section] -/
def layout_list_Section_B0 : CCode :=
 (.seq
 (.ops [
 (sP 10 (.bin .lss .ifc) [.t 9, .t 8])])
 (.seq
 (.cond (.t 10)
 .skip
 (.exit 0))
 (.seq
 (.block 1 (some [0, 1, 5, 8, 9])
 (.seq
 (.ops [
 (sM 11 1),
 ⟨(some 12), .call, [.t 11], none⟩,
 (sH 6 (.newl 6 [(.int .i64 0), (.int .i64 0), (.int .i64 0)]) []),
 (sHn (.store 3) [.t 6, .t 12])])
 (.seq
 (.seq
 (.ops [
 (sM 13 0),
 (sC 14 87 [.t 13]),
 (sP 15 (.un .not) [.t 14])])
 (.cond (.t 15)
 (.seq
 (.ops [
 (sP 4 .mov [.c .nils])])
 (.ret [4]))
 .skip))
 (.ops [
 (sM 16 5),
 (sH 17 (.load true 3) [.t 6]),
 (sH 18 (.bslF 3 1 [(.int .i64 0), (.int .i64 0), (.int .i64 0)] [(0, 3)]) [.t 17]),
 (sH 19 (.app 3 24 [(.int .i64 0), (.int .i64 0), (.int .i64 0)]) [.t 16, .t 18]),
 (sM 5 19)]))))
 (.ops [
 (sP 20 (.bin .add .ifc) [.t 9, .c (.int .u64 1)]),
 (sM 9 20)]))))
def layout_list_Section_L0 : CCode := .bloop 0 [0, 1, 5, 8, 9] [5] layout_list_Section_B0
def layout_list_Section_C : CCode :=
 (.seq
 (.ops [
 (sP 4 .mov [.c .nils])])
 (.seq
 (.ops [
 (sP 5 .mov [.c .nils])])
 (.seq
 (.seq
 (.ops [
 (sM 7 0),
 (sC 8 81 [.t 7, .c (.int .i64 8)]),
 (sP 9 .mov [.c (.int .u64 0)])])
 layout_list_Section_L0)
 (.seq
 (.ops [
 (sM 21 5),
 (sM 4 21)])
 (.ret [4])))))
def layout_list_Section_I : FInfo := ⟨.ref, 2, layout_list_Section_C, [.tmp 4]⟩
def layout_list_Section_A : Ann := ⟨[], [], [(0, [0, 1, 5, 8, 9], [5])], [(1, [0, 1, 5, 8, 9])], [6]⟩
abbrev n_layout_list_Section : Nat := 79

/-! ### balise/layout.Decode$2 -/
def layout_Decode_2_C : CCode :=
 (.seq
 (.ops [
 (sH 1 (.newl 1 [(.int .i64 0), (.int .i64 0), (.int .i64 0)]) [])])
 (.seq
 (.ops [
 (sB 2 (.load false 1) [.t 0]),
 (sCk 1 3 81 [.t 2, .c (.int .i64 16), .t 0]),
 (sP 4 (.toInt .i64) [.t 3]),
 (sB 5 (.load false 1) [.t 0]),
 (sCk 1 6 82 [.t 5, .t 0]),
 (sB 7 (.load false 1) [.t 0]),
 (sCk 1 8 82 [.t 7, .t 0]),
 (sP 9 (.bld [(.int .i64 0), (.int .i64 0), (.int .i64 0)] [(0, 1), (1, 1), (2, 1)]) [.t 4, .t 6, .t 8]),
 (sLn 1 (.store 3) [.t 1, .t 9])])
 (.ret [1])))
def layout_Decode_2_I : FInfo := ⟨.ref, 1, layout_Decode_2_C, [.cell 1 true 3]⟩
def layout_Decode_2_A : Ann := ⟨[], [2000000], [], [], [1]⟩
abbrev n_layout_Decode_2 : Nat := 80

/-! ### (*balise/bits.Reader).Get -/
def bits_Reader_Get_B0 : CCode :=
 (.seq
 (.ops [
 (sP 19 (.bin .lss .ifc) [.t 18, .t 17])])
 (.seq
 (.cond (.t 19)
 .skip
 (.exit 0))
 (.seq
 (.block 1 (some [0, 5, 17, 18])
 (.seq
 (.ops [
 (sM 20 5),
 (sP 21 (.bin .shl .ifc) [.t 20, .c (.int .u64 1)]),
 (sM 22 0),
 (sP 23 .nchk [.t 22]),
 (sP 24 (.faddr 0) [.t 23]),
 (sH 25 (.load false 1) [.t 24]),
 (sM 26 0),
 (sP 27 .nchk [.t 26]),
 (sP 28 (.faddr 1) [.t 27]),
 (sH 29 (.load false 1) [.t 28]),
 (sP 30 (.bin .quo .ifc) [.t 29, .c (.int .i64 8)]),
 (sP 31 (.iaddr 1) [.t 25, .t 30]),
 (sH 32 (.load false 1) [.t 31]),
 (sM 33 0),
 (sP 34 .nchk [.t 33]),
 (sP 35 (.faddr 1) [.t 34]),
 (sH 36 (.load false 1) [.t 35]),
 (sP 37 (.bin .rem .ifc) [.t 36, .c (.int .i64 8)]),
 (sP 38 (.bin .sub .ifc) [.c (.int .i64 7), .t 37]),
 (sP 39 (.bin .shr .ifc) [.t 32, .t 38]),
 (sP 40 (.bin .and .ifc) [.t 39, .c (.int .u8 1)]),
 (sP 41 (.toInt .u64) [.t 40]),
 (sP 42 (.bin .or .ifc) [.t 21, .t 41]),
 (sM 5 42)])
 (.ops [
 (sM 43 0),
 (sP 44 .nchk [.t 43]),
 (sP 45 (.faddr 1) [.t 44]),
 (sH 46 (.load false 1) [.t 45]),
 (sP 47 (.bin .add .ifc) [.t 46, .c (.int .i64 1)]),
 (sP 48 .nchk [.t 43]),
 (sP 49 (.faddr 1) [.t 48]),
 (sHn (.store 1) [.t 49, .t 47])])))
 (.ops [
 (sP 50 (.bin .add .ifc) [.t 18, .c (.int .i64 1)]),
 (sM 18 50)]))))
def bits_Reader_Get_L0 : CCode := .bloop 0 [0, 5, 17, 18] [5] bits_Reader_Get_B0
def bits_Reader_Get_C : CCode :=
 (.seq
 (.ops [
 (sP 4 .mov [.c (.int .u64 0)])])
 (.seq
 (.ops [
 (sM 6 1),
 (sC 7 156 [.t 6]),
 (sM 1 7)])
 (.seq
 (.seq
 (.ops [
 (sM 8 1),
 (sM 9 0),
 (sC 10 88 [.t 9]),
 (sP 11 (.bin .gtr .ifc) [.t 8, .t 10])])
 (.cond (.t 11)
 (.seq
 (.seq
 (.ops [
 (sM 12 0),
 (sP 13 (.bin .neq .ptr) [.t 12, .c .nilp])])
 (.cond (.t 13)
 (.ops [
 (sM 14 0),
 (sP 15 .nchk [.t 14]),
 (sP 16 (.faddr 2) [.t 15]),
 (sHn (.store 1) [.t 16, .c (.bool true)])])
 .skip))
 (.seq
 (.ops [
 (sP 4 .mov [.c (.int .u64 0)])])
 (.ret [4])))
 .skip))
 (.seq
 (.ops [
 (sP 5 .mov [.c (.int .u64 0)])])
 (.seq
 (.seq
 (.ops [
 (sM 17 1),
 (sP 18 .mov [.c (.int .i64 0)])])
 bits_Reader_Get_L0)
 (.seq
 (.ops [
 (sM 51 5),
 (sM 4 51)])
 (.ret [4])))))))
def bits_Reader_Get_I : FInfo := ⟨.ref, 2, bits_Reader_Get_C, [.tmp 4]⟩
def bits_Reader_Get_A : Ann := ⟨[], [], [(0, [0, 5, 17, 18], [5])], [(1, [0, 5, 17, 18])], []⟩
abbrev n_bits_Reader_Get : Nat := 81

/-! ### balise/layout.tiny -/
def layout_tiny_C : CCode :=
 (.seq
 (.ops [
 (sP 2 .mov [.c (.int .i64 0)])])
 (.seq
 (.ops [
 (sM 3 0),
 (sC 4 81 [.t 3, .c (.int .i64 8)]),
 (sP 5 (.toInt .i64) [.t 4]),
 (sM 2 5)])
 (.ret [2])))
def layout_tiny_I : FInfo := ⟨.ref, 1, layout_tiny_C, [.tmp 2]⟩
def layout_tiny_A : Ann := ⟨[], [], [], [], []⟩
abbrev n_layout_tiny : Nat := 82

/-! ### balise/layout.nested -/
def layout_nested_C : CCode :=
 (.seq
 (.ops [
 (sH 1 .boxh [.t 0]),
 (sP 2 .mov [.c .nils])])
 (.seq
 (.ops [
 (sH 3 (.load false 1) [.t 1]),
 (sP 4 (.mkfn (.func 158) 0) [.t 1]),
 (sC 5 157 [.t 3, .t 4]),
 (sM 2 5)])
 (.ret [2])))
def layout_nested_I : FInfo := ⟨.ref, 1, layout_nested_C, [.tmp 2]⟩
def layout_nested_A : Ann := ⟨[1], [], [], [], []⟩
abbrev n_layout_nested : Nat := 83

/-! ### balise/layout.list[balise/api.Point] -/
def layout_list_Point_B0 : CCode :=
 (.seq
 (.ops [
 (sP 10 (.bin .lss .ifc) [.t 9, .t 8])])
 (.seq
 (.cond (.t 10)
 .skip
 (.exit 0))
 (.seq
 (.block 1 (some [0, 1, 5, 8, 9])
 (.seq
 (.ops [
 (sM 11 1),
 ⟨(some 12), .call, [.t 11], none⟩,
 (sH 6 (.newl 6 [(.int .i64 0), (.int .i64 0), (.int .i64 0), (.int .i64 0)]) []),
 (sHn (.store 4) [.t 6, .t 12])])
 (.seq
 (.seq
 (.ops [
 (sM 13 0),
 (sC 14 87 [.t 13]),
 (sP 15 (.un .not) [.t 14])])
 (.cond (.t 15)
 (.seq
 (.ops [
 (sP 4 .mov [.c .nils])])
 (.ret [4]))
 .skip))
 (.ops [
 (sM 16 5),
 (sH 17 (.load true 4) [.t 6]),
 (sH 18 (.bslF 4 1 [(.int .i64 0), (.int .i64 0), (.int .i64 0), (.int .i64 0)] [(0, 4)]) [.t 17]),
 (sH 19 (.app 4 32 [(.int .i64 0), (.int .i64 0), (.int .i64 0), (.int .i64 0)]) [.t 16, .t 18]),
 (sM 5 19)]))))
 (.ops [
 (sP 20 (.bin .add .ifc) [.t 9, .c (.int .u64 1)]),
 (sM 9 20)]))))
def layout_list_Point_L0 : CCode := .bloop 0 [0, 1, 5, 8, 9] [5] layout_list_Point_B0
def layout_list_Point_C : CCode :=
 (.seq
 (.ops [
 (sP 4 .mov [.c .nils])])
 (.seq
 (.ops [
 (sP 5 .mov [.c .nils])])
 (.seq
 (.seq
 (.ops [
 (sM 7 0),
 (sC 8 81 [.t 7, .c (.int .i64 8)]),
 (sP 9 .mov [.c (.int .u64 0)])])
 layout_list_Point_L0)
 (.seq
 (.ops [
 (sM 21 5),
 (sM 4 21)])
 (.ret [4])))))
def layout_list_Point_I : FInfo := ⟨.ref, 2, layout_list_Point_C, [.tmp 4]⟩
def layout_list_Point_A : Ann := ⟨[], [], [(0, [0, 1, 5, 8, 9], [5])], [(1, [0, 1, 5, 8, 9])], [6]⟩
abbrev n_layout_list_Point : Nat := 84

/-! ### balise/layout.ticks -/
def layout_ticks_C : CCode :=
 (.seq
 (.ops [
 (sP 2 .mov [.c (.int .i64 0)])])
 (.seq
 (.ops [
 (sM 3 0),
 (sC 4 81 [.t 3, .c (.int .i64 16)]),
 (sP 5 (.toInt .i64) [.t 4]),
 (sM 2 5)])
 (.ret [2])))
def layout_ticks_I : FInfo := ⟨.ref, 1, layout_ticks_C, [.tmp 2]⟩
def layout_ticks_A : Ann := ⟨[], [], [], [], []⟩
abbrev n_layout_ticks : Nat := 86

/-! ### (*balise/bits.Reader).OK -/
def bits_Reader_OK_C : CCode :=
 (.seq
 (.ops [
 (sP 2 .mov [.c (.bool false)])])
 (.seq
 (.ops [
 (sM 3 0),
 (sP 4 (.bin .neq .ptr) [.t 3, .c .nilp]),
 (sM 5 4),
 (sG (sM 6 0) 5 true),
 (sG (sP 7 .nchk [.t 6]) 5 true),
 (sG (sP 8 (.faddr 2) [.t 7]) 5 true),
 (sG (sH 9 (.load false 1) [.t 8]) 5 true),
 (sG (sP 10 (.un .not) [.t 9]) 5 true),
 (sP 11 .pick [.t 5, .t 10, .c (.bool false)]),
 (sM 2 11)])
 (.ret [2])))
def bits_Reader_OK_I : FInfo := ⟨.ref, 1, bits_Reader_OK_C, [.tmp 2]⟩
def bits_Reader_OK_A : Ann := ⟨[], [], [], [], []⟩
abbrev n_bits_Reader_OK : Nat := 87

/-! ### (*balise/bits.Reader).Left -/
def bits_Reader_Left_C : CCode :=
 (.seq
 (.ops [
 (sP 2 .mov [.c (.int .i64 0)])])
 (.seq
 (.seq
 (.ops [
 (sM 3 0),
 (sC 4 87 [.t 3]),
 (sP 5 (.un .not) [.t 4])])
 (.cond (.t 5)
 (.seq
 (.ops [
 (sP 2 .mov [.c (.int .i64 0)])])
 (.ret [2]))
 .skip))
 (.seq
 (.ops [
 (sM 6 0),
 (sP 7 .nchk [.t 6]),
 (sP 8 (.faddr 0) [.t 7]),
 (sH 9 (.load false 1) [.t 8]),
 (sP 10 .len [.t 9]),
 (sP 11 (.bin .mul .ifc) [.t 10, .c (.int .i64 8)]),
 (sM 12 0),
 (sP 13 .nchk [.t 12]),
 (sP 14 (.faddr 1) [.t 13]),
 (sH 15 (.load false 1) [.t 14]),
 (sP 16 (.bin .sub .ifc) [.t 11, .t 15]),
 (sM 2 16)])
 (.ret [2]))))
def bits_Reader_Left_I : FInfo := ⟨.ref, 1, bits_Reader_Left_C, [.tmp 2]⟩
def bits_Reader_Left_A : Ann := ⟨[], [], [], [], []⟩
abbrev n_bits_Reader_Left : Nat := 88

/-! ### balise/verify.First -/
def verify_First_B2 : CCode :=
 (.seq
 (.ops [
 (sP 25 (.bin .lss .ifc) [.t 24, .t 23])])
 (.seq
 (.cond (.t 25)
 .skip
 (.exit 2))
 (.seq
 (.block 3 (some [5, 15, 16, 17, 22, 23, 24])
 (.seq
 (.ops [
 (sP 26 (.iaddr 2) [.t 22, .t 24]),
 (sH 27 (.load true 2) [.t 26]),
 (sH 8 (.newl 8 [(.int .i64 0), .nilf]) []),
 (sHn (.store 2) [.t 8, .t 27])])
 (.seq
 (.ops [
 (sH 28 (.load true 2) [.t 8]),
 (sC 29 162 [.t 28]),
 (sM 9 29)])
 (.seq
 (.ops [
 (sM 30 9),
 (sP 31 (.bin .geq .ifc) [.t 30, .c (.int .i64 0)])])
 (.cond (.t 31)
 (.seq
 (.ops [
 (sM 32 5),
 (sP 33 (.bin .add .ifc) [.t 32, .c (.int .i64 1)]),
 (sM 34 9),
 (sM 2 33),
 (sM 3 34)])
 (.ret [2, 3]))
 .skip)))))
 (.ops [
 (sP 35 (.bin .add .ifc) [.t 24, .c (.int .i64 1)]),
 (sM 24 35)]))))
def verify_First_L2 : CCode := .bloop 2 [5, 15, 16, 17, 22, 23, 24] [15, 16, 17] verify_First_B2

def verify_First_B0 : CCode :=
 (.seq
 (.ops [
 (sP 18 (.bin .lss .ifc) [.t 17, .t 16])])
 (.seq
 (.cond (.t 18)
 .skip
 (.exit 0))
 (.seq
 (.block 1 (some [15, 16, 17])
 (.seq
 (.ops [
 (sM 19 17),
 (sP 20 (.iaddr 1) [.t 15, .t 17]),
 (sH 21 (.load false 1) [.t 20]),
 (sM 5 19),
 (sM 6 21)])
 (.seq
 (.ops [
 (sM 22 6),
 (sP 23 .len [.t 22]),
 (sP 24 .mov [.c (.int .i64 0)])])
 verify_First_L2)))
 (.ops [
 (sP 36 (.bin .add .ifc) [.t 17, .c (.int .i64 1)]),
 (sM 17 36)]))))
def verify_First_L0 : CCode := .bloop 0 [15, 16, 17] [] verify_First_B0
def verify_First_C : CCode :=
 (.seq
 (.ops [
 (sH 1 (.box 1) [.t 0]),
 (sP 2 .mov [.c (.int .i64 0)]),
 (sP 3 .mov [.c (.int .i64 0)])])
 (.seq
 (.ops [
 (sL 10 1 (.load true 10) [.t 1]),
 (sL 11 1 (.load true 10) [.t 1]),
 (sCb 12 34 [.t 11]),
 (sP 13 (.bld [.nils, .nils, .nils, .nils, .nils, (.int .i64 0), (.int .i64 0), (.int .i64 0), (.int .i64 0), (.int .i64 0), .nilp] [(0, 10), (10, 1)]) [.t 10, .t 12]),
 (sH 4 (.newl 4 [.nils, .nils, .nils, .nils, .nils, (.int .i64 0), (.int .i64 0), (.int .i64 0), (.int .i64 0), (.int .i64 0), .nilp]) []),
 (sLn 4 (.store 11) [.t 4, .t 13])])
 (.seq
 (.seq
 (.ops [
 (sH 14 (.load true 11) [.t 4]),
 (sC 15 161 [.t 14]),
 (sP 16 .len [.t 15]),
 (sP 17 .mov [.c (.int .i64 0)])])
 verify_First_L0)
 (.seq
 (.ops [
 (sP 2 .mov [.c (.int .i64 0)]),
 (sP 3 .mov [.c (.int .i64 0)])])
 (.ret [2, 3])))))
def verify_First_I : FInfo := ⟨(.fz false), 1, verify_First_C, [.tmp 2, .tmp 3]⟩
def verify_First_A : Ann := ⟨[], [], [(0, [15, 16, 17], []), (2, [5, 15, 16, 17, 22, 23, 24], [15, 16, 17])], [(1, [15, 16, 17]), (3, [5, 15, 16, 17, 22, 23, 24])], [1, 4, 8]⟩
abbrev n_verify_First : Nat := 89

/-! ### slices.Repeat[[]int,int] -/
def slices_Repeat_int_B0 : CCode :=
 (.seq
 (.seq
 (.ops [
 (sM 34 8),
 (sM 35 7),
 (sP 36 .len [.t 35]),
 (sP 37 (.bin .lss .ifc) [.t 34, .t 36])])
 (.cond (.t 37)
 .skip
 (.exit 0)))
 (.block 1 (some [7, 8])
 (.ops [
 (sM 38 8),
 (sM 39 7),
 (sM 40 8),
 (sP 41 (.slc 1 true false) [.t 39, .t 40]),
 (sM 42 7),
 (sM 43 8),
 (sP 44 (.slc 1 false true) [.t 42, .t 43]),
 (sH 45 (.copy 1) [.t 41, .t 44]),
 (sP 46 (.bin .add .ifc) [.t 38, .t 45]),
 (sM 8 46)])))
def slices_Repeat_int_L0 : CCode := .bloop 0 [7, 8] [7] slices_Repeat_int_B0
def slices_Repeat_int_C : CCode :=
 (.seq
 (.ops [
 (sP 4 .mov [.c .nils])])
 (.seq
 (.seq
 (.ops [
 (sM 9 1),
 (sP 10 (.bin .lss .ifc) [.t 9, .c (.int .i64 0)])])
 (.cond (.t 10)
 bad
 .skip))
 (.seq
 (.ops [
 (sM 13 0),
 (sP 14 .len [.t 13]),
 (sP 15 (.toInt .u64) [.t 14]),
 (sM 16 1),
 (sP 17 (.toInt .u64) [.t 16]),
 (sC 18 94 [.t 15, .t 17]),
 (sM 12 18),
 (sP 19 (.ext 0) [.t 12]),
 (sP 20 (.ext 1) [.t 12]),
 (sM 5 19),
 (sM 6 20)])
 (.seq
 (.seq
 (.ops [
 (sM 21 5),
 (sP 22 (.bin .gtr .ifc) [.t 21, .c (.int .u64 0)]),
 (sM 23 22),
 (sG (sM 24 6) 23 false),
 (sG (sP 25 (.bin .gtr .ifc) [.t 24, .c (.int .u64 9223372036854775807)]) 23 false),
 (sP 26 .pick [.t 23, .c (.bool true), .t 25])])
 (.cond (.t 26)
 bad
 .skip))
 (.seq
 (.ops [
 (sM 28 6),
 (sP 29 (.toInt .i64) [.t 28]),
 (sH 30 (.mksl 1 8 [(.int .i64 0)]) [.t 29, .t 29]),
 (sM 7 30)])
 (.seq
 (.ops [
 (sM 31 7),
 (sM 32 0),
 (sH 33 (.copy 1) [.t 31, .t 32]),
 (sM 8 33)])
 (.seq
 slices_Repeat_int_L0
 (.seq
 (.ops [
 (sM 47 7),
 (sM 4 47)])
 (.ret [4])))))))))
def slices_Repeat_int_I : FInfo := ⟨(.fz false), 2, slices_Repeat_int_C, [.tmp 4]⟩
def slices_Repeat_int_A : Ann := ⟨[], [], [(0, [7, 8], [7])], [(1, [7, 8])], []⟩
abbrev n_slices_Repeat_int : Nat := 93

/-! ### math/bits.Mul -/
def math_bits_Mul_C : CCode :=
 (.seq
 (.ops [
 (sP 4 .mov [.c (.int .u64 0)]),
 (sP 5 .mov [.c (.int .u64 0)])])
 (.seq
 (.cond (.c (.bool false))
 (.seq
 (.ops [
 (sM 11 0),
 (sP 12 (.toInt .u32) [.t 11]),
 (sM 13 1),
 (sP 14 (.toInt .u32) [.t 13]),
 (sC 15 166 [.t 12, .t 14]),
 (sM 10 15),
 (sP 16 (.ext 0) [.t 10]),
 (sP 17 (.ext 1) [.t 10]),
 (sM 6 16),
 (sM 7 17)])
 (.seq
 (.ops [
 (sM 18 6),
 (sP 19 (.toInt .u64) [.t 18]),
 (sM 20 7),
 (sP 21 (.toInt .u64) [.t 20]),
 (sM 4 19),
 (sM 5 21)])
 (.ret [4, 5])))
 .skip)
 (.seq
 (.ops [
 (sM 23 0),
 (sM 24 1),
 (sC 25 167 [.t 23, .t 24]),
 (sM 22 25),
 (sP 26 (.ext 0) [.t 22]),
 (sP 27 (.ext 1) [.t 22]),
 (sM 8 26),
 (sM 9 27)])
 (.seq
 (.ops [
 (sM 28 8),
 (sM 29 9),
 (sM 4 28),
 (sM 5 29)])
 (.ret [4, 5])))))
def math_bits_Mul_I : FInfo := ⟨(.fz false), 2, math_bits_Mul_C, [.tmp 4, .tmp 5]⟩
def math_bits_Mul_A : Ann := ⟨[], [], [], [], []⟩
abbrev n_math_bits_Mul : Nat := 94

/-! ### (*balise/detect.Filter).Clear -/
def detect_Filter_Clear_C : CCode :=
 (.seq
 (.ops [
 (sP 4 .mov [.c (.bool false)])])
 (.seq
 (.ops [
 (sM 5 0),
 (sP 6 (.bin .neq .ptr) [.t 5, .c .nilp]),
 (sM 7 6),
 (sG (sM 8 0) 7 true),
 (sG (sM 9 1) 7 true),
 (sG (sCp 10 173 [.t 8, .t 9]) 7 true),
 (sG (sM 11 0) 7 true),
 (sG (sP 12 .nchk [.t 11]) 7 true),
 (sG (sP 13 (.faddr 1) [.t 12]) 7 true),
 (sG (sB 14 (.load false 1) [.t 13]) 7 true),
 (sG (sP 15 (.bin .gtr .ifc) [.t 10, .t 14]) 7 true),
 (sP 16 .pick [.t 7, .t 15, .c (.bool false)]),
 (sM 4 16)])
 (.ret [4])))
def detect_Filter_Clear_I : FInfo := ⟨.ref, 2, detect_Filter_Clear_C, [.tmp 4]⟩
def detect_Filter_Clear_A : Ann := ⟨[], [], [], [], []⟩
abbrev n_detect_Filter_Clear : Nat := 107

/-! ### (*balise/train.Register).those -/
def train_Register_those_B0 : CCode :=
 (.seq
 (.ops [
 (sP 15 (.bin .lss .ifc) [.t 14, .t 13])])
 (.seq
 (.cond (.t 15)
 .skip
 (.exit 0))
 (.seq
 (.block 1 (some [0, 1, 2, 7, 12, 13, 14])
 (.seq
 (.ops [
 (sP 16 (.iaddr 1) [.t 12, .t 14]),
 (sH 17 (.load false 1) [.t 16]),
 (sM 9 17)])
 (.seq
 (.ops [
 (sM 18 0),
 (sP 19 .nchk [.t 18]),
 (sP 20 (.faddr 0) [.t 19]),
 (sH 21 (.load false 1) [.t 20]),
 (sM 22 9),
 (sH 23 (.look 0 .nilp false) [.t 21, .t 22]),
 (sM 10 23)])
 (.seq
 (.ops [
 (sM 24 1),
 (sM 25 10),
 ⟨(some 26), .call, [.t 24, .t 25], none⟩])
 (.cond (.t 26)
 (.seq
 (.ops [
 (sM 27 2),
 (sM 28 10),
 ⟨(some 29), .call, [.t 27, .t 28], none⟩])
 (.ops [
 (sM 30 7),
 (sM 31 9),
 (sH 32 (.bslF 1 1 [(.int .i64 0)] [(0, 1)]) [.t 31]),
 (sH 33 (.app 1 8 [(.int .i64 0)]) [.t 30, .t 32]),
 (sM 7 33)]))
 .skip)))))
 (.ops [
 (sP 34 (.bin .add .ifc) [.t 14, .c (.int .i64 1)]),
 (sM 14 34)]))))
def train_Register_those_L0 : CCode := .bloop 0 [0, 1, 2, 7, 12, 13, 14] [7] train_Register_those_B0
def train_Register_those_C : CCode :=
 (.seq
 (.ops [
 (sP 6 .mov [.c .nils])])
 (.seq
 (.ops [
 (sP 7 .mov [.c .nils])])
 (.seq
 (.seq
 (.ops [
 (sM 11 0),
 (sC 12 65 [.t 11]),
 (sP 13 .len [.t 12]),
 (sP 14 .mov [.c (.int .i64 0)])])
 train_Register_those_L0)
 (.seq
 (.ops [
 (sM 35 7),
 (sM 6 35)])
 (.ret [6])))))
def train_Register_those_I : FInfo := ⟨.ref, 3, train_Register_those_C, [.tmp 6]⟩
def train_Register_those_A : Ann := ⟨[], [], [(0, [0, 1, 2, 7, 12, 13, 14], [7])], [(1, [0, 1, 2, 7, 12, 13, 14])], []⟩
abbrev n_train_Register_those : Nat := 114

/-! ### (*balise/graph.Graph).Part -/
def graph_Graph_Part_C : CCode :=
 (.seq
 (.ops [
 (sH 3 .boxh [.t 1]),
 (sP 4 .mov [.c (.int .i64 0)])])
 (.seq
 (.seq
 (.ops [
 (sM 5 0),
 (sP 6 (.bin .eql .ptr) [.t 5, .c .nilp])])
 (.cond (.t 6)
 (.seq
 (.ops [
 (sP 4 .mov [.c (.int .i64 (-1))])])
 (.ret [4]))
 .skip))
 (.seq
 (.ops [
 (sM 7 0),
 (sP 8 .nchk [.t 7]),
 (sP 9 (.faddr 0) [.t 8]),
 (sP 10 (.faddr 2) [.t 9]),
 (sH 11 (.load false 1) [.t 10]),
 (sP 12 (.mkfn (.func 182) 0) [.t 3]),
 (sC 13 181 [.t 11, .t 12]),
 (sM 4 13)])
 (.ret [4]))))
def graph_Graph_Part_I : FInfo := ⟨(.fz false), 2, graph_Graph_Part_C, [.tmp 4]⟩
def graph_Graph_Part_A : Ann := ⟨[3], [], [], [], []⟩
abbrev n_graph_Graph_Part : Nat := 122

/-! ### balise/state.one -/
def state_one_C : CCode :=
 (.seq
 (.ops [
 (sH 3 .boxh [.t 0]),
 (sP 6 .mov [.c (.int .u8 0)])])
 (.seq
 (.ops [
 (sP 10 (.mkfn (.func 184) 0) [.t 3]),
 (sM 7 10)])
 (.seq
 (.seq
 (.ops [
 (sM 11 1)])
 (.block 0 (some [1, 2, 7])
 (.seq
 (.ops [
 (sP 13 (.bin .eql .int) [.t 11, .c (.int .i64 (-2))]),
 (sM 12 13)])
 (.cond (.t 12)
 (.seq
 (.ops [
 (sP 6 .mov [.c (.int .u8 0)])])
 (.ret [6]))
 (.seq
 (.ops [
 (sP 15 (.bin .eql .int) [.t 11, .c (.int .i64 (-1))]),
 (sM 14 15)])
 (.cond (.t 14)
 (.seq
 (.seq
 (.ops [
 (sM 16 2),
 (sM 17 7),
 (sC 18 185 [.t 16, .t 17])])
 (.cond (.t 18)
 (.seq
 (.ops [
 (sP 6 .mov [.c (.int .u8 2)])])
 (.ret [6]))
 .skip))
 (.seq
 (.ops [
 (sP 6 .mov [.c (.int .u8 3)])])
 (.ret [6])))
 .skip))))))
 (.seq
 (.seq
 (.ops [
 (sM 20 2),
 (sM 21 1),
 (sC 22 66 [.t 20, .t 21]),
 (sM 19 22),
 (sP 23 (.ext 0) [.t 19]),
 (sP 24 (.ext 1) [.t 19]),
 (sH 8 (.newl 8 [(.int .i64 0), (.bool false), .nils]) []),
 (sHn (.store 3) [.t 8, .t 23]),
 (sM 9 24)])
 (.seq
 (.ops [
 (sM 25 7),
 (sH 26 (.load true 3) [.t 8]),
 ⟨(some 27), .call, [.t 25, .t 26], none⟩])
 (.cond (.t 27)
 (.seq
 (.ops [
 (sP 6 .mov [.c (.int .u8 1)])])
 (.ret [6]))
 .skip)))
 (.seq
 (.ops [
 (sP 6 .mov [.c (.int .u8 0)])])
 (.ret [6]))))))
def state_one_I : FInfo := ⟨(.fz false), 3, state_one_C, [.tmp 6]⟩
def state_one_A : Ann := ⟨[3], [], [], [(0, [1, 2, 7])], [8]⟩
abbrev n_state_one : Nat := 123

/-! ### slices.DeleteFunc[[]*balise/route.Lock,*balise/route.Lock] -/
def slices_DeleteFunc_pLock_B0 : CCode :=
 (.seq
 (.seq
 (.ops [
 (sM 16 6),
 (sM 17 0),
 (sP 18 .len [.t 17]),
 (sP 19 (.bin .lss .ifc) [.t 16, .t 18])])
 (.cond (.t 19)
 .skip
 (.exit 0)))
 (.seq
 (.block 1 (some [0, 1, 5, 6])
 (.seq
 (.ops [
 (sM 22 0),
 (sM 23 6),
 (sP 24 (.iaddr 1) [.t 22, .t 23]),
 (sH 25 (.load false 1) [.t 24]),
 (sM 7 25)])
 (.seq
 (.ops [
 (sM 26 1),
 (sM 27 7),
 ⟨(some 28), .call, [.t 26, .t 27], none⟩,
 (sP 29 (.un .not) [.t 28])])
 (.cond (.t 29)
 (.seq
 (.ops [
 (sM 30 0),
 (sM 31 5),
 (sM 32 7),
 (sP 33 (.iaddr 1) [.t 30, .t 31]),
 (sHn (.store 1) [.t 33, .t 32])])
 (.ops [
 (sM 34 5),
 (sP 35 (.bin .add .ifc) [.t 34, .c (.int .i64 1)]),
 (sM 5 35)]))
 .skip))))
 (.ops [
 (sM 20 6),
 (sP 21 (.bin .add .ifc) [.t 20, .c (.int .i64 1)]),
 (sM 6 21)])))
def slices_DeleteFunc_pLock_L0 : CCode := .bloop 0 [0, 1, 5, 6] [0, 5] slices_DeleteFunc_pLock_B0
def slices_DeleteFunc_pLock_C : CCode :=
 (.seq
 (.ops [
 (sP 4 .mov [.c .nils])])
 (.seq
 (.ops [
 (sM 8 0),
 (sM 9 1),
 (sC 10 200 [.t 8, .t 9]),
 (sM 5 10)])
 (.seq
 (.seq
 (.ops [
 (sM 11 5),
 (sP 12 (.bin .eql .int) [.t 11, .c (.int .i64 (-1))])])
 (.cond (.t 12)
 (.seq
 (.ops [
 (sM 13 0),
 (sM 4 13)])
 (.ret [4]))
 .skip))
 (.seq
 (.seq
 (.ops [
 (sM 14 5),
 (sP 15 (.bin .add .ifc) [.t 14, .c (.int .i64 1)]),
 (sM 6 15)])
 slices_DeleteFunc_pLock_L0)
 (.seq
 (.ops [
 (sM 36 0),
 (sM 37 5),
 (sP 38 (.slc 1 true false) [.t 36, .t 37]),
 (sHn (.clear 1 [.nilp]) [.t 38])])
 (.seq
 (.ops [
 (sM 39 0),
 (sM 40 5),
 (sP 41 (.slc 1 false true) [.t 39, .t 40]),
 (sM 4 41)])
 (.ret [4])))))))
def slices_DeleteFunc_pLock_I : FInfo := ⟨.ref, 2, slices_DeleteFunc_pLock_C, [.tmp 4]⟩
def slices_DeleteFunc_pLock_A : Ann := ⟨[], [], [(0, [0, 1, 5, 6], [0, 5])], [(1, [0, 1, 5, 6])], []⟩
abbrev n_slices_DeleteFunc_pLock : Nat := 127

/-! ### balise/state.Kind -/
def state_Kind_C : CCode :=
 (.seq
 (.ops [
 (sP 4 .mov [.c (.int .u8 0)])])
 (.seq
 (.seq
 (.ops [
 (sM 5 0),
 (sP 6 (.bin .gtr .ifc) [.t 5, .c (.int .u8 3)]),
 (sM 7 6),
 (sG (sM 8 1) 7 false),
 (sG (sP 9 (.bin .gtr .ifc) [.t 8, .c (.int .u8 3)]) 7 false),
 (sP 10 .pick [.t 7, .c (.bool true), .t 9])])
 (.cond (.t 10)
 (.seq
 (.ops [
 (sP 4 .mov [.c (.int .u8 0)])])
 (.ret [4]))
 .skip))
 (.seq
 (.ops [
 (sM 11 0),
 (sM 12 1),
 (sP 13 (.iaddrA 4 4) [.c (.vp [(.int .u8 0), (.int .u8 2), (.int .u8 3), (.int .u8 1), (.int .u8 6), (.int .u8 0), (.int .u8 8), (.int .u8 7), (.int .u8 9), (.int .u8 11), (.int .u8 0), (.int .u8 10), (.int .u8 4), (.int .u8 12), (.int .u8 5), (.int .u8 0)]), .t 11]),
 (sP 14 (.iaddrA 4 1) [.t 13, .t 12]),
 (sH 15 (.load false 1) [.t 14]),
 (sM 4 15)])
 (.ret [4]))))
def state_Kind_I : FInfo := ⟨(.fz false), 2, state_Kind_C, [.tmp 4]⟩
def state_Kind_A : Ann := ⟨[], [], [], [], []⟩
abbrev n_state_Kind : Nat := 132

/-! ### maps.Keys[map[int]*balise/train.Train,int,*balise/train.Train] -/
def maps_Keys_Train_C : CCode :=
 (.seq
 (.ops [
 (sH 1 .boxh [.t 0]),
 (sP 2 .mov [.c .nilf])])
 (.seq
 (.ops [
 (sP 3 (.mkfn (.func 211) 0) [.t 1]),
 (sM 2 3)])
 (.ret [2])))
def maps_Keys_Train_I : FInfo := ⟨.ref, 1, maps_Keys_Train_C, [.tmp 2]⟩
def maps_Keys_Train_A : Ann := ⟨[1], [], [], [], []⟩
abbrev n_maps_Keys_Train : Nat := 138

/-! ### balise/crc.Close -/
def crc_Close_C : CCode :=
 (.seq
 (.ops [
 (sP 2 .mov [.c .nils])])
 (.seq
 (.ops [
 (sM 5 0),
 (sP 6 .len [.t 5]),
 (sM 7 0),
 (sP 8 .len [.t 7]),
 (sP 9 (.bin .add .ifc) [.t 8, .c (.int .i64 2)]),
 (sH 10 (.mksl 1 1 [(.int .u8 0)]) [.t 6, .t 9]),
 (sM 3 10)])
 (.seq
 (.ops [
 (sM 11 3),
 (sM 12 0),
 (sH 13 (.copy 1) [.t 11, .t 12])])
 (.seq
 (.ops [
 (sM 14 0),
 (sC 15 208 [.t 14]),
 (sM 4 15)])
 (.seq
 (.ops [
 (sM 16 3),
 (sM 17 4),
 (sP 18 (.toInt .u8) [.t 17]),
 (sM 19 4),
 (sP 20 (.bin .shr .ifc) [.t 19, .c (.int .u64 8)]),
 (sP 21 (.toInt .u8) [.t 20]),
 (sH 22 (.bslF 1 2 [(.int .u8 0)] [(0, 1), (1, 1)]) [.t 18, .t 21]),
 (sH 23 (.app 1 1 [(.int .u8 0)]) [.t 16, .t 22]),
 (sM 2 23)])
 (.ret [2]))))))
def crc_Close_I : FInfo := ⟨(.fz false), 1, crc_Close_C, [.tmp 2]⟩
def crc_Close_A : Ann := ⟨[], [], [], [], []⟩
abbrev n_crc_Close : Nat := 135

/-! ### bytes.Clone -/
def bytes_Clone_C : CCode :=
 (.seq
 (.ops [
 (sP 2 .mov [.c .nils])])
 (.seq
 (.seq
 (.ops [
 (sM 3 0),
 (sP 4 (.bin .eql .sl) [.t 3, .c .nils])])
 (.cond (.t 4)
 (.seq
 (.ops [
 (sP 2 .mov [.c .nils])])
 (.ret [2]))
 .skip))
 (.seq
 (.ops [
 (sH 5 (.bslO 1 0 [(.int .u8 0)] []) []),
 (sM 6 0),
 (sH 7 (.app 1 1 [(.int .u8 0)]) [.t 5, .t 6]),
 (sM 2 7)])
 (.ret [2]))))
def bytes_Clone_I : FInfo := ⟨.own, 1, bytes_Clone_C, [.tmp 2]⟩
def bytes_Clone_A : Ann := ⟨[], [5], [], [], []⟩
abbrev n_bytes_Clone : Nat := 154

/-! ### bytes.Equal -/
def bytes_Equal_C : CCode :=
 (.seq
 (.ops [
 (sP 4 .mov [.c (.bool false)])])
 (.seq
 (.ops [
 (sM 5 0),
 (sH 6 .bstr [.t 5]),
 (sM 7 1),
 (sH 8 .bstr [.t 7]),
 (sP 9 (.bin .eql .ifc) [.t 6, .t 8]),
 (sM 4 9)])
 (.ret [4])))
def bytes_Equal_I : FInfo := ⟨(.fz false), 2, bytes_Equal_C, [.tmp 4]⟩
def bytes_Equal_A : Ann := ⟨[], [], [], [], []⟩
abbrev n_bytes_Equal : Nat := 155

/-! ### balise/bits.held -/
def bits_held_C : CCode :=
 (.seq
 (.ops [
 (sP 2 .mov [.c (.int .i64 0)])])
 (.seq
 (.ops [
 (sM 3 0),
 (sP 4 .max [.t 3, .c (.int .i64 0)]),
 (sP 5 .min [.t 4, .c (.int .i64 64)]),
 (sM 2 5)])
 (.ret [2])))
def bits_held_I : FInfo := ⟨(.fz false), 1, bits_held_C, [.tmp 2]⟩
def bits_held_A : Ann := ⟨[], [], [], [], []⟩
abbrev n_bits_held : Nat := 156

/-! ### balise/layout.list[[]int] -/
def layout_list_Ints_B0 : CCode :=
 (.seq
 (.ops [
 (sP 10 (.bin .lss .ifc) [.t 9, .t 8])])
 (.seq
 (.cond (.t 10)
 .skip
 (.exit 0))
 (.seq
 (.block 1 (some [0, 1, 5, 8, 9])
 (.seq
 (.ops [
 (sM 11 1),
 ⟨(some 12), .call, [.t 11], none⟩,
 (sM 6 12)])
 (.seq
 (.seq
 (.ops [
 (sM 13 0),
 (sC 14 87 [.t 13]),
 (sP 15 (.un .not) [.t 14])])
 (.cond (.t 15)
 (.seq
 (.ops [
 (sP 4 .mov [.c .nils])])
 (.ret [4]))
 .skip))
 (.ops [
 (sM 16 5),
 (sM 17 6),
 (sH 18 (.bslO 1 1 [.nils] [(0, 1)]) [.t 17]),
 (sH 19 (.app 1 24 [.nils]) [.t 16, .t 18]),
 (sM 5 19)]))))
 (.ops [
 (sP 20 (.bin .add .ifc) [.t 9, .c (.int .u64 1)]),
 (sM 9 20)]))))
def layout_list_Ints_L0 : CCode := .bloop 0 [0, 1, 5, 8, 9] [5] layout_list_Ints_B0
def layout_list_Ints_C : CCode :=
 (.seq
 (.ops [
 (sP 4 .mov [.c .nils])])
 (.seq
 (.ops [
 (sP 5 .mov [.c .nils])])
 (.seq
 (.seq
 (.ops [
 (sM 7 0),
 (sC 8 81 [.t 7, .c (.int .i64 8)]),
 (sP 9 .mov [.c (.int .u64 0)])])
 layout_list_Ints_L0)
 (.seq
 (.ops [
 (sM 21 5),
 (sM 4 21)])
 (.ret [4])))))
def layout_list_Ints_I : FInfo := ⟨.ref, 2, layout_list_Ints_C, [.tmp 4]⟩
def layout_list_Ints_A : Ann := ⟨[], [18], [(0, [0, 1, 5, 8, 9], [5])], [(1, [0, 1, 5, 8, 9])], []⟩
abbrev n_layout_list_Ints : Nat := 157

/-! ### balise/layout.nested$1 -/
def layout_nested_1_C : CCode :=
 (.seq
 (.ops [
 (sP 1 .mov [.c .nils])])
 (.seq
 (.ops [
 (sH 2 (.load false 1) [.t 0]),
 (sP 3 (.mkfn (.func 160) 0) [.t 0]),
 (sC 4 159 [.t 2, .t 3]),
 (sM 1 4)])
 (.ret [1])))
def layout_nested_1_I : FInfo := ⟨.ref, 1, layout_nested_1_C, [.tmp 1]⟩
def layout_nested_1_A : Ann := ⟨[], [], [], [], []⟩
abbrev n_layout_nested_1 : Nat := 158

/-! ### balise/layout.list[int] -/
def layout_list_int_B0 : CCode :=
 (.seq
 (.ops [
 (sP 10 (.bin .lss .ifc) [.t 9, .t 8])])
 (.seq
 (.cond (.t 10)
 .skip
 (.exit 0))
 (.seq
 (.block 1 (some [0, 1, 5, 8, 9])
 (.seq
 (.ops [
 (sM 11 1),
 ⟨(some 12), .call, [.t 11], none⟩,
 (sM 6 12)])
 (.seq
 (.seq
 (.ops [
 (sM 13 0),
 (sC 14 87 [.t 13]),
 (sP 15 (.un .not) [.t 14])])
 (.cond (.t 15)
 (.seq
 (.ops [
 (sP 4 .mov [.c .nils])])
 (.ret [4]))
 .skip))
 (.ops [
 (sM 16 5),
 (sM 17 6),
 (sH 18 (.bslF 1 1 [(.int .i64 0)] [(0, 1)]) [.t 17]),
 (sH 19 (.app 1 8 [(.int .i64 0)]) [.t 16, .t 18]),
 (sM 5 19)]))))
 (.ops [
 (sP 20 (.bin .add .ifc) [.t 9, .c (.int .u64 1)]),
 (sM 9 20)]))))
def layout_list_int_L0 : CCode := .bloop 0 [0, 1, 5, 8, 9] [5] layout_list_int_B0
def layout_list_int_C : CCode :=
 (.seq
 (.ops [
 (sP 4 .mov [.c .nils])])
 (.seq
 (.ops [
 (sP 5 .mov [.c .nils])])
 (.seq
 (.seq
 (.ops [
 (sM 7 0),
 (sC 8 81 [.t 7, .c (.int .i64 8)]),
 (sP 9 .mov [.c (.int .u64 0)])])
 layout_list_int_L0)
 (.seq
 (.ops [
 (sM 21 5),
 (sM 4 21)])
 (.ret [4])))))
def layout_list_int_I : FInfo := ⟨.ref, 2, layout_list_int_C, [.tmp 4]⟩
def layout_list_int_A : Ann := ⟨[], [], [(0, [0, 1, 5, 8, 9], [5])], [(1, [0, 1, 5, 8, 9])], []⟩
abbrev n_layout_list_int : Nat := 159

/-! ### balise/layout.nested$1$1 -/
def layout_nested_1_1_C : CCode :=
 (.seq
 (.ops [
 (sP 1 .mov [.c (.int .i64 0)])])
 (.seq
 (.ops [
 (sH 2 (.load false 1) [.t 0]),
 (sC 3 82 [.t 2]),
 (sM 1 3)])
 (.ret [1])))
def layout_nested_1_1_I : FInfo := ⟨.ref, 1, layout_nested_1_1_C, [.tmp 1]⟩
def layout_nested_1_1_A : Ann := ⟨[], [], [], [], []⟩
abbrev n_layout_nested_1_1 : Nat := 160

/-! ### (balise/verify.judge).rules -/
def verify_judge_rules_C : CCode :=
 (.seq
 (.seq
 (.ops [
 (sH 1 .boxh [.t 0]),
 (sP 2 .mov [.c .nils])])
 (.frz 1))
 (.seq
 (.seq
 (.ops [
 (sP 5 (.faddr 0) [.t 1]),
 (sH 6 (.load true 10) [.t 5]),
 (sH 3 (.newh [.nils, .nils, .nils, .nils, .nils, (.int .i64 0), (.int .i64 0), (.int .i64 0), (.int .i64 0), (.int .i64 0)]) []),
 (sHn (.store 10) [.t 3, .t 6])])
 (.frz 3))
 (.seq
 (.ops [
 (sP 7 (.mkfn (.func 216) 0) [.t 3]),
 (sM 4 7)])
 (.seq
 (.ops [
 (sP 8 (.faddr 0) [.t 3]),
 (sH 9 (.load false 1) [.t 8]),
 (sP 10 .len [.t 9]),
 (sC 11 220 [.t 10, .c (.int .i64 2), .c (.int .i64 40)]),
 (sC 12 219 [.t 11]),
 (sH 13 (.bslF 2 1 [(.int .i64 0), .nilf] [(0, 2)]) [.t 12]),
 (sP 14 (.faddr 0) [.t 3]),
 (sH 15 (.load false 1) [.t 14]),
 (sP 16 .len [.t 15]),
 (sM 17 4),
 (sP 18 (.bld [(.int .i64 0), .nilf] [(0, 1), (1, 1)]) [.t 16, .t 17]),
 (sH 19 (.bslF 2 1 [(.int .i64 0), .nilf] [(0, 2)]) [.t 18]),
 (sP 20 (.faddr 1) [.t 3]),
 (sH 21 (.load false 1) [.t 20]),
 (sP 22 .len [.t 21]),
 (sC 23 220 [.t 22, .c (.int .i64 1), .c (.int .i64 32)]),
 (sC 24 219 [.t 23]),
 (sH 25 (.bslF 2 1 [(.int .i64 0), .nilf] [(0, 2)]) [.t 24]),
 (sP 26 (.faddr 1) [.t 3]),
 (sH 27 (.load false 1) [.t 26]),
 (sP 28 .len [.t 27]),
 (sH 29 (.load true 11) [.t 1]),
 (sP 30 (.mkfn (.func 221) 1) [.t 29]),
 (sP 31 (.bld [(.int .i64 0), .nilf] [(0, 1), (1, 1)]) [.t 28, .t 30]),
 (sH 32 (.bslF 2 1 [(.int .i64 0), .nilf] [(0, 2)]) [.t 31]),
 (sP 33 (.faddr 5) [.t 3]),
 (sH 34 (.load false 1) [.t 33]),
 (sC 35 220 [.t 34, .c (.int .i64 1), .c (.int .i64 10000)]),
 (sC 36 219 [.t 35]),
 (sH 37 (.bslF 2 1 [(.int .i64 0), .nilf] [(0, 2)]) [.t 36]),
 (sP 38 (.faddr 1) [.t 3]),
 (sH 39 (.load false 1) [.t 38]),
 (sP 40 .len [.t 39]),
 (sP 41 (.mkfn (.func 222) 0) [.t 3]),
 (sP 42 (.bld [(.int .i64 0), .nilf] [(0, 1), (1, 1)]) [.t 40, .t 41]),
 (sH 43 (.bslF 2 1 [(.int .i64 0), .nilf] [(0, 2)]) [.t 42]),
 (sH 44 (.load true 11) [.t 1]),
 (sC 45 223 [.t 44]),
 (sC 46 219 [.t 45]),
 (sH 47 (.bslF 2 1 [(.int .i64 0), .nilf] [(0, 2)]) [.t 46]),
 (sP 48 (.faddr 0) [.t 3]),
 (sH 49 (.load false 1) [.t 48]),
 (sP 50 .len [.t 49]),
 (sP 51 (.mkfn (.func 224) 0) [.t 1]),
 (sP 52 (.bld [(.int .i64 0), .nilf] [(0, 1), (1, 1)]) [.t 50, .t 51]),
 (sH 53 (.bslF 2 1 [(.int .i64 0), .nilf] [(0, 2)]) [.t 52]),
 (sP 54 (.faddr 3) [.t 3]),
 (sH 55 (.load false 1) [.t 54]),
 (sP 56 .len [.t 55]),
 (sP 57 (.bin .leq .ifc) [.t 56, .c (.int .i64 8)]),
 (sC 58 219 [.t 57]),
 (sH 59 (.bslF 2 1 [(.int .i64 0), .nilf] [(0, 2)]) [.t 58]),
 (sP 60 (.faddr 3) [.t 3]),
 (sH 61 (.load false 1) [.t 60]),
 (sP 62 .len [.t 61]),
 (sH 63 (.load true 11) [.t 1]),
 (sP 64 (.mkfn (.func 226) 1) [.t 63]),
 (sP 65 (.bld [(.int .i64 0), .nilf] [(0, 1), (1, 1)]) [.t 62, .t 64]),
 (sH 66 (.bslF 2 1 [(.int .i64 0), .nilf] [(0, 2)]) [.t 65]),
 (sP 67 (.faddr 0) [.t 3]),
 (sH 68 (.load false 1) [.t 67]),
 (sP 69 .len [.t 68]),
 (sH 70 (.load true 11) [.t 1]),
 (sP 71 (.mkfn (.func 227) 1) [.t 70]),
 (sP 72 (.bld [(.int .i64 0), .nilf] [(0, 1), (1, 1)]) [.t 69, .t 71]),
 (sH 73 (.bslF 2 1 [(.int .i64 0), .nilf] [(0, 2)]) [.t 72]),
 (sP 74 (.faddr 0) [.t 3]),
 (sH 75 (.load false 1) [.t 74]),
 (sP 76 .len [.t 75]),
 (sH 77 (.load true 11) [.t 1]),
 (sP 78 (.mkfn (.func 228) 1) [.t 77]),
 (sP 79 (.bld [(.int .i64 0), .nilf] [(0, 1), (1, 1)]) [.t 76, .t 78]),
 (sH 80 (.bslF 2 1 [(.int .i64 0), .nilf] [(0, 2)]) [.t 79]),
 (sP 81 (.faddr 2) [.t 3]),
 (sH 82 (.load false 1) [.t 81]),
 (sP 83 .len [.t 82]),
 (sC 84 220 [.t 83, .c (.int .i64 1), .c (.int .i64 16)]),
 (sC 85 219 [.t 84]),
 (sP 86 (.faddr 2) [.t 3]),
 (sH 87 (.load false 1) [.t 86]),
 (sP 88 .len [.t 87]),
 (sH 89 (.load true 11) [.t 1]),
 (sP 90 (.mkfn (.func 229) 1) [.t 89]),
 (sP 91 (.bld [(.int .i64 0), .nilf] [(0, 1), (1, 1)]) [.t 88, .t 90]),
 (sH 92 (.bslF 2 2 [(.int .i64 0), .nilf] [(0, 2), (2, 2)]) [.t 85, .t 91]),
 (sP 93 (.faddr 1) [.t 3]),
 (sH 94 (.load false 1) [.t 93]),
 (sP 95 .len [.t 94]),
 (sH 96 (.load true 11) [.t 1]),
 (sP 97 (.mkfn (.func 230) 1) [.t 96]),
 (sP 98 (.bld [(.int .i64 0), .nilf] [(0, 1), (1, 1)]) [.t 95, .t 97]),
 (sH 99 (.bslF 2 1 [(.int .i64 0), .nilf] [(0, 2)]) [.t 98]),
 (sP 100 (.faddr 4) [.t 3]),
 (sH 101 (.load false 1) [.t 100]),
 (sP 102 .len [.t 101]),
 (sP 103 (.bin .leq .ifc) [.t 102, .c (.int .i64 16)]),
 (sC 104 219 [.t 103]),
 (sP 105 (.faddr 4) [.t 3]),
 (sH 106 (.load false 1) [.t 105]),
 (sP 107 .len [.t 106]),
 (sH 108 (.load true 11) [.t 1]),
 (sP 109 (.mkfn (.func 231) 1) [.t 108]),
 (sP 110 (.bld [(.int .i64 0), .nilf] [(0, 1), (1, 1)]) [.t 107, .t 109]),
 (sH 111 (.bslF 2 2 [(.int .i64 0), .nilf] [(0, 2), (2, 2)]) [.t 104, .t 110]),
 (sH 112 (.bslF 1 15 [.nils] [(0, 1), (1, 1), (2, 1), (3, 1), (4, 1), (5, 1), (6, 1), (7, 1), (8, 1), (9, 1), (10, 1), (11, 1), (12, 1), (13, 1), (14, 1)]) [.t 13, .t 19, .t 25, .t 32, .t 37, .t 43, .t 47, .t 53, .t 59, .t 66, .t 73, .t 80, .t 92, .t 99, .t 111]),
 (sM 2 112)])
 (.ret [2])))))
def verify_judge_rules_I : FInfo := ⟨(.fz false), 1, verify_judge_rules_C, [.tmp 2]⟩
def verify_judge_rules_A : Ann := ⟨[1, 3], [1000001, 1000003], [], [], []⟩
abbrev n_verify_judge_rules : Nat := 161

/-! ### (balise/verify.rule).broken -/
def verify_rule_broken_B0 : CCode :=
 (.seq
 (.ops [
 (sP 7 (.bin .lss .ifc) [.t 6, .t 5])])
 (.seq
 (.cond (.t 7)
 .skip
 (.exit 0))
 (.seq
 (.block 1 (some [1, 5, 6])
 (.seq
 (.ops [
 (sM 8 6),
 (sM 3 8)])
 (.seq
 (.ops [
 (sP 9 (.faddr 1) [.t 1]),
 (sH 10 (.load false 1) [.t 9]),
 (sM 11 3),
 ⟨(some 12), .call, [.t 10, .t 11], none⟩,
 (sP 13 (.un .not) [.t 12])])
 (.cond (.t 13)
 (.seq
 (.ops [
 (sM 14 3),
 (sM 2 14)])
 (.ret [2]))
 .skip))))
 (.ops [
 (sP 15 (.bin .add .ifc) [.t 6, .c (.int .i64 1)]),
 (sM 6 15)]))))
def verify_rule_broken_L0 : CCode := .bloop 0 [1, 5, 6] [] verify_rule_broken_B0
def verify_rule_broken_C : CCode :=
 (.seq
 (.ops [
 (sH 1 (.box 1) [.t 0]),
 (sP 2 .mov [.c (.int .i64 0)])])
 (.seq
 (.seq
 (.ops [
 (sP 4 (.faddr 0) [.t 1]),
 (sH 5 (.load false 1) [.t 4]),
 (sP 6 .mov [.c (.int .i64 0)])])
 verify_rule_broken_L0)
 (.seq
 (.ops [
 (sP 2 .mov [.c (.int .i64 (-1))])])
 (.ret [2]))))
def verify_rule_broken_I : FInfo := ⟨(.fz false), 1, verify_rule_broken_C, [.tmp 2]⟩
def verify_rule_broken_A : Ann := ⟨[], [], [(0, [1, 5, 6], [])], [(1, [1, 5, 6])], [1]⟩
abbrev n_verify_rule_broken : Nat := 162

/-! ### math/bits.Mul64 -/
def math_bits_Mul64_C : CCode :=
 (.seq
 (.ops [
 (sP 4 .mov [.c (.int .u64 0)]),
 (sP 5 .mov [.c (.int .u64 0)])])
 (.seq
 (.ops [
 (sM 14 0),
 (sP 15 (.bin .and .ifc) [.t 14, .c (.int .u64 4294967295)]),
 (sM 6 15)])
 (.seq
 (.ops [
 (sM 16 0),
 (sP 17 (.bin .shr .ifc) [.t 16, .c (.int .u64 32)]),
 (sM 7 17)])
 (.seq
 (.ops [
 (sM 18 1),
 (sP 19 (.bin .and .ifc) [.t 18, .c (.int .u64 4294967295)]),
 (sM 8 19)])
 (.seq
 (.ops [
 (sM 20 1),
 (sP 21 (.bin .shr .ifc) [.t 20, .c (.int .u64 32)]),
 (sM 9 21)])
 (.seq
 (.ops [
 (sM 22 6),
 (sM 23 8),
 (sP 24 (.bin .mul .ifc) [.t 22, .t 23]),
 (sM 10 24)])
 (.seq
 (.ops [
 (sM 25 7),
 (sM 26 8),
 (sP 27 (.bin .mul .ifc) [.t 25, .t 26]),
 (sM 28 10),
 (sP 29 (.bin .shr .ifc) [.t 28, .c (.int .u64 32)]),
 (sP 30 (.bin .add .ifc) [.t 27, .t 29]),
 (sM 11 30)])
 (.seq
 (.ops [
 (sM 31 11),
 (sP 32 (.bin .and .ifc) [.t 31, .c (.int .u64 4294967295)]),
 (sM 12 32)])
 (.seq
 (.ops [
 (sM 33 11),
 (sP 34 (.bin .shr .ifc) [.t 33, .c (.int .u64 32)]),
 (sM 13 34)])
 (.seq
 (.ops [
 (sM 35 12),
 (sM 36 6),
 (sM 37 9),
 (sP 38 (.bin .mul .ifc) [.t 36, .t 37]),
 (sP 39 (.bin .add .ifc) [.t 35, .t 38]),
 (sM 12 39)])
 (.seq
 (.ops [
 (sM 40 7),
 (sM 41 9),
 (sP 42 (.bin .mul .ifc) [.t 40, .t 41]),
 (sM 43 13),
 (sP 44 (.bin .add .ifc) [.t 42, .t 43]),
 (sM 45 12),
 (sP 46 (.bin .shr .ifc) [.t 45, .c (.int .u64 32)]),
 (sP 47 (.bin .add .ifc) [.t 44, .t 46]),
 (sM 4 47)])
 (.seq
 (.ops [
 (sM 48 0),
 (sM 49 1),
 (sP 50 (.bin .mul .ifc) [.t 48, .t 49]),
 (sM 5 50)])
 (.ret [4, 5])))))))))))))
def math_bits_Mul64_I : FInfo := ⟨(.fz false), 2, math_bits_Mul64_C, [.tmp 4, .tmp 5]⟩
def math_bits_Mul64_A : Ann := ⟨[], [], [], [], []⟩
abbrev n_math_bits_Mul64 : Nat := 167

/-! ### (*balise/detect.Filter).Count -/
def detect_Filter_Count_C : CCode :=
 (.seq
 (.ops [
 (sP 4 .mov [.c (.int .i64 0)])])
 (.seq
 (.seq
 (.ops [
 (sM 5 0),
 (sP 6 (.bin .eql .ptr) [.t 5, .c .nilp]),
 (sM 7 6),
 (sG (sM 8 1) 7 false),
 (sG (sP 9 (.bin .lss .ifc) [.t 8, .c (.int .i64 0)]) 7 false),
 (sP 10 .pick [.t 7, .c (.bool true), .t 9]),
 (sM 11 10),
 (sG (sM 12 1) 11 false),
 (sG (sM 13 0) 11 false),
 (sG (sP 14 .nchk [.t 13]) 11 false),
 (sG (sP 15 (.faddr 0) [.t 14]) 11 false),
 (sG (sH 16 (.load false 1) [.t 15]) 11 false),
 (sG (sP 17 .len [.t 16]) 11 false),
 (sG (sP 18 (.bin .geq .ifc) [.t 12, .t 17]) 11 false),
 (sP 19 .pick [.t 11, .c (.bool true), .t 18])])
 (.cond (.t 19)
 (.seq
 (.ops [
 (sP 4 .mov [.c (.int .i64 0)])])
 (.ret [4]))
 .skip))
 (.seq
 (.ops [
 (sM 20 0),
 (sP 21 .nchk [.t 20]),
 (sP 22 (.faddr 0) [.t 21]),
 (sH 23 (.load false 1) [.t 22]),
 (sM 24 1),
 (sP 25 (.iaddr 1) [.t 23, .t 24]),
 (sH 26 (.load false 1) [.t 25]),
 (sM 4 26)])
 (.ret [4]))))
def detect_Filter_Count_I : FInfo := ⟨.ref, 2, detect_Filter_Count_C, [.tmp 4]⟩
def detect_Filter_Count_A : Ann := ⟨[], [], [], [], []⟩
abbrev n_detect_Filter_Count : Nat := 173

/-! ### slices.IndexFunc[[][]int,[]int] -/
def slices_IndexFunc_int_B0 : CCode :=
 (.seq
 (.ops [
 (sP 9 (.bin .lss .ifc) [.t 8, .t 7])])
 (.seq
 (.cond (.t 9)
 .skip
 (.exit 0))
 (.seq
 (.block 1 (some [0, 1, 7, 8])
 (.seq
 (.ops [
 (sM 10 8),
 (sM 5 10)])
 (.seq
 (.ops [
 (sM 11 1),
 (sM 12 0),
 (sM 13 5),
 (sP 14 (.iaddr 1) [.t 12, .t 13]),
 (sH 15 (.load false 1) [.t 14]),
 ⟨(some 16), .call, [.t 11, .t 15], none⟩])
 (.cond (.t 16)
 (.seq
 (.ops [
 (sM 17 5),
 (sM 4 17)])
 (.ret [4]))
 .skip))))
 (.ops [
 (sP 18 (.bin .add .ifc) [.t 8, .c (.int .i64 1)]),
 (sM 8 18)]))))
def slices_IndexFunc_int_L0 : CCode := .bloop 0 [0, 1, 7, 8] [] slices_IndexFunc_int_B0
def slices_IndexFunc_int_C : CCode :=
 (.seq
 (.ops [
 (sP 4 .mov [.c (.int .i64 0)])])
 (.seq
 (.seq
 (.ops [
 (sM 6 0),
 (sP 7 .len [.t 6]),
 (sP 8 .mov [.c (.int .i64 0)])])
 slices_IndexFunc_int_L0)
 (.seq
 (.ops [
 (sP 4 .mov [.c (.int .i64 (-1))])])
 (.ret [4]))))
def slices_IndexFunc_int_I : FInfo := ⟨(.fz false), 2, slices_IndexFunc_int_C, [.tmp 4]⟩
def slices_IndexFunc_int_A : Ann := ⟨[], [], [(0, [0, 1, 7, 8], [])], [(1, [0, 1, 7, 8])], []⟩
abbrev n_slices_IndexFunc_int : Nat := 181

/-! ### (*balise/graph.Graph).Part$1 -/
def graph_Graph_Part_1_C : CCode :=
 (.seq
 (.ops [
 (sP 3 .mov [.c (.bool false)])])
 (.seq
 (.ops [
 (sM 4 0),
 (sH 5 (.load false 1) [.t 1]),
 (sC 6 183 [.t 4, .t 5]),
 (sM 3 6)])
 (.ret [3])))
def graph_Graph_Part_1_I : FInfo := ⟨(.fz false), 2, graph_Graph_Part_1_C, [.tmp 3]⟩
def graph_Graph_Part_1_A : Ann := ⟨[], [], [], [], []⟩
abbrev n_graph_Graph_Part_1 : Nat := 182

/-! ### slices.Contains[[]int,int] -/
def slices_Contains_int_C : CCode :=
 (.seq
 (.ops [
 (sP 4 .mov [.c (.bool false)])])
 (.seq
 (.ops [
 (sM 5 0),
 (sM 6 1),
 (sC 7 245 [.t 5, .t 6]),
 (sP 8 (.bin .geq .ifc) [.t 7, .c (.int .i64 0)]),
 (sM 4 8)])
 (.ret [4])))
def slices_Contains_int_I : FInfo := ⟨(.fz false), 2, slices_Contains_int_C, [.tmp 4]⟩
def slices_Contains_int_A : Ann := ⟨[], [], [], [], []⟩
abbrev n_slices_Contains_int : Nat := 183

/-! ### slices.IndexFunc[[]*balise/route.Lock,*balise/route.Lock] -/
def slices_IndexFunc_pLock_B0 : CCode :=
 (.seq
 (.ops [
 (sP 9 (.bin .lss .ifc) [.t 8, .t 7])])
 (.seq
 (.cond (.t 9)
 .skip
 (.exit 0))
 (.seq
 (.block 1 (some [0, 1, 7, 8])
 (.seq
 (.ops [
 (sM 10 8),
 (sM 5 10)])
 (.seq
 (.ops [
 (sM 11 1),
 (sM 12 0),
 (sM 13 5),
 (sP 14 (.iaddr 1) [.t 12, .t 13]),
 (sH 15 (.load false 1) [.t 14]),
 ⟨(some 16), .call, [.t 11, .t 15], none⟩])
 (.cond (.t 16)
 (.seq
 (.ops [
 (sM 17 5),
 (sM 4 17)])
 (.ret [4]))
 .skip))))
 (.ops [
 (sP 18 (.bin .add .ifc) [.t 8, .c (.int .i64 1)]),
 (sM 8 18)]))))
def slices_IndexFunc_pLock_L0 : CCode := .bloop 0 [0, 1, 7, 8] [] slices_IndexFunc_pLock_B0
def slices_IndexFunc_pLock_C : CCode :=
 (.seq
 (.ops [
 (sP 4 .mov [.c (.int .i64 0)])])
 (.seq
 (.seq
 (.ops [
 (sM 6 0),
 (sP 7 .len [.t 6]),
 (sP 8 .mov [.c (.int .i64 0)])])
 slices_IndexFunc_pLock_L0)
 (.seq
 (.ops [
 (sP 4 .mov [.c (.int .i64 (-1))])])
 (.ret [4]))))
def slices_IndexFunc_pLock_I : FInfo := ⟨.ref, 2, slices_IndexFunc_pLock_C, [.tmp 4]⟩
def slices_IndexFunc_pLock_A : Ann := ⟨[], [], [(0, [0, 1, 7, 8], [])], [(1, [0, 1, 7, 8])], []⟩
abbrev n_slices_IndexFunc_pLock : Nat := 200

/-! ### balise/crc.Of -/
def crc_Of_B2 : CCode :=
 (.seq
 (.ops [
 (sP 18 (.bin .lss .ifc) [.t 17, .c (.int .i64 8)])])
 (.seq
 (.cond (.t 18)
 .skip
 (.exit 2))
 (.seq
 (.block 3 (some [3, 7, 8, 9, 17])
 (.seq
 (.ops [
 (sM 19 3),
 (sP 20 (.bin .and .ifc) [.t 19, .c (.int .u16 1)]),
 (sP 21 (.bin .neq .int) [.t 20, .c (.int .u16 0)]),
 (sM 6 21)])
 (.seq
 (.ops [
 (sM 22 3),
 (sP 23 (.bin .shr .ifc) [.t 22, .c (.int .u64 1)]),
 (sM 3 23)])
 (.seq
 (.ops [
 (sM 24 6)])
 (.cond (.t 24)
 (.ops [
 (sM 25 3),
 (sP 26 (.bin .xor .ifc) [.t 25, .c (.int .u16 40961)]),
 (sM 3 26)])
 .skip)))))
 (.ops [
 (sP 27 (.bin .add .ifc) [.t 17, .c (.int .i64 1)]),
 (sM 17 27)]))))
def crc_Of_L2 : CCode := .bloop 2 [3, 7, 8, 9, 17] [3, 7, 8, 9] crc_Of_B2

def crc_Of_B0 : CCode :=
 (.seq
 (.ops [
 (sP 10 (.bin .lss .ifc) [.t 9, .t 8])])
 (.seq
 (.cond (.t 10)
 .skip
 (.exit 0))
 (.seq
 (.block 1 (some [3, 7, 8, 9])
 (.seq
 (.ops [
 (sP 11 (.iaddr 1) [.t 7, .t 9]),
 (sH 12 (.load false 1) [.t 11]),
 (sM 5 12)])
 (.seq
 (.ops [
 (sM 13 3),
 (sM 14 5),
 (sP 15 (.toInt .u16) [.t 14]),
 (sP 16 (.bin .xor .ifc) [.t 13, .t 15]),
 (sM 3 16)])
 (.seq
 (.ops [
 (sP 17 .mov [.c (.int .i64 0)])])
 crc_Of_L2))))
 (.ops [
 (sP 28 (.bin .add .ifc) [.t 9, .c (.int .i64 1)]),
 (sM 9 28)]))))
def crc_Of_L0 : CCode := .bloop 0 [3, 7, 8, 9] [3] crc_Of_B0
def crc_Of_C : CCode :=
 (.seq
 (.ops [
 (sP 2 .mov [.c (.int .u16 0)])])
 (.seq
 (.ops [
 (sP 3 .mov [.c (.int .u16 65535)])])
 (.seq
 (.seq
 (.ops [
 (sM 7 0),
 (sP 8 .len [.t 7]),
 (sP 9 .mov [.c (.int .i64 0)])])
 crc_Of_L0)
 (.seq
 (.ops [
 (sM 29 3),
 (sP 30 (.un .xor) [.t 29]),
 (sM 2 30)])
 (.ret [2])))))
def crc_Of_I : FInfo := ⟨(.fz false), 1, crc_Of_C, [.tmp 2]⟩
def crc_Of_A : Ann := ⟨[], [], [(0, [3, 7, 8, 9], [3]), (2, [3, 7, 8, 9, 17], [3, 7, 8, 9])], [(1, [3, 7, 8, 9]), (3, [3, 7, 8, 9, 17])], []⟩
abbrev n_crc_Of : Nat := 208

/-! ### (balise/verify.judge).rules$1 -/
def verify_judge_rules_1_C : CCode :=
 (.seq
 (.ops [
 (sP 3 .mov [.c (.bool false)])])
 (.seq
 (.ops [
 (sP 4 (.faddr 0) [.t 1]),
 (sH 5 (.load false 1) [.t 4]),
 (sM 6 0),
 (sP 7 (.iaddr 1) [.t 5, .t 6]),
 (sH 8 (.load false 1) [.t 7]),
 (sC 9 217 [.t 8]),
 (sM 10 9),
 (sG (sP 11 (.faddr 0) [.t 1]) 10 true),
 (sG (sH 12 (.load false 1) [.t 11]) 10 true),
 (sG (sM 13 0) 10 true),
 (sG (sP 14 (.slc 1 false true) [.t 12, .t 13]) 10 true),
 (sG (sP 15 (.faddr 0) [.t 1]) 10 true),
 (sG (sH 16 (.load false 1) [.t 15]) 10 true),
 (sG (sM 17 0) 10 true),
 (sG (sP 18 (.iaddr 1) [.t 16, .t 17]) 10 true),
 (sG (sH 19 (.load false 1) [.t 18]) 10 true),
 (sG (sC 20 218 [.t 14, .t 19]) 10 true),
 (sG (sP 21 (.un .not) [.t 20]) 10 true),
 (sP 22 .pick [.t 10, .t 21, .c (.bool false)]),
 (sM 3 22)])
 (.ret [3])))
def verify_judge_rules_1_I : FInfo := ⟨(.fz false), 2, verify_judge_rules_1_C, [.tmp 3]⟩
def verify_judge_rules_1_A : Ann := ⟨[], [], [], [], []⟩
abbrev n_verify_judge_rules_1 : Nat := 216

/-! ### balise/plane.Place -/
def plane_Place_C : CCode :=
 (.seq
 (.ops [
 (sP 2 .mov [.c (.bool false)])])
 (.seq
 (.ops [
 (sM 3 0),
 (sP 4 .re [.t 3]),
 (sC 5 269 [.t 4]),
 (sM 6 5),
 (sG (sM 7 0) 6 true),
 (sG (sP 8 .im [.t 7]) 6 true),
 (sG (sC 9 269 [.t 8]) 6 true),
 (sP 10 .pick [.t 6, .t 9, .c (.bool false)]),
 (sM 2 10)])
 (.ret [2])))
def plane_Place_I : FInfo := ⟨(.fz false), 1, plane_Place_C, [.tmp 2]⟩
def plane_Place_A : Ann := ⟨[], [], [], [], []⟩
abbrev n_plane_Place : Nat := 217

/-! ### slices.Contains[[]complex128,complex128] -/
def slices_Contains_complex128_C : CCode :=
 (.seq
 (.ops [
 (sP 4 .mov [.c (.bool false)])])
 (.seq
 (.ops [
 (sM 5 0),
 (sM 6 1),
 (sC 7 270 [.t 5, .t 6]),
 (sP 8 (.bin .geq .ifc) [.t 7, .c (.int .i64 0)]),
 (sM 4 8)])
 (.ret [4])))
def slices_Contains_complex128_I : FInfo := ⟨(.fz false), 2, slices_Contains_complex128_C, [.tmp 4]⟩
def slices_Contains_complex128_A : Ann := ⟨[], [], [], [], []⟩
abbrev n_slices_Contains_complex128 : Nat := 218

/-! ### balise/verify.one -/
def verify_one_C : CCode :=
 (.seq
 (.seq
 (.ops [
 (sH 1 .boxh [.t 0]),
 (sH 2 (.newl 2 [(.int .i64 0), .nilf]) [])])
 (.frz 1))
 (.seq
 (.ops [
 (sP 3 (.mkfn (.func 271) 0) [.t 1]),
 (sP 4 (.bld [(.int .i64 0), .nilf] [(0, 1), (1, 1)]) [.c (.int .i64 1), .t 3]),
 (sHn (.store 2) [.t 2, .t 4])])
 (.ret [2])))
def verify_one_I : FInfo := ⟨(.fz false), 1, verify_one_C, [.cell 2 true 2]⟩
def verify_one_A : Ann := ⟨[1], [1000001], [], [], [2]⟩
abbrev n_verify_one : Nat := 219

/-! ### balise/verify.within[int] -/
def verify_within_int_C : CCode :=
 (.seq
 (.ops [
 (sP 6 .mov [.c (.bool false)])])
 (.seq
 (.ops [
 (sM 7 0),
 (sM 8 1),
 (sP 9 (.bin .geq .ifc) [.t 7, .t 8]),
 (sM 10 9),
 (sG (sM 11 0) 10 true),
 (sG (sM 12 2) 10 true),
 (sG (sP 13 (.bin .leq .ifc) [.t 11, .t 12]) 10 true),
 (sP 14 .pick [.t 10, .t 13, .c (.bool false)]),
 (sM 6 14)])
 (.ret [6])))
def verify_within_int_I : FInfo := ⟨(.fz false), 3, verify_within_int_C, [.tmp 6]⟩
def verify_within_int_A : Ann := ⟨[], [], [], [], []⟩
abbrev n_verify_within_int : Nat := 220

/-! ### (balise/verify.judge).section -/
def verify_judge_section_C : CCode :=
 (.seq
 (.ops [
 (sH 2 (.box 2) [.t 0]),
 (sP 4 .mov [.c (.bool false)])])
 (.seq
 (.ops [
 (sP 6 (.faddr 0) [.t 2]),
 (sP 7 (.faddr 1) [.t 6]),
 (sH 8 (.load false 1) [.t 7]),
 (sM 9 1),
 (sP 10 (.iaddr 3) [.t 8, .t 9]),
 (sH 11 (.load true 3) [.t 10]),
 (sH 5 (.newl 5 [(.int .i64 0), (.int .i64 0), (.int .i64 0)]) []),
 (sHn (.store 3) [.t 5, .t 11])])
 (.seq
 (.ops [
 (sH 12 (.load true 11) [.t 2]),
 (sP 13 (.faddr 1) [.t 5]),
 (sH 14 (.load false 1) [.t 13]),
 (sC 15 272 [.t 12, .t 14]),
 (sM 16 15),
 (sG (sH 17 (.load true 11) [.t 2]) 16 true),
 (sG (sP 18 (.faddr 2) [.t 5]) 16 true),
 (sG (sH 19 (.load false 1) [.t 18]) 16 true),
 (sG (sC 20 272 [.t 17, .t 19]) 16 true),
 (sP 21 .pick [.t 16, .t 20, .c (.bool false)]),
 (sM 22 21),
 (sG (sP 23 (.faddr 0) [.t 2]) 22 true),
 (sG (sP 24 (.faddr 0) [.t 23]) 22 true),
 (sG (sH 25 (.load false 1) [.t 24]) 22 true),
 (sG (sP 26 (.faddr 1) [.t 5]) 22 true),
 (sG (sH 27 (.load false 1) [.t 26]) 22 true),
 (sG (sP 28 (.iaddr 1) [.t 25, .t 27]) 22 true),
 (sG (sH 29 (.load false 1) [.t 28]) 22 true),
 (sG (sP 30 (.faddr 0) [.t 2]) 22 true),
 (sG (sP 31 (.faddr 0) [.t 30]) 22 true),
 (sG (sH 32 (.load false 1) [.t 31]) 22 true),
 (sG (sP 33 (.faddr 2) [.t 5]) 22 true),
 (sG (sH 34 (.load false 1) [.t 33]) 22 true),
 (sG (sP 35 (.iaddr 1) [.t 32, .t 34]) 22 true),
 (sG (sH 36 (.load false 1) [.t 35]) 22 true),
 (sG (sP 37 (.faddr 0) [.t 5]) 22 true),
 (sG (sH 38 (.load false 1) [.t 37]) 22 true),
 (sG (sC 39 273 [.t 29, .t 36, .t 38]) 22 true),
 (sP 40 .pick [.t 22, .t 39, .c (.bool false)]),
 (sM 4 40)])
 (.ret [4]))))
def verify_judge_section_I : FInfo := ⟨(.fz false), 2, verify_judge_section_C, [.tmp 4]⟩
def verify_judge_section_A : Ann := ⟨[], [], [], [], [2, 5]⟩
abbrev n_verify_judge_section : Nat := 221

/-! ### (balise/verify.judge).rules$2 -/
def verify_judge_rules_2_C : CCode :=
 (.seq
 (.ops [
 (sP 3 .mov [.c (.bool false)])])
 (.seq
 (.ops [
 (sP 4 (.faddr 1) [.t 1]),
 (sH 5 (.load false 1) [.t 4]),
 (sM 6 0),
 (sP 7 (.iaddr 3) [.t 5, .t 6]),
 (sP 8 (.faddr 0) [.t 7]),
 (sH 9 (.load false 1) [.t 8]),
 (sP 10 (.faddr 5) [.t 1]),
 (sH 11 (.load false 1) [.t 10]),
 (sP 12 (.bin .geq .ifc) [.t 9, .t 11]),
 (sM 3 12)])
 (.ret [3])))
def verify_judge_rules_2_I : FInfo := ⟨(.fz false), 2, verify_judge_rules_2_C, [.tmp 3]⟩
def verify_judge_rules_2_A : Ann := ⟨[], [], [], [], []⟩
abbrev n_verify_judge_rules_2 : Nat := 222

/-! ### (balise/verify.judge).times -/
def verify_judge_times_B0 : CCode :=
 (.seq
 (.ops [
 (sP 17 (.bin .lss .ifc) [.t 16, .t 15])])
 (.seq
 (.cond (.t 17)
 .skip
 (.exit 0))
 (.seq
 (.block 1 (some [1, 14, 15, 16])
 (.seq
 (.ops [
 (sP 18 (.iaddr 1) [.t 14, .t 16]),
 (sH 19 (.load false 1) [.t 18]),
 (sM 4 19)])
 (.seq
 (.ops [
 (sM 20 4),
 (sC 21 274 [.t 20, .c (.int .i64 1), .c (.int .i64 1000)]),
 (sP 22 (.un .not) [.t 21])])
 (.cond (.t 22)
 (.seq
 (.ops [
 (sP 2 .mov [.c (.bool false)])])
 (.ret [2]))
 .skip))))
 (.ops [
 (sP 23 (.bin .add .ifc) [.t 16, .c (.int .i64 1)]),
 (sM 16 23)]))))
def verify_judge_times_L0 : CCode := .bloop 0 [1, 14, 15, 16] [1] verify_judge_times_B0
def verify_judge_times_C : CCode :=
 (.seq
 (.ops [
 (sH 1 (.box 1) [.t 0]),
 (sP 2 .mov [.c (.bool false)])])
 (.seq
 (.seq
 (.ops [
 (sP 5 (.faddr 0) [.t 1]),
 (sP 6 (.faddr 6) [.t 5]),
 (sH 7 (.load false 1) [.t 6]),
 (sP 8 (.faddr 0) [.t 1]),
 (sP 9 (.faddr 7) [.t 8]),
 (sH 10 (.load false 1) [.t 9]),
 (sP 11 (.faddr 0) [.t 1]),
 (sP 12 (.faddr 8) [.t 11]),
 (sH 13 (.load false 1) [.t 12]),
 (sH 14 (.bslF 1 3 [(.int .i64 0)] [(0, 1), (1, 1), (2, 1)]) [.t 7, .t 10, .t 13]),
 (sP 15 .len [.t 14]),
 (sP 16 .mov [.c (.int .i64 0)])])
 verify_judge_times_L0)
 (.seq
 (.ops [
 (sP 24 (.faddr 0) [.t 1]),
 (sP 25 (.faddr 9) [.t 24]),
 (sH 26 (.load false 1) [.t 25]),
 (sC 27 274 [.t 26, .c (.int .i64 0), .c (.int .i64 1000)]),
 (sM 2 27)])
 (.ret [2]))))
def verify_judge_times_I : FInfo := ⟨(.fz false), 1, verify_judge_times_C, [.tmp 2]⟩
def verify_judge_times_A : Ann := ⟨[], [], [(0, [1, 14, 15, 16], [1])], [(1, [1, 14, 15, 16])], [1]⟩
abbrev n_verify_judge_times : Nat := 223

/-! ### (balise/verify.judge).rules$3 -/
def verify_judge_rules_3_C : CCode :=
 (.seq
 (.ops [
 (sP 3 .mov [.c (.bool false)])])
 (.seq
 (.ops [
 (sP 4 (.faddr 10) [.t 1]),
 (sH 5 (.load false 1) [.t 4]),
 (sM 6 0),
 (sC 7 225 [.t 5, .t 6]),
 (sP 8 .len [.t 7]),
 (sC 9 220 [.t 8, .c (.int .i64 1), .c (.int .i64 3)]),
 (sM 3 9)])
 (.ret [3])))
def verify_judge_rules_3_I : FInfo := ⟨(.fz false), 2, verify_judge_rules_3_C, [.tmp 3]⟩
def verify_judge_rules_3_A : Ann := ⟨[], [], [], [], []⟩
abbrev n_verify_judge_rules_3 : Nat := 224

/-! ### (*balise/graph.Graph).Ends -/
def graph_Graph_Ends_B2 : CCode :=
 (.seq
 (.ops [
 (sP 28 (.bin .lss .ifc) [.t 27, .c (.int .i64 2)])])
 (.seq
 (.cond (.t 28)
 .skip
 (.exit 2))
 (.seq
 (.block 3 (some [0, 1, 5, 6, 26, 27])
 (.seq
 (.ops [
 (sM 29 27),
 (sP 30 (.idxA 2 false 1) [.t 26, .t 27]),
 (sM 9 29),
 (sM 10 30)])
 (.seq
 (.ops [
 (sM 31 10),
 (sM 32 1),
 (sP 33 (.bin .eql .int) [.t 31, .t 32])])
 (.cond (.t 33)
 (.ops [
 (sM 34 5),
 (sM 35 6),
 (sM 36 9),
 (sP 37 (.bld [(.int .i64 0), (.int .i64 0)] [(0, 1), (1, 1)]) [.t 35, .t 36]),
 (sH 38 (.bslF 2 1 [(.int .i64 0), (.int .i64 0)] [(0, 2)]) [.t 37]),
 (sH 39 (.app 2 16 [(.int .i64 0), (.int .i64 0)]) [.t 34, .t 38]),
 (sM 5 39)])
 .skip))))
 (.ops [
 (sP 40 (.bin .add .ifc) [.t 27, .c (.int .i64 1)]),
 (sM 27 40)]))))
def graph_Graph_Ends_L2 : CCode := .bloop 2 [0, 1, 5, 6, 26, 27] [0, 1, 5, 6] graph_Graph_Ends_B2

def graph_Graph_Ends_B0 : CCode :=
 (.seq
 (.block 1 (some [0, 1, 5, 6])
 (.seq
 (.ops [
 (sM 14 0),
 (sM 15 6),
 (sC 16 275 [.t 14, .t 15]),
 (sM 13 16),
 (sP 17 (.ext 0) [.t 13]),
 (sP 18 (.ext 1) [.t 13]),
 (sH 7 (.newl 7 [(.int .i64 0), (.int .i64 0), (.int .i64 0)]) []),
 (sHn (.store 3) [.t 7, .t 17]),
 (sM 8 18)])
 (.seq
 (.seq
 (.ops [
 (sM 19 8),
 (sP 20 (.un .not) [.t 19])])
 (.cond (.t 20)
 (.seq
 (.ops [
 (sM 21 5),
 (sM 4 21)])
 (.ret [4]))
 .skip))
 (.seq
 (.ops [
 (sP 22 (.faddr 1) [.t 7]),
 (sH 23 (.load false 1) [.t 22]),
 (sP 24 (.faddr 2) [.t 7]),
 (sH 25 (.load false 1) [.t 24]),
 (sP 26 (.bld [(.int .i64 0), (.int .i64 0)] [(0, 1), (1, 1)]) [.t 23, .t 25]),
 (sP 27 .mov [.c (.int .i64 0)])])
 graph_Graph_Ends_L2))))
 (.ops [
 (sM 11 6),
 (sP 12 (.bin .add .ifc) [.t 11, .c (.int .i64 1)]),
 (sM 6 12)]))
def graph_Graph_Ends_L0 : CCode := .bloop 0 [0, 1, 5, 6] [] graph_Graph_Ends_B0
def graph_Graph_Ends_C : CCode :=
 (.seq
 (.ops [
 (sP 4 .mov [.c .nils])])
 (.seq
 (.ops [
 (sP 5 .mov [.c .nils])])
 (.seq
 (.ops [
 (sP 6 .mov [.c (.int .i64 0)])])
 graph_Graph_Ends_L0)))
def graph_Graph_Ends_I : FInfo := ⟨.own, 2, graph_Graph_Ends_C, [.tmp 4]⟩
def graph_Graph_Ends_A : Ann := ⟨[], [], [(0, [0, 1, 5, 6], []), (2, [0, 1, 5, 6, 26, 27], [0, 1, 5, 6])], [(1, [0, 1, 5, 6]), (3, [0, 1, 5, 6, 26, 27])], [7]⟩
abbrev n_graph_Graph_Ends : Nat := 225

/-! ### (balise/verify.judge).points -/
def verify_judge_points_B0 : CCode :=
 (.seq
 (.ops [
 (sP 13 (.bin .lss .ifc) [.t 12, .t 11])])
 (.seq
 (.cond (.t 13)
 .skip
 (.exit 0))
 (.seq
 (.block 1 (some [1, 2, 5, 10, 11, 12])
 (.seq
 (.ops [
 (sP 14 (.iaddr 4) [.t 10, .t 12]),
 (sH 15 (.load true 4) [.t 14]),
 (sH 7 (.newl 7 [(.int .i64 0), (.int .i64 0), (.int .i64 0), (.int .i64 0)]) []),
 (sHn (.store 4) [.t 7, .t 15])])
 (.seq
 (.ops [
 (sP 16 (.faddr 0) [.t 7]),
 (sH 17 (.load false 1) [.t 16]),
 (sM 18 1),
 (sP 19 (.bin .eql .int) [.t 17, .t 18])])
 (.cond (.t 19)
 (.ops [
 (sM 20 5),
 (sP 21 (.bin .add .ifc) [.t 20, .c (.int .i64 1)]),
 (sM 5 21)])
 .skip))))
 (.ops [
 (sP 22 (.bin .add .ifc) [.t 12, .c (.int .i64 1)]),
 (sM 12 22)]))))
def verify_judge_points_L0 : CCode := .bloop 0 [1, 2, 5, 10, 11, 12] [1, 2, 5] verify_judge_points_B0
def verify_judge_points_C : CCode :=
 (.seq
 (.ops [
 (sH 2 (.box 2) [.t 0]),
 (sP 4 .mov [.c (.bool false)])])
 (.seq
 (.ops [
 (sP 5 .mov [.c (.int .i64 0)])])
 (.seq
 (.seq
 (.ops [
 (sP 8 (.faddr 0) [.t 2]),
 (sP 9 (.faddr 3) [.t 8]),
 (sH 10 (.load false 1) [.t 9]),
 (sP 11 .len [.t 10]),
 (sP 12 .mov [.c (.int .i64 0)])])
 verify_judge_points_L0)
 (.seq
 (.seq
 (.ops [
 (sP 23 (.faddr 10) [.t 2]),
 (sH 24 (.load false 1) [.t 23]),
 (sM 25 1),
 (sC 26 225 [.t 24, .t 25]),
 (sP 27 .len [.t 26]),
 (sP 28 (.bin .eql .int) [.t 27, .c (.int .i64 3)])])
 (.cond (.t 28)
 (.seq
 (.ops [
 (sM 29 5),
 (sP 30 (.bin .eql .int) [.t 29, .c (.int .i64 1)]),
 (sM 4 30)])
 (.ret [4]))
 .skip))
 (.seq
 (.ops [
 (sM 31 5),
 (sP 32 (.bin .eql .int) [.t 31, .c (.int .i64 0)]),
 (sM 4 32)])
 (.ret [4]))))))
def verify_judge_points_I : FInfo := ⟨(.fz false), 2, verify_judge_points_C, [.tmp 4]⟩
def verify_judge_points_A : Ann := ⟨[], [], [(0, [1, 2, 5, 10, 11, 12], [1, 2, 5])], [(1, [1, 2, 5, 10, 11, 12])], [2, 7]⟩
abbrev n_verify_judge_points : Nat := 227

/-! ### (balise/verify.judge).goes -/
def verify_judge_goes_C : CCode :=
 (.seq
 (.ops [
 (sH 2 (.box 2) [.t 0]),
 (sP 4 .mov [.c (.bool false)])])
 (.seq
 (.seq
 (.ops [
 (sP 8 (.faddr 10) [.t 2]),
 (sH 9 (.load false 1) [.t 8]),
 (sM 10 1),
 (sC 11 276 [.t 9, .t 10]),
 (sM 5 11)])
 (.seq
 (.ops [
 (sM 12 5),
 (sP 13 (.bin .geq .ifc) [.t 12, .c (.int .i64 0)])])
 (.cond (.t 13)
 (.seq
 (.ops [
 (sP 14 (.faddr 0) [.t 2]),
 (sP 15 (.faddr 3) [.t 14]),
 (sH 16 (.load false 1) [.t 15]),
 (sM 17 5),
 (sP 18 (.iaddr 4) [.t 16, .t 17]),
 (sH 19 (.load true 4) [.t 18]),
 (sH 6 (.newl 6 [(.int .i64 0), (.int .i64 0), (.int .i64 0), (.int .i64 0)]) []),
 (sHn (.store 4) [.t 6, .t 19])])
 (.seq
 (.ops [
 (sH 20 (.load true 11) [.t 2]),
 (sP 21 (.faddr 1) [.t 6]),
 (sH 22 (.load false 1) [.t 21]),
 (sP 23 (.faddr 2) [.t 6]),
 (sH 24 (.load false 1) [.t 23]),
 (sM 25 1),
 (sC 26 277 [.t 20, .t 22, .t 24, .t 25]),
 (sM 27 26),
 (sG (sH 28 (.load true 11) [.t 2]) 27 true),
 (sG (sP 29 (.faddr 1) [.t 6]) 27 true),
 (sG (sH 30 (.load false 1) [.t 29]) 27 true),
 (sG (sP 31 (.faddr 3) [.t 6]) 27 true),
 (sG (sH 32 (.load false 1) [.t 31]) 27 true),
 (sG (sM 33 1) 27 true),
 (sG (sC 34 277 [.t 28, .t 30, .t 32, .t 33]) 27 true),
 (sP 35 .pick [.t 27, .t 34, .c (.bool false)]),
 (sM 4 35)])
 (.ret [4])))
 .skip)))
 (.seq
 (.ops [
 (sP 36 (.faddr 10) [.t 2]),
 (sH 37 (.load false 1) [.t 36]),
 (sM 38 1),
 (sC 39 225 [.t 37, .t 38]),
 (sM 7 39)])
 (.seq
 (.ops [
 (sM 40 7),
 (sP 41 .len [.t 40]),
 (sP 42 (.bin .lss .ifc) [.t 41, .c (.int .i64 2)]),
 (sM 43 42),
 (sG (sH 44 (.load true 11) [.t 2]) 43 false),
 (sG (sM 45 7) 43 false),
 (sG (sP 46 (.iaddr 2) [.t 45, .c (.int .i64 0)]) 43 false),
 (sG (sP 47 (.faddr 0) [.t 46]) 43 false),
 (sG (sH 48 (.load false 1) [.t 47]) 43 false),
 (sG (sM 49 7) 43 false),
 (sG (sP 50 (.iaddr 2) [.t 49, .c (.int .i64 1)]) 43 false),
 (sG (sP 51 (.faddr 0) [.t 50]) 43 false),
 (sG (sH 52 (.load false 1) [.t 51]) 43 false),
 (sG (sM 53 1) 43 false),
 (sG (sC 54 277 [.t 44, .t 48, .t 52, .t 53]) 43 false),
 (sP 55 .pick [.t 43, .c (.bool true), .t 54]),
 (sM 4 55)])
 (.ret [4])))))
def verify_judge_goes_I : FInfo := ⟨(.fz false), 2, verify_judge_goes_C, [.tmp 4]⟩
def verify_judge_goes_A : Ann := ⟨[], [], [], [], [2, 6]⟩
abbrev n_verify_judge_goes : Nat := 228

/-! ### (balise/verify.judge).part -/
def verify_judge_part_C : CCode :=
 (.seq
 (.seq
 (.ops [
 (sH 2 .boxh [.t 0]),
 (sP 4 .mov [.c (.bool false)])])
 (.frz 2))
 (.seq
 (.ops [
 (sP 6 (.faddr 0) [.t 2]),
 (sP 7 (.faddr 2) [.t 6]),
 (sH 8 (.load false 1) [.t 7]),
 (sM 9 1),
 (sP 10 (.iaddr 1) [.t 8, .t 9]),
 (sH 11 (.load false 1) [.t 10]),
 (sM 5 11)])
 (.seq
 (.ops [
 (sM 12 5),
 (sP 13 .len [.t 12]),
 (sP 14 (.bin .gtr .ifc) [.t 13, .c (.int .i64 0)]),
 (sM 15 14),
 (sG (sM 16 5) 15 true),
 (sG (sP 17 (.mkfn (.func 278) 0) [.t 2]) 15 true),
 (sG (sC 18 249 [.t 16, .t 17]) 15 true),
 (sG (sP 19 (.un .not) [.t 18]) 15 true),
 (sP 20 .pick [.t 15, .t 19, .c (.bool false)]),
 (sM 4 20)])
 (.ret [4]))))
def verify_judge_part_I : FInfo := ⟨(.fz false), 2, verify_judge_part_C, [.tmp 4]⟩
def verify_judge_part_A : Ann := ⟨[2], [1000002], [], [], []⟩
abbrev n_verify_judge_part : Nat := 229

/-! ### (balise/verify.judge).once -/
def verify_judge_once_B2 : CCode :=
 (.seq
 (.ops [
 (sP 21 (.bin .lss .ifc) [.t 20, .t 19])])
 (.seq
 (.cond (.t 21)
 .skip
 (.exit 2))
 (.seq
 (.block 3 (some [1, 5, 12, 13, 14, 18, 19, 20])
 (.seq
 (.ops [
 (sP 22 (.iaddr 1) [.t 18, .t 20]),
 (sH 23 (.load false 1) [.t 22]),
 (sM 9 23)])
 (.seq
 (.ops [
 (sM 24 9),
 (sM 25 1),
 (sP 26 (.bin .eql .int) [.t 24, .t 25])])
 (.cond (.t 26)
 (.ops [
 (sM 27 5),
 (sP 28 (.bin .add .ifc) [.t 27, .c (.int .i64 1)]),
 (sM 5 28)])
 .skip))))
 (.ops [
 (sP 29 (.bin .add .ifc) [.t 20, .c (.int .i64 1)]),
 (sM 20 29)]))))
def verify_judge_once_L2 : CCode := .bloop 2 [1, 5, 12, 13, 14, 18, 19, 20] [1, 5, 12, 13, 14] verify_judge_once_B2

def verify_judge_once_B0 : CCode :=
 (.seq
 (.ops [
 (sP 15 (.bin .lss .ifc) [.t 14, .t 13])])
 (.seq
 (.cond (.t 15)
 .skip
 (.exit 0))
 (.seq
 (.block 1 (some [1, 5, 12, 13, 14])
 (.seq
 (.ops [
 (sP 16 (.iaddr 1) [.t 12, .t 14]),
 (sH 17 (.load false 1) [.t 16]),
 (sM 7 17)])
 (.seq
 (.ops [
 (sM 18 7),
 (sP 19 .len [.t 18]),
 (sP 20 .mov [.c (.int .i64 0)])])
 verify_judge_once_L2)))
 (.ops [
 (sP 30 (.bin .add .ifc) [.t 14, .c (.int .i64 1)]),
 (sM 14 30)]))))
def verify_judge_once_L0 : CCode := .bloop 0 [1, 5, 12, 13, 14] [5] verify_judge_once_B0
def verify_judge_once_C : CCode :=
 (.seq
 (.ops [
 (sH 2 (.box 2) [.t 0]),
 (sP 4 .mov [.c (.bool false)])])
 (.seq
 (.ops [
 (sP 5 .mov [.c (.int .i64 0)])])
 (.seq
 (.seq
 (.ops [
 (sP 10 (.faddr 0) [.t 2]),
 (sP 11 (.faddr 2) [.t 10]),
 (sH 12 (.load false 1) [.t 11]),
 (sP 13 .len [.t 12]),
 (sP 14 .mov [.c (.int .i64 0)])])
 verify_judge_once_L0)
 (.seq
 (.ops [
 (sM 31 5),
 (sP 32 (.bin .eql .int) [.t 31, .c (.int .i64 1)]),
 (sM 4 32)])
 (.ret [4])))))
def verify_judge_once_I : FInfo := ⟨(.fz false), 2, verify_judge_once_C, [.tmp 4]⟩
def verify_judge_once_A : Ann := ⟨[], [], [(0, [1, 5, 12, 13, 14], [5]), (2, [1, 5, 12, 13, 14, 18, 19, 20], [1, 5, 12, 13, 14])], [(1, [1, 5, 12, 13, 14]), (3, [1, 5, 12, 13, 14, 18, 19, 20])], [2]⟩
abbrev n_verify_judge_once : Nat := 230

/-! ### slices.Index[[]int,int] -/
def slices_Index_int_B0 : CCode :=
 (.seq
 (.ops [
 (sP 9 (.bin .lss .ifc) [.t 8, .t 7])])
 (.seq
 (.cond (.t 9)
 .skip
 (.exit 0))
 (.seq
 (.block 1 (some [0, 1, 7, 8])
 (.seq
 (.ops [
 (sM 10 8),
 (sM 5 10)])
 (.seq
 (.ops [
 (sM 11 1),
 (sM 12 0),
 (sM 13 5),
 (sP 14 (.iaddr 1) [.t 12, .t 13]),
 (sH 15 (.load false 1) [.t 14]),
 (sP 16 (.bin .eql .int) [.t 11, .t 15])])
 (.cond (.t 16)
 (.seq
 (.ops [
 (sM 17 5),
 (sM 4 17)])
 (.ret [4]))
 .skip))))
 (.ops [
 (sP 18 (.bin .add .ifc) [.t 8, .c (.int .i64 1)]),
 (sM 8 18)]))))
def slices_Index_int_L0 : CCode := .bloop 0 [0, 1, 7, 8] [] slices_Index_int_B0
def slices_Index_int_C : CCode :=
 (.seq
 (.ops [
 (sP 4 .mov [.c (.int .i64 0)])])
 (.seq
 (.seq
 (.ops [
 (sM 6 0),
 (sP 7 .len [.t 6]),
 (sP 8 .mov [.c (.int .i64 0)])])
 slices_Index_int_L0)
 (.seq
 (.ops [
 (sP 4 .mov [.c (.int .i64 (-1))])])
 (.ret [4]))))
def slices_Index_int_I : FInfo := ⟨(.fz false), 2, slices_Index_int_C, [.tmp 4]⟩
def slices_Index_int_A : Ann := ⟨[], [], [(0, [0, 1, 7, 8], [])], [(1, [0, 1, 7, 8])], []⟩
abbrev n_slices_Index_int : Nat := 245

/-! ### slices.ContainsFunc[[]int,int] -/
def slices_ContainsFunc_int_C : CCode :=
 (.seq
 (.ops [
 (sP 4 .mov [.c (.bool false)])])
 (.seq
 (.ops [
 (sM 5 0),
 (sM 6 1),
 (sC 7 286 [.t 5, .t 6]),
 (sP 8 (.bin .geq .ifc) [.t 7, .c (.int .i64 0)]),
 (sM 4 8)])
 (.ret [4])))
def slices_ContainsFunc_int_I : FInfo := ⟨(.fz false), 2, slices_ContainsFunc_int_C, [.tmp 4]⟩
def slices_ContainsFunc_int_A : Ann := ⟨[], [], [], [], []⟩
abbrev n_slices_ContainsFunc_int : Nat := 249

/-! ### balise/plane.whole -/
def plane_whole_C : CCode :=
 (.seq
 (.ops [
 (sP 2 .mov [.c (.bool false)])])
 (.seq
 (.ops [
 (sM 3 0),
 (sM 4 0),
 (sC 5 301 [.t 4]),
 (sP 6 (.bin .eql .ifc) [.t 3, .t 5]),
 (sM 7 6),
 (sG (sM 8 0) 7 true),
 (sG (sC 9 302 [.t 8]) 7 true),
 (sG (sP 10 (.bin .leq .ifc) [.t 9, .c (.float .f64 4696837146684686336)]) 7 true),
 (sP 11 .pick [.t 7, .t 10, .c (.bool false)]),
 (sM 2 11)])
 (.ret [2])))
def plane_whole_I : FInfo := ⟨(.fz false), 1, plane_whole_C, [.tmp 2]⟩
def plane_whole_A : Ann := ⟨[], [], [], [], []⟩
abbrev n_plane_whole : Nat := 269

/-! ### slices.Index[[]complex128,complex128] -/
def slices_Index_complex128_B0 : CCode :=
 (.seq
 (.ops [
 (sP 9 (.bin .lss .ifc) [.t 8, .t 7])])
 (.seq
 (.cond (.t 9)
 .skip
 (.exit 0))
 (.seq
 (.block 1 (some [0, 1, 7, 8])
 (.seq
 (.ops [
 (sM 10 8),
 (sM 5 10)])
 (.seq
 (.ops [
 (sM 11 1),
 (sM 12 0),
 (sM 13 5),
 (sP 14 (.iaddr 1) [.t 12, .t 13]),
 (sH 15 (.load false 1) [.t 14]),
 (sP 16 (.bin .eql .ifc) [.t 11, .t 15])])
 (.cond (.t 16)
 (.seq
 (.ops [
 (sM 17 5),
 (sM 4 17)])
 (.ret [4]))
 .skip))))
 (.ops [
 (sP 18 (.bin .add .ifc) [.t 8, .c (.int .i64 1)]),
 (sM 8 18)]))))
def slices_Index_complex128_L0 : CCode := .bloop 0 [0, 1, 7, 8] [] slices_Index_complex128_B0
def slices_Index_complex128_C : CCode :=
 (.seq
 (.ops [
 (sP 4 .mov [.c (.int .i64 0)])])
 (.seq
 (.seq
 (.ops [
 (sM 6 0),
 (sP 7 .len [.t 6]),
 (sP 8 .mov [.c (.int .i64 0)])])
 slices_Index_complex128_L0)
 (.seq
 (.ops [
 (sP 4 .mov [.c (.int .i64 (-1))])])
 (.ret [4]))))
def slices_Index_complex128_I : FInfo := ⟨(.fz false), 2, slices_Index_complex128_C, [.tmp 4]⟩
def slices_Index_complex128_A : Ann := ⟨[], [], [(0, [0, 1, 7, 8], [])], [(1, [0, 1, 7, 8])], []⟩
abbrev n_slices_Index_complex128 : Nat := 270

/-! ### balise/verify.one$1 -/
def verify_one_1_C : CCode :=
 (.seq
 (.ops [
 (sP 3 .mov [.c (.bool false)])])
 (.seq
 (.ops [
 (sH 4 (.load false 1) [.t 1]),
 (sM 3 4)])
 (.ret [3])))
def verify_one_1_I : FInfo := ⟨(.fz false), 2, verify_one_1_C, [.tmp 3]⟩
def verify_one_1_A : Ann := ⟨[], [], [], [], []⟩
abbrev n_verify_one_1 : Nat := 271

/-! ### (balise/verify.judge).node -/
def verify_judge_node_C : CCode :=
 (.seq
 (.ops [
 (sH 2 (.box 2) [.t 0]),
 (sP 4 .mov [.c (.bool false)])])
 (.seq
 (.ops [
 (sM 5 1),
 (sP 6 (.faddr 0) [.t 2]),
 (sP 7 (.faddr 0) [.t 6]),
 (sH 8 (.load false 1) [.t 7]),
 (sP 9 .len [.t 8]),
 (sP 10 (.bin .sub .ifc) [.t 9, .c (.int .i64 1)]),
 (sC 11 220 [.t 5, .c (.int .i64 0), .t 10]),
 (sM 4 11)])
 (.ret [4])))
def verify_judge_node_I : FInfo := ⟨(.fz false), 2, verify_judge_node_C, [.tmp 4]⟩
def verify_judge_node_A : Ann := ⟨[], [], [], [], [2]⟩
abbrev n_verify_judge_node : Nat := 272

/-! ### balise/plane.Fits -/
def plane_Fits_C : CCode :=
 (.seq
 (.ops [
 (sP 6 .mov [.c (.bool false)])])
 (.seq
 (.seq
 (.ops [
 (sM 7 0),
 (sM 8 1),
 (sP 9 (.bin .eql .ifc) [.t 7, .t 8]),
 (sM 10 9),
 (sG (sM 11 2) 10 false),
 (sG (sP 12 (.bin .lss .ifc) [.t 11, .c (.int .i64 1)]) 10 false),
 (sP 13 .pick [.t 10, .c (.bool true), .t 12]),
 (sM 14 13),
 (sG (sM 15 2) 14 false),
 (sG (sP 16 (.bin .gtr .ifc) [.t 15, .c (.int .i64 10000)]) 14 false),
 (sP 17 .pick [.t 14, .c (.bool true), .t 16])])
 (.cond (.t 17)
 (.seq
 (.ops [
 (sP 6 .mov [.c (.bool false)])])
 (.ret [6]))
 .skip))
 (.seq
 (.ops [
 (sM 18 2),
 (sP 19 (.toFloat .f64) [.t 18]),
 (sP 20 .cplx [.t 19, .c (.float .f64 0)]),
 (sC 21 303 [.t 20]),
 (sM 22 1),
 (sM 23 0),
 (sP 24 (.bin .sub .ifc) [.t 22, .t 23]),
 (sC 25 303 [.t 24]),
 (sP 26 (.bin .geq .ifc) [.t 21, .t 25]),
 (sM 6 26)])
 (.ret [6]))))
def plane_Fits_I : FInfo := ⟨(.fz false), 3, plane_Fits_C, [.tmp 6]⟩
def plane_Fits_A : Ann := ⟨[], [], [], [], []⟩
abbrev n_plane_Fits : Nat := 273

/-! ### balise/verify.within[int64] -/
def verify_within_int64_C : CCode :=
 (.seq
 (.ops [
 (sP 6 .mov [.c (.bool false)])])
 (.seq
 (.ops [
 (sM 7 0),
 (sM 8 1),
 (sP 9 (.bin .geq .ifc) [.t 7, .t 8]),
 (sM 10 9),
 (sG (sM 11 0) 10 true),
 (sG (sM 12 2) 10 true),
 (sG (sP 13 (.bin .leq .ifc) [.t 11, .t 12]) 10 true),
 (sP 14 .pick [.t 10, .t 13, .c (.bool false)]),
 (sM 6 14)])
 (.ret [6])))
def verify_within_int64_I : FInfo := ⟨(.fz false), 3, verify_within_int64_C, [.tmp 6]⟩
def verify_within_int64_A : Ann := ⟨[], [], [], [], []⟩
abbrev n_verify_within_int64 : Nat := 274

/-! ### (*balise/graph.Graph).section -/
def graph_Graph_section_C : CCode :=
 (.seq
 (.ops [
 (sH 4 (.newl 4 [(.int .i64 0), (.int .i64 0), (.int .i64 0)]) []),
 (sP 5 .mov [.c (.bool false)])])
 (.seq
 (.seq
 (.ops [
 (sM 6 0),
 (sP 7 (.bin .eql .ptr) [.t 6, .c .nilp]),
 (sM 8 7),
 (sG (sM 9 1) 8 false),
 (sG (sP 10 (.bin .lss .ifc) [.t 9, .c (.int .i64 0)]) 8 false),
 (sP 11 .pick [.t 8, .c (.bool true), .t 10]),
 (sM 12 11),
 (sG (sM 13 1) 12 false),
 (sG (sM 14 0) 12 false),
 (sG (sP 15 .nchk [.t 14]) 12 false),
 (sG (sP 16 (.faddr 0) [.t 15]) 12 false),
 (sG (sP 17 (.faddr 1) [.t 16]) 12 false),
 (sG (sH 18 (.load false 1) [.t 17]) 12 false),
 (sG (sP 19 .len [.t 18]) 12 false),
 (sG (sP 20 (.bin .geq .ifc) [.t 13, .t 19]) 12 false),
 (sP 21 .pick [.t 12, .c (.bool true), .t 20])])
 (.cond (.t 21)
 (.seq
 (.ops [
 (sP 22 (.bld [(.int .i64 0), (.int .i64 0), (.int .i64 0)] []) []),
 (sHn (.store 3) [.t 4, .t 22]),
 (sP 5 .mov [.c (.bool false)])])
 (.ret [4, 5]))
 .skip))
 (.seq
 (.ops [
 (sM 23 0),
 (sP 24 .nchk [.t 23]),
 (sP 25 (.faddr 0) [.t 24]),
 (sP 26 (.faddr 1) [.t 25]),
 (sH 27 (.load false 1) [.t 26]),
 (sM 28 1),
 (sP 29 (.iaddr 3) [.t 27, .t 28]),
 (sH 30 (.load true 3) [.t 29]),
 (sHn (.store 3) [.t 4, .t 30]),
 (sP 5 .mov [.c (.bool true)])])
 (.ret [4, 5]))))
def graph_Graph_section_I : FInfo := ⟨(.fz false), 2, graph_Graph_section_C, [.cell 4 true 3, .tmp 5]⟩
def graph_Graph_section_A : Ann := ⟨[], [], [], [], [4]⟩
abbrev n_graph_Graph_section : Nat := 275

/-! ### (*balise/graph.Graph).Point -/
def graph_Graph_Point_C : CCode :=
 (.seq
 (.ops [
 (sH 3 .boxh [.t 1]),
 (sP 4 .mov [.c (.int .i64 0)])])
 (.seq
 (.seq
 (.ops [
 (sM 5 0),
 (sP 6 (.bin .eql .ptr) [.t 5, .c .nilp])])
 (.cond (.t 6)
 (.seq
 (.ops [
 (sP 4 .mov [.c (.int .i64 (-1))])])
 (.ret [4]))
 .skip))
 (.seq
 (.ops [
 (sM 7 0),
 (sP 8 .nchk [.t 7]),
 (sP 9 (.faddr 0) [.t 8]),
 (sP 10 (.faddr 3) [.t 9]),
 (sH 11 (.load false 1) [.t 10]),
 (sP 12 (.mkfn (.func 305) 0) [.t 3]),
 (sC 13 304 [.t 11, .t 12]),
 (sM 4 13)])
 (.ret [4]))))
def graph_Graph_Point_I : FInfo := ⟨(.fz false), 2, graph_Graph_Point_C, [.tmp 4]⟩
def graph_Graph_Point_A : Ann := ⟨[3], [], [], [], []⟩
abbrev n_graph_Graph_Point : Nat := 276

/-! ### (balise/verify.judge).on -/
def verify_judge_on_C : CCode :=
 (.seq
 (.ops [
 (sH 4 (.box 4) [.t 0]),
 (sP 8 .mov [.c (.bool false)])])
 (.seq
 (.ops [
 (sH 9 (.load true 11) [.t 4]),
 (sM 10 1),
 (sM 11 3),
 (sC 12 307 [.t 9, .t 10, .t 11]),
 (sP 13 (.faddr 0) [.t 4]),
 (sP 14 (.faddr 0) [.t 13]),
 (sH 15 (.load false 1) [.t 14]),
 (sM 16 3),
 (sP 17 (.iaddr 1) [.t 15, .t 16]),
 (sH 18 (.load false 1) [.t 17]),
 (sH 19 (.load true 11) [.t 4]),
 (sM 20 2),
 (sM 21 3),
 (sC 22 307 [.t 19, .t 20, .t 21]),
 (sC 23 306 [.t 12, .t 18, .t 22]),
 (sM 8 23)])
 (.ret [8])))
def verify_judge_on_I : FInfo := ⟨(.fz false), 4, verify_judge_on_C, [.tmp 8]⟩
def verify_judge_on_A : Ann := ⟨[], [], [], [], [4]⟩
abbrev n_verify_judge_on : Nat := 277

/-! ### (balise/verify.judge).part$1 -/
def verify_judge_part_1_C : CCode :=
 (.seq
 (.ops [
 (sP 3 .mov [.c (.bool false)])])
 (.seq
 (.ops [
 (sM 4 0),
 (sP 5 (.faddr 0) [.t 1]),
 (sP 6 (.faddr 1) [.t 5]),
 (sH 7 (.load false 1) [.t 6]),
 (sP 8 .len [.t 7]),
 (sP 9 (.bin .sub .ifc) [.t 8, .c (.int .i64 1)]),
 (sC 10 220 [.t 4, .c (.int .i64 0), .t 9]),
 (sP 11 (.un .not) [.t 10]),
 (sM 3 11)])
 (.ret [3])))
def verify_judge_part_1_I : FInfo := ⟨(.fz false), 2, verify_judge_part_1_C, [.tmp 3]⟩
def verify_judge_part_1_A : Ann := ⟨[], [], [], [], []⟩
abbrev n_verify_judge_part_1 : Nat := 278

/-! ### slices.IndexFunc[[]int,int] -/
def slices_IndexFunc_Int_B0 : CCode :=
 (.seq
 (.ops [
 (sP 9 (.bin .lss .ifc) [.t 8, .t 7])])
 (.seq
 (.cond (.t 9)
 .skip
 (.exit 0))
 (.seq
 (.block 1 (some [0, 1, 7, 8])
 (.seq
 (.ops [
 (sM 10 8),
 (sM 5 10)])
 (.seq
 (.ops [
 (sM 11 1),
 (sM 12 0),
 (sM 13 5),
 (sP 14 (.iaddr 1) [.t 12, .t 13]),
 (sH 15 (.load false 1) [.t 14]),
 ⟨(some 16), .call, [.t 11, .t 15], none⟩])
 (.cond (.t 16)
 (.seq
 (.ops [
 (sM 17 5),
 (sM 4 17)])
 (.ret [4]))
 .skip))))
 (.ops [
 (sP 18 (.bin .add .ifc) [.t 8, .c (.int .i64 1)]),
 (sM 8 18)]))))
def slices_IndexFunc_Int_L0 : CCode := .bloop 0 [0, 1, 7, 8] [] slices_IndexFunc_Int_B0
def slices_IndexFunc_Int_C : CCode :=
 (.seq
 (.ops [
 (sP 4 .mov [.c (.int .i64 0)])])
 (.seq
 (.seq
 (.ops [
 (sM 6 0),
 (sP 7 .len [.t 6]),
 (sP 8 .mov [.c (.int .i64 0)])])
 slices_IndexFunc_Int_L0)
 (.seq
 (.ops [
 (sP 4 .mov [.c (.int .i64 (-1))])])
 (.ret [4]))))
def slices_IndexFunc_Int_I : FInfo := ⟨(.fz false), 2, slices_IndexFunc_Int_C, [.tmp 4]⟩
def slices_IndexFunc_Int_A : Ann := ⟨[], [], [(0, [0, 1, 7, 8], [])], [(1, [0, 1, 7, 8])], []⟩
abbrev n_slices_IndexFunc_Int : Nat := 286

/-! ### balise/plane.Square -/
def plane_Square_C : CCode :=
 (.seq
 (.ops [
 (sP 2 .mov [.c (.float .f64 0)])])
 (.seq
 (.ops [
 (sM 3 0),
 (sM 4 0),
 (sC 5 324 [.t 3, .t 4]),
 (sM 2 5)])
 (.ret [2])))
def plane_Square_I : FInfo := ⟨(.fz false), 1, plane_Square_C, [.tmp 2]⟩
def plane_Square_A : Ann := ⟨[], [], [], [], []⟩
abbrev n_plane_Square : Nat := 303

/-! ### slices.IndexFunc[[]balise/api.Point,balise/api.Point] -/
def slices_IndexFunc_Point_B0 : CCode :=
 (.seq
 (.ops [
 (sP 9 (.bin .lss .ifc) [.t 8, .t 7])])
 (.seq
 (.cond (.t 9)
 .skip
 (.exit 0))
 (.seq
 (.block 1 (some [0, 1, 7, 8])
 (.seq
 (.ops [
 (sM 10 8),
 (sM 5 10)])
 (.seq
 (.ops [
 (sM 11 1),
 (sM 12 0),
 (sM 13 5),
 (sP 14 (.iaddr 4) [.t 12, .t 13]),
 (sH 15 (.load true 4) [.t 14]),
 ⟨(some 16), .call, [.t 11, .t 15], none⟩])
 (.cond (.t 16)
 (.seq
 (.ops [
 (sM 17 5),
 (sM 4 17)])
 (.ret [4]))
 .skip))))
 (.ops [
 (sP 18 (.bin .add .ifc) [.t 8, .c (.int .i64 1)]),
 (sM 8 18)]))))
def slices_IndexFunc_Point_L0 : CCode := .bloop 0 [0, 1, 7, 8] [] slices_IndexFunc_Point_B0
def slices_IndexFunc_Point_C : CCode :=
 (.seq
 (.ops [
 (sP 4 .mov [.c (.int .i64 0)])])
 (.seq
 (.seq
 (.ops [
 (sM 6 0),
 (sP 7 .len [.t 6]),
 (sP 8 .mov [.c (.int .i64 0)])])
 slices_IndexFunc_Point_L0)
 (.seq
 (.ops [
 (sP 4 .mov [.c (.int .i64 (-1))])])
 (.ret [4]))))
def slices_IndexFunc_Point_I : FInfo := ⟨(.fz false), 2, slices_IndexFunc_Point_C, [.tmp 4]⟩
def slices_IndexFunc_Point_A : Ann := ⟨[], [], [(0, [0, 1, 7, 8], [])], [(1, [0, 1, 7, 8])], []⟩
abbrev n_slices_IndexFunc_Point : Nat := 304

/-! ### balise/plane.Ahead -/
def plane_Ahead_C : CCode :=
 (.seq
 (.ops [
 (sP 6 .mov [.c (.bool false)])])
 (.seq
 (.ops [
 (sM 7 1),
 (sM 8 0),
 (sP 9 (.bin .sub .ifc) [.t 7, .t 8]),
 (sM 10 2),
 (sM 11 1),
 (sP 12 (.bin .sub .ifc) [.t 10, .t 11]),
 (sC 13 324 [.t 9, .t 12]),
 (sP 14 (.bin .gtr .ifc) [.t 13, .c (.float .f64 0)]),
 (sM 6 14)])
 (.ret [6])))
def plane_Ahead_I : FInfo := ⟨(.fz false), 3, plane_Ahead_C, [.tmp 6]⟩
def plane_Ahead_A : Ann := ⟨[], [], [], [], []⟩
abbrev n_plane_Ahead : Nat := 306

/-! ### (balise/verify.judge).other -/
def verify_judge_other_C : CCode :=
 (.seq
 (.ops [
 (sH 3 (.box 3) [.t 0]),
 (sP 6 .mov [.c (.cplx .f64 0 0)])])
 (.seq
 (.ops [
 (sP 8 (.faddr 0) [.t 3]),
 (sP 9 (.faddr 1) [.t 8]),
 (sH 10 (.load false 1) [.t 9]),
 (sM 11 1),
 (sP 12 (.iaddr 3) [.t 10, .t 11]),
 (sH 13 (.load true 3) [.t 12]),
 (sH 7 (.newl 7 [(.int .i64 0), (.int .i64 0), (.int .i64 0)]) []),
 (sHn (.store 3) [.t 7, .t 13])])
 (.seq
 (.seq
 (.ops [
 (sP 14 (.faddr 1) [.t 7]),
 (sH 15 (.load false 1) [.t 14]),
 (sM 16 2),
 (sP 17 (.bin .eql .int) [.t 15, .t 16])])
 (.cond (.t 17)
 (.seq
 (.ops [
 (sP 18 (.faddr 0) [.t 3]),
 (sP 19 (.faddr 0) [.t 18]),
 (sH 20 (.load false 1) [.t 19]),
 (sP 21 (.faddr 2) [.t 7]),
 (sH 22 (.load false 1) [.t 21]),
 (sP 23 (.iaddr 1) [.t 20, .t 22]),
 (sH 24 (.load false 1) [.t 23]),
 (sM 6 24)])
 (.ret [6]))
 .skip))
 (.seq
 (.ops [
 (sP 25 (.faddr 0) [.t 3]),
 (sP 26 (.faddr 0) [.t 25]),
 (sH 27 (.load false 1) [.t 26]),
 (sP 28 (.faddr 1) [.t 7]),
 (sH 29 (.load false 1) [.t 28]),
 (sP 30 (.iaddr 1) [.t 27, .t 29]),
 (sH 31 (.load false 1) [.t 30]),
 (sM 6 31)])
 (.ret [6])))))
def verify_judge_other_I : FInfo := ⟨(.fz false), 3, verify_judge_other_C, [.tmp 6]⟩
def verify_judge_other_A : Ann := ⟨[], [], [], [], [3, 7]⟩
abbrev n_verify_judge_other : Nat := 307

/-! ### balise/plane.Dot -/
def plane_Dot_C : CCode :=
 (.seq
 (.ops [
 (sP 4 .mov [.c (.float .f64 0)])])
 (.seq
 (.ops [
 (sM 5 0),
 (sM 6 1),
 (sC 7 328 [.t 5, .t 6]),
 (sP 8 .re [.t 7]),
 (sP 9 (.bin .add .ifc) [.t 8, .c (.float .f64 0)]),
 (sM 4 9)])
 (.ret [4])))
def plane_Dot_I : FInfo := ⟨(.fz false), 2, plane_Dot_C, [.tmp 4]⟩
def plane_Dot_A : Ann := ⟨[], [], [], [], []⟩
abbrev n_plane_Dot : Nat := 324

/-! ### balise/plane.turned -/
def plane_turned_C : CCode :=
 (.seq
 (.ops [
 (sP 4 .mov [.c (.cplx .f64 0 0)])])
 (.seq
 (.ops [
 (sM 5 0),
 (sP 6 .re [.t 5]),
 (sM 7 0),
 (sP 8 .im [.t 7]),
 (sP 9 (.un .neg) [.t 8]),
 (sP 10 .cplx [.t 6, .t 9]),
 (sM 11 1),
 (sP 12 (.bin .mul .ifc) [.t 10, .t 11]),
 (sM 4 12)])
 (.ret [4])))
def plane_turned_I : FInfo := ⟨(.fz false), 2, plane_turned_C, [.tmp 4]⟩
def plane_turned_A : Ann := ⟨[], [], [], [], []⟩
abbrev n_plane_turned : Nat := 328

/-! ### balise/layout.Decode$3 -/
def layout_Decode_3_C : CCode :=
 (.seq
 (.ops [
 (sH 1 (.newl 1 [(.int .i64 0), (.int .i64 0), (.int .i64 0), (.int .i64 0)]) [])])
 (.seq
 (.ops [
 (sB 2 (.load false 1) [.t 0]),
 (sCk 1 3 82 [.t 2, .t 0]),
 (sB 4 (.load false 1) [.t 0]),
 (sCk 1 5 82 [.t 4, .t 0]),
 (sB 6 (.load false 1) [.t 0]),
 (sCk 1 7 82 [.t 6, .t 0]),
 (sB 8 (.load false 1) [.t 0]),
 (sCk 1 9 82 [.t 8, .t 0]),
 (sP 10 (.bld [(.int .i64 0), (.int .i64 0), (.int .i64 0), (.int .i64 0)] [(0, 1), (1, 1), (2, 1), (3, 1)]) [.t 3, .t 5, .t 7, .t 9]),
 (sLn 1 (.store 4) [.t 1, .t 10])])
 (.ret [1])))
def layout_Decode_3_I : FInfo := ⟨.ref, 1, layout_Decode_3_C, [.cell 1 true 4]⟩
def layout_Decode_3_A : Ann := ⟨[], [2000000], [], [], [1]⟩
abbrev n_layout_Decode_3 : Nat := 85

/-! ### balise/image.Decode -/
def image_Decode_B0 : CCode :=
 (.seq
 (.seq
 (.ops [
 (sM 21 8),
 (sP 22 (.bin .gtr .ifc) [.t 21, .c (.int .u64 0)]),
 (sM 23 22),
 (sG (sM 24 6) 23 true),
 (sG (sC 25 87 [.t 24]) 23 true),
 (sP 26 .pick [.t 23, .t 25, .c (.bool false)])])
 (.cond (.t 26)
 .skip
 (.exit 0)))
 (.seq
 (.block 1 (some [6, 7, 8])
 (.ops [
 (sM 29 7),
 (sM 30 6),
 (sC 31 163 [.t 30]),
 (sH 32 (.bslF 4 1 [(.int .i64 0), (.int .i64 0), (.int .i64 0), .nils] [(0, 4)]) [.t 31]),
 (sH 33 (.app 4 48 [(.int .i64 0), (.int .i64 0), (.int .i64 0), .nils]) [.t 29, .t 32]),
 (sM 7 33)]))
 (.ops [
 (sM 27 8),
 (sP 28 (.bin .sub .ifc) [.t 27, .c (.int .u64 1)]),
 (sM 8 28)])))
def image_Decode_L0 : CCode := .bloop 0 [6, 7, 8] [6, 7] image_Decode_B0
def image_Decode_C : CCode :=
 (.seq
 (.ops [
 (sP 2 .mov [.c .nils]),
 (sP 3 .mov [.c (.int .i64 0)])])
 (.seq
 (.ops [
 (sM 10 0),
 (sC 11 74 [.t 10]),
 (sM 9 11),
 (sP 12 (.ext 0) [.t 9]),
 (sP 13 (.ext 1) [.t 9]),
 (sM 4 12),
 (sM 5 13)])
 (.seq
 (.seq
 (.ops [
 (sM 14 5),
 (sP 15 (.bin .neq .int) [.t 14, .c (.int .i64 0)])])
 (.cond (.t 15)
 (.seq
 (.ops [
 (sM 16 5),
 (sP 2 .mov [.c .nils]),
 (sM 3 16)])
 (.ret [2, 3]))
 .skip))
 (.seq
 (.ops [
 (sM 17 4),
 (sC 18 75 [.t 17]),
 (sM 6 18)])
 (.seq
 (.ops [
 (sP 7 .mov [.c .nils])])
 (.seq
 (.seq
 (.ops [
 (sM 19 6),
 (sC 20 81 [.t 19, .c (.int .i64 8)]),
 (sM 8 20)])
 image_Decode_L0)
 (.seq
 (.block 2 (some [7])
 (.seq
 (.ops [
 (sM 35 6),
 (sC 36 87 [.t 35]),
 (sP 37 (.un .not) [.t 36]),
 (sM 34 37)])
 (.cond (.t 34)
 (.seq
 (.ops [
 (sP 2 .mov [.c .nils]),
 (sP 3 .mov [.c (.int .i64 4)])])
 (.ret [2, 3]))
 (.seq
 (.ops [
 (sM 39 6),
 (sC 40 164 [.t 39]),
 (sP 41 (.un .not) [.t 40]),
 (sM 38 41)])
 (.cond (.t 38)
 (.seq
 (.ops [
 (sP 2 .mov [.c .nils]),
 (sP 3 .mov [.c (.int .i64 2)])])
 (.ret [2, 3]))
 .skip)))))
 (.seq
 (.ops [
 (sM 42 7),
 (sM 2 42),
 (sP 3 .mov [.c (.int .i64 0)])])
 (.ret [2, 3])))))))))
def image_Decode_I : FInfo := ⟨(.fz false), 1, image_Decode_C, [.tmp 2, .tmp 3]⟩
def image_Decode_A : Ann := ⟨[], [], [(0, [6, 7, 8], [6, 7])], [(1, [6, 7, 8]), (2, [7])], []⟩
abbrev n_image_Decode : Nat := 90

/-! ### (*balise/route.Table).Load -/
def route_Table_Load_B0 : CCode :=
 (.seq
 (.ops [
 (sP 19 (.bin .lss .ifc) [.t 18, .t 17])])
 (.seq
 (.cond (.t 19)
 .skip
 (.exit 0))
 (.seq
 (.block 1 (some [0, 5, 16, 17, 18])
 (.seq
 (.ops [
 (sP 20 (.iaddr 4) [.t 16, .t 18]),
 (sH 21 (.load true 4) [.t 20]),
 (sH 7 (.newl 7 [(.int .i64 0), (.int .i64 0), (.int .i64 0), .nils]) []),
 (sHn (.store 4) [.t 7, .t 21])])
 (.seq
 (.seq
 (.ops [
 (sM 22 5),
 (sH 23 (.load true 4) [.t 7]),
 (sC 24 165 [.t 22, .t 23]),
 (sP 25 (.un .not) [.t 24])])
 (.cond (.t 25)
 (.seq
 (.ops [
 (sP 4 .mov [.c (.int .i64 1)])])
 (.ret [4]))
 .skip))
 (.seq
 (.ops [
 (sP 8 .mov [.c (.int .i64 (-1))])])
 (.seq
 (.seq
 (.ops [
 (sP 26 (.faddr 2) [.t 7]),
 (sH 27 (.load false 1) [.t 26]),
 (sP 28 (.bin .neq .int) [.t 27, .c (.int .i64 (-1))])])
 (.cond (.t 28)
 (.ops [
 (sP 8 .mov [.c (.int .i64 0)])])
 .skip))
 (.ops [
 (sM 29 5),
 (sM 30 5),
 (sP 31 .nchk [.t 30]),
 (sP 32 (.faddr 11) [.t 31]),
 (sB 33 (.load false 1) [.t 32]),
 (sP 34 (.faddr 0) [.t 7]),
 (sL 35 7 (.load false 1) [.t 34]),
 (sP 36 (.faddr 1) [.t 7]),
 (sL 37 7 (.load false 1) [.t 36]),
 (sM 38 8),
 (sP 39 (.faddr 3) [.t 7]),
 (sL 40 7 (.load false 1) [.t 39]),
 (sCp 41 57 [.t 40]),
 (sP 42 (.bld [(.int .i64 0), (.int .i64 0), (.int .i64 0), .nils] [(0, 1), (1, 1), (2, 1), (3, 1)]) [.t 35, .t 37, .t 38, .t 41]),
 (sB 43 .boxh [.t 42]),
 (sH 44 (.bslF 1 1 [.nilp] [(0, 1)]) [.t 43]),
 (sB 45 (.app 1 8 [.nilp]) [.t 33, .t 44]),
 (sP 46 .nchk [.t 29]),
 (sP 47 (.faddr 11) [.t 46]),
 (sBn (.store 1) [.t 47, .t 45])]))))))
 (.ops [
 (sP 48 (.bin .add .ifc) [.t 18, .c (.int .i64 1)]),
 (sM 18 48)]))))
def route_Table_Load_L0 : CCode := .bloop 0 [0, 5, 16, 17, 18] [0, 5] route_Table_Load_B0
def route_Table_Load_C : CCode :=
 (.seq
 (.ops [
 (sP 4 .mov [.c (.int .i64 0)])])
 (.seq
 (.seq
 (.ops [
 (sM 9 0),
 (sP 10 (.bin .eql .ptr) [.t 9, .c .nilp])])
 (.cond (.t 10)
 (.seq
 (.ops [
 (sP 4 .mov [.c (.int .i64 7)])])
 (.ret [4]))
 .skip))
 (.seq
 (.ops [
 (sM 11 0),
 (sP 12 .nchk [.t 11]),
 (sP 13 (.faddr 0) [.t 12]),
 (sH 14 (.load true 10) [.t 13]),
 (sC 15 37 [.t 14]),
 (sM 5 15)])
 (.seq
 (.seq
 (.ops [
 (sM 16 1),
 (sP 17 .len [.t 16]),
 (sP 18 .mov [.c (.int .i64 0)])])
 route_Table_Load_L0)
 (.seq
 (.ops [
 (sM 49 0),
 (sM 50 5),
 (sP 51 .nchk [.t 50]),
 (sP 52 (.faddr 11) [.t 51]),
 (sH 53 (.load false 1) [.t 52]),
 (sP 54 .nchk [.t 49]),
 (sP 55 (.faddr 11) [.t 54]),
 (sHn (.store 1) [.t 55, .t 53])])
 (.seq
 (.ops [
 (sP 4 .mov [.c (.int .i64 0)])])
 (.ret [4])))))))
def route_Table_Load_I : FInfo := ⟨.ref, 2, route_Table_Load_C, [.tmp 4]⟩
def route_Table_Load_A : Ann := ⟨[43], [], [(0, [0, 5, 16, 17, 18], [0, 5])], [(1, [0, 5, 16, 17, 18])], [7]⟩
abbrev n_route_Table_Load : Nat := 91

/-! ### (*balise/route.Table).Anew -/
def route_Table_Anew_B0 : CCode :=
 (.seq
 (.ops [
 (sP 14 (.bin .lss .ifc) [.t 13, .t 12])])
 (.seq
 (.cond (.t 14)
 .skip
 (.exit 0))
 (.seq
 (.block 1 (some [0, 1, 11, 12, 13])
 (.seq
 (.ops [
 (sP 15 (.iaddr 1) [.t 11, .t 13]),
 (sH 16 (.load false 1) [.t 15]),
 (sM 5 16)])
 (.seq
 (.ops [
 (sM 17 5),
 (sP 18 .nchk [.t 17]),
 (sP 19 (.faddr 2) [.t 18]),
 (sH 20 (.load false 1) [.t 19]),
 (sP 21 (.bin .geq .ifc) [.t 20, .c (.int .i64 0)])])
 (.cond (.t 21)
 (.ops [
 (sM 22 5),
 (sM 23 1),
 (sM 24 0),
 (sP 25 .nchk [.t 24]),
 (sP 26 (.faddr 0) [.t 25]),
 (sP 27 (.faddr 8) [.t 26]),
 (sH 28 (.load false 1) [.t 27]),
 (sP 29 (.bin .add .ifc) [.t 23, .t 28]),
 (sP 30 .nchk [.t 22]),
 (sP 31 (.faddr 2) [.t 30]),
 (sHn (.store 1) [.t 31, .t 29])])
 .skip))))
 (.ops [
 (sP 32 (.bin .add .ifc) [.t 13, .c (.int .i64 1)]),
 (sM 13 32)]))))
def route_Table_Anew_L0 : CCode := .bloop 0 [0, 1, 11, 12, 13] [] route_Table_Anew_B0
def route_Table_Anew_C : CCode :=
 (.seq
 (.seq
 (.ops [
 (sM 6 0),
 (sP 7 (.bin .eql .ptr) [.t 6, .c .nilp])])
 (.cond (.t 7)
 (.ret [])
 .skip))
 (.seq
 (.ops [
 (sM 8 0),
 (sP 9 .nchk [.t 8]),
 (sP 10 (.faddr 11) [.t 9]),
 (sH 11 (.load false 1) [.t 10]),
 (sP 12 .len [.t 11]),
 (sP 13 .mov [.c (.int .i64 0)])])
 route_Table_Anew_L0))
def route_Table_Anew_I : FInfo := ⟨.ref, 2, route_Table_Anew_C, []⟩
def route_Table_Anew_A : Ann := ⟨[], [], [(0, [0, 1, 11, 12, 13], [])], [(1, [0, 1, 11, 12, 13])], []⟩
abbrev n_route_Table_Anew : Nat := 92

/-! ### balise/route.over -/
def route_over_C : CCode :=
 (.seq
 (.ops [
 (sP 2 .mov [.c (.bool false)])])
 (.seq
 (.ops [
 (sM 3 0),
 (sC 4 198 [.t 3, .c (.fn (.func 201) [] [])]),
 (sP 5 (.un .not) [.t 4]),
 (sM 2 5)])
 (.ret [2])))
def route_over_I : FInfo := ⟨(.fz false), 1, route_over_C, [.tmp 2]⟩
def route_over_A : Ann := ⟨[], [], [], [], []⟩
abbrev n_route_over : Nat := 129

/-! ### slices.Equal[[]int,int] -/
def slices_Equal_int_B0 : CCode :=
 (.seq
 (.ops [
 (sP 14 (.bin .lss .ifc) [.t 13, .t 12])])
 (.seq
 (.cond (.t 14)
 .skip
 (.exit 0))
 (.seq
 (.block 1 (some [0, 1, 12, 13])
 (.seq
 (.ops [
 (sM 15 13),
 (sM 5 15)])
 (.seq
 (.ops [
 (sM 16 0),
 (sM 17 5),
 (sP 18 (.iaddr 1) [.t 16, .t 17]),
 (sH 19 (.load false 1) [.t 18]),
 (sM 20 1),
 (sM 21 5),
 (sP 22 (.iaddr 1) [.t 20, .t 21]),
 (sH 23 (.load false 1) [.t 22]),
 (sP 24 (.bin .neq .int) [.t 19, .t 23])])
 (.cond (.t 24)
 (.seq
 (.ops [
 (sP 4 .mov [.c (.bool false)])])
 (.ret [4]))
 .skip))))
 (.ops [
 (sP 25 (.bin .add .ifc) [.t 13, .c (.int .i64 1)]),
 (sM 13 25)]))))
def slices_Equal_int_L0 : CCode := .bloop 0 [0, 1, 12, 13] [] slices_Equal_int_B0
def slices_Equal_int_C : CCode :=
 (.seq
 (.ops [
 (sP 4 .mov [.c (.bool false)])])
 (.seq
 (.seq
 (.ops [
 (sM 6 0),
 (sP 7 .len [.t 6]),
 (sM 8 1),
 (sP 9 .len [.t 8]),
 (sP 10 (.bin .neq .int) [.t 7, .t 9])])
 (.cond (.t 10)
 (.seq
 (.ops [
 (sP 4 .mov [.c (.bool false)])])
 (.ret [4]))
 .skip))
 (.seq
 (.seq
 (.ops [
 (sM 11 0),
 (sP 12 .len [.t 11]),
 (sP 13 .mov [.c (.int .i64 0)])])
 slices_Equal_int_L0)
 (.seq
 (.ops [
 (sP 4 .mov [.c (.bool true)])])
 (.ret [4])))))
def slices_Equal_int_I : FInfo := ⟨(.fz false), 2, slices_Equal_int_C, [.tmp 4]⟩
def slices_Equal_int_A : Ann := ⟨[], [], [(0, [0, 1, 12, 13], [])], [(1, [0, 1, 12, 13])], []⟩
abbrev n_slices_Equal_int : Nat := 131

/-! ### balise/image.lock -/
def image_lock_B0 : CCode :=
 (.seq
 (.ops [
 (sP 17 (.bin .lss .ifc) [.t 16, .t 15])])
 (.seq
 (.cond (.t 17)
 .skip
 (.exit 0))
 (.seq
 (.block 1 (some [0, 2, 3, 15, 16])
 (.ops [
 (sP 18 (.faddr 3) [.t 3]),
 (sL 19 3 (.load false 1) [.t 18]),
 (sM 20 0),
 (sCb 21 81 [.t 20, .c (.int .i64 2)]),
 (sP 22 (.toInt .u8) [.t 21]),
 (sH 23 (.bslF 1 1 [(.int .u8 0)] [(0, 1)]) [.t 22]),
 (sB 24 (.app 1 1 [(.int .u8 0)]) [.t 19, .t 23]),
 (sP 25 (.faddr 3) [.t 3]),
 (sLn 3 (.store 1) [.t 25, .t 24])]))
 (.ops [
 (sP 26 (.bin .add .ifc) [.t 16, .c (.int .u64 1)]),
 (sM 16 26)]))))
def image_lock_L0 : CCode := .bloop 0 [0, 2, 3, 15, 16] [2, 3] image_lock_B0
def image_lock_C : CCode :=
 (.seq
 (.ops [
 (sH 2 (.newl 2 [(.int .i64 0), (.int .i64 0), (.int .i64 0), .nils]) [])])
 (.seq
 (.ops [
 (sM 4 0),
 (sC 5 81 [.t 4, .c (.int .i64 8)]),
 (sP 6 (.toInt .i64) [.t 5]),
 (sM 7 0),
 (sC 8 81 [.t 7, .c (.int .i64 8)]),
 (sP 9 (.toInt .i64) [.t 8]),
 (sP 10 (.bld [(.int .i64 0), (.int .i64 0), (.int .i64 0), .nils] [(0, 1), (1, 1), (2, 1)]) [.t 6, .t 9, .c (.int .i64 (-1))]),
 (sH 3 (.newl 3 [(.int .i64 0), (.int .i64 0), (.int .i64 0), .nils]) []),
 (sHn (.store 4) [.t 3, .t 10])])
 (.seq
 (.seq
 (.ops [
 (sM 11 0),
 (sC 12 232 [.t 11])])
 (.cond (.t 12)
 (.ops [
 (sP 13 (.faddr 2) [.t 3]),
 (sHn (.store 1) [.t 13, .c (.int .i64 0)])])
 .skip))
 (.seq
 (.seq
 (.ops [
 (sM 14 0),
 (sC 15 81 [.t 14, .c (.int .i64 4)]),
 (sP 16 .mov [.c (.int .u64 0)])])
 image_lock_L0)
 (.seq
 (.ops [
 (sH 27 (.load true 4) [.t 3]),
 (sHn (.store 4) [.t 2, .t 27])])
 (.ret [2]))))))
def image_lock_I : FInfo := ⟨.ref, 1, image_lock_C, [.cell 2 true 4]⟩
def image_lock_A : Ann := ⟨[], [], [(0, [0, 2, 3, 15, 16], [2, 3])], [(1, [0, 2, 3, 15, 16])], [2, 3]⟩
abbrev n_image_lock : Nat := 163

/-! ### (*balise/bits.Reader).End -/
def bits_Reader_End_C : CCode :=
 (.seq
 (.ops [
 (sP 2 .mov [.c (.bool false)])])
 (.seq
 (.ops [
 (sM 5 0),
 (sC 6 88 [.t 5]),
 (sM 3 6)])
 (.seq
 (.seq
 (.ops [
 (sM 7 0),
 (sC 8 87 [.t 7]),
 (sP 9 (.un .not) [.t 8]),
 (sM 10 9),
 (sG (sM 11 3) 10 false),
 (sG (sP 12 (.bin .geq .ifc) [.t 11, .c (.int .i64 8)]) 10 false),
 (sP 13 .pick [.t 10, .c (.bool true), .t 12])])
 (.cond (.t 13)
 (.seq
 (.ops [
 (sP 2 .mov [.c (.bool false)])])
 (.ret [2]))
 .skip))
 (.seq
 (.ops [
 (sM 14 0),
 (sP 15 .nchk [.t 14]),
 (sH 16 (.load true 3) [.t 15]),
 (sH 4 (.newh [.nils, (.int .i64 0), (.bool false)]) []),
 (sHn (.store 3) [.t 4, .t 16])])
 (.seq
 (.ops [
 (sM 17 3),
 (sC 18 81 [.t 4, .t 17]),
 (sP 19 (.bin .eql .int) [.t 18, .c (.int .u64 0)]),
 (sM 2 19)])
 (.ret [2]))))))
def bits_Reader_End_I : FInfo := ⟨.ref, 1, bits_Reader_End_C, [.tmp 2]⟩
def bits_Reader_End_A : Ann := ⟨[4], [], [], [], []⟩
abbrev n_bits_Reader_End : Nat := 164

/-! ### (*balise/route.Table).fits -/
def route_Table_fits_B0 : CCode :=
 (.seq
 (.ops [
 (sP 44 (.bin .lss .ifc) [.t 43, .t 42])])
 (.seq
 (.cond (.t 44)
 .skip
 (.exit 0))
 (.seq
 (.block 1 (some [0, 3, 41, 42, 43])
 (.seq
 (.ops [
 (sM 45 43),
 (sP 46 (.iaddr 1) [.t 41, .t 43]),
 (sH 47 (.load false 1) [.t 46]),
 (sM 5 45),
 (sM 6 47)])
 (.seq
 (.ops [
 (sM 48 6),
 (sP 49 (.bin .gtr .ifc) [.t 48, .c (.int .u8 2)]),
 (sM 50 49),
 (sG (sM 51 6) 50 false),
 (sG (sP 52 (.bin .neq .int) [.t 51, .c (.int .u8 0)]) 50 false),
 (sG (sM 53 52) 50 false),
 (sG (sM 54 0) 53 true),
 (sG (sM 55 0) 53 true),
 (sG (sP 56 (.faddr 0) [.t 3]) 53 true),
 (sG (sH 57 (.load false 1) [.t 56]) 53 true),
 (sG (sC 58 196 [.t 55, .t 57]) 53 true),
 (sG (sM 59 5) 53 true),
 (sG (sP 60 (.iaddr 1) [.t 58, .t 59]) 53 true),
 (sG (sH 61 (.load false 1) [.t 60]) 53 true),
 (sG (sC 62 233 [.t 54, .t 61]) 53 true),
 (sG (sP 63 (.bin .geq .ifc) [.t 62, .c (.int .i64 0)]) 53 true),
 (sG (sP 64 .pick [.t 53, .t 63, .c (.bool false)]) 50 false),
 (sP 65 .pick [.t 50, .c (.bool true), .t 64])])
 (.cond (.t 65)
 (.seq
 (.ops [
 (sP 4 .mov [.c (.bool false)])])
 (.ret [4]))
 .skip))))
 (.ops [
 (sP 66 (.bin .add .ifc) [.t 43, .c (.int .i64 1)]),
 (sM 43 66)]))))
def route_Table_fits_L0 : CCode := .bloop 0 [0, 3, 41, 42, 43] [] route_Table_fits_B0
def route_Table_fits_C : CCode :=
 (.seq
 (.ops [
 (sH 3 (.box 3) [.t 1]),
 (sP 4 .mov [.c (.bool false)])])
 (.seq
 (.seq
 (.ops [
 (sM 7 0),
 (sP 8 (.faddr 0) [.t 3]),
 (sL 9 3 (.load false 1) [.t 8]),
 (sCb 10 186 [.t 7, .t 9]),
 (sP 11 (.un .not) [.t 10]),
 (sM 12 11),
 (sG (sM 13 0) 12 false),
 (sG (sP 14 (.faddr 0) [.t 3]) 12 false),
 (sG (sL 15 3 (.load false 1) [.t 14]) 12 false),
 (sG (sCb 16 187 [.t 13, .t 15]) 12 false),
 (sG (sP 17 (.bin .neq .ptr) [.t 16, .c .nilp]) 12 false),
 (sP 18 .pick [.t 12, .c (.bool true), .t 17]),
 (sM 19 18),
 (sG (sP 20 (.faddr 1) [.t 3]) 19 false),
 (sG (sL 21 3 (.load false 1) [.t 20]) 19 false),
 (sG (sP 22 (.bin .lss .ifc) [.t 21, .c (.int .i64 0)]) 19 false),
 (sP 23 .pick [.t 19, .c (.bool true), .t 22]),
 (sM 24 23),
 (sG (sP 25 (.faddr 3) [.t 3]) 24 false),
 (sG (sL 26 3 (.load false 1) [.t 25]) 24 false),
 (sG (sP 27 .len [.t 26]) 24 false),
 (sG (sM 28 0) 24 false),
 (sG (sP 29 (.faddr 0) [.t 3]) 24 false),
 (sG (sL 30 3 (.load false 1) [.t 29]) 24 false),
 (sG (sCb 31 196 [.t 28, .t 30]) 24 false),
 (sG (sP 32 .len [.t 31]) 24 false),
 (sG (sP 33 (.bin .neq .int) [.t 27, .t 32]) 24 false),
 (sP 34 .pick [.t 24, .c (.bool true), .t 33]),
 (sM 35 34),
 (sG (sP 36 (.faddr 3) [.t 3]) 35 false),
 (sG (sL 37 3 (.load false 1) [.t 36]) 35 false),
 (sG (sCb 38 129 [.t 37]) 35 false),
 (sP 39 .pick [.t 35, .c (.bool true), .t 38])])
 (.cond (.t 39)
 (.seq
 (.ops [
 (sP 4 .mov [.c (.bool false)])])
 (.ret [4]))
 .skip))
 (.seq
 (.seq
 (.ops [
 (sP 40 (.faddr 3) [.t 3]),
 (sH 41 (.load false 1) [.t 40]),
 (sP 42 .len [.t 41]),
 (sP 43 .mov [.c (.int .i64 0)])])
 route_Table_fits_L0)
 (.seq
 (.ops [
 (sP 4 .mov [.c (.bool true)])])
 (.ret [4])))))
def route_Table_fits_I : FInfo := ⟨.ref, 2, route_Table_fits_C, [.tmp 4]⟩
def route_Table_fits_A : Ann := ⟨[], [], [(0, [0, 3, 41, 42, 43], [])], [(1, [0, 3, 41, 42, 43])], [3]⟩
abbrev n_route_Table_fits : Nat := 165

/-! ### math/bits.Mul32 -/
def math_bits_Mul32_C : CCode :=
 (.seq
 (.ops [
 (sP 4 .mov [.c (.int .u32 0)]),
 (sP 5 .mov [.c (.int .u32 0)])])
 (.seq
 (.ops [
 (sM 7 0),
 (sP 8 (.toInt .u64) [.t 7]),
 (sM 9 1),
 (sP 10 (.toInt .u64) [.t 9]),
 (sP 11 (.bin .mul .ifc) [.t 8, .t 10]),
 (sM 6 11)])
 (.seq
 (.ops [
 (sM 12 6),
 (sP 13 (.bin .shr .ifc) [.t 12, .c (.int .u64 32)]),
 (sP 14 (.toInt .u32) [.t 13]),
 (sM 15 6),
 (sP 16 (.toInt .u32) [.t 15]),
 (sM 4 14),
 (sM 5 16)])
 (.ret [4, 5]))))
def math_bits_Mul32_I : FInfo := ⟨(.fz false), 2, math_bits_Mul32_C, [.tmp 4, .tmp 5]⟩
def math_bits_Mul32_A : Ann := ⟨[], [], [], [], []⟩
abbrev n_math_bits_Mul32 : Nat := 166

/-! ### (*balise/route.Table).has -/
def route_Table_has_C : CCode :=
 (.seq
 (.ops [
 (sP 4 .mov [.c (.bool false)])])
 (.seq
 (.ops [
 (sM 5 0),
 (sP 6 (.bin .neq .ptr) [.t 5, .c .nilp]),
 (sM 7 6),
 (sG (sM 8 1) 7 true),
 (sG (sP 9 (.bin .geq .ifc) [.t 8, .c (.int .i64 0)]) 7 true),
 (sP 10 .pick [.t 7, .t 9, .c (.bool false)]),
 (sM 11 10),
 (sG (sM 12 1) 11 true),
 (sG (sM 13 0) 11 true),
 (sG (sP 14 .nchk [.t 13]) 11 true),
 (sG (sP 15 (.faddr 0) [.t 14]) 11 true),
 (sG (sP 16 (.faddr 4) [.t 15]) 11 true),
 (sG (sH 17 (.load false 1) [.t 16]) 11 true),
 (sG (sP 18 .len [.t 17]) 11 true),
 (sG (sP 19 (.bin .lss .ifc) [.t 12, .t 18]) 11 true),
 (sP 20 .pick [.t 11, .t 19, .c (.bool false)]),
 (sM 4 20)])
 (.ret [4])))
def route_Table_has_I : FInfo := ⟨.ref, 2, route_Table_has_C, [.tmp 4]⟩
def route_Table_has_A : Ann := ⟨[], [], [], [], []⟩
abbrev n_route_Table_has : Nat := 186

/-! ### (*balise/route.Table).find -/
def route_Table_find_C : CCode :=
 (.seq
 (.ops [
 (sH 3 .boxh [.t 1]),
 (sP 4 .mov [.c .nilp])])
 (.seq
 (.ops [
 (sM 6 0),
 (sP 7 .nchk [.t 6]),
 (sP 8 (.faddr 11) [.t 7]),
 (sH 9 (.load false 1) [.t 8]),
 (sP 10 (.mkfn (.func 251) 0) [.t 3]),
 (sC 11 200 [.t 9, .t 10]),
 (sM 5 11)])
 (.seq
 (.seq
 (.ops [
 (sM 12 5),
 (sP 13 (.bin .lss .ifc) [.t 12, .c (.int .i64 0)])])
 (.cond (.t 13)
 (.seq
 (.ops [
 (sP 4 .mov [.c .nilp])])
 (.ret [4]))
 .skip))
 (.seq
 (.ops [
 (sM 14 0),
 (sP 15 .nchk [.t 14]),
 (sP 16 (.faddr 11) [.t 15]),
 (sH 17 (.load false 1) [.t 16]),
 (sM 18 5),
 (sP 19 (.iaddr 1) [.t 17, .t 18]),
 (sH 20 (.load false 1) [.t 19]),
 (sM 4 20)])
 (.ret [4])))))
def route_Table_find_I : FInfo := ⟨.ref, 2, route_Table_find_C, [.tmp 4]⟩
def route_Table_find_A : Ann := ⟨[3], [], [], [], []⟩
abbrev n_route_Table_find : Nat := 187

/-! ### (*balise/graph.Graph).Path -/
def graph_Graph_Path_B0 : CCode :=
 (.seq
 (.ops [
 (sP 17 (.bin .lss .ifc) [.t 16, .t 15])])
 (.seq
 (.cond (.t 17)
 .skip
 (.exit 0))
 (.seq
 (.block 1 (some [0, 1, 14, 15, 16])
 (.seq
 (.ops [
 (sM 18 16),
 (sP 19 (.iaddr 1) [.t 14, .t 16]),
 (sH 20 (.load false 1) [.t 19]),
 (sM 6 18),
 (sM 7 20)])
 (.seq
 (.ops [
 (sM 21 1),
 (sM 22 6),
 (sP 23 (.slc 1 false true) [.t 21, .t 22]),
 (sM 24 7),
 (sC 25 183 [.t 23, .t 24])])
 (.cond (.t 25)
 (.seq
 (.ops [
 (sP 4 .mov [.c .nils]),
 (sP 5 .mov [.c (.bool false)])])
 (.ret [4, 5]))
 .skip))))
 (.ops [
 (sP 26 (.bin .add .ifc) [.t 16, .c (.int .i64 1)]),
 (sM 16 26)]))))
def graph_Graph_Path_L0 : CCode := .bloop 0 [0, 1, 14, 15, 16] [0, 1] graph_Graph_Path_B0

def graph_Graph_Path_B2 : CCode :=
 (.seq
 (.ops [
 (sP 28 (.bin .lss .ifc) [.t 27, .c (.int .i64 2)])])
 (.seq
 (.cond (.t 28)
 .skip
 (.exit 2))
 (.seq
 (.block 3 (some [0, 1, 27])
 (.seq
 (.ops [
 (sM 29 27),
 (sM 8 29)])
 (.seq
 (.ops [
 (sM 31 0),
 (sM 32 1),
 (sP 33 (.iaddr 1) [.t 32, .c (.int .i64 0)]),
 (sH 34 (.load false 1) [.t 33]),
 (sM 35 8),
 (sP 36 (.bld [(.int .i64 0), (.int .i64 0)] [(0, 1), (1, 1)]) [.t 34, .t 35]),
 (sM 37 1),
 (sP 38 (.slc 1 true false) [.t 37, .c (.int .i64 1)]),
 (sC 39 253 [.t 31, .t 36, .t 38]),
 (sM 30 39),
 (sP 40 (.ext 0) [.t 30]),
 (sP 41 (.ext 1) [.t 30]),
 (sM 9 40),
 (sM 10 41)])
 (.seq
 (.ops [
 (sM 42 10)])
 (.cond (.t 42)
 (.seq
 (.ops [
 (sM 43 9),
 (sM 4 43),
 (sP 5 .mov [.c (.bool true)])])
 (.ret [4, 5]))
 .skip)))))
 (.ops [
 (sP 44 (.bin .add .ifc) [.t 27, .c (.int .i64 1)]),
 (sM 27 44)]))))
def graph_Graph_Path_L2 : CCode := .bloop 2 [0, 1, 27] [] graph_Graph_Path_B2
def graph_Graph_Path_C : CCode :=
 (.seq
 (.ops [
 (sP 4 .mov [.c .nils]),
 (sP 5 .mov [.c (.bool false)])])
 (.seq
 (.seq
 (.ops [
 (sM 11 1),
 (sP 12 .len [.t 11]),
 (sP 13 (.bin .lss .ifc) [.t 12, .c (.int .i64 2)])])
 (.cond (.t 13)
 (.seq
 (.ops [
 (sP 4 .mov [.c .nils]),
 (sP 5 .mov [.c (.bool false)])])
 (.ret [4, 5]))
 .skip))
 (.seq
 (.seq
 (.ops [
 (sM 14 1),
 (sP 15 .len [.t 14]),
 (sP 16 .mov [.c (.int .i64 0)])])
 graph_Graph_Path_L0)
 (.seq
 (.seq
 (.ops [
 (sP 27 .mov [.c (.int .i64 0)])])
 graph_Graph_Path_L2)
 (.seq
 (.ops [
 (sP 4 .mov [.c .nils]),
 (sP 5 .mov [.c (.bool false)])])
 (.ret [4, 5]))))))
def graph_Graph_Path_I : FInfo := ⟨(.fz false), 2, graph_Graph_Path_C, [.tmp 4, .tmp 5]⟩
def graph_Graph_Path_A : Ann := ⟨[], [], [(0, [0, 1, 14, 15, 16], [0, 1]), (2, [0, 1, 27], [])], [(1, [0, 1, 14, 15, 16]), (3, [0, 1, 27])], []⟩
abbrev n_graph_Graph_Path : Nat := 189

/-! ### (*balise/route.Table).pieces -/
def route_Table_pieces_C : CCode :=
 (.seq
 (.ops [
 (sP 4 .mov [.c .nils])])
 (.seq
 (.ops [
 (sM 5 0),
 (sP 6 .nchk [.t 5]),
 (sP 7 (.faddr 0) [.t 6]),
 (sP 8 (.faddr 4) [.t 7]),
 (sH 9 (.load false 1) [.t 8]),
 (sM 10 1),
 (sP 11 (.iaddr 1) [.t 9, .t 10]),
 (sH 12 (.load false 1) [.t 11]),
 (sP 13 (.slc 1 true false) [.t 12, .c (.int .i64 1)]),
 (sM 4 13)])
 (.ret [4])))
def route_Table_pieces_I : FInfo := ⟨.ref, 2, route_Table_pieces_C, [.tmp 4]⟩
def route_Table_pieces_A : Ann := ⟨[], [], [], [], []⟩
abbrev n_route_Table_pieces : Nat := 196

/-! ### (balise/verify.judge).point -/
def verify_judge_point_C : CCode :=
 (.seq
 (.ops [
 (sH 2 (.box 2) [.t 0]),
 (sP 4 .mov [.c (.bool false)])])
 (.seq
 (.ops [
 (sP 9 (.faddr 0) [.t 2]),
 (sP 10 (.faddr 3) [.t 9]),
 (sH 11 (.load false 1) [.t 10]),
 (sM 12 1),
 (sP 13 (.iaddr 4) [.t 11, .t 12]),
 (sH 14 (.load true 4) [.t 13]),
 (sH 5 (.newl 5 [(.int .i64 0), (.int .i64 0), (.int .i64 0), (.int .i64 0)]) []),
 (sHn (.store 4) [.t 5, .t 14])])
 (.seq
 (.ops [
 (sP 15 (.faddr 10) [.t 2]),
 (sH 16 (.load false 1) [.t 15]),
 (sP 17 (.faddr 0) [.t 5]),
 (sH 18 (.load false 1) [.t 17]),
 (sC 19 225 [.t 16, .t 18]),
 (sM 6 19)])
 (.seq
 (.seq
 (.ops [
 (sH 20 (.load true 11) [.t 2]),
 (sP 21 (.faddr 0) [.t 5]),
 (sH 22 (.load false 1) [.t 21]),
 (sC 23 272 [.t 20, .t 22]),
 (sP 24 (.un .not) [.t 23]),
 (sM 25 24),
 (sG (sM 26 6) 25 false),
 (sG (sP 27 .len [.t 26]) 25 false),
 (sG (sP 28 (.bin .neq .int) [.t 27, .c (.int .i64 3)]) 25 false),
 (sP 29 .pick [.t 25, .c (.bool true), .t 28])])
 (.cond (.t 29)
 (.seq
 (.ops [
 (sP 4 .mov [.c (.bool false)])])
 (.ret [4]))
 .skip))
 (.seq
 (.ops [
 (sM 30 6),
 (sP 31 (.iaddr 2) [.t 30, .c (.int .i64 0)]),
 (sP 32 (.faddr 0) [.t 31]),
 (sH 33 (.load false 1) [.t 32]),
 (sM 34 6),
 (sP 35 (.iaddr 2) [.t 34, .c (.int .i64 1)]),
 (sP 36 (.faddr 0) [.t 35]),
 (sH 37 (.load false 1) [.t 36]),
 (sM 38 6),
 (sP 39 (.iaddr 2) [.t 38, .c (.int .i64 2)]),
 (sP 40 (.faddr 0) [.t 39]),
 (sH 41 (.load false 1) [.t 40]),
 (sH 42 (.bslF 1 3 [(.int .i64 0)] [(0, 1), (1, 1), (2, 1)]) [.t 33, .t 37, .t 41]),
 (sM 7 42)])
 (.seq
 (.ops [
 (sP 43 (.faddr 1) [.t 5]),
 (sH 44 (.load false 1) [.t 43]),
 (sP 45 (.faddr 2) [.t 5]),
 (sH 46 (.load false 1) [.t 45]),
 (sP 47 (.faddr 3) [.t 5]),
 (sH 48 (.load false 1) [.t 47]),
 (sH 49 (.bslO 1 3 [(.int .i64 0)] [(0, 1), (1, 1), (2, 1)]) [.t 44, .t 46, .t 48]),
 (sM 8 49)])
 (.seq
 (.ops [
 (sM 50 8),
 (sC 51 210 [.t 50])])
 (.seq
 (.ops [
 (sM 52 7),
 (sM 53 8),
 (sC 54 131 [.t 52, .t 53]),
 (sM 55 54),
 (sG (sM 56 8) 55 true),
 (sG (sC 57 248 [.t 56]) 55 true),
 (sG (sP 58 .len [.t 57]) 55 true),
 (sG (sP 59 (.bin .eql .int) [.t 58, .c (.int .i64 3)]) 55 true),
 (sP 60 .pick [.t 55, .t 59, .c (.bool false)]),
 (sM 4 60)])
 (.ret [4])))))))))
def verify_judge_point_I : FInfo := ⟨(.fz false), 2, verify_judge_point_C, [.tmp 4]⟩
def verify_judge_point_A : Ann := ⟨[], [49], [], [], [2, 5]⟩
abbrev n_verify_judge_point : Nat := 226

/-! ### (balise/verify.judge).route -/
def verify_judge_route_C : CCode :=
 (.seq
 (.ops [
 (sH 2 (.box 2) [.t 0]),
 (sP 4 .mov [.c (.bool false)])])
 (.seq
 (.ops [
 (sP 8 (.faddr 0) [.t 2]),
 (sP 9 (.faddr 4) [.t 8]),
 (sH 10 (.load false 1) [.t 9]),
 (sM 11 1),
 (sP 12 (.iaddr 1) [.t 10, .t 11]),
 (sH 13 (.load false 1) [.t 12]),
 (sM 5 13)])
 (.seq
 (.ops [
 (sP 15 (.faddr 10) [.t 2]),
 (sH 16 (.load false 1) [.t 15]),
 (sM 17 5),
 (sC 18 189 [.t 16, .t 17]),
 (sM 14 18),
 (sP 19 (.ext 0) [.t 14]),
 (sP 20 (.ext 1) [.t 14]),
 (sM 6 19),
 (sM 7 20)])
 (.seq
 (.ops [
 (sM 21 7),
 (sM 22 21),
 (sG (sM 23 5) 22 true),
 (sG (sP 24 .len [.t 23]) 22 true),
 (sG (sP 25 (.bin .leq .ifc) [.t 24, .c (.int .i64 12)]) 22 true),
 (sP 26 .pick [.t 22, .t 25, .c (.bool false)]),
 (sM 4 26)])
 (.ret [4])))))
def verify_judge_route_I : FInfo := ⟨(.fz false), 2, verify_judge_route_C, [.tmp 4]⟩
def verify_judge_route_A : Ann := ⟨[], [], [], [], [2]⟩
abbrev n_verify_judge_route : Nat := 231

/-! ### (*balise/bits.Reader).Flag -/
def bits_Reader_Flag_C : CCode :=
 (.seq
 (.ops [
 (sP 2 .mov [.c (.bool false)])])
 (.seq
 (.ops [
 (sM 3 0),
 (sC 4 81 [.t 3, .c (.int .i64 1)]),
 (sP 5 (.bin .eql .int) [.t 4, .c (.int .u64 1)]),
 (sM 2 5)])
 (.ret [2])))
def bits_Reader_Flag_I : FInfo := ⟨.ref, 1, bits_Reader_Flag_C, [.tmp 2]⟩
def bits_Reader_Flag_A : Ann := ⟨[], [], [], [], []⟩
abbrev n_bits_Reader_Flag : Nat := 232

/-! ### (*balise/route.Table).Whose -/
def route_Table_Whose_B0 : CCode :=
 (.seq
 (.ops [
 (sP 16 (.bin .lss .ifc) [.t 15, .t 14])])
 (.seq
 (.cond (.t 16)
 .skip
 (.exit 0))
 (.seq
 (.block 1 (some [0, 1, 13, 14, 15])
 (.seq
 (.ops [
 (sP 17 (.iaddr 1) [.t 13, .t 15]),
 (sH 18 (.load false 1) [.t 17]),
 (sM 6 18)])
 (.seq
 (.ops [
 (sM 19 0),
 (sM 20 6),
 (sP 21 .nchk [.t 20]),
 (sP 22 (.faddr 0) [.t 21]),
 (sH 23 (.load false 1) [.t 22]),
 (sC 24 196 [.t 19, .t 23]),
 (sM 25 1),
 (sC 26 245 [.t 24, .t 25]),
 (sM 7 26)])
 (.seq
 (.ops [
 (sM 27 7),
 (sP 28 (.bin .geq .ifc) [.t 27, .c (.int .i64 0)]),
 (sM 29 28),
 (sG (sM 30 6) 29 true),
 (sG (sP 31 .nchk [.t 30]) 29 true),
 (sG (sP 32 (.faddr 3) [.t 31]) 29 true),
 (sG (sH 33 (.load false 1) [.t 32]) 29 true),
 (sG (sM 34 7) 29 true),
 (sG (sP 35 (.iaddr 1) [.t 33, .t 34]) 29 true),
 (sG (sH 36 (.load false 1) [.t 35]) 29 true),
 (sG (sP 37 (.bin .neq .int) [.t 36, .c (.int .u8 0)]) 29 true),
 (sP 38 .pick [.t 29, .t 37, .c (.bool false)])])
 (.cond (.t 38)
 (.seq
 (.ops [
 (sM 39 6),
 (sP 40 .nchk [.t 39]),
 (sP 41 (.faddr 0) [.t 40]),
 (sH 42 (.load false 1) [.t 41]),
 (sM 4 42)])
 (.ret [4]))
 .skip)))))
 (.ops [
 (sP 43 (.bin .add .ifc) [.t 15, .c (.int .i64 1)]),
 (sM 15 43)]))))
def route_Table_Whose_L0 : CCode := .bloop 0 [0, 1, 13, 14, 15] [] route_Table_Whose_B0
def route_Table_Whose_C : CCode :=
 (.seq
 (.ops [
 (sP 4 .mov [.c (.int .i64 0)])])
 (.seq
 (.seq
 (.ops [
 (sM 8 0),
 (sP 9 (.bin .eql .ptr) [.t 8, .c .nilp])])
 (.cond (.t 9)
 (.seq
 (.ops [
 (sP 4 .mov [.c (.int .i64 (-1))])])
 (.ret [4]))
 .skip))
 (.seq
 (.seq
 (.ops [
 (sM 10 0),
 (sP 11 .nchk [.t 10]),
 (sP 12 (.faddr 11) [.t 11]),
 (sH 13 (.load false 1) [.t 12]),
 (sP 14 .len [.t 13]),
 (sP 15 .mov [.c (.int .i64 0)])])
 route_Table_Whose_L0)
 (.seq
 (.ops [
 (sP 4 .mov [.c (.int .i64 (-1))])])
 (.ret [4])))))
def route_Table_Whose_I : FInfo := ⟨.ref, 2, route_Table_Whose_C, [.tmp 4]⟩
def route_Table_Whose_A : Ann := ⟨[], [], [(0, [0, 1, 13, 14, 15], [])], [(1, [0, 1, 13, 14, 15])], []⟩
abbrev n_route_Table_Whose : Nat := 233

/-! ### (*balise/graph.Graph).Around -/
def graph_Graph_Around_C : CCode :=
 (.seq
 (.ops [
 (sH 3 .boxh [.t 1]),
 (sP 4 .mov [.c .nils])])
 (.seq
 (.ops [
 (sM 11 0),
 (sH 12 (.load true 2) [.t 3]),
 (sC 13 279 [.t 11, .t 12]),
 (sM 10 13),
 (sP 14 (.ext 0) [.t 10]),
 (sP 15 (.ext 1) [.t 10]),
 (sM 5 14),
 (sM 6 15)])
 (.seq
 (.seq
 (.ops [
 (sM 16 6),
 (sP 17 (.un .not) [.t 16])])
 (.cond (.t 17)
 (.seq
 (.ops [
 (sP 4 .mov [.c .nils])])
 (.ret [4]))
 .skip))
 (.seq
 (.ops [
 (sM 18 0),
 (sM 19 5),
 (sC 20 276 [.t 18, .t 19]),
 (sM 7 20)])
 (.seq
 (.seq
 (.ops [
 (sM 21 7),
 (sP 22 (.bin .lss .ifc) [.t 21, .c (.int .i64 0)])])
 (.cond (.t 22)
 (.seq
 (.ops [
 (sM 23 0),
 (sM 24 5),
 (sC 25 225 [.t 23, .t 24]),
 (sP 26 (.mkfn (.func 281) 0) [.t 3]),
 (sC 27 280 [.t 25, .t 26]),
 (sM 8 27)])
 (.seq
 (.seq
 (.ops [
 (sM 28 8),
 (sP 29 .len [.t 28]),
 (sP 30 (.bin .neq .int) [.t 29, .c (.int .i64 1)])])
 (.cond (.t 30)
 (.seq
 (.ops [
 (sP 4 .mov [.c .nils])])
 (.ret [4]))
 .skip))
 (.seq
 (.ops [
 (sM 31 8),
 (sM 4 31)])
 (.ret [4]))))
 .skip))
 (.seq
 (.ops [
 (sM 32 0),
 (sP 33 .nchk [.t 32]),
 (sP 34 (.faddr 0) [.t 33]),
 (sP 35 (.faddr 3) [.t 34]),
 (sH 36 (.load false 1) [.t 35]),
 (sM 37 7),
 (sP 38 (.iaddr 4) [.t 36, .t 37]),
 (sH 39 (.load true 4) [.t 38]),
 (sH 9 (.newl 9 [(.int .i64 0), (.int .i64 0), (.int .i64 0), (.int .i64 0)]) []),
 (sHn (.store 4) [.t 9, .t 39])])
 (.seq
 (.seq
 (.ops [
 (sP 40 (.faddr 0) [.t 3]),
 (sH 41 (.load false 1) [.t 40])])
 (.block 0 (some [])
 (.seq
 (.ops [
 (sP 43 (.faddr 1) [.t 9]),
 (sH 44 (.load false 1) [.t 43]),
 (sP 45 (.bin .eql .int) [.t 41, .t 44]),
 (sM 42 45)])
 (.cond (.t 42)
 (.seq
 (.ops [
 (sM 46 0),
 (sP 47 (.faddr 2) [.t 9]),
 (sH 48 (.load false 1) [.t 47]),
 (sM 49 5),
 (sC 50 283 [.t 46, .t 48, .t 49]),
 (sM 51 0),
 (sP 52 (.faddr 3) [.t 9]),
 (sH 53 (.load false 1) [.t 52]),
 (sM 54 5),
 (sC 55 283 [.t 51, .t 53, .t 54]),
 (sH 56 (.bslF 1 2 [.nils] [(0, 1), (1, 1)]) [.t 50, .t 55]),
 (sC 57 282 [.t 56]),
 (sM 4 57)])
 (.ret [4]))
 (.seq
 (.seq
 (.ops [
 (sP 59 (.faddr 2) [.t 9]),
 (sH 60 (.load false 1) [.t 59]),
 (sP 61 (.bin .eql .int) [.t 41, .t 60]),
 (sM 58 61)])
 (.cond (.t 58)
 .skip
 (.ops [
 (sP 62 (.faddr 3) [.t 9]),
 (sH 63 (.load false 1) [.t 62]),
 (sP 64 (.bin .eql .int) [.t 41, .t 63]),
 (sM 58 64)])))
 (.cond (.t 58)
 (.seq
 (.ops [
 (sM 65 0),
 (sP 66 (.faddr 1) [.t 9]),
 (sH 67 (.load false 1) [.t 66]),
 (sM 68 5),
 (sC 69 283 [.t 65, .t 67, .t 68]),
 (sM 4 69)])
 (.ret [4]))
 .skip))))))
 (.seq
 (.ops [
 (sP 4 .mov [.c .nils])])
 (.ret [4])))))))))
def graph_Graph_Around_I : FInfo := ⟨(.fz false), 2, graph_Graph_Around_C, [.tmp 4]⟩
def graph_Graph_Around_A : Ann := ⟨[3], [], [], [(0, [])], [9]⟩
abbrev n_graph_Graph_Around : Nat := 242

/-! ### slices.IndexFunc[[]balise/api.End,balise/api.End] -/
def slices_IndexFunc_End_B0 : CCode :=
 (.seq
 (.ops [
 (sP 9 (.bin .lss .ifc) [.t 8, .t 7])])
 (.seq
 (.cond (.t 9)
 .skip
 (.exit 0))
 (.seq
 (.block 1 (some [0, 1, 7, 8])
 (.seq
 (.ops [
 (sM 10 8),
 (sM 5 10)])
 (.seq
 (.ops [
 (sM 11 1),
 (sM 12 0),
 (sM 13 5),
 (sP 14 (.iaddr 2) [.t 12, .t 13]),
 (sH 15 (.load true 2) [.t 14]),
 ⟨(some 16), .call, [.t 11, .t 15], none⟩])
 (.cond (.t 16)
 (.seq
 (.ops [
 (sM 17 5),
 (sM 4 17)])
 (.ret [4]))
 .skip))))
 (.ops [
 (sP 18 (.bin .add .ifc) [.t 8, .c (.int .i64 1)]),
 (sM 8 18)]))))
def slices_IndexFunc_End_L0 : CCode := .bloop 0 [0, 1, 7, 8] [] slices_IndexFunc_End_B0
def slices_IndexFunc_End_C : CCode :=
 (.seq
 (.ops [
 (sP 4 .mov [.c (.int .i64 0)])])
 (.seq
 (.seq
 (.ops [
 (sM 6 0),
 (sP 7 .len [.t 6]),
 (sP 8 .mov [.c (.int .i64 0)])])
 slices_IndexFunc_End_L0)
 (.seq
 (.ops [
 (sP 4 .mov [.c (.int .i64 (-1))])])
 (.ret [4]))))
def slices_IndexFunc_End_I : FInfo := ⟨(.fz false), 2, slices_IndexFunc_End_C, [.tmp 4]⟩
def slices_IndexFunc_End_A : Ann := ⟨[], [], [(0, [0, 1, 7, 8], [])], [(1, [0, 1, 7, 8])], []⟩
abbrev n_slices_IndexFunc_End : Nat := 243

/-! ### slices.Compact[[]int,int] -/
def slices_Compact_int_B2 : CCode :=
 (.seq
 (.seq
 (.ops [
 (sM 29 5),
 (sM 30 4),
 (sP 31 .len [.t 30]),
 (sP 32 (.bin .lss .ifc) [.t 29, .t 31])])
 (.cond (.t 32)
 .skip
 (.exit 2)))
 (.seq
 (.block 3 (some [0, 3, 4, 5])
 (.seq
 (.ops [
 (sM 35 4),
 (sM 36 5),
 (sP 37 (.iaddr 1) [.t 35, .t 36]),
 (sH 38 (.load false 1) [.t 37]),
 (sM 39 4),
 (sM 40 5),
 (sP 41 (.bin .sub .ifc) [.t 40, .c (.int .i64 1)]),
 (sP 42 (.iaddr 1) [.t 39, .t 41]),
 (sH 43 (.load false 1) [.t 42]),
 (sP 44 (.bin .neq .int) [.t 38, .t 43])])
 (.cond (.t 44)
 (.seq
 (.ops [
 (sM 45 0),
 (sM 46 3),
 (sM 47 4),
 (sM 48 5),
 (sP 49 (.iaddr 1) [.t 47, .t 48]),
 (sH 50 (.load false 1) [.t 49]),
 (sP 51 (.iaddr 1) [.t 45, .t 46]),
 (sHn (.store 1) [.t 51, .t 50])])
 (.ops [
 (sM 52 3),
 (sP 53 (.bin .add .ifc) [.t 52, .c (.int .i64 1)]),
 (sM 3 53)]))
 .skip)))
 (.ops [
 (sM 33 5),
 (sP 34 (.bin .add .ifc) [.t 33, .c (.int .i64 1)]),
 (sM 5 34)])))
def slices_Compact_int_L2 : CCode := .bloop 2 [0, 3, 4, 5] [0, 3] slices_Compact_int_B2

def slices_Compact_int_B0 : CCode :=
 (.seq
 (.seq
 (.ops [
 (sM 10 3),
 (sM 11 0),
 (sP 12 .len [.t 11]),
 (sP 13 (.bin .lss .ifc) [.t 10, .t 12])])
 (.cond (.t 13)
 .skip
 (.exit 0)))
 (.seq
 (.block 1 (some [0, 3])
 (.seq
 (.ops [
 (sM 16 0),
 (sM 17 3),
 (sP 18 (.iaddr 1) [.t 16, .t 17]),
 (sH 19 (.load false 1) [.t 18]),
 (sM 20 0),
 (sM 21 3),
 (sP 22 (.bin .sub .ifc) [.t 21, .c (.int .i64 1)]),
 (sP 23 (.iaddr 1) [.t 20, .t 22]),
 (sH 24 (.load false 1) [.t 23]),
 (sP 25 (.bin .eql .int) [.t 19, .t 24])])
 (.cond (.t 25)
 (.seq
 (.ops [
 (sM 26 0),
 (sM 27 3),
 (sP 28 (.slc 1 true false) [.t 26, .t 27]),
 (sM 4 28)])
 (.seq
 (.seq
 (.ops [
 (sP 5 .mov [.c (.int .i64 1)])])
 slices_Compact_int_L2)
 (.seq
 (.ops [
 (sM 54 0),
 (sM 55 3),
 (sP 56 (.slc 1 true false) [.t 54, .t 55]),
 (sHn (.clear 1 [(.int .i64 0)]) [.t 56])])
 (.seq
 (.ops [
 (sM 57 0),
 (sM 58 3),
 (sP 59 (.slc 1 false true) [.t 57, .t 58]),
 (sM 2 59)])
 (.ret [2])))))
 .skip)))
 (.ops [
 (sM 14 3),
 (sP 15 (.bin .add .ifc) [.t 14, .c (.int .i64 1)]),
 (sM 3 15)])))
def slices_Compact_int_L0 : CCode := .bloop 0 [0, 3] [0] slices_Compact_int_B0
def slices_Compact_int_C : CCode :=
 (.seq
 (.ops [
 (sP 2 .mov [.c .nils])])
 (.seq
 (.seq
 (.ops [
 (sM 6 0),
 (sP 7 .len [.t 6]),
 (sP 8 (.bin .lss .ifc) [.t 7, .c (.int .i64 2)])])
 (.cond (.t 8)
 (.seq
 (.ops [
 (sM 9 0),
 (sM 2 9)])
 (.ret [2]))
 .skip))
 (.seq
 (.seq
 (.ops [
 (sP 3 .mov [.c (.int .i64 1)])])
 slices_Compact_int_L0)
 (.seq
 (.ops [
 (sM 60 0),
 (sM 2 60)])
 (.ret [2])))))
def slices_Compact_int_I : FInfo := ⟨.ref, 1, slices_Compact_int_C, [.tmp 2]⟩
def slices_Compact_int_A : Ann := ⟨[], [], [(0, [0, 3], [0]), (2, [0, 3, 4, 5], [0, 3])], [(1, [0, 3]), (3, [0, 3, 4, 5])], []⟩
abbrev n_slices_Compact_int : Nat := 248

/-! ### (*balise/route.Table).find$1 -/
def route_Table_find_1_C : CCode :=
 (.seq
 (.ops [
 (sP 3 .mov [.c (.bool false)])])
 (.seq
 (.ops [
 (sM 4 0),
 (sP 5 .nchk [.t 4]),
 (sP 6 (.faddr 0) [.t 5]),
 (sH 7 (.load false 1) [.t 6]),
 (sH 8 (.load false 1) [.t 1]),
 (sP 9 (.bin .eql .int) [.t 7, .t 8]),
 (sM 3 9)])
 (.ret [3])))
def route_Table_find_1_I : FInfo := ⟨.ref, 2, route_Table_find_1_C, [.tmp 3]⟩
def route_Table_find_1_A : Ann := ⟨[], [], [], [], []⟩
abbrev n_route_Table_find_1 : Nat := 251

/-! ### (*balise/graph.Graph).way -/
def graph_Graph_way_B0 : CCode :=
 (.seq
 (.ops [
 (sP 16 (.bin .lss .ifc) [.t 15, .t 14])])
 (.seq
 (.cond (.t 16)
 .skip
 (.exit 0))
 (.seq
 (.block 1 (some [0, 4, 8, 13, 14, 15])
 (.seq
 (.ops [
 (sP 17 (.iaddr 1) [.t 13, .t 15]),
 (sH 18 (.load false 1) [.t 17]),
 (sH 10 (.newh [(.int .i64 0)]) []),
 (sHn (.store 1) [.t 10, .t 18])])
 (.seq
 (.ops [
 (sM 19 0),
 (sH 20 (.load true 2) [.t 4]),
 (sC 21 242 [.t 19, .t 20]),
 (sM 11 21)])
 (.seq
 (.ops [
 (sM 22 11),
 (sP 23 (.mkfn (.func 287) 0) [.t 10]),
 (sC 24 243 [.t 22, .t 23]),
 (sM 12 24)])
 (.seq
 (.seq
 (.ops [
 (sM 25 12),
 (sP 26 (.bin .lss .ifc) [.t 25, .c (.int .i64 0)])])
 (.cond (.t 26)
 (.seq
 (.ops [
 (sP 6 .mov [.c .nils]),
 (sP 7 .mov [.c (.bool false)])])
 (.ret [6, 7]))
 .skip))
 (.seq
 (.ops [
 (sM 27 8),
 (sM 28 0),
 (sH 29 (.load true 2) [.t 4]),
 (sM 30 11),
 (sM 31 12),
 (sP 32 (.iaddr 2) [.t 30, .t 31]),
 (sH 33 (.load true 2) [.t 32]),
 (sC 34 288 [.t 28, .t 29, .t 33]),
 (sH 35 (.app 2 16 [(.int .i64 0), (.bool false)]) [.t 27, .t 34]),
 (sM 8 35)])
 (.ops [
 (sH 36 (.load false 1) [.t 10]),
 (sM 37 11),
 (sM 38 12),
 (sP 39 (.iaddr 2) [.t 37, .t 38]),
 (sP 40 (.faddr 1) [.t 39]),
 (sH 41 (.load false 1) [.t 40]),
 (sP 42 (.bin .sub .ifc) [.c (.int .i64 1), .t 41]),
 (sP 43 (.bld [(.int .i64 0), (.int .i64 0)] [(0, 1), (1, 1)]) [.t 36, .t 42]),
 (sHn (.store 2) [.t 4, .t 43])])))))))
 (.ops [
 (sP 44 (.bin .add .ifc) [.t 15, .c (.int .i64 1)]),
 (sM 15 44)]))))
def graph_Graph_way_L0 : CCode := .bloop 0 [0, 4, 8, 13, 14, 15] [8] graph_Graph_way_B0
def graph_Graph_way_C : CCode :=
 (.seq
 (.ops [
 (sH 4 (.box 4) [.t 1]),
 (sP 6 .mov [.c .nils]),
 (sP 7 .mov [.c (.bool false)])])
 (.seq
 (.ops [
 (sP 8 .mov [.c .nils])])
 (.seq
 (.seq
 (.ops [
 (sM 13 2),
 (sP 14 .len [.t 13]),
 (sP 15 .mov [.c (.int .i64 0)])])
 graph_Graph_way_L0)
 (.seq
 (.ops [
 (sM 45 8),
 (sM 6 45),
 (sP 7 .mov [.c (.bool true)])])
 (.ret [6, 7])))))
def graph_Graph_way_I : FInfo := ⟨(.fz false), 3, graph_Graph_way_C, [.tmp 6, .tmp 7]⟩
def graph_Graph_way_A : Ann := ⟨[10], [], [(0, [0, 4, 8, 13, 14, 15], [8])], [(1, [0, 4, 8, 13, 14, 15])], [4]⟩
abbrev n_graph_Graph_way : Nat := 253

/-! ### (*balise/graph.Graph).node -/
def graph_Graph_node_C : CCode :=
 (.seq
 (.ops [
 (sH 3 (.box 3) [.t 1]),
 (sP 4 .mov [.c (.int .i64 0)]),
 (sP 5 .mov [.c (.bool false)])])
 (.seq
 (.ops [
 (sM 9 0),
 (sP 10 (.faddr 0) [.t 3]),
 (sH 11 (.load false 1) [.t 10]),
 (sC 12 275 [.t 9, .t 11]),
 (sM 8 12),
 (sP 13 (.ext 0) [.t 8]),
 (sP 14 (.ext 1) [.t 8]),
 (sH 6 (.newl 6 [(.int .i64 0), (.int .i64 0), (.int .i64 0)]) []),
 (sHn (.store 3) [.t 6, .t 13]),
 (sM 7 14)])
 (.seq
 (.block 0 (some [])
 (.seq
 (.ops [
 (sM 16 7),
 (sM 17 16),
 (sG (sP 18 (.faddr 1) [.t 3]) 17 true),
 (sG (sH 19 (.load false 1) [.t 18]) 17 true),
 (sG (sP 20 (.bin .eql .int) [.t 19, .c (.int .i64 0)]) 17 true),
 (sP 21 .pick [.t 17, .t 20, .c (.bool false)]),
 (sM 15 21)])
 (.cond (.t 15)
 (.seq
 (.ops [
 (sP 22 (.faddr 1) [.t 6]),
 (sH 23 (.load false 1) [.t 22]),
 (sM 4 23),
 (sP 5 .mov [.c (.bool true)])])
 (.ret [4, 5]))
 (.seq
 (.ops [
 (sM 25 7),
 (sM 26 25),
 (sG (sP 27 (.faddr 1) [.t 3]) 26 true),
 (sG (sH 28 (.load false 1) [.t 27]) 26 true),
 (sG (sP 29 (.bin .eql .int) [.t 28, .c (.int .i64 1)]) 26 true),
 (sP 30 .pick [.t 26, .t 29, .c (.bool false)]),
 (sM 24 30)])
 (.cond (.t 24)
 (.seq
 (.ops [
 (sP 31 (.faddr 2) [.t 6]),
 (sH 32 (.load false 1) [.t 31]),
 (sM 4 32),
 (sP 5 .mov [.c (.bool true)])])
 (.ret [4, 5]))
 .skip)))))
 (.seq
 (.ops [
 (sP 4 .mov [.c (.int .i64 0)]),
 (sP 5 .mov [.c (.bool false)])])
 (.ret [4, 5])))))
def graph_Graph_node_I : FInfo := ⟨(.fz false), 2, graph_Graph_node_C, [.tmp 4, .tmp 5]⟩
def graph_Graph_node_A : Ann := ⟨[], [], [], [(0, [])], [3, 6]⟩
abbrev n_graph_Graph_node : Nat := 279

/-! ### slices.DeleteFunc[[]balise/api.End,balise/api.End] -/
def slices_DeleteFunc_End_B0 : CCode :=
 (.seq
 (.seq
 (.ops [
 (sM 16 6),
 (sM 17 0),
 (sP 18 .len [.t 17]),
 (sP 19 (.bin .lss .ifc) [.t 16, .t 18])])
 (.cond (.t 19)
 .skip
 (.exit 0)))
 (.seq
 (.block 1 (some [0, 1, 5, 6])
 (.seq
 (.ops [
 (sM 22 0),
 (sM 23 6),
 (sP 24 (.iaddr 2) [.t 22, .t 23]),
 (sH 25 (.load true 2) [.t 24]),
 (sH 7 (.newl 7 [(.int .i64 0), (.int .i64 0)]) []),
 (sHn (.store 2) [.t 7, .t 25])])
 (.seq
 (.ops [
 (sM 26 1),
 (sH 27 (.load true 2) [.t 7]),
 ⟨(some 28), .call, [.t 26, .t 27], none⟩,
 (sP 29 (.un .not) [.t 28])])
 (.cond (.t 29)
 (.seq
 (.ops [
 (sM 30 0),
 (sM 31 5),
 (sH 32 (.load true 2) [.t 7]),
 (sP 33 (.iaddr 2) [.t 30, .t 31]),
 (sHn (.store 2) [.t 33, .t 32])])
 (.ops [
 (sM 34 5),
 (sP 35 (.bin .add .ifc) [.t 34, .c (.int .i64 1)]),
 (sM 5 35)]))
 .skip))))
 (.ops [
 (sM 20 6),
 (sP 21 (.bin .add .ifc) [.t 20, .c (.int .i64 1)]),
 (sM 6 21)])))
def slices_DeleteFunc_End_L0 : CCode := .bloop 0 [0, 1, 5, 6] [0, 5] slices_DeleteFunc_End_B0
def slices_DeleteFunc_End_C : CCode :=
 (.seq
 (.ops [
 (sP 4 .mov [.c .nils])])
 (.seq
 (.ops [
 (sM 8 0),
 (sM 9 1),
 (sC 10 243 [.t 8, .t 9]),
 (sM 5 10)])
 (.seq
 (.seq
 (.ops [
 (sM 11 5),
 (sP 12 (.bin .eql .int) [.t 11, .c (.int .i64 (-1))])])
 (.cond (.t 12)
 (.seq
 (.ops [
 (sM 13 0),
 (sM 4 13)])
 (.ret [4]))
 .skip))
 (.seq
 (.seq
 (.ops [
 (sM 14 5),
 (sP 15 (.bin .add .ifc) [.t 14, .c (.int .i64 1)]),
 (sM 6 15)])
 slices_DeleteFunc_End_L0)
 (.seq
 (.ops [
 (sM 36 0),
 (sM 37 5),
 (sP 38 (.slc 2 true false) [.t 36, .t 37]),
 (sHn (.clear 2 [(.int .i64 0), (.int .i64 0)]) [.t 38])])
 (.seq
 (.ops [
 (sM 39 0),
 (sM 40 5),
 (sP 41 (.slc 2 false true) [.t 39, .t 40]),
 (sM 4 41)])
 (.ret [4])))))))
def slices_DeleteFunc_End_I : FInfo := ⟨.ref, 2, slices_DeleteFunc_End_C, [.tmp 4]⟩
def slices_DeleteFunc_End_A : Ann := ⟨[], [], [(0, [0, 1, 5, 6], [0, 5])], [(1, [0, 1, 5, 6])], [7]⟩
abbrev n_slices_DeleteFunc_End : Nat := 280

/-! ### (*balise/graph.Graph).Around$1 -/
def graph_Graph_Around_1_C : CCode :=
 (.seq
 (.ops [
 (sH 2 (.box 2) [.t 0]),
 (sP 3 .mov [.c (.bool false)])])
 (.seq
 (.ops [
 (sH 4 (.load true 2) [.t 2]),
 (sH 5 (.load true 2) [.t 1]),
 (sP 6 (.bin .eql (.parts [(0, false, 1, .int), (1, false, 1, .int)])) [.t 4, .t 5]),
 (sM 3 6)])
 (.ret [3])))
def graph_Graph_Around_1_I : FInfo := ⟨(.fz false), 2, graph_Graph_Around_1_C, [.tmp 3]⟩
def graph_Graph_Around_1_A : Ann := ⟨[], [], [], [], [2]⟩
abbrev n_graph_Graph_Around_1 : Nat := 281

/-! ### slices.Concat[[]balise/api.End,balise/api.End] -/
def slices_Concat_End_B0 : CCode :=
 (.seq
 (.ops [
 (sP 12 (.bin .lss .ifc) [.t 11, .t 10])])
 (.seq
 (.cond (.t 12)
 .skip
 (.exit 0))
 (.seq
 (.block 1 (some [0, 3, 9, 10, 11])
 (.seq
 (.ops [
 (sP 13 (.iaddr 1) [.t 9, .t 11]),
 (sH 14 (.load false 1) [.t 13]),
 (sM 5 14)])
 (.seq
 (.ops [
 (sM 15 3),
 (sM 16 5),
 (sP 17 .len [.t 16]),
 (sP 18 (.bin .add .ifc) [.t 15, .t 17]),
 (sM 3 18)])
 (.seq
 (.ops [
 (sM 19 3),
 (sP 20 (.bin .lss .ifc) [.t 19, .c (.int .i64 0)])])
 (.cond (.t 20)
 bad
 .skip)))))
 (.ops [
 (sP 22 (.bin .add .ifc) [.t 11, .c (.int .i64 1)]),
 (sM 11 22)]))))
def slices_Concat_End_L0 : CCode := .bloop 0 [0, 3, 9, 10, 11] [0, 3] slices_Concat_End_B0

def slices_Concat_End_B2 : CCode :=
 (.seq
 (.ops [
 (sP 28 (.bin .lss .ifc) [.t 27, .t 26])])
 (.seq
 (.cond (.t 28)
 .skip
 (.exit 2))
 (.seq
 (.block 3 (some [6, 25, 26, 27])
 (.seq
 (.ops [
 (sP 29 (.iaddr 1) [.t 25, .t 27]),
 (sH 30 (.load false 1) [.t 29]),
 (sM 8 30)])
 (.ops [
 (sM 31 6),
 (sM 32 8),
 (sH 33 (.app 2 16 [(.int .i64 0), (.int .i64 0)]) [.t 31, .t 32]),
 (sM 6 33)])))
 (.ops [
 (sP 34 (.bin .add .ifc) [.t 27, .c (.int .i64 1)]),
 (sM 27 34)]))))
def slices_Concat_End_L2 : CCode := .bloop 2 [6, 25, 26, 27] [6] slices_Concat_End_B2
def slices_Concat_End_C : CCode :=
 (.seq
 (.ops [
 (sP 2 .mov [.c .nils])])
 (.seq
 (.ops [
 (sP 3 .mov [.c (.int .i64 0)])])
 (.seq
 (.seq
 (.ops [
 (sM 9 0),
 (sP 10 .len [.t 9]),
 (sP 11 .mov [.c (.int .i64 0)])])
 slices_Concat_End_L0)
 (.seq
 (.ops [
 (sM 23 3),
 (sC 24 308 [.c .nils, .t 23]),
 (sM 6 24)])
 (.seq
 (.seq
 (.ops [
 (sM 25 0),
 (sP 26 .len [.t 25]),
 (sP 27 .mov [.c (.int .i64 0)])])
 slices_Concat_End_L2)
 (.seq
 (.ops [
 (sM 35 6),
 (sM 2 35)])
 (.ret [2])))))))
def slices_Concat_End_I : FInfo := ⟨(.fz false), 1, slices_Concat_End_C, [.tmp 2]⟩
def slices_Concat_End_A : Ann := ⟨[], [], [(0, [0, 3, 9, 10, 11], [0, 3]), (2, [6, 25, 26, 27], [6])], [(1, [0, 3, 9, 10, 11]), (3, [6, 25, 26, 27])], []⟩
abbrev n_slices_Concat_End : Nat := 282

/-! ### (*balise/graph.Graph).at -/
def graph_Graph_at_B0 : CCode :=
 (.seq
 (.ops [
 (sP 14 (.bin .lss .ifc) [.t 13, .t 12])])
 (.seq
 (.cond (.t 14)
 .skip
 (.exit 0))
 (.seq
 (.block 1 (some [1, 11, 12, 13])
 (.seq
 (.ops [
 (sP 15 (.iaddr 2) [.t 11, .t 13]),
 (sH 16 (.load true 2) [.t 15]),
 (sH 8 (.newl 8 [(.int .i64 0), (.int .i64 0)]) []),
 (sHn (.store 2) [.t 8, .t 16])])
 (.seq
 (.ops [
 (sP 17 (.faddr 0) [.t 8]),
 (sH 18 (.load false 1) [.t 17]),
 (sM 19 1),
 (sP 20 (.bin .eql .int) [.t 18, .t 19])])
 (.cond (.t 20)
 (.seq
 (.ops [
 (sH 21 (.load true 2) [.t 8]),
 (sH 22 (.bslF 2 1 [(.int .i64 0), (.int .i64 0)] [(0, 2)]) [.t 21]),
 (sM 6 22)])
 (.ret [6]))
 .skip))))
 (.ops [
 (sP 23 (.bin .add .ifc) [.t 13, .c (.int .i64 1)]),
 (sM 13 23)]))))
def graph_Graph_at_L0 : CCode := .bloop 0 [1, 11, 12, 13] [] graph_Graph_at_B0
def graph_Graph_at_C : CCode :=
 (.seq
 (.ops [
 (sP 6 .mov [.c .nils])])
 (.seq
 (.seq
 (.ops [
 (sM 9 0),
 (sM 10 2),
 (sC 11 225 [.t 9, .t 10]),
 (sP 12 .len [.t 11]),
 (sP 13 .mov [.c (.int .i64 0)])])
 graph_Graph_at_L0)
 (.seq
 (.ops [
 (sP 6 .mov [.c .nils])])
 (.ret [6]))))
def graph_Graph_at_I : FInfo := ⟨(.fz false), 3, graph_Graph_at_C, [.tmp 6]⟩
def graph_Graph_at_A : Ann := ⟨[], [], [(0, [1, 11, 12, 13], [])], [(1, [1, 11, 12, 13])], [8]⟩
abbrev n_graph_Graph_at : Nat := 283

/-! ### (*balise/graph.Graph).way$1 -/
def graph_Graph_way_1_C : CCode :=
 (.seq
 (.ops [
 (sH 2 (.box 2) [.t 0]),
 (sP 3 .mov [.c (.bool false)])])
 (.seq
 (.ops [
 (sP 4 (.faddr 0) [.t 2]),
 (sH 5 (.load false 1) [.t 4]),
 (sH 6 (.load false 1) [.t 1]),
 (sP 7 (.bin .eql .int) [.t 5, .t 6]),
 (sM 3 7)])
 (.ret [3])))
def graph_Graph_way_1_I : FInfo := ⟨(.fz false), 2, graph_Graph_way_1_C, [.tmp 3]⟩
def graph_Graph_way_1_A : Ann := ⟨[], [], [], [], [2]⟩
abbrev n_graph_Graph_way_1 : Nat := 287

/-! ### (*balise/graph.Graph).need -/
def graph_Graph_need_C : CCode :=
 (.seq
 (.ops [
 (sH 4 (.box 4) [.t 1]),
 (sH 5 (.box 5) [.t 2]),
 (sP 6 .mov [.c .nils])])
 (.seq
 (.ops [
 (sM 12 0),
 (sH 13 (.load true 2) [.t 4]),
 (sC 14 279 [.t 12, .t 13]),
 (sM 11 14),
 (sP 15 (.ext 0) [.t 11]),
 (sP 16 (.ext 1) [.t 11]),
 (sM 7 15),
 (sM 8 16)])
 (.seq
 (.ops [
 (sM 17 0),
 (sM 18 7),
 (sC 19 276 [.t 17, .t 18]),
 (sM 9 19)])
 (.seq
 (.seq
 (.ops [
 (sM 20 9),
 (sP 21 (.bin .lss .ifc) [.t 20, .c (.int .i64 0)])])
 (.cond (.t 21)
 (.seq
 (.ops [
 (sP 6 .mov [.c .nils])])
 (.ret [6]))
 .skip))
 (.seq
 (.ops [
 (sP 22 (.faddr 0) [.t 5]),
 (sH 23 (.load false 1) [.t 22]),
 (sM 10 23)])
 (.seq
 (.seq
 (.ops [
 (sM 24 0),
 (sP 25 .nchk [.t 24]),
 (sP 26 (.faddr 0) [.t 25]),
 (sP 27 (.faddr 3) [.t 26]),
 (sH 28 (.load false 1) [.t 27]),
 (sM 29 9),
 (sP 30 (.iaddr 4) [.t 28, .t 29]),
 (sP 31 (.faddr 1) [.t 30]),
 (sH 32 (.load false 1) [.t 31]),
 (sM 33 10),
 (sP 34 (.bin .eql .int) [.t 32, .t 33])])
 (.cond (.t 34)
 (.ops [
 (sP 35 (.faddr 0) [.t 4]),
 (sH 36 (.load false 1) [.t 35]),
 (sM 10 36)])
 .skip))
 (.seq
 (.ops [
 (sM 37 9),
 (sM 38 0),
 (sP 39 .nchk [.t 38]),
 (sP 40 (.faddr 0) [.t 39]),
 (sP 41 (.faddr 3) [.t 40]),
 (sH 42 (.load false 1) [.t 41]),
 (sM 43 9),
 (sP 44 (.iaddr 4) [.t 42, .t 43]),
 (sP 45 (.faddr 3) [.t 44]),
 (sH 46 (.load false 1) [.t 45]),
 (sM 47 10),
 (sP 48 (.bin .eql .int) [.t 46, .t 47]),
 (sP 49 (.bld [(.int .i64 0), (.bool false)] [(0, 1), (1, 1)]) [.t 37, .t 48]),
 (sH 50 (.bslF 2 1 [(.int .i64 0), (.bool false)] [(0, 2)]) [.t 49]),
 (sM 6 50)])
 (.ret [6]))))))))
def graph_Graph_need_I : FInfo := ⟨(.fz false), 3, graph_Graph_need_C, [.tmp 6]⟩
def graph_Graph_need_A : Ann := ⟨[], [], [], [], [4, 5]⟩
abbrev n_graph_Graph_need : Nat := 288

/-! ### (*balise/graph.Graph).Point$1 -/
def graph_Graph_Point_1_C : CCode :=
 (.seq
 (.ops [
 (sH 2 (.box 2) [.t 0]),
 (sP 3 .mov [.c (.bool false)])])
 (.seq
 (.ops [
 (sP 4 (.faddr 0) [.t 2]),
 (sH 5 (.load false 1) [.t 4]),
 (sH 6 (.load false 1) [.t 1]),
 (sP 7 (.bin .eql .int) [.t 5, .t 6]),
 (sM 3 7)])
 (.ret [3])))
def graph_Graph_Point_1_I : FInfo := ⟨(.fz false), 2, graph_Graph_Point_1_C, [.tmp 3]⟩
def graph_Graph_Point_1_A : Ann := ⟨[], [], [], [], [2]⟩
abbrev n_graph_Graph_Point_1 : Nat := 305

/-! ### slices.Grow[[]balise/api.End,balise/api.End] -/
def slices_Grow_End_C : CCode :=
 (.seq
 (.ops [
 (sP 4 .mov [.c .nils])])
 (.seq
 (.seq
 (.ops [
 (sM 5 1),
 (sP 6 (.bin .lss .ifc) [.t 5, .c (.int .i64 0)])])
 (.cond (.t 6)
 bad
 .skip))
 (.seq
 (.seq
 (.ops [
 (sM 8 1),
 (sM 9 0),
 (sP 10 .cap [.t 9]),
 (sM 11 0),
 (sP 12 .len [.t 11]),
 (sP 13 (.bin .sub .ifc) [.t 10, .t 12]),
 (sP 14 (.bin .sub .ifc) [.t 8, .t 13]),
 (sM 1 14)])
 (.seq
 (.ops [
 (sM 15 1),
 (sP 16 (.bin .gtr .ifc) [.t 15, .c (.int .i64 0)])])
 (.cond (.t 16)
 (.ops [
 (sM 17 0),
 (sM 18 0),
 (sP 19 .cap [.t 18]),
 (sP 20 (.slc 2 false true) [.t 17, .t 19]),
 (sM 21 1),
 (sH 22 (.appz 2 16 [(.int .i64 0), (.int .i64 0)]) [.t 20, .t 21]),
 (sM 23 0),
 (sP 24 .len [.t 23]),
 (sP 25 (.slc 2 false true) [.t 22, .t 24]),
 (sM 0 25)])
 .skip)))
 (.seq
 (.ops [
 (sM 26 0),
 (sM 4 26)])
 (.ret [4])))))
def slices_Grow_End_I : FInfo := ⟨.ref, 2, slices_Grow_End_C, [.tmp 4]⟩
def slices_Grow_End_A : Ann := ⟨[], [], [], [], []⟩
abbrev n_slices_Grow_End : Nat := 308

end Go.Proofs.YtkpechngfcaiiaaGreatDoor.Zt
